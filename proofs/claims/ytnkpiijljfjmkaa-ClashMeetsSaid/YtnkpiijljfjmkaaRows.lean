/-
  No cell of these rows narrows 'for every input' (looked for: loops, veiled, ifaces, maps, wideKeys, modest, calm, conditions, laid).
  DERIVED. THE GIVEN ROWS OF THIS SEAT. 7 by the template 'for every input the law returns true; each argument reads behind the call as it read before'; 0 by the template 'total and deterministic' (their statements: YtnkpiijljfjmkaaTotals.lean).
  GIVEN WITH THE SEED: the statements are not yours to turn. If you find one false, say at which input.
  Laid BY PROGRAM, IN A SANDBOX (cutbox-rows.mjs): the forced cells as the released guide's own fill.sh prints them over the translation be48af24413038ef… (all of the seat's roots in one cut). By AI agents, Wed Nov 11 2026. No macro, syntax, notation, axiom, sorry.
-/
import Derived.Test.YtnkpiijljfjmkaaChecked
import GoSem.Claim
import GoSem.ClaimJoined
import GoSem.ClaimMapViews
import Derived.JoinedTies
import Derived.KernelRfl
namespace Go.Proofs.Ytnkpiijljfjmkaa
/- THE CELL 'sum', in the pinned program and in every row, IS THE sha256 OF THE DUMP (.gsa) THAT YtnkpiijljfjmkaaProg.lean LOADS. Nothing in Lean hashes anything: it is a label: what it is worth is what the hold of that sum in a sandbox is worth. -/
noncomputable def Try.pinned : Pinned := { name := "ytnkpiijljfjmkaa", sum := "be48af24413038eff8e67f71a411cefc82b82e54313f33ad255f738e6cb47611", checked := Try.checked }
namespace Rows
def none {H : Type} : Left H := { results := [], args := [] }

/-- 'semaphorelaw10.ClashWhys': WHATEVER THE INPUT: true; the input reads as it did. -/
def clashWhysSpec : ChangeSpec := { name := "clashWhys", fn := fun _ => fun
  | [d1, d2, d3] => { results := [.lit (.bool true)], args := [d1, d2, d3] }
  | _ => none }
def clashWhysRow : OpenClaim := { program := "ytnkpiijljfjmkaa", sum := "be48af24413038eff8e67f71a411cefc82b82e54313f33ad255f738e6cb47611", func := "semaphore/semaphorelaw10.ClashWhys", spec := "clashWhys", unfollowed := true, recurses := true, plainKeys := false, apart := false }
def ClashWhysSaid : Prop := clashWhysRow.holds Try.pinned (OpenSpec.ofChange clashWhysSpec)

/-- ITS FALSE NEIGHBOUR: 'it returns false'. Refute it at one input. -/
def clashWhysWrong : ChangeSpec := { name := "clashWhys", fn := fun _ => fun
  | [d1, d2, d3] => { results := [.lit (.bool false)], args := [d1, d2, d3] }
  | _ => none }
def ClashWhysWrongFalsely : Prop := clashWhysRow.holds Try.pinned (OpenSpec.ofChange clashWhysWrong)

/-- 'semaphorelaw10.ClashAny': WHATEVER THE INPUT: true; the input reads as it did. -/
def clashAnySpec : ChangeSpec := { name := "clashAny", fn := fun _ => fun
  | [d1, d2, d3] => { results := [.lit (.bool true)], args := [d1, d2, d3] }
  | _ => none }
def clashAnyRow : OpenClaim := { program := "ytnkpiijljfjmkaa", sum := "be48af24413038eff8e67f71a411cefc82b82e54313f33ad255f738e6cb47611", func := "semaphore/semaphorelaw10.ClashAny", spec := "clashAny", unfollowed := true, recurses := true, plainKeys := false, apart := false }
def ClashAnySaid : Prop := clashAnyRow.holds Try.pinned (OpenSpec.ofChange clashAnySpec)

/-- ITS FALSE NEIGHBOUR: 'it returns false'. Refute it at one input. -/
def clashAnyWrong : ChangeSpec := { name := "clashAny", fn := fun _ => fun
  | [d1, d2, d3] => { results := [.lit (.bool false)], args := [d1, d2, d3] }
  | _ => none }
def ClashAnyWrongFalsely : Prop := clashAnyRow.holds Try.pinned (OpenSpec.ofChange clashAnyWrong)

/-- 'semaphorelaw10.ClashBoth': WHATEVER THE INPUT: true; the input reads as it did. -/
def clashBothSpec : ChangeSpec := { name := "clashBoth", fn := fun _ => fun
  | [d1, d2, d3] => { results := [.lit (.bool true)], args := [d1, d2, d3] }
  | _ => none }
def clashBothRow : OpenClaim := { program := "ytnkpiijljfjmkaa", sum := "be48af24413038eff8e67f71a411cefc82b82e54313f33ad255f738e6cb47611", func := "semaphore/semaphorelaw10.ClashBoth", spec := "clashBoth", unfollowed := true, recurses := true, plainKeys := false, apart := false }
def ClashBothSaid : Prop := clashBothRow.holds Try.pinned (OpenSpec.ofChange clashBothSpec)

/-- ITS FALSE NEIGHBOUR: 'it returns false'. Refute it at one input. -/
def clashBothWrong : ChangeSpec := { name := "clashBoth", fn := fun _ => fun
  | [d1, d2, d3] => { results := [.lit (.bool false)], args := [d1, d2, d3] }
  | _ => none }
def ClashBothWrongFalsely : Prop := clashBothRow.holds Try.pinned (OpenSpec.ofChange clashBothWrong)

/-- 'semaphorelaw10.ClashMeets': WHATEVER THE INPUT: true; the input reads as it did. -/
def clashMeetsSpec : ChangeSpec := { name := "clashMeets", fn := fun _ => fun
  | [d1, d2, d3] => { results := [.lit (.bool true)], args := [d1, d2, d3] }
  | _ => none }
def clashMeetsRow : OpenClaim := { program := "ytnkpiijljfjmkaa", sum := "be48af24413038eff8e67f71a411cefc82b82e54313f33ad255f738e6cb47611", func := "semaphore/semaphorelaw10.ClashMeets", spec := "clashMeets", unfollowed := true, recurses := true, plainKeys := false, apart := false }
def ClashMeetsSaid : Prop := clashMeetsRow.holds Try.pinned (OpenSpec.ofChange clashMeetsSpec)

/-- ITS FALSE NEIGHBOUR: 'it returns false'. Refute it at one input. -/
def clashMeetsWrong : ChangeSpec := { name := "clashMeets", fn := fun _ => fun
  | [d1, d2, d3] => { results := [.lit (.bool false)], args := [d1, d2, d3] }
  | _ => none }
def ClashMeetsWrongFalsely : Prop := clashMeetsRow.holds Try.pinned (OpenSpec.ofChange clashMeetsWrong)

/-- 'semaphorelaw10.ClashHeld': WHATEVER THE INPUT: true; the input reads as it did. -/
def clashHeldSpec : ChangeSpec := { name := "clashHeld", fn := fun _ => fun
  | [d1, d2, d3] => { results := [.lit (.bool true)], args := [d1, d2, d3] }
  | _ => none }
def clashHeldRow : OpenClaim := { program := "ytnkpiijljfjmkaa", sum := "be48af24413038eff8e67f71a411cefc82b82e54313f33ad255f738e6cb47611", func := "semaphore/semaphorelaw10.ClashHeld", spec := "clashHeld", unfollowed := true, recurses := true, plainKeys := false, apart := false }
def ClashHeldSaid : Prop := clashHeldRow.holds Try.pinned (OpenSpec.ofChange clashHeldSpec)

/-- ITS FALSE NEIGHBOUR: 'it returns false'. Refute it at one input. -/
def clashHeldWrong : ChangeSpec := { name := "clashHeld", fn := fun _ => fun
  | [d1, d2, d3] => { results := [.lit (.bool false)], args := [d1, d2, d3] }
  | _ => none }
def ClashHeldWrongFalsely : Prop := clashHeldRow.holds Try.pinned (OpenSpec.ofChange clashHeldWrong)

/-- 'semaphorelaw10.ClashFollow': WHATEVER THE INPUT: true; the input reads as it did. -/
def clashFollowSpec : ChangeSpec := { name := "clashFollow", fn := fun _ => fun
  | [d1, d2, d3] => { results := [.lit (.bool true)], args := [d1, d2, d3] }
  | _ => none }
def clashFollowRow : OpenClaim := { program := "ytnkpiijljfjmkaa", sum := "be48af24413038eff8e67f71a411cefc82b82e54313f33ad255f738e6cb47611", func := "semaphore/semaphorelaw10.ClashFollow", spec := "clashFollow", unfollowed := true, recurses := true, plainKeys := false, apart := false }
def ClashFollowSaid : Prop := clashFollowRow.holds Try.pinned (OpenSpec.ofChange clashFollowSpec)

/-- ITS FALSE NEIGHBOUR: 'it returns false'. Refute it at one input. -/
def clashFollowWrong : ChangeSpec := { name := "clashFollow", fn := fun _ => fun
  | [d1, d2, d3] => { results := [.lit (.bool false)], args := [d1, d2, d3] }
  | _ => none }
def ClashFollowWrongFalsely : Prop := clashFollowRow.holds Try.pinned (OpenSpec.ofChange clashFollowWrong)

/-- 'semaphorelaw10.ClashAlls': WHATEVER THE INPUT: true; the input reads as it did. -/
def clashAllsSpec : ChangeSpec := { name := "clashAlls", fn := fun _ => fun
  | [d1, d2] => { results := [.lit (.bool true)], args := [d1, d2] }
  | _ => none }
def clashAllsRow : OpenClaim := { program := "ytnkpiijljfjmkaa", sum := "be48af24413038eff8e67f71a411cefc82b82e54313f33ad255f738e6cb47611", func := "semaphore/semaphorelaw10.ClashAlls", spec := "clashAlls", unfollowed := true, recurses := true, plainKeys := false, apart := false }
def ClashAllsSaid : Prop := clashAllsRow.holds Try.pinned (OpenSpec.ofChange clashAllsSpec)

/-- ITS FALSE NEIGHBOUR: 'it returns false'. Refute it at one input. -/
def clashAllsWrong : ChangeSpec := { name := "clashAlls", fn := fun _ => fun
  | [d1, d2] => { results := [.lit (.bool false)], args := [d1, d2] }
  | _ => none }
def ClashAllsWrongFalsely : Prop := clashAllsRow.holds Try.pinned (OpenSpec.ofChange clashAllsWrong)

/- THE SECOND FORM. 'bulk': how many values and letters a reading holds, each counted each time it is reached (what is shared counts as often as it is met; a slice's spare places count too). A statement '..UptoSaid' is the law's where the arguments, and the package variables that the reading takes, are together of bulk at most 1048576: NARROWER than '..Said'. Prove '..Said' where nothing that the law and all that it calls make is longer than what came in: it says more and counts as full. Else prove '..UptoSaid'. A law counts once. -/
mutual
def uptoBulk {H : Type} : DataW H → Nat
  | .lit (.string bytes) => bytes.length + 1
  | .lit _ => 1
  | .nil => 1
  | .ptr d => uptoBulk d + 1
  | .slice elems spare => uptoBulkAll elems + uptoBulkAll spare + 1
  | .agg parts => uptoBulkAll parts + 1
  | .iface _ d => uptoBulk d + 1
  | .map entries => uptoBulkEntries entries + 1
  | .held _ => 1
def uptoBulkAll {H : Type} : List (DataW H) → Nat
  | [] => 0
  | d :: r => uptoBulk d + uptoBulkAll r
def uptoBulkEntries {H : Type} : List (Lit × DataW H) → Nat
  | [] => 0
  | x :: r => uptoBulkEntry x + uptoBulkEntries r
def uptoBulkEntry {H : Type} : Lit × DataW H → Nat
  | (.string bytes, d) => bytes.length + uptoBulk d + 1
  | (_, d) => uptoBulk d + 1
 end
def uptoSmall : (H : Type) → List (DataW H) → Bool := fun _ ds => decide (uptoBulkAll ds ≤ 1048576)
def OpenSpec.upto (s : _root_.Go.ChangeSpec) : _root_.Go.OpenSpec := { _root_.Go.OpenSpec.ofChange s with cond := some uptoSmall }

/-- 'semaphorelaw10.ClashWhys', WHERE WHAT IT READS IS OF BULK AT MOST 1048576: true; the input reads as it did. -/
def clashWhysUptoRow : OpenClaim := { program := "ytnkpiijljfjmkaa", sum := "be48af24413038eff8e67f71a411cefc82b82e54313f33ad255f738e6cb47611", func := "semaphore/semaphorelaw10.ClashWhys", spec := "clashWhys", unfollowed := true, recurses := true, plainKeys := false, apart := false, narrowed := true }
def ClashWhysUptoSaid : Prop := clashWhysUptoRow.holds Try.pinned (OpenSpec.upto clashWhysSpec)

/-- 'semaphorelaw10.ClashAny', WHERE WHAT IT READS IS OF BULK AT MOST 1048576: true; the input reads as it did. -/
def clashAnyUptoRow : OpenClaim := { program := "ytnkpiijljfjmkaa", sum := "be48af24413038eff8e67f71a411cefc82b82e54313f33ad255f738e6cb47611", func := "semaphore/semaphorelaw10.ClashAny", spec := "clashAny", unfollowed := true, recurses := true, plainKeys := false, apart := false, narrowed := true }
def ClashAnyUptoSaid : Prop := clashAnyUptoRow.holds Try.pinned (OpenSpec.upto clashAnySpec)

/-- 'semaphorelaw10.ClashBoth', WHERE WHAT IT READS IS OF BULK AT MOST 1048576: true; the input reads as it did. -/
def clashBothUptoRow : OpenClaim := { program := "ytnkpiijljfjmkaa", sum := "be48af24413038eff8e67f71a411cefc82b82e54313f33ad255f738e6cb47611", func := "semaphore/semaphorelaw10.ClashBoth", spec := "clashBoth", unfollowed := true, recurses := true, plainKeys := false, apart := false, narrowed := true }
def ClashBothUptoSaid : Prop := clashBothUptoRow.holds Try.pinned (OpenSpec.upto clashBothSpec)

/-- 'semaphorelaw10.ClashMeets', WHERE WHAT IT READS IS OF BULK AT MOST 1048576: true; the input reads as it did. -/
def clashMeetsUptoRow : OpenClaim := { program := "ytnkpiijljfjmkaa", sum := "be48af24413038eff8e67f71a411cefc82b82e54313f33ad255f738e6cb47611", func := "semaphore/semaphorelaw10.ClashMeets", spec := "clashMeets", unfollowed := true, recurses := true, plainKeys := false, apart := false, narrowed := true }
def ClashMeetsUptoSaid : Prop := clashMeetsUptoRow.holds Try.pinned (OpenSpec.upto clashMeetsSpec)

/-- 'semaphorelaw10.ClashHeld', WHERE WHAT IT READS IS OF BULK AT MOST 1048576: true; the input reads as it did. -/
def clashHeldUptoRow : OpenClaim := { program := "ytnkpiijljfjmkaa", sum := "be48af24413038eff8e67f71a411cefc82b82e54313f33ad255f738e6cb47611", func := "semaphore/semaphorelaw10.ClashHeld", spec := "clashHeld", unfollowed := true, recurses := true, plainKeys := false, apart := false, narrowed := true }
def ClashHeldUptoSaid : Prop := clashHeldUptoRow.holds Try.pinned (OpenSpec.upto clashHeldSpec)

/-- 'semaphorelaw10.ClashFollow', WHERE WHAT IT READS IS OF BULK AT MOST 1048576: true; the input reads as it did. -/
def clashFollowUptoRow : OpenClaim := { program := "ytnkpiijljfjmkaa", sum := "be48af24413038eff8e67f71a411cefc82b82e54313f33ad255f738e6cb47611", func := "semaphore/semaphorelaw10.ClashFollow", spec := "clashFollow", unfollowed := true, recurses := true, plainKeys := false, apart := false, narrowed := true }
def ClashFollowUptoSaid : Prop := clashFollowUptoRow.holds Try.pinned (OpenSpec.upto clashFollowSpec)

/-- 'semaphorelaw10.ClashAlls', WHERE WHAT IT READS IS OF BULK AT MOST 1048576: true; the input reads as it did. -/
def clashAllsUptoRow : OpenClaim := { program := "ytnkpiijljfjmkaa", sum := "be48af24413038eff8e67f71a411cefc82b82e54313f33ad255f738e6cb47611", func := "semaphore/semaphorelaw10.ClashAlls", spec := "clashAlls", unfollowed := true, recurses := true, plainKeys := false, apart := false, narrowed := true }
def ClashAllsUptoSaid : Prop := clashAllsUptoRow.holds Try.pinned (OpenSpec.upto clashAllsSpec)

end Rows
end Go.Proofs.Ytnkpiijljfjmkaa
