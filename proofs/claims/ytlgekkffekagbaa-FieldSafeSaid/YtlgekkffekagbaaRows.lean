/-
  No cell of these rows narrows 'for every input' (looked for: loops, veiled, ifaces, maps, wideKeys, modest, calm, conditions, laid).
  DERIVED. THE GIVEN ROWS OF THIS SEAT. 5 by the template 'for every input the law returns true; each argument reads behind the call as it read before'; 0 by the template 'total and deterministic' (their statements: YtlgekkffekagbaaTotals.lean).
  GIVEN WITH THE SEED: the statements are not yours to turn. If you find one false, say at which input.
  Laid BY PROGRAM, IN A SANDBOX (cutbox-rows.mjs): the forced cells as the released guide's own fill.sh prints them over the translation 7d163b3e6f7122bc… (all of the seat's roots in one cut). By AI agents, Wed Nov 11 2026. No macro, syntax, notation, axiom, sorry.
-/
import Derived.Test.YtlgekkffekagbaaChecked
import GoSem.Claim
import GoSem.ClaimJoined
import GoSem.ClaimMapViews
import Derived.JoinedTies
import Derived.KernelRfl
namespace Go.Proofs.Ytlgekkffekagbaa
/- THE CELL 'sum', in the pinned program and in every row, IS THE sha256 OF THE DUMP (.gsa) THAT YtlgekkffekagbaaProg.lean LOADS. Nothing in Lean hashes anything: it is a label: what it is worth is what the hold of that sum in a sandbox is worth. -/
noncomputable def Try.pinned : Pinned := { name := "ytlgekkffekagbaa", sum := "7d163b3e6f7122bc14d6140addfe9241d32e2f0e3d48e953281b1759137d3635", checked := Try.checked }
namespace Rows
def none {H : Type} : Left H := { results := [], args := [] }

/-- 'semaphorelaw13.FieldThrows': WHATEVER THE INPUT: true; the input reads as it did. -/
def fieldThrowsSpec : ChangeSpec := { name := "fieldThrows", fn := fun _ => fun
  | [d1, d2, d3] => { results := [.lit (.bool true)], args := [d1, d2, d3] }
  | _ => none }
def fieldThrowsRow : OpenClaim := { program := "ytlgekkffekagbaa", sum := "7d163b3e6f7122bc14d6140addfe9241d32e2f0e3d48e953281b1759137d3635", func := "semaphore/semaphorelaw13.FieldThrows", spec := "fieldThrows", unfollowed := true, recurses := true, plainKeys := false, apart := false }
def FieldThrowsSaid : Prop := fieldThrowsRow.holds Try.pinned (OpenSpec.ofChange fieldThrowsSpec)

/-- ITS FALSE NEIGHBOUR: 'it returns false'. Refute it at one input. -/
def fieldThrowsWrong : ChangeSpec := { name := "fieldThrows", fn := fun _ => fun
  | [d1, d2, d3] => { results := [.lit (.bool false)], args := [d1, d2, d3] }
  | _ => none }
def FieldThrowsWrongFalsely : Prop := fieldThrowsRow.holds Try.pinned (OpenSpec.ofChange fieldThrowsWrong)

/-- 'semaphorelaw13.FieldSticks': WHATEVER THE INPUT: true; the input reads as it did. -/
def fieldSticksSpec : ChangeSpec := { name := "fieldSticks", fn := fun _ => fun
  | [d1, d2, d3, d4] => { results := [.lit (.bool true)], args := [d1, d2, d3, d4] }
  | _ => none }
def fieldSticksRow : OpenClaim := { program := "ytlgekkffekagbaa", sum := "7d163b3e6f7122bc14d6140addfe9241d32e2f0e3d48e953281b1759137d3635", func := "semaphore/semaphorelaw13.FieldSticks", spec := "fieldSticks", unfollowed := true, recurses := true, plainKeys := false, apart := false }
def FieldSticksSaid : Prop := fieldSticksRow.holds Try.pinned (OpenSpec.ofChange fieldSticksSpec)

/-- ITS FALSE NEIGHBOUR: 'it returns false'. Refute it at one input. -/
def fieldSticksWrong : ChangeSpec := { name := "fieldSticks", fn := fun _ => fun
  | [d1, d2, d3, d4] => { results := [.lit (.bool false)], args := [d1, d2, d3, d4] }
  | _ => none }
def FieldSticksWrongFalsely : Prop := fieldSticksRow.holds Try.pinned (OpenSpec.ofChange fieldSticksWrong)

/-- 'semaphorelaw13.FieldPlays': WHATEVER THE INPUT: true; the input reads as it did. -/
def fieldPlaysSpec : ChangeSpec := { name := "fieldPlays", fn := fun _ => fun
  | [d1, d2, d3, d4] => { results := [.lit (.bool true)], args := [d1, d2, d3, d4] }
  | _ => none }
def fieldPlaysRow : OpenClaim := { program := "ytlgekkffekagbaa", sum := "7d163b3e6f7122bc14d6140addfe9241d32e2f0e3d48e953281b1759137d3635", func := "semaphore/semaphorelaw13.FieldPlays", spec := "fieldPlays", unfollowed := true, recurses := true, plainKeys := false, apart := false }
def FieldPlaysSaid : Prop := fieldPlaysRow.holds Try.pinned (OpenSpec.ofChange fieldPlaysSpec)

/-- ITS FALSE NEIGHBOUR: 'it returns false'. Refute it at one input. -/
def fieldPlaysWrong : ChangeSpec := { name := "fieldPlays", fn := fun _ => fun
  | [d1, d2, d3, d4] => { results := [.lit (.bool false)], args := [d1, d2, d3, d4] }
  | _ => none }
def FieldPlaysWrongFalsely : Prop := fieldPlaysRow.holds Try.pinned (OpenSpec.ofChange fieldPlaysWrong)

/-- 'semaphorelaw13.FieldSafe': WHATEVER THE INPUT: true; the input reads as it did. -/
def fieldSafeSpec : ChangeSpec := { name := "fieldSafe", fn := fun _ => fun
  | [d1, d2, d3, d4] => { results := [.lit (.bool true)], args := [d1, d2, d3, d4] }
  | _ => none }
def fieldSafeRow : OpenClaim := { program := "ytlgekkffekagbaa", sum := "7d163b3e6f7122bc14d6140addfe9241d32e2f0e3d48e953281b1759137d3635", func := "semaphore/semaphorelaw13.FieldSafe", spec := "fieldSafe", unfollowed := true, recurses := true, plainKeys := false, apart := false }
def FieldSafeSaid : Prop := fieldSafeRow.holds Try.pinned (OpenSpec.ofChange fieldSafeSpec)

/-- ITS FALSE NEIGHBOUR: 'it returns false'. Refute it at one input. -/
def fieldSafeWrong : ChangeSpec := { name := "fieldSafe", fn := fun _ => fun
  | [d1, d2, d3, d4] => { results := [.lit (.bool false)], args := [d1, d2, d3, d4] }
  | _ => none }
def FieldSafeWrongFalsely : Prop := fieldSafeRow.holds Try.pinned (OpenSpec.ofChange fieldSafeWrong)

/-- 'semaphorelaw13.FieldTwins': WHATEVER THE INPUT: true; the input reads as it did. -/
def fieldTwinsSpec : ChangeSpec := { name := "fieldTwins", fn := fun _ => fun
  | [d1, d2, d3] => { results := [.lit (.bool true)], args := [d1, d2, d3] }
  | _ => none }
def fieldTwinsRow : OpenClaim := { program := "ytlgekkffekagbaa", sum := "7d163b3e6f7122bc14d6140addfe9241d32e2f0e3d48e953281b1759137d3635", func := "semaphore/semaphorelaw13.FieldTwins", spec := "fieldTwins", unfollowed := true, recurses := true, plainKeys := false, apart := false }
def FieldTwinsSaid : Prop := fieldTwinsRow.holds Try.pinned (OpenSpec.ofChange fieldTwinsSpec)

/-- ITS FALSE NEIGHBOUR: 'it returns false'. Refute it at one input. -/
def fieldTwinsWrong : ChangeSpec := { name := "fieldTwins", fn := fun _ => fun
  | [d1, d2, d3] => { results := [.lit (.bool false)], args := [d1, d2, d3] }
  | _ => none }
def FieldTwinsWrongFalsely : Prop := fieldTwinsRow.holds Try.pinned (OpenSpec.ofChange fieldTwinsWrong)

/- THE SECOND FORM. 'bulk': how many values and letters a reading holds, each counted each time it is reached (what is shared counts as often as it is met; a slice's spare places count too). A statement '..UptoSaid' is the law's where the arguments, and the package variables that the reading takes, are together of bulk at most 1048576: NARROWER than '..Said'. Prove '..Said' where nothing that the law and all that it calls make is longer than what came in: it says more and counts as full. Else prove '..UptoSaid'. A law counts once. -/
mutual
def uptoBulk {H : Type} : DataW H → Nat
  | .lit (.string bytes) => bytes.length + 1
  | .lit _ => 1
  | .nil => 1
  | .ptr d => uptoBulk d + 1
  | .slice elems spare => uptoBulkAll elems + uptoBulkAll spare + 1
  | .agg parts => uptoBulkAll parts + 1
  | .iface _ d => uptoBulk d + 1
  | .map entries => uptoBulkEntries entries + 1
  | .held _ => 1
def uptoBulkAll {H : Type} : List (DataW H) → Nat
  | [] => 0
  | d :: r => uptoBulk d + uptoBulkAll r
def uptoBulkEntries {H : Type} : List (Lit × DataW H) → Nat
  | [] => 0
  | x :: r => uptoBulkEntry x + uptoBulkEntries r
def uptoBulkEntry {H : Type} : Lit × DataW H → Nat
  | (.string bytes, d) => bytes.length + uptoBulk d + 1
  | (_, d) => uptoBulk d + 1
 end
def uptoSmall : (H : Type) → List (DataW H) → Bool := fun _ ds => decide (uptoBulkAll ds ≤ 1048576)
def OpenSpec.upto (s : _root_.Go.ChangeSpec) : _root_.Go.OpenSpec := { _root_.Go.OpenSpec.ofChange s with cond := some uptoSmall }

/-- 'semaphorelaw13.FieldThrows', WHERE WHAT IT READS IS OF BULK AT MOST 1048576: true; the input reads as it did. -/
def fieldThrowsUptoRow : OpenClaim := { program := "ytlgekkffekagbaa", sum := "7d163b3e6f7122bc14d6140addfe9241d32e2f0e3d48e953281b1759137d3635", func := "semaphore/semaphorelaw13.FieldThrows", spec := "fieldThrows", unfollowed := true, recurses := true, plainKeys := false, apart := false, narrowed := true }
def FieldThrowsUptoSaid : Prop := fieldThrowsUptoRow.holds Try.pinned (OpenSpec.upto fieldThrowsSpec)

/-- 'semaphorelaw13.FieldSticks', WHERE WHAT IT READS IS OF BULK AT MOST 1048576: true; the input reads as it did. -/
def fieldSticksUptoRow : OpenClaim := { program := "ytlgekkffekagbaa", sum := "7d163b3e6f7122bc14d6140addfe9241d32e2f0e3d48e953281b1759137d3635", func := "semaphore/semaphorelaw13.FieldSticks", spec := "fieldSticks", unfollowed := true, recurses := true, plainKeys := false, apart := false, narrowed := true }
def FieldSticksUptoSaid : Prop := fieldSticksUptoRow.holds Try.pinned (OpenSpec.upto fieldSticksSpec)

/-- 'semaphorelaw13.FieldPlays', WHERE WHAT IT READS IS OF BULK AT MOST 1048576: true; the input reads as it did. -/
def fieldPlaysUptoRow : OpenClaim := { program := "ytlgekkffekagbaa", sum := "7d163b3e6f7122bc14d6140addfe9241d32e2f0e3d48e953281b1759137d3635", func := "semaphore/semaphorelaw13.FieldPlays", spec := "fieldPlays", unfollowed := true, recurses := true, plainKeys := false, apart := false, narrowed := true }
def FieldPlaysUptoSaid : Prop := fieldPlaysUptoRow.holds Try.pinned (OpenSpec.upto fieldPlaysSpec)

/-- 'semaphorelaw13.FieldSafe', WHERE WHAT IT READS IS OF BULK AT MOST 1048576: true; the input reads as it did. -/
def fieldSafeUptoRow : OpenClaim := { program := "ytlgekkffekagbaa", sum := "7d163b3e6f7122bc14d6140addfe9241d32e2f0e3d48e953281b1759137d3635", func := "semaphore/semaphorelaw13.FieldSafe", spec := "fieldSafe", unfollowed := true, recurses := true, plainKeys := false, apart := false, narrowed := true }
def FieldSafeUptoSaid : Prop := fieldSafeUptoRow.holds Try.pinned (OpenSpec.upto fieldSafeSpec)

/-- 'semaphorelaw13.FieldTwins', WHERE WHAT IT READS IS OF BULK AT MOST 1048576: true; the input reads as it did. -/
def fieldTwinsUptoRow : OpenClaim := { program := "ytlgekkffekagbaa", sum := "7d163b3e6f7122bc14d6140addfe9241d32e2f0e3d48e953281b1759137d3635", func := "semaphore/semaphorelaw13.FieldTwins", spec := "fieldTwins", unfollowed := true, recurses := true, plainKeys := false, apart := false, narrowed := true }
def FieldTwinsUptoSaid : Prop := fieldTwinsUptoRow.holds Try.pinned (OpenSpec.upto fieldTwinsSpec)

end Rows
end Go.Proofs.Ytlgekkffekagbaa
