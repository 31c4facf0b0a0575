/-
  No cell of these rows narrows 'for every input' (looked for: loops, veiled, ifaces, maps, wideKeys, modest, calm, conditions, laid).
  DERIVED. THE GIVEN ROWS OF THIS SEAT. 8 by the template 'for every input the law returns true; each argument reads behind the call as it read before'; 0 by the template 'total and deterministic' (their statements: YtkklnaejpgcgoaaTotals.lean).
  GIVEN WITH THE SEED: the statements are not yours to turn. If you find one false, say at which input.
  Laid BY PROGRAM, IN A SANDBOX (cutbox-rows.mjs): the forced cells as the released guide's own fill.sh prints them over the translation 16c602f091778d50… (all of the seat's roots in one cut). By AI agents, Wed Nov 11 2026. No macro, syntax, notation, axiom, sorry.
-/
import Derived.Test.YtkklnaejpgcgoaaChecked
import GoSem.Claim
import GoSem.ClaimJoined
import GoSem.ClaimMapViews
import Derived.JoinedTies
import Derived.KernelRfl
namespace Go.Proofs.Ytkklnaejpgcgoaa
/- THE CELL 'sum', in the pinned program and in every row, IS THE sha256 OF THE DUMP (.gsa) THAT YtkklnaejpgcgoaaProg.lean LOADS. Nothing in Lean hashes anything: it is a label: what it is worth is what the hold of that sum in a sandbox is worth. -/
noncomputable def Try.pinned : Pinned := { name := "ytkklnaejpgcgoaa", sum := "16c602f091778d50bff36b9935ab91cb1d3050b1d954d22c1ca9a57722ec869e", checked := Try.checked }
namespace Rows
def none {H : Type} : Left H := { results := [], args := [] }

/-- 'semaphorelaw34.LateTimes': WHATEVER THE INPUT: true; the input reads as it did. -/
def lateTimesSpec : ChangeSpec := { name := "lateTimes", fn := fun _ => fun
  | [d1, d2] => { results := [.lit (.bool true)], args := [d1, d2] }
  | _ => none }
def lateTimesRow : OpenClaim := { program := "ytkklnaejpgcgoaa", sum := "16c602f091778d50bff36b9935ab91cb1d3050b1d954d22c1ca9a57722ec869e", func := "semaphore/semaphorelaw34.LateTimes", spec := "lateTimes", unfollowed := true, recurses := true, apart := false }
def LateTimesSaid : Prop := lateTimesRow.holds Try.pinned (OpenSpec.ofChange lateTimesSpec)

/-- ITS FALSE NEIGHBOUR: 'it returns false'. Refute it at one input. -/
def lateTimesWrong : ChangeSpec := { name := "lateTimes", fn := fun _ => fun
  | [d1, d2] => { results := [.lit (.bool false)], args := [d1, d2] }
  | _ => none }
def LateTimesWrongFalsely : Prop := lateTimesRow.holds Try.pinned (OpenSpec.ofChange lateTimesWrong)

/-- 'semaphorelaw34.LateLong': WHATEVER THE INPUT: true; the input reads as it did. -/
def lateLongSpec : ChangeSpec := { name := "lateLong", fn := fun _ => fun
  | [d1, d2, d3, d4] => { results := [.lit (.bool true)], args := [d1, d2, d3, d4] }
  | _ => none }
def lateLongRow : OpenClaim := { program := "ytkklnaejpgcgoaa", sum := "16c602f091778d50bff36b9935ab91cb1d3050b1d954d22c1ca9a57722ec869e", func := "semaphore/semaphorelaw34.LateLong", spec := "lateLong", unfollowed := true, recurses := true, apart := false }
def LateLongSaid : Prop := lateLongRow.holds Try.pinned (OpenSpec.ofChange lateLongSpec)

/-- ITS FALSE NEIGHBOUR: 'it returns false'. Refute it at one input. -/
def lateLongWrong : ChangeSpec := { name := "lateLong", fn := fun _ => fun
  | [d1, d2, d3, d4] => { results := [.lit (.bool false)], args := [d1, d2, d3, d4] }
  | _ => none }
def LateLongWrongFalsely : Prop := lateLongRow.holds Try.pinned (OpenSpec.ofChange lateLongWrong)

/-- 'semaphorelaw34.LateLeast': WHATEVER THE INPUT: true; the input reads as it did. -/
def lateLeastSpec : ChangeSpec := { name := "lateLeast", fn := fun _ => fun
  | [d1, d2] => { results := [.lit (.bool true)], args := [d1, d2] }
  | _ => none }
def lateLeastRow : OpenClaim := { program := "ytkklnaejpgcgoaa", sum := "16c602f091778d50bff36b9935ab91cb1d3050b1d954d22c1ca9a57722ec869e", func := "semaphore/semaphorelaw34.LateLeast", spec := "lateLeast", unfollowed := true, recurses := true, apart := false }
def LateLeastSaid : Prop := lateLeastRow.holds Try.pinned (OpenSpec.ofChange lateLeastSpec)

/-- ITS FALSE NEIGHBOUR: 'it returns false'. Refute it at one input. -/
def lateLeastWrong : ChangeSpec := { name := "lateLeast", fn := fun _ => fun
  | [d1, d2] => { results := [.lit (.bool false)], args := [d1, d2] }
  | _ => none }
def LateLeastWrongFalsely : Prop := lateLeastRow.holds Try.pinned (OpenSpec.ofChange lateLeastWrong)

/-- 'semaphorelaw34.LateWhys': WHATEVER THE INPUT: true; the input reads as it did. -/
def lateWhysSpec : ChangeSpec := { name := "lateWhys", fn := fun _ => fun
  | [d1, d2, d3] => { results := [.lit (.bool true)], args := [d1, d2, d3] }
  | _ => none }
def lateWhysRow : OpenClaim := { program := "ytkklnaejpgcgoaa", sum := "16c602f091778d50bff36b9935ab91cb1d3050b1d954d22c1ca9a57722ec869e", func := "semaphore/semaphorelaw34.LateWhys", spec := "lateWhys", unfollowed := true, recurses := true, apart := false }
def LateWhysSaid : Prop := lateWhysRow.holds Try.pinned (OpenSpec.ofChange lateWhysSpec)

/-- ITS FALSE NEIGHBOUR: 'it returns false'. Refute it at one input. -/
def lateWhysWrong : ChangeSpec := { name := "lateWhys", fn := fun _ => fun
  | [d1, d2, d3] => { results := [.lit (.bool false)], args := [d1, d2, d3] }
  | _ => none }
def LateWhysWrongFalsely : Prop := lateWhysRow.holds Try.pinned (OpenSpec.ofChange lateWhysWrong)

/-- 'semaphorelaw34.LateDelays': WHATEVER THE INPUT: true; the input reads as it did. -/
def lateDelaysSpec : ChangeSpec := { name := "lateDelays", fn := fun _ => fun
  | [d1, d2, d3, d4, d5] => { results := [.lit (.bool true)], args := [d1, d2, d3, d4, d5] }
  | _ => none }
def lateDelaysRow : OpenClaim := { program := "ytkklnaejpgcgoaa", sum := "16c602f091778d50bff36b9935ab91cb1d3050b1d954d22c1ca9a57722ec869e", func := "semaphore/semaphorelaw34.LateDelays", spec := "lateDelays", unfollowed := true, recurses := true, apart := false }
def LateDelaysSaid : Prop := lateDelaysRow.holds Try.pinned (OpenSpec.ofChange lateDelaysSpec)

/-- ITS FALSE NEIGHBOUR: 'it returns false'. Refute it at one input. -/
def lateDelaysWrong : ChangeSpec := { name := "lateDelays", fn := fun _ => fun
  | [d1, d2, d3, d4, d5] => { results := [.lit (.bool false)], args := [d1, d2, d3, d4, d5] }
  | _ => none }
def LateDelaysWrongFalsely : Prop := lateDelaysRow.holds Try.pinned (OpenSpec.ofChange lateDelaysWrong)

/-- 'semaphorelaw34.LateMore': WHATEVER THE INPUT: true; the input reads as it did. -/
def lateMoreSpec : ChangeSpec := { name := "lateMore", fn := fun _ => fun
  | [d1, d2, d3, d4, d5] => { results := [.lit (.bool true)], args := [d1, d2, d3, d4, d5] }
  | _ => none }
def lateMoreRow : OpenClaim := { program := "ytkklnaejpgcgoaa", sum := "16c602f091778d50bff36b9935ab91cb1d3050b1d954d22c1ca9a57722ec869e", func := "semaphore/semaphorelaw34.LateMore", spec := "lateMore", unfollowed := true, recurses := true, apart := false }
def LateMoreSaid : Prop := lateMoreRow.holds Try.pinned (OpenSpec.ofChange lateMoreSpec)

/-- ITS FALSE NEIGHBOUR: 'it returns false'. Refute it at one input. -/
def lateMoreWrong : ChangeSpec := { name := "lateMore", fn := fun _ => fun
  | [d1, d2, d3, d4, d5] => { results := [.lit (.bool false)], args := [d1, d2, d3, d4, d5] }
  | _ => none }
def LateMoreWrongFalsely : Prop := lateMoreRow.holds Try.pinned (OpenSpec.ofChange lateMoreWrong)

/-- 'semaphorelaw34.LateSlacks': WHATEVER THE INPUT: true; the input reads as it did. -/
def lateSlacksSpec : ChangeSpec := { name := "lateSlacks", fn := fun _ => fun
  | [d1, d2, d3] => { results := [.lit (.bool true)], args := [d1, d2, d3] }
  | _ => none }
def lateSlacksRow : OpenClaim := { program := "ytkklnaejpgcgoaa", sum := "16c602f091778d50bff36b9935ab91cb1d3050b1d954d22c1ca9a57722ec869e", func := "semaphore/semaphorelaw34.LateSlacks", spec := "lateSlacks", unfollowed := true, recurses := true, apart := false }
def LateSlacksSaid : Prop := lateSlacksRow.holds Try.pinned (OpenSpec.ofChange lateSlacksSpec)

/-- ITS FALSE NEIGHBOUR: 'it returns false'. Refute it at one input. -/
def lateSlacksWrong : ChangeSpec := { name := "lateSlacks", fn := fun _ => fun
  | [d1, d2, d3] => { results := [.lit (.bool false)], args := [d1, d2, d3] }
  | _ => none }
def LateSlacksWrongFalsely : Prop := lateSlacksRow.holds Try.pinned (OpenSpec.ofChange lateSlacksWrong)

/-- 'semaphorelaw34.LateFits': WHATEVER THE INPUT: true; the input reads as it did. -/
def lateFitsSpec : ChangeSpec := { name := "lateFits", fn := fun _ => fun
  | [d1, d2, d3, d4, d5] => { results := [.lit (.bool true)], args := [d1, d2, d3, d4, d5] }
  | _ => none }
def lateFitsRow : OpenClaim := { program := "ytkklnaejpgcgoaa", sum := "16c602f091778d50bff36b9935ab91cb1d3050b1d954d22c1ca9a57722ec869e", func := "semaphore/semaphorelaw34.LateFits", spec := "lateFits", unfollowed := true, recurses := true, apart := false }
def LateFitsSaid : Prop := lateFitsRow.holds Try.pinned (OpenSpec.ofChange lateFitsSpec)

/-- ITS FALSE NEIGHBOUR: 'it returns false'. Refute it at one input. -/
def lateFitsWrong : ChangeSpec := { name := "lateFits", fn := fun _ => fun
  | [d1, d2, d3, d4, d5] => { results := [.lit (.bool false)], args := [d1, d2, d3, d4, d5] }
  | _ => none }
def LateFitsWrongFalsely : Prop := lateFitsRow.holds Try.pinned (OpenSpec.ofChange lateFitsWrong)

/- THE SECOND FORM. 'bulk': how many values and letters a reading holds, each counted each time it is reached (what is shared counts as often as it is met; a slice's spare places count too). A statement '..UptoSaid' is the law's where the arguments, and the package variables that the reading takes, are together of bulk at most 1048576: NARROWER than '..Said'. Prove '..Said' where nothing that the law and all that it calls make is longer than what came in: it says more and counts as full. Else prove '..UptoSaid'. A law counts once. -/
mutual
def uptoBulk {H : Type} : DataW H → Nat
  | .lit (.string bytes) => bytes.length + 1
  | .lit _ => 1
  | .nil => 1
  | .ptr d => uptoBulk d + 1
  | .slice elems spare => uptoBulkAll elems + uptoBulkAll spare + 1
  | .agg parts => uptoBulkAll parts + 1
  | .iface _ d => uptoBulk d + 1
  | .map entries => uptoBulkEntries entries + 1
  | .held _ => 1
def uptoBulkAll {H : Type} : List (DataW H) → Nat
  | [] => 0
  | d :: r => uptoBulk d + uptoBulkAll r
def uptoBulkEntries {H : Type} : List (Lit × DataW H) → Nat
  | [] => 0
  | x :: r => uptoBulkEntry x + uptoBulkEntries r
def uptoBulkEntry {H : Type} : Lit × DataW H → Nat
  | (.string bytes, d) => bytes.length + uptoBulk d + 1
  | (_, d) => uptoBulk d + 1
 end
def uptoSmall : (H : Type) → List (DataW H) → Bool := fun _ ds => decide (uptoBulkAll ds ≤ 1048576)
def OpenSpec.upto (s : _root_.Go.ChangeSpec) : _root_.Go.OpenSpec := { _root_.Go.OpenSpec.ofChange s with cond := some uptoSmall }

/-- 'semaphorelaw34.LateTimes', WHERE WHAT IT READS IS OF BULK AT MOST 1048576: true; the input reads as it did. -/
def lateTimesUptoRow : OpenClaim := { program := "ytkklnaejpgcgoaa", sum := "16c602f091778d50bff36b9935ab91cb1d3050b1d954d22c1ca9a57722ec869e", func := "semaphore/semaphorelaw34.LateTimes", spec := "lateTimes", unfollowed := true, recurses := true, apart := false, narrowed := true }
def LateTimesUptoSaid : Prop := lateTimesUptoRow.holds Try.pinned (OpenSpec.upto lateTimesSpec)

/-- 'semaphorelaw34.LateLong', WHERE WHAT IT READS IS OF BULK AT MOST 1048576: true; the input reads as it did. -/
def lateLongUptoRow : OpenClaim := { program := "ytkklnaejpgcgoaa", sum := "16c602f091778d50bff36b9935ab91cb1d3050b1d954d22c1ca9a57722ec869e", func := "semaphore/semaphorelaw34.LateLong", spec := "lateLong", unfollowed := true, recurses := true, apart := false, narrowed := true }
def LateLongUptoSaid : Prop := lateLongUptoRow.holds Try.pinned (OpenSpec.upto lateLongSpec)

/-- 'semaphorelaw34.LateLeast', WHERE WHAT IT READS IS OF BULK AT MOST 1048576: true; the input reads as it did. -/
def lateLeastUptoRow : OpenClaim := { program := "ytkklnaejpgcgoaa", sum := "16c602f091778d50bff36b9935ab91cb1d3050b1d954d22c1ca9a57722ec869e", func := "semaphore/semaphorelaw34.LateLeast", spec := "lateLeast", unfollowed := true, recurses := true, apart := false, narrowed := true }
def LateLeastUptoSaid : Prop := lateLeastUptoRow.holds Try.pinned (OpenSpec.upto lateLeastSpec)

/-- 'semaphorelaw34.LateWhys', WHERE WHAT IT READS IS OF BULK AT MOST 1048576: true; the input reads as it did. -/
def lateWhysUptoRow : OpenClaim := { program := "ytkklnaejpgcgoaa", sum := "16c602f091778d50bff36b9935ab91cb1d3050b1d954d22c1ca9a57722ec869e", func := "semaphore/semaphorelaw34.LateWhys", spec := "lateWhys", unfollowed := true, recurses := true, apart := false, narrowed := true }
def LateWhysUptoSaid : Prop := lateWhysUptoRow.holds Try.pinned (OpenSpec.upto lateWhysSpec)

/-- 'semaphorelaw34.LateDelays', WHERE WHAT IT READS IS OF BULK AT MOST 1048576: true; the input reads as it did. -/
def lateDelaysUptoRow : OpenClaim := { program := "ytkklnaejpgcgoaa", sum := "16c602f091778d50bff36b9935ab91cb1d3050b1d954d22c1ca9a57722ec869e", func := "semaphore/semaphorelaw34.LateDelays", spec := "lateDelays", unfollowed := true, recurses := true, apart := false, narrowed := true }
def LateDelaysUptoSaid : Prop := lateDelaysUptoRow.holds Try.pinned (OpenSpec.upto lateDelaysSpec)

/-- 'semaphorelaw34.LateMore', WHERE WHAT IT READS IS OF BULK AT MOST 1048576: true; the input reads as it did. -/
def lateMoreUptoRow : OpenClaim := { program := "ytkklnaejpgcgoaa", sum := "16c602f091778d50bff36b9935ab91cb1d3050b1d954d22c1ca9a57722ec869e", func := "semaphore/semaphorelaw34.LateMore", spec := "lateMore", unfollowed := true, recurses := true, apart := false, narrowed := true }
def LateMoreUptoSaid : Prop := lateMoreUptoRow.holds Try.pinned (OpenSpec.upto lateMoreSpec)

/-- 'semaphorelaw34.LateSlacks', WHERE WHAT IT READS IS OF BULK AT MOST 1048576: true; the input reads as it did. -/
def lateSlacksUptoRow : OpenClaim := { program := "ytkklnaejpgcgoaa", sum := "16c602f091778d50bff36b9935ab91cb1d3050b1d954d22c1ca9a57722ec869e", func := "semaphore/semaphorelaw34.LateSlacks", spec := "lateSlacks", unfollowed := true, recurses := true, apart := false, narrowed := true }
def LateSlacksUptoSaid : Prop := lateSlacksUptoRow.holds Try.pinned (OpenSpec.upto lateSlacksSpec)

/-- 'semaphorelaw34.LateFits', WHERE WHAT IT READS IS OF BULK AT MOST 1048576: true; the input reads as it did. -/
def lateFitsUptoRow : OpenClaim := { program := "ytkklnaejpgcgoaa", sum := "16c602f091778d50bff36b9935ab91cb1d3050b1d954d22c1ca9a57722ec869e", func := "semaphore/semaphorelaw34.LateFits", spec := "lateFits", unfollowed := true, recurses := true, apart := false, narrowed := true }
def LateFitsUptoSaid : Prop := lateFitsUptoRow.holds Try.pinned (OpenSpec.upto lateFitsSpec)

end Rows
end Go.Proofs.Ytkklnaejpgcgoaa
