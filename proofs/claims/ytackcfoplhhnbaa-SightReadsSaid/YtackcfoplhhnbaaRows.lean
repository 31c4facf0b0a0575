/-
  No cell of these rows narrows 'for every input' (looked for: loops, veiled, ifaces, maps, wideKeys, modest, calm, conditions, laid).
  DERIVED. THE GIVEN ROWS OF THIS SEAT. 13 by the template 'for every input the law returns true; each argument reads behind the call as it read before'; 0 by the template 'total and deterministic' (their statements: YtackcfoplhhnbaaTotals.lean).
  GIVEN WITH THE SEED: the statements are not yours to turn. If you find one false, say at which input.
  Laid BY PROGRAM, IN A SANDBOX (cutbox-rows.mjs): the forced cells as the released guide's own fill.sh prints them over the translation b5225bc67a0cd4ef… (all of the seat's roots in one cut). By AI agents, Wed Nov 11 2026. No macro, syntax, notation, axiom, sorry.
-/
import Derived.Test.YtackcfoplhhnbaaChecked
import GoSem.Claim
import GoSem.ClaimJoined
import GoSem.ClaimMapViews
import Derived.JoinedTies
import Derived.KernelRfl
namespace Go.Proofs.Ytackcfoplhhnbaa
/- THE CELL 'sum', in the pinned program and in every row, IS THE sha256 OF THE DUMP (.gsa) THAT YtackcfoplhhnbaaProg.lean LOADS. Nothing in Lean hashes anything: it is a label: what it is worth is what the hold of that sum in a sandbox is worth. -/
noncomputable def Try.pinned : Pinned := { name := "ytackcfoplhhnbaa", sum := "b5225bc67a0cd4ef160c59e4c0a4da89cc14232e571a9f51381c0cd8d644ce65", checked := Try.checked }
namespace Rows
def none {H : Type} : Left H := { results := [], args := [] }

/-- 'semaphorelaw5.WalkSteps': WHATEVER THE INPUT: true; the input reads as it did. -/
def walkStepsSpec : ChangeSpec := { name := "walkSteps", fn := fun _ => fun
  | [d1, d2, d3] => { results := [.lit (.bool true)], args := [d1, d2, d3] }
  | _ => none }
def walkStepsRow : OpenClaim := { program := "ytackcfoplhhnbaa", sum := "b5225bc67a0cd4ef160c59e4c0a4da89cc14232e571a9f51381c0cd8d644ce65", func := "semaphore/semaphorelaw5.WalkSteps", spec := "walkSteps", unfollowed := true, recurses := true, plainKeys := false, apart := false }
def WalkStepsSaid : Prop := walkStepsRow.holds Try.pinned (OpenSpec.ofChange walkStepsSpec)

/-- ITS FALSE NEIGHBOUR: 'it returns false'. Refute it at one input. -/
def walkStepsWrong : ChangeSpec := { name := "walkSteps", fn := fun _ => fun
  | [d1, d2, d3] => { results := [.lit (.bool false)], args := [d1, d2, d3] }
  | _ => none }
def WalkStepsWrongFalsely : Prop := walkStepsRow.holds Try.pinned (OpenSpec.ofChange walkStepsWrong)

/-- 'semaphorelaw5.WalkRuns': WHATEVER THE INPUT: true; the input reads as it did. -/
def walkRunsSpec : ChangeSpec := { name := "walkRuns", fn := fun _ => fun
  | [d1, d2, d3, d4] => { results := [.lit (.bool true)], args := [d1, d2, d3, d4] }
  | _ => none }
def walkRunsRow : OpenClaim := { program := "ytackcfoplhhnbaa", sum := "b5225bc67a0cd4ef160c59e4c0a4da89cc14232e571a9f51381c0cd8d644ce65", func := "semaphore/semaphorelaw5.WalkRuns", spec := "walkRuns", unfollowed := true, recurses := true, plainKeys := false, apart := false }
def WalkRunsSaid : Prop := walkRunsRow.holds Try.pinned (OpenSpec.ofChange walkRunsSpec)

/-- ITS FALSE NEIGHBOUR: 'it returns false'. Refute it at one input. -/
def walkRunsWrong : ChangeSpec := { name := "walkRuns", fn := fun _ => fun
  | [d1, d2, d3, d4] => { results := [.lit (.bool false)], args := [d1, d2, d3, d4] }
  | _ => none }
def WalkRunsWrongFalsely : Prop := walkRunsRow.holds Try.pinned (OpenSpec.ofChange walkRunsWrong)

/-- 'semaphorelaw5.WalkBack': WHATEVER THE INPUT: true; the input reads as it did. -/
def walkBackSpec : ChangeSpec := { name := "walkBack", fn := fun _ => fun
  | [d1, d2, d3, d4] => { results := [.lit (.bool true)], args := [d1, d2, d3, d4] }
  | _ => none }
def walkBackRow : OpenClaim := { program := "ytackcfoplhhnbaa", sum := "b5225bc67a0cd4ef160c59e4c0a4da89cc14232e571a9f51381c0cd8d644ce65", func := "semaphore/semaphorelaw5.WalkBack", spec := "walkBack", unfollowed := true, recurses := true, plainKeys := false, apart := false }
def WalkBackSaid : Prop := walkBackRow.holds Try.pinned (OpenSpec.ofChange walkBackSpec)

/-- ITS FALSE NEIGHBOUR: 'it returns false'. Refute it at one input. -/
def walkBackWrong : ChangeSpec := { name := "walkBack", fn := fun _ => fun
  | [d1, d2, d3, d4] => { results := [.lit (.bool false)], args := [d1, d2, d3, d4] }
  | _ => none }
def WalkBackWrongFalsely : Prop := walkBackRow.holds Try.pinned (OpenSpec.ofChange walkBackWrong)

/-- 'semaphorelaw5.WalkTurned': WHATEVER THE INPUT: true; the input reads as it did. -/
def walkTurnedSpec : ChangeSpec := { name := "walkTurned", fn := fun _ => fun
  | [d1, d2, d3, d4] => { results := [.lit (.bool true)], args := [d1, d2, d3, d4] }
  | _ => none }
def walkTurnedRow : OpenClaim := { program := "ytackcfoplhhnbaa", sum := "b5225bc67a0cd4ef160c59e4c0a4da89cc14232e571a9f51381c0cd8d644ce65", func := "semaphore/semaphorelaw5.WalkTurned", spec := "walkTurned", unfollowed := true, recurses := true, plainKeys := false, apart := false }
def WalkTurnedSaid : Prop := walkTurnedRow.holds Try.pinned (OpenSpec.ofChange walkTurnedSpec)

/-- ITS FALSE NEIGHBOUR: 'it returns false'. Refute it at one input. -/
def walkTurnedWrong : ChangeSpec := { name := "walkTurned", fn := fun _ => fun
  | [d1, d2, d3, d4] => { results := [.lit (.bool false)], args := [d1, d2, d3, d4] }
  | _ => none }
def WalkTurnedWrongFalsely : Prop := walkTurnedRow.holds Try.pinned (OpenSpec.ofChange walkTurnedWrong)

/-- 'semaphorelaw5.WalkJoins': WHATEVER THE INPUT: true; the input reads as it did. -/
def walkJoinsSpec : ChangeSpec := { name := "walkJoins", fn := fun _ => fun
  | [d1, d2, d3, d4, d5] => { results := [.lit (.bool true)], args := [d1, d2, d3, d4, d5] }
  | _ => none }
def walkJoinsRow : OpenClaim := { program := "ytackcfoplhhnbaa", sum := "b5225bc67a0cd4ef160c59e4c0a4da89cc14232e571a9f51381c0cd8d644ce65", func := "semaphore/semaphorelaw5.WalkJoins", spec := "walkJoins", unfollowed := true, recurses := true, plainKeys := false, apart := false }
def WalkJoinsSaid : Prop := walkJoinsRow.holds Try.pinned (OpenSpec.ofChange walkJoinsSpec)

/-- ITS FALSE NEIGHBOUR: 'it returns false'. Refute it at one input. -/
def walkJoinsWrong : ChangeSpec := { name := "walkJoins", fn := fun _ => fun
  | [d1, d2, d3, d4, d5] => { results := [.lit (.bool false)], args := [d1, d2, d3, d4, d5] }
  | _ => none }
def WalkJoinsWrongFalsely : Prop := walkJoinsRow.holds Try.pinned (OpenSpec.ofChange walkJoinsWrong)

/-- 'semaphorelaw5.WalkRings': WHATEVER THE INPUT: true; the input reads as it did. -/
def walkRingsSpec : ChangeSpec := { name := "walkRings", fn := fun _ => fun
  | [d1, d2, d3] => { results := [.lit (.bool true)], args := [d1, d2, d3] }
  | _ => none }
def walkRingsRow : OpenClaim := { program := "ytackcfoplhhnbaa", sum := "b5225bc67a0cd4ef160c59e4c0a4da89cc14232e571a9f51381c0cd8d644ce65", func := "semaphore/semaphorelaw5.WalkRings", spec := "walkRings", unfollowed := true, recurses := true, plainKeys := false, apart := false }
def WalkRingsSaid : Prop := walkRingsRow.holds Try.pinned (OpenSpec.ofChange walkRingsSpec)

/-- ITS FALSE NEIGHBOUR: 'it returns false'. Refute it at one input. -/
def walkRingsWrong : ChangeSpec := { name := "walkRings", fn := fun _ => fun
  | [d1, d2, d3] => { results := [.lit (.bool false)], args := [d1, d2, d3] }
  | _ => none }
def WalkRingsWrongFalsely : Prop := walkRingsRow.holds Try.pinned (OpenSpec.ofChange walkRingsWrong)

/-- 'semaphorelaw5.WalkOnce': WHATEVER THE INPUT: true; the input reads as it did. -/
def walkOnceSpec : ChangeSpec := { name := "walkOnce", fn := fun _ => fun
  | [d1, d2] => { results := [.lit (.bool true)], args := [d1, d2] }
  | _ => none }
def walkOnceRow : OpenClaim := { program := "ytackcfoplhhnbaa", sum := "b5225bc67a0cd4ef160c59e4c0a4da89cc14232e571a9f51381c0cd8d644ce65", func := "semaphore/semaphorelaw5.WalkOnce", spec := "walkOnce", unfollowed := true, recurses := true, plainKeys := false, apart := false }
def WalkOnceSaid : Prop := walkOnceRow.holds Try.pinned (OpenSpec.ofChange walkOnceSpec)

/-- ITS FALSE NEIGHBOUR: 'it returns false'. Refute it at one input. -/
def walkOnceWrong : ChangeSpec := { name := "walkOnce", fn := fun _ => fun
  | [d1, d2] => { results := [.lit (.bool false)], args := [d1, d2] }
  | _ => none }
def WalkOnceWrongFalsely : Prop := walkOnceRow.holds Try.pinned (OpenSpec.ofChange walkOnceWrong)

/-- 'semaphorelaw6.SightBerths': WHATEVER THE INPUT: true; the input reads as it did. -/
def sightBerthsSpec : ChangeSpec := { name := "sightBerths", fn := fun _ => fun
  | [d1, d2, d3, d4] => { results := [.lit (.bool true)], args := [d1, d2, d3, d4] }
  | _ => none }
def sightBerthsRow : OpenClaim := { program := "ytackcfoplhhnbaa", sum := "b5225bc67a0cd4ef160c59e4c0a4da89cc14232e571a9f51381c0cd8d644ce65", func := "semaphore/semaphorelaw6.SightBerths", spec := "sightBerths", unfollowed := true, recurses := true, plainKeys := false, apart := false }
def SightBerthsSaid : Prop := sightBerthsRow.holds Try.pinned (OpenSpec.ofChange sightBerthsSpec)

/-- ITS FALSE NEIGHBOUR: 'it returns false'. Refute it at one input. -/
def sightBerthsWrong : ChangeSpec := { name := "sightBerths", fn := fun _ => fun
  | [d1, d2, d3, d4] => { results := [.lit (.bool false)], args := [d1, d2, d3, d4] }
  | _ => none }
def SightBerthsWrongFalsely : Prop := sightBerthsRow.holds Try.pinned (OpenSpec.ofChange sightBerthsWrong)

/-- 'semaphorelaw6.SightAheads': WHATEVER THE INPUT: true; the input reads as it did. -/
def sightAheadsSpec : ChangeSpec := { name := "sightAheads", fn := fun _ => fun
  | [d1, d2, d3] => { results := [.lit (.bool true)], args := [d1, d2, d3] }
  | _ => none }
def sightAheadsRow : OpenClaim := { program := "ytackcfoplhhnbaa", sum := "b5225bc67a0cd4ef160c59e4c0a4da89cc14232e571a9f51381c0cd8d644ce65", func := "semaphore/semaphorelaw6.SightAheads", spec := "sightAheads", unfollowed := true, recurses := true, plainKeys := false, apart := false }
def SightAheadsSaid : Prop := sightAheadsRow.holds Try.pinned (OpenSpec.ofChange sightAheadsSpec)

/-- ITS FALSE NEIGHBOUR: 'it returns false'. Refute it at one input. -/
def sightAheadsWrong : ChangeSpec := { name := "sightAheads", fn := fun _ => fun
  | [d1, d2, d3] => { results := [.lit (.bool false)], args := [d1, d2, d3] }
  | _ => none }
def SightAheadsWrongFalsely : Prop := sightAheadsRow.holds Try.pinned (OpenSpec.ofChange sightAheadsWrong)

/-- 'semaphorelaw6.SightFirst': WHATEVER THE INPUT: true; the input reads as it did. -/
def sightFirstSpec : ChangeSpec := { name := "sightFirst", fn := fun _ => fun
  | [d1, d2, d3] => { results := [.lit (.bool true)], args := [d1, d2, d3] }
  | _ => none }
def sightFirstRow : OpenClaim := { program := "ytackcfoplhhnbaa", sum := "b5225bc67a0cd4ef160c59e4c0a4da89cc14232e571a9f51381c0cd8d644ce65", func := "semaphore/semaphorelaw6.SightFirst", spec := "sightFirst", unfollowed := true, recurses := true, plainKeys := false, apart := false }
def SightFirstSaid : Prop := sightFirstRow.holds Try.pinned (OpenSpec.ofChange sightFirstSpec)

/-- ITS FALSE NEIGHBOUR: 'it returns false'. Refute it at one input. -/
def sightFirstWrong : ChangeSpec := { name := "sightFirst", fn := fun _ => fun
  | [d1, d2, d3] => { results := [.lit (.bool false)], args := [d1, d2, d3] }
  | _ => none }
def SightFirstWrongFalsely : Prop := sightFirstRow.holds Try.pinned (OpenSpec.ofChange sightFirstWrong)

/-- 'semaphorelaw6.SightOn': WHATEVER THE INPUT: true; the input reads as it did. -/
def sightOnSpec : ChangeSpec := { name := "sightOn", fn := fun _ => fun
  | [d1, d2, d3] => { results := [.lit (.bool true)], args := [d1, d2, d3] }
  | _ => none }
def sightOnRow : OpenClaim := { program := "ytackcfoplhhnbaa", sum := "b5225bc67a0cd4ef160c59e4c0a4da89cc14232e571a9f51381c0cd8d644ce65", func := "semaphore/semaphorelaw6.SightOn", spec := "sightOn", unfollowed := true, recurses := true, plainKeys := false, apart := false }
def SightOnSaid : Prop := sightOnRow.holds Try.pinned (OpenSpec.ofChange sightOnSpec)

/-- ITS FALSE NEIGHBOUR: 'it returns false'. Refute it at one input. -/
def sightOnWrong : ChangeSpec := { name := "sightOn", fn := fun _ => fun
  | [d1, d2, d3] => { results := [.lit (.bool false)], args := [d1, d2, d3] }
  | _ => none }
def SightOnWrongFalsely : Prop := sightOnRow.holds Try.pinned (OpenSpec.ofChange sightOnWrong)

/-- 'semaphorelaw6.SightLoops': WHATEVER THE INPUT: true; the input reads as it did. -/
def sightLoopsSpec : ChangeSpec := { name := "sightLoops", fn := fun _ => fun
  | [d1, d2] => { results := [.lit (.bool true)], args := [d1, d2] }
  | _ => none }
def sightLoopsRow : OpenClaim := { program := "ytackcfoplhhnbaa", sum := "b5225bc67a0cd4ef160c59e4c0a4da89cc14232e571a9f51381c0cd8d644ce65", func := "semaphore/semaphorelaw6.SightLoops", spec := "sightLoops", unfollowed := true, recurses := true, plainKeys := false, apart := false }
def SightLoopsSaid : Prop := sightLoopsRow.holds Try.pinned (OpenSpec.ofChange sightLoopsSpec)

/-- ITS FALSE NEIGHBOUR: 'it returns false'. Refute it at one input. -/
def sightLoopsWrong : ChangeSpec := { name := "sightLoops", fn := fun _ => fun
  | [d1, d2] => { results := [.lit (.bool false)], args := [d1, d2] }
  | _ => none }
def SightLoopsWrongFalsely : Prop := sightLoopsRow.holds Try.pinned (OpenSpec.ofChange sightLoopsWrong)

/-- 'semaphorelaw6.SightReads': WHATEVER THE INPUT: true; the input reads as it did. -/
def sightReadsSpec : ChangeSpec := { name := "sightReads", fn := fun _ => fun
  | [d1, d2, d3] => { results := [.lit (.bool true)], args := [d1, d2, d3] }
  | _ => none }
def sightReadsRow : OpenClaim := { program := "ytackcfoplhhnbaa", sum := "b5225bc67a0cd4ef160c59e4c0a4da89cc14232e571a9f51381c0cd8d644ce65", func := "semaphore/semaphorelaw6.SightReads", spec := "sightReads", unfollowed := true, recurses := true, plainKeys := false, apart := false }
def SightReadsSaid : Prop := sightReadsRow.holds Try.pinned (OpenSpec.ofChange sightReadsSpec)

/-- ITS FALSE NEIGHBOUR: 'it returns false'. Refute it at one input. -/
def sightReadsWrong : ChangeSpec := { name := "sightReads", fn := fun _ => fun
  | [d1, d2, d3] => { results := [.lit (.bool false)], args := [d1, d2, d3] }
  | _ => none }
def SightReadsWrongFalsely : Prop := sightReadsRow.holds Try.pinned (OpenSpec.ofChange sightReadsWrong)

/- THE SECOND FORM. 'bulk': how many values and letters a reading holds, each counted each time it is reached (what is shared counts as often as it is met; a slice's spare places count too). A statement '..UptoSaid' is the law's where the arguments, and the package variables that the reading takes, are together of bulk at most 1048576: NARROWER than '..Said'. Prove '..Said' where nothing that the law and all that it calls make is longer than what came in: it says more and counts as full. Else prove '..UptoSaid'. A law counts once. -/
mutual
def uptoBulk {H : Type} : DataW H → Nat
  | .lit (.string bytes) => bytes.length + 1
  | .lit _ => 1
  | .nil => 1
  | .ptr d => uptoBulk d + 1
  | .slice elems spare => uptoBulkAll elems + uptoBulkAll spare + 1
  | .agg parts => uptoBulkAll parts + 1
  | .iface _ d => uptoBulk d + 1
  | .map entries => uptoBulkEntries entries + 1
  | .held _ => 1
def uptoBulkAll {H : Type} : List (DataW H) → Nat
  | [] => 0
  | d :: r => uptoBulk d + uptoBulkAll r
def uptoBulkEntries {H : Type} : List (Lit × DataW H) → Nat
  | [] => 0
  | x :: r => uptoBulkEntry x + uptoBulkEntries r
def uptoBulkEntry {H : Type} : Lit × DataW H → Nat
  | (.string bytes, d) => bytes.length + uptoBulk d + 1
  | (_, d) => uptoBulk d + 1
 end
def uptoSmall : (H : Type) → List (DataW H) → Bool := fun _ ds => decide (uptoBulkAll ds ≤ 1048576)
def OpenSpec.upto (s : _root_.Go.ChangeSpec) : _root_.Go.OpenSpec := { _root_.Go.OpenSpec.ofChange s with cond := some uptoSmall }

/-- 'semaphorelaw5.WalkSteps', WHERE WHAT IT READS IS OF BULK AT MOST 1048576: true; the input reads as it did. -/
def walkStepsUptoRow : OpenClaim := { program := "ytackcfoplhhnbaa", sum := "b5225bc67a0cd4ef160c59e4c0a4da89cc14232e571a9f51381c0cd8d644ce65", func := "semaphore/semaphorelaw5.WalkSteps", spec := "walkSteps", unfollowed := true, recurses := true, plainKeys := false, apart := false, narrowed := true }
def WalkStepsUptoSaid : Prop := walkStepsUptoRow.holds Try.pinned (OpenSpec.upto walkStepsSpec)

/-- 'semaphorelaw5.WalkRuns', WHERE WHAT IT READS IS OF BULK AT MOST 1048576: true; the input reads as it did. -/
def walkRunsUptoRow : OpenClaim := { program := "ytackcfoplhhnbaa", sum := "b5225bc67a0cd4ef160c59e4c0a4da89cc14232e571a9f51381c0cd8d644ce65", func := "semaphore/semaphorelaw5.WalkRuns", spec := "walkRuns", unfollowed := true, recurses := true, plainKeys := false, apart := false, narrowed := true }
def WalkRunsUptoSaid : Prop := walkRunsUptoRow.holds Try.pinned (OpenSpec.upto walkRunsSpec)

/-- 'semaphorelaw5.WalkBack', WHERE WHAT IT READS IS OF BULK AT MOST 1048576: true; the input reads as it did. -/
def walkBackUptoRow : OpenClaim := { program := "ytackcfoplhhnbaa", sum := "b5225bc67a0cd4ef160c59e4c0a4da89cc14232e571a9f51381c0cd8d644ce65", func := "semaphore/semaphorelaw5.WalkBack", spec := "walkBack", unfollowed := true, recurses := true, plainKeys := false, apart := false, narrowed := true }
def WalkBackUptoSaid : Prop := walkBackUptoRow.holds Try.pinned (OpenSpec.upto walkBackSpec)

/-- 'semaphorelaw5.WalkTurned', WHERE WHAT IT READS IS OF BULK AT MOST 1048576: true; the input reads as it did. -/
def walkTurnedUptoRow : OpenClaim := { program := "ytackcfoplhhnbaa", sum := "b5225bc67a0cd4ef160c59e4c0a4da89cc14232e571a9f51381c0cd8d644ce65", func := "semaphore/semaphorelaw5.WalkTurned", spec := "walkTurned", unfollowed := true, recurses := true, plainKeys := false, apart := false, narrowed := true }
def WalkTurnedUptoSaid : Prop := walkTurnedUptoRow.holds Try.pinned (OpenSpec.upto walkTurnedSpec)

/-- 'semaphorelaw5.WalkJoins', WHERE WHAT IT READS IS OF BULK AT MOST 1048576: true; the input reads as it did. -/
def walkJoinsUptoRow : OpenClaim := { program := "ytackcfoplhhnbaa", sum := "b5225bc67a0cd4ef160c59e4c0a4da89cc14232e571a9f51381c0cd8d644ce65", func := "semaphore/semaphorelaw5.WalkJoins", spec := "walkJoins", unfollowed := true, recurses := true, plainKeys := false, apart := false, narrowed := true }
def WalkJoinsUptoSaid : Prop := walkJoinsUptoRow.holds Try.pinned (OpenSpec.upto walkJoinsSpec)

/-- 'semaphorelaw5.WalkRings', WHERE WHAT IT READS IS OF BULK AT MOST 1048576: true; the input reads as it did. -/
def walkRingsUptoRow : OpenClaim := { program := "ytackcfoplhhnbaa", sum := "b5225bc67a0cd4ef160c59e4c0a4da89cc14232e571a9f51381c0cd8d644ce65", func := "semaphore/semaphorelaw5.WalkRings", spec := "walkRings", unfollowed := true, recurses := true, plainKeys := false, apart := false, narrowed := true }
def WalkRingsUptoSaid : Prop := walkRingsUptoRow.holds Try.pinned (OpenSpec.upto walkRingsSpec)

/-- 'semaphorelaw5.WalkOnce', WHERE WHAT IT READS IS OF BULK AT MOST 1048576: true; the input reads as it did. -/
def walkOnceUptoRow : OpenClaim := { program := "ytackcfoplhhnbaa", sum := "b5225bc67a0cd4ef160c59e4c0a4da89cc14232e571a9f51381c0cd8d644ce65", func := "semaphore/semaphorelaw5.WalkOnce", spec := "walkOnce", unfollowed := true, recurses := true, plainKeys := false, apart := false, narrowed := true }
def WalkOnceUptoSaid : Prop := walkOnceUptoRow.holds Try.pinned (OpenSpec.upto walkOnceSpec)

/-- 'semaphorelaw6.SightBerths', WHERE WHAT IT READS IS OF BULK AT MOST 1048576: true; the input reads as it did. -/
def sightBerthsUptoRow : OpenClaim := { program := "ytackcfoplhhnbaa", sum := "b5225bc67a0cd4ef160c59e4c0a4da89cc14232e571a9f51381c0cd8d644ce65", func := "semaphore/semaphorelaw6.SightBerths", spec := "sightBerths", unfollowed := true, recurses := true, plainKeys := false, apart := false, narrowed := true }
def SightBerthsUptoSaid : Prop := sightBerthsUptoRow.holds Try.pinned (OpenSpec.upto sightBerthsSpec)

/-- 'semaphorelaw6.SightAheads', WHERE WHAT IT READS IS OF BULK AT MOST 1048576: true; the input reads as it did. -/
def sightAheadsUptoRow : OpenClaim := { program := "ytackcfoplhhnbaa", sum := "b5225bc67a0cd4ef160c59e4c0a4da89cc14232e571a9f51381c0cd8d644ce65", func := "semaphore/semaphorelaw6.SightAheads", spec := "sightAheads", unfollowed := true, recurses := true, plainKeys := false, apart := false, narrowed := true }
def SightAheadsUptoSaid : Prop := sightAheadsUptoRow.holds Try.pinned (OpenSpec.upto sightAheadsSpec)

/-- 'semaphorelaw6.SightFirst', WHERE WHAT IT READS IS OF BULK AT MOST 1048576: true; the input reads as it did. -/
def sightFirstUptoRow : OpenClaim := { program := "ytackcfoplhhnbaa", sum := "b5225bc67a0cd4ef160c59e4c0a4da89cc14232e571a9f51381c0cd8d644ce65", func := "semaphore/semaphorelaw6.SightFirst", spec := "sightFirst", unfollowed := true, recurses := true, plainKeys := false, apart := false, narrowed := true }
def SightFirstUptoSaid : Prop := sightFirstUptoRow.holds Try.pinned (OpenSpec.upto sightFirstSpec)

/-- 'semaphorelaw6.SightOn', WHERE WHAT IT READS IS OF BULK AT MOST 1048576: true; the input reads as it did. -/
def sightOnUptoRow : OpenClaim := { program := "ytackcfoplhhnbaa", sum := "b5225bc67a0cd4ef160c59e4c0a4da89cc14232e571a9f51381c0cd8d644ce65", func := "semaphore/semaphorelaw6.SightOn", spec := "sightOn", unfollowed := true, recurses := true, plainKeys := false, apart := false, narrowed := true }
def SightOnUptoSaid : Prop := sightOnUptoRow.holds Try.pinned (OpenSpec.upto sightOnSpec)

/-- 'semaphorelaw6.SightLoops', WHERE WHAT IT READS IS OF BULK AT MOST 1048576: true; the input reads as it did. -/
def sightLoopsUptoRow : OpenClaim := { program := "ytackcfoplhhnbaa", sum := "b5225bc67a0cd4ef160c59e4c0a4da89cc14232e571a9f51381c0cd8d644ce65", func := "semaphore/semaphorelaw6.SightLoops", spec := "sightLoops", unfollowed := true, recurses := true, plainKeys := false, apart := false, narrowed := true }
def SightLoopsUptoSaid : Prop := sightLoopsUptoRow.holds Try.pinned (OpenSpec.upto sightLoopsSpec)

/-- 'semaphorelaw6.SightReads', WHERE WHAT IT READS IS OF BULK AT MOST 1048576: true; the input reads as it did. -/
def sightReadsUptoRow : OpenClaim := { program := "ytackcfoplhhnbaa", sum := "b5225bc67a0cd4ef160c59e4c0a4da89cc14232e571a9f51381c0cd8d644ce65", func := "semaphore/semaphorelaw6.SightReads", spec := "sightReads", unfollowed := true, recurses := true, plainKeys := false, apart := false, narrowed := true }
def SightReadsUptoSaid : Prop := sightReadsUptoRow.holds Try.pinned (OpenSpec.upto sightReadsSpec)

end Rows
end Go.Proofs.Ytackcfoplhhnbaa
