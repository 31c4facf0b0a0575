/-
  No cell of these rows narrows 'for every input' (looked for: loops, veiled, ifaces, maps, wideKeys, modest, calm, conditions, laid).
  DERIVED. THE GIVEN ROWS OF THIS SEAT. 15 by the template 'for every input the law returns true; each argument reads behind the call as it read before'; 0 by the template 'total and deterministic' (their statements: YtlndfmflbdkpjaaTotals.lean).
  GIVEN WITH THE SEED: the statements are not yours to turn. If you find one false, say at which input.
  Laid BY PROGRAM, IN A SANDBOX (cutbox-rows.mjs): the forced cells as the released guide's own fill.sh prints them over the translation 052351028683fb24… (all of the seat's roots in one cut). By AI agents, Wed Nov 11 2026. No macro, syntax, notation, axiom, sorry.
-/
import Derived.Test.YtlndfmflbdkpjaaChecked
import GoSem.Claim
import GoSem.ClaimJoined
import GoSem.ClaimMapViews
import Derived.JoinedTies
import Derived.KernelRfl
namespace Go.Proofs.Ytlndfmflbdkpjaa
/- THE CELL 'sum', in the pinned program and in every row, IS THE sha256 OF THE DUMP (.gsa) THAT YtlndfmflbdkpjaaProg.lean LOADS. Nothing in Lean hashes anything: it is a label: what it is worth is what the hold of that sum in a sandbox is worth. -/
noncomputable def Try.pinned : Pinned := { name := "ytlndfmflbdkpjaa", sum := "052351028683fb2448d4c8336ca62d386b1666d85b6b5ed51a31983d85eecb75", checked := Try.checked }
namespace Rows
def none {H : Type} : Left H := { results := [], args := [] }

/-- 'semaphorelaw2.PlanKinds': WHATEVER THE INPUT: true; the input reads as it did. -/
def planKindsSpec : ChangeSpec := { name := "planKinds", fn := fun _ => fun
  | [d1, d2, d3] => { results := [.lit (.bool true)], args := [d1, d2, d3] }
  | _ => none }
def planKindsRow : OpenClaim := { program := "ytlndfmflbdkpjaa", sum := "052351028683fb2448d4c8336ca62d386b1666d85b6b5ed51a31983d85eecb75", func := "semaphore/semaphorelaw2.PlanKinds", spec := "planKinds", unfollowed := true, recurses := true, plainKeys := false, apart := false }
def PlanKindsSaid : Prop := planKindsRow.holds Try.pinned (OpenSpec.ofChange planKindsSpec)

/-- ITS FALSE NEIGHBOUR: 'it returns false'. Refute it at one input. -/
def planKindsWrong : ChangeSpec := { name := "planKinds", fn := fun _ => fun
  | [d1, d2, d3] => { results := [.lit (.bool false)], args := [d1, d2, d3] }
  | _ => none }
def PlanKindsWrongFalsely : Prop := planKindsRow.holds Try.pinned (OpenSpec.ofChange planKindsWrong)

/-- 'semaphorelaw2.PlanStops': WHATEVER THE INPUT: true; the input reads as it did. -/
def planStopsSpec : ChangeSpec := { name := "planStops", fn := fun _ => fun
  | [d1, d2] => { results := [.lit (.bool true)], args := [d1, d2] }
  | _ => none }
def planStopsRow : OpenClaim := { program := "ytlndfmflbdkpjaa", sum := "052351028683fb2448d4c8336ca62d386b1666d85b6b5ed51a31983d85eecb75", func := "semaphore/semaphorelaw2.PlanStops", spec := "planStops", unfollowed := true, recurses := true, plainKeys := false, apart := false }
def PlanStopsSaid : Prop := planStopsRow.holds Try.pinned (OpenSpec.ofChange planStopsSpec)

/-- ITS FALSE NEIGHBOUR: 'it returns false'. Refute it at one input. -/
def planStopsWrong : ChangeSpec := { name := "planStops", fn := fun _ => fun
  | [d1, d2] => { results := [.lit (.bool false)], args := [d1, d2] }
  | _ => none }
def PlanStopsWrongFalsely : Prop := planStopsRow.holds Try.pinned (OpenSpec.ofChange planStopsWrong)

/-- 'semaphorelaw2.PlanChecks': WHATEVER THE INPUT: true; the input reads as it did. -/
def planChecksSpec : ChangeSpec := { name := "planChecks", fn := fun _ => fun
  | [d] => { results := [.lit (.bool true)], args := [d] }
  | _ => none }
def planChecksRow : OpenClaim := { program := "ytlndfmflbdkpjaa", sum := "052351028683fb2448d4c8336ca62d386b1666d85b6b5ed51a31983d85eecb75", func := "semaphore/semaphorelaw2.PlanChecks", spec := "planChecks", unfollowed := true, recurses := true, plainKeys := false, apart := false }
def PlanChecksSaid : Prop := planChecksRow.holds Try.pinned (OpenSpec.ofChange planChecksSpec)

/-- ITS FALSE NEIGHBOUR: 'it returns false'. Refute it at one input. -/
def planChecksWrong : ChangeSpec := { name := "planChecks", fn := fun _ => fun
  | [d] => { results := [.lit (.bool false)], args := [d] }
  | _ => none }
def PlanChecksWrongFalsely : Prop := planChecksRow.holds Try.pinned (OpenSpec.ofChange planChecksWrong)

/-- 'semaphorelaw2.PlanFinds': WHATEVER THE INPUT: true; the input reads as it did. -/
def planFindsSpec : ChangeSpec := { name := "planFinds", fn := fun _ => fun
  | [d1, d2, d3] => { results := [.lit (.bool true)], args := [d1, d2, d3] }
  | _ => none }
def planFindsRow : OpenClaim := { program := "ytlndfmflbdkpjaa", sum := "052351028683fb2448d4c8336ca62d386b1666d85b6b5ed51a31983d85eecb75", func := "semaphore/semaphorelaw2.PlanFinds", spec := "planFinds", unfollowed := true, recurses := true, plainKeys := false, apart := false }
def PlanFindsSaid : Prop := planFindsRow.holds Try.pinned (OpenSpec.ofChange planFindsSpec)

/-- ITS FALSE NEIGHBOUR: 'it returns false'. Refute it at one input. -/
def planFindsWrong : ChangeSpec := { name := "planFinds", fn := fun _ => fun
  | [d1, d2, d3] => { results := [.lit (.bool false)], args := [d1, d2, d3] }
  | _ => none }
def PlanFindsWrongFalsely : Prop := planFindsRow.holds Try.pinned (OpenSpec.ofChange planFindsWrong)

/-- 'semaphorelaw2.PlanTurned': WHATEVER THE INPUT: true; the input reads as it did. -/
def planTurnedSpec : ChangeSpec := { name := "planTurned", fn := fun _ => fun
  | [d1, d2, d3, d4] => { results := [.lit (.bool true)], args := [d1, d2, d3, d4] }
  | _ => none }
def planTurnedRow : OpenClaim := { program := "ytlndfmflbdkpjaa", sum := "052351028683fb2448d4c8336ca62d386b1666d85b6b5ed51a31983d85eecb75", func := "semaphore/semaphorelaw2.PlanTurned", spec := "planTurned", unfollowed := true, recurses := true, plainKeys := false, apart := false }
def PlanTurnedSaid : Prop := planTurnedRow.holds Try.pinned (OpenSpec.ofChange planTurnedSpec)

/-- ITS FALSE NEIGHBOUR: 'it returns false'. Refute it at one input. -/
def planTurnedWrong : ChangeSpec := { name := "planTurned", fn := fun _ => fun
  | [d1, d2, d3, d4] => { results := [.lit (.bool false)], args := [d1, d2, d3, d4] }
  | _ => none }
def PlanTurnedWrongFalsely : Prop := planTurnedRow.holds Try.pinned (OpenSpec.ofChange planTurnedWrong)

/-- 'semaphorelaw2.PlanTwice': WHATEVER THE INPUT: true; the input reads as it did. -/
def planTwiceSpec : ChangeSpec := { name := "planTwice", fn := fun _ => fun
  | [d1, d2, d3] => { results := [.lit (.bool true)], args := [d1, d2, d3] }
  | _ => none }
def planTwiceRow : OpenClaim := { program := "ytlndfmflbdkpjaa", sum := "052351028683fb2448d4c8336ca62d386b1666d85b6b5ed51a31983d85eecb75", func := "semaphore/semaphorelaw2.PlanTwice", spec := "planTwice", unfollowed := true, recurses := true, plainKeys := false, apart := false }
def PlanTwiceSaid : Prop := planTwiceRow.holds Try.pinned (OpenSpec.ofChange planTwiceSpec)

/-- ITS FALSE NEIGHBOUR: 'it returns false'. Refute it at one input. -/
def planTwiceWrong : ChangeSpec := { name := "planTwice", fn := fun _ => fun
  | [d1, d2, d3] => { results := [.lit (.bool false)], args := [d1, d2, d3] }
  | _ => none }
def PlanTwiceWrongFalsely : Prop := planTwiceRow.holds Try.pinned (OpenSpec.ofChange planTwiceWrong)

/-- 'semaphorelaw2.PlanLonger': WHATEVER THE INPUT: true; the input reads as it did. -/
def planLongerSpec : ChangeSpec := { name := "planLonger", fn := fun _ => fun
  | [d1, d2, d3, d4] => { results := [.lit (.bool true)], args := [d1, d2, d3, d4] }
  | _ => none }
def planLongerRow : OpenClaim := { program := "ytlndfmflbdkpjaa", sum := "052351028683fb2448d4c8336ca62d386b1666d85b6b5ed51a31983d85eecb75", func := "semaphore/semaphorelaw2.PlanLonger", spec := "planLonger", unfollowed := true, recurses := true, plainKeys := false, apart := false }
def PlanLongerSaid : Prop := planLongerRow.holds Try.pinned (OpenSpec.ofChange planLongerSpec)

/-- ITS FALSE NEIGHBOUR: 'it returns false'. Refute it at one input. -/
def planLongerWrong : ChangeSpec := { name := "planLonger", fn := fun _ => fun
  | [d1, d2, d3, d4] => { results := [.lit (.bool false)], args := [d1, d2, d3, d4] }
  | _ => none }
def PlanLongerWrongFalsely : Prop := planLongerRow.holds Try.pinned (OpenSpec.ofChange planLongerWrong)

/-- 'semaphorelaw4.NetWays': WHATEVER THE INPUT: true; the input reads as it did. -/
def netWaysSpec : ChangeSpec := { name := "netWays", fn := fun _ => fun
  | [d1, d2, d3, d4] => { results := [.lit (.bool true)], args := [d1, d2, d3, d4] }
  | _ => none }
def netWaysRow : OpenClaim := { program := "ytlndfmflbdkpjaa", sum := "052351028683fb2448d4c8336ca62d386b1666d85b6b5ed51a31983d85eecb75", func := "semaphore/semaphorelaw4.NetWays", spec := "netWays", unfollowed := true, recurses := true, plainKeys := false, apart := false }
def NetWaysSaid : Prop := netWaysRow.holds Try.pinned (OpenSpec.ofChange netWaysSpec)

/-- ITS FALSE NEIGHBOUR: 'it returns false'. Refute it at one input. -/
def netWaysWrong : ChangeSpec := { name := "netWays", fn := fun _ => fun
  | [d1, d2, d3, d4] => { results := [.lit (.bool false)], args := [d1, d2, d3, d4] }
  | _ => none }
def NetWaysWrongFalsely : Prop := netWaysRow.holds Try.pinned (OpenSpec.ofChange netWaysWrong)

/-- 'semaphorelaw4.NetRound': WHATEVER THE INPUT: true; the input reads as it did. -/
def netRoundSpec : ChangeSpec := { name := "netRound", fn := fun _ => fun
  | [d1, d2, d3, d4] => { results := [.lit (.bool true)], args := [d1, d2, d3, d4] }
  | _ => none }
def netRoundRow : OpenClaim := { program := "ytlndfmflbdkpjaa", sum := "052351028683fb2448d4c8336ca62d386b1666d85b6b5ed51a31983d85eecb75", func := "semaphore/semaphorelaw4.NetRound", spec := "netRound", unfollowed := true, recurses := true, plainKeys := false, apart := false }
def NetRoundSaid : Prop := netRoundRow.holds Try.pinned (OpenSpec.ofChange netRoundSpec)

/-- ITS FALSE NEIGHBOUR: 'it returns false'. Refute it at one input. -/
def netRoundWrong : ChangeSpec := { name := "netRound", fn := fun _ => fun
  | [d1, d2, d3, d4] => { results := [.lit (.bool false)], args := [d1, d2, d3, d4] }
  | _ => none }
def NetRoundWrongFalsely : Prop := netRoundRow.holds Try.pinned (OpenSpec.ofChange netRoundWrong)

/-- 'semaphorelaw4.NetTwice': WHATEVER THE INPUT: true; the input reads as it did. -/
def netTwiceSpec : ChangeSpec := { name := "netTwice", fn := fun _ => fun
  | [d] => { results := [.lit (.bool true)], args := [d] }
  | _ => none }
def netTwiceRow : OpenClaim := { program := "ytlndfmflbdkpjaa", sum := "052351028683fb2448d4c8336ca62d386b1666d85b6b5ed51a31983d85eecb75", func := "semaphore/semaphorelaw4.NetTwice", spec := "netTwice", unfollowed := true, recurses := true, plainKeys := false, apart := false }
def NetTwiceSaid : Prop := netTwiceRow.holds Try.pinned (OpenSpec.ofChange netTwiceSpec)

/-- ITS FALSE NEIGHBOUR: 'it returns false'. Refute it at one input. -/
def netTwiceWrong : ChangeSpec := { name := "netTwice", fn := fun _ => fun
  | [d] => { results := [.lit (.bool false)], args := [d] }
  | _ => none }
def NetTwiceWrongFalsely : Prop := netTwiceRow.holds Try.pinned (OpenSpec.ofChange netTwiceWrong)

/-- 'semaphorelaw4.NetNews': WHATEVER THE INPUT: true; the input reads as it did. -/
def netNewsSpec : ChangeSpec := { name := "netNews", fn := fun _ => fun
  | [d1, d2] => { results := [.lit (.bool true)], args := [d1, d2] }
  | _ => none }
def netNewsRow : OpenClaim := { program := "ytlndfmflbdkpjaa", sum := "052351028683fb2448d4c8336ca62d386b1666d85b6b5ed51a31983d85eecb75", func := "semaphore/semaphorelaw4.NetNews", spec := "netNews", unfollowed := true, recurses := true, plainKeys := false, apart := false }
def NetNewsSaid : Prop := netNewsRow.holds Try.pinned (OpenSpec.ofChange netNewsSpec)

/-- ITS FALSE NEIGHBOUR: 'it returns false'. Refute it at one input. -/
def netNewsWrong : ChangeSpec := { name := "netNews", fn := fun _ => fun
  | [d1, d2] => { results := [.lit (.bool false)], args := [d1, d2] }
  | _ => none }
def NetNewsWrongFalsely : Prop := netNewsRow.holds Try.pinned (OpenSpec.ofChange netNewsWrong)

/-- 'semaphorelaw4.NetPorts': WHATEVER THE INPUT: true; the input reads as it did. -/
def netPortsSpec : ChangeSpec := { name := "netPorts", fn := fun _ => fun
  | [d1, d2, d3] => { results := [.lit (.bool true)], args := [d1, d2, d3] }
  | _ => none }
def netPortsRow : OpenClaim := { program := "ytlndfmflbdkpjaa", sum := "052351028683fb2448d4c8336ca62d386b1666d85b6b5ed51a31983d85eecb75", func := "semaphore/semaphorelaw4.NetPorts", spec := "netPorts", unfollowed := true, recurses := true, plainKeys := false, apart := false }
def NetPortsSaid : Prop := netPortsRow.holds Try.pinned (OpenSpec.ofChange netPortsSpec)

/-- ITS FALSE NEIGHBOUR: 'it returns false'. Refute it at one input. -/
def netPortsWrong : ChangeSpec := { name := "netPorts", fn := fun _ => fun
  | [d1, d2, d3] => { results := [.lit (.bool false)], args := [d1, d2, d3] }
  | _ => none }
def NetPortsWrongFalsely : Prop := netPortsRow.holds Try.pinned (OpenSpec.ofChange netPortsWrong)

/-- 'semaphorelaw4.NetSignals': WHATEVER THE INPUT: true; the input reads as it did. -/
def netSignalsSpec : ChangeSpec := { name := "netSignals", fn := fun _ => fun
  | [d1, d2] => { results := [.lit (.bool true)], args := [d1, d2] }
  | _ => none }
def netSignalsRow : OpenClaim := { program := "ytlndfmflbdkpjaa", sum := "052351028683fb2448d4c8336ca62d386b1666d85b6b5ed51a31983d85eecb75", func := "semaphore/semaphorelaw4.NetSignals", spec := "netSignals", unfollowed := true, recurses := true, plainKeys := false, apart := false }
def NetSignalsSaid : Prop := netSignalsRow.holds Try.pinned (OpenSpec.ofChange netSignalsSpec)

/-- ITS FALSE NEIGHBOUR: 'it returns false'. Refute it at one input. -/
def netSignalsWrong : ChangeSpec := { name := "netSignals", fn := fun _ => fun
  | [d1, d2] => { results := [.lit (.bool false)], args := [d1, d2] }
  | _ => none }
def NetSignalsWrongFalsely : Prop := netSignalsRow.holds Try.pinned (OpenSpec.ofChange netSignalsWrong)

/-- 'semaphorelaw4.NetLeads': WHATEVER THE INPUT: true; the input reads as it did. -/
def netLeadsSpec : ChangeSpec := { name := "netLeads", fn := fun _ => fun
  | [d] => { results := [.lit (.bool true)], args := [d] }
  | _ => none }
def netLeadsRow : OpenClaim := { program := "ytlndfmflbdkpjaa", sum := "052351028683fb2448d4c8336ca62d386b1666d85b6b5ed51a31983d85eecb75", func := "semaphore/semaphorelaw4.NetLeads", spec := "netLeads", unfollowed := true, recurses := true, plainKeys := false, apart := false }
def NetLeadsSaid : Prop := netLeadsRow.holds Try.pinned (OpenSpec.ofChange netLeadsSpec)

/-- ITS FALSE NEIGHBOUR: 'it returns false'. Refute it at one input. -/
def netLeadsWrong : ChangeSpec := { name := "netLeads", fn := fun _ => fun
  | [d] => { results := [.lit (.bool false)], args := [d] }
  | _ => none }
def NetLeadsWrongFalsely : Prop := netLeadsRow.holds Try.pinned (OpenSpec.ofChange netLeadsWrong)

/-- 'semaphorelaw4.NetLines': WHATEVER THE INPUT: true; the input reads as it did. -/
def netLinesSpec : ChangeSpec := { name := "netLines", fn := fun _ => fun
  | [d1, d2, d3] => { results := [.lit (.bool true)], args := [d1, d2, d3] }
  | _ => none }
def netLinesRow : OpenClaim := { program := "ytlndfmflbdkpjaa", sum := "052351028683fb2448d4c8336ca62d386b1666d85b6b5ed51a31983d85eecb75", func := "semaphore/semaphorelaw4.NetLines", spec := "netLines", unfollowed := true, recurses := true, plainKeys := false, apart := false }
def NetLinesSaid : Prop := netLinesRow.holds Try.pinned (OpenSpec.ofChange netLinesSpec)

/-- ITS FALSE NEIGHBOUR: 'it returns false'. Refute it at one input. -/
def netLinesWrong : ChangeSpec := { name := "netLines", fn := fun _ => fun
  | [d1, d2, d3] => { results := [.lit (.bool false)], args := [d1, d2, d3] }
  | _ => none }
def NetLinesWrongFalsely : Prop := netLinesRow.holds Try.pinned (OpenSpec.ofChange netLinesWrong)

/- THE SECOND FORM. 'bulk': how many values and letters a reading holds, each counted each time it is reached (what is shared counts as often as it is met; a slice's spare places count too). A statement '..UptoSaid' is the law's where the arguments, and the package variables that the reading takes, are together of bulk at most 1048576: NARROWER than '..Said'. Prove '..Said' where nothing that the law and all that it calls make is longer than what came in: it says more and counts as full. Else prove '..UptoSaid'. A law counts once. -/
mutual
def uptoBulk {H : Type} : DataW H → Nat
  | .lit (.string bytes) => bytes.length + 1
  | .lit _ => 1
  | .nil => 1
  | .ptr d => uptoBulk d + 1
  | .slice elems spare => uptoBulkAll elems + uptoBulkAll spare + 1
  | .agg parts => uptoBulkAll parts + 1
  | .iface _ d => uptoBulk d + 1
  | .map entries => uptoBulkEntries entries + 1
  | .held _ => 1
def uptoBulkAll {H : Type} : List (DataW H) → Nat
  | [] => 0
  | d :: r => uptoBulk d + uptoBulkAll r
def uptoBulkEntries {H : Type} : List (Lit × DataW H) → Nat
  | [] => 0
  | x :: r => uptoBulkEntry x + uptoBulkEntries r
def uptoBulkEntry {H : Type} : Lit × DataW H → Nat
  | (.string bytes, d) => bytes.length + uptoBulk d + 1
  | (_, d) => uptoBulk d + 1
 end
def uptoSmall : (H : Type) → List (DataW H) → Bool := fun _ ds => decide (uptoBulkAll ds ≤ 1048576)
def OpenSpec.upto (s : _root_.Go.ChangeSpec) : _root_.Go.OpenSpec := { _root_.Go.OpenSpec.ofChange s with cond := some uptoSmall }

/-- 'semaphorelaw2.PlanKinds', WHERE WHAT IT READS IS OF BULK AT MOST 1048576: true; the input reads as it did. -/
def planKindsUptoRow : OpenClaim := { program := "ytlndfmflbdkpjaa", sum := "052351028683fb2448d4c8336ca62d386b1666d85b6b5ed51a31983d85eecb75", func := "semaphore/semaphorelaw2.PlanKinds", spec := "planKinds", unfollowed := true, recurses := true, plainKeys := false, apart := false, narrowed := true }
def PlanKindsUptoSaid : Prop := planKindsUptoRow.holds Try.pinned (OpenSpec.upto planKindsSpec)

/-- 'semaphorelaw2.PlanStops', WHERE WHAT IT READS IS OF BULK AT MOST 1048576: true; the input reads as it did. -/
def planStopsUptoRow : OpenClaim := { program := "ytlndfmflbdkpjaa", sum := "052351028683fb2448d4c8336ca62d386b1666d85b6b5ed51a31983d85eecb75", func := "semaphore/semaphorelaw2.PlanStops", spec := "planStops", unfollowed := true, recurses := true, plainKeys := false, apart := false, narrowed := true }
def PlanStopsUptoSaid : Prop := planStopsUptoRow.holds Try.pinned (OpenSpec.upto planStopsSpec)

/-- 'semaphorelaw2.PlanChecks', WHERE WHAT IT READS IS OF BULK AT MOST 1048576: true; the input reads as it did. -/
def planChecksUptoRow : OpenClaim := { program := "ytlndfmflbdkpjaa", sum := "052351028683fb2448d4c8336ca62d386b1666d85b6b5ed51a31983d85eecb75", func := "semaphore/semaphorelaw2.PlanChecks", spec := "planChecks", unfollowed := true, recurses := true, plainKeys := false, apart := false, narrowed := true }
def PlanChecksUptoSaid : Prop := planChecksUptoRow.holds Try.pinned (OpenSpec.upto planChecksSpec)

/-- 'semaphorelaw2.PlanFinds', WHERE WHAT IT READS IS OF BULK AT MOST 1048576: true; the input reads as it did. -/
def planFindsUptoRow : OpenClaim := { program := "ytlndfmflbdkpjaa", sum := "052351028683fb2448d4c8336ca62d386b1666d85b6b5ed51a31983d85eecb75", func := "semaphore/semaphorelaw2.PlanFinds", spec := "planFinds", unfollowed := true, recurses := true, plainKeys := false, apart := false, narrowed := true }
def PlanFindsUptoSaid : Prop := planFindsUptoRow.holds Try.pinned (OpenSpec.upto planFindsSpec)

/-- 'semaphorelaw2.PlanTurned', WHERE WHAT IT READS IS OF BULK AT MOST 1048576: true; the input reads as it did. -/
def planTurnedUptoRow : OpenClaim := { program := "ytlndfmflbdkpjaa", sum := "052351028683fb2448d4c8336ca62d386b1666d85b6b5ed51a31983d85eecb75", func := "semaphore/semaphorelaw2.PlanTurned", spec := "planTurned", unfollowed := true, recurses := true, plainKeys := false, apart := false, narrowed := true }
def PlanTurnedUptoSaid : Prop := planTurnedUptoRow.holds Try.pinned (OpenSpec.upto planTurnedSpec)

/-- 'semaphorelaw2.PlanTwice', WHERE WHAT IT READS IS OF BULK AT MOST 1048576: true; the input reads as it did. -/
def planTwiceUptoRow : OpenClaim := { program := "ytlndfmflbdkpjaa", sum := "052351028683fb2448d4c8336ca62d386b1666d85b6b5ed51a31983d85eecb75", func := "semaphore/semaphorelaw2.PlanTwice", spec := "planTwice", unfollowed := true, recurses := true, plainKeys := false, apart := false, narrowed := true }
def PlanTwiceUptoSaid : Prop := planTwiceUptoRow.holds Try.pinned (OpenSpec.upto planTwiceSpec)

/-- 'semaphorelaw2.PlanLonger', WHERE WHAT IT READS IS OF BULK AT MOST 1048576: true; the input reads as it did. -/
def planLongerUptoRow : OpenClaim := { program := "ytlndfmflbdkpjaa", sum := "052351028683fb2448d4c8336ca62d386b1666d85b6b5ed51a31983d85eecb75", func := "semaphore/semaphorelaw2.PlanLonger", spec := "planLonger", unfollowed := true, recurses := true, plainKeys := false, apart := false, narrowed := true }
def PlanLongerUptoSaid : Prop := planLongerUptoRow.holds Try.pinned (OpenSpec.upto planLongerSpec)

/-- 'semaphorelaw4.NetWays', WHERE WHAT IT READS IS OF BULK AT MOST 1048576: true; the input reads as it did. -/
def netWaysUptoRow : OpenClaim := { program := "ytlndfmflbdkpjaa", sum := "052351028683fb2448d4c8336ca62d386b1666d85b6b5ed51a31983d85eecb75", func := "semaphore/semaphorelaw4.NetWays", spec := "netWays", unfollowed := true, recurses := true, plainKeys := false, apart := false, narrowed := true }
def NetWaysUptoSaid : Prop := netWaysUptoRow.holds Try.pinned (OpenSpec.upto netWaysSpec)

/-- 'semaphorelaw4.NetRound', WHERE WHAT IT READS IS OF BULK AT MOST 1048576: true; the input reads as it did. -/
def netRoundUptoRow : OpenClaim := { program := "ytlndfmflbdkpjaa", sum := "052351028683fb2448d4c8336ca62d386b1666d85b6b5ed51a31983d85eecb75", func := "semaphore/semaphorelaw4.NetRound", spec := "netRound", unfollowed := true, recurses := true, plainKeys := false, apart := false, narrowed := true }
def NetRoundUptoSaid : Prop := netRoundUptoRow.holds Try.pinned (OpenSpec.upto netRoundSpec)

/-- 'semaphorelaw4.NetTwice', WHERE WHAT IT READS IS OF BULK AT MOST 1048576: true; the input reads as it did. -/
def netTwiceUptoRow : OpenClaim := { program := "ytlndfmflbdkpjaa", sum := "052351028683fb2448d4c8336ca62d386b1666d85b6b5ed51a31983d85eecb75", func := "semaphore/semaphorelaw4.NetTwice", spec := "netTwice", unfollowed := true, recurses := true, plainKeys := false, apart := false, narrowed := true }
def NetTwiceUptoSaid : Prop := netTwiceUptoRow.holds Try.pinned (OpenSpec.upto netTwiceSpec)

/-- 'semaphorelaw4.NetNews', WHERE WHAT IT READS IS OF BULK AT MOST 1048576: true; the input reads as it did. -/
def netNewsUptoRow : OpenClaim := { program := "ytlndfmflbdkpjaa", sum := "052351028683fb2448d4c8336ca62d386b1666d85b6b5ed51a31983d85eecb75", func := "semaphore/semaphorelaw4.NetNews", spec := "netNews", unfollowed := true, recurses := true, plainKeys := false, apart := false, narrowed := true }
def NetNewsUptoSaid : Prop := netNewsUptoRow.holds Try.pinned (OpenSpec.upto netNewsSpec)

/-- 'semaphorelaw4.NetPorts', WHERE WHAT IT READS IS OF BULK AT MOST 1048576: true; the input reads as it did. -/
def netPortsUptoRow : OpenClaim := { program := "ytlndfmflbdkpjaa", sum := "052351028683fb2448d4c8336ca62d386b1666d85b6b5ed51a31983d85eecb75", func := "semaphore/semaphorelaw4.NetPorts", spec := "netPorts", unfollowed := true, recurses := true, plainKeys := false, apart := false, narrowed := true }
def NetPortsUptoSaid : Prop := netPortsUptoRow.holds Try.pinned (OpenSpec.upto netPortsSpec)

/-- 'semaphorelaw4.NetSignals', WHERE WHAT IT READS IS OF BULK AT MOST 1048576: true; the input reads as it did. -/
def netSignalsUptoRow : OpenClaim := { program := "ytlndfmflbdkpjaa", sum := "052351028683fb2448d4c8336ca62d386b1666d85b6b5ed51a31983d85eecb75", func := "semaphore/semaphorelaw4.NetSignals", spec := "netSignals", unfollowed := true, recurses := true, plainKeys := false, apart := false, narrowed := true }
def NetSignalsUptoSaid : Prop := netSignalsUptoRow.holds Try.pinned (OpenSpec.upto netSignalsSpec)

/-- 'semaphorelaw4.NetLeads', WHERE WHAT IT READS IS OF BULK AT MOST 1048576: true; the input reads as it did. -/
def netLeadsUptoRow : OpenClaim := { program := "ytlndfmflbdkpjaa", sum := "052351028683fb2448d4c8336ca62d386b1666d85b6b5ed51a31983d85eecb75", func := "semaphore/semaphorelaw4.NetLeads", spec := "netLeads", unfollowed := true, recurses := true, plainKeys := false, apart := false, narrowed := true }
def NetLeadsUptoSaid : Prop := netLeadsUptoRow.holds Try.pinned (OpenSpec.upto netLeadsSpec)

/-- 'semaphorelaw4.NetLines', WHERE WHAT IT READS IS OF BULK AT MOST 1048576: true; the input reads as it did. -/
def netLinesUptoRow : OpenClaim := { program := "ytlndfmflbdkpjaa", sum := "052351028683fb2448d4c8336ca62d386b1666d85b6b5ed51a31983d85eecb75", func := "semaphore/semaphorelaw4.NetLines", spec := "netLines", unfollowed := true, recurses := true, plainKeys := false, apart := false, narrowed := true }
def NetLinesUptoSaid : Prop := netLinesUptoRow.holds Try.pinned (OpenSpec.upto netLinesSpec)

end Rows
end Go.Proofs.Ytlndfmflbdkpjaa
