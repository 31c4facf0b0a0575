/- The contracts of chapter 4's functions at a plan's value written out. Condition: as in the contracts. -/
import Derived.Test.YtackcfoplhhnbaaKnown4
import Derived.Test.YtackcfoplhhnbaaNetM5
import Derived.Test.YtackcfoplhhnbaaPlanRow
set_option maxRecDepth 1000000
namespace Go.Proofs.Ytackcfoplhhnbaa
open Go.ChangeShapes Go.WideShapes Go.ChangeAt Go.RowKit Go.Sort

section
variable {w : World} {ae aj as_ al : Option Addr} {ne ce nj cj ns cs nl cl : Nat} {lv : List LineV} {p : Plan}
theorem made_l (hf : fine p = true) (h : PlanAt w ⟨ae, ne, ce, aj, nj, cj, as_, ns, cs, al, nl, cl, lv⟩ p) : Calls Try.prog 18 #[.agg #[.slice ae ne ce, .slice aj nj cj, .slice as_ ns cs, .slice al nl cl, .int .i64 p.top, .int .i64 p.brake, .int .i64 p.margin, .int .i64 p.throw, .bool p.hard]] w (MadePost w p) := made_any w ⟨ae, ne, ce, aj, nj, cj, as_, ns, cs, al, nl, cl, lv⟩ p hf h
theorem refat_l {s : Int} (h : PlanAt w ⟨ae, ne, ce, aj, nj, cj, as_, ns, cs, al, nl, cl, lv⟩ p) : Calls Try.prog 35 #[.agg #[.slice ae ne ce, .slice aj nj cj, .slice as_ ns cs, .slice al nl cl, .int .i64 p.top, .int .i64 p.brake, .int .i64 p.margin, .int .i64 p.throw, .bool p.hard], .int .i64 s] w fun en w' => en = .returned (.tuple #[.agg #[.int .i64 ((sigAt p s).getD zeroPort).e, .int .i64 ((sigAt p s).getD zeroPort).n], .bool (sigAt p s).isSome]) ∧ Below w.heap.size w w' := refat_any w ⟨ae, ne, ce, aj, nj, cj, as_, ns, cs, al, nl, cl, lv⟩ p h s
theorem refouts_l {e i : Int} (h : PlanAt w ⟨ae, ne, ce, aj, nj, cj, as_, ns, cs, al, nl, cl, lv⟩ p) : Calls Try.prog 77 #[.agg #[.slice ae ne ce, .slice aj nj cj, .slice as_ ns cs, .slice al nl cl, .int .i64 p.top, .int .i64 p.brake, .int .i64 p.margin, .int .i64 p.throw, .bool p.hard], .int .i64 e, .int .i64 i] w (OutsPost w (outs p e i)) := refouts_any w ⟨ae, ne, ce, aj, nj, cj, as_, ns, cs, al, nl, cl, lv⟩ p h e i
theorem refthrough_l {e i pos : Int} (h : PlanAt w ⟨ae, ne, ce, aj, nj, cj, as_, ns, cs, al, nl, cl, lv⟩ p) : Calls Try.prog 56 #[.agg #[.slice ae ne ce, .slice aj nj cj, .slice as_ ns cs, .slice al nl cl, .int .i64 p.top, .int .i64 p.brake, .int .i64 p.margin, .int .i64 p.throw, .bool p.hard], .int .i64 e, .int .i64 i, .int .i64 pos] w fun en w' => en = .returned (.tuple #[.int .i64 ((through p e i pos).getD 0), .bool (through p e i pos).isSome]) ∧ Below w.heap.size w w' := refthrough_any w ⟨ae, ne, ce, aj, nj, cj, as_, ns, cs, al, nl, cl, lv⟩ p h e i pos
theorem reffrom_l {e i pos : Int} (h : PlanAt w ⟨ae, ne, ce, aj, nj, cj, as_, ns, cs, al, nl, cl, lv⟩ p) : Calls Try.prog 59 #[.agg #[.slice ae ne ce, .slice aj nj cj, .slice as_ ns cs, .slice al nl cl, .int .i64 p.top, .int .i64 p.brake, .int .i64 p.margin, .int .i64 p.throw, .bool p.hard], .int .i64 e, .int .i64 i, .int .i64 pos] w fun en w' => en = .returned (.tuple #[.int .i64 ((through p e i pos).getD 0), .bool (through p e i pos).isSome]) ∧ Below w.heap.size w w' := by
  have := reffrom_any w ⟨ae, ne, ce, aj, nj, cj, as_, ns, cs, al, nl, cl, lv⟩ p h e i pos
  rwa [fromRef_eq] at this
end
end Go.Proofs.Ytackcfoplhhnbaa
