/- Walk of semaphorelaw10.Roads. Condition: the plan is read. -/
import Derived.Test.YtnkpiijljfjmkaaClashB3
set_option maxRecDepth 1000000
namespace Go.Proofs.Ytnkpiijljfjmkaa
open Go.ChangeShapes Go.WideShapes Go.ChangeAt Go.RowKit Go.Sort

/-- the roads of a plan that may be; or false -/
def RoadsPost (w : World) (p : Plan) (e : Ending) (w' : World) : Prop := Below w.heap.size w w' ∧
 (e = .returned (.tuple #[.slice none 0 0, .bool false]) ∨
 ∃ (a : Option Addr) (n c : Nat) (xs : List RoadV), fine p = true ∧ roadsOf p = some (xs.map (·.r)) ∧ n ≤ 64 ∧ n ≤ c ∧ Roads w' a n xs ∧ e = .returned (.tuple #[.slice a n c, .bool true]))
set_option maxHeartbeats 4000000 in
theorem roads10_any (w : World) (pv : PV) (p : Plan) (h : PlanAt w pv p) : Calls Try.prog 11 #[pv.val p] w (RoadsPost w p) := by
 obtain ⟨ae, ne, ce, aj, nj, cj, as_, ns, cs, al, nl, cl, lv⟩ := pv
 have hP := Lib.hid h
 have HBa := Lib.hid (pbox_new w ⟨ae, ne, ce, aj, nj, cj, as_, ns, cs, al, nl, cl, lv⟩ p)
 have Hba := Lib.hid (below_new w (.cells #[.slice ae ne ce, .slice aj nj cj, .slice as_ ns cs, .slice al nl cl, .int .i64 p.top, .int .i64 p.brake, .int .i64 p.margin, .int .i64 p.throw, .bool p.hard] 27))
 have HF := Lib.hid (finex_l (h.below Hba.out))
 clear h
 dsimp only [PV.val, RoadsPost]
 obtain ⟨_, c0, c1, c2, c3, c4, c5, c6, c7, c8⟩ := HBa.out
 dsimp only at c0 c1 c2 c3
 go_enter Try.func11, Try.ntmps11
 go_wp2_with fail
 cases hf : fine p with
 | false =>
  rw [hf] at HF
  refine HF.out.mono ?_
  rintro e w1 ⟨rfl, hx⟩
  go_wp2_with fail
  go_ret2
  exact ⟨below_step Hba.out hx Hba.out.size, .inl rfl⟩
 | true =>
  rw [hf] at HF
  have Hf := Lib.hid hf
  clear hf
  refine HF.out.mono ?_
  rintro e w1 ⟨rfl, hx⟩
  have HB1 := Lib.hid (HBa.out.below hx)
  have Hb1 := Lib.hid (below_step Hba.out hx Hba.out.size)
  clear hx c0 c1 c2 c3 c4 c5 c6 c7 c8 HF
  obtain ⟨_, c0, c1, c2, c3, c4, c5, c6, c7, c8⟩ := HB1.out
  dsimp only at c0 c1 c2 c3
  have HB := Lib.hid (build_any w1 ⟨ae, ne, ce, aj, nj, cj, as_, ns, cs, al, nl, cl, lv⟩ p (hP.out.below Hb1.out) (fine_few Hf.out).1 (fine_few Hf.out).2)
  dsimp only [PV.val, BuildPost] at HB
  go_wp2_with fail
  refine HB.out.mono ?_
  rintro e w4 ⟨hb4, ⟨hno, rfl⟩ | ⟨a, n, cr, xs, hso, hn64, hncr, hRo, hac, rfl⟩⟩
  ·clear hno
   go_wp2_with fail
   go_ret2
   exact ⟨(below_step Hb1.out hb4 Hb1.out.size).alloc (Nat.le_trans Hb1.out.size hb4.size) _, .inl rfl⟩
  ·have Hso := Lib.hid hso
   have HRo := Lib.hid hRo
   have Hb4 := Lib.hid hb4
   clear hso hRo hac hb4
   go_wp2_with fail
   go_ret2
   exact ⟨(below_step Hb1.out Hb4.out Hb1.out.size).alloc (Nat.le_trans Hb1.out.size Hb4.out.size) _, .inr ⟨a, n, cr, xs, Hf.out, Hso.out, hn64, hncr, HRo.out.below (below_new1 _ _), rfl⟩⟩
end Go.Proofs.Ytnkpiijljfjmkaa
