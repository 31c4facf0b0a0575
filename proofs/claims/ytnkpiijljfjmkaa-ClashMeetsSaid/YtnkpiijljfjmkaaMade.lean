/- Walks of semaphoreref6.Fine and semaphorelaw4.Made. No condition beyond the plan that is read. -/
import Derived.Test.YtnkpiijljfjmkaaNetW3
import Derived.Test.YtnkpiijljfjmkaaRefC7
import Derived.Test.YtnkpiijljfjmkaaNetM1
import Derived.Test.YtnkpiijljfjmkaaPlanW11
import Derived.Test.YtnkpiijljfjmkaaPlanRow
set_option maxRecDepth 1000000
namespace Go.Proofs.Ytnkpiijljfjmkaa
open Go.ChangeShapes Go.WideShapes Go.ChangeAt Go.RowKit Go.Sort

theorem fine_few {p : Plan} (h : fine p = true) : few p = true ∧ chk p = 0 := by
 unfold fine at h; simpa using h
theorem finex_any (w : World) (pv : PV) (p : Plan) (h : PlanAt w pv p) :
  Calls Try.prog 15 #[pv.val p] w fun e w' => e = .returned (.bool (fine p)) ∧ Below w.heap.size w w' := by
 obtain ⟨ae, ne, ce, aj, nj, cj, as_, ns, cs, al, nl, cl, lv⟩ := pv
 have hP := Lib.hid h
 have HBa := Lib.hid (pbox_new w ⟨ae, ne, ce, aj, nj, cj, as_, ns, cs, al, nl, cl, lv⟩ p)
 have Hba := Lib.hid (below_new w (.cells #[.slice ae ne ce, .slice aj nj cj, .slice as_ ns cs, .slice al nl cl, .int .i64 p.top, .int .i64 p.brake, .int .i64 p.margin, .int .i64 p.throw, .bool p.hard] 27))
 clear h
 dsimp only [PV.val]
 obtain ⟨_, c0, c1, c2, c3, c4, c5, c6, c7, c8⟩ := HBa.out
 dsimp only at c0 c1 c2 c3
 have HF := Lib.hid (fewx_l (hP.out.below Hba.out))
 have Hfe := Lib.hid (show fine p = (few p && decide (chk p = 0)) from rfl)
 cases hfew : few p with
 | false =>
  rw [hfew] at HF Hfe
  clear hfew
  go_enter Try.func15, Try.ntmps15
  go_wp2_with fail
  refine HF.out.mono ?_
  rintro e w1 ⟨rfl, hbx⟩
  have Hb1 := Lib.hid (below_step Hba.out hbx Hba.out.size)
  clear hbx c0 c1 c2 c3 c4 c5 c6 c7 c8
  go_wp2_with fail
  go_ret
  exact ⟨ret_bool (by rw [Hfe.out]; rfl), Hb1.out⟩
 | true =>
  have Hok := Lib.hid (few_ok hP.out hfew)
  rw [hfew] at HF Hfe
  clear hfew
  by_cases h0 : chk p = 0
  ·have q1 : (chk p == 0) = true := by simp [h0]
   have Hf := Lib.hid (show fine p = true by rw [Hfe.out]; simp [h0])
   clear h0
   go_enter Try.func15, Try.ntmps15
   go_wp2_with fail
   refine HF.out.mono ?_
   rintro e w1 ⟨rfl, hbx⟩
   have HB1 := Lib.hid (HBa.out.below hbx)
   have Hb1 := Lib.hid (below_step Hba.out hbx Hba.out.size)
   clear hbx c0 c1 c2 c3 c4 c5 c6 c7 c8
   obtain ⟨_, c0, c1, c2, c3, c4, c5, c6, c7, c8⟩ := HB1.out
   dsimp only at c0 c1 c2 c3
   go_wp2_with fail
   refine (refcheck_l2 (fun x hx => by have := Hok.out.2.2.2.2 x hx; omega) (hP.out.below Hb1.out)).mono ?_
   rintro e w2 ⟨rfl, hbx⟩
   have Hb2 := Lib.hid (below_step Hb1.out hbx Hb1.out.size)
   clear hbx
   go_wp2_with fail
   go_ret
   exact ⟨ret_bool Hf.out.symm, Hb2.out⟩
  ·have q1 : (chk p == 0) = false := by simp [h0]
   have Hf := Lib.hid (show fine p = false by rw [Hfe.out]; simp [h0])
   clear h0
   go_enter Try.func15, Try.ntmps15
   go_wp2_with fail
   refine HF.out.mono ?_
   rintro e w1 ⟨rfl, hbx⟩
   have HB1 := Lib.hid (HBa.out.below hbx)
   have Hb1 := Lib.hid (below_step Hba.out hbx Hba.out.size)
   clear hbx c0 c1 c2 c3 c4 c5 c6 c7 c8
   obtain ⟨_, c0, c1, c2, c3, c4, c5, c6, c7, c8⟩ := HB1.out
   dsimp only at c0 c1 c2 c3
   go_wp2_with fail
   refine (refcheck_l2 (fun x hx => by have := Hok.out.2.2.2.2 x hx; omega) (hP.out.below Hb1.out)).mono ?_
   rintro e w2 ⟨rfl, hbx⟩
   have Hb2 := Lib.hid (below_step Hb1.out hbx Hb1.out.size)
   clear hbx
   go_wp2_with fail
   go_ret
   exact ⟨ret_bool Hf.out.symm, Hb2.out⟩
def MadePost (w : World) (p : Plan) (e : Ending) (w' : World) : Prop := ∃ b : Nat, e = .returned (.pointer (some ⟨b, 0, none⟩)) ∧ w.heap.size ≤ b ∧ NetAt w' b p ∧ Below w.heap.size w w'
theorem new_l {w : World} {ae aj as_ al : Option Addr} {ne ce nj cj ns cs nl cl : Nat} {lv : List LineV} {p : Plan} (hf : FewOk ⟨ae, ne, ce, aj, nj, cj, as_, ns, cs, al, nl, cl, lv⟩) (h : PlanAt w ⟨ae, ne, ce, aj, nj, cj, as_, ns, cs, al, nl, cl, lv⟩ p) : Calls Try.prog 25 #[.agg #[.slice ae ne ce, .slice aj nj cj, .slice as_ ns cs, .slice al nl cl, .int .i64 p.top, .int .i64 p.brake, .int .i64 p.margin, .int .i64 p.throw, .bool p.hard]] w (NewPost w p) := new_any w ⟨ae, ne, ce, aj, nj, cj, as_, ns, cs, al, nl, cl, lv⟩ p hf h
theorem finex_l {w : World} {ae aj as_ al : Option Addr} {ne ce nj cj ns cs nl cl : Nat} {lv : List LineV} {p : Plan} (h : PlanAt w ⟨ae, ne, ce, aj, nj, cj, as_, ns, cs, al, nl, cl, lv⟩ p) : Calls Try.prog 15 #[.agg #[.slice ae ne ce, .slice aj nj cj, .slice as_ ns cs, .slice al nl cl, .int .i64 p.top, .int .i64 p.brake, .int .i64 p.margin, .int .i64 p.throw, .bool p.hard]] w fun e w' => e = .returned (.bool (fine p)) ∧ Below w.heap.size w w' := finex_any w ⟨ae, ne, ce, aj, nj, cj, as_, ns, cs, al, nl, cl, lv⟩ p h
theorem made_any (w : World) (pv : PV) (p : Plan) (hf : fine p = true) (h : PlanAt w pv p) : Calls Try.prog 12 #[pv.val p] w (MadePost w p) := by
 obtain ⟨ae, ne, ce, aj, nj, cj, as_, ns, cs, al, nl, cl, lv⟩ := pv
 have hP := Lib.hid h
 have HBa := Lib.hid (pbox_new w ⟨ae, ne, ce, aj, nj, cj, as_, ns, cs, al, nl, cl, lv⟩ p)
 have Hba := Lib.hid (below_new w (.cells #[.slice ae ne ce, .slice aj nj cj, .slice as_ ns cs, .slice al nl cl, .int .i64 p.top, .int .i64 p.brake, .int .i64 p.margin, .int .i64 p.throw, .bool p.hard] 27))
 have HF := Lib.hid (finex_l (hP.out.below Hba.out))
 rw [hf] at HF
 have Hok := Lib.hid (few_ok h (fine_few hf).1)
 have Hc := Lib.hid (fine_few hf).2
 clear h hf
 dsimp only [PV.val]
 obtain ⟨_, c0, c1, c2, c3, c4, c5, c6, c7, c8⟩ := HBa.out
 dsimp only at c0 c1 c2 c3
 go_enter Try.func12, Try.ntmps12
 go_wp2_with fail
 refine HF.out.mono ?_
 rintro e w1 ⟨rfl, hbx⟩
 have HB1 := Lib.hid (HBa.out.below hbx)
 have Hb1 := Lib.hid (below_step Hba.out hbx Hba.out.size)
 clear hbx c0 c1 c2 c3 c4 c5 c6 c7 c8
 obtain ⟨_, c0, c1, c2, c3, c4, c5, c6, c7, c8⟩ := HB1.out
 dsimp only at c0 c1 c2 c3
 go_wp2_with fail
 refine (new_l Hok.out (hP.out.below Hb1.out)).mono ?_
 rintro e w2 (⟨hc, _, _⟩ | ⟨_, b, rfl, hb, hn, hbx⟩)
 ·exact absurd Hc.out hc
 have Hb2 := Lib.hid (below_step Hb1.out hbx Hb1.out.size)
 have HN := Lib.hid hn
 have hbb := Hb1.out.size
 clear hbx hn
 go_wp2_with fail
 go_ret
 exact ⟨b, rfl, by omega, HN.out, Hb2.out⟩
end Go.Proofs.Ytnkpiijljfjmkaa

/- What semaphorelaw4 knows of the small plan's net holds. No condition. -/
set_option maxRecDepth 1000000
namespace Go.Proofs.Ytnkpiijljfjmkaa
open Go.ChangeShapes Go.WideShapes Go.ChangeAt Go.RowKit Go.Sort

theorem small_fine : fine smallPlan = true := by decide +kernel
end Go.Proofs.Ytnkpiijljfjmkaa

/- The contracts of chapter 4's functions at a plan's value written out. Condition: as in the contracts. -/
set_option maxRecDepth 1000000
namespace Go.Proofs.Ytnkpiijljfjmkaa
open Go.ChangeShapes Go.WideShapes Go.ChangeAt Go.RowKit Go.Sort

section
variable {w : World} {ae aj as_ al : Option Addr} {ne ce nj cj ns cs nl cl : Nat} {lv : List LineV} {p : Plan}
theorem made_l (hf : fine p = true) (h : PlanAt w ⟨ae, ne, ce, aj, nj, cj, as_, ns, cs, al, nl, cl, lv⟩ p) : Calls Try.prog 12 #[.agg #[.slice ae ne ce, .slice aj nj cj, .slice as_ ns cs, .slice al nl cl, .int .i64 p.top, .int .i64 p.brake, .int .i64 p.margin, .int .i64 p.throw, .bool p.hard]] w (MadePost w p) := made_any w ⟨ae, ne, ce, aj, nj, cj, as_, ns, cs, al, nl, cl, lv⟩ p hf h
theorem reflead_l (hf : FewOk ⟨ae, ne, ce, aj, nj, cj, as_, ns, cs, al, nl, cl, lv⟩) (hc : chk p = 0) {e i : Int} (h : PlanAt w ⟨ae, ne, ce, aj, nj, cj, as_, ns, cs, al, nl, cl, lv⟩ p) : Calls Try.prog 47 #[.agg #[.slice ae ne ce, .slice aj nj cj, .slice as_ ns cs, .slice al nl cl, .int .i64 p.top, .int .i64 p.brake, .int .i64 p.margin, .int .i64 p.throw, .bool p.hard], .int .i64 e, .int .i64 i] w fun en w' => en = .returned (.int .i64 (lead p e i)) ∧ Below w.heap.size w w' := reflead_any w ⟨ae, ne, ce, aj, nj, cj, as_, ns, cs, al, nl, cl, lv⟩ p h hf hc e i
theorem reflineof_l {e : Int} (h : PlanAt w ⟨ae, ne, ce, aj, nj, cj, as_, ns, cs, al, nl, cl, lv⟩ p) : Calls Try.prog 46 #[.agg #[.slice ae ne ce, .slice aj nj cj, .slice as_ ns cs, .slice al nl cl, .int .i64 p.top, .int .i64 p.brake, .int .i64 p.margin, .int .i64 p.throw, .bool p.hard], .int .i64 e] w fun en w' => en = .returned (.tuple #[.int .i64 (linePair (lineOf p e)).1, .int .i64 (linePair (lineOf p e)).2]) ∧ Below w.heap.size w w' := reflineof_any w ⟨ae, ne, ce, aj, nj, cj, as_, ns, cs, al, nl, cl, lv⟩ p h e
theorem refat_l {s : Int} (h : PlanAt w ⟨ae, ne, ce, aj, nj, cj, as_, ns, cs, al, nl, cl, lv⟩ p) : Calls Try.prog 82 #[.agg #[.slice ae ne ce, .slice aj nj cj, .slice as_ ns cs, .slice al nl cl, .int .i64 p.top, .int .i64 p.brake, .int .i64 p.margin, .int .i64 p.throw, .bool p.hard], .int .i64 s] w fun en w' => en = .returned (.tuple #[.agg #[.int .i64 ((sigAt p s).getD zeroPort).e, .int .i64 ((sigAt p s).getD zeroPort).n], .bool (sigAt p s).isSome]) ∧ Below w.heap.size w w' := refat_any w ⟨ae, ne, ce, aj, nj, cj, as_, ns, cs, al, nl, cl, lv⟩ p h s
theorem refouts_l {e i : Int} (h : PlanAt w ⟨ae, ne, ce, aj, nj, cj, as_, ns, cs, al, nl, cl, lv⟩ p) : Calls Try.prog 92 #[.agg #[.slice ae ne ce, .slice aj nj cj, .slice as_ ns cs, .slice al nl cl, .int .i64 p.top, .int .i64 p.brake, .int .i64 p.margin, .int .i64 p.throw, .bool p.hard], .int .i64 e, .int .i64 i] w (OutsPost w (outs p e i)) := refouts_any w ⟨ae, ne, ce, aj, nj, cj, as_, ns, cs, al, nl, cl, lv⟩ p h e i
theorem refkind_l {e : Int} (h : PlanAt w ⟨ae, ne, ce, aj, nj, cj, as_, ns, cs, al, nl, cl, lv⟩ p) : Calls Try.prog 84 #[.agg #[.slice ae ne ce, .slice aj nj cj, .slice as_ ns cs, .slice al nl cl, .int .i64 p.top, .int .i64 p.brake, .int .i64 p.margin, .int .i64 p.throw, .bool p.hard], .int .i64 e] w fun en w' => en = .returned (.int .i64 (p.kind e)) ∧ Below w.heap.size w w' := refkind_any w ⟨ae, ne, ce, aj, nj, cj, as_, ns, cs, al, nl, cl, lv⟩ p e h
end
end Go.Proofs.Ytnkpiijljfjmkaa
