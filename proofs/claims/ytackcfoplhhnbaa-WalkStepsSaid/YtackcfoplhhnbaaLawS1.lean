/- WalkSteps: for every input the law returns true. No condition. -/
import Derived.Test.YtackcfoplhhnbaaKnown5
set_option maxRecDepth 1000000
namespace Go.Proofs.Ytackcfoplhhnbaa
open Go.ChangeShapes Go.WideShapes Go.ChangeAt Go.RowKit Go.Sort

set_option maxHeartbeats 4000000 in
theorem lawSteps_any (w : World) (pv : PV) (p : Plan) (pa : Option Addr) (pn pc : Nat) (pos : List Int) (x : Port) (hx : x.wf) (h : PlanAt w pv p) (hr : Hid (Ints w pa pn pos)) :
    Calls Try.prog 3 #[pv.val p, .slice pa pn pc, x.val] w fun en w' => en = .returned (.bool true) ∧ Below w.heap.size w w' := by
  obtain ⟨ae, ne, ce, aj, nj, cj, as_, ns, cs, al, nl, cl, lv⟩ := pv
  have hP := Lib.hid h
  have HBa := Lib.hid ((pbox_new w ⟨ae, ne, ce, aj, nj, cj, as_, ns, cs, al, nl, cl, lv⟩ p).alloc (.cells #[.int .i64 x.e, .int .i64 x.n] 30))
  have Hba := Lib.hid (below_new2 w (.cells #[.slice ae ne ce, .slice aj nj cj, .slice as_ ns cs, .slice al nl cl, .int .i64 p.top, .int .i64 p.brake, .int .i64 p.margin, .int .i64 p.throw, .bool p.hard] 27) (.cells #[.int .i64 x.e, .int .i64 x.n] 30))
  have HXa := Lib.hid (PortBox.new (w.alloc (.cells #[.slice ae ne ce, .slice aj nj cj, .slice as_ ns cs, .slice al nl cl, .int .i64 p.top, .int .i64 p.brake, .int .i64 p.margin, .int .i64 p.throw, .bool p.hard] 27)) (b := w.heap.size + 1) (by simp) x 30)
  have K := Lib.hid (known5_any ((w.alloc (.cells #[.slice ae ne ce, .slice aj nj cj, .slice as_ ns cs, .slice al nl cl, .int .i64 p.top, .int .i64 p.brake, .int .i64 p.margin, .int .i64 p.throw, .bool p.hard] 27)).alloc (.cells #[.int .i64 x.e, .int .i64 x.n] 30)))
  have HF := Lib.hid (fun (u : World) (hb : Below w.heap.size w u) => finex_l (w := u) (hP.out.below hb))
  clear h
  dsimp only [PV.val, Port.val]
  obtain ⟨_, c0, c1, c2, c3, c4, c5, c6, c7, c8⟩ := HBa.out
  dsimp only at c0 c1 c2 c3
  obtain ⟨_, x0, x1, _⟩ := HXa.out
  cases hf : fine p with
  | false =>
    rw [hf] at HF
    clear hf
    go_enter Try.func3, Try.ntmps3
    go_wp2_with fail
    refine (K.out).mono ?_
    rintro e w1 ⟨rfl, hbx⟩
    have HB1 := Lib.hid (HBa.out.below hbx)
    have HX1 := Lib.hid (HXa.out.below hbx)
    have Hb1 := Lib.hid (below_step Hba.out hbx Hba.out.size)
    clear hbx c0 c1 c2 c3 c4 c5 c6 c7 c8 x0 x1
    obtain ⟨_, c0, c1, c2, c3, c4, c5, c6, c7, c8⟩ := HB1.out
    dsimp only at c0 c1 c2 c3
    obtain ⟨_, x0, x1, _⟩ := HX1.out
    clear K
    go_wp2_with fail
    refine (HF.out w1 Hb1.out).mono ?_
    rintro e w2 ⟨rfl, hbx⟩
    have HB2 := Lib.hid (HB1.out.below hbx)
    have HX2 := Lib.hid (HX1.out.below hbx)
    have Hb2 := Lib.hid (below_step Hb1.out hbx Hb1.out.size)
    clear hbx c0 c1 c2 c3 c4 c5 c6 c7 c8 x0 x1
    obtain ⟨_, c0, c1, c2, c3, c4, c5, c6, c7, c8⟩ := HB2.out
    dsimp only at c0 c1 c2 c3
    obtain ⟨_, x0, x1, _⟩ := HX2.out
    go_wp2_with fail
    go_ret
    exact ⟨rfl, Hb2.out⟩
  | true =>
    rw [hf] at HF
    have HM := Lib.hid (fun (u : World) (hb : Below w.heap.size w u) => made_l (w := u) hf (hP.out.below hb))
    have Hok := Lib.hid (few_ok hP.out (fine_few hf).1)
    have Hc := Lib.hid (fine_few hf).2
    have G := Lib.hid (good_of (fine_few hf).2)
    clear hf
    by_cases hq : 100 < pn
    · have q9 : decide ((100 : Int) < (pn : Int)) = true := by simp; omega
      go_enter Try.func3, Try.ntmps3
      go_wp2_with fail
      refine (K.out).mono ?_
      rintro e w1 ⟨rfl, hbx⟩
      have HB1 := Lib.hid (HBa.out.below hbx)
      have HX1 := Lib.hid (HXa.out.below hbx)
      have Hb1 := Lib.hid (below_step Hba.out hbx Hba.out.size)
      clear hbx c0 c1 c2 c3 c4 c5 c6 c7 c8 x0 x1
      obtain ⟨_, c0, c1, c2, c3, c4, c5, c6, c7, c8⟩ := HB1.out
      dsimp only at c0 c1 c2 c3
      obtain ⟨_, x0, x1, _⟩ := HX1.out
      clear K
      go_wp2_with fail
      refine (HF.out w1 Hb1.out).mono ?_
      rintro e w2 ⟨rfl, hbx⟩
      have HB2 := Lib.hid (HB1.out.below hbx)
      have HX2 := Lib.hid (HX1.out.below hbx)
      have Hb2 := Lib.hid (below_step Hb1.out hbx Hb1.out.size)
      clear hbx c0 c1 c2 c3 c4 c5 c6 c7 c8 x0 x1
      obtain ⟨_, c0, c1, c2, c3, c4, c5, c6, c7, c8⟩ := HB2.out
      dsimp only at c0 c1 c2 c3
      obtain ⟨_, x0, x1, _⟩ := HX2.out
      go_wp2_with fail
      go_ret
      exact ⟨rfl, Hb2.out⟩
    have q9 : decide ((100 : Int) < (pn : Int)) = false := by simp; omega
    go_enter Try.func3, Try.ntmps3
    go_wp2_with fail
    refine (K.out).mono ?_
    rintro e w1 ⟨rfl, hbx⟩
    have HB1 := Lib.hid (HBa.out.below hbx)
    have HX1 := Lib.hid (HXa.out.below hbx)
    have Hb1 := Lib.hid (below_step Hba.out hbx Hba.out.size)
    clear hbx c0 c1 c2 c3 c4 c5 c6 c7 c8 x0 x1
    obtain ⟨_, c0, c1, c2, c3, c4, c5, c6, c7, c8⟩ := HB1.out
    dsimp only at c0 c1 c2 c3
    obtain ⟨_, x0, x1, _⟩ := HX1.out
    clear K
    go_wp2_with fail
    refine (HF.out w1 Hb1.out).mono ?_
    rintro e w2 ⟨rfl, hbx⟩
    have HB2 := Lib.hid (HB1.out.below hbx)
    have HX2 := Lib.hid (HX1.out.below hbx)
    have Hb2 := Lib.hid (below_step Hb1.out hbx Hb1.out.size)
    clear hbx c0 c1 c2 c3 c4 c5 c6 c7 c8 x0 x1
    obtain ⟨_, c0, c1, c2, c3, c4, c5, c6, c7, c8⟩ := HB2.out
    dsimp only at c0 c1 c2 c3
    obtain ⟨_, x0, x1, _⟩ := HX2.out
    go_wp2_with fail
    refine (HM.out w2 Hb2.out).mono ?_
    rintro e w3 ⟨b, rfl, hbb, hn, hbx⟩
    have HB3 := Lib.hid (HB2.out.below hbx)
    have HX3 := Lib.hid (HX2.out.below hbx)
    have Hb3 := Lib.hid (below_step Hb2.out hbx Hb2.out.size)
    have HN3 := Lib.hid hn
    have hbb := Nat.le_trans Hb2.out.size hbb
    clear hbx hn HF HM c0 c1 c2 c3 c4 c5 c6 c7 c8 x0 x1
    obtain ⟨_, c0, c1, c2, c3, c4, c5, c6, c7, c8⟩ := HB3.out
    dsimp only at c0 c1 c2 c3
    obtain ⟨_, x0, x1, _⟩ := HX3.out
    have Hr3 := Lib.hid (hr.out.below Hb3.out)
    have D3 := Lib.hid (Below.refl w3.heap.size w3)
    clear q9 hr
    go_wp2_with fail
    obtain ⟨s, hs⟩ : ∃ s, s = step p pos x := ⟨_, rfl⟩
    obtain ⟨y, hy⟩ : ∃ y, y = (back p pos x).getD zeroPort := ⟨_, rfl⟩
    obtain ⟨oy, hoy⟩ : ∃ o, o = (back p pos x).isSome := ⟨_, rfl⟩
    obtain ⟨z, hz⟩ : ∃ z, z = (turn p pos x).getD zeroPort := ⟨_, rfl⟩
    obtain ⟨oz, hoz⟩ : ∃ o, o = (turn p pos x).isSome := ⟨_, rfl⟩
    have C1 := Lib.hid (fun (u : World) (hb : Below w3.heap.size w3 u) => nstep_any u b p (HN3.out.below hb) pa pn pc pos (Lib.hid (Hr3.out.below hb)) x hx)
    have C2 := Lib.hid (fun (u : World) (hb : Below w3.heap.size w3 u) => refstep_any u ⟨ae, ne, ce, aj, nj, cj, as_, ns, cs, al, nl, cl, lv⟩ p (hP.out.below (below_step Hb3.out hb Hb3.out.size)) pa pn pc pos (Lib.hid (Hr3.out.below hb)) x)
    have C3 := Lib.hid (fun (u : World) (hb : Below w3.heap.size w3 u) => nback_any u b p (HN3.out.below hb) pa pn pc pos (Lib.hid (Hr3.out.below hb)) x hx)
    have C4 := Lib.hid (fun (u : World) (hb : Below w3.heap.size w3 u) => refback_any u ⟨ae, ne, ce, aj, nj, cj, as_, ns, cs, al, nl, cl, lv⟩ p (hP.out.below (below_step Hb3.out hb Hb3.out.size)) pa pn pc pos (Lib.hid (Hr3.out.below hb)) x)
    have C5 := Lib.hid (fun (u : World) (hb : Below w3.heap.size w3 u) => nturn_any u b p (HN3.out.below hb) pa pn pc pos (Lib.hid (Hr3.out.below hb)) x)
    have C6 := Lib.hid (fun (u : World) (hb : Below w3.heap.size w3 u) => refturn_any u ⟨ae, ne, ce, aj, nj, cj, as_, ns, cs, al, nl, cl, lv⟩ p (hP.out.below (below_step Hb3.out hb Hb3.out.size)) pa pn pc pos (Lib.hid (Hr3.out.below hb)) x)
    rw [← hs] at C1 C2
    rw [← hy, ← hoy] at C3 C4
    rw [← hz, ← hoz] at C5 C6
    clear hs hy hoy hz hoz
    dsimp only [PV.val, Port.val] at C1 C2 C3 C4 C5 C6
    have e1 := eql_port (x := s.1) (y := s.1) (b := true) (by simp)
    have e2 := eql_port (x := y) (y := y) (b := true) (by simp)
    have e3 := eql_port (x := z) (y := z) (b := true) (by simp)
    refine (C1.out _ D3.out).mono ?_
    rintro en w4 ⟨rfl, hbx⟩
    clear c0 c1 c2 c3 c4 c5 c6 c7 c8 x0 x1
    have D4 := Lib.hid (below_step D3.out hbx D3.out.size)
    clear hbx
    obtain ⟨_, c0, c1, c2, c3, c4, c5, c6, c7, c8⟩ := (HB3.out.below D4.out)
    dsimp only at c0 c1 c2 c3
    obtain ⟨_, x0, x1, _⟩ := (HX3.out.below D4.out)
    go_wp2_with fail
    refine name_calls fun w5 hw => ?_
    have hbx : Below w4.heap.size w4 w5 := by rw [hw]; exact below_new _ _
    have qa5_ := Lib.hid (show PortBox w5 w4.heap.size s.1 by rw [hw]; exact PortBox.new _ rfl (s.1) _)
    clear hw
    clear c0 c1 c2 c3 c4 c5 c6 c7 c8 x0 x1
    have D5 := Lib.hid (below_step D4.out hbx D4.out.size)
    clear hbx
    obtain ⟨_, c0, c1, c2, c3, c4, c5, c6, c7, c8⟩ := (HB3.out.below D5.out)
    dsimp only at c0 c1 c2 c3
    obtain ⟨_, x0, x1, _⟩ := (HX3.out.below D5.out)
    obtain ⟨_, qa0, qa1, _⟩ := qa5_.out
    refine (C2.out _ D5.out).mono ?_
    rintro en w6 ⟨rfl, hbx⟩
    clear c0 c1 c2 c3 c4 c5 c6 c7 c8 x0 x1 qa0 qa1
    have D6 := Lib.hid (below_step D5.out hbx D5.out.size)
    have qa6_ := Lib.hid (qa5_.out.below hbx)
    clear hbx
    obtain ⟨_, c0, c1, c2, c3, c4, c5, c6, c7, c8⟩ := (HB3.out.below D6.out)
    dsimp only at c0 c1 c2 c3
    obtain ⟨_, x0, x1, _⟩ := (HX3.out.below D6.out)
    obtain ⟨_, qa0, qa1, _⟩ := qa6_.out
    go_wp2_with fail
    refine name_calls fun w7 hw => ?_
    have hbx : Below w6.heap.size w6 w7 := by rw [hw]; exact below_new _ _
    have qb7_ := Lib.hid (show PortBox w7 w6.heap.size s.1 by rw [hw]; exact PortBox.new _ rfl (s.1) _)
    clear hw
    clear c0 c1 c2 c3 c4 c5 c6 c7 c8 x0 x1 qa0 qa1
    have D7 := Lib.hid (below_step D6.out hbx D6.out.size)
    have qa7_ := Lib.hid (qa6_.out.below hbx)
    clear hbx
    obtain ⟨_, c0, c1, c2, c3, c4, c5, c6, c7, c8⟩ := (HB3.out.below D7.out)
    dsimp only at c0 c1 c2 c3
    obtain ⟨_, x0, x1, _⟩ := (HX3.out.below D7.out)
    obtain ⟨_, qa0, qa1, _⟩ := qa7_.out
    obtain ⟨_, qb0, qb1, _⟩ := qb7_.out
    refine (C3.out _ D7.out).mono ?_
    rintro en w8 ⟨rfl, hbx⟩
    clear c0 c1 c2 c3 c4 c5 c6 c7 c8 x0 x1 qa0 qa1 qb0 qb1
    have D8 := Lib.hid (below_step D7.out hbx D7.out.size)
    have qa8_ := Lib.hid (qa7_.out.below hbx)
    have qb8_ := Lib.hid (qb7_.out.below hbx)
    clear hbx
    obtain ⟨_, c0, c1, c2, c3, c4, c5, c6, c7, c8⟩ := (HB3.out.below D8.out)
    dsimp only at c0 c1 c2 c3
    obtain ⟨_, x0, x1, _⟩ := (HX3.out.below D8.out)
    obtain ⟨_, qa0, qa1, _⟩ := qa8_.out
    obtain ⟨_, qb0, qb1, _⟩ := qb8_.out
    go_wp2_with fail
    refine name_calls fun w9 hw => ?_
    have hbx : Below w8.heap.size w8 w9 := by rw [hw]; exact below_new _ _
    have qc9_ := Lib.hid (show PortBox w9 w8.heap.size y by rw [hw]; exact PortBox.new _ rfl (y) _)
    clear hw
    clear c0 c1 c2 c3 c4 c5 c6 c7 c8 x0 x1 qa0 qa1 qb0 qb1
    have D9 := Lib.hid (below_step D8.out hbx D8.out.size)
    have qa9_ := Lib.hid (qa8_.out.below hbx)
    have qb9_ := Lib.hid (qb8_.out.below hbx)
    clear hbx
    obtain ⟨_, c0, c1, c2, c3, c4, c5, c6, c7, c8⟩ := (HB3.out.below D9.out)
    dsimp only at c0 c1 c2 c3
    obtain ⟨_, x0, x1, _⟩ := (HX3.out.below D9.out)
    obtain ⟨_, qa0, qa1, _⟩ := qa9_.out
    obtain ⟨_, qb0, qb1, _⟩ := qb9_.out
    obtain ⟨_, qc0, qc1, _⟩ := qc9_.out
    refine (C4.out _ D9.out).mono ?_
    rintro en w10 ⟨rfl, hbx⟩
    clear c0 c1 c2 c3 c4 c5 c6 c7 c8 x0 x1 qa0 qa1 qb0 qb1 qc0 qc1
    have D10 := Lib.hid (below_step D9.out hbx D9.out.size)
    have qa10_ := Lib.hid (qa9_.out.below hbx)
    have qb10_ := Lib.hid (qb9_.out.below hbx)
    have qc10_ := Lib.hid (qc9_.out.below hbx)
    clear hbx
    obtain ⟨_, c0, c1, c2, c3, c4, c5, c6, c7, c8⟩ := (HB3.out.below D10.out)
    dsimp only at c0 c1 c2 c3
    obtain ⟨_, x0, x1, _⟩ := (HX3.out.below D10.out)
    obtain ⟨_, qa0, qa1, _⟩ := qa10_.out
    obtain ⟨_, qb0, qb1, _⟩ := qb10_.out
    obtain ⟨_, qc0, qc1, _⟩ := qc10_.out
    go_wp2_with fail
    refine name_calls fun w11 hw => ?_
    have hbx : Below w10.heap.size w10 w11 := by rw [hw]; exact below_new _ _
    have qd11_ := Lib.hid (show PortBox w11 w10.heap.size y by rw [hw]; exact PortBox.new _ rfl (y) _)
    clear hw
    clear c0 c1 c2 c3 c4 c5 c6 c7 c8 x0 x1 qa0 qa1 qb0 qb1 qc0 qc1
    have D11 := Lib.hid (below_step D10.out hbx D10.out.size)
    have qa11_ := Lib.hid (qa10_.out.below hbx)
    have qb11_ := Lib.hid (qb10_.out.below hbx)
    have qc11_ := Lib.hid (qc10_.out.below hbx)
    clear hbx
    obtain ⟨_, c0, c1, c2, c3, c4, c5, c6, c7, c8⟩ := (HB3.out.below D11.out)
    dsimp only at c0 c1 c2 c3
    obtain ⟨_, x0, x1, _⟩ := (HX3.out.below D11.out)
    obtain ⟨_, qa0, qa1, _⟩ := qa11_.out
    obtain ⟨_, qb0, qb1, _⟩ := qb11_.out
    obtain ⟨_, qc0, qc1, _⟩ := qc11_.out
    obtain ⟨_, qd0, qd1, _⟩ := qd11_.out
    refine (C5.out _ D11.out).mono ?_
    rintro en w12 ⟨rfl, hbx⟩
    clear c0 c1 c2 c3 c4 c5 c6 c7 c8 x0 x1 qa0 qa1 qb0 qb1 qc0 qc1 qd0 qd1
    have D12 := Lib.hid (below_step D11.out hbx D11.out.size)
    have qa12_ := Lib.hid (qa11_.out.below hbx)
    have qb12_ := Lib.hid (qb11_.out.below hbx)
    have qc12_ := Lib.hid (qc11_.out.below hbx)
    have qd12_ := Lib.hid (qd11_.out.below hbx)
    clear hbx
    obtain ⟨_, c0, c1, c2, c3, c4, c5, c6, c7, c8⟩ := (HB3.out.below D12.out)
    dsimp only at c0 c1 c2 c3
    obtain ⟨_, x0, x1, _⟩ := (HX3.out.below D12.out)
    obtain ⟨_, qa0, qa1, _⟩ := qa12_.out
    obtain ⟨_, qb0, qb1, _⟩ := qb12_.out
    obtain ⟨_, qc0, qc1, _⟩ := qc12_.out
    obtain ⟨_, qd0, qd1, _⟩ := qd12_.out
    go_wp2_with fail
    refine name_calls fun w13 hw => ?_
    have hbx : Below w12.heap.size w12 w13 := by rw [hw]; exact below_new _ _
    have qe13_ := Lib.hid (show PortBox w13 w12.heap.size z by rw [hw]; exact PortBox.new _ rfl (z) _)
    clear hw
    clear c0 c1 c2 c3 c4 c5 c6 c7 c8 x0 x1 qa0 qa1 qb0 qb1 qc0 qc1 qd0 qd1
    have D13 := Lib.hid (below_step D12.out hbx D12.out.size)
    have qa13_ := Lib.hid (qa12_.out.below hbx)
    have qb13_ := Lib.hid (qb12_.out.below hbx)
    have qc13_ := Lib.hid (qc12_.out.below hbx)
    have qd13_ := Lib.hid (qd12_.out.below hbx)
    clear hbx
    obtain ⟨_, c0, c1, c2, c3, c4, c5, c6, c7, c8⟩ := (HB3.out.below D13.out)
    dsimp only at c0 c1 c2 c3
    obtain ⟨_, x0, x1, _⟩ := (HX3.out.below D13.out)
    obtain ⟨_, qa0, qa1, _⟩ := qa13_.out
    obtain ⟨_, qb0, qb1, _⟩ := qb13_.out
    obtain ⟨_, qc0, qc1, _⟩ := qc13_.out
    obtain ⟨_, qd0, qd1, _⟩ := qd13_.out
    obtain ⟨_, qe0, qe1, _⟩ := qe13_.out
    refine (C6.out _ D13.out).mono ?_
    rintro en w14 ⟨rfl, hbx⟩
    clear c0 c1 c2 c3 c4 c5 c6 c7 c8 x0 x1 qa0 qa1 qb0 qb1 qc0 qc1 qd0 qd1 qe0 qe1
    have D14 := Lib.hid (below_step D13.out hbx D13.out.size)
    have qa14_ := Lib.hid (qa13_.out.below hbx)
    have qb14_ := Lib.hid (qb13_.out.below hbx)
    have qc14_ := Lib.hid (qc13_.out.below hbx)
    have qd14_ := Lib.hid (qd13_.out.below hbx)
    have qe14_ := Lib.hid (qe13_.out.below hbx)
    clear hbx
    obtain ⟨_, c0, c1, c2, c3, c4, c5, c6, c7, c8⟩ := (HB3.out.below D14.out)
    dsimp only at c0 c1 c2 c3
    obtain ⟨_, x0, x1, _⟩ := (HX3.out.below D14.out)
    obtain ⟨_, qa0, qa1, _⟩ := qa14_.out
    obtain ⟨_, qb0, qb1, _⟩ := qb14_.out
    obtain ⟨_, qc0, qc1, _⟩ := qc14_.out
    obtain ⟨_, qd0, qd1, _⟩ := qd14_.out
    obtain ⟨_, qe0, qe1, _⟩ := qe14_.out
    clear qa0 qa1 qb0 qb1 qc0 qc1 qd0 qd1 qe0 qe1
    obtain ⟨_, qa0, qa1, _⟩ := (show PortBox (w14.alloc (.cells #[.int .i64 (z).e, .int .i64 (z).n] 30)) _ _ from qa14_.out.below (below_new w14 _))
    obtain ⟨_, qb0, qb1, _⟩ := (show PortBox (w14.alloc (.cells #[.int .i64 (z).e, .int .i64 (z).n] 30)) _ _ from qb14_.out.below (below_new w14 _))
    obtain ⟨_, qc0, qc1, _⟩ := (show PortBox (w14.alloc (.cells #[.int .i64 (z).e, .int .i64 (z).n] 30)) _ _ from qc14_.out.below (below_new w14 _))
    obtain ⟨_, qd0, qd1, _⟩ := (show PortBox (w14.alloc (.cells #[.int .i64 (z).e, .int .i64 (z).n] 30)) _ _ from qd14_.out.below (below_new w14 _))
    obtain ⟨_, qe0, qe1, _⟩ := (show PortBox (w14.alloc (.cells #[.int .i64 (z).e, .int .i64 (z).n] 30)) _ _ from qe14_.out.below (below_new w14 _))
    obtain ⟨_, qz0, qz1, _⟩ := (show PortBox (w14.alloc (.cells #[.int .i64 (z).e, .int .i64 (z).n] 30)) w14.heap.size (z) from PortBox.new w14 rfl (z) _)
    go_wp2_with fail
    go_ret
    exact ⟨ret_bool (by simp), below_step Hb3.out (below_step D14.out (below_new _ _) D14.out.size) Hb3.out.size⟩
set_option maxRecDepth 100000 in
theorem walkSteps_lifted (os : Os) (started : os.Started) (H : Type) (enc : TypeId × Value → H) :
    ReturnsInHanded {} Try.checked os 3 .any (Rows.walkStepsSpec.pre6 enc Try.prog Try.f3 Rows.walkStepsRow.domain false) (Rows.walkStepsSpec.post enc Try.prog Try.f3 false true false false) := by
  refine returnsInHanded_of_change (C := Try.checked) own started (by kernel_rfl) Try.func3
    (ChangeSpec.witness6 (enc := enc) (C := Try.checked) false ⟨#[], #[.agg #[.slice none 0 0, .slice none 0 0, .slice none 0 0, .slice none 0 0, .int .i64 0, .int .i64 0, .int .i64 0, .int .i64 0, .bool false], .slice none 0 0, .agg #[.int .i64 0, .int .i64 0]], []⟩ 8 (by kernel_rfl) (by kernel_rfl) (by kernel_rfl) (by kernel_rfl)) ?_
  intro W base args ds gs before hval0 hW hcnd _
  have hval : ∀ (j : Nat) t v, Try.f3.params[j]? = some t → args[j]? = some v → Value.okWide Try.prog W .any base t v := hval0
  have hW' := hW
  obtain ⟨p, q, hA0, hV, rfl, hfz, hnd⟩ := hW
  have hA : DataW.TrodAll enc Try.prog W 0 (fun _ => true) true Try.f3.params.toList args.toList ds p := hA0
  rw [Try.params3] at hA hval
  obtain ⟨v0, vs0, d0, ds0, p0, q0, hargs, rfl, rfl, k0, r0⟩ := trodAll_cons hA
  obtain ⟨v1, vs1, d1, ds1, p1, q1, rfl, rfl, rfl, k1, r1⟩ := trodAll_cons r0
  obtain ⟨v2, vs2, d2, ds2, p2, q2, rfl, rfl, rfl, k2, r2⟩ := trodAll_cons r1
  obtain ⟨rfl, rfl, rfl⟩ := trodAll_nil r2
  obtain rfl : args = #[v0, v1, v2] := by cases args; simp_all
  obtain ⟨rfl, rfl⟩ := trodVars_none hV
  have lt0 : ∀ x ∈ p0, x.block < W.heap.size := by obtain ⟨m, hm⟩ := k0; exact DataW.trod_lt m _ _ _ hm
  have hv0 := hval 0 27 v0 rfl rfl
  have lt1 : ∀ x ∈ p1, x.block < W.heap.size := by obtain ⟨m, hm⟩ := k1; exact DataW.trod_lt m _ _ _ hm
  have hv1 := hval 1 28 v1 rfl rfl
  have lt2 : ∀ x ∈ p2, x.block < W.heap.size := by obtain ⟨m, hm⟩ := k2; exact DataW.trod_lt m _ _ _ hm
  have hv2 := hval 2 30 v2 rfl rfl
  have fin : Calls Try.prog 3 #[v0, v1, v2] W (fun e W' => e = .returned (.bool true) ∧ Below W.heap.size W W') := by
    obtain ⟨pv, p, rfl, hp⟩ := open_plan hv0 k0
    obtain ⟨pa, pn, pc, pos, rfl, hr, _, _, _⟩ := open_Ints hv1 k1
    obtain ⟨x0, rfl, a0⟩ := open_port hv2 k2
    exact lawSteps_any W pv p pa pn pc pos x0 a0 hp (Lib.hid hr)
  clear hA0 hval0
  refine fin.mono fun e W' ⟨he, bel⟩ => ?_
  subst he
  exact ⟨_, rfl, _, _, _, [], _, [], hW', trodAll_mk1 (shut_bool Try.underlying4 _), (trodAll_cons_mk (Below.trod laidOut (by kernel_rfl) (of_decide_eq_true (by kernel_rfl)) k0 bel lt0) (trodAll_cons_mk (Below.trod laidOut (by kernel_rfl) (of_decide_eq_true (by kernel_rfl)) k1 bel lt1) (trodAll_cons_mk (Below.trod laidOut (by kernel_rfl) (of_decide_eq_true (by kernel_rfl)) k2 bel lt2) trodAll_mk0))), rfl, bel.frame _, fun h => by cases h⟩

/-- THE STATEMENT -/
theorem walkSteps_holds : Rows.WalkStepsSaid :=
  OpenClaim.holds_of_wide 3 Try.f3 rfl rfl rfl rfl rfl rfl rfl ⟨rfl, rfl, rfl, rfl, rfl⟩ rfl rfl rfl rfl rfl (by kernel_rfl) Try.func3 (by kernel_rfl)
    (of_decide_eq_true (by kernel_rfl)) (by unfold Func.isWrapper; first | (rw [if_pos (by decide +kernel)]; kernel_rfl) | (rw [if_neg (by decide +kernel)]; exact ⟨rfl, rfl⟩))
    (fun os started H enc _ => walkSteps_lifted os started H enc)
end Go.Proofs.Ytackcfoplhhnbaa
