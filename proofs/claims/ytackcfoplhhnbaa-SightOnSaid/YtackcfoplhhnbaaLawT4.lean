/- SightOn: for every input the law returns true. No condition. -/
import Derived.Test.YtackcfoplhhnbaaKnown6
set_option maxRecDepth 1000000
namespace Go.Proofs.Ytackcfoplhhnbaa
open Go.ChangeShapes Go.WideShapes Go.ChangeAt Go.RowKit Go.Sort

set_option maxHeartbeats 4000000 in
theorem lawOn_any (w : World) (pv : PV) (p : Plan) (pa : Option Addr) (pn pc : Nat) (pos : List Int) (x : Port) (hx : x.wf) (h : PlanAt w pv p) (hr : Hid (Ints w pa pn pos)) :
    Calls Try.prog 13 #[pv.val p, .slice pa pn pc, x.val] w fun en w' => en = .returned (.bool true) ∧ Below w.heap.size w w' := by
  obtain ⟨ae, ne, ce, aj, nj, cj, as_, ns, cs, al, nl, cl, lv⟩ := pv
  have hP := Lib.hid h
  have HBa := Lib.hid ((pbox_new w ⟨ae, ne, ce, aj, nj, cj, as_, ns, cs, al, nl, cl, lv⟩ p).alloc (.cells #[.int .i64 x.e, .int .i64 x.n] 30))
  have Hba := Lib.hid (below_new2 w (.cells #[.slice ae ne ce, .slice aj nj cj, .slice as_ ns cs, .slice al nl cl, .int .i64 p.top, .int .i64 p.brake, .int .i64 p.margin, .int .i64 p.throw, .bool p.hard] 27) (.cells #[.int .i64 x.e, .int .i64 x.n] 30))
  have HXa := Lib.hid (PortBox.new (w.alloc (.cells #[.slice ae ne ce, .slice aj nj cj, .slice as_ ns cs, .slice al nl cl, .int .i64 p.top, .int .i64 p.brake, .int .i64 p.margin, .int .i64 p.throw, .bool p.hard] 27)) (b := w.heap.size + 1) (by simp) x 30)
  have K := Lib.hid (known6_any ((w.alloc (.cells #[.slice ae ne ce, .slice aj nj cj, .slice as_ ns cs, .slice al nl cl, .int .i64 p.top, .int .i64 p.brake, .int .i64 p.margin, .int .i64 p.throw, .bool p.hard] 27)).alloc (.cells #[.int .i64 x.e, .int .i64 x.n] 30)))
  have HF := Lib.hid (fun (u : World) (hb : Below w.heap.size w u) => finex_l (w := u) (hP.out.below hb))
  clear h
  dsimp only [PV.val, Port.val]
  obtain ⟨_, c0, c1, c2, c3, c4, c5, c6, c7, c8⟩ := HBa.out
  dsimp only at c0 c1 c2 c3
  obtain ⟨_, x0, x1, _⟩ := HXa.out
  cases hf : fine p with
  | false =>
    rw [hf] at HF
    clear hf
    go_enter Try.func13, Try.ntmps13
    go_wp2_with fail
    refine (K.out).mono ?_
    rintro e w1 ⟨rfl, hbx⟩
    have HB1 := Lib.hid (HBa.out.below hbx)
    have HX1 := Lib.hid (HXa.out.below hbx)
    have Hb1 := Lib.hid (below_step Hba.out hbx Hba.out.size)
    clear hbx c0 c1 c2 c3 c4 c5 c6 c7 c8 x0 x1
    obtain ⟨_, c0, c1, c2, c3, c4, c5, c6, c7, c8⟩ := HB1.out
    dsimp only at c0 c1 c2 c3
    obtain ⟨_, x0, x1, _⟩ := HX1.out
    clear K
    go_wp2_with fail
    refine (HF.out w1 Hb1.out).mono ?_
    rintro e w2 ⟨rfl, hbx⟩
    have HB2 := Lib.hid (HB1.out.below hbx)
    have HX2 := Lib.hid (HX1.out.below hbx)
    have Hb2 := Lib.hid (below_step Hb1.out hbx Hb1.out.size)
    clear hbx c0 c1 c2 c3 c4 c5 c6 c7 c8 x0 x1
    obtain ⟨_, c0, c1, c2, c3, c4, c5, c6, c7, c8⟩ := HB2.out
    dsimp only at c0 c1 c2 c3
    obtain ⟨_, x0, x1, _⟩ := HX2.out
    go_wp2_with fail
    go_ret
    exact ⟨rfl, Hb2.out⟩
  | true =>
    rw [hf] at HF
    have HM := Lib.hid (fun (u : World) (hb : Below w.heap.size w u) => made_l (w := u) hf (hP.out.below hb))
    have Hok := Lib.hid (few_ok hP.out (fine_few hf).1)
    have Hc := Lib.hid (fine_few hf).2
    have G := Lib.hid (good_of (fine_few hf).2)
    clear hf
    by_cases hq : 100 < pn
    · have q9 : decide ((100 : Int) < (pn : Int)) = true := by simp; omega
      go_enter Try.func13, Try.ntmps13
      go_wp2_with fail
      refine (K.out).mono ?_
      rintro e w1 ⟨rfl, hbx⟩
      have HB1 := Lib.hid (HBa.out.below hbx)
      have HX1 := Lib.hid (HXa.out.below hbx)
      have Hb1 := Lib.hid (below_step Hba.out hbx Hba.out.size)
      clear hbx c0 c1 c2 c3 c4 c5 c6 c7 c8 x0 x1
      obtain ⟨_, c0, c1, c2, c3, c4, c5, c6, c7, c8⟩ := HB1.out
      dsimp only at c0 c1 c2 c3
      obtain ⟨_, x0, x1, _⟩ := HX1.out
      clear K
      go_wp2_with fail
      refine (HF.out w1 Hb1.out).mono ?_
      rintro e w2 ⟨rfl, hbx⟩
      have HB2 := Lib.hid (HB1.out.below hbx)
      have HX2 := Lib.hid (HX1.out.below hbx)
      have Hb2 := Lib.hid (below_step Hb1.out hbx Hb1.out.size)
      clear hbx c0 c1 c2 c3 c4 c5 c6 c7 c8 x0 x1
      obtain ⟨_, c0, c1, c2, c3, c4, c5, c6, c7, c8⟩ := HB2.out
      dsimp only at c0 c1 c2 c3
      obtain ⟨_, x0, x1, _⟩ := HX2.out
      go_wp2_with fail
      go_ret
      exact ⟨rfl, Hb2.out⟩
    have q9 : decide ((100 : Int) < (pn : Int)) = false := by simp; omega
    go_enter Try.func13, Try.ntmps13
    go_wp2_with fail
    refine (K.out).mono ?_
    rintro e w1 ⟨rfl, hbx⟩
    have HB1 := Lib.hid (HBa.out.below hbx)
    have HX1 := Lib.hid (HXa.out.below hbx)
    have Hb1 := Lib.hid (below_step Hba.out hbx Hba.out.size)
    clear hbx c0 c1 c2 c3 c4 c5 c6 c7 c8 x0 x1
    obtain ⟨_, c0, c1, c2, c3, c4, c5, c6, c7, c8⟩ := HB1.out
    dsimp only at c0 c1 c2 c3
    obtain ⟨_, x0, x1, _⟩ := HX1.out
    clear K
    go_wp2_with fail
    refine (HF.out w1 Hb1.out).mono ?_
    rintro e w2 ⟨rfl, hbx⟩
    have HB2 := Lib.hid (HB1.out.below hbx)
    have HX2 := Lib.hid (HX1.out.below hbx)
    have Hb2 := Lib.hid (below_step Hb1.out hbx Hb1.out.size)
    clear hbx c0 c1 c2 c3 c4 c5 c6 c7 c8 x0 x1
    obtain ⟨_, c0, c1, c2, c3, c4, c5, c6, c7, c8⟩ := HB2.out
    dsimp only at c0 c1 c2 c3
    obtain ⟨_, x0, x1, _⟩ := HX2.out
    go_wp2_with fail
    refine (HM.out w2 Hb2.out).mono ?_
    rintro e w3 ⟨b, rfl, hbb, hn, hbx⟩
    have HB3 := Lib.hid (HB2.out.below hbx)
    have HX3 := Lib.hid (HX2.out.below hbx)
    have Hb3 := Lib.hid (below_step Hb2.out hbx Hb2.out.size)
    have HN3 := Lib.hid hn
    have hbb := Nat.le_trans Hb2.out.size hbb
    clear hbx hn HF HM c0 c1 c2 c3 c4 c5 c6 c7 c8 x0 x1
    obtain ⟨_, c0, c1, c2, c3, c4, c5, c6, c7, c8⟩ := HB3.out
    dsimp only at c0 c1 c2 c3
    obtain ⟨_, x0, x1, _⟩ := HX3.out
    have Hr3 := Lib.hid (hr.out.below Hb3.out)
    have D3 := Lib.hid (Below.refl w3.heap.size w3)
    clear q9 hr
    go_wp2_with fail
    have C1 := Lib.hid (fun (u : World) (hb : Below w3.heap.size w3 u) => nahead_any u b p (HN3.out.below hb) pa pn pc pos (Lib.hid (Hr3.out.below hb)) x hx)
    have CR := Lib.hid (fun (u : World) (hb : Below w3.heap.size w3 u) => nreads_any u b p (HN3.out.below hb) x hx)
    have CS := Lib.hid (fun (u : World) (hb : Below w3.heap.size w3 u) => nstep_any u b p (HN3.out.below hb) pa pn pc pos (Lib.hid (Hr3.out.below hb)) x hx)
    dsimp only [Port.val] at C1 CR CS
    by_cases r0 : 0 ≤ reads p x
    · rw [ahead_read r0] at C1
      dsimp only [Option.getD_some, Option.isSome_some] at C1
      refine (C1.out _ D3.out).mono ?_
      rintro en w4 ⟨rfl, hbx⟩
      clear c0 c1 c2 c3 c4 c5 c6 c7 c8 x0 x1
      have D4 := Lib.hid (below_step D3.out hbx D3.out.size)
      clear hbx
      obtain ⟨_, c0, c1, c2, c3, c4, c5, c6, c7, c8⟩ := (HB3.out.below D4.out)
      dsimp only at c0 c1 c2 c3
      obtain ⟨_, x0, x1, _⟩ := (HX3.out.below D4.out)
      go_wp2_with fail
      refine (CR.out _ D4.out).mono ?_
      rintro en w5 ⟨rfl, hbx⟩
      clear c0 c1 c2 c3 c4 c5 c6 c7 c8 x0 x1
      have D5 := Lib.hid (below_step D4.out hbx D4.out.size)
      clear hbx
      obtain ⟨_, c0, c1, c2, c3, c4, c5, c6, c7, c8⟩ := (HB3.out.below D5.out)
      dsimp only at c0 c1 c2 c3
      obtain ⟨_, x0, x1, _⟩ := (HX3.out.below D5.out)
      go_wp2_with fail
      refine (CR.out _ D5.out).mono ?_
      rintro en w6 ⟨rfl, hbx⟩
      clear c0 c1 c2 c3 c4 c5 c6 c7 c8 x0 x1
      have D6 := Lib.hid (below_step D5.out hbx D5.out.size)
      clear hbx
      obtain ⟨_, c0, c1, c2, c3, c4, c5, c6, c7, c8⟩ := (HB3.out.below D6.out)
      dsimp only at c0 c1 c2 c3
      obtain ⟨_, x0, x1, _⟩ := (HX3.out.below D6.out)
      go_wp2_with fail
      go_ret
      exact ⟨rfl, below_step Hb3.out D6.out Hb3.out.size⟩
    · have r1 : reads p x < 0 := by omega
      by_cases e0 : (step p pos x).2 = 0
      · obtain ⟨y, hy⟩ : ∃ y, step p pos x = (y, 0) := ⟨_, by rw [← e0]⟩
        have hwy := step_wf G.out hy
        have CA := Lib.hid (fun (u : World) (hb : Below w3.heap.size w3 u) => nahead_any u b p (HN3.out.below hb) pa pn pc pos (Lib.hid (Hr3.out.below hb)) y hwy)
        rw [hy] at CS
        dsimp only [Port.val] at CS CA
        cases hA : ahead p pos x with
        | none =>
          rw [hA] at C1
          dsimp only [Option.getD_none, Option.isSome_none] at C1
          obtain ⟨t1, h1⟩ : ∃ t, t = ((ahead p pos y).getD (0, 0)).1 := ⟨_, rfl⟩
          obtain ⟨t2, h2⟩ : ∃ t, t = ((ahead p pos y).getD (0, 0)).2 := ⟨_, rfl⟩
          obtain ⟨t3, h3⟩ : ∃ t, t = (ahead p pos y).isSome := ⟨_, rfl⟩
          rw [← h1, ← h2, ← h3] at CA
          clear h1 h2 h3 hA hy e0 r0
          refine (C1.out _ D3.out).mono ?_
          rintro en w4 ⟨rfl, hbx⟩
          clear c0 c1 c2 c3 c4 c5 c6 c7 c8 x0 x1
          have D4 := Lib.hid (below_step D3.out hbx D3.out.size)
          clear hbx
          obtain ⟨_, c0, c1, c2, c3, c4, c5, c6, c7, c8⟩ := (HB3.out.below D4.out)
          dsimp only at c0 c1 c2 c3
          obtain ⟨_, x0, x1, _⟩ := (HX3.out.below D4.out)
          go_wp2_with fail
          refine (CR.out _ D4.out).mono ?_
          rintro en w5 ⟨rfl, hbx⟩
          clear c0 c1 c2 c3 c4 c5 c6 c7 c8 x0 x1
          have D5 := Lib.hid (below_step D4.out hbx D4.out.size)
          clear hbx
          obtain ⟨_, c0, c1, c2, c3, c4, c5, c6, c7, c8⟩ := (HB3.out.below D5.out)
          dsimp only at c0 c1 c2 c3
          obtain ⟨_, x0, x1, _⟩ := (HX3.out.below D5.out)
          go_wp2_with fail
          refine (CS.out _ D5.out).mono ?_
          rintro en w6 ⟨rfl, hbx⟩
          clear c0 c1 c2 c3 c4 c5 c6 c7 c8 x0 x1
          have D6 := Lib.hid (below_step D5.out hbx D5.out.size)
          clear hbx
          obtain ⟨_, c0, c1, c2, c3, c4, c5, c6, c7, c8⟩ := (HB3.out.below D6.out)
          dsimp only at c0 c1 c2 c3
          obtain ⟨_, x0, x1, _⟩ := (HX3.out.below D6.out)
          go_wp2_with fail
          refine name_calls fun w7 hw => ?_
          have hbx : Below w6.heap.size w6 w7 := by rw [hw]; exact below_new _ _
          have qa7_ := Lib.hid (show PortBox w7 w6.heap.size y by rw [hw]; exact PortBox.new _ rfl (y) _)
          clear hw
          clear c0 c1 c2 c3 c4 c5 c6 c7 c8 x0 x1
          have D7 := Lib.hid (below_step D6.out hbx D6.out.size)
          clear hbx
          obtain ⟨_, c0, c1, c2, c3, c4, c5, c6, c7, c8⟩ := (HB3.out.below D7.out)
          dsimp only at c0 c1 c2 c3
          obtain ⟨_, x0, x1, _⟩ := (HX3.out.below D7.out)
          obtain ⟨_, qa0, qa1, _⟩ := qa7_.out
          refine (CA.out _ D7.out).mono ?_
          rintro en w8 ⟨rfl, hbx⟩
          clear c0 c1 c2 c3 c4 c5 c6 c7 c8 x0 x1 qa0 qa1
          have D8 := Lib.hid (below_step D7.out hbx D7.out.size)
          have qa8_ := Lib.hid (qa7_.out.below hbx)
          clear hbx
          obtain ⟨_, c0, c1, c2, c3, c4, c5, c6, c7, c8⟩ := (HB3.out.below D8.out)
          dsimp only at c0 c1 c2 c3
          obtain ⟨_, x0, x1, _⟩ := (HX3.out.below D8.out)
          obtain ⟨_, qa0, qa1, _⟩ := qa8_.out
          go_wp2_with fail
          go_ret
          exact ⟨rfl, below_step Hb3.out D8.out Hb3.out.size⟩
        | some sm =>
          obtain ⟨s, m⟩ := sm
          have hB := ahead_on r0 hy hA
          obtain ⟨k, hk⟩ : ∃ k, k = m - p.length y.e := ⟨_, rfl⟩
          have hm : m = k + p.length y.e := by omega
          rw [← hk] at hB
          have hkb := ahead_pos Hc.out hB
          have hlb := len_bound Hc.out y.e
          rw [hA, hm] at C1
          rw [hB] at CA
          dsimp only [Option.getD_some, Option.isSome_some] at C1 CA
          have CL := Lib.hid (fun (u : World) (hb : Below w3.heap.size w3 u) => nlength_any u b p (HN3.out.below hb) y.e)
          have hwr : IntKind.i64.wrap (k + p.length y.e) = k + p.length y.e := IntWalk.i64_in _ (by omega)
          clear hk hm hA hB hy e0 r0 hkb hlb
          refine (C1.out _ D3.out).mono ?_
          rintro en w4 ⟨rfl, hbx⟩
          clear c0 c1 c2 c3 c4 c5 c6 c7 c8 x0 x1
          have D4 := Lib.hid (below_step D3.out hbx D3.out.size)
          clear hbx
          obtain ⟨_, c0, c1, c2, c3, c4, c5, c6, c7, c8⟩ := (HB3.out.below D4.out)
          dsimp only at c0 c1 c2 c3
          obtain ⟨_, x0, x1, _⟩ := (HX3.out.below D4.out)
          go_wp2_with fail
          refine (CR.out _ D4.out).mono ?_
          rintro en w5 ⟨rfl, hbx⟩
          clear c0 c1 c2 c3 c4 c5 c6 c7 c8 x0 x1
          have D5 := Lib.hid (below_step D4.out hbx D4.out.size)
          clear hbx
          obtain ⟨_, c0, c1, c2, c3, c4, c5, c6, c7, c8⟩ := (HB3.out.below D5.out)
          dsimp only at c0 c1 c2 c3
          obtain ⟨_, x0, x1, _⟩ := (HX3.out.below D5.out)
          go_wp2_with fail
          refine (CS.out _ D5.out).mono ?_
          rintro en w6 ⟨rfl, hbx⟩
          clear c0 c1 c2 c3 c4 c5 c6 c7 c8 x0 x1
          have D6 := Lib.hid (below_step D5.out hbx D5.out.size)
          clear hbx
          obtain ⟨_, c0, c1, c2, c3, c4, c5, c6, c7, c8⟩ := (HB3.out.below D6.out)
          dsimp only at c0 c1 c2 c3
          obtain ⟨_, x0, x1, _⟩ := (HX3.out.below D6.out)
          go_wp2_with fail
          refine name_calls fun w7 hw => ?_
          have hbx : Below w6.heap.size w6 w7 := by rw [hw]; exact below_new _ _
          have qa7_ := Lib.hid (show PortBox w7 w6.heap.size y by rw [hw]; exact PortBox.new _ rfl (y) _)
          clear hw
          clear c0 c1 c2 c3 c4 c5 c6 c7 c8 x0 x1
          have D7 := Lib.hid (below_step D6.out hbx D6.out.size)
          clear hbx
          obtain ⟨_, c0, c1, c2, c3, c4, c5, c6, c7, c8⟩ := (HB3.out.below D7.out)
          dsimp only at c0 c1 c2 c3
          obtain ⟨_, x0, x1, _⟩ := (HX3.out.below D7.out)
          obtain ⟨_, qa0, qa1, _⟩ := qa7_.out
          refine (CA.out _ D7.out).mono ?_
          rintro en w8 ⟨rfl, hbx⟩
          clear c0 c1 c2 c3 c4 c5 c6 c7 c8 x0 x1 qa0 qa1
          have D8 := Lib.hid (below_step D7.out hbx D7.out.size)
          have qa8_ := Lib.hid (qa7_.out.below hbx)
          clear hbx
          obtain ⟨_, c0, c1, c2, c3, c4, c5, c6, c7, c8⟩ := (HB3.out.below D8.out)
          dsimp only at c0 c1 c2 c3
          obtain ⟨_, x0, x1, _⟩ := (HX3.out.below D8.out)
          obtain ⟨_, qa0, qa1, _⟩ := qa8_.out
          go_wp2_with fail
          refine (CL.out _ D8.out).mono ?_
          rintro en w9 ⟨rfl, hbx⟩
          clear c0 c1 c2 c3 c4 c5 c6 c7 c8 x0 x1 qa0 qa1
          have D9 := Lib.hid (below_step D8.out hbx D8.out.size)
          have qa9_ := Lib.hid (qa8_.out.below hbx)
          clear hbx
          obtain ⟨_, c0, c1, c2, c3, c4, c5, c6, c7, c8⟩ := (HB3.out.below D9.out)
          dsimp only at c0 c1 c2 c3
          obtain ⟨_, x0, x1, _⟩ := (HX3.out.below D9.out)
          obtain ⟨_, qa0, qa1, _⟩ := qa9_.out
          go_wp2_with fail
          go_ret
          exact ⟨rfl, below_step Hb3.out D9.out Hb3.out.size⟩
      · rw [ahead_stuck r0 e0] at C1
        dsimp only [Option.getD_none, Option.isSome_none] at C1
        obtain ⟨ye, yn, s2, hss⟩ : ∃ ye yn s2, step p pos x = (⟨ye, yn⟩, s2) := ⟨_, _, _, rfl⟩
        have q0 : (s2 != 0) = true := by rw [hss] at e0; simpa [bne_iff_ne] using e0
        rw [hss] at CS
        dsimp only at CS
        clear hss e0 r0
        refine (C1.out _ D3.out).mono ?_
        rintro en w4 ⟨rfl, hbx⟩
        clear c0 c1 c2 c3 c4 c5 c6 c7 c8 x0 x1
        have D4 := Lib.hid (below_step D3.out hbx D3.out.size)
        clear hbx
        obtain ⟨_, c0, c1, c2, c3, c4, c5, c6, c7, c8⟩ := (HB3.out.below D4.out)
        dsimp only at c0 c1 c2 c3
        obtain ⟨_, x0, x1, _⟩ := (HX3.out.below D4.out)
        go_wp2_with fail
        refine (CR.out _ D4.out).mono ?_
        rintro en w5 ⟨rfl, hbx⟩
        clear c0 c1 c2 c3 c4 c5 c6 c7 c8 x0 x1
        have D5 := Lib.hid (below_step D4.out hbx D4.out.size)
        clear hbx
        obtain ⟨_, c0, c1, c2, c3, c4, c5, c6, c7, c8⟩ := (HB3.out.below D5.out)
        dsimp only at c0 c1 c2 c3
        obtain ⟨_, x0, x1, _⟩ := (HX3.out.below D5.out)
        go_wp2_with fail
        refine (CS.out _ D5.out).mono ?_
        rintro en w6 ⟨rfl, hbx⟩
        clear c0 c1 c2 c3 c4 c5 c6 c7 c8 x0 x1
        have D6 := Lib.hid (below_step D5.out hbx D5.out.size)
        clear hbx
        obtain ⟨_, c0, c1, c2, c3, c4, c5, c6, c7, c8⟩ := (HB3.out.below D6.out)
        dsimp only at c0 c1 c2 c3
        obtain ⟨_, x0, x1, _⟩ := (HX3.out.below D6.out)
        go_wp2_with fail
        go_ret
        exact ⟨rfl, below_step Hb3.out (below_step D6.out (below_new _ _) D6.out.size) Hb3.out.size⟩
set_option maxRecDepth 100000 in
theorem sightOn_lifted (os : Os) (started : os.Started) (H : Type) (enc : TypeId × Value → H) :
    ReturnsInHanded {} Try.checked os 13 .any (Rows.sightOnSpec.pre6 enc Try.prog Try.f13 Rows.sightOnRow.domain false) (Rows.sightOnSpec.post enc Try.prog Try.f13 false true false false) := by
  refine returnsInHanded_of_change (C := Try.checked) own started (by kernel_rfl) Try.func13
    (ChangeSpec.witness6 (enc := enc) (C := Try.checked) false ⟨#[], #[.agg #[.slice none 0 0, .slice none 0 0, .slice none 0 0, .slice none 0 0, .int .i64 0, .int .i64 0, .int .i64 0, .int .i64 0, .bool false], .slice none 0 0, .agg #[.int .i64 0, .int .i64 0]], []⟩ 8 (by kernel_rfl) (by kernel_rfl) (by kernel_rfl) (by kernel_rfl)) ?_
  intro W base args ds gs before hval0 hW hcnd _
  have hval : ∀ (j : Nat) t v, Try.f13.params[j]? = some t → args[j]? = some v → Value.okWide Try.prog W .any base t v := hval0
  have hW' := hW
  obtain ⟨p, q, hA0, hV, rfl, hfz, hnd⟩ := hW
  have hA : DataW.TrodAll enc Try.prog W 0 (fun _ => true) true Try.f13.params.toList args.toList ds p := hA0
  rw [Try.params13] at hA hval
  obtain ⟨v0, vs0, d0, ds0, p0, q0, hargs, rfl, rfl, k0, r0⟩ := trodAll_cons hA
  obtain ⟨v1, vs1, d1, ds1, p1, q1, rfl, rfl, rfl, k1, r1⟩ := trodAll_cons r0
  obtain ⟨v2, vs2, d2, ds2, p2, q2, rfl, rfl, rfl, k2, r2⟩ := trodAll_cons r1
  obtain ⟨rfl, rfl, rfl⟩ := trodAll_nil r2
  obtain rfl : args = #[v0, v1, v2] := by cases args; simp_all
  obtain ⟨rfl, rfl⟩ := trodVars_none hV
  have lt0 : ∀ x ∈ p0, x.block < W.heap.size := by obtain ⟨m, hm⟩ := k0; exact DataW.trod_lt m _ _ _ hm
  have hv0 := hval 0 27 v0 rfl rfl
  have lt1 : ∀ x ∈ p1, x.block < W.heap.size := by obtain ⟨m, hm⟩ := k1; exact DataW.trod_lt m _ _ _ hm
  have hv1 := hval 1 28 v1 rfl rfl
  have lt2 : ∀ x ∈ p2, x.block < W.heap.size := by obtain ⟨m, hm⟩ := k2; exact DataW.trod_lt m _ _ _ hm
  have hv2 := hval 2 30 v2 rfl rfl
  have fin : Calls Try.prog 13 #[v0, v1, v2] W (fun e W' => e = .returned (.bool true) ∧ Below W.heap.size W W') := by
    obtain ⟨pv, p, rfl, hp⟩ := open_plan hv0 k0
    obtain ⟨pa, pn, pc, pos, rfl, hr, _, _, _⟩ := open_Ints hv1 k1
    obtain ⟨x0, rfl, a0⟩ := open_port hv2 k2
    exact lawOn_any W pv p pa pn pc pos x0 a0 hp (Lib.hid hr)
  clear hA0 hval0
  refine fin.mono fun e W' ⟨he, bel⟩ => ?_
  subst he
  exact ⟨_, rfl, _, _, _, [], _, [], hW', trodAll_mk1 (shut_bool Try.underlying4 _), (trodAll_cons_mk (Below.trod laidOut (by kernel_rfl) (of_decide_eq_true (by kernel_rfl)) k0 bel lt0) (trodAll_cons_mk (Below.trod laidOut (by kernel_rfl) (of_decide_eq_true (by kernel_rfl)) k1 bel lt1) (trodAll_cons_mk (Below.trod laidOut (by kernel_rfl) (of_decide_eq_true (by kernel_rfl)) k2 bel lt2) trodAll_mk0))), rfl, bel.frame _, fun h => by cases h⟩

/-- THE STATEMENT -/
theorem sightOn_holds : Rows.SightOnSaid :=
  OpenClaim.holds_of_wide 13 Try.f13 rfl rfl rfl rfl rfl rfl rfl ⟨rfl, rfl, rfl, rfl, rfl⟩ rfl rfl rfl rfl rfl (by kernel_rfl) Try.func13 (by kernel_rfl)
    (of_decide_eq_true (by kernel_rfl)) (by unfold Func.isWrapper; first | (rw [if_pos (by decide +kernel)]; kernel_rfl) | (rw [if_neg (by decide +kernel)]; exact ⟨rfl, rfl⟩))
    (fun os started H enc _ => sightOn_lifted os started H enc)
end Go.Proofs.Ytackcfoplhhnbaa
