/- WalkBack: for every input the law returns true. No condition. -/
import Derived.Test.YtackcfoplhhnbaaKnown5
set_option maxRecDepth 1000000
namespace Go.Proofs.Ytackcfoplhhnbaa
open Go.ChangeShapes Go.WideShapes Go.ChangeAt Go.RowKit Go.Sort

theorem ends_ok {p : Plan} (h : chk p = 0) {i : Nat} {x : Elem} (hx : p.elems[i]? = some x) : ends x.kind ≠ 0 := by
  obtain ⟨_, h2, _⟩ := chk_zero h
  unfold argsOk at h2
  simp only [Bool.and_eq_true] at h2
  have := (List.all_eq_true.1 h2.2.1) x (List.mem_of_getElem? hx)
  unfold elemOk at this
  simp only [Bool.and_eq_true, decide_eq_true_eq] at this
  exact this.1.2
set_option maxHeartbeats 4000000 in
theorem lawBack_any (w : World) (pv : PV) (p : Plan) (pa : Option Addr) (pn pc : Nat) (pos : List Int) (x1 x2 : Int) (l1 : 0 ≤ x1) (u1 : x1 ≤ 255) (l2 : 0 ≤ x2) (u2 : x2 ≤ 255) (h : PlanAt w pv p) (hr : Hid (Ints w pa pn pos)) :
    Calls Try.prog 5 #[pv.val p, .slice pa pn pc, .int .u8 x1, .int .u8 x2] w fun en w' => en = .returned (.bool true) ∧ Below w.heap.size w w' := by
  obtain ⟨ae, ne, ce, aj, nj, cj, as_, ns, cs, al, nl, cl, lv⟩ := pv
  have hP := Lib.hid h
  have HBa := Lib.hid (pbox_new w ⟨ae, ne, ce, aj, nj, cj, as_, ns, cs, al, nl, cl, lv⟩ p)
  have Hba := Lib.hid (below_new w (.cells #[.slice ae ne ce, .slice aj nj cj, .slice as_ ns cs, .slice al nl cl, .int .i64 p.top, .int .i64 p.brake, .int .i64 p.margin, .int .i64 p.throw, .bool p.hard] 27))
  have K := Lib.hid (known5_any (w.alloc (.cells #[.slice ae ne ce, .slice aj nj cj, .slice as_ ns cs, .slice al nl cl, .int .i64 p.top, .int .i64 p.brake, .int .i64 p.margin, .int .i64 p.throw, .bool p.hard] 27)))
  have HF := Lib.hid (fun (u : World) (hb : Below w.heap.size w u) => finex_l (w := u) (hP.out.below hb))
  clear h
  dsimp only [PV.val]
  obtain ⟨_, c0, c1, c2, c3, c4, c5, c6, c7, c8⟩ := HBa.out
  dsimp only at c0 c1 c2 c3
  cases hf : fine p with
  | false =>
    rw [hf] at HF
    clear hf
    go_enter Try.func5, Try.ntmps5
    go_wp2_with fail
    refine (K.out).mono ?_
    rintro e w1 ⟨rfl, hbx⟩
    have HB1 := Lib.hid (HBa.out.below hbx)
    have Hb1 := Lib.hid (below_step Hba.out hbx Hba.out.size)
    clear hbx c0 c1 c2 c3 c4 c5 c6 c7 c8
    obtain ⟨_, c0, c1, c2, c3, c4, c5, c6, c7, c8⟩ := HB1.out
    dsimp only at c0 c1 c2 c3
    clear K
    go_wp2_with fail
    refine (HF.out w1 Hb1.out).mono ?_
    rintro e w2 ⟨rfl, hbx⟩
    have HB2 := Lib.hid (HB1.out.below hbx)
    have Hb2 := Lib.hid (below_step Hb1.out hbx Hb1.out.size)
    clear hbx c0 c1 c2 c3 c4 c5 c6 c7 c8
    obtain ⟨_, c0, c1, c2, c3, c4, c5, c6, c7, c8⟩ := HB2.out
    dsimp only at c0 c1 c2 c3
    go_wp2_with fail
    go_ret
    exact ⟨rfl, Hb2.out⟩
  | true =>
    rw [hf] at HF
    have HM := Lib.hid (fun (u : World) (hb : Below w.heap.size w u) => made_l (w := u) hf (hP.out.below hb))
    have Hok := Lib.hid (few_ok hP.out (fine_few hf).1)
    have Hc := Lib.hid (fine_few hf).2
    have G := Lib.hid (good_of (fine_few hf).2)
    clear hf
    by_cases hq : 100 < pn
    · have q9 : decide ((100 : Int) < (pn : Int)) = true := by simp; omega
      go_enter Try.func5, Try.ntmps5
      go_wp2_with fail
      refine (K.out).mono ?_
      rintro e w1 ⟨rfl, hbx⟩
      have HB1 := Lib.hid (HBa.out.below hbx)
      have Hb1 := Lib.hid (below_step Hba.out hbx Hba.out.size)
      clear hbx c0 c1 c2 c3 c4 c5 c6 c7 c8
      obtain ⟨_, c0, c1, c2, c3, c4, c5, c6, c7, c8⟩ := HB1.out
      dsimp only at c0 c1 c2 c3
      clear K
      go_wp2_with fail
      refine (HF.out w1 Hb1.out).mono ?_
      rintro e w2 ⟨rfl, hbx⟩
      have HB2 := Lib.hid (HB1.out.below hbx)
      have Hb2 := Lib.hid (below_step Hb1.out hbx Hb1.out.size)
      clear hbx c0 c1 c2 c3 c4 c5 c6 c7 c8
      obtain ⟨_, c0, c1, c2, c3, c4, c5, c6, c7, c8⟩ := HB2.out
      dsimp only at c0 c1 c2 c3
      go_wp2_with fail
      go_ret
      exact ⟨rfl, Hb2.out⟩
    have q9 : decide ((100 : Int) < (pn : Int)) = false := by simp; omega
    go_enter Try.func5, Try.ntmps5
    go_wp2_with fail
    refine (K.out).mono ?_
    rintro e w1 ⟨rfl, hbx⟩
    have HB1 := Lib.hid (HBa.out.below hbx)
    have Hb1 := Lib.hid (below_step Hba.out hbx Hba.out.size)
    clear hbx c0 c1 c2 c3 c4 c5 c6 c7 c8
    obtain ⟨_, c0, c1, c2, c3, c4, c5, c6, c7, c8⟩ := HB1.out
    dsimp only at c0 c1 c2 c3
    clear K
    go_wp2_with fail
    refine (HF.out w1 Hb1.out).mono ?_
    rintro e w2 ⟨rfl, hbx⟩
    have HB2 := Lib.hid (HB1.out.below hbx)
    have Hb2 := Lib.hid (below_step Hb1.out hbx Hb1.out.size)
    clear hbx c0 c1 c2 c3 c4 c5 c6 c7 c8
    obtain ⟨_, c0, c1, c2, c3, c4, c5, c6, c7, c8⟩ := HB2.out
    dsimp only at c0 c1 c2 c3
    go_wp2_with fail
    refine (HM.out w2 Hb2.out).mono ?_
    rintro e w3 ⟨b, rfl, hbb, hn, hbx⟩
    have HB3 := Lib.hid (HB2.out.below hbx)
    have Hb3 := Lib.hid (below_step Hb2.out hbx Hb2.out.size)
    have HN3 := Lib.hid hn
    have hbb := Nat.le_trans Hb2.out.size hbb
    clear hbx hn HF HM c0 c1 c2 c3 c4 c5 c6 c7 c8
    obtain ⟨_, c0, c1, c2, c3, c4, c5, c6, c7, c8⟩ := HB3.out
    dsimp only at c0 c1 c2 c3
    have Hr3 := Lib.hid (hr.out.below Hb3.out)
    have D3 := Lib.hid (Below.refl w3.heap.size w3)
    clear q9 hr
    have hne0 : ne ≠ 0 := by have h1 := (chk_sizes Hc.out).1; have h2 : p.elems.length = ne := hP.out.e.len; omega
    have k1 : 0 ≤ x1 % (ne : Int) := Int.emod_nonneg _ (by omega)
    have k2 : x1 % (ne : Int) < (ne : Int) := Int.emod_lt_of_pos _ (by omega)
    obtain ⟨eg, eoff, ey, rfl, heb, hey, eg1, eg2, eg3⟩ := hP.out.e.elemI k1 k2
    have eg2 := (Hb3.out.cell (p := ⟨eg, _, none⟩) heb).trans eg2
    have hkd : p.kind (x1 % (ne : Int)) = ey.kind := by have := elem_get (p := p) k1 hey; unfold Plan.kind; rw [this]
    have hok := ends_ok Hc.out hey
    have hes := ends_nonneg ey.kind
    have n1 : 0 ≤ x2 % ends ey.kind := Int.emod_nonneg _ hok
    have n2 : x2 % ends ey.kind < ends ey.kind := Int.emod_lt_of_pos _ (by omega)
    have hwr9 : IntKind.i64.wrap (x2 % ends ey.kind) = x2 % ends ey.kind := IntWalk.i64_in _ (by omega)
    have heb3 : eg < w3.heap.size := Nat.lt_of_lt_of_le heb Hb3.out.size
    clear heb eg1 eg3
    go_wp2_with fail
    refine (refends_any _ _).mono ?_
    rintro en v3 ⟨rfl, rfl⟩
    go_wp2_with fail
    obtain ⟨hh, hhe, hhn⟩ : ∃ h : Port, x1 % (ne : Int) = h.e ∧ x2 % ends ey.kind = h.n := ⟨⟨_, _⟩, rfl, rfl⟩
    have Hpt := Lib.hid (show isPort p hh = true by rw [isPort_iff, ← hhe, ← hhn, hkd]; exact ⟨k1, by have h2 : p.elems.length = ne := hP.out.e.len; omega, n1, n2⟩)
    have Hwh := Lib.hid (port_wf G.out Hpt.out)

    rw [hhe, hhn]
    clear hwr9 n1 n2 k1 k2 hkd hey hhe hhn eg2 heb3 hes hok
    have C1 := Lib.hid (fun (u : World) (hb : Below w3.heap.size w3 u) => nstep_any u b p (HN3.out.below hb) pa pn pc pos (Lib.hid (Hr3.out.below hb)) hh Hwh.out)
    have C3 := Lib.hid (fun (u : World) (hb : Below w3.heap.size w3 u) => nback_any u b p (HN3.out.below hb) pa pn pc pos (Lib.hid (Hr3.out.below hb)) hh Hwh.out)
    dsimp only [Port.val] at C1 C3
    refine name_calls fun w4 hw => ?_
    have hbx : Below w3.heap.size w3 w4 := by rw [hw]; exact below_new _ _
    have qh4_ := Lib.hid (show PortBox w4 w3.heap.size hh by rw [hw]; exact PortBox.new _ rfl (hh) _)
    clear hw
    clear c0 c1 c2 c3 c4 c5 c6 c7 c8
    have D4 := Lib.hid (below_step D3.out hbx D3.out.size)
    clear hbx
    obtain ⟨_, c0, c1, c2, c3, c4, c5, c6, c7, c8⟩ := (HB3.out.below D4.out)
    dsimp only at c0 c1 c2 c3
    obtain ⟨_, qh0, qh1, _⟩ := qh4_.out
    obtain ⟨s, hs⟩ : ∃ s, s = step p pos hh := ⟨_, rfl⟩
    rw [← hs] at C1
    by_cases e0 : s.2 = 0
    · have hss : step p pos hh = (s.1, 0) := by rw [← hs, ← e0]
      have hbk := back_of_step G.out hss
      have hws := step_wf G.out hss
      have C2 := Lib.hid (fun (u : World) (hb : Below w3.heap.size w3 u) => nback_any u b p (HN3.out.below hb) pa pn pc pos (Lib.hid (Hr3.out.below hb)) s.1 hws)
      rw [hbk] at C2
      dsimp only [Port.val, Option.getD_some, Option.isSome_some] at C2
      rw [e0] at C1
      clear hs hss hbk e0
      refine (C1.out _ D4.out).mono ?_
      rintro en w5 ⟨rfl, hbx⟩
      clear c0 c1 c2 c3 c4 c5 c6 c7 c8 qh0 qh1
      have D5 := Lib.hid (below_step D4.out hbx D4.out.size)
      have qh5_ := Lib.hid (qh4_.out.below hbx)
      clear hbx
      obtain ⟨_, c0, c1, c2, c3, c4, c5, c6, c7, c8⟩ := (HB3.out.below D5.out)
      dsimp only at c0 c1 c2 c3
      obtain ⟨_, qh0, qh1, _⟩ := qh5_.out
      go_wp2_with fail
      refine name_calls fun w6 hw => ?_
      have hbx : Below w5.heap.size w5 w6 := by rw [hw]; exact below_new _ _
      have qs6_ := Lib.hid (show PortBox w6 w5.heap.size s.1 by rw [hw]; exact PortBox.new _ rfl (s.1) _)
      clear hw
      clear c0 c1 c2 c3 c4 c5 c6 c7 c8 qh0 qh1
      have D6 := Lib.hid (below_step D5.out hbx D5.out.size)
      have qh6_ := Lib.hid (qh5_.out.below hbx)
      clear hbx
      obtain ⟨_, c0, c1, c2, c3, c4, c5, c6, c7, c8⟩ := (HB3.out.below D6.out)
      dsimp only at c0 c1 c2 c3
      obtain ⟨_, qh0, qh1, _⟩ := qh6_.out
      obtain ⟨_, qs0, qs1, _⟩ := qs6_.out
      refine (C2.out _ D6.out).mono ?_
      rintro en w7 ⟨rfl, hbx⟩
      clear c0 c1 c2 c3 c4 c5 c6 c7 c8 qh0 qh1 qs0 qs1
      have D7 := Lib.hid (below_step D6.out hbx D6.out.size)
      have qh7_ := Lib.hid (qh6_.out.below hbx)
      have qs7_ := Lib.hid (qs6_.out.below hbx)
      clear hbx
      obtain ⟨_, c0, c1, c2, c3, c4, c5, c6, c7, c8⟩ := (HB3.out.below D7.out)
      dsimp only at c0 c1 c2 c3
      obtain ⟨_, qh0, qh1, _⟩ := qh7_.out
      obtain ⟨_, qs0, qs1, _⟩ := qs7_.out
      clear qh0 qh1 qs0 qs1
      obtain ⟨_, qh0, qh1, _⟩ := (show PortBox (w7.alloc (.cells #[.int .i64 (hh).e, .int .i64 (hh).n] 30)) _ _ from qh7_.out.below (below_new w7 _))
      obtain ⟨_, qs0, qs1, _⟩ := (show PortBox (w7.alloc (.cells #[.int .i64 (hh).e, .int .i64 (hh).n] 30)) _ _ from qs7_.out.below (below_new w7 _))
      obtain ⟨_, qz0, qz1, _⟩ := (show PortBox (w7.alloc (.cells #[.int .i64 (hh).e, .int .i64 (hh).n] 30)) w7.heap.size (hh) from PortBox.new w7 rfl (hh) _)
      have e2 := neq_port (x := hh) (y := hh) (b := true) (by simp)
      go_wp2_with fail
      clear qz0 qz1
      refine name_calls fun w8 hw => ?_
      have hbx : Below w7.heap.size w7 w8 := by rw [hw]; exact below_new _ _
      have qz8_ := Lib.hid (show PortBox w8 w7.heap.size hh by rw [hw]; exact PortBox.new _ rfl (hh) _)
      clear hw
      clear c0 c1 c2 c3 c4 c5 c6 c7 c8 qh0 qh1 qs0 qs1
      have D8 := Lib.hid (below_step D7.out hbx D7.out.size)
      have qh8_ := Lib.hid (qh7_.out.below hbx)
      have qs8_ := Lib.hid (qs7_.out.below hbx)
      clear hbx
      obtain ⟨_, c0, c1, c2, c3, c4, c5, c6, c7, c8⟩ := (HB3.out.below D8.out)
      dsimp only at c0 c1 c2 c3
      obtain ⟨_, qh0, qh1, _⟩ := qh8_.out
      obtain ⟨_, qs0, qs1, _⟩ := qs8_.out
      obtain ⟨_, qz0, qz1, _⟩ := qz8_.out
      cases hb : back p pos hh with
      | none =>
        rw [hb] at C3
        dsimp only [Option.getD_none, Option.isSome_none, zeroPort] at C3
        clear hb
        refine (C3.out _ D8.out).mono ?_
        rintro en w9 ⟨rfl, hbx⟩
        clear c0 c1 c2 c3 c4 c5 c6 c7 c8 qh0 qh1 qs0 qs1 qz0 qz1
        have D9 := Lib.hid (below_step D8.out hbx D8.out.size)
        have qh9_ := Lib.hid (qh8_.out.below hbx)
        have qs9_ := Lib.hid (qs8_.out.below hbx)
        have qz9_ := Lib.hid (qz8_.out.below hbx)
        clear hbx
        obtain ⟨_, c0, c1, c2, c3, c4, c5, c6, c7, c8⟩ := (HB3.out.below D9.out)
        dsimp only at c0 c1 c2 c3
        obtain ⟨_, qh0, qh1, _⟩ := qh9_.out
        obtain ⟨_, qs0, qs1, _⟩ := qs9_.out
        obtain ⟨_, qz0, qz1, _⟩ := qz9_.out
        go_wp2_with fail
        go_ret
        exact ⟨rfl, below_step Hb3.out (below_step D9.out (below_new _ _) D9.out.size) Hb3.out.size⟩
      | some bb =>
        have hst := step_of_back G.out hb
        have hwb := back_wf G.out hb
        rw [hb] at C3
        dsimp only [Option.getD_some, Option.isSome_some] at C3
        have C4 := Lib.hid (fun (u : World) (hb : Below w3.heap.size w3 u) => nstep_any u b p (HN3.out.below hb) pa pn pc pos (Lib.hid (Hr3.out.below hb)) bb hwb)
        rw [hst] at C4
        dsimp only [Port.val] at C4
        clear hb hst
        refine (C3.out _ D8.out).mono ?_
        rintro en w9 ⟨rfl, hbx⟩
        clear c0 c1 c2 c3 c4 c5 c6 c7 c8 qh0 qh1 qs0 qs1 qz0 qz1
        have D9 := Lib.hid (below_step D8.out hbx D8.out.size)
        have qh9_ := Lib.hid (qh8_.out.below hbx)
        have qs9_ := Lib.hid (qs8_.out.below hbx)
        have qz9_ := Lib.hid (qz8_.out.below hbx)
        clear hbx
        obtain ⟨_, c0, c1, c2, c3, c4, c5, c6, c7, c8⟩ := (HB3.out.below D9.out)
        dsimp only at c0 c1 c2 c3
        obtain ⟨_, qh0, qh1, _⟩ := qh9_.out
        obtain ⟨_, qs0, qs1, _⟩ := qs9_.out
        obtain ⟨_, qz0, qz1, _⟩ := qz9_.out
        go_wp2_with fail
        refine name_calls fun w10 hw => ?_
        have hbx : Below w9.heap.size w9 w10 := by rw [hw]; exact below_new _ _
        have qd10_ := Lib.hid (show PortBox w10 w9.heap.size bb by rw [hw]; exact PortBox.new _ rfl (bb) _)
        clear hw
        clear c0 c1 c2 c3 c4 c5 c6 c7 c8 qh0 qh1 qs0 qs1 qz0 qz1
        have D10 := Lib.hid (below_step D9.out hbx D9.out.size)
        have qh10_ := Lib.hid (qh9_.out.below hbx)
        have qs10_ := Lib.hid (qs9_.out.below hbx)
        have qz10_ := Lib.hid (qz9_.out.below hbx)
        clear hbx
        obtain ⟨_, c0, c1, c2, c3, c4, c5, c6, c7, c8⟩ := (HB3.out.below D10.out)
        dsimp only at c0 c1 c2 c3
        obtain ⟨_, qh0, qh1, _⟩ := qh10_.out
        obtain ⟨_, qs0, qs1, _⟩ := qs10_.out
        obtain ⟨_, qz0, qz1, _⟩ := qz10_.out
        obtain ⟨_, qd0, qd1, _⟩ := qd10_.out
        refine (C4.out _ D10.out).mono ?_
        rintro en w11 ⟨rfl, hbx⟩
        clear c0 c1 c2 c3 c4 c5 c6 c7 c8 qh0 qh1 qs0 qs1 qz0 qz1 qd0 qd1
        have D11 := Lib.hid (below_step D10.out hbx D10.out.size)
        have qh11_ := Lib.hid (qh10_.out.below hbx)
        have qs11_ := Lib.hid (qs10_.out.below hbx)
        have qz11_ := Lib.hid (qz10_.out.below hbx)
        have qd11_ := Lib.hid (qd10_.out.below hbx)
        clear hbx
        obtain ⟨_, c0, c1, c2, c3, c4, c5, c6, c7, c8⟩ := (HB3.out.below D11.out)
        dsimp only at c0 c1 c2 c3
        obtain ⟨_, qh0, qh1, _⟩ := qh11_.out
        obtain ⟨_, qs0, qs1, _⟩ := qs11_.out
        obtain ⟨_, qz0, qz1, _⟩ := qz11_.out
        obtain ⟨_, qd0, qd1, _⟩ := qd11_.out
        clear qh0 qh1 qs0 qs1 qz0 qz1 qd0 qd1
        obtain ⟨_, qh0, qh1, _⟩ := (show PortBox (w11.alloc (.cells #[.int .i64 (hh).e, .int .i64 (hh).n] 30)) _ _ from qh11_.out.below (below_new w11 _))
        obtain ⟨_, qs0, qs1, _⟩ := (show PortBox (w11.alloc (.cells #[.int .i64 (hh).e, .int .i64 (hh).n] 30)) _ _ from qs11_.out.below (below_new w11 _))
        obtain ⟨_, qz0, qz1, _⟩ := (show PortBox (w11.alloc (.cells #[.int .i64 (hh).e, .int .i64 (hh).n] 30)) _ _ from qz11_.out.below (below_new w11 _))
        obtain ⟨_, qd0, qd1, _⟩ := (show PortBox (w11.alloc (.cells #[.int .i64 (hh).e, .int .i64 (hh).n] 30)) _ _ from qd11_.out.below (below_new w11 _))
        obtain ⟨_, qz0, qz1, _⟩ := (show PortBox (w11.alloc (.cells #[.int .i64 (hh).e, .int .i64 (hh).n] 30)) w11.heap.size (hh) from PortBox.new w11 rfl (hh) _)
        have e1 := eql_port (x := hh) (y := hh) (b := true) (by simp)
        go_wp2_with fail
        go_ret
        exact ⟨rfl, below_step Hb3.out (below_step D11.out (below_new _ _) D11.out.size) Hb3.out.size⟩
    · have q0 : (s.2 == 0) = false := by simpa using e0
      clear hs e0
      refine (C1.out _ D4.out).mono ?_
      rintro en w5 ⟨rfl, hbx⟩
      clear c0 c1 c2 c3 c4 c5 c6 c7 c8 qh0 qh1
      have D5 := Lib.hid (below_step D4.out hbx D4.out.size)
      have qh5_ := Lib.hid (qh4_.out.below hbx)
      clear hbx
      obtain ⟨_, c0, c1, c2, c3, c4, c5, c6, c7, c8⟩ := (HB3.out.below D5.out)
      dsimp only at c0 c1 c2 c3
      obtain ⟨_, qh0, qh1, _⟩ := qh5_.out
      go_wp2_with fail
      refine name_calls fun w6 hw => ?_
      have hbx : Below w5.heap.size w5 w6 := by rw [hw]; exact below_new _ _
      have qs6_ := Lib.hid (show PortBox w6 w5.heap.size s.1 by rw [hw]; exact PortBox.new _ rfl (s.1) _)
      clear hw
      clear c0 c1 c2 c3 c4 c5 c6 c7 c8 qh0 qh1
      have D6 := Lib.hid (below_step D5.out hbx D5.out.size)
      have qh6_ := Lib.hid (qh5_.out.below hbx)
      clear hbx
      obtain ⟨_, c0, c1, c2, c3, c4, c5, c6, c7, c8⟩ := (HB3.out.below D6.out)
      dsimp only at c0 c1 c2 c3
      obtain ⟨_, qh0, qh1, _⟩ := qh6_.out
      obtain ⟨_, qs0, qs1, _⟩ := qs6_.out
      cases hb : back p pos hh with
      | none =>
        rw [hb] at C3
        dsimp only [Option.getD_none, Option.isSome_none, zeroPort] at C3
        clear hb
        refine (C3.out _ D6.out).mono ?_
        rintro en w7 ⟨rfl, hbx⟩
        clear c0 c1 c2 c3 c4 c5 c6 c7 c8 qh0 qh1 qs0 qs1
        have D7 := Lib.hid (below_step D6.out hbx D6.out.size)
        have qh7_ := Lib.hid (qh6_.out.below hbx)
        have qs7_ := Lib.hid (qs6_.out.below hbx)
        clear hbx
        obtain ⟨_, c0, c1, c2, c3, c4, c5, c6, c7, c8⟩ := (HB3.out.below D7.out)
        dsimp only at c0 c1 c2 c3
        obtain ⟨_, qh0, qh1, _⟩ := qh7_.out
        obtain ⟨_, qs0, qs1, _⟩ := qs7_.out
        go_wp2_with fail
        go_ret
        exact ⟨rfl, below_step Hb3.out (below_step D7.out (below_new _ _) D7.out.size) Hb3.out.size⟩
      | some bb =>
        have hst := step_of_back G.out hb
        have hwb := back_wf G.out hb
        rw [hb] at C3
        dsimp only [Option.getD_some, Option.isSome_some] at C3
        have C4 := Lib.hid (fun (u : World) (hb : Below w3.heap.size w3 u) => nstep_any u b p (HN3.out.below hb) pa pn pc pos (Lib.hid (Hr3.out.below hb)) bb hwb)
        rw [hst] at C4
        dsimp only [Port.val] at C4
        clear hb hst
        refine (C3.out _ D6.out).mono ?_
        rintro en w7 ⟨rfl, hbx⟩
        clear c0 c1 c2 c3 c4 c5 c6 c7 c8 qh0 qh1 qs0 qs1
        have D7 := Lib.hid (below_step D6.out hbx D6.out.size)
        have qh7_ := Lib.hid (qh6_.out.below hbx)
        have qs7_ := Lib.hid (qs6_.out.below hbx)
        clear hbx
        obtain ⟨_, c0, c1, c2, c3, c4, c5, c6, c7, c8⟩ := (HB3.out.below D7.out)
        dsimp only at c0 c1 c2 c3
        obtain ⟨_, qh0, qh1, _⟩ := qh7_.out
        obtain ⟨_, qs0, qs1, _⟩ := qs7_.out
        go_wp2_with fail
        refine name_calls fun w8 hw => ?_
        have hbx : Below w7.heap.size w7 w8 := by rw [hw]; exact below_new _ _
        have qd8_ := Lib.hid (show PortBox w8 w7.heap.size bb by rw [hw]; exact PortBox.new _ rfl (bb) _)
        clear hw
        clear c0 c1 c2 c3 c4 c5 c6 c7 c8 qh0 qh1 qs0 qs1
        have D8 := Lib.hid (below_step D7.out hbx D7.out.size)
        have qh8_ := Lib.hid (qh7_.out.below hbx)
        have qs8_ := Lib.hid (qs7_.out.below hbx)
        clear hbx
        obtain ⟨_, c0, c1, c2, c3, c4, c5, c6, c7, c8⟩ := (HB3.out.below D8.out)
        dsimp only at c0 c1 c2 c3
        obtain ⟨_, qh0, qh1, _⟩ := qh8_.out
        obtain ⟨_, qs0, qs1, _⟩ := qs8_.out
        obtain ⟨_, qd0, qd1, _⟩ := qd8_.out
        refine (C4.out _ D8.out).mono ?_
        rintro en w9 ⟨rfl, hbx⟩
        clear c0 c1 c2 c3 c4 c5 c6 c7 c8 qh0 qh1 qs0 qs1 qd0 qd1
        have D9 := Lib.hid (below_step D8.out hbx D8.out.size)
        have qh9_ := Lib.hid (qh8_.out.below hbx)
        have qs9_ := Lib.hid (qs8_.out.below hbx)
        have qd9_ := Lib.hid (qd8_.out.below hbx)
        clear hbx
        obtain ⟨_, c0, c1, c2, c3, c4, c5, c6, c7, c8⟩ := (HB3.out.below D9.out)
        dsimp only at c0 c1 c2 c3
        obtain ⟨_, qh0, qh1, _⟩ := qh9_.out
        obtain ⟨_, qs0, qs1, _⟩ := qs9_.out
        obtain ⟨_, qd0, qd1, _⟩ := qd9_.out
        clear qh0 qh1 qs0 qs1 qd0 qd1
        obtain ⟨_, qh0, qh1, _⟩ := (show PortBox (w9.alloc (.cells #[.int .i64 (hh).e, .int .i64 (hh).n] 30)) _ _ from qh9_.out.below (below_new w9 _))
        obtain ⟨_, qs0, qs1, _⟩ := (show PortBox (w9.alloc (.cells #[.int .i64 (hh).e, .int .i64 (hh).n] 30)) _ _ from qs9_.out.below (below_new w9 _))
        obtain ⟨_, qd0, qd1, _⟩ := (show PortBox (w9.alloc (.cells #[.int .i64 (hh).e, .int .i64 (hh).n] 30)) _ _ from qd9_.out.below (below_new w9 _))
        obtain ⟨_, qz0, qz1, _⟩ := (show PortBox (w9.alloc (.cells #[.int .i64 (hh).e, .int .i64 (hh).n] 30)) w9.heap.size (hh) from PortBox.new w9 rfl (hh) _)
        have e1 := eql_port (x := hh) (y := hh) (b := true) (by simp)
        go_wp2_with fail
        go_ret
        exact ⟨rfl, below_step Hb3.out (below_step D9.out (below_new _ _) D9.out.size) Hb3.out.size⟩
set_option maxRecDepth 100000 in
theorem walkBack_lifted (os : Os) (started : os.Started) (H : Type) (enc : TypeId × Value → H) :
    ReturnsInHanded {} Try.checked os 5 .any (Rows.walkBackSpec.pre6 enc Try.prog Try.f5 Rows.walkBackRow.domain false) (Rows.walkBackSpec.post enc Try.prog Try.f5 false true false false) := by
  refine returnsInHanded_of_change (C := Try.checked) own started (by kernel_rfl) Try.func5
    (ChangeSpec.witness6 (enc := enc) (C := Try.checked) false ⟨#[], #[.agg #[.slice none 0 0, .slice none 0 0, .slice none 0 0, .slice none 0 0, .int .i64 0, .int .i64 0, .int .i64 0, .int .i64 0, .bool false], .slice none 0 0, .int .u8 0, .int .u8 0], []⟩ 8 (by kernel_rfl) (by kernel_rfl) (by kernel_rfl) (by kernel_rfl)) ?_
  intro W base args ds gs before hval0 hW hcnd _
  have hval : ∀ (j : Nat) t v, Try.f5.params[j]? = some t → args[j]? = some v → Value.okWide Try.prog W .any base t v := hval0
  have hW' := hW
  obtain ⟨p, q, hA0, hV, rfl, hfz, hnd⟩ := hW
  have hA : DataW.TrodAll enc Try.prog W 0 (fun _ => true) true Try.f5.params.toList args.toList ds p := hA0
  rw [Try.params5] at hA hval
  obtain ⟨v0, vs0, d0, ds0, p0, q0, hargs, rfl, rfl, k0, r0⟩ := trodAll_cons hA
  obtain ⟨v1, vs1, d1, ds1, p1, q1, rfl, rfl, rfl, k1, r1⟩ := trodAll_cons r0
  obtain ⟨v2, vs2, d2, ds2, p2, q2, rfl, rfl, rfl, k2, r2⟩ := trodAll_cons r1
  obtain ⟨v3, vs3, d3, ds3, p3, q3, rfl, rfl, rfl, k3, r3⟩ := trodAll_cons r2
  obtain ⟨rfl, rfl, rfl⟩ := trodAll_nil r3
  obtain rfl : args = #[v0, v1, v2, v3] := by cases args; simp_all
  obtain ⟨rfl, rfl⟩ := trodVars_none hV
  have lt0 : ∀ x ∈ p0, x.block < W.heap.size := by obtain ⟨m, hm⟩ := k0; exact DataW.trod_lt m _ _ _ hm
  have hv0 := hval 0 27 v0 rfl rfl
  have lt1 : ∀ x ∈ p1, x.block < W.heap.size := by obtain ⟨m, hm⟩ := k1; exact DataW.trod_lt m _ _ _ hm
  have hv1 := hval 1 28 v1 rfl rfl
  have lt2 : ∀ x ∈ p2, x.block < W.heap.size := by obtain ⟨m, hm⟩ := k2; exact DataW.trod_lt m _ _ _ hm
  have hv2 := hval 2 5 v2 rfl rfl
  have lt3 : ∀ x ∈ p3, x.block < W.heap.size := by obtain ⟨m, hm⟩ := k3; exact DataW.trod_lt m _ _ _ hm
  have hv3 := hval 3 5 v3 rfl rfl
  have fin : Calls Try.prog 5 #[v0, v1, v2, v3] W (fun e W' => e = .returned (.bool true) ∧ Below W.heap.size W W') := by
    obtain ⟨pv, p, rfl, hp⟩ := open_plan hv0 k0
    obtain ⟨pa, pn, pc, pos, rfl, hr, _, _, _⟩ := open_Ints hv1 k1
    obtain ⟨x0, rfl, a0, a1⟩ := open_u8 hv2 k2
    obtain ⟨x1, rfl, b0, b1⟩ := open_u8 hv3 k3
    exact lawBack_any W pv p pa pn pc pos x0 x1 a0 a1 b0 b1 hp (Lib.hid hr)
  clear hA0 hval0
  refine fin.mono fun e W' ⟨he, bel⟩ => ?_
  subst he
  exact ⟨_, rfl, _, _, _, [], _, [], hW', trodAll_mk1 (shut_bool Try.underlying4 _), (trodAll_cons_mk (Below.trod laidOut (by kernel_rfl) (of_decide_eq_true (by kernel_rfl)) k0 bel lt0) (trodAll_cons_mk (Below.trod laidOut (by kernel_rfl) (of_decide_eq_true (by kernel_rfl)) k1 bel lt1) (trodAll_cons_mk (Below.trod laidOut (by kernel_rfl) (of_decide_eq_true (by kernel_rfl)) k2 bel lt2) (trodAll_cons_mk (Below.trod laidOut (by kernel_rfl) (of_decide_eq_true (by kernel_rfl)) k3 bel lt3) trodAll_mk0)))), rfl, bel.frame _, fun h => by cases h⟩

/-- THE STATEMENT -/
theorem walkBack_holds : Rows.WalkBackSaid :=
  OpenClaim.holds_of_wide 5 Try.f5 rfl rfl rfl rfl rfl rfl rfl ⟨rfl, rfl, rfl, rfl, rfl⟩ rfl rfl rfl rfl rfl (by kernel_rfl) Try.func5 (by kernel_rfl)
    (of_decide_eq_true (by kernel_rfl)) (by unfold Func.isWrapper; first | (rw [if_pos (by decide +kernel)]; kernel_rfl) | (rw [if_neg (by decide +kernel)]; exact ⟨rfl, rfl⟩))
    (fun os started H enc _ => walkBack_lifted os started H enc)
end Go.Proofs.Ytackcfoplhhnbaa
