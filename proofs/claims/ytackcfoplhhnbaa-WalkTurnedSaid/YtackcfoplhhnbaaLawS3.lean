/- WalkTurned: for every input the law returns true. No condition. -/
import Derived.Test.YtackcfoplhhnbaaLawS2
set_option maxRecDepth 1000000
namespace Go.Proofs.Ytackcfoplhhnbaa
open Go.ChangeShapes Go.WideShapes Go.ChangeAt Go.RowKit Go.Sort

set_option maxHeartbeats 4000000 in
theorem lawTurned_any (w : World) (pv : PV) (p : Plan) (pa : Option Addr) (pn pc : Nat) (pos : List Int) (x1 x2 : Int) (l1 : 0 ≤ x1) (u1 : x1 ≤ 255) (l2 : 0 ≤ x2) (u2 : x2 ≤ 255) (h : PlanAt w pv p) (hr : Hid (Ints w pa pn pos)) :
    Calls Try.prog 6 #[pv.val p, .slice pa pn pc, .int .u8 x1, .int .u8 x2] w fun en w' => en = .returned (.bool true) ∧ Below w.heap.size w w' := by
  obtain ⟨ae, ne, ce, aj, nj, cj, as_, ns, cs, al, nl, cl, lv⟩ := pv
  have hP := Lib.hid h
  have HBa := Lib.hid (pbox_new w ⟨ae, ne, ce, aj, nj, cj, as_, ns, cs, al, nl, cl, lv⟩ p)
  have Hba := Lib.hid (below_new w (.cells #[.slice ae ne ce, .slice aj nj cj, .slice as_ ns cs, .slice al nl cl, .int .i64 p.top, .int .i64 p.brake, .int .i64 p.margin, .int .i64 p.throw, .bool p.hard] 27))
  have K := Lib.hid (known5_any (w.alloc (.cells #[.slice ae ne ce, .slice aj nj cj, .slice as_ ns cs, .slice al nl cl, .int .i64 p.top, .int .i64 p.brake, .int .i64 p.margin, .int .i64 p.throw, .bool p.hard] 27)))
  have HF := Lib.hid (fun (u : World) (hb : Below w.heap.size w u) => finex_l (w := u) (hP.out.below hb))
  clear h
  dsimp only [PV.val]
  obtain ⟨_, c0, c1, c2, c3, c4, c5, c6, c7, c8⟩ := HBa.out
  dsimp only at c0 c1 c2 c3
  cases hf : fine p with
  | false =>
    rw [hf] at HF
    clear hf
    go_enter Try.func6, Try.ntmps6
    go_wp2_with fail
    refine (K.out).mono ?_
    rintro e w1 ⟨rfl, hbx⟩
    have HB1 := Lib.hid (HBa.out.below hbx)
    have Hb1 := Lib.hid (below_step Hba.out hbx Hba.out.size)
    clear hbx c0 c1 c2 c3 c4 c5 c6 c7 c8
    obtain ⟨_, c0, c1, c2, c3, c4, c5, c6, c7, c8⟩ := HB1.out
    dsimp only at c0 c1 c2 c3
    clear K
    go_wp2_with fail
    refine (HF.out w1 Hb1.out).mono ?_
    rintro e w2 ⟨rfl, hbx⟩
    have HB2 := Lib.hid (HB1.out.below hbx)
    have Hb2 := Lib.hid (below_step Hb1.out hbx Hb1.out.size)
    clear hbx c0 c1 c2 c3 c4 c5 c6 c7 c8
    obtain ⟨_, c0, c1, c2, c3, c4, c5, c6, c7, c8⟩ := HB2.out
    dsimp only at c0 c1 c2 c3
    go_wp2_with fail
    go_ret
    exact ⟨rfl, Hb2.out⟩
  | true =>
    rw [hf] at HF
    have HM := Lib.hid (fun (u : World) (hb : Below w.heap.size w u) => made_l (w := u) hf (hP.out.below hb))
    have Hok := Lib.hid (few_ok hP.out (fine_few hf).1)
    have Hc := Lib.hid (fine_few hf).2
    have G := Lib.hid (good_of (fine_few hf).2)
    clear hf
    by_cases hq : 100 < pn
    · have q9 : decide ((100 : Int) < (pn : Int)) = true := by simp; omega
      go_enter Try.func6, Try.ntmps6
      go_wp2_with fail
      refine (K.out).mono ?_
      rintro e w1 ⟨rfl, hbx⟩
      have HB1 := Lib.hid (HBa.out.below hbx)
      have Hb1 := Lib.hid (below_step Hba.out hbx Hba.out.size)
      clear hbx c0 c1 c2 c3 c4 c5 c6 c7 c8
      obtain ⟨_, c0, c1, c2, c3, c4, c5, c6, c7, c8⟩ := HB1.out
      dsimp only at c0 c1 c2 c3
      clear K
      go_wp2_with fail
      refine (HF.out w1 Hb1.out).mono ?_
      rintro e w2 ⟨rfl, hbx⟩
      have HB2 := Lib.hid (HB1.out.below hbx)
      have Hb2 := Lib.hid (below_step Hb1.out hbx Hb1.out.size)
      clear hbx c0 c1 c2 c3 c4 c5 c6 c7 c8
      obtain ⟨_, c0, c1, c2, c3, c4, c5, c6, c7, c8⟩ := HB2.out
      dsimp only at c0 c1 c2 c3
      go_wp2_with fail
      go_ret
      exact ⟨rfl, Hb2.out⟩
    have q9 : decide ((100 : Int) < (pn : Int)) = false := by simp; omega
    go_enter Try.func6, Try.ntmps6
    go_wp2_with fail
    refine (K.out).mono ?_
    rintro e w1 ⟨rfl, hbx⟩
    have HB1 := Lib.hid (HBa.out.below hbx)
    have Hb1 := Lib.hid (below_step Hba.out hbx Hba.out.size)
    clear hbx c0 c1 c2 c3 c4 c5 c6 c7 c8
    obtain ⟨_, c0, c1, c2, c3, c4, c5, c6, c7, c8⟩ := HB1.out
    dsimp only at c0 c1 c2 c3
    clear K
    go_wp2_with fail
    refine (HF.out w1 Hb1.out).mono ?_
    rintro e w2 ⟨rfl, hbx⟩
    have HB2 := Lib.hid (HB1.out.below hbx)
    have Hb2 := Lib.hid (below_step Hb1.out hbx Hb1.out.size)
    clear hbx c0 c1 c2 c3 c4 c5 c6 c7 c8
    obtain ⟨_, c0, c1, c2, c3, c4, c5, c6, c7, c8⟩ := HB2.out
    dsimp only at c0 c1 c2 c3
    go_wp2_with fail
    refine (HM.out w2 Hb2.out).mono ?_
    rintro e w3 ⟨b, rfl, hbb, hn, hbx⟩
    have HB3 := Lib.hid (HB2.out.below hbx)
    have Hb3 := Lib.hid (below_step Hb2.out hbx Hb2.out.size)
    have HN3 := Lib.hid hn
    have hbb := Nat.le_trans Hb2.out.size hbb
    clear hbx hn HF HM c0 c1 c2 c3 c4 c5 c6 c7 c8
    obtain ⟨_, c0, c1, c2, c3, c4, c5, c6, c7, c8⟩ := HB3.out
    dsimp only at c0 c1 c2 c3
    have Hr3 := Lib.hid (hr.out.below Hb3.out)
    have D3 := Lib.hid (Below.refl w3.heap.size w3)
    clear q9 hr
    have hne0 : ne ≠ 0 := by have h1 := (chk_sizes Hc.out).1; have h2 : p.elems.length = ne := hP.out.e.len; omega
    have k1 : 0 ≤ x1 % (ne : Int) := Int.emod_nonneg _ (by omega)
    have k2 : x1 % (ne : Int) < (ne : Int) := Int.emod_lt_of_pos _ (by omega)
    obtain ⟨eg, eoff, ey, rfl, heb, hey, eg1, eg2, eg3⟩ := hP.out.e.elemI k1 k2
    have eg2 := (Hb3.out.cell (p := ⟨eg, _, none⟩) heb).trans eg2
    have hkd : p.kind (x1 % (ne : Int)) = ey.kind := by have := elem_get (p := p) k1 hey; unfold Plan.kind; rw [this]
    have hok := ends_ok Hc.out hey
    have hes := ends_nonneg ey.kind
    have n1 : 0 ≤ x2 % ends ey.kind := Int.emod_nonneg _ hok
    have n2 : x2 % ends ey.kind < ends ey.kind := Int.emod_lt_of_pos _ (by omega)
    have hwr9 : IntKind.i64.wrap (x2 % ends ey.kind) = x2 % ends ey.kind := IntWalk.i64_in _ (by omega)
    have heb3 : eg < w3.heap.size := Nat.lt_of_lt_of_le heb Hb3.out.size
    clear heb eg1 eg3
    go_wp2_with fail
    refine (refends_any _ _).mono ?_
    rintro en v3 ⟨rfl, rfl⟩
    go_wp2_with fail
    obtain ⟨hh, hhe, hhn⟩ : ∃ h : Port, x1 % (ne : Int) = h.e ∧ x2 % ends ey.kind = h.n := ⟨⟨_, _⟩, rfl, rfl⟩
    have Hpt := Lib.hid (show isPort p hh = true by rw [isPort_iff, ← hhe, ← hhn, hkd]; exact ⟨k1, by have h2 : p.elems.length = ne := hP.out.e.len; omega, n1, n2⟩)
    have Hwh := Lib.hid (port_wf G.out Hpt.out)

    rw [hhe, hhn]
    clear hwr9 n1 n2 k1 k2 hkd hey hhe hhn eg2 heb3 hes hok
    have C1 := Lib.hid (fun (u : World) (hb : Below w3.heap.size w3 u) => nturn_any u b p (HN3.out.below hb) pa pn pc pos (Lib.hid (Hr3.out.below hb)) hh)
    have C3 := Lib.hid (fun (u : World) (hb : Below w3.heap.size w3 u) => nstep_any u b p (HN3.out.below hb) pa pn pc pos (Lib.hid (Hr3.out.below hb)) hh Hwh.out)
    dsimp only [Port.val] at C1 C3
    refine name_calls fun w4 hw => ?_
    have hbx : Below w3.heap.size w3 w4 := by rw [hw]; exact below_new _ _
    have qh4_ := Lib.hid (show PortBox w4 w3.heap.size hh by rw [hw]; exact PortBox.new _ rfl (hh) _)
    clear hw
    clear c0 c1 c2 c3 c4 c5 c6 c7 c8
    have D4 := Lib.hid (below_step D3.out hbx D3.out.size)
    clear hbx
    obtain ⟨_, c0, c1, c2, c3, c4, c5, c6, c7, c8⟩ := (HB3.out.below D4.out)
    dsimp only at c0 c1 c2 c3
    obtain ⟨_, qh0, qh1, _⟩ := qh4_.out
    obtain ⟨s, hs⟩ : ∃ s, s = step p pos hh := ⟨_, rfl⟩
    rw [← hs] at C3
    cases ht : turn p pos hh with
    | none =>
      rw [ht] at C1
      dsimp only [Option.getD_none, Option.isSome_none, zeroPort] at C1
      refine (C1.out _ D4.out).mono ?_
      rintro en w5 ⟨rfl, hbx⟩
      clear c0 c1 c2 c3 c4 c5 c6 c7 c8 qh0 qh1
      have D5 := Lib.hid (below_step D4.out hbx D4.out.size)
      have qh5_ := Lib.hid (qh4_.out.below hbx)
      clear hbx
      obtain ⟨_, c0, c1, c2, c3, c4, c5, c6, c7, c8⟩ := (HB3.out.below D5.out)
      dsimp only at c0 c1 c2 c3
      obtain ⟨_, qh0, qh1, _⟩ := qh5_.out
      go_wp2_with fail
      refine name_calls fun w6 hw => ?_
      have hbx : Below w5.heap.size w5 w6 := by rw [hw]; exact below_new _ _
      have qt6_ := Lib.hid (show PortBox w6 w5.heap.size zeroPort by rw [hw]; exact PortBox.new _ rfl (zeroPort) _)
      clear hw
      clear c0 c1 c2 c3 c4 c5 c6 c7 c8 qh0 qh1
      have D6 := Lib.hid (below_step D5.out hbx D5.out.size)
      have qh6_ := Lib.hid (qh5_.out.below hbx)
      clear hbx
      obtain ⟨_, c0, c1, c2, c3, c4, c5, c6, c7, c8⟩ := (HB3.out.below D6.out)
      dsimp only at c0 c1 c2 c3
      obtain ⟨_, qh0, qh1, _⟩ := qh6_.out
      obtain ⟨_, qt0, qt1, _⟩ := qt6_.out
      by_cases e0 : s.2 = 0
      · have hss : step p pos hh = (s.1, 0) := by rw [← hs, ← e0]
        have hws := step_wf G.out hss
        obtain ⟨bk, hbk, hy1, hy2⟩ := turned G.out hss
        have hwb := turn_wf hws hbk
        rw [e0] at C3
        have C4 := Lib.hid (fun (u : World) (hb : Below w3.heap.size w3 u) => nturn_any u b p (HN3.out.below hb) pa pn pc pos (Lib.hid (Hr3.out.below hb)) s.1)
        rw [hbk] at C4
        dsimp only [Port.val, Option.getD_some, Option.isSome_some] at C4
        have C5 := Lib.hid (fun (u : World) (hb : Below w3.heap.size w3 u) => nstep_any u b p (HN3.out.below hb) pa pn pc pos (Lib.hid (Hr3.out.below hb)) bk hwb)
        have hy3 := hy2 ht
        clear hy1 hy2
        obtain ⟨r, hrr⟩ : ∃ r, r = step p pos bk := ⟨_, rfl⟩
        rw [← hrr] at C5 hy3
        dsimp only [Port.val] at C5
        clear hs e0 hss hbk ht hrr
        refine (C3.out _ D6.out).mono ?_
        rintro en w7 ⟨rfl, hbx⟩
        clear c0 c1 c2 c3 c4 c5 c6 c7 c8 qh0 qh1 qt0 qt1
        have D7 := Lib.hid (below_step D6.out hbx D6.out.size)
        have qh7_ := Lib.hid (qh6_.out.below hbx)
        have qt7_ := Lib.hid (qt6_.out.below hbx)
        clear hbx
        obtain ⟨_, c0, c1, c2, c3, c4, c5, c6, c7, c8⟩ := (HB3.out.below D7.out)
        dsimp only at c0 c1 c2 c3
        obtain ⟨_, qh0, qh1, _⟩ := qh7_.out
        obtain ⟨_, qt0, qt1, _⟩ := qt7_.out
        go_wp2_with fail
        refine name_calls fun w8 hw => ?_
        have hbx : Below w7.heap.size w7 w8 := by rw [hw]; exact below_new _ _
        have qs8_ := Lib.hid (show PortBox w8 w7.heap.size s.1 by rw [hw]; exact PortBox.new _ rfl (s.1) _)
        clear hw
        clear c0 c1 c2 c3 c4 c5 c6 c7 c8 qh0 qh1 qt0 qt1
        have D8 := Lib.hid (below_step D7.out hbx D7.out.size)
        have qh8_ := Lib.hid (qh7_.out.below hbx)
        have qt8_ := Lib.hid (qt7_.out.below hbx)
        clear hbx
        obtain ⟨_, c0, c1, c2, c3, c4, c5, c6, c7, c8⟩ := (HB3.out.below D8.out)
        dsimp only at c0 c1 c2 c3
        obtain ⟨_, qh0, qh1, _⟩ := qh8_.out
        obtain ⟨_, qt0, qt1, _⟩ := qt8_.out
        obtain ⟨_, qs0, qs1, _⟩ := qs8_.out
        refine (C4.out _ D8.out).mono ?_
        rintro en w9 ⟨rfl, hbx⟩
        clear c0 c1 c2 c3 c4 c5 c6 c7 c8 qh0 qh1 qt0 qt1 qs0 qs1
        have D9 := Lib.hid (below_step D8.out hbx D8.out.size)
        have qh9_ := Lib.hid (qh8_.out.below hbx)
        have qt9_ := Lib.hid (qt8_.out.below hbx)
        have qs9_ := Lib.hid (qs8_.out.below hbx)
        clear hbx
        obtain ⟨_, c0, c1, c2, c3, c4, c5, c6, c7, c8⟩ := (HB3.out.below D9.out)
        dsimp only at c0 c1 c2 c3
        obtain ⟨_, qh0, qh1, _⟩ := qh9_.out
        obtain ⟨_, qt0, qt1, _⟩ := qt9_.out
        obtain ⟨_, qs0, qs1, _⟩ := qs9_.out
        go_wp2_with fail
        refine name_calls fun w10 hw => ?_
        have hbx : Below w9.heap.size w9 w10 := by rw [hw]; exact below_new _ _
        have qk10_ := Lib.hid (show PortBox w10 w9.heap.size bk by rw [hw]; exact PortBox.new _ rfl (bk) _)
        clear hw
        clear c0 c1 c2 c3 c4 c5 c6 c7 c8 qh0 qh1 qt0 qt1 qs0 qs1
        have D10 := Lib.hid (below_step D9.out hbx D9.out.size)
        have qh10_ := Lib.hid (qh9_.out.below hbx)
        have qt10_ := Lib.hid (qt9_.out.below hbx)
        have qs10_ := Lib.hid (qs9_.out.below hbx)
        clear hbx
        obtain ⟨_, c0, c1, c2, c3, c4, c5, c6, c7, c8⟩ := (HB3.out.below D10.out)
        dsimp only at c0 c1 c2 c3
        obtain ⟨_, qh0, qh1, _⟩ := qh10_.out
        obtain ⟨_, qt0, qt1, _⟩ := qt10_.out
        obtain ⟨_, qs0, qs1, _⟩ := qs10_.out
        obtain ⟨_, qk0, qk1, _⟩ := qk10_.out
        rcases hy3 with hy3 | hy3
        · rw [hy3] at C5
          refine (C5.out _ D10.out).mono ?_
          rintro en w11 ⟨rfl, hbx⟩
          clear c0 c1 c2 c3 c4 c5 c6 c7 c8 qh0 qh1 qt0 qt1 qs0 qs1 qk0 qk1
          have D11 := Lib.hid (below_step D10.out hbx D10.out.size)
          have qh11_ := Lib.hid (qh10_.out.below hbx)
          have qt11_ := Lib.hid (qt10_.out.below hbx)
          have qs11_ := Lib.hid (qs10_.out.below hbx)
          have qk11_ := Lib.hid (qk10_.out.below hbx)
          clear hbx
          obtain ⟨_, c0, c1, c2, c3, c4, c5, c6, c7, c8⟩ := (HB3.out.below D11.out)
          dsimp only at c0 c1 c2 c3
          obtain ⟨_, qh0, qh1, _⟩ := qh11_.out
          obtain ⟨_, qt0, qt1, _⟩ := qt11_.out
          obtain ⟨_, qs0, qs1, _⟩ := qs11_.out
          obtain ⟨_, qk0, qk1, _⟩ := qk11_.out
          go_wp2_with fail
          go_ret
          exact ⟨rfl, below_step Hb3.out (below_step D11.out (below_new _ _) D11.out.size) Hb3.out.size⟩
        · rw [hy3] at C5
          refine (C5.out _ D10.out).mono ?_
          rintro en w11 ⟨rfl, hbx⟩
          clear c0 c1 c2 c3 c4 c5 c6 c7 c8 qh0 qh1 qt0 qt1 qs0 qs1 qk0 qk1
          have D11 := Lib.hid (below_step D10.out hbx D10.out.size)
          have qh11_ := Lib.hid (qh10_.out.below hbx)
          have qt11_ := Lib.hid (qt10_.out.below hbx)
          have qs11_ := Lib.hid (qs10_.out.below hbx)
          have qk11_ := Lib.hid (qk10_.out.below hbx)
          clear hbx
          obtain ⟨_, c0, c1, c2, c3, c4, c5, c6, c7, c8⟩ := (HB3.out.below D11.out)
          dsimp only at c0 c1 c2 c3
          obtain ⟨_, qh0, qh1, _⟩ := qh11_.out
          obtain ⟨_, qt0, qt1, _⟩ := qt11_.out
          obtain ⟨_, qs0, qs1, _⟩ := qs11_.out
          obtain ⟨_, qk0, qk1, _⟩ := qk11_.out
          go_wp2_with fail
          go_ret
          exact ⟨rfl, below_step Hb3.out (below_step D11.out (below_new _ _) D11.out.size) Hb3.out.size⟩
      · have q0 : (s.2 != 0) = true := by rw [bne_iff_ne]; exact e0
        clear hs e0 ht
        refine (C3.out _ D6.out).mono ?_
        rintro en w7 ⟨rfl, hbx⟩
        clear c0 c1 c2 c3 c4 c5 c6 c7 c8 qh0 qh1 qt0 qt1
        have D7 := Lib.hid (below_step D6.out hbx D6.out.size)
        have qh7_ := Lib.hid (qh6_.out.below hbx)
        have qt7_ := Lib.hid (qt6_.out.below hbx)
        clear hbx
        obtain ⟨_, c0, c1, c2, c3, c4, c5, c6, c7, c8⟩ := (HB3.out.below D7.out)
        dsimp only at c0 c1 c2 c3
        obtain ⟨_, qh0, qh1, _⟩ := qh7_.out
        obtain ⟨_, qt0, qt1, _⟩ := qt7_.out
        go_wp2_with fail
        go_ret
        exact ⟨rfl, below_step Hb3.out (below_step D7.out (below_new _ _) D7.out.size) Hb3.out.size⟩
    | some t =>
      obtain ⟨htb, hte⟩ := turn_back ht
      have qe : (t.e != hh.e) = false := by simp [hte]
      rw [ht] at C1
      dsimp only [Option.getD_some, Option.isSome_some] at C1
      have C2 := Lib.hid (fun (u : World) (hb : Below w3.heap.size w3 u) => nturn_any u b p (HN3.out.below hb) pa pn pc pos (Lib.hid (Hr3.out.below hb)) t)
      rw [htb] at C2
      dsimp only [Port.val, Option.getD_some, Option.isSome_some] at C2
      clear htb hte
      refine (C1.out _ D4.out).mono ?_
      rintro en w5 ⟨rfl, hbx⟩
      clear c0 c1 c2 c3 c4 c5 c6 c7 c8 qh0 qh1
      have D5 := Lib.hid (below_step D4.out hbx D4.out.size)
      have qh5_ := Lib.hid (qh4_.out.below hbx)
      clear hbx
      obtain ⟨_, c0, c1, c2, c3, c4, c5, c6, c7, c8⟩ := (HB3.out.below D5.out)
      dsimp only at c0 c1 c2 c3
      obtain ⟨_, qh0, qh1, _⟩ := qh5_.out
      go_wp2_with fail
      refine name_calls fun w6 hw => ?_
      have hbx : Below w5.heap.size w5 w6 := by rw [hw]; exact below_new _ _
      have qt6_ := Lib.hid (show PortBox w6 w5.heap.size t by rw [hw]; exact PortBox.new _ rfl (t) _)
      clear hw
      clear c0 c1 c2 c3 c4 c5 c6 c7 c8 qh0 qh1
      have D6 := Lib.hid (below_step D5.out hbx D5.out.size)
      have qh6_ := Lib.hid (qh5_.out.below hbx)
      clear hbx
      obtain ⟨_, c0, c1, c2, c3, c4, c5, c6, c7, c8⟩ := (HB3.out.below D6.out)
      dsimp only at c0 c1 c2 c3
      obtain ⟨_, qh0, qh1, _⟩ := qh6_.out
      obtain ⟨_, qt0, qt1, _⟩ := qt6_.out
      refine (C2.out _ D6.out).mono ?_
      rintro en w7 ⟨rfl, hbx⟩
      clear c0 c1 c2 c3 c4 c5 c6 c7 c8 qh0 qh1 qt0 qt1
      have D7 := Lib.hid (below_step D6.out hbx D6.out.size)
      have qh7_ := Lib.hid (qh6_.out.below hbx)
      have qt7_ := Lib.hid (qt6_.out.below hbx)
      clear hbx
      obtain ⟨_, c0, c1, c2, c3, c4, c5, c6, c7, c8⟩ := (HB3.out.below D7.out)
      dsimp only at c0 c1 c2 c3
      obtain ⟨_, qh0, qh1, _⟩ := qh7_.out
      obtain ⟨_, qt0, qt1, _⟩ := qt7_.out
      clear qh0 qh1 qt0 qt1
      obtain ⟨_, qh0, qh1, _⟩ := (show PortBox (w7.alloc (.cells #[.int .i64 (hh).e, .int .i64 (hh).n] 30)) _ _ from qh7_.out.below (below_new w7 _))
      obtain ⟨_, qt0, qt1, _⟩ := (show PortBox (w7.alloc (.cells #[.int .i64 (hh).e, .int .i64 (hh).n] 30)) _ _ from qt7_.out.below (below_new w7 _))
      obtain ⟨_, qz0, qz1, _⟩ := (show PortBox (w7.alloc (.cells #[.int .i64 (hh).e, .int .i64 (hh).n] 30)) w7.heap.size (hh) from PortBox.new w7 rfl (hh) _)
      have e2 := neq_port (x := hh) (y := hh) (b := true) (by simp)
      go_wp2_with fail
      clear qz0 qz1
      refine name_calls fun w8 hw => ?_
      have hbx : Below w7.heap.size w7 w8 := by rw [hw]; exact below_new _ _
      have qz8_ := Lib.hid (show PortBox w8 w7.heap.size hh by rw [hw]; exact PortBox.new _ rfl (hh) _)
      clear hw
      clear c0 c1 c2 c3 c4 c5 c6 c7 c8 qh0 qh1 qt0 qt1
      have D8 := Lib.hid (below_step D7.out hbx D7.out.size)
      have qh8_ := Lib.hid (qh7_.out.below hbx)
      have qt8_ := Lib.hid (qt7_.out.below hbx)
      clear hbx
      obtain ⟨_, c0, c1, c2, c3, c4, c5, c6, c7, c8⟩ := (HB3.out.below D8.out)
      dsimp only at c0 c1 c2 c3
      obtain ⟨_, qh0, qh1, _⟩ := qh8_.out
      obtain ⟨_, qt0, qt1, _⟩ := qt8_.out
      obtain ⟨_, qz0, qz1, _⟩ := qz8_.out
      by_cases e0 : s.2 = 0
      · have hss : step p pos hh = (s.1, 0) := by rw [← hs, ← e0]
        have hws := step_wf G.out hss
        obtain ⟨bk, hbk, hy1, hy2⟩ := turned G.out hss
        have hwb := turn_wf hws hbk
        rw [e0] at C3
        have C4 := Lib.hid (fun (u : World) (hb : Below w3.heap.size w3 u) => nturn_any u b p (HN3.out.below hb) pa pn pc pos (Lib.hid (Hr3.out.below hb)) s.1)
        rw [hbk] at C4
        dsimp only [Port.val, Option.getD_some, Option.isSome_some] at C4
        have C5 := Lib.hid (fun (u : World) (hb : Below w3.heap.size w3 u) => nstep_any u b p (HN3.out.below hb) pa pn pc pos (Lib.hid (Hr3.out.below hb)) bk hwb)
        rw [hy1 _ ht] at C5
        dsimp only [Port.val] at C5
        clear hs e0 hss hbk hy1 hy2 ht
        refine (C3.out _ D8.out).mono ?_
        rintro en w9 ⟨rfl, hbx⟩
        clear c0 c1 c2 c3 c4 c5 c6 c7 c8 qh0 qh1 qt0 qt1 qz0 qz1
        have D9 := Lib.hid (below_step D8.out hbx D8.out.size)
        have qh9_ := Lib.hid (qh8_.out.below hbx)
        have qt9_ := Lib.hid (qt8_.out.below hbx)
        have qz9_ := Lib.hid (qz8_.out.below hbx)
        clear hbx
        obtain ⟨_, c0, c1, c2, c3, c4, c5, c6, c7, c8⟩ := (HB3.out.below D9.out)
        dsimp only at c0 c1 c2 c3
        obtain ⟨_, qh0, qh1, _⟩ := qh9_.out
        obtain ⟨_, qt0, qt1, _⟩ := qt9_.out
        obtain ⟨_, qz0, qz1, _⟩ := qz9_.out
        go_wp2_with fail
        refine name_calls fun w10 hw => ?_
        have hbx : Below w9.heap.size w9 w10 := by rw [hw]; exact below_new _ _
        have qs10_ := Lib.hid (show PortBox w10 w9.heap.size s.1 by rw [hw]; exact PortBox.new _ rfl (s.1) _)
        clear hw
        clear c0 c1 c2 c3 c4 c5 c6 c7 c8 qh0 qh1 qt0 qt1 qz0 qz1
        have D10 := Lib.hid (below_step D9.out hbx D9.out.size)
        have qh10_ := Lib.hid (qh9_.out.below hbx)
        have qt10_ := Lib.hid (qt9_.out.below hbx)
        have qz10_ := Lib.hid (qz9_.out.below hbx)
        clear hbx
        obtain ⟨_, c0, c1, c2, c3, c4, c5, c6, c7, c8⟩ := (HB3.out.below D10.out)
        dsimp only at c0 c1 c2 c3
        obtain ⟨_, qh0, qh1, _⟩ := qh10_.out
        obtain ⟨_, qt0, qt1, _⟩ := qt10_.out
        obtain ⟨_, qz0, qz1, _⟩ := qz10_.out
        obtain ⟨_, qs0, qs1, _⟩ := qs10_.out
        refine (C4.out _ D10.out).mono ?_
        rintro en w11 ⟨rfl, hbx⟩
        clear c0 c1 c2 c3 c4 c5 c6 c7 c8 qh0 qh1 qt0 qt1 qz0 qz1 qs0 qs1
        have D11 := Lib.hid (below_step D10.out hbx D10.out.size)
        have qh11_ := Lib.hid (qh10_.out.below hbx)
        have qt11_ := Lib.hid (qt10_.out.below hbx)
        have qz11_ := Lib.hid (qz10_.out.below hbx)
        have qs11_ := Lib.hid (qs10_.out.below hbx)
        clear hbx
        obtain ⟨_, c0, c1, c2, c3, c4, c5, c6, c7, c8⟩ := (HB3.out.below D11.out)
        dsimp only at c0 c1 c2 c3
        obtain ⟨_, qh0, qh1, _⟩ := qh11_.out
        obtain ⟨_, qt0, qt1, _⟩ := qt11_.out
        obtain ⟨_, qz0, qz1, _⟩ := qz11_.out
        obtain ⟨_, qs0, qs1, _⟩ := qs11_.out
        go_wp2_with fail
        refine name_calls fun w12 hw => ?_
        have hbx : Below w11.heap.size w11 w12 := by rw [hw]; exact below_new _ _
        have qk12_ := Lib.hid (show PortBox w12 w11.heap.size bk by rw [hw]; exact PortBox.new _ rfl (bk) _)
        clear hw
        clear c0 c1 c2 c3 c4 c5 c6 c7 c8 qh0 qh1 qt0 qt1 qz0 qz1 qs0 qs1
        have D12 := Lib.hid (below_step D11.out hbx D11.out.size)
        have qh12_ := Lib.hid (qh11_.out.below hbx)
        have qt12_ := Lib.hid (qt11_.out.below hbx)
        have qz12_ := Lib.hid (qz11_.out.below hbx)
        have qs12_ := Lib.hid (qs11_.out.below hbx)
        clear hbx
        obtain ⟨_, c0, c1, c2, c3, c4, c5, c6, c7, c8⟩ := (HB3.out.below D12.out)
        dsimp only at c0 c1 c2 c3
        obtain ⟨_, qh0, qh1, _⟩ := qh12_.out
        obtain ⟨_, qt0, qt1, _⟩ := qt12_.out
        obtain ⟨_, qz0, qz1, _⟩ := qz12_.out
        obtain ⟨_, qs0, qs1, _⟩ := qs12_.out
        obtain ⟨_, qk0, qk1, _⟩ := qk12_.out
        refine (C5.out _ D12.out).mono ?_
        rintro en w13 ⟨rfl, hbx⟩
        clear c0 c1 c2 c3 c4 c5 c6 c7 c8 qh0 qh1 qt0 qt1 qz0 qz1 qs0 qs1 qk0 qk1
        have D13 := Lib.hid (below_step D12.out hbx D12.out.size)
        have qh13_ := Lib.hid (qh12_.out.below hbx)
        have qt13_ := Lib.hid (qt12_.out.below hbx)
        have qz13_ := Lib.hid (qz12_.out.below hbx)
        have qs13_ := Lib.hid (qs12_.out.below hbx)
        have qk13_ := Lib.hid (qk12_.out.below hbx)
        clear hbx
        obtain ⟨_, c0, c1, c2, c3, c4, c5, c6, c7, c8⟩ := (HB3.out.below D13.out)
        dsimp only at c0 c1 c2 c3
        obtain ⟨_, qh0, qh1, _⟩ := qh13_.out
        obtain ⟨_, qt0, qt1, _⟩ := qt13_.out
        obtain ⟨_, qz0, qz1, _⟩ := qz13_.out
        obtain ⟨_, qs0, qs1, _⟩ := qs13_.out
        obtain ⟨_, qk0, qk1, _⟩ := qk13_.out
        clear qh0 qh1 qt0 qt1 qz0 qz1 qs0 qs1 qk0 qk1
        obtain ⟨_, qh0, qh1, _⟩ := (show PortBox (w13.alloc (.cells #[.int .i64 (t).e, .int .i64 (t).n] 30)) _ _ from qh13_.out.below (below_new w13 _))
        obtain ⟨_, qt0, qt1, _⟩ := (show PortBox (w13.alloc (.cells #[.int .i64 (t).e, .int .i64 (t).n] 30)) _ _ from qt13_.out.below (below_new w13 _))
        obtain ⟨_, qz0, qz1, _⟩ := (show PortBox (w13.alloc (.cells #[.int .i64 (t).e, .int .i64 (t).n] 30)) _ _ from qz13_.out.below (below_new w13 _))
        obtain ⟨_, qs0, qs1, _⟩ := (show PortBox (w13.alloc (.cells #[.int .i64 (t).e, .int .i64 (t).n] 30)) _ _ from qs13_.out.below (below_new w13 _))
        obtain ⟨_, qk0, qk1, _⟩ := (show PortBox (w13.alloc (.cells #[.int .i64 (t).e, .int .i64 (t).n] 30)) _ _ from qk13_.out.below (below_new w13 _))
        obtain ⟨_, qy0, qy1, _⟩ := (show PortBox (w13.alloc (.cells #[.int .i64 (t).e, .int .i64 (t).n] 30)) w13.heap.size (t) from PortBox.new w13 rfl (t) _)
        have e1 := eql_port (x := t) (y := t) (b := true) (by simp)
        go_wp2_with fail
        go_ret
        exact ⟨rfl, below_step Hb3.out (below_step D13.out (below_new _ _) D13.out.size) Hb3.out.size⟩
      · have q0 : (s.2 != 0) = true := by rw [bne_iff_ne]; exact e0
        clear hs e0 ht
        refine (C3.out _ D8.out).mono ?_
        rintro en w9 ⟨rfl, hbx⟩
        clear c0 c1 c2 c3 c4 c5 c6 c7 c8 qh0 qh1 qt0 qt1 qz0 qz1
        have D9 := Lib.hid (below_step D8.out hbx D8.out.size)
        have qh9_ := Lib.hid (qh8_.out.below hbx)
        have qt9_ := Lib.hid (qt8_.out.below hbx)
        have qz9_ := Lib.hid (qz8_.out.below hbx)
        clear hbx
        obtain ⟨_, c0, c1, c2, c3, c4, c5, c6, c7, c8⟩ := (HB3.out.below D9.out)
        dsimp only at c0 c1 c2 c3
        obtain ⟨_, qh0, qh1, _⟩ := qh9_.out
        obtain ⟨_, qt0, qt1, _⟩ := qt9_.out
        obtain ⟨_, qz0, qz1, _⟩ := qz9_.out
        go_wp2_with fail
        go_ret
        exact ⟨rfl, below_step Hb3.out (below_step D9.out (below_new _ _) D9.out.size) Hb3.out.size⟩
set_option maxRecDepth 100000 in
theorem walkTurned_lifted (os : Os) (started : os.Started) (H : Type) (enc : TypeId × Value → H) :
    ReturnsInHanded {} Try.checked os 6 .any (Rows.walkTurnedSpec.pre6 enc Try.prog Try.f6 Rows.walkTurnedRow.domain false) (Rows.walkTurnedSpec.post enc Try.prog Try.f6 false true false false) := by
  refine returnsInHanded_of_change (C := Try.checked) own started (by kernel_rfl) Try.func6
    (ChangeSpec.witness6 (enc := enc) (C := Try.checked) false ⟨#[], #[.agg #[.slice none 0 0, .slice none 0 0, .slice none 0 0, .slice none 0 0, .int .i64 0, .int .i64 0, .int .i64 0, .int .i64 0, .bool false], .slice none 0 0, .int .u8 0, .int .u8 0], []⟩ 8 (by kernel_rfl) (by kernel_rfl) (by kernel_rfl) (by kernel_rfl)) ?_
  intro W base args ds gs before hval0 hW hcnd _
  have hval : ∀ (j : Nat) t v, Try.f6.params[j]? = some t → args[j]? = some v → Value.okWide Try.prog W .any base t v := hval0
  have hW' := hW
  obtain ⟨p, q, hA0, hV, rfl, hfz, hnd⟩ := hW
  have hA : DataW.TrodAll enc Try.prog W 0 (fun _ => true) true Try.f6.params.toList args.toList ds p := hA0
  rw [Try.params6] at hA hval
  obtain ⟨v0, vs0, d0, ds0, p0, q0, hargs, rfl, rfl, k0, r0⟩ := trodAll_cons hA
  obtain ⟨v1, vs1, d1, ds1, p1, q1, rfl, rfl, rfl, k1, r1⟩ := trodAll_cons r0
  obtain ⟨v2, vs2, d2, ds2, p2, q2, rfl, rfl, rfl, k2, r2⟩ := trodAll_cons r1
  obtain ⟨v3, vs3, d3, ds3, p3, q3, rfl, rfl, rfl, k3, r3⟩ := trodAll_cons r2
  obtain ⟨rfl, rfl, rfl⟩ := trodAll_nil r3
  obtain rfl : args = #[v0, v1, v2, v3] := by cases args; simp_all
  obtain ⟨rfl, rfl⟩ := trodVars_none hV
  have lt0 : ∀ x ∈ p0, x.block < W.heap.size := by obtain ⟨m, hm⟩ := k0; exact DataW.trod_lt m _ _ _ hm
  have hv0 := hval 0 27 v0 rfl rfl
  have lt1 : ∀ x ∈ p1, x.block < W.heap.size := by obtain ⟨m, hm⟩ := k1; exact DataW.trod_lt m _ _ _ hm
  have hv1 := hval 1 28 v1 rfl rfl
  have lt2 : ∀ x ∈ p2, x.block < W.heap.size := by obtain ⟨m, hm⟩ := k2; exact DataW.trod_lt m _ _ _ hm
  have hv2 := hval 2 5 v2 rfl rfl
  have lt3 : ∀ x ∈ p3, x.block < W.heap.size := by obtain ⟨m, hm⟩ := k3; exact DataW.trod_lt m _ _ _ hm
  have hv3 := hval 3 5 v3 rfl rfl
  have fin : Calls Try.prog 6 #[v0, v1, v2, v3] W (fun e W' => e = .returned (.bool true) ∧ Below W.heap.size W W') := by
    obtain ⟨pv, p, rfl, hp⟩ := open_plan hv0 k0
    obtain ⟨pa, pn, pc, pos, rfl, hr, _, _, _⟩ := open_Ints hv1 k1
    obtain ⟨x0, rfl, a0, a1⟩ := open_u8 hv2 k2
    obtain ⟨x1, rfl, b0, b1⟩ := open_u8 hv3 k3
    exact lawTurned_any W pv p pa pn pc pos x0 x1 a0 a1 b0 b1 hp (Lib.hid hr)
  clear hA0 hval0
  refine fin.mono fun e W' ⟨he, bel⟩ => ?_
  subst he
  exact ⟨_, rfl, _, _, _, [], _, [], hW', trodAll_mk1 (shut_bool Try.underlying4 _), (trodAll_cons_mk (Below.trod laidOut (by kernel_rfl) (of_decide_eq_true (by kernel_rfl)) k0 bel lt0) (trodAll_cons_mk (Below.trod laidOut (by kernel_rfl) (of_decide_eq_true (by kernel_rfl)) k1 bel lt1) (trodAll_cons_mk (Below.trod laidOut (by kernel_rfl) (of_decide_eq_true (by kernel_rfl)) k2 bel lt2) (trodAll_cons_mk (Below.trod laidOut (by kernel_rfl) (of_decide_eq_true (by kernel_rfl)) k3 bel lt3) trodAll_mk0)))), rfl, bel.frame _, fun h => by cases h⟩

/-- THE STATEMENT -/
theorem walkTurned_holds : Rows.WalkTurnedSaid :=
  OpenClaim.holds_of_wide 6 Try.f6 rfl rfl rfl rfl rfl rfl rfl ⟨rfl, rfl, rfl, rfl, rfl⟩ rfl rfl rfl rfl rfl (by kernel_rfl) Try.func6 (by kernel_rfl)
    (of_decide_eq_true (by kernel_rfl)) (by unfold Func.isWrapper; first | (rw [if_pos (by decide +kernel)]; kernel_rfl) | (rw [if_neg (by decide +kernel)]; exact ⟨rfl, rfl⟩))
    (fun os started H enc _ => walkTurned_lifted os started H enc)
end Go.Proofs.Ytackcfoplhhnbaa
