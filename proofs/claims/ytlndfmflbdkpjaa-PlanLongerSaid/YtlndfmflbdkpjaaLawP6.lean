/- PlanLonger: for every input the law returns true. No condition. -/
import Derived.Test.YtlndfmflbdkpjaaLawK2
import Derived.Test.YtlndfmflbdkpjaaCopy
import Derived.StillTailTactics
set_option maxRecDepth 1000000
namespace Go.Proofs.Ytlndfmflbdkpjaa
open Go.ChangeShapes Go.WideShapes Go.ChangeAt Go.RowKit Go.Sort

theorem chk_nums {p : Plan} (h : chk p = 0) : 1 ≤ p.top ∧ p.top ≤ 60 ∧ 1 ≤ p.brake ∧ p.brake ≤ 10 := by
  obtain ⟨h1, h2, _⟩ := chk_zero h
  unfold argsOk numsOk at h2
  simp only [Bool.and_eq_true, decide_eq_true_eq] at h2
  omega
theorem chk_len {p : Plan} (h : chk p = 0) {a : Nat} {x : Elem} (hx : p.elems[a]? = some x) (hk : x.kind ≠ 4) : 1 ≤ x.len ∧ x.len ≤ 4000 := by
  obtain ⟨h1, h2, _⟩ := chk_zero h
  unfold argsOk at h2
  simp only [Bool.and_eq_true] at h2
  have := List.all_eq_true.1 h2.2.1 x (List.mem_of_getElem? hx)
  unfold elemOk at this
  rw [if_neg hk] at this
  simp only [Bool.and_eq_true, decide_eq_true_eq] at this
  omega

theorem fit_len {l : List Elem} (h : ∀ x ∈ l, inI x.kind ∧ inI x.len ∧ x.name.size ≤ 9223372036854775807) {a : Nat} {x : Elem} (hx : l[a]? = some x) {v : Int} (hv : inI v) :
    ∀ z ∈ l.set a { x with len := v }, inI z.kind ∧ inI z.len ∧ z.name.size ≤ 9223372036854775807 := by
  intro z hz
  rcases List.mem_or_eq_of_mem_set hz with h1 | h1
  · exact h z h1
  · subst h1
    have := h x (List.mem_of_getElem? hx)
    exact ⟨this.1, hv, this.2.2⟩

set_option maxHeartbeats 4000000 in
theorem lawLonger_any (w : World) (pv : PV) (p : Plan) (i m s : Int) (i0 : 0 ≤ i) (i1 : i ≤ 255) (m0 : 0 ≤ m) (m1 : m ≤ 255) (s0 : 0 ≤ s) (s1 : s ≤ 255) (h : PlanAt w pv p) :
    Calls Try.prog 9 #[pv.val p, .int .u8 i, .int .u8 m, .int .u8 s] w fun e w' => e = .returned (.bool true) ∧ Below w.heap.size w w' := by
  obtain ⟨ae, ne, ce, aj, nj, cj, as_, ns, cs, al, nl, cl, lv⟩ := pv
  have hP := Lib.hid h
  have HBa := Lib.hid (pbox_new w ⟨ae, ne, ce, aj, nj, cj, as_, ns, cs, al, nl, cl, lv⟩ p)
  have Hba := Lib.hid (below_new w (.cells #[.slice ae ne ce, .slice aj nj cj, .slice as_ ns cs, .slice al nl cl, .int .i64 p.top, .int .i64 p.brake, .int .i64 p.margin, .int .i64 p.throw, .bool p.hard] 32))
  have K := Lib.hid (known2_any (w.alloc (.cells #[.slice ae ne ce, .slice aj nj cj, .slice as_ ns cs, .slice al nl cl, .int .i64 p.top, .int .i64 p.brake, .int .i64 p.margin, .int .i64 p.throw, .bool p.hard] 32)))
  clear h
  dsimp only [PV.val]
  go_enter Try.func9, Try.ntmps9
  go_wp2_with fail
  refine K.out.mono ?_
  rintro e w1 ⟨rfl, hbx⟩
  have HB1 := Lib.hid (HBa.out.below hbx)
  have Hb1 := Lib.hid (below_step Hba.out hbx Hba.out.size)
  clear hbx K
  obtain ⟨_, c0, c1, c2, c3, c4, c5, c6, c7, c8⟩ := HB1.out
  dsimp only at c0 c1 c2 c3
  go_wp2_with fail
  refine (fine_l (hP.out.below Hb1.out)).mono ?_
  rintro e w2 ⟨b, rfl, hfine, hbx⟩
  have HB2 := Lib.hid (HB1.out.below hbx)
  have Hb2 := Lib.hid (below_step Hb1.out hbx Hb1.out.size)
  clear hbx c0 c1 c2 c3 c4 c5 c6 c7 c8 HB1 Hb1
  obtain ⟨_, c0, c1, c2, c3, c4, c5, c6, c7, c8⟩ := HB2.out
  dsimp only at c0 c1 c2 c3
  cases b
  case false =>
    clear hfine
    go_wp2_with fail
    go_ret
    exact ⟨rfl, Hb2.out⟩
  obtain ⟨hfew, hc⟩ := hfine rfl
  have Hfew := Lib.hid hfew
  have Hc := Lib.hid hc
  have Hn2 := Lib.hid (show ∀ x ∈ lv, x.n ≤ 1000 from fun x hx => by have := hfew.2.2.2.2 x hx; omega)
  clear hfine hfew hc
  have hsz := chk_sizes Hc.out
  rw [hP.out.e.len, hP.out.j.len, hP.out.s.len] at hsz
  obtain ⟨hne, hne40, hnj80, hns24⟩ := hsz
  dsimp only at hne hne40 hnj80 hns24
  obtain ⟨a, ha⟩ : ∃ a : Nat, Int.tmod i (ne : Int) = (a : Int) := ⟨(Int.tmod i ne).toNat, by have := Int.tmod_nonneg (ne : Int) i0; omega⟩
  have han : a < ne := by have := Int.tmod_lt_of_pos i (show (0 : Int) < ne by omega); omega
  have hne0 : (ne : Int) ≠ 0 := by omega
  obtain ⟨x, hx⟩ := get_some hP.out.e.len han
  have Hx := Lib.hid hx
  clear hx
  have ⟨ht1, ht2, hb1, hb2⟩ := chk_nums Hc.out
  have u0 : 0 ≤ s % 20 := by omega
  have u1 : s % 20 < 20 := by omega
  have v0 : 0 ≤ m % 3 := by omega
  have v1 : m % 3 < 3 := by omega
  by_cases hk : x.kind = 4
  · have q1 : (x.kind != 4) = false := by simp [hk]
    have hrow := Lib.hid ((hP.out.below Hb2.out).e.below (below_new2 w2 (.cells #[.slice ae ne ce, .slice aj nj cj, .slice as_ ns cs, .slice al nl cl, .int .i64 p.top, .int .i64 p.brake, .int .i64 p.margin, .int .i64 p.throw, .bool p.hard] 32) (.cells #[] 42)))
    have hown := Lib.hid (lit_own0 w2 42 3 (.cells #[.slice ae ne ce, .slice aj nj cj, .slice as_ ns cs, .slice al nl cl, .int .i64 p.top, .int .i64 p.brake, .int .i64 p.margin, .int .i64 p.throw, .bool p.hard] 32))
    go_wp2_with (at_builtin; refine wpList_app0 encElem_len encElem_one _ rfl _ _ 27 rfl (w2.heap.size + 1) 42 (.agg #[.string ByteArray.empty, .int .i64 0, .int .i64 0]) 32 Try.underlying27 info_elem rfl (by decide) (w2.heap.size + 1) rfl hown.out ae ne ce p.elems rfl hrow.out hP.out.fit.ec (by simp [maxLen]; omega) (by omega) (by simp) ?_)
    intro v4 we4 hown4 hgrow4
    obtain ⟨ge, cqe, rfl, hge, hgs4⟩ := own_shape hown4 (by omega)
    have Own4 := Lib.hid hown4
    have hx4 : Below w2.heap.size w2 we4 := (below_new2 w2 (.cells #[.slice ae ne ce, .slice aj nj cj, .slice as_ ns cs, .slice al nl cl, .int .i64 p.top, .int .i64 p.brake, .int .i64 p.margin, .int .i64 p.throw, .bool p.hard] 32) (.cells #[] 42)).grown hgrow4 (by simp; omega) (by intro k hk; simp at hk; omega)
    have OQ4 := Lib.hid (((obox_new w2 ⟨ae, ne, ce, aj, nj, cj, as_, ns, cs, al, nl, cl, lv⟩ p).alloc (.cells #[] 42)).grown hgrow4 (by intro k hk; simp at hk; omega))
    clear hown4 hgrow4 hrow hown hgs4 c0 c1 c2 c3 c4 c5 c6 c7 c8
    have d0 := OQ4.out.box.c0
    dsimp only at d0
    have f0 := OQ4.out.frozen 0
    obtain ⟨_, d0, d1, d2, d3, d4, d5, d6, d7, d8⟩ := OQ4.out.box
    dsimp only at d0 d1 d2 d3
    have e1 : we4.cell? ⟨ge, a * 3 + 1, none⟩ = some (.int .i64 x.kind) := own_at encElem_len Own4.out (k := 1) Hx.out han rfl
    go_wp2_with fail
    refine name_calls fun we5 hw5 => ?_
    have hxe5 := Lib.hid (show Below w2.heap.size w2 we5 by rw [hw5]; exact hx4.setCell (p := ⟨w2.heap.size, 0, none⟩) (Nat.le_refl _) _)
    have OQe5 := Lib.hid (show OBox we5 w2.heap.size ⟨some ⟨ge, 0, none⟩, ne, cqe, aj, nj, cj, as_, ns, cs, al, nl, cl, lv⟩ p by rw [hw5]; exact OQ4.out.put rfl)
    have Owne5 := Lib.hid (show we5.ownsRow (w2.heap.size + 1) 42 3 (.slice (some ⟨ge, 0, none⟩) ne cqe) ne (p.elems.flatMap encElem) by rw [hw5]; exact ownsRow_setCell_below Own4.out (a := ⟨w2.heap.size, 0, none⟩) (Nat.lt_succ_self _) _)
    have HBe5 := Lib.hid (HB2.out.below hxe5.out)
    clear hw5 d0 f0 hx4 Own4 OQ4
    clear d0 d1 d2 d3 d4 d5 d6 d7 d8 e1
    have HP5 := (hP.out.below (below_step Hb2.out hxe5.out Hb2.out.size)).setE (c := cqe) (owns_row encElem_len Owne5.out (by omega)).1 (by intro h; cases h) hP.out.fit.e
    refine (check_l Hn2.out HP5).mono ?_
    rintro e w7 ⟨rfl, hbx⟩
    rw [show chk { p with elems := p.elems } = 0 from Hc.out]
    have hx7 := Lib.hid (below_step hxe5.out hbx hxe5.out.size)
    have HB7 := Lib.hid (HB2.out.below hx7.out)
    have Hb7 := Lib.hid (below_step Hb2.out hx7.out Hb2.out.size)
    have OQ7 := Lib.hid (OQe5.out.below hbx)
    have Own7 := Lib.hid (owns_below Owne5.out hbx)
    clear hbx HP5 hxe5 HBe5 OQe5 Owne5
    obtain ⟨_, c0, c1, c2, c3, c4, c5, c6, c7, c8⟩ := HB7.out
    obtain ⟨_, d0, d1, d2, d3, d4, d5, d6, d7, d8⟩ := OQ7.out.box
    dsimp only at c0 c1 c2 c3 d0 d1 d2 d3
    have f4 := OQ7.out.frozen 4
    have f5 := OQ7.out.frozen 5
    by_cases hmx : 1 < p.top - s % 20
    · by_cases hbr : 10 ≤ p.brake + m % 3
      · go_wp2_with fail
        refine name_calls fun w8 hw8 => ?_
        have hx8 := Lib.hid (show Below w2.heap.size w2 w8 by rw [hw8]; exact (hx7.out.setCell (p := ⟨w2.heap.size, 4, none⟩) (Nat.le_refl _) _).setCell (p := ⟨w2.heap.size, 5, none⟩) (Nat.le_refl _) _)
        have Own8 : w8.ownsRow (w2.heap.size + 1) 42 3 (.slice (some ⟨ge, 0, none⟩) ne cqe) ne ((p.elems).flatMap encElem) := by rw [hw8]; exact ownsRow_setCell_below (ownsRow_setCell_below Own7.out (a := ⟨w2.heap.size, 4, none⟩) (Nat.lt_succ_self _) _) (a := ⟨w2.heap.size, 5, none⟩) (Nat.lt_succ_self _) _
        have HP8 := ((hP.out.below (below_step Hb2.out hx8.out Hb2.out.size)).setE (c := cqe) (owns_row encElem_len Own8 (by omega)).1 (by intro h; cases h) hP.out.fit.e).nums (t := p.top - s % 20) (b := 10) (m := p.margin) (th := p.throw) (inI_mk (by omega) (by omega)) (inI_mk (by omega) (by omega)) hP.out.fit.margin hP.out.fit.throw
        refine (check_l Hn2.out HP8).mono ?_
        rintro e w9 ⟨he, hbx⟩
        obtain rfl : e = .returned (.int .i64 0) := he.trans (congrArg (fun c => Ending.returned (.int .i64 c)) (slower Hc.out (by show (1 : Int) ≤ p.top - s % 20; omega) (by show p.top - s % 20 ≤ p.top; omega) (by show p.brake ≤ 10; omega) (by show 10 ≤ (10 : Int); omega)))
        have Hb9 := Lib.hid (below_step (below_step Hb2.out hx8.out Hb2.out.size) hbx (Nat.le_trans Hb2.out.size hx8.out.size))
        clear he hbx hw8 Own8 HP8 hx8
        go_wp2_with fail
        go_ret
        exact ⟨rfl, Hb9.out⟩
      · go_wp2_with fail
        refine name_calls fun w8 hw8 => ?_
        have hx8 := Lib.hid (show Below w2.heap.size w2 w8 by rw [hw8]; exact (hx7.out.setCell (p := ⟨w2.heap.size, 4, none⟩) (Nat.le_refl _) _).setCell (p := ⟨w2.heap.size, 5, none⟩) (Nat.le_refl _) _)
        have Own8 : w8.ownsRow (w2.heap.size + 1) 42 3 (.slice (some ⟨ge, 0, none⟩) ne cqe) ne ((p.elems).flatMap encElem) := by rw [hw8]; exact ownsRow_setCell_below (ownsRow_setCell_below Own7.out (a := ⟨w2.heap.size, 4, none⟩) (Nat.lt_succ_self _) _) (a := ⟨w2.heap.size, 5, none⟩) (Nat.lt_succ_self _) _
        have HP8 := ((hP.out.below (below_step Hb2.out hx8.out Hb2.out.size)).setE (c := cqe) (owns_row encElem_len Own8 (by omega)).1 (by intro h; cases h) hP.out.fit.e).nums (t := p.top - s % 20) (b := p.brake + m % 3) (m := p.margin) (th := p.throw) (inI_mk (by omega) (by omega)) (inI_mk (by omega) (by omega)) hP.out.fit.margin hP.out.fit.throw
        refine (check_l Hn2.out HP8).mono ?_
        rintro e w9 ⟨he, hbx⟩
        obtain rfl : e = .returned (.int .i64 0) := he.trans (congrArg (fun c => Ending.returned (.int .i64 c)) (slower Hc.out (by show (1 : Int) ≤ p.top - s % 20; omega) (by show p.top - s % 20 ≤ p.top; omega) (by show p.brake ≤ p.brake + m % 3; omega) (by show p.brake + m % 3 ≤ (10 : Int); omega)))
        have Hb9 := Lib.hid (below_step (below_step Hb2.out hx8.out Hb2.out.size) hbx (Nat.le_trans Hb2.out.size hx8.out.size))
        clear he hbx hw8 Own8 HP8 hx8
        go_wp2_with fail
        go_ret
        exact ⟨rfl, Hb9.out⟩
    · by_cases hbr : 10 ≤ p.brake + m % 3
      · go_wp2_with fail
        refine name_calls fun w8 hw8 => ?_
        have hx8 := Lib.hid (show Below w2.heap.size w2 w8 by rw [hw8]; exact (hx7.out.setCell (p := ⟨w2.heap.size, 4, none⟩) (Nat.le_refl _) _).setCell (p := ⟨w2.heap.size, 5, none⟩) (Nat.le_refl _) _)
        have Own8 : w8.ownsRow (w2.heap.size + 1) 42 3 (.slice (some ⟨ge, 0, none⟩) ne cqe) ne ((p.elems).flatMap encElem) := by rw [hw8]; exact ownsRow_setCell_below (ownsRow_setCell_below Own7.out (a := ⟨w2.heap.size, 4, none⟩) (Nat.lt_succ_self _) _) (a := ⟨w2.heap.size, 5, none⟩) (Nat.lt_succ_self _) _
        have HP8 := ((hP.out.below (below_step Hb2.out hx8.out Hb2.out.size)).setE (c := cqe) (owns_row encElem_len Own8 (by omega)).1 (by intro h; cases h) hP.out.fit.e).nums (t := 1) (b := 10) (m := p.margin) (th := p.throw) (inI_mk (by omega) (by omega)) (inI_mk (by omega) (by omega)) hP.out.fit.margin hP.out.fit.throw
        refine (check_l Hn2.out HP8).mono ?_
        rintro e w9 ⟨he, hbx⟩
        obtain rfl : e = .returned (.int .i64 0) := he.trans (congrArg (fun c => Ending.returned (.int .i64 c)) (slower Hc.out (by show (1 : Int) ≤ 1; omega) (by show 1 ≤ p.top; omega) (by show p.brake ≤ 10; omega) (by show 10 ≤ (10 : Int); omega)))
        have Hb9 := Lib.hid (below_step (below_step Hb2.out hx8.out Hb2.out.size) hbx (Nat.le_trans Hb2.out.size hx8.out.size))
        clear he hbx hw8 Own8 HP8 hx8
        go_wp2_with fail
        go_ret
        exact ⟨rfl, Hb9.out⟩
      · go_wp2_with fail
        refine name_calls fun w8 hw8 => ?_
        have hx8 := Lib.hid (show Below w2.heap.size w2 w8 by rw [hw8]; exact (hx7.out.setCell (p := ⟨w2.heap.size, 4, none⟩) (Nat.le_refl _) _).setCell (p := ⟨w2.heap.size, 5, none⟩) (Nat.le_refl _) _)
        have Own8 : w8.ownsRow (w2.heap.size + 1) 42 3 (.slice (some ⟨ge, 0, none⟩) ne cqe) ne ((p.elems).flatMap encElem) := by rw [hw8]; exact ownsRow_setCell_below (ownsRow_setCell_below Own7.out (a := ⟨w2.heap.size, 4, none⟩) (Nat.lt_succ_self _) _) (a := ⟨w2.heap.size, 5, none⟩) (Nat.lt_succ_self _) _
        have HP8 := ((hP.out.below (below_step Hb2.out hx8.out Hb2.out.size)).setE (c := cqe) (owns_row encElem_len Own8 (by omega)).1 (by intro h; cases h) hP.out.fit.e).nums (t := 1) (b := p.brake + m % 3) (m := p.margin) (th := p.throw) (inI_mk (by omega) (by omega)) (inI_mk (by omega) (by omega)) hP.out.fit.margin hP.out.fit.throw
        refine (check_l Hn2.out HP8).mono ?_
        rintro e w9 ⟨he, hbx⟩
        obtain rfl : e = .returned (.int .i64 0) := he.trans (congrArg (fun c => Ending.returned (.int .i64 c)) (slower Hc.out (by show (1 : Int) ≤ 1; omega) (by show 1 ≤ p.top; omega) (by show p.brake ≤ p.brake + m % 3; omega) (by show p.brake + m % 3 ≤ (10 : Int); omega)))
        have Hb9 := Lib.hid (below_step (below_step Hb2.out hx8.out Hb2.out.size) hbx (Nat.le_trans Hb2.out.size hx8.out.size))
        clear he hbx hw8 Own8 HP8 hx8
        go_wp2_with fail
        go_ret
        exact ⟨rfl, Hb9.out⟩
  · have q1 : (x.kind != 4) = true := by rw [bne_iff_ne]; exact hk
    have ⟨l1, l2⟩ := chk_len Hc.out Hx.out hk
    by_cases hv : 4000 ≤ x.len + m
    ·
      have hrow := Lib.hid ((hP.out.below Hb2.out).e.below (below_new2 w2 (.cells #[.slice ae ne ce, .slice aj nj cj, .slice as_ ns cs, .slice al nl cl, .int .i64 p.top, .int .i64 p.brake, .int .i64 p.margin, .int .i64 p.throw, .bool p.hard] 32) (.cells #[] 42)))
      have hown := Lib.hid (lit_own0 w2 42 3 (.cells #[.slice ae ne ce, .slice aj nj cj, .slice as_ ns cs, .slice al nl cl, .int .i64 p.top, .int .i64 p.brake, .int .i64 p.margin, .int .i64 p.throw, .bool p.hard] 32))
      go_wp2_with (at_builtin; refine wpList_app0 encElem_len encElem_one _ rfl _ _ 27 rfl (w2.heap.size + 1) 42 (.agg #[.string ByteArray.empty, .int .i64 0, .int .i64 0]) 32 Try.underlying27 info_elem rfl (by decide) (w2.heap.size + 1) rfl hown.out ae ne ce p.elems rfl hrow.out hP.out.fit.ec (by simp [maxLen]; omega) (by omega) (by simp) ?_)
      intro v4 we4 hown4 hgrow4
      obtain ⟨ge, cqe, rfl, hge, hgs4⟩ := own_shape hown4 (by omega)
      have Own4 := Lib.hid hown4
      have hx4 : Below w2.heap.size w2 we4 := (below_new2 w2 (.cells #[.slice ae ne ce, .slice aj nj cj, .slice as_ ns cs, .slice al nl cl, .int .i64 p.top, .int .i64 p.brake, .int .i64 p.margin, .int .i64 p.throw, .bool p.hard] 32) (.cells #[] 42)).grown hgrow4 (by simp; omega) (by intro k hk; simp at hk; omega)
      have OQ4 := Lib.hid (((obox_new w2 ⟨ae, ne, ce, aj, nj, cj, as_, ns, cs, al, nl, cl, lv⟩ p).alloc (.cells #[] 42)).grown hgrow4 (by intro k hk; simp at hk; omega))
      clear hown4 hgrow4 hrow hown hgs4 c0 c1 c2 c3 c4 c5 c6 c7 c8
      have d0 := OQ4.out.box.c0
      dsimp only at d0
      have f0 := OQ4.out.frozen 0
      obtain ⟨_, d0, d1, d2, d3, d4, d5, d6, d7, d8⟩ := OQ4.out.box
      dsimp only at d0 d1 d2 d3
      have e1 : we4.cell? ⟨ge, a * 3 + 1, none⟩ = some (.int .i64 x.kind) := own_at encElem_len Own4.out (k := 1) Hx.out han rfl
      go_wp2_with fail
      refine name_code fun we5 hw5 => ?_
      have hxe5 := Lib.hid (show Below w2.heap.size w2 we5 by rw [hw5]; exact hx4.setCell (p := ⟨w2.heap.size, 0, none⟩) (Nat.le_refl _) _)
      have OQe5 := Lib.hid (show OBox we5 w2.heap.size ⟨some ⟨ge, 0, none⟩, ne, cqe, aj, nj, cj, as_, ns, cs, al, nl, cl, lv⟩ p by rw [hw5]; exact OQ4.out.put rfl)
      have Owne5 := Lib.hid (show we5.ownsRow (w2.heap.size + 1) 42 3 (.slice (some ⟨ge, 0, none⟩) ne cqe) ne (p.elems.flatMap encElem) by rw [hw5]; exact ownsRow_setCell_below Own4.out (a := ⟨w2.heap.size, 0, none⟩) (Nat.lt_succ_self _) _)
      have HBe5 := Lib.hid (HB2.out.below hxe5.out)
      clear hw5 d0 f0 hx4 Own4 OQ4
      clear d0 d1 d2 d3 d4 d5 d6 d7 d8 e1
      obtain ⟨_, d0, d1, d2, d3, d4, d5, d6, d7, d8⟩ := OQe5.out.box
      dsimp only at d0 d1 d2 d3
      have e2 : we5.cell? ⟨ge, a * 3 + 2, none⟩ = some (.int .i64 x.len) := own_at encElem_len Owne5.out (k := 2) Hx.out han rfl
      have f2 := Owne5.out.frozenAt (a * 3 + 2)
      have hwr : IntKind.i64.wrap (x.len + m) = x.len + m := IntWalk.i64_in _ (by omega)
      have hwm : IntKind.i64.wrap m = m := IntWalk.i64_in _ (by omega)
      refine wp_region_still_tail 15 (by kernel_rfl) (by kernel_rfl) ?_
      simp only [List.take_succ_cons, List.take_zero, List.drop_succ_cons, List.drop_zero]
      change wpStill _ _ (World.drew _) _ _ _
      repeat still_step
      refine wpStill_nil ?_
      change wpList _ _ _ _ _ (World.drew _)
      go_wp2_with fail
      refine name_calls fun w6 hw6 => ?_
      have hx6 := Lib.hid (show Below w2.heap.size w2 w6 by rw [hw6]; exact (hxe5.out.setCell (p := ⟨ge, a * 3 + 2, none⟩) (by show w2.heap.size ≤ ge; omega) _).drew)
      have OQ6 := Lib.hid (show OBox w6 w2.heap.size ⟨some ⟨ge, 0, none⟩, ne, cqe, aj, nj, cj, as_, ns, cs, al, nl, cl, lv⟩ p by rw [hw6]; exact (OQe5.out.far (show w2.heap.size ≠ ge by omega) _ _).drew)
      have Own6 : w6.ownsRow (w2.heap.size + 1) 42 3 (.slice (some ⟨ge, 0, none⟩) ne cqe) ne ((p.elems.set a { x with len := 4000 }).flatMap encElem) := by rw [hw6]; exact (own_put encElem_len Owne5.out (k := 2) Hx.out (by omega) (x' := { x with len := 4000 }) rfl).1.drew
      have HP6 := ((hP.out.below (below_step Hb2.out hx6.out Hb2.out.size)).setE (c := cqe) (owns_row encElem_len Own6 (by omega)).1 (by intro h; cases h) (fit_len hP.out.fit.e Hx.out (inI_mk (by omega) (by omega))))
      refine (check_l Hn2.out HP6).mono ?_
      rintro e w7 ⟨he, hbx⟩
      have Hq := Lib.hid (longer_elem (n := 4000) Hc.out Hx.out hk (by omega) (by omega))
      obtain rfl : e = .returned (.int .i64 0) := he.trans (congrArg (fun c => Ending.returned (.int .i64 c)) Hq.out)
      have hx7 := Lib.hid (below_step hx6.out hbx hx6.out.size)
      have HB7 := Lib.hid (HB2.out.below hx7.out)
      have OQ7 := Lib.hid (OQ6.out.below hbx)
      have Own7 := Lib.hid (owns_below Own6 hbx)
      clear he hbx hw6 Own6 HP6 hx6 d0 d1 d2 d3 d4 d5 d6 d7 d8 e2 f2 hwr hwm OQ6 OQe5 Owne5 hxe5 HBe5
      obtain ⟨_, c0, c1, c2, c3, c4, c5, c6, c7, c8⟩ := HB7.out
      obtain ⟨_, d0, d1, d2, d3, d4, d5, d6, d7, d8⟩ := OQ7.out.box
      dsimp only at c0 c1 c2 c3 d0 d1 d2 d3
      have f4 := OQ7.out.frozen 4
      have f5 := OQ7.out.frozen 5
      by_cases hmx : 1 < p.top - s % 20
      · by_cases hbr : 10 ≤ p.brake + m % 3
        · go_wp2_with fail
          refine name_calls fun w8 hw8 => ?_
          have hx8 := Lib.hid (show Below w2.heap.size w2 w8 by rw [hw8]; exact (hx7.out.setCell (p := ⟨w2.heap.size, 4, none⟩) (Nat.le_refl _) _).setCell (p := ⟨w2.heap.size, 5, none⟩) (Nat.le_refl _) _)
          have Own8 : w8.ownsRow (w2.heap.size + 1) 42 3 (.slice (some ⟨ge, 0, none⟩) ne cqe) ne ((p.elems.set a { x with len := 4000 }).flatMap encElem) := by rw [hw8]; exact ownsRow_setCell_below (ownsRow_setCell_below Own7.out (a := ⟨w2.heap.size, 4, none⟩) (Nat.lt_succ_self _) _) (a := ⟨w2.heap.size, 5, none⟩) (Nat.lt_succ_self _) _
          have HP8 := ((hP.out.below (below_step Hb2.out hx8.out Hb2.out.size)).setE (c := cqe) (owns_row encElem_len Own8 (by omega)).1 (by intro h; cases h) (fit_len hP.out.fit.e Hx.out (inI_mk (by omega) (by omega)))).nums (t := p.top - s % 20) (b := 10) (m := p.margin) (th := p.throw) (inI_mk (by omega) (by omega)) (inI_mk (by omega) (by omega)) hP.out.fit.margin hP.out.fit.throw
          refine (check_l Hn2.out HP8).mono ?_
          rintro e w9 ⟨he, hbx⟩
          obtain rfl : e = .returned (.int .i64 0) := he.trans (congrArg (fun c => Ending.returned (.int .i64 c)) (slower Hq.out (by show (1 : Int) ≤ p.top - s % 20; omega) (by show p.top - s % 20 ≤ p.top; omega) (by show p.brake ≤ 10; omega) (by show 10 ≤ (10 : Int); omega)))
          have Hb9 := Lib.hid (below_step (below_step Hb2.out hx8.out Hb2.out.size) hbx (Nat.le_trans Hb2.out.size hx8.out.size))
          clear he hbx hw8 Own8 HP8 hx8
          go_wp2_with fail
          go_ret
          exact ⟨rfl, Hb9.out⟩
        · go_wp2_with fail
          refine name_calls fun w8 hw8 => ?_
          have hx8 := Lib.hid (show Below w2.heap.size w2 w8 by rw [hw8]; exact (hx7.out.setCell (p := ⟨w2.heap.size, 4, none⟩) (Nat.le_refl _) _).setCell (p := ⟨w2.heap.size, 5, none⟩) (Nat.le_refl _) _)
          have Own8 : w8.ownsRow (w2.heap.size + 1) 42 3 (.slice (some ⟨ge, 0, none⟩) ne cqe) ne ((p.elems.set a { x with len := 4000 }).flatMap encElem) := by rw [hw8]; exact ownsRow_setCell_below (ownsRow_setCell_below Own7.out (a := ⟨w2.heap.size, 4, none⟩) (Nat.lt_succ_self _) _) (a := ⟨w2.heap.size, 5, none⟩) (Nat.lt_succ_self _) _
          have HP8 := ((hP.out.below (below_step Hb2.out hx8.out Hb2.out.size)).setE (c := cqe) (owns_row encElem_len Own8 (by omega)).1 (by intro h; cases h) (fit_len hP.out.fit.e Hx.out (inI_mk (by omega) (by omega)))).nums (t := p.top - s % 20) (b := p.brake + m % 3) (m := p.margin) (th := p.throw) (inI_mk (by omega) (by omega)) (inI_mk (by omega) (by omega)) hP.out.fit.margin hP.out.fit.throw
          refine (check_l Hn2.out HP8).mono ?_
          rintro e w9 ⟨he, hbx⟩
          obtain rfl : e = .returned (.int .i64 0) := he.trans (congrArg (fun c => Ending.returned (.int .i64 c)) (slower Hq.out (by show (1 : Int) ≤ p.top - s % 20; omega) (by show p.top - s % 20 ≤ p.top; omega) (by show p.brake ≤ p.brake + m % 3; omega) (by show p.brake + m % 3 ≤ (10 : Int); omega)))
          have Hb9 := Lib.hid (below_step (below_step Hb2.out hx8.out Hb2.out.size) hbx (Nat.le_trans Hb2.out.size hx8.out.size))
          clear he hbx hw8 Own8 HP8 hx8
          go_wp2_with fail
          go_ret
          exact ⟨rfl, Hb9.out⟩
      · by_cases hbr : 10 ≤ p.brake + m % 3
        · go_wp2_with fail
          refine name_calls fun w8 hw8 => ?_
          have hx8 := Lib.hid (show Below w2.heap.size w2 w8 by rw [hw8]; exact (hx7.out.setCell (p := ⟨w2.heap.size, 4, none⟩) (Nat.le_refl _) _).setCell (p := ⟨w2.heap.size, 5, none⟩) (Nat.le_refl _) _)
          have Own8 : w8.ownsRow (w2.heap.size + 1) 42 3 (.slice (some ⟨ge, 0, none⟩) ne cqe) ne ((p.elems.set a { x with len := 4000 }).flatMap encElem) := by rw [hw8]; exact ownsRow_setCell_below (ownsRow_setCell_below Own7.out (a := ⟨w2.heap.size, 4, none⟩) (Nat.lt_succ_self _) _) (a := ⟨w2.heap.size, 5, none⟩) (Nat.lt_succ_self _) _
          have HP8 := ((hP.out.below (below_step Hb2.out hx8.out Hb2.out.size)).setE (c := cqe) (owns_row encElem_len Own8 (by omega)).1 (by intro h; cases h) (fit_len hP.out.fit.e Hx.out (inI_mk (by omega) (by omega)))).nums (t := 1) (b := 10) (m := p.margin) (th := p.throw) (inI_mk (by omega) (by omega)) (inI_mk (by omega) (by omega)) hP.out.fit.margin hP.out.fit.throw
          refine (check_l Hn2.out HP8).mono ?_
          rintro e w9 ⟨he, hbx⟩
          obtain rfl : e = .returned (.int .i64 0) := he.trans (congrArg (fun c => Ending.returned (.int .i64 c)) (slower Hq.out (by show (1 : Int) ≤ 1; omega) (by show 1 ≤ p.top; omega) (by show p.brake ≤ 10; omega) (by show 10 ≤ (10 : Int); omega)))
          have Hb9 := Lib.hid (below_step (below_step Hb2.out hx8.out Hb2.out.size) hbx (Nat.le_trans Hb2.out.size hx8.out.size))
          clear he hbx hw8 Own8 HP8 hx8
          go_wp2_with fail
          go_ret
          exact ⟨rfl, Hb9.out⟩
        · go_wp2_with fail
          refine name_calls fun w8 hw8 => ?_
          have hx8 := Lib.hid (show Below w2.heap.size w2 w8 by rw [hw8]; exact (hx7.out.setCell (p := ⟨w2.heap.size, 4, none⟩) (Nat.le_refl _) _).setCell (p := ⟨w2.heap.size, 5, none⟩) (Nat.le_refl _) _)
          have Own8 : w8.ownsRow (w2.heap.size + 1) 42 3 (.slice (some ⟨ge, 0, none⟩) ne cqe) ne ((p.elems.set a { x with len := 4000 }).flatMap encElem) := by rw [hw8]; exact ownsRow_setCell_below (ownsRow_setCell_below Own7.out (a := ⟨w2.heap.size, 4, none⟩) (Nat.lt_succ_self _) _) (a := ⟨w2.heap.size, 5, none⟩) (Nat.lt_succ_self _) _
          have HP8 := ((hP.out.below (below_step Hb2.out hx8.out Hb2.out.size)).setE (c := cqe) (owns_row encElem_len Own8 (by omega)).1 (by intro h; cases h) (fit_len hP.out.fit.e Hx.out (inI_mk (by omega) (by omega)))).nums (t := 1) (b := p.brake + m % 3) (m := p.margin) (th := p.throw) (inI_mk (by omega) (by omega)) (inI_mk (by omega) (by omega)) hP.out.fit.margin hP.out.fit.throw
          refine (check_l Hn2.out HP8).mono ?_
          rintro e w9 ⟨he, hbx⟩
          obtain rfl : e = .returned (.int .i64 0) := he.trans (congrArg (fun c => Ending.returned (.int .i64 c)) (slower Hq.out (by show (1 : Int) ≤ 1; omega) (by show 1 ≤ p.top; omega) (by show p.brake ≤ p.brake + m % 3; omega) (by show p.brake + m % 3 ≤ (10 : Int); omega)))
          have Hb9 := Lib.hid (below_step (below_step Hb2.out hx8.out Hb2.out.size) hbx (Nat.le_trans Hb2.out.size hx8.out.size))
          clear he hbx hw8 Own8 HP8 hx8
          go_wp2_with fail
          go_ret
          exact ⟨rfl, Hb9.out⟩
    ·
      have hrow := Lib.hid ((hP.out.below Hb2.out).e.below (below_new2 w2 (.cells #[.slice ae ne ce, .slice aj nj cj, .slice as_ ns cs, .slice al nl cl, .int .i64 p.top, .int .i64 p.brake, .int .i64 p.margin, .int .i64 p.throw, .bool p.hard] 32) (.cells #[] 42)))
      have hown := Lib.hid (lit_own0 w2 42 3 (.cells #[.slice ae ne ce, .slice aj nj cj, .slice as_ ns cs, .slice al nl cl, .int .i64 p.top, .int .i64 p.brake, .int .i64 p.margin, .int .i64 p.throw, .bool p.hard] 32))
      go_wp2_with (at_builtin; refine wpList_app0 encElem_len encElem_one _ rfl _ _ 27 rfl (w2.heap.size + 1) 42 (.agg #[.string ByteArray.empty, .int .i64 0, .int .i64 0]) 32 Try.underlying27 info_elem rfl (by decide) (w2.heap.size + 1) rfl hown.out ae ne ce p.elems rfl hrow.out hP.out.fit.ec (by simp [maxLen]; omega) (by omega) (by simp) ?_)
      intro v4 we4 hown4 hgrow4
      obtain ⟨ge, cqe, rfl, hge, hgs4⟩ := own_shape hown4 (by omega)
      have Own4 := Lib.hid hown4
      have hx4 : Below w2.heap.size w2 we4 := (below_new2 w2 (.cells #[.slice ae ne ce, .slice aj nj cj, .slice as_ ns cs, .slice al nl cl, .int .i64 p.top, .int .i64 p.brake, .int .i64 p.margin, .int .i64 p.throw, .bool p.hard] 32) (.cells #[] 42)).grown hgrow4 (by simp; omega) (by intro k hk; simp at hk; omega)
      have OQ4 := Lib.hid (((obox_new w2 ⟨ae, ne, ce, aj, nj, cj, as_, ns, cs, al, nl, cl, lv⟩ p).alloc (.cells #[] 42)).grown hgrow4 (by intro k hk; simp at hk; omega))
      clear hown4 hgrow4 hrow hown hgs4 c0 c1 c2 c3 c4 c5 c6 c7 c8
      have d0 := OQ4.out.box.c0
      dsimp only at d0
      have f0 := OQ4.out.frozen 0
      obtain ⟨_, d0, d1, d2, d3, d4, d5, d6, d7, d8⟩ := OQ4.out.box
      dsimp only at d0 d1 d2 d3
      have e1 : we4.cell? ⟨ge, a * 3 + 1, none⟩ = some (.int .i64 x.kind) := own_at encElem_len Own4.out (k := 1) Hx.out han rfl
      go_wp2_with fail
      refine name_code fun we5 hw5 => ?_
      have hxe5 := Lib.hid (show Below w2.heap.size w2 we5 by rw [hw5]; exact hx4.setCell (p := ⟨w2.heap.size, 0, none⟩) (Nat.le_refl _) _)
      have OQe5 := Lib.hid (show OBox we5 w2.heap.size ⟨some ⟨ge, 0, none⟩, ne, cqe, aj, nj, cj, as_, ns, cs, al, nl, cl, lv⟩ p by rw [hw5]; exact OQ4.out.put rfl)
      have Owne5 := Lib.hid (show we5.ownsRow (w2.heap.size + 1) 42 3 (.slice (some ⟨ge, 0, none⟩) ne cqe) ne (p.elems.flatMap encElem) by rw [hw5]; exact ownsRow_setCell_below Own4.out (a := ⟨w2.heap.size, 0, none⟩) (Nat.lt_succ_self _) _)
      have HBe5 := Lib.hid (HB2.out.below hxe5.out)
      clear hw5 d0 f0 hx4 Own4 OQ4
      clear d0 d1 d2 d3 d4 d5 d6 d7 d8 e1
      obtain ⟨_, d0, d1, d2, d3, d4, d5, d6, d7, d8⟩ := OQe5.out.box
      dsimp only at d0 d1 d2 d3
      have e2 : we5.cell? ⟨ge, a * 3 + 2, none⟩ = some (.int .i64 x.len) := own_at encElem_len Owne5.out (k := 2) Hx.out han rfl
      have f2 := Owne5.out.frozenAt (a * 3 + 2)
      have hwr : IntKind.i64.wrap (x.len + m) = x.len + m := IntWalk.i64_in _ (by omega)
      have hwm : IntKind.i64.wrap m = m := IntWalk.i64_in _ (by omega)
      refine wp_region_still_tail 15 (by kernel_rfl) (by kernel_rfl) ?_
      simp only [List.take_succ_cons, List.take_zero, List.drop_succ_cons, List.drop_zero]
      change wpStill _ _ (World.drew _) _ _ _
      repeat still_step
      refine wpStill_nil ?_
      change wpList _ _ _ _ _ (World.drew _)
      go_wp2_with fail
      refine name_calls fun w6 hw6 => ?_
      have hx6 := Lib.hid (show Below w2.heap.size w2 w6 by rw [hw6]; exact (hxe5.out.setCell (p := ⟨ge, a * 3 + 2, none⟩) (by show w2.heap.size ≤ ge; omega) _).drew)
      have OQ6 := Lib.hid (show OBox w6 w2.heap.size ⟨some ⟨ge, 0, none⟩, ne, cqe, aj, nj, cj, as_, ns, cs, al, nl, cl, lv⟩ p by rw [hw6]; exact (OQe5.out.far (show w2.heap.size ≠ ge by omega) _ _).drew)
      have Own6 : w6.ownsRow (w2.heap.size + 1) 42 3 (.slice (some ⟨ge, 0, none⟩) ne cqe) ne ((p.elems.set a { x with len := x.len + m }).flatMap encElem) := by rw [hw6]; exact (own_put encElem_len Owne5.out (k := 2) Hx.out (by omega) (x' := { x with len := x.len + m }) rfl).1.drew
      have HP6 := ((hP.out.below (below_step Hb2.out hx6.out Hb2.out.size)).setE (c := cqe) (owns_row encElem_len Own6 (by omega)).1 (by intro h; cases h) (fit_len hP.out.fit.e Hx.out (inI_mk (by omega) (by omega))))
      refine (check_l Hn2.out HP6).mono ?_
      rintro e w7 ⟨he, hbx⟩
      have Hq := Lib.hid (longer_elem (n := x.len + m) Hc.out Hx.out hk (by omega) (by omega))
      obtain rfl : e = .returned (.int .i64 0) := he.trans (congrArg (fun c => Ending.returned (.int .i64 c)) Hq.out)
      have hx7 := Lib.hid (below_step hx6.out hbx hx6.out.size)
      have HB7 := Lib.hid (HB2.out.below hx7.out)
      have OQ7 := Lib.hid (OQ6.out.below hbx)
      have Own7 := Lib.hid (owns_below Own6 hbx)
      clear he hbx hw6 Own6 HP6 hx6 d0 d1 d2 d3 d4 d5 d6 d7 d8 e2 f2 hwr hwm OQ6 OQe5 Owne5 hxe5 HBe5
      obtain ⟨_, c0, c1, c2, c3, c4, c5, c6, c7, c8⟩ := HB7.out
      obtain ⟨_, d0, d1, d2, d3, d4, d5, d6, d7, d8⟩ := OQ7.out.box
      dsimp only at c0 c1 c2 c3 d0 d1 d2 d3
      have f4 := OQ7.out.frozen 4
      have f5 := OQ7.out.frozen 5
      by_cases hmx : 1 < p.top - s % 20
      · by_cases hbr : 10 ≤ p.brake + m % 3
        · go_wp2_with fail
          refine name_calls fun w8 hw8 => ?_
          have hx8 := Lib.hid (show Below w2.heap.size w2 w8 by rw [hw8]; exact (hx7.out.setCell (p := ⟨w2.heap.size, 4, none⟩) (Nat.le_refl _) _).setCell (p := ⟨w2.heap.size, 5, none⟩) (Nat.le_refl _) _)
          have Own8 : w8.ownsRow (w2.heap.size + 1) 42 3 (.slice (some ⟨ge, 0, none⟩) ne cqe) ne ((p.elems.set a { x with len := x.len + m }).flatMap encElem) := by rw [hw8]; exact ownsRow_setCell_below (ownsRow_setCell_below Own7.out (a := ⟨w2.heap.size, 4, none⟩) (Nat.lt_succ_self _) _) (a := ⟨w2.heap.size, 5, none⟩) (Nat.lt_succ_self _) _
          have HP8 := ((hP.out.below (below_step Hb2.out hx8.out Hb2.out.size)).setE (c := cqe) (owns_row encElem_len Own8 (by omega)).1 (by intro h; cases h) (fit_len hP.out.fit.e Hx.out (inI_mk (by omega) (by omega)))).nums (t := p.top - s % 20) (b := 10) (m := p.margin) (th := p.throw) (inI_mk (by omega) (by omega)) (inI_mk (by omega) (by omega)) hP.out.fit.margin hP.out.fit.throw
          refine (check_l Hn2.out HP8).mono ?_
          rintro e w9 ⟨he, hbx⟩
          obtain rfl : e = .returned (.int .i64 0) := he.trans (congrArg (fun c => Ending.returned (.int .i64 c)) (slower Hq.out (by show (1 : Int) ≤ p.top - s % 20; omega) (by show p.top - s % 20 ≤ p.top; omega) (by show p.brake ≤ 10; omega) (by show 10 ≤ (10 : Int); omega)))
          have Hb9 := Lib.hid (below_step (below_step Hb2.out hx8.out Hb2.out.size) hbx (Nat.le_trans Hb2.out.size hx8.out.size))
          clear he hbx hw8 Own8 HP8 hx8
          go_wp2_with fail
          go_ret
          exact ⟨rfl, Hb9.out⟩
        · go_wp2_with fail
          refine name_calls fun w8 hw8 => ?_
          have hx8 := Lib.hid (show Below w2.heap.size w2 w8 by rw [hw8]; exact (hx7.out.setCell (p := ⟨w2.heap.size, 4, none⟩) (Nat.le_refl _) _).setCell (p := ⟨w2.heap.size, 5, none⟩) (Nat.le_refl _) _)
          have Own8 : w8.ownsRow (w2.heap.size + 1) 42 3 (.slice (some ⟨ge, 0, none⟩) ne cqe) ne ((p.elems.set a { x with len := x.len + m }).flatMap encElem) := by rw [hw8]; exact ownsRow_setCell_below (ownsRow_setCell_below Own7.out (a := ⟨w2.heap.size, 4, none⟩) (Nat.lt_succ_self _) _) (a := ⟨w2.heap.size, 5, none⟩) (Nat.lt_succ_self _) _
          have HP8 := ((hP.out.below (below_step Hb2.out hx8.out Hb2.out.size)).setE (c := cqe) (owns_row encElem_len Own8 (by omega)).1 (by intro h; cases h) (fit_len hP.out.fit.e Hx.out (inI_mk (by omega) (by omega)))).nums (t := p.top - s % 20) (b := p.brake + m % 3) (m := p.margin) (th := p.throw) (inI_mk (by omega) (by omega)) (inI_mk (by omega) (by omega)) hP.out.fit.margin hP.out.fit.throw
          refine (check_l Hn2.out HP8).mono ?_
          rintro e w9 ⟨he, hbx⟩
          obtain rfl : e = .returned (.int .i64 0) := he.trans (congrArg (fun c => Ending.returned (.int .i64 c)) (slower Hq.out (by show (1 : Int) ≤ p.top - s % 20; omega) (by show p.top - s % 20 ≤ p.top; omega) (by show p.brake ≤ p.brake + m % 3; omega) (by show p.brake + m % 3 ≤ (10 : Int); omega)))
          have Hb9 := Lib.hid (below_step (below_step Hb2.out hx8.out Hb2.out.size) hbx (Nat.le_trans Hb2.out.size hx8.out.size))
          clear he hbx hw8 Own8 HP8 hx8
          go_wp2_with fail
          go_ret
          exact ⟨rfl, Hb9.out⟩
      · by_cases hbr : 10 ≤ p.brake + m % 3
        · go_wp2_with fail
          refine name_calls fun w8 hw8 => ?_
          have hx8 := Lib.hid (show Below w2.heap.size w2 w8 by rw [hw8]; exact (hx7.out.setCell (p := ⟨w2.heap.size, 4, none⟩) (Nat.le_refl _) _).setCell (p := ⟨w2.heap.size, 5, none⟩) (Nat.le_refl _) _)
          have Own8 : w8.ownsRow (w2.heap.size + 1) 42 3 (.slice (some ⟨ge, 0, none⟩) ne cqe) ne ((p.elems.set a { x with len := x.len + m }).flatMap encElem) := by rw [hw8]; exact ownsRow_setCell_below (ownsRow_setCell_below Own7.out (a := ⟨w2.heap.size, 4, none⟩) (Nat.lt_succ_self _) _) (a := ⟨w2.heap.size, 5, none⟩) (Nat.lt_succ_self _) _
          have HP8 := ((hP.out.below (below_step Hb2.out hx8.out Hb2.out.size)).setE (c := cqe) (owns_row encElem_len Own8 (by omega)).1 (by intro h; cases h) (fit_len hP.out.fit.e Hx.out (inI_mk (by omega) (by omega)))).nums (t := 1) (b := 10) (m := p.margin) (th := p.throw) (inI_mk (by omega) (by omega)) (inI_mk (by omega) (by omega)) hP.out.fit.margin hP.out.fit.throw
          refine (check_l Hn2.out HP8).mono ?_
          rintro e w9 ⟨he, hbx⟩
          obtain rfl : e = .returned (.int .i64 0) := he.trans (congrArg (fun c => Ending.returned (.int .i64 c)) (slower Hq.out (by show (1 : Int) ≤ 1; omega) (by show 1 ≤ p.top; omega) (by show p.brake ≤ 10; omega) (by show 10 ≤ (10 : Int); omega)))
          have Hb9 := Lib.hid (below_step (below_step Hb2.out hx8.out Hb2.out.size) hbx (Nat.le_trans Hb2.out.size hx8.out.size))
          clear he hbx hw8 Own8 HP8 hx8
          go_wp2_with fail
          go_ret
          exact ⟨rfl, Hb9.out⟩
        · go_wp2_with fail
          refine name_calls fun w8 hw8 => ?_
          have hx8 := Lib.hid (show Below w2.heap.size w2 w8 by rw [hw8]; exact (hx7.out.setCell (p := ⟨w2.heap.size, 4, none⟩) (Nat.le_refl _) _).setCell (p := ⟨w2.heap.size, 5, none⟩) (Nat.le_refl _) _)
          have Own8 : w8.ownsRow (w2.heap.size + 1) 42 3 (.slice (some ⟨ge, 0, none⟩) ne cqe) ne ((p.elems.set a { x with len := x.len + m }).flatMap encElem) := by rw [hw8]; exact ownsRow_setCell_below (ownsRow_setCell_below Own7.out (a := ⟨w2.heap.size, 4, none⟩) (Nat.lt_succ_self _) _) (a := ⟨w2.heap.size, 5, none⟩) (Nat.lt_succ_self _) _
          have HP8 := ((hP.out.below (below_step Hb2.out hx8.out Hb2.out.size)).setE (c := cqe) (owns_row encElem_len Own8 (by omega)).1 (by intro h; cases h) (fit_len hP.out.fit.e Hx.out (inI_mk (by omega) (by omega)))).nums (t := 1) (b := p.brake + m % 3) (m := p.margin) (th := p.throw) (inI_mk (by omega) (by omega)) (inI_mk (by omega) (by omega)) hP.out.fit.margin hP.out.fit.throw
          refine (check_l Hn2.out HP8).mono ?_
          rintro e w9 ⟨he, hbx⟩
          obtain rfl : e = .returned (.int .i64 0) := he.trans (congrArg (fun c => Ending.returned (.int .i64 c)) (slower Hq.out (by show (1 : Int) ≤ 1; omega) (by show 1 ≤ p.top; omega) (by show p.brake ≤ p.brake + m % 3; omega) (by show p.brake + m % 3 ≤ (10 : Int); omega)))
          have Hb9 := Lib.hid (below_step (below_step Hb2.out hx8.out Hb2.out.size) hbx (Nat.le_trans Hb2.out.size hx8.out.size))
          clear he hbx hw8 Own8 HP8 hx8
          go_wp2_with fail
          go_ret
          exact ⟨rfl, Hb9.out⟩
set_option maxRecDepth 100000 in
theorem planLonger_lifted (os : Os) (started : os.Started) (H : Type) (enc : TypeId × Value → H) :
    ReturnsInHanded {} Try.checked os 9 .any (Rows.planLongerSpec.pre6 enc Try.prog Try.f9 Rows.planLongerRow.domain false) (Rows.planLongerSpec.post enc Try.prog Try.f9 false true false false) := by
  refine returnsInHanded_of_change (C := Try.checked) own started (by kernel_rfl) Try.func9
    (ChangeSpec.witness6 (enc := enc) (C := Try.checked) false ⟨#[], #[.agg #[.slice none 0 0, .slice none 0 0, .slice none 0 0, .slice none 0 0, .int .i64 0, .int .i64 0, .int .i64 0, .int .i64 0, .bool false], .int .u8 0, .int .u8 0, .int .u8 0], []⟩ 8 (by kernel_rfl) (by kernel_rfl) (by kernel_rfl) (by kernel_rfl)) ?_
  intro W base args ds gs before hval0 hW hcnd _
  have hval : ∀ (j : Nat) t v, Try.f9.params[j]? = some t → args[j]? = some v → Value.okWide Try.prog W .any base t v := hval0
  have hW' := hW
  obtain ⟨p, q, hA0, hV, rfl, hfz, hnd⟩ := hW
  have hA : DataW.TrodAll enc Try.prog W 0 (fun _ => true) true Try.f9.params.toList args.toList ds p := hA0
  rw [Try.params9] at hA hval
  obtain ⟨v0, vs0, d0, ds0, p0, q0, hargs, rfl, rfl, k0, r0⟩ := trodAll_cons hA
  obtain ⟨v1, vs1, d1, ds1, p1, q1, rfl, rfl, rfl, k1, r1⟩ := trodAll_cons r0
  obtain ⟨v2, vs2, d2, ds2, p2, q2, rfl, rfl, rfl, k2, r2⟩ := trodAll_cons r1
  obtain ⟨v3, vs3, d3, ds3, p3, q3, rfl, rfl, rfl, k3, r3⟩ := trodAll_cons r2
  obtain ⟨rfl, rfl, rfl⟩ := trodAll_nil r3
  obtain rfl : args = #[v0, v1, v2, v3] := by cases args; simp_all
  obtain ⟨rfl, rfl⟩ := trodVars_none hV
  have lt0 : ∀ x ∈ p0, x.block < W.heap.size := by obtain ⟨m, hm⟩ := k0; exact DataW.trod_lt m _ _ _ hm
  have hv0 := hval 0 32 v0 rfl rfl
  have lt1 : ∀ x ∈ p1, x.block < W.heap.size := by obtain ⟨m, hm⟩ := k1; exact DataW.trod_lt m _ _ _ hm
  have hv1 := hval 1 5 v1 rfl rfl
  have lt2 : ∀ x ∈ p2, x.block < W.heap.size := by obtain ⟨m, hm⟩ := k2; exact DataW.trod_lt m _ _ _ hm
  have hv2 := hval 2 5 v2 rfl rfl
  have lt3 : ∀ x ∈ p3, x.block < W.heap.size := by obtain ⟨m, hm⟩ := k3; exact DataW.trod_lt m _ _ _ hm
  have hv3 := hval 3 5 v3 rfl rfl
  have fin : Calls Try.prog 9 #[v0, v1, v2, v3] W (fun e W' => e = .returned (.bool true) ∧ Below W.heap.size W W') := by
    obtain ⟨pv, p, rfl, hp⟩ := open_plan hv0 k0
    obtain ⟨x0, rfl, a0, a1⟩ := open_u8 hv1 k1
    obtain ⟨x1, rfl, b0, b1⟩ := open_u8 hv2 k2
    obtain ⟨x2, rfl, d0, d1⟩ := open_u8 hv3 k3
    exact lawLonger_any W pv p x0 x1 x2 a0 a1 b0 b1 d0 d1 hp
  clear hA0 hval0
  refine fin.mono fun e W' ⟨he, bel⟩ => ?_
  subst he
  exact ⟨_, rfl, _, _, _, [], _, [], hW', trodAll_mk1 (shut_bool Try.underlying4 _), (trodAll_cons_mk (Below.trod laidOut (by kernel_rfl) (of_decide_eq_true (by kernel_rfl)) k0 bel lt0) (trodAll_cons_mk (Below.trod laidOut (by kernel_rfl) (of_decide_eq_true (by kernel_rfl)) k1 bel lt1) (trodAll_cons_mk (Below.trod laidOut (by kernel_rfl) (of_decide_eq_true (by kernel_rfl)) k2 bel lt2) (trodAll_cons_mk (Below.trod laidOut (by kernel_rfl) (of_decide_eq_true (by kernel_rfl)) k3 bel lt3) trodAll_mk0)))), rfl, bel.frame _, fun h => by cases h⟩

/-- THE STATEMENT -/
theorem planLonger_holds : Rows.PlanLongerSaid :=
  OpenClaim.holds_of_wide 9 Try.f9 rfl rfl rfl rfl rfl rfl rfl ⟨rfl, rfl, rfl, rfl, rfl⟩ rfl rfl rfl rfl rfl (by kernel_rfl) Try.func9 (by kernel_rfl)
    (of_decide_eq_true (by kernel_rfl)) (by unfold Func.isWrapper; first | (rw [if_pos (by decide +kernel)]; kernel_rfl) | (rw [if_neg (by decide +kernel)]; exact ⟨rfl, rfl⟩))
    (fun os started H enc _ => planLonger_lifted os started H enc)
end Go.Proofs.Ytlndfmflbdkpjaa
