/- Walks of semaphoreref6.Run, SamePorts, Metres and of walk.Metres. Condition: the receiver is a net; the plan is read, and valid where lengths are added. -/
import Derived.Test.YtackcfoplhhnbaaWalkW3
set_option maxRecDepth 1000000
namespace Go.Proofs.Ytackcfoplhhnbaa
open Go.ChangeShapes Go.WideShapes Go.ChangeAt Go.RowKit Go.Sort

theorem drop_eq_refSamePorts {xs ys : List Port} {j : Nat} {x y : Port} (hx : xs.drop j = x :: xs.drop (j + 1)) (hy : ys.drop j = y :: ys.drop (j + 1)) : decide (xs.drop j = ys.drop j) = (decide (x = y) && decide (xs.drop (j + 1) = ys.drop (j + 1))) := by
  rw [hx, hy, Bool.eq_iff_iff]; simp
set_option maxHeartbeats 400000 in
theorem refSamePorts (w : World) (a1 a2 : Option Addr) (n1 n2 c1 c2 : Nat) (xs ys : List Port) (h1 : Row 2 encPort w a1 n1 xs) (h2 : Row 2 encPort w a2 n2 ys) :
    Calls Try.prog 27 #[.slice a1 n1 c1, .slice a2 n2 c2] w fun e w' => e = .returned (.bool (decide (xs = ys))) ∧ ∃ q : Nat, w' = w.drewN q := by
  have l1 := Lib.hid h1.len
  have l2 := Lib.hid h2.len
  have b1 := h1.bnd
  have b2 := h2.bnd
  by_cases hn : n1 = n2
  · subst hn
    go_enter Try.func27, Try.ntmps27
    go_wp2_with fail
    go_loopg [5] n1 (fun k i wr => ∃ (j q : Nat), j + k = n1 ∧ i = .int .i64 j ∧ Hid (decide (xs.drop j = ys.drop j) = decide (xs = ys)) ∧ wr = w.drewN q)
    case atStart => exact ⟨0, 0, by omega, rfl, rfl, rfl⟩
    case round =>
      obtain ⟨j, q, hk, rfl, hr, rfl⟩ := hrel
      have Hk := Lib.hid hk; clear hk
      by_cases hlt : j < n1
      · obtain ⟨x, hx⟩ := get_some l1.out hlt
        obtain ⟨y, hy⟩ := get_some l2.out hlt
        obtain ⟨p1, o1, rfl, hp1, g0, g1⟩ := h1.port hx
        obtain ⟨p2, o2, rfl, hp2, k0, k1⟩ := h2.port hy
        have Hd := Lib.hid (drop_eq_refSamePorts (drop_cons hx) (drop_cons hy)); clear hx hy
        by_cases hxy : x = y
        · have q1 := fun w => (neq_port (x := x) (y := y) (b := true) (by simpa using hxy) w)
          have Hf := Lib.hid (show decide (xs.drop (j + 1) = ys.drop (j + 1)) = decide (xs = ys) by rw [← hr.out, Hd.out]; simp [hxy])
          clear hxy
          go_wp2_with fail
          go_quiet (fail)
          go_wp2_with fail
          go_roundg (gk - 1)
          case measure => have := Hk.out; omega
          case rel => exact ⟨j + 1, _, by have := Hk.out; omega, by go_num, Hf.out, rfl⟩
        · have q1 := fun w => (neq_port (x := x) (y := y) (b := false) (by simpa using hxy) w)
          have Hf := Lib.hid (show decide (xs = ys) = false by rw [← hr.out, Hd.out]; simp [hxy])
          clear hxy
          go_wp2_with fail
          go_quiet (fail)
          go_wp2_with fail
          go_ret
          exact ⟨ret_bool Hf.out.symm, _, by first | exact World.drewN_drewN .. | rfl⟩
      · have Hf := Lib.hid (show decide (xs = ys) = true by rw [← hr.out, drop_end l1.out (by omega), drop_end l2.out (by omega)]; rfl)
        go_wp2_with fail
        go_ret
        exact ⟨ret_bool Hf.out.symm, _, by first | exact World.drewN_drewN .. | rfl⟩
  · have Hf := Lib.hid (show decide (xs = ys) = false by
      have := l1.out; have := l2.out
      simp only [decide_eq_false_iff_not]; intro h; subst h; omega)
    have q1 : ((n1 : Int) != (n2 : Int)) = true := by rw [bne_iff_ne]; omega
    go_enter Try.func27, Try.ntmps27
    go_wp2_with fail
    go_ret
    exact ⟨ret_bool Hf.out.symm, 0, rfl⟩
theorem len_bound {p : Plan} (h : chk p = 0) (e : Int) : 0 ≤ p.length e ∧ p.length e ≤ 4000 := by
  unfold Plan.length
  by_cases h0 : e < 0
  · rw [elem_out (.inl h0)]; exact ⟨by decide, by decide⟩
  by_cases h1 : (p.elems.length : Int) ≤ e
  · rw [elem_out (.inr h1)]; exact ⟨by decide, by decide⟩
  obtain ⟨x, hx⟩ : ∃ x, p.elems[e.toNat]? = some x := ⟨_, List.getElem?_eq_getElem (by omega)⟩
  rw [elem_get (by omega) hx]
  obtain ⟨_, h2, _⟩ := chk_zero h
  unfold argsOk at h2
  simp only [Bool.and_eq_true] at h2
  have := (List.all_eq_true.1 h2.2.1) x (List.mem_of_getElem? hx)
  unfold elemOk at this
  simp only [Bool.and_eq_true] at this
  have h3 := this.2
  split at h3
  · simp at h3; omega
  · simp at h3; omega
theorem metres_snoc {p : Plan} {l : List Port} {j : Nat} {x : Port} (h : l[j]? = some x) : metres p (l.take (j + 1)) = metres p (l.take j) + p.length x.e := by
  unfold metres; rw [take_snoc_get h]; simp
theorem metres_bound {p : Plan} (h : chk p = 0) (l : List Port) : 0 ≤ metres p l ∧ metres p l ≤ 4000 * l.length := by
  induction l with
  | nil => simp [metres]
  | cons x r ih =>
    have := len_bound h x.e
    unfold metres at ih ⊢
    simp only [List.map_cons, List.sum_cons, List.length_cons]
    omega
set_option maxHeartbeats 1000000 in
theorem nmetres_any (w : World) (b : Nat) (p : Plan) (hn : NetAt w b p) (a : Option Addr) (n c : Nat) (l : List Port) (hr : Hid (Row 2 encPort w a n l)) (hl : n ≤ 3000) :
    Calls Try.prog 28 #[.pointer (some ⟨b, 0, none⟩), .slice a n c] w fun en w' => en = .returned (.int .i64 (metres p l)) ∧ Below w.heap.size w w' := by
  have HN := Lib.hid hn
  have Hc := Lib.hid hn.ok
  have ll := Lib.hid hr.out.len
  clear hn
  go_enter Try.func28, Try.ntmps28
  go_wp2_with fail
  go_loopg [5, 10] n (fun k s i wr => ∃ j : Nat, j + k = n ∧ s = .int .i64 (metres p (l.take j)) ∧ i = .int .i64 j ∧ Below w.heap.size w wr)
  case atStart => exact ⟨0, by omega, by simp [metres], rfl, Below.refl _ _⟩
  case round =>
    obtain ⟨j, hk, rfl, rfl, hb⟩ := hrel
    have Hk := Lib.hid hk; clear hk
    have Hb := Lib.hid hb; clear hb
    by_cases hlt : j < n
    · obtain ⟨x, hx⟩ := get_some ll.out hlt
      obtain ⟨pb, off, rfl, hpb, g1, g2⟩ := hr.out.port hx
      have g1 := (Hb.out.cell (p := ⟨pb, off + j * 2, none⟩) hpb).trans g1
      have g2 := (Hb.out.cell (p := ⟨pb, off + j * 2 + 1, none⟩) hpb).trans g2
      have hpb2 : pb < wr.heap.size := Nat.lt_of_lt_of_le hpb Hb.out.size
      have HL := Lib.hid (fun (u : World) (hb : Below w.heap.size w u) => nlength_any u b p (HN.out.below hb) x.e)
      have Hs := Lib.hid (metres_snoc (p := p) hx)
      have m1 := metres_bound Hc.out (l.take j)
      have m2 := len_bound Hc.out x.e
      have m3 : (l.take j).length ≤ j := by simp; omega
      have hwr : IntKind.i64.wrap (metres p (l.take j) + p.length x.e) = metres p (l.take j) + p.length x.e := IntWalk.i64_in _ (by omega)
      clear hx m1 m2 m3
      go_wp2_with fail
      refine (HL.out _ (Hb.out.alloc Hb.out.size _)).mono ?_
      rintro en w1 ⟨rfl, hb1⟩
      have Hb1 := Lib.hid (below_step (Hb.out.alloc Hb.out.size (.cells #[.int .i64 x.e, .int .i64 x.n] 30)) hb1 (by have := Hb.out.size; simp; omega))
      clear hb1 g1 g2
      go_wp2_with fail
      go_roundg (gk - 1)
      case measure => have := Hk.out; omega
      case rel => exact ⟨j + 1, by have := Hk.out; omega, by rw [Hs.out], by go_num, Hb1.out⟩
    · have Hs := Lib.hid (show metres p (l.take j) = metres p l by rw [List.take_of_length_le (by have := ll.out; omega)])
      go_wp2_with fail
      go_ret
      exact ⟨ret_int Hs.out, Hb.out⟩
set_option maxHeartbeats 1000000 in
theorem refmetres_any (w : World) (pv : PV) (p : Plan) (h : PlanAt w pv p) (hc : chk p = 0) (a : Option Addr) (n c : Nat) (l : List Port) (hr : Hid (Row 2 encPort w a n l)) (hl : n ≤ 3000) :
    Calls Try.prog 29 #[pv.val p, .slice a n c] w fun en w' => en = .returned (.int .i64 (metres p l)) ∧ Below w.heap.size w w' := by
  obtain ⟨ae, ne, ce, aj, nj, cj, as_, ns, cs, al, nl, cl, lv⟩ := pv
  have hP := Lib.hid h
  have Hc := Lib.hid hc
  have HBa := Lib.hid (pbox_new w ⟨ae, ne, ce, aj, nj, cj, as_, ns, cs, al, nl, cl, lv⟩ p)
  have Hba := Lib.hid (below_new w (.cells #[.slice ae ne ce, .slice aj nj cj, .slice as_ ns cs, .slice al nl cl, .int .i64 p.top, .int .i64 p.brake, .int .i64 p.margin, .int .i64 p.throw, .bool p.hard] 27))
  have ll := Lib.hid hr.out.len
  clear h hc
  dsimp only [PV.val]
  go_enter Try.func29, Try.ntmps29
  go_wp2_with fail
  go_loopg [5, 6] n (fun k s i wr => ∃ j : Nat, j + k = n ∧ s = .int .i64 (metres p (l.take j)) ∧ i = .int .i64 j ∧ PBox wr w.heap.size ⟨ae, ne, ce, aj, nj, cj, as_, ns, cs, al, nl, cl, lv⟩ p ∧ Below w.heap.size w wr)
  case atStart => exact ⟨0, by omega, by simp [metres], rfl, HBa.out, Hba.out⟩
  case round =>
    obtain ⟨j, hk, rfl, rfl, hB, hb⟩ := hrel
    have Hk := Lib.hid hk; clear hk
    have HB := Lib.hid hB; clear hB
    have Hb := Lib.hid hb; clear hb
    clear HBa Hba
    by_cases hlt : j < n
    · obtain ⟨x, hx⟩ := get_some ll.out hlt
      obtain ⟨pb, off, rfl, hpb, g1, _⟩ := hr.out.port hx
      have g1 := (Hb.out.cell (p := ⟨pb, off + j * 2, none⟩) hpb).trans g1
      obtain ⟨_, c0, c1, c2, c3, c4, c5, c6, c7, c8⟩ := HB.out
      dsimp only at c0 c1 c2 c3
      have Hs := Lib.hid (metres_snoc (p := p) hx)
      have m1 := metres_bound Hc.out (l.take j)
      have m2 := len_bound Hc.out x.e
      have m3 : (l.take j).length ≤ j := by simp; omega
      have hwr : IntKind.i64.wrap (metres p (l.take j) + p.length x.e) = metres p (l.take j) + p.length x.e := IntWalk.i64_in _ (by omega)
      clear hx m1 m2 m3
      go_wp2_with fail
      have c0q := fun d os => cell_regrown c0 d os
      have c1q := fun d os => cell_regrown c1 d os
      have c2q := fun d os => cell_regrown c2 d os
      have c3q := fun d os => cell_regrown c3 d os
      have c4q := fun d os => cell_regrown c4 d os
      have c5q := fun d os => cell_regrown c5 d os
      have c6q := fun d os => cell_regrown c6 d os
      have c7q := fun d os => cell_regrown c7 d os
      have c8q := fun d os => cell_regrown c8 d os
      have g1q := fun d os => cell_regrown g1 d os
      have cq0 : ∀ d os, Calls Try.prog 60 #[.agg #[.slice ae ne ce, .slice aj nj cj, .slice as_ ns cs, .slice al nl cl, .int .i64 p.top, .int .i64 p.brake, .int .i64 p.margin, .int .i64 p.throw, .bool p.hard], .int .i64 x.e] (grow (redrawn wr d) os) fun e w'' => e = .returned (.int .i64 (p.length x.e)) ∧ ∃ rg : Regrown, w'' = grow (redrawn wr rg.d) rg.os := fun d os => Calls.regrown_of (reflength_l (i := x.e) (hP.out.below (below_step Hb.out (below_regrown _ d os) Hb.out.size)))
      refine wp_region_quiet_below (by kernel_rfl) (by kernel_rfl) ?_
      repeat (quiet_step (first | with_reducible exact cq0 _ _))
      refine wpQuiet_nil ?_
      intro w1 hw'
      have hb1 : Below wr.heap.size wr w1 := by obtain ⟨⟨d, os⟩, rfl⟩ := hw'; exact below_regrown _ d os
      clear hw' c0q c1q c2q c3q c4q c5q c6q c7q c8q g1q cq0
      have HB1 := Lib.hid (HB.out.below hb1)
      have Hb1 := Lib.hid (below_step Hb.out hb1 Hb.out.size)
      clear hb1 c0 c1 c2 c3 c4 c5 c6 c7 c8 g1
      go_wp2_with fail
      go_roundg (gk - 1)
      case measure => have := Hk.out; omega
      case rel => exact ⟨j + 1, by have := Hk.out; omega, by rw [Hs.out], by go_num, HB1.out, Hb1.out⟩
    · have Hs := Lib.hid (show metres p (l.take j) = metres p l by rw [List.take_of_length_le (by have := ll.out; omega)])
      go_wp2_with fail
      go_ret
      exact ⟨ret_int Hs.out, Hb.out⟩
set_option maxHeartbeats 4000000 in
theorem refrun_any (w : World) (pv : PV) (p : Plan) (hp : PlanAt w pv p) (a : Option Addr) (n c : Nat) (pos : List Int) (hr : Hid (Ints w a n pos)) (hd : Port) (most : Int) :
    Calls Try.prog 26 #[pv.val p, .slice a n c, hd.val, .int .i64 most] w (RunPost w (run p pos hd most)) := by
  obtain ⟨ae, ne, ce, aj, nj, cj, as_, ns, cs, al, nl, cl, lv⟩ := pv
  dsimp only [PV.val, Port.val]
  have hP := Lib.hid hp
  have Hba := Lib.hid (below_new2 w (.cells #[.slice ae ne ce, .slice aj nj cj, .slice as_ ns cs, .slice al nl cl, .int .i64 p.top, .int .i64 p.brake, .int .i64 p.margin, .int .i64 p.throw, .bool p.hard] 27) (.cells #[.int .i64 hd.e, .int .i64 hd.n] 30))
  have HO := Lib.hid ((obox_new w ⟨ae, ne, ce, aj, nj, cj, as_, ns, cs, al, nl, cl, lv⟩ p).alloc (.cells #[.int .i64 hd.e, .int .i64 hd.n] 30))
  have HQ := Lib.hid (show QBox ((w.alloc (.cells #[.slice ae ne ce, .slice aj nj cj, .slice as_ ns cs, .slice al nl cl, .int .i64 p.top, .int .i64 p.brake, .int .i64 p.margin, .int .i64 p.throw, .bool p.hard] 27)).alloc (.cells #[.int .i64 hd.e, .int .i64 hd.n] 30)) (w.heap.size + 1) hd by have := qbox_new (w.alloc (.cells #[.slice ae ne ce, .slice aj nj cj, .slice as_ ns cs, .slice al nl cl, .int .i64 p.top, .int .i64 p.brake, .int .i64 p.margin, .int .i64 p.throw, .bool p.hard] 27)) hd; simpa using this)
  obtain ⟨R, hR⟩ : ∃ R, runMost most = R := ⟨_, rfl⟩
  have hm : R ≤ 1000 := by rw [← hR]; exact runMost_le most
  obtain ⟨L, hL⟩ : ∃ L, L = run p pos hd most := ⟨_, rfl⟩
  have HL := Lib.hid (show runGo p pos R hd = L by rw [hL, ← hR]; rfl)
  rw [← hL]
  clear hL
  obtain ⟨ii, hii, zi1, zi2, zi3⟩ := info_parts info_port
  clear hp
  go_enter Try.func26, Try.ntmps26
  go_wp2_with fail
  all_goals
    first
      | have hM : (R : Int) = 1000 := by rw [← hR]; unfold runMost; omega
      | have hM : (R : Int) = most := by rw [← hR]; unfold runMost; omega
      | have hM : (R : Int) = 0 := by rw [← hR]; unfold runMost; omega
    clear hR
    go_loopg [10] R (fun k v wr => ∃ (xs : List Port) (h' : Port), xs.length + k = R ∧ Hid (L = (xs ++ (runGo p pos k h').1, (runGo p pos k h').2)) ∧ wr.ownsRow (w.heap.size + 2) 30 2 v xs.length (xs.flatMap encPort) ∧ OBox wr w.heap.size ⟨ae, ne, ce, aj, nj, cj, as_, ns, cs, al, nl, cl, lv⟩ p ∧ QBox wr (w.heap.size + 1) h' ∧ Below w.heap.size w wr)
    case atStart => exact ⟨[], hd, by simp, Lib.hid (by rw [HL.out]; simp), own_nil _ _ _ _, HO.out, HQ.out, Hba.out⟩
    case round =>
      clear HO HQ Hba
      obtain ⟨xs, h', hk, hrel2, own, hO, hq, hb⟩ := hrel
      have HS := Lib.hid (refstep_any wr ⟨ae, ne, ce, aj, nj, cj, as_, ns, cs, al, nl, cl, lv⟩ p (hP.out.below hb) a n c pos (Lib.hid (hr.out.below hb)) h')
      dsimp only [PV.val, Port.val] at HS
      obtain ⟨_, x0, x1, _⟩ := hq.box
      obtain ⟨_, c0, c1, c2, c3, c4, c5, c6, c7, c8⟩ := hO.box
      dsimp only at c0 c1 c2 c3
      obtain ⟨a1, cc1, rfl, hbd, hc1⟩ := own_slice own
      have Own := Lib.hid own
      have Hq := Lib.hid hq
      have HO := Lib.hid hO
      have Hb := Lib.hid hb
      have hz := hb.size
      have hqz := hq.lt
      clear own hq hb hO
      by_cases e0 : (step p pos h').2 = 0
      · have hys : step p pos h' = ((step p pos h').1, 0) := by rw [← e0]
        obtain ⟨y, hy⟩ : ∃ y, y = (step p pos h').1 := ⟨_, rfl⟩
        rw [← hy] at hys
        rw [hys] at HS
        dsimp only at HS
        cases gk with
        | zero =>
          have Hs := Lib.hid (show L = (xs, 5) by rw [hrel2.out, run_most e0]; simp)
          have q1 : (((xs.length : Nat) : Int) == (R : Int)) = true := by simp; omega
          rw [hM] at q1
          clear hrel2 e0 hys hy hk
          go_wp2_with fail
          refine HS.out.mono ?_
          rintro en w1 ⟨rfl, hb1⟩
          have Hb1 := Lib.hid (below_step Hb.out (hb1.alloc hb1.size (.cells #[.int .i64 y.e, .int .i64 y.n] 30)) hz)
          have Ow := Lib.hid (owns_below Own.out (hb1.alloc hb1.size (.cells #[.int .i64 y.e, .int .i64 y.n] 30)))
          clear hb1
          go_wp2_with fail
          go_ret2
          refine ⟨a1, xs.length, cc1, ?_, ?_, ?_, Hb1.out⟩
          · show Ending.returned (.tuple #[.slice a1 xs.length cc1, .int .i64 5]) = _; rw [Hs.out]
          · rw [Hs.out]; exact (owns_row (sz := 2) (enc := encPort) (fun _ => rfl) Ow.out (by omega)).1
          · exact fun h => (hc1 h).2
        | succ k =>
          first
            | exfalso; omega
            | have q1 : (((xs.length : Nat) : Int) == (R : Int)) = false := by simp; omega
              rw [hM] at q1
              have Hs := Lib.hid (show L = ((xs ++ [y]) ++ (runGo p pos k y).1, (runGo p pos k y).2) by rw [hrel2.out, run_go e0, ← hy]; simp)
              have hxl : xs.length ≤ 1000 := by omega
              clear hrel2 e0 hys hy
              go_wp2_with fail
              refine HS.out.mono ?_
              rintro en w1 ⟨rfl, hb1⟩
              have hz1 := hb1.size
              have Own1 := Lib.hid (owns_below Own.out (hb1.alloc hb1.size (.cells #[.int .i64 y.e, .int .i64 y.n] 30)))
              have Hq1 := Lib.hid ((Hq.out.below hb1).alloc (.cells #[.int .i64 y.e, .int .i64 y.n] 30))
              have HO1 := Lib.hid ((HO.out.below hb1).alloc (.cells #[.int .i64 y.e, .int .i64 y.n] 30))
              have Hy1 := Lib.hid (qbox_new w1 y)
              have Hb1 := Lib.hid (below_step Hb.out (hb1.alloc hb1.size (.cells #[.int .i64 y.e, .int .i64 y.n] 30)) hz)
              have hne := fun k => Own.out.lt k
              clear hb1 c0 c1 c2 c3 c4 c5 c6 c7 c8
              obtain ⟨_, y0, y1, _⟩ := Hy1.out.box
              go_wp2_with (at_builtin; refine wpList_append_own _ rfl _ _ 42 rfl (w.heap.size + 2) 30 ii (.agg #[.int .i64 0, .int .i64 0]) 2 16 Try.underlying42 hii zi1 zi2 zi3 rfl (by decide) _ _ _ rfl (Own1.out.alloc _) ⟨w1.heap.size + 1, 0, none⟩ 1 1 [.int .i64 y.e, .int .i64 y.n] rfl rfl (by simpa using news_new (w1.alloc (.cells #[.int .i64 y.e, .int .i64 y.n] 30)) #[.int .i64 y.e, .int .i64 y.n] 30) (one_port' y) (by simp [maxLen]; omega) (by omega) (by simp; omega) ?_)
              intro v' w4 hown4 hgrow4 _
              have Hq4 := Lib.hid ((Hq1.out.alloc (.cells #[.int .i64 y.e, .int .i64 y.n] 30)).grown hgrow4 (own_ne (Own1.out.alloc (.cells #[.int .i64 y.e, .int .i64 y.n] 30)) (by omega)))
              have HO4 := Lib.hid ((HO1.out.alloc (.cells #[.int .i64 y.e, .int .i64 y.n] 30)).grown hgrow4 (fun k hk => by have := (hne _ hk).1; omega))
              have Hy4 := Lib.hid ((Hy1.out.alloc (.cells #[.int .i64 y.e, .int .i64 y.n] 30)).grown hgrow4 (fun hk => by have := (hne _ hk.symm).2; omega))
              have Hb4 := Lib.hid (grown_below (Hb1.out.alloc Hb1.out.size (.cells #[.int .i64 y.e, .int .i64 y.n] 30)) (Own1.out.alloc (.cells #[.int .i64 y.e, .int .i64 y.n] 30)) (by omega) (by simp; omega) hgrow4)
              have Own4 := Lib.hid hown4
              clear hown4 hgrow4 y0 y1 x0 x1
              obtain ⟨_, y0, y1, _⟩ := Hy4.out.box
              obtain ⟨_, x0, x1, f0, f1⟩ := Hq4.out.box
              go_wp2_with fail
              go_roundg k
              case measure => omega
              case rel =>
                refine ⟨xs ++ [y], y, ?_, Hs.out, ?_, ((HO4.out.far (by omega) _ _).far (by omega) _ _), Hq4.out.put y, below_set2 Hb4.out (by omega) _ _⟩
                · simp; omega
                · rw [List.length_append, List.length_singleton, ← flat_snoc]
                  exact own_low (by omega) (own_low (by omega) Own4.out _) _
      · have Hs := Lib.hid (show L = (xs, (step p pos h').2) by rw [hrel2.out, run_stop e0]; simp)
        obtain ⟨ye, yn, s2, hss⟩ : ∃ ye yn s2, step p pos h' = (⟨ye, yn⟩, s2) := ⟨_, _, _, rfl⟩
        have q0 : (s2 != 0) = true := by rw [hss] at e0; simpa [bne_iff_ne] using e0
        rw [hss] at HS Hs
        dsimp only at HS Hs
        clear hrel2 e0 hss hk
        go_wp2_with fail
        refine HS.out.mono ?_
        rintro en w1 ⟨rfl, hb1⟩
        have Hb1 := Lib.hid (below_step Hb.out (hb1.alloc hb1.size (.cells #[.int .i64 ye, .int .i64 yn] 30)) hz)
        have Ow := Lib.hid (owns_below Own.out (hb1.alloc hb1.size (.cells #[.int .i64 ye, .int .i64 yn] 30)))
        clear hb1
        go_wp2_with fail
        go_ret2
        refine ⟨a1, xs.length, cc1, ?_, ?_, ?_, Hb1.out⟩
        · show Ending.returned (.tuple #[.slice a1 xs.length cc1, .int .i64 s2]) = _; rw [Hs.out]
        · rw [Hs.out]; exact (owns_row (sz := 2) (enc := encPort) (fun _ => rfl) Ow.out (by omega)).1
        · exact fun h => (hc1 h).2
end Go.Proofs.Ytackcfoplhhnbaa
