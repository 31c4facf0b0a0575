/- Walks of walk.Turn, Back and of semaphoreref6.Turn, Back. Condition: the receiver is a net; the plan is read. -/
import Derived.Test.YtackcfoplhhnbaaWalkW1
set_option maxRecDepth 1000000
namespace Go.Proofs.Ytackcfoplhhnbaa
open Go.ChangeShapes Go.WideShapes Go.ChangeAt Go.RowKit Go.Sort

theorem turn_no {p : Plan} {pos : List Int} {h : Port} (ht : through p h.e h.n (lies pos h.e) = none) : turn p pos h = none := by unfold turn; rw [ht]; rfl
theorem turn_go {p : Plan} {pos : List Int} {h : Port} {o : Int} (ht : through p h.e h.n (lies pos h.e) = some o) : turn p pos h = some ⟨h.e, o⟩ := by unfold turn; rw [ht]; rfl
theorem back_no {p : Plan} {pos : List Int} {h : Port} (ht : through p h.e h.n (lies pos h.e) = none) : back p pos h = none := by unfold back; rw [turn_no ht]; rfl
theorem back_go {p : Plan} {pos : List Int} {h : Port} {o : Int} (ht : through p h.e h.n (lies pos h.e) = some o) : back p pos h = nextOf p ⟨h.e, o⟩ := by unfold back; rw [turn_go ht]; rfl
set_option maxHeartbeats 2000000 in
theorem nturn_any (w : World) (b : Nat) (p : Plan) (hn : NetAt w b p) (a : Option Addr) (n c : Nat) (pos : List Int) (hr : Hid (Ints w a n pos)) (h : Port) :
    Calls Try.prog 23 #[.pointer (some ⟨b, 0, none⟩), .slice a n c, h.val] w fun en w' => en = .returned (.tuple #[.agg #[.int .i64 ((turn p pos h).getD zeroPort).e, .int .i64 ((turn p pos h).getD zeroPort).n], .bool (turn p pos h).isSome]) ∧ Below w.heap.size w w' := by
  have hP := Lib.hid hn
  have Hba := Lib.hid (show Below w.heap.size w ((w.alloc (.cells #[.int .i64 h.e, .int .i64 h.n] 30)).alloc (.cells #[.int .i64 0, .int .i64 0] 30)) from below_new2 w _ _)
  have HXa := Lib.hid ((PortBox.new w rfl h 30).below (below_new _ (.cells #[.int .i64 0, .int .i64 0] 30)))
  have HZa := Lib.hid (zbox_new (w.alloc (.cells #[.int .i64 h.e, .int .i64 h.n] 30)) (b := w.heap.size + 1) (by simp) 30)
  have HF := Lib.hid (fun (u : World) (hb : Below w.heap.size w u) => nfrom_any u b p (hP.out.below hb) h.e h.n (lies pos h.e))
  clear hn
  dsimp only [Port.val]
  obtain ⟨_, x0, x1, _⟩ := HXa.out
  cases ht : through p h.e h.n (lies pos h.e) with
  | none =>
    have Hs := Lib.hid (turn_no ht)
    rw [ht] at HF
    dsimp only [Option.getD_none, Option.isSome_none] at HF
    clear ht
    go_enter Try.func23, Try.ntmps23
    go_wp2_with fail
    have x0q := fun d os => cell_regrown x0 d os
    have x1q := fun d os => cell_regrown x1 d os
    have cq0 : ∀ d os, Calls Try.prog 53 #[.slice a n c, .int .i64 h.e] (grow (redrawn ((w.alloc (.cells #[.int .i64 h.e, .int .i64 h.n] 30)).alloc (.cells #[.int .i64 0, .int .i64 0] 30)) d) os) fun e w'' => e = .returned (.int .i64 (lies pos h.e)) ∧ ∃ rg : Regrown, w'' = grow (redrawn ((w.alloc (.cells #[.int .i64 h.e, .int .i64 h.n] 30)).alloc (.cells #[.int .i64 0, .int .i64 0] 30)) rg.d) rg.os := fun d os => Calls.regrown_of (nlies_b (hr.out.below (below_step Hba.out (below_regrown _ d os) Hba.out.size)) h.e)
    have cq1 : ∀ d os, Calls Try.prog 58 #[.pointer (some ⟨b, 0, none⟩), .int .i64 h.e, .int .i64 h.n, .int .i64 (lies pos h.e)] (grow (redrawn ((w.alloc (.cells #[.int .i64 h.e, .int .i64 h.n] 30)).alloc (.cells #[.int .i64 0, .int .i64 0] 30)) d) os) fun e w'' => e = .returned (.tuple #[.int .i64 0, .bool false]) ∧ ∃ rg : Regrown, w'' = grow (redrawn ((w.alloc (.cells #[.int .i64 h.e, .int .i64 h.n] 30)).alloc (.cells #[.int .i64 0, .int .i64 0] 30)) rg.d) rg.os := fun d os => Calls.regrown_of (HF.out _ (below_step Hba.out (below_regrown _ d os) Hba.out.size))
    refine wp_region_quiet_below (by kernel_rfl) (by kernel_rfl) ?_
    repeat (quiet_step (first | with_reducible exact cq0 _ _ | with_reducible exact cq1 _ _))
    refine wpQuiet_nil ?_
    intro w1 hw'
    have hb1 : Below ((w.alloc (.cells #[.int .i64 h.e, .int .i64 h.n] 30)).alloc (.cells #[.int .i64 0, .int .i64 0] 30)).heap.size ((w.alloc (.cells #[.int .i64 h.e, .int .i64 h.n] 30)).alloc (.cells #[.int .i64 0, .int .i64 0] 30)) w1 := by obtain ⟨⟨d, os⟩, rfl⟩ := hw'; exact below_regrown _ d os
    clear hw' x0q x1q cq0 cq1
    have Hb1 := Lib.hid (below_step Hba.out hb1 Hba.out.size)
    have HZ1 := Lib.hid (HZa.out.below hb1)
    have HX1 := Lib.hid (HXa.out.below hb1)
    clear hb1 x0 x1
    obtain ⟨zl, z0, z1, zf0, zf1⟩ := HZ1.out
    obtain ⟨xl, x0, x1, _⟩ := HX1.out
    go_wp2_with fail
    exact bodyPost_ret (v := .tuple #[.agg #[.int .i64 0, .int .i64 0], .bool false]) (by simp [results, Try.results23, go_sem, z0, z1]) rfl ⟨opt_none Hs.out, below_set2 Hb1.out (by omega) _ _⟩
  | some o =>
    have Hs := Lib.hid (turn_go ht)
    rw [ht] at HF
    dsimp only [Option.getD_some, Option.isSome_some] at HF
    clear ht
    go_enter Try.func23, Try.ntmps23
    go_wp2_with fail
    have x0q := fun d os => cell_regrown x0 d os
    have x1q := fun d os => cell_regrown x1 d os
    have cq0 : ∀ d os, Calls Try.prog 53 #[.slice a n c, .int .i64 h.e] (grow (redrawn ((w.alloc (.cells #[.int .i64 h.e, .int .i64 h.n] 30)).alloc (.cells #[.int .i64 0, .int .i64 0] 30)) d) os) fun e w'' => e = .returned (.int .i64 (lies pos h.e)) ∧ ∃ rg : Regrown, w'' = grow (redrawn ((w.alloc (.cells #[.int .i64 h.e, .int .i64 h.n] 30)).alloc (.cells #[.int .i64 0, .int .i64 0] 30)) rg.d) rg.os := fun d os => Calls.regrown_of (nlies_b (hr.out.below (below_step Hba.out (below_regrown _ d os) Hba.out.size)) h.e)
    have cq1 : ∀ d os, Calls Try.prog 58 #[.pointer (some ⟨b, 0, none⟩), .int .i64 h.e, .int .i64 h.n, .int .i64 (lies pos h.e)] (grow (redrawn ((w.alloc (.cells #[.int .i64 h.e, .int .i64 h.n] 30)).alloc (.cells #[.int .i64 0, .int .i64 0] 30)) d) os) fun e w'' => e = .returned (.tuple #[.int .i64 o, .bool true]) ∧ ∃ rg : Regrown, w'' = grow (redrawn ((w.alloc (.cells #[.int .i64 h.e, .int .i64 h.n] 30)).alloc (.cells #[.int .i64 0, .int .i64 0] 30)) rg.d) rg.os := fun d os => Calls.regrown_of (HF.out _ (below_step Hba.out (below_regrown _ d os) Hba.out.size))
    refine wp_region_quiet_below (by kernel_rfl) (by kernel_rfl) ?_
    repeat (quiet_step (first | with_reducible exact cq0 _ _ | with_reducible exact cq1 _ _))
    refine wpQuiet_nil ?_
    intro w1 hw'
    have hb1 : Below ((w.alloc (.cells #[.int .i64 h.e, .int .i64 h.n] 30)).alloc (.cells #[.int .i64 0, .int .i64 0] 30)).heap.size ((w.alloc (.cells #[.int .i64 h.e, .int .i64 h.n] 30)).alloc (.cells #[.int .i64 0, .int .i64 0] 30)) w1 := by obtain ⟨⟨d, os⟩, rfl⟩ := hw'; exact below_regrown _ d os
    clear hw' x0q x1q cq0 cq1
    have Hb1 := Lib.hid (below_step Hba.out hb1 Hba.out.size)
    have HZ1 := Lib.hid (HZa.out.below hb1)
    have HX1 := Lib.hid (HXa.out.below hb1)
    clear hb1 x0 x1
    obtain ⟨zl, z0, z1, zf0, zf1⟩ := HZ1.out
    obtain ⟨xl, x0, x1, _⟩ := HX1.out
    go_wp2_with fail
    exact bodyPost_ret (v := .tuple #[.agg #[.int .i64 h.e, .int .i64 o], .bool true]) (by simp [results, Try.results23, go_sem, z0, z1]) rfl ⟨opt_some Hs.out, below_set2 Hb1.out (by omega) _ _⟩
set_option maxHeartbeats 2000000 in
theorem nback_any (w : World) (b : Nat) (p : Plan) (hn : NetAt w b p) (a : Option Addr) (n c : Nat) (pos : List Int) (hr : Hid (Ints w a n pos)) (h : Port) (hw : h.wf) :
    Calls Try.prog 21 #[.pointer (some ⟨b, 0, none⟩), .slice a n c, h.val] w fun en w' => en = .returned (.tuple #[.agg #[.int .i64 ((back p pos h).getD zeroPort).e, .int .i64 ((back p pos h).getD zeroPort).n], .bool (back p pos h).isSome]) ∧ Below w.heap.size w w' := by
  have hP := Lib.hid hn
  have Hba := Lib.hid (show Below w.heap.size w ((w.alloc (.cells #[.int .i64 h.e, .int .i64 h.n] 30)).alloc (.cells #[.int .i64 0, .int .i64 0] 30)) from below_new2 w _ _)
  have HXa := Lib.hid ((PortBox.new w rfl h 30).below (below_new _ (.cells #[.int .i64 0, .int .i64 0] 30)))
  have HZa := Lib.hid (zbox_new (w.alloc (.cells #[.int .i64 h.e, .int .i64 h.n] 30)) (b := w.heap.size + 1) (by simp) 30)
  have HF := Lib.hid (fun (u : World) (hb : Below w.heap.size w u) => nfrom_any u b p (hP.out.below hb) h.e h.n (lies pos h.e))
  clear hn
  dsimp only [Port.val]
  obtain ⟨_, x0, x1, _⟩ := HXa.out
  cases ht : through p h.e h.n (lies pos h.e) with
  | none =>
    have Hs := Lib.hid (back_no ht)
    rw [ht] at HF
    dsimp only [Option.getD_none, Option.isSome_none] at HF
    clear ht
    go_enter Try.func21, Try.ntmps21
    go_wp2_with fail
    have x0q := fun d os => cell_regrown x0 d os
    have x1q := fun d os => cell_regrown x1 d os
    have cq0 : ∀ d os, Calls Try.prog 53 #[.slice a n c, .int .i64 h.e] (grow (redrawn ((w.alloc (.cells #[.int .i64 h.e, .int .i64 h.n] 30)).alloc (.cells #[.int .i64 0, .int .i64 0] 30)) d) os) fun e w'' => e = .returned (.int .i64 (lies pos h.e)) ∧ ∃ rg : Regrown, w'' = grow (redrawn ((w.alloc (.cells #[.int .i64 h.e, .int .i64 h.n] 30)).alloc (.cells #[.int .i64 0, .int .i64 0] 30)) rg.d) rg.os := fun d os => Calls.regrown_of (nlies_b (hr.out.below (below_step Hba.out (below_regrown _ d os) Hba.out.size)) h.e)
    have cq1 : ∀ d os, Calls Try.prog 58 #[.pointer (some ⟨b, 0, none⟩), .int .i64 h.e, .int .i64 h.n, .int .i64 (lies pos h.e)] (grow (redrawn ((w.alloc (.cells #[.int .i64 h.e, .int .i64 h.n] 30)).alloc (.cells #[.int .i64 0, .int .i64 0] 30)) d) os) fun e w'' => e = .returned (.tuple #[.int .i64 0, .bool false]) ∧ ∃ rg : Regrown, w'' = grow (redrawn ((w.alloc (.cells #[.int .i64 h.e, .int .i64 h.n] 30)).alloc (.cells #[.int .i64 0, .int .i64 0] 30)) rg.d) rg.os := fun d os => Calls.regrown_of (HF.out _ (below_step Hba.out (below_regrown _ d os) Hba.out.size))
    refine wp_region_quiet_below (by kernel_rfl) (by kernel_rfl) ?_
    repeat (quiet_step (first | with_reducible exact cq0 _ _ | with_reducible exact cq1 _ _))
    refine wpQuiet_nil ?_
    intro w1 hw'
    have hb1 : Below ((w.alloc (.cells #[.int .i64 h.e, .int .i64 h.n] 30)).alloc (.cells #[.int .i64 0, .int .i64 0] 30)).heap.size ((w.alloc (.cells #[.int .i64 h.e, .int .i64 h.n] 30)).alloc (.cells #[.int .i64 0, .int .i64 0] 30)) w1 := by obtain ⟨⟨d, os⟩, rfl⟩ := hw'; exact below_regrown _ d os
    clear hw' x0q x1q cq0 cq1
    have Hb1 := Lib.hid (below_step Hba.out hb1 Hba.out.size)
    have HZ1 := Lib.hid (HZa.out.below hb1)
    have HX1 := Lib.hid (HXa.out.below hb1)
    clear hb1 x0 x1
    obtain ⟨zl, z0, z1, zf0, zf1⟩ := HZ1.out
    obtain ⟨xl, x0, x1, _⟩ := HX1.out
    go_wp2_with fail
    exact bodyPost_ret (v := .tuple #[.agg #[.int .i64 0, .int .i64 0], .bool false]) (by simp [results, Try.results21, go_sem, z0, z1]) rfl ⟨opt_none Hs.out, below_set2 Hb1.out (by omega) _ _⟩
  | some o =>
    have Hs := Lib.hid (back_go ht)
    have HG := Lib.hid (fun (u : World) (hb : Below w.heap.size w u) => nnext_any u b p (hP.out.below hb) ⟨h.e, o⟩ ⟨hw.1, through_wf ht⟩)
    rw [← Hs.out] at HG
    obtain ⟨y, hy⟩ : ∃ y, y = (back p pos h).getD zeroPort := ⟨_, rfl⟩
    obtain ⟨oy, hoy⟩ : ∃ o, o = (back p pos h).isSome := ⟨_, rfl⟩
    rw [← hy, ← hoy] at HG ⊢
    dsimp only [Port.val] at HG
    clear hy hoy Hs
    rw [ht] at HF
    dsimp only [Option.getD_some, Option.isSome_some] at HF
    clear ht
    go_enter Try.func21, Try.ntmps21
    go_wp2_with fail
    have x0q := fun d os => cell_regrown x0 d os
    have x1q := fun d os => cell_regrown x1 d os
    have cq0 : ∀ d os, Calls Try.prog 53 #[.slice a n c, .int .i64 h.e] (grow (redrawn ((w.alloc (.cells #[.int .i64 h.e, .int .i64 h.n] 30)).alloc (.cells #[.int .i64 0, .int .i64 0] 30)) d) os) fun e w'' => e = .returned (.int .i64 (lies pos h.e)) ∧ ∃ rg : Regrown, w'' = grow (redrawn ((w.alloc (.cells #[.int .i64 h.e, .int .i64 h.n] 30)).alloc (.cells #[.int .i64 0, .int .i64 0] 30)) rg.d) rg.os := fun d os => Calls.regrown_of (nlies_b (hr.out.below (below_step Hba.out (below_regrown _ d os) Hba.out.size)) h.e)
    have cq1 : ∀ d os, Calls Try.prog 58 #[.pointer (some ⟨b, 0, none⟩), .int .i64 h.e, .int .i64 h.n, .int .i64 (lies pos h.e)] (grow (redrawn ((w.alloc (.cells #[.int .i64 h.e, .int .i64 h.n] 30)).alloc (.cells #[.int .i64 0, .int .i64 0] 30)) d) os) fun e w'' => e = .returned (.tuple #[.int .i64 o, .bool true]) ∧ ∃ rg : Regrown, w'' = grow (redrawn ((w.alloc (.cells #[.int .i64 h.e, .int .i64 h.n] 30)).alloc (.cells #[.int .i64 0, .int .i64 0] 30)) rg.d) rg.os := fun d os => Calls.regrown_of (HF.out _ (below_step Hba.out (below_regrown _ d os) Hba.out.size))
    refine wp_region_quiet_below (by kernel_rfl) (by kernel_rfl) ?_
    repeat (quiet_step (first | with_reducible exact cq0 _ _ | with_reducible exact cq1 _ _))
    refine wpQuiet_nil ?_
    intro w1 hw'
    have hb1 : Below ((w.alloc (.cells #[.int .i64 h.e, .int .i64 h.n] 30)).alloc (.cells #[.int .i64 0, .int .i64 0] 30)).heap.size ((w.alloc (.cells #[.int .i64 h.e, .int .i64 h.n] 30)).alloc (.cells #[.int .i64 0, .int .i64 0] 30)) w1 := by obtain ⟨⟨d, os⟩, rfl⟩ := hw'; exact below_regrown _ d os
    clear hw' x0q x1q cq0 cq1
    have Hb1 := Lib.hid (below_step Hba.out hb1 Hba.out.size)
    have HZ1 := Lib.hid (HZa.out.below hb1)
    have HX1 := Lib.hid (HXa.out.below hb1)
    clear hb1 x0 x1
    obtain ⟨zl, z0, z1, zf0, zf1⟩ := HZ1.out
    obtain ⟨xl, x0, x1, _⟩ := HX1.out
    go_wp2_with fail
    refine (HG.out w1 Hb1.out).mono ?_
    rintro en w3 ⟨rfl, hb3⟩
    have Hb3 := Lib.hid (below_step Hb1.out hb3 Hb1.out.size)
    have HZ3 := Lib.hid (HZ1.out.below hb3)
    clear hb3 zl z0 z1 zf0 zf1
    obtain ⟨zl, z0, z1, zf0, zf1⟩ := HZ3.out
    go_wp2_with fail
    exact bodyPost_ret (v := .tuple #[.agg #[.int .i64 y.e, .int .i64 y.n], .bool oy]) (by simp [results, Try.results21, go_sem, z0, z1]) rfl ⟨rfl, below_set2 Hb3.out (by omega) _ _⟩
set_option maxHeartbeats 2000000 in
theorem refturn_any (w : World) (pv : PV) (p : Plan) (hp : PlanAt w pv p) (a : Option Addr) (n c : Nat) (pos : List Int) (hr : Hid (Ints w a n pos)) (h : Port) :
    Calls Try.prog 24 #[pv.val p, .slice a n c, h.val] w fun en w' => en = .returned (.tuple #[.agg #[.int .i64 ((turn p pos h).getD zeroPort).e, .int .i64 ((turn p pos h).getD zeroPort).n], .bool (turn p pos h).isSome]) ∧ Below w.heap.size w w' := by
  obtain ⟨ae, ne, ce, aj, nj, cj, as_, ns, cs, al, nl, cl, lv⟩ := pv
  have hP := Lib.hid hp
  have HBa := Lib.hid (((pbox_new w ⟨ae, ne, ce, aj, nj, cj, as_, ns, cs, al, nl, cl, lv⟩ p).below (below_new _ (.cells #[.int .i64 h.e, .int .i64 h.n] 30))).below (below_new _ (.cells #[.int .i64 0, .int .i64 0] 30)))
  have Hba := Lib.hid (show Below w.heap.size w (((w.alloc (.cells #[.slice ae ne ce, .slice aj nj cj, .slice as_ ns cs, .slice al nl cl, .int .i64 p.top, .int .i64 p.brake, .int .i64 p.margin, .int .i64 p.throw, .bool p.hard] 27)).alloc (.cells #[.int .i64 h.e, .int .i64 h.n] 30)).alloc (.cells #[.int .i64 0, .int .i64 0] 30)) from (below_new2 w _ _).alloc (by simp <;> omega) _)
  have HXa := Lib.hid ((PortBox.new (w.alloc (.cells #[.slice ae ne ce, .slice aj nj cj, .slice as_ ns cs, .slice al nl cl, .int .i64 p.top, .int .i64 p.brake, .int .i64 p.margin, .int .i64 p.throw, .bool p.hard] 27)) (b := w.heap.size + 1) (by simp) h 30).below (below_new _ (.cells #[.int .i64 0, .int .i64 0] 30)))
  have HZa := Lib.hid (zbox_new ((w.alloc (.cells #[.slice ae ne ce, .slice aj nj cj, .slice as_ ns cs, .slice al nl cl, .int .i64 p.top, .int .i64 p.brake, .int .i64 p.margin, .int .i64 p.throw, .bool p.hard] 27)).alloc (.cells #[.int .i64 h.e, .int .i64 h.n] 30)) (b := w.heap.size + 1 + 1) (by simp) 30)
  have HF := Lib.hid (fun (u : World) (hb : Below w.heap.size w u) => reffrom_l (w := u) (e := h.e) (i := h.n) (pos := refLies pos h.e) (hP.out.below hb))
  clear hp
  dsimp only [PV.val, Port.val]
  obtain ⟨_, c0, c1, c2, c3, c4, c5, c6, c7, c8⟩ := HBa.out
  dsimp only at c0 c1 c2 c3
  obtain ⟨_, x0, x1, _⟩ := HXa.out
  cases ht : through p h.e h.n (lies pos h.e) with
  | none =>
    have Hs := Lib.hid (turn_no ht)
    have ht2 : through p h.e h.n (refLies pos h.e) = none := by rw [ref_through]; exact ht
    rw [ht2] at HF
    clear ht2
    dsimp only [Option.getD_none, Option.isSome_none] at HF
    clear ht
    go_enter Try.func24, Try.ntmps24
    go_wp2_with fail
    have c0q := fun d os => cell_regrown c0 d os
    have c1q := fun d os => cell_regrown c1 d os
    have c2q := fun d os => cell_regrown c2 d os
    have c3q := fun d os => cell_regrown c3 d os
    have c4q := fun d os => cell_regrown c4 d os
    have c5q := fun d os => cell_regrown c5 d os
    have c6q := fun d os => cell_regrown c6 d os
    have c7q := fun d os => cell_regrown c7 d os
    have c8q := fun d os => cell_regrown c8 d os
    have x0q := fun d os => cell_regrown x0 d os
    have x1q := fun d os => cell_regrown x1 d os
    have cq0 : ∀ d os, Calls Try.prog 57 #[.slice a n c, .int .i64 h.e] (grow (redrawn (((w.alloc (.cells #[.slice ae ne ce, .slice aj nj cj, .slice as_ ns cs, .slice al nl cl, .int .i64 p.top, .int .i64 p.brake, .int .i64 p.margin, .int .i64 p.throw, .bool p.hard] 27)).alloc (.cells #[.int .i64 h.e, .int .i64 h.n] 30)).alloc (.cells #[.int .i64 0, .int .i64 0] 30)) d) os) fun e w'' => e = .returned (.int .i64 (refLies pos h.e)) ∧ ∃ rg : Regrown, w'' = grow (redrawn (((w.alloc (.cells #[.slice ae ne ce, .slice aj nj cj, .slice as_ ns cs, .slice al nl cl, .int .i64 p.top, .int .i64 p.brake, .int .i64 p.margin, .int .i64 p.throw, .bool p.hard] 27)).alloc (.cells #[.int .i64 h.e, .int .i64 h.n] 30)).alloc (.cells #[.int .i64 0, .int .i64 0] 30)) rg.d) rg.os := fun d os => Calls.regrown_of (reflies_b (hr.out.below (below_step Hba.out (below_regrown _ d os) Hba.out.size)) h.e)
    have cq1 : ∀ d os, Calls Try.prog 59 #[.agg #[.slice ae ne ce, .slice aj nj cj, .slice as_ ns cs, .slice al nl cl, .int .i64 p.top, .int .i64 p.brake, .int .i64 p.margin, .int .i64 p.throw, .bool p.hard], .int .i64 h.e, .int .i64 h.n, .int .i64 (refLies pos h.e)] (grow (redrawn (((w.alloc (.cells #[.slice ae ne ce, .slice aj nj cj, .slice as_ ns cs, .slice al nl cl, .int .i64 p.top, .int .i64 p.brake, .int .i64 p.margin, .int .i64 p.throw, .bool p.hard] 27)).alloc (.cells #[.int .i64 h.e, .int .i64 h.n] 30)).alloc (.cells #[.int .i64 0, .int .i64 0] 30)) d) os) fun e w'' => e = .returned (.tuple #[.int .i64 0, .bool false]) ∧ ∃ rg : Regrown, w'' = grow (redrawn (((w.alloc (.cells #[.slice ae ne ce, .slice aj nj cj, .slice as_ ns cs, .slice al nl cl, .int .i64 p.top, .int .i64 p.brake, .int .i64 p.margin, .int .i64 p.throw, .bool p.hard] 27)).alloc (.cells #[.int .i64 h.e, .int .i64 h.n] 30)).alloc (.cells #[.int .i64 0, .int .i64 0] 30)) rg.d) rg.os := fun d os => Calls.regrown_of (HF.out _ (below_step Hba.out (below_regrown _ d os) Hba.out.size))
    refine wp_region_quiet_below (by kernel_rfl) (by kernel_rfl) ?_
    repeat (quiet_step (first | with_reducible exact cq0 _ _ | with_reducible exact cq1 _ _))
    refine wpQuiet_nil ?_
    intro w1 hw'
    have hb1 : Below (((w.alloc (.cells #[.slice ae ne ce, .slice aj nj cj, .slice as_ ns cs, .slice al nl cl, .int .i64 p.top, .int .i64 p.brake, .int .i64 p.margin, .int .i64 p.throw, .bool p.hard] 27)).alloc (.cells #[.int .i64 h.e, .int .i64 h.n] 30)).alloc (.cells #[.int .i64 0, .int .i64 0] 30)).heap.size (((w.alloc (.cells #[.slice ae ne ce, .slice aj nj cj, .slice as_ ns cs, .slice al nl cl, .int .i64 p.top, .int .i64 p.brake, .int .i64 p.margin, .int .i64 p.throw, .bool p.hard] 27)).alloc (.cells #[.int .i64 h.e, .int .i64 h.n] 30)).alloc (.cells #[.int .i64 0, .int .i64 0] 30)) w1 := by obtain ⟨⟨d, os⟩, rfl⟩ := hw'; exact below_regrown _ d os
    clear hw' c0q c1q c2q c3q c4q c5q c6q c7q c8q x0q x1q cq0 cq1
    have Hb1 := Lib.hid (below_step Hba.out hb1 Hba.out.size)
    have HZ1 := Lib.hid (HZa.out.below hb1)
    have HX1 := Lib.hid (HXa.out.below hb1)
    clear hb1 x0 x1 c0 c1 c2 c3 c4 c5 c6 c7 c8
    obtain ⟨zl, z0, z1, zf0, zf1⟩ := HZ1.out
    obtain ⟨xl, x0, x1, _⟩ := HX1.out
    go_wp2_with fail
    exact bodyPost_ret (v := .tuple #[.agg #[.int .i64 0, .int .i64 0], .bool false]) (by simp [results, Try.results24, go_sem, z0, z1]) rfl ⟨opt_none Hs.out, below_set2 Hb1.out (by omega) _ _⟩
  | some o =>
    have Hs := Lib.hid (turn_go ht)
    have ht2 : through p h.e h.n (refLies pos h.e) = some o := by rw [ref_through]; exact ht
    rw [ht2] at HF
    clear ht2
    dsimp only [Option.getD_some, Option.isSome_some] at HF
    clear ht
    go_enter Try.func24, Try.ntmps24
    go_wp2_with fail
    have c0q := fun d os => cell_regrown c0 d os
    have c1q := fun d os => cell_regrown c1 d os
    have c2q := fun d os => cell_regrown c2 d os
    have c3q := fun d os => cell_regrown c3 d os
    have c4q := fun d os => cell_regrown c4 d os
    have c5q := fun d os => cell_regrown c5 d os
    have c6q := fun d os => cell_regrown c6 d os
    have c7q := fun d os => cell_regrown c7 d os
    have c8q := fun d os => cell_regrown c8 d os
    have x0q := fun d os => cell_regrown x0 d os
    have x1q := fun d os => cell_regrown x1 d os
    have cq0 : ∀ d os, Calls Try.prog 57 #[.slice a n c, .int .i64 h.e] (grow (redrawn (((w.alloc (.cells #[.slice ae ne ce, .slice aj nj cj, .slice as_ ns cs, .slice al nl cl, .int .i64 p.top, .int .i64 p.brake, .int .i64 p.margin, .int .i64 p.throw, .bool p.hard] 27)).alloc (.cells #[.int .i64 h.e, .int .i64 h.n] 30)).alloc (.cells #[.int .i64 0, .int .i64 0] 30)) d) os) fun e w'' => e = .returned (.int .i64 (refLies pos h.e)) ∧ ∃ rg : Regrown, w'' = grow (redrawn (((w.alloc (.cells #[.slice ae ne ce, .slice aj nj cj, .slice as_ ns cs, .slice al nl cl, .int .i64 p.top, .int .i64 p.brake, .int .i64 p.margin, .int .i64 p.throw, .bool p.hard] 27)).alloc (.cells #[.int .i64 h.e, .int .i64 h.n] 30)).alloc (.cells #[.int .i64 0, .int .i64 0] 30)) rg.d) rg.os := fun d os => Calls.regrown_of (reflies_b (hr.out.below (below_step Hba.out (below_regrown _ d os) Hba.out.size)) h.e)
    have cq1 : ∀ d os, Calls Try.prog 59 #[.agg #[.slice ae ne ce, .slice aj nj cj, .slice as_ ns cs, .slice al nl cl, .int .i64 p.top, .int .i64 p.brake, .int .i64 p.margin, .int .i64 p.throw, .bool p.hard], .int .i64 h.e, .int .i64 h.n, .int .i64 (refLies pos h.e)] (grow (redrawn (((w.alloc (.cells #[.slice ae ne ce, .slice aj nj cj, .slice as_ ns cs, .slice al nl cl, .int .i64 p.top, .int .i64 p.brake, .int .i64 p.margin, .int .i64 p.throw, .bool p.hard] 27)).alloc (.cells #[.int .i64 h.e, .int .i64 h.n] 30)).alloc (.cells #[.int .i64 0, .int .i64 0] 30)) d) os) fun e w'' => e = .returned (.tuple #[.int .i64 o, .bool true]) ∧ ∃ rg : Regrown, w'' = grow (redrawn (((w.alloc (.cells #[.slice ae ne ce, .slice aj nj cj, .slice as_ ns cs, .slice al nl cl, .int .i64 p.top, .int .i64 p.brake, .int .i64 p.margin, .int .i64 p.throw, .bool p.hard] 27)).alloc (.cells #[.int .i64 h.e, .int .i64 h.n] 30)).alloc (.cells #[.int .i64 0, .int .i64 0] 30)) rg.d) rg.os := fun d os => Calls.regrown_of (HF.out _ (below_step Hba.out (below_regrown _ d os) Hba.out.size))
    refine wp_region_quiet_below (by kernel_rfl) (by kernel_rfl) ?_
    repeat (quiet_step (first | with_reducible exact cq0 _ _ | with_reducible exact cq1 _ _))
    refine wpQuiet_nil ?_
    intro w1 hw'
    have hb1 : Below (((w.alloc (.cells #[.slice ae ne ce, .slice aj nj cj, .slice as_ ns cs, .slice al nl cl, .int .i64 p.top, .int .i64 p.brake, .int .i64 p.margin, .int .i64 p.throw, .bool p.hard] 27)).alloc (.cells #[.int .i64 h.e, .int .i64 h.n] 30)).alloc (.cells #[.int .i64 0, .int .i64 0] 30)).heap.size (((w.alloc (.cells #[.slice ae ne ce, .slice aj nj cj, .slice as_ ns cs, .slice al nl cl, .int .i64 p.top, .int .i64 p.brake, .int .i64 p.margin, .int .i64 p.throw, .bool p.hard] 27)).alloc (.cells #[.int .i64 h.e, .int .i64 h.n] 30)).alloc (.cells #[.int .i64 0, .int .i64 0] 30)) w1 := by obtain ⟨⟨d, os⟩, rfl⟩ := hw'; exact below_regrown _ d os
    clear hw' c0q c1q c2q c3q c4q c5q c6q c7q c8q x0q x1q cq0 cq1
    have Hb1 := Lib.hid (below_step Hba.out hb1 Hba.out.size)
    have HZ1 := Lib.hid (HZa.out.below hb1)
    have HX1 := Lib.hid (HXa.out.below hb1)
    clear hb1 x0 x1 c0 c1 c2 c3 c4 c5 c6 c7 c8
    obtain ⟨zl, z0, z1, zf0, zf1⟩ := HZ1.out
    obtain ⟨xl, x0, x1, _⟩ := HX1.out
    go_wp2_with fail
    exact bodyPost_ret (v := .tuple #[.agg #[.int .i64 h.e, .int .i64 o], .bool true]) (by simp [results, Try.results24, go_sem, z0, z1]) rfl ⟨opt_some Hs.out, below_set2 Hb1.out (by omega) _ _⟩
set_option maxHeartbeats 2000000 in
theorem refback_any (w : World) (pv : PV) (p : Plan) (hp : PlanAt w pv p) (a : Option Addr) (n c : Nat) (pos : List Int) (hr : Hid (Ints w a n pos)) (h : Port) :
    Calls Try.prog 22 #[pv.val p, .slice a n c, h.val] w fun en w' => en = .returned (.tuple #[.agg #[.int .i64 ((back p pos h).getD zeroPort).e, .int .i64 ((back p pos h).getD zeroPort).n], .bool (back p pos h).isSome]) ∧ Below w.heap.size w w' := by
  obtain ⟨ae, ne, ce, aj, nj, cj, as_, ns, cs, al, nl, cl, lv⟩ := pv
  have hP := Lib.hid hp
  have HBa := Lib.hid (((pbox_new w ⟨ae, ne, ce, aj, nj, cj, as_, ns, cs, al, nl, cl, lv⟩ p).below (below_new _ (.cells #[.int .i64 h.e, .int .i64 h.n] 30))).below (below_new _ (.cells #[.int .i64 0, .int .i64 0] 30)))
  have Hba := Lib.hid (show Below w.heap.size w (((w.alloc (.cells #[.slice ae ne ce, .slice aj nj cj, .slice as_ ns cs, .slice al nl cl, .int .i64 p.top, .int .i64 p.brake, .int .i64 p.margin, .int .i64 p.throw, .bool p.hard] 27)).alloc (.cells #[.int .i64 h.e, .int .i64 h.n] 30)).alloc (.cells #[.int .i64 0, .int .i64 0] 30)) from (below_new2 w _ _).alloc (by simp <;> omega) _)
  have HXa := Lib.hid ((PortBox.new (w.alloc (.cells #[.slice ae ne ce, .slice aj nj cj, .slice as_ ns cs, .slice al nl cl, .int .i64 p.top, .int .i64 p.brake, .int .i64 p.margin, .int .i64 p.throw, .bool p.hard] 27)) (b := w.heap.size + 1) (by simp) h 30).below (below_new _ (.cells #[.int .i64 0, .int .i64 0] 30)))
  have HZa := Lib.hid (zbox_new ((w.alloc (.cells #[.slice ae ne ce, .slice aj nj cj, .slice as_ ns cs, .slice al nl cl, .int .i64 p.top, .int .i64 p.brake, .int .i64 p.margin, .int .i64 p.throw, .bool p.hard] 27)).alloc (.cells #[.int .i64 h.e, .int .i64 h.n] 30)) (b := w.heap.size + 1 + 1) (by simp) 30)
  have HF := Lib.hid (fun (u : World) (hb : Below w.heap.size w u) => refturn_any u ⟨ae, ne, ce, aj, nj, cj, as_, ns, cs, al, nl, cl, lv⟩ p (hP.out.below hb) a n c pos (Lib.hid (hr.out.below hb)) h)
  dsimp only [PV.val, Port.val] at HF
  clear hp
  dsimp only [PV.val, Port.val]
  obtain ⟨_, c0, c1, c2, c3, c4, c5, c6, c7, c8⟩ := HBa.out
  dsimp only at c0 c1 c2 c3
  obtain ⟨_, x0, x1, _⟩ := HXa.out
  cases ht : turn p pos h with
  | none =>
    have Hs := Lib.hid (show back p pos h = none by unfold back; rw [ht]; rfl)
    rw [ht] at HF
    dsimp only [Option.getD_none, Option.isSome_none, zeroPort] at HF
    clear ht
    go_enter Try.func22, Try.ntmps22
    go_wp2_with fail
    refine (HF.out _ Hba.out).mono ?_
    rintro en w1 ⟨rfl, hb1⟩
    have Hb1 := Lib.hid (below_step Hba.out hb1 Hba.out.size)
    have HZ1 := Lib.hid (HZa.out.below hb1)
    have HB1 := Lib.hid (HBa.out.below hb1)
    clear c0 c1 c2 c3 c4 c5 c6 c7 c8 x0 x1 hb1
    obtain ⟨zl, z0, z1, zf0, zf1⟩ := (show PortBox (w1.alloc (.cells #[.int .i64 0, .int .i64 0] 30)) (w.heap.size + 1 + 1) zeroPort from HZ1.out.below (below_new _ _))
    go_wp2_with fail
    exact bodyPost_ret (v := .tuple #[.agg #[.int .i64 0, .int .i64 0], .bool false]) (by simp [results, Try.results22, go_sem, z0, z1]) rfl ⟨opt_none Hs.out, below_set2 (below_step Hb1.out (below_new _ _) Hb1.out.size) (by omega) _ _⟩
  | some x =>
    have Hs := Lib.hid (show back p pos h = nextOf p x by unfold back; rw [ht]; rfl)
    rw [ht] at HF
    dsimp only [Option.getD_some, Option.isSome_some] at HF
    clear ht
    have HG := Lib.hid (fun (u : World) (hb : Below w.heap.size w u) => refnext_l (w := u) (a := x.e) (b := x.n) (hP.out.below hb))
    rw [show (⟨x.e, x.n⟩ : Port) = x from rfl, ← Hs.out] at HG
    obtain ⟨y, hy⟩ : ∃ y, y = (back p pos h).getD zeroPort := ⟨_, rfl⟩
    obtain ⟨oy, hoy⟩ : ∃ o, o = (back p pos h).isSome := ⟨_, rfl⟩
    rw [← hy, ← hoy] at HG ⊢
    clear hy hoy Hs
    go_enter Try.func22, Try.ntmps22
    go_wp2_with fail
    refine (HF.out _ Hba.out).mono ?_
    rintro en w1 ⟨rfl, hb1⟩
    have Hb1 := Lib.hid (below_step Hba.out hb1 Hba.out.size)
    have HZ1 := Lib.hid (HZa.out.below hb1)
    have HB1 := Lib.hid (HBa.out.below hb1)
    clear c0 c1 c2 c3 c4 c5 c6 c7 c8 x0 x1 hb1
    obtain ⟨yl, y0, y1, _⟩ := PortBox.new w1 rfl x 30
    obtain ⟨_, c0, c1, c2, c3, c4, c5, c6, c7, c8⟩ := (show PBox (w1.alloc (.cells #[.int .i64 x.e, .int .i64 x.n] 30)) w.heap.size ⟨ae, ne, ce, aj, nj, cj, as_, ns, cs, al, nl, cl, lv⟩ p from HB1.out.below (below_new _ _))
    dsimp only at c0 c1 c2 c3
    go_wp2_with fail
    refine name_calls fun w2 hw2 => ?_
    have Hn2 := Lib.hid (show Below w1.heap.size w1 w2 by rw [hw2]; exact below_new _ _)
    clear hw2 c0 c1 c2 c3 c4 c5 c6 c7 c8 y0 y1 yl
    have Hb2 := Lib.hid (below_step Hb1.out Hn2.out Hb1.out.size)
    have HZ2 := Lib.hid (HZ1.out.below Hn2.out)
    refine (HG.out w2 Hb2.out).mono ?_
    rintro en w3 ⟨rfl, hb3⟩
    have Hb3 := Lib.hid (below_step Hb2.out hb3 Hb2.out.size)
    have HZ3 := Lib.hid (HZ2.out.below hb3)
    clear hb3
    obtain ⟨zl, z0, z1, zf0, zf1⟩ := HZ3.out
    go_wp2_with fail
    exact bodyPost_ret (v := .tuple #[.agg #[.int .i64 y.e, .int .i64 y.n], .bool oy]) (by simp [results, Try.results22, go_sem, z0, z1]) rfl ⟨rfl, below_set2 Hb3.out (by omega) _ _⟩
end Go.Proofs.Ytackcfoplhhnbaa
