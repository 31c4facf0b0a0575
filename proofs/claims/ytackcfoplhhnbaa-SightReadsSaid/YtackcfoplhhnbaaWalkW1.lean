/- Walks of walk.lies, Step, Back, Turn and of semaphoreref6's Lies, Step, Turn, Back. Condition: the receiver is a net; the plan is read. -/
import Derived.Test.YtackcfoplhhnbaaWalkLaws
import Derived.Lib.QuietBelow
set_option maxRecDepth 1000000
namespace Go.Proofs.Ytackcfoplhhnbaa
open Go.ChangeShapes Go.WideShapes Go.ChangeAt Go.RowKit Go.Sort

theorem lies_out {pos : List Int} {e : Int} (h : e < 0 ∨ (pos.length : Int) ≤ e) : lies pos e = 0 := by
  unfold lies
  split
  · simp only [List.getD, List.getElem?_eq_none (show pos.length ≤ e.toNat by omega)]; rfl
  · rfl
theorem lies_in {pos : List Int} {e x : Int} (h0 : 0 ≤ e) (hx : pos[e.toNat]? = some x) : lies pos e = x := by
  unfold lies; rw [if_pos h0]; simp [List.getD, hx]
theorem nlies_any (w : World) (a : Option Addr) (n c : Nat) (pos : List Int) (h : Ints w a n pos) (e : Int) :
    Calls Try.prog 53 #[.slice a n c, .int .i64 e] w fun en w' => en = .returned (.int .i64 (lies pos e)) ∧ w = w' := by
  have hl : pos.length = n := h.len
  have hbd := h.bnd
  by_cases a1 : e < 0
  · have Hs := Lib.hid (lies_out (pos := pos) (.inl a1))
    clear hl h
    go_enter Try.func53, Try.ntmps53
    go_wp2_with fail
    go_ret
    exact ⟨ret_int Hs.out.symm, rfl⟩
  by_cases a2 : (n : Int) ≤ e
  · have Hs := Lib.hid (lies_out (pos := pos) (e := e) (.inr (by omega)))
    clear hl h
    go_enter Try.func53, Try.ntmps53
    go_wp2_with fail
    go_ret
    exact ⟨ret_int Hs.out.symm, rfl⟩
  have b1 : 0 ≤ e := by omega
  have b2 : e < n := by omega
  obtain ⟨x, hx⟩ := get_some hl (show e.toNat < n by omega)
  obtain ⟨b, off, rfl, hb, g1⟩ := h.int hx
  have Hs := Lib.hid (lies_in b1 hx)
  clear hx hl h a1 a2
  go_enter Try.func53, Try.ntmps53
  go_wp2_with fail
  go_ret
  exact ⟨ret_int Hs.out.symm, rfl⟩
theorem reflies_any (w : World) (a : Option Addr) (n c : Nat) (pos : List Int) (h : Ints w a n pos) (e : Int) :
    Calls Try.prog 57 #[.slice a n c, .int .i64 e] w fun en w' => en = .returned (.int .i64 (refLies pos e)) ∧ w = w' := by
  have hl : pos.length = n := h.len
  have hbd := h.bnd
  by_cases a1 : e < 0
  · have Hs := Lib.hid (show refLies pos e = 0 by unfold refLies; rw [lies_out (.inl a1)]; rfl)
    clear hl h
    go_enter Try.func57, Try.ntmps57
    go_wp2_with fail
    go_ret
    exact ⟨ret_int Hs.out.symm, rfl⟩
  by_cases a2 : (n : Int) ≤ e
  · have Hs := Lib.hid (show refLies pos e = 0 by unfold refLies; rw [lies_out (.inr (by omega))]; rfl)
    clear hl h
    go_enter Try.func57, Try.ntmps57
    go_wp2_with fail
    go_ret
    exact ⟨ret_int Hs.out.symm, rfl⟩
  have b1 : 0 ≤ e := by omega
  have b2 : e < n := by omega
  obtain ⟨x, hx⟩ := get_some hl (show e.toNat < n by omega)
  obtain ⟨b, off, rfl, hb, g1⟩ := h.int hx
  have Hl := Lib.hid (lies_in b1 hx)
  clear hx hl h a1 a2
  by_cases x1 : x = 1
  · subst x1
    have Hs := Lib.hid (show refLies pos e = 1 by unfold refLies; rw [Hl.out]; rfl)
    go_enter Try.func57, Try.ntmps57
    go_wp2_with fail
    go_ret
    exact ⟨ret_int Hs.out.symm, rfl⟩
  · have q1 : (x != 1) = true := by rw [bne_iff_ne]; exact x1
    by_cases x2 : x = 2
    · subst x2
      have Hs := Lib.hid (show refLies pos e = 2 by unfold refLies; rw [Hl.out]; rfl)
      go_enter Try.func57, Try.ntmps57
      go_wp2_with fail
      go_ret
      exact ⟨ret_int Hs.out.symm, rfl⟩
    · have q2 : (x != 2) = true := by rw [bne_iff_ne]; exact x2
      have Hs := Lib.hid (show refLies pos e = 0 by unfold refLies; rw [Hl.out]; simp [x1, x2])
      clear x1 x2
      go_enter Try.func57, Try.ntmps57
      go_wp2_with fail
      go_ret
      exact ⟨ret_int Hs.out.symm, rfl⟩

/-! one step -/
theorem step_none {p : Plan} {pos : List Int} {h : Port} (hn : nextOf p h = none) : step p pos h = (zeroPort, 3) := by unfold step; rw [hn]
theorem step_gate {p : Plan} {pos : List Int} {h x : Port} (hn : nextOf p h = some x) (hk : p.kind x.e = 4) : step p pos h = (zeroPort, 2) := by unfold step; rw [hn]; simp [hk]
theorem step_against {p : Plan} {pos : List Int} {h x : Port} (hn : nextOf p h = some x) (hk : p.kind x.e ≠ 4) (ht : through p x.e x.n (lies pos x.e) = none) : step p pos h = (zeroPort, 4) := by unfold step; rw [hn]; simp [hk, ht]
theorem step_go {p : Plan} {pos : List Int} {h x : Port} {o : Int} (hn : nextOf p h = some x) (hk : p.kind x.e ≠ 4) (ht : through p x.e x.n (lies pos x.e) = some o) : step p pos h = (⟨x.e, o⟩, 0) := by unfold step; rw [hn]; simp [hk, ht]
theorem step_ret {s : Port × Int} {a b c : Int} (h : s = (⟨a, b⟩, c)) : Ending.returned (.tuple #[.agg #[.int .i64 a, .int .i64 b], .int .i64 c]) = .returned (.tuple #[.agg #[.int .i64 (s).1.e, .int .i64 (s).1.n], .int .i64 (s).2]) := by rw [h]
theorem nlies_b {w : World} {a : Option Addr} {n c : Nat} {pos : List Int} (h : Ints w a n pos) (e : Int) :
    Calls Try.prog 53 #[.slice a n c, .int .i64 e] w fun en w' => en = .returned (.int .i64 (lies pos e)) ∧ Below w.heap.size w w' :=
  (nlies_any w a n c pos h e).mono fun _ _ ⟨h1, h2⟩ => ⟨h1, h2 ▸ Below.refl _ _⟩
theorem reflies_b {w : World} {a : Option Addr} {n c : Nat} {pos : List Int} (h : Ints w a n pos) (e : Int) :
    Calls Try.prog 57 #[.slice a n c, .int .i64 e] w fun en w' => en = .returned (.int .i64 (refLies pos e)) ∧ Below w.heap.size w w' :=
  (reflies_any w a n c pos h e).mono fun _ _ ⟨h1, h2⟩ => ⟨h1, h2 ▸ Below.refl _ _⟩
theorem ref_through {p : Plan} {e i : Int} (pos : List Int) : through p e i (refLies pos e) = through p e i (lies pos e) := by unfold refLies; exact through_lies
set_option maxHeartbeats 2000000 in
theorem nstep_any (w : World) (b : Nat) (p : Plan) (hn : NetAt w b p) (a : Option Addr) (n c : Nat) (pos : List Int) (hr : Hid (Ints w a n pos)) (h : Port) (hw : h.wf) :
    Calls Try.prog 19 #[.pointer (some ⟨b, 0, none⟩), .slice a n c, h.val] w fun en w' => en = .returned (.tuple #[.agg #[.int .i64 (step p pos h).1.e, .int .i64 (step p pos h).1.n], .int .i64 (step p pos h).2]) ∧ Below w.heap.size w w' := by
  have hP := Lib.hid hn
  have Hba := Lib.hid (show Below w.heap.size w ((w.alloc (.cells #[.int .i64 h.e, .int .i64 h.n] 30)).alloc (.cells #[.int .i64 0, .int .i64 0] 30)) from below_new2 w _ _)
  have HXa := Lib.hid ((PortBox.new w rfl h 30).below (below_new _ (.cells #[.int .i64 0, .int .i64 0] 30)))
  have HZa := Lib.hid (zbox_new (w.alloc (.cells #[.int .i64 h.e, .int .i64 h.n] 30)) (b := w.heap.size + 1) (by simp) 30)
  have H1 := Lib.hid (fun (u : World) (hb : Below w.heap.size w u) => nnext_any u b p (hP.out.below hb) h hw)
  dsimp only [Port.val] at H1
  clear hn
  dsimp only [Port.val]
  obtain ⟨_, x0, x1, _⟩ := HXa.out
  cases hx : nextOf p h with
  | none =>
    have Hs := Lib.hid (step_none (pos := pos) hx)
    rw [hx] at H1
    dsimp only [Option.getD_none, Option.isSome_none, zeroPort] at H1
    clear hx
    go_enter Try.func19, Try.ntmps19
    go_wp2_with fail
    refine (H1.out _ Hba.out).mono ?_
    rintro en w1 ⟨rfl, hb1⟩
    have Hb1 := Lib.hid (below_step Hba.out hb1 Hba.out.size)
    have HZ1 := Lib.hid (HZa.out.below hb1)
    clear x0 x1 hb1
    obtain ⟨zl, z0, z1, zf0, zf1⟩ := (show PortBox (w1.alloc (.cells #[.int .i64 0, .int .i64 0] 30)) (w.heap.size + 1) zeroPort from HZ1.out.below (below_new _ _))
    go_wp2_with fail
    exact bodyPost_ret (v := .tuple #[.agg #[.int .i64 0, .int .i64 0], .int .i64 3]) (by simp [results, Try.results19, go_sem, z0, z1]) rfl ⟨step_ret Hs.out, below_set2 (below_step Hb1.out (below_new _ _) Hb1.out.size) (by omega) _ _⟩
  | some x =>
    rw [hx] at H1
    dsimp only [Option.getD_some, Option.isSome_some] at H1
    have HK := Lib.hid (fun (u : World) (hb : Below w.heap.size w u) => nkind_any u b p (hP.out.below hb) x.e)
    by_cases hk : p.kind x.e = 4
    · have Hs := Lib.hid (step_gate (pos := pos) hx hk)
      rw [hk] at HK
      clear hx hk
      go_enter Try.func19, Try.ntmps19
      go_wp2_with fail
      refine (H1.out _ Hba.out).mono ?_
      rintro en w1 ⟨rfl, hb1⟩
      have Hb1 := Lib.hid (below_step Hba.out hb1 Hba.out.size)
      have HZ1 := Lib.hid (HZa.out.below hb1)
      clear x0 x1 hb1
      go_wp2_with fail
      refine name_calls fun w2 hw2 => ?_
      have Hn2 := Lib.hid (show Below w1.heap.size w1 w2 by rw [hw2]; exact below_new _ _)
      have HY2 := Lib.hid (show PortBox w2 w1.heap.size x by rw [hw2]; exact PortBox.new _ rfl _ _)
      clear hw2
      have Hb2 := Lib.hid (below_step Hb1.out Hn2.out Hb1.out.size)
      have HZ2 := Lib.hid (HZ1.out.below Hn2.out)
      refine (HK.out w2 Hb2.out).mono ?_
      rintro en w3 ⟨rfl, hb3⟩
      have Hb3 := Lib.hid (below_step Hb2.out hb3 Hb2.out.size)
      have HZ3 := Lib.hid (HZ2.out.below hb3)
      have HY3 := Lib.hid (HY2.out.below hb3)
      clear hb3
      obtain ⟨yl, y0, y1, _⟩ := HY3.out
      obtain ⟨zl, z0, z1, zf0, zf1⟩ := (show PortBox w3 (w.heap.size + 1) zeroPort from HZ3.out)
      go_wp2_with fail
      exact bodyPost_ret (v := .tuple #[.agg #[.int .i64 0, .int .i64 0], .int .i64 2]) (by simp [results, Try.results19, go_sem, z0, z1]) rfl ⟨step_ret Hs.out, below_set2 Hb3.out (by omega) _ _⟩
    have q1 : (p.kind x.e == 4) = false := by simpa using hk
    cases ht : through p x.e x.n (lies pos x.e) with
    | none =>
      have Hs := Lib.hid (step_against hx hk ht)
      have HT := Lib.hid (fun (u : World) (hb : Below w.heap.size w u) => nthrough_any u b p (hP.out.below hb) x.e x.n (lies pos x.e))
      rw [ht] at HT
      dsimp only [Option.getD_none, Option.isSome_none] at HT
      clear ht hx hk
      go_enter Try.func19, Try.ntmps19
      go_wp2_with fail
      refine (H1.out _ Hba.out).mono ?_
      rintro en w1 ⟨rfl, hb1⟩
      have Hb1 := Lib.hid (below_step Hba.out hb1 Hba.out.size)
      have HZ1 := Lib.hid (HZa.out.below hb1)
      clear x0 x1 hb1
      go_wp2_with fail
      refine name_calls fun w2 hw2 => ?_
      have Hn2 := Lib.hid (show Below w1.heap.size w1 w2 by rw [hw2]; exact below_new _ _)
      have HY2 := Lib.hid (show PortBox w2 w1.heap.size x by rw [hw2]; exact PortBox.new _ rfl _ _)
      clear hw2
      have Hb2 := Lib.hid (below_step Hb1.out Hn2.out Hb1.out.size)
      have HZ2 := Lib.hid (HZ1.out.below Hn2.out)
      refine (HK.out w2 Hb2.out).mono ?_
      rintro en w3 ⟨rfl, hb3⟩
      have Hb3 := Lib.hid (below_step Hb2.out hb3 Hb2.out.size)
      have HZ3 := Lib.hid (HZ2.out.below hb3)
      have HY3 := Lib.hid (HY2.out.below hb3)
      clear hb3
      obtain ⟨yl, y0, y1, _⟩ := HY3.out
      go_wp2_with fail
      have y0q := fun d os => cell_regrown y0 d os
      have y1q := fun d os => cell_regrown y1 d os
      have cq0 : ∀ d os, Calls Try.prog 53 #[.slice a n c, .int .i64 x.e] (grow (redrawn w3 d) os) fun e w'' => e = .returned (.int .i64 (lies pos x.e)) ∧ ∃ rg : Regrown, w'' = grow (redrawn w3 rg.d) rg.os := fun d os => Calls.regrown_of (nlies_b (hr.out.below (below_step Hb3.out (below_regrown _ d os) Hb3.out.size)) x.e)
      have cq1 : ∀ d os, Calls Try.prog 52 #[.pointer (some ⟨b, 0, none⟩), .int .i64 x.e, .int .i64 x.n, .int .i64 (lies pos x.e)] (grow (redrawn w3 d) os) fun e w'' => e = .returned (.tuple #[.int .i64 0, .bool false]) ∧ ∃ rg : Regrown, w'' = grow (redrawn w3 rg.d) rg.os := fun d os => Calls.regrown_of (HT.out _ (below_step Hb3.out (below_regrown _ d os) Hb3.out.size))
      refine wp_region_quiet_below (by kernel_rfl) (by kernel_rfl) ?_
      repeat (quiet_step (first | with_reducible exact cq0 _ _ | with_reducible exact cq1 _ _))
      refine wpQuiet_nil ?_
      intro w4 hw'
      have hb4 : Below w3.heap.size w3 w4 := by obtain ⟨⟨d, os⟩, rfl⟩ := hw'; exact below_regrown _ d os
      clear hw' y0q y1q cq0 cq1
      have Hb4 := Lib.hid (below_step Hb3.out hb4 Hb3.out.size)
      have HZ4 := Lib.hid (HZ3.out.below hb4)
      have HY4 := Lib.hid (HY3.out.below hb4)
      clear hb4 y0 y1
      obtain ⟨zl, z0, z1, zf0, zf1⟩ := (show PortBox w4 (w.heap.size + 1) zeroPort from HZ4.out)
      go_wp2_with fail
      exact bodyPost_ret (v := .tuple #[.agg #[.int .i64 0, .int .i64 0], .int .i64 4]) (by simp [results, Try.results19, go_sem, z0, z1]) rfl ⟨step_ret Hs.out, below_set2 Hb4.out (by omega) _ _⟩
    | some o =>
      have Hs := Lib.hid (step_go hx hk ht)
      have HT := Lib.hid (fun (u : World) (hb : Below w.heap.size w u) => nthrough_any u b p (hP.out.below hb) x.e x.n (lies pos x.e))
      rw [ht] at HT
      dsimp only [Option.getD_some, Option.isSome_some] at HT
      clear ht hx hk
      go_enter Try.func19, Try.ntmps19
      go_wp2_with fail
      refine (H1.out _ Hba.out).mono ?_
      rintro en w1 ⟨rfl, hb1⟩
      have Hb1 := Lib.hid (below_step Hba.out hb1 Hba.out.size)
      have HZ1 := Lib.hid (HZa.out.below hb1)
      clear x0 x1 hb1
      go_wp2_with fail
      refine name_calls fun w2 hw2 => ?_
      have Hn2 := Lib.hid (show Below w1.heap.size w1 w2 by rw [hw2]; exact below_new _ _)
      have HY2 := Lib.hid (show PortBox w2 w1.heap.size x by rw [hw2]; exact PortBox.new _ rfl _ _)
      clear hw2
      have Hb2 := Lib.hid (below_step Hb1.out Hn2.out Hb1.out.size)
      have HZ2 := Lib.hid (HZ1.out.below Hn2.out)
      refine (HK.out w2 Hb2.out).mono ?_
      rintro en w3 ⟨rfl, hb3⟩
      have Hb3 := Lib.hid (below_step Hb2.out hb3 Hb2.out.size)
      have HZ3 := Lib.hid (HZ2.out.below hb3)
      have HY3 := Lib.hid (HY2.out.below hb3)
      clear hb3
      obtain ⟨yl, y0, y1, _⟩ := HY3.out
      go_wp2_with fail
      have y0q := fun d os => cell_regrown y0 d os
      have y1q := fun d os => cell_regrown y1 d os
      have cq0 : ∀ d os, Calls Try.prog 53 #[.slice a n c, .int .i64 x.e] (grow (redrawn w3 d) os) fun e w'' => e = .returned (.int .i64 (lies pos x.e)) ∧ ∃ rg : Regrown, w'' = grow (redrawn w3 rg.d) rg.os := fun d os => Calls.regrown_of (nlies_b (hr.out.below (below_step Hb3.out (below_regrown _ d os) Hb3.out.size)) x.e)
      have cq1 : ∀ d os, Calls Try.prog 52 #[.pointer (some ⟨b, 0, none⟩), .int .i64 x.e, .int .i64 x.n, .int .i64 (lies pos x.e)] (grow (redrawn w3 d) os) fun e w'' => e = .returned (.tuple #[.int .i64 o, .bool true]) ∧ ∃ rg : Regrown, w'' = grow (redrawn w3 rg.d) rg.os := fun d os => Calls.regrown_of (HT.out _ (below_step Hb3.out (below_regrown _ d os) Hb3.out.size))
      refine wp_region_quiet_below (by kernel_rfl) (by kernel_rfl) ?_
      repeat (quiet_step (first | with_reducible exact cq0 _ _ | with_reducible exact cq1 _ _))
      refine wpQuiet_nil ?_
      intro w4 hw'
      have hb4 : Below w3.heap.size w3 w4 := by obtain ⟨⟨d, os⟩, rfl⟩ := hw'; exact below_regrown _ d os
      clear hw' y0q y1q cq0 cq1
      have Hb4 := Lib.hid (below_step Hb3.out hb4 Hb3.out.size)
      have HZ4 := Lib.hid (HZ3.out.below hb4)
      have HY4 := Lib.hid (HY3.out.below hb4)
      clear hb4 y0 y1
      obtain ⟨zl, z0, z1, zf0, zf1⟩ := (show PortBox w4 (w.heap.size + 1) zeroPort from HZ4.out)
      obtain ⟨yl4, y0, y1, _⟩ := HY4.out
      go_wp2_with fail
      exact bodyPost_ret (v := .tuple #[.agg #[.int .i64 x.e, .int .i64 o], .int .i64 0]) (by simp [results, Try.results19, go_sem, z0, z1]) rfl ⟨step_ret Hs.out, below_set2 Hb4.out (by omega) _ _⟩
set_option maxHeartbeats 2000000 in
theorem refstep_any (w : World) (pv : PV) (p : Plan) (hp : PlanAt w pv p) (a : Option Addr) (n c : Nat) (pos : List Int) (hr : Hid (Ints w a n pos)) (h : Port) :
    Calls Try.prog 20 #[pv.val p, .slice a n c, h.val] w fun en w' => en = .returned (.tuple #[.agg #[.int .i64 (step p pos h).1.e, .int .i64 (step p pos h).1.n], .int .i64 (step p pos h).2]) ∧ Below w.heap.size w w' := by
  obtain ⟨ae, ne, ce, aj, nj, cj, as_, ns, cs, al, nl, cl, lv⟩ := pv
  have hP := Lib.hid hp
  have HBa := Lib.hid (((pbox_new w ⟨ae, ne, ce, aj, nj, cj, as_, ns, cs, al, nl, cl, lv⟩ p).below (below_new _ (.cells #[.int .i64 h.e, .int .i64 h.n] 30))).below (below_new _ (.cells #[.int .i64 0, .int .i64 0] 30)))
  have Hba := Lib.hid (show Below w.heap.size w (((w.alloc (.cells #[.slice ae ne ce, .slice aj nj cj, .slice as_ ns cs, .slice al nl cl, .int .i64 p.top, .int .i64 p.brake, .int .i64 p.margin, .int .i64 p.throw, .bool p.hard] 27)).alloc (.cells #[.int .i64 h.e, .int .i64 h.n] 30)).alloc (.cells #[.int .i64 0, .int .i64 0] 30)) from (below_new2 w _ _).alloc (by simp <;> omega) _)
  have HXa := Lib.hid ((PortBox.new (w.alloc (.cells #[.slice ae ne ce, .slice aj nj cj, .slice as_ ns cs, .slice al nl cl, .int .i64 p.top, .int .i64 p.brake, .int .i64 p.margin, .int .i64 p.throw, .bool p.hard] 27)) (b := w.heap.size + 1) (by simp) h 30).below (below_new _ (.cells #[.int .i64 0, .int .i64 0] 30)))
  have HZa := Lib.hid (zbox_new ((w.alloc (.cells #[.slice ae ne ce, .slice aj nj cj, .slice as_ ns cs, .slice al nl cl, .int .i64 p.top, .int .i64 p.brake, .int .i64 p.margin, .int .i64 p.throw, .bool p.hard] 27)).alloc (.cells #[.int .i64 h.e, .int .i64 h.n] 30)) (b := w.heap.size + 1 + 1) (by simp) 30)
  have H1 := Lib.hid (fun (u : World) (hb : Below w.heap.size w u) => refnext_l (w := u) (a := h.e) (b := h.n) (hP.out.below hb))
  rw [show (⟨h.e, h.n⟩ : Port) = h from rfl] at H1
  clear hp
  dsimp only [PV.val, Port.val]
  obtain ⟨_, c0, c1, c2, c3, c4, c5, c6, c7, c8⟩ := HBa.out
  dsimp only at c0 c1 c2 c3
  obtain ⟨_, x0, x1, _⟩ := HXa.out
  cases hx : nextOf p h with
  | none =>
    have Hs := Lib.hid (step_none (pos := pos) hx)
    rw [hx] at H1
    dsimp only [Option.getD_none, Option.isSome_none, zeroPort, Port.val] at H1
    clear hx
    go_enter Try.func20, Try.ntmps20
    go_wp2_with fail
    refine (H1.out _ Hba.out).mono ?_
    rintro en w1 ⟨rfl, hb1⟩
    have Hb1 := Lib.hid (below_step Hba.out hb1 Hba.out.size)
    have HZ1 := Lib.hid (HZa.out.below hb1)
    have HB1 := Lib.hid (HBa.out.below hb1)
    clear c0 c1 c2 c3 c4 c5 c6 c7 c8
    clear x0 x1 hb1
    obtain ⟨zl, z0, z1, zf0, zf1⟩ := (show PortBox (w1.alloc (.cells #[.int .i64 0, .int .i64 0] 30)) (w.heap.size + 1 + 1) zeroPort from HZ1.out.below (below_new _ _))
    go_wp2_with fail
    exact bodyPost_ret (v := .tuple #[.agg #[.int .i64 0, .int .i64 0], .int .i64 3]) (by simp [results, Try.results20, go_sem, z0, z1]) rfl ⟨step_ret Hs.out, below_set2 (below_step Hb1.out (below_new _ _) Hb1.out.size) (by omega) _ _⟩
  | some x =>
    rw [hx] at H1
    dsimp only [Option.getD_some, Option.isSome_some, Port.val] at H1
    have HK := Lib.hid (fun (u : World) (hb : Below w.heap.size w u) => kindU_l (w := u) (i := x.e) (hP.out.below hb))
    by_cases hk : p.kind x.e = 4
    · have Hs := Lib.hid (step_gate (pos := pos) hx hk)
      rw [hk] at HK
      clear hx hk
      go_enter Try.func20, Try.ntmps20
      go_wp2_with fail
      refine (H1.out _ Hba.out).mono ?_
      rintro en w1 ⟨rfl, hb1⟩
      have Hb1 := Lib.hid (below_step Hba.out hb1 Hba.out.size)
      have HZ1 := Lib.hid (HZa.out.below hb1)
      have HB1 := Lib.hid (HBa.out.below hb1)
      clear c0 c1 c2 c3 c4 c5 c6 c7 c8
      clear x0 x1 hb1
      obtain ⟨_, c0, c1, c2, c3, c4, c5, c6, c7, c8⟩ := (show PBox (w1.alloc (.cells #[.int .i64 x.e, .int .i64 x.n] 30)) w.heap.size ⟨ae, ne, ce, aj, nj, cj, as_, ns, cs, al, nl, cl, lv⟩ p from HB1.out.below (below_new _ _))
      dsimp only at c0 c1 c2 c3
      go_wp2_with fail
      refine name_calls fun w2 hw2 => ?_
      have Hn2 := Lib.hid (show Below w1.heap.size w1 w2 by rw [hw2]; exact below_new _ _)
      have HY2 := Lib.hid (show PortBox w2 w1.heap.size x by rw [hw2]; exact PortBox.new _ rfl _ _)
      clear hw2
      have Hb2 := Lib.hid (below_step Hb1.out Hn2.out Hb1.out.size)
      have HZ2 := Lib.hid (HZ1.out.below Hn2.out)
      have HB2 := Lib.hid (HB1.out.below Hn2.out)
      refine (HK.out w2 Hb2.out).mono ?_
      rintro en w3 ⟨rfl, hb3⟩
      have Hb3 := Lib.hid (below_step Hb2.out hb3 Hb2.out.size)
      have HZ3 := Lib.hid (HZ2.out.below hb3)
      have HY3 := Lib.hid (HY2.out.below hb3)
      have HB3 := Lib.hid (HB2.out.below hb3)
      clear c0 c1 c2 c3 c4 c5 c6 c7 c8
      clear hb3
      obtain ⟨yl, y0, y1, _⟩ := HY3.out
      obtain ⟨bl, c0, c1, c2, c3, c4, c5, c6, c7, c8⟩ := HB3.out
      dsimp only at c0 c1 c2 c3
      obtain ⟨zl, z0, z1, zf0, zf1⟩ := (show PortBox w3 (w.heap.size + 1 + 1) zeroPort from HZ3.out)
      go_wp2_with fail
      exact bodyPost_ret (v := .tuple #[.agg #[.int .i64 0, .int .i64 0], .int .i64 2]) (by simp [results, Try.results20, go_sem, z0, z1]) rfl ⟨step_ret Hs.out, below_set2 Hb3.out (by omega) _ _⟩
    have q1 : (p.kind x.e == 4) = false := by simpa using hk
    cases ht : through p x.e x.n (lies pos x.e) with
    | none =>
      have Hs := Lib.hid (step_against hx hk ht)
      have HT := Lib.hid (fun (u : World) (hb : Below w.heap.size w u) => refthrough_l (w := u) (e := x.e) (i := x.n) (pos := refLies pos x.e) (hP.out.below hb))
      have ht2 : through p x.e x.n (refLies pos x.e) = none := by rw [ref_through]; exact ht
      rw [ht2] at HT
      clear ht2
      dsimp only [Option.getD_none, Option.isSome_none] at HT
      clear ht hx hk
      go_enter Try.func20, Try.ntmps20
      go_wp2_with fail
      refine (H1.out _ Hba.out).mono ?_
      rintro en w1 ⟨rfl, hb1⟩
      have Hb1 := Lib.hid (below_step Hba.out hb1 Hba.out.size)
      have HZ1 := Lib.hid (HZa.out.below hb1)
      have HB1 := Lib.hid (HBa.out.below hb1)
      clear c0 c1 c2 c3 c4 c5 c6 c7 c8
      clear x0 x1 hb1
      obtain ⟨_, c0, c1, c2, c3, c4, c5, c6, c7, c8⟩ := (show PBox (w1.alloc (.cells #[.int .i64 x.e, .int .i64 x.n] 30)) w.heap.size ⟨ae, ne, ce, aj, nj, cj, as_, ns, cs, al, nl, cl, lv⟩ p from HB1.out.below (below_new _ _))
      dsimp only at c0 c1 c2 c3
      go_wp2_with fail
      refine name_calls fun w2 hw2 => ?_
      have Hn2 := Lib.hid (show Below w1.heap.size w1 w2 by rw [hw2]; exact below_new _ _)
      have HY2 := Lib.hid (show PortBox w2 w1.heap.size x by rw [hw2]; exact PortBox.new _ rfl _ _)
      clear hw2
      have Hb2 := Lib.hid (below_step Hb1.out Hn2.out Hb1.out.size)
      have HZ2 := Lib.hid (HZ1.out.below Hn2.out)
      have HB2 := Lib.hid (HB1.out.below Hn2.out)
      refine (HK.out w2 Hb2.out).mono ?_
      rintro en w3 ⟨rfl, hb3⟩
      have Hb3 := Lib.hid (below_step Hb2.out hb3 Hb2.out.size)
      have HZ3 := Lib.hid (HZ2.out.below hb3)
      have HY3 := Lib.hid (HY2.out.below hb3)
      have HB3 := Lib.hid (HB2.out.below hb3)
      clear c0 c1 c2 c3 c4 c5 c6 c7 c8
      clear hb3
      obtain ⟨yl, y0, y1, _⟩ := HY3.out
      obtain ⟨bl, c0, c1, c2, c3, c4, c5, c6, c7, c8⟩ := HB3.out
      dsimp only at c0 c1 c2 c3
      go_wp2_with fail
      have c0q := fun d os => cell_regrown c0 d os
      have c1q := fun d os => cell_regrown c1 d os
      have c2q := fun d os => cell_regrown c2 d os
      have c3q := fun d os => cell_regrown c3 d os
      have c4q := fun d os => cell_regrown c4 d os
      have c5q := fun d os => cell_regrown c5 d os
      have c6q := fun d os => cell_regrown c6 d os
      have c7q := fun d os => cell_regrown c7 d os
      have c8q := fun d os => cell_regrown c8 d os
      have y0q := fun d os => cell_regrown y0 d os
      have y1q := fun d os => cell_regrown y1 d os
      have cq0 : ∀ d os, Calls Try.prog 57 #[.slice a n c, .int .i64 x.e] (grow (redrawn w3 d) os) fun e w'' => e = .returned (.int .i64 (refLies pos x.e)) ∧ ∃ rg : Regrown, w'' = grow (redrawn w3 rg.d) rg.os := fun d os => Calls.regrown_of (reflies_b (hr.out.below (below_step Hb3.out (below_regrown _ d os) Hb3.out.size)) x.e)
      have cq1 : ∀ d os, Calls Try.prog 56 #[.agg #[.slice ae ne ce, .slice aj nj cj, .slice as_ ns cs, .slice al nl cl, .int .i64 p.top, .int .i64 p.brake, .int .i64 p.margin, .int .i64 p.throw, .bool p.hard], .int .i64 x.e, .int .i64 x.n, .int .i64 (refLies pos x.e)] (grow (redrawn w3 d) os) fun e w'' => e = .returned (.tuple #[.int .i64 0, .bool false]) ∧ ∃ rg : Regrown, w'' = grow (redrawn w3 rg.d) rg.os := fun d os => Calls.regrown_of (HT.out _ (below_step Hb3.out (below_regrown _ d os) Hb3.out.size))
      refine wp_region_quiet_below (by kernel_rfl) (by kernel_rfl) ?_
      repeat (quiet_step (first | with_reducible exact cq0 _ _ | with_reducible exact cq1 _ _))
      refine wpQuiet_nil ?_
      intro w4 hw'
      have hb4 : Below w3.heap.size w3 w4 := by obtain ⟨⟨d, os⟩, rfl⟩ := hw'; exact below_regrown _ d os
      clear hw' c0q c1q c2q c3q c4q c5q c6q c7q c8q y0q y1q cq0 cq1
      have Hb4 := Lib.hid (below_step Hb3.out hb4 Hb3.out.size)
      have HZ4 := Lib.hid (HZ3.out.below hb4)
      have HY4 := Lib.hid (HY3.out.below hb4)
      clear hb4 y0 y1 c0 c1 c2 c3 c4 c5 c6 c7 c8
      obtain ⟨zl, z0, z1, zf0, zf1⟩ := (show PortBox w4 (w.heap.size + 1 + 1) zeroPort from HZ4.out)
      go_wp2_with fail
      exact bodyPost_ret (v := .tuple #[.agg #[.int .i64 0, .int .i64 0], .int .i64 4]) (by simp [results, Try.results20, go_sem, z0, z1]) rfl ⟨step_ret Hs.out, below_set2 Hb4.out (by omega) _ _⟩
    | some o =>
      have Hs := Lib.hid (step_go hx hk ht)
      have HT := Lib.hid (fun (u : World) (hb : Below w.heap.size w u) => refthrough_l (w := u) (e := x.e) (i := x.n) (pos := refLies pos x.e) (hP.out.below hb))
      have ht2 : through p x.e x.n (refLies pos x.e) = some o := by rw [ref_through]; exact ht
      rw [ht2] at HT
      clear ht2
      dsimp only [Option.getD_some, Option.isSome_some] at HT
      clear ht hx hk
      go_enter Try.func20, Try.ntmps20
      go_wp2_with fail
      refine (H1.out _ Hba.out).mono ?_
      rintro en w1 ⟨rfl, hb1⟩
      have Hb1 := Lib.hid (below_step Hba.out hb1 Hba.out.size)
      have HZ1 := Lib.hid (HZa.out.below hb1)
      have HB1 := Lib.hid (HBa.out.below hb1)
      clear c0 c1 c2 c3 c4 c5 c6 c7 c8
      clear x0 x1 hb1
      obtain ⟨_, c0, c1, c2, c3, c4, c5, c6, c7, c8⟩ := (show PBox (w1.alloc (.cells #[.int .i64 x.e, .int .i64 x.n] 30)) w.heap.size ⟨ae, ne, ce, aj, nj, cj, as_, ns, cs, al, nl, cl, lv⟩ p from HB1.out.below (below_new _ _))
      dsimp only at c0 c1 c2 c3
      go_wp2_with fail
      refine name_calls fun w2 hw2 => ?_
      have Hn2 := Lib.hid (show Below w1.heap.size w1 w2 by rw [hw2]; exact below_new _ _)
      have HY2 := Lib.hid (show PortBox w2 w1.heap.size x by rw [hw2]; exact PortBox.new _ rfl _ _)
      clear hw2
      have Hb2 := Lib.hid (below_step Hb1.out Hn2.out Hb1.out.size)
      have HZ2 := Lib.hid (HZ1.out.below Hn2.out)
      have HB2 := Lib.hid (HB1.out.below Hn2.out)
      refine (HK.out w2 Hb2.out).mono ?_
      rintro en w3 ⟨rfl, hb3⟩
      have Hb3 := Lib.hid (below_step Hb2.out hb3 Hb2.out.size)
      have HZ3 := Lib.hid (HZ2.out.below hb3)
      have HY3 := Lib.hid (HY2.out.below hb3)
      have HB3 := Lib.hid (HB2.out.below hb3)
      clear c0 c1 c2 c3 c4 c5 c6 c7 c8
      clear hb3
      obtain ⟨yl, y0, y1, _⟩ := HY3.out
      obtain ⟨bl, c0, c1, c2, c3, c4, c5, c6, c7, c8⟩ := HB3.out
      dsimp only at c0 c1 c2 c3
      go_wp2_with fail
      have c0q := fun d os => cell_regrown c0 d os
      have c1q := fun d os => cell_regrown c1 d os
      have c2q := fun d os => cell_regrown c2 d os
      have c3q := fun d os => cell_regrown c3 d os
      have c4q := fun d os => cell_regrown c4 d os
      have c5q := fun d os => cell_regrown c5 d os
      have c6q := fun d os => cell_regrown c6 d os
      have c7q := fun d os => cell_regrown c7 d os
      have c8q := fun d os => cell_regrown c8 d os
      have y0q := fun d os => cell_regrown y0 d os
      have y1q := fun d os => cell_regrown y1 d os
      have cq0 : ∀ d os, Calls Try.prog 57 #[.slice a n c, .int .i64 x.e] (grow (redrawn w3 d) os) fun e w'' => e = .returned (.int .i64 (refLies pos x.e)) ∧ ∃ rg : Regrown, w'' = grow (redrawn w3 rg.d) rg.os := fun d os => Calls.regrown_of (reflies_b (hr.out.below (below_step Hb3.out (below_regrown _ d os) Hb3.out.size)) x.e)
      have cq1 : ∀ d os, Calls Try.prog 56 #[.agg #[.slice ae ne ce, .slice aj nj cj, .slice as_ ns cs, .slice al nl cl, .int .i64 p.top, .int .i64 p.brake, .int .i64 p.margin, .int .i64 p.throw, .bool p.hard], .int .i64 x.e, .int .i64 x.n, .int .i64 (refLies pos x.e)] (grow (redrawn w3 d) os) fun e w'' => e = .returned (.tuple #[.int .i64 o, .bool true]) ∧ ∃ rg : Regrown, w'' = grow (redrawn w3 rg.d) rg.os := fun d os => Calls.regrown_of (HT.out _ (below_step Hb3.out (below_regrown _ d os) Hb3.out.size))
      refine wp_region_quiet_below (by kernel_rfl) (by kernel_rfl) ?_
      repeat (quiet_step (first | with_reducible exact cq0 _ _ | with_reducible exact cq1 _ _))
      refine wpQuiet_nil ?_
      intro w4 hw'
      have hb4 : Below w3.heap.size w3 w4 := by obtain ⟨⟨d, os⟩, rfl⟩ := hw'; exact below_regrown _ d os
      clear hw' c0q c1q c2q c3q c4q c5q c6q c7q c8q y0q y1q cq0 cq1
      have Hb4 := Lib.hid (below_step Hb3.out hb4 Hb3.out.size)
      have HZ4 := Lib.hid (HZ3.out.below hb4)
      have HY4 := Lib.hid (HY3.out.below hb4)
      clear hb4 y0 y1 c0 c1 c2 c3 c4 c5 c6 c7 c8
      obtain ⟨zl, z0, z1, zf0, zf1⟩ := (show PortBox w4 (w.heap.size + 1 + 1) zeroPort from HZ4.out)
      obtain ⟨yl4, y0, y1, _⟩ := HY4.out
      go_wp2_with fail
      exact bodyPost_ret (v := .tuple #[.agg #[.int .i64 x.e, .int .i64 o], .int .i64 0]) (by simp [results, Try.results20, go_sem, z0, z1]) rfl ⟨step_ret Hs.out, below_set2 Hb4.out (by omega) _ _⟩
end Go.Proofs.Ytackcfoplhhnbaa
