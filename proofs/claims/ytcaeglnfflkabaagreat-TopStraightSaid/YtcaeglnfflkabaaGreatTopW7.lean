/- Walks of side.Ports and flank.Of. Condition: the net and the road are read; there are no points and no crossings; the road is one of steps alone. -/
import Derived.Test.YtcaeglnfflkabaaGreatTopW6
set_option maxRecDepth 1000000
namespace Go.Proofs.YtcaeglnfflkabaaGreat
open Go.ChangeShapes Go.WideShapes Go.ChangeAt Go.RowKit Go.Sort

/-- the value of a road of steps alone -/
abbrev stepsV (s t2 fin : Int) (a : Option Addr) (n c : Nat) : Value := .agg #[.int .i64 s, .int .i64 t2, .int .i64 fin, .slice a n c, .slice none 0 0, .slice none 0 0, .slice none 0 0, .slice none 0 0, .bool false]
set_option maxHeartbeats 4000000 in
theorem nports_any (w : World) (nb : Nat) (p : Plan) (h : NetAt w nb p) (he : Even p) (s t2 fin : Int) (a : Option Addr) (n c : Nat) (xs : List Stp) (hx : Stps w a n xs) :
    Calls Tryz.prog 72 #[.pointer (some ⟨nb, 0, none⟩), stepsV s t2 fin a n c] w fun en w' => en = .returned (.slice none 0 0) ∧ Below w.heap.size w w' := by
  have hb0 := below_new w (.cells #[.int .i64 s, .int .i64 t2, .int .i64 fin, .slice a n c, .slice none 0 0, .slice none 0 0, .slice none 0 0, .slice none 0 0, .bool false] 74)
  have Hb0 := Lib.hid hb0
  have HN := Lib.hid (h.below hb0)
  have HX := Lib.hid (hx.below hb0)
  have He := Lib.hid he
  have hn := hx.bnd
  clear h he hx hb0
  go_enter Tryz.func72, Tryz.ntmps72
  go_wp2_with fail
  go_loopg [5, 18] n (fun k s5 s18 wr => ∃ j : Nat, j + k = n ∧ s5 = .slice none 0 0 ∧ s18 = .int .i64 j ∧ Hid (Below w.heap.size w wr ∧ w.heap.size < wr.heap.size ∧ NetAt wr nb p ∧ Stps wr a n xs))
  case atStart => exact ⟨0, by omega, rfl, rfl, Lib.hid ⟨Hb0.out, by simp, HN.out, HX.out⟩⟩
  case round =>
    obtain ⟨j, hk, rfl, rfl, HR⟩ := hrel
    have Hk := Lib.hid hk; clear hk
    by_cases hlt : j < n
    · obtain ⟨x, hx⟩ := get_some HR.out.2.2.2.len hlt
      obtain ⟨g, o, rfl, hg, e1, e2, e3⟩ := HR.out.2.2.2.stp hx
      have hq := below_new wr (.cells #[.int .i64 x.e, .int .i64 x.i, .int .i64 x.o] 146)
      have HK := Lib.hid (nkind_any _ nb p (HR.out.2.2.1.below hq) x.e)
      have k2 : (p.kind x.e == 2) = false := by have := (He.out x.e).1; simpa using this
      have k3 : (p.kind x.e == 3) = false := by have := (He.out x.e).2; simpa using this
      have Hq := Lib.hid hq
      clear hx hq
      go_wp2_with fail
      refine HK.out.mono ?_
      rintro en w1 ⟨rfl, hb1⟩
      have HR1 := Lib.hid (show Below w.heap.size w w1 ∧ w.heap.size < w1.heap.size ∧ NetAt w1 nb p ∧ Stps w1 (some ⟨g, o, none⟩) n xs from by
        have hq1 : Below wr.heap.size wr w1 := below_step Hq.out hb1 Hq.out.size
        obtain ⟨r1, r2, r3, r4⟩ := HR.out
        exact ⟨below_step r1 hq1 r1.size, Nat.lt_of_lt_of_le r2 hq1.size, r3.below hq1, r4.below hq1⟩)
      clear hb1 e1 e2 e3 HK
      go_wp2_with fail
      obtain ⟨g0, hg0⟩ : ∃ g0, g0 = gk := ⟨_, rfl⟩
      rw [← hg0] at Hk
      have Hg0 := Lib.hid hg0
      clear hg0
      go_loopg [5, 45] 0 (fun m s5 s45 w' => s5 = .slice none 0 0 ∧ s45 = .int .i64 0 ∧ Hid (Below w.heap.size w w' ∧ w.heap.size < w'.heap.size ∧ NetAt w' nb p ∧ Stps w' (some ⟨g, o, none⟩) n xs))
      case atStart => exact ⟨rfl, rfl, HR1⟩
      case round =>
        obtain ⟨rfl, rfl, HR2⟩ := hrel
        go_wp2_with fail
        go_roundg (g0 - 1)
        case measure => have := Hk.out; have := Hg0.out; omega
        case rel => exact ⟨j + 1, by have := Hk.out; omega, rfl, by go_num, HR2⟩
    · go_wp2_with fail
      go_ret
      exact ⟨rfl, HR.out.1⟩
theorem run_hard (v0 v1 v2 v3 v4 v5 v6 v7 v8 : Value) (w : World) : (Instr.field 27 (.agg #[v0, v1, v2, v3, v4, v5, v6, v7, v8]) 8).run Tryz.prog w = .ok v8 w := by kernel_rfl
theorem clone_none (w : World) : Calls Tryz.prog 71 #[.slice none 0 0] w fun en w' => en = .returned (.slice none 0 0) ∧ Below w.heap.size w w' := by
  have hq := fun w' => eql_nil (P := Tryz.prog) w' 72 149 none 0 0 Tryz.underlying72
  go_enter Tryz.func71, Tryz.ntmps71
  go_wp2_with fail
  go_ret
  exact ⟨rfl, Below.refl _ _⟩
set_option maxHeartbeats 4000000 in
theorem nflank_any (w : World) (nb : Nat) (p : Plan) (h : NetAt w nb p) (he : Even p) (s t2 fin : Int) (a : Option Addr) (n c : Nat) (xs : List Stp) (hx : Stps w a n xs) (hc : a = none → c = 0) (hn : n ≤ 1000) :
    Calls Tryz.prog 29 #[.pointer (some ⟨nb, 0, none⟩), stepsV s t2 fin a n c] w (RoadPost w s t2 fin xs) := by
  obtain ⟨W1, hW1⟩ : ∃ W1, W1 = ((w.alloc (.cells #[.pointer (some ⟨nb, 0, none⟩)] 38)).alloc (.cells #[.int .i64 s, .int .i64 t2, .int .i64 fin, .slice a n c, .slice none 0 0, .slice none 0 0, .slice none 0 0, .slice none 0 0, .bool false] 74)).alloc (.cells #[.int .i64 0, .int .i64 0, .int .i64 0, .slice none 0 0, .slice none 0 0, .slice none 0 0, .slice none 0 0, .slice none 0 0, .bool false] 74) := ⟨_, rfl⟩
  go_enter Tryz.func29, Tryz.ntmps29
  go_wp2_with fail
  rw [← hW1]
  have hb1 : Below w.heap.size w W1 := by rw [hW1]; exact ((below_new w _).alloc (by simp) _).alloc (by simp; omega) _
  have hr1 : W1.heap[w.heap.size + 1]? = some (.cells #[.int .i64 s, .int .i64 t2, .int .i64 fin, .slice a n c, .slice none 0 0, .slice none 0 0, .slice none 0 0, .slice none 0 0, .bool false] 74) := by
    rw [hW1]
    exact (Below.heap_alloc _ _ (w.heap.size + 1) (by simp)).trans (by simpa using heap_alloc_new (w.alloc (.cells #[.pointer (some ⟨nb, 0, none⟩)] 38)) (.cells #[.int .i64 s, .int .i64 t2, .int .i64 fin, .slice a n c, .slice none 0 0, .slice none 0 0, .slice none 0 0, .slice none 0 0, .bool false] 74))
  have hrb : w.heap.size + 1 < W1.heap.size := (Array.getElem?_eq_some_iff.1 hr1).1
  have hn1 : W1.cell? ⟨w.heap.size, 0, none⟩ = some (.pointer (some ⟨nb, 0, none⟩)) := by rw [hW1]; go_simp
  have hq1 : W1.heap[w.heap.size + 2]? = some (.cells #[.int .i64 0, .int .i64 0, .int .i64 0, .slice none 0 0, .slice none 0 0, .slice none 0 0, .slice none 0 0, .slice none 0 0, .bool false] 74) := by
    rw [hW1]
    simpa using heap_alloc_new ((w.alloc (.cells #[.pointer (some ⟨nb, 0, none⟩)] 38)).alloc (.cells #[.int .i64 s, .int .i64 t2, .int .i64 fin, .slice a n c, .slice none 0 0, .slice none 0 0, .slice none 0 0, .slice none 0 0, .bool false] 74)) (.cells #[.int .i64 0, .int .i64 0, .int .i64 0, .slice none 0 0, .slice none 0 0, .slice none 0 0, .slice none 0 0, .slice none 0 0, .bool false] 74)
  have HX1 := Lib.hid (hx.below hb1)
  have Hnx := Lib.hid hx.len
  have HN1 := Lib.hid (h.below hb1)
  have Hb1 := Lib.hid hb1
  have He := Lib.hid he
  have hs1 : W1.heap.size = w.heap.size + 3 := by rw [hW1]; simp
  have Hs1 := Lib.hid hs1
  have Hq1 := Lib.hid hq1
  obtain ⟨_, _, _, c3, c4, _⟩ := nine_of hr1
  clear hW1 he hx hb1 hs1 hq1
  go_step3
  go_wp2_with fail
  have hSall : ∀ w' : World, Below (W1).heap.size (W1) w' → (w'.cell? ⟨w.heap.size + 1, 3, none⟩ = some (.slice a n c) ∧ w'.cell? ⟨w.heap.size + 1, 4, none⟩ = some (.slice none 0 0)) := fun w' hb => ⟨(hb.cell (p := ⟨w.heap.size + 1, 3, none⟩) hrb).trans c3, (hb.cell (p := ⟨w.heap.size + 1, 4, none⟩) hrb).trans c4⟩
  refine wp_region_noPanic ?_
  refine region_ob (S := fun w' => w'.cell? ⟨w.heap.size + 1, 3, none⟩ = some (.slice a n c) ∧ w'.cell? ⟨w.heap.size + 1, 4, none⟩ = some (.slice none 0 0)) (ob := fun t => decide (t < 6) && !decide (t = 0) && !decide (t = 3)) (by kernel_rfl) ?_
  refine ob_pure (i := 0) (v := .pointer (some ⟨w.heap.size + 1, 3, none⟩)) rfl (by kernel_rfl) (by kernel_rfl) (by kernel_rfl) (by kernel_rfl) (by kernel_rfl) (fun _ _ _ h => h) (Or.inl ⟨by rfl, ?_⟩) ?_
  · intro w' _
    go_simp
  (try simp only [zA, zC, Act.put, zD, zE, zF])
  refine ob_pure (i := 3) (v := .pointer (some ⟨w.heap.size + 1, 4, none⟩)) rfl (by kernel_rfl) (by kernel_rfl) (by kernel_rfl) (by kernel_rfl) (by kernel_rfl) (fun _ _ _ h => h) (Or.inl ⟨by rfl, ?_⟩) ?_
  · intro w' _
    go_simp
  (try simp only [zA, zB, zC, Act.put, zD, zE, zF])
  refine tk 1 (.slice a n c) ?_ (hSall _ (Below.refl _ _).drew) ?_
  · intro w' hSw
    (try dsimp only at hSw)
    go_simp
  (try simp only [zA, zB, zC, Act.put, zD, zE, zF])
  refine tk 4 (.slice none 0 0) ?_ (hSall _ (Below.refl _ _).drew) ?_
  · intro w' hSw
    (try dsimp only at hSw)
    go_simp
  (try simp only [zA, zB, zC, Act.put, zD, zE, zF])
  refine ob_step (i := 2) (by kernel_rfl) rfl (fun K hK => ?_)
  go_simp
  refine (clone_stp _ a n c xs (HX1.out.below (Below.refl _ _).drew) hc hn).mono ?_
  rintro en w5 ⟨a5, c5, rfl, hO5, hz5, hb5⟩
  have hb51 : Below W1.heap.size W1 w5 := below_step (Below.refl _ _).drew hb5 (by simp)
  refine hK _ _ (fun _ => hSall _ hb51) ?_
  clear hK K
  (try simp only [zA, zB, zC, Act.put, zD, zE, zF])
  refine ob_step (i := 5) (by kernel_rfl) rfl (fun K hK => ?_)
  go_simp
  refine (clone_none w5).mono ?_
  rintro en w6 ⟨rfl, hb6⟩
  have hb61 : Below W1.heap.size W1 w6 := below_step hb51 hb6 hb51.size
  have hr6 := (hb61.block (w.heap.size + 1) hrb).trans hr1
  have fz : ∀ o, w6.frozen? ⟨w.heap.size + 1, o, none⟩ = false := fun o => frozen_of_row w6 _ o _ _ hr6
  have k63 := (hb61.cell (p := ⟨w.heap.size + 1, 3, none⟩) hrb).trans c3
  have k64 := (hb61.cell (p := ⟨w.heap.size + 1, 4, none⟩) hrb).trans c4
  have hl6 : w.heap.size + 1 < w6.heap.size := Nat.lt_of_lt_of_le hrb hb61.size
  refine hK _ _ (fun _ => hSall _ hb61) ?_
  clear hK K
  (try simp only [zA, zB, zC, Act.put, zD, zE, zF])
  refine ob_step (i := 6) (by kernel_rfl) rfl (fun K hK => ?_)
  go_simp
  refine hK _ _ (fun h => absurd h (by decide)) ?_
  clear hK K
  (try simp only [zA, zB, zC, Act.put, zD, zE, zF])
  refine ob_step (i := 7) (by kernel_rfl) rfl (fun K hK => ?_)
  go_simp
  refine hK _ _ (fun h => absurd h (by decide)) ?_
  clear hK K
  (try simp only [zA, zB, zC, Act.put, zD, zE, zF])
  refine ob_step (i := 8) (by kernel_rfl) rfl (fun K hK => ?_)
  go_simp
  refine hK _ _ (fun h => absurd h (by decide)) ?_
  clear hK K
  (try simp only [zA, zB, zC, Act.put, zD, zE, zF])
  refine ob_step (i := 9) (by kernel_rfl) rfl (fun K hK => ?_)
  go_simp
  refine hK _ _ (fun h => absurd h (by decide)) ?_
  clear hK K
  (try simp only [zA, zB, zC, Act.put, zD, zE, zF])
  refine ob_done (by kernel_rfl) (NoPanic.normal ?_) _
  clear hSall
  refine name_world fun W2 hW2 => ?_
  have hr2 : W2.heap[w.heap.size + 1]? = some (.cells #[.int .i64 s, .int .i64 t2, .int .i64 fin, .slice a5 n c5, .slice none 0 0, .slice none 0 0, .slice none 0 0, .slice none 0 0, .bool false] 74) := by
    rw [hW2]
    exact heap_setCell_same _ (w.heap.size + 1) 4 _ _ _ (heap_setCell_same w6 (w.heap.size + 1) 3 _ _ _ hr6)
  have hne2 : ∀ q, q ≠ w.heap.size + 1 → W2.heap[q]? = w6.heap[q]? := fun q hq => by
    rw [hW2]
    exact (Below.heap_setCell _ ⟨w.heap.size + 1, 4, none⟩ _ q hq).trans (Below.heap_setCell w6 ⟨w.heap.size + 1, 3, none⟩ _ q hq)
  have hs2 : W2.heap.size = w6.heap.size := by rw [hW2]; simp [World.setCell]
  have hB2 : Below w.heap.size w W2 := by
    rw [hW2]
    exact below_set (by omega) (below_set (by omega) (below_step Hb1.out hb61 Hb1.out.size) _) _
  have hst2 : Stps W2 a5 n xs := by
    have h1 := ((owns_row encStp_len hO5 (by decide)).1.below hb6)
    refine h1.kept fun k hk hl => hne2 k ?_
    cases a5 with
    | none => cases hk
    | some ad =>
      have h2 := hO5.lt k (by simpa [Value.ownBlock] using hk)
      have h3 : W1.heap.size ≤ k := h2.1
      omega
  have hfr2 : ∀ k, a5.map (·.block) = some k → w.heap.size + 2 < k ∧ k < W2.heap.size := by
    intro k hk
    cases a5 with
    | none => cases hk
    | some ad =>
      have h2 := hO5.lt k (by simpa [Value.ownBlock] using hk)
      have h3 := hb6.size
      have h4 : W1.heap.size ≤ k := h2.1
      have := Hs1.out
      omega
  have hq2 := (hne2 (w.heap.size + 2) (by omega)).trans ((hb61.block (w.heap.size + 2) (by have := Hs1.out; omega)).trans Hq1.out)
  have hn2 := (cell_of_same (hne2 w.heap.size (by omega)) 0).trans ((hb61.cell (p := ⟨w.heap.size, 0, none⟩) (by show w.heap.size < W1.heap.size; omega)).trans hn1)
  have Hst2 := Lib.hid hst2
  have Hfr2 := Lib.hid hfr2
  have Hr2 := Lib.hid hr2
  have Hq2 := Lib.hid hq2
  have HB2 := Lib.hid hB2
  have H0 := Lib.hid h
  have hl2 : w.heap.size + 1 < W2.heap.size := by omega
  obtain ⟨q0, q1, q2, q3, q4, q5, q6, q7, q8⟩ := nine_of hr2
  have fz2 : ∀ o, W2.frozen? ⟨w.heap.size + 1, o, none⟩ = false := fun o => frozen_of_row W2 _ o _ _ hr2
  clear hr1 hn1 c3 c4 hO5 hb5 hb51 hb6 hb61 hr6 fz k63 k64 hl6 hW2 hr2 hq2 hne2 hs2 hB2 hst2 hfr2 h Hq1 HX1 HN1 Hb1
  go_wp2_with fail
  refine name_calls fun W3 hW3 => ?_
  have hr3 : W3.heap[w.heap.size + 1]? = some (.cells #[.int .i64 s, .int .i64 t2, .int .i64 fin, .slice a5 n c5, .slice none 0 0, .slice none 0 0, .slice none 0 0, .slice none 0 0, .bool false] 74) := by
    rw [hW3]
    exact heap_setCell_same _ (w.heap.size + 1) 8 _ _ _ (heap_setCell_same _ (w.heap.size + 1) 7 _ _ _ (heap_setCell_same _ (w.heap.size + 1) 6 _ _ _ (heap_setCell_same W2 (w.heap.size + 1) 5 _ _ _ Hr2.out)))
  have hne3 : ∀ q, q ≠ w.heap.size + 1 → W3.heap[q]? = W2.heap[q]? := fun q hq => by
    rw [hW3]
    exact (Below.heap_setCell _ ⟨w.heap.size + 1, 8, none⟩ _ q hq).trans ((Below.heap_setCell _ ⟨w.heap.size + 1, 7, none⟩ _ q hq).trans ((Below.heap_setCell _ ⟨w.heap.size + 1, 6, none⟩ _ q hq).trans (Below.heap_setCell W2 ⟨w.heap.size + 1, 5, none⟩ _ q hq)))
  have hs3 : W3.heap.size = W2.heap.size := by rw [hW3]; simp [World.setCell]
  have hB3 : Below w.heap.size w W3 := by
    rw [hW3]
    exact below_set (by omega) (below_set (by omega) (below_set (by omega) (below_set (by omega) HB2.out _) _) _) _
  have hst3 : Stps W3 a5 n xs := Hst2.out.kept fun k hk hl => hne3 k (by have := (Hfr2.out k hk).1; omega)
  have hq3 := (hne3 (w.heap.size + 2) (by omega)).trans Hq2.out
  have hn3 := (cell_of_same (hne3 w.heap.size (by omega)) 0).trans hn2
  have Hr3 := Lib.hid hr3
  have Hst3 := Lib.hid hst3
  have Hq3 := Lib.hid hq3
  have HB3 := Lib.hid hB3
  have HPl := nplan_any W3 nb p (H0.out.below hB3)
  have hl3 : w.heap.size + 1 < W3.heap.size := by omega
  have Hs3 := Lib.hid hs3
  clear hW3 hr3 hne3 hB3 hst3 hq3 hn2 Hr2 Hq2 Hst2 HB2 q0 q1 q2 q3 q4 q5 q6 q7 q8 fz2 hl2 hs3
  refine HPl.mono ?_
  rintro en w7 ⟨⟨ae, ne, ce, aj, nj, cj, as_, ns, cs, al, nl, cl, lv⟩, rfl, _, _, hb7⟩
  dsimp only [PV.val]
  have hn7 := (hb7.cell (p := ⟨w.heap.size, 0, none⟩) (by show w.heap.size < W3.heap.size; omega)).trans hn3
  have hl7 : w.heap.size + 1 < w7.heap.size := Nat.lt_of_lt_of_le hl3 hb7.size
  have Hb7 := Lib.hid hb7
  have hmm := @run_makeMap Tryz.prog
  have hrh := run_hard
  clear hb7 hn3 HPl
  go_upto_region 6 with fail
  refine name_code fun W8 hW8 => ?_
  have hb8 : Below W3.heap.size W3 W8 := by rw [hW8]; exact (Hb7.out.alloc Hb7.out.size _).alloc (by have := Hb7.out.size; simp; omega) _
  have htd : W8.cell? ⟨w7.heap.size + 1, 0, none⟩ = some (.slice none 0 0) := by rw [hW8]; go_simp
  have hl8 : w7.heap.size + 1 < W8.heap.size := by rw [hW8]; simp
  have hl71 : W3.heap.size ≤ w7.heap.size := Hb7.out.size
  have hn8 := (hb8.cell (p := ⟨w.heap.size, 0, none⟩) (by show w.heap.size < W3.heap.size; omega)).trans (show W3.cell? ⟨w.heap.size, 0, none⟩ = _ from (Hb7.out.cell (p := ⟨w.heap.size, 0, none⟩) (by show w.heap.size < W3.heap.size; omega)).symm.trans hn7)
  obtain ⟨q0, q1, q2, q3, q4, q5, q6, q7, q8⟩ := nine_of ((hb8.block (w.heap.size + 1) hl3).trans Hr3.out)
  have hl82 : w.heap.size + 1 < W8.heap.size := Nat.lt_of_lt_of_le hl3 hb8.size
  have HPo := Lib.hid (nports_any W8 nb p (H0.out.below (below_step HB3.out hb8 HB3.out.size)) He.out s t2 fin a5 n c5 xs (Hst3.out.below hb8))
  have Hb8 := Lib.hid hb8
  clear hW8 hb8 hn7 hl7
  go_wp2_with fail
  refine HPo.out.mono ?_
  rintro en w9 ⟨rfl, hb9⟩
  have htd := (hb9.cell (p := ⟨w7.heap.size + 1, 0, none⟩) hl8).trans htd
  have hb93 : Below W3.heap.size W3 w9 := below_step Hb8.out hb9 Hb8.out.size
  have hl9 : w7.heap.size + 1 < w9.heap.size := Nat.lt_of_lt_of_le hl8 hb9.size
  have Hb93 := Lib.hid hb93
  clear hb9 hb93 hn8 q0 q1 q2 q3 q4 q5 q6 q7 q8 HPo hl8
  go_wp2_with fail
  go_loopg [9] 0 (fun m s9 w' => s9 = .int .i64 (-1) ∧ w' = w9)
  case atStart => exact ⟨rfl, rfl⟩
  case round =>
    obtain ⟨rfl, rfl⟩ := hrel
    go_wp2_with fail
    obtain ⟨wo, rfl⟩ : ∃ wo : World, wo = wr := ⟨_, rfl⟩
    go_step3
    go_wp2_with fail
    go_loopg [13] 0 (fun m s13 w' => w' = wo)
    case atStart => rfl
    case round =>
      subst hrel
      obtain ⟨q0, q1, q2, q3, q4, q5, q6, q7, q8⟩ := nine_of ((Hb93.out.block (w.heap.size + 1) hl3).trans Hr3.out)
      have hq9 := (Hb93.out.block (w.heap.size + 2) (by have := Hs3.out; have := hl82; have h4 := Hq3.out; exact (Array.getElem?_eq_some_iff.1 h4).1)).trans Hq3.out
      obtain ⟨z0, z1, z2, z3, z4, z5, z6, z7, z8⟩ := nine_of hq9
      have fz : ∀ o, wr.frozen? ⟨w.heap.size + 2, o, none⟩ = false := fun o => frozen_of_row wr _ o _ _ hq9
      have hl29 : w.heap.size + 1 < wr.heap.size := by omega
      have hl30 : w.heap.size + 2 < wr.heap.size := (Array.getElem?_eq_some_iff.1 hq9).1
      have Hq9 := Lib.hid hq9
      clear hq9
      go_wp2_with fail
      refine name_world fun W hW => ?_
      have hW : W = nineW wr (w.heap.size + 2) (.int .i64 s) (.int .i64 t2) (.int .i64 fin) (.slice a5 n c5) (.slice none 0 0) (.slice none 0 0) (.slice none 0 0) (.slice none 0 0) (.bool false) := hW
      have hbW : W.heap[w.heap.size + 2]? = some (.cells #[.int .i64 s, .int .i64 t2, .int .i64 fin, .slice a5 n c5, .slice none 0 0, .slice none 0 0, .slice none 0 0, .slice none 0 0, .bool false] 74) := by rw [hW]; exact nine_set (.int .i64 s) (.int .i64 t2) (.int .i64 fin) (.slice a5 n c5) (.slice none 0 0) (.slice none 0 0) (.slice none 0 0) (.slice none 0 0) (.bool false) Hq9.out
      have hne : ∀ q, q ≠ w.heap.size + 2 → W.heap[q]? = wr.heap[q]? := by rw [hW]; exact fun q hq => nine_other q hq
      have hsz : W.heap.size = wr.heap.size := by rw [hW]; exact nine_size
      have hos : W.os = wr.os ∧ W.tape = wr.tape ∧ W.output = wr.output := by rw [hW]; exact nine_os
      clear hW q0 q1 q2 q3 q4 q5 q6 q7 q8 z0 z1 z2 z3 z4 z5 z6 z7 z8 fz
      obtain ⟨r0, r1, r2, r3, r4, r5, r6, r7, r8⟩ := nine_of hbW
      refine bodyPost_ret (v := .agg #[.int .i64 s, .int .i64 t2, .int .i64 fin, .slice a5 n c5, .slice none 0 0, .slice none 0 0, .slice none 0 0, .slice none 0 0, .bool false]) (by simp [results, Tryz.results29, go_sem, r0, r1, r2, r3, r4, r5, r6, r7, r8]) rfl ?_
      have hbr : Below w.heap.size w wr := below_step HB3.out Hb93.out HB3.out.size
      have h23 := Hs3.out
      refine ⟨a5, c5, by rw [Hnx.out], ?_, fun k hk => ⟨by have := (Hfr2.out k hk).1; omega, by have := (Hfr2.out k hk).2; have := Hb93.out.size; omega⟩, fun h => (hz5 h).2, ?_⟩
      · rw [Hnx.out]
        exact (Hst3.out.below Hb93.out).kept fun k hk hl => hne k (by have := (Hfr2.out k hk).1; omega)
      · exact ⟨hos.1.trans hbr.os, hos.2.1.trans hbr.tape, hos.2.2.trans hbr.output, by rw [hsz]; exact hbr.size, fun k hk => (hne k (by omega)).trans (hbr.block k hk)⟩
end Go.Proofs.YtcaeglnfflkabaaGreat
