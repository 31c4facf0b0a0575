/- Walks of slices.Clone at steps and needs, and of road.path.road. Condition: what is read. -/
import Derived.Test.YtcaeglnfflkabaaGreatTopW3
set_option maxRecDepth 1000000
namespace Go.Proofs.YtcaeglnfflkabaaGreat
open Go.ChangeShapes Go.WideShapes Go.ChangeAt Go.RowKit Go.Sort

theorem clone_stp (w : World) (a : Option Addr) (n c : Nat) (xs : List Stp) (h : Row 3 encStp w a n xs) (hc : a = none → c = 0) (hn : n ≤ 1000) :
    Calls Tryz.prog 70 #[.slice a n c] w (ClonePost 3 encStp 146 w n xs) := by
  cases a with
  | none =>
    have hc0 := hc rfl
    obtain ⟨hn0, hx0⟩ := row_nil_none h
    subst hc0 hn0 hx0
    have hq := fun w' => eql_nil (P := Tryz.prog) w' 71 146 none 0 0 Tryz.underlying71
    go_enter Tryz.func70, Tryz.ntmps70
    go_wp2_with fail
    go_ret
    exact ⟨none, 0, rfl, World.ownsRow_nil _ _ _ _, fun _ => ⟨rfl, rfl⟩, Below.refl _ _⟩
  | some ad =>
    have hrow := Lib.hid (h.below (below_new w (.cells #[] 146)))
    have hlit := Lib.hid (lit_ownJ (w := w) (e := 146) (sz := 3) (Nat.le_refl _) rfl)
    clear h hc
    have hq := fun w' => eql_nil (P := Tryz.prog) w' 71 146 (some ad) n c Tryz.underlying71
    go_enter Tryz.func70, Tryz.ntmps70
    go_wp2_with (at_builtin; refine wpList_app0 (enc := encStp) (fun _ => rfl) encStp_one _ rfl _ _ 71 rfl w.heap.size 146 (.agg #[.int .i64 0, .int .i64 0, .int .i64 0]) 24 Tryz.underlying71 info_stp rfl (by decide) w.heap.size rfl hlit.out (some ad) n c xs rfl hrow.out (by intro h; cases h) (by simp only [maxLen]; omega) (by omega) (by simp) ?_)
    intro v w4 hown hgrow
    obtain ⟨a2, c2, rfl, _, hz⟩ := own_slice hown
    have Own := Lib.hid hown
    have Hb := Lib.hid (show Below w.heap.size w w4 from (below_new w (.cells #[] 146)).grown hgrow (by simp) (by intro k hk; cases hk; exact Nat.le_refl _))
    have Hz := Lib.hid hz
    clear hown hgrow hrow hlit hz
    go_wp2_with fail
    go_ret
    exact ⟨a2, c2, rfl, Own.out, Hz.out, Hb.out⟩
theorem setCell_os (w : World) (a : Addr) (v : Value) : (w.setCell a v).os = w.os := rfl
theorem setCell_tape (w : World) (a : Addr) (v : Value) : (w.setCell a v).tape = w.tape := rfl
theorem setCell_output (w : World) (a : Addr) (v : Value) : (w.setCell a v).output = w.output := rfl
/-- nine cells of a block, stored one by one -/
def nineW (w : World) (b : Nat) (u0 u1 u2 u3 u4 u5 u6 u7 u8 : Value) : World := ((((((((w.setCell ⟨b, 0, none⟩ u0).setCell ⟨b, 1, none⟩ u1).setCell ⟨b, 2, none⟩ u2).setCell ⟨b, 3, none⟩ u3).setCell ⟨b, 4, none⟩ u4).setCell ⟨b, 5, none⟩ u5).setCell ⟨b, 6, none⟩ u6).setCell ⟨b, 7, none⟩ u7).setCell ⟨b, 8, none⟩ u8
theorem nine_set {w : World} {b : Nat} {T : TypeId} {v0 v1 v2 v3 v4 v5 v6 v7 v8 : Value} (u0 u1 u2 u3 u4 u5 u6 u7 u8 : Value) (h : w.heap[b]? = some (.cells #[v0, v1, v2, v3, v4, v5, v6, v7, v8] T)) :
    (nineW w b u0 u1 u2 u3 u4 u5 u6 u7 u8).heap[b]? = some (.cells #[u0, u1, u2, u3, u4, u5, u6, u7, u8] T) := by
  have h0 : (w.setCell ⟨b, 0, none⟩ u0).heap[b]? = some (.cells #[u0, v1, v2, v3, v4, v5, v6, v7, v8] T) := heap_setCell_same _ b 0 _ _ u0 h
  have h1 : ((w.setCell ⟨b, 0, none⟩ u0).setCell ⟨b, 1, none⟩ u1).heap[b]? = some (.cells #[u0, u1, v2, v3, v4, v5, v6, v7, v8] T) := heap_setCell_same _ b 1 _ _ u1 h0
  have h2 : (((w.setCell ⟨b, 0, none⟩ u0).setCell ⟨b, 1, none⟩ u1).setCell ⟨b, 2, none⟩ u2).heap[b]? = some (.cells #[u0, u1, u2, v3, v4, v5, v6, v7, v8] T) := heap_setCell_same _ b 2 _ _ u2 h1
  have h3 : ((((w.setCell ⟨b, 0, none⟩ u0).setCell ⟨b, 1, none⟩ u1).setCell ⟨b, 2, none⟩ u2).setCell ⟨b, 3, none⟩ u3).heap[b]? = some (.cells #[u0, u1, u2, u3, v4, v5, v6, v7, v8] T) := heap_setCell_same _ b 3 _ _ u3 h2
  have h4 : (((((w.setCell ⟨b, 0, none⟩ u0).setCell ⟨b, 1, none⟩ u1).setCell ⟨b, 2, none⟩ u2).setCell ⟨b, 3, none⟩ u3).setCell ⟨b, 4, none⟩ u4).heap[b]? = some (.cells #[u0, u1, u2, u3, u4, v5, v6, v7, v8] T) := heap_setCell_same _ b 4 _ _ u4 h3
  have h5 : ((((((w.setCell ⟨b, 0, none⟩ u0).setCell ⟨b, 1, none⟩ u1).setCell ⟨b, 2, none⟩ u2).setCell ⟨b, 3, none⟩ u3).setCell ⟨b, 4, none⟩ u4).setCell ⟨b, 5, none⟩ u5).heap[b]? = some (.cells #[u0, u1, u2, u3, u4, u5, v6, v7, v8] T) := heap_setCell_same _ b 5 _ _ u5 h4
  have h6 : (((((((w.setCell ⟨b, 0, none⟩ u0).setCell ⟨b, 1, none⟩ u1).setCell ⟨b, 2, none⟩ u2).setCell ⟨b, 3, none⟩ u3).setCell ⟨b, 4, none⟩ u4).setCell ⟨b, 5, none⟩ u5).setCell ⟨b, 6, none⟩ u6).heap[b]? = some (.cells #[u0, u1, u2, u3, u4, u5, u6, v7, v8] T) := heap_setCell_same _ b 6 _ _ u6 h5
  have h7 : ((((((((w.setCell ⟨b, 0, none⟩ u0).setCell ⟨b, 1, none⟩ u1).setCell ⟨b, 2, none⟩ u2).setCell ⟨b, 3, none⟩ u3).setCell ⟨b, 4, none⟩ u4).setCell ⟨b, 5, none⟩ u5).setCell ⟨b, 6, none⟩ u6).setCell ⟨b, 7, none⟩ u7).heap[b]? = some (.cells #[u0, u1, u2, u3, u4, u5, u6, u7, v8] T) := heap_setCell_same _ b 7 _ _ u7 h6
  have h8 : (((((((((w.setCell ⟨b, 0, none⟩ u0).setCell ⟨b, 1, none⟩ u1).setCell ⟨b, 2, none⟩ u2).setCell ⟨b, 3, none⟩ u3).setCell ⟨b, 4, none⟩ u4).setCell ⟨b, 5, none⟩ u5).setCell ⟨b, 6, none⟩ u6).setCell ⟨b, 7, none⟩ u7).setCell ⟨b, 8, none⟩ u8).heap[b]? = some (.cells #[u0, u1, u2, u3, u4, u5, u6, u7, u8] T) := heap_setCell_same _ b 8 _ _ u8 h7
  exact h8
theorem nine_other {w : World} {b : Nat} {u0 u1 u2 u3 u4 u5 u6 u7 u8 : Value} (q : Nat) (hq : q ≠ b) : (nineW w b u0 u1 u2 u3 u4 u5 u6 u7 u8).heap[q]? = w.heap[q]? := by
  unfold nineW
  exact (Below.heap_setCell _ ⟨b, 8, none⟩ _ q hq).trans ((Below.heap_setCell _ ⟨b, 7, none⟩ _ q hq).trans ((Below.heap_setCell _ ⟨b, 6, none⟩ _ q hq).trans ((Below.heap_setCell _ ⟨b, 5, none⟩ _ q hq).trans ((Below.heap_setCell _ ⟨b, 4, none⟩ _ q hq).trans ((Below.heap_setCell _ ⟨b, 3, none⟩ _ q hq).trans ((Below.heap_setCell _ ⟨b, 2, none⟩ _ q hq).trans ((Below.heap_setCell _ ⟨b, 1, none⟩ _ q hq).trans (Below.heap_setCell _ ⟨b, 0, none⟩ _ q hq))))))))
theorem nine_size {w : World} {b : Nat} {u0 u1 u2 u3 u4 u5 u6 u7 u8 : Value} : (nineW w b u0 u1 u2 u3 u4 u5 u6 u7 u8).heap.size = w.heap.size := by simp [nineW, World.setCell]
theorem nine_os {w : World} {b : Nat} {u0 u1 u2 u3 u4 u5 u6 u7 u8 : Value} : (nineW w b u0 u1 u2 u3 u4 u5 u6 u7 u8).os = w.os ∧ (nineW w b u0 u1 u2 u3 u4 u5 u6 u7 u8).tape = w.tape ∧ (nineW w b u0 u1 u2 u3 u4 u5 u6 u7 u8).output = w.output := by
  simp only [nineW, setCell_os, setCell_tape, setCell_output, and_self]
def RoadPost (w : World) (frm to fin : Int) (xs : List Stp) (e : Ending) (w' : World) : Prop := ∃ a c, e = .returned (.agg #[.int .i64 frm, .int .i64 to, .int .i64 fin, .slice a xs.length c, .slice none 0 0, .slice none 0 0, .slice none 0 0, .slice none 0 0, .bool false]) ∧
  Stps w' a xs.length xs ∧ (∀ k, a.map (·.block) = some k → w.heap.size ≤ k ∧ k < w'.heap.size) ∧ (a = none → c = 0) ∧ Below w.heap.size w w'
set_option maxHeartbeats 4000000 in
theorem road_any (w : World) (b base : Nat) (berth frm to fin : Int) (sa pa : Option Addr) (sn sc pc : Nat) (lv : Value) (xs : List Stp) (ps : List Int) (ls : List WS) (h : PathIs w b base berth (.slice sa sn sc) (.slice pa sn pc) lv xs ps ls) (h1 : xs.length = sn) (h2 : ps.length = sn) (hz : ∀ q ∈ ps, q = 0) (hn : sn ≤ 12) :
    Calls Tryz.prog 129 #[.pointer (some ⟨b, 0, none⟩), .int .i64 frm, .int .i64 to, .int .i64 fin] w (RoadPost w frm to fin xs) := by
  obtain ⟨W0, hW0⟩ : ∃ W0, W0 = w.alloc (.cells #[.int .i64 0, .int .i64 0, .int .i64 0, .slice none 0 0, .slice none 0 0, .slice none 0 0, .slice none 0 0, .slice none 0 0, .bool false] 74) := ⟨_, rfl⟩
  have Hb0 := Lib.hid (show Below w.heap.size w W0 by rw [hW0]; exact below_new w _)
  have hr0 : W0.heap[w.heap.size]? = some (.cells #[.int .i64 0, .int .i64 0, .int .i64 0, .slice none 0 0, .slice none 0 0, .slice none 0 0, .slice none 0 0, .slice none 0 0, .bool false] 74) := by rw [hW0]; exact heap_alloc_new w _
  have hs0 : W0.heap.size = w.heap.size + 1 := by rw [hW0]; simp
  have HP := Lib.hid (h.below Hb0.out)
  have hbl := h.bl
  have o1 := HP.out.os
  have o2 := HP.out.oi
  rw [h1] at o1
  rw [h2] at o2
  have hR1 := owns_row encStp_len o1 (by decide)
  have hR2 := owns_row encInt_lenT o2 (by decide)
  have H1 := Lib.hid h1
  have H2 := Lib.hid h2
  have Hz := Lib.hid hz
  have c1 := HP.out.c1
  have c2 := HP.out.c2
  have hbl0 := HP.out.bl
  obtain ⟨_, _, hq, _, hcz⟩ := own_slice o1
  cases hq
  have HC := Lib.hid (clone_stp W0 sa sn sc xs hR1.1 (fun h => (hcz h).2) (by omega))
  have HR1 := Lib.hid hR1.1
  have HR2 := Lib.hid hR2.1
  have Hr0 := Lib.hid hr0
  clear h h1 h2 hz o1 o2 hR1 hR2 hr0 hcz
  subst hW0
  go_enter Tryz.func129, Tryz.ntmps129
  go_wp2_with fail
  refine HC.out.mono ?_
  rintro en w1 ⟨a1, c1', rfl, hO1, hz1, hb1⟩
  have hbB := hb1.alloc hb1.size (.cells #[.int .i64 frm, .int .i64 to, .int .i64 fin, .slice a1 sn c1', .slice none 0 0, .slice none 0 0, .slice none 0 0, .slice none 0 0, .bool false] 74)
  have d1 := (hbB.cell (p := ⟨b, 1, none⟩) hbl0).trans c1
  clear c1
  go_wp2_with fail
  refine name_code fun W2 hW2 => ?_
  have HB2 := Lib.hid (show Below _ _ W2 by rw [hW2]; exact hbB)
  have hnew : W2.heap[w1.heap.size]? = some (.cells #[.int .i64 frm, .int .i64 to, .int .i64 fin, .slice a1 sn c1', .slice none 0 0, .slice none 0 0, .slice none 0 0, .slice none 0 0, .bool false] 74) := by rw [hW2]; exact heap_alloc_new w1 _
  have Hnew := Lib.hid hnew
  have HO2 := Lib.hid (show W2.ownsRow _ _ _ _ _ _ by rw [hW2]; exact hO1.alloc _)
  have hW2s : W2.heap.size = w1.heap.size + 1 := by rw [hW2]; simp
  have hl1 : w.heap.size < w1.heap.size := by have := hb1.size; omega
  have HR2' := Lib.hid (HR2.out.below HB2.out)
  have HR1' := Lib.hid (HR1.out.below HB2.out)
  have hbl2 : b < W2.heap.size := Nat.lt_of_lt_of_le hbl0 HB2.out.size
  have d2 : W2.cell? ⟨b, 2, none⟩ = some (.slice pa sn pc) := (HB2.out.cell (p := ⟨b, 2, none⟩) hbl0).trans c2
  clear hW2 hbB hO1 hb1 d1 c2 hnew HC HR1 HR2 hbl0 HP
  go_loopg [26] sn (fun k s26 wr => ∃ j : Nat, j + k = sn ∧ s26 = .int .i64 j ∧ Hid (Below W2.heap.size W2 wr))
  case atStart => exact ⟨0, by omega, rfl, Lib.hid (Below.refl _ _)⟩
  case round =>
    obtain ⟨j, hj, rfl, HB⟩ := hrel
    have Hj := Lib.hid hj; clear hj
    by_cases hlt : j < sn
    · obtain ⟨x, hx⟩ := get_some HR1'.out.len hlt
      obtain ⟨q, hq⟩ := get_some HR2'.out.len hlt
      obtain ⟨g1, o1, rfl, hg1, e1, e2, e3⟩ := (HR1'.out.below HB.out).stp hx
      have hq0 : q = 0 := Hz.out q (List.mem_of_getElem? hq)
      subst hq0
      obtain ⟨g2, o2, rfl, hg2, e4⟩ := (HR2'.out.below HB.out).int hq
      have d2' := (HB.out.cell (p := ⟨b, 2, none⟩) hbl2).trans d2
      have hbl3 : b < wr.heap.size := Nat.lt_of_lt_of_le hbl2 HB.out.size
      clear hx hq d2
      go_wp2_with fail
      go_roundg (gk - 1)
      case measure => have := Hj.out; omega
      case rel => exact ⟨j + 1, by have := Hj.out; omega, by go_num, Lib.hid (HB.out.alloc HB.out.size _)⟩
    · have hlt9 : w1.heap.size < W2.heap.size := by omega
      have hlt8 : w.heap.size < W2.heap.size := by omega
      obtain ⟨n0, n1, n2, n3, n4, n5, n6, n7, n8⟩ := nine_of ((HB.out.block _ hlt9).trans Hnew.out)
      have hres : wr.heap[w.heap.size]? = some (.cells #[.int .i64 0, .int .i64 0, .int .i64 0, .slice none 0 0, .slice none 0 0, .slice none 0 0, .slice none 0 0, .slice none 0 0, .bool false] 74) := (HB.out.block _ hlt8).trans ((HB2.out.block _ (by rw [hs0]; omega)).trans Hr0.out)
      obtain ⟨r0, r1, r2, r3, r4, r5, r6, r7, r8⟩ := nine_of hres
      have fz : ∀ o, wr.frozen? ⟨w.heap.size, o, none⟩ = false := fun o => frozen_of_row wr _ o _ _ hres
      have hl8 : w.heap.size < wr.heap.size := Nat.lt_of_lt_of_le hlt8 HB.out.size
      have hl9 : w1.heap.size < wr.heap.size := Nat.lt_of_lt_of_le hlt9 HB.out.size
      have Hres := Lib.hid hres
      clear hres
      go_wp2_with fail
      refine name_world fun W hW => ?_
      have hW : W = nineW wr w.heap.size (.int .i64 frm) (.int .i64 to) (.int .i64 fin) (.slice a1 sn c1') (.slice none 0 0) (.slice none 0 0) (.slice none 0 0) (.slice none 0 0) (.bool false) := hW
      have hbW : W.heap[w.heap.size]? = some (.cells #[.int .i64 frm, .int .i64 to, .int .i64 fin, .slice a1 sn c1', .slice none 0 0, .slice none 0 0, .slice none 0 0, .slice none 0 0, .bool false] 74) := by rw [hW]; exact nine_set (.int .i64 frm) (.int .i64 to) (.int .i64 fin) (.slice a1 sn c1') (.slice none 0 0) (.slice none 0 0) (.slice none 0 0) (.slice none 0 0) (.bool false) Hres.out
      have hne : ∀ q, q ≠ w.heap.size → W.heap[q]? = wr.heap[q]? := by rw [hW]; exact fun q hq => nine_other q hq
      have hsz : W.heap.size = wr.heap.size := by rw [hW]; exact nine_size
      have hos : W.os = wr.os ∧ W.tape = wr.tape ∧ W.output = wr.output := by rw [hW]; exact nine_os
      clear hW r0 r1 r2 r3 r4 r5 r6 r7 r8 n0 n1 n2 n3 n4 n5 n6 n7 n8 fz
      obtain ⟨r0, r1, r2, r3, r4, r5, r6, r7, r8⟩ := nine_of hbW
      refine bodyPost_ret (v := .agg #[.int .i64 frm, .int .i64 to, .int .i64 fin, .slice a1 sn c1', .slice none 0 0, .slice none 0 0, .slice none 0 0, .slice none 0 0, .bool false]) (by simp [results, Tryz.results129, go_sem, r0, r1, r2, r3, r4, r5, r6, r7, r8]) rfl ?_
      have hbr : Below w.heap.size w wr := below_step Hb0.out (below_step HB2.out HB.out HB2.out.size) Hb0.out.size
      have hrow := (owns_row encStp_len (HO2.out) (by decide)).1.below HB.out
      rw [← H1.out] at hrow ⊢
      have hfr : ∀ k, a1.map (·.block) = some k → w.heap.size + 1 ≤ k ∧ k < W2.heap.size := by
        intro k hk
        cases a1 with
        | none => cases hk
        | some ad =>
          have h1 := HO2.out.lt k (by simpa [Value.ownBlock] using hk)
          rw [hs0] at h1
          exact h1
      refine ⟨a1, c1', rfl, hrow.kept (fun k hk hl => hne k (by have := (hfr k hk).1; omega)), fun k hk => ⟨by have := (hfr k hk).1; omega, by have := (hfr k hk).2; have := HB.out.size; omega⟩, fun h => (hz1 h).2, ?_⟩
      exact ⟨hos.1.trans hbr.os, hos.2.1.trans hbr.tape, hos.2.2.trans hbr.output, by rw [hsz]; exact hbr.size, fun k hk => (hne k (by omega)).trans (hbr.block k hk)⟩
end Go.Proofs.YtcaeglnfflkabaaGreat
