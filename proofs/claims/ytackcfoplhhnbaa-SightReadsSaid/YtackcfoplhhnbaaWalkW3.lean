/- Walk of walk.Run. Condition: the receiver is a net. -/
import Derived.Test.YtackcfoplhhnbaaWalkW2
import Derived.Test.YtackcfoplhhnbaaWalkRun0
set_option maxRecDepth 1000000
namespace Go.Proofs.Ytackcfoplhhnbaa
open Go.ChangeShapes Go.WideShapes Go.ChangeAt Go.RowKit Go.Sort

/-! a block that holds exactly a port -/
def QBox (w : World) (b : Nat) (x : Port) : Prop := w.heap[b]? = some (.cells #[.int .i64 x.e, .int .i64 x.n] 30)
section
variable {w w' : World} {b : Nat} {x : Port}
theorem QBox.lt (h : QBox w b x) : b < w.heap.size := (Array.getElem?_eq_some_iff.1 h).1
theorem QBox.same (h : QBox w b x) (hb : w'.heap[b]? = w.heap[b]?) : QBox w' b x := Eq.trans hb h
theorem QBox.box (h : QBox w b x) : PortBox w b x := by
  have key : ∀ o, w.cell? ⟨b, o, none⟩ = (#[Value.int .i64 x.e, Value.int .i64 x.n])[o]? := fun o => cell_of_row w b o _ _ (0, 0) h
  exact ⟨h.lt, by rw [key]; rfl, by rw [key]; rfl, frozen_of_row w b 0 _ _ h, frozen_of_row w b 1 _ _ h⟩
theorem QBox.put (h : QBox w b x) (y : Port) : QBox ((w.setCell ⟨b, 0, none⟩ (.int .i64 y.e)).setCell ⟨b, 1, none⟩ (.int .i64 y.n)) b y := by
  unfold QBox; exact heap_setCell_same _ b 1 #[.int .i64 y.e, .int .i64 x.n] _ _ (heap_setCell_same w b 0 _ _ _ h)
theorem QBox.alloc (h : QBox w b x) (o : Obj) : QBox (w.alloc o) b x := h.same (Below.heap_alloc w o b h.lt)
theorem QBox.grown (h : QBox w b x) {row : Option Nat} (hg : w.grownBy w' row) (hr : some b ≠ row) : QBox w' b x := h.same (hg.block b h.lt hr)
theorem QBox.below (h : QBox w b x) (hb : Below w.heap.size w w') : QBox w' b x := h.same (hb.block b h.lt)
theorem qbox_new (w : World) (x : Port) : QBox (w.alloc (.cells #[.int .i64 x.e, .int .i64 x.n] 30)) w.heap.size x := heap_alloc_new w _
end
theorem one_port' (x : Port) : ∀ u ∈ [Value.int .i64 x.e, .int .i64 x.n], u.oneCell' = true := by intro u hu; simp at hu; rcases hu with rfl | rfl <;> rfl
/-- what a Run answers -/
def RunPost (w : World) (l : List Port × Int) (e : Ending) (w' : World) : Prop := ∃ a n c, e = .returned (.tuple #[.slice a n c, .int .i64 l.2]) ∧ Row 2 encPort w' a n l.1 ∧ (a = none → c = 0) ∧ Below w.heap.size w w'
theorem run_stop {p : Plan} {pos : List Int} {k : Nat} {h : Port} (hs : (step p pos h).2 ≠ 0) : runGo p pos k h = ([], (step p pos h).2) := by
  cases k <;> (unfold runGo; rw [if_pos hs])
theorem run_most {p : Plan} {pos : List Int} {h : Port} (hs : (step p pos h).2 = 0) : runGo p pos 0 h = ([], 5) := by unfold runGo; rw [if_neg (by simp [hs])]
theorem run_go {p : Plan} {pos : List Int} {k : Nat} {h : Port} (hs : (step p pos h).2 = 0) : runGo p pos (k + 1) h = ((step p pos h).1 :: (runGo p pos k (step p pos h).1).1, (runGo p pos k (step p pos h).1).2) := by
  rw [runGo, if_neg (by simp [hs])]
theorem runMost_eq (m : Int) : max 0 (min m 1000) = (runMost m : Int) := by unfold runMost; omega
theorem runMost_le (m : Int) : runMost m ≤ 1000 := by unfold runMost; omega
theorem flat_snoc (l : List Port) (x : Port) : l.flatMap encPort ++ [.int .i64 x.e, .int .i64 x.n] = (l ++ [x]).flatMap encPort := by simp [List.flatMap_append, encPort]
set_option maxHeartbeats 4000000 in
theorem nrun_any (w : World) (b : Nat) (p : Plan) (hn : NetAt w b p) (a : Option Addr) (n c : Nat) (pos : List Int) (hr : Hid (Ints w a n pos)) (hd : Port) (hw : hd.wf) (most : Int) :
    Calls Try.prog 25 #[.pointer (some ⟨b, 0, none⟩), .slice a n c, hd.val, .int .i64 most] w (RunPost w (run p pos hd most)) := by
  dsimp only [Port.val]
  have Hba := Lib.hid (below_new w (.cells #[.int .i64 hd.e, .int .i64 hd.n] 30))
  have HQ := Lib.hid (qbox_new w hd)
  have G := Lib.hid (good_of hn.ok)
  have HN := Lib.hid hn
  have Hm := Lib.hid (runMost_eq most)
  have hm := runMost_le most
  obtain ⟨ii, hii, zi1, zi2, zi3⟩ := info_parts info_port
  clear hn
  go_enter Try.func25, Try.ntmps25
  go_wp2_with fail
  refine scope_first (fun k a' w' => ∃ (v u4 u5 u7 u11 u12 u13 u14 u15 u16 u17 u18 u19 u20 u21 u22 u23 u24 u25 u26 u27 u28 u29 u30 u31 u32 u33 u34 u35 : Value) (xs : List Port) (h' : Port), a' = { tmps := #[.pointer (some ⟨b, 0, none⟩), .slice a n c, .agg #[.int .i64 hd.e, .int .i64 hd.n], .int .i64 (runMost most : Int), u4, u5, .pointer (some ⟨w.heap.size, 0, none⟩), u7, .slice none 0 0, .int .i64 0, v, u11, u12, u13, u14, u15, u16, u17, u18, u19, u20, u21, u22, u23, u24, u25, u26, u27, u28, u29, u30, u31, u32, u33, u34, u35], defers := [] } ∧
      xs.length + k = runMost most ∧ Hid (runGo p pos (runMost most) hd = (xs ++ (runGo p pos k h').1, (runGo p pos k h').2)) ∧ w'.ownsRow (w.heap.size + 1) 30 2 v xs.length (xs.flatMap encPort) ∧ QBox w' w.heap.size h' ∧ h'.wf ∧ Below w.heap.size w w')
    (fun a' w' => ∃ (u0 u1 u2 u3 u4 u5 u6 u7 u8 u9 u11 u13 u14 u15 u16 u17 u18 u19 u20 u21 u22 u23 u24 u25 u26 u27 u28 u29 u30 u31 u32 u33 u34 u35 : Value) (a1 : Option Addr) (n1 c1 : Nat) (en1 : Int), a' = { tmps := #[u0, u1, u2, u3, u4, u5, u6, u7, u8, u9, .slice a1 n1 c1, u11, .int .i64 en1, u13, u14, u15, u16, u17, u18, u19, u20, u21, u22, u23, u24, u25, u26, u27, u28, u29, u30, u31, u32, u33, u34, u35], defers := [] } ∧ RunPost w (run p pos hd most) (.returned (.tuple #[.slice a1 n1 c1, .int .i64 en1])) w') rfl rfl ?first ?pass ?last
  case first =>
    intro hpass
    go_wp2_with fail
    all_goals
      go_step3
      change (_ : Act → World → Prop) _ _
      apply_assumption
      refine hpass (runMost most) _ _ ⟨.slice none 0 0, ?_, ?_, ?_, ?_, ?_, ?_, ?_, ?_, ?_, ?_, ?_, ?_, ?_, ?_, ?_, ?_, ?_, ?_, ?_, ?_, ?_, ?_, ?_, ?_, ?_, ?_, ?_, ?_, [], hd, ?fr, by simp, Lib.hid (by simp), own_nil _ _ _ _, HQ.out, hw, Hba.out⟩
      case fr => first
        | rw [show ((runMost most : Nat) : Int) = 1000 by unfold runMost; omega]
        | rw [show ((runMost most : Nat) : Int) = most by unfold runMost; omega]
        | rw [show ((runMost most : Nat) : Int) = 0 by unfold runMost; omega]
  case pass =>
    rintro k a' wr ⟨v, u4, u5, u7, u11, u12, u13, u14, u15, u16, u17, u18, u19, u20, u21, u22, u23, u24, u25, u26, u27, u28, u29, u30, u31, u32, u33, u34, u35, xs, h', rfl, hk, hrel, own, hq, hw', hb⟩
    have HS := Lib.hid (nstep_any wr b p (HN.out.below hb) a n c pos (Lib.hid (hr.out.below hb)) h' hw')
    dsimp only [Port.val] at HS
    obtain ⟨_, x0, x1, _⟩ := hq.box
    obtain ⟨a1, c1, rfl, hbd, hc1⟩ := own_slice own
    have Own := Lib.hid own
    have Hq := Lib.hid hq
    have Hb := Lib.hid hb
    have hz := hb.size
    have hqz := hq.lt
    clear own hq hb HQ Hba
    by_cases e0 : (step p pos h').2 = 0
    · have hys : step p pos h' = ((step p pos h').1, 0) := by rw [← e0]
      obtain ⟨y, hy⟩ : ∃ y, y = (step p pos h').1 := ⟨_, rfl⟩
      rw [← hy] at hys
      have Hwy := Lib.hid (step_wf G.out hys)
      rw [hys] at HS
      dsimp only at HS
      cases k with
      | zero =>
        have Hs := Lib.hid (show run p pos hd most = (xs, 5) by unfold run; rw [hrel.out, run_most e0]; simp)
        have q1 : (((xs.length : Nat) : Int) == ((runMost most : Nat) : Int)) = true := by simp; omega
        clear hrel e0 hys hy hk
        go_wp2_with fail
        refine HS.out.mono ?_
        rintro en w1 ⟨rfl, hb1⟩
        have Hb1 := Lib.hid (below_step Hb.out (hb1.alloc hb1.size (.cells #[.int .i64 y.e, .int .i64 y.n] 30)) hz)
        have Ow := Lib.hid (owns_below Own.out (hb1.alloc hb1.size (.cells #[.int .i64 y.e, .int .i64 y.n] 30)))
        clear hb1
        go_wp2_with fail
        go_step3
        refine .inr ⟨rfl, _, _, _, _, _, _, _, _, _, _, _, _, _, _, _, _, _, _, _, _, _, _, _, _, _, _, _, _, _, _, _, _, _, _, a1, xs.length, c1, 5, rfl, a1, xs.length, c1, ?_, ?_, ?_, Hb1.out⟩
        · rw [Hs.out]
        · rw [Hs.out]; exact (owns_row (sz := 2) (enc := encPort) (fun _ => rfl) Ow.out (by omega)).1
        · exact fun h => (hc1 h).2
      | succ k =>
        have q1 : (((xs.length : Nat) : Int) == ((runMost most : Nat) : Int)) = false := by simp; omega
        have Hs := Lib.hid (show runGo p pos (runMost most) hd = ((xs ++ [y]) ++ (runGo p pos k y).1, (runGo p pos k y).2) by rw [hrel.out, run_go e0, ← hy]; simp)
        have hxl : xs.length ≤ 1000 := by omega
        clear hrel e0 hys hy
        go_wp2_with fail
        refine HS.out.mono ?_
        rintro en w1 ⟨rfl, hb1⟩
        have hz1 := hb1.size
        have Own1 := Lib.hid (owns_below Own.out (hb1.alloc hb1.size (.cells #[.int .i64 y.e, .int .i64 y.n] 30)))
        have Hq1 := Lib.hid ((Hq.out.below hb1).alloc (.cells #[.int .i64 y.e, .int .i64 y.n] 30))
        have Hy1 := Lib.hid (qbox_new w1 y)
        have Hb1 := Lib.hid (below_step Hb.out (hb1.alloc hb1.size (.cells #[.int .i64 y.e, .int .i64 y.n] 30)) hz)
        have hne := fun k => Own.out.lt k
        clear hb1
        obtain ⟨_, y0, y1, _⟩ := Hy1.out.box
        go_wp2_with (at_builtin; refine wpList_append_own _ rfl _ _ 42 rfl (w.heap.size + 1) 30 ii (.agg #[.int .i64 0, .int .i64 0]) 2 16 Try.underlying42 hii zi1 zi2 zi3 rfl (by decide) _ _ _ rfl (Own1.out.alloc _) ⟨w1.heap.size + 1, 0, none⟩ 1 1 [.int .i64 y.e, .int .i64 y.n] rfl rfl (by simpa using news_new (w1.alloc (.cells #[.int .i64 y.e, .int .i64 y.n] 30)) #[.int .i64 y.e, .int .i64 y.n] 30) (one_port' y) (by simp [maxLen]; omega) (by omega) (by simp; omega) ?_)
        intro v' w4 hown4 hgrow4 _
        have Hq4 := Lib.hid ((Hq1.out.alloc (.cells #[.int .i64 y.e, .int .i64 y.n] 30)).grown hgrow4 (own_ne (Own1.out.alloc (.cells #[.int .i64 y.e, .int .i64 y.n] 30)) (by omega)))
        have Hy4 := Lib.hid ((Hy1.out.alloc (.cells #[.int .i64 y.e, .int .i64 y.n] 30)).grown hgrow4 (fun hk => by have := (hne _ hk.symm).2; omega))
        have Hb4 := Lib.hid (grown_below (Hb1.out.alloc Hb1.out.size (.cells #[.int .i64 y.e, .int .i64 y.n] 30)) (Own1.out.alloc (.cells #[.int .i64 y.e, .int .i64 y.n] 30)) (by omega) (by simp; omega) hgrow4)
        have Own4 := Lib.hid hown4
        clear hown4 hgrow4 y0 y1 x0 x1
        obtain ⟨_, y0, y1, _⟩ := Hy4.out.box
        obtain ⟨_, x0, x1, f0, f1⟩ := Hq4.out.box
        go_wp2_with fail
        go_step3
        refine .inl ⟨rfl, k, by omega, v', _, _, _, _, _, _, _, _, _, _, _, _, _, _, _, _, _, _, _, _, _, _, _, _, _, _, _, _, xs ++ [y], y, rfl, ?_, Hs.out, ?_, Hq4.out.put y, Hwy.out, below_set2 Hb4.out (Nat.le_refl _) _ _⟩
        · simp; omega
        · rw [List.length_append, List.length_singleton, ← flat_snoc]
          exact own_low (Nat.lt_succ_self _) (own_low (Nat.lt_succ_self _) Own4.out _) _
    · have Hs := Lib.hid (show run p pos hd most = (xs, (step p pos h').2) by unfold run; rw [hrel.out, run_stop e0]; simp)
      obtain ⟨ye, yn, s2, hss⟩ : ∃ ye yn s2, step p pos h' = (⟨ye, yn⟩, s2) := ⟨_, _, _, rfl⟩
      have q0 : (s2 != 0) = true := by rw [hss] at e0; simpa [bne_iff_ne] using e0
      rw [hss] at HS Hs
      dsimp only at HS Hs
      clear hrel e0 hss hk
      go_wp2_with fail
      refine HS.out.mono ?_
      rintro en w1 ⟨rfl, hb1⟩
      have Hb1 := Lib.hid (below_step Hb.out (hb1.alloc hb1.size (.cells #[.int .i64 ye, .int .i64 yn] 30)) hz)
      have Ow := Lib.hid (owns_below Own.out (hb1.alloc hb1.size (.cells #[.int .i64 ye, .int .i64 yn] 30)))
      clear hb1
      go_wp2_with fail
      go_step3
      refine .inr ⟨rfl, _, _, _, _, _, _, _, _, _, _, _, _, _, _, _, _, _, _, _, _, _, _, _, _, _, _, _, _, _, _, _, _, _, _, a1, xs.length, c1, s2, rfl, a1, xs.length, c1, ?_, ?_, ?_, Hb1.out⟩
      · rw [Hs.out]
      · rw [Hs.out]; exact (owns_row (sz := 2) (enc := encPort) (fun _ => rfl) Ow.out (by omega)).1
      · exact fun h => (hc1 h).2
  case last =>
    rintro a' wl ⟨u0, u1, u2, u3, u4, u5, u6, u7, u8, u9, u11, u13, u14, u15, u16, u17, u18, u19, u20, u21, u22, u23, u24, u25, u26, u27, u28, u29, u30, u31, u32, u33, u34, u35, a1, n1, c1, en1, rfl, a2, n2, c2, he, h1, h2, h3⟩
    go_wp2_with fail
    rw [Exit.noGoto_ret]
    go_ret2
    exact ⟨a2, n2, c2, he, h1, h2, h3⟩
end Go.Proofs.Ytackcfoplhhnbaa
