/- Walk of semaphoreref12's search.come. Condition: the search is in memory. -/
import Derived.Test.YtnkpiijljfjmkaaClashS4
set_option maxRecDepth 1000000
namespace Go.Proofs.Ytnkpiijljfjmkaa
open Go.ChangeShapes Go.WideShapes Go.ChangeAt Go.RowKit Go.Sort

set_option maxHeartbeats 16000000 in
theorem come_any (F : Fix) : ∀ f, ComeOk F f := by
 intro f
 induction f with
 | zero =>
  intro w w0 b base vg vz vh vm s y hx hs ho hy hf
  have Ho := Lib.hid ho
  have Hf := Lib.hid hf
  have Hy := Lib.hid hy
  have hle := hs.le
  obtain ⟨ag, cg, rfl, _, _⟩ := own_slice hs.og
  obtain ⟨az, cz, rfl, _, _⟩ := own_slice hs.oz
  obtain ⟨ah, ch, rfl, _, _⟩ := own_slice hs.oh
  obtain ⟨am, cm, rfl, _, _⟩ := own_slice hs.om
  have Hx := Lib.hid hx
  have Hs := Lib.hid hs
  obtain ⟨W0, hW0⟩ : ∃ W0, W0 = w.alloc (.cells #[.int .i64 y.e, .int .i64 y.n] 86) := ⟨_, rfl⟩
  have Hb0 := Lib.hid (show Below w.heap.size w W0 by rw [hW0]; exact below_new1 w _)
  have HY0 := Lib.hid (show YBox W0 w.heap.size y by rw [hW0]; exact ybox_new w y)
  have HN0 := Lib.hid (NearR.of_below (b := b) (l := [.slice ag s.r.guards.length cg, .slice az s.r.zone.length cz, .slice ah s.r.holds.length ch, .slice am s.met.length cm]) Hb0.out)
  have HX0 := Lib.hid (Hx.out.below Hb0.out hle)
  have Hhi := Lib.hid (hs.highs)
  have hgb : w.heap.size ≠ b := by have := hs.lt; omega
  have HS0 := Lib.hid (Hs.out.below Hb0.out)
  have hle0 := HS0.out.le
  have hbl0 := HS0.out.bl
  clear hx hs ho hf hy
  obtain ⟨y0, y1, hyl⟩ := HY0.out
  go_enter Try.func85, Try.ntmps85
  go_wp2_with fail
  rw [← hW0]
  clear hW0
  have q0 : W0.cell? ⟨b, 9, none⟩ = some (.int .i64 s.r.frm) := HS0.out.cell 9
  have q1 : W0.cell? ⟨b, 10, none⟩ = some (.int .i64 s.r.to) := HS0.out.cell 10
  have q2 : W0.cell? ⟨b, 11, none⟩ = some (.int .i64 s.r.fin) := HS0.out.cell 11
  have q3 : W0.cell? ⟨b, 12, none⟩ = some (.slice F.sa F.sn F.sc) := HS0.out.cell 12
  have q4 : W0.cell? ⟨b, 13, none⟩ = some (.slice F.na F.nn F.nc) := HS0.out.cell 13
  have q5 : W0.cell? ⟨b, 14, none⟩ = some (.slice ag s.r.guards.length cg) := HS0.out.cell 14
  have q6 : W0.cell? ⟨b, 15, none⟩ = some (.slice az s.r.zone.length cz) := HS0.out.cell 15
  have q7 : W0.cell? ⟨b, 16, none⟩ = some (.slice ah s.r.holds.length ch) := HS0.out.cell 16
  have q8 : W0.cell? ⟨b, 17, none⟩ = some (.bool s.r.bare) := HS0.out.cell 17
  have m18 : W0.cell? ⟨b, 18, none⟩ = some (.slice am s.met.length cm) := HS0.out.cell 18
  have HOwn := Lib.hid (fun (u : World) (hb : Below W0.heap.size W0 u) => own_s u ⟨F.sa, F.sn, F.sc, F.na, F.nn, F.nc, ag, s.r.guards.length, cg, az, s.r.zone.length, cz, ah, s.r.holds.length, ch⟩ s.r (HX0.out.below hb hle0).st HX0.out.sn y.e)
  have HHas := Lib.hid (fun (u : World) (hb : Below W0.heap.size W0 u) => hasport_any u am s.met.length cm s.met (owns_row encPort_len (HS0.out.below hb).om (by decide)).1 y)
  dsimp only [RV.val] at HOwn
  cases hm1 : memB y.e s.r.elems with
  | true =>
   rw [hm1] at HOwn
   have Hg := Lib.hid (show comeS F.p 0 s y = s from rfl)
   clear hm1
   go_wp2_with fail
   have q0q := fun d os => cell_regrown q0 d os
   have q1q := fun d os => cell_regrown q1 d os
   have q2q := fun d os => cell_regrown q2 d os
   have q3q := fun d os => cell_regrown q3 d os
   have q4q := fun d os => cell_regrown q4 d os
   have q5q := fun d os => cell_regrown q5 d os
   have q6q := fun d os => cell_regrown q6 d os
   have q7q := fun d os => cell_regrown q7 d os
   have q8q := fun d os => cell_regrown q8 d os
   have y0q := fun d os => cell_regrown y0 d os
   have cq0 : ∀ d os, Calls Try.prog 18 #[.agg #[.int .i64 s.r.frm, .int .i64 s.r.to, .int .i64 s.r.fin, .slice F.sa F.sn F.sc, .slice F.na F.nn F.nc, .slice ag s.r.guards.length cg, .slice az s.r.zone.length cz, .slice ah s.r.holds.length ch, .bool s.r.bare], .int .i64 y.e] (grow (redrawn W0 d) os) fun e w'' => e = .returned (.bool true) ∧ ∃ rg : Regrown, w'' = grow (redrawn W0 rg.d) rg.os := fun d os => Calls.regrown_of (HOwn.out _ (below_regrown _ d os))
   refine wp_region_quiet_below (by kernel_rfl) (by kernel_rfl) ?_
   repeat (go_big_quiet_step (first | with_reducible exact cq0 _ _))
   refine wpQuiet_nil ?_
   intro w1 hw'
   have hb1 : Below W0.heap.size W0 w1 := by obtain ⟨⟨d, os⟩, rfl⟩ := hw'; exact below_regrown _ d os
   clear hw' q0q q1q q2q q3q q4q q5q q6q q7q q8q y0q cq0
   go_wp2_with fail
   try rw [Exit.noGoto_ret]
   refine bodyPost_end (v := .tuple #[]) (by simp [results, Try.results85]) rfl ?_
   exact ⟨_, _, _, _, rfl, by rw [Hg.out]; exact HS0.out.below hb1, HN0.out.trans (NearR.of_below hb1)⟩
  | false =>
   rw [hm1] at HOwn
   cases hm2 : memB y s.met with
   | true =>
    rw [hm2] at HHas
    have Hg := Lib.hid (show comeS F.p 0 s y = s from rfl)
    clear hm1 hm2
    go_wp2_with fail
    have q0q := fun d os => cell_regrown q0 d os
    have q1q := fun d os => cell_regrown q1 d os
    have q2q := fun d os => cell_regrown q2 d os
    have q3q := fun d os => cell_regrown q3 d os
    have q4q := fun d os => cell_regrown q4 d os
    have q5q := fun d os => cell_regrown q5 d os
    have q6q := fun d os => cell_regrown q6 d os
    have q7q := fun d os => cell_regrown q7 d os
    have q8q := fun d os => cell_regrown q8 d os
    have m18q := fun d os => cell_regrown m18 d os
    have y0q := fun d os => cell_regrown y0 d os
    have y1q := fun d os => cell_regrown y1 d os
    have cq0 : ∀ d os, Calls Try.prog 18 #[.agg #[.int .i64 s.r.frm, .int .i64 s.r.to, .int .i64 s.r.fin, .slice F.sa F.sn F.sc, .slice F.na F.nn F.nc, .slice ag s.r.guards.length cg, .slice az s.r.zone.length cz, .slice ah s.r.holds.length ch, .bool s.r.bare], .int .i64 y.e] (grow (redrawn W0 d) os) fun e w'' => e = .returned (.bool false) ∧ ∃ rg : Regrown, w'' = grow (redrawn W0 rg.d) rg.os := fun d os => Calls.regrown_of (HOwn.out _ (below_regrown _ d os))
    have cq1 : ∀ d os, Calls Try.prog 93 #[.slice am s.met.length cm, .agg #[.int .i64 y.e, .int .i64 y.n]] (grow (redrawn W0 d) os) fun e w'' => e = .returned (.bool true) ∧ ∃ rg : Regrown, w'' = grow (redrawn W0 rg.d) rg.os := fun d os => Calls.regrown_of (HHas.out _ (below_regrown _ d os))
    refine wp_region_quiet_below (by kernel_rfl) (by kernel_rfl) ?_
    repeat (go_big_quiet_step (first | with_reducible exact cq0 _ _ | with_reducible exact cq1 _ _))
    refine wpQuiet_nil ?_
    intro w1 hw'
    have hb1 : Below W0.heap.size W0 w1 := by obtain ⟨⟨d, os⟩, rfl⟩ := hw'; exact below_regrown _ d os
    clear hw' q0q q1q q2q q3q q4q q5q q6q q7q q8q m18q y0q y1q cq0 cq1
    go_wp2_with fail
    try rw [Exit.noGoto_ret]
    refine bodyPost_end (v := .tuple #[]) (by simp [results, Try.results85]) rfl ?_
    exact ⟨_, _, _, _, rfl, by rw [Hg.out]; exact HS0.out.below hb1, HN0.out.trans (NearR.of_below hb1)⟩
   | false =>
    exfalso
    have hmet : y ∉ s.met := fun h => by rw [memB_iff.2 h] at hm2; cases hm2
    have := unmet_mark hmet Hy.out
    have := Hf.out
    omega
 | succ f ih =>
  intro w w0 b base vg vz vh vm s y hx hs ho hy hf
  have HH := Lib.hid ih
  clear ih
  have Ho := Lib.hid ho
  have Hf := Lib.hid hf
  have Hy := Lib.hid hy
  have hle := hs.le
  obtain ⟨ag, cg, rfl, _, _⟩ := own_slice hs.og
  obtain ⟨az, cz, rfl, _, _⟩ := own_slice hs.oz
  obtain ⟨ah, ch, rfl, _, _⟩ := own_slice hs.oh
  obtain ⟨am, cm, rfl, _, _⟩ := own_slice hs.om
  have Hx := Lib.hid hx
  have Hs := Lib.hid hs
  obtain ⟨W0, hW0⟩ : ∃ W0, W0 = w.alloc (.cells #[.int .i64 y.e, .int .i64 y.n] 86) := ⟨_, rfl⟩
  have Hb0 := Lib.hid (show Below w.heap.size w W0 by rw [hW0]; exact below_new1 w _)
  have HY0 := Lib.hid (show YBox W0 w.heap.size y by rw [hW0]; exact ybox_new w y)
  have HN0 := Lib.hid (NearR.of_below (b := b) (l := [.slice ag s.r.guards.length cg, .slice az s.r.zone.length cz, .slice ah s.r.holds.length ch, .slice am s.met.length cm]) Hb0.out)
  have HX0 := Lib.hid (Hx.out.below Hb0.out hle)
  have Hhi := Lib.hid (hs.highs)
  have hgb : w.heap.size ≠ b := by have := hs.lt; omega
  have HS0 := Lib.hid (Hs.out.below Hb0.out)
  have hle0 := HS0.out.le
  have hbl0 := HS0.out.bl
  clear hx hs ho hf hy
  obtain ⟨y0, y1, hyl⟩ := HY0.out
  go_enter Try.func85, Try.ntmps85
  go_wp2_with fail
  rw [← hW0]
  clear hW0
  have q0 : W0.cell? ⟨b, 9, none⟩ = some (.int .i64 s.r.frm) := HS0.out.cell 9
  have q1 : W0.cell? ⟨b, 10, none⟩ = some (.int .i64 s.r.to) := HS0.out.cell 10
  have q2 : W0.cell? ⟨b, 11, none⟩ = some (.int .i64 s.r.fin) := HS0.out.cell 11
  have q3 : W0.cell? ⟨b, 12, none⟩ = some (.slice F.sa F.sn F.sc) := HS0.out.cell 12
  have q4 : W0.cell? ⟨b, 13, none⟩ = some (.slice F.na F.nn F.nc) := HS0.out.cell 13
  have q5 : W0.cell? ⟨b, 14, none⟩ = some (.slice ag s.r.guards.length cg) := HS0.out.cell 14
  have q6 : W0.cell? ⟨b, 15, none⟩ = some (.slice az s.r.zone.length cz) := HS0.out.cell 15
  have q7 : W0.cell? ⟨b, 16, none⟩ = some (.slice ah s.r.holds.length ch) := HS0.out.cell 16
  have q8 : W0.cell? ⟨b, 17, none⟩ = some (.bool s.r.bare) := HS0.out.cell 17
  have m18 : W0.cell? ⟨b, 18, none⟩ = some (.slice am s.met.length cm) := HS0.out.cell 18
  have HOwn := Lib.hid (fun (u : World) (hb : Below W0.heap.size W0 u) => own_s u ⟨F.sa, F.sn, F.sc, F.na, F.nn, F.nc, ag, s.r.guards.length, cg, az, s.r.zone.length, cz, ah, s.r.holds.length, ch⟩ s.r (HX0.out.below hb hle0).st HX0.out.sn y.e)
  have HHas := Lib.hid (fun (u : World) (hb : Below W0.heap.size W0 u) => hasport_any u am s.met.length cm s.met (owns_row encPort_len (HS0.out.below hb).om (by decide)).1 y)
  dsimp only [RV.val] at HOwn
  cases hm1 : memB y.e s.r.elems with
  | true =>
   rw [hm1] at HOwn
   have Hg := Lib.hid (show comeS F.p (f + 1) s y = s from (by unfold comeS; rw [if_pos (.inl (memB_iff.1 hm1))]))
   clear hm1
   go_wp2_with fail
   have q0q := fun d os => cell_regrown q0 d os
   have q1q := fun d os => cell_regrown q1 d os
   have q2q := fun d os => cell_regrown q2 d os
   have q3q := fun d os => cell_regrown q3 d os
   have q4q := fun d os => cell_regrown q4 d os
   have q5q := fun d os => cell_regrown q5 d os
   have q6q := fun d os => cell_regrown q6 d os
   have q7q := fun d os => cell_regrown q7 d os
   have q8q := fun d os => cell_regrown q8 d os
   have y0q := fun d os => cell_regrown y0 d os
   have cq0 : ∀ d os, Calls Try.prog 18 #[.agg #[.int .i64 s.r.frm, .int .i64 s.r.to, .int .i64 s.r.fin, .slice F.sa F.sn F.sc, .slice F.na F.nn F.nc, .slice ag s.r.guards.length cg, .slice az s.r.zone.length cz, .slice ah s.r.holds.length ch, .bool s.r.bare], .int .i64 y.e] (grow (redrawn W0 d) os) fun e w'' => e = .returned (.bool true) ∧ ∃ rg : Regrown, w'' = grow (redrawn W0 rg.d) rg.os := fun d os => Calls.regrown_of (HOwn.out _ (below_regrown _ d os))
   refine wp_region_quiet_below (by kernel_rfl) (by kernel_rfl) ?_
   repeat (go_big_quiet_step (first | with_reducible exact cq0 _ _))
   refine wpQuiet_nil ?_
   intro w1 hw'
   have hb1 : Below W0.heap.size W0 w1 := by obtain ⟨⟨d, os⟩, rfl⟩ := hw'; exact below_regrown _ d os
   clear hw' q0q q1q q2q q3q q4q q5q q6q q7q q8q y0q cq0
   go_wp2_with fail
   try rw [Exit.noGoto_ret]
   refine bodyPost_end (v := .tuple #[]) (by simp [results, Try.results85]) rfl ?_
   exact ⟨_, _, _, _, rfl, by rw [Hg.out]; exact HS0.out.below hb1, HN0.out.trans (NearR.of_below hb1)⟩
  | false =>
   rw [hm1] at HOwn
   cases hm2 : memB y s.met with
   | true =>
    rw [hm2] at HHas
    have Hg := Lib.hid (show comeS F.p (f + 1) s y = s from (by unfold comeS; rw [if_pos (.inr (memB_iff.1 hm2))]))
    clear hm1 hm2
    go_wp2_with fail
    have q0q := fun d os => cell_regrown q0 d os
    have q1q := fun d os => cell_regrown q1 d os
    have q2q := fun d os => cell_regrown q2 d os
    have q3q := fun d os => cell_regrown q3 d os
    have q4q := fun d os => cell_regrown q4 d os
    have q5q := fun d os => cell_regrown q5 d os
    have q6q := fun d os => cell_regrown q6 d os
    have q7q := fun d os => cell_regrown q7 d os
    have q8q := fun d os => cell_regrown q8 d os
    have m18q := fun d os => cell_regrown m18 d os
    have y0q := fun d os => cell_regrown y0 d os
    have y1q := fun d os => cell_regrown y1 d os
    have cq0 : ∀ d os, Calls Try.prog 18 #[.agg #[.int .i64 s.r.frm, .int .i64 s.r.to, .int .i64 s.r.fin, .slice F.sa F.sn F.sc, .slice F.na F.nn F.nc, .slice ag s.r.guards.length cg, .slice az s.r.zone.length cz, .slice ah s.r.holds.length ch, .bool s.r.bare], .int .i64 y.e] (grow (redrawn W0 d) os) fun e w'' => e = .returned (.bool false) ∧ ∃ rg : Regrown, w'' = grow (redrawn W0 rg.d) rg.os := fun d os => Calls.regrown_of (HOwn.out _ (below_regrown _ d os))
    have cq1 : ∀ d os, Calls Try.prog 93 #[.slice am s.met.length cm, .agg #[.int .i64 y.e, .int .i64 y.n]] (grow (redrawn W0 d) os) fun e w'' => e = .returned (.bool true) ∧ ∃ rg : Regrown, w'' = grow (redrawn W0 rg.d) rg.os := fun d os => Calls.regrown_of (HHas.out _ (below_regrown _ d os))
    refine wp_region_quiet_below (by kernel_rfl) (by kernel_rfl) ?_
    repeat (go_big_quiet_step (first | with_reducible exact cq0 _ _ | with_reducible exact cq1 _ _))
    refine wpQuiet_nil ?_
    intro w1 hw'
    have hb1 : Below W0.heap.size W0 w1 := by obtain ⟨⟨d, os⟩, rfl⟩ := hw'; exact below_regrown _ d os
    clear hw' q0q q1q q2q q3q q4q q5q q6q q7q q8q m18q y0q y1q cq0 cq1
    go_wp2_with fail
    try rw [Exit.noGoto_ret]
    refine bodyPost_end (v := .tuple #[]) (by simp [results, Try.results85]) rfl ?_
    exact ⟨_, _, _, _, rfl, by rw [Hg.out]; exact HS0.out.below hb1, HN0.out.trans (NearR.of_below hb1)⟩
   | false =>
    have hmet : y ∉ s.met := fun h => by rw [memB_iff.2 h] at hm2; cases hm2
    have hown : y.e ∉ s.r.elems := fun h => by rw [memB_iff.2 h] at hm1; cases hm1
    rw [hm2] at HHas
    obtain ⟨k1, k2, k3, k4⟩ := Ho.out.mark hmet Hy.out
    have K1 := Lib.hid k1
    have K2 := Lib.hid k2
    have K3 := Lib.hid k3
    have K4 := Lib.hid k4
    have Hf1 := Lib.hid (show unmet F.p (s.mark y).met ≤ f by have := unmet_mark hmet Hy.out; have := Hf.out; unfold Srch.mark; dsimp only; omega)
    have hml : s.met.length ≤ 160 := by have h1 := Ho.out.met_le; have h2 := portNo_le HX0.out.ok; omega
    have Hc0 := Lib.hid (show comeS F.p (f + 1) s y = (if 0 ≤ reads F.p y ∧ F.p.hard = false then (s.mark y).hold (reads F.p y) else if F.p.kind y.e = 4 then (s.mark y).strip else if F.p.kind y.e = 2 then pointsS F.p (comeS F.p f) (s.mark y) y else if (s.mark y).puts y.e then goS F.p (comeS F.p f) ((s.mark y).put y.e) y.e ((fromRef F.p y.e y.n 0).getD 0) else (s.mark y).put y.e) by rw [comeS, if_neg (fun h => h.elim hown hmet)])
    clear k1 k2 k3 k4 hm1 hm2 hmet hown
    go_wp2_with fail
    have q0q := fun d os => cell_regrown q0 d os
    have q1q := fun d os => cell_regrown q1 d os
    have q2q := fun d os => cell_regrown q2 d os
    have q3q := fun d os => cell_regrown q3 d os
    have q4q := fun d os => cell_regrown q4 d os
    have q5q := fun d os => cell_regrown q5 d os
    have q6q := fun d os => cell_regrown q6 d os
    have q7q := fun d os => cell_regrown q7 d os
    have q8q := fun d os => cell_regrown q8 d os
    have m18q := fun d os => cell_regrown m18 d os
    have y0q := fun d os => cell_regrown y0 d os
    have y1q := fun d os => cell_regrown y1 d os
    have cq0 : ∀ d os, Calls Try.prog 18 #[.agg #[.int .i64 s.r.frm, .int .i64 s.r.to, .int .i64 s.r.fin, .slice F.sa F.sn F.sc, .slice F.na F.nn F.nc, .slice ag s.r.guards.length cg, .slice az s.r.zone.length cz, .slice ah s.r.holds.length ch, .bool s.r.bare], .int .i64 y.e] (grow (redrawn W0 d) os) fun e w'' => e = .returned (.bool false) ∧ ∃ rg : Regrown, w'' = grow (redrawn W0 rg.d) rg.os := fun d os => Calls.regrown_of (HOwn.out _ (below_regrown _ d os))
    have cq1 : ∀ d os, Calls Try.prog 93 #[.slice am s.met.length cm, .agg #[.int .i64 y.e, .int .i64 y.n]] (grow (redrawn W0 d) os) fun e w'' => e = .returned (.bool false) ∧ ∃ rg : Regrown, w'' = grow (redrawn W0 rg.d) rg.os := fun d os => Calls.regrown_of (HHas.out _ (below_regrown _ d os))
    refine wp_region_quiet_below (by kernel_rfl) (by kernel_rfl) ?_
    repeat (go_big_quiet_step (first | with_reducible exact cq0 _ _ | with_reducible exact cq1 _ _))
    refine wpQuiet_nil ?_
    intro w1 hw'
    have hb1 : Below W0.heap.size W0 w1 := by obtain ⟨⟨d, os⟩, rfl⟩ := hw'; exact below_regrown _ d os
    clear hw' q0q q1q q2q q3q q4q q5q q6q q7q q8q m18q y0q y1q cq0 cq1
    have HS1 := Lib.hid (HS0.out.below hb1)
    have HN1 := Lib.hid (HN0.out.trans (NearR.of_below hb1))
    have HX1 := Lib.hid (HX0.out.below hb1 hle0)
    have m18 := (hb1.cell (p := ⟨b, 18, none⟩) hbl0).trans m18
    have y0 := (hb1.cell (p := ⟨w.heap.size, 0, none⟩) hyl).trans y0
    have y1 := (hb1.cell (p := ⟨w.heap.size, 1, none⟩) hyl).trans y1
    have hyl : w.heap.size < w1.heap.size := Nat.lt_of_lt_of_le hyl hb1.size
    have hbl1 : b < w1.heap.size := HS1.out.bl
    have hle1 := HS1.out.le
    clear q0 q1 q2 q3 q4 q5 q6 q7 q8 HOwn HHas
    go_wp2_with fail
    have hSall : ∀ w' : World, Below (w1).heap.size (w1) w' → (w'.cell? ⟨b, 18, none⟩ = some (.slice am s.met.length cm) ∧ w'.cell? ⟨w.heap.size, 0, none⟩ = some (.int .i64 y.e) ∧ w'.cell? ⟨w.heap.size, 1, none⟩ = some (.int .i64 y.n)) := fun w' hb => ⟨(hb.cell (p := ⟨b, 18, none⟩) hbl1).trans m18, (hb.cell (p := ⟨w.heap.size, 0, none⟩) hyl).trans y0, (hb.cell (p := ⟨w.heap.size, 1, none⟩) hyl).trans y1⟩
    refine wp_region_noPanic ?_
    refine region_ob (S := fun w' => w'.cell? ⟨b, 18, none⟩ = some (.slice am s.met.length cm) ∧ w'.cell? ⟨w.heap.size, 0, none⟩ = some (.int .i64 y.e) ∧ w'.cell? ⟨w.heap.size, 1, none⟩ = some (.int .i64 y.n)) (ob := fun t => decide (t < 7) && !decide (t = 0)) (by kernel_rfl) ?_
    refine ob_pure (i := 0) (v := .pointer (some ⟨b, 0, none⟩)) rfl (by kernel_rfl) (by kernel_rfl) (by kernel_rfl) (by kernel_rfl) (by kernel_rfl) (fun _ _ _ h => h) (Or.inl ⟨by rfl, ?_⟩) ?_
    ·intro w' _
     go_simp
    (try simp only [zA, zC, Act.put, zD, zE, zF])
    refine tk 1 (.pointer (some ⟨b, 0, none⟩)) ?_ (hSall _ (Below.refl _ _).drew) ?_
    ·intro w' hSw
     (try dsimp only at hSw)
     go_simp
    (try simp only [zA, zB, zC, Act.put, zD, zE, zF])
    refine tk 2 (.pointer (some ⟨b, 0, none⟩)) ?_ (hSall _ (Below.refl _ _).drew) ?_
    ·intro w' hSw
     (try dsimp only at hSw)
     go_simp
    (try simp only [zA, zB, zC, Act.put, zD, zE, zF])
    refine tk 3 (.pointer (some ⟨b, 18, none⟩)) ?_ (hSall _ (Below.refl _ _).drew) ?_
    ·intro w' hSw
     (try dsimp only at hSw)
     go_simp
    (try simp only [zA, zB, zC, Act.put, zD, zE, zF])
    refine tk 4 (.slice am s.met.length cm) ?_ (hSall _ (Below.refl _ _).drew) ?_
    ·intro w' hSw
     (try dsimp only at hSw)
     go_simp
    (try simp only [zA, zB, zC, Act.put, zD, zE, zF])
    refine tk 5 (.agg #[.int .i64 y.e, .int .i64 y.n]) ?_ (hSall _ (Below.refl _ _).drew) ?_
    ·intro w' hSw
     (try dsimp only at hSw)
     go_simp
    (try simp only [zA, zB, zC, Act.put, zD, zE, zF])
    refine ob_step (i := 6) (by kernel_rfl) rfl (fun K hK => ?_)
    go_simp
    refine hK _ _ (fun _ => (hSall _ (by with_reducible repeat (first | exact Below.refl _ _ | assumption | exact below_new _ _ | apply below_drewN | apply Below.drew | refine below_set (Nat.le_refl _) ?_ _ | (refine below_set ?_ ?_ _; omega) | refine Below.alloc ?_ (by first | omega | (simp; omega) | simp) _)))) ?_
    clear hK K
    (try simp only [zA, zB, zC, Act.put, zD, zE, zF])
    refine ob_step (i := 7) (by kernel_rfl) rfl (fun K hK => ?_)
    have hdr : Below w1.heap.size w1 (w1.drew.alloc (.cells #[.int .i64 y.e, .int .i64 y.n] 86)) := (Below.refl _ _).drew.alloc (Nat.le_refl _) _
    have HSd := HS1.out.below hdr
    refine step_app encPort_len encPort_oneC _ (by rfl) _ _ 115 (by rfl) base 86 (.agg #[.int .i64 0, .int .i64 0]) 16 Try.underlying115 info_portC (by rfl) (by decide) (.slice am s.met.length cm) s.met.length s.met (by rfl) HSd.om (some ⟨w1.heap.size, 0, none⟩) 1 1 [y] (by rfl) (row_port1 (heap_alloc_new w1.drew _)) (by intro h; cases h) (by simp [maxLen]; omega) (by omega) (by simp; omega) ?_
    intro v8 w8 ho8 hg8 _ hb8
    have hA := HSd.meet (y := y) ho8 hg8 hb8
    have h8b : w8.heap[b]? = w1.heap[b]? := (hg8.block b HSd.bl (fun hc => by have := HSd.lows _ (by simp) b hc.symm; have := HSd.lt; omega)).trans (hdr.block b hbl1)
    have k18 : w8.cell? ⟨b, 18, none⟩ = some (.slice am s.met.length cm) := (cell_of_same h8b 18).trans m18
    have kf : w8.frozen? ⟨b, 18, none⟩ = false := frozen_of_row w8 b 18 _ _ (h8b.trans HS1.out.box)
    have hbl8 : b < w8.heap.size := by have := hg8.size; simp at this; omega
    obtain ⟨a8, c8', rfl, _, _⟩ := own_slice ho8
    clear ho8 hg8 hb8 h8b HSd
    refine hK _ _ (fun h => absurd h (by decide)) ?_
    clear hK K
    (try simp only [zA, zB, zC, Act.put, zD, zE, zF])
    refine ob_step (i := 8) (by kernel_rfl) rfl (fun K hK => ?_)
    go_simp
    refine hK _ _ (fun h => absurd h (by decide)) ?_
    clear hK K
    (try simp only [zA, zB, zC, Act.put, zD, zE, zF])
    refine ob_step (i := 9) (by kernel_rfl) rfl (fun K hK => ?_)
    go_simp
    refine hK _ _ (fun h => absurd h (by decide)) ?_
    clear hK K
    (try simp only [zA, zB, zC, Act.put, zD, zE, zF])
    refine ob_step (i := 10) (by kernel_rfl) rfl (fun K hK => ?_)
    go_simp
    refine hK _ _ (fun h => absurd h (by decide)) ?_
    clear hK K
    (try simp only [zA, zB, zC, Act.put, zD, zE, zF])
    refine ob_done (by kernel_rfl) (NoPanic.normal ?_) _
    clear hSall

    refine name_world fun w2 hw2 => ?_
    obtain ⟨hA1, hA2⟩ := hA
    rw [← hw2] at hA1 hA2
    have HS2 := Lib.hid hA1
    have HN2 := Lib.hid ((NearR.of_below (b := b) (l := [.slice ag s.r.guards.length cg, .slice az s.r.zone.length cz, .slice ah s.r.holds.length ch, .slice am s.met.length cm]) (below_step hb1 ((Below.refl w1.heap.size w1).drew.alloc (Nat.le_refl _) (.cells #[.int .i64 y.e, .int .i64 y.n] 86)) hb1.size)).trans hA2)
    have HX2 := Lib.hid (show Ctx b base F w0 (s.mark y).r.steps (s.mark y).r.needs w2 from HX0.out.near (HN2.out.near HS0.out.lows hle0))
    clear hw2 hA1 hA2 k18 kf hbl8 m18 y0 y1 hyl HS1 HN1 HX1 hb1 hbl1
    obtain ⟨y0, y1, hyl⟩ := yb_of HY0.out HN2.out hgb Hhi.out
    have hbl2 := HS2.out.bl
    have hle2 := HS2.out.le
    have c0 : w2.cell? ⟨b, 0, none⟩ = some (.slice F.pv.ae F.pv.ne F.pv.ce) := HS2.out.cell 0
    have c1 : w2.cell? ⟨b, 1, none⟩ = some (.slice F.pv.aj F.pv.nj F.pv.cj) := HS2.out.cell 1
    have c2 : w2.cell? ⟨b, 2, none⟩ = some (.slice F.pv.as_ F.pv.ns F.pv.cs) := HS2.out.cell 2
    have c3 : w2.cell? ⟨b, 3, none⟩ = some (.slice F.pv.al F.pv.nl F.pv.cl) := HS2.out.cell 3
    have c4 : w2.cell? ⟨b, 4, none⟩ = some (.int .i64 F.p.top) := HS2.out.cell 4
    have c5 : w2.cell? ⟨b, 5, none⟩ = some (.int .i64 F.p.brake) := HS2.out.cell 5
    have c6 : w2.cell? ⟨b, 6, none⟩ = some (.int .i64 F.p.margin) := HS2.out.cell 6
    have c7 : w2.cell? ⟨b, 7, none⟩ = some (.int .i64 F.p.throw) := HS2.out.cell 7
    have c8 : w2.cell? ⟨b, 8, none⟩ = some (.bool F.p.hard) := HS2.out.cell 8
    have HRd := Lib.hid (fun (u : World) (hb : Below w2.heap.size w2 u) => refreads_any u F.pv F.p y (HX2.out.below hb hle2).plan)
    dsimp only [PV.val, Port.val] at HRd
    go_wp2_with fail
    have c0q := fun d os => cell_regrown c0 d os
    have c1q := fun d os => cell_regrown c1 d os
    have c2q := fun d os => cell_regrown c2 d os
    have c3q := fun d os => cell_regrown c3 d os
    have c4q := fun d os => cell_regrown c4 d os
    have c5q := fun d os => cell_regrown c5 d os
    have c6q := fun d os => cell_regrown c6 d os
    have c7q := fun d os => cell_regrown c7 d os
    have c8q := fun d os => cell_regrown c8 d os
    have y0q := fun d os => cell_regrown y0 d os
    have y1q := fun d os => cell_regrown y1 d os
    have cq0 : ∀ d os, Calls Try.prog 79 #[.agg #[.slice F.pv.ae F.pv.ne F.pv.ce, .slice F.pv.aj F.pv.nj F.pv.cj, .slice F.pv.as_ F.pv.ns F.pv.cs, .slice F.pv.al F.pv.nl F.pv.cl, .int .i64 F.p.top, .int .i64 F.p.brake, .int .i64 F.p.margin, .int .i64 F.p.throw, .bool F.p.hard], .agg #[.int .i64 y.e, .int .i64 y.n]] (grow (redrawn w2 d) os) fun e w'' => e = .returned (.int .i64 (reads F.p y)) ∧ ∃ rg : Regrown, w'' = grow (redrawn w2 rg.d) rg.os := fun d os => Calls.regrown_of (HRd.out _ (below_regrown _ d os))
    refine wp_region_quiet_below (by kernel_rfl) (by kernel_rfl) ?_
    repeat (go_big_quiet_step (first | with_reducible exact cq0 _ _))
    refine wpQuiet_nil ?_
    intro w3 hw'
    have hb3 : Below w2.heap.size w2 w3 := by obtain ⟨⟨d, os⟩, rfl⟩ := hw'; exact below_regrown _ d os
    clear hw' c0q c1q c2q c3q c4q c5q c6q c7q c8q y0q y1q cq0
    have HS3 := Lib.hid (HS2.out.below hb3)
    have HN3 := Lib.hid (HN2.out.trans (NearR.of_below hb3))
    have HX3 := Lib.hid (HX2.out.below hb3 hle2)
    clear c0 c1 c2 c3 c4 c5 c6 c7 c8 y0 y1 hyl HRd hb3 hbl2 hle2
    obtain ⟨y0, y1, hyl⟩ := yb_of HY0.out HN3.out hgb Hhi.out
    have hbl3 := HS3.out.bl
    have hle3 := HS3.out.le
    have c0 : w3.cell? ⟨b, 0, none⟩ = some (.slice F.pv.ae F.pv.ne F.pv.ce) := HS3.out.cell 0
    have c1 : w3.cell? ⟨b, 1, none⟩ = some (.slice F.pv.aj F.pv.nj F.pv.cj) := HS3.out.cell 1
    have c2 : w3.cell? ⟨b, 2, none⟩ = some (.slice F.pv.as_ F.pv.ns F.pv.cs) := HS3.out.cell 2
    have c3 : w3.cell? ⟨b, 3, none⟩ = some (.slice F.pv.al F.pv.nl F.pv.cl) := HS3.out.cell 3
    have c4 : w3.cell? ⟨b, 4, none⟩ = some (.int .i64 F.p.top) := HS3.out.cell 4
    have c5 : w3.cell? ⟨b, 5, none⟩ = some (.int .i64 F.p.brake) := HS3.out.cell 5
    have c6 : w3.cell? ⟨b, 6, none⟩ = some (.int .i64 F.p.margin) := HS3.out.cell 6
    have c7 : w3.cell? ⟨b, 7, none⟩ = some (.int .i64 F.p.throw) := HS3.out.cell 7
    have c8 : w3.cell? ⟨b, 8, none⟩ = some (.bool F.p.hard) := HS3.out.cell 8
    have k16 : w3.cell? ⟨b, 16, none⟩ = some (.slice ah s.r.holds.length ch) := HS3.out.cell 16
    have kf16 := HS3.out.frozen 16
    by_cases hrd : 0 ≤ reads F.p y ∧ F.p.hard = false
    ·have d1 : decide (0 ≤ reads F.p y) = true := by simpa using hrd.1
     have hh : F.p.hard = false := hrd.2
     have Hg := Lib.hid (show comeS F.p (f + 1) s y = (s.mark y).hold (reads F.p y) by rw [Hc0.out, if_pos hrd])
     rw [hh] at c8
     have HI := Lib.hid (refin_any w3 ah s.r.holds.length ch s.r.holds (owns_row (sz := 1) (enc := encInt) (fun _ => rfl) HS3.out.oh (by decide)).1 (reads F.p y))
     clear hrd hh
     cases hmh : memB (reads F.p y) s.r.holds with
     | true =>
      rw [hmh] at HI
      have Hg2 := Lib.hid (show (s.mark y).hold (reads F.p y) = s.mark y by unfold Srch.hold; rw [if_pos (show reads F.p y ∈ (s.mark y).r.holds from memB_iff.1 hmh)])
      clear hmh
      go_wp2_with fail
      refine HI.out.mono ?_
      rintro en w4 ⟨rfl, rfl⟩
      go_wp2_with fail
      try rw [Exit.noGoto_ret]
      refine bodyPost_end (v := .tuple #[]) (by simp [results, Try.results85]) rfl ?_
      exact ⟨_, _, _, _, rfl, by rw [Hg.out, Hg2.out]; exact HS3.out, HN0.out.trans HN3.out⟩
     | false =>
      rw [hmh] at HI
      have Hg2 := Lib.hid (show (s.mark y).hold (reads F.p y) = { s.mark y with r := { (s.mark y).r with holds := (s.mark y).r.holds ++ [reads F.p y] } } by unfold Srch.hold; rw [if_neg (show ¬ reads F.p y ∈ (s.mark y).r.holds from fun h => by have h2 : memB (reads F.p y) s.r.holds = true := memB_iff.2 h; rw [h2] at hmh; cases hmh)])
      have hhl : s.r.holds.length ≤ 160 := by have := Ho.out.holds; omega
      clear hmh
      go_wp2_with fail
      refine HI.out.mono ?_
      rintro en w4 ⟨rfl, rfl⟩
      have hoh : w3.ownsRow base 3 1 (.slice ah s.r.holds.length ch) s.r.holds.length (s.r.holds.flatMap encInt) := HS3.out.oh
      go_wp2_with (at_builtin; refine wpList_appB (enc := encInt) (fun _ => rfl) encInt_oneC _ rfl _ _ 36 rfl base 3 (.int .i64 0) 8 Try.underlying36 info_intC rfl (by decide) _ _ s.r.holds rfl (hoh.alloc _) (some ⟨w3.heap.size, 0, none⟩) 1 1 [reads F.p y] rfl (row_int1 (heap_alloc_new w3 _)) (by intro h; cases h) (by simp [maxLen]; omega) (by omega) (by simp; omega) ?_)
      intro v2 w5 ho2 hg2 hb2
      have hA := (HS3.out.below (below_new1 w3 (.cells #[.int .i64 (reads F.p y)] 3))).holds (e := reads F.p y) (by simpa [Srch.mark] using ho2) hg2 (by simpa using hb2)
      have h2b : w5.heap[b]? = w3.heap[b]? := (hg2.block b (by simp; omega) (fun hc => by have := (hoh.lt b hc.symm).1; have := HS3.out.lt; omega)).trans (Below.heap_alloc w3 _ b hbl3)
      have k16 : w5.cell? ⟨b, 16, none⟩ = some (.slice ah s.r.holds.length ch) := (cell_of_same h2b 16).trans k16
      have kf : w5.frozen? ⟨b, 16, none⟩ = false := frozen_of_row w5 b 16 _ _ (h2b.trans HS3.out.box)
      have hbl5 : b < w5.heap.size := by have := hg2.size; simp at this; omega
      obtain ⟨a2, c2, rfl, _, _⟩ := own_slice ho2
      clear ho2 hg2 hb2 h2b kf16 hoh
      go_wp2_with fail
      try rw [Exit.noGoto_ret]
      refine bodyPost_end (v := .tuple #[]) (by simp [results, Try.results85]) rfl ?_
      exact ⟨_, _, _, _, rfl, by rw [Hg.out, Hg2.out]; exact hA.1, HN0.out.trans (HN3.out.trans ((NearR.of_below (below_new1 w3 _)).trans hA.2))⟩
    ·have Hn := Lib.hid (show comeS F.p (f + 1) s y = (if F.p.kind y.e = 4 then (s.mark y).strip else if F.p.kind y.e = 2 then pointsS F.p (comeS F.p f) (s.mark y) y else if (s.mark y).puts y.e then goS F.p (comeS F.p f) ((s.mark y).put y.e) y.e ((fromRef F.p y.e y.n 0).getD 0) else (s.mark y).put y.e) by rw [Hc0.out, if_neg hrd])
     have HK := Lib.hid (fun (u : World) (hb : Below w3.heap.size w3 u) => refkind_any u F.pv F.p y.e (HX3.out.below hb hle3).plan)
     dsimp only [PV.val] at HK
     by_cases hr0 : 0 ≤ reads F.p y
     ·have hh : F.p.hard = true := by cases hc : F.p.hard with
       | true => rfl
       | false => exact absurd ⟨hr0, hc⟩ hrd
      have d1 : decide (0 ≤ reads F.p y) = true := by simpa using hr0
      rw [hh] at c8
      clear hrd hr0 hh k16 kf16
      go_wp2_with fail
      clear c8 d1
      have c8 : w3.cell? ⟨b, 8, none⟩ = some (.bool F.p.hard) := HS3.out.cell 8
      have c0q := fun d os => cell_regrown c0 d os
      have c1q := fun d os => cell_regrown c1 d os
      have c2q := fun d os => cell_regrown c2 d os
      have c3q := fun d os => cell_regrown c3 d os
      have c4q := fun d os => cell_regrown c4 d os
      have c5q := fun d os => cell_regrown c5 d os
      have c6q := fun d os => cell_regrown c6 d os
      have c7q := fun d os => cell_regrown c7 d os
      have c8q := fun d os => cell_regrown c8 d os
      have y0q := fun d os => cell_regrown y0 d os
      have cq0 : ∀ d os, Calls Try.prog 84 #[.agg #[.slice F.pv.ae F.pv.ne F.pv.ce, .slice F.pv.aj F.pv.nj F.pv.cj, .slice F.pv.as_ F.pv.ns F.pv.cs, .slice F.pv.al F.pv.nl F.pv.cl, .int .i64 F.p.top, .int .i64 F.p.brake, .int .i64 F.p.margin, .int .i64 F.p.throw, .bool F.p.hard], .int .i64 y.e] (grow (redrawn w3 d) os) fun e w'' => e = .returned (.int .i64 (F.p.kind y.e)) ∧ ∃ rg : Regrown, w'' = grow (redrawn w3 rg.d) rg.os := fun d os => Calls.regrown_of (HK.out _ (below_regrown _ d os))
      refine wp_region_quiet_below (by kernel_rfl) (by kernel_rfl) ?_
      repeat (go_big_quiet_step (first | with_reducible exact cq0 _ _))
      refine wpQuiet_nil ?_
      intro w4 hw'
      have hb4 : Below w3.heap.size w3 w4 := by obtain ⟨⟨d, os⟩, rfl⟩ := hw'; exact below_regrown _ d os
      clear hw' c0q c1q c2q c3q c4q c5q c6q c7q c8q y0q cq0
      have HS4 := Lib.hid (HS3.out.below hb4)
      have HN4 := Lib.hid (HN0.out.trans (HN3.out.trans (NearR.of_below hb4)))
      have HX4 := Lib.hid (HX3.out.below hb4 hle3)
      have HNy := Lib.hid (HN3.out.trans (NearR.of_below hb4))
      clear c0 c1 c2 c3 c4 c5 c6 c7 c8 y0 y1 hyl HK hb4 hbl3 hle3
      obtain ⟨y0, y1, hyl⟩ := yb_of HY0.out HNy.out hgb Hhi.out
      have hbl4 := HS4.out.bl
      have hle4 := HS4.out.le
      by_cases hk4 : F.p.kind y.e = 4
      ·have d4 : (F.p.kind y.e == 4) = true := by simp [hk4]
       have Hg := Lib.hid (show comeS F.p (f + 1) s y = (s.mark y).strip by rw [Hn.out, if_pos hk4])
       have hA := HS4.out.bare
       have f17 := HS4.out.frozen 17
       have z17 : w4.cell? ⟨b, 17, none⟩ = some (.bool s.r.bare) := HS4.out.cell 17
       clear hk4
       go_wp2_with fail
       try rw [Exit.noGoto_ret]
       refine bodyPost_end (v := .tuple #[]) (by simp [results, Try.results85]) rfl ?_
       exact ⟨_, _, _, _, rfl, by rw [Hg.out]; exact hA.1, HN4.out.trans hA.2⟩
      ·have d4 : (F.p.kind y.e == 4) = false := by simp [hk4]
       by_cases hk2 : F.p.kind y.e = 2
       ·have d2 : (F.p.kind y.e == 2) = true := by simp [hk2]
        have Hg := Lib.hid (show comeS F.p (f + 1) s y = pointsS F.p (comeS F.p f) (s.mark y) y by rw [Hn.out, if_neg hk4, if_pos hk2])
        have HPt := Lib.hid (points_any F f HH.out w4 w0 b base _ _ _ _ (s.mark y) HX4.out HS4.out K1.out Hf1.out y Hy.out K4.out)
        clear hk4 hk2
        go_wp2_with fail
        refine HPt.out.mono ?_
        rintro en w5 ⟨vg2, vz2, vh2, vm2, rfl, hS5, hN5⟩
        go_wp2_with fail
        try rw [Exit.noGoto_ret]
        refine bodyPost_end (v := .tuple #[]) (by simp [results, Try.results85]) rfl ?_
        exact ⟨vg2, vz2, vh2, vm2, rfl, by rw [Hg.out]; exact hS5, HN4.out.trans hN5⟩
       ·have d2 : (F.p.kind y.e == 2) = false := by simp [hk2]
        have Hn2 := Lib.hid (show comeS F.p (f + 1) s y = (if (s.mark y).puts y.e then goS F.p (comeS F.p f) ((s.mark y).put y.e) y.e ((fromRef F.p y.e y.n 0).getD 0) else (s.mark y).put y.e) by rw [Hn.out, if_neg hk4, if_neg hk2])
        have HFr := Lib.hid (fun (u : World) (hb : Below w4.heap.size w4 u) => reffrom_any u F.pv F.p (HX4.out.below hb hle4).plan y.e y.n 0)
        dsimp only [PV.val] at HFr
        have c0 : w4.cell? ⟨b, 0, none⟩ = some (.slice F.pv.ae F.pv.ne F.pv.ce) := HS4.out.cell 0
        have c1 : w4.cell? ⟨b, 1, none⟩ = some (.slice F.pv.aj F.pv.nj F.pv.cj) := HS4.out.cell 1
        have c2 : w4.cell? ⟨b, 2, none⟩ = some (.slice F.pv.as_ F.pv.ns F.pv.cs) := HS4.out.cell 2
        have c3 : w4.cell? ⟨b, 3, none⟩ = some (.slice F.pv.al F.pv.nl F.pv.cl) := HS4.out.cell 3
        have c4 : w4.cell? ⟨b, 4, none⟩ = some (.int .i64 F.p.top) := HS4.out.cell 4
        have c5 : w4.cell? ⟨b, 5, none⟩ = some (.int .i64 F.p.brake) := HS4.out.cell 5
        have c6 : w4.cell? ⟨b, 6, none⟩ = some (.int .i64 F.p.margin) := HS4.out.cell 6
        have c7 : w4.cell? ⟨b, 7, none⟩ = some (.int .i64 F.p.throw) := HS4.out.cell 7
        have c8 : w4.cell? ⟨b, 8, none⟩ = some (.bool F.p.hard) := HS4.out.cell 8
        clear hk4 hk2
        go_wp2_with fail
        have c0q := fun d os => cell_regrown c0 d os
        have c1q := fun d os => cell_regrown c1 d os
        have c2q := fun d os => cell_regrown c2 d os
        have c3q := fun d os => cell_regrown c3 d os
        have c4q := fun d os => cell_regrown c4 d os
        have c5q := fun d os => cell_regrown c5 d os
        have c6q := fun d os => cell_regrown c6 d os
        have c7q := fun d os => cell_regrown c7 d os
        have c8q := fun d os => cell_regrown c8 d os
        have y0q := fun d os => cell_regrown y0 d os
        have y1q := fun d os => cell_regrown y1 d os
        have cq0 : ∀ d os, Calls Try.prog 95 #[.agg #[.slice F.pv.ae F.pv.ne F.pv.ce, .slice F.pv.aj F.pv.nj F.pv.cj, .slice F.pv.as_ F.pv.ns F.pv.cs, .slice F.pv.al F.pv.nl F.pv.cl, .int .i64 F.p.top, .int .i64 F.p.brake, .int .i64 F.p.margin, .int .i64 F.p.throw, .bool F.p.hard], .int .i64 y.e, .int .i64 y.n, .int .i64 0] (grow (redrawn w4 d) os) fun e w'' => e = .returned (.tuple #[.int .i64 ((fromRef F.p y.e y.n 0).getD 0), .bool (fromRef F.p y.e y.n 0).isSome]) ∧ ∃ rg : Regrown, w'' = grow (redrawn w4 rg.d) rg.os := fun d os => Calls.regrown_of (HFr.out _ (below_regrown _ d os))
        refine wp_region_quiet_below (by kernel_rfl) (by kernel_rfl) ?_
        repeat (go_big_quiet_step (first | with_reducible exact cq0 _ _))
        refine wpQuiet_nil ?_
        intro w5 hw'
        have hb5 : Below w4.heap.size w4 w5 := by obtain ⟨⟨d, os⟩, rfl⟩ := hw'; exact below_regrown _ d os
        clear hw' c0q c1q c2q c3q c4q c5q c6q c7q c8q y0q y1q cq0
        have HS5 := Lib.hid (HS4.out.below hb5)
        have HX5 := Lib.hid (HX4.out.below hb5 hle4)
        have HN5 := Lib.hid (HNy.out.trans (NearR.of_below hb5))
        clear c0 c1 c2 c3 c4 c5 c6 c7 c8 y0 y1 hyl HFr hb5 hbl4 hle4 HN4
        obtain ⟨y0, y1, hyl⟩ := yb_of HY0.out HN5.out hgb Hhi.out
        have HZ := Lib.hid (zone_any w5 b base F _ _ _ _ (s.mark y) HS5.out y.e K1.out.zone)
        cases hp : (s.mark y).puts y.e with
        | false =>
         have Hg := Lib.hid (show comeS F.p (f + 1) s y = (s.mark y).put y.e by rw [Hn2.out, if_neg (by simp [hp])])
         rw [hp] at HZ
         clear hp
         go_wp2_with fail
         refine HZ.out.mono ?_
         rintro en w6 ⟨vg1, vz1, vh1, vm1, rfl, hS6, hN6⟩
         go_wp2_with fail
         try rw [Exit.noGoto_ret]
         refine bodyPost_end (v := .tuple #[]) (by simp [results, Try.results85]) rfl ?_
         exact ⟨vg1, vz1, vh1, vm1, rfl, by rw [Hg.out]; exact hS6, HN0.out.trans (HN5.out.trans hN6)⟩
        | true =>
         have Hg := Lib.hid (show comeS F.p (f + 1) s y = goS F.p (comeS F.p f) ((s.mark y).put y.e) y.e ((fromRef F.p y.e y.n 0).getD 0) by rw [Hn2.out, if_pos hp])
         rw [hp] at HZ
         clear hp
         have hput := K1.out.put y.e
         have Hf2 := Lib.hid (Nat.le_trans (unmet_mono hput.2.met) Hf1.out)
         have Hput := Lib.hid hput
         clear hput
         go_wp2_with fail
         refine HZ.out.mono ?_
         rintro en w6 ⟨vg1, vz1, vh1, vm1, rfl, hS6, hN6⟩
         have HX6 := Lib.hid (show Ctx b base F w0 ((s.mark y).put y.e).r.steps ((s.mark y).put y.e).r.needs w6 by rw [Hput.out.2.steps, Hput.out.2.needs]; exact HX5.out.near (hN6.near HS5.out.lows HS5.out.le))
         have HN6 := Lib.hid (HN5.out.trans hN6)
         clear y0 y1 hyl
         obtain ⟨y0, y1, hyl⟩ := yb_of HY0.out HN6.out hgb Hhi.out
         have HO1 := Lib.hid (son_any F f HH.out w6 w0 b base vg1 vz1 vh1 vm1 ((s.mark y).put y.e) HX6.out hS6 Hput.out.1 Hf2.out y.e ((fromRef F.p y.e y.n 0).getD 0))
         clear hS6 hN6 HZ
         go_wp2_with fail
         refine HO1.out.mono ?_
         rintro en w7 ⟨vg2, vz2, vh2, vm2, rfl, hS7, hN7⟩
         go_wp2_with fail
         try rw [Exit.noGoto_ret]
         refine bodyPost_end (v := .tuple #[]) (by simp [results, Try.results85]) rfl ?_
         exact ⟨vg2, vz2, vh2, vm2, rfl, by rw [Hg.out]; exact hS7, HN0.out.trans (HN6.out.trans hN7)⟩
     ·have d1 : decide (0 ≤ reads F.p y) = false := by simpa using hr0
      clear hrd hr0 k16 kf16
      go_wp2_with fail
      clear d1
      have c0q := fun d os => cell_regrown c0 d os
      have c1q := fun d os => cell_regrown c1 d os
      have c2q := fun d os => cell_regrown c2 d os
      have c3q := fun d os => cell_regrown c3 d os
      have c4q := fun d os => cell_regrown c4 d os
      have c5q := fun d os => cell_regrown c5 d os
      have c6q := fun d os => cell_regrown c6 d os
      have c7q := fun d os => cell_regrown c7 d os
      have c8q := fun d os => cell_regrown c8 d os
      have y0q := fun d os => cell_regrown y0 d os
      have cq0 : ∀ d os, Calls Try.prog 84 #[.agg #[.slice F.pv.ae F.pv.ne F.pv.ce, .slice F.pv.aj F.pv.nj F.pv.cj, .slice F.pv.as_ F.pv.ns F.pv.cs, .slice F.pv.al F.pv.nl F.pv.cl, .int .i64 F.p.top, .int .i64 F.p.brake, .int .i64 F.p.margin, .int .i64 F.p.throw, .bool F.p.hard], .int .i64 y.e] (grow (redrawn w3 d) os) fun e w'' => e = .returned (.int .i64 (F.p.kind y.e)) ∧ ∃ rg : Regrown, w'' = grow (redrawn w3 rg.d) rg.os := fun d os => Calls.regrown_of (HK.out _ (below_regrown _ d os))
      refine wp_region_quiet_below (by kernel_rfl) (by kernel_rfl) ?_
      repeat (go_big_quiet_step (first | with_reducible exact cq0 _ _))
      refine wpQuiet_nil ?_
      intro w4 hw'
      have hb4 : Below w3.heap.size w3 w4 := by obtain ⟨⟨d, os⟩, rfl⟩ := hw'; exact below_regrown _ d os
      clear hw' c0q c1q c2q c3q c4q c5q c6q c7q c8q y0q cq0
      have HS4 := Lib.hid (HS3.out.below hb4)
      have HN4 := Lib.hid (HN0.out.trans (HN3.out.trans (NearR.of_below hb4)))
      have HX4 := Lib.hid (HX3.out.below hb4 hle3)
      have HNy := Lib.hid (HN3.out.trans (NearR.of_below hb4))
      clear c0 c1 c2 c3 c4 c5 c6 c7 c8 y0 y1 hyl HK hb4 hbl3 hle3
      obtain ⟨y0, y1, hyl⟩ := yb_of HY0.out HNy.out hgb Hhi.out
      have hbl4 := HS4.out.bl
      have hle4 := HS4.out.le
      by_cases hk4 : F.p.kind y.e = 4
      ·have d4 : (F.p.kind y.e == 4) = true := by simp [hk4]
       have Hg := Lib.hid (show comeS F.p (f + 1) s y = (s.mark y).strip by rw [Hn.out, if_pos hk4])
       have hA := HS4.out.bare
       have f17 := HS4.out.frozen 17
       have z17 : w4.cell? ⟨b, 17, none⟩ = some (.bool s.r.bare) := HS4.out.cell 17
       clear hk4
       go_wp2_with fail
       try rw [Exit.noGoto_ret]
       refine bodyPost_end (v := .tuple #[]) (by simp [results, Try.results85]) rfl ?_
       exact ⟨_, _, _, _, rfl, by rw [Hg.out]; exact hA.1, HN4.out.trans hA.2⟩
      ·have d4 : (F.p.kind y.e == 4) = false := by simp [hk4]
       by_cases hk2 : F.p.kind y.e = 2
       ·have d2 : (F.p.kind y.e == 2) = true := by simp [hk2]
        have Hg := Lib.hid (show comeS F.p (f + 1) s y = pointsS F.p (comeS F.p f) (s.mark y) y by rw [Hn.out, if_neg hk4, if_pos hk2])
        have HPt := Lib.hid (points_any F f HH.out w4 w0 b base _ _ _ _ (s.mark y) HX4.out HS4.out K1.out Hf1.out y Hy.out K4.out)
        clear hk4 hk2
        go_wp2_with fail
        refine HPt.out.mono ?_
        rintro en w5 ⟨vg2, vz2, vh2, vm2, rfl, hS5, hN5⟩
        go_wp2_with fail
        try rw [Exit.noGoto_ret]
        refine bodyPost_end (v := .tuple #[]) (by simp [results, Try.results85]) rfl ?_
        exact ⟨vg2, vz2, vh2, vm2, rfl, by rw [Hg.out]; exact hS5, HN4.out.trans hN5⟩
       ·have d2 : (F.p.kind y.e == 2) = false := by simp [hk2]
        have Hn2 := Lib.hid (show comeS F.p (f + 1) s y = (if (s.mark y).puts y.e then goS F.p (comeS F.p f) ((s.mark y).put y.e) y.e ((fromRef F.p y.e y.n 0).getD 0) else (s.mark y).put y.e) by rw [Hn.out, if_neg hk4, if_neg hk2])
        have HFr := Lib.hid (fun (u : World) (hb : Below w4.heap.size w4 u) => reffrom_any u F.pv F.p (HX4.out.below hb hle4).plan y.e y.n 0)
        dsimp only [PV.val] at HFr
        have c0 : w4.cell? ⟨b, 0, none⟩ = some (.slice F.pv.ae F.pv.ne F.pv.ce) := HS4.out.cell 0
        have c1 : w4.cell? ⟨b, 1, none⟩ = some (.slice F.pv.aj F.pv.nj F.pv.cj) := HS4.out.cell 1
        have c2 : w4.cell? ⟨b, 2, none⟩ = some (.slice F.pv.as_ F.pv.ns F.pv.cs) := HS4.out.cell 2
        have c3 : w4.cell? ⟨b, 3, none⟩ = some (.slice F.pv.al F.pv.nl F.pv.cl) := HS4.out.cell 3
        have c4 : w4.cell? ⟨b, 4, none⟩ = some (.int .i64 F.p.top) := HS4.out.cell 4
        have c5 : w4.cell? ⟨b, 5, none⟩ = some (.int .i64 F.p.brake) := HS4.out.cell 5
        have c6 : w4.cell? ⟨b, 6, none⟩ = some (.int .i64 F.p.margin) := HS4.out.cell 6
        have c7 : w4.cell? ⟨b, 7, none⟩ = some (.int .i64 F.p.throw) := HS4.out.cell 7
        have c8 : w4.cell? ⟨b, 8, none⟩ = some (.bool F.p.hard) := HS4.out.cell 8
        clear hk4 hk2
        go_wp2_with fail
        have c0q := fun d os => cell_regrown c0 d os
        have c1q := fun d os => cell_regrown c1 d os
        have c2q := fun d os => cell_regrown c2 d os
        have c3q := fun d os => cell_regrown c3 d os
        have c4q := fun d os => cell_regrown c4 d os
        have c5q := fun d os => cell_regrown c5 d os
        have c6q := fun d os => cell_regrown c6 d os
        have c7q := fun d os => cell_regrown c7 d os
        have c8q := fun d os => cell_regrown c8 d os
        have y0q := fun d os => cell_regrown y0 d os
        have y1q := fun d os => cell_regrown y1 d os
        have cq0 : ∀ d os, Calls Try.prog 95 #[.agg #[.slice F.pv.ae F.pv.ne F.pv.ce, .slice F.pv.aj F.pv.nj F.pv.cj, .slice F.pv.as_ F.pv.ns F.pv.cs, .slice F.pv.al F.pv.nl F.pv.cl, .int .i64 F.p.top, .int .i64 F.p.brake, .int .i64 F.p.margin, .int .i64 F.p.throw, .bool F.p.hard], .int .i64 y.e, .int .i64 y.n, .int .i64 0] (grow (redrawn w4 d) os) fun e w'' => e = .returned (.tuple #[.int .i64 ((fromRef F.p y.e y.n 0).getD 0), .bool (fromRef F.p y.e y.n 0).isSome]) ∧ ∃ rg : Regrown, w'' = grow (redrawn w4 rg.d) rg.os := fun d os => Calls.regrown_of (HFr.out _ (below_regrown _ d os))
        refine wp_region_quiet_below (by kernel_rfl) (by kernel_rfl) ?_
        repeat (go_big_quiet_step (first | with_reducible exact cq0 _ _))
        refine wpQuiet_nil ?_
        intro w5 hw'
        have hb5 : Below w4.heap.size w4 w5 := by obtain ⟨⟨d, os⟩, rfl⟩ := hw'; exact below_regrown _ d os
        clear hw' c0q c1q c2q c3q c4q c5q c6q c7q c8q y0q y1q cq0
        have HS5 := Lib.hid (HS4.out.below hb5)
        have HX5 := Lib.hid (HX4.out.below hb5 hle4)
        have HN5 := Lib.hid (HNy.out.trans (NearR.of_below hb5))
        clear c0 c1 c2 c3 c4 c5 c6 c7 c8 y0 y1 hyl HFr hb5 hbl4 hle4 HN4
        obtain ⟨y0, y1, hyl⟩ := yb_of HY0.out HN5.out hgb Hhi.out
        have HZ := Lib.hid (zone_any w5 b base F _ _ _ _ (s.mark y) HS5.out y.e K1.out.zone)
        cases hp : (s.mark y).puts y.e with
        | false =>
         have Hg := Lib.hid (show comeS F.p (f + 1) s y = (s.mark y).put y.e by rw [Hn2.out, if_neg (by simp [hp])])
         rw [hp] at HZ
         clear hp
         go_wp2_with fail
         refine HZ.out.mono ?_
         rintro en w6 ⟨vg1, vz1, vh1, vm1, rfl, hS6, hN6⟩
         go_wp2_with fail
         try rw [Exit.noGoto_ret]
         refine bodyPost_end (v := .tuple #[]) (by simp [results, Try.results85]) rfl ?_
         exact ⟨vg1, vz1, vh1, vm1, rfl, by rw [Hg.out]; exact hS6, HN0.out.trans (HN5.out.trans hN6)⟩
        | true =>
         have Hg := Lib.hid (show comeS F.p (f + 1) s y = goS F.p (comeS F.p f) ((s.mark y).put y.e) y.e ((fromRef F.p y.e y.n 0).getD 0) by rw [Hn2.out, if_pos hp])
         rw [hp] at HZ
         clear hp
         have hput := K1.out.put y.e
         have Hf2 := Lib.hid (Nat.le_trans (unmet_mono hput.2.met) Hf1.out)
         have Hput := Lib.hid hput
         clear hput
         go_wp2_with fail
         refine HZ.out.mono ?_
         rintro en w6 ⟨vg1, vz1, vh1, vm1, rfl, hS6, hN6⟩
         have HX6 := Lib.hid (show Ctx b base F w0 ((s.mark y).put y.e).r.steps ((s.mark y).put y.e).r.needs w6 by rw [Hput.out.2.steps, Hput.out.2.needs]; exact HX5.out.near (hN6.near HS5.out.lows HS5.out.le))
         have HN6 := Lib.hid (HN5.out.trans hN6)
         clear y0 y1 hyl
         obtain ⟨y0, y1, hyl⟩ := yb_of HY0.out HN6.out hgb Hhi.out
         have HO1 := Lib.hid (son_any F f HH.out w6 w0 b base vg1 vz1 vh1 vm1 ((s.mark y).put y.e) HX6.out hS6 Hput.out.1 Hf2.out y.e ((fromRef F.p y.e y.n 0).getD 0))
         clear hS6 hN6 HZ
         go_wp2_with fail
         refine HO1.out.mono ?_
         rintro en w7 ⟨vg2, vz2, vh2, vm2, rfl, hS7, hN7⟩
         go_wp2_with fail
         try rw [Exit.noGoto_ret]
         refine bodyPost_end (v := .tuple #[]) (by simp [results, Try.results85]) rfl ?_
         exact ⟨vg2, vz2, vh2, vm2, rfl, by rw [Hg.out]; exact hS7, HN0.out.trans (HN6.out.trans hN7)⟩
end Go.Proofs.Ytnkpiijljfjmkaa
