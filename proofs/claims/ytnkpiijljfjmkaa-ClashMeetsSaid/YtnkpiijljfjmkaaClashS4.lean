/- Walk of semaphoreref12's search.points. Condition: the search is in memory; come does what comeS says. -/
import Derived.Test.YtnkpiijljfjmkaaClashS1
set_option maxRecDepth 1000000
namespace Go.Proofs.Ytnkpiijljfjmkaa
open Go.ChangeShapes Go.WideShapes Go.ChangeAt Go.RowKit Go.Sort

/-- the port's box, older than nothing that the search grows -/
structure YBox (w : World) (g : Nat) (y : Port) : Prop where
 c0 : w.cell? ⟨g, 0, none⟩ = some (.int .i64 y.e)
 c1 : w.cell? ⟨g, 1, none⟩ = some (.int .i64 y.n)
 lt : g < w.heap.size
theorem ybox_new (w : World) (y : Port) : YBox (w.alloc (.cells #[.int .i64 y.e, .int .i64 y.n] 86)) w.heap.size y := ⟨by go_simp, by go_simp, by simp⟩
theorem portNo_le {p : Plan} (hc : chk p = 0) : portNo p ≤ 160 := by
 have hl : p.elems.length ≤ 40 := by
  unfold chk at hc
  split at hc
  ·cases hc
  ·rename_i h; unfold tooMuch at h; simp at h; omega
 unfold portNo; omega
theorem row_need1 {w : World} {g : Nat} {x : Need} (h : w.heap[g]? = some (.cells #[.int .i64 x.e, .int .i64 x.pos] 72)) : Row 2 encNeed w (some ⟨g, 0, none⟩) 1 [x] :=
 row_block (sz := 2) (enc := encNeed) (fun _ => rfl) (by decide) [x] h rfl rfl (by omega)
theorem yb_of {w w' : World} {g b : Nat} {y : Port} {l l' : List Value} (h : YBox w g y) (hN : NearR b l l' w w') (hb : g ≠ b) (hl : ∀ v ∈ l, v.ownBlock ≠ some g) : YBox w' g y := by
 have hk := hN.block g h.lt hb hl
 exact ⟨(cell_of_same hk 0).trans h.c0, (cell_of_same hk 1).trans h.c1, Nat.lt_of_lt_of_le h.lt hN.size⟩
theorem SrchAt.highs {w : World} {b base : Nat} {F : Fix} {vg vz vh vm : Value} {s : Srch} (h : SrchAt w b base F vg vz vh vm s) : ∀ v ∈ [vg, vz, vh, vm], v.ownBlock ≠ some w.heap.size := by
 intro v hv hk
 simp only [List.mem_cons, List.not_mem_nil, or_false] at hv
 rcases hv with rfl | rfl | rfl | rfl
 ·exact absurd ((h.rows.own (rowG v s.r.guards) (by simp)).lt _ hk).2 (Nat.lt_irrefl _)
 ·exact absurd ((h.rows.own (rowZ v s.r.zone) (by simp)).lt _ hk).2 (Nat.lt_irrefl _)
 ·exact absurd ((h.rows.own (rowZ v s.r.holds) (by simp)).lt _ hk).2 (Nat.lt_irrefl _)
 ·exact absurd ((h.rows.own (rowP v s.met) (by simp)).lt _ hk).2 (Nat.lt_irrefl _)
set_option maxHeartbeats 8000000 in
theorem points_any (F : Fix) (f : Nat) (H : ComeOk F f) (w w0 : World) (b base : Nat) (vg vz vh vm : Value) (s : Srch) (hx : Ctx b base F w0 s.r.steps s.r.needs w) (hs : SrchAt w b base F vg vz vh vm s) (ho : SOk F.p s) (hf : unmet F.p s.met ≤ f) (y : Port) (hy : isPort F.p y = true) (hgd : s.r.guards.length + 1 ≤ s.met.length) :
  Calls Try.prog 94 #[.pointer (some ⟨b, 0, none⟩), .agg #[.int .i64 y.e, .int .i64 y.n]] w (SrchPost w b base F [vg, vz, vh, vm] (pointsS F.p (comeS F.p f) s y) (.tuple #[])) := by
 have Hx := Lib.hid hx
 have Hs := Lib.hid hs
 have Ho := Lib.hid ho
 have Hf := Lib.hid hf
 have HH := Lib.hid H
 have Hgd := Lib.hid hgd
 have hbl := hs.bl
 have hle := hs.le
 have hnn : 0 ≤ y.n ∧ y.n < 4 := by
  have he : ∀ k : Int, ends k ≤ 4 := fun k => by unfold ends; (repeat' split) <;> omega
  have := he (F.p.kind y.e)
  unfold isPort at hy
  simp only [Bool.and_eq_true, decide_eq_true_eq] at hy
  omega
 obtain ⟨W0, hW0⟩ : ∃ W0, W0 = w.alloc (.cells #[.int .i64 y.e, .int .i64 y.n] 86) := ⟨_, rfl⟩
 have Hb0 := Lib.hid (show Below w.heap.size w W0 by rw [hW0]; exact below_new1 w _)
 have HY0 := Lib.hid (show YBox W0 w.heap.size y by rw [hW0]; exact ybox_new w y)
 have HN0 := Lib.hid (NearR.of_below (b := b) (l := [vg, vz, vh, vm]) Hb0.out)
 have HX0 := Lib.hid (Hx.out.below Hb0.out hle)
 have Hhi := Lib.hid (hs.highs)
 have hgb : w.heap.size ≠ b := by have := hs.lt; omega
 have HS0 := Lib.hid (Hs.out.below Hb0.out)
 have hle0 := HS0.out.le
 have hbl0 := HS0.out.bl
 have hzw : base ≤ w.heap.size := hle
 have hok0 := Ho.out.zone
 clear hx hs ho hf H hy hgd
 obtain ⟨y0, y1, hyl⟩ := HY0.out
 by_cases hn0 : y.n = 0
 ·have d0 : (y.n == 0) = true := by simp [hn0]
  have HZ := Lib.hid (zone_any W0 b base F vg vz vh vm s HS0.out y.e hok0)
  cases hp : s.puts y.e with
  | false =>
   have hg : pointsS F.p (comeS F.p f) s y = s.put y.e := by unfold pointsS; rw [if_pos hn0, if_neg (by simp [hp])]
   rw [hp] at HZ
   rw [hg]
   clear hp hg hn0
   go_enter Try.func94, Try.ntmps94
   go_wp2_with fail
   rw [← hW0]
   clear hW0
   go_wp2_with fail
   refine HZ.out.mono ?_
   rintro en w1 ⟨vg1, vz1, vh1, vm1, rfl, hS1, hN1⟩
   go_wp2_with fail
   try rw [Exit.noGoto_ret]
   refine bodyPost_end (v := .tuple #[]) (by simp [results, Try.results94]) rfl ?_
   exact ⟨vg1, vz1, vh1, vm1, rfl, hS1, HN0.out.trans hN1⟩
  | true =>
   have hg : pointsS F.p (comeS F.p f) s y = goS F.p (comeS F.p f) (goS F.p (comeS F.p f) (s.put y.e) y.e 1) y.e 2 := by unfold pointsS; rw [if_pos hn0, if_pos hp]
   rw [hp] at HZ
   rw [hg]
   clear hp hg hn0
   have hput := Ho.out.put y.e
   have hf1 := Nat.le_trans (unmet_mono hput.2.met) Hf.out
   have hgo := goS_ok (p := F.p) (fun x z h => next_isPort Hx.out.ok h) (fun s y h1 h2 h3 => come_ok (fun x z h => next_isPort Hx.out.ok h) f s y h1 h2 h3) hput.1 hf1 y.e 1
   have Hput := Lib.hid hput
   have Hf1 := Lib.hid hf1
   have Hgo := Lib.hid hgo
   clear hput hf1 hgo
   go_enter Try.func94, Try.ntmps94
   go_wp2_with fail
   rw [← hW0]
   clear hW0
   go_wp2_with fail
   refine HZ.out.mono ?_
   rintro en w1 ⟨vg1, vz1, vh1, vm1, rfl, hS1, hN1⟩
   have HX1 := Lib.hid (show Ctx b base F w0 (s.put y.e).r.steps (s.put y.e).r.needs w1 by rw [Hput.out.2.steps, Hput.out.2.needs]; exact HX0.out.near (hN1.near HS0.out.lows hle0))
   obtain ⟨y0, y1, hyl⟩ := yb_of HY0.out hN1 hgb Hhi.out
   have HO1 := Lib.hid (son_any F f HH.out w1 w0 b base vg1 vz1 vh1 vm1 (s.put y.e) HX1.out hS1 Hput.out.1 Hf1.out y.e 1)
   have HS1 := Lib.hid hS1
   have HN1 := Lib.hid hN1
   clear hS1 hN1
   go_wp2_with fail
   refine HO1.out.mono ?_
   rintro en w2 ⟨vg2, vz2, vh2, vm2, rfl, hS2, hN2⟩
   have HX2 := Lib.hid (show Ctx b base F w0 (goS F.p (comeS F.p f) (s.put y.e) y.e 1).r.steps (goS F.p (comeS F.p f) (s.put y.e) y.e 1).r.needs w2 by rw [Hgo.out.2.steps, Hgo.out.2.needs]; exact HX1.out.near (hN2.near HS1.out.lows HS1.out.le))
   have HN2 := Lib.hid (HN1.out.trans hN2)
   clear y0 y1 hyl
   obtain ⟨y0, y1, hyl⟩ := yb_of HY0.out HN2.out hgb Hhi.out
   have HO2 := Lib.hid (son_any F f HH.out w2 w0 b base vg2 vz2 vh2 vm2 (goS F.p (comeS F.p f) (s.put y.e) y.e 1) HX2.out hS2 Hgo.out.1 (Nat.le_trans (unmet_mono Hgo.out.2.met) Hf1.out) y.e 2)
   clear hS2 hN2 HO1
   go_wp2_with fail
   refine HO2.out.mono ?_
   rintro en w3 ⟨vg3, vz3, vh3, vm3, rfl, hS3, hN3⟩
   go_wp2_with fail
   try rw [Exit.noGoto_ret]
   refine bodyPost_end (v := .tuple #[]) (by simp [results, Try.results94]) rfl ?_
   exact ⟨vg3, vz3, vh3, vm3, rfl, hS3, HN0.out.trans (HN2.out.trans hN3)⟩
 ·have d0 : (y.n == 0) = false := by simpa using hn0
  have hwr : IntKind.i64.wrap (3 - y.n) = 3 - y.n := IntWalk.i64_in _ (by omega)
  go_enter Try.func94, Try.ntmps94
  go_wp2_with fail
  rw [← hW0]
  clear hW0
  go_wp2_with fail
  have hSall : ∀ w' : World, Below W0.heap.size W0 w' → (w'.cell? ⟨w.heap.size, 0, none⟩ = some (.int .i64 y.e) ∧ w'.cell? ⟨w.heap.size, 1, none⟩ = some (.int .i64 y.n)) := fun w' hb => ⟨(hb.cell (p := ⟨w.heap.size, 0, none⟩) hyl).trans y0, (hb.cell (p := ⟨w.heap.size, 1, none⟩) hyl).trans y1⟩
  refine wp_region_noPanic ?_
  refine region_ob (S := fun w' => w'.cell? ⟨w.heap.size, 0, none⟩ = some (.int .i64 y.e) ∧ w'.cell? ⟨w.heap.size, 1, none⟩ = some (.int .i64 y.n)) (ob := fun t => decide (t < 15)) (by kernel_rfl) ?_
  refine tk 0 (.pointer (some ⟨w.heap.size, 0, none⟩)) ?_ (hSall _ (Below.refl _ _).drew) ?_
  ·intro w' hSw
   (try dsimp only at hSw)
   go_simp
  (try simp only [zA, zC, Act.put, zD, zE, zF])
  refine tk 1 (.int .i64 y.e) ?_ (hSall _ (Below.refl _ _).drew) ?_
  ·intro w' hSw
   (try dsimp only at hSw)
   go_simp
  (try simp only [zA, zB, zC, Act.put, zD, zE, zF])
  refine tk 2 (.pointer (some ⟨w.heap.size, 1, none⟩)) ?_ (hSall _ (Below.refl _ _).drew) ?_
  ·intro w' hSw
   (try dsimp only at hSw)
   go_simp
  (try simp only [zA, zB, zC, Act.put, zD, zE, zF])
  refine tk 3 (.int .i64 y.n) ?_ (hSall _ (Below.refl _ _).drew) ?_
  ·intro w' hSw
   (try dsimp only at hSw)
   go_simp
  (try simp only [zA, zB, zC, Act.put, zD, zE, zF])
  refine tk 4 (.agg #[.int .i64 y.e, .int .i64 y.n]) ?_ (hSall _ (Below.refl _ _).drew) ?_
  ·intro w' hSw
   (try dsimp only at hSw)
   go_simp
  (try simp only [zA, zB, zC, Act.put, zD, zE, zF])
  refine tk 5 (.pointer (some ⟨w.heap.size, 0, none⟩)) ?_ (hSall _ (Below.refl _ _).drew) ?_
  ·intro w' hSw
   (try dsimp only at hSw)
   go_simp
  (try simp only [zA, zB, zC, Act.put, zD, zE, zF])
  refine tk 6 (.int .i64 y.e) ?_ (hSall _ (Below.refl _ _).drew) ?_
  ·intro w' hSw
   (try dsimp only at hSw)
   go_simp
  (try simp only [zA, zB, zC, Act.put, zD, zE, zF])
  refine tk 7 (.pointer (some ⟨w.heap.size, 1, none⟩)) ?_ (hSall _ (Below.refl _ _).drew) ?_
  ·intro w' hSw
   (try dsimp only at hSw)
   go_simp
  (try simp only [zA, zB, zC, Act.put, zD, zE, zF])
  refine tk 8 (.int .i64 y.n) ?_ (hSall _ (Below.refl _ _).drew) ?_
  ·intro w' hSw
   (try dsimp only at hSw)
   go_simp
  (try simp only [zA, zB, zC, Act.put, zD, zE, zF])
  refine tk 9 (.int .i64 (3 - y.n)) ?_ (hSall _ (Below.refl _ _).drew) ?_
  ·intro w' hSw
   (try dsimp only at hSw)
   go_simp
  (try simp only [zA, zB, zC, Act.put, zD, zE, zF])
  refine tk 10 (.agg #[.int .i64 y.e, .int .i64 (3 - y.n)]) ?_ (hSall _ (Below.refl _ _).drew) ?_
  ·intro w' hSw
   (try dsimp only at hSw)
   go_simp
  (try simp only [zA, zB, zC, Act.put, zD, zE, zF])
  refine ob_name fun OPS hO R hR A hA => ?_
  have key : ∀ (w5 : World) (g4 g5 : Nat), Below W0.heap.size W0 w5 → w5.cell? ⟨g4, 0, none⟩ = some (.int .i64 y.e) → w5.cell? ⟨g4, 1, none⟩ = some (.int .i64 y.n) → w5.cell? ⟨g5, 0, none⟩ = some (.int .i64 y.e) → w5.cell? ⟨g5, 1, none⟩ = some (.int .i64 (3 - y.n)) → g4 < w5.heap.size → g5 < w5.heap.size → W0.heap.size ≤ g4 → W0.heap.size ≤ g5 →
    R .normal ((A.put (some 4) (.pointer (some ⟨g4, 0, none⟩))).put (some 5) (.pointer (some ⟨g5, 0, none⟩))) w5 := by
   intro w5 g4 g5 hw5 l0 l1 t0 t1 hg4 hg5 hl4 hl5
   have Hw5 := Lib.hid hw5
   subst hO
   subst hR
   subst hA
   refine NoPanic.normal ?_
   (try simp only [Act.put, zD, zE, zF])
   clear hSall hw5 y0 y1 hyl
   have HX5 := Lib.hid (HX0.out.below Hw5.out hle0)
   obtain ⟨ag, cg, rfl, _, hcg⟩ := own_slice HS0.out.og
   have HS5 := Lib.hid (HS0.out.below Hw5.out)
   have hbl5 := HS5.out.bl
   have n13 : w5.cell? ⟨b, 13, none⟩ = some (.slice F.na F.nn F.nc) := HS5.out.cell 13
   have n14 : w5.cell? ⟨b, 14, none⟩ = some (.slice ag s.r.guards.length cg) := HS5.out.cell 14
   have HM1 := Lib.hid (fun (u : World) (hb : Below w5.heap.size w5 u) => hasneed_any u F.na F.nn F.nc s.r.needs (HX5.out.below hb (by have := Hw5.out.size; omega)).nd ⟨y.e, y.n⟩)
   dsimp only at HM1
   have HM2 := Lib.hid (fun (u : World) (hb : Below w5.heap.size w5 u) => hasneed_any u ag s.r.guards.length cg s.r.guards (owns_row encNeed_len (HS5.out.below hb).og (by decide)).1 ⟨y.e, y.n⟩)
   dsimp only at HM2
   have HM3 := Lib.hid (fun (u : World) (hb : Below w5.heap.size w5 u) => hasneed_any u ag s.r.guards.length cg s.r.guards (owns_row encNeed_len (HS5.out.below hb).og (by decide)).1 ⟨y.e, 3 - y.n⟩)
   dsimp only at HM3
   have HN5 := Lib.hid (HN0.out.trans (NearR.of_below Hw5.out))
   cases hm1 : memB (⟨y.e, y.n⟩ : Need) s.r.needs with
   | true =>
    rw [hm1] at HM1
    have hz := Lib.hid (show (⟨y.e, y.n⟩ : Need) ∈ s.r.needs ∨ (⟨y.e, y.n⟩ : Need) ∈ s.r.guards from .inl (memB_iff.1 hm1))
    clear hm1
    go_wp2_with fail
    have n13q := fun d os => cell_regrown n13 d os
    have l0q := fun d os => cell_regrown l0 d os
    have l1q := fun d os => cell_regrown l1 d os
    have cq0 : ∀ d os, Calls Try.prog 98 #[.slice F.na F.nn F.nc, .agg #[.int .i64 y.e, .int .i64 y.n]] (grow (redrawn w5 d) os) fun e w'' => e = .returned (.bool true) ∧ ∃ rg : Regrown, w'' = grow (redrawn w5 rg.d) rg.os := fun d os => Calls.regrown_of (HM1.out _ (below_regrown _ d os))
    refine wp_region_quiet_below (by kernel_rfl) (by kernel_rfl) ?_
    repeat (go_big_quiet_step (first | with_reducible exact cq0 _ _))
    refine wpQuiet_nil ?_
    intro w6 hw'
    have hb6 : Below w5.heap.size w5 w6 := by obtain ⟨⟨d, os⟩, rfl⟩ := hw'; exact below_regrown _ d os
    clear hw' n13q l0q l1q cq0
    have HS6 := Lib.hid (HS5.out.below hb6)
    have HX6 := Lib.hid (HX5.out.below hb6 (by have := Hw5.out.size; omega))
    have HN6 := Lib.hid ((NearR.of_below (b := b) (l := [.slice ag s.r.guards.length cg, vz, vh, vm]) Hw5.out).trans (NearR.of_below hb6))
    clear n13 n14 l0 l1 t0 t1 hg4 hg5 hbl5 HM1 HM2 HM3 hb6
    obtain ⟨y0, y1, hyl⟩ := yb_of HY0.out HN6.out hgb Hhi.out
    have HZ := Lib.hid (zone_any w6 b base F _ vz vh vm s HS6.out y.e hok0)
    cases hp : s.puts y.e with
    | false =>
     have hg : pointsS F.p (comeS F.p f) s y = s.put y.e := by unfold pointsS; rw [if_neg hn0, if_neg (fun h => hz.out.elim h.1 h.2), if_neg (by simp [hp])]
     rw [hp] at HZ
     have Hg := Lib.hid hg
     clear hp hg
     go_wp2_with fail
     refine HZ.out.mono ?_
     rintro en w7 ⟨vg1, vz1, vh1, vm1, rfl, hS1, hN1⟩
     go_wp2_with fail
     try rw [Exit.noGoto_ret]
     refine bodyPost_end (v := .tuple #[]) (by simp [results, Try.results94]) rfl ?_
     exact ⟨vg1, vz1, vh1, vm1, rfl, by rw [Hg.out]; exact hS1, HN0.out.trans (HN6.out.trans hN1)⟩
    | true =>
     have hg : pointsS F.p (comeS F.p f) s y = goS F.p (comeS F.p f) (s.put y.e) y.e 0 := by unfold pointsS; rw [if_neg hn0, if_neg (fun h => hz.out.elim h.1 h.2), if_pos hp]
     rw [hp] at HZ
     have Hg := Lib.hid hg
     clear hp hg
     have hput := Ho.out.put y.e
     have Hf1 := Lib.hid (Nat.le_trans (unmet_mono hput.2.met) Hf.out)
     have Hput := Lib.hid hput
     clear hput
     go_wp2_with fail
     refine HZ.out.mono ?_
     rintro en w7 ⟨vg1, vz1, vh1, vm1, rfl, hS1, hN1⟩
     have HX7 := Lib.hid (show Ctx b base F w0 (s.put y.e).r.steps (s.put y.e).r.needs w7 by rw [Hput.out.2.steps, Hput.out.2.needs]; exact HX6.out.near (hN1.near HS6.out.lows HS6.out.le))
     have HN7 := Lib.hid (HN6.out.trans hN1)
     clear y0 y1 hyl
     obtain ⟨y0, y1, hyl⟩ := yb_of HY0.out HN7.out hgb Hhi.out
     have HO1 := Lib.hid (son_any F f HH.out w7 w0 b base vg1 vz1 vh1 vm1 (s.put y.e) HX7.out hS1 Hput.out.1 Hf1.out y.e 0)
     clear hS1 hN1 HZ
     go_wp2_with fail
     refine HO1.out.mono ?_
     rintro en w8 ⟨vg2, vz2, vh2, vm2, rfl, hS2, hN2⟩
     go_wp2_with fail
     try rw [Exit.noGoto_ret]
     refine bodyPost_end (v := .tuple #[]) (by simp [results, Try.results94]) rfl ?_
     exact ⟨vg2, vz2, vh2, vm2, rfl, by rw [Hg.out]; exact hS2, HN0.out.trans (HN7.out.trans hN2)⟩
   | false =>
    rw [hm1] at HM1
    cases hm2 : memB (⟨y.e, y.n⟩ : Need) s.r.guards with
    | true =>
     rw [hm2] at HM2
     have hz := Lib.hid (show (⟨y.e, y.n⟩ : Need) ∈ s.r.needs ∨ (⟨y.e, y.n⟩ : Need) ∈ s.r.guards from .inr (memB_iff.1 hm2))
     clear hm1 hm2
     go_wp2_with fail
     have n13q := fun d os => cell_regrown n13 d os
     have n14q := fun d os => cell_regrown n14 d os
     have l0q := fun d os => cell_regrown l0 d os
     have l1q := fun d os => cell_regrown l1 d os
     have cq0 : ∀ d os, Calls Try.prog 98 #[.slice F.na F.nn F.nc, .agg #[.int .i64 y.e, .int .i64 y.n]] (grow (redrawn w5 d) os) fun e w'' => e = .returned (.bool false) ∧ ∃ rg : Regrown, w'' = grow (redrawn w5 rg.d) rg.os := fun d os => Calls.regrown_of (HM1.out _ (below_regrown _ d os))
     have cq1 : ∀ d os, Calls Try.prog 98 #[.slice ag s.r.guards.length cg, .agg #[.int .i64 y.e, .int .i64 y.n]] (grow (redrawn w5 d) os) fun e w'' => e = .returned (.bool true) ∧ ∃ rg : Regrown, w'' = grow (redrawn w5 rg.d) rg.os := fun d os => Calls.regrown_of (HM2.out _ (below_regrown _ d os))
     refine wp_region_quiet_below (by kernel_rfl) (by kernel_rfl) ?_
     repeat (go_big_quiet_step (first | with_reducible exact cq0 _ _ | with_reducible exact cq1 _ _))
     refine wpQuiet_nil ?_
     intro w6 hw'
     have hb6 : Below w5.heap.size w5 w6 := by obtain ⟨⟨d, os⟩, rfl⟩ := hw'; exact below_regrown _ d os
     clear hw' n13q n14q l0q l1q cq0 cq1
     have HS6 := Lib.hid (HS5.out.below hb6)
     have HX6 := Lib.hid (HX5.out.below hb6 (by have := Hw5.out.size; omega))
     have HN6 := Lib.hid ((NearR.of_below (b := b) (l := [.slice ag s.r.guards.length cg, vz, vh, vm]) Hw5.out).trans (NearR.of_below hb6))
     clear n13 n14 l0 l1 t0 t1 hg4 hg5 hbl5 HM1 HM2 HM3 hb6
     obtain ⟨y0, y1, hyl⟩ := yb_of HY0.out HN6.out hgb Hhi.out
     have HZ := Lib.hid (zone_any w6 b base F _ vz vh vm s HS6.out y.e hok0)
     cases hp : s.puts y.e with
     | false =>
      have hg : pointsS F.p (comeS F.p f) s y = s.put y.e := by unfold pointsS; rw [if_neg hn0, if_neg (fun h => hz.out.elim h.1 h.2), if_neg (by simp [hp])]
      rw [hp] at HZ
      have Hg := Lib.hid hg
      clear hp hg
      go_wp2_with fail
      refine HZ.out.mono ?_
      rintro en w7 ⟨vg1, vz1, vh1, vm1, rfl, hS1, hN1⟩
      go_wp2_with fail
      try rw [Exit.noGoto_ret]
      refine bodyPost_end (v := .tuple #[]) (by simp [results, Try.results94]) rfl ?_
      exact ⟨vg1, vz1, vh1, vm1, rfl, by rw [Hg.out]; exact hS1, HN0.out.trans (HN6.out.trans hN1)⟩
     | true =>
      have hg : pointsS F.p (comeS F.p f) s y = goS F.p (comeS F.p f) (s.put y.e) y.e 0 := by unfold pointsS; rw [if_neg hn0, if_neg (fun h => hz.out.elim h.1 h.2), if_pos hp]
      rw [hp] at HZ
      have Hg := Lib.hid hg
      clear hp hg
      have hput := Ho.out.put y.e
      have Hf1 := Lib.hid (Nat.le_trans (unmet_mono hput.2.met) Hf.out)
      have Hput := Lib.hid hput
      clear hput
      go_wp2_with fail
      refine HZ.out.mono ?_
      rintro en w7 ⟨vg1, vz1, vh1, vm1, rfl, hS1, hN1⟩
      have HX7 := Lib.hid (show Ctx b base F w0 (s.put y.e).r.steps (s.put y.e).r.needs w7 by rw [Hput.out.2.steps, Hput.out.2.needs]; exact HX6.out.near (hN1.near HS6.out.lows HS6.out.le))
      have HN7 := Lib.hid (HN6.out.trans hN1)
      clear y0 y1 hyl
      obtain ⟨y0, y1, hyl⟩ := yb_of HY0.out HN7.out hgb Hhi.out
      have HO1 := Lib.hid (son_any F f HH.out w7 w0 b base vg1 vz1 vh1 vm1 (s.put y.e) HX7.out hS1 Hput.out.1 Hf1.out y.e 0)
      clear hS1 hN1 HZ
      go_wp2_with fail
      refine HO1.out.mono ?_
      rintro en w8 ⟨vg2, vz2, vh2, vm2, rfl, hS2, hN2⟩
      go_wp2_with fail
      try rw [Exit.noGoto_ret]
      refine bodyPost_end (v := .tuple #[]) (by simp [results, Try.results94]) rfl ?_
      exact ⟨vg2, vz2, vh2, vm2, rfl, by rw [Hg.out]; exact hS2, HN0.out.trans (HN7.out.trans hN2)⟩
    | false =>
     rw [hm2] at HM2
     have hg : pointsS F.p (comeS F.p f) s y = s.guard ⟨y.e, 3 - y.n⟩ := by
      unfold pointsS
      rw [if_neg hn0, if_pos ⟨fun h => (by rw [memB_iff.2 h] at hm1; cases hm1), fun h => (by rw [memB_iff.2 h] at hm2; cases hm2)⟩]
     have Hg := Lib.hid hg
     clear hm1 hm2 hg
     cases hm3 : memB (⟨y.e, 3 - y.n⟩ : Need) s.r.guards with
     | true =>
      rw [hm3] at HM3
      have hg : s.guard ⟨y.e, 3 - y.n⟩ = s := by unfold Srch.guard; rw [if_pos (memB_iff.1 hm3)]
      have Hg2 := Lib.hid hg
      clear hm3 hg
      go_wp2_with fail
      have n13q := fun d os => cell_regrown n13 d os
      have n14q := fun d os => cell_regrown n14 d os
      have l0q := fun d os => cell_regrown l0 d os
      have l1q := fun d os => cell_regrown l1 d os
      have cq0 : ∀ d os, Calls Try.prog 98 #[.slice F.na F.nn F.nc, .agg #[.int .i64 y.e, .int .i64 y.n]] (grow (redrawn w5 d) os) fun e w'' => e = .returned (.bool false) ∧ ∃ rg : Regrown, w'' = grow (redrawn w5 rg.d) rg.os := fun d os => Calls.regrown_of (HM1.out _ (below_regrown _ d os))
      have cq1 : ∀ d os, Calls Try.prog 98 #[.slice ag s.r.guards.length cg, .agg #[.int .i64 y.e, .int .i64 y.n]] (grow (redrawn w5 d) os) fun e w'' => e = .returned (.bool false) ∧ ∃ rg : Regrown, w'' = grow (redrawn w5 rg.d) rg.os := fun d os => Calls.regrown_of (HM2.out _ (below_regrown _ d os))
      refine wp_region_quiet_below (by kernel_rfl) (by kernel_rfl) ?_
      repeat (go_big_quiet_step (first | with_reducible exact cq0 _ _ | with_reducible exact cq1 _ _))
      refine wpQuiet_nil ?_
      intro w6 hw'
      have hb6 : Below w5.heap.size w5 w6 := by obtain ⟨⟨d, os⟩, rfl⟩ := hw'; exact below_regrown _ d os
      clear hw' n13q n14q l0q l1q cq0 cq1
      have m14 : w6.cell? ⟨b, 14, none⟩ = some (.slice ag s.r.guards.length cg) := (hb6.cell (p := ⟨b, 14, none⟩) hbl5).trans n14
      have u0 : w6.cell? ⟨g5, 0, none⟩ = some (.int .i64 y.e) := (hb6.cell (p := ⟨g5, 0, none⟩) hg5).trans t0
      have u1 : w6.cell? ⟨g5, 1, none⟩ = some (.int .i64 (3 - y.n)) := (hb6.cell (p := ⟨g5, 1, none⟩) hg5).trans t1
      have hbl6 : b < w6.heap.size := Nat.lt_of_lt_of_le hbl5 hb6.size
      have hg56 : g5 < w6.heap.size := Nat.lt_of_lt_of_le hg5 hb6.size
      clear n13 n14 l0 l1 t0 t1 hg4 hg5 hbl5
      go_wp2_with fail
      have m14q := fun d os => cell_regrown m14 d os
      have u0q := fun d os => cell_regrown u0 d os
      have u1q := fun d os => cell_regrown u1 d os
      have cq0 : ∀ d os, Calls Try.prog 98 #[.slice ag s.r.guards.length cg, .agg #[.int .i64 y.e, .int .i64 (3 - y.n)]] (grow (redrawn w6 d) os) fun e w'' => e = .returned (.bool true) ∧ ∃ rg : Regrown, w'' = grow (redrawn w6 rg.d) rg.os := fun d os => Calls.regrown_of (HM3.out _ (below_step hb6 (below_regrown _ d os) hb6.size))
      refine wp_region_quiet_below (by kernel_rfl) (by kernel_rfl) ?_
      repeat (go_big_quiet_step (first | with_reducible exact cq0 _ _))
      refine wpQuiet_nil ?_
      intro w7 hw'
      have hb7 : Below w6.heap.size w6 w7 := by obtain ⟨⟨d, os⟩, rfl⟩ := hw'; exact below_regrown _ d os
      clear hw' m14q u0q u1q cq0
      go_wp2_with fail
      try rw [Exit.noGoto_ret]
      refine bodyPost_end (v := .tuple #[]) (by simp [results, Try.results94]) rfl ?_

      exact ⟨_, vz, vh, vm, rfl, by rw [Hg.out, Hg2.out]; exact (HS5.out.below hb6).below hb7, HN5.out.trans (NearR.of_below (below_step hb6 hb7 hb6.size))⟩
     | false =>
      rw [hm3] at HM3
      have hg : s.guard ⟨y.e, 3 - y.n⟩ = { s with r := { s.r with guards := s.r.guards ++ [⟨y.e, 3 - y.n⟩] } } := by unfold Srch.guard; rw [if_neg (fun h => by rw [memB_iff.2 h] at hm3; cases hm3)]
      have Hg2 := Lib.hid hg
      clear hm3 hg
      go_wp2_with fail
      have n13q := fun d os => cell_regrown n13 d os
      have n14q := fun d os => cell_regrown n14 d os
      have l0q := fun d os => cell_regrown l0 d os
      have l1q := fun d os => cell_regrown l1 d os
      have cq0 : ∀ d os, Calls Try.prog 98 #[.slice F.na F.nn F.nc, .agg #[.int .i64 y.e, .int .i64 y.n]] (grow (redrawn w5 d) os) fun e w'' => e = .returned (.bool false) ∧ ∃ rg : Regrown, w'' = grow (redrawn w5 rg.d) rg.os := fun d os => Calls.regrown_of (HM1.out _ (below_regrown _ d os))
      have cq1 : ∀ d os, Calls Try.prog 98 #[.slice ag s.r.guards.length cg, .agg #[.int .i64 y.e, .int .i64 y.n]] (grow (redrawn w5 d) os) fun e w'' => e = .returned (.bool false) ∧ ∃ rg : Regrown, w'' = grow (redrawn w5 rg.d) rg.os := fun d os => Calls.regrown_of (HM2.out _ (below_regrown _ d os))
      refine wp_region_quiet_below (by kernel_rfl) (by kernel_rfl) ?_
      repeat (go_big_quiet_step (first | with_reducible exact cq0 _ _ | with_reducible exact cq1 _ _))
      refine wpQuiet_nil ?_
      intro w6 hw'
      have hb6 : Below w5.heap.size w5 w6 := by obtain ⟨⟨d, os⟩, rfl⟩ := hw'; exact below_regrown _ d os
      clear hw' n13q n14q l0q l1q cq0 cq1
      have m14 : w6.cell? ⟨b, 14, none⟩ = some (.slice ag s.r.guards.length cg) := (hb6.cell (p := ⟨b, 14, none⟩) hbl5).trans n14
      have u0 : w6.cell? ⟨g5, 0, none⟩ = some (.int .i64 y.e) := (hb6.cell (p := ⟨g5, 0, none⟩) hg5).trans t0
      have u1 : w6.cell? ⟨g5, 1, none⟩ = some (.int .i64 (3 - y.n)) := (hb6.cell (p := ⟨g5, 1, none⟩) hg5).trans t1
      have hbl6 : b < w6.heap.size := Nat.lt_of_lt_of_le hbl5 hb6.size
      have hg56 : g5 < w6.heap.size := Nat.lt_of_lt_of_le hg5 hb6.size
      clear n13 n14 l0 l1 t0 t1 hg4 hg5 hbl5
      go_wp2_with fail
      have m14q := fun d os => cell_regrown m14 d os
      have u0q := fun d os => cell_regrown u0 d os
      have u1q := fun d os => cell_regrown u1 d os
      have cq0 : ∀ d os, Calls Try.prog 98 #[.slice ag s.r.guards.length cg, .agg #[.int .i64 y.e, .int .i64 (3 - y.n)]] (grow (redrawn w6 d) os) fun e w'' => e = .returned (.bool false) ∧ ∃ rg : Regrown, w'' = grow (redrawn w6 rg.d) rg.os := fun d os => Calls.regrown_of (HM3.out _ (below_step hb6 (below_regrown _ d os) hb6.size))
      refine wp_region_quiet_below (by kernel_rfl) (by kernel_rfl) ?_
      repeat (go_big_quiet_step (first | with_reducible exact cq0 _ _))
      refine wpQuiet_nil ?_
      intro w7 hw'
      have hb7 : Below w6.heap.size w6 w7 := by obtain ⟨⟨d, os⟩, rfl⟩ := hw'; exact below_regrown _ d os
      clear hw' m14q u0q u1q cq0
      have m14 := (hb7.cell (p := ⟨b, 14, none⟩) hbl6).trans m14
      have u0 := (hb7.cell (p := ⟨g5, 0, none⟩) hg56).trans u0
      have u1 := (hb7.cell (p := ⟨g5, 1, none⟩) hg56).trans u1
      have hbl7 : b < w7.heap.size := Nat.lt_of_lt_of_le hbl6 hb7.size
      have hg57 : g5 < w7.heap.size := Nat.lt_of_lt_of_le hg56 hb7.size
      have HS7 := Lib.hid ((HS5.out.below hb6).below hb7)
      have hle7 := HS7.out.le
      have hgl : s.r.guards.length ≤ 160 := by have h1 := Ho.out.guards; have h2 := Ho.out.met_le; have h3 := portNo_le Hx.out.ok; omega
      go_wp2_with fail
      have hSall : ∀ w' : World, Below (w7).heap.size (w7) w' → (w'.cell? ⟨b, 14, none⟩ = some (.slice ag s.r.guards.length cg) ∧ w'.cell? ⟨g5, 0, none⟩ = some (.int .i64 y.e) ∧ w'.cell? ⟨g5, 1, none⟩ = some (.int .i64 (3 - y.n))) := fun w' hb => ⟨(hb.cell (p := ⟨b, 14, none⟩) hbl7).trans m14, (hb.cell (p := ⟨g5, 0, none⟩) hg57).trans u0, (hb.cell (p := ⟨g5, 1, none⟩) hg57).trans u1⟩
      refine wp_region_noPanic ?_
      refine region_ob (S := fun w' => w'.cell? ⟨b, 14, none⟩ = some (.slice ag s.r.guards.length cg) ∧ w'.cell? ⟨g5, 0, none⟩ = some (.int .i64 y.e) ∧ w'.cell? ⟨g5, 1, none⟩ = some (.int .i64 (3 - y.n))) (ob := fun t => decide (t < 8) && !decide (t = 0)) (by kernel_rfl) ?_
      refine ob_pure (i := 0) (v := .pointer (some ⟨b, 0, none⟩)) rfl (by kernel_rfl) (by kernel_rfl) (by kernel_rfl) (by kernel_rfl) (by kernel_rfl) (fun _ _ _ h => h) (Or.inl ⟨by rfl, ?_⟩) ?_
      ·intro w' _
       go_simp
      (try simp only [zA, zC, Act.put, zD, zE, zF])
      refine tk 1 (.pointer (some ⟨b, 0, none⟩)) ?_ (hSall _ (Below.refl _ _).drew) ?_
      ·intro w' hSw
       (try dsimp only at hSw)
       go_simp
      (try simp only [zA, zB, zC, Act.put, zD, zE, zF])
      refine tk 2 (.pointer (some ⟨b, 0, none⟩)) ?_ (hSall _ (Below.refl _ _).drew) ?_
      ·intro w' hSw
       (try dsimp only at hSw)
       go_simp
      (try simp only [zA, zB, zC, Act.put, zD, zE, zF])
      refine tk 3 (.pointer (some ⟨b, 9, none⟩)) ?_ (hSall _ (Below.refl _ _).drew) ?_
      ·intro w' hSw
       (try dsimp only at hSw)
       go_simp
      (try simp only [zA, zB, zC, Act.put, zD, zE, zF])
      refine tk 4 (.pointer (some ⟨b, 14, none⟩)) ?_ (hSall _ (Below.refl _ _).drew) ?_
      ·intro w' hSw
       (try dsimp only at hSw)
       go_simp
      (try simp only [zA, zB, zC, Act.put, zD, zE, zF])
      refine tk 5 (.slice ag s.r.guards.length cg) ?_ (hSall _ (Below.refl _ _).drew) ?_
      ·intro w' hSw
       (try dsimp only at hSw)
       go_simp
      (try simp only [zA, zB, zC, Act.put, zD, zE, zF])
      refine tk 6 (.agg #[.int .i64 y.e, .int .i64 (3 - y.n)]) ?_ (hSall _ (Below.refl _ _).drew) ?_
      ·intro w' hSw
       (try dsimp only at hSw)
       go_simp
      (try simp only [zA, zB, zC, Act.put, zD, zE, zF])
      refine ob_step (i := 7) (by kernel_rfl) rfl (fun K hK => ?_)
      go_simp
      refine hK _ _ (fun _ => (hSall _ (by with_reducible repeat (first | exact Below.refl _ _ | assumption | exact below_new _ _ | apply below_drewN | apply Below.drew | refine below_set (Nat.le_refl _) ?_ _ | (refine below_set ?_ ?_ _; omega) | refine Below.alloc ?_ (by first | omega | (simp; omega) | simp) _)))) ?_
      clear hK K
      (try simp only [zA, zB, zC, Act.put, zD, zE, zF])
      refine ob_step (i := 8) (by kernel_rfl) rfl (fun K hK => ?_)
      have hdr : Below w7.heap.size w7 (w7.drew.alloc (.cells #[.int .i64 y.e, .int .i64 (3 - y.n)] 72)) := (Below.refl _ _).drew.alloc (Nat.le_refl _) _
      have HSd := HS7.out.below hdr
      refine step_app encNeed_len encNeed_one _ (by rfl) _ _ 35 (by rfl) base 72 (.agg #[.int .i64 0, .int .i64 0]) 16 Try.underlying35 info_need (by rfl) (by decide) (.slice ag s.r.guards.length cg) s.r.guards.length s.r.guards (by rfl) HSd.og (some ⟨w7.heap.size, 0, none⟩) 1 1 [⟨y.e, 3 - y.n⟩] (by rfl) (row_need1 (heap_alloc_new w7.drew _)) (by intro h; cases h) (by simp [maxLen]; omega) (by omega) (by simp; omega) ?_
      intro v8 w8 ho8 hg8 _ hb8
      have hA := HSd.guard (m := ⟨y.e, 3 - y.n⟩) ho8 hg8 hb8
      have h8b : w8.heap[b]? = w7.heap[b]? := (hg8.block b HSd.bl (fun hc => by have := HSd.lows _ (by simp) b hc.symm; have := HSd.lt; omega)).trans (hdr.block b hbl7)
      have k14 : w8.cell? ⟨b, 14, none⟩ = some (.slice ag s.r.guards.length cg) := (cell_of_same h8b 14).trans m14
      have kf : w8.frozen? ⟨b, 14, none⟩ = false := frozen_of_row w8 b 14 _ _ (h8b.trans HS7.out.box)
      have hbl8 : b < w8.heap.size := by have := hg8.size; simp at this; omega
      obtain ⟨a8, c8, rfl, _, _⟩ := own_slice ho8
      clear ho8 hg8 hb8 h8b HSd
      refine hK _ _ (fun h => absurd h (by decide)) ?_
      clear hK K
      (try simp only [zA, zB, zC, Act.put, zD, zE, zF])
      refine ob_step (i := 9) (by kernel_rfl) rfl (fun K hK => ?_)
      go_simp
      refine hK _ _ (fun h => absurd h (by decide)) ?_
      clear hK K
      (try simp only [zA, zB, zC, Act.put, zD, zE, zF])
      refine ob_step (i := 10) (by kernel_rfl) rfl (fun K hK => ?_)
      go_simp
      refine hK _ _ (fun h => absurd h (by decide)) ?_
      clear hK K
      (try simp only [zA, zB, zC, Act.put, zD, zE, zF])
      refine ob_step (i := 11) (by kernel_rfl) rfl (fun K hK => ?_)
      go_simp
      refine hK _ _ (fun h => absurd h (by decide)) ?_
      clear hK K
      (try simp only [zA, zB, zC, Act.put, zD, zE, zF])
      refine ob_step (i := 12) (by kernel_rfl) rfl (fun K hK => ?_)
      go_simp
      refine hK _ _ (fun h => absurd h (by decide)) ?_
      clear hK K
      (try simp only [zA, zB, zC, Act.put, zD, zE, zF])
      refine ob_done (by kernel_rfl) (NoPanic.normal ?_) _
      clear hSall

      go_wp2_with fail
      try rw [Exit.noGoto_ret]
      refine bodyPost_end (v := .tuple #[]) (by simp [results, Try.results94]) rfl ?_

      exact ⟨_, vz, vh, vm, rfl, by rw [Hg.out, Hg2.out]; exact hA.1, HN5.out.trans ((NearR.of_below (below_step hb6 hb7 hb6.size)).trans ((NearR.of_below ((Below.refl w7.heap.size w7).drew.alloc (Nat.le_refl _) _)).trans hA.2))⟩
  subst hO
  subst hR
  subst hA
  simp only [Act.put, List.setIfInBounds_toArray, List.set_cons_zero, List.set_cons_succ] at key
  have Key := Lib.hid key
  clear key
  refine ob_some (js := [11, 12]) (by kernel_rfl) (by simp) (fun i hi => ?_)
  simp only [List.mem_cons, List.not_mem_nil, or_false] at hi
  rcases hi with rfl | rfl
  ·refine ⟨_, rfl, fun K hK => ?_⟩
   go_simp
   refine hK _ _ (fun _ => (hSall _ (by with_reducible repeat (first | exact Below.refl _ _ | assumption | exact below_new _ _ | apply below_drewN | apply Below.drew | refine below_set (Nat.le_refl _) ?_ _ | (refine below_set ?_ ?_ _; omega) | refine Below.alloc ?_ (by first | omega | (simp; omega) | simp) _)))) ?_
   clear hK K
   (try simp only [zA, zB, zC, Act.put, zD, zE, zF])
   refine ob_step (i := 12) (by kernel_rfl) rfl (fun K hK => ?_)
   go_simp
   refine hK _ _ (fun _ => (hSall _ (by with_reducible repeat (first | exact Below.refl _ _ | assumption | exact below_new _ _ | apply below_drewN | apply Below.drew | refine below_set (Nat.le_refl _) ?_ _ | (refine below_set ?_ ?_ _; omega) | refine Below.alloc ?_ (by first | omega | (simp; omega) | simp) _)))) ?_
   clear hK K
   (try simp only [zA, zB, zC, Act.put, zD, zE, zF])
   refine ob_step (i := 13) (by kernel_rfl) rfl (fun K hK => ?_)
   go_simp
   refine hK _ _ (fun _ => (hSall _ (by with_reducible repeat (first | exact Below.refl _ _ | assumption | exact below_new _ _ | apply below_drewN | apply Below.drew | refine below_set (Nat.le_refl _) ?_ _ | (refine below_set ?_ ?_ _; omega) | refine Below.alloc ?_ (by first | omega | (simp; omega) | simp) _)))) ?_
   clear hK K
   (try simp only [zA, zB, zC, Act.put, zD, zE, zF])
   refine ob_step (i := 14) (by kernel_rfl) rfl (fun K hK => ?_)
   go_simp
   refine hK _ _ (fun _ => (hSall _ (by with_reducible repeat (first | exact Below.refl _ _ | assumption | exact below_new _ _ | apply below_drewN | apply Below.drew | refine below_set (Nat.le_refl _) ?_ _ | (refine below_set ?_ ?_ _; omega) | refine Below.alloc ?_ (by first | omega | (simp; omega) | simp) _)))) ?_
   clear hK K
   (try simp only [zA, zB, zC, Act.put, zD, zE, zF])
   refine ob_done (by kernel_rfl) (NoPanic.normal ?_) _
   refine name_world fun w5 hw5 => ?_
   have hb5 : Below W0.heap.size W0 w5 := by rw [hw5]; exact (by with_reducible repeat (first | exact Below.refl _ _ | assumption | exact below_new _ _ | apply below_drewN | apply Below.drew | refine below_set (Nat.le_refl _) ?_ _ | (refine below_set ?_ ?_ _; omega) | refine Below.alloc ?_ (by first | omega | (simp; omega) | simp) _))
   exact Key.out w5 W0.heap.size (W0.heap.size + 1) hb5 (by rw [hw5]; go_simp) (by rw [hw5]; go_simp) (by rw [hw5]; go_simp) (by rw [hw5]; go_simp) (by rw [hw5]; simp; try omega) (by rw [hw5]; simp; try omega) (by omega) (by omega)
  ·refine ⟨_, rfl, fun K hK => ?_⟩
   go_simp
   refine hK _ _ (fun _ => (hSall _ (by with_reducible repeat (first | exact Below.refl _ _ | assumption | exact below_new _ _ | apply below_drewN | apply Below.drew | refine below_set (Nat.le_refl _) ?_ _ | (refine below_set ?_ ?_ _; omega) | refine Below.alloc ?_ (by first | omega | (simp; omega) | simp) _)))) ?_
   clear hK K
   (try simp only [zA, zB, zC, Act.put, zD, zE, zF])
   refine ob_step (i := 11) (by kernel_rfl) rfl (fun K hK => ?_)
   go_simp
   refine hK _ _ (fun _ => (hSall _ (by with_reducible repeat (first | exact Below.refl _ _ | assumption | exact below_new _ _ | apply below_drewN | apply Below.drew | refine below_set (Nat.le_refl _) ?_ _ | (refine below_set ?_ ?_ _; omega) | refine Below.alloc ?_ (by first | omega | (simp; omega) | simp) _)))) ?_
   clear hK K
   (try simp only [zA, zB, zC, Act.put, zD, zE, zF])
   refine ob_step (i := 13) (by kernel_rfl) rfl (fun K hK => ?_)
   go_simp
   refine hK _ _ (fun _ => (hSall _ (by with_reducible repeat (first | exact Below.refl _ _ | assumption | exact below_new _ _ | apply below_drewN | apply Below.drew | refine below_set (Nat.le_refl _) ?_ _ | (refine below_set ?_ ?_ _; omega) | refine Below.alloc ?_ (by first | omega | (simp; omega) | simp) _)))) ?_
   clear hK K
   (try simp only [zA, zB, zC, Act.put, zD, zE, zF])
   refine ob_step (i := 14) (by kernel_rfl) rfl (fun K hK => ?_)
   go_simp
   refine hK _ _ (fun _ => (hSall _ (by with_reducible repeat (first | exact Below.refl _ _ | assumption | exact below_new _ _ | apply below_drewN | apply Below.drew | refine below_set (Nat.le_refl _) ?_ _ | (refine below_set ?_ ?_ _; omega) | refine Below.alloc ?_ (by first | omega | (simp; omega) | simp) _)))) ?_
   clear hK K
   (try simp only [zA, zB, zC, Act.put, zD, zE, zF])
   refine ob_done (by kernel_rfl) (NoPanic.normal ?_) _
   refine name_world fun w5 hw5 => ?_
   have hb5 : Below W0.heap.size W0 w5 := by rw [hw5]; exact (by with_reducible repeat (first | exact Below.refl _ _ | assumption | exact below_new _ _ | apply below_drewN | apply Below.drew | refine below_set (Nat.le_refl _) ?_ _ | (refine below_set ?_ ?_ _; omega) | refine Below.alloc ?_ (by first | omega | (simp; omega) | simp) _))
   exact Key.out w5 (W0.heap.size + 1) W0.heap.size hb5 (by rw [hw5]; go_simp) (by rw [hw5]; go_simp) (by rw [hw5]; go_simp) (by rw [hw5]; go_simp) (by rw [hw5]; simp; try omega) (by rw [hw5]; simp; try omega) (by omega) (by omega)
end Go.Proofs.Ytnkpiijljfjmkaa
