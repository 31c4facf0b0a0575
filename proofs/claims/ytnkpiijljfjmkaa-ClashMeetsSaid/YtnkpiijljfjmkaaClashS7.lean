/- Walk of semaphoreref12.Flank. Condition: the plan, which may be, and the road are read; the road's steps go in and out by ends of an element. -/
import Derived.Test.YtnkpiijljfjmkaaClashS5
import Derived.Test.YtnkpiijljfjmkaaClashDef
import Derived.Test.YtnkpiijljfjmkaaClashW7
set_option maxRecDepth 1000000
namespace Go.Proofs.Ytnkpiijljfjmkaa
open Go.ChangeShapes Go.WideShapes Go.ChangeAt Go.RowKit Go.Sort

def SF (b : Nat) (r : Road) (u v : Value) (w' : World) : Prop := w'.cell? ⟨b, 0, none⟩ = some (.int .i64 r.frm) ∧ w'.cell? ⟨b, 1, none⟩ = some (.int .i64 r.to) ∧ w'.cell? ⟨b, 2, none⟩ = some (.int .i64 r.fin) ∧ w'.cell? ⟨b, 3, none⟩ = some u ∧ w'.cell? ⟨b, 4, none⟩ = some v
def obF (t : Nat) : Bool := decide (t < 16)
theorem own_grown {w w' : World} {base n size : Nat} {e : TypeId} {v u : Value} {xs : List Value} (h : w.ownsRow base e size v n xs) (hg : w.grownBy w' u.ownBlock) (hx : ∀ k, v.ownBlock = some k → u.ownBlock ≠ some k) : w'.ownsRow base e size v n xs := by
 obtain ⟨h1, h2⟩ := h
 refine ⟨h1, h2.imp id fun ⟨g, cap, cur, hv, hgb, hh, r⟩ => ⟨g, cap, cur, hv, hgb, ?_, r⟩⟩
 rw [hg.block g (Array.getElem?_eq_some_iff.1 hh).1 (fun hc => hx g (by rw [hv]; rfl) hc.symm)]
 exact hh
theorem own_elseD {w : World} {a b : Option Nat} {g : Nat} (h : a = b ∨ a = some w.heap.size) (hb : b ≠ some g) (hp : g < w.heap.size) : a ≠ some g := by
 rcases h with rfl | rfl
 ·exact hb
 ·intro h
  cases h
  exact absurd hp (Nat.lt_irrefl _)
theorem box19 {w : World} {b : Nat} {T : TypeId} {a0 a1 a2 a3 a4 a5 a6 a7 a8 a9 a10 a11 a12 a13 a14 a15 a16 a17 a18 : Value} (h : w.heap[b]? = some (.cells #[a0, a1, a2, a3, a4, a5, a6, a7, a8, a9, a10, a11, a12, a13, a14, a15, a16, a17, a18] T)) (v0 v1 v2 v3 v4 v5 v6 v7 v8 : Value) :
  (((((((((w.setCell ⟨b, 9, none⟩ v0).setCell ⟨b, 10, none⟩ v1).setCell ⟨b, 11, none⟩ v2).setCell ⟨b, 12, none⟩ v3).setCell ⟨b, 13, none⟩ v4).setCell ⟨b, 14, none⟩ v5).setCell ⟨b, 15, none⟩ v6).setCell ⟨b, 16, none⟩ v7).setCell ⟨b, 17, none⟩ v8).heap[b]? = some (.cells #[a0, a1, a2, a3, a4, a5, a6, a7, a8, v0, v1, v2, v3, v4, v5, v6, v7, v8, a18] T) := by
 have h0 : (w.setCell ⟨b, 9, none⟩ v0).heap[b]? = some (.cells #[a0, a1, a2, a3, a4, a5, a6, a7, a8, v0, a10, a11, a12, a13, a14, a15, a16, a17, a18] T) := heap_setCell_same w b 9 _ _ _ h
 generalize w.setCell ⟨b, 9, none⟩ v0 = w0 at h0 ⊢
 have h1 : (w0.setCell ⟨b, 10, none⟩ v1).heap[b]? = some (.cells #[a0, a1, a2, a3, a4, a5, a6, a7, a8, v0, v1, a11, a12, a13, a14, a15, a16, a17, a18] T) := heap_setCell_same w0 b 10 _ _ _ h0
 generalize w0.setCell ⟨b, 10, none⟩ v1 = w1 at h1 ⊢
 have h2 : (w1.setCell ⟨b, 11, none⟩ v2).heap[b]? = some (.cells #[a0, a1, a2, a3, a4, a5, a6, a7, a8, v0, v1, v2, a12, a13, a14, a15, a16, a17, a18] T) := heap_setCell_same w1 b 11 _ _ _ h1
 generalize w1.setCell ⟨b, 11, none⟩ v2 = w2 at h2 ⊢
 have h3 : (w2.setCell ⟨b, 12, none⟩ v3).heap[b]? = some (.cells #[a0, a1, a2, a3, a4, a5, a6, a7, a8, v0, v1, v2, v3, a13, a14, a15, a16, a17, a18] T) := heap_setCell_same w2 b 12 _ _ _ h2
 generalize w2.setCell ⟨b, 12, none⟩ v3 = w3 at h3 ⊢
 have h4 : (w3.setCell ⟨b, 13, none⟩ v4).heap[b]? = some (.cells #[a0, a1, a2, a3, a4, a5, a6, a7, a8, v0, v1, v2, v3, v4, a14, a15, a16, a17, a18] T) := heap_setCell_same w3 b 13 _ _ _ h3
 generalize w3.setCell ⟨b, 13, none⟩ v4 = w4 at h4 ⊢
 have h5 : (w4.setCell ⟨b, 14, none⟩ v5).heap[b]? = some (.cells #[a0, a1, a2, a3, a4, a5, a6, a7, a8, v0, v1, v2, v3, v4, v5, a15, a16, a17, a18] T) := heap_setCell_same w4 b 14 _ _ _ h4
 generalize w4.setCell ⟨b, 14, none⟩ v5 = w5 at h5 ⊢
 have h6 : (w5.setCell ⟨b, 15, none⟩ v6).heap[b]? = some (.cells #[a0, a1, a2, a3, a4, a5, a6, a7, a8, v0, v1, v2, v3, v4, v5, v6, a16, a17, a18] T) := heap_setCell_same w5 b 15 _ _ _ h5
 generalize w5.setCell ⟨b, 15, none⟩ v6 = w6 at h6 ⊢
 have h7 : (w6.setCell ⟨b, 16, none⟩ v7).heap[b]? = some (.cells #[a0, a1, a2, a3, a4, a5, a6, a7, a8, v0, v1, v2, v3, v4, v5, v6, v7, a17, a18] T) := heap_setCell_same w6 b 16 _ _ _ h6
 generalize w6.setCell ⟨b, 16, none⟩ v7 = w7 at h7 ⊢
 have h8 : (w7.setCell ⟨b, 17, none⟩ v8).heap[b]? = some (.cells #[a0, a1, a2, a3, a4, a5, a6, a7, a8, v0, v1, v2, v3, v4, v5, v6, v7, v8, a18] T) := heap_setCell_same w7 b 17 _ _ _ h7
 exact h8
theorem flank_fit {p : Plan} (hc : chk p = 0) {s : Srch} (h : SFit p s) : (∀ x ∈ s.r.guards, inI x.e ∧ inI x.pos) ∧ (∀ x ∈ s.r.zone, inI x) ∧ ∀ x ∈ s.r.holds, inI x := by
 have hl : p.elems.length ≤ 40 ∧ p.sigs.length ≤ 60 := by
  unfold chk at hc
  split at hc
  ·cases hc
  ·rename_i h; unfold tooMuch at h; simp at h; omega
 refine ⟨fun x hx => ?_, fun x hx => ?_, fun x hx => ?_⟩
 ·obtain ⟨h1, h2, _, h3⟩ := h.g x hx
  unfold inI
  omega
 ·have := h.z x hx
  unfold inI
  omega
 ·have := h.h x hx
  unfold inI
  omega
theorem grown_refl (w : World) (b : Nat) : w.grownBy w (some b) := ⟨rfl, rfl, rfl, Nat.le_refl _, fun _ _ _ => rfl⟩
theorem grown_set {w w' : World} {b : Nat} (h : w.grownBy w' (some b)) (o : Nat) (v : Value) : w.grownBy (w'.setCell ⟨b, o, none⟩ v) (some b) :=
 ⟨h.os, h.tape, h.output, by have := h.size; simpa [World.setCell] using this, fun k hk hn => (Below.heap_setCell w' ⟨b, o, none⟩ v k (fun e => hn (by rw [e]))).trans (h.block k hk hn)⟩
theorem set9r_grown (w : World) (b : Nat) (v0 v1 v2 v3 v4 v5 v6 v7 v8 : Value) : w.grownBy (((((((((w.setCell ⟨b, 0, none⟩ v0).setCell ⟨b, 1, none⟩ v1).setCell ⟨b, 2, none⟩ v2).setCell ⟨b, 3, none⟩ v3).setCell ⟨b, 4, none⟩ v4).setCell ⟨b, 5, none⟩ v5).setCell ⟨b, 6, none⟩ v6).setCell ⟨b, 7, none⟩ v7).setCell ⟨b, 8, none⟩ v8) (some b) := grown_set (grown_set (grown_set (grown_set (grown_set (grown_set (grown_set (grown_set (grown_set (grown_refl w b) _ _) _ _) _ _) _ _) _ _) _ _) _ _) _ _) _ _
theorem set9_grown (w : World) (b : Nat) (v0 v1 v2 v3 v4 v5 v6 v7 v8 : Value) : w.grownBy (((((((((w.setCell ⟨b, 9, none⟩ v0).setCell ⟨b, 10, none⟩ v1).setCell ⟨b, 11, none⟩ v2).setCell ⟨b, 12, none⟩ v3).setCell ⟨b, 13, none⟩ v4).setCell ⟨b, 14, none⟩ v5).setCell ⟨b, 15, none⟩ v6).setCell ⟨b, 16, none⟩ v7).setCell ⟨b, 17, none⟩ v8) (some b) := grown_set (grown_set (grown_set (grown_set (grown_set (grown_set (grown_set (grown_set (grown_set (grown_refl w b) _ _) _ _) _ _) _ _) _ _) _ _) _ _) _ _) _ _
theorem near_refl (b base : Nat) (w : World) : Near b base w w := ⟨rfl, rfl, rfl, Nat.le_refl _, fun _ _ _ => rfl⟩
theorem near_trans {b base : Nat} {w w1 w2 : World} (h : Near b base w w1) (h2 : Near b base w1 w2) : Near b base w w2 :=
 ⟨h2.os.trans h.os, h2.tape.trans h.tape, h2.output.trans h.output, Nat.le_trans h.size h2.size, fun k hk hb => (h2.block k hk hb).trans (h.block k hk hb)⟩
set_option maxHeartbeats 16000000 in
theorem flank_any (w : World) (pv : PV) (p : Plan) (h : PlanAt w pv p) (hck : chk p = 0) (rv : RV) (r : Road) (hr : RoadAt w rv r) (hl : rv.sn ≤ 100) (hl2 : rv.nn ≤ 100) (hst : ∀ s ∈ r.steps, -1 ≤ s.i ∧ s.i ≤ 4 ∧ -1 ≤ s.o ∧ s.o ≤ 4) :
  Calls Try.prog 43 #[pv.val p, rv.val r] w (WithPost w (flank p r)) := by
 obtain ⟨ae, ne, ce, aj, nj, cj, as_, ns, cs, al, nl, cl, lv⟩ := pv
 obtain ⟨sa, sn, sc, na, nn, nc, ga, gn, gc, za, zn, zc, ha, hn, hc⟩ := rv
 dsimp only at hl hl2
 have HPo := Lib.hid (fun (u : World) (hb : Below w.heap.size w u) => ports_any u ⟨ae, ne, ce, aj, nj, cj, as_, ns, cs, al, nl, cl, lv⟩ p (h.below hb) ⟨sa, sn, sc, na, nn, nc, ga, gn, gc, za, zn, zc, ha, hn, hc⟩ r (hr.below hb) hl hst)
 have Hfit := Lib.hid hr.fit
 have hS := hr.s
 have hN := hr.n
 dsimp only at hS hN
 have hsc := Lib.hid (show sa = none → sc = 0 from hr.fit.sc)
 have hnc := Lib.hid (show na = none → nc = 0 from hr.fit.nc)
 have HP := Lib.hid h
 have Hck := Lib.hid hck
 clear h hr hck hst
 obtain ⟨ii, hii, zi1, zi2, zi3⟩ := info_parts info_stp
 obtain ⟨jj, hjj, zj1, zj2, zj3⟩ := info_parts info_need
 dsimp only [PV.val, RV.val] at HPo ⊢
 go_enter Try.func43, Try.ntmps43
 go_wp2_with fail
 refine name_code fun W1 hW1 => ?_
 obtain ⟨hp0, hr0, hres, hob, hz1, hw1⟩ := four_of hW1
 clear hW1
 have hrl : w.heap.size + 1 < W1.heap.size := by omega
 have hol : w.heap.size + 1 + 1 + 1 < W1.heap.size := by omega
 have Hw1 := Lib.hid hw1
 have q0 : W1.cell? ⟨w.heap.size + 1, 0, none⟩ = some (.int .i64 r.frm) := by rw [cell_of_row W1 (w.heap.size + 1) 0 _ _ (0, 0) hr0]; rfl
 have q1 : W1.cell? ⟨w.heap.size + 1, 1, none⟩ = some (.int .i64 r.to) := by rw [cell_of_row W1 (w.heap.size + 1) 1 _ _ (0, 0) hr0]; rfl
 have q2 : W1.cell? ⟨w.heap.size + 1, 2, none⟩ = some (.int .i64 r.fin) := by rw [cell_of_row W1 (w.heap.size + 1) 2 _ _ (0, 0) hr0]; rfl
 have q3 : W1.cell? ⟨w.heap.size + 1, 3, none⟩ = some (.slice sa sn sc) := by rw [cell_of_row W1 (w.heap.size + 1) 3 _ _ (0, 0) hr0]; rfl
 have q4 : W1.cell? ⟨w.heap.size + 1, 4, none⟩ = some (.slice na nn nc) := by rw [cell_of_row W1 (w.heap.size + 1) 4 _ _ (0, 0) hr0]; rfl
 have hS := Lib.hid (hS.below hw1)
 have hN := Lib.hid (hN.below hw1)
 have Hp0 := Lib.hid hp0
 have Hr0 := Lib.hid hr0
 have Hres := Lib.hid hres
 have Hz1 := Lib.hid hz1
 clear hw1 hp0 hr0 hres hz1
 refine wp_region_noPanic ?_
 refine region_ob (S := (SF (w.heap.size + 1) r (.slice sa sn sc) (.slice na nn nc))) (ob := obF) (by kernel_rfl) ?_
 have hSall : ∀ w' : World, Below W1.heap.size W1 w' → (SF (w.heap.size + 1) r (.slice sa sn sc) (.slice na nn nc)) w' := fun w' hb => ⟨(hb.cell (p := ⟨w.heap.size + 1, 0, none⟩) hrl).trans q0, (hb.cell (p := ⟨w.heap.size + 1, 1, none⟩) hrl).trans q1, (hb.cell (p := ⟨w.heap.size + 1, 2, none⟩) hrl).trans q2, (hb.cell (p := ⟨w.heap.size + 1, 3, none⟩) hrl).trans q3, (hb.cell (p := ⟨w.heap.size + 1, 4, none⟩) hrl).trans q4⟩
 have hS0 : (SF (w.heap.size + 1) r (.slice sa sn sc) (.slice na nn nc)) W1.drew := hSall _ (Below.refl _ _).drew
 refine tk 0 (.pointer (some ⟨w.heap.size + 1 + 1 + 1, 0, none⟩)) ?_ hS0 ?_
 ·intro w' hSw
  obtain ⟨s1, s2, s3, s4, s5⟩ := hSw
  go_simp
 (try simp only [zA, zC, Act.put, zD, zE, zF])
 refine tk 1 (.pointer (some ⟨w.heap.size + 1, 0, none⟩)) ?_ hS0 ?_
 ·intro w' hSw
  obtain ⟨s1, s2, s3, s4, s5⟩ := hSw
  go_simp
 (try simp only [zA, zB, zC, Act.put, zD, zE, zF])
 refine tk 2 (.int .i64 r.frm) ?_ hS0 ?_
 ·intro w' hSw
  obtain ⟨s1, s2, s3, s4, s5⟩ := hSw
  go_simp
 (try simp only [zA, zB, zC, Act.put, zD, zE, zF])
 refine tk 3 (.pointer (some ⟨w.heap.size + 1, 1, none⟩)) ?_ hS0 ?_
 ·intro w' hSw
  obtain ⟨s1, s2, s3, s4, s5⟩ := hSw
  go_simp
 (try simp only [zA, zB, zC, Act.put, zD, zE, zF])
 refine tk 4 (.int .i64 r.to) ?_ hS0 ?_
 ·intro w' hSw
  obtain ⟨s1, s2, s3, s4, s5⟩ := hSw
  go_simp
 (try simp only [zA, zB, zC, Act.put, zD, zE, zF])
 refine tk 5 (.pointer (some ⟨w.heap.size + 1, 2, none⟩)) ?_ hS0 ?_
 ·intro w' hSw
  obtain ⟨s1, s2, s3, s4, s5⟩ := hSw
  go_simp
 (try simp only [zA, zB, zC, Act.put, zD, zE, zF])
 refine tk 6 (.int .i64 r.fin) ?_ hS0 ?_
 ·intro w' hSw
  obtain ⟨s1, s2, s3, s4, s5⟩ := hSw
  go_simp
 (try simp only [zA, zB, zC, Act.put, zD, zE, zF])
 refine tk 8 (.pointer (some ⟨w.heap.size + 1, 3, none⟩)) ?_ hS0 ?_
 ·intro w' hSw
  obtain ⟨s1, s2, s3, s4, s5⟩ := hSw
  go_simp
 (try simp only [zA, zB, zC, Act.put, zD, zE, zF])
 refine tk 9 (.slice sa sn sc) ?_ hS0 ?_
 ·intro w' hSw
  obtain ⟨s1, s2, s3, s4, s5⟩ := hSw
  go_simp
 (try simp only [zA, zB, zC, Act.put, zD, zE, zF])
 refine tk 12 (.pointer (some ⟨w.heap.size + 1, 4, none⟩)) ?_ hS0 ?_
 ·intro w' hSw
  obtain ⟨s1, s2, s3, s4, s5⟩ := hSw
  go_simp
 (try simp only [zA, zB, zC, Act.put, zD, zE, zF])
 refine tk 13 (.slice na nn nc) ?_ hS0 ?_
 ·intro w' hSw
  obtain ⟨s1, s2, s3, s4, s5⟩ := hSw
  go_simp
 (try simp only [zA, zB, zC, Act.put, zD, zE, zF])
 refine ob_name fun OPS hO R hR A hA => ?_
 have hsz : A.tmps.size = 54 := by rw [hA]; rfl
 have e20 : A.eval (.tmp 20) = .slice sa sn sc := by rw [hA]; rfl
 have e24 : A.eval (.tmp 24) = .slice na nn nc := by rw [hA]; rfl
 have st111 : ∀ (w' : World) (g1 g5 : Nat) (v3 : Value), Below W1.heap.size W1 w' → w'.ownsRow W1.heap.size 47 3 v3 sn (r.steps.flatMap encStp) → w'.ownsRow W1.heap.size 72 2 (.slice (some ⟨g5, 0, none⟩) 0 0) 0 [] → v3.ownBlock ≠ some g5 → wpOb Try.prog .any OPS R (SF (w.heap.size + 1) r (.slice sa sn sc) (.slice na nn nc)) obF 5 #[true, true, true, true, true, true, true, true, true, true, true, true, true, true, false, false, false, false, false] (((A.put (some 18) (.slice (some ⟨g1, 0, none⟩) 0 0)).put (some 21) v3).put (some 22) (.slice (some ⟨g5, 0, none⟩) 0 0)) w' := by
  intro w' g1 g5 v3 hb ho hp ha
  have hsb := hb.size
  subst hO
  subst hR
  refine ob_step (i := 14) (by kernel_rfl) rfl (fun K hK => ?_)
  refine step_app encNeed_len encNeed_one w' (by rfl) _ _ 35 (by rfl) W1.heap.size 72 (.agg #[.int .i64 0, .int .i64 0]) 16 Try.underlying35 info_need (by rfl) (by decide) (.slice (some ⟨g5, 0, none⟩) 0 0) 0 [] (by simp [ev_putC, put_sizeC, hsz]) hp na nn nc r.needs (by simp [ev_putC, put_sizeC, hsz, e24]) (hN.out.below hb) hnc.out (by simp [maxLen]; omega) (by omega) hsb ?_
  intro v4 w4 ho4 hgrow4 _ _
  have hb4 : Below W1.heap.size W1 w4 := hb.grown hgrow4 hsb (fun k hk => (hp.lt k hk).1)
  have ho3 := own_grown ho hgrow4 (by intro k hk hc; cases hc; exact ha hk)
  have ho4 : w4.ownsRow W1.heap.size 72 2 v4 nn (r.needs.flatMap encNeed) := by simpa using ho4
  have hob4 := (hb4.block _ hol).trans hob
  have fz : ∀ o, w4.frozen? ⟨w.heap.size + 1 + 1 + 1, o, none⟩ = false := fun o => frozen_of_row w4 (w.heap.size + 1 + 1 + 1) o _ _ hob4
  have hwl : w.heap.size + 1 + 1 + 1 < w4.heap.size := by have := hb4.size; omega
  refine hK _ _ (fun _ => hSall _ hb4) ?_
  clear hK K hS0 hb ho hp ha hsb hgrow4
  subst hA
  (try simp only [zA, zB, zC, Act.put, zD, zE, zF])
  clear e20 e24 hsz
  obtain ⟨a3, c3', rfl, _, hc3⟩ := own_slice ho3
  obtain ⟨a4, c4', rfl, _, hc4⟩ := own_slice ho4
  have o0 : w4.cell? ⟨w.heap.size + 1 + 1 + 1, 9, none⟩ = some (.int .i64 0) := by rw [cell_of_row w4 (w.heap.size + 1 + 1 + 1) 9 _ _ (0, 0) hob4]; rfl
  have o1 : w4.cell? ⟨w.heap.size + 1 + 1 + 1, 10, none⟩ = some (.int .i64 0) := by rw [cell_of_row w4 (w.heap.size + 1 + 1 + 1) 10 _ _ (0, 0) hob4]; rfl
  have o2 : w4.cell? ⟨w.heap.size + 1 + 1 + 1, 11, none⟩ = some (.int .i64 0) := by rw [cell_of_row w4 (w.heap.size + 1 + 1 + 1) 11 _ _ (0, 0) hob4]; rfl
  have o3 : w4.cell? ⟨w.heap.size + 1 + 1 + 1, 12, none⟩ = some (.slice none 0 0) := by rw [cell_of_row w4 (w.heap.size + 1 + 1 + 1) 12 _ _ (0, 0) hob4]; rfl
  have o4 : w4.cell? ⟨w.heap.size + 1 + 1 + 1, 13, none⟩ = some (.slice none 0 0) := by rw [cell_of_row w4 (w.heap.size + 1 + 1 + 1) 13 _ _ (0, 0) hob4]; rfl
  have o5 : w4.cell? ⟨w.heap.size + 1 + 1 + 1, 14, none⟩ = some (.slice none 0 0) := by rw [cell_of_row w4 (w.heap.size + 1 + 1 + 1) 14 _ _ (0, 0) hob4]; rfl
  have o6 : w4.cell? ⟨w.heap.size + 1 + 1 + 1, 15, none⟩ = some (.slice none 0 0) := by rw [cell_of_row w4 (w.heap.size + 1 + 1 + 1) 15 _ _ (0, 0) hob4]; rfl
  have o7 : w4.cell? ⟨w.heap.size + 1 + 1 + 1, 16, none⟩ = some (.slice none 0 0) := by rw [cell_of_row w4 (w.heap.size + 1 + 1 + 1) 16 _ _ (0, 0) hob4]; rfl
  have o8 : w4.cell? ⟨w.heap.size + 1 + 1 + 1, 17, none⟩ = some (.bool false) := by rw [cell_of_row w4 (w.heap.size + 1 + 1 + 1) 17 _ _ (0, 0) hob4]; rfl
  refine ob_step (i := 15) (by kernel_rfl) rfl (fun K hK => ?_)
  go_simp
  refine hK _ _ (fun _ => hSall _ hb4) ?_
  clear hK K hSall
  (try simp only [zD, zE, zF])
  refine ob_step (i := 16) (by kernel_rfl) rfl (fun K hK => ?_)
  go_simp
  refine hK _ _ (fun h => absurd h (by decide)) ?_
  clear hK K
  (try simp only [zD, zE, zF])
  refine ob_step (i := 17) (by kernel_rfl) rfl (fun K hK => ?_)
  go_simp
  refine hK _ _ (fun h => absurd h (by decide)) ?_
  clear hK K
  (try simp only [zD, zE, zF])
  refine ob_step (i := 18) (by kernel_rfl) rfl (fun K hK => ?_)
  go_simp
  refine hK _ _ (fun h => absurd h (by decide)) ?_
  clear hK K
  (try simp only [zD, zE, zF])
  refine ob_done (by kernel_rfl) (NoPanic.normal ?_) _
  refine name_world fun w5 hw5 => ?_
  have hg5 : w4.grownBy w5 (some (w.heap.size + 1 + 1 + 1)) := by rw [hw5]; exact set9_grown _ _ _ _ _ _ _ _ _ _ _
  have hob5 : w5.heap[w.heap.size + 1 + 1 + 1]? = some (.cells (sbox (⟨⟨ae, ne, ce, aj, nj, cj, as_, ns, cs, al, nl, cl, lv⟩, p, a3, sn, c3', a4, nn, c4'⟩ : Fix) (srch0 r).r (.slice none 0 0) (.slice none 0 0) (.slice none 0 0) (.slice none 0 0)) 117) := by rw [hw5]; exact box19 hob4 _ _ _ _ _ _ _ _ _
  have hz4 := hb4.size
  have hz5 : w4.heap.size ≤ w5.heap.size := hg5.size
  have hne : ∀ (v : Value), (∀ k, v.ownBlock = some k → W1.heap.size ≤ k) → ∀ k, v.ownBlock = some k → (Value.slice (some ⟨w.heap.size + 1 + 1 + 1, 0, none⟩) 0 0).ownBlock ≠ some k := fun v hv k hk hc => by
   have := hv k hk
   simp only [Value.ownBlock, Option.some.injEq] at hc
   omega
  have Os5 := Lib.hid (own_grown (u := .slice (some ⟨w.heap.size + 1 + 1 + 1, 0, none⟩) 0 0) ho3 hg5 (hne _ fun k hk => (ho3.lt k hk).1))
  have On5 := Lib.hid (own_grown (u := .slice (some ⟨w.heap.size + 1 + 1 + 1, 0, none⟩) 0 0) ho4 hg5 (hne _ fun k hk => (ho4.lt k hk).1))
  have Hw5 := Lib.hid (show Below w.heap.size w w5 from (below_step Hw1.out hb4 Hw1.out.size).grown hg5 (by omega) (fun k hk => by cases hk; exact Nat.le_trans (Nat.le_trans (Nat.le_succ _) (Nat.le_succ _)) (Nat.le_succ _)))
  have hk5 : ∀ k, k < W1.heap.size → k ≠ w.heap.size + 1 + 1 + 1 → w5.heap[k]? = W1.heap[k]? := fun k h1 h2 => (hg5.block k (by omega) (fun hc => h2 (by cases hc; rfl))).trans (hb4.block k h1)
  have Hp5 := Lib.hid ((hk5 w.heap.size (by omega) (by omega)).trans Hp0.out)
  have Hr5 := Lib.hid ((hk5 (w.heap.size + 1) (by omega) (by omega)).trans Hr0.out)
  have Hres5 := Lib.hid ((hk5 (w.heap.size + 1 + 1) (by omega) (by omega)).trans Hres.out)
  have Hob5 := Lib.hid hob5
  have Hz5 := Lib.hid (show w.heap.size + 4 ≤ w5.heap.size by omega)
  have Hlo := Lib.hid (show W1.heap.size = w.heap.size + 4 from Hz1.out)
  have hb5l : w.heap.size + 1 + 1 + 1 < w5.heap.size := by omega
  clear q0 q1 q2 q3 q4
  obtain ⟨c0, c1, c2, c3, c4, c5, c6, c7, c8⟩ := nine_of Hp5.out
  obtain ⟨q0, q1, q2, q3, q4, q5, q6, q7, q8⟩ := nine_of Hr5.out
  have hl5 : w.heap.size < w5.heap.size := by omega
  have hl51 : w.heap.size + 1 < w5.heap.size := by omega
  clear hw5 hg5 hob5 hne hk5 ho3 ho4 hb4 hob4 hob hz4 hz5 fz hwl hrl hol o0 o1 o2 o3 o4 o5 o6 o7 o8 Hz1 Hp0 Hr0 Hres
  have HPo5 := Lib.hid (HPo.out w5 Hw5.out)
  go_wp2_with fail
  refine HPo5.out.mono ?_
  rintro en w6 ⟨pa, n, pc, rfl, hrow, _, hpb, hb6⟩
  have hz6 := hb6.size
  have HS6 := Lib.hid (show SrchAt w6 (w.heap.size + 1 + 1 + 1) w6.heap.size (⟨⟨ae, ne, ce, aj, nj, cj, as_, ns, cs, al, nl, cl, lv⟩, p, a3, sn, c3', a4, nn, c4'⟩ : Fix) (.slice none 0 0) (.slice none 0 0) (.slice none 0 0) (.slice none 0 0) (srch0 r) from
   ⟨(hb6.block _ hb5l).trans Hob5.out, by omega, Nat.le_refl _, ⟨fun q hq => by
    simp only [List.mem_cons, List.not_mem_nil, or_false] at hq
    rcases hq with rfl | rfl | rfl | rfl <;> exact World.ownsRow_nil _ _ _ _, by
    have ha : ∀ (x y : RowM), x.v = .slice none 0 0 → ApartM x y := fun x y h k hk => by rw [h] at hk; cases hk
    simp [rowG, rowZ, rowP, srch0, ApartM, Value.ownBlock]⟩⟩)
  have Os6 := Lib.hid (owns_below Os5.out hb6)
  have On6 := Lib.hid (owns_below On5.out hb6)
  have Hw6 := Lib.hid (below_step Hw5.out hb6 Hw5.out.size)
  have HX6 := Lib.hid (show Ctx (w.heap.size + 1 + 1 + 1) w6.heap.size (⟨⟨ae, ne, ce, aj, nj, cj, as_, ns, cs, al, nl, cl, lv⟩, p, a3, sn, c3', a4, nn, c4'⟩ : Fix) w r.steps r.needs w6 from
   ⟨HP.out, by omega, fun k hk => Hw6.out.block k hk, by omega, Hck.out, (owns_row encStp_len Os6.out (by decide)).1, fun k hk => by
    have := own_blocks Os6.out (Nat.le_refl _) k hk
    have := Hlo.out
    omega, hl, (owns_row encNeed_len On6.out (by decide)).1, fun k hk => by
    have := own_blocks On6.out (Nat.le_refl _) k hk
    have := Hlo.out
    omega⟩)
  have Hrow := Lib.hid hrow
  have Hpb := Lib.hid (show ∀ k, pa.map (·.block) = some k → k < w6.heap.size ∧ k ≠ w.heap.size + 1 + 1 + 1 from fun k hk => by have := hpb k hk; omega)
  have Hrb := Lib.hid (show w6.heap[w.heap.size + 1 + 1]? = _ from (hb6.block _ (by omega)).trans Hres5.out)
  have Hnn := Lib.hid hrow.len
  have hbn := hrow.bnd
  clear c0 c1 c2 c3 c4 c5 c6 c7 c8 q0 q1 q2 q3 q4 q5 q6 q7 q8 hb6 hrow hpb HPo5 Hob5 Hp5 Hr5 Hres5 hl5 hl51 hb5l hz6 HPo
  go_wp2_with fail
  go_loopg [7] n (fun k s7 wr => ∃ (i : Nat) (vg vz vh vm : Value) (s : Srch), i + k = n ∧ s7 = .int .i64 i ∧ Hid (SrchAt wr (w.heap.size + 1 + 1 + 1) w6.heap.size (⟨⟨ae, ne, ce, aj, nj, cj, as_, ns, cs, al, nl, cl, lv⟩, p, a3, sn, c3', a4, nn, c4'⟩ : Fix) vg vz vh vm s) ∧ Hid (SOk p s) ∧ Hid (SFit p s) ∧ Hid (Same3 r s) ∧ Hid (flankGo p ((portsR p r).drop i) s = flankGo p (portsR p r) (srch0 r)) ∧ Hid (Near (w.heap.size + 1 + 1 + 1) w6.heap.size w6 wr))
  case atStart => exact ⟨0, _, _, _, _, srch0 r, by omega, rfl, HS6, srch0_ok p r, srch0_fit p r, ⟨rfl, rfl, rfl, rfl, rfl⟩, rfl, near_refl _ _ _⟩
  case round =>
   obtain ⟨i, vg, vz, vh, vm, s, hk, rfl, HS, HO, HF, HM, HG, HN⟩ := hrel
   obtain ⟨wo, rfl⟩ : ∃ wo : World, wo = wr := ⟨_, rfl⟩
   have Hk := Lib.hid hk
   clear hk
   by_cases hlt : i < n
   ·obtain ⟨x, hx⟩ := get_some Hnn.out hlt
    have hdr := drop_cons hx
    have Hrw := Lib.hid (Hrow.out.kept fun k hk _ => HN.out.block k (Hpb.out k hk).1 (Hpb.out k hk).2)
    obtain ⟨pl, ofl, rfl, hpl, e0, e1⟩ := Hrw.out.port hx
    have HXd := Lib.hid (show Ctx (w.heap.size + 1 + 1 + 1) w6.heap.size (⟨⟨ae, ne, ce, aj, nj, cj, as_, ns, cs, al, nl, cl, lv⟩, p, a3, sn, c3', a4, nn, c4'⟩ : Fix) w s.r.steps s.r.needs wo.drew by
     rw [HM.out.2.2.2.1, HM.out.2.2.2.2]
     exact (HX6.out.near HN.out).below (Below.refl _ _).drew HS.out.le)
    have HSd := Lib.hid (HS.out.below (Below.refl _ _).drew)
    have HC := Lib.hid (show Calls Try.prog 57 #[.pointer (some ⟨w.heap.size + 1 + 1 + 1, 0, none⟩), .int .i64 x.e, .int .i64 x.n] wo.drew (SrchPost wo.drew (w.heap.size + 1 + 1 + 1) w6.heap.size (⟨⟨ae, ne, ce, aj, nj, cj, as_, ns, cs, al, nl, cl, lv⟩, p, a3, sn, c3', a4, nn, c4'⟩ : Fix) [vg, vz, vh, vm] (oneS p s x) (.tuple #[])) from son_any (⟨⟨ae, ne, ce, aj, nj, cj, as_, ns, cs, al, nl, cl, lv⟩, p, a3, sn, c3', a4, nn, c4'⟩ : Fix) (portNo p) (come_any (⟨⟨ae, ne, ce, aj, nj, cj, as_, ns, cs, al, nl, cl, lv⟩, p, a3, sn, c3', a4, nn, c4'⟩ : Fix) _) wo.drew w (w.heap.size + 1 + 1 + 1) w6.heap.size vg vz vh vm s HXd.out HSd.out HO.out (unmet_le p s.met) x.e x.n)
    have HG2 := Lib.hid (show flankGo p ((portsR p r).drop (i + 1)) (oneS p s x) = flankGo p (portsR p r) (srch0 r) by rw [← HG.out, hdr]; rfl)
    have HO2 := Lib.hid (oneS_ok (fun x y h => next_isPort Hck.out h) HO.out HF.out x)
    have HM2 := Lib.hid (oneS_same HM.out (p := p) x)
    clear hx hdr HXd HSd Hrw
    go_wp2_with fail
    have hSall : ∀ w' : World, Below (wo).heap.size (wo) w' → (w'.cell? ⟨pl, ofl + i * 2, none⟩ = some (.int .i64 x.e) ∧ w'.cell? ⟨pl, ofl + i * 2 + 1, none⟩ = some (.int .i64 x.n)) := fun w' hb => ⟨(hb.cell (p := ⟨pl, ofl + i * 2, none⟩) hpl).trans e0, (hb.cell (p := ⟨pl, ofl + i * 2 + 1, none⟩) hpl).trans e1⟩
    refine wp_region_noPanic ?_
    refine region_ob (S := fun w' => w'.cell? ⟨pl, ofl + i * 2, none⟩ = some (.int .i64 x.e) ∧ w'.cell? ⟨pl, ofl + i * 2 + 1, none⟩ = some (.int .i64 x.n)) (ob := fun t => decide (t < 11)) (by kernel_rfl) ?_
    refine tk 0 (.pointer (some ⟨w.heap.size + 1 + 1 + 1, 0, none⟩)) ?_ (hSall _ (Below.refl _ _).drew) ?_
    ·intro w' hSw
     (try dsimp only at hSw)
     go_simp
    (try simp only [zA, zC, Act.put, zD, zE, zF])
    refine tk 1 (.slice (some ⟨pl, ofl, none⟩) n pc) ?_ (hSall _ (Below.refl _ _).drew) ?_
    ·intro w' hSw
     (try dsimp only at hSw)
     go_simp
    (try simp only [zA, zB, zC, Act.put, zD, zE, zF])
    refine tk 2 (.int .i64 i) ?_ (hSall _ (Below.refl _ _).drew) ?_
    ·intro w' hSw
     (try dsimp only at hSw)
     go_simp
    (try simp only [zA, zB, zC, Act.put, zD, zE, zF])
    refine tk 3 (.pointer (some ⟨pl, ofl + i * 2, none⟩)) ?_ (hSall _ (Below.refl _ _).drew) ?_
    ·intro w' hSw
     (try dsimp only at hSw)
     go_simp
    (try simp only [zA, zB, zC, Act.put, zD, zE, zF])
    refine tk 4 (.pointer (some ⟨pl, ofl + i * 2, none⟩)) ?_ (hSall _ (Below.refl _ _).drew) ?_
    ·intro w' hSw
     (try dsimp only at hSw)
     go_simp
    (try simp only [zA, zB, zC, Act.put, zD, zE, zF])
    refine tk 5 (.int .i64 x.e) ?_ (hSall _ (Below.refl _ _).drew) ?_
    ·intro w' hSw
     (try dsimp only at hSw)
     go_simp
    (try simp only [zA, zB, zC, Act.put, zD, zE, zF])
    refine tk 6 (.slice (some ⟨pl, ofl, none⟩) n pc) ?_ (hSall _ (Below.refl _ _).drew) ?_
    ·intro w' hSw
     (try dsimp only at hSw)
     go_simp
    (try simp only [zA, zB, zC, Act.put, zD, zE, zF])
    refine tk 7 (.int .i64 i) ?_ (hSall _ (Below.refl _ _).drew) ?_
    ·intro w' hSw
     (try dsimp only at hSw)
     go_simp
    (try simp only [zA, zB, zC, Act.put, zD, zE, zF])
    refine tk 8 (.pointer (some ⟨pl, ofl + i * 2, none⟩)) ?_ (hSall _ (Below.refl _ _).drew) ?_
    ·intro w' hSw
     (try dsimp only at hSw)
     go_simp
    (try simp only [zA, zB, zC, Act.put, zD, zE, zF])
    refine tk 9 (.pointer (some ⟨pl, ofl + i * 2 + 1, none⟩)) ?_ (hSall _ (Below.refl _ _).drew) ?_
    ·intro w' hSw
     (try dsimp only at hSw)
     go_simp
    (try simp only [zA, zB, zC, Act.put, zD, zE, zF])
    refine tk 10 (.int .i64 x.n) ?_ (hSall _ (Below.refl _ _).drew) ?_
    ·intro w' hSw
     (try dsimp only at hSw)
     go_simp
    (try simp only [zA, zB, zC, Act.put, zD, zE, zF])
    refine ob_step (i := 11) (by kernel_rfl) rfl (fun K hK => ?_)
    go_simp
    refine HC.out.mono ?_
    rintro en w8 ⟨vg2, vz2, vh2, vm2, rfl, hS2, hN2⟩
    refine hK _ _ (fun h => absurd h (by decide)) ?_
    clear hK K
    (try simp only [zA, zB, zC, Act.put, zD, zE, zF])
    refine ob_done (by kernel_rfl) (NoPanic.normal ?_) _
    clear hSall

    go_wp2_with fail
    go_roundg (gk - 1)
    case measure => have := Hk.out; omega
    case rel => exact ⟨i + 1, vg2, vz2, vh2, vm2, oneS p s x, by have := Hk.out; omega, by go_num, hS2, HO2.out.1, HO2.out.2.2, HM2.out, HG2.out, near_trans HN.out (((NearR.of_below (l := [vg, vz, vh, vm]) (Below.refl _ _).drew).trans hN2).near HS.out.lows HS.out.le)⟩
   ·have hin : i = n := by have := Hk.out; omega
    have hfl := Lib.hid (show flank p r = s.r by
     rw [flank_eq, ← HG.out, hin, ← Hnn.out, List.drop_length]; rfl)
    obtain ⟨ag, cg, rfl, _, hcg⟩ := own_slice HS.out.og
    obtain ⟨az, cz, rfl, _, hcz⟩ := own_slice HS.out.oz
    obtain ⟨ah, ch, rfl, _, hch⟩ := own_slice HS.out.oh
    obtain ⟨am, cm, rfl, _, _⟩ := own_slice HS.out.om
    have hob := HS.out.box
    have hwb := HS.out.bl
    have hres := (HN.out.block (w.heap.size + 1 + 1) (by have := HS.out.lt; omega) (by omega)).trans Hrb.out
    have fr : ∀ o, wo.frozen? ⟨w.heap.size + 1 + 1, o, none⟩ = false := fun o => frozen_of_row wo (w.heap.size + 1 + 1) o _ _ hres
    have hrl : w.heap.size + 1 + 1 < wo.heap.size := by omega
    have k0 : wo.cell? ⟨w.heap.size + 1 + 1 + 1, 9, none⟩ = some (.int .i64 s.r.frm) := HS.out.cell 9
    have k1 : wo.cell? ⟨w.heap.size + 1 + 1 + 1, 10, none⟩ = some (.int .i64 s.r.to) := HS.out.cell 10
    have k2 : wo.cell? ⟨w.heap.size + 1 + 1 + 1, 11, none⟩ = some (.int .i64 s.r.fin) := HS.out.cell 11
    have k3 : wo.cell? ⟨w.heap.size + 1 + 1 + 1, 12, none⟩ = some (.slice a3 sn c3') := HS.out.cell 12
    have k4 : wo.cell? ⟨w.heap.size + 1 + 1 + 1, 13, none⟩ = some (.slice a4 nn c4') := HS.out.cell 13
    have k5 : wo.cell? ⟨w.heap.size + 1 + 1 + 1, 14, none⟩ = some (.slice ag s.r.guards.length cg) := HS.out.cell 14
    have k6 : wo.cell? ⟨w.heap.size + 1 + 1 + 1, 15, none⟩ = some (.slice az s.r.zone.length cz) := HS.out.cell 15
    have k7 : wo.cell? ⟨w.heap.size + 1 + 1 + 1, 16, none⟩ = some (.slice ah s.r.holds.length ch) := HS.out.cell 16
    have k8 : wo.cell? ⟨w.heap.size + 1 + 1 + 1, 17, none⟩ = some (.bool s.r.bare) := HS.out.cell 17
    obtain ⟨rc0, rc1, rc2, rc3, rc4, rc5, rc6, rc7, rc8⟩ := nine_of hres
    have hlt2 : decide ((i : Int) < (n : Int)) = false := by simp; omega
    have Hres := Lib.hid hres
    have Hgi := Lib.hid hlt
    clear hob hres hin hlt
    go_wp2_with fail
    refine name_world fun W8 hW8 => ?_
    have hbx : W8.heap[w.heap.size + 1 + 1]? = some (.cells #[.int .i64 s.r.frm, .int .i64 s.r.to, .int .i64 s.r.fin, .slice a3 sn c3', .slice a4 nn c4', .slice ag s.r.guards.length cg, .slice az s.r.zone.length cz, .slice ah s.r.holds.length ch, .bool s.r.bare] 38) := by
     rw [hW8]; exact box9 Hres.out _ _ _ _ _ _ _ _ _
    obtain ⟨y0, y1, y2, y3, y4, y5, y6, y7, y8⟩ := nine_of hbx
    try rw [Exit.noGoto_ret]
    refine bodyPost_ret (v := .agg #[.int .i64 s.r.frm, .int .i64 s.r.to, .int .i64 s.r.fin, .slice a3 sn c3', .slice a4 nn c4', .slice ag s.r.guards.length cg, .slice az s.r.zone.length cz, .slice ah s.r.holds.length ch, .bool s.r.bare]) (by simp [results, Try.results43, go_sem, y0, y1, y2, y3, y4, y5, y6, y7, y8]) rfl ?_
    have hg8 : wo.grownBy W8 (some (w.heap.size + 1 + 1)) := by rw [hW8]; exact set9r_grown _ _ _ _ _ _ _ _ _ _ _
    clear hW8 hbx
    have hfit := flank_fit Hck.out HF.out
    obtain ⟨m1, m2, m3, m4, m5⟩ := HM.out
    have HXo := HX6.out.near HN.out
    have hle := HS.out.le
    have hlt6 := HS.out.lt
    have hlo := Hlo.out
    have hz8 := hg8.size
    have kst := own_blocks Os6.out (Nat.le_refl _)
    have knd := own_blocks On6.out (Nat.le_refl _)
    have oG := own_grown (u := .slice (some ⟨w.heap.size + 1 + 1, 0, none⟩) 0 0) HS.out.og hg8 (fun k hk hc => by
     have := (HS.out.og.lt k hk).1
     simp only [Value.ownBlock, Option.some.injEq] at hc
     omega)
    have oZ := own_grown (u := .slice (some ⟨w.heap.size + 1 + 1, 0, none⟩) 0 0) HS.out.oz hg8 (fun k hk hc => by
     have := (HS.out.oz.lt k hk).1
     simp only [Value.ownBlock, Option.some.injEq] at hc
     omega)
    have oH := own_grown (u := .slice (some ⟨w.heap.size + 1 + 1, 0, none⟩) 0 0) HS.out.oh hg8 (fun k hk hc => by
     have := (HS.out.oh.lt k hk).1
     simp only [Value.ownBlock, Option.some.injEq] at hc
     omega)
    refine ⟨⟨a3, sn, c3', a4, nn, c4', ag, s.r.guards.length, cg, az, s.r.zone.length, cz, ah, s.r.holds.length, ch⟩, by rw [hfl.out]; rfl, ?_, ?_, ?_⟩
    ·rw [hfl.out]
     refine ⟨?_, ?_, (owns_row encNeed_len oG (by decide)).1, (owns_row (enc := encInt) (fun _ => rfl) oZ (by decide)).1, (owns_row (enc := encInt) (fun _ => rfl) oH (by decide)).1, ⟨fun h => (hc3 h).2, fun h => (hc4 h).2, fun h => (hcg h).2, fun h => (hcz h).2, fun h => (hch h).2, ?_, ?_, hfit.1, hfit.2.1, hfit.2.2⟩⟩
     ·rw [m4]
      exact HXo.st.kept fun k hk hlt => hg8.block k hlt (fun hc => by
       have := kst k hk
       simp only [Option.some.injEq] at hc
       omega)
     ·rw [m5]
      exact HXo.nd.kept fun k hk hlt => hg8.block k hlt (fun hc => by
       have := knd k hk
       simp only [Option.some.injEq] at hc
       omega)
     ·rw [m4]; exact Hfit.out.s
     ·rw [m5]; exact Hfit.out.n
    ·intro a ha k hk
     simp only [RV.addrs, List.mem_cons, List.not_mem_nil, or_false] at ha
     rcases ha with rfl | rfl | rfl | rfl | rfl
     ·have := kst k hk; omega
     ·have := knd k hk; omega
     ·have := own_blocks oG (Nat.le_refl _) k hk; omega
     ·have := own_blocks oZ (Nat.le_refl _) k hk; omega
     ·have := own_blocks oH (Nat.le_refl _) k hk; omega
    ·have hn := HN.out
     have h6 := Hw6.out
     exact (Below.mk (hn.os.trans h6.os) (hn.tape.trans h6.tape) (hn.output.trans h6.output) (Nat.le_trans h6.size hn.size) (fun k hk => (hn.block k (by omega) (by omega)).trans (h6.block k hk)) : Below w.heap.size w wo).grown hg8 (by omega) (fun k hk => by
      simp only [Option.some.injEq] at hk
      omega)

 have st110 : ∀ (w' : World) (g1 : Nat) (v3 : Value), Below W1.heap.size W1 w' → w'.ownsRow W1.heap.size 47 3 v3 sn (r.steps.flatMap encStp) → wpOb Try.prog .any OPS R (SF (w.heap.size + 1) r (.slice sa sn sc) (.slice na nn nc)) obF 6 #[true, true, true, true, true, true, true, true, true, true, true, false, true, true, false, false, false, false, false] ((A.put (some 18) (.slice (some ⟨g1, 0, none⟩) 0 0)).put (some 21) v3) w' := by
  intro w' g1 v3 hb ho
  have hsb := hb.size
  refine ob_some (js := [11]) (by rw [hO]; kernel_rfl) (by simp) (fun i hi => ?_)
  simp only [List.mem_cons, List.not_mem_nil, or_false] at hi
  subst hi
  ·refine ⟨_, (by rw [hO]; rfl), fun K hK => ?_⟩
   refine step_build0 w' (by rfl) 35 72 (by rfl) jj (.agg #[.int .i64 0, .int .i64 0]) Try.underlying35 hjj zj1 ?_
   have hb2 := hb.alloc hsb (.cells #[] 72)
   refine hK _ _ (fun _ => hSall _ hb2) ?_
   exact st111 _ g1 w'.heap.size v3 hb2 (ho.alloc _) (World.ownsRow_made w' #[] 0 hsb (by simp [maxLen]) (by simp)) (fun h => absurd (ho.lt _ h).2 (Nat.lt_irrefl _))
 have st101 : ∀ (w' : World) (g1 g5 : Nat), Below W1.heap.size W1 w' → w'.ownsRow W1.heap.size 47 3 (.slice (some ⟨g1, 0, none⟩) 0 0) 0 [] → w'.ownsRow W1.heap.size 72 2 (.slice (some ⟨g5, 0, none⟩) 0 0) 0 [] → g1 ≠ g5 → wpOb Try.prog .any OPS R (SF (w.heap.size + 1) r (.slice sa sn sc) (.slice na nn nc)) obF 6 #[true, true, true, true, true, true, true, true, true, true, false, true, true, true, false, false, false, false, false] ((A.put (some 18) (.slice (some ⟨g1, 0, none⟩) 0 0)).put (some 22) (.slice (some ⟨g5, 0, none⟩) 0 0)) w' := by
  intro w' g1 g5 hb hl hp ha
  have hsb := hb.size
  refine ob_some (js := [10]) (by rw [hO]; kernel_rfl) (by simp) (fun i hi => ?_)
  simp only [List.mem_cons, List.not_mem_nil, or_false] at hi
  subst hi
  ·refine ⟨_, (by rw [hO]; rfl), fun K hK => ?_⟩
   refine step_app encStp_len encStp_one w' (by rfl) _ _ 34 (by rfl) W1.heap.size 47 (.agg #[.int .i64 0, .int .i64 0, .int .i64 0]) 24 Try.underlying34 info_stp (by rfl) (by decide) (.slice (some ⟨g1, 0, none⟩) 0 0) 0 [] (by simp [ev_putC, put_sizeC, hsz]) hl sa sn sc r.steps (by simp [ev_putC, put_sizeC, hsz, e20]) (hS.out.below hb) hsc.out (by simp [maxLen]; omega) (by omega) hsb ?_
   intro v3 w3 ho3 hg3 _ hbl
   have hb3 : Below W1.heap.size W1 w3 := hb.grown hg3 hsb (by intro k hk; exact (hl.lt k hk).1)
   refine hK _ _ (fun _ => hSall _ hb3) ?_
   have hn := st111 w3 g1 g5 v3 hb3 (by simpa using ho3) (own_grown hp hg3 (by intro k hk; cases hk; intro hc; exact ha (by cases hc; rfl))) (own_elseD hbl (fun h => ha (by cases h; rfl)) (hp.lt g5 rfl).2)
   rw [put_swapC _ (show (21 : Nat) ≠ 22 from by decide)] at hn
   exact hn
 have st100 : ∀ (w' : World) (g1 : Nat), Below W1.heap.size W1 w' → w'.ownsRow W1.heap.size 47 3 (.slice (some ⟨g1, 0, none⟩) 0 0) 0 [] → wpOb Try.prog .any OPS R (SF (w.heap.size + 1) r (.slice sa sn sc) (.slice na nn nc)) obF 7 #[true, true, true, true, true, true, true, true, true, true, false, false, true, true, false, false, false, false, false] (A.put (some 18) (.slice (some ⟨g1, 0, none⟩) 0 0)) w' := by
  intro w' g1 hb hl
  have hsb := hb.size
  refine ob_some (js := [10, 11]) (by rw [hO]; kernel_rfl) (by simp) (fun i hi => ?_)
  simp only [List.mem_cons, List.not_mem_nil, or_false] at hi
  rcases hi with rfl | rfl
  ·refine ⟨_, (by rw [hO]; rfl), fun K hK => ?_⟩
   refine step_app encStp_len encStp_one w' (by rfl) _ _ 34 (by rfl) W1.heap.size 47 (.agg #[.int .i64 0, .int .i64 0, .int .i64 0]) 24 Try.underlying34 info_stp (by rfl) (by decide) (.slice (some ⟨g1, 0, none⟩) 0 0) 0 [] (by simp [ev_putC, hsz]) hl sa sn sc r.steps (by simp [ev_putC, hsz, e20]) (hS.out.below hb) hsc.out (by simp [maxLen]; omega) (by omega) hsb ?_
   intro v3 w3 ho3 hg3 _ hbl
   have hb3 : Below W1.heap.size W1 w3 := hb.grown hg3 hsb (by intro k hk; exact (hl.lt k hk).1)
   refine hK _ _ (fun _ => hSall _ hb3) ?_
   have hn := st110 w3 g1 v3 hb3 (by simpa using ho3)
   exact hn
  ·refine ⟨_, (by rw [hO]; rfl), fun K hK => ?_⟩
   refine step_build0 w' (by rfl) 35 72 (by rfl) jj (.agg #[.int .i64 0, .int .i64 0]) Try.underlying35 hjj zj1 ?_
   have hb2 := hb.alloc hsb (.cells #[] 72)
   refine hK _ _ (fun _ => hSall _ hb2) ?_
   exact st101 _ g1 w'.heap.size hb2 (hl.alloc _) (World.ownsRow_made w' #[] 0 hsb (by simp [maxLen]) (by simp)) (fun h => absurd (hl.lt g1 rfl).2 (by rw [h]; exact Nat.lt_irrefl _))
 have st001 : ∀ (w' : World) (g5 : Nat), Below W1.heap.size W1 w' → w'.ownsRow W1.heap.size 72 2 (.slice (some ⟨g5, 0, none⟩) 0 0) 0 [] → wpOb Try.prog .any OPS R (SF (w.heap.size + 1) r (.slice sa sn sc) (.slice na nn nc)) obF 7 #[true, true, true, true, true, true, true, false, true, true, false, true, true, true, false, false, false, false, false] (A.put (some 22) (.slice (some ⟨g5, 0, none⟩) 0 0)) w' := by
  intro w' g5 hb hp
  have hsb := hb.size
  refine ob_some (js := [7]) (by rw [hO]; kernel_rfl) (by simp) (fun i hi => ?_)
  simp only [List.mem_cons, List.not_mem_nil, or_false] at hi
  subst hi
  ·refine ⟨_, (by rw [hO]; rfl), fun K hK => ?_⟩
   refine step_build0 w' (by rfl) 34 47 (by rfl) ii (.agg #[.int .i64 0, .int .i64 0, .int .i64 0]) Try.underlying34 hii zi1 ?_
   have hb2 := hb.alloc hsb (.cells #[] 47)
   refine hK _ _ (fun _ => hSall _ hb2) ?_
   have hn := st101 _ w'.heap.size g5 hb2 (World.ownsRow_made w' #[] 0 hsb (by simp [maxLen]) (by simp)) (hp.alloc _) (fun h => absurd (hp.lt g5 rfl).2 (by rw [← h]; exact Nat.lt_irrefl _))
   rw [put_swapC _ (show (18 : Nat) ≠ 22 from by decide)] at hn
   exact hn
 have st000 : ∀ (w' : World), Below W1.heap.size W1 w' → wpOb Try.prog .any OPS R (SF (w.heap.size + 1) r (.slice sa sn sc) (.slice na nn nc)) obF 8 #[true, true, true, true, true, true, true, false, true, true, false, false, true, true, false, false, false, false, false] A w' := by
  intro w' hb
  have hsb := hb.size
  refine ob_some (js := [7, 11]) (by rw [hO]; kernel_rfl) (by simp) (fun i hi => ?_)
  simp only [List.mem_cons, List.not_mem_nil, or_false] at hi
  rcases hi with rfl | rfl
  ·refine ⟨_, (by rw [hO]; rfl), fun K hK => ?_⟩
   refine step_build0 w' (by rfl) 34 47 (by rfl) ii (.agg #[.int .i64 0, .int .i64 0, .int .i64 0]) Try.underlying34 hii zi1 ?_
   have hb2 := hb.alloc hsb (.cells #[] 47)
   refine hK _ _ (fun _ => hSall _ hb2) ?_
   have hn := st100 _ w'.heap.size hb2 (World.ownsRow_made w' #[] 0 hsb (by simp [maxLen]) (by simp))
   exact hn
  ·refine ⟨_, (by rw [hO]; rfl), fun K hK => ?_⟩
   refine step_build0 w' (by rfl) 35 72 (by rfl) jj (.agg #[.int .i64 0, .int .i64 0]) Try.underlying35 hjj zj1 ?_
   have hb2 := hb.alloc hsb (.cells #[] 72)
   refine hK _ _ (fun _ => hSall _ hb2) ?_
   exact st001 _ w'.heap.size hb2 (World.ownsRow_made w' #[] 0 hsb (by simp [maxLen]) (by simp))
 exact st000 _ (Below.refl _ _).drew
end Go.Proofs.Ytnkpiijljfjmkaa
