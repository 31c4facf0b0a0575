/- The reference's field in memory; walks of its points, Stick, Blind, Dark, Short. Condition: what is read is one. -/
import Derived.Test.YtlgekkffekagbaaFieldW5
set_option maxRecDepth 1000000
namespace Go.Proofs.Ytlgekkffekagbaa
open Go.ChangeShapes Go.WideShapes Go.ChangeAt Go.RowKit Go.Sort

/-- the blocks: the structure's, and block and capacity of each of its rows -/
structure RB where
  b : Nat
  g1 : Nat
  c1 : Nat
  g2 : Nat
  c2 : Nat
  g3 : Nat
  c3 : Nat
  g4 : Nat
  c4 : Nat
  g5 : Nat
  c5 : Nat
  g6 : Nat
  c6 : Nat
  g7 : Nat
  c7 : Nat
def RB.blocks (r : RB) : List Nat := [r.b, r.g1, r.g2, r.g3, r.g4, r.g5, r.g6, r.g7]
def RBox (w : World) (R : RB) (v : PV) (p : Plan) (n m : Nat) : Prop := w.heap[R.b]? = some (.cells #[.slice v.ae v.ne v.ce, .slice v.aj v.nj v.cj, .slice v.as_ v.ns v.cs, .slice v.al v.nl v.cl, .int .i64 p.top, .int .i64 p.brake, .int .i64 p.margin, .int .i64 p.throw, .bool p.hard,
  .slice (some ⟨R.g1, 0, none⟩) n R.c1, .slice (some ⟨R.g2, 0, none⟩) n R.c2, .slice (some ⟨R.g3, 0, none⟩) n R.c3, .slice (some ⟨R.g4, 0, none⟩) n R.c4, .slice (some ⟨R.g5, 0, none⟩) n R.c5, .slice (some ⟨R.g6, 0, none⟩) m R.c6, .slice (some ⟨R.g7, 0, none⟩) n R.c7] 51)
structure RefAt (w : World) (R : RB) (lo hi : Nat) (v : PV) (p : Plan) (r : RFld) : Prop where
  box : RBox w R v p r.pts.length r.dark.length
  lie : OwnI w lo (.slice (some ⟨R.g1, 0, none⟩) r.pts.length R.c1) r.pts.length (r.pts.map (·.lie))
  goal : OwnI w lo (.slice (some ⟨R.g2, 0, none⟩) r.pts.length R.c2) r.pts.length (r.pts.map (·.goal))
  left : OwnI w lo (.slice (some ⟨R.g3, 0, none⟩) r.pts.length R.c3) r.pts.length (r.pts.map (·.left))
  stick : w.ownsRow lo 4 1 (.slice (some ⟨R.g4, 0, none⟩) r.pts.length R.c4) r.pts.length ((r.pts.map (·.stick)).map Value.bool)
  blind : w.ownsRow lo 4 1 (.slice (some ⟨R.g5, 0, none⟩) r.pts.length R.c5) r.pts.length ((r.pts.map (·.blind)).map Value.bool)
  dark : w.ownsRow lo 4 1 (.slice (some ⟨R.g6, 0, none⟩) r.dark.length R.c6) r.dark.length (r.dark.map Value.bool)
  short : w.ownsRow lo 4 1 (.slice (some ⟨R.g7, 0, none⟩) r.pts.length R.c7) r.pts.length ((r.pts.map (·.short)).map Value.bool)
  apart : R.blocks.Nodup
  within : ∀ k ∈ R.blocks, lo ≤ k ∧ k < hi
  le : hi ≤ w.heap.size
/-- the numbers that lie in a range of blocks -/
abbrev Span (lo hi : Nat) (w w' : World) : Prop := Upd (fun k => lo ≤ k ∧ k < hi) w w'
theorem owns_same {w w' : World} {base n size g c : Nat} {e : TypeId} {xs : List Value} (h : w.ownsRow base e size (.slice (some ⟨g, 0, none⟩) n c) n xs) (hb : w'.heap[g]? = w.heap[g]?) : w'.ownsRow base e size (.slice (some ⟨g, 0, none⟩) n c) n xs := by
  obtain ⟨h1, h2⟩ := h
  refine ⟨h1, ?_⟩
  rcases h2 with h2 | ⟨g', cap, cur, hv, hg, hh, r⟩
  · exact .inl h2
  · cases hv; exact .inr ⟨_, _, cur, rfl, hg, by rw [hb]; exact hh, r⟩
section
variable {w w' : World} {R : RB} {lo hi : Nat} {v : PV} {p : Plan} {r : RFld}
theorem RefAt.far (h : RefAt w R lo hi v p r) (hs : w.heap.size ≤ w'.heap.size) (hb : ∀ k, lo ≤ k → k < hi → w'.heap[k]? = w.heap[k]?) : RefAt w' R lo hi v p r := by
  have key : ∀ k ∈ R.blocks, w'.heap[k]? = w.heap[k]? := fun k hk => hb k (h.within k hk).1 (h.within k hk).2
  simp only [RB.blocks, List.mem_cons, List.not_mem_nil, or_false, forall_eq_or_imp, forall_eq] at key
  obtain ⟨k0, k1, k2, k3, k4, k5, k6, k7⟩ := key
  exact ⟨Eq.trans k0 h.box, owns_same h.lie k1, owns_same h.goal k2, owns_same h.left k3, owns_same h.stick k4, owns_same h.blind k5, owns_same h.dark k6, owns_same h.short k7, h.apart, h.within, Nat.le_trans h.le hs⟩
theorem RefAt.below (h : RefAt w R lo hi v p r) (hb : Below w.heap.size w w') : RefAt w' R lo hi v p r := h.far hb.size fun k _ hk => hb.block k (Nat.lt_of_lt_of_le hk h.le)
theorem RefAt.upd (h : RefAt w R lo hi v p r) {S : Nat → Prop} (hu : Upd S w w') (hs : ∀ k, lo ≤ k → k < hi → ¬ S k) : RefAt w' R lo hi v p r :=
  h.far hu.size fun k h1 h2 => hu.block k (Nat.lt_of_lt_of_le h2 h.le) (hs k h1 h2)
theorem RefAt.cell (h : RefAt w R lo hi v p r) (o : Nat) : w.cell? ⟨R.b, o, none⟩ = #[.slice v.ae v.ne v.ce, .slice v.aj v.nj v.cj, .slice v.as_ v.ns v.cs, .slice v.al v.nl v.cl, .int .i64 p.top, .int .i64 p.brake, .int .i64 p.margin, .int .i64 p.throw, .bool p.hard,
  .slice (some ⟨R.g1, 0, none⟩) r.pts.length R.c1, .slice (some ⟨R.g2, 0, none⟩) r.pts.length R.c2, .slice (some ⟨R.g3, 0, none⟩) r.pts.length R.c3, .slice (some ⟨R.g4, 0, none⟩) r.pts.length R.c4, .slice (some ⟨R.g5, 0, none⟩) r.pts.length R.c5, .slice (some ⟨R.g6, 0, none⟩) r.dark.length R.c6, .slice (some ⟨R.g7, 0, none⟩) r.pts.length R.c7][o]? :=
  cell_of_row w R.b o _ _ (0, 0) h.box
theorem RefAt.plan (h : RefAt w R lo hi v p r) : PBox w R.b v p := ⟨Nat.lt_of_lt_of_le (h.within R.b (by simp [RB.blocks])).2 h.le, h.cell 0, h.cell 1, h.cell 2, h.cell 3, h.cell 4, h.cell 5, h.cell 6, h.cell 7, h.cell 8⟩
theorem RefAt.k9 (h : RefAt w R lo hi v p r) : w.cell? ⟨R.b, 9, none⟩ = some (.slice (some ⟨R.g1, 0, none⟩) r.pts.length R.c1) := h.cell 9
theorem RefAt.k10 (h : RefAt w R lo hi v p r) : w.cell? ⟨R.b, 10, none⟩ = some (.slice (some ⟨R.g2, 0, none⟩) r.pts.length R.c2) := h.cell 10
theorem RefAt.k11 (h : RefAt w R lo hi v p r) : w.cell? ⟨R.b, 11, none⟩ = some (.slice (some ⟨R.g3, 0, none⟩) r.pts.length R.c3) := h.cell 11
theorem RefAt.k12 (h : RefAt w R lo hi v p r) : w.cell? ⟨R.b, 12, none⟩ = some (.slice (some ⟨R.g4, 0, none⟩) r.pts.length R.c4) := h.cell 12
theorem RefAt.k13 (h : RefAt w R lo hi v p r) : w.cell? ⟨R.b, 13, none⟩ = some (.slice (some ⟨R.g5, 0, none⟩) r.pts.length R.c5) := h.cell 13
theorem RefAt.k14 (h : RefAt w R lo hi v p r) : w.cell? ⟨R.b, 14, none⟩ = some (.slice (some ⟨R.g6, 0, none⟩) r.dark.length R.c6) := h.cell 14
theorem RefAt.k15 (h : RefAt w R lo hi v p r) : w.cell? ⟨R.b, 15, none⟩ = some (.slice (some ⟨R.g7, 0, none⟩) r.pts.length R.c7) := h.cell 15
theorem RefAt.lt (h : RefAt w R lo hi v p r) : ∀ k ∈ R.blocks, k < w.heap.size := fun k hk => Nat.lt_of_lt_of_le (h.within k hk).2 h.le
theorem rmap_same {α : Type} {l : List RPt} {j : Nat} {x y : RPt} {f : RPt → α} (hx : l[j]? = some x) (h : f y = f x) : (l.set j y).map f = l.map f := by
  rw [List.map_set, h]
  apply List.ext_getElem?
  intro i
  rw [List.getElem?_set]
  split
  · rename_i e; subst e
    have h2 := (List.getElem?_eq_some_iff.1 hx).1
    rw [List.getElem?_eq_getElem h2] at hx
    simp only [Option.some.injEq] at hx
    simp [hx, h2]
  · rfl
/-- the structure's blocks, apart from each other -/
theorem RefAt.ne (h : RefAt w R lo hi v p r) : R.b ≠ R.g1 ∧ R.b ≠ R.g2 ∧ R.b ≠ R.g3 ∧ R.b ≠ R.g4 ∧ R.b ≠ R.g5 ∧ R.b ≠ R.g6 ∧ R.b ≠ R.g7 ∧ R.g1 ≠ R.g2 ∧ R.g1 ≠ R.g3 ∧ R.g1 ≠ R.g4 ∧ R.g1 ≠ R.g5 ∧ R.g1 ≠ R.g6 ∧ R.g1 ≠ R.g7 ∧
    R.g2 ≠ R.g3 ∧ R.g2 ≠ R.g4 ∧ R.g2 ≠ R.g5 ∧ R.g2 ≠ R.g6 ∧ R.g2 ≠ R.g7 ∧ R.g3 ≠ R.g4 ∧ R.g3 ≠ R.g5 ∧ R.g3 ≠ R.g6 ∧ R.g3 ≠ R.g7 ∧ R.g4 ≠ R.g5 ∧ R.g4 ≠ R.g6 ∧ R.g4 ≠ R.g7 ∧ R.g5 ≠ R.g6 ∧ R.g5 ≠ R.g7 ∧ R.g6 ≠ R.g7 := by
  have := h.apart
  simp only [RB.blocks, List.nodup_cons, List.mem_cons, List.not_mem_nil, or_false, not_or] at this
  simp_all
end
theorem owns_far {w : World} {base n size g c : Nat} {e : TypeId} {xs : List Value} (h : w.ownsRow base e size (.slice (some ⟨g, 0, none⟩) n c) n xs) {g' : Nat} (hg : g ≠ g') (o : Nat) (u : Value) : (w.setCell ⟨g', o, none⟩ u).ownsRow base e size (.slice (some ⟨g, 0, none⟩) n c) n xs :=
  owns_same h (Below.heap_setCell w ⟨g', o, none⟩ u g hg)
section
variable {w : World} {R : RB} {lo hi : Nat} {v : PV} {p : Plan} {r : RFld}
theorem RefAt.set_lie (h : RefAt w R lo hi v p r) {j : Nat} {x : RPt} (hx : r.pts[j]? = some x) (u : Int) : RefAt (w.setCell ⟨R.g1, j, none⟩ (.int .i64 u)) R lo hi v p { r with pts := r.pts.set j { x with lie := u } } := by
  obtain ⟨n1, n2, n3, n4, n5, n6, n7, m12, m13, m14, m15, m16, m17, m23, m24, m25, m26, m27, m34, m35, m36, m37, m45, m46, m47, m56, m57, m67⟩ := h.ne
  exact ⟨by unfold RBox; dsimp only; rw [List.length_set]; exact (Below.heap_setCell w ⟨R.g1, j, none⟩ _ R.b n1).trans h.box,
    by dsimp only; rw [List.length_set, List.map_set]; exact (own_set h.lie j u).1,
    by dsimp only; rw [List.length_set, rmap_same (y := { x with lie := u }) hx rfl]; exact owns_far h.goal (Ne.symm m12) _ _,
    by dsimp only; rw [List.length_set, rmap_same (y := { x with lie := u }) hx rfl]; exact owns_far h.left (Ne.symm m13) _ _,
    by dsimp only; rw [List.length_set, rmap_same (y := { x with lie := u }) hx rfl]; exact owns_far h.stick (Ne.symm m14) _ _,
    by dsimp only; rw [List.length_set, rmap_same (y := { x with lie := u }) hx rfl]; exact owns_far h.blind (Ne.symm m15) _ _,
    owns_far h.dark (Ne.symm m16) _ _,
    by dsimp only; rw [List.length_set, rmap_same (y := { x with lie := u }) hx rfl]; exact owns_far h.short (Ne.symm m17) _ _,
    h.apart, h.within, by simpa [World.setCell] using h.le⟩
theorem RefAt.set_goal (h : RefAt w R lo hi v p r) {j : Nat} {x : RPt} (hx : r.pts[j]? = some x) (u : Int) : RefAt (w.setCell ⟨R.g2, j, none⟩ (.int .i64 u)) R lo hi v p { r with pts := r.pts.set j { x with goal := u } } := by
  obtain ⟨n1, n2, n3, n4, n5, n6, n7, m12, m13, m14, m15, m16, m17, m23, m24, m25, m26, m27, m34, m35, m36, m37, m45, m46, m47, m56, m57, m67⟩ := h.ne
  exact ⟨by unfold RBox; dsimp only; rw [List.length_set]; exact (Below.heap_setCell w ⟨R.g2, j, none⟩ _ R.b n2).trans h.box,
    by dsimp only; rw [List.length_set, rmap_same (y := { x with goal := u }) hx rfl]; exact owns_far h.lie m12 _ _,
    by dsimp only; rw [List.length_set, List.map_set]; exact (own_set h.goal j u).1,
    by dsimp only; rw [List.length_set, rmap_same (y := { x with goal := u }) hx rfl]; exact owns_far h.left (Ne.symm m23) _ _,
    by dsimp only; rw [List.length_set, rmap_same (y := { x with goal := u }) hx rfl]; exact owns_far h.stick (Ne.symm m24) _ _,
    by dsimp only; rw [List.length_set, rmap_same (y := { x with goal := u }) hx rfl]; exact owns_far h.blind (Ne.symm m25) _ _,
    owns_far h.dark (Ne.symm m26) _ _,
    by dsimp only; rw [List.length_set, rmap_same (y := { x with goal := u }) hx rfl]; exact owns_far h.short (Ne.symm m27) _ _,
    h.apart, h.within, by simpa [World.setCell] using h.le⟩
theorem RefAt.set_left (h : RefAt w R lo hi v p r) {j : Nat} {x : RPt} (hx : r.pts[j]? = some x) (u : Int) : RefAt (w.setCell ⟨R.g3, j, none⟩ (.int .i64 u)) R lo hi v p { r with pts := r.pts.set j { x with left := u } } := by
  obtain ⟨n1, n2, n3, n4, n5, n6, n7, m12, m13, m14, m15, m16, m17, m23, m24, m25, m26, m27, m34, m35, m36, m37, m45, m46, m47, m56, m57, m67⟩ := h.ne
  exact ⟨by unfold RBox; dsimp only; rw [List.length_set]; exact (Below.heap_setCell w ⟨R.g3, j, none⟩ _ R.b n3).trans h.box,
    by dsimp only; rw [List.length_set, rmap_same (y := { x with left := u }) hx rfl]; exact owns_far h.lie m13 _ _,
    by dsimp only; rw [List.length_set, rmap_same (y := { x with left := u }) hx rfl]; exact owns_far h.goal m23 _ _,
    by dsimp only; rw [List.length_set, List.map_set]; exact (own_set h.left j u).1,
    by dsimp only; rw [List.length_set, rmap_same (y := { x with left := u }) hx rfl]; exact owns_far h.stick (Ne.symm m34) _ _,
    by dsimp only; rw [List.length_set, rmap_same (y := { x with left := u }) hx rfl]; exact owns_far h.blind (Ne.symm m35) _ _,
    owns_far h.dark (Ne.symm m36) _ _,
    by dsimp only; rw [List.length_set, rmap_same (y := { x with left := u }) hx rfl]; exact owns_far h.short (Ne.symm m37) _ _,
    h.apart, h.within, by simpa [World.setCell] using h.le⟩
theorem RefAt.set_stick (h : RefAt w R lo hi v p r) {j : Nat} {x : RPt} (hx : r.pts[j]? = some x) (u : Bool) : RefAt (w.setCell ⟨R.g4, j, none⟩ (.bool u)) R lo hi v p { r with pts := r.pts.set j { x with stick := u } } := by
  obtain ⟨n1, n2, n3, n4, n5, n6, n7, m12, m13, m14, m15, m16, m17, m23, m24, m25, m26, m27, m34, m35, m36, m37, m45, m46, m47, m56, m57, m67⟩ := h.ne
  exact ⟨by unfold RBox; dsimp only; rw [List.length_set]; exact (Below.heap_setCell w ⟨R.g4, j, none⟩ _ R.b n4).trans h.box,
    by dsimp only; rw [List.length_set, rmap_same (y := { x with stick := u }) hx rfl]; exact owns_far h.lie m14 _ _,
    by dsimp only; rw [List.length_set, rmap_same (y := { x with stick := u }) hx rfl]; exact owns_far h.goal m24 _ _,
    by dsimp only; rw [List.length_set, rmap_same (y := { x with stick := u }) hx rfl]; exact owns_far h.left m34 _ _,
    by dsimp only; rw [List.length_set, List.map_set]; exact (own1_set (f := Value.bool) h.stick j u).1,
    by dsimp only; rw [List.length_set, rmap_same (y := { x with stick := u }) hx rfl]; exact owns_far h.blind (Ne.symm m45) _ _,
    owns_far h.dark (Ne.symm m46) _ _,
    by dsimp only; rw [List.length_set, rmap_same (y := { x with stick := u }) hx rfl]; exact owns_far h.short (Ne.symm m47) _ _,
    h.apart, h.within, by simpa [World.setCell] using h.le⟩
theorem RefAt.set_blind (h : RefAt w R lo hi v p r) {j : Nat} {x : RPt} (hx : r.pts[j]? = some x) (u : Bool) : RefAt (w.setCell ⟨R.g5, j, none⟩ (.bool u)) R lo hi v p { r with pts := r.pts.set j { x with blind := u } } := by
  obtain ⟨n1, n2, n3, n4, n5, n6, n7, m12, m13, m14, m15, m16, m17, m23, m24, m25, m26, m27, m34, m35, m36, m37, m45, m46, m47, m56, m57, m67⟩ := h.ne
  exact ⟨by unfold RBox; dsimp only; rw [List.length_set]; exact (Below.heap_setCell w ⟨R.g5, j, none⟩ _ R.b n5).trans h.box,
    by dsimp only; rw [List.length_set, rmap_same (y := { x with blind := u }) hx rfl]; exact owns_far h.lie m15 _ _,
    by dsimp only; rw [List.length_set, rmap_same (y := { x with blind := u }) hx rfl]; exact owns_far h.goal m25 _ _,
    by dsimp only; rw [List.length_set, rmap_same (y := { x with blind := u }) hx rfl]; exact owns_far h.left m35 _ _,
    by dsimp only; rw [List.length_set, rmap_same (y := { x with blind := u }) hx rfl]; exact owns_far h.stick m45 _ _,
    by dsimp only; rw [List.length_set, List.map_set]; exact (own1_set (f := Value.bool) h.blind j u).1,
    owns_far h.dark (Ne.symm m56) _ _,
    by dsimp only; rw [List.length_set, rmap_same (y := { x with blind := u }) hx rfl]; exact owns_far h.short (Ne.symm m57) _ _,
    h.apart, h.within, by simpa [World.setCell] using h.le⟩
theorem RefAt.set_short (h : RefAt w R lo hi v p r) {j : Nat} {x : RPt} (hx : r.pts[j]? = some x) (u : Bool) : RefAt (w.setCell ⟨R.g7, j, none⟩ (.bool u)) R lo hi v p { r with pts := r.pts.set j { x with short := u } } := by
  obtain ⟨n1, n2, n3, n4, n5, n6, n7, m12, m13, m14, m15, m16, m17, m23, m24, m25, m26, m27, m34, m35, m36, m37, m45, m46, m47, m56, m57, m67⟩ := h.ne
  exact ⟨by unfold RBox; dsimp only; rw [List.length_set]; exact (Below.heap_setCell w ⟨R.g7, j, none⟩ _ R.b n7).trans h.box,
    by dsimp only; rw [List.length_set, rmap_same (y := { x with short := u }) hx rfl]; exact owns_far h.lie m17 _ _,
    by dsimp only; rw [List.length_set, rmap_same (y := { x with short := u }) hx rfl]; exact owns_far h.goal m27 _ _,
    by dsimp only; rw [List.length_set, rmap_same (y := { x with short := u }) hx rfl]; exact owns_far h.left m37 _ _,
    by dsimp only; rw [List.length_set, rmap_same (y := { x with short := u }) hx rfl]; exact owns_far h.stick m47 _ _,
    by dsimp only; rw [List.length_set, rmap_same (y := { x with short := u }) hx rfl]; exact owns_far h.blind m57 _ _,
    owns_far h.dark m67 _ _,
    by dsimp only; rw [List.length_set, List.map_set]; exact (own1_set (f := Value.bool) h.short j u).1,
    h.apart, h.within, by simpa [World.setCell] using h.le⟩
theorem RefAt.set_dark (h : RefAt w R lo hi v p r) (j : Nat) (u : Bool) : RefAt (w.setCell ⟨R.g6, j, none⟩ (.bool u)) R lo hi v p { r with dark := r.dark.set j u } := by
  obtain ⟨n1, n2, n3, n4, n5, n6, n7, m12, m13, m14, m15, m16, m17, m23, m24, m25, m26, m27, m34, m35, m36, m37, m45, m46, m47, m56, m57, m67⟩ := h.ne
  exact ⟨by unfold RBox; dsimp only; rw [List.length_set]; exact (Below.heap_setCell w ⟨R.g6, j, none⟩ _ R.b n6).trans h.box,
    owns_far h.lie m16 _ _,
    owns_far h.goal m26 _ _,
    owns_far h.left m36 _ _,
    owns_far h.stick m46 _ _,
    owns_far h.blind m56 _ _,
    by dsimp only; rw [List.length_set]; exact (own1_set (f := Value.bool) h.dark j u).1,
    owns_far h.short (Ne.symm m67) _ _,
    h.apart, h.within, by simpa [World.setCell] using h.le⟩
theorem RefAt.in1 (h : RefAt w R lo hi v p r) : lo ≤ R.g1 ∧ R.g1 < hi := h.within R.g1 (by simp [RB.blocks])
theorem RefAt.in2 (h : RefAt w R lo hi v p r) : lo ≤ R.g2 ∧ R.g2 < hi := h.within R.g2 (by simp [RB.blocks])
theorem RefAt.in3 (h : RefAt w R lo hi v p r) : lo ≤ R.g3 ∧ R.g3 < hi := h.within R.g3 (by simp [RB.blocks])
theorem RefAt.in4 (h : RefAt w R lo hi v p r) : lo ≤ R.g4 ∧ R.g4 < hi := h.within R.g4 (by simp [RB.blocks])
theorem RefAt.in5 (h : RefAt w R lo hi v p r) : lo ≤ R.g5 ∧ R.g5 < hi := h.within R.g5 (by simp [RB.blocks])
theorem RefAt.in7 (h : RefAt w R lo hi v p r) : lo ≤ R.g7 ∧ R.g7 < hi := h.within R.g7 (by simp [RB.blocks])
theorem RefAt.in6 (h : RefAt w R lo hi v p r) : lo ≤ R.g6 ∧ R.g6 < hi := h.within R.g6 (by simp [RB.blocks])
theorem RefAt.in0 (h : RefAt w R lo hi v p r) : lo ≤ R.b ∧ R.b < hi := h.within R.b (by simp [RB.blocks])
theorem RefAt.cell_lie (h : RefAt w R lo hi v p r) {j : Nat} {x : RPt} (hx : r.pts[j]? = some x) : w.cell? ⟨R.g1, j, none⟩ = some (.int .i64 x.lie) := own1_cell (f := Value.int .i64) h.lie (by rw [List.getElem?_map, hx]; rfl)
theorem RefAt.cell_goal (h : RefAt w R lo hi v p r) {j : Nat} {x : RPt} (hx : r.pts[j]? = some x) : w.cell? ⟨R.g2, j, none⟩ = some (.int .i64 x.goal) := own1_cell (f := Value.int .i64) h.goal (by rw [List.getElem?_map, hx]; rfl)
theorem RefAt.cell_left (h : RefAt w R lo hi v p r) {j : Nat} {x : RPt} (hx : r.pts[j]? = some x) : w.cell? ⟨R.g3, j, none⟩ = some (.int .i64 x.left) := own1_cell (f := Value.int .i64) h.left (by rw [List.getElem?_map, hx]; rfl)
theorem RefAt.cell_stick (h : RefAt w R lo hi v p r) {j : Nat} {x : RPt} (hx : r.pts[j]? = some x) : w.cell? ⟨R.g4, j, none⟩ = some (.bool x.stick) := own1_cell (f := Value.bool) h.stick (by rw [List.getElem?_map, hx]; rfl)
theorem RefAt.cell_blind (h : RefAt w R lo hi v p r) {j : Nat} {x : RPt} (hx : r.pts[j]? = some x) : w.cell? ⟨R.g5, j, none⟩ = some (.bool x.blind) := own1_cell (f := Value.bool) h.blind (by rw [List.getElem?_map, hx]; rfl)
theorem RefAt.cell_short (h : RefAt w R lo hi v p r) {j : Nat} {x : RPt} (hx : r.pts[j]? = some x) : w.cell? ⟨R.g7, j, none⟩ = some (.bool x.short) := own1_cell (f := Value.bool) h.short (by rw [List.getElem?_map, hx]; rfl)
theorem RefAt.cell_dark (h : RefAt w R lo hi v p r) {j : Nat} {x : Bool} (hx : r.dark[j]? = some x) : w.cell? ⟨R.g6, j, none⟩ = some (.bool x) := own1_cell (f := Value.bool) h.dark hx
end

theorem refpoints_any (w : World) (R : RB) (lo hi : Nat) (pv : PV) (p : Plan) (r : RFld) (hr : RefAt w R lo hi pv p r) (hp : PlanAt w pv p) (e : Int) :
    Calls Try.prog 57 #[.pointer (some ⟨R.b, 0, none⟩), .int .i64 e] w fun en w' => en = .returned (.bool (decide (p.kind e = 2))) ∧ Below w.heap.size w w' := by
  obtain ⟨ae, ne, ce, aj, nj, cj, as_, ns, cs, al, nl, cl, lv⟩ := pv
  have HK := Lib.hid (refkind_any w ⟨ae, ne, ce, aj, nj, cj, as_, ns, cs, al, nl, cl, lv⟩ p e hp)
  obtain ⟨_, c0, c1, c2, c3, c4, c5, c6, c7, c8⟩ := hr.plan
  dsimp only [PV.val] at c0 c1 c2 c3 HK
  have Hs := Lib.hid (show (p.kind e == 2) = decide (p.kind e = 2) from rfl)
  clear hr hp
  go_enter Try.func57, Try.ntmps57
  go_wp2_with fail
  refine HK.out.mono ?_
  rintro en w1 ⟨rfl, hb⟩
  go_wp2_with fail
  go_ret
  exact ⟨ret_bool Hs.out, hb⟩

theorem refstick_any (w : World) (R : RB) (lo hi : Nat) (pv : PV) (p : Plan) (r : RFld) (hr : RefAt w R lo hi pv p r) (hp : PlanAt w pv p) (hl : r.pts.length = p.elems.length) (e : Int) (on : Bool) :
    Calls Try.prog 42 #[.pointer (some ⟨R.b, 0, none⟩), .int .i64 e, .bool on] w fun en w' => en = .returned (.tuple #[]) ∧ RefAt w' R lo hi pv p (r.stick p e on) ∧ Span lo hi w w' := by
  have HK := Lib.hid (refpoints_any w R lo hi pv p r hr hp e)
  have HR := Lib.hid hr
  have Hl := Lib.hid hl
  clear hr hp hl
  by_cases hk : p.kind e = 2
  · rw [show decide (p.kind e = 2) = true by simpa using hk] at HK
    have he := kind_lt (p := p) (i := e) (by omega)
    obtain ⟨x, hx⟩ := get_some (xs := r.pts) (n := r.pts.length) (i := e.toNat) rfl (by have := Hl.out; omega)
    have Hs := Lib.hid (show r.stick p e on = { r with pts := r.pts.set e.toNat { x with stick := on } } by unfold RFld.stick; rw [if_pos hk]; unfold RFld.pt; rw [getD_some hx])
    have Hx := Lib.hid hx
    have hlt : e.toNat < r.pts.length := by have := Hl.out; omega
    clear hk hx
    go_enter Try.func42, Try.ntmps42
    go_wp2_with fail
    refine HK.out.mono ?_
    rintro en w1 ⟨rfl, hb⟩
    have HR1 := Lib.hid (HR.out.below hb)
    have Hb := Lib.hid hb
    have c1 := HR1.out.k12
    have c2 := HR1.out.cell_stick Hx.out
    have fz := HR1.out.stick.frozenAt e.toNat
    have hbl := HR1.out.lt R.b (by simp [RB.blocks])
    have hgl := HR1.out.lt R.g4 (by simp [RB.blocks])
    clear hb
    go_wp2_with fail
    refine bodyPost_end (v := .tuple #[]) (by simp [results, Try.results42]) rfl ⟨rfl, ?_, Upd.setCell (a := ⟨R.g4, _, none⟩) (Upd.of_below Hb.out) HR1.out.in4 _⟩
    rw [Hs.out]
    exact HR1.out.set_stick Hx.out on
  · rw [show decide (p.kind e = 2) = false by simpa using hk] at HK
    have Hs := Lib.hid (show r.stick p e on = r by unfold RFld.stick; rw [if_neg hk])
    clear hk
    go_enter Try.func42, Try.ntmps42
    go_wp2_with fail
    refine HK.out.mono ?_
    rintro en w1 ⟨rfl, hb⟩
    go_wp2_with fail
    exact bodyPost_end (v := .tuple #[]) (by simp [results, Try.results42]) rfl ⟨rfl, by rw [Hs.out]; exact HR.out.below hb, Upd.of_below hb⟩

theorem refblind_any (w : World) (R : RB) (lo hi : Nat) (pv : PV) (p : Plan) (r : RFld) (hr : RefAt w R lo hi pv p r) (hp : PlanAt w pv p) (hl : r.pts.length = p.elems.length) (e : Int) (on : Bool) :
    Calls Try.prog 43 #[.pointer (some ⟨R.b, 0, none⟩), .int .i64 e, .bool on] w fun en w' => en = .returned (.tuple #[]) ∧ RefAt w' R lo hi pv p (r.blind p e on) ∧ Span lo hi w w' := by
  have HK := Lib.hid (refpoints_any w R lo hi pv p r hr hp e)
  have HR := Lib.hid hr
  have Hl := Lib.hid hl
  clear hr hp hl
  by_cases hk : p.kind e = 2
  · rw [show decide (p.kind e = 2) = true by simpa using hk] at HK
    have he := kind_lt (p := p) (i := e) (by omega)
    obtain ⟨x, hx⟩ := get_some (xs := r.pts) (n := r.pts.length) (i := e.toNat) rfl (by have := Hl.out; omega)
    have Hs := Lib.hid (show r.blind p e on = { r with pts := r.pts.set e.toNat { x with blind := on } } by unfold RFld.blind; rw [if_pos hk]; unfold RFld.pt; rw [getD_some hx])
    have Hx := Lib.hid hx
    have hlt : e.toNat < r.pts.length := by have := Hl.out; omega
    clear hk hx
    go_enter Try.func43, Try.ntmps43
    go_wp2_with fail
    refine HK.out.mono ?_
    rintro en w1 ⟨rfl, hb⟩
    have HR1 := Lib.hid (HR.out.below hb)
    have Hb := Lib.hid hb
    have c1 := HR1.out.k13
    have c2 := HR1.out.cell_blind Hx.out
    have fz := HR1.out.blind.frozenAt e.toNat
    have hbl := HR1.out.lt R.b (by simp [RB.blocks])
    have hgl := HR1.out.lt R.g5 (by simp [RB.blocks])
    clear hb
    go_wp2_with fail
    refine bodyPost_end (v := .tuple #[]) (by simp [results, Try.results43]) rfl ⟨rfl, ?_, Upd.setCell (a := ⟨R.g5, _, none⟩) (Upd.of_below Hb.out) HR1.out.in5 _⟩
    rw [Hs.out]
    exact HR1.out.set_blind Hx.out on
  · rw [show decide (p.kind e = 2) = false by simpa using hk] at HK
    have Hs := Lib.hid (show r.blind p e on = r by unfold RFld.blind; rw [if_neg hk])
    clear hk
    go_enter Try.func43, Try.ntmps43
    go_wp2_with fail
    refine HK.out.mono ?_
    rintro en w1 ⟨rfl, hb⟩
    go_wp2_with fail
    exact bodyPost_end (v := .tuple #[]) (by simp [results, Try.results43]) rfl ⟨rfl, by rw [Hs.out]; exact HR.out.below hb, Upd.of_below hb⟩

theorem refdark_any (w : World) (R : RB) (lo hi : Nat) (pv : PV) (p : Plan) (r : RFld) (hr : RefAt w R lo hi pv p r) (e : Int) (on : Bool) :
    Calls Try.prog 44 #[.pointer (some ⟨R.b, 0, none⟩), .int .i64 e, .bool on] w fun en w' => en = .returned (.tuple #[]) ∧ RefAt w' R lo hi pv p (r.darken e on) ∧ Span lo hi w w' := by
  have HR := Lib.hid hr
  have c1 := hr.k14
  have hbl := hr.lt R.b (by simp [RB.blocks])
  have hgl := hr.lt R.g6 (by simp [RB.blocks])
  clear hr
  by_cases h0 : e < 0
  · have q0 : decide (0 ≤ e) = false := by simpa using h0
    have Hs := Lib.hid (show r.darken e on = r by unfold RFld.darken; rw [if_neg (by omega)])
    go_enter Try.func44, Try.ntmps44
    go_wp2_with fail
    exact bodyPost_end (v := .tuple #[]) (by simp [results, Try.results44]) rfl ⟨rfl, by rw [Hs.out]; exact HR.out, Upd.refl _ _⟩
  · have q0 : decide (0 ≤ e) = true := by simp; omega
    by_cases h1 : e < r.dark.length
    · have q1 : decide (e < (r.dark.length : Int)) = true := by simpa using h1
      have Hs := Lib.hid (show r.darken e on = { r with dark := r.dark.set e.toNat on } by unfold RFld.darken; rw [if_pos (by omega)])
      obtain ⟨x, hx⟩ := get_some (xs := r.dark) (n := r.dark.length) (i := e.toNat) rfl (by omega)
      have c2 := HR.out.cell_dark hx
      have fz := HR.out.dark.frozenAt e.toNat
      clear hx
      go_enter Try.func44, Try.ntmps44
      go_wp2_with fail
      refine bodyPost_end (v := .tuple #[]) (by simp [results, Try.results44]) rfl ⟨rfl, ?_, Upd.setCell (a := ⟨R.g6, _, none⟩) (Upd.refl _ _) HR.out.in6 _⟩
      rw [Hs.out]
      exact HR.out.set_dark e.toNat on
    · have q1 : decide (e < (r.dark.length : Int)) = false := by simpa using h1
      have Hs := Lib.hid (show r.darken e on = r by unfold RFld.darken; rw [if_neg (by omega)])
      go_enter Try.func44, Try.ntmps44
      go_wp2_with fail
      exact bodyPost_end (v := .tuple #[]) (by simp [results, Try.results44]) rfl ⟨rfl, by rw [Hs.out]; exact HR.out, Upd.refl _ _⟩

theorem refshort_any (w : World) (R : RB) (lo hi : Nat) (pv : PV) (p : Plan) (r : RFld) (hr : RefAt w R lo hi pv p r) (hp : PlanAt w pv p) (hl : r.pts.length = p.elems.length) (e : Int) :
    Calls Try.prog 45 #[.pointer (some ⟨R.b, 0, none⟩), .int .i64 e] w fun en w' => en = .returned (.tuple #[]) ∧ RefAt w' R lo hi pv p (r.shorten p e) ∧ Span lo hi w w' := by
  obtain ⟨ae, ne, ce, aj, nj, cj, as_, ns, cs, al, nl, cl, lv⟩ := pv
  have HK := Lib.hid (refkind_any w ⟨ae, ne, ce, aj, nj, cj, as_, ns, cs, al, nl, cl, lv⟩ p e hp)
  obtain ⟨_, c0, c1, c2, c3, c4, c5, c6, c7, c8⟩ := hr.plan
  dsimp only [PV.val] at c0 c1 c2 c3 HK
  have HR := Lib.hid hr
  have Hl := Lib.hid hl
  have hbl := hr.lt R.b (by simp [RB.blocks])
  clear hr hp hl
  by_cases h0 : p.kind e = 0
  · have q0 : (p.kind e != 0) = false := by simp [h0]
    have Hs := Lib.hid (show r.shorten p e = r by unfold RFld.shorten; rw [if_neg (by omega)])
    clear h0
    go_enter Try.func45, Try.ntmps45
    go_wp2_with fail
    refine HK.out.mono ?_
    rintro en w1 ⟨rfl, hb⟩
    go_wp2_with fail
    exact bodyPost_end (v := .tuple #[]) (by simp [results, Try.results45]) rfl ⟨rfl, by rw [Hs.out]; exact HR.out.below hb, Upd.of_below hb⟩
  · have q0 : (p.kind e != 0) = true := by simp [h0]
    by_cases h1 : p.kind e = 4
    · have q1 : (p.kind e != 4) = false := by simp [h1]
      have Hs := Lib.hid (show r.shorten p e = r by unfold RFld.shorten; rw [if_neg (by omega)])
      clear h0 h1
      go_enter Try.func45, Try.ntmps45
      go_wp2_with fail
      refine HK.out.mono ?_
      rintro en w1 ⟨rfl, hb⟩
      go_wp2_with fail
      exact bodyPost_end (v := .tuple #[]) (by simp [results, Try.results45]) rfl ⟨rfl, by rw [Hs.out]; exact HR.out.below hb, Upd.of_below hb⟩
    · have q1 : (p.kind e != 4) = true := by simp [h1]
      have he := kind_lt h0
      obtain ⟨x, hx⟩ := get_some (xs := r.pts) (n := r.pts.length) (i := e.toNat) rfl (by have := Hl.out; omega)
      have Hs := Lib.hid (show r.shorten p e = { r with pts := r.pts.set e.toNat { x with short := true } } by unfold RFld.shorten; rw [if_pos ⟨h0, h1⟩]; unfold RFld.pt; rw [getD_some hx])
      have Hx := Lib.hid hx
      have hlt : e.toNat < r.pts.length := by have := Hl.out; omega
      clear h0 h1 hx
      go_enter Try.func45, Try.ntmps45
      go_wp2_with fail
      refine HK.out.mono ?_
      rintro en w1 ⟨rfl, hb⟩
      have HR1 := Lib.hid (HR.out.below hb)
      have Hb := Lib.hid hb
      have k1 := HR1.out.k15
      have k2 := HR1.out.cell_short Hx.out
      have fz := HR1.out.short.frozenAt e.toNat
      have hbl1 := HR1.out.lt R.b (by simp [RB.blocks])
      have hgl := HR1.out.lt R.g7 (by simp [RB.blocks])
      clear hb
      go_wp2_with fail
      refine bodyPost_end (v := .tuple #[]) (by simp [results, Try.results45]) rfl ⟨rfl, ?_, Upd.setCell (a := ⟨R.g7, _, none⟩) (Upd.of_below Hb.out) HR1.out.in7 _⟩
      rw [Hs.out]
      exact HR1.out.set_short Hx.out true
end Go.Proofs.Ytlgekkffekagbaa
