/- Walk of the reference's NewField. Condition: the plan is read and is fine. -/
import Derived.Test.YtlgekkffekagbaaFieldR4
import Derived.Test.YtlgekkffekagbaaTillC
import Derived.Deep.CutRange
import Derived.Great.BuildSlice
set_option maxRecDepth 1000000
namespace Go.Proofs.Ytlgekkffekagbaa
open Go.ChangeShapes Go.WideShapes Go.ChangeAt Go.RowKit Go.Sort

/-- two rows in different blocks -/
def ApartF (va vb : Value) : Prop := ∀ k, va.ownBlock = some k → vb.ownBlock ≠ some k
abbrev RowQ := Value × TypeId × Nat × List Value
/-- rows of one-cell elements, apart from each other -/
structure RowsL (w : World) (base : Nat) (l : List RowQ) : Prop where
  own : ∀ q ∈ l, w.ownsRow base q.2.1 1 q.1 q.2.2.1 q.2.2.2
  apart : l.Pairwise fun a b => ApartF a.1 b.1
theorem owns_ltF {w : World} {base n size : Nat} {e : TypeId} {v : Value} {xs : List Value} (h : w.ownsRow base e size v n xs) {k : Nat} (hk : v.ownBlock = some k) : base ≤ k ∧ k < w.heap.size := h.lt k hk
def kindL (p : Plan) (j : Nat) : List Int := (List.range j).map fun (i : Nat) => if p.kind i = 2 then 1 else 0
def newBox (w : World) (b : Nat) (v : PV) (p : Plan) (v1 v2 v3 v4 v5 v6 v7 : Value) : Prop := w.heap[b]? = some (.cells #[.slice v.ae v.ne v.ce, .slice v.aj v.nj v.cj, .slice v.as_ v.ns v.cs, .slice v.al v.nl v.cl, .int .i64 p.top, .int .i64 p.brake, .int .i64 p.margin, .int .i64 p.throw, .bool p.hard,
  v1, v2, v3, v4, v5, v6, v7] 51)
def rowsOf (p : Plan) (j : Nat) (v1 v2 v3 v4 v5 v7 : Value) : List RowQ := [(v1, 3, j, (kindL p j).map (Value.int .i64)), (v2, 3, j, (kindL p j).map (Value.int .i64)), (v3, 3, j, (List.replicate j (0 : Int)).map (Value.int .i64)),
  (v4, 4, j, (List.replicate j false).map Value.bool), (v5, 4, j, (List.replicate j false).map Value.bool), (v7, 4, j, (List.replicate j false).map Value.bool)]
/-! the parts of a drawn region that appends to three rows at once -/
theorem ap_symm {a b : Value} (h : ApartF a b) : ApartF b a := fun k hb ha => h k ha hb
/-- a literal of one element that is yet to be appended -/
def PendF (w : World) (base : Nat) (l : List RowQ) (g : Nat) (e : TypeId) (x : Value) : Prop := w.heap[g]? = some (.cells #[x] e) ∧ base ≤ g ∧ ∀ q ∈ l, q.1.ownBlock ≠ some g
structure NC (w0 w : World) (b : Nat) (v : PV) (p : Plan) (v1 v2 v3 v4 v5 v7 : Value) (l : List RowQ) : Prop where
  box : newBox w b v p v1 v2 v3 v4 v5 (.slice none 0 0) v7
  rows : RowsL w (b + 1) l
  below : Below b w0 w
  size : b + 1 ≤ w.heap.size
section
variable {w0 w w' : World} {b : Nat} {v : PV} {p : Plan} {v1 v2 v3 v4 v5 v7 : Value} {l : List RowQ}
theorem RowsL.alloc {base : Nat} (h : RowsL w base l) (o : Obj) : RowsL (w.alloc o) base l := ⟨fun q hq => (h.own q hq).alloc o, h.apart⟩
theorem RowsL.drew {base : Nat} (h : RowsL w base l) : RowsL w.drew base l := ⟨fun q hq => h.own q hq, h.apart⟩
theorem RowsL.low {base : Nat} (h : RowsL w base l) {g : Nat} (hg : g < base) (o : Nat) (u : Value) : RowsL (w.setCell ⟨g, o, none⟩ u) base l := ⟨fun q hq => ownsRow_setCell_below (h.own q hq) (a := ⟨g, o, none⟩) hg u, h.apart⟩
theorem NC.drew (h : NC w0 w b v p v1 v2 v3 v4 v5 v7 l) : NC w0 w.drew b v p v1 v2 v3 v4 v5 v7 l := ⟨h.box, h.rows.drew, h.below.drew, h.size⟩
theorem NC.alloc (h : NC w0 w b v p v1 v2 v3 v4 v5 v7 l) (o : Obj) : NC w0 (w.alloc o) b v p v1 v2 v3 v4 v5 v7 l :=
  ⟨Eq.trans (Below.heap_alloc w o b (by have := h.size; omega)) h.box, h.rows.alloc o, h.below.alloc (by have := h.size; omega) o, by have := h.size; simp; omega⟩
theorem NC.put8 (h : NC w0 w b v p v1 v2 v3 v4 v5 v7 l) (a1 a2 a3 : Value) : NC w0 (((w.setCell ⟨b, 9, none⟩ a1).setCell ⟨b, 10, none⟩ a2).setCell ⟨b, 11, none⟩ a3) b v p a1 a2 a3 v4 v5 v7 l := by
  have h1 := heap_setCell_same _ b 9 _ _ a1 h.box
  have h2 := heap_setCell_same _ b 10 _ _ a2 h1
  have h3 := heap_setCell_same _ b 11 _ _ a3 h2
  exact ⟨h3, ((h.rows.low (Nat.lt_succ_self b) _ _).low (Nat.lt_succ_self b) _ _).low (Nat.lt_succ_self b) _ _, ((h.below.setCell (p := ⟨b, 9, none⟩) (Nat.le_refl _) _).setCell (p := ⟨b, 10, none⟩) (Nat.le_refl _) _).setCell (p := ⟨b, 11, none⟩) (Nat.le_refl _) _, by simpa [World.setCell] using h.size⟩
theorem NC.put9 (h : NC w0 w b v p v1 v2 v3 v4 v5 v7 l) (a1 a2 a3 : Value) : NC w0 (((w.setCell ⟨b, 12, none⟩ a1).setCell ⟨b, 13, none⟩ a2).setCell ⟨b, 15, none⟩ a3) b v p v1 v2 v3 a1 a2 a3 l := by
  have h1 := heap_setCell_same _ b 12 _ _ a1 h.box
  have h2 := heap_setCell_same _ b 13 _ _ a2 h1
  have h3 := heap_setCell_same _ b 15 _ _ a3 h2
  exact ⟨h3, ((h.rows.low (Nat.lt_succ_self b) _ _).low (Nat.lt_succ_self b) _ _).low (Nat.lt_succ_self b) _ _, ((h.below.setCell (p := ⟨b, 12, none⟩) (Nat.le_refl _) _).setCell (p := ⟨b, 13, none⟩) (Nat.le_refl _) _).setCell (p := ⟨b, 15, none⟩) (Nat.le_refl _) _, by simpa [World.setCell] using h.size⟩
theorem pairwise_set {r : RowQ → RowQ → Prop} : ∀ (l : List RowQ) (i : Nat) (q z : RowQ), l[i]? = some q → l.Pairwise r → (∀ x ∈ l, x ≠ q → r x z ∧ r z x) → (∀ (j _k : Nat) x, l[j]? = some x → j ≠ i → r x z ∧ r z x) → (l.set i z).Pairwise r
  | [], _, _, _, h, _, _, _ => by simp at h
  | a :: t, 0, q, z, h, hp, hx, hy => by
    simp only [List.set_cons_zero, List.pairwise_cons] at *
    refine ⟨fun c hc => ?_, hp.2⟩
    obtain ⟨j, hj⟩ := List.getElem?_of_mem hc
    exact (hy (j + 1) 0 c (by simpa using hj) (by omega)).2
  | a :: t, i + 1, q, z, h, hp, hx, hy => by
    simp only [List.set_cons_succ, List.pairwise_cons] at *
    refine ⟨fun c hc => ?_, ?_⟩
    · rcases List.mem_or_eq_of_mem_set hc with hc | rfl
      · exact hp.1 c hc
      · exact (hy 0 0 a rfl (by omega)).1
    · refine pairwise_set t i q z (by simpa using h) hp.2 (fun x hxm hne => hx x (List.mem_cons_of_mem _ hxm) hne) fun j k x hj hne => hy (j + 1) k x (by simpa using hj) (by omega)
theorem pair_get {r : RowQ → RowQ → Prop} : ∀ {l : List RowQ} {i j : Nat} {x y : RowQ}, l.Pairwise r → (∀ a b, r a b → r b a) → l[i]? = some x → l[j]? = some y → i ≠ j → r x y := by
  intro l i j x y hp hs hx hy hne
  rw [List.pairwise_iff_getElem] at hp
  obtain ⟨h1, rfl⟩ := List.getElem?_eq_some_iff.1 hx
  obtain ⟨h2, rfl⟩ := List.getElem?_eq_some_iff.1 hy
  rcases Nat.lt_or_gt_of_ne hne with h | h
  · exact hp i j h1 h2 h
  · exact hs _ _ (hp j i h2 h1 h)
theorem NC.app (h : NC w0 w b v p v1 v2 v3 v4 v5 v7 l) {k : Nat} {q : RowQ} (hk : l[k]? = some q) {z : Value} {e : TypeId} {n : Nat} {xs : List Value} (hz : w'.ownsRow (b + 1) e 1 z n xs) (hg : w.grownBy w' q.1.ownBlock)
    (hb : z.ownBlock = q.1.ownBlock ∨ z.ownBlock = some w.heap.size) : NC w0 w' b v p v1 v2 v3 v4 v5 v7 (l.set k (z, e, n, xs)) := by
  have hq := h.rows.own q (List.mem_of_getElem? hk)
  have hbl : some b ≠ q.1.ownBlock := fun e => by have := (hq.lt b e.symm).1; omega
  have hs := h.size
  have key : ∀ j x, l[j]? = some x → j ≠ k → ApartF x.1 z := by
    intro j x hj hne i hi hzi
    have hx := h.rows.own x (List.mem_of_getElem? hj)
    rcases hb with e1 | e1
    · exact pair_get (r := fun a b => ApartF a.1 b.1) h.rows.apart (fun _ _ => ap_symm) hj hk hne i hi (by rw [← e1]; exact hzi)
    · rw [e1] at hzi; cases hzi
      exact absurd (hx.lt _ hi).2 (Nat.lt_irrefl _)
  refine ⟨Eq.trans (hg.block b (by omega) hbl) h.box, ⟨fun x hx => ?_, ?_⟩, ⟨hg.os.trans h.below.os, hg.tape.trans h.below.tape, hg.output.trans h.below.output, Nat.le_trans h.below.size hg.size, fun i hi => ?_⟩, Nat.le_trans hs hg.size⟩
  · obtain ⟨j, hj⟩ := List.getElem?_of_mem hx
    rw [List.getElem?_set] at hj
    split at hj
    · split at hj
      · cases hj; exact hz
      · cases hj
    · rename_i hne
      have ho := h.rows.own x (List.mem_of_getElem? hj)
      refine ho.kept hg ?_
      cases hov : x.1.ownBlock with
      | none => exact .inl rfl
      | some i => exact .inr fun e => pair_get (r := fun a b => ApartF a.1 b.1) h.rows.apart (fun _ _ => ap_symm) hj hk (fun e => hne e.symm) i hov e.symm
  · exact pairwise_set (r := fun a b => ApartF a.1 b.1) l k q _ hk h.rows.apart (fun x hx hne => by
      obtain ⟨j, hj⟩ := List.getElem?_of_mem hx
      have := key j x hj (fun e => hne (by subst e; rw [hk] at hj; cases hj; rfl))
      exact ⟨this, ap_symm this⟩) fun j _ x hj hne => ⟨key j x hj hne, ap_symm (key j x hj hne)⟩
  · rw [hg.block i (by omega) (fun e => by have := (hq.lt i e.symm).1; omega)]
    exact h.below.block i hi
theorem NC.own (h : NC w0 w b v p v1 v2 v3 v4 v5 v7 l) {k : Nat} {q : RowQ} (hk : l[k]? = some q) : w.ownsRow (b + 1) q.2.1 1 q.1 q.2.2.1 q.2.2.2 := h.rows.own q (List.mem_of_getElem? hk)
theorem PendF.lt {g : Nat} {e : TypeId} {x : Value} {base : Nat} (h : PendF w base l g e x) : g < w.heap.size := (Array.getElem?_eq_some_iff.1 h.1).1
theorem PendF.alloc {g : Nat} {e : TypeId} {x : Value} {base : Nat} (h : PendF w base l g e x) (o : Obj) : PendF (w.alloc o) base l g e x := ⟨Eq.trans (Below.heap_alloc w o g h.lt) h.1, h.2⟩
theorem PendF.app {g : Nat} {e : TypeId} {x : Value} {base : Nat} (h : PendF w base l g e x) {k : Nat} {q : RowQ} (hk : l[k]? = some q) {z : Value} {e2 : TypeId} {n : Nat} {xs : List Value} (hg : w.grownBy w' q.1.ownBlock)
    (hb : z.ownBlock = q.1.ownBlock ∨ z.ownBlock = some w.heap.size) : PendF w' base (l.set k (z, e2, n, xs)) g e x := by
  refine ⟨Eq.trans (hg.block g h.lt (fun e => h.2.2 q (List.mem_of_getElem? hk) e.symm)) h.1, h.2.1, fun y hy => ?_⟩
  rcases List.mem_or_eq_of_mem_set hy with hy | rfl
  · exact h.2.2 y hy
  · rcases hb with e1 | e1
    · show z.ownBlock ≠ _
      rw [e1]; exact h.2.2 q (List.mem_of_getElem? hk)
    · show z.ownBlock ≠ _
      rw [e1]; intro hc; cases hc
      exact absurd h.lt (Nat.lt_irrefl _)
theorem NC.pend (h : NC w0 w b v p v1 v2 v3 v4 v5 v7 l) (e : TypeId) (x : Value) : PendF (w.alloc (.cells #[x] e)) (b + 1) l w.heap.size e x :=
  ⟨heap_alloc_new w _, h.size, fun q hq hc => absurd ((h.rows.own q hq).lt _ hc).2 (Nat.lt_irrefl _)⟩
theorem PendF.rowI {g : Nat} {e : TypeId} {x : Int} {base : Nat} (h : PendF w base l g e (.int .i64 x)) : Row 1 encInt w (some ⟨g, 0, none⟩) 1 [x] :=
  row_block (sz := 1) (enc := encInt) (fun _ => rfl) (by decide) [x] h.1 rfl rfl (by omega)
theorem PendF.rowB {g : Nat} {e : TypeId} {x : Bool} {base : Nat} (h : PendF w base l g e (.bool x)) : Row 1 encBool w (some ⟨g, 0, none⟩) 1 [x] :=
  row_block (sz := 1) (enc := encBool) (fun _ => rfl) (by decide) [x] h.1 rfl rfl (by omega)
theorem NC.cells (h : NC w0 w b v p v1 v2 v3 v4 v5 v7 l) : w.cell? ⟨b, 9, none⟩ = some v1 ∧ w.cell? ⟨b, 10, none⟩ = some v2 ∧ w.cell? ⟨b, 11, none⟩ = some v3 ∧ w.cell? ⟨b, 12, none⟩ = some v4 ∧ w.cell? ⟨b, 13, none⟩ = some v5 ∧ w.cell? ⟨b, 15, none⟩ = some v7 := by
  refine ⟨?_, ?_, ?_, ?_, ?_, ?_⟩ <;> (rw [cell_of_row w b _ _ _ (0, 0) h.box]; rfl)
end
def SF (b o1 o2 o3 : Nat) (v1 v2 v3 : Value) (w' : World) : Prop := w'.cell? ⟨b, o1, none⟩ = some v1 ∧ w'.cell? ⟨b, o2, none⟩ = some v2 ∧ w'.cell? ⟨b, o3, none⟩ = some v3
def obF (n t : Nat) : Bool := decide (t < n) && !(decide (t = 1) || decide (t = 2))
theorem ev_put (A : Act) {i j : Nat} {v : Value} (hi : i < A.tmps.size) : (A.put (some i) v).eval (.tmp j) = if i = j then v else A.eval (.tmp j) := by
  by_cases h : i = j
  · subst h; simp [Act.put, Act.eval, hi]
  · simp [Act.put, Act.eval, Array.getElem?_setIfInBounds_ne h, h]
theorem put_size (A : Act) (d : Option Nat) (v : Value) : (A.put d v).tmps.size = A.tmps.size := by
  cases d <;> simp [Act.put]
theorem put_swap (A : Act) {i j : Nat} (h : i ≠ j) (u v : Value) : (A.put (some i) u).put (some j) v = (A.put (some j) v).put (some i) u := by
  simp only [Act.put]
  rw [Array.setIfInBounds_comm _ _ h]
theorem newBox_grown {w w' : World} {b : Nat} {v : PV} {p : Plan} {v1 v2 v3 v4 v5 v6 v7 : Value} (h : newBox w b v p v1 v2 v3 v4 v5 v6 v7) (hg : w.grownBy w' none) : newBox w' b v p v1 v2 v3 v4 v5 v6 v7 :=
  Eq.trans (hg.block b (Array.getElem?_eq_some_iff.1 h).1 (by simp)) h
theorem newBox_14 {w : World} {b : Nat} {v : PV} {p : Plan} {v1 v2 v3 v4 v5 v6 v7 : Value} (h : newBox w b v p v1 v2 v3 v4 v5 v6 v7) : w.cell? ⟨b, 14, none⟩ = some v6 := by
  rw [cell_of_row w b _ _ _ (0, 0) h]; rfl
theorem fillI (x : Int) : Instr.fill (fun i => some (i * 1, 1)) ((Array.range (1 * 1)).map ((Value.int .i64 0).cells[· % (Value.int .i64 0).cells.size]!)) [(0, .int .i64 x)] = some #[.int .i64 x] := by
  simp [Instr.fill, Value.cells, Array.range]
  apply Array.ext
  · simp
  · intro i h1 h2
    have : i = 0 := by simp at h2; omega
    subst this
    simp
theorem fillB : Instr.fill (fun i => some (i * 1, 1)) ((Array.range (1 * 1)).map ((Value.bool false).cells[· % (Value.bool false).cells.size]!)) [(0, .bool false)] = some #[.bool false] := by
  simp [Instr.fill, Value.cells, Array.range]
  apply Array.ext
  · simp
  · intro i h1 h2
    have : i = 0 := by simp at h2; omega
    subst this
    simp
theorem step_build1 {P : Program} (w : World) {ops : Array Oper} {o : Oper} {ac : Act} {K : Act → World → Prop} {Q : Exit → Act → World → Prop} {E : Prop} (hgd : o.guard = none) (t e : TypeId) (x : Operand)
    (ho : o.op = .buildSlice t 1 #[(0, x)]) (ie : TypeInfo) (z : Value) (hu : P.underlying t = some (.slice e)) (hie : P.info? e = some ie) (hz : ie.zero = some z) (hs : ie.size = 1) (v : Value) (hv : ac.eval x = v)
    (hf : Instr.fill (fun i => some (i * 1, 1)) ((Array.range (1 * 1)).map (z.cells[· % z.cells.size]!)) [(0, v)] = some #[v])
    (h : K (ac.put o.dst (.slice (some ⟨w.heap.size, 0, none⟩) 1 1)) (w.alloc (.cells #[v] e))) : if Region.wanted o (yielded ops ac.tmps) = true then Oper.wp P o ac w K Q else E := by
  have hw : Region.wanted o (yielded ops ac.tmps) = true := by simp [Region.wanted, hgd]
  rw [if_pos hw]
  refine wp_buildSlice t e 1 #[(0, x)] ho #[v] ie z hu hie hz (by rw [hs]; decide) (by rw [hs]; decide) ?_ h
  rw [hs]
  simpa [hv] using hf
theorem kindL_succ {p : Plan} {j : Nat} {x : Int} (h : (if p.kind (j : Int) = 2 then (1 : Int) else 0) = x) : kindL p (j + 1) = kindL p j ++ [x] := by
  unfold kindL; rw [List.range_succ, List.map_append]; simp [h]
theorem rows_nil {w : World} (base : Nat) (p : Plan) : RowsL w base (rowsOf p 0 (.slice none 0 0) (.slice none 0 0) (.slice none 0 0) (.slice none 0 0) (.slice none 0 0) (.slice none 0 0)) := by
  refine ⟨fun q hq => ?_, ?_⟩
  · simp only [rowsOf, List.mem_cons, List.not_mem_nil, or_false] at hq
    rcases hq with rfl | rfl | rfl | rfl | rfl | rfl <;> exact World.ownsRow_nil _ _ _ _
  · simp only [rowsOf]
    repeat (first | exact List.Pairwise.nil | refine List.Pairwise.cons (fun b _ k hk => by cases hk) ?_)
set_option maxHeartbeats 2000000 in
theorem newfield_any (w : World) (pv : PV) (p : Plan) (hp : PlanAt w pv p) (hc : chk p = 0) :
    Calls Try.prog 19 #[pv.val p] w fun en w' => ∃ (R : RB) , en = .returned (.pointer (some ⟨R.b, 0, none⟩)) ∧ RefAt w' R w.heap.size w'.heap.size pv p (newRFld p) ∧ Below w.heap.size w w' := by
  obtain ⟨ae, ne, ce, aj, nj, cj, as_, ns, cs, al, nl, cl, lv⟩ := pv
  have HP := Lib.hid hp
  have Hc := Lib.hid hc
  have h40 := (elems_le hc).1
  have hne : p.elems.length = ne := hp.e.len
  rw [hne] at h40
  clear hp hc
  dsimp only [PV.val]
  go_enter Try.func19, Try.ntmps19
  go_wp2_with fail
  refine name_code fun W0 hW0 => ?_
  have hb0 : Below w.heap.size w W0 := by rw [hW0]; exact below_new2 _ _ _
  have hbox : newBox W0 (w.heap.size + 1) ⟨ae, ne, ce, aj, nj, cj, as_, ns, cs, al, nl, cl, lv⟩ p (.slice none 0 0) (.slice none 0 0) (.slice none 0 0) (.slice none 0 0) (.slice none 0 0) (.slice none 0 0) (.slice none 0 0) := by
    rw [hW0]; unfold newBox; exact heap_alloc2_new _ _ _
  have hpb : PBox W0 w.heap.size ⟨ae, ne, ce, aj, nj, cj, as_, ns, cs, al, nl, cl, lv⟩ p := by rw [hW0]; exact (pbox_new w ⟨ae, ne, ce, aj, nj, cj, as_, ns, cs, al, nl, cl, lv⟩ p).below (by simpa using below_new (w.alloc (.cells #[.slice ae ne ce, .slice aj nj cj, .slice as_ ns cs, .slice al nl cl, .int .i64 p.top, .int .i64 p.brake, .int .i64 p.margin, .int .i64 p.throw, .bool p.hard] 27)) _)
  have hs0 : W0.heap.size = w.heap.size + 2 := by rw [hW0]; simp
  have HX := Lib.hid hbox
  have HB := Lib.hid hb0
  have HQ := Lib.hid hpb
  have Hs0 := Lib.hid hs0
  clear hW0 hb0 hbox hpb hs0
  have HR0 := Lib.hid (rows_nil (w := W0) (w.heap.size + 2) p)
  go_loopg [4] ne (fun k i wr => ∃ (j : Nat) (v1 v2 v3 v4 v5 v7 : Value), j + k = ne ∧ i = .int .i64 j ∧ Hid (newBox wr (w.heap.size + 1) ⟨ae, ne, ce, aj, nj, cj, as_, ns, cs, al, nl, cl, lv⟩ p v1 v2 v3 v4 v5 (.slice none 0 0) v7) ∧ Hid (RowsL wr (w.heap.size + 2) (rowsOf p j v1 v2 v3 v4 v5 v7)) ∧ Hid (Below (w.heap.size + 1) W0 wr))
  case atStart => exact ⟨0, _, _, _, _, _, _, by omega, rfl, HX.out, HR0.out, Below.refl _ _⟩
  case round =>
    clear HX HR0
    obtain ⟨j, v1, v2, v3, v4, v5, v7, hk, rfl, hX, hRs, hB⟩ := hrel
    have Hk := Lib.hid hk; clear hk
    have sz0 := Hs0.out
    have sz1 := hB.out.size
    have c0 := (hB.out.cell (p := ⟨w.heap.size, 0, none⟩) (Nat.lt_succ_self _)).trans HQ.out.c0
    dsimp only at c0
    by_cases hlt : j < ne
    · obtain ⟨y, hy⟩ := get_some hne hlt
      obtain ⟨ge, oe, hae, hge, y1, y2, y3⟩ := HP.out.e.elem hy
      have hkx : p.kind (j : Int) = y.kind := by unfold Plan.kind; rw [elem_get (by omega) (show p.elems[((j : Nat) : Int).toNat]? = some y by simpa using hy)]
      have y2 := ((HB.out.cell (p := ⟨ge, oe + j * 3 + 1, none⟩) hge).symm.trans rfl).symm.trans y2
      have y2 := (hB.out.cell (p := ⟨ge, oe + j * 3 + 1, none⟩) (by show ge < _; omega)).trans y2
      dsimp only at hae
      rw [hae] at c0
      clear hy y1 y3 hae
      obtain ⟨x, hx⟩ : ∃ x : Int, (if p.kind (j : Int) = 2 then (1 : Int) else 0) = x := ⟨_, rfl⟩
      have Hx := Lib.hid hx
      go_upto_if 22 with fail
      go_cut [5] from 22 to 22 (fun s5 w' => s5 = .int .i64 x ∧ w' = wr)
      case first =>
        by_cases hk2 : y.kind = 2
        · have q2 : (y.kind == 2) = true := by simp [hk2]
          rw [hkx, if_pos hk2] at hx
          subst hx
          go_wp2_with fail
          go_meet
          case rel => exact ⟨rfl, rfl⟩
        · have q2 : (y.kind == 2) = false := by simp [hk2]
          rw [hkx, if_neg hk2] at hx
          subst hx
          go_wp2_with fail
          go_meet
          case rel => exact ⟨rfl, rfl⟩
      case rest =>
        obtain ⟨rfl, rfl⟩ := hcut
        clear c0 y2
        go_wp2_with fail
        have hin : NC W0 wc (w.heap.size + 1) ⟨ae, ne, ce, aj, nj, cj, as_, ns, cs, al, nl, cl, lv⟩ p v1 v2 v3 v4 v5 v7 (rowsOf p j v1 v2 v3 v4 v5 v7) := ⟨hX.out, hRs.out, hB.out, by omega⟩
        obtain ⟨c9, c10, c11, c12, c13, c15⟩ := hin.cells
        obtain ⟨ii, hii, zi1, zi2, zi3⟩ := info_parts info_intF
        have hj40 : j < 40 := by omega
        clear y2 hx
        refine wp_region_noPanic ?_
        refine region_ob (S := (SF (w.heap.size + 1) 9 10 11 v1 v2 v3)) (ob := (obF 23)) (by kernel_rfl) ?_
        have hS0 : (SF (w.heap.size + 1) 9 10 11 v1 v2 v3) wc.drew := ⟨c9, c10, c11⟩
        refine ob_pure (i := 1) (v := .pointer (some ⟨w.heap.size + 1, 0, none⟩)) rfl (by kernel_rfl) (by kernel_rfl) (by kernel_rfl) (by kernel_rfl) (by kernel_rfl) (fun _ _ _ h => h) (Or.inl ⟨by rfl, ?_⟩) ?_
        · intro w' _
          go_simp
        (try simp only [List.getElem_toArray, List.getElem_cons_succ, List.getElem_cons_zero, Act.put, List.setIfInBounds_toArray, List.set_cons_zero, List.set_cons_succ])
        refine ob_pure (i := 2) (v := .pointer (some ⟨w.heap.size + 1, 0, none⟩)) rfl (by kernel_rfl) (by kernel_rfl) (by kernel_rfl) (by kernel_rfl) (by kernel_rfl) (fun _ _ _ h => h) (Or.inl ⟨by rfl, ?_⟩) ?_
        · intro w' _
          go_simp
        (try simp only [List.getElem_toArray, List.getElem_cons_succ, List.getElem_cons_zero, Act.put, List.setIfInBounds_toArray, List.set_cons_zero, List.set_cons_succ])
        refine ob_take (i := 0) (v := .pointer (some ⟨w.heap.size + 1, 0, none⟩)) rfl (by kernel_rfl) (by kernel_rfl) (by kernel_rfl) (by kernel_rfl) (by kernel_rfl) (fun _ _ _ h => h) (Or.inl ⟨by rfl, ?_⟩) hS0 ?_
        · intro w' hSw
          obtain ⟨s1, s2, s3⟩ := hSw
          go_simp
        (try simp only [List.getElem_toArray, List.getElem_cons_zero, Act.put, List.setIfInBounds_toArray, List.set_cons_zero, List.set_cons_succ])
        refine ob_take (i := 3) (v := .pointer (some ⟨w.heap.size + 1, 0, none⟩)) rfl (by kernel_rfl) (by kernel_rfl) (by kernel_rfl) (by kernel_rfl) (by kernel_rfl) (fun _ _ _ h => h) (Or.inl ⟨by rfl, ?_⟩) hS0 ?_
        · intro w' hSw
          obtain ⟨s1, s2, s3⟩ := hSw
          go_simp
        (try simp only [List.getElem_toArray, List.getElem_cons_succ, List.getElem_cons_zero, Act.put, List.setIfInBounds_toArray, List.set_cons_zero, List.set_cons_succ])
        refine ob_take (i := 4) (v := .pointer (some ⟨w.heap.size + 1, 0, none⟩)) rfl (by kernel_rfl) (by kernel_rfl) (by kernel_rfl) (by kernel_rfl) (by kernel_rfl) (fun _ _ _ h => h) (Or.inl ⟨by rfl, ?_⟩) hS0 ?_
        · intro w' hSw
          obtain ⟨s1, s2, s3⟩ := hSw
          go_simp
        (try simp only [List.getElem_toArray, List.getElem_cons_succ, List.getElem_cons_zero, Act.put, List.setIfInBounds_toArray, List.set_cons_zero, List.set_cons_succ])
        refine ob_take (i := 5) (v := .pointer (some ⟨w.heap.size + 1, 9, none⟩)) rfl (by kernel_rfl) (by kernel_rfl) (by kernel_rfl) (by kernel_rfl) (by kernel_rfl) (fun _ _ _ h => h) (Or.inl ⟨by rfl, ?_⟩) hS0 ?_
        · intro w' hSw
          obtain ⟨s1, s2, s3⟩ := hSw
          go_simp
        (try simp only [List.getElem_toArray, List.getElem_cons_succ, List.getElem_cons_zero, Act.put, List.setIfInBounds_toArray, List.set_cons_zero, List.set_cons_succ])
        refine ob_take (i := 6) (v := v1) rfl (by kernel_rfl) (by kernel_rfl) (by kernel_rfl) (by kernel_rfl) (by kernel_rfl) (fun _ _ _ h => h) (Or.inl ⟨by rfl, ?_⟩) hS0 ?_
        · intro w' hSw
          obtain ⟨s1, s2, s3⟩ := hSw
          go_simp
        (try simp only [List.getElem_toArray, List.getElem_cons_succ, List.getElem_cons_zero, Act.put, List.setIfInBounds_toArray, List.set_cons_zero, List.set_cons_succ])
        refine ob_take (i := 7) (v := .int .i64 x) rfl (by kernel_rfl) (by kernel_rfl) (by kernel_rfl) (by kernel_rfl) (by kernel_rfl) (fun _ _ _ h => h) (Or.inl ⟨by rfl, ?_⟩) hS0 ?_
        · intro w' hSw
          obtain ⟨s1, s2, s3⟩ := hSw
          go_simp
        (try simp only [List.getElem_toArray, List.getElem_cons_succ, List.getElem_cons_zero, Act.put, List.setIfInBounds_toArray, List.set_cons_zero, List.set_cons_succ])
        refine ob_take (i := 10) (v := .pointer (some ⟨w.heap.size + 1, 0, none⟩)) rfl (by kernel_rfl) (by kernel_rfl) (by kernel_rfl) (by kernel_rfl) (by kernel_rfl) (fun _ _ _ h => h) (Or.inl ⟨by rfl, ?_⟩) hS0 ?_
        · intro w' hSw
          obtain ⟨s1, s2, s3⟩ := hSw
          go_simp
        (try simp only [List.getElem_toArray, List.getElem_cons_succ, List.getElem_cons_zero, Act.put, List.setIfInBounds_toArray, List.set_cons_zero, List.set_cons_succ])
        refine ob_take (i := 11) (v := .pointer (some ⟨w.heap.size + 1, 0, none⟩)) rfl (by kernel_rfl) (by kernel_rfl) (by kernel_rfl) (by kernel_rfl) (by kernel_rfl) (fun _ _ _ h => h) (Or.inl ⟨by rfl, ?_⟩) hS0 ?_
        · intro w' hSw
          obtain ⟨s1, s2, s3⟩ := hSw
          go_simp
        (try simp only [List.getElem_toArray, List.getElem_cons_succ, List.getElem_cons_zero, Act.put, List.setIfInBounds_toArray, List.set_cons_zero, List.set_cons_succ])
        refine ob_take (i := 12) (v := .pointer (some ⟨w.heap.size + 1, 10, none⟩)) rfl (by kernel_rfl) (by kernel_rfl) (by kernel_rfl) (by kernel_rfl) (by kernel_rfl) (fun _ _ _ h => h) (Or.inl ⟨by rfl, ?_⟩) hS0 ?_
        · intro w' hSw
          obtain ⟨s1, s2, s3⟩ := hSw
          go_simp
        (try simp only [List.getElem_toArray, List.getElem_cons_succ, List.getElem_cons_zero, Act.put, List.setIfInBounds_toArray, List.set_cons_zero, List.set_cons_succ])
        refine ob_take (i := 13) (v := v2) rfl (by kernel_rfl) (by kernel_rfl) (by kernel_rfl) (by kernel_rfl) (by kernel_rfl) (fun _ _ _ h => h) (Or.inl ⟨by rfl, ?_⟩) hS0 ?_
        · intro w' hSw
          obtain ⟨s1, s2, s3⟩ := hSw
          go_simp
        (try simp only [List.getElem_toArray, List.getElem_cons_succ, List.getElem_cons_zero, Act.put, List.setIfInBounds_toArray, List.set_cons_zero, List.set_cons_succ])
        refine ob_take (i := 14) (v := .int .i64 x) rfl (by kernel_rfl) (by kernel_rfl) (by kernel_rfl) (by kernel_rfl) (by kernel_rfl) (fun _ _ _ h => h) (Or.inl ⟨by rfl, ?_⟩) hS0 ?_
        · intro w' hSw
          obtain ⟨s1, s2, s3⟩ := hSw
          go_simp
        (try simp only [List.getElem_toArray, List.getElem_cons_succ, List.getElem_cons_zero, Act.put, List.setIfInBounds_toArray, List.set_cons_zero, List.set_cons_succ])
        refine ob_take (i := 17) (v := .pointer (some ⟨w.heap.size + 1, 0, none⟩)) rfl (by kernel_rfl) (by kernel_rfl) (by kernel_rfl) (by kernel_rfl) (by kernel_rfl) (fun _ _ _ h => h) (Or.inl ⟨by rfl, ?_⟩) hS0 ?_
        · intro w' hSw
          obtain ⟨s1, s2, s3⟩ := hSw
          go_simp
        (try simp only [List.getElem_toArray, List.getElem_cons_succ, List.getElem_cons_zero, Act.put, List.setIfInBounds_toArray, List.set_cons_zero, List.set_cons_succ])
        refine ob_take (i := 18) (v := .pointer (some ⟨w.heap.size + 1, 0, none⟩)) rfl (by kernel_rfl) (by kernel_rfl) (by kernel_rfl) (by kernel_rfl) (by kernel_rfl) (fun _ _ _ h => h) (Or.inl ⟨by rfl, ?_⟩) hS0 ?_
        · intro w' hSw
          obtain ⟨s1, s2, s3⟩ := hSw
          go_simp
        (try simp only [List.getElem_toArray, List.getElem_cons_succ, List.getElem_cons_zero, Act.put, List.setIfInBounds_toArray, List.set_cons_zero, List.set_cons_succ])
        refine ob_take (i := 19) (v := .pointer (some ⟨w.heap.size + 1, 11, none⟩)) rfl (by kernel_rfl) (by kernel_rfl) (by kernel_rfl) (by kernel_rfl) (by kernel_rfl) (fun _ _ _ h => h) (Or.inl ⟨by rfl, ?_⟩) hS0 ?_
        · intro w' hSw
          obtain ⟨s1, s2, s3⟩ := hSw
          go_simp
        (try simp only [List.getElem_toArray, List.getElem_cons_succ, List.getElem_cons_zero, Act.put, List.setIfInBounds_toArray, List.set_cons_zero, List.set_cons_succ])
        refine ob_take (i := 20) (v := v3) rfl (by kernel_rfl) (by kernel_rfl) (by kernel_rfl) (by kernel_rfl) (by kernel_rfl) (fun _ _ _ h => h) (Or.inl ⟨by rfl, ?_⟩) hS0 ?_
        · intro w' hSw
          obtain ⟨s1, s2, s3⟩ := hSw
          go_simp
        (try simp only [List.getElem_toArray, List.getElem_cons_succ, List.getElem_cons_zero, Act.put, List.setIfInBounds_toArray, List.set_cons_zero, List.set_cons_succ])
        refine ob_name fun OPS hO R hR A hA => ?_
        have hsz : A.tmps.size = 87 := by rw [hA]; rfl
        have e29 : A.eval (.tmp 29) = v1 := by rw [hA]; rfl
        have e30 : A.eval (.tmp 30) = .int .i64 x := by rw [hA]; rfl
        have e36 : A.eval (.tmp 36) = v2 := by rw [hA]; rfl
        have e37 : A.eval (.tmp 37) = .int .i64 x := by rw [hA]; rfl
        have e43 : A.eval (.tmp 43) = v3 := by rw [hA]; rfl
        have st1113 : ∀ (w' : World) (g1 g2 g3 : Nat) (z1 z2 z3 : Value), NC W0 w' (w.heap.size + 1) ⟨ae, ne, ce, aj, nj, cj, as_, ns, cs, al, nl, cl, lv⟩ p v1 v2 v3 v4 v5 v7 [(z1, 3, j + 1, (kindL p (j + 1)).map (Value.int .i64)), (z2, 3, j + 1, (kindL p (j + 1)).map (Value.int .i64)), (z3, 3, j + 1, (List.replicate (j + 1) (0 : Int)).map (Value.int .i64)), (v4, 4, j, (List.replicate j false).map Value.bool), (v5, 4, j, (List.replicate j false).map Value.bool), (v7, 4, j, (List.replicate j false).map Value.bool)] → wpOb Try.prog .any OPS R (SF (w.heap.size + 1) 9 10 11 v1 v2 v3) (obF 23) 9 #[true, true, true, true, true, true, true, true, true, true, true, true, true, true, true, true, true, true, true, true, true, true, true, false, false, false, false, false, false, false, false, false] ((((((A.put (some 31) (.slice (some ⟨g1, 0, none⟩) 1 1)).put (some 32) z1).put (some 38) (.slice (some ⟨g2, 0, none⟩) 1 1)).put (some 39) z2).put (some 44) (.slice (some ⟨g3, 0, none⟩) 1 1)).put (some 45) z3) w' := by
          intro w' g1 g2 g3 z1 z2 z3 hc
          have hr1 : w'.ownsRow (w.heap.size + 1 + 1) 3 1 z1 (j + 1) ((kindL p (j + 1)).map (Value.int .i64)) := hc.own (k := 0) rfl
          obtain ⟨m1, q1, rfl, _, _⟩ := own_shape hr1 (Nat.succ_pos j)
          clear hr1
          have hr2 : w'.ownsRow (w.heap.size + 1 + 1) 3 1 z2 (j + 1) ((kindL p (j + 1)).map (Value.int .i64)) := hc.own (k := 1) rfl
          obtain ⟨m2, q2, rfl, _, _⟩ := own_shape hr2 (Nat.succ_pos j)
          clear hr2
          have hr3 : w'.ownsRow (w.heap.size + 1 + 1) 3 1 z3 (j + 1) ((List.replicate (j + 1) (0 : Int)).map (Value.int .i64)) := hc.own (k := 2) rfl
          obtain ⟨m3, q3, rfl, _, _⟩ := own_shape hr3 (Nat.succ_pos j)
          clear hr3
          subst hO
          subst hR
          subst hA
          (try simp only [Act.put, List.setIfInBounds_toArray, List.set_cons_zero, List.set_cons_succ])
          clear hS0 hsz e29 e30 e36 e37 e43 c9 c10 c11 c12 c13 c15
          have fz : ∀ o, w'.frozen? ⟨w.heap.size + 1, o, none⟩ = false := fun o => frozen_of_row w' (w.heap.size + 1) o _ _ hc.box
          have hbl : w.heap.size + 1 < w'.heap.size := hc.size
          obtain ⟨c9, c10, c11, c12, c13, c15⟩ := hc.cells
          have Hc2 := Lib.hid hc; clear hc
          refine ob_step (i := 23) (by kernel_rfl) rfl (fun K hK => ?_)
          go_simp
          refine hK _ _ (fun h => absurd h (by decide)) ?_
          clear hK K
          (try simp only [List.setIfInBounds_toArray, List.set_cons_zero, List.set_cons_succ])
          refine ob_step (i := 24) (by kernel_rfl) rfl (fun K hK => ?_)
          go_simp
          refine hK _ _ (fun h => absurd h (by decide)) ?_
          clear hK K
          (try simp only [List.setIfInBounds_toArray, List.set_cons_zero, List.set_cons_succ])
          refine ob_step (i := 25) (by kernel_rfl) rfl (fun K hK => ?_)
          go_simp
          refine hK _ _ (fun h => absurd h (by decide)) ?_
          clear hK K
          (try simp only [List.setIfInBounds_toArray, List.set_cons_zero, List.set_cons_succ])
          refine ob_step (i := 26) (by kernel_rfl) rfl (fun K hK => ?_)
          go_simp
          refine hK _ _ (fun h => absurd h (by decide)) ?_
          clear hK K
          (try simp only [List.setIfInBounds_toArray, List.set_cons_zero, List.set_cons_succ])
          refine ob_step (i := 27) (by kernel_rfl) rfl (fun K hK => ?_)
          go_simp
          refine hK _ _ (fun h => absurd h (by decide)) ?_
          clear hK K
          (try simp only [List.setIfInBounds_toArray, List.set_cons_zero, List.set_cons_succ])
          refine ob_step (i := 28) (by kernel_rfl) rfl (fun K hK => ?_)
          go_simp
          refine hK _ _ (fun h => absurd h (by decide)) ?_
          clear hK K
          (try simp only [List.setIfInBounds_toArray, List.set_cons_zero, List.set_cons_succ])
          refine ob_step (i := 29) (by kernel_rfl) rfl (fun K hK => ?_)
          go_simp
          refine hK _ _ (fun h => absurd h (by decide)) ?_
          clear hK K
          (try simp only [List.setIfInBounds_toArray, List.set_cons_zero, List.set_cons_succ])
          refine ob_step (i := 30) (by kernel_rfl) rfl (fun K hK => ?_)
          go_simp
          refine hK _ _ (fun h => absurd h (by decide)) ?_
          clear hK K
          (try simp only [List.setIfInBounds_toArray, List.set_cons_zero, List.set_cons_succ])
          refine ob_step (i := 31) (by kernel_rfl) rfl (fun K hK => ?_)
          go_simp
          refine hK _ _ (fun h => absurd h (by decide)) ?_
          clear hK K
          (try simp only [List.setIfInBounds_toArray, List.set_cons_zero, List.set_cons_succ])
          refine ob_done (by kernel_rfl) (NoPanic.normal ?_) _
          go_wp2_with fail
          refine name_code fun W9 hW9 => ?_
          have hin9 : NC W0 W9 (w.heap.size + 1) ⟨ae, ne, ce, aj, nj, cj, as_, ns, cs, al, nl, cl, lv⟩ p (.slice (some ⟨m1, 0, none⟩) (j + 1) q1) (.slice (some ⟨m2, 0, none⟩) (j + 1) q2) (.slice (some ⟨m3, 0, none⟩) (j + 1) q3) v4 v5 v7 [((.slice (some ⟨m1, 0, none⟩) (j + 1) q1), 3, j + 1, (kindL p (j + 1)).map (Value.int .i64)), ((.slice (some ⟨m2, 0, none⟩) (j + 1) q2), 3, j + 1, (kindL p (j + 1)).map (Value.int .i64)), ((.slice (some ⟨m3, 0, none⟩) (j + 1) q3), 3, j + 1, (List.replicate (j + 1) (0 : Int)).map (Value.int .i64)), (v4, 4, j, (List.replicate j false).map Value.bool), (v5, 4, j, (List.replicate j false).map Value.bool), (v7, 4, j, (List.replicate j false).map Value.bool)] := by
            rw [hW9]; first | exact Hc2.out.put8 _ _ _ | exact (Hc2.out.put8 _ _ _).drew
          clear hW9 Hc2 c9 c10 c11 c12 c13 c15 fz hbl
          obtain ⟨c9, c10, c11, c12, c13, c15⟩ := hin9.cells
          obtain ⟨ii, hii, zi1, zi2, zi3⟩ := info_parts info_boolF
          refine wp_region_noPanic ?_
          refine region_ob (S := (SF (w.heap.size + 1) 12 13 15 v4 v5 v7)) (ob := (obF 21)) (by kernel_rfl) ?_
          have hS0 : (SF (w.heap.size + 1) 12 13 15 v4 v5 v7) W9.drew := ⟨c12, c13, c15⟩
          refine ob_pure (i := 1) (v := .pointer (some ⟨w.heap.size + 1, 0, none⟩)) rfl (by kernel_rfl) (by kernel_rfl) (by kernel_rfl) (by kernel_rfl) (by kernel_rfl) (fun _ _ _ h => h) (Or.inl ⟨by rfl, ?_⟩) ?_
          · intro w' _
            go_simp
          (try simp only [List.getElem_toArray, List.getElem_cons_succ, List.getElem_cons_zero, Act.put, List.setIfInBounds_toArray, List.set_cons_zero, List.set_cons_succ])
          refine ob_pure (i := 2) (v := .pointer (some ⟨w.heap.size + 1, 0, none⟩)) rfl (by kernel_rfl) (by kernel_rfl) (by kernel_rfl) (by kernel_rfl) (by kernel_rfl) (fun _ _ _ h => h) (Or.inl ⟨by rfl, ?_⟩) ?_
          · intro w' _
            go_simp
          (try simp only [List.getElem_toArray, List.getElem_cons_succ, List.getElem_cons_zero, Act.put, List.setIfInBounds_toArray, List.set_cons_zero, List.set_cons_succ])
          refine ob_take (i := 0) (v := .pointer (some ⟨w.heap.size + 1, 0, none⟩)) rfl (by kernel_rfl) (by kernel_rfl) (by kernel_rfl) (by kernel_rfl) (by kernel_rfl) (fun _ _ _ h => h) (Or.inl ⟨by rfl, ?_⟩) hS0 ?_
          · intro w' hSw
            obtain ⟨s1, s2, s3⟩ := hSw
            go_simp
          (try simp only [List.getElem_toArray, List.getElem_cons_zero, Act.put, List.setIfInBounds_toArray, List.set_cons_zero, List.set_cons_succ])
          refine ob_take (i := 3) (v := .pointer (some ⟨w.heap.size + 1, 0, none⟩)) rfl (by kernel_rfl) (by kernel_rfl) (by kernel_rfl) (by kernel_rfl) (by kernel_rfl) (fun _ _ _ h => h) (Or.inl ⟨by rfl, ?_⟩) hS0 ?_
          · intro w' hSw
            obtain ⟨s1, s2, s3⟩ := hSw
            go_simp
          (try simp only [List.getElem_toArray, List.getElem_cons_succ, List.getElem_cons_zero, Act.put, List.setIfInBounds_toArray, List.set_cons_zero, List.set_cons_succ])
          refine ob_take (i := 4) (v := .pointer (some ⟨w.heap.size + 1, 0, none⟩)) rfl (by kernel_rfl) (by kernel_rfl) (by kernel_rfl) (by kernel_rfl) (by kernel_rfl) (fun _ _ _ h => h) (Or.inl ⟨by rfl, ?_⟩) hS0 ?_
          · intro w' hSw
            obtain ⟨s1, s2, s3⟩ := hSw
            go_simp
          (try simp only [List.getElem_toArray, List.getElem_cons_succ, List.getElem_cons_zero, Act.put, List.setIfInBounds_toArray, List.set_cons_zero, List.set_cons_succ])
          refine ob_take (i := 5) (v := .pointer (some ⟨w.heap.size + 1, 12, none⟩)) rfl (by kernel_rfl) (by kernel_rfl) (by kernel_rfl) (by kernel_rfl) (by kernel_rfl) (fun _ _ _ h => h) (Or.inl ⟨by rfl, ?_⟩) hS0 ?_
          · intro w' hSw
            obtain ⟨s1, s2, s3⟩ := hSw
            go_simp
          (try simp only [List.getElem_toArray, List.getElem_cons_succ, List.getElem_cons_zero, Act.put, List.setIfInBounds_toArray, List.set_cons_zero, List.set_cons_succ])
          refine ob_take (i := 6) (v := v4) rfl (by kernel_rfl) (by kernel_rfl) (by kernel_rfl) (by kernel_rfl) (by kernel_rfl) (fun _ _ _ h => h) (Or.inl ⟨by rfl, ?_⟩) hS0 ?_
          · intro w' hSw
            obtain ⟨s1, s2, s3⟩ := hSw
            go_simp
          (try simp only [List.getElem_toArray, List.getElem_cons_succ, List.getElem_cons_zero, Act.put, List.setIfInBounds_toArray, List.set_cons_zero, List.set_cons_succ])
          refine ob_take (i := 9) (v := .pointer (some ⟨w.heap.size + 1, 0, none⟩)) rfl (by kernel_rfl) (by kernel_rfl) (by kernel_rfl) (by kernel_rfl) (by kernel_rfl) (fun _ _ _ h => h) (Or.inl ⟨by rfl, ?_⟩) hS0 ?_
          · intro w' hSw
            obtain ⟨s1, s2, s3⟩ := hSw
            go_simp
          (try simp only [List.getElem_toArray, List.getElem_cons_succ, List.getElem_cons_zero, Act.put, List.setIfInBounds_toArray, List.set_cons_zero, List.set_cons_succ])
          refine ob_take (i := 10) (v := .pointer (some ⟨w.heap.size + 1, 0, none⟩)) rfl (by kernel_rfl) (by kernel_rfl) (by kernel_rfl) (by kernel_rfl) (by kernel_rfl) (fun _ _ _ h => h) (Or.inl ⟨by rfl, ?_⟩) hS0 ?_
          · intro w' hSw
            obtain ⟨s1, s2, s3⟩ := hSw
            go_simp
          (try simp only [List.getElem_toArray, List.getElem_cons_succ, List.getElem_cons_zero, Act.put, List.setIfInBounds_toArray, List.set_cons_zero, List.set_cons_succ])
          refine ob_take (i := 11) (v := .pointer (some ⟨w.heap.size + 1, 13, none⟩)) rfl (by kernel_rfl) (by kernel_rfl) (by kernel_rfl) (by kernel_rfl) (by kernel_rfl) (fun _ _ _ h => h) (Or.inl ⟨by rfl, ?_⟩) hS0 ?_
          · intro w' hSw
            obtain ⟨s1, s2, s3⟩ := hSw
            go_simp
          (try simp only [List.getElem_toArray, List.getElem_cons_succ, List.getElem_cons_zero, Act.put, List.setIfInBounds_toArray, List.set_cons_zero, List.set_cons_succ])
          refine ob_take (i := 12) (v := v5) rfl (by kernel_rfl) (by kernel_rfl) (by kernel_rfl) (by kernel_rfl) (by kernel_rfl) (fun _ _ _ h => h) (Or.inl ⟨by rfl, ?_⟩) hS0 ?_
          · intro w' hSw
            obtain ⟨s1, s2, s3⟩ := hSw
            go_simp
          (try simp only [List.getElem_toArray, List.getElem_cons_succ, List.getElem_cons_zero, Act.put, List.setIfInBounds_toArray, List.set_cons_zero, List.set_cons_succ])
          refine ob_take (i := 15) (v := .pointer (some ⟨w.heap.size + 1, 0, none⟩)) rfl (by kernel_rfl) (by kernel_rfl) (by kernel_rfl) (by kernel_rfl) (by kernel_rfl) (fun _ _ _ h => h) (Or.inl ⟨by rfl, ?_⟩) hS0 ?_
          · intro w' hSw
            obtain ⟨s1, s2, s3⟩ := hSw
            go_simp
          (try simp only [List.getElem_toArray, List.getElem_cons_succ, List.getElem_cons_zero, Act.put, List.setIfInBounds_toArray, List.set_cons_zero, List.set_cons_succ])
          refine ob_take (i := 16) (v := .pointer (some ⟨w.heap.size + 1, 0, none⟩)) rfl (by kernel_rfl) (by kernel_rfl) (by kernel_rfl) (by kernel_rfl) (by kernel_rfl) (fun _ _ _ h => h) (Or.inl ⟨by rfl, ?_⟩) hS0 ?_
          · intro w' hSw
            obtain ⟨s1, s2, s3⟩ := hSw
            go_simp
          (try simp only [List.getElem_toArray, List.getElem_cons_succ, List.getElem_cons_zero, Act.put, List.setIfInBounds_toArray, List.set_cons_zero, List.set_cons_succ])
          refine ob_take (i := 17) (v := .pointer (some ⟨w.heap.size + 1, 15, none⟩)) rfl (by kernel_rfl) (by kernel_rfl) (by kernel_rfl) (by kernel_rfl) (by kernel_rfl) (fun _ _ _ h => h) (Or.inl ⟨by rfl, ?_⟩) hS0 ?_
          · intro w' hSw
            obtain ⟨s1, s2, s3⟩ := hSw
            go_simp
          (try simp only [List.getElem_toArray, List.getElem_cons_succ, List.getElem_cons_zero, Act.put, List.setIfInBounds_toArray, List.set_cons_zero, List.set_cons_succ])
          refine ob_take (i := 18) (v := v7) rfl (by kernel_rfl) (by kernel_rfl) (by kernel_rfl) (by kernel_rfl) (by kernel_rfl) (fun _ _ _ h => h) (Or.inl ⟨by rfl, ?_⟩) hS0 ?_
          · intro w' hSw
            obtain ⟨s1, s2, s3⟩ := hSw
            go_simp
          (try simp only [List.getElem_toArray, List.getElem_cons_succ, List.getElem_cons_zero, Act.put, List.setIfInBounds_toArray, List.set_cons_zero, List.set_cons_succ])
          refine ob_name fun OPS hO R hR A hA => ?_
          have hsz : A.tmps.size = 87 := by rw [hA]; rfl
          have e58 : A.eval (.tmp 58) = v4 := by rw [hA]; rfl
          have e64 : A.eval (.tmp 64) = v5 := by rw [hA]; rfl
          have e70 : A.eval (.tmp 70) = v7 := by rw [hA]; rfl
          have st1113 : ∀ (w' : World) (g1 g2 g3 : Nat) (z1 z2 z3 : Value), NC W0 w' (w.heap.size + 1) ⟨ae, ne, ce, aj, nj, cj, as_, ns, cs, al, nl, cl, lv⟩ p (.slice (some ⟨m1, 0, none⟩) (j + 1) q1) (.slice (some ⟨m2, 0, none⟩) (j + 1) q2) (.slice (some ⟨m3, 0, none⟩) (j + 1) q3) v4 v5 v7 [((.slice (some ⟨m1, 0, none⟩) (j + 1) q1), 3, j + 1, (kindL p (j + 1)).map (Value.int .i64)), ((.slice (some ⟨m2, 0, none⟩) (j + 1) q2), 3, j + 1, (kindL p (j + 1)).map (Value.int .i64)), ((.slice (some ⟨m3, 0, none⟩) (j + 1) q3), 3, j + 1, (List.replicate (j + 1) (0 : Int)).map (Value.int .i64)), (z1, 4, j + 1, (List.replicate (j + 1) false).map Value.bool), (z2, 4, j + 1, (List.replicate (j + 1) false).map Value.bool), (z3, 4, j + 1, (List.replicate (j + 1) false).map Value.bool)] → wpOb Try.prog .any OPS R (SF (w.heap.size + 1) 12 13 15 v4 v5 v7) (obF 21) 9 #[true, true, true, true, true, true, true, true, true, true, true, true, true, true, true, true, true, true, true, true, true, false, false, false, false, false, false, false, false, false] ((((((A.put (some 59) (.slice (some ⟨g1, 0, none⟩) 1 1)).put (some 60) z1).put (some 65) (.slice (some ⟨g2, 0, none⟩) 1 1)).put (some 66) z2).put (some 71) (.slice (some ⟨g3, 0, none⟩) 1 1)).put (some 72) z3) w' := by
            intro w' g1 g2 g3 z1 z2 z3 hc
            have hr1 : w'.ownsRow (w.heap.size + 1 + 1) 4 1 z1 (j + 1) ((List.replicate (j + 1) false).map (Value.bool)) := hc.own (k := 3) rfl
            obtain ⟨n1, s1, rfl, _, _⟩ := own_shape hr1 (Nat.succ_pos j)
            clear hr1
            have hr2 : w'.ownsRow (w.heap.size + 1 + 1) 4 1 z2 (j + 1) ((List.replicate (j + 1) false).map (Value.bool)) := hc.own (k := 4) rfl
            obtain ⟨n2, s2, rfl, _, _⟩ := own_shape hr2 (Nat.succ_pos j)
            clear hr2
            have hr3 : w'.ownsRow (w.heap.size + 1 + 1) 4 1 z3 (j + 1) ((List.replicate (j + 1) false).map (Value.bool)) := hc.own (k := 5) rfl
            obtain ⟨n3, s3, rfl, _, _⟩ := own_shape hr3 (Nat.succ_pos j)
            clear hr3
            subst hO
            subst hR
            subst hA
            (try simp only [Act.put, List.setIfInBounds_toArray, List.set_cons_zero, List.set_cons_succ])
            clear hS0 hsz e58 e64 e70 c9 c10 c11 c12 c13 c15
            have fz : ∀ o, w'.frozen? ⟨w.heap.size + 1, o, none⟩ = false := fun o => frozen_of_row w' (w.heap.size + 1) o _ _ hc.box
            have hbl : w.heap.size + 1 < w'.heap.size := hc.size
            obtain ⟨c9, c10, c11, c12, c13, c15⟩ := hc.cells
            have Hc2 := Lib.hid hc; clear hc
            refine ob_step (i := 21) (by kernel_rfl) rfl (fun K hK => ?_)
            go_simp
            refine hK _ _ (fun h => absurd h (by decide)) ?_
            clear hK K
            (try simp only [List.setIfInBounds_toArray, List.set_cons_zero, List.set_cons_succ])
            refine ob_step (i := 22) (by kernel_rfl) rfl (fun K hK => ?_)
            go_simp
            refine hK _ _ (fun h => absurd h (by decide)) ?_
            clear hK K
            (try simp only [List.setIfInBounds_toArray, List.set_cons_zero, List.set_cons_succ])
            refine ob_step (i := 23) (by kernel_rfl) rfl (fun K hK => ?_)
            go_simp
            refine hK _ _ (fun h => absurd h (by decide)) ?_
            clear hK K
            (try simp only [List.setIfInBounds_toArray, List.set_cons_zero, List.set_cons_succ])
            refine ob_step (i := 24) (by kernel_rfl) rfl (fun K hK => ?_)
            go_simp
            refine hK _ _ (fun h => absurd h (by decide)) ?_
            clear hK K
            (try simp only [List.setIfInBounds_toArray, List.set_cons_zero, List.set_cons_succ])
            refine ob_step (i := 25) (by kernel_rfl) rfl (fun K hK => ?_)
            go_simp
            refine hK _ _ (fun h => absurd h (by decide)) ?_
            clear hK K
            (try simp only [List.setIfInBounds_toArray, List.set_cons_zero, List.set_cons_succ])
            refine ob_step (i := 26) (by kernel_rfl) rfl (fun K hK => ?_)
            go_simp
            refine hK _ _ (fun h => absurd h (by decide)) ?_
            clear hK K
            (try simp only [List.setIfInBounds_toArray, List.set_cons_zero, List.set_cons_succ])
            refine ob_step (i := 27) (by kernel_rfl) rfl (fun K hK => ?_)
            go_simp
            refine hK _ _ (fun h => absurd h (by decide)) ?_
            clear hK K
            (try simp only [List.setIfInBounds_toArray, List.set_cons_zero, List.set_cons_succ])
            refine ob_step (i := 28) (by kernel_rfl) rfl (fun K hK => ?_)
            go_simp
            refine hK _ _ (fun h => absurd h (by decide)) ?_
            clear hK K
            (try simp only [List.setIfInBounds_toArray, List.set_cons_zero, List.set_cons_succ])
            refine ob_step (i := 29) (by kernel_rfl) rfl (fun K hK => ?_)
            go_simp
            refine hK _ _ (fun h => absurd h (by decide)) ?_
            clear hK K
            (try simp only [List.setIfInBounds_toArray, List.set_cons_zero, List.set_cons_succ])
            refine ob_done (by kernel_rfl) (NoPanic.normal ?_) _
            go_wp2_with fail
            go_roundg (ne - j - 1)
            case measure => have := Hk.out; omega
            case rel =>
              have hz := Hc2.out.put9 (.slice (some ⟨n1, 0, none⟩) (j + 1) s1) (.slice (some ⟨n2, 0, none⟩) (j + 1) s2) (.slice (some ⟨n3, 0, none⟩) (j + 1) s3)
              first
              | exact ⟨j + 1, _, _, _, _, _, _, by have := Hk.out; omega, by go_num, hz.box, hz.rows, hz.below⟩
              | exact ⟨j + 1, _, _, _, _, _, _, by have := Hk.out; omega, by go_num, hz.drew.box, hz.drew.rows, hz.drew.below⟩
          have st1112 : ∀ (w' : World) (g1 g2 g3 : Nat) (z1 z2 : Value), NC W0 w' (w.heap.size + 1) ⟨ae, ne, ce, aj, nj, cj, as_, ns, cs, al, nl, cl, lv⟩ p (.slice (some ⟨m1, 0, none⟩) (j + 1) q1) (.slice (some ⟨m2, 0, none⟩) (j + 1) q2) (.slice (some ⟨m3, 0, none⟩) (j + 1) q3) v4 v5 v7 [((.slice (some ⟨m1, 0, none⟩) (j + 1) q1), 3, j + 1, (kindL p (j + 1)).map (Value.int .i64)), ((.slice (some ⟨m2, 0, none⟩) (j + 1) q2), 3, j + 1, (kindL p (j + 1)).map (Value.int .i64)), ((.slice (some ⟨m3, 0, none⟩) (j + 1) q3), 3, j + 1, (List.replicate (j + 1) (0 : Int)).map (Value.int .i64)), (z1, 4, j + 1, (List.replicate (j + 1) false).map Value.bool), (z2, 4, j + 1, (List.replicate (j + 1) false).map Value.bool), (v7, 4, j, (List.replicate j false).map Value.bool)] → PendF w' (w.heap.size + 1 + 1) [((.slice (some ⟨m1, 0, none⟩) (j + 1) q1), 3, j + 1, (kindL p (j + 1)).map (Value.int .i64)), ((.slice (some ⟨m2, 0, none⟩) (j + 1) q2), 3, j + 1, (kindL p (j + 1)).map (Value.int .i64)), ((.slice (some ⟨m3, 0, none⟩) (j + 1) q3), 3, j + 1, (List.replicate (j + 1) (0 : Int)).map (Value.int .i64)), (z1, 4, j + 1, (List.replicate (j + 1) false).map Value.bool), (z2, 4, j + 1, (List.replicate (j + 1) false).map Value.bool), (v7, 4, j, (List.replicate j false).map Value.bool)] g3 4 (.bool false) → wpOb Try.prog .any OPS R (SF (w.heap.size + 1) 12 13 15 v4 v5 v7) (obF 21) 10 #[true, true, true, true, true, true, true, true, true, true, true, true, true, true, true, true, true, true, true, true, false, false, false, false, false, false, false, false, false, false] (((((A.put (some 59) (.slice (some ⟨g1, 0, none⟩) 1 1)).put (some 60) z1).put (some 65) (.slice (some ⟨g2, 0, none⟩) 1 1)).put (some 66) z2).put (some 71) (.slice (some ⟨g3, 0, none⟩) 1 1)) w' := by
            intro w' g1 g2 g3 z1 z2 hc hp3
            refine ob_some (js := [20]) (by rw [hO]; kernel_rfl) (by simp) (fun i hi => ?_)
            simp only [List.mem_cons, List.not_mem_nil, or_false] at hi
            subst hi
            · refine ⟨_, (by rw [hO]; rfl), fun K hK => ?_⟩
              refine step_app (enc := encBool) (fun _ => rfl) encBool1 w' (by rfl) _ _ 42 (by rfl) (w.heap.size + 1 + 1) 4 (.bool false) 1 Try.underlying42 info_boolF rfl (by decide) v7 j (List.replicate j false) (by simp [ev_put, put_size, hsz, e70]) (by rw [flat_bools]; exact hc.own (k := 5) rfl) (some ⟨g3, 0, none⟩) 1 1 [false] (by simp [ev_put, put_size, hsz]) hp3.rowB (by intro h; cases h) (by simp [maxLen]; omega) (by omega) hc.size ?_
              intro z3 w2 hz hg _ hb
              rw [flat_bools] at hz
              have hc2 := hc.app (k := 5) (z := z3) (e := 4) (n := j + 1) (xs := (List.replicate (j + 1) false).map (Value.bool)) rfl (by rw [List.replicate_succ']; exact hz) hg hb
              refine hK _ _ (fun _ => ⟨hc2.cells.2.2.2.1, hc2.cells.2.2.2.2.1, hc2.cells.2.2.2.2.2⟩) ?_
              have hn := st1113 w2 g1 g2 g3 z1 z2 z3 hc2
              exact hn
          have st1102 : ∀ (w' : World) (g1 g2 : Nat) (z1 z2 : Value), NC W0 w' (w.heap.size + 1) ⟨ae, ne, ce, aj, nj, cj, as_, ns, cs, al, nl, cl, lv⟩ p (.slice (some ⟨m1, 0, none⟩) (j + 1) q1) (.slice (some ⟨m2, 0, none⟩) (j + 1) q2) (.slice (some ⟨m3, 0, none⟩) (j + 1) q3) v4 v5 v7 [((.slice (some ⟨m1, 0, none⟩) (j + 1) q1), 3, j + 1, (kindL p (j + 1)).map (Value.int .i64)), ((.slice (some ⟨m2, 0, none⟩) (j + 1) q2), 3, j + 1, (kindL p (j + 1)).map (Value.int .i64)), ((.slice (some ⟨m3, 0, none⟩) (j + 1) q3), 3, j + 1, (List.replicate (j + 1) (0 : Int)).map (Value.int .i64)), (z1, 4, j + 1, (List.replicate (j + 1) false).map Value.bool), (z2, 4, j + 1, (List.replicate (j + 1) false).map Value.bool), (v7, 4, j, (List.replicate j false).map Value.bool)] → wpOb Try.prog .any OPS R (SF (w.heap.size + 1) 12 13 15 v4 v5 v7) (obF 21) 11 #[true, true, true, true, true, true, true, true, true, true, true, true, true, true, true, true, true, true, true, false, false, false, false, false, false, false, false, false, false, false] ((((A.put (some 59) (.slice (some ⟨g1, 0, none⟩) 1 1)).put (some 60) z1).put (some 65) (.slice (some ⟨g2, 0, none⟩) 1 1)).put (some 66) z2) w' := by
            intro w' g1 g2 z1 z2 hc
            refine ob_some (js := [19]) (by rw [hO]; kernel_rfl) (by simp) (fun i hi => ?_)
            simp only [List.mem_cons, List.not_mem_nil, or_false] at hi
            subst hi
            · refine ⟨_, (by rw [hO]; rfl), fun K hK => ?_⟩
              refine step_build1 w' (by rfl) 42 4 _ (by rfl) ii (.bool false) Try.underlying42 hii zi1 zi2 (.bool false) (by rfl) (fillB) ?_
              have hc2 := hc.alloc (.cells #[.bool false] 4)
              refine hK _ _ (fun _ => ⟨hc2.cells.2.2.2.1, hc2.cells.2.2.2.2.1, hc2.cells.2.2.2.2.2⟩) ?_
              have hn := st1112 (w'.alloc (.cells #[.bool false] 4)) g1 g2 w'.heap.size z1 z2 hc2 (hc.pend 4 (.bool false))
              exact hn
          have st1111 : ∀ (w' : World) (g1 g2 g3 : Nat) (z1 : Value), NC W0 w' (w.heap.size + 1) ⟨ae, ne, ce, aj, nj, cj, as_, ns, cs, al, nl, cl, lv⟩ p (.slice (some ⟨m1, 0, none⟩) (j + 1) q1) (.slice (some ⟨m2, 0, none⟩) (j + 1) q2) (.slice (some ⟨m3, 0, none⟩) (j + 1) q3) v4 v5 v7 [((.slice (some ⟨m1, 0, none⟩) (j + 1) q1), 3, j + 1, (kindL p (j + 1)).map (Value.int .i64)), ((.slice (some ⟨m2, 0, none⟩) (j + 1) q2), 3, j + 1, (kindL p (j + 1)).map (Value.int .i64)), ((.slice (some ⟨m3, 0, none⟩) (j + 1) q3), 3, j + 1, (List.replicate (j + 1) (0 : Int)).map (Value.int .i64)), (z1, 4, j + 1, (List.replicate (j + 1) false).map Value.bool), (v5, 4, j, (List.replicate j false).map Value.bool), (v7, 4, j, (List.replicate j false).map Value.bool)] → PendF w' (w.heap.size + 1 + 1) [((.slice (some ⟨m1, 0, none⟩) (j + 1) q1), 3, j + 1, (kindL p (j + 1)).map (Value.int .i64)), ((.slice (some ⟨m2, 0, none⟩) (j + 1) q2), 3, j + 1, (kindL p (j + 1)).map (Value.int .i64)), ((.slice (some ⟨m3, 0, none⟩) (j + 1) q3), 3, j + 1, (List.replicate (j + 1) (0 : Int)).map (Value.int .i64)), (z1, 4, j + 1, (List.replicate (j + 1) false).map Value.bool), (v5, 4, j, (List.replicate j false).map Value.bool), (v7, 4, j, (List.replicate j false).map Value.bool)] g2 4 (.bool false) → PendF w' (w.heap.size + 1 + 1) [((.slice (some ⟨m1, 0, none⟩) (j + 1) q1), 3, j + 1, (kindL p (j + 1)).map (Value.int .i64)), ((.slice (some ⟨m2, 0, none⟩) (j + 1) q2), 3, j + 1, (kindL p (j + 1)).map (Value.int .i64)), ((.slice (some ⟨m3, 0, none⟩) (j + 1) q3), 3, j + 1, (List.replicate (j + 1) (0 : Int)).map (Value.int .i64)), (z1, 4, j + 1, (List.replicate (j + 1) false).map Value.bool), (v5, 4, j, (List.replicate j false).map Value.bool), (v7, 4, j, (List.replicate j false).map Value.bool)] g3 4 (.bool false) → wpOb Try.prog .any OPS R (SF (w.heap.size + 1) 12 13 15 v4 v5 v7) (obF 21) 11 #[true, true, true, true, true, true, true, true, true, true, true, true, true, true, false, true, true, true, true, true, false, false, false, false, false, false, false, false, false, false] ((((A.put (some 59) (.slice (some ⟨g1, 0, none⟩) 1 1)).put (some 60) z1).put (some 65) (.slice (some ⟨g2, 0, none⟩) 1 1)).put (some 71) (.slice (some ⟨g3, 0, none⟩) 1 1)) w' := by
            intro w' g1 g2 g3 z1 hc hp2 hp3
            refine ob_some (js := [14]) (by rw [hO]; kernel_rfl) (by simp) (fun i hi => ?_)
            simp only [List.mem_cons, List.not_mem_nil, or_false] at hi
            subst hi
            · refine ⟨_, (by rw [hO]; rfl), fun K hK => ?_⟩
              refine step_app (enc := encBool) (fun _ => rfl) encBool1 w' (by rfl) _ _ 42 (by rfl) (w.heap.size + 1 + 1) 4 (.bool false) 1 Try.underlying42 info_boolF rfl (by decide) v5 j (List.replicate j false) (by simp [ev_put, put_size, hsz, e64]) (by rw [flat_bools]; exact hc.own (k := 4) rfl) (some ⟨g2, 0, none⟩) 1 1 [false] (by simp [ev_put, put_size, hsz]) hp2.rowB (by intro h; cases h) (by simp [maxLen]; omega) (by omega) hc.size ?_
              intro z2 w2 hz hg _ hb
              rw [flat_bools] at hz
              have hc2 := hc.app (k := 4) (z := z2) (e := 4) (n := j + 1) (xs := (List.replicate (j + 1) false).map (Value.bool)) rfl (by rw [List.replicate_succ']; exact hz) hg hb
              refine hK _ _ (fun _ => ⟨hc2.cells.2.2.2.1, hc2.cells.2.2.2.2.1, hc2.cells.2.2.2.2.2⟩) ?_
              have hn := st1112 w2 g1 g2 g3 z1 z2 hc2 (hp3.app (k := 4) (z := z2) rfl hg hb)
              rw [put_swap _ (show (66 : Nat) ≠ 71 from by decide)] at hn
              exact hn
          have st1011 : ∀ (w' : World) (g1 g3 : Nat) (z1 : Value), NC W0 w' (w.heap.size + 1) ⟨ae, ne, ce, aj, nj, cj, as_, ns, cs, al, nl, cl, lv⟩ p (.slice (some ⟨m1, 0, none⟩) (j + 1) q1) (.slice (some ⟨m2, 0, none⟩) (j + 1) q2) (.slice (some ⟨m3, 0, none⟩) (j + 1) q3) v4 v5 v7 [((.slice (some ⟨m1, 0, none⟩) (j + 1) q1), 3, j + 1, (kindL p (j + 1)).map (Value.int .i64)), ((.slice (some ⟨m2, 0, none⟩) (j + 1) q2), 3, j + 1, (kindL p (j + 1)).map (Value.int .i64)), ((.slice (some ⟨m3, 0, none⟩) (j + 1) q3), 3, j + 1, (List.replicate (j + 1) (0 : Int)).map (Value.int .i64)), (z1, 4, j + 1, (List.replicate (j + 1) false).map Value.bool), (v5, 4, j, (List.replicate j false).map Value.bool), (v7, 4, j, (List.replicate j false).map Value.bool)] → PendF w' (w.heap.size + 1 + 1) [((.slice (some ⟨m1, 0, none⟩) (j + 1) q1), 3, j + 1, (kindL p (j + 1)).map (Value.int .i64)), ((.slice (some ⟨m2, 0, none⟩) (j + 1) q2), 3, j + 1, (kindL p (j + 1)).map (Value.int .i64)), ((.slice (some ⟨m3, 0, none⟩) (j + 1) q3), 3, j + 1, (List.replicate (j + 1) (0 : Int)).map (Value.int .i64)), (z1, 4, j + 1, (List.replicate (j + 1) false).map Value.bool), (v5, 4, j, (List.replicate j false).map Value.bool), (v7, 4, j, (List.replicate j false).map Value.bool)] g3 4 (.bool false) → wpOb Try.prog .any OPS R (SF (w.heap.size + 1) 12 13 15 v4 v5 v7) (obF 21) 12 #[true, true, true, true, true, true, true, true, true, true, true, true, true, false, false, true, true, true, true, true, false, false, false, false, false, false, false, false, false, false] (((A.put (some 59) (.slice (some ⟨g1, 0, none⟩) 1 1)).put (some 60) z1).put (some 71) (.slice (some ⟨g3, 0, none⟩) 1 1)) w' := by
            intro w' g1 g3 z1 hc hp3
            refine ob_some (js := [13]) (by rw [hO]; kernel_rfl) (by simp) (fun i hi => ?_)
            simp only [List.mem_cons, List.not_mem_nil, or_false] at hi
            subst hi
            · refine ⟨_, (by rw [hO]; rfl), fun K hK => ?_⟩
              refine step_build1 w' (by rfl) 42 4 _ (by rfl) ii (.bool false) Try.underlying42 hii zi1 zi2 (.bool false) (by rfl) (fillB) ?_
              have hc2 := hc.alloc (.cells #[.bool false] 4)
              refine hK _ _ (fun _ => ⟨hc2.cells.2.2.2.1, hc2.cells.2.2.2.2.1, hc2.cells.2.2.2.2.2⟩) ?_
              have hn := st1111 (w'.alloc (.cells #[.bool false] 4)) g1 w'.heap.size g3 z1 hc2 (hc.pend 4 (.bool false)) (hp3.alloc _)
              rw [put_swap _ (show (65 : Nat) ≠ 71 from by decide)] at hn
              exact hn
          have st1101 : ∀ (w' : World) (g1 g2 : Nat) (z1 : Value), NC W0 w' (w.heap.size + 1) ⟨ae, ne, ce, aj, nj, cj, as_, ns, cs, al, nl, cl, lv⟩ p (.slice (some ⟨m1, 0, none⟩) (j + 1) q1) (.slice (some ⟨m2, 0, none⟩) (j + 1) q2) (.slice (some ⟨m3, 0, none⟩) (j + 1) q3) v4 v5 v7 [((.slice (some ⟨m1, 0, none⟩) (j + 1) q1), 3, j + 1, (kindL p (j + 1)).map (Value.int .i64)), ((.slice (some ⟨m2, 0, none⟩) (j + 1) q2), 3, j + 1, (kindL p (j + 1)).map (Value.int .i64)), ((.slice (some ⟨m3, 0, none⟩) (j + 1) q3), 3, j + 1, (List.replicate (j + 1) (0 : Int)).map (Value.int .i64)), (z1, 4, j + 1, (List.replicate (j + 1) false).map Value.bool), (v5, 4, j, (List.replicate j false).map Value.bool), (v7, 4, j, (List.replicate j false).map Value.bool)] → PendF w' (w.heap.size + 1 + 1) [((.slice (some ⟨m1, 0, none⟩) (j + 1) q1), 3, j + 1, (kindL p (j + 1)).map (Value.int .i64)), ((.slice (some ⟨m2, 0, none⟩) (j + 1) q2), 3, j + 1, (kindL p (j + 1)).map (Value.int .i64)), ((.slice (some ⟨m3, 0, none⟩) (j + 1) q3), 3, j + 1, (List.replicate (j + 1) (0 : Int)).map (Value.int .i64)), (z1, 4, j + 1, (List.replicate (j + 1) false).map Value.bool), (v5, 4, j, (List.replicate j false).map Value.bool), (v7, 4, j, (List.replicate j false).map Value.bool)] g2 4 (.bool false) → wpOb Try.prog .any OPS R (SF (w.heap.size + 1) 12 13 15 v4 v5 v7) (obF 21) 12 #[true, true, true, true, true, true, true, true, true, true, true, true, true, true, false, true, true, true, true, false, false, false, false, false, false, false, false, false, false, false] (((A.put (some 59) (.slice (some ⟨g1, 0, none⟩) 1 1)).put (some 60) z1).put (some 65) (.slice (some ⟨g2, 0, none⟩) 1 1)) w' := by
            intro w' g1 g2 z1 hc hp2
            refine ob_some (js := [14, 19]) (by rw [hO]; kernel_rfl) (by simp) (fun i hi => ?_)
            simp only [List.mem_cons, List.not_mem_nil, or_false] at hi
            rcases hi with rfl | rfl
            · refine ⟨_, (by rw [hO]; rfl), fun K hK => ?_⟩
              refine step_app (enc := encBool) (fun _ => rfl) encBool1 w' (by rfl) _ _ 42 (by rfl) (w.heap.size + 1 + 1) 4 (.bool false) 1 Try.underlying42 info_boolF rfl (by decide) v5 j (List.replicate j false) (by simp [ev_put, put_size, hsz, e64]) (by rw [flat_bools]; exact hc.own (k := 4) rfl) (some ⟨g2, 0, none⟩) 1 1 [false] (by simp [ev_put, put_size, hsz]) hp2.rowB (by intro h; cases h) (by simp [maxLen]; omega) (by omega) hc.size ?_
              intro z2 w2 hz hg _ hb
              rw [flat_bools] at hz
              have hc2 := hc.app (k := 4) (z := z2) (e := 4) (n := j + 1) (xs := (List.replicate (j + 1) false).map (Value.bool)) rfl (by rw [List.replicate_succ']; exact hz) hg hb
              refine hK _ _ (fun _ => ⟨hc2.cells.2.2.2.1, hc2.cells.2.2.2.2.1, hc2.cells.2.2.2.2.2⟩) ?_
              have hn := st1102 w2 g1 g2 z1 z2 hc2
              exact hn
            · refine ⟨_, (by rw [hO]; rfl), fun K hK => ?_⟩
              refine step_build1 w' (by rfl) 42 4 _ (by rfl) ii (.bool false) Try.underlying42 hii zi1 zi2 (.bool false) (by rfl) (fillB) ?_
              have hc2 := hc.alloc (.cells #[.bool false] 4)
              refine hK _ _ (fun _ => ⟨hc2.cells.2.2.2.1, hc2.cells.2.2.2.2.1, hc2.cells.2.2.2.2.2⟩) ?_
              have hn := st1111 (w'.alloc (.cells #[.bool false] 4)) g1 g2 w'.heap.size z1 hc2 (hp2.alloc _) (hc.pend 4 (.bool false))
              exact hn
          have st1110 : ∀ (w' : World) (g1 g2 g3 : Nat), NC W0 w' (w.heap.size + 1) ⟨ae, ne, ce, aj, nj, cj, as_, ns, cs, al, nl, cl, lv⟩ p (.slice (some ⟨m1, 0, none⟩) (j + 1) q1) (.slice (some ⟨m2, 0, none⟩) (j + 1) q2) (.slice (some ⟨m3, 0, none⟩) (j + 1) q3) v4 v5 v7 [((.slice (some ⟨m1, 0, none⟩) (j + 1) q1), 3, j + 1, (kindL p (j + 1)).map (Value.int .i64)), ((.slice (some ⟨m2, 0, none⟩) (j + 1) q2), 3, j + 1, (kindL p (j + 1)).map (Value.int .i64)), ((.slice (some ⟨m3, 0, none⟩) (j + 1) q3), 3, j + 1, (List.replicate (j + 1) (0 : Int)).map (Value.int .i64)), (v4, 4, j, (List.replicate j false).map Value.bool), (v5, 4, j, (List.replicate j false).map Value.bool), (v7, 4, j, (List.replicate j false).map Value.bool)] → PendF w' (w.heap.size + 1 + 1) [((.slice (some ⟨m1, 0, none⟩) (j + 1) q1), 3, j + 1, (kindL p (j + 1)).map (Value.int .i64)), ((.slice (some ⟨m2, 0, none⟩) (j + 1) q2), 3, j + 1, (kindL p (j + 1)).map (Value.int .i64)), ((.slice (some ⟨m3, 0, none⟩) (j + 1) q3), 3, j + 1, (List.replicate (j + 1) (0 : Int)).map (Value.int .i64)), (v4, 4, j, (List.replicate j false).map Value.bool), (v5, 4, j, (List.replicate j false).map Value.bool), (v7, 4, j, (List.replicate j false).map Value.bool)] g1 4 (.bool false) → PendF w' (w.heap.size + 1 + 1) [((.slice (some ⟨m1, 0, none⟩) (j + 1) q1), 3, j + 1, (kindL p (j + 1)).map (Value.int .i64)), ((.slice (some ⟨m2, 0, none⟩) (j + 1) q2), 3, j + 1, (kindL p (j + 1)).map (Value.int .i64)), ((.slice (some ⟨m3, 0, none⟩) (j + 1) q3), 3, j + 1, (List.replicate (j + 1) (0 : Int)).map (Value.int .i64)), (v4, 4, j, (List.replicate j false).map Value.bool), (v5, 4, j, (List.replicate j false).map Value.bool), (v7, 4, j, (List.replicate j false).map Value.bool)] g2 4 (.bool false) → PendF w' (w.heap.size + 1 + 1) [((.slice (some ⟨m1, 0, none⟩) (j + 1) q1), 3, j + 1, (kindL p (j + 1)).map (Value.int .i64)), ((.slice (some ⟨m2, 0, none⟩) (j + 1) q2), 3, j + 1, (kindL p (j + 1)).map (Value.int .i64)), ((.slice (some ⟨m3, 0, none⟩) (j + 1) q3), 3, j + 1, (List.replicate (j + 1) (0 : Int)).map (Value.int .i64)), (v4, 4, j, (List.replicate j false).map Value.bool), (v5, 4, j, (List.replicate j false).map Value.bool), (v7, 4, j, (List.replicate j false).map Value.bool)] g3 4 (.bool false) → wpOb Try.prog .any OPS R (SF (w.heap.size + 1) 12 13 15 v4 v5 v7) (obF 21) 12 #[true, true, true, true, true, true, true, true, false, true, true, true, true, true, false, true, true, true, true, true, false, false, false, false, false, false, false, false, false, false] (((A.put (some 59) (.slice (some ⟨g1, 0, none⟩) 1 1)).put (some 65) (.slice (some ⟨g2, 0, none⟩) 1 1)).put (some 71) (.slice (some ⟨g3, 0, none⟩) 1 1)) w' := by
            intro w' g1 g2 g3 hc hp1 hp2 hp3
            refine ob_some (js := [8]) (by rw [hO]; kernel_rfl) (by simp) (fun i hi => ?_)
            simp only [List.mem_cons, List.not_mem_nil, or_false] at hi
            subst hi
            · refine ⟨_, (by rw [hO]; rfl), fun K hK => ?_⟩
              refine step_app (enc := encBool) (fun _ => rfl) encBool1 w' (by rfl) _ _ 42 (by rfl) (w.heap.size + 1 + 1) 4 (.bool false) 1 Try.underlying42 info_boolF rfl (by decide) v4 j (List.replicate j false) (by simp [ev_put, put_size, hsz, e58]) (by rw [flat_bools]; exact hc.own (k := 3) rfl) (some ⟨g1, 0, none⟩) 1 1 [false] (by simp [ev_put, put_size, hsz]) hp1.rowB (by intro h; cases h) (by simp [maxLen]; omega) (by omega) hc.size ?_
              intro z1 w2 hz hg _ hb
              rw [flat_bools] at hz
              have hc2 := hc.app (k := 3) (z := z1) (e := 4) (n := j + 1) (xs := (List.replicate (j + 1) false).map (Value.bool)) rfl (by rw [List.replicate_succ']; exact hz) hg hb
              refine hK _ _ (fun _ => ⟨hc2.cells.2.2.2.1, hc2.cells.2.2.2.2.1, hc2.cells.2.2.2.2.2⟩) ?_
              have hn := st1111 w2 g1 g2 g3 z1 hc2 (hp2.app (k := 3) (z := z1) rfl hg hb) (hp3.app (k := 3) (z := z1) rfl hg hb)
              rw [put_swap _ (show (60 : Nat) ≠ 65 from by decide), put_swap _ (show (60 : Nat) ≠ 71 from by decide)] at hn
              exact hn
          have st0110 : ∀ (w' : World) (g2 g3 : Nat), NC W0 w' (w.heap.size + 1) ⟨ae, ne, ce, aj, nj, cj, as_, ns, cs, al, nl, cl, lv⟩ p (.slice (some ⟨m1, 0, none⟩) (j + 1) q1) (.slice (some ⟨m2, 0, none⟩) (j + 1) q2) (.slice (some ⟨m3, 0, none⟩) (j + 1) q3) v4 v5 v7 [((.slice (some ⟨m1, 0, none⟩) (j + 1) q1), 3, j + 1, (kindL p (j + 1)).map (Value.int .i64)), ((.slice (some ⟨m2, 0, none⟩) (j + 1) q2), 3, j + 1, (kindL p (j + 1)).map (Value.int .i64)), ((.slice (some ⟨m3, 0, none⟩) (j + 1) q3), 3, j + 1, (List.replicate (j + 1) (0 : Int)).map (Value.int .i64)), (v4, 4, j, (List.replicate j false).map Value.bool), (v5, 4, j, (List.replicate j false).map Value.bool), (v7, 4, j, (List.replicate j false).map Value.bool)] → PendF w' (w.heap.size + 1 + 1) [((.slice (some ⟨m1, 0, none⟩) (j + 1) q1), 3, j + 1, (kindL p (j + 1)).map (Value.int .i64)), ((.slice (some ⟨m2, 0, none⟩) (j + 1) q2), 3, j + 1, (kindL p (j + 1)).map (Value.int .i64)), ((.slice (some ⟨m3, 0, none⟩) (j + 1) q3), 3, j + 1, (List.replicate (j + 1) (0 : Int)).map (Value.int .i64)), (v4, 4, j, (List.replicate j false).map Value.bool), (v5, 4, j, (List.replicate j false).map Value.bool), (v7, 4, j, (List.replicate j false).map Value.bool)] g2 4 (.bool false) → PendF w' (w.heap.size + 1 + 1) [((.slice (some ⟨m1, 0, none⟩) (j + 1) q1), 3, j + 1, (kindL p (j + 1)).map (Value.int .i64)), ((.slice (some ⟨m2, 0, none⟩) (j + 1) q2), 3, j + 1, (kindL p (j + 1)).map (Value.int .i64)), ((.slice (some ⟨m3, 0, none⟩) (j + 1) q3), 3, j + 1, (List.replicate (j + 1) (0 : Int)).map (Value.int .i64)), (v4, 4, j, (List.replicate j false).map Value.bool), (v5, 4, j, (List.replicate j false).map Value.bool), (v7, 4, j, (List.replicate j false).map Value.bool)] g3 4 (.bool false) → wpOb Try.prog .any OPS R (SF (w.heap.size + 1) 12 13 15 v4 v5 v7) (obF 21) 13 #[true, true, true, true, true, true, true, false, false, true, true, true, true, true, false, true, true, true, true, true, false, false, false, false, false, false, false, false, false, false] ((A.put (some 65) (.slice (some ⟨g2, 0, none⟩) 1 1)).put (some 71) (.slice (some ⟨g3, 0, none⟩) 1 1)) w' := by
            intro w' g2 g3 hc hp2 hp3
            refine ob_some (js := [7]) (by rw [hO]; kernel_rfl) (by simp) (fun i hi => ?_)
            simp only [List.mem_cons, List.not_mem_nil, or_false] at hi
            subst hi
            · refine ⟨_, (by rw [hO]; rfl), fun K hK => ?_⟩
              refine step_build1 w' (by rfl) 42 4 _ (by rfl) ii (.bool false) Try.underlying42 hii zi1 zi2 (.bool false) (by rfl) (fillB) ?_
              have hc2 := hc.alloc (.cells #[.bool false] 4)
              refine hK _ _ (fun _ => ⟨hc2.cells.2.2.2.1, hc2.cells.2.2.2.2.1, hc2.cells.2.2.2.2.2⟩) ?_
              have hn := st1110 (w'.alloc (.cells #[.bool false] 4)) w'.heap.size g2 g3 hc2 (hc.pend 4 (.bool false)) (hp2.alloc _) (hp3.alloc _)
              rw [put_swap _ (show (59 : Nat) ≠ 65 from by decide), put_swap _ (show (59 : Nat) ≠ 71 from by decide)] at hn
              exact hn
          have st1001 : ∀ (w' : World) (g1 : Nat) (z1 : Value), NC W0 w' (w.heap.size + 1) ⟨ae, ne, ce, aj, nj, cj, as_, ns, cs, al, nl, cl, lv⟩ p (.slice (some ⟨m1, 0, none⟩) (j + 1) q1) (.slice (some ⟨m2, 0, none⟩) (j + 1) q2) (.slice (some ⟨m3, 0, none⟩) (j + 1) q3) v4 v5 v7 [((.slice (some ⟨m1, 0, none⟩) (j + 1) q1), 3, j + 1, (kindL p (j + 1)).map (Value.int .i64)), ((.slice (some ⟨m2, 0, none⟩) (j + 1) q2), 3, j + 1, (kindL p (j + 1)).map (Value.int .i64)), ((.slice (some ⟨m3, 0, none⟩) (j + 1) q3), 3, j + 1, (List.replicate (j + 1) (0 : Int)).map (Value.int .i64)), (z1, 4, j + 1, (List.replicate (j + 1) false).map Value.bool), (v5, 4, j, (List.replicate j false).map Value.bool), (v7, 4, j, (List.replicate j false).map Value.bool)] → wpOb Try.prog .any OPS R (SF (w.heap.size + 1) 12 13 15 v4 v5 v7) (obF 21) 13 #[true, true, true, true, true, true, true, true, true, true, true, true, true, false, false, true, true, true, true, false, false, false, false, false, false, false, false, false, false, false] ((A.put (some 59) (.slice (some ⟨g1, 0, none⟩) 1 1)).put (some 60) z1) w' := by
            intro w' g1 z1 hc
            refine ob_some (js := [13, 19]) (by rw [hO]; kernel_rfl) (by simp) (fun i hi => ?_)
            simp only [List.mem_cons, List.not_mem_nil, or_false] at hi
            rcases hi with rfl | rfl
            · refine ⟨_, (by rw [hO]; rfl), fun K hK => ?_⟩
              refine step_build1 w' (by rfl) 42 4 _ (by rfl) ii (.bool false) Try.underlying42 hii zi1 zi2 (.bool false) (by rfl) (fillB) ?_
              have hc2 := hc.alloc (.cells #[.bool false] 4)
              refine hK _ _ (fun _ => ⟨hc2.cells.2.2.2.1, hc2.cells.2.2.2.2.1, hc2.cells.2.2.2.2.2⟩) ?_
              have hn := st1101 (w'.alloc (.cells #[.bool false] 4)) g1 w'.heap.size z1 hc2 (hc.pend 4 (.bool false))
              exact hn
            · refine ⟨_, (by rw [hO]; rfl), fun K hK => ?_⟩
              refine step_build1 w' (by rfl) 42 4 _ (by rfl) ii (.bool false) Try.underlying42 hii zi1 zi2 (.bool false) (by rfl) (fillB) ?_
              have hc2 := hc.alloc (.cells #[.bool false] 4)
              refine hK _ _ (fun _ => ⟨hc2.cells.2.2.2.1, hc2.cells.2.2.2.2.1, hc2.cells.2.2.2.2.2⟩) ?_
              have hn := st1011 (w'.alloc (.cells #[.bool false] 4)) g1 w'.heap.size z1 hc2 (hc.pend 4 (.bool false))
              exact hn
          have st1010 : ∀ (w' : World) (g1 g3 : Nat), NC W0 w' (w.heap.size + 1) ⟨ae, ne, ce, aj, nj, cj, as_, ns, cs, al, nl, cl, lv⟩ p (.slice (some ⟨m1, 0, none⟩) (j + 1) q1) (.slice (some ⟨m2, 0, none⟩) (j + 1) q2) (.slice (some ⟨m3, 0, none⟩) (j + 1) q3) v4 v5 v7 [((.slice (some ⟨m1, 0, none⟩) (j + 1) q1), 3, j + 1, (kindL p (j + 1)).map (Value.int .i64)), ((.slice (some ⟨m2, 0, none⟩) (j + 1) q2), 3, j + 1, (kindL p (j + 1)).map (Value.int .i64)), ((.slice (some ⟨m3, 0, none⟩) (j + 1) q3), 3, j + 1, (List.replicate (j + 1) (0 : Int)).map (Value.int .i64)), (v4, 4, j, (List.replicate j false).map Value.bool), (v5, 4, j, (List.replicate j false).map Value.bool), (v7, 4, j, (List.replicate j false).map Value.bool)] → PendF w' (w.heap.size + 1 + 1) [((.slice (some ⟨m1, 0, none⟩) (j + 1) q1), 3, j + 1, (kindL p (j + 1)).map (Value.int .i64)), ((.slice (some ⟨m2, 0, none⟩) (j + 1) q2), 3, j + 1, (kindL p (j + 1)).map (Value.int .i64)), ((.slice (some ⟨m3, 0, none⟩) (j + 1) q3), 3, j + 1, (List.replicate (j + 1) (0 : Int)).map (Value.int .i64)), (v4, 4, j, (List.replicate j false).map Value.bool), (v5, 4, j, (List.replicate j false).map Value.bool), (v7, 4, j, (List.replicate j false).map Value.bool)] g1 4 (.bool false) → PendF w' (w.heap.size + 1 + 1) [((.slice (some ⟨m1, 0, none⟩) (j + 1) q1), 3, j + 1, (kindL p (j + 1)).map (Value.int .i64)), ((.slice (some ⟨m2, 0, none⟩) (j + 1) q2), 3, j + 1, (kindL p (j + 1)).map (Value.int .i64)), ((.slice (some ⟨m3, 0, none⟩) (j + 1) q3), 3, j + 1, (List.replicate (j + 1) (0 : Int)).map (Value.int .i64)), (v4, 4, j, (List.replicate j false).map Value.bool), (v5, 4, j, (List.replicate j false).map Value.bool), (v7, 4, j, (List.replicate j false).map Value.bool)] g3 4 (.bool false) → wpOb Try.prog .any OPS R (SF (w.heap.size + 1) 12 13 15 v4 v5 v7) (obF 21) 13 #[true, true, true, true, true, true, true, true, false, true, true, true, true, false, false, true, true, true, true, true, false, false, false, false, false, false, false, false, false, false] ((A.put (some 59) (.slice (some ⟨g1, 0, none⟩) 1 1)).put (some 71) (.slice (some ⟨g3, 0, none⟩) 1 1)) w' := by
            intro w' g1 g3 hc hp1 hp3
            refine ob_some (js := [8, 13]) (by rw [hO]; kernel_rfl) (by simp) (fun i hi => ?_)
            simp only [List.mem_cons, List.not_mem_nil, or_false] at hi
            rcases hi with rfl | rfl
            · refine ⟨_, (by rw [hO]; rfl), fun K hK => ?_⟩
              refine step_app (enc := encBool) (fun _ => rfl) encBool1 w' (by rfl) _ _ 42 (by rfl) (w.heap.size + 1 + 1) 4 (.bool false) 1 Try.underlying42 info_boolF rfl (by decide) v4 j (List.replicate j false) (by simp [ev_put, put_size, hsz, e58]) (by rw [flat_bools]; exact hc.own (k := 3) rfl) (some ⟨g1, 0, none⟩) 1 1 [false] (by simp [ev_put, put_size, hsz]) hp1.rowB (by intro h; cases h) (by simp [maxLen]; omega) (by omega) hc.size ?_
              intro z1 w2 hz hg _ hb
              rw [flat_bools] at hz
              have hc2 := hc.app (k := 3) (z := z1) (e := 4) (n := j + 1) (xs := (List.replicate (j + 1) false).map (Value.bool)) rfl (by rw [List.replicate_succ']; exact hz) hg hb
              refine hK _ _ (fun _ => ⟨hc2.cells.2.2.2.1, hc2.cells.2.2.2.2.1, hc2.cells.2.2.2.2.2⟩) ?_
              have hn := st1011 w2 g1 g3 z1 hc2 (hp3.app (k := 3) (z := z1) rfl hg hb)
              rw [put_swap _ (show (60 : Nat) ≠ 71 from by decide)] at hn
              exact hn
            · refine ⟨_, (by rw [hO]; rfl), fun K hK => ?_⟩
              refine step_build1 w' (by rfl) 42 4 _ (by rfl) ii (.bool false) Try.underlying42 hii zi1 zi2 (.bool false) (by rfl) (fillB) ?_
              have hc2 := hc.alloc (.cells #[.bool false] 4)
              refine hK _ _ (fun _ => ⟨hc2.cells.2.2.2.1, hc2.cells.2.2.2.2.1, hc2.cells.2.2.2.2.2⟩) ?_
              have hn := st1110 (w'.alloc (.cells #[.bool false] 4)) g1 w'.heap.size g3 hc2 (hp1.alloc _) (hc.pend 4 (.bool false)) (hp3.alloc _)
              rw [put_swap _ (show (65 : Nat) ≠ 71 from by decide)] at hn
              exact hn
          have st1100 : ∀ (w' : World) (g1 g2 : Nat), NC W0 w' (w.heap.size + 1) ⟨ae, ne, ce, aj, nj, cj, as_, ns, cs, al, nl, cl, lv⟩ p (.slice (some ⟨m1, 0, none⟩) (j + 1) q1) (.slice (some ⟨m2, 0, none⟩) (j + 1) q2) (.slice (some ⟨m3, 0, none⟩) (j + 1) q3) v4 v5 v7 [((.slice (some ⟨m1, 0, none⟩) (j + 1) q1), 3, j + 1, (kindL p (j + 1)).map (Value.int .i64)), ((.slice (some ⟨m2, 0, none⟩) (j + 1) q2), 3, j + 1, (kindL p (j + 1)).map (Value.int .i64)), ((.slice (some ⟨m3, 0, none⟩) (j + 1) q3), 3, j + 1, (List.replicate (j + 1) (0 : Int)).map (Value.int .i64)), (v4, 4, j, (List.replicate j false).map Value.bool), (v5, 4, j, (List.replicate j false).map Value.bool), (v7, 4, j, (List.replicate j false).map Value.bool)] → PendF w' (w.heap.size + 1 + 1) [((.slice (some ⟨m1, 0, none⟩) (j + 1) q1), 3, j + 1, (kindL p (j + 1)).map (Value.int .i64)), ((.slice (some ⟨m2, 0, none⟩) (j + 1) q2), 3, j + 1, (kindL p (j + 1)).map (Value.int .i64)), ((.slice (some ⟨m3, 0, none⟩) (j + 1) q3), 3, j + 1, (List.replicate (j + 1) (0 : Int)).map (Value.int .i64)), (v4, 4, j, (List.replicate j false).map Value.bool), (v5, 4, j, (List.replicate j false).map Value.bool), (v7, 4, j, (List.replicate j false).map Value.bool)] g1 4 (.bool false) → PendF w' (w.heap.size + 1 + 1) [((.slice (some ⟨m1, 0, none⟩) (j + 1) q1), 3, j + 1, (kindL p (j + 1)).map (Value.int .i64)), ((.slice (some ⟨m2, 0, none⟩) (j + 1) q2), 3, j + 1, (kindL p (j + 1)).map (Value.int .i64)), ((.slice (some ⟨m3, 0, none⟩) (j + 1) q3), 3, j + 1, (List.replicate (j + 1) (0 : Int)).map (Value.int .i64)), (v4, 4, j, (List.replicate j false).map Value.bool), (v5, 4, j, (List.replicate j false).map Value.bool), (v7, 4, j, (List.replicate j false).map Value.bool)] g2 4 (.bool false) → wpOb Try.prog .any OPS R (SF (w.heap.size + 1) 12 13 15 v4 v5 v7) (obF 21) 13 #[true, true, true, true, true, true, true, true, false, true, true, true, true, true, false, true, true, true, true, false, false, false, false, false, false, false, false, false, false, false] ((A.put (some 59) (.slice (some ⟨g1, 0, none⟩) 1 1)).put (some 65) (.slice (some ⟨g2, 0, none⟩) 1 1)) w' := by
            intro w' g1 g2 hc hp1 hp2
            refine ob_some (js := [8, 19]) (by rw [hO]; kernel_rfl) (by simp) (fun i hi => ?_)
            simp only [List.mem_cons, List.not_mem_nil, or_false] at hi
            rcases hi with rfl | rfl
            · refine ⟨_, (by rw [hO]; rfl), fun K hK => ?_⟩
              refine step_app (enc := encBool) (fun _ => rfl) encBool1 w' (by rfl) _ _ 42 (by rfl) (w.heap.size + 1 + 1) 4 (.bool false) 1 Try.underlying42 info_boolF rfl (by decide) v4 j (List.replicate j false) (by simp [ev_put, put_size, hsz, e58]) (by rw [flat_bools]; exact hc.own (k := 3) rfl) (some ⟨g1, 0, none⟩) 1 1 [false] (by simp [ev_put, put_size, hsz]) hp1.rowB (by intro h; cases h) (by simp [maxLen]; omega) (by omega) hc.size ?_
              intro z1 w2 hz hg _ hb
              rw [flat_bools] at hz
              have hc2 := hc.app (k := 3) (z := z1) (e := 4) (n := j + 1) (xs := (List.replicate (j + 1) false).map (Value.bool)) rfl (by rw [List.replicate_succ']; exact hz) hg hb
              refine hK _ _ (fun _ => ⟨hc2.cells.2.2.2.1, hc2.cells.2.2.2.2.1, hc2.cells.2.2.2.2.2⟩) ?_
              have hn := st1101 w2 g1 g2 z1 hc2 (hp2.app (k := 3) (z := z1) rfl hg hb)
              rw [put_swap _ (show (60 : Nat) ≠ 65 from by decide)] at hn
              exact hn
            · refine ⟨_, (by rw [hO]; rfl), fun K hK => ?_⟩
              refine step_build1 w' (by rfl) 42 4 _ (by rfl) ii (.bool false) Try.underlying42 hii zi1 zi2 (.bool false) (by rfl) (fillB) ?_
              have hc2 := hc.alloc (.cells #[.bool false] 4)
              refine hK _ _ (fun _ => ⟨hc2.cells.2.2.2.1, hc2.cells.2.2.2.2.1, hc2.cells.2.2.2.2.2⟩) ?_
              have hn := st1110 (w'.alloc (.cells #[.bool false] 4)) g1 g2 w'.heap.size hc2 (hp1.alloc _) (hp2.alloc _) (hc.pend 4 (.bool false))
              exact hn
          have st0010 : ∀ (w' : World) (g3 : Nat), NC W0 w' (w.heap.size + 1) ⟨ae, ne, ce, aj, nj, cj, as_, ns, cs, al, nl, cl, lv⟩ p (.slice (some ⟨m1, 0, none⟩) (j + 1) q1) (.slice (some ⟨m2, 0, none⟩) (j + 1) q2) (.slice (some ⟨m3, 0, none⟩) (j + 1) q3) v4 v5 v7 [((.slice (some ⟨m1, 0, none⟩) (j + 1) q1), 3, j + 1, (kindL p (j + 1)).map (Value.int .i64)), ((.slice (some ⟨m2, 0, none⟩) (j + 1) q2), 3, j + 1, (kindL p (j + 1)).map (Value.int .i64)), ((.slice (some ⟨m3, 0, none⟩) (j + 1) q3), 3, j + 1, (List.replicate (j + 1) (0 : Int)).map (Value.int .i64)), (v4, 4, j, (List.replicate j false).map Value.bool), (v5, 4, j, (List.replicate j false).map Value.bool), (v7, 4, j, (List.replicate j false).map Value.bool)] → PendF w' (w.heap.size + 1 + 1) [((.slice (some ⟨m1, 0, none⟩) (j + 1) q1), 3, j + 1, (kindL p (j + 1)).map (Value.int .i64)), ((.slice (some ⟨m2, 0, none⟩) (j + 1) q2), 3, j + 1, (kindL p (j + 1)).map (Value.int .i64)), ((.slice (some ⟨m3, 0, none⟩) (j + 1) q3), 3, j + 1, (List.replicate (j + 1) (0 : Int)).map (Value.int .i64)), (v4, 4, j, (List.replicate j false).map Value.bool), (v5, 4, j, (List.replicate j false).map Value.bool), (v7, 4, j, (List.replicate j false).map Value.bool)] g3 4 (.bool false) → wpOb Try.prog .any OPS R (SF (w.heap.size + 1) 12 13 15 v4 v5 v7) (obF 21) 14 #[true, true, true, true, true, true, true, false, false, true, true, true, true, false, false, true, true, true, true, true, false, false, false, false, false, false, false, false, false, false] (A.put (some 71) (.slice (some ⟨g3, 0, none⟩) 1 1)) w' := by
            intro w' g3 hc hp3
            refine ob_some (js := [7, 13]) (by rw [hO]; kernel_rfl) (by simp) (fun i hi => ?_)
            simp only [List.mem_cons, List.not_mem_nil, or_false] at hi
            rcases hi with rfl | rfl
            · refine ⟨_, (by rw [hO]; rfl), fun K hK => ?_⟩
              refine step_build1 w' (by rfl) 42 4 _ (by rfl) ii (.bool false) Try.underlying42 hii zi1 zi2 (.bool false) (by rfl) (fillB) ?_
              have hc2 := hc.alloc (.cells #[.bool false] 4)
              refine hK _ _ (fun _ => ⟨hc2.cells.2.2.2.1, hc2.cells.2.2.2.2.1, hc2.cells.2.2.2.2.2⟩) ?_
              have hn := st1010 (w'.alloc (.cells #[.bool false] 4)) w'.heap.size g3 hc2 (hc.pend 4 (.bool false)) (hp3.alloc _)
              rw [put_swap _ (show (59 : Nat) ≠ 71 from by decide)] at hn
              exact hn
            · refine ⟨_, (by rw [hO]; rfl), fun K hK => ?_⟩
              refine step_build1 w' (by rfl) 42 4 _ (by rfl) ii (.bool false) Try.underlying42 hii zi1 zi2 (.bool false) (by rfl) (fillB) ?_
              have hc2 := hc.alloc (.cells #[.bool false] 4)
              refine hK _ _ (fun _ => ⟨hc2.cells.2.2.2.1, hc2.cells.2.2.2.2.1, hc2.cells.2.2.2.2.2⟩) ?_
              have hn := st0110 (w'.alloc (.cells #[.bool false] 4)) w'.heap.size g3 hc2 (hc.pend 4 (.bool false)) (hp3.alloc _)
              rw [put_swap _ (show (65 : Nat) ≠ 71 from by decide)] at hn
              exact hn
          have st0100 : ∀ (w' : World) (g2 : Nat), NC W0 w' (w.heap.size + 1) ⟨ae, ne, ce, aj, nj, cj, as_, ns, cs, al, nl, cl, lv⟩ p (.slice (some ⟨m1, 0, none⟩) (j + 1) q1) (.slice (some ⟨m2, 0, none⟩) (j + 1) q2) (.slice (some ⟨m3, 0, none⟩) (j + 1) q3) v4 v5 v7 [((.slice (some ⟨m1, 0, none⟩) (j + 1) q1), 3, j + 1, (kindL p (j + 1)).map (Value.int .i64)), ((.slice (some ⟨m2, 0, none⟩) (j + 1) q2), 3, j + 1, (kindL p (j + 1)).map (Value.int .i64)), ((.slice (some ⟨m3, 0, none⟩) (j + 1) q3), 3, j + 1, (List.replicate (j + 1) (0 : Int)).map (Value.int .i64)), (v4, 4, j, (List.replicate j false).map Value.bool), (v5, 4, j, (List.replicate j false).map Value.bool), (v7, 4, j, (List.replicate j false).map Value.bool)] → PendF w' (w.heap.size + 1 + 1) [((.slice (some ⟨m1, 0, none⟩) (j + 1) q1), 3, j + 1, (kindL p (j + 1)).map (Value.int .i64)), ((.slice (some ⟨m2, 0, none⟩) (j + 1) q2), 3, j + 1, (kindL p (j + 1)).map (Value.int .i64)), ((.slice (some ⟨m3, 0, none⟩) (j + 1) q3), 3, j + 1, (List.replicate (j + 1) (0 : Int)).map (Value.int .i64)), (v4, 4, j, (List.replicate j false).map Value.bool), (v5, 4, j, (List.replicate j false).map Value.bool), (v7, 4, j, (List.replicate j false).map Value.bool)] g2 4 (.bool false) → wpOb Try.prog .any OPS R (SF (w.heap.size + 1) 12 13 15 v4 v5 v7) (obF 21) 14 #[true, true, true, true, true, true, true, false, false, true, true, true, true, true, false, true, true, true, true, false, false, false, false, false, false, false, false, false, false, false] (A.put (some 65) (.slice (some ⟨g2, 0, none⟩) 1 1)) w' := by
            intro w' g2 hc hp2
            refine ob_some (js := [7, 19]) (by rw [hO]; kernel_rfl) (by simp) (fun i hi => ?_)
            simp only [List.mem_cons, List.not_mem_nil, or_false] at hi
            rcases hi with rfl | rfl
            · refine ⟨_, (by rw [hO]; rfl), fun K hK => ?_⟩
              refine step_build1 w' (by rfl) 42 4 _ (by rfl) ii (.bool false) Try.underlying42 hii zi1 zi2 (.bool false) (by rfl) (fillB) ?_
              have hc2 := hc.alloc (.cells #[.bool false] 4)
              refine hK _ _ (fun _ => ⟨hc2.cells.2.2.2.1, hc2.cells.2.2.2.2.1, hc2.cells.2.2.2.2.2⟩) ?_
              have hn := st1100 (w'.alloc (.cells #[.bool false] 4)) w'.heap.size g2 hc2 (hc.pend 4 (.bool false)) (hp2.alloc _)
              rw [put_swap _ (show (59 : Nat) ≠ 65 from by decide)] at hn
              exact hn
            · refine ⟨_, (by rw [hO]; rfl), fun K hK => ?_⟩
              refine step_build1 w' (by rfl) 42 4 _ (by rfl) ii (.bool false) Try.underlying42 hii zi1 zi2 (.bool false) (by rfl) (fillB) ?_
              have hc2 := hc.alloc (.cells #[.bool false] 4)
              refine hK _ _ (fun _ => ⟨hc2.cells.2.2.2.1, hc2.cells.2.2.2.2.1, hc2.cells.2.2.2.2.2⟩) ?_
              have hn := st0110 (w'.alloc (.cells #[.bool false] 4)) g2 w'.heap.size hc2 (hp2.alloc _) (hc.pend 4 (.bool false))
              exact hn
          have st1000 : ∀ (w' : World) (g1 : Nat), NC W0 w' (w.heap.size + 1) ⟨ae, ne, ce, aj, nj, cj, as_, ns, cs, al, nl, cl, lv⟩ p (.slice (some ⟨m1, 0, none⟩) (j + 1) q1) (.slice (some ⟨m2, 0, none⟩) (j + 1) q2) (.slice (some ⟨m3, 0, none⟩) (j + 1) q3) v4 v5 v7 [((.slice (some ⟨m1, 0, none⟩) (j + 1) q1), 3, j + 1, (kindL p (j + 1)).map (Value.int .i64)), ((.slice (some ⟨m2, 0, none⟩) (j + 1) q2), 3, j + 1, (kindL p (j + 1)).map (Value.int .i64)), ((.slice (some ⟨m3, 0, none⟩) (j + 1) q3), 3, j + 1, (List.replicate (j + 1) (0 : Int)).map (Value.int .i64)), (v4, 4, j, (List.replicate j false).map Value.bool), (v5, 4, j, (List.replicate j false).map Value.bool), (v7, 4, j, (List.replicate j false).map Value.bool)] → PendF w' (w.heap.size + 1 + 1) [((.slice (some ⟨m1, 0, none⟩) (j + 1) q1), 3, j + 1, (kindL p (j + 1)).map (Value.int .i64)), ((.slice (some ⟨m2, 0, none⟩) (j + 1) q2), 3, j + 1, (kindL p (j + 1)).map (Value.int .i64)), ((.slice (some ⟨m3, 0, none⟩) (j + 1) q3), 3, j + 1, (List.replicate (j + 1) (0 : Int)).map (Value.int .i64)), (v4, 4, j, (List.replicate j false).map Value.bool), (v5, 4, j, (List.replicate j false).map Value.bool), (v7, 4, j, (List.replicate j false).map Value.bool)] g1 4 (.bool false) → wpOb Try.prog .any OPS R (SF (w.heap.size + 1) 12 13 15 v4 v5 v7) (obF 21) 14 #[true, true, true, true, true, true, true, true, false, true, true, true, true, false, false, true, true, true, true, false, false, false, false, false, false, false, false, false, false, false] (A.put (some 59) (.slice (some ⟨g1, 0, none⟩) 1 1)) w' := by
            intro w' g1 hc hp1
            refine ob_some (js := [8, 13, 19]) (by rw [hO]; kernel_rfl) (by simp) (fun i hi => ?_)
            simp only [List.mem_cons, List.not_mem_nil, or_false] at hi
            rcases hi with rfl | rfl | rfl
            · refine ⟨_, (by rw [hO]; rfl), fun K hK => ?_⟩
              refine step_app (enc := encBool) (fun _ => rfl) encBool1 w' (by rfl) _ _ 42 (by rfl) (w.heap.size + 1 + 1) 4 (.bool false) 1 Try.underlying42 info_boolF rfl (by decide) v4 j (List.replicate j false) (by simp [ev_put, hsz, e58]) (by rw [flat_bools]; exact hc.own (k := 3) rfl) (some ⟨g1, 0, none⟩) 1 1 [false] (by simp [ev_put, hsz]) hp1.rowB (by intro h; cases h) (by simp [maxLen]; omega) (by omega) hc.size ?_
              intro z1 w2 hz hg _ hb
              rw [flat_bools] at hz
              have hc2 := hc.app (k := 3) (z := z1) (e := 4) (n := j + 1) (xs := (List.replicate (j + 1) false).map (Value.bool)) rfl (by rw [List.replicate_succ']; exact hz) hg hb
              refine hK _ _ (fun _ => ⟨hc2.cells.2.2.2.1, hc2.cells.2.2.2.2.1, hc2.cells.2.2.2.2.2⟩) ?_
              have hn := st1001 w2 g1 z1 hc2
              exact hn
            · refine ⟨_, (by rw [hO]; rfl), fun K hK => ?_⟩
              refine step_build1 w' (by rfl) 42 4 _ (by rfl) ii (.bool false) Try.underlying42 hii zi1 zi2 (.bool false) (by rfl) (fillB) ?_
              have hc2 := hc.alloc (.cells #[.bool false] 4)
              refine hK _ _ (fun _ => ⟨hc2.cells.2.2.2.1, hc2.cells.2.2.2.2.1, hc2.cells.2.2.2.2.2⟩) ?_
              have hn := st1100 (w'.alloc (.cells #[.bool false] 4)) g1 w'.heap.size hc2 (hp1.alloc _) (hc.pend 4 (.bool false))
              exact hn
            · refine ⟨_, (by rw [hO]; rfl), fun K hK => ?_⟩
              refine step_build1 w' (by rfl) 42 4 _ (by rfl) ii (.bool false) Try.underlying42 hii zi1 zi2 (.bool false) (by rfl) (fillB) ?_
              have hc2 := hc.alloc (.cells #[.bool false] 4)
              refine hK _ _ (fun _ => ⟨hc2.cells.2.2.2.1, hc2.cells.2.2.2.2.1, hc2.cells.2.2.2.2.2⟩) ?_
              have hn := st1010 (w'.alloc (.cells #[.bool false] 4)) g1 w'.heap.size hc2 (hp1.alloc _) (hc.pend 4 (.bool false))
              exact hn
          have st0000 : ∀ (w' : World), NC W0 w' (w.heap.size + 1) ⟨ae, ne, ce, aj, nj, cj, as_, ns, cs, al, nl, cl, lv⟩ p (.slice (some ⟨m1, 0, none⟩) (j + 1) q1) (.slice (some ⟨m2, 0, none⟩) (j + 1) q2) (.slice (some ⟨m3, 0, none⟩) (j + 1) q3) v4 v5 v7 [((.slice (some ⟨m1, 0, none⟩) (j + 1) q1), 3, j + 1, (kindL p (j + 1)).map (Value.int .i64)), ((.slice (some ⟨m2, 0, none⟩) (j + 1) q2), 3, j + 1, (kindL p (j + 1)).map (Value.int .i64)), ((.slice (some ⟨m3, 0, none⟩) (j + 1) q3), 3, j + 1, (List.replicate (j + 1) (0 : Int)).map (Value.int .i64)), (v4, 4, j, (List.replicate j false).map Value.bool), (v5, 4, j, (List.replicate j false).map Value.bool), (v7, 4, j, (List.replicate j false).map Value.bool)] → wpOb Try.prog .any OPS R (SF (w.heap.size + 1) 12 13 15 v4 v5 v7) (obF 21) 15 #[true, true, true, true, true, true, true, false, false, true, true, true, true, false, false, true, true, true, true, false, false, false, false, false, false, false, false, false, false, false] A w' := by
            intro w' hc
            refine ob_some (js := [7, 13, 19]) (by rw [hO]; kernel_rfl) (by simp) (fun i hi => ?_)
            simp only [List.mem_cons, List.not_mem_nil, or_false] at hi
            rcases hi with rfl | rfl | rfl
            · refine ⟨_, (by rw [hO]; rfl), fun K hK => ?_⟩
              refine step_build1 w' (by rfl) 42 4 _ (by rfl) ii (.bool false) Try.underlying42 hii zi1 zi2 (.bool false) (by rfl) (fillB) ?_
              have hc2 := hc.alloc (.cells #[.bool false] 4)
              refine hK _ _ (fun _ => ⟨hc2.cells.2.2.2.1, hc2.cells.2.2.2.2.1, hc2.cells.2.2.2.2.2⟩) ?_
              have hn := st1000 (w'.alloc (.cells #[.bool false] 4)) w'.heap.size hc2 (hc.pend 4 (.bool false))
              exact hn
            · refine ⟨_, (by rw [hO]; rfl), fun K hK => ?_⟩
              refine step_build1 w' (by rfl) 42 4 _ (by rfl) ii (.bool false) Try.underlying42 hii zi1 zi2 (.bool false) (by rfl) (fillB) ?_
              have hc2 := hc.alloc (.cells #[.bool false] 4)
              refine hK _ _ (fun _ => ⟨hc2.cells.2.2.2.1, hc2.cells.2.2.2.2.1, hc2.cells.2.2.2.2.2⟩) ?_
              have hn := st0100 (w'.alloc (.cells #[.bool false] 4)) w'.heap.size hc2 (hc.pend 4 (.bool false))
              exact hn
            · refine ⟨_, (by rw [hO]; rfl), fun K hK => ?_⟩
              refine step_build1 w' (by rfl) 42 4 _ (by rfl) ii (.bool false) Try.underlying42 hii zi1 zi2 (.bool false) (by rfl) (fillB) ?_
              have hc2 := hc.alloc (.cells #[.bool false] 4)
              refine hK _ _ (fun _ => ⟨hc2.cells.2.2.2.1, hc2.cells.2.2.2.2.1, hc2.cells.2.2.2.2.2⟩) ?_
              have hn := st0010 (w'.alloc (.cells #[.bool false] 4)) w'.heap.size hc2 (hc.pend 4 (.bool false))
              exact hn
          exact st0000 W9.drew hin9.drew
        have st1112 : ∀ (w' : World) (g1 g2 g3 : Nat) (z1 z2 : Value), NC W0 w' (w.heap.size + 1) ⟨ae, ne, ce, aj, nj, cj, as_, ns, cs, al, nl, cl, lv⟩ p v1 v2 v3 v4 v5 v7 [(z1, 3, j + 1, (kindL p (j + 1)).map (Value.int .i64)), (z2, 3, j + 1, (kindL p (j + 1)).map (Value.int .i64)), (v3, 3, j, (List.replicate j (0 : Int)).map (Value.int .i64)), (v4, 4, j, (List.replicate j false).map Value.bool), (v5, 4, j, (List.replicate j false).map Value.bool), (v7, 4, j, (List.replicate j false).map Value.bool)] → PendF w' (w.heap.size + 1 + 1) [(z1, 3, j + 1, (kindL p (j + 1)).map (Value.int .i64)), (z2, 3, j + 1, (kindL p (j + 1)).map (Value.int .i64)), (v3, 3, j, (List.replicate j (0 : Int)).map (Value.int .i64)), (v4, 4, j, (List.replicate j false).map Value.bool), (v5, 4, j, (List.replicate j false).map Value.bool), (v7, 4, j, (List.replicate j false).map Value.bool)] g3 3 (.int .i64 0) → wpOb Try.prog .any OPS R (SF (w.heap.size + 1) 9 10 11 v1 v2 v3) (obF 23) 10 #[true, true, true, true, true, true, true, true, true, true, true, true, true, true, true, true, true, true, true, true, true, true, false, false, false, false, false, false, false, false, false, false] (((((A.put (some 31) (.slice (some ⟨g1, 0, none⟩) 1 1)).put (some 32) z1).put (some 38) (.slice (some ⟨g2, 0, none⟩) 1 1)).put (some 39) z2).put (some 44) (.slice (some ⟨g3, 0, none⟩) 1 1)) w' := by
          intro w' g1 g2 g3 z1 z2 hc hp3
          refine ob_some (js := [22]) (by rw [hO]; kernel_rfl) (by simp) (fun i hi => ?_)
          simp only [List.mem_cons, List.not_mem_nil, or_false] at hi
          subst hi
          · refine ⟨_, (by rw [hO]; rfl), fun K hK => ?_⟩
            refine step_app (enc := encInt) (fun _ => rfl) encInt1 w' (by rfl) _ _ 28 (by rfl) (w.heap.size + 1 + 1) 3 (.int .i64 0) 8 Try.underlying28 info_intF rfl (by decide) v3 j (List.replicate j (0 : Int)) (by simp [ev_put, put_size, hsz, e43]) (by rw [flat_ints]; exact hc.own (k := 2) rfl) (some ⟨g3, 0, none⟩) 1 1 [0] (by simp [ev_put, put_size, hsz]) hp3.rowI (by intro h; cases h) (by simp [maxLen]; omega) (by omega) hc.size ?_
            intro z3 w2 hz hg _ hb
            rw [flat_ints] at hz
            have hc2 := hc.app (k := 2) (z := z3) (e := 3) (n := j + 1) (xs := (List.replicate (j + 1) (0 : Int)).map (Value.int .i64)) rfl (by rw [List.replicate_succ']; exact hz) hg hb
            refine hK _ _ (fun _ => ⟨hc2.cells.1, hc2.cells.2.1, hc2.cells.2.2.1⟩) ?_
            have hn := st1113 w2 g1 g2 g3 z1 z2 z3 hc2
            exact hn
        have st1102 : ∀ (w' : World) (g1 g2 : Nat) (z1 z2 : Value), NC W0 w' (w.heap.size + 1) ⟨ae, ne, ce, aj, nj, cj, as_, ns, cs, al, nl, cl, lv⟩ p v1 v2 v3 v4 v5 v7 [(z1, 3, j + 1, (kindL p (j + 1)).map (Value.int .i64)), (z2, 3, j + 1, (kindL p (j + 1)).map (Value.int .i64)), (v3, 3, j, (List.replicate j (0 : Int)).map (Value.int .i64)), (v4, 4, j, (List.replicate j false).map Value.bool), (v5, 4, j, (List.replicate j false).map Value.bool), (v7, 4, j, (List.replicate j false).map Value.bool)] → wpOb Try.prog .any OPS R (SF (w.heap.size + 1) 9 10 11 v1 v2 v3) (obF 23) 11 #[true, true, true, true, true, true, true, true, true, true, true, true, true, true, true, true, true, true, true, true, true, false, false, false, false, false, false, false, false, false, false, false] ((((A.put (some 31) (.slice (some ⟨g1, 0, none⟩) 1 1)).put (some 32) z1).put (some 38) (.slice (some ⟨g2, 0, none⟩) 1 1)).put (some 39) z2) w' := by
          intro w' g1 g2 z1 z2 hc
          refine ob_some (js := [21]) (by rw [hO]; kernel_rfl) (by simp) (fun i hi => ?_)
          simp only [List.mem_cons, List.not_mem_nil, or_false] at hi
          subst hi
          · refine ⟨_, (by rw [hO]; rfl), fun K hK => ?_⟩
            refine step_build1 w' (by rfl) 28 3 _ (by rfl) ii (.int .i64 0) Try.underlying28 hii zi1 zi2 (.int .i64 0) (by rfl) (fillI 0) ?_
            have hc2 := hc.alloc (.cells #[.int .i64 0] 3)
            refine hK _ _ (fun _ => ⟨hc2.cells.1, hc2.cells.2.1, hc2.cells.2.2.1⟩) ?_
            have hn := st1112 (w'.alloc (.cells #[.int .i64 0] 3)) g1 g2 w'.heap.size z1 z2 hc2 (hc.pend 3 (.int .i64 0))
            exact hn
        have st1111 : ∀ (w' : World) (g1 g2 g3 : Nat) (z1 : Value), NC W0 w' (w.heap.size + 1) ⟨ae, ne, ce, aj, nj, cj, as_, ns, cs, al, nl, cl, lv⟩ p v1 v2 v3 v4 v5 v7 [(z1, 3, j + 1, (kindL p (j + 1)).map (Value.int .i64)), (v2, 3, j, (kindL p j).map (Value.int .i64)), (v3, 3, j, (List.replicate j (0 : Int)).map (Value.int .i64)), (v4, 4, j, (List.replicate j false).map Value.bool), (v5, 4, j, (List.replicate j false).map Value.bool), (v7, 4, j, (List.replicate j false).map Value.bool)] → PendF w' (w.heap.size + 1 + 1) [(z1, 3, j + 1, (kindL p (j + 1)).map (Value.int .i64)), (v2, 3, j, (kindL p j).map (Value.int .i64)), (v3, 3, j, (List.replicate j (0 : Int)).map (Value.int .i64)), (v4, 4, j, (List.replicate j false).map Value.bool), (v5, 4, j, (List.replicate j false).map Value.bool), (v7, 4, j, (List.replicate j false).map Value.bool)] g2 3 (.int .i64 x) → PendF w' (w.heap.size + 1 + 1) [(z1, 3, j + 1, (kindL p (j + 1)).map (Value.int .i64)), (v2, 3, j, (kindL p j).map (Value.int .i64)), (v3, 3, j, (List.replicate j (0 : Int)).map (Value.int .i64)), (v4, 4, j, (List.replicate j false).map Value.bool), (v5, 4, j, (List.replicate j false).map Value.bool), (v7, 4, j, (List.replicate j false).map Value.bool)] g3 3 (.int .i64 0) → wpOb Try.prog .any OPS R (SF (w.heap.size + 1) 9 10 11 v1 v2 v3) (obF 23) 11 #[true, true, true, true, true, true, true, true, true, true, true, true, true, true, true, true, false, true, true, true, true, true, false, false, false, false, false, false, false, false, false, false] ((((A.put (some 31) (.slice (some ⟨g1, 0, none⟩) 1 1)).put (some 32) z1).put (some 38) (.slice (some ⟨g2, 0, none⟩) 1 1)).put (some 44) (.slice (some ⟨g3, 0, none⟩) 1 1)) w' := by
          intro w' g1 g2 g3 z1 hc hp2 hp3
          refine ob_some (js := [16]) (by rw [hO]; kernel_rfl) (by simp) (fun i hi => ?_)
          simp only [List.mem_cons, List.not_mem_nil, or_false] at hi
          subst hi
          · refine ⟨_, (by rw [hO]; rfl), fun K hK => ?_⟩
            refine step_app (enc := encInt) (fun _ => rfl) encInt1 w' (by rfl) _ _ 28 (by rfl) (w.heap.size + 1 + 1) 3 (.int .i64 0) 8 Try.underlying28 info_intF rfl (by decide) v2 j (kindL p j) (by simp [ev_put, put_size, hsz, e36]) (by rw [flat_ints]; exact hc.own (k := 1) rfl) (some ⟨g2, 0, none⟩) 1 1 [x] (by simp [ev_put, put_size, hsz]) hp2.rowI (by intro h; cases h) (by simp [maxLen]; omega) (by omega) hc.size ?_
            intro z2 w2 hz hg _ hb
            rw [flat_ints] at hz
            have hc2 := hc.app (k := 1) (z := z2) (e := 3) (n := j + 1) (xs := (kindL p (j + 1)).map (Value.int .i64)) rfl (by rw [kindL_succ Hx.out]; exact hz) hg hb
            refine hK _ _ (fun _ => ⟨hc2.cells.1, hc2.cells.2.1, hc2.cells.2.2.1⟩) ?_
            have hn := st1112 w2 g1 g2 g3 z1 z2 hc2 (hp3.app (k := 1) (z := z2) rfl hg hb)
            rw [put_swap _ (show (39 : Nat) ≠ 44 from by decide)] at hn
            exact hn
        have st1011 : ∀ (w' : World) (g1 g3 : Nat) (z1 : Value), NC W0 w' (w.heap.size + 1) ⟨ae, ne, ce, aj, nj, cj, as_, ns, cs, al, nl, cl, lv⟩ p v1 v2 v3 v4 v5 v7 [(z1, 3, j + 1, (kindL p (j + 1)).map (Value.int .i64)), (v2, 3, j, (kindL p j).map (Value.int .i64)), (v3, 3, j, (List.replicate j (0 : Int)).map (Value.int .i64)), (v4, 4, j, (List.replicate j false).map Value.bool), (v5, 4, j, (List.replicate j false).map Value.bool), (v7, 4, j, (List.replicate j false).map Value.bool)] → PendF w' (w.heap.size + 1 + 1) [(z1, 3, j + 1, (kindL p (j + 1)).map (Value.int .i64)), (v2, 3, j, (kindL p j).map (Value.int .i64)), (v3, 3, j, (List.replicate j (0 : Int)).map (Value.int .i64)), (v4, 4, j, (List.replicate j false).map Value.bool), (v5, 4, j, (List.replicate j false).map Value.bool), (v7, 4, j, (List.replicate j false).map Value.bool)] g3 3 (.int .i64 0) → wpOb Try.prog .any OPS R (SF (w.heap.size + 1) 9 10 11 v1 v2 v3) (obF 23) 12 #[true, true, true, true, true, true, true, true, true, true, true, true, true, true, true, false, false, true, true, true, true, true, false, false, false, false, false, false, false, false, false, false] (((A.put (some 31) (.slice (some ⟨g1, 0, none⟩) 1 1)).put (some 32) z1).put (some 44) (.slice (some ⟨g3, 0, none⟩) 1 1)) w' := by
          intro w' g1 g3 z1 hc hp3
          refine ob_some (js := [15]) (by rw [hO]; kernel_rfl) (by simp) (fun i hi => ?_)
          simp only [List.mem_cons, List.not_mem_nil, or_false] at hi
          subst hi
          · refine ⟨_, (by rw [hO]; rfl), fun K hK => ?_⟩
            refine step_build1 w' (by rfl) 28 3 _ (by rfl) ii (.int .i64 0) Try.underlying28 hii zi1 zi2 (.int .i64 x) (by simp [ev_put, put_size, hsz, e37]) (fillI x) ?_
            have hc2 := hc.alloc (.cells #[.int .i64 x] 3)
            refine hK _ _ (fun _ => ⟨hc2.cells.1, hc2.cells.2.1, hc2.cells.2.2.1⟩) ?_
            have hn := st1111 (w'.alloc (.cells #[.int .i64 x] 3)) g1 w'.heap.size g3 z1 hc2 (hc.pend 3 (.int .i64 x)) (hp3.alloc _)
            rw [put_swap _ (show (38 : Nat) ≠ 44 from by decide)] at hn
            exact hn
        have st1101 : ∀ (w' : World) (g1 g2 : Nat) (z1 : Value), NC W0 w' (w.heap.size + 1) ⟨ae, ne, ce, aj, nj, cj, as_, ns, cs, al, nl, cl, lv⟩ p v1 v2 v3 v4 v5 v7 [(z1, 3, j + 1, (kindL p (j + 1)).map (Value.int .i64)), (v2, 3, j, (kindL p j).map (Value.int .i64)), (v3, 3, j, (List.replicate j (0 : Int)).map (Value.int .i64)), (v4, 4, j, (List.replicate j false).map Value.bool), (v5, 4, j, (List.replicate j false).map Value.bool), (v7, 4, j, (List.replicate j false).map Value.bool)] → PendF w' (w.heap.size + 1 + 1) [(z1, 3, j + 1, (kindL p (j + 1)).map (Value.int .i64)), (v2, 3, j, (kindL p j).map (Value.int .i64)), (v3, 3, j, (List.replicate j (0 : Int)).map (Value.int .i64)), (v4, 4, j, (List.replicate j false).map Value.bool), (v5, 4, j, (List.replicate j false).map Value.bool), (v7, 4, j, (List.replicate j false).map Value.bool)] g2 3 (.int .i64 x) → wpOb Try.prog .any OPS R (SF (w.heap.size + 1) 9 10 11 v1 v2 v3) (obF 23) 12 #[true, true, true, true, true, true, true, true, true, true, true, true, true, true, true, true, false, true, true, true, true, false, false, false, false, false, false, false, false, false, false, false] (((A.put (some 31) (.slice (some ⟨g1, 0, none⟩) 1 1)).put (some 32) z1).put (some 38) (.slice (some ⟨g2, 0, none⟩) 1 1)) w' := by
          intro w' g1 g2 z1 hc hp2
          refine ob_some (js := [16, 21]) (by rw [hO]; kernel_rfl) (by simp) (fun i hi => ?_)
          simp only [List.mem_cons, List.not_mem_nil, or_false] at hi
          rcases hi with rfl | rfl
          · refine ⟨_, (by rw [hO]; rfl), fun K hK => ?_⟩
            refine step_app (enc := encInt) (fun _ => rfl) encInt1 w' (by rfl) _ _ 28 (by rfl) (w.heap.size + 1 + 1) 3 (.int .i64 0) 8 Try.underlying28 info_intF rfl (by decide) v2 j (kindL p j) (by simp [ev_put, put_size, hsz, e36]) (by rw [flat_ints]; exact hc.own (k := 1) rfl) (some ⟨g2, 0, none⟩) 1 1 [x] (by simp [ev_put, put_size, hsz]) hp2.rowI (by intro h; cases h) (by simp [maxLen]; omega) (by omega) hc.size ?_
            intro z2 w2 hz hg _ hb
            rw [flat_ints] at hz
            have hc2 := hc.app (k := 1) (z := z2) (e := 3) (n := j + 1) (xs := (kindL p (j + 1)).map (Value.int .i64)) rfl (by rw [kindL_succ Hx.out]; exact hz) hg hb
            refine hK _ _ (fun _ => ⟨hc2.cells.1, hc2.cells.2.1, hc2.cells.2.2.1⟩) ?_
            have hn := st1102 w2 g1 g2 z1 z2 hc2
            exact hn
          · refine ⟨_, (by rw [hO]; rfl), fun K hK => ?_⟩
            refine step_build1 w' (by rfl) 28 3 _ (by rfl) ii (.int .i64 0) Try.underlying28 hii zi1 zi2 (.int .i64 0) (by rfl) (fillI 0) ?_
            have hc2 := hc.alloc (.cells #[.int .i64 0] 3)
            refine hK _ _ (fun _ => ⟨hc2.cells.1, hc2.cells.2.1, hc2.cells.2.2.1⟩) ?_
            have hn := st1111 (w'.alloc (.cells #[.int .i64 0] 3)) g1 g2 w'.heap.size z1 hc2 (hp2.alloc _) (hc.pend 3 (.int .i64 0))
            exact hn
        have st1110 : ∀ (w' : World) (g1 g2 g3 : Nat), NC W0 w' (w.heap.size + 1) ⟨ae, ne, ce, aj, nj, cj, as_, ns, cs, al, nl, cl, lv⟩ p v1 v2 v3 v4 v5 v7 [(v1, 3, j, (kindL p j).map (Value.int .i64)), (v2, 3, j, (kindL p j).map (Value.int .i64)), (v3, 3, j, (List.replicate j (0 : Int)).map (Value.int .i64)), (v4, 4, j, (List.replicate j false).map Value.bool), (v5, 4, j, (List.replicate j false).map Value.bool), (v7, 4, j, (List.replicate j false).map Value.bool)] → PendF w' (w.heap.size + 1 + 1) [(v1, 3, j, (kindL p j).map (Value.int .i64)), (v2, 3, j, (kindL p j).map (Value.int .i64)), (v3, 3, j, (List.replicate j (0 : Int)).map (Value.int .i64)), (v4, 4, j, (List.replicate j false).map Value.bool), (v5, 4, j, (List.replicate j false).map Value.bool), (v7, 4, j, (List.replicate j false).map Value.bool)] g1 3 (.int .i64 x) → PendF w' (w.heap.size + 1 + 1) [(v1, 3, j, (kindL p j).map (Value.int .i64)), (v2, 3, j, (kindL p j).map (Value.int .i64)), (v3, 3, j, (List.replicate j (0 : Int)).map (Value.int .i64)), (v4, 4, j, (List.replicate j false).map Value.bool), (v5, 4, j, (List.replicate j false).map Value.bool), (v7, 4, j, (List.replicate j false).map Value.bool)] g2 3 (.int .i64 x) → PendF w' (w.heap.size + 1 + 1) [(v1, 3, j, (kindL p j).map (Value.int .i64)), (v2, 3, j, (kindL p j).map (Value.int .i64)), (v3, 3, j, (List.replicate j (0 : Int)).map (Value.int .i64)), (v4, 4, j, (List.replicate j false).map Value.bool), (v5, 4, j, (List.replicate j false).map Value.bool), (v7, 4, j, (List.replicate j false).map Value.bool)] g3 3 (.int .i64 0) → wpOb Try.prog .any OPS R (SF (w.heap.size + 1) 9 10 11 v1 v2 v3) (obF 23) 12 #[true, true, true, true, true, true, true, true, true, false, true, true, true, true, true, true, false, true, true, true, true, true, false, false, false, false, false, false, false, false, false, false] (((A.put (some 31) (.slice (some ⟨g1, 0, none⟩) 1 1)).put (some 38) (.slice (some ⟨g2, 0, none⟩) 1 1)).put (some 44) (.slice (some ⟨g3, 0, none⟩) 1 1)) w' := by
          intro w' g1 g2 g3 hc hp1 hp2 hp3
          refine ob_some (js := [9]) (by rw [hO]; kernel_rfl) (by simp) (fun i hi => ?_)
          simp only [List.mem_cons, List.not_mem_nil, or_false] at hi
          subst hi
          · refine ⟨_, (by rw [hO]; rfl), fun K hK => ?_⟩
            refine step_app (enc := encInt) (fun _ => rfl) encInt1 w' (by rfl) _ _ 28 (by rfl) (w.heap.size + 1 + 1) 3 (.int .i64 0) 8 Try.underlying28 info_intF rfl (by decide) v1 j (kindL p j) (by simp [ev_put, put_size, hsz, e29]) (by rw [flat_ints]; exact hc.own (k := 0) rfl) (some ⟨g1, 0, none⟩) 1 1 [x] (by simp [ev_put, put_size, hsz]) hp1.rowI (by intro h; cases h) (by simp [maxLen]; omega) (by omega) hc.size ?_
            intro z1 w2 hz hg _ hb
            rw [flat_ints] at hz
            have hc2 := hc.app (k := 0) (z := z1) (e := 3) (n := j + 1) (xs := (kindL p (j + 1)).map (Value.int .i64)) rfl (by rw [kindL_succ Hx.out]; exact hz) hg hb
            refine hK _ _ (fun _ => ⟨hc2.cells.1, hc2.cells.2.1, hc2.cells.2.2.1⟩) ?_
            have hn := st1111 w2 g1 g2 g3 z1 hc2 (hp2.app (k := 0) (z := z1) rfl hg hb) (hp3.app (k := 0) (z := z1) rfl hg hb)
            rw [put_swap _ (show (32 : Nat) ≠ 38 from by decide), put_swap _ (show (32 : Nat) ≠ 44 from by decide)] at hn
            exact hn
        have st0110 : ∀ (w' : World) (g2 g3 : Nat), NC W0 w' (w.heap.size + 1) ⟨ae, ne, ce, aj, nj, cj, as_, ns, cs, al, nl, cl, lv⟩ p v1 v2 v3 v4 v5 v7 [(v1, 3, j, (kindL p j).map (Value.int .i64)), (v2, 3, j, (kindL p j).map (Value.int .i64)), (v3, 3, j, (List.replicate j (0 : Int)).map (Value.int .i64)), (v4, 4, j, (List.replicate j false).map Value.bool), (v5, 4, j, (List.replicate j false).map Value.bool), (v7, 4, j, (List.replicate j false).map Value.bool)] → PendF w' (w.heap.size + 1 + 1) [(v1, 3, j, (kindL p j).map (Value.int .i64)), (v2, 3, j, (kindL p j).map (Value.int .i64)), (v3, 3, j, (List.replicate j (0 : Int)).map (Value.int .i64)), (v4, 4, j, (List.replicate j false).map Value.bool), (v5, 4, j, (List.replicate j false).map Value.bool), (v7, 4, j, (List.replicate j false).map Value.bool)] g2 3 (.int .i64 x) → PendF w' (w.heap.size + 1 + 1) [(v1, 3, j, (kindL p j).map (Value.int .i64)), (v2, 3, j, (kindL p j).map (Value.int .i64)), (v3, 3, j, (List.replicate j (0 : Int)).map (Value.int .i64)), (v4, 4, j, (List.replicate j false).map Value.bool), (v5, 4, j, (List.replicate j false).map Value.bool), (v7, 4, j, (List.replicate j false).map Value.bool)] g3 3 (.int .i64 0) → wpOb Try.prog .any OPS R (SF (w.heap.size + 1) 9 10 11 v1 v2 v3) (obF 23) 13 #[true, true, true, true, true, true, true, true, false, false, true, true, true, true, true, true, false, true, true, true, true, true, false, false, false, false, false, false, false, false, false, false] ((A.put (some 38) (.slice (some ⟨g2, 0, none⟩) 1 1)).put (some 44) (.slice (some ⟨g3, 0, none⟩) 1 1)) w' := by
          intro w' g2 g3 hc hp2 hp3
          refine ob_some (js := [8]) (by rw [hO]; kernel_rfl) (by simp) (fun i hi => ?_)
          simp only [List.mem_cons, List.not_mem_nil, or_false] at hi
          subst hi
          · refine ⟨_, (by rw [hO]; rfl), fun K hK => ?_⟩
            refine step_build1 w' (by rfl) 28 3 _ (by rfl) ii (.int .i64 0) Try.underlying28 hii zi1 zi2 (.int .i64 x) (by simp [ev_put, put_size, hsz, e30]) (fillI x) ?_
            have hc2 := hc.alloc (.cells #[.int .i64 x] 3)
            refine hK _ _ (fun _ => ⟨hc2.cells.1, hc2.cells.2.1, hc2.cells.2.2.1⟩) ?_
            have hn := st1110 (w'.alloc (.cells #[.int .i64 x] 3)) w'.heap.size g2 g3 hc2 (hc.pend 3 (.int .i64 x)) (hp2.alloc _) (hp3.alloc _)
            rw [put_swap _ (show (31 : Nat) ≠ 38 from by decide), put_swap _ (show (31 : Nat) ≠ 44 from by decide)] at hn
            exact hn
        have st1001 : ∀ (w' : World) (g1 : Nat) (z1 : Value), NC W0 w' (w.heap.size + 1) ⟨ae, ne, ce, aj, nj, cj, as_, ns, cs, al, nl, cl, lv⟩ p v1 v2 v3 v4 v5 v7 [(z1, 3, j + 1, (kindL p (j + 1)).map (Value.int .i64)), (v2, 3, j, (kindL p j).map (Value.int .i64)), (v3, 3, j, (List.replicate j (0 : Int)).map (Value.int .i64)), (v4, 4, j, (List.replicate j false).map Value.bool), (v5, 4, j, (List.replicate j false).map Value.bool), (v7, 4, j, (List.replicate j false).map Value.bool)] → wpOb Try.prog .any OPS R (SF (w.heap.size + 1) 9 10 11 v1 v2 v3) (obF 23) 13 #[true, true, true, true, true, true, true, true, true, true, true, true, true, true, true, false, false, true, true, true, true, false, false, false, false, false, false, false, false, false, false, false] ((A.put (some 31) (.slice (some ⟨g1, 0, none⟩) 1 1)).put (some 32) z1) w' := by
          intro w' g1 z1 hc
          refine ob_some (js := [15, 21]) (by rw [hO]; kernel_rfl) (by simp) (fun i hi => ?_)
          simp only [List.mem_cons, List.not_mem_nil, or_false] at hi
          rcases hi with rfl | rfl
          · refine ⟨_, (by rw [hO]; rfl), fun K hK => ?_⟩
            refine step_build1 w' (by rfl) 28 3 _ (by rfl) ii (.int .i64 0) Try.underlying28 hii zi1 zi2 (.int .i64 x) (by simp [ev_put, put_size, hsz, e37]) (fillI x) ?_
            have hc2 := hc.alloc (.cells #[.int .i64 x] 3)
            refine hK _ _ (fun _ => ⟨hc2.cells.1, hc2.cells.2.1, hc2.cells.2.2.1⟩) ?_
            have hn := st1101 (w'.alloc (.cells #[.int .i64 x] 3)) g1 w'.heap.size z1 hc2 (hc.pend 3 (.int .i64 x))
            exact hn
          · refine ⟨_, (by rw [hO]; rfl), fun K hK => ?_⟩
            refine step_build1 w' (by rfl) 28 3 _ (by rfl) ii (.int .i64 0) Try.underlying28 hii zi1 zi2 (.int .i64 0) (by rfl) (fillI 0) ?_
            have hc2 := hc.alloc (.cells #[.int .i64 0] 3)
            refine hK _ _ (fun _ => ⟨hc2.cells.1, hc2.cells.2.1, hc2.cells.2.2.1⟩) ?_
            have hn := st1011 (w'.alloc (.cells #[.int .i64 0] 3)) g1 w'.heap.size z1 hc2 (hc.pend 3 (.int .i64 0))
            exact hn
        have st1010 : ∀ (w' : World) (g1 g3 : Nat), NC W0 w' (w.heap.size + 1) ⟨ae, ne, ce, aj, nj, cj, as_, ns, cs, al, nl, cl, lv⟩ p v1 v2 v3 v4 v5 v7 [(v1, 3, j, (kindL p j).map (Value.int .i64)), (v2, 3, j, (kindL p j).map (Value.int .i64)), (v3, 3, j, (List.replicate j (0 : Int)).map (Value.int .i64)), (v4, 4, j, (List.replicate j false).map Value.bool), (v5, 4, j, (List.replicate j false).map Value.bool), (v7, 4, j, (List.replicate j false).map Value.bool)] → PendF w' (w.heap.size + 1 + 1) [(v1, 3, j, (kindL p j).map (Value.int .i64)), (v2, 3, j, (kindL p j).map (Value.int .i64)), (v3, 3, j, (List.replicate j (0 : Int)).map (Value.int .i64)), (v4, 4, j, (List.replicate j false).map Value.bool), (v5, 4, j, (List.replicate j false).map Value.bool), (v7, 4, j, (List.replicate j false).map Value.bool)] g1 3 (.int .i64 x) → PendF w' (w.heap.size + 1 + 1) [(v1, 3, j, (kindL p j).map (Value.int .i64)), (v2, 3, j, (kindL p j).map (Value.int .i64)), (v3, 3, j, (List.replicate j (0 : Int)).map (Value.int .i64)), (v4, 4, j, (List.replicate j false).map Value.bool), (v5, 4, j, (List.replicate j false).map Value.bool), (v7, 4, j, (List.replicate j false).map Value.bool)] g3 3 (.int .i64 0) → wpOb Try.prog .any OPS R (SF (w.heap.size + 1) 9 10 11 v1 v2 v3) (obF 23) 13 #[true, true, true, true, true, true, true, true, true, false, true, true, true, true, true, false, false, true, true, true, true, true, false, false, false, false, false, false, false, false, false, false] ((A.put (some 31) (.slice (some ⟨g1, 0, none⟩) 1 1)).put (some 44) (.slice (some ⟨g3, 0, none⟩) 1 1)) w' := by
          intro w' g1 g3 hc hp1 hp3
          refine ob_some (js := [9, 15]) (by rw [hO]; kernel_rfl) (by simp) (fun i hi => ?_)
          simp only [List.mem_cons, List.not_mem_nil, or_false] at hi
          rcases hi with rfl | rfl
          · refine ⟨_, (by rw [hO]; rfl), fun K hK => ?_⟩
            refine step_app (enc := encInt) (fun _ => rfl) encInt1 w' (by rfl) _ _ 28 (by rfl) (w.heap.size + 1 + 1) 3 (.int .i64 0) 8 Try.underlying28 info_intF rfl (by decide) v1 j (kindL p j) (by simp [ev_put, put_size, hsz, e29]) (by rw [flat_ints]; exact hc.own (k := 0) rfl) (some ⟨g1, 0, none⟩) 1 1 [x] (by simp [ev_put, put_size, hsz]) hp1.rowI (by intro h; cases h) (by simp [maxLen]; omega) (by omega) hc.size ?_
            intro z1 w2 hz hg _ hb
            rw [flat_ints] at hz
            have hc2 := hc.app (k := 0) (z := z1) (e := 3) (n := j + 1) (xs := (kindL p (j + 1)).map (Value.int .i64)) rfl (by rw [kindL_succ Hx.out]; exact hz) hg hb
            refine hK _ _ (fun _ => ⟨hc2.cells.1, hc2.cells.2.1, hc2.cells.2.2.1⟩) ?_
            have hn := st1011 w2 g1 g3 z1 hc2 (hp3.app (k := 0) (z := z1) rfl hg hb)
            rw [put_swap _ (show (32 : Nat) ≠ 44 from by decide)] at hn
            exact hn
          · refine ⟨_, (by rw [hO]; rfl), fun K hK => ?_⟩
            refine step_build1 w' (by rfl) 28 3 _ (by rfl) ii (.int .i64 0) Try.underlying28 hii zi1 zi2 (.int .i64 x) (by simp [ev_put, put_size, hsz, e37]) (fillI x) ?_
            have hc2 := hc.alloc (.cells #[.int .i64 x] 3)
            refine hK _ _ (fun _ => ⟨hc2.cells.1, hc2.cells.2.1, hc2.cells.2.2.1⟩) ?_
            have hn := st1110 (w'.alloc (.cells #[.int .i64 x] 3)) g1 w'.heap.size g3 hc2 (hp1.alloc _) (hc.pend 3 (.int .i64 x)) (hp3.alloc _)
            rw [put_swap _ (show (38 : Nat) ≠ 44 from by decide)] at hn
            exact hn
        have st1100 : ∀ (w' : World) (g1 g2 : Nat), NC W0 w' (w.heap.size + 1) ⟨ae, ne, ce, aj, nj, cj, as_, ns, cs, al, nl, cl, lv⟩ p v1 v2 v3 v4 v5 v7 [(v1, 3, j, (kindL p j).map (Value.int .i64)), (v2, 3, j, (kindL p j).map (Value.int .i64)), (v3, 3, j, (List.replicate j (0 : Int)).map (Value.int .i64)), (v4, 4, j, (List.replicate j false).map Value.bool), (v5, 4, j, (List.replicate j false).map Value.bool), (v7, 4, j, (List.replicate j false).map Value.bool)] → PendF w' (w.heap.size + 1 + 1) [(v1, 3, j, (kindL p j).map (Value.int .i64)), (v2, 3, j, (kindL p j).map (Value.int .i64)), (v3, 3, j, (List.replicate j (0 : Int)).map (Value.int .i64)), (v4, 4, j, (List.replicate j false).map Value.bool), (v5, 4, j, (List.replicate j false).map Value.bool), (v7, 4, j, (List.replicate j false).map Value.bool)] g1 3 (.int .i64 x) → PendF w' (w.heap.size + 1 + 1) [(v1, 3, j, (kindL p j).map (Value.int .i64)), (v2, 3, j, (kindL p j).map (Value.int .i64)), (v3, 3, j, (List.replicate j (0 : Int)).map (Value.int .i64)), (v4, 4, j, (List.replicate j false).map Value.bool), (v5, 4, j, (List.replicate j false).map Value.bool), (v7, 4, j, (List.replicate j false).map Value.bool)] g2 3 (.int .i64 x) → wpOb Try.prog .any OPS R (SF (w.heap.size + 1) 9 10 11 v1 v2 v3) (obF 23) 13 #[true, true, true, true, true, true, true, true, true, false, true, true, true, true, true, true, false, true, true, true, true, false, false, false, false, false, false, false, false, false, false, false] ((A.put (some 31) (.slice (some ⟨g1, 0, none⟩) 1 1)).put (some 38) (.slice (some ⟨g2, 0, none⟩) 1 1)) w' := by
          intro w' g1 g2 hc hp1 hp2
          refine ob_some (js := [9, 21]) (by rw [hO]; kernel_rfl) (by simp) (fun i hi => ?_)
          simp only [List.mem_cons, List.not_mem_nil, or_false] at hi
          rcases hi with rfl | rfl
          · refine ⟨_, (by rw [hO]; rfl), fun K hK => ?_⟩
            refine step_app (enc := encInt) (fun _ => rfl) encInt1 w' (by rfl) _ _ 28 (by rfl) (w.heap.size + 1 + 1) 3 (.int .i64 0) 8 Try.underlying28 info_intF rfl (by decide) v1 j (kindL p j) (by simp [ev_put, put_size, hsz, e29]) (by rw [flat_ints]; exact hc.own (k := 0) rfl) (some ⟨g1, 0, none⟩) 1 1 [x] (by simp [ev_put, put_size, hsz]) hp1.rowI (by intro h; cases h) (by simp [maxLen]; omega) (by omega) hc.size ?_
            intro z1 w2 hz hg _ hb
            rw [flat_ints] at hz
            have hc2 := hc.app (k := 0) (z := z1) (e := 3) (n := j + 1) (xs := (kindL p (j + 1)).map (Value.int .i64)) rfl (by rw [kindL_succ Hx.out]; exact hz) hg hb
            refine hK _ _ (fun _ => ⟨hc2.cells.1, hc2.cells.2.1, hc2.cells.2.2.1⟩) ?_
            have hn := st1101 w2 g1 g2 z1 hc2 (hp2.app (k := 0) (z := z1) rfl hg hb)
            rw [put_swap _ (show (32 : Nat) ≠ 38 from by decide)] at hn
            exact hn
          · refine ⟨_, (by rw [hO]; rfl), fun K hK => ?_⟩
            refine step_build1 w' (by rfl) 28 3 _ (by rfl) ii (.int .i64 0) Try.underlying28 hii zi1 zi2 (.int .i64 0) (by rfl) (fillI 0) ?_
            have hc2 := hc.alloc (.cells #[.int .i64 0] 3)
            refine hK _ _ (fun _ => ⟨hc2.cells.1, hc2.cells.2.1, hc2.cells.2.2.1⟩) ?_
            have hn := st1110 (w'.alloc (.cells #[.int .i64 0] 3)) g1 g2 w'.heap.size hc2 (hp1.alloc _) (hp2.alloc _) (hc.pend 3 (.int .i64 0))
            exact hn
        have st0010 : ∀ (w' : World) (g3 : Nat), NC W0 w' (w.heap.size + 1) ⟨ae, ne, ce, aj, nj, cj, as_, ns, cs, al, nl, cl, lv⟩ p v1 v2 v3 v4 v5 v7 [(v1, 3, j, (kindL p j).map (Value.int .i64)), (v2, 3, j, (kindL p j).map (Value.int .i64)), (v3, 3, j, (List.replicate j (0 : Int)).map (Value.int .i64)), (v4, 4, j, (List.replicate j false).map Value.bool), (v5, 4, j, (List.replicate j false).map Value.bool), (v7, 4, j, (List.replicate j false).map Value.bool)] → PendF w' (w.heap.size + 1 + 1) [(v1, 3, j, (kindL p j).map (Value.int .i64)), (v2, 3, j, (kindL p j).map (Value.int .i64)), (v3, 3, j, (List.replicate j (0 : Int)).map (Value.int .i64)), (v4, 4, j, (List.replicate j false).map Value.bool), (v5, 4, j, (List.replicate j false).map Value.bool), (v7, 4, j, (List.replicate j false).map Value.bool)] g3 3 (.int .i64 0) → wpOb Try.prog .any OPS R (SF (w.heap.size + 1) 9 10 11 v1 v2 v3) (obF 23) 14 #[true, true, true, true, true, true, true, true, false, false, true, true, true, true, true, false, false, true, true, true, true, true, false, false, false, false, false, false, false, false, false, false] (A.put (some 44) (.slice (some ⟨g3, 0, none⟩) 1 1)) w' := by
          intro w' g3 hc hp3
          refine ob_some (js := [8, 15]) (by rw [hO]; kernel_rfl) (by simp) (fun i hi => ?_)
          simp only [List.mem_cons, List.not_mem_nil, or_false] at hi
          rcases hi with rfl | rfl
          · refine ⟨_, (by rw [hO]; rfl), fun K hK => ?_⟩
            refine step_build1 w' (by rfl) 28 3 _ (by rfl) ii (.int .i64 0) Try.underlying28 hii zi1 zi2 (.int .i64 x) (by simp [ev_put, hsz, e30]) (fillI x) ?_
            have hc2 := hc.alloc (.cells #[.int .i64 x] 3)
            refine hK _ _ (fun _ => ⟨hc2.cells.1, hc2.cells.2.1, hc2.cells.2.2.1⟩) ?_
            have hn := st1010 (w'.alloc (.cells #[.int .i64 x] 3)) w'.heap.size g3 hc2 (hc.pend 3 (.int .i64 x)) (hp3.alloc _)
            rw [put_swap _ (show (31 : Nat) ≠ 44 from by decide)] at hn
            exact hn
          · refine ⟨_, (by rw [hO]; rfl), fun K hK => ?_⟩
            refine step_build1 w' (by rfl) 28 3 _ (by rfl) ii (.int .i64 0) Try.underlying28 hii zi1 zi2 (.int .i64 x) (by simp [ev_put, hsz, e37]) (fillI x) ?_
            have hc2 := hc.alloc (.cells #[.int .i64 x] 3)
            refine hK _ _ (fun _ => ⟨hc2.cells.1, hc2.cells.2.1, hc2.cells.2.2.1⟩) ?_
            have hn := st0110 (w'.alloc (.cells #[.int .i64 x] 3)) w'.heap.size g3 hc2 (hc.pend 3 (.int .i64 x)) (hp3.alloc _)
            rw [put_swap _ (show (38 : Nat) ≠ 44 from by decide)] at hn
            exact hn
        have st0100 : ∀ (w' : World) (g2 : Nat), NC W0 w' (w.heap.size + 1) ⟨ae, ne, ce, aj, nj, cj, as_, ns, cs, al, nl, cl, lv⟩ p v1 v2 v3 v4 v5 v7 [(v1, 3, j, (kindL p j).map (Value.int .i64)), (v2, 3, j, (kindL p j).map (Value.int .i64)), (v3, 3, j, (List.replicate j (0 : Int)).map (Value.int .i64)), (v4, 4, j, (List.replicate j false).map Value.bool), (v5, 4, j, (List.replicate j false).map Value.bool), (v7, 4, j, (List.replicate j false).map Value.bool)] → PendF w' (w.heap.size + 1 + 1) [(v1, 3, j, (kindL p j).map (Value.int .i64)), (v2, 3, j, (kindL p j).map (Value.int .i64)), (v3, 3, j, (List.replicate j (0 : Int)).map (Value.int .i64)), (v4, 4, j, (List.replicate j false).map Value.bool), (v5, 4, j, (List.replicate j false).map Value.bool), (v7, 4, j, (List.replicate j false).map Value.bool)] g2 3 (.int .i64 x) → wpOb Try.prog .any OPS R (SF (w.heap.size + 1) 9 10 11 v1 v2 v3) (obF 23) 14 #[true, true, true, true, true, true, true, true, false, false, true, true, true, true, true, true, false, true, true, true, true, false, false, false, false, false, false, false, false, false, false, false] (A.put (some 38) (.slice (some ⟨g2, 0, none⟩) 1 1)) w' := by
          intro w' g2 hc hp2
          refine ob_some (js := [8, 21]) (by rw [hO]; kernel_rfl) (by simp) (fun i hi => ?_)
          simp only [List.mem_cons, List.not_mem_nil, or_false] at hi
          rcases hi with rfl | rfl
          · refine ⟨_, (by rw [hO]; rfl), fun K hK => ?_⟩
            refine step_build1 w' (by rfl) 28 3 _ (by rfl) ii (.int .i64 0) Try.underlying28 hii zi1 zi2 (.int .i64 x) (by simp [ev_put, hsz, e30]) (fillI x) ?_
            have hc2 := hc.alloc (.cells #[.int .i64 x] 3)
            refine hK _ _ (fun _ => ⟨hc2.cells.1, hc2.cells.2.1, hc2.cells.2.2.1⟩) ?_
            have hn := st1100 (w'.alloc (.cells #[.int .i64 x] 3)) w'.heap.size g2 hc2 (hc.pend 3 (.int .i64 x)) (hp2.alloc _)
            rw [put_swap _ (show (31 : Nat) ≠ 38 from by decide)] at hn
            exact hn
          · refine ⟨_, (by rw [hO]; rfl), fun K hK => ?_⟩
            refine step_build1 w' (by rfl) 28 3 _ (by rfl) ii (.int .i64 0) Try.underlying28 hii zi1 zi2 (.int .i64 0) (by rfl) (fillI 0) ?_
            have hc2 := hc.alloc (.cells #[.int .i64 0] 3)
            refine hK _ _ (fun _ => ⟨hc2.cells.1, hc2.cells.2.1, hc2.cells.2.2.1⟩) ?_
            have hn := st0110 (w'.alloc (.cells #[.int .i64 0] 3)) g2 w'.heap.size hc2 (hp2.alloc _) (hc.pend 3 (.int .i64 0))
            exact hn
        have st1000 : ∀ (w' : World) (g1 : Nat), NC W0 w' (w.heap.size + 1) ⟨ae, ne, ce, aj, nj, cj, as_, ns, cs, al, nl, cl, lv⟩ p v1 v2 v3 v4 v5 v7 [(v1, 3, j, (kindL p j).map (Value.int .i64)), (v2, 3, j, (kindL p j).map (Value.int .i64)), (v3, 3, j, (List.replicate j (0 : Int)).map (Value.int .i64)), (v4, 4, j, (List.replicate j false).map Value.bool), (v5, 4, j, (List.replicate j false).map Value.bool), (v7, 4, j, (List.replicate j false).map Value.bool)] → PendF w' (w.heap.size + 1 + 1) [(v1, 3, j, (kindL p j).map (Value.int .i64)), (v2, 3, j, (kindL p j).map (Value.int .i64)), (v3, 3, j, (List.replicate j (0 : Int)).map (Value.int .i64)), (v4, 4, j, (List.replicate j false).map Value.bool), (v5, 4, j, (List.replicate j false).map Value.bool), (v7, 4, j, (List.replicate j false).map Value.bool)] g1 3 (.int .i64 x) → wpOb Try.prog .any OPS R (SF (w.heap.size + 1) 9 10 11 v1 v2 v3) (obF 23) 14 #[true, true, true, true, true, true, true, true, true, false, true, true, true, true, true, false, false, true, true, true, true, false, false, false, false, false, false, false, false, false, false, false] (A.put (some 31) (.slice (some ⟨g1, 0, none⟩) 1 1)) w' := by
          intro w' g1 hc hp1
          refine ob_some (js := [9, 15, 21]) (by rw [hO]; kernel_rfl) (by simp) (fun i hi => ?_)
          simp only [List.mem_cons, List.not_mem_nil, or_false] at hi
          rcases hi with rfl | rfl | rfl
          · refine ⟨_, (by rw [hO]; rfl), fun K hK => ?_⟩
            refine step_app (enc := encInt) (fun _ => rfl) encInt1 w' (by rfl) _ _ 28 (by rfl) (w.heap.size + 1 + 1) 3 (.int .i64 0) 8 Try.underlying28 info_intF rfl (by decide) v1 j (kindL p j) (by simp [ev_put, hsz, e29]) (by rw [flat_ints]; exact hc.own (k := 0) rfl) (some ⟨g1, 0, none⟩) 1 1 [x] (by simp [ev_put, hsz]) hp1.rowI (by intro h; cases h) (by simp [maxLen]; omega) (by omega) hc.size ?_
            intro z1 w2 hz hg _ hb
            rw [flat_ints] at hz
            have hc2 := hc.app (k := 0) (z := z1) (e := 3) (n := j + 1) (xs := (kindL p (j + 1)).map (Value.int .i64)) rfl (by rw [kindL_succ Hx.out]; exact hz) hg hb
            refine hK _ _ (fun _ => ⟨hc2.cells.1, hc2.cells.2.1, hc2.cells.2.2.1⟩) ?_
            have hn := st1001 w2 g1 z1 hc2
            exact hn
          · refine ⟨_, (by rw [hO]; rfl), fun K hK => ?_⟩
            refine step_build1 w' (by rfl) 28 3 _ (by rfl) ii (.int .i64 0) Try.underlying28 hii zi1 zi2 (.int .i64 x) (by simp [ev_put, hsz, e37]) (fillI x) ?_
            have hc2 := hc.alloc (.cells #[.int .i64 x] 3)
            refine hK _ _ (fun _ => ⟨hc2.cells.1, hc2.cells.2.1, hc2.cells.2.2.1⟩) ?_
            have hn := st1100 (w'.alloc (.cells #[.int .i64 x] 3)) g1 w'.heap.size hc2 (hp1.alloc _) (hc.pend 3 (.int .i64 x))
            exact hn
          · refine ⟨_, (by rw [hO]; rfl), fun K hK => ?_⟩
            refine step_build1 w' (by rfl) 28 3 _ (by rfl) ii (.int .i64 0) Try.underlying28 hii zi1 zi2 (.int .i64 0) (by rfl) (fillI 0) ?_
            have hc2 := hc.alloc (.cells #[.int .i64 0] 3)
            refine hK _ _ (fun _ => ⟨hc2.cells.1, hc2.cells.2.1, hc2.cells.2.2.1⟩) ?_
            have hn := st1010 (w'.alloc (.cells #[.int .i64 0] 3)) g1 w'.heap.size hc2 (hp1.alloc _) (hc.pend 3 (.int .i64 0))
            exact hn
        have st0000 : ∀ (w' : World), NC W0 w' (w.heap.size + 1) ⟨ae, ne, ce, aj, nj, cj, as_, ns, cs, al, nl, cl, lv⟩ p v1 v2 v3 v4 v5 v7 [(v1, 3, j, (kindL p j).map (Value.int .i64)), (v2, 3, j, (kindL p j).map (Value.int .i64)), (v3, 3, j, (List.replicate j (0 : Int)).map (Value.int .i64)), (v4, 4, j, (List.replicate j false).map Value.bool), (v5, 4, j, (List.replicate j false).map Value.bool), (v7, 4, j, (List.replicate j false).map Value.bool)] → wpOb Try.prog .any OPS R (SF (w.heap.size + 1) 9 10 11 v1 v2 v3) (obF 23) 15 #[true, true, true, true, true, true, true, true, false, false, true, true, true, true, true, false, false, true, true, true, true, false, false, false, false, false, false, false, false, false, false, false] A w' := by
          intro w' hc
          refine ob_some (js := [8, 15, 21]) (by rw [hO]; kernel_rfl) (by simp) (fun i hi => ?_)
          simp only [List.mem_cons, List.not_mem_nil, or_false] at hi
          rcases hi with rfl | rfl | rfl
          · refine ⟨_, (by rw [hO]; rfl), fun K hK => ?_⟩
            refine step_build1 w' (by rfl) 28 3 _ (by rfl) ii (.int .i64 0) Try.underlying28 hii zi1 zi2 (.int .i64 x) (by simp [e30]) (fillI x) ?_
            have hc2 := hc.alloc (.cells #[.int .i64 x] 3)
            refine hK _ _ (fun _ => ⟨hc2.cells.1, hc2.cells.2.1, hc2.cells.2.2.1⟩) ?_
            have hn := st1000 (w'.alloc (.cells #[.int .i64 x] 3)) w'.heap.size hc2 (hc.pend 3 (.int .i64 x))
            exact hn
          · refine ⟨_, (by rw [hO]; rfl), fun K hK => ?_⟩
            refine step_build1 w' (by rfl) 28 3 _ (by rfl) ii (.int .i64 0) Try.underlying28 hii zi1 zi2 (.int .i64 x) (by simp [e37]) (fillI x) ?_
            have hc2 := hc.alloc (.cells #[.int .i64 x] 3)
            refine hK _ _ (fun _ => ⟨hc2.cells.1, hc2.cells.2.1, hc2.cells.2.2.1⟩) ?_
            have hn := st0100 (w'.alloc (.cells #[.int .i64 x] 3)) w'.heap.size hc2 (hc.pend 3 (.int .i64 x))
            exact hn
          · refine ⟨_, (by rw [hO]; rfl), fun K hK => ?_⟩
            refine step_build1 w' (by rfl) 28 3 _ (by rfl) ii (.int .i64 0) Try.underlying28 hii zi1 zi2 (.int .i64 0) (by rfl) (fillI 0) ?_
            have hc2 := hc.alloc (.cells #[.int .i64 0] 3)
            refine hK _ _ (fun _ => ⟨hc2.cells.1, hc2.cells.2.1, hc2.cells.2.2.1⟩) ?_
            have hn := st0010 (w'.alloc (.cells #[.int .i64 0] 3)) w'.heap.size hc2 (hc.pend 3 (.int .i64 0))
            exact hn
        exact st0000 wc.drew hin.drew
    · have hj : j = ne := by have := Hk.out; omega
      subst hj
      have h0 : 0 < j := by have := (elems_le Hc.out).2.2; omega
      have o1 : wr.ownsRow (w.heap.size + 2) 3 1 v1 j ((kindL p j).map (Value.int .i64)) := hRs.out.own (v1, 3, j, (kindL p j).map (Value.int .i64)) (by simp [rowsOf])
      have o2 : wr.ownsRow (w.heap.size + 2) 3 1 v2 j ((kindL p j).map (Value.int .i64)) := hRs.out.own (v2, 3, j, (kindL p j).map (Value.int .i64)) (by simp [rowsOf])
      have o3 : wr.ownsRow (w.heap.size + 2) 3 1 v3 j ((List.replicate j (0 : Int)).map (Value.int .i64)) := hRs.out.own (v3, 3, j, (List.replicate j (0 : Int)).map (Value.int .i64)) (by simp [rowsOf])
      have o4 : wr.ownsRow (w.heap.size + 2) 4 1 v4 j ((List.replicate j false).map Value.bool) := hRs.out.own (v4, 4, j, (List.replicate j false).map Value.bool) (by simp [rowsOf])
      have o5 : wr.ownsRow (w.heap.size + 2) 4 1 v5 j ((List.replicate j false).map Value.bool) := hRs.out.own (v5, 4, j, (List.replicate j false).map Value.bool) (by simp [rowsOf])
      have o7 : wr.ownsRow (w.heap.size + 2) 4 1 v7 j ((List.replicate j false).map Value.bool) := hRs.out.own (v7, 4, j, (List.replicate j false).map Value.bool) (by simp [rowsOf])
      obtain ⟨m1, q1, rfl, l1, _⟩ := own_shape o1 h0
      obtain ⟨m2, q2, rfl, l2, _⟩ := own_shape o2 h0
      obtain ⟨m3, q3, rfl, l3, _⟩ := own_shape o3 h0
      obtain ⟨m4, q4, rfl, l4, _⟩ := own_shape o4 h0
      obtain ⟨m5, q5, rfl, l5, _⟩ := own_shape o5 h0
      obtain ⟨m7, q7, rfl, l7, _⟩ := own_shape o7 h0
      have hap : [m1, m2, m3, m4, m5, m7].Nodup := by
        have := hRs.out.apart
        simp only [rowsOf, List.pairwise_cons, List.mem_cons, List.not_mem_nil, or_false, forall_eq_or_imp, forall_eq, ApartF, Value.ownBlock] at this
        simp [List.nodup_cons] at this ⊢
        omega
      have c2 := (hB.out.cell (p := ⟨w.heap.size, 2, none⟩) (Nat.lt_succ_self _)).trans HQ.out.c2
      dsimp only at c2
      have hns : p.sigs.length = ns := HP.out.s.len
      have h24 := (elems_le Hc.out).2.1
      obtain ⟨ii, hii, zi1, zi2, zi3⟩ := info_parts info_boolF
      have HXr := Lib.hid hX.out
      go_wp2_with (at_make; refine wpList_make_full _ rfl _ _ 42 rfl wr.heap.size 4 ii (.bool false) 1 Try.underlying42 hii zi1 zi2 _ _ _ _ ns rfl rfl rfl rfl (by rw [zi3]; omega) (by simp [maxLen]; omega) (Nat.le_refl _) ?_; intro w9 hown hgrow; have hbx := newBox_grown HXr.out hgrow; have fz := frozen_of_row w9 (w.heap.size + 1) 14 _ _ hbx; have k14 := newBox_14 hbx)
      have hbx := newBox_grown HXr.out hgrow
      go_ret
      have hsz := hgrow.size
      refine ⟨⟨w.heap.size + 1, m1, q1, m2, q2, m3, q3, m4, q4, m5, q5, wr.heap.size, ns, m7, q7⟩, rfl, ?_, ?_⟩
      · rw [show (Value.bool false).cells = #[Value.bool false] from rfl, Nat.mul_one, toList_madeCells_one] at hown
        have hnb : ∀ m : Nat, m < wr.heap.size → m ≠ w.heap.size + 1 → ((w9.setCell ⟨w.heap.size + 1, 14, none⟩ (.slice (some ⟨wr.heap.size, 0, none⟩) ns ns)).heap[m]?) = wr.heap[m]? := fun m h1 h2 =>
          (Below.heap_setCell w9 ⟨w.heap.size + 1, 14, none⟩ _ m h2).trans (hgrow.block m h1 (by simp))
        have hl : (newRFld p).pts.length = j := by simp [newRFld, hne]
        have hd : (newRFld p).dark.length = ns := by simp [newRFld, hns]
        have e1 : (newRFld p).pts.map (·.lie) = kindL p j := by simp [newRFld, kindL, newR, hne, Function.comp_def]
        have e2 : (newRFld p).pts.map (·.goal) = kindL p j := by simp [newRFld, kindL, newR, hne, Function.comp_def]
        have e3 : (newRFld p).pts.map (·.left) = List.replicate j 0 := by simp [newRFld, newR, hne, Function.comp_def, List.map_const']
        have e4 : (newRFld p).pts.map (·.stick) = List.replicate j false := by simp [newRFld, newR, hne, Function.comp_def, List.map_const']
        have e5 : (newRFld p).pts.map (·.blind) = List.replicate j false := by simp [newRFld, newR, hne, Function.comp_def, List.map_const']
        have e7 : (newRFld p).pts.map (·.short) = List.replicate j false := by simp [newRFld, newR, hne, Function.comp_def, List.map_const']
        have hs9 : (w9.setCell ⟨w.heap.size + 1, 14, none⟩ (.slice (some ⟨wr.heap.size, 0, none⟩) ns ns)).heap.size = w9.heap.size := by simp [World.setCell]
        have hw9 := (own_shape' hown).2
        refine ⟨?_, ?_, ?_, ?_, ?_, ?_, ?_, ?_, ?_, ?_, Nat.le_refl _⟩
        · rw [hl, hd]
          exact heap_setCell_same w9 (w.heap.size + 1) 14 _ _ _ hbx
        · rw [hl, e1]; exact owns_base (owns_same o1 (hnb m1 (by assumption) (by omega))) (by omega)
        · rw [hl, e2]; exact owns_base (owns_same o2 (hnb m2 (by assumption) (by omega))) (by omega)
        · rw [hl, e3]; exact owns_base (owns_same o3 (hnb m3 (by assumption) (by omega))) (by omega)
        · rw [hl, e4]; exact owns_base (owns_same o4 (hnb m4 (by assumption) (by omega))) (by omega)
        · rw [hl, e5]; exact owns_base (owns_same o5 (hnb m5 (by assumption) (by omega))) (by omega)
        · rw [hd]
          have : (newRFld p).dark = List.replicate ns false := by simp [newRFld, hns]
          rw [this]
          refine owns_base (owns_same (w := w9) (by simpa using hown) (Below.heap_setCell w9 ⟨w.heap.size + 1, 14, none⟩ _ wr.heap.size (by show wr.heap.size ≠ w.heap.size + 1; omega))) (by omega)
        · rw [hl, e7]; exact owns_base (owns_same o7 (hnb m7 (by assumption) (by omega))) (by omega)
        · simp only [RB.blocks, List.nodup_cons, List.mem_cons, List.not_mem_nil, or_false, not_or, not_false_eq_true, List.nodup_nil, and_true] at hap ⊢
          omega
        · intro k hk
          rw [hs9]
          simp only [RB.blocks, List.mem_cons, List.not_mem_nil, or_false] at hk
          omega
      · have hb2 : Below w.heap.size w wr := HB.out.trans (hB.out.mono (Nat.le_succ _))
        have hb3 : Below w.heap.size w w9 := hb2.grown hgrow (by omega) (by intro k hk; cases hk)
        exact hb3.setCell (p := ⟨w.heap.size + 1, 14, none⟩) (Nat.le_succ _) _
end Go.Proofs.Ytlgekkffekagbaa
