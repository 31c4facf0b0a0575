/- The path of a search for roads in memory: its block and its three rows, and what a step on them leaves. No condition. -/
import Derived.Test.YtcaeglnfflkabaaGreatTopW1
set_option maxRecDepth 1000000
namespace Go.Proofs.YtcaeglnfflkabaaGreat
open Go.ChangeShapes Go.WideShapes Go.ChangeAt Go.RowKit Go.Sort

/-- a row that the search owns: its value, its elements' type and size, how many, the cells -/
structure RowM where
  v : Value
  e : TypeId
  sz : Nat
  n : Nat
  xs : List Value
def ApartM (a b : RowM) : Prop := ∀ k, a.v.ownBlock = some k → b.v.ownBlock ≠ some k
theorem apm_symm {a b : RowM} (h : ApartM a b) : ApartM b a := fun k hb ha => h k ha hb
structure RowsM (w : World) (base : Nat) (l : List RowM) : Prop where
  own : ∀ q ∈ l, w.ownsRow base q.e q.sz q.v q.n q.xs
  apart : l.Pairwise ApartM
section
variable {w w' : World} {base b : Nat} {l : List RowM}
theorem RowsM.below (h : RowsM w base l) (hb : Below w.heap.size w w') : RowsM w' base l := ⟨fun q hq => owns_below (h.own q hq) hb, h.apart⟩
theorem RowsM.alloc (h : RowsM w base l) (o : Obj) : RowsM (w.alloc o) base l := ⟨fun q hq => (h.own q hq).alloc o, h.apart⟩
theorem RowsM.low (h : RowsM w base l) {g : Nat} (hg : g < base) (o : Nat) (u : Value) : RowsM (w.setCell ⟨g, o, none⟩ u) base l := ⟨fun q hq => ownsRow_setCell_below (h.own q hq) (a := ⟨g, o, none⟩) hg u, h.apart⟩
theorem pairset {r : RowM → RowM → Prop} : ∀ (l : List RowM) (i : Nat) (q z : RowM), l[i]? = some q → l.Pairwise r → (∀ (j : Nat) x, l[j]? = some x → j ≠ i → r x z ∧ r z x) → (l.set i z).Pairwise r
  | [], _, _, _, h, _, _ => by simp at h
  | a :: t, 0, q, z, h, hp, hy => by
    simp only [List.set_cons_zero, List.pairwise_cons] at *
    refine ⟨fun c hc => ?_, hp.2⟩
    obtain ⟨j, hj⟩ := List.getElem?_of_mem hc
    exact (hy (j + 1) c (by simpa using hj) (by omega)).2
  | a :: t, i + 1, q, z, h, hp, hy => by
    simp only [List.set_cons_succ, List.pairwise_cons] at *
    refine ⟨fun c hc => ?_, ?_⟩
    · rcases List.mem_or_eq_of_mem_set hc with hc | rfl
      · exact hp.1 c hc
      · exact (hy 0 a rfl (by omega)).1
    · exact pairset t i q z (by simpa using h) hp.2 fun j x hj hne => hy (j + 1) x (by simpa using hj) (by omega)
theorem pairget {r : RowM → RowM → Prop} {i j : Nat} {x y : RowM} (hp : l.Pairwise r) (hs : ∀ a b, r a b → r b a) (hx : l[i]? = some x) (hy : l[j]? = some y) (hne : i ≠ j) : r x y := by
  rw [List.pairwise_iff_getElem] at hp
  obtain ⟨h1, rfl⟩ := List.getElem?_eq_some_iff.1 hx
  obtain ⟨h2, rfl⟩ := List.getElem?_eq_some_iff.1 hy
  rcases Nat.lt_or_gt_of_ne hne with h | h
  · exact hp i j h1 h2 h
  · exact hs _ _ (hp j i h2 h1 h)
/-- an append to one of the rows -/
theorem RowsM.app (h : RowsM w base l) {k : Nat} {q : RowM} (hk : l[k]? = some q) {z : Value} {n : Nat} {xs : List Value} (hz : w'.ownsRow base q.e q.sz z n xs) (hg : w.grownBy w' q.v.ownBlock)
    (hb : z.ownBlock = q.v.ownBlock ∨ z.ownBlock = some w.heap.size) : RowsM w' base (l.set k ⟨z, q.e, q.sz, n, xs⟩) := by
  have hap : ∀ (j : Nat) x, l[j]? = some x → j ≠ k → ApartM x q := fun j x hj hne => pairget h.apart (fun _ _ => apm_symm) hj hk hne
  refine ⟨fun x hx => ?_, pairset l k q _ hk h.apart fun j x hj hne => ?_⟩
  · obtain ⟨j, hj⟩ := List.getElem?_of_mem hx
    by_cases hjk : j = k
    · subst hjk
      have hlt : j < l.length := (List.getElem?_eq_some_iff.1 hk).1
      rw [List.getElem?_set_self hlt] at hj
      cases hj
      exact hz
    · rw [List.getElem?_set_ne (fun e => hjk e.symm)] at hj
      have ho := h.own x (List.mem_of_getElem? hj)
      have hx2 := hap j x hj hjk
      obtain ⟨h1, h2⟩ := ho
      refine ⟨h1, h2.imp id fun ⟨g, cap, cur, hv, hgb, hh, r⟩ => ⟨g, cap, cur, hv, hgb, ?_, r⟩⟩
      rw [hg.block g (Array.getElem?_eq_some_iff.1 hh).1 (fun hc => hx2 g (by rw [hv]; rfl) hc.symm)]
      exact hh
  · have hx2 := hap j x hj hne
    have ho := h.own x (List.mem_of_getElem? hj)
    have key : ApartM x ⟨z, q.e, q.sz, n, xs⟩ := fun g hgx hgz => by
      rcases hb with hb | hb
      · rw [hb] at hgz; exact hx2 g hgx hgz
      · rw [hb] at hgz; cases hgz; exact absurd (ho.lt _ hgx).2 (Nat.lt_irrefl _)
    exact ⟨key, apm_symm key⟩
end
/-- nothing has changed below base but block b -/
structure Near (b base : Nat) (w w' : World) : Prop where
  os : w'.os = w.os
  tape : w'.tape = w.tape
  output : w'.output = w.output
  size : w.heap.size ≤ w'.heap.size
  block : ∀ k, k < base → k ≠ b → w'.heap[k]? = w.heap[k]?
/-- of what was there, only block b and the own blocks of l may have changed; l' lie there or in new blocks -/
structure NearR (b : Nat) (l l' : List Value) (w w' : World) : Prop where
  os : w'.os = w.os
  tape : w'.tape = w.tape
  output : w'.output = w.output
  size : w.heap.size ≤ w'.heap.size
  block : ∀ k, k < w.heap.size → k ≠ b → (∀ v ∈ l, v.ownBlock ≠ some k) → w'.heap[k]? = w.heap[k]?
  own : ∀ v ∈ l', ∀ k, v.ownBlock = some k → k < w.heap.size → ∃ u ∈ l, u.ownBlock = some k
section
variable {w w' w2 : World} {b base : Nat}
theorem NearR.refl (b : Nat) (l : List Value) (w : World) : NearR b l l w w := ⟨rfl, rfl, rfl, Nat.le_refl _, fun _ _ _ _ => rfl, fun v hv _ hk _ => ⟨v, hv, hk⟩⟩
theorem NearR.trans {l l' l'' : List Value} (h : NearR b l l' w w') (h2 : NearR b l' l'' w' w2) : NearR b l l'' w w2 :=
  ⟨h2.os.trans h.os, h2.tape.trans h.tape, h2.output.trans h.output, Nat.le_trans h.size h2.size,
    fun k hk hb hl => (h2.block k (Nat.lt_of_lt_of_le hk h.size) hb (fun v hv hc => by obtain ⟨u, hu, hu2⟩ := h.own v hv k hc hk; exact hl u hu hu2)).trans (h.block k hk hb hl),
    fun v hv k hk hlt => by obtain ⟨u, hu, hu2⟩ := h2.own v hv k hk (Nat.lt_of_lt_of_le hlt h.size); exact h.own u hu k hu2 hlt⟩
theorem NearR.of_below {l : List Value} (h : Below w.heap.size w w') : NearR b l l w w' := ⟨h.os, h.tape, h.output, h.size, fun k hk _ _ => h.block k hk, fun v hv _ hk _ => ⟨v, hv, hk⟩⟩
theorem NearR.near {l l' : List Value} (h : NearR b l l' w w') (hl : ∀ v ∈ l, ∀ k, v.ownBlock = some k → base ≤ k) (hb : base ≤ w.heap.size) : Near b base w w' :=
  ⟨h.os, h.tape, h.output, h.size, fun k hk hkb => h.block k (by omega) hkb (fun v hv hc => by have := hl v hv k hc; omega)⟩
theorem grown_R {l l' : List Value} {u v : Value} (h : w.grownBy w' u.ownBlock) (hu : u ∈ l) (hb : v.ownBlock = u.ownBlock ∨ v.ownBlock = some w.heap.size) (hl : ∀ x ∈ l', x = v ∨ x ∈ l) : NearR b l l' w w' :=
  ⟨h.os, h.tape, h.output, h.size, fun k hk _ hn => h.block k hk (fun hc => hn u hu hc.symm), fun x hx k hk hlt => by
    rcases hl x hx with rfl | hx
    · rcases hb with hb | hb
      · exact ⟨u, hu, by rw [← hb]; exact hk⟩
      · rw [hb] at hk; cases hk; omega
    · exact ⟨x, hx, hk⟩⟩
theorem set_R (l : List Value) (w : World) (o : Nat) (v : Value) : NearR b l l w (w.setCell ⟨b, o, none⟩ v) := ⟨rfl, rfl, rfl, by simp [World.setCell], fun k _ hb _ => Below.heap_setCell w ⟨b, o, none⟩ v k hb, fun v hv _ hk _ => ⟨v, hv, hk⟩⟩
end
/-- a slice of ways -/
structure WS where
  a : Option Addr
  n : Nat
  c : Nat
def encWS (x : WS) : List Value := [.slice x.a x.n x.c]
theorem encWS_len (x : WS) : (encWS x).length = 1 := rfl
theorem encWS_one (x : WS) : ∀ u ∈ encWS x, u.oneCell' = true := by
  intro u hu
  simp only [encWS, List.mem_cons, List.not_mem_nil, or_false] at hu
  rcases hu with rfl
  rfl
def rowS (v : Value) (l : List Stp) : RowM := ⟨v, 146, 3, l.length, l.flatMap encStp⟩
def rowI (v : Value) (l : List Int) : RowM := ⟨v, 3, 1, l.length, l.flatMap encInt⟩
def rowL (v : Value) (l : List WS) : RowM := ⟨v, 227, 1, l.length, l.flatMap encWS⟩
/-- Block b of w is a path; its rows lie from base on. -/
structure PathIs (w : World) (b base : Nat) (berth : Int) (sv pv lv : Value) (xs : List Stp) (ps : List Int) (ls : List WS) : Prop where
  box : w.heap[b]? = some (.cells #[.int .i64 berth, sv, pv, lv] 223)
  lt : b < base
  le : base ≤ w.heap.size
  rows : RowsM w base [rowS sv xs, rowI pv ps, rowL lv ls]
section
variable {w w' : World} {b base : Nat} {berth : Int} {sv pv lv : Value} {xs : List Stp} {ps : List Int} {ls : List WS}
theorem PathIs.bl (h : PathIs w b base berth sv pv lv xs ps ls) : b < w.heap.size := Nat.lt_of_lt_of_le h.lt h.le
theorem PathIs.os (h : PathIs w b base berth sv pv lv xs ps ls) : w.ownsRow base 146 3 sv xs.length (xs.flatMap encStp) := h.rows.own (rowS sv xs) (by simp)
theorem PathIs.oi (h : PathIs w b base berth sv pv lv xs ps ls) : w.ownsRow base 3 1 pv ps.length (ps.flatMap encInt) := h.rows.own (rowI pv ps) (by simp)
theorem PathIs.ol (h : PathIs w b base berth sv pv lv xs ps ls) : w.ownsRow base 227 1 lv ls.length (ls.flatMap encWS) := h.rows.own (rowL lv ls) (by simp)
theorem PathIs.c0 (h : PathIs w b base berth sv pv lv xs ps ls) : w.cell? ⟨b, 0, none⟩ = some (.int .i64 berth) := cell_of_row w b 0 _ _ (0, 0) h.box
theorem PathIs.c1 (h : PathIs w b base berth sv pv lv xs ps ls) : w.cell? ⟨b, 1, none⟩ = some sv := cell_of_row w b 1 _ _ (0, 0) h.box
theorem PathIs.c2 (h : PathIs w b base berth sv pv lv xs ps ls) : w.cell? ⟨b, 2, none⟩ = some pv := cell_of_row w b 2 _ _ (0, 0) h.box
theorem PathIs.c3 (h : PathIs w b base berth sv pv lv xs ps ls) : w.cell? ⟨b, 3, none⟩ = some lv := cell_of_row w b 3 _ _ (0, 0) h.box
theorem PathIs.below (h : PathIs w b base berth sv pv lv xs ps ls) (hb : Below w.heap.size w w') : PathIs w' b base berth sv pv lv xs ps ls :=
  ⟨(hb.block b h.bl).trans h.box, h.lt, Nat.le_trans h.le hb.size, h.rows.below hb⟩
theorem PathIs.lows (h : PathIs w b base berth sv pv lv xs ps ls) : ∀ v ∈ [sv, pv, lv], ∀ k, v.ownBlock = some k → base ≤ k := by
  intro v hv k hk
  simp only [List.mem_cons, List.not_mem_nil, or_false] at hv
  rcases hv with rfl | rfl | rfl
  · exact (h.os.lt k hk).1
  · exact (h.oi.lt k hk).1
  · exact (h.ol.lt k hk).1
/-- the path after an append to its steps, its positions, its ways, and the store of the new slice -/
theorem PathIs.step (h : PathIs w b base berth sv pv lv xs ps ls) {x : Stp} {v : Value} (ho : w'.ownsRow base 146 3 v (xs.length + 1) ((xs ++ [x]).flatMap encStp)) (hg : w.grownBy w' sv.ownBlock) (hb : v.ownBlock = sv.ownBlock ∨ v.ownBlock = some w.heap.size) :
    PathIs (w'.setCell ⟨b, 1, none⟩ v) b base berth v pv lv (xs ++ [x]) ps ls ∧ NearR b [sv, pv, lv] [v, pv, lv] w (w'.setCell ⟨b, 1, none⟩ v) := by
  have hq := h.os
  have hr := h.rows.app (k := 0) rfl (z := v) (n := xs.length + 1) (xs := (xs ++ [x]).flatMap encStp) ho hg hb
  have hbb : w'.heap[b]? = w.heap[b]? := hg.block b h.bl (fun hc => by have := (hq.lt b hc.symm).1; have := h.lt; omega)
  refine ⟨⟨heap_setCell_same w' b 1 _ _ v (hbb.trans h.box), h.lt, by have := h.le; have := hg.size; simp [World.setCell]; omega, ?_⟩, (grown_R hg (by simp) hb (fun x hx => by simp only [List.mem_cons, List.not_mem_nil, or_false] at hx ⊢; rcases hx with rfl | rfl | rfl <;> simp)).trans (set_R _ w' 1 v)⟩
  have := hr.low h.lt 1 v
  simpa [rowS] using this
theorem PathIs.posn (h : PathIs w b base berth sv pv lv xs ps ls) {x : Int} {v : Value} (ho : w'.ownsRow base 3 1 v (ps.length + 1) ((ps ++ [x]).flatMap encInt)) (hg : w.grownBy w' pv.ownBlock) (hb : v.ownBlock = pv.ownBlock ∨ v.ownBlock = some w.heap.size) :
    PathIs (w'.setCell ⟨b, 2, none⟩ v) b base berth sv v lv xs (ps ++ [x]) ls ∧ NearR b [sv, pv, lv] [sv, v, lv] w (w'.setCell ⟨b, 2, none⟩ v) := by
  have hq := h.oi
  have hr := h.rows.app (k := 1) rfl (z := v) (n := ps.length + 1) (xs := (ps ++ [x]).flatMap encInt) ho hg hb
  have hbb : w'.heap[b]? = w.heap[b]? := hg.block b h.bl (fun hc => by have := (hq.lt b hc.symm).1; have := h.lt; omega)
  refine ⟨⟨heap_setCell_same w' b 2 _ _ v (hbb.trans h.box), h.lt, by have := h.le; have := hg.size; simp [World.setCell]; omega, ?_⟩, (grown_R hg (by simp) hb (fun x hx => by simp only [List.mem_cons, List.not_mem_nil, or_false] at hx ⊢; rcases hx with rfl | rfl | rfl <;> simp)).trans (set_R _ w' 2 v)⟩
  have := hr.low h.lt 2 v
  simpa [rowI] using this
theorem PathIs.way (h : PathIs w b base berth sv pv lv xs ps ls) {x : WS} {v : Value} (ho : w'.ownsRow base 227 1 v (ls.length + 1) ((ls ++ [x]).flatMap encWS)) (hg : w.grownBy w' lv.ownBlock) (hb : v.ownBlock = lv.ownBlock ∨ v.ownBlock = some w.heap.size) :
    PathIs (w'.setCell ⟨b, 3, none⟩ v) b base berth sv pv v xs ps (ls ++ [x]) ∧ NearR b [sv, pv, lv] [sv, pv, v] w (w'.setCell ⟨b, 3, none⟩ v) := by
  have hq := h.ol
  have hr := h.rows.app (k := 2) rfl (z := v) (n := ls.length + 1) (xs := (ls ++ [x]).flatMap encWS) ho hg hb
  have hbb : w'.heap[b]? = w.heap[b]? := hg.block b h.bl (fun hc => by have := (hq.lt b hc.symm).1; have := h.lt; omega)
  refine ⟨⟨heap_setCell_same w' b 3 _ _ v (hbb.trans h.box), h.lt, by have := h.le; have := hg.size; simp [World.setCell]; omega, ?_⟩, (grown_R hg (by simp) hb (fun x hx => by simp only [List.mem_cons, List.not_mem_nil, or_false] at hx ⊢; rcases hx with rfl | rfl | rfl <;> simp)).trans (set_R _ w' 3 v)⟩
  have := hr.low h.lt 3 v
  simpa [rowL] using this
end
end Go.Proofs.YtcaeglnfflkabaaGreat
