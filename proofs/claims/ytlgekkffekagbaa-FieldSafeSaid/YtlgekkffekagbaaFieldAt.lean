/- A field in memory: how its block reads and what a store into it makes of it. No condition beyond what is read. -/
import Derived.Test.YtlgekkffekagbaaFieldDef
import Derived.Test.YtlgekkffekagbaaNetM1
set_option maxRecDepth 1000000
namespace Go.Proofs.Ytlgekkffekagbaa
open Go.ChangeShapes Go.WideShapes Go.ChangeAt Go.RowKit Go.Sort

def encPt (x : Pt) : List Value := [.int .i64 x.lie, .int .i64 x.to, .int .i64 x.left, .bool x.stick, .bool x.blind]
theorem flatPt_length (l : List Pt) : (l.flatMap encPt).length = l.length * 5 := by
  induction l with
  | nil => rfl
  | cons x r ih => simp only [List.flatMap_cons, List.length_append, ih, List.length_cons, encPt, List.length_nil]; omega
theorem flatPt_get : ∀ (l : List Pt) (i k : Nat) (x : Pt), l[i]? = some x → k < 5 → (l.flatMap encPt)[i * 5 + k]? = (encPt x)[k]?
  | [], _, _, _, h, _ => by simp at h
  | y :: r, 0, k, x, h, hk => by
    simp only [List.getElem?_cons_zero, Option.some.injEq] at h; subst h
    rw [List.flatMap_cons, List.getElem?_append_left (by simp [encPt]; omega)]; simp
  | y :: r, i + 1, k, x, h, hk => by
    rw [List.flatMap_cons, List.getElem?_append_right (by simp [encPt]; omega), show (i + 1) * 5 + k - (encPt y).length = i * 5 + k from by simp [encPt]; omega]
    exact flatPt_get r i k x (by simpa using h) hk
theorem flatPt_set : ∀ (l : List Pt) (i k : Nat) (x y : Pt) (v : Value), l[i]? = some x → k < 5 → encPt y = (encPt x).set k v → (l.flatMap encPt).set (i * 5 + k) v = (l.set i y).flatMap encPt
  | [], _, _, _, _, _, h, _, _ => by simp at h
  | z :: r, 0, k, x, y, v, h, hk, he => by
    simp only [List.getElem?_cons_zero, Option.some.injEq] at h; subst h
    rw [List.flatMap_cons, List.set_append_left _ _ (by simp [encPt]; omega), List.set_cons_zero, List.flatMap_cons, he]; simp
  | z :: r, i + 1, k, x, y, v, h, hk, he => by
    rw [List.flatMap_cons, List.set_append_right _ _ (by simp [encPt]; omega), show (i + 1) * 5 + k - (encPt z).length = i * 5 + k from by simp [encPt]; omega, List.set_cons_succ, List.flatMap_cons,
      flatPt_set r i k x y v (by simpa using h) hk he]
def Fld.row (f : Fld) (nb : Value) : List Value := nb :: (f.pts.flatMap encPt ++ (f.short.map Value.bool ++ f.dark.map Value.bool))
theorem Fld.row_length {f : Fld} (h : f.len) (nb : Value) : (f.row nb).length = 265 := by
  obtain ⟨h1, h2, h3⟩ := h
  unfold Fld.row
  rw [List.length_cons, List.length_append, flatPt_length, List.length_append, List.length_map, List.length_map]; omega
theorem row_pt {f : Fld} (h : f.len) (nb : Value) {i k : Nat} (hi : i < 40) (hk : k < 5) : (f.row nb)[1 + i * 5 + k]? = (encPt (f.pt i))[k]? := by
  obtain ⟨h1, h2, h3⟩ := h
  rw [Fld.row, show 1 + i * 5 + k = (i * 5 + k) + 1 by omega, List.getElem?_cons_succ, List.getElem?_append_left (by rw [flatPt_length]; omega)]
  exact flatPt_get _ i k _ (pt_get (by omega)) hk
theorem row_short {f : Fld} (h : f.len) (nb : Value) {i : Nat} (hi : i < 40) : (f.row nb)[201 + i]? = some (.bool (f.short.getD i false)) := by
  obtain ⟨h1, h2, h3⟩ := h
  rw [Fld.row, show 201 + i = (200 + i) + 1 by omega, List.getElem?_cons_succ, List.getElem?_append_right (by rw [flatPt_length]; omega), flatPt_length, h1, show 200 + i - 40 * 5 = i by omega,
    List.getElem?_append_left (by simp; omega)]
  simp [List.getD, show i < f.short.length from by omega]
theorem row_dark {f : Fld} (h : f.len) (nb : Value) {i : Nat} (hi : i < 24) : (f.row nb)[241 + i]? = some (.bool (f.dark.getD i false)) := by
  obtain ⟨h1, h2, h3⟩ := h
  rw [Fld.row, show 241 + i = (240 + i) + 1 by omega, List.getElem?_cons_succ, List.getElem?_append_right (by rw [flatPt_length]; omega), flatPt_length, h1, show 240 + i - 40 * 5 = 40 + i by omega,
    List.getElem?_append_right (by simp; omega)]
  simp [List.getD, h2, show i < f.dark.length from by omega]
theorem row_setPt {f : Fld} (h : f.len) (nb : Value) {i k : Nat} (hi : i < 40) (hk : k < 5) {v : Value} {y : Pt} (he : encPt y = (encPt (f.pt i)).set k v) : (f.row nb).set (1 + i * 5 + k) v = ({ f with pts := f.pts.set i y } : Fld).row nb := by
  obtain ⟨h1, h2, h3⟩ := h
  rw [Fld.row, show 1 + i * 5 + k = (i * 5 + k) + 1 by omega, List.set_cons_succ, List.set_append_left _ _ (by rw [flatPt_length]; omega), flatPt_set _ i k _ y v (pt_get (by omega)) hk he]
  rfl
theorem row_setShort {f : Fld} (h : f.len) (nb : Value) {i : Nat} (hi : i < 40) (v : Bool) : (f.row nb).set (201 + i) (.bool v) = ({ f with short := f.short.set i v } : Fld).row nb := by
  obtain ⟨h1, h2, h3⟩ := h
  rw [Fld.row, show 201 + i = (200 + i) + 1 by omega, List.set_cons_succ, List.set_append_right _ _ (by rw [flatPt_length]; omega), flatPt_length, h1, show 200 + i - 40 * 5 = i by omega,
    List.set_append_left _ _ (by simp; omega), ← List.map_set]
  rfl
theorem row_setDark {f : Fld} (h : f.len) (nb : Value) {i : Nat} (hi : i < 24) (v : Bool) : (f.row nb).set (241 + i) (.bool v) = ({ f with dark := f.dark.set i v } : Fld).row nb := by
  obtain ⟨h1, h2, h3⟩ := h
  rw [Fld.row, show 241 + i = (240 + i) + 1 by omega, List.set_cons_succ, List.set_append_right _ _ (by rw [flatPt_length]; omega), flatPt_length, h1, show 240 + i - 40 * 5 = 40 + i by omega,
    List.set_append_right _ _ (by simp; omega), show 40 + i - (f.short.map Value.bool).length = i by simp [h2], ← List.map_set]
  rfl

/-- block b of w holds the field f over the net to which nb leads -/
def FldBox (w : World) (b : Nat) (nb : Value) (f : Fld) : Prop := w.heap[b]? = some (.cells (f.row nb).toArray 70)
section
variable {w w' : World} {b : Nat} {nb : Value} {f : Fld} {p : Plan}
theorem FldBox.lt (h : FldBox w b nb f) : b < w.heap.size := (Array.getElem?_eq_some_iff.1 h).1
theorem FldBox.same (h : FldBox w b nb f) (hb : w'.heap[b]? = w.heap[b]?) : FldBox w' b nb f := Eq.trans hb h
theorem FldBox.below (h : FldBox w b nb f) {B : Nat} (hb : Below B w w') (hB : b < B) : FldBox w' b nb f := h.same (hb.block b hB)
theorem FldBox.cell (h : FldBox w b nb f) (o : Nat) : w.cell? ⟨b, o, none⟩ = (f.row nb)[o]? := by rw [cell_of_row w b o _ _ (0, 0) h]; simp
theorem FldBox.frozen (h : FldBox w b nb f) (o : Nat) : w.frozen? ⟨b, o, none⟩ = false := frozen_of_row w b o _ _ h
theorem FldBox.net (h : FldBox w b nb f) : w.cell? ⟨b, 0, none⟩ = some nb := by rw [h.cell]; rfl
theorem FldBox.put (h : FldBox w b nb f) {o : Nat} {v : Value} {f' : Fld} (hc : (f.row nb).set o v = f'.row nb) : FldBox (w.setCell ⟨b, o, none⟩ v) b nb f' := by
  unfold FldBox
  rw [← hc]
  have := heap_setCell_same w b o _ _ v h
  simpa using this
theorem FldBox.lie (h : FldBox w b nb f) (hl : f.len) {i : Nat} (hi : i < 40) : w.cell? ⟨b, 1 + i * 5, none⟩ = some (.int .i64 (f.pt i).lie) := by rw [h.cell]; exact row_pt hl nb (k := 0) hi (by omega)
theorem FldBox.to (h : FldBox w b nb f) (hl : f.len) {i : Nat} (hi : i < 40) : w.cell? ⟨b, 1 + i * 5 + 1, none⟩ = some (.int .i64 (f.pt i).to) := by rw [h.cell]; exact row_pt hl nb (k := 1) hi (by omega)
theorem FldBox.left (h : FldBox w b nb f) (hl : f.len) {i : Nat} (hi : i < 40) : w.cell? ⟨b, 1 + i * 5 + 2, none⟩ = some (.int .i64 (f.pt i).left) := by rw [h.cell]; exact row_pt hl nb (k := 2) hi (by omega)
theorem FldBox.stick (h : FldBox w b nb f) (hl : f.len) {i : Nat} (hi : i < 40) : w.cell? ⟨b, 1 + i * 5 + 3, none⟩ = some (.bool (f.pt i).stick) := by rw [h.cell]; exact row_pt hl nb (k := 3) hi (by omega)
theorem FldBox.blind (h : FldBox w b nb f) (hl : f.len) {i : Nat} (hi : i < 40) : w.cell? ⟨b, 1 + i * 5 + 4, none⟩ = some (.bool (f.pt i).blind) := by rw [h.cell]; exact row_pt hl nb (k := 4) hi (by omega)
theorem FldBox.short (h : FldBox w b nb f) (hl : f.len) {i : Nat} (hi : i < 40) : w.cell? ⟨b, 201 + i, none⟩ = some (.bool (f.short.getD i false)) := by rw [h.cell]; exact row_short hl nb hi
theorem FldBox.dark (h : FldBox w b nb f) (hl : f.len) {i : Nat} (hi : i < 24) : w.cell? ⟨b, 241 + i, none⟩ = some (.bool (f.dark.getD i false)) := by rw [h.cell]; exact row_dark hl nb hi
theorem FldBox.setPt (h : FldBox w b nb f) (hl : f.len) {i k : Nat} (hi : i < 40) (hk : k < 5) {v : Value} {y : Pt} (he : encPt y = (encPt (f.pt i)).set k v) : FldBox (w.setCell ⟨b, 1 + i * 5 + k, none⟩ v) b nb { f with pts := f.pts.set i y } :=
  h.put (row_setPt hl nb hi hk he)
theorem FldBox.setShort (h : FldBox w b nb f) (hl : f.len) {i : Nat} (hi : i < 40) (v : Bool) : FldBox (w.setCell ⟨b, 201 + i, none⟩ (.bool v)) b nb { f with short := f.short.set i v } := h.put (row_setShort hl nb hi v)
theorem FldBox.setDark (h : FldBox w b nb f) (hl : f.len) {i : Nat} (hi : i < 24) (v : Bool) : FldBox (w.setCell ⟨b, 241 + i, none⟩ (.bool v)) b nb { f with dark := f.dark.set i v } := h.put (row_setDark hl nb hi v)
end

/-- Only blocks of the set S, and new ones, differ. -/
structure Upd (S : Nat → Prop) (w w' : World) : Prop where
  os : w'.os = w.os
  tape : w'.tape = w.tape
  output : w'.output = w.output
  size : w.heap.size ≤ w'.heap.size
  block : ∀ k, k < w.heap.size → ¬ S k → w'.heap[k]? = w.heap[k]?
theorem Upd.refl (S : Nat → Prop) (w : World) : Upd S w w := ⟨rfl, rfl, rfl, Nat.le_refl _, fun _ _ _ => rfl⟩
theorem Upd.trans {S : Nat → Prop} {a b c : World} (h : Upd S a b) (k : Upd S b c) : Upd S a c :=
  ⟨k.os.trans h.os, k.tape.trans h.tape, k.output.trans h.output, Nat.le_trans h.size k.size, fun i hi hs => (k.block i (Nat.lt_of_lt_of_le hi h.size) hs).trans (h.block i hi hs)⟩
theorem Upd.mono {S T : Nat → Prop} {w w' : World} (h : Upd S w w') (ht : ∀ k, S k → T k) : Upd T w w' := ⟨h.os, h.tape, h.output, h.size, fun k hk hs => h.block k hk fun e => hs (ht k e)⟩
theorem Upd.of_below {S : Nat → Prop} {w w' : World} (h : Below w.heap.size w w') : Upd S w w' := ⟨h.os, h.tape, h.output, h.size, fun k hk _ => h.block k hk⟩
theorem Upd.below {S : Nat → Prop} {B : Nat} {w w' : World} (h : Upd S w w') (hS : ∀ k, S k → B ≤ k) (hB : B ≤ w.heap.size) : Below B w w' :=
  ⟨h.os, h.tape, h.output, h.size, fun k hk => h.block k (Nat.lt_of_lt_of_le hk hB) fun e => Nat.not_le.2 hk (hS k e)⟩
theorem Upd.setCell {S : Nat → Prop} {w w' : World} (h : Upd S w w') {a : Addr} (ha : S a.block) (v : Value) : Upd S w (w'.setCell a v) := by
  refine ⟨h.os, h.tape, h.output, by simpa [World.setCell] using h.size, fun k hk hs => ?_⟩
  rw [Below.heap_setCell w' a v k (fun e => hs (by rw [e]; exact ha))]
  exact h.block k hk hs
theorem Upd.drewN {S : Nat → Prop} {w w' : World} (h : Upd S w w') (n : Nat) : Upd S w (w'.drewN n) :=
  h.trans (Upd.of_below (below_drewN (Below.refl _ _) n))
theorem Upd.drew {S : Nat → Prop} {w w' : World} (h : Upd S w w') : Upd S w w'.drew := ⟨h.os, h.tape, h.output, h.size, h.block⟩
theorem Upd.alloc {S : Nat → Prop} {w w' : World} (h : Upd S w w') (o : Obj) : Upd S w (w'.alloc o) := h.trans (Upd.of_below (below_new _ _))
theorem Upd.then {S : Nat → Prop} {a b c : World} (h : Upd S a b) (hb : Below b.heap.size b c) : Upd S a c := h.trans (Upd.of_below hb)
theorem FldBox.upd {w w' : World} {b : Nat} {nb : Value} {f : Fld} (h : FldBox w b nb f) {S : Nat → Prop} (hu : Upd S w w') (hs : ¬ S b) : FldBox w' b nb f := h.same (hu.block b h.lt hs)
/-- only the block b differs, and new ones -/
abbrev Only (b : Nat) (w w' : World) : Prop := Upd (fun k => k = b) w w'
structure FldAt (w : World) (b nb : Nat) (p : Plan) (f : Fld) : Prop where
  box : FldBox w b (.pointer (some ⟨nb, 0, none⟩)) f
  ok : FldOk p f
theorem FldAt.upd {w w' : World} {b nb : Nat} {p : Plan} {f : Fld} (h : FldAt w b nb p f) {S : Nat → Prop} (hu : Upd S w w') (hs : ¬ S b) : FldAt w' b nb p f := ⟨h.box.upd hu hs, h.ok⟩
theorem FldAt.below {w w' : World} {b nb : Nat} {p : Plan} {f : Fld} (h : FldAt w b nb p f) (hb : Below w.heap.size w w') : FldAt w' b nb p f := ⟨h.box.below hb h.box.lt, h.ok⟩
end Go.Proofs.Ytlgekkffekagbaa
