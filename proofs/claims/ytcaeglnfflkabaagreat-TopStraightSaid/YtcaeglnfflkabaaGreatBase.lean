/- Rows of memory that read as lists: definitions and small laws that the walks use. No condition. -/
import Derived.Test.YtcaeglnfflkabaaGreatRows
import Derived.WalkKit
import Derived.WalkSpells
import Derived.WalkLawsBesides
import Derived.WalkSmall
import Derived.Deep.QuietTactic
import Derived.BigQuiet
import Derived.Deep.LoopGhost
import Derived.Lib.Hide
import Derived.Laws.AppendOwnNone
import Derived.Maps.RangeWalk
import Derived.Maps.OwnSet
import Derived.DeepKeys4
import Derived.ProofKit
import Derived.OpenShut
import Derived.ShutString
import Derived.ChangeOld
import Derived.Deep.Slices
import Derived.Deep.Fields
import Derived.ChangeSame
import Derived.Deep.AppendLies
namespace Go.Proofs.YtcaeglnfflkabaaGreat
open Go.RowKit

/-- A slice (address a, length n) whose elements take sz cells each reads as the list xs; enc gives an element's cells. -/
structure Row {α : Type} (sz : Nat) (enc : α → List Value) (w : World) (a : Option Addr) (n : Nat) (xs : List α) : Prop where
 len : xs.length = n
 bnd : n ≤ 9223372036854775807
 at_ : ∀ i x, xs[i]? = some x → ∃ b off, a = some ⟨b, off, none⟩ ∧ b < w.heap.size ∧ ∀ j v, (enc x)[j]? = some v → w.cell? ⟨b, off + i * sz + j, none⟩ = some v

theorem Row.below {α : Type} {sz : Nat} {enc : α → List Value} {w w' : World} {a : Option Addr} {n : Nat} {xs : List α} (h : Row sz enc w a n xs) (hb : Below w.heap.size w w') : Row sz enc w' a n xs := by
 refine ⟨h.len, h.bnd, fun i x hx => ?_⟩
 obtain ⟨b, off, ha, hlt, hc⟩ := h.at_ i x hx
 exact ⟨b, off, ha, Nat.lt_of_lt_of_le hlt hb.size, fun j v hv => (hb.cell (p := ⟨b, _, none⟩) hlt).trans (hc j v hv)⟩

theorem Row.nil {α : Type} {sz : Nat} {enc : α → List Value} (w : World) (a : Option Addr) : Row sz enc w a 0 ([] : List α) :=
 ⟨rfl, by omega, fun i x hx => by simp at hx⟩

/-! short names for what writes an act's slots out -/
theorem zA {α : Type} {l : List α} {i : Nat} (h : i < l.toArray.size) : l.toArray[i] = l[i]'(by simpa using h) := rfl
theorem zB {α : Type} {a : α} {l : List α} {i : Nat} (h : i + 1 < (a :: l).length) : (a :: l)[i + 1] = l[i]'(Nat.lt_of_succ_lt_succ h) := rfl
theorem zC {α : Type} {a : α} {l : List α} (h : 0 < (a :: l).length) : (a :: l)[0] = a := rfl
theorem zD {α : Type} (l : List α) (i : Nat) (a : α) : l.toArray.setIfInBounds i a = (l.set i a).toArray := List.setIfInBounds_toArray l i a
theorem zE {α : Type} {x a : α} {l : List α} : (x :: l).set 0 a = a :: l := rfl
theorem zF {α : Type} {x a : α} {l : List α} {i : Nat} : (x :: l).set (i + 1) a = x :: l.set i a := rfl
theorem get_some {α : Type} {xs : List α} {n i : Nat} (h : xs.length = n) (hi : i < n) : ∃ x, xs[i]? = some x := ⟨xs[i], List.getElem?_eq_getElem (by omega)⟩
theorem get_lt {α : Type} {xs : List α} {n i : Nat} {x : α} (h : xs.length = n) (hx : xs[i]? = some x) : i < n := by
 have := (List.getElem?_eq_some_iff.1 hx).1; omega

theorem drop_cons {α : Type} {xs : List α} {i : Nat} {x : α} (h : xs[i]? = some x) : xs.drop i = x :: xs.drop (i + 1) := by
 obtain ⟨hi, rfl⟩ := List.getElem?_eq_some_iff.1 h
 exact List.drop_eq_getElem_cons hi
theorem drop_end {α : Type} {xs : List α} {n i : Nat} (h : xs.length = n) (hi : n ≤ i) : xs.drop i = [] := List.drop_eq_nil_of_le (by omega)

/-- What a callee that makes memory of its own leaves to the caller: whatever lay there reads as before. -/
theorem below_step {B : Nat} {w w1 w2 : World} (h : Below B w w1) (h2 : Below w1.heap.size w1 w2) (hB : B ≤ w1.heap.size) : Below B w w2 := h.trans (h2.mono hB)
theorem below_size {w w1 : World} (h : Below w.heap.size w w1) : w.heap.size ≤ w1.heap.size := h.size

theorem owns_below {w w' : World} {base : Nat} {e : TypeId} {size : Nat} {v : Value} {n : Nat} {xs : List Value} (h : w.ownsRow base e size v n xs) (hb : Below w.heap.size w w') : w'.ownsRow base e size v n xs := by
 obtain ⟨h1, h2⟩ := h
 refine ⟨h1, ?_⟩
 rcases h2 with h2 | ⟨g, cap, cur, hv, hg, hh, r⟩
 ·exact .inl h2
 ·exact .inr ⟨g, cap, cur, hv, hg, by rw [hb.block g (Array.getElem?_eq_some_iff.1 hh).1]; exact hh, r⟩

/-- An owned row, read as a list of elements. -/
theorem owns_row {α : Type} {sz : Nat} {enc : α → List Value} (henc : ∀ x, (enc x).length = sz) {w : World} {base : Nat} {e : TypeId} {a : Option Addr} {n c m : Nat} {xs : List α}
  (h : w.ownsRow base e sz (.slice a n c) m (xs.flatMap enc)) (hs : 0 < sz) : Row sz enc w a n xs ∧ m = n := by
 obtain ⟨h1, h2⟩ := h
 have hl : (xs.flatMap enc).length = xs.length * sz := by
  clear h1 h2
  induction xs with
  | nil => simp
  | cons x r ih => simp only [List.flatMap_cons, List.length_append, henc, ih, List.length_cons, Nat.succ_mul]; omega
 have hm : xs.length = m := by rw [hl] at h1; exact Nat.eq_of_mul_eq_mul_right hs h1
 rcases h2 with ⟨hv, rfl⟩ | ⟨g, cap, cur, hv, hg, hh, hnc, hcm, hcs, htake⟩
 ·cases hv
  have : xs = [] := List.eq_nil_of_length_eq_zero hm
  subst this
  exact ⟨Row.nil _ _, rfl⟩
 ·cases hv
  refine ⟨⟨hm, by simp only [maxLen] at hcm; omega, fun i x hx => ⟨g, 0, rfl, (Array.getElem?_eq_some_iff.1 hh).1, fun j v hv => ?_⟩⟩, rfl⟩
  have hi : i < xs.length := (List.getElem?_eq_some_iff.1 hx).1
  have hj : j < sz := by have := (List.getElem?_eq_some_iff.1 hv).1; rwa [henc] at this
  have key : ∀ (ys : List α) (i : Nat) (x : α), ys[i]? = some x → (ys.flatMap enc)[i * sz + j]? = (enc x)[j]? := by
   intro ys
   induction ys with
   | nil => intro i x hx; simp at hx
   | cons y r ih =>
    intro i x hx
    cases i with
    | zero =>
     simp only [List.getElem?_cons_zero, Option.some.injEq] at hx; subst hx
     rw [List.flatMap_cons, List.getElem?_append_left (by rw [henc]; omega)]; simp
    | succ i =>
     rw [List.flatMap_cons, List.getElem?_append_right (by rw [henc, Nat.succ_mul]; omega), henc, show (i + 1) * sz + j - sz = i * sz + j from by rw [Nat.succ_mul]; omega]
     exact ih i x (by simpa using hx)
  have hk := key xs i x hx
  rw [hv, ← htake, List.getElem?_take] at hk
  split at hk
  ·rw [cell_of_row w g _ cur e (0, 0) hh, Nat.zero_add]
   simpa using hk
  ·cases hk

theorem one_int (k : IntKind) (a : Int) : ∀ u ∈ [Value.int k a], u.oneCell' = true := by intro u hu; simp at hu; subst hu; rfl
theorem ret_bool {a b : Bool} (h : a = b) : Ending.returned (.bool a) = .returned (.bool b) := by rw [h]
theorem ret_int {k : IntKind} {a b : Int} (h : a = b) : Ending.returned (.int k a) = .returned (.int k b) := by rw [h]

/-! Rows of integers. -/
def encInt (x : Int) : List Value := [.int .i64 x]
abbrev Ints (w : World) (a : Option Addr) (n : Nat) (xs : List Int) : Prop := Row 1 encInt w a n xs

theorem Row.int {w : World} {a : Option Addr} {n : Nat} {xs : List Int} (h : Row 1 encInt w a n xs) {i : Nat} {x : Int} (hx : xs[i]? = some x) :
  ∃ b off, a = some ⟨b, off, none⟩ ∧ b < w.heap.size ∧ w.cell? ⟨b, off + i, none⟩ = some (.int .i64 x) := by
 obtain ⟨b, off, ha, hb, hc⟩ := h.at_ i x hx
 exact ⟨b, off, ha, hb, by simpa using hc 0 _ rfl⟩
theorem Row.int' {w : World} {b off n : Nat} {xs : List Int} (h : Row 1 encInt w (some ⟨b, off, none⟩) n xs) {i : Nat} {x : Int} (hx : xs[i]? = some x) :
  b < w.heap.size ∧ w.cell? ⟨b, off + i, none⟩ = some (.int .i64 x) := by
 obtain ⟨b', off', ha, hb, hc⟩ := h.int hx
 cases ha; exact ⟨hb, hc⟩

theorem flat_ints (xs : List Int) : xs.flatMap encInt = xs.map (Value.int .i64) := by
 induction xs with
 | nil => rfl
 | cons x r ih => simp [List.flatMap_cons, encInt, ih]

/-! A row of integers that the call itself owns. -/
abbrev OwnI (w : World) (base : Nat) (v : Value) (n : Nat) (xs : List Int) : Prop := w.ownsRow base 3 1 v n (xs.map (Value.int .i64))
theorem own_len {w : World} {base : Nat} {v : Value} {n : Nat} {xs : List Int} (h : OwnI w base v n xs) : xs.length = n := by have := h.1; simpa using this
theorem own_shape {w : World} {base n size : Nat} {e : TypeId} {v : Value} {xs : List Value} (h : w.ownsRow base e size v n xs) (hn : 0 < n) : ∃ g cap, v = .slice (some ⟨g, 0, none⟩) n cap ∧ base ≤ g ∧ g < w.heap.size := by
 rcases h.2 with ⟨_, h0⟩ | ⟨g, cap, cur, rfl, hb, hg, _⟩
 ·omega
 ·exact ⟨g, cap, rfl, hb, (Array.getElem?_eq_some_iff.1 hg).1⟩
theorem own_shape' {w : World} {base n size c g : Nat} {e : TypeId} {xs : List Value} (h : w.ownsRow base e size (.slice (some ⟨g, 0, none⟩) n c) n xs) : base ≤ g ∧ g < w.heap.size := by
 rcases h.2 with ⟨h0, _⟩ | ⟨g', cap, cur, hv, hb, hg, _⟩
 ·cases h0
 ·cases hv; exact ⟨hb, (Array.getElem?_eq_some_iff.1 hg).1⟩
theorem owns_base {w : World} {base base' n size : Nat} {e : TypeId} {v : Value} {xs : List Value} (h : w.ownsRow base e size v n xs) (hb : base' ≤ base) : w.ownsRow base' e size v n xs := by
 obtain ⟨h1, h2⟩ := h
 exact ⟨h1, h2.imp id fun ⟨g, cap, cur, hv, hg, r⟩ => ⟨g, cap, cur, hv, Nat.le_trans hb hg, r⟩⟩
theorem own_slice {w : World} {base n size : Nat} {e : TypeId} {v : Value} {xs : List Value} (h : w.ownsRow base e size v n xs) : ∃ a cap, v = .slice a n cap ∧ n ≤ 9223372036854775807 ∧ (a = none → n = 0 ∧ cap = 0) := by
 rcases h.2 with ⟨rfl, rfl⟩ | ⟨g, cap, cur, rfl, hb, hg, h1, h2, _⟩
 ·exact ⟨none, 0, rfl, by omega, fun _ => ⟨rfl, rfl⟩⟩
 ·exact ⟨_, cap, rfl, by simp only [maxLen] at h2; omega, fun h => by cases h⟩
theorem own_ints {w : World} {base : Nat} {a : Option Addr} {n m c : Nat} {xs : List Int} (h : OwnI w base (.slice a n c) m xs) : Ints w a n xs ∧ m = n := by
 unfold OwnI at h; rw [← flat_ints] at h; exact owns_row (sz := 1) (enc := encInt) (fun _ => rfl) h (by omega)
theorem own_cell {w : World} {base g n cap : Nat} {xs : List Int} (h : OwnI w base (.slice (some ⟨g, 0, none⟩) n cap) n xs) {j : Nat} (hj : j < n) : w.cell? ⟨g, j, none⟩ = some (.int .i64 (xs.getD j 0)) := by
 rw [h.cellAt j (by omega)]
 have := own_len h
 simp [List.getD, List.getElem?_eq_getElem (show j < xs.length by omega)]
theorem own_set {w : World} {base g n cap : Nat} {xs : List Int} (h : OwnI w base (.slice (some ⟨g, 0, none⟩) n cap) n xs) (j : Nat) (u : Int) :
  OwnI (w.setCell ⟨g, j, none⟩ (.int .i64 u)) base (.slice (some ⟨g, 0, none⟩) n cap) n (xs.set j u) ∧ w.grownBy (w.setCell ⟨g, j, none⟩ (.int .i64 u)) (some g) := by
 have := h.stored j (.int .i64 u)
 unfold OwnI; rwa [List.map_set]

/-! A row of one-cell elements that the call itself owns, read by f. -/
theorem own1_cell {α : Type} {f : α → Value} {e : TypeId} {w : World} {base g n cap : Nat} {xs : List α} (h : w.ownsRow base e 1 (.slice (some ⟨g, 0, none⟩) n cap) n (xs.map f)) {j : Nat} {x : α} (hx : xs[j]? = some x) : w.cell? ⟨g, j, none⟩ = some (f x) := by
 have hl : xs.length = n := by have := h.1; simpa using this
 rw [h.cellAt j (by have := (List.getElem?_eq_some_iff.1 hx).1; omega)]
 simp [hx]
theorem own1_set {α : Type} {f : α → Value} {e : TypeId} {w : World} {base g n cap : Nat} {xs : List α} (h : w.ownsRow base e 1 (.slice (some ⟨g, 0, none⟩) n cap) n (xs.map f)) (j : Nat) (u : α) :
  (w.setCell ⟨g, j, none⟩ (f u)).ownsRow base e 1 (.slice (some ⟨g, 0, none⟩) n cap) n ((xs.set j u).map f) ∧ w.grownBy (w.setCell ⟨g, j, none⟩ (f u)) (some g) := by
 have := h.stored j (f u)
 rwa [List.map_set]
theorem own1_len {α : Type} {f : α → Value} {e : TypeId} {w : World} {base n : Nat} {v : Value} {xs : List α} (h : w.ownsRow base e 1 v n (xs.map f)) : xs.length = n := by have := h.1; simpa using this
theorem own_append1 {α : Type} {f : α → Value} {e : TypeId} {w : World} {base n : Nat} {v : Value} {xs : List α} {y : α} (h : w.ownsRow base e 1 v n (xs.map f ++ [f y])) : w.ownsRow base e 1 v n ((xs ++ [y]).map f) := by
 simpa using h

/-- append(v, src...): v owned by the call, src any slice that reads as a list (nil, empty or not). -/
theorem wpList_app {α : Type} {sz : Nat} {enc : α → List Value} (henc : ∀ x, (enc x).length = sz) (hone : ∀ x, ∀ u ∈ enc x, u.oneCell' = true)
  {P : Program} (w : World) {ops : Array Oper} {rest : List Oper} {o : Oper} {ac : Act} {Q : Exit → Act → World → Prop} (hgd : o.guard = none) (s x : Operand) (t : TypeId)
  (ho : o.op = .call { callee := .builtin .append, args := #[s, x], argTypes := #[t, t] })
  (base : Nat) (e : TypeId) (z : Value) (bytes : Nat) (ht : P.underlying t = some (.slice e)) (hinfo : (P.info? e).map (fun i => (i.zero, i.size, i.bytes)) = some (some z, sz, bytes))
  (hzs : z.cells.size = sz) (hsz : 0 < sz) (v : Value) (n : Nat) (xs : List α) (hs : ac.eval s = v) (hown : w.ownsRow base e sz v n (xs.flatMap enc))
  (a : Option Addr) (m c : Nat) (ys : List α) (hx : ac.eval x = .slice a m c) (hrow : Row sz enc w a m ys) (hc : a = none → c = 0)
  (h63 : n + m ≤ maxLen) (hbytes : (n + m) * bytes ≤ 140737488355328) (hbase : base ≤ w.heap.size)
  (h : ∀ v' w', w'.ownsRow base e sz v' (n + m) ((xs ++ ys).flatMap enc) → w.grownBy w' v.ownBlock → (v' = .slice none 0 0 ↔ v = .slice none 0 0 ∧ m = 0) → wpList P ops Q rest (ac.put o.dst v') w') : wpList P ops Q (o :: rest) ac w := by
 obtain ⟨i, hi, hz1, hz2, hz3⟩ := info_parts hinfo
 have hfl : ∀ l : List α, (l.flatMap enc).length = l.length * sz := by
  intro l; induction l with
  | nil => simp
  | cons y r ih => simp only [List.flatMap_cons, List.length_append, henc, ih, List.length_cons, Nat.succ_mul]; omega
 cases a with
 | none =>
  have hc' := hc rfl
  subst hc'
  have hm : ys = [] := by
   cases ys with
   | nil => rfl
   | cons y r => obtain ⟨b, off, ha, _⟩ := hrow.at_ 0 y (by simp); cases ha
  subst hm
  have hm0 : m = 0 := hrow.len.symm
  subst hm0
  refine wpList_append_own_none hgd s x t ho base e i sz ht hi v n _ hs hown hx ?_
  exact h v w (by simpa using hown) (World.grownBy.refl _ _) (by simp)
 | some ad =>
  refine wpList_append_own w hgd s x t ho base e i z sz bytes ht hi hz1 hz2 hz3 hzs hsz v n _ hs hown ad m c (ys.flatMap enc) hx ?_ ?_ ?_ h63 hbytes hbase ?_
  ·rw [hfl, hrow.len]
  ·intro j u hu
   have hjl : j < ys.length * sz := by rw [← hfl]; exact (List.getElem?_eq_some_iff.1 hu).1
   have hq : j / sz < ys.length := Nat.div_lt_of_lt_mul (by rw [Nat.mul_comm]; exact hjl)
   have key : ∀ (l : List α) (i j : Nat) (y : α), l[i]? = some y → j < sz → (l.flatMap enc)[i * sz + j]? = (enc y)[j]? := by
    intro l
    induction l with
    | nil => intro i j y hy; simp at hy
    | cons y0 r ih =>
     intro i j y hy hj
     cases i with
     | zero =>
      simp only [List.getElem?_cons_zero, Option.some.injEq] at hy; subst hy
      rw [List.flatMap_cons, List.getElem?_append_left (by rw [henc]; omega)]; simp
     | succ i =>
      rw [List.flatMap_cons, List.getElem?_append_right (by rw [henc, Nat.succ_mul]; omega), henc, show (i + 1) * sz + j - sz = i * sz + j from by rw [Nat.succ_mul]; omega]
      exact ih i j y (by simpa using hy) hj
   have hy := List.getElem?_eq_getElem hq
   obtain ⟨b, off, ha, hb, hcell⟩ := hrow.at_ _ _ hy
   cases ha
   have hj := Nat.div_add_mod' j sz
   have h2 := key ys (j / sz) (j % sz) _ hy (Nat.mod_lt _ hsz)
   rw [hj, hu] at h2
   have h3 := hcell (j % sz) u h2.symm
   rw [Addr.add_lit]
   rw [Nat.add_assoc, hj] at h3
   exact h3
  ·intro u hu
   obtain ⟨y, _, hy⟩ := List.mem_flatMap.1 hu
   exact hone y u hy
  ·intro v' w' h1 h2 h3
   exact h v' w' (by rw [List.flatMap_append]; exact h1) h2 h3

/-- element i of a list of numbers -/
def at0 (l : List Int) (i : Int) : Int := l.getD i.toNat 0
theorem Row.at0 {w : World} {a : Option Addr} {n : Nat} {xs : List Int} (h : Row 1 encInt w a n xs) {i : Int} (h0 : 0 ≤ i) (h1 : i < n) :
  ∃ b off, a = some ⟨b, off, none⟩ ∧ b < w.heap.size ∧ w.cell? ⟨b, off + i.toNat, none⟩ = some (.int .i64 (at0 xs i)) := by
 have hl := h.len
 have hi : i.toNat < xs.length := by omega
 have := h.int (List.getElem?_eq_getElem hi)
 unfold Proofs.YtcaeglnfflkabaaGreat.at0
 simpa [List.getD, List.getElem?_eq_getElem hi] using this

/-- The least index from i on at which p holds; -1: none. -/
def idxFrom {α : Type} (p : α → Bool) : Nat → List α → Int
 | _, [] => -1
 | i, x :: r => if p x then i else idxFrom p (i + 1) r

theorem idxFrom_ge {α : Type} (p : α → Bool) : ∀ (l : List α) (i : Nat), decide (0 ≤ idxFrom p i l) = l.any p
 | [], i => by simp [idxFrom]
 | x :: r, i => by
  unfold idxFrom
  cases h : p x
  ·simpa [h] using idxFrom_ge p r (i + 1)
  ·simp [h]

/-- A function value whose calls answer p and leave what lay there. -/
structure Fun {α : Type} (F : FuncId) (cap : Array Value) (val : α → Value) (w0 : World) (p : α → Bool) (xs : List α) : Prop where
 run : ∀ args w, (callFunc F args).run Tryz.prog w = .ok (.enter F args) w
 call : ∀ x ∈ xs, ∀ w, Below w0.heap.size w0 w → Calls Tryz.prog F (#[val x] ++ cap) w fun e w' => e = .returned (.bool (p x)) ∧ Below w.heap.size w w'

end Go.Proofs.YtcaeglnfflkabaaGreat

/- What a map's block holds, as a function from keys to values; lookup and store at the operation. No condition. -/
namespace Go.Proofs.YtcaeglnfflkabaaGreat
open Go.RowKit
open Go.WideElems (Fit rd rg pl rd_key rg_of rd_mk)
open Go.ChangeMaps (setBlock heap_setBlock_same heap_setBlock_other putKey notKey mem_insert_iff)
open Go.WideShapes (sorted_perm)
open Go.Maps (Keyed)

def trivR : Value → Option (DataW Unit × List MemPlace) := fun _ => some (.lit (.bool true), [])

structure Holds (f : Value → Option Value) (es : Array MapEntry) : Prop where
 one : ∀ x ∈ es.toList, f x.key = some x.val
 all : ∀ key v, f key = some v → ∃ x ∈ es.toList, x.key = key ∧ x.val = v

/-- Block b of w is a map of at most n entries; f says what it holds. -/
def MapIs (w : World) (k : TypeId) (b n : Nat) (f : Value → Option Value) : Prop :=
 ∃ es clock, w.heap[b]? = some (.map es clock) ∧ Fit Tryz.prog k trivR es clock ∧ es.size ≤ n ∧ Holds f es

section
variable {w : World} {k : TypeId} {b n : Nat} {f : Value → Option Value}

theorem MapIs.made (w : World) (k : TypeId) : MapIs (w.alloc (.map #[] 0)) k w.heap.size 0 (fun _ => none) :=
 ⟨#[], 0, (MapKept.heap_alloc w _).1, ⟨by simp, MapKept.stamped_empty 0, by simp⟩, Nat.le_refl _, by simp, by simp⟩

theorem MapIs.lt (h : MapIs w k b n f) : b < w.heap.size := by
 obtain ⟨es, clock, hb, _⟩ := h
 exact (Array.getElem?_eq_some_iff.1 hb).1

theorem MapIs.mono (h : MapIs w k b n f) {n' : Nat} (hn : n ≤ n') : MapIs w k b n' f := by
 obtain ⟨es, clock, hb, F, hs, hf⟩ := h
 exact ⟨es, clock, hb, F, Nat.le_trans hs hn, hf⟩

theorem MapIs.of_block {w' : World} (h : MapIs w k b n f) (hg : w'.heap[b]? = w.heap[b]?) : MapIs w' k b n f := by
 obtain ⟨es, clock, hb, F, hs, hf⟩ := h
 exact ⟨es, clock, hg.trans hb, F, hs, hf⟩

theorem MapIs.below {w' : World} {B : Nat} (h : MapIs w k b n f) (hg : Below B w w') (hb : b < B) : MapIs w' k b n f := h.of_block (hg.block b hb)
theorem MapIs.kept {w' : World} {row : Option Nat} (h : MapIs w k b n f) (hg : w.grownBy w' row) (hne : some b ≠ row) : MapIs w' k b n f := h.of_block (hg.block b h.lt hne)
theorem MapIs.alloc (h : MapIs w k b n f) (o : Obj) : MapIs (w.alloc o) k b n f := h.kept (World.grownBy_alloc w o none) (by simp)
theorem MapIs.drew (h : MapIs w k b n f) : MapIs w.drew k b n f := h

/-- m[k], and v, ok := m[k] -/
theorem MapIs.look {t e : TypeId} (c : Bool) (h : MapIs w k b n f) (K : Keyed Tryz.prog k) (ht : Tryz.prog.underlying t = some (.map k e)) {z : Value} (hz : (zeroValue e).run Tryz.prog w = .ok z w)
  {key : Value} {kl : Lit} (hkey : keyOf Tryz.prog k key = some kl) :
  (Instr.lookup t (.map (some b)) key c).run Tryz.prog w = .ok (match f key with | some v => if c then .tuple #[v, .bool true] else v | none => if c then .tuple #[z, .bool false] else z) w := by
 obtain ⟨es, clock, hb, F, _, hf⟩ := h
 rcases Maps.fit_look c K ht hz hb F hkey with ⟨hrun, hne, _⟩ | ⟨e0, y, hm, hk0, hrun, _⟩
 ·have : f key = none := by
   cases hv : f key with
   | none => rfl
   | some v => obtain ⟨x, hx, hxk, _⟩ := hf.all key v hv; exact absurd hxk (hne x hx)
  rw [this]; exact hrun
 ·have := hf.one e0 hm
  rw [hk0] at this
  rw [this]; exact hrun

/-- m[k] = v -/
theorem MapIs.store {t e : TypeId} (h : MapIs w k b n f) (K : Keyed Tryz.prog k) (ht : Tryz.prog.underlying t = some (.map k e)) (hn : n < maxLen) {key val : Value} {kl : Lit} (hkey : keyOf Tryz.prog k key = some kl)
  (f' : Value → Option Value) (h1 : f' key = some val) (h2 : ∀ x, x ≠ key → f' x = f x) :
  ∃ w', (Instr.mapUpdate t (.map (some b)) key val).run Tryz.prog w = .ok () w' ∧ MapIs w' k b (n + 1) f' ∧ w.grownBy w' (some b) := by
 obtain ⟨es, clock, hb, F, hs, hf⟩ := h
 obtain ⟨es', clock', hrun, F', hput, _, _, hwho⟩ := Maps.fit_store (R' := trivR) (yv := (.lit (.bool true), [])) (val := val) K ht hb F (Nat.lt_of_le_of_lt hs hn) (fun _ _ _ _ hz => hz) hkey rfl
 have hmem : ∀ p, p ∈ (es'.toList.map (rg Tryz.prog k trivR)).foldr DataW.insert [] ↔ p ∈ es'.toList.map (rg Tryz.prog k trivR) := fun p => (sorted_perm _).mem_iff
 have hmem0 : ∀ p, p ∈ (es.toList.map (rg Tryz.prog k trivR)).foldr DataW.insert [] ↔ p ∈ es.toList.map (rg Tryz.prog k trivR) := fun p => (sorted_perm _).mem_iff
 have hin : ∀ p, p ∈ es'.toList.map (rg Tryz.prog k trivR) ↔ p = (kl, .lit (.bool true)) ∨ (p ∈ es.toList.map (rg Tryz.prog k trivR) ∧ notKey kl p = true) := by
  intro p
  rw [← hmem p, hput]
  unfold putKey
  rw [mem_insert_iff, List.mem_filter, hmem0]
 have back : ∀ {v : Value} {l : Lit}, keyOf Tryz.prog k v = some l → (l, DataW.lit (.bool true)) ∈ es'.toList.map (rg Tryz.prog k trivR) → ∃ x ∈ es'.toList, x.key = v := by
  intro v l hv hm
  obtain ⟨x, hx, he⟩ := List.mem_map.1 hm
  obtain ⟨y, hy⟩ := F'.reads x hx
  rw [rg_of hy] at he
  have hk := rd_key hy
  rw [he] at hk
  exact ⟨x, hx, K.inj hk hv⟩
 refine ⟨_, hrun, ⟨es', clock', heap_setBlock_same hb _, F', ?_, ⟨?_, ?_⟩⟩, ⟨rfl, rfl, rfl, by simp [setBlock], fun i _ hi => heap_setBlock_other hb _ (fun e => hi (by rw [e]))⟩⟩
 ·have e1 : es'.size = ((es'.toList.map (rg Tryz.prog k trivR)).foldr DataW.insert []).length := by rw [length_sorted]; simp
  rw [e1, hput]
  unfold putKey
  rw [length_insert]
  have e2 := List.length_filter_le (notKey kl) ((es.toList.map (rg Tryz.prog k trivR)).foldr DataW.insert [])
  rw [length_sorted] at e2
  simp at e2
  omega
 ·intro x hx
  rcases hwho x hx with ⟨ho, hne⟩ | ⟨hk, hv⟩
  ·rw [h2 _ hne]; exact hf.one x ho
  ·rw [hk, h1, hv]
 ·intro key' v' hv'
  by_cases hkk : key' = key
  ·subst hkk
   rw [h1] at hv'
   obtain ⟨x, hx, hxk⟩ := back hkey ((hin _).2 (.inl rfl))
   rcases hwho x hx with ⟨_, hne⟩ | ⟨_, hv⟩
   ·exact absurd hxk hne
   ·exact ⟨x, hx, hxk, by rw [hv]; exact Option.some.inj hv'⟩
  ·rw [h2 _ hkk] at hv'
   obtain ⟨x, hx, hxk, hxv⟩ := hf.all key' v' hv'
   obtain ⟨y, hy⟩ := F.reads x hx
   have hlk := rd_key hy
   have hy2 : y = (y.1, .lit (.bool true)) := by
    have := rd_mk (R := trivR) (born := x.born) (val := x.val) hlk rfl
    have e : (⟨x.key, x.val, x.born⟩ : MapEntry) = x := rfl
    rw [e, hy] at this
    exact Option.some.inj this
   have hnk : notKey kl y = true := (Maps.notKey_iff (K.key hkey)).2 (fun e1 => hkk (by rw [← hxk]; rw [e1] at hlk; exact K.inj hlk hkey))
   have hmy : y ∈ es.toList.map (rg Tryz.prog k trivR) := List.mem_map.2 ⟨x, hx, rg_of hy⟩
   have h3 := (hin y).2 (.inr ⟨hmy, hnk⟩)
   rw [hy2] at h3
   obtain ⟨x', hx', hxk'⟩ := back hlk h3
   rcases hwho x' hx' with ⟨ho, _⟩ | ⟨hk', _⟩
   ·refine ⟨x', hx', hxk'.trans hxk, ?_⟩
    have a1 := hf.one x' ho
    have a2 := hf.one x hx
    rw [hxk', a2] at a1
    rw [← hxv]
    exact (Option.some.inj a1).symm
   ·exact absurd (hxk.symm.trans (hxk'.symm.trans hk')) hkk

end

/-! Keys that stand for elements of a Lean type. -/
structure Code (α : Type) where
 enc : α → Value
 dec : Value → Option α
 dec_enc : ∀ x, dec (enc x) = some x
 enc_dec : ∀ v x, dec v = some x → v = enc x

def Code.lift {α β : Type} (D : Code α) (m : α → Option β) (g : β → Value) : Value → Option Value := fun v => (D.dec v).bind fun x => (m x).map g
theorem Code.lift_enc {α β : Type} (D : Code α) (m : α → Option β) (g : β → Value) (x : α) : D.lift m g (D.enc x) = (m x).map g := by simp [Code.lift, D.dec_enc]
theorem Code.lift_other {α β : Type} (D : Code α) {m m' : α → Option β} (g : β → Value) {y : α} (h : ∀ x, x ≠ y → m' x = m x) : ∀ v, v ≠ D.enc y → D.lift m' g v = D.lift m g v := by
 intro v hv
 unfold Code.lift
 cases hd : D.dec v with
 | none => rfl
 | some x =>
  have := D.enc_dec v x hd
  have hx : x ≠ y := fun e => hv (by rw [this, e])
  simp [h x hx]

/-- Block b of w is a map of at most n entries that holds m, its keys coded by D, its values by g. -/
def MapOf {α β : Type} (D : Code α) (g : β → Value) (w : World) (k : TypeId) (b n : Nat) (m : α → Option β) : Prop := MapIs w k b n (D.lift m g)

section
variable {α β : Type} {D : Code α} {g : β → Value} {w : World} {k : TypeId} {b n : Nat} {m : α → Option β}

theorem MapOf.made (D : Code α) (g : β → Value) (w : World) (k : TypeId) : MapOf D g (w.alloc (.map #[] 0)) k w.heap.size 0 (fun _ => none) := by
 have : D.lift (fun _ => (none : Option β)) g = fun _ => none := by funext v; unfold Code.lift; cases D.dec v <;> rfl
 unfold MapOf; rw [this]; exact MapIs.made w k
theorem MapOf.lt (h : MapOf D g w k b n m) : b < w.heap.size := MapIs.lt h
theorem MapOf.mono (h : MapOf D g w k b n m) {n' : Nat} (hn : n ≤ n') : MapOf D g w k b n' m := MapIs.mono h hn
theorem MapOf.below {w' : World} {B : Nat} (h : MapOf D g w k b n m) (hg : Below B w w') (hb : b < B) : MapOf D g w' k b n m := MapIs.below h hg hb
theorem MapOf.kept {w' : World} {row : Option Nat} (h : MapOf D g w k b n m) (hg : w.grownBy w' row) (hne : some b ≠ row) : MapOf D g w' k b n m := MapIs.kept h hg hne
theorem MapOf.alloc (h : MapOf D g w k b n m) (o : Obj) : MapOf D g (w.alloc o) k b n m := MapIs.alloc h o
theorem MapOf.drew (h : MapOf D g w k b n m) : MapOf D g w.drew k b n m := h
theorem MapOf.of_block {w' : World} (h : MapOf D g w k b n m) (hg : w'.heap[b]? = w.heap[b]?) : MapOf D g w' k b n m := MapIs.of_block h hg
theorem MapOf.congr (h : MapOf D g w k b n m) {m' : α → Option β} (he : ∀ x, m' x = m x) : MapOf D g w k b n m' := by
 have : m' = m := funext he
 rw [this]; exact h

theorem MapOf.look_hit {t e : TypeId} {x : α} {y : β} (h : MapOf D g w k b n m) (hf : m x = some y) (K : Keyed Tryz.prog k) (ht : Tryz.prog.underlying t = some (.map k e)) {z : Value} (hz : ∀ w, (zeroValue e).run Tryz.prog w = .ok z w)
  (hkey : ∃ l, keyOf Tryz.prog k (D.enc x) = some l) : (Instr.lookup t (.map (some b)) (D.enc x) false).run Tryz.prog w = .ok (g y) w ∧ (Instr.lookup t (.map (some b)) (D.enc x) true).run Tryz.prog w = .ok (.tuple #[g y, .bool true]) w := by
 obtain ⟨l, hl⟩ := hkey
 have h1 := MapIs.look false h K ht (hz w) hl
 have h2 := MapIs.look true h K ht (hz w) hl
 rw [D.lift_enc, hf] at h1 h2
 exact ⟨h1, h2⟩
theorem MapOf.look_miss {t e : TypeId} {x : α} (h : MapOf D g w k b n m) (hf : m x = none) (K : Keyed Tryz.prog k) (ht : Tryz.prog.underlying t = some (.map k e)) {z : Value} (hz : ∀ w, (zeroValue e).run Tryz.prog w = .ok z w)
  (hkey : ∃ l, keyOf Tryz.prog k (D.enc x) = some l) : (Instr.lookup t (.map (some b)) (D.enc x) false).run Tryz.prog w = .ok z w ∧ (Instr.lookup t (.map (some b)) (D.enc x) true).run Tryz.prog w = .ok (.tuple #[z, .bool false]) w := by
 obtain ⟨l, hl⟩ := hkey
 have h1 := MapIs.look false h K ht (hz w) hl
 have h2 := MapIs.look true h K ht (hz w) hl
 rw [D.lift_enc, hf] at h1 h2
 exact ⟨h1, h2⟩
theorem MapOf.hit {t e : TypeId} {x : α} {y : β} (h : MapOf D g w k b n m) (hf : m x = some y) (K : Keyed Tryz.prog k) (ht : Tryz.prog.underlying t = some (.map k e)) {z : Value} (hz : ∀ w, (zeroValue e).run Tryz.prog w = .ok z w)
  (hkey : ∃ l, keyOf Tryz.prog k (D.enc x) = some l) : ∀ w', Below w.heap.size w w' → (Instr.lookup t (.map (some b)) (D.enc x) false).run Tryz.prog w' = .ok (g y) w' ∧ (Instr.lookup t (.map (some b)) (D.enc x) true).run Tryz.prog w' = .ok (.tuple #[g y, .bool true]) w' :=
 fun _w' hb => (h.below hb h.lt).look_hit hf K ht hz hkey
theorem MapOf.miss {t e : TypeId} {x : α} (h : MapOf D g w k b n m) (hf : m x = none) (K : Keyed Tryz.prog k) (ht : Tryz.prog.underlying t = some (.map k e)) {z : Value} (hz : ∀ w, (zeroValue e).run Tryz.prog w = .ok z w)
  (hkey : ∃ l, keyOf Tryz.prog k (D.enc x) = some l) : ∀ w', Below w.heap.size w w' → (Instr.lookup t (.map (some b)) (D.enc x) false).run Tryz.prog w' = .ok z w' ∧ (Instr.lookup t (.map (some b)) (D.enc x) true).run Tryz.prog w' = .ok (.tuple #[z, .bool false]) w' :=
 fun _w' hb => (h.below hb h.lt).look_miss hf K ht hz hkey
theorem MapOf.store {t e : TypeId} {x : α} {y : β} (h : MapOf D g w k b n m) (m' : α → Option β) (h1 : m' x = some y) (h2 : ∀ z, z ≠ x → m' z = m z) (hn : n < maxLen) (K : Keyed Tryz.prog k) (ht : Tryz.prog.underlying t = some (.map k e))
  (hkey : ∃ l, keyOf Tryz.prog k (D.enc x) = some l) : ∃ w', (Instr.mapUpdate t (.map (some b)) (D.enc x) (g y)).run Tryz.prog w = .ok () w' ∧ MapOf D g w' k b (n + 1) m' ∧ w.grownBy w' (some b) := by
 obtain ⟨l, hl⟩ := hkey
 exact MapIs.store h K ht hn hl (D.lift m' g) (by rw [D.lift_enc, h1]; rfl) (D.lift_other g h2)
end

/-! At the operation. -/
section
variable {P : Program} (w : World) {ops : Array Oper} {rest : List Oper} {o : Oper} {a : Act} {Q : Exit → Act → World → Prop}

/-- a lookup whose run is known -/
theorem wpList_look (hg : o.guard = none) (m x : Operand) (t : TypeId) (c : Bool) (hop : o.op = Op.lookup t m x c) {mv key r : Value} (hm : a.eval m = mv) (hx : a.eval x = key)
  (hrun : (Instr.lookup t mv key c).run P w = .ok r w) (hK : wpList P ops Q rest (a.put o.dst r) w) : wpList P ops Q (o :: rest) a w := by
 refine wpList_plain hg fun K' hK' => ?_
 unfold Oper.wp
 simp [execOp, hop, hm, hx, hrun, Result.andThen]
 exact hK' _ _ hK

/-- a store into a map whose run is known -/
theorem wpList_put (hg : o.guard = none) (m x v : Operand) (t : TypeId) (hop : o.op = Op.mapUpdate t m x v) {mv key val : Value} (hm : a.eval m = mv) (hx : a.eval x = key) (hv : a.eval v = val) {R : World → Prop}
  (hrun : ∃ w', (Instr.mapUpdate t mv key val).run P w = .ok () w' ∧ R w') (hK : ∀ w', R w' → wpList P ops Q rest (a.put o.dst undef) w') : wpList P ops Q (o :: rest) a w := by
 refine wpList_plain hg fun K' hK' => ?_
 obtain ⟨w', hrun, r⟩ := hrun
 unfold Oper.wp
 simp [execOp, hop, hm, hx, hv, hrun, Result.andThen]
 exact hK' _ _ (hK w' r)
end

section
variable {P : Program} (w : World) {ops : Array Oper} {o : Oper} {a : Act} {K : Act → World → Prop} {Q : Exit → Act → World → Prop} {E : Prop}
/-- the store at a step of a region that draws its order -/
theorem step_put (hg : o.guard = none) (m x v : Operand) (t : TypeId) (hop : o.op = Op.mapUpdate t m x v) {mv key val : Value} (hm : a.eval m = mv) (hx : a.eval x = key) (hv : a.eval v = val) {R : World → Prop}
  (hrun : ∃ w', (Instr.mapUpdate t mv key val).run P w = .ok () w' ∧ R w') (hK : ∀ w', R w' → K (a.put o.dst undef) w') : if Region.wanted o (yielded ops a.tmps) = true then Oper.wp P o a w K Q else E := by
 have hw : Region.wanted o (yielded ops a.tmps) = true := by simp [Region.wanted, hg]
 rw [if_pos hw]
 obtain ⟨w', hrun, r⟩ := hrun
 unfold Oper.wp
 simp [execOp, hop, hm, hx, hv, hrun, Result.andThen]
 exact hK w' r
end

/-! The codes. -/
def intCode : Code Int where
 enc x := .int .i64 x
 dec | .int .i64 x => some x | _ => none
 dec_enc _ := rfl
 enc_dec v x h := by
  cases v with
  | int k y => cases k <;> simp at h; subst h; rfl
  | _ => simp at h
def strCode : Code ByteArray where
 enc x := .string x
 dec | .string x => some x | _ => none
 dec_enc _ := rfl
 enc_dec v x h := by
  cases v with
  | string y => simp at h; subst h; rfl
  | _ => simp at h

theorem key_int {x : Int} (h : -9223372036854775808 ≤ x ∧ x ≤ 9223372036854775807) : ∃ l, keyOf Tryz.prog 3 (intCode.enc x) = some l :=
 ⟨_, Maps.keyOf_int_mk Tryz.underlying3 (WalkArith.wf_i64 h)⟩
theorem keyed_int : Keyed Tryz.prog 3 := Maps.int_keyed Tryz.underlying3
theorem keyed_str : Keyed Tryz.prog 9 := Maps.string_keyed Tryz.underlying9
theorem key_str {x : ByteArray} (h : x.size ≤ maxLen) : ∃ l, keyOf Tryz.prog 9 (strCode.enc x) = some l :=
 ⟨.string x.data.toList, by unfold keyOf; rw [Tryz.underlying9]; simp [mapKey, Tryz.underlying9, strCode, h]⟩

end Go.Proofs.YtcaeglnfflkabaaGreat

/- Arguments that can be read as data, opened to rows of memory. -/
namespace Go.Proofs.YtcaeglnfflkabaaGreat
open Go.ChangeShapes Go.WideShapes Go.ChangeAt Go.RowKit Go.Deep

theorem own : ownKnob Tryz.prog.godebug = none := by kernel_rfl
theorem laidOut : laidOutB Tryz.prog = true := by kernel_rfl

section
variable {H : Type} {enc : TypeId × Value → H} {w : World}

/-- an address at which cells can be read is a plain one -/
theorem plain_addr {x : Addr} {v : Value} (h : w.cell? x = some v) : ∃ b off, x = ⟨b, off, none⟩ ∧ b < w.heap.size := by
 obtain ⟨b, off, spot⟩ := x
 unfold World.cell? at h
 cases hb : w.heap[b]? with
 | none => simp [hb] at h
 | some o =>
  have hlt : b < w.heap.size := (Array.getElem?_eq_some_iff.1 hb).1
  cases spot with
  | none => exact ⟨b, off, rfl, hlt⟩
  | some s => cases o <;> simp [hb] at h

/-- The cell of a slice whose elements can each be opened: it reads as a row. -/
theorem open_row_cs {α : Type} {sz : Nat} {rd : α → List Value} {Q : α → Prop} {t e : TypeId} (ht : Tryz.prog.underlying t = some (.slice e)) (hsz : Tryz.prog.cellsOf e = sz) (h0 : 0 < sz) (hlen : ∀ x, (rd x).length = sz)
  (hel : ∀ (n : Nat) (cs : List Value) (y : DataW H × List MemPlace), DataW.trod enc Tryz.prog w 0 (fun _ => true) true n e cs = some y → ∃ x : α, cs = rd x ∧ Q x)
  {fuel : Nat} {cs : List Value} {y : DataW H × List MemPlace} (hf : DataW.trod enc Tryz.prog w 0 (fun _ => true) true fuel t cs = some y) :
  ∃ a n c xs, cs = [.slice a n c] ∧ Row sz rd w a n xs ∧ (∀ x ∈ xs, Q x) ∧ (a = none → c = 0) ∧ n ≤ c := by
 rcases open_slice ht hf with ⟨hcs, _⟩ | ⟨ad, n, m0, m, k, D, Pl, hcs, _, hl, hm, hmm, _, hi⟩
 ·exact ⟨none, 0, 0, [], hcs, Row.nil _ _, by simp, fun _ => rfl, Nat.le_refl _⟩
 ·subst hcs
  simp only [if_true] at hmm
  subst hmm
  have hx : ∀ i, i < n → ∃ x : α, Q x ∧ ∀ j u, (rd x)[j]? = some u → w.cell? (ad.add (i * sz + j)) = some u := by
   intro i hin
   obtain ⟨cs', hc, ht'⟩ := hi i (by omega)
   obtain ⟨x, rfl, hq⟩ := hel _ _ _ ht'
   rw [hsz] at hc
   obtain ⟨_, hcl, hat⟩ := World.cells?_some hc
   refine ⟨x, hq, fun j u hu => ?_⟩
   have hj : j < sz := by have := (List.getElem?_eq_some_iff.1 hu).1; rwa [hlen] at this
   rw [← Go.Deep.add_add, hat j hj, hu]
  have hxs : ∃ xs : List α, xs.length = n ∧ (∀ x ∈ xs, Q x) ∧ ∀ i x, xs[i]? = some x → ∀ j u, (rd x)[j]? = some u → w.cell? (ad.add (i * sz + j)) = some u := by
   have key : ∀ k, k ≤ n → ∃ xs : List α, xs.length = k ∧ (∀ x ∈ xs, Q x) ∧ ∀ i x, xs[i]? = some x → ∀ j u, (rd x)[j]? = some u → w.cell? (ad.add (i * sz + j)) = some u := by
    intro k
    induction k with
    | zero => intro _; exact ⟨[], rfl, by simp, fun i x hx => by simp at hx⟩
    | succ k ih =>
     intro hk
     obtain ⟨xs, h1, h2, h3⟩ := ih (by omega)
     obtain ⟨x, hq, hc⟩ := hx k (by omega)
     refine ⟨xs ++ [x], by simp [h1], fun y hy => ?_, fun i y hy => ?_⟩
     ·rcases List.mem_append.1 hy with hy | hy
      ·exact h2 y hy
      ·simp at hy; subst hy; exact hq
     ·rcases Nat.lt_or_ge i xs.length with hil | hil
      ·rw [List.getElem?_append_left hil] at hy; exact h3 i y hy
      ·rw [List.getElem?_append_right hil] at hy
       have : i - xs.length = 0 := by have := (List.getElem?_eq_some_iff.1 hy).1; simp at this; omega
       rw [this] at hy; simp at hy; subst hy
       have hik : i = k := by omega
       subst hik; exact hc
   exact key n (Nat.le_refl _)
  obtain ⟨xs, h1, h2, h3⟩ := hxs
  refine ⟨some ad, n, m, xs, rfl, ⟨h1, by simp only [maxLen] at hm; omega, fun i x hxi => ?_⟩, h2, fun h => (by cases h), hl⟩
  have hr : 0 < (rd x).length := by rw [hlen]; exact h0
  have hc0 := h3 i x hxi 0 _ (List.getElem?_eq_getElem hr)
  obtain ⟨b, off, hb, hlt⟩ := plain_addr hc0
  have hsp : ∃ b off, ad = ⟨b, off, none⟩ ∧ b < w.heap.size := by
   unfold Addr.add at hb
   split at hb
   ·exact ⟨b, off, hb, hlt⟩
   · -- the first cell of the row itself
    have h00 : ∃ x0, xs[0]? = some x0 := ⟨xs[0]'(by have := (List.getElem?_eq_some_iff.1 hxi).1; omega), List.getElem?_eq_getElem _⟩
    obtain ⟨x0, hx0⟩ := h00
    have hr0 : 0 < (rd x0).length := by rw [hlen]; exact h0
    have hc00 := h3 0 x0 hx0 0 _ (List.getElem?_eq_getElem hr0)
    rw [Nat.zero_mul, Nat.zero_add] at hc00
    unfold Addr.add at hc00
    rw [if_pos rfl] at hc00
    exact plain_addr hc00
  obtain ⟨b', off', rfl, hlt'⟩ := hsp
  refine ⟨b', off', rfl, hlt', fun j u hu => ?_⟩
  have := h3 i x hxi j u hu
  rwa [Addr.add_lit, ← Nat.add_assoc] at this

set_option maxRecDepth 100000 in
/-- A slice whose elements can each be opened: it reads as a row. -/
theorem open_row {α : Type} {sz : Nat} {rd : α → List Value} {Q : α → Prop} {t e : TypeId} (ht : Tryz.prog.underlying t = some (.slice e)) (hsz : Tryz.prog.cellsOf e = sz) (h0 : 0 < sz) (hlen : ∀ x, (rd x).length = sz)
  (hel : ∀ (n : Nat) (cs : List Value) (y : DataW H × List MemPlace), DataW.trod enc Tryz.prog w 0 (fun _ => true) true n e cs = some y → ∃ x : α, cs = rd x ∧ Q x)
  {v : Value} {d : DataW H} {p : List MemPlace} {r : Reach} {b0 : Nat} (hv : Value.okWide Tryz.prog w r b0 t v) (h : DataW.Trod enc Tryz.prog w 0 (fun _ => true) true t v d p) :
  ∃ a n c xs, v = .slice a n c ∧ Row sz rd w a n xs ∧ (∀ x ∈ xs, Q x) ∧ (a = none → c = 0) ∧ n ≤ c := by
 obtain ⟨a, n, c, rfl⟩ := okWide_slice ht hv
 obtain ⟨fuel, hf⟩ := h
 obtain ⟨a', n', c', xs, hcs, hr⟩ := open_row_cs ht hsz h0 hlen hel hf
 simp [Value.cells] at hcs
 obtain ⟨rfl, rfl, rfl⟩ := hcs
 exact ⟨_, _, _, xs, rfl, hr⟩

set_option maxRecDepth 100000 in
/-- []int -/
theorem open_Ints {v : Value} {d : DataW H} {p : List MemPlace} {r : Reach} {b0 : Nat} (hv : Value.okWide Tryz.prog w r b0 48 v) (h : DataW.Trod enc Tryz.prog w 0 (fun _ => true) true 48 v d p) :
  ∃ a n c xs, v = .slice a n c ∧ Ints w a n xs ∧ (∀ x ∈ xs, -9223372036854775808 ≤ x ∧ x ≤ 9223372036854775807) ∧ (a = none → c = 0) ∧ n ≤ c :=
 open_row (sz := 1) Tryz.underlying48 (by kernel_rfl) (by decide) (fun _ => rfl) (fun n cs y hy => by
  obtain ⟨x, rfl, _, hw⟩ := DataW.trod_int Tryz.underlying3 hy
  exact ⟨x, rfl, by simp [Lit.wf, IntKind.min, IntKind.max, IntKind.signed, IntKind.bits] at hw; omega⟩) hv h
end
end Go.Proofs.YtcaeglnfflkabaaGreat

/- append of a whole row (nil or not) onto an own row, with the place of the new slice; at the run, and at a step of a region that draws its order. -/
namespace Go.Proofs.YtcaeglnfflkabaaGreat
open Go.ChangeShapes Go.WideShapes

theorem flatMap_len {α : Type} {sz : Nat} {enc : α → List Value} (henc : ∀ x, (enc x).length = sz) : ∀ l : List α, (l.flatMap enc).length = l.length * sz
 | [] => by simp
 | y :: r => by simp only [List.flatMap_cons, List.length_append, henc, flatMap_len henc r, List.length_cons, Nat.succ_mul]; omega

theorem flatMap_at {α : Type} {sz : Nat} {enc : α → List Value} (henc : ∀ x, (enc x).length = sz) : ∀ (l : List α) (i j : Nat) (y : α), l[i]? = some y → j < sz → (l.flatMap enc)[i * sz + j]? = (enc y)[j]?
 | [], i, j, y, hy, _ => by simp at hy
 | y0 :: r, 0, j, y, hy, hj => by
  simp only [List.getElem?_cons_zero, Option.some.injEq] at hy; subst hy
  rw [List.flatMap_cons, List.getElem?_append_left (by rw [henc]; omega)]; simp
 | y0 :: r, i + 1, j, y, hy, hj => by
  rw [List.flatMap_cons, List.getElem?_append_right (by rw [henc, Nat.succ_mul]; omega), henc, show (i + 1) * sz + j - sz = i * sz + j from by rw [Nat.succ_mul]; omega]
  exact flatMap_at henc r i j y (by simpa using hy) hj

/-- the cells of a row, as append reads them -/
theorem row_news {α : Type} {sz : Nat} {enc : α → List Value} (henc : ∀ x, (enc x).length = sz) {w : World} {ad : Addr} {m : Nat} {ys : List α} (hrow : Row sz enc w (some ad) m ys) :
  ∀ j u, (ys.flatMap enc)[j]? = some u → w.cell? (ad.add j) = some u := by
 intro j u hu
 have hjl : j < ys.length * sz := by rw [← flatMap_len henc]; exact (List.getElem?_eq_some_iff.1 hu).1
 have hsz : 0 < sz := Nat.pos_of_ne_zero fun h => by rw [h] at hjl; simp at hjl
 have hq : j / sz < ys.length := Nat.div_lt_of_lt_mul (by rw [Nat.mul_comm]; exact hjl)
 obtain ⟨y, hy⟩ : ∃ y, ys[j / sz]? = some y := ⟨_, List.getElem?_eq_getElem hq⟩
 have hj : j / sz * sz + j % sz = j := by rw [Nat.mul_comm]; exact Nat.div_add_mod j sz
 rw [← hj, flatMap_at henc ys _ _ y hy (Nat.mod_lt _ hsz)] at hu
 obtain ⟨b, off, ha, _, hc⟩ := hrow.at_ _ y hy
 cases ha
 have := hc _ _ hu
 rw [show (⟨b, off, none⟩ : Addr).add j = ⟨b, off + j / sz * sz + j % sz, none⟩ from by unfold Addr.add; split <;> simp_all; omega]
 exact this

theorem run_app {α : Type} {sz : Nat} {enc : α → List Value} (henc : ∀ x, (enc x).length = sz) (hone : ∀ x, ∀ u ∈ enc x, u.oneCell' = true)
  {P : Program} (w : World) (t ty : TypeId) (base : Nat) (e : TypeId) (z : Value) (bytes : Nat) (ht : P.underlying t = some (.slice e)) (hinfo : (P.info? e).map (fun i => (i.zero, i.size, i.bytes)) = some (some z, sz, bytes))
  (hzs : z.cells.size = sz) (hsz : 0 < sz) (v : Value) (n : Nat) (xs : List α) (hown : w.ownsRow base e sz v n (xs.flatMap enc))
  (a : Option Addr) (m c : Nat) (ys : List α) (hrow : Row sz enc w a m ys) (hc : a = none → c = 0)
  (h63 : n + m ≤ maxLen) (hbytes : (n + m) * bytes ≤ 140737488355328) (hbase : base ≤ w.heap.size) :
  ∃ v' w', (Builtin.append_ #[t, t] ty #[v, .slice a m c]).run P w = .ok v' w' ∧ w'.ownsRow base e sz v' (n + m) ((xs ++ ys).flatMap enc) ∧ w.grownBy w' v.ownBlock ∧
   (v' = .slice none 0 0 ↔ v = .slice none 0 0 ∧ m = 0) ∧ (v'.ownBlock = v.ownBlock ∨ v'.ownBlock = some w.heap.size) := by
 obtain ⟨i, hi, hz1, hz2, hz3⟩ := info_parts hinfo
 cases a with
 | none =>
  have hc' := hc rfl
  subst hc'
  have hm : ys = [] := by
   cases ys with
   | nil => rfl
   | cons y r => obtain ⟨b, off, ha, _⟩ := hrow.at_ 0 y (by simp); cases ha
  subst hm
  have hm0 : m = 0 := hrow.len.symm
  subst hm0
  exact ⟨v, w, run_append_owned_none w base t ty e i sz ht hi v n _ hown, by simpa using hown, World.grownBy.refl _ _, by simp, .inl rfl⟩
 | some ad =>
  rw [List.flatMap_append]
  exact run_append_own_at w base t ty e i z sz bytes ht hi hz1 hz2 hz3 hzs hsz v n _ hown ad m c (ys.flatMap enc) (by rw [flatMap_len henc ys, hrow.len]) (row_news henc hrow)
   (fun u hu => by obtain ⟨y, _, hy⟩ := List.mem_flatMap.1 hu; exact hone y u hy) h63 hbytes hbase

theorem step_app {α : Type} {sz : Nat} {enc : α → List Value} (henc : ∀ x, (enc x).length = sz) (hone : ∀ x, ∀ u ∈ enc x, u.oneCell' = true)
  {P : Program} (w : World) {ops : Array Oper} {o : Oper} {ac : Act} {K : Act → World → Prop} {Q : Exit → Act → World → Prop} {E : Prop} (hgd : o.guard = none) (s x : Operand) (t : TypeId)
  (ho : o.op = .call { callee := .builtin .append, args := #[s, x], argTypes := #[t, t] })
  (base : Nat) (e : TypeId) (z : Value) (bytes : Nat) (ht : P.underlying t = some (.slice e)) (hinfo : (P.info? e).map (fun i => (i.zero, i.size, i.bytes)) = some (some z, sz, bytes))
  (hzs : z.cells.size = sz) (hsz : 0 < sz) (v : Value) (n : Nat) (xs : List α) (hs : ac.eval s = v) (hown : w.ownsRow base e sz v n (xs.flatMap enc))
  (a : Option Addr) (m c : Nat) (ys : List α) (hx : ac.eval x = .slice a m c) (hrow : Row sz enc w a m ys) (hc : a = none → c = 0)
  (h63 : n + m ≤ maxLen) (hbytes : (n + m) * bytes ≤ 140737488355328) (hbase : base ≤ w.heap.size)
  (h : ∀ v' w', w'.ownsRow base e sz v' (n + m) ((xs ++ ys).flatMap enc) → w.grownBy w' v.ownBlock → (v' = .slice none 0 0 ↔ v = .slice none 0 0 ∧ m = 0) → (v'.ownBlock = v.ownBlock ∨ v'.ownBlock = some w.heap.size) → K (ac.put o.dst v') w') :
  if Region.wanted o (yielded ops ac.tmps) = true then Oper.wp P o ac w K Q else E := by
 have hw : Region.wanted o (yielded ops ac.tmps) = true := by simp [Region.wanted, hgd]
 rw [if_pos hw]
 obtain ⟨v', w', hr, h2, h3, h4, h5⟩ := run_app henc hone (P := P) w t o.type base e z bytes ht hinfo hzs hsz v n xs hown a m c ys hrow hc h63 hbytes hbase
 unfold Oper.wp execOp
 simp only [ho, resolve, invoke, builtin, Sem.run_bind, Sem.run_pure, Result.andThen_ok, List.map_toArray, List.map_cons, List.map_nil, hs, hx, hr]
 exact h v' w' h2 h3 h4 h5
/-- a whole row onto a literal that holds nothing -/
theorem step_app0 {α : Type} {sz : Nat} {enc : α → List Value} (henc : ∀ x, (enc x).length = sz) (hone : ∀ x, ∀ u ∈ enc x, u.oneCell' = true)
  {P : Program} (w : World) {ops : Array Oper} {o : Oper} {ac : Act} {K : Act → World → Prop} {Q : Exit → Act → World → Prop} {E : Prop} (hgd : o.guard = none) (s x : Operand) (t : TypeId)
  (ho : o.op = .call { callee := .builtin .append, args := #[s, x], argTypes := #[t, t] })
  (base : Nat) (e : TypeId) (z : Value) (bytes : Nat) (ht : P.underlying t = some (.slice e)) (hinfo : (P.info? e).map (fun i => (i.zero, i.size, i.bytes)) = some (some z, sz, bytes))
  (hzs : z.cells.size = sz) (hsz : 0 < sz) (b : Nat) (hs : ac.eval s = .slice (some ⟨b, 0, none⟩) 0 0) (hown : w.ownsRow base e sz (.slice (some ⟨b, 0, none⟩) 0 0) 0 [])
  (a : Option Addr) (m c : Nat) (ys : List α) (hx : ac.eval x = .slice a m c) (hrow : Row sz enc w a m ys) (hc : a = none → c = 0)
  (h63 : m ≤ maxLen) (hbytes : m * bytes ≤ 140737488355328) (hbase : base ≤ w.heap.size)
  (h : ∀ v' w', w'.ownsRow base e sz v' m (ys.flatMap enc) → w.grownBy w' (some b) → K (ac.put o.dst v') w') :
  if Region.wanted o (yielded ops ac.tmps) = true then Oper.wp P o ac w K Q else E :=
 step_app henc hone w hgd s x t ho base e z bytes ht hinfo hzs hsz _ 0 [] hs hown a m c ys hx hrow hc (by omega) (by simpa using hbytes) hbase
  (fun v' w' h1 h2 _ _ => h v' w' (by simpa using h1) h2)

end Go.Proofs.YtcaeglnfflkabaaGreat
