/- Rows of memory that read as lists: definitions and small laws that the walks use. No condition. -/
import Derived.Test.YtkklnaejpgcgoaaRows
import Derived.WalkKit
import Derived.WalkSpells
import Derived.WalkLawsBesides
import Derived.WalkSmall
import Derived.Deep.QuietTactic
import Derived.BigQuiet
import Derived.Deep.LoopGhost
import Derived.Lib.Hide
import Derived.Laws.AppendOwnNone
namespace Go.Proofs.Ytkklnaejpgcgoaa
open Go.RowKit

/-- A slice (address a, length n) whose elements take sz cells each reads as the list xs; enc gives an element's cells. -/
structure Row {α : Type} (sz : Nat) (enc : α → List Value) (w : World) (a : Option Addr) (n : Nat) (xs : List α) : Prop where
  len : xs.length = n
  bnd : n ≤ 9223372036854775807
  at_ : ∀ i x, xs[i]? = some x → ∃ b off, a = some ⟨b, off, none⟩ ∧ b < w.heap.size ∧ ∀ j v, (enc x)[j]? = some v → w.cell? ⟨b, off + i * sz + j, none⟩ = some v

theorem Row.below {α : Type} {sz : Nat} {enc : α → List Value} {w w' : World} {a : Option Addr} {n : Nat} {xs : List α} (h : Row sz enc w a n xs) (hb : Below w.heap.size w w') : Row sz enc w' a n xs := by
  refine ⟨h.len, h.bnd, fun i x hx => ?_⟩
  obtain ⟨b, off, ha, hlt, hc⟩ := h.at_ i x hx
  exact ⟨b, off, ha, Nat.lt_of_lt_of_le hlt hb.size, fun j v hv => (hb.cell (p := ⟨b, _, none⟩) hlt).trans (hc j v hv)⟩

theorem Row.nil {α : Type} {sz : Nat} {enc : α → List Value} (w : World) (a : Option Addr) : Row sz enc w a 0 ([] : List α) :=
  ⟨rfl, by omega, fun i x hx => by simp at hx⟩

theorem get_some {α : Type} {xs : List α} {n i : Nat} (h : xs.length = n) (hi : i < n) : ∃ x, xs[i]? = some x := ⟨xs[i], List.getElem?_eq_getElem (by omega)⟩
theorem get_lt {α : Type} {xs : List α} {n i : Nat} {x : α} (h : xs.length = n) (hx : xs[i]? = some x) : i < n := by
  have := (List.getElem?_eq_some_iff.1 hx).1; omega

theorem drop_cons {α : Type} {xs : List α} {i : Nat} {x : α} (h : xs[i]? = some x) : xs.drop i = x :: xs.drop (i + 1) := by
  obtain ⟨hi, rfl⟩ := List.getElem?_eq_some_iff.1 h
  exact List.drop_eq_getElem_cons hi
theorem drop_end {α : Type} {xs : List α} {n i : Nat} (h : xs.length = n) (hi : n ≤ i) : xs.drop i = [] := List.drop_eq_nil_of_le (by omega)

/-- What a callee that makes memory of its own leaves to the caller: whatever lay there reads as before. -/
theorem below_step {B : Nat} {w w1 w2 : World} (h : Below B w w1) (h2 : Below w1.heap.size w1 w2) (hB : B ≤ w1.heap.size) : Below B w w2 := h.trans (h2.mono hB)
theorem below_size {w w1 : World} (h : Below w.heap.size w w1) : w.heap.size ≤ w1.heap.size := h.size

theorem owns_below {w w' : World} {base : Nat} {e : TypeId} {size : Nat} {v : Value} {n : Nat} {xs : List Value} (h : w.ownsRow base e size v n xs) (hb : Below w.heap.size w w') : w'.ownsRow base e size v n xs := by
  obtain ⟨h1, h2⟩ := h
  refine ⟨h1, ?_⟩
  rcases h2 with h2 | ⟨g, cap, cur, hv, hg, hh, r⟩
  · exact .inl h2
  · exact .inr ⟨g, cap, cur, hv, hg, by rw [hb.block g (Array.getElem?_eq_some_iff.1 hh).1]; exact hh, r⟩

/-- An owned row, read as a list of elements. -/
theorem owns_row {α : Type} {sz : Nat} {enc : α → List Value} (henc : ∀ x, (enc x).length = sz) {w : World} {base : Nat} {e : TypeId} {a : Option Addr} {n c m : Nat} {xs : List α}
    (h : w.ownsRow base e sz (.slice a n c) m (xs.flatMap enc)) (hs : 0 < sz) : Row sz enc w a n xs ∧ m = n := by
  obtain ⟨h1, h2⟩ := h
  have hl : (xs.flatMap enc).length = xs.length * sz := by
    clear h1 h2
    induction xs with
    | nil => simp
    | cons x r ih => simp only [List.flatMap_cons, List.length_append, henc, ih, List.length_cons, Nat.succ_mul]; omega
  have hm : xs.length = m := by rw [hl] at h1; exact Nat.eq_of_mul_eq_mul_right hs h1
  rcases h2 with ⟨hv, rfl⟩ | ⟨g, cap, cur, hv, hg, hh, hnc, hcm, hcs, htake⟩
  · cases hv
    have : xs = [] := List.eq_nil_of_length_eq_zero hm
    subst this
    exact ⟨Row.nil _ _, rfl⟩
  · cases hv
    refine ⟨⟨hm, by simp only [maxLen] at hcm; omega, fun i x hx => ⟨g, 0, rfl, (Array.getElem?_eq_some_iff.1 hh).1, fun j v hv => ?_⟩⟩, rfl⟩
    have hi : i < xs.length := (List.getElem?_eq_some_iff.1 hx).1
    have hj : j < sz := by have := (List.getElem?_eq_some_iff.1 hv).1; rwa [henc] at this
    have key : ∀ (ys : List α) (i : Nat) (x : α), ys[i]? = some x → (ys.flatMap enc)[i * sz + j]? = (enc x)[j]? := by
      intro ys
      induction ys with
      | nil => intro i x hx; simp at hx
      | cons y r ih =>
        intro i x hx
        cases i with
        | zero =>
          simp only [List.getElem?_cons_zero, Option.some.injEq] at hx; subst hx
          rw [List.flatMap_cons, List.getElem?_append_left (by rw [henc]; omega)]; simp
        | succ i =>
          rw [List.flatMap_cons, List.getElem?_append_right (by rw [henc, Nat.succ_mul]; omega), henc, show (i + 1) * sz + j - sz = i * sz + j from by rw [Nat.succ_mul]; omega]
          exact ih i x (by simpa using hx)
    have hk := key xs i x hx
    rw [hv, ← htake, List.getElem?_take] at hk
    split at hk
    · rw [cell_of_row w g _ cur e (0, 0) hh, Nat.zero_add]
      simpa using hk
    · cases hk

theorem int_beq (a b : Nat) : ((a : Int) == (b : Int)) = decide (a = b) := by rw [Bool.eq_iff_iff]; simp; omega
theorem cell_new_set (w : World) (p : Addr) (u v : Value) (T : TypeId) : ∀ (j : Nat) (x : Value), [v][j]? = some x → ((w.setCell p u).alloc (.cells #[v] T)).cell? ((⟨w.heap.size, 0, none⟩ : Addr).add j) = some x := by
  have h := cell_one_new (w.setCell p u) v T
  rwa [show (w.setCell p u).heap.size = w.heap.size from by simp [World.setCell]] at h
theorem cell_new_at (W : World) {g : Nat} (hg : W.heap.size = g) (v : Value) (T : TypeId) : ∀ (j : Nat) (x : Value), [v][j]? = some x → (W.alloc (.cells #[v] T)).cell? ((⟨g, 0, none⟩ : Addr).add j) = some x := by
  subst hg; exact cell_one_new W v T
theorem one_int (k : IntKind) (a : Int) : ∀ u ∈ [Value.int k a], u.oneCell' = true := by intro u hu; simp at hu; subst hu; rfl
theorem ret_bool {a b : Bool} (h : a = b) : Ending.returned (.bool a) = .returned (.bool b) := by rw [h]
theorem ret_int {k : IntKind} {a b : Int} (h : a = b) : Ending.returned (.int k a) = .returned (.int k b) := by rw [h]

/-! Rows of integers. -/
def encInt (x : Int) : List Value := [.int .i64 x]
abbrev Ints (w : World) (a : Option Addr) (n : Nat) (xs : List Int) : Prop := Row 1 encInt w a n xs

theorem Row.int {w : World} {a : Option Addr} {n : Nat} {xs : List Int} (h : Row 1 encInt w a n xs) {i : Nat} {x : Int} (hx : xs[i]? = some x) :
    ∃ b off, a = some ⟨b, off, none⟩ ∧ b < w.heap.size ∧ w.cell? ⟨b, off + i, none⟩ = some (.int .i64 x) := by
  obtain ⟨b, off, ha, hb, hc⟩ := h.at_ i x hx
  exact ⟨b, off, ha, hb, by simpa using hc 0 _ rfl⟩
theorem Row.int' {w : World} {b off n : Nat} {xs : List Int} (h : Row 1 encInt w (some ⟨b, off, none⟩) n xs) {i : Nat} {x : Int} (hx : xs[i]? = some x) :
    b < w.heap.size ∧ w.cell? ⟨b, off + i, none⟩ = some (.int .i64 x) := by
  obtain ⟨b', off', ha, hb, hc⟩ := h.int hx
  cases ha; exact ⟨hb, hc⟩

theorem flat_ints (xs : List Int) : xs.flatMap encInt = xs.map (Value.int .i64) := by
  induction xs with
  | nil => rfl
  | cons x r ih => simp [List.flatMap_cons, encInt, ih]

/-! A row of integers that the call itself owns. -/
abbrev OwnI (w : World) (base : Nat) (v : Value) (n : Nat) (xs : List Int) : Prop := w.ownsRow base 3 1 v n (xs.map (Value.int .i64))
theorem own_len {w : World} {base : Nat} {v : Value} {n : Nat} {xs : List Int} (h : OwnI w base v n xs) : xs.length = n := by have := h.1; simpa using this
theorem own_shape {w : World} {base n size : Nat} {e : TypeId} {v : Value} {xs : List Value} (h : w.ownsRow base e size v n xs) (hn : 0 < n) : ∃ g cap, v = .slice (some ⟨g, 0, none⟩) n cap ∧ base ≤ g ∧ g < w.heap.size := by
  rcases h.2 with ⟨_, h0⟩ | ⟨g, cap, cur, rfl, hb, hg, _⟩
  · omega
  · exact ⟨g, cap, rfl, hb, (Array.getElem?_eq_some_iff.1 hg).1⟩
theorem own_shape' {w : World} {base n size c g : Nat} {e : TypeId} {xs : List Value} (h : w.ownsRow base e size (.slice (some ⟨g, 0, none⟩) n c) n xs) : base ≤ g ∧ g < w.heap.size := by
  rcases h.2 with ⟨h0, _⟩ | ⟨g', cap, cur, hv, hb, hg, _⟩
  · cases h0
  · cases hv; exact ⟨hb, (Array.getElem?_eq_some_iff.1 hg).1⟩
theorem owns_base {w : World} {base base' n size : Nat} {e : TypeId} {v : Value} {xs : List Value} (h : w.ownsRow base e size v n xs) (hb : base' ≤ base) : w.ownsRow base' e size v n xs := by
  obtain ⟨h1, h2⟩ := h
  exact ⟨h1, h2.imp id fun ⟨g, cap, cur, hv, hg, r⟩ => ⟨g, cap, cur, hv, Nat.le_trans hb hg, r⟩⟩
theorem own_slice {w : World} {base n size : Nat} {e : TypeId} {v : Value} {xs : List Value} (h : w.ownsRow base e size v n xs) : ∃ a cap, v = .slice a n cap ∧ n ≤ 9223372036854775807 ∧ (a = none → n = 0 ∧ cap = 0) := by
  rcases h.2 with ⟨rfl, rfl⟩ | ⟨g, cap, cur, rfl, hb, hg, h1, h2, _⟩
  · exact ⟨none, 0, rfl, by omega, fun _ => ⟨rfl, rfl⟩⟩
  · exact ⟨_, cap, rfl, by simp only [maxLen] at h2; omega, fun h => by cases h⟩
theorem own_ints {w : World} {base : Nat} {a : Option Addr} {n m c : Nat} {xs : List Int} (h : OwnI w base (.slice a n c) m xs) : Ints w a n xs ∧ m = n := by
  unfold OwnI at h; rw [← flat_ints] at h; exact owns_row (sz := 1) (enc := encInt) (fun _ => rfl) h (by omega)
theorem own_cell {w : World} {base g n cap : Nat} {xs : List Int} (h : OwnI w base (.slice (some ⟨g, 0, none⟩) n cap) n xs) {j : Nat} (hj : j < n) : w.cell? ⟨g, j, none⟩ = some (.int .i64 (xs.getD j 0)) := by
  rw [h.cellAt j (by omega)]
  have := own_len h
  simp [List.getD, List.getElem?_eq_getElem (show j < xs.length by omega)]
theorem own_set {w : World} {base g n cap : Nat} {xs : List Int} (h : OwnI w base (.slice (some ⟨g, 0, none⟩) n cap) n xs) (j : Nat) (u : Int) :
    OwnI (w.setCell ⟨g, j, none⟩ (.int .i64 u)) base (.slice (some ⟨g, 0, none⟩) n cap) n (xs.set j u) ∧ w.grownBy (w.setCell ⟨g, j, none⟩ (.int .i64 u)) (some g) := by
  have := h.stored j (.int .i64 u)
  unfold OwnI; rwa [List.map_set]

/-! A row of one-cell elements that the call itself owns, read by f. -/
theorem own1_cell {α : Type} {f : α → Value} {e : TypeId} {w : World} {base g n cap : Nat} {xs : List α} (h : w.ownsRow base e 1 (.slice (some ⟨g, 0, none⟩) n cap) n (xs.map f)) {j : Nat} {x : α} (hx : xs[j]? = some x) : w.cell? ⟨g, j, none⟩ = some (f x) := by
  have hl : xs.length = n := by have := h.1; simpa using this
  rw [h.cellAt j (by have := (List.getElem?_eq_some_iff.1 hx).1; omega)]
  simp [hx]
theorem own1_set {α : Type} {f : α → Value} {e : TypeId} {w : World} {base g n cap : Nat} {xs : List α} (h : w.ownsRow base e 1 (.slice (some ⟨g, 0, none⟩) n cap) n (xs.map f)) (j : Nat) (u : α) :
    (w.setCell ⟨g, j, none⟩ (f u)).ownsRow base e 1 (.slice (some ⟨g, 0, none⟩) n cap) n ((xs.set j u).map f) ∧ w.grownBy (w.setCell ⟨g, j, none⟩ (f u)) (some g) := by
  have := h.stored j (f u)
  rwa [List.map_set]
theorem own1_len {α : Type} {f : α → Value} {e : TypeId} {w : World} {base n : Nat} {v : Value} {xs : List α} (h : w.ownsRow base e 1 v n (xs.map f)) : xs.length = n := by have := h.1; simpa using this
theorem own_append1 {α : Type} {f : α → Value} {e : TypeId} {w : World} {base n : Nat} {v : Value} {xs : List α} {y : α} (h : w.ownsRow base e 1 v n (xs.map f ++ [f y])) : w.ownsRow base e 1 v n ((xs ++ [y]).map f) := by
  simpa using h

/-- append(v, src...): v owned by the call, src any slice that reads as a list (nil, empty or not). -/
theorem wpList_app {α : Type} {sz : Nat} {enc : α → List Value} (henc : ∀ x, (enc x).length = sz) (hone : ∀ x, ∀ u ∈ enc x, u.oneCell' = true)
    {P : Program} (w : World) {ops : Array Oper} {rest : List Oper} {o : Oper} {ac : Act} {Q : Exit → Act → World → Prop} (hgd : o.guard = none) (s x : Operand) (t : TypeId)
    (ho : o.op = .call { callee := .builtin .append, args := #[s, x], argTypes := #[t, t] })
    (base : Nat) (e : TypeId) (z : Value) (bytes : Nat) (ht : P.underlying t = some (.slice e)) (hinfo : (P.info? e).map (fun i => (i.zero, i.size, i.bytes)) = some (some z, sz, bytes))
    (hzs : z.cells.size = sz) (hsz : 0 < sz) (v : Value) (n : Nat) (xs : List α) (hs : ac.eval s = v) (hown : w.ownsRow base e sz v n (xs.flatMap enc))
    (a : Option Addr) (m c : Nat) (ys : List α) (hx : ac.eval x = .slice a m c) (hrow : Row sz enc w a m ys) (hc : a = none → c = 0)
    (h63 : n + m ≤ maxLen) (hbytes : (n + m) * bytes ≤ 140737488355328) (hbase : base ≤ w.heap.size)
    (h : ∀ v' w', w'.ownsRow base e sz v' (n + m) ((xs ++ ys).flatMap enc) → w.grownBy w' v.ownBlock → (v' = .slice none 0 0 ↔ v = .slice none 0 0 ∧ m = 0) → wpList P ops Q rest (ac.put o.dst v') w') : wpList P ops Q (o :: rest) ac w := by
  obtain ⟨i, hi, hz1, hz2, hz3⟩ := info_parts hinfo
  have hfl : ∀ l : List α, (l.flatMap enc).length = l.length * sz := by
    intro l; induction l with
    | nil => simp
    | cons y r ih => simp only [List.flatMap_cons, List.length_append, henc, ih, List.length_cons, Nat.succ_mul]; omega
  cases a with
  | none =>
    have hc' := hc rfl
    subst hc'
    have hm : ys = [] := by
      cases ys with
      | nil => rfl
      | cons y r => obtain ⟨b, off, ha, _⟩ := hrow.at_ 0 y (by simp); cases ha
    subst hm
    have hm0 : m = 0 := hrow.len.symm
    subst hm0
    refine wpList_append_own_none hgd s x t ho base e i sz ht hi v n _ hs hown hx ?_
    exact h v w (by simpa using hown) (World.grownBy.refl _ _) (by simp)
  | some ad =>
    refine wpList_append_own w hgd s x t ho base e i z sz bytes ht hi hz1 hz2 hz3 hzs hsz v n _ hs hown ad m c (ys.flatMap enc) hx ?_ ?_ ?_ h63 hbytes hbase ?_
    · rw [hfl, hrow.len]
    · intro j u hu
      have hjl : j < ys.length * sz := by rw [← hfl]; exact (List.getElem?_eq_some_iff.1 hu).1
      have hq : j / sz < ys.length := Nat.div_lt_of_lt_mul (by rw [Nat.mul_comm]; exact hjl)
      have key : ∀ (l : List α) (i j : Nat) (y : α), l[i]? = some y → j < sz → (l.flatMap enc)[i * sz + j]? = (enc y)[j]? := by
        intro l
        induction l with
        | nil => intro i j y hy; simp at hy
        | cons y0 r ih =>
          intro i j y hy hj
          cases i with
          | zero =>
            simp only [List.getElem?_cons_zero, Option.some.injEq] at hy; subst hy
            rw [List.flatMap_cons, List.getElem?_append_left (by rw [henc]; omega)]; simp
          | succ i =>
            rw [List.flatMap_cons, List.getElem?_append_right (by rw [henc, Nat.succ_mul]; omega), henc, show (i + 1) * sz + j - sz = i * sz + j from by rw [Nat.succ_mul]; omega]
            exact ih i j y (by simpa using hy) hj
      have hy := List.getElem?_eq_getElem hq
      obtain ⟨b, off, ha, hb, hcell⟩ := hrow.at_ _ _ hy
      cases ha
      have hj := Nat.div_add_mod' j sz
      have h2 := key ys (j / sz) (j % sz) _ hy (Nat.mod_lt _ hsz)
      rw [hj, hu] at h2
      have h3 := hcell (j % sz) u h2.symm
      rw [Addr.add_lit]
      rw [Nat.add_assoc, hj] at h3
      exact h3
    · intro u hu
      obtain ⟨y, _, hy⟩ := List.mem_flatMap.1 hu
      exact hone y u hy
    · intro v' w' h1 h2 h3
      exact h v' w' (by rw [List.flatMap_append]; exact h1) h2 h3

/-- element i of a list of numbers -/
def at0 (l : List Int) (i : Int) : Int := l.getD i.toNat 0
theorem Row.at0 {w : World} {a : Option Addr} {n : Nat} {xs : List Int} (h : Row 1 encInt w a n xs) {i : Int} (h0 : 0 ≤ i) (h1 : i < n) :
    ∃ b off, a = some ⟨b, off, none⟩ ∧ b < w.heap.size ∧ w.cell? ⟨b, off + i.toNat, none⟩ = some (.int .i64 (at0 xs i)) := by
  have hl := h.len
  have hi : i.toNat < xs.length := by omega
  have := h.int (List.getElem?_eq_getElem hi)
  unfold Proofs.Ytkklnaejpgcgoaa.at0
  simpa [List.getD, List.getElem?_eq_getElem hi] using this

/-- The least index from i on at which p holds; -1: none. -/
def idxFrom {α : Type} (p : α → Bool) : Nat → List α → Int
  | _, [] => -1
  | i, x :: r => if p x then i else idxFrom p (i + 1) r

theorem idxFrom_ge {α : Type} (p : α → Bool) : ∀ (l : List α) (i : Nat), decide (0 ≤ idxFrom p i l) = l.any p
  | [], i => by simp [idxFrom]
  | x :: r, i => by
    unfold idxFrom
    cases h : p x
    · simpa [h] using idxFrom_ge p r (i + 1)
    · simp [h]

/-- A function value whose calls answer p and leave what lay there. -/
structure Fun {α : Type} (F : FuncId) (cap : Array Value) (val : α → Value) (w0 : World) (p : α → Bool) (xs : List α) : Prop where
  run : ∀ args w, (callFunc F args).run Try.prog w = .ok (.enter F args) w
  call : ∀ x ∈ xs, ∀ w, Below w0.heap.size w0 w → Calls Try.prog F (#[val x] ++ cap) w fun e w' => e = .returned (.bool (p x)) ∧ Below w.heap.size w w'

end Go.Proofs.Ytkklnaejpgcgoaa
