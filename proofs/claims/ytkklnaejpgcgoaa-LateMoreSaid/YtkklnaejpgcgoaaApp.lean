/- append of a whole row (nil or not) onto an own row, with the place of the new slice; at the run, and at a step of a region that draws its order. -/
import Derived.Test.YtkklnaejpgcgoaaBase
import Derived.Deep.AppendLies
namespace Go.Proofs.Ytkklnaejpgcgoaa
open Go.ChangeShapes Go.WideShapes

theorem flatMap_len {α : Type} {sz : Nat} {enc : α → List Value} (henc : ∀ x, (enc x).length = sz) : ∀ l : List α, (l.flatMap enc).length = l.length * sz
  | [] => by simp
  | y :: r => by simp only [List.flatMap_cons, List.length_append, henc, flatMap_len henc r, List.length_cons, Nat.succ_mul]; omega

theorem flatMap_at {α : Type} {sz : Nat} {enc : α → List Value} (henc : ∀ x, (enc x).length = sz) : ∀ (l : List α) (i j : Nat) (y : α), l[i]? = some y → j < sz → (l.flatMap enc)[i * sz + j]? = (enc y)[j]?
  | [], i, j, y, hy, _ => by simp at hy
  | y0 :: r, 0, j, y, hy, hj => by
    simp only [List.getElem?_cons_zero, Option.some.injEq] at hy; subst hy
    rw [List.flatMap_cons, List.getElem?_append_left (by rw [henc]; omega)]; simp
  | y0 :: r, i + 1, j, y, hy, hj => by
    rw [List.flatMap_cons, List.getElem?_append_right (by rw [henc, Nat.succ_mul]; omega), henc, show (i + 1) * sz + j - sz = i * sz + j from by rw [Nat.succ_mul]; omega]
    exact flatMap_at henc r i j y (by simpa using hy) hj

/-- the cells of a row, as append reads them -/
theorem row_news {α : Type} {sz : Nat} {enc : α → List Value} (henc : ∀ x, (enc x).length = sz) {w : World} {ad : Addr} {m : Nat} {ys : List α} (hrow : Row sz enc w (some ad) m ys) :
    ∀ j u, (ys.flatMap enc)[j]? = some u → w.cell? (ad.add j) = some u := by
  intro j u hu
  have hjl : j < ys.length * sz := by rw [← flatMap_len henc]; exact (List.getElem?_eq_some_iff.1 hu).1
  have hsz : 0 < sz := Nat.pos_of_ne_zero fun h => by rw [h] at hjl; simp at hjl
  have hq : j / sz < ys.length := Nat.div_lt_of_lt_mul (by rw [Nat.mul_comm]; exact hjl)
  obtain ⟨y, hy⟩ : ∃ y, ys[j / sz]? = some y := ⟨_, List.getElem?_eq_getElem hq⟩
  have hj : j / sz * sz + j % sz = j := by rw [Nat.mul_comm]; exact Nat.div_add_mod j sz
  rw [← hj, flatMap_at henc ys _ _ y hy (Nat.mod_lt _ hsz)] at hu
  obtain ⟨b, off, ha, _, hc⟩ := hrow.at_ _ y hy
  cases ha
  have := hc _ _ hu
  rw [show (⟨b, off, none⟩ : Addr).add j = ⟨b, off + j / sz * sz + j % sz, none⟩ from by unfold Addr.add; split <;> simp_all; omega]
  exact this

theorem run_app {α : Type} {sz : Nat} {enc : α → List Value} (henc : ∀ x, (enc x).length = sz) (hone : ∀ x, ∀ u ∈ enc x, u.oneCell' = true)
    {P : Program} (w : World) (t ty : TypeId) (base : Nat) (e : TypeId) (z : Value) (bytes : Nat) (ht : P.underlying t = some (.slice e)) (hinfo : (P.info? e).map (fun i => (i.zero, i.size, i.bytes)) = some (some z, sz, bytes))
    (hzs : z.cells.size = sz) (hsz : 0 < sz) (v : Value) (n : Nat) (xs : List α) (hown : w.ownsRow base e sz v n (xs.flatMap enc))
    (a : Option Addr) (m c : Nat) (ys : List α) (hrow : Row sz enc w a m ys) (hc : a = none → c = 0)
    (h63 : n + m ≤ maxLen) (hbytes : (n + m) * bytes ≤ 140737488355328) (hbase : base ≤ w.heap.size) :
    ∃ v' w', (Builtin.append_ #[t, t] ty #[v, .slice a m c]).run P w = .ok v' w' ∧ w'.ownsRow base e sz v' (n + m) ((xs ++ ys).flatMap enc) ∧ w.grownBy w' v.ownBlock ∧
      (v' = .slice none 0 0 ↔ v = .slice none 0 0 ∧ m = 0) ∧ (v'.ownBlock = v.ownBlock ∨ v'.ownBlock = some w.heap.size) := by
  obtain ⟨i, hi, hz1, hz2, hz3⟩ := info_parts hinfo
  cases a with
  | none =>
    have hc' := hc rfl
    subst hc'
    have hm : ys = [] := by
      cases ys with
      | nil => rfl
      | cons y r => obtain ⟨b, off, ha, _⟩ := hrow.at_ 0 y (by simp); cases ha
    subst hm
    have hm0 : m = 0 := hrow.len.symm
    subst hm0
    exact ⟨v, w, run_append_owned_none w base t ty e i sz ht hi v n _ hown, by simpa using hown, World.grownBy.refl _ _, by simp, .inl rfl⟩
  | some ad =>
    rw [List.flatMap_append]
    exact run_append_own_at w base t ty e i z sz bytes ht hi hz1 hz2 hz3 hzs hsz v n _ hown ad m c (ys.flatMap enc) (by rw [flatMap_len henc ys, hrow.len]) (row_news henc hrow)
      (fun u hu => by obtain ⟨y, _, hy⟩ := List.mem_flatMap.1 hu; exact hone y u hy) h63 hbytes hbase

theorem step_app {α : Type} {sz : Nat} {enc : α → List Value} (henc : ∀ x, (enc x).length = sz) (hone : ∀ x, ∀ u ∈ enc x, u.oneCell' = true)
    {P : Program} (w : World) {ops : Array Oper} {o : Oper} {ac : Act} {K : Act → World → Prop} {Q : Exit → Act → World → Prop} {E : Prop} (hgd : o.guard = none) (s x : Operand) (t : TypeId)
    (ho : o.op = .call { callee := .builtin .append, args := #[s, x], argTypes := #[t, t] })
    (base : Nat) (e : TypeId) (z : Value) (bytes : Nat) (ht : P.underlying t = some (.slice e)) (hinfo : (P.info? e).map (fun i => (i.zero, i.size, i.bytes)) = some (some z, sz, bytes))
    (hzs : z.cells.size = sz) (hsz : 0 < sz) (v : Value) (n : Nat) (xs : List α) (hs : ac.eval s = v) (hown : w.ownsRow base e sz v n (xs.flatMap enc))
    (a : Option Addr) (m c : Nat) (ys : List α) (hx : ac.eval x = .slice a m c) (hrow : Row sz enc w a m ys) (hc : a = none → c = 0)
    (h63 : n + m ≤ maxLen) (hbytes : (n + m) * bytes ≤ 140737488355328) (hbase : base ≤ w.heap.size)
    (h : ∀ v' w', w'.ownsRow base e sz v' (n + m) ((xs ++ ys).flatMap enc) → w.grownBy w' v.ownBlock → (v' = .slice none 0 0 ↔ v = .slice none 0 0 ∧ m = 0) → (v'.ownBlock = v.ownBlock ∨ v'.ownBlock = some w.heap.size) → K (ac.put o.dst v') w') :
    if Region.wanted o (yielded ops ac.tmps) = true then Oper.wp P o ac w K Q else E := by
  have hw : Region.wanted o (yielded ops ac.tmps) = true := by simp [Region.wanted, hgd]
  rw [if_pos hw]
  obtain ⟨v', w', hr, h2, h3, h4, h5⟩ := run_app henc hone (P := P) w t o.type base e z bytes ht hinfo hzs hsz v n xs hown a m c ys hrow hc h63 hbytes hbase
  unfold Oper.wp execOp
  simp only [ho, resolve, invoke, builtin, Sem.run_bind, Sem.run_pure, Result.andThen_ok, List.map_toArray, List.map_cons, List.map_nil, hs, hx, hr]
  exact h v' w' h2 h3 h4 h5
/-- a whole row onto a literal that holds nothing -/
theorem step_app0 {α : Type} {sz : Nat} {enc : α → List Value} (henc : ∀ x, (enc x).length = sz) (hone : ∀ x, ∀ u ∈ enc x, u.oneCell' = true)
    {P : Program} (w : World) {ops : Array Oper} {o : Oper} {ac : Act} {K : Act → World → Prop} {Q : Exit → Act → World → Prop} {E : Prop} (hgd : o.guard = none) (s x : Operand) (t : TypeId)
    (ho : o.op = .call { callee := .builtin .append, args := #[s, x], argTypes := #[t, t] })
    (base : Nat) (e : TypeId) (z : Value) (bytes : Nat) (ht : P.underlying t = some (.slice e)) (hinfo : (P.info? e).map (fun i => (i.zero, i.size, i.bytes)) = some (some z, sz, bytes))
    (hzs : z.cells.size = sz) (hsz : 0 < sz) (b : Nat) (hs : ac.eval s = .slice (some ⟨b, 0, none⟩) 0 0) (hown : w.ownsRow base e sz (.slice (some ⟨b, 0, none⟩) 0 0) 0 [])
    (a : Option Addr) (m c : Nat) (ys : List α) (hx : ac.eval x = .slice a m c) (hrow : Row sz enc w a m ys) (hc : a = none → c = 0)
    (h63 : m ≤ maxLen) (hbytes : m * bytes ≤ 140737488355328) (hbase : base ≤ w.heap.size)
    (h : ∀ v' w', w'.ownsRow base e sz v' m (ys.flatMap enc) → w.grownBy w' (some b) → K (ac.put o.dst v') w') :
    if Region.wanted o (yielded ops ac.tmps) = true then Oper.wp P o ac w K Q else E :=
  step_app henc hone w hgd s x t ho base e z bytes ht hinfo hzs hsz _ 0 [] hs hown a m c ys hx hrow hc (by omega) (by simpa using hbytes) hbase
    (fun v' w' h1 h2 _ _ => h v' w' (by simpa using h1) h2)

/-- one element onto an own row -/
theorem step_app1 {α : Type} {sz : Nat} {enc : α → List Value} (henc : ∀ x, (enc x).length = sz) (hone : ∀ x, ∀ u ∈ enc x, u.oneCell' = true)
    {P : Program} (w : World) {ops : Array Oper} {o : Oper} {ac : Act} {K : Act → World → Prop} {Q : Exit → Act → World → Prop} {E : Prop} (hgd : o.guard = none) (s x : Operand) (t : TypeId)
    (ho : o.op = .call { callee := .builtin .append, args := #[s, x], argTypes := #[t, t] })
    (base : Nat) (e : TypeId) (z : Value) (bytes : Nat) (ht : P.underlying t = some (.slice e)) (hinfo : (P.info? e).map (fun i => (i.zero, i.size, i.bytes)) = some (some z, sz, bytes))
    (hzs : z.cells.size = sz) (hsz : 0 < sz) (v : Value) (n : Nat) (xs : List α) (hs : ac.eval s = v) (hown : w.ownsRow base e sz v n (xs.flatMap enc))
    (ad : Addr) (c : Nat) (y : α) (hx : ac.eval x = .slice (some ad) 1 c) (hrow : Row sz enc w (some ad) 1 [y])
    (h63 : n + 1 ≤ maxLen) (hbytes : (n + 1) * bytes ≤ 140737488355328) (hbase : base ≤ w.heap.size)
    (h : ∀ a' n' c' w', n' = n + 1 → Row sz enc w' a' n' (xs ++ [y]) → w.grownBy w' v.ownBlock → K (ac.put o.dst (.slice a' n' c')) w') :
    if Region.wanted o (yielded ops ac.tmps) = true then Oper.wp P o ac w K Q else E :=
  step_app henc hone w hgd s x t ho base e z bytes ht hinfo hzs hsz v n xs hs hown (some ad) 1 c [y] hx hrow (by intro h; cases h) h63 hbytes hbase
    (fun v' w' h1 h2 _ _ => by
      obtain ⟨a', c', rfl, _, _⟩ := own_slice h1
      exact h a' _ c' w' rfl (owns_row henc h1 hsz).1 h2)
end Go.Proofs.Ytkklnaejpgcgoaa
