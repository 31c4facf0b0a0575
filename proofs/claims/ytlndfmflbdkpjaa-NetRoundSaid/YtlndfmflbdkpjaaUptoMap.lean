/- The entry of a map, and the store into it, as operations of a region that draws its order. No condition. -/
import Derived.Test.YtlndfmflbdkpjaaTill2
import Derived.Test.YtlndfmflbdkpjaaMapEntry
import Derived.Test.YtlndfmflbdkpjaaNetLaws
namespace Go.Proofs.Ytlndfmflbdkpjaa

section
variable {P : Program} {ops : Array Oper} {Q : Exit → Act → World → Prop} {md : Region.Mode} {S : World → Prop} {n : Nat} {i : Nat} {o : Oper} {k : Nat} {done : Array Bool} {a : Act} {w w1 : World}
theorem upto_entry (hr : Region.ready md ops done = [i]) (ho : ops[i]? = some o) (hg : o.guard = none) (m x : Operand) (t : TypeId) (hop : o.op = Op.mapEntry t m x) {mv key r : Value} (hm : a.eval m = mv) (hx : a.eval x = key)
    (hrun : (Instr.mapEntry t mv key).run P w = .ok r w1) (hS : i < n → S w1) (h : wpUpto P md ops Q S n k (done.setIfInBounds i true) (a.put o.dst r) w1) : wpUpto P md ops Q S n (k + 1) done a w :=
  upto_step hr ho fun _ hK => step_entry hg m x t hop hm hx hrun (hK _ _ hS h)
theorem upto_estore (hr : Region.ready md ops done = [i]) (ho : ops[i]? = some o) (hg : o.guard = none) (m s v : Operand) (t : TypeId) (hop : o.op = Op.entryStore t m s v) {mv st val : Value} (hm : a.eval m = mv) (hs : a.eval s = st) (hv : a.eval v = val)
    (hrun : (Instr.entryStore t mv st val).run P w = .ok () w1) (hS : i < n → S w1) (h : wpUpto P md ops Q S n k (done.setIfInBounds i true) (a.put o.dst undef) w1) : wpUpto P md ops Q S n (k + 1) done a w :=
  upto_step hr ho fun _ hK => step_estore hg m s v t hop hm hs hv hrun (hK _ _ hS h)
theorem upto_put (hr : Region.ready md ops done = [i]) (ho : ops[i]? = some o) (hg : o.guard = none) (m x v : Operand) (t : TypeId) (hop : o.op = Op.mapUpdate t m x v) {mv key val : Value} (hm : a.eval m = mv) (hx : a.eval x = key) (hv : a.eval v = val)
    (hrun : (Instr.mapUpdate t mv key val).run P w = .ok () w1) (hS : i < n → S w1) (h : wpUpto P md ops Q S n k (done.setIfInBounds i true) (a.put o.dst undef) w1) : wpUpto P md ops Q S n (k + 1) done a w :=
  upto_step hr ho fun _ hK => step_put w hg m x v t hop hm hx hv (R := fun w' => w' = w1) ⟨w1, hrun, rfl⟩ (fun w' e => by subst e; exact hK _ _ hS h)
end
/-! the index of a port -/
def posP : Nat → List Port → Port → Option Nat
  | _, [], _ => none
  | i, y :: r, x => if y = x then some i else posP (i + 1) r x
theorem posP_none {l : List Port} {x : Port} : ∀ {i : Nat}, posP i l x = none ↔ x ∉ l := by
  induction l with
  | nil => intro i; simp [posP]
  | cons y r ih =>
    intro i
    unfold posP
    by_cases h : y = x
    · simp [h]
    · rw [if_neg h, ih]; simp [show ¬ x = y from fun e => h e.symm]
theorem posP_snoc (l : List Port) (a x : Port) : ∀ i : Nat, posP i (l ++ [a]) x = match posP i l x with
    | some k => some k
    | none => if a = x then some (i + l.length) else none := by
  induction l with
  | nil => intro i; simp [posP]
  | cons y r ih =>
    intro i
    have e1 : posP i (y :: r ++ [a]) x = if y = x then some i else posP (i + 1) (r ++ [a]) x := rfl
    have e2 : posP i (y :: r) x = if y = x then some i else posP (i + 1) r x := rfl
    rw [e1, e2]
    split
    · rfl
    · rw [ih, List.length_cons, show i + (r.length + 1) = i + 1 + r.length by omega]
theorem posP_key {l : List Port} {a : Port} (h : a ∉ l) : posP 0 (l ++ [a]) a = some l.length := by rw [posP_snoc, posP_none.2 h]; simp
theorem posP_other {l : List Port} {a z : Port} (h : z ≠ a) : posP 0 (l ++ [a]) z = posP 0 l z := by
  rw [posP_snoc]
  cases posP 0 l z with
  | some k => rfl
  | none => simp [show ¬ a = z from fun e => h e.symm]
end Go.Proofs.Ytlndfmflbdkpjaa
