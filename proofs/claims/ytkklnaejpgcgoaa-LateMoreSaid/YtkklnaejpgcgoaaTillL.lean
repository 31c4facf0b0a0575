/- As Till2's laws, where the operations that write wait for the others by way of others. No condition. -/
import Derived.Test.YtkklnaejpgcgoaaBase
import Derived.OrdersHeld
import Derived.StillTail
import Derived.Deep.RegionHeld3
namespace Go.Proofs.Ytkklnaejpgcgoaa

section
variable {P : Program} {ops : Array Oper} {Q : Exit → Act → World → Prop} {md : Region.Mode} {S : World → Prop} {ob : Nat → Bool}

def waitsIn (md : Region.Mode) (ops : Array Oper) (i : Nat) : Nat → Nat → Bool
  | 0, t => Region.waitsFor md ops t i
  | f + 1, t => Region.waitsFor md ops t i || ((ops[t]?).map fun o => o.after.any fun e => Region.binds md e && waitsIn md ops i f e.on).getD false
/-- every operation behind which the condition need not hold is done, or is number i, or waits for it -/
def tailWaitsC (md : Region.Mode) (ops : Array Oper) (ob : Nat → Bool) (done : Array Bool) (i : Nat) : Bool := (List.range ops.size).all fun t => ob t || decide (t = i) || done.getD t false || waitsIn md ops i 4 t
/-- whatever comes up next; behind each operation of ob the condition holds -/
def wpOb (P : Program) (md : Region.Mode) (ops : Array Oper) (Q : Exit → Act → World → Prop) (S : World → Prop) (ob : Nat → Bool) : Nat → Array Bool → Act → World → Prop
  | 0, done, a, w => Region.ready md ops done = [] ∧ Q .normal a w
  | k + 1, done, a, w => (Region.ready md ops done = [] → Q .normal a w) ∧ ∀ j ∈ Region.ready md ops done, wpOp P ops Q j (fun a' w' => (ob j = true → S w') ∧ wpOb P md ops Q S ob k (done.setIfInBounds j true) a' w') a w
theorem ob_any : ∀ (k : Nat) (done : Array Bool) (a : Act) (w : World), wpOb P md ops Q S ob k done a w → wpAny P md ops Q k done a w
  | 0, _, _, _, h => h
  | k + 1, _, _, _, h => ⟨h.1, fun j hj => wpOp_mono (fun a' w' q => ob_any k _ a' w' q.2) (h.2 j hj)⟩
theorem region_ob {id : Nat} {a : Act} {w : World} (hm : P.follows .mixedOrders = true) (h : wpOb P .any ops Q S ob ops.size (Array.replicate ops.size false) a w.drew) : (Code.region id ops true).wp P Q a w :=
  wp_region_any hm (ob_any _ _ _ _ h)
def closedB (md : Region.Mode) (ops : Array Oper) (done : Array Bool) : Bool := (List.range ops.size).all fun t => !done.getD t false || ((ops[t]?).map fun o => o.after.all fun e => !Region.binds md e || done.getD e.on false).getD true
def Closed (md : Region.Mode) (ops : Array Oper) (done : Array Bool) : Prop := ∀ t o, done.getD t false = true → ops[t]? = some o → ∀ e ∈ o.after, Region.binds md e = true → done.getD e.on false = true
theorem closed_of {done : Array Bool} (h : closedB md ops done = true) : Closed md ops done := by
  intro t o hd ho e he hb
  have h1 := List.all_eq_true.1 h t (List.mem_range.2 (Array.getElem?_eq_some_iff.1 ho).1)
  simp only [hd, ho, Bool.not_true, Bool.false_or, Option.map_some, Option.getD_some, Array.all_eq_true_iff_forall_mem] at h1
  have h2 := h1 e he
  simpa [hb] using h2
theorem getD_set_self {done : Array Bool} {j t : Nat} (h : (done.setIfInBounds j true).getD t false = true) : t = j ∨ done.getD t false = true := by
  rcases Nat.decEq j t with hjt | rfl
  · right; rwa [getD_set_ne false hjt] at h
  · exact .inl rfl
theorem closed_set {done : Array Bool} {j : Nat} (h : Closed md ops done) (hj : j ∈ Region.ready md ops done) : Closed md ops (done.setIfInBounds j true) := by
  intro t o hd ho e he hb
  rcases getD_set_self hd with rfl | hd
  · obtain ⟨_, o2, ho2, hall⟩ := mem_ready.1 hj
    rw [ho] at ho2; cases ho2
    exact getD_set_true (hall e he hb)
  · exact getD_set_true (h t o hd ho e he hb)
theorem closed_waits {done : Array Bool} {i : Nat} (h : Closed md ops done) : ∀ (f t : Nat), done.getD t false = true → waitsIn md ops i f t = true → done.getD i false = true
  | 0, t, hd, hw => by
    obtain ⟨o, ho, e, he, hb, rfl⟩ := Region.waitsFor_spec hw
    exact h t o hd ho e he hb
  | f + 1, t, hd, hw => by
    unfold waitsIn at hw
    rw [Bool.or_eq_true] at hw
    rcases hw with hw | hw
    · obtain ⟨o, ho, e, he, hb, rfl⟩ := Region.waitsFor_spec hw
      exact h t o hd ho e he hb
    · cases ho : ops[t]? with
      | none => rw [ho] at hw; cases hw
      | some o =>
        rw [ho] at hw
        simp only [Option.map_some, Option.getD_some] at hw
        obtain ⟨e, he, hb⟩ := Array.any_eq_true'.1 hw
        rw [Bool.and_eq_true] at hb
        exact closed_waits h f e.on (h t o hd ho e he hb.1) hb.2
theorem ready_waits {done : Array Bool} {i j : Nat} (h : Closed md ops done) (hj : j ∈ Region.ready md ops done) {f : Nat} (hw : waitsIn md ops i f j = true) : done.getD i false = true := by
  obtain ⟨_, o, ho, hall⟩ := mem_ready.1 hj
  have key : ∀ e ∈ o.after, Region.binds md e = true → ∀ f, (e.on = i ∨ waitsIn md ops i f e.on = true) → done.getD i false = true := by
    intro e he hb f hf
    have hd := hall e he hb
    rcases hf with rfl | hf
    · exact hd
    · exact closed_waits h f e.on hd hf
  cases f with
  | zero =>
    obtain ⟨o2, ho2, e, he, hb, heq⟩ := Region.waitsFor_spec hw
    rw [ho] at ho2; cases ho2
    exact key e he hb 0 (.inl heq)
  | succ f =>
    unfold waitsIn at hw
    rw [Bool.or_eq_true] at hw
    rcases hw with hw | hw
    · obtain ⟨o2, ho2, e, he, hb, heq⟩ := Region.waitsFor_spec hw
      rw [ho] at ho2; cases ho2
      exact key e he hb 0 (.inl heq)
    · rw [ho] at hw
      simp only [Option.map_some, Option.getD_some] at hw
      obtain ⟨e, he, hb⟩ := Array.any_eq_true'.1 hw
      rw [Bool.and_eq_true] at hb
      exact key e he hb.1 f (.inr hb.2)

theorem ob_first {S0 : World → Prop} {i : Nat} {oi : Oper} {v : Value} (hi : ops[i]? = some oi) (hsel : ∀ (j : Nat) (o : Oper) cs b, ops[j]? = some o → o.op ≠ .select cs b) (hQ : ∀ c a w, Q (.panic c) (a.put oi.dst v) w → Q (.panic c) a w)
    (hk : ((∀ w, S0 w) ∧ ob i = false) ∨ (∀ w, S w → S0 w)) : ∀ (k : Nat) (done : Array Bool) (a : Act) (w : World), Closed md ops done → (((∀ w, S0 w) ∧ ob i = false) ∨ tailWaitsC md ops ob done i = true) →
    (∀ j oj, ops[j]? = some oj → j ≠ i → done.getD j true = false → (∀ e ∈ oj.after, Region.binds md e = true → e.on ≠ i) → oi.apart ops oj = true) → i ∈ Region.ready md ops done → YieldsIf P ops S0 oi v a → S0 w → (ob i = true → S w) →
    wpOb P md ops Q S ob k (done.setIfInBounds i true) (a.put oi.dst v) w → wpOb P md ops Q S ob (k + 1) done a w := by
  have key : ∀ (done : Array Bool) (j : Nat), i ∈ Region.ready md ops done → j ∈ Region.ready md ops done → ∀ oj, ops[j]? = some oj → ∀ e ∈ oj.after, Region.binds md e = true → e.on ≠ i := by
    intro done j hr hj oj hoj e he hb heq
    obtain ⟨_, o2, ho2, hall⟩ := mem_ready.1 hj
    rw [hoj] at ho2
    cases ho2
    have h1 := hall e he hb
    have h0 := (mem_ready.1 hr).1
    rw [heq] at h1
    by_cases hs : i < done.size
    · simp [hs] at h0 h1
      rw [h0] at h1; cases h1
    · simp [hs] at h1
  intro k
  induction k with
  | zero =>
    intro done a w _ _ _ hr hy hS hS2 H
    refine ⟨fun h0 => (by rw [h0] at hr; cases hr), fun j hj => ?_⟩
    rcases Nat.decEq j i with hji | rfl
    · have hn := ready_mono hj hji
      rw [H.1] at hn; cases hn
    · exact hy.wpOp hi hS ⟨hS2, H⟩
  | succ k ih =>
    intro done a w hcl hta hfree hr hy hS hS2 H
    refine ⟨fun h0 => (by rw [h0] at hr; cases hr), fun j hj => ?_⟩
    rcases Nat.decEq j i with hji | rfl
    · obtain ⟨hun, oj, hoj, _⟩ := mem_ready.1 hj
      have hno := key done j hr hj oj hoj
      have hlow : ((∀ w, S0 w) ∧ ob i = false) ∨ ob j = true := by
        rcases hta with hta | hta
        · exact .inl hta
        · right
          cases hob : ob j with
          | true => rfl
          | false =>
            exfalso
            have h1 := List.all_eq_true.1 hta j (List.mem_range.2 (Array.getElem?_eq_some_iff.1 hoj).1)
            simp only [Bool.or_eq_true, decide_eq_true_eq, hob, Bool.false_eq_true, false_or] at h1
            rcases h1 with (h1 | h1) | h1
            · exact hji h1
            · by_cases hs : j < done.size
              · simp [hs] at hun h1
                rw [hun] at h1; cases h1
              · simp [hs] at h1
            · have hd := ready_waits hcl hj h1
              have h0 := (mem_ready.1 hr).1
              by_cases hs : i < done.size
              · simp [hs] at h0 hd
                rw [h0] at hd; cases hd
              · simp [hs] at hd
      refine wpOp_mono ?_ (wpOp_putIf hoj (hfree j oj hoj hji hun hno) (fun cs b => hsel i oi cs b hi) (fun cs b => hsel j oj cs b hoj) hQ hy (H.2 j (ready_mono hj hji)))
      rintro a' w' ⟨q1, q2, q3⟩
      have hS' : S0 w' := by
        rcases hlow with h | h
        · exact h.1 w'
        · rcases hk with h' | h'
          · exact h'.1 w'
          · exact h' w' (q2 h)
      refine ⟨q2, ih _ a' w' (closed_set hcl hj) ?_ ?_ (ready_mono hr (Ne.symm hji)) q1 hS' ?_ ?_⟩
      · rcases hta with h | h
        · exact .inl h
        · refine .inr (List.all_eq_true.2 fun t ht => ?_)
          have h1 := List.all_eq_true.1 h t ht
          simp only [Bool.or_eq_true, decide_eq_true_eq] at h1 ⊢
          rcases h1 with (h1 | h1) | h1
          · exact .inl (.inl h1)
          · exact .inl (.inr (getD_set_true h1))
          · exact .inr h1
      · intro m om hm hmi hum hnom
        refine hfree m om hm hmi ?_ hnom
        rcases Nat.decEq j m with hjm | rfl
        · rwa [getD_set_ne true hjm] at hum
        · exact hun
      · intro h
        rcases hlow with h' | h'
        · rw [h'.2] at h; cases h
        · exact q2 h'
      · rw [Array.setIfInBounds_comm _ _ hji]; exact q3
    · exact hy.wpOp hi hS ⟨hS2, H⟩
/-- taken ahead of the others: it reads what the condition tells -/
theorem ob_take {i : Nat} {oi : Oper} {v : Value} {k : Nat} {done : Array Bool} {a : Act} {w : World} (hi : ops[i]? = some oi) (hs : Region.noSelect ops = true) (hf : Region.free md ops done i = true)
    (hr : (Region.ready md ops done).contains i = true) (ht : tailWaitsC md ops ob done i = true) (hc : closedB md ops done = true) (hQ : ∀ c a w, Q (.panic c) (a.put oi.dst v) w → Q (.panic c) a w)
    (hy : YieldsIf P ops S oi v a) (hS : S w) (h : wpOb P md ops Q S ob k (done.setIfInBounds i true) (a.put oi.dst v) w) : wpOb P md ops Q S ob (k + 1) done a w :=
  ob_first hi (Region.noSelect_spec hs) hQ (.inr fun _ q => q) k done a w (closed_of hc) (.inr ht) (Region.free_spec hi hf) (by simpa using hr) hy hS (fun _ => hS) h
/-- an address, a number: it needs no condition on the world -/
theorem ob_pure {i : Nat} {oi : Oper} {v : Value} {k : Nat} {done : Array Bool} {a : Act} {w : World} (hi : ops[i]? = some oi) (hs : Region.noSelect ops = true) (hf : Region.free md ops done i = true)
    (hr : (Region.ready md ops done).contains i = true) (ht : ob i = false) (hc : closedB md ops done = true) (hQ : ∀ c a w, Q (.panic c) (a.put oi.dst v) w → Q (.panic c) a w)
    (hy : YieldsIf P ops (fun _ => True) oi v a) (h : wpOb P md ops Q S ob k (done.setIfInBounds i true) (a.put oi.dst v) w) : wpOb P md ops Q S ob (k + 1) done a w :=
  ob_first (S0 := fun _ => True) hi (Region.noSelect_spec hs) hQ (.inl ⟨fun _ => trivial, ht⟩) k done a w (closed_of hc) (.inl ⟨fun _ => trivial, ht⟩) (Region.free_spec hi hf) (by simpa using hr) hy trivial (fun q => by rw [ht] at q; cases q) h
/-- some operations may come up -/
theorem ob_some {js : List Nat} {k : Nat} {done : Array Bool} {a : Act} {w : World} (hr : Region.ready md ops done = js) (hj : js ≠ [])
    (h : ∀ i ∈ js, ∃ o, ops[i]? = some o ∧ ∀ K : Act → World → Prop, (∀ a' w', (ob i = true → S w') → wpOb P md ops Q S ob k (done.setIfInBounds i true) a' w' → K a' w') → if Region.wanted o (yielded ops a.tmps) = true then Oper.wp P o a w K Q else K (a.put o.dst undef) w) :
    wpOb P md ops Q S ob (k + 1) done a w := by
  refine ⟨fun h0 => (by rw [hr] at h0; exact absurd h0 hj), fun j hjm => ?_⟩
  rw [hr] at hjm
  obtain ⟨o, ho, hx0⟩ := h j hjm
  have hx := hx0 (fun a' w' => (ob j = true → S w') ∧ wpOb P md ops Q S ob k (done.setIfInBounds j true) a' w') (fun a' w' q1 q2 => ⟨q1, q2⟩)
  unfold wpOp
  simp only [ho]
  split
  · rename_i hw; rw [if_pos hw] at hx; exact .inl hx
  · rename_i hw; rw [if_neg hw] at hx; exact hx
/-- one operation alone may come up -/
theorem ob_step {i : Nat} {o : Oper} {k : Nat} {done : Array Bool} {a : Act} {w : World} (hr : Region.ready md ops done = [i]) (ho : ops[i]? = some o)
    (h : ∀ K : Act → World → Prop, (∀ a' w', (ob i = true → S w') → wpOb P md ops Q S ob k (done.setIfInBounds i true) a' w' → K a' w') → if Region.wanted o (yielded ops a.tmps) = true then Oper.wp P o a w K Q else K (a.put o.dst undef) w) :
    wpOb P md ops Q S ob (k + 1) done a w := by
  refine ob_some hr (by simp) (fun j hj => ?_)
  simp only [List.mem_singleton] at hj
  subst hj
  exact ⟨o, ho, h⟩
theorem ob_done {done : Array Bool} {a : Act} {w : World} (hr : Region.ready md ops done = []) (h : Q .normal a w) : ∀ k, wpOb P md ops Q S ob k done a w
  | 0 => ⟨hr, h⟩
  | _ + 1 => ⟨fun _ => h, by rw [hr]; simp⟩
/-- names for what the goal holds -/
theorem ob_name {k : Nat} {done : Array Bool} {a : Act} {w : World} (h : ∀ O, O = ops → ∀ R, R = Q → ∀ A, A = a → wpOb P md O R S ob k done A w) : wpOb P md ops Q S ob k done a w := h _ rfl _ rfl _ rfl
end
end Go.Proofs.Ytkklnaejpgcgoaa
