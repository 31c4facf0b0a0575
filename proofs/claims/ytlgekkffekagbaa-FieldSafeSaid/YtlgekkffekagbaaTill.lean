/- A region that draws its order and whose last operation writes what the others read: a condition on the world is held up to that operation alone. No condition. -/
import Derived.Test.YtlgekkffekagbaaBase
import Derived.OrdersHeld
import Derived.StillTail
import Derived.Deep.RegionHeld3
namespace Go.Proofs.Ytlgekkffekagbaa

section
variable {P : Program} {ops : Array Oper} {Q : Exit → Act → World → Prop} {md : Region.Mode} {S : World → Prop} {t : Nat}

/-- whatever comes up next; behind each operation but number t the condition holds -/
def wpTill (P : Program) (md : Region.Mode) (ops : Array Oper) (Q : Exit → Act → World → Prop) (S : World → Prop) (t : Nat) : Nat → Array Bool → Act → World → Prop
  | 0, done, a, w => Region.ready md ops done = [] ∧ Q .normal a w
  | k + 1, done, a, w => (Region.ready md ops done = [] → Q .normal a w) ∧ ∀ j ∈ Region.ready md ops done, wpOp P ops Q j (fun a' w' => (j ≠ t → S w') ∧ wpTill P md ops Q S t k (done.setIfInBounds j true) a' w') a w

theorem till_any : ∀ (k : Nat) (done : Array Bool) (a : Act) (w : World), wpTill P md ops Q S t k done a w → wpAny P md ops Q k done a w
  | 0, _, _, _, h => h
  | k + 1, _, _, _, h => ⟨h.1, fun j hj => wpOp_mono (fun a' w' q => till_any k _ a' w' q.2) (h.2 j hj)⟩

theorem till_first {i : Nat} {oi : Oper} {v : Value} (hi : ops[i]? = some oi) (hsel : ∀ (j : Nat) (o : Oper) cs b, ops[j]? = some o → o.op ≠ .select cs b) (hQ : ∀ c a w, Q (.panic c) (a.put oi.dst v) w → Q (.panic c) a w)
    (hit : i ≠ t) (ht : Region.waitsFor md ops t i = true) : ∀ (k : Nat) (done : Array Bool) (a : Act) (w : World),
    (∀ j oj, ops[j]? = some oj → j ≠ i → done.getD j true = false → (∀ e ∈ oj.after, Region.binds md e = true → e.on ≠ i) → oi.apart ops oj = true) → i ∈ Region.ready md ops done → YieldsIf P ops S oi v a → S w →
    wpTill P md ops Q S t k (done.setIfInBounds i true) (a.put oi.dst v) w → wpTill P md ops Q S t (k + 1) done a w := by
  have key : ∀ (done : Array Bool) (j : Nat), i ∈ Region.ready md ops done → j ∈ Region.ready md ops done → ∀ oj, ops[j]? = some oj → ∀ e ∈ oj.after, Region.binds md e = true → e.on ≠ i := by
    intro done j hr hj oj hoj e he hb heq
    obtain ⟨_, o2, ho2, hall⟩ := mem_ready.1 hj
    rw [hoj] at ho2
    cases ho2
    have h1 := hall e he hb
    have h0 := (mem_ready.1 hr).1
    rw [heq] at h1
    by_cases hs : i < done.size
    · simp [hs] at h0 h1
      rw [h0] at h1; cases h1
    · simp [hs] at h1
  intro k
  induction k with
  | zero =>
    intro done a w _ hr hy hS H
    refine ⟨fun h0 => (by rw [h0] at hr; cases hr), fun j hj => ?_⟩
    rcases Nat.decEq j i with hji | rfl
    · have hn := ready_mono hj hji
      rw [H.1] at hn; cases hn
    · exact hy.wpOp hi hS ⟨fun _ => hS, H⟩
  | succ k ih =>
    intro done a w hfree hr hy hS H
    refine ⟨fun h0 => (by rw [h0] at hr; cases hr), fun j hj => ?_⟩
    rcases Nat.decEq j i with hji | rfl
    · obtain ⟨hun, oj, hoj, _⟩ := mem_ready.1 hj
      have hno := key done j hr hj oj hoj
      have hjt : j ≠ t := by
        rintro rfl
        obtain ⟨ot, hot, e, he, hb, heq⟩ := Region.waitsFor_spec ht
        rw [hoj] at hot; cases hot
        exact hno e he hb heq
      refine wpOp_mono ?_ (wpOp_putIf hoj (hfree j oj hoj hji hun hno) (fun cs b => hsel i oi cs b hi) (fun cs b => hsel j oj cs b hoj) hQ hy (H.2 j (ready_mono hj hji)))
      rintro a' w' ⟨q1, q2, q3⟩
      refine ⟨q2, ih _ a' w' ?_ (ready_mono hr (Ne.symm hji)) q1 (q2 hjt) ?_⟩
      · intro m om hm hmi hum hnom
        refine hfree m om hm hmi ?_ hnom
        rcases Nat.decEq j m with hjm | rfl
        · rwa [getD_set_ne true hjm] at hum
        · exact hun
      · rw [Array.setIfInBounds_comm _ _ hji]; exact q3
    · exact hy.wpOp hi hS ⟨fun _ => hS, H⟩

theorem till_take {i : Nat} {oi : Oper} {v : Value} {k : Nat} {done : Array Bool} {a : Act} {w : World} (hi : ops[i]? = some oi) (hs : Region.noSelect ops = true) (hf : Region.free md ops done i = true)
    (hr : (Region.ready md ops done).contains i = true) (hit : i ≠ t) (ht : Region.waitsFor md ops t i = true) (hQ : ∀ c a w, Q (.panic c) (a.put oi.dst v) w → Q (.panic c) a w)
    (hy : YieldsIf P ops S oi v a) (hS : S w) (h : wpTill P md ops Q S t k (done.setIfInBounds i true) (a.put oi.dst v) w) : wpTill P md ops Q S t (k + 1) done a w :=
  till_first hi (Region.noSelect_spec hs) hQ hit ht k done a w (Region.free_spec hi hf) (by simpa using hr) hy hS h

/-- one operation alone may come up -/
theorem till_step {i : Nat} {o : Oper} {k : Nat} {done : Array Bool} {a : Act} {w : World} (hr : Region.ready md ops done = [i]) (ho : ops[i]? = some o)
    (h : ∀ K : Act → World → Prop, (∀ a' w', (i ≠ t → S w') → wpTill P md ops Q S t k (done.setIfInBounds i true) a' w' → K a' w') → if Region.wanted o (yielded ops a.tmps) = true then Oper.wp P o a w K Q else K (a.put o.dst undef) w) :
    wpTill P md ops Q S t (k + 1) done a w := by
  refine ⟨fun h0 => (by rw [hr] at h0; cases h0), fun j hj => ?_⟩
  rw [hr] at hj
  simp only [List.mem_singleton] at hj
  subst hj
  have hx := h (fun a' w' => (j ≠ t → S w') ∧ wpTill P md ops Q S t k (done.setIfInBounds j true) a' w') (fun a' w' q1 q2 => ⟨q1, q2⟩)
  unfold wpOp
  simp only [ho]
  split
  · rename_i hw; rw [if_pos hw] at hx; exact .inl hx
  · rename_i hw; rw [if_neg hw] at hx; exact hx
theorem till_done {done : Array Bool} {a : Act} {w : World} (hr : Region.ready md ops done = []) (h : Q .normal a w) : ∀ k, wpTill P md ops Q S t k done a w
  | 0 => ⟨hr, h⟩
  | _ + 1 => ⟨fun _ => h, by rw [hr]; simp⟩
theorem region_till {id : Nat} {a : Act} {w : World} (hm : P.follows .mixedOrders = true) (h : wpTill P .any ops Q S t ops.size (Array.replicate ops.size false) a w.drew) : (Code.region id ops true).wp P Q a w :=
  wp_region_any hm (till_any _ _ _ _ h)
end
end Go.Proofs.Ytlgekkffekagbaa
