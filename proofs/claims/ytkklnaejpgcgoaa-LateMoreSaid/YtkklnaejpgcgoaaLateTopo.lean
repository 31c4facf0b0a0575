/- Plain facts: the two orders are topological and closed; they hold the same events. -/
import Derived.Test.YtkklnaejpgcgoaaLatePure1
namespace Go.Proofs.Ytkklnaejpgcgoaa

/-- no event ahead of one that it waits for; no event twice; all in range -/
structure Topo (n : Nat) (l : List Wt) (o : List Int) : Prop where
  nodup : o.Nodup
  mem : ∀ e ∈ o, 0 ≤ e ∧ e < (n : Int)
  pre : ∀ (k : Nat) (e : Int), o[k]? = some e → ∀ x ∈ l, x.to = e → x.frm ∈ o.take k
/-- whoever is not in o waits for somebody who is not -/
def Shut (n : Nat) (l : List Wt) (o : List Int) : Prop := ∀ e : Int, 0 ≤ e → e < n → e ∉ o → ∃ x ∈ l, x.to = e ∧ x.frm ∉ o

theorem mem_take_get {o : List Int} {k : Nat} {e : Int} (h : e ∈ o.take k) : ∃ j, j < k ∧ o[j]? = some e := by
  obtain ⟨j, hj⟩ := List.mem_iff_getElem?.1 h
  have hjk : j < k := by
    have := (List.getElem?_eq_some_iff.1 hj).1
    simp at this; omega
  refine ⟨j, hjk, ?_⟩
  rwa [List.getElem?_take_of_lt hjk] at hj

theorem topo_sub {n : Nat} {l : List Wt} {o o' : List Int} (h : Topo n l o) (h' : Shut n l o') : ∀ e ∈ o, e ∈ o' := by
  have key : ∀ (k : Nat) (e : Int), o[k]? = some e → e ∈ o' := by
    intro k
    induction k using Nat.strongRecOn with
    | _ k ih =>
      intro e he
      by_cases hc : e ∈ o'
      · exact hc
      · have hm := h.mem e (List.mem_of_getElem? he)
        obtain ⟨x, hx, hxt, hxf⟩ := h' e hm.1 hm.2 hc
        obtain ⟨j, hj, hje⟩ := mem_take_get (h.pre k e he x hx hxt)
        exact absurd (ih j hj _ hje) hxf
  intro e he
  obtain ⟨k, hk⟩ := List.mem_iff_getElem?.1 he
  exact key k e hk

/-- a list without repeats that is part of another one is no longer -/
theorem nodup_le : ∀ {o o' : List Int}, o.Nodup → (∀ e ∈ o, e ∈ o') → o.length ≤ o'.length
  | [], _, _, _ => Nat.zero_le _
  | a :: r, o', hn, hs => by
    obtain ⟨ha, hr⟩ := List.nodup_cons.1 hn
    have h1 : a ∈ o' := hs a (by simp)
    have h2 : ∀ e ∈ r, e ∈ o'.erase a := fun e he => (List.mem_erase_of_ne (fun h : e = a => ha (h ▸ he))).2 (hs e (by simp [he]))
    have := nodup_le hr h2
    rw [List.length_erase_of_mem h1] at this
    have := List.length_pos_of_mem h1
    simp only [List.length_cons]; omega

theorem topo_len {n : Nat} {l : List Wt} {o o' : List Int} (h1 : Topo n l o) (h2 : Shut n l o) (h1' : Topo n l o') (h2' : Shut n l o') : o.length = o'.length :=
  Nat.le_antisymm (nodup_le h1.nodup (topo_sub h1 h2')) (nodup_le h1'.nodup (topo_sub h1' h2))

theorem topo_le {n : Nat} {l : List Wt} {o : List Int} (h : Topo n l o) : o.length ≤ n := by
  have := nodup_le (o' := (List.range n).map (fun k : Nat => (k : Int))) h.nodup (fun e he => by
    obtain ⟨h0, h1⟩ := h.mem e he
    exact List.mem_map.2 ⟨e.toNat, List.mem_range.2 (by omega), by omega⟩)
  simpa using this
theorem topo_all {n : Nat} {l : List Wt} {o : List Int} (h : Topo n l o) (hl : o.length = n) {e : Int} (h0 : 0 ≤ e) (h1 : e < n) : e ∈ o := by
  by_cases hc : e ∈ o
  · exact hc
  · have := topo_le (n := n) (l := []) (o := e :: o) ⟨List.nodup_cons.2 ⟨hc, h.nodup⟩, by intro a ha; rcases List.mem_cons.1 ha with rfl | ha; exact ⟨h0, h1⟩; exact h.mem a ha, by intro k a _ x hx; cases hx⟩
    simp at this; omega

theorem topo_snoc {n : Nat} {l : List Wt} {o : List Int} {e : Int} (h : Topo n l o) (he : 0 ≤ e ∧ e < (n : Int)) (hn : e ∉ o) (hp : ∀ x ∈ l, x.to = e → x.frm ∈ o) : Topo n l (o ++ [e]) := by
  refine ⟨List.nodup_append.2 ⟨h.nodup, by simp, ?_⟩, ?_, ?_⟩
  · intro a ha b hb; simp at hb; subst hb; intro hab; subst hab; exact hn ha
  · intro a ha; rcases List.mem_append.1 ha with ha | ha
    · exact h.mem a ha
    · simp at ha; subst ha; exact he
  · intro k a hk x hx hxt
    rcases Nat.lt_or_ge k o.length with hl | hl
    · rw [List.getElem?_append_left hl] at hk
      rw [List.take_append_of_le_length (by omega)]
      exact h.pre k a hk x hx hxt
    · rw [List.getElem?_append_right hl] at hk
      have hk0 : k - o.length = 0 := by
        have := (List.getElem?_eq_some_iff.1 hk).1; simp at this; omega
      rw [hk0] at hk; simp at hk; subst hk
      rw [show k = o.length from by omega]; simp
      exact hp x hx hxt

theorem topo_nil (n : Nat) (l : List Wt) : Topo n l [] := ⟨List.nodup_nil, by simp, by intro k e h; simp at h⟩

/-! late.order -/
structure OrdOk (n : Nat) (l : List Wt) (ds : List Bool) (outs : List Int) : Prop where
  len : ds.length = n
  iff : ∀ k, k < n → (ds.getD k false = true ↔ (k : Int) ∈ outs)
  topo : Topo n l outs

theorem ordStep_ok {n : Nat} {l : List Wt} (hl : ∀ x ∈ l, 0 ≤ x.frm ∧ x.frm < n ∧ 0 ≤ x.to ∧ x.to < n) {s : List Bool × List Int × Bool} {e : Nat} (he : e < n) (h : OrdOk n l s.1 s.2.1) :
    OrdOk n l (ordStep l e s).1 (ordStep l e s).2.1 := by
  unfold ordStep
  split
  · exact h
  · rename_i hc
    simp only [Bool.or_eq_true, not_or, Bool.not_eq_true] at hc
    obtain ⟨hc1, hc2⟩ := hc
    have hlen := h.len
    refine ⟨by simpa using hlen, fun k hk => ?_, topo_snoc h.topo (by omega) (fun hm => ?_) (fun x hx hxt => ?_)⟩
    · simp only [List.mem_append, List.mem_singleton]
      by_cases hke : k = e
      · subst hke; simp [List.getD, hlen, hk]
      · rw [show (s.1.set e true).getD k false = s.1.getD k false from by simp [List.getD, Ne.symm hke], h.iff k hk]
        constructor
        · exact .inl
        · rintro (h1 | h1)
          · exact h1
          · omega
    · rw [(h.iff e he).2 hm] at hc1; cases hc1
    · obtain ⟨x1, x2, x3, x4⟩ := hl x hx
      unfold ordBlocked at hc2
      have := List.any_eq_false.1 hc2 x hx
      simp only [hxt, decide_true, Bool.true_and, Bool.not_eq_true, Bool.not_eq_false'] at this
      have h2 := (h.iff x.frm.toNat (by omega)).1 this
      rwa [show ((x.frm.toNat : Nat) : Int) = x.frm from by omega] at h2

theorem ordPass_ok {n : Nat} {l : List Wt} (hl : ∀ x ∈ l, 0 ≤ x.frm ∧ x.frm < n ∧ 0 ≤ x.to ∧ x.to < n) : ∀ (es : List Nat) (s : List Bool × List Int × Bool), (∀ e ∈ es, e < n) → OrdOk n l s.1 s.2.1 → OrdOk n l (ordPass l es s).1 (ordPass l es s).2.1
  | [], _, _, h => h
  | e :: r, s, he, h => ordPass_ok hl r (ordStep l e s) (fun k hk => he k (by simp [hk])) (ordStep_ok hl (he e (by simp)) h)

theorem ordStep_news {l : List Wt} {e : Nat} {s : List Bool × List Int × Bool} (h : s.2.2 = true) : (ordStep l e s).2.2 = true := by unfold ordStep; split <;> simp [h]
theorem ordPass_news {l : List Wt} : ∀ (es : List Nat) (s : List Bool × List Int × Bool), s.2.2 = true → (ordPass l es s).2.2 = true
  | [], _, h => h
  | _ :: r, _, h => ordPass_news r _ (ordStep_news h)
theorem ordPass_still {l : List Wt} : ∀ (es : List Nat) (s : List Bool × List Int × Bool), (ordPass l es s).2.2 = false → (∀ e ∈ es, (s.1.getD e false || ordBlocked l s.1 e) = true) ∧ ordPass l es s = s
  | [], s, _ => ⟨by simp, rfl⟩
  | e :: r, s, h => by
    rw [ordPass_cons] at h ⊢
    by_cases hc : (s.1.getD e false || ordBlocked l s.1 e) = true
    · have hs : ordStep l e s = s := by unfold ordStep; rw [if_pos hc]
      rw [hs] at h ⊢
      obtain ⟨h1, h2⟩ := ordPass_still r s h
      exact ⟨by intro k hk; rcases List.mem_cons.1 hk with rfl | hk; exact hc; exact h1 k hk, h2⟩
    · have hs : (ordStep l e s).2.2 = true := by unfold ordStep; rw [if_neg hc]
      rw [ordPass_news r _ hs] at h; cases h
theorem ordPass_grow {l : List Wt} : ∀ (es : List Nat) (s : List Bool × List Int × Bool), s.2.1.length ≤ (ordPass l es s).2.1.length ∧ (s.2.2 = false → (ordPass l es s).2.2 = true → s.2.1.length < (ordPass l es s).2.1.length)
  | [], s => ⟨Nat.le_refl _, fun h h' => by rw [show (ordPass l [] s) = s from rfl, h] at h'; cases h'⟩
  | e :: r, s => by
    rw [ordPass_cons]
    obtain ⟨h1, h2⟩ := ordPass_grow r (ordStep l e s)
    by_cases hc : (s.1.getD e false || ordBlocked l s.1 e) = true
    · have hs : ordStep l e s = s := by unfold ordStep; rw [if_pos hc]
      rw [hs] at h1 h2 ⊢
      exact ⟨h1, h2⟩
    · have hs : (ordStep l e s).2.1.length = s.2.1.length + 1 := by unfold ordStep; rw [if_neg hc]; simp
      rw [hs] at h1
      exact ⟨by omega, fun _ _ => by omega⟩

theorem ordRun_ok {n : Nat} {l : List Wt} (hl : ∀ x ∈ l, 0 ≤ x.frm ∧ x.frm < n ∧ 0 ≤ x.to ∧ x.to < n) : ∀ (f : Nat) (ds : List Bool) (outs : List Int), OrdOk n l ds outs → n + 1 ≤ f + outs.length →
    Topo n l (ordRun n l f (ds, outs)) ∧ Shut n l (ordRun n l f (ds, outs))
  | 0, ds, outs, h, hf => by have := topo_le h.topo; omega
  | f + 1, ds, outs, h, hf => by
    rw [ordRun_succ]
    have hp := ordPass_ok hl (List.range n) (ds, outs, false) (fun e he => List.mem_range.1 he) h
    obtain ⟨g1, g2⟩ := ordPass_grow (l := l) (List.range n) (ds, outs, false)
    split
    · rename_i hn
      have := g2 rfl hn
      exact ordRun_ok hl f _ _ hp (by simp only at this; omega)
    · rename_i hn
      simp only [Bool.not_eq_true] at hn
      obtain ⟨h1, h2⟩ := ordPass_still _ _ hn
      refine ⟨hp.topo, fun e e0 e1 he => ?_⟩
      have h3 := h1 e.toNat (List.mem_range.2 (by omega))
      rw [h2] at he ⊢
      have h4 : ds.getD e.toNat false = false := by
        cases hd : ds.getD e.toNat false
        · rfl
        · have := (h.iff e.toNat (by omega)).1 hd
          rw [show ((e.toNat : Nat) : Int) = e from by omega] at this
          exact absurd this he
      simp only [h4, Bool.false_or] at h3
      unfold ordBlocked at h3
      obtain ⟨x, hx, hxx⟩ := List.any_eq_true.1 h3
      simp only [Bool.and_eq_true, decide_eq_true_eq, Bool.not_eq_true'] at hxx
      obtain ⟨x1, x2, x3, x4⟩ := hl x hx
      refine ⟨x, hx, by omega, fun hm => ?_⟩
      have := (h.iff x.frm.toNat (by omega)).2 (by rwa [show ((x.frm.toNat : Nat) : Int) = x.frm from by omega])
      rw [this] at hxx; cases hxx.2

theorem lateOrder_ok {n : Nat} {l : List Wt} (hl : ∀ x ∈ l, 0 ≤ x.frm ∧ x.frm < n ∧ 0 ≤ x.to ∧ x.to < n) : Topo n l (lateOrder n l) ∧ Shut n l (lateOrder n l) :=
  ordRun_ok hl (n + 1) _ _ ⟨by simp, fun k hk => by simp [List.getD, hk], topo_nil n l⟩ (by simp)
end Go.Proofs.Ytkklnaejpgcgoaa
