/- Plain facts: semaphoreref35.order's list is topological and closed. -/
import Derived.Test.YtkklnaejpgcgoaaLateTopo
namespace Go.Proofs.Ytkklnaejpgcgoaa

theorem at0_set (xs : List Int) {i j : Int} (u : Int) (h0 : 0 ≤ i) (h1 : i < xs.length) (h2 : 0 ≤ j) : at0 (xs.set i.toNat u) j = if j = i then u else at0 xs j := by
  unfold at0
  simp only [List.getD, List.getElem?_set]
  by_cases h : j = i
  · subst h; simp [show j.toNat < xs.length by omega]
  · rw [if_neg (by omega), if_neg h]

theorem toP (i : Int) (e : Int) (x : Wt) (r : List Wt) (h : x.frm = e) : (x :: r).countP (fun x => decide (x.to = i) && decide (x.frm = e)) = r.countP (fun x => decide (x.to = i) && decide (x.frm = e)) + if x.to = i then 1 else 0 := by
  rw [List.countP_cons]; congr 1; simp [h]

/-- what the round at e = out[k] keeps, r the waits still to come -/
structure RoundOk (n : Nat) (l : List Wt) (tk : List Int) (e : Int) (r : List Wt) (left out : List Int) : Prop where
  len : left.length = n
  cnt : ∀ i : Int, 0 ≤ i → i < n → at0 left i = ((l.countP (fun x => decide (x.to = i) && !decide (x.frm ∈ tk)) : Nat) : Int) + ((r.countP (fun x => decide (x.to = i) && decide (x.frm = e)) : Nat) : Int)
  iff : ∀ i : Int, 0 ≤ i → i < n → (i ∈ out ↔ at0 left i = 0)
  topo : Topo n l out
  pre : tk <+: out

theorem refStep_ok {n : Nat} {l : List Wt} {tk : List Int} {e : Int} {x : Wt} {r : List Wt} {left out : List Int} (ht : 0 ≤ x.to ∧ x.to < n) (h : RoundOk n l tk e (x :: r) left out) :
    RoundOk n l tk e r (refStep e (left, out) x).1 (refStep e (left, out) x).2 := by
  have hlen := h.len
  unfold refStep
  by_cases hf : x.frm = e
  · rw [if_pos hf]
    have hcx := h.cnt x.to ht.1 ht.2
    rw [toP x.to e x r hf, if_pos rfl] at hcx
    have hset : ∀ i : Int, 0 ≤ i → i < n → at0 (left.set x.to.toNat (at0 left x.to - 1)) i = if i = x.to then at0 left x.to - 1 else at0 left i := fun i h0 _ => at0_set left _ ht.1 (by omega) h0
    have hcnt : ∀ i : Int, 0 ≤ i → i < n → at0 (left.set x.to.toNat (at0 left x.to - 1)) i = ((l.countP (fun x => decide (x.to = i) && !decide (x.frm ∈ tk)) : Nat) : Int) + ((r.countP (fun x => decide (x.to = i) && decide (x.frm = e)) : Nat) : Int) := by
      intro i h0 h1
      rw [hset i h0 h1]
      split
      · rename_i hi; subst hi; omega
      · rename_i hi
        have := h.cnt i h0 h1
        rw [toP i e x r hf, if_neg (fun hh => hi hh.symm)] at this
        exact this
    have hnot : x.to ∉ out := fun hm => by
      have := (h.iff x.to ht.1 ht.2).1 hm; omega
    by_cases hz : at0 left x.to - 1 = 0
    · simp only [if_pos hz]
      refine ⟨by simpa using hlen, hcnt, fun i h0 h1 => ?_, topo_snoc h.topo ht hnot (fun y hy hyt => ?_), h.pre.trans (List.prefix_append _ _)⟩
      · rw [hset i h0 h1]
        simp only [List.mem_append, List.mem_singleton]
        split
        · rename_i hi; simp [hi, hz]
        · rename_i hi; rw [← h.iff i h0 h1]; simp [hi]
      · have hc0 := hcnt x.to ht.1 ht.2
        rw [hset x.to ht.1 ht.2, if_pos rfl, hz] at hc0
        have hl0 : l.countP (fun y => decide (y.to = x.to) && !decide (y.frm ∈ tk)) = 0 := by omega
        have := List.countP_eq_zero.1 hl0 y hy
        simp only [hyt, decide_true, Bool.true_and, Bool.not_eq_true', decide_eq_false_iff_not, Decidable.not_not] at this
        exact h.pre.subset this
    · simp only [if_neg hz]
      refine ⟨by simpa using hlen, hcnt, fun i h0 h1 => ?_, h.topo, h.pre⟩
      rw [hset i h0 h1]
      split
      · rename_i hi; subst hi; simp [hnot, hz]
      · exact h.iff i h0 h1
  · rw [if_neg hf]
    refine ⟨hlen, fun i h0 h1 => ?_, h.iff, h.topo, h.pre⟩
    rw [h.cnt i h0 h1, List.countP_cons]
    simp [hf]

theorem refFold_ok {n : Nat} {l : List Wt} {tk : List Int} {e : Int} : ∀ (r : List Wt) (s : List Int × List Int), (∀ x ∈ r, 0 ≤ x.to ∧ x.to < n) → RoundOk n l tk e r s.1 s.2 → RoundOk n l tk e [] (r.foldl (refStep e) s).1 (r.foldl (refStep e) s).2
  | [], _, _, h => h
  | x :: r, s, hr, h => refFold_ok r (refStep e s x) (fun y hy => hr y (by simp [hy])) (refStep_ok (hr x (by simp)) h)

/-- what stands between the rounds -/
structure RefOkAt (n : Nat) (l : List Wt) (k : Nat) (left out : List Int) : Prop where
  len : left.length = n
  cnt : ∀ i : Int, 0 ≤ i → i < n → at0 left i = ((l.countP (fun x => decide (x.to = i) && !decide (x.frm ∈ out.take k)) : Nat) : Int)
  iff : ∀ i : Int, 0 ≤ i → i < n → (i ∈ out ↔ at0 left i = 0)
  topo : Topo n l out
  kle : k ≤ out.length

theorem countP_split {l : List Wt} {i e : Int} {tk : List Int} (he : e ∉ tk) : l.countP (fun x => decide (x.to = i) && !decide (x.frm ∈ tk)) =
    l.countP (fun x => decide (x.to = i) && !decide (x.frm ∈ tk ++ [e])) + l.countP (fun x => decide (x.to = i) && decide (x.frm = e)) := by
  induction l with
  | nil => rfl
  | cons x r ih =>
    simp only [List.countP_cons, ih]
    by_cases h1 : x.to = i
    · by_cases h2 : x.frm = e
      · simp [h1, h2, he]; omega
      · by_cases h3 : x.frm ∈ tk
        · simp [h1, h2, h3]
        · simp [h1, h2, h3]; omega
    · simp [h1]

theorem refRun_ok {n : Nat} {l : List Wt} (hl : ∀ x ∈ l, 0 ≤ x.to ∧ x.to < n) : ∀ (f k : Nat) (left out : List Int), RefOkAt n l k left out → n + 1 ≤ f + k →
    ∃ R, refRun l f k left out = some R ∧ Topo n l R ∧ Shut n l R
  | 0, k, left, out, h, hf => by have := topo_le h.topo; have := h.kle; omega
  | f + 1, k, left, out, h, hf => by
    unfold refRun
    cases he : out[k]? with
    | none =>
      refine ⟨out, rfl, h.topo, fun e e0 e1 hn => ?_⟩
      have hk : out.length ≤ k := by simpa using he
      have h1 : at0 left e ≠ 0 := fun hz => hn ((h.iff e e0 e1).2 hz)
      rw [h.cnt e e0 e1, List.take_of_length_le hk] at h1
      have h2 : 0 < l.countP (fun x => decide (x.to = e) && !decide (x.frm ∈ out)) := by omega
      obtain ⟨x, hx, hxx⟩ := List.countP_pos_iff.1 h2
      simp only [Bool.and_eq_true, decide_eq_true_eq, Bool.not_eq_true', decide_eq_false_iff_not] at hxx
      exact ⟨x, hx, hxx.1, hxx.2⟩
    | some e =>
      have hkl : k < out.length := (List.getElem?_eq_some_iff.1 he).1
      have htk : out.take (k + 1) = out.take k ++ [e] := by rw [List.take_add_one, he]; rfl
      have hne : e ∉ out.take k := by
        intro hm
        obtain ⟨j, hj, hje⟩ := mem_take_get hm
        have := (List.getElem?_inj (by omega : j < out.length) h.topo.nodup).1 (hje.trans he.symm)
        omega
      have h0 : RoundOk n l (out.take (k + 1)) e l left out := by
        refine ⟨h.len, fun i i0 i1 => ?_, h.iff, h.topo, List.take_prefix _ _⟩
        rw [h.cnt i i0 i1, countP_split hne, htk]; omega
      have h1 := refFold_ok l (left, out) hl h0
      refine refRun_ok hl f (k + 1) _ _ ⟨h1.len, fun i i0 i1 => ?_, h1.iff, h1.topo, ?_⟩ (by omega)
      · have h2 := h1.cnt i i0 i1
        have hp : (l.foldl (refStep e) (left, out)).2.take (k + 1) = out.take (k + 1) := by
          have := List.prefix_iff_eq_take.1 h1.pre
          rw [List.length_take, Nat.min_eq_left (by omega)] at this
          exact this.symm
        rw [hp, h2]; simp
      · have := h1.pre.length_le
        rw [List.length_take, Nat.min_eq_left (by omega)] at this
        exact this

theorem incFold (n : Nat) : ∀ (l : List Wt) (left : List Int), left.length = n → (∀ x ∈ l, 0 ≤ x.to ∧ x.to < n) → (l.foldl incStep left).length = n ∧ ∀ i : Int, 0 ≤ i → i < n → at0 (l.foldl incStep left) i = at0 left i + ((l.countP (fun x => decide (x.to = i)) : Nat) : Int)
  | [], left, h, _ => ⟨h, fun i _ _ => by simp⟩
  | x :: r, left, h, hl => by
    obtain ⟨t0, t1⟩ := hl x (by simp)
    obtain ⟨h1, h2⟩ := incFold n r (incStep left x) (by simpa [incStep] using h) (fun y hy => hl y (by simp [hy]))
    refine ⟨h1, fun i i0 i1 => ?_⟩
    rw [List.foldl_cons, h2 i i0 i1, List.countP_cons]
    unfold incStep
    rw [at0_set left _ t0 (by omega) i0]
    by_cases hi : i = x.to
    · subst hi; simp; omega
    · rw [if_neg hi]; simp [Ne.symm hi]

theorem zeroFold (left : List Int) : ∀ (es : List Nat) (out : List Int), es.foldl (zeroStep left) out = out ++ (es.filter (fun i : Nat => decide (at0 left i = 0))).map (fun i : Nat => (i : Int))
  | [], out => by simp
  | e :: r, out => by
    rw [List.foldl_cons, zeroFold left r]
    unfold zeroStep
    split
    · rename_i h; simp [h]
    · rename_i h; simp [h]

theorem refOrder_ok {n : Nat} {l : List Wt} (hl : ∀ x ∈ l, 0 ≤ x.to ∧ x.to < n) : ∃ R, refOrder n l = some R ∧ Topo n l R ∧ Shut n l R := by
  obtain ⟨h1, h2⟩ := incFold n l (List.replicate n 0) (by simp) hl
  have h3 : ∀ i : Int, 0 ≤ i → i < n → at0 (refLeft n l) i = ((l.countP (fun x => decide (x.to = i)) : Nat) : Int) := by
    intro i i0 i1
    have := h2 i i0 i1
    unfold refLeft; rw [this]
    simp [at0, List.getD, show i.toNat < n by omega]
  have hst : refStart n (refLeft n l) = ((List.range n).filter (fun i : Nat => decide (at0 (refLeft n l) i = 0))).map (fun i : Nat => (i : Int)) := by
    unfold refStart; rw [zeroFold]; simp
  have hmem : ∀ i : Int, i ∈ refStart n (refLeft n l) ↔ 0 ≤ i ∧ i < n ∧ at0 (refLeft n l) i = 0 := by
    intro i
    rw [hst]
    simp only [List.mem_map, List.mem_filter, List.mem_range, decide_eq_true_eq]
    constructor
    · rintro ⟨k, ⟨hk, hz⟩, rfl⟩; exact ⟨by omega, by omega, hz⟩
    · rintro ⟨i0, i1, hz⟩; exact ⟨i.toNat, ⟨by omega, by rwa [show ((i.toNat : Nat) : Int) = i from by omega]⟩, by omega⟩
  refine refRun_ok hl (n + 1) 0 _ _ ⟨h1, fun i i0 i1 => ?_, fun i i0 i1 => ?_, ⟨?_, fun e he => ?_, fun k e hk x hx hxt => ?_⟩, Nat.zero_le _⟩ (by omega)
  · rw [h3 i i0 i1]; simp
  · rw [hmem]; simp [i0, i1]
  · rw [hst]
    exact List.Pairwise.map _ (fun a b (hab : a ≠ b) hh => hab (by omega)) ((List.nodup_range).filter _)
  · have := (hmem e).1 he; omega
  · have hm := (hmem e).1 (List.mem_of_getElem? hk)
    have := h3 e hm.1 hm.2.1
    rw [hm.2.2] at this
    have hz : l.countP (fun x => decide (x.to = e)) = 0 := by omega
    exact absurd hxt (by simpa using List.countP_eq_zero.1 hz x hx)
end Go.Proofs.Ytkklnaejpgcgoaa
