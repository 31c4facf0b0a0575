/- Plain laws on runs: how they join, that they end or come back. No condition. -/
import Derived.Test.YtlndfmflbdkpjaaNetPure
namespace Go.Proofs.Ytlndfmflbdkpjaa

theorem step_fst {p : Plan} {pos : List Int} {h : Port} (hs : (step p pos h).2 = 0) : step p pos h = ((step p pos h).1, 0) := by
  rw [← hs]

/-- semaphoreref6.Step -/
def refStep6 (p : Plan) (pos : List Int) (h : Port) : Port × Int := match nextOf p h with
  | none => (zeroPort, 3)
  | some x => if p.kind x.e = 4 then (zeroPort, 2) else match through p x.e x.n (refLies pos x.e) with
    | none => (zeroPort, 4)
    | some o => (⟨x.e, o⟩, 0)
theorem refStep6_eq (p : Plan) (pos : List Int) (h : Port) : refStep6 p pos h = step p pos h := by
  unfold refStep6 step refLies
  cases nextOf p h with
  | none => rfl
  | some x => simp only [through_lies]; rfl

theorem run_len (p : Plan) (pos : List Int) : ∀ (k : Nat) (h : Port), (runGo p pos k h).1.length ≤ k ∧ ((runGo p pos k h).2 = 5 → (runGo p pos k h).1.length = k) := by
  intro k
  induction k with
  | zero => intro h; unfold runGo; split <;> simp
  | succ k ih =>
    intro h
    unfold runGo
    by_cases hs : (step p pos h).2 ≠ 0
    · rw [if_pos hs]; simp only [List.length_nil]
      refine ⟨by omega, fun h5 => ?_⟩
      exfalso
      unfold step at h5 hs
      cases hn : nextOf p h with
      | none => simp [hn] at h5
      | some x =>
        simp only [hn] at h5
        split at h5
        · simp at h5
        · cases ht : through p x.e x.n (lies pos x.e) <;> simp [ht] at h5
    · rw [if_neg hs]
      obtain ⟨h1, h2⟩ := ih (step p pos h).1
      simp only [List.length_cons]
      exact ⟨by omega, fun h5 => by rw [h2 h5]⟩

theorem step_end {p : Plan} {pos : List Int} {h : Port} : (step p pos h).2 = 0 ∨ (step p pos h).2 = 2 ∨ (step p pos h).2 = 3 ∨ (step p pos h).2 = 4 := by
  unfold step
  cases nextOf p h with
  | none => simp
  | some x =>
    simp only
    split
    · simp
    · cases through p x.e x.n (lies pos x.e) <;> simp

/-- A run of a + b steps is one of a, and one of b from there. -/
def lastOf (h : Port) (l : List Port) : Port := l.getLast?.getD h
theorem lastOf_cons (h x : Port) (l : List Port) : lastOf h (x :: l) = lastOf x l := by
  unfold lastOf
  cases l with
  | nil => rfl
  | cons y r => simp [List.getLast?_cons_cons]; cases hr : (y :: r).getLast? with
    | none => simp at hr
    | some z => rfl
theorem run_join (p : Plan) (pos : List Int) (b : Nat) : ∀ (a : Nat) (h : Port), runGo p pos (a + b) h =
    if (runGo p pos a h).2 ≠ 5 then runGo p pos a h else ((runGo p pos a h).1 ++ (runGo p pos b (lastOf h (runGo p pos a h).1)).1, (runGo p pos b (lastOf h (runGo p pos a h).1)).2) := by
  intro a
  induction a with
  | zero =>
    intro h
    rw [Nat.zero_add]
    by_cases hs : (step p pos h).2 ≠ 0
    · have h0 : runGo p pos 0 h = ([], (step p pos h).2) := by unfold runGo; rw [if_pos hs]
      have hb : runGo p pos b h = ([], (step p pos h).2) := by cases b <;> (unfold runGo; rw [if_pos hs])
      rw [h0, hb]
      rcases step_end (p := p) (pos := pos) (h := h) with e | e | e | e
      · exact absurd e hs
      all_goals simp [e]
    · have h0 : runGo p pos 0 h = ([], 5) := by unfold runGo; rw [if_neg hs]
      rw [h0]; simp [lastOf]
  | succ a ih =>
    intro h
    rw [show a + 1 + b = a + b + 1 by omega]
    have e1 : runGo p pos (a + b + 1) h = if (step p pos h).2 ≠ 0 then ([], (step p pos h).2) else ((step p pos h).1 :: (runGo p pos (a + b) (step p pos h).1).1, (runGo p pos (a + b) (step p pos h).1).2) := rfl
    have e2 : runGo p pos (a + 1) h = if (step p pos h).2 ≠ 0 then ([], (step p pos h).2) else ((step p pos h).1 :: (runGo p pos a (step p pos h).1).1, (runGo p pos a (step p pos h).1).2) := rfl
    rw [e1, e2]
    by_cases hs : (step p pos h).2 ≠ 0
    · rw [if_pos hs]
      rcases step_end (p := p) (pos := pos) (h := h) with e | e | e | e
      · exact absurd e hs
      all_goals simp [e]
    · rw [if_neg hs, if_neg hs]
      rw [ih]
      by_cases h5 : (runGo p pos a (step p pos h).1).2 ≠ 5
      · rw [if_pos h5, if_pos h5]
      · rw [if_neg h5, if_neg h5]
        simp only [lastOf_cons, List.cons_append]
theorem metres_append (p : Plan) (a b : List Port) : metres p (a ++ b) = metres p a + metres p b := by simp [metres]

/-! the headings of a run, one by one -/
theorem run_get (p : Plan) (pos : List Int) : ∀ (k : Nat) (h : Port) (i : Nat) (x : Port), (runGo p pos k h).1[i]? = some x →
    step p pos (match i with | 0 => h | i + 1 => (runGo p pos k h).1.getD i zeroPort) = (x, 0) := by
  intro k
  induction k with
  | zero => intro h i x hx; unfold runGo at hx; split at hx <;> simp at hx
  | succ k ih =>
    intro h i x hx
    unfold runGo at hx ⊢
    by_cases hs : (step p pos h).2 ≠ 0
    · rw [if_pos hs] at hx; simp at hx
    · rw [if_neg hs] at hx ⊢
      have hs0 : (step p pos h).2 = 0 := by simpa using hs
      cases i with
      | zero =>
        simp only [List.getElem?_cons_zero, Option.some.injEq] at hx
        simp only
        rw [← hx, ← hs0]
      | succ i =>
        simp only [List.getElem?_cons_succ] at hx
        have := ih _ i x hx
        cases i with
        | zero => simpa using this
        | succ i => simpa using this
theorem run_end (p : Plan) (pos : List Int) : ∀ (k : Nat) (h : Port), (runGo p pos k h).2 ≠ 5 → (step p pos (lastOf h (runGo p pos k h).1)).2 ≠ 0 := by
  intro k
  induction k with
  | zero =>
    intro h h5
    unfold runGo at h5 ⊢
    by_cases hs : (step p pos h).2 ≠ 0
    · rw [if_pos hs]; simpa [lastOf] using hs
    · rw [if_neg hs] at h5; simp at h5
  | succ k ih =>
    intro h h5
    unfold runGo at h5 ⊢
    by_cases hs : (step p pos h).2 ≠ 0
    · rw [if_pos hs]; simpa [lastOf] using hs
    · rw [if_neg hs] at h5 ⊢
      simp only [lastOf_cons]
      exact ih _ h5

/-- where two headings of a run are one, so are the first one and one that lies as far behind it -/
theorem run_shift {p : Plan} (g : Good p) {pos : List Int} {k : Nat} {h : Port} : ∀ (i j : Nat) (x : Port), (runGo p pos k h).1[i]? = some x → (runGo p pos k h).1[j]? = some x → i ≤ j →
    ∃ y, (runGo p pos k h).1[0]? = some y ∧ (runGo p pos k h).1[j - i]? = some y := by
  intro i
  induction i with
  | zero => intro j x hi hj _; exact ⟨x, hi, by simpa using hj⟩
  | succ i ih =>
    intro j x hi hj hij
    obtain ⟨j', rfl⟩ : ∃ j', j = j' + 1 := ⟨j - 1, by omega⟩
    have s1 := run_get p pos k h _ x hi
    have s2 := run_get p pos k h _ x hj
    simp only at s1 s2
    have he := step_inj g s1 s2
    have hli : i < (runGo p pos k h).1.length := by have := (List.getElem?_eq_some_iff.1 hi).1; omega
    have hlj : j' < (runGo p pos k h).1.length := by have := (List.getElem?_eq_some_iff.1 hj).1; omega
    have e1 : (runGo p pos k h).1.getD i zeroPort = (runGo p pos k h).1[i] := by simp [List.getD, List.getElem?_eq_getElem hli]
    have e2 : (runGo p pos k h).1.getD j' zeroPort = (runGo p pos k h).1[j'] := by simp [List.getD, List.getElem?_eq_getElem hlj]
    rw [e1, e2] at he
    obtain ⟨y, h1, h2⟩ := ih j' _ (List.getElem?_eq_getElem hli) (by rw [List.getElem?_eq_getElem hlj, he]) (by omega)
    exact ⟨y, h1, by rw [show j' + 1 - (i + 1) = j' - i by omega]; exact h2⟩

/-- a run that ends has no heading twice -/
theorem run_nodup {p : Plan} (g : Good p) {pos : List Int} {k : Nat} {h : Port} (h5 : (runGo p pos k h).2 ≠ 5) : (runGo p pos k h).1.Nodup := by
  rw [nodup_idx]
  intro i j hij hj he
  have hx : ∃ x, (runGo p pos k h).1[j]? = some x := ⟨_, List.getElem?_eq_getElem hj⟩
  obtain ⟨x, hx⟩ := hx
  obtain ⟨y, hy0, hyd⟩ := run_shift g i j x (by rw [he, hx]) hx (by omega)
  -- d = j - i > 0: heading m and heading m + d are one, as far as both are there
  have hd : 0 < j - i := by omega
  have key : ∀ m, m + (j - i) < (runGo p pos k h).1.length → (runGo p pos k h).1[m]? = (runGo p pos k h).1[m + (j - i)]? := by
    intro m
    induction m with
    | zero => intro _; rw [hy0, Nat.zero_add, hyd]
    | succ m ih =>
      intro hm
      have hm1 : m + 1 < (runGo p pos k h).1.length := by omega
      have e0 := ih (by omega)
      have s1 := run_get p pos k h (m + 1) _ (List.getElem?_eq_getElem hm1)
      have s2 := run_get p pos k h (m + (j - i) + 1) _ (List.getElem?_eq_getElem (show m + (j - i) + 1 < _ by omega))
      simp only at s1 s2
      have e1 : (runGo p pos k h).1.getD m zeroPort = (runGo p pos k h).1.getD (m + (j - i)) zeroPort := by simp only [List.getD, e0]
      rw [e1, s2] at s1
      rw [show m + 1 + (j - i) = m + (j - i) + 1 by omega, List.getElem?_eq_getElem hm1, List.getElem?_eq_getElem (show m + (j - i) + 1 < _ by omega)]
      have := congrArg Prod.fst s1
      simp only at this
      rw [this]
  -- the last heading has a step: the one that lies d before it has
  have hlen : j < (runGo p pos k h).1.length := hj
  have hend := run_end p pos k h h5
  have hl : lastOf h (runGo p pos k h).1 = (runGo p pos k h).1[(runGo p pos k h).1.length - 1]'(by omega) := by
    unfold lastOf
    rw [List.getLast?_eq_getElem?, List.getElem?_eq_getElem (by omega)]; rfl
  have hm := key ((runGo p pos k h).1.length - 1 - (j - i)) (by omega)
  rw [show (runGo p pos k h).1.length - 1 - (j - i) + (j - i) = (runGo p pos k h).1.length - 1 by omega, List.getElem?_eq_getElem (show (runGo p pos k h).1.length - 1 < _ by omega)] at hm
  have hs : (runGo p pos k h).1.length - 1 - (j - i) + 1 < (runGo p pos k h).1.length := by omega
  have s3 := run_get p pos k h ((runGo p pos k h).1.length - 1 - (j - i) + 1) _ (List.getElem?_eq_getElem hs)
  simp only [List.getD, hm, Option.getD_some] at s3
  rw [hl, s3] at hend
  exact hend rfl

/-- all headings of a run are ports of the plan -/
theorem isPort_iff {p : Plan} {x : Port} : isPort p x = true ↔ 0 ≤ x.e ∧ x.e < p.elems.length ∧ 0 ≤ x.n ∧ x.n < ends (p.kind x.e) := by
  unfold isPort; simp [and_assoc]
theorem step_port {p : Plan} (g : Good p) {pos : List Int} {h x : Port} (hs : step p pos h = (x, 0)) : isPort p x = true := by
  obtain ⟨y, hn, he, ht⟩ := step_ok hs
  have hy := isPort_iff.1 (g.ports hn).2
  have hr := through_range (through_back ht)
  rw [isPort_iff, he]
  exact ⟨hy.1, hy.2.1, hr.1, hr.2⟩

def allPorts (n : Nat) : List Port := (List.range n).flatMap fun (i : Nat) => [⟨i, 0⟩, ⟨i, 1⟩, ⟨i, 2⟩, ⟨i, 3⟩]
theorem allPorts_length (n : Nat) : (allPorts n).length = 4 * n := by
  unfold allPorts
  induction n with
  | zero => rfl
  | succ n ih => rw [List.range_succ, List.flatMap_append, List.length_append, ih]; simp; omega
theorem allPorts_mem {p : Plan} {x : Port} (h : isPort p x = true) : x ∈ allPorts p.elems.length := by
  obtain ⟨h1, h2, h3, h4⟩ := isPort_iff.1 h
  have := ends_nonneg (p.kind x.e)
  unfold allPorts
  rw [List.mem_flatMap]
  refine ⟨x.e.toNat, by simp; omega, ?_⟩
  obtain ⟨a, b⟩ := x
  have ha : ((a.toNat : Nat) : Int) = a := by simp at h1; omega
  have hb : b = 0 ∨ b = 1 ∨ b = 2 ∨ b = 3 := by simp at h3 h4 this; omega
  simp only [ha]
  rcases hb with rfl | rfl | rfl | rfl <;> simp
theorem nodup_le {α : Type} [DecidableEq α] : ∀ (l m : List α), l.Nodup → (∀ x ∈ l, x ∈ m) → l.length ≤ m.length := by
  intro l
  induction l with
  | nil => intro m _ _; simp
  | cons x r ih =>
    intro m hn hs
    obtain ⟨h1, h2⟩ := List.nodup_cons.1 hn
    have hx : x ∈ m := hs x (by simp)
    have := ih (m.erase x) h2 (fun y hy => (List.mem_erase_of_ne (fun e => h1 (by rw [← e]; exact hy))).2 (hs y (by simp [hy])))
    rw [List.length_erase_of_mem hx] at this
    have : 0 < m.length := List.length_pos_of_mem hx
    simp only [List.length_cons]; omega
theorem run_ports {p : Plan} (g : Good p) {pos : List Int} {k : Nat} {h x : Port} (hx : x ∈ (runGo p pos k h).1) : isPort p x = true := by
  obtain ⟨i, hi⟩ := List.getElem?_of_mem hx
  exact step_port g (run_get p pos k h i x hi)
theorem run_short {p : Plan} (g : Good p) (h40 : p.elems.length ≤ 40) {pos : List Int} {k : Nat} {h : Port} (h5 : (runGo p pos k h).2 ≠ 5) : (runGo p pos k h).1.length ≤ 160 := by
  have := nodup_le _ (allPorts p.elems.length) (run_nodup g h5) (fun x hx => allPorts_mem (run_ports g hx))
  rw [allPorts_length] at this; omega

/-- semaphorelaw5.WalkRings' search: none again, or the first time that a heading comes again it is the first one's -/
def ringRow (l : List Port) (i : Nat) (again : Bool) : List Nat → Option Bool
  | [] => some again
  | k :: r => if decide (l[i]? = l[k]?) && !again then (if k ≠ 0 then none else ringRow l i true r) else ringRow l i again r
def ringGo (l : List Port) : Bool → List Nat → Option Bool
  | again, [] => some again
  | again, i :: r => match ringRow l i again (List.range i) with
    | none => none
    | some a => ringGo l a r
theorem ringRow_true (l : List Port) (i : Nat) : ∀ ks, ringRow l i true ks = some true := by
  intro ks
  induction ks with
  | nil => rfl
  | cons k r ih => unfold ringRow; simp [ih]
theorem ringGo_true (l : List Port) : ∀ r, ringGo l true r = some true := by
  intro r
  induction r with
  | nil => rfl
  | cons i r ih => unfold ringGo; rw [ringRow_true]; exact ih
theorem ringRow_none {l : List Port} {i : Nat} : ∀ ks, (∀ k ∈ ks, l[i]? ≠ l[k]?) → ringRow l i false ks = some false := by
  intro ks
  induction ks with
  | nil => intro _; rfl
  | cons k r ih =>
    intro h
    unfold ringRow
    have h1 := h k (by simp)
    simp only [h1, decide_false, Bool.false_and]
    exact ih (fun k hk => h k (by simp [hk]))
/-- the first index at which a heading comes again has it in common with index 0 -/
theorem ringGo_ok {l : List Port} (hsh : ∀ (i j : Nat) (x : Port), l[i]? = some x → l[j]? = some x → i ≤ j → ∃ y, l[0]? = some y ∧ l[j - i]? = some y) :
    ∀ (m i : Nat), i + m = l.length → 1 ≤ i → (∀ a b, a < b → b < i → l[a]? ≠ l[b]?) → ringGo l false ((List.range m).map (· + i)) = some (decide (¬ l.Nodup)) := by
  intro m
  induction m with
  | zero =>
    intro i hi _ hno
    have : l.Nodup := by
      rw [nodup_idx]
      intro a b hab hb; exact hno a b hab (by omega)
    simp [ringGo, this]
  | succ m ih =>
    intro i hi h1 hno
    rw [List.range_succ_eq_map, List.map_cons, List.map_map, Nat.zero_add]
    have hf : ((fun x => x + i) ∘ Nat.succ) = (fun x => x + (i + 1)) := by funext x; simp; omega
    rw [hf]
    unfold ringGo
    have hil : i < l.length := by omega
    by_cases hr : ∃ a, a < i ∧ l[a]? = l[i]?
    · obtain ⟨a, ha, he⟩ := hr
      -- index 0 has it
      have h0 : l[0]? = l[i]? := by
        cases a with
        | zero => exact he
        | succ a =>
          exfalso
          obtain ⟨y, hy0, hyd⟩ := hsh (a + 1) i (l[i]) (by rw [he, List.getElem?_eq_getElem hil]) (List.getElem?_eq_getElem hil) (by omega)
          exact hno 0 (i - (a + 1)) (by omega) (by omega) (by rw [hy0, hyd])
      have hnd : ¬ l.Nodup := by
        rw [nodup_idx]
        intro hn; exact hn 0 i (by omega) hil h0
      have hrow : ringRow l i false (List.range i) = some true := by
        obtain ⟨i', rfl⟩ : ∃ i', i = i' + 1 := ⟨i - 1, by omega⟩
        rw [List.range_succ_eq_map]
        unfold ringRow
        simp only [h0.symm, decide_true, Bool.true_and, Bool.not_false, if_true]
        simp [ringRow_true]
      rw [hrow]
      simp only [ringGo_true]
      simp [hnd]
    · have hrow : ringRow l i false (List.range i) = some false := ringRow_none _ (fun k hk e => hr ⟨k, by simpa using hk, e.symm⟩)
      rw [hrow]
      exact ih (i + 1) (by omega) (by omega) (fun a b hab hb => by
        rcases Nat.lt_or_ge b i with h | h
        · exact hno a b hab h
        · have : b = i := by omega
          subst this
          exact fun e => hr ⟨a, hab, e⟩)
theorem run_rings {p : Plan} (g : Good p) (h40 : p.elems.length ≤ 40) {pos : List Int} {h : Port} (h5 : (runGo p pos 200 h).2 = 5) :
    ringGo (runGo p pos 200 h).1 false ((List.range ((runGo p pos 200 h).1.length - 1)).map (· + 1)) = some true := by
  have hl := (run_len p pos 200 h).2 h5
  rw [ringGo_ok (fun i j x => run_shift g i j x) _ 1 (by omega) (by omega) (by intro a b h1 h2; omega)]
  have : ¬ (runGo p pos 200 h).1.Nodup := by
    intro hn
    have := nodup_le _ (allPorts p.elems.length) hn (fun x hx => allPorts_mem (run_ports g hx))
    rw [allPorts_length] at this; omega
  simp [this]

/-! turned -/
theorem turn_back {p : Plan} {pos : List Int} {h t : Port} (ht : turn p pos h = some t) : turn p pos t = some h ∧ t.e = h.e := by
  unfold turn at ht ⊢
  cases h1 : through p h.e h.n (lies pos h.e) with
  | none => simp [h1] at ht
  | some i =>
    simp only [h1, Option.map_some, Option.some.injEq] at ht
    subst ht
    simp only
    rw [through_back h1]
    simp
theorem turned {p : Plan} (g : Good p) {pos : List Int} {h x : Port} (hs : step p pos h = (x, 0)) : ∃ b, turn p pos x = some b ∧
    (∀ t, turn p pos h = some t → step p pos b = (t, 0)) ∧ (turn p pos h = none → (step p pos b).2 = 4 ∨ (step p pos b).2 = 2) := by
  obtain ⟨y, hn, he, ht⟩ := step_ok hs
  have hb := (g.back hn).1
  refine ⟨y, ?_, ?_, ?_⟩
  · unfold turn; rw [he, through_back ht]; rfl
  · intro t hht
    unfold turn at hht
    cases h1 : through p h.e h.n (lies pos h.e) with
    | none => simp [h1] at hht
    | some i =>
      simp only [h1, Option.map_some, Option.some.injEq] at hht
      subst hht
      exact step_mk hb h1
  · intro hht
    unfold turn at hht
    cases h1 : through p h.e h.n (lies pos h.e) with
    | some i => simp [h1] at hht
    | none =>
      unfold step
      simp only [hb, h1]
      split <;> simp

/-! signals along a run -/
theorem aheadGo_none (p : Plan) (pos : List Int) : True := trivial
theorem route_eq (p : Plan) (pos : List Int) : ∀ (k : Nat) (h : Port), routeGo p pos k h = metSigs p (h :: (runGo p pos k h).1) := by
  intro k
  induction k with
  | zero =>
    intro h
    unfold routeGo runGo metSigs
    by_cases hs : (step p pos h).2 ≠ 0 <;> by_cases hr : 0 ≤ reads p h <;> simp [hs, hr]
  | succ k ih =>
    intro h
    have e1 : routeGo p pos (k + 1) h = (if 0 ≤ reads p h then [reads p h] else []) ++ (if (step p pos h).2 ≠ 0 then [] else routeGo p pos k (step p pos h).1) := rfl
    have e2 : runGo p pos (k + 1) h = if (step p pos h).2 ≠ 0 then ([], (step p pos h).2) else ((step p pos h).1 :: (runGo p pos k (step p pos h).1).1, (runGo p pos k (step p pos h).1).2) := rfl
    rw [e1, e2]
    by_cases hs : (step p pos h).2 ≠ 0
    · rw [if_pos hs, if_pos hs]; unfold metSigs; by_cases hr : 0 ≤ reads p h <;> simp [hr]
    · rw [if_neg hs, if_neg hs, ih]; unfold metSigs; by_cases hr : 0 ≤ reads p h <;> simp [hr]
/-- semaphoreref6.Ahead: the search along a run -/
def aheadRun (p : Plan) : List Port → Int → Option (Int × Int)
  | [], _ => none
  | x :: r, m => if 0 ≤ reads p x then some (reads p x, m + p.length x.e) else aheadRun p r (m + p.length x.e)
def refAhead (p : Plan) (pos : List Int) (h : Port) : Option (Int × Int) := if 0 ≤ reads p h then some (reads p h, 0) else aheadRun p (runGo p pos (portsNo p).toNat h).1 0
theorem ahead_go (p : Plan) (pos : List Int) : ∀ (k : Nat) (h : Port) (m : Int), aheadGo p pos k h m = if 0 ≤ reads p h then some (reads p h, m) else aheadRun p (runGo p pos k h).1 m := by
  intro k
  induction k with
  | zero =>
    intro h m
    unfold aheadGo runGo
    by_cases hr : 0 ≤ reads p h
    · rw [if_pos hr, if_pos hr]
    · rw [if_neg hr, if_neg hr]; split <;> rfl
  | succ k ih =>
    intro h m
    have e1 : aheadGo p pos (k + 1) h m = if 0 ≤ reads p h then some (reads p h, m) else if (step p pos h).2 ≠ 0 then none else aheadGo p pos k (step p pos h).1 (m + p.length (step p pos h).1.e) := rfl
    have e2 : runGo p pos (k + 1) h = if (step p pos h).2 ≠ 0 then ([], (step p pos h).2) else ((step p pos h).1 :: (runGo p pos k (step p pos h).1).1, (runGo p pos k (step p pos h).1).2) := rfl
    rw [e1, e2]
    by_cases hr : 0 ≤ reads p h
    · rw [if_pos hr, if_pos hr]
    · rw [if_neg hr, if_neg hr]
      split
      · rfl
      · rw [ih]; rfl
theorem ahead_eq (p : Plan) (pos : List Int) (h : Port) : ahead p pos h = refAhead p pos h := by unfold ahead refAhead; rw [ahead_go]

end Go.Proofs.Ytlndfmflbdkpjaa
