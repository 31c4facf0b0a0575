/- Plain laws on nets: joins lead back, ways lead back, what a fine plan has. No condition. -/
import Derived.Test.YtlndfmflbdkpjaaNetDef
namespace Go.Proofs.Ytlndfmflbdkpjaa

theorem nodup_idx {α : Type} {l : List α} : l.Nodup ↔ ∀ i j, i < j → j < l.length → l[i]? ≠ l[j]? := by
  unfold List.Nodup
  rw [List.pairwise_iff_getElem]
  constructor
  · intro h i j hij hj
    rw [List.getElem?_eq_getElem (show i < l.length by omega), List.getElem?_eq_getElem hj]
    exact fun e => h i j (by omega) hj hij (Option.some.inj e)
  · intro h i j hi hj hij e
    exact h i j hij hj (by rw [List.getElem?_eq_getElem hi, List.getElem?_eq_getElem hj, e])

/-! what a plan that is fine has -/
theorem chk_zero {p : Plan} (h : chk p = 0) : tooMuch p = false ∧ argsOk p = true ∧ namesTwice p = false ∧ joinedOk p = true ∧ signalsOk p = true ∧ linesOk p = true ∧ longOk p = true := by
  unfold chk at h
  cases h1 : tooMuch p <;> cases h2 : argsOk p <;> cases h3 : namesTwice p <;> cases h4 : joinedOk p <;> cases h5 : signalsOk p <;> cases h6 : linesOk p <;> cases h7 : longOk p <;> simp_all

theorem flat_mem {js : List Join} {x : Port} : x ∈ flatJoins js ↔ ∃ j ∈ js, x = j.a ∨ x = j.b := by
  induction js with
  | nil => simp [flatJoins]
  | cons j r ih => simp [flatJoins, ih, or_assoc]
theorem joinGo_ok {p : Plan} : ∀ (js : List Join) (met : List Port), joinGo p met js = true → (flatJoins js).Nodup ∧ (∀ x ∈ flatJoins js, x ∉ met) ∧ ∀ x ∈ flatJoins js, isPort p x = true := by
  intro js
  induction js with
  | nil => intro met _; simp [flatJoins]
  | cons j r ih =>
    intro met h
    simp only [joinGo, Bool.and_eq_true, Bool.not_eq_true', Bool.or_eq_false_iff, decide_eq_false_iff_not, Bool.not_eq_false'] at h
    obtain ⟨⟨⟨⟨⟨h1, h2⟩, h3⟩, h4⟩, h5⟩, h6⟩ := h
    obtain ⟨i1, i2, i3⟩ := ih _ h6
    have hna : j.a ∉ flatJoins r := fun hm => i2 _ hm (by simp)
    have hnb : j.b ∉ flatJoins r := fun hm => i2 _ hm (by simp)
    refine ⟨?_, ?_, ?_⟩
    · simp only [flatJoins, List.nodup_cons, List.mem_cons, not_or]
      exact ⟨⟨h3, hna⟩, hnb, i1⟩
    · intro x hx
      simp only [flatJoins, List.mem_cons] at hx
      rcases hx with rfl | rfl | hx
      · exact h1
      · exact h2
      · intro hm; exact i2 x hx (by simp [hm])
    · intro x hx
      simp only [flatJoins, List.mem_cons] at hx
      rcases hx with rfl | rfl | hx
      · exact h4
      · exact h5
      · exact i3 x hx

theorem nextIn_some {js : List Join} {x y : Port} (h : nextIn js x = some y) : x ∈ flatJoins js ∧ y ∈ flatJoins js := by
  induction js with
  | nil => simp [nextIn] at h
  | cons j r ih =>
    unfold nextIn at h
    split at h
    · rename_i he; cases h; simp [flatJoins, he]
    · split at h
      · rename_i he; cases h; simp [flatJoins, he]
      · have := ih h; simp [flatJoins, this.1, this.2]
theorem nextIn_none {js : List Join} {x : Port} : nextIn js x = none ↔ x ∉ flatJoins js := by
  induction js with
  | nil => simp [nextIn, flatJoins]
  | cons j r ih =>
    unfold nextIn
    split
    · rename_i he; simp [flatJoins, he]
    · rename_i h1
      split
      · rename_i he; simp [flatJoins, he]
      · rename_i h2
        rw [ih]; simp [flatJoins, show x ≠ j.a from fun e => h1 e.symm, show x ≠ j.b from fun e => h2 e.symm]
theorem nextIn_back {js : List Join} (hn : (flatJoins js).Nodup) {x y : Port} (h : nextIn js x = some y) : nextIn js y = some x ∧ x ≠ y := by
  induction js with
  | nil => simp [nextIn] at h
  | cons j r ih =>
    simp only [flatJoins, List.nodup_cons, List.mem_cons, not_or] at hn
    obtain ⟨⟨h1, h2⟩, h3, h4⟩ := hn
    unfold nextIn at h ⊢
    split at h
    · rename_i he
      cases h
      rw [if_neg h1, if_pos rfl]
      exact ⟨by rw [he], by rw [← he]; exact h1⟩
    · rename_i hne
      split at h
      · rename_i he
        cases h
        rw [if_pos rfl]
        exact ⟨by rw [he], by rw [← he]; exact fun e => h1 e.symm⟩
      · rename_i hne2
        obtain ⟨m1, m2⟩ := nextIn_some h
        rw [if_neg (fun e => h2 (by rw [e]; exact m2)), if_neg (fun e => h3 (by rw [e]; exact m2))]
        exact ih h4 h

/-- the facts of a plan that may be -/
structure Good (p : Plan) : Prop where
  chk : chk p = 0
  nodup : (flatJoins p.joins).Nodup
  port : ∀ x ∈ flatJoins p.joins, isPort p x = true
theorem good_of {p : Plan} (h : chk p = 0) : Good p := by
  obtain ⟨_, _, _, h4, _⟩ := chk_zero h
  unfold joinedOk at h4
  simp only [Bool.and_eq_true] at h4
  obtain ⟨i1, _, i3⟩ := joinGo_ok _ _ h4.1
  exact ⟨h, i1, i3⟩
theorem Good.back {p : Plan} (g : Good p) {x y : Port} (h : nextOf p x = some y) : nextOf p y = some x ∧ x ≠ y := nextIn_back g.nodup h
theorem Good.ports {p : Plan} (g : Good p) {x y : Port} (h : nextOf p x = some y) : isPort p x = true ∧ isPort p y = true :=
  ⟨g.port _ (nextIn_some h).1, g.port _ (nextIn_some h).2⟩

/-! ways lead back -/
theorem outs_zero {p : Plan} {e : Int} (h : p.kind e ≠ 1) (h2 : p.kind e ≠ 2) (h3 : p.kind e ≠ 3) (i : Int) : outs p e i = [] := by
  unfold outs
  simp [h, h2, h3]
theorem through_kind {p : Plan} {e i pos o : Int} (h : through p e i pos = some o) : p.kind e = 1 ∨ p.kind e = 2 ∨ p.kind e = 3 := by
  by_cases h1 : p.kind e = 1
  · exact .inl h1
  by_cases h2 : p.kind e = 2
  · exact .inr (.inl h2)
  by_cases h3 : p.kind e = 3
  · exact .inr (.inr h3)
  · unfold through at h; rw [outs_zero h1 h2 h3] at h; cases h
theorem through_track {p : Plan} {e : Int} (h : p.kind e = 1) (i pos : Int) : through p e i pos = if i < 0 ∨ 2 ≤ i then none else some (1 - i) := by
  unfold through outs
  simp only [h, ends]
  by_cases hi : i < 0 ∨ 2 ≤ i
  · simp [hi, wayGo]
  · simp [hi, wayGo]
theorem through_cross {p : Plan} {e : Int} (h : p.kind e = 3) (i pos : Int) : through p e i pos = if i < 0 ∨ 4 ≤ i then none else some (cross i) := by
  unfold through outs
  simp only [h, ends]
  by_cases hi : i < 0 ∨ 4 ≤ i
  · simp [hi, wayGo]
  · simp [hi, wayGo]
theorem through_points {p : Plan} {e : Int} (h : p.kind e = 2) (i pos : Int) : through p e i pos = if i = 0 then (if pos = 1 then some 1 else if pos = 2 then some 2 else none) else if i = 1 then (if pos = 1 then some 0 else none) else if i = 2 then (if pos = 2 then some 0 else none) else none := by
  unfold through outs
  simp only [h, ends]
  by_cases hi : i < 0 ∨ 3 ≤ i
  · rw [if_neg (show ¬ i = 1 by omega), if_neg (show ¬ i = 2 by omega)]
    rw [if_pos (by simpa using hi)]
    simp [wayGo, show ¬ i = 0 by omega]
  · have : i = 0 ∨ i = 1 ∨ i = 2 := by omega
    rcases this with rfl | rfl | rfl
    · by_cases h1 : pos = 1
      · subst h1; simp [wayGo]
      · by_cases h2 : pos = 2
        · subst h2; simp [wayGo]
        · simp [wayGo, h1, h2, show ¬ (1 : Int) = pos from fun e => h1 e.symm, show ¬ (2 : Int) = pos from fun e => h2 e.symm]
    · by_cases h1 : pos = 1
      · subst h1; simp [wayGo]
      · simp [wayGo, h1, show ¬ (1 : Int) = pos from fun e => h1 e.symm]
    · by_cases h1 : pos = 2
      · subst h1; simp [wayGo]
      · simp [wayGo, h1, show ¬ (2 : Int) = pos from fun e => h1 e.symm]
theorem cross_cases {i : Int} (h0 : 0 ≤ i) (h1 : i < 4) : 0 ≤ cross i ∧ cross i < 4 ∧ cross (cross i) = i := by
  have : i = 0 ∨ i = 1 ∨ i = 2 ∨ i = 3 := by omega
  rcases this with rfl | rfl | rfl | rfl <;> decide
theorem through_back {p : Plan} {e i pos o : Int} (h : through p e i pos = some o) : through p e o pos = some i := by
  rcases through_kind h with hk | hk | hk
  · rw [through_track hk] at h ⊢
    split at h
    · cases h
    · simp at h; subst h; rw [if_neg (by omega)]; congr 1; omega
  · rw [through_points hk] at h ⊢
    repeat' split at h
    all_goals first | (cases h; done) | (simp at h; subst h; subst_vars; simp)
  · rw [through_cross hk] at h ⊢
    split at h
    · cases h
    · simp at h; subst h
      obtain ⟨c1, c2, c3⟩ := cross_cases (i := i) (by omega) (by omega)
      rw [if_neg (by omega), c3]
theorem through_range {p : Plan} {e i pos o : Int} (h : through p e i pos = some o) : 0 ≤ i ∧ i < ends (p.kind e) := by
  unfold through outs at h
  split at h
  · cases h
  · omega
theorem through_lies {p : Plan} {e i x : Int} : through p e i (if x = 1 ∨ x = 2 then x else 0) = through p e i x := by
  by_cases h1 : p.kind e = 1
  · rw [through_track h1, through_track h1]
  by_cases h3 : p.kind e = 3
  · rw [through_cross h3, through_cross h3]
  by_cases h2 : p.kind e = 2
  · rw [through_points h2, through_points h2]
    by_cases hx : x = 1 ∨ x = 2
    · rw [if_pos hx]
    · rw [if_neg hx]
      simp [show ¬ x = 1 by omega, show ¬ x = 2 by omega]
  · unfold through; rw [outs_zero h1 h2 h3]; rfl
theorem fromGo_eq (p : Plan) (e out pos : Int) : ∀ (k : Nat) (i : Int), fromGo p e out pos k i = match through p e out pos with
    | some j => if i ≤ j ∧ j < i + k then some j else none
    | none => none := by
  intro k
  induction k with
  | zero =>
    intro i
    unfold fromGo
    cases through p e out pos with
    | none => rfl
    | some j => simp only; rw [if_neg (by omega)]
  | succ k ih =>
    intro i
    unfold fromGo
    by_cases h : through p e i pos = some out
    · rw [if_pos h, through_back h]; simp only; rw [if_pos (by omega)]
    · rw [if_neg h, ih]
      cases ht : through p e out pos with
      | none => rfl
      | some j =>
        simp only
        have hj : j ≠ i := fun e1 => h (by rw [← e1]; exact through_back ht)
        by_cases hc : i + 1 ≤ j ∧ j < i + 1 + k
        · rw [if_pos hc, if_pos (by omega)]
        · rw [if_neg hc, if_neg (by omega)]
theorem ends_nonneg (k : Int) : 0 ≤ ends k ∧ ends k ≤ 4 := by
  unfold ends
  repeat' split
  all_goals omega
theorem fromRef_eq (p : Plan) (e out pos : Int) : fromRef p e out pos = through p e out pos := by
  unfold fromRef
  rw [fromGo_eq]
  have := ends_nonneg (p.kind e)
  cases ht : through p e out pos with
  | none => rfl
  | some j =>
    simp only
    have h2 := through_range (through_back ht)
    rw [if_pos (by omega)]
theorem Good.notGate {p : Plan} {e i pos o : Int} (h : through p e i pos = some o) : p.kind e ≠ 4 := by
  rcases through_kind h with h | h | h <;> omega

/-! walks -/
theorem step_ok {p : Plan} {pos : List Int} {h x : Port} (hs : step p pos h = (x, 0)) : ∃ y, nextOf p h = some y ∧ x.e = y.e ∧ through p y.e y.n (lies pos y.e) = some x.n := by
  unfold step at hs
  cases hn : nextOf p h with
  | none => simp [hn] at hs
  | some y =>
    simp only [hn] at hs
    split at hs
    · simp at hs
    · cases ht : through p y.e y.n (lies pos y.e) with
      | none => simp [ht] at hs
      | some o =>
        simp only [ht, Prod.mk.injEq, and_true] at hs
        subst hs
        exact ⟨y, rfl, rfl, ht⟩
theorem step_mk {p : Plan} {pos : List Int} {h y : Port} {o : Int} (hn : nextOf p h = some y) (ht : through p y.e y.n (lies pos y.e) = some o) : step p pos h = (⟨y.e, o⟩, 0) := by
  unfold step
  simp only [hn]
  rw [if_neg (Good.notGate ht)]
  simp only [ht]
theorem back_of_step {p : Plan} (g : Good p) {pos : List Int} {h x : Port} (hs : step p pos h = (x, 0)) : back p pos x = some h := by
  obtain ⟨y, hn, he, ht⟩ := step_ok hs
  unfold back turn
  rw [he, through_back ht]
  simp only [Option.map_some, Option.bind_some]
  exact (g.back hn).1
theorem step_of_back {p : Plan} (g : Good p) {pos : List Int} {h b : Port} (hb : back p pos h = some b) : step p pos b = (h, 0) := by
  unfold back turn at hb
  cases ht : through p h.e h.n (lies pos h.e) with
  | none => simp [ht] at hb
  | some i =>
    simp only [ht, Option.map_some, Option.bind_some] at hb
    have hn := (g.back hb).1
    have := step_mk (pos := pos) hn (through_back ht)
    exact this
theorem step_inj {p : Plan} (g : Good p) {pos : List Int} {h h' x : Port} (h1 : step p pos h = (x, 0)) (h2 : step p pos h' = (x, 0)) : h = h' :=
  Option.some.inj ((back_of_step g h1).symm.trans (back_of_step g h2))

end Go.Proofs.Ytlndfmflbdkpjaa
