/- Plain laws on nets: lines and their directions, signals, how many ports are joined. No condition. -/
import Derived.Test.YtlndfmflbdkpjaaPlanLaws
import Derived.Test.YtlndfmflbdkpjaaWalkPure
namespace Go.Proofs.Ytlndfmflbdkpjaa

/-! lines -/
theorem posIn_none {l : List Int} {e : Int} : ∀ {i : Nat}, posIn i l e = none ↔ e ∉ l := by
  induction l with
  | nil => intro i; simp [posIn]
  | cons x r ih =>
    intro i
    unfold posIn
    split
    · rename_i h; subst h; simp
    · rename_i h; rw [ih]; simp [show ¬ e = x from fun h' => h h'.symm]
theorem posIn_append (l r : List Int) (e : Int) : ∀ i : Nat, posIn i (l ++ r) e = match posIn i l e with
    | some k => some k
    | none => posIn (i + l.length) r e := by
  induction l with
  | nil => intro i; simp [posIn]
  | cons x t ih =>
    intro i
    have e1 : posIn i (x :: t ++ r) e = if x = e then some i else posIn (i + 1) (t ++ r) e := rfl
    have e2 : posIn i (x :: t) e = if x = e then some i else posIn (i + 1) t e := rfl
    rw [e1, e2]
    split
    · rfl
    · rw [ih, List.length_cons, show i + 1 + t.length = i + (t.length + 1) by omega]
theorem posIn_get {l : List Int} {e : Int} {j : Nat} : ∀ {i : Nat}, posIn i l e = some j → i ≤ j ∧ l[j - i]? = some e := by
  induction l with
  | nil => intro i h; simp [posIn] at h
  | cons x r ih =>
    intro i h
    unfold posIn at h
    split at h
    · rename_i hx; cases h; subst hx; simp
    · obtain ⟨h1, h2⟩ := ih h
      refine ⟨by omega, ?_⟩
      rw [show j - i = (j - (i + 1)) + 1 by omega, List.getElem?_cons_succ]; exact h2
theorem posIn_nodup {l : List Int} (hn : l.Nodup) {e : Int} {k : Nat} (hk : l[k]? = some e) : posIn 0 l e = some k := by
  cases h : posIn 0 l e with
  | none => exact absurd (List.mem_of_getElem? hk) (posIn_none.1 h)
  | some j =>
    obtain ⟨_, h2⟩ := posIn_get h
    rw [Nat.sub_zero] at h2
    rw [nodup_idx] at hn
    have l1 := (List.getElem?_eq_some_iff.1 hk).1
    have l2 := (List.getElem?_eq_some_iff.1 h2).1
    rcases Nat.lt_trichotomy j k with h3 | h3 | h3
    · exact absurd (h2.trans hk.symm) (hn j k h3 l1)
    · rw [h3]
    · exact absurd (hk.trans h2.symm) (hn k j h3 l2)
def flatLines (l : List Line) : List Int := l.flatMap (·.elems)
theorem lineFrom_none {l : List Line} {e : Int} : ∀ {i : Nat}, lineFrom i l e = none ↔ e ∉ flatLines l := by
  induction l with
  | nil => intro i; simp [lineFrom, flatLines]
  | cons x r ih =>
    intro i
    unfold lineFrom
    cases h : posIn 0 x.elems e with
    | none =>
      simp only [ih]
      have := posIn_none.1 h
      simp [flatLines, this]
    | some k =>
      have : e ∈ x.elems := by
        have := (posIn_get h).2
        exact List.mem_of_getElem? this
      simp [flatLines, this]
theorem lineFrom_append (l r : List Line) (e : Int) : ∀ i : Nat, lineFrom i (l ++ r) e = match lineFrom i l e with
    | some k => some k
    | none => lineFrom (i + l.length) r e := by
  induction l with
  | nil => intro i; simp [lineFrom]
  | cons x t ih =>
    intro i
    have e1 : lineFrom i (x :: t ++ r) e = match posIn 0 x.elems e with
      | some k => some (i, k)
      | none => lineFrom (i + 1) (t ++ r) e := rfl
    have e2 : lineFrom i (x :: t) e = match posIn 0 x.elems e with
      | some k => some (i, k)
      | none => lineFrom (i + 1) t e := rfl
    rw [e1, e2]
    cases h : posIn 0 x.elems e with
    | some k => rfl
    | none => simp only [ih, List.length_cons]; rw [show i + 1 + t.length = i + (t.length + 1) by omega]
theorem leadIn_append (nx : Port → Option Port) (l r : List Line) (e : Int) : e ∉ flatLines l → leadIn nx (l ++ r) e = leadIn nx r e := by
  induction l with
  | nil => intro _; rfl
  | cons x t ih =>
    intro h
    simp only [flatLines, List.flatMap_cons, List.mem_append, not_or] at h
    rw [List.cons_append, leadIn, posIn_none.2 h.1]
    exact ih h.2

theorem tracksGo_ok {p : Plan} : ∀ (l met : List Int), tracksGo p met l = true → l.Nodup ∧ (∀ x ∈ l, x ∉ met) ∧ ∀ x ∈ l, inLine p x = true := by
  intro l
  induction l with
  | nil => intro met _; simp
  | cons e r ih =>
    intro met h
    simp only [tracksGo, Bool.and_eq_true, Bool.not_eq_true', decide_eq_false_iff_not] at h
    obtain ⟨⟨h1, h2⟩, h3⟩ := h
    obtain ⟨i1, i2, i3⟩ := ih _ h3
    refine ⟨List.nodup_cons.2 ⟨fun hm => i2 e hm (by simp), i1⟩, ?_, ?_⟩
    · intro x hx
      rcases List.mem_cons.1 hx with rfl | hx
      · exact h2
      · exact fun hm => i2 x hx (by simp [hm])
    · intro x hx
      rcases List.mem_cons.1 hx with rfl | hx
      · exact h1
      · exact i3 x hx
theorem lineGo_ok {p : Plan} : ∀ (l : List Line) (met : List Int), lineGo p met l = true → (flatLines l).Nodup ∧ (∀ x ∈ flatLines l, x ∉ met ∧ inLine p x = true) ∧ ∀ x ∈ l, x.elems ≠ [] ∧ rowOk (nextOf p) x.elems = true := by
  intro l
  induction l with
  | nil => intro met _; simp [flatLines]
  | cons e r ih =>
    intro met h
    simp only [lineGo, Bool.and_eq_true, decide_eq_true_eq] at h
    obtain ⟨⟨⟨h1, h2⟩, h3⟩, h4⟩ := h
    obtain ⟨i1, i2, i3⟩ := ih _ h4
    obtain ⟨t1, t2, t3⟩ := tracksGo_ok _ _ h2
    refine ⟨?_, ?_, ?_⟩
    · show (e.elems ++ flatLines r).Nodup
      rw [List.nodup_append]
      refine ⟨t1, i1, fun a ha b hb hab => ?_⟩
      exact (i2 b hb).1 (by rw [← hab]; simp [ha])
    · intro x hx
      have hx : x ∈ e.elems ++ flatLines r := hx
      rcases List.mem_append.1 hx with hx | hx
      · exact ⟨t2 x hx, t3 x hx⟩
      · exact ⟨fun hm => (i2 x hx).1 (by simp [hm]), (i2 x hx).2⟩
    · intro x hx
      rcases List.mem_cons.1 hx with rfl | hx
      · exact ⟨h1, h3⟩
      · exact i3 x hx
theorem Good.lines {p : Plan} (g : Good p) : (flatLines p.lines).Nodup ∧ (∀ x ∈ flatLines p.lines, inLine p x = true) ∧ ∀ x ∈ p.lines, x.elems ≠ [] ∧ rowOk (nextOf p) x.elems = true := by
  obtain ⟨_, _, _, _, _, h6, _⟩ := chk_zero g.chk
  obtain ⟨a, b, c⟩ := lineGo_ok _ _ h6
  exact ⟨a, fun x hx => (b x hx).2, c⟩

/-- what the loop over the lines has written into the map of lines -/
def lineAt (done : List Line) (l : List Int) (k : Nat) (z : Int) : Option (Nat × Nat) := match lineFrom 0 done z with
  | some r => some r
  | none => (posIn 0 (l.take k) z).map fun j => (done.length, j)
theorem lineAt_zero (done : List Line) (l : List Int) (z : Int) : lineAt done l 0 z = lineFrom 0 done z := by
  unfold lineAt; cases lineFrom 0 done z <;> simp [posIn]
theorem lineAt_end (done : List Line) (l : Line) (z : Int) : lineAt done l.elems l.elems.length z = lineFrom 0 (done ++ [l]) z := by
  unfold lineAt
  rw [lineFrom_append]
  cases lineFrom 0 done z with
  | some r => rfl
  | none =>
    simp only [List.take_length, lineFrom, Nat.zero_add]
    cases posIn 0 l.elems z <;> rfl
theorem take_snoc_get {α : Type} {l : List α} {k : Nat} {x : α} (h : l[k]? = some x) : l.take (k + 1) = l.take k ++ [x] := by
  rw [List.take_add_one, h]; rfl
theorem lineAt_key {done : List Line} {l : List Int} {k : Nat} {e : Int} (he : l[k]? = some e) (h1 : e ∉ flatLines done) (h2 : e ∉ l.take k) : lineAt done l (k + 1) e = some (done.length, k) := by
  unfold lineAt
  rw [lineFrom_none.2 h1]
  have hk := (List.getElem?_eq_some_iff.1 he).1
  simp only [take_snoc_get he, posIn_append, posIn_none.2 h2, Nat.zero_add]
  simp [posIn, Nat.min_eq_left (Nat.le_of_lt hk)]
theorem lineAt_other {done : List Line} {l : List Int} {k : Nat} {e z : Int} (he : l[k]? = some e) (hz : z ≠ e) : lineAt done l (k + 1) z = lineAt done l k z := by
  unfold lineAt
  cases lineFrom 0 done z with
  | some r => rfl
  | none =>
    simp only [take_snoc_get he, posIn_append]
    cases posIn 0 (l.take k) z with
    | some j => rfl
    | none => simp [posIn, show ¬ e = z from fun h => hz h.symm]

/-- what it has written into the map of entering ends -/
def leadAt (nx : Port → Option Port) (done : List Line) (l : List Int) (k : Nat) (z : Int) : Option Int := match leadIn nx done z with
  | some r => some r
  | none => match posIn 0 (l.take k) z with
    | some j => (leadList nx l)[j]?
    | none => none
theorem leadAt_zero (nx : Port → Option Port) (done : List Line) (l : List Int) (z : Int) : leadAt nx done l 0 z = leadIn nx done z := by
  unfold leadAt; cases leadIn nx done z <;> simp [posIn]
theorem leadGo_length (nx : Port → Option Port) : ∀ (l : List Int) (i : Int), (leadGo nx i l).length = l.length := by
  intro l
  induction l with
  | nil => intro i; rfl
  | cons x r ih => intro i; simp [leadGo, ih]
theorem leadIn_none {nx : Port → Option Port} {l : List Line} {e : Int} : leadIn nx l e = none ↔ e ∉ flatLines l := by
  induction l with
  | nil => simp [leadIn, flatLines]
  | cons x r ih =>
    unfold leadIn
    cases h : posIn 0 x.elems e with
    | none => simp only [ih]; have := posIn_none.1 h; simp [flatLines, this]
    | some k =>
      obtain ⟨_, h2⟩ := posIn_get h
      rw [Nat.sub_zero] at h2
      have hk := (List.getElem?_eq_some_iff.1 h2).1
      have hm : e ∈ flatLines (x :: r) := by simp [flatLines, List.mem_of_getElem? h2]
      simp only [hm, not_true_eq_false, iff_false]
      rw [List.getElem?_eq_getElem (by rw [leadList, leadGo_length]; exact hk)]
      simp
theorem leadIn_snoc (nx : Port → Option Port) (done : List Line) (l : Line) (z : Int) : leadIn nx (done ++ [l]) z = leadAt nx done l.elems l.elems.length z := by
  unfold leadAt
  rw [List.take_length]
  cases h : leadIn nx done z with
  | none => rw [leadIn_append nx done [l] z (leadIn_none.1 h)]; unfold leadIn; rfl
  | some r =>
    simp only
    induction done with
    | nil => simp [leadIn] at h
    | cons x t ih =>
      unfold leadIn at h
      rw [List.cons_append]
      unfold leadIn
      cases hp : posIn 0 x.elems z with
      | some k => simp only [hp] at h ⊢; exact h
      | none => simp only [hp] at h ⊢; exact ih h
theorem leadAt_key {nx : Port → Option Port} {done : List Line} {l : List Int} {k : Nat} {e : Int} (he : l[k]? = some e) (h1 : e ∉ flatLines done) (h2 : e ∉ l.take k) : leadAt nx done l (k + 1) e = (leadList nx l)[k]? := by
  unfold leadAt
  rw [leadIn_none.2 h1]
  have hk := (List.getElem?_eq_some_iff.1 he).1
  simp only [take_snoc_get he, posIn_append, posIn_none.2 h2, Nat.zero_add]
  simp [posIn, Nat.min_eq_left (Nat.le_of_lt hk)]
theorem leadAt_other {nx : Port → Option Port} {done : List Line} {l : List Int} {k : Nat} {e z : Int} (he : l[k]? = some e) (hz : z ≠ e) : leadAt nx done l (k + 1) z = leadAt nx done l k z := by
  unfold leadAt
  cases leadIn nx done z with
  | some r => rfl
  | none =>
    simp only [take_snoc_get he, posIn_append]
    cases posIn 0 (l.take k) z with
    | some j => rfl
    | none => simp [posIn, show ¬ e = z from fun h => hz h.symm]
/-- the entering ends, one after another -/
theorem leadGo_get (nx : Port → Option Port) : ∀ (l : List Int) (i : Int) (k : Nat) (e : Int), l[k]? = some e → ∃ x, (leadGo nx i l)[k]? = some x ∧ (k = 0 → x = i) ∧ (leadGo nx i l).drop (k + 1) = leadGo nx (endOf nx ⟨e, 1 - x⟩) (l.drop (k + 1)) := by
  intro l
  induction l with
  | nil => intro i k e h; simp at h
  | cons x r ih =>
    intro i k e h
    cases k with
    | zero => simp at h; subst h; exact ⟨i, rfl, fun _ => rfl, rfl⟩
    | succ k =>
      simp only [List.getElem?_cons_succ] at h
      obtain ⟨y, h1, _, h3⟩ := ih (endOf nx ⟨x, 1 - i⟩) k e h
      exact ⟨y, h1, fun hk => by omega, h3⟩

/-- along a chain each element's way out leads to the next one's way in -/
theorem chain_lead {nx : Port → Option Port} : ∀ (r : List Int) (a i : Int), chain nx a (1 - i) r = true → ∀ k x y, (a :: r)[k]? = some x → (a :: r)[k + 1]? = some y →
    ∃ u v, (leadGo nx i (a :: r))[k]? = some u ∧ (leadGo nx i (a :: r))[k + 1]? = some v ∧ nx ⟨x, 1 - u⟩ = some ⟨y, v⟩ := by
  intro r
  induction r with
  | nil => intro a i _ k x y hx hy; cases k <;> simp at hy
  | cons b s ih =>
    intro a i h k x y hx hy
    unfold chain at h
    cases hn : nx ⟨a, 1 - i⟩ with
    | none => simp [hn] at h
    | some z =>
      simp only [hn, Bool.and_eq_true, decide_eq_true_eq] at h
      obtain ⟨h1, h2⟩ := h
      have he : endOf nx ⟨a, 1 - i⟩ = z.n := by unfold endOf; rw [hn]; rfl
      cases k with
      | zero =>
        simp at hx hy
        subst hx; subst hy
        refine ⟨i, z.n, rfl, ?_, ?_⟩
        · simp [leadGo, he]
        · rw [hn]; congr 1; obtain ⟨z1, z2⟩ := z; simp at h1; subst h1; rfl
      | succ k =>
        simp only [List.getElem?_cons_succ] at hx hy
        have := ih b z.n h2 k x y (by simpa using hx) (by simpa using hy)
        rw [leadGo, he]
        simpa using this
theorem leadList_chain {nx : Port → Option Port} {l : List Int} (h : rowOk nx l = true) {k : Nat} {x y : Int} (hx : l[k]? = some x) (hy : l[k + 1]? = some y) :
    ∃ u v, (leadList nx l)[k]? = some u ∧ (leadList nx l)[k + 1]? = some v ∧ nx ⟨x, 1 - u⟩ = some ⟨y, v⟩ := by
  match l, h with
  | [], _ => simp at hy
  | [_], _ => simp at hy
  | a :: b :: r, h =>
    simp only [rowOk, Bool.and_eq_true, decide_eq_true_eq] at h
    have hf : firstOut nx a b = 1 - firstIn nx (a :: b :: r) := by
      have h30 := h.1
      unfold firstOut firstIn at *
      cases h0 : leadsTo nx ⟨a, 0⟩ b
      · cases h1 : leadsTo nx ⟨a, 1⟩ b
        · simp [h0, h1] at h30
        · simp [h0]
      · simp [h0]
    unfold leadList
    rw [hf] at h
    exact chain_lead _ _ _ h.2 k x y hx hy
theorem firstIn_01 (nx : Port → Option Port) (l : List Int) : firstIn nx l = 0 ∨ firstIn nx l = 1 := by
  unfold firstIn; split
  · split <;> simp
  · simp

/-- an element of a line: where it is, and by which end it is entered -/
theorem lines_at {p : Plan} (g : Good p) {i k : Nat} {l : Line} {e : Int} (hl : p.lines[i]? = some l) (he : l.elems[k]? = some e) :
    lineOf p e = some (i, k) ∧ leadIn (nextOf p) p.lines e = (leadList (nextOf p) l.elems)[k]? ∧ inLine p e = true := by
  obtain ⟨g1, g2, _⟩ := g.lines
  have hil := (List.getElem?_eq_some_iff.1 hl).1
  have hsplit : p.lines = p.lines.take i ++ l :: p.lines.drop (i + 1) := by
    have := List.getElem?_eq_some_iff.1 hl
    rw [← this.2]; simp
  rw [hsplit] at g1 g2
  simp only [flatLines, List.flatMap_append, List.flatMap_cons] at g1 g2
  rw [List.nodup_append] at g1
  obtain ⟨_, g3, g4⟩ := g1
  rw [List.nodup_append] at g3
  have hm : e ∈ l.elems := List.mem_of_getElem? he
  have hno : e ∉ flatLines (p.lines.take i) := fun hmm => g4 e hmm e (by simp [hm]) rfl
  have hpos := posIn_nodup g3.1 he
  refine ⟨?_, ?_, g2 e (by simp [hm])⟩
  · unfold lineOf
    rw [hsplit, lineFrom_append, lineFrom_none.2 hno]
    simp only [lineFrom, hpos]
    simp; omega
  · rw [hsplit, leadIn_append _ _ _ _ hno, leadIn, hpos]

/-- the entering end of each element of a line is 0 or 1 -/
theorem leadList_01 {p : Plan} (g : Good p) {l : Line} (hl : l ∈ p.lines) : ∀ (k : Nat) (u : Int), (leadList (nextOf p) l.elems)[k]? = some u → u = 0 ∨ u = 1 := by
  obtain ⟨i, hi⟩ := List.getElem?_of_mem hl
  obtain ⟨_, _, g3⟩ := g.lines
  intro k
  induction k with
  | zero =>
    intro u hu
    unfold leadList at hu
    cases hle : l.elems with
    | nil => simp [hle, leadGo] at hu
    | cons a r => rw [hle] at hu; simp only [leadGo, List.getElem?_cons_zero, Option.some.injEq] at hu; rw [← hu]; exact firstIn_01 _ _
  | succ k ih =>
    intro u hu
    have hk : k + 1 < l.elems.length := by
      have := (List.getElem?_eq_some_iff.1 hu).1
      rwa [leadList, leadGo_length] at this
    obtain ⟨a, b, h1, h2, h3⟩ := leadList_chain (g3 l hl).2 (List.getElem?_eq_getElem (show k < l.elems.length by omega)) (List.getElem?_eq_getElem hk)
    rw [h2] at hu
    cases hu
    have hp := isPort_iff.1 (g.ports h3).2
    have ht := (lines_at g hi (List.getElem?_eq_getElem hk)).2.2
    rw [← kind_inLine] at ht
    simp only [decide_eq_true_eq] at ht
    simp only [ht, ends] at hp
    simp at hp
    omega

/-- semaphorelaw4.NetLeads: what it asks of one element of a line -/
theorem leads_law {p : Plan} (g : Good p) {i k : Nat} {l : Line} {e : Int} (hl : p.lines[i]? = some l) (he : l.elems[k]? = some e) :
    ∃ u, (u = 0 ∨ u = 1) ∧ leadIn (nextOf p) p.lines e = some u ∧ lead p e 0 = (if u = 0 then 1 else 2) ∧ lead p e 1 = (if u = 1 then 1 else 2) ∧
      ∀ k' d, k = k' + 1 → l.elems[k']? = some d → ∃ v, nextOf p ⟨e, u⟩ = some ⟨d, v⟩ ∧ lead p d (1 - v) = 1 := by
  obtain ⟨_, h2, _⟩ := lines_at g hl he
  have hm := List.mem_of_getElem? hl
  have hk := (List.getElem?_eq_some_iff.1 he).1
  have hu : ∃ u, (leadList (nextOf p) l.elems)[k]? = some u := ⟨_, List.getElem?_eq_getElem (by rw [leadList, leadGo_length]; exact hk)⟩
  obtain ⟨u, hu⟩ := hu
  have h01 := leadList_01 g hm k u hu
  rw [hu] at h2
  refine ⟨u, h01, h2, ?_, ?_, ?_⟩
  · unfold lead; rw [h2]; simp
  · unfold lead; rw [h2]; simp
  · intro k' d hkk hd
    subst hkk
    obtain ⟨a, b, q1, q2, q3⟩ := leadList_chain (g.lines.2.2 l hm).2 hd he
    rw [hu] at q2
    cases q2
    have hb := (g.back q3).1
    refine ⟨1 - a, hb, ?_⟩
    have ha := leadList_01 g hm k' a q1
    obtain ⟨_, w2, _⟩ := lines_at g hl hd
    rw [q1] at w2
    unfold lead; rw [w2]
    simp only
    rw [show (1 : Int) - (1 - a) = a by omega, if_neg (by omega)]
    simp

/-- semaphoreref6.enters -/
def entersGo (nx : Port → Option Port) : Int → Int → List Int → Option (List Int)
  | _, _, [] => some []
  | prev, out, y :: r => match nx ⟨prev, out⟩ with
    | some x => if x.e = y then (entersGo nx y (1 - x.n) r).map (x.n :: ·) else none
    | none => none
def enters (p : Plan) (l : List Int) : Option (List Int) :=
  if l = [] then none else if (l.all fun e => decide (p.kind e = 1)) = false then none else match l with
  | a :: b :: r => if firstOut (nextOf p) a b < 0 then none else (entersGo (nextOf p) a (firstOut (nextOf p) a b) (b :: r)).map ((1 - firstOut (nextOf p) a b) :: ·)
  | _ => some [0]
theorem entersGo_some (nx : Port → Option Port) : ∀ (r : List Int) (prev out : Int), (entersGo nx prev out r).isSome = chain nx prev out r := by
  intro r
  induction r with
  | nil => intro _ _; rfl
  | cons y r ih =>
    intro prev out
    unfold entersGo chain
    cases nx ⟨prev, out⟩ with
    | none => rfl
    | some x => simp only; by_cases h : x.e = y <;> simp [h, ih]
theorem entersGo_lead (nx : Port → Option Port) : ∀ (r : List Int) (a i : Int), chain nx a (1 - i) r = true → entersGo nx a (1 - i) r = some (leadGo nx (endOf nx ⟨a, 1 - i⟩) r) := by
  intro r
  induction r with
  | nil => intro _ _ _; rfl
  | cons y r ih =>
    intro a i h
    unfold chain at h
    unfold entersGo
    cases hn : nx ⟨a, 1 - i⟩ with
    | none => simp [hn] at h
    | some x =>
      simp only [hn, Bool.and_eq_true, decide_eq_true_eq] at h
      have he : endOf nx ⟨a, 1 - i⟩ = x.n := by unfold endOf; rw [hn]; rfl
      simp only [h.1, if_true, ih y x.n h.2, he, leadGo, Option.map_some]
theorem enters_isSome (p : Plan) (l : List Int) : (enters p l).isSome = entersOk p l := by
  unfold enters entersOk
  by_cases h : l = []
  · simp [h]
  · rw [if_neg h]
    cases ha : (l.all fun e => decide (p.kind e = 1)) with
    | false => simp [h]
    | true =>
      simp only [Bool.true_eq_false, if_false]
      match l with
      | [] => exact absurd rfl h
      | [a] => simp [rowOk]
      | a :: b :: r =>
        simp only [rowOk]
        by_cases hf : firstOut (nextOf p) a b < 0
        · simp [hf, show ¬ 0 ≤ firstOut (nextOf p) a b by omega]
        · simp [hf, show 0 ≤ firstOut (nextOf p) a b by omega, entersGo_some]
theorem enters_lead {p : Plan} {l : List Int} (h : entersOk p l = true) : enters p l = some (leadList (nextOf p) l) := by
  unfold entersOk at h
  simp only [Bool.and_eq_true, decide_eq_true_eq] at h
  obtain ⟨⟨h1, h2⟩, h3⟩ := h
  unfold enters
  rw [if_neg h1, h2]
  simp only [Bool.true_eq_false, if_false]
  match l, h3 with
  | [], _ => exact absurd rfl h1
  | [a], _ => rfl
  | a :: b :: r, h3 =>
    simp only [rowOk, Bool.and_eq_true, decide_eq_true_eq] at h3
    have hf : firstOut (nextOf p) a b = 1 - firstIn (nextOf p) (a :: b :: r) := by
      have h30 := h3.1
      unfold firstOut firstIn at *
      cases h0 : leadsTo (nextOf p) ⟨a, 0⟩ b
      · cases h1 : leadsTo (nextOf p) ⟨a, 1⟩ b
        · simp [h0, h1] at h30
        · simp [h0]
      · simp [h0]
    simp only
    rw [if_neg (by omega), hf] 
    rw [hf] at h3
    rw [entersGo_lead _ _ _ _ h3.2]
    simp only [Option.map_some, leadList, leadGo]
    congr 2
    omega
/-- semaphoreref6.Lead -/
def refLead (p : Plan) (e i : Int) : Int := match lineOf p e with
  | none => 0
  | some (l, k) => if isPort p ⟨e, i⟩ = false then 0 else if ((enters p ((p.lines.map (·.elems)).getD l [])).getD []).getD k 0 = i then 1 else 2
theorem lineFrom_get {l : List Line} {e : Int} {i k : Nat} : ∀ {j : Nat}, lineFrom j l e = some (i, k) → j ≤ i ∧ ∃ x, l[i - j]? = some x ∧ x.elems[k]? = some e := by
  induction l with
  | nil => intro j h; simp [lineFrom] at h
  | cons x r ih =>
    intro j h
    unfold lineFrom at h
    cases hp : posIn 0 x.elems e with
    | some q =>
      simp only [hp, Option.some.injEq, Prod.mk.injEq] at h
      obtain ⟨rfl, rfl⟩ := h
      have := posIn_get hp
      exact ⟨by omega, x, by simp, by simpa using this.2⟩
    | none =>
      simp only [hp] at h
      obtain ⟨h1, y, h2, h3⟩ := ih h
      exact ⟨by omega, y, by rw [show i - j = (i - (j + 1)) + 1 by omega, List.getElem?_cons_succ]; exact h2, h3⟩
theorem refLead_eq {p : Plan} (g : Good p) (e i : Int) : refLead p e i = lead p e i := by
  unfold refLead
  cases hl : lineOf p e with
  | none =>
    have := lineFrom_none.1 hl
    unfold lead
    rw [leadIn_none.2 this]
  | some q =>
    obtain ⟨a, k⟩ := q
    obtain ⟨_, x, hx, hk⟩ := lineFrom_get hl
    rw [Nat.sub_zero] at hx
    obtain ⟨_, h2, h3⟩ := lines_at g hx hk
    have hm := List.mem_of_getElem? hx
    have hen : enters p x.elems = some (leadList (nextOf p) x.elems) := by
      apply enters_lead
      have hr := g.lines.2.2 x hm
      unfold entersOk
      simp only [Bool.and_eq_true, decide_eq_true_eq]
      refine ⟨⟨hr.1, ?_⟩, hr.2⟩
      rw [List.all_eq_true]
      intro y hy
      rw [kind_inLine]
      exact g.lines.2.1 y (by simp only [flatLines, List.mem_flatMap]; exact ⟨x, hm, hy⟩)
    obtain ⟨u, h01, hu, _⟩ := leads_law g hx hk
    rw [h2] at hu
    have hg : (p.lines.map (·.elems)).getD a [] = x.elems := by simp [List.getD, hx]
    simp only [hg, hen, Option.getD_some]
    have hgu : (leadList (nextOf p) x.elems).getD k 0 = u := by simp [List.getD, hu]
    rw [hgu]
    unfold lead
    rw [h2, hu]
    simp only
    have ht : p.kind e = 1 := by have := h3; rw [← kind_inLine] at this; simpa using this
    have hin : 0 ≤ e ∧ e < p.elems.length := by unfold inLine at h3; simp only [Bool.and_eq_true, decide_eq_true_eq] at h3; exact h3.1
    by_cases hi : i < 0 ∨ 1 < i
    · rw [if_pos hi]
      have : isPort p ⟨e, i⟩ = false := by
        cases hq : isPort p ⟨e, i⟩ with
        | false => rfl
        | true => have := isPort_iff.1 hq; simp only [ht, ends] at this; simp at this; omega
      rw [if_pos this]
    · rw [if_neg hi]
      have : isPort p ⟨e, i⟩ = true := by rw [isPort_iff]; simp only [ht, ends]; simp; omega
      rw [if_neg (by simp [this])]

/-! signals -/
theorem sigGo_ok {p : Plan} : ∀ (l : List Sig) (met : List Port), sigGo p met l = true → (l.map (·.at_)).Nodup ∧ (∀ s ∈ l, s.at_ ∉ met) ∧ ∀ s ∈ l, sigOk p s.at_ = true := by
  intro l
  induction l with
  | nil => intro met _; simp
  | cons e r ih =>
    intro met h
    simp only [sigGo, Bool.and_eq_true, Bool.not_eq_true', decide_eq_false_iff_not] at h
    obtain ⟨⟨h1, h2⟩, h3⟩ := h
    obtain ⟨i1, i2, i3⟩ := ih _ h3
    refine ⟨?_, ?_, ?_⟩
    · rw [List.map_cons, List.nodup_cons]
      refine ⟨fun hm => ?_, i1⟩
      obtain ⟨s, hs, hse⟩ := List.mem_map.1 hm
      exact i2 s hs (by simp [hse])
    · intro x hx
      rcases List.mem_cons.1 hx with rfl | hx
      · exact h1
      · exact fun hm => i2 x hx (by simp [hm])
    · intro x hx
      rcases List.mem_cons.1 hx with rfl | hx
      · exact h2
      · exact i3 x hx
theorem Good.sigs {p : Plan} (g : Good p) : (p.sigs.map (·.at_)).Nodup ∧ ∀ s ∈ p.sigs, sigOk p s.at_ = true := by
  obtain ⟨_, _, _, _, h5, _⟩ := chk_zero g.chk
  unfold signalsOk at h5
  simp only [Bool.and_eq_true] at h5
  obtain ⟨a, _, c⟩ := sigGo_ok _ _ h5.1
  exact ⟨a, c⟩
theorem readsGo_get {l : List Sig} {x : Port} {j : Int} : ∀ {i : Nat}, readsGo i l x = j → 0 ≤ j → (i : Int) ≤ j ∧ (l.map (·.at_))[(j - i).toNat]? = some x := by
  induction l with
  | nil => intro i h h0; simp [readsGo] at h; omega
  | cons s r ih =>
    intro i h h0
    unfold readsGo at h
    split at h
    · rename_i hs; subst hs; subst h; simp
    · obtain ⟨h1, h2⟩ := ih h h0
      refine ⟨by omega, ?_⟩
      rw [show (j - i).toNat = (j - (i + 1 : Nat)).toNat + 1 by omega, List.map_cons, List.getElem?_cons_succ]
      exact h2
theorem reads_iff {p : Plan} (g : Good p) {s : Nat} {a : Sig} (hs : p.sigs[s]? = some a) (x : Port) : reads p x = s ↔ x = a.at_ := by
  constructor
  · intro h
    have := (readsGo_get h (by omega)).2
    rw [show ((s : Int) - (0 : Nat)).toNat = s by omega, List.getElem?_map, hs] at this
    simpa using this.symm
  · intro h
    subst h
    have hm : a.at_ ∈ p.sigs.map (·.at_) := List.mem_map.2 ⟨a, List.mem_of_getElem? hs, rfl⟩
    have hr := readsGo_mem hm 0
    have h2 := (readsGo_get (i := 0) (l := p.sigs) (x := a.at_) rfl (by omega)).2
    have hn := g.sigs.1
    rw [nodup_idx] at hn
    have h1 : (p.sigs.map (·.at_))[s]? = some a.at_ := by simp [hs]
    have l1 := (List.getElem?_eq_some_iff.1 h1).1
    have l2 := (List.getElem?_eq_some_iff.1 h2).1
    show readsGo 0 p.sigs a.at_ = s
    generalize hq : (readsGo 0 p.sigs a.at_ - (0 : Nat)).toNat = q at h2 l2
    have hqq : readsGo 0 p.sigs a.at_ = q := by omega
    rw [hqq]
    rcases Nat.lt_trichotomy q s with h3 | h3 | h3
    · exact absurd (h2.trans h1.symm) (hn q s h3 l1)
    · rw [h3]
    · exact absurd (h1.trans h2.symm) (hn s q h3 l2)

/-! how many ports are joined -/
theorem flat_length (js : List Join) : (flatJoins js).length = 2 * js.length := by
  induction js with
  | nil => rfl
  | cons j r ih => simp [flatJoins, ih]; omega
theorem allPorts_nodup (n : Nat) : (allPorts n).Nodup := by
  unfold allPorts
  induction n with
  | zero => simp
  | succ n ih =>
    rw [List.range_succ, List.flatMap_append, List.nodup_append]
    refine ⟨ih, by simp, ?_⟩
    intro a ha b hb hab
    subst hab
    rw [List.mem_flatMap] at ha
    obtain ⟨i, hi, hm⟩ := ha
    simp at hi hb hm
    rcases hb with rfl | rfl | rfl | rfl <;> simp at hm <;> omega
def joinedNo (p : Plan) : Nat := ((allPorts p.elems.length).filter fun x => (nextOf p x).isSome).length
theorem joinedNo_eq {p : Plan} (g : Good p) : joinedNo p = 2 * p.joins.length := by
  rw [← flat_length]
  unfold joinedNo
  have h1 := (allPorts_nodup p.elems.length).filter (fun x => (nextOf p x).isSome)
  apply Nat.le_antisymm
  · refine nodup_le _ _ h1 (fun x hx => ?_)
    rw [List.mem_filter] at hx
    obtain ⟨y, hy⟩ := Option.isSome_iff_exists.1 hx.2
    exact (nextIn_some hy).1
  · refine nodup_le _ _ g.nodup (fun x hx => ?_)
    rw [List.mem_filter]
    refine ⟨allPorts_mem (g.port x hx), ?_⟩
    cases h : nextOf p x with
    | some y => rfl
    | none => exact absurd hx (nextIn_none.1 h)

end Go.Proofs.Ytlndfmflbdkpjaa
