/- Regions that draw their order: all orders give what the text's order gives. -/
import Derived.Test.YtcaeglnfflkabaaGreatEv6
namespace Go.Proofs.YtcaeglnfflkabaaGreat.Ev

/-! ### lists of what was made -/
theorem findN_some : ∀ {l : List New} {pre i : Nat} {b : Blk}, findN l pre i = some b → ∃ x ∈ l, x.id = i ∧ hasB pre x.k = true ∧ x.b = b := by
  intro l
  induction l with
  | nil => intro pre i b h; cases h
  | cons x l ih =>
    intro pre i b h
    change Bool.rec (findN l pre i) (some x.b) (Nat.beq x.id i && hasB pre x.k) = some b at h
    cases hb : (Nat.beq x.id i && hasB pre x.k) with
    | true =>
      rw [hb] at h; cases h
      simp only [Bool.and_eq_true] at hb
      exact ⟨x, List.mem_cons_self, beq_eq hb.1, hb.2, rfl⟩
    | false =>
      rw [hb] at h
      obtain ⟨y, h1, h2⟩ := ih h
      exact ⟨y, List.mem_cons_of_mem _ h1, h2⟩
theorem findN_none : ∀ {l : List New} {pre i : Nat}, findN l pre i = none → ∀ x ∈ l, x.id = i → hasB pre x.k = false := by
  intro l
  induction l with
  | nil => intro pre i _ x h; simp at h
  | cons y l ih =>
    intro pre i h x hx hi
    change Bool.rec (findN l pre i) (some y.b) (Nat.beq y.id i && hasB pre y.k) = none at h
    cases hb : (Nat.beq y.id i && hasB pre y.k) with
    | true => rw [hb] at h; cases h
    | false =>
      rw [hb] at h
      rcases List.mem_cons.1 hx with rfl | hx
      · rw [hi, Nat.beq_refl] at hb; simpa using hb
      · exact ih h x hx hi
theorem merge_get (pre : Nat) (h : Heap) (i : Nat) : ∀ (l : List New), (mergeE l pre h).get i = Option.rec (h.get i) some (findN l pre i) := by
  intro l
  induction l with
  | nil => rfl
  | cons x l ih =>
    have h1 : mergeE (x :: l) pre h = Bool.rec (mergeE l pre h) ((mergeE l pre h).put x.id (some x.b)) (hasB pre x.k) := rfl
    have h2 : findN (x :: l) pre i = Bool.rec (findN l pre i) (some x.b) (Nat.beq x.id i && hasB pre x.k) := rfl
    rw [h1, h2]
    cases hb : hasB pre x.k with
    | false => rw [Bool.and_false]; exact ih
    | true =>
      rw [Bool.and_true]
      show ((mergeE l pre h).put x.id (some x.b)).get i = _
      rw [T.get_put]
      by_cases g : i = x.id
      · subst g; rw [if_pos rfl, Nat.beq_refl]
      · rw [if_neg g, ih, beq_false (Ne.symm g)]
theorem look_merge (r : Run) (pre i : Nat) : (mergeE (pendE r) pre r.h).get i = lookE r pre i := merge_get pre r.h i _
theorem tiny_get (r : Run) (pre i : Nat) : ∀ (ids : List Nat), (tinyE r pre ids).get i = if i ∈ ids then lookE r pre i else none := by
  intro ids
  induction ids with
  | nil => show (T.leaf : Heap).get i = _; rw [T.get_leaf]; simp
  | cons j ids ih =>
    show ((tinyE r pre ids).put j (lookE r pre j)).get i = _
    rw [T.get_put, ih]
    by_cases g : i = j
    · subst g; simp
    · simp [g]
theorem read_mem (k pre : Nat) (r : Run) : ∀ (ids : List Nat) {i : Nat} {b : Blk}, i ∈ ids → lookE r pre i = some b → (⟨k, pre, i, b⟩ : Read) ∈ readL k pre r ids := by
  intro ids
  induction ids with
  | nil => intro i b h; simp at h
  | cons j ids ih =>
    intro i b h e
    have h1 : readL k pre r (j :: ids) = Option.rec (readL k pre r ids) (fun b => ⟨k, pre, j, b⟩ :: readL k pre r ids) (lookE r pre j) := rfl
    rw [h1]
    rcases List.mem_cons.1 h with rfl | h
    · rw [e]; exact List.mem_cons_self
    · have := ih h e
      cases lookE r pre j with
      | none => exact this
      | some _ => exact List.mem_cons_of_mem _ this
theorem read_keeps (k pre : Nat) (r : Run) : ∀ (ids : List Nat) (rd : Read), rd ∈ r.reads → rd ∈ readL k pre r ids := by
  intro ids rd h
  induction ids with
  | nil => exact h
  | cons j ids ih =>
    have h1 : readL k pre r (j :: ids) = Option.rec (readL k pre r ids) (fun b => ⟨k, pre, j, b⟩ :: readL k pre r ids) (lookE r pre j) := rfl
    rw [h1]
    cases lookE r pre j with
    | none => exact ih
    | some _ => exact List.mem_cons_of_mem _ ih
theorem look_some {r : Run} {pre i : Nat} {b : Blk} (h : lookE r pre i = some b) : (∃ x ∈ r.news, unmE r.acts x = true ∧ x.id = i ∧ hasB pre x.k = true ∧ x.b = b) ∨ r.h.get i = some b := by
  unfold lookE at h
  cases hf : findN (pendE r) pre i with
  | none => rw [hf] at h; exact .inr h
  | some c =>
    rw [hf] at h
    cases h
    obtain ⟨x, h1, h2, h3, h4⟩ := findN_some hf
    have := List.mem_filter.1 h1
    exact .inl ⟨x, this.1, this.2, h2, h3, h4⟩
theorem puts_get (h : Heap) (i : Nat) : ∀ (l : List New), ((putsE l h).get i = h.get i ∧ ∀ x ∈ l, x.id ≠ i) ∨ ∃ x ∈ l, x.id = i ∧ (putsE l h).get i = some x.b := by
  intro l
  induction l with
  | nil => exact .inl ⟨rfl, fun x h => by simp at h⟩
  | cons x l ih =>
    have h1 : (putsE (x :: l) h).get i = if i = x.id then some x.b else (putsE l h).get i := by
      show ((putsE l h).put x.id (some x.b)).get i = _
      rw [T.get_put]
    by_cases g : i = x.id
    · subst g; exact .inr ⟨x, List.mem_cons_self, rfl, by rw [h1, if_pos rfl]⟩
    · rw [if_neg g] at h1
      rcases ih with ⟨c1, c2⟩ | ⟨y, c1, c2, c3⟩
      · exact .inl ⟨by rw [h1, c1], fun y hy => by
          rcases List.mem_cons.1 hy with rfl | hy
          · exact Ne.symm g
          · exact c2 y hy⟩
      · exact .inr ⟨y, List.mem_cons_of_mem _ c1, c2, by rw [h1, c3]⟩

/-- The heap behind the last of the acts. -/
def headH (h0 : Heap) : List Did → Heap
  | [] => h0
  | a :: _ => a.h
theorem span_stood {news : List New} {rd : Read} {h0 : Heap} : ∀ (later rest : List Did), spanE news rd h0 (later ++ rest) = true → (∀ a ∈ later, hasB rd.pre a.k = false) →
    (∀ a t, rest = a :: t → hasB a.pre rd.k = false) → stoodE news rest (headH h0 rest) rd = true := by
  intro later
  induction later with
  | nil =>
    intro rest h _ hr
    cases rest with
    | nil => exact h
    | cons a t =>
      change Bool.rec (stoodE news (a :: t) a.h rd && Bool.rec (spanE news rd h0 t) true (hasB rd.pre a.k)) (spanE news rd h0 t) (hasB a.pre rd.k) = true at h
      rw [hr a t rfl] at h
      simp only [Bool.and_eq_true] at h
      exact h.1
  | cons a later ih =>
    intro rest h hl hr
    change Bool.rec (stoodE news (a :: (later ++ rest)) a.h rd && Bool.rec (spanE news rd h0 (later ++ rest)) true (hasB rd.pre a.k)) (spanE news rd h0 (later ++ rest)) (hasB a.pre rd.k) = true at h
    refine ih rest ?_ (fun b hb => hl b (List.mem_cons_of_mem _ hb)) hr
    cases hb : hasB a.pre rd.k with
    | true => rw [hb] at h; exact h
    | false =>
      rw [hb, hl a List.mem_cons_self] at h
      simp only [Bool.and_eq_true] at h
      exact h.2
theorem fresh_none {x : New} {h0 : Heap} : ∀ (later rest : List Did), freshE h0 x (later ++ rest) = true → unmE rest x = true → (headH h0 rest).get x.id = none := by
  intro later
  induction later with
  | nil =>
    intro rest h hu
    cases rest with
    | nil => exact Option.isNone_iff_eq_none.1 h
    | cons a t =>
      change ((!unmE (a :: t) x || (a.h.get x.id).isNone) && freshE h0 x t) = true at h
      rw [hu] at h
      simp only [Bool.not_true, Bool.false_or, Bool.and_eq_true] at h
      exact Option.isNone_iff_eq_none.1 h.1
  | cons a later ih =>
    intro rest h hu
    change ((!unmE (a :: (later ++ rest)) x || (a.h.get x.id).isNone) && freshE h0 x (later ++ rest)) = true at h
    simp only [Bool.and_eq_true] at h
    exact ih rest h.2 hu
theorem stood_is {news : List New} {acts : List Did} {h : Heap} {rd : Read} (e : stoodE news acts h rd = true) :
    (∃ x ∈ news, x.id = rd.id ∧ unmE acts x = true ∧ hasB rd.pre x.k = true ∧ x.b = rd.b) ∨ ((∀ x ∈ news, x.id = rd.id → unmE acts x = false) ∧ h.get rd.id = some rd.b) := by
  unfold stoodE at e
  cases hf : findU news acts rd.id with
  | some x =>
    rw [hf] at e
    simp only [Bool.and_eq_true] at e
    have h1 := List.find?_some hf
    simp only [Bool.and_eq_true] at h1
    exact .inl ⟨x, List.mem_of_find?_eq_some hf, beq_eq h1.1, h1.2, e.1, (eqB_ok e.2).symm⟩
  | none =>
    rw [hf] at e
    refine .inr ⟨fun x hx hi => ?_, ?_⟩
    · have := List.find?_eq_none.1 hf x hx
      simp only [hi, Nat.beq_refl, Bool.true_and, Bool.not_eq_true] at this
      exact this
    · cases hg : h.get rd.id with
      | none => rw [hg] at e; cases e
      | some b => rw [hg] at e; rw [eqB_ok e]
theorem unm_append {l m : List Did} {x : New} : unmE (l ++ m) x = (unmE l x && unmE m x) := by simp [unmE]
theorem unm_cons {a : Did} {m : List Did} {x : New} : unmE (a :: m) x = (!hasB a.pre x.k && unmE m x) := by simp [unmE]

/-- Slots that are looked at. -/
theorem envE_get (env : T AV) (t : Nat) : ∀ (l : List Nat), (envE env l).get t = if t ∈ l then env.get t else none := by
  intro l
  induction l with
  | nil => show (T.leaf : T AV).get t = _; rw [T.get_leaf]; simp
  | cons j l ih =>
    show ((envE env l).put j (env.get j)).get t = _
    rw [T.get_put, ih]
    by_cases g : t = j
    · subst g; simp
    · simp [g]

/-- A step's local heap in a greater one. -/
theorem Post.frame {r r' : Ren} {hl hl' hb : Nat → Option Blk} {n n' : Nat} {w w' : World} (p : Post r hl hl' n n' w w' r') (q : Rep r hb w) (sub : ∀ i b, hl i = some b → hb i = some b)
    (_f : Free r n n') {hb' : Nat → Option Blk} (h1 : ∀ i, hl i = none → hb i ≠ none → hb' i = hb i) (h2 : ∀ i, ¬ (hl i = none ∧ hb i ≠ none) → hb' i = hl' i) : Post r hb hb' n n' w w' r' where
  ext := p.ext
  rep := by
    have old : ∀ i b, hl i = none → hb i = some b → ∃ B o k, r i = some (B, o, k) ∧ r' i = some (B, o, k) ∧ Fits r' b w'.heap[B]? o k ∧ B < w.heap.size ∧ ∀ j c o' k', hl j = some c → r j ≠ some (B, o', k') := by
      intro i b e1 e2
      obtain ⟨B, o, k, g1, g2⟩ := q.fits i b e2
      have hdis : ∀ j c o' k', hl j = some c → r j ≠ some (B, o', k') := by
        intro j c o' k' e3 e4
        have := q.inj i j b c B o k o' k' e2 (sub j c e3) g1 e4
        subst this
        rw [e1] at e3; cases e3
      obtain ⟨y, hy⟩ := g2.some
      have hB : B < w.heap.size := (Array.getElem?_eq_some_iff.1 hy).1
      exact ⟨B, o, k, g1, p.ext.1 _ _ g1, by rw [p.keeps.block B hB fun j c o' k' e3 => hdis j c o' k' e3]; exact g2.mono p.ext.1, hB, hdis⟩
    have new : ∀ i c B o k, hl' i = some c → r' i = some (B, o, k) → w.heap.size ≤ B ∨ ∃ j c' o' k', hl j = some c' ∧ r j = some (B, o', k') := p.src
    refine ⟨fun i b e => ?_, fun i j bi bj B o k o' k' ei ej gi gj => ?_⟩
    · by_cases g : hl i = none ∧ hb i ≠ none
      · rw [h1 i g.1 g.2] at e
        obtain ⟨B, o, k, _, c2, c3, _⟩ := old i b g.1 e
        exact ⟨B, o, k, c2, c3⟩
      · rw [h2 i g] at e
        exact p.rep.fits i b e
    · by_cases gI : hl i = none ∧ hb i ≠ none <;> by_cases gJ : hl j = none ∧ hb j ≠ none
      · rw [h1 i gI.1 gI.2] at ei; rw [h1 j gJ.1 gJ.2] at ej
        obtain ⟨B1, o1, k1, c1, c2, _⟩ := old i bi gI.1 ei
        obtain ⟨B2, o2, k2, d1, d2, _⟩ := old j bj gJ.1 ej
        rw [gi] at c2; rw [gj] at d2; cases c2; cases d2
        exact q.inj i j bi bj B o k o' k' ei ej c1 d1
      · rw [h1 i gI.1 gI.2] at ei; rw [h2 j gJ] at ej
        obtain ⟨B1, o1, k1, c1, c2, _, c4, c5⟩ := old i bi gI.1 ei
        rw [gi] at c2; cases c2
        rcases new j bj B o' k' ej gj with g | ⟨j', c', o2, k2, g1, g2⟩
        · omega
        · exact absurd g2 (c5 j' c' o2 k2 g1)
      · rw [h2 i gI] at ei; rw [h1 j gJ.1 gJ.2] at ej
        obtain ⟨B1, o1, k1, c1, c2, _, c4, c5⟩ := old j bj gJ.1 ej
        rw [gj] at c2; cases c2
        rcases new i bi B o k ei gi with g | ⟨j', c', o2, k2, g1, g2⟩
        · omega
        · exact absurd g2 (c5 j' c' o2 k2 g1)
      · rw [h2 i gI] at ei; rw [h2 j gJ] at ej
        exact p.rep.inj i j bi bj B o k o' k' ei ej gi gj
  keeps := ⟨p.keeps.os, p.keeps.tape, p.keeps.output, p.keeps.size, fun B hB hn => p.keeps.block B hB fun i b o k e => hn i b o k (sub i b e)⟩
  src := by
    intro i b B o k e g
    by_cases gI : hl i = none ∧ hb i ≠ none
    · rw [h1 i gI.1 gI.2] at e
      obtain ⟨B1, o1, k1, g1, _⟩ := q.fits i b e
      have := p.ext.1 _ _ g1
      rw [g] at this; cases this
      exact .inr ⟨i, b, o, k, e, g1⟩
    · rw [h2 i gI] at e
      rcases p.src i b B o k e g with c | ⟨j, c, o', k', c1, c2⟩
      · exact .inl c
      · exact .inr ⟨j, c, o', k', sub j c c1, c2⟩
end Go.Proofs.YtcaeglnfflkabaaGreat.Ev

namespace Go.Proofs.YtcaeglnfflkabaaGreat.Ev
section
variable {P : Program} {call : CallE} {N : Nat} {ops : Array Oper} {R : Nat → Run} {V : Nat → AV} {env0 : T AV} {h0 : Heap} {n0 : Nat}

noncomputable abbrev sops (ops : Array Oper) : List SOp := sopsE ops.toList ops.toList 0 []
/-- A run in the order of the text that has come to its end. -/
structure Ran (P : Program) (call : CallE) (N : Nat) (ops : Array Oper) (env0 : T AV) (h0 : Heap) (n0 : Nat) (R : Nat → Run) (V : Nat → AV) : Prop where
  init : R 0 = ⟨env0, h0, n0, [], [], []⟩
  step : ∀ (i : Nat) (s : SOp), (sops ops)[i]? = some s → StepIs P call N ops.toList s (R i) (R (i + 1)) (V i)
  stat : staticE (sops ops) = true
  reads : ∀ rd ∈ (R ops.size).reads, spanE (R ops.size).news rd h0 (R ops.size).acts = true
  fresh : ∀ x ∈ (R ops.size).news, freshE h0 x (R ops.size).acts = true

theorem sops_size : (sops ops).length = ops.size := by rw [sops_length]; simp
theorem sop_at (i : Nat) (h : i < ops.size) : ∃ s, (sops ops)[i]? = some s :=
  ⟨(sops ops)[i]'(by rw [sops_size]; exact h), List.getElem?_eq_getElem _⟩
theorem sop_lt {i : Nat} {s : SOp} (h : (sops ops)[i]? = some s) : i < ops.size := by
  have := (List.getElem?_eq_some_iff.1 h).1; rwa [sops_size] at this

/-- From one step to the next. -/
structure Grow (R : Nat → Run) (i j : Nat) : Prop where
  n : (R i).n ≤ (R j).n
  news : ∃ t, (R j).news = t ++ (R i).news ∧ ∀ x ∈ t, i ≤ x.k ∧ x.k < j
  acts : ∃ t, (R j).acts = t ++ (R i).acts ∧ ∀ a ∈ t, i ≤ a.k ∧ a.k < j
  reads : ∀ rd ∈ (R i).reads, rd ∈ (R j).reads
theorem Ran.grow1 (p : Ran P call N ops env0 h0 n0 R V) {i : Nat} {s : SOp} (h : (sops ops)[i]? = some s) : Grow R i (i + 1) := by
  have hk := (place h).k
  have hs := p.step i s h
  have key : ∀ r' v, StepIs P call N ops.toList s (R i) r' v → (R i).n ≤ r'.n ∧ (∃ t, r'.news = t ++ (R i).news ∧ ∀ x ∈ t, i ≤ x.k ∧ x.k < i + 1) ∧
      (∃ t, r'.acts = t ++ (R i).acts ∧ ∀ a ∈ t, i ≤ a.k ∧ a.k < i + 1) ∧ ∀ rd ∈ (R i).reads, rd ∈ r'.reads := by
    intro r' v hs
    cases hs with
    | idle _ _ _ => exact ⟨Nat.le_refl _, ⟨[], rfl, fun x h => by simp at h⟩, ⟨[], rfl, fun x h => by simp at h⟩, fun rd h => h⟩
    | quiet _ _ _ _ _ => exact ⟨Nat.le_refl _, ⟨[], rfl, fun x h => by simp at h⟩, ⟨[], rfl, fun x h => by simp at h⟩, fun rd h => read_keeps _ _ _ _ rd h⟩
    | new _ _ _ _ _ _ => exact ⟨Nat.le_succ _, ⟨[_], rfl, fun x h => by simp at h; subst h; simp only [hk]; omega⟩, ⟨[], rfl, fun x h => by simp at h⟩, fun rd h => read_keeps _ _ _ _ rd h⟩
    | act _ _ _ h3 _ => exact ⟨h3, ⟨[], rfl, fun x h => by simp at h⟩, ⟨[_], rfl, fun x h => by simp at h; subst h; simp only [hk]; omega⟩, fun rd h => h⟩
  obtain ⟨c1, c2, c3, c4⟩ := key _ _ hs
  exact ⟨c1, c2, c3, c4⟩
theorem Ran.grow (p : Ran P call N ops env0 h0 n0 R V) (i : Nat) : ∀ d, i + d ≤ ops.size → Grow R i (i + d) := by
  intro d
  induction d with
  | zero => intro _; exact ⟨Nat.le_refl _, ⟨[], rfl, fun x h => by simp at h⟩, ⟨[], rfl, fun x h => by simp at h⟩, fun rd h => h⟩
  | succ d ih =>
    intro hd
    have g := ih (by omega)
    obtain ⟨s, hs⟩ := sop_at (ops := ops) (i + d) (by omega)
    have g1 := p.grow1 hs
    obtain ⟨t1, a1, a2⟩ := g.news
    obtain ⟨t2, b1, b2⟩ := g1.news
    obtain ⟨u1, c1, c2⟩ := g.acts
    obtain ⟨u2, d1, d2⟩ := g1.acts
    refine ⟨Nat.le_trans g.n g1.n, ⟨t2 ++ t1, ?_, fun x hx => ?_⟩, ⟨u2 ++ u1, ?_, fun x hx => ?_⟩, fun rd h => g1.reads rd (g.reads rd h)⟩
    · show (R (i + d + 1)).news = _; rw [b1, a1, List.append_assoc]
    · rcases List.mem_append.1 hx with hx | hx
      · have := b2 x hx; omega
      · have := a2 x hx; omega
    · show (R (i + d + 1)).acts = _; rw [d1, c1, List.append_assoc]
    · rcases List.mem_append.1 hx with hx | hx
      · have := d2 x hx; omega
      · have := c2 x hx; omega
theorem Ran.grows (p : Ran P call N ops env0 h0 n0 R V) {i j : Nat} (h : i ≤ j) (hj : j ≤ ops.size) : Grow R i j := by
  have := p.grow i (j - i) (by omega)
  rwa [show i + (j - i) = j from by omega] at this

/-- What was made, and by whom. -/
theorem Ran.new_is (p : Ran P call N ops env0 h0 n0 R V) : ∀ j, j ≤ ops.size → ∀ x ∈ (R j).news, x.k < j ∧ ∃ s, (sops ops)[x.k]? = some s ∧ s.act = false ∧ x.id = (R x.k).n ∧ (R (x.k + 1)).n = x.id + 1 ∧
    (R (x.k + 1)).news = x :: (R x.k).news := by
  intro j
  induction j with
  | zero => intro _ x hx; rw [p.init] at hx; simp at hx
  | succ j ih =>
    intro hj x hx
    obtain ⟨s, hs⟩ := sop_at (ops := ops) j (by omega)
    have hk := (place hs).k
    have h1 := p.step j s hs
    have old : x ∈ (R j).news → x.k < j + 1 ∧ ∃ s, (sops ops)[x.k]? = some s ∧ s.act = false ∧ x.id = (R x.k).n ∧ (R (x.k + 1)).n = x.id + 1 ∧ (R (x.k + 1)).news = x :: (R x.k).news := by
      intro hx
      obtain ⟨c1, c2⟩ := ih (by omega) x hx
      exact ⟨by omega, c2⟩
    have key : ∀ r' v, R (j + 1) = r' → StepIs P call N ops.toList s (R j) r' v → x.k < j + 1 ∧ ∃ s, (sops ops)[x.k]? = some s ∧ s.act = false ∧ x.id = (R x.k).n ∧ (R (x.k + 1)).n = x.id + 1 ∧
        (R (x.k + 1)).news = x :: (R x.k).news := by
      intro r' v hr hst
      rw [hr] at hx
      cases hst with
      | idle _ _ _ => exact old hx
      | quiet _ _ _ _ _ => exact old hx
      | act _ _ _ _ _ => exact old hx
      | new _ ha _ _ _ _ =>
        rcases List.mem_cons.1 hx with rfl | hx
        · exact ⟨by show s.k < j + 1; omega, s, by show (sops ops)[s.k]? = some s; rw [hk]; exact hs, ha, by show (R j).n = (R s.k).n; rw [hk],
            by show (R (s.k + 1)).n = (R j).n + 1; rw [hk, hr], by show (R (s.k + 1)).news = _ :: (R s.k).news; rw [hk, hr, hk]⟩
        · exact old hx
    exact key _ _ rfl h1
theorem Ran.act_is (p : Ran P call N ops env0 h0 n0 R V) : ∀ j, j ≤ ops.size → ∀ a ∈ (R j).acts, a.k < j ∧ ∃ s, (sops ops)[a.k]? = some s ∧ s.act = true ∧ a.pre = s.pre := by
  intro j
  induction j with
  | zero => intro _ x hx; rw [p.init] at hx; simp at hx
  | succ j ih =>
    intro hj x hx
    obtain ⟨s, hs⟩ := sop_at (ops := ops) j (by omega)
    have hk := (place hs).k
    have old : x ∈ (R j).acts → x.k < j + 1 ∧ ∃ s, (sops ops)[x.k]? = some s ∧ s.act = true ∧ x.pre = s.pre := by
      intro hx
      obtain ⟨c1, c2⟩ := ih (by omega) x hx
      exact ⟨by omega, c2⟩
    have key : ∀ r' v, R (j + 1) = r' → StepIs P call N ops.toList s (R j) r' v → x.k < j + 1 ∧ ∃ s, (sops ops)[x.k]? = some s ∧ s.act = true ∧ x.pre = s.pre := by
      intro r' v hr hst
      rw [hr] at hx
      cases hst with
      | idle _ _ _ => exact old hx
      | quiet _ _ _ _ _ => exact old hx
      | new _ _ _ _ _ _ => exact old hx
      | act _ ha _ _ _ =>
        rcases List.mem_cons.1 hx with rfl | hx
        · exact ⟨by show s.k < j + 1; omega, s, by show (sops ops)[s.k]? = some s; rw [hk]; exact hs, ha, rfl⟩
        · exact old hx
    exact key _ _ rfl (p.step j s hs)
theorem Ran.head (p : Ran P call N ops env0 h0 n0 R V) : ∀ j, j ≤ ops.size → (R j).h = headH h0 (R j).acts := by
  intro j
  induction j with
  | zero => intro _; rw [p.init]; rfl
  | succ j ih =>
    intro hj
    obtain ⟨s, hs⟩ := sop_at (ops := ops) j (by omega)
    have key : ∀ r' v, StepIs P call N ops.toList s (R j) r' v → r'.h = headH h0 r'.acts := by
      intro r' v hst
      cases hst with
      | idle _ _ _ => exact ih (by omega)
      | quiet _ _ _ _ _ => exact ih (by omega)
      | new _ _ _ _ _ _ => exact ih (by omega)
      | act _ _ _ _ _ => rfl
    exact key _ _ (p.step j s hs)
theorem Ran.new_eq (p : Ran P call N ops env0 h0 n0 R V) {x y : New} (hx : x ∈ (R ops.size).news) (hy : y ∈ (R ops.size).news) (h : x.id = y.id) : x = y := by
  obtain ⟨a1, s, a2, a3, a4, a5, a6⟩ := p.new_is _ (Nat.le_refl _) x hx
  obtain ⟨b1, u, b2, b3, b4, b5, b6⟩ := p.new_is _ (Nat.le_refl _) y hy
  have hk : x.k = y.k := by
    rcases Nat.lt_trichotomy x.k y.k with c | c | c
    · have := (p.grows (i := x.k + 1) (j := y.k) c (by omega)).n; omega
    · exact c
    · have := (p.grows (i := y.k + 1) (j := x.k) c (by omega)).n; omega
  rw [hk, b6] at a6
  exact (List.cons.inj a6).1.symm
theorem Ran.new_early (p : Ran P call N ops env0 h0 n0 R V) {x : New} (hx : x ∈ (R ops.size).news) {k : Nat} (h : x.k < k) (hk : k ≤ ops.size) : x ∈ (R k).news := by
  obtain ⟨t, c1, c2⟩ := (p.grows hk (Nat.le_refl _)).news
  rw [c1] at hx
  rcases List.mem_append.1 hx with hx | hx
  · have := c2 x hx; omega
  · exact hx
/-- The slots in the order of the text. -/
theorem Ran.slot (p : Ran P call N ops env0 h0 n0 R V) (t : Nat) : ∀ j, j ≤ ops.size → (∃ (k : Nat) (s : SOp), k < j ∧ (sops ops)[k]? = some s ∧ s.o.dst = some t ∧ (R j).env.get t = some (V k)) ∨
    ((∀ (k : Nat) (s : SOp), k < j → (sops ops)[k]? = some s → s.o.dst ≠ some t) ∧ (R j).env.get t = env0.get t) := by
  intro j
  induction j with
  | zero => intro _; rw [p.init]; exact .inr ⟨fun k s h => by omega, rfl⟩
  | succ j ih =>
    intro hj
    obtain ⟨s, hs⟩ := sop_at (ops := ops) j (by omega)
    have hput : putE N (R j).env s.o.dst (V j) = some (R (j + 1)).env := by
      have key : ∀ r' v, StepIs P call N ops.toList s (R j) r' v → putE N (R j).env s.o.dst v = some r'.env := by
        intro r' v hst
        cases hst <;> assumption
      exact key _ _ (p.step j s hs)
    have ih := ih (by omega)
    have same : s.o.dst ≠ some t → (R (j + 1)).env.get t = (R j).env.get t := by
      intro hne
      cases hd : s.o.dst with
      | none => rw [hd] at hput; exact (congrArg (fun e => T.get e t) (Option.some.inj hput)).symm
      | some d =>
        rw [hd] at hput hne
        obtain ⟨_, e⟩ := iff_some hput
        have : (R j).env.put d (some (V j)) = (R (j + 1)).env := by simpa using e
        rw [← this, T.get_put, if_neg (fun c => hne (by rw [c]))]
    by_cases g : s.o.dst = some t
    · refine .inl ⟨j, s, by omega, hs, g, ?_⟩
      rw [g] at hput
      obtain ⟨_, e⟩ := iff_some hput
      have : (R j).env.put t (some (V j)) = (R (j + 1)).env := by simpa using e
      rw [← this, T.get_put, if_pos rfl]
    · rw [same g]
      rcases ih with ⟨k, s', c1, c2⟩ | ⟨c1, c2⟩
      · exact .inl ⟨k, s', by omega, c2⟩
      · refine .inr ⟨fun k s' hk hs' => ?_, c2⟩
        rcases Nat.lt_or_ge k j with c | c
        · exact c1 k s' c hs'
        · have : k = j := by omega
          subst this; rw [hs] at hs'; cases hs'; exact g
theorem Ran.put (p : Ran P call N ops env0 h0 n0 R V) {j : Nat} {s : SOp} (hs : (sops ops)[j]? = some s) : putE N (R j).env s.o.dst (V j) = some (R (j + 1)).env := by
  have key : ∀ r' v, StepIs P call N ops.toList s (R j) r' v → putE N (R j).env s.o.dst v = some r'.env := by
    intro r' v hst
    cases hst <;> assumption
  exact key _ _ (p.step j s hs)
end
end Go.Proofs.YtcaeglnfflkabaaGreat.Ev

namespace Go.Proofs.YtcaeglnfflkabaaGreat.Ev
section
variable {P : Program} {call : CallE} {N : Nat} {ops : Array Oper} {R : Nat → Run} {V : Nat → AV} {env0 : T AV} {h0 : Heap} {n0 : Nat}

/-- Where a region stands when those of `S` have had their turn. -/
structure Inv (N : Nat) (ops : Array Oper) (R : Nat → Run) (V : Nat → AV) (env0 : T AV) (n0 : Nat) (S : Nat → Prop) (D : List Deferred) (r0 : Ren) (hh : Nat → Option Blk) (nn : Nat) (w0 : World)
    (a : Go.Act) (w : World) (r : Ren) (p : Nat) (H : Nat → Option Blk) : Prop where
  size : a.tmps.size = N
  defers : a.defers = D
  slot1 : ∀ (t k : Nat) (s : SOp), S k → (sops ops)[k]? = some s → s.o.dst = some t → ∃ x, a.tmps[t]? = some x ∧ Rel r (V k) x
  slot0 : ∀ (t : Nat), (∀ (k : Nat) (s : SOp), S k → (sops ops)[k]? = some s → s.o.dst ≠ some t) → ∀ v, env0.get t = some v → ∃ x, a.tmps[t]? = some x ∧ Rel r v x
  ple : p ≤ ops.size
  acts : ∀ b ∈ (R ops.size).acts, (S b.k ↔ b.k < p)
  made : ∀ x ∈ (R ops.size).news, S x.k → unmE (R p).acts x = true → H x.id = some x.b
  rest : ∀ i, (∀ x ∈ (R ops.size).news, x.id = i → S x.k → unmE (R p).acts x = false) → H i = (R p).h.get i
  post : Post r0 hh H nn (R ops.size).n w0 w r
  names : ∀ i, n0 ≤ i → i < (R ops.size).n → r i ≠ none → ∃ k, k < ops.size ∧ S k ∧ (R k).n ≤ i ∧ i < (R (k + 1)).n
def Also (S : Nat → Prop) (k : Nat) : Nat → Prop := fun j => S j ∨ j = k

variable {S : Nat → Prop} {D : List Deferred} {r0 : Ren} {hh : Nat → Option Blk} {nn : Nat} {w0 : World} {a : Go.Act} {w : World} {r : Ren} {p : Nat} {H : Nat → Option Blk}

theorem closed (hd : Down ops S) {k : Nat} {s : SOp} (hk : S k) (hs : (sops ops)[k]? = some s) : ∀ j, hasB s.pre j = true → S j :=
  hd.pre k s hs fun e h1 h2 => hd k s.o hk (by rw [← Array.getElem?_toList]; exact (place hs).o) e h1 h2

/-- The acts so far, and those to come. -/
theorem Inv.split (c : Ran P call N ops env0 h0 n0 R V) (v : Inv N ops R V env0 n0 S D r0 hh nn w0 a w r p H) :
    ∃ t, (R ops.size).acts = t ++ (R p).acts ∧ (∀ b ∈ t, ¬ S b.k) ∧ ∀ b ∈ (R p).acts, S b.k := by
  obtain ⟨t, c1, c2⟩ := (c.grows v.ple (Nat.le_refl _)).acts
  refine ⟨t, c1, fun b hb hS => ?_, fun b hb => ?_⟩
  · have h1 := c2 b hb
    have := (v.acts b (by rw [c1]; exact List.mem_append_left _ hb)).1 hS
    omega
  · have h1 := (c.act_is p v.ple b hb).1
    exact (v.acts b (by rw [c1]; exact List.mem_append_right _ hb)).2 h1
theorem Inv.unm (c : Ran P call N ops env0 h0 n0 R V) (v : Inv N ops R V env0 n0 S D r0 hh nn w0 a w r p H) (hd : Down ops S) {x : New} (hx : ¬ S x.k) : unmE (R p).acts x = true := by
  obtain ⟨t, _, _, c3⟩ := v.split c
  refine List.all_eq_true.2 fun b hb => ?_
  obtain ⟨_, s, d1, _, d2⟩ := c.act_is p v.ple b hb
  cases hh : hasB b.pre x.k with
  | false => rfl
  | true => rw [d2] at hh; exact absurd (closed hd (c3 b hb) d1 x.k hh) hx
theorem Inv.fresh (c : Ran P call N ops env0 h0 n0 R V) (v : Inv N ops R V env0 n0 S D r0 hh nn w0 a w r p H) {x : New} (hx : x ∈ (R ops.size).news) (hu : unmE (R p).acts x = true) : (R p).h.get x.id = none := by
  obtain ⟨t, c1, _, _⟩ := v.split c
  have := c.fresh x hx
  rw [c1] at this
  rw [c.head p v.ple]
  exact fresh_none t _ this hu

theorem Inv.free (c : Ran P call N ops env0 h0 n0 R V) (v : Inv N ops R V env0 n0 S D r0 hh nn w0 a w r p H) {k : Nat} (hk : k < ops.size) (hS : ¬ S k) : Free r (R k).n (R (k + 1)).n := by
  intro i h1 h2
  cases hr : r i with
  | none => rfl
  | some y =>
    have g0 := (c.grows (Nat.zero_le k) (by omega)).n
    rw [c.init] at g0
    have gL := (c.grows (i := k + 1) (j := ops.size) hk (Nat.le_refl _)).n
    obtain ⟨j, j1, j2, j3, j4⟩ := v.names i (by simp only at g0; omega) (by omega) (by rw [hr]; exact Option.some_ne_none _)
    rcases Nat.lt_trichotomy j k with q | q | q
    · have := (c.grows (i := j + 1) (j := k) q (by omega)).n; omega
    · subst q; exact absurd j2 hS
    · have := (c.grows (i := k + 1) (j := j) q (by omega)).n; omega

theorem Inv.env (c : Ran P call N ops env0 h0 n0 R V) (v : Inv N ops R V env0 n0 S D r0 hh nn w0 a w r p H) (hd : Down ops S) {k : Nat} {s : SOp} (hs : (sops ops)[k]? = some s) (hS : ¬ S k)
    (hpre : ∀ j, hasB s.pre j = true → S j) : EnvRel r (envE (R k).env s.looks) a N := by
  have hk := sop_lt hs
  refine ⟨v.size, fun t u e => ?_⟩
  rw [envE_get] at e
  by_cases ht : t ∈ s.looks
  · rw [if_pos ht] at e
    have hslot := ((static_facts c.stat).2.2 s (List.mem_of_getElem? hs)).2 t ht
    rcases c.slot t k (by omega) with ⟨j, s', c1, c2, c3, c4⟩ | ⟨c1, c2⟩
    · rw [c4] at e; cases e
      have := (slot_fact hslot c2 c3).1 (by rw [(place c2).k, (place hs).k]; exact c1)
      rw [(place c2).k] at this
      exact v.slot1 t j s' (hpre j this) c2 c3
    · rw [c2] at e
      refine v.slot0 t (fun j s' hj hs' hdst => ?_) u e
      rcases Nat.lt_or_ge j k with q | q
      · exact c1 j s' q hs' hdst
      · have := (slot_fact hslot hs' hdst).2 (by rw [(place hs').k, (place hs).k]; omega)
        rw [(place hs).k] at this
        exact hS (closed hd hj hs' k this)
  · rw [if_neg ht] at e; cases e

/-- The slots behind a step. -/
theorem Inv.slots (c : Ran P call N ops env0 h0 n0 R V) (v : Inv N ops R V env0 n0 S D r0 hh nn w0 a w r p H) {k : Nat} {s : SOp} (hs : (sops ops)[k]? = some s) (hS : ¬ S k) {r' : Ren} (hr : r.le r') {x : Value}
    (hx : Rel r' (V k) x) : (a.put s.o.dst x).tmps.size = N ∧
    (∀ (t j : Nat) (u : SOp), Also S k j → (sops ops)[j]? = some u → u.o.dst = some t → ∃ x', (a.put s.o.dst x).tmps[t]? = some x' ∧ Rel r' (V j) x') ∧
    (∀ (t : Nat), (∀ (j : Nat) (u : SOp), Also S k j → (sops ops)[j]? = some u → u.o.dst ≠ some t) → ∀ u, env0.get t = some u → ∃ x', (a.put s.o.dst x).tmps[t]? = some x' ∧ Rel r' u x') := by
  have hput := c.put hs
  have other : ∀ t, s.o.dst ≠ some t → (a.put s.o.dst x).tmps[t]? = a.tmps[t]? := by
    intro t ht
    cases hd : s.o.dst with
    | none => rfl
    | some d =>
      rw [hd] at ht
      simp only [Go.Act.put, Array.getElem?_setIfInBounds]
      rw [if_neg (fun q => ht (by rw [q]))]
  refine ⟨by cases hd : s.o.dst <;> simp [Go.Act.put, v.size], fun t j u hj hu hdst => ?_, fun t ht u hu => ?_⟩
  · rcases hj with hj | rfl
    · have hne : s.o.dst ≠ some t := by
        intro q
        have := dsts_fact _ (static_facts c.stat).2.1 j k u s t hu hs hdst q
        subst this; exact hS hj
      rw [other t hne]
      obtain ⟨y, y1, y2⟩ := v.slot1 t j u hj hu hdst
      exact ⟨y, y1, y2.mono hr⟩
    · rw [hs] at hu; cases hu
      rw [hdst] at hput ⊢
      obtain ⟨q, _⟩ := iff_some hput
      have q := blt_lt q
      refine ⟨x, ?_, hx⟩
      simp only [Go.Act.put, Array.getElem?_setIfInBounds]
      rw [if_pos trivial, if_pos (by rw [v.size]; exact q)]
  · rw [other t (fun q => ht k s (.inr rfl) hs q)]
    obtain ⟨y, y1, y2⟩ := v.slot0 t (fun j s' hj => ht j s' (.inl hj)) u hu
    exact ⟨y, y1, y2.mono hr⟩
end
end Go.Proofs.YtcaeglnfflkabaaGreat.Ev

namespace Go.Proofs.YtcaeglnfflkabaaGreat.Ev

theorem Post.widen {r r' : Ren} {h h' : Nat → Option Blk} {x y x' y' : Nat} {w w' : World} (q : Post r h h' x y w w' r') (h1 : x' ≤ x) (h2 : y ≤ y') : Post r h h' x' y' w w' r' :=
  ⟨⟨q.ext.1, fun i e f => by have := q.ext.2 i e f; omega⟩, q.rep, q.keeps, q.src⟩
theorem Post.join {r r1 r2 : Ren} {h h1 h2 : Nat → Option Blk} {x y : Nat} {w w1 w2 : World} (p : Post r h h1 x y w w1 r1) (q : Post r1 h1 h2 x y w1 w2 r2) : Post r h h2 x y w w2 r2 where
  ext := ⟨p.ext.1.trans q.ext.1, fun i e f => by
    by_cases g : r1 i = none
    · exact q.ext.2 i g f
    · exact p.ext.2 i e g⟩
  rep := q.rep
  keeps := by
    refine ⟨q.keeps.os.trans p.keeps.os, q.keeps.tape.trans p.keeps.tape, q.keeps.output.trans p.keeps.output, Nat.le_trans p.keeps.size q.keeps.size, fun B hB hn => ?_⟩
    rw [q.keeps.block B (Nat.lt_of_lt_of_le hB p.keeps.size) ?_, p.keeps.block B hB hn]
    intro i c o k e f
    rcases p.src i c B o k e f with g | ⟨j, c', o', k', e', f'⟩
    · omega
    · exact hn j c' o' k' e' f'
  src := by
    intro i c B o k e f
    rcases q.src i c B o k e f with g | ⟨j, c', o', k', e', f'⟩
    · exact .inl (Nat.le_trans p.keeps.size g)
    · exact p.src j c' B o' k' e' f'

section
variable {P : Program} {call : CallE} {N : Nat} {ops : Array Oper} {R : Nat → Run} {V : Nat → AV} {env0 : T AV} {h0 : Heap} {n0 : Nat}
variable {S : Nat → Prop} {D : List Deferred} {r0 : Ren} {hh : Nat → Option Blk} {nn : Nat} {w0 : World} {a : Go.Act} {w : World} {r : Ren} {p : Nat} {H : Nat → Option Blk}

theorem Ran.lo (c : Ran P call N ops env0 h0 n0 R V) {k : Nat} (hk : k ≤ ops.size) : n0 ≤ (R k).n := by
  have := (c.grows (Nat.zero_le k) hk).n
  rw [c.init] at this
  exact this
/-- Names behind a step. -/
theorem Inv.named (v : Inv N ops R V env0 n0 S D r0 hh nn w0 a w r p H) {k : Nat} (hk : k < ops.size) {r' : Ren} (he : Ext r r' (R k).n (R (k + 1)).n) :
    ∀ i, n0 ≤ i → i < (R ops.size).n → r' i ≠ none → ∃ j, j < ops.size ∧ Also S k j ∧ (R j).n ≤ i ∧ i < (R (j + 1)).n := by
  intro i h1 h2 h3
  by_cases g : r i = none
  · have := he.2 i g h3
    exact ⟨k, hk, .inr rfl, this.1, this.2⟩
  · obtain ⟨j, j1, j2, j3⟩ := v.names i h1 h2 g
    exact ⟨j, j1, .inl j2, j3⟩
theorem Inv.post' (c : Ran P call N ops env0 h0 n0 R V) (v : Inv N ops R V env0 n0 S D r0 hh nn w0 a w r p H) (hnn : nn ≤ n0) {k : Nat} (hk : k < ops.size) {H' : Nat → Option Blk} {w' : World} {r' : Ren}
    (q : Post r H H' (R k).n (R (k + 1)).n w w' r') : Post r0 hh H' nn (R ops.size).n w0 w' r' :=
  v.post.join (q.widen (Nat.le_trans hnn (c.lo (by omega))) (c.grows (i := k + 1) (j := ops.size) hk (Nat.le_refl _)).n)

/-- An operation that is no act finds what it read. -/
theorem Inv.found (c : Ran P call N ops env0 h0 n0 R V) (v : Inv N ops R V env0 n0 S D r0 hh nn w0 a w r p H) (hd : Down ops S) {k : Nat} {s : SOp} (hs : (sops ops)[k]? = some s) (hS : ¬ S k)
    (hpre : ∀ j, hasB s.pre j = true → S j) {i : Nat} {b : Blk} (hr : (⟨s.k, s.pre, i, b⟩ : Read) ∈ (R ops.size).reads) : H i = some b := by
  obtain ⟨t, c1, c2, c3⟩ := v.split c
  have h1 := c.reads _ hr
  rw [c1] at h1
  have hk := (place hs).k
  have h2 := span_stood t _ h1 (fun b' hb => by
    cases hq : hasB s.pre b'.k with
    | false => rfl
    | true => exact absurd (hpre _ hq) (c2 b' hb)) (fun b' t' he => by
    obtain ⟨_, s', d1, _, d2⟩ := c.act_is p v.ple b' (by rw [he]; exact List.mem_cons_self)
    cases hq : hasB b'.pre s.k with
    | false => rfl
    | true =>
      rw [d2, hk] at hq
      exact absurd (closed hd (c3 b' (by rw [he]; exact List.mem_cons_self)) d1 k hq) hS)
  rcases stood_is h2 with ⟨x, x1, x2, x3, x4, x5⟩ | ⟨x1, x2⟩
  · have := v.made x x1 (hpre _ x4) x3
    rw [x2, x5] at this
    exact this
  · have := v.rest i fun x hx hi _ => x1 x hx hi
    rw [this, c.head p v.ple]
    exact x2
end
end Go.Proofs.YtcaeglnfflkabaaGreat.Ev
