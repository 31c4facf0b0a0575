/- Plain laws on plans: braking distances; names twice, a join twice; longer elements. No condition. -/
import Derived.Test.YtlndfmflbdkpjaaNetPure
namespace Go.Proofs.Ytlndfmflbdkpjaa

set_option maxRecDepth 100000 in
theorem stop_tab : ∀ a ∈ List.range 61, ∀ b ∈ List.range 10,
    stop (a : Int) ((b : Int) + 1) = max ((a : Int) - ((b : Int) + 1)) 0 + stop (max ((a : Int) - ((b : Int) + 1)) 0) ((b : Int) + 1) ∧ (a ≠ 0 → stop ((a : Int) - 1) ((b : Int) + 1) ≤ stop (a : Int) ((b : Int) + 1)) ∧ stop 0 ((b : Int) + 1) = 0 ∧
    (b ≠ 9 → stop (a : Int) ((b : Int) + 1 + 1) ≤ stop (a : Int) ((b : Int) + 1)) ∧ 0 ≤ stop (a : Int) ((b : Int) + 1) := by decide +kernel
theorem stop_laws {a b : Int} (h1 : 0 ≤ a) (h2 : a ≤ 60) (h3 : 1 ≤ b) (h4 : b ≤ 10) :
    stop a b = max (a - b) 0 + stop (max (a - b) 0) b ∧ (a ≠ 0 → stop (a - 1) b ≤ stop a b) ∧ stop 0 b = 0 ∧ (b ≠ 10 → stop a (b + 1) ≤ stop a b) ∧ 0 ≤ stop a b := by
  have := stop_tab a.toNat (by simp; omega) (b - 1).toNat (by simp; omega)
  rw [show ((a.toNat : Nat) : Int) = a by omega, show (((b - 1).toNat : Nat) : Int) + 1 = b by omega] at this
  exact ⟨this.1, fun h => this.2.1 (by omega), this.2.2.1, fun h => this.2.2.2.1 (by omega), this.2.2.2.2⟩
theorem stop_mono {a a' b : Int} (h1 : 0 ≤ a) (h2 : a ≤ a') (h3 : a' ≤ 60) (h4 : 1 ≤ b) (h5 : b ≤ 10) : stop a b ≤ stop a' b := by
  obtain ⟨k, rfl⟩ : ∃ k : Nat, a' = a + k := ⟨(a' - a).toNat, by omega⟩
  induction k with
  | zero => simp
  | succ k ih =>
    have h := ih (by omega) (by omega)
    have := (stop_laws (a := a + ((k + 1 : Nat) : Int)) (by omega) h3 h4 h5).2.1 (by omega)
    rw [show a + ((k + 1 : Nat) : Int) - 1 = a + (k : Int) by omega] at this
    omega
theorem stop_anti {a b b' : Int} (h1 : 0 ≤ a) (h2 : a ≤ 60) (h3 : 1 ≤ b) (h4 : b ≤ b') (h5 : b' ≤ 10) : stop a b' ≤ stop a b := by
  obtain ⟨k, rfl⟩ : ∃ k : Nat, b' = b + k := ⟨(b' - b).toNat, by omega⟩
  induction k with
  | zero => simp
  | succ k ih =>
    have h := ih (by omega) (by omega)
    have := (stop_laws (a := a) (b := b + (k : Int)) h1 h2 (by omega) (by omega)).2.2.2.1 (by omega)
    rw [show b + (k : Int) + 1 = b + ((k + 1 : Nat) : Int) by omega] at this
    omega

/-! an element twice -/
theorem dupGo_iff {α : Type} [DecidableEq α] : ∀ (l met : List α), dupGo met l = false ↔ l.Nodup ∧ ∀ x ∈ l, x ∉ met := by
  intro l
  induction l with
  | nil => intro met; simp [dupGo]
  | cons x r ih =>
    intro met
    unfold dupGo
    rw [Bool.or_eq_false_iff, ih, decide_eq_false_iff_not, List.nodup_cons]
    constructor
    · rintro ⟨h1, h2, h3⟩
      refine ⟨⟨fun hm => h3 x hm (by simp), h2⟩, fun y hy => ?_⟩
      rcases List.mem_cons.1 hy with rfl | hy
      · exact h1
      · exact fun hm => h3 y hy (by simp [hm])
    · rintro ⟨⟨h1, h2⟩, h3⟩
      refine ⟨h3 x (by simp), h2, fun y hy hm => ?_⟩
      rcases List.mem_append.1 hm with hm | hm
      · exact h3 y (by simp [hy]) hm
      · simp at hm; subst hm; exact h1 hy
theorem dup_iff {α : Type} [DecidableEq α] (l : List α) : dup l = false ↔ l.Nodup := by
  unfold dup; rw [dupGo_iff]; simp
theorem dup_true {α : Type} [DecidableEq α] {l : List α} {i j : Nat} {x : α} (hij : i ≠ j) (hi : l[i]? = some x) (hj : l[j]? = some x) : dup l = true := by
  cases h : dup l with
  | true => rfl
  | false =>
    exfalso
    have hn := (dup_iff l).1 h
    rw [nodup_idx] at hn
    have h1 := (List.getElem?_eq_some_iff.1 hi).1
    have h2 := (List.getElem?_eq_some_iff.1 hj).1
    rcases Nat.lt_or_ge i j with h3 | h3
    · exact hn i j h3 h2 (hi.trans hj.symm)
    · exact hn j i (by omega) h1 (hj.trans hi.symm)

/-! plans whose elements have the same kinds -/
def Alike (q p : Plan) : Prop := q.elems.map (·.kind) = p.elems.map (·.kind)
theorem Alike.len {q p : Plan} (h : Alike q p) : q.elems.length = p.elems.length := by have := congrArg List.length h; simpa using this
theorem Alike.kind {q p : Plan} (h : Alike q p) (i : Int) : q.kind i = p.kind i := by
  unfold Plan.kind Plan.elem
  split
  · have := congrArg (fun l : List Int => l.getD i.toNat 0) h
    simp only [List.getD, List.getElem?_map] at this ⊢
    cases h1 : q.elems[i.toNat]? <;> cases h2 : p.elems[i.toNat]? <;> simp_all [zeroElem]
  · rfl
theorem Alike.isPort {q p : Plan} (h : Alike q p) (x : Port) : Proofs.Ytlndfmflbdkpjaa.isPort q x = Proofs.Ytlndfmflbdkpjaa.isPort p x := by unfold Proofs.Ytlndfmflbdkpjaa.isPort; rw [h.len, h.kind]
theorem Alike.joinGo {q p : Plan} (h : Alike q p) : ∀ (js : List Join) (met : List Port), Proofs.Ytlndfmflbdkpjaa.joinGo q met js = Proofs.Ytlndfmflbdkpjaa.joinGo p met js := by
  intro js
  induction js with
  | nil => intro met; rfl
  | cons j r ih => intro met; simp only [Proofs.Ytlndfmflbdkpjaa.joinGo, h.isPort, ih]
theorem Alike.gateGo {q p : Plan} (h : Alike q p) (nx : Port → Option Port) : ∀ (l m : List Elem) (i : Nat), l.map (·.kind) = m.map (·.kind) → Proofs.Ytlndfmflbdkpjaa.gateGo q nx i l = Proofs.Ytlndfmflbdkpjaa.gateGo p nx i m := by
  intro l
  induction l with
  | nil => intro m i hm; cases m with
    | nil => rfl
    | cons _ _ => simp at hm
  | cons e r ih => intro m i hm; cases m with
    | nil => simp at hm
    | cons f s =>
      simp only [List.map_cons, List.cons.injEq] at hm
      simp only [Proofs.Ytlndfmflbdkpjaa.gateGo, hm.1, h.kind, ih s (i + 1) hm.2]
theorem Alike.joinedOk {q p : Plan} (h : Alike q p) (hj : q.joins = p.joins) : Proofs.Ytlndfmflbdkpjaa.joinedOk q = Proofs.Ytlndfmflbdkpjaa.joinedOk p := by
  have hn : nextOf q = nextOf p := by funext x; unfold nextOf; rw [hj]
  unfold Proofs.Ytlndfmflbdkpjaa.joinedOk
  rw [hj, h.joinGo, hn, h.gateGo (nextOf p) q.elems p.elems 0 h]
theorem Alike.sigGo {q p : Plan} (h : Alike q p) (hj : q.joins = p.joins) : ∀ (l m : List Sig) (met : List Port), l.map (·.at_) = m.map (·.at_) → Proofs.Ytlndfmflbdkpjaa.sigGo q met l = Proofs.Ytlndfmflbdkpjaa.sigGo p met m := by
  have hn : nextOf q = nextOf p := by funext x; unfold nextOf; rw [hj]
  intro l
  induction l with
  | nil => intro m met hm; cases m with
    | nil => rfl
    | cons _ _ => simp at hm
  | cons e r ih => intro m met hm; cases m with
    | nil => simp at hm
    | cons f s =>
      simp only [List.map_cons, List.cons.injEq] at hm
      simp only [Proofs.Ytlndfmflbdkpjaa.sigGo, hm.1, sigOk, h.kind, h.isPort, hn, ih s _ hm.2]
theorem gateSig_congr (ps : List Port) : ∀ (l m : List Elem) (i : Nat), l.map (·.kind) = m.map (·.kind) → gateSigGo ps i l = gateSigGo ps i m := by
  intro l
  induction l with
  | nil => intro m i hm; cases m with
    | nil => rfl
    | cons _ _ => simp at hm
  | cons e r ih => intro m i hm; cases m with
    | nil => simp at hm
    | cons f s =>
      simp only [List.map_cons, List.cons.injEq] at hm
      simp only [gateSigGo, hm.1, ih s (i + 1) hm.2]
theorem Alike.signalsOk {q p : Plan} (h : Alike q p) (hj : q.joins = p.joins) (hs : q.sigs.map (·.at_) = p.sigs.map (·.at_)) : Proofs.Ytlndfmflbdkpjaa.signalsOk q = Proofs.Ytlndfmflbdkpjaa.signalsOk p := by
  unfold Proofs.Ytlndfmflbdkpjaa.signalsOk
  rw [h.sigGo hj _ _ _ hs, hs, gateSig_congr _ q.elems p.elems 0 h]
theorem Alike.linesOk {q p : Plan} (h : Alike q p) (hj : q.joins = p.joins) (hl : q.lines = p.lines) : Proofs.Ytlndfmflbdkpjaa.linesOk q = Proofs.Ytlndfmflbdkpjaa.linesOk p := by
  have hn : nextOf q = nextOf p := by funext x; unfold nextOf; rw [hj]
  have ht : ∀ (l met : List Int), tracksGo q met l = tracksGo p met l := by
    intro l
    induction l with
    | nil => intro met; rfl
    | cons e r ih => intro met; simp only [tracksGo, inLine, h.kind, h.len, ih]
  have hg : ∀ (l : List Line) (met : List Int), lineGo q met l = lineGo p met l := by
    intro l
    induction l with
    | nil => intro met; rfl
    | cons e r ih => intro met; simp only [lineGo, ht, hn, ih]
  unfold Proofs.Ytlndfmflbdkpjaa.linesOk
  rw [hl, hg]

/-! a name twice -/
theorem all_set {α : Type} {l : List α} {f : α → Bool} (h : l.all f = true) {i : Nat} {x : α} (hx : f x = true) : (l.set i x).all f = true := by
  rw [List.all_eq_true] at h ⊢
  intro y hy
  rcases List.mem_or_eq_of_mem_set hy with h1 | h1
  · exact h y h1
  · rw [h1]; exact hx
def rename (x : Elem) (s : ByteArray) : Elem := { x with name := s }
theorem twice_elem {p : Plan} (h : chk p = 0) {a b : Nat} {x y : Elem} (hab : a ≠ b) (hx : p.elems[a]? = some x) (hy : p.elems[b]? = some y) :
    chk { p with elems := p.elems.set a (rename x y.name) } = 4 := by
  obtain ⟨h1, h2, _⟩ := chk_zero h
  have hal : a < p.elems.length := (List.getElem?_eq_some_iff.1 hx).1
  have t1 : tooMuch { p with elems := p.elems.set a (rename x y.name) } = false := by unfold tooMuch at h1 ⊢; simpa using h1
  have t2 : argsOk { p with elems := p.elems.set a (rename x y.name) } = true := by
    unfold argsOk at h2 ⊢
    simp only [Bool.and_eq_true] at h2 ⊢
    refine ⟨?_, all_set h2.2.1 ?_, h2.2.2⟩
    · unfold numsOk at h2 ⊢; simpa using h2.1
    · have e1 := List.all_eq_true.1 h2.2.1 x (List.mem_of_getElem? hx)
      have e2 := List.all_eq_true.1 h2.2.1 y (List.mem_of_getElem? hy)
      unfold elemOk at e1 e2 ⊢
      simp only [Bool.and_eq_true] at e1 e2
      simp only [rename, Bool.and_eq_true]
      exact ⟨⟨e2.1.1, e1.1.2⟩, e1.2⟩
  have t3 : namesTwice { p with elems := p.elems.set a (rename x y.name) } = true := by
    unfold namesTwice
    rw [dup_true (i := a) (j := b) (x := y.name) hab (by simp [hal, rename]) (by simp [List.getElem?_set_ne hab, hy])]
    rfl
  unfold chk
  rw [t1, t2, t3]; rfl
def resign (x : Sig) (s : ByteArray) : Sig := { x with name := s }
theorem twice_sig {p : Plan} (h : chk p = 0) {a b : Nat} {x y : Sig} (hab : a ≠ b) (hx : p.sigs[a]? = some x) (hy : p.sigs[b]? = some y) :
    chk { p with sigs := p.sigs.set a (resign x y.name) } = 4 := by
  obtain ⟨h1, h2, _⟩ := chk_zero h
  have hal : a < p.sigs.length := (List.getElem?_eq_some_iff.1 hx).1
  have t1 : tooMuch { p with sigs := p.sigs.set a (resign x y.name) } = false := by unfold tooMuch at h1 ⊢; simpa using h1
  have t2 : argsOk { p with sigs := p.sigs.set a (resign x y.name) } = true := by
    unfold argsOk at h2 ⊢
    simp only [Bool.and_eq_true] at h2 ⊢
    refine ⟨?_, h2.2.1, all_set h2.2.2.1 ?_, h2.2.2.2⟩
    · unfold numsOk at h2 ⊢; simpa using h2.1
    · exact List.all_eq_true.1 h2.2.2.1 y (List.mem_of_getElem? hy)
  have t3 : namesTwice { p with sigs := p.sigs.set a (resign x y.name) } = true := by
    unfold namesTwice
    rw [dup_true (l := (p.sigs.set a (resign x y.name)).map (·.name)) (i := a) (j := b) (x := y.name) hab (by simp [hal, resign]) (by simp [List.getElem?_set_ne hab, hy])]
    simp
  unfold chk
  rw [t1, t2, t3]; rfl
theorem flat_append (a b : List Join) : flatJoins (a ++ b) = flatJoins a ++ flatJoins b := by
  induction a with
  | nil => rfl
  | cons j r ih => simp [flatJoins, ih]
theorem twice_join {p : Plan} (h : chk p = 0) {j : Join} (hj : j ∈ p.joins) (hl : p.joins.length < 80) : chk { p with joins := p.joins ++ [j] } = 6 := by
  obtain ⟨h1, h2, h3, _⟩ := chk_zero h
  have t1 : tooMuch { p with joins := p.joins ++ [j] } = false := by
    unfold tooMuch at h1 ⊢
    simp at h1 ⊢; omega
  have t2 : argsOk { p with joins := p.joins ++ [j] } = true := by unfold argsOk numsOk at h2 ⊢; exact h2
  have t3 : namesTwice { p with joins := p.joins ++ [j] } = false := h3
  have t4 : joinedOk { p with joins := p.joins ++ [j] } = false := by
    cases hk : joinedOk { p with joins := p.joins ++ [j] } with
    | false => rfl
    | true =>
      exfalso
      unfold joinedOk at hk
      simp only [Bool.and_eq_true] at hk
      have := (joinGo_ok _ _ hk.1).1
      simp only [flat_append] at this
      rw [List.nodup_append] at this
      exact this.2.2 j.a (flat_mem.2 ⟨j, hj, .inl rfl⟩) j.a (by simp [flatJoins]) rfl
  unfold chk
  rw [t1, t2, t3, t4]; rfl

/-! longer elements, slower trains -/
theorem longer_elem {p : Plan} (h : chk p = 0) {k : Nat} {x : Elem} (hx : p.elems[k]? = some x) {n : Int} (hk : x.kind ≠ 4) (h1 : x.len ≤ n) (h2 : n ≤ 4000) :
    chk { p with elems := p.elems.set k { x with len := n } } = 0 := by
  obtain ⟨c1, c2, c3, c4, c5, c6, c7⟩ := chk_zero h
  have hkl : k < p.elems.length := (List.getElem?_eq_some_iff.1 hx).1
  have hset : ∀ {β : Type} (f : Elem → β), f { x with len := n } = f x → (p.elems.set k { x with len := n }).map f = p.elems.map f := by
    intro β f hf
    rw [List.map_set, hf]
    apply List.ext_getElem?
    intro i
    rw [List.getElem?_set]
    split
    · rename_i hi; subst hi; rw [List.getElem?_map, hx, if_pos (by simpa using hkl)]; rfl
    · rfl
  have ha : Alike { p with elems := p.elems.set k { x with len := n } } p := hset (·.kind) rfl
  have t1 : tooMuch { p with elems := p.elems.set k { x with len := n } } = false := by unfold tooMuch at c1 ⊢; simpa using c1
  have ex : elemOk x = true := by
    unfold argsOk at c2; simp only [Bool.and_eq_true] at c2
    exact List.all_eq_true.1 c2.2.1 x (List.mem_of_getElem? hx)
  have t2 : argsOk { p with elems := p.elems.set k { x with len := n } } = true := by
    unfold argsOk at c2 ⊢
    simp only [Bool.and_eq_true] at c2 ⊢
    refine ⟨?_, all_set c2.2.1 ?_, c2.2.2⟩
    · unfold numsOk at c2 ⊢; simpa using c2.1
    · unfold elemOk at ex ⊢
      simp only [hk, if_false, Bool.and_eq_true, decide_eq_true_eq] at ex ⊢
      exact ⟨ex.1, by omega, h2⟩
  have t3 : namesTwice { p with elems := p.elems.set k { x with len := n } } = false := by
    unfold namesTwice at c3 ⊢
    rw [hset (·.name) rfl]; exact c3
  have t4 := ha.joinedOk rfl
  have t5 := ha.signalsOk rfl rfl
  have t6 := ha.linesOk rfl rfl
  have hlen : ∀ i, p.length i ≤ Plan.length { p with elems := p.elems.set k { x with len := n } } i := by
    intro i
    unfold Plan.length Plan.elem
    split
    · simp only [List.getD, List.getElem?_set]
      split
      · rename_i hi; rw [← hi, hx]; simp [hkl]; exact h1
      · exact Int.le_refl _
    · exact Int.le_refl _
  have t7 : longOk { p with elems := p.elems.set k { x with len := n } } = true := by
    unfold longOk at c7 ⊢
    simp only [Bool.and_eq_true] at c7 ⊢
    refine ⟨c7.1, ?_, all_set c7.2.2 ?_⟩
    · rw [List.all_eq_true]
      intro s hs
      have := List.all_eq_true.1 c7.2.1 s hs
      have hl := hlen s.at_.e
      rw [ha.kind]
      simp only [Bool.not_eq_true', Bool.and_eq_false_iff, decide_eq_false_iff_not] at this ⊢
      rcases this with h3 | h3
      · exact .inl h3
      · right; show ¬ Plan.length _ s.at_.e < p.margin; omega
    · have := List.all_eq_true.1 c7.2.2 x (List.mem_of_getElem? hx)
      simp only [Bool.not_eq_true', Bool.and_eq_false_iff, decide_eq_false_iff_not] at this ⊢
      rcases this with h3 | h3
      · exact .inl h3
      · right; omega
  unfold chk
  rw [t1, t2, t3, t4, t5, t6, t7, c4, c5, c6]; rfl
theorem slower {p : Plan} (h : chk p = 0) {t b : Int} (h1 : 1 ≤ t) (h2 : t ≤ p.top) (h3 : p.brake ≤ b) (h4 : b ≤ 10) : chk { p with top := t, brake := b } = 0 := by
  obtain ⟨c1, c2, c3, c4, c5, c6, c7⟩ := chk_zero h
  have hn : numsOk p = true := by unfold argsOk at c2; simp only [Bool.and_eq_true] at c2; exact c2.1
  have hn' : 1 ≤ p.top ∧ p.top ≤ 60 ∧ 1 ≤ p.brake ∧ p.brake ≤ 10 := by
    unfold numsOk at hn; simp only [Bool.and_eq_true, decide_eq_true_eq] at hn; omega
  have ha : Alike { p with top := t, brake := b } p := rfl
  have t1 : tooMuch { p with top := t, brake := b } = false := c1
  have t2 : argsOk { p with top := t, brake := b } = true := by
    unfold argsOk at c2 ⊢
    simp only [Bool.and_eq_true] at c2 ⊢
    refine ⟨?_, c2.2⟩
    unfold numsOk at hn ⊢
    simp only [Bool.and_eq_true, decide_eq_true_eq] at hn ⊢
    omega
  have t4 := ha.joinedOk rfl
  have t5 := ha.signalsOk rfl rfl
  have t6 := ha.linesOk rfl rfl
  have t7 : longOk { p with top := t, brake := b } = true := by
    unfold longOk at c7 ⊢
    simp only [Bool.and_eq_true, decide_eq_true_eq] at c7 ⊢
    refine ⟨?_, c7.2.1, ?_⟩
    · have := c7.1
      have a1 := stop_mono (a := t) (a' := p.top) (b := b) (by omega) h2 (by omega) (by omega) h4
      have a2 := stop_anti (a := p.top) (b := p.brake) (b' := b) (by omega) (by omega) (by omega) h3 h4
      omega
    · rw [List.all_eq_true]
      intro e he
      have := List.all_eq_true.1 c7.2.2 e he
      simp only [Bool.not_eq_true', Bool.and_eq_false_iff, decide_eq_false_iff_not] at this ⊢
      rcases this with h3 | h3
      · exact .inl h3
      · right; omega
  unfold chk
  rw [t1, t2, show namesTwice { p with top := t, brake := b } = false from c3, t4, t5, t6, t7, c4, c5, c6]; rfl

end Go.Proofs.Ytlndfmflbdkpjaa
