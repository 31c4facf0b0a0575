/- Plain laws on plans: that package plan and semaphoreref6 say the same. No condition. -/
import Derived.Test.YtlndfmflbdkpjaaPlanDef
namespace Go.Proofs.Ytlndfmflbdkpjaa

theorem ends_zero {k : Int} : (ends k = 0) = ¬ (k = 1 ∨ k = 2 ∨ k = 3 ∨ k = 4) := by
  unfold ends; apply propext
  constructor
  · intro h hk; rcases hk with rfl | rfl | rfl | rfl <;> simp at h
  · intro h
    rw [if_neg (by omega), if_neg (by omega), if_neg (by omega), if_neg (by omega)]

theorem refNameGo_succ (l : List UInt8) : ∀ i, refNameGo (i + 1) l = l.all fun c => isLetter c || isDigit c := by
  induction l with
  | nil => intro i; rfl
  | cons c r ih => intro i; simp [refNameGo, ih]
theorem refName_eq (s : ByteArray) : refName s = nameOk s := by
  unfold refName nameOk nameList
  have hs : s.size = s.data.toList.length := (Array.length_toList).symm
  rw [hs]
  cases h : s.data.toList with
  | nil => simp [refNameGo]
  | cons c r =>
    simp only [refNameGo, refNameGo_succ, List.length_cons]
    simp only [ne_eq, not_true_eq_false, decide_false, Bool.false_and, Bool.or_false]
    rw [show decide (1 ≤ r.length + 1) = true by simp, show decide (r.length + 1 ≤ 8) = decide (r.length < 8) by simp; omega]
    cases isLetter c <;> cases (r.all fun c => isLetter c || isDigit c) <;> simp
theorem refElem_eq (e : Elem) : refElemOk e = elemOk e := by
  unfold refElemOk elemOk
  rw [refName_eq]
  by_cases h4 : e.kind = 4
  · cases nameOk e.name <;> simp [h4, ends]
  · cases nameOk e.name <;> simp [h4]

theorem dupGo_flat {p : Plan} : True := trivial

def refPorts (p : Plan) : List Port → List Port → Bool
  | _, [] => true
  | met, x :: r => isPort p x && !decide (x ∈ met) && refPorts p (met ++ [x]) r
theorem refPorts_eq (p : Plan) : ∀ (js : List Join) (met : List Port), refPorts p met (flatJoins js) = joinGo p met js := by
  intro js
  induction js with
  | nil => intro met; rfl
  | cons j r ih =>
    intro met
    simp only [flatJoins, refPorts, joinGo]
    rw [show met ++ [j.a] ++ [j.b] = met ++ [j.a, j.b] by simp, ih]
    have hm : decide (j.b ∈ met ++ [j.a]) = (decide (j.b ∈ met) || decide (j.a = j.b)) := by
      rw [Bool.eq_iff_iff]; simp only [List.mem_append, List.mem_singleton, decide_eq_true_eq, Bool.or_eq_true]; rw [eq_comm (a := j.a)]
    rw [hm]
    cases isPort p j.a <;> cases isPort p j.b <;> cases decide (j.a ∈ met) <;> cases decide (j.b ∈ met) <;> cases decide (j.a = j.b) <;> simp

/-! signals -/
theorem readsGo_neg (l : List Sig) (x : Port) : ∀ i : Nat, decide (readsGo i l x < 0) = !decide (x ∈ l.map (·.at_)) := by
  induction l with
  | nil => intro i; simp [readsGo]
  | cons s r ih =>
    intro i
    unfold readsGo
    by_cases h : s.at_ = x
    · rw [if_pos h]; subst h; simp
    · rw [if_neg h, ih]; simp [show ¬ x = s.at_ from fun e => h e.symm]
theorem readsGo_ge (l : List Sig) (x : Port) : ∀ i : Nat, readsGo i l x < 0 ∨ (i : Int) ≤ readsGo i l x := by
  induction l with
  | nil => intro i; left; simp [readsGo]
  | cons s r ih =>
    intro i
    unfold readsGo
    by_cases h : s.at_ = x
    · rw [if_pos h]; right; omega
    · rw [if_neg h]; rcases ih (i + 1) with h1 | h1
      · exact .inl h1
      · right; omega
theorem readsGo_mem {l : List Sig} {x : Port} (h : x ∈ l.map (·.at_)) : ∀ i : Nat, (i : Int) ≤ readsGo i l x ∧ readsGo i l x < i + l.length := by
  induction l with
  | nil => simp at h
  | cons s r ih =>
    intro i
    unfold readsGo
    by_cases hs : s.at_ = x
    · rw [if_pos hs]; simp; omega
    · rw [if_neg hs]
      have := ih ((List.mem_cons.1 h).resolve_left fun h => hs h.symm) (i + 1)
      simp only [List.length_cons]; omega
theorem readsGo_append (l r : List Sig) (x : Port) : ∀ i : Nat, readsGo i (l ++ r) x = if x ∈ l.map (·.at_) then readsGo i l x else readsGo (i + l.length) r x := by
  induction l with
  | nil => intro i; simp
  | cons s t ih =>
    intro i
    rw [List.cons_append, readsGo, readsGo]
    by_cases hs : s.at_ = x
    · rw [if_pos hs, if_pos (by simp [hs]), if_pos hs]
    · rw [if_neg hs, ih (i + 1), if_neg hs]
      by_cases hx : x ∈ t.map (·.at_)
      · rw [if_pos hx, if_pos (by simp only [List.map_cons, List.mem_cons]; exact .inr hx)]
      · rw [if_neg hx, if_neg (by simp only [List.map_cons, List.mem_cons, not_or]; exact ⟨fun e => hs e.symm, hx⟩)]
        rw [show i + 1 + t.length = i + (s :: t).length by simp; omega]
def refSigGo (p : Plan) : Nat → List Sig → Bool
  | _, [] => true
  | i, s :: r => sigOk p s.at_ && decide (reads p s.at_ = i) && refSigGo p (i + 1) r
theorem refSig_go (p : Plan) : ∀ (r l : List Sig), p.sigs = l ++ r → refSigGo p l.length r = sigGo p (l.map (·.at_)) r := by
  intro r
  induction r with
  | nil => intro l _; rfl
  | cons s r ih =>
    intro l h
    have hr : decide (reads p s.at_ = l.length) = !decide (s.at_ ∈ l.map (·.at_)) := by
      unfold reads
      rw [h, readsGo_append]
      by_cases hm : s.at_ ∈ l.map (·.at_)
      · rw [if_pos hm]
        have := readsGo_mem hm 0
        simp only [hm, decide_true, Bool.not_true, decide_eq_false_iff_not]
        simp at this
        omega
      · rw [if_neg hm]; simp [readsGo, hm]
    have := ih (l ++ [s]) (by simp [h])
    simp only [List.length_append, List.length_cons, List.length_nil, Nat.zero_add, List.map_append, List.map_cons, List.map_nil] at this
    simp only [refSigGo, sigGo, hr, this]
    cases sigOk p s.at_ <;> cases decide (s.at_ ∈ l.map (·.at_)) <;> simp
theorem refSig_eq (p : Plan) : refSigGo p 0 p.sigs = sigGo p [] p.sigs := by
  have := refSig_go p p.sigs [] rfl
  simpa using this
def refGateGo (p : Plan) : Nat → List Elem → Bool
  | _, [] => true
  | i, e :: r => !(decide (e.kind = 4) && decide (reads p ⟨i, 0⟩ < 0)) && refGateGo p (i + 1) r
theorem refGate_eq (p : Plan) : ∀ (r : List Elem) (i : Nat), refGateGo p i r = gateSigGo (p.sigs.map (·.at_)) i r := by
  intro r
  induction r with
  | nil => intro i; rfl
  | cons e r ih =>
    intro i
    simp only [refGateGo, gateSigGo, ih]
    have := readsGo_neg p.sigs ⟨i, 0⟩ 0
    unfold reads
    rw [this]
    by_cases h : e.kind = 4
    · simp [h]
    · simp [h]
def refSignals (p : Plan) : Bool := refSigGo p 0 p.sigs && refGateGo p 0 p.elems
theorem refSignals_eq (p : Plan) : refSignals p = signalsOk p := by unfold refSignals signalsOk; rw [refSig_eq, refGate_eq]

/-! lines -/
def metGo : List Int → List Int → Bool
  | _, [] => true
  | met, e :: r => !decide (e ∈ met) && metGo (met ++ [e]) r
theorem kind_inLine (p : Plan) (e : Int) : decide (p.kind e = 1) = inLine p e := by
  unfold inLine
  by_cases h0 : 0 ≤ e
  · by_cases h1 : e < p.elems.length
    · simp [h0, h1]
    · have : p.kind e = 0 := by
        unfold Plan.kind Plan.elem
        rw [if_pos h0]; simp only [List.getD, List.getElem?_eq_none (show p.elems.length ≤ e.toNat by omega)]; rfl
      simp [h1, this]
  · have : p.kind e = 0 := by
      unfold Plan.kind Plan.elem
      rw [if_neg h0]; rfl
    simp [h0, this]
theorem tracks_eq (p : Plan) : ∀ (l met : List Int), tracksGo p met l = (metGo met l && l.all fun e => decide (p.kind e = 1)) := by
  intro l
  induction l with
  | nil => intro met; rfl
  | cons e r ih =>
    intro met
    simp only [tracksGo, metGo, List.all_cons, ih, kind_inLine]
    cases inLine p e <;> cases decide (e ∈ met) <;> simp
def entersOk (p : Plan) (l : List Int) : Bool := decide (l ≠ []) && (l.all fun e => decide (p.kind e = 1)) && rowOk (nextOf p) l
def refLineGo (p : Plan) : List Int → List Line → Bool
  | _, [] => true
  | met, l :: r => metGo met l.elems && entersOk p l.elems && refLineGo p (met ++ l.elems) r
theorem refLine_eq (p : Plan) : ∀ (l : List Line) (met : List Int), refLineGo p met l = lineGo p met l := by
  intro l
  induction l with
  | nil => intro met; rfl
  | cons x r ih =>
    intro met
    simp only [refLineGo, lineGo, ih, tracks_eq, entersOk]
    cases decide (x.elems ≠ []) <;> cases metGo met x.elems <;> cases (x.elems.all fun e => decide (p.kind e = 1)) <;> simp

end Go.Proofs.Ytlndfmflbdkpjaa
