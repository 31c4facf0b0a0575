/- Plain facts on late.check and late.order. -/
import Derived.Test.YtkklnaejpgcgoaaLateDef
namespace Go.Proofs.Ytkklnaejpgcgoaa

def solveErr (start : List Int) (l : List Wt) : Int :=
  if lateCheck start l ≠ 0 then lateCheck start l else if (lateOrder start.length l).length = start.length then 0 else 19

theorem offB_false {n m : Int} (h : offB n m = false) : 0 ≤ n ∧ n ≤ m := by
  unfold offB at h; simp at h; omega

theorem lateCheck_zero {start : List Int} {l : List Wt} (h : lateCheck start l = 0) :
    start.length ≤ 200 ∧ l.length ≤ 1000 ∧ (∀ t ∈ start, 0 ≤ t ∧ t ≤ 100000) ∧ ∀ x ∈ l, 0 ≤ x.frm ∧ x.frm < start.length ∧ 0 ≤ x.to ∧ x.to < start.length ∧ 0 ≤ x.gap ∧ x.gap ≤ 100000 := by
  unfold lateCheck at h
  split at h
  · cases h
  rename_i h1
  split at h
  · cases h
  rename_i h2
  split at h
  · cases h
  rename_i h3
  simp only [Bool.or_eq_true, List.any_eq_true, not_or, not_exists, not_and, Bool.not_eq_true] at h2 h3
  refine ⟨by omega, by omega, fun t ht => offB_false (h2.1 t ht), fun x hx => ?_⟩
  have g1 := offB_false (h2.2 x hx)
  obtain ⟨g2, g3⟩ := h3 x hx
  have g2 := offB_false g2
  have g3 := offB_false g3
  omega

theorem lateCheck_cases (start : List Int) (l : List Wt) : lateCheck start l = 3 ∨ lateCheck start l = 1 ∨ lateCheck start l = 10 ∨ lateCheck start l = 0 := by
  unfold lateCheck
  split
  · simp
  · split
    · simp
    · split <;> simp

theorem ordPass_mem {l : List Wt} {es : List Nat} : ∀ {s : List Bool × List Int × Bool} {e : Int}, e ∈ (ordPass l es s).2.1 → e ∈ s.2.1 ∨ ∃ k ∈ es, e = (k : Int) := by
  induction es with
  | nil => intro s e h; exact .inl h
  | cons k r ih =>
    intro s e h
    rw [ordPass_cons] at h
    rcases ih h with h | ⟨j, hj, rfl⟩
    · unfold ordStep at h
      split at h
      · exact .inl h
      · simp only [List.mem_append, List.mem_singleton] at h
        rcases h with h | h
        · exact .inl h
        · exact .inr ⟨k, by simp, h⟩
    · exact .inr ⟨j, by simp [hj], rfl⟩

theorem ordRun_mem {n : Nat} {l : List Wt} : ∀ {f : Nat} {ds : List Bool} {outs : List Int}, (∀ e ∈ outs, 0 ≤ e ∧ e < (n : Int)) → ∀ e ∈ ordRun n l f (ds, outs), 0 ≤ e ∧ e < (n : Int) := by
  intro f
  induction f with
  | zero => intro ds outs h e he; exact h e he
  | succ f ih =>
    intro ds outs h e he
    rw [ordRun_succ] at he
    have hp : ∀ e ∈ (ordPass l (List.range n) (ds, outs, false)).2.1, 0 ≤ e ∧ e < (n : Int) := by
      intro e he
      rcases ordPass_mem he with h1 | ⟨k, hk, rfl⟩
      · exact h e h1
      · have := List.mem_range.1 hk; omega
    split at he
    · exact ih hp e he
    · exact hp e he

theorem lateOrder_mem {n : Nat} {l : List Wt} : ∀ e ∈ lateOrder n l, 0 ≤ e ∧ e < (n : Int) := ordRun_mem (by simp)

theorem timesRun_length (l : List Wt) : ∀ (o : List Int) (out : List Int), (timesRun l o out).length = out.length := by
  have h1 : ∀ (e : Int) (l : List Wt) (out : List Int), (l.foldl (timeStep e) out).length = out.length := by
    intro e l
    induction l with
    | nil => intro out; rfl
    | cons x r ih =>
      intro out; rw [List.foldl_cons, ih]; unfold timeStep; split <;> simp
  intro o
  induction o with
  | nil => intro out; rfl
  | cons e r ih => intro out; show (timesRun l r _).length = _; rw [ih, h1]

/-- what a row of numbers is bounded by -/
def Bd2 (xs : List Int) (A B : Int) : Prop := ∀ x ∈ xs, A ≤ x ∧ x ≤ B
theorem bd2_at {xs : List Int} {A B : Int} (h : Bd2 xs A B) {i : Int} (h0 : 0 ≤ i) (h1 : i < xs.length) : A ≤ at0 xs i ∧ at0 xs i ≤ B := by
  have hi : i.toNat < xs.length := by omega
  have := h (xs[i.toNat]) (List.getElem_mem hi)
  unfold at0; simpa [List.getD, List.getElem?_eq_getElem hi] using this
theorem bd2_set {xs : List Int} {A B A' B' : Int} (h : Bd2 xs A B) (hA : A' ≤ A) (hB : B ≤ B') {u : Int} (hu : A' ≤ u ∧ u ≤ B') (i : Nat) : Bd2 (xs.set i u) A' B' := by
  intro x hx
  rcases List.mem_or_eq_of_mem_set hx with h1 | h1
  · have := h x h1; omega
  · omega
theorem bd2_mono {xs : List Int} {A B A' B' : Int} (h : Bd2 xs A B) (hA : A' ≤ A) (hB : B ≤ B') : Bd2 xs A' B' := fun x hx => by have := h x hx; omega

/-- what late.times asks of the waits and the order -/
structure TimesOk (n : Nat) (l : List Wt) (o : List Int) : Prop where
  ends : ∀ x ∈ l, 0 ≤ x.frm ∧ x.frm < n ∧ 0 ≤ x.to ∧ x.to < n ∧ 0 ≤ x.gap ∧ x.gap ≤ 100000
  ord : ∀ e ∈ o, 0 ≤ e ∧ e < (n : Int)

theorem timeStep_length (e : Int) (out : List Int) (x : Wt) : (timeStep e out x).length = out.length := by unfold timeStep; split <;> simp

theorem fold_timeStep_bd {e : Int} {n : Nat} : ∀ (l : List Wt) (out : List Int) (B : Int), (∀ x ∈ l, 0 ≤ x.frm ∧ x.frm < n ∧ 0 ≤ x.to ∧ x.to < n ∧ 0 ≤ x.gap ∧ x.gap ≤ 100000) → 0 ≤ B → out.length = n → Bd2 out 0 B →
    Bd2 (l.foldl (timeStep e) out) 0 (B + 100000 * l.length) ∧ (l.foldl (timeStep e) out).length = n := by
  intro l
  induction l with
  | nil => intro out B _ _ hn h; exact ⟨bd2_mono h (by omega) (by simp), hn⟩
  | cons x r ih =>
    intro out B hx hB hn h
    obtain ⟨x1, x2, x3, x4, x5, x6⟩ := hx x (by simp)
    have h1 : Bd2 (timeStep e out x) 0 (B + 100000) := by
      unfold timeStep
      split
      · rename_i he
        have g1 := bd2_at h (i := e) (by omega) (by omega)
        have g2 := bd2_at h (i := x.frm) (by omega) (by omega)
        exact bd2_set h (by omega) (by omega) (by omega) _
      · exact bd2_mono h (by omega) (by omega)
    have := ih (timeStep e out x) (B + 100000) (fun y hy => hx y (by simp [hy])) (by omega) (by rw [timeStep_length]; exact hn) h1
    rw [List.foldl_cons]
    refine ⟨bd2_mono this.1 (by omega) (by simp only [List.length_cons]; omega), this.2⟩

theorem timesRun_bd {n : Nat} {l : List Wt} (hl : ∀ x ∈ l, 0 ≤ x.frm ∧ x.frm < n ∧ 0 ≤ x.to ∧ x.to < n ∧ 0 ≤ x.gap ∧ x.gap ≤ 100000) (hl1 : l.length ≤ 1000) : ∀ (o : List Int) (out : List Int) (B : Int), 0 ≤ B → out.length = n → Bd2 out 0 B →
    Bd2 (timesRun l o out) 0 (B + 100000000 * o.length) := by
  intro o
  induction o with
  | nil => intro out B _ _ h; exact bd2_mono h (by omega) (by simp)
  | cons e r ih =>
    intro out B hB hn h
    obtain ⟨h1, h2⟩ := fold_timeStep_bd (e := e) l out B hl hB hn h
    have := ih (l.foldl (timeStep e) out) (B + 100000 * l.length) (by omega) h2 h1
    exact bd2_mono (xs := timesRun l (e :: r) out) this (by omega) (by simp only [List.length_cons]; omega)

theorem subStep_length (t out : List Int) (i : Nat) : (subStep t out i).length = out.length := by simp [subStep]
end Go.Proofs.Ytkklnaejpgcgoaa
