/- Plain laws of the signals along a run. Condition: where said, the plan is valid. -/
import Derived.Test.YtackcfoplhhnbaaSightW2
namespace Go.Proofs.Ytackcfoplhhnbaa

theorem met_cons (p : Plan) (x : Port) (l : List Port) : metSigs p (x :: l) = (if 0 ≤ reads p x then [reads p x] else []) ++ metSigs p l := by
  unfold metSigs
  by_cases h : 0 ≤ reads p x <;> simp [h]
theorem met_append (p : Plan) (a b : List Port) : metSigs p (a ++ b) = metSigs p a ++ metSigs p b := by unfold metSigs; simp
theorem met_snoc {p : Plan} {l : List Port} {j : Nat} {x : Port} (h : l[j]? = some x) : metSigs p (l.take (j + 1)) = metSigs p (l.take j) ++ (if 0 ≤ reads p x then [reads p x] else []) := by
  rw [take_snoc_get h, met_append, met_cons]; simp [metSigs]
theorem met_len (p : Plan) (l : List Port) : (metSigs p l).length ≤ l.length := by
  unfold metSigs
  exact Nat.le_trans (List.length_filter_le _ _) (by simp)
theorem met_at {p : Plan} {l : List Port} {j : Nat} {x : Port} (h : l[j]? = some x) (hr : 0 ≤ reads p x) : (metSigs p l)[(metSigs p (l.take j)).length]? = some (reads p x) := by
  have hl : metSigs p l = metSigs p (l.take (j + 1)) ++ metSigs p (l.drop (j + 1)) := by rw [← met_append, List.take_append_drop]
  rw [hl, met_snoc h, if_pos hr, List.append_assoc]
  simp
theorem route_run (p : Plan) (pos : List Int) (h : Port) : route p pos h = metSigs p (h :: (runGo p pos (portsNo p).toNat h).1) := route_eq p pos _ h
/-- the first signal that is met -/
theorem aheadRun_head (p : Plan) : ∀ (l : List Port) (m : Int), (aheadRun p l m).map (·.1) = (metSigs p l).head? := by
  intro l
  induction l with
  | nil => intro m; rfl
  | cons x r ih =>
    intro m
    rw [met_cons, aheadRun]
    by_cases h : 0 ≤ reads p x
    · rw [if_pos h, if_pos h]; rfl
    · rw [if_neg h, if_neg h, ih]; rfl
theorem ahead_head (p : Plan) (pos : List Int) (h : Port) : (ahead p pos h).map (·.1) = (route p pos h).head? := by
  rw [ahead_eq, route_run, met_cons]
  unfold refAhead
  by_cases r : 0 ≤ reads p h
  · rw [if_pos r, if_pos r]; rfl
  · rw [if_neg r, if_neg r, aheadRun_head]; rfl
theorem aheadRun_pos {p : Plan} (hc : chk p = 0) : ∀ (l : List Port) (m : Int) (s k : Int), aheadRun p l m = some (s, k) → m ≤ k ∧ k ≤ m + 4000 * l.length := by
  intro l
  induction l with
  | nil => intro m s k h; exact absurd h (by simp [aheadRun])
  | cons x r ih =>
    intro m s k h
    have hb := len_bound hc x.e
    rw [aheadRun] at h
    simp only [List.length_cons]
    by_cases hr : 0 ≤ reads p x
    · rw [if_pos hr] at h; simp only [Option.some.injEq, Prod.mk.injEq] at h; omega
    · rw [if_neg hr] at h; have := ih _ _ _ h; omega
theorem ahead_pos {p : Plan} (hc : chk p = 0) {pos : List Int} {h : Port} {s k : Int} (ha : ahead p pos h = some (s, k)) : 0 ≤ k ∧ k ≤ 640000 := by
  rw [ahead_eq] at ha
  unfold refAhead at ha
  by_cases r : 0 ≤ reads p h
  · rw [if_pos r] at ha; simp only [Option.some.injEq, Prod.mk.injEq] at ha; omega
  · rw [if_neg r] at ha
    have h1 := aheadRun_pos hc _ _ _ _ ha
    have h2 := (run_len p pos (portsNo p).toNat h).1
    have h3 := ports_bound hc
    omega
/-- one step on -/
theorem ahead_read {p : Plan} {pos : List Int} {h : Port} (r : 0 ≤ reads p h) : ahead p pos h = some (reads p h, 0) := by
  unfold ahead; exact ahead_hit r
theorem ahead_stuck {p : Plan} {pos : List Int} {h : Port} (r : ¬ 0 ≤ reads p h) (e : (step p pos h).2 ≠ 0) : ahead p pos h = none := by
  unfold ahead; exact ahead_end r e
theorem aheadGo_more {p : Plan} {pos : List Int} : ∀ (k : Nat) (h : Port) (m : Int) (q : Int × Int), aheadGo p pos k h m = some q → aheadGo p pos (k + 1) h m = some q := by
  intro k
  induction k with
  | zero =>
    intro h m q e
    by_cases r : 0 ≤ reads p h
    · rw [ahead_hit r] at e ⊢; exact e
    · rw [ahead_stop r] at e; exact absurd e (by simp)
  | succ k ih =>
    intro h m q e
    by_cases r : 0 ≤ reads p h
    · rw [ahead_hit r] at e ⊢; exact e
    · by_cases s : (step p pos h).2 = 0
      · rw [ahead_go1 r s] at e ⊢; exact ih _ _ _ e
      · rw [ahead_end r s] at e; exact absurd e (by simp)
theorem aheadGo_shift {p : Plan} {pos : List Int} (d : Int) : ∀ (k : Nat) (h : Port) (m : Int), aheadGo p pos k h (m + d) = (aheadGo p pos k h m).map fun q => (q.1, q.2 + d) := by
  intro k
  induction k with
  | zero =>
    intro h m
    by_cases r : 0 ≤ reads p h
    · rw [ahead_hit r, ahead_hit r]; rfl
    · rw [ahead_stop r, ahead_stop r]; rfl
  | succ k ih =>
    intro h m
    by_cases r : 0 ≤ reads p h
    · rw [ahead_hit r, ahead_hit r]; rfl
    · by_cases s : (step p pos h).2 = 0
      · rw [ahead_go1 r s, ahead_go1 r s, show m + d + p.length (step p pos h).1.e = m + p.length (step p pos h).1.e + d by omega, ih]
      · rw [ahead_end r s, ahead_end r s]; rfl
theorem ahead_on {p : Plan} {pos : List Int} {h x : Port} (r : ¬ 0 ≤ reads p h) (hs : step p pos h = (x, 0)) {s m : Int} (ha : ahead p pos h = some (s, m)) : ahead p pos x = some (s, m - p.length x.e) := by
  unfold ahead at ha ⊢
  generalize (portsNo p).toNat = k at ha ⊢
  have e0 : (step p pos h).2 = 0 := by rw [hs]
  cases k with
  | zero => rw [ahead_stop r] at ha; exact absurd ha (by simp)
  | succ k =>
    rw [ahead_go1 r e0, hs, aheadGo_shift (p.length x.e)] at ha
    cases h1 : aheadGo p pos k x 0 with
    | none => rw [h1] at ha; exact absurd ha (by simp)
    | some q =>
      rw [h1] at ha
      simp only [Option.map_some, Option.some.injEq, Prod.mk.injEq] at ha
      rw [aheadGo_more _ _ _ _ h1, ← ha.1, ← ha.2]
      congr 1
      ext <;> simp
/-- a loop bears its margin -/
theorem berth_long {p : Plan} (hc : chk p = 0) {s : Sig} (hm : s ∈ p.sigs) (hk : p.kind s.at_.e = 1) : p.margin ≤ p.length s.at_.e := by
  obtain ⟨_, _, _, _, _, _, h7⟩ := chk_zero hc
  unfold longOk at h7
  simp only [Bool.and_eq_true] at h7
  have := (List.all_eq_true.1 h7.2.1) s hm
  simp [hk] at this
  exact this
end Go.Proofs.Ytackcfoplhhnbaa
