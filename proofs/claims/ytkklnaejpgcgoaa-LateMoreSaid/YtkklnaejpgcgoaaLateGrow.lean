/- Plain facts: how the times grow (delay, one more wait, a later start), and what fits. -/
import Derived.Test.YtkklnaejpgcgoaaLateAgree
namespace Go.Proofs.Ytkklnaejpgcgoaa

theorem subStep_at (t out : List Int) (i : Nat) (hi : i < out.length) (j : Int) (hj : 0 ≤ j) : at0 (subStep t out i) j = if j = i then at0 out i - at0 t i else at0 out j := by
  have := at0_set out (i := (i : Int)) (j := j) (at0 out i - at0 t i) (by omega) (by omega) hj
  rwa [Int.toNat_natCast] at this

theorem subFold_at (t : List Int) : ∀ (is : List Nat) (out : List Int), is.Nodup → (∀ i ∈ is, i < out.length) → ∀ j : Int, 0 ≤ j →
    at0 (is.foldl (subStep t) out) j = if j.toNat ∈ is then at0 out j - at0 t j else at0 out j
  | [], out, _, _, j, _ => by simp
  | i :: r, out, hn, hl, j, hj => by
    rw [List.foldl_cons, subFold_at t r (subStep t out i) (List.nodup_cons.1 hn).2 (fun k hk => by rw [subStep_length]; exact hl k (List.mem_cons_of_mem _ hk)) j hj,
      subStep_at t out i (hl i (List.mem_cons_self ..)) j hj]
    have hni := (List.nodup_cons.1 hn).1
    by_cases h : j = (i : Int)
    · subst h
      simp [hni]
    · have h2 : ¬ j.toNat = i := by omega
      simp [h, h2]

theorem subRun_at (t out : List Int) (j : Int) (h0 : 0 ≤ j) (h1 : j < out.length) : at0 (subRun t out) j = at0 out j - at0 t j := by
  unfold subRun
  rw [subFold_at t _ out List.nodup_range (fun i hi => List.mem_range.1 hi) j h0, if_pos (List.mem_range.2 (by omega))]

theorem subFold_length (t : List Int) : ∀ (is : List Nat) (out : List Int), (is.foldl (subStep t) out).length = out.length
  | [], _ => rfl
  | i :: r, out => by rw [List.foldl_cons, subFold_length t r, subStep_length]
theorem delayVal_length (start : List Int) (l : List Wt) (event byy : Int) : (delayVal start l event byy).length = start.length := by
  unfold delayVal subRun; rw [subFold_length, timesRun_length]; simp

theorem delayErr_zero {start : List Int} {l : List Wt} {event byy : Int} (h : delayErr start l event byy = 0) : solveErr start l = 0 ∧ 0 ≤ event ∧ event < start.length ∧ 0 ≤ byy ∧ byy ≤ 100000 := by
  unfold delayErr at h
  by_cases hs : solveErr start l = 0
  · rw [if_neg (by simpa using hs)] at h
    by_cases h1 : offB event (start.length - 1) = true
    · rw [if_pos h1] at h; simp at h
    · rw [if_neg h1] at h
      have g1 := offB_false (by simpa using h1)
      by_cases h2 : offB byy 100000 = true
      · rw [if_pos h2] at h; simp at h
      · have g2 := offB_false (by simpa using h2)
        exact ⟨hs, by omega⟩
  · rw [if_pos hs] at h; exact absurd h hs
theorem delayErr_ok {start : List Int} {l : List Wt} {event byy : Int} (hs : solveErr start l = 0) (e0 : 0 ≤ event) (e1 : event < start.length) (b0 : 0 ≤ byy) (b1 : byy ≤ 100000) : delayErr start l event byy = 0 := by
  unfold delayErr
  rw [if_neg (by simpa using hs), if_neg (by unfold offB; simp; omega), if_neg (by unfold offB; simp; omega)]

/-- the start that a delay tries -/
def dStart (start : List Int) (l : List Wt) (event byy : Int) : List Int := start.set event.toNat (at0 (timesOf start l) event + byy)
/-- and the times then -/
def dTimes (start : List Int) (l : List Wt) (event byy : Int) : List Int := timesRun l (lateOrder start.length l) (dStart start l event byy)

theorem dTimes_sol {start : List Int} {l : List Wt} (event byy : Int) (hs : solveErr start l = 0) : Sol start.length l (dStart start l event byy) (dTimes start l event byy) :=
  timesRun_sol (late_full hs) (by simp [dStart])
theorem dStart_at {start : List Int} {l : List Wt} {event byy : Int} (e0 : 0 ≤ event) (e1 : event < start.length) (i : Int) (i0 : 0 ≤ i) : at0 (dStart start l event byy) i = if i = event then at0 (timesOf start l) event + byy else at0 start i :=
  at0_set start _ e0 e1 i0
theorem delayVal_at {start : List Int} {l : List Wt} (event byy : Int) (i : Int) (i0 : 0 ≤ i) (i1 : i < start.length) : at0 (delayVal start l event byy) i = at0 (dTimes start l event byy) i - at0 (timesOf start l) i := by
  unfold delayVal
  rw [subRun_at _ _ i i0 (by rw [timesRun_length]; simpa using i1)]
  rfl

theorem dTimes_ge {start : List Int} {l : List Wt} {event byy : Int} (h : delayErr start l event byy = 0) (i : Int) (i0 : 0 ≤ i) (i1 : i < start.length) : at0 (timesOf start l) i ≤ at0 (dTimes start l event byy) i := by
  obtain ⟨hs, e0, e1, b0, b1⟩ := delayErr_zero h
  refine sol_le (late_full hs) (timesOf_sol hs) (dTimes_sol event byy hs) (fun _ hx => hx) (fun i i0 i1 => ?_) i i0 i1
  rw [dStart_at e0 e1 i i0]
  have := (timesOf_sol hs).ge i i0 i1
  split
  · rename_i he; subst he; omega
  · omega

theorem dTimes_le {start : List Int} {l : List Wt} {event byy : Int} (h : delayErr start l event byy = 0) : ∀ (i : Int), 0 ≤ i → i < start.length → at0 (dTimes start l event byy) i ≤ at0 (timesOf start l) i + byy := by
  obtain ⟨hs, e0, e1, b0, b1⟩ := delayErr_zero h
  refine (late_full hs).ind (fun i i0 i1 ih => ?_)
  have ht := timesOf_sol hs
  rcases (dTimes_sol event byy hs).eq i i0 i1 with h1 | ⟨x, hx, hxt, h1⟩
  · rw [dStart_at e0 e1 i i0] at h1
    have := ht.ge i i0 i1
    split at h1
    · rename_i he; subst he; omega
    · omega
  · have := (ih x hx hxt).2
    have := ht.wt i i0 i1 x hx hxt
    omega

theorem delay_range {start : List Int} {l : List Wt} {event byy : Int} (h : delayErr start l event byy = 0) (i : Int) (i0 : 0 ≤ i) (i1 : i < start.length) : 0 ≤ at0 (delayVal start l event byy) i ∧ at0 (delayVal start l event byy) i ≤ byy := by
  rw [delayVal_at event byy i i0 i1]
  have := dTimes_ge h i i0 i1
  have := dTimes_le h i i0 i1
  omega

theorem delay_self {start : List Int} {l : List Wt} {event byy : Int} (h : delayErr start l event byy = 0) : at0 (delayVal start l event byy) event = byy := by
  obtain ⟨hs, e0, e1, b0, b1⟩ := delayErr_zero h
  rw [delayVal_at event byy event e0 e1]
  have := dTimes_le h event e0 e1
  have h2 := (dTimes_sol event byy hs).ge event e0 e1
  rw [dStart_at e0 e1 event e0, if_pos rfl] at h2
  omega

theorem delay_mono {start : List Int} {l : List Wt} {event byy more : Int} (h : delayErr start l event byy = 0) (hm : byy ≤ more) (i : Int) (i0 : 0 ≤ i) (i1 : i < start.length) : at0 (delayVal start l event byy) i ≤ at0 (delayVal start l event more) i := by
  obtain ⟨hs, e0, e1, b0, b1⟩ := delayErr_zero h
  rw [delayVal_at event byy i i0 i1, delayVal_at event more i i0 i1]
  have := sol_le (late_full hs) (dTimes_sol event byy hs) (dTimes_sol event more hs) (fun _ hx => hx) (fun i i0 i1 => by
    rw [dStart_at e0 e1 i i0, dStart_at e0 e1 i i0]
    split <;> omega) i i0 i1
  omega

/-- what fits: with every slack at least 0, the delay keeps all dues exactly if it is no more than the event's slack -/
theorem delay_fits {start due : List Int} {l : List Wt} {event byy : Int} (h : delayErr start l event byy = 0) (hd : due.length = start.length)
    (hp : ∀ i : Int, 0 ≤ i → i < start.length → 0 ≤ at0 (slackVal start l due) i) :
    (∀ i : Int, 0 ≤ i → i < start.length → at0 (timesOf start l) i + at0 (delayVal start l event byy) i ≤ at0 due i) ↔ byy ≤ at0 (slackVal start l due) event := by
  obtain ⟨hs, e0, e1, b0, b1⟩ := delayErr_zero h
  have hz := (lateCheck_zero (solveErr_zero hs).1).2.2.2
  have hL : LastSol start.length l due (slackRun l (lateOrder start.length l) due) := slackRun_sol (fun x hx => by have := hz x hx; omega) (late_full hs) hd
  have hsl : ∀ i : Int, 0 ≤ i → i < start.length → at0 (slackVal start l due) i = at0 (slackRun l (lateOrder start.length l) due) i - at0 (timesOf start l) i := fun i i0 i1 => by
    unfold slackVal; exact subRun_at _ _ i i0 (by rw [slackRun_length]; omega)
  have hS := dTimes_sol event byy hs
  have hT := timesOf_sol hs
  generalize slackRun l (lateOrder start.length l) due = L at hL hsl
  rw [hsl event e0 e1]
  constructor
  · intro hall
    have hall2 : ∀ i : Int, 0 ≤ i → i < start.length → at0 (dTimes start l event byy) i ≤ at0 due i := fun i i0 i1 => by
      have := hall i i0 i1; rw [delayVal_at event byy i i0 i1] at this; omega
    have key : ∀ i : Int, 0 ≤ i → i < start.length → at0 (dTimes start l event byy) i ≤ at0 L i := by
      refine (full_rev (fun x hx => by have := hz x hx; omega) (late_full hs)).ind (fun i i0 i1 ih => ?_)
      rcases hL.eq i i0 i1 with h1 | ⟨x, hx, hxf, h1⟩
      · have := hall2 i i0 i1; omega
      · have hxz := hz x hx
        have g := (ih x.rev (List.mem_map_of_mem hx) hxf).2
        have g2 := hS.wt x.to (by omega) (by omega) x hx rfl
        have g' : at0 (dTimes start l event byy) x.to ≤ at0 L x.to := g
        rw [hxf] at g2
        omega
    have h1 := key event e0 e1
    have h2 := hS.ge event e0 e1
    rw [dStart_at e0 e1 event e0, if_pos rfl] at h2
    omega
  · intro hb i i0 i1
    rw [delayVal_at event byy i i0 i1]
    have key : ∀ i : Int, 0 ≤ i → i < start.length → at0 (dTimes start l event byy) i ≤ at0 L i := by
      refine (late_full hs).ind (fun i i0 i1 ih => ?_)
      rcases hS.eq i i0 i1 with h1 | ⟨x, hx, hxt, h1⟩
      · rw [dStart_at e0 e1 i i0] at h1
        split at h1
        · rename_i he; subst he; omega
        · have := hT.ge i i0 i1
          have h3 := hp i i0 i1
          rw [hsl i i0 i1] at h3
          omega
      · have hxz := hz x hx
        have g := (ih x hx hxt).2
        have g2 := hL.wt x.frm (by omega) (by omega) x hx rfl
        rw [hxt] at g2
        omega
    have := key i i0 i1
    have := hL.le i i0 i1
    omega

/-- one more wait -/
theorem lateCheck_snoc {start : List Int} {l : List Wt} {x : Wt} (h : lateCheck start (l ++ [x]) = 0) : lateCheck start l = 0 := by
  unfold lateCheck at h ⊢
  simp only [List.length_append, List.length_cons, List.length_nil, List.any_append] at h
  split at h
  · simp at h
  · split at h
    · simp at h
    · split at h
      · simp at h
      · rename_i h1 h2 h3
        simp at h2 h3
        rw [if_neg (by omega), if_neg (by simp; exact ⟨h2.1, h2.2.1⟩), if_neg (by simp; exact h3.1)]

theorem solveErr_snoc {start : List Int} {l : List Wt} {x : Wt} (h : solveErr start (l ++ [x]) = 0) : solveErr start l = 0 := by
  obtain ⟨h1, h2⟩ := solveErr_zero h
  have h3 := lateCheck_snoc h1
  obtain ⟨g1, g2⟩ := late_ok h1
  obtain ⟨g3, g4⟩ := late_ok h3
  have ht : Topo start.length l (lateOrder start.length (l ++ [x])) := ⟨g1.nodup, g1.mem, fun k e he y hy hyt => g1.pre k e he y (List.mem_append_left _ hy) hyt⟩
  have hle := nodup_le ht.nodup (topo_sub ht g4)
  have := topo_le g3
  unfold solveErr
  have he : (lateOrder start.length l).length = start.length := by omega
  simp [h3, he]

theorem times_snoc {start : List Int} {l : List Wt} {x : Wt} (h : solveErr start (l ++ [x]) = 0) (i : Int) (i0 : 0 ≤ i) (i1 : i < start.length) : at0 (timesOf start l) i ≤ at0 (timesOf start (l ++ [x])) i := by
  have h2 := solveErr_snoc h
  exact sol_le (late_full h2) (timesOf_sol h2) (timesOf_sol h) (fun _ hx => List.mem_append_left _ hx) (fun _ _ _ => Int.le_refl _) i i0 i1

/-- a later start -/
theorem solveErr_later {start start' : List Int} {l : List Wt} (hl : start'.length = start.length) (hs : solveErr start l = 0) : solveErr start' l = 0 ∨ solveErr start' l = 1 := by
  obtain ⟨h1, h2⟩ := solveErr_zero hs
  have hc : lateCheck start' l = 0 ∨ lateCheck start' l = 1 := by
    unfold lateCheck at h1 ⊢
    rw [hl]
    split at h1
    · simp at h1
    · rename_i g1
      rw [if_neg g1]
      split at h1
      · simp at h1
      · split at h1
        · simp at h1
        · rename_i g3
          split
          · exact .inr rfl
          · exact .inl rfl
  unfold solveErr
  rw [hl]
  rcases hc with h | h
  · simp [h, h2]
  · simp [h]

theorem times_later {start start' : List Int} {l : List Wt} (hl : start'.length = start.length) (hs : solveErr start l = 0) (hs' : solveErr start' l = 0)
    (hle : ∀ i : Int, 0 ≤ i → i < start.length → at0 start i ≤ at0 start' i) (i : Int) (i0 : 0 ≤ i) (i1 : i < start.length) : at0 (timesOf start l) i ≤ at0 (timesOf start' l) i := by
  have h' := timesOf_sol hs'
  rw [hl] at h'
  exact sol_le (late_full hs) (timesOf_sol hs) h' (fun _ hx => hx) hle i i0 i1

/-- too long -/
theorem solveErr_long (start : List Int) (l : List Wt) : (solveErr start l == 3) = decide (200 < start.length ∨ 1000 < l.length) := by
  rw [Bool.eq_iff_iff, beq_iff_eq, decide_eq_true_eq]
  unfold solveErr
  by_cases h : 200 < start.length ∨ 1000 < l.length
  · have h3 : lateCheck start l = 3 := by unfold lateCheck; rw [if_pos h]
    rw [if_pos (by omega), h3]; simpa using h
  · have h3 : lateCheck start l ≠ 3 := by
      unfold lateCheck; rw [if_neg h]
      repeat' split
      all_goals simp
    constructor
    · intro g
      split at g
      · exact absurd g h3
      · split at g <;> simp at g
    · intro g; exact absurd g h
end Go.Proofs.Ytkklnaejpgcgoaa
