/- Plain facts: package late and semaphoreref35 answer alike. -/
import Derived.Test.YtkklnaejpgcgoaaLateSol
import Derived.Test.YtkklnaejpgcgoaaRefW5
import Derived.Test.YtkklnaejpgcgoaaRefW6
namespace Go.Proofs.Ytkklnaejpgcgoaa

def RefR (start : List Int) (l : List Wt) : List Int := (refOrder start.length l).getD []

theorem refR_ok {start : List Int} {l : List Wt} (h : lateCheck start l = 0) : refOrder start.length l = some (RefR start l) ∧ Topo start.length l (RefR start l) ∧ Shut start.length l (RefR start l) := by
  obtain ⟨z1, z2, z3, z4⟩ := lateCheck_zero h
  obtain ⟨R, h1, h2, h3⟩ := refOrder_ok (n := start.length) (l := l) (fun x hx => by have := z4 x hx; omega)
  have : RefR start l = R := by unfold RefR; rw [h1]; rfl
  rw [this]; exact ⟨h1, h2, h3⟩

theorem refOk (start : List Int) (l : List Wt) : RefOk start l (RefR start l) := by
  intro h
  obtain ⟨h1, h2, h3⟩ := refR_ok h
  have := topo_le h2
  have := (lateCheck_zero h).1
  exact ⟨h1, by omega, h2.mem⟩

theorem late_ok {start : List Int} {l : List Wt} (h : lateCheck start l = 0) : Topo start.length l (lateOrder start.length l) ∧ Shut start.length l (lateOrder start.length l) :=
  lateOrder_ok (fun x hx => by have := (lateCheck_zero h).2.2.2 x hx; omega)

theorem err_eq (start : List Int) (l : List Wt) : refErr start l (RefR start l) = solveErr start l := by
  unfold refErr solveErr
  by_cases h : lateCheck start l = 0
  · obtain ⟨h1, h2⟩ := late_ok h
    obtain ⟨_, h3, h4⟩ := refR_ok h
    rw [topo_len h1 h2 h3 h4]
  · rw [if_pos h, if_pos h]

theorem late_full {start : List Int} {l : List Wt} (h : solveErr start l = 0) : Full start.length l (lateOrder start.length l) := by
  obtain ⟨h1, h2⟩ := solveErr_zero h
  exact ⟨(late_ok h1).1, h2⟩
theorem ref_full {start : List Int} {l : List Wt} (h : solveErr start l = 0) : Full start.length l (RefR start l) := by
  rw [← err_eq] at h
  obtain ⟨h1, h2⟩ := refErr_zero h
  exact ⟨(refR_ok h1).2.1, h2⟩

theorem times_eq {start : List Int} {l : List Wt} (h : solveErr start l = 0) : timesRun l (RefR start l) start = timesOf start l := timesRun_same (ref_full h) (late_full h) rfl
theorem timesOf_sol {start : List Int} {l : List Wt} (h : solveErr start l = 0) : Sol start.length l start (timesOf start l) := timesRun_sol (late_full h) rfl

theorem delayErr_eq (start : List Int) (l : List Wt) (event byy : Int) : refDelayErr start l (RefR start l) event byy = delayErr start l event byy := by
  unfold refDelayErr delayErr; rw [err_eq]
theorem delayVal_eq' {start : List Int} {l : List Wt} (event byy : Int) (h : solveErr start l = 0) : refDelayVal start l (RefR start l) event byy = delayVal start l event byy := by
  unfold refDelayVal delayVal
  rw [times_eq h, timesRun_same (ref_full h) (late_full h) (by simp)]
theorem slackErr_eq (start : List Int) (l : List Wt) (due : List Int) : refSlackErr start l (RefR start l) due = slackErr start l due := by
  unfold refSlackErr slackErr; rw [err_eq]
theorem ends_ok {start : List Int} {l : List Wt} (h : solveErr start l = 0) : ∀ x ∈ l, 0 ≤ x.to ∧ x.to < start.length := fun x hx => by have := (lateCheck_zero (solveErr_zero h).1).2.2.2 x hx; omega
theorem slackVal_eq' {start : List Int} {l : List Wt} {due : List Int} (h : solveErr start l = 0) (hd : due.length = start.length) : refSlackVal start l (RefR start l) due = slackVal start l due := by
  unfold refSlackVal slackVal
  rw [times_eq h, slackRun_same (ends_ok h) (ref_full h) (late_full h) hd]

/-! Why. -/
theorem ahead_min {n : Nat} {t : List Int} {ev : Int} : ∀ (l : List Wt) (a m : Int), (∀ x ∈ l, 0 ≤ x.frm ∧ x.frm < n) → (a = -1 ∧ m = n) ∨ (0 ≤ a ∧ a < n ∧ m = a) →
    (l.foldl (aheadStep t ev) a = a ∧ l.foldl (minStep t ev) m = m ∧ ∀ x ∈ l, WhyHit t ev x → 0 ≤ a) ∨
    ∃ x ∈ l, WhyHit t ev x ∧ l.foldl (aheadStep t ev) a = x.frm ∧ l.foldl (minStep t ev) m = x.frm
  | [], _, _, _, _ => .inl ⟨rfl, rfl, by simp⟩
  | x :: r, a, m, hl, h => by
    obtain ⟨x0, x1⟩ := hl x (by simp)
    have hl' : ∀ y ∈ r, 0 ≤ y.frm ∧ y.frm < n := fun y hy => hl y (by simp [hy])
    rw [List.foldl_cons, List.foldl_cons]
    by_cases hx : WhyHit t ev x
    · by_cases hlt : a < 0 ∨ x.frm < a
      · have ha : aheadStep t ev a x = x.frm := by
          unfold aheadStep; rw [if_pos hx]
          by_cases h1 : a < 0
          · rw [if_pos h1]
          · rw [if_neg h1, if_pos (by omega)]
        have hm : minStep t ev m x = x.frm := by unfold minStep; rw [if_pos hx]; rcases h with ⟨h1, h2⟩ | ⟨h1, h2, h3⟩ <;> omega
        rw [ha, hm]
        rcases ahead_min r x.frm x.frm hl' (.inr ⟨x0, x1, rfl⟩) with ⟨g1, g2, _⟩ | ⟨y, hy, g⟩
        · exact .inr ⟨x, by simp, hx, g1, g2⟩
        · exact .inr ⟨y, by simp [hy], g⟩
      · have ha : aheadStep t ev a x = a := by unfold aheadStep; rw [if_pos hx, if_neg (by omega), if_neg (by omega)]
        have hm : minStep t ev m x = m := by unfold minStep; rw [if_pos hx]; rcases h with ⟨h1, h2⟩ | ⟨h1, h2, h3⟩ <;> omega
        rw [ha, hm]
        rcases ahead_min r a m hl' h with ⟨g1, g2, g3⟩ | ⟨y, hy, g⟩
        · exact .inl ⟨g1, g2, fun y _ _ => by omega⟩
        · exact .inr ⟨y, by simp [hy], g⟩
    · have ha : aheadStep t ev a x = a := by unfold aheadStep; rw [if_neg hx]
      have hm : minStep t ev m x = m := by unfold minStep; rw [if_neg hx]
      rw [ha, hm]
      rcases ahead_min r a m hl' h with ⟨g1, g2, g3⟩ | ⟨y, hy, g⟩
      · refine .inl ⟨g1, g2, fun y hy hyh => ?_⟩
        rcases List.mem_cons.1 hy with rfl | hy
        · exact absurd hyh hx
        · exact g3 y hy hyh
      · exact .inr ⟨y, by simp [hy], g⟩

/-- each element but the last comes a gap after the next one; the last at its start -/
def ChainOk (T start : List Int) (l : List Wt) : List Int → Prop
  | [] => False
  | [a] => at0 T a = at0 start a
  | a :: b :: r => (∃ x ∈ l, x.frm = b ∧ x.to = a ∧ at0 T a = at0 T b + x.gap) ∧ ChainOk T start l (b :: r)

structure WhyAt (n : Nat) (T start : List Int) (l : List Wt) (i : Int) (C : List Int) : Prop where
  late : ∀ (f : Nat) (out : List Int), C.length < f → whyRun T start l f i out = some (out ++ C)
  ref : ∀ (f : Nat) (out : List Int), C.length < f → refWhyRun n T start l f i out = some (C.reverse ++ out)
  chain : ChainOk T start l (i :: C)
  mem : ∀ e ∈ C, 0 ≤ e ∧ e < (n : Int)

theorem why_at {n : Nat} {l : List Wt} {o start T : List Int} (hl : ∀ x ∈ l, 0 ≤ x.frm ∧ x.frm < n) (hf : Full n l o) (hs : Sol n l start T) : ∀ (k : Nat) (i : Int), o[k]? = some i → ∃ C, C.length ≤ k ∧ WhyAt n T start l i C := by
  intro k
  induction k using Nat.strongRecOn with
  | _ k ih =>
    intro i hi
    obtain ⟨i0, i1⟩ := hf.topo.mem i (List.mem_of_getElem? hi)
    by_cases heq : at0 T i = at0 start i
    · refine ⟨[], Nat.zero_le _, ⟨fun f out hf => ?_, fun f out hf => ?_, heq, by simp⟩⟩
      · cases f with
        | zero => simp at hf
        | succ f => unfold whyRun; rw [if_pos heq]; simp
      · cases f with
        | zero => simp at hf
        | succ f => unfold refWhyRun; rw [if_pos heq]; simp
    · have hhit : ∃ x ∈ l, WhyHit T i x := by
        rcases hs.eq i i0 i1 with h | ⟨x, hx, hxt, h⟩
        · exact absurd h heq
        · exact ⟨x, hx, hxt, by rw [h]⟩
      rcases ahead_min (t := T) (ev := i) l (-1) n hl (.inl ⟨rfl, rfl⟩) with ⟨_, _, g⟩ | ⟨x, hx, hxh, g1, g2⟩
      · obtain ⟨x, hx, hxh⟩ := hhit
        have := g x hx hxh; omega
      · obtain ⟨x0, x1⟩ := hl x hx
        obtain ⟨j, hj, hje⟩ := mem_take_get (hf.topo.pre k i hi x hx hxh.1)
        obtain ⟨C, hC, hW⟩ := ih j hj _ hje
        have ga : ahead T l i = x.frm := g1
        have gm : minAhead n T l i = x.frm := g2
        refine ⟨x.frm :: C, by simp only [List.length_cons]; omega, ⟨fun f out hf => ?_, fun f out hf => ?_, ⟨⟨x, hx, rfl, hxh.1, hxh.2.symm⟩, hW.chain⟩, ?_⟩⟩
        · cases f with
          | zero => simp at hf
          | succ f =>
            unfold whyRun
            rw [if_neg heq, ga, if_neg (by omega), hW.late f _ (by simp at hf; omega)]
            simp
        · cases f with
          | zero => simp at hf
          | succ f =>
            unfold refWhyRun
            rw [if_neg heq, gm, if_neg (by omega), hW.ref f _ (by simp at hf; omega)]
            simp
        · intro e he
          rcases List.mem_cons.1 he with rfl | he
          · exact ⟨x0, x1⟩
          · exact hW.mem e he

theorem why_ex {start : List Int} {l : List Wt} {event : Int} (h : WhyYes start l event) : ∃ C, C.length ≤ 200 ∧ WhyAt start.length (timesOf start l) start l event C := by
  obtain ⟨h1, h2⟩ := h
  obtain ⟨e0, e1⟩ := offB_false h2
  have hf := late_full h1
  obtain ⟨k, hk⟩ := List.mem_iff_getElem?.1 (topo_all hf.topo hf.len (e := event) e0 (by omega))
  obtain ⟨C, hC, hW⟩ := why_at (fun x hx => by have := (lateCheck_zero (solveErr_zero h1).1).2.2.2 x hx; omega) hf (timesOf_sol h1) k event hk
  have hkl : k < (lateOrder start.length l).length := (List.getElem?_eq_some_iff.1 hk).1
  have := hf.len
  have := (lateCheck_zero (solveErr_zero h1).1).1
  exact ⟨C, by omega, hW⟩
end Go.Proofs.Ytkklnaejpgcgoaa
