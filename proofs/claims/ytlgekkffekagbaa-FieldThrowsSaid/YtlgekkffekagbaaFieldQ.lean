/- What two commands make of a field: for FieldThrows. No condition. -/
import Derived.Test.YtlgekkffekagbaaFieldP
namespace Go.Proofs.Ytlgekkffekagbaa

def Slow (f : Fld) (m : Int) : Prop := ∀ i : Nat, (f.pt i).stick = false ∧ (f.pt i).left ≤ m
theorem slow_new (p : Plan) : Slow (newFld p) 0 := by
  intro i
  rcases Nat.lt_or_ge i 40 with h | h
  · rw [newFld_pt h]; have := newPt_ok p i; exact ⟨this.2.2.2.2.1, by omega⟩
  · rw [pt_out (by rw [(newFld_ok p).len.1]; exact h)]; exact ⟨rfl, by simp [zeroPt]⟩
theorem slow_cmd {p : Plan} {f : Fld} (h : Slow f 0) (ht : 0 ≤ p.throw) (l : List Int) : Slow (f.command p l) p.throw := by
  intro i
  have hi := h i
  rcases Nat.lt_or_ge i f.pts.length with hl | hl
  · rw [command_pt hl]
    split
    · unfold cmdAt cmdPt
      split
      · split
        · exact ⟨hi.1, by omega⟩
        · exact ⟨hi.1, by dsimp only; omega⟩
      · exact ⟨hi.1, by omega⟩
    · exact ⟨hi.1, by omega⟩
  · have key : ∀ (l : List Int) (k : Nat) (g : Fld), (g.cmdGo p k l).pts.length = g.pts.length := by
      intro l
      induction l with
      | nil => intro k g; rfl
      | cons t r ih => intro k g; unfold Fld.cmdGo; rw [ih, cmd1_len]
    have hk : (f.command p l).pts.length ≤ i := by unfold Fld.command; rw [key]; exact hl
    rw [pt_out hk]
    exact ⟨rfl, by simp [zeroPt]; exact ht⟩
theorem slow_tick {p : Plan} {f : Fld} {m : Int} (ho : FldOk p f) (h : Slow f m) (hm : 1 ≤ m) : Slow f.tick (m - 1) := by
  intro i
  rw [tick_pt]
  have hi := h i
  have h0 := ho.pt i
  unfold tickPt
  split
  · rename_i hc
    refine ⟨hi.1, ?_⟩
    rcases hc with hc | hc
    · omega
    · rw [hi.1] at hc; cases hc
  · split
    · exact ⟨hi.1, by dsimp only; omega⟩
    · exact ⟨hi.1, by dsimp only; omega⟩
/-- an element at rest that is called at time 0, at time j -/
def wayPt (p : Plan) (l : List Int) (k : Nat) (x : Pt) (j : Int) : Pt := match l[k]? with
  | some t => if calls p k t = true ∧ x.lie ≠ t then ⟨if j = p.throw then t else x.lie, t, p.throw - j, x.stick, x.blind⟩ else x
  | none => x
def WayAt (p : Plan) (l : List Int) (f : Fld) (j : Int) (g : Fld) : Prop := ∀ k, k < 40 → g.pt k = wayPt p l k (f.pt k) j
theorem way_start {p : Plan} {f : Fld} (hl : f.pts.length = 40) (h : Slow f 0) (ho : FldOk p f) (ht : 1 ≤ p.throw) (l : List Int) : WayAt p l f 0 (f.command p l) := by
  intro k hk
  rw [command_pt (by omega)]
  unfold wayPt
  have h0 := (h k).2
  have h1 := (ho.pt k).1
  have hz : (f.pt k).left = 0 := by omega
  cases l[k]? with
  | none => rfl
  | some t =>
    simp only
    unfold cmdAt cmdPt
    by_cases hc : calls p k t = true
    · simp only [hc, if_true, hz, true_and]
      by_cases hl : (f.pt k).lie = t
      · simp [hl]
      · simp only [hl, not_false_eq_true, if_true, ne_eq, false_or, show ¬ ((0 : Int) < 0 ∧ (f.pt k).to = t) by omega, if_false]
        rw [if_neg (show ¬ (0 : Int) = p.throw by omega)]
        simp
    · simp [hc]
theorem way_tick {p : Plan} {f g : Fld} {l : List Int} {j : Int} (h : Slow f 0) (ho : FldOk p f) (hw : WayAt p l f j g) (hj : j < p.throw) : WayAt p l f (j + 1) g.tick := by
  intro k hk
  rw [tick_pt, hw k hk]
  have h0 := (h k).2
  have h1 := (ho.pt k).1
  have hz : (f.pt k).left = 0 := by omega
  have hs := (h k).1
  unfold wayPt
  cases l[k]? with
  | none => simp only; unfold tickPt; rw [if_pos (.inl hz)]
  | some t =>
    simp only
    split
    · unfold tickPt
      simp only [hs, Bool.false_eq_true, or_false]
      rw [if_neg (show ¬ p.throw - j = 0 by omega)]
      by_cases he : p.throw - j - 1 = 0
      · rw [if_pos he, if_pos (show j + 1 = p.throw by omega)]
        simp only [Pt.mk.injEq, and_true, true_and]; omega
      · rw [if_neg he, if_neg (show ¬ j = p.throw by omega), if_neg (show ¬ j + 1 = p.throw by omega)]
        simp only [Pt.mk.injEq, and_true, true_and]; omega
    · unfold tickPt; rw [if_pos (.inl hz)]
theorem way_still {p : Plan} {f : Fld} {l : List Int} {j : Int} {k : Nat} (h : Slow f 0) (ho : FldOk p f) (hn : ∀ t, l[k]? = some t → ¬ (calls p k t = true ∧ posPt (f.pt k) ≠ t)) : posPt (wayPt p l k (f.pt k) j) = posPt (f.pt k) := by
  have hz : (f.pt k).left = 0 := by have := (h k).2; have := (ho.pt k).1; omega
  have hp : posPt (f.pt k) = (f.pt k).lie := by unfold posPt; rw [if_pos hz]
  unfold wayPt
  cases hl : l[k]? with
  | none => rfl
  | some t =>
    simp only
    rw [if_neg]
    rw [← hp]; exact hn t hl
theorem way_moves {p : Plan} {f : Fld} {l : List Int} {j : Int} {k : Nat} {t : Int} (h : Slow f 0) (ho : FldOk p f) (hl : l[k]? = some t) (hc : calls p k t = true) (hn : posPt (f.pt k) ≠ t) (_hj : j ≤ p.throw) :
    posPt (wayPt p l k (f.pt k) j) = if j = p.throw then t else 0 := by
  have hz : (f.pt k).left = 0 := by have := (h k).2; have := (ho.pt k).1; omega
  have hp : posPt (f.pt k) = (f.pt k).lie := by unfold posPt; rw [if_pos hz]
  unfold wayPt
  rw [hl]
  simp only
  rw [if_pos ⟨hc, by rw [← hp]; exact hn⟩]
  unfold posPt
  simp only
  by_cases he : j = p.throw
  · simp [he]
  · rw [if_neg (by omega), if_neg he]
end Go.Proofs.Ytlgekkffekagbaa
