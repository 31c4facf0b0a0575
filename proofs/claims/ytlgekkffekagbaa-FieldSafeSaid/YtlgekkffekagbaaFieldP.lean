/- What commands and ticks make of one element of a field: for FieldSticks and FieldThrows. No condition. -/
import Derived.Test.YtlgekkffekagbaaFieldL3
namespace Go.Proofs.Ytlgekkffekagbaa

theorem cmd1_pt {p : Plan} {i j : Nat} {t : Int} {f : Fld} (hj : j < f.pts.length) : (f.cmd1 p i t).pt j = if j = i then cmdAt p j t (f.pt j) else f.pt j := by
  unfold Fld.cmd1
  rcases Nat.lt_or_ge i f.pts.length with hi | hi
  · rw [pt_set hi]
    by_cases h : j = i
    · subst h; simp
    · simp [h]
  · rw [set_out hi, if_neg (by omega)]
theorem cmd1_len {p : Plan} {i : Nat} {t : Int} {f : Fld} : (f.cmd1 p i t).pts.length = f.pts.length := by simp [Fld.cmd1]
theorem cmdGo_pt {p : Plan} {j : Nat} : ∀ (l : List Int) (i : Nat) (f : Fld), j < f.pts.length → (f.cmdGo p i l).pt j = if i ≤ j then (match l[j - i]? with | some t => cmdAt p j t (f.pt j) | none => f.pt j) else f.pt j
  | [], i, f, _ => by simp [Fld.cmdGo]
  | t :: r, i, f, hj => by
    unfold Fld.cmdGo
    rw [cmdGo_pt r (i + 1) (f.cmd1 p i t) (by rw [cmd1_len]; exact hj), cmd1_pt hj]
    by_cases h1 : i + 1 ≤ j
    · have h2 : ¬ j = i := by omega
      rw [if_pos h1, if_pos (show i ≤ j by omega), show j - i = (j - (i + 1)) + 1 by omega, List.getElem?_cons_succ]
      simp only [h2, if_false]
    · rw [if_neg h1]
      by_cases h2 : j = i
      · subst h2; simp
      · rw [if_neg h2, if_neg (show ¬ i ≤ j by omega)]
theorem command_pt {p : Plan} {j : Nat} {l : List Int} {f : Fld} (hj : j < f.pts.length) : (f.command p l).pt j = (match l[j]? with | some t => cmdAt p j t (f.pt j) | none => f.pt j) := by
  unfold Fld.command
  rw [cmdGo_pt l 0 f hj]; simp

/-! points on their way -/
def px (th i : Int) (s : Bool) : Pt := ⟨if i = th then 2 else 1, 2, th - i, s, false⟩
theorem tick_px {th i : Int} (h : i < th) : tickPt (px th i false) = px th (i + 1) false := by
  unfold tickPt px
  simp only [Bool.false_eq_true, or_false]
  rw [if_neg (by omega)]
  by_cases h1 : th - i - 1 = 0
  · rw [if_pos h1]
    have : i + 1 = th := by omega
    rw [if_pos this]
    simp only [Pt.mk.injEq, and_true, true_and]; omega
  · rw [if_neg h1, if_neg (show ¬ i = th by omega), if_neg (show ¬ i + 1 = th by omega)]
    simp only [Pt.mk.injEq, and_true, true_and]; omega
theorem tick_pxs (th i : Int) : tickPt (px th i true) = px th i true := by
  unfold tickPt px; rw [if_pos (.inr rfl)]
theorem pos_px {th i : Int} (h : i < th) (s : Bool) : posPt (px th i s) = 0 := by
  unfold posPt px; rw [if_neg]; show ¬ th - i = 0; omega
theorem pos_pxe (th : Int) (s : Bool) : posPt (px th th s) = 2 := by
  unfold posPt px; simp
theorem stick_px {p : Plan} {f : Fld} {e : Int} {on s : Bool} {th i : Int} (hk : p.kind e = 2) (hl : e.toNat < f.pts.length) (h : f.pt e.toNat = px th i s) : (f.stick p e on).pt e.toNat = px th i on := by
  unfold Fld.stick
  rw [if_pos hk, pt_set hl, if_pos rfl, h]; rfl
theorem start_px {p : Plan} {e : Int} (hc : chk p = 0) (hk : p.kind e = 2) : ((newFld p).command p ((List.replicate p.elems.length (0 : Int)).set e.toNat 2)).pt e.toNat = px p.throw 0 false := by
  have h := kind_lt (p := p) (i := e) (by omega)
  have h40 := (elems_le hc).1
  have hth := throw_ok hc
  rw [command_pt (by rw [(newFld_ok p).len.1]; omega)]
  have : ((List.replicate p.elems.length (0 : Int)).set e.toNat 2)[e.toNat]? = some 2 := by rw [List.getElem?_set, if_pos rfl, List.length_replicate, if_pos (by omega)]
  rw [this]
  simp only
  rw [newFld_pt (by omega)]
  unfold cmdAt calls newPt cmdPt px
  rw [toNat_cast h.1]
  simp only [hk]
  simp
  omega
theorem left_px {p : Plan} {f : Fld} {e th i : Int} {s : Bool} (hk : p.kind e = 2) (h : f.pt e.toNat = px th i s) : f.left p e = th - i := by
  unfold Fld.left; rw [if_pos hk, h]; rfl
theorem pos_at {p : Plan} {f : Fld} {e : Nat} (h : e < p.elems.length) : (f.pos p)[e]? = some (posPt (f.pt e)) := by simp [Fld.pos, h]
end Go.Proofs.Ytlgekkffekagbaa
