/- Walk of slices.Reverse over ints. -/
import Derived.Test.YtkklnaejpgcgoaaLateW6
import Derived.RegionTactic
import Derived.BigRegion
namespace Go.Proofs.Ytkklnaejpgcgoaa
open Go.RowKit

/-- the first i and the last i of xs have changed places -/
def RevAt (xs ys : List Int) (i : Nat) : Prop := ys.length = xs.length ∧ ∀ p, p < xs.length → ys.getD p 0 = if p < i ∨ xs.length - 1 - i < p then xs.getD (xs.length - 1 - p) 0 else xs.getD p 0

theorem getD_set (xs : List Int) (i p : Nat) (u : Int) (hi : i < xs.length) : (xs.set i u).getD p 0 = if p = i then u else xs.getD p 0 := by
  simp only [List.getD, List.getElem?_set]
  split
  · rename_i h; subst h; simp
  · rename_i h; rw [if_neg (fun e => h e.symm)]

theorem RevAt.step {xs ys : List Int} {i j : Nat} (h : RevAt xs ys i) (hj : i + j + 1 = xs.length) (hij : i < j) : RevAt xs ((ys.set i (ys.getD j 0)).set j (ys.getD i 0)) (i + 1) := by
  obtain ⟨h1, h2⟩ := h
  refine ⟨by simpa using h1, fun p hp => ?_⟩
  rw [getD_set _ _ _ _ (by simp; omega), getD_set _ _ _ _ (by omega)]
  have hi' := h2 i (by omega)
  have hj' := h2 j (by omega)
  rw [if_neg (by omega)] at hi' hj'
  by_cases hpj : p = j
  · subst hpj
    rw [if_pos rfl, hi', if_pos (by omega)]
    congr 1; omega
  · rw [if_neg hpj]
    by_cases hpi : p = i
    · subst hpi
      rw [if_pos rfl, hj', if_pos (by omega)]
      congr 1; omega
    · rw [if_neg hpi, h2 p hp]
      by_cases hc : p < i ∨ xs.length - 1 - i < p
      · rw [if_pos hc, if_pos (by omega)]
      · rw [if_neg hc, if_neg (by omega)]

theorem RevAt.done {xs ys : List Int} {i : Nat} (h : RevAt xs ys i) (hd : xs.length ≤ 2 * i + 1) : ys = xs.reverse := by
  obtain ⟨h1, h2⟩ := h
  apply List.ext_getElem (by simpa using h1)
  intro p hp hq
  have hp' : p < xs.length := by omega
  have := h2 p hp'
  simp only [List.getD, List.getElem?_eq_getElem hp, List.getElem?_eq_getElem hp', Option.getD_some, List.getElem?_eq_getElem (show xs.length - 1 - p < xs.length by omega)] at this
  rw [List.getElem_reverse, this]
  split
  · rfl
  · congr 1; omega

set_option maxHeartbeats 1000000 in
theorem reverse_any (w : World) (B : Nat) (g n c : Nat) (xs : List Int) (h : OwnI w B (.slice (some ⟨g, 0, none⟩) n c) n xs) (hn : 1 ≤ n) (hn2 : n ≤ 100000) :
    Calls Try.prog 27 #[.slice (some ⟨g, 0, none⟩) n c] w fun e w' => e = .returned (.tuple #[]) ∧ OwnI w' B (.slice (some ⟨g, 0, none⟩) n c) n xs.reverse ∧ Below B w w' := by
  have lx := Lib.hid (own_len h)
  have hgB := (own_shape' h).1
  go_enter Try.func27, Try.ntmps27
  go_wp2_with fail
  go_loopg [2, 3] n (fun k i j wr => ∃ (a b : Nat) (ys : List Int), a + k = n ∧ i = .int .i64 a ∧ j = .int .i64 b ∧ a + b + 1 = n ∧ OwnI wr B (.slice (some ⟨g, 0, none⟩) n c) n ys ∧ Hid (RevAt xs ys a) ∧ Below B w wr)
  case atStart => exact ⟨0, n - 1, xs, by omega, rfl, by congr 1; omega, by omega, h, ⟨rfl, fun p hp => by rw [if_neg (by omega)]⟩, Below.refl _ _⟩
  case round =>
    obtain ⟨a, b, ys, hk, rfl, rfl, hab, hown, hrev, hb⟩ := hrel
    have Hk := Lib.hid hk; clear hk
    have Hab := Lib.hid hab
    have hab1 : a ≤ n := by omega
    have hab2 : b < n := by omega
    clear hab
    by_cases hlt : a < b
    · have m1 := own_cell hown (j := a) (by omega)
      have m2 := own_cell hown (j := b) (by omega)
      have f1 := hown.frozenAt a
      have f2 := hown.frozenAt b
      have hz := (own_shape' hown).2
      have ha3 : a < n := by omega
      have ly := own_len hown
      obtain ⟨e1, e2⟩ := own_set hown a (ys.getD b 0)
      have m3 := own_cell e1 (j := b) (by omega)
      have f3 := e1.frozenAt b
      obtain ⟨e3, e4⟩ := own_set e1 b (ys.getD a 0)
      have E3 := Lib.hid e3
      have Ly := Lib.hid ly
      have Hown := Lib.hid hown
      clear e1 e2 e3 e4 hown h ly
      obtain ⟨va, hva⟩ : ∃ va, va = ys.getD a 0 := ⟨_, rfl⟩
      obtain ⟨vb, hvb⟩ : ∃ vb, vb = ys.getD b 0 := ⟨_, rfl⟩
      rw [← hva] at m1 E3
      rw [← hvb] at m2 E3 m3 f3
      have Hva := Lib.hid hva
      have Hvb := Lib.hid hvb
      clear hva hvb
      go_wp2_with fail
      go_region
      go_wp2_with fail
      go_roundg (gk - 1)
      case measure => have := Hk.out; omega
      case rel => exact ⟨a + 1, b - 1, (ys.set a vb).set b va, by have := Hk.out; omega, by go_num, by congr 1; omega, by have := Hab.out; omega, E3.out.drew, by rw [Hva.out, Hvb.out]; exact hrev.out.step (by have := Hab.out; have := lx.out; omega) hlt, ((hb.setCell (p := ⟨g, _, none⟩) hgB _).setCell (p := ⟨g, _, none⟩) hgB _).drew⟩
    · have hfin := hrev.out.done (by have := Hab.out; have := lx.out; omega)
      have hown' : OwnI wr B (.slice (some ⟨g, 0, none⟩) n c) n xs.reverse := by rw [← hfin]; exact hown
      have Hown := Lib.hid hown'
      clear hown hown' hfin h
      go_wp2_with fail
      go_end0
      exact ⟨rfl, Hown.out, hb⟩
end Go.Proofs.Ytkklnaejpgcgoaa
