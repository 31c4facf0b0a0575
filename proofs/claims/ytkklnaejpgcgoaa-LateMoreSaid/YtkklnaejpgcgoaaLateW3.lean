/- Walks of late.check, slices.Clone and late.times. -/
import Derived.Test.YtkklnaejpgcgoaaLateW2
import Derived.StillTailTactics
namespace Go.Proofs.Ytkklnaejpgcgoaa
open Go.RowKit

theorem check_val {start : List Int} {l : List Wt} {n1 n2 : Nat} (h1 : start.length = n1) (h2 : l.length = n2) :
    lateCheck start l = if 200 < n1 ∨ 1000 < n2 then 3 else if start.any (fun t => offB t 100000) || l.any (fun w => offB w.gap 100000) then 1
      else if l.any (fun w => offB w.frm (n1 - 1) || offB w.to (n1 - 1)) then 10 else 0 := by
  subst h1; subst h2; rfl

set_option maxHeartbeats 400000 in
theorem check_any (w : World) (a1 a2 : Option Addr) (n1 c1 n2 c2 : Nat) (start : List Int) (l : List Wt) (h1 : Ints w a1 n1 start) (h2 : Wts w a2 n2 l) :
    Calls Try.prog 32 #[.slice a1 n1 c1, .slice a2 n2 c2] w fun e w' => e = .returned (.int .i64 (lateCheck start l)) ∧ Below w.heap.size w w' := by
  have b1 := h1.bnd
  have b2 := h2.bnd
  have hv := Lib.hid (check_val h1.len h2.len)
  by_cases g1 : 200 < n1
  · go_enter Try.func32, Try.ntmps32
    go_wp2_with fail
    go_ret
    exact ⟨ret_int (by rw [hv.out, if_pos (.inl g1)]), (Below.refl _ _).alloc (Nat.le_refl _) _⟩
  by_cases g2 : 1000 < n2
  · go_enter Try.func32, Try.ntmps32
    go_wp2_with fail
    go_ret
    exact ⟨ret_int (by rw [hv.out, if_pos (.inr g2)]), (Below.refl _ _).alloc (Nat.le_refl _) _⟩
  have hb0 : Below w.heap.size w (w.alloc (.cells #[.slice a1 n1 c1] 22)) := (Below.refl _ _).alloc (Nat.le_refl _) _
  have H1 := Lib.hid (conInts _ a1 n1 c1 start 35 #[] _ (h1.below hb0) (fun_check1 _ _))
  go_enter Try.func32, Try.ntmps32
  go_wp2_with fail
  refine H1.out.mono ?_
  rintro e w1 ⟨rfl, hb1⟩
  have hb1' := below_step hb0 hb1 hb0.size
  have hz : w.heap.size < w1.heap.size := by have := hb1.size; simp at this; omega
  have hc : w1.cell? ⟨w.heap.size, 0, none⟩ = some (.slice a1 n1 c1) := (hb1.cell (p := ⟨w.heap.size, 0, none⟩) (by simp)).trans (by go_simp)
  cases hA : start.any (fun t => offB t 100000)
  · have HA := Lib.hid hA; clear hA
    have H2 := Lib.hid (conWts w1 a2 n2 c2 l 37 #[] _ (h2.below hb1') (fun_check2 _ _))
    go_wp2_with fail
    refine H2.out.mono ?_
    rintro e w2 ⟨rfl, hb2⟩
    have hb2' := below_step hb1' hb2 hb1'.size
    have hc2 : w2.cell? ⟨w.heap.size, 0, none⟩ = some (.slice a1 n1 c1) := (hb2.cell (p := ⟨w.heap.size, 0, none⟩) hz).trans hc
    have hz2 : w.heap.size < w2.heap.size := by have := hb2.size; omega
    cases hB : l.any (fun w => offB w.gap 100000)
    · have HB := Lib.hid hB; clear hB
      have H3 := Lib.hid (conWts w2 a2 n2 c2 l 38 #[.pointer (some ⟨w.heap.size, 0, none⟩)] _ (h2.below hb2') (fun_check3 _ _ _ _ _ _ _ hz2 hc2 b1))
      go_wp2_with fail
      refine H3.out.mono ?_
      rintro e w3 ⟨rfl, hb3⟩
      have hb3' := below_step hb2' hb3 hb2'.size
      cases hC : l.any (fun w => offB w.frm (n1 - 1) || offB w.to (n1 - 1))
      · have HC := Lib.hid hC; clear hC
        go_wp2_with fail
        go_ret
        exact ⟨ret_int (by rw [hv.out, if_neg (by omega), HA.out, HB.out, HC.out]; rfl), hb3'⟩
      · have HC := Lib.hid hC; clear hC
        go_wp2_with fail
        go_ret
        exact ⟨ret_int (by rw [hv.out, if_neg (by omega), HA.out, HB.out, HC.out]; rfl), hb3'⟩
    · have HB := Lib.hid hB; clear hB
      go_wp2_with fail
      go_ret
      exact ⟨ret_int (by rw [hv.out, if_neg (by omega), HA.out, HB.out]; rfl), hb2'⟩
  · have HA := Lib.hid hA; clear hA
    go_wp2_with fail
    go_ret
    exact ⟨ret_int (by rw [hv.out, if_neg (by omega), HA.out]; rfl), hb1'⟩
end Go.Proofs.Ytkklnaejpgcgoaa
