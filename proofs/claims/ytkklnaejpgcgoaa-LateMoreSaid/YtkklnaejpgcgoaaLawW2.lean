/- Walk of semaphorelaw34.known: it answers true. -/
import Derived.Test.YtkklnaejpgcgoaaLawW1
namespace Go.Proofs.Ytkklnaejpgcgoaa
open Go.RowKit

theorem lit_ints (w : World) (xs : List Int) (h : xs.length ≤ 1000) : OwnI (w.alloc (.cells (xs.map (Value.int .i64)).toArray 3)) w.heap.size (.slice (some ⟨w.heap.size, 0, none⟩) xs.length xs.length) xs.length xs := by
  have := World.ownsRow_lit (base := w.heap.size) (size := 1) (e := 3) w (xs.map (Value.int .i64)).toArray xs.length (Nat.le_refl _) (by simp [maxLen]; omega) (by simp)
  unfold OwnI; simpa using this
theorem lit_wts (w : World) (T : TypeId) (xs : List Wt) (h : xs.length ≤ 1000) : Wts (w.alloc (.cells (xs.flatMap encWt).toArray T)) (some ⟨w.heap.size, 0, none⟩) xs.length xs := by
  have hl : (xs.flatMap encWt).length = xs.length * 3 := by
    clear h; induction xs with
    | nil => rfl
    | cons x r ih => simp only [List.flatMap_cons, List.length_append, encWt_len, ih, List.length_cons]; omega
  have := World.ownsRow_lit (base := w.heap.size) (size := 3) (e := T) w (xs.flatMap encWt).toArray xs.length (Nat.le_refl _) (by simp [maxLen]; omega) (by simpa using hl)
  exact (owns_row encWt_len this (by omega)).1

theorem lit_ints_at (w : World) (g : Nat) (hg : w.heap.size = g) (xs : List Int) (h : xs.length ≤ 1000) (cs : Array Value) (hcs : cs = (xs.map (Value.int .i64)).toArray) : Ints (w.alloc (.cells cs 3)) (some ⟨g, 0, none⟩) xs.length xs := by
  subst hg; subst hcs; exact (own_ints (lit_ints w xs h)).1
theorem lit_wts_at (w : World) (g : Nat) (hg : w.heap.size = g) (T : TypeId) (xs : List Wt) (h : xs.length ≤ 1000) (cs : Array Value) (hcs : cs = (xs.flatMap encWt).toArray) : Wts (w.alloc (.cells cs T)) (some ⟨g, 0, none⟩) xs.length xs := by
  subst hg; subst hcs; exact lit_wts w T xs h

def S0 : List Int := [3, 0, 20]
def L0 : List Wt := [⟨0, 1, 5⟩, ⟨1, 2, 2⟩]

set_option maxHeartbeats 1000000 in
theorem known_any (w : World) : Calls Try.prog 11 #[] w fun e w' => e = .returned (.bool true) ∧ Below w.heap.size w w' := by
  have q1 := Lib.hid (show solveErr S0 L0 = 0 by decide +kernel)
  have q2 := Lib.hid (show timesRun L0 (lateOrder S0.length L0) S0 = [3, 8, 20] by decide +kernel)
  have q3 := Lib.hid (show solveErr [0] [⟨0, 0, 0⟩] = 19 by decide +kernel)
  have q4 := Lib.hid (show delayErr S0 L0 0 13 = 0 by decide +kernel)
  have q5 := Lib.hid (show delayVal S0 L0 0 13 = [13, 13, 3] by decide +kernel)
  have q6 := Lib.hid (show offB 1 ((S0.length : Int) - 1) = false by decide +kernel)
  have q7 := Lib.hid (show whyRun (timesOf S0 L0) S0 L0 4 1 [1] = some [1, 0] by decide +kernel)
  have hl : Wts (w.alloc (.cells #[.int .i64 0, .int .i64 1, .int .i64 5, .int .i64 1, .int .i64 2, .int .i64 2] 34)) (some ⟨w.heap.size, 0, none⟩) 2 L0 := lit_wts_at w _ rfl _ L0 (by decide) _ rfl
  have hb0 : Below w.heap.size w (w.alloc (.cells #[.int .i64 0, .int .i64 1, .int .i64 5, .int .i64 1, .int .i64 2, .int .i64 2] 34)) := (Below.refl _ _).alloc (Nat.le_refl _) _
  have hs := lit_ints_at (w.alloc (.cells #[.int .i64 0, .int .i64 1, .int .i64 5, .int .i64 1, .int .i64 2, .int .i64 2] 34)) (w.heap.size + 1) (by simp) S0 (by decide) #[.int .i64 3, .int .i64 0, .int .i64 20] rfl
  have hb1 : Below w.heap.size w ((w.alloc (.cells #[.int .i64 0, .int .i64 1, .int .i64 5, .int .i64 1, .int .i64 2, .int .i64 2] 34)).alloc (.cells #[.int .i64 3, .int .i64 0, .int .i64 20] 3)) := hb0.alloc hb0.size _
  have hlx := hl.below ((Below.refl _ _).alloc (Nat.le_refl _) (.cells #[.int .i64 3, .int .i64 0, .int .i64 20] 3))
  have H1 := Lib.hid (lateTimes_any _ _ _ 3 3 2 2 S0 L0 hs hlx (by intro h; cases h))
  have Hl := Lib.hid hlx
  clear hl hb0 hs hlx
  go_enter Try.func11, Try.ntmps11
  go_wp2_with fail
  refine H1.out.mono ?_
  rintro e w2 ⟨v1, rfl, hn1, hb2⟩
  have hb2' := below_step hb1 hb2 hb1.size
  have o1 := hn1.ok q1.out
  rw [q2.out] at o1
  have O1 := Lib.hid o1
  have Hl2 := Lib.hid (Hl.out.below hb2)
  rw [q1.out]
  clear o1 hn1 hb2 hb1
  have hs3 := lit_ints_at w2 _ rfl [0] (by decide) #[.int .i64 0] rfl
  have hb3 : Below w2.heap.size w2 (w2.alloc (.cells #[.int .i64 0] 3)) := (Below.refl _ _).alloc (Nat.le_refl _) _
  have hs3' := hs3.below ((Below.refl _ _).alloc (Nat.le_refl _) (.cells #[.int .i64 0, .int .i64 0, .int .i64 0] 34))
  have hl3 := lit_wts_at (w2.alloc (.cells #[.int .i64 0] 3)) (w2.heap.size + 1) (by simp) 34 [⟨0, 0, 0⟩] (by decide) #[.int .i64 0, .int .i64 0, .int .i64 0] rfl
  have hb3' : Below w2.heap.size w2 ((w2.alloc (.cells #[.int .i64 0] 3)).alloc (.cells #[.int .i64 0, .int .i64 0, .int .i64 0] 34)) := hb3.alloc hb3.size _
  have H3 := Lib.hid (lateTimes_any _ _ _ 1 1 1 1 [0] [⟨0, 0, 0⟩] hs3' hl3 (by intro h; cases h))
  clear hs3 hs3' hl3 hb3
  obtain ⟨va, vc, hv1, _, _⟩ := own_slice O1.out
  cases hv1
  go_wp2_with fail
  refine H3.out.mono ?_
  rintro e w3 ⟨v3, rfl, hn3, hb4⟩
  have hb3w := below_step (hb3'.trans (hb4.mono hb3'.size)) (Below.refl _ _) (by have := hb4.size; have := hb3'.size; omega)
  have v3n := hn3.no (by rw [q3.out]; decide)
  rw [q3.out]
  cases v3n
  have O2 := Lib.hid (owns_below O1.out hb3w)
  have Hl3 := Lib.hid (Hl2.out.below hb3w)
  have hb5 := below_step hb2' hb3w hb2'.size
  clear hn3 hb4 hb3' hb3w hb2'
  have hs6 := lit_ints_at w3 _ rfl S0 (by decide) #[.int .i64 3, .int .i64 0, .int .i64 20] rfl
  have hbx : Below w3.heap.size w3 (w3.alloc (.cells #[.int .i64 3, .int .i64 0, .int .i64 20] 3)) := (Below.refl _ _).alloc (Nat.le_refl _) _
  have H6 := Lib.hid (delay_any _ _ (some ⟨w.heap.size, 0, none⟩) 3 3 2 2 S0 L0 0 13 hs6 (Hl3.out.below hbx) (by intro h; cases h))
  clear hs6
  go_wp2_with fail
  refine H6.out.mono ?_
  rintro e w4 ⟨v4, rfl, hn4, hb6⟩
  have o4 := hn4.ok q4.out
  rw [q5.out] at o4
  rw [q4.out]
  have O4 := Lib.hid o4
  have hbw4 := hbx.trans (hb6.mono hbx.size)
  have O3 := Lib.hid (owns_below O2.out hbw4)
  have Hl4 := Lib.hid (Hl3.out.below hbw4)
  have hb7 := below_step hb5 hbw4 hb5.size
  clear o4 hn4 hbx hb6 hbw4 hb5
  obtain ⟨vd, ve, hv4, _, _⟩ := own_slice O4.out
  cases hv4
  have r1 := lit_ints_at w4 _ rfl [3, 8, 20] (by decide) #[.int .i64 3, .int .i64 8, .int .i64 20] rfl
  have hba : Below w4.heap.size w4 (w4.alloc (.cells #[.int .i64 3, .int .i64 8, .int .i64 20] 3)) := (Below.refl _ _).alloc (Nat.le_refl _) _
  have H7 := Lib.hid (sameInts _ va (some ⟨w4.heap.size, 0, none⟩) 3 3 vc 3 [3, 8, 20] [3, 8, 20] ((own_ints O3.out).1.below hba) r1)
  clear r1
  go_wp2_with fail
  refine H7.out.mono ?_
  rintro e w5 ⟨rfl, hb8⟩
  have hbw5 := hba.trans (hb8.mono hba.size)
  have O5 := Lib.hid (owns_below O4.out hbw5)
  have Hl5 := Lib.hid (Hl4.out.below hbw5)
  have hb9 := below_step hb7 hbw5 hb7.size
  clear hba hb8 hbw5 hb7
  rw [show (([3, 8, 20] : List Int) == [3, 8, 20]) = true from rfl]
  have r2 := lit_ints_at w5 _ rfl [13, 13, 3] (by decide) #[.int .i64 13, .int .i64 13, .int .i64 3] rfl
  have hbb : Below w5.heap.size w5 (w5.alloc (.cells #[.int .i64 13, .int .i64 13, .int .i64 3] 3)) := (Below.refl _ _).alloc (Nat.le_refl _) _
  have H8 := Lib.hid (sameInts _ vd (some ⟨w5.heap.size, 0, none⟩) 3 3 ve 3 [13, 13, 3] [13, 13, 3] ((own_ints O5.out).1.below hbb) r2)
  clear r2
  go_wp2_with fail
  refine H8.out.mono ?_
  rintro e w6 ⟨rfl, hb10⟩
  have hbw6 := hbb.trans (hb10.mono hbb.size)
  have Hl6 := Lib.hid (Hl5.out.below hbw6)
  have hb11 := below_step hb9 hbw6 hb9.size
  clear hbb hb10 hbw6 hb9
  rw [show (([13, 13, 3] : List Int) == [13, 13, 3]) = true from rfl]
  have r3 := lit_ints_at w6 _ rfl S0 (by decide) #[.int .i64 3, .int .i64 0, .int .i64 20] rfl
  have hbc : Below w6.heap.size w6 (w6.alloc (.cells #[.int .i64 3, .int .i64 0, .int .i64 20] 3)) := (Below.refl _ _).alloc (Nat.le_refl _) _
  have H9 := Lib.hid (why_any _ _ (some ⟨w.heap.size, 0, none⟩) 3 3 2 2 S0 L0 1 4 [1, 0] r3 (Hl6.out.below hbc) (by intro h; cases h) (fun _ => ⟨q7.out, by decide⟩))
  clear r3
  go_wp2_with fail
  refine H9.out.mono ?_
  rintro e w7 ⟨v7, rfl, hn7, hb12⟩
  have hyes : WhyYes S0 L0 1 := ⟨q1.out, q6.out⟩
  have o7 := hn7.ok hyes
  have O7 := Lib.hid o7
  have hbw7 := hbc.trans (hb12.mono hbc.size)
  have hb13 := below_step hb11 hbw7 hb11.size
  clear o7 hn7 hbc hb12 hbw7 hb11 hyes
  obtain ⟨vf, vg, hv7, _, _⟩ := own_slice O7.out
  cases hv7
  have r4 := lit_ints_at w7 _ rfl [0, 1] (by decide) #[.int .i64 0, .int .i64 1] rfl
  have hbd : Below w7.heap.size w7 (w7.alloc (.cells #[.int .i64 0, .int .i64 1] 3)) := (Below.refl _ _).alloc (Nat.le_refl _) _
  have H10 := Lib.hid (sameInts _ vf (some ⟨w7.heap.size, 0, none⟩) 2 2 vg 2 [0, 1] [0, 1] ((own_ints O7.out).1.below hbd) r4)
  clear r4
  go_wp2_with fail
  refine H10.out.mono ?_
  rintro e w8 ⟨rfl, hb14⟩
  have hbw8 := hbd.trans (hb14.mono hbd.size)
  have hb15 := below_step hb13 hbw8 hb13.size
  clear hbd hb14 hbw8 hb13
  rw [show (([0, 1] : List Int) == [0, 1]) = true from rfl]
  go_wp2_with fail
  go_ret
  exact ⟨rfl, hb15⟩
end Go.Proofs.Ytkklnaejpgcgoaa
