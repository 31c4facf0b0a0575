/- Walks of late.solve, late.Times, late.Delay. -/
import Derived.Test.YtkklnaejpgcgoaaLateW5
import Derived.Test.YtkklnaejpgcgoaaLatePure1
namespace Go.Proofs.Ytkklnaejpgcgoaa
open Go.RowKit

/-- What late.solve leaves. -/
structure SolveOut (w' : World) (B : Nat) (start : List Int) (l : List Wt) (v1 v2 : Value) : Prop where
  ok : solveErr start l = 0 → OwnI w' B v1 start.length (timesRun l (lateOrder start.length l) start) ∧ OwnI w' B v2 (lateOrder start.length l).length (lateOrder start.length l)
  no : solveErr start l ≠ 0 → v1 = .slice none 0 0 ∧ v2 = .slice none 0 0

theorem neq_beq {a b : Int} (h : a ≠ b) : (a != b) = true := by simpa using h

set_option maxHeartbeats 400000 in
theorem solve_any (w : World) (a1 a2 : Option Addr) (n1 c1 n2 c2 : Nat) (start : List Int) (l : List Wt) (h1 : Ints w a1 n1 start) (h2 : Wts w a2 n2 l) (hc : a1 = none → c1 = 0) :
    Calls Try.prog 23 #[.slice a1 n1 c1, .slice a2 n2 c2] w fun e w' => ∃ v1 v2, e = .returned (.tuple #[v1, v2, .int .i64 (solveErr start l)]) ∧ SolveOut w' w.heap.size start l v1 v2 ∧ Below w.heap.size w w' := by
  obtain rfl := h1.len
  have b1 := h1.bnd
  have H := Lib.hid (check_any w a1 a2 _ c1 n2 c2 start l h1 h2)
  by_cases hk : lateCheck start l = 0
  · obtain ⟨z1, z2, z3, z4⟩ := lateCheck_zero hk
    have hl2 := h2.len
    have Hk := Lib.hid hk; clear hk
    have Z := Lib.hid (And.intro z3 z4); clear z3 z4
    have Hc := Lib.hid hc; clear hc
    have z2' : n2 ≤ 1000 := by omega
    clear z2 hl2
    go_enter Try.func23, Try.ntmps23
    go_wp2_with fail
    refine H.out.mono ?_
    rintro e w1 ⟨rfl, hb1⟩
    rw [Hk.out]
    have H2 := Lib.hid (order_any w1 a2 start.length n2 c2 l (h2.below hb1) (by omega) (fun x hx => by have := Z.out.2 x hx; omega))
    go_wp2_with fail
    refine H2.out.mono ?_
    rintro e w2 ⟨v2, rfl, hown2, hb2⟩
    have hb2' := below_step hb1 hb2 hb1.size
    have hown2 := owns_base hown2 hb1.size
    by_cases ho : (lateOrder start.length l).length = start.length
    · have hd : decide ((lateOrder start.length l).length = start.length) = true := by simpa using ho
      have Ho := Lib.hid ho; clear ho
      obtain ⟨a3, c3, rfl, hn3, hc3⟩ := own_slice hown2
      have hr3 := (own_ints hown2).1
      have H3 := Lib.hid (times_any w2 a1 a2 a3 start.length c1 n2 c2 _ c3 start l _ (h1.below hb2') (h2.below hb2') hr3 Hc.out (by omega) (by omega) (by rw [Ho.out]; omega) ⟨Z.out.2, lateOrder_mem⟩ (fun t ht => by have := Z.out.1 t ht; omega))
      have Hown2 := Lib.hid hown2; clear hown2 hr3 hc3
      go_wp2_with fail
      refine H3.out.mono ?_
      rintro e w3 ⟨v1, rfl, hown3, hb3⟩
      have Hown3 := Lib.hid hown3; clear hown3
      go_wp2_with fail
      go_ret3
      have hs : solveErr start l = 0 := by unfold solveErr; rw [if_neg (by simpa using Hk.out), if_pos Ho.out]
      refine ⟨_, _, by rw [hs]; rfl, ⟨fun _ => ⟨owns_base Hown3.out (by have := hb2'.size; omega), owns_below Hown2.out hb3⟩, fun h => absurd hs h⟩, below_step hb2' hb3 hb2'.size⟩
    · have hd : decide ((lateOrder start.length l).length = start.length) = false := by simpa using ho
      have Ho := Lib.hid ho; clear ho
      obtain ⟨a3, c3, rfl, hn3, hc3⟩ := own_slice hown2
      clear hown2 hc3
      go_wp2_with fail
      go_ret3
      have hs : solveErr start l = 19 := by unfold solveErr; rw [if_neg (by simpa using Hk.out), if_neg Ho.out]
      refine ⟨_, _, by rw [hs]; rfl, ⟨fun h => absurd (hs.symm.trans h) (by decide), fun _ => ⟨rfl, rfl⟩⟩, hb2'⟩
  · have hq := neq_beq hk
    have Hk := Lib.hid hk; clear hk
    go_enter Try.func23, Try.ntmps23
    go_wp2_with fail
    refine H.out.mono ?_
    rintro e w1 ⟨rfl, hb1⟩
    go_wp2_with fail
    go_ret3
    have hs : solveErr start l = lateCheck start l := by unfold solveErr; rw [if_pos Hk.out]
    refine ⟨_, _, by rw [hs]; rfl, ⟨fun h => absurd (hs.symm.trans h) Hk.out, fun _ => ⟨rfl, rfl⟩⟩, hb1⟩

/-- What a call leaves that answers a row of numbers and an error. -/
structure NumsOut (w' : World) (B : Nat) (err : Int) (xs : List Int) (v : Value) : Prop where
  ok : err = 0 → OwnI w' B v xs.length xs
  no : err ≠ 0 → v = .slice none 0 0

set_option maxHeartbeats 400000 in
theorem lateTimes_any (w : World) (a1 a2 : Option Addr) (n1 c1 n2 c2 : Nat) (start : List Int) (l : List Wt) (h1 : Ints w a1 n1 start) (h2 : Wts w a2 n2 l) (hc : a1 = none → c1 = 0) :
    Calls Try.prog 13 #[.slice a1 n1 c1, .slice a2 n2 c2] w fun e w' => ∃ v, e = .returned (.tuple #[v, .int .i64 (solveErr start l)]) ∧
      NumsOut w' w.heap.size (solveErr start l) (timesRun l (lateOrder start.length l) start) v ∧ Below w.heap.size w w' := by
  have H := Lib.hid (solve_any w a1 a2 n1 c1 n2 c2 start l h1 h2 hc)
  clear h1 h2 hc
  go_enter Try.func13, Try.ntmps13
  go_wp2_with fail
  refine H.out.mono ?_
  rintro e w1 ⟨v1, v2, rfl, hs, hb⟩
  go_wp2_with fail
  go_ret2
  exact ⟨_, rfl, ⟨fun h => by have := (hs.ok h).1; rwa [timesRun_length], fun h => (hs.no h).1⟩, hb⟩
end Go.Proofs.Ytkklnaejpgcgoaa
