/- PlanStops: for every input the law returns true. No condition. -/
import Derived.Test.YtlndfmflbdkpjaaLawK2
set_option maxRecDepth 1000000
namespace Go.Proofs.Ytlndfmflbdkpjaa
open Go.ChangeShapes Go.WideShapes Go.ChangeAt Go.RowKit

set_option maxHeartbeats 1000000 in
theorem lawStops_any (w : World) (x y : Int) (x0 : 0 ≤ x) (x1 : x ≤ 255) (y0 : 0 ≤ y) (y1 : y ≤ 255) :
    Calls Try.prog 4 #[.int .u8 x, .int .u8 y] w fun e w' => e = .returned (.bool true) ∧ Below w.heap.size w w' := by
  have K := Lib.hid (known2_any w)
  have u0 : 0 ≤ x % 60 := by omega
  have u1 : x % 60 < 60 := by omega
  have v0 : 0 ≤ y % 10 := by omega
  have v1 : y % 10 < 10 := by omega
  obtain ⟨b, hb0⟩ : ∃ b : Int, b = y % 10 + 1 := ⟨_, rfl⟩
  have ⟨L1, L2, L3, L4, L5⟩ := stop_laws (a := x % 60 + 1) (b := b) (by omega) (by omega) (by omega) (by omega)
  have M2 : stop (x % 60) b ≤ stop (x % 60 + 1) b := by
    have := L2 (by omega); rwa [show x % 60 + 1 - 1 = x % 60 by omega] at this
  have q2 : ¬ stop (x % 60 + 1) b < stop (x % 60) b := by omega
  have q3 : (stop 0 b != 0) = false := by rw [L3]; rfl
  have Q3 := Lib.hid L3
  obtain ⟨s1, s2⟩ := stop_bd (v := x % 60 + 1) (b := b)
  obtain ⟨s3, s4⟩ := stop_bd (v := x % 60) (b := b)
  clear L2 L5 L3
  by_cases hb10 : y % 10 = 9
  · have e1 : b = 10 := by omega
    subst e1
    clear L4 hb0
    by_cases hl : x % 60 + 1 - 10 < 0
    · have hl0 : max (x % 60 + 1 - 10) 0 = 0 := by omega
      rw [hl0] at L1
      have q1 : (stop (x % 60 + 1) 10 != stop 0 10) = false := by rw [L1]; simp
      obtain ⟨s7, s8⟩ := stop_bd (v := 0) (b := 10)
      have Q1 := Lib.hid L1
      clear L1
      go_enter Try.func4, Try.ntmps4
      go_wp2_with fail
      refine K.out.mono ?_
      rintro e w1 ⟨rfl, hb⟩
      go_wp2_with fail
      refine (stop_any _ _ _).mono ?_
      rintro e w' ⟨rfl, rfl⟩
      go_wp2_with fail
      refine (stop_any _ _ _).mono ?_
      rintro e w' ⟨rfl, rfl⟩
      go_wp2_with fail
      refine (stop_any _ _ _).mono ?_
      rintro e w' ⟨rfl, rfl⟩
      go_wp2_with fail
      refine (stop_any _ _ _).mono ?_
      rintro e w' ⟨rfl, rfl⟩
      go_wp2_with fail
      refine (stop_any _ _ _).mono ?_
      rintro e w' ⟨rfl, rfl⟩
      go_wp2_with fail
      go_ret
      exact ⟨ret_bool (by first | (simp; done) | (have := Q1.out; have := Q3.out; simp; omega)), hb⟩
    · have hl0 : max (x % 60 + 1 - 10) 0 = x % 60 + 1 - 10 := by omega
      have hl1 : 0 ≤ x % 60 + 1 - 10 := by omega
      rw [hl0] at L1
      have q1 : (stop (x % 60 + 1) 10 != x % 60 + 1 - 10 + stop (x % 60 + 1 - 10) 10) = false := by rw [← L1]; simp
      obtain ⟨s7, s8⟩ := stop_bd (v := x % 60 + 1 - 10) (b := 10)
      have Q1 := Lib.hid L1
      clear L1
      go_enter Try.func4, Try.ntmps4
      go_wp2_with fail
      refine K.out.mono ?_
      rintro e w1 ⟨rfl, hb⟩
      go_wp2_with fail
      refine (stop_any _ _ _).mono ?_
      rintro e w' ⟨rfl, rfl⟩
      go_wp2_with fail
      refine (stop_any _ _ _).mono ?_
      rintro e w' ⟨rfl, rfl⟩
      go_wp2_with fail
      refine (stop_any _ _ _).mono ?_
      rintro e w' ⟨rfl, rfl⟩
      go_wp2_with fail
      refine (stop_any _ _ _).mono ?_
      rintro e w' ⟨rfl, rfl⟩
      go_wp2_with fail
      refine (stop_any _ _ _).mono ?_
      rintro e w' ⟨rfl, rfl⟩
      go_wp2_with fail
      go_ret
      exact ⟨ret_bool (by first | (simp; done) | (have := Q1.out; have := Q3.out; simp; omega)), hb⟩
  · have q4 : (y % 10 + 1 == 10) = false := by simp; omega
    have q5 := L4 (by omega)
    subst hb0
    obtain ⟨s5, s6⟩ := stop_bd (v := x % 60 + 1) (b := y % 10 + 1 + 1)
    clear L4
    by_cases hl : x % 60 + 1 - (y % 10 + 1) < 0
    · have hl0 : max (x % 60 + 1 - (y % 10 + 1)) 0 = 0 := by omega
      rw [hl0] at L1
      have q1 : (stop (x % 60 + 1) (y % 10 + 1) != stop 0 (y % 10 + 1)) = false := by rw [L1]; simp
      obtain ⟨s7, s8⟩ := stop_bd (v := 0) (b := (y % 10 + 1))
      have Q1 := Lib.hid L1
      clear L1
      go_enter Try.func4, Try.ntmps4
      go_wp2_with fail
      refine K.out.mono ?_
      rintro e w1 ⟨rfl, hb⟩
      go_wp2_with fail
      refine (stop_any _ _ _).mono ?_
      rintro e w' ⟨rfl, rfl⟩
      go_wp2_with fail
      refine (stop_any _ _ _).mono ?_
      rintro e w' ⟨rfl, rfl⟩
      go_wp2_with fail
      refine (stop_any _ _ _).mono ?_
      rintro e w' ⟨rfl, rfl⟩
      go_wp2_with fail
      refine (stop_any _ _ _).mono ?_
      rintro e w' ⟨rfl, rfl⟩
      go_wp2_with fail
      refine (stop_any _ _ _).mono ?_
      rintro e w' ⟨rfl, rfl⟩
      go_wp2_with fail
      refine (stop_any _ _ _).mono ?_
      rintro e w' ⟨rfl, rfl⟩
      go_wp2_with fail
      refine (stop_any _ _ _).mono ?_
      rintro e w' ⟨rfl, rfl⟩
      go_wp2_with fail
      go_ret
      exact ⟨ret_bool (by first | (simp; done) | (have := Q1.out; have := Q3.out; simp; omega)), hb⟩
    · have hl0 : max (x % 60 + 1 - (y % 10 + 1)) 0 = x % 60 + 1 - (y % 10 + 1) := by omega
      have hl1 : 0 ≤ x % 60 + 1 - (y % 10 + 1) := by omega
      rw [hl0] at L1
      have q1 : (stop (x % 60 + 1) (y % 10 + 1) != x % 60 + 1 - (y % 10 + 1) + stop (x % 60 + 1 - (y % 10 + 1)) (y % 10 + 1)) = false := by rw [← L1]; simp
      obtain ⟨s7, s8⟩ := stop_bd (v := x % 60 + 1 - (y % 10 + 1)) (b := (y % 10 + 1))
      have Q1 := Lib.hid L1
      clear L1
      go_enter Try.func4, Try.ntmps4
      go_wp2_with fail
      refine K.out.mono ?_
      rintro e w1 ⟨rfl, hb⟩
      go_wp2_with fail
      refine (stop_any _ _ _).mono ?_
      rintro e w' ⟨rfl, rfl⟩
      go_wp2_with fail
      refine (stop_any _ _ _).mono ?_
      rintro e w' ⟨rfl, rfl⟩
      go_wp2_with fail
      refine (stop_any _ _ _).mono ?_
      rintro e w' ⟨rfl, rfl⟩
      go_wp2_with fail
      refine (stop_any _ _ _).mono ?_
      rintro e w' ⟨rfl, rfl⟩
      go_wp2_with fail
      refine (stop_any _ _ _).mono ?_
      rintro e w' ⟨rfl, rfl⟩
      go_wp2_with fail
      refine (stop_any _ _ _).mono ?_
      rintro e w' ⟨rfl, rfl⟩
      go_wp2_with fail
      refine (stop_any _ _ _).mono ?_
      rintro e w' ⟨rfl, rfl⟩
      go_wp2_with fail
      go_ret
      exact ⟨ret_bool (by first | (simp; done) | (have := Q1.out; have := Q3.out; simp; omega)), hb⟩

set_option maxRecDepth 100000 in
theorem planStops_lifted (os : Os) (started : os.Started) (H : Type) (enc : TypeId × Value → H) :
    ReturnsInHanded {} Try.checked os 4 .any (Rows.planStopsSpec.pre6 enc Try.prog Try.f4 Rows.planStopsRow.domain false) (Rows.planStopsSpec.post enc Try.prog Try.f4 false true false false) := by
  refine returnsInHanded_of_change (C := Try.checked) own started (by kernel_rfl) Try.func4
    (ChangeSpec.witness6 (enc := enc) (C := Try.checked) false ⟨#[], #[.int .u8 0, .int .u8 0], []⟩ 8 (by kernel_rfl) (by kernel_rfl) (by kernel_rfl) (by kernel_rfl)) ?_
  intro W base args ds gs before hval0 hW hcnd _
  have hval : ∀ (j : Nat) t v, Try.f4.params[j]? = some t → args[j]? = some v → Value.okWide Try.prog W .any base t v := hval0
  have hW' := hW
  obtain ⟨p, q, hA0, hV, rfl, hfz, hnd⟩ := hW
  have hA : DataW.TrodAll enc Try.prog W 0 (fun _ => true) true Try.f4.params.toList args.toList ds p := hA0
  rw [Try.params4] at hA hval
  obtain ⟨v0, vs0, d0, ds0, p0, q0, hargs, rfl, rfl, k0, r0⟩ := trodAll_cons hA
  obtain ⟨v1, vs1, d1, ds1, p1, q1, rfl, rfl, rfl, k1, r1⟩ := trodAll_cons r0
  obtain ⟨rfl, rfl, rfl⟩ := trodAll_nil r1
  obtain rfl : args = #[v0, v1] := by cases args; simp_all
  obtain ⟨rfl, rfl⟩ := trodVars_none hV
  have lt0 : ∀ x ∈ p0, x.block < W.heap.size := by obtain ⟨m, hm⟩ := k0; exact DataW.trod_lt m _ _ _ hm
  have hv0 := hval 0 5 v0 rfl rfl
  have lt1 : ∀ x ∈ p1, x.block < W.heap.size := by obtain ⟨m, hm⟩ := k1; exact DataW.trod_lt m _ _ _ hm
  have hv1 := hval 1 5 v1 rfl rfl
  have fin : Calls Try.prog 4 #[v0, v1] W (fun e W' => e = .returned (.bool true) ∧ Below W.heap.size W W') := by
    obtain ⟨x0, rfl, a0, a1⟩ := open_u8 hv0 k0
    obtain ⟨x1, rfl, b0, b1⟩ := open_u8 hv1 k1
    exact lawStops_any W x0 x1 a0 a1 b0 b1
  clear hA0 hval0
  refine fin.mono fun e W' ⟨he, bel⟩ => ?_
  subst he
  exact ⟨_, rfl, _, _, _, [], _, [], hW', trodAll_mk1 (shut_bool Try.underlying4 _), (trodAll_cons_mk (Below.trod laidOut (by kernel_rfl) (of_decide_eq_true (by kernel_rfl)) k0 bel lt0) (trodAll_cons_mk (Below.trod laidOut (by kernel_rfl) (of_decide_eq_true (by kernel_rfl)) k1 bel lt1) trodAll_mk0)), rfl, bel.frame _, fun h => by cases h⟩

/-- THE STATEMENT -/
theorem planStops_holds : Rows.PlanStopsSaid :=
  OpenClaim.holds_of_wide 4 Try.f4 rfl rfl rfl rfl rfl rfl rfl ⟨rfl, rfl, rfl, rfl, rfl⟩ rfl rfl rfl rfl rfl (by kernel_rfl) Try.func4 (by kernel_rfl)
    (of_decide_eq_true (by kernel_rfl)) (by unfold Func.isWrapper; first | (rw [if_pos (by decide +kernel)]; kernel_rfl) | (rw [if_neg (by decide +kernel)]; exact ⟨rfl, rfl⟩))
    (fun os started H enc _ => planStops_lifted os started H enc)
end Go.Proofs.Ytlndfmflbdkpjaa
