/- LateTimes: for every input the law returns true. No condition. -/
import Derived.Test.YtkklnaejpgcgoaaLateAgree
import Derived.Test.YtkklnaejpgcgoaaLawW2
import Derived.Test.YtkklnaejpgcgoaaOpenWt
namespace Go.Proofs.Ytkklnaejpgcgoaa
open Go.ChangeShapes Go.WideShapes Go.ChangeAt Go.RowKit

/-- a row of numbers, nil where there is an error: it reads as some list -/
theorem nums_read {w : World} {B : Nat} {err : Int} {xs : List Int} {v : Value} (h : NumsOut w B err xs v) : ∃ a n c, v = .slice a n c ∧ Ints w a n (if err = 0 then xs else []) ∧ (a = none → c = 0) := by
  by_cases he : err = 0
  · have h1 := h.ok he
    obtain ⟨a, c, rfl, _, hc⟩ := own_slice h1
    exact ⟨a, _, c, rfl, by rw [if_pos he]; exact (own_ints h1).1, fun ha => (hc ha).2⟩
  · have h1 := h.no he
    exact ⟨none, 0, 0, h1, by rw [if_neg he]; exact Row.nil _ _, fun _ => rfl⟩

set_option maxHeartbeats 1000000 in
theorem lawTimes_any (w : World) (a1 a2 : Option Addr) (n1 c1 n2 c2 : Nat) (start : List Int) (l : List Wt) (h1 : Ints w a1 n1 start) (h2 : Wts w a2 n2 l) (hc : a1 = none → c1 = 0) :
    Calls Try.prog 3 #[.slice a1 n1 c1, .slice a2 n2 c2] w fun e w' => e = .returned (.bool true) ∧ Below w.heap.size w w' := by
  have b1 := h1.bnd
  have b2 := h2.bnd
  have K := Lib.hid (known_any w)
  have Hc := Lib.hid hc; clear hc
  by_cases hf : n1 ≤ 60 ∧ n2 ≤ 120
  · have hfd := Lib.hid (show decide (n1 ≤ 60 ∧ n2 ≤ 120) = true by simpa using hf)
    have hn2 : n2 ≤ 100000 := by omega
    have Hf := Lib.hid hf; clear hf
    go_enter Try.func3, Try.ntmps3
    go_wp2_with fail
    refine K.out.mono ?_
    rintro e w1 ⟨rfl, hb1⟩
    go_wp2_with fail
    refine (few_any w1 a1 a2 n1 c1 n2 c2 b1 b2).mono ?_
    rintro e w1' ⟨rfl, rfl⟩
    rw [hfd.out]
    have H1 := Lib.hid (lateTimes_any w1 a1 a2 n1 c1 n2 c2 start l (h1.below hb1) (h2.below hb1) Hc.out)
    go_wp2_with fail
    refine H1.out.mono ?_
    rintro e w2 ⟨v1, rfl, hn1, hb2⟩
    have hb2' := below_step hb1 hb2 hb1.size
    obtain ⟨x1, y1, z1, rfl, hr1, _⟩ := nums_read hn1
    clear hn1
    have H2 := Lib.hid (plain_any w2 a2 n2 c2 l (h2.below hb2') hn2)
    go_wp2_with fail
    refine H2.out.mono ?_
    rintro e w3 ⟨a3, c3, rfl, hl3, hb3⟩
    have hb3' := below_step hb2' hb3 hb2'.size
    have H3 := Lib.hid (reftimes_any w3 a1 a3 n1 c1 n2 c3 start l (RefR start l) (h1.below hb3') hl3 Hc.out (refOk start l))
    go_wp2_with fail
    refine H3.out.mono ?_
    rintro e w4 ⟨v4, rfl, hn4, hb4⟩
    have hb4' := below_step hb3' hb4 hb3'.size
    obtain ⟨x4, y4, z4, rfl, hr4, _⟩ := nums_read hn4
    clear hn4
    rw [err_eq]
    have hr1' := (hr1.below hb3).below hb4
    have H4 := Lib.hid (sameInts w4 x1 x4 y1 y4 z1 z4 _ _ hr1' hr4)
    have heq : ((if solveErr start l = 0 then timesRun l (lateOrder start.length l) start else []) == (if refErr start l (RefR start l) = 0 then timesRun l (RefR start l) start else [])) = true := by
      rw [err_eq]
      by_cases hs : solveErr start l = 0
      · rw [if_pos hs, if_pos hs, times_eq hs]; simp [timesOf]
      · rw [if_neg hs, if_neg hs]; rfl
    have Heq := Lib.hid heq
    clear heq hr1 hr4 hr1' hl3
    go_wp2_with fail
    refine H4.out.mono ?_
    rintro e w5 ⟨rfl, hb5⟩
    rw [Heq.out]
    go_wp2_with fail
    go_ret
    exact ⟨ret_bool (by simp), below_step hb4' hb5 hb4'.size⟩
  · have hfd := Lib.hid (show decide (n1 ≤ 60 ∧ n2 ≤ 120) = false by simpa using hf)
    have Hf := Lib.hid hf; clear hf
    go_enter Try.func3, Try.ntmps3
    go_wp2_with fail
    refine K.out.mono ?_
    rintro e w1 ⟨rfl, hb1⟩
    go_wp2_with fail
    refine (few_any w1 a1 a2 n1 c1 n2 c2 b1 b2).mono ?_
    rintro e w1' ⟨rfl, rfl⟩
    rw [hfd.out]
    go_wp2_with fail
    go_ret
    exact ⟨rfl, hb1⟩

set_option maxRecDepth 100000 in
theorem lateTimes_lifted (os : Os) (started : os.Started) (H : Type) (enc : TypeId × Value → H) :
    ReturnsInHanded {} Try.checked os 3 .any (Rows.lateTimesSpec.pre6 enc Try.prog Try.f3 Rows.lateTimesRow.domain false) (Rows.lateTimesSpec.post enc Try.prog Try.f3 false true false false) := by
  refine returnsInHanded_of_change (C := Try.checked) own started (by kernel_rfl) Try.func3
    (ChangeSpec.witness6 (enc := enc) (C := Try.checked) false ⟨#[], #[.slice none 0 0, .slice none 0 0], []⟩ 8 (by kernel_rfl) (by kernel_rfl) (by kernel_rfl) (by kernel_rfl)) ?_
  intro W base args ds gs before hval0 hW hcnd _
  have hval : ∀ (j : Nat) t v, Try.f3.params[j]? = some t → args[j]? = some v → Value.okWide Try.prog W .any base t v := hval0
  have hW' := hW
  obtain ⟨p, q, hA0, hV, rfl, hfz, hnd⟩ := hW
  have hA : DataW.TrodAll enc Try.prog W 0 (fun _ => true) true Try.f3.params.toList args.toList ds p := hA0
  rw [Try.params3] at hA hval
  obtain ⟨v0, vs0, d0, ds0, p0, q0, hargs, rfl, rfl, k0, r0⟩ := trodAll_cons hA
  obtain ⟨v1, vs1, d1, ds1, p1, q1, rfl, rfl, rfl, k1, r1⟩ := trodAll_cons r0
  obtain ⟨rfl, rfl, rfl⟩ := trodAll_nil r1
  obtain rfl : args = #[v0, v1] := by cases args; simp_all
  obtain ⟨rfl, rfl⟩ := trodVars_none hV
  have lt0 : ∀ x ∈ p0, x.block < W.heap.size := by obtain ⟨m, hm⟩ := k0; exact DataW.trod_lt m _ _ _ hm
  have hv0 := hval 0 22 v0 rfl rfl
  have lt1 : ∀ x ∈ p1, x.block < W.heap.size := by obtain ⟨m, hm⟩ := k1; exact DataW.trod_lt m _ _ _ hm
  have hv1 := hval 1 23 v1 rfl rfl
  have fin : Calls Try.prog 3 #[v0, v1] W (fun e W' => e = .returned (.bool true) ∧ Below W.heap.size W W') := by
    obtain ⟨a1, n1, c1, start, rfl, h1, _, hc, _⟩ := open_Ints hv0 k0
    obtain ⟨a2, n2, c2, l, rfl, h2, _, _, _⟩ := open_Wts hv1 k1
    exact lawTimes_any W a1 a2 n1 c1 n2 c2 start l h1 h2 hc
  clear hA0 hval0
  refine fin.mono fun e W' ⟨he, bel⟩ => ?_
  subst he
  exact ⟨_, rfl, _, _, _, [], _, [], hW', trodAll_mk1 (shut_bool Try.underlying4 _), (trodAll_cons_mk (Below.trod laidOut (by kernel_rfl) (of_decide_eq_true (by kernel_rfl)) k0 bel lt0) (trodAll_cons_mk (Below.trod laidOut (by kernel_rfl) (of_decide_eq_true (by kernel_rfl)) k1 bel lt1) trodAll_mk0)), rfl, bel.frame _, fun h => by cases h⟩

/-- THE STATEMENT -/
theorem lateTimes_holds : Rows.LateTimesSaid :=
  OpenClaim.holds_of_wide 3 Try.f3 rfl rfl rfl rfl rfl rfl rfl ⟨rfl, rfl, rfl, rfl, rfl⟩ rfl rfl rfl rfl rfl (by kernel_rfl) Try.func3 (by kernel_rfl)
    (of_decide_eq_true (by kernel_rfl)) (by unfold Func.isWrapper; first | (rw [if_pos (by decide +kernel)]; kernel_rfl) | (rw [if_neg (by decide +kernel)]; exact ⟨rfl, rfl⟩))
    (fun os started H enc _ => lateTimes_lifted os started H enc)
end Go.Proofs.Ytkklnaejpgcgoaa
