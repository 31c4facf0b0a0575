/- LateSlacks: for every input the law returns true. No condition. -/
import Derived.Test.YtkklnaejpgcgoaaLawTimes
namespace Go.Proofs.Ytkklnaejpgcgoaa
open Go.ChangeShapes Go.WideShapes Go.ChangeAt Go.RowKit

theorem slack_len {start due : List Int} {l : List Wt} (h : slackErr start l due = 0) : solveErr start l = 0 ∧ due.length = start.length := by
  unfold slackErr at h
  split at h
  · rename_i h1; exact absurd h h1
  · rename_i h1
    split at h
    · cases h
    · rename_i h2
      simp only [Bool.or_eq_true, decide_eq_true_eq, not_or, Decidable.not_not] at h1 h2
      exact ⟨h1, h2.1⟩

set_option maxHeartbeats 1000000 in
theorem lawSlacks_any (w : World) (a1 a2 a5 : Option Addr) (n1 c1 n2 c2 n5 c5 : Nat) (start : List Int) (l : List Wt) (due : List Int) (h1 : Ints w a1 n1 start) (h2 : Wts w a2 n2 l) (h5 : Ints w a5 n5 due) (hc : a1 = none → c1 = 0) (hc5 : a5 = none → c5 = 0) :
    Calls Try.prog 9 #[.slice a1 n1 c1, .slice a2 n2 c2, .slice a5 n5 c5] w fun e w' => e = .returned (.bool true) ∧ Below w.heap.size w w' := by
  have b1 := h1.bnd
  have b2 := h2.bnd
  have b5 := h5.bnd
  have K := Lib.hid (known_any w)
  have Hc := Lib.hid hc; clear hc
  have Hc5 := Lib.hid hc5; clear hc5
  by_cases hf : n1 ≤ 60 ∧ n2 ≤ 120
  · have hfd := Lib.hid (show decide (n1 ≤ 60 ∧ n2 ≤ 120) = true by simpa using hf)
    have hn2 : n2 ≤ 100000 := by omega
    have Hf := Lib.hid hf; clear hf
    by_cases hd : n5 ≤ 100
    · go_enter Try.func9, Try.ntmps9
      go_wp2_with fail
      refine K.out.mono ?_
      rintro e w1 ⟨rfl, hb1⟩
      go_wp2_with fail
      refine (few_any w1 a1 a2 n1 c1 n2 c2 b1 b2).mono ?_
      rintro e w1' ⟨rfl, rfl⟩
      rw [hfd.out]
      have H1 := Lib.hid (slack_any w1 a1 a2 a5 n1 c1 n2 c2 n5 c5 start l due (h1.below hb1) (h2.below hb1) (h5.below hb1) Hc.out Hc5.out)
      go_wp2_with fail
      refine H1.out.mono ?_
      rintro e w2 ⟨v1, rfl, hn1, hb2⟩
      have hb2' := below_step hb1 hb2 hb1.size
      obtain ⟨x1, y1, z1, rfl, hr1, _⟩ := nums_read hn1
      clear hn1
      have H2 := Lib.hid (plain_any w2 a2 n2 c2 l (h2.below hb2') hn2)
      go_wp2_with fail
      refine H2.out.mono ?_
      rintro e w3 ⟨a3, c3, rfl, hl3, hb3⟩
      have hb3' := below_step hb2' hb3 hb2'.size
      have H3 := Lib.hid (refslack_any w3 a1 a3 a5 n1 c1 n2 c3 n5 c5 start l due (RefR start l) (h1.below hb3') hl3 (h5.below hb3') Hc.out Hc5.out (refOk start l))
      go_wp2_with fail
      refine H3.out.mono ?_
      rintro e w4 ⟨v4, rfl, hn4, hb4⟩
      have hb4' := below_step hb3' hb4 hb3'.size
      obtain ⟨x4, y4, z4, rfl, hr4, _⟩ := nums_read hn4
      clear hn4
      rw [slackErr_eq]
      have hr1' := (hr1.below hb3).below hb4
      have H4 := Lib.hid (sameInts w4 x1 x4 y1 y4 z1 z4 _ _ hr1' hr4)
      have heq : ((if slackErr start l due = 0 then slackVal start l due else []) == (if refSlackErr start l (RefR start l) due = 0 then refSlackVal start l (RefR start l) due else [])) = true := by
        rw [slackErr_eq]
        by_cases hs : slackErr start l due = 0
        · obtain ⟨hs1, hs2⟩ := slack_len hs
          rw [if_pos hs, if_pos hs, slackVal_eq' hs1 hs2]; simp
        · rw [if_neg hs, if_neg hs]; rfl
      have Heq := Lib.hid heq
      clear heq hr1 hr4 hr1' hl3
      go_wp2_with fail
      refine H4.out.mono ?_
      rintro e w5 ⟨rfl, hb5⟩
      rw [Heq.out]
      go_wp2_with fail
      go_ret
      exact ⟨ret_bool (by simp), below_step hb4' hb5 hb4'.size⟩
    · go_enter Try.func9, Try.ntmps9
      go_wp2_with fail
      refine K.out.mono ?_
      rintro e w1 ⟨rfl, hb1⟩
      go_wp2_with fail
      refine (few_any w1 a1 a2 n1 c1 n2 c2 b1 b2).mono ?_
      rintro e w1' ⟨rfl, rfl⟩
      rw [hfd.out]
      go_wp2_with fail
      go_ret
      exact ⟨rfl, hb1⟩
  · have hfd := Lib.hid (show decide (n1 ≤ 60 ∧ n2 ≤ 120) = false by simpa using hf)
    have Hf := Lib.hid hf; clear hf
    go_enter Try.func9, Try.ntmps9
    go_wp2_with fail
    refine K.out.mono ?_
    rintro e w1 ⟨rfl, hb1⟩
    go_wp2_with fail
    refine (few_any w1 a1 a2 n1 c1 n2 c2 b1 b2).mono ?_
    rintro e w1' ⟨rfl, rfl⟩
    rw [hfd.out]
    go_wp2_with fail
    go_ret
    exact ⟨rfl, hb1⟩

set_option maxRecDepth 100000 in
theorem lateSlacks_lifted (os : Os) (started : os.Started) (H : Type) (enc : TypeId × Value → H) :
    ReturnsInHanded {} Try.checked os 9 .any (Rows.lateSlacksSpec.pre6 enc Try.prog Try.f9 Rows.lateSlacksRow.domain false) (Rows.lateSlacksSpec.post enc Try.prog Try.f9 false true false false) := by
  refine returnsInHanded_of_change (C := Try.checked) own started (by kernel_rfl) Try.func9
    (ChangeSpec.witness6 (enc := enc) (C := Try.checked) false ⟨#[], #[.slice none 0 0, .slice none 0 0, .slice none 0 0], []⟩ 8 (by kernel_rfl) (by kernel_rfl) (by kernel_rfl) (by kernel_rfl)) ?_
  intro W base args ds gs before hval0 hW hcnd _
  have hval : ∀ (j : Nat) t v, Try.f9.params[j]? = some t → args[j]? = some v → Value.okWide Try.prog W .any base t v := hval0
  have hW' := hW
  obtain ⟨p, q, hA0, hV, rfl, hfz, hnd⟩ := hW
  have hA : DataW.TrodAll enc Try.prog W 0 (fun _ => true) true Try.f9.params.toList args.toList ds p := hA0
  rw [Try.params9] at hA hval
  obtain ⟨v0, vs0, d0, ds0, p0, q0, hargs, rfl, rfl, k0, r0⟩ := trodAll_cons hA
  obtain ⟨v1, vs1, d1, ds1, p1, q1, rfl, rfl, rfl, k1, r1⟩ := trodAll_cons r0
  obtain ⟨v2, vs2, d2, ds2, p2, q2, rfl, rfl, rfl, k2, r2⟩ := trodAll_cons r1
  obtain ⟨rfl, rfl, rfl⟩ := trodAll_nil r2
  obtain rfl : args = #[v0, v1, v2] := by cases args; simp_all
  obtain ⟨rfl, rfl⟩ := trodVars_none hV
  have lt0 : ∀ x ∈ p0, x.block < W.heap.size := by obtain ⟨m, hm⟩ := k0; exact DataW.trod_lt m _ _ _ hm
  have hv0 := hval 0 22 v0 rfl rfl
  have lt1 : ∀ x ∈ p1, x.block < W.heap.size := by obtain ⟨m, hm⟩ := k1; exact DataW.trod_lt m _ _ _ hm
  have hv1 := hval 1 23 v1 rfl rfl
  have lt2 : ∀ x ∈ p2, x.block < W.heap.size := by obtain ⟨m, hm⟩ := k2; exact DataW.trod_lt m _ _ _ hm
  have hv2 := hval 2 22 v2 rfl rfl
  have fin : Calls Try.prog 9 #[v0, v1, v2] W (fun e W' => e = .returned (.bool true) ∧ Below W.heap.size W W') := by
    obtain ⟨a1, n1, c1, start, rfl, h1, _, hc, _⟩ := open_Ints hv0 k0
    obtain ⟨a2, n2, c2, l, rfl, h2, _, _, _⟩ := open_Wts hv1 k1
    obtain ⟨a5, n5, c5, due, rfl, h5, _, hc5, _⟩ := open_Ints hv2 k2
    exact lawSlacks_any W a1 a2 a5 n1 c1 n2 c2 n5 c5 start l due h1 h2 h5 hc hc5
  clear hA0 hval0
  refine fin.mono fun e W' ⟨he, bel⟩ => ?_
  subst he
  exact ⟨_, rfl, _, _, _, [], _, [], hW', trodAll_mk1 (shut_bool Try.underlying4 _), (trodAll_cons_mk (Below.trod laidOut (by kernel_rfl) (of_decide_eq_true (by kernel_rfl)) k0 bel lt0) (trodAll_cons_mk (Below.trod laidOut (by kernel_rfl) (of_decide_eq_true (by kernel_rfl)) k1 bel lt1) (trodAll_cons_mk (Below.trod laidOut (by kernel_rfl) (of_decide_eq_true (by kernel_rfl)) k2 bel lt2) trodAll_mk0))), rfl, bel.frame _, fun h => by cases h⟩

/-- THE STATEMENT -/
theorem lateSlacks_holds : Rows.LateSlacksSaid :=
  OpenClaim.holds_of_wide 9 Try.f9 rfl rfl rfl rfl rfl rfl rfl ⟨rfl, rfl, rfl, rfl, rfl⟩ rfl rfl rfl rfl rfl (by kernel_rfl) Try.func9 (by kernel_rfl)
    (of_decide_eq_true (by kernel_rfl)) (by unfold Func.isWrapper; first | (rw [if_pos (by decide +kernel)]; kernel_rfl) | (rw [if_neg (by decide +kernel)]; exact ⟨rfl, rfl⟩))
    (fun os started H enc _ => lateSlacks_lifted os started H enc)
end Go.Proofs.Ytkklnaejpgcgoaa
