/- LateDelays: for every input the law returns true. No condition. -/
import Derived.Test.YtkklnaejpgcgoaaLawTimes
import Derived.Test.YtkklnaejpgcgoaaLateGrow
namespace Go.Proofs.Ytkklnaejpgcgoaa
open Go.ChangeShapes Go.WideShapes Go.ChangeAt Go.RowKit

set_option maxRecDepth 100000 in
set_option maxHeartbeats 1000000 in
theorem lawDelays_any (w : World) (a1 a2 : Option Addr) (n1 c1 n2 c2 : Nat) (start : List Int) (l : List Wt) (event byy more : Int) (h1 : Ints w a1 n1 start) (h2 : Wts w a2 n2 l) (hc : a1 = none → c1 = 0) :
    Calls Try.prog 7 #[.slice a1 n1 c1, .slice a2 n2 c2, .int .i64 event, .int .i64 byy, .int .i64 more] w fun e w' => e = .returned (.bool true) ∧ Below w.heap.size w w' := by
  obtain rfl := h1.len
  have b1 := h1.bnd
  have b2 := h2.bnd
  have K := Lib.hid (known_any w)
  have Hc := Lib.hid hc; clear hc
  by_cases hf : start.length ≤ 60 ∧ n2 ≤ 120
  · have hfd := Lib.hid (show decide (start.length ≤ 60 ∧ n2 ≤ 120) = true by simpa using hf)
    obtain ⟨hf1, hf2⟩ := hf
    go_enter Try.func7, Try.ntmps7
    go_wp2_with fail
    refine K.out.mono ?_
    rintro e w1 ⟨rfl, hb1⟩
    go_wp2_with fail
    refine (few_any w1 a1 a2 _ c1 n2 c2 b1 b2).mono ?_
    rintro e w1' ⟨rfl, rfl⟩
    rw [hfd.out]
    have H1 := Lib.hid (delay_any w1 a1 a2 _ c1 n2 c2 start l event byy (h1.below hb1) (h2.below hb1) Hc.out)
    go_wp2_with fail
    refine H1.out.mono ?_
    rintro e w2 ⟨v1, rfl, hn1, hb2⟩
    have hb2' := below_step hb1 hb2 hb1.size
    obtain ⟨x1, y1, z1, rfl, hr1, _⟩ := nums_read hn1
    have Hn1 := Lib.hid hn1
    clear hn1
    have H2 := Lib.hid (plain_any w2 a2 n2 c2 l (h2.below hb2') (by omega))
    go_wp2_with fail
    refine H2.out.mono ?_
    rintro e w3 ⟨a3, c3, rfl, hl3, hb3⟩
    have hb3' := below_step hb2' hb3 hb2'.size
    have H3 := Lib.hid (refdelay_any w3 a1 a3 _ c1 n2 c3 start l (RefR start l) event byy (h1.below hb3') hl3 Hc.out (refOk start l))
    go_wp2_with fail
    refine H3.out.mono ?_
    rintro e w4 ⟨v4, rfl, hn4, hb4⟩
    have hb4' := below_step hb3' hb4 hb3'.size
    obtain ⟨x4, y4, z4, rfl, hr4, _⟩ := nums_read hn4
    clear hn4
    rw [delayErr_eq]
    have hr1' := (hr1.below hb3).below hb4
    have H4 := Lib.hid (sameInts w4 x1 x4 y1 y4 z1 z4 _ _ hr1' hr4)
    have heq : ((if delayErr start l event byy = 0 then delayVal start l event byy else []) == (if refDelayErr start l (RefR start l) event byy = 0 then refDelayVal start l (RefR start l) event byy else [])) = true := by
      rw [delayErr_eq]
      by_cases hd : delayErr start l event byy = 0
      · rw [if_pos hd, if_pos hd, delayVal_eq' event byy (delayErr_zero hd).1]; simp
      · rw [if_neg hd, if_neg hd]; rfl
    have Heq := Lib.hid heq
    clear heq hr1 hr4 hr1' hl3
    go_wp2_with fail
    refine H4.out.mono ?_
    rintro e w5 ⟨rfl, hb5⟩
    have hb5' := below_step hb4' hb5 hb4'.size
    rw [Heq.out]
    by_cases hd : delayErr start l event byy = 0
    · obtain ⟨hs, e0, e1, bb0, bb1⟩ := delayErr_zero hd
      have o1 := Hn1.out.ok hd
      rw [delayVal_length] at o1
      have o1 := owns_below (owns_below (owns_below o1 hb3) hb4) hb5
      have O1 := Lib.hid o1
      have H5 := Lib.hid (delay_any w5 a1 a2 _ c1 n2 c2 start l event more (h1.below hb5') (h2.below hb5') Hc.out)
      have Hself := Lib.hid (delay_self hd)
      rw [hd]
      have Hd := Lib.hid hd
      clear hd hs o1
      obtain ⟨ga, capa, hga, _, hga2⟩ := own_shape O1.out (by omega)
      cases hga
      go_wp2_with fail
      refine H5.out.mono ?_
      rintro e w6 ⟨v6, rfl, hn6, hb6⟩
      have hb6' := below_step hb5' hb6 hb5'.size
      have o1 := owns_below O1.out hb6
      have O1 := Lib.hid o1
      have hga3 : ga < w6.heap.size := by have := hb6.size; omega
      clear o1
      by_cases hg : delayErr start l event more = 0
      · have o6 := hn6.ok hg
        rw [delayVal_length] at o6
        obtain ⟨gc, capc, hgc, _, hgc2⟩ := own_shape o6 (by omega)
        cases hgc
        have O6 := Lib.hid o6
        rw [hg]
        clear hg hn6 o6
        by_cases hm : byy ≤ more
        · have d4 : decide (byy ≤ more) = true := by simpa using hm
          go_wp2_with fail
          go_loopg [62] start.length (fun k i wr => ∃ j : Nat, j + k = start.length ∧ i = .int .i64 j ∧ Below w6.heap.size w6 wr)
          case atStart => exact ⟨0, by omega, rfl, Below.refl _ _⟩
          case round =>
            obtain ⟨j, hk, rfl, hb7⟩ := hrel
            have Hk := Lib.hid hk; clear hk
            by_cases hlt : j < start.length
            · have o1 := owns_below O1.out hb7
              have m1 : wr.cell? ⟨ga, j, none⟩ = some (.int .i64 (at0 (delayVal start l event byy) j)) := own_cell o1 hlt
              have ⟨r0, r1⟩ := delay_range Hd.out (j : Int) (by omega) (by omega)
              have d1 := lt_false (show ¬ at0 (delayVal start l event byy) j < 0 by omega)
              have d2 := lt_false (show ¬ byy < at0 (delayVal start l event byy) j by omega)
              have o6 := owns_below O6.out hb7
              have m2 : wr.cell? ⟨gc, j, none⟩ = some (.int .i64 (at0 (delayVal start l event more) j)) := own_cell o6 hlt
              have hmo := delay_mono Hd.out hm (j : Int) (by omega) (by omega)
              have d3 := lt_false (show ¬ at0 (delayVal start l event more) j < at0 (delayVal start l event byy) j by omega)
              clear o6
              clear o1
              go_wp2_with fail
              go_quiet (fail)
              go_wp2_with fail
              go_roundg (gk - 1)
              case measure => have := Hk.out; omega
              case rel => exact ⟨j + 1, by have := Hk.out; omega, by go_num, below_drewN hb7 _⟩
            · have o1 := owns_below O1.out hb7
              have m1 : wr.cell? ⟨ga, event.toNat, none⟩ = some (.int .i64 (at0 (delayVal start l event byy) event)) := own_cell o1 (by omega)
              rw [Hself.out] at m1
              clear o1
              go_wp2_with fail
              go_ret
              exact ⟨ret_bool (by simp), hb6'.trans (hb7.mono hb6'.size)⟩
        · have d4 : decide (byy ≤ more) = false := by simpa using hm
          go_wp2_with fail
          go_loopg [62] start.length (fun k i wr => ∃ j : Nat, j + k = start.length ∧ i = .int .i64 j ∧ Below w6.heap.size w6 wr)
          case atStart => exact ⟨0, by omega, rfl, Below.refl _ _⟩
          case round =>
            obtain ⟨j, hk, rfl, hb7⟩ := hrel
            have Hk := Lib.hid hk; clear hk
            by_cases hlt : j < start.length
            · have o1 := owns_below O1.out hb7
              have m1 : wr.cell? ⟨ga, j, none⟩ = some (.int .i64 (at0 (delayVal start l event byy) j)) := own_cell o1 hlt
              have ⟨r0, r1⟩ := delay_range Hd.out (j : Int) (by omega) (by omega)
              have d1 := lt_false (show ¬ at0 (delayVal start l event byy) j < 0 by omega)
              have d2 := lt_false (show ¬ byy < at0 (delayVal start l event byy) j by omega)
              clear o1
              go_wp2_with fail
              go_quiet (fail)
              go_wp2_with fail
              go_roundg (gk - 1)
              case measure => have := Hk.out; omega
              case rel => exact ⟨j + 1, by have := Hk.out; omega, by go_num, below_drewN hb7 _⟩
            · have o1 := owns_below O1.out hb7
              have m1 : wr.cell? ⟨ga, event.toNat, none⟩ = some (.int .i64 (at0 (delayVal start l event byy) event)) := own_cell o1 (by omega)
              rw [Hself.out] at m1
              clear o1
              go_wp2_with fail
              go_ret
              exact ⟨ret_bool (by simp), hb6'.trans (hb7.mono hb6'.size)⟩
      · have hv6 := hn6.no hg
        cases hv6
        have hq : (delayErr start l event more == 0) = false := by simpa using hg
        clear hg hn6
        go_wp2_with fail
        go_loopg [62] start.length (fun k i wr => ∃ j : Nat, j + k = start.length ∧ i = .int .i64 j ∧ Below w6.heap.size w6 wr)
        case atStart => exact ⟨0, by omega, rfl, Below.refl _ _⟩
        case round =>
          obtain ⟨j, hk, rfl, hb7⟩ := hrel
          have Hk := Lib.hid hk; clear hk
          by_cases hlt : j < start.length
          · have o1 := owns_below O1.out hb7
            have m1 : wr.cell? ⟨ga, j, none⟩ = some (.int .i64 (at0 (delayVal start l event byy) j)) := own_cell o1 hlt
            have ⟨r0, r1⟩ := delay_range Hd.out (j : Int) (by omega) (by omega)
            have d1 := lt_false (show ¬ at0 (delayVal start l event byy) j < 0 by omega)
            have d2 := lt_false (show ¬ byy < at0 (delayVal start l event byy) j by omega)
            clear o1
            go_wp2_with fail
            go_quiet (fail)
            go_wp2_with fail
            go_roundg (gk - 1)
            case measure => have := Hk.out; omega
            case rel => exact ⟨j + 1, by have := Hk.out; omega, by go_num, below_drewN hb7 _⟩
          · have o1 := owns_below O1.out hb7
            have m1 : wr.cell? ⟨ga, event.toNat, none⟩ = some (.int .i64 (at0 (delayVal start l event byy) event)) := own_cell o1 (by omega)
            rw [Hself.out] at m1
            clear o1
            go_wp2_with fail
            go_ret
            exact ⟨ret_bool (by simp), hb6'.trans (hb7.mono hb6'.size)⟩
    · have hq := neq_beq hd
      have Hd := Lib.hid hd
      clear hd
      go_wp2_with fail
      go_ret
      exact ⟨rfl, hb5'⟩
  · have hfd := Lib.hid (show decide (start.length ≤ 60 ∧ n2 ≤ 120) = false by simpa using hf)
    have Hf := Lib.hid hf; clear hf
    go_enter Try.func7, Try.ntmps7
    go_wp2_with fail
    refine K.out.mono ?_
    rintro e w1 ⟨rfl, hb1⟩
    go_wp2_with fail
    refine (few_any w1 a1 a2 _ c1 n2 c2 b1 b2).mono ?_
    rintro e w1' ⟨rfl, rfl⟩
    rw [hfd.out]
    go_wp2_with fail
    go_ret
    exact ⟨rfl, hb1⟩

set_option maxRecDepth 100000 in
theorem lateDelays_lifted (os : Os) (started : os.Started) (H : Type) (enc : TypeId × Value → H) :
    ReturnsInHanded {} Try.checked os 7 .any (Rows.lateDelaysSpec.pre6 enc Try.prog Try.f7 Rows.lateDelaysRow.domain false) (Rows.lateDelaysSpec.post enc Try.prog Try.f7 false true false false) := by
  refine returnsInHanded_of_change (C := Try.checked) own started (by kernel_rfl) Try.func7
    (ChangeSpec.witness6 (enc := enc) (C := Try.checked) false ⟨#[], #[.slice none 0 0, .slice none 0 0, .int .i64 0, .int .i64 0, .int .i64 0], []⟩ 8 (by kernel_rfl) (by kernel_rfl) (by kernel_rfl) (by kernel_rfl)) ?_
  intro W base args ds gs before hval0 hW hcnd _
  have hval : ∀ (j : Nat) t v, Try.f7.params[j]? = some t → args[j]? = some v → Value.okWide Try.prog W .any base t v := hval0
  have hW' := hW
  obtain ⟨p, q, hA0, hV, rfl, hfz, hnd⟩ := hW
  have hA : DataW.TrodAll enc Try.prog W 0 (fun _ => true) true Try.f7.params.toList args.toList ds p := hA0
  rw [Try.params7] at hA hval
  obtain ⟨v0, vs0, d0, ds0, p0, q0, hargs, rfl, rfl, k0, r0⟩ := trodAll_cons hA
  obtain ⟨v1, vs1, d1, ds1, p1, q1, rfl, rfl, rfl, k1, r1⟩ := trodAll_cons r0
  obtain ⟨v2, vs2, d2, ds2, p2, q2, rfl, rfl, rfl, k2, r2⟩ := trodAll_cons r1
  obtain ⟨v3, vs3, d3, ds3, p3, q3, rfl, rfl, rfl, k3, r3⟩ := trodAll_cons r2
  obtain ⟨v4, vs4, d4, ds4, p4, q4, rfl, rfl, rfl, k4, r4⟩ := trodAll_cons r3
  obtain ⟨rfl, rfl, rfl⟩ := trodAll_nil r4
  obtain rfl : args = #[v0, v1, v2, v3, v4] := by cases args; simp_all
  obtain ⟨rfl, rfl⟩ := trodVars_none hV
  have lt0 : ∀ x ∈ p0, x.block < W.heap.size := by obtain ⟨m, hm⟩ := k0; exact DataW.trod_lt m _ _ _ hm
  have hv0 := hval 0 22 v0 rfl rfl
  have lt1 : ∀ x ∈ p1, x.block < W.heap.size := by obtain ⟨m, hm⟩ := k1; exact DataW.trod_lt m _ _ _ hm
  have hv1 := hval 1 23 v1 rfl rfl
  have lt2 : ∀ x ∈ p2, x.block < W.heap.size := by obtain ⟨m, hm⟩ := k2; exact DataW.trod_lt m _ _ _ hm
  have hv2 := hval 2 3 v2 rfl rfl
  have lt3 : ∀ x ∈ p3, x.block < W.heap.size := by obtain ⟨m, hm⟩ := k3; exact DataW.trod_lt m _ _ _ hm
  have hv3 := hval 3 3 v3 rfl rfl
  have lt4 : ∀ x ∈ p4, x.block < W.heap.size := by obtain ⟨m, hm⟩ := k4; exact DataW.trod_lt m _ _ _ hm
  have hv4 := hval 4 3 v4 rfl rfl
  have fin : Calls Try.prog 7 #[v0, v1, v2, v3, v4] W (fun e W' => e = .returned (.bool true) ∧ Below W.heap.size W W') := by
    obtain ⟨a1, n1, c1, start, rfl, h1, _, hc, _⟩ := open_Ints hv0 k0
    obtain ⟨a2, n2, c2, l, rfl, h2, _, _, _⟩ := open_Wts hv1 k1
    obtain ⟨event, rfl, _⟩ := open_int Try.underlying3 hv2 k2
    obtain ⟨byy, rfl, _⟩ := open_int Try.underlying3 hv3 k3
    obtain ⟨more, rfl, _⟩ := open_int Try.underlying3 hv4 k4
    exact lawDelays_any W a1 a2 n1 c1 n2 c2 start l event byy more h1 h2 hc
  clear hA0 hval0
  refine fin.mono fun e W' ⟨he, bel⟩ => ?_
  subst he
  exact ⟨_, rfl, _, _, _, [], _, [], hW', trodAll_mk1 (shut_bool Try.underlying4 _), (trodAll_cons_mk (Below.trod laidOut (by kernel_rfl) (of_decide_eq_true (by kernel_rfl)) k0 bel lt0) (trodAll_cons_mk (Below.trod laidOut (by kernel_rfl) (of_decide_eq_true (by kernel_rfl)) k1 bel lt1) (trodAll_cons_mk (Below.trod laidOut (by kernel_rfl) (of_decide_eq_true (by kernel_rfl)) k2 bel lt2) (trodAll_cons_mk (Below.trod laidOut (by kernel_rfl) (of_decide_eq_true (by kernel_rfl)) k3 bel lt3) (trodAll_cons_mk (Below.trod laidOut (by kernel_rfl) (of_decide_eq_true (by kernel_rfl)) k4 bel lt4) trodAll_mk0))))), rfl, bel.frame _, fun h => by cases h⟩

/-- THE STATEMENT -/
theorem lateDelays_holds : Rows.LateDelaysSaid :=
  OpenClaim.holds_of_wide 7 Try.f7 rfl rfl rfl rfl rfl rfl rfl ⟨rfl, rfl, rfl, rfl, rfl⟩ rfl rfl rfl rfl rfl (by kernel_rfl) Try.func7 (by kernel_rfl)
    (of_decide_eq_true (by kernel_rfl)) (by unfold Func.isWrapper; first | (rw [if_pos (by decide +kernel)]; kernel_rfl) | (rw [if_neg (by decide +kernel)]; exact ⟨rfl, rfl⟩))
    (fun os started H enc _ => lateDelays_lifted os started H enc)
end Go.Proofs.Ytkklnaejpgcgoaa
