/- LateFits: for every input the law returns true. No condition. -/
import Derived.Test.YtkklnaejpgcgoaaLawTimes
import Derived.Test.YtkklnaejpgcgoaaLateGrow
namespace Go.Proofs.Ytkklnaejpgcgoaa
open Go.ChangeShapes Go.WideShapes Go.ChangeAt Go.RowKit

theorem slackErr_zero {start due : List Int} {l : List Wt} (h : slackErr start l due = 0) : solveErr start l = 0 ∧ due.length = start.length ∧ ∀ x ∈ due, 0 ≤ x ∧ x ≤ 1000000000 := by
  unfold slackErr at h
  by_cases hs : solveErr start l = 0
  · rw [if_neg (by simpa using hs)] at h
    split at h
    · simp at h
    · rename_i h1
      simp at h1
      exact ⟨hs, h1.1, fun x hx => offB_false (h1.2 x hx)⟩
  · rw [if_pos hs] at h; exact absurd h hs
theorem slackVal_length (start due : List Int) (l : List Wt) : (slackVal start l due).length = due.length := by
  unfold slackVal subRun; rw [subFold_length, slackRun_length]

def fitsAt (start due : List Int) (l : List Wt) (event byy : Int) (i : Nat) : Bool := decide (at0 (timesOf start l) i + at0 (delayVal start l event byy) i ≤ at0 due i)
theorem fits_all {start due : List Int} {l : List Wt} {event byy : Int} (h : delayErr start l event byy = 0) (hd : due.length = start.length)
    (hp : ∀ i : Int, 0 ≤ i → i < start.length → 0 ≤ at0 (slackVal start l due) i) : (List.range start.length).all (fitsAt start due l event byy) = decide (byy ≤ at0 (slackVal start l due) event) := by
  rw [Bool.eq_iff_iff, decide_eq_true_eq, ← delay_fits h hd hp, List.all_eq_true]
  constructor
  · intro g i i0 i1
    have := g i.toNat (List.mem_range.2 (by omega))
    unfold fitsAt at this
    rw [decide_eq_true_eq, show ((i.toNat : Nat) : Int) = i from by omega] at this
    exact this
  · intro g i hi
    have := g (i : Int) (by omega) (by have := List.mem_range.1 hi; omega)
    unfold fitsAt; simpa using this

set_option maxRecDepth 100000 in
set_option maxHeartbeats 1000000 in
theorem lawFits_any (w : World) (a1 a2 a5 : Option Addr) (n1 c1 n2 c2 n5 c5 : Nat) (start : List Int) (l : List Wt) (due : List Int) (event byy : Int) (h1 : Ints w a1 n1 start) (h2 : Wts w a2 n2 l) (h5 : Ints w a5 n5 due) (hc : a1 = none → c1 = 0) (hc5 : a5 = none → c5 = 0)
    (u0 : 0 ≤ byy) (u1 : byy ≤ 65535) :
    Calls Try.prog 10 #[.slice a1 n1 c1, .slice a2 n2 c2, .slice a5 n5 c5, .int .i64 event, .int .u16 byy] w fun e w' => e = .returned (.bool true) ∧ Below w.heap.size w w' := by
  obtain rfl := h1.len
  obtain rfl := h5.len
  have b1 := h1.bnd
  have b2 := h2.bnd
  have b5 := h5.bnd
  have K := Lib.hid (known_any w)
  have Hc := Lib.hid hc; clear hc
  have Hc5 := Lib.hid hc5; clear hc5
  by_cases hf : start.length ≤ 60 ∧ n2 ≤ 120
  · have hfd := Lib.hid (show decide (start.length ≤ 60 ∧ n2 ≤ 120) = true by simpa using hf)
    obtain ⟨hf1, hf2⟩ := hf
    go_enter Try.func10, Try.ntmps10
    go_wp2_with fail
    refine K.out.mono ?_
    rintro e w1 ⟨rfl, hb1⟩
    go_wp2_with fail
    refine (few_any w1 a1 a2 _ c1 n2 c2 b1 b2).mono ?_
    rintro e w1' ⟨rfl, rfl⟩
    rw [hfd.out]
    rcases Nat.lt_or_ge 100 due.length with hdl | hdl
    · go_wp2_with fail
      go_ret
      exact ⟨rfl, hb1⟩
    · have H1 := Lib.hid (slack_any w1 a1 a2 a5 _ c1 n2 c2 _ c5 start l due (h1.below hb1) (h2.below hb1) (h5.below hb1) Hc.out Hc5.out)
      go_wp2_with fail
      refine H1.out.mono ?_
      rintro e w2 ⟨v1, rfl, hn1, hb2⟩
      have hb2' := below_step hb1 hb2 hb1.size
      have H2 := Lib.hid (lateTimes_any w2 a1 a2 _ c1 n2 c2 start l (h1.below hb2') (h2.below hb2') Hc.out)
      by_cases hd : slackErr start l due = 0
      · obtain ⟨hs, hdn, hdb⟩ := slackErr_zero hd
        have o1 := hn1.ok hd
        rw [slackVal_length, hdn] at o1
        have O1 := Lib.hid o1
        rw [hd]
        obtain ⟨ax, cx, hvs, _, _⟩ := own_slice o1
        cases hvs
        have Hs := Lib.hid hs
        have Hd := Lib.hid hd
        have Hdb := Lib.hid hdb
        have Bt := Lib.hid (timesOf_bd hs)
        clear hn1 o1 hs hd hdb
        go_wp2_with fail
        refine H2.out.mono ?_
        rintro e w3 ⟨v3, rfl, hn3, hb3⟩
        have hb3' := below_step hb2' hb3 hb2'.size
        have o3 := hn3.ok Hs.out
        rw [timesRun_length] at o3
        have O3 : Hid (OwnI w3 w2.heap.size v3 start.length (timesOf start l)) := o3
        obtain ⟨at', ct, hvt, _, _⟩ := own_slice o3
        cases hvt
        rw [Hs.out]
        have o1 := owns_below O1.out hb3
        have O1 := Lib.hid o1
        clear hn3 o3 o1
        rcases Int.lt_or_le event 0 with e0 | e0
        · go_wp2_with fail
          go_ret
          exact ⟨rfl, hb3'⟩
        · rcases Int.lt_or_le event start.length with e1 | e1
          · have e0' : ¬ event < 0 := by omega
            have e1' : ¬ (start.length : Int) ≤ event := by omega
            obtain ⟨ga, capa, hga, _, hga2⟩ := own_shape O1.out (by omega)
            cases hga
            obtain ⟨gt, capt, hgt, _, hgt2⟩ := own_shape O3.out (by omega)
            cases hgt
            go_wp2_with fail
            go_loopg [76] start.length (fun k i wr => ∃ j : Nat, j + k = start.length ∧ i = .int .i64 j ∧ Hid (∀ i : Int, 0 ≤ i → i < j → 0 ≤ at0 (slackVal start l due) i) ∧ wr = w3)
            case atStart => exact ⟨0, by omega, rfl, by intro i i0 i1; omega, rfl⟩
            case round =>
              obtain ⟨j, hk, rfl, hpos, hwr3⟩ := hrel
              subst hwr3
              have Hk := Lib.hid hk; clear hk
              by_cases hlt : j < start.length
              · have m1 : wr.cell? ⟨ga, j, none⟩ = some (.int .i64 (at0 (slackVal start l due) j)) := own_cell O1.out hlt
                rcases Int.lt_or_le (at0 (slackVal start l due) j) 0 with hneg | hneg
                · go_wp2_with fail
                  go_ret
                  exact ⟨rfl, hb3'⟩
                · have hneg' : ¬ at0 (slackVal start l due) j < 0 := by omega
                  go_wp2_with fail
                  go_roundg (gk - 1)
                  case measure => have := Hk.out; omega
                  case rel =>
                    refine ⟨j + 1, by have := Hk.out; omega, by go_num, fun i i0 i1 => ?_, rfl⟩
                    rcases Int.lt_or_le i j with h | h
                    · exact hpos.out i i0 h
                    · have : i = (j : Int) := by omega
                      rw [this]; exact hneg
              · have Hpos : Hid (∀ i : Int, 0 ≤ i → i < start.length → 0 ≤ at0 (slackVal start l due) i) := fun i i0 i1 => hpos.out i i0 (by omega)
                clear hpos
                have hwu : IntKind.i64.wrap byy = byy := IntWalk.i64_in _ (by omega)
                rcases Int.lt_or_le 50000 byy with hby | hby
                · go_wp2_with fail
                  go_ret
                  exact ⟨rfl, hb3'⟩
                · have hby' : ¬ 50000 < byy := by omega
                  have hde := delayErr_ok (byy := byy) Hs.out e0 e1 u0 (by omega)
                  have H4 := Lib.hid (delay_any wr a1 a2 _ c1 n2 c2 start l event byy (h1.below hb3') (h2.below hb3') Hc.out)
                  rw [hde] at H4
                  have Hde := Lib.hid hde
                  clear hde
                  go_wp2_with fail
                  refine H4.out.mono ?_
                  rintro e w4 ⟨v4, rfl, hn4, hb4⟩
                  have hb4' := below_step hb3' hb4 hb3'.size
                  have o4 := hn4.ok rfl
                  rw [delayVal_length] at o4
                  obtain ⟨gd, capd, hgd, _, hgd2⟩ := own_shape o4 (by omega)
                  cases hgd
                  have O4 := Lib.hid o4
                  have O1 := Lib.hid (owns_below O1.out hb4)
                  have O3 := Lib.hid (owns_below O3.out hb4)
                  have Tl := Lib.hid (own_len O3.out)
                  have Dfin := Lib.hid (fits_all Hde.out hdn Hpos.out)
                  clear hn4 o4
                  go_wp2_with fail
                  go_loopg [18, 108] start.length (fun k bv i wr => ∃ (j : Nat) (b : Bool), j + k = start.length ∧ i = .int .i64 j ∧ bv = .bool b ∧ Hid ((b && ((List.range start.length).drop j).all (fitsAt start due l event byy)) = (List.range start.length).all (fitsAt start due l event byy)) ∧ Below w4.heap.size w4 wr)
                  case atStart => exact ⟨0, true, by omega, rfl, rfl, by unfold Hid; simp, Below.refl _ _⟩
                  case round =>
                    obtain ⟨q, b, hk, rfl, rfl, hru, hb6⟩ := hrel
                    have Hk := Lib.hid hk; clear hk
                    by_cases hlt2 : q < start.length
                    · have o1 := owns_below O1.out hb6
                      have o3 := owns_below O3.out hb6
                      have o4 := owns_below O4.out hb6
                      have m1 : wr.cell? ⟨gt, q, none⟩ = some (.int .i64 (at0 (timesOf start l) q)) := own_cell o3 hlt2
                      have m2 : wr.cell? ⟨gd, q, none⟩ = some (.int .i64 (at0 (delayVal start l event byy) q)) := own_cell o4 hlt2
                      obtain ⟨p5, o5, ha5, hp5, g5⟩ := h5.at0 (i := (q : Int)) (by omega) (by omega)
                      cases ha5
                      have hbb := hb4'.trans (hb6.mono hb4'.size)
                      have g5 := (hbb.cell (p := ⟨p5, o5 + (q : Int).toNat, none⟩) hp5).trans g5
                      rw [Int.toNat_natCast] at g5
                      obtain ⟨q1, q2⟩ := bd2_at Bt.out (i := (q : Int)) (by omega) (by have := Tl.out; omega)
                      have ⟨r0, r1⟩ := delay_range Hde.out (q : Int) (by omega) (by omega)
                      have hn := hru.out
                      rw [drop_cons (show (List.range start.length)[q]? = some q by simp [hlt2]), List.all_cons] at hn
                      have Hbb := Lib.hid hbb
                      clear o1 o3 o4 hbb hru
                      cases b
                      · have Hn : Hid ((false && ((List.range start.length).drop (q + 1)).all (fitsAt start due l event byy)) = (List.range start.length).all (fitsAt start due l event byy)) := hn
                        clear hn
                        go_wp2_with fail
                        have hwr : IntKind.i64.wrap (at0 (timesOf start l) q + at0 (delayVal start l event byy) q) = at0 (timesOf start l) q + at0 (delayVal start l event byy) q := IntWalk.i64_in _ (by omega)
                        go_quiet (fail)
                        go_wp2_with fail
                        go_roundg (gk - 1)
                        case measure => have := Hk.out; omega
                        case rel => exact ⟨q + 1, _, by have := Hk.out; omega, by go_num, rfl, Hn.out, below_drewN hb6 _⟩
                      · by_cases hfit : at0 (timesOf start l) q + at0 (delayVal start l event byy) q ≤ at0 due q
                        · have d1 : decide (at0 (timesOf start l) q + at0 (delayVal start l event byy) q ≤ at0 due q) = true := by simpa using hfit
                          have Hn : Hid ((true && ((List.range start.length).drop (q + 1)).all (fitsAt start due l event byy)) = (List.range start.length).all (fitsAt start due l event byy)) := by
                            unfold Hid; rw [← hn, show fitsAt start due l event byy q = true from d1]; rfl
                          clear hn hfit
                          go_wp2_with fail
                          have hwr : IntKind.i64.wrap (at0 (timesOf start l) q + at0 (delayVal start l event byy) q) = at0 (timesOf start l) q + at0 (delayVal start l event byy) q := IntWalk.i64_in _ (by omega)
                          go_quiet (fail)
                          go_wp2_with fail
                          go_roundg (gk - 1)
                          case measure => have := Hk.out; omega
                          case rel => exact ⟨q + 1, _, by have := Hk.out; omega, by go_num, rfl, Hn.out, below_drewN hb6 _⟩
                        · have d1 : decide (at0 (timesOf start l) q + at0 (delayVal start l event byy) q ≤ at0 due q) = false := by simpa using hfit
                          have Hn : Hid ((false && ((List.range start.length).drop (q + 1)).all (fitsAt start due l event byy)) = (List.range start.length).all (fitsAt start due l event byy)) := by
                            unfold Hid; rw [← hn, show fitsAt start due l event byy q = false from d1]; rfl
                          clear hn hfit
                          go_wp2_with fail
                          have hwr : IntKind.i64.wrap (at0 (timesOf start l) q + at0 (delayVal start l event byy) q) = at0 (timesOf start l) q + at0 (delayVal start l event byy) q := IntWalk.i64_in _ (by omega)
                          go_quiet (fail)
                          go_wp2_with fail
                          go_roundg (gk - 1)
                          case measure => have := Hk.out; omega
                          case rel => exact ⟨q + 1, _, by have := Hk.out; omega, by go_num, rfl, Hn.out, below_drewN hb6 _⟩
                    · have hb0 : b = decide (byy ≤ at0 (slackVal start l due) event) := by
                        have := hru.out
                        rw [Dfin.out, drop_end (List.length_range (n := start.length)) (by omega)] at this
                        simpa using this
                      have o1 := owns_below O1.out hb6
                      have m1 : wr.cell? ⟨ga, event.toNat, none⟩ = some (.int .i64 (at0 (slackVal start l due) event)) := own_cell o1 (by omega)
                      have Hb0 := Lib.hid hb0
                      clear hru o1 hb0
                      go_wp2_with fail
                      go_ret
                      exact ⟨ret_bool (by rw [Hb0.out]; simp), hb4'.trans (hb6.mono hb4'.size)⟩
          · go_wp2_with fail
            go_ret
            exact ⟨rfl, hb3'⟩
      · have hq := neq_beq hd
        have Hd := Lib.hid hd
        clear hd hn1
        go_wp2_with fail
        refine H2.out.mono ?_
        rintro e w3 ⟨v3, rfl, hn3, hb3⟩
        have hb3' := below_step hb2' hb3 hb2'.size
        clear hn3
        go_wp2_with fail
        go_ret
        exact ⟨rfl, hb3'⟩
  · have hfd := Lib.hid (show decide (start.length ≤ 60 ∧ n2 ≤ 120) = false by simpa using hf)
    have Hf := Lib.hid hf; clear hf
    go_enter Try.func10, Try.ntmps10
    go_wp2_with fail
    refine K.out.mono ?_
    rintro e w1 ⟨rfl, hb1⟩
    go_wp2_with fail
    refine (few_any w1 a1 a2 _ c1 n2 c2 b1 b2).mono ?_
    rintro e w1' ⟨rfl, rfl⟩
    rw [hfd.out]
    go_wp2_with fail
    go_ret
    exact ⟨rfl, hb1⟩

set_option maxRecDepth 100000 in
theorem lateFits_lifted (os : Os) (started : os.Started) (H : Type) (enc : TypeId × Value → H) :
    ReturnsInHanded {} Try.checked os 10 .any (Rows.lateFitsSpec.pre6 enc Try.prog Try.f10 Rows.lateFitsRow.domain false) (Rows.lateFitsSpec.post enc Try.prog Try.f10 false true false false) := by
  refine returnsInHanded_of_change (C := Try.checked) own started (by kernel_rfl) Try.func10
    (ChangeSpec.witness6 (enc := enc) (C := Try.checked) false ⟨#[], #[.slice none 0 0, .slice none 0 0, .slice none 0 0, .int .i64 0, .int .u16 0], []⟩ 8 (by kernel_rfl) (by kernel_rfl) (by kernel_rfl) (by kernel_rfl)) ?_
  intro W base args ds gs before hval0 hW hcnd _
  have hval : ∀ (j : Nat) t v, Try.f10.params[j]? = some t → args[j]? = some v → Value.okWide Try.prog W .any base t v := hval0
  have hW' := hW
  obtain ⟨p, q, hA0, hV, rfl, hfz, hnd⟩ := hW
  have hA : DataW.TrodAll enc Try.prog W 0 (fun _ => true) true Try.f10.params.toList args.toList ds p := hA0
  rw [Try.params10] at hA hval
  obtain ⟨v0, vs0, d0, ds0, p0, q0, hargs, rfl, rfl, k0, r0⟩ := trodAll_cons hA
  obtain ⟨v1, vs1, d1, ds1, p1, q1, rfl, rfl, rfl, k1, r1⟩ := trodAll_cons r0
  obtain ⟨v2, vs2, d2, ds2, p2, q2, rfl, rfl, rfl, k2, r2⟩ := trodAll_cons r1
  obtain ⟨v3, vs3, d3, ds3, p3, q3, rfl, rfl, rfl, k3, r3⟩ := trodAll_cons r2
  obtain ⟨v4, vs4, d4, ds4, p4, q4, rfl, rfl, rfl, k4, r4⟩ := trodAll_cons r3
  obtain ⟨rfl, rfl, rfl⟩ := trodAll_nil r4
  obtain rfl : args = #[v0, v1, v2, v3, v4] := by cases args; simp_all
  obtain ⟨rfl, rfl⟩ := trodVars_none hV
  have lt0 : ∀ x ∈ p0, x.block < W.heap.size := by obtain ⟨m, hm⟩ := k0; exact DataW.trod_lt m _ _ _ hm
  have hv0 := hval 0 22 v0 rfl rfl
  have lt1 : ∀ x ∈ p1, x.block < W.heap.size := by obtain ⟨m, hm⟩ := k1; exact DataW.trod_lt m _ _ _ hm
  have hv1 := hval 1 23 v1 rfl rfl
  have lt2 : ∀ x ∈ p2, x.block < W.heap.size := by obtain ⟨m, hm⟩ := k2; exact DataW.trod_lt m _ _ _ hm
  have hv2 := hval 2 22 v2 rfl rfl
  have lt3 : ∀ x ∈ p3, x.block < W.heap.size := by obtain ⟨m, hm⟩ := k3; exact DataW.trod_lt m _ _ _ hm
  have hv3 := hval 3 3 v3 rfl rfl
  have lt4 : ∀ x ∈ p4, x.block < W.heap.size := by obtain ⟨m, hm⟩ := k4; exact DataW.trod_lt m _ _ _ hm
  have hv4 := hval 4 42 v4 rfl rfl
  have fin : Calls Try.prog 10 #[v0, v1, v2, v3, v4] W (fun e W' => e = .returned (.bool true) ∧ Below W.heap.size W W') := by
    obtain ⟨a1, n1, c1, start, rfl, h1, _, hc, _⟩ := open_Ints hv0 k0
    obtain ⟨a2, n2, c2, l, rfl, h2, _, _, _⟩ := open_Wts hv1 k1
    obtain ⟨a5, n5, c5, due, rfl, h5, _, hc5, _⟩ := open_Ints hv2 k2
    obtain ⟨event, rfl, _⟩ := open_int Try.underlying3 hv3 k3
    obtain ⟨byy, rfl, _, _, hwf⟩ := open_int Try.underlying42 hv4 k4
    have hwf : IntKind.u16.min ≤ byy ∧ byy ≤ IntKind.u16.max := by simpa [Lit.wf] using hwf
    have hwf : 0 ≤ byy ∧ byy ≤ 65535 := hwf
    exact lawFits_any W a1 a2 a5 n1 c1 n2 c2 n5 c5 start l due event byy h1 h2 h5 hc hc5 hwf.1 hwf.2
  clear hA0 hval0
  refine fin.mono fun e W' ⟨he, bel⟩ => ?_
  subst he
  exact ⟨_, rfl, _, _, _, [], _, [], hW', trodAll_mk1 (shut_bool Try.underlying4 _), (trodAll_cons_mk (Below.trod laidOut (by kernel_rfl) (of_decide_eq_true (by kernel_rfl)) k0 bel lt0) (trodAll_cons_mk (Below.trod laidOut (by kernel_rfl) (of_decide_eq_true (by kernel_rfl)) k1 bel lt1) (trodAll_cons_mk (Below.trod laidOut (by kernel_rfl) (of_decide_eq_true (by kernel_rfl)) k2 bel lt2) (trodAll_cons_mk (Below.trod laidOut (by kernel_rfl) (of_decide_eq_true (by kernel_rfl)) k3 bel lt3) (trodAll_cons_mk (Below.trod laidOut (by kernel_rfl) (of_decide_eq_true (by kernel_rfl)) k4 bel lt4) trodAll_mk0))))), rfl, bel.frame _, fun h => by cases h⟩

/-- THE STATEMENT -/
theorem lateFits_holds : Rows.LateFitsSaid :=
  OpenClaim.holds_of_wide 10 Try.f10 rfl rfl rfl rfl rfl rfl rfl ⟨rfl, rfl, rfl, rfl, rfl⟩ rfl rfl rfl rfl rfl (by kernel_rfl) Try.func10 (by kernel_rfl)
    (of_decide_eq_true (by kernel_rfl)) (by unfold Func.isWrapper; first | (rw [if_pos (by decide +kernel)]; kernel_rfl) | (rw [if_neg (by decide +kernel)]; exact ⟨rfl, rfl⟩))
    (fun os started H enc _ => lateFits_lifted os started H enc)
end Go.Proofs.Ytkklnaejpgcgoaa
