/- LateLeast: for every input the law returns true. No condition. -/
import Derived.Test.YtkklnaejpgcgoaaLawTimes
namespace Go.Proofs.Ytkklnaejpgcgoaa
open Go.ChangeShapes Go.WideShapes Go.ChangeAt Go.RowKit

def tightHit (T : List Int) (i : Int) (x : Wt) : Bool := decide (x.to = i) && decide (at0 T i = at0 T x.frm + x.gap)
theorem tight_all {n : Nat} {l : List Wt} {start T : List Int} (h : Sol n l start T) {i : Int} (i0 : 0 ≤ i) (i1 : i < n) : (decide (at0 T i = at0 start i) || l.any (tightHit T i)) = true := by
  rcases h.eq i i0 i1 with h1 | ⟨x, hx, hxt, h1⟩
  · simp [h1]
  · simp only [Bool.or_eq_true, List.any_eq_true]
    exact .inr ⟨x, hx, by simp [tightHit, hxt, h1]⟩

set_option maxRecDepth 100000 in
set_option maxHeartbeats 2000000 in
theorem lawLeast_any (w : World) (a1 a2 : Option Addr) (n1 c1 n2 c2 : Nat) (start : List Int) (l : List Wt) (h1 : Ints w a1 n1 start) (h2 : Wts w a2 n2 l) (hc : a1 = none → c1 = 0) :
    Calls Try.prog 5 #[.slice a1 n1 c1, .slice a2 n2 c2] w fun e w' => e = .returned (.bool true) ∧ Below w.heap.size w w' := by
  obtain rfl := h1.len
  have b1 := h1.bnd
  have b2 := h2.bnd
  have K := Lib.hid (known_any w)
  have Hc := Lib.hid hc; clear hc
  by_cases hf : start.length ≤ 60 ∧ n2 ≤ 120
  · have hfd := Lib.hid (show decide (start.length ≤ 60 ∧ n2 ≤ 120) = true by simpa using hf)
    have hn2 : n2 ≤ 120 := hf.2
    have hn1 : start.length ≤ 60 := hf.1
    clear hf
    by_cases hs : solveErr start l = 0
    · have hsol := timesOf_sol hs
      have Hsol := Lib.hid hsol; clear hsol
      have Bt := Lib.hid (timesOf_bd hs)
      have Hz := Lib.hid (lateCheck_zero (solveErr_zero hs).1)
      have Hs := Lib.hid hs; clear hs
      go_enter Try.func5, Try.ntmps5
      go_wp2_with fail
      refine K.out.mono ?_
      rintro e w1 ⟨rfl, hb1⟩
      go_wp2_with fail
      refine (few_any w1 a1 a2 _ c1 n2 c2 b1 b2).mono ?_
      rintro e w1' ⟨rfl, rfl⟩
      rw [hfd.out]
      have H1 := Lib.hid (lateTimes_any w1 a1 a2 _ c1 n2 c2 start l (h1.below hb1) (h2.below hb1) Hc.out)
      go_wp2_with fail
      refine H1.out.mono ?_
      rintro e w2 ⟨v1, rfl, hnn, hb2⟩
      have hb2' := below_step hb1 hb2 hb1.size
      rw [Hs.out]
      have o1 := hnn.ok Hs.out
      rw [timesRun_length] at o1
      have O1 : Hid (OwnI w2 w1.heap.size v1 start.length (timesOf start l)) := o1
      clear o1 hnn
      obtain ⟨at', ct, hat, _, _⟩ := own_slice O1.out
      cases hat
      go_wp2_with fail
      go_loopg [35] start.length (fun k i wr => ∃ j : Nat, j + k = start.length ∧ i = .int .i64 j ∧ Below w2.heap.size w2 wr)
      case atStart => exact ⟨0, by omega, rfl, Below.refl _ _⟩
      case round =>
        obtain ⟨wo, rfl⟩ : ∃ wo : World, wo = wr := ⟨_, rfl⟩
        obtain ⟨j, hk, rfl, hb3⟩ := hrel
        have Hk := Lib.hid hk; clear hk
        by_cases hlt : j < start.length
        · have hot := owns_below O1.out hb3
          obtain ⟨gt, capt, hgt, _, hgt2⟩ := own_shape hot (by omega)
          cases hgt
          have tl := own_len hot
          have m1 : wo.cell? ⟨gt, j, none⟩ = some (.int .i64 (at0 (timesOf start l) j)) := own_cell hot hlt
          obtain ⟨p1, o1, ha1, hp1, g1⟩ := h1.at0 (i := (j : Int)) (by omega) (by omega)
          cases ha1
          have hbb := hb2'.trans (hb3.mono hb2'.size)
          have g1 := (hbb.cell (p := ⟨p1, o1 + (j : Int).toNat, none⟩) hp1).trans g1
          rw [Int.toNat_natCast] at g1
          have Hbb := Lib.hid hbb; clear hbb
          have Tl := Lib.hid tl; clear tl
          have Hot := Lib.hid hot; clear hot
          have ht := Lib.hid (tight_all Hsol.out (i := (j : Int)) (by omega) (by omega))
          have hge := Hsol.out.ge (j : Int) (by omega) (by omega)
          obtain ⟨tb, htb⟩ : ∃ tb, tb = (at0 (timesOf start l) j == at0 start j) := ⟨_, rfl⟩
          have htb2 : tb = decide (at0 (timesOf start l) (j : Int) = at0 start (j : Int)) := by rw [htb, Bool.eq_iff_iff]; simp
          have Htb := Lib.hid htb
          have Htb2 := Lib.hid htb2
          clear htb htb2
          go_wp2_with fail
          go_quiet (fail)
          go_wp2_with fail
          rw [← Htb.out]
          go_loopg [8, 49] n2 (fun k tv i wr => ∃ (q : Nat) (b : Bool), q + k = n2 ∧ i = .int .i64 q ∧ tv = .bool b ∧ Hid ((b || (l.drop q).any (tightHit (timesOf start l) j)) = true) ∧ Below wo.heap.size wo wr)
          case atStart => exact ⟨0, tb, by omega, rfl, rfl, by unfold Hid; rw [Htb2.out]; exact ht.out, below_drewN (Below.refl _ _) nq⟩
          case round =>
            clear g1
            obtain ⟨q, b, hk, rfl, rfl, hru, hb4⟩ := hrel
            have Hk2 := Lib.hid hk; clear hk
            by_cases hlt2 : q < n2
            · obtain ⟨y, hy⟩ := get_some h2.len hlt2
              obtain ⟨p2, o2, ha2, hp2, g1, g2, g3⟩ := h2.wt hy
              cases ha2
              have hbb := Hbb.out.trans (hb4.mono Hbb.out.size)
              have g1 := (hbb.cell (p := ⟨p2, o2 + q * 3, none⟩) hp2).trans g1
              have g2 := (hbb.cell (p := ⟨p2, o2 + q * 3 + 1, none⟩) hp2).trans g2
              have g3 := (hbb.cell (p := ⟨p2, o2 + q * 3 + 2, none⟩) hp2).trans g3
              have Hy := Lib.hid hy; clear hy
              obtain ⟨y1, y2, y3, y4, y5, y6⟩ := Hz.out.2.2.2 y (List.mem_of_getElem? Hy.out)
              have m1' := (hb4.cell (p := ⟨gt, j, none⟩) hgt2).trans m1
              have m2 : wr.cell? ⟨gt, y.frm.toNat, none⟩ = some (.int .i64 (at0 (timesOf start l) y.frm)) := own_cell (owns_below Hot.out hb4) (by omega)
              have hgt3 : gt < wr.heap.size := by have := hb4.size; omega
              obtain ⟨q1, q2⟩ := bd2_at Bt.out y1 (by have := Tl.out; omega)
              have hwt := Hsol.out.wt (j : Int) (by omega) (by omega) y (List.mem_of_getElem? Hy.out)
              have hd := hru.out
              rw [drop_cons Hy.out, List.any_cons] at hd
              have hba := Lib.hid (fun X => hb4.alloc hb4.size X)
              clear hbb hru
              by_cases c1 : y.to = (j : Int)
              · have d1 : (y.to == (j : Int)) = true := by simpa using c1
                have hwt := hwt c1
                have d3 := lt_false (show ¬ at0 (timesOf start l) (j : Int) < at0 (timesOf start l) y.frm + y.gap by omega)
                cases b
                · by_cases c2 : at0 (timesOf start l) (j : Int) = at0 (timesOf start l) y.frm + y.gap
                  · have d2 : (at0 (timesOf start l) (j : Int) == at0 (timesOf start l) y.frm + y.gap) = true := by simpa using c2
                    have C2 := Lib.hid c2
                    have Hn : Hid ((true || (l.drop (q + 1)).any (tightHit (timesOf start l) j)) = true) := by rfl
                    clear c2 hd c1
                    go_wp2_with fail
                    have hwr : IntKind.i64.wrap (at0 (timesOf start l) y.frm + y.gap) = at0 (timesOf start l) y.frm + y.gap := IntWalk.i64_in _ (by omega)
                    go_quiet (fail)
                    go_wp2_with fail
                    try have hwr : IntKind.i64.wrap (at0 (timesOf start l) y.frm + y.gap) = at0 (timesOf start l) y.frm + y.gap := IntWalk.i64_in _ (by omega)
                    go_quiet (fail)
                    go_wp2_with fail
                    go_roundg (gk - 1)
                    case measure => have := Hk2.out; omega
                    case rel => exact ⟨q + 1, _, by have := Hk2.out; omega, by go_num, rfl, Hn.out, below_drewN (hba.out _) _⟩
                  · have d2 : (at0 (timesOf start l) (j : Int) == at0 (timesOf start l) y.frm + y.gap) = false := by simpa using c2
                    have Hn : Hid ((false || (l.drop (q + 1)).any (tightHit (timesOf start l) j)) = true) := by unfold Hid; rw [← hd, show tightHit (timesOf start l) j y = false from by simp [tightHit, c2]]; rfl
                    clear c2 hd c1
                    go_wp2_with fail
                    have hwr : IntKind.i64.wrap (at0 (timesOf start l) y.frm + y.gap) = at0 (timesOf start l) y.frm + y.gap := IntWalk.i64_in _ (by omega)
                    go_quiet (fail)
                    go_wp2_with fail
                    try have hwr : IntKind.i64.wrap (at0 (timesOf start l) y.frm + y.gap) = at0 (timesOf start l) y.frm + y.gap := IntWalk.i64_in _ (by omega)
                    go_quiet (fail)
                    go_wp2_with fail
                    go_roundg (gk - 1)
                    case measure => have := Hk2.out; omega
                    case rel => exact ⟨q + 1, _, by have := Hk2.out; omega, by go_num, rfl, Hn.out, below_drewN (hba.out _) _⟩
                · skip
                  have Hn : Hid ((true || (l.drop (q + 1)).any (tightHit (timesOf start l) j)) = true) := by rfl
                  clear hd c1
                  go_wp2_with fail
                  have hwr : IntKind.i64.wrap (at0 (timesOf start l) y.frm + y.gap) = at0 (timesOf start l) y.frm + y.gap := IntWalk.i64_in _ (by omega)
                  go_quiet (fail)
                  go_wp2_with fail
                  try have hwr : IntKind.i64.wrap (at0 (timesOf start l) y.frm + y.gap) = at0 (timesOf start l) y.frm + y.gap := IntWalk.i64_in _ (by omega)
                  go_quiet (fail)
                  go_wp2_with fail
                  go_roundg (gk - 1)
                  case measure => have := Hk2.out; omega
                  case rel => exact ⟨q + 1, _, by have := Hk2.out; omega, by go_num, rfl, Hn.out, below_drewN (hba.out _) _⟩
              · have d1 : (y.to == (j : Int)) = false := by simpa using c1
                cases b
                · skip
                  have Hn : Hid ((false || (l.drop (q + 1)).any (tightHit (timesOf start l) j)) = true) := by unfold Hid; rw [← hd, show tightHit (timesOf start l) j y = false from by simp [tightHit, c1]]; rfl
                  clear hd c1 hwt
                  go_wp2_with fail
                  go_quiet (fail)
                  go_wp2_with fail
                  go_quiet (fail)
                  go_wp2_with fail
                  go_roundg (gk - 1)
                  case measure => have := Hk2.out; omega
                  case rel => exact ⟨q + 1, _, by have := Hk2.out; omega, by go_num, rfl, Hn.out, below_drewN (hba.out _) _⟩
                · skip
                  have Hn : Hid ((true || (l.drop (q + 1)).any (tightHit (timesOf start l) j)) = true) := by rfl
                  clear hd c1 hwt
                  go_wp2_with fail
                  go_quiet (fail)
                  go_wp2_with fail
                  go_quiet (fail)
                  go_wp2_with fail
                  go_roundg (gk - 1)
                  case measure => have := Hk2.out; omega
                  case rel => exact ⟨q + 1, _, by have := Hk2.out; omega, by go_num, rfl, Hn.out, below_drewN (hba.out _) _⟩
            · have hb0 : b = true := by have := hru.out; rw [drop_end h2.len (by omega)] at this; simpa using this
              subst hb0
              have m1' := (hb4.cell (p := ⟨gt, j, none⟩) hgt2).trans m1
              have hgt3 : gt < wr.heap.size := by have := hb4.size; omega
              obtain ⟨p1', o1', ha1', hp1', g1'⟩ := h1.at0 (i := (j : Int)) (by omega) (by omega)
              cases ha1'
              have hbb := Hbb.out.trans (hb4.mono Hbb.out.size)
              have g1' := (hbb.cell (p := ⟨p1, o1 + (j : Int).toNat, none⟩) hp1').trans g1'
              rw [Int.toNat_natCast] at g1'
              have hlt3 := lt_false (show ¬ at0 (timesOf start l) (j : Int) < at0 start (j : Int) by omega)
              clear hru hbb
              go_wp2_with fail
              go_quiet (fail)
              go_wp2_with fail
              go_roundg (start.length - j - 1)
              case measure => have := Hk.out; omega
              case rel => exact ⟨j + 1, by have := Hk.out; omega, by go_num, below_drewN (hb3.trans (hb4.mono hb3.size)) _⟩
        · go_wp2_with fail
          go_ret
          exact ⟨rfl, hb2'.trans (hb3.mono hb2'.size)⟩
    · have hq := neq_beq hs
      have Hs := Lib.hid hs; clear hs
      go_enter Try.func5, Try.ntmps5
      go_wp2_with fail
      refine K.out.mono ?_
      rintro e w1 ⟨rfl, hb1⟩
      go_wp2_with fail
      refine (few_any w1 a1 a2 _ c1 n2 c2 b1 b2).mono ?_
      rintro e w1' ⟨rfl, rfl⟩
      rw [hfd.out]
      have H1 := Lib.hid (lateTimes_any w1 a1 a2 _ c1 n2 c2 start l (h1.below hb1) (h2.below hb1) Hc.out)
      go_wp2_with fail
      refine H1.out.mono ?_
      rintro e w2 ⟨v1, rfl, hnn, hb2⟩
      have hvn := hnn.no Hs.out
      cases hvn
      go_wp2_with fail
      go_ret
      exact ⟨rfl, below_step hb1 hb2 hb1.size⟩
  · have hfd := Lib.hid (show decide (start.length ≤ 60 ∧ n2 ≤ 120) = false by simpa using hf)
    have Hf := Lib.hid hf; clear hf
    go_enter Try.func5, Try.ntmps5
    go_wp2_with fail
    refine K.out.mono ?_
    rintro e w1 ⟨rfl, hb1⟩
    go_wp2_with fail
    refine (few_any w1 a1 a2 _ c1 n2 c2 b1 b2).mono ?_
    rintro e w1' ⟨rfl, rfl⟩
    rw [hfd.out]
    go_wp2_with fail
    go_ret
    exact ⟨rfl, hb1⟩

set_option maxRecDepth 100000 in
theorem lateLeast_lifted (os : Os) (started : os.Started) (H : Type) (enc : TypeId × Value → H) :
    ReturnsInHanded {} Try.checked os 5 .any (Rows.lateLeastSpec.pre6 enc Try.prog Try.f5 Rows.lateLeastRow.domain false) (Rows.lateLeastSpec.post enc Try.prog Try.f5 false true false false) := by
  refine returnsInHanded_of_change (C := Try.checked) own started (by kernel_rfl) Try.func5
    (ChangeSpec.witness6 (enc := enc) (C := Try.checked) false ⟨#[], #[.slice none 0 0, .slice none 0 0], []⟩ 8 (by kernel_rfl) (by kernel_rfl) (by kernel_rfl) (by kernel_rfl)) ?_
  intro W base args ds gs before hval0 hW hcnd _
  have hval : ∀ (j : Nat) t v, Try.f5.params[j]? = some t → args[j]? = some v → Value.okWide Try.prog W .any base t v := hval0
  have hW' := hW
  obtain ⟨p, q, hA0, hV, rfl, hfz, hnd⟩ := hW
  have hA : DataW.TrodAll enc Try.prog W 0 (fun _ => true) true Try.f5.params.toList args.toList ds p := hA0
  rw [Try.params5] at hA hval
  obtain ⟨v0, vs0, d0, ds0, p0, q0, hargs, rfl, rfl, k0, r0⟩ := trodAll_cons hA
  obtain ⟨v1, vs1, d1, ds1, p1, q1, rfl, rfl, rfl, k1, r1⟩ := trodAll_cons r0
  obtain ⟨rfl, rfl, rfl⟩ := trodAll_nil r1
  obtain rfl : args = #[v0, v1] := by cases args; simp_all
  obtain ⟨rfl, rfl⟩ := trodVars_none hV
  have lt0 : ∀ x ∈ p0, x.block < W.heap.size := by obtain ⟨m, hm⟩ := k0; exact DataW.trod_lt m _ _ _ hm
  have hv0 := hval 0 22 v0 rfl rfl
  have lt1 : ∀ x ∈ p1, x.block < W.heap.size := by obtain ⟨m, hm⟩ := k1; exact DataW.trod_lt m _ _ _ hm
  have hv1 := hval 1 23 v1 rfl rfl
  have fin : Calls Try.prog 5 #[v0, v1] W (fun e W' => e = .returned (.bool true) ∧ Below W.heap.size W W') := by
    obtain ⟨a1, n1, c1, start, rfl, h1, _, hc, _⟩ := open_Ints hv0 k0
    obtain ⟨a2, n2, c2, l, rfl, h2, _, _, _⟩ := open_Wts hv1 k1
    exact lawLeast_any W a1 a2 n1 c1 n2 c2 start l h1 h2 hc
  clear hA0 hval0
  refine fin.mono fun e W' ⟨he, bel⟩ => ?_
  subst he
  exact ⟨_, rfl, _, _, _, [], _, [], hW', trodAll_mk1 (shut_bool Try.underlying4 _), (trodAll_cons_mk (Below.trod laidOut (by kernel_rfl) (of_decide_eq_true (by kernel_rfl)) k0 bel lt0) (trodAll_cons_mk (Below.trod laidOut (by kernel_rfl) (of_decide_eq_true (by kernel_rfl)) k1 bel lt1) trodAll_mk0)), rfl, bel.frame _, fun h => by cases h⟩

/-- THE STATEMENT -/
theorem lateLeast_holds : Rows.LateLeastSaid :=
  OpenClaim.holds_of_wide 5 Try.f5 rfl rfl rfl rfl rfl rfl rfl ⟨rfl, rfl, rfl, rfl, rfl⟩ rfl rfl rfl rfl rfl (by kernel_rfl) Try.func5 (by kernel_rfl)
    (of_decide_eq_true (by kernel_rfl)) (by unfold Func.isWrapper; first | (rw [if_pos (by decide +kernel)]; kernel_rfl) | (rw [if_neg (by decide +kernel)]; exact ⟨rfl, rfl⟩))
    (fun os started H enc _ => lateLeast_lifted os started H enc)
end Go.Proofs.Ytkklnaejpgcgoaa
