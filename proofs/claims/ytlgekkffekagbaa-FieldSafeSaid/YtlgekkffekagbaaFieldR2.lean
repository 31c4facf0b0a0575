/- Walks of the reference's field: Tick, Command. Condition: what is read is one. -/
import Derived.Test.YtlgekkffekagbaaFieldR1
import Derived.StillTailTactics
import Derived.Deep.Cut
set_option maxRecDepth 1000000
namespace Go.Proofs.Ytlgekkffekagbaa
open Go.ChangeShapes Go.WideShapes Go.ChangeAt Go.RowKit Go.Sort

def RFld.tickTo (f : RFld) (j : Nat) : RFld := { f with pts := (f.pts.take j).map tickR ++ f.pts.drop j }
theorem rtickTo_zero (f : RFld) : f.tickTo 0 = f := by simp [RFld.tickTo]
theorem rtickTo_end {f : RFld} : f.tickTo f.pts.length = f.tick := by simp [RFld.tickTo, RFld.tick]
theorem rtickTo_len (f : RFld) (j : Nat) : (f.tickTo j).pts.length = f.pts.length := by simp [RFld.tickTo]; omega
theorem rtickTo_get {f : RFld} {j : Nat} {x : RPt} (h : f.pts[j]? = some x) : (f.tickTo j).pts[j]? = some x := by
  have hl := (List.getElem?_eq_some_iff.1 h).1
  unfold RFld.tickTo
  simp only
  rw [List.getElem?_append_right (by simp; omega)]
  simp [show min j f.pts.length = j from by omega, h]
theorem rtickTo_set {f : RFld} {j : Nat} {x y : RPt} (h : f.pts[j]? = some x) (hy : y = tickR x) : ({ f.tickTo j with pts := (f.tickTo j).pts.set j y } : RFld) = f.tickTo (j + 1) := by
  subst hy
  have hl := (List.getElem?_eq_some_iff.1 h).1
  unfold RFld.tickTo
  simp only
  congr 1
  rw [List.set_append_right _ _ (by simp; omega), show j - ((f.pts.take j).map tickR).length = 0 by simp; omega, drop_cons h, List.set_cons_zero, take_snoc_get h]
  simp
theorem set_self' {α : Type} {l : List α} {j : Nat} {x : α} (h : l[j]? = some x) : l.set j x = l := by
  apply List.ext_getElem?
  intro i
  rw [List.getElem?_set]
  split
  · rename_i e; subst e
    rw [if_pos (List.getElem?_eq_some_iff.1 h).1, h]
  · rfl
theorem rtickTo_same {f : RFld} {j : Nat} {x : RPt} (h : f.pts[j]? = some x) (he : tickR x = x) : f.tickTo j = f.tickTo (j + 1) := by
  rw [← rtickTo_set h he.symm, set_self' (rtickTo_get h)]
set_option maxHeartbeats 1000000 in
theorem reftick_any (w : World) (R : RB) (lo hi : Nat) (pv : PV) (p : Plan) (r : RFld) (hr : RefAt w R lo hi pv p r) (hle : ∀ x ∈ r.pts, 0 ≤ x.left ∧ x.left ≤ 20) (hn : r.pts.length ≤ 40) :
    Calls Try.prog 41 #[.pointer (some ⟨R.b, 0, none⟩)] w fun en w' => en = .returned (.tuple #[]) ∧ RefAt w' R lo hi pv p r.tick ∧ Span lo hi w w' := by
  have HR := Lib.hid hr
  have Hle := Lib.hid hle
  obtain ⟨n, hln⟩ : ∃ n, r.pts.length = n := ⟨_, rfl⟩
  rw [hln] at hn
  have Hl := Lib.hid hln
  clear hr hle hln
  go_enter Try.func41, Try.ntmps41
  go_wp2_with fail
  go_loopg [2] n (fun k i wr => ∃ j : Nat, j + k = n ∧ i = .int .i64 j ∧ Hid (RefAt wr R lo hi pv p (r.tickTo j)) ∧ Hid (Span lo hi w wr))
  case atStart => exact ⟨0, by omega, rfl, by unfold Hid; rw [rtickTo_zero]; exact HR.out, Upd.refl _ _⟩
  case round =>
    obtain ⟨j, hk, rfl, hR, hU⟩ := hrel
    have Hk := Lib.hid hk; clear hk
    have c9 := hR.out.k9
    have hbl := hR.out.lt R.b (by simp [RB.blocks])
    rw [rtickTo_len, Hl.out] at c9
    by_cases hlt : j < n
    · obtain ⟨x, hx⟩ := get_some Hl.out hlt
      have Hx := Lib.hid hx
      obtain ⟨l0, l1⟩ := Hle.out x (List.mem_of_getElem? hx)
      clear hx
      have c11 := hR.out.k11
      have c12 := hR.out.k12
      have c10 := hR.out.k10
      rw [rtickTo_len, Hl.out] at c11 c12 c10
      have d1 := hR.out.cell_left (rtickTo_get Hx.out)
      have d2 := hR.out.cell_stick (rtickTo_get Hx.out)
      have d3 := hR.out.cell_goal (rtickTo_get Hx.out)
      have d4 := hR.out.cell_lie (rtickTo_get Hx.out)
      have fz := hR.out.left.frozenAt j
      have fz1 := hR.out.lie.frozenAt j
      have hg3 := hR.out.lt R.g3 (by simp [RB.blocks])
      have hg4 := hR.out.lt R.g4 (by simp [RB.blocks])
      have hg2 := hR.out.lt R.g2 (by simp [RB.blocks])
      have hg1 := hR.out.lt R.g1 (by simp [RB.blocks])
      obtain ⟨n1, n2, n3, n4, n5, n6, n7, m12, m13, m14, m15, m16, m17, m23, m24, m25, m26, m27, m34, m35, m36, m37, m45, m46, m47, m56, m57, m67⟩ := hR.out.ne
      by_cases h0 : x.left = 0
      · have q0 : (x.left == 0) = true := by simp [h0]
        have Hs := Lib.hid (show r.tickTo j = r.tickTo (j + 1) from rtickTo_same Hx.out (by unfold tickR; rw [if_pos (.inl h0)]))
        clear h0
        go_wp2_with fail
        go_roundg (n - j - 1)
        case measure => have := Hk.out; omega
        case rel => exact ⟨j + 1, by have := Hk.out; omega, by go_num, by unfold Hid; rw [← Hs.out]; exact hR.out, hU⟩
      · have q0 : (x.left == 0) = false := by simp [h0]
        cases hs : x.stick with
        | true =>
          rw [hs] at d2
          have Hs := Lib.hid (show r.tickTo j = r.tickTo (j + 1) from rtickTo_same Hx.out (by unfold tickR; rw [if_pos (.inr hs)]))
          clear h0 hs
          go_wp2_with fail
          go_roundg (n - j - 1)
          case measure => have := Hk.out; omega
          case rel => exact ⟨j + 1, by have := Hk.out; omega, by go_num, by unfold Hid; rw [← Hs.out]; exact hR.out, hU⟩
        | false =>
          rw [hs] at d2
          have hwr : IntKind.i64.wrap (x.left - 1) = x.left - 1 := IntWalk.i64_in _ (by omega)
          by_cases h1 : x.left - 1 = 0
          · have q1 : (x.left - 1 == 0) = true := by simp [h1]
            have Hs := Lib.hid (rtickTo_set Hx.out (y := { x with left := x.left - 1, lie := x.goal }) (by unfold tickR; rw [if_neg (by rw [hs]; simp [h0]), if_pos h1]))
            clear h0 hs h1
            go_upto_region 5 with fail
            refine name_code fun W hW => ?_
            have HRW := Lib.hid (show RefAt W R lo hi pv p _ by rw [hW]; exact hR.out.set_left (rtickTo_get Hx.out) (x.left - 1))
            have HUW := Lib.hid (show Span lo hi w W by rw [hW]; exact Upd.setCell (a := ⟨R.g3, _, none⟩) hU.out hR.out.in3 _)
            have Hxx := Lib.hid (show ({ r.tickTo j with pts := (r.tickTo j).pts.set j { x with left := x.left - 1 } } : RFld).pts[j]? = some { x with left := x.left - 1 } by simp [rtickTo_len, Hl.out, hlt])
            clear hW c9 c10 c11 c12 d1 d2 d3 d4 fz fz1 hbl hg1 hg2 hg3 hg4
            have c9 := HRW.out.k9
            have c10 := HRW.out.k10
            have c11 := HRW.out.k11
            dsimp only at c9 c10 c11
            rw [List.length_set, rtickTo_len, Hl.out] at c9 c10 c11
            have d1 := HRW.out.cell_left Hxx.out
            have d3 := HRW.out.cell_goal Hxx.out
            have d4 := HRW.out.cell_lie Hxx.out
            have fz1 := HRW.out.lie.frozenAt j
            have hbl := HRW.out.lt R.b (by simp [RB.blocks])
            have hg3 := HRW.out.lt R.g3 (by simp [RB.blocks])
            have hg2 := HRW.out.lt R.g2 (by simp [RB.blocks])
            have hg1 := HRW.out.lt R.g1 (by simp [RB.blocks])
            dsimp only at d1 d3 d4
            clear n1 n2 n3 n4 n5 n6 n7 m12 m13 m14 m15 m16 m17 m23 m24 m25 m26 m27 m34 m35 m36 m37 m45 m46 m47 m56 m57 m67 hwr l0 l1
            go_wp2_with fail
            refine wp_region_still_tail 13 (by kernel_rfl) (by kernel_rfl) ?_
            simp only [List.take_succ_cons, List.take_zero, List.drop_succ_cons, List.drop_zero]
            change wpStill _ _ (World.drew _) _ _ _
            repeat still_step
            refine wpStill_nil ?_
            change wpList _ _ _ _ _ (World.drew _)
            go_wp2_with fail
            go_roundg (n - j - 1)
            case measure => have := Hk.out; omega
            case rel =>
              refine ⟨j + 1, by have := Hk.out; omega, by go_num, ?_, ?_⟩
              · have hZ := HRW.out.set_lie Hxx.out x.goal
                dsimp only at hZ
                rw [List.set_set, Hs.out] at hZ
                exact hZ.below (Below.refl _ _).drew
              · exact (Upd.setCell (a := ⟨R.g1, _, none⟩) HUW.out HRW.out.in1 _).drew
          · have q1 : (x.left - 1 == 0) = false := by simp [h1]
            have Hs := Lib.hid (rtickTo_set Hx.out (y := { x with left := x.left - 1 }) (by unfold tickR; rw [if_neg (by rw [hs]; simp [h0]), if_neg h1]))
            clear h0 hs h1
            go_upto_region 5 with fail
            refine name_code fun W hW => ?_
            have HRW := Lib.hid (show RefAt W R lo hi pv p _ by rw [hW]; exact hR.out.set_left (rtickTo_get Hx.out) (x.left - 1))
            have HUW := Lib.hid (show Span lo hi w W by rw [hW]; exact Upd.setCell (a := ⟨R.g3, _, none⟩) hU.out hR.out.in3 _)
            have Hxx := Lib.hid (show ({ r.tickTo j with pts := (r.tickTo j).pts.set j { x with left := x.left - 1 } } : RFld).pts[j]? = some { x with left := x.left - 1 } by simp [rtickTo_len, Hl.out, hlt])
            clear hW c9 c10 c11 c12 d1 d2 d3 d4 fz fz1 hbl hg1 hg2 hg3 hg4
            have c9 := HRW.out.k9
            have c10 := HRW.out.k10
            have c11 := HRW.out.k11
            dsimp only at c9 c10 c11
            rw [List.length_set, rtickTo_len, Hl.out] at c9 c10 c11
            have d1 := HRW.out.cell_left Hxx.out
            have d3 := HRW.out.cell_goal Hxx.out
            have d4 := HRW.out.cell_lie Hxx.out
            have fz1 := HRW.out.lie.frozenAt j
            have hbl := HRW.out.lt R.b (by simp [RB.blocks])
            have hg3 := HRW.out.lt R.g3 (by simp [RB.blocks])
            have hg2 := HRW.out.lt R.g2 (by simp [RB.blocks])
            have hg1 := HRW.out.lt R.g1 (by simp [RB.blocks])
            dsimp only at d1 d3 d4
            clear n1 n2 n3 n4 n5 n6 n7 m12 m13 m14 m15 m16 m17 m23 m24 m25 m26 m27 m34 m35 m36 m37 m45 m46 m47 m56 m57 m67 hwr l0 l1
            go_wp2_with fail
            go_roundg (n - j - 1)
            case measure => have := Hk.out; omega
            case rel => exact ⟨j + 1, by have := Hk.out; omega, by go_num, by unfold Hid; rw [← Hs.out]; exact HRW.out, HUW⟩
    · have hj : j = n := by have := Hk.out; omega
      subst hj
      go_wp2_with fail
      exact bodyPost_end (v := .tuple #[]) (by simp [results, Try.results41]) rfl ⟨rfl, by rw [← rtickTo_end, Hl.out]; exact hR.out, hU.out⟩
end Go.Proofs.Ytlgekkffekagbaa
