/- Walk of late.Delay. -/
import Derived.Test.YtkklnaejpgcgoaaLateW6
namespace Go.Proofs.Ytkklnaejpgcgoaa
open Go.RowKit

def delayErr (start : List Int) (l : List Wt) (event byy : Int) : Int :=
  if solveErr start l ≠ 0 then solveErr start l else if offB event (start.length - 1) then 10 else if offB byy 100000 then 1 else 0
def timesOf (start : List Int) (l : List Wt) : List Int := timesRun l (lateOrder start.length l) start
def delayVal (start : List Int) (l : List Wt) (event byy : Int) : List Int :=
  subRun (timesOf start l) (timesRun l (lateOrder start.length l) (start.set event.toNat (at0 (timesOf start l) event + byy)))

theorem solveErr_zero {start : List Int} {l : List Wt} (h : solveErr start l = 0) : lateCheck start l = 0 ∧ (lateOrder start.length l).length = start.length := by
  unfold solveErr at h
  split at h
  · rename_i h1; exact absurd h h1
  · rename_i h1
    split at h
    · rename_i h2; exact ⟨by simpa using h1, h2⟩
    · cases h

theorem timesOf_bd {start : List Int} {l : List Wt} (h : solveErr start l = 0) : Bd2 (timesOf start l) 0 20000100000 := by
  obtain ⟨h1, h2⟩ := solveErr_zero h
  obtain ⟨z1, z2, z3, z4⟩ := lateCheck_zero h1
  exact bd2_mono (timesRun_bd z4 z2 _ start 100000 (by omega) rfl z3) (by omega) (by omega)

/-- out[i] -= t[i] for each i: the loop of late.Delay (slots 10, 14, 53) as a law on memory. -/
theorem delayVal_eq {start : List Int} {l : List Wt} {event byy : Int} : delayVal start l event byy = (List.range start.length).foldl (subStep (timesOf start l)) (timesRun l (lateOrder start.length l) (start.set event.toNat (at0 (timesOf start l) event + byy))) := by
  unfold delayVal subRun; rw [timesRun_length]; simp

set_option maxHeartbeats 1000000 in
theorem delay_any (w : World) (a1 a2 : Option Addr) (n1 c1 n2 c2 : Nat) (start : List Int) (l : List Wt) (event byy : Int) (h1 : Ints w a1 n1 start) (h2 : Wts w a2 n2 l) (hc : a1 = none → c1 = 0) :
    Calls Try.prog 19 #[.slice a1 n1 c1, .slice a2 n2 c2, .int .i64 event, .int .i64 byy] w fun e w' => ∃ v, e = .returned (.tuple #[v, .int .i64 (delayErr start l event byy)]) ∧
      NumsOut w' w.heap.size (delayErr start l event byy) (delayVal start l event byy) v ∧ Below w.heap.size w w' := by
  obtain rfl := h1.len
  have b1 := h1.bnd
  have H := Lib.hid (solve_any w a1 a2 _ c1 n2 c2 start l h1 h2 hc)
  have Hc := Lib.hid hc; clear hc
  by_cases hs : solveErr start l = 0
  · obtain ⟨hk1, hk2⟩ := solveErr_zero hs
    have hz := lateCheck_zero hk1
    have Hz := Lib.hid hz; clear hk1
    have hz1 := hz.1
    clear hz
    have Hk2 := Lib.hid hk2; clear hk2
    have Hs := Lib.hid hs; clear hs
    by_cases he : offB event ((start.length : Int) - 1) = true
    · have He := Lib.hid he; clear he
      go_enter Try.func19, Try.ntmps19
      go_wp2_with fail
      refine H.out.mono ?_
      rintro e w1 ⟨v1, v2, rfl, hs, hb⟩
      rw [Hs.out]
      go_wp2_with fail
      refine (off_any _ _ _).mono ?_; rintro e w' ⟨rfl, rfl⟩
      rw [He.out]
      go_wp2_with fail
      go_ret2
      have hd : delayErr start l event byy = 10 := by unfold delayErr; rw [if_neg (by simpa using Hs.out), if_pos He.out]
      exact ⟨_, by rw [hd]; rfl, ⟨fun h => absurd (hd.symm.trans h) (by decide), fun _ => rfl⟩, hb⟩
    · have he := eq_false_of_ne_true he
      have ⟨e0, e1⟩ := offB_false he
      have He := Lib.hid he; clear he
      by_cases hy : offB byy 100000 = true
      · have Hy := Lib.hid hy; clear hy
        go_enter Try.func19, Try.ntmps19
        go_wp2_with fail
        refine H.out.mono ?_
        rintro e w1 ⟨v1, v2, rfl, hs, hb⟩
        rw [Hs.out]
        go_wp2_with fail
        refine (off_any _ _ _).mono ?_; rintro e w' ⟨rfl, rfl⟩
        rw [He.out]
        go_wp2_with fail
        refine (off_any _ _ _).mono ?_; rintro e w' ⟨rfl, rfl⟩
        rw [Hy.out]
        go_wp2_with fail
        go_ret2
        have hd : delayErr start l event byy = 1 := by unfold delayErr; rw [if_neg (by simpa using Hs.out), He.out, if_neg (by simp), if_pos Hy.out]
        exact ⟨_, by rw [hd]; rfl, ⟨fun h => absurd (hd.symm.trans h) (by decide), fun _ => rfl⟩, hb⟩
      · have hy := eq_false_of_ne_true hy
        have ⟨y0, y1⟩ := offB_false hy
        have Hy := Lib.hid hy; clear hy
        have Bt := Lib.hid (timesOf_bd Hs.out)
        go_enter Try.func19, Try.ntmps19
        go_wp2_with fail
        refine H.out.mono ?_
        rintro e w1 ⟨v1, v2, rfl, hs, hb⟩
        rw [Hs.out]
        obtain ⟨o1, o2⟩ := hs.ok Hs.out
        have O1 := Lib.hid o1
        have O2 := Lib.hid o2
        clear o1 o2 hs
        go_wp2_with fail
        refine (off_any _ _ _).mono ?_; rintro e w' ⟨rfl, rfl⟩
        rw [He.out]
        go_wp2_with fail
        refine (off_any _ _ _).mono ?_; rintro e w' ⟨rfl, rfl⟩
        rw [Hy.out]
        have H3 := Lib.hid (cloneInts w1 a1 _ c1 start (h1.below hb) Hc.out (by omega))
        go_wp2_with fail
        refine H3.out.mono ?_
        rintro e w2 ⟨v, rfl, hown, hb2⟩
        have hbb := below_step hb hb2 hb.size
        obtain ⟨g, cap, rfl, hg1, hg2⟩ := own_shape hown (by omega)
        have hl1 : start.length = (timesOf start l).length := (timesRun_length _ _ _).symm
        obtain ⟨gt, capt, rfl, hgt1, hgt2⟩ := own_shape O1.out (by omega)
        have k1 : w2.cell? ⟨gt, event.toNat, none⟩ = some (.int .i64 (at0 (timesOf start l) event)) := own_cell (owns_below O1.out hb2) (by omega)
        have k2 := own_cell hown (j := event.toNat) (by omega)
        have k3 := hown.frozenAt event.toNat
        obtain ⟨q1, q2⟩ := bd2_at Bt.out e0 (by omega)
        have hgs : g < w2.heap.size := hg2
        have Hl1 := Lib.hid hl1; clear hl1
        obtain ⟨ao, co, rfl, hno, hco⟩ := own_slice O2.out
        obtain ⟨own3, hgr3⟩ := own_set hown event.toNat (at0 (timesOf start l) event + byy)
        have hb3 : Below w.heap.size w (w2.setCell ⟨g, event.toNat, none⟩ (.int .i64 (at0 (timesOf start l) event + byy))) := hbb.setCell (p := ⟨g, _, none⟩) (by have := hb.size; simp; omega) _
        have hst : Below w1.heap.size w1 (w2.setCell ⟨g, event.toNat, none⟩ (.int .i64 (at0 (timesOf start l) event + byy))) := hb2.setCell (p := ⟨g, _, none⟩) hg1 _
        have ro := (own_ints (owns_below O2.out hst)).1
        have rl := (own_ints own3).1
        have hbd3 : Bd (start.set event.toNat (at0 (timesOf start l) event + byy)) 1000000000000 := bd2_set (fun t ht => by have := Hz.out.2.2.1 t ht; omega) (A := 0) (B := 100000) (by omega) (by omega) (by omega) _
        have H4 := Lib.hid (times_any _ (some ⟨g, 0, none⟩) a2 ao start.length cap n2 c2 _ co _ l _ rl (h2.below hb3) ro (by intro h; cases h) (by omega) (by have := Hz.out.2.1; have := h2.len; omega) (by rw [Hk2.out]; omega) ⟨Hz.out.2.2.2, lateOrder_mem⟩ hbd3)
        have HO1 := Lib.hid (owns_below O1.out hst)
        have Hgt : gt < (w2.setCell ⟨g, event.toNat, none⟩ (.int .i64 (at0 (timesOf start l) event + byy))).heap.size := by have := hst.size; omega
        clear own3 hgr3 rl ro hbd3 hst hown hco
        go_wp2_with fail
        clear k1 k2 k3
        refine H4.out.mono ?_
        rintro e w3 ⟨v4, rfl, own4, hb4⟩
        have hb4' := below_step hb3 hb4 hb3.size
        have ot := owns_below HO1.out hb4
        obtain ⟨g4, cap4, rfl, hg4, hg4'⟩ := own_shape own4 (by omega)
        have Own4 := Lib.hid own4; clear own4
        have Ot := Lib.hid ot; clear ot
        have hgt4 : gt ≠ g4 := by omega
        have hB4 : w.heap.size ≤ g4 := by have := hb3.size; omega
        have Hgt' := Lib.hid Hgt; clear Hgt
        have hb3z := hb3.size
        have hgt3 : gt < w3.heap.size := by have := hb4.size; have := Hgt'.out; omega
        clear hb hb2 hb3 hb4 hbb
        have Hd0 := Lib.hid (show delayErr start l event byy = 0 by unfold delayErr; rw [if_neg (by simpa using Hs.out), He.out, if_neg (by simp), Hy.out]; rfl)
        have Bo := Lib.hid (timesRun_bd Hz.out.2.2.2 Hz.out.2.1 (lateOrder start.length l) (start.set event.toNat (at0 (timesOf start l) event + byy)) 30000000000 (by omega) (by simp) (bd2_set (fun t ht => by have := Hz.out.2.2.1 t ht; omega) (A := 0) (B := 100000) (by omega) (by omega) (by omega) _))
        go_wp2_with fail
        go_loopg [53] start.length (fun k i wr => ∃ (j : Nat) (out : List Int), j + k = start.length ∧ i = .int .i64 j ∧ OwnI wr w.heap.size (.slice (some ⟨g4, 0, none⟩) start.length cap4) start.length out ∧ OwnI wr w.heap.size (.slice (some ⟨gt, 0, none⟩) start.length capt) start.length (timesOf start l) ∧
          Hid (Bd2 out (-(30000000000 * (j : Int))) 100000000000) ∧ Hid (((List.range start.length).drop j).foldl (subStep (timesOf start l)) out = delayVal start l event byy) ∧ Below w.heap.size w wr)
        case atStart => exact ⟨0, _, by omega, rfl, owns_base Own4.out (by omega), owns_base Ot.out (by omega), bd2_mono Bo.out (by omega) (by have := Hk2.out; omega), by unfold Hid; rw [delayVal_eq]; rfl, hb4'⟩
        case round =>
          obtain ⟨j, out, hk, rfl, hown, hot, hbo, hrun, hbr⟩ := hrel
          have Hk := Lib.hid hk; clear hk
          by_cases hlt : j < start.length
          · have m1 := own_cell hown hlt
            have m2 := own_cell hot hlt
            have m3 := hown.frozenAt j
            have m4 := own_shape' hown
            have m5 := own_shape' hot
            have lo := own_len hown
            have lt := own_len hot
            have r1 := bd2_at hbo.out (i := j) (by omega) (by omega)
            have r2 := bd2_at Bt.out (i := j) (by omega) (by omega)
            have Hown := Lib.hid hown; clear hown
            have Hot := Lib.hid hot; clear hot
            have Lo := Lib.hid lo; clear lo
            have Lt := Lib.hid lt; clear lt
            rw [show out.getD j 0 = at0 out j from rfl] at m1
            rw [show (timesOf start l).getD j 0 = at0 (timesOf start l) j from rfl] at m2
            go_wp2_with fail
            have hwr : IntKind.i64.wrap (at0 out j - at0 (timesOf start l) j) = at0 out j - at0 (timesOf start l) j := IntWalk.i64_in _ (by omega)
            refine wp_region_still_tail 10 (by kernel_rfl) (by kernel_rfl) ?_
            simp only [List.take_succ_cons, List.take_zero, List.drop_succ_cons, List.drop_zero]
            change wpStill _ _ (World.drew _) _ _ _
            repeat still_step
            refine wpStill_nil ?_
            change wpList _ _ _ _ _ (World.drew _)
            go_wp2_with fail
            go_roundg (gk - 1)
            case measure => have := Hk.out; omega
            case rel =>
              obtain ⟨e1, e2⟩ := own_set Hown.out j (at0 out j - at0 (timesOf start l) j)
              refine ⟨j + 1, subStep (timesOf start l) out j, by have := Hk.out; omega, by go_num, e1, (Hot.out.kept e2 (.inr ?_)).drew, ?_, ?_, ?_⟩
              · simp only [Value.ownBlock, ne_eq, Option.some.injEq]; exact hgt4
              · exact bd2_set hbo.out (by omega) (by omega) (by omega) _
              · rw [drop_cons (show (List.range start.length)[j]? = some j by simp [hlt])] at hrun; exact hrun
              · exact (hbr.setCell (p := ⟨g4, _, none⟩) hB4 _).drew
          · have hz : (List.range start.length).drop j = [] := List.drop_eq_nil_of_le (by simp; omega)
            rw [hz] at hrun
            have hfin : OwnI wr w.heap.size (.slice (some ⟨g4, 0, none⟩) start.length cap4) (delayVal start l event byy).length (delayVal start l event byy) := by
              rw [← hrun.out]; have := own_len hown; show OwnI wr _ _ out.length out; rwa [this]
            have Hfin := Lib.hid hfin; clear hfin hown hot hrun hz
            go_wp2_with fail
            go_ret2
            exact ⟨_, by rw [Hd0.out]; rfl, ⟨fun _ => Hfin.out, fun h => absurd Hd0.out h⟩, hbr⟩
  · have hq := neq_beq hs
    have Hs := Lib.hid hs; clear hs
    go_enter Try.func19, Try.ntmps19
    go_wp2_with fail
    refine H.out.mono ?_
    rintro e w1 ⟨v1, v2, rfl, hs, hb⟩
    go_wp2_with fail
    go_ret2
    have hd : delayErr start l event byy = solveErr start l := by unfold delayErr; rw [if_pos Hs.out]
    exact ⟨_, by rw [hd]; rfl, ⟨fun h => absurd (hd.symm.trans h) Hs.out, fun _ => rfl⟩, hb⟩
end Go.Proofs.Ytkklnaejpgcgoaa
