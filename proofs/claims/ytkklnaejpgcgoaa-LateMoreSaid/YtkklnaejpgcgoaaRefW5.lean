/- Walk of semaphoreref35.Slack. -/
import Derived.Test.YtkklnaejpgcgoaaRefW4
import Derived.Test.YtkklnaejpgcgoaaLateW8
namespace Go.Proofs.Ytkklnaejpgcgoaa
open Go.RowKit

def refSlackErr (start : List Int) (l : List Wt) (R : List Int) (due : List Int) : Int :=
  if refErr start l R ≠ 0 then refErr start l R else if (decide (due.length ≠ start.length) || due.any (fun x => offB x 1000000000)) = true then 1 else 0
def refSlackVal (start : List Int) (l : List Wt) (R : List Int) (due : List Int) : List Int := subRun (timesRun l R start) (slackRun l R due)
theorem refSlackVal_eq {start due : List Int} {l : List Wt} {R : List Int} (h : due.length = start.length) : refSlackVal start l R due = (List.range start.length).foldl (subStep (timesRun l R start)) (slackRun l R due) := by
  unfold refSlackVal subRun; rw [slackRun_length, h]

set_option maxHeartbeats 2000000 in
theorem refslack_any (w : World) (a1 a2 a3 : Option Addr) (n1 c1 n2 c2 n3 c3 : Nat) (start : List Int) (l : List Wt) (due R : List Int) (h1 : Ints w a1 n1 start) (h2 : Wts w a2 n2 l) (h3 : Ints w a3 n3 due) (hc : a1 = none → c1 = 0) (hc3 : a3 = none → c3 = 0) (hR : RefOk start l R) :
    Calls Try.prog 22 #[.slice a1 n1 c1, .slice a2 n2 c2, .slice a3 n3 c3] w fun e w' => ∃ v, e = .returned (.tuple #[v, .int .i64 (refSlackErr start l R due)]) ∧
      NumsOut w' w.heap.size (refSlackErr start l R due) (refSlackVal start l R due) v ∧ Below w.heap.size w w' := by
  obtain rfl := h1.len
  obtain rfl := h3.len
  have b1 := h1.bnd
  have b3 := h3.bnd
  have H := Lib.hid (reftimes_any w a1 a2 _ c1 n2 c2 start l R h1 h2 hc hR)
  have Hc3 := Lib.hid hc3; clear hc3 hc
  by_cases hs : refErr start l R = 0
  · obtain ⟨hk1, hk2⟩ := refErr_zero hs
    obtain ⟨hR1, hR2, hR3⟩ := hR hk1
    clear hR
    have hz := lateCheck_zero hk1
    have Hz := Lib.hid hz; clear hk1
    have hz1 := hz.1
    have hn2 : n2 ≤ 1000 := by have := h2.len; omega
    clear hz
    have Hk2 := Lib.hid hk2; clear hk2
    have HR3 := Lib.hid hR3; clear hR3
    have HR1 := Lib.hid hR1; clear hR1
    have Hs := Lib.hid hs; clear hs
    by_cases hd : due.length = start.length
    · have hdd : (((due.length : Nat) : Int) != ((start.length : Nat) : Int)) = false := by simp [hd]
      have Hd := Lib.hid hd; clear hd
      have Bt := Lib.hid (refTimes_bd Hs.out)
      go_enter Try.func22, Try.ntmps22
      go_wp2_with fail
      refine H.out.mono ?_
      rintro e w1 ⟨v1, rfl, hs, hb⟩
      rw [Hs.out]
      have o1 := hs.ok Hs.out
      rw [timesRun_length] at o1
      have O1 := Lib.hid o1
      clear o1 hs
      obtain ⟨at', ct, hat, hnt, hct⟩ := own_slice O1.out
      cases hat
      clear hct
      go_wp2_with fail
      go_loopg [35] due.length (fun k i wr => ∃ j : Nat, j + k = due.length ∧ i = .int .i64 j ∧ Hid ((due.drop j).any (fun t => offB t 1000000000) = due.any (fun t => offB t 1000000000)) ∧ Below w1.heap.size w1 wr)
      case atStart => exact ⟨0, by omega, rfl, by simp [Hid], Below.refl _ _⟩
      case round =>
        obtain ⟨j, hk, rfl, he, hb1⟩ := hrel
        have Hk := Lib.hid hk; clear hk
        by_cases hlt : j < due.length
        · obtain ⟨x, hx⟩ := get_some (xs := due) rfl hlt
          obtain ⟨p3, o3, rfl, hp3, g3⟩ := h3.int hx
          have g3 := ((hb.trans (hb1.mono hb.size)).cell (p := ⟨p3, o3 + j, none⟩) hp3).trans g3
          have Hx := Lib.hid hx; clear hx
          have Hdr := Lib.hid (drop_cons Hx.out)
          by_cases x0 : x < 0
          · have hfin := Lib.hid (show refSlackErr start l R due = 1 by unfold refSlackErr; rw [if_neg (by simpa using Hs.out), ← he.out, Hdr.out]; simp [offB, x0])
            go_wp2_with fail
            go_ret2
            exact ⟨_, by rw [hfin.out]; rfl, ⟨fun h => absurd (hfin.out.symm.trans h) (by decide), fun _ => rfl⟩, hb.trans (hb1.mono hb.size)⟩
          · by_cases x1 : 1000000000 < x
            · have hfin := Lib.hid (show refSlackErr start l R due = 1 by unfold refSlackErr; rw [if_neg (by simpa using Hs.out), ← he.out, Hdr.out]; simp [offB, x1])
              go_wp2_with fail
              go_ret2
              exact ⟨_, by rw [hfin.out]; rfl, ⟨fun h => absurd (hfin.out.symm.trans h) (by decide), fun _ => rfl⟩, hb.trans (hb1.mono hb.size)⟩
            · go_wp2_with fail
              go_roundg (gk - 1)
              case measure => have := Hk.out; omega
              case rel => exact ⟨j + 1, by have := Hk.out; omega, by go_num, by unfold Hid; rw [← he.out, Hdr.out, List.any_cons]; simp [offB]; omega, hb1⟩
        · have hy : due.any (fun t => offB t 1000000000) = false := by have := he.out; rw [drop_end rfl (by omega)] at this; exact this.symm
          have Hy' : Hid (∀ x ∈ due, 0 ≤ x ∧ x ≤ 1000000000) := fun x hx => offB_false (List.any_eq_false.1 hy x hx |> eq_false_of_ne_true)
          have Hy := Lib.hid hy; clear hy he
          have hbr := hb.trans (hb1.mono hb.size)
          have H2 := Lib.hid (reforder_any wr a2 start.length n2 c2 l R (h2.below hbr) (by omega) (by omega) (fun x hx => by have := Hz.out.2.2.2 x hx; omega) HR1.out hR2)
          go_wp2_with fail
          refine H2.out.mono ?_
          rintro e w2 ⟨vo, rfl, hown2, hb2⟩
          have hb2' := below_step hbr hb2 hbr.size
          obtain ⟨ao, co, hao, hn3, hc3⟩ := own_slice hown2
          cases hao
          have hown0 : OwnI (w2.alloc (.cells #[] 3)) w2.heap.size (.slice (some ⟨w2.heap.size, 0, none⟩) 0 0) 0 [] := World.ownsRow_made w2 #[] 0 (Nat.le_refl _) (by simp [maxLen]) (by simp)
          have hb0 : Below w2.heap.size w2 (w2.alloc (.cells #[] 3)) := (Below.refl _ _).alloc (Nat.le_refl _) _
          have hr := (h3.below hb2').below hb0
          have Hown0 := Lib.hid hown0; clear hown0 hc3
          have hdl : due.length ≤ 200 := by have := Hd.out; omega
          have Hown2 := Lib.hid hown2; clear hown2
          go_wp2_with (at_builtin; refine wpList_app (enc := encInt) (fun _ => rfl) encInt_one _ rfl _ _ 22 rfl w2.heap.size 3 (.int .i64 0) 8 Try.underlying22 info_int rfl (by decide) (.slice (some ⟨w2.heap.size, 0, none⟩) 0 0) _ [] rfl Hown0.out a3 due.length c3 due rfl hr Hc3.out (by simp [maxLen]; omega) (by omega) (by simp) ?_)
          intro v w3 hownx hgrow _
          have hown : OwnI w3 w2.heap.size v due.length due := by rw [flat_ints] at hownx; exact hownx
          have hb3 : Below w2.heap.size w2 w3 := hb0.grown hgrow (by simp) (by intro k hk; simp only [Value.ownBlock, Option.some.injEq] at hk; omega)
          have hb3' := below_step hb2' hb3 hb2'.size
          have ot2 := owns_below (owns_below O1.out hb1) hb2
          have o1 := owns_below ot2 hb3
          have o2 := owns_base (owns_below Hown2.out hb3) hbr.size
          have z1 : w.heap.size ≤ w2.heap.size := hb2'.size
          have sep1 : ∀ k, (Value.slice at' start.length ct).ownBlock = some k → k < w2.heap.size := fun k hk => (ot2.lt k hk).2
          have sep2 : ∀ k, (Value.slice ao R.length co).ownBlock = some k → k < w2.heap.size := fun k hk => (Hown2.out.lt k hk).2
          obtain ⟨av, cv, hav, hnv, hcv⟩ := own_slice hown
          cases hav
          have R3 := Lib.hid (show Rows3 w.heap.size w2.heap.size w3 _ _ _ _ _ _ _ _ _ from ⟨o1, o2, hown, sep1, sep2⟩)
          have Hbb := Lib.hid hb3'
          clear hb hb1 hb2 hb3 hb2' hbr hcv sep1 sep2 hown o1 o2 ot2 hownx hgrow hb0 hr hb3' Hk hlt
          have hb3' := Hbb.out; clear Hbb
          have hno' : R.length ≤ 200 := by have := Hk2.out; omega
          clear H2
          go_wp2_with fail
          go_loopg [15] R.length (fun k i wr => ∃ (last : List Int) (C : Int), i = .int .i64 ((k : Int) - 1) ∧ k ≤ R.length ∧
            Rows3 w.heap.size w2.heap.size wr (.slice at' start.length ct) start.length (timesRun l R start) (.slice ao R.length co) R.length R (.slice av due.length cv) due.length last ∧
            C + 100000000 * k ≤ 20000000000 ∧ 0 ≤ C ∧ Hid (Bd2 last (-C) 1000000000) ∧ Hid (((R.take k).reverse).foldl (fun last e => l.foldl (slackStep e) last) last = slackRun l R due) ∧ Below w.heap.size w wr)
          case atStart => exact ⟨due, 0, rfl, Nat.le_refl _, R3.out, by omega, by omega, by intro x hx; have := Hy'.out x hx; omega, by unfold Hid; rw [List.take_length]; rfl, hb3'⟩
          case round =>
            clear hb3'
            obtain ⟨last, C, rfl, hkl, hR, hC1, hC2, hbd, hrun, hb⟩ := hrel
            cases gk with
            | zero =>
              have hrun' : Hid (last = slackRun l R due) := hrun.out
              clear hrun
              have Hs0 := Lib.hid (show refSlackErr start l R due = 0 by unfold refSlackErr; rw [if_neg (by simpa using Hs.out), Hy.out]; have := Hd.out; simp [this])
              have hR0 := Lib.hid hR; clear hR
              go_wp2_with fail
              go_loopg [101] due.length (fun k i wr => ∃ (j : Nat) (out : List Int), j + k = due.length ∧ i = .int .i64 j ∧
                Rows3 w.heap.size w2.heap.size wr (.slice at' start.length ct) start.length (timesRun l R start) (.slice ao R.length co) R.length R (.slice av due.length cv) due.length out ∧
                Hid (Bd2 out (-(30000000000 * ((j : Int) + 1))) 1000000000) ∧ Hid (((List.range start.length).drop j).foldl (subStep (timesRun l R start)) out = refSlackVal start l R due) ∧ Below w.heap.size w wr)
              case atStart => exact ⟨0, last, by omega, rfl, hR0.out, bd2_mono hbd.out (by omega) (by omega), by unfold Hid; rw [refSlackVal_eq Hd.out, ← hrun'.out]; rfl, hb⟩
              case round =>
                clear hb
                obtain ⟨j, out, hk, rfl, hR, hbo, hru, hbr⟩ := hrel
                have Hk := Lib.hid hk; clear hk
                by_cases hlt : j < due.length
                · obtain ⟨g, cap, hg, hg1, hg2⟩ := own_shape hR.l (by omega)
                  cases hg
                  obtain ⟨gt, capt, hgt, _, hgt2⟩ := own_shape hR.t (by have := Hd.out; omega)
                  cases hgt
                  have m1 := own_cell hR.l hlt
                  have m2 := own_cell hR.t (j := j) (by have := Hd.out; omega)
                  have m3 := hR.l.frozenAt j
                  have lo := own_len hR.l
                  have lt := own_len hR.t
                  have hj2 : j < 200 := by have := Hd.out; omega
                  have hj3 : j < start.length := by have := Hd.out; omega
                  have r1 := bd2_at hbo.out (i := j) (by omega) (by omega)
                  have r2 := bd2_at Bt.out (i := j) (by omega) (by have := Hd.out; omega)
                  have HR := Lib.hid hR; clear hR
                  have Lo := Lib.hid lo; clear lo
                  have Lt := Lib.hid lt; clear lt
                  rw [show out.getD j 0 = at0 out j from rfl] at m1
                  rw [show (timesRun l R start).getD j 0 = at0 (timesRun l R start) j from rfl] at m2
                  go_wp2_with fail
                  have hwr : IntKind.i64.wrap (at0 out j - at0 (timesRun l R start) j) = at0 out j - at0 (timesRun l R start) j := IntWalk.i64_in _ (by omega)
                  refine wp_region_still_tail 12 (by kernel_rfl) (by kernel_rfl) ?_
                  simp only [List.take_succ_cons, List.take_zero, List.drop_succ_cons, List.drop_zero]
                  change wpStill _ _ (World.drew _) _ _ _
                  repeat still_step
                  refine wpStill_nil ?_
                  change wpList _ _ _ _ _ (World.drew _)
                  go_wp2_with fail
                  go_roundg (gk - 1)
                  case measure => have := Hk.out; omega
                  case rel =>
                    refine ⟨j + 1, subStep (timesRun l R start) out j, by have := Hk.out; omega, by go_num, (HR.out.set j _).drew, ?_, ?_, ?_⟩
                    · exact bd2_set hbo.out (by omega) (by omega) (by omega) _
                    · have := hru.out; rw [drop_cons (show (List.range start.length)[j]? = some j by simp [hj3])] at this; exact this
                    · exact (hbr.setCell (p := ⟨g, _, none⟩) (Nat.le_trans z1 hg1) _).drew
                · have hz : (List.range start.length).drop j = [] := List.drop_eq_nil_of_le (by have := Hd.out; simp; omega)
                  rw [hz] at hru
                  have hfin : OwnI wr w.heap.size (.slice av due.length cv) (refSlackVal start l R due).length (refSlackVal start l R due) := by
                    rw [← hru.out]; have := own_len hR.l; show OwnI wr _ _ out.length out; rw [this]; exact owns_base hR.l z1
                  have Hfin := Lib.hid hfin; clear hfin hR hru hz
                  go_wp2_with fail
                  go_ret2
                  exact ⟨_, by rw [Hs0.out]; rfl, ⟨fun _ => Hfin.out, fun h => absurd Hs0.out h⟩, hbr⟩
            | succ k =>
              rw [show ((k + 1 : Nat) : Int) - 1 = (k : Int) from by omega]
              obtain ⟨e, he⟩ := get_some (xs := R) rfl (show k < _ from hkl)
              have hem := HR3.out e (List.mem_of_getElem? he)
              obtain ⟨e0, e1⟩ := hem
              have He := Lib.hid he; clear he
              obtain ⟨go, cpo, hgo, _, hgo2⟩ := own_shape hR.o (by omega)
              cases hgo
              have hR' := Lib.hid hR; clear hR
              have l2 := Lib.hid h2.len
              have hn2 : n2 ≤ 1000 := by have := h2.len; have := Hz.out.2.1; omega
              go_wp2_with fail
              go_loopg [65] n2 (fun k2 i wr => ∃ (j : Nat) (last2 : List Int) (C2 : Int), j + k2 = n2 ∧ i = .int .i64 j ∧
                Rows3 w.heap.size w2.heap.size wr (.slice at' start.length ct) start.length (timesRun l R start) (.slice (some ⟨go, 0, none⟩) R.length co) R.length R (.slice av due.length cv) due.length last2 ∧
                C2 ≤ C + 100000 * j ∧ 0 ≤ C2 ∧ Hid (Bd2 last2 (-C2) 1000000000) ∧ Hid ((l.drop j).foldl (slackStep e) last2 = l.foldl (slackStep e) last) ∧ Below w.heap.size w wr)
              case atStart => exact ⟨0, last, C, by omega, rfl, hR'.out, by omega, hC2, hbd, by simp [Hid], hb⟩
              case round =>
                clear hb
                obtain ⟨j2, last2, C2, hk2, rfl, hR2, hC21, hC22, hbd2, hrun2, hb2⟩ := hrel
                have Hk2 := Lib.hid hk2; clear hk2
                by_cases hlt2 : j2 < n2
                · obtain ⟨y, hy⟩ := get_some l2.out hlt2
                  obtain ⟨p2, o2, rfl, hp2, g1, g2, g3⟩ := h2.wt hy
                  have g1 := (hb2.cell (p := ⟨p2, o2 + j2 * 3, none⟩) hp2).trans g1
                  have g2 := (hb2.cell (p := ⟨p2, o2 + j2 * 3 + 1, none⟩) hp2).trans g2
                  have g3 := (hb2.cell (p := ⟨p2, o2 + j2 * 3 + 2, none⟩) hp2).trans g3
                  have Hyy := Lib.hid hy; clear hy
                  obtain ⟨y1, y2, y3, y4, y5, y6⟩ := Hz.out.2.2.2 y (List.mem_of_getElem? Hyy.out)
                  have hdl := Hd.out
                  obtain ⟨g, cap, hg, hg1, hg2⟩ := own_shape hR2.l (by omega)
                  cases hg
                  have lo := own_len hR2.l
                  have oc : wr.cell? ⟨go, k, none⟩ = some (.int .i64 e) := by
                    have := own_cell hR2.o (j := k) hkl
                    rwa [show R.getD k 0 = e from by simp [List.getD, He.out]] at this
                  have ob : go < wr.heap.size := (own_shape' hR2.o).2
                  by_cases hfr : y.frm = e
                  · have ht : (y.frm == e) = true := by simpa using hfr
                    have k1 : wr.cell? ⟨g, e.toNat, none⟩ = some (.int .i64 (at0 last2 e)) := own_cell hR2.l (by omega)
                    have k2 : wr.cell? ⟨g, y.to.toNat, none⟩ = some (.int .i64 (at0 last2 y.to)) := own_cell hR2.l (by omega)
                    have k3 := hR2.l.frozenAt e.toNat
                    obtain ⟨q1, q2⟩ := bd2_at hbd2.out e0 (by omega)
                    obtain ⟨q3, q4⟩ := bd2_at hbd2.out y3 (by omega)
                    have HR2 := Lib.hid hR2; clear hR2
                    have Lo := Lib.hid lo; clear lo
                    have Hdl := Lib.hid hdl; clear hdl
                    have Hfr := Lib.hid hfr
                    have e2 : e < due.length := by have := Hd.out; omega
                    have y7 : y.to < due.length := by have := Hd.out; omega
                    have hk9 : k < R.length := hkl
                    rcases Int.lt_or_le (at0 last2 y.to - y.gap) (at0 last2 e) with hmx | hmx
                    · go_wp2_with fail
                      go_quiet (fail)
                      go_wp2_with fail
                      have hwr : IntKind.i64.wrap (at0 last2 y.to - y.gap) = at0 last2 y.to - y.gap := IntWalk.i64_in _ (by omega)
                      refine wp_region_still_tail 22 (by kernel_rfl) (by kernel_rfl) ?_
                      simp only [List.take_succ_cons, List.take_zero, List.drop_succ_cons, List.drop_zero]
                      change wpStill _ _ (World.drew _) _ _ _
                      repeat still_step
                      refine wpStill_nil ?_
                      change wpList _ _ _ _ _ (World.drew _)
                      go_wp2_with fail
                      go_roundg (gk - 1)
                      case measure => have := Hk2.out; omega
                      case rel =>
                        have hR3 := (((HR2.out.alloc (.cells #[.int .i64 y.frm, .int .i64 y.to, .int .i64 y.gap] 53)).drewN nq).set e.toNat (at0 last2 y.to - y.gap))
                        rw [Hfr.out] at hR3
                        refine ⟨j2 + 1, slackStep e last2 y, C2 + 100000, by have := Hk2.out; omega, by go_num, ?_, by omega, by omega, ?_, by rw [← hrun2.out, drop_cons Hyy.out]; rfl, ?_⟩
                        · unfold slackStep; rw [if_pos Hfr.out, Hfr.out, show min (at0 last2 e) (at0 last2 y.to - y.gap) = at0 last2 y.to - y.gap from by omega]; exact hR3.drew
                        · unfold slackStep; rw [if_pos Hfr.out, Hfr.out]; exact bd2_set hbd2.out (by omega) (by omega) (by omega) _
                        · exact (below_drewN (hb2.alloc hb2.size _) _).setCell (p := ⟨g, _, none⟩) (Nat.le_trans z1 hg1) _
                    · go_wp2_with fail
                      go_quiet (fail)
                      go_wp2_with fail
                      have hwr : IntKind.i64.wrap (at0 last2 y.to - y.gap) = at0 last2 y.to - y.gap := IntWalk.i64_in _ (by omega)
                      refine wp_region_still_tail 22 (by kernel_rfl) (by kernel_rfl) ?_
                      simp only [List.take_succ_cons, List.take_zero, List.drop_succ_cons, List.drop_zero]
                      change wpStill _ _ (World.drew _) _ _ _
                      repeat still_step
                      refine wpStill_nil ?_
                      change wpList _ _ _ _ _ (World.drew _)
                      go_wp2_with fail
                      go_roundg (gk - 1)
                      case measure => have := Hk2.out; omega
                      case rel =>
                        have hR3 := (((HR2.out.alloc (.cells #[.int .i64 y.frm, .int .i64 y.to, .int .i64 y.gap] 53)).drewN nq).set e.toNat (at0 last2 e))
                        rw [Hfr.out] at hR3
                        refine ⟨j2 + 1, slackStep e last2 y, C2 + 100000, by have := Hk2.out; omega, by go_num, ?_, by omega, by omega, ?_, by rw [← hrun2.out, drop_cons Hyy.out]; rfl, ?_⟩
                        · unfold slackStep; rw [if_pos Hfr.out, Hfr.out, show min (at0 last2 e) (at0 last2 y.to - y.gap) = at0 last2 e from by omega]; exact hR3.drew
                        · unfold slackStep; rw [if_pos Hfr.out, Hfr.out]; exact bd2_set hbd2.out (by omega) (by omega) (by omega) _
                        · exact (below_drewN (hb2.alloc hb2.size _) _).setCell (p := ⟨g, _, none⟩) (Nat.le_trans z1 hg1) _
                  · have ht : (y.frm == e) = false := by simpa using hfr
                    have Hfr := Lib.hid hfr; clear hfr
                    have HR2 := Lib.hid hR2; clear hR2
                    have Lo := Lib.hid lo; clear lo
                    have Hdl := Lib.hid hdl; clear hdl
                    go_wp2_with fail
                    go_quiet (fail)
                    go_wp2_with fail
                    go_roundg (gk - 1)
                    case measure => have := Hk2.out; omega
                    case rel =>
                      refine ⟨j2 + 1, slackStep e last2 y, C2 + 100000, by have := Hk2.out; omega, by go_num, ?_, by omega, by omega, ?_, by rw [← hrun2.out, drop_cons Hyy.out]; rfl, ?_⟩
                      · unfold slackStep; rw [if_neg Hfr.out]; exact (HR2.out.alloc _).drewN _
                      · unfold slackStep; rw [if_neg Hfr.out]; exact bd2_mono hbd2.out (by omega) (by omega)
                      · exact below_drewN (hb2.alloc hb2.size _) _
                · have hrun3 : Hid (last2 = l.foldl (slackStep e) last) := by have := hrun2.out; rw [drop_end l2.out (by omega)] at this; exact this
                  clear hrun2
                  have HR2 := Lib.hid hR2; clear hR2
                  go_wp2_with fail
                  go_roundg k
                  case measure => omega
                  case rel =>
                    have := Hk2.out
                    refine ⟨last2, C2, rfl, by omega, HR2.out, by omega, hC22, hbd2, ?_, hb2⟩
                    have h5 := hrun.out
                    rw [take_rev He.out, List.foldl_cons, ← hrun3.out] at h5
                    exact h5
    · have hdd : (((due.length : Nat) : Int) != ((start.length : Nat) : Int)) = true := by rw [bne_iff_ne]; omega
      have Hd := Lib.hid hd; clear hd
      go_enter Try.func22, Try.ntmps22
      go_wp2_with fail
      refine H.out.mono ?_
      rintro e w1 ⟨v1, rfl, hs, hb⟩
      rw [Hs.out]
      go_wp2_with fail
      go_ret2
      have hd : refSlackErr start l R due = 1 := by unfold refSlackErr; rw [if_neg (by simpa using Hs.out), show decide (due.length ≠ start.length) = true from by simpa using Hd.out]; simp
      exact ⟨_, by rw [hd]; rfl, ⟨fun h => absurd (hd.symm.trans h) (by decide), fun _ => rfl⟩, hb⟩
  · have hq := neq_beq hs
    have Hs := Lib.hid hs; clear hs
    go_enter Try.func22, Try.ntmps22
    go_wp2_with fail
    refine H.out.mono ?_
    rintro e w1 ⟨v1, rfl, hs, hb⟩
    go_wp2_with fail
    go_ret2
    have hd : refSlackErr start l R due = refErr start l R := by unfold refSlackErr; rw [if_pos Hs.out]
    exact ⟨_, by rw [hd]; rfl, ⟨fun h => absurd (hd.symm.trans h) Hs.out, fun _ => rfl⟩, hb⟩
end Go.Proofs.Ytkklnaejpgcgoaa
