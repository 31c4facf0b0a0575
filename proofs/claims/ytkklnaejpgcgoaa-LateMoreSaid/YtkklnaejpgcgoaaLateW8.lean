/- Walk of late.Slack. -/
import Derived.Test.YtkklnaejpgcgoaaLateW7
namespace Go.Proofs.Ytkklnaejpgcgoaa
open Go.RowKit

def slackErr (start : List Int) (l : List Wt) (due : List Int) : Int :=
  if solveErr start l ≠ 0 then solveErr start l else if (decide (due.length ≠ start.length) || due.any (fun x => offB x 1000000000)) = true then 1 else 0
def slackVal (start : List Int) (l : List Wt) (due : List Int) : List Int := subRun (timesOf start l) (slackRun l (lateOrder start.length l) due)

theorem slackStep_length (e : Int) (out : List Int) (x : Wt) : (slackStep e out x).length = out.length := by unfold slackStep; split <;> simp
theorem slackRun_length (l : List Wt) (o : List Int) (out : List Int) : (slackRun l o out).length = out.length := by
  have h1 : ∀ (e : Int) (l : List Wt) (out : List Int), (l.foldl (slackStep e) out).length = out.length := by
    intro e l
    induction l with
    | nil => intro out; rfl
    | cons x r ih => intro out; rw [List.foldl_cons, ih, slackStep_length]
  unfold slackRun
  generalize o.reverse = o'
  induction o' generalizing out with
  | nil => rfl
  | cons e r ih => rw [List.foldl_cons, ih, h1]
theorem slackVal_eq {start due : List Int} {l : List Wt} (h : due.length = start.length) : slackVal start l due = (List.range start.length).foldl (subStep (timesOf start l)) (slackRun l (lateOrder start.length l) due) := by
  unfold slackVal subRun; rw [slackRun_length, h]
theorem take_rev {α : Type} {xs : List α} {k : Nat} {x : α} (h : xs[k]? = some x) : (xs.take (k + 1)).reverse = x :: (xs.take k).reverse := by
  obtain ⟨hk, rfl⟩ := List.getElem?_eq_some_iff.1 h
  rw [List.take_succ_eq_append_getElem hk]; simp

/-- Three rows of numbers that the call owns, of which the last is written. -/
structure Rows3 (B M : Nat) (w : World) (vt : Value) (nt : Nat) (t : List Int) (vo : Value) (no : Nat) (o : List Int) (vl : Value) (nl : Nat) (last : List Int) : Prop where
  t : OwnI w B vt nt t
  o : OwnI w B vo no o
  l : OwnI w M vl nl last
  st : ∀ k, vt.ownBlock = some k → k < M
  so : ∀ k, vo.ownBlock = some k → k < M

section
variable {B M : Nat} {w : World} {vt : Value} {nt : Nat} {t : List Int} {vo : Value} {no : Nat} {o : List Int} {vl : Value} {nl : Nat} {last : List Int}
theorem Rows3.alloc (h : Rows3 B M w vt nt t vo no o vl nl last) (x : Obj) : Rows3 B M (w.alloc x) vt nt t vo no o vl nl last := ⟨h.t.alloc x, h.o.alloc x, h.l.alloc x, h.st, h.so⟩
theorem Rows3.drew (h : Rows3 B M w vt nt t vo no o vl nl last) : Rows3 B M w.drew vt nt t vo no o vl nl last := ⟨h.t, h.o, h.l, h.st, h.so⟩
theorem Rows3.drewN (h : Rows3 B M w vt nt t vo no o vl nl last) (q : Nat) : Rows3 B M (w.drewN q) vt nt t vo no o vl nl last := ⟨h.t, h.o, h.l, h.st, h.so⟩
theorem Rows3.set {g cap : Nat} (h : Rows3 B M w vt nt t vo no o (.slice (some ⟨g, 0, none⟩) nl cap) nl last) (j : Nat) (u : Int) :
    Rows3 B M (w.setCell ⟨g, j, none⟩ (.int .i64 u)) vt nt t vo no o (.slice (some ⟨g, 0, none⟩) nl cap) nl (last.set j u) := by
  obtain ⟨e1, e2⟩ := own_set h.l j u
  have hg := (own_shape' h.l).1
  refine ⟨h.t.kept e2 (.inr ?_), h.o.kept e2 (.inr ?_), e1, h.st, h.so⟩
  · intro hk; have := h.st g hk; omega
  · intro hk; have := h.so g hk; omega
end

set_option maxHeartbeats 2000000 in
theorem slack_any (w : World) (a1 a2 a3 : Option Addr) (n1 c1 n2 c2 n3 c3 : Nat) (start : List Int) (l : List Wt) (due : List Int) (h1 : Ints w a1 n1 start) (h2 : Wts w a2 n2 l) (h3 : Ints w a3 n3 due) (hc : a1 = none → c1 = 0) (hc3 : a3 = none → c3 = 0) :
    Calls Try.prog 21 #[.slice a1 n1 c1, .slice a2 n2 c2, .slice a3 n3 c3] w fun e w' => ∃ v, e = .returned (.tuple #[v, .int .i64 (slackErr start l due)]) ∧
      NumsOut w' w.heap.size (slackErr start l due) (slackVal start l due) v ∧ Below w.heap.size w w' := by
  obtain rfl := h1.len
  obtain rfl := h3.len
  have b1 := h1.bnd
  have b3 := h3.bnd
  have H := Lib.hid (solve_any w a1 a2 _ c1 n2 c2 start l h1 h2 hc)
  have Hc3 := Lib.hid hc3; clear hc3 hc
  by_cases hs : solveErr start l = 0
  · obtain ⟨hk1, hk2⟩ := solveErr_zero hs
    have hz := lateCheck_zero hk1
    have Hz := Lib.hid hz; clear hk1
    have hz1 := hz.1
    clear hz
    have Hk2 := Lib.hid hk2; clear hk2
    have Hs := Lib.hid hs; clear hs
    by_cases hd : due.length = start.length
    · have hdd : (((due.length : Nat) : Int) != ((start.length : Nat) : Int)) = false := by simp [hd]
      have Hd := Lib.hid hd; clear hd
      cases hy : due.any (fun x => offB x 1000000000)
      · have hy' : ∀ x ∈ due, 0 ≤ x ∧ x ≤ 1000000000 := fun x hx => offB_false (List.any_eq_false.1 hy x hx |> eq_false_of_ne_true)
        have Hy' := Lib.hid hy'; clear hy'
        have Hy := Lib.hid hy; clear hy
        have Bt := Lib.hid (timesOf_bd Hs.out)
        go_enter Try.func21, Try.ntmps21
        go_wp2_with fail
        refine H.out.mono ?_
        rintro e w1 ⟨v1, v2, rfl, hs, hb⟩
        rw [Hs.out]
        obtain ⟨o1, o2⟩ := hs.ok Hs.out
        have O1 := Lib.hid o1
        have O2 := Lib.hid o2
        clear o1 o2 hs
        have H1 := Lib.hid (conInts w1 a3 _ c3 due 31 #[] _ (h3.below hb) (fun_slack1 _ _))
        go_wp2_with fail
        refine H1.out.mono ?_
        rintro e w2 ⟨rfl, hb2⟩
        rw [Hy.out]
        have hb2' := below_step hb hb2 hb.size
        have H3 := Lib.hid (cloneInts w2 a3 _ c3 due (h3.below hb2') Hc3.out (by have := Hd.out; omega))
        go_wp2_with fail
        refine H3.out.mono ?_
        rintro e w3 ⟨v, rfl, hown, hb3⟩
        have hb3' := below_step hb2' hb3 hb2'.size
        have o1 := owns_below (owns_below O1.out hb2) hb3
        have o2 := owns_below (owns_below O2.out hb2) hb3
        have z1 : w.heap.size ≤ w2.heap.size := hb2'.size
        have own0 := owns_base hown z1
        have sep1 : ∀ k, v1.ownBlock = some k → k < w2.heap.size := fun k hk => ((owns_below O1.out hb2).lt k hk).2
        have sep2 : ∀ k, v2.ownBlock = some k → k < w2.heap.size := fun k hk => ((owns_below O2.out hb2).lt k hk).2
        obtain ⟨ao, co, rfl, hno, hco⟩ := own_slice o2
        obtain ⟨at', ct, rfl, hnt, hct⟩ := own_slice o1
        obtain ⟨av, cv, rfl, hnv, hcv⟩ := own_slice hown
        have R3 := Lib.hid (show Rows3 w.heap.size w2.heap.size w3 _ _ _ _ _ _ _ _ _ from ⟨o1, o2, hown, sep1, sep2⟩)
        clear hb hb2 hb3 hb2' hco hct hcv sep1 sep2 hown own0 o1 o2
        have hno' : (lateOrder start.length l).length ≤ 200 := by have := Hk2.out; omega
        go_wp2_with fail
        go_loopg [12] (lateOrder start.length l).length (fun k i wr => ∃ (last : List Int) (C : Int), i = .int .i64 ((k : Int) - 1) ∧ k ≤ (lateOrder start.length l).length ∧
          Rows3 w.heap.size w2.heap.size wr (.slice at' start.length ct) start.length (timesOf start l) (.slice ao (lateOrder start.length l).length co) (lateOrder start.length l).length (lateOrder start.length l) (.slice av due.length cv) due.length last ∧
          C + 100000000 * k ≤ 20000000000 ∧ 0 ≤ C ∧ Hid (Bd2 last (-C) 1000000000) ∧ Hid ((((lateOrder start.length l).take k).reverse).foldl (fun last e => l.foldl (slackStep e) last) last = slackRun l (lateOrder start.length l) due) ∧ Below w.heap.size w wr)
        case atStart => exact ⟨due, 0, rfl, Nat.le_refl _, R3.out, by omega, by omega, by intro x hx; have := Hy'.out x hx; omega, by unfold Hid; rw [List.take_length]; rfl, hb3'⟩
        case round =>
          clear hb3'
          obtain ⟨last, C, rfl, hkl, hR, hC1, hC2, hbd, hrun, hb⟩ := hrel
          cases gk with
          | zero =>
            have hrun' : Hid (last = slackRun l (lateOrder start.length l) due) := hrun.out
            clear hrun
            have Hs0 := Lib.hid (show slackErr start l due = 0 by unfold slackErr; rw [if_neg (by simpa using Hs.out), Hy.out]; have := Hd.out; simp [this])
            have hR0 := Lib.hid hR; clear hR
            go_wp2_with fail
            go_loopg [78] due.length (fun k i wr => ∃ (j : Nat) (out : List Int), j + k = due.length ∧ i = .int .i64 j ∧
              Rows3 w.heap.size w2.heap.size wr (.slice at' start.length ct) start.length (timesOf start l) (.slice ao (lateOrder start.length l).length co) (lateOrder start.length l).length (lateOrder start.length l) (.slice av due.length cv) due.length out ∧
              Hid (Bd2 out (-(30000000000 * ((j : Int) + 1))) 1000000000) ∧ Hid (((List.range start.length).drop j).foldl (subStep (timesOf start l)) out = slackVal start l due) ∧ Below w.heap.size w wr)
            case atStart => exact ⟨0, last, by omega, rfl, hR0.out, bd2_mono hbd.out (by omega) (by omega), by unfold Hid; rw [slackVal_eq Hd.out, ← hrun'.out]; rfl, hb⟩
            case round =>
              clear hb
              obtain ⟨j, out, hk, rfl, hR, hbo, hru, hbr⟩ := hrel
              have Hk := Lib.hid hk; clear hk
              by_cases hlt : j < due.length
              · obtain ⟨g, cap, hg, hg1, hg2⟩ := own_shape hR.l (by omega)
                cases hg
                obtain ⟨gt, capt, hgt, _, hgt2⟩ := own_shape hR.t (by have := Hd.out; omega)
                cases hgt
                have m1 := own_cell hR.l hlt
                have m2 := own_cell hR.t (j := j) (by have := Hd.out; omega)
                have m3 := hR.l.frozenAt j
                have lo := own_len hR.l
                have lt := own_len hR.t
                have hj2 : j < 200 := by have := Hd.out; omega
                have hj3 : j < start.length := by have := Hd.out; omega
                have r1 := bd2_at hbo.out (i := j) (by omega) (by omega)
                have r2 := bd2_at Bt.out (i := j) (by omega) (by have := Hd.out; omega)
                have HR := Lib.hid hR; clear hR
                have Lo := Lib.hid lo; clear lo
                have Lt := Lib.hid lt; clear lt
                rw [show out.getD j 0 = at0 out j from rfl] at m1
                rw [show (timesOf start l).getD j 0 = at0 (timesOf start l) j from rfl] at m2
                go_wp2_with fail
                have hwr : IntKind.i64.wrap (at0 out j - at0 (timesOf start l) j) = at0 out j - at0 (timesOf start l) j := IntWalk.i64_in _ (by omega)
                refine wp_region_still_tail 10 (by kernel_rfl) (by kernel_rfl) ?_
                simp only [List.take_succ_cons, List.take_zero, List.drop_succ_cons, List.drop_zero]
                change wpStill _ _ (World.drew _) _ _ _
                repeat still_step
                refine wpStill_nil ?_
                change wpList _ _ _ _ _ (World.drew _)
                go_wp2_with fail
                go_roundg (gk - 1)
                case measure => have := Hk.out; omega
                case rel =>
                  refine ⟨j + 1, subStep (timesOf start l) out j, by have := Hk.out; omega, by go_num, (HR.out.set j _).drew, ?_, ?_, ?_⟩
                  · exact bd2_set hbo.out (by omega) (by omega) (by omega) _
                  · have := hru.out; rw [drop_cons (show (List.range start.length)[j]? = some j by simp [hj3])] at this; exact this
                  · exact (hbr.setCell (p := ⟨g, _, none⟩) (Nat.le_trans z1 hg1) _).drew
              · have hz : (List.range start.length).drop j = [] := List.drop_eq_nil_of_le (by have := Hd.out; simp; omega)
                rw [hz] at hru
                have hfin : OwnI wr w.heap.size (.slice av due.length cv) (slackVal start l due).length (slackVal start l due) := by
                  rw [← hru.out]; have := own_len hR.l; show OwnI wr _ _ out.length out; rw [this]; exact owns_base hR.l z1
                have Hfin := Lib.hid hfin; clear hfin hR hru hz
                go_wp2_with fail
                go_ret2
                exact ⟨_, by rw [Hs0.out]; rfl, ⟨fun _ => Hfin.out, fun h => absurd Hs0.out h⟩, hbr⟩
          | succ k =>
            rw [show ((k + 1 : Nat) : Int) - 1 = (k : Int) from by omega]
            obtain ⟨e, he⟩ := get_some (xs := (lateOrder start.length l)) rfl (show k < _ from hkl)
            have hem := lateOrder_mem e (List.mem_of_getElem? he)
            obtain ⟨e0, e1⟩ := hem
            have He := Lib.hid he; clear he
            obtain ⟨go, cpo, hgo, _, hgo2⟩ := own_shape hR.o (by omega)
            cases hgo
            have hR' := Lib.hid hR; clear hR
            have l2 := Lib.hid h2.len
            have hn2 : n2 ≤ 1000 := by have := h2.len; have := Hz.out.2.1; omega
            go_wp2_with fail
            go_loopg [46] n2 (fun k2 i wr => ∃ (j : Nat) (last2 : List Int) (C2 : Int), j + k2 = n2 ∧ i = .int .i64 j ∧
              Rows3 w.heap.size w2.heap.size wr (.slice at' start.length ct) start.length (timesOf start l) (.slice (some ⟨go, 0, none⟩) (lateOrder start.length l).length co) (lateOrder start.length l).length (lateOrder start.length l) (.slice av due.length cv) due.length last2 ∧
              C2 ≤ C + 100000 * j ∧ 0 ≤ C2 ∧ Hid (Bd2 last2 (-C2) 1000000000) ∧ Hid ((l.drop j).foldl (slackStep e) last2 = l.foldl (slackStep e) last) ∧ Below w.heap.size w wr)
            case atStart => exact ⟨0, last, C, by omega, rfl, hR'.out, by omega, hC2, hbd, by simp [Hid], hb⟩
            case round =>
              clear hb
              obtain ⟨j2, last2, C2, hk2, rfl, hR2, hC21, hC22, hbd2, hrun2, hb2⟩ := hrel
              have Hk2 := Lib.hid hk2; clear hk2
              by_cases hlt2 : j2 < n2
              · obtain ⟨y, hy⟩ := get_some l2.out hlt2
                obtain ⟨p2, o2, rfl, hp2, g1, g2, g3⟩ := h2.wt hy
                have g1 := (hb2.cell (p := ⟨p2, o2 + j2 * 3, none⟩) hp2).trans g1
                have g2 := (hb2.cell (p := ⟨p2, o2 + j2 * 3 + 1, none⟩) hp2).trans g2
                have g3 := (hb2.cell (p := ⟨p2, o2 + j2 * 3 + 2, none⟩) hp2).trans g3
                have Hyy := Lib.hid hy; clear hy
                obtain ⟨y1, y2, y3, y4, y5, y6⟩ := Hz.out.2.2.2 y (List.mem_of_getElem? Hyy.out)
                have hdl := Hd.out
                obtain ⟨g, cap, hg, hg1, hg2⟩ := own_shape hR2.l (by omega)
                cases hg
                have lo := own_len hR2.l
                have oc : wr.cell? ⟨go, k, none⟩ = some (.int .i64 e) := by
                  have := own_cell hR2.o (j := k) hkl
                  rwa [show (lateOrder start.length l).getD k 0 = e from by simp [List.getD, He.out]] at this
                have ob : go < wr.heap.size := (own_shape' hR2.o).2
                by_cases hfr : y.frm = e
                · have ht : (y.frm == e) = true := by simpa using hfr
                  have k1 : wr.cell? ⟨g, e.toNat, none⟩ = some (.int .i64 (at0 last2 e)) := own_cell hR2.l (by omega)
                  have k2 : wr.cell? ⟨g, y.to.toNat, none⟩ = some (.int .i64 (at0 last2 y.to)) := own_cell hR2.l (by omega)
                  have k3 := hR2.l.frozenAt e.toNat
                  obtain ⟨q1, q2⟩ := bd2_at hbd2.out e0 (by omega)
                  obtain ⟨q3, q4⟩ := bd2_at hbd2.out y3 (by omega)
                  have HR2 := Lib.hid hR2; clear hR2
                  have Lo := Lib.hid lo; clear lo
                  have Hdl := Lib.hid hdl; clear hdl
                  have Hfr := Lib.hid hfr
                  have e2 : e < due.length := by have := Hd.out; omega
                  have y7 : y.to < due.length := by have := Hd.out; omega
                  have hk9 : k < (lateOrder start.length l).length := hkl
                  rcases Int.lt_or_le (at0 last2 y.to - y.gap) (at0 last2 e) with hmx | hmx
                  · go_wp2_with fail
                    go_quiet (fail)
                    go_wp2_with fail
                    have hwr : IntKind.i64.wrap (at0 last2 y.to - y.gap) = at0 last2 y.to - y.gap := IntWalk.i64_in _ (by omega)
                    refine wp_region_still_tail 18 (by kernel_rfl) (by kernel_rfl) ?_
                    simp only [List.take_succ_cons, List.take_zero, List.drop_succ_cons, List.drop_zero]
                    change wpStill _ _ (World.drew _) _ _ _
                    repeat still_step
                    refine wpStill_nil ?_
                    change wpList _ _ _ _ _ (World.drew _)
                    go_wp2_with fail
                    go_roundg (gk - 1)
                    case measure => have := Hk2.out; omega
                    case rel =>
                      have hR3 := (((HR2.out.alloc (.cells #[.int .i64 y.frm, .int .i64 y.to, .int .i64 y.gap] 34)).drewN nq).set e.toNat (at0 last2 y.to - y.gap))
                      rw [Hfr.out] at hR3
                      refine ⟨j2 + 1, slackStep e last2 y, C2 + 100000, by have := Hk2.out; omega, by go_num, ?_, by omega, by omega, ?_, by rw [← hrun2.out, drop_cons Hyy.out]; rfl, ?_⟩
                      · unfold slackStep; rw [if_pos Hfr.out, Hfr.out, show min (at0 last2 e) (at0 last2 y.to - y.gap) = at0 last2 y.to - y.gap from by omega]; exact hR3.drew
                      · unfold slackStep; rw [if_pos Hfr.out, Hfr.out]; exact bd2_set hbd2.out (by omega) (by omega) (by omega) _
                      · exact (below_drewN (hb2.alloc hb2.size _) _).setCell (p := ⟨g, _, none⟩) (Nat.le_trans z1 hg1) _
                  · go_wp2_with fail
                    go_quiet (fail)
                    go_wp2_with fail
                    have hwr : IntKind.i64.wrap (at0 last2 y.to - y.gap) = at0 last2 y.to - y.gap := IntWalk.i64_in _ (by omega)
                    refine wp_region_still_tail 18 (by kernel_rfl) (by kernel_rfl) ?_
                    simp only [List.take_succ_cons, List.take_zero, List.drop_succ_cons, List.drop_zero]
                    change wpStill _ _ (World.drew _) _ _ _
                    repeat still_step
                    refine wpStill_nil ?_
                    change wpList _ _ _ _ _ (World.drew _)
                    go_wp2_with fail
                    go_roundg (gk - 1)
                    case measure => have := Hk2.out; omega
                    case rel =>
                      have hR3 := (((HR2.out.alloc (.cells #[.int .i64 y.frm, .int .i64 y.to, .int .i64 y.gap] 34)).drewN nq).set e.toNat (at0 last2 e))
                      rw [Hfr.out] at hR3
                      refine ⟨j2 + 1, slackStep e last2 y, C2 + 100000, by have := Hk2.out; omega, by go_num, ?_, by omega, by omega, ?_, by rw [← hrun2.out, drop_cons Hyy.out]; rfl, ?_⟩
                      · unfold slackStep; rw [if_pos Hfr.out, Hfr.out, show min (at0 last2 e) (at0 last2 y.to - y.gap) = at0 last2 e from by omega]; exact hR3.drew
                      · unfold slackStep; rw [if_pos Hfr.out, Hfr.out]; exact bd2_set hbd2.out (by omega) (by omega) (by omega) _
                      · exact (below_drewN (hb2.alloc hb2.size _) _).setCell (p := ⟨g, _, none⟩) (Nat.le_trans z1 hg1) _
                · have ht : (y.frm == e) = false := by simpa using hfr
                  have Hfr := Lib.hid hfr; clear hfr
                  have HR2 := Lib.hid hR2; clear hR2
                  have Lo := Lib.hid lo; clear lo
                  have Hdl := Lib.hid hdl; clear hdl
                  go_wp2_with fail
                  go_quiet (fail)
                  go_wp2_with fail
                  go_roundg (gk - 1)
                  case measure => have := Hk2.out; omega
                  case rel =>
                    refine ⟨j2 + 1, slackStep e last2 y, C2 + 100000, by have := Hk2.out; omega, by go_num, ?_, by omega, by omega, ?_, by rw [← hrun2.out, drop_cons Hyy.out]; rfl, ?_⟩
                    · unfold slackStep; rw [if_neg Hfr.out]; exact (HR2.out.alloc _).drewN _
                    · unfold slackStep; rw [if_neg Hfr.out]; exact bd2_mono hbd2.out (by omega) (by omega)
                    · exact below_drewN (hb2.alloc hb2.size _) _
              · have hrun3 : Hid (last2 = l.foldl (slackStep e) last) := by have := hrun2.out; rw [drop_end l2.out (by omega)] at this; exact this
                clear hrun2
                have HR2 := Lib.hid hR2; clear hR2
                go_wp2_with fail
                go_roundg k
                case measure => omega
                case rel =>
                  have := Hk2.out
                  refine ⟨last2, C2, rfl, by omega, HR2.out, by omega, hC22, hbd2, ?_, hb2⟩
                  have h5 := hrun.out
                  rw [take_rev He.out, List.foldl_cons, ← hrun3.out] at h5
                  exact h5
      · have Hy := Lib.hid hy; clear hy
        go_enter Try.func21, Try.ntmps21
        go_wp2_with fail
        refine H.out.mono ?_
        rintro e w1 ⟨v1, v2, rfl, hs, hb⟩
        rw [Hs.out]
        have H1 := Lib.hid (conInts w1 a3 _ c3 due 31 #[] _ (h3.below hb) (fun_slack1 _ _))
        go_wp2_with fail
        refine H1.out.mono ?_
        rintro e w2 ⟨rfl, hb2⟩
        rw [Hy.out]
        go_wp2_with fail
        go_ret2
        have hd : slackErr start l due = 1 := by unfold slackErr; rw [if_neg (by simpa using Hs.out), Hy.out]; simp
        exact ⟨_, by rw [hd]; rfl, ⟨fun h => absurd (hd.symm.trans h) (by decide), fun _ => rfl⟩, below_step hb hb2 hb.size⟩
    · have hdd : (((due.length : Nat) : Int) != ((start.length : Nat) : Int)) = true := by rw [bne_iff_ne]; omega
      have Hd := Lib.hid hd; clear hd
      go_enter Try.func21, Try.ntmps21
      go_wp2_with fail
      refine H.out.mono ?_
      rintro e w1 ⟨v1, v2, rfl, hs, hb⟩
      rw [Hs.out]
      go_wp2_with fail
      go_ret2
      have hd : slackErr start l due = 1 := by unfold slackErr; rw [if_neg (by simpa using Hs.out), show decide (due.length ≠ start.length) = true from by simpa using Hd.out]; simp
      exact ⟨_, by rw [hd]; rfl, ⟨fun h => absurd (hd.symm.trans h) (by decide), fun _ => rfl⟩, hb⟩
  · have hq := neq_beq hs
    have Hs := Lib.hid hs; clear hs
    go_enter Try.func21, Try.ntmps21
    go_wp2_with fail
    refine H.out.mono ?_
    rintro e w1 ⟨v1, v2, rfl, hs, hb⟩
    go_wp2_with fail
    go_ret2
    have hd : slackErr start l due = solveErr start l := by unfold slackErr; rw [if_pos Hs.out]
    exact ⟨_, by rw [hd]; rfl, ⟨fun h => absurd (hd.symm.trans h) Hs.out, fun _ => rfl⟩, hb⟩
end Go.Proofs.Ytkklnaejpgcgoaa
