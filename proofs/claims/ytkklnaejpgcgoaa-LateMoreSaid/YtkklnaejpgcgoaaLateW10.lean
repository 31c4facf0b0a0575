/- Walk of late.Why. -/
import Derived.Test.YtkklnaejpgcgoaaLateW7
import Derived.Test.YtkklnaejpgcgoaaLateW9
namespace Go.Proofs.Ytkklnaejpgcgoaa
open Go.RowKit

/-- is there a chain? -/
def WhyYes (start : List Int) (l : List Wt) (event : Int) : Prop := solveErr start l = 0 ∧ offB event (start.length - 1) = false
/-- What late.Why leaves, W the chain from the event on. -/
structure WhyOut (w' : World) (B : Nat) (yes : Prop) (xs : List Int) (v : Value) : Prop where
  ok : yes → OwnI w' B v xs.length xs
  no : ¬ yes → v = .slice none 0 0

theorem lt_false {a b : Int} (h : ¬ a < b) : decide (a < b) = false := by simpa using h

set_option maxHeartbeats 2000000 in
theorem why_any (w : World) (a1 a2 : Option Addr) (n1 c1 n2 c2 : Nat) (start : List Int) (l : List Wt) (event : Int) (f0 : Nat) (W : List Int) (h1 : Ints w a1 n1 start) (h2 : Wts w a2 n2 l) (hc : a1 = none → c1 = 0)
    (hW : WhyYes start l event → whyRun (timesOf start l) start l f0 event [event] = some W ∧ W.length ≤ 1000) :
    Calls Try.prog 17 #[.slice a1 n1 c1, .slice a2 n2 c2, .int .i64 event] w fun e w' => ∃ v, e = .returned v ∧ WhyOut w' w.heap.size (WhyYes start l event) W.reverse v ∧ Below w.heap.size w w' := by
  obtain rfl := h1.len
  have b1 := h1.bnd
  have H := Lib.hid (solve_any w a1 a2 _ c1 n2 c2 start l h1 h2 hc)
  have Hc := Lib.hid hc; clear hc
  by_cases hs : solveErr start l = 0
  · by_cases he : offB event ((start.length : Int) - 1) = true
    · have hno : ¬ WhyYes start l event := fun h => by rw [h.2] at he; cases he
      have Hno := Lib.hid hno; clear hno hW
      have He := Lib.hid he; clear he
      have Hs := Lib.hid hs; clear hs
      go_enter Try.func17, Try.ntmps17
      go_wp2_with fail
      refine H.out.mono ?_
      rintro e w1 ⟨v1, v2, rfl, hs, hb⟩
      rw [Hs.out]
      go_wp2_with fail
      refine (off_any _ _ _).mono ?_; rintro e w' ⟨rfl, rfl⟩
      rw [He.out]
      go_wp2_with fail
      go_ret
      exact ⟨_, rfl, ⟨fun h => absurd h Hno.out, fun _ => rfl⟩, hb⟩
    · have he := eq_false_of_ne_true he
      have hyes : WhyYes start l event := ⟨hs, he⟩
      have ⟨e0, e1⟩ := offB_false he
      have He := Lib.hid he; clear he
      obtain ⟨hk1, hk2⟩ := solveErr_zero hs
      have hz := lateCheck_zero hk1
      have Hz := Lib.hid hz; clear hk1
      have hz1 := hz.1
      have hn2 : n2 ≤ 1000 := by have := h2.len; omega
      clear hz hk2
      have Bt := Lib.hid (timesOf_bd hs)
      obtain ⟨hW1, hW2⟩ := hW hyes
      clear hW
      have HW := Lib.hid hW1; clear hW1
      have Hyes := Lib.hid hyes; clear hyes
      have Hs := Lib.hid hs; clear hs
      have Hst : Hid (Bd2 start 0 100000) := Hz.out.2.2.1
      have e1' : event < start.length := by omega
      clear e1
      go_enter Try.func17, Try.ntmps17
      go_wp2_with fail
      refine H.out.mono ?_
      rintro e w1 ⟨v1, v2, rfl, hs, hb⟩
      rw [Hs.out]
      obtain ⟨o1, o2⟩ := hs.ok Hs.out
      have O1 := Lib.hid o1
      clear o1 o2 hs
      obtain ⟨gt, capt, hgt, hgt1, hgt2⟩ := own_shape O1.out (by omega)
      cases hgt
      go_wp2_with fail
      refine (off_any _ _ _).mono ?_; rintro e w' ⟨rfl, rfl⟩
      rw [He.out]
      have own0 : OwnI (w1.alloc (.cells #[.int .i64 event] 3)) w1.heap.size (.slice (some ⟨w1.heap.size, 0, none⟩) 1 1) 1 [event] := by
        have := World.ownsRow_lit (base := w1.heap.size) (size := 1) (e := 3) w1 #[.int .i64 event] 1 (Nat.le_refl _) (by simp [maxLen]) (by simp)
        exact this
      have Own0 := Lib.hid own0; clear own0
      have hbA : Below w1.heap.size w1 (w1.alloc (.cells #[.int .i64 event] 3)) := (Below.refl _ _).alloc (Nat.le_refl _) _
      have hwz : w.heap.size ≤ w1.heap.size := hb.size
      go_wp2_with fail
      go_loopg [2, 10] f0 (fun f ev vo wr => ∃ (x : Int) (outs : List Int), ev = .int .i64 x ∧ 0 ≤ x ∧ x < start.length ∧ OwnI wr w1.heap.size vo outs.length outs ∧ 1 ≤ outs.length ∧ Hid (whyRun (timesOf start l) start l f x outs = some W) ∧ Below w1.heap.size w1 wr)
      case atStart => exact ⟨event, [event], rfl, e0, e1', Own0.out, by simp, HW.out, hbA⟩
      case round =>
        clear hbA
        obtain ⟨wo, rfl⟩ : ∃ wo : World, wo = wr := ⟨_, rfl⟩
        obtain ⟨x, outs, rfl, x0, x1, hown, ho1, hru, hbr⟩ := hrel
        cases gk with
        | zero => exact absurd hru.out (by simp [whyRun])
        | succ f =>
          have hol := whyRun_len hru.out
          obtain ⟨p1, o1, ha1, hp1, g1⟩ := h1.at0 x0 x1
          cases ha1
          have g1 := ((hb.trans (hbr.mono hwz)).cell (p := ⟨p1, o1 + x.toNat, none⟩) hp1).trans g1
          have hot := owns_below O1.out hbr
          have tl : (timesOf start l).length = start.length := timesRun_length _ _ _
          have m1 : wo.cell? ⟨gt, x.toNat, none⟩ = some (.int .i64 (at0 (timesOf start l) x)) := own_cell hot (by omega)
          have Tl := Lib.hid tl; clear tl
          have Hot := Lib.hid hot; clear hot
          obtain ⟨go, co, hvo, hgo1, hgo2⟩ := own_shape hown (by omega)
          cases hvo
          have Hown := Lib.hid hown; clear hown
          have hgtr : gt < wo.heap.size := by have := hbr.size; omega
          by_cases heq : at0 (timesOf start l) x = at0 start x
          · have hne : (at0 (timesOf start l) x != at0 start x) = false := by simpa using heq
            have hWo : outs = W := by have := hru.out; unfold whyRun at this; rw [if_pos heq] at this; simpa using this
            have HWo := Lib.hid hWo
            have Heq := Lib.hid heq; clear heq hru hWo
            have HR := Lib.hid (fun q : Nat => reverse_any (wo.drewN q) w1.heap.size go outs.length co outs Hown.out ho1 (by omega))
            go_wp2_with fail
            go_quiet (fail)
            go_wp2_with fail
            refine (HR.out nq).mono ?_
            rintro e w4 ⟨rfl, ho4, hb4⟩
            have Ho4 := Lib.hid ho4; clear ho4
            go_wp2_with fail
            go_ret
            refine ⟨_, rfl, ⟨fun _ => ?_, fun h => absurd Hyes.out h⟩, hb.trans (((below_drewN hbr nq).trans hb4).mono hwz)⟩
            rw [← HWo.out, List.length_reverse]
            exact owns_base Ho4.out hwz
          · have hne : (at0 (timesOf start l) x != at0 start x) = true := by simpa using heq
            have Heq := Lib.hid heq; clear heq
            go_wp2_with fail
            go_quiet (fail)
            go_wp2_with fail
            go_loopg [11, 43] n2 (fun k av i wr2 => ∃ (j : Nat) (a : Int), j + k = n2 ∧ i = .int .i64 j ∧ av = .int .i64 a ∧ -1 ≤ a ∧ a < start.length ∧ Hid ((l.drop j).foldl (aheadStep (timesOf start l) x) a = ahead (timesOf start l) l x) ∧ Below wo.heap.size wo wr2)
            case atStart => exact ⟨0, -1, by omega, rfl, rfl, by omega, by omega, rfl, below_drewN (Below.refl _ _) nq⟩
            case round =>
              clear g1
              obtain ⟨j, a, hk, rfl, rfl, a0, a1', hru2, hb2⟩ := hrel
              have Hk := Lib.hid hk; clear hk
              by_cases hlt : j < n2
              · obtain ⟨y, hy⟩ := get_some h2.len hlt
                obtain ⟨p2, o2, ha2, hp2, g1, g2, g3⟩ := h2.wt hy
                cases ha2
                have hbb := hb.trans ((hbr.trans (hb2.mono hbr.size)).mono hwz)
                have g1 := (hbb.cell (p := ⟨p2, o2 + j * 3, none⟩) hp2).trans g1
                have g2 := (hbb.cell (p := ⟨p2, o2 + j * 3 + 1, none⟩) hp2).trans g2
                have g3 := (hbb.cell (p := ⟨p2, o2 + j * 3 + 2, none⟩) hp2).trans g3
                have Hy := Lib.hid hy; clear hy
                obtain ⟨y1, y2, y3, y4, y5, y6⟩ := Hz.out.2.2.2 y (List.mem_of_getElem? Hy.out)
                have m1' := (hb2.cell (p := ⟨gt, x.toNat, none⟩) hgtr).trans m1
                have m2 : wr.cell? ⟨gt, y.frm.toNat, none⟩ = some (.int .i64 (at0 (timesOf start l) y.frm)) := own_cell (owns_below Hot.out hb2) (by omega)
                have hgt2 : gt < wr.heap.size := by have := hb2.size; omega
                obtain ⟨q1, q2⟩ := bd2_at Bt.out y1 (by have := Tl.out; omega)
                have hd := hru2.out
                rw [drop_cons Hy.out, List.foldl_cons] at hd
                have Hbb := Lib.hid hbb; clear hbb
                have hba := Lib.hid (fun X => hb2.alloc hb2.size X)
                by_cases c1 : y.to = x
                · have d1 : (y.to == x) = true := by simpa using c1
                  by_cases c2 : at0 (timesOf start l) y.frm + y.gap = at0 (timesOf start l) x
                  · have d2 : (at0 (timesOf start l) y.frm + y.gap == at0 (timesOf start l) x) = true := by simpa using c2
                    by_cases c3 : a < 0
                    · have d3 : decide (a < 0) = true := by simpa using c3
                      have Hd := Lib.hid (show (l.drop (j + 1)).foldl (aheadStep (timesOf start l) x) (y.frm) = ahead (timesOf start l) l x by rw [← hd]; unfold aheadStep; rw [if_pos ⟨c1, c2⟩, if_pos c3])
                      have C2 := Lib.hid c2; clear c2 hd
                      go_wp2_with fail
                      have hwr : IntKind.i64.wrap (at0 (timesOf start l) y.frm + y.gap) = at0 (timesOf start l) y.frm + y.gap := IntWalk.i64_in _ (by omega)
                      go_quiet (fail)
                      go_wp2_with fail
                      go_roundg (gk - 1)
                      case measure => have := Hk.out; omega
                      case rel => exact ⟨j + 1, _, by have := Hk.out; omega, by go_num, rfl, by omega, by omega, Hd.out, below_drewN (hba.out _) nq⟩
                    · have d3 := lt_false c3
                      by_cases c4 : y.frm < a
                      · have d4 : decide (y.frm < a) = true := by simpa using c4
                        have Hd := Lib.hid (show (l.drop (j + 1)).foldl (aheadStep (timesOf start l) x) (y.frm) = ahead (timesOf start l) l x by rw [← hd]; unfold aheadStep; rw [if_pos ⟨c1, c2⟩, if_neg c3, if_pos c4])
                        have C2 := Lib.hid c2; clear c2 hd
                        go_wp2_with fail
                        have hwr : IntKind.i64.wrap (at0 (timesOf start l) y.frm + y.gap) = at0 (timesOf start l) y.frm + y.gap := IntWalk.i64_in _ (by omega)
                        go_quiet (fail)
                        go_wp2_with fail
                        go_roundg (gk - 1)
                        case measure => have := Hk.out; omega
                        case rel => exact ⟨j + 1, _, by have := Hk.out; omega, by go_num, rfl, by omega, by omega, Hd.out, below_drewN (hba.out _) nq⟩
                      · have d4 := lt_false c4
                        have Hd := Lib.hid (show (l.drop (j + 1)).foldl (aheadStep (timesOf start l) x) (a) = ahead (timesOf start l) l x by rw [← hd]; unfold aheadStep; rw [if_pos ⟨c1, c2⟩, if_neg c3, if_neg c4])
                        have C2 := Lib.hid c2; clear c2 hd
                        go_wp2_with fail
                        have hwr : IntKind.i64.wrap (at0 (timesOf start l) y.frm + y.gap) = at0 (timesOf start l) y.frm + y.gap := IntWalk.i64_in _ (by omega)
                        go_quiet (fail)
                        go_wp2_with fail
                        go_roundg (gk - 1)
                        case measure => have := Hk.out; omega
                        case rel => exact ⟨j + 1, _, by have := Hk.out; omega, by go_num, rfl, by omega, by omega, Hd.out, below_drewN (hba.out _) nq⟩
                  · have d2 : (at0 (timesOf start l) y.frm + y.gap == at0 (timesOf start l) x) = false := by simpa using c2
                    have Hd := Lib.hid (show (l.drop (j + 1)).foldl (aheadStep (timesOf start l) x) (a) = ahead (timesOf start l) l x by rw [← hd]; unfold aheadStep; rw [if_neg (fun h => c2 h.2)])
                    have C2 := Lib.hid c2; clear c2 hd
                    go_wp2_with fail
                    have hwr : IntKind.i64.wrap (at0 (timesOf start l) y.frm + y.gap) = at0 (timesOf start l) y.frm + y.gap := IntWalk.i64_in _ (by omega)
                    go_quiet (fail)
                    go_wp2_with fail
                    go_roundg (gk - 1)
                    case measure => have := Hk.out; omega
                    case rel => exact ⟨j + 1, _, by have := Hk.out; omega, by go_num, rfl, by omega, by omega, Hd.out, below_drewN (hba.out _) nq⟩
                · have d1 : (y.to == x) = false := by simpa using c1
                  have Hd := Lib.hid (show (l.drop (j + 1)).foldl (aheadStep (timesOf start l) x) (a) = ahead (timesOf start l) l x by rw [← hd]; unfold aheadStep; rw [if_neg (fun h => c1 h.1)])
                  have C1 := Lib.hid c1; clear c1 hd
                  go_wp2_with fail
                  go_quiet (fail)
                  go_wp2_with fail
                  go_roundg (gk - 1)
                  case measure => have := Hk.out; omega
                  case rel => exact ⟨j + 1, _, by have := Hk.out; omega, by go_num, rfl, by omega, by omega, Hd.out, below_drewN (hba.out _) nq⟩
              · have hah : Hid (a = ahead (timesOf start l) l x) := by have := hru2.out; rw [drop_end h2.len (by omega)] at this; exact this
                clear hru2
                have hnx := hru.out
                unfold whyRun at hnx
                rw [if_neg Heq.out, ← hah.out] at hnx
                have hz1' : wo.heap.size ≤ wr.heap.size := hb2.size
                have hb3 := hbr.trans (hb2.mono hbr.size)
                have own3 := owns_below Hown.out hb2
                by_cases c5 : a < 0
                · rw [if_pos c5] at hnx
                  have hWo : Hid (outs = W) := by simpa [Hid] using hnx
                  clear hru hnx
                  have HR := Lib.hid (reverse_any wr w1.heap.size go outs.length co outs own3 ho1 (by omega))
                  clear own3
                  go_wp2_with fail
                  refine HR.out.mono ?_
                  rintro e w4 ⟨rfl, ho4, hb4⟩
                  have Ho4 := Lib.hid ho4; clear ho4
                  go_wp2_with fail
                  go_ret
                  refine ⟨_, rfl, ⟨fun _ => ?_, fun h => absurd Hyes.out h⟩, hb.trans ((hb3.trans hb4).mono hwz)⟩
                  rw [← hWo.out, List.length_reverse]
                  exact owns_base Ho4.out hwz
                · rw [if_neg c5] at hnx
                  have hnx' : Hid (whyRun (timesOf start l) start l f a (outs ++ [a]) = some W) := hnx
                  have hol2 := whyRun_len hnx
                  clear hru hnx
                  have hol3 : outs.length + 1 ≤ W.length := by simpa using hol2
                  clear hol2
                  obtain ⟨ii, hii, zi1, zi2, zi3⟩ := info_parts info_int
                  have Own3 := Lib.hid own3; clear own3
                  go_wp2_with (at_builtin; refine wpList_append_own _ rfl _ _ 22 rfl w1.heap.size 3 ii (.int .i64 0) 1 8 Try.underlying22 hii zi1 zi2 zi3 rfl (by decide) _ _ _ rfl (Own3.out.alloc _) ⟨wr.heap.size, 0, none⟩ 1 1 [.int .i64 a] rfl rfl (cell_one_new _ _ _) (one_int _ _) (by simp [maxLen]; omega) (by omega) (by simp; omega) ?_)
                  intro v' w4 hown4 hgrow4 _
                  have hz5 := hbr.size
                  have hb4 : Below w1.heap.size w1 w4 := (hb3.alloc hb3.size (.cells #[.int .i64 a] 3)).grown hgrow4 (by simp; omega) (fun k hk => by have := (Own3.out.lt k hk).1; omega)
                  have Own4 := Lib.hid (own_append1 hown4); clear hown4 hgrow4
                  go_wp2_with fail
                  go_roundg f
                  case measure => omega
                  case rel => exact ⟨a, outs ++ [a], rfl, by omega, a1', by rw [List.length_append]; exact Own4.out, by simp, hnx'.out, hb4⟩
  · have hno : ¬ WhyYes start l event := fun h => hs h.1
    have hq := neq_beq hs
    have Hs := Lib.hid hs; clear hs
    have Hno := Lib.hid hno; clear hno hW
    go_enter Try.func17, Try.ntmps17
    go_wp2_with fail
    refine H.out.mono ?_
    rintro e w1 ⟨v1, v2, rfl, hs, hb⟩
    go_wp2_with fail
    go_ret
    exact ⟨_, rfl, ⟨fun h => absurd h Hno.out, fun _ => rfl⟩, hb⟩
end Go.Proofs.Ytkklnaejpgcgoaa
