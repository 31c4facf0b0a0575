/- Walk of semaphoreref35.Why. -/
import Derived.Test.YtkklnaejpgcgoaaRefW4
import Derived.Test.YtkklnaejpgcgoaaLateW10
namespace Go.Proofs.Ytkklnaejpgcgoaa
open Go.RowKit

/-- is there a chain? -/
def RefWhyYes (start : List Int) (l : List Wt) (R : List Int) (event : Int) : Prop := refErr start l R = 0 ∧ offB event (start.length - 1) = false

theorem minFold_le {t : List Int} {ev : Int} : ∀ (l : List Wt) (a : Int), l.foldl (minStep t ev) a ≤ a
  | [], a => Int.le_refl a
  | x :: r, a => by
    rw [List.foldl_cons]
    refine Int.le_trans (minFold_le r _) ?_
    unfold minStep; split <;> omega

set_option maxHeartbeats 2000000 in
theorem refwhy_any (w : World) (a1 a2 : Option Addr) (n1 c1 n2 c2 : Nat) (start : List Int) (l : List Wt) (R : List Int) (event : Int) (f0 : Nat) (W : List Int) (h1 : Ints w a1 n1 start) (h2 : Wts w a2 n2 l) (hc : a1 = none → c1 = 0) (hR : RefOk start l R)
    (hW : RefWhyYes start l R event → refWhyRun start.length (timesRun l R start) start l f0 event [event] = some W ∧ W.length ≤ 1000) :
    Calls Try.prog 18 #[.slice a1 n1 c1, .slice a2 n2 c2, .int .i64 event] w fun e w' => ∃ v, e = .returned v ∧ WhyOut w' w.heap.size (RefWhyYes start l R event) W v ∧ Below w.heap.size w w' := by
  obtain rfl := h1.len
  have b1 := h1.bnd
  have H := Lib.hid (reftimes_any w a1 a2 _ c1 n2 c2 start l R h1 h2 hc hR)
  have Hc := Lib.hid hc; clear hc hR
  by_cases hs : refErr start l R = 0
  · by_cases he : event < 0 ∨ (start.length : Int) ≤ event
    · have hno : ¬ RefWhyYes start l R event := fun h => by have := offB_false h.2; omega
      have Hno := Lib.hid hno; clear hno hW
      have Hs := Lib.hid hs; clear hs
      rcases he with he | he
      all_goals
        go_enter Try.func18, Try.ntmps18
        go_wp2_with fail
        refine H.out.mono ?_
        rintro e w1 ⟨v1, rfl, hs, hb⟩
        rw [Hs.out]
        clear hs
        go_wp2_with fail
        go_ret
        exact ⟨_, rfl, ⟨fun h => absurd h Hno.out, fun _ => rfl⟩, hb⟩
    · have e0 : ¬ event < 0 := by omega
      have e1 : ¬ (start.length : Int) ≤ event := by omega
      have e0' : 0 ≤ event := by omega
      have hyes : RefWhyYes start l R event := ⟨hs, by simp [offB]; omega⟩
      clear he
      obtain ⟨hk1, hk2⟩ := refErr_zero hs
      have hz := lateCheck_zero hk1
      have Hz := Lib.hid hz; clear hk1
      have hz1 := hz.1
      have hn2 : n2 ≤ 1000 := by have := h2.len; omega
      clear hz hk2
      have Bt := Lib.hid (refTimes_bd hs)
      obtain ⟨hW1, hW2⟩ := hW hyes
      clear hW
      have HW := Lib.hid hW1; clear hW1
      have Hyes := Lib.hid hyes; clear hyes
      have Hs := Lib.hid hs; clear hs
      have e1' : event < start.length := by omega
      obtain ⟨T, hT⟩ : ∃ T, T = timesRun l R start := ⟨_, rfl⟩
      have hTl : T.length = start.length := by rw [hT]; exact timesRun_length _ _ _
      rw [← hT] at Bt HW H
      have HTl := Lib.hid hTl
      have HT := Lib.hid hT
      clear hT hTl
      go_enter Try.func18, Try.ntmps18
      go_wp2_with fail
      refine H.out.mono ?_
      rintro e w1 ⟨v1, rfl, hs, hb⟩
      rw [Hs.out]
      have o1 := hs.ok Hs.out
      rw [HTl.out] at o1
      have O1 := Lib.hid o1
      clear o1 hs
      obtain ⟨gt, capt, hgt, hgt1, hgt2⟩ := own_shape O1.out (by omega)
      cases hgt
      have own0 : OwnI (w1.alloc (.cells #[.int .i64 event] 3)) w1.heap.size (.slice (some ⟨w1.heap.size, 0, none⟩) 1 1) 1 [event] := by
        have := World.ownsRow_lit (base := w1.heap.size) (size := 1) (e := 3) w1 #[.int .i64 event] 1 (Nat.le_refl _) (by simp [maxLen]) (by simp)
        exact this
      have Own0 := Lib.hid own0; clear own0
      have hbA : Below w1.heap.size w1 (w1.alloc (.cells #[.int .i64 event] 3)) := (Below.refl _ _).alloc (Nat.le_refl _) _
      have hwz : w.heap.size ≤ w1.heap.size := hb.size
      go_wp2_with fail
      go_loopg [2, 9] f0 (fun f ev vo wr => ∃ (x : Int) (outs : List Int), ev = .int .i64 x ∧ 0 ≤ x ∧ x < start.length ∧ OwnI wr w1.heap.size vo outs.length outs ∧ 1 ≤ outs.length ∧ Hid (refWhyRun start.length T start l f x outs = some W) ∧ Below w1.heap.size w1 wr)
      case atStart => exact ⟨event, [event], rfl, e0', e1', Own0.out, by simp, HW.out, hbA⟩
      case round =>
        clear hbA
        obtain ⟨wo, rfl⟩ : ∃ wo : World, wo = wr := ⟨_, rfl⟩
        obtain ⟨x, outs, rfl, x0, x1, hown, ho1, hru, hbr⟩ := hrel
        cases gk with
        | zero => exact absurd hru.out (by simp [refWhyRun])
        | succ f =>
          have hol := refWhyRun_len hru.out
          obtain ⟨p1, o1, ha1, hp1, g1⟩ := h1.at0 x0 x1
          cases ha1
          have g1 := ((hb.trans (hbr.mono hwz)).cell (p := ⟨p1, o1 + x.toNat, none⟩) hp1).trans g1
          have hot := owns_below O1.out hbr
          have m1 : wo.cell? ⟨gt, x.toNat, none⟩ = some (.int .i64 (at0 T x)) := own_cell hot (by omega)
          have Hot := Lib.hid hot; clear hot
          obtain ⟨go, co, hvo, hgo1, hgo2⟩ := own_shape hown (by omega)
          cases hvo
          have Hown := Lib.hid hown; clear hown
          have hgtr : gt < wo.heap.size := by have := hbr.size; omega
          by_cases heq : at0 T x = at0 start x
          · have hne : (at0 T x != at0 start x) = false := by simpa using heq
            have hWo : outs = W := by have := hru.out; unfold refWhyRun at this; rw [if_pos heq] at this; simpa using this
            have HWo := Lib.hid hWo
            have Heq := Lib.hid heq; clear heq hru hWo
            go_wp2_with fail
            go_quiet (fail)
            go_wp2_with fail
            go_ret
            refine ⟨_, rfl, ⟨fun _ => ?_, fun h => absurd Hyes.out h⟩, hb.trans ((below_drewN hbr nq).mono hwz)⟩
            rw [← HWo.out]
            exact owns_base Hown.out hwz
          · have hne : (at0 T x != at0 start x) = true := by simpa using heq
            have Heq := Lib.hid heq; clear heq
            go_wp2_with fail
            go_quiet (fail)
            go_wp2_with fail
            go_loopg [10, 46] n2 (fun k av i wr => ∃ (j : Nat) (a : Int), j + k = n2 ∧ i = .int .i64 j ∧ av = .int .i64 a ∧ 0 ≤ a ∧ a ≤ start.length ∧ Hid ((l.drop j).foldl (minStep T x) a = minAhead start.length T l x) ∧ Below wo.heap.size wo wr)
            case atStart => exact ⟨0, start.length, by omega, rfl, rfl, by omega, by omega, rfl, below_drewN (Below.refl _ _) nq⟩
            case round =>
              clear g1
              obtain ⟨j, a, hk, rfl, rfl, a0, a1', hru2, hb2⟩ := hrel
              have Hk := Lib.hid hk; clear hk
              by_cases hlt : j < n2
              · obtain ⟨y, hy⟩ := get_some h2.len hlt
                obtain ⟨p2, o2, ha2, hp2, g1, g2, g3⟩ := h2.wt hy
                cases ha2
                have hbb := hb.trans ((hbr.trans (hb2.mono hbr.size)).mono hwz)
                have g1 := (hbb.cell (p := ⟨p2, o2 + j * 3, none⟩) hp2).trans g1
                have g2 := (hbb.cell (p := ⟨p2, o2 + j * 3 + 1, none⟩) hp2).trans g2
                have g3 := (hbb.cell (p := ⟨p2, o2 + j * 3 + 2, none⟩) hp2).trans g3
                have Hy := Lib.hid hy; clear hy
                obtain ⟨y1, y2, y3, y4, y5, y6⟩ := Hz.out.2.2.2 y (List.mem_of_getElem? Hy.out)
                have m1' := (hb2.cell (p := ⟨gt, x.toNat, none⟩) hgtr).trans m1
                have m2 : wr.cell? ⟨gt, y.frm.toNat, none⟩ = some (.int .i64 (at0 T y.frm)) := own_cell (owns_below Hot.out hb2) (by omega)
                have hgt2 : gt < wr.heap.size := by have := hb2.size; omega
                obtain ⟨q1, q2⟩ := bd2_at Bt.out y1 (by have := HTl.out; omega)
                have hd := hru2.out
                rw [drop_cons Hy.out, List.foldl_cons] at hd
                have Hbb := Lib.hid hbb; clear hbb
                have hba := Lib.hid (fun X => hb2.alloc hb2.size X)
                by_cases c1 : y.to = x
                · have d1 : (y.to == x) = true := by simpa using c1
                  by_cases c2 : at0 T y.frm + y.gap = at0 T x
                  · have d2 : (at0 T y.frm + y.gap == at0 T x) = true := by simpa using c2
                    by_cases c4 : y.frm < a
                    · have Hd := Lib.hid (show (l.drop (j + 1)).foldl (minStep T x) y.frm = minAhead start.length T l x by rw [← hd]; unfold minStep; rw [if_pos ⟨c1, c2⟩, show min a y.frm = y.frm from by omega])
                      have C2 := Lib.hid c2; clear c2 hd
                      go_wp2_with fail
                      have hwr : IntKind.i64.wrap (at0 T y.frm + y.gap) = at0 T y.frm + y.gap := IntWalk.i64_in _ (by omega)
                      go_quiet (fail)
                      go_wp2_with fail
                      go_roundg (gk - 1)
                      case measure => have := Hk.out; omega
                      case rel => exact ⟨j + 1, _, by have := Hk.out; omega, by go_num, rfl, by omega, by omega, Hd.out, below_drewN (hba.out _) nq⟩
                    · have Hd := Lib.hid (show (l.drop (j + 1)).foldl (minStep T x) a = minAhead start.length T l x by rw [← hd]; unfold minStep; rw [if_pos ⟨c1, c2⟩, show min a y.frm = a from by omega])
                      have C2 := Lib.hid c2; clear c2 hd
                      go_wp2_with fail
                      have hwr : IntKind.i64.wrap (at0 T y.frm + y.gap) = at0 T y.frm + y.gap := IntWalk.i64_in _ (by omega)
                      go_quiet (fail)
                      go_wp2_with fail
                      go_roundg (gk - 1)
                      case measure => have := Hk.out; omega
                      case rel => exact ⟨j + 1, _, by have := Hk.out; omega, by go_num, rfl, by omega, by omega, Hd.out, below_drewN (hba.out _) nq⟩
                  · have d2 : (at0 T y.frm + y.gap == at0 T x) = false := by simpa using c2
                    have Hd := Lib.hid (show (l.drop (j + 1)).foldl (minStep T x) a = minAhead start.length T l x by rw [← hd]; unfold minStep; rw [if_neg (fun h => c2 h.2)])
                    have C2 := Lib.hid c2; clear c2 hd
                    go_wp2_with fail
                    have hwr : IntKind.i64.wrap (at0 T y.frm + y.gap) = at0 T y.frm + y.gap := IntWalk.i64_in _ (by omega)
                    go_quiet (fail)
                    go_wp2_with fail
                    go_roundg (gk - 1)
                    case measure => have := Hk.out; omega
                    case rel => exact ⟨j + 1, _, by have := Hk.out; omega, by go_num, rfl, by omega, by omega, Hd.out, below_drewN (hba.out _) nq⟩
                · have d1 : (y.to == x) = false := by simpa using c1
                  have Hd := Lib.hid (show (l.drop (j + 1)).foldl (minStep T x) a = minAhead start.length T l x by rw [← hd]; unfold minStep; rw [if_neg (fun h => c1 h.1)])
                  have C1 := Lib.hid c1; clear c1 hd
                  go_wp2_with fail
                  go_quiet (fail)
                  go_wp2_with fail
                  go_roundg (gk - 1)
                  case measure => have := Hk.out; omega
                  case rel => exact ⟨j + 1, _, by have := Hk.out; omega, by go_num, rfl, by omega, by omega, Hd.out, below_drewN (hba.out _) nq⟩
              · have hah : Hid (a = minAhead start.length T l x) := by have := hru2.out; rw [drop_end h2.len (by omega)] at this; exact this
                clear hru2
                have hnx := hru.out
                unfold refWhyRun at hnx
                rw [if_neg Heq.out, ← hah.out] at hnx
                have hz1' : wo.heap.size ≤ wr.heap.size := hb2.size
                have hb3 := hbr.trans (hb2.mono hbr.size)
                by_cases c5 : (start.length : Int) ≤ a
                · rw [if_pos c5] at hnx; cases hnx
                · rw [if_neg c5] at hnx
                  have hnx' : Hid (refWhyRun start.length T start l f a (a :: outs) = some W) := hnx
                  have hol2 := refWhyRun_len hnx
                  clear hru hnx
                  have hol3 : outs.length + 1 ≤ W.length := by simpa using hol2
                  clear hol2
                  have own3 := owns_below Hown.out hb2
                  have ownN : (wr.alloc (.cells #[.int .i64 a] 3)).ownsRow w1.heap.size 3 1 (.slice (some ⟨wr.heap.size, 0, none⟩) 1 1) 1 ([a].flatMap encInt) := by
                    have := World.ownsRow_lit (base := w1.heap.size) (size := 1) (e := 3) wr #[.int .i64 a] 1 hb3.size (by simp [maxLen]) (by simp)
                    exact this
                  have hrow : Ints (wr.alloc (.cells #[.int .i64 a] 3)) (some ⟨go, 0, none⟩) outs.length outs := (own_ints (own3.alloc (.cells #[.int .i64 a] 3))).1
                  have OwnN := Lib.hid ownN
                  have Hrow := Lib.hid hrow
                  clear own3 ownN hrow
                  go_wp2_with (at_builtin; refine wpList_app (enc := encInt) (fun _ => rfl) encInt_one _ rfl _ _ 22 rfl w1.heap.size 3 (.int .i64 0) 8 Try.underlying22 info_int rfl (by decide) (.slice (some ⟨wr.heap.size, 0, none⟩) 1 1) 1 [a] rfl OwnN.out (some ⟨go, 0, none⟩) outs.length co outs rfl Hrow.out (by intro h; cases h) (by simp [maxLen]; omega) (by omega) (by simp; omega) ?_)
                  intro v' w4 hown4 hgrow4 _
                  have hz5 := hbr.size
                  have hb4 : Below w1.heap.size w1 w4 := (hb3.alloc hb3.size (.cells #[.int .i64 a] 3)).grown hgrow4 (by simp; omega) (fun k hk => by simp only [Value.ownBlock, Option.some.injEq] at hk; omega)
                  have hown5 : OwnI w4 w1.heap.size v' (a :: outs).length (a :: outs) := by
                    rw [flat_ints] at hown4
                    rw [List.length_cons, Nat.add_comm]
                    exact hown4
                  have Own4 := Lib.hid hown5; clear hown4 hgrow4 hown5
                  go_wp2_with fail
                  go_roundg f
                  case measure => omega
                  case rel => exact ⟨a, a :: outs, rfl, by omega, by omega, Own4.out, by simp, hnx'.out, hb4⟩
  · have hno : ¬ RefWhyYes start l R event := fun h => hs h.1
    have hq := neq_beq hs
    have Hs := Lib.hid hs; clear hs
    have Hno := Lib.hid hno; clear hno hW
    go_enter Try.func18, Try.ntmps18
    go_wp2_with fail
    refine H.out.mono ?_
    rintro e w1 ⟨v1, rfl, hs, hb⟩
    go_wp2_with fail
    go_ret
    exact ⟨_, rfl, ⟨fun h => absurd h Hno.out, fun _ => rfl⟩, hb⟩
end Go.Proofs.Ytkklnaejpgcgoaa
