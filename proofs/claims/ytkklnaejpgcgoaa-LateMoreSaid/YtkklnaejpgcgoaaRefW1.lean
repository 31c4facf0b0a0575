/- Walks of semaphoreref35.wrong. -/
import Derived.Test.YtkklnaejpgcgoaaLateW4
namespace Go.Proofs.Ytkklnaejpgcgoaa
open Go.RowKit

theorem wrong_step1 {x : Int} {r : List Int} : ((x :: r).any fun t => offB t 100000) = (offB x 100000 || r.any fun t => offB t 100000) := rfl

set_option maxHeartbeats 1000000 in
theorem wrong_any (w : World) (a1 a2 : Option Addr) (n1 c1 n2 c2 : Nat) (start : List Int) (l : List Wt) (h1 : Ints w a1 n1 start) (h2 : Wts w a2 n2 l) :
    Calls Try.prog 24 #[.slice a1 n1 c1, .slice a2 n2 c2] w fun e w' => e = .returned (.int .i64 (lateCheck start l)) ∧ Below w.heap.size w w' := by
  have b1 := h1.bnd
  have b2 := h2.bnd
  have l1 := Lib.hid h1.len
  have l2 := Lib.hid h2.len
  have hv := Lib.hid (check_val h1.len h2.len)
  by_cases g1 : 200 < n1
  · go_enter Try.func24, Try.ntmps24
    go_wp2_with fail
    go_ret
    exact ⟨ret_int (by rw [hv.out, if_pos (.inl g1)]), Below.refl _ _⟩
  by_cases g2 : 1000 < n2
  · go_enter Try.func24, Try.ntmps24
    go_wp2_with fail
    go_ret
    exact ⟨ret_int (by rw [hv.out, if_pos (.inr g2)]), Below.refl _ _⟩
  have hv1 := Lib.hid (show lateCheck start l = if start.any (fun t => offB t 100000) || l.any (fun w => offB w.gap 100000) then 1
      else if l.any (fun w => offB w.frm (n1 - 1) || offB w.to (n1 - 1)) then 10 else 0 by rw [hv.out, if_neg (by omega)])
  clear hv
  go_enter Try.func24, Try.ntmps24
  go_wp2_with fail
  go_loopg [21] n1 (fun k i wr => ∃ j : Nat, j + k = n1 ∧ i = .int .i64 j ∧ Hid ((start.drop j).any (fun t => offB t 100000) = start.any (fun t => offB t 100000)) ∧ Below w.heap.size w wr)
  case atStart => exact ⟨0, by omega, rfl, by simp [Hid], Below.refl _ _⟩
  case round =>
    obtain ⟨j, hk, rfl, he, hb⟩ := hrel
    have Hk := Lib.hid hk; clear hk
    by_cases hlt : j < n1
    · obtain ⟨x, hx⟩ := get_some l1.out hlt
      obtain ⟨p1, o1, rfl, hp1, g1⟩ := h1.int hx
      have g1 := (hb.cell (p := ⟨p1, o1 + j, none⟩) hp1).trans g1
      have Hx := Lib.hid hx; clear hx
      have Hd := Lib.hid (drop_cons Hx.out)
      by_cases x0 : x < 0
      · go_wp2_with fail
        go_ret
        exact ⟨ret_int (by rw [hv1.out, ← he.out, Hd.out]; simp [offB, x0]), hb⟩
      · by_cases x1 : 100000 < x
        · go_wp2_with fail
          go_ret
          exact ⟨ret_int (by rw [hv1.out, ← he.out, Hd.out]; simp [offB, x1]), hb⟩
        · go_wp2_with fail
          go_roundg (gk - 1)
          case measure => have := Hk.out; omega
          case rel => exact ⟨j + 1, by have := Hk.out; omega, by go_num, by unfold Hid; rw [← he.out, Hd.out, wrong_step1]; simp [offB]; omega, hb⟩
    · have hA : start.any (fun t => offB t 100000) = false := by have := he.out; rw [drop_end l1.out (by omega)] at this; exact this.symm
      have hv2 := Lib.hid (show lateCheck start l = if l.any (fun w => offB w.gap 100000) then 1
        else if l.any (fun w => offB w.frm (n1 - 1) || offB w.to (n1 - 1)) then 10 else 0 by rw [hv1.out, hA]; rfl)
      clear hv1 hA he
      go_wp2_with fail
      go_loopg [34] n2 (fun k i wr => ∃ j : Nat, j + k = n2 ∧ i = .int .i64 j ∧ Hid ((l.drop j).any (fun t => offB t.gap 100000) = l.any (fun t => offB t.gap 100000)) ∧ Below w.heap.size w wr)
      case atStart => exact ⟨0, by omega, rfl, by simp [Hid], hb⟩
      case round =>
        clear hb Hk
        obtain ⟨j, hk, rfl, he, hb⟩ := hrel
        have Hk := Lib.hid hk; clear hk
        by_cases hlt : j < n2
        · obtain ⟨y, hy⟩ := get_some l2.out hlt
          obtain ⟨p2, o2, rfl, hp2, g1, g2, g3⟩ := h2.wt hy
          have g1 := (hb.cell (p := ⟨p2, o2 + j * 3, none⟩) hp2).trans g1
          have g2 := (hb.cell (p := ⟨p2, o2 + j * 3 + 1, none⟩) hp2).trans g2
          have g3 := (hb.cell (p := ⟨p2, o2 + j * 3 + 2, none⟩) hp2).trans g3
          have Hy := Lib.hid hy; clear hy
          have Hd := Lib.hid (drop_cons Hy.out)
          by_cases x0 : y.gap < 0
          · go_wp2_with fail
            go_ret
            exact ⟨ret_int (by rw [hv2.out, ← he.out, Hd.out]; simp [offB, x0]), hb.alloc hb.size _⟩
          · by_cases x1 : 100000 < y.gap
            · go_wp2_with fail
              go_ret
              exact ⟨ret_int (by rw [hv2.out, ← he.out, Hd.out]; simp [offB, x1]), hb.alloc hb.size _⟩
            · go_wp2_with fail
              go_roundg (gk - 1)
              case measure => have := Hk.out; omega
              case rel => exact ⟨j + 1, by have := Hk.out; omega, by go_num, by unfold Hid; rw [← he.out, Hd.out, List.any_cons]; simp [offB]; omega, hb.alloc hb.size _⟩
        · have hA : l.any (fun t => offB t.gap 100000) = false := by have := he.out; rw [drop_end l2.out (by omega)] at this; exact this.symm
          have hv3 := Lib.hid (show lateCheck start l = if l.any (fun w => offB w.frm (n1 - 1) || offB w.to (n1 - 1)) then 10 else 0 by rw [hv2.out, hA]; rfl)
          clear hv2 hA he
          go_wp2_with fail
          go_loopg [49] n2 (fun k i wr => ∃ j : Nat, j + k = n2 ∧ i = .int .i64 j ∧ Hid ((l.drop j).any (fun w => offB w.frm (n1 - 1) || offB w.to (n1 - 1)) = l.any (fun w => offB w.frm (n1 - 1) || offB w.to (n1 - 1))) ∧ Below w.heap.size w wr)
          case atStart => exact ⟨0, by omega, rfl, by simp [Hid], hb⟩
          case round =>
            clear hb Hk
            obtain ⟨j, hk, rfl, he, hb⟩ := hrel
            have Hk := Lib.hid hk; clear hk
            by_cases hlt : j < n2
            · obtain ⟨y, hy⟩ := get_some l2.out hlt
              obtain ⟨p2, o2, rfl, hp2, g1, g2, g3⟩ := h2.wt hy
              have g1 := (hb.cell (p := ⟨p2, o2 + j * 3, none⟩) hp2).trans g1
              have g2 := (hb.cell (p := ⟨p2, o2 + j * 3 + 1, none⟩) hp2).trans g2
              have g3 := (hb.cell (p := ⟨p2, o2 + j * 3 + 2, none⟩) hp2).trans g3
              have Hy := Lib.hid hy; clear hy
              have Hd := Lib.hid (drop_cons Hy.out)
              by_cases hbad : y.frm < 0 ∨ n1 ≤ y.frm ∨ y.to < 0 ∨ n1 ≤ y.to
              · have hfin := Lib.hid (show lateCheck start l = 10 by rw [hv3.out, ← he.out, Hd.out, List.any_cons, if_pos (by simp [offB]; omega)])
                rcases hbad with q | q | q | q
                all_goals
                  go_wp2_with fail
                  all_goals
                    go_ret
                    exact ⟨ret_int hfin.out.symm, hb.alloc hb.size _⟩
              · have q1 : ¬ y.frm < 0 := by omega
                have q2 : ¬ (n1 : Int) ≤ y.frm := by omega
                have q3 : ¬ y.to < 0 := by omega
                have q4 : ¬ (n1 : Int) ≤ y.to := by omega
                have Hbad := Lib.hid hbad; clear hbad
                go_wp2_with fail
                go_roundg (gk - 1)
                case measure => have := Hk.out; omega
                case rel => exact ⟨j + 1, by have := Hk.out; omega, by go_num, by unfold Hid; rw [← he.out, Hd.out, List.any_cons, show (offB y.frm (n1 - 1) || offB y.to (n1 - 1)) = false from by simp [offB]; omega]; rfl, hb.alloc hb.size _⟩
            · have hA : l.any (fun w => offB w.frm (n1 - 1) || offB w.to (n1 - 1)) = false := by have := he.out; rw [drop_end l2.out (by omega)] at this; exact this.symm
              have hfin := Lib.hid (show lateCheck start l = 0 by rw [hv3.out, hA]; rfl)
              clear hv3 hA he
              go_wp2_with fail
              go_ret
              exact ⟨ret_int hfin.out.symm, hb⟩
end Go.Proofs.Ytkklnaejpgcgoaa
