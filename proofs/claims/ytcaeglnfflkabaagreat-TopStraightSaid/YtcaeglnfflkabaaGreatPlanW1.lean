/- Walks of small functions of packages plan, word and semaphoreref6: kinds' ends, braking distances, names. No condition but that numbers are ints. -/
import Derived.Test.YtcaeglnfflkabaaGreatPlanRow
import Derived.Test.YtcaeglnfflkabaaGreatPure
import Derived.IntWalk
import Derived.Lib.Strings
set_option maxRecDepth 1000000
namespace Go.Proofs.YtcaeglnfflkabaaGreat
open Go.RowKit

theorem letter_eq (c : UInt8) : isLetter c = ((decide (97 ≤ (c.toNat : Int)) && decide ((c.toNat : Int) ≤ 122)) || (decide (65 ≤ (c.toNat : Int)) && decide ((c.toNat : Int) ≤ 90))) := by
  unfold isLetter
  rw [Bool.eq_iff_iff]; simp only [Bool.or_eq_true, Bool.and_eq_true, decide_eq_true_eq]; omega
theorem letter_any (c : UInt8) (w : World) : Calls Tryz.prog 161 #[.int .u8 c.toNat] w fun e w' => e = .returned (.bool (isLetter c)) ∧ w = w' := by
  have Hs := Lib.hid (letter_eq c)
  have b0 : (0 : Int) ≤ (c.toNat : Int) := by omega
  have b1 : (c.toNat : Int) < 256 := by have := c.toNat_lt; omega
  go_enter Tryz.func161, Tryz.ntmps161
  go_wp2
  all_goals
    go_ret
    exact ⟨ret_bool (by rw [Hs.out, Bool.eq_iff_iff]; simp; try omega), rfl⟩

theorem ends_any (k : Int) (w : World) : Calls Tryz.prog 111 #[.int .i64 k] w fun e w' => e = .returned (.int .i64 (ends k)) ∧ w = w' := by
  go_enter Tryz.func111, Tryz.ntmps111
  go_wp2
  all_goals
    go_ret
    exact ⟨ret_int (by simp_all [ends]), rfl⟩
theorem refends_any (k : Int) (w : World) : Calls Tryz.prog 117 #[.int .i64 k] w fun e w' => e = .returned (.int .i64 (ends k)) ∧ w = w' := by
  go_enter Tryz.func117, Tryz.ntmps117
  go_wp2
  all_goals
    go_ret
    exact ⟨ret_int (by simp_all [ends]), rfl⟩
theorem within_any (n lo hi : Int) (w : World) : Calls Tryz.prog 115 #[.int .i64 n, .int .i64 lo, .int .i64 hi] w fun e w' => e = .returned (.bool (decide (lo ≤ n) && decide (n ≤ hi))) ∧ w = w' := by
  go_enter Tryz.func115, Tryz.ntmps115
  go_wp2
  all_goals
    go_ret
    exact ⟨ret_bool (by rw [Bool.eq_iff_iff]; simp; try omega), rfl⟩

theorem stopSum_le (b : Int) (hb : 1 ≤ b) : ∀ (f : Nat) (v : Int), v ≤ 60 → 0 ≤ stopSum b f v ∧ stopSum b f v ≤ 60 * f := by
  intro f
  induction f with
  | zero => intro v _; simp [stopSum]
  | succ f ih =>
    intro v hv
    unfold stopSum
    have := ih (v - b) (by omega)
    split <;> omega
theorem stopSum_pos {b : Int} {f : Nat} {v : Int} (h : 0 < v) : stopSum b (f + 1) v = v + stopSum b f (v - b) := by rw [stopSum, if_pos h]
theorem stopSum_neg {b : Int} {f : Nat} {v : Int} (h : v ≤ 0) : stopSum b f v = 0 := by cases f <;> simp [stopSum]; omega
theorem stop_no {v b : Int} (h : v < 0 ∨ 60 < v ∨ b < 1 ∨ 10 < b) : stop v b = 0 := by unfold stop; rw [if_pos h]
theorem stop_yes {v b : Int} (h : ¬(v < 0 ∨ 60 < v ∨ b < 1 ∨ 10 < b)) : stop v b = stopSum b 61 (v - b) := by unfold stop; rw [if_neg h]

theorem stop_any (v b : Int) (w : World) : Calls Tryz.prog 114 #[.int .i64 v, .int .i64 b] w fun e w' => e = .returned (.int .i64 (stop v b)) ∧ w = w' := by
  by_cases a1 : v < 0
  · have Hs := Lib.hid (stop_no (b := b) (.inl a1))
    go_enter Tryz.func114, Tryz.ntmps114
    go_wp2
    go_ret
    exact ⟨ret_int Hs.out.symm, rfl⟩
  by_cases a2 : 60 < v
  · have Hs := Lib.hid (stop_no (b := b) (.inr (.inl a2)))
    go_enter Tryz.func114, Tryz.ntmps114
    go_wp2
    go_ret
    exact ⟨ret_int Hs.out.symm, rfl⟩
  by_cases a3 : b < 1
  · have Hs := Lib.hid (stop_no (v := v) (.inr (.inr (.inl a3))))
    go_enter Tryz.func114, Tryz.ntmps114
    go_wp2
    go_ret
    exact ⟨ret_int Hs.out.symm, rfl⟩
  by_cases a4 : 10 < b
  · have Hs := Lib.hid (stop_no (v := v) (.inr (.inr (.inr a4))))
    go_enter Tryz.func114, Tryz.ntmps114
    go_wp2
    go_ret
    exact ⟨ret_int Hs.out.symm, rfl⟩
  · have Hs := Lib.hid (stop_yes (v := v) (b := b) (by omega))
    have h1 : 0 ≤ v := by omega
    have h2 : v ≤ 60 := by omega
    have h3 : 1 ≤ b := by omega
    have h4 : b ≤ 10 := by omega
    clear a1 a2 a3 a4
    go_enter Tryz.func114, Tryz.ntmps114
    go_wp2
    go_loopg [0, 5] 61 (fun k x n wr => ∃ (y m : Int), x = .int .i64 y ∧ n = .int .i64 m ∧ y ≤ 60 ∧ -10 ≤ y ∧ y ≤ k ∧ 0 ≤ m ∧ m + 60 * k ≤ 3660 ∧ Hid (m + stopSum b k y = stop v b) ∧ w = wr)
    case atStart => exact ⟨v - b, 0, rfl, rfl, by omega, by omega, by omega, by omega, by omega, by unfold Hid; rw [Hs.out]; omega, rfl⟩
    case round =>
      obtain ⟨y, m, rfl, rfl, y1, y2, y3, m1, m2, hr, rfl⟩ := hrel
      by_cases hy : 0 < y
      · obtain ⟨k, rfl⟩ : ∃ k, gk = k + 1 := ⟨gk - 1, by omega⟩
        go_wp2
        go_roundg k
        case measure => omega
        case rel => exact ⟨y - b, m + y, rfl, rfl, by omega, by omega, by omega, by omega, by omega, by unfold Hid; rw [← hr.out, stopSum_pos hy]; omega, rfl⟩
      · go_wp2
        go_ret
        exact ⟨ret_int (by rw [← hr.out, stopSum_neg (by omega)]; omega), rfl⟩
theorem refstop_any (v b : Int) (w : World) : Calls Tryz.prog 124 #[.int .i64 v, .int .i64 b] w fun e w' => e = .returned (.int .i64 (stop v b)) ∧ w = w' := by
  by_cases a1 : v < 0
  · have Hs := Lib.hid (stop_no (b := b) (.inl a1))
    go_enter Tryz.func124, Tryz.ntmps124
    go_wp2
    go_ret
    exact ⟨ret_int Hs.out.symm, rfl⟩
  by_cases a2 : 60 < v
  · have Hs := Lib.hid (stop_no (b := b) (.inr (.inl a2)))
    go_enter Tryz.func124, Tryz.ntmps124
    go_wp2
    go_ret
    exact ⟨ret_int Hs.out.symm, rfl⟩
  by_cases a3 : b < 1
  · have Hs := Lib.hid (stop_no (v := v) (.inr (.inr (.inl a3))))
    go_enter Tryz.func124, Tryz.ntmps124
    go_wp2
    go_ret
    exact ⟨ret_int Hs.out.symm, rfl⟩
  by_cases a4 : 10 < b
  · have Hs := Lib.hid (stop_no (v := v) (.inr (.inr (.inr a4))))
    go_enter Tryz.func124, Tryz.ntmps124
    go_wp2
    go_ret
    exact ⟨ret_int Hs.out.symm, rfl⟩
  · have Hs := Lib.hid (stop_yes (v := v) (b := b) (by omega))
    have h1 : 0 ≤ v := by omega
    have h2 : v ≤ 60 := by omega
    have h3 : 1 ≤ b := by omega
    have h4 : b ≤ 10 := by omega
    clear a1 a2 a3 a4
    go_enter Tryz.func124, Tryz.ntmps124
    go_wp2
    go_loopg [0, 5] 61 (fun k x n wr => ∃ (y m : Int), x = .int .i64 y ∧ n = .int .i64 m ∧ y ≤ 60 ∧ -10 ≤ y ∧ y ≤ k ∧ 0 ≤ m ∧ m + 60 * k ≤ 3660 ∧ Hid (m + stopSum b k y = stop v b) ∧ w = wr)
    case atStart => exact ⟨v - b, 0, rfl, rfl, by omega, by omega, by omega, by omega, by omega, by unfold Hid; rw [Hs.out]; omega, rfl⟩
    case round =>
      obtain ⟨y, m, rfl, rfl, y1, y2, y3, m1, m2, hr, rfl⟩ := hrel
      by_cases hy : 0 < y
      · obtain ⟨k, rfl⟩ : ∃ k, gk = k + 1 := ⟨gk - 1, by omega⟩
        go_wp2
        go_roundg k
        case measure => omega
        case rel => exact ⟨y - b, m + y, rfl, rfl, by omega, by omega, by omega, by omega, by omega, by unfold Hid; rw [← hr.out, stopSum_pos hy]; omega, rfl⟩
      · go_wp2
        go_ret
        exact ⟨ret_int (by rw [← hr.out, stopSum_neg (by omega)]; omega), rfl⟩

/-! names -/
theorem str_get {s : ByteArray} {i : Nat} (h : i < s.size) : s.data.toList[i]? = some s[i] := by
  have hl : s.data.toList.length = s.size := Array.length_toList
  rw [List.getElem?_eq_getElem (by omega)]; rfl
theorem emp_true {s : ByteArray} (h : s.size = 0) : s.toList.isEmpty = true := by
  rw [Lib.toList_data, List.isEmpty_iff]; exact List.eq_nil_of_length_eq_zero (by rw [Array.length_toList]; exact h)
theorem emp_false {s : ByteArray} (h : 0 < s.size) : s.toList.isEmpty = false := by
  rw [Lib.toList_data]
  cases hl : s.data.toList with
  | nil => have : s.data.toList.length = s.size := Array.length_toList; rw [hl] at this; simp at this; omega
  | cons _ _ => rfl
theorem name_cons {s : ByteArray} (h : 0 < s.size) : nameOk s = (decide (s.size ≤ 8) && isLetter s[0] && (s.data.toList.drop 1).all fun c => isLetter c || isDigit c) := by
  have hl : s.data.toList.length = s.size := Array.length_toList
  have h0 := drop_cons (str_get h)
  rw [List.drop_zero] at h0
  unfold nameOk nameList
  rw [h0]
  simp only [List.drop_succ_cons, List.drop_zero]
  rw [show decide ((s.data.toList.drop (0 + 1)).length < 8) = decide (s.size ≤ 8) by rw [List.length_drop, hl]; congr 1; apply propext; omega]
theorem digit_eq (c : UInt8) : isDigit c = (decide (48 ≤ (c.toNat : Int)) && decide ((c.toNat : Int) ≤ 57)) := by
  unfold isDigit
  rw [Bool.eq_iff_iff]; simp only [Bool.and_eq_true, decide_eq_true_eq]; omega

set_option maxHeartbeats 400000 in
theorem name_any (s : ByteArray) (w : World) (hs : s.size ≤ 9223372036854775807) : Calls Tryz.prog 106 #[.string s] w fun e w' => e = .returned (.bool (nameOk s)) ∧ w = w' := by
  by_cases h0 : s.size = 0
  · have Hs := Lib.hid (show nameOk s = false by unfold nameOk nameList; rw [List.eq_nil_of_length_eq_zero (l := s.data.toList) (by rw [Array.length_toList]; exact h0)])
    have he := emp_true h0
    clear h0
    go_enter Tryz.func106, Tryz.ntmps106
    go_wp2_with fail
    go_ret
    exact ⟨ret_bool (by rw [Hs.out]), rfl⟩
  have hp : 0 < s.size := by omega
  have he := emp_false hp
  clear h0
  by_cases h8 : 8 < s.size
  · have Hs := Lib.hid (show nameOk s = false by rw [name_cons hp, show decide (s.size ≤ 8) = false by simp; omega]; rfl)
    go_enter Tryz.func106, Tryz.ntmps106
    go_wp2_with fail
    go_ret
    exact ⟨ret_bool (by rw [Hs.out]), rfl⟩
  have h8' : s.size ≤ 8 := by omega
  clear h8
  cases hL : isLetter s[0]
  · have Hs := Lib.hid (show nameOk s = false by rw [name_cons hp, hL]; simp)
    go_enter Tryz.func106, Tryz.ntmps106
    go_wp2_with (go_at_call 161; refine (letter_any _ _).mono ?_; rintro e w' ⟨rfl, rfl⟩)
    go_ret
    exact ⟨ret_bool (by rw [Hs.out]), rfl⟩
  · have Hs := Lib.hid (show nameOk s = ((s.data.toList.drop 1).all fun c => isLetter c || isDigit c) by rw [name_cons hp, hL]; simp [h8'])
    go_enter Tryz.func106, Tryz.ntmps106
    go_wp2_with (go_at_call 161; refine (letter_any _ _).mono ?_; rintro e w' ⟨rfl, rfl⟩)
    clear hL he
    go_loopg [3] s.size (fun k x wr => ∃ (j : Nat), x = .int .i64 j ∧ j + k = s.size + 1 ∧ 1 ≤ j ∧ Hid (((s.data.toList.drop j).all fun c => isLetter c || isDigit c) = nameOk s) ∧ w = wr)
    case atStart => exact ⟨1, rfl, by omega, by omega, Hs.out.symm, rfl⟩
    case round =>
      obtain ⟨j, rfl, hk, h1, hr, rfl⟩ := hrel
      have Hk := Lib.hid hk; clear hk
      by_cases hj : j < s.size
      · have Hd := Lib.hid (drop_cons (str_get hj))
        have hlt : (s[j]).toNat < 256 := (s[j]).toNat_lt
        cases hc : isLetter s[j]
        · by_cases d1 : 48 ≤ ((s[j]).toNat : Int)
          · by_cases d2 : ((s[j]).toNat : Int) ≤ 57
            · have Hc := Lib.hid (show isDigit s[j] = true by rw [digit_eq]; simp [d1, d2])
              go_wp2_with (go_at_call 161; refine (letter_any _ _).mono ?_; rintro e w' ⟨rfl, rfl⟩)
              go_roundg (gk - 1)
              case measure => have := Hk.out; omega
              case rel => exact ⟨j + 1, by go_num, by have := Hk.out; omega, by omega, by have := hr.out; rw [Hd.out] at this; simpa [Hid, Hc.out] using this, rfl⟩
            · have Hc := Lib.hid (show isDigit s[j] = false by rw [digit_eq]; simp [d2])
              go_wp2_with (go_at_call 161; refine (letter_any _ _).mono ?_; rintro e w' ⟨rfl, rfl⟩)
              go_ret
              exact ⟨ret_bool (by rw [← hr.out, Hd.out]; simp [Hc.out, hc]), rfl⟩
          · have Hc := Lib.hid (show isDigit s[j] = false by rw [digit_eq]; simp [d1])
            go_wp2_with (go_at_call 161; refine (letter_any _ _).mono ?_; rintro e w' ⟨rfl, rfl⟩)
            go_ret
            exact ⟨ret_bool (by rw [← hr.out, Hd.out]; simp [Hc.out, hc]), rfl⟩
        · go_wp2_with (go_at_call 161; refine (letter_any _ _).mono ?_; rintro e w' ⟨rfl, rfl⟩)
          go_roundg (gk - 1)
          case measure => have := Hk.out; omega
          case rel => exact ⟨j + 1, by go_num, by have := Hk.out; omega, by omega, by have := hr.out; rw [Hd.out] at this; simpa [Hid, hc] using this, rfl⟩
      · go_wp2_with fail
        go_ret
        exact ⟨ret_bool (by rw [← hr.out, List.drop_eq_nil_of_le (by rw [Array.length_toList]; exact Nat.le_of_not_lt hj)]; rfl), rfl⟩

theorem refName_cons {s : ByteArray} {j : Nat} (hj : j < s.size) : refNameGo j (s.data.toList.drop j) = ((isLetter s[j] || (decide (j ≠ 0) && isDigit s[j])) && refNameGo (j + 1) (s.data.toList.drop (j + 1))) := by
  rw [drop_cons (str_get hj)]; rfl
theorem refstep_yes {c : UInt8} {j : Nat} (h : (97 ≤ (c.toNat : Int) ∧ (c.toNat : Int) ≤ 122) ∨ (65 ≤ (c.toNat : Int) ∧ (c.toNat : Int) ≤ 90) ∨ (j ≠ 0 ∧ 48 ≤ (c.toNat : Int) ∧ (c.toNat : Int) ≤ 57)) : (isLetter c || (decide (j ≠ 0) && isDigit c)) = true := by
  rw [letter_eq, digit_eq]; simp only [Bool.or_eq_true, Bool.and_eq_true, decide_eq_true_eq]; omega
theorem refstep_no {c : UInt8} {j : Nat} (h : ¬((97 ≤ (c.toNat : Int) ∧ (c.toNat : Int) ≤ 122) ∨ (65 ≤ (c.toNat : Int) ∧ (c.toNat : Int) ≤ 90) ∨ (j ≠ 0 ∧ 48 ≤ (c.toNat : Int) ∧ (c.toNat : Int) ≤ 57))) : (isLetter c || (decide (j ≠ 0) && isDigit c)) = false := by
  rw [letter_eq, digit_eq, ← Bool.not_eq_true]; simp only [Bool.or_eq_true, Bool.and_eq_true, decide_eq_true_eq]; omega

set_option maxHeartbeats 1000000 in
theorem refname_any (s : ByteArray) (w : World) (hs : s.size ≤ 9223372036854775807) : Calls Tryz.prog 116 #[.string s] w fun e w' => e = .returned (.bool (nameOk s)) ∧ w = w' := by
  have Hs := Lib.hid (show nameOk s = (refNameGo 0 s.data.toList && decide (1 ≤ s.size) && decide (s.size ≤ 8)) from (refName_eq s).symm)
  go_enter Tryz.func116, Tryz.ntmps116
  go_wp2_with fail
  go_loopg [3] s.size (fun k x wr => ∃ (j : Nat), x = .int .i64 j ∧ j + k = s.size ∧ Hid (refNameGo j (s.data.toList.drop j) = refNameGo 0 s.data.toList) ∧ w = wr)
  case atStart => exact ⟨0, rfl, by omega, rfl, rfl⟩
  case round =>
    obtain ⟨j, rfl, hk, hr, rfl⟩ := hrel
    have Hk := Lib.hid hk; clear hk
    by_cases hj : j < s.size
    · have Hd := Lib.hid (refName_cons hj)
      have hlt : (s[j]).toNat < 256 := (s[j]).toNat_lt
      by_cases h0 : j = 0
      · have h0' : ((j : Int) == 0) = true := by simpa using h0
        have H0 := Lib.hid h0; clear h0
        go_wp2_with fail
        all_goals first
          | (go_ret
             exact ⟨ret_bool (by rw [Hs.out, ← hr.out, Hd.out, refstep_no (by have := H0.out; omega)]; rfl), rfl⟩)
          | (go_roundg (gk - 1)
             case measure => have := Hk.out; omega
             case rel => exact ⟨j + 1, by go_num, by have := Hk.out; omega, by have := hr.out; rw [Hd.out, refstep_yes (by omega)] at this; simpa [Hid] using this, rfl⟩)
          | (exfalso; simp only [Bool.not_eq_false', decide_eq_true_eq] at *; omega)
      · have h0' : ((j : Int) == 0) = false := by simpa using h0
        have H0 := Lib.hid h0; clear h0
        go_wp2_with fail
        all_goals first
          | (go_ret
             exact ⟨ret_bool (by rw [Hs.out, ← hr.out, Hd.out, refstep_no (by omega)]; rfl), rfl⟩)
          | (go_roundg (gk - 1)
             case measure => have := Hk.out; omega
             case rel => exact ⟨j + 1, by go_num, by have := Hk.out; omega, by have := hr.out; rw [Hd.out, refstep_yes (by have := H0.out; omega)] at this; simpa [Hid] using this, rfl⟩)
          | (exfalso; simp only [Bool.not_eq_false', decide_eq_true_eq] at *; omega)
    · go_wp2_with fail
      all_goals
        go_ret
        exact ⟨ret_bool (by rw [Hs.out, ← hr.out, List.drop_eq_nil_of_le (by rw [Array.length_toList]; exact Nat.le_of_not_lt hj), Bool.eq_iff_iff]; simp [refNameGo]; try omega), rfl⟩
end Go.Proofs.YtcaeglnfflkabaaGreat
