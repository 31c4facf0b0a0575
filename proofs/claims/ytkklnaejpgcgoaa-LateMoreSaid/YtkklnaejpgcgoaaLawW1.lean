/- Walks of SameInts, few, plain. -/
import Derived.Test.YtkklnaejpgcgoaaRefW6
import Derived.Test.YtkklnaejpgcgoaaRefW5
namespace Go.Proofs.Ytkklnaejpgcgoaa
open Go.RowKit

theorem take_step {xs ys : List Int} {k : Nat} {x y : Int} (hx : xs[k]? = some x) (hy : ys[k]? = some y) (h : xs.take k = ys.take k) (e : x = y) : xs.take (k + 1) = ys.take (k + 1) := by
  rw [List.take_add_one, List.take_add_one, h, hx, hy, e]
theorem ne_of_at {xs ys : List Int} {k : Nat} {x y : Int} (hx : xs[k]? = some x) (hy : ys[k]? = some y) (e : ¬ x = y) : (xs == ys) = false := by
  simp; intro h; subst h; rw [hx] at hy; exact e (by simpa using hy)

set_option maxHeartbeats 400000 in
theorem sameInts (w : World) (a1 a2 : Option Addr) (n1 n2 c1 c2 : Nat) (xs ys : List Int) (h1 : Ints w a1 n1 xs) (h2 : Ints w a2 n2 ys) :
    Calls Try.prog 16 #[.slice a1 n1 c1, .slice a2 n2 c2] w fun e w' => e = .returned (.bool (xs == ys)) ∧ Below w.heap.size w w' := by
  have b1 := h1.bnd
  have b2 := h2.bnd
  have l1 := Lib.hid h1.len
  have l2 := Lib.hid h2.len
  by_cases hn : n1 = n2
  · subst hn
    go_enter Try.func16, Try.ntmps16
    go_wp2
    go_loopg [5] n1 (fun k i wr => ∃ j : Nat, j + k = n1 ∧ i = .int .i64 j ∧ Hid (xs.take j = ys.take j) ∧ Below w.heap.size w wr)
    case atStart => exact ⟨0, by omega, rfl, rfl, Below.refl _ _⟩
    case round =>
      obtain ⟨j, hk, rfl, he, hb⟩ := hrel
      have Hk := Lib.hid hk; clear hk
      by_cases hlt : j < n1
      · obtain ⟨x, hx⟩ := get_some l1.out hlt
        obtain ⟨y, hy⟩ := get_some l2.out hlt
        obtain ⟨p1, o1, ha1, hp1, g1⟩ := h1.int hx
        obtain ⟨p2, o2, ha2, hp2, g2⟩ := h2.int hy
        cases ha1
        cases ha2
        have g1 := (hb.cell (p := ⟨p1, o1 + j, none⟩) hp1).trans g1
        have g2 := (hb.cell (p := ⟨p2, o2 + j, none⟩) hp2).trans g2
        have Hx := Lib.hid hx; clear hx
        have Hy := Lib.hid hy; clear hy
        by_cases hxy : x = y
        · have hne : (x != y) = false := by simpa using hxy
          have Hxy := Lib.hid hxy; clear hxy
          go_wp2
          go_quiet (fail)
          go_wp2
          go_roundg (gk - 1)
          case measure => have := Hk.out; omega
          case rel => exact ⟨j + 1, by have := Hk.out; omega, by go_num, take_step Hx.out Hy.out he.out Hxy.out, below_drewN hb nq⟩
        · have hne : (x != y) = true := by simpa using hxy
          have Hxy := Lib.hid hxy; clear hxy
          go_wp2
          go_quiet (fail)
          go_wp2
          go_ret
          exact ⟨ret_bool (ne_of_at Hx.out Hy.out Hxy.out).symm, below_drewN hb nq⟩
      · go_wp2
        go_ret
        exact ⟨ret_bool (by have := l1.out; have := l2.out; have := he.out; rw [List.take_of_length_le (by omega), List.take_of_length_le (by omega)] at this; simp [this]), hb⟩
  · have hn' : ((n1 : Int) != (n2 : Int)) = true := by rw [bne_iff_ne]; omega
    have Hn := Lib.hid hn; clear hn
    go_enter Try.func16, Try.ntmps16
    go_wp2
    go_ret
    exact ⟨ret_bool (by have := Hn.out; have h1 := l1.out; have h2 := l2.out; symm; simp; intro h; subst h; exact this (h1.symm.trans h2)), Below.refl _ _⟩

theorem few_any (w : World) (a1 a2 : Option Addr) (n1 c1 n2 c2 : Nat) (h1 : n1 ≤ 9223372036854775807) (h2 : n2 ≤ 9223372036854775807) :
    Calls Try.prog 12 #[.slice a1 n1 c1, .slice a2 n2 c2] w fun e w' => e = .returned (.bool (decide (n1 ≤ 60 ∧ n2 ≤ 120))) ∧ w = w' := by
  by_cases g1 : n1 ≤ 60
  · by_cases g2 : n2 ≤ 120
    · have h := Lib.hid (show decide (n1 ≤ 60 ∧ n2 ≤ 120) = true from by simp [g1, g2])
      go_enter Try.func12, Try.ntmps12
      go_wp2
      go_ret
      exact ⟨ret_bool (by first | rfl | (rw [h.out]; first | rfl | (simp; omega))), rfl⟩
    · have h := Lib.hid (show decide (n1 ≤ 60 ∧ n2 ≤ 120) = false from by simp [g2])
      go_enter Try.func12, Try.ntmps12
      go_wp2
      go_ret
      exact ⟨ret_bool (by first | rfl | (rw [h.out]; first | rfl | (simp; omega))), rfl⟩
  · have h := Lib.hid (show decide (n1 ≤ 60 ∧ n2 ≤ 120) = false from by simp [g1])
    go_enter Try.func12, Try.ntmps12
    go_wp2
    go_ret
    exact ⟨ret_bool (by first | rfl | (rw [h.out]; first | rfl | (simp; omega))), rfl⟩

theorem encWt_len (x : Wt) : (encWt x).length = 3 := rfl
theorem encWt_one : ∀ x, ∀ u ∈ encWt x, u.oneCell' = true := by intro x u hu; simp [encWt] at hu; rcases hu with rfl | rfl | rfl <;> rfl
theorem info_wait : (Try.prog.info? 53).map (fun i => (i.zero, i.size, i.bytes)) = some (some (.agg #[.int .i64 0, .int .i64 0, .int .i64 0]), 3, 24) := by kernel_rfl

set_option maxHeartbeats 400000 in
theorem plain_any (w : World) (a2 : Option Addr) (n2 c2 : Nat) (l : List Wt) (h2 : Wts w a2 n2 l) (hn2 : n2 ≤ 100000) :
    Calls Try.prog 15 #[.slice a2 n2 c2] w fun e w' => ∃ a c, e = .returned (.slice a n2 c) ∧ Wts w' a n2 l ∧ Below w.heap.size w w' := by
  have l2 := Lib.hid h2.len
  go_enter Try.func15, Try.ntmps15
  go_wp2
  go_loopg [3, 8] n2 (fun k vo i wr => ∃ j : Nat, j + k = n2 ∧ i = .int .i64 j ∧ wr.ownsRow w.heap.size 53 3 vo j ((l.take j).flatMap encWt) ∧ Below w.heap.size w wr)
  case atStart => exact ⟨0, by omega, rfl, World.ownsRow_nil _ _ _ _, Below.refl _ _⟩
  case round =>
    obtain ⟨j, hk, rfl, hown, hb⟩ := hrel
    have Hk := Lib.hid hk; clear hk
    by_cases hlt : j < n2
    · obtain ⟨y, hy⟩ := get_some l2.out hlt
      obtain ⟨p2, o2, rfl, hp2, g1, g2, g3⟩ := h2.wt hy
      have g1 := (hb.cell (p := ⟨p2, o2 + j * 3, none⟩) hp2).trans g1
      have g2 := (hb.cell (p := ⟨p2, o2 + j * 3 + 1, none⟩) hp2).trans g2
      have g3 := (hb.cell (p := ⟨p2, o2 + j * 3 + 2, none⟩) hp2).trans g3
      have Hy := Lib.hid hy; clear hy
      have own1 := (hown.alloc (.cells #[.int .i64 y.frm, .int .i64 y.to, .int .i64 y.gap] 34)).alloc (.cells #[.int .i64 y.frm, .int .i64 y.to, .int .i64 y.gap] 53)
      have hrow : Wts ((wr.alloc (.cells #[.int .i64 y.frm, .int .i64 y.to, .int .i64 y.gap] 34)).alloc (.cells #[.int .i64 y.frm, .int .i64 y.to, .int .i64 y.gap] 53)) (some ⟨wr.heap.size + 1, 0, none⟩) 1 [y] := by
        refine ⟨rfl, by omega, fun i x hx => ⟨wr.heap.size + 1, 0, rfl, by simp, fun k v hv => ?_⟩⟩
        cases i with
        | zero =>
          simp only [List.getElem?_cons_zero, Option.some.injEq] at hx; subst hx
          unfold encWt at hv
          match k, hv with
          | 0, hv => simp at hv; subst hv; go_simp
          | 1, hv => simp at hv; subst hv; go_simp
          | 2, hv => simp at hv; subst hv; go_simp
          | k + 3, hv => simp at hv
        | succ i => simp at hx
      have hlo : ∀ k, (u3 : Value).ownBlock = some k → w.heap.size ≤ k := fun k hk => (hown.lt k hk).1
      have Own1 := Lib.hid own1
      have Hrow := Lib.hid hrow
      have Hlo := Lib.hid hlo
      clear hown own1 hrow hlo
      go_wp2_with (at_builtin; refine wpList_app (enc := encWt) encWt_len encWt_one _ rfl _ _ 30 rfl w.heap.size 53 (.agg #[.int .i64 0, .int .i64 0, .int .i64 0]) 24 Try.underlying30 info_wait rfl (by decide) _ j (l.take j) rfl Own1.out (some ⟨wr.heap.size + 1, 0, none⟩) 1 1 [y] rfl Hrow.out (by intro h; cases h) (by simp [maxLen]; omega) (by omega) (by have := hb.size; simp; omega) ?_)
      intro v' w4 hown4 hgrow4 _
      have hb4 : Below w.heap.size w w4 := ((hb.alloc hb.size (.cells #[.int .i64 y.frm, .int .i64 y.to, .int .i64 y.gap] 34)).alloc (by have := hb.size; simp; omega) (.cells #[.int .i64 y.frm, .int .i64 y.to, .int .i64 y.gap] 53)).grown hgrow4 (by have := hb.size; simp; omega) (fun k hk => Hlo.out k hk)
      have ht : l.take j ++ [y] = l.take (j + 1) := by rw [List.take_add_one, Hy.out]; rfl
      have hown4 : w4.ownsRow w.heap.size 53 3 v' (j + 1) ((l.take (j + 1)).flatMap encWt) := by rw [← ht, List.flatMap_append]; simpa using hown4
      have Own4 := Lib.hid hown4
      clear hown4 hgrow4 ht Own1 Hrow
      go_wp2
      go_roundg (gk - 1)
      case measure => have := Hk.out; omega
      case rel => exact ⟨j + 1, by have := Hk.out; omega, by go_num, Own4.out, hb4⟩
    · obtain ⟨a, c, ha, _, _⟩ := own_slice hown
      cases ha
      have hj : j = n2 := by have := Hk.out; omega
      rw [List.take_of_length_le (by have := l2.out; omega)] at hown
      have hrow := (owns_row (sz := 3) (enc := encWt) encWt_len hown (by omega)).1
      have Hrow := Lib.hid hrow
      have Hj := Lib.hid hj
      clear hown hrow hj
      go_wp2
      go_ret
      exact ⟨a, c, by rw [Hj.out]; rfl, by have := Hrow.out; rwa [Hj.out] at this, hb⟩
end Go.Proofs.Ytkklnaejpgcgoaa
