/- Walk of semaphoreref35.order. -/
import Derived.Test.YtkklnaejpgcgoaaRefW1
import Derived.Test.YtkklnaejpgcgoaaLateW5
namespace Go.Proofs.Ytkklnaejpgcgoaa
open Go.RowKit

/-- The memory of semaphoreref35.order: the row 'left' (block B), the row 'out'. -/
structure RefInv (B : Nat) (wr : World) (n : Nat) (left outs : List Int) (vo : Value) : Prop where
  left : OwnI wr B (.slice (some ⟨B, 0, none⟩) n n) n left
  out : OwnI wr (B + 1) vo outs.length outs
  size : B + 1 ≤ wr.heap.size

section
variable {B n : Nat} {w w' : World} {left outs : List Int} {vo vo' : Value}
theorem RefInv.alloc (h : RefInv B w n left outs vo) (x : Obj) : RefInv B (w.alloc x) n left outs vo := ⟨h.left.alloc x, h.out.alloc x, by have := h.size; simp; omega⟩
theorem RefInv.drewN (h : RefInv B w n left outs vo) (q : Nat) : RefInv B (w.drewN q) n left outs vo := ⟨h.left, h.out, h.size⟩
theorem RefInv.set (h : RefInv B w n left outs vo) (j : Nat) (u : Int) : RefInv B (w.setCell ⟨B, j, none⟩ (.int .i64 u)) n (left.set j u) outs vo :=
  ⟨(own_set h.left j u).1, ownsRow_setCell_below h.out (by simp) _, by simpa [World.setCell] using h.size⟩
theorem RefInv.append (h : RefInv B w n left outs vo) {e : Int} (hg : w.grownBy w' vo.ownBlock) (hn : w'.ownsRow (B + 1) 3 1 vo' (outs.length + 1) (outs.map (Value.int .i64) ++ [.int .i64 e])) :
    RefInv B w' n left (outs ++ [e]) vo' := by
  refine ⟨h.left.kept hg (.inr ?_), by unfold OwnI; simpa using hn, Nat.le_trans h.size hg.size⟩
  intro hk; simp only [Value.ownBlock] at hk; have := (h.out.lt B hk.symm).1; omega
end

set_option maxHeartbeats 2000000 in
theorem reforder_any (w : World) (a2 : Option Addr) (n n2 c2 : Nat) (l : List Wt) (R : List Int) (h2 : Wts w a2 n2 l) (hn : n ≤ 1000) (hn2 : n2 ≤ 1000) (hl : ∀ x ∈ l, 0 ≤ x.to ∧ x.to < n) (hR : refOrder n l = some R) (hRl : R.length ≤ 1000) :
    Calls Try.prog 25 #[.int .i64 n, .slice a2 n2 c2] w fun e w' => ∃ v, e = .returned (.tuple #[v, .bool (decide (R.length = n))]) ∧ OwnI w' w.heap.size v R.length R ∧ Below w.heap.size w w' := by
  have l2 := Lib.hid h2.len
  have HR := Lib.hid hR; clear hR
  obtain ⟨ii, hii, zi1, zi2, zi3⟩ := info_parts info_int
  go_enter Try.func25, Try.ntmps25
  go_wp2_with (at_make; refine wpList_make_full _ rfl _ _ 22 rfl w.heap.size 3 ii (.int .i64 0) 1 Try.underlying22 hii zi1 zi2 _ _ _ _ n rfl rfl rfl rfl (by rw [zi3]; omega) (by simp [maxLen]; omega) (Nat.le_refl _) ?_; intro w1 hown hgrow)
  have hb1 : Below w.heap.size w w1 := (Below.refl _ _).grown hgrow (Nat.le_refl _) (by intro k hk; cases hk)
  have I0 : RefInv w.heap.size w1 n (List.replicate n 0) [] (.slice none 0 0) := by
    rw [show (Value.int .i64 0).cells = #[Value.int .i64 0] from rfl, Nat.mul_one, toList_madeCells_one] at hown
    exact ⟨by unfold OwnI; simpa using hown, World.ownsRow_nil _ _ _ _, (own_shape' hown).2⟩
  have HI := Lib.hid I0
  clear hown hgrow I0
  go_loopg [18] n2 (fun k i wr => ∃ (j : Nat) (left : List Int), j + k = n2 ∧ i = .int .i64 j ∧ RefInv w.heap.size wr n left [] (.slice none 0 0) ∧ Hid (Bd2 left 0 j) ∧ Hid ((l.drop j).foldl incStep left = refLeft n l) ∧ Below w.heap.size w wr)
  case atStart => exact ⟨0, _, by omega, rfl, HI.out, by intro x hx; simp at hx; omega, rfl, hb1⟩
  case round =>
    clear hb1
    obtain ⟨j, left, hk, rfl, hI, hbd, hru, hb⟩ := hrel
    have Hk := Lib.hid hk; clear hk
    by_cases hlt : j < n2
    · obtain ⟨y, hy⟩ := get_some l2.out hlt
      obtain ⟨p2, o2, rfl, hp2, g1, g2, g3⟩ := h2.wt hy
      have g1 := (hb.cell (p := ⟨p2, o2 + j * 3, none⟩) hp2).trans g1
      have g2 := (hb.cell (p := ⟨p2, o2 + j * 3 + 1, none⟩) hp2).trans g2
      have g3 := (hb.cell (p := ⟨p2, o2 + j * 3 + 2, none⟩) hp2).trans g3
      have Hy := Lib.hid hy; clear hy
      have ⟨t0, t1⟩ := hl y (List.mem_of_getElem? Hy.out)
      have lo := own_len hI.left
      have k1 : wr.cell? ⟨w.heap.size, y.to.toNat, none⟩ = some (.int .i64 (at0 left y.to)) := own_cell hI.left (by omega)
      have k2 := hI.left.frozenAt y.to.toNat
      have k3 : w.heap.size < wr.heap.size := hI.size
      obtain ⟨q1, q2⟩ := bd2_at hbd.out t0 (by omega)
      have HI1 := Lib.hid hI; clear hI
      have Lo := Lib.hid lo; clear lo
      go_wp2_with fail
      go_roundg (gk - 1)
      case measure => have := Hk.out; omega
      case rel =>
        refine ⟨j + 1, incStep left y, by have := Hk.out; omega, by go_num, ?_, bd2_set hbd.out (by omega) (by omega) (by omega) _, by rw [drop_cons Hy.out] at hru; exact hru, ?_⟩
        · exact (HI1.out.set y.to.toNat _).alloc _
        · exact (hb.setCell (p := ⟨w.heap.size, _, none⟩) (Nat.le_refl _) _).alloc (by have := hb.size; simpa [World.setCell] using this) _
    · have hleft : Hid (left = refLeft n l) := by have := hru.out; rw [drop_end l2.out (by omega)] at this; exact this
      clear hru
      have hbd1 : Hid (Bd2 left 0 1000) := bd2_mono hbd.out (by omega) (by have := Hk.out; omega)
      clear hbd
      have HI1 := Lib.hid hI; clear hI HI
      go_wp2_with fail
      go_loopg [9, 32] n (fun k vo i wr => ∃ (j : Nat) (outs : List Int), j + k = n ∧ i = .int .i64 j ∧ RefInv w.heap.size wr n left outs vo ∧ outs.length ≤ j ∧ Hid (((List.range n).drop j).foldl (zeroStep left) outs = refStart n left) ∧ Below w.heap.size w wr)
      case atStart => exact ⟨0, [], by omega, rfl, HI1.out, by simp, rfl, hb⟩
      case round =>
        clear hb Hk hlt
        obtain ⟨j, outs, hk, rfl, hI, hol, hru, hb⟩ := hrel
        have Hk := Lib.hid hk; clear hk
        by_cases hlt : j < n
        · have lo := own_len hI.left
          have k1 : wr.cell? ⟨w.heap.size, j, none⟩ = some (.int .i64 (at0 left j)) := own_cell hI.left (by omega)
          have k3 : w.heap.size < wr.heap.size := hI.size
          have hown := hI.out
          have HI2 := Lib.hid hI; clear hI
          have Lo := Lib.hid lo; clear lo
          have hd := Lib.hid (drop_cons (show (List.range n)[j]? = some j by simp [hlt]))
          by_cases hz : at0 left j = 0
          · have hz' : (at0 left j == 0) = true := by simpa using hz
            have Hz := Lib.hid hz; clear hz
            go_wp2_with (at_builtin; refine wpList_append_own _ rfl _ _ 22 rfl (w.heap.size + 1) 3 ii (.int .i64 0) 1 8 Try.underlying22 hii zi1 zi2 zi3 rfl (by decide) _ _ _ rfl (hown.alloc _) ⟨wr.heap.size, 0, none⟩ 1 1 [.int .i64 j] rfl rfl ?_ ?_ ?_ ?_ ?_ ?_)
            · exact cell_one_new _ _ _
            · intro u hu; simp at hu; subst hu; rfl
            · simp [maxLen]; omega
            · omega
            · simp; omega
            · intro v' w4 hown4 hgrow4 _
              have hb4 : Below w.heap.size w w4 := (hb.alloc hb.size (.cells #[.int .i64 j] 3)).grown hgrow4 (by simp; omega) (fun k hk => by have := (hown.lt k hk).1; omega)
              have HI4 := Lib.hid ((HI2.out.alloc (.cells #[.int .i64 j] 3)).append hgrow4 hown4); clear hown hown4 hgrow4
              go_wp2_with fail
              go_roundg (gk - 1)
              case measure => have := Hk.out; omega
              case rel => exact ⟨j + 1, outs ++ [(j : Int)], by have := Hk.out; omega, by go_num, HI4.out, by simp; omega, by have := hru.out; rw [hd.out, List.foldl_cons] at this; unfold zeroStep at this ⊢; rw [if_pos Hz.out] at this; exact this, hb4⟩
          · have hz' : (at0 left j == 0) = false := by simpa using hz
            have Hz := Lib.hid hz; clear hz
            clear hown
            go_wp2_with fail
            go_roundg (gk - 1)
            case measure => have := Hk.out; omega
            case rel => exact ⟨j + 1, outs, by have := Hk.out; omega, by go_num, HI2.out, by omega, by have := hru.out; rw [hd.out, List.foldl_cons] at this; unfold zeroStep at this ⊢; rw [if_neg Hz.out] at this; exact this, hb⟩
        · have hst : Hid (outs = refStart n left) := by have := hru.out; rw [List.drop_eq_nil_of_le (by simp; omega)] at this; exact this
          clear hru
          have HI2 := Lib.hid hI; clear hI HI1
          have hR0 : Hid (refRun l (n + 1) 0 left outs = some R) := by have := HR.out; unfold refOrder at this; rw [← hleft.out, ← hst.out] at this; exact this
          clear hst hleft
          go_wp2_with fail
          go_loopg [9, 11] (n + 1) (fun f vo kk wr => ∃ (k : Nat) (left2 outs2 : List Int), kk = .int .i64 k ∧ RefInv w.heap.size wr n left2 outs2 vo ∧ k ≤ outs2.length ∧ Hid (Bd2 left2 (-(1000 * (k : Int))) 1000) ∧ Hid (refRun l f k left2 outs2 = some R) ∧ Below w.heap.size w wr)
          case atStart => exact ⟨0, left, outs, rfl, HI2.out, by omega, bd2_mono hbd1.out (by omega) (by omega), hR0, hb⟩
          case round =>
            clear hb Hk hlt hol hR0 HI2 hbd1
            obtain ⟨k, left2, outs2, rfl, hI, hko, hbd, hru, hb⟩ := hrel
            obtain ⟨ao, co, hvo, hno, hco⟩ := own_slice hI.out
            cases hvo
            cases gk with
            | zero => exact absurd hru.out (by simp [refRun])
            | succ f =>
              have hrl := refRun_len hru.out
              by_cases hlt : k < outs2.length
              · obtain ⟨e, he⟩ := get_some (xs := outs2) rfl hlt
                have hru' : Hid (refRun l f (k + 1) (l.foldl (refStep e) (left2, outs2)).1 (l.foldl (refStep e) (left2, outs2)).2 = some R) := by
                  have := hru.out; unfold refRun at this; rw [he] at this; exact this
                clear hru
                have hrl2 := refRun_len hru'.out
                have He := Lib.hid he; clear he
                have HI3 := Lib.hid hI; clear hI
                go_wp2_with fail
                go_loopg [9, 53] n2 (fun k2 vo i wr => ∃ (j : Nat) (left3 outs3 : List Int), j + k2 = n2 ∧ i = .int .i64 j ∧ RefInv w.heap.size wr n left3 outs3 vo ∧ outs2.length ≤ outs3.length ∧ Hid (Bd2 left3 (-(1000 * (k : Int) + j)) 1000) ∧ Hid (outs3[k]? = some e) ∧
                  Hid ((l.drop j).foldl (refStep e) (left3, outs3) = l.foldl (refStep e) (left2, outs2)) ∧ Below w.heap.size w wr)
                case atStart => exact ⟨0, left2, outs2, by omega, rfl, HI3.out, Nat.le_refl _, bd2_mono hbd.out (by omega) (by omega), He.out, rfl, hb⟩
                case round =>
                  clear hb
                  obtain ⟨j, left3, outs3, hk, rfl, hI, hol, hbd3, he3, hru3, hb⟩ := hrel
                  have Hk := Lib.hid hk; clear hk
                  have hl3 : outs3.length ≤ R.length := by have := refFold_len e (l.drop j) (left3, outs3); rw [hru3.out] at this; exact Nat.le_trans this hrl2
                  by_cases hlt2 : j < n2
                  · obtain ⟨y, hy⟩ := get_some l2.out hlt2
                    obtain ⟨p2, o2, rfl, hp2, g1, g2, g3⟩ := h2.wt hy
                    have g1 := (hb.cell (p := ⟨p2, o2 + j * 3, none⟩) hp2).trans g1
                    have g2 := (hb.cell (p := ⟨p2, o2 + j * 3 + 1, none⟩) hp2).trans g2
                    have g3 := (hb.cell (p := ⟨p2, o2 + j * 3 + 2, none⟩) hp2).trans g3
                    have Hy := Lib.hid hy; clear hy
                    have ⟨t0, t1⟩ := hl y (List.mem_of_getElem? Hy.out)
                    obtain ⟨go, cpo, hgo, hgo1, hgo2⟩ := own_shape hI.out (by omega)
                    cases hgo
                    have m1 : wr.cell? ⟨go, k, none⟩ = some (.int .i64 e) := by
                      have := own_cell hI.out (j := k) (by omega)
                      rwa [show outs3.getD k 0 = e from by simp [List.getD, he3.out]] at this
                    have lo := own_len hI.left
                    have k1 : wr.cell? ⟨w.heap.size, y.to.toNat, none⟩ = some (.int .i64 (at0 left3 y.to)) := own_cell hI.left (by omega)
                    have k2 := hI.left.frozenAt y.to.toNat
                    have k3 : w.heap.size < wr.heap.size := hI.size
                    obtain ⟨q1, q2⟩ := bd2_at hbd3.out t0 (by omega)
                    have hkl : k < outs3.length := by omega
                    have hd := Lib.hid (drop_cons Hy.out)
                    have hown := hI.out
                    have HI4 := Lib.hid hI; clear hI
                    have Lo := Lib.hid lo; clear lo
                    by_cases hfr : y.frm = e
                    · have ht : (y.frm != e) = false := by simpa using hfr
                      have Hfr := Lib.hid hfr
                      clear hown
                      by_cases hz : at0 left3 y.to - 1 = 0
                      · have hz' : (at0 left3 y.to - 1 == 0) = true := by simpa using hz
                        have Hz := Lib.hid hz; clear hz
                        go_wp2_with fail
                        go_quiet (fail)
                        have HI5 := Lib.hid ((((HI4.out.alloc (.cells #[.int .i64 e, .int .i64 y.to, .int .i64 y.gap] 53)).drewN nq).set y.to.toNat (at0 left3 y.to - 1)).alloc (.cells #[.int .i64 y.to] 3))
                        go_wp2_with (at_builtin; refine wpList_append_own _ rfl _ _ 22 rfl (w.heap.size + 1) 3 ii (.int .i64 0) 1 8 Try.underlying22 hii zi1 zi2 zi3 rfl (by decide) _ _ _ rfl HI5.out.out ⟨wr.heap.size + 1, 0, none⟩ 1 1 [.int .i64 y.to] rfl rfl ?_ ?_ ?_ ?_ ?_ ?_)
                        · exact cell_new_at _ (by simp [World.setCell]) _ _
                        · intro u hu; simp at hu; subst hu; rfl
                        · simp [maxLen]; omega
                        · omega
                        · simp [World.setCell]; omega
                        · intro v' w4 hown4 hgrow4 _
                          have hsz : w.heap.size ≤ wr.heap.size := hb.size
                          have hb4 : Below w.heap.size w w4 := (((below_drewN (hb.alloc hb.size (.cells #[.int .i64 e, .int .i64 y.to, .int .i64 y.gap] 53)) nq).setCell (p := ⟨w.heap.size, y.to.toNat, none⟩) (Nat.le_refl _) (.int .i64 (at0 left3 y.to - 1))).alloc (by simp [World.setCell]; omega) (.cells #[.int .i64 y.to] 3)).grown hgrow4 (by simp [World.setCell]; omega) (fun k hk => by have := (HI5.out.out.lt k hk).1; omega)
                          have HI6 := Lib.hid (HI5.out.append hgrow4 hown4); clear hown4 hgrow4 HI5
                          go_wp2_with fail
                          go_roundg (gk - 1)
                          case measure => have := Hk.out; omega
                          case rel =>
                            refine ⟨j + 1, left3.set y.to.toNat (at0 left3 y.to - 1), outs3 ++ [y.to], by have := Hk.out; omega, by go_num, HI6.out, by simp; omega, bd2_set hbd3.out (by omega) (by omega) (by omega) _, by unfold Hid; rw [List.getElem?_append_left hkl]; exact he3.out, ?_, hb4⟩
                            have := hru3.out; rw [hd.out, List.foldl_cons] at this; unfold refStep at this ⊢; rw [if_pos Hfr.out] at this; dsimp only at this; rw [if_pos Hz.out] at this; exact this
                      · have hz' : (at0 left3 y.to - 1 == 0) = false := by simpa using hz
                        have Hz := Lib.hid hz; clear hz
                        have HI5 := Lib.hid ((((HI4.out.alloc (.cells #[.int .i64 e, .int .i64 y.to, .int .i64 y.gap] 53)))).set y.to.toNat (at0 left3 y.to - 1))
                        go_wp2_with fail
                        go_quiet (fail)
                        go_wp2_with fail
                        go_roundg (gk - 1)
                        case measure => have := Hk.out; omega
                        case rel =>
                          refine ⟨j + 1, left3.set y.to.toNat (at0 left3 y.to - 1), outs3, by have := Hk.out; omega, by go_num, HI5.out.drewN nq, hol, bd2_set hbd3.out (by omega) (by omega) (by omega) _, he3, ?_, ?_⟩
                          · have := hru3.out; rw [hd.out, List.foldl_cons] at this; unfold refStep at this ⊢; rw [if_pos Hfr.out] at this; dsimp only at this; rw [if_neg Hz.out] at this; exact this
                          · exact (below_drewN (hb.alloc hb.size _) nq).setCell (p := ⟨w.heap.size, _, none⟩) (Nat.le_refl _) _
                    · have ht : (y.frm != e) = true := by simpa using hfr
                      have Hfr := Lib.hid hfr; clear hfr hown
                      go_wp2_with fail
                      go_quiet (fail)
                      go_wp2_with fail
                      go_roundg (gk - 1)
                      case measure => have := Hk.out; omega
                      case rel =>
                        refine ⟨j + 1, left3, outs3, by have := Hk.out; omega, by go_num, (HI4.out.alloc _).drewN nq, hol, bd2_mono hbd3.out (by omega) (by omega), he3, ?_, below_drewN (hb.alloc hb.size _) nq⟩
                        have := hru3.out; rw [hd.out, List.foldl_cons] at this; unfold refStep at this ⊢; rw [if_neg Hfr.out] at this; exact this
                  · have hru4 := hru3.out
                    rw [drop_end l2.out (by omega), List.foldl_nil] at hru4
                    have hru5 : Hid (refRun l f (k + 1) left3 outs3 = some R) := by have := hru'.out; rw [← hru4] at this; exact this
                    have HI4 := Lib.hid hI; clear hI hru4 hru3
                    obtain ⟨ao, co, hvo, hno, hco⟩ := own_slice HI4.out.out
                    cases hvo
                    clear hco
                    go_wp2_with fail
                    go_roundg f
                    case measure => omega
                    case rel => exact ⟨k + 1, left3, outs3, by go_num, HI4.out, by omega, bd2_mono hbd3.out (by have := Hk.out; omega) (by omega), hru5, hb⟩
              · have hRo : outs2 = R := by have := hru.out; unfold refRun at this; rw [List.getElem?_eq_none (by omega)] at this; simpa using this
                clear hru
                subst hRo
                have HI4 := Lib.hid hI; clear hI
                go_wp2_with fail
                go_ret2
                exact ⟨_, by rw [int_beq]; rfl, owns_base HI4.out.out (by omega), hb⟩
end Go.Proofs.Ytkklnaejpgcgoaa
