/- Walks of semaphoreref6.Reads, In, twice. No condition beyond what is read. -/
import Derived.Test.YtlndfmflbdkpjaaRefF2
import Derived.Test.YtlndfmflbdkpjaaPlanW6
set_option maxRecDepth 1000000
namespace Go.Proofs.Ytlndfmflbdkpjaa
open Go.RowKit

theorem refreads_any (w : World) (pv : PV) (p : Plan) (x : Port) (h : PlanAt w pv p) :
    Calls Try.prog 53 #[pv.val p, x.val] w fun e w' => e = .returned (.int .i64 (reads p x)) ∧ Below w.heap.size w w' := by
  obtain ⟨ae, ne, ce, aj, nj, cj, as_, ns, cs, al, nl, cl, lv⟩ := pv
  have hs : Sigs w as_ ns p.sigs := h.s
  have hl := Lib.hid hs.len
  have hbd := hs.bnd
  have hW : Below w.heap.size w ((w.alloc (.cells #[.slice ae ne ce, .slice aj nj cj, .slice as_ ns cs, .slice al nl cl, .int .i64 p.top, .int .i64 p.brake, .int .i64 p.margin, .int .i64 p.throw, .bool p.hard] 32)).alloc (.cells #[.int .i64 x.e, .int .i64 x.n] 44)) := below_new2 w _ _
  have HB := Lib.hid ((pbox_new w ⟨ae, ne, ce, aj, nj, cj, as_, ns, cs, al, nl, cl, lv⟩ p).below (below_new _ (.cells #[.int .i64 x.e, .int .i64 x.n] 44)))
  have HX := Lib.hid (PortBox.new (w.alloc (.cells #[.slice ae ne ce, .slice aj nj cj, .slice as_ ns cs, .slice al nl cl, .int .i64 p.top, .int .i64 p.brake, .int .i64 p.margin, .int .i64 p.throw, .bool p.hard] 32)) (b := w.heap.size + 1) (by simp) x 44)
  clear h
  dsimp only [PV.val, Port.val]
  go_enter Try.func53, Try.ntmps53
  go_wp2_with fail
  go_loopg [5] ns (fun k i wr => ∃ (j : Nat), j + k = ns ∧ i = .int .i64 j ∧ Hid (readsGo j (p.sigs.drop j) x = reads p x) ∧ PBox wr w.heap.size ⟨ae, ne, ce, aj, nj, cj, as_, ns, cs, al, nl, cl, lv⟩ p ∧ PortBox wr (w.heap.size + 1) x ∧ Below w.heap.size w wr)
  case atStart => exact ⟨0, by omega, rfl, rfl, HB.out, HX.out, hW⟩
  case round =>
    clear hW HB HX
    obtain ⟨j, hk, rfl, hr, hB, hX, hb⟩ := hrel
    have Hk := Lib.hid hk; clear hk
    have HB := Lib.hid hB; have HX := Lib.hid hX
    obtain ⟨_, _, _, c2, _⟩ := hB
    obtain ⟨xl, x0, x1, _⟩ := hX
    by_cases hlt : j < ns
    · obtain ⟨y, hy⟩ := get_some hl.out hlt
      obtain ⟨pb, off, rfl, hpb, g1, g2, g3, g4⟩ := hs.sigB hb hy
      have Hd := Lib.hid (drop_cons hy); clear hy
      have Hb := Lib.hid hb; clear hb
      by_cases ha : y.at_ = x
      · have q1 := eql_port (x := y.at_) (y := x) (b := true) (by simpa using ha)
        have Hn := Lib.hid (show reads p x = (j : Int) by rw [← hr.out, Hd.out, readsGo, if_pos ha])
        clear ha
        go_wp2_with fail
        go_quiet (fail)
        go_wp2_with fail
        go_ret
        exact ⟨ret_int Hn.out.symm, below_drewN Hb.out _⟩
      · have q1 := eql_port (x := y.at_) (y := x) (b := false) (by simpa using ha)
        have Hn := Lib.hid (show readsGo (j + 1) (p.sigs.drop (j + 1)) x = reads p x by rw [← hr.out, Hd.out, readsGo, if_neg ha])
        clear ha
        go_wp2_with fail
        go_quiet (fail)
        go_wp2_with fail
        go_roundg (gk - 1)
        case measure => have := Hk.out; omega
        case rel => exact ⟨j + 1, by have := Hk.out; omega, by go_num, Hn.out, HB.out.drewN _, HX.out.drewN _, below_drewN Hb.out _⟩
    · have Hb := Lib.hid hb; clear hb
      have Hn := Lib.hid (show reads p x = -1 by rw [← hr.out, drop_end hl.out (by omega)]; rfl)
      go_wp2_with fail
      go_ret
      exact ⟨ret_int Hn.out.symm, Hb.out⟩

theorem mem_drop {α : Type} [DecidableEq α] {l : List α} {x y : α} {j : Nat} (h : l[j]? = some y) : memB x (l.drop j) = (decide (y = x) || memB x (l.drop (j + 1))) := by
  unfold memB; rw [drop_cons h, Bool.eq_iff_iff, Bool.or_eq_true, decide_eq_true_eq, decide_eq_true_eq, decide_eq_true_eq, List.mem_cons, eq_comm (a := x)]
theorem refin_any (w : World) (a : Option Addr) (n c : Nat) (xs : List Int) (h : Ints w a n xs) (m : Int) :
    Calls Try.prog 95 #[.slice a n c, .int .i64 m] w fun e w' => e = .returned (.bool (memB m xs)) ∧ w = w' := by
  have hl := Lib.hid h.len
  have hbd := h.bnd
  go_enter Try.func95, Try.ntmps95
  go_wp2_with fail
  go_loopg [5] n (fun k i wr => ∃ (j : Nat), j + k = n ∧ i = .int .i64 j ∧ Hid (memB m (xs.drop j) = memB m xs) ∧ w = wr)
  case atStart => exact ⟨0, by omega, rfl, rfl, rfl⟩
  case round =>
    obtain ⟨j, hk, rfl, hr, rfl⟩ := hrel
    have Hk := Lib.hid hk; clear hk
    by_cases hlt : j < n
    · obtain ⟨y, hy⟩ := get_some hl.out hlt
      obtain ⟨pb, off, rfl, hpb, g1⟩ := h.int hy
      have Hd := Lib.hid (mem_drop (x := m) hy); clear hy
      by_cases hm : y = m
      · have q1 : (y == m) = true := by simpa using hm
        have Hn := Lib.hid (show memB m xs = true by rw [← hr.out, Hd.out]; simp [hm])
        clear hm
        go_wp2_with fail
        go_ret
        exact ⟨ret_bool Hn.out.symm, rfl⟩
      · have q1 : (y == m) = false := by simpa using hm
        have Hn := Lib.hid (show memB m (xs.drop (j + 1)) = memB m xs by rw [← hr.out, Hd.out]; simp [hm])
        clear hm
        go_wp2_with fail
        go_roundg (gk - 1)
        case measure => have := Hk.out; omega
        case rel => exact ⟨j + 1, by have := Hk.out; omega, by go_num, Hn.out, rfl⟩
    · have Hn := Lib.hid (show memB m xs = false by rw [← hr.out, drop_end hl.out (by omega)]; rfl)
      go_wp2_with fail
      go_ret
      exact ⟨ret_bool Hn.out.symm, rfl⟩

/-! rows of strings -/
def encStr (x : ByteArray) : List Value := [.string x]
abbrev Strs (w : World) (a : Option Addr) (n : Nat) (xs : List ByteArray) : Prop := Row 1 encStr w a n xs
theorem Row.str {w : World} {a : Option Addr} {n : Nat} {xs : List ByteArray} (h : Row 1 encStr w a n xs) {i : Nat} {x : ByteArray} (hx : xs[i]? = some x) :
    ∃ b off, a = some ⟨b, off, none⟩ ∧ b < w.heap.size ∧ w.cell? ⟨b, off + i, none⟩ = some (.string x) := by
  obtain ⟨b, off, ha, hb, hc⟩ := h.at_ i x hx
  exact ⟨b, off, ha, hb, by simpa using hc 0 _ rfl⟩
theorem flat_strs (xs : List ByteArray) : xs.flatMap encStr = xs.map Value.string := by
  induction xs with
  | nil => rfl
  | cons x r ih => simp [List.flatMap_cons, encStr, ih]
theorem dup_look {α : Type} [DecidableEq α] {l : List α} {j : Nat} {s : α} {b : Bool} (h : memB s (l.take j) = b) : (s ∈ l.take j) = (b = true) := by
  rw [← h, memB_iff]
set_option maxHeartbeats 1000000 in
theorem reftwice_any (w : World) (a : Option Addr) (n c : Nat) (xs : List ByteArray) (h : Strs w a n xs) :
    Calls Try.prog 70 #[.slice a n c] w fun e w' => e = .returned (.bool (dup xs)) ∧ ∃ q : Nat, w' = w.drewN q := by
  have hl := Lib.hid h.len
  have hbd := h.bnd
  go_enter Try.func70, Try.ntmps70
  go_wp2_with fail
  go_loopg [3] n (fun k i wr => ∃ (j q : Nat), j + k = n ∧ i = .int .i64 j ∧ Hid (dupGo (xs.take j) (xs.drop j) = dup xs) ∧ wr = w.drewN q)
  case atStart => exact ⟨0, 0, by omega, rfl, rfl, rfl⟩
  case round =>
    obtain ⟨j, q, hk, rfl, hr, rfl⟩ := hrel
    have Hk := Lib.hid hk; clear hk
    by_cases hlt : j < n
    · obtain ⟨y, hy⟩ := get_some hl.out hlt
      obtain ⟨pb, off, rfl, hpb, g1⟩ := h.str hy
      have Hy := Lib.hid hy; clear hy
      go_wp2_with fail
      go_loopg [4] j (fun k i wr => ∃ (j2 q : Nat), j2 + k = j ∧ i = .int .i64 j2 ∧ Hid (memB y ((xs.take j).drop j2) = memB y (xs.take j)) ∧ wr = w.drewN q)
      case atStart => exact ⟨0, q, by omega, rfl, rfl, rfl⟩
      case round =>
        obtain ⟨j2, q2, hk2, rfl, hr2, rfl⟩ := hrel
        have Hk2 := Lib.hid hk2; clear hk2
        by_cases hlt2 : j2 < j
        · obtain ⟨z, hz⟩ := get_some hl.out (show j2 < n by omega)
          obtain ⟨pb', off', ha', hpb', g2⟩ := h.str hz
          cases ha'
          have Hd := Lib.hid (mem_drop (x := y) (show (xs.take j)[j2]? = some z by rw [List.getElem?_take, if_pos hlt2]; exact hz)); clear hz
          by_cases hm : y = z
          · have q1 : (y.toList == z.toList) = true := by rw [str_beq]; simpa using hm
            have Hn := Lib.hid (show dup xs = true from dup_hit Hy.out hr.out (memB_iff.1 (by rw [← hr2.out, Hd.out]; simp [hm])))
            clear hm
            go_wp2_with fail
            go_quiet (fail)
            go_wp2_with fail
            go_ret
            exact ⟨ret_bool Hn.out.symm, _, by first | exact World.drewN_drewN .. | rfl⟩
          · have q1 : (y.toList == z.toList) = false := by rw [str_beq]; simpa using hm
            have Hn := Lib.hid (show memB y ((xs.take j).drop (j2 + 1)) = memB y (xs.take j) by rw [← hr2.out, Hd.out]; simp [show ¬ z = y from fun e => hm e.symm])
            clear hm
            go_wp2_with fail
            go_quiet (fail)
            go_wp2_with fail
            go_roundg (gk - 1)
            case measure => have := Hk2.out; omega
            case rel => exact ⟨j2 + 1, _, by have := Hk2.out; omega, by go_num, Hn.out, by first | exact World.drewN_drewN .. | rfl⟩
        · have Hn := Lib.hid (show dupGo (xs.take (j + 1)) (xs.drop (j + 1)) = dup xs from dup_next Hy.out hr.out (fun e => by
            have := memB_iff.2 e
            rw [← hr2.out, List.drop_eq_nil_of_le (by simp; omega)] at this
            simp [memB] at this))
          go_wp2_with fail
          go_roundg (n - j - 1)
          case measure => have := Hk.out; omega
          case rel => exact ⟨j + 1, _, by have := Hk.out; omega, by go_num, Hn.out, rfl⟩
    · have Hn := Lib.hid (dup_end hr.out (by have := hl.out; omega))
      go_wp2_with fail
      go_ret
      exact ⟨ret_bool Hn.out.symm, q, rfl⟩
end Go.Proofs.Ytlndfmflbdkpjaa
