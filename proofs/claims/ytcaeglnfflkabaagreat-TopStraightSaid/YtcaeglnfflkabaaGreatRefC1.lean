/- Walks of semaphoreref6.Reads, In, twice. No condition beyond what is read. -/
import Derived.Test.YtcaeglnfflkabaaGreatPlanW11
import Derived.Test.YtcaeglnfflkabaaGreatPlanW6
import Derived.Lib.QuietBelow
set_option maxRecDepth 1000000
namespace Go.Proofs.YtcaeglnfflkabaaGreat
open Go.RowKit

theorem refreads_any (w : World) (pv : PV) (p : Plan) (x : Port) (h : PlanAt w pv p) :
  Calls Tryz.prog 121 #[pv.val p, x.val] w fun e w' => e = .returned (.int .i64 (reads p x)) ∧ Below w.heap.size w w' := by
 obtain ⟨ae, ne, ce, aj, nj, cj, as_, ns, cs, al, nl, cl, lv⟩ := pv
 have hs : Sigs w as_ ns p.sigs := h.s
 have hl := Lib.hid hs.len
 have hbd := hs.bnd
 have hW : Below w.heap.size w ((w.alloc (.cells #[.slice ae ne ce, .slice aj nj cj, .slice as_ ns cs, .slice al nl cl, .int .i64 p.top, .int .i64 p.brake, .int .i64 p.margin, .int .i64 p.throw, .bool p.hard] 27)).alloc (.cells #[.int .i64 x.e, .int .i64 x.n] 43)) := below_new2 w _ _
 have HB := Lib.hid ((pbox_new w ⟨ae, ne, ce, aj, nj, cj, as_, ns, cs, al, nl, cl, lv⟩ p).below (below_new _ (.cells #[.int .i64 x.e, .int .i64 x.n] 43)))
 have HX := Lib.hid (PortBox.new (w.alloc (.cells #[.slice ae ne ce, .slice aj nj cj, .slice as_ ns cs, .slice al nl cl, .int .i64 p.top, .int .i64 p.brake, .int .i64 p.margin, .int .i64 p.throw, .bool p.hard] 27)) (b := w.heap.size + 1) (by simp) x 43)
 clear h
 dsimp only [PV.val, Port.val]
 go_enter Tryz.func121, Tryz.ntmps121
 go_wp2_with fail
 go_loopg [5] ns (fun k i wr => ∃ (j : Nat), j + k = ns ∧ i = .int .i64 j ∧ Hid (readsGo j (p.sigs.drop j) x = reads p x) ∧ PBox wr w.heap.size ⟨ae, ne, ce, aj, nj, cj, as_, ns, cs, al, nl, cl, lv⟩ p ∧ PortBox wr (w.heap.size + 1) x ∧ Below w.heap.size w wr)
 case atStart => exact ⟨0, by omega, rfl, rfl, HB.out, HX.out, hW⟩
 case round =>
  clear hW HB HX
  obtain ⟨j, hk, rfl, hr, hB, hX, hb⟩ := hrel
  have Hk := Lib.hid hk; clear hk
  have HB := Lib.hid hB; have HX := Lib.hid hX
  obtain ⟨_, _, _, c2, _⟩ := hB
  obtain ⟨xl, x0, x1, _⟩ := hX
  by_cases hlt : j < ns
  ·obtain ⟨y, hy⟩ := get_some hl.out hlt
   obtain ⟨pb, off, rfl, hpb, g1, g2, g3, g4⟩ := hs.sigB hb hy
   have Hd := Lib.hid (drop_cons hy); clear hy
   have Hb := Lib.hid hb; clear hb
   by_cases ha : y.at_ = x
   ·have q1 := eql_port (x := y.at_) (y := x) (b := true) (by simpa using ha)
    have Hn := Lib.hid (show reads p x = (j : Int) by rw [← hr.out, Hd.out, readsGo, if_pos ha])
    clear ha
    go_wp2_with fail
    go_quiet (fail)
    go_wp2_with fail
    go_ret
    exact ⟨ret_int Hn.out.symm, below_drewN Hb.out _⟩
   ·have q1 := eql_port (x := y.at_) (y := x) (b := false) (by simpa using ha)
    have Hn := Lib.hid (show readsGo (j + 1) (p.sigs.drop (j + 1)) x = reads p x by rw [← hr.out, Hd.out, readsGo, if_neg ha])
    clear ha
    go_wp2_with fail
    go_quiet (fail)
    go_wp2_with fail
    go_roundg (gk - 1)
    case measure => have := Hk.out; omega
    case rel => exact ⟨j + 1, by have := Hk.out; omega, by go_num, Hn.out, HB.out.drewN _, HX.out.drewN _, below_drewN Hb.out _⟩
  ·have Hb := Lib.hid hb; clear hb
   have Hn := Lib.hid (show reads p x = -1 by rw [← hr.out, drop_end hl.out (by omega)]; rfl)
   go_wp2_with fail
   go_ret
   exact ⟨ret_int Hn.out.symm, Hb.out⟩

theorem mem_drop {α : Type} [DecidableEq α] {l : List α} {x y : α} {j : Nat} (h : l[j]? = some y) : memB x (l.drop j) = (decide (y = x) || memB x (l.drop (j + 1))) := by
 unfold memB; rw [drop_cons h, Bool.eq_iff_iff, Bool.or_eq_true, decide_eq_true_eq, decide_eq_true_eq, decide_eq_true_eq, List.mem_cons, eq_comm (a := x)]
theorem refin_any (w : World) (a : Option Addr) (n c : Nat) (xs : List Int) (h : Ints w a n xs) (m : Int) :
  Calls Tryz.prog 122 #[.slice a n c, .int .i64 m] w fun e w' => e = .returned (.bool (memB m xs)) ∧ w = w' := by
 have hl := Lib.hid h.len
 have hbd := h.bnd
 go_enter Tryz.func122, Tryz.ntmps122
 go_wp2_with fail
 go_loopg [5] n (fun k i wr => ∃ (j : Nat), j + k = n ∧ i = .int .i64 j ∧ Hid (memB m (xs.drop j) = memB m xs) ∧ w = wr)
 case atStart => exact ⟨0, by omega, rfl, rfl, rfl⟩
 case round =>
  obtain ⟨j, hk, rfl, hr, rfl⟩ := hrel
  have Hk := Lib.hid hk; clear hk
  by_cases hlt : j < n
  ·obtain ⟨y, hy⟩ := get_some hl.out hlt
   obtain ⟨pb, off, rfl, hpb, g1⟩ := h.int hy
   have Hd := Lib.hid (mem_drop (x := m) hy); clear hy
   by_cases hm : y = m
   ·have q1 : (y == m) = true := by simpa using hm
    have Hn := Lib.hid (show memB m xs = true by rw [← hr.out, Hd.out]; simp [hm])
    clear hm
    go_wp2_with fail
    go_ret
    exact ⟨ret_bool Hn.out.symm, rfl⟩
   ·have q1 : (y == m) = false := by simpa using hm
    have Hn := Lib.hid (show memB m (xs.drop (j + 1)) = memB m xs by rw [← hr.out, Hd.out]; simp [hm])
    clear hm
    go_wp2_with fail
    go_roundg (gk - 1)
    case measure => have := Hk.out; omega
    case rel => exact ⟨j + 1, by have := Hk.out; omega, by go_num, Hn.out, rfl⟩
  ·have Hn := Lib.hid (show memB m xs = false by rw [← hr.out, drop_end hl.out (by omega)]; rfl)
   go_wp2_with fail
   go_ret
   exact ⟨ret_bool Hn.out.symm, rfl⟩

/-! rows of strings -/
def encStr (x : ByteArray) : List Value := [.string x]
abbrev Strs (w : World) (a : Option Addr) (n : Nat) (xs : List ByteArray) : Prop := Row 1 encStr w a n xs
theorem Row.str {w : World} {a : Option Addr} {n : Nat} {xs : List ByteArray} (h : Row 1 encStr w a n xs) {i : Nat} {x : ByteArray} (hx : xs[i]? = some x) :
  ∃ b off, a = some ⟨b, off, none⟩ ∧ b < w.heap.size ∧ w.cell? ⟨b, off + i, none⟩ = some (.string x) := by
 obtain ⟨b, off, ha, hb, hc⟩ := h.at_ i x hx
 exact ⟨b, off, ha, hb, by simpa using hc 0 _ rfl⟩
theorem flat_strs (xs : List ByteArray) : xs.flatMap encStr = xs.map Value.string := by
 induction xs with
 | nil => rfl
 | cons x r ih => simp [List.flatMap_cons, encStr, ih]
set_option maxHeartbeats 1000000 in
theorem reftwice_any (w : World) (a : Option Addr) (n c : Nat) (xs : List ByteArray) (h : Strs w a n xs) :
  Calls Tryz.prog 64 #[.slice a n c] w fun e w' => e = .returned (.bool (dup xs)) ∧ ∃ q : Nat, w' = w.drewN q := by
 have hl := Lib.hid h.len
 have hbd := h.bnd
 go_enter Tryz.func64, Tryz.ntmps64
 go_wp2_with fail
 go_loopg [3] n (fun k i wr => ∃ (j q : Nat), j + k = n ∧ i = .int .i64 j ∧ Hid (dupGo (xs.take j) (xs.drop j) = dup xs) ∧ wr = w.drewN q)
 case atStart => exact ⟨0, 0, by omega, rfl, rfl, rfl⟩
 case round =>
  obtain ⟨j, q, hk, rfl, hr, rfl⟩ := hrel
  have Hk := Lib.hid hk; clear hk
  by_cases hlt : j < n
  ·obtain ⟨y, hy⟩ := get_some hl.out hlt
   obtain ⟨pb, off, rfl, hpb, g1⟩ := h.str hy
   have Hy := Lib.hid hy; clear hy
   go_wp2_with fail
   go_loopg [4] j (fun k i wr => ∃ (j2 q : Nat), j2 + k = j ∧ i = .int .i64 j2 ∧ Hid (memB y ((xs.take j).drop j2) = memB y (xs.take j)) ∧ wr = w.drewN q)
   case atStart => exact ⟨0, q, by omega, rfl, rfl, rfl⟩
   case round =>
    obtain ⟨j2, q2, hk2, rfl, hr2, rfl⟩ := hrel
    have Hk2 := Lib.hid hk2; clear hk2
    by_cases hlt2 : j2 < j
    ·obtain ⟨z, hz⟩ := get_some hl.out (show j2 < n by omega)
     obtain ⟨pb', off', ha', hpb', g2⟩ := h.str hz
     cases ha'
     have Hd := Lib.hid (mem_drop (x := y) (show (xs.take j)[j2]? = some z by rw [List.getElem?_take, if_pos hlt2]; exact hz)); clear hz
     by_cases hm : y = z
     ·have q1 : (y.toList == z.toList) = true := by rw [str_beq]; simpa using hm
      have Hn := Lib.hid (show dup xs = true from dup_hit Hy.out hr.out (memB_iff.1 (by rw [← hr2.out, Hd.out]; simp [hm])))
      clear hm
      go_wp2_with fail
      go_quiet (fail)
      go_wp2_with fail
      go_ret
      exact ⟨ret_bool Hn.out.symm, _, by first | exact World.drewN_drewN .. | rfl⟩
     ·have q1 : (y.toList == z.toList) = false := by rw [str_beq]; simpa using hm
      have Hn := Lib.hid (show memB y ((xs.take j).drop (j2 + 1)) = memB y (xs.take j) by rw [← hr2.out, Hd.out]; simp [show ¬ z = y from fun e => hm e.symm])
      clear hm
      go_wp2_with fail
      go_quiet (fail)
      go_wp2_with fail
      go_roundg (gk - 1)
      case measure => have := Hk2.out; omega
      case rel => exact ⟨j2 + 1, _, by have := Hk2.out; omega, by go_num, Hn.out, by first | exact World.drewN_drewN .. | rfl⟩
    ·have Hn := Lib.hid (show dupGo (xs.take (j + 1)) (xs.drop (j + 1)) = dup xs from dup_next Hy.out hr.out (fun e => by
      have := memB_iff.2 e
      rw [← hr2.out, List.drop_eq_nil_of_le (by simp; omega)] at this
      simp [memB] at this))
     go_wp2_with fail
     go_roundg (n - j - 1)
     case measure => have := Hk.out; omega
     case rel => exact ⟨j + 1, _, by have := Hk.out; omega, by go_num, Hn.out, rfl⟩
  ·have Hn := Lib.hid (dup_end hr.out (by have := hl.out; omega))
   go_wp2_with fail
   go_ret
   exact ⟨ret_bool Hn.out.symm, q, rfl⟩
end Go.Proofs.YtcaeglnfflkabaaGreat

/- Walk of semaphoreref6.long, and the means for regions that load a plan and call. No condition beyond the plan that is read. -/
set_option maxRecDepth 1000000
namespace Go.Proofs.YtcaeglnfflkabaaGreat
open Go.RowKit Go.Sort

section
variable {w : World} {ae aj as_ al : Option Addr} {ne ce nj cj ns cs nl cl : Nat} {lv : List LineV} {p : Plan}
theorem kindU_l {i : Int} (h : PlanAt w ⟨ae, ne, ce, aj, nj, cj, as_, ns, cs, al, nl, cl, lv⟩ p) : Calls Tryz.prog 120 #[.agg #[.slice ae ne ce, .slice aj nj cj, .slice as_ ns cs, .slice al nl cl, .int .i64 p.top, .int .i64 p.brake, .int .i64 p.margin, .int .i64 p.throw, .bool p.hard], .int .i64 i] w fun e w' => e = .returned (.int .i64 (p.kind i)) ∧ Below w.heap.size w w' := kindU_any w ⟨ae, ne, ce, aj, nj, cj, as_, ns, cs, al, nl, cl, lv⟩ p i h
theorem reflength_l {i : Int} (h : PlanAt w ⟨ae, ne, ce, aj, nj, cj, as_, ns, cs, al, nl, cl, lv⟩ p) : Calls Tryz.prog 125 #[.agg #[.slice ae ne ce, .slice aj nj cj, .slice as_ ns cs, .slice al nl cl, .int .i64 p.top, .int .i64 p.brake, .int .i64 p.margin, .int .i64 p.throw, .bool p.hard], .int .i64 i] w fun e w' => e = .returned (.int .i64 (p.length i)) ∧ Below w.heap.size w w' := reflength_any w ⟨ae, ne, ce, aj, nj, cj, as_, ns, cs, al, nl, cl, lv⟩ p i h
theorem has_l {a b : Int} (h : PlanAt w ⟨ae, ne, ce, aj, nj, cj, as_, ns, cs, al, nl, cl, lv⟩ p) : Calls Tryz.prog 118 #[.agg #[.slice ae ne ce, .slice aj nj cj, .slice as_ ns cs, .slice al nl cl, .int .i64 p.top, .int .i64 p.brake, .int .i64 p.margin, .int .i64 p.throw, .bool p.hard], .agg #[.int .i64 a, .int .i64 b]] w fun e w' => e = .returned (.bool (isPort p ⟨a, b⟩)) ∧ Below w.heap.size w w' := has_any w ⟨ae, ne, ce, aj, nj, cj, as_, ns, cs, al, nl, cl, lv⟩ p ⟨a, b⟩ h
theorem refreads_l {a b : Int} (h : PlanAt w ⟨ae, ne, ce, aj, nj, cj, as_, ns, cs, al, nl, cl, lv⟩ p) : Calls Tryz.prog 121 #[.agg #[.slice ae ne ce, .slice aj nj cj, .slice as_ ns cs, .slice al nl cl, .int .i64 p.top, .int .i64 p.brake, .int .i64 p.margin, .int .i64 p.throw, .bool p.hard], .agg #[.int .i64 a, .int .i64 b]] w fun e w' => e = .returned (.int .i64 (reads p ⟨a, b⟩)) ∧ Below w.heap.size w w' := refreads_any w ⟨ae, ne, ce, aj, nj, cj, as_, ns, cs, al, nl, cl, lv⟩ p ⟨a, b⟩ h
theorem refnext_l {a b : Int} (h : PlanAt w ⟨ae, ne, ce, aj, nj, cj, as_, ns, cs, al, nl, cl, lv⟩ p) : Calls Tryz.prog 119 #[.agg #[.slice ae ne ce, .slice aj nj cj, .slice as_ ns cs, .slice al nl cl, .int .i64 p.top, .int .i64 p.brake, .int .i64 p.margin, .int .i64 p.throw, .bool p.hard], .agg #[.int .i64 a, .int .i64 b]] w fun e w' => e = .returned (.tuple #[.agg #[.int .i64 ((nextOf p ⟨a, b⟩).getD zeroPort).e, .int .i64 ((nextOf p ⟨a, b⟩).getD zeroPort).n], .bool (nextOf p ⟨a, b⟩).isSome]) ∧ Below w.heap.size w w' := refnext_any w ⟨ae, ne, ce, aj, nj, cj, as_, ns, cs, al, nl, cl, lv⟩ p ⟨a, b⟩ h
end

set_option maxHeartbeats 2000000 in
theorem reflong_any (w : World) (pv : PV) (p : Plan) (h : PlanAt w pv p) (hn : numsOk p = true) :
  Calls Tryz.prog 68 #[pv.val p] w fun e w' => e = .returned (.bool (longOk p)) ∧ Below w.heap.size w w' := by
 obtain ⟨ae, ne, ce, aj, nj, cj, as_, ns, cs, al, nl, cl, lv⟩ := pv
 have hP := Lib.hid h
 have he : Elems w ae ne p.elems := h.e
 have hsg : Sigs w as_ ns p.sigs := h.s
 have le := Lib.hid he.len
 have ls := Lib.hid hsg.len
 have be := he.bnd
 have bs := hsg.bnd
 obtain ⟨n1, n2, n3, n4, n5, n6, n7, n8, n9⟩ := (nums_iff le.out).1 hn
 clear hn n9
 obtain ⟨s1, s2⟩ := stop_bd (v := p.top) (b := p.brake)
 have HB := Lib.hid (pbox_new w ⟨ae, ne, ce, aj, nj, cj, as_, ns, cs, al, nl, cl, lv⟩ p)
 clear h
 dsimp only [PV.val]
 by_cases hm : p.margin < p.top + stop p.top p.brake
 ·have Hq := Lib.hid (show longOk p = false by rw [long_eq, show decide (p.top + stop p.top p.brake ≤ p.margin) = false by simp; omega]; rfl)
  go_enter Tryz.func68, Tryz.ntmps68
  go_wp2_with fail
  have hwr : IntKind.i64.wrap (p.top + stop p.top p.brake) = p.top + stop p.top p.brake := IntWalk.i64_in _ (by omega)
  go_quiet ((go_at_call 124; refine Calls.quiet_of_same ((refstop_any _ _ _).mono fun e w' ⟨h1, h2⟩ => ⟨h1, h2.symm⟩)))
  go_wp2_with fail
  go_ret
  exact ⟨ret_bool Hq.out.symm, below_drewN (below_new _ _) _⟩
 ·have Hq := Lib.hid (show longOk p = (p.sigs.all (sigLong p) && p.elems.all (elemLong p)) by rw [long_eq, show decide (p.top + stop p.top p.brake ≤ p.margin) = true by simp; omega]; rfl)
  go_enter Tryz.func68, Tryz.ntmps68
  go_wp2_with fail
  have hwr : IntKind.i64.wrap (p.top + stop p.top p.brake) = p.top + stop p.top p.brake := IntWalk.i64_in _ (by omega)
  go_quiet ((go_at_call 124; refine Calls.quiet_of_same ((refstop_any _ _ _).mono fun e w' ⟨h1, h2⟩ => ⟨h1, h2.symm⟩)))
  clear hwr
  go_wp2_with fail
  clear hm s1 s2 n3 n4
  go_loopg [3] ns (fun k i wr => ∃ (j : Nat), j + k = ns ∧ i = .int .i64 j ∧ Hid ((p.sigs.drop j).all (sigLong p) = p.sigs.all (sigLong p)) ∧ PBox wr w.heap.size ⟨ae, ne, ce, aj, nj, cj, as_, ns, cs, al, nl, cl, lv⟩ p ∧ Below w.heap.size w wr)
  case atStart => exact ⟨0, by omega, rfl, rfl, HB.out.drewN _, below_drewN (below_new _ _) _⟩
  case round =>
   clear HB
   obtain ⟨j, hk, rfl, hr, hB, hb⟩ := hrel
   have Hk := Lib.hid hk; clear hk
   have HB := Lib.hid hB
   obtain ⟨hbl, c0, c1, c2, c3, c4, c5, c6, c7, c8⟩ := hB
   dsimp only at c0 c1 c2 c3
   by_cases hlt : j < ns
   ·obtain ⟨y, hy⟩ := get_some ls.out hlt
    obtain ⟨pb, off, rfl, hpb, g1, g2, g3, g4⟩ := hsg.sigB hb hy
    have Hd := Lib.hid (drop_cons hy)
    clear hy
    have Hb := Lib.hid hb; clear hb
    have HPr := Lib.hid (hP.out.below Hb.out)
    by_cases hk1 : p.kind y.at_.e = 1
    ·have q1 : (p.kind y.at_.e == 1) = true := by simp [hk1]
     by_cases hk2 : p.length y.at_.e < p.margin
     ·have q2 : decide (p.length y.at_.e < p.margin) = true := by simp [hk2]
      have Ho := Lib.hid (show sigLong p y = false by unfold sigLong; simp [hk1, hk2])
      clear hk1 hk2
      go_wp2_with fail
      have c0q := fun d os => cell_regrown c0 d os
      have c1q := fun d os => cell_regrown c1 d os
      have c2q := fun d os => cell_regrown c2 d os
      have c3q := fun d os => cell_regrown c3 d os
      have c4q := fun d os => cell_regrown c4 d os
      have c5q := fun d os => cell_regrown c5 d os
      have c6q := fun d os => cell_regrown c6 d os
      have c7q := fun d os => cell_regrown c7 d os
      have c8q := fun d os => cell_regrown c8 d os
      have cq0 : ∀ d os, Calls Tryz.prog 120 #[.agg #[.slice ae ne ce, .slice aj nj cj, .slice (some ⟨pb, off, none⟩) ns cs, .slice al nl cl, .int .i64 p.top, .int .i64 p.brake, .int .i64 p.margin, .int .i64 p.throw, .bool p.hard], .int .i64 y.at_.e] (grow (redrawn wr d) os) fun e w'' => e = .returned (.int .i64 (p.kind y.at_.e)) ∧ ∃ rg : Regrown, w'' = grow (redrawn wr rg.d) rg.os := fun d os => Calls.regrown_of (kindU_l (HPr.out.below (below_regrown _ d os)))
      have cq1 : ∀ d os, Calls Tryz.prog 125 #[.agg #[.slice ae ne ce, .slice aj nj cj, .slice (some ⟨pb, off, none⟩) ns cs, .slice al nl cl, .int .i64 p.top, .int .i64 p.brake, .int .i64 p.margin, .int .i64 p.throw, .bool p.hard], .int .i64 y.at_.e] (grow (redrawn wr d) os) fun e w'' => e = .returned (.int .i64 (p.length y.at_.e)) ∧ ∃ rg : Regrown, w'' = grow (redrawn wr rg.d) rg.os := fun d os => Calls.regrown_of (reflength_l (HPr.out.below (below_regrown _ d os)))
      refine wp_region_quiet_below (by kernel_rfl) (by kernel_rfl) ?_
      repeat (quiet_step (first | exact cq0 _ _ | exact cq1 _ _))
      refine wpQuiet_nil ?_
      intro w2 hw'
      have hb2 : Below wr.heap.size wr w2 := by obtain ⟨⟨d, os⟩, rfl⟩ := hw'; exact below_regrown _ d os
      clear hw' c0q c1q c2q c3q c4q c5q c6q c7q c8q cq0 cq1
      go_wp2_with fail
      go_ret
      exact ⟨ret_bool (by rw [Hq.out, all_stop Hd.out hr.out Ho.out]; rfl), below_step Hb.out hb2 Hb.out.size⟩
     ·have q2 : decide (p.length y.at_.e < p.margin) = false := by simp; omega
      have Ho := Lib.hid (show sigLong p y = true by unfold sigLong; simp [hk2])
      clear hk1 hk2
      go_wp2_with fail
      have c0q := fun d os => cell_regrown c0 d os
      have c1q := fun d os => cell_regrown c1 d os
      have c2q := fun d os => cell_regrown c2 d os
      have c3q := fun d os => cell_regrown c3 d os
      have c4q := fun d os => cell_regrown c4 d os
      have c5q := fun d os => cell_regrown c5 d os
      have c6q := fun d os => cell_regrown c6 d os
      have c7q := fun d os => cell_regrown c7 d os
      have c8q := fun d os => cell_regrown c8 d os
      have cq0 : ∀ d os, Calls Tryz.prog 120 #[.agg #[.slice ae ne ce, .slice aj nj cj, .slice (some ⟨pb, off, none⟩) ns cs, .slice al nl cl, .int .i64 p.top, .int .i64 p.brake, .int .i64 p.margin, .int .i64 p.throw, .bool p.hard], .int .i64 y.at_.e] (grow (redrawn wr d) os) fun e w'' => e = .returned (.int .i64 (p.kind y.at_.e)) ∧ ∃ rg : Regrown, w'' = grow (redrawn wr rg.d) rg.os := fun d os => Calls.regrown_of (kindU_l (HPr.out.below (below_regrown _ d os)))
      have cq1 : ∀ d os, Calls Tryz.prog 125 #[.agg #[.slice ae ne ce, .slice aj nj cj, .slice (some ⟨pb, off, none⟩) ns cs, .slice al nl cl, .int .i64 p.top, .int .i64 p.brake, .int .i64 p.margin, .int .i64 p.throw, .bool p.hard], .int .i64 y.at_.e] (grow (redrawn wr d) os) fun e w'' => e = .returned (.int .i64 (p.length y.at_.e)) ∧ ∃ rg : Regrown, w'' = grow (redrawn wr rg.d) rg.os := fun d os => Calls.regrown_of (reflength_l (HPr.out.below (below_regrown _ d os)))
      refine wp_region_quiet_below (by kernel_rfl) (by kernel_rfl) ?_
      repeat (quiet_step (first | exact cq0 _ _ | exact cq1 _ _))
      refine wpQuiet_nil ?_
      intro w2 hw'
      have hb2 : Below wr.heap.size wr w2 := by obtain ⟨⟨d, os⟩, rfl⟩ := hw'; exact below_regrown _ d os
      clear hw' c0q c1q c2q c3q c4q c5q c6q c7q c8q cq0 cq1
      go_wp2_with fail
      go_roundg (gk - 1)
      case measure => have := Hk.out; omega
      case rel => exact ⟨j + 1, by have := Hk.out; omega, by go_num, all_step Hd.out hr.out Ho.out, HB.out.below hb2, below_step Hb.out hb2 Hb.out.size⟩
    ·have q1 : (p.kind y.at_.e == 1) = false := by simp [hk1]
     have Ho := Lib.hid (show sigLong p y = true by unfold sigLong; simp [hk1])
     clear hk1
     go_wp2_with fail
     have c0q := fun d os => cell_regrown c0 d os
     have c1q := fun d os => cell_regrown c1 d os
     have c2q := fun d os => cell_regrown c2 d os
     have c3q := fun d os => cell_regrown c3 d os
     have c4q := fun d os => cell_regrown c4 d os
     have c5q := fun d os => cell_regrown c5 d os
     have c6q := fun d os => cell_regrown c6 d os
     have c7q := fun d os => cell_regrown c7 d os
     have c8q := fun d os => cell_regrown c8 d os
     have cq0 : ∀ d os, Calls Tryz.prog 120 #[.agg #[.slice ae ne ce, .slice aj nj cj, .slice (some ⟨pb, off, none⟩) ns cs, .slice al nl cl, .int .i64 p.top, .int .i64 p.brake, .int .i64 p.margin, .int .i64 p.throw, .bool p.hard], .int .i64 y.at_.e] (grow (redrawn wr d) os) fun e w'' => e = .returned (.int .i64 (p.kind y.at_.e)) ∧ ∃ rg : Regrown, w'' = grow (redrawn wr rg.d) rg.os := fun d os => Calls.regrown_of (kindU_l (HPr.out.below (below_regrown _ d os)))
     have cq1 : ∀ d os, Calls Tryz.prog 125 #[.agg #[.slice ae ne ce, .slice aj nj cj, .slice (some ⟨pb, off, none⟩) ns cs, .slice al nl cl, .int .i64 p.top, .int .i64 p.brake, .int .i64 p.margin, .int .i64 p.throw, .bool p.hard], .int .i64 y.at_.e] (grow (redrawn wr d) os) fun e w'' => e = .returned (.int .i64 (p.length y.at_.e)) ∧ ∃ rg : Regrown, w'' = grow (redrawn wr rg.d) rg.os := fun d os => Calls.regrown_of (reflength_l (HPr.out.below (below_regrown _ d os)))
     refine wp_region_quiet_below (by kernel_rfl) (by kernel_rfl) ?_
     repeat (quiet_step (first | exact cq0 _ _ | exact cq1 _ _))
     refine wpQuiet_nil ?_
     intro w2 hw'
     have hb2 : Below wr.heap.size wr w2 := by obtain ⟨⟨d, os⟩, rfl⟩ := hw'; exact below_regrown _ d os
     clear hw' c0q c1q c2q c3q c4q c5q c6q c7q c8q cq0 cq1
     go_wp2_with fail
     go_roundg (gk - 1)
     case measure => have := Hk.out; omega
     case rel => exact ⟨j + 1, by have := Hk.out; omega, by go_num, all_step Hd.out hr.out Ho.out, HB.out.below hb2, below_step Hb.out hb2 Hb.out.size⟩
   ·have Hq2 := Lib.hid (show longOk p = p.elems.all (elemLong p) by rw [Hq.out, all_end ls.out hr.out hlt]; rfl)
    clear hr
    go_wp2_with fail
    go_loopg [5] ne (fun k i wr => ∃ (j : Nat), j + k = ne ∧ i = .int .i64 j ∧ Hid ((p.elems.drop j).all (elemLong p) = p.elems.all (elemLong p)) ∧ PBox wr w.heap.size ⟨ae, ne, ce, aj, nj, cj, as_, ns, cs, al, nl, cl, lv⟩ p ∧ Below w.heap.size w wr)
    case atStart => exact ⟨0, by omega, rfl, rfl, HB.out, hb⟩
    case round =>
     clear HB hb hlt hbl c0 c1 c2 c3 c4 c5 c6 c7 c8
     obtain ⟨j, hk, rfl, hr, hB, hb⟩ := hrel
     have Hk := Lib.hid hk; clear hk
     have HB := Lib.hid hB
     obtain ⟨hbl, c0, _, _, _, c4, _, c6, _⟩ := hB
     dsimp only at c0
     by_cases hlt : j < ne
     ·obtain ⟨y, hy⟩ := get_some le.out hlt
      obtain ⟨pb, off, rfl, hpb, g1, g2, g3⟩ := he.elemB hb hy
      have Hd := Lib.hid (drop_cons hy)
      clear hy
      have Hb := Lib.hid hb; clear hb
      by_cases hk1 : y.kind = 4
      ·have q1 : (y.kind != 4) = false := by simp [hk1]
       have Ho := Lib.hid (elemLong_yes (p := p) (.inl hk1))
       clear hk1
       go_wp2_with fail
       go_quiet (fail)
       go_wp2_with fail
       go_roundg (gk - 1)
       case measure => have := Hk.out; omega
       case rel => exact ⟨j + 1, by have := Hk.out; omega, by go_num, all_step Hd.out hr.out Ho.out, HB.out.below (by repeat (first | with_reducible exact Below.refl _ _ | with_reducible assumption | with_reducible apply below_drewN | with_reducible apply Below.drew | with_reducible refine Below.alloc ?_ (by simp <;> omega) _)), below_step Hb.out (by repeat (first | with_reducible exact Below.refl _ _ | with_reducible assumption | with_reducible apply below_drewN | with_reducible apply Below.drew | with_reducible refine Below.alloc ?_ (by simp <;> omega) _)) Hb.out.size⟩
      ·have q1 : (y.kind != 4) = true := by simp [hk1]
       by_cases hk2 : y.len < p.top
       ·have q2 : decide (y.len < p.top) = true := by simp [hk2]
        have Ho := Lib.hid (elemLong_no hk1 hk2)
        clear hk1 hk2
        go_wp2_with fail
        go_quiet (fail)
        go_wp2_with fail
        go_ret
        exact ⟨ret_bool (by rw [Hq2.out, all_stop Hd.out hr.out Ho.out]), below_step Hb.out (by repeat (first | with_reducible exact Below.refl _ _ | with_reducible assumption | with_reducible apply below_drewN | with_reducible apply Below.drew | with_reducible refine Below.alloc ?_ (by simp <;> omega) _)) Hb.out.size⟩
       ·have q2 : decide (y.len < p.top) = false := by simp; omega
        have Ho := Lib.hid (elemLong_yes (.inr hk2))
        clear hk1 hk2
        go_wp2_with fail
        go_quiet (fail)
        go_wp2_with fail
        go_roundg (gk - 1)
        case measure => have := Hk.out; omega
        case rel => exact ⟨j + 1, by have := Hk.out; omega, by go_num, all_step Hd.out hr.out Ho.out, HB.out.below (by repeat (first | with_reducible exact Below.refl _ _ | with_reducible assumption | with_reducible apply below_drewN | with_reducible apply Below.drew | with_reducible refine Below.alloc ?_ (by simp <;> omega) _)), below_step Hb.out (by repeat (first | with_reducible exact Below.refl _ _ | with_reducible assumption | with_reducible apply below_drewN | with_reducible apply Below.drew | with_reducible refine Below.alloc ?_ (by simp <;> omega) _)) Hb.out.size⟩
     ·have Hq3 := Lib.hid (show longOk p = true by rw [Hq2.out, all_end le.out hr.out hlt])
      clear hr
      go_wp2_with fail
      go_ret
      exact ⟨ret_bool Hq3.out.symm, hb⟩
end Go.Proofs.YtcaeglnfflkabaaGreat
