/- Walks of plan.port and of semaphoreref6's readings of a plan: has, kind, Length, Next, Reads, At. No condition beyond the plan that is read. -/
import Derived.Test.YtcaeglnfflkabaaGreatPlanW1
import Derived.Test.YtcaeglnfflkabaaGreatPure
import Derived.Test.YtcaeglnfflkabaaGreatPlanRow
set_option maxRecDepth 1000000
namespace Go.Proofs.YtcaeglnfflkabaaGreat
open Go.RowKit

theorem below_drewN {B : Nat} {a w : World} (h : Below B a w) (n : Nat) : Below B a (w.drewN n) := ⟨h.os, h.tape, h.output, h.size, h.block⟩
theorem below_set2 {B : Nat} {a w : World} (h : Below B a w) {r : Nat} (hr : B ≤ r) (v0 v1 : Value) : Below B a ((w.setCell ⟨r, 0, none⟩ v0).setCell ⟨r, 1, none⟩ v1) :=
 (h.setCell (p := ⟨r, 0, none⟩) hr v0).setCell (p := ⟨r, 1, none⟩) hr v1
theorem PBox.drewN {w : World} {b : Nat} {v : PV} {p : Plan} (h : PBox w b v p) (n : Nat) : PBox (w.drewN n) b v p := ⟨h.lt, h.c0, h.c1, h.c2, h.c3, h.c4, h.c5, h.c6, h.c7, h.c8⟩
/-- the plan's value, boxed -/
abbrev pobj (pv : PV) (p : Plan) : Obj := .cells #[.slice pv.ae pv.ne pv.ce, .slice pv.aj pv.nj pv.cj, .slice pv.as_ pv.ns pv.cs, .slice pv.al pv.nl pv.cl, .int .i64 p.top, .int .i64 p.brake, .int .i64 p.margin, .int .i64 p.throw, .bool p.hard] 27
theorem pbox_new (w : World) (pv : PV) (p : Plan) : PBox (w.alloc (pobj pv p)) w.heap.size pv p := PBox.mk' w pv p _
theorem below_new (w : World) (o : Obj) : Below w.heap.size w (w.alloc o) := (Below.refl _ _).alloc (Nat.le_refl _) _

theorem below_new2 (w : World) (o1 o2 : Obj) : Below w.heap.size w ((w.alloc o1).alloc o2) := (below_new w _).alloc (by simp) _

theorem elem_get {p : Plan} {i : Int} {x : Elem} (h0 : 0 ≤ i) (hx : p.elems[i.toNat]? = some x) : p.elem i = x := by unfold Plan.elem; rw [if_pos h0]; simp [List.getD, hx]
theorem elem_out {p : Plan} {i : Int} (h : i < 0 ∨ (p.elems.length : Int) ≤ i) : p.elem i = zeroElem := by
 unfold Plan.elem
 split
 ·simp only [List.getD, List.getElem?_eq_none (show p.elems.length ≤ i.toNat by omega)]; rfl
 ·rfl
theorem kind_out {p : Plan} {i : Int} (h : i < 0 ∨ (p.elems.length : Int) ≤ i) : p.kind i = 0 := by unfold Plan.kind; rw [elem_out h]; rfl

theorem Row.elemI {w : World} {a : Option Addr} {n : Nat} {xs : List Elem} (h : Row 3 encElem w a n xs) {i : Int} (h0 : 0 ≤ i) (h1 : i < n) :
  ∃ b off x, a = some ⟨b, off, none⟩ ∧ b < w.heap.size ∧ xs[i.toNat]? = some x ∧ w.cell? ⟨b, off + i.toNat * 3, none⟩ = some (.string x.name) ∧ w.cell? ⟨b, off + i.toNat * 3 + 1, none⟩ = some (.int .i64 x.kind) ∧ w.cell? ⟨b, off + i.toNat * 3 + 2, none⟩ = some (.int .i64 x.len) := by
 obtain ⟨x, hx⟩ := get_some h.len (show i.toNat < n by omega)
 obtain ⟨b, off, ha, hb, g⟩ := h.elem hx
 exact ⟨b, off, x, ha, hb, hx, g⟩

theorem port_any (w : World) (pv : PV) (p : Plan) (x : Port) (h : PlanAt w pv p) :
  Calls Tryz.prog 112 #[pv.val p, x.val] w fun e w' => e = .returned (.bool (isPort p x)) ∧ Below w.heap.size w w' := by
 have hl := h.e.len
 have hbd := h.e.bnd
 unfold PV.val Port.val
 by_cases a1 : x.e < 0
 ·have Hs := Lib.hid (show isPort p x = false by unfold isPort; simp; omega)
  have d1 : decide (0 ≤ x.e) = false := by simp; omega
  clear hl
  go_enter Tryz.func112, Tryz.ntmps112
  go_wp2_with fail
  go_quiet (fail)
  go_wp2_with fail
  go_ret
  exact ⟨ret_bool Hs.out.symm, below_drewN (below_new2 w _ _) _⟩
 have d1 : decide (0 ≤ x.e) = true := by simp; omega
 by_cases a2 : (pv.ne : Int) ≤ x.e
 ·have Hs := Lib.hid (show isPort p x = false by unfold isPort; simp; omega)
  have d2 : decide (x.e < pv.ne) = false := by simp; omega
  clear hl
  go_enter Tryz.func112, Tryz.ntmps112
  go_wp2_with fail
  go_quiet (fail)
  go_wp2_with fail
  go_ret
  exact ⟨ret_bool Hs.out.symm, below_drewN (below_new2 w _ _) _⟩
 have d2 : decide (x.e < pv.ne) = true := by simp; omega
 by_cases a3 : x.n < 0
 ·have Hs := Lib.hid (show isPort p x = false by unfold isPort; simp; omega)
  have d3 : decide (0 ≤ x.n) = false := by simp; omega
  clear hl
  go_enter Tryz.func112, Tryz.ntmps112
  go_wp2_with fail
  go_quiet (fail)
  go_wp2_with fail
  go_ret
  exact ⟨ret_bool Hs.out.symm, below_drewN (below_new2 w _ _) _⟩
 have d3 : decide (0 ≤ x.n) = true := by simp; omega
 have b1 : 0 ≤ x.e := by omega
 have b2 : x.e < pv.ne := by omega
 obtain ⟨b, off, y, ha, hb, hy, g1, g2, g3⟩ := h.e.elemI b1 b2
 have Hs := Lib.hid (show isPort p x = decide (x.n < ends y.kind) by unfold isPort Plan.kind; rw [elem_get b1 hy]; simp; omega)
 have Hy := Lib.hid hy; clear hy hl
 rw [ha]
 go_enter Tryz.func112, Tryz.ntmps112
 go_wp2_with fail
 go_quiet ((go_at_call 111; refine Calls.quiet_of_same ((ends_any _ _).mono fun e w' ⟨h1, h2⟩ => ⟨h1, h2.symm⟩)))
 go_wp2_with fail
 go_ret
 exact ⟨ret_bool Hs.out.symm, below_drewN (below_new2 w _ _) _⟩
theorem has_any (w : World) (pv : PV) (p : Plan) (x : Port) (h : PlanAt w pv p) :
  Calls Tryz.prog 118 #[pv.val p, x.val] w fun e w' => e = .returned (.bool (isPort p x)) ∧ Below w.heap.size w w' := by
 have hl := h.e.len
 have hbd := h.e.bnd
 unfold PV.val Port.val
 by_cases a1 : x.e < 0
 ·have Hs := Lib.hid (show isPort p x = false by unfold isPort; simp; omega)
  have d1 : decide (0 ≤ x.e) = false := by simp; omega
  clear hl
  go_enter Tryz.func118, Tryz.ntmps118
  go_wp2_with fail
  go_quiet (fail)
  go_wp2_with fail
  go_ret
  exact ⟨ret_bool Hs.out.symm, below_drewN (below_new2 w _ _) _⟩
 have d1 : decide (0 ≤ x.e) = true := by simp; omega
 by_cases a2 : (pv.ne : Int) ≤ x.e
 ·have Hs := Lib.hid (show isPort p x = false by unfold isPort; simp; omega)
  have d2 : decide (x.e < pv.ne) = false := by simp; omega
  clear hl
  go_enter Tryz.func118, Tryz.ntmps118
  go_wp2_with fail
  go_quiet (fail)
  go_wp2_with fail
  go_ret
  exact ⟨ret_bool Hs.out.symm, below_drewN (below_new2 w _ _) _⟩
 have d2 : decide (x.e < pv.ne) = true := by simp; omega
 by_cases a3 : x.n < 0
 ·have Hs := Lib.hid (show isPort p x = false by unfold isPort; simp; omega)
  have d3 : decide (0 ≤ x.n) = false := by simp; omega
  clear hl
  go_enter Tryz.func118, Tryz.ntmps118
  go_wp2_with fail
  go_quiet (fail)
  go_wp2_with fail
  go_ret
  exact ⟨ret_bool Hs.out.symm, below_drewN (below_new2 w _ _) _⟩
 have d3 : decide (0 ≤ x.n) = true := by simp; omega
 have b1 : 0 ≤ x.e := by omega
 have b2 : x.e < pv.ne := by omega
 obtain ⟨b, off, y, ha, hb, hy, g1, g2, g3⟩ := h.e.elemI b1 b2
 have Hs := Lib.hid (show isPort p x = decide (x.n < ends y.kind) by unfold isPort Plan.kind; rw [elem_get b1 hy]; simp; omega)
 have Hy := Lib.hid hy; clear hy hl
 rw [ha]
 go_enter Tryz.func118, Tryz.ntmps118
 go_wp2_with fail
 go_quiet ((go_at_call 117; refine Calls.quiet_of_same ((refends_any _ _).mono fun e w' ⟨h1, h2⟩ => ⟨h1, h2.symm⟩)))
 go_wp2_with fail
 go_ret
 exact ⟨ret_bool Hs.out.symm, below_drewN (below_new2 w _ _) _⟩

theorem kindU_any (w : World) (pv : PV) (p : Plan) (i : Int) (h : PlanAt w pv p) :
  Calls Tryz.prog 120 #[pv.val p, .int .i64 i] w fun e w' => e = .returned (.int .i64 (p.kind i)) ∧ Below w.heap.size w w' := by
 have hl := h.e.len
 have hbd := h.e.bnd
 unfold PV.val
 by_cases a1 : i < 0
 ·have Hs := Lib.hid (kind_out (p := p) (.inl a1))
  clear hl
  go_enter Tryz.func120, Tryz.ntmps120
  go_wp2_with fail
  go_ret
  exact ⟨ret_int Hs.out.symm, below_new w _⟩
 by_cases a2 : (pv.ne : Int) ≤ i
 ·have Hs := Lib.hid (kind_out (p := p) (i := i) (.inr (by omega)))
  clear hl
  go_enter Tryz.func120, Tryz.ntmps120
  go_wp2_with fail
  go_ret
  exact ⟨ret_int Hs.out.symm, below_new w _⟩
 have b1 : 0 ≤ i := by omega
 have b2 : i < pv.ne := by omega
 obtain ⟨b, off, y, ha, hb, hy, g1, g2, g3⟩ := h.e.elemI b1 b2
 have Hs := Lib.hid (show p.kind i = y.kind by unfold Plan.kind; rw [elem_get b1 hy])
 have Hy := Lib.hid hy; clear hy hl a1 a2
 rw [ha]
 go_enter Tryz.func120, Tryz.ntmps120
 go_wp2_with fail
 go_ret
 exact ⟨ret_int Hs.out.symm, below_new w _⟩
theorem length_out {p : Plan} {i : Int} (h : i < 0 ∨ (p.elems.length : Int) ≤ i) : p.length i = 0 := by unfold Plan.length; rw [elem_out h]; rfl
theorem reflength_any (w : World) (pv : PV) (p : Plan) (i : Int) (h : PlanAt w pv p) :
  Calls Tryz.prog 125 #[pv.val p, .int .i64 i] w fun e w' => e = .returned (.int .i64 (p.length i)) ∧ Below w.heap.size w w' := by
 have hl := h.e.len
 have hbd := h.e.bnd
 unfold PV.val
 by_cases a1 : i < 0
 ·have Hs := Lib.hid (length_out (p := p) (.inl a1))
  clear hl
  go_enter Tryz.func125, Tryz.ntmps125
  go_wp2_with fail
  go_ret
  exact ⟨ret_int Hs.out.symm, below_new w _⟩
 by_cases a2 : (pv.ne : Int) ≤ i
 ·have Hs := Lib.hid (length_out (p := p) (i := i) (.inr (by omega)))
  clear hl
  go_enter Tryz.func125, Tryz.ntmps125
  go_wp2_with fail
  go_ret
  exact ⟨ret_int Hs.out.symm, below_new w _⟩
 have b1 : 0 ≤ i := by omega
 have b2 : i < pv.ne := by omega
 obtain ⟨b, off, y, ha, hb, hy, g1, g2, g3⟩ := h.e.elemI b1 b2
 have Hs := Lib.hid (show p.length i = y.len by unfold Plan.length; rw [elem_get b1 hy])
 have Hy := Lib.hid hy; clear hy hl a1 a2
 rw [ha]
 go_enter Tryz.func125, Tryz.ntmps125
 go_wp2_with fail
 go_ret
 exact ⟨ret_int Hs.out.symm, below_new w _⟩

/-- a port in a block of its own -/
structure PortBox (w : World) (b : Nat) (x : Port) : Prop where
 lt : b < w.heap.size
 x0 : w.cell? ⟨b, 0, none⟩ = some (.int .i64 x.e)
 x1 : w.cell? ⟨b, 1, none⟩ = some (.int .i64 x.n)
 f0 : w.frozen? ⟨b, 0, none⟩ = false
 f1 : w.frozen? ⟨b, 1, none⟩ = false
theorem PortBox.below {w w' : World} {b : Nat} {x : Port} (h : PortBox w b x) (hb : Below w.heap.size w w') : PortBox w' b x :=
 ⟨Nat.lt_of_lt_of_le h.lt hb.size, (hb.cell (p := ⟨b, 0, none⟩) h.lt).trans h.x0, (hb.cell (p := ⟨b, 1, none⟩) h.lt).trans h.x1, (hb.frozen (p := ⟨b, 0, none⟩) h.lt).trans h.f0, (hb.frozen (p := ⟨b, 1, none⟩) h.lt).trans h.f1⟩
theorem PortBox.new (w : World) {b : Nat} (hw : w.heap.size = b) (x : Port) (T : TypeId) : PortBox (w.alloc (.cells #[.int .i64 x.e, .int .i64 x.n] T)) b x := by
 subst hw
 refine ⟨by simp, ?_, ?_, ?_, ?_⟩ <;> go_simp
theorem PortBox.drewN {w : World} {b : Nat} {x : Port} (h : PortBox w b x) (n : Nat) : PortBox (w.drewN n) b x := ⟨h.lt, h.x0, h.x1, h.f0, h.f1⟩
theorem zbox_new (w : World) {b : Nat} (hw : w.heap.size = b) (T : TypeId) : PortBox (w.alloc (.cells #[.int .i64 0, .int .i64 0] T)) b zeroPort := PortBox.new w hw zeroPort T
theorem Row.joinB {w wr : World} {a : Option Addr} {n : Nat} {xs : List Join} (h : Row 4 encJoin w a n xs) (hbw : Below w.heap.size w wr) {i : Nat} {x : Join} (hx : xs[i]? = some x) :
  ∃ b off, a = some ⟨b, off, none⟩ ∧ b < w.heap.size ∧ wr.cell? ⟨b, off + i * 4, none⟩ = some (.int .i64 x.a.e) ∧ wr.cell? ⟨b, off + i * 4 + 1, none⟩ = some (.int .i64 x.a.n) ∧ wr.cell? ⟨b, off + i * 4 + 2, none⟩ = some (.int .i64 x.b.e) ∧ wr.cell? ⟨b, off + i * 4 + 3, none⟩ = some (.int .i64 x.b.n) := by
 obtain ⟨b, off, ha, hb, g⟩ := (h.below hbw).join hx
 obtain ⟨b', off', ha', hb', _⟩ := h.join hx
 rw [ha] at ha'; cases ha'
 exact ⟨b, off, ha, hb', g⟩

theorem refnext_any (w : World) (pv : PV) (p : Plan) (x : Port) (h : PlanAt w pv p) :
  Calls Tryz.prog 119 #[pv.val p, x.val] w fun e w' => e = .returned (.tuple #[((nextOf p x).getD zeroPort).val, .bool (nextOf p x).isSome]) ∧ Below w.heap.size w w' := by
 obtain ⟨ae, ne, ce, aj, nj, cj, as_, ns, cs, al, nl, cl, lv⟩ := pv
 have hj : Joins w aj nj p.joins := h.j
 have hl := Lib.hid hj.len
 have hbd := hj.bnd
 have hW : Below w.heap.size w (((w.alloc (.cells #[.slice ae ne ce, .slice aj nj cj, .slice as_ ns cs, .slice al nl cl, .int .i64 p.top, .int .i64 p.brake, .int .i64 p.margin, .int .i64 p.throw, .bool p.hard] 27)).alloc (.cells #[.int .i64 x.e, .int .i64 x.n] 43)).alloc (.cells #[.int .i64 0, .int .i64 0] 43)) := (below_new2 w _ _).alloc (by simp <;> omega) _
 have hB := ((pbox_new w ⟨ae, ne, ce, aj, nj, cj, as_, ns, cs, al, nl, cl, lv⟩ p).below (below_new _ (.cells #[.int .i64 x.e, .int .i64 x.n] 43))).below (below_new _ (.cells #[.int .i64 0, .int .i64 0] 43))
 have hX := (PortBox.new (w.alloc (.cells #[.slice ae ne ce, .slice aj nj cj, .slice as_ ns cs, .slice al nl cl, .int .i64 p.top, .int .i64 p.brake, .int .i64 p.margin, .int .i64 p.throw, .bool p.hard] 27)) (b := w.heap.size + 1) (by simp) x 43).below (below_new _ (.cells #[.int .i64 0, .int .i64 0] 43))
 have hZ := zbox_new ((w.alloc (.cells #[.slice ae ne ce, .slice aj nj cj, .slice as_ ns cs, .slice al nl cl, .int .i64 p.top, .int .i64 p.brake, .int .i64 p.margin, .int .i64 p.throw, .bool p.hard] 27)).alloc (.cells #[.int .i64 x.e, .int .i64 x.n] 43)) (b := w.heap.size + 1 + 1) (by simp) 43
 have HB := Lib.hid hB; have HX := Lib.hid hX; have HZ := Lib.hid hZ; clear hB hX hZ
 dsimp only [PV.val, Port.val]
 go_enter Tryz.func119, Tryz.ntmps119
 go_wp2_with fail
 go_loopg [6] nj (fun k i wr => ∃ (j : Nat), j + k = nj ∧ i = .int .i64 j ∧ Hid (nextIn (p.joins.drop j) x = nextOf p x) ∧ PBox wr w.heap.size ⟨ae, ne, ce, aj, nj, cj, as_, ns, cs, al, nl, cl, lv⟩ p ∧ PortBox wr (w.heap.size + 1) x ∧ PortBox wr (w.heap.size + 1 + 1) zeroPort ∧ Below w.heap.size w wr)
 case atStart => exact ⟨0, by omega, rfl, rfl, HB.out, HX.out, HZ.out, hW⟩
 case round =>
  clear hW HB HX HZ
  obtain ⟨j, hk, rfl, hr, hB, hX, hZ, hb⟩ := hrel
  have Hk := Lib.hid hk; clear hk
  have HB := Lib.hid hB; have HX := Lib.hid hX; have HZ := Lib.hid hZ
  obtain ⟨_, _, c1, _⟩ := hB
  obtain ⟨xl, x0, x1, _⟩ := hX
  obtain ⟨zl, z0, z1, zf0, zf1⟩ := hZ
  by_cases hlt : j < nj
  ·obtain ⟨y, hy⟩ := get_some hl.out hlt
   obtain ⟨pb, off, rfl, hpb, g1, g2, g3, g4⟩ := hj.joinB hb hy
   have Hd := Lib.hid (drop_cons hy); clear hy
   have Hb := Lib.hid hb; clear hb
   by_cases ha : y.a = x
   ·have q1 := eql_port (x := y.a) (y := x) (b := true) (by simpa using ha)
    have Hn := Lib.hid (show nextOf p x = some y.b by rw [← hr.out, Hd.out, nextIn, if_pos ha])
    clear ha
    go_wp2_with fail
    go_quiet (fail)
    go_wp2_with fail
    exact bodyPost_ret (v := .tuple #[.agg #[.int .i64 y.b.e, .int .i64 y.b.n], .bool true]) (by simp [results, Tryz.results119, go_sem, z0, z1]) rfl ⟨by rw [Hn.out]; rfl, below_set2 (below_drewN Hb.out _) (by omega) _ _⟩
   ·have q1 := eql_port (x := y.a) (y := x) (b := false) (by simpa using ha)
    by_cases ha2 : y.b = x
    ·have q2 := eql_port (x := y.b) (y := x) (b := true) (by simpa using ha2)
     have Hn := Lib.hid (show nextOf p x = some y.a by rw [← hr.out, Hd.out, nextIn, if_neg ha, if_pos ha2])
     clear ha ha2
     go_wp2_with fail
     go_quiet (fail)
     go_wp2_with fail
     go_quiet (fail)
     go_wp2_with fail
     exact bodyPost_ret (v := .tuple #[.agg #[.int .i64 y.a.e, .int .i64 y.a.n], .bool true]) (by simp [results, Tryz.results119, go_sem, z0, z1]) rfl ⟨by rw [Hn.out]; rfl, below_set2 (below_drewN Hb.out _) (by omega) _ _⟩
    ·have q2 := eql_port (x := y.b) (y := x) (b := false) (by simpa using ha2)
     have Hn := Lib.hid (show nextIn (p.joins.drop (j + 1)) x = nextOf p x by rw [← hr.out, Hd.out, nextIn, if_neg ha, if_neg ha2])
     clear ha ha2
     go_wp2_with fail
     go_quiet (fail)
     go_wp2_with fail
     go_quiet (fail)
     go_wp2_with fail
     go_roundg (gk - 1)
     case measure => have := Hk.out; omega
     case rel => exact ⟨j + 1, by have := Hk.out; omega, by go_num, Hn.out, HB.out.drewN _, HX.out.drewN _, HZ.out.drewN _, below_drewN Hb.out _⟩
  ·have Hb := Lib.hid hb; clear hb
   have Hn := Lib.hid (show nextOf p x = none by rw [← hr.out, drop_end hl.out (by omega)]; rfl)
   go_wp2_with fail
   exact bodyPost_ret (v := .tuple #[.agg #[.int .i64 0, .int .i64 0], .bool false]) (by simp [results, Tryz.results119, go_sem, z0, z1]) rfl ⟨by rw [Hn.out]; rfl, below_set2 Hb.out (by omega) _ _⟩
end Go.Proofs.YtcaeglnfflkabaaGreat
