/- Walks of the methods of net.Net that read one thing: elem, Kind, Length, Len, Signals, At, Plan. Condition: the receiver is a net. -/
import Derived.Test.YtlgekkffekagbaaNetAt
set_option maxRecDepth 1000000
namespace Go.Proofs.Ytlgekkffekagbaa
open Go.ChangeShapes Go.WideShapes Go.ChangeAt Go.RowKit Go.Sort

theorem nlen_any (w : World) (b : Nat) (p : Plan) (h : NetAt w b p) :
    Calls Try.prog 37 #[.pointer (some ⟨b, 0, none⟩)] w fun e w' => e = .returned (.int .i64 (p.elems.length : Int)) ∧ w = w' := by
  obtain ⟨v, bn, br, bl, bd, h⟩ := h
  have c0 := h.blk.cell0
  have Hl := Lib.hid (show p.elems.length = v.ne from h.plan.e.len)
  clear h
  go_enter Try.func37, Try.ntmps37
  go_wp2_with fail
  go_ret
  exact ⟨ret_int (by rw [Hl.out]), rfl⟩
theorem nsignals_any (w : World) (b : Nat) (p : Plan) (h : NetAt w b p) :
    Calls Try.prog 46 #[.pointer (some ⟨b, 0, none⟩)] w fun e w' => e = .returned (.int .i64 (p.sigs.length : Int)) ∧ w = w' := by
  obtain ⟨v, bn, br, bl, bd, h⟩ := h
  have c0 := h.blk.cell2
  have Hl := Lib.hid (show p.sigs.length = v.ns from h.plan.s.len)
  clear h
  go_enter Try.func46, Try.ntmps46
  go_wp2_with fail
  go_ret
  exact ⟨ret_int (by rw [Hl.out]), rfl⟩
theorem elem_val {a b : Elem} (h : a = b) : Ending.returned (.agg #[.string b.name, .int .i64 b.kind, .int .i64 b.len]) = .returned (.agg #[.string a.name, .int .i64 a.kind, .int .i64 a.len]) := by rw [h]
theorem nelem_any (w : World) (b : Nat) (p : Plan) (h : NetAt w b p) (e : Int) :
    Calls Try.prog 39 #[.pointer (some ⟨b, 0, none⟩), .int .i64 e] w fun en w' => en = .returned (.agg #[.string (p.elem e).name, .int .i64 (p.elem e).kind, .int .i64 (p.elem e).len]) ∧ Below w.heap.size w w' := by
  obtain ⟨v, bn, br, bl, bd, h⟩ := h
  have c0 := h.blk.cell0
  have hlt := h.blk.lt
  have he : Elems w v.ae v.ne p.elems := h.plan.e
  have hl : p.elems.length = v.ne := he.len
  have hbd := he.bnd
  by_cases a1 : e < 0
  · have Hs := Lib.hid (elem_out (p := p) (i := e) (.inl a1))
    clear h he hl
    go_enter Try.func39, Try.ntmps39
    go_wp2_with fail
    exact bodyPost_ret (v := .agg #[.string zeroElem.name, .int .i64 0, .int .i64 0]) (by simp [results, Try.results39, go_sem, zeroElem]; rfl) rfl ⟨elem_val Hs.out, (by repeat (first | with_reducible exact Below.refl _ _ | with_reducible assumption | with_reducible exact below_new _ _ | with_reducible apply below_drewN | with_reducible apply Below.drew | with_reducible refine below_set (Nat.le_refl _) ?_ _ | ((with_reducible refine below_set ?_ ?_ _); omega) | with_reducible refine Below.alloc ?_ (by first | omega | (simp; omega) | simp) _))⟩
  by_cases a2 : (v.ne : Int) ≤ e
  · have Hs := Lib.hid (elem_out (p := p) (i := e) (.inr (by omega)))
    clear h he hl
    go_enter Try.func39, Try.ntmps39
    go_wp2_with fail
    exact bodyPost_ret (v := .agg #[.string zeroElem.name, .int .i64 0, .int .i64 0]) (by simp [results, Try.results39, go_sem, zeroElem]; rfl) rfl ⟨elem_val Hs.out, (by repeat (first | with_reducible exact Below.refl _ _ | with_reducible assumption | with_reducible exact below_new _ _ | with_reducible apply below_drewN | with_reducible apply Below.drew | with_reducible refine below_set (Nat.le_refl _) ?_ _ | ((with_reducible refine below_set ?_ ?_ _); omega) | with_reducible refine Below.alloc ?_ (by first | omega | (simp; omega) | simp) _))⟩
  have b1 : 0 ≤ e := by omega
  have b2 : e < v.ne := by omega
  obtain ⟨g, off, y, ha, hb, hy, g1, g2, g3⟩ := he.elemI b1 b2
  have Hs := Lib.hid (show p.elem e = y from elem_get b1 hy)
  have Hy := Lib.hid hy; clear hy hl a1 a2 he h
  rw [ha] at c0
  go_enter Try.func39, Try.ntmps39
  go_wp2_with fail
  exact bodyPost_ret (v := .agg #[.string y.name, .int .i64 y.kind, .int .i64 y.len]) (by simp [results, Try.results39, go_sem]) rfl ⟨elem_val Hs.out, (by repeat (first | with_reducible exact Below.refl _ _ | with_reducible assumption | with_reducible exact below_new _ _ | with_reducible apply below_drewN | with_reducible apply Below.drew | with_reducible refine below_set (Nat.le_refl _) ?_ _ | ((with_reducible refine below_set ?_ ?_ _); omega) | with_reducible refine Below.alloc ?_ (by first | omega | (simp; omega) | simp) _))⟩
theorem run_kind (s : ByteArray) (k l : Int) (w : World) : (Instr.field 74 (.agg #[.string s, .int .i64 k, .int .i64 l]) 1).run Try.prog w = .ok (.int .i64 k) w := by kernel_rfl
theorem run_length (s : ByteArray) (k l : Int) (w : World) : (Instr.field 74 (.agg #[.string s, .int .i64 k, .int .i64 l]) 2).run Try.prog w = .ok (.int .i64 l) w := by kernel_rfl
theorem nkind_any (w : World) (b : Nat) (p : Plan) (h : NetAt w b p) (e : Int) :
    Calls Try.prog 15 #[.pointer (some ⟨b, 0, none⟩), .int .i64 e] w fun en w' => en = .returned (.int .i64 (p.kind e)) ∧ Below w.heap.size w w' := by
  have H := Lib.hid (nelem_any w b p h e)
  clear h
  go_enter Try.func15, Try.ntmps15
  go_wp2_with fail
  refine H.out.mono ?_
  rintro en w1 ⟨rfl, hb⟩
  have hf := run_kind (p.elem e).name (p.elem e).kind (p.elem e).len w1
  go_wp2_with fail
  go_ret
  exact ⟨rfl, hb⟩
theorem opt_none {x : Option Port} (h : x = none) : Ending.returned (.tuple #[.agg #[.int .i64 0, .int .i64 0], .bool false]) = .returned (.tuple #[.agg #[.int .i64 ((x).getD zeroPort).e, .int .i64 ((x).getD zeroPort).n], .bool (x).isSome]) := by rw [h]; rfl
theorem opt_some {x : Option Port} {y : Port} (h : x = some y) : Ending.returned (.tuple #[.agg #[.int .i64 y.e, .int .i64 y.n], .bool true]) = .returned (.tuple #[.agg #[.int .i64 ((x).getD zeroPort).e, .int .i64 ((x).getD zeroPort).n], .bool (x).isSome]) := by rw [h]; rfl
theorem sigAt_none {p : Plan} {s : Int} (h : s < 0 ∨ (p.sigs.length : Int) ≤ s) : sigAt p s = none := by
  unfold sigAt
  split
  · rw [List.getElem?_eq_none (by omega)]; rfl
  · rfl
/-- the copy of the plan -/
def NPlanPost (w : World) (p : Plan) (e : Ending) (w' : World) : Prop := ∃ qv : PV, e = .returned (qv.val p) ∧ PlanAt w' qv p ∧ FewOk qv ∧ Below w.heap.size w w'
theorem lines_low {w : World} {v : PV} {p : Plan} (h : PlanAt w v p) : ∀ x ∈ v.lv, x.n ≠ 0 → ∀ b, x.a = some b → b.block ≠ w.heap.size := by
  intro x hx hn a ha
  have hi := h.l.ints x hx
  have hl := hi.len
  obtain ⟨y, hy⟩ : ∃ y, x.elems[0]? = some y := ⟨_, List.getElem?_eq_getElem (by omega)⟩
  obtain ⟨b', off, hab, hbl, _⟩ := hi.at_ 0 y hy
  rw [ha] at hab
  cases hab
  show b' ≠ _
  omega
theorem nplan_any (w : World) (b : Nat) (p : Plan) (h : NetAt w b p) :
    Calls Try.prog 38 #[.pointer (some ⟨b, 0, none⟩)] w (NPlanPost w p) := by
  obtain ⟨⟨ae, ne, ce, aj, nj, cj, as_, ns, cs, al, nl, cl, lv⟩, bn, br, bl, bd, h⟩ := h
  have hb0 : Below w.heap.size w (w.alloc (.cells (zPV.cells zPlan) 27)) := below_new _ _
  obtain ⟨_, c0, c1, c2, c3, c4, c5, c6, c7, c8⟩ := h.blk.box
  dsimp only at c0 c1 c2 c3
  have hlt := h.blk.lt
  have H := Lib.hid (twin_any _ _ p h.few (h.plan.below hb0))
  have Hlow := Lib.hid (lines_low h.plan)
  have Hf := Lib.hid h.few
  have Hp := Lib.hid h.plan
  have HZ0 := Lib.hid (obox_new w zPV zPlan)
  have Hb0 := Lib.hid hb0
  clear h hb0
  dsimp only [PV.val, PV.cells, zPV, zPlan] at H
  go_enter Try.func38, Try.ntmps38
  go_wp2_with fail
  refine H.out.mono ?_
  rintro e w1 ⟨⟨be, me, fe, bj, mj, fj, bs, ms, fs, bl, ml, fl, lq⟩, rfl, hq, _, hap, hbx⟩
  have HZ1 := Lib.hid (show OBox w1 w.heap.size zPV zPlan from HZ0.out.below hbx)
  have fz := HZ1.out.frozen
  obtain ⟨_, z0, z1, z2, z3, z4, z5, z6, z7, z8⟩ := HZ1.out.box
  dsimp only [zPV, zPlan] at z0 z1 z2 z3 z4 z5 z6 z7 z8
  have Hq := Lib.hid hq
  have Hap := Lib.hid (show PVApart ⟨be, me, fe, bj, mj, fj, bs, ms, fs, bl, ml, fl, lq⟩ w.heap.size from hap w.heap.size (by simp) Hlow.out)
  have Hbx := Lib.hid (show Below w.heap.size w w1 from Hb0.out.trans (hbx.mono Hb0.out.size))
  clear hq hap hbx c0 c1 c2 c3 c4 c5 c6 c7 c8
  dsimp only [PV.val]
  go_wp2_with fail
  refine name_body fun Wf hWf => ?_
  have OZf : OBox Wf w.heap.size ⟨be, me, fe, bj, mj, fj, bs, ms, fs, bl, ml, fl, lq⟩ p := by rw [hWf]; exact obox_filled (v := zPV) (p := zPlan) (v' := ⟨be, me, fe, bj, mj, fj, bs, ms, fs, bl, ml, fl, lq⟩) (p' := p) HZ1.out
  have sf : Below w.heap.size w Wf := by rw [hWf]; repeat (first | with_reducible exact Hbx.out | ((with_reducible refine below_set ?_ ?_ _); omega))
  have hpf : PlanAt Wf ⟨be, me, fe, bj, mj, fj, bs, ms, fs, bl, ml, fl, lq⟩ p := by rw [hWf]; repeat (first | with_reducible exact Hq.out | (with_reducible refine PlanAt.far ?_ Hap.out _ _))
  clear hWf
  obtain ⟨_, x0, x1, x2, x3, x4, x5, x6, x7, x8⟩ := OZf.box
  dsimp only at x0 x1 x2 x3
  exact bodyPost_ret (v := .agg #[.slice be me fe, .slice bj mj fj, .slice bs ms fs, .slice bl ml fl, .int .i64 p.top, .int .i64 p.brake, .int .i64 p.margin, .int .i64 p.throw, .bool p.hard])
    (by simp [results, Try.results38, go_sem, x0, x1, x2, x3, x4, x5, x6, x7, x8]) rfl ⟨⟨be, me, fe, bj, mj, fj, bs, ms, fs, bl, ml, fl, lq⟩, rfl, hpf, few_same Hp.out Hf.out hpf, sf⟩
end Go.Proofs.Ytlgekkffekagbaa
