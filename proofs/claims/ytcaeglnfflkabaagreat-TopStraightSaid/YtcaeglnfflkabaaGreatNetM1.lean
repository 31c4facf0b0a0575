/- Walks of the methods of net.Net that read one thing: elem, Kind, Length, Len, Signals, At, Plan. Condition: the receiver is a net. -/
import Derived.Test.YtcaeglnfflkabaaGreatNetAt
import Derived.Test.YtcaeglnfflkabaaGreatRefC7
set_option maxRecDepth 1000000
namespace Go.Proofs.YtcaeglnfflkabaaGreat
open Go.ChangeShapes Go.WideShapes Go.ChangeAt Go.RowKit Go.Sort

theorem nsignals_any (w : World) (b : Nat) (p : Plan) (h : NetAt w b p) :
  Calls Tryz.prog 44 #[.pointer (some ⟨b, 0, none⟩)] w fun e w' => e = .returned (.int .i64 (p.sigs.length : Int)) ∧ w = w' := by
 obtain ⟨v, bn, br, bl, bd, h⟩ := h
 have c0 := h.blk.cell2
 have Hl := Lib.hid (show p.sigs.length = v.ns from h.plan.s.len)
 clear h
 go_enter Tryz.func44, Tryz.ntmps44
 go_wp2_with fail
 go_ret
 exact ⟨ret_int (by rw [Hl.out]), rfl⟩
theorem elem_val {a b : Elem} (h : a = b) : Ending.returned (.agg #[.string b.name, .int .i64 b.kind, .int .i64 b.len]) = .returned (.agg #[.string a.name, .int .i64 a.kind, .int .i64 a.len]) := by rw [h]
theorem nelem_any (w : World) (b : Nat) (p : Plan) (h : NetAt w b p) (e : Int) :
  Calls Tryz.prog 134 #[.pointer (some ⟨b, 0, none⟩), .int .i64 e] w fun en w' => en = .returned (.agg #[.string (p.elem e).name, .int .i64 (p.elem e).kind, .int .i64 (p.elem e).len]) ∧ Below w.heap.size w w' := by
 obtain ⟨v, bn, br, bl, bd, h⟩ := h
 have c0 := h.blk.cell0
 have hlt := h.blk.lt
 have he : Elems w v.ae v.ne p.elems := h.plan.e
 have hl : p.elems.length = v.ne := he.len
 have hbd := he.bnd
 by_cases a1 : e < 0
 ·have Hs := Lib.hid (elem_out (p := p) (i := e) (.inl a1))
  clear h he hl
  go_enter Tryz.func134, Tryz.ntmps134
  go_wp2_with fail
  exact bodyPost_ret (v := .agg #[.string zeroElem.name, .int .i64 0, .int .i64 0]) (by simp [results, Tryz.results134, go_sem, zeroElem]; rfl) rfl ⟨elem_val Hs.out, (by with_reducible repeat (first | exact Below.refl _ _ | assumption | exact below_new _ _ | apply below_drewN | apply Below.drew | refine below_set (Nat.le_refl _) ?_ _ | (refine below_set ?_ ?_ _; omega) | refine Below.alloc ?_ (by first | omega | (simp; omega) | simp) _))⟩
 by_cases a2 : (v.ne : Int) ≤ e
 ·have Hs := Lib.hid (elem_out (p := p) (i := e) (.inr (by omega)))
  clear h he hl
  go_enter Tryz.func134, Tryz.ntmps134
  go_wp2_with fail
  exact bodyPost_ret (v := .agg #[.string zeroElem.name, .int .i64 0, .int .i64 0]) (by simp [results, Tryz.results134, go_sem, zeroElem]; rfl) rfl ⟨elem_val Hs.out, (by with_reducible repeat (first | exact Below.refl _ _ | assumption | exact below_new _ _ | apply below_drewN | apply Below.drew | refine below_set (Nat.le_refl _) ?_ _ | (refine below_set ?_ ?_ _; omega) | refine Below.alloc ?_ (by first | omega | (simp; omega) | simp) _))⟩
 have b1 : 0 ≤ e := by omega
 have b2 : e < v.ne := by omega
 obtain ⟨g, off, y, ha, hb, hy, g1, g2, g3⟩ := he.elemI b1 b2
 have Hs := Lib.hid (show p.elem e = y from elem_get b1 hy)
 have Hy := Lib.hid hy; clear hy hl a1 a2 he h
 rw [ha] at c0
 go_enter Tryz.func134, Tryz.ntmps134
 go_wp2_with fail
 exact bodyPost_ret (v := .agg #[.string y.name, .int .i64 y.kind, .int .i64 y.len]) (by simp [results, Tryz.results134, go_sem]) rfl ⟨elem_val Hs.out, (by with_reducible repeat (first | exact Below.refl _ _ | assumption | exact below_new _ _ | apply below_drewN | apply Below.drew | refine below_set (Nat.le_refl _) ?_ _ | (refine below_set ?_ ?_ _; omega) | refine Below.alloc ?_ (by first | omega | (simp; omega) | simp) _))⟩
theorem run_kind (s : ByteArray) (k l : Int) (w : World) : (Instr.field 65 (.agg #[.string s, .int .i64 k, .int .i64 l]) 1).run Tryz.prog w = .ok (.int .i64 k) w := by kernel_rfl
theorem nkind_any (w : World) (b : Nat) (p : Plan) (h : NetAt w b p) (e : Int) :
  Calls Tryz.prog 77 #[.pointer (some ⟨b, 0, none⟩), .int .i64 e] w fun en w' => en = .returned (.int .i64 (p.kind e)) ∧ Below w.heap.size w w' := by
 have H := Lib.hid (nelem_any w b p h e)
 clear h
 go_enter Tryz.func77, Tryz.ntmps77
 go_wp2_with fail
 refine H.out.mono ?_
 rintro en w1 ⟨rfl, hb⟩
 have hf := run_kind (p.elem e).name (p.elem e).kind (p.elem e).len w1
 go_wp2_with fail
 go_ret
 exact ⟨rfl, hb⟩
theorem opt_none {x : Option Port} (h : x = none) : Ending.returned (.tuple #[.agg #[.int .i64 0, .int .i64 0], .bool false]) = .returned (.tuple #[.agg #[.int .i64 ((x).getD zeroPort).e, .int .i64 ((x).getD zeroPort).n], .bool (x).isSome]) := by rw [h]; rfl
theorem opt_some {x : Option Port} {y : Port} (h : x = some y) : Ending.returned (.tuple #[.agg #[.int .i64 y.e, .int .i64 y.n], .bool true]) = .returned (.tuple #[.agg #[.int .i64 ((x).getD zeroPort).e, .int .i64 ((x).getD zeroPort).n], .bool (x).isSome]) := by rw [h]; rfl
theorem sigAt_none {p : Plan} {s : Int} (h : s < 0 ∨ (p.sigs.length : Int) ≤ s) : sigAt p s = none := by
 unfold sigAt
 split
 ·rw [List.getElem?_eq_none (by omega)]; rfl
 ·rfl
theorem nat_any (w : World) (b : Nat) (p : Plan) (h : NetAt w b p) (s : Int) :
  Calls Tryz.prog 126 #[.pointer (some ⟨b, 0, none⟩), .int .i64 s] w fun en w' => en = .returned (.tuple #[.agg #[.int .i64 ((sigAt p s).getD zeroPort).e, .int .i64 ((sigAt p s).getD zeroPort).n], .bool (sigAt p s).isSome]) ∧ Below w.heap.size w w' := by
 obtain ⟨v, bn, br, bl, bd, h⟩ := h
 have c0 := h.blk.cell2
 have hlt := h.blk.lt
 have he : Sigs w v.as_ v.ns p.sigs := h.plan.s
 have hl : p.sigs.length = v.ns := he.len
 have hbd := he.bnd
 by_cases a1 : s < 0
 ·have Hs := Lib.hid (sigAt_none (p := p) (s := s) (.inl a1))
  clear h he hl
  go_enter Tryz.func126, Tryz.ntmps126
  go_wp2_with fail
  exact bodyPost_ret (v := .tuple #[.agg #[.int .i64 0, .int .i64 0], .bool false]) (by simp [results, Tryz.results126, go_sem]) rfl ⟨opt_none Hs.out, (by with_reducible repeat (first | exact Below.refl _ _ | assumption | exact below_new _ _ | apply below_drewN | apply Below.drew | refine below_set (Nat.le_refl _) ?_ _ | (refine below_set ?_ ?_ _; omega) | refine Below.alloc ?_ (by first | omega | (simp; omega) | simp) _))⟩
 by_cases a2 : (v.ns : Int) ≤ s
 ·have Hs := Lib.hid (sigAt_none (p := p) (s := s) (.inr (by omega)))
  clear h he hl
  go_enter Tryz.func126, Tryz.ntmps126
  go_wp2_with fail
  exact bodyPost_ret (v := .tuple #[.agg #[.int .i64 0, .int .i64 0], .bool false]) (by simp [results, Tryz.results126, go_sem]) rfl ⟨opt_none Hs.out, (by with_reducible repeat (first | exact Below.refl _ _ | assumption | exact below_new _ _ | apply below_drewN | apply Below.drew | refine below_set (Nat.le_refl _) ?_ _ | (refine below_set ?_ ?_ _; omega) | refine Below.alloc ?_ (by first | omega | (simp; omega) | simp) _))⟩
 have b1 : 0 ≤ s := by omega
 have b2 : s < v.ns := by omega
 obtain ⟨y, hy⟩ := get_some hl (show s.toNat < v.ns by omega)
 obtain ⟨g, off, ha, hb, g1, g2, g3, g4⟩ := he.sig hy
 have Hs := Lib.hid (show sigAt p s = some y.at_ by unfold sigAt; rw [if_pos b1, hy]; rfl)
 have Hy := Lib.hid hy; clear hy hl a1 a2 he h
 rw [ha] at c0
 go_enter Tryz.func126, Tryz.ntmps126
 go_wp2_with fail
 exact bodyPost_ret (v := .tuple #[.agg #[.int .i64 y.at_.e, .int .i64 y.at_.n], .bool true]) (by simp [results, Tryz.results126, go_sem]) rfl ⟨opt_some Hs.out, (by with_reducible repeat (first | exact Below.refl _ _ | assumption | exact below_new _ _ | apply below_drewN | apply Below.drew | refine below_set (Nat.le_refl _) ?_ _ | (refine below_set ?_ ?_ _; omega) | refine Below.alloc ?_ (by first | omega | (simp; omega) | simp) _))⟩
/-- the copy of the plan -/
def NPlanPost (w : World) (p : Plan) (e : Ending) (w' : World) : Prop := ∃ qv : PV, e = .returned (qv.val p) ∧ PlanAt w' qv p ∧ FewOk qv ∧ Below w.heap.size w w'
theorem lines_low {w : World} {v : PV} {p : Plan} (h : PlanAt w v p) : ∀ x ∈ v.lv, x.n ≠ 0 → ∀ b, x.a = some b → b.block ≠ w.heap.size := by
 intro x hx hn a ha
 have hi := h.l.ints x hx
 have hl := hi.len
 obtain ⟨y, hy⟩ : ∃ y, x.elems[0]? = some y := ⟨_, List.getElem?_eq_getElem (by omega)⟩
 obtain ⟨b', off, hab, hbl, _⟩ := hi.at_ 0 y hy
 rw [ha] at hab
 cases hab
 show b' ≠ _
 omega
theorem nplan_any (w : World) (b : Nat) (p : Plan) (h : NetAt w b p) :
  Calls Tryz.prog 30 #[.pointer (some ⟨b, 0, none⟩)] w (NPlanPost w p) := by
 obtain ⟨⟨ae, ne, ce, aj, nj, cj, as_, ns, cs, al, nl, cl, lv⟩, bn, br, bl, bd, h⟩ := h
 have hb0 : Below w.heap.size w (w.alloc (.cells (zPV.cells zPlan) 27)) := below_new _ _
 obtain ⟨_, c0, c1, c2, c3, c4, c5, c6, c7, c8⟩ := h.blk.box
 dsimp only at c0 c1 c2 c3
 have hlt := h.blk.lt
 have H := Lib.hid (twin_any _ _ p h.few (h.plan.below hb0))
 have Hlow := Lib.hid (lines_low h.plan)
 have Hf := Lib.hid h.few
 have Hp := Lib.hid h.plan
 have HZ0 := Lib.hid (obox_new w zPV zPlan)
 have Hb0 := Lib.hid hb0
 clear h hb0
 dsimp only [PV.val, PV.cells, zPV, zPlan] at H
 go_enter Tryz.func30, Tryz.ntmps30
 go_wp2_with fail
 refine H.out.mono ?_
 rintro e w1 ⟨⟨be, me, fe, bj, mj, fj, bs, ms, fs, bl, ml, fl, lq⟩, rfl, hq, _, hap, hbx⟩
 have HZ1 := Lib.hid (show OBox w1 w.heap.size zPV zPlan from HZ0.out.below hbx)
 have fz := HZ1.out.frozen
 obtain ⟨_, z0, z1, z2, z3, z4, z5, z6, z7, z8⟩ := HZ1.out.box
 dsimp only [zPV, zPlan] at z0 z1 z2 z3 z4 z5 z6 z7 z8
 have Hq := Lib.hid hq
 have Hap := Lib.hid (show PVApart ⟨be, me, fe, bj, mj, fj, bs, ms, fs, bl, ml, fl, lq⟩ w.heap.size from hap w.heap.size (by simp) Hlow.out)
 have Hbx := Lib.hid (show Below w.heap.size w w1 from Hb0.out.trans (hbx.mono Hb0.out.size))
 clear hq hap hbx c0 c1 c2 c3 c4 c5 c6 c7 c8
 dsimp only [PV.val]
 go_wp2_with fail
 refine name_body fun Wf hWf => ?_
 have OZf : OBox Wf w.heap.size ⟨be, me, fe, bj, mj, fj, bs, ms, fs, bl, ml, fl, lq⟩ p := by rw [hWf]; exact obox_filled (v := zPV) (p := zPlan) (v' := ⟨be, me, fe, bj, mj, fj, bs, ms, fs, bl, ml, fl, lq⟩) (p' := p) HZ1.out
 have sf : Below w.heap.size w Wf := by rw [hWf]; repeat (first | with_reducible exact Hbx.out | ((with_reducible refine below_set ?_ ?_ _); omega))
 have hpf : PlanAt Wf ⟨be, me, fe, bj, mj, fj, bs, ms, fs, bl, ml, fl, lq⟩ p := by rw [hWf]; repeat (first | with_reducible exact Hq.out | (with_reducible refine PlanAt.far ?_ Hap.out _ _))
 clear hWf
 obtain ⟨_, x0, x1, x2, x3, x4, x5, x6, x7, x8⟩ := OZf.box
 dsimp only at x0 x1 x2 x3
 exact bodyPost_ret (v := .agg #[.slice be me fe, .slice bj mj fj, .slice bs ms fs, .slice bl ml fl, .int .i64 p.top, .int .i64 p.brake, .int .i64 p.margin, .int .i64 p.throw, .bool p.hard])
  (by simp [results, Tryz.results30, go_sem, x0, x1, x2, x3, x4, x5, x6, x7, x8]) rfl ⟨⟨be, me, fe, bj, mj, fj, bs, ms, fs, bl, ml, fl, lq⟩, rfl, hpf, few_same Hp.out Hf.out hpf, sf⟩
end Go.Proofs.YtcaeglnfflkabaaGreat

/- Walks of the methods Outs, Through, From of net.Net and of semaphoreref6.Outs, Through, From, At. Condition: the receiver is a net; the plan is read. -/
set_option maxRecDepth 1000000
namespace Go.Proofs.YtcaeglnfflkabaaGreat
open Go.ChangeShapes Go.WideShapes Go.ChangeAt Go.RowKit Go.Sort

def encWay (x : Way) : List Value := [.int .i64 x.out, .int .i64 x.pos]
def OutsPost (w : World) (l : List Way) (e : Ending) (w' : World) : Prop := ∃ a n c, e = .returned (.slice a n c) ∧ Row 2 encWay w' a n l ∧ ((n ≤ 2 ∧ n ≤ c) ∧ ∀ k, a.map (·.block) = some k → w.heap.size ≤ k) ∧ Below w.heap.size w w'
theorem Row.way {w : World} {a : Option Addr} {n : Nat} {xs : List Way} (h : Row 2 encWay w a n xs) {i : Nat} {x : Way} (hx : xs[i]? = some x) :
  ∃ b off, a = some ⟨b, off, none⟩ ∧ b < w.heap.size ∧ w.cell? ⟨b, off + i * 2, none⟩ = some (.int .i64 x.out) ∧ w.cell? ⟨b, off + i * 2 + 1, none⟩ = some (.int .i64 x.pos) := by
 obtain ⟨b, off, ha, hb, hc⟩ := h.at_ i x hx
 exact ⟨b, off, ha, hb, by simpa using hc 0 _ rfl, by simpa using hc 1 _ rfl⟩
theorem ways_nil {w w' : World} {l : List Way} (h : l = []) (hb : Below w.heap.size w w') : OutsPost w l (.returned (.slice none 0 0)) w' := by
 subst h; exact ⟨none, 0, 0, rfl, Row.nil _ _, ⟨by omega, fun k hk => by cases hk⟩, hb⟩
theorem ways_one {w w' : World} {l : List Way} {x y : Int} {g : Nat} {T : TypeId} (h : l = [⟨x, y⟩]) (hg : w'.heap[g]? = some (.cells #[.int .i64 x, .int .i64 y] T)) (hb : Below w.heap.size w w') (hfr : w.heap.size ≤ g) : OutsPost w l (.returned (.slice (some ⟨g, 0, none⟩) 1 1)) w' := by
 subst h
 refine ⟨_, 1, 1, rfl, ⟨rfl, by omega, fun i z hz => ⟨g, 0, rfl, (Array.getElem?_eq_some_iff.1 hg).1, fun k v hv => ?_⟩⟩, ⟨by omega, fun k hk => by cases hk; exact hfr⟩, hb⟩
 rw [cell_of_row w' g _ _ _ (0, 0) hg]
 match i, hz with
 | 0, hz =>
  simp at hz; subst hz
  match k, hv with
  | 0, hv => simpa [encWay] using hv
  | 1, hv => simpa [encWay] using hv
 | i + 1, hz => simp at hz
theorem ways_two {w w' : World} {l : List Way} {x y u v : Int} {g : Nat} {T : TypeId} (h : l = [⟨x, y⟩, ⟨u, v⟩]) (hg : w'.heap[g]? = some (.cells #[.int .i64 x, .int .i64 y, .int .i64 u, .int .i64 v] T)) (hb : Below w.heap.size w w') (hfr : w.heap.size ≤ g) : OutsPost w l (.returned (.slice (some ⟨g, 0, none⟩) 2 2)) w' := by
 subst h
 refine ⟨_, 2, 2, rfl, ⟨rfl, by omega, fun i z hz => ⟨g, 0, rfl, (Array.getElem?_eq_some_iff.1 hg).1, fun k t ht => ?_⟩⟩, ⟨by omega, fun k hk => by cases hk; exact hfr⟩, hb⟩
 rw [cell_of_row w' g _ _ _ (0, 0) hg]
 match i, hz with
 | 0, hz =>
  simp at hz; subst hz
  match k, ht with
  | 0, ht => simpa [encWay] using ht
  | 1, ht => simpa [encWay] using ht
 | 1, hz =>
  simp at hz; subst hz
  match k, ht with
  | 0, ht => simpa [encWay] using ht
  | 1, ht => simpa [encWay] using ht
 | i + 2, hz => simp at hz
set_option maxHeartbeats 2000000 in
theorem nouts_any (w : World) (b : Nat) (p : Plan) (h : NetAt w b p) (e i : Int) :
  Calls Tryz.prog 167 #[.pointer (some ⟨b, 0, none⟩), .int .i64 e, .int .i64 i] w (OutsPost w (outs p e i)) := by
 by_cases a1 : i < 0
 ·have Hs := Lib.hid (show outs p e i = [] by unfold outs; rw [if_pos (.inl a1)])
  clear h
  go_enter Tryz.func167, Tryz.ntmps167
  go_wp2_with fail
  go_ret
  exact ways_nil Hs.out (Below.refl _ _)
 have HK := Lib.hid (nkind_any w b p h e)
 have a0 : 0 ≤ i := by omega
 by_cases a2 : ends (p.kind e) ≤ i
 ·have Hs := Lib.hid (show outs p e i = [] by unfold outs; rw [if_pos (.inr a2)])
  have hd : decide (ends (p.kind e) ≤ i) = true := by simpa using a2
  clear h
  go_enter Tryz.func167, Tryz.ntmps167
  go_wp2_with fail
  refine HK.out.mono ?_
  rintro en w1 ⟨rfl, hb⟩
  go_wp2_with fail
  refine (ends_any _ _).mono ?_
  rintro en w2 ⟨rfl, rfl⟩
  go_wp2_with fail
  go_ret
  exact ways_nil Hs.out hb
 have Hh := Lib.hid h
 clear h
 have key : ∀ K : Int, p.kind e = K → (K = 1 ∧ (i = 0 ∨ i = 1)) ∨ (K = 2 ∧ (i = 0 ∨ i = 1 ∨ i = 2)) ∨ (K = 3 ∧ (i = 0 ∨ i = 1 ∨ i = 2 ∨ i = 3)) ∨ (K = 4 ∧ i = 0) := by
  intro K hK
  rw [hK] at a2
  unfold ends at a2
  omega
 have hk := key _ rfl
 clear key a1 a2 a0
 rcases hk with ⟨hk, rfl | rfl⟩ | ⟨hk, rfl | rfl | rfl⟩ | ⟨hk, rfl | rfl | rfl | rfl⟩ | ⟨hk, rfl⟩
 ·have Hs := Lib.hid (show outs p e 0 = [⟨1, 0⟩] by unfold outs; rw [hk]; rfl)
  have HE := Lib.hid (show ∀ u : World, Calls Tryz.prog 111 #[.int .i64 1] u fun en w' => en = .returned (.int .i64 2) ∧ u = w' from fun u => ends_any 1 u)
  have HK2 := Lib.hid (show ∀ u : World, Below w.heap.size w u → Calls Tryz.prog 77 #[.pointer (some ⟨b, 0, none⟩), .int .i64 e] u fun en w' => en = .returned (.int .i64 1) ∧ Below u.heap.size u w' from fun u hb => by have := nkind_any u b p (Hh.out.below hb) e; rwa [hk] at this)
  have hix : ∀ u : World, (Instr.index 315 (.agg #[.int .i64 0, .int .i64 1, .int .i64 2]) (.int .i64 0)).run Tryz.prog u = .ok (.int .i64 0) u := by intro u; kernel_rfl
  clear HK hk
  go_enter Tryz.func167, Tryz.ntmps167
  go_wp2_with fail
  refine (HK2.out w (Below.refl _ _)).mono ?_
  rintro en w1 ⟨rfl, hb⟩
  have Hb := Lib.hid hb
  go_wp2_with fail
  refine (HE.out w1).mono ?_
  rintro en w2 ⟨rfl, rfl⟩
  go_wp2_with fail
  refine (HK2.out w1 Hb.out).mono ?_
  rintro en w2 ⟨rfl, hb2⟩
  have Hb2 := Lib.hid (below_step Hb.out hb2 Hb.out.size)
  clear hb hb2
  go_wp2_with fail
  refine name_body fun Wf hWf => ?_
  have hbf : Below w.heap.size w Wf := by rw [hWf]; have := Hb2.out.size; repeat (first | with_reducible exact Hb2.out | with_reducible refine Below.alloc ?_ (by first | omega | (simp; omega) | simp) _)
  go_ret
  exact ways_one Hs.out (by rw [hWf]; exact heap_new_at (by simp)) hbf (by have := Hb2.out.size; first | omega | (simp; omega))
 ·have Hs := Lib.hid (show outs p e 1 = [⟨0, 0⟩] by unfold outs; rw [hk]; rfl)
  have HE := Lib.hid (show ∀ u : World, Calls Tryz.prog 111 #[.int .i64 1] u fun en w' => en = .returned (.int .i64 2) ∧ u = w' from fun u => ends_any 1 u)
  have HK2 := Lib.hid (show ∀ u : World, Below w.heap.size w u → Calls Tryz.prog 77 #[.pointer (some ⟨b, 0, none⟩), .int .i64 e] u fun en w' => en = .returned (.int .i64 1) ∧ Below u.heap.size u w' from fun u hb => by have := nkind_any u b p (Hh.out.below hb) e; rwa [hk] at this)
  have hix : ∀ u : World, (Instr.index 315 (.agg #[.int .i64 0, .int .i64 1, .int .i64 2]) (.int .i64 1)).run Tryz.prog u = .ok (.int .i64 1) u := by intro u; kernel_rfl
  clear HK hk
  go_enter Tryz.func167, Tryz.ntmps167
  go_wp2_with fail
  refine (HK2.out w (Below.refl _ _)).mono ?_
  rintro en w1 ⟨rfl, hb⟩
  have Hb := Lib.hid hb
  go_wp2_with fail
  refine (HE.out w1).mono ?_
  rintro en w2 ⟨rfl, rfl⟩
  go_wp2_with fail
  refine (HK2.out w1 Hb.out).mono ?_
  rintro en w2 ⟨rfl, hb2⟩
  have Hb2 := Lib.hid (below_step Hb.out hb2 Hb.out.size)
  clear hb hb2
  go_wp2_with fail
  refine name_body fun Wf hWf => ?_
  have hbf : Below w.heap.size w Wf := by rw [hWf]; have := Hb2.out.size; repeat (first | with_reducible exact Hb2.out | with_reducible refine Below.alloc ?_ (by first | omega | (simp; omega) | simp) _)
  go_ret
  exact ways_one Hs.out (by rw [hWf]; exact heap_new_at (by simp)) hbf (by have := Hb2.out.size; first | omega | (simp; omega))
 ·have Hs := Lib.hid (show outs p e 0 = [⟨1, 1⟩, ⟨2, 2⟩] by unfold outs; rw [hk]; rfl)
  have HE := Lib.hid (show ∀ u : World, Calls Tryz.prog 111 #[.int .i64 2] u fun en w' => en = .returned (.int .i64 3) ∧ u = w' from fun u => ends_any 2 u)
  have HK2 := Lib.hid (show ∀ u : World, Below w.heap.size w u → Calls Tryz.prog 77 #[.pointer (some ⟨b, 0, none⟩), .int .i64 e] u fun en w' => en = .returned (.int .i64 2) ∧ Below u.heap.size u w' from fun u hb => by have := nkind_any u b p (Hh.out.below hb) e; rwa [hk] at this)
  have hix : ∀ u : World, (Instr.index 315 (.agg #[.int .i64 0, .int .i64 1, .int .i64 2]) (.int .i64 0)).run Tryz.prog u = .ok (.int .i64 0) u := by intro u; kernel_rfl
  clear HK hk
  go_enter Tryz.func167, Tryz.ntmps167
  go_wp2_with fail
  refine (HK2.out w (Below.refl _ _)).mono ?_
  rintro en w1 ⟨rfl, hb⟩
  have Hb := Lib.hid hb
  go_wp2_with fail
  refine (HE.out w1).mono ?_
  rintro en w2 ⟨rfl, rfl⟩
  go_wp2_with fail
  refine (HK2.out w1 Hb.out).mono ?_
  rintro en w2 ⟨rfl, hb2⟩
  have Hb2 := Lib.hid (below_step Hb.out hb2 Hb.out.size)
  clear hb hb2
  go_wp2_with fail
  refine name_body fun Wf hWf => ?_
  have hbf : Below w.heap.size w Wf := by rw [hWf]; have := Hb2.out.size; repeat (first | with_reducible exact Hb2.out | with_reducible refine Below.alloc ?_ (by first | omega | (simp; omega) | simp) _)
  go_ret
  exact ways_two Hs.out (by rw [hWf]; exact heap_new_at (by simp)) hbf (by have := Hb2.out.size; first | omega | (simp; omega))
 ·have Hs := Lib.hid (show outs p e 1 = [⟨0, 1⟩] by unfold outs; rw [hk]; rfl)
  have HE := Lib.hid (show ∀ u : World, Calls Tryz.prog 111 #[.int .i64 2] u fun en w' => en = .returned (.int .i64 3) ∧ u = w' from fun u => ends_any 2 u)
  have HK2 := Lib.hid (show ∀ u : World, Below w.heap.size w u → Calls Tryz.prog 77 #[.pointer (some ⟨b, 0, none⟩), .int .i64 e] u fun en w' => en = .returned (.int .i64 2) ∧ Below u.heap.size u w' from fun u hb => by have := nkind_any u b p (Hh.out.below hb) e; rwa [hk] at this)
  have hix : ∀ u : World, (Instr.index 315 (.agg #[.int .i64 0, .int .i64 1, .int .i64 2]) (.int .i64 1)).run Tryz.prog u = .ok (.int .i64 1) u := by intro u; kernel_rfl
  clear HK hk
  go_enter Tryz.func167, Tryz.ntmps167
  go_wp2_with fail
  refine (HK2.out w (Below.refl _ _)).mono ?_
  rintro en w1 ⟨rfl, hb⟩
  have Hb := Lib.hid hb
  go_wp2_with fail
  refine (HE.out w1).mono ?_
  rintro en w2 ⟨rfl, rfl⟩
  go_wp2_with fail
  refine (HK2.out w1 Hb.out).mono ?_
  rintro en w2 ⟨rfl, hb2⟩
  have Hb2 := Lib.hid (below_step Hb.out hb2 Hb.out.size)
  clear hb hb2
  go_wp2_with fail
  refine name_body fun Wf hWf => ?_
  have hbf : Below w.heap.size w Wf := by rw [hWf]; have := Hb2.out.size; repeat (first | with_reducible exact Hb2.out | with_reducible refine Below.alloc ?_ (by first | omega | (simp; omega) | simp) _)
  go_ret
  exact ways_one Hs.out (by rw [hWf]; exact heap_new_at (by simp)) hbf (by have := Hb2.out.size; first | omega | (simp; omega))
 ·have Hs := Lib.hid (show outs p e 2 = [⟨0, 2⟩] by unfold outs; rw [hk]; rfl)
  have HE := Lib.hid (show ∀ u : World, Calls Tryz.prog 111 #[.int .i64 2] u fun en w' => en = .returned (.int .i64 3) ∧ u = w' from fun u => ends_any 2 u)
  have HK2 := Lib.hid (show ∀ u : World, Below w.heap.size w u → Calls Tryz.prog 77 #[.pointer (some ⟨b, 0, none⟩), .int .i64 e] u fun en w' => en = .returned (.int .i64 2) ∧ Below u.heap.size u w' from fun u hb => by have := nkind_any u b p (Hh.out.below hb) e; rwa [hk] at this)
  have hix : ∀ u : World, (Instr.index 315 (.agg #[.int .i64 0, .int .i64 1, .int .i64 2]) (.int .i64 2)).run Tryz.prog u = .ok (.int .i64 2) u := by intro u; kernel_rfl
  clear HK hk
  go_enter Tryz.func167, Tryz.ntmps167
  go_wp2_with fail
  refine (HK2.out w (Below.refl _ _)).mono ?_
  rintro en w1 ⟨rfl, hb⟩
  have Hb := Lib.hid hb
  go_wp2_with fail
  refine (HE.out w1).mono ?_
  rintro en w2 ⟨rfl, rfl⟩
  go_wp2_with fail
  refine (HK2.out w1 Hb.out).mono ?_
  rintro en w2 ⟨rfl, hb2⟩
  have Hb2 := Lib.hid (below_step Hb.out hb2 Hb.out.size)
  clear hb hb2
  go_wp2_with fail
  refine name_body fun Wf hWf => ?_
  have hbf : Below w.heap.size w Wf := by rw [hWf]; have := Hb2.out.size; repeat (first | with_reducible exact Hb2.out | with_reducible refine Below.alloc ?_ (by first | omega | (simp; omega) | simp) _)
  go_ret
  exact ways_one Hs.out (by rw [hWf]; exact heap_new_at (by simp)) hbf (by have := Hb2.out.size; first | omega | (simp; omega))
 ·have Hs := Lib.hid (show outs p e 0 = [⟨1, 0⟩] by unfold outs; rw [hk]; rfl)
  have HE := Lib.hid (show ∀ u : World, Calls Tryz.prog 111 #[.int .i64 3] u fun en w' => en = .returned (.int .i64 4) ∧ u = w' from fun u => ends_any 3 u)
  have HK2 := Lib.hid (show ∀ u : World, Below w.heap.size w u → Calls Tryz.prog 77 #[.pointer (some ⟨b, 0, none⟩), .int .i64 e] u fun en w' => en = .returned (.int .i64 3) ∧ Below u.heap.size u w' from fun u hb => by have := nkind_any u b p (Hh.out.below hb) e; rwa [hk] at this)
  have hix : ∀ u : World, (Instr.index 315 (.agg #[.int .i64 0, .int .i64 1, .int .i64 2]) (.int .i64 0)).run Tryz.prog u = .ok (.int .i64 0) u := by intro u; kernel_rfl
  clear HK hk
  go_enter Tryz.func167, Tryz.ntmps167
  go_wp2_with fail
  refine (HK2.out w (Below.refl _ _)).mono ?_
  rintro en w1 ⟨rfl, hb⟩
  have Hb := Lib.hid hb
  go_wp2_with fail
  refine (HE.out w1).mono ?_
  rintro en w2 ⟨rfl, rfl⟩
  go_wp2_with fail
  refine (HK2.out w1 Hb.out).mono ?_
  rintro en w2 ⟨rfl, hb2⟩
  have Hb2 := Lib.hid (below_step Hb.out hb2 Hb.out.size)
  clear hb hb2
  go_wp2_with fail
  refine name_body fun Wf hWf => ?_
  have hbf : Below w.heap.size w Wf := by rw [hWf]; have := Hb2.out.size; repeat (first | with_reducible exact Hb2.out | with_reducible refine Below.alloc ?_ (by first | omega | (simp; omega) | simp) _)
  go_ret
  exact ways_one Hs.out (by rw [hWf]; exact heap_new_at (by simp)) hbf (by have := Hb2.out.size; first | omega | (simp; omega))
 ·have Hs := Lib.hid (show outs p e 1 = [⟨0, 0⟩] by unfold outs; rw [hk]; rfl)
  have HE := Lib.hid (show ∀ u : World, Calls Tryz.prog 111 #[.int .i64 3] u fun en w' => en = .returned (.int .i64 4) ∧ u = w' from fun u => ends_any 3 u)
  have HK2 := Lib.hid (show ∀ u : World, Below w.heap.size w u → Calls Tryz.prog 77 #[.pointer (some ⟨b, 0, none⟩), .int .i64 e] u fun en w' => en = .returned (.int .i64 3) ∧ Below u.heap.size u w' from fun u hb => by have := nkind_any u b p (Hh.out.below hb) e; rwa [hk] at this)
  have hix : ∀ u : World, (Instr.index 315 (.agg #[.int .i64 0, .int .i64 1, .int .i64 2]) (.int .i64 1)).run Tryz.prog u = .ok (.int .i64 1) u := by intro u; kernel_rfl
  clear HK hk
  go_enter Tryz.func167, Tryz.ntmps167
  go_wp2_with fail
  refine (HK2.out w (Below.refl _ _)).mono ?_
  rintro en w1 ⟨rfl, hb⟩
  have Hb := Lib.hid hb
  go_wp2_with fail
  refine (HE.out w1).mono ?_
  rintro en w2 ⟨rfl, rfl⟩
  go_wp2_with fail
  refine (HK2.out w1 Hb.out).mono ?_
  rintro en w2 ⟨rfl, hb2⟩
  have Hb2 := Lib.hid (below_step Hb.out hb2 Hb.out.size)
  clear hb hb2
  go_wp2_with fail
  refine name_body fun Wf hWf => ?_
  have hbf : Below w.heap.size w Wf := by rw [hWf]; have := Hb2.out.size; repeat (first | with_reducible exact Hb2.out | with_reducible refine Below.alloc ?_ (by first | omega | (simp; omega) | simp) _)
  go_ret
  exact ways_one Hs.out (by rw [hWf]; exact heap_new_at (by simp)) hbf (by have := Hb2.out.size; first | omega | (simp; omega))
 ·have Hs := Lib.hid (show outs p e 2 = [⟨3, 0⟩] by unfold outs; rw [hk]; rfl)
  have HE := Lib.hid (show ∀ u : World, Calls Tryz.prog 111 #[.int .i64 3] u fun en w' => en = .returned (.int .i64 4) ∧ u = w' from fun u => ends_any 3 u)
  have HK2 := Lib.hid (show ∀ u : World, Below w.heap.size w u → Calls Tryz.prog 77 #[.pointer (some ⟨b, 0, none⟩), .int .i64 e] u fun en w' => en = .returned (.int .i64 3) ∧ Below u.heap.size u w' from fun u hb => by have := nkind_any u b p (Hh.out.below hb) e; rwa [hk] at this)
  have hix : ∀ u : World, (Instr.index 315 (.agg #[.int .i64 0, .int .i64 1, .int .i64 2]) (.int .i64 2)).run Tryz.prog u = .ok (.int .i64 2) u := by intro u; kernel_rfl
  clear HK hk
  go_enter Tryz.func167, Tryz.ntmps167
  go_wp2_with fail
  refine (HK2.out w (Below.refl _ _)).mono ?_
  rintro en w1 ⟨rfl, hb⟩
  have Hb := Lib.hid hb
  go_wp2_with fail
  refine (HE.out w1).mono ?_
  rintro en w2 ⟨rfl, rfl⟩
  go_wp2_with fail
  refine (HK2.out w1 Hb.out).mono ?_
  rintro en w2 ⟨rfl, hb2⟩
  have Hb2 := Lib.hid (below_step Hb.out hb2 Hb.out.size)
  clear hb hb2
  go_wp2_with fail
  refine name_body fun Wf hWf => ?_
  have hbf : Below w.heap.size w Wf := by rw [hWf]; have := Hb2.out.size; repeat (first | with_reducible exact Hb2.out | with_reducible refine Below.alloc ?_ (by first | omega | (simp; omega) | simp) _)
  go_ret
  exact ways_one Hs.out (by rw [hWf]; exact heap_new_at (by simp)) hbf (by have := Hb2.out.size; first | omega | (simp; omega))
 ·have Hs := Lib.hid (show outs p e 3 = [⟨2, 0⟩] by unfold outs; rw [hk]; rfl)
  have HE := Lib.hid (show ∀ u : World, Calls Tryz.prog 111 #[.int .i64 3] u fun en w' => en = .returned (.int .i64 4) ∧ u = w' from fun u => ends_any 3 u)
  have HK2 := Lib.hid (show ∀ u : World, Below w.heap.size w u → Calls Tryz.prog 77 #[.pointer (some ⟨b, 0, none⟩), .int .i64 e] u fun en w' => en = .returned (.int .i64 3) ∧ Below u.heap.size u w' from fun u hb => by have := nkind_any u b p (Hh.out.below hb) e; rwa [hk] at this)
  have hix : ∀ u : World, (Instr.index 315 (.agg #[.int .i64 0, .int .i64 1, .int .i64 2]) (.int .i64 2)).run Tryz.prog u = .ok (.int .i64 2) u := by intro u; kernel_rfl
  clear HK hk
  go_enter Tryz.func167, Tryz.ntmps167
  go_wp2_with fail
  refine (HK2.out w (Below.refl _ _)).mono ?_
  rintro en w1 ⟨rfl, hb⟩
  have Hb := Lib.hid hb
  go_wp2_with fail
  refine (HE.out w1).mono ?_
  rintro en w2 ⟨rfl, rfl⟩
  go_wp2_with fail
  refine (HK2.out w1 Hb.out).mono ?_
  rintro en w2 ⟨rfl, hb2⟩
  have Hb2 := Lib.hid (below_step Hb.out hb2 Hb.out.size)
  clear hb hb2
  go_wp2_with fail
  refine name_body fun Wf hWf => ?_
  have hbf : Below w.heap.size w Wf := by rw [hWf]; have := Hb2.out.size; repeat (first | with_reducible exact Hb2.out | with_reducible refine Below.alloc ?_ (by first | omega | (simp; omega) | simp) _)
  go_ret
  exact ways_one Hs.out (by rw [hWf]; exact heap_new_at (by simp)) hbf (by have := Hb2.out.size; first | omega | (simp; omega))
 ·have Hs := Lib.hid (show outs p e 0 = [] by unfold outs; rw [hk]; rfl)
  have HE := Lib.hid (show ∀ u : World, Calls Tryz.prog 111 #[.int .i64 4] u fun en w' => en = .returned (.int .i64 1) ∧ u = w' from fun u => ends_any 4 u)
  have HK2 := Lib.hid (show ∀ u : World, Below w.heap.size w u → Calls Tryz.prog 77 #[.pointer (some ⟨b, 0, none⟩), .int .i64 e] u fun en w' => en = .returned (.int .i64 4) ∧ Below u.heap.size u w' from fun u hb => by have := nkind_any u b p (Hh.out.below hb) e; rwa [hk] at this)
  have hix : ∀ u : World, (Instr.index 315 (.agg #[.int .i64 0, .int .i64 1, .int .i64 2]) (.int .i64 0)).run Tryz.prog u = .ok (.int .i64 0) u := by intro u; kernel_rfl
  clear HK hk
  go_enter Tryz.func167, Tryz.ntmps167
  go_wp2_with fail
  refine (HK2.out w (Below.refl _ _)).mono ?_
  rintro en w1 ⟨rfl, hb⟩
  have Hb := Lib.hid hb
  go_wp2_with fail
  refine (HE.out w1).mono ?_
  rintro en w2 ⟨rfl, rfl⟩
  go_wp2_with fail
  refine (HK2.out w1 Hb.out).mono ?_
  rintro en w2 ⟨rfl, hb2⟩
  have Hb2 := Lib.hid (below_step Hb.out hb2 Hb.out.size)
  clear hb hb2
  go_wp2_with fail
  go_ret
  exact ways_nil Hs.out Hb2.out
end Go.Proofs.YtcaeglnfflkabaaGreat

/- Walks of Through and From (net.Net and semaphoreref6), semaphoreref6.At and LineOf. Condition: the receiver is a net; the plan is read. -/
set_option maxRecDepth 1000000
namespace Go.Proofs.YtcaeglnfflkabaaGreat
open Go.ChangeShapes Go.WideShapes Go.ChangeAt Go.RowKit Go.Sort

end Go.Proofs.YtcaeglnfflkabaaGreat

/- Walks of the methods of net.Net that look into its maps: Next, Reads, Line, Lead. Condition: the receiver is a net; ports and numbers are ints. -/
set_option maxRecDepth 1000000
namespace Go.Proofs.YtcaeglnfflkabaaGreat
open Go.ChangeShapes Go.WideShapes Go.ChangeAt Go.RowKit Go.Sort

set_option maxHeartbeats 400000 in
theorem nnext_any (w : World) (b : Nat) (p : Plan) (h : NetAt w b p) (x : Port) (hx : x.wf) :
  Calls Tryz.prog 10 #[.pointer (some ⟨b, 0, none⟩), x.val] w fun en w' => en = .returned (.tuple #[.agg #[.int .i64 ((nextOf p x).getD zeroPort).e, .int .i64 ((nextOf p x).getD zeroPort).n], .bool (nextOf p x).isSome]) ∧ Below w.heap.size w w' := by
 obtain ⟨v, bn, br, bl, bd, h⟩ := h
 unfold Port.val
 have hbW : Below w.heap.size w ((w.alloc (.cells #[.int .i64 x.e, .int .i64 x.n] 43)).alloc (.cells #[.int .i64 0, .int .i64 0] 43)) := below_new2 w _ _
 have H9 := Lib.hid h.blk
 have hlt := h.blk.lt
 have c9w := h.blk.cell9
 cases hn : nextOf p x with
 | none =>
  have Hs := Lib.hid hn
  have R1 := Lib.hid (show ∀ w', Below w.heap.size w w' → (Instr.lookup 87 (.map (some bn)) (.agg #[.int .i64 x.e, .int .i64 x.n]) false).run Tryz.prog w' = .ok (.agg #[.int .i64 0, .int .i64 0]) w' ∧ (Instr.lookup 87 (.map (some bn)) (.agg #[.int .i64 x.e, .int .i64 x.n]) true).run Tryz.prog w' = .ok (.tuple #[.agg #[.int .i64 0, .int .i64 0], .bool false]) w' from h.next.miss hn keyed_port Tryz.underlying87 zero_port (key_port hx))
  clear h hn hx
  go_enter Tryz.func10, Tryz.ntmps10
  go_wp2_with fail
  have c9 : ((w.alloc (.cells #[.int .i64 x.e, .int .i64 x.n] 43)).alloc (.cells #[.int .i64 0, .int .i64 0] 43)).cell? ⟨b, 9, none⟩ = some (.map (some bn)) := (hbW.cell (p := ⟨b, 9, none⟩) hlt).trans H9.out.cell9
  have k0 : ((w.alloc (.cells #[.int .i64 x.e, .int .i64 x.n] 43)).alloc (.cells #[.int .i64 0, .int .i64 0] 43)).cell? ⟨w.heap.size, 0, none⟩ = some (.int .i64 x.e) := by go_simp
  have k1 : ((w.alloc (.cells #[.int .i64 x.e, .int .i64 x.n] 43)).alloc (.cells #[.int .i64 0, .int .i64 0] 43)).cell? ⟨w.heap.size, 1, none⟩ = some (.int .i64 x.n) := by go_simp
  have hSall : ∀ w' : World, Below (((w.alloc (.cells #[.int .i64 x.e, .int .i64 x.n] 43)).alloc (.cells #[.int .i64 0, .int .i64 0] 43))).heap.size (((w.alloc (.cells #[.int .i64 x.e, .int .i64 x.n] 43)).alloc (.cells #[.int .i64 0, .int .i64 0] 43))) w' → (w'.cell? ⟨b, 9, none⟩ = some (.map (some bn)) ∧ w'.cell? ⟨w.heap.size, 0, none⟩ = some (.int .i64 x.e) ∧ w'.cell? ⟨w.heap.size, 1, none⟩ = some (.int .i64 x.n) ∧ (Instr.lookup 87 (.map (some bn)) (.agg #[.int .i64 x.e, .int .i64 x.n]) true).run Tryz.prog w' = .ok (.tuple #[.agg #[.int .i64 0, .int .i64 0], .bool false]) w') := fun w' hb => ⟨(hb.cell (p := ⟨b, 9, none⟩) (by simp; omega)).trans c9, (hb.cell (p := ⟨w.heap.size, 0, none⟩) (by simp <;> omega)).trans k0, (hb.cell (p := ⟨w.heap.size, 1, none⟩) (by simp <;> omega)).trans k1, (R1.out w' (hbW.trans (hb.mono hbW.size))).2⟩
  refine wp_region_noPanic ?_
  refine region_upto (S := fun w' => w'.cell? ⟨b, 9, none⟩ = some (.map (some bn)) ∧ w'.cell? ⟨w.heap.size, 0, none⟩ = some (.int .i64 x.e) ∧ w'.cell? ⟨w.heap.size, 1, none⟩ = some (.int .i64 x.n) ∧ (Instr.lookup 87 (.map (some bn)) (.agg #[.int .i64 x.e, .int .i64 x.n]) true).run Tryz.prog w' = .ok (.tuple #[.agg #[.int .i64 0, .int .i64 0], .bool false]) w') (n := 12) (by kernel_rfl) ?_
  refine uk 0 (.pointer (some ⟨b, 0, none⟩)) ?_ (hSall _ (by with_reducible repeat (first | exact Below.refl _ _ | assumption | exact below_new _ _ | apply below_drewN | apply Below.drew | refine below_set (Nat.le_refl _) ?_ _ | (refine below_set ?_ ?_ _; omega) | refine Below.alloc ?_ (by first | omega | (simp; omega) | simp) _))) ?_
  ·intro w' hSw
   (try dsimp only at hSw)
   go_simp
  (try simp only [zA, zC, Act.put, zD, zE, zF])
  refine uk 1 (.pointer (some ⟨b, 0, none⟩)) ?_ (hSall _ (by with_reducible repeat (first | exact Below.refl _ _ | assumption | exact below_new _ _ | apply below_drewN | apply Below.drew | refine below_set (Nat.le_refl _) ?_ _ | (refine below_set ?_ ?_ _; omega) | refine Below.alloc ?_ (by first | omega | (simp; omega) | simp) _))) ?_
  ·intro w' hSw
   (try dsimp only at hSw)
   go_simp
  (try simp only [zA, zB, zC, Act.put, zD, zE, zF])
  refine uk 2 (.pointer (some ⟨b, 9, none⟩)) ?_ (hSall _ (by with_reducible repeat (first | exact Below.refl _ _ | assumption | exact below_new _ _ | apply below_drewN | apply Below.drew | refine below_set (Nat.le_refl _) ?_ _ | (refine below_set ?_ ?_ _; omega) | refine Below.alloc ?_ (by first | omega | (simp; omega) | simp) _))) ?_
  ·intro w' hSw
   (try dsimp only at hSw)
   go_simp
  (try simp only [zA, zB, zC, Act.put, zD, zE, zF])
  refine uk 3 (.map (some bn)) ?_ (hSall _ (by with_reducible repeat (first | exact Below.refl _ _ | assumption | exact below_new _ _ | apply below_drewN | apply Below.drew | refine below_set (Nat.le_refl _) ?_ _ | (refine below_set ?_ ?_ _; omega) | refine Below.alloc ?_ (by first | omega | (simp; omega) | simp) _))) ?_
  ·intro w' hSw
   (try dsimp only at hSw)
   go_simp
  (try simp only [zA, zB, zC, Act.put, zD, zE, zF])
  refine uk 4 (.agg #[.int .i64 x.e, .int .i64 x.n]) ?_ (hSall _ (by with_reducible repeat (first | exact Below.refl _ _ | assumption | exact below_new _ _ | apply below_drewN | apply Below.drew | refine below_set (Nat.le_refl _) ?_ _ | (refine below_set ?_ ?_ _; omega) | refine Below.alloc ?_ (by first | omega | (simp; omega) | simp) _))) ?_
  ·intro w' hSw
   (try dsimp only at hSw)
   go_simp
  (try simp only [zA, zB, zC, Act.put, zD, zE, zF])
  refine uk 5 (.tuple #[.agg #[.int .i64 0, .int .i64 0], .bool false]) ?_ (hSall _ (by with_reducible repeat (first | exact Below.refl _ _ | assumption | exact below_new _ _ | apply below_drewN | apply Below.drew | refine below_set (Nat.le_refl _) ?_ _ | (refine below_set ?_ ?_ _; omega) | refine Below.alloc ?_ (by first | omega | (simp; omega) | simp) _))) ?_
  ·intro w' hSw
   (try dsimp only at hSw)
   go_simp
  (try simp only [zA, zB, zC, Act.put, zD, zE, zF])
  refine uk 6 (.tuple #[.agg #[.int .i64 0, .int .i64 0], .bool false]) ?_ (hSall _ (by with_reducible repeat (first | exact Below.refl _ _ | assumption | exact below_new _ _ | apply below_drewN | apply Below.drew | refine below_set (Nat.le_refl _) ?_ _ | (refine below_set ?_ ?_ _; omega) | refine Below.alloc ?_ (by first | omega | (simp; omega) | simp) _))) ?_
  ·intro w' hSw
   (try dsimp only at hSw)
   go_simp
  (try simp only [zA, zB, zC, Act.put, zD, zE, zF])
  refine uk 7 (.agg #[.int .i64 0, .int .i64 0]) ?_ (hSall _ (by with_reducible repeat (first | exact Below.refl _ _ | assumption | exact below_new _ _ | apply below_drewN | apply Below.drew | refine below_set (Nat.le_refl _) ?_ _ | (refine below_set ?_ ?_ _; omega) | refine Below.alloc ?_ (by first | omega | (simp; omega) | simp) _))) ?_
  ·intro w' hSw
   (try dsimp only at hSw)
   go_simp
  (try simp only [zA, zB, zC, Act.put, zD, zE, zF])
  refine uk 8 (.bool false) ?_ (hSall _ (by with_reducible repeat (first | exact Below.refl _ _ | assumption | exact below_new _ _ | apply below_drewN | apply Below.drew | refine below_set (Nat.le_refl _) ?_ _ | (refine below_set ?_ ?_ _; omega) | refine Below.alloc ?_ (by first | omega | (simp; omega) | simp) _))) ?_
  ·intro w' hSw
   (try dsimp only at hSw)
   go_simp
  (try simp only [zA, zB, zC, Act.put, zD, zE, zF])
  refine upto_step (i := 9) (by kernel_rfl) rfl (fun K hK => ?_)
  go_simp
  refine hK _ _ (fun _ => (hSall _ (by with_reducible repeat (first | exact Below.refl _ _ | assumption | exact below_new _ _ | apply below_drewN | apply Below.drew | refine below_set (Nat.le_refl _) ?_ _ | (refine below_set ?_ ?_ _; omega) | refine Below.alloc ?_ (by first | omega | (simp; omega) | simp) _)))) ?_
  clear hK K
  (try simp only [zA, zB, zC, Act.put, zD, zE, zF])
  refine upto_step (i := 10) (by kernel_rfl) rfl (fun K hK => ?_)
  go_simp
  refine hK _ _ (fun _ => (hSall _ (by with_reducible repeat (first | exact Below.refl _ _ | assumption | exact below_new _ _ | apply below_drewN | apply Below.drew | refine below_set (Nat.le_refl _) ?_ _ | (refine below_set ?_ ?_ _; omega) | refine Below.alloc ?_ (by first | omega | (simp; omega) | simp) _)))) ?_
  clear hK K
  (try simp only [zA, zB, zC, Act.put, zD, zE, zF])
  refine upto_step (i := 11) (by kernel_rfl) rfl (fun K hK => ?_)
  go_simp
  refine hK _ _ (fun _ => (hSall _ (by with_reducible repeat (first | exact Below.refl _ _ | assumption | exact below_new _ _ | apply below_drewN | apply Below.drew | refine below_set (Nat.le_refl _) ?_ _ | (refine below_set ?_ ?_ _; omega) | refine Below.alloc ?_ (by first | omega | (simp; omega) | simp) _)))) ?_
  clear hK K
  (try simp only [zA, zB, zC, Act.put, zD, zE, zF])
  refine upto_done (by kernel_rfl) (NoPanic.normal ?_) _
  clear hSall
  go_wp2_with fail
  exact bodyPost_ret (v := .tuple #[.agg #[.int .i64 0, .int .i64 0], .bool false]) (by simp [results, Tryz.results10, go_sem]) rfl ⟨opt_none rfl, (by with_reducible repeat (first | exact Below.refl _ _ | assumption | exact below_new _ _ | apply below_drewN | apply Below.drew | refine below_set (Nat.le_refl _) ?_ _ | (refine below_set ?_ ?_ _; omega) | refine Below.alloc ?_ (by first | omega | (simp; omega) | simp) _))⟩
 | some y =>
  have Hs := Lib.hid hn
  have R1 := Lib.hid (show ∀ w', Below w.heap.size w w' → (Instr.lookup 87 (.map (some bn)) (.agg #[.int .i64 x.e, .int .i64 x.n]) false).run Tryz.prog w' = .ok (.agg #[.int .i64 y.e, .int .i64 y.n]) w' ∧ (Instr.lookup 87 (.map (some bn)) (.agg #[.int .i64 x.e, .int .i64 x.n]) true).run Tryz.prog w' = .ok (.tuple #[.agg #[.int .i64 y.e, .int .i64 y.n], .bool true]) w' from h.next.hit hn keyed_port Tryz.underlying87 zero_port (key_port hx))
  clear h hn hx
  go_enter Tryz.func10, Tryz.ntmps10
  go_wp2_with fail
  have c9 : ((w.alloc (.cells #[.int .i64 x.e, .int .i64 x.n] 43)).alloc (.cells #[.int .i64 0, .int .i64 0] 43)).cell? ⟨b, 9, none⟩ = some (.map (some bn)) := (hbW.cell (p := ⟨b, 9, none⟩) hlt).trans H9.out.cell9
  have k0 : ((w.alloc (.cells #[.int .i64 x.e, .int .i64 x.n] 43)).alloc (.cells #[.int .i64 0, .int .i64 0] 43)).cell? ⟨w.heap.size, 0, none⟩ = some (.int .i64 x.e) := by go_simp
  have k1 : ((w.alloc (.cells #[.int .i64 x.e, .int .i64 x.n] 43)).alloc (.cells #[.int .i64 0, .int .i64 0] 43)).cell? ⟨w.heap.size, 1, none⟩ = some (.int .i64 x.n) := by go_simp
  have hSall : ∀ w' : World, Below (((w.alloc (.cells #[.int .i64 x.e, .int .i64 x.n] 43)).alloc (.cells #[.int .i64 0, .int .i64 0] 43))).heap.size (((w.alloc (.cells #[.int .i64 x.e, .int .i64 x.n] 43)).alloc (.cells #[.int .i64 0, .int .i64 0] 43))) w' → (w'.cell? ⟨b, 9, none⟩ = some (.map (some bn)) ∧ w'.cell? ⟨w.heap.size, 0, none⟩ = some (.int .i64 x.e) ∧ w'.cell? ⟨w.heap.size, 1, none⟩ = some (.int .i64 x.n) ∧ (Instr.lookup 87 (.map (some bn)) (.agg #[.int .i64 x.e, .int .i64 x.n]) true).run Tryz.prog w' = .ok (.tuple #[.agg #[.int .i64 y.e, .int .i64 y.n], .bool true]) w') := fun w' hb => ⟨(hb.cell (p := ⟨b, 9, none⟩) (by simp; omega)).trans c9, (hb.cell (p := ⟨w.heap.size, 0, none⟩) (by simp <;> omega)).trans k0, (hb.cell (p := ⟨w.heap.size, 1, none⟩) (by simp <;> omega)).trans k1, (R1.out w' (hbW.trans (hb.mono hbW.size))).2⟩
  refine wp_region_noPanic ?_
  refine region_upto (S := fun w' => w'.cell? ⟨b, 9, none⟩ = some (.map (some bn)) ∧ w'.cell? ⟨w.heap.size, 0, none⟩ = some (.int .i64 x.e) ∧ w'.cell? ⟨w.heap.size, 1, none⟩ = some (.int .i64 x.n) ∧ (Instr.lookup 87 (.map (some bn)) (.agg #[.int .i64 x.e, .int .i64 x.n]) true).run Tryz.prog w' = .ok (.tuple #[.agg #[.int .i64 y.e, .int .i64 y.n], .bool true]) w') (n := 12) (by kernel_rfl) ?_
  refine uk 0 (.pointer (some ⟨b, 0, none⟩)) ?_ (hSall _ (by with_reducible repeat (first | exact Below.refl _ _ | assumption | exact below_new _ _ | apply below_drewN | apply Below.drew | refine below_set (Nat.le_refl _) ?_ _ | (refine below_set ?_ ?_ _; omega) | refine Below.alloc ?_ (by first | omega | (simp; omega) | simp) _))) ?_
  ·intro w' hSw
   (try dsimp only at hSw)
   go_simp
  (try simp only [zA, zC, Act.put, zD, zE, zF])
  refine uk 1 (.pointer (some ⟨b, 0, none⟩)) ?_ (hSall _ (by with_reducible repeat (first | exact Below.refl _ _ | assumption | exact below_new _ _ | apply below_drewN | apply Below.drew | refine below_set (Nat.le_refl _) ?_ _ | (refine below_set ?_ ?_ _; omega) | refine Below.alloc ?_ (by first | omega | (simp; omega) | simp) _))) ?_
  ·intro w' hSw
   (try dsimp only at hSw)
   go_simp
  (try simp only [zA, zB, zC, Act.put, zD, zE, zF])
  refine uk 2 (.pointer (some ⟨b, 9, none⟩)) ?_ (hSall _ (by with_reducible repeat (first | exact Below.refl _ _ | assumption | exact below_new _ _ | apply below_drewN | apply Below.drew | refine below_set (Nat.le_refl _) ?_ _ | (refine below_set ?_ ?_ _; omega) | refine Below.alloc ?_ (by first | omega | (simp; omega) | simp) _))) ?_
  ·intro w' hSw
   (try dsimp only at hSw)
   go_simp
  (try simp only [zA, zB, zC, Act.put, zD, zE, zF])
  refine uk 3 (.map (some bn)) ?_ (hSall _ (by with_reducible repeat (first | exact Below.refl _ _ | assumption | exact below_new _ _ | apply below_drewN | apply Below.drew | refine below_set (Nat.le_refl _) ?_ _ | (refine below_set ?_ ?_ _; omega) | refine Below.alloc ?_ (by first | omega | (simp; omega) | simp) _))) ?_
  ·intro w' hSw
   (try dsimp only at hSw)
   go_simp
  (try simp only [zA, zB, zC, Act.put, zD, zE, zF])
  refine uk 4 (.agg #[.int .i64 x.e, .int .i64 x.n]) ?_ (hSall _ (by with_reducible repeat (first | exact Below.refl _ _ | assumption | exact below_new _ _ | apply below_drewN | apply Below.drew | refine below_set (Nat.le_refl _) ?_ _ | (refine below_set ?_ ?_ _; omega) | refine Below.alloc ?_ (by first | omega | (simp; omega) | simp) _))) ?_
  ·intro w' hSw
   (try dsimp only at hSw)
   go_simp
  (try simp only [zA, zB, zC, Act.put, zD, zE, zF])
  refine uk 5 (.tuple #[.agg #[.int .i64 y.e, .int .i64 y.n], .bool true]) ?_ (hSall _ (by with_reducible repeat (first | exact Below.refl _ _ | assumption | exact below_new _ _ | apply below_drewN | apply Below.drew | refine below_set (Nat.le_refl _) ?_ _ | (refine below_set ?_ ?_ _; omega) | refine Below.alloc ?_ (by first | omega | (simp; omega) | simp) _))) ?_
  ·intro w' hSw
   (try dsimp only at hSw)
   go_simp
  (try simp only [zA, zB, zC, Act.put, zD, zE, zF])
  refine uk 6 (.tuple #[.agg #[.int .i64 y.e, .int .i64 y.n], .bool true]) ?_ (hSall _ (by with_reducible repeat (first | exact Below.refl _ _ | assumption | exact below_new _ _ | apply below_drewN | apply Below.drew | refine below_set (Nat.le_refl _) ?_ _ | (refine below_set ?_ ?_ _; omega) | refine Below.alloc ?_ (by first | omega | (simp; omega) | simp) _))) ?_
  ·intro w' hSw
   (try dsimp only at hSw)
   go_simp
  (try simp only [zA, zB, zC, Act.put, zD, zE, zF])
  refine uk 7 (.agg #[.int .i64 y.e, .int .i64 y.n]) ?_ (hSall _ (by with_reducible repeat (first | exact Below.refl _ _ | assumption | exact below_new _ _ | apply below_drewN | apply Below.drew | refine below_set (Nat.le_refl _) ?_ _ | (refine below_set ?_ ?_ _; omega) | refine Below.alloc ?_ (by first | omega | (simp; omega) | simp) _))) ?_
  ·intro w' hSw
   (try dsimp only at hSw)
   go_simp
  (try simp only [zA, zB, zC, Act.put, zD, zE, zF])
  refine uk 8 (.bool true) ?_ (hSall _ (by with_reducible repeat (first | exact Below.refl _ _ | assumption | exact below_new _ _ | apply below_drewN | apply Below.drew | refine below_set (Nat.le_refl _) ?_ _ | (refine below_set ?_ ?_ _; omega) | refine Below.alloc ?_ (by first | omega | (simp; omega) | simp) _))) ?_
  ·intro w' hSw
   (try dsimp only at hSw)
   go_simp
  (try simp only [zA, zB, zC, Act.put, zD, zE, zF])
  refine upto_step (i := 9) (by kernel_rfl) rfl (fun K hK => ?_)
  go_simp
  refine hK _ _ (fun _ => (hSall _ (by with_reducible repeat (first | exact Below.refl _ _ | assumption | exact below_new _ _ | apply below_drewN | apply Below.drew | refine below_set (Nat.le_refl _) ?_ _ | (refine below_set ?_ ?_ _; omega) | refine Below.alloc ?_ (by first | omega | (simp; omega) | simp) _)))) ?_
  clear hK K
  (try simp only [zA, zB, zC, Act.put, zD, zE, zF])
  refine upto_step (i := 10) (by kernel_rfl) rfl (fun K hK => ?_)
  go_simp
  refine hK _ _ (fun _ => (hSall _ (by with_reducible repeat (first | exact Below.refl _ _ | assumption | exact below_new _ _ | apply below_drewN | apply Below.drew | refine below_set (Nat.le_refl _) ?_ _ | (refine below_set ?_ ?_ _; omega) | refine Below.alloc ?_ (by first | omega | (simp; omega) | simp) _)))) ?_
  clear hK K
  (try simp only [zA, zB, zC, Act.put, zD, zE, zF])
  refine upto_step (i := 11) (by kernel_rfl) rfl (fun K hK => ?_)
  go_simp
  refine hK _ _ (fun _ => (hSall _ (by with_reducible repeat (first | exact Below.refl _ _ | assumption | exact below_new _ _ | apply below_drewN | apply Below.drew | refine below_set (Nat.le_refl _) ?_ _ | (refine below_set ?_ ?_ _; omega) | refine Below.alloc ?_ (by first | omega | (simp; omega) | simp) _)))) ?_
  clear hK K
  (try simp only [zA, zB, zC, Act.put, zD, zE, zF])
  refine upto_done (by kernel_rfl) (NoPanic.normal ?_) _
  clear hSall
  go_wp2_with fail
  exact bodyPost_ret (v := .tuple #[.agg #[.int .i64 y.e, .int .i64 y.n], .bool true]) (by simp [results, Tryz.results10, go_sem]) rfl ⟨opt_some rfl, (by with_reducible repeat (first | exact Below.refl _ _ | assumption | exact below_new _ _ | apply below_drewN | apply Below.drew | refine below_set (Nat.le_refl _) ?_ _ | (refine below_set ?_ ?_ _; omega) | refine Below.alloc ?_ (by first | omega | (simp; omega) | simp) _))⟩
theorem reads_pos (l : List Sig) (x : Port) : ∀ i : Nat, readsGo i l x = match posP i (l.map (·.at_)) x with | some k => (k : Int) | none => -1 := by
 induction l with
 | nil => intro i; rfl
 | cons s r ih =>
  intro i
  unfold readsGo
  simp only [List.map_cons, posP]
  split
  ·rfl
  ·exact ih (i + 1)
theorem nreads_any (w : World) (b : Nat) (p : Plan) (h : NetAt w b p) (x : Port) (hx : x.wf) :
  Calls Tryz.prog 75 #[.pointer (some ⟨b, 0, none⟩), x.val] w fun en w' => en = .returned (.int .i64 (reads p x)) ∧ Below w.heap.size w w' := by
 obtain ⟨v, bn, br, bl, bd, h⟩ := h
 unfold Port.val
 have hbW : Below w.heap.size w (w.alloc (.cells #[.int .i64 x.e, .int .i64 x.n] 43)) := below_new w _
 have c10w := h.blk.cell10
 have hlt := h.blk.lt
 have Hr := Lib.hid (reads_pos p.sigs x 0)
 cases hn : posP 0 (p.sigs.map (·.at_)) x with
 | none =>
  have Hs := Lib.hid (show reads p x = -1 by have := Hr.out; rw [hn] at this; exact this)
  have R1 := Lib.hid (show ∀ w', Below w.heap.size w w' → (Instr.lookup 88 (.map (some br)) (.agg #[.int .i64 x.e, .int .i64 x.n]) false).run Tryz.prog w' = .ok (.int .i64 0) w' ∧ (Instr.lookup 88 (.map (some br)) (.agg #[.int .i64 x.e, .int .i64 x.n]) true).run Tryz.prog w' = .ok (.tuple #[.int .i64 0, .bool false]) w' from h.reads.miss hn keyed_port Tryz.underlying88 zero_int' (key_port hx))
  clear h hn hx
  go_enter Tryz.func75, Tryz.ntmps75
  go_wp2_with fail
  have c10 : (w.alloc (.cells #[.int .i64 x.e, .int .i64 x.n] 43)).cell? ⟨b, 10, none⟩ = some (.map (some br)) := (hbW.cell (p := ⟨b, 10, none⟩) hlt).trans c10w
  have k0 : (w.alloc (.cells #[.int .i64 x.e, .int .i64 x.n] 43)).cell? ⟨w.heap.size, 0, none⟩ = some (.int .i64 x.e) := by go_simp
  have k1 : (w.alloc (.cells #[.int .i64 x.e, .int .i64 x.n] 43)).cell? ⟨w.heap.size, 1, none⟩ = some (.int .i64 x.n) := by go_simp
  have hSall : ∀ w' : World, Below ((w.alloc (.cells #[.int .i64 x.e, .int .i64 x.n] 43))).heap.size ((w.alloc (.cells #[.int .i64 x.e, .int .i64 x.n] 43))) w' → (w'.cell? ⟨b, 10, none⟩ = some (.map (some br)) ∧ w'.cell? ⟨w.heap.size, 0, none⟩ = some (.int .i64 x.e) ∧ w'.cell? ⟨w.heap.size, 1, none⟩ = some (.int .i64 x.n) ∧ (Instr.lookup 88 (.map (some br)) (.agg #[.int .i64 x.e, .int .i64 x.n]) true).run Tryz.prog w' = .ok (.tuple #[.int .i64 0, .bool false]) w') := fun w' hb => ⟨(hb.cell (p := ⟨b, 10, none⟩) (by simp <;> omega)).trans c10, (hb.cell (p := ⟨w.heap.size, 0, none⟩) (by simp)).trans k0, (hb.cell (p := ⟨w.heap.size, 1, none⟩) (by simp)).trans k1, (R1.out w' (hbW.trans (hb.mono hbW.size))).2⟩
  refine wp_region_noPanic ?_
  refine region_upto (S := fun w' => w'.cell? ⟨b, 10, none⟩ = some (.map (some br)) ∧ w'.cell? ⟨w.heap.size, 0, none⟩ = some (.int .i64 x.e) ∧ w'.cell? ⟨w.heap.size, 1, none⟩ = some (.int .i64 x.n) ∧ (Instr.lookup 88 (.map (some br)) (.agg #[.int .i64 x.e, .int .i64 x.n]) true).run Tryz.prog w' = .ok (.tuple #[.int .i64 0, .bool false]) w') (n := 11) (by kernel_rfl) ?_
  refine uk 0 (.pointer (some ⟨b, 0, none⟩)) ?_ (hSall _ (by with_reducible repeat (first | exact Below.refl _ _ | assumption | exact below_new _ _ | apply below_drewN | apply Below.drew | refine below_set (Nat.le_refl _) ?_ _ | (refine below_set ?_ ?_ _; omega) | refine Below.alloc ?_ (by first | omega | (simp; omega) | simp) _))) ?_
  ·intro w' hSw
   (try dsimp only at hSw)
   go_simp
  (try simp only [zA, zC, Act.put, zD, zE, zF])
  refine uk 1 (.pointer (some ⟨b, 0, none⟩)) ?_ (hSall _ (by with_reducible repeat (first | exact Below.refl _ _ | assumption | exact below_new _ _ | apply below_drewN | apply Below.drew | refine below_set (Nat.le_refl _) ?_ _ | (refine below_set ?_ ?_ _; omega) | refine Below.alloc ?_ (by first | omega | (simp; omega) | simp) _))) ?_
  ·intro w' hSw
   (try dsimp only at hSw)
   go_simp
  (try simp only [zA, zB, zC, Act.put, zD, zE, zF])
  refine uk 2 (.pointer (some ⟨b, 10, none⟩)) ?_ (hSall _ (by with_reducible repeat (first | exact Below.refl _ _ | assumption | exact below_new _ _ | apply below_drewN | apply Below.drew | refine below_set (Nat.le_refl _) ?_ _ | (refine below_set ?_ ?_ _; omega) | refine Below.alloc ?_ (by first | omega | (simp; omega) | simp) _))) ?_
  ·intro w' hSw
   (try dsimp only at hSw)
   go_simp
  (try simp only [zA, zB, zC, Act.put, zD, zE, zF])
  refine uk 3 (.map (some br)) ?_ (hSall _ (by with_reducible repeat (first | exact Below.refl _ _ | assumption | exact below_new _ _ | apply below_drewN | apply Below.drew | refine below_set (Nat.le_refl _) ?_ _ | (refine below_set ?_ ?_ _; omega) | refine Below.alloc ?_ (by first | omega | (simp; omega) | simp) _))) ?_
  ·intro w' hSw
   (try dsimp only at hSw)
   go_simp
  (try simp only [zA, zB, zC, Act.put, zD, zE, zF])
  refine uk 4 (.agg #[.int .i64 x.e, .int .i64 x.n]) ?_ (hSall _ (by with_reducible repeat (first | exact Below.refl _ _ | assumption | exact below_new _ _ | apply below_drewN | apply Below.drew | refine below_set (Nat.le_refl _) ?_ _ | (refine below_set ?_ ?_ _; omega) | refine Below.alloc ?_ (by first | omega | (simp; omega) | simp) _))) ?_
  ·intro w' hSw
   (try dsimp only at hSw)
   go_simp
  (try simp only [zA, zB, zC, Act.put, zD, zE, zF])
  refine uk 5 (.tuple #[.int .i64 0, .bool false]) ?_ (hSall _ (by with_reducible repeat (first | exact Below.refl _ _ | assumption | exact below_new _ _ | apply below_drewN | apply Below.drew | refine below_set (Nat.le_refl _) ?_ _ | (refine below_set ?_ ?_ _; omega) | refine Below.alloc ?_ (by first | omega | (simp; omega) | simp) _))) ?_
  ·intro w' hSw
   (try dsimp only at hSw)
   go_simp
  (try simp only [zA, zB, zC, Act.put, zD, zE, zF])
  refine uk 6 (.tuple #[.int .i64 0, .bool false]) ?_ (hSall _ (by with_reducible repeat (first | exact Below.refl _ _ | assumption | exact below_new _ _ | apply below_drewN | apply Below.drew | refine below_set (Nat.le_refl _) ?_ _ | (refine below_set ?_ ?_ _; omega) | refine Below.alloc ?_ (by first | omega | (simp; omega) | simp) _))) ?_
  ·intro w' hSw
   (try dsimp only at hSw)
   go_simp
  (try simp only [zA, zB, zC, Act.put, zD, zE, zF])
  refine uk 7 (.int .i64 0) ?_ (hSall _ (by with_reducible repeat (first | exact Below.refl _ _ | assumption | exact below_new _ _ | apply below_drewN | apply Below.drew | refine below_set (Nat.le_refl _) ?_ _ | (refine below_set ?_ ?_ _; omega) | refine Below.alloc ?_ (by first | omega | (simp; omega) | simp) _))) ?_
  ·intro w' hSw
   (try dsimp only at hSw)
   go_simp
  (try simp only [zA, zB, zC, Act.put, zD, zE, zF])
  refine uk 8 (.bool false) ?_ (hSall _ (by with_reducible repeat (first | exact Below.refl _ _ | assumption | exact below_new _ _ | apply below_drewN | apply Below.drew | refine below_set (Nat.le_refl _) ?_ _ | (refine below_set ?_ ?_ _; omega) | refine Below.alloc ?_ (by first | omega | (simp; omega) | simp) _))) ?_
  ·intro w' hSw
   (try dsimp only at hSw)
   go_simp
  (try simp only [zA, zB, zC, Act.put, zD, zE, zF])
  refine upto_step (i := 9) (by kernel_rfl) rfl (fun K hK => ?_)
  go_simp
  refine hK _ _ (fun _ => (hSall _ (by with_reducible repeat (first | exact Below.refl _ _ | assumption | exact below_new _ _ | apply below_drewN | apply Below.drew | refine below_set (Nat.le_refl _) ?_ _ | (refine below_set ?_ ?_ _; omega) | refine Below.alloc ?_ (by first | omega | (simp; omega) | simp) _)))) ?_
  clear hK K
  (try simp only [zA, zB, zC, Act.put, zD, zE, zF])
  refine upto_step (i := 10) (by kernel_rfl) rfl (fun K hK => ?_)
  go_simp
  refine hK _ _ (fun _ => (hSall _ (by with_reducible repeat (first | exact Below.refl _ _ | assumption | exact below_new _ _ | apply below_drewN | apply Below.drew | refine below_set (Nat.le_refl _) ?_ _ | (refine below_set ?_ ?_ _; omega) | refine Below.alloc ?_ (by first | omega | (simp; omega) | simp) _)))) ?_
  clear hK K
  (try simp only [zA, zB, zC, Act.put, zD, zE, zF])
  refine upto_done (by kernel_rfl) (NoPanic.normal ?_) _
  clear hSall
  go_wp2_with fail
  go_ret
  exact ⟨ret_int Hs.out.symm, (by with_reducible repeat (first | exact Below.refl _ _ | assumption | exact below_new _ _ | apply below_drewN | apply Below.drew | refine below_set (Nat.le_refl _) ?_ _ | (refine below_set ?_ ?_ _; omega) | refine Below.alloc ?_ (by first | omega | (simp; omega) | simp) _))⟩
 | some k =>
  have Hs := Lib.hid (show reads p x = (k : Int) by have := Hr.out; rw [hn] at this; exact this)
  have R1 := Lib.hid (show ∀ w', Below w.heap.size w w' → (Instr.lookup 88 (.map (some br)) (.agg #[.int .i64 x.e, .int .i64 x.n]) false).run Tryz.prog w' = .ok (.int .i64 (k : Int)) w' ∧ (Instr.lookup 88 (.map (some br)) (.agg #[.int .i64 x.e, .int .i64 x.n]) true).run Tryz.prog w' = .ok (.tuple #[.int .i64 (k : Int), .bool true]) w' from h.reads.hit hn keyed_port Tryz.underlying88 zero_int' (key_port hx))
  clear h hn hx
  go_enter Tryz.func75, Tryz.ntmps75
  go_wp2_with fail
  have c10 : (w.alloc (.cells #[.int .i64 x.e, .int .i64 x.n] 43)).cell? ⟨b, 10, none⟩ = some (.map (some br)) := (hbW.cell (p := ⟨b, 10, none⟩) hlt).trans c10w
  have k0 : (w.alloc (.cells #[.int .i64 x.e, .int .i64 x.n] 43)).cell? ⟨w.heap.size, 0, none⟩ = some (.int .i64 x.e) := by go_simp
  have k1 : (w.alloc (.cells #[.int .i64 x.e, .int .i64 x.n] 43)).cell? ⟨w.heap.size, 1, none⟩ = some (.int .i64 x.n) := by go_simp
  have hSall : ∀ w' : World, Below ((w.alloc (.cells #[.int .i64 x.e, .int .i64 x.n] 43))).heap.size ((w.alloc (.cells #[.int .i64 x.e, .int .i64 x.n] 43))) w' → (w'.cell? ⟨b, 10, none⟩ = some (.map (some br)) ∧ w'.cell? ⟨w.heap.size, 0, none⟩ = some (.int .i64 x.e) ∧ w'.cell? ⟨w.heap.size, 1, none⟩ = some (.int .i64 x.n) ∧ (Instr.lookup 88 (.map (some br)) (.agg #[.int .i64 x.e, .int .i64 x.n]) true).run Tryz.prog w' = .ok (.tuple #[.int .i64 (k : Int), .bool true]) w') := fun w' hb => ⟨(hb.cell (p := ⟨b, 10, none⟩) (by simp <;> omega)).trans c10, (hb.cell (p := ⟨w.heap.size, 0, none⟩) (by simp)).trans k0, (hb.cell (p := ⟨w.heap.size, 1, none⟩) (by simp)).trans k1, (R1.out w' (hbW.trans (hb.mono hbW.size))).2⟩
  refine wp_region_noPanic ?_
  refine region_upto (S := fun w' => w'.cell? ⟨b, 10, none⟩ = some (.map (some br)) ∧ w'.cell? ⟨w.heap.size, 0, none⟩ = some (.int .i64 x.e) ∧ w'.cell? ⟨w.heap.size, 1, none⟩ = some (.int .i64 x.n) ∧ (Instr.lookup 88 (.map (some br)) (.agg #[.int .i64 x.e, .int .i64 x.n]) true).run Tryz.prog w' = .ok (.tuple #[.int .i64 (k : Int), .bool true]) w') (n := 11) (by kernel_rfl) ?_
  refine uk 0 (.pointer (some ⟨b, 0, none⟩)) ?_ (hSall _ (by with_reducible repeat (first | exact Below.refl _ _ | assumption | exact below_new _ _ | apply below_drewN | apply Below.drew | refine below_set (Nat.le_refl _) ?_ _ | (refine below_set ?_ ?_ _; omega) | refine Below.alloc ?_ (by first | omega | (simp; omega) | simp) _))) ?_
  ·intro w' hSw
   (try dsimp only at hSw)
   go_simp
  (try simp only [zA, zC, Act.put, zD, zE, zF])
  refine uk 1 (.pointer (some ⟨b, 0, none⟩)) ?_ (hSall _ (by with_reducible repeat (first | exact Below.refl _ _ | assumption | exact below_new _ _ | apply below_drewN | apply Below.drew | refine below_set (Nat.le_refl _) ?_ _ | (refine below_set ?_ ?_ _; omega) | refine Below.alloc ?_ (by first | omega | (simp; omega) | simp) _))) ?_
  ·intro w' hSw
   (try dsimp only at hSw)
   go_simp
  (try simp only [zA, zB, zC, Act.put, zD, zE, zF])
  refine uk 2 (.pointer (some ⟨b, 10, none⟩)) ?_ (hSall _ (by with_reducible repeat (first | exact Below.refl _ _ | assumption | exact below_new _ _ | apply below_drewN | apply Below.drew | refine below_set (Nat.le_refl _) ?_ _ | (refine below_set ?_ ?_ _; omega) | refine Below.alloc ?_ (by first | omega | (simp; omega) | simp) _))) ?_
  ·intro w' hSw
   (try dsimp only at hSw)
   go_simp
  (try simp only [zA, zB, zC, Act.put, zD, zE, zF])
  refine uk 3 (.map (some br)) ?_ (hSall _ (by with_reducible repeat (first | exact Below.refl _ _ | assumption | exact below_new _ _ | apply below_drewN | apply Below.drew | refine below_set (Nat.le_refl _) ?_ _ | (refine below_set ?_ ?_ _; omega) | refine Below.alloc ?_ (by first | omega | (simp; omega) | simp) _))) ?_
  ·intro w' hSw
   (try dsimp only at hSw)
   go_simp
  (try simp only [zA, zB, zC, Act.put, zD, zE, zF])
  refine uk 4 (.agg #[.int .i64 x.e, .int .i64 x.n]) ?_ (hSall _ (by with_reducible repeat (first | exact Below.refl _ _ | assumption | exact below_new _ _ | apply below_drewN | apply Below.drew | refine below_set (Nat.le_refl _) ?_ _ | (refine below_set ?_ ?_ _; omega) | refine Below.alloc ?_ (by first | omega | (simp; omega) | simp) _))) ?_
  ·intro w' hSw
   (try dsimp only at hSw)
   go_simp
  (try simp only [zA, zB, zC, Act.put, zD, zE, zF])
  refine uk 5 (.tuple #[.int .i64 (k : Int), .bool true]) ?_ (hSall _ (by with_reducible repeat (first | exact Below.refl _ _ | assumption | exact below_new _ _ | apply below_drewN | apply Below.drew | refine below_set (Nat.le_refl _) ?_ _ | (refine below_set ?_ ?_ _; omega) | refine Below.alloc ?_ (by first | omega | (simp; omega) | simp) _))) ?_
  ·intro w' hSw
   (try dsimp only at hSw)
   go_simp
  (try simp only [zA, zB, zC, Act.put, zD, zE, zF])
  refine uk 6 (.tuple #[.int .i64 (k : Int), .bool true]) ?_ (hSall _ (by with_reducible repeat (first | exact Below.refl _ _ | assumption | exact below_new _ _ | apply below_drewN | apply Below.drew | refine below_set (Nat.le_refl _) ?_ _ | (refine below_set ?_ ?_ _; omega) | refine Below.alloc ?_ (by first | omega | (simp; omega) | simp) _))) ?_
  ·intro w' hSw
   (try dsimp only at hSw)
   go_simp
  (try simp only [zA, zB, zC, Act.put, zD, zE, zF])
  refine uk 7 (.int .i64 (k : Int)) ?_ (hSall _ (by with_reducible repeat (first | exact Below.refl _ _ | assumption | exact below_new _ _ | apply below_drewN | apply Below.drew | refine below_set (Nat.le_refl _) ?_ _ | (refine below_set ?_ ?_ _; omega) | refine Below.alloc ?_ (by first | omega | (simp; omega) | simp) _))) ?_
  ·intro w' hSw
   (try dsimp only at hSw)
   go_simp
  (try simp only [zA, zB, zC, Act.put, zD, zE, zF])
  refine uk 8 (.bool true) ?_ (hSall _ (by with_reducible repeat (first | exact Below.refl _ _ | assumption | exact below_new _ _ | apply below_drewN | apply Below.drew | refine below_set (Nat.le_refl _) ?_ _ | (refine below_set ?_ ?_ _; omega) | refine Below.alloc ?_ (by first | omega | (simp; omega) | simp) _))) ?_
  ·intro w' hSw
   (try dsimp only at hSw)
   go_simp
  (try simp only [zA, zB, zC, Act.put, zD, zE, zF])
  refine upto_step (i := 9) (by kernel_rfl) rfl (fun K hK => ?_)
  go_simp
  refine hK _ _ (fun _ => (hSall _ (by with_reducible repeat (first | exact Below.refl _ _ | assumption | exact below_new _ _ | apply below_drewN | apply Below.drew | refine below_set (Nat.le_refl _) ?_ _ | (refine below_set ?_ ?_ _; omega) | refine Below.alloc ?_ (by first | omega | (simp; omega) | simp) _)))) ?_
  clear hK K
  (try simp only [zA, zB, zC, Act.put, zD, zE, zF])
  refine upto_step (i := 10) (by kernel_rfl) rfl (fun K hK => ?_)
  go_simp
  refine hK _ _ (fun _ => (hSall _ (by with_reducible repeat (first | exact Below.refl _ _ | assumption | exact below_new _ _ | apply below_drewN | apply Below.drew | refine below_set (Nat.le_refl _) ?_ _ | (refine below_set ?_ ?_ _; omega) | refine Below.alloc ?_ (by first | omega | (simp; omega) | simp) _)))) ?_
  clear hK K
  (try simp only [zA, zB, zC, Act.put, zD, zE, zF])
  refine upto_done (by kernel_rfl) (NoPanic.normal ?_) _
  clear hSall
  go_wp2_with fail
  go_ret
  exact ⟨ret_int Hs.out.symm, (by with_reducible repeat (first | exact Below.refl _ _ | assumption | exact below_new _ _ | apply below_drewN | apply Below.drew | refine below_set (Nat.le_refl _) ?_ _ | (refine below_set ?_ ?_ _; omega) | refine Below.alloc ?_ (by first | omega | (simp; omega) | simp) _))⟩
end Go.Proofs.YtcaeglnfflkabaaGreat

/- Walks of semaphoreref6.LineOf and Lead; contracts of net.Net's methods that end in Below. Condition: the plan is read (Lead: and is valid). -/
set_option maxRecDepth 1000000
namespace Go.Proofs.YtcaeglnfflkabaaGreat
open Go.ChangeShapes Go.WideShapes Go.ChangeAt Go.RowKit Go.Sort

end Go.Proofs.YtcaeglnfflkabaaGreat
