/- Walks of semaphoreref12.hasPort, hasNeed, Ports. Condition: the plan, the road, the rows are read. -/
import Derived.Test.YtnkpiijljfjmkaaClashW7
import Derived.Deep.CutRange
set_option maxRecDepth 1000000
namespace Go.Proofs.Ytnkpiijljfjmkaa
open Go.ChangeShapes Go.WideShapes Go.ChangeAt Go.RowKit Go.Sort

theorem held_need : Try.prog.stoodInHeld 72 = false := by kernel_rfl
theorem eql_need (x1 x2 y1 y2 : Int) (w : World) : (binOp .eql 72 (.agg #[.int .i64 x1, .int .i64 x2]) (.agg #[.int .i64 y1, .int .i64 y2])).run Try.prog w = .ok (.bool (x1 == y1 && x2 == y2)) w := by
 have hi := Try.underlying3
 refine (eql_struct Try.underlying72 held_need _ _ (fun w => ?_) w).1
 cases h1 : (x1 == y1) <;> cases h2 : (x2 == y2) <;> simp [Op.eqFields, go_sem, part, hi, h1, h2]
theorem eqn_need {x y : Need} {b : Bool} (h : decide (x = y) = b) : ∀ w, (binOp .eql 72 (.agg #[.int .i64 x.e, .int .i64 x.pos]) (.agg #[.int .i64 y.e, .int .i64 y.pos])).run Try.prog w = .ok (.bool b) w := by
 intro w
 rw [eql_need, ← h]
 have : (x.e == y.e && x.pos == y.pos) = decide (x = y) := by
  rw [Bool.eq_iff_iff]; cases x; cases y; simp
 rw [this]
theorem hasneed_any (w : World) (a : Option Addr) (n c : Nat) (xs : List Need) (h : Needs w a n xs) (m : Need) :
  Calls Try.prog 98 #[.slice a n c, .agg #[.int .i64 m.e, .int .i64 m.pos]] w fun e w' => e = .returned (.bool (memB m xs)) ∧ Below w.heap.size w w' := by
 have hl := Lib.hid h.len
 have hbd := h.bnd
 have Hx := Lib.hid h
 obtain ⟨W0, hW0⟩ : ∃ W0, W0 = w.alloc (.cells #[.int .i64 m.e, .int .i64 m.pos] 72) := ⟨_, rfl⟩
 have Hb0 := Lib.hid (show Below w.heap.size w W0 by rw [hW0]; exact below_new1 w _)
 have M0 : W0.cell? ⟨w.heap.size, 0, none⟩ = some (.int .i64 m.e) := by rw [hW0]; go_simp
 have M1 : W0.cell? ⟨w.heap.size, 1, none⟩ = some (.int .i64 m.pos) := by rw [hW0]; go_simp
 have hz0 : w.heap.size < W0.heap.size := by rw [hW0]; simp
 have HM0 := Lib.hid M0
 have HM1 := Lib.hid M1
 have Hz0 := Lib.hid hz0
 clear h M0 M1 hz0
 go_enter Try.func98, Try.ntmps98
 go_wp2_with fail
 rw [← hW0]
 clear hW0
 go_loopg [5] n (fun k i wr => ∃ (j : Nat), j + k = n ∧ i = .int .i64 j ∧ Hid (memB m (xs.drop j) = memB m xs) ∧ Hid (Below W0.heap.size W0 wr))
 case atStart => exact ⟨0, by omega, rfl, rfl, Below.refl _ _⟩
 case round =>
  obtain ⟨j, hk, rfl, hr, Hb⟩ := hrel
  have Hk := Lib.hid hk; clear hk
  by_cases hlt : j < n
  ·obtain ⟨y, hy⟩ := get_some hl.out hlt
   obtain ⟨pb, off, rfl, hpb, g1, g2⟩ := (Hx.out.below (below_step Hb0.out Hb.out Hb0.out.size)).need hy
   have m0 := (Hb.out.cell (p := ⟨w.heap.size, 0, none⟩) Hz0.out).trans HM0.out
   have m1 := (Hb.out.cell (p := ⟨w.heap.size, 1, none⟩) Hz0.out).trans HM1.out
   have hml : w.heap.size < wr.heap.size := Nat.lt_of_lt_of_le Hz0.out Hb.out.size
   have Hd := Lib.hid (mem_drop (x := m) hy); clear hy
   by_cases hm : y = m
   ·have q1 := eqn_need (x := y) (y := m) (b := true) (by simpa using hm)
    have Hn := Lib.hid (show memB m xs = true by rw [← hr.out, Hd.out]; simp [hm])
    clear hm
    go_wp2_with fail
    go_quiet (fail)
    go_wp2_with fail
    go_ret
    exact ⟨ret_bool Hn.out.symm, below_drewN (below_step Hb0.out Hb.out Hb0.out.size) _⟩
   ·have q1 := eqn_need (x := y) (y := m) (b := false) (by simpa using hm)
    have Hn := Lib.hid (show memB m (xs.drop (j + 1)) = memB m xs by rw [← hr.out, Hd.out]; simp [hm])
    clear hm
    go_wp2_with fail
    go_quiet (fail)
    go_wp2_with fail
    go_roundg (gk - 1)
    case measure => have := Hk.out; omega
    case rel => exact ⟨j + 1, by have := Hk.out; omega, by go_num, Hn.out, below_drewN Hb.out _⟩
  ·have Hn := Lib.hid (show memB m xs = false by rw [← hr.out, drop_end hl.out (by omega)]; rfl)
   go_wp2_with fail
   go_ret
   exact ⟨ret_bool Hn.out.symm, below_step Hb0.out Hb.out Hb0.out.size⟩
abbrev PortsR (w : World) (a : Option Addr) (n : Nat) (xs : List Port) : Prop := Row 2 encPort w a n xs
theorem Row.prt {w : World} {a : Option Addr} {n : Nat} {xs : List Port} (h : Row 2 encPort w a n xs) {i : Nat} {x : Port} (hx : xs[i]? = some x) :
  ∃ b off, a = some ⟨b, off, none⟩ ∧ b < w.heap.size ∧ w.cell? ⟨b, off + i * 2, none⟩ = some (.int .i64 x.e) ∧ w.cell? ⟨b, off + i * 2 + 1, none⟩ = some (.int .i64 x.n) := by
 obtain ⟨b, off, ha, hb, hc⟩ := h.at_ i x hx
 exact ⟨b, off, ha, hb, by simpa using hc 0 _ rfl, by simpa using hc 1 _ rfl⟩
theorem hasport_any (w : World) (a : Option Addr) (n c : Nat) (xs : List Port) (h : PortsR w a n xs) (m : Port) :
  Calls Try.prog 93 #[.slice a n c, .agg #[.int .i64 m.e, .int .i64 m.n]] w fun e w' => e = .returned (.bool (memB m xs)) ∧ Below w.heap.size w w' := by
 have hl := Lib.hid h.len
 have hbd := h.bnd
 have Hx := Lib.hid h
 obtain ⟨W0, hW0⟩ : ∃ W0, W0 = w.alloc (.cells #[.int .i64 m.e, .int .i64 m.n] 86) := ⟨_, rfl⟩
 have Hb0 := Lib.hid (show Below w.heap.size w W0 by rw [hW0]; exact below_new1 w _)
 have M0 : W0.cell? ⟨w.heap.size, 0, none⟩ = some (.int .i64 m.e) := by rw [hW0]; go_simp
 have M1 : W0.cell? ⟨w.heap.size, 1, none⟩ = some (.int .i64 m.n) := by rw [hW0]; go_simp
 have hz0 : w.heap.size < W0.heap.size := by rw [hW0]; simp
 have HM0 := Lib.hid M0
 have HM1 := Lib.hid M1
 have Hz0 := Lib.hid hz0
 clear h M0 M1 hz0
 go_enter Try.func93, Try.ntmps93
 go_wp2_with fail
 rw [← hW0]
 clear hW0
 go_loopg [5] n (fun k i wr => ∃ (j : Nat), j + k = n ∧ i = .int .i64 j ∧ Hid (memB m (xs.drop j) = memB m xs) ∧ Hid (Below W0.heap.size W0 wr))
 case atStart => exact ⟨0, by omega, rfl, rfl, Below.refl _ _⟩
 case round =>
  obtain ⟨j, hk, rfl, hr, Hb⟩ := hrel
  have Hk := Lib.hid hk; clear hk
  by_cases hlt : j < n
  ·obtain ⟨y, hy⟩ := get_some hl.out hlt
   obtain ⟨pb, off, rfl, hpb, g1, g2⟩ := (Hx.out.below (below_step Hb0.out Hb.out Hb0.out.size)).prt hy
   have m0 := (Hb.out.cell (p := ⟨w.heap.size, 0, none⟩) Hz0.out).trans HM0.out
   have m1 := (Hb.out.cell (p := ⟨w.heap.size, 1, none⟩) Hz0.out).trans HM1.out
   have hml : w.heap.size < wr.heap.size := Nat.lt_of_lt_of_le Hz0.out Hb.out.size
   have Hd := Lib.hid (mem_drop (x := m) hy); clear hy
   by_cases hm : y = m
   ·have q1 := eql_port (x := y) (y := m) (b := true) (by simpa using hm)
    have Hn := Lib.hid (show memB m xs = true by rw [← hr.out, Hd.out]; simp [hm])
    clear hm
    go_wp2_with fail
    go_quiet (fail)
    go_wp2_with fail
    go_ret
    exact ⟨ret_bool Hn.out.symm, below_drewN (below_step Hb0.out Hb.out Hb0.out.size) _⟩
   ·have q1 := eql_port (x := y) (y := m) (b := false) (by simpa using hm)
    have Hn := Lib.hid (show memB m (xs.drop (j + 1)) = memB m xs by rw [← hr.out, Hd.out]; simp [hm])
    clear hm
    go_wp2_with fail
    go_quiet (fail)
    go_wp2_with fail
    go_roundg (gk - 1)
    case measure => have := Hk.out; omega
    case rel => exact ⟨j + 1, by have := Hk.out; omega, by go_num, Hn.out, below_drewN Hb.out _⟩
  ·have Hn := Lib.hid (show memB m xs = false by rw [← hr.out, drop_end hl.out (by omega)]; rfl)
   go_wp2_with fail
   go_ret
   exact ⟨ret_bool Hn.out.symm, below_step Hb0.out Hb.out Hb0.out.size⟩
end Go.Proofs.Ytnkpiijljfjmkaa

/- Walk of semaphoreref12.Ports. Condition: the plan and the road are read; the road's steps go in and out by ends of an element. -/
set_option maxRecDepth 1000000
namespace Go.Proofs.Ytnkpiijljfjmkaa
open Go.ChangeShapes Go.WideShapes Go.ChangeAt Go.RowKit Go.Sort

/-- append of a row, with the place of the new slice -/
theorem wpList_appB {α : Type} {sz : Nat} {enc : α → List Value} (henc : ∀ x, (enc x).length = sz) (hone : ∀ x, ∀ u ∈ enc x, u.oneCell' = true)
  {P : Program} (w : World) {ops : Array Oper} {rest : List Oper} {o : Oper} {ac : Act} {Q : Exit → Act → World → Prop} (hgd : o.guard = none) (s x : Operand) (t : TypeId)
  (ho : o.op = .call { callee := .builtin .append, args := #[s, x], argTypes := #[t, t] })
  (base : Nat) (e : TypeId) (z : Value) (bytes : Nat) (ht : P.underlying t = some (.slice e)) (hinfo : (P.info? e).map (fun i => (i.zero, i.size, i.bytes)) = some (some z, sz, bytes))
  (hzs : z.cells.size = sz) (hsz : 0 < sz) (v : Value) (n : Nat) (xs : List α) (hs : ac.eval s = v) (hown : w.ownsRow base e sz v n (xs.flatMap enc))
  (a : Option Addr) (m c : Nat) (ys : List α) (hx : ac.eval x = .slice a m c) (hrow : Row sz enc w a m ys) (hc : a = none → c = 0)
  (h63 : n + m ≤ maxLen) (hbytes : (n + m) * bytes ≤ 140737488355328) (hbase : base ≤ w.heap.size)
  (h : ∀ v' w', w'.ownsRow base e sz v' (n + m) ((xs ++ ys).flatMap enc) → w.grownBy w' v.ownBlock → (v'.ownBlock = v.ownBlock ∨ v'.ownBlock = some w.heap.size) → wpList P ops Q rest (ac.put o.dst v') w') : wpList P ops Q (o :: rest) ac w := by
 refine wpList_plain hgd fun K' hK' => ?_
 obtain ⟨v', w', hr, h2, h3, _, h5⟩ := run_app henc hone (P := P) w t o.type base e z bytes ht hinfo hzs hsz v n xs hown a m c ys hrow hc h63 hbytes hbase
 unfold Oper.wp execOp
 simp only [ho, resolve, invoke, builtin, Sem.run_bind, Sem.run_pure, Result.andThen_ok, List.map_toArray, List.map_cons, List.map_nil, hs, hx, hr]
 exact hK' _ _ (h v' w' h2 h3 h5)
theorem encPort_len (x : Port) : (encPort x).length = 2 := rfl
theorem encPort_oneC (x : Port) : ∀ u ∈ encPort x, u.oneCell' = true := by
 intro u hu
 simp only [encPort, List.mem_cons, List.not_mem_nil, or_false] at hu
 rcases hu with rfl | rfl <;> rfl
theorem info_portC : (Try.prog.info? 86).map (fun i => (i.zero, i.size, i.bytes)) = some (some (.agg #[.int .i64 0, .int .i64 0]), 2, 16) := by kernel_rfl
theorem row_port1 {w : World} {g : Nat} {x : Port} (h : w.heap[g]? = some (.cells #[.int .i64 x.e, .int .i64 x.n] 86)) : Row 2 encPort w (some ⟨g, 0, none⟩) 1 [x] :=
 row_block (sz := 2) (enc := encPort) (fun _ => rfl) (by decide) [x] h rfl rfl (by omega)
theorem row_port2 {w : World} {g : Nat} {x y : Port} (h : w.heap[g]? = some (.cells #[.int .i64 x.e, .int .i64 x.n, .int .i64 y.e, .int .i64 y.n] 86)) : Row 2 encPort w (some ⟨g, 0, none⟩) 2 [x, y] :=
 row_block (sz := 2) (enc := encPort) (fun _ => rfl) (by decide) [x, y] h rfl rfl (by omega)
theorem boxesR (w : World) (pv : PV) (p : Plan) (rv : RV) (r : Road) : ∃ W0, W0 = (w.alloc (.cells (pv.cells p) 27)).alloc (.cells (rv.cells r) 38) ∧
  Below w.heap.size w W0 ∧ PBox W0 w.heap.size pv p ∧ RBox W0 (w.heap.size + 1) rv r ∧ W0.heap.size = w.heap.size + 2 := by
 refine ⟨_, rfl, ?_, ?_, ?_, by simp⟩
 ·exact ((Below.refl _ _).alloc (Nat.le_refl _) _).alloc (by simp) _
 ·exact (PBox.mk' w pv p _).below (below_new1 _ _)
 ·have h := rbox_new (w.alloc (.cells (pv.cells p) 27)) rv r
  rwa [show (w.alloc (.cells (pv.cells p) 27)).heap.size = w.heap.size + 1 by simp] at h
theorem name_act {P : Program} {c : Go.Code} {Q : Exit → Act → World → Prop} {a : Act} {w : World} (h : ∀ A, A = a → Go.Code.wp P c Q A w) : Go.Code.wp P c Q a w := h _ rfl
def sideOk (p : Plan) (s : Stp) : List Port := (sidePorts p s).filter fun x => (nextOf p x).isSome
def PortsPost (w : World) (l : List Port) (e : Ending) (w' : World) : Prop := ∃ a n c, e = .returned (.slice a n c) ∧ PortsR w' a n l ∧ (a = none → c = 0) ∧ (∀ k, a.map (·.block) = some k → w.heap.size ≤ k ∧ k < w'.heap.size) ∧ Below w.heap.size w w'
set_option maxHeartbeats 16000000 in
theorem ports_any (w : World) (pv : PV) (p : Plan) (h : PlanAt w pv p) (rv : RV) (r : Road) (hr : RoadAt w rv r) (hl : rv.sn ≤ 100) (hst : ∀ s ∈ r.steps, -1 ≤ s.i ∧ s.i ≤ 4 ∧ -1 ≤ s.o ∧ s.o ≤ 4) :
  Calls Try.prog 56 #[pv.val p, rv.val r] w (PortsPost w (portsR p r)) := by
 obtain ⟨ae, ne, ce, aj, nj, cj, as_, ns, cs, al, nl, cl, lv⟩ := pv
 obtain ⟨sa, sn, sc, na, nn, nc, ga, gn, gc, za, zn, zc, ha, hn, hc⟩ := rv
 dsimp only at hl
 obtain ⟨W0, hW0, hb0, hB0, hR0, hz0⟩ := boxesR w ⟨ae, ne, ce, aj, nj, cj, as_, ns, cs, al, nl, cl, lv⟩ p ⟨sa, sn, sc, na, nn, nc, ga, gn, gc, za, zn, zc, ha, hn, hc⟩ r
 have Hb0 := Lib.hid hb0
 have HB0 := Lib.hid hB0
 have HR0 := Lib.hid hR0
 have Hz0 := Lib.hid hz0
 have HP0 := Lib.hid (h.below hb0)
 have HS0 := Lib.hid (show Stps W0 sa sn r.steps from (hr.below hb0).s)
 have Hst := Lib.hid hst
 have Hlen := Lib.hid HS0.out.len
 clear h hr hb0 hB0 hR0 hz0 hst
 dsimp only [PV.val, RV.val]
 dsimp only [PV.cells, RV.cells] at hW0
 go_enter Try.func56, Try.ntmps56
 go_wp2_with fail
 rw [← hW0]
 clear hW0
 go_loopg [5, 6] sn (fun k s5 s6 wr => ∃ (i : Nat) (xs : List Port), i + k = sn ∧ s6 = .int .i64 i ∧ Hid (wr.ownsRow W0.heap.size 86 2 s5 xs.length (xs.flatMap encPort)) ∧ Hid (xs ++ (r.steps.drop i).flatMap (sideOk p) = portsR p r) ∧ xs.length ≤ 2 * i ∧ Hid (Below W0.heap.size W0 wr))
 case atStart => exact ⟨0, [], by omega, rfl, World.ownsRow_nil _ _ _ _, rfl, by simp, Below.refl _ _⟩
 case round =>
  obtain ⟨i, xs, hk, rfl, HO, hrel2, hxl, HB⟩ := hrel
  have Hk := Lib.hid hk; clear hk
  obtain ⟨wo, rfl⟩ : ∃ wo : World, wo = wr := ⟨_, rfl⟩
  have q3 := (HR0.out.below HB.out).c3
  have hrl := (HR0.out.below HB.out).lt
  dsimp only at q3
  obtain ⟨ao, co, rfl, _, hoc⟩ := own_slice HO.out
  by_cases hlt : i < sn
  ·obtain ⟨s, hs⟩ := get_some Hlen.out hlt
   obtain ⟨pb, off, rfl, hpb, g1, g2, g3⟩ := (HS0.out.below HB.out).stp hs
   have hsb := Hst.out s (List.mem_of_getElem? hs)
   have Hd := Lib.hid (drop_cons hs)
   clear hs
   obtain ⟨hplb, c0, c1, c2, c3, c4, c5, c6, c7, c8⟩ := HB0.out.below (below_step HB.out (below_new1 wo (.cells #[.int .i64 s.e, .int .i64 s.i, .int .i64 s.o] 47)) HB.out.size)
   dsimp only at c0 c1 c2 c3
   have HK := Lib.hid (refkind_l (w := wo.alloc (.cells #[.int .i64 s.e, .int .i64 s.i, .int .i64 s.o] 47)) (e := s.e) (HP0.out.below (below_step HB.out (below_new1 wo (.cells #[.int .i64 s.e, .int .i64 s.i, .int .i64 s.o] 47)) HB.out.size)))
   go_wp2_with fail
   refine HK.out.mono ?_
   rintro en w5 ⟨rfl, hb5⟩
   have s0 : w5.cell? ⟨wo.heap.size, 0, none⟩ = some (.int .i64 s.e) := (hb5.cell (p := ⟨wo.heap.size, 0, none⟩) (by simp)).trans (by go_simp)
   have s1 : w5.cell? ⟨wo.heap.size, 1, none⟩ = some (.int .i64 s.i) := (hb5.cell (p := ⟨wo.heap.size, 1, none⟩) (by simp)).trans (by go_simp)
   have s2 : w5.cell? ⟨wo.heap.size, 2, none⟩ = some (.int .i64 s.o) := (hb5.cell (p := ⟨wo.heap.size, 2, none⟩) (by simp)).trans (by go_simp)
   have Hb5 := Lib.hid (below_step (below_new1 wo (.cells #[.int .i64 s.e, .int .i64 s.i, .int .i64 s.o] 47)) hb5 (by simp))
   have hz5 : wo.heap.size < w5.heap.size := by have := hb5.size; simp at this; omega
   have HB5 := Lib.hid (below_step HB.out Hb5.out HB.out.size)
   have HO5 := Lib.hid (owns_below HO.out Hb5.out)
   clear hb5 HK g1 g2 g3 q3 hrl hplb c0 c1 c2 c3 c4 c5 c6 c7 c8
   go_upto_if 29 with fail
   rename_i KK hKK
   have HKK := Lib.hid hKK
   clear hKK
   refine name_act fun A hA => ?_
   have key : ∀ (u9 u28 u29 u30 u31 u32 u33 u34 u35 u36 u37 u38 u39 u40 u41 u42 u43 u44 u45 u46 u47 u48 u49 u50 u51 u52 u53 u54 u55 u56 u57 u58 u59 : Value) (ax : Option Addr) (nx cx : Nat) (L : List Port) (w7 : World), Hid (sidePorts p s = L) → nx ≤ 2 → Hid (w7.ownsRow W0.heap.size 86 2 (.slice ao xs.length co) xs.length (xs.flatMap encPort)) → Hid (PortsR w7 ax nx L) → Hid (∀ k, ax.map (·.block) = some k → k < w7.heap.size ∧ (Value.slice ao xs.length co).ownBlock ≠ some k) → Hid (Below W0.heap.size W0 w7) → KK ((((((((((((((((((((((((((((((((((A.put (some 8) (.slice ax nx cx)).put (some 9) u9).put (some 28) u28).put (some 29) u29).put (some 30) u30).put (some 31) u31).put (some 32) u32).put (some 33) u33).put (some 34) u34).put (some 35) u35).put (some 36) u36).put (some 37) u37).put (some 38) u38).put (some 39) u39).put (some 40) u40).put (some 41) u41).put (some 42) u42).put (some 43) u43).put (some 44) u44).put (some 45) u45).put (some 46) u46).put (some 47) u47).put (some 48) u48).put (some 49) u49).put (some 50) u50).put (some 51) u51).put (some 52) u52).put (some 53) u53).put (some 54) u54).put (some 55) u55).put (some 56) u56).put (some 57) u57).put (some 58) u58).put (some 59) u59) w7 := by
    intro u9 u28 u29 u30 u31 u32 u33 u34 u35 u36 u37 u38 u39 u40 u41 u42 u43 u44 u45 u46 u47 u48 u49 u50 u51 u52 u53 u54 u55 u56 u57 u58 u59 ax nx cx L w7 HL hn2 HO7 HLr Hlb HB7
    clear s0 s1 s2 HO5 HB5 Hb5
    subst hA
    refine HKK.out _ _ ?_
    clear HKK
    simp only [Act.put, List.setIfInBounds_toArray, List.set_cons_zero, List.set_cons_succ]
    go_wp2_with fail
    go_loopg [5, 10] nx (fun k s5 s10 wr => ∃ (q : Nat) (ys : List Port), q + k = nx ∧ s10 = .int .i64 q ∧ Hid (wr.ownsRow W0.heap.size 86 2 s5 ys.length (ys.flatMap encPort)) ∧ Hid (ys ++ (L.drop q).filter (fun x => (nextOf p x).isSome) = xs ++ sideOk p s) ∧ ys.length ≤ 2 * i + q ∧ Hid (PortsR wr ax nx L) ∧ Hid (∀ k, ax.map (·.block) = some k → k < wr.heap.size ∧ s5.ownBlock ≠ some k) ∧ Hid (Below W0.heap.size W0 wr))
    case atStart => exact ⟨0, xs, by omega, rfl, HO7.out, by rw [List.drop_zero]; exact Lib.hid (by unfold sideOk; rw [HL.out]), by omega, HLr, Hlb, HB7⟩
    case round =>
     clear HO7 HB7 HLr
     obtain ⟨q, ys, hkq, rfl, HOq, hrq, hyl, HLq, Hlq, HBq⟩ := hrel
     have Hkq := Lib.hid hkq; clear hkq
     obtain ⟨aq, cq, rfl, _, hqc⟩ := own_slice HOq.out
     by_cases hltq : q < nx
     ·obtain ⟨x, hx⟩ := get_some HLq.out.len hltq
      obtain ⟨pl, ofl, rfl, hpl, l1, l2⟩ := HLq.out.prt hx
      have Hdq := Lib.hid (drop_cons hx)
      have Hgx := Lib.hid hx
      clear hx
      obtain ⟨hplb, c0, c1, c2, c3, c4, c5, c6, c7, c8⟩ := HB0.out.below HBq.out
      dsimp only at c0 c1 c2 c3
      have HNx := Lib.hid (fun (u : World) (hb : Below wr.heap.size wr u) => refnext_l (w := u) (a := x.e) (b := x.n) (HP0.out.below (below_step HBq.out hb HBq.out.size)))
      cases hnx : nextOf p x with
      | none =>
       rw [show (⟨x.e, x.n⟩ : Port) = x from rfl, hnx] at HNx
       dsimp only [Option.getD_none, Option.isSome_none, zeroPort] at HNx
       have Hn := Lib.hid (show ys ++ (L.drop (q + 1)).filter (fun x => (nextOf p x).isSome) = xs ++ sideOk p s by rw [← hrq.out, Hdq.out]; simp [hnx])
       clear hnx
       go_wp2_with fail
       have hSall : ∀ w' : World, Below wr.heap.size wr w' → (w'.cell? ⟨w.heap.size, 0, none⟩ = some (.slice ae ne ce) ∧ w'.cell? ⟨w.heap.size, 1, none⟩ = some (.slice aj nj cj) ∧ w'.cell? ⟨w.heap.size, 2, none⟩ = some (.slice as_ ns cs) ∧ w'.cell? ⟨w.heap.size, 3, none⟩ = some (.slice al nl cl) ∧ w'.cell? ⟨w.heap.size, 4, none⟩ = some (.int .i64 p.top) ∧ w'.cell? ⟨w.heap.size, 5, none⟩ = some (.int .i64 p.brake) ∧ w'.cell? ⟨w.heap.size, 6, none⟩ = some (.int .i64 p.margin) ∧ w'.cell? ⟨w.heap.size, 7, none⟩ = some (.int .i64 p.throw) ∧ w'.cell? ⟨w.heap.size, 8, none⟩ = some (.bool p.hard) ∧ w'.cell? ⟨pl, ofl + q * 2, none⟩ = some (.int .i64 x.e) ∧ w'.cell? ⟨pl, ofl + q * 2 + 1, none⟩ = some (.int .i64 x.n)) := fun w' hb => ⟨(hb.cell (p := ⟨w.heap.size, 0, none⟩) hplb).trans c0, (hb.cell (p := ⟨w.heap.size, 1, none⟩) hplb).trans c1, (hb.cell (p := ⟨w.heap.size, 2, none⟩) hplb).trans c2, (hb.cell (p := ⟨w.heap.size, 3, none⟩) hplb).trans c3, (hb.cell (p := ⟨w.heap.size, 4, none⟩) hplb).trans c4, (hb.cell (p := ⟨w.heap.size, 5, none⟩) hplb).trans c5, (hb.cell (p := ⟨w.heap.size, 6, none⟩) hplb).trans c6, (hb.cell (p := ⟨w.heap.size, 7, none⟩) hplb).trans c7, (hb.cell (p := ⟨w.heap.size, 8, none⟩) hplb).trans c8, (hb.cell (p := ⟨pl, ofl + q * 2, none⟩) hpl).trans l1, (hb.cell (p := ⟨pl, ofl + q * 2 + 1, none⟩) hpl).trans l2⟩
       refine wp_region_noPanic ?_
       refine region_ob (S := fun w' => w'.cell? ⟨w.heap.size, 0, none⟩ = some (.slice ae ne ce) ∧ w'.cell? ⟨w.heap.size, 1, none⟩ = some (.slice aj nj cj) ∧ w'.cell? ⟨w.heap.size, 2, none⟩ = some (.slice as_ ns cs) ∧ w'.cell? ⟨w.heap.size, 3, none⟩ = some (.slice al nl cl) ∧ w'.cell? ⟨w.heap.size, 4, none⟩ = some (.int .i64 p.top) ∧ w'.cell? ⟨w.heap.size, 5, none⟩ = some (.int .i64 p.brake) ∧ w'.cell? ⟨w.heap.size, 6, none⟩ = some (.int .i64 p.margin) ∧ w'.cell? ⟨w.heap.size, 7, none⟩ = some (.int .i64 p.throw) ∧ w'.cell? ⟨w.heap.size, 8, none⟩ = some (.bool p.hard) ∧ w'.cell? ⟨pl, ofl + q * 2, none⟩ = some (.int .i64 x.e) ∧ w'.cell? ⟨pl, ofl + q * 2 + 1, none⟩ = some (.int .i64 x.n)) (ob := fun t => decide (t < 12)) (by kernel_rfl) ?_
       refine tk 0 (.agg #[.slice ae ne ce, .slice aj nj cj, .slice as_ ns cs, .slice al nl cl, .int .i64 p.top, .int .i64 p.brake, .int .i64 p.margin, .int .i64 p.throw, .bool p.hard]) ?_ (hSall _ (Below.refl _ _).drew) ?_
       ·intro w' hSw
        (try dsimp only at hSw)
        go_simp
       (try simp only [zA, zC, Act.put, zD, zE, zF])
       refine tk 1 (.slice (some ⟨pl, ofl, none⟩) nx cx) ?_ (hSall _ (Below.refl _ _).drew) ?_
       ·intro w' hSw
        (try dsimp only at hSw)
        go_simp
       (try simp only [zA, zB, zC, Act.put, zD, zE, zF])
       refine tk 2 (.int .i64 q) ?_ (hSall _ (Below.refl _ _).drew) ?_
       ·intro w' hSw
        (try dsimp only at hSw)
        go_simp
       (try simp only [zA, zB, zC, Act.put, zD, zE, zF])
       refine tk 3 (.pointer (some ⟨pl, ofl + q * 2, none⟩)) ?_ (hSall _ (Below.refl _ _).drew) ?_
       ·intro w' hSw
        (try dsimp only at hSw)
        go_simp
       (try simp only [zA, zB, zC, Act.put, zD, zE, zF])
       refine tk 4 (.agg #[.int .i64 x.e, .int .i64 x.n]) ?_ (hSall _ (Below.refl _ _).drew) ?_
       ·intro w' hSw
        (try dsimp only at hSw)
        go_simp
       (try simp only [zA, zB, zC, Act.put, zD, zE, zF])
       refine ob_name fun OPS hO R hR A hA => ?_
       have key : ∀ (w9 : World) (g : Nat), Below wr.heap.size wr w9 → R .normal ((((((A.put (some 72) (.tuple #[.agg #[.int .i64 0, .int .i64 0], .bool false])).put (some 66) (.tuple #[.agg #[.int .i64 0, .int .i64 0], .bool false])).put (some 73) (.agg #[.int .i64 0, .int .i64 0])).put (some 74) (.bool false)).put (some 11) (.pointer (some ⟨g, 0, none⟩))).put (some 12) (.bool false)) w9 := by
        intro w9 g hw9
        have Hw9 := Lib.hid hw9
        subst hO
        subst hR
        subst hA
        refine NoPanic.normal ?_
        (try simp only [Act.put, zD, zE, zF])
        clear hSall hw9 c0 c1 c2 c3 c4 c5 c6 c7 c8 l1 l2 hpl hplb
        go_wp2_with fail
        go_roundg (nx - q - 1)
        case measure => have := Hkq.out; omega
        case rel => exact ⟨q + 1, ys, by have := Hkq.out; omega, by go_num, owns_below HOq.out Hw9.out, Hn.out, by omega, HLq.out.below Hw9.out, fun k hk => ⟨Nat.lt_of_lt_of_le (Hlq.out k hk).1 Hw9.out.size, (Hlq.out k hk).2⟩, below_step HBq.out Hw9.out HBq.out.size⟩
       subst hO
       subst hR
       subst hA
       simp only [Act.put, List.setIfInBounds_toArray, List.set_cons_zero, List.set_cons_succ] at key
       have Key := Lib.hid key
       clear key
       refine ob_some (js := [5, 9]) (by kernel_rfl) (by simp) (fun i hi => ?_)
       simp only [List.mem_cons, List.not_mem_nil, or_false] at hi
       rcases hi with rfl | rfl
       ·refine ⟨_, rfl, fun K hK => ?_⟩
        go_simp
        refine (HNx.out _ (Below.refl _ _).drew).mono ?_
        rintro en u1 ⟨rfl, hbu⟩
        have hbx : Below wr.heap.size wr u1 := (Below.refl wr.heap.size wr).drew.trans hbu
        have hzu := hbx.size
        refine hK _ _ (fun _ => hSall _ hbx) ?_
        clear hK K
        (try simp only [zA, zB, zC, Act.put, zD, zE, zF])
        refine tk 6 (.tuple #[.agg #[.int .i64 0, .int .i64 0], .bool false]) ?_ (hSall _ (by with_reducible repeat (first | exact Below.refl _ _ | assumption | exact below_new _ _ | apply below_drewN | apply Below.drew | refine below_set (Nat.le_refl _) ?_ _ | (refine below_set ?_ ?_ _; omega) | refine Below.alloc ?_ (by first | omega | (simp; omega) | simp) _))) ?_
        ·intro w' hSw
         go_simp
        (try simp only [zA, zB, zC, Act.put, zD, zE, zF])
        refine tk 7 (.agg #[.int .i64 0, .int .i64 0]) ?_ (hSall _ (by with_reducible repeat (first | exact Below.refl _ _ | assumption | exact below_new _ _ | apply below_drewN | apply Below.drew | refine below_set (Nat.le_refl _) ?_ _ | (refine below_set ?_ ?_ _; omega) | refine Below.alloc ?_ (by first | omega | (simp; omega) | simp) _))) ?_
        ·intro w' hSw
         go_simp
        (try simp only [zA, zB, zC, Act.put, zD, zE, zF])
        refine tk 8 (.bool false) ?_ (hSall _ (by with_reducible repeat (first | exact Below.refl _ _ | assumption | exact below_new _ _ | apply below_drewN | apply Below.drew | refine below_set (Nat.le_refl _) ?_ _ | (refine below_set ?_ ?_ _; omega) | refine Below.alloc ?_ (by first | omega | (simp; omega) | simp) _))) ?_
        ·intro w' hSw
         go_simp
        (try simp only [zA, zB, zC, Act.put, zD, zE, zF])
        refine ob_step (i := 9) (by kernel_rfl) rfl (fun K hK => ?_)
        go_simp
        refine hK _ _ (fun _ => (hSall _ (by with_reducible repeat (first | exact Below.refl _ _ | assumption | exact below_new _ _ | apply below_drewN | apply Below.drew | refine below_set (Nat.le_refl _) ?_ _ | (refine below_set ?_ ?_ _; omega) | refine Below.alloc ?_ (by first | omega | (simp; omega) | simp) _)))) ?_
        clear hK K
        (try simp only [zA, zB, zC, Act.put, zD, zE, zF])
        refine ob_step (i := 10) (by kernel_rfl) rfl (fun K hK => ?_)
        go_simp
        refine hK _ _ (fun _ => (hSall _ (by with_reducible repeat (first | exact Below.refl _ _ | assumption | exact below_new _ _ | apply below_drewN | apply Below.drew | refine below_set (Nat.le_refl _) ?_ _ | (refine below_set ?_ ?_ _; omega) | refine Below.alloc ?_ (by first | omega | (simp; omega) | simp) _)))) ?_
        clear hK K
        (try simp only [zA, zB, zC, Act.put, zD, zE, zF])
        refine ob_step (i := 11) (by kernel_rfl) rfl (fun K hK => ?_)
        go_simp
        refine hK _ _ (fun _ => (hSall _ (by with_reducible repeat (first | exact Below.refl _ _ | assumption | exact below_new _ _ | apply below_drewN | apply Below.drew | refine below_set (Nat.le_refl _) ?_ _ | (refine below_set ?_ ?_ _; omega) | refine Below.alloc ?_ (by first | omega | (simp; omega) | simp) _)))) ?_
        clear hK K
        (try simp only [zA, zB, zC, Act.put, zD, zE, zF])
        refine ob_done (by kernel_rfl) (NoPanic.normal ?_) _
        exact Key.out _ _ (by with_reducible repeat (first | exact Below.refl _ _ | assumption | exact below_new _ _ | apply below_drewN | apply Below.drew | refine below_set (Nat.le_refl _) ?_ _ | (refine below_set ?_ ?_ _; omega) | refine Below.alloc ?_ (by first | omega | (simp; omega) | simp) _))
       ·refine ⟨_, rfl, fun K hK => ?_⟩
        go_simp
        refine hK _ _ (fun _ => (hSall _ (by with_reducible repeat (first | exact Below.refl _ _ | assumption | exact below_new _ _ | apply below_drewN | apply Below.drew | refine below_set (Nat.le_refl _) ?_ _ | (refine below_set ?_ ?_ _; omega) | refine Below.alloc ?_ (by first | omega | (simp; omega) | simp) _)))) ?_
        clear hK K
        (try simp only [zA, zB, zC, Act.put, zD, zE, zF])
        have hba : Below wr.heap.size wr (wr.drew.alloc (.cells #[.int .i64 0, .int .i64 0] 86)) := (Below.refl _ _).drew.alloc (Nat.le_refl _) _
        refine ob_step (i := 5) (by kernel_rfl) rfl (fun K hK => ?_)
        go_simp
        refine (HNx.out _ hba).mono ?_
        rintro en u1 ⟨rfl, hbu⟩
        have hbx : Below wr.heap.size wr u1 := below_step hba hbu hba.size
        have k0 : u1.cell? ⟨wr.heap.size, 0, none⟩ = some (.int .i64 0) := (hbu.cell (p := ⟨wr.heap.size, 0, none⟩) (by simp)).trans (by go_simp)
        have k1 : u1.cell? ⟨wr.heap.size, 1, none⟩ = some (.int .i64 0) := (hbu.cell (p := ⟨wr.heap.size, 1, none⟩) (by simp)).trans (by go_simp)
        have kf : ∀ o, u1.frozen? ⟨wr.heap.size, o, none⟩ = false := fun o => frozen_of_row u1 wr.heap.size o _ _ ((hbu.block wr.heap.size (by simp)).trans (heap_alloc_new wr.drew _))
        have hku : wr.heap.size < u1.heap.size := by have := hbu.size; simp at this; omega
        refine hK _ _ (fun _ => hSall _ hbx) ?_
        clear hK K
        (try simp only [zA, zB, zC, Act.put, zD, zE, zF])
        refine tk 6 (.tuple #[.agg #[.int .i64 0, .int .i64 0], .bool false]) ?_ (hSall _ (by with_reducible repeat (first | exact Below.refl _ _ | assumption | exact below_new _ _ | apply below_drewN | apply Below.drew | refine below_set (Nat.le_refl _) ?_ _ | (refine below_set ?_ ?_ _; omega) | refine Below.alloc ?_ (by first | omega | (simp; omega) | simp) _))) ?_
        ·intro w' hSw
         go_simp
        (try simp only [zA, zB, zC, Act.put, zD, zE, zF])
        refine tk 7 (.agg #[.int .i64 0, .int .i64 0]) ?_ (hSall _ (by with_reducible repeat (first | exact Below.refl _ _ | assumption | exact below_new _ _ | apply below_drewN | apply Below.drew | refine below_set (Nat.le_refl _) ?_ _ | (refine below_set ?_ ?_ _; omega) | refine Below.alloc ?_ (by first | omega | (simp; omega) | simp) _))) ?_
        ·intro w' hSw
         go_simp
        (try simp only [zA, zB, zC, Act.put, zD, zE, zF])
        refine tk 8 (.bool false) ?_ (hSall _ (by with_reducible repeat (first | exact Below.refl _ _ | assumption | exact below_new _ _ | apply below_drewN | apply Below.drew | refine below_set (Nat.le_refl _) ?_ _ | (refine below_set ?_ ?_ _; omega) | refine Below.alloc ?_ (by first | omega | (simp; omega) | simp) _))) ?_
        ·intro w' hSw
         go_simp
        (try simp only [zA, zB, zC, Act.put, zD, zE, zF])
        refine ob_step (i := 10) (by kernel_rfl) rfl (fun K hK => ?_)
        go_simp
        refine hK _ _ (fun _ => (hSall _ (by with_reducible repeat (first | exact Below.refl _ _ | assumption | exact below_new _ _ | apply below_drewN | apply Below.drew | refine below_set (Nat.le_refl _) ?_ _ | (refine below_set ?_ ?_ _; omega) | refine Below.alloc ?_ (by first | omega | (simp; omega) | simp) _)))) ?_
        clear hK K
        (try simp only [zA, zB, zC, Act.put, zD, zE, zF])
        refine ob_step (i := 11) (by kernel_rfl) rfl (fun K hK => ?_)
        go_simp
        refine hK _ _ (fun _ => (hSall _ (by with_reducible repeat (first | exact Below.refl _ _ | assumption | exact below_new _ _ | apply below_drewN | apply Below.drew | refine below_set (Nat.le_refl _) ?_ _ | (refine below_set ?_ ?_ _; omega) | refine Below.alloc ?_ (by first | omega | (simp; omega) | simp) _)))) ?_
        clear hK K
        (try simp only [zA, zB, zC, Act.put, zD, zE, zF])
        refine ob_done (by kernel_rfl) (NoPanic.normal ?_) _
        exact Key.out _ _ (by with_reducible repeat (first | exact Below.refl _ _ | assumption | exact below_new _ _ | apply below_drewN | apply Below.drew | refine below_set (Nat.le_refl _) ?_ _ | (refine below_set ?_ ?_ _; omega) | refine Below.alloc ?_ (by first | omega | (simp; omega) | simp) _))
      | some z =>
       rw [show (⟨x.e, x.n⟩ : Port) = x from rfl, hnx] at HNx
       dsimp only [Option.getD_some, Option.isSome_some] at HNx
       have Hn := Lib.hid (show ys ++ [x] ++ (L.drop (q + 1)).filter (fun x => (nextOf p x).isSome) = xs ++ sideOk p s by rw [← hrq.out, Hdq.out]; simp [hnx])
       clear hnx
       go_wp2_with fail
       have hSall : ∀ w' : World, Below wr.heap.size wr w' → (w'.cell? ⟨w.heap.size, 0, none⟩ = some (.slice ae ne ce) ∧ w'.cell? ⟨w.heap.size, 1, none⟩ = some (.slice aj nj cj) ∧ w'.cell? ⟨w.heap.size, 2, none⟩ = some (.slice as_ ns cs) ∧ w'.cell? ⟨w.heap.size, 3, none⟩ = some (.slice al nl cl) ∧ w'.cell? ⟨w.heap.size, 4, none⟩ = some (.int .i64 p.top) ∧ w'.cell? ⟨w.heap.size, 5, none⟩ = some (.int .i64 p.brake) ∧ w'.cell? ⟨w.heap.size, 6, none⟩ = some (.int .i64 p.margin) ∧ w'.cell? ⟨w.heap.size, 7, none⟩ = some (.int .i64 p.throw) ∧ w'.cell? ⟨w.heap.size, 8, none⟩ = some (.bool p.hard) ∧ w'.cell? ⟨pl, ofl + q * 2, none⟩ = some (.int .i64 x.e) ∧ w'.cell? ⟨pl, ofl + q * 2 + 1, none⟩ = some (.int .i64 x.n)) := fun w' hb => ⟨(hb.cell (p := ⟨w.heap.size, 0, none⟩) hplb).trans c0, (hb.cell (p := ⟨w.heap.size, 1, none⟩) hplb).trans c1, (hb.cell (p := ⟨w.heap.size, 2, none⟩) hplb).trans c2, (hb.cell (p := ⟨w.heap.size, 3, none⟩) hplb).trans c3, (hb.cell (p := ⟨w.heap.size, 4, none⟩) hplb).trans c4, (hb.cell (p := ⟨w.heap.size, 5, none⟩) hplb).trans c5, (hb.cell (p := ⟨w.heap.size, 6, none⟩) hplb).trans c6, (hb.cell (p := ⟨w.heap.size, 7, none⟩) hplb).trans c7, (hb.cell (p := ⟨w.heap.size, 8, none⟩) hplb).trans c8, (hb.cell (p := ⟨pl, ofl + q * 2, none⟩) hpl).trans l1, (hb.cell (p := ⟨pl, ofl + q * 2 + 1, none⟩) hpl).trans l2⟩
       refine wp_region_noPanic ?_
       refine region_ob (S := fun w' => w'.cell? ⟨w.heap.size, 0, none⟩ = some (.slice ae ne ce) ∧ w'.cell? ⟨w.heap.size, 1, none⟩ = some (.slice aj nj cj) ∧ w'.cell? ⟨w.heap.size, 2, none⟩ = some (.slice as_ ns cs) ∧ w'.cell? ⟨w.heap.size, 3, none⟩ = some (.slice al nl cl) ∧ w'.cell? ⟨w.heap.size, 4, none⟩ = some (.int .i64 p.top) ∧ w'.cell? ⟨w.heap.size, 5, none⟩ = some (.int .i64 p.brake) ∧ w'.cell? ⟨w.heap.size, 6, none⟩ = some (.int .i64 p.margin) ∧ w'.cell? ⟨w.heap.size, 7, none⟩ = some (.int .i64 p.throw) ∧ w'.cell? ⟨w.heap.size, 8, none⟩ = some (.bool p.hard) ∧ w'.cell? ⟨pl, ofl + q * 2, none⟩ = some (.int .i64 x.e) ∧ w'.cell? ⟨pl, ofl + q * 2 + 1, none⟩ = some (.int .i64 x.n)) (ob := fun t => decide (t < 12)) (by kernel_rfl) ?_
       refine tk 0 (.agg #[.slice ae ne ce, .slice aj nj cj, .slice as_ ns cs, .slice al nl cl, .int .i64 p.top, .int .i64 p.brake, .int .i64 p.margin, .int .i64 p.throw, .bool p.hard]) ?_ (hSall _ (Below.refl _ _).drew) ?_
       ·intro w' hSw
        (try dsimp only at hSw)
        go_simp
       (try simp only [zA, zC, Act.put, zD, zE, zF])
       refine tk 1 (.slice (some ⟨pl, ofl, none⟩) nx cx) ?_ (hSall _ (Below.refl _ _).drew) ?_
       ·intro w' hSw
        (try dsimp only at hSw)
        go_simp
       (try simp only [zA, zB, zC, Act.put, zD, zE, zF])
       refine tk 2 (.int .i64 q) ?_ (hSall _ (Below.refl _ _).drew) ?_
       ·intro w' hSw
        (try dsimp only at hSw)
        go_simp
       (try simp only [zA, zB, zC, Act.put, zD, zE, zF])
       refine tk 3 (.pointer (some ⟨pl, ofl + q * 2, none⟩)) ?_ (hSall _ (Below.refl _ _).drew) ?_
       ·intro w' hSw
        (try dsimp only at hSw)
        go_simp
       (try simp only [zA, zB, zC, Act.put, zD, zE, zF])
       refine tk 4 (.agg #[.int .i64 x.e, .int .i64 x.n]) ?_ (hSall _ (Below.refl _ _).drew) ?_
       ·intro w' hSw
        (try dsimp only at hSw)
        go_simp
       (try simp only [zA, zB, zC, Act.put, zD, zE, zF])
       refine ob_name fun OPS hO R hR A hA => ?_
       have key : ∀ (w9 : World) (g : Nat), Below wr.heap.size wr w9 → R .normal ((((((A.put (some 72) (.tuple #[.agg #[.int .i64 z.e, .int .i64 z.n], .bool true])).put (some 66) (.tuple #[.agg #[.int .i64 z.e, .int .i64 z.n], .bool true])).put (some 73) (.agg #[.int .i64 z.e, .int .i64 z.n])).put (some 74) (.bool true)).put (some 11) (.pointer (some ⟨g, 0, none⟩))).put (some 12) (.bool true)) w9 := by
        intro w9 g hw9
        have Hw9 := Lib.hid hw9
        subst hO
        subst hR
        subst hA
        refine NoPanic.normal ?_
        (try simp only [Act.put, zD, zE, zF])
        clear hSall hw9 c0 c1 c2 c3 c4 c5 c6 c7 c8 l1 l2 hpl hplb
        obtain ⟨pl2, ofl2, ea, hpl, l1, l2⟩ := (HLq.out.below Hw9.out).prt Hgx.out
        cases ea
        go_wp2_with (at_builtin; refine wpList_appB encPort_len encPort_oneC _ rfl _ _ 115 rfl W0.heap.size 86 (.agg #[.int .i64 0, .int .i64 0]) 16 Try.underlying115 info_portC rfl (by decide) _ _ ys rfl ((owns_below HOq.out Hw9.out).alloc _) (some ⟨w9.heap.size, 0, none⟩) 1 1 [x] rfl (row_port1 (heap_alloc_new w9 _)) (by intro h; cases h) (by simp [maxLen]; omega) (by omega) (by have h1 := HBq.out.size; have h2 := Hw9.out.size; simp; omega) ?_)
        intro v10 w10 hown10 hgrow10 hbl10
        have hzz := hgrow10.size
        simp at hzz
        have hb10 : Below W0.heap.size W0 w10 := ((below_step HBq.out Hw9.out HBq.out.size).alloc (Nat.le_trans HBq.out.size Hw9.out.size) _).grown hgrow10 (by have h1 := HBq.out.size; have h2 := Hw9.out.size; simp; omega) (fun k hk => (HOq.out.lt k hk).1)
        have hL10 : PortsR w10 (some ⟨pl, ofl, none⟩) nx L := ((HLq.out.below Hw9.out).below (below_new1 w9 (.cells #[.int .i64 x.e, .int .i64 x.n] 86))).kept (fun k hk hlt => hgrow10.block k hlt (fun hc => (Hlq.out k hk).2 hc.symm))
        have hl10 : ∀ k, (some (⟨pl, ofl, none⟩ : Addr)).map (·.block) = some k → k < w10.heap.size ∧ v10.ownBlock ≠ some k := fun k hk => by
         obtain ⟨h1, h2⟩ := Hlq.out k hk
         have h3 := Hw9.out.size
         refine ⟨by omega, ?_⟩
         rcases hbl10 with h | h
         ·rw [h]; exact h2
         ·rw [h]; intro hc; simp at hc; omega
        go_wp2_with fail
        go_roundg (nx - q - 1)
        case measure => have := Hkq.out; omega
        case rel => exact ⟨q + 1, ys ++ [x], by have := Hkq.out; omega, by go_num, Lib.hid (by simpa using hown10), Hn.out, by simp; omega, hL10, hl10, hb10⟩
       subst hO
       subst hR
       subst hA
       simp only [Act.put, List.setIfInBounds_toArray, List.set_cons_zero, List.set_cons_succ] at key
       have Key := Lib.hid key
       clear key
       refine ob_some (js := [5, 9]) (by kernel_rfl) (by simp) (fun i hi => ?_)
       simp only [List.mem_cons, List.not_mem_nil, or_false] at hi
       rcases hi with rfl | rfl
       ·refine ⟨_, rfl, fun K hK => ?_⟩
        go_simp
        refine (HNx.out _ (Below.refl _ _).drew).mono ?_
        rintro en u1 ⟨rfl, hbu⟩
        have hbx : Below wr.heap.size wr u1 := (Below.refl wr.heap.size wr).drew.trans hbu
        have hzu := hbx.size
        refine hK _ _ (fun _ => hSall _ hbx) ?_
        clear hK K
        (try simp only [zA, zB, zC, Act.put, zD, zE, zF])
        refine tk 6 (.tuple #[.agg #[.int .i64 z.e, .int .i64 z.n], .bool true]) ?_ (hSall _ (by with_reducible repeat (first | exact Below.refl _ _ | assumption | exact below_new _ _ | apply below_drewN | apply Below.drew | refine below_set (Nat.le_refl _) ?_ _ | (refine below_set ?_ ?_ _; omega) | refine Below.alloc ?_ (by first | omega | (simp; omega) | simp) _))) ?_
        ·intro w' hSw
         go_simp
        (try simp only [zA, zB, zC, Act.put, zD, zE, zF])
        refine tk 7 (.agg #[.int .i64 z.e, .int .i64 z.n]) ?_ (hSall _ (by with_reducible repeat (first | exact Below.refl _ _ | assumption | exact below_new _ _ | apply below_drewN | apply Below.drew | refine below_set (Nat.le_refl _) ?_ _ | (refine below_set ?_ ?_ _; omega) | refine Below.alloc ?_ (by first | omega | (simp; omega) | simp) _))) ?_
        ·intro w' hSw
         go_simp
        (try simp only [zA, zB, zC, Act.put, zD, zE, zF])
        refine tk 8 (.bool true) ?_ (hSall _ (by with_reducible repeat (first | exact Below.refl _ _ | assumption | exact below_new _ _ | apply below_drewN | apply Below.drew | refine below_set (Nat.le_refl _) ?_ _ | (refine below_set ?_ ?_ _; omega) | refine Below.alloc ?_ (by first | omega | (simp; omega) | simp) _))) ?_
        ·intro w' hSw
         go_simp
        (try simp only [zA, zB, zC, Act.put, zD, zE, zF])
        refine ob_step (i := 9) (by kernel_rfl) rfl (fun K hK => ?_)
        go_simp
        refine hK _ _ (fun _ => (hSall _ (by with_reducible repeat (first | exact Below.refl _ _ | assumption | exact below_new _ _ | apply below_drewN | apply Below.drew | refine below_set (Nat.le_refl _) ?_ _ | (refine below_set ?_ ?_ _; omega) | refine Below.alloc ?_ (by first | omega | (simp; omega) | simp) _)))) ?_
        clear hK K
        (try simp only [zA, zB, zC, Act.put, zD, zE, zF])
        refine ob_step (i := 10) (by kernel_rfl) rfl (fun K hK => ?_)
        go_simp
        refine hK _ _ (fun _ => (hSall _ (by with_reducible repeat (first | exact Below.refl _ _ | assumption | exact below_new _ _ | apply below_drewN | apply Below.drew | refine below_set (Nat.le_refl _) ?_ _ | (refine below_set ?_ ?_ _; omega) | refine Below.alloc ?_ (by first | omega | (simp; omega) | simp) _)))) ?_
        clear hK K
        (try simp only [zA, zB, zC, Act.put, zD, zE, zF])
        refine ob_step (i := 11) (by kernel_rfl) rfl (fun K hK => ?_)
        go_simp
        refine hK _ _ (fun _ => (hSall _ (by with_reducible repeat (first | exact Below.refl _ _ | assumption | exact below_new _ _ | apply below_drewN | apply Below.drew | refine below_set (Nat.le_refl _) ?_ _ | (refine below_set ?_ ?_ _; omega) | refine Below.alloc ?_ (by first | omega | (simp; omega) | simp) _)))) ?_
        clear hK K
        (try simp only [zA, zB, zC, Act.put, zD, zE, zF])
        refine ob_done (by kernel_rfl) (NoPanic.normal ?_) _
        exact Key.out _ _ (by with_reducible repeat (first | exact Below.refl _ _ | assumption | exact below_new _ _ | apply below_drewN | apply Below.drew | refine below_set (Nat.le_refl _) ?_ _ | (refine below_set ?_ ?_ _; omega) | refine Below.alloc ?_ (by first | omega | (simp; omega) | simp) _))
       ·refine ⟨_, rfl, fun K hK => ?_⟩
        go_simp
        refine hK _ _ (fun _ => (hSall _ (by with_reducible repeat (first | exact Below.refl _ _ | assumption | exact below_new _ _ | apply below_drewN | apply Below.drew | refine below_set (Nat.le_refl _) ?_ _ | (refine below_set ?_ ?_ _; omega) | refine Below.alloc ?_ (by first | omega | (simp; omega) | simp) _)))) ?_
        clear hK K
        (try simp only [zA, zB, zC, Act.put, zD, zE, zF])
        have hba : Below wr.heap.size wr (wr.drew.alloc (.cells #[.int .i64 0, .int .i64 0] 86)) := (Below.refl _ _).drew.alloc (Nat.le_refl _) _
        refine ob_step (i := 5) (by kernel_rfl) rfl (fun K hK => ?_)
        go_simp
        refine (HNx.out _ hba).mono ?_
        rintro en u1 ⟨rfl, hbu⟩
        have hbx : Below wr.heap.size wr u1 := below_step hba hbu hba.size
        have k0 : u1.cell? ⟨wr.heap.size, 0, none⟩ = some (.int .i64 0) := (hbu.cell (p := ⟨wr.heap.size, 0, none⟩) (by simp)).trans (by go_simp)
        have k1 : u1.cell? ⟨wr.heap.size, 1, none⟩ = some (.int .i64 0) := (hbu.cell (p := ⟨wr.heap.size, 1, none⟩) (by simp)).trans (by go_simp)
        have kf : ∀ o, u1.frozen? ⟨wr.heap.size, o, none⟩ = false := fun o => frozen_of_row u1 wr.heap.size o _ _ ((hbu.block wr.heap.size (by simp)).trans (heap_alloc_new wr.drew _))
        have hku : wr.heap.size < u1.heap.size := by have := hbu.size; simp at this; omega
        refine hK _ _ (fun _ => hSall _ hbx) ?_
        clear hK K
        (try simp only [zA, zB, zC, Act.put, zD, zE, zF])
        refine tk 6 (.tuple #[.agg #[.int .i64 z.e, .int .i64 z.n], .bool true]) ?_ (hSall _ (by with_reducible repeat (first | exact Below.refl _ _ | assumption | exact below_new _ _ | apply below_drewN | apply Below.drew | refine below_set (Nat.le_refl _) ?_ _ | (refine below_set ?_ ?_ _; omega) | refine Below.alloc ?_ (by first | omega | (simp; omega) | simp) _))) ?_
        ·intro w' hSw
         go_simp
        (try simp only [zA, zB, zC, Act.put, zD, zE, zF])
        refine tk 7 (.agg #[.int .i64 z.e, .int .i64 z.n]) ?_ (hSall _ (by with_reducible repeat (first | exact Below.refl _ _ | assumption | exact below_new _ _ | apply below_drewN | apply Below.drew | refine below_set (Nat.le_refl _) ?_ _ | (refine below_set ?_ ?_ _; omega) | refine Below.alloc ?_ (by first | omega | (simp; omega) | simp) _))) ?_
        ·intro w' hSw
         go_simp
        (try simp only [zA, zB, zC, Act.put, zD, zE, zF])
        refine tk 8 (.bool true) ?_ (hSall _ (by with_reducible repeat (first | exact Below.refl _ _ | assumption | exact below_new _ _ | apply below_drewN | apply Below.drew | refine below_set (Nat.le_refl _) ?_ _ | (refine below_set ?_ ?_ _; omega) | refine Below.alloc ?_ (by first | omega | (simp; omega) | simp) _))) ?_
        ·intro w' hSw
         go_simp
        (try simp only [zA, zB, zC, Act.put, zD, zE, zF])
        refine ob_step (i := 10) (by kernel_rfl) rfl (fun K hK => ?_)
        go_simp
        refine hK _ _ (fun _ => (hSall _ (by with_reducible repeat (first | exact Below.refl _ _ | assumption | exact below_new _ _ | apply below_drewN | apply Below.drew | refine below_set (Nat.le_refl _) ?_ _ | (refine below_set ?_ ?_ _; omega) | refine Below.alloc ?_ (by first | omega | (simp; omega) | simp) _)))) ?_
        clear hK K
        (try simp only [zA, zB, zC, Act.put, zD, zE, zF])
        refine ob_step (i := 11) (by kernel_rfl) rfl (fun K hK => ?_)
        go_simp
        refine hK _ _ (fun _ => (hSall _ (by with_reducible repeat (first | exact Below.refl _ _ | assumption | exact below_new _ _ | apply below_drewN | apply Below.drew | refine below_set (Nat.le_refl _) ?_ _ | (refine below_set ?_ ?_ _; omega) | refine Below.alloc ?_ (by first | omega | (simp; omega) | simp) _)))) ?_
        clear hK K
        (try simp only [zA, zB, zC, Act.put, zD, zE, zF])
        refine ob_done (by kernel_rfl) (NoPanic.normal ?_) _
        exact Key.out _ _ (by with_reducible repeat (first | exact Below.refl _ _ | assumption | exact below_new _ _ | apply below_drewN | apply Below.drew | refine below_set (Nat.le_refl _) ?_ _ | (refine below_set ?_ ?_ _; omega) | refine Below.alloc ?_ (by first | omega | (simp; omega) | simp) _))
     ·have Hn := Lib.hid (show ys ++ (r.steps.drop (i + 1)).flatMap (sideOk p) = portsR p r by
       rw [← hrel2.out, Hd.out, List.flatMap_cons, ← List.append_assoc, ← hrq.out, drop_end HLq.out.len (by omega)]; simp)
      go_wp2_with fail
      go_roundg (sn - i - 1)
      case measure => have := Hk.out; omega
      case rel => exact ⟨i + 1, ys, by have := Hk.out; omega, by go_num, HOq.out, Hn.out, by have := Hkq.out; omega, HBq.out⟩
   subst hA
   clear HKK
   simp only [Act.put, List.setIfInBounds_toArray, List.set_cons_zero, List.set_cons_succ] at key
   have Key := Lib.hid key
   clear key
   by_cases hk2 : p.kind s.e = 2
   ·have d2 : (p.kind s.e == 2) = true := by simp [hk2]
    by_cases hmm : s.o ≤ s.i
    ·have HL0 : sidePorts p s = [⟨s.e, 3 - s.i⟩] := by unfold sidePorts; rw [if_pos hk2, Int.max_eq_left hmm]
     have hwr : IntKind.i64.wrap (3 - s.i) = 3 - s.i := IntWalk.i64_in _ (by omega)
     clear hk2
     go_wp2_with (at_builtin; refine wpList_appB encPort_len encPort_oneC _ rfl _ _ 115 rfl w5.heap.size 86 (.agg #[.int .i64 0, .int .i64 0]) 16 Try.underlying115 info_portC rfl (by decide) (.slice none 0 0) 0 [] rfl (World.ownsRow_nil _ _ _ _) (some ⟨w5.heap.size, 0, none⟩) 1 1 [⟨s.e, 3 - s.i⟩] rfl (row_port1 (heap_alloc_new w5 _)) (by intro h; cases h) (by simp [maxLen]) (by omega) (by simp) ?_)
     intro v7 w7 hown7 hgrow7 _
     have hown7 : w7.ownsRow w5.heap.size 86 2 v7 1 (List.flatMap encPort [⟨s.e, 3 - s.i⟩]) := by simpa using hown7
     obtain ⟨ax, cx, rfl, _, _⟩ := own_slice hown7
     have hb7 : Below w5.heap.size w5 w7 := (below_new1 w5 _).grown hgrow7 (by simp) (fun k hk => by cases hk)
     have HO7 := Lib.hid (owns_below HO5.out hb7)
     have HB7 := Lib.hid (below_step HB5.out hb7 HB5.out.size)
     obtain ⟨L, HL0'⟩ : ∃ L : List Port, L = [⟨s.e, 3 - s.i⟩] := ⟨_, rfl⟩
     have HL := Lib.hid (show sidePorts p s = L by rw [HL0', HL0])
     have HLr := Lib.hid (show PortsR w7 ax 1 L by rw [HL0']; exact (owns_row encPort_len hown7 (by decide)).1)
     have Hlb := Lib.hid (show ∀ k, ax.map (·.block) = some k → k < w7.heap.size ∧ (Value.slice ao xs.length co).ownBlock ≠ some k from fun k hk => by
      have h1 := own_blocks hown7 (Nat.le_refl _) k hk
      refine ⟨h1.2, fun hc => ?_⟩
      have := (HO5.out.lt k hc).2
      omega)
     clear hown7 hgrow7 hb7 HL0 HL0' s0 s1 s2 HO5 HB5 Hb5
     go_wp2_with fail
     exact Key.out _ _ _ _ _ _ _ _ _ _ _ _ _ _ _ _ _ _ _ _ _ _ _ _ _ _ _ _ _ _ _ _ _ ax 1 cx L _ HL (by omega) HO7 HLr Hlb HB7
    ·have HL0 : sidePorts p s = [⟨s.e, 3 - s.o⟩] := by unfold sidePorts; rw [if_pos hk2, Int.max_eq_right (by omega)]
     have hwr : IntKind.i64.wrap (3 - s.o) = 3 - s.o := IntWalk.i64_in _ (by omega)
     clear hk2
     go_wp2_with (at_builtin; refine wpList_appB encPort_len encPort_oneC _ rfl _ _ 115 rfl w5.heap.size 86 (.agg #[.int .i64 0, .int .i64 0]) 16 Try.underlying115 info_portC rfl (by decide) (.slice none 0 0) 0 [] rfl (World.ownsRow_nil _ _ _ _) (some ⟨w5.heap.size, 0, none⟩) 1 1 [⟨s.e, 3 - s.o⟩] rfl (row_port1 (heap_alloc_new w5 _)) (by intro h; cases h) (by simp [maxLen]) (by omega) (by simp) ?_)
     intro v7 w7 hown7 hgrow7 _
     have hown7 : w7.ownsRow w5.heap.size 86 2 v7 1 (List.flatMap encPort [⟨s.e, 3 - s.o⟩]) := by simpa using hown7
     obtain ⟨ax, cx, rfl, _, _⟩ := own_slice hown7
     have hb7 : Below w5.heap.size w5 w7 := (below_new1 w5 _).grown hgrow7 (by simp) (fun k hk => by cases hk)
     have HO7 := Lib.hid (owns_below HO5.out hb7)
     have HB7 := Lib.hid (below_step HB5.out hb7 HB5.out.size)
     obtain ⟨L, HL0'⟩ : ∃ L : List Port, L = [⟨s.e, 3 - s.o⟩] := ⟨_, rfl⟩
     have HL := Lib.hid (show sidePorts p s = L by rw [HL0', HL0])
     have HLr := Lib.hid (show PortsR w7 ax 1 L by rw [HL0']; exact (owns_row encPort_len hown7 (by decide)).1)
     have Hlb := Lib.hid (show ∀ k, ax.map (·.block) = some k → k < w7.heap.size ∧ (Value.slice ao xs.length co).ownBlock ≠ some k from fun k hk => by
      have h1 := own_blocks hown7 (Nat.le_refl _) k hk
      refine ⟨h1.2, fun hc => ?_⟩
      have := (HO5.out.lt k hc).2
      omega)
     clear hown7 hgrow7 hb7 HL0 HL0' s0 s1 s2 HO5 HB5 Hb5
     go_wp2_with fail
     exact Key.out _ _ _ _ _ _ _ _ _ _ _ _ _ _ _ _ _ _ _ _ _ _ _ _ _ _ _ _ _ _ _ _ _ ax 1 cx L _ HL (by omega) HO7 HLr Hlb HB7
   ·have d2 : (p.kind s.e == 2) = false := by simpa using hk2
    by_cases hk3 : p.kind s.e = 3
    ·have d3 : (p.kind s.e == 3) = true := by simp [hk3]
     by_cases hi2 : 2 ≤ s.i
     ·have d4 : decide (2 ≤ s.i) = true := by simpa using hi2
      have HL0 : sidePorts p s = [⟨s.e, 0⟩, ⟨s.e, 1⟩] := by unfold sidePorts; rw [if_neg hk2, if_pos hk3, if_pos hi2]
      clear hk2 hk3
      go_wp2_with (at_builtin; refine wpList_appB encPort_len encPort_oneC _ rfl _ _ 115 rfl w5.heap.size 86 (.agg #[.int .i64 0, .int .i64 0]) 16 Try.underlying115 info_portC rfl (by decide) (.slice none 0 0) 0 [] rfl (World.ownsRow_nil _ _ _ _) (some ⟨w5.heap.size, 0, none⟩) 2 2 [⟨s.e, 0⟩, ⟨s.e, 1⟩] rfl (row_port2 (heap_alloc_new w5 _)) (by intro h; cases h) (by simp [maxLen]) (by omega) (by simp) ?_)
      intro v7 w7 hown7 hgrow7 _
      have hown7 : w7.ownsRow w5.heap.size 86 2 v7 2 (List.flatMap encPort [⟨s.e, 0⟩, ⟨s.e, 1⟩]) := by simpa using hown7
      obtain ⟨ax, cx, rfl, _, _⟩ := own_slice hown7
      have hb7 : Below w5.heap.size w5 w7 := (below_new1 w5 _).grown hgrow7 (by simp) (fun k hk => by cases hk)
      have HO7 := Lib.hid (owns_below HO5.out hb7)
      have HB7 := Lib.hid (below_step HB5.out hb7 HB5.out.size)
      obtain ⟨L, HL0'⟩ : ∃ L : List Port, L = [⟨s.e, 0⟩, ⟨s.e, 1⟩] := ⟨_, rfl⟩
      have HL := Lib.hid (show sidePorts p s = L by rw [HL0', HL0])
      have HLr := Lib.hid (show PortsR w7 ax 2 L by rw [HL0']; exact (owns_row encPort_len hown7 (by decide)).1)
      have Hlb := Lib.hid (show ∀ k, ax.map (·.block) = some k → k < w7.heap.size ∧ (Value.slice ao xs.length co).ownBlock ≠ some k from fun k hk => by
       have h1 := own_blocks hown7 (Nat.le_refl _) k hk
       refine ⟨h1.2, fun hc => ?_⟩
       have := (HO5.out.lt k hc).2
       omega)
      clear hown7 hgrow7 hb7 HL0 HL0' s0 s1 s2 HO5 HB5 Hb5
      go_wp2_with fail
      exact Key.out _ _ _ _ _ _ _ _ _ _ _ _ _ _ _ _ _ _ _ _ _ _ _ _ _ _ _ _ _ _ _ _ _ ax 2 cx L _ HL (by omega) HO7 HLr Hlb HB7
     ·have d4 : decide (2 ≤ s.i) = false := by simpa using hi2
      have HL0 : sidePorts p s = [⟨s.e, 2⟩, ⟨s.e, 3⟩] := by unfold sidePorts; rw [if_neg hk2, if_pos hk3, if_neg hi2]
      clear hk2 hk3
      go_wp2_with (at_builtin; refine wpList_appB encPort_len encPort_oneC _ rfl _ _ 115 rfl w5.heap.size 86 (.agg #[.int .i64 0, .int .i64 0]) 16 Try.underlying115 info_portC rfl (by decide) (.slice none 0 0) 0 [] rfl (World.ownsRow_nil _ _ _ _) (some ⟨w5.heap.size, 0, none⟩) 2 2 [⟨s.e, 2⟩, ⟨s.e, 3⟩] rfl (row_port2 (heap_alloc_new w5 _)) (by intro h; cases h) (by simp [maxLen]) (by omega) (by simp) ?_)
      intro v7 w7 hown7 hgrow7 _
      have hown7 : w7.ownsRow w5.heap.size 86 2 v7 2 (List.flatMap encPort [⟨s.e, 2⟩, ⟨s.e, 3⟩]) := by simpa using hown7
      obtain ⟨ax, cx, rfl, _, _⟩ := own_slice hown7
      have hb7 : Below w5.heap.size w5 w7 := (below_new1 w5 _).grown hgrow7 (by simp) (fun k hk => by cases hk)
      have HO7 := Lib.hid (owns_below HO5.out hb7)
      have HB7 := Lib.hid (below_step HB5.out hb7 HB5.out.size)
      obtain ⟨L, HL0'⟩ : ∃ L : List Port, L = [⟨s.e, 2⟩, ⟨s.e, 3⟩] := ⟨_, rfl⟩
      have HL := Lib.hid (show sidePorts p s = L by rw [HL0', HL0])
      have HLr := Lib.hid (show PortsR w7 ax 2 L by rw [HL0']; exact (owns_row encPort_len hown7 (by decide)).1)
      have Hlb := Lib.hid (show ∀ k, ax.map (·.block) = some k → k < w7.heap.size ∧ (Value.slice ao xs.length co).ownBlock ≠ some k from fun k hk => by
       have h1 := own_blocks hown7 (Nat.le_refl _) k hk
       refine ⟨h1.2, fun hc => ?_⟩
       have := (HO5.out.lt k hc).2
       omega)
      clear hown7 hgrow7 hb7 HL0 HL0' s0 s1 s2 HO5 HB5 Hb5
      go_wp2_with fail
      exact Key.out _ _ _ _ _ _ _ _ _ _ _ _ _ _ _ _ _ _ _ _ _ _ _ _ _ _ _ _ _ _ _ _ _ ax 2 cx L _ HL (by omega) HO7 HLr Hlb HB7
    ·have d3 : (p.kind s.e == 3) = false := by simpa using hk3
     have HL := Lib.hid (show sidePorts p s = [] by unfold sidePorts; rw [if_neg hk2, if_neg hk3])
     have Hlb := Lib.hid (show ∀ k, (none : Option Addr).map (·.block) = some k → k < w5.heap.size ∧ (Value.slice ao xs.length co).ownBlock ≠ some k from fun k hk => (by cases hk))
     clear s0 s1 s2 Hb5 hk2 hk3
     go_wp2_with fail
     exact Key.out _ _ _ _ _ _ _ _ _ _ _ _ _ _ _ _ _ _ _ _ _ _ _ _ _ _ _ _ _ _ _ _ _ none 0 0 [] _ HL (by omega) HO5 (Lib.hid (Row.nil _ _)) Hlb HB5
  ·go_wp2_with fail
   go_ret
   refine ⟨ao, _, co, rfl, ?_, fun h => (hoc h).2, own_blocks HO.out Hb0.out.size, below_step Hb0.out HB.out Hb0.out.size⟩
   have h1 := (owns_row encPort_len HO.out (by decide)).1
   rwa [← hrel2.out, drop_end Hlen.out (by omega), List.flatMap_nil, List.append_nil]
end Go.Proofs.Ytnkpiijljfjmkaa
