/- Walks of sight.ports, Berth, InLoop and of semaphoreref6.ports, InLoop. Condition: the receiver is a net; the plan is read. -/
import Derived.Test.YtackcfoplhhnbaaWalkW4
set_option maxRecDepth 1000000
namespace Go.Proofs.Ytackcfoplhhnbaa
open Go.ChangeShapes Go.WideShapes Go.ChangeAt Go.RowKit Go.Sort

/-- the ports of the first elements -/
def portsTo (p : Plan) (j : Nat) : Int := ((p.elems.take j).map fun e => ends e.kind).sum
theorem portsTo_snoc {p : Plan} {j : Nat} {x : Elem} (h : p.elems[j]? = some x) : portsTo p (j + 1) = portsTo p j + ends (p.kind (j : Int)) := by
  have hk : p.kind (j : Int) = x.kind := by
    unfold Plan.kind; rw [elem_get (by omega) (show p.elems[((j : Nat) : Int).toNat]? = some x by simpa using h)]
  unfold portsTo; rw [take_snoc_get h, hk]; simp
theorem portsTo_bound (p : Plan) (j : Nat) : 0 ≤ portsTo p j ∧ portsTo p j ≤ 4 * j := by
  have key : ∀ l : List Elem, 0 ≤ (l.map fun e => ends e.kind).sum ∧ (l.map fun e => ends e.kind).sum ≤ 4 * l.length := by
    intro l
    induction l with
    | nil => simp
    | cons x r ih =>
      have := ends_nonneg x.kind
      simp only [List.map_cons, List.sum_cons, List.length_cons]
      omega
  have := key (p.elems.take j)
  unfold portsTo
  have h2 : (p.elems.take j).length ≤ j := by simp; omega
  omega
theorem portsTo_all {p : Plan} {j : Nat} (h : p.elems.length ≤ j) : portsTo p j = portsNo p := by unfold portsTo portsNo; rw [List.take_of_length_le h]
theorem ports_bound {p : Plan} (h : chk p = 0) : 0 ≤ portsNo p ∧ portsNo p ≤ 160 := by
  have h1 := portsTo_bound p p.elems.length
  rw [portsTo_all (Nat.le_refl _)] at h1
  have := elems_few h
  omega
set_option maxHeartbeats 1000000 in
theorem nports_any (w : World) (b : Nat) (p : Plan) (hn : NetAt w b p) :
    Calls Try.prog 64 #[.pointer (some ⟨b, 0, none⟩)] w fun en w' => en = .returned (.int .i64 (portsNo p)) ∧ Below w.heap.size w w' := by
  have HN := Lib.hid hn
  have h40 := elems_few hn.ok
  obtain ⟨n, hln⟩ : ∃ n, p.elems.length = n := ⟨_, rfl⟩
  have HL := Lib.hid (nlen_any w b p hn)
  rw [hln] at HL
  have ln := Lib.hid hln
  have hn40 : n ≤ 40 := by omega
  clear hn h40 hln
  go_enter Try.func64, Try.ntmps64
  go_wp2_with fail
  refine HL.out.mono ?_
  rintro en w1 ⟨rfl, rfl⟩
  go_wp2_with fail
  go_loopg [3, 7] n (fun k s i wr => ∃ j : Nat, j + k = n ∧ s = .int .i64 (portsTo p j) ∧ i = .int .i64 j ∧ Below w.heap.size w wr)
  case atStart => exact ⟨0, by omega, by simp [portsTo], rfl, Below.refl _ _⟩
  case round =>
    obtain ⟨j, hk, rfl, rfl, hb⟩ := hrel
    have Hk := Lib.hid hk; clear hk
    have Hb := Lib.hid hb; clear hb
    by_cases hlt : j < n
    · obtain ⟨x, hx⟩ := get_some ln.out hlt
      have HK := Lib.hid (nkind_any wr b p (HN.out.below Hb.out) (j : Int))
      have Hs := Lib.hid (portsTo_snoc hx)
      have m1 := portsTo_bound p j
      have m2 := ends_nonneg (p.kind (j : Int))
      have hwr : IntKind.i64.wrap (portsTo p j + ends (p.kind (j : Int))) = portsTo p j + ends (p.kind (j : Int)) := IntWalk.i64_in _ (by omega)
      clear hx m1 m2
      go_wp2_with fail
      refine HK.out.mono ?_
      rintro en w1 ⟨rfl, hb1⟩
      have Hb1 := Lib.hid (below_step Hb.out hb1 Hb.out.size)
      clear hb1
      go_wp2_with fail
      refine (ends_any _ _).mono ?_
      rintro en w2 ⟨rfl, rfl⟩
      go_wp2_with fail
      go_roundg (gk - 1)
      case measure => have := Hk.out; omega
      case rel => exact ⟨j + 1, by have := Hk.out; omega, by rw [Hs.out], by go_num, Hb1.out⟩
    · have Hs := Lib.hid (portsTo_all (p := p) (j := j) (by have := ln.out; omega))
      go_wp2_with fail
      go_ret
      exact ⟨ret_int Hs.out, Hb.out⟩
set_option maxHeartbeats 1000000 in
theorem refports_any (w : World) (pv : PV) (p : Plan) (h : PlanAt w pv p) (hc : chk p = 0) :
    Calls Try.prog 65 #[pv.val p] w fun en w' => en = .returned (.int .i64 (portsNo p)) ∧ Below w.heap.size w w' := by
  obtain ⟨ae, ne, ce, aj, nj, cj, as_, ns, cs, al, nl, cl, lv⟩ := pv
  have hP := Lib.hid h
  have HBa := Lib.hid (pbox_new w ⟨ae, ne, ce, aj, nj, cj, as_, ns, cs, al, nl, cl, lv⟩ p)
  have he : Elems w ae ne p.elems := h.e
  have le := Lib.hid he.len
  have He := Lib.hid he
  have hne : ne ≤ 40 := by have := elems_few hc; have := he.len; omega
  clear h hc he
  dsimp only [PV.val]
  go_enter Try.func65, Try.ntmps65
  go_wp2_with fail
  go_loopg [3, 4] ne (fun k s i wr => ∃ j : Nat, j + k = ne ∧ s = .int .i64 (portsTo p j) ∧ i = .int .i64 j ∧ wr = w.alloc (.cells #[.slice ae ne ce, .slice aj nj cj, .slice as_ ns cs, .slice al nl cl, .int .i64 p.top, .int .i64 p.brake, .int .i64 p.margin, .int .i64 p.throw, .bool p.hard] 27))
  case atStart => exact ⟨0, by omega, by simp [portsTo], rfl, rfl⟩
  case round =>
    obtain ⟨j, hk, rfl, rfl, rfl⟩ := hrel
    have Hk := Lib.hid hk; clear hk
    by_cases hlt : j < ne
    · obtain ⟨x, hx⟩ := get_some le.out hlt
      obtain ⟨pb, off, rfl, hpb, g1, g2, g3⟩ := He.out.elem hx
      have hkd : p.kind (j : Int) = x.kind := by
        unfold Plan.kind; rw [elem_get (by omega) (show p.elems[((j : Nat) : Int).toNat]? = some x by simpa using hx)]
      have Hs := Lib.hid (portsTo_snoc hx)
      have m1 := portsTo_bound p j
      have m2 := ends_nonneg (p.kind (j : Int))
      rw [hkd] at Hs m2
      have hwr : IntKind.i64.wrap (portsTo p j + ends x.kind) = portsTo p j + ends x.kind := IntWalk.i64_in _ (by omega)
      clear hx m1 m2 hkd
      go_wp2_with fail
      refine (refends_any _ _).mono ?_
      rintro en w2 ⟨rfl, rfl⟩
      go_wp2_with fail
      go_roundg (gk - 1)
      case measure => have := Hk.out; omega
      case rel => exact ⟨j + 1, by have := Hk.out; omega, by rw [Hs.out], by go_num, rfl⟩
    · have Hs := Lib.hid (portsTo_all (p := p) (j := j) (by have := le.out; omega))
      go_wp2_with fail
      go_ret
      exact ⟨ret_int Hs.out, below_new _ _⟩
theorem nberth_any (w : World) (b : Nat) (p : Plan) (hn : NetAt w b p) (s : Int) :
    Calls Try.prog 34 #[.pointer (some ⟨b, 0, none⟩), .int .i64 s] w fun en w' => en = .returned (.tuple #[.int .i64 ((sigAt p s).getD zeroPort).e, .bool (sigAt p s).isSome]) ∧ Below w.heap.size w w' := by
  have H := Lib.hid (nat_any w b p hn s)
  clear hn
  go_enter Try.func34, Try.ntmps34
  go_wp2_with fail
  refine H.out.mono ?_
  rintro en w1 ⟨rfl, hb⟩
  go_wp2_with fail
  go_ret2
  exact ⟨rfl, hb.alloc hb.size _⟩
def inLoop (p : Plan) (h : Port) (left : Int) : Bool := decide (0 ≤ reads p h) && (decide (0 ≤ left) && decide (left ≤ p.margin))
theorem run_margin (a b c d : Value) (t k m th : Int) (hd : Bool) (w : World) : (Instr.field 27 (.agg #[a, b, c, d, .int .i64 t, .int .i64 k, .int .i64 m, .int .i64 th, .bool hd]) 6).run Try.prog w = .ok (.int .i64 m) w := by kernel_rfl
theorem inLoop_r {p : Plan} {h : Port} {l : Int} (r : ¬ 0 ≤ reads p h) : inLoop p h l = false := by simp [inLoop, r]
theorem inLoop_l {p : Plan} {h : Port} {l : Int} (r : ¬ 0 ≤ l) : inLoop p h l = false := by simp [inLoop, r]
theorem inLoop_m {p : Plan} {h : Port} {l : Int} (r0 : 0 ≤ reads p h) (r1 : 0 ≤ l) : inLoop p h l = decide (l ≤ p.margin) := by simp [inLoop, r0, r1]
set_option maxHeartbeats 1000000 in
theorem ninloop_any (w : World) (b : Nat) (p : Plan) (hn : NetAt w b p) (hd : Port) (hw : hd.wf) (left : Int) :
    Calls Try.prog 36 #[.pointer (some ⟨b, 0, none⟩), hd.val, .int .i64 left] w fun en w' => en = .returned (.bool (inLoop p hd left)) ∧ Below w.heap.size w w' := by
  dsimp only [Port.val]
  have Hba := Lib.hid (below_new w (.cells #[.int .i64 hd.e, .int .i64 hd.n] 30))
  have HN := Lib.hid hn
  have HR := Lib.hid (nreads_any _ b p (hn.below Hba.out) hd hw)
  dsimp only [Port.val] at HR
  clear hn
  by_cases r0 : 0 ≤ reads p hd
  · by_cases l0 : 0 ≤ left
    · have Hs := Lib.hid (inLoop_m r0 l0)
      go_enter Try.func36, Try.ntmps36
      go_wp2_with fail
      refine HR.out.mono ?_
      rintro en w1 ⟨rfl, hb1⟩
      have Hb1 := Lib.hid (below_step Hba.out hb1 Hba.out.size)
      clear hb1
      go_wp2_with fail
      refine (nplan_any _ b p (HN.out.below Hb1.out)).mono ?_
      rintro en w2 ⟨⟨be, me, fe, bj, mj, fj, bs, ms, fs, bl, ml, fl, lq⟩, rfl, _, _, hb2⟩
      dsimp only [PV.val]
      have hf := run_margin (.slice be me fe) (.slice bj mj fj) (.slice bs ms fs) (.slice bl ml fl) p.top p.brake p.margin p.throw p.hard w2
      go_wp2_with fail
      go_ret
      exact ⟨ret_bool Hs.out.symm, below_step Hb1.out hb2 Hb1.out.size⟩
    · have Hs := Lib.hid (inLoop_l (p := p) (h := hd) l0)
      have l1 : left < 0 := by omega
      go_enter Try.func36, Try.ntmps36
      go_wp2_with fail
      refine HR.out.mono ?_
      rintro en w1 ⟨rfl, hb1⟩
      have Hb1 := Lib.hid (below_step Hba.out hb1 Hba.out.size)
      clear hb1
      go_wp2_with fail
      go_ret
      exact ⟨ret_bool Hs.out.symm, Hb1.out⟩
  · have Hs := Lib.hid (inLoop_r (l := left) r0)
    have r1 : reads p hd < 0 := by omega
    go_enter Try.func36, Try.ntmps36
    go_wp2_with fail
    refine HR.out.mono ?_
    rintro en w1 ⟨rfl, hb1⟩
    have Hb1 := Lib.hid (below_step Hba.out hb1 Hba.out.size)
    clear hb1
    go_wp2_with fail
    go_ret
    exact ⟨ret_bool Hs.out.symm, Hb1.out⟩
set_option maxHeartbeats 1000000 in
theorem refinloop_any (w : World) (pv : PV) (p : Plan) (h : PlanAt w pv p) (hd : Port) (left : Int) :
    Calls Try.prog 37 #[pv.val p, hd.val, .int .i64 left] w fun en w' => en = .returned (.bool (inLoop p hd left)) ∧ Below w.heap.size w w' := by
  obtain ⟨ae, ne, ce, aj, nj, cj, as_, ns, cs, al, nl, cl, lv⟩ := pv
  dsimp only [PV.val, Port.val]
  have hP := Lib.hid h
  have Hba := Lib.hid (below_new2 w (.cells #[.slice ae ne ce, .slice aj nj cj, .slice as_ ns cs, .slice al nl cl, .int .i64 p.top, .int .i64 p.brake, .int .i64 p.margin, .int .i64 p.throw, .bool p.hard] 27) (.cells #[.int .i64 hd.e, .int .i64 hd.n] 30))
  have HBa := Lib.hid ((pbox_new w ⟨ae, ne, ce, aj, nj, cj, as_, ns, cs, al, nl, cl, lv⟩ p).below (below_new _ (.cells #[.int .i64 hd.e, .int .i64 hd.n] 30)))
  have HR := Lib.hid (refreads_l (a := hd.e) (b := hd.n) (h.below Hba.out))
  rw [show (⟨hd.e, hd.n⟩ : Port) = hd from rfl] at HR
  clear h
  obtain ⟨_, c0, c1, c2, c3, c4, c5, c6, c7, c8⟩ := HBa.out
  dsimp only at c0 c1 c2 c3
  by_cases r0 : 0 ≤ reads p hd
  · by_cases l0 : 0 ≤ left
    · have Hs := Lib.hid (inLoop_m r0 l0)
      go_enter Try.func37, Try.ntmps37
      go_wp2_with fail
      refine HR.out.mono ?_
      rintro en w1 ⟨rfl, hb1⟩
      have Hb1 := Lib.hid (below_step Hba.out hb1 Hba.out.size)
      have HB1 := Lib.hid (HBa.out.below hb1)
      clear hb1 c0 c1 c2 c3 c4 c5 c6 c7 c8
      obtain ⟨_, c0, c1, c2, c3, c4, c5, c6, c7, c8⟩ := HB1.out
      go_wp2_with fail
      go_ret
      exact ⟨ret_bool Hs.out.symm, Hb1.out⟩
    · have Hs := Lib.hid (inLoop_l (p := p) (h := hd) l0)
      have l1 : left < 0 := by omega
      go_enter Try.func37, Try.ntmps37
      go_wp2_with fail
      refine HR.out.mono ?_
      rintro en w1 ⟨rfl, hb1⟩
      have Hb1 := Lib.hid (below_step Hba.out hb1 Hba.out.size)
      clear hb1
      go_wp2_with fail
      go_ret
      exact ⟨ret_bool Hs.out.symm, Hb1.out⟩
  · have Hs := Lib.hid (inLoop_r (l := left) r0)
    have r1 : reads p hd < 0 := by omega
    go_enter Try.func37, Try.ntmps37
    go_wp2_with fail
    refine HR.out.mono ?_
    rintro en w1 ⟨rfl, hb1⟩
    have Hb1 := Lib.hid (below_step Hba.out hb1 Hba.out.size)
    clear hb1
    go_wp2_with fail
    go_ret
    exact ⟨ret_bool Hs.out.symm, Hb1.out⟩
end Go.Proofs.Ytackcfoplhhnbaa
