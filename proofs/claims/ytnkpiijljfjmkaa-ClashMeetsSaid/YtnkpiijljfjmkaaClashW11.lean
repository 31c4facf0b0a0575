/- Walks of semaphoreref12.Of and All. Condition: the plan is read; it is one that may be. -/
import Derived.Test.YtnkpiijljfjmkaaClashW8
import Derived.Test.YtnkpiijljfjmkaaClashW9
set_option maxRecDepth 1000000
namespace Go.Proofs.Ytnkpiijljfjmkaa
open Go.ChangeShapes Go.WideShapes Go.ChangeAt Go.RowKit Go.Sort

theorem on_l {w : World} {ae aj as_ al : Option Addr} {ne ce nj cj ns cs nl cl : Nat} {lv : List LineV} {p : Plan} (h : PlanAt w ⟨ae, ne, ce, aj, nj, cj, as_, ns, cs, al, nl, cl, lv⟩ p) (hck : chk p = 0) (s : Int) (x : Port) (hx : x.wf) (am : Option Addr) (cm : Nat) (e : Int) (hm : Ints w am 1 [e]) (hmc : am = none → cm = 0) :
  Calls Try.prog 83 #[.agg #[.slice ae ne ce, .slice aj nj cj, .slice as_ ns cs, .slice al nl cl, .int .i64 p.top, .int .i64 p.brake, .int .i64 p.margin, .int .i64 p.throw, .bool p.hard], .agg #[.int .i64 s, .int .i64 0, .int .i64 0, .slice none 0 0, .slice none 0 0, .slice none 0 0, .slice none 0 0, .slice none 0 0, .bool false], .agg #[.int .i64 x.e, .int .i64 x.n], .slice am 1 cm] w (OnPost w (onR p 12 (road0 s) x [e])) :=
 on_any 12 w ⟨ae, ne, ce, aj, nj, cj, as_, ns, cs, al, nl, cl, lv⟩ p h hck ⟨none, 0, 0, none, 0, 0, none, 0, 0, none, 0, 0, none, 0, 0⟩ (road0 s)
  ⟨Row.nil _ _, Row.nil _ _, Row.nil _ _, Row.nil _ _, Row.nil _ _, ⟨fun _ => rfl, fun _ => rfl, fun _ => rfl, fun _ => rfl, fun _ => rfl, fun x hx => (by cases hx), fun x hx => (by cases hx), fun x hx => (by cases hx), fun x hx => (by cases hx), fun x hx => (by cases hx)⟩⟩
  rfl (Nat.le_refl _) x hx am 1 cm [e] hm hmc (by simp [road0])
set_option maxHeartbeats 4000000 in
theorem of_any (w : World) (pv : PV) (p : Plan) (h : PlanAt w pv p) (hck : chk p = 0) (s : Int) : Calls Try.prog 55 #[pv.val p, .int .i64 s] w (OnPost w (ofR p s)) := by
 obtain ⟨ae, ne, ce, aj, nj, cj, as_, ns, cs, al, nl, cl, lv⟩ := pv
 have Hb0 := Lib.hid (below_new w (.cells #[.slice ae ne ce, .slice aj nj cj, .slice as_ ns cs, .slice al nl cl, .int .i64 p.top, .int .i64 p.brake, .int .i64 p.margin, .int .i64 p.throw, .bool p.hard] 27))
 have HB0 := Lib.hid (pbox_new w ⟨ae, ne, ce, aj, nj, cj, as_, ns, cs, al, nl, cl, lv⟩ p)
 have hP := Lib.hid h
 have Hc := Lib.hid hck
 have HA := Lib.hid (refat_l (s := s) (h.below Hb0.out))
 clear h hck
 dsimp only [PV.val]
 obtain ⟨_, c0, c1, c2, c3, c4, c5, c6, c7, c8⟩ := HB0.out
 dsimp only at c0 c1 c2 c3
 cases hs : sigAt p s with
 | none =>
  have Hn := Lib.hid (show ofR p s = [] by unfold ofR; rw [hs])
  rw [hs] at HA
  dsimp only [Option.getD_none, Option.isSome_none, zeroPort] at HA
  clear hs
  go_enter Try.func55, Try.ntmps55
  go_wp2_with fail
  refine HA.out.mono ?_
  rintro en w1 ⟨rfl, hb1⟩
  go_wp2_with fail
  go_ret
  exact ⟨_, [], rfl, by rw [Hn.out]; rfl, OwnR.nil _ _, below_step Hb0.out (hb1.alloc hb1.size _) Hb0.out.size⟩
 | some at_ =>
  rw [hs] at HA
  dsimp only [Option.getD_some, Option.isSome_some] at HA
  go_enter Try.func55, Try.ntmps55
  go_wp2_with fail
  refine HA.out.mono ?_
  rintro en w1 ⟨rfl, hb1⟩
  have Hv1 := Lib.hid (below_step Hb0.out (hb1.alloc hb1.size (.cells #[.int .i64 at_.e, .int .i64 at_.n] 86)) Hb0.out.size)
  have HBv := Lib.hid (HB0.out.below (hb1.alloc hb1.size (.cells #[.int .i64 at_.e, .int .i64 at_.n] 86)))
  have HN := Lib.hid (refnext_l (a := at_.e) (b := at_.n) (hP.out.below Hv1.out))
  clear hb1 HA c0 c1 c2 c3 c4 c5 c6 c7 c8
  obtain ⟨_, c0, c1, c2, c3, c4, c5, c6, c7, c8⟩ := HBv.out
  dsimp only at c0 c1 c2 c3
  cases hn : nextOf p at_ with
  | none =>
   have Hn := Lib.hid (show ofR p s = [] by unfold ofR; rw [hs]; dsimp only; rw [hn])
   rw [show (⟨at_.e, at_.n⟩ : Port) = at_ from rfl, hn] at HN
   dsimp only [Option.getD_none, Option.isSome_none, zeroPort] at HN
   clear hs hn
   go_wp2_with fail
   refine HN.out.mono ?_
   rintro en w2 ⟨rfl, hb2⟩
   go_wp2_with fail
   go_ret
   exact ⟨_, [], rfl, by rw [Hn.out]; rfl, OwnR.nil _ _, below_step Hv1.out (hb2.alloc hb2.size _) Hv1.out.size⟩
  | some x =>
   have Hn := Lib.hid (show ofR p s = onR p 12 (road0 s) x [at_.e] by unfold ofR; rw [hs]; dsimp only; rw [hn])
   have hxw := next_wfC hP.out.fit hn
   rw [show (⟨at_.e, at_.n⟩ : Port) = at_ from rfl, hn] at HN
   dsimp only [Option.getD_some, Option.isSome_some] at HN
   clear hs hn
   go_wp2_with fail
   refine HN.out.mono ?_
   rintro en w2 ⟨rfl, hb2⟩
   have Hv2 := Lib.hid (below_step Hv1.out ((hb2.alloc hb2.size (.cells #[.int .i64 x.e, .int .i64 x.n] 86))) Hv1.out.size)
   have HB2 := Lib.hid (HBv.out.below (hb2.alloc hb2.size (.cells #[.int .i64 x.e, .int .i64 x.n] 86)))
   have a0 : (w2.alloc (.cells #[.int .i64 x.e, .int .i64 x.n] 86)).cell? ⟨w1.heap.size, 0, none⟩ = some (.int .i64 at_.e) := ((hb2.alloc hb2.size (.cells #[.int .i64 x.e, .int .i64 x.n] 86)).cell (p := ⟨w1.heap.size, 0, none⟩) (by simp)).trans (by go_simp)
   have hw12 : w1.heap.size < w2.heap.size := by have := hb2.size; simp at this; omega
   clear hb2 HN c0 c1 c2 c3 c4 c5 c6 c7 c8
   obtain ⟨_, c0, c1, c2, c3, c4, c5, c6, c7, c8⟩ := HB2.out
   dsimp only at c0 c1 c2 c3
   go_wp2_with fail
   refine name_calls fun w3 hw3 => ?_
   have Hv3 := Lib.hid (show Below w.heap.size w w3 by rw [hw3]; exact Hv2.out.alloc Hv2.out.size _)
   have hrow : Ints w3 (some ⟨w2.heap.size + 1, 0, none⟩) 1 [at_.e] := by
    rw [hw3]
    exact row_int1 (by simpa using heap_alloc_new (w2.alloc (.cells #[.int .i64 x.e, .int .i64 x.n] 86)) (.cells #[.int .i64 at_.e] 3))
   clear hw3 a0 c0 c1 c2 c3 c4 c5 c6 c7 c8
   refine (on_l (hP.out.below Hv3.out) Hc.out s x hxw _ _ at_.e hrow (by intro h; cases h)).mono ?_
   rintro en w4 ⟨v, xs, rfl, hxs, hX, hb4⟩
   go_wp2_with fail
   go_ret
   exact ⟨v, xs, rfl, by rw [Hn.out]; exact hxs, hX.base Hv3.out.size, below_step Hv3.out hb4 Hv3.out.size⟩
theorem of_l {w : World} {ae aj as_ al : Option Addr} {ne ce nj cj ns cs nl cl : Nat} {lv : List LineV} {p : Plan} (h : PlanAt w ⟨ae, ne, ce, aj, nj, cj, as_, ns, cs, al, nl, cl, lv⟩ p) (hck : chk p = 0) (s : Int) : Calls Try.prog 55 #[.agg #[.slice ae ne ce, .slice aj nj cj, .slice as_ ns cs, .slice al nl cl, .int .i64 p.top, .int .i64 p.brake, .int .i64 p.margin, .int .i64 p.throw, .bool p.hard], .int .i64 s] w (OnPost w (ofR p s)) := of_any w ⟨ae, ne, ce, aj, nj, cj, as_, ns, cs, al, nl, cl, lv⟩ p h hck s
/-- all roads, or that there are too many -/
def AllPost (w : World) (l : Option (List Road)) (e : Ending) (w' : World) : Prop := Below w.heap.size w w' ∧ ((l = none ∧ e = .returned (.tuple #[.slice none 0 0, .int .i64 3])) ∨ ∃ (v : Value) (xs : List RoadV), l = some (xs.map (·.r)) ∧ e = .returned (.tuple #[v, .int .i64 0]) ∧ OwnR w' w.heap.size v xs ∧ xs.length ≤ 64)
set_option maxHeartbeats 4000000 in
theorem all_any (w : World) (pv : PV) (p : Plan) (h : PlanAt w pv p) (hck : chk p = 0) : Calls Try.prog 42 #[pv.val p] w (AllPost w (allR p)) := by
 obtain ⟨ae, ne, ce, aj, nj, cj, as_, ns, cs, al, nl, cl, lv⟩ := pv
 obtain ⟨W0, hW0⟩ : ∃ W0, W0 = w.alloc (.cells #[.slice ae ne ce, .slice aj nj cj, .slice as_ ns cs, .slice al nl cl, .int .i64 p.top, .int .i64 p.brake, .int .i64 p.margin, .int .i64 p.throw, .bool p.hard] 27) := ⟨_, rfl⟩
 have Hb0 := Lib.hid (show Below w.heap.size w W0 by rw [hW0]; exact below_new w _)
 have HB0 := Lib.hid (show PBox W0 w.heap.size ⟨ae, ne, ce, aj, nj, cj, as_, ns, cs, al, nl, cl, lv⟩ p by rw [hW0]; exact pbox_new w ⟨ae, ne, ce, aj, nj, cj, as_, ns, cs, al, nl, cl, lv⟩ p)
 have hP := Lib.hid (h.below Hb0.out)
 have Hc := Lib.hid hck
 have hns : p.sigs.length = ns := h.s.len
 have Hns := Lib.hid hns
 have hbn : ns ≤ 9223372036854775807 := h.s.bnd
 clear h hck hns
 dsimp only [PV.val]
 go_enter Try.func42, Try.ntmps42
 go_wp2_with fail
 rw [← hW0]
 clear hW0
 go_loopg [4, 5] ns (fun k s4 s5 wr => ∃ (i : Nat) (xs : List RoadV), i + k = ns ∧ s5 = .int .i64 i ∧ Hid (OwnR wr W0.heap.size s4 xs) ∧ Hid (allGo p k i (xs.map (·.r)) = allR p) ∧ xs.length ≤ 64 ∧ Hid (Below W0.heap.size W0 wr))
 case atStart => exact ⟨0, [], by omega, rfl, OwnR.nil _ _, by rw [← Hns.out]; exact Lib.hid rfl, by simp, Below.refl _ _⟩
 case round =>
  obtain ⟨i, xs, hk, rfl, HX, hrel2, hxl, HB⟩ := hrel
  have Hk := Lib.hid hk; clear hk
  obtain ⟨ao, co, rfl, _, hoc⟩ := own_slice HX.out.own
  obtain ⟨hpl, c0, c1, c2, c3, c4, c5, c6, c7, c8⟩ := HB0.out.below HB.out
  dsimp only at c0 c1 c2 c3
  by_cases hlt : i < ns
  ·obtain ⟨k, hk⟩ : ∃ k, gk = k + 1 := ⟨gk - 1, by have := Hk.out; omega⟩
   have HO := Lib.hid (of_l (hP.out.below HB.out) Hc.out (i : Int))
   go_wp2_with fail
   refine HO.out.mono ?_
   rintro en w1 ⟨v1, ys, rfl, hys, hX1, hb1⟩
   have hyl : ys.length ≤ 4096 := by
    have h1 := ofR_length p (i : Int)
    rw [← hys, List.length_map] at h1
    exact h1
   obtain ⟨a1, c1', rfl, _, hc1⟩ := own_slice hX1.own
   have hXu := HX.out.below hb1
   have HXu := Lib.hid hXu
   have HX1 := Lib.hid hX1
   have Hb1 := Lib.hid hb1
   clear c0 c1 c2 c3 c4 c5 c6 c7 c8 hXu hX1 hb1 HO
   go_wp2_with (at_builtin; refine wpList_appB encRoad_len encRoad_one _ rfl _ _ 29 rfl W0.heap.size 38 (.agg #[.int .i64 0, .int .i64 0, .int .i64 0, .slice none 0 0, .slice none 0 0, .slice none 0 0, .slice none 0 0, .slice none 0 0, .bool false]) 152 Try.underlying29 info_road rfl (by decide) _ _ xs rfl HXu.out.own a1 ys.length c1' ys rfl HX1.out.roads.1.row (fun h => (hc1 h).2) (by simp [maxLen]; omega) (by omega) (by have h1 := HB.out.size; have h2 := Hb1.out.size; omega) ?_)
   intro v3 w3 ho3 hg3 hbl3
   have hX3 := HXu.out.app (n := xs.length + ys.length) (ys := ys) (fun q hq => by
    refine ⟨HX1.out.each q hq, fun a ha k hk => ?_⟩
    have h1 := HX1.out.off q hq a ha k hk
    have h2 := HB.out.size
    refine ⟨by omega, h1.2.1, fun hc => ?_⟩
    have h3 := (HX.out.own.lt k hc).2
    omega) (by simp) (by rw [List.flatMap_append]; exact ho3) hg3 hbl3
   have hb3 : Below W0.heap.size W0 w3 := (below_step HB.out Hb1.out HB.out.size).grown hg3 (by have h1 := HB.out.size; have h2 := Hb1.out.size; omega) (fun k hk => (HX.out.own.lt k hk).1)
   have HX3 := Lib.hid hX3
   have HB3 := Lib.hid hb3
   obtain ⟨a3, c3', hv3, _, hc3⟩ := own_slice ho3
   clear ho3 hg3 hbl3 hX3 hb3 HXu HX1
   subst hv3
   have hlen : (xs.map (·.r) ++ ofR p (i : Int)).length = xs.length + ys.length := by rw [List.length_append, List.length_map, ← hys, List.length_map]
   by_cases hbig : 64 < xs.length + ys.length
   ·have d1 : decide ((64 : Int) < (xs.length + ys.length : Nat)) = true := by simp; omega
    have Hn := Lib.hid (show allR p = none by rw [← hrel2.out, hk, allGo, if_pos (by rw [hlen]; exact hbig)])
    go_wp2_with fail
    go_ret2
    exact ⟨below_step Hb0.out HB3.out Hb0.out.size, .inl ⟨Hn.out, rfl⟩⟩
   ·have d1 : decide ((64 : Int) < (xs.length + ys.length : Nat)) = false := by simp; omega
    have Hn := Lib.hid (show allGo p k (i + 1) ((xs ++ ys).map (·.r)) = allR p by rw [← hrel2.out, hk, allGo, if_neg (by rw [hlen]; exact hbig), List.map_append, hys])
    go_wp2_with fail
    go_roundg k
    case measure => omega
    case rel => exact ⟨i + 1, xs ++ ys, by have := Hk.out; omega, by go_num, HX3.out, Hn.out, by simp; omega, HB3.out⟩
  ·have Hn := Lib.hid (show allR p = some (xs.map (·.r)) by
    have h0 : gk = 0 := by have := Hk.out; omega
    rw [← hrel2.out, h0]; rfl)
   go_wp2_with fail
   go_ret2
   exact ⟨below_step Hb0.out HB.out Hb0.out.size, .inr ⟨_, xs, Hn.out, rfl, HX.out.base Hb0.out.size, hxl⟩⟩
end Go.Proofs.Ytnkpiijljfjmkaa
