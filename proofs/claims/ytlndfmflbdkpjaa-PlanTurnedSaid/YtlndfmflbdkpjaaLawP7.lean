/- PlanTurned: for every input the law returns true. No condition. -/
import Derived.Test.YtlndfmflbdkpjaaLawK2
import Derived.Test.YtlndfmflbdkpjaaTurned
import Derived.Lib.QuietBelow
set_option maxRecDepth 1000000
namespace Go.Proofs.Ytlndfmflbdkpjaa
open Go.ChangeShapes Go.WideShapes Go.ChangeAt Go.RowKit Go.Sort

theorem turned_l {w : World} {ae aj as_ al : Option Addr} {ne ce nj cj ns cs nl cl : Nat} {lv : List LineV} {p : Plan} {wh i n : Int} (w0 : 0 ≤ wh) (w1 : wh ≤ 255) (i0 : 0 ≤ i) (i1 : i ≤ 255) (hn : inI n) (hf : FewOk ⟨ae, ne, ce, aj, nj, cj, as_, ns, cs, al, nl, cl, lv⟩) (hne0 : 0 < ne) (h : PlanAt w ⟨ae, ne, ce, aj, nj, cj, as_, ns, cs, al, nl, cl, lv⟩ p) :
    Calls Try.prog 31 #[.agg #[.slice ae ne ce, .slice aj nj cj, .slice as_ ns cs, .slice al nl cl, .int .i64 p.top, .int .i64 p.brake, .int .i64 p.margin, .int .i64 p.throw, .bool p.hard], .int .u8 wh, .int .u8 i, .int .i64 n] w (TurnedPost w) := turned_any w ⟨ae, ne, ce, aj, nj, cj, as_, ns, cs, al, nl, cl, lv⟩ p wh i n w0 w1 i0 i1 hn hf hne0 h

set_option maxHeartbeats 400000 in
theorem lawTurned_any (w : World) (pv : PV) (p : Plan) (wh i n : Int) (w0 : 0 ≤ wh) (w1' : wh ≤ 255) (i0 : 0 ≤ i) (i1 : i ≤ 255) (hn : inI n) (h : PlanAt w pv p) :
    Calls Try.prog 7 #[pv.val p, .int .u8 wh, .int .u8 i, .int .i64 n] w fun e w' => e = .returned (.bool true) ∧ Below w.heap.size w w' := by
  have Hn := Lib.hid hn
  clear hn
  obtain ⟨ae, ne, ce, aj, nj, cj, as_, ns, cs, al, nl, cl, lv⟩ := pv
  have hP := Lib.hid h
  have HBa := Lib.hid (pbox_new w ⟨ae, ne, ce, aj, nj, cj, as_, ns, cs, al, nl, cl, lv⟩ p)
  have Hba := Lib.hid (below_new w (.cells #[.slice ae ne ce, .slice aj nj cj, .slice as_ ns cs, .slice al nl cl, .int .i64 p.top, .int .i64 p.brake, .int .i64 p.margin, .int .i64 p.throw, .bool p.hard] 32))
  have K := Lib.hid (known2_any (w.alloc (.cells #[.slice ae ne ce, .slice aj nj cj, .slice as_ ns cs, .slice al nl cl, .int .i64 p.top, .int .i64 p.brake, .int .i64 p.margin, .int .i64 p.throw, .bool p.hard] 32)))
  clear h
  dsimp only [PV.val]
  go_enter Try.func7, Try.ntmps7
  go_wp2_with fail
  refine K.out.mono ?_
  rintro e w1 ⟨rfl, hbx⟩
  have HB1 := Lib.hid (HBa.out.below hbx)
  have Hb1 := Lib.hid (below_step Hba.out hbx Hba.out.size)
  clear hbx K
  obtain ⟨_, c0, c1, c2, c3, c4, c5, c6, c7, c8⟩ := HB1.out
  dsimp only at c0 c1 c2 c3
  go_wp2_with fail
  refine (fine_l (hP.out.below Hb1.out)).mono ?_
  rintro e w2 ⟨b, rfl, hfine, hbx⟩
  have HB2 := Lib.hid (HB1.out.below hbx)
  have Hb2 := Lib.hid (below_step Hb1.out hbx Hb1.out.size)
  clear hbx c0 c1 c2 c3 c4 c5 c6 c7 c8 HB1 Hb1
  obtain ⟨_, c0, c1, c2, c3, c4, c5, c6, c7, c8⟩ := HB2.out
  dsimp only at c0 c1 c2 c3
  cases b
  case false =>
    clear hfine
    go_wp2_with fail
    go_ret
    exact ⟨rfl, Hb2.out⟩
  obtain ⟨hfew, hc⟩ := hfine rfl
  have Hfew := Lib.hid hfew
  have Hc := Lib.hid hc
  have Hn2 := Lib.hid (show ∀ x ∈ lv, x.n ≤ 1000 from fun x hx => by have := hfew.2.2.2.2 x hx; omega)
  clear hfine hfew hc
  have hsz := chk_sizes Hc.out
  rw [hP.out.e.len, hP.out.j.len, hP.out.s.len] at hsz
  obtain ⟨hne, hne40, hnj80, hns24⟩ := hsz
  dsimp only at hne hne40 hnj80 hns24
  go_wp2_with fail
  refine (turned_l w0 w1' i0 i1 Hn.out Hfew.out hne (hP.out.below Hb2.out)).mono ?_
  rintro e w3 ⟨⟨be, me, fe, bj, mj, fj, bs, ms, fs, bl, ml, fl, lq⟩, q, rfl, hq, hn3, hbx⟩
  have HQ3 := Lib.hid hq
  have Hn3 := Lib.hid hn3
  have HB3 := Lib.hid (HB2.out.below hbx)
  have Hb3 := Lib.hid (below_step Hb2.out hbx Hb2.out.size)
  clear hq hn3 hbx c0 c1 c2 c3 c4 c5 c6 c7 c8
  dsimp only [PV.val]
  obtain ⟨_, c0, c1, c2, c3, c4, c5, c6, c7, c8⟩ := HB3.out
  dsimp only at c0 c1 c2 c3
  go_wp2_with fail
  refine name_code fun w4 hw4 => ?_
  have HQ4 := Lib.hid (show PBox w4 w3.heap.size ⟨be, me, fe, bj, mj, fj, bs, ms, fs, bl, ml, fl, lq⟩ q by rw [hw4]; exact pbox_new w3 ⟨be, me, fe, bj, mj, fj, bs, ms, fs, bl, ml, fl, lq⟩ q)
  have hx4 : Below w3.heap.size w3 w4 := by rw [hw4]; exact below_new _ _
  have HB4 := Lib.hid (HB3.out.below hx4)
  have Hb4 := Lib.hid (below_step Hb3.out hx4 Hb3.out.size)
  have HPr := Lib.hid (hP.out.below Hb4.out)
  have HPq := Lib.hid (HQ3.out.below hx4)
  clear hw4 hx4 c0 c1 c2 c3 c4 c5 c6 c7 c8
  obtain ⟨_, c0, c1, c2, c3, c4, c5, c6, c7, c8⟩ := HB4.out
  dsimp only at c0 c1 c2 c3
  obtain ⟨_, d0, d1, d2, d3, d4, d5, d6, d7, d8⟩ := HQ4.out
  dsimp only at d0 d1 d2 d3
  have hc0 : chk p = 0 := Hc.out
  have c0q := fun d os => cell_regrown c0 d os
  have c1q := fun d os => cell_regrown c1 d os
  have c2q := fun d os => cell_regrown c2 d os
  have c3q := fun d os => cell_regrown c3 d os
  have c4q := fun d os => cell_regrown c4 d os
  have c5q := fun d os => cell_regrown c5 d os
  have c6q := fun d os => cell_regrown c6 d os
  have c7q := fun d os => cell_regrown c7 d os
  have c8q := fun d os => cell_regrown c8 d os
  have d0q := fun d os => cell_regrown d0 d os
  have d1q := fun d os => cell_regrown d1 d os
  have d2q := fun d os => cell_regrown d2 d os
  have d3q := fun d os => cell_regrown d3 d os
  have d4q := fun d os => cell_regrown d4 d os
  have d5q := fun d os => cell_regrown d5 d os
  have d6q := fun d os => cell_regrown d6 d os
  have d7q := fun d os => cell_regrown d7 d os
  have d8q := fun d os => cell_regrown d8 d os
  have cq0 : ∀ d os, Calls Try.prog 24 #[.agg #[.slice ae ne ce, .slice aj nj cj, .slice as_ ns cs, .slice al nl cl, .int .i64 p.top, .int .i64 p.brake, .int .i64 p.margin, .int .i64 p.throw, .bool p.hard]] (grow (redrawn w4 d) os) fun e w'' => e = .returned (.int .i64 (chk p)) ∧ ∃ p : Regrown, w'' = grow (redrawn w4 p.d) p.os := fun d os => Calls.regrown_of (check_l Hn2.out (HPr.out.below (below_regrown _ d os)))
  have cq1 : ∀ d os, Calls Try.prog 24 #[.agg #[.slice be me fe, .slice bj mj fj, .slice bs ms fs, .slice bl ml fl, .int .i64 q.top, .int .i64 q.brake, .int .i64 q.margin, .int .i64 q.throw, .bool q.hard]] (grow (redrawn w4 d) os) fun e w'' => e = .returned (.int .i64 (chk q)) ∧ ∃ p : Regrown, w'' = grow (redrawn w4 p.d) p.os := fun d os => Calls.regrown_of (check_l Hn3.out (HPq.out.below (below_regrown _ d os)))
  have cq2 : ∀ d os, Calls Try.prog 25 #[.agg #[.slice be me fe, .slice bj mj fj, .slice bs ms fs, .slice bl ml fl, .int .i64 q.top, .int .i64 q.brake, .int .i64 q.margin, .int .i64 q.throw, .bool q.hard]] (grow (redrawn w4 d) os) fun e w'' => e = .returned (.int .i64 (chk q)) ∧ ∃ p : Regrown, w'' = grow (redrawn w4 p.d) p.os := fun d os => Calls.regrown_of (refcheck_l2 Hn3.out (HPq.out.below (below_regrown _ d os)))
  refine wp_region_quiet_below (by kernel_rfl) (by kernel_rfl) ?_
  repeat (quiet_step (first | with_reducible exact cq0 _ _ | with_reducible exact cq1 _ _ | with_reducible exact cq2 _ _))
  refine wpQuiet_nil ?_
  intro w5 hw'
  have hb2 : Below w4.heap.size w4 w5 := by obtain ⟨⟨d, os⟩, rfl⟩ := hw'; exact below_regrown _ d os
  clear hw' c0q c1q c2q c3q c4q c5q c6q c7q c8q d0q d1q d2q d3q d4q d5q d6q d7q d8q cq0 cq1 cq2
  go_wp2_with fail
  go_ret
  exact ⟨ret_bool (by simp), below_step Hb4.out hb2 Hb4.out.size⟩
set_option maxRecDepth 100000 in
theorem planTurned_lifted (os : Os) (started : os.Started) (H : Type) (enc : TypeId × Value → H) :
    ReturnsInHanded {} Try.checked os 7 .any (Rows.planTurnedSpec.pre6 enc Try.prog Try.f7 Rows.planTurnedRow.domain false) (Rows.planTurnedSpec.post enc Try.prog Try.f7 false true false false) := by
  refine returnsInHanded_of_change (C := Try.checked) own started (by kernel_rfl) Try.func7
    (ChangeSpec.witness6 (enc := enc) (C := Try.checked) false ⟨#[], #[.agg #[.slice none 0 0, .slice none 0 0, .slice none 0 0, .slice none 0 0, .int .i64 0, .int .i64 0, .int .i64 0, .int .i64 0, .bool false], .int .u8 0, .int .u8 0, .int .i64 0], []⟩ 8 (by kernel_rfl) (by kernel_rfl) (by kernel_rfl) (by kernel_rfl)) ?_
  intro W base args ds gs before hval0 hW hcnd _
  have hval : ∀ (j : Nat) t v, Try.f7.params[j]? = some t → args[j]? = some v → Value.okWide Try.prog W .any base t v := hval0
  have hW' := hW
  obtain ⟨p, q, hA0, hV, rfl, hfz, hnd⟩ := hW
  have hA : DataW.TrodAll enc Try.prog W 0 (fun _ => true) true Try.f7.params.toList args.toList ds p := hA0
  rw [Try.params7] at hA hval
  obtain ⟨v0, vs0, d0, ds0, p0, q0, hargs, rfl, rfl, k0, r0⟩ := trodAll_cons hA
  obtain ⟨v1, vs1, d1, ds1, p1, q1, rfl, rfl, rfl, k1, r1⟩ := trodAll_cons r0
  obtain ⟨v2, vs2, d2, ds2, p2, q2, rfl, rfl, rfl, k2, r2⟩ := trodAll_cons r1
  obtain ⟨v3, vs3, d3, ds3, p3, q3, rfl, rfl, rfl, k3, r3⟩ := trodAll_cons r2
  obtain ⟨rfl, rfl, rfl⟩ := trodAll_nil r3
  obtain rfl : args = #[v0, v1, v2, v3] := by cases args; simp_all
  obtain ⟨rfl, rfl⟩ := trodVars_none hV
  have lt0 : ∀ x ∈ p0, x.block < W.heap.size := by obtain ⟨m, hm⟩ := k0; exact DataW.trod_lt m _ _ _ hm
  have hv0 := hval 0 32 v0 rfl rfl
  have lt1 : ∀ x ∈ p1, x.block < W.heap.size := by obtain ⟨m, hm⟩ := k1; exact DataW.trod_lt m _ _ _ hm
  have hv1 := hval 1 5 v1 rfl rfl
  have lt2 : ∀ x ∈ p2, x.block < W.heap.size := by obtain ⟨m, hm⟩ := k2; exact DataW.trod_lt m _ _ _ hm
  have hv2 := hval 2 5 v2 rfl rfl
  have lt3 : ∀ x ∈ p3, x.block < W.heap.size := by obtain ⟨m, hm⟩ := k3; exact DataW.trod_lt m _ _ _ hm
  have hv3 := hval 3 3 v3 rfl rfl
  have fin : Calls Try.prog 7 #[v0, v1, v2, v3] W (fun e W' => e = .returned (.bool true) ∧ Below W.heap.size W W') := by
    obtain ⟨pv, p, rfl, hp⟩ := open_plan hv0 k0
    obtain ⟨x0, rfl, a0, a1⟩ := open_u8 hv1 k1
    obtain ⟨x1, rfl, b0, b1⟩ := open_u8 hv2 k2
    obtain ⟨x2, rfl, hx2⟩ := open_i hv3 k3
    exact lawTurned_any W pv p x0 x1 x2 a0 a1 b0 b1 hx2 hp
  clear hA0 hval0
  refine fin.mono fun e W' ⟨he, bel⟩ => ?_
  subst he
  exact ⟨_, rfl, _, _, _, [], _, [], hW', trodAll_mk1 (shut_bool Try.underlying4 _), (trodAll_cons_mk (Below.trod laidOut (by kernel_rfl) (of_decide_eq_true (by kernel_rfl)) k0 bel lt0) (trodAll_cons_mk (Below.trod laidOut (by kernel_rfl) (of_decide_eq_true (by kernel_rfl)) k1 bel lt1) (trodAll_cons_mk (Below.trod laidOut (by kernel_rfl) (of_decide_eq_true (by kernel_rfl)) k2 bel lt2) (trodAll_cons_mk (Below.trod laidOut (by kernel_rfl) (of_decide_eq_true (by kernel_rfl)) k3 bel lt3) trodAll_mk0)))), rfl, bel.frame _, fun h => by cases h⟩

/-- THE STATEMENT -/
theorem planTurned_holds : Rows.PlanTurnedSaid :=
  OpenClaim.holds_of_wide 7 Try.f7 rfl rfl rfl rfl rfl rfl rfl ⟨rfl, rfl, rfl, rfl, rfl⟩ rfl rfl rfl rfl rfl (by kernel_rfl) Try.func7 (by kernel_rfl)
    (of_decide_eq_true (by kernel_rfl)) (by unfold Func.isWrapper; first | (rw [if_pos (by decide +kernel)]; kernel_rfl) | (rw [if_neg (by decide +kernel)]; exact ⟨rfl, rfl⟩))
    (fun os started H enc _ => planTurned_lifted os started H enc)
end Go.Proofs.Ytlndfmflbdkpjaa
