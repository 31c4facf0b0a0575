/- SightBerths: for every input the law returns true. No condition. -/
import Derived.Test.YtackcfoplhhnbaaKnown6
set_option maxRecDepth 1000000
namespace Go.Proofs.Ytackcfoplhhnbaa
open Go.ChangeShapes Go.WideShapes Go.ChangeAt Go.RowKit Go.Sort

set_option maxHeartbeats 4000000 in
theorem lawBerths_any (w : World) (pv : PV) (p : Plan) (s : Int) (x : Port) (hx : x.wf) (left : Int) (h : PlanAt w pv p) :
    Calls Try.prog 10 #[pv.val p, .int .i64 s, x.val, .int .i64 left] w fun en w' => en = .returned (.bool true) ∧ Below w.heap.size w w' := by
  obtain ⟨ae, ne, ce, aj, nj, cj, as_, ns, cs, al, nl, cl, lv⟩ := pv
  have hP := Lib.hid h
  have HBa := Lib.hid ((pbox_new w ⟨ae, ne, ce, aj, nj, cj, as_, ns, cs, al, nl, cl, lv⟩ p).alloc (.cells #[.int .i64 x.e, .int .i64 x.n] 30))
  have Hba := Lib.hid (below_new2 w (.cells #[.slice ae ne ce, .slice aj nj cj, .slice as_ ns cs, .slice al nl cl, .int .i64 p.top, .int .i64 p.brake, .int .i64 p.margin, .int .i64 p.throw, .bool p.hard] 27) (.cells #[.int .i64 x.e, .int .i64 x.n] 30))
  have HXa := Lib.hid (PortBox.new (w.alloc (.cells #[.slice ae ne ce, .slice aj nj cj, .slice as_ ns cs, .slice al nl cl, .int .i64 p.top, .int .i64 p.brake, .int .i64 p.margin, .int .i64 p.throw, .bool p.hard] 27)) (b := w.heap.size + 1) (by simp) x 30)
  have K := Lib.hid (known6_any ((w.alloc (.cells #[.slice ae ne ce, .slice aj nj cj, .slice as_ ns cs, .slice al nl cl, .int .i64 p.top, .int .i64 p.brake, .int .i64 p.margin, .int .i64 p.throw, .bool p.hard] 27)).alloc (.cells #[.int .i64 x.e, .int .i64 x.n] 30)))
  have HF := Lib.hid (fun (u : World) (hb : Below w.heap.size w u) => finex_l (w := u) (hP.out.below hb))
  clear h
  dsimp only [PV.val, Port.val]
  obtain ⟨_, c0, c1, c2, c3, c4, c5, c6, c7, c8⟩ := HBa.out
  dsimp only at c0 c1 c2 c3
  obtain ⟨_, x0, x1, _⟩ := HXa.out
  cases hf : fine p with
  | false =>
    rw [hf] at HF
    clear hf
    go_enter Try.func10, Try.ntmps10
    go_wp2_with fail
    refine (K.out).mono ?_
    rintro e w1 ⟨rfl, hbx⟩
    have HB1 := Lib.hid (HBa.out.below hbx)
    have HX1 := Lib.hid (HXa.out.below hbx)
    have Hb1 := Lib.hid (below_step Hba.out hbx Hba.out.size)
    clear hbx c0 c1 c2 c3 c4 c5 c6 c7 c8 x0 x1
    obtain ⟨_, c0, c1, c2, c3, c4, c5, c6, c7, c8⟩ := HB1.out
    dsimp only at c0 c1 c2 c3
    obtain ⟨_, x0, x1, _⟩ := HX1.out
    clear K
    go_wp2_with fail
    refine (HF.out w1 Hb1.out).mono ?_
    rintro e w2 ⟨rfl, hbx⟩
    have HB2 := Lib.hid (HB1.out.below hbx)
    have HX2 := Lib.hid (HX1.out.below hbx)
    have Hb2 := Lib.hid (below_step Hb1.out hbx Hb1.out.size)
    clear hbx c0 c1 c2 c3 c4 c5 c6 c7 c8 x0 x1
    obtain ⟨_, c0, c1, c2, c3, c4, c5, c6, c7, c8⟩ := HB2.out
    dsimp only at c0 c1 c2 c3
    obtain ⟨_, x0, x1, _⟩ := HX2.out
    go_wp2_with fail
    go_ret
    exact ⟨rfl, Hb2.out⟩
  | true =>
    rw [hf] at HF
    have HM := Lib.hid (fun (u : World) (hb : Below w.heap.size w u) => made_l (w := u) hf (hP.out.below hb))
    have Hok := Lib.hid (few_ok hP.out (fine_few hf).1)
    have Hc := Lib.hid (fine_few hf).2
    have G := Lib.hid (good_of (fine_few hf).2)
    clear hf
    go_enter Try.func10, Try.ntmps10
    go_wp2_with fail
    refine (K.out).mono ?_
    rintro e w1 ⟨rfl, hbx⟩
    have HB1 := Lib.hid (HBa.out.below hbx)
    have HX1 := Lib.hid (HXa.out.below hbx)
    have Hb1 := Lib.hid (below_step Hba.out hbx Hba.out.size)
    clear hbx c0 c1 c2 c3 c4 c5 c6 c7 c8 x0 x1
    obtain ⟨_, c0, c1, c2, c3, c4, c5, c6, c7, c8⟩ := HB1.out
    dsimp only at c0 c1 c2 c3
    obtain ⟨_, x0, x1, _⟩ := HX1.out
    clear K
    go_wp2_with fail
    refine (HF.out w1 Hb1.out).mono ?_
    rintro e w2 ⟨rfl, hbx⟩
    have HB2 := Lib.hid (HB1.out.below hbx)
    have HX2 := Lib.hid (HX1.out.below hbx)
    have Hb2 := Lib.hid (below_step Hb1.out hbx Hb1.out.size)
    clear hbx c0 c1 c2 c3 c4 c5 c6 c7 c8 x0 x1
    obtain ⟨_, c0, c1, c2, c3, c4, c5, c6, c7, c8⟩ := HB2.out
    dsimp only at c0 c1 c2 c3
    obtain ⟨_, x0, x1, _⟩ := HX2.out
    go_wp2_with fail
    refine (HM.out w2 Hb2.out).mono ?_
    rintro e w3 ⟨b, rfl, hbb, hn, hbx⟩
    have HB3 := Lib.hid (HB2.out.below hbx)
    have HX3 := Lib.hid (HX2.out.below hbx)
    have Hb3 := Lib.hid (below_step Hb2.out hbx Hb2.out.size)
    have HN3 := Lib.hid hn
    have hbb := Nat.le_trans Hb2.out.size hbb
    clear hbx hn HF HM c0 c1 c2 c3 c4 c5 c6 c7 c8 x0 x1
    obtain ⟨_, c0, c1, c2, c3, c4, c5, c6, c7, c8⟩ := HB3.out
    dsimp only at c0 c1 c2 c3
    obtain ⟨_, x0, x1, _⟩ := HX3.out
    go_wp2_with fail
    obtain ⟨z, hz⟩ : ∃ z, z = (sigAt p s).getD zeroPort := ⟨_, rfl⟩
    obtain ⟨oz, hoz⟩ : ∃ o, o = (sigAt p s).isSome := ⟨_, rfl⟩
    have Z1 := Lib.hid (fun (u : World) (hn : NetAt u b p) => nberth_any u b p hn s)
    have Z2 := Lib.hid (fun (u : World) (hb : Below w.heap.size w u) => refat_l (w := u) (s := s) (hP.out.below hb))
    rw [← hz, ← hoz] at Z1 Z2
    clear hz hoz
    refine (Z1.out w3 HN3.out).mono ?_
    rintro e w4 ⟨rfl, hbx⟩
    have HB4 := Lib.hid (HB3.out.below hbx)
    have HN4 := Lib.hid (HN3.out.below hbx)
    have Hx4 := Lib.hid hbx
    have HX4 := Lib.hid (HX3.out.below hbx)
    have Hb4 := Lib.hid (below_step Hb3.out hbx Hb3.out.size)
    clear hbx c0 c1 c2 c3 c4 c5 c6 c7 c8 x0 x1
    obtain ⟨_, c0, c1, c2, c3, c4, c5, c6, c7, c8⟩ := HB4.out
    dsimp only at c0 c1 c2 c3
    obtain ⟨_, x0, x1, _⟩ := HX4.out
    go_wp2_with fail
    refine (Z2.out w4 Hb4.out).mono ?_
    rintro e w5 ⟨rfl, hbx⟩
    have HB5 := Lib.hid (HB4.out.below hbx)
    have HN5 := Lib.hid (HN4.out.below hbx)
    have Hx5 := Lib.hid hbx
    have HX5 := Lib.hid (HX4.out.below hbx)
    have Hb5 := Lib.hid (below_step Hb4.out hbx Hb4.out.size)
    clear hbx c0 c1 c2 c3 c4 c5 c6 c7 c8 x0 x1
    obtain ⟨_, c0, c1, c2, c3, c4, c5, c6, c7, c8⟩ := HB5.out
    dsimp only at c0 c1 c2 c3
    obtain ⟨_, x0, x1, _⟩ := HX5.out
    go_wp2_with fail
    refine name_code fun w6 hw => ?_
    have Hn6 := Lib.hid (show Below w5.heap.size w5 w6 by rw [hw]; exact below_new _ _)
    have Q6 := Lib.hid (show PortBox w6 w5.heap.size z by rw [hw]; exact PortBox.new _ rfl _ _)
    clear hw
    have HB6 := Lib.hid (HB5.out.below Hn6.out)
    have HX6 := Lib.hid (HX5.out.below Hn6.out)
    have HN6 := Lib.hid (HN5.out.below Hn6.out)
    have Hb6 := Lib.hid (below_step Hb5.out Hn6.out Hb5.out.size)
    clear c0 c1 c2 c3 c4 c5 c6 c7 c8 x0 x1
    obtain ⟨_, c0, c1, c2, c3, c4, c5, c6, c7, c8⟩ := HB6.out
    dsimp only at c0 c1 c2 c3
    obtain ⟨_, x0, x1, _⟩ := HX6.out
    obtain ⟨_, q0, q1, _⟩ := Q6.out
    clear Z1 Z2
    have c0q := fun d os => cell_regrown c0 d os
    have c1q := fun d os => cell_regrown c1 d os
    have c2q := fun d os => cell_regrown c2 d os
    have c3q := fun d os => cell_regrown c3 d os
    have c4q := fun d os => cell_regrown c4 d os
    have c5q := fun d os => cell_regrown c5 d os
    have c6q := fun d os => cell_regrown c6 d os
    have c7q := fun d os => cell_regrown c7 d os
    have c8q := fun d os => cell_regrown c8 d os
    have x0q := fun d os => cell_regrown x0 d os
    have x1q := fun d os => cell_regrown x1 d os
    have q0q := fun d os => cell_regrown q0 d os
    have cq0 : ∀ d os, Calls Try.prog 36 #[.pointer (some ⟨b, 0, none⟩), .agg #[.int .i64 x.e, .int .i64 x.n], .int .i64 left] (grow (redrawn w6 d) os) fun e w'' => e = .returned (.bool (inLoop p x left)) ∧ ∃ rg : Regrown, w'' = grow (redrawn w6 rg.d) rg.os := fun d os => Calls.regrown_of (ninloop_any _ b p (HN6.out.below (below_regrown _ d os)) x hx left)
    have cq1 : ∀ d os, Calls Try.prog 37 #[.agg #[.slice ae ne ce, .slice aj nj cj, .slice as_ ns cs, .slice al nl cl, .int .i64 p.top, .int .i64 p.brake, .int .i64 p.margin, .int .i64 p.throw, .bool p.hard], .agg #[.int .i64 x.e, .int .i64 x.n], .int .i64 left] (grow (redrawn w6 d) os) fun e w'' => e = .returned (.bool (inLoop p x left)) ∧ ∃ rg : Regrown, w'' = grow (redrawn w6 rg.d) rg.os := fun d os => Calls.regrown_of (refinloop_any _ ⟨ae, ne, ce, aj, nj, cj, as_, ns, cs, al, nl, cl, lv⟩ p (hP.out.below (below_step Hb6.out (below_regrown _ d os) Hb6.out.size)) x left)
    refine wp_region_quiet_below (by kernel_rfl) (by kernel_rfl) ?_
    repeat (quiet_step (first | with_reducible exact cq0 _ _ | with_reducible exact cq1 _ _))
    refine wpQuiet_nil ?_
    intro w7 hw'
    have hb7 : Below w6.heap.size w6 w7 := by obtain ⟨⟨d, os⟩, rfl⟩ := hw'; exact below_regrown _ d os
    clear hw' c0q c1q c2q c3q c4q c5q c6q c7q c8q x0q x1q q0q cq0 cq1
    go_wp2_with fail
    go_ret
    exact ⟨ret_bool (by simp), below_step Hb6.out hb7 Hb6.out.size⟩
set_option maxRecDepth 100000 in
theorem sightBerths_lifted (os : Os) (started : os.Started) (H : Type) (enc : TypeId × Value → H) :
    ReturnsInHanded {} Try.checked os 10 .any (Rows.sightBerthsSpec.pre6 enc Try.prog Try.f10 Rows.sightBerthsRow.domain false) (Rows.sightBerthsSpec.post enc Try.prog Try.f10 false true false false) := by
  refine returnsInHanded_of_change (C := Try.checked) own started (by kernel_rfl) Try.func10
    (ChangeSpec.witness6 (enc := enc) (C := Try.checked) false ⟨#[], #[.agg #[.slice none 0 0, .slice none 0 0, .slice none 0 0, .slice none 0 0, .int .i64 0, .int .i64 0, .int .i64 0, .int .i64 0, .bool false], .int .i64 0, .agg #[.int .i64 0, .int .i64 0], .int .i64 0], []⟩ 8 (by kernel_rfl) (by kernel_rfl) (by kernel_rfl) (by kernel_rfl)) ?_
  intro W base args ds gs before hval0 hW hcnd _
  have hval : ∀ (j : Nat) t v, Try.f10.params[j]? = some t → args[j]? = some v → Value.okWide Try.prog W .any base t v := hval0
  have hW' := hW
  obtain ⟨p, q, hA0, hV, rfl, hfz, hnd⟩ := hW
  have hA : DataW.TrodAll enc Try.prog W 0 (fun _ => true) true Try.f10.params.toList args.toList ds p := hA0
  rw [Try.params10] at hA hval
  obtain ⟨v0, vs0, d0, ds0, p0, q0, hargs, rfl, rfl, k0, r0⟩ := trodAll_cons hA
  obtain ⟨v1, vs1, d1, ds1, p1, q1, rfl, rfl, rfl, k1, r1⟩ := trodAll_cons r0
  obtain ⟨v2, vs2, d2, ds2, p2, q2, rfl, rfl, rfl, k2, r2⟩ := trodAll_cons r1
  obtain ⟨v3, vs3, d3, ds3, p3, q3, rfl, rfl, rfl, k3, r3⟩ := trodAll_cons r2
  obtain ⟨rfl, rfl, rfl⟩ := trodAll_nil r3
  obtain rfl : args = #[v0, v1, v2, v3] := by cases args; simp_all
  obtain ⟨rfl, rfl⟩ := trodVars_none hV
  have lt0 : ∀ x ∈ p0, x.block < W.heap.size := by obtain ⟨m, hm⟩ := k0; exact DataW.trod_lt m _ _ _ hm
  have hv0 := hval 0 27 v0 rfl rfl
  have lt1 : ∀ x ∈ p1, x.block < W.heap.size := by obtain ⟨m, hm⟩ := k1; exact DataW.trod_lt m _ _ _ hm
  have hv1 := hval 1 3 v1 rfl rfl
  have lt2 : ∀ x ∈ p2, x.block < W.heap.size := by obtain ⟨m, hm⟩ := k2; exact DataW.trod_lt m _ _ _ hm
  have hv2 := hval 2 30 v2 rfl rfl
  have lt3 : ∀ x ∈ p3, x.block < W.heap.size := by obtain ⟨m, hm⟩ := k3; exact DataW.trod_lt m _ _ _ hm
  have hv3 := hval 3 3 v3 rfl rfl
  have fin : Calls Try.prog 10 #[v0, v1, v2, v3] W (fun e W' => e = .returned (.bool true) ∧ Below W.heap.size W W') := by
    obtain ⟨pv, p, rfl, hp⟩ := open_plan hv0 k0
    obtain ⟨x0, rfl, a0⟩ := open_i hv1 k1
    obtain ⟨x1, rfl, b0⟩ := open_port hv2 k2
    obtain ⟨x2, rfl, d0⟩ := open_i hv3 k3
    exact lawBerths_any W pv p x0 x1 b0 x2 hp
  clear hA0 hval0
  refine fin.mono fun e W' ⟨he, bel⟩ => ?_
  subst he
  exact ⟨_, rfl, _, _, _, [], _, [], hW', trodAll_mk1 (shut_bool Try.underlying4 _), (trodAll_cons_mk (Below.trod laidOut (by kernel_rfl) (of_decide_eq_true (by kernel_rfl)) k0 bel lt0) (trodAll_cons_mk (Below.trod laidOut (by kernel_rfl) (of_decide_eq_true (by kernel_rfl)) k1 bel lt1) (trodAll_cons_mk (Below.trod laidOut (by kernel_rfl) (of_decide_eq_true (by kernel_rfl)) k2 bel lt2) (trodAll_cons_mk (Below.trod laidOut (by kernel_rfl) (of_decide_eq_true (by kernel_rfl)) k3 bel lt3) trodAll_mk0)))), rfl, bel.frame _, fun h => by cases h⟩

/-- THE STATEMENT -/
theorem sightBerths_holds : Rows.SightBerthsSaid :=
  OpenClaim.holds_of_wide 10 Try.f10 rfl rfl rfl rfl rfl rfl rfl ⟨rfl, rfl, rfl, rfl, rfl⟩ rfl rfl rfl rfl rfl (by kernel_rfl) Try.func10 (by kernel_rfl)
    (of_decide_eq_true (by kernel_rfl)) (by unfold Func.isWrapper; first | (rw [if_pos (by decide +kernel)]; kernel_rfl) | (rw [if_neg (by decide +kernel)]; exact ⟨rfl, rfl⟩))
    (fun os started H enc _ => sightBerths_lifted os started H enc)
end Go.Proofs.Ytackcfoplhhnbaa
