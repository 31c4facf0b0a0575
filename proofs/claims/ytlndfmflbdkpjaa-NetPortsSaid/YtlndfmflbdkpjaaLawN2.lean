/- NetPorts: for every input the law returns true. No condition. -/
import Derived.Test.YtlndfmflbdkpjaaNetPlit
set_option maxRecDepth 1000000
namespace Go.Proofs.Ytlndfmflbdkpjaa
open Go.ChangeShapes Go.WideShapes Go.ChangeAt Go.RowKit Go.Sort

set_option maxHeartbeats 4000000 in
theorem lawPorts_any (w : World) (pv : PV) (p : Plan) (x : Port) (s : Int) (hx : x.wf) (h : PlanAt w pv p) :
    Calls Try.prog 14 #[pv.val p, x.val, .int .i64 s] w fun en w' => en = .returned (.bool true) ∧ Below w.heap.size w w' := by
  obtain ⟨ae, ne, ce, aj, nj, cj, as_, ns, cs, al, nl, cl, lv⟩ := pv
  have hP := Lib.hid h
  have HBa := Lib.hid ((pbox_new w ⟨ae, ne, ce, aj, nj, cj, as_, ns, cs, al, nl, cl, lv⟩ p).alloc (.cells #[.int .i64 x.e, .int .i64 x.n] 44))
  have Hba := Lib.hid (below_new2 w (.cells #[.slice ae ne ce, .slice aj nj cj, .slice as_ ns cs, .slice al nl cl, .int .i64 p.top, .int .i64 p.brake, .int .i64 p.margin, .int .i64 p.throw, .bool p.hard] 32) (.cells #[.int .i64 x.e, .int .i64 x.n] 44))
  have HXa := Lib.hid (PortBox.new (w.alloc (.cells #[.slice ae ne ce, .slice aj nj cj, .slice as_ ns cs, .slice al nl cl, .int .i64 p.top, .int .i64 p.brake, .int .i64 p.margin, .int .i64 p.throw, .bool p.hard] 32)) (b := w.heap.size + 1) (by simp) x 44)
  have K := Lib.hid (known4_any ((w.alloc (.cells #[.slice ae ne ce, .slice aj nj cj, .slice as_ ns cs, .slice al nl cl, .int .i64 p.top, .int .i64 p.brake, .int .i64 p.margin, .int .i64 p.throw, .bool p.hard] 32)).alloc (.cells #[.int .i64 x.e, .int .i64 x.n] 44)))
  have HF := Lib.hid (fun (u : World) (hb : Below w.heap.size w u) => finex_l (w := u) (hP.out.below hb))
  clear h
  dsimp only [PV.val, Port.val]
  obtain ⟨_, c0, c1, c2, c3, c4, c5, c6, c7, c8⟩ := HBa.out
  dsimp only at c0 c1 c2 c3
  obtain ⟨_, x0, x1, _⟩ := HXa.out
  cases hf : fine p with
  | false =>
    rw [hf] at HF
    clear hf
    go_enter Try.func14, Try.ntmps14
    go_wp2_with fail
    refine (K.out).mono ?_
    rintro e w1 ⟨rfl, hbx⟩
    have HB1 := Lib.hid (HBa.out.below hbx)
    have HX1 := Lib.hid (HXa.out.below hbx)
    have Hb1 := Lib.hid (below_step Hba.out hbx Hba.out.size)
    clear hbx c0 c1 c2 c3 c4 c5 c6 c7 c8 x0 x1
    obtain ⟨_, c0, c1, c2, c3, c4, c5, c6, c7, c8⟩ := HB1.out
    dsimp only at c0 c1 c2 c3
    obtain ⟨_, x0, x1, _⟩ := HX1.out
    clear K
    go_wp2_with fail
    refine (HF.out w1 Hb1.out).mono ?_
    rintro e w2 ⟨rfl, hbx⟩
    have HB2 := Lib.hid (HB1.out.below hbx)
    have HX2 := Lib.hid (HX1.out.below hbx)
    have Hb2 := Lib.hid (below_step Hb1.out hbx Hb1.out.size)
    clear hbx c0 c1 c2 c3 c4 c5 c6 c7 c8 x0 x1
    obtain ⟨_, c0, c1, c2, c3, c4, c5, c6, c7, c8⟩ := HB2.out
    dsimp only at c0 c1 c2 c3
    obtain ⟨_, x0, x1, _⟩ := HX2.out
    go_wp2_with fail
    go_ret
    exact ⟨rfl, Hb2.out⟩
  | true =>
    rw [hf] at HF
    have HM := Lib.hid (fun (u : World) (hb : Below w.heap.size w u) => made_l (w := u) hf (hP.out.below hb))
    have Hok := Lib.hid (few_ok hP.out (fine_few hf).1)
    have Hc := Lib.hid (fine_few hf).2
    have G := Lib.hid (good_of (fine_few hf).2)
    clear hf
    go_enter Try.func14, Try.ntmps14
    go_wp2_with fail
    refine (K.out).mono ?_
    rintro e w1 ⟨rfl, hbx⟩
    have HB1 := Lib.hid (HBa.out.below hbx)
    have HX1 := Lib.hid (HXa.out.below hbx)
    have Hb1 := Lib.hid (below_step Hba.out hbx Hba.out.size)
    clear hbx c0 c1 c2 c3 c4 c5 c6 c7 c8 x0 x1
    obtain ⟨_, c0, c1, c2, c3, c4, c5, c6, c7, c8⟩ := HB1.out
    dsimp only at c0 c1 c2 c3
    obtain ⟨_, x0, x1, _⟩ := HX1.out
    clear K
    go_wp2_with fail
    refine (HF.out w1 Hb1.out).mono ?_
    rintro e w2 ⟨rfl, hbx⟩
    have HB2 := Lib.hid (HB1.out.below hbx)
    have HX2 := Lib.hid (HX1.out.below hbx)
    have Hb2 := Lib.hid (below_step Hb1.out hbx Hb1.out.size)
    clear hbx c0 c1 c2 c3 c4 c5 c6 c7 c8 x0 x1
    obtain ⟨_, c0, c1, c2, c3, c4, c5, c6, c7, c8⟩ := HB2.out
    dsimp only at c0 c1 c2 c3
    obtain ⟨_, x0, x1, _⟩ := HX2.out
    go_wp2_with fail
    refine (HM.out w2 Hb2.out).mono ?_
    rintro e w3 ⟨b, rfl, hbb, hn, hbx⟩
    have HB3 := Lib.hid (HB2.out.below hbx)
    have HX3 := Lib.hid (HX2.out.below hbx)
    have Hb3 := Lib.hid (below_step Hb2.out hbx Hb2.out.size)
    have HN3 := Lib.hid hn
    have hbb := Nat.le_trans Hb2.out.size hbb
    clear hbx hn HF HM c0 c1 c2 c3 c4 c5 c6 c7 c8 x0 x1
    obtain ⟨_, c0, c1, c2, c3, c4, c5, c6, c7, c8⟩ := HB3.out
    dsimp only at c0 c1 c2 c3
    obtain ⟨_, x0, x1, _⟩ := HX3.out
    go_wp2_with fail
    obtain ⟨y, hy⟩ : ∃ y, y = (nextOf p x).getD zeroPort := ⟨_, rfl⟩
    obtain ⟨oy, hoy⟩ : ∃ o, o = (nextOf p x).isSome := ⟨_, rfl⟩
    obtain ⟨z, hz⟩ : ∃ z, z = (sigAt p s).getD zeroPort := ⟨_, rfl⟩
    obtain ⟨oz, hoz⟩ : ∃ o, o = (sigAt p s).isSome := ⟨_, rfl⟩
    have Y1 := Lib.hid (nnext_any w3 b p HN3.out x hx)
    have Y2 := Lib.hid (fun (u : World) (hb : Below w.heap.size w u) => refnext_l (w := u) (a := x.e) (b := x.n) (hP.out.below hb))
    have Z1 := Lib.hid (fun (u : World) (hn : NetAt u b p) => nat_any u b p hn s)
    have Z2 := Lib.hid (fun (u : World) (hb : Below w.heap.size w u) => refat_l (w := u) (s := s) (hP.out.below hb))
    rw [← hy, ← hoy] at Y1
    rw [show ((⟨x.e, x.n⟩ : Port)) = x from rfl, ← hy, ← hoy] at Y2
    rw [← hz, ← hoz] at Z1 Z2
    clear hy hoy hz hoz
    have eqy := eql_port (x := y) (y := y) (b := true) (by simp)
    have eqz := eql_port (x := z) (y := z) (b := true) (by simp)
    dsimp only [Port.val] at Y1
    refine (Y1.out).mono ?_
    rintro e w4 ⟨rfl, hbx⟩
    have HB4 := Lib.hid (HB3.out.below hbx)
    have HN4 := Lib.hid (HN3.out.below hbx)
    have Hx4 := Lib.hid hbx
    have HX4 := Lib.hid (HX3.out.below hbx)
    have Hb4 := Lib.hid (below_step Hb3.out hbx Hb3.out.size)
    clear hbx c0 c1 c2 c3 c4 c5 c6 c7 c8 x0 x1
    obtain ⟨_, c0, c1, c2, c3, c4, c5, c6, c7, c8⟩ := HB4.out
    dsimp only at c0 c1 c2 c3
    obtain ⟨_, x0, x1, _⟩ := HX4.out
    go_wp2_with fail
    refine name_calls fun w5 hw => ?_
    have Hn5 := Lib.hid (show Below w4.heap.size w4 w5 by rw [hw]; exact below_new _ _)
    have Q5 := Lib.hid (show PortBox w5 w4.heap.size y by rw [hw]; exact PortBox.new _ rfl _ _)
    clear hw
    have HB5 := Lib.hid (HB4.out.below Hn5.out)
    have HN5 := Lib.hid (HN4.out.below Hn5.out)
    have HX5 := Lib.hid (HX4.out.below Hn5.out)
    have Hb5 := Lib.hid (below_step Hb4.out Hn5.out Hb4.out.size)
    clear c0 c1 c2 c3 c4 c5 c6 c7 c8 x0 x1
    obtain ⟨_, c0, c1, c2, c3, c4, c5, c6, c7, c8⟩ := HB5.out
    dsimp only at c0 c1 c2 c3
    obtain ⟨_, x0, x1, _⟩ := HX5.out
    refine (Y2.out w5 Hb5.out).mono ?_
    rintro e w6 ⟨rfl, hbx⟩
    have HB6 := Lib.hid (HB5.out.below hbx)
    have HN6 := Lib.hid (HN5.out.below hbx)
    have Hx6 := Lib.hid hbx
    have HX6 := Lib.hid (HX5.out.below hbx)
    have Hb6 := Lib.hid (below_step Hb5.out hbx Hb5.out.size)
    clear hbx c0 c1 c2 c3 c4 c5 c6 c7 c8 x0 x1
    obtain ⟨_, c0, c1, c2, c3, c4, c5, c6, c7, c8⟩ := HB6.out
    dsimp only at c0 c1 c2 c3
    obtain ⟨_, x0, x1, _⟩ := HX6.out
    have Q6 := Lib.hid (Q5.out.below Hx6.out)
    go_wp2_with fail
    refine name_calls fun w7 hw => ?_
    have Hn7 := Lib.hid (show Below w6.heap.size w6 w7 by rw [hw]; exact below_new _ _)
    have Q7 := Lib.hid (show PortBox w7 w6.heap.size y by rw [hw]; exact PortBox.new _ rfl _ _)
    clear hw
    have HB7 := Lib.hid (HB6.out.below Hn7.out)
    have HN7 := Lib.hid (HN6.out.below Hn7.out)
    have HX7 := Lib.hid (HX6.out.below Hn7.out)
    have Hb7 := Lib.hid (below_step Hb6.out Hn7.out Hb6.out.size)
    clear c0 c1 c2 c3 c4 c5 c6 c7 c8 x0 x1
    obtain ⟨_, c0, c1, c2, c3, c4, c5, c6, c7, c8⟩ := HB7.out
    dsimp only at c0 c1 c2 c3
    obtain ⟨_, x0, x1, _⟩ := HX7.out
    have P7 := Lib.hid (show PortBox w7 w4.heap.size y from Q6.out.below Hn7.out)
    refine (Z1.out w7 HN7.out).mono ?_
    rintro e w8 ⟨rfl, hbx⟩
    have HB8 := Lib.hid (HB7.out.below hbx)
    have HN8 := Lib.hid (HN7.out.below hbx)
    have Hx8 := Lib.hid hbx
    have HX8 := Lib.hid (HX7.out.below hbx)
    have Hb8 := Lib.hid (below_step Hb7.out hbx Hb7.out.size)
    clear hbx c0 c1 c2 c3 c4 c5 c6 c7 c8 x0 x1
    obtain ⟨_, c0, c1, c2, c3, c4, c5, c6, c7, c8⟩ := HB8.out
    dsimp only at c0 c1 c2 c3
    obtain ⟨_, x0, x1, _⟩ := HX8.out
    have P8 := Lib.hid (P7.out.below Hx8.out)
    have Q8 := Lib.hid (Q7.out.below Hx8.out)
    go_wp2_with fail
    refine name_calls fun w9 hw => ?_
    have Hn9 := Lib.hid (show Below w8.heap.size w8 w9 by rw [hw]; exact below_new _ _)
    have Q9 := Lib.hid (show PortBox w9 w8.heap.size z by rw [hw]; exact PortBox.new _ rfl _ _)
    clear hw
    have HB9 := Lib.hid (HB8.out.below Hn9.out)
    have HN9 := Lib.hid (HN8.out.below Hn9.out)
    have HX9 := Lib.hid (HX8.out.below Hn9.out)
    have Hb9 := Lib.hid (below_step Hb8.out Hn9.out Hb8.out.size)
    clear c0 c1 c2 c3 c4 c5 c6 c7 c8 x0 x1
    obtain ⟨_, c0, c1, c2, c3, c4, c5, c6, c7, c8⟩ := HB9.out
    dsimp only at c0 c1 c2 c3
    obtain ⟨_, x0, x1, _⟩ := HX9.out
    have P9 := Lib.hid (show PortBox w9 w4.heap.size y from P8.out.below Hn9.out)
    have R9 := Lib.hid (show PortBox w9 w6.heap.size y from Q8.out.below Hn9.out)
    refine (Z2.out w9 Hb9.out).mono ?_
    rintro e w10 ⟨rfl, hbx⟩
    have HB10 := Lib.hid (HB9.out.below hbx)
    have HN10 := Lib.hid (HN9.out.below hbx)
    have Hx10 := Lib.hid hbx
    have HX10 := Lib.hid (HX9.out.below hbx)
    have Hb10 := Lib.hid (below_step Hb9.out hbx Hb9.out.size)
    clear hbx c0 c1 c2 c3 c4 c5 c6 c7 c8 x0 x1
    obtain ⟨_, c0, c1, c2, c3, c4, c5, c6, c7, c8⟩ := HB10.out
    dsimp only at c0 c1 c2 c3
    obtain ⟨_, x0, x1, _⟩ := HX10.out
    have P10 := Lib.hid (P9.out.below Hx10.out)
    have R10 := Lib.hid (R9.out.below Hx10.out)
    have Q10 := Lib.hid (Q9.out.below Hx10.out)
    go_wp2_with fail
    refine name_code fun w11 hw => ?_
    have Hn11 := Lib.hid (show Below w10.heap.size w10 w11 by rw [hw]; exact below_new _ _)
    have S11 := Lib.hid (show PortBox w11 w10.heap.size z by rw [hw]; exact PortBox.new _ rfl _ _)
    clear hw
    have HB11 := Lib.hid (HB10.out.below Hn11.out)
    have HX11 := Lib.hid (HX10.out.below Hn11.out)
    have HN11 := Lib.hid (HN10.out.below Hn11.out)
    have Hb11 := Lib.hid (below_step Hb10.out Hn11.out Hb10.out.size)
    have P11 := Lib.hid (P10.out.below Hn11.out)
    have R11 := Lib.hid (R10.out.below Hn11.out)
    have Q11 := Lib.hid (Q10.out.below Hn11.out)
    clear c0 c1 c2 c3 c4 c5 c6 c7 c8 x0 x1
    obtain ⟨_, c0, c1, c2, c3, c4, c5, c6, c7, c8⟩ := HB11.out
    dsimp only at c0 c1 c2 c3
    obtain ⟨_, x0, x1, _⟩ := HX11.out
    obtain ⟨_, p0, p1, _⟩ := P11.out
    obtain ⟨_, r0, r1, _⟩ := R11.out
    obtain ⟨_, q0, q1, _⟩ := Q11.out
    obtain ⟨_, s0, s1, _⟩ := S11.out
    clear Y1 Y2 Z1 Z2
    have c0q := fun d os => cell_regrown c0 d os
    have c1q := fun d os => cell_regrown c1 d os
    have c2q := fun d os => cell_regrown c2 d os
    have c3q := fun d os => cell_regrown c3 d os
    have c4q := fun d os => cell_regrown c4 d os
    have c5q := fun d os => cell_regrown c5 d os
    have c6q := fun d os => cell_regrown c6 d os
    have c7q := fun d os => cell_regrown c7 d os
    have c8q := fun d os => cell_regrown c8 d os
    have x0q := fun d os => cell_regrown x0 d os
    have x1q := fun d os => cell_regrown x1 d os
    have p0q := fun d os => cell_regrown p0 d os
    have p1q := fun d os => cell_regrown p1 d os
    have r0q := fun d os => cell_regrown r0 d os
    have r1q := fun d os => cell_regrown r1 d os
    have q0q := fun d os => cell_regrown q0 d os
    have q1q := fun d os => cell_regrown q1 d os
    have s0q := fun d os => cell_regrown s0 d os
    have s1q := fun d os => cell_regrown s1 d os
    have cq0 : ∀ d os, Calls Try.prog 52 #[.pointer (some ⟨b, 0, none⟩), .agg #[.int .i64 x.e, .int .i64 x.n]] (grow (redrawn w11 d) os) fun e w'' => e = .returned (.int .i64 (reads p x)) ∧ ∃ p : Regrown, w'' = grow (redrawn w11 p.d) p.os := fun d os => Calls.regrown_of (nreads_any _ b p (HN11.out.below (below_regrown _ d os)) x hx)
    have cq1 : ∀ d os, Calls Try.prog 53 #[.agg #[.slice ae ne ce, .slice aj nj cj, .slice as_ ns cs, .slice al nl cl, .int .i64 p.top, .int .i64 p.brake, .int .i64 p.margin, .int .i64 p.throw, .bool p.hard], .agg #[.int .i64 x.e, .int .i64 x.n]] (grow (redrawn w11 d) os) fun e w'' => e = .returned (.int .i64 (reads p x)) ∧ ∃ p : Regrown, w'' = grow (redrawn w11 p.d) p.os := fun d os => Calls.regrown_of (refreads_l (hP.out.below (below_step Hb11.out (below_regrown _ d os) Hb11.out.size)))
    refine wp_region_quiet_below (by kernel_rfl) (by kernel_rfl) ?_
    repeat (quiet_step (first | with_reducible exact cq0 _ _ | with_reducible exact cq1 _ _))
    refine wpQuiet_nil ?_
    intro w12 hw'
    have hb12 : Below w11.heap.size w11 w12 := by obtain ⟨⟨d, os⟩, rfl⟩ := hw'; exact below_regrown _ d os
    clear hw' c0q c1q c2q c3q c4q c5q c6q c7q c8q x0q x1q p0q p1q r0q r1q q0q q1q s0q s1q cq0 cq1
    go_wp2_with fail
    go_ret
    exact ⟨ret_bool (by simp), below_step Hb11.out hb12 Hb11.out.size⟩
set_option maxRecDepth 100000 in
theorem netPorts_lifted (os : Os) (started : os.Started) (H : Type) (enc : TypeId × Value → H) :
    ReturnsInHanded {} Try.checked os 14 .any (Rows.netPortsSpec.pre6 enc Try.prog Try.f14 Rows.netPortsRow.domain false) (Rows.netPortsSpec.post enc Try.prog Try.f14 false true false false) := by
  refine returnsInHanded_of_change (C := Try.checked) own started (by kernel_rfl) Try.func14
    (ChangeSpec.witness6 (enc := enc) (C := Try.checked) false ⟨#[], #[.agg #[.slice none 0 0, .slice none 0 0, .slice none 0 0, .slice none 0 0, .int .i64 0, .int .i64 0, .int .i64 0, .int .i64 0, .bool false], .agg #[.int .i64 0, .int .i64 0], .int .i64 0], []⟩ 8 (by kernel_rfl) (by kernel_rfl) (by kernel_rfl) (by kernel_rfl)) ?_
  intro W base args ds gs before hval0 hW hcnd _
  have hval : ∀ (j : Nat) t v, Try.f14.params[j]? = some t → args[j]? = some v → Value.okWide Try.prog W .any base t v := hval0
  have hW' := hW
  obtain ⟨p, q, hA0, hV, rfl, hfz, hnd⟩ := hW
  have hA : DataW.TrodAll enc Try.prog W 0 (fun _ => true) true Try.f14.params.toList args.toList ds p := hA0
  rw [Try.params14] at hA hval
  obtain ⟨v0, vs0, d0, ds0, p0, q0, hargs, rfl, rfl, k0, r0⟩ := trodAll_cons hA
  obtain ⟨v1, vs1, d1, ds1, p1, q1, rfl, rfl, rfl, k1, r1⟩ := trodAll_cons r0
  obtain ⟨v2, vs2, d2, ds2, p2, q2, rfl, rfl, rfl, k2, r2⟩ := trodAll_cons r1
  obtain ⟨rfl, rfl, rfl⟩ := trodAll_nil r2
  obtain rfl : args = #[v0, v1, v2] := by cases args; simp_all
  obtain ⟨rfl, rfl⟩ := trodVars_none hV
  have lt0 : ∀ x ∈ p0, x.block < W.heap.size := by obtain ⟨m, hm⟩ := k0; exact DataW.trod_lt m _ _ _ hm
  have hv0 := hval 0 32 v0 rfl rfl
  have lt1 : ∀ x ∈ p1, x.block < W.heap.size := by obtain ⟨m, hm⟩ := k1; exact DataW.trod_lt m _ _ _ hm
  have hv1 := hval 1 44 v1 rfl rfl
  have lt2 : ∀ x ∈ p2, x.block < W.heap.size := by obtain ⟨m, hm⟩ := k2; exact DataW.trod_lt m _ _ _ hm
  have hv2 := hval 2 3 v2 rfl rfl
  have fin : Calls Try.prog 14 #[v0, v1, v2] W (fun e W' => e = .returned (.bool true) ∧ Below W.heap.size W W') := by
    obtain ⟨pv, p, rfl, hp⟩ := open_plan hv0 k0
    obtain ⟨x0, rfl, a0⟩ := open_port hv1 k1
    obtain ⟨x1, rfl, b0⟩ := open_i hv2 k2
    exact lawPorts_any W pv p x0 x1 a0 hp
  clear hA0 hval0
  refine fin.mono fun e W' ⟨he, bel⟩ => ?_
  subst he
  exact ⟨_, rfl, _, _, _, [], _, [], hW', trodAll_mk1 (shut_bool Try.underlying4 _), (trodAll_cons_mk (Below.trod laidOut (by kernel_rfl) (of_decide_eq_true (by kernel_rfl)) k0 bel lt0) (trodAll_cons_mk (Below.trod laidOut (by kernel_rfl) (of_decide_eq_true (by kernel_rfl)) k1 bel lt1) (trodAll_cons_mk (Below.trod laidOut (by kernel_rfl) (of_decide_eq_true (by kernel_rfl)) k2 bel lt2) trodAll_mk0))), rfl, bel.frame _, fun h => by cases h⟩

/-- THE STATEMENT -/
theorem netPorts_holds : Rows.NetPortsSaid :=
  OpenClaim.holds_of_wide 14 Try.f14 rfl rfl rfl rfl rfl rfl rfl ⟨rfl, rfl, rfl, rfl, rfl⟩ rfl rfl rfl rfl rfl (by kernel_rfl) Try.func14 (by kernel_rfl)
    (of_decide_eq_true (by kernel_rfl)) (by unfold Func.isWrapper; first | (rw [if_pos (by decide +kernel)]; kernel_rfl) | (rw [if_neg (by decide +kernel)]; exact ⟨rfl, rfl⟩))
    (fun os started H enc _ => netPorts_lifted os started H enc)
end Go.Proofs.Ytlndfmflbdkpjaa
