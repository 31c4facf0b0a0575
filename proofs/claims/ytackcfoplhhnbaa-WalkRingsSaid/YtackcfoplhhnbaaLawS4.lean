/- WalkRuns: for every input the law returns true. No condition. -/
import Derived.Test.YtackcfoplhhnbaaKnown5
set_option maxRecDepth 1000000
namespace Go.Proofs.Ytackcfoplhhnbaa
open Go.ChangeShapes Go.WideShapes Go.ChangeAt Go.RowKit Go.Sort

theorem samep_b {w : World} {a1 a2 : Option Addr} {n1 n2 c1 c2 : Nat} {xs ys : List Port} (h1 : Row 2 encPort w a1 n1 xs) (h2 : Row 2 encPort w a2 n2 ys) (he : xs = ys) :
    Calls Try.prog 27 #[.slice a1 n1 c1, .slice a2 n2 c2] w fun e w' => e = .returned (.bool true) ∧ Below w.heap.size w w' :=
  (refSamePorts w a1 a2 n1 n2 c1 c2 xs ys h1 h2).mono fun _ _ ⟨h, q, hw⟩ => ⟨by rw [h, he]; simp, by rw [hw]; exact below_drewN (Below.refl _ _) q⟩
theorem run_le (p : Plan) (pos : List Int) (x : Port) (most : Int) : (run p pos x most).1.length ≤ 1000 := Nat.le_trans (run_len p pos _ x).1 (runMost_le most)
set_option maxHeartbeats 4000000 in
theorem lawRuns_any (w : World) (pv : PV) (p : Plan) (pa : Option Addr) (pn pc : Nat) (pos : List Int) (x : Port) (hx : x.wf) (most : Int) (h : PlanAt w pv p) (hr : Hid (Ints w pa pn pos)) :
    Calls Try.prog 4 #[pv.val p, .slice pa pn pc, x.val, .int .i64 most] w fun en w' => en = .returned (.bool true) ∧ Below w.heap.size w w' := by
  obtain ⟨ae, ne, ce, aj, nj, cj, as_, ns, cs, al, nl, cl, lv⟩ := pv
  have hP := Lib.hid h
  have HBa := Lib.hid ((pbox_new w ⟨ae, ne, ce, aj, nj, cj, as_, ns, cs, al, nl, cl, lv⟩ p).alloc (.cells #[.int .i64 x.e, .int .i64 x.n] 30))
  have Hba := Lib.hid (below_new2 w (.cells #[.slice ae ne ce, .slice aj nj cj, .slice as_ ns cs, .slice al nl cl, .int .i64 p.top, .int .i64 p.brake, .int .i64 p.margin, .int .i64 p.throw, .bool p.hard] 27) (.cells #[.int .i64 x.e, .int .i64 x.n] 30))
  have HXa := Lib.hid (PortBox.new (w.alloc (.cells #[.slice ae ne ce, .slice aj nj cj, .slice as_ ns cs, .slice al nl cl, .int .i64 p.top, .int .i64 p.brake, .int .i64 p.margin, .int .i64 p.throw, .bool p.hard] 27)) (b := w.heap.size + 1) (by simp) x 30)
  have K := Lib.hid (known5_any ((w.alloc (.cells #[.slice ae ne ce, .slice aj nj cj, .slice as_ ns cs, .slice al nl cl, .int .i64 p.top, .int .i64 p.brake, .int .i64 p.margin, .int .i64 p.throw, .bool p.hard] 27)).alloc (.cells #[.int .i64 x.e, .int .i64 x.n] 30)))
  have HF := Lib.hid (fun (u : World) (hb : Below w.heap.size w u) => finex_l (w := u) (hP.out.below hb))
  clear h
  dsimp only [PV.val, Port.val]
  obtain ⟨_, c0, c1, c2, c3, c4, c5, c6, c7, c8⟩ := HBa.out
  dsimp only at c0 c1 c2 c3
  obtain ⟨_, x0, x1, _⟩ := HXa.out
  cases hf : fine p with
  | false =>
    rw [hf] at HF
    clear hf
    go_enter Try.func4, Try.ntmps4
    go_wp2_with fail
    refine (K.out).mono ?_
    rintro e w1 ⟨rfl, hbx⟩
    have HB1 := Lib.hid (HBa.out.below hbx)
    have HX1 := Lib.hid (HXa.out.below hbx)
    have Hb1 := Lib.hid (below_step Hba.out hbx Hba.out.size)
    clear hbx c0 c1 c2 c3 c4 c5 c6 c7 c8 x0 x1
    obtain ⟨_, c0, c1, c2, c3, c4, c5, c6, c7, c8⟩ := HB1.out
    dsimp only at c0 c1 c2 c3
    obtain ⟨_, x0, x1, _⟩ := HX1.out
    clear K
    go_wp2_with fail
    refine (HF.out w1 Hb1.out).mono ?_
    rintro e w2 ⟨rfl, hbx⟩
    have HB2 := Lib.hid (HB1.out.below hbx)
    have HX2 := Lib.hid (HX1.out.below hbx)
    have Hb2 := Lib.hid (below_step Hb1.out hbx Hb1.out.size)
    clear hbx c0 c1 c2 c3 c4 c5 c6 c7 c8 x0 x1
    obtain ⟨_, c0, c1, c2, c3, c4, c5, c6, c7, c8⟩ := HB2.out
    dsimp only at c0 c1 c2 c3
    obtain ⟨_, x0, x1, _⟩ := HX2.out
    go_wp2_with fail
    go_ret
    exact ⟨rfl, Hb2.out⟩
  | true =>
    rw [hf] at HF
    have HM := Lib.hid (fun (u : World) (hb : Below w.heap.size w u) => made_l (w := u) hf (hP.out.below hb))
    have Hok := Lib.hid (few_ok hP.out (fine_few hf).1)
    have Hc := Lib.hid (fine_few hf).2
    have G := Lib.hid (good_of (fine_few hf).2)
    clear hf
    by_cases hq : 100 < pn
    · have q9 : decide ((100 : Int) < (pn : Int)) = true := by simp; omega
      go_enter Try.func4, Try.ntmps4
      go_wp2_with fail
      refine (K.out).mono ?_
      rintro e w1 ⟨rfl, hbx⟩
      have HB1 := Lib.hid (HBa.out.below hbx)
      have HX1 := Lib.hid (HXa.out.below hbx)
      have Hb1 := Lib.hid (below_step Hba.out hbx Hba.out.size)
      clear hbx c0 c1 c2 c3 c4 c5 c6 c7 c8 x0 x1
      obtain ⟨_, c0, c1, c2, c3, c4, c5, c6, c7, c8⟩ := HB1.out
      dsimp only at c0 c1 c2 c3
      obtain ⟨_, x0, x1, _⟩ := HX1.out
      clear K
      go_wp2_with fail
      refine (HF.out w1 Hb1.out).mono ?_
      rintro e w2 ⟨rfl, hbx⟩
      have HB2 := Lib.hid (HB1.out.below hbx)
      have HX2 := Lib.hid (HX1.out.below hbx)
      have Hb2 := Lib.hid (below_step Hb1.out hbx Hb1.out.size)
      clear hbx c0 c1 c2 c3 c4 c5 c6 c7 c8 x0 x1
      obtain ⟨_, c0, c1, c2, c3, c4, c5, c6, c7, c8⟩ := HB2.out
      dsimp only at c0 c1 c2 c3
      obtain ⟨_, x0, x1, _⟩ := HX2.out
      go_wp2_with fail
      go_ret
      exact ⟨rfl, Hb2.out⟩
    have q9 : decide ((100 : Int) < (pn : Int)) = false := by simp; omega
    go_enter Try.func4, Try.ntmps4
    go_wp2_with fail
    refine (K.out).mono ?_
    rintro e w1 ⟨rfl, hbx⟩
    have HB1 := Lib.hid (HBa.out.below hbx)
    have HX1 := Lib.hid (HXa.out.below hbx)
    have Hb1 := Lib.hid (below_step Hba.out hbx Hba.out.size)
    clear hbx c0 c1 c2 c3 c4 c5 c6 c7 c8 x0 x1
    obtain ⟨_, c0, c1, c2, c3, c4, c5, c6, c7, c8⟩ := HB1.out
    dsimp only at c0 c1 c2 c3
    obtain ⟨_, x0, x1, _⟩ := HX1.out
    clear K
    go_wp2_with fail
    refine (HF.out w1 Hb1.out).mono ?_
    rintro e w2 ⟨rfl, hbx⟩
    have HB2 := Lib.hid (HB1.out.below hbx)
    have HX2 := Lib.hid (HX1.out.below hbx)
    have Hb2 := Lib.hid (below_step Hb1.out hbx Hb1.out.size)
    clear hbx c0 c1 c2 c3 c4 c5 c6 c7 c8 x0 x1
    obtain ⟨_, c0, c1, c2, c3, c4, c5, c6, c7, c8⟩ := HB2.out
    dsimp only at c0 c1 c2 c3
    obtain ⟨_, x0, x1, _⟩ := HX2.out
    go_wp2_with fail
    refine (HM.out w2 Hb2.out).mono ?_
    rintro e w3 ⟨b, rfl, hbb, hn, hbx⟩
    have HB3 := Lib.hid (HB2.out.below hbx)
    have HX3 := Lib.hid (HX2.out.below hbx)
    have Hb3 := Lib.hid (below_step Hb2.out hbx Hb2.out.size)
    have HN3 := Lib.hid hn
    have hbb := Nat.le_trans Hb2.out.size hbb
    clear hbx hn HF HM c0 c1 c2 c3 c4 c5 c6 c7 c8 x0 x1
    obtain ⟨_, c0, c1, c2, c3, c4, c5, c6, c7, c8⟩ := HB3.out
    dsimp only at c0 c1 c2 c3
    obtain ⟨_, x0, x1, _⟩ := HX3.out
    have Hr3 := Lib.hid (hr.out.below Hb3.out)
    have D3 := Lib.hid (Below.refl w3.heap.size w3)
    clear q9 hr
    go_wp2_with fail
    obtain ⟨L, hL⟩ : ∃ L, L = run p pos x most := ⟨_, rfl⟩
    have hll : L.1.length ≤ 1000 := by rw [hL]; exact run_le _ _ _ _
    have C1 := Lib.hid (fun (u : World) (hb : Below w3.heap.size w3 u) => nrun_any u b p (HN3.out.below hb) pa pn pc pos (Lib.hid (Hr3.out.below hb)) x hx most)
    have C2 := Lib.hid (fun (u : World) (hb : Below w3.heap.size w3 u) => refrun_any u ⟨ae, ne, ce, aj, nj, cj, as_, ns, cs, al, nl, cl, lv⟩ p (hP.out.below (below_step Hb3.out hb Hb3.out.size)) pa pn pc pos (Lib.hid (Hr3.out.below hb)) x most)
    rw [← hL] at C1 C2
    clear hL
    dsimp only [PV.val, Port.val] at C1 C2
    refine (C1.out _ D3.out).mono ?_
    rintro en w4 ⟨ra, rn, rc, rfl, hrow, hrcR, hbx⟩
    have R4_ := Lib.hid hrow
    have hlenR := hrow.len
    clear hrow
    clear c0 c1 c2 c3 c4 c5 c6 c7 c8 x0 x1
    have D4 := Lib.hid (below_step D3.out hbx D3.out.size)
    clear hbx
    obtain ⟨_, c0, c1, c2, c3, c4, c5, c6, c7, c8⟩ := (HB3.out.below D4.out)
    dsimp only at c0 c1 c2 c3
    obtain ⟨_, x0, x1, _⟩ := (HX3.out.below D4.out)
    go_wp2_with fail
    refine (C2.out _ D4.out).mono ?_
    rintro en w5 ⟨sa, sn, sc, rfl, hrow, hrcS, hbx⟩
    have S5_ := Lib.hid hrow
    have hlenS := hrow.len
    clear hrow
    clear c0 c1 c2 c3 c4 c5 c6 c7 c8 x0 x1
    have D5 := Lib.hid (below_step D4.out hbx D4.out.size)
    have R5_ := Lib.hid (R4_.out.below hbx)
    clear hbx
    obtain ⟨_, c0, c1, c2, c3, c4, c5, c6, c7, c8⟩ := (HB3.out.below D5.out)
    dsimp only at c0 c1 c2 c3
    obtain ⟨_, x0, x1, _⟩ := (HX3.out.below D5.out)
    go_wp2_with fail
    have hbl := HB3.out.lt
    have c0q := fun d os => cell_regrown c0 d os
    have c1q := fun d os => cell_regrown c1 d os
    have c2q := fun d os => cell_regrown c2 d os
    have c3q := fun d os => cell_regrown c3 d os
    have c4q := fun d os => cell_regrown c4 d os
    have c5q := fun d os => cell_regrown c5 d os
    have c6q := fun d os => cell_regrown c6 d os
    have c7q := fun d os => cell_regrown c7 d os
    have c8q := fun d os => cell_regrown c8 d os
    have cq0 : ∀ d os, Calls Try.prog 27 #[.slice ra rn rc, .slice sa sn sc] (grow (redrawn w5 d) os) fun e w'' => e = .returned (.bool true) ∧ ∃ rg : Regrown, w'' = grow (redrawn w5 rg.d) rg.os := fun d os => Calls.regrown_of (samep_b (R5_.out.below (below_regrown _ d os)) (S5_.out.below (below_regrown _ d os)) rfl)
    have cq1 : ∀ d os, Calls Try.prog 28 #[.pointer (some ⟨b, 0, none⟩), .slice ra rn rc] (grow (redrawn w5 d) os) fun e w'' => e = .returned (.int .i64 (metres p L.1)) ∧ ∃ rg : Regrown, w'' = grow (redrawn w5 rg.d) rg.os := fun d os => Calls.regrown_of (nmetres_any _ b p (HN3.out.below (below_step D5.out (below_regrown _ d os) D5.out.size)) ra rn rc L.1 (Lib.hid (R5_.out.below (below_regrown _ d os))) (by omega))
    have cq2 : ∀ d os, Calls Try.prog 29 #[.agg #[.slice ae ne ce, .slice aj nj cj, .slice as_ ns cs, .slice al nl cl, .int .i64 p.top, .int .i64 p.brake, .int .i64 p.margin, .int .i64 p.throw, .bool p.hard], .slice sa sn sc] (grow (redrawn w5 d) os) fun e w'' => e = .returned (.int .i64 (metres p L.1)) ∧ ∃ rg : Regrown, w'' = grow (redrawn w5 rg.d) rg.os := fun d os => Calls.regrown_of (refmetres_any _ ⟨ae, ne, ce, aj, nj, cj, as_, ns, cs, al, nl, cl, lv⟩ p (hP.out.below (below_step (below_step Hb3.out D5.out Hb3.out.size) (below_regrown _ d os) (below_step Hb3.out D5.out Hb3.out.size).size)) Hc.out sa sn sc L.1 (Lib.hid (S5_.out.below (below_regrown _ d os))) (by omega))
    refine wp_region_quiet_below (by kernel_rfl) (by kernel_rfl) ?_
    repeat (quiet_step (first | with_reducible exact cq0 _ _ | with_reducible exact cq1 _ _ | with_reducible exact cq2 _ _))
    refine wpQuiet_nil ?_
    intro w6 hw'
    have hb6 : Below w5.heap.size w5 w6 := by obtain ⟨⟨d, os⟩, rfl⟩ := hw'; exact below_regrown _ d os
    clear hw' c0q c1q c2q c3q c4q c5q c6q c7q c8q cq0 cq1 cq2
    go_wp2_with fail
    go_ret
    exact ⟨ret_bool (by simp), below_step Hb3.out (below_step D5.out hb6 D5.out.size) Hb3.out.size⟩
set_option maxRecDepth 100000 in
theorem walkRuns_lifted (os : Os) (started : os.Started) (H : Type) (enc : TypeId × Value → H) :
    ReturnsInHanded {} Try.checked os 4 .any (Rows.walkRunsSpec.pre6 enc Try.prog Try.f4 Rows.walkRunsRow.domain false) (Rows.walkRunsSpec.post enc Try.prog Try.f4 false true false false) := by
  refine returnsInHanded_of_change (C := Try.checked) own started (by kernel_rfl) Try.func4
    (ChangeSpec.witness6 (enc := enc) (C := Try.checked) false ⟨#[], #[.agg #[.slice none 0 0, .slice none 0 0, .slice none 0 0, .slice none 0 0, .int .i64 0, .int .i64 0, .int .i64 0, .int .i64 0, .bool false], .slice none 0 0, .agg #[.int .i64 0, .int .i64 0], .int .i64 0], []⟩ 8 (by kernel_rfl) (by kernel_rfl) (by kernel_rfl) (by kernel_rfl)) ?_
  intro W base args ds gs before hval0 hW hcnd _
  have hval : ∀ (j : Nat) t v, Try.f4.params[j]? = some t → args[j]? = some v → Value.okWide Try.prog W .any base t v := hval0
  have hW' := hW
  obtain ⟨p, q, hA0, hV, rfl, hfz, hnd⟩ := hW
  have hA : DataW.TrodAll enc Try.prog W 0 (fun _ => true) true Try.f4.params.toList args.toList ds p := hA0
  rw [Try.params4] at hA hval
  obtain ⟨v0, vs0, d0, ds0, p0, q0, hargs, rfl, rfl, k0, r0⟩ := trodAll_cons hA
  obtain ⟨v1, vs1, d1, ds1, p1, q1, rfl, rfl, rfl, k1, r1⟩ := trodAll_cons r0
  obtain ⟨v2, vs2, d2, ds2, p2, q2, rfl, rfl, rfl, k2, r2⟩ := trodAll_cons r1
  obtain ⟨v3, vs3, d3, ds3, p3, q3, rfl, rfl, rfl, k3, r3⟩ := trodAll_cons r2
  obtain ⟨rfl, rfl, rfl⟩ := trodAll_nil r3
  obtain rfl : args = #[v0, v1, v2, v3] := by cases args; simp_all
  obtain ⟨rfl, rfl⟩ := trodVars_none hV
  have lt0 : ∀ x ∈ p0, x.block < W.heap.size := by obtain ⟨m, hm⟩ := k0; exact DataW.trod_lt m _ _ _ hm
  have hv0 := hval 0 27 v0 rfl rfl
  have lt1 : ∀ x ∈ p1, x.block < W.heap.size := by obtain ⟨m, hm⟩ := k1; exact DataW.trod_lt m _ _ _ hm
  have hv1 := hval 1 28 v1 rfl rfl
  have lt2 : ∀ x ∈ p2, x.block < W.heap.size := by obtain ⟨m, hm⟩ := k2; exact DataW.trod_lt m _ _ _ hm
  have hv2 := hval 2 30 v2 rfl rfl
  have lt3 : ∀ x ∈ p3, x.block < W.heap.size := by obtain ⟨m, hm⟩ := k3; exact DataW.trod_lt m _ _ _ hm
  have hv3 := hval 3 3 v3 rfl rfl
  have fin : Calls Try.prog 4 #[v0, v1, v2, v3] W (fun e W' => e = .returned (.bool true) ∧ Below W.heap.size W W') := by
    obtain ⟨pv, p, rfl, hp⟩ := open_plan hv0 k0
    obtain ⟨pa, pn, pc, pos, rfl, hr, _, _, _⟩ := open_Ints hv1 k1
    obtain ⟨x0, rfl, a0⟩ := open_port hv2 k2
    obtain ⟨x1, rfl, b0⟩ := open_i hv3 k3
    exact lawRuns_any W pv p pa pn pc pos x0 a0 x1 hp (Lib.hid hr)
  clear hA0 hval0
  refine fin.mono fun e W' ⟨he, bel⟩ => ?_
  subst he
  exact ⟨_, rfl, _, _, _, [], _, [], hW', trodAll_mk1 (shut_bool Try.underlying4 _), (trodAll_cons_mk (Below.trod laidOut (by kernel_rfl) (of_decide_eq_true (by kernel_rfl)) k0 bel lt0) (trodAll_cons_mk (Below.trod laidOut (by kernel_rfl) (of_decide_eq_true (by kernel_rfl)) k1 bel lt1) (trodAll_cons_mk (Below.trod laidOut (by kernel_rfl) (of_decide_eq_true (by kernel_rfl)) k2 bel lt2) (trodAll_cons_mk (Below.trod laidOut (by kernel_rfl) (of_decide_eq_true (by kernel_rfl)) k3 bel lt3) trodAll_mk0)))), rfl, bel.frame _, fun h => by cases h⟩

/-- THE STATEMENT -/
theorem walkRuns_holds : Rows.WalkRunsSaid :=
  OpenClaim.holds_of_wide 4 Try.f4 rfl rfl rfl rfl rfl rfl rfl ⟨rfl, rfl, rfl, rfl, rfl⟩ rfl rfl rfl rfl rfl (by kernel_rfl) Try.func4 (by kernel_rfl)
    (of_decide_eq_true (by kernel_rfl)) (by unfold Func.isWrapper; first | (rw [if_pos (by decide +kernel)]; kernel_rfl) | (rw [if_neg (by decide +kernel)]; exact ⟨rfl, rfl⟩))
    (fun os started H enc _ => walkRuns_lifted os started H enc)
end Go.Proofs.Ytackcfoplhhnbaa
