/- NetSignals: for every input the law returns true. No condition. -/
import Derived.Test.YtlndfmflbdkpjaaNetPlit
set_option maxRecDepth 1000000
namespace Go.Proofs.Ytlndfmflbdkpjaa
open Go.ChangeShapes Go.WideShapes Go.ChangeAt Go.RowKit Go.Sort

theorem sigAt_get {p : Plan} {j : Nat} {a : Sig} (h : p.sigs[j]? = some a) : sigAt p (j : Int) = some a.at_ := by
  unfold sigAt; rw [if_pos (by omega), show ((j : Int)).toNat = j by omega, h]; rfl
set_option maxHeartbeats 4000000 in
theorem lawSignals_any (w : World) (pv : PV) (p : Plan) (x : Port) (hx : x.wf) (h : PlanAt w pv p) :
    Calls Try.prog 15 #[pv.val p, x.val] w fun en w' => en = .returned (.bool true) ∧ Below w.heap.size w w' := by
  obtain ⟨ae, ne, ce, aj, nj, cj, as_, ns, cs, al, nl, cl, lv⟩ := pv
  have hP := Lib.hid h
  have HBa := Lib.hid ((pbox_new w ⟨ae, ne, ce, aj, nj, cj, as_, ns, cs, al, nl, cl, lv⟩ p).alloc (.cells #[.int .i64 x.e, .int .i64 x.n] 44))
  have Hba := Lib.hid (below_new2 w (.cells #[.slice ae ne ce, .slice aj nj cj, .slice as_ ns cs, .slice al nl cl, .int .i64 p.top, .int .i64 p.brake, .int .i64 p.margin, .int .i64 p.throw, .bool p.hard] 32) (.cells #[.int .i64 x.e, .int .i64 x.n] 44))
  have HXa := Lib.hid (PortBox.new (w.alloc (.cells #[.slice ae ne ce, .slice aj nj cj, .slice as_ ns cs, .slice al nl cl, .int .i64 p.top, .int .i64 p.brake, .int .i64 p.margin, .int .i64 p.throw, .bool p.hard] 32)) (b := w.heap.size + 1) (by simp) x 44)
  have K := Lib.hid (known4_any ((w.alloc (.cells #[.slice ae ne ce, .slice aj nj cj, .slice as_ ns cs, .slice al nl cl, .int .i64 p.top, .int .i64 p.brake, .int .i64 p.margin, .int .i64 p.throw, .bool p.hard] 32)).alloc (.cells #[.int .i64 x.e, .int .i64 x.n] 44)))
  have HF := Lib.hid (fun (u : World) (hb : Below w.heap.size w u) => finex_l (w := u) (hP.out.below hb))
  clear h
  dsimp only [PV.val, Port.val]
  obtain ⟨_, c0, c1, c2, c3, c4, c5, c6, c7, c8⟩ := HBa.out
  dsimp only at c0 c1 c2 c3
  obtain ⟨_, x0, x1, _⟩ := HXa.out
  cases hf : fine p with
  | false =>
    rw [hf] at HF
    clear hf
    go_enter Try.func15, Try.ntmps15
    go_wp2_with fail
    refine (K.out).mono ?_
    rintro e w1 ⟨rfl, hbx⟩
    have HB1 := Lib.hid (HBa.out.below hbx)
    have HX1 := Lib.hid (HXa.out.below hbx)
    have Hb1 := Lib.hid (below_step Hba.out hbx Hba.out.size)
    clear hbx c0 c1 c2 c3 c4 c5 c6 c7 c8 x0 x1
    obtain ⟨_, c0, c1, c2, c3, c4, c5, c6, c7, c8⟩ := HB1.out
    dsimp only at c0 c1 c2 c3
    obtain ⟨_, x0, x1, _⟩ := HX1.out
    clear K
    go_wp2_with fail
    refine (HF.out w1 Hb1.out).mono ?_
    rintro e w2 ⟨rfl, hbx⟩
    have HB2 := Lib.hid (HB1.out.below hbx)
    have HX2 := Lib.hid (HX1.out.below hbx)
    have Hb2 := Lib.hid (below_step Hb1.out hbx Hb1.out.size)
    clear hbx c0 c1 c2 c3 c4 c5 c6 c7 c8 x0 x1
    obtain ⟨_, c0, c1, c2, c3, c4, c5, c6, c7, c8⟩ := HB2.out
    dsimp only at c0 c1 c2 c3
    obtain ⟨_, x0, x1, _⟩ := HX2.out
    go_wp2_with fail
    go_ret
    exact ⟨rfl, Hb2.out⟩
  | true =>
    rw [hf] at HF
    have HM := Lib.hid (fun (u : World) (hb : Below w.heap.size w u) => made_l (w := u) hf (hP.out.below hb))
    have Hok := Lib.hid (few_ok hP.out (fine_few hf).1)
    have Hc := Lib.hid (fine_few hf).2
    have G := Lib.hid (good_of (fine_few hf).2)
    clear hf
    go_enter Try.func15, Try.ntmps15
    go_wp2_with fail
    refine (K.out).mono ?_
    rintro e w1 ⟨rfl, hbx⟩
    have HB1 := Lib.hid (HBa.out.below hbx)
    have HX1 := Lib.hid (HXa.out.below hbx)
    have Hb1 := Lib.hid (below_step Hba.out hbx Hba.out.size)
    clear hbx c0 c1 c2 c3 c4 c5 c6 c7 c8 x0 x1
    obtain ⟨_, c0, c1, c2, c3, c4, c5, c6, c7, c8⟩ := HB1.out
    dsimp only at c0 c1 c2 c3
    obtain ⟨_, x0, x1, _⟩ := HX1.out
    clear K
    go_wp2_with fail
    refine (HF.out w1 Hb1.out).mono ?_
    rintro e w2 ⟨rfl, hbx⟩
    have HB2 := Lib.hid (HB1.out.below hbx)
    have HX2 := Lib.hid (HX1.out.below hbx)
    have Hb2 := Lib.hid (below_step Hb1.out hbx Hb1.out.size)
    clear hbx c0 c1 c2 c3 c4 c5 c6 c7 c8 x0 x1
    obtain ⟨_, c0, c1, c2, c3, c4, c5, c6, c7, c8⟩ := HB2.out
    dsimp only at c0 c1 c2 c3
    obtain ⟨_, x0, x1, _⟩ := HX2.out
    go_wp2_with fail
    refine (HM.out w2 Hb2.out).mono ?_
    rintro e w3 ⟨b, rfl, hbb, hn, hbx⟩
    have HB3 := Lib.hid (HB2.out.below hbx)
    have HX3 := Lib.hid (HX2.out.below hbx)
    have Hb3 := Lib.hid (below_step Hb2.out hbx Hb2.out.size)
    have HN3 := Lib.hid hn
    have hbb := Nat.le_trans Hb2.out.size hbb
    clear hbx hn HF HM c0 c1 c2 c3 c4 c5 c6 c7 c8 x0 x1
    obtain ⟨_, c0, c1, c2, c3, c4, c5, c6, c7, c8⟩ := HB3.out
    dsimp only at c0 c1 c2 c3
    obtain ⟨_, x0, x1, _⟩ := HX3.out
    go_wp2_with fail
    have ls := Lib.hid (show p.sigs.length = ns from hP.out.s.len)
    have hns : ns ≤ 60 := Hok.out.2.2.1
    have NS := Lib.hid (fun (u : World) (hn : NetAt u b p) => nsignals_any u b p hn)
    rw [ls.out] at NS
    clear c0 c1 c2 c3 c4 c5 c6 c7 c8 x0 x1
    go_loopg [6] ns (fun k i wr => ∃ j : Nat, j + k = ns ∧ i = .int .i64 j ∧ NetAt wr b p ∧ PortBox wr (w.heap.size + 1) x ∧ Below w3.heap.size w3 wr)
    case atStart => exact ⟨0, by omega, rfl, HN3.out, HX3.out, Below.refl _ _⟩
    case round =>
      clear HX3
      obtain ⟨j, hk, rfl, hN, hX, hb⟩ := hrel
      have Hk := Lib.hid hk; clear hk
      have HN := Lib.hid hN
      have HX := Lib.hid hX
      have Hb := Lib.hid hb
      clear hN hX hb
      by_cases hlt : j < ns
      · obtain ⟨a, ha⟩ := get_some ls.out hlt
        have haw : a.at_.wf := (hP.out.fit.s a (List.mem_of_getElem? ha)).1
        have Z := Lib.hid (nat_any wr b p HN.out (j : Int))
        rw [sigAt_get ha] at Z
        dsimp only [Option.getD_some, Option.isSome_some] at Z
        have Hr := Lib.hid (reads_iff G.out ha)
        clear ha
        go_wp2_with fail
        refine (NS.out wr HN.out).mono ?_
        rintro en w4 ⟨rfl, rfl⟩
        go_wp2_with fail
        refine Z.out.mono ?_
        rintro en w5 ⟨rfl, hbx⟩
        have HN5 := Lib.hid (HN.out.below hbx)
        have HX5 := Lib.hid (HX.out.below hbx)
        have Hb5 := Lib.hid (below_step Hb.out hbx Hb.out.size)
        clear hbx Z
        go_wp2_with fail
        refine name_code fun w6 hw => ?_
        have Hn6 := Lib.hid (show Below w5.heap.size w5 w6 by rw [hw]; exact below_new _ _)
        have Q6 := Lib.hid (show PortBox w6 w5.heap.size a.at_ by rw [hw]; exact PortBox.new _ rfl _ _)
        clear hw
        have HN6 := Lib.hid (HN5.out.below Hn6.out)
        have HX6 := Lib.hid (HX5.out.below Hn6.out)
        have Hb6 := Lib.hid (below_step Hb5.out Hn6.out Hb5.out.size)
        obtain ⟨_, q0, q1, _⟩ := Q6.out
        obtain ⟨_, x0, x1, _⟩ := HX6.out
        have R1 := Lib.hid (fun (u : World) (hb : Below w6.heap.size w6 u) => nreads_any u b p (HN6.out.below hb) a.at_ haw)
        rw [(Hr.out a.at_).2 rfl] at R1
        by_cases hxa : x = a.at_
        · have R2 := Lib.hid (fun (u : World) (hb : Below w6.heap.size w6 u) => nreads_any u b p (HN6.out.below hb) x hx)
          rw [(Hr.out x).2 hxa] at R2
          have eqy := eql_port (x := x) (y := a.at_) (b := true) (by simpa using hxa)
          clear hxa
          dsimp only [Port.val] at R1 R2
          have x0q := fun d os => cell_regrown x0 d os
          have x1q := fun d os => cell_regrown x1 d os
          have q0q := fun d os => cell_regrown q0 d os
          have q1q := fun d os => cell_regrown q1 d os
          have cq0 : ∀ d os, Calls Try.prog 52 #[.pointer (some ⟨b, 0, none⟩), .agg #[.int .i64 a.at_.e, .int .i64 a.at_.n]] (grow (redrawn w6 d) os) fun e w'' => e = .returned (.int .i64 (j : Int)) ∧ ∃ p : Regrown, w'' = grow (redrawn w6 p.d) p.os := fun d os => Calls.regrown_of (R1.out _ (below_regrown _ d os))
          have cq1 : ∀ d os, Calls Try.prog 52 #[.pointer (some ⟨b, 0, none⟩), .agg #[.int .i64 x.e, .int .i64 x.n]] (grow (redrawn w6 d) os) fun e w'' => e = .returned (.int .i64 (j : Int)) ∧ ∃ p : Regrown, w'' = grow (redrawn w6 p.d) p.os := fun d os => Calls.regrown_of (R2.out _ (below_regrown _ d os))
          refine wp_region_quiet_below (by kernel_rfl) (by kernel_rfl) ?_
          repeat (quiet_step (first | with_reducible exact cq0 _ _ | with_reducible exact cq1 _ _))
          refine wpQuiet_nil ?_
          intro w7 hw'
          have hb7 : Below w6.heap.size w6 w7 := by obtain ⟨⟨d, os⟩, rfl⟩ := hw'; exact below_regrown _ d os
          clear hw' x0q x1q q0q q1q cq0 cq1
          have HN7 := Lib.hid (HN6.out.below hb7)
          have HX7 := Lib.hid (HX6.out.below hb7)
          have Hb7 := Lib.hid (below_step Hb6.out hb7 Hb6.out.size)
          clear hb7 x0 x1 q0 q1
          go_wp2_with fail
          go_roundg (gk - 1)
          case measure => have := Hk.out; omega
          case rel => exact ⟨j + 1, by have := Hk.out; omega, by go_num, HN7.out, HX7.out, Hb7.out⟩
        · have R2 := Lib.hid (fun (u : World) (hb : Below w6.heap.size w6 u) => nreads_any u b p (HN6.out.below hb) x hx)
          have q2 : (reads p x == (j : Int)) = false := by simpa using (fun h => hxa ((Hr.out x).1 h))
          have eqy := eql_port (x := x) (y := a.at_) (b := false) (by simpa using hxa)
          clear hxa
          dsimp only [Port.val] at R1 R2
          have x0q := fun d os => cell_regrown x0 d os
          have x1q := fun d os => cell_regrown x1 d os
          have q0q := fun d os => cell_regrown q0 d os
          have q1q := fun d os => cell_regrown q1 d os
          have cq0 : ∀ d os, Calls Try.prog 52 #[.pointer (some ⟨b, 0, none⟩), .agg #[.int .i64 a.at_.e, .int .i64 a.at_.n]] (grow (redrawn w6 d) os) fun e w'' => e = .returned (.int .i64 (j : Int)) ∧ ∃ p : Regrown, w'' = grow (redrawn w6 p.d) p.os := fun d os => Calls.regrown_of (R1.out _ (below_regrown _ d os))
          have cq1 : ∀ d os, Calls Try.prog 52 #[.pointer (some ⟨b, 0, none⟩), .agg #[.int .i64 x.e, .int .i64 x.n]] (grow (redrawn w6 d) os) fun e w'' => e = .returned (.int .i64 (reads p x)) ∧ ∃ p : Regrown, w'' = grow (redrawn w6 p.d) p.os := fun d os => Calls.regrown_of (R2.out _ (below_regrown _ d os))
          refine wp_region_quiet_below (by kernel_rfl) (by kernel_rfl) ?_
          repeat (quiet_step (first | with_reducible exact cq0 _ _ | with_reducible exact cq1 _ _))
          refine wpQuiet_nil ?_
          intro w7 hw'
          have hb7 : Below w6.heap.size w6 w7 := by obtain ⟨⟨d, os⟩, rfl⟩ := hw'; exact below_regrown _ d os
          clear hw' x0q x1q q0q q1q cq0 cq1
          have HN7 := Lib.hid (HN6.out.below hb7)
          have HX7 := Lib.hid (HX6.out.below hb7)
          have Hb7 := Lib.hid (below_step Hb6.out hb7 Hb6.out.size)
          clear hb7 x0 x1 q0 q1
          go_wp2_with fail
          go_roundg (gk - 1)
          case measure => have := Hk.out; omega
          case rel => exact ⟨j + 1, by have := Hk.out; omega, by go_num, HN7.out, HX7.out, Hb7.out⟩
      · have Z := Lib.hid (nat_any wr b p HN.out (ns : Int))
        rw [sigAt_none (.inr (by have := ls.out; omega))] at Z
        dsimp only [Option.getD_none, Option.isSome_none] at Z
        go_wp2_with fail
        refine (NS.out wr HN.out).mono ?_
        rintro en w4 ⟨rfl, rfl⟩
        go_wp2_with fail
        refine (NS.out wr HN.out).mono ?_
        rintro en w4 ⟨rfl, rfl⟩
        go_wp2_with fail
        refine Z.out.mono ?_
        rintro en w5 ⟨rfl, hbx⟩
        have Hb5 := Lib.hid (below_step Hb.out hbx Hb.out.size)
        clear hbx Z
        go_wp2_with fail
        go_ret
        exact ⟨rfl, (below_step Hb3.out Hb5.out Hb3.out.size).alloc (by have := (below_step Hb3.out Hb5.out Hb3.out.size).size; omega) _⟩
set_option maxRecDepth 100000 in
theorem netSignals_lifted (os : Os) (started : os.Started) (H : Type) (enc : TypeId × Value → H) :
    ReturnsInHanded {} Try.checked os 15 .any (Rows.netSignalsSpec.pre6 enc Try.prog Try.f15 Rows.netSignalsRow.domain false) (Rows.netSignalsSpec.post enc Try.prog Try.f15 false true false false) := by
  refine returnsInHanded_of_change (C := Try.checked) own started (by kernel_rfl) Try.func15
    (ChangeSpec.witness6 (enc := enc) (C := Try.checked) false ⟨#[], #[.agg #[.slice none 0 0, .slice none 0 0, .slice none 0 0, .slice none 0 0, .int .i64 0, .int .i64 0, .int .i64 0, .int .i64 0, .bool false], .agg #[.int .i64 0, .int .i64 0]], []⟩ 8 (by kernel_rfl) (by kernel_rfl) (by kernel_rfl) (by kernel_rfl)) ?_
  intro W base args ds gs before hval0 hW hcnd _
  have hval : ∀ (j : Nat) t v, Try.f15.params[j]? = some t → args[j]? = some v → Value.okWide Try.prog W .any base t v := hval0
  have hW' := hW
  obtain ⟨p, q, hA0, hV, rfl, hfz, hnd⟩ := hW
  have hA : DataW.TrodAll enc Try.prog W 0 (fun _ => true) true Try.f15.params.toList args.toList ds p := hA0
  rw [Try.params15] at hA hval
  obtain ⟨v0, vs0, d0, ds0, p0, q0, hargs, rfl, rfl, k0, r0⟩ := trodAll_cons hA
  obtain ⟨v1, vs1, d1, ds1, p1, q1, rfl, rfl, rfl, k1, r1⟩ := trodAll_cons r0
  obtain ⟨rfl, rfl, rfl⟩ := trodAll_nil r1
  obtain rfl : args = #[v0, v1] := by cases args; simp_all
  obtain ⟨rfl, rfl⟩ := trodVars_none hV
  have lt0 : ∀ x ∈ p0, x.block < W.heap.size := by obtain ⟨m, hm⟩ := k0; exact DataW.trod_lt m _ _ _ hm
  have hv0 := hval 0 32 v0 rfl rfl
  have lt1 : ∀ x ∈ p1, x.block < W.heap.size := by obtain ⟨m, hm⟩ := k1; exact DataW.trod_lt m _ _ _ hm
  have hv1 := hval 1 44 v1 rfl rfl
  have fin : Calls Try.prog 15 #[v0, v1] W (fun e W' => e = .returned (.bool true) ∧ Below W.heap.size W W') := by
    obtain ⟨pv, p, rfl, hp⟩ := open_plan hv0 k0
    obtain ⟨x0, rfl, a0⟩ := open_port hv1 k1
    exact lawSignals_any W pv p x0 a0 hp
  clear hA0 hval0
  refine fin.mono fun e W' ⟨he, bel⟩ => ?_
  subst he
  exact ⟨_, rfl, _, _, _, [], _, [], hW', trodAll_mk1 (shut_bool Try.underlying4 _), (trodAll_cons_mk (Below.trod laidOut (by kernel_rfl) (of_decide_eq_true (by kernel_rfl)) k0 bel lt0) (trodAll_cons_mk (Below.trod laidOut (by kernel_rfl) (of_decide_eq_true (by kernel_rfl)) k1 bel lt1) trodAll_mk0)), rfl, bel.frame _, fun h => by cases h⟩

/-- THE STATEMENT -/
theorem netSignals_holds : Rows.NetSignalsSaid :=
  OpenClaim.holds_of_wide 15 Try.f15 rfl rfl rfl rfl rfl rfl rfl ⟨rfl, rfl, rfl, rfl, rfl⟩ rfl rfl rfl rfl rfl (by kernel_rfl) Try.func15 (by kernel_rfl)
    (of_decide_eq_true (by kernel_rfl)) (by unfold Func.isWrapper; first | (rw [if_pos (by decide +kernel)]; kernel_rfl) | (rw [if_neg (by decide +kernel)]; exact ⟨rfl, rfl⟩))
    (fun os started H enc _ => netSignals_lifted os started H enc)
end Go.Proofs.Ytlndfmflbdkpjaa
