/- WalkRings: for every input the law returns true. No condition. -/
import Derived.Test.YtackcfoplhhnbaaLawS4
set_option maxRecDepth 1000000
namespace Go.Proofs.Ytackcfoplhhnbaa
open Go.ChangeShapes Go.WideShapes Go.ChangeAt Go.RowKit Go.Sort

theorem range_map_cons {i n : Nat} (h : i < n) : (List.range (n - i)).map (· + i) = i :: (List.range (n - (i + 1))).map (· + (i + 1)) := by
  rw [show n - i = (n - (i + 1)) + 1 by omega, List.range_succ_eq_map, List.map_cons, List.map_map, Nat.zero_add]
  congr 1
  apply List.map_congr_left
  intro x _; simp; omega
theorem range_drop_cons {k i : Nat} (h : k < i) : (List.range i).drop k = k :: (List.range i).drop (k + 1) := drop_cons (by rw [List.getElem?_range h])
theorem ring_out {l : List Port} {i : Nat} {g : Bool} {r : List Nat} (h : ringGo l g (i :: r) = some true) : ∃ a, ringRow l i g (List.range i) = some a ∧ ringGo l a r = some true := by
  unfold ringGo at h
  cases hr : ringRow l i g (List.range i) with
  | none => simp [hr] at h
  | some a => exact ⟨a, rfl, by simpa [hr] using h⟩
theorem row_same {l : List Port} {i k : Nat} {r : List Nat} {a : Bool} (h : ringRow l i false (k :: r) = some a) (he : l[i]? = l[k]?) : k = 0 ∧ ringRow l i true r = some a := by
  unfold ringRow at h
  simp only [he, decide_true, Bool.not_false, Bool.and_self, if_true] at h
  by_cases hk : k = 0
  · exact ⟨hk, by simpa [hk] using h⟩
  · simp [hk] at h
theorem row_other {l : List Port} {i k : Nat} {r : List Nat} {g a : Bool} (h : ringRow l i g (k :: r) = some a) (he : l[i]? ≠ l[k]? ∨ g = true) : ringRow l i g r = some a := by
  unfold ringRow at h
  rcases he with he | he
  · simpa [he] using h
  · subst he; simpa using h
set_option maxHeartbeats 4000000 in
theorem lawRings_any (w : World) (pv : PV) (p : Plan) (pa : Option Addr) (pn pc : Nat) (pos : List Int) (x : Port) (hx : x.wf) (h : PlanAt w pv p) (hr : Hid (Ints w pa pn pos)) :
    Calls Try.prog 8 #[pv.val p, .slice pa pn pc, x.val] w fun en w' => en = .returned (.bool true) ∧ Below w.heap.size w w' := by
  obtain ⟨ae, ne, ce, aj, nj, cj, as_, ns, cs, al, nl, cl, lv⟩ := pv
  have hP := Lib.hid h
  have HBa := Lib.hid ((pbox_new w ⟨ae, ne, ce, aj, nj, cj, as_, ns, cs, al, nl, cl, lv⟩ p).alloc (.cells #[.int .i64 x.e, .int .i64 x.n] 30))
  have Hba := Lib.hid (below_new2 w (.cells #[.slice ae ne ce, .slice aj nj cj, .slice as_ ns cs, .slice al nl cl, .int .i64 p.top, .int .i64 p.brake, .int .i64 p.margin, .int .i64 p.throw, .bool p.hard] 27) (.cells #[.int .i64 x.e, .int .i64 x.n] 30))
  have HXa := Lib.hid (PortBox.new (w.alloc (.cells #[.slice ae ne ce, .slice aj nj cj, .slice as_ ns cs, .slice al nl cl, .int .i64 p.top, .int .i64 p.brake, .int .i64 p.margin, .int .i64 p.throw, .bool p.hard] 27)) (b := w.heap.size + 1) (by simp) x 30)
  have K := Lib.hid (known5_any ((w.alloc (.cells #[.slice ae ne ce, .slice aj nj cj, .slice as_ ns cs, .slice al nl cl, .int .i64 p.top, .int .i64 p.brake, .int .i64 p.margin, .int .i64 p.throw, .bool p.hard] 27)).alloc (.cells #[.int .i64 x.e, .int .i64 x.n] 30)))
  have HF := Lib.hid (fun (u : World) (hb : Below w.heap.size w u) => finex_l (w := u) (hP.out.below hb))
  clear h
  dsimp only [PV.val, Port.val]
  obtain ⟨_, c0, c1, c2, c3, c4, c5, c6, c7, c8⟩ := HBa.out
  dsimp only at c0 c1 c2 c3
  obtain ⟨_, x0, x1, _⟩ := HXa.out
  cases hf : fine p with
  | false =>
    rw [hf] at HF
    clear hf
    go_enter Try.func8, Try.ntmps8
    go_wp2_with fail
    refine (K.out).mono ?_
    rintro e w1 ⟨rfl, hbx⟩
    have HB1 := Lib.hid (HBa.out.below hbx)
    have HX1 := Lib.hid (HXa.out.below hbx)
    have Hb1 := Lib.hid (below_step Hba.out hbx Hba.out.size)
    clear hbx c0 c1 c2 c3 c4 c5 c6 c7 c8 x0 x1
    obtain ⟨_, c0, c1, c2, c3, c4, c5, c6, c7, c8⟩ := HB1.out
    dsimp only at c0 c1 c2 c3
    obtain ⟨_, x0, x1, _⟩ := HX1.out
    clear K
    go_wp2_with fail
    refine (HF.out w1 Hb1.out).mono ?_
    rintro e w2 ⟨rfl, hbx⟩
    have HB2 := Lib.hid (HB1.out.below hbx)
    have HX2 := Lib.hid (HX1.out.below hbx)
    have Hb2 := Lib.hid (below_step Hb1.out hbx Hb1.out.size)
    clear hbx c0 c1 c2 c3 c4 c5 c6 c7 c8 x0 x1
    obtain ⟨_, c0, c1, c2, c3, c4, c5, c6, c7, c8⟩ := HB2.out
    dsimp only at c0 c1 c2 c3
    obtain ⟨_, x0, x1, _⟩ := HX2.out
    go_wp2_with fail
    go_ret
    exact ⟨rfl, Hb2.out⟩
  | true =>
    rw [hf] at HF
    have HM := Lib.hid (fun (u : World) (hb : Below w.heap.size w u) => made_l (w := u) hf (hP.out.below hb))
    have Hok := Lib.hid (few_ok hP.out (fine_few hf).1)
    have Hc := Lib.hid (fine_few hf).2
    have G := Lib.hid (good_of (fine_few hf).2)
    clear hf
    by_cases hq : 100 < pn
    · have q9 : decide ((100 : Int) < (pn : Int)) = true := by simp; omega
      go_enter Try.func8, Try.ntmps8
      go_wp2_with fail
      refine (K.out).mono ?_
      rintro e w1 ⟨rfl, hbx⟩
      have HB1 := Lib.hid (HBa.out.below hbx)
      have HX1 := Lib.hid (HXa.out.below hbx)
      have Hb1 := Lib.hid (below_step Hba.out hbx Hba.out.size)
      clear hbx c0 c1 c2 c3 c4 c5 c6 c7 c8 x0 x1
      obtain ⟨_, c0, c1, c2, c3, c4, c5, c6, c7, c8⟩ := HB1.out
      dsimp only at c0 c1 c2 c3
      obtain ⟨_, x0, x1, _⟩ := HX1.out
      clear K
      go_wp2_with fail
      refine (HF.out w1 Hb1.out).mono ?_
      rintro e w2 ⟨rfl, hbx⟩
      have HB2 := Lib.hid (HB1.out.below hbx)
      have HX2 := Lib.hid (HX1.out.below hbx)
      have Hb2 := Lib.hid (below_step Hb1.out hbx Hb1.out.size)
      clear hbx c0 c1 c2 c3 c4 c5 c6 c7 c8 x0 x1
      obtain ⟨_, c0, c1, c2, c3, c4, c5, c6, c7, c8⟩ := HB2.out
      dsimp only at c0 c1 c2 c3
      obtain ⟨_, x0, x1, _⟩ := HX2.out
      go_wp2_with fail
      go_ret
      exact ⟨rfl, Hb2.out⟩
    have q9 : decide ((100 : Int) < (pn : Int)) = false := by simp; omega
    go_enter Try.func8, Try.ntmps8
    go_wp2_with fail
    refine (K.out).mono ?_
    rintro e w1 ⟨rfl, hbx⟩
    have HB1 := Lib.hid (HBa.out.below hbx)
    have HX1 := Lib.hid (HXa.out.below hbx)
    have Hb1 := Lib.hid (below_step Hba.out hbx Hba.out.size)
    clear hbx c0 c1 c2 c3 c4 c5 c6 c7 c8 x0 x1
    obtain ⟨_, c0, c1, c2, c3, c4, c5, c6, c7, c8⟩ := HB1.out
    dsimp only at c0 c1 c2 c3
    obtain ⟨_, x0, x1, _⟩ := HX1.out
    clear K
    go_wp2_with fail
    refine (HF.out w1 Hb1.out).mono ?_
    rintro e w2 ⟨rfl, hbx⟩
    have HB2 := Lib.hid (HB1.out.below hbx)
    have HX2 := Lib.hid (HX1.out.below hbx)
    have Hb2 := Lib.hid (below_step Hb1.out hbx Hb1.out.size)
    clear hbx c0 c1 c2 c3 c4 c5 c6 c7 c8 x0 x1
    obtain ⟨_, c0, c1, c2, c3, c4, c5, c6, c7, c8⟩ := HB2.out
    dsimp only at c0 c1 c2 c3
    obtain ⟨_, x0, x1, _⟩ := HX2.out
    go_wp2_with fail
    refine (HM.out w2 Hb2.out).mono ?_
    rintro e w3 ⟨b, rfl, hbb, hn, hbx⟩
    have HB3 := Lib.hid (HB2.out.below hbx)
    have HX3 := Lib.hid (HX2.out.below hbx)
    have Hb3 := Lib.hid (below_step Hb2.out hbx Hb2.out.size)
    have HN3 := Lib.hid hn
    have hbb := Nat.le_trans Hb2.out.size hbb
    clear hbx hn HF HM c0 c1 c2 c3 c4 c5 c6 c7 c8 x0 x1
    obtain ⟨_, c0, c1, c2, c3, c4, c5, c6, c7, c8⟩ := HB3.out
    dsimp only at c0 c1 c2 c3
    obtain ⟨_, x0, x1, _⟩ := HX3.out
    have Hr3 := Lib.hid (hr.out.below Hb3.out)
    have D3 := Lib.hid (Below.refl w3.heap.size w3)
    clear q9 hr
    go_wp2_with fail
    have h40 := elems_few Hc.out
    have hrun : run p pos x 200 = runGo p pos 200 x := rfl
    have hshort := @run_short p G.out h40 pos 200 x
    have hring := @run_rings p G.out h40 pos x
    have C1 := Lib.hid (fun (u : World) (hb : Below w3.heap.size w3 u) => nrun_any u b p (HN3.out.below hb) pa pn pc pos (Lib.hid (Hr3.out.below hb)) x hx 200)
    rw [hrun] at C1
    clear hrun
    obtain ⟨L1, L2, hL⟩ : ∃ L1 L2, runGo p pos 200 x = (L1, L2) := ⟨_, _, rfl⟩
    rw [hL] at C1 hshort hring
    clear hL
    dsimp only [Port.val] at C1 hshort hring
    by_cases e5 : L2 = 5
    · have hrg := hring e5
      subst e5
      clear hring hshort
      refine (C1.out _ D3.out).mono ?_
      rintro en w4 ⟨ra, rn, rc, rfl, hrow, hrcR, hbx⟩
      have R4_ := Lib.hid hrow
      have hlenR := hrow.len
      clear hrow
      clear c0 c1 c2 c3 c4 c5 c6 c7 c8 x0 x1
      have D4 := Lib.hid (below_step D3.out hbx D3.out.size)
      clear hbx
      obtain ⟨_, c0, c1, c2, c3, c4, c5, c6, c7, c8⟩ := (HB3.out.below D4.out)
      dsimp only at c0 c1 c2 c3
      obtain ⟨_, x0, x1, _⟩ := (HX3.out.below D4.out)
      rw [hlenR] at hrg
      have Hrg := Lib.hid hrg
      have hbd := R4_.out.bnd
      have hl := Lib.hid hlenR
      clear c0 c1 c2 c3 c4 c5 c6 c7 c8 x0 x1 hrg hlenR
      go_wp2_with fail
      go_loopg [10, 11] (rn - 1) (fun k g i' wr => ∃ (i q : Nat) (again : Bool), (i + k = rn ∨ (rn ≤ i ∧ k = 0)) ∧ 1 ≤ i ∧ g = .bool again ∧ i' = .int .i64 (i : Int) ∧ Hid (ringGo L1 again ((List.range (rn - i)).map (· + i)) = some true) ∧ wr = w4.drewN q)
      case atStart => exact ⟨1, 0, false, by omega, by omega, rfl, rfl, Hrg, rfl⟩
      case round =>
        clear Hrg
        obtain ⟨i, q, again, hk, hi1, rfl, rfl, hw, rfl⟩ := hrel
        have Hk := Lib.hid hk; clear hk
        by_cases hlt : i < rn
        · obtain ⟨y, hy⟩ := get_some hl.out hlt
          have hw2 := hw.out
          rw [range_map_cons hlt] at hw2
          obtain ⟨ag2, hrow, hrest⟩ := ring_out hw2
          have Hrest := Lib.hid hrest
          have Hrow := Lib.hid (show ringRow L1 i again ((List.range i).drop 0) = some ag2 from hrow)
          clear hw hw2 hrow hrest
          obtain ⟨pb, off, rfl, hpb, g1, g2⟩ := R4_.out.port hy
          have Hy := Lib.hid hy; clear hy
          go_wp2_with fail
          go_loopg [10, 12] i (fun kq g i' wr => ∃ (kk q2 : Nat) (again : Bool), kk + kq = i ∧ g = .bool again ∧ i' = .int .i64 (kk : Int) ∧ Hid (ringRow L1 i again ((List.range i).drop kk) = some ag2) ∧ wr = w4.drewN q2)
          case atStart => exact ⟨0, q, again, by omega, rfl, rfl, Hrow, rfl⟩
          case round =>
            clear Hrow
            obtain ⟨kk, q2, again2, hk2, rfl, rfl, hw, rfl⟩ := hrel
            have Hk2 := Lib.hid hk2; clear hk2
            by_cases hlt2 : kk < i
            · obtain ⟨z, hz⟩ := get_some hl.out (show kk < rn by omega)
              obtain ⟨pb2, off2, hpe, hpb2, z1, z2⟩ := R4_.out.port hz
              cases hpe
              have hw2 := hw.out
              rw [range_drop_cons hlt2] at hw2
              clear hw
              by_cases hyz : y = z
              · have q1 := eql_port (x := y) (y := z) (b := true) (by simpa using hyz)
                cases again2 with
                | false =>
                  obtain ⟨hk0, hnew⟩ := row_same hw2 (by rw [Hy.out, hz, hyz])
                  have Hnew := Lib.hid hnew
                  have q3 : (((kk : Nat) : Int) != 0) = false := by simp [hk0]
                  clear hw2 hnew hz hyz hk0
                  go_wp2_with fail
                  go_quiet (fail)
                  go_wp2_with fail
                  go_roundg (gk - 1)
                  case measure => have := Hk2.out; omega
                  case rel => exact ⟨kk + 1, _, true, by have := Hk2.out; omega, rfl, by go_num, Hnew.out, rfl⟩
                | true =>
                  have Hnew := Lib.hid (row_other hw2 (.inr rfl))
                  clear hw2 hz hyz
                  go_wp2_with fail
                  go_quiet (fail)
                  go_wp2_with fail
                  go_roundg (gk - 1)
                  case measure => have := Hk2.out; omega
                  case rel => exact ⟨kk + 1, _, true, by have := Hk2.out; omega, rfl, by go_num, Hnew.out, rfl⟩
              · have q1 := eql_port (x := y) (y := z) (b := false) (by simpa using hyz)
                have Hnew := Lib.hid (row_other hw2 (.inl (by rw [Hy.out, hz]; simpa using hyz)))
                clear hw2 hz hyz
                go_wp2_with fail
                go_quiet (fail)
                go_wp2_with fail
                go_roundg (gk - 1)
                case measure => have := Hk2.out; omega
                case rel => exact ⟨kk + 1, _, again2, by have := Hk2.out; omega, rfl, by go_num, Hnew.out, rfl⟩
            · have hki : kk = i := by have := Hk2.out; omega
              subst hki
              have hag : again2 = ag2 := by
                have := hw.out
                rw [List.drop_eq_nil_of_le (by simp), ringRow] at this
                exact Option.some.inj this
              subst hag
              clear hw
              go_wp2_with fail
              go_roundg (rn - kk - 1)
              case measure => have := Hk.out; omega
              case rel => exact ⟨kk + 1, _, again2, by omega, by omega, rfl, by go_num, Hrest.out, rfl⟩
        · have hag : again = true := by
            have := hw.out
            rw [show rn - i = 0 by omega] at this
            simpa [ringGo] using this
          subst hag
          clear hw
          go_wp2_with fail
          go_ret
          exact ⟨rfl, below_step Hb3.out (below_drewN D4.out _) Hb3.out.size⟩
    · have hsh := hshort e5
      have q0 : (L2 != 5) = true := by rw [bne_iff_ne]; exact e5
      clear hring hshort
      refine (C1.out _ D3.out).mono ?_
      rintro en w4 ⟨ra, rn, rc, rfl, hrow, hrcR, hbx⟩
      have R4_ := Lib.hid hrow
      have hlenR := hrow.len
      clear hrow
      clear c0 c1 c2 c3 c4 c5 c6 c7 c8 x0 x1
      have D4 := Lib.hid (below_step D3.out hbx D3.out.size)
      clear hbx
      obtain ⟨_, c0, c1, c2, c3, c4, c5, c6, c7, c8⟩ := (HB3.out.below D4.out)
      dsimp only at c0 c1 c2 c3
      obtain ⟨_, x0, x1, _⟩ := (HX3.out.below D4.out)
      have hlenR' : L1.length = rn := hlenR
      have q2 : decide ((rn : Int) ≤ 160) = true := by simp; omega
      clear e5
      go_wp2_with fail
      go_ret
      exact ⟨rfl, below_step Hb3.out D4.out Hb3.out.size⟩
set_option maxRecDepth 100000 in
theorem walkRings_lifted (os : Os) (started : os.Started) (H : Type) (enc : TypeId × Value → H) :
    ReturnsInHanded {} Try.checked os 8 .any (Rows.walkRingsSpec.pre6 enc Try.prog Try.f8 Rows.walkRingsRow.domain false) (Rows.walkRingsSpec.post enc Try.prog Try.f8 false true false false) := by
  refine returnsInHanded_of_change (C := Try.checked) own started (by kernel_rfl) Try.func8
    (ChangeSpec.witness6 (enc := enc) (C := Try.checked) false ⟨#[], #[.agg #[.slice none 0 0, .slice none 0 0, .slice none 0 0, .slice none 0 0, .int .i64 0, .int .i64 0, .int .i64 0, .int .i64 0, .bool false], .slice none 0 0, .agg #[.int .i64 0, .int .i64 0]], []⟩ 8 (by kernel_rfl) (by kernel_rfl) (by kernel_rfl) (by kernel_rfl)) ?_
  intro W base args ds gs before hval0 hW hcnd _
  have hval : ∀ (j : Nat) t v, Try.f8.params[j]? = some t → args[j]? = some v → Value.okWide Try.prog W .any base t v := hval0
  have hW' := hW
  obtain ⟨p, q, hA0, hV, rfl, hfz, hnd⟩ := hW
  have hA : DataW.TrodAll enc Try.prog W 0 (fun _ => true) true Try.f8.params.toList args.toList ds p := hA0
  rw [Try.params8] at hA hval
  obtain ⟨v0, vs0, d0, ds0, p0, q0, hargs, rfl, rfl, k0, r0⟩ := trodAll_cons hA
  obtain ⟨v1, vs1, d1, ds1, p1, q1, rfl, rfl, rfl, k1, r1⟩ := trodAll_cons r0
  obtain ⟨v2, vs2, d2, ds2, p2, q2, rfl, rfl, rfl, k2, r2⟩ := trodAll_cons r1
  obtain ⟨rfl, rfl, rfl⟩ := trodAll_nil r2
  obtain rfl : args = #[v0, v1, v2] := by cases args; simp_all
  obtain ⟨rfl, rfl⟩ := trodVars_none hV
  have lt0 : ∀ x ∈ p0, x.block < W.heap.size := by obtain ⟨m, hm⟩ := k0; exact DataW.trod_lt m _ _ _ hm
  have hv0 := hval 0 27 v0 rfl rfl
  have lt1 : ∀ x ∈ p1, x.block < W.heap.size := by obtain ⟨m, hm⟩ := k1; exact DataW.trod_lt m _ _ _ hm
  have hv1 := hval 1 28 v1 rfl rfl
  have lt2 : ∀ x ∈ p2, x.block < W.heap.size := by obtain ⟨m, hm⟩ := k2; exact DataW.trod_lt m _ _ _ hm
  have hv2 := hval 2 30 v2 rfl rfl
  have fin : Calls Try.prog 8 #[v0, v1, v2] W (fun e W' => e = .returned (.bool true) ∧ Below W.heap.size W W') := by
    obtain ⟨pv, p, rfl, hp⟩ := open_plan hv0 k0
    obtain ⟨pa, pn, pc, pos, rfl, hr, _, _, _⟩ := open_Ints hv1 k1
    obtain ⟨x0, rfl, a0⟩ := open_port hv2 k2
    exact lawRings_any W pv p pa pn pc pos x0 a0 hp (Lib.hid hr)
  clear hA0 hval0
  refine fin.mono fun e W' ⟨he, bel⟩ => ?_
  subst he
  exact ⟨_, rfl, _, _, _, [], _, [], hW', trodAll_mk1 (shut_bool Try.underlying4 _), (trodAll_cons_mk (Below.trod laidOut (by kernel_rfl) (of_decide_eq_true (by kernel_rfl)) k0 bel lt0) (trodAll_cons_mk (Below.trod laidOut (by kernel_rfl) (of_decide_eq_true (by kernel_rfl)) k1 bel lt1) (trodAll_cons_mk (Below.trod laidOut (by kernel_rfl) (of_decide_eq_true (by kernel_rfl)) k2 bel lt2) trodAll_mk0))), rfl, bel.frame _, fun h => by cases h⟩

/-- THE STATEMENT -/
theorem walkRings_holds : Rows.WalkRingsSaid :=
  OpenClaim.holds_of_wide 8 Try.f8 rfl rfl rfl rfl rfl rfl rfl ⟨rfl, rfl, rfl, rfl, rfl⟩ rfl rfl rfl rfl rfl (by kernel_rfl) Try.func8 (by kernel_rfl)
    (of_decide_eq_true (by kernel_rfl)) (by unfold Func.isWrapper; first | (rw [if_pos (by decide +kernel)]; kernel_rfl) | (rw [if_neg (by decide +kernel)]; exact ⟨rfl, rfl⟩))
    (fun os started H enc _ => walkRings_lifted os started H enc)
end Go.Proofs.Ytackcfoplhhnbaa
