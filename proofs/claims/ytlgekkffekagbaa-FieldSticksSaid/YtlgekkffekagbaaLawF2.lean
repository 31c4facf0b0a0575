/- FieldSticks: for every input the law returns true. No condition. -/
import Derived.Test.YtlgekkffekagbaaFieldP
set_option maxRecDepth 1000000
namespace Go.Proofs.Ytlgekkffekagbaa
open Go.ChangeShapes Go.WideShapes Go.ChangeAt Go.RowKit Go.Sort

set_option maxHeartbeats 3000000 in
theorem lawSticks_any (w : World) (pv : PV) (p : Plan) (x1 x2 x3 : Int) (l1 : 0 ≤ x1) (u1 : x1 ≤ 255) (l2 : 0 ≤ x2) (u2 : x2 ≤ 255) (l3 : 0 ≤ x3) (u3 : x3 ≤ 255) (h : PlanAt w pv p) :
    Calls Try.prog 4 #[pv.val p, .int .u8 x1, .int .u8 x2, .int .u8 x3] w fun en w' => en = .returned (.bool true) ∧ Below w.heap.size w w' := by
  obtain ⟨ae, ne, ce, aj, nj, cj, as_, ns, cs, al, nl, cl, lv⟩ := pv
  have hP := Lib.hid h
  have HBa := Lib.hid (pbox_new w ⟨ae, ne, ce, aj, nj, cj, as_, ns, cs, al, nl, cl, lv⟩ p)
  have Hba := Lib.hid (below_new w (.cells #[.slice ae ne ce, .slice aj nj cj, .slice as_ ns cs, .slice al nl cl, .int .i64 p.top, .int .i64 p.brake, .int .i64 p.margin, .int .i64 p.throw, .bool p.hard] 27))
  have K := Lib.hid (known13_any (w.alloc (.cells #[.slice ae ne ce, .slice aj nj cj, .slice as_ ns cs, .slice al nl cl, .int .i64 p.top, .int .i64 p.brake, .int .i64 p.margin, .int .i64 p.throw, .bool p.hard] 27)))
  have HF := Lib.hid (fun (u : World) (hb : Below w.heap.size w u) => finex_l (w := u) (hP.out.below hb))
  clear h
  dsimp only [PV.val]
  obtain ⟨_, c0, c1, c2, c3, c4, c5, c6, c7, c8⟩ := HBa.out
  dsimp only at c0 c1 c2 c3
  cases hf : fine p with
  | false =>
    rw [hf] at HF
    clear hf
    go_enter Try.func4, Try.ntmps4
    go_wp2_with fail
    refine (K.out).mono ?_
    rintro e w1 ⟨rfl, hbx⟩
    have HB1 := Lib.hid (HBa.out.below hbx)
    have Hb1 := Lib.hid (below_step Hba.out hbx Hba.out.size)
    clear hbx c0 c1 c2 c3 c4 c5 c6 c7 c8
    obtain ⟨_, c0, c1, c2, c3, c4, c5, c6, c7, c8⟩ := HB1.out
    dsimp only at c0 c1 c2 c3
    clear K
    go_wp2_with fail
    refine (HF.out w1 Hb1.out).mono ?_
    rintro e w2 ⟨rfl, hbx⟩
    have HB2 := Lib.hid (HB1.out.below hbx)
    have Hb2 := Lib.hid (below_step Hb1.out hbx Hb1.out.size)
    clear hbx c0 c1 c2 c3 c4 c5 c6 c7 c8
    obtain ⟨_, c0, c1, c2, c3, c4, c5, c6, c7, c8⟩ := HB2.out
    dsimp only at c0 c1 c2 c3
    go_wp2_with fail
    go_ret
    exact ⟨rfl, Hb2.out⟩
  | true =>
    rw [hf] at HF
    have HM := Lib.hid (fun (u : World) (hb : Below w.heap.size w u) => made_any u ⟨ae, ne, ce, aj, nj, cj, as_, ns, cs, al, nl, cl, lv⟩ p hf (hP.out.below hb))
    have Hok := Lib.hid (few_ok hP.out (fine_few hf).1)
    have Hc := Lib.hid (fine_few hf).2
    have hne : p.elems.length = ne := hP.out.e.len
    have hne0 : ne ≠ 0 := by have := (elems_le Hc.out).2.2; omega
    clear hf
    dsimp only [PV.val] at HM
    go_enter Try.func4, Try.ntmps4
    go_wp2_with fail
    refine (K.out).mono ?_
    rintro e w1 ⟨rfl, hbx⟩
    have HB1 := Lib.hid (HBa.out.below hbx)
    have Hb1 := Lib.hid (below_step Hba.out hbx Hba.out.size)
    clear hbx c0 c1 c2 c3 c4 c5 c6 c7 c8
    obtain ⟨_, c0, c1, c2, c3, c4, c5, c6, c7, c8⟩ := HB1.out
    dsimp only at c0 c1 c2 c3
    clear K
    go_wp2_with fail
    refine (HF.out w1 Hb1.out).mono ?_
    rintro e w2 ⟨rfl, hbx⟩
    have HB2 := Lib.hid (HB1.out.below hbx)
    have Hb2 := Lib.hid (below_step Hb1.out hbx Hb1.out.size)
    clear hbx c0 c1 c2 c3 c4 c5 c6 c7 c8
    obtain ⟨_, c0, c1, c2, c3, c4, c5, c6, c7, c8⟩ := HB2.out
    dsimp only at c0 c1 c2 c3
    go_wp2_with fail
    refine (HM.out w2 Hb2.out).mono ?_
    rintro e w3 ⟨nb, rfl, hbb, hn, hbx⟩
    have HB3 := Lib.hid (HB2.out.below hbx)
    have Hb3 := Lib.hid (below_step Hb2.out hbx Hb2.out.size)
    have HN3 := Lib.hid hn
    have hbb := Nat.le_trans Hb2.out.size hbb
    clear hbx hn HF HM c0 c1 c2 c3 c4 c5 c6 c7 c8
    obtain ⟨_, c0, c1, c2, c3, c4, c5, c6, c7, c8⟩ := HB3.out
    dsimp only at c0 c1 c2 c3
    have HK3 := Lib.hid (NetK.start HN3.out (hP.out.below Hb3.out))
    go_wp2_with fail
    obtain ⟨e0, he0⟩ : ∃ k, k = x1 % (ne : Int) := ⟨_, rfl⟩
    have hm0 : 0 ≤ x1 % (ne : Int) := Int.emod_nonneg _ (by omega)
    have hm1 : x1 % (ne : Int) < ne := Int.emod_lt_of_pos _ (by omega)
    rw [← he0] at hm0 hm1 ⊢
    clear he0
    have hth := throw_ok Hc.out
    have hel := elems_le Hc.out
    have HK := Lib.hid (nkind_any w3 nb p HN3.out e0)
    by_cases hk2 : p.kind e0 = 2
    rotate_left
    · have q2 : (p.kind e0 != 2) = true := by simp [hk2]
      refine HK.out.mono ?_
      rintro en w4 ⟨rfl, hx⟩
      have Hb4 := Lib.hid (below_step Hb3.out hx Hb3.out.size)
      clear hx
      go_wp2_with fail
      go_ret
      exact ⟨rfl, Hb4.out⟩
    have Hk2 := Lib.hid hk2
    have q2 : (p.kind e0 != 2) = false := by simp [hk2]
    clear hk2
    have HBX := Lib.hid (show ∀ u, Below w3.heap.size w3 u → PBox u w.heap.size ⟨ae, ne, ce, aj, nj, cj, as_, ns, cs, al, nl, cl, lv⟩ p from fun u hu => HB3.out.below hu)
    refine HK.out.mono ?_
    rintro en w4 ⟨rfl, hx⟩
    have HK4 := Lib.hid (HK3.out.calm hx)
    have B4 := Lib.hid (show Below w3.heap.size w3 w4 from hx)
    clear hx c0 c1 c2 c3 c4 c5 c6 c7 c8 HK
    go_wp2_with fail
    refine (newf_any w4 nb p HK4.out.now).mono ?_
    rintro en w5 ⟨fb, rfl, hfb, hff, hx⟩
    have HK5 := Lib.hid (HK4.out.calm hx)
    have HF5 := Lib.hid hff
    have B5 := Lib.hid (below_step B4.out hx B4.out.size)
    have hmb : w3.heap.size ≤ fb := Nat.le_trans B4.out.size hfb
    have hfl : fb < w5.heap.size := hff.box.lt
    have c0 := (HBX.out w5 B5.out).c0
    dsimp only at c0
    clear hx hff hfb
    obtain ⟨ii, hii, zi1, zi2, zi3⟩ := info_parts info_intF
    have hbl : w.heap.size < w5.heap.size := by have := (HBX.out w5 B5.out).lt; exact this
    go_wp2_with (at_make; refine wpList_make_full _ rfl _ _ 28 rfl w5.heap.size 3 ii (.int .i64 0) 1 Try.underlying28 hii zi1 zi2 _ _ _ _ ne rfl rfl rfl rfl (by rw [zi3]; omega) (by simp [maxLen]; omega) (Nat.le_refl _) ?_; intro w6 hown hgrow; have hx6 : Below w5.heap.size w5 w6 := (Below.refl _ _).grown hgrow (Nat.le_refl _) (by intro k hk; cases hk); rw [show (Value.int .i64 0).cells = #[Value.int .i64 0] from rfl, Nat.mul_one, toList_madeCells_one] at hown; have HO6 := Lib.hid (show OwnI w6 w5.heap.size (.slice (some ⟨w5.heap.size, 0, none⟩) ne ne) ne (List.replicate ne 0) by unfold OwnI; simpa using hown); have k1 := own_cell HO6.out (j := e0.toNat) (by omega); have k2 := HO6.out.frozenAt e0.toNat; have hs6 := (own_shape' hown).2; clear hown hgrow)
    refine name_calls fun w7 hw => ?_
    have HO7 := Lib.hid (show OwnI w7 w5.heap.size (.slice (some ⟨w5.heap.size, 0, none⟩) ne ne) ne ((List.replicate p.elems.length (0 : Int)).set e0.toNat 2) by rw [hw, hne]; exact (own_set HO6.out e0.toNat 2).1)
    have hx7 : Below w5.heap.size w5 w7 := by rw [hw]; exact hx6.setCell (p := ⟨w5.heap.size, e0.toNat, none⟩) (Nat.le_refl _) _
    have HK7 := Lib.hid (HK5.out.calm hx7)
    have HF7 := Lib.hid (HF5.out.below hx7)
    have B7 := Lib.hid (below_step B5.out hx7 B5.out.size)
    clear hw hx6 hx7 k1 k2 HO6 c0
    refine (command_any w7 fb nb p _ HK7.out.now HF7.out (fun u hu => HK7.out.net u (hu.below (fun k hk => by rw [hk]; exact hmb) HK7.out.le)) _ ne ne _ (fun u hu => (own_ints HO7.out).1.only hu hfl)).mono ?_
    rintro en w8 ⟨rfl, hf8, hu8⟩
    have HK8 := Lib.hid (HK7.out.only hmb hu8)
    have HF8 := Lib.hid hf8
    have B8 := Lib.hid (B7.out.trans (hu8.below (fun k hk => by rw [hk]; exact hmb) HK7.out.le))
    have HX8 := Lib.hid (start_px Hc.out Hk2.out)
    obtain ⟨f8, hf8e⟩ : ∃ f8, (newFld p).command p ((List.replicate p.elems.length (0 : Int)).set e0.toNat 2) = f8 := ⟨_, rfl⟩
    rw [hf8e] at HF8 HX8
    have c7 := (HBX.out w8 B8.out).c7
    have hbl8 := (HBX.out w8 B8.out).lt
    clear hf8 hu8 hf8e hfl hbl hs6
    go_wp2_with fail
    obtain ⟨a0, ha0⟩ : ∃ k, k = x2 % p.throw := ⟨_, rfl⟩
    have hn0 : 0 ≤ x2 % p.throw := Int.emod_nonneg _ (by omega)
    have hn1 : x2 % p.throw < p.throw := Int.emod_lt_of_pos _ (by omega)
    rw [← ha0] at hn0 hn1 ⊢
    clear ha0 c7 hbl8
    obtain ⟨an, rfl⟩ : ∃ an : Nat, a0 = an := ⟨a0.toNat, by omega⟩
    go_loopg [14] an (fun k i wr => ∃ (j : Nat) (f' : Fld), j + k = an ∧ i = .int .i64 j ∧ Hid (FldAt wr fb nb p f') ∧ Hid (f'.pt e0.toNat = px p.throw j false) ∧ Hid (NetK w3.heap.size wr nb ⟨ae, ne, ce, aj, nj, cj, as_, ns, cs, al, nl, cl, lv⟩ p) ∧ Hid (Below w3.heap.size w3 wr))
    case atStart => exact ⟨0, f8, by omega, rfl, HF8.out, HX8.out, HK8.out, B8.out⟩
    case round =>
      obtain ⟨j, f', hk, rfl, hF, hX, hK, hB⟩ := hrel
      have Hk := Lib.hid hk; clear hk
      by_cases hlt : j < an
      · have hq : decide ((j : Int) < (an : Int)) = true := by simpa using hlt
        go_wp2_with fail
        refine (tick_any wr fb nb p f' hF.out).mono ?_
        rintro en w9 ⟨rfl, hf9, hu9⟩
        have HF9 := Lib.hid hf9
        have HX9 := Lib.hid (show f'.tick.pt e0.toNat = px p.throw ((j + 1 : Nat) : Int) false by rw [tick_pt, hX.out, tick_px (by omega)]; rfl)
        have HK9 := Lib.hid (hK.out.only hmb hu9)
        have B9 := Lib.hid (hB.out.trans (hu9.below (fun k hk => by rw [hk]; exact hmb) hK.out.le))
        clear hf9 hu9
        go_wp2_with fail
        go_roundg (an - j - 1)
        case measure => have := Hk.out; omega
        case rel => exact ⟨j + 1, _, by have := Hk.out; omega, by go_num, HF9.out, HX9.out, HK9.out, B9.out⟩
      have hja : j = an := by have := Hk.out; omega
      subst hja
      obtain ⟨wo, rfl⟩ : ∃ wo : World, wo = wr := ⟨_, rfl⟩
      have hq : decide ((j : Int) < (j : Int)) = false := by simp
      go_wp2_with fail
      refine (stick_any wo fb nb p f' hK.out.now hF.out e0 true).mono ?_
      rintro en w9 ⟨rfl, hf9, hu9⟩
      have HF9 := Lib.hid hf9
      have HX9 := Lib.hid (stick_px (on := true) Hk2.out (by rw [hF.out.ok.len.1]; omega) hX.out)
      have HK9 := Lib.hid (hK.out.only hmb hu9)
      have B9 := Lib.hid (hB.out.trans (hu9.below (fun k hk => by rw [hk]; exact hmb) hK.out.le))
      clear hf9 hu9 hF hX hK hB
      go_wp2_with fail
      obtain ⟨m0, hm⟩ : ∃ k, k = x3 % 40 := ⟨_, rfl⟩
      have hm2 : 0 ≤ x3 % 40 ∧ x3 % 40 < 40 := by omega
      rw [← hm] at hm2
      have Hm := Lib.hid hm
      clear hm
      obtain ⟨mn, rfl⟩ : ∃ mn : Nat, m0 = mn := ⟨m0.toNat, by omega⟩
      go_loopg [15] mn (fun k i wr => ∃ (jj : Nat) (f'' : Fld), jj + k = mn ∧ i = .int .i64 jj ∧ Hid (FldAt wr fb nb p f'') ∧ Hid (f''.pt e0.toNat = px p.throw j true) ∧ Hid (NetK w3.heap.size wr nb ⟨ae, ne, ce, aj, nj, cj, as_, ns, cs, al, nl, cl, lv⟩ p) ∧ Hid (Below w3.heap.size w3 wr))
      case atStart => exact ⟨0, _, by omega, rfl, HF9.out, HX9.out, HK9.out, B9.out⟩
      case round =>
        obtain ⟨jj, f'', hk2, rfl, hF, hX, hK, hB⟩ := hrel
        have Hj2 := Lib.hid hk2; clear hk2
        by_cases hlt : jj < mn
        · have hq2 : decide ((jj : Int) < x3 % 40) = true := by have := Hm.out; simp; omega
          go_wp2_with fail
          refine (tick_any wr fb nb p f'' hF.out).mono ?_
          rintro en v1 ⟨rfl, hf1, hu1⟩
          have HX1 := Lib.hid (show f''.tick.pt e0.toNat = px p.throw (j : Int) true by rw [tick_pt, hX.out, tick_pxs])
          have HK1 := Lib.hid (hK.out.only hmb hu1)
          have B1 := Lib.hid (hB.out.trans (hu1.below (fun k hk => by rw [hk]; exact hmb) hK.out.le))
          have HF1 := Lib.hid hf1
          have c7 := (HBX.out v1 B1.out).c7
          have hbl1 := (HBX.out v1 B1.out).lt
          have HL := Lib.hid (left_px Hk2.out HX1.out)
          have hwr : IntKind.i64.wrap (p.throw - (j : Int)) = p.throw - (j : Int) := IntWalk.i64_in _ (by omega)
          clear hf1 hu1
          go_wp2_with fail
          have c7q := fun d os => cell_regrown c7 d os
          have cq0 : ∀ d os, Calls Try.prog 17 #[.pointer (some ⟨fb, 0, none⟩), .int .i64 e0] (grow (redrawn v1 d) os) fun e w'' => e = .returned (.int .i64 (p.throw - (j : Int))) ∧ ∃ rg : Regrown, w'' = grow (redrawn v1 rg.d) rg.os := fun d os => Calls.regrown_of ((fun hb => by have := left_any _ fb nb p f''.tick (HK1.out.calm hb).now (HF1.out.below hb) e0; rw [HL.out] at this; exact this) (below_regrown _ d os))
          refine wp_region_quiet_below (by kernel_rfl) (by kernel_rfl) ?_
          repeat (quiet_step (first | with_reducible exact cq0 _ _))
          refine wpQuiet_nil ?_
          intro v2 hw'
          have hb2 : Below v1.heap.size v1 v2 := by obtain ⟨⟨d, os⟩, rfl⟩ := hw'; exact below_regrown _ d os
          clear hw' c7q cq0
          have HF2 := Lib.hid (HF1.out.below hb2)
          have HK2' := Lib.hid (HK1.out.calm hb2)
          have B2 := Lib.hid (B1.out.trans (hb2.mono HK1.out.le))
          clear hb2 c7 hbl1
          go_wp2_with fail
          go_roundg (mn - jj - 1)
          case measure => have := Hj2.out; omega
          case rel => exact ⟨jj + 1, _, by have := Hj2.out; omega, by go_num, HF2.out, HX1.out, HK2'.out, B2.out⟩
        have hjm : jj = mn := by have := Hj2.out; omega
        obtain ⟨wp, rfl⟩ : ∃ wp : World, wp = wr := ⟨_, rfl⟩
        have Hjm := Lib.hid hjm
        have hq2 : decide ((jj : Int) < x3 % 40) = false := by have := Hm.out; simp; omega
        clear hlt hjm
        go_wp2_with fail
        refine (stick_any wp fb nb p f'' hK.out.now hF.out e0 false).mono ?_
        rintro en v1 ⟨rfl, hf1, hu1⟩
        have HF1 := Lib.hid hf1
        have HX1 := Lib.hid (stick_px (on := false) Hk2.out (by rw [hF.out.ok.len.1]; omega) hX.out)
        have HK1 := Lib.hid (hK.out.only hmb hu1)
        have B1 := Lib.hid (hB.out.trans (hu1.below (fun k hk => by rw [hk]; exact hmb) hK.out.le))
        clear hf1 hu1 hF hX hK hB
        obtain ⟨tn, htn⟩ : ∃ tn : Nat, p.throw = tn := ⟨p.throw.toNat, by omega⟩
        have Htn := Lib.hid htn
        have ht20 : tn ≤ 20 := by omega
        go_wp2_with fail
        go_loopg [16] (tn - j) (fun k i wr => ∃ (q : Nat) (fq : Fld), q + k = tn ∧ j ≤ q ∧ i = .int .i64 q ∧ Hid (FldAt wr fb nb p fq) ∧ Hid (fq.pt e0.toNat = px p.throw q false) ∧ Hid (NetK w3.heap.size wr nb ⟨ae, ne, ce, aj, nj, cj, as_, ns, cs, al, nl, cl, lv⟩ p) ∧ Hid (Below w3.heap.size w3 wr))
        case atStart => exact ⟨j, _, by omega, by omega, rfl, HF1.out, HX1.out, HK1.out, B1.out⟩
        case round =>
          clear htn
          obtain ⟨q, fq, hk3, hjq, rfl, hF, hX, hK, hB⟩ := hrel
          have Hj3 := Lib.hid hk3; clear hk3
          have c7 := (HBX.out wr hB.out).c7
          have hblr := (HBX.out wr hB.out).lt
          by_cases hlt : q < tn
          · have hq3 : decide ((q : Int) < p.throw) = true := by have := Htn.out; simp; omega
            go_wp2_with fail
            refine (pos_n hne hK.out.now hF.out).mono ?_
            rintro en v2 ⟨ga, ca, rfl, ho, hx, _⟩
            have HF2 := Lib.hid (hF.out.below hx)
            have HK2' := Lib.hid (hK.out.calm hx)
            have B2 := Lib.hid (hB.out.trans (hx.mono hK.out.le))
            have c0 := (HBX.out v2 B2.out).c0
            dsimp only at c0
            obtain ⟨g, off, hag, hgl, m1⟩ := ho.int (pos_at (p := p) (f := fq) (e := e0.toNat) (by omega))
            cases hag
            rw [hX.out, pos_px (by have := Htn.out; omega), Nat.zero_add] at m1
            clear hx ho
            go_wp2_with fail
            refine (tick_any v2 fb nb p fq HF2.out).mono ?_
            rintro en v3 ⟨rfl, hf3, hu3⟩
            have HF3 := Lib.hid hf3
            have HX3 := Lib.hid (show fq.tick.pt e0.toNat = px p.throw ((q + 1 : Nat) : Int) false by rw [tick_pt, hX.out, tick_px (by have := Htn.out; omega)]; rfl)
            have HK3' := Lib.hid (HK2'.out.only hmb hu3)
            have B3 := Lib.hid (B2.out.trans (hu3.below (fun k hk => by rw [hk]; exact hmb) HK2'.out.le))
            clear hf3 hu3
            go_wp2_with fail
            go_roundg (tn - q - 1)
            case measure => have := Hj3.out; omega
            case rel => exact ⟨q + 1, _, by have := Hj3.out; omega, by omega, by go_num, HF3.out, HX3.out, HK3'.out, B3.out⟩
          have hqt : q = tn := by have := Hj3.out; omega
          have hqp : (q : Int) = p.throw := by have := Htn.out; omega
          have Hqp := Lib.hid hqp
          have hq3 : decide ((q : Int) < p.throw) = false := by simp; omega
          clear hlt hqt hqp
          go_wp2_with fail
          refine (pos_n hne hK.out.now hF.out).mono ?_
          rintro en v2 ⟨ga, ca, rfl, ho, hx, _⟩
          have HF2 := Lib.hid (hF.out.below hx)
          have HK2' := Lib.hid (hK.out.calm hx)
          have B2 := Lib.hid (hB.out.trans (hx.mono hK.out.le))
          have c0 := (HBX.out v2 B2.out).c0
          dsimp only at c0
          obtain ⟨g, off, hag, hgl, m1⟩ := ho.int (pos_at (p := p) (f := fq) (e := e0.toNat) (by omega))
          cases hag
          rw [hX.out, Hqp.out, pos_pxe, Nat.zero_add] at m1
          have HLq := Lib.hid (left_any v2 fb nb p fq HK2'.out.now HF2.out e0)
          rw [left_px Hk2.out hX.out, show p.throw - (q : Int) = 0 by have := Hqp.out; omega] at HLq
          clear hx ho
          go_wp2_with fail
          refine HLq.out.mono ?_
          rintro en v3 ⟨rfl, hx⟩
          have B3 := Lib.hid (B2.out.trans (hx.mono HK2'.out.le))
          clear hx
          go_wp2_with fail
          go_ret
          exact ⟨rfl, below_step Hb3.out B3.out Hb3.out.size⟩
set_option maxRecDepth 100000 in
theorem fieldSticks_lifted (os : Os) (started : os.Started) (H : Type) (enc : TypeId × Value → H) :
    ReturnsInHanded {} Try.checked os 4 .any (Rows.fieldSticksSpec.pre6 enc Try.prog Try.f4 Rows.fieldSticksRow.domain false) (Rows.fieldSticksSpec.post enc Try.prog Try.f4 false true false false) := by
  refine returnsInHanded_of_change (C := Try.checked) own started (by kernel_rfl) Try.func4
    (ChangeSpec.witness6 (enc := enc) (C := Try.checked) false ⟨#[], #[.agg #[.slice none 0 0, .slice none 0 0, .slice none 0 0, .slice none 0 0, .int .i64 0, .int .i64 0, .int .i64 0, .int .i64 0, .bool false], .int .u8 0, .int .u8 0, .int .u8 0], []⟩ 8 (by kernel_rfl) (by kernel_rfl) (by kernel_rfl) (by kernel_rfl)) ?_
  intro W base args ds gs before hval0 hW hcnd _
  have hval : ∀ (j : Nat) t v, Try.f4.params[j]? = some t → args[j]? = some v → Value.okWide Try.prog W .any base t v := hval0
  have hW' := hW
  obtain ⟨p, q, hA0, hV, rfl, hfz, hnd⟩ := hW
  have hA : DataW.TrodAll enc Try.prog W 0 (fun _ => true) true Try.f4.params.toList args.toList ds p := hA0
  rw [Try.params4] at hA hval
  obtain ⟨v0, vs0, d0, ds0, p0, q0, hargs, rfl, rfl, k0, r0⟩ := trodAll_cons hA
  obtain ⟨v1, vs1, d1, ds1, p1, q1, rfl, rfl, rfl, k1, r1⟩ := trodAll_cons r0
  obtain ⟨v2, vs2, d2, ds2, p2, q2, rfl, rfl, rfl, k2, r2⟩ := trodAll_cons r1
  obtain ⟨v3, vs3, d3, ds3, p3, q3, rfl, rfl, rfl, k3, r3⟩ := trodAll_cons r2
  obtain ⟨rfl, rfl, rfl⟩ := trodAll_nil r3
  obtain rfl : args = #[v0, v1, v2, v3] := by cases args; simp_all
  obtain ⟨rfl, rfl⟩ := trodVars_none hV
  have lt0 : ∀ x ∈ p0, x.block < W.heap.size := by obtain ⟨m, hm⟩ := k0; exact DataW.trod_lt m _ _ _ hm
  have hv0 := hval 0 27 v0 rfl rfl
  have lt1 : ∀ x ∈ p1, x.block < W.heap.size := by obtain ⟨m, hm⟩ := k1; exact DataW.trod_lt m _ _ _ hm
  have hv1 := hval 1 5 v1 rfl rfl
  have lt2 : ∀ x ∈ p2, x.block < W.heap.size := by obtain ⟨m, hm⟩ := k2; exact DataW.trod_lt m _ _ _ hm
  have hv2 := hval 2 5 v2 rfl rfl
  have lt3 : ∀ x ∈ p3, x.block < W.heap.size := by obtain ⟨m, hm⟩ := k3; exact DataW.trod_lt m _ _ _ hm
  have hv3 := hval 3 5 v3 rfl rfl
  have fin : Calls Try.prog 4 #[v0, v1, v2, v3] W (fun e W' => e = .returned (.bool true) ∧ Below W.heap.size W W') := by
    obtain ⟨pv, p, rfl, hp⟩ := open_plan hv0 k0
    obtain ⟨x1, rfl, l1, u1⟩ := open_u8 hv1 k1
    obtain ⟨x2, rfl, l2, u2⟩ := open_u8 hv2 k2
    obtain ⟨x3, rfl, l3, u3⟩ := open_u8 hv3 k3
    exact lawSticks_any W pv p x1 x2 x3 l1 u1 l2 u2 l3 u3 hp
  clear hA0 hval0
  refine fin.mono fun e W' ⟨he, bel⟩ => ?_
  subst he
  exact ⟨_, rfl, _, _, _, [], _, [], hW', trodAll_mk1 (shut_bool Try.underlying4 _), (trodAll_cons_mk (Below.trod laidOut (by kernel_rfl) (of_decide_eq_true (by kernel_rfl)) k0 bel lt0) (trodAll_cons_mk (Below.trod laidOut (by kernel_rfl) (of_decide_eq_true (by kernel_rfl)) k1 bel lt1) (trodAll_cons_mk (Below.trod laidOut (by kernel_rfl) (of_decide_eq_true (by kernel_rfl)) k2 bel lt2) (trodAll_cons_mk (Below.trod laidOut (by kernel_rfl) (of_decide_eq_true (by kernel_rfl)) k3 bel lt3) trodAll_mk0)))), rfl, bel.frame _, fun h => by cases h⟩

/-- THE STATEMENT -/
theorem fieldSticks_holds : Rows.FieldSticksSaid :=
  OpenClaim.holds_of_wide 4 Try.f4 rfl rfl rfl rfl rfl rfl rfl ⟨rfl, rfl, rfl, rfl, rfl⟩ rfl rfl rfl rfl rfl (by kernel_rfl) Try.func4 (by kernel_rfl)
    (of_decide_eq_true (by kernel_rfl)) (by unfold Func.isWrapper; first | (rw [if_pos (by decide +kernel)]; kernel_rfl) | (rw [if_neg (by decide +kernel)]; exact ⟨rfl, rfl⟩))
    (fun os started H enc _ => fieldSticks_lifted os started H enc)
end Go.Proofs.Ytlgekkffekagbaa
