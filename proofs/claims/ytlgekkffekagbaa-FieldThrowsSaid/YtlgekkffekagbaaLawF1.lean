/- FieldThrows: for every input the law returns true. No condition. -/
import Derived.Test.YtlgekkffekagbaaFieldQ
set_option maxRecDepth 1000000
namespace Go.Proofs.Ytlgekkffekagbaa
open Go.ChangeShapes Go.WideShapes Go.ChangeAt Go.RowKit Go.Sort

set_option maxHeartbeats 4000000 in
theorem lawThrows_any (w : World) (pv : PV) (p : Plan) (a1 : Option Addr) (n1 cap1 : Nat) (first : List Int) (a2 : Option Addr) (n2 cap2 : Nat) (then_ : List Int) (h : PlanAt w pv p) (h1 : Ints w a1 n1 first) (h2 : Ints w a2 n2 then_) :
    Calls Try.prog 3 #[pv.val p, .slice a1 n1 cap1, .slice a2 n2 cap2] w fun en w' => en = .returned (.bool true) ∧ Below w.heap.size w w' := by
  have HR1 := Lib.hid h1
  have HR2 := Lib.hid h2
  clear h1 h2
  obtain ⟨ae, ne, ce, aj, nj, cj, as_, ns, cs, al, nl, cl, lv⟩ := pv
  have hP := Lib.hid h
  have HBa := Lib.hid (pbox_new w ⟨ae, ne, ce, aj, nj, cj, as_, ns, cs, al, nl, cl, lv⟩ p)
  have Hba := Lib.hid (below_new w (.cells #[.slice ae ne ce, .slice aj nj cj, .slice as_ ns cs, .slice al nl cl, .int .i64 p.top, .int .i64 p.brake, .int .i64 p.margin, .int .i64 p.throw, .bool p.hard] 27))
  have K := Lib.hid (known13_any (w.alloc (.cells #[.slice ae ne ce, .slice aj nj cj, .slice as_ ns cs, .slice al nl cl, .int .i64 p.top, .int .i64 p.brake, .int .i64 p.margin, .int .i64 p.throw, .bool p.hard] 27)))
  have HF := Lib.hid (fun (u : World) (hb : Below w.heap.size w u) => finex_l (w := u) (hP.out.below hb))
  clear h
  dsimp only [PV.val]
  obtain ⟨_, c0, c1, c2, c3, c4, c5, c6, c7, c8⟩ := HBa.out
  dsimp only at c0 c1 c2 c3
  cases hf : fine p with
  | false =>
    rw [hf] at HF
    clear hf
    go_enter Try.func3, Try.ntmps3
    go_wp2_with fail
    refine (K.out).mono ?_
    rintro e w1 ⟨rfl, hbx⟩
    have HB1 := Lib.hid (HBa.out.below hbx)
    have Hb1 := Lib.hid (below_step Hba.out hbx Hba.out.size)
    clear hbx c0 c1 c2 c3 c4 c5 c6 c7 c8
    obtain ⟨_, c0, c1, c2, c3, c4, c5, c6, c7, c8⟩ := HB1.out
    dsimp only at c0 c1 c2 c3
    clear K
    go_wp2_with fail
    refine (HF.out w1 Hb1.out).mono ?_
    rintro e w2 ⟨rfl, hbx⟩
    have HB2 := Lib.hid (HB1.out.below hbx)
    have Hb2 := Lib.hid (below_step Hb1.out hbx Hb1.out.size)
    clear hbx c0 c1 c2 c3 c4 c5 c6 c7 c8
    obtain ⟨_, c0, c1, c2, c3, c4, c5, c6, c7, c8⟩ := HB2.out
    dsimp only at c0 c1 c2 c3
    go_wp2_with fail
    go_ret
    exact ⟨rfl, Hb2.out⟩
  | true =>
    rw [hf] at HF
    by_cases hq1 : n1 ≤ 60
    rotate_left
    · have qq1 : decide ((60 : Int) < (n1 : Int)) = true := by simp; omega
      go_enter Try.func3, Try.ntmps3
      go_wp2_with fail
      refine (K.out).mono ?_
      rintro e w1 ⟨rfl, hbx⟩
      have HB1 := Lib.hid (HBa.out.below hbx)
      have Hb1 := Lib.hid (below_step Hba.out hbx Hba.out.size)
      clear hbx c0 c1 c2 c3 c4 c5 c6 c7 c8
      obtain ⟨_, c0, c1, c2, c3, c4, c5, c6, c7, c8⟩ := HB1.out
      dsimp only at c0 c1 c2 c3
      clear K
      go_wp2_with fail
      refine (HF.out w1 Hb1.out).mono ?_
      rintro e w2 ⟨rfl, hbx⟩
      have HB2 := Lib.hid (HB1.out.below hbx)
      have Hb2 := Lib.hid (below_step Hb1.out hbx Hb1.out.size)
      clear hbx c0 c1 c2 c3 c4 c5 c6 c7 c8
      obtain ⟨_, c0, c1, c2, c3, c4, c5, c6, c7, c8⟩ := HB2.out
      dsimp only at c0 c1 c2 c3
      go_wp2_with fail
      go_ret
      exact ⟨rfl, Hb2.out⟩
    have qq1 : decide ((60 : Int) < (n1 : Int)) = false := by simp; omega
    by_cases hq2 : n2 ≤ 60
    rotate_left
    · have qq2 : decide ((60 : Int) < (n2 : Int)) = true := by simp; omega
      go_enter Try.func3, Try.ntmps3
      go_wp2_with fail
      refine (K.out).mono ?_
      rintro e w1 ⟨rfl, hbx⟩
      have HB1 := Lib.hid (HBa.out.below hbx)
      have Hb1 := Lib.hid (below_step Hba.out hbx Hba.out.size)
      clear hbx c0 c1 c2 c3 c4 c5 c6 c7 c8
      obtain ⟨_, c0, c1, c2, c3, c4, c5, c6, c7, c8⟩ := HB1.out
      dsimp only at c0 c1 c2 c3
      clear K
      go_wp2_with fail
      refine (HF.out w1 Hb1.out).mono ?_
      rintro e w2 ⟨rfl, hbx⟩
      have HB2 := Lib.hid (HB1.out.below hbx)
      have Hb2 := Lib.hid (below_step Hb1.out hbx Hb1.out.size)
      clear hbx c0 c1 c2 c3 c4 c5 c6 c7 c8
      obtain ⟨_, c0, c1, c2, c3, c4, c5, c6, c7, c8⟩ := HB2.out
      dsimp only at c0 c1 c2 c3
      go_wp2_with fail
      go_ret
      exact ⟨rfl, Hb2.out⟩
    have qq2 : decide ((60 : Int) < (n2 : Int)) = false := by simp; omega
    have HM := Lib.hid (fun (u : World) (hb : Below w.heap.size w u) => made_any u ⟨ae, ne, ce, aj, nj, cj, as_, ns, cs, al, nl, cl, lv⟩ p hf (hP.out.below hb))
    have Hok := Lib.hid (few_ok hP.out (fine_few hf).1)
    have Hc := Lib.hid (fine_few hf).2
    clear hf
    dsimp only [PV.val] at HM
    go_enter Try.func3, Try.ntmps3
    go_wp2_with fail
    refine (K.out).mono ?_
    rintro e w1 ⟨rfl, hbx⟩
    have HB1 := Lib.hid (HBa.out.below hbx)
    have Hb1 := Lib.hid (below_step Hba.out hbx Hba.out.size)
    clear hbx c0 c1 c2 c3 c4 c5 c6 c7 c8
    obtain ⟨_, c0, c1, c2, c3, c4, c5, c6, c7, c8⟩ := HB1.out
    dsimp only at c0 c1 c2 c3
    clear K
    go_wp2_with fail
    refine (HF.out w1 Hb1.out).mono ?_
    rintro e w2 ⟨rfl, hbx⟩
    have HB2 := Lib.hid (HB1.out.below hbx)
    have Hb2 := Lib.hid (below_step Hb1.out hbx Hb1.out.size)
    clear hbx c0 c1 c2 c3 c4 c5 c6 c7 c8
    obtain ⟨_, c0, c1, c2, c3, c4, c5, c6, c7, c8⟩ := HB2.out
    dsimp only at c0 c1 c2 c3
    go_wp2_with fail
    refine (HM.out w2 Hb2.out).mono ?_
    rintro e w3 ⟨nb, rfl, hbb, hn, hbx⟩
    have HB3 := Lib.hid (HB2.out.below hbx)
    have Hb3 := Lib.hid (below_step Hb2.out hbx Hb2.out.size)
    have HN3 := Lib.hid hn
    have hbb := Nat.le_trans Hb2.out.size hbb
    clear hbx hn HF HM c0 c1 c2 c3 c4 c5 c6 c7 c8
    obtain ⟨_, c0, c1, c2, c3, c4, c5, c6, c7, c8⟩ := HB3.out
    dsimp only at c0 c1 c2 c3
    have HK3 := Lib.hid (NetK.start HN3.out (hP.out.below Hb3.out))
    go_wp2_with fail
    have hne : p.elems.length = ne := hP.out.e.len
    have hth := throw_ok Hc.out
    have hel := elems_le Hc.out
    have HBX := Lib.hid (show ∀ u, Below w3.heap.size w3 u → PBox u w.heap.size ⟨ae, ne, ce, aj, nj, cj, as_, ns, cs, al, nl, cl, lv⟩ p from fun u hu => HB3.out.below hu)
    have HT1 := Lib.hid (show ∀ u, Below w3.heap.size w3 u → Ints u a1 n1 first from fun u hu => (HR1.out.below Hb3.out).below hu)
    have HT := Lib.hid (show ∀ u, Below w3.heap.size w3 u → Ints u a2 n2 then_ from fun u hu => (HR2.out.below Hb3.out).below hu)
    have HTl := Lib.hid HR2.out.len
    clear c0 c1 c2 c3 c4 c5 c6 c7 c8
    obtain ⟨tn, htn⟩ : ∃ tn : Nat, p.throw = tn := ⟨p.throw.toNat, by omega⟩
    have Htn := Lib.hid htn
    have ht20 : tn ≤ 20 := by omega
    clear htn
    refine (newf_any w3 nb p HN3.out).mono ?_
    rintro en w4 ⟨fb, rfl, hfb, hff, hx⟩
    have HF4 := Lib.hid hff
    have HK4 := Lib.hid (HK3.out.calm hx)
    have B4 := Lib.hid (show Below w3.heap.size w3 w4 from hx)
    have hmb : w3.heap.size ≤ fb := hfb
    clear hx hff hfb
    go_wp2_with fail
    refine (command_any w4 fb nb p _ HK4.out.now HF4.out (fun u hu => HK4.out.net u (hu.below (fun k hk => by rw [hk]; exact hmb) HK4.out.le)) a1 n1 cap1 first (fun u hu => HT1.out u (B4.out.trans (hu.below (fun k hk => by rw [hk]; exact hmb) HK4.out.le)))).mono ?_
    rintro en w5 ⟨rfl, hf5, hu5⟩
    have HF5 := Lib.hid hf5
    have HK5 := Lib.hid (HK4.out.only hmb hu5)
    have B5 := Lib.hid (B4.out.trans (hu5.below (fun k hk => by rw [hk]; exact hmb) HK4.out.le))
    have HS5 := Lib.hid (slow_cmd (slow_new p) (by omega : 0 ≤ p.throw) first)
    clear hf5 hu5
    go_wp2_with fail
    go_loopg [9] tn (fun k i wr => ∃ (j : Nat) (f' : Fld), j + k = tn ∧ i = .int .i64 j ∧ Hid (FldAt wr fb nb p f') ∧ Hid (Slow f' (p.throw - j)) ∧ Hid (NetK w3.heap.size wr nb ⟨ae, ne, ce, aj, nj, cj, as_, ns, cs, al, nl, cl, lv⟩ p) ∧ Hid (Below w3.heap.size w3 wr))
    case atStart => exact ⟨0, _, by omega, rfl, HF5.out, by unfold Hid; simpa using HS5.out, HK5.out, B5.out⟩
    case round =>
      obtain ⟨j, f', hk, rfl, hF, hS, hK, hB⟩ := hrel
      have Hk := Lib.hid hk; clear hk
      have c7 := (HBX.out wr hB.out).c7
      have hblr := (HBX.out wr hB.out).lt
      by_cases hlt : j < tn
      · have hq : decide ((j : Int) < p.throw) = true := by have := Htn.out; simp; omega
        go_wp2_with fail
        refine (tick_any wr fb nb p f' hF.out).mono ?_
        rintro en w9 ⟨rfl, hf9, hu9⟩
        have HF9 := Lib.hid hf9
        have HS9 := Lib.hid (show Slow f'.tick (p.throw - ((j + 1 : Nat) : Int)) by have := slow_tick hF.out.ok hS.out (by have := Htn.out; omega); rw [show p.throw - ((j + 1 : Nat) : Int) = p.throw - (j : Int) - 1 by omega]; exact this)
        have HK9 := Lib.hid (hK.out.only hmb hu9)
        have B9 := Lib.hid (hB.out.trans (hu9.below (fun k hk => by rw [hk]; exact hmb) hK.out.le))
        clear hf9 hu9
        go_wp2_with fail
        go_roundg (tn - j - 1)
        case measure => have := Hk.out; omega
        case rel => exact ⟨j + 1, _, by have := Hk.out; omega, by go_num, HF9.out, HS9.out, HK9.out, B9.out⟩
      obtain ⟨wo, rfl⟩ : ∃ wo : World, wo = wr := ⟨_, rfl⟩
      have hq : decide ((j : Int) < p.throw) = false := by have := Hk.out; have := Htn.out; simp; omega
      obtain ⟨f0, rfl⟩ : ∃ f0 : Fld, f0 = f' := ⟨_, rfl⟩
      have HSl := Lib.hid (show Slow f0 0 by have h1 := hS.out; rw [show p.throw - (j : Int) = 0 by have := Hk.out; have := Htn.out; omega] at h1; exact h1)
      have HF0 := Lib.hid hF.out.ok
      clear hlt
      go_wp2_with fail
      refine (pos_n hne hK.out.now hF.out).mono ?_
      rintro en w6 ⟨gl0, cl0, rfl, ho, hx, hgl6⟩
      have HF6 := Lib.hid (hF.out.below hx)
      have HK6 := Lib.hid (hK.out.calm hx)
      have L6 := Lib.hid ho
      have B6 := Lib.hid (hB.out.trans (hx.mono hK.out.le))
      have hfg : fb < gl0 := Nat.lt_of_lt_of_le hF.out.box.lt hgl6
      have c0 := (HBX.out w6 B6.out).c0
      dsimp only at c0
      have hbl6 := (HBX.out w6 B6.out).lt
      clear ho hx hgl6 hF hS hK hB c7 hblr
      go_wp2_with fail
      clear c0 hbl6
      refine (command_any w6 fb nb p _ HK6.out.now HF6.out (fun u hu => HK6.out.net u (hu.below (fun k hk => by rw [hk]; exact hmb) HK6.out.le)) a2 n2 cap2 then_ (fun u hu => HT.out u (B6.out.trans (hu.below (fun k hk => by rw [hk]; exact hmb) HK6.out.le)))).mono ?_
      rintro en w7 ⟨rfl, hf7, hu7⟩
      have HF7 := Lib.hid hf7
      have HK7 := Lib.hid (HK6.out.only hmb hu7)
      have L7 := Lib.hid (L6.out.only hu7 hfg)
      have B7 := Lib.hid (B6.out.trans (hu7.below (fun k hk => by rw [hk]; exact hmb) HK6.out.le))
      have HW7 := Lib.hid (way_start HF0.out.len.1 HSl.out HF0.out hth.1 then_)
      clear hf7 hu7
      go_wp2_with fail
      go_loopg [11] (tn + 1) (fun k i wr => ∃ (jj : Nat) (g : Fld), jj + k = tn + 1 ∧ i = .int .i64 jj ∧ Hid (FldAt wr fb nb p g) ∧ Hid ((jj : Int) ≤ p.throw → WayAt p then_ f0 jj g) ∧ Hid (Ints wr (some ⟨gl0, 0, none⟩) ne (f0.pos p)) ∧ Hid (NetK w3.heap.size wr nb ⟨ae, ne, ce, aj, nj, cj, as_, ns, cs, al, nl, cl, lv⟩ p) ∧ Hid (Below w3.heap.size w3 wr))
      case atStart => exact ⟨0, _, by omega, rfl, HF7.out, fun _ => HW7.out, L7.out, HK7.out, B7.out⟩
      case round =>
        obtain ⟨jj, g, hk, rfl, hF, hW, hL, hK, hB⟩ := hrel
        have Hjj := Lib.hid hk; clear hk
        have c7 := (HBX.out wr hB.out).c7
        have hblr := (HBX.out wr hB.out).lt
        by_cases hlt : jj ≤ tn
        rotate_left
        · have hq2 : decide ((jj : Int) ≤ p.throw) = false := by have := Htn.out; simp; omega
          go_wp2_with fail
          go_ret
          exact ⟨rfl, below_step Hb3.out hB.out Hb3.out.size⟩
        have hq2 : decide ((jj : Int) ≤ p.throw) = true := by have := Htn.out; simp; omega
        have hjt : (jj : Int) ≤ p.throw := by have := Htn.out; omega
        have hWk := Lib.hid (hW.out hjt)
        go_wp2_with fail
        refine (pos_n hne hK.out.now hF.out).mono ?_
        rintro en w8 ⟨gn0, cn0, rfl, ho, hx, hgn8⟩
        have HF8 := Lib.hid (hF.out.below hx)
        have HK8 := Lib.hid (hK.out.calm hx)
        have L8 := Lib.hid (hL.out.below hx)
        have N8 := Lib.hid ho
        have B8 := Lib.hid (hB.out.trans (hx.mono hK.out.le))
        clear ho hx hgn8 c7 hblr hF hK hL hB
        go_wp2_with fail
        go_loopg [13] ne (fun kk i wr => ∃ k : Nat, k + kk = ne ∧ i = .int .i64 k ∧ Hid (FldAt wr fb nb p g) ∧ Hid (Ints wr (some ⟨gl0, 0, none⟩) ne (f0.pos p)) ∧ Hid (Ints wr (some ⟨gn0, 0, none⟩) ne (g.pos p)) ∧ Hid (NetK w3.heap.size wr nb ⟨ae, ne, ce, aj, nj, cj, as_, ns, cs, al, nl, cl, lv⟩ p) ∧ Hid (Below w3.heap.size w3 wr))
        case atStart => exact ⟨0, by omega, rfl, HF8.out, L8.out, N8.out, HK8.out, B8.out⟩
        case round =>
          obtain ⟨k, hkk, rfl, hF, hL, hN, hK, hB⟩ := hrel
          have Hk := Lib.hid hkk; clear hkk
          by_cases hkn0 : k < ne
          rotate_left
          · have hqk : decide ((k : Int) < (ne : Int)) = false := by simp; omega
            obtain ⟨wp, rfl⟩ : ∃ wp : World, wp = wr := ⟨_, rfl⟩
            go_wp2_with fail
            refine (tick_any wp fb nb p g hF.out).mono ?_
            rintro en v9 ⟨rfl, hf9, hu9⟩
            have HF9 := Lib.hid hf9
            have HK9 := Lib.hid (hK.out.only hmb hu9)
            have L9 := Lib.hid (hL.out.only hu9 hfg)
            have B9 := Lib.hid (hB.out.trans (hu9.below (fun k hk => by rw [hk]; exact hmb) hK.out.le))
            have HW9 := Lib.hid (show ((jj + 1 : Nat) : Int) ≤ p.throw → WayAt p then_ f0 ((jj + 1 : Nat) : Int) g.tick from fun h => way_tick HSl.out HF0.out hWk.out (by omega))
            clear hf9 hu9
            go_wp2_with fail
            go_roundg (tn + 1 - jj - 1)
            case measure => have := Hjj.out; omega
            case rel => exact ⟨jj + 1, _, by have := Hjj.out; omega, by go_num, HF9.out, HW9.out, L9.out, HK9.out, B9.out⟩
          obtain ⟨gl2, ol, hal, hgl, mL⟩ := hL.out.int (pos_at (p := p) (f := f0) (e := k) (by omega))
          cases hal
          obtain ⟨gn2, on_, han, hgn, mN⟩ := hN.out.int (pos_at (p := p) (f := g) (e := k) (by omega))
          cases han
          rw [Nat.zero_add] at mL mN
          by_cases hk2 : p.kind (k : Int) = 2
          rotate_left
          · have qk : (p.kind (k : Int) == 2) = false := by simp [hk2]
            have hst := Lib.hid (way_still (p := p) (f := f0) (l := then_) (j := (jj : Int)) (k := k) HSl.out HF0.out (fun t _ hc => by have := hc.1; unfold calls at this; simp at this; exact hk2 this.1))
            rw [hWk.out k (by omega), hst.out] at mN
            clear hk2
            go_wp2_with fail
            have mLq := fun d os => cell_regrown mL d os
            have cq0 : ∀ d os, Calls Try.prog 15 #[.pointer (some ⟨nb, 0, none⟩), .int .i64 (k : Int)] (grow (redrawn wr d) os) fun e w'' => e = .returned (.int .i64 (p.kind (k : Int))) ∧ ∃ rg : Regrown, w'' = grow (redrawn wr rg.d) rg.os := fun d os => Calls.regrown_of (nkind_any _ nb p ((hK.out.calm (below_regrown _ d os)).now) (k : Int))
            refine wp_region_quiet_below (by kernel_rfl) (by kernel_rfl) ?_
            repeat (go_big_quiet_step (first | with_reducible exact cq0 _ _))
            refine wpQuiet_nil ?_
            intro vv hw'
            have hbv : Below wr.heap.size wr vv := by obtain ⟨⟨d, os⟩, rfl⟩ := hw'; exact below_regrown _ d os
            clear hw' mLq cq0
            have hKv := Lib.hid (hK.out.calm hbv)
            have hFv := Lib.hid (hF.out.below hbv)
            have hLv := Lib.hid (hL.out.below hbv)
            have hNv := Lib.hid (hN.out.below hbv)
            have hBv := Lib.hid (hB.out.trans (hbv.mono hK.out.le))
            have mL := (hbv.cell (p := ⟨gl0, k, none⟩) hgl).trans mL
            have mN := (hbv.cell (p := ⟨gn0, k, none⟩) hgn).trans mN
            have c7 := (HBX.out vv hBv.out).c7
            have hblv := (HBX.out vv hBv.out).lt
            clear hbv
            go_wp2_with fail
            go_roundg (ne - k - 1)
            case measure => have := Hk.out; omega
            case rel => exact ⟨k + 1, by have := Hk.out; omega, by go_num, hFv.out, hLv.out, hNv.out, hKv.out, hBv.out⟩
          have qk : (p.kind (k : Int) == 2) = true := by simp [hk2]
          by_cases hkn : k < n2
          rotate_left
          · have qn : decide ((k : Int) < (n2 : Int)) = false := by simp; omega
            have hst := Lib.hid (way_still (p := p) (f := f0) (l := then_) (j := (jj : Int)) (k := k) HSl.out HF0.out (fun t ht _ => by have := (List.getElem?_eq_some_iff.1 ht).1; have := HTl.out; omega))
            rw [hWk.out k (by omega), hst.out] at mN
            clear hk2
            go_wp2_with fail
            have mLq := fun d os => cell_regrown mL d os
            have cq0 : ∀ d os, Calls Try.prog 15 #[.pointer (some ⟨nb, 0, none⟩), .int .i64 (k : Int)] (grow (redrawn wr d) os) fun e w'' => e = .returned (.int .i64 (p.kind (k : Int))) ∧ ∃ rg : Regrown, w'' = grow (redrawn wr rg.d) rg.os := fun d os => Calls.regrown_of (nkind_any _ nb p ((hK.out.calm (below_regrown _ d os)).now) (k : Int))
            refine wp_region_quiet_below (by kernel_rfl) (by kernel_rfl) ?_
            repeat (go_big_quiet_step (first | with_reducible exact cq0 _ _))
            refine wpQuiet_nil ?_
            intro vv hw'
            have hbv : Below wr.heap.size wr vv := by obtain ⟨⟨d, os⟩, rfl⟩ := hw'; exact below_regrown _ d os
            clear hw' mLq cq0
            have hKv := Lib.hid (hK.out.calm hbv)
            have hFv := Lib.hid (hF.out.below hbv)
            have hLv := Lib.hid (hL.out.below hbv)
            have hNv := Lib.hid (hN.out.below hbv)
            have hBv := Lib.hid (hB.out.trans (hbv.mono hK.out.le))
            have mL := (hbv.cell (p := ⟨gl0, k, none⟩) hgl).trans mL
            have mN := (hbv.cell (p := ⟨gn0, k, none⟩) hgn).trans mN
            have c7 := (HBX.out vv hBv.out).c7
            have hblv := (HBX.out vv hBv.out).lt
            clear hbv
            go_wp2_with fail
            go_roundg (ne - k - 1)
            case measure => have := Hk.out; omega
            case rel => exact ⟨k + 1, by have := Hk.out; omega, by go_num, hFv.out, hLv.out, hNv.out, hKv.out, hBv.out⟩
          obtain ⟨t, ht⟩ := get_some HTl.out hkn
          obtain ⟨gt_, ot, hat, hgt, mT⟩ := (HT.out wr hB.out).int ht
          have hgt' := hgt
          subst hat
          by_cases t1 : t = 1
          · have q1 : (t == 1) = true := by simp [t1]
            have hca : calls p k t = true := by unfold calls; simp [hk2, t1]
            clear t1
            by_cases hne_ : posPt (f0.pt k) = t
            · have ql : (t != posPt (f0.pt k)) = false := by simp [hne_]
              have hst := Lib.hid (way_still (p := p) (f := f0) (l := then_) (j := (jj : Int)) (k := k) HSl.out HF0.out (fun t2 ht2 hc => by rw [ht] at ht2; cases ht2; exact hc.2 hne_))
              rw [hWk.out k (by omega), hst.out] at mN
              clear hk2 hne_ ht hca
              go_wp2_with fail
              have mLq := fun d os => cell_regrown mL d os
              have mTq := fun d os => cell_regrown mT d os
              have cq0 : ∀ d os, Calls Try.prog 15 #[.pointer (some ⟨nb, 0, none⟩), .int .i64 (k : Int)] (grow (redrawn wr d) os) fun e w'' => e = .returned (.int .i64 (p.kind (k : Int))) ∧ ∃ rg : Regrown, w'' = grow (redrawn wr rg.d) rg.os := fun d os => Calls.regrown_of (nkind_any _ nb p ((hK.out.calm (below_regrown _ d os)).now) (k : Int))
              refine wp_region_quiet_below (by kernel_rfl) (by kernel_rfl) ?_
              repeat (go_big_quiet_step (first | with_reducible exact cq0 _ _))
              refine wpQuiet_nil ?_
              intro vv hw'
              have hbv : Below wr.heap.size wr vv := by obtain ⟨⟨d, os⟩, rfl⟩ := hw'; exact below_regrown _ d os
              clear hw' mLq mTq cq0
              have hKv := Lib.hid (hK.out.calm hbv)
              have hFv := Lib.hid (hF.out.below hbv)
              have hLv := Lib.hid (hL.out.below hbv)
              have hNv := Lib.hid (hN.out.below hbv)
              have hBv := Lib.hid (hB.out.trans (hbv.mono hK.out.le))
              have mL := (hbv.cell (p := ⟨gl0, k, none⟩) hgl).trans mL
              have mN := (hbv.cell (p := ⟨gn0, k, none⟩) hgn).trans mN
              have mT := (hbv.cell (p := ⟨gt_, ot + k, none⟩) hgt).trans mT
              have c7 := (HBX.out vv hBv.out).c7
              have hblv := (HBX.out vv hBv.out).lt
              clear hbv
              go_wp2_with fail
              go_roundg (ne - k - 1)
              case measure => have := Hk.out; omega
              case rel => exact ⟨k + 1, by have := Hk.out; omega, by go_num, hFv.out, hLv.out, hNv.out, hKv.out, hBv.out⟩
            have hmv := Lib.hid (way_moves (p := p) (f := f0) (l := then_) (j := (jj : Int)) (k := k) HSl.out HF0.out ht hca hne_ (by omega))
            rw [hWk.out k (by omega), hmv.out] at mN
            by_cases hje : (jj : Int) = p.throw
            · rw [if_pos hje] at mN
              have qj : ((jj : Int) == p.throw) = true := by simpa using hje
              have ql : (t != posPt (f0.pt k)) = true := by rw [bne_iff_ne]; exact fun e => hne_ e.symm
              clear hje ht hca hne_ hk2
              go_wp2_with fail
              have mLq := fun d os => cell_regrown mL d os
              have mTq := fun d os => cell_regrown mT d os
              have cq0 : ∀ d os, Calls Try.prog 15 #[.pointer (some ⟨nb, 0, none⟩), .int .i64 (k : Int)] (grow (redrawn wr d) os) fun e w'' => e = .returned (.int .i64 (p.kind (k : Int))) ∧ ∃ rg : Regrown, w'' = grow (redrawn wr rg.d) rg.os := fun d os => Calls.regrown_of (nkind_any _ nb p ((hK.out.calm (below_regrown _ d os)).now) (k : Int))
              refine wp_region_quiet_below (by kernel_rfl) (by kernel_rfl) ?_
              repeat (go_big_quiet_step (first | with_reducible exact cq0 _ _))
              refine wpQuiet_nil ?_
              intro vv hw'
              have hbv : Below wr.heap.size wr vv := by obtain ⟨⟨d, os⟩, rfl⟩ := hw'; exact below_regrown _ d os
              clear hw' mLq mTq cq0
              have hKv := Lib.hid (hK.out.calm hbv)
              have hFv := Lib.hid (hF.out.below hbv)
              have hLv := Lib.hid (hL.out.below hbv)
              have hNv := Lib.hid (hN.out.below hbv)
              have hBv := Lib.hid (hB.out.trans (hbv.mono hK.out.le))
              have mL := (hbv.cell (p := ⟨gl0, k, none⟩) hgl).trans mL
              have mN := (hbv.cell (p := ⟨gn0, k, none⟩) hgn).trans mN
              have mT := (hbv.cell (p := ⟨gt_, ot + k, none⟩) hgt).trans mT
              have c7 := (HBX.out vv hBv.out).c7
              have hblv := (HBX.out vv hBv.out).lt
              clear hbv
              go_wp2_with fail
              go_roundg (ne - k - 1)
              case measure => have := Hk.out; omega
              case rel => exact ⟨k + 1, by have := Hk.out; omega, by go_num, hFv.out, hLv.out, hNv.out, hKv.out, hBv.out⟩
            · rw [if_neg hje] at mN
              have qj : ((jj : Int) == p.throw) = false := by simpa using hje
              have ql : (t != posPt (f0.pt k)) = true := by rw [bne_iff_ne]; exact fun e => hne_ e.symm
              clear hje ht hca hne_ hk2
              go_wp2_with fail
              have mLq := fun d os => cell_regrown mL d os
              have mTq := fun d os => cell_regrown mT d os
              have cq0 : ∀ d os, Calls Try.prog 15 #[.pointer (some ⟨nb, 0, none⟩), .int .i64 (k : Int)] (grow (redrawn wr d) os) fun e w'' => e = .returned (.int .i64 (p.kind (k : Int))) ∧ ∃ rg : Regrown, w'' = grow (redrawn wr rg.d) rg.os := fun d os => Calls.regrown_of (nkind_any _ nb p ((hK.out.calm (below_regrown _ d os)).now) (k : Int))
              refine wp_region_quiet_below (by kernel_rfl) (by kernel_rfl) ?_
              repeat (go_big_quiet_step (first | with_reducible exact cq0 _ _))
              refine wpQuiet_nil ?_
              intro vv hw'
              have hbv : Below wr.heap.size wr vv := by obtain ⟨⟨d, os⟩, rfl⟩ := hw'; exact below_regrown _ d os
              clear hw' mLq mTq cq0
              have hKv := Lib.hid (hK.out.calm hbv)
              have hFv := Lib.hid (hF.out.below hbv)
              have hLv := Lib.hid (hL.out.below hbv)
              have hNv := Lib.hid (hN.out.below hbv)
              have hBv := Lib.hid (hB.out.trans (hbv.mono hK.out.le))
              have mL := (hbv.cell (p := ⟨gl0, k, none⟩) hgl).trans mL
              have mN := (hbv.cell (p := ⟨gn0, k, none⟩) hgn).trans mN
              have mT := (hbv.cell (p := ⟨gt_, ot + k, none⟩) hgt).trans mT
              have c7 := (HBX.out vv hBv.out).c7
              have hblv := (HBX.out vv hBv.out).lt
              clear hbv
              go_wp2_with fail
              go_roundg (ne - k - 1)
              case measure => have := Hk.out; omega
              case rel => exact ⟨k + 1, by have := Hk.out; omega, by go_num, hFv.out, hLv.out, hNv.out, hKv.out, hBv.out⟩
          have q1 : (t == 1) = false := by simp [t1]
          by_cases t2 : t = 2
          · have q2 : (t == 2) = true := by simp [t2]
            have hca : calls p k t = true := by unfold calls; simp [hk2, t2]
            clear t2 t1
            by_cases hne_ : posPt (f0.pt k) = t
            · have ql : (t != posPt (f0.pt k)) = false := by simp [hne_]
              have hst := Lib.hid (way_still (p := p) (f := f0) (l := then_) (j := (jj : Int)) (k := k) HSl.out HF0.out (fun t2 ht2 hc => by rw [ht] at ht2; cases ht2; exact hc.2 hne_))
              rw [hWk.out k (by omega), hst.out] at mN
              clear hk2 hne_ ht hca
              go_wp2_with fail
              have mLq := fun d os => cell_regrown mL d os
              have mTq := fun d os => cell_regrown mT d os
              have cq0 : ∀ d os, Calls Try.prog 15 #[.pointer (some ⟨nb, 0, none⟩), .int .i64 (k : Int)] (grow (redrawn wr d) os) fun e w'' => e = .returned (.int .i64 (p.kind (k : Int))) ∧ ∃ rg : Regrown, w'' = grow (redrawn wr rg.d) rg.os := fun d os => Calls.regrown_of (nkind_any _ nb p ((hK.out.calm (below_regrown _ d os)).now) (k : Int))
              refine wp_region_quiet_below (by kernel_rfl) (by kernel_rfl) ?_
              repeat (go_big_quiet_step (first | with_reducible exact cq0 _ _))
              refine wpQuiet_nil ?_
              intro vv hw'
              have hbv : Below wr.heap.size wr vv := by obtain ⟨⟨d, os⟩, rfl⟩ := hw'; exact below_regrown _ d os
              clear hw' mLq mTq cq0
              have hKv := Lib.hid (hK.out.calm hbv)
              have hFv := Lib.hid (hF.out.below hbv)
              have hLv := Lib.hid (hL.out.below hbv)
              have hNv := Lib.hid (hN.out.below hbv)
              have hBv := Lib.hid (hB.out.trans (hbv.mono hK.out.le))
              have mL := (hbv.cell (p := ⟨gl0, k, none⟩) hgl).trans mL
              have mN := (hbv.cell (p := ⟨gn0, k, none⟩) hgn).trans mN
              have mT := (hbv.cell (p := ⟨gt_, ot + k, none⟩) hgt).trans mT
              have c7 := (HBX.out vv hBv.out).c7
              have hblv := (HBX.out vv hBv.out).lt
              clear hbv
              go_wp2_with fail
              go_roundg (ne - k - 1)
              case measure => have := Hk.out; omega
              case rel => exact ⟨k + 1, by have := Hk.out; omega, by go_num, hFv.out, hLv.out, hNv.out, hKv.out, hBv.out⟩
            have hmv := Lib.hid (way_moves (p := p) (f := f0) (l := then_) (j := (jj : Int)) (k := k) HSl.out HF0.out ht hca hne_ (by omega))
            rw [hWk.out k (by omega), hmv.out] at mN
            by_cases hje : (jj : Int) = p.throw
            · rw [if_pos hje] at mN
              have qj : ((jj : Int) == p.throw) = true := by simpa using hje
              have ql : (t != posPt (f0.pt k)) = true := by rw [bne_iff_ne]; exact fun e => hne_ e.symm
              clear hje ht hca hne_ hk2
              go_wp2_with fail
              have mLq := fun d os => cell_regrown mL d os
              have mTq := fun d os => cell_regrown mT d os
              have cq0 : ∀ d os, Calls Try.prog 15 #[.pointer (some ⟨nb, 0, none⟩), .int .i64 (k : Int)] (grow (redrawn wr d) os) fun e w'' => e = .returned (.int .i64 (p.kind (k : Int))) ∧ ∃ rg : Regrown, w'' = grow (redrawn wr rg.d) rg.os := fun d os => Calls.regrown_of (nkind_any _ nb p ((hK.out.calm (below_regrown _ d os)).now) (k : Int))
              refine wp_region_quiet_below (by kernel_rfl) (by kernel_rfl) ?_
              repeat (go_big_quiet_step (first | with_reducible exact cq0 _ _))
              refine wpQuiet_nil ?_
              intro vv hw'
              have hbv : Below wr.heap.size wr vv := by obtain ⟨⟨d, os⟩, rfl⟩ := hw'; exact below_regrown _ d os
              clear hw' mLq mTq cq0
              have hKv := Lib.hid (hK.out.calm hbv)
              have hFv := Lib.hid (hF.out.below hbv)
              have hLv := Lib.hid (hL.out.below hbv)
              have hNv := Lib.hid (hN.out.below hbv)
              have hBv := Lib.hid (hB.out.trans (hbv.mono hK.out.le))
              have mL := (hbv.cell (p := ⟨gl0, k, none⟩) hgl).trans mL
              have mN := (hbv.cell (p := ⟨gn0, k, none⟩) hgn).trans mN
              have mT := (hbv.cell (p := ⟨gt_, ot + k, none⟩) hgt).trans mT
              have c7 := (HBX.out vv hBv.out).c7
              have hblv := (HBX.out vv hBv.out).lt
              clear hbv
              go_wp2_with fail
              go_roundg (ne - k - 1)
              case measure => have := Hk.out; omega
              case rel => exact ⟨k + 1, by have := Hk.out; omega, by go_num, hFv.out, hLv.out, hNv.out, hKv.out, hBv.out⟩
            · rw [if_neg hje] at mN
              have qj : ((jj : Int) == p.throw) = false := by simpa using hje
              have ql : (t != posPt (f0.pt k)) = true := by rw [bne_iff_ne]; exact fun e => hne_ e.symm
              clear hje ht hca hne_ hk2
              go_wp2_with fail
              have mLq := fun d os => cell_regrown mL d os
              have mTq := fun d os => cell_regrown mT d os
              have cq0 : ∀ d os, Calls Try.prog 15 #[.pointer (some ⟨nb, 0, none⟩), .int .i64 (k : Int)] (grow (redrawn wr d) os) fun e w'' => e = .returned (.int .i64 (p.kind (k : Int))) ∧ ∃ rg : Regrown, w'' = grow (redrawn wr rg.d) rg.os := fun d os => Calls.regrown_of (nkind_any _ nb p ((hK.out.calm (below_regrown _ d os)).now) (k : Int))
              refine wp_region_quiet_below (by kernel_rfl) (by kernel_rfl) ?_
              repeat (go_big_quiet_step (first | with_reducible exact cq0 _ _))
              refine wpQuiet_nil ?_
              intro vv hw'
              have hbv : Below wr.heap.size wr vv := by obtain ⟨⟨d, os⟩, rfl⟩ := hw'; exact below_regrown _ d os
              clear hw' mLq mTq cq0
              have hKv := Lib.hid (hK.out.calm hbv)
              have hFv := Lib.hid (hF.out.below hbv)
              have hLv := Lib.hid (hL.out.below hbv)
              have hNv := Lib.hid (hN.out.below hbv)
              have hBv := Lib.hid (hB.out.trans (hbv.mono hK.out.le))
              have mL := (hbv.cell (p := ⟨gl0, k, none⟩) hgl).trans mL
              have mN := (hbv.cell (p := ⟨gn0, k, none⟩) hgn).trans mN
              have mT := (hbv.cell (p := ⟨gt_, ot + k, none⟩) hgt).trans mT
              have c7 := (HBX.out vv hBv.out).c7
              have hblv := (HBX.out vv hBv.out).lt
              clear hbv
              go_wp2_with fail
              go_roundg (ne - k - 1)
              case measure => have := Hk.out; omega
              case rel => exact ⟨k + 1, by have := Hk.out; omega, by go_num, hFv.out, hLv.out, hNv.out, hKv.out, hBv.out⟩
          have q2 : (t == 2) = false := by simp [t2]
          have hst := Lib.hid (way_still (p := p) (f := f0) (l := then_) (j := (jj : Int)) (k := k) HSl.out HF0.out (fun t3 ht3 hc => by rw [ht] at ht3; cases ht3; have := hc.1; unfold calls at this; simp [t1, t2] at this))
          rw [hWk.out k (by omega), hst.out] at mN
          clear hk2 ht t1 t2
          go_wp2_with fail
          have mLq := fun d os => cell_regrown mL d os
          have mTq := fun d os => cell_regrown mT d os
          have cq0 : ∀ d os, Calls Try.prog 15 #[.pointer (some ⟨nb, 0, none⟩), .int .i64 (k : Int)] (grow (redrawn wr d) os) fun e w'' => e = .returned (.int .i64 (p.kind (k : Int))) ∧ ∃ rg : Regrown, w'' = grow (redrawn wr rg.d) rg.os := fun d os => Calls.regrown_of (nkind_any _ nb p ((hK.out.calm (below_regrown _ d os)).now) (k : Int))
          refine wp_region_quiet_below (by kernel_rfl) (by kernel_rfl) ?_
          repeat (go_big_quiet_step (first | with_reducible exact cq0 _ _))
          refine wpQuiet_nil ?_
          intro vv hw'
          have hbv : Below wr.heap.size wr vv := by obtain ⟨⟨d, os⟩, rfl⟩ := hw'; exact below_regrown _ d os
          clear hw' mLq mTq cq0
          have hKv := Lib.hid (hK.out.calm hbv)
          have hFv := Lib.hid (hF.out.below hbv)
          have hLv := Lib.hid (hL.out.below hbv)
          have hNv := Lib.hid (hN.out.below hbv)
          have hBv := Lib.hid (hB.out.trans (hbv.mono hK.out.le))
          have mL := (hbv.cell (p := ⟨gl0, k, none⟩) hgl).trans mL
          have mN := (hbv.cell (p := ⟨gn0, k, none⟩) hgn).trans mN
          have mT := (hbv.cell (p := ⟨gt_, ot + k, none⟩) hgt).trans mT
          have c7 := (HBX.out vv hBv.out).c7
          have hblv := (HBX.out vv hBv.out).lt
          clear hbv
          go_wp2_with fail
          go_roundg (ne - k - 1)
          case measure => have := Hk.out; omega
          case rel => exact ⟨k + 1, by have := Hk.out; omega, by go_num, hFv.out, hLv.out, hNv.out, hKv.out, hBv.out⟩
set_option maxRecDepth 100000 in
theorem fieldThrows_lifted (os : Os) (started : os.Started) (H : Type) (enc : TypeId × Value → H) :
    ReturnsInHanded {} Try.checked os 3 .any (Rows.fieldThrowsSpec.pre6 enc Try.prog Try.f3 Rows.fieldThrowsRow.domain false) (Rows.fieldThrowsSpec.post enc Try.prog Try.f3 false true false false) := by
  refine returnsInHanded_of_change (C := Try.checked) own started (by kernel_rfl) Try.func3
    (ChangeSpec.witness6 (enc := enc) (C := Try.checked) false ⟨#[], #[.agg #[.slice none 0 0, .slice none 0 0, .slice none 0 0, .slice none 0 0, .int .i64 0, .int .i64 0, .int .i64 0, .int .i64 0, .bool false], .slice none 0 0, .slice none 0 0], []⟩ 8 (by kernel_rfl) (by kernel_rfl) (by kernel_rfl) (by kernel_rfl)) ?_
  intro W base args ds gs before hval0 hW hcnd _
  have hval : ∀ (j : Nat) t v, Try.f3.params[j]? = some t → args[j]? = some v → Value.okWide Try.prog W .any base t v := hval0
  have hW' := hW
  obtain ⟨p, q, hA0, hV, rfl, hfz, hnd⟩ := hW
  have hA : DataW.TrodAll enc Try.prog W 0 (fun _ => true) true Try.f3.params.toList args.toList ds p := hA0
  rw [Try.params3] at hA hval
  obtain ⟨v0, vs0, d0, ds0, p0, q0, hargs, rfl, rfl, k0, r0⟩ := trodAll_cons hA
  obtain ⟨v1, vs1, d1, ds1, p1, q1, rfl, rfl, rfl, k1, r1⟩ := trodAll_cons r0
  obtain ⟨v2, vs2, d2, ds2, p2, q2, rfl, rfl, rfl, k2, r2⟩ := trodAll_cons r1
  obtain ⟨rfl, rfl, rfl⟩ := trodAll_nil r2
  obtain rfl : args = #[v0, v1, v2] := by cases args; simp_all
  obtain ⟨rfl, rfl⟩ := trodVars_none hV
  have lt0 : ∀ x ∈ p0, x.block < W.heap.size := by obtain ⟨m, hm⟩ := k0; exact DataW.trod_lt m _ _ _ hm
  have hv0 := hval 0 27 v0 rfl rfl
  have lt1 : ∀ x ∈ p1, x.block < W.heap.size := by obtain ⟨m, hm⟩ := k1; exact DataW.trod_lt m _ _ _ hm
  have hv1 := hval 1 28 v1 rfl rfl
  have lt2 : ∀ x ∈ p2, x.block < W.heap.size := by obtain ⟨m, hm⟩ := k2; exact DataW.trod_lt m _ _ _ hm
  have hv2 := hval 2 28 v2 rfl rfl
  have fin : Calls Try.prog 3 #[v0, v1, v2] W (fun e W' => e = .returned (.bool true) ∧ Below W.heap.size W W') := by
    obtain ⟨pv, p, rfl, hp⟩ := open_plan hv0 k0
    obtain ⟨a1, n1, c1, xs1, rfl, h1, _, _, _⟩ := open_Ints hv1 k1
    obtain ⟨a2, n2, c2, xs2, rfl, h2, _, _, _⟩ := open_Ints hv2 k2
    exact lawThrows_any W pv p a1 n1 c1 xs1 a2 n2 c2 xs2 hp h1 h2
  clear hA0 hval0
  refine fin.mono fun e W' ⟨he, bel⟩ => ?_
  subst he
  exact ⟨_, rfl, _, _, _, [], _, [], hW', trodAll_mk1 (shut_bool Try.underlying4 _), (trodAll_cons_mk (Below.trod laidOut (by kernel_rfl) (of_decide_eq_true (by kernel_rfl)) k0 bel lt0) (trodAll_cons_mk (Below.trod laidOut (by kernel_rfl) (of_decide_eq_true (by kernel_rfl)) k1 bel lt1) (trodAll_cons_mk (Below.trod laidOut (by kernel_rfl) (of_decide_eq_true (by kernel_rfl)) k2 bel lt2) trodAll_mk0))), rfl, bel.frame _, fun h => by cases h⟩

/-- THE STATEMENT -/
theorem fieldThrows_holds : Rows.FieldThrowsSaid :=
  OpenClaim.holds_of_wide 3 Try.f3 rfl rfl rfl rfl rfl rfl rfl ⟨rfl, rfl, rfl, rfl, rfl⟩ rfl rfl rfl rfl rfl (by kernel_rfl) Try.func3 (by kernel_rfl)
    (of_decide_eq_true (by kernel_rfl)) (by unfold Func.isWrapper; first | (rw [if_pos (by decide +kernel)]; kernel_rfl) | (rw [if_neg (by decide +kernel)]; exact ⟨rfl, rfl⟩))
    (fun os started H enc _ => fieldThrows_lifted os started H enc)
end Go.Proofs.Ytlgekkffekagbaa
