/- Walk of semaphoreref6.signals. No condition beyond the plan that is read. -/
import Derived.Test.YtcaeglnfflkabaaGreatRefC4
set_option maxRecDepth 1000000
namespace Go.Proofs.YtcaeglnfflkabaaGreat
open Go.RowKit Go.Sort Go.ChangeShapes Go.WideShapes

theorem PortBox.alloc {w : World} {b : Nat} {x : Port} (h : PortBox w b x) (o : Obj) : PortBox (w.alloc o) b x := h.below (below_new w o)
theorem refsig_no {p : Plan} {i : Nat} {s : Sig} {r : List Sig} {q : Bool} (hr : refSigGo p i (s :: r) = q) (h : sigOk p s.at_ = false ∨ reads p s.at_ ≠ i) : q = false := by
 rw [← hr, refSigGo]; rcases h with h | h <;> simp [h]
theorem refsig_yes {p : Plan} {i : Nat} {s : Sig} {r : List Sig} {q : Bool} (hr : refSigGo p i (s :: r) = q) (h : sigOk p s.at_ = true) (h2 : reads p s.at_ = i) : refSigGo p (i + 1) r = q := by
 rw [← hr, refSigGo]; simp [h, h2]
theorem refsigs_no {p : Plan} (h : refSigGo p 0 p.sigs = false) : signalsOk p = false := by rw [← refSignals_eq]; unfold refSignals; rw [h]; rfl

set_option maxHeartbeats 4000000 in
theorem refsignals_any (w : World) (pv : PV) (p : Plan) (h : PlanAt w pv p) :
  Calls Tryz.prog 66 #[pv.val p] w fun e w' => e = .returned (.bool (signalsOk p)) ∧ Below w.heap.size w w' := by
 obtain ⟨ae, ne, ce, aj, nj, cj, as_, ns, cs, al, nl, cl, lv⟩ := pv
 have hP := Lib.hid h
 have he : Elems w ae ne p.elems := h.e
 have hsg : Sigs w as_ ns p.sigs := h.s
 have le := Lib.hid he.len
 have ls := Lib.hid hsg.len
 have be := he.bnd
 have bs := hsg.bnd
 have HB := Lib.hid (pbox_new w ⟨ae, ne, ce, aj, nj, cj, as_, ns, cs, al, nl, cl, lv⟩ p)
 clear h
 dsimp only [PV.val]
 go_enter Tryz.func66, Tryz.ntmps66
 go_wp2_with fail
 go_loopg [3] ns (fun k i wr => ∃ (j : Nat), j + k = ns ∧ i = .int .i64 j ∧ Hid (refSigGo p j (p.sigs.drop j) = refSigGo p 0 p.sigs) ∧ PBox wr w.heap.size ⟨ae, ne, ce, aj, nj, cj, as_, ns, cs, al, nl, cl, lv⟩ p ∧ Below w.heap.size w wr)
 case atStart => exact ⟨0, by omega, rfl, rfl, HB.out, below_new _ _⟩
 case round =>
  clear HB
  obtain ⟨j, hk, rfl, hr, hB, hb⟩ := hrel
  have Hk := Lib.hid hk; clear hk
  have HBr := Lib.hid hB; clear hB
  by_cases hlt : j < ns
  ·obtain ⟨y, hy⟩ := get_some ls.out hlt
   obtain ⟨pb, off, rfl, hpb, g1, g2, g3, g4⟩ := hsg.sigB hb hy
   have Hd := Lib.hid (drop_cons hy)
   clear hy
   have Hbr := Lib.hid hb; clear hb
   obtain ⟨x, hx⟩ : ∃ x, y.at_ = x := ⟨_, rfl⟩
   rw [hx] at g2 g3
   have Hx := Lib.hid hx; clear hx
   have HBa := Lib.hid (HBr.out.alloc (.cells #[.int .i64 x.e, .int .i64 x.n] 43))
   have HXa := Lib.hid (PortBox.new wr rfl x 43)
   have Hba := Lib.hid (Hbr.out.alloc Hbr.out.size (.cells #[.int .i64 x.e, .int .i64 x.n] 43))
   obtain ⟨_, c0, c1, c2, c3, c4, c5, c6, c7, c8⟩ := HBr.out
   dsimp only at c0 c1 c2 c3
   have C1 := Lib.hid (kindU_l (i := x.e) (hP.out.below Hba.out))
   cases hp : isPort p x
   ·have Hq := Lib.hid (refsigs_no (refsig_no (Hd.out ▸ hr.out) (.inl (by rw [Hx.out]; unfold sigOk; rw [hp]; rfl))))
    go_wp2_with fail
    clear c0 c1 c2 c3 c4 c5 c6 c7 c8
    obtain ⟨_, c0, c1, c2, c3, c4, c5, c6, c7, c8⟩ := HBa.out
    dsimp only at c0 c1 c2 c3
    obtain ⟨_, x0, x1, _⟩ := HXa.out
    go_wp2_with fail
    refine (C1.out).mono ?_
    rintro e w1 ⟨rfl, hbx⟩
    have HB1 := Lib.hid (HBa.out.below hbx)
    have HX1 := Lib.hid (HXa.out.below hbx)
    have Hb1 := Lib.hid (below_step Hba.out hbx Hba.out.size)
    clear hbx c0 c1 c2 c3 c4 c5 c6 c7 c8 x0 x1
    obtain ⟨_, c0, c1, c2, c3, c4, c5, c6, c7, c8⟩ := HB1.out
    dsimp only at c0 c1 c2 c3
    obtain ⟨_, x0, x1, _⟩ := HX1.out
    go_wp2_with fail
    refine (has_l (hP.out.below Hb1.out)).mono ?_
    rintro e w2 ⟨rfl, hbx⟩
    have HB2 := Lib.hid (HB1.out.below hbx)
    have HX2 := Lib.hid (HX1.out.below hbx)
    have Hb2 := Lib.hid (below_step Hb1.out hbx Hb1.out.size)
    clear hbx c0 c1 c2 c3 c4 c5 c6 c7 c8 x0 x1
    obtain ⟨_, c0, c1, c2, c3, c4, c5, c6, c7, c8⟩ := HB2.out
    dsimp only at c0 c1 c2 c3
    obtain ⟨_, x0, x1, _⟩ := HX2.out
    rw [show isPort p ⟨x.e, x.n⟩ = false from hp]
    go_wp2_with fail
    go_ret
    exact ⟨ret_bool Hq.out.symm, Hb2.out⟩
   ·by_cases hk1 : p.kind x.e = 1 ∨ p.kind x.e = 4
    ·have hkt : (decide (p.kind x.e = 1) || decide (p.kind x.e = 4)) = true := by simpa using hk1
     have Hkt := Lib.hid hkt; clear hkt
     rcases hk1 with hk1 | hk1
     ·have q1 : (p.kind x.e != 1) = false := by simp [hk1]
      have Hk1 := Lib.hid hk1; clear hk1
      go_wp2_with fail
      clear c0 c1 c2 c3 c4 c5 c6 c7 c8
      obtain ⟨_, c0, c1, c2, c3, c4, c5, c6, c7, c8⟩ := HBa.out
      dsimp only at c0 c1 c2 c3
      obtain ⟨_, x0, x1, _⟩ := HXa.out
      go_wp2_with fail
      refine (C1.out).mono ?_
      rintro e w1 ⟨rfl, hbx⟩
      have HB1 := Lib.hid (HBa.out.below hbx)
      have HX1 := Lib.hid (HXa.out.below hbx)
      have Hb1 := Lib.hid (below_step Hba.out hbx Hba.out.size)
      clear hbx c0 c1 c2 c3 c4 c5 c6 c7 c8 x0 x1
      obtain ⟨_, c0, c1, c2, c3, c4, c5, c6, c7, c8⟩ := HB1.out
      dsimp only at c0 c1 c2 c3
      obtain ⟨_, x0, x1, _⟩ := HX1.out
      go_wp2_with fail
      refine (has_l (hP.out.below Hb1.out)).mono ?_
      rintro e w2 ⟨rfl, hbx⟩
      have HB2 := Lib.hid (HB1.out.below hbx)
      have HX2 := Lib.hid (HX1.out.below hbx)
      have Hb2 := Lib.hid (below_step Hb1.out hbx Hb1.out.size)
      clear hbx c0 c1 c2 c3 c4 c5 c6 c7 c8 x0 x1
      obtain ⟨_, c0, c1, c2, c3, c4, c5, c6, c7, c8⟩ := HB2.out
      dsimp only at c0 c1 c2 c3
      obtain ⟨_, x0, x1, _⟩ := HX2.out
      rw [show isPort p ⟨x.e, x.n⟩ = true from hp]
      go_wp2_with fail
      refine (refnext_l (hP.out.below Hb2.out)).mono ?_
      rintro e w3 ⟨rfl, hbx⟩
      have HB3 := Lib.hid (HB2.out.below hbx)
      have HX3 := Lib.hid (HX2.out.below hbx)
      have Hb3 := Lib.hid (below_step Hb2.out hbx Hb2.out.size)
      clear hbx c0 c1 c2 c3 c4 c5 c6 c7 c8 x0 x1
      obtain ⟨_, c0, c1, c2, c3, c4, c5, c6, c7, c8⟩ := HB3.out
      dsimp only at c0 c1 c2 c3
      obtain ⟨_, x0, x1, _⟩ := HX3.out
      cases hn : nextOf p ⟨x.e, x.n⟩ with
      | none =>
       have Hq := Lib.hid (refsigs_no (refsig_no (Hd.out ▸ hr.out) (.inl (by rw [Hx.out]; unfold sigOk; rw [show nextOf p x = none from hn]; simp))))
       dsimp only [Option.getD_none, Option.isSome_none, zeroPort]
       go_wp2_with fail
       go_ret
       exact ⟨ret_bool Hq.out.symm, below_step Hb3.out (by repeat (first | with_reducible exact Below.refl _ _ | with_reducible assumption | with_reducible apply below_drewN | with_reducible apply Below.drew | with_reducible refine Below.alloc ?_ (by simp <;> omega) _)) Hb3.out.size⟩
      | some z =>
       dsimp only [Option.getD_some, Option.isSome_some]
       have HB4 := Lib.hid (HB3.out.alloc (.cells #[.int .i64 z.e, .int .i64 z.n] 43))
       have HX4 := Lib.hid (HX3.out.alloc (.cells #[.int .i64 z.e, .int .i64 z.n] 43))
       have Hb4 := Lib.hid (Hb3.out.alloc Hb3.out.size (.cells #[.int .i64 z.e, .int .i64 z.n] 43))
       clear c0 c1 c2 c3 c4 c5 c6 c7 c8 x0 x1
       obtain ⟨_, c0, c1, c2, c3, c4, c5, c6, c7, c8⟩ := HB4.out
       dsimp only at c0 c1 c2 c3
       obtain ⟨_, x0, x1, _⟩ := HX4.out
       go_wp2_with fail
       refine (kindU_l (hP.out.below Hb4.out)).mono ?_
       rintro e w5 ⟨rfl, hbx⟩
       have HB5 := Lib.hid (HB4.out.below hbx)
       have HX5 := Lib.hid (HX4.out.below hbx)
       have Hb5 := Lib.hid (below_step Hb4.out hbx Hb4.out.size)
       clear hbx c0 c1 c2 c3 c4 c5 c6 c7 c8 x0 x1
       obtain ⟨_, c0, c1, c2, c3, c4, c5, c6, c7, c8⟩ := HB5.out
       dsimp only at c0 c1 c2 c3
       obtain ⟨_, x0, x1, _⟩ := HX5.out
       by_cases hz4 : p.kind z.e = 4
       ·have q4 : (p.kind z.e == 4) = true := by simp [hz4]
        have Hq := Lib.hid (refsigs_no (refsig_no (Hd.out ▸ hr.out) (.inl (by rw [Hx.out]; unfold sigOk; rw [show nextOf p x = some z from hn]; simp [hz4]))))
        clear hz4
        go_wp2_with fail
        go_ret
        exact ⟨ret_bool Hq.out.symm, Hb5.out⟩
       ·have q4 : (p.kind z.e == 4) = false := by simp [hz4]
        have Hok := Lib.hid (show sigOk p y.at_ = true by rw [Hx.out]; unfold sigOk; rw [show nextOf p x = some z from hn, hp, Hkt.out]; simp [hz4])
        clear hz4
        go_wp2_with fail
        refine (refreads_l (hP.out.below Hb5.out)).mono ?_
        rintro e w6 ⟨rfl, hbx⟩
        have HB6 := Lib.hid (HB5.out.below hbx)
        have HX6 := Lib.hid (HX5.out.below hbx)
        have Hb6 := Lib.hid (below_step Hb5.out hbx Hb5.out.size)
        clear hbx c0 c1 c2 c3 c4 c5 c6 c7 c8 x0 x1
        obtain ⟨_, c0, c1, c2, c3, c4, c5, c6, c7, c8⟩ := HB6.out
        dsimp only at c0 c1 c2 c3
        obtain ⟨_, x0, x1, _⟩ := HX6.out
        rw [show reads p ⟨x.e, x.n⟩ = reads p x from rfl]
        by_cases hrd : reads p x = (j : Int)
        ·have q5 : (reads p x != (j : Int)) = false := by simp [hrd]
         have Hn := Lib.hid (refsig_yes (Hd.out ▸ hr.out) Hok.out (by rw [Hx.out]; exact hrd))
         clear hrd
         go_wp2_with fail
         go_roundg (gk - 1)
         case measure => have := Hk.out; omega
         case rel => exact ⟨j + 1, by have := Hk.out; omega, by go_num, Hn.out, HB6.out, Hb6.out⟩
        ·have q5 : (reads p x != (j : Int)) = true := by rw [bne_iff_ne]; exact hrd
         have Hq := Lib.hid (refsigs_no (refsig_no (Hd.out ▸ hr.out) (.inr (by rw [Hx.out]; exact hrd))))
         clear hrd
         go_wp2_with fail
         go_ret
         exact ⟨ret_bool Hq.out.symm, Hb6.out⟩
     ·have q1 : (p.kind x.e != 1) = true := by rw [bne_iff_ne]; omega
      have q2 : (p.kind x.e != 4) = false := by simp [hk1]
      have Hk1 := Lib.hid hk1; clear hk1
      go_wp2_with fail
      clear c0 c1 c2 c3 c4 c5 c6 c7 c8
      obtain ⟨_, c0, c1, c2, c3, c4, c5, c6, c7, c8⟩ := HBa.out
      dsimp only at c0 c1 c2 c3
      obtain ⟨_, x0, x1, _⟩ := HXa.out
      go_wp2_with fail
      refine (C1.out).mono ?_
      rintro e w1 ⟨rfl, hbx⟩
      have HB1 := Lib.hid (HBa.out.below hbx)
      have HX1 := Lib.hid (HXa.out.below hbx)
      have Hb1 := Lib.hid (below_step Hba.out hbx Hba.out.size)
      clear hbx c0 c1 c2 c3 c4 c5 c6 c7 c8 x0 x1
      obtain ⟨_, c0, c1, c2, c3, c4, c5, c6, c7, c8⟩ := HB1.out
      dsimp only at c0 c1 c2 c3
      obtain ⟨_, x0, x1, _⟩ := HX1.out
      go_wp2_with fail
      refine (has_l (hP.out.below Hb1.out)).mono ?_
      rintro e w2 ⟨rfl, hbx⟩
      have HB2 := Lib.hid (HB1.out.below hbx)
      have HX2 := Lib.hid (HX1.out.below hbx)
      have Hb2 := Lib.hid (below_step Hb1.out hbx Hb1.out.size)
      clear hbx c0 c1 c2 c3 c4 c5 c6 c7 c8 x0 x1
      obtain ⟨_, c0, c1, c2, c3, c4, c5, c6, c7, c8⟩ := HB2.out
      dsimp only at c0 c1 c2 c3
      obtain ⟨_, x0, x1, _⟩ := HX2.out
      rw [show isPort p ⟨x.e, x.n⟩ = true from hp]
      go_wp2_with fail
      refine (refnext_l (hP.out.below Hb2.out)).mono ?_
      rintro e w3 ⟨rfl, hbx⟩
      have HB3 := Lib.hid (HB2.out.below hbx)
      have HX3 := Lib.hid (HX2.out.below hbx)
      have Hb3 := Lib.hid (below_step Hb2.out hbx Hb2.out.size)
      clear hbx c0 c1 c2 c3 c4 c5 c6 c7 c8 x0 x1
      obtain ⟨_, c0, c1, c2, c3, c4, c5, c6, c7, c8⟩ := HB3.out
      dsimp only at c0 c1 c2 c3
      obtain ⟨_, x0, x1, _⟩ := HX3.out
      cases hn : nextOf p ⟨x.e, x.n⟩ with
      | none =>
       have Hq := Lib.hid (refsigs_no (refsig_no (Hd.out ▸ hr.out) (.inl (by rw [Hx.out]; unfold sigOk; rw [show nextOf p x = none from hn]; simp))))
       dsimp only [Option.getD_none, Option.isSome_none, zeroPort]
       go_wp2_with fail
       go_ret
       exact ⟨ret_bool Hq.out.symm, below_step Hb3.out (by repeat (first | with_reducible exact Below.refl _ _ | with_reducible assumption | with_reducible apply below_drewN | with_reducible apply Below.drew | with_reducible refine Below.alloc ?_ (by simp <;> omega) _)) Hb3.out.size⟩
      | some z =>
       dsimp only [Option.getD_some, Option.isSome_some]
       have HB4 := Lib.hid (HB3.out.alloc (.cells #[.int .i64 z.e, .int .i64 z.n] 43))
       have HX4 := Lib.hid (HX3.out.alloc (.cells #[.int .i64 z.e, .int .i64 z.n] 43))
       have Hb4 := Lib.hid (Hb3.out.alloc Hb3.out.size (.cells #[.int .i64 z.e, .int .i64 z.n] 43))
       clear c0 c1 c2 c3 c4 c5 c6 c7 c8 x0 x1
       obtain ⟨_, c0, c1, c2, c3, c4, c5, c6, c7, c8⟩ := HB4.out
       dsimp only at c0 c1 c2 c3
       obtain ⟨_, x0, x1, _⟩ := HX4.out
       go_wp2_with fail
       refine (kindU_l (hP.out.below Hb4.out)).mono ?_
       rintro e w5 ⟨rfl, hbx⟩
       have HB5 := Lib.hid (HB4.out.below hbx)
       have HX5 := Lib.hid (HX4.out.below hbx)
       have Hb5 := Lib.hid (below_step Hb4.out hbx Hb4.out.size)
       clear hbx c0 c1 c2 c3 c4 c5 c6 c7 c8 x0 x1
       obtain ⟨_, c0, c1, c2, c3, c4, c5, c6, c7, c8⟩ := HB5.out
       dsimp only at c0 c1 c2 c3
       obtain ⟨_, x0, x1, _⟩ := HX5.out
       by_cases hz4 : p.kind z.e = 4
       ·have q4 : (p.kind z.e == 4) = true := by simp [hz4]
        have Hq := Lib.hid (refsigs_no (refsig_no (Hd.out ▸ hr.out) (.inl (by rw [Hx.out]; unfold sigOk; rw [show nextOf p x = some z from hn]; simp [hz4]))))
        clear hz4
        go_wp2_with fail
        go_ret
        exact ⟨ret_bool Hq.out.symm, Hb5.out⟩
       ·have q4 : (p.kind z.e == 4) = false := by simp [hz4]
        have Hok := Lib.hid (show sigOk p y.at_ = true by rw [Hx.out]; unfold sigOk; rw [show nextOf p x = some z from hn, hp, Hkt.out]; simp [hz4])
        clear hz4
        go_wp2_with fail
        refine (refreads_l (hP.out.below Hb5.out)).mono ?_
        rintro e w6 ⟨rfl, hbx⟩
        have HB6 := Lib.hid (HB5.out.below hbx)
        have HX6 := Lib.hid (HX5.out.below hbx)
        have Hb6 := Lib.hid (below_step Hb5.out hbx Hb5.out.size)
        clear hbx c0 c1 c2 c3 c4 c5 c6 c7 c8 x0 x1
        obtain ⟨_, c0, c1, c2, c3, c4, c5, c6, c7, c8⟩ := HB6.out
        dsimp only at c0 c1 c2 c3
        obtain ⟨_, x0, x1, _⟩ := HX6.out
        rw [show reads p ⟨x.e, x.n⟩ = reads p x from rfl]
        by_cases hrd : reads p x = (j : Int)
        ·have q5 : (reads p x != (j : Int)) = false := by simp [hrd]
         have Hn := Lib.hid (refsig_yes (Hd.out ▸ hr.out) Hok.out (by rw [Hx.out]; exact hrd))
         clear hrd
         go_wp2_with fail
         go_roundg (gk - 1)
         case measure => have := Hk.out; omega
         case rel => exact ⟨j + 1, by have := Hk.out; omega, by go_num, Hn.out, HB6.out, Hb6.out⟩
        ·have q5 : (reads p x != (j : Int)) = true := by rw [bne_iff_ne]; exact hrd
         have Hq := Lib.hid (refsigs_no (refsig_no (Hd.out ▸ hr.out) (.inr (by rw [Hx.out]; exact hrd))))
         clear hrd
         go_wp2_with fail
         go_ret
         exact ⟨ret_bool Hq.out.symm, Hb6.out⟩
    ·have hkf : (decide (p.kind x.e = 1) || decide (p.kind x.e = 4)) = false := by simpa using hk1
     have Hq := Lib.hid (refsigs_no (refsig_no (Hd.out ▸ hr.out) (.inl (by rw [Hx.out]; unfold sigOk; rw [hkf]; simp))))
     have q1 : (p.kind x.e != 1) = true := by rw [bne_iff_ne]; omega
     have q2 : (p.kind x.e != 4) = true := by rw [bne_iff_ne]; omega
     clear hk1 hkf
     go_wp2_with fail
     clear c0 c1 c2 c3 c4 c5 c6 c7 c8
     obtain ⟨_, c0, c1, c2, c3, c4, c5, c6, c7, c8⟩ := HBa.out
     dsimp only at c0 c1 c2 c3
     obtain ⟨_, x0, x1, _⟩ := HXa.out
     go_wp2_with fail
     refine (C1.out).mono ?_
     rintro e w1 ⟨rfl, hbx⟩
     have HB1 := Lib.hid (HBa.out.below hbx)
     have HX1 := Lib.hid (HXa.out.below hbx)
     have Hb1 := Lib.hid (below_step Hba.out hbx Hba.out.size)
     clear hbx c0 c1 c2 c3 c4 c5 c6 c7 c8 x0 x1
     obtain ⟨_, c0, c1, c2, c3, c4, c5, c6, c7, c8⟩ := HB1.out
     dsimp only at c0 c1 c2 c3
     obtain ⟨_, x0, x1, _⟩ := HX1.out
     go_wp2_with fail
     refine (has_l (hP.out.below Hb1.out)).mono ?_
     rintro e w2 ⟨rfl, hbx⟩
     have HB2 := Lib.hid (HB1.out.below hbx)
     have HX2 := Lib.hid (HX1.out.below hbx)
     have Hb2 := Lib.hid (below_step Hb1.out hbx Hb1.out.size)
     clear hbx c0 c1 c2 c3 c4 c5 c6 c7 c8 x0 x1
     obtain ⟨_, c0, c1, c2, c3, c4, c5, c6, c7, c8⟩ := HB2.out
     dsimp only at c0 c1 c2 c3
     obtain ⟨_, x0, x1, _⟩ := HX2.out
     rw [show isPort p ⟨x.e, x.n⟩ = true from hp]
     go_wp2_with fail
     go_ret
     exact ⟨ret_bool Hq.out.symm, Hb2.out⟩
  ·have Hq := Lib.hid (show signalsOk p = refGateGo p 0 p.elems by
    have := hr.out; rw [drop_end ls.out (by omega)] at this
    rw [← refSignals_eq]; unfold refSignals; rw [← this]; rfl)
   clear hr Hk
   obtain ⟨_, c0, c1, c2, c3, c4, c5, c6, c7, c8⟩ := HBr.out
   dsimp only at c0 c1 c2 c3
   go_wp2_with fail
   clear hlt
   go_loopg [8] ne (fun k i wr => ∃ (i0 : Nat), i0 + k = ne ∧ i = .int .i64 i0 ∧ Hid (refGateGo p i0 (p.elems.drop i0) = refGateGo p 0 p.elems) ∧ PBox wr w.heap.size ⟨ae, ne, ce, aj, nj, cj, as_, ns, cs, al, nl, cl, lv⟩ p ∧ Below w.heap.size w wr)
   case atStart => exact ⟨0, by omega, rfl, rfl, HBr.out, hb⟩
   case round =>
    clear HBr hb c0 c1 c2 c3 c4 c5 c6 c7 c8
    obtain ⟨i0, hk, rfl, hr, hB, hb⟩ := hrel
    have Hk := Lib.hid hk; clear hk
    have HBr := Lib.hid hB; clear hB
    obtain ⟨_, c0, c1, c2, c3, c4, c5, c6, c7, c8⟩ := HBr.out
    dsimp only at c0 c1 c2 c3
    by_cases hlt : i0 < ne
    ·obtain ⟨y, hy⟩ := get_some le.out hlt
     obtain ⟨pb, off, rfl, hpb, g1, g2, g3⟩ := he.elemB hb hy
     have Hd := Lib.hid (drop_cons hy)
     clear hy
     have Hbr := Lib.hid hb; clear hb
     by_cases h4 : y.kind = 4
     ·have k4 : (y.kind == 4) = true := by simp [h4]
      cases hr1 : decide (reads p ⟨(i0 : Int), 0⟩ < 0)
      ·have Hn := Lib.hid (show refGateGo p (i0 + 1) (p.elems.drop (i0 + 1)) = refGateGo p 0 p.elems by
        have := hr.out; rw [Hd.out, refGateGo, hr1] at this
        rw [← this]; simp)
       clear h4
       go_wp2_with fail
       refine (refreads_l (hP.out.below Hbr.out)).mono ?_
       rintro e w1 ⟨rfl, hbx⟩
       have HB1 := Lib.hid (HBr.out.below hbx)
       have Hb1 := Lib.hid (below_step Hbr.out hbx Hbr.out.size)
       clear hbx c0 c1 c2 c3 c4 c5 c6 c7 c8
       obtain ⟨_, c0, c1, c2, c3, c4, c5, c6, c7, c8⟩ := HB1.out
       dsimp only at c0 c1 c2 c3
       go_wp2_with fail
       go_roundg (gk - 1)
       case measure => have := Hk.out; omega
       case rel => exact ⟨i0 + 1, by have := Hk.out; omega, by go_num, Hn.out, HB1.out, Hb1.out⟩
      ·have Hn := Lib.hid (show signalsOk p = false by
        have := hr.out; rw [Hd.out, refGateGo, hr1] at this
        rw [Hq.out, ← this]; simp [h4])
       clear h4
       go_wp2_with fail
       refine (refreads_l (hP.out.below Hbr.out)).mono ?_
       rintro e w1 ⟨rfl, hbx⟩
       have HB1 := Lib.hid (HBr.out.below hbx)
       have Hb1 := Lib.hid (below_step Hbr.out hbx Hbr.out.size)
       clear hbx c0 c1 c2 c3 c4 c5 c6 c7 c8
       obtain ⟨_, c0, c1, c2, c3, c4, c5, c6, c7, c8⟩ := HB1.out
       dsimp only at c0 c1 c2 c3
       go_wp2_with fail
       go_ret
       exact ⟨ret_bool Hn.out.symm, Hb1.out⟩
     ·have k4 : (y.kind == 4) = false := by simp [h4]
      have Hn := Lib.hid (show refGateGo p (i0 + 1) (p.elems.drop (i0 + 1)) = refGateGo p 0 p.elems by
       have := hr.out; rw [Hd.out, refGateGo] at this
       rw [← this]; simp [h4])
      clear h4
      go_wp2_with fail
      go_roundg (gk - 1)
      case measure => have := Hk.out; omega
      case rel => exact ⟨i0 + 1, by have := Hk.out; omega, by go_num, Hn.out, HBr.out, Hbr.out⟩
    ·have Hn := Lib.hid (show signalsOk p = true by
      have := hr.out; rw [drop_end le.out (by omega)] at this
      rw [Hq.out, ← this]; rfl)
     go_wp2_with fail
     go_ret
     exact ⟨ret_bool Hn.out.symm, hb⟩
end Go.Proofs.YtcaeglnfflkabaaGreat
