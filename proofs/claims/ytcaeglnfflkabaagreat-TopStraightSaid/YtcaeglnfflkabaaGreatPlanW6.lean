/- Walks of plan.long and plan.signals. No condition beyond the plan that is read and what the earlier checks have shown of it. -/
import Derived.Test.YtcaeglnfflkabaaGreatPlanW5
set_option maxRecDepth 1000000
namespace Go.Proofs.YtcaeglnfflkabaaGreat
open Go.RowKit

theorem stop_bd {v b : Int} : 0 ≤ stop v b ∧ stop v b ≤ 3660 := by
 by_cases h : v < 0 ∨ 60 < v ∨ b < 1 ∨ 10 < b
 ·rw [stop_no h]; omega
 ·rw [stop_yes h]
  have := stopSum_le b (by omega) 61 (v - b) (by omega)
  omega
def sigLong (p : Plan) (s : Sig) : Bool := !(decide (p.kind s.at_.e = 1) && decide (p.length s.at_.e < p.margin))
def elemLong (p : Plan) (e : Elem) : Bool := !(decide (e.kind ≠ 4) && decide (e.len < p.top))
theorem long_eq (p : Plan) : longOk p = (decide (p.top + stop p.top p.brake ≤ p.margin) && (p.sigs.all (sigLong p) && p.elems.all (elemLong p))) := rfl
theorem sigLong_no {p : Plan} {s : Sig} {z : Elem} (hz : p.elem s.at_.e = z) (h1 : z.kind = 1) (h2 : z.len < p.margin) : sigLong p s = false := by
 unfold sigLong Plan.kind Plan.length; rw [hz]; simp [h1, h2]
theorem sigLong_yes {p : Plan} {s : Sig} {z : Elem} (hz : p.elem s.at_.e = z) (h : z.kind ≠ 1 ∨ ¬ z.len < p.margin) : sigLong p s = true := by
 unfold sigLong Plan.kind Plan.length; rw [hz]; rcases h with h | h <;> simp [h]
theorem elemLong_no {p : Plan} {e : Elem} (h1 : e.kind ≠ 4) (h2 : e.len < p.top) : elemLong p e = false := by unfold elemLong; simp [h1, h2]
theorem elemLong_yes {p : Plan} {e : Elem} (h : e.kind = 4 ∨ ¬ e.len < p.top) : elemLong p e = true := by unfold elemLong; rcases h with h | h <;> simp [h]

set_option maxHeartbeats 2000000 in
theorem long_any (w : World) (pv : PV) (p : Plan) (h : PlanAt w pv p) (hn : numsOk p = true) (hs : ∀ s ∈ p.sigs, isPort p s.at_ = true) :
  Calls Tryz.prog 54 #[pv.val p] w fun e w' => e = .returned (.bool (longOk p)) ∧ Below w.heap.size w w' := by
 obtain ⟨ae, ne, ce, aj, nj, cj, as_, ns, cs, al, nl, cl, lv⟩ := pv
 have he : Elems w ae ne p.elems := h.e
 have hsg : Sigs w as_ ns p.sigs := h.s
 have le := Lib.hid he.len
 have ls := Lib.hid hsg.len
 have be := he.bnd
 have bs := hsg.bnd
 have Hports := Lib.hid hs; clear hs
 obtain ⟨n1, n2, n3, n4, n5, n6, n7, n8, n9⟩ := (nums_iff le.out).1 hn
 clear hn n9
 obtain ⟨s1, s2⟩ := stop_bd (v := p.top) (b := p.brake)
 have HB := Lib.hid (pbox_new w ⟨ae, ne, ce, aj, nj, cj, as_, ns, cs, al, nl, cl, lv⟩ p)
 clear h
 dsimp only [PV.val]
 by_cases hm : p.margin < p.top + stop p.top p.brake
 ·have Hq := Lib.hid (show longOk p = false by rw [long_eq, show decide (p.top + stop p.top p.brake ≤ p.margin) = false by simp; omega]; rfl)
  go_enter Tryz.func54, Tryz.ntmps54
  go_wp2_with fail
  have hwr : IntKind.i64.wrap (p.top + stop p.top p.brake) = p.top + stop p.top p.brake := IntWalk.i64_in _ (by omega)
  go_quiet ((go_at_call 114; refine Calls.quiet_of_same ((stop_any _ _ _).mono fun e w' ⟨h1, h2⟩ => ⟨h1, h2.symm⟩)))
  go_wp2_with fail
  go_ret
  exact ⟨ret_bool Hq.out.symm, below_drewN (below_new _ _) _⟩
 ·have Hq := Lib.hid (show longOk p = (p.sigs.all (sigLong p) && p.elems.all (elemLong p)) by rw [long_eq, show decide (p.top + stop p.top p.brake ≤ p.margin) = true by simp; omega]; rfl)
  go_enter Tryz.func54, Tryz.ntmps54
  go_wp2_with fail
  have hwr : IntKind.i64.wrap (p.top + stop p.top p.brake) = p.top + stop p.top p.brake := IntWalk.i64_in _ (by omega)
  go_quiet ((go_at_call 114; refine Calls.quiet_of_same ((stop_any _ _ _).mono fun e w' ⟨h1, h2⟩ => ⟨h1, h2.symm⟩)))
  clear hwr
  go_wp2_with fail
  clear hm s1 s2 n3 n4
  go_loopg [22] ns (fun k i wr => ∃ (j : Nat), j + k = ns ∧ i = .int .i64 j ∧ Hid ((p.sigs.drop j).all (sigLong p) = p.sigs.all (sigLong p)) ∧ PBox wr w.heap.size ⟨ae, ne, ce, aj, nj, cj, as_, ns, cs, al, nl, cl, lv⟩ p ∧ Below w.heap.size w wr)
  case atStart => exact ⟨0, by omega, rfl, rfl, HB.out.drewN _, below_drewN (below_new _ _) _⟩
  case round =>
   clear HB
   obtain ⟨j, hk, rfl, hr, hB, hb⟩ := hrel
   have Hk := Lib.hid hk; clear hk
   have HB := Lib.hid hB
   obtain ⟨hbl, c0, _, _, _, c4, _, c6, _⟩ := hB
   dsimp only at c0
   by_cases hlt : j < ns
   ·obtain ⟨y, hy⟩ := get_some ls.out hlt
    obtain ⟨pb, off, rfl, hpb, g1, g2, g3, g4⟩ := hsg.sigB hb hy
    have Hd := Lib.hid (drop_cons hy)
    have hp := isPort_iff.1 (Hports.out y (List.mem_of_getElem? hy))
    rw [le.out] at hp
    obtain ⟨x1, x2, _, _⟩ := hp
    clear hy
    obtain ⟨pb', off', z, rfl, hpb', hz, e1, e2, e3⟩ := (he.below hb).elemI x1 x2
    have Hz := Lib.hid (elem_get x1 hz)
    clear hz
    have Hb := Lib.hid hb; clear hb
    by_cases hk1 : z.kind = 1
    ·have q1 : (z.kind == 1) = true := by simp [hk1]
     by_cases hk2 : z.len < p.margin
     ·have Ho := Lib.hid (sigLong_no Hz.out hk1 hk2)
      clear hk1
      go_wp2_with fail
      go_ret
      exact ⟨ret_bool (by rw [Hq.out, all_stop Hd.out hr.out Ho.out]; rfl), below_step Hb.out (by repeat (first | with_reducible exact Below.refl _ _ | with_reducible assumption | with_reducible apply below_drewN | with_reducible apply Below.drew | with_reducible refine Below.alloc ?_ (by simp <;> omega) _)) Hb.out.size⟩
     ·have Ho := Lib.hid (sigLong_yes Hz.out (.inr hk2))
      clear hk1
      go_wp2_with fail
      go_roundg (gk - 1)
      case measure => have := Hk.out; omega
      case rel => exact ⟨j + 1, by have := Hk.out; omega, by go_num, all_step Hd.out hr.out Ho.out, HB.out.below (by repeat (first | with_reducible exact Below.refl _ _ | with_reducible assumption | with_reducible apply below_drewN | with_reducible apply Below.drew | with_reducible refine Below.alloc ?_ (by simp <;> omega) _)), below_step Hb.out (by repeat (first | with_reducible exact Below.refl _ _ | with_reducible assumption | with_reducible apply below_drewN | with_reducible apply Below.drew | with_reducible refine Below.alloc ?_ (by simp <;> omega) _)) Hb.out.size⟩
    ·have q1 : (z.kind == 1) = false := by simp [hk1]
     have Ho := Lib.hid (sigLong_yes Hz.out (.inl hk1))
     clear hk1
     go_wp2_with fail
     go_roundg (gk - 1)
     case measure => have := Hk.out; omega
     case rel => exact ⟨j + 1, by have := Hk.out; omega, by go_num, all_step Hd.out hr.out Ho.out, HB.out.below (by repeat (first | with_reducible exact Below.refl _ _ | with_reducible assumption | with_reducible apply below_drewN | with_reducible apply Below.drew | with_reducible refine Below.alloc ?_ (by simp <;> omega) _)), below_step Hb.out (by repeat (first | with_reducible exact Below.refl _ _ | with_reducible assumption | with_reducible apply below_drewN | with_reducible apply Below.drew | with_reducible refine Below.alloc ?_ (by simp <;> omega) _)) Hb.out.size⟩
   ·have Hq2 := Lib.hid (show longOk p = p.elems.all (elemLong p) by rw [Hq.out, all_end ls.out hr.out hlt]; rfl)
    clear hr
    go_wp2_with fail
    go_loopg [47] ne (fun k i wr => ∃ (j : Nat), j + k = ne ∧ i = .int .i64 j ∧ Hid ((p.elems.drop j).all (elemLong p) = p.elems.all (elemLong p)) ∧ PBox wr w.heap.size ⟨ae, ne, ce, aj, nj, cj, as_, ns, cs, al, nl, cl, lv⟩ p ∧ Below w.heap.size w wr)
    case atStart => exact ⟨0, by omega, rfl, rfl, HB.out, hb⟩
    case round =>
     clear HB hb hlt hbl c0 c4 c6
     obtain ⟨j, hk, rfl, hr, hB, hb⟩ := hrel
     have Hk := Lib.hid hk; clear hk
     have HB := Lib.hid hB
     obtain ⟨hbl, c0, _, _, _, c4, _, c6, _⟩ := hB
     dsimp only at c0
     by_cases hlt : j < ne
     ·obtain ⟨y, hy⟩ := get_some le.out hlt
      obtain ⟨pb, off, rfl, hpb, g1, g2, g3⟩ := he.elemB hb hy
      have Hd := Lib.hid (drop_cons hy)
      clear hy
      have Hb := Lib.hid hb; clear hb
      by_cases hk1 : y.kind = 4
      ·have q1 : (y.kind != 4) = false := by simp [hk1]
       have Ho := Lib.hid (elemLong_yes (p := p) (.inl hk1))
       clear hk1
       go_wp2_with fail
       go_roundg (gk - 1)
       case measure => have := Hk.out; omega
       case rel => exact ⟨j + 1, by have := Hk.out; omega, by go_num, all_step Hd.out hr.out Ho.out, HB.out.below (by repeat (first | with_reducible exact Below.refl _ _ | with_reducible assumption | with_reducible apply below_drewN | with_reducible apply Below.drew | with_reducible refine Below.alloc ?_ (by simp <;> omega) _)), below_step Hb.out (by repeat (first | with_reducible exact Below.refl _ _ | with_reducible assumption | with_reducible apply below_drewN | with_reducible apply Below.drew | with_reducible refine Below.alloc ?_ (by simp <;> omega) _)) Hb.out.size⟩
      ·have q1 : (y.kind != 4) = true := by simp [hk1]
       by_cases hk2 : y.len < p.top
       ·have Ho := Lib.hid (elemLong_no hk1 hk2)
        clear hk1
        go_wp2_with fail
        go_ret
        exact ⟨ret_bool (by rw [Hq2.out, all_stop Hd.out hr.out Ho.out]), below_step Hb.out (by repeat (first | with_reducible exact Below.refl _ _ | with_reducible assumption | with_reducible apply below_drewN | with_reducible apply Below.drew | with_reducible refine Below.alloc ?_ (by simp <;> omega) _)) Hb.out.size⟩
       ·have Ho := Lib.hid (elemLong_yes (.inr hk2))
        clear hk1
        go_wp2_with fail
        go_roundg (gk - 1)
        case measure => have := Hk.out; omega
        case rel => exact ⟨j + 1, by have := Hk.out; omega, by go_num, all_step Hd.out hr.out Ho.out, HB.out.below (by repeat (first | with_reducible exact Below.refl _ _ | with_reducible assumption | with_reducible apply below_drewN | with_reducible apply Below.drew | with_reducible refine Below.alloc ?_ (by simp <;> omega) _)), below_step Hb.out (by repeat (first | with_reducible exact Below.refl _ _ | with_reducible assumption | with_reducible apply below_drewN | with_reducible apply Below.drew | with_reducible refine Below.alloc ?_ (by simp <;> omega) _)) Hb.out.size⟩
     ·have Hq3 := Lib.hid (show longOk p = true by rw [Hq2.out, all_end le.out hr.out hlt])
      clear hr
      go_wp2_with fail
      go_ret
      exact ⟨ret_bool Hq3.out.symm, hb⟩
end Go.Proofs.YtcaeglnfflkabaaGreat

/- Walk of plan.signals. No condition beyond the plan that is read, the map of its joins, and what the earlier checks have shown of it. -/
set_option maxRecDepth 1000000
namespace Go.Proofs.YtcaeglnfflkabaaGreat
open Go.RowKit

/-- the map of the joins that plan.joined makes -/
abbrev NextAt (w : World) (b : Nat) (p : Plan) : Prop := MapOf portCode Port.val w 43 b 2000 (nextOf p)
theorem sig_no {p : Plan} {met : List Port} {s : Sig} {r : List Sig} {q : Bool} (hr : sigGo p met (s :: r) = q) (h : s.at_ ∈ met ∨ sigOk p s.at_ = false) : q = false := by
 rw [← hr, sigGo]; rcases h with h | h <;> simp [h]
theorem sig_yes {p : Plan} {met : List Port} {s : Sig} {r : List Sig} {q : Bool} (hr : sigGo p met (s :: r) = q) (h1 : s.at_ ∉ met) (h2 : sigOk p s.at_ = true) : sigGo p (met ++ [s.at_]) r = q := by
 rw [← hr, sigGo]; simp [h1, h2]
theorem sigs_no {p : Plan} (h : sigGo p [] p.sigs = false) : signalsOk p = false := by unfold signalsOk; rw [h]; rfl
theorem inI_nat {j : Nat} (h : j ≤ 9223372036854775807) : inI (j : Int) := ⟨by omega, by omega⟩
theorem inI_0 : inI 0 := ⟨by omega, by omega⟩
set_option maxHeartbeats 2000000 in
theorem signals_any (w : World) (pv : PV) (p : Plan) (b : Nat) (h : PlanAt w pv p) (hnx : NextAt w b p) (hn : pv.ns ≤ 1000) (hj : joinedOk p = true) :
  Calls Tryz.prog 52 #[pv.val p, .map (some b)] w fun e w' => e = .returned (.bool (signalsOk p)) ∧ Below w.heap.size w w' := by
 have hP := Lib.hid h
 obtain ⟨ae, ne, ce, aj, nj, cj, as_, ns, cs, al, nl, cl, lv⟩ := pv
 have he : Elems w ae ne p.elems := h.e
 have hsg : Sigs w as_ ns p.sigs := h.s
 have hfit := Lib.hid h.fit
 have le := Lib.hid he.len
 have ls := Lib.hid hsg.len
 have be := he.bnd
 have bs := hsg.bnd
 have hn : ns ≤ 1000 := hn
 have Hports := Lib.hid (show ∀ x ∈ flatJoins p.joins, isPort p x = true by unfold joinedOk at hj; simp only [Bool.and_eq_true] at hj; exact (joinGo_ok _ _ hj.1).2.2)
 have hbw := hnx.lt
 have Hnx := Lib.hid hnx; clear hnx hj
 have HB := Lib.hid ((pbox_new w ⟨ae, ne, ce, aj, nj, cj, as_, ns, cs, al, nl, cl, lv⟩ p).alloc (.map #[] 0))
 have Hm := Lib.hid (made_at portCode Value.bool (w.alloc (.cells #[.slice ae ne ce, .slice aj nj cj, .slice as_ ns cs, .slice al nl cl, .int .i64 p.top, .int .i64 p.brake, .int .i64 p.margin, .int .i64 p.throw, .bool p.hard] 27)) 43 (b := w.heap.size + 1) (by simp) (m := seenIn ((p.sigs.take 0).map (·.at_))) (fun _ => rfl))
 have hmm := @run_makeMap Tryz.prog
 clear h
 dsimp only [PV.val]
 go_enter Tryz.func52, Tryz.ntmps52
 go_wp2_with fail
 clear hmm
 go_loopg [17] ns (fun k i wr => ∃ (j : Nat), j + k = ns ∧ i = .int .i64 j ∧ Hid (sigGo p ((p.sigs.take j).map (·.at_)) (p.sigs.drop j) = sigGo p [] p.sigs) ∧ MapOf portCode Value.bool wr 43 (w.heap.size + 1) j (seenIn ((p.sigs.take j).map (·.at_))) ∧ PBox wr w.heap.size ⟨ae, ne, ce, aj, nj, cj, as_, ns, cs, al, nl, cl, lv⟩ p ∧ Below w.heap.size w wr)
 case atStart => exact ⟨0, by omega, rfl, rfl, Hm.out, HB.out, (below_new _ _).alloc (by simp) _⟩
 case round =>
  clear Hm HB
  obtain ⟨j, hk, rfl, hr, hm, hB, hb⟩ := hrel
  have Hk := Lib.hid hk; clear hk
  have HB := Lib.hid hB
  have Hm := Lib.hid hm; clear hm
  have hmlt := Hm.out.lt
  obtain ⟨hbl, c0, c1, c2, c3, c4, c5, c6, c7, c8⟩ := hB
  dsimp only at c0 c1 c2 c3
  by_cases hlt : j < ns
  ·obtain ⟨y, hy⟩ := get_some ls.out hlt
   obtain ⟨pb, off, rfl, hpb, g1, g2, g3, g4⟩ := hsg.sigB hb hy
   have Hy := Lib.hid hy
   have Hd := Lib.hid (drop_cons hy)
   have Hwf := Lib.hid (hfit.out.s y (List.mem_of_getElem? hy)).1
   clear hy
   have Hb := Lib.hid hb; clear hb
   have hwz : w.heap.size ≤ wr.heap.size := Hb.out.size
   have HW := HB.out.alloc (.cells #[.string y.name, .int .i64 y.at_.e, .int .i64 y.at_.n, .bool y.auto] 45)
   obtain ⟨_, d0, d1, d2, d3, d4, d5, d6, d7, d8⟩ := HW
   dsimp only at d0 d1 d2 d3
   cases hp1 : isPort p y.at_
   ·have Hq := Lib.hid (sigs_no (sig_no (Hd.out ▸ hr.out) (.inr (by unfold sigOk; rw [hp1]; rfl))))
    go_wp2_with fail
    refine (port_any _ _ p y.at_ (hP.out.below (below_step Hb.out (by repeat (first | with_reducible exact Below.refl _ _ | with_reducible assumption | with_reducible apply below_drewN | with_reducible apply Below.drew | with_reducible refine Below.alloc ?_ (by simp <;> omega) _)) Hb.out.size))).mono ?_
    rintro e w1 ⟨rfl, hb1⟩
    have hb1' := Lib.hid (below_step (below_step Hb.out (by repeat (first | with_reducible exact Below.refl _ _ | with_reducible assumption | with_reducible apply below_drewN | with_reducible apply Below.drew | with_reducible refine Below.alloc ?_ (by simp <;> omega) _)) Hb.out.size) hb1 (by have := Hb.out.size; simp <;> omega))
    rw [hp1]
    clear hb1
    go_wp2_with fail
    go_ret
    exact ⟨ret_bool Hq.out.symm, hb1'.out⟩
   ·have hpp := isPort_iff.1 hp1
    rw [le.out] at hpp
    obtain ⟨x1, x2, _, _⟩ := hpp
    go_wp2_with fail
    refine (port_any _ _ p y.at_ (hP.out.below (below_step Hb.out (by repeat (first | with_reducible exact Below.refl _ _ | with_reducible assumption | with_reducible apply below_drewN | with_reducible apply Below.drew | with_reducible refine Below.alloc ?_ (by simp <;> omega) _)) Hb.out.size))).mono ?_
    rintro e w1 ⟨rfl, hb1⟩
    rw [hp1]
    have hr1 : Below wr.heap.size wr w1 := below_step (by repeat (first | with_reducible exact Below.refl _ _ | with_reducible assumption | with_reducible apply below_drewN | with_reducible apply Below.drew | with_reducible refine Below.alloc ?_ (by simp <;> omega) _)) hb1 (by simp <;> omega)
    have z1 : wr.heap.size + 1 ≤ w1.heap.size := by have := hb1.size; simpa using this
    have k0 : w1.cell? ⟨wr.heap.size, 0, none⟩ = some (.string y.name) := (hb1.cell (p := ⟨wr.heap.size, 0, none⟩) (by simp)).trans (by go_simp)
    have k1 : w1.cell? ⟨wr.heap.size, 1, none⟩ = some (.int .i64 y.at_.e) := (hb1.cell (p := ⟨wr.heap.size, 1, none⟩) (by simp)).trans (by go_simp)
    have k2 : w1.cell? ⟨wr.heap.size, 2, none⟩ = some (.int .i64 y.at_.n) := (hb1.cell (p := ⟨wr.heap.size, 2, none⟩) (by simp)).trans (by go_simp)
    have HB1 := Lib.hid (HB.out.below hr1)
    have Hm1 := Lib.hid (Hm.out.below hr1 hmlt)
    have hb1' := Lib.hid (below_step Hb.out hr1 Hb.out.size)
    have Hnx1 := Lib.hid (Hnx.out.below hb1'.out hbw)
    have hmlt1 := Hm1.out.lt
    have hnlt1 := Hnx1.out.lt
    obtain ⟨pb', off', z, hae, _, hz, e1, e2, e3⟩ := (he.below hb1'.out).elemI x1 x2
    have Hz := Lib.hid (elem_get x1 hz)
    clear hb1 hz hr1 c0 c1 c2 c3 c4 c5 c6 c7 c8 d0 d1 d2 d3 d4 d5 d6 d7 d8 g1 g2 g3 g4
    subst hae
    obtain ⟨_, c0, _⟩ := HB1.out
    dsimp only at c0
    by_cases hmem : y.at_ ∈ (p.sigs.take j).map (·.at_)
    ·have L1 := Lib.hid (show ∀ w', Below w1.heap.size w1 w' → (Instr.lookup 150 (.map (some (w.heap.size + 1))) (.agg #[.int .i64 y.at_.e, .int .i64 y.at_.n]) false).run Tryz.prog w' = .ok (.bool true) w' from fun w' hb => (Hm1.out.hit (seen_yes hmem) keyed_port Tryz.underlying150 zero_bool (key_port Hwf.out) w' hb).1)
     have l1 := L1.out w1 (Below.refl _ _)
     have Hq := Lib.hid (sigs_no (sig_no (Hd.out ▸ hr.out) (.inl hmem)))
     clear hmem
     go_wp2_with fail
     go_ret
     exact ⟨ret_bool Hq.out.symm, hb1'.out⟩
    ·have L1 := Lib.hid (show ∀ w', Below w1.heap.size w1 w' → (Instr.lookup 150 (.map (some (w.heap.size + 1))) (.agg #[.int .i64 y.at_.e, .int .i64 y.at_.n]) false).run Tryz.prog w' = .ok (.bool false) w' from fun w' hb => (Hm1.out.miss (seen_no hmem) keyed_port Tryz.underlying150 zero_bool (key_port Hwf.out) w' hb).1)
     have l1 := L1.out w1 (Below.refl _ _)
     by_cases hk1 : z.kind = 1 ∨ z.kind = 4
     ·have hkt : (decide (p.kind y.at_.e = 1) || decide (p.kind y.at_.e = 4)) = true := by unfold Plan.kind; rw [Hz.out]; simpa using hk1
      cases hx : nextOf p y.at_ with
      | none =>
       have Hq := Lib.hid (sigs_no (sig_no (Hd.out ▸ hr.out) (.inr (by unfold sigOk; rw [hx]; simp))))
       have L2 := Lib.hid (show ∀ w', Below w1.heap.size w1 w' → (Instr.lookup 87 (.map (some b)) (.agg #[.int .i64 y.at_.e, .int .i64 y.at_.n]) true).run Tryz.prog w' = .ok (.tuple #[.agg #[.int .i64 0, .int .i64 0], .bool false]) w' from fun w' hb => (Hnx1.out.miss hx keyed_port Tryz.underlying87 zero_port (key_port Hwf.out) w' hb).2)
       have l2 := L2.out w1 (Below.refl _ _)
       have Hmem := Lib.hid hmem
       clear hmem hx hkt
       rcases hk1 with hk1 | hk1
       all_goals
        rw [hk1] at e2
        clear hk1
        go_wp2_with fail
        go_ret
        exact ⟨ret_bool Hq.out.symm, below_step hb1'.out (by repeat (first | with_reducible exact Below.refl _ _ | with_reducible assumption | with_reducible apply below_drewN | with_reducible apply Below.drew | with_reducible refine Below.alloc ?_ (by simp <;> omega) _)) hb1'.out.size⟩
      | some x =>
       have hpx := isPort_iff.1 (Hports.out x (nextIn_some hx).2)
       rw [le.out] at hpx
       obtain ⟨u1, u2, _, _⟩ := hpx
       obtain ⟨pb2, off2, zz, ha2, _, hzz, v1, v2, v3⟩ := (he.below hb1'.out).elemI u1 u2
       cases ha2
       have Hzz := Lib.hid (show p.kind x.e = zz.kind by unfold Plan.kind; rw [elem_get u1 hzz])
       clear hzz
       have L2 := Lib.hid (show ∀ w', Below w1.heap.size w1 w' → (Instr.lookup 87 (.map (some b)) (.agg #[.int .i64 y.at_.e, .int .i64 y.at_.n]) true).run Tryz.prog w' = .ok (.tuple #[.agg #[.int .i64 x.e, .int .i64 x.n], .bool true]) w' from fun w' hb => (Hnx1.out.hit hx keyed_port Tryz.underlying87 zero_port (key_port Hwf.out) w' hb).2)
       have l2 := L2.out w1 (Below.refl _ _)
       by_cases hx4 : zz.kind = 4
       ·have q4 : (zz.kind == 4) = true := by simp [hx4]
        have Hq := Lib.hid (sigs_no (sig_no (Hd.out ▸ hr.out) (.inr (by unfold sigOk; rw [hx]; simp [Hzz.out, hx4]))))
        have Hmem := Lib.hid hmem
        clear hmem hx hkt hx4
        rcases hk1 with hk1 | hk1
        all_goals
         rw [hk1] at e2
         clear hk1
         go_wp2_with fail
         go_ret
         exact ⟨ret_bool Hq.out.symm, below_step hb1'.out (by repeat (first | with_reducible exact Below.refl _ _ | with_reducible assumption | with_reducible apply below_drewN | with_reducible apply Below.drew | with_reducible refine Below.alloc ?_ (by simp <;> omega) _)) hb1'.out.size⟩
       ·have q4 : (zz.kind == 4) = false := by simp [hx4]
        have Hq := Lib.hid (sig_yes (Hd.out ▸ hr.out) hmem (by unfold sigOk; rw [hx, hp1, hkt]; simp [Hzz.out, hx4]))
        have T1 := Lib.hid (show ∀ W : World, Below w1.heap.size w1 W → ∃ w', (Instr.mapUpdate 150 (.map (some (w.heap.size + 1))) (.agg #[.int .i64 y.at_.e, .int .i64 y.at_.n]) (.bool true)).run Tryz.prog W = .ok () w' ∧ MapOf portCode Value.bool w' 43 (w.heap.size + 1) (j + 1) (seenIn ((p.sigs.take (j + 1)).map (·.at_))) ∧ W.grownBy w' (some (w.heap.size + 1)) from
         fun W hW => (Hm1.out.below hW hmlt1).store (x := y.at_) (y := true) _ (by rw [take_next Hy.out, List.map_append]; exact seen_key _ _) (fun z hz => by rw [take_next Hy.out, List.map_append]; exact seen_other _ hz) (by unfold maxLen; omega) keyed_port Tryz.underlying150 (key_port Hwf.out))
        obtain ⟨w3, t3, hm3, hg3⟩ := T1.out (w1.alloc (.cells #[.int .i64 x.e, .int .i64 x.n] 43)) (below_new _ _)
        have Hm3 := Lib.hid hm3; clear hm3
        have m1 := ((below_new w1 (.cells #[.int .i64 x.e, .int .i64 x.n] 43)).cell (p := ⟨wr.heap.size, 1, none⟩) (by show wr.heap.size < _; omega)).trans k1
        have m2 := ((below_new w1 (.cells #[.int .i64 x.e, .int .i64 x.n] 43)).cell (p := ⟨wr.heap.size, 2, none⟩) (by show wr.heap.size < _; omega)).trans k2
        clear hmem hx hkt hx4
        rcases hk1 with hk1 | hk1
        all_goals
         rw [hk1] at e2
         clear hk1
         go_wp2_with fail
         have hz3 := hb1'.out.size
         have Hb3 := Lib.hid ((below_step hb1'.out (below_new w1 _) hb1'.out.size).grown hg3 (by simp; omega) (by intro k hk; simp only [Option.some.injEq] at hk; omega))
         go_roundg (gk - 1)
         case measure => have := Hk.out; omega
         case rel => exact ⟨j + 1, by have := Hk.out; omega, by go_num, by rw [take_next Hy.out, List.map_append]; exact Hq.out, Hm3.out, (HB1.out.alloc _).kept hg3 (by simp), Hb3.out⟩
     ·have hkf : (decide (p.kind y.at_.e = 1) || decide (p.kind y.at_.e = 4)) = false := by unfold Plan.kind; rw [Hz.out]; simpa using hk1
      have Hq := Lib.hid (sigs_no (sig_no (Hd.out ▸ hr.out) (.inr (by unfold sigOk; rw [hkf]; simp))))
      have q1 : (z.kind != 1) = true := by rw [bne_iff_ne]; omega
      have q2 : (z.kind != 4) = true := by rw [bne_iff_ne]; omega
      clear hmem hk1 hkf
      go_wp2_with fail
      go_ret
      exact ⟨ret_bool Hq.out.symm, hb1'.out⟩
  ·have Hs := Lib.hid (show signalsOk p = gateSigGo (p.sigs.map (·.at_)) 0 p.elems by
    have := hr.out; rw [drop_end ls.out (by omega)] at this
    unfold signalsOk; rw [← this]; rfl)
   have Hmp := Lib.hid (show MapOf portCode Value.bool wr 43 (w.heap.size + 1) j (seenIn (p.sigs.map (·.at_))) from Hm.out.congr (fun x => by rw [List.take_of_length_le (by have := ls.out; omega)]))
   clear Hm hr
   go_wp2_with fail
   go_loopg [72] ne (fun k i wr => ∃ (i0 : Nat), i0 + k = ne ∧ i = .int .i64 i0 ∧ Hid (gateSigGo (p.sigs.map (·.at_)) i0 (p.elems.drop i0) = gateSigGo (p.sigs.map (·.at_)) 0 p.elems) ∧ MapOf portCode Value.bool wr 43 (w.heap.size + 1) j (seenIn (p.sigs.map (·.at_))) ∧ PBox wr w.heap.size ⟨ae, ne, ce, aj, nj, cj, as_, ns, cs, al, nl, cl, lv⟩ p ∧ Below w.heap.size w wr)
   case atStart => exact ⟨0, by omega, rfl, rfl, Hmp.out, HB.out, hb⟩
   case round =>
    clear Hmp HB hb hlt hbl c0 c1 c2 c3 c4 c5 c6 c7 c8 hmlt
    obtain ⟨i0, hk, rfl, hr, hm, hB, hb⟩ := hrel
    have Hk := Lib.hid hk; clear hk
    have HB := Lib.hid hB
    have Hm := Lib.hid hm; clear hm
    have hmlt := Hm.out.lt
    obtain ⟨hbl, c0, _⟩ := hB
    dsimp only at c0
    by_cases hlt : i0 < ne
    ·obtain ⟨y, hy⟩ := get_some le.out hlt
     obtain ⟨pb, off, rfl, hpb, g1, g2, g3⟩ := he.elemB hb hy
     have Hd := Lib.hid (drop_cons hy)
     clear hy
     have Hb := Lib.hid hb; clear hb
     by_cases h4 : y.kind = 4
     ·have k4 : (y.kind == 4) = true := by simp [h4]
      by_cases hmem : (⟨i0, 0⟩ : Port) ∈ p.sigs.map (·.at_)
      ·have L1 := Lib.hid (show ∀ w', Below wr.heap.size wr w' → (Instr.lookup 150 (.map (some (w.heap.size + 1))) (.agg #[.int .i64 (i0 : Int), .int .i64 0]) false).run Tryz.prog w' = .ok (.bool true) w' from fun w' hb => (Hm.out.hit (seen_yes hmem) keyed_port Tryz.underlying150 zero_bool (key_port ⟨inI_nat (by omega), inI_0⟩) w' hb).1)
       have l1 := L1.out (wr.alloc (.cells #[.string y.name, .int .i64 y.kind, .int .i64 y.len] 65)) (by repeat (first | with_reducible exact Below.refl _ _ | with_reducible assumption | with_reducible apply below_drewN | with_reducible apply Below.drew | with_reducible refine Below.alloc ?_ (by simp <;> omega) _))
       have Hq := Lib.hid (show gateSigGo (p.sigs.map (·.at_)) (i0 + 1) (p.elems.drop (i0 + 1)) = gateSigGo (p.sigs.map (·.at_)) 0 p.elems by
        have := hr.out; rw [Hd.out, gateSigGo, if_pos h4] at this
        rw [← this]; simp [hmem])
       clear hmem h4
       go_wp2_with fail
       go_roundg (gk - 1)
       case measure => have := Hk.out; omega
       case rel => exact ⟨i0 + 1, by have := Hk.out; omega, by go_num, Hq.out, Hm.out.below (B := wr.heap.size) (by repeat (first | with_reducible exact Below.refl _ _ | with_reducible assumption | with_reducible apply below_drewN | with_reducible apply Below.drew | with_reducible refine Below.alloc ?_ (by simp <;> omega) _)) hmlt, HB.out.below (by repeat (first | with_reducible exact Below.refl _ _ | with_reducible assumption | with_reducible apply below_drewN | with_reducible apply Below.drew | with_reducible refine Below.alloc ?_ (by simp <;> omega) _)), below_step Hb.out (by repeat (first | with_reducible exact Below.refl _ _ | with_reducible assumption | with_reducible apply below_drewN | with_reducible apply Below.drew | with_reducible refine Below.alloc ?_ (by simp <;> omega) _)) Hb.out.size⟩
      ·have L1 := Lib.hid (show ∀ w', Below wr.heap.size wr w' → (Instr.lookup 150 (.map (some (w.heap.size + 1))) (.agg #[.int .i64 (i0 : Int), .int .i64 0]) false).run Tryz.prog w' = .ok (.bool false) w' from fun w' hb => (Hm.out.miss (seen_no hmem) keyed_port Tryz.underlying150 zero_bool (key_port ⟨inI_nat (by omega), inI_0⟩) w' hb).1)
       have l1 := L1.out (wr.alloc (.cells #[.string y.name, .int .i64 y.kind, .int .i64 y.len] 65)) (by repeat (first | with_reducible exact Below.refl _ _ | with_reducible assumption | with_reducible apply below_drewN | with_reducible apply Below.drew | with_reducible refine Below.alloc ?_ (by simp <;> omega) _))
       have Hq := Lib.hid (show signalsOk p = false by
        have := hr.out; rw [Hd.out, gateSigGo, if_pos h4] at this
        rw [Hs.out, ← this]; simp [hmem])
       clear hmem h4
       go_wp2_with fail
       go_ret
       exact ⟨ret_bool Hq.out.symm, below_step Hb.out (by repeat (first | with_reducible exact Below.refl _ _ | with_reducible assumption | with_reducible apply below_drewN | with_reducible apply Below.drew | with_reducible refine Below.alloc ?_ (by simp <;> omega) _)) Hb.out.size⟩
     ·have k4 : (y.kind == 4) = false := by simp [h4]
      have Hq := Lib.hid (show gateSigGo (p.sigs.map (·.at_)) (i0 + 1) (p.elems.drop (i0 + 1)) = gateSigGo (p.sigs.map (·.at_)) 0 p.elems by
       have := hr.out; rw [Hd.out, gateSigGo, if_neg h4] at this
       rw [← this]; simp)
      clear h4
      go_wp2_with fail
      go_roundg (gk - 1)
      case measure => have := Hk.out; omega
      case rel => exact ⟨i0 + 1, by have := Hk.out; omega, by go_num, Hq.out, Hm.out.below (B := wr.heap.size) (by repeat (first | with_reducible exact Below.refl _ _ | with_reducible assumption | with_reducible apply below_drewN | with_reducible apply Below.drew | with_reducible refine Below.alloc ?_ (by simp <;> omega) _)) hmlt, HB.out.below (by repeat (first | with_reducible exact Below.refl _ _ | with_reducible assumption | with_reducible apply below_drewN | with_reducible apply Below.drew | with_reducible refine Below.alloc ?_ (by simp <;> omega) _)), below_step Hb.out (by repeat (first | with_reducible exact Below.refl _ _ | with_reducible assumption | with_reducible apply below_drewN | with_reducible apply Below.drew | with_reducible refine Below.alloc ?_ (by simp <;> omega) _)) Hb.out.size⟩
    ·have Hq := Lib.hid (show signalsOk p = true by
      have := hr.out; rw [drop_end le.out (by omega)] at this
      rw [Hs.out, ← this]; rfl)
     have Hb := Lib.hid hb; clear hb
     go_wp2_with fail
     go_ret
     exact ⟨ret_bool Hq.out.symm, Hb.out⟩
end Go.Proofs.YtcaeglnfflkabaaGreat
