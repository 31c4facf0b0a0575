/- Walks of plan.long and plan.signals. No condition beyond the plan that is read and what the earlier checks have shown of it. -/
import Derived.Test.YtlgekkffekagbaaPlanW5
set_option maxRecDepth 1000000
namespace Go.Proofs.Ytlgekkffekagbaa
open Go.RowKit

theorem stop_bd {v b : Int} : 0 ≤ stop v b ∧ stop v b ≤ 3660 := by
  by_cases h : v < 0 ∨ 60 < v ∨ b < 1 ∨ 10 < b
  · rw [stop_no h]; omega
  · rw [stop_yes h]
    have := stopSum_le b (by omega) 61 (v - b) (by omega)
    omega
def sigLong (p : Plan) (s : Sig) : Bool := !(decide (p.kind s.at_.e = 1) && decide (p.length s.at_.e < p.margin))
def elemLong (p : Plan) (e : Elem) : Bool := !(decide (e.kind ≠ 4) && decide (e.len < p.top))
theorem long_eq (p : Plan) : longOk p = (decide (p.top + stop p.top p.brake ≤ p.margin) && (p.sigs.all (sigLong p) && p.elems.all (elemLong p))) := rfl
theorem sigLong_no {p : Plan} {s : Sig} {z : Elem} (hz : p.elem s.at_.e = z) (h1 : z.kind = 1) (h2 : z.len < p.margin) : sigLong p s = false := by
  unfold sigLong Plan.kind Plan.length; rw [hz]; simp [h1, h2]
theorem sigLong_yes {p : Plan} {s : Sig} {z : Elem} (hz : p.elem s.at_.e = z) (h : z.kind ≠ 1 ∨ ¬ z.len < p.margin) : sigLong p s = true := by
  unfold sigLong Plan.kind Plan.length; rw [hz]; rcases h with h | h <;> simp [h]
theorem elemLong_no {p : Plan} {e : Elem} (h1 : e.kind ≠ 4) (h2 : e.len < p.top) : elemLong p e = false := by unfold elemLong; simp [h1, h2]
theorem elemLong_yes {p : Plan} {e : Elem} (h : e.kind = 4 ∨ ¬ e.len < p.top) : elemLong p e = true := by unfold elemLong; rcases h with h | h <;> simp [h]

set_option maxHeartbeats 2000000 in
theorem long_any (w : World) (pv : PV) (p : Plan) (h : PlanAt w pv p) (hn : numsOk p = true) (hs : ∀ s ∈ p.sigs, isPort p s.at_ = true) :
    Calls Try.prog 78 #[pv.val p] w fun e w' => e = .returned (.bool (longOk p)) ∧ Below w.heap.size w w' := by
  obtain ⟨ae, ne, ce, aj, nj, cj, as_, ns, cs, al, nl, cl, lv⟩ := pv
  have he : Elems w ae ne p.elems := h.e
  have hsg : Sigs w as_ ns p.sigs := h.s
  have le := Lib.hid he.len
  have ls := Lib.hid hsg.len
  have be := he.bnd
  have bs := hsg.bnd
  have Hports := Lib.hid hs; clear hs
  obtain ⟨n1, n2, n3, n4, n5, n6, n7, n8, n9⟩ := (nums_iff le.out).1 hn
  clear hn n9
  obtain ⟨s1, s2⟩ := stop_bd (v := p.top) (b := p.brake)
  have HB := Lib.hid (pbox_new w ⟨ae, ne, ce, aj, nj, cj, as_, ns, cs, al, nl, cl, lv⟩ p)
  clear h
  dsimp only [PV.val]
  by_cases hm : p.margin < p.top + stop p.top p.brake
  · have Hq := Lib.hid (show longOk p = false by rw [long_eq, show decide (p.top + stop p.top p.brake ≤ p.margin) = false by simp; omega]; rfl)
    go_enter Try.func78, Try.ntmps78
    go_wp2_with fail
    have hwr : IntKind.i64.wrap (p.top + stop p.top p.brake) = p.top + stop p.top p.brake := IntWalk.i64_in _ (by omega)
    go_quiet ((go_at_call 88; refine Calls.quiet_of_same ((stop_any _ _ _).mono fun e w' ⟨h1, h2⟩ => ⟨h1, h2.symm⟩)))
    go_wp2_with fail
    go_ret
    exact ⟨ret_bool Hq.out.symm, below_drewN (below_new _ _) _⟩
  · have Hq := Lib.hid (show longOk p = (p.sigs.all (sigLong p) && p.elems.all (elemLong p)) by rw [long_eq, show decide (p.top + stop p.top p.brake ≤ p.margin) = true by simp; omega]; rfl)
    go_enter Try.func78, Try.ntmps78
    go_wp2_with fail
    have hwr : IntKind.i64.wrap (p.top + stop p.top p.brake) = p.top + stop p.top p.brake := IntWalk.i64_in _ (by omega)
    go_quiet ((go_at_call 88; refine Calls.quiet_of_same ((stop_any _ _ _).mono fun e w' ⟨h1, h2⟩ => ⟨h1, h2.symm⟩)))
    clear hwr
    go_wp2_with fail
    clear hm s1 s2 n3 n4
    go_loopg [22] ns (fun k i wr => ∃ (j : Nat), j + k = ns ∧ i = .int .i64 j ∧ Hid ((p.sigs.drop j).all (sigLong p) = p.sigs.all (sigLong p)) ∧ PBox wr w.heap.size ⟨ae, ne, ce, aj, nj, cj, as_, ns, cs, al, nl, cl, lv⟩ p ∧ Below w.heap.size w wr)
    case atStart => exact ⟨0, by omega, rfl, rfl, HB.out.drewN _, below_drewN (below_new _ _) _⟩
    case round =>
      clear HB
      obtain ⟨j, hk, rfl, hr, hB, hb⟩ := hrel
      have Hk := Lib.hid hk; clear hk
      have HB := Lib.hid hB
      obtain ⟨hbl, c0, _, _, _, c4, _, c6, _⟩ := hB
      dsimp only at c0
      by_cases hlt : j < ns
      · obtain ⟨y, hy⟩ := get_some ls.out hlt
        obtain ⟨pb, off, rfl, hpb, g1, g2, g3, g4⟩ := hsg.sigB hb hy
        have Hd := Lib.hid (drop_cons hy)
        have hp := isPort_iff.1 (Hports.out y (List.mem_of_getElem? hy))
        rw [le.out] at hp
        obtain ⟨x1, x2, _, _⟩ := hp
        clear hy
        obtain ⟨pb', off', z, rfl, hpb', hz, e1, e2, e3⟩ := (he.below hb).elemI x1 x2
        have Hz := Lib.hid (elem_get x1 hz)
        clear hz
        have Hb := Lib.hid hb; clear hb
        by_cases hk1 : z.kind = 1
        · have q1 : (z.kind == 1) = true := by simp [hk1]
          by_cases hk2 : z.len < p.margin
          · have Ho := Lib.hid (sigLong_no Hz.out hk1 hk2)
            clear hk1
            go_wp2_with fail
            go_ret
            exact ⟨ret_bool (by rw [Hq.out, all_stop Hd.out hr.out Ho.out]; rfl), below_step Hb.out (by repeat (first | with_reducible exact Below.refl _ _ | with_reducible assumption | with_reducible apply below_drewN | with_reducible apply Below.drew | with_reducible refine Below.alloc ?_ (by simp <;> omega) _)) Hb.out.size⟩
          · have Ho := Lib.hid (sigLong_yes Hz.out (.inr hk2))
            clear hk1
            go_wp2_with fail
            go_roundg (gk - 1)
            case measure => have := Hk.out; omega
            case rel => exact ⟨j + 1, by have := Hk.out; omega, by go_num, all_step Hd.out hr.out Ho.out, HB.out.below (by repeat (first | with_reducible exact Below.refl _ _ | with_reducible assumption | with_reducible apply below_drewN | with_reducible apply Below.drew | with_reducible refine Below.alloc ?_ (by simp <;> omega) _)), below_step Hb.out (by repeat (first | with_reducible exact Below.refl _ _ | with_reducible assumption | with_reducible apply below_drewN | with_reducible apply Below.drew | with_reducible refine Below.alloc ?_ (by simp <;> omega) _)) Hb.out.size⟩
        · have q1 : (z.kind == 1) = false := by simp [hk1]
          have Ho := Lib.hid (sigLong_yes Hz.out (.inl hk1))
          clear hk1
          go_wp2_with fail
          go_roundg (gk - 1)
          case measure => have := Hk.out; omega
          case rel => exact ⟨j + 1, by have := Hk.out; omega, by go_num, all_step Hd.out hr.out Ho.out, HB.out.below (by repeat (first | with_reducible exact Below.refl _ _ | with_reducible assumption | with_reducible apply below_drewN | with_reducible apply Below.drew | with_reducible refine Below.alloc ?_ (by simp <;> omega) _)), below_step Hb.out (by repeat (first | with_reducible exact Below.refl _ _ | with_reducible assumption | with_reducible apply below_drewN | with_reducible apply Below.drew | with_reducible refine Below.alloc ?_ (by simp <;> omega) _)) Hb.out.size⟩
      · have Hq2 := Lib.hid (show longOk p = p.elems.all (elemLong p) by rw [Hq.out, all_end ls.out hr.out hlt]; rfl)
        clear hr
        go_wp2_with fail
        go_loopg [47] ne (fun k i wr => ∃ (j : Nat), j + k = ne ∧ i = .int .i64 j ∧ Hid ((p.elems.drop j).all (elemLong p) = p.elems.all (elemLong p)) ∧ PBox wr w.heap.size ⟨ae, ne, ce, aj, nj, cj, as_, ns, cs, al, nl, cl, lv⟩ p ∧ Below w.heap.size w wr)
        case atStart => exact ⟨0, by omega, rfl, rfl, HB.out, hb⟩
        case round =>
          clear HB hb hlt hbl c0 c4 c6
          obtain ⟨j, hk, rfl, hr, hB, hb⟩ := hrel
          have Hk := Lib.hid hk; clear hk
          have HB := Lib.hid hB
          obtain ⟨hbl, c0, _, _, _, c4, _, c6, _⟩ := hB
          dsimp only at c0
          by_cases hlt : j < ne
          · obtain ⟨y, hy⟩ := get_some le.out hlt
            obtain ⟨pb, off, rfl, hpb, g1, g2, g3⟩ := he.elemB hb hy
            have Hd := Lib.hid (drop_cons hy)
            clear hy
            have Hb := Lib.hid hb; clear hb
            by_cases hk1 : y.kind = 4
            · have q1 : (y.kind != 4) = false := by simp [hk1]
              have Ho := Lib.hid (elemLong_yes (p := p) (.inl hk1))
              clear hk1
              go_wp2_with fail
              go_roundg (gk - 1)
              case measure => have := Hk.out; omega
              case rel => exact ⟨j + 1, by have := Hk.out; omega, by go_num, all_step Hd.out hr.out Ho.out, HB.out.below (by repeat (first | with_reducible exact Below.refl _ _ | with_reducible assumption | with_reducible apply below_drewN | with_reducible apply Below.drew | with_reducible refine Below.alloc ?_ (by simp <;> omega) _)), below_step Hb.out (by repeat (first | with_reducible exact Below.refl _ _ | with_reducible assumption | with_reducible apply below_drewN | with_reducible apply Below.drew | with_reducible refine Below.alloc ?_ (by simp <;> omega) _)) Hb.out.size⟩
            · have q1 : (y.kind != 4) = true := by simp [hk1]
              by_cases hk2 : y.len < p.top
              · have Ho := Lib.hid (elemLong_no hk1 hk2)
                clear hk1
                go_wp2_with fail
                go_ret
                exact ⟨ret_bool (by rw [Hq2.out, all_stop Hd.out hr.out Ho.out]), below_step Hb.out (by repeat (first | with_reducible exact Below.refl _ _ | with_reducible assumption | with_reducible apply below_drewN | with_reducible apply Below.drew | with_reducible refine Below.alloc ?_ (by simp <;> omega) _)) Hb.out.size⟩
              · have Ho := Lib.hid (elemLong_yes (.inr hk2))
                clear hk1
                go_wp2_with fail
                go_roundg (gk - 1)
                case measure => have := Hk.out; omega
                case rel => exact ⟨j + 1, by have := Hk.out; omega, by go_num, all_step Hd.out hr.out Ho.out, HB.out.below (by repeat (first | with_reducible exact Below.refl _ _ | with_reducible assumption | with_reducible apply below_drewN | with_reducible apply Below.drew | with_reducible refine Below.alloc ?_ (by simp <;> omega) _)), below_step Hb.out (by repeat (first | with_reducible exact Below.refl _ _ | with_reducible assumption | with_reducible apply below_drewN | with_reducible apply Below.drew | with_reducible refine Below.alloc ?_ (by simp <;> omega) _)) Hb.out.size⟩
          · have Hq3 := Lib.hid (show longOk p = true by rw [Hq2.out, all_end le.out hr.out hlt])
            clear hr
            go_wp2_with fail
            go_ret
            exact ⟨ret_bool Hq3.out.symm, hb⟩
end Go.Proofs.Ytlgekkffekagbaa
