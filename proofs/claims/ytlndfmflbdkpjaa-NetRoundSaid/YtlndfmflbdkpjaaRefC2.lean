/- Walk of semaphoreref6.long, and the means for regions that load a plan and call. No condition beyond the plan that is read. -/
import Derived.Test.YtlndfmflbdkpjaaRefC1
import Derived.Lib.QuietBelow
set_option maxRecDepth 1000000
namespace Go.Proofs.Ytlndfmflbdkpjaa
open Go.RowKit Go.Sort

section
variable {w : World} {ae aj as_ al : Option Addr} {ne ce nj cj ns cs nl cl : Nat} {lv : List LineV} {p : Plan}
theorem kindU_l {i : Int} (h : PlanAt w ⟨ae, ne, ce, aj, nj, cj, as_, ns, cs, al, nl, cl, lv⟩ p) : Calls Try.prog 85 #[.agg #[.slice ae ne ce, .slice aj nj cj, .slice as_ ns cs, .slice al nl cl, .int .i64 p.top, .int .i64 p.brake, .int .i64 p.margin, .int .i64 p.throw, .bool p.hard], .int .i64 i] w fun e w' => e = .returned (.int .i64 (p.kind i)) ∧ Below w.heap.size w w' := kindU_any w ⟨ae, ne, ce, aj, nj, cj, as_, ns, cs, al, nl, cl, lv⟩ p i h
theorem reflength_l {i : Int} (h : PlanAt w ⟨ae, ne, ce, aj, nj, cj, as_, ns, cs, al, nl, cl, lv⟩ p) : Calls Try.prog 48 #[.agg #[.slice ae ne ce, .slice aj nj cj, .slice as_ ns cs, .slice al nl cl, .int .i64 p.top, .int .i64 p.brake, .int .i64 p.margin, .int .i64 p.throw, .bool p.hard], .int .i64 i] w fun e w' => e = .returned (.int .i64 (p.length i)) ∧ Below w.heap.size w w' := reflength_any w ⟨ae, ne, ce, aj, nj, cj, as_, ns, cs, al, nl, cl, lv⟩ p i h
theorem has_l {a b : Int} (h : PlanAt w ⟨ae, ne, ce, aj, nj, cj, as_, ns, cs, al, nl, cl, lv⟩ p) : Calls Try.prog 84 #[.agg #[.slice ae ne ce, .slice aj nj cj, .slice as_ ns cs, .slice al nl cl, .int .i64 p.top, .int .i64 p.brake, .int .i64 p.margin, .int .i64 p.throw, .bool p.hard], .agg #[.int .i64 a, .int .i64 b]] w fun e w' => e = .returned (.bool (isPort p ⟨a, b⟩)) ∧ Below w.heap.size w w' := has_any w ⟨ae, ne, ce, aj, nj, cj, as_, ns, cs, al, nl, cl, lv⟩ p ⟨a, b⟩ h
theorem refreads_l {a b : Int} (h : PlanAt w ⟨ae, ne, ce, aj, nj, cj, as_, ns, cs, al, nl, cl, lv⟩ p) : Calls Try.prog 53 #[.agg #[.slice ae ne ce, .slice aj nj cj, .slice as_ ns cs, .slice al nl cl, .int .i64 p.top, .int .i64 p.brake, .int .i64 p.margin, .int .i64 p.throw, .bool p.hard], .agg #[.int .i64 a, .int .i64 b]] w fun e w' => e = .returned (.int .i64 (reads p ⟨a, b⟩)) ∧ Below w.heap.size w w' := refreads_any w ⟨ae, ne, ce, aj, nj, cj, as_, ns, cs, al, nl, cl, lv⟩ p ⟨a, b⟩ h
theorem refnext_l {a b : Int} (h : PlanAt w ⟨ae, ne, ce, aj, nj, cj, as_, ns, cs, al, nl, cl, lv⟩ p) : Calls Try.prog 49 #[.agg #[.slice ae ne ce, .slice aj nj cj, .slice as_ ns cs, .slice al nl cl, .int .i64 p.top, .int .i64 p.brake, .int .i64 p.margin, .int .i64 p.throw, .bool p.hard], .agg #[.int .i64 a, .int .i64 b]] w fun e w' => e = .returned (.tuple #[.agg #[.int .i64 ((nextOf p ⟨a, b⟩).getD zeroPort).e, .int .i64 ((nextOf p ⟨a, b⟩).getD zeroPort).n], .bool (nextOf p ⟨a, b⟩).isSome]) ∧ Below w.heap.size w w' := refnext_any w ⟨ae, ne, ce, aj, nj, cj, as_, ns, cs, al, nl, cl, lv⟩ p ⟨a, b⟩ h
end

set_option maxHeartbeats 2000000 in
theorem reflong_any (w : World) (pv : PV) (p : Plan) (h : PlanAt w pv p) (hn : numsOk p = true) :
    Calls Try.prog 74 #[pv.val p] w fun e w' => e = .returned (.bool (longOk p)) ∧ Below w.heap.size w w' := by
  obtain ⟨ae, ne, ce, aj, nj, cj, as_, ns, cs, al, nl, cl, lv⟩ := pv
  have hP := Lib.hid h
  have he : Elems w ae ne p.elems := h.e
  have hsg : Sigs w as_ ns p.sigs := h.s
  have le := Lib.hid he.len
  have ls := Lib.hid hsg.len
  have be := he.bnd
  have bs := hsg.bnd
  obtain ⟨n1, n2, n3, n4, n5, n6, n7, n8, n9⟩ := (nums_iff le.out).1 hn
  clear hn n9
  obtain ⟨s1, s2⟩ := stop_bd (v := p.top) (b := p.brake)
  have HB := Lib.hid (pbox_new w ⟨ae, ne, ce, aj, nj, cj, as_, ns, cs, al, nl, cl, lv⟩ p)
  clear h
  dsimp only [PV.val]
  by_cases hm : p.margin < p.top + stop p.top p.brake
  · have Hq := Lib.hid (show longOk p = false by rw [long_eq, show decide (p.top + stop p.top p.brake ≤ p.margin) = false by simp; omega]; rfl)
    go_enter Try.func74, Try.ntmps74
    go_wp2_with fail
    have hwr : IntKind.i64.wrap (p.top + stop p.top p.brake) = p.top + stop p.top p.brake := IntWalk.i64_in _ (by omega)
    go_quiet ((go_at_call 22; refine Calls.quiet_of_same ((refstop_any _ _ _).mono fun e w' ⟨h1, h2⟩ => ⟨h1, h2.symm⟩)))
    go_wp2_with fail
    go_ret
    exact ⟨ret_bool Hq.out.symm, below_drewN (below_new _ _) _⟩
  · have Hq := Lib.hid (show longOk p = (p.sigs.all (sigLong p) && p.elems.all (elemLong p)) by rw [long_eq, show decide (p.top + stop p.top p.brake ≤ p.margin) = true by simp; omega]; rfl)
    go_enter Try.func74, Try.ntmps74
    go_wp2_with fail
    have hwr : IntKind.i64.wrap (p.top + stop p.top p.brake) = p.top + stop p.top p.brake := IntWalk.i64_in _ (by omega)
    go_quiet ((go_at_call 22; refine Calls.quiet_of_same ((refstop_any _ _ _).mono fun e w' ⟨h1, h2⟩ => ⟨h1, h2.symm⟩)))
    clear hwr
    go_wp2_with fail
    clear hm s1 s2 n3 n4
    go_loopg [3] ns (fun k i wr => ∃ (j : Nat), j + k = ns ∧ i = .int .i64 j ∧ Hid ((p.sigs.drop j).all (sigLong p) = p.sigs.all (sigLong p)) ∧ PBox wr w.heap.size ⟨ae, ne, ce, aj, nj, cj, as_, ns, cs, al, nl, cl, lv⟩ p ∧ Below w.heap.size w wr)
    case atStart => exact ⟨0, by omega, rfl, rfl, HB.out.drewN _, below_drewN (below_new _ _) _⟩
    case round =>
      clear HB
      obtain ⟨j, hk, rfl, hr, hB, hb⟩ := hrel
      have Hk := Lib.hid hk; clear hk
      have HB := Lib.hid hB
      obtain ⟨hbl, c0, c1, c2, c3, c4, c5, c6, c7, c8⟩ := hB
      dsimp only at c0 c1 c2 c3
      by_cases hlt : j < ns
      · obtain ⟨y, hy⟩ := get_some ls.out hlt
        obtain ⟨pb, off, rfl, hpb, g1, g2, g3, g4⟩ := hsg.sigB hb hy
        have Hd := Lib.hid (drop_cons hy)
        clear hy
        have Hb := Lib.hid hb; clear hb
        have HPr := Lib.hid (hP.out.below Hb.out)
        by_cases hk1 : p.kind y.at_.e = 1
        · have q1 : (p.kind y.at_.e == 1) = true := by simp [hk1]
          by_cases hk2 : p.length y.at_.e < p.margin
          · have q2 : decide (p.length y.at_.e < p.margin) = true := by simp [hk2]
            have Ho := Lib.hid (show sigLong p y = false by unfold sigLong; simp [hk1, hk2])
            clear hk1 hk2
            go_wp2_with fail
            have c0q := fun d os => cell_regrown c0 d os
            have c1q := fun d os => cell_regrown c1 d os
            have c2q := fun d os => cell_regrown c2 d os
            have c3q := fun d os => cell_regrown c3 d os
            have c4q := fun d os => cell_regrown c4 d os
            have c5q := fun d os => cell_regrown c5 d os
            have c6q := fun d os => cell_regrown c6 d os
            have c7q := fun d os => cell_regrown c7 d os
            have c8q := fun d os => cell_regrown c8 d os
            have cq0 : ∀ d os, Calls Try.prog 85 #[.agg #[.slice ae ne ce, .slice aj nj cj, .slice (some ⟨pb, off, none⟩) ns cs, .slice al nl cl, .int .i64 p.top, .int .i64 p.brake, .int .i64 p.margin, .int .i64 p.throw, .bool p.hard], .int .i64 y.at_.e] (grow (redrawn wr d) os) fun e w'' => e = .returned (.int .i64 (p.kind y.at_.e)) ∧ ∃ p : Regrown, w'' = grow (redrawn wr p.d) p.os := fun d os => Calls.regrown_of (kindU_l (HPr.out.below (below_regrown _ d os)))
            have cq1 : ∀ d os, Calls Try.prog 48 #[.agg #[.slice ae ne ce, .slice aj nj cj, .slice (some ⟨pb, off, none⟩) ns cs, .slice al nl cl, .int .i64 p.top, .int .i64 p.brake, .int .i64 p.margin, .int .i64 p.throw, .bool p.hard], .int .i64 y.at_.e] (grow (redrawn wr d) os) fun e w'' => e = .returned (.int .i64 (p.length y.at_.e)) ∧ ∃ p : Regrown, w'' = grow (redrawn wr p.d) p.os := fun d os => Calls.regrown_of (reflength_l (HPr.out.below (below_regrown _ d os)))
            refine wp_region_quiet_below (by kernel_rfl) (by kernel_rfl) ?_
            repeat (quiet_step (first | exact cq0 _ _ | exact cq1 _ _))
            refine wpQuiet_nil ?_
            intro w2 hw'
            have hb2 : Below wr.heap.size wr w2 := by obtain ⟨⟨d, os⟩, rfl⟩ := hw'; exact below_regrown _ d os
            clear hw' c0q c1q c2q c3q c4q c5q c6q c7q c8q cq0 cq1
            go_wp2_with fail
            go_ret
            exact ⟨ret_bool (by rw [Hq.out, all_stop Hd.out hr.out Ho.out]; rfl), below_step Hb.out hb2 Hb.out.size⟩
          · have q2 : decide (p.length y.at_.e < p.margin) = false := by simp; omega
            have Ho := Lib.hid (show sigLong p y = true by unfold sigLong; simp [hk2])
            clear hk1 hk2
            go_wp2_with fail
            have c0q := fun d os => cell_regrown c0 d os
            have c1q := fun d os => cell_regrown c1 d os
            have c2q := fun d os => cell_regrown c2 d os
            have c3q := fun d os => cell_regrown c3 d os
            have c4q := fun d os => cell_regrown c4 d os
            have c5q := fun d os => cell_regrown c5 d os
            have c6q := fun d os => cell_regrown c6 d os
            have c7q := fun d os => cell_regrown c7 d os
            have c8q := fun d os => cell_regrown c8 d os
            have cq0 : ∀ d os, Calls Try.prog 85 #[.agg #[.slice ae ne ce, .slice aj nj cj, .slice (some ⟨pb, off, none⟩) ns cs, .slice al nl cl, .int .i64 p.top, .int .i64 p.brake, .int .i64 p.margin, .int .i64 p.throw, .bool p.hard], .int .i64 y.at_.e] (grow (redrawn wr d) os) fun e w'' => e = .returned (.int .i64 (p.kind y.at_.e)) ∧ ∃ p : Regrown, w'' = grow (redrawn wr p.d) p.os := fun d os => Calls.regrown_of (kindU_l (HPr.out.below (below_regrown _ d os)))
            have cq1 : ∀ d os, Calls Try.prog 48 #[.agg #[.slice ae ne ce, .slice aj nj cj, .slice (some ⟨pb, off, none⟩) ns cs, .slice al nl cl, .int .i64 p.top, .int .i64 p.brake, .int .i64 p.margin, .int .i64 p.throw, .bool p.hard], .int .i64 y.at_.e] (grow (redrawn wr d) os) fun e w'' => e = .returned (.int .i64 (p.length y.at_.e)) ∧ ∃ p : Regrown, w'' = grow (redrawn wr p.d) p.os := fun d os => Calls.regrown_of (reflength_l (HPr.out.below (below_regrown _ d os)))
            refine wp_region_quiet_below (by kernel_rfl) (by kernel_rfl) ?_
            repeat (quiet_step (first | exact cq0 _ _ | exact cq1 _ _))
            refine wpQuiet_nil ?_
            intro w2 hw'
            have hb2 : Below wr.heap.size wr w2 := by obtain ⟨⟨d, os⟩, rfl⟩ := hw'; exact below_regrown _ d os
            clear hw' c0q c1q c2q c3q c4q c5q c6q c7q c8q cq0 cq1
            go_wp2_with fail
            go_roundg (gk - 1)
            case measure => have := Hk.out; omega
            case rel => exact ⟨j + 1, by have := Hk.out; omega, by go_num, all_step Hd.out hr.out Ho.out, HB.out.below hb2, below_step Hb.out hb2 Hb.out.size⟩
        · have q1 : (p.kind y.at_.e == 1) = false := by simp [hk1]
          have Ho := Lib.hid (show sigLong p y = true by unfold sigLong; simp [hk1])
          clear hk1
          go_wp2_with fail
          have c0q := fun d os => cell_regrown c0 d os
          have c1q := fun d os => cell_regrown c1 d os
          have c2q := fun d os => cell_regrown c2 d os
          have c3q := fun d os => cell_regrown c3 d os
          have c4q := fun d os => cell_regrown c4 d os
          have c5q := fun d os => cell_regrown c5 d os
          have c6q := fun d os => cell_regrown c6 d os
          have c7q := fun d os => cell_regrown c7 d os
          have c8q := fun d os => cell_regrown c8 d os
          have cq0 : ∀ d os, Calls Try.prog 85 #[.agg #[.slice ae ne ce, .slice aj nj cj, .slice (some ⟨pb, off, none⟩) ns cs, .slice al nl cl, .int .i64 p.top, .int .i64 p.brake, .int .i64 p.margin, .int .i64 p.throw, .bool p.hard], .int .i64 y.at_.e] (grow (redrawn wr d) os) fun e w'' => e = .returned (.int .i64 (p.kind y.at_.e)) ∧ ∃ p : Regrown, w'' = grow (redrawn wr p.d) p.os := fun d os => Calls.regrown_of (kindU_l (HPr.out.below (below_regrown _ d os)))
          have cq1 : ∀ d os, Calls Try.prog 48 #[.agg #[.slice ae ne ce, .slice aj nj cj, .slice (some ⟨pb, off, none⟩) ns cs, .slice al nl cl, .int .i64 p.top, .int .i64 p.brake, .int .i64 p.margin, .int .i64 p.throw, .bool p.hard], .int .i64 y.at_.e] (grow (redrawn wr d) os) fun e w'' => e = .returned (.int .i64 (p.length y.at_.e)) ∧ ∃ p : Regrown, w'' = grow (redrawn wr p.d) p.os := fun d os => Calls.regrown_of (reflength_l (HPr.out.below (below_regrown _ d os)))
          refine wp_region_quiet_below (by kernel_rfl) (by kernel_rfl) ?_
          repeat (quiet_step (first | exact cq0 _ _ | exact cq1 _ _))
          refine wpQuiet_nil ?_
          intro w2 hw'
          have hb2 : Below wr.heap.size wr w2 := by obtain ⟨⟨d, os⟩, rfl⟩ := hw'; exact below_regrown _ d os
          clear hw' c0q c1q c2q c3q c4q c5q c6q c7q c8q cq0 cq1
          go_wp2_with fail
          go_roundg (gk - 1)
          case measure => have := Hk.out; omega
          case rel => exact ⟨j + 1, by have := Hk.out; omega, by go_num, all_step Hd.out hr.out Ho.out, HB.out.below hb2, below_step Hb.out hb2 Hb.out.size⟩
      · have Hq2 := Lib.hid (show longOk p = p.elems.all (elemLong p) by rw [Hq.out, all_end ls.out hr.out hlt]; rfl)
        clear hr
        go_wp2_with fail
        go_loopg [5] ne (fun k i wr => ∃ (j : Nat), j + k = ne ∧ i = .int .i64 j ∧ Hid ((p.elems.drop j).all (elemLong p) = p.elems.all (elemLong p)) ∧ PBox wr w.heap.size ⟨ae, ne, ce, aj, nj, cj, as_, ns, cs, al, nl, cl, lv⟩ p ∧ Below w.heap.size w wr)
        case atStart => exact ⟨0, by omega, rfl, rfl, HB.out, hb⟩
        case round =>
          clear HB hb hlt hbl c0 c1 c2 c3 c4 c5 c6 c7 c8
          obtain ⟨j, hk, rfl, hr, hB, hb⟩ := hrel
          have Hk := Lib.hid hk; clear hk
          have HB := Lib.hid hB
          obtain ⟨hbl, c0, _, _, _, c4, _, c6, _⟩ := hB
          dsimp only at c0
          by_cases hlt : j < ne
          · obtain ⟨y, hy⟩ := get_some le.out hlt
            obtain ⟨pb, off, rfl, hpb, g1, g2, g3⟩ := he.elemB hb hy
            have Hd := Lib.hid (drop_cons hy)
            clear hy
            have Hb := Lib.hid hb; clear hb
            by_cases hk1 : y.kind = 4
            · have q1 : (y.kind != 4) = false := by simp [hk1]
              have Ho := Lib.hid (elemLong_yes (p := p) (.inl hk1))
              clear hk1
              go_wp2_with fail
              go_quiet (fail)
              go_wp2_with fail
              go_roundg (gk - 1)
              case measure => have := Hk.out; omega
              case rel => exact ⟨j + 1, by have := Hk.out; omega, by go_num, all_step Hd.out hr.out Ho.out, HB.out.below (by repeat (first | with_reducible exact Below.refl _ _ | with_reducible assumption | with_reducible apply below_drewN | with_reducible apply Below.drew | with_reducible refine Below.alloc ?_ (by simp <;> omega) _)), below_step Hb.out (by repeat (first | with_reducible exact Below.refl _ _ | with_reducible assumption | with_reducible apply below_drewN | with_reducible apply Below.drew | with_reducible refine Below.alloc ?_ (by simp <;> omega) _)) Hb.out.size⟩
            · have q1 : (y.kind != 4) = true := by simp [hk1]
              by_cases hk2 : y.len < p.top
              · have q2 : decide (y.len < p.top) = true := by simp [hk2]
                have Ho := Lib.hid (elemLong_no hk1 hk2)
                clear hk1 hk2
                go_wp2_with fail
                go_quiet (fail)
                go_wp2_with fail
                go_ret
                exact ⟨ret_bool (by rw [Hq2.out, all_stop Hd.out hr.out Ho.out]), below_step Hb.out (by repeat (first | with_reducible exact Below.refl _ _ | with_reducible assumption | with_reducible apply below_drewN | with_reducible apply Below.drew | with_reducible refine Below.alloc ?_ (by simp <;> omega) _)) Hb.out.size⟩
              · have q2 : decide (y.len < p.top) = false := by simp; omega
                have Ho := Lib.hid (elemLong_yes (.inr hk2))
                clear hk1 hk2
                go_wp2_with fail
                go_quiet (fail)
                go_wp2_with fail
                go_roundg (gk - 1)
                case measure => have := Hk.out; omega
                case rel => exact ⟨j + 1, by have := Hk.out; omega, by go_num, all_step Hd.out hr.out Ho.out, HB.out.below (by repeat (first | with_reducible exact Below.refl _ _ | with_reducible assumption | with_reducible apply below_drewN | with_reducible apply Below.drew | with_reducible refine Below.alloc ?_ (by simp <;> omega) _)), below_step Hb.out (by repeat (first | with_reducible exact Below.refl _ _ | with_reducible assumption | with_reducible apply below_drewN | with_reducible apply Below.drew | with_reducible refine Below.alloc ?_ (by simp <;> omega) _)) Hb.out.size⟩
          · have Hq3 := Lib.hid (show longOk p = true by rw [Hq2.out, all_end le.out hr.out hlt])
            clear hr
            go_wp2_with fail
            go_ret
            exact ⟨ret_bool Hq3.out.symm, hb⟩
end Go.Proofs.Ytlndfmflbdkpjaa
