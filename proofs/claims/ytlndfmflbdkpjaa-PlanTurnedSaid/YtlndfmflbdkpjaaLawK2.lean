/- What semaphorelaw2 knows of the small plan holds. No condition. -/
import Derived.Test.YtlndfmflbdkpjaaPlanW10
import Derived.Test.YtlndfmflbdkpjaaPlanW12
import Derived.Test.YtlndfmflbdkpjaaOpenPlan
set_option maxRecDepth 1000000
namespace Go.Proofs.Ytlndfmflbdkpjaa
open Go.ChangeShapes Go.WideShapes Go.ChangeAt Go.RowKit

def shortPlan : Plan := { smallPlan with margin := 14 }
theorem small_chk : chk smallPlan = 0 := by decide +kernel
theorem short_chk : chk shortPlan = 9 := by decide +kernel
theorem small_find : findName smallPlan.elems (bytes1 67) = 4 := by decide +kernel
theorem small_short : decide (smallPlan = shortPlan) = false := by decide +kernel
theorem stop_5 : stop 10 5 = 5 := by decide +kernel
theorem stop_16 : stop 9 2 = 16 := by decide +kernel
theorem ends_4 : ends 3 = 4 := by decide
theorem short_at {w : World} {pv : PV} (h : PlanAt w pv smallPlan) : PlanAt w pv shortPlan :=
  ⟨h.e, h.j, h.s, h.l, h.lp, ⟨h.fit.ec, h.fit.jc, h.fit.sc, h.fit.lc, h.fit.ll, h.fit.e, h.fit.j, h.fit.s, h.fit.l, h.fit.top, h.fit.brake, ⟨by show _ ≤ (14 : Int); omega, by show (14 : Int) ≤ _; omega⟩, h.fit.throw⟩⟩

set_option maxHeartbeats 4000000 in
theorem known2_any (w : World) : Calls Try.prog 18 #[] w fun e w' => e = .returned (.bool true) ∧ Below w.heap.size w w' := by
  go_enter Try.func18, Try.ntmps18
  go_wp2_with fail
  refine (small_any _).mono ?_
  rintro e w1 ⟨pv, rfl, hp, hlv, hb1⟩
  have HP := Lib.hid hp; have Hlv := Lib.hid hlv; have Hb1 := Lib.hid hb1
  clear hp hlv hb1
  unfold PV.val
  go_wp2_with fail
  refine (small_any _).mono ?_
  rintro e w2 ⟨pv2, rfl, hq, hlv2, hb2⟩
  have HQ := Lib.hid (short_at hq); have Hlv2 := Lib.hid hlv2
  have HP0 := Lib.hid (((pbox_new w1 pv smallPlan).below hb2).alloc (.cells #[.slice pv2.ae pv2.ne pv2.ce, .slice pv2.aj pv2.nj pv2.cj, .slice pv2.as_ pv2.ns pv2.cs, .slice pv2.al pv2.nl pv2.cl, .int .i64 smallPlan.top, .int .i64 smallPlan.brake, .int .i64 14, .int .i64 smallPlan.throw, .bool smallPlan.hard] 32))
  have hz2 := hb2.size
  have hb2' := below_step (below_alloc Hb1.out (pobj pv smallPlan)) hb2 (by have := Hb1.out.size; simp <;> omega)
  have HQ0 := Lib.hid (show PBox (w2.alloc (.cells #[.slice pv2.ae pv2.ne pv2.ce, .slice pv2.aj pv2.nj pv2.cj, .slice pv2.as_ pv2.ns pv2.cs, .slice pv2.al pv2.nl pv2.cl, .int .i64 smallPlan.top, .int .i64 smallPlan.brake, .int .i64 14, .int .i64 smallPlan.throw, .bool smallPlan.hard] 32)) w2.heap.size pv2 shortPlan from pbox_new w2 pv2 shortPlan)
  have Hb0 := Lib.hid (below_alloc hb2' (.cells #[.slice pv2.ae pv2.ne pv2.ce, .slice pv2.aj pv2.nj pv2.cj, .slice pv2.as_ pv2.ns pv2.cs, .slice pv2.al pv2.nl pv2.cl, .int .i64 smallPlan.top, .int .i64 smallPlan.brake, .int .i64 14, .int .i64 smallPlan.throw, .bool smallPlan.hard] 32))
  have HPs := Lib.hid (HP.out.below (below_step (below_new w1 (pobj pv smallPlan)) hb2 (by simp)))
  clear hq hlv2 hb2 hb2'
  obtain ⟨_, c0, c1, c2, c3, c4, c5, c6, c7, c8⟩ := HP0.out
  obtain ⟨_, d0, d1, d2, d3, d4, d5, d6, d7, d8⟩ := HQ0.out
  unfold PV.val
  have hl1 : ∀ x ∈ pv.lv, x.n ≤ 1000 := by rw [Hlv.out]; simp
  have Hl1 := Lib.hid hl1; clear hl1
  have hl2 : ∀ x ∈ pv2.lv, x.n ≤ 1000 := by rw [Hlv2.out]; simp
  have Hl2 := Lib.hid hl2; clear hl2
  go_wp2_with fail
  refine (check_any _ pv smallPlan (HPs.out.below (below_new _ _)) Hl1.out).mono ?_
  rintro e w3 ⟨rfl, hbx⟩
  have HP3 := Lib.hid (HP0.out.below hbx)
  have HQ3 := Lib.hid (HQ0.out.below hbx)
  have Hb3 := Lib.hid (below_step Hb0.out hbx Hb0.out.size)
  have HX3 := Lib.hid (below_step (below_new w2 _) hbx (by simp))
  clear hbx c0 c1 c2 c3 c4 c5 c6 c7 c8 d0 d1 d2 d3 d4 d5 d6 d7 d8
  obtain ⟨_, c0, c1, c2, c3, c4, c5, c6, c7, c8⟩ := HP3.out
  obtain ⟨_, d0, d1, d2, d3, d4, d5, d6, d7, d8⟩ := HQ3.out
  rw [small_chk]
  have HPa := Lib.hid (HPs.out.below HX3.out)
  have HQa := Lib.hid (HQ.out.below HX3.out)
  go_wp2_with fail
  refine (check_any _ pv2 shortPlan HQa.out Hl2.out).mono ?_
  rintro e w4 ⟨rfl, hbx⟩
  have HP4 := Lib.hid (HP3.out.below hbx)
  have HQ4 := Lib.hid (HQ3.out.below hbx)
  have Hb4 := Lib.hid (below_step Hb3.out hbx Hb3.out.size)
  have Hx4 := Lib.hid hbx
  clear hbx c0 c1 c2 c3 c4 c5 c6 c7 c8 d0 d1 d2 d3 d4 d5 d6 d7 d8
  obtain ⟨_, c0, c1, c2, c3, c4, c5, c6, c7, c8⟩ := HP4.out
  obtain ⟨_, d0, d1, d2, d3, d4, d5, d6, d7, d8⟩ := HQ4.out
  rw [short_chk]
  have HPb := Lib.hid (HPa.out.below (show Below w3.heap.size w3 w4 from Hx4.out))
  have HQb := Lib.hid (HQa.out.below Hx4.out)
  go_wp2_with fail
  refine (stop_any _ _ _).mono ?_
  rintro e w' ⟨rfl, rfl⟩
  rw [stop_5]
  go_wp2_with fail
  refine (stop_any _ _ _).mono ?_
  rintro e w' ⟨rfl, rfl⟩
  rw [stop_16]
  go_wp2_with fail
  refine (ends_any _ _).mono ?_
  rintro e w' ⟨rfl, rfl⟩
  rw [ends_4]
  go_wp2_with fail
  refine (find_any _ pv smallPlan (bytes1 67) HPb.out).mono ?_
  rintro e w5 ⟨rfl, hbx⟩
  have HP5 := Lib.hid (HP4.out.below hbx)
  have HQ5 := Lib.hid (HQ4.out.below hbx)
  have Hb5 := Lib.hid (below_step Hb4.out hbx Hb4.out.size)
  have Hx5 := Lib.hid hbx
  clear hbx c0 c1 c2 c3 c4 c5 c6 c7 c8 d0 d1 d2 d3 d4 d5 d6 d7 d8
  obtain ⟨_, c0, c1, c2, c3, c4, c5, c6, c7, c8⟩ := HP5.out
  obtain ⟨_, d0, d1, d2, d3, d4, d5, d6, d7, d8⟩ := HQ5.out
  rw [small_find]
  have HPc := Lib.hid (HPb.out.below Hx5.out)
  have HQc := Lib.hid (HQb.out.below Hx5.out)
  go_wp2_with fail
  refine (same_any _ pv pv smallPlan smallPlan HPc.out HPc.out).mono ?_
  rintro e w6 ⟨rfl, hbx⟩
  have HP6 := Lib.hid (HP5.out.below hbx)
  have HQ6 := Lib.hid (HQ5.out.below hbx)
  have Hb6 := Lib.hid (below_step Hb5.out hbx Hb5.out.size)
  have Hx6 := Lib.hid hbx
  clear hbx c0 c1 c2 c3 c4 c5 c6 c7 c8 d0 d1 d2 d3 d4 d5 d6 d7 d8
  obtain ⟨_, c0, c1, c2, c3, c4, c5, c6, c7, c8⟩ := HP6.out
  obtain ⟨_, d0, d1, d2, d3, d4, d5, d6, d7, d8⟩ := HQ6.out
  rw [show decide (smallPlan = smallPlan) = true by simp]
  have HPd := Lib.hid (HPc.out.below Hx6.out)
  have HQd := Lib.hid (HQc.out.below Hx6.out)
  go_wp2_with fail
  refine (same_any _ pv pv2 smallPlan shortPlan HPd.out HQd.out).mono ?_
  rintro e w7 ⟨rfl, hbx⟩
  have HP7 := Lib.hid (HP6.out.below hbx)
  have HQ7 := Lib.hid (HQ6.out.below hbx)
  have Hb7 := Lib.hid (below_step Hb6.out hbx Hb6.out.size)
  have Hx7 := Lib.hid hbx
  clear hbx c0 c1 c2 c3 c4 c5 c6 c7 c8 d0 d1 d2 d3 d4 d5 d6 d7 d8
  obtain ⟨_, c0, c1, c2, c3, c4, c5, c6, c7, c8⟩ := HP7.out
  obtain ⟨_, d0, d1, d2, d3, d4, d5, d6, d7, d8⟩ := HQ7.out
  rw [small_short]
  go_wp2_with fail
  go_ret
  exact ⟨rfl, Hb7.out⟩
end Go.Proofs.Ytlndfmflbdkpjaa
