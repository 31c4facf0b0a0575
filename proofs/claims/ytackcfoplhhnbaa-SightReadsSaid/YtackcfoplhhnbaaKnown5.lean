/- What semaphorelaw5 knows of the small plan's net holds. No condition. -/
import Derived.Test.YtackcfoplhhnbaaWalkW4
set_option maxRecDepth 1000000
namespace Go.Proofs.Ytackcfoplhhnbaa
open Go.ChangeShapes Go.WideShapes Go.ChangeAt Go.RowKit Go.Sort

theorem small_run : run smallPlan [0, 0, 2, 0, 0, 0] ⟨0, 0⟩ 9 = ([⟨1, 1⟩, ⟨2, 2⟩, ⟨4, 1⟩], 3) := by decide +kernel
theorem small_step5 : step smallPlan [0, 0, 2, 0, 0, 0] ⟨3, 0⟩ = (zeroPort, 4) := by decide +kernel
theorem small_back5 : back smallPlan [0, 0, 2, 0, 0, 0] ⟨4, 1⟩ = some ⟨2, 2⟩ := by decide +kernel
theorem small_turn5 : turn smallPlan [0, 0, 2, 0, 0, 0] ⟨2, 2⟩ = some ⟨2, 0⟩ := by decide +kernel
theorem small_metres : metres smallPlan [⟨1, 1⟩, ⟨2, 2⟩, ⟨4, 1⟩] = 60 := by decide +kernel
theorem row_ints6 (w : World) (a b c d e f : Int) : Ints (w.alloc (.cells #[.int .i64 a, .int .i64 b, .int .i64 c, .int .i64 d, .int .i64 e, .int .i64 f] 3)) (some ⟨w.heap.size, 0, none⟩) 6 [a, b, c, d, e, f] :=
  row_block (sz := 1) (enc := encInt) (fun _ => rfl) (by decide) [a, b, c, d, e, f] (heap_alloc_new w _) rfl rfl (by omega)
theorem row_ports3 (w : World) (x y z : Port) : Row 2 encPort (w.alloc (.cells #[.int .i64 x.e, .int .i64 x.n, .int .i64 y.e, .int .i64 y.n, .int .i64 z.e, .int .i64 z.n] 30)) (some ⟨w.heap.size, 0, none⟩) 3 [x, y, z] :=
  row_block (sz := 2) (enc := encPort) (fun _ => rfl) (by decide) [x, y, z] (heap_alloc_new w _) rfl rfl (by omega)
set_option maxHeartbeats 4000000 in
theorem known5_any (w : World) : Calls Try.prog 16 #[] w fun e w' => e = .returned (.bool true) ∧ Below w.heap.size w w' := by
  go_enter Try.func16, Try.ntmps16
  go_wp2_with fail
  refine (small_any _).mono ?_
  rintro e w1 ⟨pv, rfl, hp, hlv, hb1⟩
  have HP := Lib.hid hp; have Hb1 := Lib.hid hb1
  clear hp hlv hb1
  go_wp2_with fail
  refine (made_any _ pv smallPlan small_fine HP.out).mono ?_
  rintro e w2 ⟨b, rfl, hbb, hn, hb2⟩
  have HN2 := Lib.hid hn
  have Hb2 := Lib.hid (below_step Hb1.out hb2 Hb1.out.size)
  clear hn hb2
  go_wp2_with fail
  refine name_calls fun w3 hw => ?_
  have hbx : Below w2.heap.size w2 w3 := by rw [hw]; exact below_new _ _
  have Hr3 := Lib.hid (show Ints w3 (some ⟨w2.heap.size, 0, none⟩) 6 [0, 0, 2, 0, 0, 0] by rw [hw]; exact row_ints6 w2 0 0 2 0 0 0)
  have HN3 := Lib.hid (HN2.out.below hbx)
  have Hb3 := Lib.hid (below_step Hb2.out hbx Hb2.out.size)
  have D3 := Lib.hid (Below.refl w3.heap.size w3)
  clear hw hbx
  have C1 := Lib.hid (fun (u : World) (hb : Below w3.heap.size w3 u) => nrun_any u b smallPlan (HN3.out.below hb) (some ⟨w2.heap.size, 0, none⟩) 6 6 _ (Lib.hid (Hr3.out.below hb)) ⟨0, 0⟩ (wf_lit (by omega) (by omega) (by omega) (by omega)) 9)
  rw [small_run] at C1
  have C2 := Lib.hid (fun (u : World) (hb : Below w3.heap.size w3 u) => nstep_any u b smallPlan (HN3.out.below hb) (some ⟨w2.heap.size, 0, none⟩) 6 6 _ (Lib.hid (Hr3.out.below hb)) ⟨3, 0⟩ (wf_lit (by omega) (by omega) (by omega) (by omega)))
  rw [small_step5] at C2
  have C3 := Lib.hid (fun (u : World) (hb : Below w3.heap.size w3 u) => nback_any u b smallPlan (HN3.out.below hb) (some ⟨w2.heap.size, 0, none⟩) 6 6 _ (Lib.hid (Hr3.out.below hb)) ⟨4, 1⟩ (wf_lit (by omega) (by omega) (by omega) (by omega)))
  rw [small_back5] at C3
  have C4 := Lib.hid (fun (u : World) (hb : Below w3.heap.size w3 u) => nturn_any u b smallPlan (HN3.out.below hb) (some ⟨w2.heap.size, 0, none⟩) 6 6 _ (Lib.hid (Hr3.out.below hb)) ⟨2, 2⟩)
  rw [small_turn5] at C4
  dsimp only [Port.val, zeroPort, Option.getD_some, Option.isSome_some] at C1 C2 C3 C4
  refine (C1.out _ D3.out).mono ?_
  rintro en w4 ⟨ra, rn, rc, rfl, hrow, hrc, hbx⟩
  have R4_ := Lib.hid hrow
  clear hrow hrc
  have D4 := Lib.hid (below_step D3.out hbx D3.out.size)
  clear hbx
  go_wp2_with fail
  obtain rfl : 3 = rn := R4_.out.len
  refine (C2.out _ D4.out).mono ?_
  rintro en w5 ⟨rfl, hbx⟩
  have D5 := Lib.hid (below_step D4.out hbx D4.out.size)
  have R5_ := Lib.hid (R4_.out.below hbx)
  clear hbx
  go_wp2_with fail
  refine name_calls fun w6 hw => ?_
  have hbx : Below w5.heap.size w5 w6 := by rw [hw]; exact below_new _ _
  have qa6_ := Lib.hid (show PortBox w6 w5.heap.size zeroPort by rw [hw]; exact PortBox.new _ rfl (zeroPort) _)
  clear hw
  have D6 := Lib.hid (below_step D5.out hbx D5.out.size)
  have R6_ := Lib.hid (R5_.out.below hbx)
  clear hbx
  obtain ⟨_, qa0, qa1, _⟩ := qa6_.out
  refine (C3.out _ D6.out).mono ?_
  rintro en w7 ⟨rfl, hbx⟩
  clear qa0 qa1
  have D7 := Lib.hid (below_step D6.out hbx D6.out.size)
  have qa7_ := Lib.hid (qa6_.out.below hbx)
  have R7_ := Lib.hid (R6_.out.below hbx)
  clear hbx
  obtain ⟨_, qa0, qa1, _⟩ := qa7_.out
  go_wp2_with fail
  refine name_calls fun w8 hw => ?_
  have hbx : Below w7.heap.size w7 w8 := by rw [hw]; exact below_new _ _
  have qb8_ := Lib.hid (show PortBox w8 w7.heap.size ⟨2, 2⟩ by rw [hw]; exact PortBox.new _ rfl (⟨2, 2⟩) _)
  clear hw
  clear qa0 qa1
  have D8 := Lib.hid (below_step D7.out hbx D7.out.size)
  have qa8_ := Lib.hid (qa7_.out.below hbx)
  have R8_ := Lib.hid (R7_.out.below hbx)
  clear hbx
  obtain ⟨_, qa0, qa1, _⟩ := qa8_.out
  obtain ⟨_, qb0, qb1, _⟩ := qb8_.out
  refine (C4.out _ D8.out).mono ?_
  rintro en w9 ⟨rfl, hbx⟩
  clear qa0 qa1 qb0 qb1
  have D9 := Lib.hid (below_step D8.out hbx D8.out.size)
  have qa9_ := Lib.hid (qa8_.out.below hbx)
  have qb9_ := Lib.hid (qb8_.out.below hbx)
  have R9_ := Lib.hid (R8_.out.below hbx)
  clear hbx
  obtain ⟨_, qa0, qa1, _⟩ := qa9_.out
  obtain ⟨_, qb0, qb1, _⟩ := qb9_.out
  go_wp2_with fail
  refine name_calls fun w10 hw => ?_
  have hbx : Below w9.heap.size w9 w10 := by rw [hw]; exact below_new2 _ _ _
  have qc10_ := Lib.hid (show PortBox w10 w9.heap.size ⟨2, 0⟩ by rw [hw]; exact (PortBox.new _ rfl ⟨2, 0⟩ _).below (below_new _ _))
  have S10_ := Lib.hid (show Row 2 encPort w10 (some ⟨w9.heap.size + 1, 0, none⟩) 3 [⟨1, 1⟩, ⟨2, 2⟩, ⟨4, 1⟩] by rw [hw]; have := row_ports3 (w9.alloc (.cells #[.int .i64 2, .int .i64 0] 30)) ⟨1, 1⟩ ⟨2, 2⟩ ⟨4, 1⟩; simpa using this)
  clear hw
  have E := Lib.hid (fun (u : World) (hb : Below w10.heap.size w10 u) => refSamePorts u ra (some ⟨w9.heap.size + 1, 0, none⟩) 3 3 rc 3 _ _ ((R9_.out.below hbx).below hb) (S10_.out.below hb))
  rw [show decide (([⟨1, 1⟩, ⟨2, 2⟩, ⟨4, 1⟩] : List Port) = [⟨1, 1⟩, ⟨2, 2⟩, ⟨4, 1⟩]) = true from by decide] at E
  have M := Lib.hid (fun (u : World) (hb : Below w10.heap.size w10 u) => nmetres_any u b smallPlan (HN3.out.below ((below_step D9.out hbx D9.out.size).trans (hb.mono (below_step D9.out hbx D9.out.size).size))) ra 3 rc _ (Lib.hid ((R9_.out.below hbx).below hb)) (by omega))
  rw [small_metres] at M
  have D10 := Lib.hid (below_step D9.out hbx D9.out.size)
  have qb10_ := Lib.hid (qb9_.out.below hbx)
  have e1 := eql_port (x := ⟨2, 2⟩) (y := ⟨2, 2⟩) (b := true) (by decide)
  have e2 := eql_port (x := ⟨2, 0⟩) (y := ⟨2, 0⟩) (b := true) (by decide)
  dsimp only at e1 e2
  clear hbx qa0 qa1 qb0 qb1
  refine (E.out _ (Below.refl _ _)).mono ?_
  rintro en w11 ⟨rfl, q, rfl⟩
  go_wp2_with fail
  refine (M.out _ (below_drewN (Below.refl _ _) _)).mono ?_
  rintro en w12 ⟨rfl, hbx⟩
  have D12 := Lib.hid (show Below w10.heap.size w10 w12 from below_step (below_drewN (Below.refl w10.heap.size w10) q) hbx (by simp))
  clear hbx
  obtain ⟨_, qb0, qb1, _⟩ := (qb10_.out.below D12.out)
  obtain ⟨_, qc0, qc1, _⟩ := (qc10_.out.below D12.out)
  dsimp only at qb0 qb1 qc0 qc1
  go_wp2_with fail
  go_ret
  exact ⟨rfl, below_step Hb3.out (below_step D10.out D12.out D10.out.size) Hb3.out.size⟩
end Go.Proofs.Ytackcfoplhhnbaa
