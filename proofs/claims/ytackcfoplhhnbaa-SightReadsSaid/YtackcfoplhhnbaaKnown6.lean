/- What semaphorelaw6 knows of the small plan's net holds. No condition. -/
import Derived.Test.YtackcfoplhhnbaaSightW3
import Derived.Test.YtackcfoplhhnbaaKnown5
set_option maxRecDepth 1000000
namespace Go.Proofs.Ytackcfoplhhnbaa
open Go.ChangeShapes Go.WideShapes Go.ChangeAt Go.RowKit Go.Sort

theorem small_ahead1 : ahead smallPlan [0, 0, 1, 0, 0, 0] ⟨5, 0⟩ = some (2, 0) := by decide +kernel
theorem small_ahead2 : ahead smallPlan [0, 0, 1, 0, 0, 0] ⟨4, 1⟩ = none := by decide +kernel
theorem small_berth : sigAt smallPlan 1 = some ⟨1, 1⟩ := by decide +kernel
theorem small_loop1 : inLoop smallPlan ⟨1, 1⟩ 15 = true := by decide +kernel
theorem small_loop2 : inLoop smallPlan ⟨1, 1⟩ 16 = false := by decide +kernel
theorem small_route1 : route smallPlan [0, 0, 1, 0, 0, 0] ⟨0, 0⟩ = [0, 1] := by decide +kernel
theorem small_route2 : route smallPlan [0, 0, 1, 0, 0, 0] ⟨5, 0⟩ = [2, 3] := by decide +kernel
theorem row_ints2 (w : World) (a b : Int) : Ints (w.alloc (.cells #[.int .i64 a, .int .i64 b] 3)) (some ⟨w.heap.size, 0, none⟩) 2 [a, b] :=
  row_block (sz := 1) (enc := encInt) (fun _ => rfl) (by decide) [a, b] (heap_alloc_new w _) rfl rfl (by omega)
theorem samei_b {w : World} {a1 a2 : Option Addr} {n1 n2 c1 c2 : Nat} {xs ys : List Int} (h1 : Ints w a1 n1 xs) (h2 : Ints w a2 n2 ys) (he : xs = ys) :
    Calls Try.prog 40 #[.slice a1 n1 c1, .slice a2 n2 c2] w fun e w' => e = .returned (.bool true) ∧ Below w.heap.size w w' :=
  (refSameInts w a1 a2 n1 n2 c1 c2 xs ys h1 h2).mono fun _ _ ⟨h, q, hw⟩ => ⟨by rw [h, he]; simp, by rw [hw]; exact below_drewN (Below.refl _ _) q⟩
set_option maxHeartbeats 4000000 in
theorem known6_any (w : World) : Calls Try.prog 33 #[] w fun e w' => e = .returned (.bool true) ∧ Below w.heap.size w w' := by
  go_enter Try.func33, Try.ntmps33
  go_wp2_with fail
  refine (small_any _).mono ?_
  rintro e w1 ⟨pv, rfl, hp, hlv, hb1⟩
  have HP := Lib.hid hp; have Hb1 := Lib.hid hb1
  clear hp hlv hb1
  go_wp2_with fail
  refine (made_any _ pv smallPlan small_fine HP.out).mono ?_
  rintro e w2 ⟨b, rfl, hbb, hn, hb2⟩
  have HN2 := Lib.hid hn
  have Hb2 := Lib.hid (below_step Hb1.out hb2 Hb1.out.size)
  clear hn hb2
  go_wp2_with fail
  refine name_calls fun w3 hw => ?_
  have hbx : Below w2.heap.size w2 w3 := by rw [hw]; exact below_new _ _
  have Hr3 := Lib.hid (show Ints w3 (some ⟨w2.heap.size, 0, none⟩) 6 [0, 0, 1, 0, 0, 0] by rw [hw]; exact row_ints6 w2 0 0 1 0 0 0)
  have HN3 := Lib.hid (HN2.out.below hbx)
  have Hb3 := Lib.hid (below_step Hb2.out hbx Hb2.out.size)
  have D3 := Lib.hid (Below.refl w3.heap.size w3)
  clear hw hbx
  have C1 := Lib.hid (fun (u : World) (hb : Below w3.heap.size w3 u) => nahead_any u b smallPlan (HN3.out.below hb) (some ⟨w2.heap.size, 0, none⟩) 6 6 _ (Lib.hid (Hr3.out.below hb)) ⟨5, 0⟩ (wf_lit (by omega) (by omega) (by omega) (by omega)))
  rw [small_ahead1] at C1
  have C2 := Lib.hid (fun (u : World) (hb : Below w3.heap.size w3 u) => nberth_any u b smallPlan (HN3.out.below hb) 1)
  rw [small_berth] at C2
  have C3 := Lib.hid (fun (u : World) (hb : Below w3.heap.size w3 u) => nahead_any u b smallPlan (HN3.out.below hb) (some ⟨w2.heap.size, 0, none⟩) 6 6 _ (Lib.hid (Hr3.out.below hb)) ⟨4, 1⟩ (wf_lit (by omega) (by omega) (by omega) (by omega)))
  rw [small_ahead2] at C3
  have C4 := Lib.hid (fun (u : World) (hb : Below w3.heap.size w3 u) => ninloop_any u b smallPlan (HN3.out.below hb) ⟨1, 1⟩ (wf_lit (by omega) (by omega) (by omega) (by omega)) 15)
  rw [small_loop1] at C4
  have C5 := Lib.hid (fun (u : World) (hb : Below w3.heap.size w3 u) => ninloop_any u b smallPlan (HN3.out.below hb) ⟨1, 1⟩ (wf_lit (by omega) (by omega) (by omega) (by omega)) 16)
  rw [small_loop2] at C5
  have C6 := Lib.hid (fun (u : World) (hb : Below w3.heap.size w3 u) => nroute_any u b smallPlan (HN3.out.below hb) (some ⟨w2.heap.size, 0, none⟩) 6 6 _ (Lib.hid (Hr3.out.below hb)) ⟨0, 0⟩ (wf_lit (by omega) (by omega) (by omega) (by omega)))
  rw [small_route1] at C6
  have C7 := Lib.hid (fun (u : World) (hb : Below w3.heap.size w3 u) => nroute_any u b smallPlan (HN3.out.below hb) (some ⟨w2.heap.size, 0, none⟩) 6 6 _ (Lib.hid (Hr3.out.below hb)) ⟨5, 0⟩ (wf_lit (by omega) (by omega) (by omega) (by omega)))
  rw [small_route2] at C7
  dsimp only [Port.val, zeroPort, Option.getD_some, Option.getD_none, Option.isSome_none, Option.isSome_some] at C1 C2 C3 C4 C5 C6 C7
  refine (C1.out _ D3.out).mono ?_
  rintro en w4 ⟨rfl, hbx⟩
  have D4 := Lib.hid (below_step D3.out hbx D3.out.size)
  clear hbx
  go_wp2_with fail
  refine (C2.out _ D4.out).mono ?_
  rintro en w5 ⟨rfl, hbx⟩
  have D5 := Lib.hid (below_step D4.out hbx D4.out.size)
  clear hbx
  go_wp2_with fail
  refine (C3.out _ D5.out).mono ?_
  rintro en w6 ⟨rfl, hbx⟩
  have D6 := Lib.hid (below_step D5.out hbx D5.out.size)
  clear hbx
  go_wp2_with fail
  refine (C4.out _ D6.out).mono ?_
  rintro en w7 ⟨rfl, hbx⟩
  have D7 := Lib.hid (below_step D6.out hbx D6.out.size)
  clear hbx
  go_wp2_with fail
  refine (C5.out _ D7.out).mono ?_
  rintro en w8 ⟨rfl, hbx⟩
  have D8 := Lib.hid (below_step D7.out hbx D7.out.size)
  clear hbx
  go_wp2_with fail
  refine (C6.out _ D8.out).mono ?_
  rintro en w9 ⟨Qa, Qn, Qc, rfl, hrow, hrc, hbx⟩
  have D9 := Lib.hid (below_step D8.out hbx D8.out.size)
  have Q9_ := Lib.hid hrow
  clear hrow hrc hbx
  go_wp2_with fail
  refine name_calls fun w10 hw => ?_
  have hbx : Below w9.heap.size w9 w10 := by rw [hw]; exact below_new _ _
  have T10_ := Lib.hid (show Ints w10 (some ⟨w9.heap.size, 0, none⟩) 2 [0, 1] by rw [hw]; exact row_ints2 w9 0 1)
  have D10 := Lib.hid (below_step D9.out hbx D9.out.size)
  have Q10_ := Lib.hid (Q9_.out.below hbx)
  clear hw hbx
  refine (samei_b Q10_.out T10_.out rfl).mono ?_
  rintro en w11 ⟨rfl, hbx⟩
  have D11 := Lib.hid (below_step D10.out hbx D10.out.size)
  clear hbx
  go_wp2_with fail
  refine (C7.out _ D11.out).mono ?_
  rintro en w12 ⟨Sa, Sn, Sc, rfl, hrow, hrc, hbx⟩
  have D12 := Lib.hid (below_step D11.out hbx D11.out.size)
  have S12_ := Lib.hid hrow
  clear hrow hrc hbx
  go_wp2_with fail
  refine name_calls fun w13 hw => ?_
  have hbx : Below w12.heap.size w12 w13 := by rw [hw]; exact below_new _ _
  have T13_ := Lib.hid (show Ints w13 (some ⟨w12.heap.size, 0, none⟩) 2 [2, 3] by rw [hw]; exact row_ints2 w12 2 3)
  have D13 := Lib.hid (below_step D12.out hbx D12.out.size)
  have S13_ := Lib.hid (S12_.out.below hbx)
  clear hw hbx
  refine (samei_b S13_.out T13_.out rfl).mono ?_
  rintro en w14 ⟨rfl, hbx⟩
  have D14 := Lib.hid (below_step D13.out hbx D13.out.size)
  clear hbx
  go_wp2_with fail
  go_ret
  exact ⟨rfl, below_step Hb3.out D14.out Hb3.out.size⟩
end Go.Proofs.Ytackcfoplhhnbaa
