/- What semaphorelaw4 knows of the small plan's net holds. No condition. -/
import Derived.Test.YtlndfmflbdkpjaaMade
import Derived.Test.YtlndfmflbdkpjaaNetM3
import Derived.Test.YtlndfmflbdkpjaaNetM4
import Derived.Test.YtlndfmflbdkpjaaPlanW11
set_option maxRecDepth 1000000
namespace Go.Proofs.Ytlndfmflbdkpjaa
open Go.ChangeShapes Go.WideShapes Go.ChangeAt Go.RowKit Go.Sort

theorem small_fine : fine smallPlan = true := by decide +kernel
theorem small_next : nextOf smallPlan ⟨2, 2⟩ = some ⟨4, 0⟩ := by decide +kernel
theorem small_through : through smallPlan 2 0 2 = some 2 := by decide +kernel
theorem small_from : through smallPlan 2 0 1 = some 1 := by decide +kernel
theorem small_outs : outs smallPlan 2 0 = [⟨1, 1⟩, ⟨2, 2⟩] := by decide +kernel
theorem small_reads : reads smallPlan ⟨3, 0⟩ = 3 := by decide +kernel
theorem held_way : Try.prog.stoodInHeld 57 = false := by kernel_rfl
theorem eqlI_way (x1 x2 y1 y2 : Int) (w : World) : (binOp .eql 57 (.agg #[.int .i64 x1, .int .i64 x2]) (.agg #[.int .i64 y1, .int .i64 y2])).run Try.prog w = .ok (.bool (x1 == y1 && x2 == y2)) w ∧
    (binOp .neq 57 (.agg #[.int .i64 x1, .int .i64 x2]) (.agg #[.int .i64 y1, .int .i64 y2])).run Try.prog w = .ok (.bool (!(x1 == y1 && x2 == y2))) w := by
  have hi := Try.underlying3
  refine eql_struct Try.underlying57 held_way _ _ (fun w => ?_) w
  cases h1 : (x1 == y1) <;> cases h2 : (x2 == y2) <;> simp [Op.eqFields, go_sem, part, hi, h1, h2]
theorem wf_lit {a b : Int} (h1 : -100 ≤ a) (h2 : a ≤ 100) (h3 : -100 ≤ b) (h4 : b ≤ 100) : Port.wf ⟨a, b⟩ := ⟨inI_mk (by show _ ≤ a; omega) (by show a ≤ _; omega), inI_mk (by show _ ≤ b; omega) (by show b ≤ _; omega)⟩
set_option maxHeartbeats 4000000 in
theorem known4_any (w : World) : Calls Try.prog 32 #[] w fun e w' => e = .returned (.bool true) ∧ Below w.heap.size w w' := by
  go_enter Try.func32, Try.ntmps32
  go_wp2_with fail
  refine (small_any _).mono ?_
  rintro e w1 ⟨pv, rfl, hp, hlv, hb1⟩
  have HP := Lib.hid hp; have Hb1 := Lib.hid hb1
  clear hp hlv hb1
  go_wp2_with fail
  refine (made_any _ pv smallPlan small_fine HP.out).mono ?_
  rintro e w2 ⟨b, rfl, hbb, hn, hb2⟩
  have HN := Lib.hid hn
  have Hb2 := Lib.hid (below_step Hb1.out hb2 Hb1.out.size)
  have H1 := Lib.hid (nnext_any w2 b smallPlan hn ⟨2, 2⟩ (wf_lit (by omega) (by omega) (by omega) (by omega)))
  rw [small_next] at H1
  dsimp only [Port.val, Option.getD_some, Option.isSome_some] at H1
  have H2 := Lib.hid (fun (u : World) (hb : Below w2.heap.size w2 u) => nthrough_any u b smallPlan (hn.below hb) 2 0 2)
  rw [small_through] at H2
  dsimp only [Option.getD_some, Option.isSome_some] at H2
  have H3 := Lib.hid (fun (u : World) (hb : Below w2.heap.size w2 u) => nfrom_any u b smallPlan (hn.below hb) 2 0 1)
  rw [small_from] at H3
  dsimp only [Option.getD_some, Option.isSome_some] at H3
  have H4 := Lib.hid (fun (u : World) (hb : Below w2.heap.size w2 u) => nouts_any u b smallPlan (hn.below hb) 2 0)
  rw [small_outs] at H4
  have H5 := Lib.hid (fun (u : World) (hb : Below w2.heap.size w2 u) => nreads_any u b smallPlan (hn.below hb) ⟨3, 0⟩ (wf_lit (by omega) (by omega) (by omega) (by omega)))
  rw [small_reads] at H5
  dsimp only [Port.val] at H5
  have H6 := Lib.hid (fun (u : World) (hb : Below w2.heap.size w2 u) => nsignals_any u b smallPlan (hn.below hb))
  rw [show ((smallPlan.sigs.length : Nat) : Int) = 5 from rfl] at H6
  clear hn hb2
  go_wp2_with fail
  refine H1.out.mono ?_
  rintro e w3 ⟨rfl, hb3⟩
  go_wp2_with fail
  obtain ⟨v3, hv3⟩ : ∃ v3 : World, v3 = w3.alloc (.cells #[.int .i64 4, .int .i64 0] 44) := ⟨_, rfl⟩
  have k0 : v3.cell? ⟨w3.heap.size, 0, none⟩ = some (.int .i64 4) := by rw [hv3]; go_simp
  have k1 : v3.cell? ⟨w3.heap.size, 1, none⟩ = some (.int .i64 0) := by rw [hv3]; go_simp
  have hl3 : w3.heap.size < v3.heap.size := by rw [hv3]; simp
  have Hx3 := Lib.hid (show Below w2.heap.size w2 v3 by rw [hv3]; exact hb3.alloc hb3.size _)
  rw [← hv3]
  clear hv3 hb3
  refine (H2.out _ Hx3.out).mono ?_
  rintro e v4 ⟨rfl, hb4⟩
  have Hx4 := Lib.hid (below_step Hx3.out hb4 Hx3.out.size)
  have k0 := (hb4.cell (p := ⟨w3.heap.size, 0, none⟩) hl3).trans k0
  have k1 := (hb4.cell (p := ⟨w3.heap.size, 1, none⟩) hl3).trans k1
  have hl4 : w3.heap.size < v4.heap.size := Nat.lt_of_lt_of_le hl3 hb4.size
  clear hb4
  go_wp2_with fail
  refine (H3.out _ Hx4.out).mono ?_
  rintro e v5 ⟨rfl, hb5⟩
  have Hx5 := Lib.hid (below_step Hx4.out hb5 Hx4.out.size)
  have k0 := (hb5.cell (p := ⟨w3.heap.size, 0, none⟩) hl4).trans k0
  have k1 := (hb5.cell (p := ⟨w3.heap.size, 1, none⟩) hl4).trans k1
  have hl5 : w3.heap.size < v5.heap.size := Nat.lt_of_lt_of_le hl4 hb5.size
  clear hb5
  go_wp2_with fail
  refine (H4.out _ Hx5.out).mono ?_
  rintro e v6 ⟨a, n, c, rfl, hr, hn2, hb6⟩
  have Hx6 := Lib.hid (below_step Hx5.out hb6 Hx5.out.size)
  have k0 := (hb6.cell (p := ⟨w3.heap.size, 0, none⟩) hl5).trans k0
  have k1 := (hb6.cell (p := ⟨w3.heap.size, 1, none⟩) hl5).trans k1
  have hl6 : w3.heap.size < v6.heap.size := Nat.lt_of_lt_of_le hl5 hb6.size
  obtain rfl : 2 = n := hr.len
  obtain ⟨g, off, rfl, hg, r1, r2⟩ := hr.way (i := 1) rfl
  dsimp only at r1 r2
  have qp := eql_port (x := ⟨4, 0⟩) (y := ⟨4, 0⟩) (b := true) (by decide)
  dsimp only at qp
  have qw := fun w' => (eqlI_way 2 2 2 2 w').1
  clear hb6 hr
  go_wp2_with fail
  refine (H5.out _ Hx6.out).mono ?_
  rintro e v7 ⟨rfl, hb7⟩
  have Hx7 := Lib.hid (below_step Hx6.out hb7 Hx6.out.size)
  clear hb7
  go_wp2_with fail
  refine (H6.out _ Hx7.out).mono ?_
  rintro e v8 ⟨rfl, rfl⟩
  go_wp2_with fail
  go_ret
  exact ⟨rfl, below_step Hb2.out Hx7.out Hb2.out.size⟩
end Go.Proofs.Ytlndfmflbdkpjaa
