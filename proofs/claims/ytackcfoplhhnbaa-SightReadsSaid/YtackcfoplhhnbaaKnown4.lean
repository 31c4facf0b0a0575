/- What semaphorelaw4 knows of the small plan's net holds. No condition. -/
import Derived.Test.YtackcfoplhhnbaaMade
import Derived.Test.YtackcfoplhhnbaaNetM3
import Derived.Test.YtackcfoplhhnbaaNetM4
import Derived.Test.YtackcfoplhhnbaaPlanW11
set_option maxRecDepth 1000000
namespace Go.Proofs.Ytackcfoplhhnbaa
open Go.ChangeShapes Go.WideShapes Go.ChangeAt Go.RowKit Go.Sort

theorem small_fine : fine smallPlan = true := by decide +kernel
theorem small_next : nextOf smallPlan ⟨2, 2⟩ = some ⟨4, 0⟩ := by decide +kernel
theorem small_through : through smallPlan 2 0 2 = some 2 := by decide +kernel
theorem small_from : through smallPlan 2 0 1 = some 1 := by decide +kernel
theorem small_outs : outs smallPlan 2 0 = [⟨1, 1⟩, ⟨2, 2⟩] := by decide +kernel
theorem small_reads : reads smallPlan ⟨3, 0⟩ = 3 := by decide +kernel
theorem held_way : Try.prog.stoodInHeld 110 = false := by kernel_rfl
theorem eqlI_way (x1 x2 y1 y2 : Int) (w : World) : (binOp .eql 110 (.agg #[.int .i64 x1, .int .i64 x2]) (.agg #[.int .i64 y1, .int .i64 y2])).run Try.prog w = .ok (.bool (x1 == y1 && x2 == y2)) w ∧
    (binOp .neq 110 (.agg #[.int .i64 x1, .int .i64 x2]) (.agg #[.int .i64 y1, .int .i64 y2])).run Try.prog w = .ok (.bool (!(x1 == y1 && x2 == y2))) w := by
  have hi := Try.underlying3
  refine eql_struct Try.underlying110 held_way _ _ (fun w => ?_) w
  cases h1 : (x1 == y1) <;> cases h2 : (x2 == y2) <;> simp [Op.eqFields, go_sem, part, hi, h1, h2]
theorem wf_lit {a b : Int} (h1 : -100 ≤ a) (h2 : a ≤ 100) (h3 : -100 ≤ b) (h4 : b ≤ 100) : Port.wf ⟨a, b⟩ := ⟨inI_mk (by show _ ≤ a; omega) (by show a ≤ _; omega), inI_mk (by show _ ≤ b; omega) (by show b ≤ _; omega)⟩
end Go.Proofs.Ytackcfoplhhnbaa
