/- Slices of waits among the arguments. -/
import Derived.Test.YtkklnaejpgcgoaaOpen
import Derived.Test.YtkklnaejpgcgoaaLateW1
import Derived.Lib.SmallJoins
namespace Go.Proofs.Ytkklnaejpgcgoaa
open Go.ChangeShapes Go.WideShapes Go.ChangeAt Go.RowKit Go.Deep

section
variable {H : Type} {enc : TypeId × Value → H} {w : World}
theorem trod_wt {n : Nat} {cs : List Value} {y : DataW H × List MemPlace} (hy : DataW.trod enc Try.prog w 0 (fun _ => true) true n 34 cs = some y) : ∃ x : Wt, cs = encWt x ∧ True := by
  obtain ⟨xs, m, _, _, hl, hxl, hf⟩ := DataW.trod_struct Try.underlying34 hy
  have hc : Try.prog.cellsOf 34 = 3 := by kernel_rfl
  have h1 : Try.prog.cellsOf 3 = 1 := by kernel_rfl
  rw [hc] at hl
  have hxl : xs.length = 3 := hxl
  match cs, hl with
  | [c0, c1, c2], _ =>
    match xs, hxl with
    | [y0, y1, y2], _ =>
      have f0 : DataW.trod enc Try.prog w 0 (fun _ => true) true m 3 [c0] = some y0 := by have := hf 0 _ rfl; simpa [h1] using this
      have f1 : DataW.trod enc Try.prog w 0 (fun _ => true) true m 3 [c1] = some y1 := by have := hf 1 _ rfl; simpa [h1] using this
      have f2 : DataW.trod enc Try.prog w 0 (fun _ => true) true m 3 [c2] = some y2 := by have := hf 2 _ rfl; simpa [h1] using this
      obtain ⟨a, e0, _, _⟩ := DataW.trod_int Try.underlying3 f0
      obtain ⟨b, e1, _, _⟩ := DataW.trod_int Try.underlying3 f1
      obtain ⟨c, e2, _, _⟩ := DataW.trod_int Try.underlying3 f2
      simp only [List.cons.injEq, and_true] at e0 e1 e2
      subst e0; subst e1; subst e2
      exact ⟨⟨a, b, c⟩, rfl, trivial⟩

/-- []late.Wait -/
theorem open_Wts {v : Value} {d : DataW H} {p : List MemPlace} {r : Reach} {b0 : Nat} (hv : Value.okWide Try.prog w r b0 23 v) (h : DataW.Trod enc Try.prog w 0 (fun _ => true) true 23 v d p) :
    ∃ a n c xs, v = .slice a n c ∧ Wts w a n xs ∧ (∀ x ∈ xs, True) ∧ (a = none → c = 0) ∧ n ≤ c :=
  open_row (sz := 3) Try.underlying23 (by kernel_rfl) (by decide) (fun _ => rfl) (fun n cs y hy => trod_wt hy) hv h
end
end Go.Proofs.Ytkklnaejpgcgoaa
