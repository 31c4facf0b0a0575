/- A scope with two labels: the run jumps back to label 0, a number falling at each jump, and at last to label 1. No condition. -/
import Derived.Test.YtackcfoplhhnbaaBase
import Derived.WalkMore
import Derived.ScopeJumps
namespace Go.Proofs.Ytackcfoplhhnbaa
/-- by a goto to label 0: J0; to label 1: J1; else as Q -/
def jump2 (J0 J1 : Act → World → Prop) (Q : Exit → Act → World → Prop) : Exit → Act → World → Prop
  | .goto l, a, w => (l = 0 ∧ J0 a w) ∨ (l = 1 ∧ J1 a w)
  | e, a, w => Q e a w
section
variable {P : Program} {a : Act} {w : World} {Q : Exit → Act → World → Prop}
theorem scope_ghost2 {c r0 r1 : Go.Code} (J0 : Nat → Act → World → Prop) (J1 : Act → World → Prop) (h0 : findLabel c 0 = some r0) (h1 : findLabel c 1 = some r1)
    (first : c.wp P (jump2 (fun a' w' => ∃ n, J0 n a' w') J1 Q) a w)
    (pass : ∀ n a w, J0 n a w → r0.wp P (jump2 (fun a' w' => ∃ m, m < n ∧ J0 m a' w') J1 Q) a w)
    (last : ∀ a w, J1 a w → r1.wp P (Exit.noGoto Q) a w) : (Go.Code.scope c).wp P Q a w := by
  intro b k cs
  have g0 : gotoIn 0 (.inScope c :: k) = some (.code r0 :: .inScope c :: k) := by simp [gotoIn, h0]
  have g1 : gotoIn 1 (.inScope c :: k) = some (.code r1 :: .inScope c :: k) := by simp [gotoIn, h1]
  have fin : ∀ a w, J1 a w → ∃ e a' w', Q e a' w' ∧ Arrives P (lone (b.at a (.code r1 :: .inScope c :: k)) cs w) b k cs e a' w' := by
    intro a w hJ
    obtain ⟨e, x, v, hq, harr⟩ := last a w hJ b (.inScope c :: k) cs
    cases e with
    | goto l' => exact hq.elim
    | normal => exact ⟨.normal, x, v, hq, Steps.trans harr (.one step_inScope)⟩
    | exit id => exact ⟨.exit id, x, v, hq, fun k' hk => harr k' (by simp [exitTo, hk])⟩
    | ret => exact ⟨_, x, v, hq, harr⟩
    | panic ch => exact ⟨_, x, v, hq, harr⟩
    | outgrown => exact ⟨_, x, v, hq, harr⟩
  have key : ∀ n a w, J0 n a w → ∃ e a' w', Q e a' w' ∧ Arrives P (lone (b.at a (.code r0 :: .inScope c :: k)) cs w) b k cs e a' w' := by
    intro n
    induction n using Nat.strongRecOn with
    | _ n ih =>
      intro a w hJ
      obtain ⟨e, x, v, hq, harr⟩ := pass n a w hJ b (.inScope c :: k) cs
      cases e with
      | goto l' =>
        rcases hq with ⟨rfl, m, hm, hJ'⟩ | ⟨rfl, hJ'⟩
        · obtain ⟨e2, x2, v2, hq2, harr2⟩ := ih m hm x v hJ'
          exact ⟨e2, x2, v2, hq2, .of_steps (harr _ g0) harr2⟩
        · obtain ⟨e2, x2, v2, hq2, harr2⟩ := fin x v hJ'
          exact ⟨e2, x2, v2, hq2, .of_steps (harr _ g1) harr2⟩
      | normal => exact ⟨.normal, x, v, hq, Steps.trans harr (.one step_inScope)⟩
      | exit id => exact ⟨.exit id, x, v, hq, fun k' hk => harr k' (by simp [exitTo, hk])⟩
      | ret => exact ⟨_, x, v, hq, harr⟩
      | panic ch => exact ⟨_, x, v, hq, harr⟩
      | outgrown => exact ⟨_, x, v, hq, harr⟩
  obtain ⟨e, x, v, hq, harr⟩ := first b (.inScope c :: k) cs
  cases e with
  | goto l' =>
    rcases hq with ⟨rfl, m, hJ'⟩ | ⟨rfl, hJ'⟩
    · obtain ⟨e2, x2, v2, hq2, harr2⟩ := key m x v hJ'
      exact ⟨e2, x2, v2, hq2, .of_steps (.head step_scope (harr _ g0)) harr2⟩
    · obtain ⟨e2, x2, v2, hq2, harr2⟩ := fin x v hJ'
      exact ⟨e2, x2, v2, hq2, .of_steps (.head step_scope (harr _ g1)) harr2⟩
  | normal => exact ⟨.normal, x, v, hq, .head step_scope (Steps.trans harr (.one step_inScope))⟩
  | exit id => exact ⟨.exit id, x, v, hq, fun k' hk => .head step_scope (harr k' (by simp [exitTo, hk]))⟩
  | ret => exact ⟨_, x, v, hq, .of_steps (.one step_scope) harr⟩
  | panic ch => exact ⟨_, x, v, hq, .of_steps (.one step_scope) harr⟩
  | outgrown => exact ⟨_, x, v, hq, .of_steps (.one step_scope) harr⟩
/-- the same, where the first way comes to label 0, too -/
theorem scope_first {c r0 r1 : Go.Code} (J0 : Nat → Act → World → Prop) (J1 : Act → World → Prop) (h0 : findLabel c 0 = some (Go.Code.skip.seq r0)) (h1 : findLabel c 1 = some (Go.Code.skip.seq r1))
    (first : (∀ n a w, J0 n a w → r0.wp P (jump2 (fun a' w' => ∃ n, J0 n a' w') J1 Q) a w) → c.wp P (jump2 (fun a' w' => ∃ n, J0 n a' w') J1 Q) a w)
    (pass : ∀ n a w, J0 n a w → r0.wp P (jump2 (fun a' w' => ∃ m, m < n ∧ J0 m a' w') J1 Q) a w)
    (last : ∀ a w, J1 a w → r1.wp P (Exit.noGoto Q) a w) : (Go.Code.scope c).wp P Q a w := by
  refine scope_ghost2 J0 J1 h0 h1 (first fun n a w h => wp_mono (pass n a w h) ?_) (fun n a w h => wp_seq (wp_skip (pass n a w h))) (fun a w h => wp_seq (wp_skip (last a w h)))
  intro e a w he
  cases e with
  | goto l =>
    rcases he with ⟨h1, m, _, h2⟩ | h
    · exact .inl ⟨h1, m, h2⟩
    · exact .inr h
  | normal => exact he
  | exit id => exact he
  | ret => exact he
  | panic ch => exact he
  | outgrown => exact he
end
end Go.Proofs.Ytackcfoplhhnbaa
