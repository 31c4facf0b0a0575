/- What a road is made of, in plain words. No condition. -/
import Derived.Test.YtcaeglnfflkabaaGreatPure
namespace Go.Proofs.YtcaeglnfflkabaaGreat

structure Stp where
  e : Int
  i : Int
  o : Int
  deriving DecidableEq, Inhabited
structure Need where
  e : Int
  pos : Int
  deriving DecidableEq, Inhabited
structure Road where
  frm : Int
  to : Int
  fin : Int
  steps : List Stp
  needs : List Need
  guards : List Need
  zone : List Int
  holds : List Int
  bare : Bool
  deriving DecidableEq
def Stp.val (x : Stp) : Value := .agg #[.int .i64 x.e, .int .i64 x.i, .int .i64 x.o]
/-- There are no points and no crossings. -/
def Even (p : Plan) : Prop := ∀ e, p.kind e ≠ 2 ∧ p.kind e ≠ 3
theorem even_outs {p : Plan} (h : Even p) (e i : Int) : outs p e i = [] ∨ ∃ o, outs p e i = [⟨o, 0⟩] := by
  obtain ⟨h2, h3⟩ := h e
  unfold outs
  split
  · exact .inl rfl
  · split
    · exact .inr ⟨_, rfl⟩
    · first
        | exact .inl rfl
        | (split
           · exact .inr ⟨_, rfl⟩
           · first
              | exact .inl rfl
              | (rw [if_neg h2]; exact .inl rfl))
theorem outs_gate {p : Plan} {e : Int} (h : p.kind e = 4) (i : Int) : outs p e i = [] := by
  unfold outs
  rw [h]
  split <;> simp
end Go.Proofs.YtcaeglnfflkabaaGreat
