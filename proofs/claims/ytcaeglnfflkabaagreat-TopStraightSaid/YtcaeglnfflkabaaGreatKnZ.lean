/- known answers true. -/
import Derived.Test.YtcaeglnfflkabaaGreatEv8
import Derived.Test.YtcaeglnfflkabaaGreatKn0
import Derived.Test.YtcaeglnfflkabaaGreatKn1
import Derived.Test.YtcaeglnfflkabaaGreatKn2
import Derived.Test.YtcaeglnfflkabaaGreatKn3
import Derived.Test.YtcaeglnfflkabaaGreatKn4
import Derived.Test.YtcaeglnfflkabaaGreatKn5
import Derived.Test.YtcaeglnfflkabaaGreatKn6
namespace Go.Proofs.YtcaeglnfflkabaaGreat.Ev
open Go.Proofs
theorem mixed : Tryz.prog.follows .mixedOrders = true := by kernel_rfl
theorem hreg : RegOk Tryz.prog Tryz.f5.ntmps reg := regE_ok mixed (reckoned mixed 3000 60) _
theorem seq0 : b0 = .seq (cL b0) b1 := by kernel_rfl
theorem seq1 : b1 = .seq (cL b1) b2 := by kernel_rfl
theorem seq2 : b2 = .seq (cL b2) b3 := by kernel_rfl
theorem seq3 : b3 = .seq (cL b3) b4 := by kernel_rfl
theorem seq4 : b4 = .seq (cL b4) b5 := by kernel_rfl
theorem seq5 : b5 = .seq (cL b5) b6 := by kernel_rfl
theorem seq6 : b6 = .seq (cL b6) b7 := by kernel_rfl
theorem seqL : cL b6 = .seq (cL (cL b6)) (.block 0 (.loop lb)) := by kernel_rfl
theorem loop12 : CodeOk Tryz.prog Tryz.f5.ntmps (.loop lb) (stOf eL12 hL12 12172).env (stOf eL12 hL12 12172).h (stOf eL12 hL12 12172).n ⟨.exit 0, stOf eX hX 12172⟩ := (ends_ok hreg kX).loop_out
theorem loop11 : CodeOk Tryz.prog Tryz.f5.ntmps (.loop lb) (stOf eL11 hL11 11372).env (stOf eL11 hL11 11372).h (stOf eL11 hL11 11372).n ⟨.exit 0, stOf eX hX 12172⟩ := (ends_ok hreg kL12).loop_more loop12
theorem loop10 : CodeOk Tryz.prog Tryz.f5.ntmps (.loop lb) (stOf eL10 hL10 10572).env (stOf eL10 hL10 10572).h (stOf eL10 hL10 10572).n ⟨.exit 0, stOf eX hX 12172⟩ := (ends_ok hreg kL11).loop_more loop11
theorem loop9 : CodeOk Tryz.prog Tryz.f5.ntmps (.loop lb) (stOf eL9 hL9 9772).env (stOf eL9 hL9 9772).h (stOf eL9 hL9 9772).n ⟨.exit 0, stOf eX hX 12172⟩ := (ends_ok hreg kL10).loop_more loop10
theorem loop8 : CodeOk Tryz.prog Tryz.f5.ntmps (.loop lb) (stOf eL8 hL8 8972).env (stOf eL8 hL8 8972).h (stOf eL8 hL8 8972).n ⟨.exit 0, stOf eX hX 12172⟩ := (ends_ok hreg kL9).loop_more loop9
theorem loop7 : CodeOk Tryz.prog Tryz.f5.ntmps (.loop lb) (stOf eL7 hL7 8172).env (stOf eL7 hL7 8172).h (stOf eL7 hL7 8172).n ⟨.exit 0, stOf eX hX 12172⟩ := (ends_ok hreg kL8).loop_more loop8
theorem loop6 : CodeOk Tryz.prog Tryz.f5.ntmps (.loop lb) (stOf eL6 hL6 7372).env (stOf eL6 hL6 7372).h (stOf eL6 hL6 7372).n ⟨.exit 0, stOf eX hX 12172⟩ := (ends_ok hreg kL7).loop_more loop7
theorem loop5 : CodeOk Tryz.prog Tryz.f5.ntmps (.loop lb) (stOf eL5 hL5 6572).env (stOf eL5 hL5 6572).h (stOf eL5 hL5 6572).n ⟨.exit 0, stOf eX hX 12172⟩ := (ends_ok hreg kL6).loop_more loop6
theorem loop4 : CodeOk Tryz.prog Tryz.f5.ntmps (.loop lb) (stOf eL4 hL4 5772).env (stOf eL4 hL4 5772).h (stOf eL4 hL4 5772).n ⟨.exit 0, stOf eX hX 12172⟩ := (ends_ok hreg kL5).loop_more loop5
theorem loop3 : CodeOk Tryz.prog Tryz.f5.ntmps (.loop lb) (stOf eL3 hL3 4972).env (stOf eL3 hL3 4972).h (stOf eL3 hL3 4972).n ⟨.exit 0, stOf eX hX 12172⟩ := (ends_ok hreg kL4).loop_more loop4
theorem loop2 : CodeOk Tryz.prog Tryz.f5.ntmps (.loop lb) (stOf eL2 hL2 4172).env (stOf eL2 hL2 4172).h (stOf eL2 hL2 4172).n ⟨.exit 0, stOf eX hX 12172⟩ := (ends_ok hreg kL3).loop_more loop3
theorem loop1 : CodeOk Tryz.prog Tryz.f5.ntmps (.loop lb) (stOf eL1 hL1 3351).env (stOf eL1 hL1 3351).h (stOf eL1 hL1 3351).n ⟨.exit 0, stOf eX hX 12172⟩ := (ends_ok hreg kL2).loop_more loop2
theorem loop0 : CodeOk Tryz.prog Tryz.f5.ntmps (.loop lb) (stOf eL0 hL0 2544).env (stOf eL0 hL0 2544).h (stOf eL0 hL0 2544).n ⟨.exit 0, stOf eX hX 12172⟩ := (ends_ok hreg kL1).loop_more loop1
theorem all : CodeOk Tryz.prog Tryz.f5.ntmps b0 .leaf .leaf 0 ⟨.ret, stOf [(0, bt)] [] 12177⟩ := by
  rw [seq0]
  refine CodeOk.seq (ends_ok (s := ⟨.leaf, .leaf, 0⟩) hreg kA0) ?_
  rw [seq1]
  refine CodeOk.seq (ends_ok hreg kA1) ?_
  rw [seq2]
  refine CodeOk.seq (ends_ok hreg kA2) ?_
  rw [seq3]
  refine CodeOk.seq (ends_ok hreg kA3) ?_
  rw [seq4]
  refine CodeOk.seq (ends_ok hreg kA4) ?_
  rw [seq5]
  refine CodeOk.seq (ends_ok hreg kA5) ?_
  rw [seq6]
  refine CodeOk.seq (s := stOf eX hX 12172) ?_ (ends_ok hreg kZ)
  rw [seqL]
  exact CodeOk.seq (ends_ok hreg kL0) (CodeOk.block loop0)
theorem get5 : Tryz.prog.funcs[5]? = some Tryz.f5 := by kernel_rfl
theorem body5 : Tryz.f5.body = some b0 := by kernel_rfl
theorem results5 : Tryz.f5.results = #[.tmp 0] := by kernel_rfl
/-- known answers true, and leaves all that was there as it was. -/
theorem known_true (w : World) : Calls Tryz.prog 5 #[] w fun e w' => e = .returned (.bool true) ∧ w'.os = w.os ∧ w'.tape = w.tape ∧ w'.output = w.output ∧ w.heap.size ≤ w'.heap.size ∧
    ∀ B, B < w.heap.size → w'.heap[B]? = w.heap[B]? :=
  call0 get5 body5 all results5 (by rw [treeOf, T.get_put, if_pos rfl]; rfl) w
end Go.Proofs.YtcaeglnfflkabaaGreat.Ev
