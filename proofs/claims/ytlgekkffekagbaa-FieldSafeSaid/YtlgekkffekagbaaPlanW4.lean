/- Walks of plan.twice over its closures and of semaphoreref6.twice, names. No condition beyond what is read. -/
import Derived.Test.YtlgekkffekagbaaPlanW3
set_option maxRecDepth 1000000
namespace Go.Proofs.Ytlgekkffekagbaa
open Go.RowKit

/-- a function value whose calls answer the names of a list, one by one -/
structure Names (F : FuncId) (cap : Array Value) (w0 : World) (l : List ByteArray) : Prop where
  run : ∀ args w, (callFunc F args).run Try.prog w = .ok (.enter F args) w
  call : ∀ (i : Nat) (s : ByteArray), l[i]? = some s → ∀ w, Below w0.heap.size w0 w → Calls Try.prog F (#[.int .i64 i] ++ cap) w fun e w' => e = .returned (.string s) ∧ Below w.heap.size w w'
theorem zero_bool (w : World) : (zeroValue 4).run Try.prog w = .ok (.bool false) w := by kernel_rfl
def memB {α : Type} [DecidableEq α] (x : α) (l : List α) : Bool := decide (x ∈ l)
def seenIn {α : Type} [DecidableEq α] (l : List α) (s : α) : Option Bool := if memB s l then some true else none
theorem memB_iff {α : Type} [DecidableEq α] {x : α} {l : List α} : memB x l = true ↔ x ∈ l := by unfold memB; simp
theorem seen_key {α : Type} [DecidableEq α] (l : List α) (s : α) : seenIn (l ++ [s]) s = some true := by unfold seenIn; rw [if_pos (memB_iff.2 (by simp))]
theorem seen_other {α : Type} [DecidableEq α] (l : List α) {s z : α} (h : z ≠ s) : seenIn (l ++ [s]) z = seenIn l z := by
  unfold seenIn
  have : memB z (l ++ [s]) = memB z l := by rw [Bool.eq_iff_iff, memB_iff, memB_iff]; simp [h]
  rw [this]
theorem seen_yes {α : Type} [DecidableEq α] {l : List α} {s : α} (h : s ∈ l) : seenIn l s = some true := by unfold seenIn; rw [if_pos (memB_iff.2 h)]
theorem seen_no {α : Type} [DecidableEq α] {l : List α} {s : α} (h : s ∉ l) : seenIn l s = none := by unfold seenIn; rw [if_neg (fun e => h (memB_iff.1 e))]
theorem dup_hit {α : Type} [DecidableEq α] {l : List α} {j : Nat} {s : α} (hs : l[j]? = some s) (hr : dupGo (l.take j) (l.drop j) = dup l) (hm : s ∈ l.take j) : dup l = true := by
  rw [← hr, drop_cons hs, dupGo]; simp [hm]
theorem dup_next {α : Type} [DecidableEq α] {l : List α} {j : Nat} {s : α} (hs : l[j]? = some s) (hr : dupGo (l.take j) (l.drop j) = dup l) (hm : s ∉ l.take j) : dupGo (l.take (j + 1)) (l.drop (j + 1)) = dup l := by
  rw [drop_cons hs, dupGo] at hr
  rw [List.take_add_one, hs]
  simpa [hm] using hr
theorem dup_end {α : Type} [DecidableEq α] {l : List α} {j : Nat} (hr : dupGo (l.take j) (l.drop j) = dup l) (hj : l.length ≤ j) : dup l = false := by
  rw [← hr, List.drop_eq_nil_of_le hj]; rfl
theorem take_next {α : Type} {l : List α} {j : Nat} {s : α} (hs : l[j]? = some s) : l.take (j + 1) = l.take j ++ [s] := by rw [List.take_add_one, hs]; rfl

set_option maxHeartbeats 1000000 in
theorem twice_any (w : World) (F : FuncId) (cap : Array Value) (l : List ByteArray) (hF : Names F cap w l) (hn : l.length ≤ 1000) (hfit : ∀ s ∈ l, s.size ≤ 9223372036854775807) :
    Calls Try.prog 71 #[.int .i64 l.length, .func (.func F) #[] cap] w fun e w' => e = .returned (.bool (dup l)) ∧ Below w.heap.size w w' := by
  have hrun := hF.run
  have HF := Lib.hid hF; clear hF
  have Hfit := Lib.hid hfit; clear hfit
  have Hm := Lib.hid (MapOf.made strCode Value.bool w 9)
  have hmm := @run_makeMap Try.prog
  go_enter Try.func71, Try.ntmps71
  go_wp2_with fail
  clear hmm
  go_loopg [9] l.length (fun k i wr => ∃ (j : Nat), j + k = l.length ∧ i = .int .i64 j ∧ Hid (dupGo (l.take j) (l.drop j) = dup l) ∧ MapOf strCode Value.bool wr 9 w.heap.size j (seenIn (l.take j)) ∧ Below w.heap.size w wr)
  case atStart => exact ⟨0, by omega, rfl, rfl, Hm.out, below_new _ _⟩
  case round =>
    obtain ⟨j, hk, rfl, hr, hm, hb⟩ := hrel
    have Hk := Lib.hid hk; clear hk
    have Hmm := Lib.hid hm; clear hm
    have hz := hb.size
    have hml := Hmm.out.lt
    have Hb := Lib.hid hb; clear hb
    by_cases hlt : j < l.length
    · obtain ⟨s, hs⟩ : ∃ s, l[j]? = some s := ⟨_, List.getElem?_eq_getElem hlt⟩
      have Hs := Lib.hid hs
      have hsz := Hfit.out s (List.mem_of_getElem? hs)
      clear hs
      have H1 := Lib.hid (HF.out.call j s Hs.out)
      go_wp2_with fail
      refine (H1.out wr Hb.out).mono ?_
      rintro e w1 ⟨rfl, hb1⟩
      have Hb1 := Lib.hid hb1; clear hb1
      by_cases hmem : s ∈ l.take j
      · have hl := (Hmm.out.below Hb1.out hml).look_hit (seen_yes hmem) keyed_str Try.underlying119 zero_bool (key_str hsz)
        have Hd := Lib.hid (dup_hit Hs.out hr.out hmem)
        clear hmem
        go_wp2_with (at_lookup; refine wpList_look _ rfl _ _ _ _ rfl rfl rfl hl.1 ?_)
        go_ret
        exact ⟨ret_bool Hd.out.symm, below_step Hb.out Hb1.out Hb.out.size⟩
      · have hl := (Hmm.out.below Hb1.out hml).look_miss (seen_no hmem) keyed_str Try.underlying119 zero_bool (key_str hsz)
        have Hd := Lib.hid (dup_next Hs.out hr.out hmem)
        clear hmem
        go_wp2_with (at_lookup; refine wpList_look _ rfl _ _ _ _ rfl rfl rfl hl.1 ?_)
        refine (H1.out w1 (below_step Hb.out Hb1.out Hb.out.size)).mono ?_
        rintro e w2 ⟨rfl, hb2⟩
        have Hb2 := Lib.hid hb2; clear hb2 hl
        have hz1 := Hb1.out.size
        have Hst := Lib.hid (((Hmm.out.below Hb1.out hml).below Hb2.out (by omega)).store (t := 119) (e := 4) (x := s) (y := true) (seenIn (l.take (j + 1))) (by rw [take_next Hs.out]; exact seen_key _ _) (fun z hz => by rw [take_next Hs.out]; exact seen_other _ hz) (by unfold maxLen; omega) keyed_str Try.underlying119 (key_str hsz))
        go_wp2_with (at_mapUpdate; refine wpList_put _ rfl _ _ _ _ rfl rfl rfl rfl Hst.out ?_; rintro w3 ⟨hm3, hg3⟩)
        have hb3 : Below w.heap.size w w3 := (below_step (below_step Hb.out Hb1.out Hb.out.size) Hb2.out (by omega)).grown hg3 (by have := Hb2.out.size; omega) (by intro k hk; simp only [Option.some.injEq] at hk; omega)
        go_roundg (gk - 1)
        case measure => have := Hk.out; omega
        case rel => exact ⟨j + 1, by have := Hk.out; omega, by go_num, Hd.out, hm3, hb3⟩
    · go_wp2_with fail
      go_ret
      exact ⟨ret_bool (dup_end hr.out (by omega)).symm, Hb.out⟩
end Go.Proofs.Ytlgekkffekagbaa
