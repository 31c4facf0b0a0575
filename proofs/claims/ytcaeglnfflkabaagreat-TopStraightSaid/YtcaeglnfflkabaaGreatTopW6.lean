/- Walk of road.All. Condition: the net is read; it has no points and no crossings. -/
import Derived.Test.YtcaeglnfflkabaaGreatTopW5
set_option maxRecDepth 1000000
namespace Go.Proofs.YtcaeglnfflkabaaGreat
open Go.ChangeShapes Go.WideShapes Go.ChangeAt Go.RowKit Go.Sort

theorem net_at {w : World} {nb : Nat} {p : Plan} (h : NetAt w nb p) : (∀ x y, nextOf p x = some y → y.wf) ∧ (∀ s x, sigAt p s = some x → x.wf) ∧ p.sigs.length ≤ 60 := by
  obtain ⟨v, _, _, _, _, h⟩ := h
  refine ⟨fun x y hn => next_wfT h.plan.fit hn, fun s x hs => ?_, by rw [h.plan.s.len]; exact h.few.2.2.1⟩
  unfold sigAt at hs
  split at hs
  · cases hg : p.sigs[s.toNat]? with
    | none => rw [hg] at hs; cases hs
    | some y =>
      rw [hg] at hs
      cases hs
      exact (h.plan.fit.s y (List.mem_of_getElem? hg)).1
  · cases hs
/-- roads of the first i signals, at most one of each -/
structure Firsts (i : Nat) (xs : List RoadV) : Prop where
  frm : ∀ x ∈ xs, ∃ s : Nat, s < i ∧ Plain (s : Int) x
  len : xs.length ≤ i
  one : (xs.map (·.r.frm)).Nodup
theorem Firsts.app {i : Nat} {xs ys : List RoadV} (h : Firsts i xs) (hl : ys.length ≤ 1) (hy : ∀ y ∈ ys, Plain (i : Int) y) : Firsts (i + 1) (xs ++ ys) := by
  refine ⟨fun x hx => ?_, by rw [List.length_append]; have := h.len; omega, ?_⟩
  · rcases List.mem_append.1 hx with hx | hx
    · obtain ⟨s, hs, hp⟩ := h.frm x hx
      exact ⟨s, by omega, hp⟩
    · exact ⟨i, by omega, hy x hx⟩
  · rw [List.map_append, List.nodup_append]
    refine ⟨h.one, ?_, fun a ha b hb => ?_⟩
    · match ys, hl with
      | [], _ => simp
      | [_], _ => simp
      | _ :: _ :: _, hl => simp at hl
    · obtain ⟨x, hx, rfl⟩ := List.mem_map.1 ha
      obtain ⟨y, hy2, rfl⟩ := List.mem_map.1 hb
      obtain ⟨s, hs, hp⟩ := h.frm x hx
      rw [hp.frm, (hy y hy2).frm]
      omega
def AllPost (w : World) (n : Nat) (e : Ending) (w' : World) : Prop := Below w.heap.size w w' ∧ (e = .returned (.tuple #[.slice none 0 0, .int .i64 3]) ∨ ∃ (v : Value) (xs : List RoadV), e = .returned (.tuple #[v, .int .i64 0]) ∧ OwnR w' w.heap.size v xs ∧ Firsts n xs)
set_option maxHeartbeats 4000000 in
theorem nall_any (w : World) (nb : Nat) (p : Plan) (h : NetAt w nb p) (he : Even p) : Calls Tryz.prog 28 #[.pointer (some ⟨nb, 0, none⟩)] w (AllPost w p.sigs.length) := by
  have HS := Lib.hid (nsignals_any w nb p h)
  have Hh := Lib.hid h
  have He := Lib.hid he
  obtain ⟨ha, hb, hn60⟩ := net_at h
  have Ha := Lib.hid ha
  have Hb := Lib.hid hb
  obtain ⟨n, hn⟩ : ∃ n, n = p.sigs.length := ⟨_, rfl⟩
  rw [← hn] at HS hn60 ⊢
  clear h he ha hb hn
  go_enter Tryz.func28, Tryz.ntmps28
  go_wp2_with fail
  refine HS.out.mono ?_
  rintro en w1 ⟨rfl, rfl⟩
  clear HS
  go_wp2_with fail
  go_loopg [4, 8] n (fun k s4 s8 wr => ∃ (i : Nat) (xs : List RoadV), i + k = n ∧ s8 = .int .i64 i ∧ Hid (OwnR wr w.heap.size s4 xs) ∧ Hid (Firsts i xs) ∧ Hid (Below w.heap.size w wr))
  case atStart => exact ⟨0, [], by omega, rfl, OwnR.nil _ _, Lib.hid ⟨by simp, by simp, by simp⟩, Below.refl _ _⟩
  case round =>
    obtain ⟨i, xs, hk, rfl, HX, HF, HB⟩ := hrel
    have Hk := Lib.hid hk; clear hk
    obtain ⟨ao, co, rfl, _, _⟩ := own_slice HX.out.own
    by_cases hlt : i < n
    · have HO := Lib.hid (nof_any wr nb p (Hh.out.below HB.out) Ha.out Hb.out He.out (i : Int))
      go_wp2_with fail
      refine HO.out.mono ?_
      rintro en w1 ⟨v1, ys, rfl, hX1, hyl, hpl, hb1⟩
      obtain ⟨a1, c1', rfl, _, hc1⟩ := own_slice hX1.own
      have hxn : xs.length ≤ 60 := by have := HF.out.len; omega
      have hXu := HX.out.below hb1
      have HXu := Lib.hid hXu
      have HX1 := Lib.hid hX1
      have Hb1 := Lib.hid hb1
      have Hpl := Lib.hid hpl
      clear hXu hX1 hb1 HO hpl
      go_wp2_with (at_builtin; refine wpList_appB encRoad_len encRoad_one _ rfl _ _ 66 rfl w.heap.size 74 (.agg #[.int .i64 0, .int .i64 0, .int .i64 0, .slice none 0 0, .slice none 0 0, .slice none 0 0, .slice none 0 0, .slice none 0 0, .bool false]) 152 Tryz.underlying66 info_road rfl (by decide) _ _ xs rfl HXu.out.own a1 ys.length c1' ys rfl HX1.out.roads.1.row (fun h => (hc1 h).2) (by simp [maxLen]; omega) (by omega) (by have h1 := HB.out.size; have h2 := Hb1.out.size; omega) ?_)
      intro v3 w3 ho3 hg3 hbl3
      have hX3 := HXu.out.app (n := xs.length + ys.length) (ys := ys) (fun q hq => by
        refine ⟨HX1.out.each q hq, fun a ha k hk => ?_⟩
        have h1 := HX1.out.off q hq a ha k hk
        have h2 := HB.out.size
        refine ⟨by omega, h1.2.1, fun hc => ?_⟩
        have h3 := (HX.out.own.lt k hc).2
        omega) (by simp) (by rw [List.flatMap_append]; simpa using ho3) hg3 (by simpa using hbl3)
      have hb3 : Below w.heap.size w w3 := (below_step HB.out Hb1.out HB.out.size).grown hg3 (by have h1 := HB.out.size; have h2 := Hb1.out.size; omega) (fun k hk => (HX.out.own.lt k hk).1)
      have HX3 := Lib.hid hX3
      have HB3 := Lib.hid hb3
      have HF3 := Lib.hid (HF.out.app hyl Hpl.out)
      clear ho3 hg3 hbl3 hX3 hb3 HXu HX1
      go_wp2_with fail
      go_roundg (gk - 1)
      case measure => have := Hk.out; omega
      case rel => exact ⟨i + 1, xs ++ ys, by have := Hk.out; omega, by go_num, HX3.out, HF3.out, HB3.out⟩
    · have hin : i = n := by have := Hk.out; omega
      have hxn : xs.length ≤ 60 := by have := HF.out.len; omega
      have Hin := Lib.hid hin
      clear hin
      have d1 : decide ((64 : Int) < (xs.length : Nat)) = false := by simp; omega
      go_wp2_with fail
      go_ret2
      exact ⟨HB.out, .inr ⟨_, xs, rfl, HX.out, by rw [← Hin.out]; exact HF.out⟩⟩
end Go.Proofs.YtcaeglnfflkabaaGreat
