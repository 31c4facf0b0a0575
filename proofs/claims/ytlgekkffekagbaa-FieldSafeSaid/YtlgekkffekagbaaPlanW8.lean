/- Walks of plan.row and plan.lines. No condition beyond the plan that is read, the map of its joins, and what the earlier checks have shown of it. -/
import Derived.Test.YtlgekkffekagbaaPlanW7
set_option maxRecDepth 1000000
namespace Go.Proofs.Ytlgekkffekagbaa
open Go.RowKit

def outAt (nx : Port → Option Port) (a b : Int) : Nat → Int
  | 0 => firstOut nx a b
  | 1 => if leadsTo nx ⟨a, 1⟩ b then 1 else -1
  | _ => -1
theorem outAt_ge (nx : Port → Option Port) (a b : Int) (k : Nat) : -1 ≤ outAt nx a b k ∧ outAt nx a b k ≤ 1 := by
  unfold outAt firstOut; split
  · repeat' split
    all_goals omega
  · split <;> omega
  · omega
theorem outAt_step (nx : Port → Option Port) (a b : Int) {k : Nat} (hk : k ≤ 1) : outAt nx a b k = if leadsTo nx ⟨a, (k : Int)⟩ b then (k : Int) else outAt nx a b (k + 1) := by
  have : k = 0 ∨ k = 1 := by omega
  rcases this with rfl | rfl
  · unfold outAt firstOut; simp
  · unfold outAt; simp
theorem leads_hit {nx : Port → Option Port} {x z : Port} (h : nx x = some z) (b : Int) : leadsTo nx x b = decide (z.e = b) := by unfold leadsTo; rw [h]
theorem leads_miss {nx : Port → Option Port} {x : Port} (h : nx x = none) (b : Int) : leadsTo nx x b = false := by unfold leadsTo; rw [h]

set_option maxHeartbeats 2000000 in
theorem row_any (w : World) (p : Plan) (a : Option Addr) (n c b : Nat) (xs : List Int) (h : Ints w a n xs) (hnx : NextAt w b p) (hx : ∀ x ∈ xs, inI x) (hp : ∀ x ∈ flatJoins p.joins, isPort p x = true) :
    Calls Try.prog 87 #[.slice a n c, .map (some b)] w fun e w' => e = .returned (.bool (rowOk (nextOf p) xs)) ∧ Below w.heap.size w w' := by
  have hl := Lib.hid h.len
  have hbd := h.bnd
  have Hports := Lib.hid hp; clear hp
  have Hx := Lib.hid hx; clear hx
  have hblt := hnx.lt
  have Hnx := Lib.hid hnx; clear hnx
  by_cases h2 : n < 2
  · have Hq := Lib.hid (show rowOk (nextOf p) xs = true by
      have := hl.out
      match xs, this with
      | [], _ => rfl
      | [_], _ => rfl
      | _ :: _ :: _, h3 => simp at h3; omega)
    go_enter Try.func87, Try.ntmps87
    go_wp2_with fail
    go_ret
    exact ⟨ret_bool Hq.out.symm, Below.refl _ _⟩
  obtain ⟨x0, hx0⟩ := get_some hl.out (show 0 < n by omega)
  obtain ⟨x1, hx1⟩ := get_some hl.out (show 1 < n by omega)
  have Hx0 := Lib.hid hx0
  have Hx1 := Lib.hid hx1
  have i0 := Hx.out x0 (List.mem_of_getElem? hx0)
  have I0 := Lib.hid i0
  obtain ⟨pb, off, rfl, hpb, _⟩ := h.int hx0
  have Hq := Lib.hid (show rowOk (nextOf p) xs = (decide (0 ≤ firstOut (nextOf p) x0 x1) && chain (nextOf p) x0 (firstOut (nextOf p) x0 x1) (xs.drop 1)) by
    have e0 := drop_cons Hx0.out
    have e1 := drop_cons Hx1.out
    rw [List.drop_zero] at e0
    rw [e0]
    simp only [Nat.zero_add] at *
    rw [show (x0 :: xs.drop 1).drop 1 = xs.drop 1 from rfl, e1]
    rfl)
  clear hx0 hx1 i0
  go_enter Try.func87, Try.ntmps87
  go_wp2_with fail
  go_loopg [5, 6] 2 (fun k o e wr => k ≤ 2 ∧ e = .int .i64 ((k : Int) - 1) ∧ o = .int .i64 (outAt (nextOf p) x0 x1 k) ∧ Below w.heap.size w wr)
  case atStart => exact ⟨by omega, rfl, rfl, Below.refl _ _⟩
  case round =>
    obtain ⟨hk, rfl, rfl, hb⟩ := hrel
    have Hb := Lib.hid hb; clear hb
    obtain ⟨o1, o2⟩ := outAt_ge (nextOf p) x0 x1 gk
    have e0 := (Hb.out.cell (p := ⟨pb, off, none⟩) hpb).trans (h.int' Hx0.out).2
    have e1 := (Hb.out.cell (p := ⟨pb, off + 1, none⟩) hpb).trans (h.int' Hx1.out).2
    have Hn1 := Lib.hid (Hnx.out.below Hb.out hblt)
    have hwz : w.heap.size ≤ wr.heap.size := Hb.out.size
    have hpb2 : pb < wr.heap.size := by omega
    cases gk with
    | zero =>
      clear e0 e1
      by_cases ho : firstOut (nextOf p) x0 x1 < 0
      · have Hq2 := Lib.hid (show rowOk (nextOf p) xs = false by rw [Hq.out, show decide (0 ≤ firstOut (nextOf p) x0 x1) = false by simp; omega]; rfl)
        have ho' : outAt (nextOf p) x0 x1 0 < 0 := ho
        clear ho
        go_wp2_with fail
        go_ret
        exact ⟨ret_bool Hq2.out.symm, Hb.out⟩
      · have Hq2 := Lib.hid (show rowOk (nextOf p) xs = chain (nextOf p) x0 (firstOut (nextOf p) x0 x1) (xs.drop 1) by rw [Hq.out, show decide (0 ≤ firstOut (nextOf p) x0 x1) = true by simp; omega]; rfl)
        have ho' : 0 ≤ outAt (nextOf p) x0 x1 0 := by show 0 ≤ firstOut (nextOf p) x0 x1; omega
        clear ho
        go_wp2_with fail
        go_loopg [5, 9] n (fun k o i wr => ∃ (j : Nat) (out y : Int), j + k = n ∧ i = .int .i64 ((j : Int) + 1) ∧ o = .int .i64 out ∧ -3 ≤ out ∧ out ≤ 1 ∧ Hid (xs[j]? = some y) ∧ Hid (chain (nextOf p) y out (xs.drop (j + 1)) = rowOk (nextOf p) xs) ∧ Below w.heap.size w wr)
        case atStart => exact ⟨0, _, x0, by omega, rfl, rfl, by omega, by omega, Hx0.out, Hq2.out.symm, Hb.out⟩
        case round =>
          clear Hb Hn1 o1 o2 ho' hwz hpb2
          obtain ⟨j, out, y, hk, rfl, rfl, o1, o2, hy, hr, hb⟩ := hrel
          have Hk := Lib.hid hk; clear hk
          have Hb := Lib.hid hb; clear hb
          have Hn1 := Lib.hid (Hnx.out.below Hb.out hblt)
          have hwz : w.heap.size ≤ wr.heap.size := Hb.out.size
          have hpb2 : pb < wr.heap.size := by omega
          have hjn : j < n := get_lt hl.out hy.out
          have Iy := Lib.hid (Hx.out y (List.mem_of_getElem? hy.out))
          have e0 := (Hb.out.cell (p := ⟨pb, off + j, none⟩) hpb).trans (h.int' hy.out).2
          by_cases hlt : j + 1 < n
          · obtain ⟨y2, hy2⟩ := get_some hl.out hlt
            have Hy2 := Lib.hid hy2; clear hy2
            have e1 := (Hb.out.cell (p := ⟨pb, off + (j + 1), none⟩) hpb).trans (h.int' Hy2.out).2
            have Hd := Lib.hid (drop_cons Hy2.out)
            have t1 : ((j : Int) + 1).toNat = j + 1 := by omega
            have t2 : (0 : Int) ≤ (j : Int) + 1 := by omega
            have t3 : (j : Int) + 1 < (n : Int) := by omega
            cases hx : nextOf p ⟨y, out⟩ with
            | none =>
              have L1 := Lib.hid (show ∀ w', Below wr.heap.size wr w' → (Instr.lookup 90 (.map (some b)) (.agg #[.int .i64 y, .int .i64 out]) true).run Try.prog w' = .ok (.tuple #[.agg #[.int .i64 0, .int .i64 0], .bool false]) w' from fun w' hb => (Hn1.out.miss hx keyed_port Try.underlying90 zero_port (key_port ⟨Iy.out, ⟨by show _ ≤ out; omega, by show out ≤ _; omega⟩⟩) w' hb).2)
              have Hf := Lib.hid (show rowOk (nextOf p) xs = false by rw [← hr.out, Hd.out, chain, hx])
              clear hx
              go_wp2_with (at_lookup; refine wpList_look _ rfl _ _ _ _ rfl rfl rfl (L1.out _ (by repeat (first | with_reducible exact Below.refl _ _ | with_reducible assumption | with_reducible apply below_drewN | with_reducible apply Below.drew | with_reducible refine Below.alloc ?_ (by simp <;> omega) _))) ?_)
              go_quiet (fail)
              go_wp2_with fail
              go_ret
              exact ⟨ret_bool Hf.out.symm, below_drewN (below_step Hb.out (by repeat (first | with_reducible exact Below.refl _ _ | with_reducible assumption | with_reducible apply below_drewN | with_reducible apply Below.drew | with_reducible refine Below.alloc ?_ (by simp <;> omega) _)) Hb.out.size) _⟩
            | some x =>
              have L1 := Lib.hid (show ∀ w', Below wr.heap.size wr w' → (Instr.lookup 90 (.map (some b)) (.agg #[.int .i64 y, .int .i64 out]) true).run Try.prog w' = .ok (.tuple #[.agg #[.int .i64 x.e, .int .i64 x.n], .bool true]) w' from fun w' hb => (Hn1.out.hit hx keyed_port Try.underlying90 zero_port (key_port ⟨Iy.out, ⟨by show _ ≤ out; omega, by show out ≤ _; omega⟩⟩) w' hb).2)
              obtain ⟨u1, u2, u3, u4⟩ := isPort_iff.1 (Hports.out x (nextIn_some hx).2)
              have u5 := (ends_nonneg (p.kind x.e)).2
              have u6 : x.n ≤ 3 := by omega
              clear u1 u2 u4 u5
              by_cases hq : x.e = y2
              · have q1 : (x.e != y2) = false := by simp [hq]
                have Hf := Lib.hid (show chain (nextOf p) y2 (1 - x.n) (xs.drop (j + 1 + 1)) = rowOk (nextOf p) xs by rw [← hr.out, Hd.out, chain, hx]; simp [hq])
                clear hx hq
                go_wp2_with (at_lookup; refine wpList_look _ rfl _ _ _ _ rfl rfl rfl (L1.out _ (by repeat (first | with_reducible exact Below.refl _ _ | with_reducible assumption | with_reducible apply below_drewN | with_reducible apply Below.drew | with_reducible refine Below.alloc ?_ (by simp <;> omega) _))) ?_)
                go_quiet (fail)
                go_wp2_with fail
                go_roundg (gk - 1)
                case measure => have := Hk.out; omega
                case rel => exact ⟨j + 1, 1 - x.n, y2, by have := Hk.out; omega, by go_num, rfl, by omega, by omega, Hy2.out, Hf.out, below_drewN (below_step Hb.out (by repeat (first | with_reducible exact Below.refl _ _ | with_reducible assumption | with_reducible apply below_drewN | with_reducible apply Below.drew | with_reducible refine Below.alloc ?_ (by simp <;> omega) _)) Hb.out.size) _⟩
              · have q1 : (x.e != y2) = true := by simp [hq]
                have Hf := Lib.hid (show rowOk (nextOf p) xs = false by rw [← hr.out, Hd.out, chain, hx]; simp [hq])
                clear hx hq
                go_wp2_with (at_lookup; refine wpList_look _ rfl _ _ _ _ rfl rfl rfl (L1.out _ (by repeat (first | with_reducible exact Below.refl _ _ | with_reducible assumption | with_reducible apply below_drewN | with_reducible apply Below.drew | with_reducible refine Below.alloc ?_ (by simp <;> omega) _))) ?_)
                go_quiet (fail)
                go_wp2_with fail
                go_ret
                exact ⟨ret_bool Hf.out.symm, below_drewN (below_step Hb.out (by repeat (first | with_reducible exact Below.refl _ _ | with_reducible assumption | with_reducible apply below_drewN | with_reducible apply Below.drew | with_reducible refine Below.alloc ?_ (by simp <;> omega) _)) Hb.out.size) _⟩
          · have Hf := Lib.hid (show rowOk (nextOf p) xs = true by rw [← hr.out, drop_end hl.out (by omega)]; rfl)
            go_wp2_with fail
            go_ret
            exact ⟨ret_bool Hf.out.symm, Hb.out⟩
    | succ k =>
      have hk1 : k ≤ 1 := by omega
      rw [show ((k + 1 : Nat) : Int) - 1 = (k : Int) from by omega]
      have Hs := Lib.hid (outAt_step (nextOf p) x0 x1 hk1)
      have ik : inI (k : Int) := ⟨by omega, by omega⟩
      have Ik := Lib.hid ik; clear ik
      cases hx : nextOf p ⟨x0, k⟩ with
      | none =>
        have L1 := Lib.hid (show ∀ w', Below wr.heap.size wr w' → (Instr.lookup 90 (.map (some b)) (.agg #[.int .i64 x0, .int .i64 (k : Int)]) true).run Try.prog w' = .ok (.tuple #[.agg #[.int .i64 0, .int .i64 0], .bool false]) w' from fun w' hb => (Hn1.out.miss hx keyed_port Try.underlying90 zero_port (key_port ⟨I0.out, Ik.out⟩) w' hb).2)
        have Ho := Lib.hid (show outAt (nextOf p) x0 x1 k = outAt (nextOf p) x0 x1 (k + 1) by rw [Hs.out, leads_miss hx]; rfl)
        clear hx
        go_wp2_with (at_lookup; refine wpList_look _ rfl _ _ _ _ rfl rfl rfl (L1.out _ (by repeat (first | with_reducible exact Below.refl _ _ | with_reducible assumption | with_reducible apply below_drewN | with_reducible apply Below.drew | with_reducible refine Below.alloc ?_ (by simp <;> omega) _))) ?_)
        go_quiet (fail)
        go_wp2_with fail
        go_roundg k
        case measure => omega
        case rel => exact ⟨by omega, by go_num, by rw [Ho.out], below_drewN (below_step Hb.out (by repeat (first | with_reducible exact Below.refl _ _ | with_reducible assumption | with_reducible apply below_drewN | with_reducible apply Below.drew | with_reducible refine Below.alloc ?_ (by simp <;> omega) _)) Hb.out.size) _⟩
      | some x =>
        have L1 := Lib.hid (show ∀ w', Below wr.heap.size wr w' → (Instr.lookup 90 (.map (some b)) (.agg #[.int .i64 x0, .int .i64 (k : Int)]) true).run Try.prog w' = .ok (.tuple #[.agg #[.int .i64 x.e, .int .i64 x.n], .bool true]) w' from fun w' hb => (Hn1.out.hit hx keyed_port Try.underlying90 zero_port (key_port ⟨I0.out, Ik.out⟩) w' hb).2)
        by_cases hq : x.e = x1
        · have q1 : (x.e == x1) = true := by simp [hq]
          have Ho := Lib.hid (show outAt (nextOf p) x0 x1 k = (k : Int) by rw [Hs.out, leads_hit hx]; simp [hq])
          clear hx hq
          go_wp2_with (at_lookup; refine wpList_look _ rfl _ _ _ _ rfl rfl rfl (L1.out _ (by repeat (first | with_reducible exact Below.refl _ _ | with_reducible assumption | with_reducible apply below_drewN | with_reducible apply Below.drew | with_reducible refine Below.alloc ?_ (by simp <;> omega) _))) ?_)
          go_quiet (fail)
          go_wp2_with fail
          go_roundg k
          case measure => omega
          case rel => exact ⟨by omega, by go_num, by rw [Ho.out], below_drewN (below_step Hb.out (by repeat (first | with_reducible exact Below.refl _ _ | with_reducible assumption | with_reducible apply below_drewN | with_reducible apply Below.drew | with_reducible refine Below.alloc ?_ (by simp <;> omega) _)) Hb.out.size) _⟩
        · have q1 : (x.e == x1) = false := by simp [hq]
          have Ho := Lib.hid (show outAt (nextOf p) x0 x1 k = outAt (nextOf p) x0 x1 (k + 1) by rw [Hs.out, leads_hit hx]; simp [hq])
          clear hx hq
          go_wp2_with (at_lookup; refine wpList_look _ rfl _ _ _ _ rfl rfl rfl (L1.out _ (by repeat (first | with_reducible exact Below.refl _ _ | with_reducible assumption | with_reducible apply below_drewN | with_reducible apply Below.drew | with_reducible refine Below.alloc ?_ (by simp <;> omega) _))) ?_)
          go_quiet (fail)
          go_wp2_with fail
          go_roundg k
          case measure => omega
          case rel => exact ⟨by omega, by go_num, by rw [Ho.out], below_drewN (below_step Hb.out (by repeat (first | with_reducible exact Below.refl _ _ | with_reducible assumption | with_reducible apply below_drewN | with_reducible apply Below.drew | with_reducible refine Below.alloc ?_ (by simp <;> omega) _)) Hb.out.size) _⟩
end Go.Proofs.Ytlgekkffekagbaa
