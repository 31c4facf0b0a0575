/- Walks of plan.row and plan.lines. No condition beyond the plan that is read, the map of its joins, and what the earlier checks have shown of it. -/
import Derived.Test.YtcaeglnfflkabaaGreatPlanW6
import Derived.Test.YtcaeglnfflkabaaGreatPure
set_option maxRecDepth 1000000
namespace Go.Proofs.YtcaeglnfflkabaaGreat
open Go.RowKit

def outAt (nx : Port → Option Port) (a b : Int) : Nat → Int
  | 0 => firstOut nx a b
  | 1 => if leadsTo nx ⟨a, 1⟩ b then 1 else -1
  | _ => -1
theorem outAt_ge (nx : Port → Option Port) (a b : Int) (k : Nat) : -1 ≤ outAt nx a b k ∧ outAt nx a b k ≤ 1 := by
  unfold outAt firstOut; split
  · repeat' split
    all_goals omega
  · split <;> omega
  · omega
theorem outAt_step (nx : Port → Option Port) (a b : Int) {k : Nat} (hk : k ≤ 1) : outAt nx a b k = if leadsTo nx ⟨a, (k : Int)⟩ b then (k : Int) else outAt nx a b (k + 1) := by
  have : k = 0 ∨ k = 1 := by omega
  rcases this with rfl | rfl
  · unfold outAt firstOut; simp
  · unfold outAt; simp
theorem leads_hit {nx : Port → Option Port} {x z : Port} (h : nx x = some z) (b : Int) : leadsTo nx x b = decide (z.e = b) := by unfold leadsTo; rw [h]
theorem leads_miss {nx : Port → Option Port} {x : Port} (h : nx x = none) (b : Int) : leadsTo nx x b = false := by unfold leadsTo; rw [h]

set_option maxHeartbeats 2000000 in
theorem row_any (w : World) (p : Plan) (a : Option Addr) (n c b : Nat) (xs : List Int) (h : Ints w a n xs) (hnx : NextAt w b p) (hx : ∀ x ∈ xs, inI x) (hp : ∀ x ∈ flatJoins p.joins, isPort p x = true) :
    Calls Tryz.prog 113 #[.slice a n c, .map (some b)] w fun e w' => e = .returned (.bool (rowOk (nextOf p) xs)) ∧ Below w.heap.size w w' := by
  have hl := Lib.hid h.len
  have hbd := h.bnd
  have Hports := Lib.hid hp; clear hp
  have Hx := Lib.hid hx; clear hx
  have hblt := hnx.lt
  have Hnx := Lib.hid hnx; clear hnx
  by_cases h2 : n < 2
  · have Hq := Lib.hid (show rowOk (nextOf p) xs = true by
      have := hl.out
      match xs, this with
      | [], _ => rfl
      | [_], _ => rfl
      | _ :: _ :: _, h3 => simp at h3; omega)
    go_enter Tryz.func113, Tryz.ntmps113
    go_wp2_with fail
    go_ret
    exact ⟨ret_bool Hq.out.symm, Below.refl _ _⟩
  obtain ⟨x0, hx0⟩ := get_some hl.out (show 0 < n by omega)
  obtain ⟨x1, hx1⟩ := get_some hl.out (show 1 < n by omega)
  have Hx0 := Lib.hid hx0
  have Hx1 := Lib.hid hx1
  have i0 := Hx.out x0 (List.mem_of_getElem? hx0)
  have I0 := Lib.hid i0
  obtain ⟨pb, off, rfl, hpb, _⟩ := h.int hx0
  have Hq := Lib.hid (show rowOk (nextOf p) xs = (decide (0 ≤ firstOut (nextOf p) x0 x1) && chain (nextOf p) x0 (firstOut (nextOf p) x0 x1) (xs.drop 1)) by
    have e0 := drop_cons Hx0.out
    have e1 := drop_cons Hx1.out
    rw [List.drop_zero] at e0
    rw [e0]
    simp only [Nat.zero_add] at *
    rw [show (x0 :: xs.drop 1).drop 1 = xs.drop 1 from rfl, e1]
    rfl)
  clear hx0 hx1 i0
  go_enter Tryz.func113, Tryz.ntmps113
  go_wp2_with fail
  go_loopg [5, 6] 2 (fun k o e wr => k ≤ 2 ∧ e = .int .i64 ((k : Int) - 1) ∧ o = .int .i64 (outAt (nextOf p) x0 x1 k) ∧ Below w.heap.size w wr)
  case atStart => exact ⟨by omega, rfl, rfl, Below.refl _ _⟩
  case round =>
    obtain ⟨hk, rfl, rfl, hb⟩ := hrel
    have Hb := Lib.hid hb; clear hb
    obtain ⟨o1, o2⟩ := outAt_ge (nextOf p) x0 x1 gk
    have e0 := (Hb.out.cell (p := ⟨pb, off, none⟩) hpb).trans (h.int' Hx0.out).2
    have e1 := (Hb.out.cell (p := ⟨pb, off + 1, none⟩) hpb).trans (h.int' Hx1.out).2
    have Hn1 := Lib.hid (Hnx.out.below Hb.out hblt)
    have hwz : w.heap.size ≤ wr.heap.size := Hb.out.size
    have hpb2 : pb < wr.heap.size := by omega
    cases gk with
    | zero =>
      clear e0 e1
      by_cases ho : firstOut (nextOf p) x0 x1 < 0
      · have Hq2 := Lib.hid (show rowOk (nextOf p) xs = false by rw [Hq.out, show decide (0 ≤ firstOut (nextOf p) x0 x1) = false by simp; omega]; rfl)
        have ho' : outAt (nextOf p) x0 x1 0 < 0 := ho
        clear ho
        go_wp2_with fail
        go_ret
        exact ⟨ret_bool Hq2.out.symm, Hb.out⟩
      · have Hq2 := Lib.hid (show rowOk (nextOf p) xs = chain (nextOf p) x0 (firstOut (nextOf p) x0 x1) (xs.drop 1) by rw [Hq.out, show decide (0 ≤ firstOut (nextOf p) x0 x1) = true by simp; omega]; rfl)
        have ho' : 0 ≤ outAt (nextOf p) x0 x1 0 := by show 0 ≤ firstOut (nextOf p) x0 x1; omega
        clear ho
        go_wp2_with fail
        go_loopg [5, 9] n (fun k o i wr => ∃ (j : Nat) (out y : Int), j + k = n ∧ i = .int .i64 ((j : Int) + 1) ∧ o = .int .i64 out ∧ -3 ≤ out ∧ out ≤ 1 ∧ Hid (xs[j]? = some y) ∧ Hid (chain (nextOf p) y out (xs.drop (j + 1)) = rowOk (nextOf p) xs) ∧ Below w.heap.size w wr)
        case atStart => exact ⟨0, _, x0, by omega, rfl, rfl, by omega, by omega, Hx0.out, Hq2.out.symm, Hb.out⟩
        case round =>
          clear Hb Hn1 o1 o2 ho' hwz hpb2
          obtain ⟨j, out, y, hk, rfl, rfl, o1, o2, hy, hr, hb⟩ := hrel
          have Hk := Lib.hid hk; clear hk
          have Hb := Lib.hid hb; clear hb
          have Hn1 := Lib.hid (Hnx.out.below Hb.out hblt)
          have hwz : w.heap.size ≤ wr.heap.size := Hb.out.size
          have hpb2 : pb < wr.heap.size := by omega
          have hjn : j < n := get_lt hl.out hy.out
          have Iy := Lib.hid (Hx.out y (List.mem_of_getElem? hy.out))
          have e0 := (Hb.out.cell (p := ⟨pb, off + j, none⟩) hpb).trans (h.int' hy.out).2
          by_cases hlt : j + 1 < n
          · obtain ⟨y2, hy2⟩ := get_some hl.out hlt
            have Hy2 := Lib.hid hy2; clear hy2
            have e1 := (Hb.out.cell (p := ⟨pb, off + (j + 1), none⟩) hpb).trans (h.int' Hy2.out).2
            have Hd := Lib.hid (drop_cons Hy2.out)
            have t1 : ((j : Int) + 1).toNat = j + 1 := by omega
            have t2 : (0 : Int) ≤ (j : Int) + 1 := by omega
            have t3 : (j : Int) + 1 < (n : Int) := by omega
            cases hx : nextOf p ⟨y, out⟩ with
            | none =>
              have L1 := Lib.hid (show ∀ w', Below wr.heap.size wr w' → (Instr.lookup 87 (.map (some b)) (.agg #[.int .i64 y, .int .i64 out]) true).run Tryz.prog w' = .ok (.tuple #[.agg #[.int .i64 0, .int .i64 0], .bool false]) w' from fun w' hb => (Hn1.out.miss hx keyed_port Tryz.underlying87 zero_port (key_port ⟨Iy.out, ⟨by show _ ≤ out; omega, by show out ≤ _; omega⟩⟩) w' hb).2)
              have Hf := Lib.hid (show rowOk (nextOf p) xs = false by rw [← hr.out, Hd.out, chain, hx])
              clear hx
              go_wp2_with (at_lookup; refine wpList_look _ rfl _ _ _ _ rfl rfl rfl (L1.out _ (by repeat (first | with_reducible exact Below.refl _ _ | with_reducible assumption | with_reducible apply below_drewN | with_reducible apply Below.drew | with_reducible refine Below.alloc ?_ (by simp <;> omega) _))) ?_)
              go_quiet (fail)
              go_wp2_with fail
              go_ret
              exact ⟨ret_bool Hf.out.symm, below_drewN (below_step Hb.out (by repeat (first | with_reducible exact Below.refl _ _ | with_reducible assumption | with_reducible apply below_drewN | with_reducible apply Below.drew | with_reducible refine Below.alloc ?_ (by simp <;> omega) _)) Hb.out.size) _⟩
            | some x =>
              have L1 := Lib.hid (show ∀ w', Below wr.heap.size wr w' → (Instr.lookup 87 (.map (some b)) (.agg #[.int .i64 y, .int .i64 out]) true).run Tryz.prog w' = .ok (.tuple #[.agg #[.int .i64 x.e, .int .i64 x.n], .bool true]) w' from fun w' hb => (Hn1.out.hit hx keyed_port Tryz.underlying87 zero_port (key_port ⟨Iy.out, ⟨by show _ ≤ out; omega, by show out ≤ _; omega⟩⟩) w' hb).2)
              obtain ⟨u1, u2, u3, u4⟩ := isPort_iff.1 (Hports.out x (nextIn_some hx).2)
              have u5 := (ends_nonneg (p.kind x.e)).2
              have u6 : x.n ≤ 3 := by omega
              clear u1 u2 u4 u5
              by_cases hq : x.e = y2
              · have q1 : (x.e != y2) = false := by simp [hq]
                have Hf := Lib.hid (show chain (nextOf p) y2 (1 - x.n) (xs.drop (j + 1 + 1)) = rowOk (nextOf p) xs by rw [← hr.out, Hd.out, chain, hx]; simp [hq])
                clear hx hq
                go_wp2_with (at_lookup; refine wpList_look _ rfl _ _ _ _ rfl rfl rfl (L1.out _ (by repeat (first | with_reducible exact Below.refl _ _ | with_reducible assumption | with_reducible apply below_drewN | with_reducible apply Below.drew | with_reducible refine Below.alloc ?_ (by simp <;> omega) _))) ?_)
                go_quiet (fail)
                go_wp2_with fail
                go_roundg (gk - 1)
                case measure => have := Hk.out; omega
                case rel => exact ⟨j + 1, 1 - x.n, y2, by have := Hk.out; omega, by go_num, rfl, by omega, by omega, Hy2.out, Hf.out, below_drewN (below_step Hb.out (by repeat (first | with_reducible exact Below.refl _ _ | with_reducible assumption | with_reducible apply below_drewN | with_reducible apply Below.drew | with_reducible refine Below.alloc ?_ (by simp <;> omega) _)) Hb.out.size) _⟩
              · have q1 : (x.e != y2) = true := by simp [hq]
                have Hf := Lib.hid (show rowOk (nextOf p) xs = false by rw [← hr.out, Hd.out, chain, hx]; simp [hq])
                clear hx hq
                go_wp2_with (at_lookup; refine wpList_look _ rfl _ _ _ _ rfl rfl rfl (L1.out _ (by repeat (first | with_reducible exact Below.refl _ _ | with_reducible assumption | with_reducible apply below_drewN | with_reducible apply Below.drew | with_reducible refine Below.alloc ?_ (by simp <;> omega) _))) ?_)
                go_quiet (fail)
                go_wp2_with fail
                go_ret
                exact ⟨ret_bool Hf.out.symm, below_drewN (below_step Hb.out (by repeat (first | with_reducible exact Below.refl _ _ | with_reducible assumption | with_reducible apply below_drewN | with_reducible apply Below.drew | with_reducible refine Below.alloc ?_ (by simp <;> omega) _)) Hb.out.size) _⟩
          · have Hf := Lib.hid (show rowOk (nextOf p) xs = true by rw [← hr.out, drop_end hl.out (by omega)]; rfl)
            go_wp2_with fail
            go_ret
            exact ⟨ret_bool Hf.out.symm, Hb.out⟩
    | succ k =>
      have hk1 : k ≤ 1 := by omega
      rw [show ((k + 1 : Nat) : Int) - 1 = (k : Int) from by omega]
      have Hs := Lib.hid (outAt_step (nextOf p) x0 x1 hk1)
      have ik : inI (k : Int) := ⟨by omega, by omega⟩
      have Ik := Lib.hid ik; clear ik
      cases hx : nextOf p ⟨x0, k⟩ with
      | none =>
        have L1 := Lib.hid (show ∀ w', Below wr.heap.size wr w' → (Instr.lookup 87 (.map (some b)) (.agg #[.int .i64 x0, .int .i64 (k : Int)]) true).run Tryz.prog w' = .ok (.tuple #[.agg #[.int .i64 0, .int .i64 0], .bool false]) w' from fun w' hb => (Hn1.out.miss hx keyed_port Tryz.underlying87 zero_port (key_port ⟨I0.out, Ik.out⟩) w' hb).2)
        have Ho := Lib.hid (show outAt (nextOf p) x0 x1 k = outAt (nextOf p) x0 x1 (k + 1) by rw [Hs.out, leads_miss hx]; rfl)
        clear hx
        go_wp2_with (at_lookup; refine wpList_look _ rfl _ _ _ _ rfl rfl rfl (L1.out _ (by repeat (first | with_reducible exact Below.refl _ _ | with_reducible assumption | with_reducible apply below_drewN | with_reducible apply Below.drew | with_reducible refine Below.alloc ?_ (by simp <;> omega) _))) ?_)
        go_quiet (fail)
        go_wp2_with fail
        go_roundg k
        case measure => omega
        case rel => exact ⟨by omega, by go_num, by rw [Ho.out], below_drewN (below_step Hb.out (by repeat (first | with_reducible exact Below.refl _ _ | with_reducible assumption | with_reducible apply below_drewN | with_reducible apply Below.drew | with_reducible refine Below.alloc ?_ (by simp <;> omega) _)) Hb.out.size) _⟩
      | some x =>
        have L1 := Lib.hid (show ∀ w', Below wr.heap.size wr w' → (Instr.lookup 87 (.map (some b)) (.agg #[.int .i64 x0, .int .i64 (k : Int)]) true).run Tryz.prog w' = .ok (.tuple #[.agg #[.int .i64 x.e, .int .i64 x.n], .bool true]) w' from fun w' hb => (Hn1.out.hit hx keyed_port Tryz.underlying87 zero_port (key_port ⟨I0.out, Ik.out⟩) w' hb).2)
        by_cases hq : x.e = x1
        · have q1 : (x.e == x1) = true := by simp [hq]
          have Ho := Lib.hid (show outAt (nextOf p) x0 x1 k = (k : Int) by rw [Hs.out, leads_hit hx]; simp [hq])
          clear hx hq
          go_wp2_with (at_lookup; refine wpList_look _ rfl _ _ _ _ rfl rfl rfl (L1.out _ (by repeat (first | with_reducible exact Below.refl _ _ | with_reducible assumption | with_reducible apply below_drewN | with_reducible apply Below.drew | with_reducible refine Below.alloc ?_ (by simp <;> omega) _))) ?_)
          go_quiet (fail)
          go_wp2_with fail
          go_roundg k
          case measure => omega
          case rel => exact ⟨by omega, by go_num, by rw [Ho.out], below_drewN (below_step Hb.out (by repeat (first | with_reducible exact Below.refl _ _ | with_reducible assumption | with_reducible apply below_drewN | with_reducible apply Below.drew | with_reducible refine Below.alloc ?_ (by simp <;> omega) _)) Hb.out.size) _⟩
        · have q1 : (x.e == x1) = false := by simp [hq]
          have Ho := Lib.hid (show outAt (nextOf p) x0 x1 k = outAt (nextOf p) x0 x1 (k + 1) by rw [Hs.out, leads_hit hx]; simp [hq])
          clear hx hq
          go_wp2_with (at_lookup; refine wpList_look _ rfl _ _ _ _ rfl rfl rfl (L1.out _ (by repeat (first | with_reducible exact Below.refl _ _ | with_reducible assumption | with_reducible apply below_drewN | with_reducible apply Below.drew | with_reducible refine Below.alloc ?_ (by simp <;> omega) _))) ?_)
          go_quiet (fail)
          go_wp2_with fail
          go_roundg k
          case measure => omega
          case rel => exact ⟨by omega, by go_num, by rw [Ho.out], below_drewN (below_step Hb.out (by repeat (first | with_reducible exact Below.refl _ _ | with_reducible assumption | with_reducible apply below_drewN | with_reducible apply Below.drew | with_reducible refine Below.alloc ?_ (by simp <;> omega) _)) Hb.out.size) _⟩
end Go.Proofs.YtcaeglnfflkabaaGreat

/- Walk of plan.lines. No condition beyond the plan that is read, the map of its joins, and what the earlier checks have shown of it. -/
set_option maxRecDepth 1000000
namespace Go.Proofs.YtcaeglnfflkabaaGreat
open Go.RowKit

theorem track_no {p : Plan} {met : List Int} {e : Int} {r : List Int} {q : Bool} (hr : tracksGo p met (e :: r) = q) (h : inLine p e = false ∨ e ∈ met) : q = false := by
  rw [← hr, tracksGo]; rcases h with h | h <;> simp [h]
theorem track_yes {p : Plan} {met : List Int} {e : Int} {r : List Int} {q : Bool} (hr : tracksGo p met (e :: r) = q) (h1 : inLine p e = true) (h2 : e ∉ met) : tracksGo p (met ++ [e]) r = q := by
  rw [← hr, tracksGo]; simp [h1, h2]
theorem and3_no {a T R L : Bool} (h : a = (T && R && L)) (ht : T = false) : a = false := by rw [h, ht]; rfl
def metOf (lv : List LineV) : List Int := lv.flatMap (·.elems)
theorem met_take {lv : List LineV} {j : Nat} {y : LineV} (h : lv[j]? = some y) : metOf (lv.take (j + 1)) = metOf (lv.take j) ++ y.elems := by
  unfold metOf; rw [take_next h, List.flatMap_append]; simp
def linesRest (p : Plan) (lv : List LineV) (j : Nat) : Bool := lineGo p (metOf (lv.take j)) ((lv.drop j).map LineV.line)
theorem rest_step {p : Plan} {lv : List LineV} {j : Nat} {y : LineV} (h : lv[j]? = some y) :
    linesRest p lv j = (decide (y.elems ≠ []) && tracksGo p (metOf (lv.take j)) y.elems && rowOk (nextOf p) y.elems && linesRest p lv (j + 1)) := by
  unfold linesRest
  rw [drop_cons h, List.map_cons, lineGo, met_take h]; rfl
theorem nil_len {α : Type} {xs : List α} {n : Nat} (h : xs.length = n) : decide (xs ≠ []) = decide (n ≠ 0) := by
  subst h; cases xs <;> simp
theorem inLine_of {p : Plan} {e : Int} {z : Elem} (h0 : 0 ≤ e) (h1 : e < p.elems.length) (hz : p.elem e = z) : inLine p e = decide (z.kind = 1) := by
  unfold inLine Plan.kind; rw [hz]; simp [h0, h1]
theorem inLine_out {p : Plan} {e : Int} (h : e < 0 ∨ (p.elems.length : Int) ≤ e) : inLine p e = false := by
  unfold inLine; simp; omega

set_option maxHeartbeats 2000000 in
theorem lines_any (w : World) (pv : PV) (p : Plan) (b : Nat) (h : PlanAt w pv p) (hnx : NextAt w b p) (hn : pv.nl ≤ 1000) (hn2 : ∀ x ∈ pv.lv, x.n ≤ 1000) (hj : joinedOk p = true) :
    Calls Tryz.prog 53 #[pv.val p, .map (some b)] w fun e w' => e = .returned (.bool (linesOk p)) ∧ Below w.heap.size w w' := by
  obtain ⟨ae, ne, ce, aj, nj, cj, as_, ns, cs, al, nl, cl, lv⟩ := pv
  have he : Elems w ae ne p.elems := h.e
  have hlv : Lines w al nl lv := h.l
  have hfit := Lib.hid h.fit
  have HL := Lib.hid h.lp
  have le := Lib.hid he.len
  have ll := Lib.hid hlv.row.len
  have be := he.bnd
  have bl := hlv.row.bnd
  have hn : nl ≤ 1000 := hn
  have Hn2 := Lib.hid (show ∀ x ∈ lv, x.n ≤ 1000 from hn2); clear hn2
  have Hints := Lib.hid hlv.ints
  have Hports := Lib.hid (show ∀ x ∈ flatJoins p.joins, isPort p x = true by unfold joinedOk at hj; simp only [Bool.and_eq_true] at hj; exact (joinGo_ok _ _ hj.1).2.2)
  have hbw := hnx.lt
  have Hnx := Lib.hid hnx; clear hnx hj
  have Hl0 := Lib.hid (show linesOk p = linesRest p lv 0 by unfold linesOk linesRest; rw [HL.out]; rfl)
  have HB := Lib.hid ((pbox_new w ⟨ae, ne, ce, aj, nj, cj, as_, ns, cs, al, nl, cl, lv⟩ p).alloc (.map #[] 0))
  have Hm := Lib.hid (made_at intCode Value.bool (w.alloc (.cells #[.slice ae ne ce, .slice aj nj cj, .slice as_ ns cs, .slice al nl cl, .int .i64 p.top, .int .i64 p.brake, .int .i64 p.margin, .int .i64 p.throw, .bool p.hard] 27)) 3 (b := w.heap.size + 1) (by simp) (m := seenIn (metOf (lv.take 0))) (fun _ => rfl))
  have hmm := @run_makeMap Tryz.prog
  clear h
  dsimp only [PV.val]
  go_enter Tryz.func53, Tryz.ntmps53
  go_wp2_with fail
  clear hmm
  go_loopg [14] nl (fun k i wr => ∃ (j c : Nat), j + k = nl ∧ i = .int .i64 j ∧ c ≤ 1000 * j ∧ Hid (linesRest p lv j = linesOk p) ∧ MapOf intCode Value.bool wr 3 (w.heap.size + 1) c (seenIn (metOf (lv.take j))) ∧ PBox wr w.heap.size ⟨ae, ne, ce, aj, nj, cj, as_, ns, cs, al, nl, cl, lv⟩ p ∧ Below w.heap.size w wr)
  case atStart => exact ⟨0, 0, by omega, rfl, by omega, Hl0.out.symm, Hm.out, HB.out, (below_new _ _).alloc (by simp) _⟩
  case round =>
    clear Hm HB
    obtain ⟨j, c, hk, rfl, hc, hr, hm, hB, hb⟩ := hrel
    obtain ⟨wo, rfl⟩ : ∃ wo : World, wo = wr := ⟨_, rfl⟩
    have Hk := Lib.hid hk; clear hk
    have HB := Lib.hid hB
    have Hm := Lib.hid hm; clear hm
    have hmlt := Hm.out.lt
    obtain ⟨hbl, c0, _⟩ := hB
    dsimp only at c0
    by_cases hlt : j < nl
    · obtain ⟨⟨nm, ya, yn, yc, yel⟩, hy⟩ := get_some ll.out hlt
      obtain ⟨pb, off, rfl, hpb, g1, g2⟩ := hlv.row.lineB hb hy
      dsimp only at g1 g2
      have Hy := Lib.hid hy
      have hin : Ints w ya yn yel := Hints.out _ (List.mem_of_getElem? hy)
      have hyn : yn ≤ 1000 := Hn2.out _ (List.mem_of_getElem? hy)
      have Hfy := Lib.hid (show ∀ z ∈ yel, inI z from (hfit.out.l (LineV.line ⟨nm, ya, yn, yc, yel⟩) (by rw [HL.out]; exact List.mem_map.2 ⟨_, List.mem_of_getElem? hy, rfl⟩)).1)
      have hybd := hin.bnd
      have ly := Lib.hid hin.len
      have Hst := Lib.hid (show linesRest p lv j = (decide (yel ≠ []) && tracksGo p (metOf (lv.take j)) yel && rowOk (nextOf p) yel && linesRest p lv (j + 1)) from rest_step (p := p) Hy.out)
      have Hmt := Lib.hid (show metOf (lv.take (j + 1)) = metOf (lv.take j) ++ yel from met_take Hy.out)
      clear hy
      have Hb := Lib.hid hb; clear hb
      have hwz : w.heap.size ≤ wo.heap.size := Hb.out.size
      have hpb2 : pb < wo.heap.size := by omega
      by_cases hy0 : yn = 0
      · have q0 : ((yn : Int) == 0) = true := by simp [hy0]
        have Hf := Lib.hid (show linesOk p = false by rw [← hr.out, Hst.out, nil_len ly.out]; simp [hy0])
        clear hy0
        go_wp2_with fail
        go_ret
        exact ⟨ret_bool Hf.out.symm, below_step Hb.out (by repeat (first | with_reducible exact Below.refl _ _ | with_reducible assumption | with_reducible apply below_drewN | with_reducible apply Below.drew | with_reducible refine Below.alloc ?_ (by simp <;> omega) _)) Hb.out.size⟩
      · have q0 : ((yn : Int) == 0) = false := by simp [hy0]
        have Hst2 := Lib.hid (show linesOk p = (tracksGo p (metOf (lv.take j)) yel && rowOk (nextOf p) yel && linesRest p lv (j + 1)) by rw [← hr.out, Hst.out, nil_len ly.out]; simp [hy0])
        have HBy := Lib.hid (HB.out.alloc (.cells #[.string nm, .slice ya yn yc] 96))
        have Hmy := Lib.hid (Hm.out.alloc (.cells #[.string nm, .slice ya yn yc] 96))
        have Hby := Lib.hid (below_alloc Hb.out (.cells #[.string nm, .slice ya yn yc] 96))
        have hyp : 0 < yn := by omega
        clear hy0
        go_wp2_with fail
        clear q0 c0 g1 g2
        go_loopg [25] yn (fun k i wi => ∃ (i0 c2 : Nat), i0 + k = yn ∧ i = .int .i64 i0 ∧ c2 ≤ 1000 * j + i0 ∧ Hid (tracksGo p (metOf (lv.take j) ++ yel.take i0) (yel.drop i0) = tracksGo p (metOf (lv.take j)) yel) ∧ MapOf intCode Value.bool wi 3 (w.heap.size + 1) c2 (seenIn (metOf (lv.take j) ++ yel.take i0)) ∧ PBox wi w.heap.size ⟨ae, ne, ce, aj, nj, cj, as_, ns, cs, some ⟨pb, off, none⟩, nl, cl, lv⟩ p ∧ wi.cell? ⟨wo.heap.size, 1, none⟩ = some (.slice ya yn yc) ∧ wo.heap.size < wi.heap.size ∧ Below w.heap.size w wi)
        case atStart => exact ⟨0, c, by omega, rfl, by omega, by simp [Hid], by simpa using Hmy.out, HBy.out, by go_simp, by simp, Hby.out⟩
        case round =>
          clear Hmy HBy Hby
          obtain ⟨i0, c2, hk2, rfl, hc2, hr2, hm2, hB2, kc, kz, hb2⟩ := hrel
          have Hk2 := Lib.hid hk2; clear hk2
          have HB2 := Lib.hid hB2
          have Hm2 := Lib.hid hm2; clear hm2
          have hm2lt := Hm2.out.lt
          obtain ⟨hbl2, c0, _⟩ := hB2
          dsimp only at c0
          by_cases hlt2 : i0 < yn
          · obtain ⟨e, hee⟩ := get_some ly.out hlt2
            obtain ⟨pe, offe, rfl, hpe, v1⟩ := hin.intB hb2 hee
            have He := Lib.hid hee
            have Hd := Lib.hid (drop_cons hee)
            have ie := Hfy.out e (List.mem_of_getElem? hee)
            have Ie := Lib.hid ie; clear ie hee
            have Hb2 := Lib.hid hb2; clear hb2
            by_cases h0 : e < 0
            · have Hf := Lib.hid (and3_no Hst2.out (track_no (Hd.out ▸ hr2.out) (.inl (inLine_out (.inl h0)))))
              go_wp2_with fail
              go_ret
              exact ⟨ret_bool Hf.out.symm, Hb2.out⟩
            by_cases h1 : (ne : Int) ≤ e
            · have Hf := Lib.hid (and3_no Hst2.out (track_no (Hd.out ▸ hr2.out) (.inl (inLine_out (.inr (by rw [le.out]; exact h1))))))
              go_wp2_with fail
              go_ret
              exact ⟨ret_bool Hf.out.symm, Hb2.out⟩
            have x1 : 0 ≤ e := by omega
            have x2 : e < ne := by omega
            obtain ⟨pb', off', z, hae, _, hz, e1, e2, e3⟩ := (he.below Hb2.out).elemI x1 x2
            have Hil := Lib.hid (inLine_of x1 (by rw [le.out]; exact x2) (elem_get x1 hz))
            clear hz h0 h1
            subst hae
            by_cases hk1 : z.kind = 1
            · have q1 : (z.kind != 1) = false := by simp [hk1]
              by_cases hmem : e ∈ metOf (lv.take j) ++ yel.take i0
              · have l1 := ((Hm2.out.hit (seen_yes hmem) keyed_int Tryz.underlying210 zero_bool (key_int Ie.out)) wr (Below.refl _ _)).1
                have l1 : (Instr.lookup 210 (.map (some (w.heap.size + 1))) (.int .i64 e) false).run Tryz.prog wr = .ok (.bool true) wr := l1
                have Hf := Lib.hid (and3_no Hst2.out (track_no (Hd.out ▸ hr2.out) (.inr hmem)))
                clear hmem hk1
                go_wp2_with fail
                go_ret
                exact ⟨ret_bool Hf.out.symm, Hb2.out⟩
              · have l1 : (Instr.lookup 210 (.map (some (w.heap.size + 1))) (.int .i64 e) false).run Tryz.prog wr = .ok (.bool false) wr := ((Hm2.out.miss (seen_no hmem) keyed_int Tryz.underlying210 zero_bool (key_int Ie.out)) wr (Below.refl _ _)).1
                have Hf := Lib.hid (track_yes (Hd.out ▸ hr2.out) (by rw [Hil.out]; simp [hk1]) hmem)
                obtain ⟨w3, t3, hm3, hg3⟩ := (show ∃ w', (Instr.mapUpdate 210 (.map (some (w.heap.size + 1))) (.int .i64 e) (.bool true)).run Tryz.prog wr = .ok () w' ∧ MapOf intCode Value.bool w' 3 (w.heap.size + 1) (c2 + 1) (seenIn (metOf (lv.take j) ++ yel.take (i0 + 1))) ∧ wr.grownBy w' (some (w.heap.size + 1)) from
                  Hm2.out.store (x := e) (y := true) _ (by rw [take_next He.out, ← List.append_assoc]; exact seen_key _ _) (fun z hz => by rw [take_next He.out, ← List.append_assoc]; exact seen_other _ hz) (by unfold maxLen; omega) keyed_int Tryz.underlying210 (key_int Ie.out))
                have Hm3 := Lib.hid hm3; clear hm3
                have hz2 := Hb2.out.size
                have Hb3 := Lib.hid (Hb2.out.grown hg3 (by omega) (by intro k hk; simp only [Option.some.injEq] at hk; omega))
                have Hkc := Lib.hid (hg3.cell kc (by simp; omega))
                have Hkz := Lib.hid (show wo.heap.size < w3.heap.size by have := hg3.size; omega)
                clear hmem hk1
                go_wp2_with fail
                go_roundg (gk - 1)
                case measure => have := Hk2.out; omega
                case rel => exact ⟨i0 + 1, c2 + 1, by have := Hk2.out; omega, by go_num, by omega, by rw [take_next He.out, ← List.append_assoc]; exact Hf.out, Hm3.out, HB2.out.kept hg3 (by simp), Hkc.out, Hkz.out, Hb3.out⟩
            · have q1 : (z.kind != 1) = true := by simp [hk1]
              have Hf := Lib.hid (and3_no Hst2.out (track_no (Hd.out ▸ hr2.out) (.inl (by rw [Hil.out]; simp [hk1]))))
              clear hk1
              go_wp2_with fail
              go_ret
              exact ⟨ret_bool Hf.out.symm, Hb2.out⟩
          · have Hst3 := Lib.hid (show linesOk p = (rowOk (nextOf p) yel && linesRest p lv (j + 1)) by
              have := hr2.out; rw [drop_end ly.out (by omega)] at this
              rw [Hst2.out, ← this]; rfl)
            have Hmf := Lib.hid (show MapOf intCode Value.bool wr 3 (w.heap.size + 1) c2 (seenIn (metOf (lv.take (j + 1)))) from Hm2.out.congr (fun x => by rw [Hmt.out, show yel.take i0 = yel from List.take_of_length_le (by have := ly.out; omega)]))
            have Hb2 := Lib.hid hb2; clear hb2
            go_wp2_with fail
            refine (row_any wr p ya yn yc b yel (hin.below Hb2.out) (Hnx.out.below Hb2.out hbw) Hfy.out Hports.out).mono ?_
            rintro e w1 ⟨rfl, hb1⟩
            have Hb1 := Lib.hid hb1; clear hb1
            have hwi := Hb2.out.size
            cases hro : rowOk (nextOf p) yel
            · have Hf := Lib.hid (show linesOk p = false by rw [Hst3.out, hro]; rfl)
              clear hro
              go_wp2_with fail
              go_ret
              exact ⟨ret_bool Hf.out.symm, below_step Hb2.out Hb1.out hwi⟩
            · have Hf := Lib.hid (show linesRest p lv (j + 1) = linesOk p by rw [Hst3.out, hro]; rfl)
              clear hro
              go_wp2_with fail
              go_roundg (nl - j - 1)
              case measure => have := Hk.out; omega
              case rel => exact ⟨j + 1, c2, by have := Hk.out; omega, by go_num, by have := Hk2.out; omega, Hf.out, Hmf.out.below Hb1.out hm2lt, HB2.out.below Hb1.out, below_step Hb2.out Hb1.out hwi⟩
    · have Hf := Lib.hid (show linesOk p = true by rw [← hr.out, linesRest, drop_end ll.out (by omega)]; rfl)
      go_wp2_with fail
      go_ret
      exact ⟨ret_bool Hf.out.symm, hb⟩
end Go.Proofs.YtcaeglnfflkabaaGreat

/- Walk of plan.Check. No condition beyond the plan that is read, its lines at most 1000 elements long. -/
set_option maxRecDepth 1000000
namespace Go.Proofs.YtcaeglnfflkabaaGreat
open Go.RowKit

theorem twice_n (w : World) (F : FuncId) (cap : Array Value) (l : List ByteArray) (n : Nat) (hl : l.length = n) (hF : Names F cap w l) (hn : n ≤ 1000) (hfit : ∀ s ∈ l, s.size ≤ 9223372036854775807) :
    Calls Tryz.prog 47 #[.int .i64 n, .func (.func F) #[] cap] w fun e w' => e = .returned (.bool (dup l)) ∧ Below w.heap.size w w' := by
  subst hl; exact twice_any w F cap l hF hn hfit
theorem much_yes {p : Plan} (h : tooMuch p = true) : chk p = 3 := by unfold chk; rw [h]; rfl
theorem chk_1 {p : Plan} (h : tooMuch p = false) (h1 : argsOk p = false) : chk p = 1 := by unfold chk; rw [h, h1]; rfl
theorem chk_4 {p : Plan} (h : tooMuch p = false) (h1 : argsOk p = true) (h2 : namesTwice p = true) : chk p = 4 := by unfold chk; rw [h, h1, h2]; rfl
theorem chk_6 {p : Plan} (h : tooMuch p = false) (h1 : argsOk p = true) (h2 : namesTwice p = false) (h3 : joinedOk p = false) : chk p = 6 := by unfold chk; rw [h, h1, h2, h3]; rfl
theorem chk_7 {p : Plan} (h : tooMuch p = false) (h1 : argsOk p = true) (h2 : namesTwice p = false) (h3 : joinedOk p = true) (h4 : signalsOk p = false) : chk p = 7 := by unfold chk; rw [h, h1, h2, h3, h4]; rfl
theorem chk_8 {p : Plan} (h : tooMuch p = false) (h1 : argsOk p = true) (h2 : namesTwice p = false) (h3 : joinedOk p = true) (h4 : signalsOk p = true) (h5 : linesOk p = false) : chk p = 8 := by unfold chk; rw [h, h1, h2, h3, h4, h5]; rfl
theorem chk_90 {p : Plan} (h : tooMuch p = false) (h1 : argsOk p = true) (h2 : namesTwice p = false) (h3 : joinedOk p = true) (h4 : signalsOk p = true) (h5 : linesOk p = true) : chk p = if longOk p then 0 else 9 := by unfold chk; rw [h, h1, h2, h3, h4, h5]; cases longOk p <;> rfl
theorem much_iff {p : Plan} {ne ns nl nj : Nat} (h1 : p.elems.length = ne) (h2 : p.sigs.length = ns) (h3 : p.lines.length = nl) (h4 : p.joins.length = nj) : tooMuch p = true ↔ 40 < ne ∨ 24 < ns ∨ 4 < nl ∨ 80 < nj := by
  unfold tooMuch; rw [h1, h2, h3, h4]; simp [or_assoc]

set_option maxHeartbeats 2000000 in
theorem check_any (w : World) (pv : PV) (p : Plan) (h : PlanAt w pv p) (hn2 : ∀ x ∈ pv.lv, x.n ≤ 1000) :
    Calls Tryz.prog 22 #[pv.val p] w fun e w' => e = .returned (.int .i64 (chk p)) ∧ Below w.heap.size w w' := by
  have hP := Lib.hid h
  obtain ⟨ae, ne, ce, aj, nj, cj, as_, ns, cs, al, nl, cl, lv⟩ := pv
  have he : Elems w ae ne p.elems := h.e
  have hs : Sigs w as_ ns p.sigs := h.s
  have hj : Joins w aj nj p.joins := h.j
  have hl : Lines w al nl lv := h.l
  have hfit := Lib.hid h.fit
  have HL := Lib.hid h.lp
  have le := Lib.hid he.len
  have ls := Lib.hid hs.len
  have lj := Lib.hid hj.len
  have ll := Lib.hid hl.row.len
  have ll2 := Lib.hid (show p.lines.length = nl by rw [HL.out, List.length_map]; exact ll.out)
  have be := he.bnd
  have bs := hs.bnd
  have bl := hl.row.bnd
  have bj := hj.bnd
  have Hn2 := Lib.hid hn2; clear hn2
  have Hw := Lib.hid (below_new w (.cells #[.slice ae ne ce, .slice aj nj cj, .slice as_ ns cs, .slice al nl cl, .int .i64 p.top, .int .i64 p.brake, .int .i64 p.margin, .int .i64 p.throw, .bool p.hard] 27))
  have HB0 := Lib.hid (pbox_new w ⟨ae, ne, ce, aj, nj, cj, as_, ns, cs, al, nl, cl, lv⟩ p)
  have Hm := much_iff le.out ls.out ll2.out lj.out
  clear h
  dsimp only [PV.val]
  cases hmu : tooMuch p
  · rw [hmu] at Hm
    have m1 : ne ≤ 40 := by have := mt Hm.2 (by simp); omega
    have m2 : ns ≤ 24 := by have := mt Hm.2 (by simp); omega
    have m3 : nl ≤ 4 := by have := mt Hm.2 (by simp); omega
    have m4 : nj ≤ 80 := by have := mt Hm.2 (by simp); omega
    have Hmu := Lib.hid hmu
    clear Hm hmu
    go_enter Tryz.func22, Tryz.ntmps22
    go_wp2_with fail
    refine (numbers_any _ _ p (hP.out.below (below_new _ _))).mono ?_
    rintro e w1 ⟨rfl, hbx⟩
    have HB1 := Lib.hid (HB0.out.below hbx)
    have Hb1 := Lib.hid (below_step Hw.out hbx (by simp))
    clear hbx
    obtain ⟨b1, c0, c1, c2, c3, c4, c5, c6, c7, c8⟩ := HB1.out
    dsimp only at c0 c1 c2 c3
    cases ha : argsOk p
    · have Hc := Lib.hid (chk_1 Hmu.out ha)
      go_wp2_with fail
      go_ret
      exact ⟨ret_int Hc.out.symm, Hb1.out⟩
    have Ha := Lib.hid ha
    go_wp2_with fail
    refine (twice_n w1 _ _ (p.elems.map (·.name)) ne (by rw [List.length_map]; exact le.out) (names1 w1 w.heap.size _ p (hP.out.below Hb1.out) HB1.out) (by omega) (fun s hs => by obtain ⟨y, hy, rfl⟩ := List.mem_map.1 hs; exact (hfit.out.e y hy).2.2)).mono ?_
    rintro e w2 ⟨rfl, hbx⟩
    have HB2 := Lib.hid (HB1.out.below hbx)
    have Hb2 := Lib.hid (below_step Hb1.out hbx Hb1.out.size)
    have Hx2 := Lib.hid hbx; clear hbx
    clear c0 c1 c2 c3 c4 c5 c6 c7 c8
    obtain ⟨_, c0, c1, c2, c3, c4, c5, c6, c7, c8⟩ := HB2.out
    dsimp only at c0 c1 c2 c3
    cases t1 : dup (p.elems.map (·.name))
    case true =>
      have Hc := Lib.hid (chk_4 Hmu.out Ha.out (by unfold namesTwice; rw [t1]; rfl))
      go_wp2_with fail
      go_ret
      exact ⟨ret_int Hc.out.symm, Hb2.out⟩
    have T1 := Lib.hid t1
    go_wp2_with fail
    refine (twice_n w2 _ _ (p.sigs.map (·.name)) ns (by rw [List.length_map]; exact ls.out) (names2 w2 w.heap.size _ p (hP.out.below Hb2.out) HB2.out) (by omega) (fun s hs => by obtain ⟨y, hy, rfl⟩ := List.mem_map.1 hs; exact (hfit.out.s y hy).2)).mono ?_
    rintro e w3 ⟨rfl, hbx⟩
    have HB3 := Lib.hid (HB2.out.below hbx)
    have Hb3 := Lib.hid (below_step Hb2.out hbx Hb2.out.size)
    have Hx3 := Lib.hid hbx; clear hbx
    clear c0 c1 c2 c3 c4 c5 c6 c7 c8
    obtain ⟨_, c0, c1, c2, c3, c4, c5, c6, c7, c8⟩ := HB3.out
    dsimp only at c0 c1 c2 c3
    cases t2 : dup (p.sigs.map (·.name))
    case true =>
      have Hc := Lib.hid (chk_4 Hmu.out Ha.out (by unfold namesTwice; rw [t2]; simp))
      go_wp2_with fail
      go_ret
      exact ⟨ret_int Hc.out.symm, Hb3.out⟩
    have T2 := Lib.hid t2
    go_wp2_with fail
    refine (twice_n w3 _ _ (p.lines.map (·.name)) nl (by rw [List.length_map]; exact ll2.out) (names3 w3 w.heap.size _ p (hP.out.below Hb3.out) HB3.out) (by omega) (fun s hs => by obtain ⟨y, hy, rfl⟩ := List.mem_map.1 hs; exact (hfit.out.l y hy).2)).mono ?_
    rintro e w4 ⟨rfl, hbx⟩
    have HB4 := Lib.hid (HB3.out.below hbx)
    have Hb4 := Lib.hid (below_step Hb3.out hbx Hb3.out.size)
    have Hx4 := Lib.hid hbx; clear hbx
    clear c0 c1 c2 c3 c4 c5 c6 c7 c8
    obtain ⟨_, c0, c1, c2, c3, c4, c5, c6, c7, c8⟩ := HB4.out
    dsimp only at c0 c1 c2 c3
    cases t3 : dup (p.lines.map (·.name))
    case true =>
      have Hc := Lib.hid (chk_4 Hmu.out Ha.out (by unfold namesTwice; rw [t3]; simp))
      go_wp2_with fail
      go_ret
      exact ⟨ret_int Hc.out.symm, Hb4.out⟩
    have Hnt := Lib.hid (show namesTwice p = false by unfold namesTwice; rw [T1.out, T2.out, t3]; rfl)
    have hnj : (PV.mk ae ne ce aj nj cj as_ ns cs al nl cl lv).nj ≤ 1000 := by show nj ≤ 1000; omega
    have Hj := Lib.hid (joined_any w4 _ p (hP.out.below Hb4.out) hnj)
    clear hnj t1 t2
    go_wp2_with fail
    refine Hj.out.mono ?_
    rintro e w5 ⟨hres, hbx⟩
    have HB5 := Lib.hid (HB4.out.below hbx)
    have Hb5 := Lib.hid (below_step Hb4.out hbx Hb4.out.size)
    have Hx5 := Lib.hid hbx; clear hbx
    clear c0 c1 c2 c3 c4 c5 c6 c7 c8
    obtain ⟨_, c0, c1, c2, c3, c4, c5, c6, c7, c8⟩ := HB5.out
    dsimp only at c0 c1 c2 c3
    rcases hres with ⟨hjo, bm, rfl, hbm, hnx⟩ | ⟨hjo, rfl⟩
    case inr =>
      have Hc := Lib.hid (chk_6 Hmu.out Ha.out Hnt.out hjo)
      clear hjo
      go_wp2_with fail
      go_ret
      exact ⟨ret_int Hc.out.symm, Hb5.out⟩
    have Hjo := Lib.hid hjo; clear hjo
    have Hnx := Lib.hid hnx; clear hnx
    have hnlt := Hnx.out.lt
    have hnum : numsOk p = true := by have := Ha.out; unfold argsOk at this; simp only [Bool.and_eq_true] at this; exact this.1
    have Hnum := Lib.hid hnum; clear hnum
    have Hs := Lib.hid (signals_any w5 _ p bm (hP.out.below Hb5.out) Hnx.out (by show ns ≤ 1000; omega) Hjo.out)
    go_wp2_with fail
    refine Hs.out.mono ?_
    rintro e w6 ⟨rfl, hbx⟩
    have HB6 := Lib.hid (HB5.out.below hbx)
    have Hb6 := Lib.hid (below_step Hb5.out hbx Hb5.out.size)
    have Hx6 := Lib.hid hbx; clear hbx
    clear c0 c1 c2 c3 c4 c5 c6 c7 c8
    obtain ⟨_, c0, c1, c2, c3, c4, c5, c6, c7, c8⟩ := HB6.out
    dsimp only at c0 c1 c2 c3
    cases hso : signalsOk p
    · have Hc := Lib.hid (chk_7 Hmu.out Ha.out Hnt.out Hjo.out hso)
      go_wp2_with fail
      go_ret
      exact ⟨ret_int Hc.out.symm, Hb6.out⟩
    have Hso := Lib.hid hso
    have Hl := Lib.hid (lines_any w6 _ p bm (hP.out.below Hb6.out) (Hnx.out.below Hx6.out hnlt) (by show nl ≤ 1000; omega) Hn2.out Hjo.out)
    go_wp2_with fail
    refine Hl.out.mono ?_
    rintro e w7 ⟨rfl, hbx⟩
    have HB7 := Lib.hid (HB6.out.below hbx)
    have Hb7 := Lib.hid (below_step Hb6.out hbx Hb6.out.size)
    have Hx7 := Lib.hid hbx; clear hbx
    clear c0 c1 c2 c3 c4 c5 c6 c7 c8
    obtain ⟨_, c0, c1, c2, c3, c4, c5, c6, c7, c8⟩ := HB7.out
    dsimp only at c0 c1 c2 c3
    cases hlo : linesOk p
    · have Hc := Lib.hid (chk_8 Hmu.out Ha.out Hnt.out Hjo.out Hso.out hlo)
      go_wp2_with fail
      go_ret
      exact ⟨ret_int Hc.out.symm, Hb7.out⟩
    have Hc9 := Lib.hid (chk_90 Hmu.out Ha.out Hnt.out Hjo.out Hso.out hlo)
    have Hlg := Lib.hid (long_any w7 _ p (hP.out.below Hb7.out) Hnum.out (fun s hs => by
      have := Hso.out
      unfold signalsOk at this
      simp only [Bool.and_eq_true] at this
      have h2 := (sigGo_ok _ _ this.1).2.2 s hs
      unfold sigOk at h2
      simp only [Bool.and_eq_true] at h2
      exact h2.1.1))
    go_wp2_with fail
    refine Hlg.out.mono ?_
    rintro e w8 ⟨rfl, hbx⟩
    have HB8 := Lib.hid (HB7.out.below hbx)
    have Hb8 := Lib.hid (below_step Hb7.out hbx Hb7.out.size)
    have Hx8 := Lib.hid hbx; clear hbx
    clear c0 c1 c2 c3 c4 c5 c6 c7 c8
    obtain ⟨_, c0, c1, c2, c3, c4, c5, c6, c7, c8⟩ := HB8.out
    dsimp only at c0 c1 c2 c3
    cases hg : longOk p
    · have Hc := Lib.hid (show chk p = 9 by rw [Hc9.out, hg]; rfl)
      go_wp2_with fail
      go_ret
      exact ⟨ret_int Hc.out.symm, Hb8.out⟩
    · have Hc := Lib.hid (show chk p = 0 by rw [Hc9.out, hg]; rfl)
      go_wp2_with fail
      go_ret
      exact ⟨ret_int Hc.out.symm, Hb8.out⟩
  · have Hc := Lib.hid (much_yes hmu)
    have Hm2 := Lib.hid (Hm.1 hmu)
    clear Hm hmu
    go_enter Tryz.func22, Tryz.ntmps22
    go_wp2_with fail
    all_goals first
      | (go_ret
         exact ⟨ret_int Hc.out.symm, Hw.out⟩)
      | (exfalso
         have := Hm2.out
         omega)
end Go.Proofs.YtcaeglnfflkabaaGreat
