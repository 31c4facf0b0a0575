/- Walks of plan.Check's closures and of plan.joined. No condition beyond the plan that is read. -/
import Derived.Test.YtcaeglnfflkabaaGreatPlanW3
import Derived.Test.YtcaeglnfflkabaaGreatPure
import Derived.Deep.RegionHeld3
set_option maxRecDepth 1000000
namespace Go.Proofs.YtcaeglnfflkabaaGreat
open Go.RowKit

theorem zero_port (w : World) : (zeroValue 43).run Tryz.prog w = .ok (.agg #[.int .i64 0, .int .i64 0]) w := by kernel_rfl
theorem check1_any (w : World) (b : Nat) (pv : PV) (p : Plan) (h : PlanAt w pv p) (hB : PBox w b pv p) (i : Nat) (y : Elem) (hy : p.elems[i]? = some y) :
  Calls Tryz.prog 48 #[.int .i64 i, .pointer (some ⟨b, 0, none⟩)] w fun e w' => e = .returned (.string y.name) ∧ Below w.heap.size w w' := by
 obtain ⟨ae, ne, ce, aj, nj, cj, as_, ns, cs, al, nl, cl, lv⟩ := pv
 have he : Elems w ae ne p.elems := h.e
 have hlt := get_lt he.len hy
 have be := he.bnd
 obtain ⟨pb, off, ha, hpb, g1, g2, g3⟩ := he.elem hy
 obtain ⟨_, c0, _⟩ := hB
 clear hy
 dsimp only at c0
 rw [ha] at c0
 go_enter Tryz.func48, Tryz.ntmps48
 go_wp2_with fail
 go_ret
 exact ⟨rfl, Below.refl _ _⟩
theorem check2_any (w : World) (b : Nat) (pv : PV) (p : Plan) (h : PlanAt w pv p) (hB : PBox w b pv p) (i : Nat) (y : Sig) (hy : p.sigs[i]? = some y) :
  Calls Tryz.prog 49 #[.int .i64 i, .pointer (some ⟨b, 0, none⟩)] w fun e w' => e = .returned (.string y.name) ∧ Below w.heap.size w w' := by
 obtain ⟨ae, ne, ce, aj, nj, cj, as_, ns, cs, al, nl, cl, lv⟩ := pv
 have he : Sigs w as_ ns p.sigs := h.s
 have hlt := get_lt he.len hy
 have be := he.bnd
 obtain ⟨pb, off, ha, hpb, g1, g2, g3⟩ := he.sig hy
 obtain ⟨_, _, _, c0, _⟩ := hB
 clear hy
 dsimp only at c0
 rw [ha] at c0
 go_enter Tryz.func49, Tryz.ntmps49
 go_wp2_with fail
 go_ret
 exact ⟨rfl, Below.refl _ _⟩
theorem check3_any (w : World) (b : Nat) (pv : PV) (p : Plan) (h : PlanAt w pv p) (hB : PBox w b pv p) (i : Nat) (y : LineV) (hy : pv.lv[i]? = some y) :
  Calls Tryz.prog 50 #[.int .i64 i, .pointer (some ⟨b, 0, none⟩)] w fun e w' => e = .returned (.string y.name) ∧ Below w.heap.size w w' := by
 obtain ⟨ae, ne, ce, aj, nj, cj, as_, ns, cs, al, nl, cl, lv⟩ := pv
 have he : Lines w al nl lv := h.l
 have hlt := get_lt he.row.len hy
 have be := he.row.bnd
 obtain ⟨pb, off, ha, hpb, g1, g2⟩ := he.row.line hy
 obtain ⟨_, _, _, _, c0, _⟩ := hB
 clear hy
 dsimp only at c0
 rw [ha] at c0
 go_enter Tryz.func50, Tryz.ntmps50
 go_wp2_with fail
 go_ret
 exact ⟨rfl, Below.refl _ _⟩
theorem names1 (w : World) (b : Nat) (pv : PV) (p : Plan) (h : PlanAt w pv p) (hB : PBox w b pv p) : Names 48 #[.pointer (some ⟨b, 0, none⟩)] w (p.elems.map (·.name)) := by
 refine ⟨fun args w => by kernel_rfl, fun i s hs w1 hb => ?_⟩
 rw [List.getElem?_map, Option.map_eq_some_iff] at hs
 obtain ⟨y, hy, rfl⟩ := hs
 exact check1_any w1 b pv p (h.below hb) (hB.below hb) i y hy
theorem names2 (w : World) (b : Nat) (pv : PV) (p : Plan) (h : PlanAt w pv p) (hB : PBox w b pv p) : Names 49 #[.pointer (some ⟨b, 0, none⟩)] w (p.sigs.map (·.name)) := by
 refine ⟨fun args w => by kernel_rfl, fun i s hs w1 hb => ?_⟩
 rw [List.getElem?_map, Option.map_eq_some_iff] at hs
 obtain ⟨y, hy, rfl⟩ := hs
 exact check2_any w1 b pv p (h.below hb) (hB.below hb) i y hy
theorem names3 (w : World) (b : Nat) (pv : PV) (p : Plan) (h : PlanAt w pv p) (hB : PBox w b pv p) : Names 50 #[.pointer (some ⟨b, 0, none⟩)] w (p.lines.map (·.name)) := by
 refine ⟨fun args w => by kernel_rfl, fun i s hs w1 hb => ?_⟩
 rw [h.lp, List.map_map, List.getElem?_map, Option.map_eq_some_iff] at hs
 obtain ⟨y, hy, rfl⟩ := hs
 exact check3_any w1 b pv p (h.below hb) (hB.below hb) i y hy

theorem PBox.drew {w : World} {b : Nat} {v : PV} {p : Plan} (h : PBox w b v p) : PBox w.drew b v p := h.drewN 1
theorem PBox.kept {w w' : World} {b : Nat} {row : Option Nat} {v : PV} {p : Plan} (h : PBox w b v p) (hg : w.grownBy w' row) (hne : some b ≠ row) : PBox w' b v p := by
 have hbl := hg.block b h.lt hne
 have key : ∀ o, w'.cell? ⟨b, o, none⟩ = w.cell? ⟨b, o, none⟩ := fun o => World.cell?_of_block (w := w) (a := ⟨b, o, none⟩) hbl
 exact ⟨Nat.lt_of_lt_of_le h.lt hg.size, (key _).trans h.c0, (key _).trans h.c1, (key _).trans h.c2, (key _).trans h.c3, (key _).trans h.c4, (key _).trans h.c5, (key _).trans h.c6, (key _).trans h.c7, (key _).trans h.c8⟩

/-! joined -/
theorem nextIn_hit {js : List Join} {x : Port} (h : x ∈ flatJoins js) : ∃ y, nextIn js x = some y := by
 cases hn : nextIn js x with
 | some y => exact ⟨y, rfl⟩
 | none => exact absurd h (nextIn_none.1 hn)
theorem nextIn_append (a b : List Join) (x : Port) : nextIn (a ++ b) x = match nextIn a x with
  | some y => some y
  | none => nextIn b x := by
 induction a with
 | nil => rfl
 | cons j r ih =>
  have e1 : nextIn (j :: r ++ b) x = if j.a = x then some j.b else if j.b = x then some j.a else nextIn (r ++ b) x := rfl
  have e2 : nextIn (j :: r) x = if j.a = x then some j.b else if j.b = x then some j.a else nextIn r x := rfl
  rw [e1, e2]
  split
  ·rfl
  ·split
   ·rfl
   ·exact ih
/-- the map behind next[A] = B, and behind next[B] = A -/
def nextHalf (js : List Join) (j : Join) (x : Port) : Option Port := if x = j.a then some j.b else nextIn js x
theorem nextHalf_key (js : List Join) (j : Join) : nextHalf js j j.a = some j.b := by unfold nextHalf; rw [if_pos rfl]
theorem nextHalf_other (js : List Join) (j : Join) : ∀ z, z ≠ j.a → nextHalf js j z = nextIn js z := fun z hz => by unfold nextHalf; rw [if_neg hz]
theorem next_snoc {js : List Join} {j : Join} (ha : j.a ∉ flatJoins js) (hb : j.b ∉ flatJoins js) (hab : j.a ≠ j.b) :
  nextIn (js ++ [j]) j.b = some j.a ∧ ∀ z, z ≠ j.b → nextIn (js ++ [j]) z = nextHalf js j z := by
 constructor
 ·rw [nextIn_append, nextIn_none.2 hb]; simp [nextIn, hab]
 ·intro z hz
  rw [nextIn_append]
  unfold nextHalf
  by_cases h : z = j.a
  ·subst h; rw [nextIn_none.2 ha]; simp [nextIn]
  ·rw [if_neg h]
   cases nextIn js z with
   | some y => rfl
   | none => simp [nextIn, show ¬ j.a = z from fun e => h e.symm, show ¬ j.b = z from fun e => hz e.symm]
theorem join_no {p : Plan} {met : List Port} {j : Join} {r : List Join} {q : Bool} (hr : joinGo p met (j :: r) = q) (h : j.a ∈ met ∨ j.b ∈ met ∨ j.a = j.b ∨ isPort p j.a = false ∨ isPort p j.b = false) : q = false := by
 rw [← hr, joinGo]
 rcases h with h | h | h | h | h <;> simp [h]
theorem join_yes {p : Plan} {met : List Port} {j : Join} {r : List Join} {q : Bool} (hr : joinGo p met (j :: r) = q) (h1 : j.a ∉ met) (h2 : j.b ∉ met) (h3 : j.a ≠ j.b) (h4 : isPort p j.a = true) (h5 : isPort p j.b = true) : joinGo p (met ++ [j.a, j.b]) r = q := by
 rw [← hr, joinGo]; simp [h1, h2, h3, h4, h5]
theorem joined_no {p : Plan} (h : joinGo p [] p.joins = false) : joinedOk p = false := by unfold joinedOk; rw [h]; rfl
theorem flat_take {js : List Join} {i : Nat} {j : Join} (h : js[i]? = some j) : flatJoins (js.take (i + 1)) = flatJoins (js.take i) ++ [j.a, j.b] := by
 rw [take_next h, flat_append]; rfl

theorem made_at {α β : Type} (D : Code α) (g : β → Value) (w : World) (k : TypeId) {b : Nat} (hb : w.heap.size = b) {m : α → Option β} (hm : ∀ x, m x = none) : MapOf D g (w.alloc (.map #[] 0)) k b 0 m := by
 subst hb; exact (MapOf.made D g w k).congr hm

set_option maxHeartbeats 2000000 in
theorem joined_any (w : World) (pv : PV) (p : Plan) (h : PlanAt w pv p) (hn : pv.nj ≤ 1000) :
  Calls Tryz.prog 51 #[pv.val p] w fun e w' => ((joinedOk p = true ∧ ∃ b, e = .returned (.tuple #[.map (some b), .bool true]) ∧ w.heap.size ≤ b ∧ MapOf portCode Port.val w' 43 b 2000 (nextOf p)) ∨
   (joinedOk p = false ∧ e = .returned (.tuple #[.map none, .bool false]))) ∧ Below w.heap.size w w' := by
 have hP := Lib.hid h
 obtain ⟨ae, ne, ce, aj, nj, cj, as_, ns, cs, al, nl, cl, lv⟩ := pv
 have he : Elems w ae ne p.elems := h.e
 have hj : Joins w aj nj p.joins := h.j
 have hfit := Lib.hid h.fit
 have le := Lib.hid he.len
 have lj := Lib.hid hj.len
 have be := he.bnd
 have bj := hj.bnd
 have hn : nj ≤ 1000 := hn
 have HB := Lib.hid ((pbox_new w ⟨ae, ne, ce, aj, nj, cj, as_, ns, cs, al, nl, cl, lv⟩ p).alloc (.map #[] 0))
 have Hm := Lib.hid (made_at portCode Port.val (w.alloc (.cells #[.slice ae ne ce, .slice aj nj cj, .slice as_ ns cs, .slice al nl cl, .int .i64 p.top, .int .i64 p.brake, .int .i64 p.margin, .int .i64 p.throw, .bool p.hard] 27)) 43 (b := w.heap.size + 1) (by simp) (m := nextIn (p.joins.take 0)) (fun _ => rfl))
 have hmm := @run_makeMap Tryz.prog
 clear h
 dsimp only [PV.val]
 go_enter Tryz.func51, Tryz.ntmps51
 go_wp2_with fail
 clear hmm
 go_loopg [19] nj (fun k i wr => ∃ (j : Nat), j + k = nj ∧ i = .int .i64 j ∧ Hid (joinGo p (flatJoins (p.joins.take j)) (p.joins.drop j) = joinGo p [] p.joins) ∧ MapOf portCode Port.val wr 43 (w.heap.size + 1) (2 * j) (nextIn (p.joins.take j)) ∧ PBox wr w.heap.size ⟨ae, ne, ce, aj, nj, cj, as_, ns, cs, al, nl, cl, lv⟩ p ∧ Below w.heap.size w wr)
 case atStart => exact ⟨0, by omega, rfl, rfl, Hm.out, HB.out, (below_new _ _).alloc (by simp) _⟩
 case round =>
  clear Hm HB
  obtain ⟨j, hk, rfl, hr, hm, hB, hb⟩ := hrel
  have Hk := Lib.hid hk; clear hk
  have HB := Lib.hid hB
  have Hm := Lib.hid hm; clear hm
  have hmlt := Hm.out.lt
  obtain ⟨hbl, c0, c1, c2, c3, c4, c5, c6, c7, c8⟩ := hB
  dsimp only at c0 c1 c2 c3
  by_cases hlt : j < nj
  ·obtain ⟨y, hy⟩ := get_some lj.out hlt
   obtain ⟨pb, off, rfl, hpb, g1, g2, g3, g4⟩ := hj.joinB hb hy
   have Hy := Lib.hid hy
   have Hd := Lib.hid (drop_cons hy)
   have hwf := hfit.out.j y (List.mem_of_getElem? hy)
   have Hwf := Lib.hid hwf
   clear hy hwf
   have Hb := Lib.hid hb; clear hb
   by_cases m1 : y.a ∈ flatJoins (p.joins.take j)
   ·obtain ⟨z1, hz1⟩ := nextIn_hit m1
    have L1 := Lib.hid (show ∀ w', Below wr.heap.size wr w' → (Instr.lookup 87 (.map (some (w.heap.size + 1))) (.agg #[.int .i64 y.a.e, .int .i64 y.a.n]) true).run Tryz.prog w' = .ok (.tuple #[.agg #[.int .i64 z1.e, .int .i64 z1.n], .bool true]) w' from fun w' hb => (Hm.out.hit hz1 keyed_port Tryz.underlying87 zero_port (key_port Hwf.out.1) w' hb).2)
    have Hq := Lib.hid (joined_no (join_no (Hd.out ▸ hr.out) (.inl m1)))
    clear m1 hz1
    by_cases m2 : y.b ∈ flatJoins (p.joins.take j)
    ·obtain ⟨z2, hz2⟩ := nextIn_hit m2
     have L2 := Lib.hid (show ∀ w', Below wr.heap.size wr w' → (Instr.lookup 87 (.map (some (w.heap.size + 1))) (.agg #[.int .i64 y.b.e, .int .i64 y.b.n]) true).run Tryz.prog w' = .ok (.tuple #[.agg #[.int .i64 z2.e, .int .i64 z2.n], .bool true]) w' from fun w' hb => (Hm.out.hit hz2 keyed_port Tryz.underlying87 zero_port (key_port Hwf.out.2) w' hb).2)
     clear m2 hz2
     go_wp2_with (first | (at_lookup; refine wpList_look _ rfl _ _ _ _ rfl rfl rfl (L1.out _ (by repeat (first | with_reducible exact Below.refl _ _ | with_reducible assumption | with_reducible apply below_drewN | with_reducible apply Below.drew | with_reducible refine Below.alloc ?_ (by simp <;> omega) _))) ?_) | (at_lookup; refine wpList_look _ rfl _ _ _ _ rfl rfl rfl (L2.out _ (by repeat (first | with_reducible exact Below.refl _ _ | with_reducible assumption | with_reducible apply below_drewN | with_reducible apply Below.drew | with_reducible refine Below.alloc ?_ (by simp <;> omega) _))) ?_))
     go_ret2
     exact ⟨.inr ⟨Hq.out, rfl⟩, below_step Hb.out (by repeat (first | with_reducible exact Below.refl _ _ | with_reducible assumption | with_reducible apply below_drewN | with_reducible apply Below.drew | with_reducible refine Below.alloc ?_ (by simp <;> omega) _)) Hb.out.size⟩
    ·skip
     have L2 := Lib.hid (show ∀ w', Below wr.heap.size wr w' → (Instr.lookup 87 (.map (some (w.heap.size + 1))) (.agg #[.int .i64 y.b.e, .int .i64 y.b.n]) true).run Tryz.prog w' = .ok (.tuple #[.agg #[.int .i64 0, .int .i64 0], .bool false]) w' from fun w' hb => (Hm.out.miss (nextIn_none.2 m2) keyed_port Tryz.underlying87 zero_port (key_port Hwf.out.2) w' hb).2)
     clear m2
     go_wp2_with (first | (at_lookup; refine wpList_look _ rfl _ _ _ _ rfl rfl rfl (L1.out _ (by repeat (first | with_reducible exact Below.refl _ _ | with_reducible assumption | with_reducible apply below_drewN | with_reducible apply Below.drew | with_reducible refine Below.alloc ?_ (by simp <;> omega) _))) ?_) | (at_lookup; refine wpList_look _ rfl _ _ _ _ rfl rfl rfl (L2.out _ (by repeat (first | with_reducible exact Below.refl _ _ | with_reducible assumption | with_reducible apply below_drewN | with_reducible apply Below.drew | with_reducible refine Below.alloc ?_ (by simp <;> omega) _))) ?_))
     go_ret2
     exact ⟨.inr ⟨Hq.out, rfl⟩, below_step Hb.out (by repeat (first | with_reducible exact Below.refl _ _ | with_reducible assumption | with_reducible apply below_drewN | with_reducible apply Below.drew | with_reducible refine Below.alloc ?_ (by simp <;> omega) _)) Hb.out.size⟩
   ·skip
    have L1 := Lib.hid (show ∀ w', Below wr.heap.size wr w' → (Instr.lookup 87 (.map (some (w.heap.size + 1))) (.agg #[.int .i64 y.a.e, .int .i64 y.a.n]) true).run Tryz.prog w' = .ok (.tuple #[.agg #[.int .i64 0, .int .i64 0], .bool false]) w' from fun w' hb => (Hm.out.miss (nextIn_none.2 m1) keyed_port Tryz.underlying87 zero_port (key_port Hwf.out.1) w' hb).2)
    by_cases m2 : y.b ∈ flatJoins (p.joins.take j)
    ·obtain ⟨z2, hz2⟩ := nextIn_hit m2
     have L2 := Lib.hid (show ∀ w', Below wr.heap.size wr w' → (Instr.lookup 87 (.map (some (w.heap.size + 1))) (.agg #[.int .i64 y.b.e, .int .i64 y.b.n]) true).run Tryz.prog w' = .ok (.tuple #[.agg #[.int .i64 z2.e, .int .i64 z2.n], .bool true]) w' from fun w' hb => (Hm.out.hit hz2 keyed_port Tryz.underlying87 zero_port (key_port Hwf.out.2) w' hb).2)
     have Hq := Lib.hid (joined_no (join_no (Hd.out ▸ hr.out) (.inr (.inl m2))))
     clear m1 m2 hz2
     go_wp2_with (first | (at_lookup; refine wpList_look _ rfl _ _ _ _ rfl rfl rfl (L1.out _ (by repeat (first | with_reducible exact Below.refl _ _ | with_reducible assumption | with_reducible apply below_drewN | with_reducible apply Below.drew | with_reducible refine Below.alloc ?_ (by simp <;> omega) _))) ?_) | (at_lookup; refine wpList_look _ rfl _ _ _ _ rfl rfl rfl (L2.out _ (by repeat (first | with_reducible exact Below.refl _ _ | with_reducible assumption | with_reducible apply below_drewN | with_reducible apply Below.drew | with_reducible refine Below.alloc ?_ (by simp <;> omega) _))) ?_))
     go_ret2
     exact ⟨.inr ⟨Hq.out, rfl⟩, below_step Hb.out (by repeat (first | with_reducible exact Below.refl _ _ | with_reducible assumption | with_reducible apply below_drewN | with_reducible apply Below.drew | with_reducible refine Below.alloc ?_ (by simp <;> omega) _)) Hb.out.size⟩
    ·skip
     have L2 := Lib.hid (show ∀ w', Below wr.heap.size wr w' → (Instr.lookup 87 (.map (some (w.heap.size + 1))) (.agg #[.int .i64 y.b.e, .int .i64 y.b.n]) true).run Tryz.prog w' = .ok (.tuple #[.agg #[.int .i64 0, .int .i64 0], .bool false]) w' from fun w' hb => (Hm.out.miss (nextIn_none.2 m2) keyed_port Tryz.underlying87 zero_port (key_port Hwf.out.2) w' hb).2)
     by_cases hab : y.a = y.b
     ·have q1 := eql_port (x := y.a) (y := y.b) (b := true) (by simpa using hab)
      have Hq := Lib.hid (joined_no (join_no (Hd.out ▸ hr.out) (.inr (.inr (.inl hab)))))
      clear m1 m2 hab
      go_wp2_with (first | (at_lookup; refine wpList_look _ rfl _ _ _ _ rfl rfl rfl (L1.out _ (by repeat (first | with_reducible exact Below.refl _ _ | with_reducible assumption | with_reducible apply below_drewN | with_reducible apply Below.drew | with_reducible refine Below.alloc ?_ (by simp <;> omega) _))) ?_) | (at_lookup; refine wpList_look _ rfl _ _ _ _ rfl rfl rfl (L2.out _ (by repeat (first | with_reducible exact Below.refl _ _ | with_reducible assumption | with_reducible apply below_drewN | with_reducible apply Below.drew | with_reducible refine Below.alloc ?_ (by simp <;> omega) _))) ?_))
      go_ret2
      exact ⟨.inr ⟨Hq.out, rfl⟩, below_step Hb.out (by repeat (first | with_reducible exact Below.refl _ _ | with_reducible assumption | with_reducible apply below_drewN | with_reducible apply Below.drew | with_reducible refine Below.alloc ?_ (by simp <;> omega) _)) Hb.out.size⟩
     have q1 := eql_port (x := y.a) (y := y.b) (b := false) (by simpa using hab)
     have HW := ((HB.out.alloc (.cells #[.int .i64 y.a.e, .int .i64 y.a.n, .int .i64 y.b.e, .int .i64 y.b.n] 94)).alloc (.cells #[.int .i64 0, .int .i64 0] 43)).alloc (.cells #[.int .i64 0, .int .i64 0] 43)
     obtain ⟨_, d0, d1, d2, d3, d4, d5, d6, d7, d8⟩ := HW
     dsimp only at d0 d1 d2 d3
     cases hp1 : isPort p y.a
     ·have Hq := Lib.hid (joined_no (join_no (Hd.out ▸ hr.out) (.inr (.inr (.inr (.inl hp1))))))
      have M1 := Lib.hid m1; have M2 := Lib.hid m2; have Hab := Lib.hid hab; clear m1 m2 hab
      go_wp2_with (first | (at_lookup; refine wpList_look _ rfl _ _ _ _ rfl rfl rfl (L1.out _ (by repeat (first | with_reducible exact Below.refl _ _ | with_reducible assumption | with_reducible apply below_drewN | with_reducible apply Below.drew | with_reducible refine Below.alloc ?_ (by simp <;> omega) _))) ?_) | (at_lookup; refine wpList_look _ rfl _ _ _ _ rfl rfl rfl (L2.out _ (by repeat (first | with_reducible exact Below.refl _ _ | with_reducible assumption | with_reducible apply below_drewN | with_reducible apply Below.drew | with_reducible refine Below.alloc ?_ (by simp <;> omega) _))) ?_))
      refine (port_any _ _ p y.a (hP.out.below (below_step Hb.out (by repeat (first | with_reducible exact Below.refl _ _ | with_reducible assumption | with_reducible apply below_drewN | with_reducible apply Below.drew | with_reducible refine Below.alloc ?_ (by simp <;> omega) _)) Hb.out.size))).mono ?_
      rintro e w1 ⟨rfl, hb1⟩
      have hb1' := Lib.hid (below_step (below_step Hb.out (by repeat (first | with_reducible exact Below.refl _ _ | with_reducible assumption | with_reducible apply below_drewN | with_reducible apply Below.drew | with_reducible refine Below.alloc ?_ (by simp <;> omega) _)) Hb.out.size) hb1 (by have := Hb.out.size; simp; omega))
      rw [hp1]
      clear hb1
      go_wp2_with fail
      go_ret2
      exact ⟨.inr ⟨Hq.out, rfl⟩, hb1'.out⟩
     ·have M1 := Lib.hid m1; have M2 := Lib.hid m2; have Hab := Lib.hid hab; clear m1 m2 hab
      go_wp2_with (first | (at_lookup; refine wpList_look _ rfl _ _ _ _ rfl rfl rfl (L1.out _ (by repeat (first | with_reducible exact Below.refl _ _ | with_reducible assumption | with_reducible apply below_drewN | with_reducible apply Below.drew | with_reducible refine Below.alloc ?_ (by simp <;> omega) _))) ?_) | (at_lookup; refine wpList_look _ rfl _ _ _ _ rfl rfl rfl (L2.out _ (by repeat (first | with_reducible exact Below.refl _ _ | with_reducible assumption | with_reducible apply below_drewN | with_reducible apply Below.drew | with_reducible refine Below.alloc ?_ (by simp <;> omega) _))) ?_))
      refine (port_any _ _ p y.a (hP.out.below (below_step Hb.out (by repeat (first | with_reducible exact Below.refl _ _ | with_reducible assumption | with_reducible apply below_drewN | with_reducible apply Below.drew | with_reducible refine Below.alloc ?_ (by simp <;> omega) _)) Hb.out.size))).mono ?_
      rintro e w1 ⟨rfl, hb1⟩
      rw [hp1]
      have hr1 : Below wr.heap.size wr w1 := below_step (by repeat (first | with_reducible exact Below.refl _ _ | with_reducible assumption | with_reducible apply below_drewN | with_reducible apply Below.drew | with_reducible refine Below.alloc ?_ (by simp <;> omega) _)) hb1 (by simp; omega)
      have z1 : wr.heap.size + 1 + 1 + 1 ≤ w1.heap.size := by have := hb1.size; simpa using this
      have k0 : w1.cell? ⟨wr.heap.size, 0, none⟩ = some (.int .i64 y.a.e) := (hb1.cell (p := ⟨wr.heap.size, 0, none⟩) (by simp; omega)).trans (by go_simp)
      have k1 : w1.cell? ⟨wr.heap.size, 1, none⟩ = some (.int .i64 y.a.n) := (hb1.cell (p := ⟨wr.heap.size, 1, none⟩) (by simp; omega)).trans (by go_simp)
      have k2 : w1.cell? ⟨wr.heap.size, 2, none⟩ = some (.int .i64 y.b.e) := (hb1.cell (p := ⟨wr.heap.size, 2, none⟩) (by simp; omega)).trans (by go_simp)
      have k3 : w1.cell? ⟨wr.heap.size, 3, none⟩ = some (.int .i64 y.b.n) := (hb1.cell (p := ⟨wr.heap.size, 3, none⟩) (by simp; omega)).trans (by go_simp)
      have HB1 := Lib.hid (HB.out.below hr1)
      have Hr1 := Lib.hid hr1; clear hr1
      clear hb1 c0 c1 c2 c3 c4 c5 c6 c7 c8 g1 g2 g3 g4 d0 d1 d2 d3 d4 d5 d6 d7 d8
      obtain ⟨_, c0, c1, c2, c3, c4, c5, c6, c7, c8⟩ := HB1.out
      dsimp only at c0 c1 c2 c3
      cases hp2 : isPort p y.b
      ·have Hq := Lib.hid (joined_no (join_no (Hd.out ▸ hr.out) (.inr (.inr (.inr (.inr hp2))))))
       go_wp2_with fail
       refine (port_any _ _ p y.b (hP.out.below (below_step Hb.out Hr1.out Hb.out.size))).mono ?_
       rintro e w2 ⟨rfl, hb2⟩
       have hb2' := Lib.hid (below_step (below_step Hb.out Hr1.out Hb.out.size) hb2 (by have := Hb.out.size; omega))
       rw [hp2]
       clear hb2
       go_wp2_with fail
       go_ret2
       exact ⟨.inr ⟨Hq.out, rfl⟩, hb2'.out⟩
      ·have Hj := Lib.hid (join_yes (Hd.out ▸ hr.out) M1.out M2.out Hab.out hp1 hp2)
       go_wp2_with fail
       refine (port_any _ _ p y.b (hP.out.below (below_step Hb.out Hr1.out Hb.out.size))).mono ?_
       rintro e w2 ⟨rfl, hb2⟩
       rw [hp2]
       have hr2 : Below wr.heap.size wr w2 := below_step Hr1.out hb2 (by omega)
       have k0 := (hb2.cell (p := ⟨wr.heap.size, 0, none⟩) (by show wr.heap.size < _; omega)).trans k0
       have k1 := (hb2.cell (p := ⟨wr.heap.size, 1, none⟩) (by show wr.heap.size < _; omega)).trans k1
       have k2 := (hb2.cell (p := ⟨wr.heap.size, 2, none⟩) (by show wr.heap.size < _; omega)).trans k2
       have k3 := (hb2.cell (p := ⟨wr.heap.size, 3, none⟩) (by show wr.heap.size < _; omega)).trans k3
       have z2 : wr.heap.size + 1 ≤ w2.heap.size := by have := hb2.size; omega
       have Hr2 := Lib.hid hr2; clear hr2
       clear hb2 c0 c1 c2 c3 c4 c5 c6 c7 c8
       have HB2 := Lib.hid (HB.out.below Hr2.out)
       have T1 := Lib.hid (show ∀ W : World, MapOf portCode Port.val W 43 (w.heap.size + 1) (2 * j) (nextIn (p.joins.take j)) → ∃ w', (Instr.mapUpdate 87 (.map (some (w.heap.size + 1))) (.agg #[.int .i64 y.a.e, .int .i64 y.a.n]) (.agg #[.int .i64 y.b.e, .int .i64 y.b.n])).run Tryz.prog W = .ok () w' ∧
        MapOf portCode Port.val w' 43 (w.heap.size + 1) (2 * j + 1) (nextHalf (p.joins.take j) y) ∧ W.grownBy w' (some (w.heap.size + 1)) from fun W hW => hW.store (x := y.a) (y := y.b) _ (nextHalf_key _ _) (nextHalf_other _ _) (by unfold maxLen; omega) keyed_port Tryz.underlying87 (key_port Hwf.out.1))
       have T2 := Lib.hid (show ∀ W : World, MapOf portCode Port.val W 43 (w.heap.size + 1) (2 * j + 1) (nextHalf (p.joins.take j) y) → ∃ w', (Instr.mapUpdate 87 (.map (some (w.heap.size + 1))) (.agg #[.int .i64 y.b.e, .int .i64 y.b.n]) (.agg #[.int .i64 y.a.e, .int .i64 y.a.n])).run Tryz.prog W = .ok () w' ∧
        MapOf portCode Port.val w' 43 (w.heap.size + 1) (2 * (j + 1)) (nextIn (p.joins.take (j + 1))) ∧ W.grownBy w' (some (w.heap.size + 1)) from fun W hW => hW.store (x := y.b) (y := y.a) _ (by rw [take_next Hy.out]; exact (next_snoc M1.out M2.out Hab.out).1) (by rw [take_next Hy.out]; exact (next_snoc M1.out M2.out Hab.out).2) (by unfold maxLen; omega) keyed_port Tryz.underlying87 (key_port Hwf.out.2))
       have Hm2 := Lib.hid (Hm.out.below Hr2.out hmlt)
       have hb2 := Lib.hid (below_step Hb.out Hr2.out Hb.out.size)
       obtain ⟨w3, t3, hm3, hg3⟩ := T1.out w2.drew Hm2.out
       obtain ⟨w4, t4, hm4, hg4⟩ := T2.out w3 hm3
       have Hm4 := Lib.hid hm4
       have Hb4 := Lib.hid ((hb2.out.drew.grown hg3 (by have := hb2.out.size; simpa using this) (by intro k hk; simp only [Option.some.injEq] at hk; omega)).grown hg4 (by have := hb2.out.size; have := hg3.size; simp at *; omega) (by intro k hk; simp only [Option.some.injEq] at hk; omega))
       clear hm3 hm4
       go_wp2_with fail
       go_region_held3 (fun w' => w'.cell? ⟨wr.heap.size, 0, none⟩ = some (.int .i64 y.a.e) ∧ w'.cell? ⟨wr.heap.size, 1, none⟩ = some (.int .i64 y.a.n) ∧ w'.cell? ⟨wr.heap.size, 2, none⟩ = some (.int .i64 y.b.e) ∧ w'.cell? ⟨wr.heap.size, 3, none⟩ = some (.int .i64 y.b.n))
        (first
         | exact ⟨hg4.cell (hg3.cell k0 (by simp; omega)) (by simp; omega), hg4.cell (hg3.cell k1 (by simp; omega)) (by simp; omega), hg4.cell (hg3.cell k2 (by simp; omega)) (by simp; omega), hg4.cell (hg3.cell k3 (by simp; omega)) (by simp; omega)⟩
         | exact ⟨hg3.cell k0 (by simp; omega), hg3.cell k1 (by simp; omega), hg3.cell k2 (by simp; omega), hg3.cell k3 (by simp; omega)⟩
         | go_keep)
        (fail)
       go_wp2_with fail
       go_roundg (gk - 1)
       case measure => have := Hk.out; omega
       case rel => exact ⟨j + 1, by have := Hk.out; omega, by go_num, by rw [flat_take Hy.out]; exact Hj.out, Hm4.out, (HB2.out.drew.kept hg3 (by simp)).kept hg4 (by simp), Hb4.out⟩
  ·have hjo : joinGo p [] p.joins = true := by have := hr.out; rw [drop_end lj.out (by omega)] at this; exact this.symm
   have Hports := Lib.hid (joinGo_ok _ _ hjo).2.2
   have Hjo := Lib.hid hjo; clear hjo
   have Hmp := Lib.hid (show MapOf portCode Port.val wr 43 (w.heap.size + 1) 2000 (nextOf p) from (Hm.out.mono (show 2 * j ≤ 2000 by have := Hk.out; omega)).congr (fun x => by unfold nextOf; rw [List.take_of_length_le (by have := lj.out; omega)]))
   clear Hm hr
   go_wp2_with fail
   go_loopg [76] ne (fun k i wr => ∃ (j : Nat), j + k = ne ∧ i = .int .i64 j ∧ Hid (gateGo p (nextOf p) j (p.elems.drop j) = gateGo p (nextOf p) 0 p.elems) ∧ MapOf portCode Port.val wr 43 (w.heap.size + 1) 2000 (nextOf p) ∧ PBox wr w.heap.size ⟨ae, ne, ce, aj, nj, cj, as_, ns, cs, al, nl, cl, lv⟩ p ∧ Below w.heap.size w wr)
   case atStart => exact ⟨0, by omega, rfl, rfl, Hmp.out, HB.out, hb⟩
   case round =>
    clear Hmp HB hb hlt hbl c0 c1 c2 c3 c4 c5 c6 c7 c8 hmlt
    obtain ⟨j, hk, rfl, hr, hm, hB, hb⟩ := hrel
    have Hk := Lib.hid hk; clear hk
    have HB := Lib.hid hB
    have Hm := Lib.hid hm; clear hm
    have hmlt := Hm.out.lt
    obtain ⟨hbl, c0, _⟩ := hB
    dsimp only at c0
    by_cases hlt : j < ne
    ·obtain ⟨y, hy⟩ := get_some le.out hlt
     obtain ⟨pb, off, rfl, hpb, g1, g2, g3⟩ := he.elemB hb hy
     have Hd := Lib.hid (drop_cons hy)
     clear hy
     have Hb := Lib.hid hb; clear hb
     have hE := Lib.hid (he.below Hb.out)
     have hwz : w.heap.size ≤ wr.heap.size := Hb.out.size
     by_cases h4 : y.kind = 4
     ·have k4 : (y.kind != 4) = false := by simp [h4]
      cases hn : nextOf p ⟨j, 0⟩ with
      | none =>
       have Hq := Lib.hid (show joinedOk p = false by
        have := hr.out; rw [Hd.out, gateGo, if_pos h4, hn] at this
        unfold joinedOk; rw [← this]; simp)
       have L1 := Lib.hid (show ∀ w', Below wr.heap.size wr w' → (Instr.lookup 87 (.map (some (w.heap.size + 1))) (.agg #[.int .i64 (j : Int), .int .i64 0]) true).run Tryz.prog w' = .ok (.tuple #[.agg #[.int .i64 0, .int .i64 0], .bool false]) w' from fun w' hb => (Hm.out.miss hn keyed_port Tryz.underlying87 zero_port (key_port ⟨⟨by show -9223372036854775808 ≤ (j : Int); omega, by show (j : Int) ≤ 9223372036854775807; omega⟩, ⟨by show -9223372036854775808 ≤ (0 : Int); omega, by show (0 : Int) ≤ 9223372036854775807; omega⟩⟩) w' hb).2)
       clear hn h4
       go_wp2_with (at_lookup; refine wpList_look _ rfl _ _ _ _ rfl rfl rfl (L1.out _ (by repeat (first | with_reducible exact Below.refl _ _ | with_reducible assumption | with_reducible apply below_drewN | with_reducible apply Below.drew | with_reducible refine Below.alloc ?_ (by simp <;> omega) _))) ?_)
       go_ret2
       exact ⟨.inr ⟨Hq.out, rfl⟩, below_step Hb.out (by repeat (first | with_reducible exact Below.refl _ _ | with_reducible assumption | with_reducible apply below_drewN | with_reducible apply Below.drew | with_reducible refine Below.alloc ?_ (by simp <;> omega) _)) Hb.out.size⟩
      | some x =>
       have hpx := isPort_iff.1 (Hports.out x (nextIn_some hn).2)
       rw [le.out] at hpx
       obtain ⟨x1, x2, _, _⟩ := hpx
       obtain ⟨pb', off', z, ha', _, hz, e1, e2, e3⟩ := hE.out.elemI x1 x2
       cases ha'
       have Hz := Lib.hid (show p.kind x.e = z.kind by unfold Plan.kind; rw [elem_get x1 hz])
       clear hz
       have L1 := Lib.hid (show ∀ w', Below wr.heap.size wr w' → (Instr.lookup 87 (.map (some (w.heap.size + 1))) (.agg #[.int .i64 (j : Int), .int .i64 0]) true).run Tryz.prog w' = .ok (.tuple #[.agg #[.int .i64 x.e, .int .i64 x.n], .bool true]) w' from fun w' hb => (Hm.out.hit hn keyed_port Tryz.underlying87 zero_port (key_port ⟨⟨by show -9223372036854775808 ≤ (j : Int); omega, by show (j : Int) ≤ 9223372036854775807; omega⟩, ⟨by show -9223372036854775808 ≤ (0 : Int); omega, by show (0 : Int) ≤ 9223372036854775807; omega⟩⟩) w' hb).2)
       by_cases hx4 : z.kind = 4
       ·have q4 : (z.kind == 4) = true := by simp [hx4]
        have Hq := Lib.hid (show joinedOk p = false by
         have := hr.out; rw [Hd.out, gateGo, if_pos h4, hn] at this
         unfold joinedOk; rw [← this]; simp [Hz.out, hx4])
        clear hn h4 hx4
        go_wp2_with (at_lookup; refine wpList_look _ rfl _ _ _ _ rfl rfl rfl (L1.out _ (by repeat (first | with_reducible exact Below.refl _ _ | with_reducible assumption | with_reducible apply below_drewN | with_reducible apply Below.drew | with_reducible refine Below.alloc ?_ (by simp <;> omega) _))) ?_)
        go_ret2
        exact ⟨.inr ⟨Hq.out, rfl⟩, below_step Hb.out (by repeat (first | with_reducible exact Below.refl _ _ | with_reducible assumption | with_reducible apply below_drewN | with_reducible apply Below.drew | with_reducible refine Below.alloc ?_ (by simp <;> omega) _)) Hb.out.size⟩
       ·have q4 : (z.kind == 4) = false := by simp [hx4]
        have Hq := Lib.hid (show gateGo p (nextOf p) (j + 1) (p.elems.drop (j + 1)) = gateGo p (nextOf p) 0 p.elems by
         have := hr.out; rw [Hd.out, gateGo, if_pos h4, hn] at this
         rw [← this]; simp [Hz.out, hx4])
        clear hn h4 hx4
        go_wp2_with (at_lookup; refine wpList_look _ rfl _ _ _ _ rfl rfl rfl (L1.out _ (by repeat (first | with_reducible exact Below.refl _ _ | with_reducible assumption | with_reducible apply below_drewN | with_reducible apply Below.drew | with_reducible refine Below.alloc ?_ (by simp <;> omega) _))) ?_)
        go_roundg (gk - 1)
        case measure => have := Hk.out; omega
        case rel => exact ⟨j + 1, by have := Hk.out; omega, by go_num, Hq.out, Hm.out.below (B := wr.heap.size) (by repeat (first | with_reducible exact Below.refl _ _ | with_reducible assumption | with_reducible apply below_drewN | with_reducible apply Below.drew | with_reducible refine Below.alloc ?_ (by simp <;> omega) _)) hmlt, HB.out.below (by repeat (first | with_reducible exact Below.refl _ _ | with_reducible assumption | with_reducible apply below_drewN | with_reducible apply Below.drew | with_reducible refine Below.alloc ?_ (by simp <;> omega) _)), below_step Hb.out (by repeat (first | with_reducible exact Below.refl _ _ | with_reducible assumption | with_reducible apply below_drewN | with_reducible apply Below.drew | with_reducible refine Below.alloc ?_ (by simp <;> omega) _)) Hb.out.size⟩
     ·have k4 : (y.kind != 4) = true := by simp [h4]
      have Hq := Lib.hid (show gateGo p (nextOf p) (j + 1) (p.elems.drop (j + 1)) = gateGo p (nextOf p) 0 p.elems by
       have := hr.out; rw [Hd.out, gateGo, if_neg h4] at this
       rw [← this]; simp)
      clear h4
      go_wp2_with fail
      go_roundg (gk - 1)
      case measure => have := Hk.out; omega
      case rel => exact ⟨j + 1, by have := Hk.out; omega, by go_num, Hq.out, Hm.out.below (B := wr.heap.size) (by repeat (first | with_reducible exact Below.refl _ _ | with_reducible assumption | with_reducible apply below_drewN | with_reducible apply Below.drew | with_reducible refine Below.alloc ?_ (by simp <;> omega) _)) hmlt, HB.out.below (by repeat (first | with_reducible exact Below.refl _ _ | with_reducible assumption | with_reducible apply below_drewN | with_reducible apply Below.drew | with_reducible refine Below.alloc ?_ (by simp <;> omega) _)), below_step Hb.out (by repeat (first | with_reducible exact Below.refl _ _ | with_reducible assumption | with_reducible apply below_drewN | with_reducible apply Below.drew | with_reducible refine Below.alloc ?_ (by simp <;> omega) _)) Hb.out.size⟩
    ·have Hq := Lib.hid (show joinedOk p = true by
      have := hr.out; rw [drop_end le.out (by omega)] at this
      unfold joinedOk; rw [Hjo.out, ← this]; rfl)
     have Hb := Lib.hid hb; clear hb
     go_wp2_with fail
     go_ret2
     exact ⟨.inl ⟨Hq.out, _, rfl, by omega, Hm.out⟩, Hb.out⟩
end Go.Proofs.YtcaeglnfflkabaaGreat
