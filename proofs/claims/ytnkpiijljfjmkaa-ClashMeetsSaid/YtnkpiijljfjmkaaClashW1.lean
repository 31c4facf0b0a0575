/- Walks of road.Elems and of semaphoreref12's Elems, Own, meets, against, all. Condition: the road is read. -/
import Derived.Test.YtnkpiijljfjmkaaClashAt
import Derived.Test.YtnkpiijljfjmkaaNetM1
import Derived.Test.YtnkpiijljfjmkaaUptoMap
import Derived.Lib.QuietBelow
import Derived.Test.YtnkpiijljfjmkaaMade
set_option maxRecDepth 1000000
namespace Go.Proofs.Ytnkpiijljfjmkaa
open Go.ChangeShapes Go.WideShapes Go.ChangeAt Go.RowKit Go.Sort

theorem info_intC : (Try.prog.info? 3).map (fun i => (i.zero, i.size, i.bytes)) = some (some (.int .i64 0), 1, 8) := by kernel_rfl
theorem below_new1 (w : World) (o : Obj) : Below w.heap.size w (w.alloc o) := (Below.refl _ _).alloc (Nat.le_refl _) _
theorem rbox_new (w : World) (v : RV) (r : Road) : RBox (w.alloc (.cells (v.cells r) 38)) w.heap.size v r := RBox.mk' w v r _
/-- a row of numbers that the call made, or nil -/
def IntsPost (w : World) (l : List Int) (e : Ending) (w' : World) : Prop := ∃ a n c, e = .returned (.slice a n c) ∧ Ints w' a n l ∧ (a = none → c = 0) ∧ Below w.heap.size w w'
theorem take_elems {l : List Stp} {j : Nat} {y : Stp} (h : l[j]? = some y) : (l.take (j + 1)).map (·.e) = (l.take j).map (·.e) ++ [y.e] := by
 rw [List.take_add_one, h]; simp
theorem take_all {α : Type} {l : List α} {n j : Nat} (h : l.length = n) (hj : n ≤ j) : l.take j = l := List.take_of_length_le (by omega)
set_option maxHeartbeats 1000000 in
theorem elems_any (w : World) (rv : RV) (r : Road) (h : RoadAt w rv r) (hl : rv.sn ≤ 100) : Calls Try.prog 26 #[rv.val r] w (IntsPost w r.elems) := by
 obtain ⟨sa, sn, sc, na, nn, nc, ga, gn, gc, za, zn, zc, ha, hn, hc⟩ := rv
 dsimp only at hl
 have hs : Stps w sa sn r.steps := h.s
 have Hs := Lib.hid hs
 have hlen : r.steps.length = sn := hs.len
 have Hlen := Lib.hid hlen
 obtain ⟨W0, hW0⟩ : ∃ W0, W0 = w.alloc (.cells #[.int .i64 r.frm, .int .i64 r.to, .int .i64 r.fin, .slice sa sn sc, .slice na nn nc, .slice ga gn gc, .slice za zn zc, .slice ha hn hc, .bool r.bare] 38) := ⟨_, rfl⟩
 have HR := Lib.hid (show RBox W0 w.heap.size ⟨sa, sn, sc, na, nn, nc, ga, gn, gc, za, zn, zc, ha, hn, hc⟩ r by rw [hW0]; exact rbox_new w ⟨sa, sn, sc, na, nn, nc, ga, gn, gc, za, zn, zc, ha, hn, hc⟩ r)
 have Hb0 := Lib.hid (show Below w.heap.size w W0 by rw [hW0]; exact below_new1 w _)
 have hz0 : W0.heap.size = w.heap.size + 1 := by rw [hW0]; simp
 have Hz0 := Lib.hid hz0
 obtain ⟨ii, hii, zi1, zi2, zi3⟩ := info_parts info_intC
 clear h hs hlen
 dsimp only [RV.val]
 obtain ⟨hrl, q0, q1, q2, q3, q4, q5, q6, q7, q8⟩ := HR.out
 dsimp only at q0 q1 q2 q3 q4 q5 q6 q7 q8
 go_enter Try.func26, Try.ntmps26
 go_wp2_with fail
 rw [← hW0]
 clear hW0
 go_wp2_with fail
 go_loopg [3, 9] sn (fun k s3 s9 wr => ∃ (j : Nat), j + k = sn ∧ s9 = .int .i64 j ∧ Hid (OwnI wr W0.heap.size s3 j ((r.steps.take j).map (·.e))) ∧ Hid (Below W0.heap.size W0 wr))
 case atStart => exact ⟨0, by omega, rfl, World.ownsRow_nil _ _ _ _, Below.refl _ _⟩
 case round =>
  obtain ⟨j, hk, rfl, Own, Hb⟩ := hrel
  have Hk := Lib.hid hk; clear hk
  obtain ⟨a1, c1, rfl, _, hc1⟩ := own_slice Own.out
  by_cases hlt : j < sn
  ·obtain ⟨y, hy⟩ := get_some Hlen.out hlt
   obtain ⟨pb, off, rfl, hpb, g1, g2, g3⟩ := (Hs.out.below (below_step Hb0.out Hb.out Hb0.out.size)).stp hy
   have Hn := Lib.hid (take_elems hy)
   clear hy
   have Hz := Lib.hid Hb.out.size
   have hz := Hb.out.size
   go_wp2_with (at_builtin; refine wpList_append_own _ rfl _ _ 36 rfl W0.heap.size 3 ii (.int .i64 0) 1 8 Try.underlying36 hii zi1 zi2 zi3 rfl (by decide) _ _ _ rfl ((Own.out.alloc _).alloc _) ⟨wr.heap.size + 1, 0, none⟩ 1 1 [.int .i64 y.e] rfl rfl (by simpa using cell_one_new (wr.alloc (.cells #[.int .i64 y.e, .int .i64 y.i, .int .i64 y.o] 47)) (.int .i64 y.e) 3) (one_int _ _) (by simp [maxLen]; omega) (by omega) (by simp; omega) ?_)
   intro v3 w3 hown3 hgrow3 _
   have Hb3 := Lib.hid (grown_below ((Hb.out.alloc Hb.out.size (.cells #[.int .i64 y.e, .int .i64 y.i, .int .i64 y.o] 47)).alloc (by simp; omega) (.cells #[.int .i64 y.e] 3)) ((Own.out.alloc (.cells #[.int .i64 y.e, .int .i64 y.i, .int .i64 y.o] 47)).alloc (.cells #[.int .i64 y.e] 3)) (Nat.le_refl _) (by simp; omega) hgrow3)
   have Own3 := Lib.hid (show OwnI w3 W0.heap.size v3 (j + 1) ((r.steps.take (j + 1)).map (·.e)) by rw [Hz0.out, Hn.out]; simpa [OwnI, List.map_take] using hown3)
   clear hown3 hgrow3 hz g1 g2 g3
   go_wp2_with fail
   go_roundg (gk - 1)
   case measure => have := Hk.out; omega
   case rel => exact ⟨j + 1, by have := Hk.out; omega, by go_num, Own3.out, Hb3.out⟩
  ·go_wp2_with fail
   go_ret
   refine ⟨a1, j, c1, rfl, ?_, fun h => (hc1 h).2, below_step Hb0.out Hb.out Hb0.out.size⟩
   have := (own_ints Own.out).1
   rw [take_all Hlen.out (by omega)] at this
   exact this

theorem elems_l {w : World} {sa na ga za ha : Option Addr} {sn sc nn nc gn gc zn zc hn hc : Nat} {r : Road} (h : RoadAt w ⟨sa, sn, sc, na, nn, nc, ga, gn, gc, za, zn, zc, ha, hn, hc⟩ r) (hl : sn ≤ 100) : Calls Try.prog 26 #[(.agg #[.int .i64 r.frm, .int .i64 r.to, .int .i64 r.fin, .slice sa sn sc, .slice na nn nc, .slice ga gn gc, .slice za zn zc, .slice ha hn hc, .bool r.bare])] w (IntsPost w r.elems) := elems_any w ⟨sa, sn, sc, na, nn, nc, ga, gn, gc, za, zn, zc, ha, hn, hc⟩ r h hl
set_option maxHeartbeats 1000000 in
theorem refelems_s (w : World) (rv : RV) (r : Road) (h : Stps w rv.sa rv.sn r.steps) (hl : rv.sn ≤ 100) : Calls Try.prog 32 #[rv.val r] w (IntsPost w r.elems) := by
 obtain ⟨sa, sn, sc, na, nn, nc, ga, gn, gc, za, zn, zc, ha, hn, hc⟩ := rv
 dsimp only at hl
 have hs : Stps w sa sn r.steps := h
 have Hs := Lib.hid hs
 have hlen : r.steps.length = sn := hs.len
 have Hlen := Lib.hid hlen
 obtain ⟨W0, hW0⟩ : ∃ W0, W0 = w.alloc (.cells #[.int .i64 r.frm, .int .i64 r.to, .int .i64 r.fin, .slice sa sn sc, .slice na nn nc, .slice ga gn gc, .slice za zn zc, .slice ha hn hc, .bool r.bare] 38) := ⟨_, rfl⟩
 have HR := Lib.hid (show RBox W0 w.heap.size ⟨sa, sn, sc, na, nn, nc, ga, gn, gc, za, zn, zc, ha, hn, hc⟩ r by rw [hW0]; exact rbox_new w ⟨sa, sn, sc, na, nn, nc, ga, gn, gc, za, zn, zc, ha, hn, hc⟩ r)
 have Hb0 := Lib.hid (show Below w.heap.size w W0 by rw [hW0]; exact below_new1 w _)
 have hz0 : W0.heap.size = w.heap.size + 1 := by rw [hW0]; simp
 have Hz0 := Lib.hid hz0
 obtain ⟨ii, hii, zi1, zi2, zi3⟩ := info_parts info_intC
 clear h hs hlen
 dsimp only [RV.val]
 go_enter Try.func32, Try.ntmps32
 go_wp2_with fail
 rw [← hW0]
 clear hW0
 go_loopg [3, 4] sn (fun k s3 s4 wr => ∃ (j : Nat), j + k = sn ∧ s4 = .int .i64 j ∧ Hid (OwnI wr W0.heap.size s3 j ((r.steps.take j).map (·.e))) ∧ Hid (Below W0.heap.size W0 wr))
 case atStart => exact ⟨0, by omega, rfl, World.ownsRow_nil _ _ _ _, Below.refl _ _⟩
 case round =>
  obtain ⟨j, hk, rfl, Own, Hb⟩ := hrel
  have Hk := Lib.hid hk; clear hk
  obtain ⟨a1, c1, rfl, _, hc1⟩ := own_slice Own.out
  have q3 := (HR.out.below Hb.out).c3
  have hrl := (HR.out.below Hb.out).lt
  dsimp only at q3
  by_cases hlt : j < sn
  ·obtain ⟨y, hy⟩ := get_some Hlen.out hlt
   obtain ⟨pb, off, rfl, hpb, g1, g2, g3⟩ := (Hs.out.below (below_step Hb0.out Hb.out Hb0.out.size)).stp hy
   have Hn := Lib.hid (take_elems hy)
   have hz := Hb.out.size
   clear hy
   go_wp2_with (at_builtin; refine wpList_append_own _ rfl _ _ 36 rfl W0.heap.size 3 ii (.int .i64 0) 1 8 Try.underlying36 hii zi1 zi2 zi3 rfl (by decide) _ _ _ rfl (Own.out.alloc _) ⟨wr.heap.size, 0, none⟩ 1 1 [.int .i64 y.e] rfl rfl (cell_one_new _ _ _) (one_int _ _) (by simp [maxLen]; omega) (by omega) (by simp; omega) ?_)
   intro v3 w3 hown3 hgrow3 _
   have Hb3 := Lib.hid (grown_below (Hb.out.alloc Hb.out.size (.cells #[.int .i64 y.e] 3)) (Own.out.alloc (.cells #[.int .i64 y.e] 3)) (Nat.le_refl _) (by simp; omega) hgrow3)
   have Own3 := Lib.hid (show OwnI w3 W0.heap.size v3 (j + 1) ((r.steps.take (j + 1)).map (·.e)) by rw [Hz0.out, Hn.out]; simpa [OwnI, List.map_take] using hown3)
   clear hown3 hgrow3 hz g1 g2 g3 q3
   go_wp2_with fail
   go_roundg (gk - 1)
   case measure => have := Hk.out; omega
   case rel => exact ⟨j + 1, by have := Hk.out; omega, by go_num, Own3.out, Hb3.out⟩
  ·go_wp2_with fail
   go_ret
   refine ⟨a1, j, c1, rfl, ?_, fun h => (hc1 h).2, below_step Hb0.out Hb.out Hb0.out.size⟩
   have := (own_ints Own.out).1
   rw [take_all Hlen.out (by omega)] at this
   exact this
theorem own_s (w : World) (rv : RV) (r : Road) (h : Stps w rv.sa rv.sn r.steps) (hl : rv.sn ≤ 100) (e : Int) : Calls Try.prog 18 #[rv.val r, .int .i64 e] w fun en w' => en = .returned (.bool (memB e r.elems)) ∧ Below w.heap.size w w' := by
 obtain ⟨sa, sn, sc, na, nn, nc, ga, gn, gc, za, zn, zc, ha, hn, hc⟩ := rv
 dsimp only at hl
 obtain ⟨W0, hW0⟩ : ∃ W0, W0 = w.alloc (.cells #[.int .i64 r.frm, .int .i64 r.to, .int .i64 r.fin, .slice sa sn sc, .slice na nn nc, .slice ga gn gc, .slice za zn zc, .slice ha hn hc, .bool r.bare] 38) := ⟨_, rfl⟩
 have HR := Lib.hid (show RBox W0 w.heap.size ⟨sa, sn, sc, na, nn, nc, ga, gn, gc, za, zn, zc, ha, hn, hc⟩ r by rw [hW0]; exact rbox_new w ⟨sa, sn, sc, na, nn, nc, ga, gn, gc, za, zn, zc, ha, hn, hc⟩ r)
 have Hb0 := Lib.hid (show Below w.heap.size w W0 by rw [hW0]; exact below_new1 w _)
 have HE := Lib.hid (refelems_s W0 ⟨sa, sn, sc, na, nn, nc, ga, gn, gc, za, zn, zc, ha, hn, hc⟩ r (h.below Hb0.out) hl)
 dsimp only [RV.val] at HE
 clear h
 dsimp only [RV.val]
 obtain ⟨hrl, q0, q1, q2, q3, q4, q5, q6, q7, q8⟩ := HR.out
 dsimp only at q0 q1 q2 q3 q4 q5 q6 q7 q8
 go_enter Try.func18, Try.ntmps18
 go_wp2_with fail
 rw [← hW0]
 clear hW0
 go_wp2_with fail
 refine HE.out.mono ?_
 rintro en w1 ⟨a, n, c, rfl, hi, _, hb⟩
 have Hb1 := Lib.hid (below_step Hb0.out hb Hb0.out.size)
 clear hb
 go_wp2_with fail
 refine (refin_any w1 a n c r.elems hi e).mono ?_
 rintro en w2 ⟨rfl, rfl⟩
 go_wp2_with fail
 go_ret
 exact ⟨rfl, Hb1.out⟩
theorem own_any (w : World) (rv : RV) (r : Road) (h : RoadAt w rv r) (hl : rv.sn ≤ 100) (e : Int) : Calls Try.prog 18 #[rv.val r, .int .i64 e] w fun en w' => en = .returned (.bool (memB e r.elems)) ∧ Below w.heap.size w w' := own_s w rv r h.s hl e
/-! meets, against -/
theorem any_drop {α : Type} {l : List α} {f : α → Bool} {j : Nat} {y : α} (h : l[j]? = some y) : (l.drop j).any f = (f y || (l.drop (j + 1)).any f) := by rw [drop_cons h]; rfl
/-! needs and guards -/
theorem own_blocks {w : World} {base B n m c size : Nat} {e : TypeId} {a : Option Addr} {xs : List Value} (h : w.ownsRow base e size (.slice a n c) m xs) (hb : B ≤ base) : ∀ k, a.map (·.block) = some k → B ≤ k ∧ k < w.heap.size := by
 intro k hk
 cases a with
 | none => cases hk
 | some d =>
  have h1 : d.block = k := by simpa using hk
  have := h.lt d.block rfl
  omega
def NeedsPost (w : World) (l : List Need) (e : Ending) (w' : World) : Prop := ∃ a n c, e = .returned (.slice a n c) ∧ Needs w' a n l ∧ (a = none → c = 0) ∧ Below w.heap.size w w' ∧ ∀ k, a.map (·.block) = some k → w.heap.size ≤ k ∧ k < w'.heap.size
theorem encNeed_len (x : Need) : (encNeed x).length = 2 := rfl
theorem info_need : (Try.prog.info? 72).map (fun i => (i.zero, i.size, i.bytes)) = some (some (.agg #[.int .i64 0, .int .i64 0]), 2, 16) := by kernel_rfl
set_option maxHeartbeats 1000000 in
theorem needs_any (w : World) (rv : RV) (r : Road) (h : RoadAt w rv r) (h1 : rv.nn ≤ 100) (h2 : rv.gn ≤ 100) : Calls Try.prog 29 #[rv.val r] w (NeedsPost w r.all) := by
 obtain ⟨sa, sn, sc, na, nn, nc, ga, gn, gc, za, zn, zc, ha, hn, hc⟩ := rv
 dsimp only at h1 h2
 obtain ⟨W0, hW0⟩ : ∃ W0, W0 = w.alloc (.cells #[.int .i64 r.frm, .int .i64 r.to, .int .i64 r.fin, .slice sa sn sc, .slice na nn nc, .slice ga gn gc, .slice za zn zc, .slice ha hn hc, .bool r.bare] 38) := ⟨_, rfl⟩
 have HR := Lib.hid (show RBox W0 w.heap.size ⟨sa, sn, sc, na, nn, nc, ga, gn, gc, za, zn, zc, ha, hn, hc⟩ r by rw [hW0]; exact rbox_new w ⟨sa, sn, sc, na, nn, nc, ga, gn, gc, za, zn, zc, ha, hn, hc⟩ r)
 have Hb0 := Lib.hid (show Below w.heap.size w W0 by rw [hW0]; exact below_new1 w _)
 have hN := Lib.hid (show Needs W0 na nn r.needs from (h.below Hb0.out).n)
 have hG := Lib.hid (show Needs W0 ga gn r.guards from (h.below Hb0.out).g)
 have hnc := Lib.hid (show na = none → nc = 0 from h.fit.nc)
 have hgc := Lib.hid (show ga = none → gc = 0 from h.fit.gc)
 clear h
 dsimp only [RV.val]
 obtain ⟨hrl, q0, q1, q2, q3, q4, q5, q6, q7, q8⟩ := HR.out
 dsimp only at q0 q1 q2 q3 q4 q5 q6 q7 q8
 go_enter Try.func29, Try.ntmps29
 go_wp2_with fail
 rw [← hW0]
 clear hW0
 go_wp2_with fail
 have hSall : ∀ w' : World, Below (W0).heap.size (W0) w' → (w'.cell? ⟨w.heap.size, 4, none⟩ = some (.slice na nn nc) ∧ w'.cell? ⟨w.heap.size, 5, none⟩ = some (.slice ga gn gc)) := fun w' hb => ⟨(hb.cell (p := ⟨w.heap.size, 4, none⟩) hrl).trans q4, (hb.cell (p := ⟨w.heap.size, 5, none⟩) hrl).trans q5⟩
 refine wp_region_noPanic ?_
 refine region_upto (S := fun w' => w'.cell? ⟨w.heap.size, 4, none⟩ = some (.slice na nn nc) ∧ w'.cell? ⟨w.heap.size, 5, none⟩ = some (.slice ga gn gc)) (n := 7) (by kernel_rfl) ?_
 refine uk 0 (.pointer (some ⟨w.heap.size, 4, none⟩)) ?_ (hSall _ (by with_reducible repeat (first | exact Below.refl _ _ | assumption | exact below_new _ _ | apply below_drewN | apply Below.drew | refine below_set (Nat.le_refl _) ?_ _ | (refine below_set ?_ ?_ _; omega) | refine Below.alloc ?_ (by first | omega | (simp; omega) | simp) _))) ?_
 ·intro w' hSw
  (try dsimp only at hSw)
  go_simp
 (try simp only [zA, zC, Act.put, zD, zE, zF])
 refine uk 1 (.slice na nn nc) ?_ (hSall _ (by with_reducible repeat (first | exact Below.refl _ _ | assumption | exact below_new _ _ | apply below_drewN | apply Below.drew | refine below_set (Nat.le_refl _) ?_ _ | (refine below_set ?_ ?_ _; omega) | refine Below.alloc ?_ (by first | omega | (simp; omega) | simp) _))) ?_
 ·intro w' hSw
  (try dsimp only at hSw)
  go_simp
 (try simp only [zA, zB, zC, Act.put, zD, zE, zF])
 refine uk 3 (.pointer (some ⟨w.heap.size, 5, none⟩)) ?_ (hSall _ (by with_reducible repeat (first | exact Below.refl _ _ | assumption | exact below_new _ _ | apply below_drewN | apply Below.drew | refine below_set (Nat.le_refl _) ?_ _ | (refine below_set ?_ ?_ _; omega) | refine Below.alloc ?_ (by first | omega | (simp; omega) | simp) _))) ?_
 ·intro w' hSw
  (try dsimp only at hSw)
  go_simp
 (try simp only [zA, zB, zC, Act.put, zD, zE, zF])
 refine uk 4 (.slice ga gn gc) ?_ (hSall _ (by with_reducible repeat (first | exact Below.refl _ _ | assumption | exact below_new _ _ | apply below_drewN | apply Below.drew | refine below_set (Nat.le_refl _) ?_ _ | (refine below_set ?_ ?_ _; omega) | refine Below.alloc ?_ (by first | omega | (simp; omega) | simp) _))) ?_
 ·intro w' hSw
  (try dsimp only at hSw)
  go_simp
 (try simp only [zA, zB, zC, Act.put, zD, zE, zF])
 refine upto_step (i := 2) (by kernel_rfl) rfl (fun K hK => ?_)
 refine step_app encNeed_len encNeed_one _ (by rfl) _ _ 35 (by rfl) W0.heap.size 72 (.agg #[.int .i64 0, .int .i64 0]) 16 Try.underlying35 info_need (by rfl) (by decide) (.slice none 0 0) 0 [] (by rfl) (World.ownsRow_nil _ _ _ _) na nn nc r.needs (by rfl) (hN.out.below (Below.refl _ _).drew) hnc.out (by simp [maxLen]; omega) (by omega) (by simp) ?_
 intro v3 w3 hown3 hgrow3 _ _
 rw [Nat.zero_add, List.nil_append] at hown3
 have hb3 : Below W0.heap.size W0 w3 := Below.grown (Below.refl _ _).drew hgrow3 (by simp) (by intro k hk; cases hk)
 refine hK _ _ (fun _ => (hSall _ hb3)) ?_
 clear hK K
 (try simp only [zA, zB, zC, Act.put, zD, zE, zF])
 refine upto_step (i := 5) (by kernel_rfl) rfl (fun K hK => ?_)
 refine step_app encNeed_len encNeed_one _ (by rfl) _ _ 35 (by rfl) W0.heap.size 72 (.agg #[.int .i64 0, .int .i64 0]) 16 Try.underlying35 info_need (by rfl) (by decide) v3 nn r.needs (by rfl) hown3 ga gn gc r.guards (by rfl) (hG.out.below hb3) hgc.out (by simp [maxLen]; omega) (by omega) hb3.size ?_
 intro v4 w4 hown4 hgrow4 _ _
 have hb4 : Below W0.heap.size W0 w4 := Below.grown hb3 hgrow4 hb3.size (fun k hk => (hown3.lt k hk).1)
 refine hK _ _ (fun _ => (hSall _ hb4)) ?_
 clear hK K
 (try simp only [zA, zB, zC, Act.put, zD, zE, zF])
 refine upto_step (i := 6) (by kernel_rfl) rfl (fun K hK => ?_)
 go_simp
 refine hK _ _ (fun _ => (hSall _ (by with_reducible repeat (first | exact Below.refl _ _ | assumption | exact below_new _ _ | apply below_drewN | apply Below.drew | refine below_set (Nat.le_refl _) ?_ _ | (refine below_set ?_ ?_ _; omega) | refine Below.alloc ?_ (by first | omega | (simp; omega) | simp) _)))) ?_
 clear hK K
 (try simp only [zA, zB, zC, Act.put, zD, zE, zF])
 refine upto_done (by kernel_rfl) (NoPanic.normal ?_) _
 clear hSall
 go_wp2_with fail
 obtain ⟨a4, c4, rfl, _, hc4⟩ := own_slice hown4
 go_ret
 exact ⟨a4, _, c4, rfl, (owns_row encNeed_len hown4 (by decide)).1, fun h => (hc4 h).2, below_step Hb0.out hb4 Hb0.out.size, own_blocks hown4 Hb0.out.size⟩
theorem needs_l {w : World} {sa na ga za ha : Option Addr} {sn sc nn nc gn gc zn zc hn hc : Nat} {r : Road} (h : RoadAt w ⟨sa, sn, sc, na, nn, nc, ga, gn, gc, za, zn, zc, ha, hn, hc⟩ r) (h1 : nn ≤ 100) (h2 : gn ≤ 100) : Calls Try.prog 29 #[(.agg #[.int .i64 r.frm, .int .i64 r.to, .int .i64 r.fin, .slice sa sn sc, .slice na nn nc, .slice ga gn gc, .slice za zn zc, .slice ha hn hc, .bool r.bare])] w (NeedsPost w r.all) := needs_any w ⟨sa, sn, sc, na, nn, nc, ga, gn, gc, za, zn, zc, ha, hn, hc⟩ r h h1 h2
end Go.Proofs.Ytnkpiijljfjmkaa

/- Walks of semaphoreref12.bothWays and Why. Condition: the plan and the roads are read; the plan is one that may be. -/
set_option maxRecDepth 1000000
namespace Go.Proofs.Ytnkpiijljfjmkaa
open Go.ChangeShapes Go.WideShapes Go.ChangeAt Go.RowKit Go.Sort

theorem lineNo_pair (p : Plan) (e : Int) : lineNo p e = (linePair (lineOf p e)).1 := by
 unfold lineNo linePair
 cases lineOf p e <;> rfl
structure Lite (v : RV) : Prop where
 s : v.sn ≤ 100
 n : v.nn ≤ 100
 g : v.gn ≤ 100
 z : v.zn ≤ 100
 h : v.hn ≤ 100
end Go.Proofs.Ytnkpiijljfjmkaa

/- Walk of semaphoreref12.Why. Condition: the plan and the roads are read; the plan is one that may be. -/
set_option maxRecDepth 1000000
namespace Go.Proofs.Ytnkpiijljfjmkaa
open Go.ChangeShapes Go.WideShapes Go.ChangeAt Go.RowKit Go.Sort

end Go.Proofs.Ytnkpiijljfjmkaa
