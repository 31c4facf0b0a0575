/- Walks of semaphoreref6.Lies, semaphoreref12's Vacant and Ready, semaphorelaw7.Lying. Condition: what they are given is read. -/
import Derived.Test.YtnkpiijljfjmkaaClashL4
import Derived.Test.YtnkpiijljfjmkaaClashM0
set_option maxRecDepth 1000000
namespace Go.Proofs.Ytnkpiijljfjmkaa
open Go.ChangeShapes Go.WideShapes Go.ChangeAt Go.RowKit Go.Sort

theorem lies_out {pos : List Int} {e : Int} (h : e < 0 ∨ (pos.length : Int) ≤ e) : lies pos e = 0 := by
 unfold lies
 split
 ·simp only [List.getD, List.getElem?_eq_none (show pos.length ≤ e.toNat by omega)]; rfl
 ·rfl
theorem lies_in {pos : List Int} {e x : Int} (h0 : 0 ≤ e) (hx : pos[e.toNat]? = some x) : lies pos e = x := by
 unfold lies; rw [if_pos h0]; simp [List.getD, hx]
theorem reflies_any (w : World) (a : Option Addr) (n c : Nat) (pos : List Int) (h : Ints w a n pos) (e : Int) :
  Calls Try.prog 39 #[.slice a n c, .int .i64 e] w fun en w' => en = .returned (.int .i64 (refLies pos e)) ∧ w = w' := by
 have hl : pos.length = n := h.len
 have hbd := h.bnd
 by_cases a1 : e < 0
 ·have Hs := Lib.hid (show refLies pos e = 0 by unfold refLies; rw [lies_out (.inl a1)]; rfl)
  clear hl h
  go_enter Try.func39, Try.ntmps39
  go_wp2_with fail
  go_ret
  exact ⟨ret_int Hs.out.symm, rfl⟩
 by_cases a2 : (n : Int) ≤ e
 ·have Hs := Lib.hid (show refLies pos e = 0 by unfold refLies; rw [lies_out (.inr (by omega))]; rfl)
  clear hl h
  go_enter Try.func39, Try.ntmps39
  go_wp2_with fail
  go_ret
  exact ⟨ret_int Hs.out.symm, rfl⟩
 have b1 : 0 ≤ e := by omega
 have b2 : e < n := by omega
 obtain ⟨x, hx⟩ := get_some hl (show e.toNat < n by omega)
 obtain ⟨b, off, rfl, hb, g1⟩ := h.int hx
 have Hl := Lib.hid (lies_in b1 hx)
 clear hx hl h a1 a2
 by_cases x1 : x = 1
 ·subst x1
  have Hs := Lib.hid (show refLies pos e = 1 by unfold refLies; rw [Hl.out]; rfl)
  go_enter Try.func39, Try.ntmps39
  go_wp2_with fail
  go_ret
  exact ⟨ret_int Hs.out.symm, rfl⟩
 ·have q1 : (x != 1) = true := by rw [bne_iff_ne]; exact x1
  by_cases x2 : x = 2
  ·subst x2
   have Hs := Lib.hid (show refLies pos e = 2 by unfold refLies; rw [Hl.out]; rfl)
   go_enter Try.func39, Try.ntmps39
   go_wp2_with fail
   go_ret
   exact ⟨ret_int Hs.out.symm, rfl⟩
  ·have q2 : (x != 2) = true := by rw [bne_iff_ne]; exact x2
   have Hs := Lib.hid (show refLies pos e = 0 by unfold refLies; rw [Hl.out]; simp [x1, x2])
   clear x1 x2
   go_enter Try.func39, Try.ntmps39
   go_wp2_with fail
   go_ret
   exact ⟨ret_int Hs.out.symm, rfl⟩

/-! one step -/
theorem ints_flat (l : List Int) : l.flatMap encInt = l.map (Value.int .i64) := by
 induction l with
 | nil => rfl
 | cons x l ih => rw [List.flatMap_cons, ih]; rfl
set_option maxHeartbeats 1000000 in
theorem refelems_own (w : World) (rv : RV) (r : Road) (h : Stps w rv.sa rv.sn r.steps) (hl : rv.sn ≤ 100) : Calls Try.prog 32 #[rv.val r] w (fun e w' => ∃ a n c, e = .returned (.slice a n c) ∧ w'.ownsRow w.heap.size 3 1 (.slice a n c) n (r.elems.flatMap encInt) ∧ n = r.elems.length ∧ Below w.heap.size w w') := by
 obtain ⟨sa, sn, sc, na, nn, nc, ga, gn, gc, za, zn, zc, ha, hn, hc⟩ := rv
 dsimp only at hl
 have hs : Stps w sa sn r.steps := h
 have Hs := Lib.hid hs
 have hlen : r.steps.length = sn := hs.len
 have Hlen := Lib.hid hlen
 obtain ⟨W0, hW0⟩ : ∃ W0, W0 = w.alloc (.cells #[.int .i64 r.frm, .int .i64 r.to, .int .i64 r.fin, .slice sa sn sc, .slice na nn nc, .slice ga gn gc, .slice za zn zc, .slice ha hn hc, .bool r.bare] 38) := ⟨_, rfl⟩
 have HR := Lib.hid (show RBox W0 w.heap.size ⟨sa, sn, sc, na, nn, nc, ga, gn, gc, za, zn, zc, ha, hn, hc⟩ r by rw [hW0]; exact rbox_new w ⟨sa, sn, sc, na, nn, nc, ga, gn, gc, za, zn, zc, ha, hn, hc⟩ r)
 have Hb0 := Lib.hid (show Below w.heap.size w W0 by rw [hW0]; exact below_new1 w _)
 have hz0 : W0.heap.size = w.heap.size + 1 := by rw [hW0]; simp
 have Hz0 := Lib.hid hz0
 obtain ⟨ii, hii, zi1, zi2, zi3⟩ := info_parts info_intC
 clear h hs hlen
 dsimp only [RV.val]
 go_enter Try.func32, Try.ntmps32
 go_wp2_with fail
 rw [← hW0]
 clear hW0
 go_loopg [3, 4] sn (fun k s3 s4 wr => ∃ (j : Nat), j + k = sn ∧ s4 = .int .i64 j ∧ Hid (OwnI wr W0.heap.size s3 j ((r.steps.take j).map (·.e))) ∧ Hid (Below W0.heap.size W0 wr))
 case atStart => exact ⟨0, by omega, rfl, World.ownsRow_nil _ _ _ _, Below.refl _ _⟩
 case round =>
  obtain ⟨j, hk, rfl, Own, Hb⟩ := hrel
  have Hk := Lib.hid hk; clear hk
  obtain ⟨a1, c1, rfl, _, hc1⟩ := own_slice Own.out
  have q3 := (HR.out.below Hb.out).c3
  have hrl := (HR.out.below Hb.out).lt
  dsimp only at q3
  by_cases hlt : j < sn
  ·obtain ⟨y, hy⟩ := get_some Hlen.out hlt
   obtain ⟨pb, off, rfl, hpb, g1, g2, g3⟩ := (Hs.out.below (below_step Hb0.out Hb.out Hb0.out.size)).stp hy
   have Hn := Lib.hid (take_elems hy)
   have hz := Hb.out.size
   clear hy
   go_wp2_with (at_builtin; refine wpList_append_own _ rfl _ _ 36 rfl W0.heap.size 3 ii (.int .i64 0) 1 8 Try.underlying36 hii zi1 zi2 zi3 rfl (by decide) _ _ _ rfl (Own.out.alloc _) ⟨wr.heap.size, 0, none⟩ 1 1 [.int .i64 y.e] rfl rfl (cell_one_new _ _ _) (one_int _ _) (by simp [maxLen]; omega) (by omega) (by simp; omega) ?_)
   intro v3 w3 hown3 hgrow3 _
   have Hb3 := Lib.hid (grown_below (Hb.out.alloc Hb.out.size (.cells #[.int .i64 y.e] 3)) (Own.out.alloc (.cells #[.int .i64 y.e] 3)) (Nat.le_refl _) (by simp; omega) hgrow3)
   have Own3 := Lib.hid (show OwnI w3 W0.heap.size v3 (j + 1) ((r.steps.take (j + 1)).map (·.e)) by rw [Hz0.out, Hn.out]; simpa [OwnI, List.map_take] using hown3)
   clear hown3 hgrow3 hz g1 g2 g3 q3
   go_wp2_with fail
   go_roundg (gk - 1)
   case measure => have := Hk.out; omega
   case rel => exact ⟨j + 1, by have := Hk.out; omega, by go_num, Own3.out, Hb3.out⟩
  ·go_wp2_with fail
   go_ret
   have hO := Own.out
   rw [take_all Hlen.out (by omega)] at hO
   have hjl : j = sn := by have := Hk.out; omega
   refine ⟨a1, j, c1, rfl, owns_base (by unfold OwnI at hO; rw [ints_flat]; exact hO) Hb0.out.size, by unfold Road.elems; rw [List.length_map, Hlen.out, hjl], below_step Hb0.out Hb.out Hb0.out.size⟩
set_option maxHeartbeats 4000000 in
theorem vacant_any (w : World) (rv : RV) (r : Road) (h : RoadAt w rv r) (h1 : rv.sn ≤ 100) (h2 : rv.zn ≤ 100) :
  Calls Try.prog 40 #[rv.val r, .slice none 0 0] w fun en w' => en = .returned (.bool true) ∧ Below w.heap.size w w' := by
 obtain ⟨sa, sn, sc, na, nn, nc, ga, gn, gc, za, zn, zc, ha, hn, hc⟩ := rv
 dsimp only at h1 h2
 obtain ⟨W0, hW0⟩ : ∃ W0, W0 = w.alloc (.cells #[.int .i64 r.frm, .int .i64 r.to, .int .i64 r.fin, .slice sa sn sc, .slice na nn nc, .slice ga gn gc, .slice za zn zc, .slice ha hn hc, .bool r.bare] 38) := ⟨_, rfl⟩
 have HR := Lib.hid (show RBox W0 w.heap.size ⟨sa, sn, sc, na, nn, nc, ga, gn, gc, za, zn, zc, ha, hn, hc⟩ r by rw [hW0]; exact rbox_new w ⟨sa, sn, sc, na, nn, nc, ga, gn, gc, za, zn, zc, ha, hn, hc⟩ r)
 have Hb0 := Lib.hid (show Below w.heap.size w W0 by rw [hW0]; exact below_new1 w _)
 have hZ := Lib.hid (show Ints W0 za zn r.zone from (h.below Hb0.out).z)
 have hzc := Lib.hid (show za = none → zc = 0 from h.fit.zc)
 have HE := Lib.hid (fun (u : World) (hu : Below W0.heap.size W0 u) => refelems_own u ⟨sa, sn, sc, na, nn, nc, ga, gn, gc, za, zn, zc, ha, hn, hc⟩ r ((h.below Hb0.out).below hu).s h1)
 have hsl : r.elems.length = sn := by unfold Road.elems; rw [List.length_map]; exact h.s.len
 have hel : r.elems.length ≤ 100 := by rw [hsl]; exact h1
 clear h hsl
 dsimp only [RV.val] at HE ⊢
 obtain ⟨hrl, q0, q1, q2, q3, q4, q5, q6, q7, q8⟩ := HR.out
 dsimp only at q0 q1 q2 q3 q4 q5 q6 q7 q8
 go_enter Try.func40, Try.ntmps40
 go_wp2_with fail
 rw [← hW0]
 clear hW0
 refine wp_region_noPanic ?_
 refine region_ob (S := fun w' => Below W0.heap.size W0 w') (ob := fun _ => true) (by kernel_rfl) ?_
 have hS0 : Below W0.heap.size W0 W0.drew := (Below.refl _ _).drew
 refine tk 0 (.agg #[.int .i64 r.frm, .int .i64 r.to, .int .i64 r.fin, .slice sa sn sc, .slice na nn nc, .slice ga gn gc, .slice za zn zc, .slice ha hn hc, .bool r.bare]) ?_ hS0 ?_
 ·intro w' hSw
  have q0 := (hSw.cell (p := ⟨w.heap.size, 0, none⟩) hrl).trans q0
  have q1 := (hSw.cell (p := ⟨w.heap.size, 1, none⟩) hrl).trans q1
  have q2 := (hSw.cell (p := ⟨w.heap.size, 2, none⟩) hrl).trans q2
  have q3 := (hSw.cell (p := ⟨w.heap.size, 3, none⟩) hrl).trans q3
  have q4 := (hSw.cell (p := ⟨w.heap.size, 4, none⟩) hrl).trans q4
  have q5 := (hSw.cell (p := ⟨w.heap.size, 5, none⟩) hrl).trans q5
  have q6 := (hSw.cell (p := ⟨w.heap.size, 6, none⟩) hrl).trans q6
  have q7 := (hSw.cell (p := ⟨w.heap.size, 7, none⟩) hrl).trans q7
  have q8 := (hSw.cell (p := ⟨w.heap.size, 8, none⟩) hrl).trans q8
  go_simp
 (try simp only [zA, zC, Act.put, zD, zE, zF])
 refine tk 2 (.pointer (some ⟨w.heap.size, 6, none⟩)) ?_ hS0 ?_
 ·intro w' hSw
  go_simp
 (try simp only [zA, zB, zC, Act.put, zD, zE, zF])
 refine tk 3 (.slice za zn zc) ?_ hS0 ?_
 ·intro w' hSw
  have q6 := (hSw.cell (p := ⟨w.heap.size, 6, none⟩) hrl).trans q6
  go_simp
 (try simp only [zA, zB, zC, Act.put, zD, zE, zF])
 refine ob_step (i := 1) (by kernel_rfl) rfl (fun K hK => ?_)
 rw [if_pos (by rfl)]
 go_simp
 refine (HE.out _ hS0).mono ?_
 rintro e u1 ⟨a1, n1, c1, rfl, hO1, hn1, hy1⟩
 have hS1 := below_step hS0 hy1 hS0.size
 refine hK _ _ (fun _ => hS1) ?_
 clear hK K
 (try simp only [zA, zB, zC, Act.put, zD, zE, zF])
 refine ob_step (i := 4) (by kernel_rfl) rfl (fun K hK => ?_)
 refine step_app (enc := encInt) (fun _ => rfl) encInt_oneC _ (by rfl) _ _ 36 (by rfl) W0.heap.size 3 (.int .i64 0) 8 Try.underlying36 info_intC (by rfl) (by decide) (.slice a1 n1 c1) n1 r.elems (by rfl) hO1 za zn zc r.zone (by rfl) (hZ.out.below hS1) hzc.out (by simp [maxLen]; omega) (by omega) hS1.size ?_
 intro v3 w3 hO3 hg3 _ _
 have hS3 : Below W0.heap.size W0 w3 := hS1.grown hg3 hS1.size (fun k hk => (hO1.lt k hk).1)
 refine hK _ _ (fun _ => hS3) ?_
 clear hK K
 (try simp only [zA, zB, zC, Act.put, zD, zE, zF])
 refine tk 5 (v3) ?_ hS3 ?_
 ·intro w' hSw
  go_simp
 (try simp only [zA, zB, zC, Act.put, zD, zE, zF])
 refine ob_done (by kernel_rfl) (NoPanic.normal ?_) _
 obtain ⟨a3, c3, rfl, _, _⟩ := own_slice hO3
 have hrow : Ints w3 a3 (n1 + zn) (r.elems ++ r.zone) := (owns_row (enc := encInt) (fun _ => rfl) hO3 (by decide)).1
 have Hrow := Lib.hid hrow
 have Hl3 := Lib.hid hrow.len
 have HS3 := Lib.hid hS3
 have hb3 := hrow.bnd
 clear hO1 hn1 hy1 hS0 hS1 hO3 hg3 hrow hS3 q0 q1 q2 q3 q4 q5 q6 q7 q8
 go_wp2_with fail
 go_loopg [6] (n1 + zn) (fun k s wr => ∃ (i : Nat), i + k = n1 + zn ∧ s = .int .i64 i ∧ Hid (Below w3.heap.size w3 wr))
 case atStart => exact ⟨0, by omega, rfl, Below.refl _ _⟩
 case round =>
  obtain ⟨i, hk, rfl, HB⟩ := hrel
  have Hk := Lib.hid hk
  clear hk
  by_cases hlt : i < n1 + zn
  ·obtain ⟨x, hx⟩ := get_some Hl3.out hlt
   obtain ⟨b, off, rfl, hb, g1⟩ := (Hrow.out.below HB.out).int hx
   clear hx
   by_cases hx0 : 0 ≤ x
   ·have d1 : decide (0 ≤ x) = true := by simpa using hx0
    have d2 : decide (x < 0) = false := by simp; omega
    go_wp2_with fail
    go_roundg (gk - 1)
    case measure => have := Hk.out; omega
    case rel => exact ⟨i + 1, by have := Hk.out; omega, by go_num, HB.out⟩
   ·have d1 : decide (0 ≤ x) = false := by simp; omega
    go_wp2_with fail
    go_roundg (gk - 1)
    case measure => have := Hk.out; omega
    case rel => exact ⟨i + 1, by have := Hk.out; omega, by go_num, HB.out⟩
  ·go_wp2_with fail
   go_ret
   exact ⟨rfl, below_step Hb0.out (below_step HS3.out HB.out HS3.out.size) Hb0.out.size⟩
set_option maxHeartbeats 4000000 in
theorem ready_any (w : World) (rv : RV) (r : Road) (h : RoadAt w rv r) (hlt : Lite rv) (pa : Option Addr) (pn pc : Nat) (pos : List Int) (hp : Ints w pa pn pos) (hall : ∀ m ∈ r.all, refLies pos m.e = m.pos) :
  Calls Try.prog 20 #[rv.val r, .slice pa pn pc, .slice none 0 0] w fun en w' => en = .returned (.bool true) ∧ Below w.heap.size w w' := by
 have h1 := hlt.n
 have h2 := hlt.g
 obtain ⟨sa, sn, sc, na, nn, nc, ga, gn, gc, za, zn, zc, ha, hn, hc⟩ := rv
 dsimp only at h1 h2
 obtain ⟨W0, hW0⟩ : ∃ W0, W0 = w.alloc (.cells #[.int .i64 r.frm, .int .i64 r.to, .int .i64 r.fin, .slice sa sn sc, .slice na nn nc, .slice ga gn gc, .slice za zn zc, .slice ha hn hc, .bool r.bare] 38) := ⟨_, rfl⟩
 have HR := Lib.hid (show RBox W0 w.heap.size ⟨sa, sn, sc, na, nn, nc, ga, gn, gc, za, zn, zc, ha, hn, hc⟩ r by rw [hW0]; exact rbox_new w ⟨sa, sn, sc, na, nn, nc, ga, gn, gc, za, zn, zc, ha, hn, hc⟩ r)
 have Hb0 := Lib.hid (show Below w.heap.size w W0 by rw [hW0]; exact below_new1 w _)
 have hN := Lib.hid (show Needs W0 na nn r.needs from (h.below Hb0.out).n)
 have hG := Lib.hid (show Needs W0 ga gn r.guards from (h.below Hb0.out).g)
 have hnc := Lib.hid (show na = none → nc = 0 from h.fit.nc)
 have hgc := Lib.hid (show ga = none → gc = 0 from h.fit.gc)
 have HP := Lib.hid (hp.below Hb0.out)
 have Hall := Lib.hid hall
 have HV := Lib.hid (fun (u : World) (hu : Below W0.heap.size W0 u) => vacant_any u ⟨sa, sn, sc, na, nn, nc, ga, gn, gc, za, zn, zc, ha, hn, hc⟩ r ((h.below Hb0.out).below hu) hlt.s hlt.z)
 clear h hp hall hlt
 dsimp only [RV.val] at HV ⊢
 obtain ⟨hrl, q0, q1, q2, q3, q4, q5, q6, q7, q8⟩ := HR.out
 dsimp only at q0 q1 q2 q3 q4 q5 q6 q7 q8
 go_enter Try.func20, Try.ntmps20
 go_wp2_with fail
 rw [← hW0]
 clear hW0
 go_wp2_with fail
 have hSall : ∀ w' : World, Below (W0).heap.size (W0) w' → (w'.cell? ⟨w.heap.size, 4, none⟩ = some (.slice na nn nc) ∧ w'.cell? ⟨w.heap.size, 5, none⟩ = some (.slice ga gn gc)) := fun w' hb => ⟨(hb.cell (p := ⟨w.heap.size, 4, none⟩) hrl).trans q4, (hb.cell (p := ⟨w.heap.size, 5, none⟩) hrl).trans q5⟩
 refine wp_region_noPanic ?_
 refine region_upto (S := fun w' => w'.cell? ⟨w.heap.size, 4, none⟩ = some (.slice na nn nc) ∧ w'.cell? ⟨w.heap.size, 5, none⟩ = some (.slice ga gn gc)) (n := 8) (by kernel_rfl) ?_
 refine uk 1 (.pointer (some ⟨w.heap.size, 4, none⟩)) ?_ (hSall _ (by with_reducible repeat (first | exact Below.refl _ _ | assumption | exact below_new _ _ | apply below_drewN | apply Below.drew | refine below_set (Nat.le_refl _) ?_ _ | (refine below_set ?_ ?_ _; omega) | refine Below.alloc ?_ (by first | omega | (simp; omega) | simp) _))) ?_
 ·intro w' hSw
  (try dsimp only at hSw)
  go_simp
 (try simp only [zA, zB, zC, Act.put, zD, zE, zF])
 refine uk 2 (.slice na nn nc) ?_ (hSall _ (by with_reducible repeat (first | exact Below.refl _ _ | assumption | exact below_new _ _ | apply below_drewN | apply Below.drew | refine below_set (Nat.le_refl _) ?_ _ | (refine below_set ?_ ?_ _; omega) | refine Below.alloc ?_ (by first | omega | (simp; omega) | simp) _))) ?_
 ·intro w' hSw
  (try dsimp only at hSw)
  go_simp
 (try simp only [zA, zB, zC, Act.put, zD, zE, zF])
 refine uk 4 (.pointer (some ⟨w.heap.size, 5, none⟩)) ?_ (hSall _ (by with_reducible repeat (first | exact Below.refl _ _ | assumption | exact below_new _ _ | apply below_drewN | apply Below.drew | refine below_set (Nat.le_refl _) ?_ _ | (refine below_set ?_ ?_ _; omega) | refine Below.alloc ?_ (by first | omega | (simp; omega) | simp) _))) ?_
 ·intro w' hSw
  (try dsimp only at hSw)
  go_simp
 (try simp only [zA, zB, zC, Act.put, zD, zE, zF])
 refine uk 5 (.slice ga gn gc) ?_ (hSall _ (by with_reducible repeat (first | exact Below.refl _ _ | assumption | exact below_new _ _ | apply below_drewN | apply Below.drew | refine below_set (Nat.le_refl _) ?_ _ | (refine below_set ?_ ?_ _; omega) | refine Below.alloc ?_ (by first | omega | (simp; omega) | simp) _))) ?_
 ·intro w' hSw
  (try dsimp only at hSw)
  go_simp
 (try simp only [zA, zB, zC, Act.put, zD, zE, zF])
 refine upto_step (i := 0) (by kernel_rfl) rfl (fun K hK => ?_)
 go_simp
 refine hK _ _ (fun _ => (hSall _ (by with_reducible repeat (first | exact Below.refl _ _ | assumption | exact below_new _ _ | apply below_drewN | apply Below.drew | refine below_set (Nat.le_refl _) ?_ _ | (refine below_set ?_ ?_ _; omega) | refine Below.alloc ?_ (by first | omega | (simp; omega) | simp) _)))) ?_
 clear hK K
 (try simp only [zA, zB, zC, Act.put, zD, zE, zF])
 refine upto_step (i := 3) (by kernel_rfl) rfl (fun K hK => ?_)
 refine step_app0 encNeed_len encNeed_one _ (by rfl) _ _ 35 (by rfl) W0.heap.size 72 (.agg #[.int .i64 0, .int .i64 0]) 16 Try.underlying35 info_need (by rfl) (by decide) W0.heap.size (by rfl) (World.ownsRow_made W0.drew #[] 0 (Nat.le_refl _) (by simp [maxLen]) (by simp)) na nn nc r.needs (by rfl) (hN.out.below ((Below.refl _ _).drew.alloc (Nat.le_refl _) _)) hnc.out (by simp [maxLen]; omega) (by omega) (by simp) ?_
 intro v3 w3 hown3 hgrow3
 have hb3 : Below W0.heap.size W0 w3 := Below.grown ((Below.refl _ _).drew.alloc (Nat.le_refl _) _) hgrow3 (by simp) (by intro k hk; simp only [Option.some.injEq] at hk; omega)
 refine hK _ _ (fun _ => (hSall _ hb3)) ?_
 clear hK K
 (try simp only [zA, zB, zC, Act.put, zD, zE, zF])
 refine upto_step (i := 6) (by kernel_rfl) rfl (fun K hK => ?_)
 refine step_app encNeed_len encNeed_one _ (by rfl) _ _ 35 (by rfl) W0.heap.size 72 (.agg #[.int .i64 0, .int .i64 0]) 16 Try.underlying35 info_need (by rfl) (by decide) v3 nn r.needs (by rfl) hown3 ga gn gc r.guards (by rfl) (hG.out.below hb3) hgc.out (by simp [maxLen]; omega) (by omega) hb3.size ?_
 intro v4 w4 hown4 hgrow4 _ _
 have hb4 : Below W0.heap.size W0 w4 := Below.grown hb3 hgrow4 hb3.size (fun k hk => (hown3.lt k hk).1)
 refine hK _ _ (fun _ => (hSall _ hb4)) ?_
 clear hK K
 (try simp only [zA, zB, zC, Act.put, zD, zE, zF])
 refine upto_step (i := 7) (by kernel_rfl) rfl (fun K hK => ?_)
 go_simp
 refine hK _ _ (fun _ => (hSall _ (by with_reducible repeat (first | exact Below.refl _ _ | assumption | exact below_new _ _ | apply below_drewN | apply Below.drew | refine below_set (Nat.le_refl _) ?_ _ | (refine below_set ?_ ?_ _; omega) | refine Below.alloc ?_ (by first | omega | (simp; omega) | simp) _)))) ?_
 clear hK K
 (try simp only [zA, zB, zC, Act.put, zD, zE, zF])
 refine upto_done (by kernel_rfl) (NoPanic.normal ?_) _
 clear hSall
 obtain ⟨a4, c4, rfl, _, hc4⟩ := own_slice hown4
 have hrow := (owns_row encNeed_len (xs := r.needs ++ r.guards) hown4 (by decide)).1
 have Hrow := Lib.hid hrow
 have Hl4 := Lib.hid hrow.len
 have HS4 := Lib.hid hb4
 clear hown4 hgrow4 hown3 hgrow3 hb3 hb4 hrow q0 q1 q2 q3 q4 q5 q6 q7 q8
 go_wp2_with fail
 go_loopg [8] (nn + gn) (fun k s wr => ∃ (i : Nat), i + k = nn + gn ∧ s = .int .i64 i ∧ Hid (Below w4.heap.size w4 wr))
 case atStart => exact ⟨0, by omega, rfl, Below.refl _ _⟩
 case round =>
  obtain ⟨i, hk, rfl, HB⟩ := hrel
  obtain ⟨wo, rfl⟩ : ∃ wo : World, wo = wr := ⟨_, rfl⟩
  have Hk := Lib.hid hk
  clear hk
  have HBo := Lib.hid (below_step HS4.out HB.out HS4.out.size)
  by_cases hlt : i < nn + gn
  ·obtain ⟨x, hx⟩ := get_some Hl4.out hlt
   obtain ⟨b, off, rfl, hb, g1, g2⟩ := (Hrow.out.below HB.out).need hx
   have hxp : refLies pos x.e = x.pos := Hall.out x (List.mem_of_getElem? hx)
   have HL := Lib.hid (fun (u : World) (hu : Below wo.heap.size wo u) => reflies_any u pa pn pc pos (HP.out.below (below_step HBo.out hu HBo.out.size)) x.e)
   rw [hxp] at HL
   clear hx hxp
   go_wp2_with fail
   refine wp_region_noPanic ?_
   refine region_ob (S := fun w' => Below wo.heap.size wo w') (ob := fun _ => true) (by kernel_rfl) ?_
   have hS0 : Below wo.heap.size wo wo.drew := (Below.refl _ _).drew
   refine tk 0 (.slice pa pn pc) ?_ hS0 ?_
   ·intro w' hSw
    go_simp
   (try simp only [zA, zC, Act.put, zD, zE, zF])
   refine tk 1 (.slice (some ⟨b, off, none⟩) (nn + gn) c4) ?_ hS0 ?_
   ·intro w' hSw
    go_simp
   (try simp only [zA, zB, zC, Act.put, zD, zE, zF])
   refine tk 2 (.int .i64 i) ?_ hS0 ?_
   ·intro w' hSw
    go_simp
   (try simp only [zA, zB, zC, Act.put, zD, zE, zF])
   refine tk 3 (.pointer (some ⟨b, off + i * 2, none⟩)) ?_ hS0 ?_
   ·intro w' hSw
    go_simp
   (try simp only [zA, zB, zC, Act.put, zD, zE, zF])
   refine tk 4 (.pointer (some ⟨b, off + i * 2, none⟩)) ?_ hS0 ?_
   ·intro w' hSw
    go_simp
   (try simp only [zA, zB, zC, Act.put, zD, zE, zF])
   refine tk 5 (.int .i64 x.e) ?_ hS0 ?_
   ·intro w' hSw
    have g1 := (hSw.cell (p := ⟨b, off + i * 2, none⟩) hb).trans g1
    go_simp
   (try simp only [zA, zB, zC, Act.put, zD, zE, zF])
   refine tk 7 (.slice (some ⟨b, off, none⟩) (nn + gn) c4) ?_ hS0 ?_
   ·intro w' hSw
    go_simp
   (try simp only [zA, zB, zC, Act.put, zD, zE, zF])
   refine tk 8 (.int .i64 i) ?_ hS0 ?_
   ·intro w' hSw
    go_simp
   (try simp only [zA, zB, zC, Act.put, zD, zE, zF])
   refine tk 9 (.pointer (some ⟨b, off + i * 2, none⟩)) ?_ hS0 ?_
   ·intro w' hSw
    go_simp
   (try simp only [zA, zB, zC, Act.put, zD, zE, zF])
   refine tk 10 (.pointer (some ⟨b, off + i * 2 + 1, none⟩)) ?_ hS0 ?_
   ·intro w' hSw
    go_simp
   (try simp only [zA, zB, zC, Act.put, zD, zE, zF])
   refine tk 11 (.int .i64 x.pos) ?_ hS0 ?_
   ·intro w' hSw
    have g2 := (hSw.cell (p := ⟨b, off + i * 2 + 1, none⟩) hb).trans g2
    go_simp
   (try simp only [zA, zB, zC, Act.put, zD, zE, zF])
   refine ob_step (i := 6) (by kernel_rfl) rfl (fun K hK => ?_)
   rw [if_pos (by rfl)]
   go_simp
   refine (HL.out _ hS0).mono ?_
   rintro e u1 ⟨rfl, rfl⟩
   refine hK _ _ (fun _ => hS0) ?_
   clear hK K
   (try simp only [zA, zB, zC, Act.put, zD, zE, zF])
   refine tk 12 (.bool false) ?_ hS0 ?_
   ·intro w' hSw
    go_simp
   (try simp only [zA, zB, zC, Act.put, zD, zE, zF])
   refine ob_done (by kernel_rfl) (NoPanic.normal ?_) _
   go_wp2_with fail
   go_roundg (gk - 1)
   case measure => have := Hk.out; omega
   case rel => exact ⟨i + 1, by have := Hk.out; omega, by go_num, HB.out.drew⟩
  ·obtain ⟨hrl, q0, q1, q2, q3, q4, q5, q6, q7, q8⟩ := HR.out.below HBo.out
   dsimp only at q0 q1 q2 q3 q4 q5 q6 q7 q8
   go_wp2_with fail
   refine (HV.out _ HBo.out).mono ?_
   rintro e w6 ⟨rfl, hb6⟩
   go_wp2_with fail
   go_ret
   exact ⟨rfl, below_step Hb0.out (below_step HBo.out hb6 HBo.out.size) Hb0.out.size⟩
theorem elems_sigs_le {p : Plan} (hc : chk p = 0) : p.elems.length ≤ 40 ∧ p.sigs.length ≤ 24 := by
 unfold chk at hc
 split at hc
 ·cases hc
 ·rename_i h; unfold tooMuch at h; simp at h; omega
theorem layOne_in {s : List Int} {m : Need} (h : 0 ≤ m.e ∧ m.e < s.length) : layOne s m = s.set m.e.toNat m.pos := if_pos h
theorem layOne_out {s : List Int} {m : Need} (h : ¬ (0 ≤ m.e ∧ m.e < s.length)) : layOne s m = s := if_neg h
def midL (n : Nat) (pos : List Int) (j : Nat) : List Int := (List.range n).map fun i => if i < j then pos.getD i 0 else 0
theorem midL_zero (n : Nat) (pos : List Int) : midL n pos 0 = List.replicate n 0 := by
 unfold midL
 refine List.ext_getElem (by simp) fun i h1 h2 => by simp
theorem midL_end {n j : Nat} {pos : List Int} (h : n ≤ j ∨ pos.length ≤ j) : midL n pos j = lyingBase n pos := by
 unfold midL lyingBase
 refine List.ext_getElem (by simp) fun i h1 h2 => ?_
 simp only [List.length_map, List.length_range] at h1
 simp only [List.getElem_map, List.getElem_range]
 by_cases hij : i < j
 ·rw [if_pos hij]
 ·rw [if_neg hij]
  have hp : pos.length ≤ i := by omega
  simp [List.getD, List.getElem?_eq_none hp]
theorem midL_set {n j : Nat} {pos : List Int} {x : Int} (hx : pos[j]? = some x) : (midL n pos j).set j x = midL n pos (j + 1) := by
 refine List.ext_getElem (by simp [midL]) fun i h1 h2 => ?_
 simp only [midL, List.length_map, List.length_range] at h2
 rw [List.getElem_set]
 simp only [midL, List.getElem_map, List.getElem_range]
 by_cases hij : j = i
 ·subst hij
  rw [if_pos rfl, if_pos (by omega)]
  simp [List.getD, hx]
 ·rw [if_neg hij]
  by_cases h3 : i < j
  ·rw [if_pos h3, if_pos (by omega)]
  ·rw [if_neg h3, if_neg (by omega)]
set_option maxHeartbeats 8000000 in
theorem lying_any (w : World) (pv : PV) (p : Plan) (h : PlanAt w pv p) (hck : chk p = 0) (la : Option Addr) (ln lc : Nat) (l : List Need) (hl : Needs w la ln l) (hln : ln ≤ 1000) (pa : Option Addr) (pn pc : Nat) (pos : List Int) (hp : Ints w pa pn pos) (hpn : pn ≤ 1000) :
  Calls Try.prog 17 #[pv.val p, .slice la ln lc, .slice pa pn pc] w (IntsPost w (lyingL p.elems.length l pos)) := by
 obtain ⟨ae, ne, ce, aj, nj, cj, as_, ns, cs, al, nl, cl, lv⟩ := pv
 obtain ⟨W0, hW0⟩ : ∃ W0, W0 = w.alloc (.cells #[.slice ae ne ce, .slice aj nj cj, .slice as_ ns cs, .slice al nl cl, .int .i64 p.top, .int .i64 p.brake, .int .i64 p.margin, .int .i64 p.throw, .bool p.hard] 27) := ⟨_, rfl⟩
 have Hb0 := Lib.hid (show Below w.heap.size w W0 by rw [hW0]; exact below_new w _)
 have HB0 := Lib.hid (show PBox W0 w.heap.size ⟨ae, ne, ce, aj, nj, cj, as_, ns, cs, al, nl, cl, lv⟩ p by rw [hW0]; exact pbox_new w ⟨ae, ne, ce, aj, nj, cj, as_, ns, cs, al, nl, cl, lv⟩ p)
 have HL := Lib.hid (hl.below Hb0.out)
 have HP := Lib.hid (hp.below Hb0.out)
 have Hln := Lib.hid hl.len
 have Hpn := Lib.hid hp.len
 obtain ⟨n, hne⟩ : ∃ n, n = ne := ⟨_, rfl⟩
 have hnl : p.elems.length = n := by rw [hne]; exact h.e.len
 have hn40 : n ≤ 40 := by rw [← hnl]; exact (elems_sigs_le hck).1
 rw [hnl]
 rw [← hne] at HB0 hW0 ⊢
 obtain ⟨ii, hii, zi1, zi2, zi3⟩ := info_parts info_intC
 clear h hck hl hp hne hnl
 dsimp only [PV.val]
 obtain ⟨hbl, c0, c1, c2, c3, c4, c5, c6, c7, c8⟩ := HB0.out
 dsimp only at c0 c1 c2 c3
 go_enter Try.func17, Try.ntmps17
 go_wp2_with (at_make; rw [← hW0]; clear hW0; refine wpList_make_full _ rfl _ _ 36 rfl W0.heap.size 3 ii (.int .i64 0) 1 Try.underlying36 hii zi1 zi2 _ _ _ _ n rfl rfl rfl rfl (by rw [zi3]; omega) (by simp [maxLen]; omega) (Nat.le_refl _) ?_; intro w1 hown hgrow)
 have hb1 : Below W0.heap.size W0 w1 := (Below.refl _ _).grown hgrow (Nat.le_refl _) (by intro k hk; cases hk)
 rw [show (Value.int .i64 0).cells = #[Value.int .i64 0] from rfl, Nat.mul_one, toList_madeCells_one] at hown
 have HO := Lib.hid (show OwnI w1 W0.heap.size (.slice (some ⟨W0.heap.size, 0, none⟩) n n) n (midL n pos 0) by rw [midL_zero]; unfold OwnI; simpa using hown)
 have Hb1 := Lib.hid hb1
 clear hown hgrow hb1 c0 c1 c2 c3 c4 c5 c6 c7 c8 hbl
 go_wp2_with fail
 go_loopg [8] n (fun k s8 wr => ∃ (j : Nat), j + k = n ∧ s8 = .int .i64 j ∧ Hid (OwnI wr W0.heap.size (.slice (some ⟨W0.heap.size, 0, none⟩) n n) n (midL n pos j)) ∧ Hid (Below W0.heap.size W0 wr))
 case atStart => exact ⟨0, by omega, rfl, HO.out, Hb1.out⟩
 case round =>
  clear HO Hb1
  obtain ⟨j, hk, rfl, HO, HB⟩ := hrel
  obtain ⟨wo, rfl⟩ : ∃ wo : World, wo = wr := ⟨_, rfl⟩
  obtain ⟨ko, rfl⟩ : ∃ ko : Nat, ko = gk := ⟨_, rfl⟩
  have Hk := Lib.hid hk
  clear hk
  by_cases hboth : j < n ∧ j < pn
  ·obtain ⟨hlt, hlp⟩ := hboth
   obtain ⟨x, hx⟩ := get_some Hpn.out hlp
   obtain ⟨b, off, rfl, hb, g1⟩ := (HP.out.below HB.out).int hx
   have Hst := Lib.hid (midL_set (n := n) hx)
   have k1 := own_cell HO.out (j := j) hlt
   have k2 := HO.out.frozenAt j
   have hs := (own_shape' HO.out).2
   clear hx
   go_wp2_with fail
   go_roundg (ko - 1)
   case measure => have := Hk.out; omega
   case rel => exact ⟨j + 1, by have := Hk.out; omega, by go_num, by unfold Hid; rw [← Hst.out]; exact (own_set HO.out j _).1, HB.out.setCell (p := ⟨W0.heap.size, j, none⟩) (Nat.le_refl _) _⟩
  ·have HOb := Lib.hid (show OwnI wo W0.heap.size (.slice (some ⟨W0.heap.size, 0, none⟩) n n) n (lyingBase n pos) by
    rw [← midL_end (j := j) (by rw [Hpn.out]; omega)]; exact HO.out)
   by_cases hlt : j < n <;> (
    try (have hlp : ¬ j < pn := by omega)
    go_wp2_with fail
    go_loopg [9] ln (fun k s9 wr => ∃ (q : Nat), q + k = ln ∧ s9 = .int .i64 q ∧ Hid (OwnI wr W0.heap.size (.slice (some ⟨W0.heap.size, 0, none⟩) n n) n ((l.take q).foldl layOne (lyingBase n pos))) ∧ Hid (Below W0.heap.size W0 wr))
    case atStart => exact ⟨0, by omega, rfl, HOb.out, HB.out⟩
    case round =>
     clear HOb HO HB
     obtain ⟨q, hk, rfl, HO, HB⟩ := hrel
     obtain ⟨wo, rfl⟩ : ∃ wo : World, wo = wr := ⟨_, rfl⟩
     have Hk2 := Lib.hid hk
     clear hk
     by_cases hlq : q < ln
     ·obtain ⟨x, hx⟩ := get_some Hln.out hlq
      obtain ⟨b, off, rfl, hbl, g1, g2⟩ := (HL.out.below HB.out).need hx
      have hst : (l.take (q + 1)).foldl layOne (lyingBase n pos) = layOne ((l.take q).foldl layOne (lyingBase n pos)) x := by rw [take_snoc_get hx, List.foldl_append]; rfl
      have hsl : ((l.take q).foldl layOne (lyingBase n pos)).length = n := by rw [layAll_length, lyingBase_length]
      by_cases hx0 : 0 ≤ x.e
      ·have d1 : decide (0 ≤ x.e) = true := by simpa using hx0
       by_cases hxn : x.e < n
       ·have d2 : decide (x.e < (n : Int)) = true := by simpa using hxn
        obtain ⟨xe, xp⟩ := x
        dsimp only at hx0 hxn d1 d2 g1 g2
        obtain ⟨e, rfl⟩ : ∃ e : Nat, xe = (e : Int) := ⟨xe.toNat, by omega⟩
        have hen : e < n := by omega
        have Hst := Lib.hid (show (l.take (q + 1)).foldl layOne (lyingBase n pos) = ((l.take q).foldl layOne (lyingBase n pos)).set e xp by
         rw [hst, layOne_in (by rw [hsl]; exact ⟨hx0, hxn⟩)]; rfl)
        have k1 := own_cell HO.out (j := e) hen
        have k2 := HO.out.frozenAt e
        have hs := (own_shape' HO.out).2
        clear hst hsl hx hx0
        go_wp2_with fail
        have hSall : ∀ w' : World, Below (wo).heap.size (wo) w' → (w'.cell? ⟨b, off + q * 2, none⟩ = some (.int .i64 (e : Int)) ∧ w'.cell? ⟨b, off + q * 2 + 1, none⟩ = some (.int .i64 xp)) := fun w' hb => ⟨(hb.cell (p := ⟨b, off + q * 2, none⟩) hbl).trans g1, (hb.cell (p := ⟨b, off + q * 2 + 1, none⟩) hbl).trans g2⟩
        refine wp_region_noPanic ?_
        refine region_ob (S := fun w' => w'.cell? ⟨b, off + q * 2, none⟩ = some (.int .i64 (e : Int)) ∧ w'.cell? ⟨b, off + q * 2 + 1, none⟩ = some (.int .i64 xp)) (ob := fun t => decide (t < 12)) (by kernel_rfl) ?_
        refine tk 0 (.slice (some ⟨W0.heap.size, 0, none⟩) n n) ?_ (hSall _ (Below.refl _ _).drew) ?_
        ·intro w' hSw
         (try dsimp only at hSw)
         go_simp
        (try simp only [zA, zC, Act.put, zD, zE, zF])
        refine tk 1 (.slice (some ⟨b, off, none⟩) ln lc) ?_ (hSall _ (Below.refl _ _).drew) ?_
        ·intro w' hSw
         (try dsimp only at hSw)
         go_simp
        (try simp only [zA, zB, zC, Act.put, zD, zE, zF])
        refine tk 2 (.int .i64 q) ?_ (hSall _ (Below.refl _ _).drew) ?_
        ·intro w' hSw
         (try dsimp only at hSw)
         go_simp
        (try simp only [zA, zB, zC, Act.put, zD, zE, zF])
        refine tk 3 (.pointer (some ⟨b, off + q * 2, none⟩)) ?_ (hSall _ (Below.refl _ _).drew) ?_
        ·intro w' hSw
         (try dsimp only at hSw)
         go_simp
        (try simp only [zA, zB, zC, Act.put, zD, zE, zF])
        refine tk 4 (.pointer (some ⟨b, off + q * 2, none⟩)) ?_ (hSall _ (Below.refl _ _).drew) ?_
        ·intro w' hSw
         (try dsimp only at hSw)
         go_simp
        (try simp only [zA, zB, zC, Act.put, zD, zE, zF])
        refine tk 5 (.int .i64 (e : Int)) ?_ (hSall _ (Below.refl _ _).drew) ?_
        ·intro w' hSw
         (try dsimp only at hSw)
         go_simp
        (try simp only [zA, zB, zC, Act.put, zD, zE, zF])
        refine tk 6 (.slice (some ⟨b, off, none⟩) ln lc) ?_ (hSall _ (Below.refl _ _).drew) ?_
        ·intro w' hSw
         (try dsimp only at hSw)
         go_simp
        (try simp only [zA, zB, zC, Act.put, zD, zE, zF])
        refine tk 7 (.int .i64 q) ?_ (hSall _ (Below.refl _ _).drew) ?_
        ·intro w' hSw
         (try dsimp only at hSw)
         go_simp
        (try simp only [zA, zB, zC, Act.put, zD, zE, zF])
        refine tk 8 (.pointer (some ⟨b, off + q * 2, none⟩)) ?_ (hSall _ (Below.refl _ _).drew) ?_
        ·intro w' hSw
         (try dsimp only at hSw)
         go_simp
        (try simp only [zA, zB, zC, Act.put, zD, zE, zF])
        refine tk 9 (.pointer (some ⟨b, off + q * 2 + 1, none⟩)) ?_ (hSall _ (Below.refl _ _).drew) ?_
        ·intro w' hSw
         (try dsimp only at hSw)
         go_simp
        (try simp only [zA, zB, zC, Act.put, zD, zE, zF])
        refine tk 10 (.int .i64 xp) ?_ (hSall _ (Below.refl _ _).drew) ?_
        ·intro w' hSw
         (try dsimp only at hSw)
         go_simp
        (try simp only [zA, zB, zC, Act.put, zD, zE, zF])
        refine tk 11 (.pointer (some ⟨W0.heap.size, e, none⟩)) ?_ (hSall _ (Below.refl _ _).drew) ?_
        ·intro w' hSw
         (try dsimp only at hSw)
         go_simp
        (try simp only [zA, zB, zC, Act.put, zD, zE, zF])
        refine ob_step (i := 12) (by kernel_rfl) rfl (fun K hK => ?_)
        go_simp
        refine hK _ _ (fun h => absurd h (by decide)) ?_
        clear hK K
        (try simp only [zA, zB, zC, Act.put, zD, zE, zF])
        refine ob_done (by kernel_rfl) (NoPanic.normal ?_) _
        clear hSall

        go_wp2_with fail
        go_roundg (gk - 1)
        case measure => have := Hk2.out; omega
        case rel => exact ⟨q + 1, by have := Hk2.out; omega, by go_num, by unfold Hid; rw [Hst.out]; exact (own_set (show OwnI wo.drew _ _ _ _ from HO.out) e _).1, HB.out.drew.setCell (p := ⟨W0.heap.size, e, none⟩) (Nat.le_refl _) _⟩
       ·have d2 : decide (x.e < (n : Int)) = false := by simp; omega
        have Hst := Lib.hid (show (l.take (q + 1)).foldl layOne (lyingBase n pos) = (l.take q).foldl layOne (lyingBase n pos) by
         rw [hst, layOne_out (by rw [hsl]; omega)])
        clear hst hsl hx
        go_wp2_with fail
        go_roundg (gk - 1)
        case measure => have := Hk2.out; omega
        case rel => exact ⟨q + 1, by have := Hk2.out; omega, by go_num, by unfold Hid; rw [Hst.out]; exact HO.out, HB.out⟩
      ·have d1 : decide (0 ≤ x.e) = false := by simp; omega
       have Hst := Lib.hid (show (l.take (q + 1)).foldl layOne (lyingBase n pos) = (l.take q).foldl layOne (lyingBase n pos) by
        rw [hst, layOne_out (by omega)])
       clear hst hsl hx
       go_wp2_with fail
       go_roundg (gk - 1)
       case measure => have := Hk2.out; omega
       case rel => exact ⟨q + 1, by have := Hk2.out; omega, by go_num, by unfold Hid; rw [Hst.out]; exact HO.out, HB.out⟩
     ·have HF := Lib.hid (show OwnI wo W0.heap.size (.slice (some ⟨W0.heap.size, 0, none⟩) n n) n (lyingL n l pos) by
       have h1 := HO.out
       rw [take_all Hln.out (by omega)] at h1
       exact h1)
      go_wp2_with fail
      go_ret
      exact ⟨some ⟨W0.heap.size, 0, none⟩, n, n, rfl, (own_ints HF.out).1, (by intro h; cases h), below_step Hb0.out HB.out Hb0.out.size⟩)
end Go.Proofs.Ytnkpiijljfjmkaa
