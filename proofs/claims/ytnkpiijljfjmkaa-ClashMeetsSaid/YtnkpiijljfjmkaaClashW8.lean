/- Walk of semaphoreref12.on. Condition: the plan and the road are read; the plan is one that may be. -/
import Derived.Test.YtnkpiijljfjmkaaClashW7
set_option maxRecDepth 1000000
namespace Go.Proofs.Ytnkpiijljfjmkaa
open Go.ChangeShapes Go.WideShapes Go.ChangeAt Go.RowKit Go.Sort

set_option maxHeartbeats 16000000 in
theorem on_any : ∀ (f : Nat) (w : World) (pv : PV) (p : Plan) (_ : PlanAt w pv p) (_ : chk p = 0) (rv : RV) (r : Road) (_ : RoadAt w rv r) (_ : r.steps.length + f = 12) (_ : r.needs.length ≤ r.steps.length) (x : Port) (_ : x.wf)
  (am : Option Addr) (nm cm : Nat) (met : List Int) (_ : Ints w am nm met) (_ : am = none → cm = 0) (_ : nm ≤ r.steps.length + 1),
  Calls Try.prog 83 #[pv.val p, rv.val r, x.val, .slice am nm cm] w (OnPost w (onR p f r x met)) := by
 intro f
 induction f with
 | zero =>
  intro w pv p h hck rv r hr hsf hnl x hx am nm cm met hm hmc hml
  exact on_zero w pv p h rv r hr hsf x am nm cm met hm
 | succ f ih =>
  intro w pv p h hck rv r hr hsf hnl x hx am nm cm met hm hmc hml
  obtain ⟨ae, ne, ce, aj, nj, cj, as_, ns, cs, al, nl, cl, lv⟩ := pv
  obtain ⟨sa, sn, sc, na, nn, nc, ga, gn, gc, za, zn, zc, ha, hn, hc⟩ := rv
  have hsn : r.steps.length = sn := hr.s.len
  have hnn : r.needs.length = nn := hr.n.len
  have Hfit := Lib.hid hr.fit
  obtain ⟨W0, hW0, hb0, hB0, hR0, hX0, hz0⟩ := boxesP w ⟨ae, ne, ce, aj, nj, cj, as_, ns, cs, al, nl, cl, lv⟩ p ⟨sa, sn, sc, na, nn, nc, ga, gn, gc, za, zn, zc, ha, hn, hc⟩ r x
  have Hb0 := Lib.hid hb0
  have HB0 := Lib.hid hB0
  have HR0 := Lib.hid hR0
  have HX0 := Lib.hid hX0
  have Hz0 := Lib.hid hz0
  have HP0 := Lib.hid (h.below hb0)
  have HRd0 := Lib.hid (hr.below hb0)
  have HM0 := Lib.hid (hm.below hb0)
  have Hc := Lib.hid hck
  have Hih := Lib.hid ih
  have hsc := Lib.hid hmc
  have HIn := Lib.hid (refin_any W0 am nm cm met HM0.out x.e)
  have Hsf := Lib.hid hsf
  have hs12 : sn < 12 := by omega
  have hnn12 : nn ≤ 12 := by omega
  have hnm : nm ≤ 13 := by omega
  obtain ⟨ii, hii, zi1, zi2, zi3⟩ := info_parts info_intC
  clear h hr hb0 hB0 hR0 hX0 hz0 hm ih hck hmc
  dsimp only [PV.val, RV.val, Port.val]
  dsimp only [PV.cells, RV.cells] at hW0
  obtain ⟨hpl, c0, c1, c2, c3, c4, c5, c6, c7, c8⟩ := HB0.out
  dsimp only at c0 c1 c2 c3
  obtain ⟨hrl, q0, q1, q2, q3, q4, q5, q6, q7, q8⟩ := HR0.out
  dsimp only at q0 q1 q2 q3 q4 q5 q6 q7 q8
  obtain ⟨hxl, x0, x1, _⟩ := HX0.out
  have d12 : ((sn : Int) == 12) = false := by simp; omega
  cases hmem : memB x.e met with
  | true =>
   rw [hmem] at HIn
   have Hn := Lib.hid (show onR p (f + 1) r x met = [] by unfold onR; rw [if_pos (memB_iff.1 hmem)])
   clear hmem
   go_enter Try.func83, Try.ntmps83
   go_wp2_with fail
   rw [← hW0]
   clear hW0
   go_wp2_with fail
   refine HIn.out.mono ?_
   rintro en w1 ⟨rfl, rfl⟩
   go_wp2_with fail
   go_ret
   exact ⟨_, [], rfl, by rw [Hn.out]; rfl, OwnR.nil _ _, Hb0.out⟩
  | false =>
   rw [hmem] at HIn
   have hne : x.e ∉ met := fun hc => by rw [memB_iff.2 hc] at hmem; cases hmem
   have Hne := Lib.hid hne
   clear hmem hne
   go_enter Try.func83, Try.ntmps83
   go_wp2_with fail
   rw [← hW0]
   clear hW0
   go_wp2_with fail
   refine HIn.out.mono ?_
   rintro en W1 ⟨rfl, rfl⟩
   go_wp2_with fail
   obtain ⟨W1, hW1⟩ : ∃ W1 : World, W1 = W0 := ⟨_, rfl⟩
   rw [← hW1]
   have hS := Lib.hid (show Ints W1 am nm met by rw [hW1]; exact HM0.out)
   rw [← hW1] at hxl x0
   refine wp_region_noPanic ?_
   refine region_ob (S := (SX (w.heap.size + 1 + 1) x.e)) (ob := obX) (by kernel_rfl) ?_
   have hSall : ∀ w' : World, Below W1.heap.size W1 w' → (SX (w.heap.size + 1 + 1) x.e) w' := fun w' hb => (hb.cell (p := ⟨w.heap.size + 1 + 1, 0, none⟩) hxl).trans x0
   have hS0 : (SX (w.heap.size + 1 + 1) x.e) W1.drew := hSall _ (Below.refl _ _).drew
   refine tk 1 (.slice am nm cm) ?_ hS0 ?_
   ·intro w' hSw
    unfold SX at hSw
    go_simp
   (try simp only [zA, zB, zC, Act.put, zD, zE, zF])
   refine tk 3 (.pointer (some ⟨w.heap.size + 1 + 1, 0, none⟩)) ?_ hS0 ?_
   ·intro w' hSw
    unfold SX at hSw
    go_simp
   (try simp only [zA, zB, zC, Act.put, zD, zE, zF])
   refine tk 4 (.int .i64 x.e) ?_ hS0 ?_
   ·intro w' hSw
    unfold SX at hSw
    go_simp
   (try simp only [zA, zB, zC, Act.put, zD, zE, zF])
   refine ob_name fun OPS hO R hR A hA => ?_
   have hsz : A.tmps.size = 128 := by rw [hA]; rfl
   have e19 : A.eval (.tmp 28) = .slice am nm cm := by rw [hA]; rfl
   have e21 : A.eval (.tmp 31) = .int .i64 x.e := by rw [hA]; rfl
   have st111 : ∀ (w' : World) (g1 g5 : Nat) (v3 : Value), Below W1.heap.size W1 w' → w'.ownsRow W1.heap.size 3 1 v3 nm (met.flatMap encInt) → w'.heap[g5]? = some (.cells #[.int .i64 x.e] 3) → v3.ownBlock ≠ some g5 → W1.heap.size ≤ g5 → wpOb Try.prog .any OPS R (SX (w.heap.size + 1 + 1) x.e) obX 2 #[true, true, true, true, true, true, false, false] (((A.put (some 27) (.slice (some ⟨g1, 0, none⟩) 0 0)).put (some 29) v3).put (some 32) (.slice (some ⟨g5, 0, none⟩) 1 1)) w' := by
    intro w' g1 g5 v3 hb ho hp ha hg
    have hsb := hb.size
    subst hO
    subst hR
    refine ob_step (i := 6) (by kernel_rfl) rfl (fun K hK => ?_)
    refine step_app (enc := encInt) (fun _ => rfl) encInt_oneC w' (by rfl) _ _ 36 (by rfl) W1.heap.size 3 (.int .i64 0) 8 Try.underlying36 info_intC (by rfl) (by decide) v3 nm met (by simp [ev_putC, put_sizeC, hsz]) ho (some ⟨g5, 0, none⟩) 1 1 [x.e] (by simp [ev_putC, put_sizeC, hsz]) (row_int1 hp) (by intro h; cases h) (by simp [maxLen]; omega) (by omega) hsb ?_
    intro v4 w4 ho4 hgrow4 _ _
    have hb4 : Below W1.heap.size W1 w4 := hb.grown hgrow4 hsb (fun k hk => (ho.lt k hk).1)
    refine hK _ _ (fun _ => hSall _ hb4) ?_
    clear hK K hSall hS0 hb ho hp ha hg hsb hgrow4
    subst hA
    (try simp only [zA, zB, zC, Act.put, zD, zE, zF])
    clear e19 e21 hsz
    obtain ⟨a4, cm4, rfl, _, hc4⟩ := own_slice ho4
    refine ob_step (i := 7) (by kernel_rfl) rfl (fun K hK => ?_)
    go_simp
    refine hK _ _ (fun h => absurd h (by decide)) ?_
    clear hK K
    (try simp only [zD, zE, zF])
    refine ob_done (by kernel_rfl) (NoPanic.normal ?_) _
    subst hW1
    have Hv4 := Lib.hid hb4
    have hmet := own_ints (by unfold OwnI; rw [← flat_ints]; exact ho4)
    have Hmet := Lib.hid hmet.1
    have Hmc := Lib.hid (fun h => (hc4 h).2)
    clear hmet ho4 hb4 hc4 hS
    obtain ⟨hpl, c0, c1, c2, c3, c4, c5, c6, c7, c8⟩ := HB0.out.below Hv4.out
    dsimp only at c0 c1 c2 c3
    obtain ⟨hrl, q0, q1, q2, q3, q4, q5, q6, q7, q8⟩ := HR0.out.below Hv4.out
    dsimp only at q0 q1 q2 q3 q4 q5 q6 q7 q8
    obtain ⟨hxl, x0, x1, _⟩ := HX0.out.below Hv4.out
    have HK := Lib.hid (refkind_l (w := w4) (e := x.e) (HP0.out.below Hv4.out))
    by_cases hk : p.kind x.e = 4
    ·have d4 : (p.kind x.e == 4) = true := by simp [hk]
     have Hn := Lib.hid (show onR p (f + 1) r x met = [addStep r ⟨x.e, x.n, -1⟩ 0 2 (-1)] by unfold onR; rw [if_neg Hne.out, if_pos hk])
     clear hk
     go_wp2_with fail
     refine HK.out.mono ?_
     rintro en w5 ⟨rfl, hb5⟩
     have Hv5 := Lib.hid (below_step Hv4.out hb5 Hv4.out.size)
     clear hb5 hpl c0 c1 c2 c3 c4 c5 c6 c7 c8 hrl q0 q1 q2 q3 q4 q5 q6 q7 q8 hxl x0 x1
     obtain ⟨hpl, c0, c1, c2, c3, c4, c5, c6, c7, c8⟩ := HB0.out.below Hv5.out
     dsimp only at c0 c1 c2 c3
     obtain ⟨hrl, q0, q1, q2, q3, q4, q5, q6, q7, q8⟩ := HR0.out.below Hv5.out
     dsimp only at q0 q1 q2 q3 q4 q5 q6 q7 q8
     obtain ⟨hxl, x0, x1, _⟩ := HX0.out.below Hv5.out
     have HWi := Lib.hid (with_l (HRd0.out.below Hv5.out) (by omega) (by omega) ⟨x.e, x.n, -1⟩ ⟨hx.1, hx.2, show inI (-1) from inI_mk (by omega) (by omega)⟩ 0 2 (-1) (inI_mk (by omega) (by omega)))
     dsimp only at HWi
     go_wp2_with fail
     refine HWi.out.mono ?_
     rintro en w6 ⟨rv2, rfl, hr2, hbl2, hb6⟩
     have Hv6 := Lib.hid (below_step Hv5.out hb6 Hv5.out.size)
     have hz6 := Hv6.out.size
     have Hlit := Lib.hid (lit_road hr2 (base := w.heap.size) (fun a ha k hk => by have := hbl2 a ha k hk; have := (below_step Hb0.out Hv5.out Hb0.out.size).size; omega) (by have := Hz0.out; omega))
     obtain ⟨sa6, sn6, sc6, na6, nn6, nc6, ga6, gn6, gc6, za6, zn6, zc6, ha6, hn6, hc6⟩ := rv2
     dsimp only [RV.val, RV.cells] at Hlit ⊢
     clear hr2 hbl2 hb6 HWi
     go_wp2_with fail
     go_ret
     exact ⟨_, _, rfl, by rw [Hn.out]; rfl, Hlit.out, (below_step Hb0.out Hv6.out Hb0.out.size).alloc (by have := Hz0.out; omega) _⟩
    ·have d4 : (p.kind x.e == 4) = false := by simpa using hk
     have Hn := Lib.hid (show onR p (f + 1) r x met = (outs p x.e x.n).flatMap (onG p f r x (met ++ [x.e])) by rw [onR, if_neg Hne.out, if_neg hk]; rfl)
     clear hk
     go_wp2_with fail
     refine HK.out.mono ?_
     rintro en w5 ⟨rfl, hb5⟩
     have Hv5 := Lib.hid (below_step Hv4.out hb5 Hv4.out.size)
     have Hmet5 := Lib.hid (Hmet.out.below hb5)
     clear hb5 HK Hmet hpl c0 c1 c2 c3 c4 c5 c6 c7 c8 hrl q0 q1 q2 q3 q4 q5 q6 q7 q8 hxl x0 x1
     obtain ⟨hpl, c0, c1, c2, c3, c4, c5, c6, c7, c8⟩ := HB0.out.below Hv5.out
     dsimp only at c0 c1 c2 c3
     obtain ⟨hrl, q0, q1, q2, q3, q4, q5, q6, q7, q8⟩ := HR0.out.below Hv5.out
     dsimp only at q0 q1 q2 q3 q4 q5 q6 q7 q8
     obtain ⟨hxl, x0, x1, _⟩ := HX0.out.below Hv5.out
     have HO := Lib.hid (refouts_l (w := w5) (e := x.e) (i := x.n) (HP0.out.below Hv5.out))
     go_wp2_with fail
     refine HO.out.mono ?_
     rintro en w6 ⟨aw, nw, cw, rfl, hrow, hnw, hb6⟩
     have Hv6 := Lib.hid (below_step Hv5.out hb6 Hv5.out.size)
     have Hmet6 := Lib.hid (Hmet5.out.below hb6)
     have Hrow := Lib.hid hrow
     have hw6 : w.heap.size ≤ w6.heap.size := by have := Hv6.out.size; have := Hz0.out; omega
     clear hrow hb6 HO Hmet5 hpl c0 c1 c2 c3 c4 c5 c6 c7 c8 hrl q0 q1 q2 q3 q4 q5 q6 q7 q8 hxl x0 x1
     go_wp2_with fail
     go_loopg [9, 11] nw (fun k s9 s11 wr => ∃ (i : Nat) (xs : List RoadV), i + k = nw ∧ s11 = .int .i64 i ∧ Hid (OwnR wr w6.heap.size s9 xs) ∧ Hid (xs.map (·.r) ++ ((outs p x.e x.n).drop i).flatMap (onG p f r x (met ++ [x.e])) = onR p (f + 1) r x met) ∧ xs.length ≤ i * 4096 ∧ Hid (Below w6.heap.size w6 wr))
     case atStart => exact ⟨0, [], by omega, rfl, OwnR.nil _ _, Hn.out.symm, by simp, Below.refl _ _⟩
     case round =>
      clear Hn
      obtain ⟨i, xs, hk, rfl, HX, hrel2, hxl3, HB⟩ := hrel
      have Hk := Lib.hid hk; clear hk
      obtain ⟨ao, co, rfl, _, hoc⟩ := own_slice HX.out.own
      by_cases hlt : i < nw
      ·obtain ⟨y, hy⟩ := get_some Hrow.out.len hlt
       obtain ⟨pb, off, rfl, hpb, g1, g2⟩ := (Hrow.out.below HB.out).way hy
       have Hy := Lib.hid hy
       have Hd := Lib.hid (drop_cons hy)
       clear hy
       have Hv7 := Lib.hid (below_step Hv6.out HB.out Hv6.out.size)
       obtain ⟨hxl, x0, x1, _, _⟩ := HX0.out.below Hv7.out
       clear g2
       go_wp2_with fail
       go_region
       refine name_world fun w8 hw8 => ?_
       have Hw8 := Lib.hid (show Below wr.heap.size wr w8 by rw [hw8]; exact ((Below.refl _ _).alloc (Nat.le_refl _) _).drew)
       have e0 : w8.cell? ⟨wr.heap.size, 0, none⟩ = some (.int .i64 x.e) := by rw [hw8]; go_simp
       have e1 : w8.cell? ⟨wr.heap.size, 1, none⟩ = some (.int .i64 y.out) := by rw [hw8]; go_simp
       have hz8 : wr.heap.size < w8.heap.size := by rw [hw8]; simp
       have Hv8 := Lib.hid (below_step Hv7.out Hw8.out Hv7.out.size)
       obtain ⟨b8, hb8e⟩ : ∃ b8, b8 = w8.heap.size := ⟨_, rfl⟩
       clear hw8 g1 hxl x0 x1
       have g1 := ((Hrow.out.below HB.out).below Hw8.out).way Hy.out
       obtain ⟨pb1, off1, ea, hpb8, g1, g2⟩ := g1
       cases ea
       clear g2
       obtain ⟨hxl, x0, x1, _, _⟩ := HX0.out.below Hv8.out
       go_wp2_with fail
       have hSall : ∀ w' : World, Below (w8).heap.size (w8) w' → (w'.cell? ⟨w.heap.size + 1 + 1, 0, none⟩ = some (.int .i64 x.e) ∧ w'.cell? ⟨w.heap.size + 1 + 1, 1, none⟩ = some (.int .i64 x.n) ∧ w'.cell? ⟨pb, off + i * 2, none⟩ = some (.int .i64 y.out)) := fun w' hb => ⟨(hb.cell (p := ⟨w.heap.size + 1 + 1, 0, none⟩) hxl).trans x0, (hb.cell (p := ⟨w.heap.size + 1 + 1, 1, none⟩) hxl).trans x1, (hb.cell (p := ⟨pb, off + i * 2, none⟩) hpb8).trans g1⟩
       refine wp_region_noPanic ?_
       refine region_upto (S := fun w' => w'.cell? ⟨w.heap.size + 1 + 1, 0, none⟩ = some (.int .i64 x.e) ∧ w'.cell? ⟨w.heap.size + 1 + 1, 1, none⟩ = some (.int .i64 x.n) ∧ w'.cell? ⟨pb, off + i * 2, none⟩ = some (.int .i64 y.out)) (n := 12) (by kernel_rfl) ?_
       refine uk 0 (.pointer (some ⟨w.heap.size + 1 + 1, 0, none⟩)) ?_ (hSall _ (by with_reducible repeat (first | exact Below.refl _ _ | assumption | exact below_new _ _ | apply below_drewN | apply Below.drew | refine below_set (Nat.le_refl _) ?_ _ | (refine below_set ?_ ?_ _; omega) | refine Below.alloc ?_ (by first | omega | (simp; omega) | simp) _))) ?_
       ·intro w' hSw
        (try dsimp only at hSw)
        go_simp
       (try simp only [zA, zC, Act.put, zD, zE, zF])
       refine uk 1 (.int .i64 x.e) ?_ (hSall _ (by with_reducible repeat (first | exact Below.refl _ _ | assumption | exact below_new _ _ | apply below_drewN | apply Below.drew | refine below_set (Nat.le_refl _) ?_ _ | (refine below_set ?_ ?_ _; omega) | refine Below.alloc ?_ (by first | omega | (simp; omega) | simp) _))) ?_
       ·intro w' hSw
        (try dsimp only at hSw)
        go_simp
       (try simp only [zA, zB, zC, Act.put, zD, zE, zF])
       refine uk 2 (.pointer (some ⟨w.heap.size + 1 + 1, 1, none⟩)) ?_ (hSall _ (by with_reducible repeat (first | exact Below.refl _ _ | assumption | exact below_new _ _ | apply below_drewN | apply Below.drew | refine below_set (Nat.le_refl _) ?_ _ | (refine below_set ?_ ?_ _; omega) | refine Below.alloc ?_ (by first | omega | (simp; omega) | simp) _))) ?_
       ·intro w' hSw
        (try dsimp only at hSw)
        go_simp
       (try simp only [zA, zB, zC, Act.put, zD, zE, zF])
       refine uk 3 (.int .i64 x.n) ?_ (hSall _ (by with_reducible repeat (first | exact Below.refl _ _ | assumption | exact below_new _ _ | apply below_drewN | apply Below.drew | refine below_set (Nat.le_refl _) ?_ _ | (refine below_set ?_ ?_ _; omega) | refine Below.alloc ?_ (by first | omega | (simp; omega) | simp) _))) ?_
       ·intro w' hSw
        (try dsimp only at hSw)
        go_simp
       (try simp only [zA, zB, zC, Act.put, zD, zE, zF])
       refine uk 4 (.slice (some ⟨pb, off, none⟩) nw cw) ?_ (hSall _ (by with_reducible repeat (first | exact Below.refl _ _ | assumption | exact below_new _ _ | apply below_drewN | apply Below.drew | refine below_set (Nat.le_refl _) ?_ _ | (refine below_set ?_ ?_ _; omega) | refine Below.alloc ?_ (by first | omega | (simp; omega) | simp) _))) ?_
       ·intro w' hSw
        (try dsimp only at hSw)
        go_simp
       (try simp only [zA, zB, zC, Act.put, zD, zE, zF])
       refine uk 5 (.int .i64 i) ?_ (hSall _ (by with_reducible repeat (first | exact Below.refl _ _ | assumption | exact below_new _ _ | apply below_drewN | apply Below.drew | refine below_set (Nat.le_refl _) ?_ _ | (refine below_set ?_ ?_ _; omega) | refine Below.alloc ?_ (by first | omega | (simp; omega) | simp) _))) ?_
       ·intro w' hSw
        (try dsimp only at hSw)
        go_simp
       (try simp only [zA, zB, zC, Act.put, zD, zE, zF])
       refine uk 6 (.pointer (some ⟨pb, off + i * 2, none⟩)) ?_ (hSall _ (by with_reducible repeat (first | exact Below.refl _ _ | assumption | exact below_new _ _ | apply below_drewN | apply Below.drew | refine below_set (Nat.le_refl _) ?_ _ | (refine below_set ?_ ?_ _; omega) | refine Below.alloc ?_ (by first | omega | (simp; omega) | simp) _))) ?_
       ·intro w' hSw
        (try dsimp only at hSw)
        go_simp
       (try simp only [zA, zB, zC, Act.put, zD, zE, zF])
       refine uk 7 (.pointer (some ⟨pb, off + i * 2, none⟩)) ?_ (hSall _ (by with_reducible repeat (first | exact Below.refl _ _ | assumption | exact below_new _ _ | apply below_drewN | apply Below.drew | refine below_set (Nat.le_refl _) ?_ _ | (refine below_set ?_ ?_ _; omega) | refine Below.alloc ?_ (by first | omega | (simp; omega) | simp) _))) ?_
       ·intro w' hSw
        (try dsimp only at hSw)
        go_simp
       (try simp only [zA, zB, zC, Act.put, zD, zE, zF])
       refine uk 8 (.int .i64 y.out) ?_ (hSall _ (by with_reducible repeat (first | exact Below.refl _ _ | assumption | exact below_new _ _ | apply below_drewN | apply Below.drew | refine below_set (Nat.le_refl _) ?_ _ | (refine below_set ?_ ?_ _; omega) | refine Below.alloc ?_ (by first | omega | (simp; omega) | simp) _))) ?_
       ·intro w' hSw
        (try dsimp only at hSw)
        go_simp
       (try simp only [zA, zB, zC, Act.put, zD, zE, zF])
       refine uk 9 ((.agg #[.int .i64 x.e, .int .i64 x.n, .int .i64 y.out])) ?_ (hSall _ (by with_reducible repeat (first | exact Below.refl _ _ | assumption | exact below_new _ _ | apply below_drewN | apply Below.drew | refine below_set (Nat.le_refl _) ?_ _ | (refine below_set ?_ ?_ _; omega) | refine Below.alloc ?_ (by first | omega | (simp; omega) | simp) _))) ?_
       ·intro w' hSw
        (try dsimp only at hSw)
        go_simp
       (try simp only [zA, zB, zC, Act.put, zD, zE, zF])
       refine upto_step (i := 10) (by kernel_rfl) rfl (fun K hK => ?_)
       go_simp
       refine hK _ _ (fun _ => (hSall _ (by with_reducible repeat (first | exact Below.refl _ _ | assumption | exact below_new _ _ | apply below_drewN | apply Below.drew | refine below_set (Nat.le_refl _) ?_ _ | (refine below_set ?_ ?_ _; omega) | refine Below.alloc ?_ (by first | omega | (simp; omega) | simp) _)))) ?_
       clear hK K
       (try simp only [zA, zB, zC, Act.put, zD, zE, zF])
       refine upto_step (i := 11) (by kernel_rfl) rfl (fun K hK => ?_)
       go_simp
       refine hK _ _ (fun _ => (hSall _ (by with_reducible repeat (first | exact Below.refl _ _ | assumption | exact below_new _ _ | apply below_drewN | apply Below.drew | refine below_set (Nat.le_refl _) ?_ _ | (refine below_set ?_ ?_ _; omega) | refine Below.alloc ?_ (by first | omega | (simp; omega) | simp) _)))) ?_
       clear hK K
       (try simp only [zA, zB, zC, Act.put, zD, zE, zF])
       refine upto_done (by kernel_rfl) (NoPanic.normal ?_) _
       clear hSall
       refine name_world fun w9 hw9 => ?_

       have Hw9 := Lib.hid (show Below w8.heap.size w8 w9 by rw [hw9]; exact ((Below.refl _ _).alloc (Nat.le_refl _) _).drew)
       have s0 : w9.cell? ⟨b8, 0, none⟩ = some (.int .i64 x.e) := by rw [hw9, hb8e]; go_simp
       have s1 : w9.cell? ⟨b8, 1, none⟩ = some (.int .i64 x.n) := by rw [hw9, hb8e]; go_simp
       have s2 : w9.cell? ⟨b8, 2, none⟩ = some (.int .i64 y.out) := by rw [hw9, hb8e]; go_simp
       have hb89 : b8 < w9.heap.size := by rw [hw9, hb8e]; simp
       have e0 := (Hw9.out.cell (p := ⟨wr.heap.size, 0, none⟩) hz8).trans e0
       have e1 := (Hw9.out.cell (p := ⟨wr.heap.size, 1, none⟩) hz8).trans e1
       have hz9 : wr.heap.size < w9.heap.size := by have := Hw9.out.size; omega
       have Hv9 := Lib.hid (below_step Hv8.out Hw9.out Hv8.out.size)
       rw [← hb8e]
       clear hw9 hb8e g1 hpb8 hxl x0 x1
       obtain ⟨hpl, c0, c1, c2, c3, c4, c5, c6, c7, c8⟩ := HB0.out.below Hv9.out
       dsimp only at c0 c1 c2 c3
       obtain ⟨hrl, q0, q1, q2, q3, q4, q5, q6, q7, q8⟩ := HR0.out.below Hv9.out
       dsimp only at q0 q1 q2 q3 q4 q5 q6 q7 q8
       obtain ⟨hxl, x0, x1, _⟩ := HX0.out.below Hv9.out
       have HRe := Lib.hid (refreads_l (w := w9) (a := x.e) (b := y.out) (HP0.out.below Hv9.out))
       go_wp2_with fail
       refine HRe.out.mono ?_
       rintro en w10 ⟨rfl, hb10⟩
       have Hv10 := Lib.hid (below_step Hv9.out hb10 Hv9.out.size)
       have HBr10 := Lib.hid (below_step (below_step Hw8.out Hw9.out Hw8.out.size) hb10 (Nat.le_trans Hw8.out.size Hw9.out.size))
       have HB10 := Lib.hid (below_step HB.out HBr10.out HB.out.size)
       have s0 := (hb10.cell (p := ⟨b8, 0, none⟩) hb89).trans s0
       have s1 := (hb10.cell (p := ⟨b8, 1, none⟩) hb89).trans s1
       have s2 := (hb10.cell (p := ⟨b8, 2, none⟩) hb89).trans s2
       have e0 := (hb10.cell (p := ⟨wr.heap.size, 0, none⟩) hz9).trans e0
       have e1 := (hb10.cell (p := ⟨wr.heap.size, 1, none⟩) hz9).trans e1
       have hb8 : b8 < w10.heap.size := by have := hb10.size; omega
       have hz10 : wr.heap.size < w10.heap.size := by have := hb10.size; omega
       clear hb10 HRe hpl c0 c1 c2 c3 c4 c5 c6 c7 c8 hrl q0 q1 q2 q3 q4 q5 q6 q7 q8 hxl x0 x1
       obtain ⟨hpl, c0, c1, c2, c3, c4, c5, c6, c7, c8⟩ := HB0.out.below Hv10.out
       dsimp only at c0 c1 c2 c3
       obtain ⟨hrl, q0, q1, q2, q3, q4, q5, q6, q7, q8⟩ := HR0.out.below Hv10.out
       dsimp only at q0 q1 q2 q3 q4 q5 q6 q7 q8
       obtain ⟨hxl, x0, x1, _⟩ := HX0.out.below Hv10.out
       obtain ⟨pb1, off1, ea, hpb, g1, g2⟩ := ((Hrow.out.below HB.out).below HBr10.out).way Hy.out
       cases ea
       have Hwy := Lib.hid (way_inI hx (List.mem_of_getElem? Hy.out))
       by_cases hr0 : 0 ≤ reads p ⟨x.e, y.out⟩
       ·have d1 : decide (0 ≤ reads p ⟨x.e, y.out⟩) = true := by simpa using hr0
        have Hres := Lib.hid (show xs.map (·.r) ++ [addStep r ⟨x.e, x.n, y.out⟩ y.pos 1 (reads p ⟨x.e, y.out⟩)] ++ ((outs p x.e x.n).drop (i + 1)).flatMap (onG p f r x (met ++ [x.e])) = onR p (f + 1) r x met by
         rw [← hrel2.out, Hd.out, List.flatMap_cons, show onG p f r x (met ++ [x.e]) y = [addStep r ⟨x.e, x.n, y.out⟩ y.pos 1 (reads p ⟨x.e, y.out⟩)] by unfold onG; rw [if_pos hr0]]; simp)
        clear hr0
        go_wp2_with fail
        have hSall : ∀ w' : World, Below (w10).heap.size (w10) w' → (w'.cell? ⟨w.heap.size + 1, 0, none⟩ = some (.int .i64 r.frm) ∧ w'.cell? ⟨w.heap.size + 1, 1, none⟩ = some (.int .i64 r.to) ∧ w'.cell? ⟨w.heap.size + 1, 2, none⟩ = some (.int .i64 r.fin) ∧ w'.cell? ⟨w.heap.size + 1, 3, none⟩ = some (.slice sa sn sc) ∧ w'.cell? ⟨w.heap.size + 1, 4, none⟩ = some (.slice na nn nc) ∧ w'.cell? ⟨w.heap.size + 1, 5, none⟩ = some (.slice ga gn gc) ∧ w'.cell? ⟨w.heap.size + 1, 6, none⟩ = some (.slice za zn zc) ∧ w'.cell? ⟨w.heap.size + 1, 7, none⟩ = some (.slice ha hn hc) ∧ w'.cell? ⟨w.heap.size + 1, 8, none⟩ = some (.bool r.bare) ∧ w'.cell? ⟨b8, 0, none⟩ = some (.int .i64 x.e) ∧ w'.cell? ⟨b8, 1, none⟩ = some (.int .i64 x.n) ∧ w'.cell? ⟨b8, 2, none⟩ = some (.int .i64 y.out) ∧ w'.cell? ⟨pb, off + i * 2 + 1, none⟩ = some (.int .i64 y.pos)) := fun w' hb => ⟨(hb.cell (p := ⟨w.heap.size + 1, 0, none⟩) hrl).trans q0, (hb.cell (p := ⟨w.heap.size + 1, 1, none⟩) hrl).trans q1, (hb.cell (p := ⟨w.heap.size + 1, 2, none⟩) hrl).trans q2, (hb.cell (p := ⟨w.heap.size + 1, 3, none⟩) hrl).trans q3, (hb.cell (p := ⟨w.heap.size + 1, 4, none⟩) hrl).trans q4, (hb.cell (p := ⟨w.heap.size + 1, 5, none⟩) hrl).trans q5, (hb.cell (p := ⟨w.heap.size + 1, 6, none⟩) hrl).trans q6, (hb.cell (p := ⟨w.heap.size + 1, 7, none⟩) hrl).trans q7, (hb.cell (p := ⟨w.heap.size + 1, 8, none⟩) hrl).trans q8, (hb.cell (p := ⟨b8, 0, none⟩) hb8).trans s0, (hb.cell (p := ⟨b8, 1, none⟩) hb8).trans s1, (hb.cell (p := ⟨b8, 2, none⟩) hb8).trans s2, (hb.cell (p := ⟨pb, off + i * 2 + 1, none⟩) hpb).trans g2⟩
        refine wp_region_noPanic ?_
        refine region_ob (S := fun w' => w'.cell? ⟨w.heap.size + 1, 0, none⟩ = some (.int .i64 r.frm) ∧ w'.cell? ⟨w.heap.size + 1, 1, none⟩ = some (.int .i64 r.to) ∧ w'.cell? ⟨w.heap.size + 1, 2, none⟩ = some (.int .i64 r.fin) ∧ w'.cell? ⟨w.heap.size + 1, 3, none⟩ = some (.slice sa sn sc) ∧ w'.cell? ⟨w.heap.size + 1, 4, none⟩ = some (.slice na nn nc) ∧ w'.cell? ⟨w.heap.size + 1, 5, none⟩ = some (.slice ga gn gc) ∧ w'.cell? ⟨w.heap.size + 1, 6, none⟩ = some (.slice za zn zc) ∧ w'.cell? ⟨w.heap.size + 1, 7, none⟩ = some (.slice ha hn hc) ∧ w'.cell? ⟨w.heap.size + 1, 8, none⟩ = some (.bool r.bare) ∧ w'.cell? ⟨b8, 0, none⟩ = some (.int .i64 x.e) ∧ w'.cell? ⟨b8, 1, none⟩ = some (.int .i64 x.n) ∧ w'.cell? ⟨b8, 2, none⟩ = some (.int .i64 y.out) ∧ w'.cell? ⟨pb, off + i * 2 + 1, none⟩ = some (.int .i64 y.pos)) (ob := fun t => decide (t < 11)) (by kernel_rfl) ?_
        refine tk 0 (.slice ao xs.length co) ?_ (hSall _ (Below.refl _ _).drew) ?_
        ·intro w' hSw
         (try dsimp only at hSw)
         go_simp
        (try simp only [zA, zC, Act.put, zD, zE, zF])
        refine tk 1 ((.agg #[.int .i64 r.frm, .int .i64 r.to, .int .i64 r.fin, .slice sa sn sc, .slice na nn nc, .slice ga gn gc, .slice za zn zc, .slice ha hn hc, .bool r.bare])) ?_ (hSall _ (Below.refl _ _).drew) ?_
        ·intro w' hSw
         (try dsimp only at hSw)
         go_simp
        (try simp only [zA, zB, zC, Act.put, zD, zE, zF])
        refine tk 2 ((.agg #[.int .i64 x.e, .int .i64 x.n, .int .i64 y.out])) ?_ (hSall _ (Below.refl _ _).drew) ?_
        ·intro w' hSw
         (try dsimp only at hSw)
         go_simp
        (try simp only [zA, zB, zC, Act.put, zD, zE, zF])
        refine tk 3 (.slice (some ⟨pb, off, none⟩) nw cw) ?_ (hSall _ (Below.refl _ _).drew) ?_
        ·intro w' hSw
         (try dsimp only at hSw)
         go_simp
        (try simp only [zA, zB, zC, Act.put, zD, zE, zF])
        refine tk 4 (.int .i64 i) ?_ (hSall _ (Below.refl _ _).drew) ?_
        ·intro w' hSw
         (try dsimp only at hSw)
         go_simp
        (try simp only [zA, zB, zC, Act.put, zD, zE, zF])
        refine tk 5 (.pointer (some ⟨pb, off + i * 2, none⟩)) ?_ (hSall _ (Below.refl _ _).drew) ?_
        ·intro w' hSw
         (try dsimp only at hSw)
         go_simp
        (try simp only [zA, zB, zC, Act.put, zD, zE, zF])
        refine tk 6 (.pointer (some ⟨pb, off + i * 2 + 1, none⟩)) ?_ (hSall _ (Below.refl _ _).drew) ?_
        ·intro w' hSw
         (try dsimp only at hSw)
         go_simp
        (try simp only [zA, zB, zC, Act.put, zD, zE, zF])
        refine tk 7 (.int .i64 y.pos) ?_ (hSall _ (Below.refl _ _).drew) ?_
        ·intro w' hSw
         (try dsimp only at hSw)
         go_simp
        (try simp only [zA, zB, zC, Act.put, zD, zE, zF])
        refine tk 8 (.int .i64 (reads p ⟨x.e, y.out⟩)) ?_ (hSall _ (Below.refl _ _).drew) ?_
        ·intro w' hSw
         (try dsimp only at hSw)
         go_simp
        (try simp only [zA, zB, zC, Act.put, zD, zE, zF])
        refine ob_step (i := 9) (by kernel_rfl) rfl (fun K hK => ?_)
        go_simp
        refine (with_l (HRd0.out.below (below_step Hv10.out (Below.refl w10.heap.size w10).drew Hv10.out.size)) (by omega) (by omega) ⟨x.e, x.n, y.out⟩ ⟨hx.1, hx.2, Hwy.out.1⟩ y.pos (1) (reads p ⟨x.e, y.out⟩) Hwy.out.2).mono ?_
        rintro en u1 ⟨rv2, rfl, hr2, hbl2, hbu⟩
        have hbx1 : Below w10.heap.size w10 u1 := (Below.refl w10.heap.size w10).drew.trans hbu
        have hzu := hbx1.size
        obtain ⟨sa6, sn6, sc6, na6, nn6, nc6, ga6, gn6, gc6, za6, zn6, zc6, ha6, hn6, hc6⟩ := rv2
        dsimp only [RV.val, addStep]
        refine hK _ _ (fun _ => (hSall _ (by with_reducible repeat (first | exact Below.refl _ _ | assumption | exact below_new _ _ | apply below_drewN | apply Below.drew | refine below_set (Nat.le_refl _) ?_ _ | (refine below_set ?_ ?_ _; omega) | refine Below.alloc ?_ (by first | omega | (simp; omega) | simp) _)))) ?_
        clear hK K
        (try simp only [zA, zB, zC, Act.put, zD, zE, zF])
        refine ob_step (i := 10) (by kernel_rfl) rfl (fun K hK => ?_)
        go_simp
        refine hK _ _ (fun _ => (hSall _ (by with_reducible repeat (first | exact Below.refl _ _ | assumption | exact below_new _ _ | apply below_drewN | apply Below.drew | refine below_set (Nat.le_refl _) ?_ _ | (refine below_set ?_ ?_ _; omega) | refine Below.alloc ?_ (by first | omega | (simp; omega) | simp) _)))) ?_
        clear hK K
        (try simp only [zA, zB, zC, Act.put, zD, zE, zF])
        refine ob_step (i := 11) (by kernel_rfl) rfl (fun K hK => ?_)
        have hLit := lit_road hr2 (base := w6.heap.size) (fun a ha k hk => by have h1 := hbl2 a ha k hk; have h2 := HB10.out.size; simp at h1; omega) (Nat.le_trans HB10.out.size hbx1.size)
        dsimp only [RV.cells, addStep] at hLit
        have hXu := (HX.out.below (below_step HBr10.out hbx1 HBr10.out.size)).below (below_new1 u1 (.cells #[.int .i64 r.frm, .int .i64 (reads p ⟨x.e, y.out⟩), .int .i64 (1), .slice sa6 sn6 sc6, .slice na6 nn6 nc6, .slice ga6 gn6 gc6, .slice za6 zn6 zc6, .slice ha6 hn6 hc6, .bool false] 38))
        refine step_app encRoad_len encRoad_one _ (by rfl) _ _ 29 (by rfl) w6.heap.size 38 (.agg #[.int .i64 0, .int .i64 0, .int .i64 0, .slice none 0 0, .slice none 0 0, .slice none 0 0, .slice none 0 0, .slice none 0 0, .bool false]) 152 Try.underlying29 info_road (by rfl) (by decide) (.slice ao xs.length co) xs.length xs (by rfl) hXu.own (some ⟨u1.heap.size, 0, none⟩) 1 1 [⟨⟨sa6, sn6, sc6, na6, nn6, nc6, ga6, gn6, gc6, za6, zn6, zc6, ha6, hn6, hc6⟩, addStep r ⟨x.e, x.n, y.out⟩ y.pos (1) (reads p ⟨x.e, y.out⟩)⟩] (by rfl) hLit.roads.1.row (by intro h; cases h) (by simp [maxLen]; omega) (by omega) (by have h1 := HB10.out.size; have h2 := hbx1.size; simp; omega) ?_
        intro v13 u3 ho3 hg3 _ hb3
        have hX3 := hXu.app (ys := [⟨⟨sa6, sn6, sc6, na6, nn6, nc6, ga6, gn6, gc6, za6, zn6, zc6, ha6, hn6, hc6⟩, addStep r ⟨x.e, x.n, y.out⟩ y.pos (1) (reads p ⟨x.e, y.out⟩)⟩]) (fun z hz => by
         simp at hz; subst hz
         refine ⟨hr2.below (below_new1 _ _), fun a ha k hk => ?_⟩
         have h1 := hbl2 a ha k hk
         have h2 := HB10.out.size
         simp at h1
         refine ⟨by omega, by simp; omega, fun hc => ?_⟩
         have h3 := ((HX.out.below HBr10.out).own.lt k hc).2
         omega) (by simp) ho3 hg3 hb3
        have hbx3 : Below w6.heap.size w10 u3 := ((hbx1.mono HB10.out.size).alloc (Nat.le_trans HB10.out.size hbx1.size) _).grown hg3 (by have h1 := HB10.out.size; have h2 := hbx1.size; simp; omega) (fun k hk => (HX.out.own.lt k hk).1)
        have hX3 := Lib.hid hX3
        clear ho3 hg3 hb3 hXu hLit
        refine hK _ _ (fun h => absurd h (by decide)) ?_
        clear hK K
        (try simp only [zA, zB, zC, Act.put, zD, zE, zF])
        refine ob_step (i := 12) (by kernel_rfl) rfl (fun K hK => ?_)
        go_simp
        refine hK _ _ (fun h => absurd h (by decide)) ?_
        clear hK K
        (try simp only [zA, zB, zC, Act.put, zD, zE, zF])
        refine ob_done (by kernel_rfl) (NoPanic.normal ?_) _
        clear hSall

        go_wp2_with fail
        go_roundg (gk - 1)
        case measure => have := Hk.out; omega
        case rel => exact ⟨i + 1, _, by have := Hk.out; omega, by go_num, hX3.out, by rw [List.map_append]; exact Hres.out, by simp; omega, HB10.out.trans hbx3⟩
       ·have d1 : decide (0 ≤ reads p ⟨x.e, y.out⟩) = false := by simpa using hr0
        have HNx := Lib.hid (refnext_l (w := w10) (a := x.e) (b := y.out) (HP0.out.below Hv10.out))
        cases hnx : nextOf p ⟨x.e, y.out⟩ with
        | none =>
         rw [hnx] at HNx
         dsimp only [Option.getD_none, Option.isSome_none, zeroPort] at HNx
         have Hres := Lib.hid (show xs.map (·.r) ++ [addStep r ⟨x.e, x.n, y.out⟩ y.pos 3 (-1)] ++ ((outs p x.e x.n).drop (i + 1)).flatMap (onG p f r x (met ++ [x.e])) = onR p (f + 1) r x met by
          rw [← hrel2.out, Hd.out, List.flatMap_cons, show onG p f r x (met ++ [x.e]) y = [addStep r ⟨x.e, x.n, y.out⟩ y.pos 3 (-1)] by unfold onG; rw [if_neg hr0, hnx]]; simp)
         clear hr0 hnx
         go_wp2_with fail
         refine HNx.out.mono ?_
         rintro en w11 ⟨rfl, hb11⟩
         go_wp2_with fail
         refine name_code fun w12 hw12 => ?_
         have Hw12 := Lib.hid (show Below w10.heap.size w10 w12 by rw [hw12]; exact hb11.alloc hb11.size _)
         obtain ⟨b12, hb12e⟩ : ∃ b12, b12 = w11.heap.size := ⟨_, rfl⟩
         have t0 : w12.cell? ⟨b12, 0, none⟩ = some (.int .i64 0) := by rw [hw12, hb12e]; go_simp
         have t1 : w12.cell? ⟨b12, 1, none⟩ = some (.int .i64 0) := by rw [hw12, hb12e]; go_simp
         have hb12 : b12 < w12.heap.size := by rw [hw12, hb12e]; simp
         rw [← hb12e]
         have Hv12 := Lib.hid (below_step Hv10.out Hw12.out Hv10.out.size)
         have HBr12 := Lib.hid (below_step HBr10.out Hw12.out HBr10.out.size)
         have HB12 := Lib.hid (below_step HB10.out Hw12.out HB10.out.size)
         have s0 := (Hw12.out.cell (p := ⟨b8, 0, none⟩) hb8).trans s0
         have s1 := (Hw12.out.cell (p := ⟨b8, 1, none⟩) hb8).trans s1
         have s2 := (Hw12.out.cell (p := ⟨b8, 2, none⟩) hb8).trans s2
         have hb8 : b8 < w12.heap.size := Nat.lt_of_lt_of_le hb8 Hw12.out.size
         clear hw12 hb12e hb11 HNx e0 e1 g1 g2 hpb hpl c0 c1 c2 c3 c4 c5 c6 c7 c8 hrl q0 q1 q2 q3 q4 q5 q6 q7 q8 hxl x0 x1
         obtain ⟨hpl, c0, c1, c2, c3, c4, c5, c6, c7, c8⟩ := HB0.out.below Hv12.out
         dsimp only at c0 c1 c2 c3
         obtain ⟨hrl, q0, q1, q2, q3, q4, q5, q6, q7, q8⟩ := HR0.out.below Hv12.out
         dsimp only at q0 q1 q2 q3 q4 q5 q6 q7 q8
         obtain ⟨hxl, x0, x1, _⟩ := HX0.out.below Hv12.out
         obtain ⟨pb2, off2, ea, hpb, g1, g2⟩ := ((Hrow.out.below HB.out).below HBr12.out).way Hy.out
         cases ea
         have hSall : ∀ w' : World, Below (w12).heap.size (w12) w' → (w'.cell? ⟨w.heap.size + 1, 0, none⟩ = some (.int .i64 r.frm) ∧ w'.cell? ⟨w.heap.size + 1, 1, none⟩ = some (.int .i64 r.to) ∧ w'.cell? ⟨w.heap.size + 1, 2, none⟩ = some (.int .i64 r.fin) ∧ w'.cell? ⟨w.heap.size + 1, 3, none⟩ = some (.slice sa sn sc) ∧ w'.cell? ⟨w.heap.size + 1, 4, none⟩ = some (.slice na nn nc) ∧ w'.cell? ⟨w.heap.size + 1, 5, none⟩ = some (.slice ga gn gc) ∧ w'.cell? ⟨w.heap.size + 1, 6, none⟩ = some (.slice za zn zc) ∧ w'.cell? ⟨w.heap.size + 1, 7, none⟩ = some (.slice ha hn hc) ∧ w'.cell? ⟨w.heap.size + 1, 8, none⟩ = some (.bool r.bare) ∧ w'.cell? ⟨b8, 0, none⟩ = some (.int .i64 x.e) ∧ w'.cell? ⟨b8, 1, none⟩ = some (.int .i64 x.n) ∧ w'.cell? ⟨b8, 2, none⟩ = some (.int .i64 y.out) ∧ w'.cell? ⟨pb, off + i * 2 + 1, none⟩ = some (.int .i64 y.pos)) := fun w' hb => ⟨(hb.cell (p := ⟨w.heap.size + 1, 0, none⟩) hrl).trans q0, (hb.cell (p := ⟨w.heap.size + 1, 1, none⟩) hrl).trans q1, (hb.cell (p := ⟨w.heap.size + 1, 2, none⟩) hrl).trans q2, (hb.cell (p := ⟨w.heap.size + 1, 3, none⟩) hrl).trans q3, (hb.cell (p := ⟨w.heap.size + 1, 4, none⟩) hrl).trans q4, (hb.cell (p := ⟨w.heap.size + 1, 5, none⟩) hrl).trans q5, (hb.cell (p := ⟨w.heap.size + 1, 6, none⟩) hrl).trans q6, (hb.cell (p := ⟨w.heap.size + 1, 7, none⟩) hrl).trans q7, (hb.cell (p := ⟨w.heap.size + 1, 8, none⟩) hrl).trans q8, (hb.cell (p := ⟨b8, 0, none⟩) hb8).trans s0, (hb.cell (p := ⟨b8, 1, none⟩) hb8).trans s1, (hb.cell (p := ⟨b8, 2, none⟩) hb8).trans s2, (hb.cell (p := ⟨pb, off + i * 2 + 1, none⟩) hpb).trans g2⟩
         refine wp_region_noPanic ?_
         refine region_ob (S := fun w' => w'.cell? ⟨w.heap.size + 1, 0, none⟩ = some (.int .i64 r.frm) ∧ w'.cell? ⟨w.heap.size + 1, 1, none⟩ = some (.int .i64 r.to) ∧ w'.cell? ⟨w.heap.size + 1, 2, none⟩ = some (.int .i64 r.fin) ∧ w'.cell? ⟨w.heap.size + 1, 3, none⟩ = some (.slice sa sn sc) ∧ w'.cell? ⟨w.heap.size + 1, 4, none⟩ = some (.slice na nn nc) ∧ w'.cell? ⟨w.heap.size + 1, 5, none⟩ = some (.slice ga gn gc) ∧ w'.cell? ⟨w.heap.size + 1, 6, none⟩ = some (.slice za zn zc) ∧ w'.cell? ⟨w.heap.size + 1, 7, none⟩ = some (.slice ha hn hc) ∧ w'.cell? ⟨w.heap.size + 1, 8, none⟩ = some (.bool r.bare) ∧ w'.cell? ⟨b8, 0, none⟩ = some (.int .i64 x.e) ∧ w'.cell? ⟨b8, 1, none⟩ = some (.int .i64 x.n) ∧ w'.cell? ⟨b8, 2, none⟩ = some (.int .i64 y.out) ∧ w'.cell? ⟨pb, off + i * 2 + 1, none⟩ = some (.int .i64 y.pos)) (ob := fun t => decide (t < 10)) (by kernel_rfl) ?_
         refine tk 0 (.slice ao xs.length co) ?_ (hSall _ (Below.refl _ _).drew) ?_
         ·intro w' hSw
          (try dsimp only at hSw)
          go_simp
         (try simp only [zA, zC, Act.put, zD, zE, zF])
         refine tk 1 ((.agg #[.int .i64 r.frm, .int .i64 r.to, .int .i64 r.fin, .slice sa sn sc, .slice na nn nc, .slice ga gn gc, .slice za zn zc, .slice ha hn hc, .bool r.bare])) ?_ (hSall _ (Below.refl _ _).drew) ?_
         ·intro w' hSw
          (try dsimp only at hSw)
          go_simp
         (try simp only [zA, zB, zC, Act.put, zD, zE, zF])
         refine tk 2 ((.agg #[.int .i64 x.e, .int .i64 x.n, .int .i64 y.out])) ?_ (hSall _ (Below.refl _ _).drew) ?_
         ·intro w' hSw
          (try dsimp only at hSw)
          go_simp
         (try simp only [zA, zB, zC, Act.put, zD, zE, zF])
         refine tk 3 (.slice (some ⟨pb, off, none⟩) nw cw) ?_ (hSall _ (Below.refl _ _).drew) ?_
         ·intro w' hSw
          (try dsimp only at hSw)
          go_simp
         (try simp only [zA, zB, zC, Act.put, zD, zE, zF])
         refine tk 4 (.int .i64 i) ?_ (hSall _ (Below.refl _ _).drew) ?_
         ·intro w' hSw
          (try dsimp only at hSw)
          go_simp
         (try simp only [zA, zB, zC, Act.put, zD, zE, zF])
         refine tk 5 (.pointer (some ⟨pb, off + i * 2, none⟩)) ?_ (hSall _ (Below.refl _ _).drew) ?_
         ·intro w' hSw
          (try dsimp only at hSw)
          go_simp
         (try simp only [zA, zB, zC, Act.put, zD, zE, zF])
         refine tk 6 (.pointer (some ⟨pb, off + i * 2 + 1, none⟩)) ?_ (hSall _ (Below.refl _ _).drew) ?_
         ·intro w' hSw
          (try dsimp only at hSw)
          go_simp
         (try simp only [zA, zB, zC, Act.put, zD, zE, zF])
         refine tk 7 (.int .i64 y.pos) ?_ (hSall _ (Below.refl _ _).drew) ?_
         ·intro w' hSw
          (try dsimp only at hSw)
          go_simp
         (try simp only [zA, zB, zC, Act.put, zD, zE, zF])
         refine ob_step (i := 8) (by kernel_rfl) rfl (fun K hK => ?_)
         go_simp
         refine (with_l (HRd0.out.below (below_step Hv12.out (Below.refl w12.heap.size w12).drew Hv12.out.size)) (by omega) (by omega) ⟨x.e, x.n, y.out⟩ ⟨hx.1, hx.2, Hwy.out.1⟩ y.pos (3) (-1) Hwy.out.2).mono ?_
         rintro en u1 ⟨rv2, rfl, hr2, hbl2, hbu⟩
         have hbx1 : Below w12.heap.size w12 u1 := (Below.refl w12.heap.size w12).drew.trans hbu
         have hzu := hbx1.size
         obtain ⟨sa6, sn6, sc6, na6, nn6, nc6, ga6, gn6, gc6, za6, zn6, zc6, ha6, hn6, hc6⟩ := rv2
         dsimp only [RV.val, addStep]
         refine hK _ _ (fun _ => (hSall _ (by with_reducible repeat (first | exact Below.refl _ _ | assumption | exact below_new _ _ | apply below_drewN | apply Below.drew | refine below_set (Nat.le_refl _) ?_ _ | (refine below_set ?_ ?_ _; omega) | refine Below.alloc ?_ (by first | omega | (simp; omega) | simp) _)))) ?_
         clear hK K
         (try simp only [zA, zB, zC, Act.put, zD, zE, zF])
         refine ob_step (i := 9) (by kernel_rfl) rfl (fun K hK => ?_)
         go_simp
         refine hK _ _ (fun _ => (hSall _ (by with_reducible repeat (first | exact Below.refl _ _ | assumption | exact below_new _ _ | apply below_drewN | apply Below.drew | refine below_set (Nat.le_refl _) ?_ _ | (refine below_set ?_ ?_ _; omega) | refine Below.alloc ?_ (by first | omega | (simp; omega) | simp) _)))) ?_
         clear hK K
         (try simp only [zA, zB, zC, Act.put, zD, zE, zF])
         refine ob_step (i := 10) (by kernel_rfl) rfl (fun K hK => ?_)
         have hLit := lit_road hr2 (base := w6.heap.size) (fun a ha k hk => by have h1 := hbl2 a ha k hk; have h2 := HB12.out.size; simp at h1; omega) (Nat.le_trans HB12.out.size hbx1.size)
         dsimp only [RV.cells, addStep] at hLit
         have hXu := (HX.out.below (below_step HBr12.out hbx1 HBr12.out.size)).below (below_new1 u1 (.cells #[.int .i64 r.frm, .int .i64 (-1), .int .i64 (3), .slice sa6 sn6 sc6, .slice na6 nn6 nc6, .slice ga6 gn6 gc6, .slice za6 zn6 zc6, .slice ha6 hn6 hc6, .bool false] 38))
         refine step_app encRoad_len encRoad_one _ (by rfl) _ _ 29 (by rfl) w6.heap.size 38 (.agg #[.int .i64 0, .int .i64 0, .int .i64 0, .slice none 0 0, .slice none 0 0, .slice none 0 0, .slice none 0 0, .slice none 0 0, .bool false]) 152 Try.underlying29 info_road (by rfl) (by decide) (.slice ao xs.length co) xs.length xs (by rfl) hXu.own (some ⟨u1.heap.size, 0, none⟩) 1 1 [⟨⟨sa6, sn6, sc6, na6, nn6, nc6, ga6, gn6, gc6, za6, zn6, zc6, ha6, hn6, hc6⟩, addStep r ⟨x.e, x.n, y.out⟩ y.pos (3) (-1)⟩] (by rfl) hLit.roads.1.row (by intro h; cases h) (by simp [maxLen]; omega) (by omega) (by have h1 := HB12.out.size; have h2 := hbx1.size; simp; omega) ?_
         intro v13 u3 ho3 hg3 _ hb3
         have hX3 := hXu.app (ys := [⟨⟨sa6, sn6, sc6, na6, nn6, nc6, ga6, gn6, gc6, za6, zn6, zc6, ha6, hn6, hc6⟩, addStep r ⟨x.e, x.n, y.out⟩ y.pos (3) (-1)⟩]) (fun z hz => by
          simp at hz; subst hz
          refine ⟨hr2.below (below_new1 _ _), fun a ha k hk => ?_⟩
          have h1 := hbl2 a ha k hk
          have h2 := HB12.out.size
          simp at h1
          refine ⟨by omega, by simp; omega, fun hc => ?_⟩
          have h3 := ((HX.out.below HBr12.out).own.lt k hc).2
          omega) (by simp) ho3 hg3 hb3
         have hbx3 : Below w6.heap.size w12 u3 := ((hbx1.mono HB12.out.size).alloc (Nat.le_trans HB12.out.size hbx1.size) _).grown hg3 (by have h1 := HB12.out.size; have h2 := hbx1.size; simp; omega) (fun k hk => (HX.out.own.lt k hk).1)
         have hX3 := Lib.hid hX3
         clear ho3 hg3 hb3 hXu hLit
         refine hK _ _ (fun h => absurd h (by decide)) ?_
         clear hK K
         (try simp only [zA, zB, zC, Act.put, zD, zE, zF])
         refine ob_step (i := 11) (by kernel_rfl) rfl (fun K hK => ?_)
         go_simp
         refine hK _ _ (fun h => absurd h (by decide)) ?_
         clear hK K
         (try simp only [zA, zB, zC, Act.put, zD, zE, zF])
         refine ob_done (by kernel_rfl) (NoPanic.normal ?_) _
         clear hSall

         go_wp2_with fail
         go_roundg (gk - 1)
         case measure => have := Hk.out; omega
         case rel => exact ⟨i + 1, _, by have := Hk.out; omega, by go_num, hX3.out, by rw [List.map_append]; exact Hres.out, by simp; omega, HB12.out.trans hbx3⟩
        | some z =>
         rw [hnx] at HNx
         dsimp only [Option.getD_some, Option.isSome_some] at HNx
         have hzw := next_wfC HP0.out.fit hnx
         have Hres := Lib.hid (show xs.map (·.r) ++ onR p f (addStep r ⟨x.e, x.n, y.out⟩ y.pos 0 (-1)) z (met ++ [x.e]) ++ ((outs p x.e x.n).drop (i + 1)).flatMap (onG p f r x (met ++ [x.e])) = onR p (f + 1) r x met by
          rw [← hrel2.out, Hd.out, List.flatMap_cons, show onG p f r x (met ++ [x.e]) y = onR p f (addStep r ⟨x.e, x.n, y.out⟩ y.pos 0 (-1)) z (met ++ [x.e]) by unfold onG; rw [if_neg hr0, hnx]]; simp)
         clear hr0 hnx
         go_wp2_with fail
         refine HNx.out.mono ?_
         rintro en w11 ⟨rfl, hb11⟩
         go_wp2_with fail
         refine name_code fun w12 hw12 => ?_
         have Hw12 := Lib.hid (show Below w10.heap.size w10 w12 by rw [hw12]; exact hb11.alloc hb11.size _)
         obtain ⟨b12, hb12e⟩ : ∃ b12, b12 = w11.heap.size := ⟨_, rfl⟩
         have t0 : w12.cell? ⟨b12, 0, none⟩ = some (.int .i64 z.e) := by rw [hw12, hb12e]; go_simp
         have t1 : w12.cell? ⟨b12, 1, none⟩ = some (.int .i64 z.n) := by rw [hw12, hb12e]; go_simp
         have hb12 : b12 < w12.heap.size := by rw [hw12, hb12e]; simp
         rw [← hb12e]
         have Hv12 := Lib.hid (below_step Hv10.out Hw12.out Hv10.out.size)
         have HBr12 := Lib.hid (below_step HBr10.out Hw12.out HBr10.out.size)
         have HB12 := Lib.hid (below_step HB10.out Hw12.out HB10.out.size)
         have s0 := (Hw12.out.cell (p := ⟨b8, 0, none⟩) hb8).trans s0
         have s1 := (Hw12.out.cell (p := ⟨b8, 1, none⟩) hb8).trans s1
         have s2 := (Hw12.out.cell (p := ⟨b8, 2, none⟩) hb8).trans s2
         have hb8 : b8 < w12.heap.size := Nat.lt_of_lt_of_le hb8 Hw12.out.size
         clear hw12 hb12e hb11 HNx e0 e1 g1 g2 hpb hpl c0 c1 c2 c3 c4 c5 c6 c7 c8 hrl q0 q1 q2 q3 q4 q5 q6 q7 q8 hxl x0 x1
         obtain ⟨hpl, c0, c1, c2, c3, c4, c5, c6, c7, c8⟩ := HB0.out.below Hv12.out
         dsimp only at c0 c1 c2 c3
         obtain ⟨hrl, q0, q1, q2, q3, q4, q5, q6, q7, q8⟩ := HR0.out.below Hv12.out
         dsimp only at q0 q1 q2 q3 q4 q5 q6 q7 q8
         obtain ⟨hxl, x0, x1, _⟩ := HX0.out.below Hv12.out
         obtain ⟨pb2, off2, ea, hpb, g1, g2⟩ := ((Hrow.out.below HB.out).below HBr12.out).way Hy.out
         cases ea
         have hSall : ∀ w' : World, Below (w12).heap.size (w12) w' → (w'.cell? ⟨w.heap.size, 0, none⟩ = some (.slice ae ne ce) ∧ w'.cell? ⟨w.heap.size, 1, none⟩ = some (.slice aj nj cj) ∧ w'.cell? ⟨w.heap.size, 2, none⟩ = some (.slice as_ ns cs) ∧ w'.cell? ⟨w.heap.size, 3, none⟩ = some (.slice al nl cl) ∧ w'.cell? ⟨w.heap.size, 4, none⟩ = some (.int .i64 p.top) ∧ w'.cell? ⟨w.heap.size, 5, none⟩ = some (.int .i64 p.brake) ∧ w'.cell? ⟨w.heap.size, 6, none⟩ = some (.int .i64 p.margin) ∧ w'.cell? ⟨w.heap.size, 7, none⟩ = some (.int .i64 p.throw) ∧ w'.cell? ⟨w.heap.size, 8, none⟩ = some (.bool p.hard) ∧ w'.cell? ⟨w.heap.size + 1, 0, none⟩ = some (.int .i64 r.frm) ∧ w'.cell? ⟨w.heap.size + 1, 1, none⟩ = some (.int .i64 r.to) ∧ w'.cell? ⟨w.heap.size + 1, 2, none⟩ = some (.int .i64 r.fin) ∧ w'.cell? ⟨w.heap.size + 1, 3, none⟩ = some (.slice sa sn sc) ∧ w'.cell? ⟨w.heap.size + 1, 4, none⟩ = some (.slice na nn nc) ∧ w'.cell? ⟨w.heap.size + 1, 5, none⟩ = some (.slice ga gn gc) ∧ w'.cell? ⟨w.heap.size + 1, 6, none⟩ = some (.slice za zn zc) ∧ w'.cell? ⟨w.heap.size + 1, 7, none⟩ = some (.slice ha hn hc) ∧ w'.cell? ⟨w.heap.size + 1, 8, none⟩ = some (.bool r.bare) ∧ w'.cell? ⟨b8, 0, none⟩ = some (.int .i64 x.e) ∧ w'.cell? ⟨b8, 1, none⟩ = some (.int .i64 x.n) ∧ w'.cell? ⟨b8, 2, none⟩ = some (.int .i64 y.out) ∧ w'.cell? ⟨pb, off + i * 2 + 1, none⟩ = some (.int .i64 y.pos) ∧ w'.cell? ⟨b12, 0, none⟩ = some (.int .i64 z.e) ∧ w'.cell? ⟨b12, 1, none⟩ = some (.int .i64 z.n)) := fun w' hb => ⟨(hb.cell (p := ⟨w.heap.size, 0, none⟩) hpl).trans c0, (hb.cell (p := ⟨w.heap.size, 1, none⟩) hpl).trans c1, (hb.cell (p := ⟨w.heap.size, 2, none⟩) hpl).trans c2, (hb.cell (p := ⟨w.heap.size, 3, none⟩) hpl).trans c3, (hb.cell (p := ⟨w.heap.size, 4, none⟩) hpl).trans c4, (hb.cell (p := ⟨w.heap.size, 5, none⟩) hpl).trans c5, (hb.cell (p := ⟨w.heap.size, 6, none⟩) hpl).trans c6, (hb.cell (p := ⟨w.heap.size, 7, none⟩) hpl).trans c7, (hb.cell (p := ⟨w.heap.size, 8, none⟩) hpl).trans c8, (hb.cell (p := ⟨w.heap.size + 1, 0, none⟩) hrl).trans q0, (hb.cell (p := ⟨w.heap.size + 1, 1, none⟩) hrl).trans q1, (hb.cell (p := ⟨w.heap.size + 1, 2, none⟩) hrl).trans q2, (hb.cell (p := ⟨w.heap.size + 1, 3, none⟩) hrl).trans q3, (hb.cell (p := ⟨w.heap.size + 1, 4, none⟩) hrl).trans q4, (hb.cell (p := ⟨w.heap.size + 1, 5, none⟩) hrl).trans q5, (hb.cell (p := ⟨w.heap.size + 1, 6, none⟩) hrl).trans q6, (hb.cell (p := ⟨w.heap.size + 1, 7, none⟩) hrl).trans q7, (hb.cell (p := ⟨w.heap.size + 1, 8, none⟩) hrl).trans q8, (hb.cell (p := ⟨b8, 0, none⟩) hb8).trans s0, (hb.cell (p := ⟨b8, 1, none⟩) hb8).trans s1, (hb.cell (p := ⟨b8, 2, none⟩) hb8).trans s2, (hb.cell (p := ⟨pb, off + i * 2 + 1, none⟩) hpb).trans g2, (hb.cell (p := ⟨b12, 0, none⟩) hb12).trans t0, (hb.cell (p := ⟨b12, 1, none⟩) hb12).trans t1⟩
         refine wp_region_noPanic ?_
         refine region_ob (S := fun w' => w'.cell? ⟨w.heap.size, 0, none⟩ = some (.slice ae ne ce) ∧ w'.cell? ⟨w.heap.size, 1, none⟩ = some (.slice aj nj cj) ∧ w'.cell? ⟨w.heap.size, 2, none⟩ = some (.slice as_ ns cs) ∧ w'.cell? ⟨w.heap.size, 3, none⟩ = some (.slice al nl cl) ∧ w'.cell? ⟨w.heap.size, 4, none⟩ = some (.int .i64 p.top) ∧ w'.cell? ⟨w.heap.size, 5, none⟩ = some (.int .i64 p.brake) ∧ w'.cell? ⟨w.heap.size, 6, none⟩ = some (.int .i64 p.margin) ∧ w'.cell? ⟨w.heap.size, 7, none⟩ = some (.int .i64 p.throw) ∧ w'.cell? ⟨w.heap.size, 8, none⟩ = some (.bool p.hard) ∧ w'.cell? ⟨w.heap.size + 1, 0, none⟩ = some (.int .i64 r.frm) ∧ w'.cell? ⟨w.heap.size + 1, 1, none⟩ = some (.int .i64 r.to) ∧ w'.cell? ⟨w.heap.size + 1, 2, none⟩ = some (.int .i64 r.fin) ∧ w'.cell? ⟨w.heap.size + 1, 3, none⟩ = some (.slice sa sn sc) ∧ w'.cell? ⟨w.heap.size + 1, 4, none⟩ = some (.slice na nn nc) ∧ w'.cell? ⟨w.heap.size + 1, 5, none⟩ = some (.slice ga gn gc) ∧ w'.cell? ⟨w.heap.size + 1, 6, none⟩ = some (.slice za zn zc) ∧ w'.cell? ⟨w.heap.size + 1, 7, none⟩ = some (.slice ha hn hc) ∧ w'.cell? ⟨w.heap.size + 1, 8, none⟩ = some (.bool r.bare) ∧ w'.cell? ⟨b8, 0, none⟩ = some (.int .i64 x.e) ∧ w'.cell? ⟨b8, 1, none⟩ = some (.int .i64 x.n) ∧ w'.cell? ⟨b8, 2, none⟩ = some (.int .i64 y.out) ∧ w'.cell? ⟨pb, off + i * 2 + 1, none⟩ = some (.int .i64 y.pos) ∧ w'.cell? ⟨b12, 0, none⟩ = some (.int .i64 z.e) ∧ w'.cell? ⟨b12, 1, none⟩ = some (.int .i64 z.n)) (ob := fun t => decide (t < 13)) (by kernel_rfl) ?_
         refine tk 0 (.slice ao xs.length co) ?_ (hSall _ (Below.refl _ _).drew) ?_
         ·intro w' hSw
          (try dsimp only at hSw)
          go_simp
         (try simp only [zA, zC, Act.put, zD, zE, zF])
         refine tk 1 (.agg #[.slice ae ne ce, .slice aj nj cj, .slice as_ ns cs, .slice al nl cl, .int .i64 p.top, .int .i64 p.brake, .int .i64 p.margin, .int .i64 p.throw, .bool p.hard]) ?_ (hSall _ (Below.refl _ _).drew) ?_
         ·intro w' hSw
          (try dsimp only at hSw)
          go_simp
         (try simp only [zA, zB, zC, Act.put, zD, zE, zF])
         refine tk 2 ((.agg #[.int .i64 r.frm, .int .i64 r.to, .int .i64 r.fin, .slice sa sn sc, .slice na nn nc, .slice ga gn gc, .slice za zn zc, .slice ha hn hc, .bool r.bare])) ?_ (hSall _ (Below.refl _ _).drew) ?_
         ·intro w' hSw
          (try dsimp only at hSw)
          go_simp
         (try simp only [zA, zB, zC, Act.put, zD, zE, zF])
         refine tk 3 ((.agg #[.int .i64 x.e, .int .i64 x.n, .int .i64 y.out])) ?_ (hSall _ (Below.refl _ _).drew) ?_
         ·intro w' hSw
          (try dsimp only at hSw)
          go_simp
         (try simp only [zA, zB, zC, Act.put, zD, zE, zF])
         refine tk 4 (.slice (some ⟨pb, off, none⟩) nw cw) ?_ (hSall _ (Below.refl _ _).drew) ?_
         ·intro w' hSw
          (try dsimp only at hSw)
          go_simp
         (try simp only [zA, zB, zC, Act.put, zD, zE, zF])
         refine tk 5 (.int .i64 i) ?_ (hSall _ (Below.refl _ _).drew) ?_
         ·intro w' hSw
          (try dsimp only at hSw)
          go_simp
         (try simp only [zA, zB, zC, Act.put, zD, zE, zF])
         refine tk 6 (.pointer (some ⟨pb, off + i * 2, none⟩)) ?_ (hSall _ (Below.refl _ _).drew) ?_
         ·intro w' hSw
          (try dsimp only at hSw)
          go_simp
         (try simp only [zA, zB, zC, Act.put, zD, zE, zF])
         refine tk 7 (.pointer (some ⟨pb, off + i * 2 + 1, none⟩)) ?_ (hSall _ (Below.refl _ _).drew) ?_
         ·intro w' hSw
          (try dsimp only at hSw)
          go_simp
         (try simp only [zA, zB, zC, Act.put, zD, zE, zF])
         refine tk 8 (.int .i64 y.pos) ?_ (hSall _ (Below.refl _ _).drew) ?_
         ·intro w' hSw
          (try dsimp only at hSw)
          go_simp
         (try simp only [zA, zB, zC, Act.put, zD, zE, zF])
         refine tk 10 (.agg #[.int .i64 z.e, .int .i64 z.n]) ?_ (hSall _ (Below.refl _ _).drew) ?_
         ·intro w' hSw
          (try dsimp only at hSw)
          go_simp
         (try simp only [zA, zB, zC, Act.put, zD, zE, zF])
         refine tk 11 (.slice a4 (nm + 1) cm4) ?_ (hSall _ (Below.refl _ _).drew) ?_
         ·intro w' hSw
          (try dsimp only at hSw)
          go_simp
         (try simp only [zA, zB, zC, Act.put, zD, zE, zF])
         refine ob_step (i := 9) (by kernel_rfl) rfl (fun K hK => ?_)
         go_simp
         refine (with_l (HRd0.out.below (below_step Hv12.out (Below.refl w12.heap.size w12).drew Hv12.out.size)) (by omega) (by omega) ⟨x.e, x.n, y.out⟩ ⟨hx.1, hx.2, Hwy.out.1⟩ y.pos (0) (-1) Hwy.out.2).mono ?_
         rintro en u1 ⟨rv2, rfl, hr2, hbl2, hbu⟩
         have hbx1 : Below w12.heap.size w12 u1 := (Below.refl w12.heap.size w12).drew.trans hbu
         have hzu := hbx1.size
         obtain ⟨sa6, sn6, sc6, na6, nn6, nc6, ga6, gn6, gc6, za6, zn6, zc6, ha6, hn6, hc6⟩ := rv2
         dsimp only [RV.val, addStep]
         refine hK _ _ (fun _ => (hSall _ (by with_reducible repeat (first | exact Below.refl _ _ | assumption | exact below_new _ _ | apply below_drewN | apply Below.drew | refine below_set (Nat.le_refl _) ?_ _ | (refine below_set ?_ ?_ _; omega) | refine Below.alloc ?_ (by first | omega | (simp; omega) | simp) _)))) ?_
         clear hK K
         (try simp only [zA, zB, zC, Act.put, zD, zE, zF])
         refine ob_step (i := 12) (by kernel_rfl) rfl (fun K hK => ?_)
         go_simp
         have HI := Lib.hid (Hih.out u1 ⟨ae, ne, ce, aj, nj, cj, as_, ns, cs, al, nl, cl, lv⟩ p (HP0.out.below (below_step Hv12.out hbx1 Hv12.out.size)) Hc.out ⟨sa6, sn6, sc6, na6, nn6, nc6, ga6, gn6, gc6, za6, zn6, zc6, ha6, hn6, hc6⟩ (addStep r ⟨x.e, x.n, y.out⟩ y.pos 0 (-1)) hr2 (by have := Hsf.out; simp [addStep]; omega) (by simp only [addStep, List.length_append]; split <;> simp <;> omega) z hzw a4 (nm + 1) cm4 (met ++ [x.e]) (Hmet6.out.below (below_step HB12.out hbx1 HB12.out.size)) Hmc.out (by simp [addStep]; omega))
         dsimp only [PV.val, RV.val, Port.val] at HI
         dsimp only [addStep] at HI
         refine HI.out.mono ?_
         rintro en u2 ⟨v14, ys, rfl, hys, hX14, hb14⟩
         have hys : ys.map (·.r) = onR p f (addStep r ⟨x.e, x.n, y.out⟩ y.pos 0 (-1)) z (met ++ [x.e]) := hys
         have hyl : ys.length ≤ 4096 := by
          have h1 := onR_length p f (addStep r ⟨x.e, x.n, y.out⟩ y.pos 0 (-1)) z (met ++ [x.e])
          rw [← hys, List.length_map] at h1
          exact Nat.le_trans h1 (Nat.le_trans (Nat.pow_le_pow_right (by omega) (show f ≤ 12 by omega)) (by decide))
         obtain ⟨a14, c14, rfl, _, hc14⟩ := own_slice hX14.own
         have hbx2 : Below w12.heap.size w12 u2 := below_step hbx1 hb14 hbx1.size
         clear HI
         refine hK _ _ (fun _ => (hSall _ (by with_reducible repeat (first | exact Below.refl _ _ | assumption | exact below_new _ _ | apply below_drewN | apply Below.drew | refine below_set (Nat.le_refl _) ?_ _ | (refine below_set ?_ ?_ _; omega) | refine Below.alloc ?_ (by first | omega | (simp; omega) | simp) _)))) ?_
         clear hK K
         (try simp only [zA, zB, zC, Act.put, zD, zE, zF])
         refine ob_step (i := 13) (by kernel_rfl) rfl (fun K hK => ?_)
         have hXu := HX.out.below (below_step HBr12.out hbx2 HBr12.out.size)
         refine step_app encRoad_len encRoad_one _ (by rfl) _ _ 29 (by rfl) w6.heap.size 38 (.agg #[.int .i64 0, .int .i64 0, .int .i64 0, .slice none 0 0, .slice none 0 0, .slice none 0 0, .slice none 0 0, .slice none 0 0, .bool false]) 152 Try.underlying29 info_road (by rfl) (by decide) (.slice ao xs.length co) xs.length xs (by rfl) hXu.own a14 ys.length c14 ys (by rfl) hX14.roads.1.row (fun h => (hc14 h).2) (by simp [maxLen]; omega) (by omega) (by have h1 := HB12.out.size; have h2 := hbx2.size; omega) ?_
         intro v13 u3 ho3 hg3 _ hb3
         have hX3 := hXu.app (ys := ys) (fun q hq => by
          refine ⟨hX14.each q hq, fun a ha k hk => ?_⟩
          have h1 := hX14.off q hq a ha k hk
          have h2 := HB12.out.size
          have h4 := hbx1.size
          refine ⟨by omega, h1.2.1, fun hc => ?_⟩
          have h3 := ((HX.out.below HBr12.out).own.lt k hc).2
          omega) (by simp) ho3 hg3 hb3
         have hbx3 : Below w6.heap.size w12 u3 := (hbx2.mono HB12.out.size).grown hg3 (by have h1 := HB12.out.size; have h2 := hbx2.size; omega) (fun k hk => (HX.out.own.lt k hk).1)
         have hX3 := Lib.hid hX3
         clear ho3 hg3 hb3 hXu
         refine hK _ _ (fun h => absurd h (by decide)) ?_
         clear hK K
         (try simp only [zA, zB, zC, Act.put, zD, zE, zF])
         refine ob_step (i := 14) (by kernel_rfl) rfl (fun K hK => ?_)
         go_simp
         refine hK _ _ (fun h => absurd h (by decide)) ?_
         clear hK K
         (try simp only [zA, zB, zC, Act.put, zD, zE, zF])
         refine ob_done (by kernel_rfl) (NoPanic.normal ?_) _
         clear hSall

         go_wp2_with fail
         go_roundg (gk - 1)
         case measure => have := Hk.out; omega
         case rel => exact ⟨i + 1, _, by have := Hk.out; omega, by go_num, hX3.out, by rw [List.map_append, hys]; exact Hres.out, by simp; omega, HB12.out.trans hbx3⟩
      ·go_wp2_with fail
       go_ret
       refine ⟨_, xs, rfl, ?_, HX.out.base hw6, below_step Hb0.out (below_step Hv6.out HB.out Hv6.out.size) Hb0.out.size⟩
       rw [← hrel2.out, drop_end Hrow.out.len (by omega)]; simp
   have st110 : ∀ (w' : World) (g1 : Nat) (v3 : Value), Below W1.heap.size W1 w' → w'.ownsRow W1.heap.size 3 1 v3 nm (met.flatMap encInt) → wpOb Try.prog .any OPS R (SX (w.heap.size + 1 + 1) x.e) obX 3 #[true, true, true, true, true, false, false, false] ((A.put (some 27) (.slice (some ⟨g1, 0, none⟩) 0 0)).put (some 29) v3) w' := by
    intro w' g1 v3 hb ho
    have hsb := hb.size
    refine ob_some (js := [5]) (by rw [hO]; kernel_rfl) (by simp) (fun i hi => ?_)
    simp only [List.mem_cons, List.not_mem_nil, or_false] at hi
    subst hi
    ·refine ⟨_, (by rw [hO]; rfl), fun K hK => ?_⟩
     refine step_build1C w' (by rfl) 36 3 _ (by rfl) ii (.int .i64 0) Try.underlying36 hii zi1 zi2 (.int .i64 x.e) (by simp [ev_putC, put_sizeC, hsz, e21]) (fillIC _) ?_
     have hb2 := hb.alloc hsb (.cells #[.int .i64 x.e] 3)
     refine hK _ _ (fun _ => hSall _ hb2) ?_
     exact st111 _ g1 w'.heap.size v3 hb2 (ho.alloc _) (heap_alloc_new _ _) (fun h => absurd (ho.lt _ h).2 (Nat.lt_irrefl _)) hsb
   have st101 : ∀ (w' : World) (g1 g5 : Nat), Below W1.heap.size W1 w' → w'.ownsRow W1.heap.size 3 1 (.slice (some ⟨g1, 0, none⟩) 0 0) 0 [] → w'.heap[g5]? = some (.cells #[.int .i64 x.e] 3) → g1 ≠ g5 → W1.heap.size ≤ g5 → wpOb Try.prog .any OPS R (SX (w.heap.size + 1 + 1) x.e) obX 3 #[true, true, false, true, true, true, false, false] ((A.put (some 27) (.slice (some ⟨g1, 0, none⟩) 0 0)).put (some 32) (.slice (some ⟨g5, 0, none⟩) 1 1)) w' := by
    intro w' g1 g5 hb hl hp ha hg
    have hsb := hb.size
    refine ob_some (js := [2]) (by rw [hO]; kernel_rfl) (by simp) (fun i hi => ?_)
    simp only [List.mem_cons, List.not_mem_nil, or_false] at hi
    subst hi
    ·refine ⟨_, (by rw [hO]; rfl), fun K hK => ?_⟩
     refine step_app (enc := encInt) (fun _ => rfl) encInt_oneC w' (by rfl) _ _ 36 (by rfl) W1.heap.size 3 (.int .i64 0) 8 Try.underlying36 info_intC (by rfl) (by decide) (.slice (some ⟨g1, 0, none⟩) 0 0) 0 [] (by simp [ev_putC, put_sizeC, hsz]) hl am nm cm met (by simp [ev_putC, put_sizeC, hsz, e19]) (hS.out.below hb) hsc.out (by simp [maxLen]; omega) (by omega) hsb ?_
     intro v3 w3 ho3 hg3 _ hbl
     have hb3 : Below W1.heap.size W1 w3 := hb.grown hg3 hsb (by intro k hk; exact (hl.lt k hk).1)
     refine hK _ _ (fun _ => hSall _ hb3) ?_
     have hn := st111 w3 g1 g5 v3 hb3 (by simpa using ho3) ((hg3.block g5 (Array.getElem?_eq_some_iff.1 hp).1 (by intro h; cases h; exact ha rfl)).trans hp) (own_elseC hbl (fun h => ha (by cases h; rfl)) hp) hg
     rw [put_swapC _ (show (29 : Nat) ≠ 32 from by decide)] at hn
     exact hn
   have st100 : ∀ (w' : World) (g1 : Nat), Below W1.heap.size W1 w' → w'.ownsRow W1.heap.size 3 1 (.slice (some ⟨g1, 0, none⟩) 0 0) 0 [] → wpOb Try.prog .any OPS R (SX (w.heap.size + 1 + 1) x.e) obX 4 #[true, true, false, true, true, false, false, false] (A.put (some 27) (.slice (some ⟨g1, 0, none⟩) 0 0)) w' := by
    intro w' g1 hb hl
    have hsb := hb.size
    refine ob_some (js := [2, 5]) (by rw [hO]; kernel_rfl) (by simp) (fun i hi => ?_)
    simp only [List.mem_cons, List.not_mem_nil, or_false] at hi
    rcases hi with rfl | rfl
    ·refine ⟨_, (by rw [hO]; rfl), fun K hK => ?_⟩
     refine step_app (enc := encInt) (fun _ => rfl) encInt_oneC w' (by rfl) _ _ 36 (by rfl) W1.heap.size 3 (.int .i64 0) 8 Try.underlying36 info_intC (by rfl) (by decide) (.slice (some ⟨g1, 0, none⟩) 0 0) 0 [] (by simp [ev_putC, hsz]) hl am nm cm met (by simp [ev_putC, hsz, e19]) (hS.out.below hb) hsc.out (by simp [maxLen]; omega) (by omega) hsb ?_
     intro v3 w3 ho3 hg3 _ hbl
     have hb3 : Below W1.heap.size W1 w3 := hb.grown hg3 hsb (by intro k hk; exact (hl.lt k hk).1)
     refine hK _ _ (fun _ => hSall _ hb3) ?_
     have hn := st110 w3 g1 v3 hb3 (by simpa using ho3)
     exact hn
    ·refine ⟨_, (by rw [hO]; rfl), fun K hK => ?_⟩
     refine step_build1C w' (by rfl) 36 3 _ (by rfl) ii (.int .i64 0) Try.underlying36 hii zi1 zi2 (.int .i64 x.e) (by simp [ev_putC, hsz, e21]) (fillIC _) ?_
     have hb2 := hb.alloc hsb (.cells #[.int .i64 x.e] 3)
     refine hK _ _ (fun _ => hSall _ hb2) ?_
     exact st101 _ g1 w'.heap.size hb2 (hl.alloc _) (heap_alloc_new _ _) (fun h => absurd (hl.lt g1 rfl).2 (by rw [h]; exact Nat.lt_irrefl _)) hsb
   have st001 : ∀ (w' : World) (g5 : Nat), Below W1.heap.size W1 w' → w'.heap[g5]? = some (.cells #[.int .i64 x.e] 3) → W1.heap.size ≤ g5 → wpOb Try.prog .any OPS R (SX (w.heap.size + 1 + 1) x.e) obX 4 #[false, true, false, true, true, true, false, false] (A.put (some 32) (.slice (some ⟨g5, 0, none⟩) 1 1)) w' := by
    intro w' g5 hb hp hg
    have hsb := hb.size
    refine ob_some (js := [0]) (by rw [hO]; kernel_rfl) (by simp) (fun i hi => ?_)
    simp only [List.mem_cons, List.not_mem_nil, or_false] at hi
    subst hi
    ·refine ⟨_, (by rw [hO]; rfl), fun K hK => ?_⟩
     refine step_build0 w' (by rfl) 36 3 (by rfl) ii (.int .i64 0) Try.underlying36 hii zi1 ?_
     have hb2 := hb.alloc hsb (.cells #[] 3)
     refine hK _ _ (fun _ => hSall _ hb2) ?_
     have hn := st101 _ w'.heap.size g5 hb2 (World.ownsRow_made w' #[] 0 hsb (by simp [maxLen]) (by simp)) (alloc_oldC hp _) (fun h => by rw [← h] at hp; exact absurd hp (by simp)) hg
     rw [put_swapC _ (show (27 : Nat) ≠ 32 from by decide)] at hn
     exact hn
   have st000 : ∀ (w' : World), Below W1.heap.size W1 w' → wpOb Try.prog .any OPS R (SX (w.heap.size + 1 + 1) x.e) obX 5 #[false, true, false, true, true, false, false, false] A w' := by
    intro w' hb
    have hsb := hb.size
    refine ob_some (js := [0, 5]) (by rw [hO]; kernel_rfl) (by simp) (fun i hi => ?_)
    simp only [List.mem_cons, List.not_mem_nil, or_false] at hi
    rcases hi with rfl | rfl
    ·refine ⟨_, (by rw [hO]; rfl), fun K hK => ?_⟩
     refine step_build0 w' (by rfl) 36 3 (by rfl) ii (.int .i64 0) Try.underlying36 hii zi1 ?_
     have hb2 := hb.alloc hsb (.cells #[] 3)
     refine hK _ _ (fun _ => hSall _ hb2) ?_
     have hn := st100 _ w'.heap.size hb2 (World.ownsRow_made w' #[] 0 hsb (by simp [maxLen]) (by simp))
     exact hn
    ·refine ⟨_, (by rw [hO]; rfl), fun K hK => ?_⟩
     refine step_build1C w' (by rfl) 36 3 _ (by rfl) ii (.int .i64 0) Try.underlying36 hii zi1 zi2 (.int .i64 x.e) (by simp [e21]) (fillIC _) ?_
     have hb2 := hb.alloc hsb (.cells #[.int .i64 x.e] 3)
     refine hK _ _ (fun _ => hSall _ hb2) ?_
     exact st001 _ w'.heap.size hb2 (heap_alloc_new _ _) hsb
   exact st000 _ (Below.refl _ _).drew
end Go.Proofs.Ytnkpiijljfjmkaa
