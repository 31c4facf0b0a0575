/- NetWays: for every input the law returns true. No condition. -/
import Derived.Test.YtlndfmflbdkpjaaNetPlit
set_option maxRecDepth 1000000
namespace Go.Proofs.Ytlndfmflbdkpjaa
open Go.ChangeShapes Go.WideShapes Go.ChangeAt Go.RowKit Go.Sort

set_option maxHeartbeats 4000000 in
theorem lawWays_any (w : World) (pv : PV) (p : Plan) (e0 i0 pos : Int) (h : PlanAt w pv p) :
    Calls Try.prog 10 #[pv.val p, .int .i64 e0, .int .i64 i0, .int .i64 pos] w fun en w' => en = .returned (.bool true) ∧ Below w.heap.size w w' := by
  obtain ⟨ae, ne, ce, aj, nj, cj, as_, ns, cs, al, nl, cl, lv⟩ := pv
  have hP := Lib.hid h
  have HBa := Lib.hid (pbox_new w ⟨ae, ne, ce, aj, nj, cj, as_, ns, cs, al, nl, cl, lv⟩ p)
  have Hba := Lib.hid (below_new w (.cells #[.slice ae ne ce, .slice aj nj cj, .slice as_ ns cs, .slice al nl cl, .int .i64 p.top, .int .i64 p.brake, .int .i64 p.margin, .int .i64 p.throw, .bool p.hard] 32))
  have K := Lib.hid (known4_any (w.alloc (.cells #[.slice ae ne ce, .slice aj nj cj, .slice as_ ns cs, .slice al nl cl, .int .i64 p.top, .int .i64 p.brake, .int .i64 p.margin, .int .i64 p.throw, .bool p.hard] 32)))
  have HF := Lib.hid (fun (u : World) (hb : Below w.heap.size w u) => finex_l (w := u) (hP.out.below hb))
  clear h
  dsimp only [PV.val]
  obtain ⟨_, c0, c1, c2, c3, c4, c5, c6, c7, c8⟩ := HBa.out
  dsimp only at c0 c1 c2 c3
  cases hf : fine p with
  | false =>
    rw [hf] at HF
    clear hf
    go_enter Try.func10, Try.ntmps10
    go_wp2_with fail
    refine (K.out).mono ?_
    rintro e w1 ⟨rfl, hbx⟩
    have HB1 := Lib.hid (HBa.out.below hbx)
    have Hb1 := Lib.hid (below_step Hba.out hbx Hba.out.size)
    clear hbx c0 c1 c2 c3 c4 c5 c6 c7 c8
    obtain ⟨_, c0, c1, c2, c3, c4, c5, c6, c7, c8⟩ := HB1.out
    dsimp only at c0 c1 c2 c3
    clear K
    go_wp2_with fail
    refine (HF.out w1 Hb1.out).mono ?_
    rintro e w2 ⟨rfl, hbx⟩
    have HB2 := Lib.hid (HB1.out.below hbx)
    have Hb2 := Lib.hid (below_step Hb1.out hbx Hb1.out.size)
    clear hbx c0 c1 c2 c3 c4 c5 c6 c7 c8
    obtain ⟨_, c0, c1, c2, c3, c4, c5, c6, c7, c8⟩ := HB2.out
    dsimp only at c0 c1 c2 c3
    go_wp2_with fail
    go_ret
    exact ⟨rfl, Hb2.out⟩
  | true =>
    rw [hf] at HF
    have HM := Lib.hid (fun (u : World) (hb : Below w.heap.size w u) => made_l (w := u) hf (hP.out.below hb))
    have Hok := Lib.hid (few_ok hP.out (fine_few hf).1)
    have Hc := Lib.hid (fine_few hf).2
    have G := Lib.hid (good_of (fine_few hf).2)
    clear hf
    go_enter Try.func10, Try.ntmps10
    go_wp2_with fail
    refine (K.out).mono ?_
    rintro e w1 ⟨rfl, hbx⟩
    have HB1 := Lib.hid (HBa.out.below hbx)
    have Hb1 := Lib.hid (below_step Hba.out hbx Hba.out.size)
    clear hbx c0 c1 c2 c3 c4 c5 c6 c7 c8
    obtain ⟨_, c0, c1, c2, c3, c4, c5, c6, c7, c8⟩ := HB1.out
    dsimp only at c0 c1 c2 c3
    clear K
    go_wp2_with fail
    refine (HF.out w1 Hb1.out).mono ?_
    rintro e w2 ⟨rfl, hbx⟩
    have HB2 := Lib.hid (HB1.out.below hbx)
    have Hb2 := Lib.hid (below_step Hb1.out hbx Hb1.out.size)
    clear hbx c0 c1 c2 c3 c4 c5 c6 c7 c8
    obtain ⟨_, c0, c1, c2, c3, c4, c5, c6, c7, c8⟩ := HB2.out
    dsimp only at c0 c1 c2 c3
    go_wp2_with fail
    refine (HM.out w2 Hb2.out).mono ?_
    rintro e w3 ⟨b, rfl, hbb, hn, hbx⟩
    have HB3 := Lib.hid (HB2.out.below hbx)
    have Hb3 := Lib.hid (below_step Hb2.out hbx Hb2.out.size)
    have HN3 := Lib.hid hn
    have hbb := Nat.le_trans Hb2.out.size hbb
    clear hbx hn HF HM c0 c1 c2 c3 c4 c5 c6 c7 c8
    obtain ⟨_, c0, c1, c2, c3, c4, c5, c6, c7, c8⟩ := HB3.out
    dsimp only at c0 c1 c2 c3
    go_wp2_with fail
    have H1 := Lib.hid (fun (u : World) (hb : Below w3.heap.size w3 u) => nouts_any u b p (HN3.out.below hb) e0 i0)
    have H2 := Lib.hid (fun (u : World) (hb : Below w3.heap.size w3 u) => refouts_l (w := u) (e := e0) (i := i0) (hP.out.below (below_step Hb3.out hb Hb3.out.size)))
    have hbl := HB3.out.lt
    have hSall : ∀ w' : World, Below (w3).heap.size (w3) w' → (w'.cell? ⟨w.heap.size, 0, none⟩ = some (.slice ae ne ce) ∧ w'.cell? ⟨w.heap.size, 1, none⟩ = some (.slice aj nj cj) ∧ w'.cell? ⟨w.heap.size, 2, none⟩ = some (.slice as_ ns cs) ∧ w'.cell? ⟨w.heap.size, 3, none⟩ = some (.slice al nl cl) ∧ w'.cell? ⟨w.heap.size, 4, none⟩ = some (.int .i64 p.top) ∧ w'.cell? ⟨w.heap.size, 5, none⟩ = some (.int .i64 p.brake) ∧ w'.cell? ⟨w.heap.size, 6, none⟩ = some (.int .i64 p.margin) ∧ w'.cell? ⟨w.heap.size, 7, none⟩ = some (.int .i64 p.throw) ∧ w'.cell? ⟨w.heap.size, 8, none⟩ = some (.bool p.hard)) := fun w' hb => ⟨(hb.cell (p := ⟨w.heap.size, 0, none⟩) hbl).trans c0, (hb.cell (p := ⟨w.heap.size, 1, none⟩) hbl).trans c1, (hb.cell (p := ⟨w.heap.size, 2, none⟩) hbl).trans c2, (hb.cell (p := ⟨w.heap.size, 3, none⟩) hbl).trans c3, (hb.cell (p := ⟨w.heap.size, 4, none⟩) hbl).trans c4, (hb.cell (p := ⟨w.heap.size, 5, none⟩) hbl).trans c5, (hb.cell (p := ⟨w.heap.size, 6, none⟩) hbl).trans c6, (hb.cell (p := ⟨w.heap.size, 7, none⟩) hbl).trans c7, (hb.cell (p := ⟨w.heap.size, 8, none⟩) hbl).trans c8⟩
    refine wp_region_noPanic ?_
    refine region_upto (S := fun w' => w'.cell? ⟨w.heap.size, 0, none⟩ = some (.slice ae ne ce) ∧ w'.cell? ⟨w.heap.size, 1, none⟩ = some (.slice aj nj cj) ∧ w'.cell? ⟨w.heap.size, 2, none⟩ = some (.slice as_ ns cs) ∧ w'.cell? ⟨w.heap.size, 3, none⟩ = some (.slice al nl cl) ∧ w'.cell? ⟨w.heap.size, 4, none⟩ = some (.int .i64 p.top) ∧ w'.cell? ⟨w.heap.size, 5, none⟩ = some (.int .i64 p.brake) ∧ w'.cell? ⟨w.heap.size, 6, none⟩ = some (.int .i64 p.margin) ∧ w'.cell? ⟨w.heap.size, 7, none⟩ = some (.int .i64 p.throw) ∧ w'.cell? ⟨w.heap.size, 8, none⟩ = some (.bool p.hard)) (n := 10) (by kernel_rfl) ?_
    refine upto_take (i := 0) (v := .pointer (some ⟨b, 0, none⟩)) rfl (by kernel_rfl) (by kernel_rfl) (by kernel_rfl) (by kernel_rfl) (fun _ _ _ h => h) (Or.inl ⟨by rfl, ?_⟩) (hSall _ (by repeat (first | with_reducible exact Below.refl _ _ | with_reducible assumption | with_reducible exact below_new _ _ | with_reducible apply below_drewN | with_reducible apply Below.drew | with_reducible refine below_set (Nat.le_refl _) ?_ _ | ((with_reducible refine below_set ?_ ?_ _); omega) | with_reducible refine Below.alloc ?_ (by first | omega | (simp; omega) | simp) _))) ?_
    · intro w' hSw
      (try dsimp only at hSw)
      go_simp
    (try simp only [List.getElem_toArray, List.getElem_cons_zero, Act.put, List.setIfInBounds_toArray, List.set_cons_zero, List.set_cons_succ])
    refine upto_take (i := 1) (v := .int .i64 e0) rfl (by kernel_rfl) (by kernel_rfl) (by kernel_rfl) (by kernel_rfl) (fun _ _ _ h => h) (Or.inl ⟨by rfl, ?_⟩) (hSall _ (by repeat (first | with_reducible exact Below.refl _ _ | with_reducible assumption | with_reducible exact below_new _ _ | with_reducible apply below_drewN | with_reducible apply Below.drew | with_reducible refine below_set (Nat.le_refl _) ?_ _ | ((with_reducible refine below_set ?_ ?_ _); omega) | with_reducible refine Below.alloc ?_ (by first | omega | (simp; omega) | simp) _))) ?_
    · intro w' hSw
      (try dsimp only at hSw)
      go_simp
    (try simp only [List.getElem_toArray, List.getElem_cons_succ, List.getElem_cons_zero, Act.put, List.setIfInBounds_toArray, List.set_cons_zero, List.set_cons_succ])
    refine upto_take (i := 2) (v := .int .i64 i0) rfl (by kernel_rfl) (by kernel_rfl) (by kernel_rfl) (by kernel_rfl) (fun _ _ _ h => h) (Or.inl ⟨by rfl, ?_⟩) (hSall _ (by repeat (first | with_reducible exact Below.refl _ _ | with_reducible assumption | with_reducible exact below_new _ _ | with_reducible apply below_drewN | with_reducible apply Below.drew | with_reducible refine below_set (Nat.le_refl _) ?_ _ | ((with_reducible refine below_set ?_ ?_ _); omega) | with_reducible refine Below.alloc ?_ (by first | omega | (simp; omega) | simp) _))) ?_
    · intro w' hSw
      (try dsimp only at hSw)
      go_simp
    (try simp only [List.getElem_toArray, List.getElem_cons_succ, List.getElem_cons_zero, Act.put, List.setIfInBounds_toArray, List.set_cons_zero, List.set_cons_succ])
    refine upto_take (i := 4) (v := .agg #[.slice ae ne ce, .slice aj nj cj, .slice as_ ns cs, .slice al nl cl, .int .i64 p.top, .int .i64 p.brake, .int .i64 p.margin, .int .i64 p.throw, .bool p.hard]) rfl (by kernel_rfl) (by kernel_rfl) (by kernel_rfl) (by kernel_rfl) (fun _ _ _ h => h) (Or.inl ⟨by rfl, ?_⟩) (hSall _ (by repeat (first | with_reducible exact Below.refl _ _ | with_reducible assumption | with_reducible exact below_new _ _ | with_reducible apply below_drewN | with_reducible apply Below.drew | with_reducible refine below_set (Nat.le_refl _) ?_ _ | ((with_reducible refine below_set ?_ ?_ _); omega) | with_reducible refine Below.alloc ?_ (by first | omega | (simp; omega) | simp) _))) ?_
    · intro w' hSw
      (try dsimp only at hSw)
      go_simp
    (try simp only [List.getElem_toArray, List.getElem_cons_succ, List.getElem_cons_zero, Act.put, List.setIfInBounds_toArray, List.set_cons_zero, List.set_cons_succ])
    refine upto_take (i := 5) (v := .int .i64 e0) rfl (by kernel_rfl) (by kernel_rfl) (by kernel_rfl) (by kernel_rfl) (fun _ _ _ h => h) (Or.inl ⟨by rfl, ?_⟩) (hSall _ (by repeat (first | with_reducible exact Below.refl _ _ | with_reducible assumption | with_reducible exact below_new _ _ | with_reducible apply below_drewN | with_reducible apply Below.drew | with_reducible refine below_set (Nat.le_refl _) ?_ _ | ((with_reducible refine below_set ?_ ?_ _); omega) | with_reducible refine Below.alloc ?_ (by first | omega | (simp; omega) | simp) _))) ?_
    · intro w' hSw
      (try dsimp only at hSw)
      go_simp
    (try simp only [List.getElem_toArray, List.getElem_cons_succ, List.getElem_cons_zero, Act.put, List.setIfInBounds_toArray, List.set_cons_zero, List.set_cons_succ])
    refine upto_take (i := 6) (v := .int .i64 i0) rfl (by kernel_rfl) (by kernel_rfl) (by kernel_rfl) (by kernel_rfl) (fun _ _ _ h => h) (Or.inl ⟨by rfl, ?_⟩) (hSall _ (by repeat (first | with_reducible exact Below.refl _ _ | with_reducible assumption | with_reducible exact below_new _ _ | with_reducible apply below_drewN | with_reducible apply Below.drew | with_reducible refine below_set (Nat.le_refl _) ?_ _ | ((with_reducible refine below_set ?_ ?_ _); omega) | with_reducible refine Below.alloc ?_ (by first | omega | (simp; omega) | simp) _))) ?_
    · intro w' hSw
      (try dsimp only at hSw)
      go_simp
    (try simp only [List.getElem_toArray, List.getElem_cons_succ, List.getElem_cons_zero, Act.put, List.setIfInBounds_toArray, List.set_cons_zero, List.set_cons_succ])
    refine upto_step (i := 3) (by kernel_rfl) rfl (fun K hK => ?_)
    go_simp
    refine (H1.out _ (Below.refl w3.heap.size w3).drew).mono ?_
    rintro en v1 ⟨a1, n1, cx1, rfl, hr1, hn1, hbx1⟩
    have hbz1 := hbx1
    have hbx1 : Below w3.heap.size w3 v1 := (Below.refl w3.heap.size w3).drew.trans hbx1
    refine hK _ _ (fun _ => (hSall _ (by repeat (first | with_reducible exact Below.refl _ _ | with_reducible assumption | with_reducible exact below_new _ _ | with_reducible apply below_drewN | with_reducible apply Below.drew | with_reducible refine below_set (Nat.le_refl _) ?_ _ | ((with_reducible refine below_set ?_ ?_ _); omega) | with_reducible refine Below.alloc ?_ (by first | omega | (simp; omega) | simp) _)))) ?_
    clear hK K
    (try simp only [List.getElem_toArray, List.getElem_cons_succ, List.getElem_cons_zero, Act.put, List.setIfInBounds_toArray, List.set_cons_zero, List.set_cons_succ])
    refine upto_step (i := 7) (by kernel_rfl) rfl (fun K hK => ?_)
    go_simp
    refine (H2.out _ hbx1).mono ?_
    rintro en v2 ⟨a2, n2, cx2, rfl, hr2, hn2, hbx2⟩
    have hbz2 := hbx2
    have hbx2 : Below w3.heap.size w3 v2 := hbx1.trans (hbx2.mono hbx1.size)
    refine hK _ _ (fun _ => (hSall _ (by repeat (first | with_reducible exact Below.refl _ _ | with_reducible assumption | with_reducible exact below_new _ _ | with_reducible apply below_drewN | with_reducible apply Below.drew | with_reducible refine below_set (Nat.le_refl _) ?_ _ | ((with_reducible refine below_set ?_ ?_ _); omega) | with_reducible refine Below.alloc ?_ (by first | omega | (simp; omega) | simp) _)))) ?_
    clear hK K
    (try simp only [List.getElem_toArray, List.getElem_cons_succ, List.getElem_cons_zero, Act.put, List.setIfInBounds_toArray, List.set_cons_zero, List.set_cons_succ])
    refine upto_step (i := 8) (by kernel_rfl) rfl (fun K hK => ?_)
    go_simp
    refine hK _ _ (fun _ => (hSall _ (by repeat (first | with_reducible exact Below.refl _ _ | with_reducible assumption | with_reducible exact below_new _ _ | with_reducible apply below_drewN | with_reducible apply Below.drew | with_reducible refine below_set (Nat.le_refl _) ?_ _ | ((with_reducible refine below_set ?_ ?_ _); omega) | with_reducible refine Below.alloc ?_ (by first | omega | (simp; omega) | simp) _)))) ?_
    clear hK K
    (try simp only [List.getElem_toArray, List.getElem_cons_succ, List.getElem_cons_zero, Act.put, List.setIfInBounds_toArray, List.set_cons_zero, List.set_cons_succ])
    refine upto_step (i := 9) (by kernel_rfl) rfl (fun K hK => ?_)
    go_simp
    refine hK _ _ (fun _ => (hSall _ (by repeat (first | with_reducible exact Below.refl _ _ | with_reducible assumption | with_reducible exact below_new _ _ | with_reducible apply below_drewN | with_reducible apply Below.drew | with_reducible refine below_set (Nat.le_refl _) ?_ _ | ((with_reducible refine below_set ?_ ?_ _); omega) | with_reducible refine Below.alloc ?_ (by first | omega | (simp; omega) | simp) _)))) ?_
    clear hK K
    (try simp only [List.getElem_toArray, List.getElem_cons_succ, List.getElem_cons_zero, Act.put, List.setIfInBounds_toArray, List.set_cons_zero, List.set_cons_succ])
    refine upto_done (by kernel_rfl) (NoPanic.normal ?_) _
    clear hSall
    have Ra := Lib.hid (hr1.below hbz2)
    have Rb := Lib.hid hr2
    have HBv := Lib.hid (HB3.out.below hbx2)
    have HNv := Lib.hid (HN3.out.below hbx2)
    have Hbv := Lib.hid (below_step Hb3.out hbx2 Hb3.out.size)
    have la := Lib.hid Ra.out.len
    have lb := Lib.hid Rb.out.len
    obtain rfl : n1 = n2 := by have h1 := la.out; have h2 := lb.out; omega
    clear hr1 hr2 hbx1 hbx2 hbz1 hbz2 c0 c1 c2 c3 c4 c5 c6 c7 c8
    go_wp2_with fail
    go_loopg [12] n1 (fun k i wr => ∃ j : Nat, j + k = n1 ∧ i = .int .i64 j ∧ Below v2.heap.size v2 wr)
    case atStart => exact ⟨0, by omega, rfl, Below.refl _ _⟩
    case round =>
      obtain ⟨j, hk, rfl, hb⟩ := hrel
      have Hk := Lib.hid hk; clear hk
      have Hbr := Lib.hid hb; clear hb
      by_cases hlt : j < n1
      · obtain ⟨x, hx⟩ := get_some la.out hlt
        obtain ⟨pb, off, rfl, hpb, g1, g2⟩ := Ra.out.way hx
        obtain ⟨pb2, off2, rfl, hpb2, g3, g4⟩ := Rb.out.way hx
        have g1 := (Hbr.out.cell (p := ⟨pb, off + j * 2, none⟩) hpb).trans g1
        have g2 := (Hbr.out.cell (p := ⟨pb, off + j * 2 + 1, none⟩) hpb).trans g2
        have g3 := (Hbr.out.cell (p := ⟨pb2, off2 + j * 2, none⟩) hpb2).trans g3
        have g4 := (Hbr.out.cell (p := ⟨pb2, off2 + j * 2 + 1, none⟩) hpb2).trans g4
        have qw := fun w' => (eqlI_way x.out x.pos x.out x.pos w').2
        clear hx
        go_wp2_with fail
        have g1q := fun d os => cell_regrown g1 d os
        have g2q := fun d os => cell_regrown g2 d os
        have g3q := fun d os => cell_regrown g3 d os
        have g4q := fun d os => cell_regrown g4 d os
        refine wp_region_quiet_below (by kernel_rfl) (by kernel_rfl) ?_
        repeat (quiet_step (fail))
        refine wpQuiet_nil ?_
        intro w9 hw'
        have hb9 : Below wr.heap.size wr w9 := by obtain ⟨⟨d, os⟩, rfl⟩ := hw'; exact below_regrown _ d os
        clear hw' g1q g2q g3q g4q 
        have Hb9 := Lib.hid (below_step Hbr.out hb9 Hbr.out.size)
        clear hb9 g1 g2 g3 g4
        go_wp2_with fail
        go_roundg (gk - 1)
        case measure => have := Hk.out; omega
        case rel => exact ⟨j + 1, by have := Hk.out; omega, by go_num, Hb9.out⟩
      · have HBr := Lib.hid (HBv.out.below Hbr.out)
        have HNr := Lib.hid (HNv.out.below Hbr.out)
        have Hbw := Lib.hid (below_step Hbv.out Hbr.out Hbv.out.size)
        obtain ⟨_, c0, c1, c2, c3, c4, c5, c6, c7, c8⟩ := HBr.out
        dsimp only at c0 c1 c2 c3
        go_wp2_with fail
        refine (nthrough_any _ b p HNr.out e0 i0 pos).mono ?_
        rintro en w4 ⟨rfl, hbx⟩
        have HB4 := Lib.hid (HBr.out.below hbx)
        have HN4 := Lib.hid (HNr.out.below hbx)
        have Hb4 := Lib.hid (below_step Hbw.out hbx Hbw.out.size)
        clear hbx c0 c1 c2 c3 c4 c5 c6 c7 c8
        obtain ⟨_, c0, c1, c2, c3, c4, c5, c6, c7, c8⟩ := HB4.out
        dsimp only at c0 c1 c2 c3
        go_wp2_with fail
        refine (refthrough_l (hP.out.below Hb4.out)).mono ?_
        rintro en w5 ⟨rfl, hbx⟩
        have HB5 := Lib.hid (HB4.out.below hbx)
        have HN5 := Lib.hid (HN4.out.below hbx)
        have Hb5 := Lib.hid (below_step Hb4.out hbx Hb4.out.size)
        clear hbx c0 c1 c2 c3 c4 c5 c6 c7 c8
        obtain ⟨_, c0, c1, c2, c3, c4, c5, c6, c7, c8⟩ := HB5.out
        dsimp only at c0 c1 c2 c3
        go_wp2_with fail
        refine (nfrom_any _ b p HN5.out e0 i0 pos).mono ?_
        rintro en w6 ⟨rfl, hbx⟩
        have HB6 := Lib.hid (HB5.out.below hbx)
        have HN6 := Lib.hid (HN5.out.below hbx)
        have Hb6 := Lib.hid (below_step Hb5.out hbx Hb5.out.size)
        clear hbx c0 c1 c2 c3 c4 c5 c6 c7 c8
        obtain ⟨_, c0, c1, c2, c3, c4, c5, c6, c7, c8⟩ := HB6.out
        dsimp only at c0 c1 c2 c3
        go_wp2_with fail
        refine (reffrom_l (hP.out.below Hb6.out)).mono ?_
        rintro en w7 ⟨rfl, hbx⟩
        have HB7 := Lib.hid (HB6.out.below hbx)
        have HN7 := Lib.hid (HN6.out.below hbx)
        have Hb7 := Lib.hid (below_step Hb6.out hbx Hb6.out.size)
        clear hbx c0 c1 c2 c3 c4 c5 c6 c7 c8
        obtain ⟨_, c0, c1, c2, c3, c4, c5, c6, c7, c8⟩ := HB7.out
        dsimp only at c0 c1 c2 c3
        go_wp2_with fail
        go_ret
        exact ⟨ret_bool (by simp), Hb7.out⟩
set_option maxRecDepth 100000 in
theorem netWays_lifted (os : Os) (started : os.Started) (H : Type) (enc : TypeId × Value → H) :
    ReturnsInHanded {} Try.checked os 10 .any (Rows.netWaysSpec.pre6 enc Try.prog Try.f10 Rows.netWaysRow.domain false) (Rows.netWaysSpec.post enc Try.prog Try.f10 false true false false) := by
  refine returnsInHanded_of_change (C := Try.checked) own started (by kernel_rfl) Try.func10
    (ChangeSpec.witness6 (enc := enc) (C := Try.checked) false ⟨#[], #[.agg #[.slice none 0 0, .slice none 0 0, .slice none 0 0, .slice none 0 0, .int .i64 0, .int .i64 0, .int .i64 0, .int .i64 0, .bool false], .int .i64 0, .int .i64 0, .int .i64 0], []⟩ 8 (by kernel_rfl) (by kernel_rfl) (by kernel_rfl) (by kernel_rfl)) ?_
  intro W base args ds gs before hval0 hW hcnd _
  have hval : ∀ (j : Nat) t v, Try.f10.params[j]? = some t → args[j]? = some v → Value.okWide Try.prog W .any base t v := hval0
  have hW' := hW
  obtain ⟨p, q, hA0, hV, rfl, hfz, hnd⟩ := hW
  have hA : DataW.TrodAll enc Try.prog W 0 (fun _ => true) true Try.f10.params.toList args.toList ds p := hA0
  rw [Try.params10] at hA hval
  obtain ⟨v0, vs0, d0, ds0, p0, q0, hargs, rfl, rfl, k0, r0⟩ := trodAll_cons hA
  obtain ⟨v1, vs1, d1, ds1, p1, q1, rfl, rfl, rfl, k1, r1⟩ := trodAll_cons r0
  obtain ⟨v2, vs2, d2, ds2, p2, q2, rfl, rfl, rfl, k2, r2⟩ := trodAll_cons r1
  obtain ⟨v3, vs3, d3, ds3, p3, q3, rfl, rfl, rfl, k3, r3⟩ := trodAll_cons r2
  obtain ⟨rfl, rfl, rfl⟩ := trodAll_nil r3
  obtain rfl : args = #[v0, v1, v2, v3] := by cases args; simp_all
  obtain ⟨rfl, rfl⟩ := trodVars_none hV
  have lt0 : ∀ x ∈ p0, x.block < W.heap.size := by obtain ⟨m, hm⟩ := k0; exact DataW.trod_lt m _ _ _ hm
  have hv0 := hval 0 32 v0 rfl rfl
  have lt1 : ∀ x ∈ p1, x.block < W.heap.size := by obtain ⟨m, hm⟩ := k1; exact DataW.trod_lt m _ _ _ hm
  have hv1 := hval 1 3 v1 rfl rfl
  have lt2 : ∀ x ∈ p2, x.block < W.heap.size := by obtain ⟨m, hm⟩ := k2; exact DataW.trod_lt m _ _ _ hm
  have hv2 := hval 2 3 v2 rfl rfl
  have lt3 : ∀ x ∈ p3, x.block < W.heap.size := by obtain ⟨m, hm⟩ := k3; exact DataW.trod_lt m _ _ _ hm
  have hv3 := hval 3 3 v3 rfl rfl
  have fin : Calls Try.prog 10 #[v0, v1, v2, v3] W (fun e W' => e = .returned (.bool true) ∧ Below W.heap.size W W') := by
    obtain ⟨pv, p, rfl, hp⟩ := open_plan hv0 k0
    obtain ⟨x0, rfl, a0⟩ := open_i hv1 k1
    obtain ⟨x1, rfl, b0⟩ := open_i hv2 k2
    obtain ⟨x2, rfl, d0⟩ := open_i hv3 k3
    exact lawWays_any W pv p x0 x1 x2 hp
  clear hA0 hval0
  refine fin.mono fun e W' ⟨he, bel⟩ => ?_
  subst he
  exact ⟨_, rfl, _, _, _, [], _, [], hW', trodAll_mk1 (shut_bool Try.underlying4 _), (trodAll_cons_mk (Below.trod laidOut (by kernel_rfl) (of_decide_eq_true (by kernel_rfl)) k0 bel lt0) (trodAll_cons_mk (Below.trod laidOut (by kernel_rfl) (of_decide_eq_true (by kernel_rfl)) k1 bel lt1) (trodAll_cons_mk (Below.trod laidOut (by kernel_rfl) (of_decide_eq_true (by kernel_rfl)) k2 bel lt2) (trodAll_cons_mk (Below.trod laidOut (by kernel_rfl) (of_decide_eq_true (by kernel_rfl)) k3 bel lt3) trodAll_mk0)))), rfl, bel.frame _, fun h => by cases h⟩

/-- THE STATEMENT -/
theorem netWays_holds : Rows.NetWaysSaid :=
  OpenClaim.holds_of_wide 10 Try.f10 rfl rfl rfl rfl rfl rfl rfl ⟨rfl, rfl, rfl, rfl, rfl⟩ rfl rfl rfl rfl rfl (by kernel_rfl) Try.func10 (by kernel_rfl)
    (of_decide_eq_true (by kernel_rfl)) (by unfold Func.isWrapper; first | (rw [if_pos (by decide +kernel)]; kernel_rfl) | (rw [if_neg (by decide +kernel)]; exact ⟨rfl, rfl⟩))
    (fun os started H enc _ => netWays_lifted os started H enc)
end Go.Proofs.Ytlndfmflbdkpjaa
