/- FieldPlays: for every input the law returns true. No condition. -/
import Derived.Test.YtlgekkffekagbaaFieldL3
set_option maxRecDepth 1000000
namespace Go.Proofs.Ytlgekkffekagbaa
open Go.ChangeShapes Go.WideShapes Go.ChangeAt Go.RowKit Go.Sort

set_option maxHeartbeats 3000000 in
theorem lawPlays_any (w : World) (pv : PV) (p : Plan) (a1 : Option Addr) (n1 cap1 : Nat) (xs1 : List ActV) (a2 : Option Addr) (n2 cap2 : Nat) (real : List Bool) (a3 : Option Addr) (n3 cap3 : Nat) (asp : List Int)
    (h : PlanAt w pv p) (h1 : Acts w a1 n1 xs1) (h2 : Bools w a2 n2 real) (h3 : Ints w a3 n3 asp) :
    Calls Try.prog 5 #[pv.val p, .slice a1 n1 cap1, .slice a2 n2 cap2, .slice a3 n3 cap3] w fun en w' => en = .returned (.bool true) ∧ Below w.heap.size w w' := by
  have HA1 := Lib.hid h1
  have HR2 := Lib.hid h2
  have HR3 := Lib.hid h3
  clear h1 h2 h3
  obtain ⟨ae, ne, ce, aj, nj, cj, as_, ns, cs, al, nl, cl, lv⟩ := pv
  have hP := Lib.hid h
  have HBa := Lib.hid (pbox_new w ⟨ae, ne, ce, aj, nj, cj, as_, ns, cs, al, nl, cl, lv⟩ p)
  have Hba := Lib.hid (below_new w (.cells #[.slice ae ne ce, .slice aj nj cj, .slice as_ ns cs, .slice al nl cl, .int .i64 p.top, .int .i64 p.brake, .int .i64 p.margin, .int .i64 p.throw, .bool p.hard] 27))
  have K := Lib.hid (known13_any (w.alloc (.cells #[.slice ae ne ce, .slice aj nj cj, .slice as_ ns cs, .slice al nl cl, .int .i64 p.top, .int .i64 p.brake, .int .i64 p.margin, .int .i64 p.throw, .bool p.hard] 27)))
  have HF := Lib.hid (fun (u : World) (hb : Below w.heap.size w u) => finex_l (w := u) (hP.out.below hb))
  clear h
  dsimp only [PV.val]
  obtain ⟨_, c0, c1, c2, c3, c4, c5, c6, c7, c8⟩ := HBa.out
  dsimp only at c0 c1 c2 c3
  cases hf : fine p with
  | false =>
    rw [hf] at HF
    clear hf
    go_enter Try.func5, Try.ntmps5
    go_wp2_with fail
    refine (K.out).mono ?_
    rintro e w1 ⟨rfl, hbx⟩
    have HB1 := Lib.hid (HBa.out.below hbx)
    have Hb1 := Lib.hid (below_step Hba.out hbx Hba.out.size)
    clear hbx c0 c1 c2 c3 c4 c5 c6 c7 c8
    obtain ⟨_, c0, c1, c2, c3, c4, c5, c6, c7, c8⟩ := HB1.out
    dsimp only at c0 c1 c2 c3
    clear K
    go_wp2_with fail
    refine (HF.out w1 Hb1.out).mono ?_
    rintro e w2 ⟨rfl, hbx⟩
    have HB2 := Lib.hid (HB1.out.below hbx)
    have Hb2 := Lib.hid (below_step Hb1.out hbx Hb1.out.size)
    clear hbx c0 c1 c2 c3 c4 c5 c6 c7 c8
    obtain ⟨_, c0, c1, c2, c3, c4, c5, c6, c7, c8⟩ := HB2.out
    dsimp only at c0 c1 c2 c3
    go_wp2_with fail
    go_ret
    exact ⟨rfl, Hb2.out⟩
  | true =>
    rw [hf] at HF
    have C1 := Lib.hid (fun (u : World) (hb : Below w.heap.size w u) => fewacts_any u a1 n1 cap1 xs1 (HA1.out.below hb))
    cases hq1 : fewActs n1 xs1 with
    | false =>
      rw [hq1] at C1
      go_enter Try.func5, Try.ntmps5
      go_wp2_with fail
      refine (K.out).mono ?_
      rintro e w1 ⟨rfl, hbx⟩
      have HB1 := Lib.hid (HBa.out.below hbx)
      have Hb1 := Lib.hid (below_step Hba.out hbx Hba.out.size)
      clear hbx c0 c1 c2 c3 c4 c5 c6 c7 c8
      obtain ⟨_, c0, c1, c2, c3, c4, c5, c6, c7, c8⟩ := HB1.out
      dsimp only at c0 c1 c2 c3
      clear K
      go_wp2_with fail
      refine (HF.out w1 Hb1.out).mono ?_
      rintro e w2 ⟨rfl, hbx⟩
      have HB2 := Lib.hid (HB1.out.below hbx)
      have Hb2 := Lib.hid (below_step Hb1.out hbx Hb1.out.size)
      clear hbx c0 c1 c2 c3 c4 c5 c6 c7 c8
      obtain ⟨_, c0, c1, c2, c3, c4, c5, c6, c7, c8⟩ := HB2.out
      dsimp only at c0 c1 c2 c3
      go_wp2_with fail
      refine (C1.out w2 Hb2.out).mono ?_
      rintro e w2_ ⟨rfl, rfl⟩
      go_wp2_with fail
      go_ret
      exact ⟨rfl, Hb2.out⟩
    | true =>
      rw [hq1] at C1
      by_cases hq2 : n2 ≤ 60
      rotate_left
      · have qq2 : decide ((60 : Int) < (n2 : Int)) = true := by simp; omega
        go_enter Try.func5, Try.ntmps5
        go_wp2_with fail
        refine (K.out).mono ?_
        rintro e w1 ⟨rfl, hbx⟩
        have HB1 := Lib.hid (HBa.out.below hbx)
        have Hb1 := Lib.hid (below_step Hba.out hbx Hba.out.size)
        clear hbx c0 c1 c2 c3 c4 c5 c6 c7 c8
        obtain ⟨_, c0, c1, c2, c3, c4, c5, c6, c7, c8⟩ := HB1.out
        dsimp only at c0 c1 c2 c3
        clear K
        go_wp2_with fail
        refine (HF.out w1 Hb1.out).mono ?_
        rintro e w2 ⟨rfl, hbx⟩
        have HB2 := Lib.hid (HB1.out.below hbx)
        have Hb2 := Lib.hid (below_step Hb1.out hbx Hb1.out.size)
        clear hbx c0 c1 c2 c3 c4 c5 c6 c7 c8
        obtain ⟨_, c0, c1, c2, c3, c4, c5, c6, c7, c8⟩ := HB2.out
        dsimp only at c0 c1 c2 c3
        go_wp2_with fail
        refine (C1.out w2 Hb2.out).mono ?_
        rintro e w2_ ⟨rfl, rfl⟩
        go_wp2_with fail
        go_ret
        exact ⟨rfl, Hb2.out⟩
      have qq2 : decide ((60 : Int) < (n2 : Int)) = false := by simp; omega
      by_cases hq3 : n3 ≤ 60
      rotate_left
      · have qq3 : decide ((60 : Int) < (n3 : Int)) = true := by simp; omega
        go_enter Try.func5, Try.ntmps5
        go_wp2_with fail
        refine (K.out).mono ?_
        rintro e w1 ⟨rfl, hbx⟩
        have HB1 := Lib.hid (HBa.out.below hbx)
        have Hb1 := Lib.hid (below_step Hba.out hbx Hba.out.size)
        clear hbx c0 c1 c2 c3 c4 c5 c6 c7 c8
        obtain ⟨_, c0, c1, c2, c3, c4, c5, c6, c7, c8⟩ := HB1.out
        dsimp only at c0 c1 c2 c3
        clear K
        go_wp2_with fail
        refine (HF.out w1 Hb1.out).mono ?_
        rintro e w2 ⟨rfl, hbx⟩
        have HB2 := Lib.hid (HB1.out.below hbx)
        have Hb2 := Lib.hid (below_step Hb1.out hbx Hb1.out.size)
        clear hbx c0 c1 c2 c3 c4 c5 c6 c7 c8
        obtain ⟨_, c0, c1, c2, c3, c4, c5, c6, c7, c8⟩ := HB2.out
        dsimp only at c0 c1 c2 c3
        go_wp2_with fail
        refine (C1.out w2 Hb2.out).mono ?_
        rintro e w2_ ⟨rfl, rfl⟩
        go_wp2_with fail
        go_ret
        exact ⟨rfl, Hb2.out⟩
      have qq3 : decide ((60 : Int) < (n3 : Int)) = false := by simp; omega
      have HM := Lib.hid (fun (u : World) (hb : Below w.heap.size w u) => made_any u ⟨ae, ne, ce, aj, nj, cj, as_, ns, cs, al, nl, cl, lv⟩ p hf (hP.out.below hb))
      have Hok := Lib.hid (few_ok hP.out (fine_few hf).1)
      have Hc := Lib.hid (fine_few hf).2
      clear hf
      dsimp only [PV.val] at HM
      go_enter Try.func5, Try.ntmps5
      go_wp2_with fail
      refine (K.out).mono ?_
      rintro e w1 ⟨rfl, hbx⟩
      have HB1 := Lib.hid (HBa.out.below hbx)
      have Hb1 := Lib.hid (below_step Hba.out hbx Hba.out.size)
      clear hbx c0 c1 c2 c3 c4 c5 c6 c7 c8
      obtain ⟨_, c0, c1, c2, c3, c4, c5, c6, c7, c8⟩ := HB1.out
      dsimp only at c0 c1 c2 c3
      clear K
      go_wp2_with fail
      refine (HF.out w1 Hb1.out).mono ?_
      rintro e w2 ⟨rfl, hbx⟩
      have HB2 := Lib.hid (HB1.out.below hbx)
      have Hb2 := Lib.hid (below_step Hb1.out hbx Hb1.out.size)
      clear hbx c0 c1 c2 c3 c4 c5 c6 c7 c8
      obtain ⟨_, c0, c1, c2, c3, c4, c5, c6, c7, c8⟩ := HB2.out
      dsimp only at c0 c1 c2 c3
      go_wp2_with fail
      refine (C1.out w2 Hb2.out).mono ?_
      rintro e w2_ ⟨rfl, rfl⟩
      go_wp2_with fail
      refine (HM.out w2 Hb2.out).mono ?_
      rintro e w3 ⟨nb, rfl, hbb, hn, hbx⟩
      have HB3 := Lib.hid (HB2.out.below hbx)
      have Hb3 := Lib.hid (below_step Hb2.out hbx Hb2.out.size)
      have HN3 := Lib.hid hn
      have hbb := Nat.le_trans Hb2.out.size hbb
      clear hbx hn HF HM c0 c1 c2 c3 c4 c5 c6 c7 c8
      obtain ⟨_, c0, c1, c2, c3, c4, c5, c6, c7, c8⟩ := HB3.out
      dsimp only at c0 c1 c2 c3
      have HK3 := Lib.hid (NetK.start HN3.out (hP.out.below Hb3.out))
      go_wp2_with fail
      have hn1 : n1 ≤ 60 := fewActs_le hq1
      clear hq1
      have hne : p.elems.length = ne := hP.out.e.len
      have hns : p.sigs.length = ns := hP.out.s.len
      have hel := elems_le Hc.out
      have hbl : w.heap.size < w3.heap.size := by have := Hba.out.size; have := HB3.out.lt; omega
      have hSall : ∀ w' : World, Below (w3).heap.size (w3) w' → (w'.cell? ⟨w.heap.size, 0, none⟩ = some (.slice ae ne ce) ∧ w'.cell? ⟨w.heap.size, 1, none⟩ = some (.slice aj nj cj) ∧ w'.cell? ⟨w.heap.size, 2, none⟩ = some (.slice as_ ns cs) ∧ w'.cell? ⟨w.heap.size, 3, none⟩ = some (.slice al nl cl) ∧ w'.cell? ⟨w.heap.size, 4, none⟩ = some (.int .i64 p.top) ∧ w'.cell? ⟨w.heap.size, 5, none⟩ = some (.int .i64 p.brake) ∧ w'.cell? ⟨w.heap.size, 6, none⟩ = some (.int .i64 p.margin) ∧ w'.cell? ⟨w.heap.size, 7, none⟩ = some (.int .i64 p.throw) ∧ w'.cell? ⟨w.heap.size, 8, none⟩ = some (.bool p.hard)) := fun w' hb => ⟨(hb.cell (p := ⟨w.heap.size, 0, none⟩) hbl).trans c0, (hb.cell (p := ⟨w.heap.size, 1, none⟩) hbl).trans c1, (hb.cell (p := ⟨w.heap.size, 2, none⟩) hbl).trans c2, (hb.cell (p := ⟨w.heap.size, 3, none⟩) hbl).trans c3, (hb.cell (p := ⟨w.heap.size, 4, none⟩) hbl).trans c4, (hb.cell (p := ⟨w.heap.size, 5, none⟩) hbl).trans c5, (hb.cell (p := ⟨w.heap.size, 6, none⟩) hbl).trans c6, (hb.cell (p := ⟨w.heap.size, 7, none⟩) hbl).trans c7, (hb.cell (p := ⟨w.heap.size, 8, none⟩) hbl).trans c8⟩
      refine wp_region_noPanic ?_
      refine region_upto (S := fun w' => w'.cell? ⟨w.heap.size, 0, none⟩ = some (.slice ae ne ce) ∧ w'.cell? ⟨w.heap.size, 1, none⟩ = some (.slice aj nj cj) ∧ w'.cell? ⟨w.heap.size, 2, none⟩ = some (.slice as_ ns cs) ∧ w'.cell? ⟨w.heap.size, 3, none⟩ = some (.slice al nl cl) ∧ w'.cell? ⟨w.heap.size, 4, none⟩ = some (.int .i64 p.top) ∧ w'.cell? ⟨w.heap.size, 5, none⟩ = some (.int .i64 p.brake) ∧ w'.cell? ⟨w.heap.size, 6, none⟩ = some (.int .i64 p.margin) ∧ w'.cell? ⟨w.heap.size, 7, none⟩ = some (.int .i64 p.throw) ∧ w'.cell? ⟨w.heap.size, 8, none⟩ = some (.bool p.hard)) (n := 6) (by kernel_rfl) ?_
      refine upto_take (i := 0) (v := .pointer (some ⟨nb, 0, none⟩)) rfl (by kernel_rfl) (by kernel_rfl) (by kernel_rfl) (by kernel_rfl) (fun _ _ _ h => h) (Or.inl ⟨by rfl, ?_⟩) (hSall _ (by repeat (first | with_reducible exact Below.refl _ _ | with_reducible assumption | with_reducible exact below_new _ _ | with_reducible apply below_drewN | with_reducible apply Below.drew | with_reducible refine below_set (Nat.le_refl _) ?_ _ | ((with_reducible refine below_set ?_ ?_ _); omega) | with_reducible refine Below.alloc ?_ (by first | omega | (simp; omega) | simp) _))) ?_
      · intro w' hSw
        (try dsimp only at hSw)
        go_simp
      (try simp only [List.getElem_toArray, List.getElem_cons_zero, Act.put, List.setIfInBounds_toArray, List.set_cons_zero, List.set_cons_succ])
      refine upto_take (i := 2) (v := .agg #[.slice ae ne ce, .slice aj nj cj, .slice as_ ns cs, .slice al nl cl, .int .i64 p.top, .int .i64 p.brake, .int .i64 p.margin, .int .i64 p.throw, .bool p.hard]) rfl (by kernel_rfl) (by kernel_rfl) (by kernel_rfl) (by kernel_rfl) (fun _ _ _ h => h) (Or.inl ⟨by rfl, ?_⟩) (hSall _ (by repeat (first | with_reducible exact Below.refl _ _ | with_reducible assumption | with_reducible exact below_new _ _ | with_reducible apply below_drewN | with_reducible apply Below.drew | with_reducible refine below_set (Nat.le_refl _) ?_ _ | ((with_reducible refine below_set ?_ ?_ _); omega) | with_reducible refine Below.alloc ?_ (by first | omega | (simp; omega) | simp) _))) ?_
      · intro w' hSw
        (try dsimp only at hSw)
        go_simp
      (try simp only [List.getElem_toArray, List.getElem_cons_succ, List.getElem_cons_zero, Act.put, List.setIfInBounds_toArray, List.set_cons_zero, List.set_cons_succ])
      refine upto_step (i := 1) (by kernel_rfl) rfl (fun K hK => ?_)
      go_simp
      refine (newf_any _ nb p (HN3.out.below (Below.refl w3.heap.size w3).drew)).mono ?_
      rintro en w4 ⟨fb, rfl, hfb, hff, hb4⟩
      have hbx1 : Below w3.heap.size w3 w4 := (Below.refl w3.heap.size w3).drew.trans hb4
      refine hK _ _ (fun _ => (hSall _ (by repeat (first | with_reducible exact Below.refl _ _ | with_reducible assumption | with_reducible exact below_new _ _ | with_reducible apply below_drewN | with_reducible apply Below.drew | with_reducible refine below_set (Nat.le_refl _) ?_ _ | ((with_reducible refine below_set ?_ ?_ _); omega) | with_reducible refine Below.alloc ?_ (by first | omega | (simp; omega) | simp) _)))) ?_
      clear hK K
      (try simp only [List.getElem_toArray, List.getElem_cons_succ, List.getElem_cons_zero, Act.put, List.setIfInBounds_toArray, List.set_cons_zero, List.set_cons_succ])
      refine upto_step (i := 3) (by kernel_rfl) rfl (fun K hK => ?_)
      go_simp
      refine (newfield_any w4 ⟨ae, ne, ce, aj, nj, cj, as_, ns, cs, al, nl, cl, lv⟩ p (hP.out.below (below_step Hb3.out hbx1 Hb3.out.size)) Hc.out).mono ?_
      rintro en w5 ⟨R, rfl, hrr, hb5⟩
      have hbx2 : Below w3.heap.size w3 w5 := below_step hbx1 hb5 hbx1.size
      refine hK _ _ (fun _ => (hSall _ (by repeat (first | with_reducible exact Below.refl _ _ | with_reducible assumption | with_reducible exact below_new _ _ | with_reducible apply below_drewN | with_reducible apply Below.drew | with_reducible refine below_set (Nat.le_refl _) ?_ _ | ((with_reducible refine below_set ?_ ?_ _); omega) | with_reducible refine Below.alloc ?_ (by first | omega | (simp; omega) | simp) _)))) ?_
      clear hK K
      (try simp only [List.getElem_toArray, List.getElem_cons_succ, List.getElem_cons_zero, Act.put, List.setIfInBounds_toArray, List.set_cons_zero, List.set_cons_succ])
      refine upto_step (i := 4) (by kernel_rfl) rfl (fun K hK => ?_)
      go_simp
      refine hK _ _ (fun _ => (hSall _ (by repeat (first | with_reducible exact Below.refl _ _ | with_reducible assumption | with_reducible exact below_new _ _ | with_reducible apply below_drewN | with_reducible apply Below.drew | with_reducible refine below_set (Nat.le_refl _) ?_ _ | ((with_reducible refine below_set ?_ ?_ _); omega) | with_reducible refine Below.alloc ?_ (by first | omega | (simp; omega) | simp) _)))) ?_
      clear hK K
      (try simp only [List.getElem_toArray, List.getElem_cons_succ, List.getElem_cons_zero, Act.put, List.setIfInBounds_toArray, List.set_cons_zero, List.set_cons_succ])
      refine upto_step (i := 5) (by kernel_rfl) rfl (fun K hK => ?_)
      go_simp
      refine hK _ _ (fun _ => (hSall _ (by repeat (first | with_reducible exact Below.refl _ _ | with_reducible assumption | with_reducible exact below_new _ _ | with_reducible apply below_drewN | with_reducible apply Below.drew | with_reducible refine below_set (Nat.le_refl _) ?_ _ | ((with_reducible refine below_set ?_ ?_ _); omega) | with_reducible refine Below.alloc ?_ (by first | omega | (simp; omega) | simp) _)))) ?_
      clear hK K
      (try simp only [List.getElem_toArray, List.getElem_cons_succ, List.getElem_cons_zero, Act.put, List.setIfInBounds_toArray, List.set_cons_zero, List.set_cons_succ])
      refine upto_done (by kernel_rfl) (NoPanic.normal ?_) _
      clear hSall
      have HPr := Lib.hid (show Pair w3.heap.size w5 fb nb R w4.heap.size w5.heap.size ⟨ae, ne, ce, aj, nj, cj, as_, ns, cs, al, nl, cl, lv⟩ p (newFld p) from ⟨HK3.out.calm hbx2, hff.below hb5, by rw [← ref_new Hc.out]; exact hrr, hfb, hbx1.size, .inl hff.box.lt⟩)
      have Hx5 := Lib.hid hbx2
      have h45 := hb5.size
      clear hbx1 hbx2 hff hrr hb4 hb5 hfb c0 c1 c2 c3 c4 c5 c6 c7 c8
      go_wp2_with fail
      have HBX := Lib.hid (show ∀ u, Below w3.heap.size w3 u → u.cell? ⟨w.heap.size, 0, none⟩ = some (.slice ae ne ce) from fun u hu => (HB3.out.below hu).c0)
      go_loopg [10, 12] n1 (fun k fv i wr => ∃ (j fb' : Nat) (f' : Fld), j + k = n1 ∧ fv = .pointer (some ⟨fb', 0, none⟩) ∧ i = .int .i64 j ∧ Hid (Pair w3.heap.size wr fb' nb R w4.heap.size w5.heap.size ⟨ae, ne, ce, aj, nj, cj, as_, ns, cs, al, nl, cl, lv⟩ p f') ∧ Hid (Below w3.heap.size w3 wr) ∧ w5.heap.size ≤ wr.heap.size)
      case atStart => exact ⟨0, fb, _, by omega, rfl, rfl, HPr.out, Hx5.out, Nat.le_refl _⟩
      case round =>
        obtain ⟨j, fb', f', hk, rfl, rfl, hp', hbx, h5w⟩ := hrel
        have Hk := Lib.hid hk; clear hk
        have HA := Lib.hid (show ∀ u, Below w3.heap.size wr u → Acts u a1 n1 xs1 from fun u hu => (HA1.out.below Hb3.out).below (hbx.out.trans hu))
        obtain ⟨wo, rfl⟩ : ∃ wo : World, wo = wr := ⟨_, rfl⟩
        by_cases hlt : j < n1
        · obtain ⟨x, hx⟩ := get_some (HA.out wo (Below.refl _ _)).row.len hlt
          obtain ⟨g, off, ha, hg, g0, g1, g2, g3⟩ := (HA.out wo (Below.refl _ _)).row.act hx
          have Hd := Lib.hid (do_any w3.heap.size wo fb' nb R w4.heap.size w5.heap.size ⟨ae, ne, ce, aj, nj, cj, as_, ns, cs, al, nl, cl, lv⟩ p f' hp'.out x (fun u hu => (HA.out u hu).ints x (List.mem_of_getElem? hx)))
          dsimp only [ActV.val] at Hd
          subst ha
          clear hx HA
          go_wp2_with fail
          refine Hd.out.mono ?_
          rintro en w6 ⟨b1, rfl, hbn, hp6, hu6⟩
          have hb6 : Below w3.heap.size wo w6 := mine_below hu6 hp'.out.mb hp'.out.ml (Nat.le_trans Hx5.out.size h5w)
          obtain ⟨f1, hf1⟩ : ∃ f1, actF p x f' = f1 := ⟨_, rfl⟩
          rw [hf1] at hp6
          have H6 := Lib.hid hp6
          have HB6 := Lib.hid (hbx.out.trans hb6)
          have hs6 := hb6.size
          clear hp6 hu6 hb6 hbn hf1 Hd g0 g1 g2 g3
          have k9 : w6.cell? ⟨R.b, 9, none⟩ = some (.slice (some ⟨R.g1, 0, none⟩) ne R.c1) := by have := H6.out.ref.k9; rw [refOf_len, hne] at this; exact this
          have hrb : R.b < w6.heap.size := H6.out.ref.lt R.b (by simp [RB.blocks])
          go_wp2_with fail
          have hSall : ∀ w' : World, Below (w6).heap.size (w6) w' → (w'.cell? ⟨R.b, 9, none⟩ = some (.slice (some ⟨R.g1, 0, none⟩) ne R.c1)) := fun w' hb => (hb.cell (p := ⟨R.b, 9, none⟩) hrb).trans k9
          refine wp_region_noPanic ?_
          refine region_upto (S := fun w' => w'.cell? ⟨R.b, 9, none⟩ = some (.slice (some ⟨R.g1, 0, none⟩) ne R.c1)) (n := 20) (by kernel_rfl) ?_
          refine upto_take (i := 0) (v := .pointer (some ⟨b1, 0, none⟩)) rfl (by kernel_rfl) (by kernel_rfl) (by kernel_rfl) (by kernel_rfl) (fun _ _ _ h => h) (Or.inl ⟨by rfl, ?_⟩) (hSall _ (by repeat (first | with_reducible exact Below.refl _ _ | with_reducible assumption | with_reducible exact below_new _ _ | with_reducible apply below_drewN | with_reducible apply Below.drew | with_reducible refine below_set (Nat.le_refl _) ?_ _ | ((with_reducible refine below_set ?_ ?_ _); omega) | with_reducible refine Below.alloc ?_ (by first | omega | (simp; omega) | simp) _))) ?_
          · intro w' hSw
            (try dsimp only at hSw)
            go_simp
          (try simp only [List.getElem_toArray, List.getElem_cons_zero, Act.put, List.setIfInBounds_toArray, List.set_cons_zero, List.set_cons_succ])
          refine upto_take (i := 1) (v := .bool false) rfl (by kernel_rfl) (by kernel_rfl) (by kernel_rfl) (by kernel_rfl) (fun _ _ _ h => h) (Or.inl ⟨by rfl, ?_⟩) (hSall _ (by repeat (first | with_reducible exact Below.refl _ _ | with_reducible assumption | with_reducible exact below_new _ _ | with_reducible apply below_drewN | with_reducible apply Below.drew | with_reducible refine below_set (Nat.le_refl _) ?_ _ | ((with_reducible refine below_set ?_ ?_ _); omega) | with_reducible refine Below.alloc ?_ (by first | omega | (simp; omega) | simp) _))) ?_
          · intro w' hSw
            (try dsimp only at hSw)
            go_simp
          (try simp only [List.getElem_toArray, List.getElem_cons_succ, List.getElem_cons_zero, Act.put, List.setIfInBounds_toArray, List.set_cons_zero, List.set_cons_succ])
          refine upto_take (i := 2) (v := .bool false) rfl (by kernel_rfl) (by kernel_rfl) (by kernel_rfl) (by kernel_rfl) (fun _ _ _ h => h) (Or.inl ⟨by rfl, ?_⟩) (hSall _ (by repeat (first | with_reducible exact Below.refl _ _ | with_reducible assumption | with_reducible exact below_new _ _ | with_reducible apply below_drewN | with_reducible apply Below.drew | with_reducible refine below_set (Nat.le_refl _) ?_ _ | ((with_reducible refine below_set ?_ ?_ _); omega) | with_reducible refine Below.alloc ?_ (by first | omega | (simp; omega) | simp) _))) ?_
          · intro w' hSw
            (try dsimp only at hSw)
            go_simp
          (try simp only [List.getElem_toArray, List.getElem_cons_succ, List.getElem_cons_zero, Act.put, List.setIfInBounds_toArray, List.set_cons_zero, List.set_cons_succ])
          refine upto_take (i := 3) (v := .pointer (some ⟨b1, 0, none⟩)) rfl (by kernel_rfl) (by kernel_rfl) (by kernel_rfl) (by kernel_rfl) (fun _ _ _ h => h) (Or.inl ⟨by rfl, ?_⟩) (hSall _ (by repeat (first | with_reducible exact Below.refl _ _ | with_reducible assumption | with_reducible exact below_new _ _ | with_reducible apply below_drewN | with_reducible apply Below.drew | with_reducible refine below_set (Nat.le_refl _) ?_ _ | ((with_reducible refine below_set ?_ ?_ _); omega) | with_reducible refine Below.alloc ?_ (by first | omega | (simp; omega) | simp) _))) ?_
          · intro w' hSw
            (try dsimp only at hSw)
            go_simp
          (try simp only [List.getElem_toArray, List.getElem_cons_succ, List.getElem_cons_zero, Act.put, List.setIfInBounds_toArray, List.set_cons_zero, List.set_cons_succ])
          refine upto_take (i := 5) (v := .pointer (some ⟨R.b, 0, none⟩)) rfl (by kernel_rfl) (by kernel_rfl) (by kernel_rfl) (by kernel_rfl) (fun _ _ _ h => h) (Or.inl ⟨by rfl, ?_⟩) (hSall _ (by repeat (first | with_reducible exact Below.refl _ _ | with_reducible assumption | with_reducible exact below_new _ _ | with_reducible apply below_drewN | with_reducible apply Below.drew | with_reducible refine below_set (Nat.le_refl _) ?_ _ | ((with_reducible refine below_set ?_ ?_ _); omega) | with_reducible refine Below.alloc ?_ (by first | omega | (simp; omega) | simp) _))) ?_
          · intro w' hSw
            (try dsimp only at hSw)
            go_simp
          (try simp only [List.getElem_toArray, List.getElem_cons_succ, List.getElem_cons_zero, Act.put, List.setIfInBounds_toArray, List.set_cons_zero, List.set_cons_succ])
          refine upto_take (i := 6) (v := .pointer (some ⟨R.b, 0, none⟩)) rfl (by kernel_rfl) (by kernel_rfl) (by kernel_rfl) (by kernel_rfl) (fun _ _ _ h => h) (Or.inl ⟨by rfl, ?_⟩) (hSall _ (by repeat (first | with_reducible exact Below.refl _ _ | with_reducible assumption | with_reducible exact below_new _ _ | with_reducible apply below_drewN | with_reducible apply Below.drew | with_reducible refine below_set (Nat.le_refl _) ?_ _ | ((with_reducible refine below_set ?_ ?_ _); omega) | with_reducible refine Below.alloc ?_ (by first | omega | (simp; omega) | simp) _))) ?_
          · intro w' hSw
            (try dsimp only at hSw)
            go_simp
          (try simp only [List.getElem_toArray, List.getElem_cons_succ, List.getElem_cons_zero, Act.put, List.setIfInBounds_toArray, List.set_cons_zero, List.set_cons_succ])
          refine upto_take (i := 7) (v := .pointer (some ⟨R.b, 9, none⟩)) rfl (by kernel_rfl) (by kernel_rfl) (by kernel_rfl) (by kernel_rfl) (fun _ _ _ h => h) (Or.inl ⟨by rfl, ?_⟩) (hSall _ (by repeat (first | with_reducible exact Below.refl _ _ | with_reducible assumption | with_reducible exact below_new _ _ | with_reducible apply below_drewN | with_reducible apply Below.drew | with_reducible refine below_set (Nat.le_refl _) ?_ _ | ((with_reducible refine below_set ?_ ?_ _); omega) | with_reducible refine Below.alloc ?_ (by first | omega | (simp; omega) | simp) _))) ?_
          · intro w' hSw
            (try dsimp only at hSw)
            go_simp
          (try simp only [List.getElem_toArray, List.getElem_cons_succ, List.getElem_cons_zero, Act.put, List.setIfInBounds_toArray, List.set_cons_zero, List.set_cons_succ])
          refine upto_take (i := 8) (v := .slice (some ⟨R.g1, 0, none⟩) ne R.c1) rfl (by kernel_rfl) (by kernel_rfl) (by kernel_rfl) (by kernel_rfl) (fun _ _ _ h => h) (Or.inl ⟨by rfl, ?_⟩) (hSall _ (by repeat (first | with_reducible exact Below.refl _ _ | with_reducible assumption | with_reducible exact below_new _ _ | with_reducible apply below_drewN | with_reducible apply Below.drew | with_reducible refine below_set (Nat.le_refl _) ?_ _ | ((with_reducible refine below_set ?_ ?_ _); omega) | with_reducible refine Below.alloc ?_ (by first | omega | (simp; omega) | simp) _))) ?_
          · intro w' hSw
            (try dsimp only at hSw)
            go_simp
          (try simp only [List.getElem_toArray, List.getElem_cons_succ, List.getElem_cons_zero, Act.put, List.setIfInBounds_toArray, List.set_cons_zero, List.set_cons_succ])
          refine upto_step (i := 4) (by kernel_rfl) rfl (fun K hK => ?_)
          go_simp
          refine (pos_n (w := w6.drew) hne (H6.out.calm (Below.refl w6.heap.size w6).drew).k.now (H6.out.calm (Below.refl w6.heap.size w6).drew).fld).mono ?_
          rintro en v1 ⟨ga, ca, rfl, ho, hx, _⟩
          have hbx1 : Below w6.heap.size w6 v1 := (Below.refl w6.heap.size w6).drew.trans hx
          have P1 := Lib.hid (H6.out.calm hbx1)
          have A1 := Lib.hid ho
          clear ho hx
          refine hK _ _ (fun _ => (hSall _ (by repeat (first | with_reducible exact Below.refl _ _ | with_reducible assumption | with_reducible exact below_new _ _ | with_reducible apply below_drewN | with_reducible apply Below.drew | with_reducible refine below_set (Nat.le_refl _) ?_ _ | ((with_reducible refine below_set ?_ ?_ _); omega) | with_reducible refine Below.alloc ?_ (by first | omega | (simp; omega) | simp) _)))) ?_
          clear hK K
          (try simp only [List.getElem_toArray, List.getElem_cons_succ, List.getElem_cons_zero, Act.put, List.setIfInBounds_toArray, List.set_cons_zero, List.set_cons_succ])
          refine upto_step (i := 9) (by kernel_rfl) rfl (fun K hK => ?_)
          go_simp
          refine (samei_f A1.out (reflie_n hne P1.out)).mono ?_
          rw [show decide (f1.pos p = f1.pos p) = true by simp]
          rintro en v2 ⟨rfl, hx⟩
          have hbx2 : Below w6.heap.size w6 v2 := below_step hbx1 hx hbx1.size
          have P2 := Lib.hid (H6.out.calm hbx2)
          clear hx A1
          refine hK _ _ (fun _ => (hSall _ (by repeat (first | with_reducible exact Below.refl _ _ | with_reducible assumption | with_reducible exact below_new _ _ | with_reducible apply below_drewN | with_reducible apply Below.drew | with_reducible refine below_set (Nat.le_refl _) ?_ _ | ((with_reducible refine below_set ?_ ?_ _); omega) | with_reducible refine Below.alloc ?_ (by first | omega | (simp; omega) | simp) _)))) ?_
          clear hK K
          (try simp only [List.getElem_toArray, List.getElem_cons_succ, List.getElem_cons_zero, Act.put, List.setIfInBounds_toArray, List.set_cons_zero, List.set_cons_succ])
          refine upto_step (i := 10) (by kernel_rfl) rfl (fun K hK => ?_)
          go_simp
          refine hK _ _ (fun _ => (hSall _ (by repeat (first | with_reducible exact Below.refl _ _ | with_reducible assumption | with_reducible exact below_new _ _ | with_reducible apply below_drewN | with_reducible apply Below.drew | with_reducible refine below_set (Nat.le_refl _) ?_ _ | ((with_reducible refine below_set ?_ ?_ _); omega) | with_reducible refine Below.alloc ?_ (by first | omega | (simp; omega) | simp) _)))) ?_
          clear hK K
          (try simp only [List.getElem_toArray, List.getElem_cons_succ, List.getElem_cons_zero, Act.put, List.setIfInBounds_toArray, List.set_cons_zero, List.set_cons_succ])
          refine upto_step (i := 11) (by kernel_rfl) rfl (fun K hK => ?_)
          go_simp
          refine hK _ _ (fun _ => (hSall _ (by repeat (first | with_reducible exact Below.refl _ _ | with_reducible assumption | with_reducible exact below_new _ _ | with_reducible apply below_drewN | with_reducible apply Below.drew | with_reducible refine below_set (Nat.le_refl _) ?_ _ | ((with_reducible refine below_set ?_ ?_ _); omega) | with_reducible refine Below.alloc ?_ (by first | omega | (simp; omega) | simp) _)))) ?_
          clear hK K
          (try simp only [List.getElem_toArray, List.getElem_cons_succ, List.getElem_cons_zero, Act.put, List.setIfInBounds_toArray, List.set_cons_zero, List.set_cons_succ])
          refine upto_step (i := 12) (by kernel_rfl) rfl (fun K hK => ?_)
          go_simp
          refine hK _ _ (fun _ => (hSall _ (by repeat (first | with_reducible exact Below.refl _ _ | with_reducible assumption | with_reducible exact below_new _ _ | with_reducible apply below_drewN | with_reducible apply Below.drew | with_reducible refine below_set (Nat.le_refl _) ?_ _ | ((with_reducible refine below_set ?_ ?_ _); omega) | with_reducible refine Below.alloc ?_ (by first | omega | (simp; omega) | simp) _)))) ?_
          clear hK K
          (try simp only [List.getElem_toArray, List.getElem_cons_succ, List.getElem_cons_zero, Act.put, List.setIfInBounds_toArray, List.set_cons_zero, List.set_cons_succ])
          refine upto_take (i := 13) (v := .pointer (some ⟨b1, 0, none⟩)) rfl (by kernel_rfl) (by kernel_rfl) (by kernel_rfl) (by kernel_rfl) (fun _ _ _ h => h) (Or.inl ⟨by rfl, ?_⟩) (hSall _ (by repeat (first | with_reducible exact Below.refl _ _ | with_reducible assumption | with_reducible exact below_new _ _ | with_reducible apply below_drewN | with_reducible apply Below.drew | with_reducible refine below_set (Nat.le_refl _) ?_ _ | ((with_reducible refine below_set ?_ ?_ _); omega) | with_reducible refine Below.alloc ?_ (by first | omega | (simp; omega) | simp) _))) ?_
          · intro w' hSw
            (try dsimp only at hSw)
            go_simp
          (try simp only [List.getElem_toArray, List.getElem_cons_succ, List.getElem_cons_zero, Act.put, List.setIfInBounds_toArray, List.set_cons_zero, List.set_cons_succ])
          refine upto_take (i := 15) (v := .pointer (some ⟨R.b, 0, none⟩)) rfl (by kernel_rfl) (by kernel_rfl) (by kernel_rfl) (by kernel_rfl) (fun _ _ _ h => h) (Or.inl ⟨by rfl, ?_⟩) (hSall _ (by repeat (first | with_reducible exact Below.refl _ _ | with_reducible assumption | with_reducible exact below_new _ _ | with_reducible apply below_drewN | with_reducible apply Below.drew | with_reducible refine below_set (Nat.le_refl _) ?_ _ | ((with_reducible refine below_set ?_ ?_ _); omega) | with_reducible refine Below.alloc ?_ (by first | omega | (simp; omega) | simp) _))) ?_
          · intro w' hSw
            (try dsimp only at hSw)
            go_simp
          (try simp only [List.getElem_toArray, List.getElem_cons_succ, List.getElem_cons_zero, Act.put, List.setIfInBounds_toArray, List.set_cons_zero, List.set_cons_succ])
          refine upto_step (i := 14) (by kernel_rfl) rfl (fun K hK => ?_)
          go_simp
          refine (told_n hne P2.out.k.now P2.out.fld).mono ?_
          rintro en v3 ⟨gb, cb, rfl, ho, hx, _⟩
          have hbx3 : Below w6.heap.size w6 v3 := below_step hbx2 hx hbx2.size
          have P3 := Lib.hid (H6.out.calm hbx3)
          have A3 := Lib.hid ho
          clear ho hx
          refine hK _ _ (fun _ => (hSall _ (by repeat (first | with_reducible exact Below.refl _ _ | with_reducible assumption | with_reducible exact below_new _ _ | with_reducible apply below_drewN | with_reducible apply Below.drew | with_reducible refine below_set (Nat.le_refl _) ?_ _ | ((with_reducible refine below_set ?_ ?_ _); omega) | with_reducible refine Below.alloc ?_ (by first | omega | (simp; omega) | simp) _)))) ?_
          clear hK K
          (try simp only [List.getElem_toArray, List.getElem_cons_succ, List.getElem_cons_zero, Act.put, List.setIfInBounds_toArray, List.set_cons_zero, List.set_cons_succ])
          refine upto_step (i := 16) (by kernel_rfl) rfl (fun K hK => ?_)
          go_simp
          refine (reftold_n hne P3.out).mono ?_
          rintro en v4 ⟨gc, cc, rfl, ho, hx, _⟩
          have hbx4 : Below w6.heap.size w6 v4 := below_step hbx3 hx hbx3.size
          have P4 := Lib.hid (H6.out.calm hbx4)
          have A4 := Lib.hid (A3.out.below hx)
          have B4 := Lib.hid ho
          clear ho hx A3
          refine hK _ _ (fun _ => (hSall _ (by repeat (first | with_reducible exact Below.refl _ _ | with_reducible assumption | with_reducible exact below_new _ _ | with_reducible apply below_drewN | with_reducible apply Below.drew | with_reducible refine below_set (Nat.le_refl _) ?_ _ | ((with_reducible refine below_set ?_ ?_ _); omega) | with_reducible refine Below.alloc ?_ (by first | omega | (simp; omega) | simp) _)))) ?_
          clear hK K
          (try simp only [List.getElem_toArray, List.getElem_cons_succ, List.getElem_cons_zero, Act.put, List.setIfInBounds_toArray, List.set_cons_zero, List.set_cons_succ])
          refine upto_step (i := 17) (by kernel_rfl) rfl (fun K hK => ?_)
          go_simp
          refine (samei_f A4.out B4.out).mono ?_
          rw [show decide (f1.told p = f1.told p) = true by simp]
          rintro en v5 ⟨rfl, hx⟩
          have hbx5 : Below w6.heap.size w6 v5 := below_step hbx4 hx hbx4.size
          have P5 := Lib.hid (H6.out.calm hbx5)
          clear hx A4 B4
          refine hK _ _ (fun _ => (hSall _ (by repeat (first | with_reducible exact Below.refl _ _ | with_reducible assumption | with_reducible exact below_new _ _ | with_reducible apply below_drewN | with_reducible apply Below.drew | with_reducible refine below_set (Nat.le_refl _) ?_ _ | ((with_reducible refine below_set ?_ ?_ _); omega) | with_reducible refine Below.alloc ?_ (by first | omega | (simp; omega) | simp) _)))) ?_
          clear hK K
          (try simp only [List.getElem_toArray, List.getElem_cons_succ, List.getElem_cons_zero, Act.put, List.setIfInBounds_toArray, List.set_cons_zero, List.set_cons_succ])
          refine upto_step (i := 18) (by kernel_rfl) rfl (fun K hK => ?_)
          go_simp
          refine hK _ _ (fun _ => (hSall _ (by repeat (first | with_reducible exact Below.refl _ _ | with_reducible assumption | with_reducible exact below_new _ _ | with_reducible apply below_drewN | with_reducible apply Below.drew | with_reducible refine below_set (Nat.le_refl _) ?_ _ | ((with_reducible refine below_set ?_ ?_ _); omega) | with_reducible refine Below.alloc ?_ (by first | omega | (simp; omega) | simp) _)))) ?_
          clear hK K
          (try simp only [List.getElem_toArray, List.getElem_cons_succ, List.getElem_cons_zero, Act.put, List.setIfInBounds_toArray, List.set_cons_zero, List.set_cons_succ])
          refine upto_step (i := 19) (by kernel_rfl) rfl (fun K hK => ?_)
          go_simp
          refine hK _ _ (fun _ => (hSall _ (by repeat (first | with_reducible exact Below.refl _ _ | with_reducible assumption | with_reducible exact below_new _ _ | with_reducible apply below_drewN | with_reducible apply Below.drew | with_reducible refine below_set (Nat.le_refl _) ?_ _ | ((with_reducible refine below_set ?_ ?_ _); omega) | with_reducible refine Below.alloc ?_ (by first | omega | (simp; omega) | simp) _)))) ?_
          clear hK K
          (try simp only [List.getElem_toArray, List.getElem_cons_succ, List.getElem_cons_zero, Act.put, List.setIfInBounds_toArray, List.set_cons_zero, List.set_cons_succ])
          refine upto_done (by kernel_rfl) (NoPanic.normal ?_) _
          clear hSall

          have H7 := Lib.hid (H6.out.calm hbx5)
          have HB7 := Lib.hid (HB6.out.trans (hbx5.mono H6.out.k.le))
          have hs7 := hbx5.size
          clear hbx1 hbx2 hbx3 hbx4 hbx5 P1 P2 P3 P4 k9 hrb
          go_wp2_with fail
          go_loopg [13] (ne + 2) (fun k i wr => ∃ ki : Int, ki + 1 + k = ne + 2 ∧ -1 ≤ ki ∧ ki ≤ ne + 1 ∧ i = .int .i64 ki ∧ Hid (Pair w3.heap.size wr b1 nb R w4.heap.size w5.heap.size ⟨ae, ne, ce, aj, nj, cj, as_, ns, cs, al, nl, cl, lv⟩ p f1) ∧ Hid (Below w3.heap.size w3 wr) ∧ w5.heap.size ≤ wr.heap.size)
          case atStart => exact ⟨-1, by omega, by omega, by omega, rfl, H7.out, HB7.out, by omega⟩
          case round =>
            obtain ⟨ki, hk2, hl1, hl2, rfl, hp8, hb8, h8s⟩ := hrel
            have Hk2 := Lib.hid hk2; clear hk2
            have c0 := HBX.out wr hb8.out
            by_cases hend : (ne : Int) < ki
            · have hq : decide (ki ≤ (ne : Int)) = false := by simp; omega
              go_wp2_with fail
              go_roundg (n1 - j - 1)
              case measure => have := Hk.out; omega
              case rel => exact ⟨j + 1, b1, f1, by have := Hk.out; omega, rfl, by go_num, hp8.out, hb8.out, h8s⟩
            have hq : decide (ki ≤ (ne : Int)) = true := by simp; omega
            have HLf := Lib.hid (left_any wr b1 nb p f1 hp8.out.k.now hp8.out.fld ki)
            by_cases hj0 : ki < 0
            · have q0 : decide ((0 : Int) ≤ ki) = false := by simp; omega
              rw [left_out (p := p) (f := f1) (k := ki) (by omega)] at HLf
              go_wp2_with fail
              refine HLf.out.mono ?_
              rintro en w9 ⟨rfl, hx⟩
              have H9 := Lib.hid (hp8.out.calm hx)
              have HB9 := Lib.hid (hb8.out.trans (hx.mono hp8.out.k.le))
              have hs9 := hx.size
              clear hx
              go_wp2_with fail
              go_roundg (gk - 1)
              case measure => have := Hk2.out; omega
              case rel => exact ⟨ki + 1, by have := Hk2.out; omega, by omega, by omega, by go_num, H9.out, HB9.out, by omega⟩
            · have q0 : decide ((0 : Int) ≤ ki) = true := by simp; omega
              by_cases hjn : (ne : Int) ≤ ki
              · have q1 : decide (ki < (ne : Int)) = false := by simp; omega
                rw [left_out (p := p) (f := f1) (k := ki) (by omega)] at HLf
                go_wp2_with fail
                refine HLf.out.mono ?_
                rintro en w9 ⟨rfl, hx⟩
                have H9 := Lib.hid (hp8.out.calm hx)
                have HB9 := Lib.hid (hb8.out.trans (hx.mono hp8.out.k.le))
                have hs9 := hx.size
                clear hx
                go_wp2_with fail
                go_roundg (gk - 1)
                case measure => have := Hk2.out; omega
                case rel => exact ⟨ki + 1, by have := Hk2.out; omega, by omega, by omega, by go_num, H9.out, HB9.out, by omega⟩
              · have q1 : decide (ki < (ne : Int)) = true := by simp; omega
                have k11 := hp8.out.ref.k11
                rw [refOf_len, hne] at k11
                have hrb := hp8.out.ref.lt R.b (by simp [RB.blocks])
                have hg3 := hp8.out.ref.lt R.g3 (by simp [RB.blocks])
                have m1 := hp8.out.ref.cell_left (rpt_get (r := refOf p f1) (i := ki.toNat) (by rw [refOf_len]; omega))
                rw [ref_left hp8.out.fld.ok (k := ki) (by omega) (by omega)] at m1
                obtain ⟨lv_, hlv⟩ : ∃ lv_, f1.left p ki = lv_ := ⟨_, rfl⟩
                rw [hlv] at m1 HLf
                clear hlv
                go_wp2_with fail
                refine HLf.out.mono ?_
                rintro en w9 ⟨rfl, hx⟩
                have H9 := Lib.hid (hp8.out.calm hx)
                have HB9 := Lib.hid (hb8.out.trans (hx.mono hp8.out.k.le))
                have hs9 := hx.size
                clear hx
                go_wp2_with fail
                go_roundg (gk - 1)
                case measure => have := Hk2.out; omega
                case rel => exact ⟨ki + 1, by have := Hk2.out; omega, by omega, by omega, by go_num, H9.out, HB9.out, by omega⟩
        · clear HA
          have hq : decide ((j : Int) < (n1 : Int)) = false := by simp; omega
          have HQ2 := Lib.hid (show ∀ u, Below w3.heap.size w3 u → Bools u a2 n2 real from fun u hu => (HR2.out.below Hb3.out).below hu)
          have HQ3 := Lib.hid (show ∀ u, Below w3.heap.size w3 u → Ints u a3 n3 asp from fun u hu => (HR3.out.below Hb3.out).below hu)
          go_wp2_with fail
          refine (occ_n hne hp'.out.k.now hp'.out.fld (HQ2.out wo hbx.out)).mono ?_
          rintro en v1 ⟨ga, ca, rfl, ho, hx, _⟩
          have P1 := Lib.hid (hp'.out.calm hx)
          have B1 := Lib.hid (hbx.out.trans (hx.mono hp'.out.k.le))
          have A1 := Lib.hid ho
          clear ho
          clear hx
          go_wp2_with fail
          refine (refocc_n hne P1.out (HQ2.out v1 B1.out)).mono ?_
          rintro en v2 ⟨gb, cb, rfl, ho, hx, _⟩
          have P2 := Lib.hid (P1.out.calm hx)
          have B2 := Lib.hid (B1.out.trans (hx.mono P1.out.k.le))
          have A2 := Lib.hid (A1.out.below hx)
          have D2 := Lib.hid ho
          clear ho
          clear hx
          go_wp2_with fail
          refine (sameb_f A2.out D2.out).mono ?_
          rw [show decide (f'.occ p real = f'.occ p real) = true by simp]
          rintro en v3 ⟨rfl, hx⟩
          have P3 := Lib.hid (P2.out.calm hx)
          have B3 := Lib.hid (B2.out.trans (hx.mono P2.out.k.le))
          clear hx
          go_wp2_with fail
          refine (lamps_n hns P3.out.k.now P3.out.fld (HQ3.out v3 B3.out)).mono ?_
          rintro en v4 ⟨gd, cd, rfl, ho, hx, _⟩
          have P4 := Lib.hid (P3.out.calm hx)
          have B4 := Lib.hid (B3.out.trans (hx.mono P3.out.k.le))
          have A4 := Lib.hid ho
          clear ho
          clear hx
          go_wp2_with fail
          refine (reflamps_n hns P4.out (HQ3.out v4 B4.out)).mono ?_
          rintro en v5 ⟨ge, ce_, rfl, ho, hx, _⟩
          have P5 := Lib.hid (P4.out.calm hx)
          have B5 := Lib.hid (B4.out.trans (hx.mono P4.out.k.le))
          have A5 := Lib.hid (A4.out.below hx)
          have D5 := Lib.hid ho
          clear ho
          clear hx
          go_wp2_with fail
          refine (samei_f A5.out D5.out).mono ?_
          rw [show decide (f'.lamps p asp = f'.lamps p asp) = true by simp]
          rintro en v6 ⟨rfl, hx⟩
          have P6 := Lib.hid (P5.out.calm hx)
          have B6 := Lib.hid (B5.out.trans (hx.mono P5.out.k.le))
          clear hx
          go_wp2_with fail
          go_ret
          exact ⟨rfl, below_step Hb3.out B6.out Hb3.out.size⟩
set_option maxRecDepth 100000 in
theorem fieldPlays_lifted (os : Os) (started : os.Started) (H : Type) (enc : TypeId × Value → H) :
    ReturnsInHanded {} Try.checked os 5 .any (Rows.fieldPlaysSpec.pre6 enc Try.prog Try.f5 Rows.fieldPlaysRow.domain false) (Rows.fieldPlaysSpec.post enc Try.prog Try.f5 false true false false) := by
  refine returnsInHanded_of_change (C := Try.checked) own started (by kernel_rfl) Try.func5
    (ChangeSpec.witness6 (enc := enc) (C := Try.checked) false ⟨#[], #[.agg #[.slice none 0 0, .slice none 0 0, .slice none 0 0, .slice none 0 0, .int .i64 0, .int .i64 0, .int .i64 0, .int .i64 0, .bool false], .slice none 0 0, .slice none 0 0, .slice none 0 0], []⟩ 8 (by kernel_rfl) (by kernel_rfl) (by kernel_rfl) (by kernel_rfl)) ?_
  intro W base args ds gs before hval0 hW hcnd _
  have hval : ∀ (j : Nat) t v, Try.f5.params[j]? = some t → args[j]? = some v → Value.okWide Try.prog W .any base t v := hval0
  have hW' := hW
  obtain ⟨p, q, hA0, hV, rfl, hfz, hnd⟩ := hW
  have hA : DataW.TrodAll enc Try.prog W 0 (fun _ => true) true Try.f5.params.toList args.toList ds p := hA0
  rw [Try.params5] at hA hval
  obtain ⟨v0, vs0, d0, ds0, p0, q0, hargs, rfl, rfl, k0, r0⟩ := trodAll_cons hA
  obtain ⟨v1, vs1, d1, ds1, p1, q1, rfl, rfl, rfl, k1, r1⟩ := trodAll_cons r0
  obtain ⟨v2, vs2, d2, ds2, p2, q2, rfl, rfl, rfl, k2, r2⟩ := trodAll_cons r1
  obtain ⟨v3, vs3, d3, ds3, p3, q3, rfl, rfl, rfl, k3, r3⟩ := trodAll_cons r2
  obtain ⟨rfl, rfl, rfl⟩ := trodAll_nil r3
  obtain rfl : args = #[v0, v1, v2, v3] := by cases args; simp_all
  obtain ⟨rfl, rfl⟩ := trodVars_none hV
  have lt0 : ∀ x ∈ p0, x.block < W.heap.size := by obtain ⟨m, hm⟩ := k0; exact DataW.trod_lt m _ _ _ hm
  have hv0 := hval 0 27 v0 rfl rfl
  have lt1 : ∀ x ∈ p1, x.block < W.heap.size := by obtain ⟨m, hm⟩ := k1; exact DataW.trod_lt m _ _ _ hm
  have hv1 := hval 1 41 v1 rfl rfl
  have lt2 : ∀ x ∈ p2, x.block < W.heap.size := by obtain ⟨m, hm⟩ := k2; exact DataW.trod_lt m _ _ _ hm
  have hv2 := hval 2 42 v2 rfl rfl
  have lt3 : ∀ x ∈ p3, x.block < W.heap.size := by obtain ⟨m, hm⟩ := k3; exact DataW.trod_lt m _ _ _ hm
  have hv3 := hval 3 28 v3 rfl rfl
  have fin : Calls Try.prog 5 #[v0, v1, v2, v3] W (fun e W' => e = .returned (.bool true) ∧ Below W.heap.size W W') := by
    obtain ⟨pv, p, rfl, hp⟩ := open_plan hv0 k0
    obtain ⟨a1, n1, c1, xs1, rfl, h1⟩ := open_acts hv1 k1
    obtain ⟨a2, n2, c2, xs2, rfl, h2⟩ := open_Bools hv2 k2
    obtain ⟨a3, n3, c3, xs3, rfl, h3, _, _, _⟩ := open_Ints hv3 k3
    exact lawPlays_any W pv p a1 n1 c1 xs1 a2 n2 c2 xs2 a3 n3 c3 xs3 hp h1 h2 h3
  clear hA0 hval0
  refine fin.mono fun e W' ⟨he, bel⟩ => ?_
  subst he
  exact ⟨_, rfl, _, _, _, [], _, [], hW', trodAll_mk1 (shut_bool Try.underlying4 _), (trodAll_cons_mk (Below.trod laidOut (by kernel_rfl) (of_decide_eq_true (by kernel_rfl)) k0 bel lt0) (trodAll_cons_mk (Below.trod laidOut (by kernel_rfl) (of_decide_eq_true (by kernel_rfl)) k1 bel lt1) (trodAll_cons_mk (Below.trod laidOut (by kernel_rfl) (of_decide_eq_true (by kernel_rfl)) k2 bel lt2) (trodAll_cons_mk (Below.trod laidOut (by kernel_rfl) (of_decide_eq_true (by kernel_rfl)) k3 bel lt3) trodAll_mk0)))), rfl, bel.frame _, fun h => by cases h⟩

/-- THE STATEMENT -/
theorem fieldPlays_holds : Rows.FieldPlaysSaid :=
  OpenClaim.holds_of_wide 5 Try.f5 rfl rfl rfl rfl rfl rfl rfl ⟨rfl, rfl, rfl, rfl, rfl⟩ rfl rfl rfl rfl rfl (by kernel_rfl) Try.func5 (by kernel_rfl)
    (of_decide_eq_true (by kernel_rfl)) (by unfold Func.isWrapper; first | (rw [if_pos (by decide +kernel)]; kernel_rfl) | (rw [if_neg (by decide +kernel)]; exact ⟨rfl, rfl⟩))
    (fun os started H enc _ => fieldPlays_lifted os started H enc)
end Go.Proofs.Ytlgekkffekagbaa
