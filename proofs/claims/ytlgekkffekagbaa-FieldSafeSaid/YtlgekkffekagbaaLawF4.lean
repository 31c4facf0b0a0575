/- FieldSafe: for every input the law returns true. No condition. -/
import Derived.Test.YtlgekkffekagbaaFieldP
set_option maxRecDepth 1000000
namespace Go.Proofs.Ytlgekkffekagbaa
open Go.ChangeShapes Go.WideShapes Go.ChangeAt Go.RowKit Go.Sort

theorem told_ne {x : Pt} (h : toldPt x ≠ 0) : toldPt x = posPt x := by
  unfold toldPt at h ⊢
  split at h
  · exact absurd rfl h
  · rename_i hb; rw [if_neg hb]
set_option maxHeartbeats 6000000 in
theorem lawSafe_any (w : World) (pv : PV) (p : Plan) (a1 : Option Addr) (n1 cap1 : Nat) (xs1 : List ActV) (a2 : Option Addr) (n2 cap2 : Nat) (real : List Bool) (a3 : Option Addr) (n3 cap3 : Nat) (asp : List Int)
    (h : PlanAt w pv p) (h1 : Acts w a1 n1 xs1) (h2 : Bools w a2 n2 real) (h3 : Ints w a3 n3 asp) :
    Calls Try.prog 6 #[pv.val p, .slice a1 n1 cap1, .slice a2 n2 cap2, .slice a3 n3 cap3] w fun en w' => en = .returned (.bool true) ∧ Below w.heap.size w w' := by
  have HA1 := Lib.hid h1
  have HR2 := Lib.hid h2
  have HR3 := Lib.hid h3
  clear h1 h2 h3
  obtain ⟨ae, ne, ce, aj, nj, cj, as_, ns, cs, al, nl, cl, lv⟩ := pv
  have hP := Lib.hid h
  have HBa := Lib.hid (pbox_new w ⟨ae, ne, ce, aj, nj, cj, as_, ns, cs, al, nl, cl, lv⟩ p)
  have Hba := Lib.hid (below_new w (.cells #[.slice ae ne ce, .slice aj nj cj, .slice as_ ns cs, .slice al nl cl, .int .i64 p.top, .int .i64 p.brake, .int .i64 p.margin, .int .i64 p.throw, .bool p.hard] 27))
  have K := Lib.hid (known13_any (w.alloc (.cells #[.slice ae ne ce, .slice aj nj cj, .slice as_ ns cs, .slice al nl cl, .int .i64 p.top, .int .i64 p.brake, .int .i64 p.margin, .int .i64 p.throw, .bool p.hard] 27)))
  have HF := Lib.hid (fun (u : World) (hb : Below w.heap.size w u) => finex_l (w := u) (hP.out.below hb))
  clear h
  dsimp only [PV.val]
  obtain ⟨_, c0, c1, c2, c3, c4, c5, c6, c7, c8⟩ := HBa.out
  dsimp only at c0 c1 c2 c3
  cases hf : fine p with
  | false =>
    rw [hf] at HF
    clear hf
    go_enter Try.func6, Try.ntmps6
    go_wp2_with fail
    refine (K.out).mono ?_
    rintro e w1 ⟨rfl, hbx⟩
    have HB1 := Lib.hid (HBa.out.below hbx)
    have Hb1 := Lib.hid (below_step Hba.out hbx Hba.out.size)
    clear hbx c0 c1 c2 c3 c4 c5 c6 c7 c8
    obtain ⟨_, c0, c1, c2, c3, c4, c5, c6, c7, c8⟩ := HB1.out
    dsimp only at c0 c1 c2 c3
    clear K
    go_wp2_with fail
    refine (HF.out w1 Hb1.out).mono ?_
    rintro e w2 ⟨rfl, hbx⟩
    have HB2 := Lib.hid (HB1.out.below hbx)
    have Hb2 := Lib.hid (below_step Hb1.out hbx Hb1.out.size)
    clear hbx c0 c1 c2 c3 c4 c5 c6 c7 c8
    obtain ⟨_, c0, c1, c2, c3, c4, c5, c6, c7, c8⟩ := HB2.out
    dsimp only at c0 c1 c2 c3
    go_wp2_with fail
    go_ret
    exact ⟨rfl, Hb2.out⟩
  | true =>
    rw [hf] at HF
    have C1 := Lib.hid (fun (u : World) (hb : Below w.heap.size w u) => fewacts_any u a1 n1 cap1 xs1 (HA1.out.below hb))
    cases hq1 : fewActs n1 xs1 with
    | false =>
      rw [hq1] at C1
      go_enter Try.func6, Try.ntmps6
      go_wp2_with fail
      refine (K.out).mono ?_
      rintro e w1 ⟨rfl, hbx⟩
      have HB1 := Lib.hid (HBa.out.below hbx)
      have Hb1 := Lib.hid (below_step Hba.out hbx Hba.out.size)
      clear hbx c0 c1 c2 c3 c4 c5 c6 c7 c8
      obtain ⟨_, c0, c1, c2, c3, c4, c5, c6, c7, c8⟩ := HB1.out
      dsimp only at c0 c1 c2 c3
      clear K
      go_wp2_with fail
      refine (HF.out w1 Hb1.out).mono ?_
      rintro e w2 ⟨rfl, hbx⟩
      have HB2 := Lib.hid (HB1.out.below hbx)
      have Hb2 := Lib.hid (below_step Hb1.out hbx Hb1.out.size)
      clear hbx c0 c1 c2 c3 c4 c5 c6 c7 c8
      obtain ⟨_, c0, c1, c2, c3, c4, c5, c6, c7, c8⟩ := HB2.out
      dsimp only at c0 c1 c2 c3
      go_wp2_with fail
      refine (C1.out w2 Hb2.out).mono ?_
      rintro e w2_ ⟨rfl, rfl⟩
      go_wp2_with fail
      go_ret
      exact ⟨rfl, Hb2.out⟩
    | true =>
      rw [hq1] at C1
      by_cases hq2 : n2 ≤ 60
      rotate_left
      · have qq2 : decide ((60 : Int) < (n2 : Int)) = true := by simp; omega
        go_enter Try.func6, Try.ntmps6
        go_wp2_with fail
        refine (K.out).mono ?_
        rintro e w1 ⟨rfl, hbx⟩
        have HB1 := Lib.hid (HBa.out.below hbx)
        have Hb1 := Lib.hid (below_step Hba.out hbx Hba.out.size)
        clear hbx c0 c1 c2 c3 c4 c5 c6 c7 c8
        obtain ⟨_, c0, c1, c2, c3, c4, c5, c6, c7, c8⟩ := HB1.out
        dsimp only at c0 c1 c2 c3
        clear K
        go_wp2_with fail
        refine (HF.out w1 Hb1.out).mono ?_
        rintro e w2 ⟨rfl, hbx⟩
        have HB2 := Lib.hid (HB1.out.below hbx)
        have Hb2 := Lib.hid (below_step Hb1.out hbx Hb1.out.size)
        clear hbx c0 c1 c2 c3 c4 c5 c6 c7 c8
        obtain ⟨_, c0, c1, c2, c3, c4, c5, c6, c7, c8⟩ := HB2.out
        dsimp only at c0 c1 c2 c3
        go_wp2_with fail
        refine (C1.out w2 Hb2.out).mono ?_
        rintro e w2_ ⟨rfl, rfl⟩
        go_wp2_with fail
        go_ret
        exact ⟨rfl, Hb2.out⟩
      have qq2 : decide ((60 : Int) < (n2 : Int)) = false := by simp; omega
      by_cases hq3 : n3 ≤ 60
      rotate_left
      · have qq3 : decide ((60 : Int) < (n3 : Int)) = true := by simp; omega
        go_enter Try.func6, Try.ntmps6
        go_wp2_with fail
        refine (K.out).mono ?_
        rintro e w1 ⟨rfl, hbx⟩
        have HB1 := Lib.hid (HBa.out.below hbx)
        have Hb1 := Lib.hid (below_step Hba.out hbx Hba.out.size)
        clear hbx c0 c1 c2 c3 c4 c5 c6 c7 c8
        obtain ⟨_, c0, c1, c2, c3, c4, c5, c6, c7, c8⟩ := HB1.out
        dsimp only at c0 c1 c2 c3
        clear K
        go_wp2_with fail
        refine (HF.out w1 Hb1.out).mono ?_
        rintro e w2 ⟨rfl, hbx⟩
        have HB2 := Lib.hid (HB1.out.below hbx)
        have Hb2 := Lib.hid (below_step Hb1.out hbx Hb1.out.size)
        clear hbx c0 c1 c2 c3 c4 c5 c6 c7 c8
        obtain ⟨_, c0, c1, c2, c3, c4, c5, c6, c7, c8⟩ := HB2.out
        dsimp only at c0 c1 c2 c3
        go_wp2_with fail
        refine (C1.out w2 Hb2.out).mono ?_
        rintro e w2_ ⟨rfl, rfl⟩
        go_wp2_with fail
        go_ret
        exact ⟨rfl, Hb2.out⟩
      have qq3 : decide ((60 : Int) < (n3 : Int)) = false := by simp; omega
      have HM := Lib.hid (fun (u : World) (hb : Below w.heap.size w u) => made_any u ⟨ae, ne, ce, aj, nj, cj, as_, ns, cs, al, nl, cl, lv⟩ p hf (hP.out.below hb))
      have Hok := Lib.hid (few_ok hP.out (fine_few hf).1)
      have Hc := Lib.hid (fine_few hf).2
      clear hf
      dsimp only [PV.val] at HM
      go_enter Try.func6, Try.ntmps6
      go_wp2_with fail
      refine (K.out).mono ?_
      rintro e w1 ⟨rfl, hbx⟩
      have HB1 := Lib.hid (HBa.out.below hbx)
      have Hb1 := Lib.hid (below_step Hba.out hbx Hba.out.size)
      clear hbx c0 c1 c2 c3 c4 c5 c6 c7 c8
      obtain ⟨_, c0, c1, c2, c3, c4, c5, c6, c7, c8⟩ := HB1.out
      dsimp only at c0 c1 c2 c3
      clear K
      go_wp2_with fail
      refine (HF.out w1 Hb1.out).mono ?_
      rintro e w2 ⟨rfl, hbx⟩
      have HB2 := Lib.hid (HB1.out.below hbx)
      have Hb2 := Lib.hid (below_step Hb1.out hbx Hb1.out.size)
      clear hbx c0 c1 c2 c3 c4 c5 c6 c7 c8
      obtain ⟨_, c0, c1, c2, c3, c4, c5, c6, c7, c8⟩ := HB2.out
      dsimp only at c0 c1 c2 c3
      go_wp2_with fail
      refine (C1.out w2 Hb2.out).mono ?_
      rintro e w2_ ⟨rfl, rfl⟩
      go_wp2_with fail
      refine (HM.out w2 Hb2.out).mono ?_
      rintro e w3 ⟨nb, rfl, hbb, hn, hbx⟩
      have HB3 := Lib.hid (HB2.out.below hbx)
      have Hb3 := Lib.hid (below_step Hb2.out hbx Hb2.out.size)
      have HN3 := Lib.hid hn
      have hbb := Nat.le_trans Hb2.out.size hbb
      clear hbx hn HF HM c0 c1 c2 c3 c4 c5 c6 c7 c8
      obtain ⟨_, c0, c1, c2, c3, c4, c5, c6, c7, c8⟩ := HB3.out
      dsimp only at c0 c1 c2 c3
      have HK3 := Lib.hid (NetK.start HN3.out (hP.out.below Hb3.out))
      go_wp2_with fail
      have hn1 : n1 ≤ 60 := fewActs_le hq1
      clear hq1
      have hne : p.elems.length = ne := hP.out.e.len
      have hns : p.sigs.length = ns := hP.out.s.len
      have hel := elems_le Hc.out
      have HQ2 := Lib.hid HR2.out
      have HQ3 := Lib.hid HR3.out
      have hbl : w.heap.size < w3.heap.size := by have := Hba.out.size; have := HB3.out.lt; omega
      have hSall : ∀ w' : World, Below (w3).heap.size (w3) w' → (w'.cell? ⟨w.heap.size, 0, none⟩ = some (.slice ae ne ce) ∧ w'.cell? ⟨w.heap.size, 1, none⟩ = some (.slice aj nj cj) ∧ w'.cell? ⟨w.heap.size, 2, none⟩ = some (.slice as_ ns cs) ∧ w'.cell? ⟨w.heap.size, 3, none⟩ = some (.slice al nl cl) ∧ w'.cell? ⟨w.heap.size, 4, none⟩ = some (.int .i64 p.top) ∧ w'.cell? ⟨w.heap.size, 5, none⟩ = some (.int .i64 p.brake) ∧ w'.cell? ⟨w.heap.size, 6, none⟩ = some (.int .i64 p.margin) ∧ w'.cell? ⟨w.heap.size, 7, none⟩ = some (.int .i64 p.throw) ∧ w'.cell? ⟨w.heap.size, 8, none⟩ = some (.bool p.hard)) := fun w' hb => ⟨(hb.cell (p := ⟨w.heap.size, 0, none⟩) hbl).trans c0, (hb.cell (p := ⟨w.heap.size, 1, none⟩) hbl).trans c1, (hb.cell (p := ⟨w.heap.size, 2, none⟩) hbl).trans c2, (hb.cell (p := ⟨w.heap.size, 3, none⟩) hbl).trans c3, (hb.cell (p := ⟨w.heap.size, 4, none⟩) hbl).trans c4, (hb.cell (p := ⟨w.heap.size, 5, none⟩) hbl).trans c5, (hb.cell (p := ⟨w.heap.size, 6, none⟩) hbl).trans c6, (hb.cell (p := ⟨w.heap.size, 7, none⟩) hbl).trans c7, (hb.cell (p := ⟨w.heap.size, 8, none⟩) hbl).trans c8⟩
      refine wp_region_noPanic ?_
      refine region_upto (S := fun w' => w'.cell? ⟨w.heap.size, 0, none⟩ = some (.slice ae ne ce) ∧ w'.cell? ⟨w.heap.size, 1, none⟩ = some (.slice aj nj cj) ∧ w'.cell? ⟨w.heap.size, 2, none⟩ = some (.slice as_ ns cs) ∧ w'.cell? ⟨w.heap.size, 3, none⟩ = some (.slice al nl cl) ∧ w'.cell? ⟨w.heap.size, 4, none⟩ = some (.int .i64 p.top) ∧ w'.cell? ⟨w.heap.size, 5, none⟩ = some (.int .i64 p.brake) ∧ w'.cell? ⟨w.heap.size, 6, none⟩ = some (.int .i64 p.margin) ∧ w'.cell? ⟨w.heap.size, 7, none⟩ = some (.int .i64 p.throw) ∧ w'.cell? ⟨w.heap.size, 8, none⟩ = some (.bool p.hard)) (n := 6) (by kernel_rfl) ?_
      refine upto_take (i := 0) (v := .pointer (some ⟨nb, 0, none⟩)) rfl (by kernel_rfl) (by kernel_rfl) (by kernel_rfl) (by kernel_rfl) (fun _ _ _ h => h) (Or.inl ⟨by rfl, ?_⟩) (hSall _ (by repeat (first | with_reducible exact Below.refl _ _ | with_reducible assumption | with_reducible exact below_new _ _ | with_reducible apply below_drewN | with_reducible apply Below.drew | with_reducible refine below_set (Nat.le_refl _) ?_ _ | ((with_reducible refine below_set ?_ ?_ _); omega) | with_reducible refine Below.alloc ?_ (by first | omega | (simp; omega) | simp) _))) ?_
      · intro w' hSw
        (try dsimp only at hSw)
        go_simp
      (try simp only [List.getElem_toArray, List.getElem_cons_zero, Act.put, List.setIfInBounds_toArray, List.set_cons_zero, List.set_cons_succ])
      refine upto_take (i := 2) (v := .agg #[.slice ae ne ce, .slice aj nj cj, .slice as_ ns cs, .slice al nl cl, .int .i64 p.top, .int .i64 p.brake, .int .i64 p.margin, .int .i64 p.throw, .bool p.hard]) rfl (by kernel_rfl) (by kernel_rfl) (by kernel_rfl) (by kernel_rfl) (fun _ _ _ h => h) (Or.inl ⟨by rfl, ?_⟩) (hSall _ (by repeat (first | with_reducible exact Below.refl _ _ | with_reducible assumption | with_reducible exact below_new _ _ | with_reducible apply below_drewN | with_reducible apply Below.drew | with_reducible refine below_set (Nat.le_refl _) ?_ _ | ((with_reducible refine below_set ?_ ?_ _); omega) | with_reducible refine Below.alloc ?_ (by first | omega | (simp; omega) | simp) _))) ?_
      · intro w' hSw
        (try dsimp only at hSw)
        go_simp
      (try simp only [List.getElem_toArray, List.getElem_cons_succ, List.getElem_cons_zero, Act.put, List.setIfInBounds_toArray, List.set_cons_zero, List.set_cons_succ])
      refine upto_step (i := 1) (by kernel_rfl) rfl (fun K hK => ?_)
      go_simp
      refine (newf_any _ nb p (HN3.out.below (Below.refl w3.heap.size w3).drew)).mono ?_
      rintro en w4 ⟨fb, rfl, hfb, hff, hb4⟩
      have hbx1 : Below w3.heap.size w3 w4 := (Below.refl w3.heap.size w3).drew.trans hb4
      refine hK _ _ (fun _ => (hSall _ (by repeat (first | with_reducible exact Below.refl _ _ | with_reducible assumption | with_reducible exact below_new _ _ | with_reducible apply below_drewN | with_reducible apply Below.drew | with_reducible refine below_set (Nat.le_refl _) ?_ _ | ((with_reducible refine below_set ?_ ?_ _); omega) | with_reducible refine Below.alloc ?_ (by first | omega | (simp; omega) | simp) _)))) ?_
      clear hK K
      (try simp only [List.getElem_toArray, List.getElem_cons_succ, List.getElem_cons_zero, Act.put, List.setIfInBounds_toArray, List.set_cons_zero, List.set_cons_succ])
      refine upto_step (i := 3) (by kernel_rfl) rfl (fun K hK => ?_)
      go_simp
      refine (newfield_any w4 ⟨ae, ne, ce, aj, nj, cj, as_, ns, cs, al, nl, cl, lv⟩ p (hP.out.below (below_step Hb3.out hbx1 Hb3.out.size)) Hc.out).mono ?_
      rintro en w5 ⟨R, rfl, hrr, hb5⟩
      have hbx2 : Below w3.heap.size w3 w5 := below_step hbx1 hb5 hbx1.size
      refine hK _ _ (fun _ => (hSall _ (by repeat (first | with_reducible exact Below.refl _ _ | with_reducible assumption | with_reducible exact below_new _ _ | with_reducible apply below_drewN | with_reducible apply Below.drew | with_reducible refine below_set (Nat.le_refl _) ?_ _ | ((with_reducible refine below_set ?_ ?_ _); omega) | with_reducible refine Below.alloc ?_ (by first | omega | (simp; omega) | simp) _)))) ?_
      clear hK K
      (try simp only [List.getElem_toArray, List.getElem_cons_succ, List.getElem_cons_zero, Act.put, List.setIfInBounds_toArray, List.set_cons_zero, List.set_cons_succ])
      refine upto_step (i := 4) (by kernel_rfl) rfl (fun K hK => ?_)
      go_simp
      refine hK _ _ (fun _ => (hSall _ (by repeat (first | with_reducible exact Below.refl _ _ | with_reducible assumption | with_reducible exact below_new _ _ | with_reducible apply below_drewN | with_reducible apply Below.drew | with_reducible refine below_set (Nat.le_refl _) ?_ _ | ((with_reducible refine below_set ?_ ?_ _); omega) | with_reducible refine Below.alloc ?_ (by first | omega | (simp; omega) | simp) _)))) ?_
      clear hK K
      (try simp only [List.getElem_toArray, List.getElem_cons_succ, List.getElem_cons_zero, Act.put, List.setIfInBounds_toArray, List.set_cons_zero, List.set_cons_succ])
      refine upto_step (i := 5) (by kernel_rfl) rfl (fun K hK => ?_)
      go_simp
      refine hK _ _ (fun _ => (hSall _ (by repeat (first | with_reducible exact Below.refl _ _ | with_reducible assumption | with_reducible exact below_new _ _ | with_reducible apply below_drewN | with_reducible apply Below.drew | with_reducible refine below_set (Nat.le_refl _) ?_ _ | ((with_reducible refine below_set ?_ ?_ _); omega) | with_reducible refine Below.alloc ?_ (by first | omega | (simp; omega) | simp) _)))) ?_
      clear hK K
      (try simp only [List.getElem_toArray, List.getElem_cons_succ, List.getElem_cons_zero, Act.put, List.setIfInBounds_toArray, List.set_cons_zero, List.set_cons_succ])
      refine upto_done (by kernel_rfl) (NoPanic.normal ?_) _
      clear hSall
      have HPr := Lib.hid (show Pair w3.heap.size w5 fb nb R w4.heap.size w5.heap.size ⟨ae, ne, ce, aj, nj, cj, as_, ns, cs, al, nl, cl, lv⟩ p (newFld p) from ⟨HK3.out.calm hbx2, hff.below hb5, by rw [← ref_new Hc.out]; exact hrr, hfb, hbx1.size, .inl hff.box.lt⟩)
      have Hx5 := Lib.hid hbx2
      have h45 := hb5.size
      clear hbx1 hbx2 hff hrr hb4 hb5 hfb c0 c1 c2 c3 c4 c5 c6 c7 c8
      go_wp2_with fail
      have HBX := Lib.hid (show ∀ u, Below w3.heap.size w3 u → PBox u w.heap.size ⟨ae, ne, ce, aj, nj, cj, as_, ns, cs, al, nl, cl, lv⟩ p from fun u hu => HB3.out.below hu)
      have HQR := Lib.hid (show ∀ u, Below w3.heap.size w3 u → Bools u a2 n2 real from fun u hu => (HR2.out.below Hb3.out).below hu)
      have HQA := Lib.hid (show ∀ u, Below w3.heap.size w3 u → Ints u a3 n3 asp from fun u hu => (HR3.out.below Hb3.out).below hu)
      go_loopg [10, 12] n1 (fun k fv i wr => ∃ (j fb' : Nat) (f' : Fld), j + k = n1 ∧ fv = .pointer (some ⟨fb', 0, none⟩) ∧ i = .int .i64 j ∧ Hid (Pair w3.heap.size wr fb' nb R w4.heap.size w5.heap.size ⟨ae, ne, ce, aj, nj, cj, as_, ns, cs, al, nl, cl, lv⟩ p f') ∧ Hid (Below w3.heap.size w3 wr) ∧ w5.heap.size ≤ wr.heap.size)
      case atStart => exact ⟨0, fb, _, by omega, rfl, rfl, HPr.out, Hx5.out, Nat.le_refl _⟩
      case round =>
        obtain ⟨j, fb', f', hk, rfl, rfl, hp', hbx, h5w⟩ := hrel
        have Hk := Lib.hid hk; clear hk
        have HA := Lib.hid (show ∀ u, Below w3.heap.size wr u → Acts u a1 n1 xs1 from fun u hu => (HA1.out.below Hb3.out).below (hbx.out.trans hu))
        by_cases hlt : j < n1
        · obtain ⟨x, hx⟩ := get_some (HA.out wr (Below.refl _ _)).row.len hlt
          obtain ⟨g, off, ha, hg, g0, g1, g2, g3⟩ := (HA.out wr (Below.refl _ _)).row.act hx
          have Hd := Lib.hid (do_any w3.heap.size wr fb' nb R w4.heap.size w5.heap.size ⟨ae, ne, ce, aj, nj, cj, as_, ns, cs, al, nl, cl, lv⟩ p f' hp'.out x (fun u hu => (HA.out u hu).ints x (List.mem_of_getElem? hx)))
          dsimp only [ActV.val] at Hd
          subst ha
          clear hx
          go_wp2_with fail
          refine Hd.out.mono ?_
          rintro en w6 ⟨b', rfl, hbn, hp6, hu6⟩
          have hb6 : Below w3.heap.size wr w6 := mine_below hu6 hp'.out.mb hp'.out.ml (Nat.le_trans Hx5.out.size h5w)
          have H6 := Lib.hid hp6
          have HB6 := Lib.hid (hbx.out.trans hb6)
          have hs6 := hb6.size
          clear hp6 hu6 hb6 hbn
          go_wp2_with fail
          go_roundg (n1 - j - 1)
          case measure => have := Hk.out; omega
          case rel => exact ⟨j + 1, b', _, by have := Hk.out; omega, rfl, by go_num, H6.out, HB6.out, by omega⟩
        · clear HA
          obtain ⟨wo, rfl⟩ : ∃ wo : World, wo = wr := ⟨_, rfl⟩
          have hq : decide ((j : Int) < (n1 : Int)) = false := by simp; omega
          go_wp2_with fail
          refine (pos_n hne hp'.out.k.now hp'.out.fld).mono ?_
          rintro en v1 ⟨ga, ca, rfl, ho, hx, _⟩
          have P1 := Lib.hid (hp'.out.calm hx)
          have A1 := Lib.hid ho
          have B1 := Lib.hid (hbx.out.trans (hx.mono hp'.out.k.le))
          clear ho hx
          go_wp2_with fail
          refine (told_n hne P1.out.k.now P1.out.fld).mono ?_
          rintro en v2 ⟨gb, cb, rfl, ho, hx, _⟩
          have P2 := Lib.hid (P1.out.calm hx)
          have A2 := Lib.hid (A1.out.below hx)
          have T2 := Lib.hid ho
          have B2 := Lib.hid (B1.out.trans (hx.mono P1.out.k.le))
          clear ho hx
          go_wp2_with fail
          refine (occ_n hne P2.out.k.now P2.out.fld (HQR.out v2 B2.out)).mono ?_
          rintro en v3 ⟨gc, cc, rfl, ho, hx, _⟩
          have P3 := Lib.hid (P2.out.calm hx)
          have A3 := Lib.hid (A2.out.below hx)
          have T3 := Lib.hid (T2.out.below hx)
          have O3 := Lib.hid ho
          have B3 := Lib.hid (B2.out.trans (hx.mono P2.out.k.le))
          clear ho hx
          go_wp2_with fail
          refine (lamps_n hns P3.out.k.now P3.out.fld (HQA.out v3 B3.out)).mono ?_
          rintro en v4 ⟨gd, cd, rfl, ho, hx, _⟩
          have P4 := Lib.hid (P3.out.calm hx)
          have A4 := Lib.hid (A3.out.below hx)
          have T4 := Lib.hid (T3.out.below hx)
          have O4 := Lib.hid (O3.out.below hx)
          have S4 := Lib.hid ho
          have B4 := Lib.hid (B3.out.trans (hx.mono P3.out.k.le))
          clear ho hx
          have c0 := (HBX.out v4 B4.out).c0
          have c2 := (HBX.out v4 B4.out).c2
          dsimp only at c0 c2
          have hblv := (HBX.out v4 B4.out).lt
          have HK4 := Lib.hid P4.out.k
          clear hp' hbx
          go_wp2_with fail
          clear c0 c2 hblv
          go_loopg [17] ne (fun k i wr => ∃ q : Nat, q + k = ne ∧ i = .int .i64 q ∧ Hid (Ints wr (some ⟨gb, 0, none⟩) ne (f'.told p)) ∧ Hid (Ints wr (some ⟨ga, 0, none⟩) ne (f'.pos p)) ∧ Hid (Bools wr (some ⟨gc, 0, none⟩) ne (f'.occ p real)) ∧ Hid (Ints wr (some ⟨gd, 0, none⟩) ns (f'.lamps p asp)) ∧ Hid (NetK w3.heap.size wr nb ⟨ae, ne, ce, aj, nj, cj, as_, ns, cs, al, nl, cl, lv⟩ p) ∧ Hid (Below w3.heap.size w3 wr))
          case atStart => exact ⟨0, by omega, rfl, T4.out, A4.out, O4.out, S4.out, HK4.out, B4.out⟩
          case round =>
            obtain ⟨q, hqk, rfl, hT, hL, hO, hS, HKr, hB⟩ := hrel
            have Hq := Lib.hid hqk; clear hqk
            by_cases hqn : q < ne
            · obtain ⟨gt_, ot, hat, hgt, mT⟩ := hT.out.int (show (f'.told p)[q]? = some (toldPt (f'.pt q)) by simp [Fld.told, hne, hqn])
              cases hat
              obtain ⟨gl_, ol, hal, hgl, mL⟩ := hL.out.int (pos_at (p := p) (f := f') (e := q) (by omega))
              cases hal
              obtain ⟨go_, oo, hao, hgo, mO⟩ := hO.out.bool (show (f'.occ p real)[q]? = some (occAt p (f'.short.getD q false) real q) by simp [Fld.occ, hne, hqn])
              cases hao
              rw [Nat.zero_add] at mT mL mO
              by_cases ht0 : toldPt (f'.pt q) = 0
              · rw [ht0] at mT
                clear ht0
                by_cases hk4 : p.kind (q : Int) = 4
                · have k4 : (p.kind (q : Int) == 4) = true := by simp [hk4]
                  have k4' : (p.kind (q : Int) != 4) = false := by simp [hk4]
                  have ho : occAt p (f'.short.getD q false) real q = false := by unfold occAt; simp [hk4]
                  rw [ho] at mO
                  clear hk4 ho
                  go_wp2_with fail
                  have mTq := fun d os => cell_regrown mT d os
                  have mLq := fun d os => cell_regrown mL d os
                  have mOq := fun d os => cell_regrown mO d os
                  have cq0 : ∀ d os, Calls Try.prog 15 #[.pointer (some ⟨nb, 0, none⟩), .int .i64 (q : Int)] (grow (redrawn wr d) os) fun e w'' => e = .returned (.int .i64 (p.kind (q : Int))) ∧ ∃ rg : Regrown, w'' = grow (redrawn wr rg.d) rg.os := fun d os => Calls.regrown_of (nkind_any _ nb p ((HKr.out.calm (below_regrown _ d os)).now) (q : Int))
                  refine wp_region_quiet_below (by kernel_rfl) (by kernel_rfl) ?_
                  repeat (go_big_quiet_step (first | with_reducible exact cq0 _ _))
                  refine wpQuiet_nil ?_
                  intro vv hw'
                  have hbv : Below wr.heap.size wr vv := by obtain ⟨⟨d, os⟩, rfl⟩ := hw'; exact below_regrown _ d os
                  clear hw' mTq mLq mOq cq0
                  have HKv := Lib.hid (HKr.out.calm hbv)
                  have Tv := Lib.hid (hT.out.below hbv)
                  have Lv := Lib.hid (hL.out.below hbv)
                  have Ov := Lib.hid (hO.out.below hbv)
                  have Sv := Lib.hid (hS.out.below hbv)
                  have Bv := Lib.hid (hB.out.trans (hbv.mono HKr.out.le))
                  clear hbv
                  go_wp2_with fail
                  go_roundg (ne - q - 1)
                  case measure => have := Hq.out; omega
                  case rel => exact ⟨q + 1, by have := Hq.out; omega, by go_num, Tv.out, Lv.out, Ov.out, Sv.out, HKv.out, Bv.out⟩
                · have k4 : (p.kind (q : Int) == 4) = false := by simp [hk4]
                  have k4' : (p.kind (q : Int) != 4) = true := by simp [hk4]
                  by_cases hq2 : q < n2
                  · obtain ⟨rv, hrv⟩ := get_some HQ2.out.len hq2
                    obtain ⟨gr, orr, har, hgr, mR⟩ := ((HQR.out wr hB.out)).bool hrv
                    have hgr' := hgr
                    subst har
                    cases rv with
                    | true =>
                      have ho : occAt p (f'.short.getD q false) real q = true := by unfold occAt; rw [getD_some hrv]; simp [hk4]
                      rw [ho] at mO
                      clear hk4 ho hrv
                      go_wp2_with fail
                      have mTq := fun d os => cell_regrown mT d os
                      have mLq := fun d os => cell_regrown mL d os
                      have mOq := fun d os => cell_regrown mO d os
                      have mRq := fun d os => cell_regrown mR d os
                      have cq0 : ∀ d os, Calls Try.prog 15 #[.pointer (some ⟨nb, 0, none⟩), .int .i64 (q : Int)] (grow (redrawn wr d) os) fun e w'' => e = .returned (.int .i64 (p.kind (q : Int))) ∧ ∃ rg : Regrown, w'' = grow (redrawn wr rg.d) rg.os := fun d os => Calls.regrown_of (nkind_any _ nb p ((HKr.out.calm (below_regrown _ d os)).now) (q : Int))
                      refine wp_region_quiet_below (by kernel_rfl) (by kernel_rfl) ?_
                      repeat (go_big_quiet_step (first | with_reducible exact cq0 _ _))
                      refine wpQuiet_nil ?_
                      intro vv hw'
                      have hbv : Below wr.heap.size wr vv := by obtain ⟨⟨d, os⟩, rfl⟩ := hw'; exact below_regrown _ d os
                      clear hw' mTq mLq mOq mRq cq0
                      have HKv := Lib.hid (HKr.out.calm hbv)
                      have Tv := Lib.hid (hT.out.below hbv)
                      have Lv := Lib.hid (hL.out.below hbv)
                      have Ov := Lib.hid (hO.out.below hbv)
                      have Sv := Lib.hid (hS.out.below hbv)
                      have Bv := Lib.hid (hB.out.trans (hbv.mono HKr.out.le))
                      clear hbv
                      go_wp2_with fail
                      go_roundg (ne - q - 1)
                      case measure => have := Hq.out; omega
                      case rel => exact ⟨q + 1, by have := Hq.out; omega, by go_num, Tv.out, Lv.out, Ov.out, Sv.out, HKv.out, Bv.out⟩
                    | false =>
                      clear hk4 hrv
                      go_wp2_with fail
                      have mTq := fun d os => cell_regrown mT d os
                      have mLq := fun d os => cell_regrown mL d os
                      have mOq := fun d os => cell_regrown mO d os
                      have mRq := fun d os => cell_regrown mR d os
                      have cq0 : ∀ d os, Calls Try.prog 15 #[.pointer (some ⟨nb, 0, none⟩), .int .i64 (q : Int)] (grow (redrawn wr d) os) fun e w'' => e = .returned (.int .i64 (p.kind (q : Int))) ∧ ∃ rg : Regrown, w'' = grow (redrawn wr rg.d) rg.os := fun d os => Calls.regrown_of (nkind_any _ nb p ((HKr.out.calm (below_regrown _ d os)).now) (q : Int))
                      refine wp_region_quiet_below (by kernel_rfl) (by kernel_rfl) ?_
                      repeat (go_big_quiet_step (first | with_reducible exact cq0 _ _))
                      refine wpQuiet_nil ?_
                      intro vv hw'
                      have hbv : Below wr.heap.size wr vv := by obtain ⟨⟨d, os⟩, rfl⟩ := hw'; exact below_regrown _ d os
                      clear hw' mTq mLq mOq mRq cq0
                      have HKv := Lib.hid (HKr.out.calm hbv)
                      have Tv := Lib.hid (hT.out.below hbv)
                      have Lv := Lib.hid (hL.out.below hbv)
                      have Ov := Lib.hid (hO.out.below hbv)
                      have Sv := Lib.hid (hS.out.below hbv)
                      have Bv := Lib.hid (hB.out.trans (hbv.mono HKr.out.le))
                      clear hbv
                      go_wp2_with fail
                      go_roundg (ne - q - 1)
                      case measure => have := Hq.out; omega
                      case rel => exact ⟨q + 1, by have := Hq.out; omega, by go_num, Tv.out, Lv.out, Ov.out, Sv.out, HKv.out, Bv.out⟩
                  · have hq2' : decide ((q : Int) < (n2 : Int)) = false := by simp; omega
                    clear hk4
                    go_wp2_with fail
                    have mTq := fun d os => cell_regrown mT d os
                    have mLq := fun d os => cell_regrown mL d os
                    have mOq := fun d os => cell_regrown mO d os
                    have cq0 : ∀ d os, Calls Try.prog 15 #[.pointer (some ⟨nb, 0, none⟩), .int .i64 (q : Int)] (grow (redrawn wr d) os) fun e w'' => e = .returned (.int .i64 (p.kind (q : Int))) ∧ ∃ rg : Regrown, w'' = grow (redrawn wr rg.d) rg.os := fun d os => Calls.regrown_of (nkind_any _ nb p ((HKr.out.calm (below_regrown _ d os)).now) (q : Int))
                    refine wp_region_quiet_below (by kernel_rfl) (by kernel_rfl) ?_
                    repeat (go_big_quiet_step (first | with_reducible exact cq0 _ _))
                    refine wpQuiet_nil ?_
                    intro vv hw'
                    have hbv : Below wr.heap.size wr vv := by obtain ⟨⟨d, os⟩, rfl⟩ := hw'; exact below_regrown _ d os
                    clear hw' mTq mLq mOq cq0
                    have HKv := Lib.hid (HKr.out.calm hbv)
                    have Tv := Lib.hid (hT.out.below hbv)
                    have Lv := Lib.hid (hL.out.below hbv)
                    have Ov := Lib.hid (hO.out.below hbv)
                    have Sv := Lib.hid (hS.out.below hbv)
                    have Bv := Lib.hid (hB.out.trans (hbv.mono HKr.out.le))
                    clear hbv
                    go_wp2_with fail
                    go_roundg (ne - q - 1)
                    case measure => have := Hq.out; omega
                    case rel => exact ⟨q + 1, by have := Hq.out; omega, by go_num, Tv.out, Lv.out, Ov.out, Sv.out, HKv.out, Bv.out⟩
              · have htl : toldPt (f'.pt q) = posPt (f'.pt q) := told_ne ht0
                have t0 : (posPt (f'.pt q) != 0) = true := by rw [← htl]; simp [ht0]
                rw [htl] at mT
                clear ht0 htl
                by_cases hk4 : p.kind (q : Int) = 4
                · have k4 : (p.kind (q : Int) == 4) = true := by simp [hk4]
                  have k4' : (p.kind (q : Int) != 4) = false := by simp [hk4]
                  have ho : occAt p (f'.short.getD q false) real q = false := by unfold occAt; simp [hk4]
                  rw [ho] at mO
                  clear hk4 ho
                  go_wp2_with fail
                  have mTq := fun d os => cell_regrown mT d os
                  have mLq := fun d os => cell_regrown mL d os
                  have mOq := fun d os => cell_regrown mO d os
                  have cq0 : ∀ d os, Calls Try.prog 15 #[.pointer (some ⟨nb, 0, none⟩), .int .i64 (q : Int)] (grow (redrawn wr d) os) fun e w'' => e = .returned (.int .i64 (p.kind (q : Int))) ∧ ∃ rg : Regrown, w'' = grow (redrawn wr rg.d) rg.os := fun d os => Calls.regrown_of (nkind_any _ nb p ((HKr.out.calm (below_regrown _ d os)).now) (q : Int))
                  refine wp_region_quiet_below (by kernel_rfl) (by kernel_rfl) ?_
                  repeat (go_big_quiet_step (first | with_reducible exact cq0 _ _))
                  refine wpQuiet_nil ?_
                  intro vv hw'
                  have hbv : Below wr.heap.size wr vv := by obtain ⟨⟨d, os⟩, rfl⟩ := hw'; exact below_regrown _ d os
                  clear hw' mTq mLq mOq cq0
                  have HKv := Lib.hid (HKr.out.calm hbv)
                  have Tv := Lib.hid (hT.out.below hbv)
                  have Lv := Lib.hid (hL.out.below hbv)
                  have Ov := Lib.hid (hO.out.below hbv)
                  have Sv := Lib.hid (hS.out.below hbv)
                  have Bv := Lib.hid (hB.out.trans (hbv.mono HKr.out.le))
                  clear hbv
                  go_wp2_with fail
                  go_roundg (ne - q - 1)
                  case measure => have := Hq.out; omega
                  case rel => exact ⟨q + 1, by have := Hq.out; omega, by go_num, Tv.out, Lv.out, Ov.out, Sv.out, HKv.out, Bv.out⟩
                · have k4 : (p.kind (q : Int) == 4) = false := by simp [hk4]
                  have k4' : (p.kind (q : Int) != 4) = true := by simp [hk4]
                  by_cases hq2 : q < n2
                  · obtain ⟨rv, hrv⟩ := get_some HQ2.out.len hq2
                    obtain ⟨gr, orr, har, hgr, mR⟩ := ((HQR.out wr hB.out)).bool hrv
                    have hgr' := hgr
                    subst har
                    cases rv with
                    | true =>
                      have ho : occAt p (f'.short.getD q false) real q = true := by unfold occAt; rw [getD_some hrv]; simp [hk4]
                      rw [ho] at mO
                      clear hk4 ho hrv
                      go_wp2_with fail
                      have mTq := fun d os => cell_regrown mT d os
                      have mLq := fun d os => cell_regrown mL d os
                      have mOq := fun d os => cell_regrown mO d os
                      have mRq := fun d os => cell_regrown mR d os
                      have cq0 : ∀ d os, Calls Try.prog 15 #[.pointer (some ⟨nb, 0, none⟩), .int .i64 (q : Int)] (grow (redrawn wr d) os) fun e w'' => e = .returned (.int .i64 (p.kind (q : Int))) ∧ ∃ rg : Regrown, w'' = grow (redrawn wr rg.d) rg.os := fun d os => Calls.regrown_of (nkind_any _ nb p ((HKr.out.calm (below_regrown _ d os)).now) (q : Int))
                      refine wp_region_quiet_below (by kernel_rfl) (by kernel_rfl) ?_
                      repeat (go_big_quiet_step (first | with_reducible exact cq0 _ _))
                      refine wpQuiet_nil ?_
                      intro vv hw'
                      have hbv : Below wr.heap.size wr vv := by obtain ⟨⟨d, os⟩, rfl⟩ := hw'; exact below_regrown _ d os
                      clear hw' mTq mLq mOq mRq cq0
                      have HKv := Lib.hid (HKr.out.calm hbv)
                      have Tv := Lib.hid (hT.out.below hbv)
                      have Lv := Lib.hid (hL.out.below hbv)
                      have Ov := Lib.hid (hO.out.below hbv)
                      have Sv := Lib.hid (hS.out.below hbv)
                      have Bv := Lib.hid (hB.out.trans (hbv.mono HKr.out.le))
                      clear hbv
                      go_wp2_with fail
                      go_roundg (ne - q - 1)
                      case measure => have := Hq.out; omega
                      case rel => exact ⟨q + 1, by have := Hq.out; omega, by go_num, Tv.out, Lv.out, Ov.out, Sv.out, HKv.out, Bv.out⟩
                    | false =>
                      clear hk4 hrv
                      go_wp2_with fail
                      have mTq := fun d os => cell_regrown mT d os
                      have mLq := fun d os => cell_regrown mL d os
                      have mOq := fun d os => cell_regrown mO d os
                      have mRq := fun d os => cell_regrown mR d os
                      have cq0 : ∀ d os, Calls Try.prog 15 #[.pointer (some ⟨nb, 0, none⟩), .int .i64 (q : Int)] (grow (redrawn wr d) os) fun e w'' => e = .returned (.int .i64 (p.kind (q : Int))) ∧ ∃ rg : Regrown, w'' = grow (redrawn wr rg.d) rg.os := fun d os => Calls.regrown_of (nkind_any _ nb p ((HKr.out.calm (below_regrown _ d os)).now) (q : Int))
                      refine wp_region_quiet_below (by kernel_rfl) (by kernel_rfl) ?_
                      repeat (go_big_quiet_step (first | with_reducible exact cq0 _ _))
                      refine wpQuiet_nil ?_
                      intro vv hw'
                      have hbv : Below wr.heap.size wr vv := by obtain ⟨⟨d, os⟩, rfl⟩ := hw'; exact below_regrown _ d os
                      clear hw' mTq mLq mOq mRq cq0
                      have HKv := Lib.hid (HKr.out.calm hbv)
                      have Tv := Lib.hid (hT.out.below hbv)
                      have Lv := Lib.hid (hL.out.below hbv)
                      have Ov := Lib.hid (hO.out.below hbv)
                      have Sv := Lib.hid (hS.out.below hbv)
                      have Bv := Lib.hid (hB.out.trans (hbv.mono HKr.out.le))
                      clear hbv
                      go_wp2_with fail
                      go_roundg (ne - q - 1)
                      case measure => have := Hq.out; omega
                      case rel => exact ⟨q + 1, by have := Hq.out; omega, by go_num, Tv.out, Lv.out, Ov.out, Sv.out, HKv.out, Bv.out⟩
                  · have hq2' : decide ((q : Int) < (n2 : Int)) = false := by simp; omega
                    clear hk4
                    go_wp2_with fail
                    have mTq := fun d os => cell_regrown mT d os
                    have mLq := fun d os => cell_regrown mL d os
                    have mOq := fun d os => cell_regrown mO d os
                    have cq0 : ∀ d os, Calls Try.prog 15 #[.pointer (some ⟨nb, 0, none⟩), .int .i64 (q : Int)] (grow (redrawn wr d) os) fun e w'' => e = .returned (.int .i64 (p.kind (q : Int))) ∧ ∃ rg : Regrown, w'' = grow (redrawn wr rg.d) rg.os := fun d os => Calls.regrown_of (nkind_any _ nb p ((HKr.out.calm (below_regrown _ d os)).now) (q : Int))
                    refine wp_region_quiet_below (by kernel_rfl) (by kernel_rfl) ?_
                    repeat (go_big_quiet_step (first | with_reducible exact cq0 _ _))
                    refine wpQuiet_nil ?_
                    intro vv hw'
                    have hbv : Below wr.heap.size wr vv := by obtain ⟨⟨d, os⟩, rfl⟩ := hw'; exact below_regrown _ d os
                    clear hw' mTq mLq mOq cq0
                    have HKv := Lib.hid (HKr.out.calm hbv)
                    have Tv := Lib.hid (hT.out.below hbv)
                    have Lv := Lib.hid (hL.out.below hbv)
                    have Ov := Lib.hid (hO.out.below hbv)
                    have Sv := Lib.hid (hS.out.below hbv)
                    have Bv := Lib.hid (hB.out.trans (hbv.mono HKr.out.le))
                    clear hbv
                    go_wp2_with fail
                    go_roundg (ne - q - 1)
                    case measure => have := Hq.out; omega
                    case rel => exact ⟨q + 1, by have := Hq.out; omega, by go_num, Tv.out, Lv.out, Ov.out, Sv.out, HKv.out, Bv.out⟩
            · have hqe : q = ne := by have := Hq.out; omega
              have hqd : decide ((q : Int) < (ne : Int)) = false := by simp; omega
              clear hqe
              obtain ⟨wp, rfl⟩ : ∃ wp : World, wp = wr := ⟨_, rfl⟩
              go_wp2_with fail
              go_loopg [18] ns (fun k i wr => ∃ q : Nat, q + k = ns ∧ i = .int .i64 q ∧ Hid (Ints wr (some ⟨gd, 0, none⟩) ns (f'.lamps p asp)) ∧ Hid (NetK w3.heap.size wr nb ⟨ae, ne, ce, aj, nj, cj, as_, ns, cs, al, nl, cl, lv⟩ p) ∧ Hid (Below w3.heap.size w3 wr))
              case atStart => exact ⟨0, by omega, rfl, hS.out, HKr.out, hB.out⟩
              case round =>
                obtain ⟨q, hqk, rfl, hS, hK, hB⟩ := hrel
                have Hq := Lib.hid hqk; clear hqk
                by_cases hqn : q < ns
                · obtain ⟨gs_, os, has, hgs, mS⟩ := hS.out.int (show (f'.lamps p asp)[q]? = some (lampAt (f'.dark.getD q false) (asp.getD q 0)) by simp [Fld.lamps, hns, hqn])
                  cases has
                  rw [Nat.zero_add] at mS
                  by_cases hl0 : lampAt (f'.dark.getD q false) (asp.getD q 0) = 0
                  · rw [hl0] at mS
                    clear hl0
                    go_wp2_with fail
                    have mSq := fun d os => cell_regrown mS d os
                    refine wp_region_quiet_below (by kernel_rfl) (by kernel_rfl) ?_
                    repeat (go_big_quiet_step (fail))
                    refine wpQuiet_nil ?_
                    intro vv hw'
                    have hbv : Below wr.heap.size wr vv := by obtain ⟨⟨d, os⟩, rfl⟩ := hw'; exact below_regrown _ d os
                    clear hw' mSq 
                    have Sv := Lib.hid (hS.out.below hbv)
                    have HKv := Lib.hid (hK.out.calm hbv)
                    have Bv := Lib.hid (hB.out.trans (hbv.mono hK.out.le))
                    clear hbv
                    go_wp2_with fail
                    go_roundg (ns - q - 1)
                    case measure => have := Hq.out; omega
                    case rel => exact ⟨q + 1, by have := Hq.out; omega, by go_num, Sv.out, HKv.out, Bv.out⟩
                  · have hq3 : q < n3 := by
                      apply Classical.byContradiction
                      intro hc
                      apply hl0
                      rw [getD_none (l := asp) (by have := HQ3.out.len; omega)]
                      unfold lampAt; simp
                    obtain ⟨av, hav⟩ := get_some HQ3.out.len hq3
                    have hla : lampAt (f'.dark.getD q false) (asp.getD q 0) = av := by
                      rw [getD_some hav] at hl0 ⊢
                      unfold lampAt at hl0 ⊢
                      split at hl0
                      · rename_i hh; rw [if_pos hh]
                      · exact absurd rfl hl0
                    rw [hla] at hl0 mS
                    have l0 : (av != 0) = true := by simp [hl0]
                    have l3 : decide ((n3 : Int) ≤ (q : Int)) = false := by simp; omega
                    have l4 : ¬ (n3 : Int) ≤ (q : Int) := by omega
                    have l5 : ¬ n3 ≤ q := by omega
                    have l6 : decide ((q : Int) ≥ (n3 : Int)) = false := by simp; omega
                    obtain ⟨gr, orr, har, hgr, mR⟩ := (HQA.out wr hB.out).int hav
                    subst har
                    clear hl0 hla hav
                    go_wp2_with fail
                    have mSq := fun d os => cell_regrown mS d os
                    have mRq := fun d os => cell_regrown mR d os
                    refine wp_region_quiet_below (by kernel_rfl) (by kernel_rfl) ?_
                    repeat (go_big_quiet_step (fail))
                    refine wpQuiet_nil ?_
                    intro vv hw'
                    have hbv : Below wr.heap.size wr vv := by obtain ⟨⟨d, os⟩, rfl⟩ := hw'; exact below_regrown _ d os
                    clear hw' mSq mRq 
                    have Sv := Lib.hid (hS.out.below hbv)
                    have HKv := Lib.hid (hK.out.calm hbv)
                    have Bv := Lib.hid (hB.out.trans (hbv.mono hK.out.le))
                    clear hbv
                    go_wp2_with fail
                    go_roundg (ns - q - 1)
                    case measure => have := Hq.out; omega
                    case rel => exact ⟨q + 1, by have := Hq.out; omega, by go_num, Sv.out, HKv.out, Bv.out⟩
                · have hqd2 : decide ((q : Int) < (ns : Int)) = false := by simp; omega
                  go_wp2_with fail
                  go_ret
                  exact ⟨rfl, below_step Hb3.out hB.out Hb3.out.size⟩
set_option maxRecDepth 100000 in
theorem fieldSafe_lifted (os : Os) (started : os.Started) (H : Type) (enc : TypeId × Value → H) :
    ReturnsInHanded {} Try.checked os 6 .any (Rows.fieldSafeSpec.pre6 enc Try.prog Try.f6 Rows.fieldSafeRow.domain false) (Rows.fieldSafeSpec.post enc Try.prog Try.f6 false true false false) := by
  refine returnsInHanded_of_change (C := Try.checked) own started (by kernel_rfl) Try.func6
    (ChangeSpec.witness6 (enc := enc) (C := Try.checked) false ⟨#[], #[.agg #[.slice none 0 0, .slice none 0 0, .slice none 0 0, .slice none 0 0, .int .i64 0, .int .i64 0, .int .i64 0, .int .i64 0, .bool false], .slice none 0 0, .slice none 0 0, .slice none 0 0], []⟩ 8 (by kernel_rfl) (by kernel_rfl) (by kernel_rfl) (by kernel_rfl)) ?_
  intro W base args ds gs before hval0 hW hcnd _
  have hval : ∀ (j : Nat) t v, Try.f6.params[j]? = some t → args[j]? = some v → Value.okWide Try.prog W .any base t v := hval0
  have hW' := hW
  obtain ⟨p, q, hA0, hV, rfl, hfz, hnd⟩ := hW
  have hA : DataW.TrodAll enc Try.prog W 0 (fun _ => true) true Try.f6.params.toList args.toList ds p := hA0
  rw [Try.params6] at hA hval
  obtain ⟨v0, vs0, d0, ds0, p0, q0, hargs, rfl, rfl, k0, r0⟩ := trodAll_cons hA
  obtain ⟨v1, vs1, d1, ds1, p1, q1, rfl, rfl, rfl, k1, r1⟩ := trodAll_cons r0
  obtain ⟨v2, vs2, d2, ds2, p2, q2, rfl, rfl, rfl, k2, r2⟩ := trodAll_cons r1
  obtain ⟨v3, vs3, d3, ds3, p3, q3, rfl, rfl, rfl, k3, r3⟩ := trodAll_cons r2
  obtain ⟨rfl, rfl, rfl⟩ := trodAll_nil r3
  obtain rfl : args = #[v0, v1, v2, v3] := by cases args; simp_all
  obtain ⟨rfl, rfl⟩ := trodVars_none hV
  have lt0 : ∀ x ∈ p0, x.block < W.heap.size := by obtain ⟨m, hm⟩ := k0; exact DataW.trod_lt m _ _ _ hm
  have hv0 := hval 0 27 v0 rfl rfl
  have lt1 : ∀ x ∈ p1, x.block < W.heap.size := by obtain ⟨m, hm⟩ := k1; exact DataW.trod_lt m _ _ _ hm
  have hv1 := hval 1 41 v1 rfl rfl
  have lt2 : ∀ x ∈ p2, x.block < W.heap.size := by obtain ⟨m, hm⟩ := k2; exact DataW.trod_lt m _ _ _ hm
  have hv2 := hval 2 42 v2 rfl rfl
  have lt3 : ∀ x ∈ p3, x.block < W.heap.size := by obtain ⟨m, hm⟩ := k3; exact DataW.trod_lt m _ _ _ hm
  have hv3 := hval 3 28 v3 rfl rfl
  have fin : Calls Try.prog 6 #[v0, v1, v2, v3] W (fun e W' => e = .returned (.bool true) ∧ Below W.heap.size W W') := by
    obtain ⟨pv, p, rfl, hp⟩ := open_plan hv0 k0
    obtain ⟨a1, n1, c1, xs1, rfl, h1⟩ := open_acts hv1 k1
    obtain ⟨a2, n2, c2, xs2, rfl, h2⟩ := open_Bools hv2 k2
    obtain ⟨a3, n3, c3, xs3, rfl, h3, _, _, _⟩ := open_Ints hv3 k3
    exact lawSafe_any W pv p a1 n1 c1 xs1 a2 n2 c2 xs2 a3 n3 c3 xs3 hp h1 h2 h3
  clear hA0 hval0
  refine fin.mono fun e W' ⟨he, bel⟩ => ?_
  subst he
  exact ⟨_, rfl, _, _, _, [], _, [], hW', trodAll_mk1 (shut_bool Try.underlying4 _), (trodAll_cons_mk (Below.trod laidOut (by kernel_rfl) (of_decide_eq_true (by kernel_rfl)) k0 bel lt0) (trodAll_cons_mk (Below.trod laidOut (by kernel_rfl) (of_decide_eq_true (by kernel_rfl)) k1 bel lt1) (trodAll_cons_mk (Below.trod laidOut (by kernel_rfl) (of_decide_eq_true (by kernel_rfl)) k2 bel lt2) (trodAll_cons_mk (Below.trod laidOut (by kernel_rfl) (of_decide_eq_true (by kernel_rfl)) k3 bel lt3) trodAll_mk0)))), rfl, bel.frame _, fun h => by cases h⟩

/-- THE STATEMENT -/
theorem fieldSafe_holds : Rows.FieldSafeSaid :=
  OpenClaim.holds_of_wide 6 Try.f6 rfl rfl rfl rfl rfl rfl rfl ⟨rfl, rfl, rfl, rfl, rfl⟩ rfl rfl rfl rfl rfl (by kernel_rfl) Try.func6 (by kernel_rfl)
    (of_decide_eq_true (by kernel_rfl)) (by unfold Func.isWrapper; first | (rw [if_pos (by decide +kernel)]; kernel_rfl) | (rw [if_neg (by decide +kernel)]; exact ⟨rfl, rfl⟩))
    (fun os started H enc _ => fieldSafe_lifted os started H enc)
end Go.Proofs.Ytlgekkffekagbaa
