/- FieldTwins: for every input the law returns true. No condition. -/
import Derived.Test.YtlgekkffekagbaaFieldL3
set_option maxRecDepth 1000000
namespace Go.Proofs.Ytlgekkffekagbaa
open Go.ChangeShapes Go.WideShapes Go.ChangeAt Go.RowKit Go.Sort

set_option maxHeartbeats 1600000 in
theorem lawTwins_any (w : World) (pv : PV) (p : Plan) (a1 : Option Addr) (n1 cap1 : Nat) (xs1 : List ActV) (a2 : Option Addr) (n2 cap2 : Nat) (xs2 : List ActV) (h : PlanAt w pv p) (h1 : Acts w a1 n1 xs1) (h2 : Acts w a2 n2 xs2) :
    Calls Try.prog 7 #[pv.val p, .slice a1 n1 cap1, .slice a2 n2 cap2] w fun en w' => en = .returned (.bool true) ∧ Below w.heap.size w w' := by
  have HA1 := Lib.hid h1
  have HA2 := Lib.hid h2
  clear h1 h2
  obtain ⟨ae, ne, ce, aj, nj, cj, as_, ns, cs, al, nl, cl, lv⟩ := pv
  have hP := Lib.hid h
  have HBa := Lib.hid (pbox_new w ⟨ae, ne, ce, aj, nj, cj, as_, ns, cs, al, nl, cl, lv⟩ p)
  have Hba := Lib.hid (below_new w (.cells #[.slice ae ne ce, .slice aj nj cj, .slice as_ ns cs, .slice al nl cl, .int .i64 p.top, .int .i64 p.brake, .int .i64 p.margin, .int .i64 p.throw, .bool p.hard] 27))
  have K := Lib.hid (known13_any (w.alloc (.cells #[.slice ae ne ce, .slice aj nj cj, .slice as_ ns cs, .slice al nl cl, .int .i64 p.top, .int .i64 p.brake, .int .i64 p.margin, .int .i64 p.throw, .bool p.hard] 27)))
  have HF := Lib.hid (fun (u : World) (hb : Below w.heap.size w u) => finex_l (w := u) (hP.out.below hb))
  clear h
  dsimp only [PV.val]
  obtain ⟨_, c0, c1, c2, c3, c4, c5, c6, c7, c8⟩ := HBa.out
  dsimp only at c0 c1 c2 c3
  cases hf : fine p with
  | false =>
    rw [hf] at HF
    clear hf
    go_enter Try.func7, Try.ntmps7
    go_wp2_with fail
    refine (K.out).mono ?_
    rintro e w1 ⟨rfl, hbx⟩
    have HB1 := Lib.hid (HBa.out.below hbx)
    have Hb1 := Lib.hid (below_step Hba.out hbx Hba.out.size)
    clear hbx c0 c1 c2 c3 c4 c5 c6 c7 c8
    obtain ⟨_, c0, c1, c2, c3, c4, c5, c6, c7, c8⟩ := HB1.out
    dsimp only at c0 c1 c2 c3
    clear K
    go_wp2_with fail
    refine (HF.out w1 Hb1.out).mono ?_
    rintro e w2 ⟨rfl, hbx⟩
    have HB2 := Lib.hid (HB1.out.below hbx)
    have Hb2 := Lib.hid (below_step Hb1.out hbx Hb1.out.size)
    clear hbx c0 c1 c2 c3 c4 c5 c6 c7 c8
    obtain ⟨_, c0, c1, c2, c3, c4, c5, c6, c7, c8⟩ := HB2.out
    dsimp only at c0 c1 c2 c3
    go_wp2_with fail
    go_ret
    exact ⟨rfl, Hb2.out⟩
  | true =>
    rw [hf] at HF
    have C1 := Lib.hid (fun (u : World) (hb : Below w.heap.size w u) => fewacts_any u a1 n1 cap1 xs1 (HA1.out.below hb))
    cases hq1 : fewActs n1 xs1 with
    | false =>
      rw [hq1] at C1
      go_enter Try.func7, Try.ntmps7
      go_wp2_with fail
      refine (K.out).mono ?_
      rintro e w1 ⟨rfl, hbx⟩
      have HB1 := Lib.hid (HBa.out.below hbx)
      have Hb1 := Lib.hid (below_step Hba.out hbx Hba.out.size)
      clear hbx c0 c1 c2 c3 c4 c5 c6 c7 c8
      obtain ⟨_, c0, c1, c2, c3, c4, c5, c6, c7, c8⟩ := HB1.out
      dsimp only at c0 c1 c2 c3
      clear K
      go_wp2_with fail
      refine (HF.out w1 Hb1.out).mono ?_
      rintro e w2 ⟨rfl, hbx⟩
      have HB2 := Lib.hid (HB1.out.below hbx)
      have Hb2 := Lib.hid (below_step Hb1.out hbx Hb1.out.size)
      clear hbx c0 c1 c2 c3 c4 c5 c6 c7 c8
      obtain ⟨_, c0, c1, c2, c3, c4, c5, c6, c7, c8⟩ := HB2.out
      dsimp only at c0 c1 c2 c3
      go_wp2_with fail
      refine (C1.out w2 Hb2.out).mono ?_
      rintro e w2_ ⟨rfl, rfl⟩
      go_wp2_with fail
      go_ret
      exact ⟨rfl, Hb2.out⟩
    | true =>
      rw [hq1] at C1
      have C2 := Lib.hid (fun (u : World) (hb : Below w.heap.size w u) => fewacts_any u a2 n2 cap2 xs2 (HA2.out.below hb))
      cases hq2 : fewActs n2 xs2 with
      | false =>
        rw [hq2] at C2
        go_enter Try.func7, Try.ntmps7
        go_wp2_with fail
        refine (K.out).mono ?_
        rintro e w1 ⟨rfl, hbx⟩
        have HB1 := Lib.hid (HBa.out.below hbx)
        have Hb1 := Lib.hid (below_step Hba.out hbx Hba.out.size)
        clear hbx c0 c1 c2 c3 c4 c5 c6 c7 c8
        obtain ⟨_, c0, c1, c2, c3, c4, c5, c6, c7, c8⟩ := HB1.out
        dsimp only at c0 c1 c2 c3
        clear K
        go_wp2_with fail
        refine (HF.out w1 Hb1.out).mono ?_
        rintro e w2 ⟨rfl, hbx⟩
        have HB2 := Lib.hid (HB1.out.below hbx)
        have Hb2 := Lib.hid (below_step Hb1.out hbx Hb1.out.size)
        clear hbx c0 c1 c2 c3 c4 c5 c6 c7 c8
        obtain ⟨_, c0, c1, c2, c3, c4, c5, c6, c7, c8⟩ := HB2.out
        dsimp only at c0 c1 c2 c3
        go_wp2_with fail
        refine (C1.out w2 Hb2.out).mono ?_
        rintro e w2_ ⟨rfl, rfl⟩
        go_wp2_with fail
        refine (C2.out w2 Hb2.out).mono ?_
        rintro e w2_ ⟨rfl, rfl⟩
        go_wp2_with fail
        go_ret
        exact ⟨rfl, Hb2.out⟩
      | true =>
        rw [hq2] at C2
        have HM := Lib.hid (fun (u : World) (hb : Below w.heap.size w u) => made_any u ⟨ae, ne, ce, aj, nj, cj, as_, ns, cs, al, nl, cl, lv⟩ p hf (hP.out.below hb))
        have Hok := Lib.hid (few_ok hP.out (fine_few hf).1)
        have Hc := Lib.hid (fine_few hf).2
        clear hf
        dsimp only [PV.val] at HM
        go_enter Try.func7, Try.ntmps7
        go_wp2_with fail
        refine (K.out).mono ?_
        rintro e w1 ⟨rfl, hbx⟩
        have HB1 := Lib.hid (HBa.out.below hbx)
        have Hb1 := Lib.hid (below_step Hba.out hbx Hba.out.size)
        clear hbx c0 c1 c2 c3 c4 c5 c6 c7 c8
        obtain ⟨_, c0, c1, c2, c3, c4, c5, c6, c7, c8⟩ := HB1.out
        dsimp only at c0 c1 c2 c3
        clear K
        go_wp2_with fail
        refine (HF.out w1 Hb1.out).mono ?_
        rintro e w2 ⟨rfl, hbx⟩
        have HB2 := Lib.hid (HB1.out.below hbx)
        have Hb2 := Lib.hid (below_step Hb1.out hbx Hb1.out.size)
        clear hbx c0 c1 c2 c3 c4 c5 c6 c7 c8
        obtain ⟨_, c0, c1, c2, c3, c4, c5, c6, c7, c8⟩ := HB2.out
        dsimp only at c0 c1 c2 c3
        go_wp2_with fail
        refine (C1.out w2 Hb2.out).mono ?_
        rintro e w2_ ⟨rfl, rfl⟩
        go_wp2_with fail
        refine (C2.out w2 Hb2.out).mono ?_
        rintro e w2_ ⟨rfl, rfl⟩
        go_wp2_with fail
        refine (HM.out w2 Hb2.out).mono ?_
        rintro e w3 ⟨nb, rfl, hbb, hn, hbx⟩
        have HB3 := Lib.hid (HB2.out.below hbx)
        have Hb3 := Lib.hid (below_step Hb2.out hbx Hb2.out.size)
        have HN3 := Lib.hid hn
        have hbb := Nat.le_trans Hb2.out.size hbb
        clear hbx hn HF HM c0 c1 c2 c3 c4 c5 c6 c7 c8
        obtain ⟨_, c0, c1, c2, c3, c4, c5, c6, c7, c8⟩ := HB3.out
        dsimp only at c0 c1 c2 c3
        have HK3 := Lib.hid (NetK.start HN3.out (hP.out.below Hb3.out))
        go_wp2_with fail
        have hn1 : n1 ≤ 60 := fewActs_le hq1
        have hn2 : n2 ≤ 60 := fewActs_le hq2
        clear hq1 hq2
        have hbl : w.heap.size < w3.heap.size := by have := Hba.out.size; have := HB3.out.lt; omega
        have hSall : ∀ w' : World, Below (w3).heap.size (w3) w' → (w'.cell? ⟨w.heap.size, 0, none⟩ = some (.slice ae ne ce) ∧ w'.cell? ⟨w.heap.size, 1, none⟩ = some (.slice aj nj cj) ∧ w'.cell? ⟨w.heap.size, 2, none⟩ = some (.slice as_ ns cs) ∧ w'.cell? ⟨w.heap.size, 3, none⟩ = some (.slice al nl cl) ∧ w'.cell? ⟨w.heap.size, 4, none⟩ = some (.int .i64 p.top) ∧ w'.cell? ⟨w.heap.size, 5, none⟩ = some (.int .i64 p.brake) ∧ w'.cell? ⟨w.heap.size, 6, none⟩ = some (.int .i64 p.margin) ∧ w'.cell? ⟨w.heap.size, 7, none⟩ = some (.int .i64 p.throw) ∧ w'.cell? ⟨w.heap.size, 8, none⟩ = some (.bool p.hard)) := fun w' hb => ⟨(hb.cell (p := ⟨w.heap.size, 0, none⟩) hbl).trans c0, (hb.cell (p := ⟨w.heap.size, 1, none⟩) hbl).trans c1, (hb.cell (p := ⟨w.heap.size, 2, none⟩) hbl).trans c2, (hb.cell (p := ⟨w.heap.size, 3, none⟩) hbl).trans c3, (hb.cell (p := ⟨w.heap.size, 4, none⟩) hbl).trans c4, (hb.cell (p := ⟨w.heap.size, 5, none⟩) hbl).trans c5, (hb.cell (p := ⟨w.heap.size, 6, none⟩) hbl).trans c6, (hb.cell (p := ⟨w.heap.size, 7, none⟩) hbl).trans c7, (hb.cell (p := ⟨w.heap.size, 8, none⟩) hbl).trans c8⟩
        refine wp_region_noPanic ?_
        refine region_upto (S := fun w' => w'.cell? ⟨w.heap.size, 0, none⟩ = some (.slice ae ne ce) ∧ w'.cell? ⟨w.heap.size, 1, none⟩ = some (.slice aj nj cj) ∧ w'.cell? ⟨w.heap.size, 2, none⟩ = some (.slice as_ ns cs) ∧ w'.cell? ⟨w.heap.size, 3, none⟩ = some (.slice al nl cl) ∧ w'.cell? ⟨w.heap.size, 4, none⟩ = some (.int .i64 p.top) ∧ w'.cell? ⟨w.heap.size, 5, none⟩ = some (.int .i64 p.brake) ∧ w'.cell? ⟨w.heap.size, 6, none⟩ = some (.int .i64 p.margin) ∧ w'.cell? ⟨w.heap.size, 7, none⟩ = some (.int .i64 p.throw) ∧ w'.cell? ⟨w.heap.size, 8, none⟩ = some (.bool p.hard)) (n := 6) (by kernel_rfl) ?_
        refine upto_take (i := 0) (v := .pointer (some ⟨nb, 0, none⟩)) rfl (by kernel_rfl) (by kernel_rfl) (by kernel_rfl) (by kernel_rfl) (fun _ _ _ h => h) (Or.inl ⟨by rfl, ?_⟩) (hSall _ (by repeat (first | with_reducible exact Below.refl _ _ | with_reducible assumption | with_reducible exact below_new _ _ | with_reducible apply below_drewN | with_reducible apply Below.drew | with_reducible refine below_set (Nat.le_refl _) ?_ _ | ((with_reducible refine below_set ?_ ?_ _); omega) | with_reducible refine Below.alloc ?_ (by first | omega | (simp; omega) | simp) _))) ?_
        · intro w' hSw
          (try dsimp only at hSw)
          go_simp
        (try simp only [List.getElem_toArray, List.getElem_cons_zero, Act.put, List.setIfInBounds_toArray, List.set_cons_zero, List.set_cons_succ])
        refine upto_take (i := 2) (v := .agg #[.slice ae ne ce, .slice aj nj cj, .slice as_ ns cs, .slice al nl cl, .int .i64 p.top, .int .i64 p.brake, .int .i64 p.margin, .int .i64 p.throw, .bool p.hard]) rfl (by kernel_rfl) (by kernel_rfl) (by kernel_rfl) (by kernel_rfl) (fun _ _ _ h => h) (Or.inl ⟨by rfl, ?_⟩) (hSall _ (by repeat (first | with_reducible exact Below.refl _ _ | with_reducible assumption | with_reducible exact below_new _ _ | with_reducible apply below_drewN | with_reducible apply Below.drew | with_reducible refine below_set (Nat.le_refl _) ?_ _ | ((with_reducible refine below_set ?_ ?_ _); omega) | with_reducible refine Below.alloc ?_ (by first | omega | (simp; omega) | simp) _))) ?_
        · intro w' hSw
          (try dsimp only at hSw)
          go_simp
        (try simp only [List.getElem_toArray, List.getElem_cons_succ, List.getElem_cons_zero, Act.put, List.setIfInBounds_toArray, List.set_cons_zero, List.set_cons_succ])
        refine upto_step (i := 1) (by kernel_rfl) rfl (fun K hK => ?_)
        go_simp
        refine (newf_any _ nb p (HN3.out.below (Below.refl w3.heap.size w3).drew)).mono ?_
        rintro en w4 ⟨fb, rfl, hfb, hff, hb4⟩
        have hbx1 : Below w3.heap.size w3 w4 := (Below.refl w3.heap.size w3).drew.trans hb4
        refine hK _ _ (fun _ => (hSall _ (by repeat (first | with_reducible exact Below.refl _ _ | with_reducible assumption | with_reducible exact below_new _ _ | with_reducible apply below_drewN | with_reducible apply Below.drew | with_reducible refine below_set (Nat.le_refl _) ?_ _ | ((with_reducible refine below_set ?_ ?_ _); omega) | with_reducible refine Below.alloc ?_ (by first | omega | (simp; omega) | simp) _)))) ?_
        clear hK K
        (try simp only [List.getElem_toArray, List.getElem_cons_succ, List.getElem_cons_zero, Act.put, List.setIfInBounds_toArray, List.set_cons_zero, List.set_cons_succ])
        refine upto_step (i := 3) (by kernel_rfl) rfl (fun K hK => ?_)
        go_simp
        refine (newfield_any w4 ⟨ae, ne, ce, aj, nj, cj, as_, ns, cs, al, nl, cl, lv⟩ p (hP.out.below (below_step Hb3.out hbx1 Hb3.out.size)) Hc.out).mono ?_
        rintro en w5 ⟨R, rfl, hrr, hb5⟩
        have hbx2 : Below w3.heap.size w3 w5 := below_step hbx1 hb5 hbx1.size
        refine hK _ _ (fun _ => (hSall _ (by repeat (first | with_reducible exact Below.refl _ _ | with_reducible assumption | with_reducible exact below_new _ _ | with_reducible apply below_drewN | with_reducible apply Below.drew | with_reducible refine below_set (Nat.le_refl _) ?_ _ | ((with_reducible refine below_set ?_ ?_ _); omega) | with_reducible refine Below.alloc ?_ (by first | omega | (simp; omega) | simp) _)))) ?_
        clear hK K
        (try simp only [List.getElem_toArray, List.getElem_cons_succ, List.getElem_cons_zero, Act.put, List.setIfInBounds_toArray, List.set_cons_zero, List.set_cons_succ])
        refine upto_step (i := 4) (by kernel_rfl) rfl (fun K hK => ?_)
        go_simp
        refine hK _ _ (fun _ => (hSall _ (by repeat (first | with_reducible exact Below.refl _ _ | with_reducible assumption | with_reducible exact below_new _ _ | with_reducible apply below_drewN | with_reducible apply Below.drew | with_reducible refine below_set (Nat.le_refl _) ?_ _ | ((with_reducible refine below_set ?_ ?_ _); omega) | with_reducible refine Below.alloc ?_ (by first | omega | (simp; omega) | simp) _)))) ?_
        clear hK K
        (try simp only [List.getElem_toArray, List.getElem_cons_succ, List.getElem_cons_zero, Act.put, List.setIfInBounds_toArray, List.set_cons_zero, List.set_cons_succ])
        refine upto_step (i := 5) (by kernel_rfl) rfl (fun K hK => ?_)
        go_simp
        refine hK _ _ (fun _ => (hSall _ (by repeat (first | with_reducible exact Below.refl _ _ | with_reducible assumption | with_reducible exact below_new _ _ | with_reducible apply below_drewN | with_reducible apply Below.drew | with_reducible refine below_set (Nat.le_refl _) ?_ _ | ((with_reducible refine below_set ?_ ?_ _); omega) | with_reducible refine Below.alloc ?_ (by first | omega | (simp; omega) | simp) _)))) ?_
        clear hK K
        (try simp only [List.getElem_toArray, List.getElem_cons_succ, List.getElem_cons_zero, Act.put, List.setIfInBounds_toArray, List.set_cons_zero, List.set_cons_succ])
        refine upto_done (by kernel_rfl) (NoPanic.normal ?_) _
        clear hSall
        have HPr := Lib.hid (show Pair w3.heap.size w5 fb nb R w4.heap.size w5.heap.size ⟨ae, ne, ce, aj, nj, cj, as_, ns, cs, al, nl, cl, lv⟩ p (newFld p) from ⟨HK3.out.calm hbx2, hff.below hb5, by rw [← ref_new Hc.out]; exact hrr, hfb, hbx1.size, .inl hff.box.lt⟩)
        have Hx5 := Lib.hid hbx2
        have h45 := hb5.size
        clear hbx1 hbx2 hff hrr hb4 hb5 hfb c0 c1 c2 c3 c4 c5 c6 c7 c8
        go_wp2_with fail
        go_loopg [8, 10] n1 (fun k fv i wr => ∃ (j fb' : Nat) (f' : Fld), j + k = n1 ∧ fv = .pointer (some ⟨fb', 0, none⟩) ∧ i = .int .i64 j ∧ Hid (Pair w3.heap.size wr fb' nb R w4.heap.size w5.heap.size ⟨ae, ne, ce, aj, nj, cj, as_, ns, cs, al, nl, cl, lv⟩ p f') ∧ Hid (Below w3.heap.size w3 wr) ∧ w5.heap.size ≤ wr.heap.size)
        case atStart => exact ⟨0, fb, _, by omega, rfl, rfl, HPr.out, Hx5.out, Nat.le_refl _⟩
        case round =>
          obtain ⟨j, fb', f', hk, rfl, rfl, hp', hbx, h5w⟩ := hrel
          have Hk := Lib.hid hk; clear hk
          have HA := Lib.hid (show ∀ u, Below w3.heap.size wr u → Acts u a1 n1 xs1 from fun u hu => (HA1.out.below Hb3.out).below (hbx.out.trans hu))
          by_cases hlt : j < n1
          · obtain ⟨x, hx⟩ := get_some (HA.out wr (Below.refl _ _)).row.len hlt
            obtain ⟨g, off, ha, hg, g0, g1, g2, g3⟩ := (HA.out wr (Below.refl _ _)).row.act hx
            have Hd := Lib.hid (do_any w3.heap.size wr fb' nb R w4.heap.size w5.heap.size ⟨ae, ne, ce, aj, nj, cj, as_, ns, cs, al, nl, cl, lv⟩ p f' hp'.out x (fun u hu => (HA.out u hu).ints x (List.mem_of_getElem? hx)))
            dsimp only [ActV.val] at Hd
            subst ha
            clear hx
            go_wp2_with fail
            refine Hd.out.mono ?_
            rintro en w6 ⟨b', rfl, hbn, hp6, hu6⟩
            have hb6 : Below w3.heap.size wr w6 := mine_below hu6 hp'.out.mb hp'.out.ml (Nat.le_trans Hx5.out.size h5w)
            have H6 := Lib.hid hp6
            have HB6 := Lib.hid (hbx.out.trans hb6)
            have hs6 := hb6.size
            clear hp6 hu6 hb6 hbn
            go_wp2_with fail
            go_roundg (n1 - j - 1)
            case measure => have := Hk.out; omega
            case rel => exact ⟨j + 1, b', _, by have := Hk.out; omega, rfl, by go_num, H6.out, HB6.out, by omega⟩
          · clear HA
            obtain ⟨wo, rfl⟩ : ∃ wo : World, wo = wr := ⟨_, rfl⟩
            have hj : j = n1 := by have := Hk.out; omega
            have hq : decide ((j : Int) < (n1 : Int)) = false := by simp; omega
            go_wp2_with fail
            refine (twinf_any wo fb' nb p f' hp'.out.fld).mono ?_
            rintro en w7 ⟨tb, rfl, htb, hft, hb7⟩
            have HO7 := Lib.hid (hp'.out.calm hb7)
            have HT7 := Lib.hid (show Pair w3.heap.size w7 tb nb R w4.heap.size w5.heap.size ⟨ae, ne, ce, aj, nj, cj, as_, ns, cs, al, nl, cl, lv⟩ p f' from ⟨HO7.out.k, hft, HO7.out.ref, by have := hp'.out.k.le; omega, hp'.out.ml, .inr (by omega)⟩)
            have hfl : fb' < wo.heap.size := hp'.out.fld.box.lt
            have htl : tb < w7.heap.size := hft.box.lt
            have HB7 := Lib.hid (show Below w3.heap.size w3 w7 from hbx.out.trans (hb7.mono hp'.out.k.le))
            have hs7 := hb7.size
            clear hb7 hft
            go_wp2_with fail
            refine (pos_any w7 fb' nb p f' HO7.out.k.now HO7.out.fld).mono ?_
            rintro en w8 ⟨ga, rfl, ho, hx⟩
            have hga := own_shape' ho
            have A8 := Lib.hid (own_ints ho).1
            have HO8 := Lib.hid (HO7.out.calm hx)
            have HT8 := Lib.hid (HT7.out.calm hx)
            have HB8 := Lib.hid (HB7.out.trans (hx.mono HO7.out.k.le))
            have hs8 := hx.size
            clear ho hx
            go_wp2_with fail
            refine (told_any w8 fb' nb p f' HO8.out.k.now HO8.out.fld).mono ?_
            rintro en w9 ⟨gb, rfl, ho, hx⟩
            have hgb := own_shape' ho
            have A9 := Lib.hid (A8.out.below hx)
            have B9 := Lib.hid (own_ints ho).1
            have HO9 := Lib.hid (HO8.out.calm hx)
            have HT9 := Lib.hid (HT8.out.calm hx)
            have HB9 := Lib.hid (HB8.out.trans (hx.mono HO8.out.k.le))
            have hs9 := hx.size
            clear ho hx
            go_wp2_with fail
            refine (occ_any w9 fb' nb p f' HO9.out.k.now HO9.out.fld none 0 0 [] (Row.nil _ _)).mono ?_
            rintro en w10 ⟨gc, rfl, ho, hx⟩
            have hgc := own_shape' ho
            have A10 := Lib.hid (A9.out.below hx)
            have B10 := Lib.hid (B9.out.below hx)
            have C10 := Lib.hid (own_bools ho).1
            have HO10 := Lib.hid (HO9.out.calm hx)
            have HT10 := Lib.hid (HT9.out.calm hx)
            have HB10 := Lib.hid (HB9.out.trans (hx.mono HO9.out.k.le))
            have hs10 := hx.size
            clear ho hx
            have Hoff := Lib.hid hp'.out.off
            go_wp2_with fail
            go_loopg [11, 15] n2 (fun k fv i wr => ∃ (j tb' : Nat) (f'' : Fld), j + k = n2 ∧ fv = .pointer (some ⟨tb', 0, none⟩) ∧ i = .int .i64 j ∧ Hid (Pair w3.heap.size wr tb' nb R w4.heap.size w5.heap.size ⟨ae, ne, ce, aj, nj, cj, as_, ns, cs, al, nl, cl, lv⟩ p f'') ∧ Hid (Below w3.heap.size w3 wr) ∧ w10.heap.size ≤ wr.heap.size ∧
              (tb' = tb ∨ w10.heap.size ≤ tb') ∧ Hid (Upd (fun k => Mine tb w4.heap.size w5.heap.size k ∨ w10.heap.size ≤ k) w10 wr))
            case atStart => exact ⟨0, tb, _, by omega, rfl, rfl, HT10.out, HB10.out, Nat.le_refl _, .inl rfl, Upd.refl _ _⟩
            case round =>
              obtain ⟨j, tb', f'', hk, rfl, rfl, hp'', hbq, h10, htb', hU⟩ := hrel
              have Hk := Lib.hid hk; clear hk
              have HA := Lib.hid (show ∀ u, Below w3.heap.size wr u → Acts u a2 n2 xs2 from fun u hu => (HA2.out.below Hb3.out).below (hbq.out.trans hu))
              by_cases hlt : j < n2
              · obtain ⟨x, hx⟩ := get_some (HA.out wr (Below.refl _ _)).row.len hlt
                obtain ⟨g, off, ha, hg, g0, g1, g2, g3⟩ := (HA.out wr (Below.refl _ _)).row.act hx
                have Hd := Lib.hid (do_any w3.heap.size wr tb' nb R w4.heap.size w5.heap.size ⟨ae, ne, ce, aj, nj, cj, as_, ns, cs, al, nl, cl, lv⟩ p f'' hp''.out x (fun u hu => (HA.out u hu).ints x (List.mem_of_getElem? hx)))
                dsimp only [ActV.val] at Hd
                subst ha
                clear hx
                go_wp2_with fail
                refine Hd.out.mono ?_
                rintro en w11 ⟨b', rfl, hbn, hp11, hu11⟩
                have hb11 : Below w3.heap.size wr w11 := mine_below hu11 hp''.out.mb hp''.out.ml hp''.out.k.le
                have H11 := Lib.hid hp11
                have HB11 := Lib.hid (hbq.out.trans hb11)
                have hs11 := hb11.size
                have HU11 := Lib.hid (hU.out.trans (hu11.mono (fun k hk => mine_to htb' hk)))
                have ht11 : b' = tb ∨ w10.heap.size ≤ b' := by omega
                clear hp11 hu11 hb11 hbn
                go_wp2_with fail
                go_roundg (n2 - j - 1)
                case measure => have := Hk.out; omega
                case rel => exact ⟨j + 1, b', _, by have := Hk.out; omega, rfl, by go_num, H11.out, HB11.out, by omega, ht11, HU11.out⟩
              · clear HA
                have hq2 : decide ((j : Int) < (n2 : Int)) = false := by simp; omega
                have HOq := Lib.hid (show FldAt wr fb' nb p f' from HO10.out.fld.upd hU.out (by have := Hoff.out; unfold Mine; omega))
                have HKq := Lib.hid hp''.out.k
                have Aq := Lib.hid (A10.out.upd hU.out (fun ad he => by cases he; exact not_mine (g := ga) (by omega) (by omega) (by omega)))
                have Bq := Lib.hid (B10.out.upd hU.out (fun ad he => by cases he; exact not_mine (g := gb) (by omega) (by omega) (by omega)))
                have Cq := Lib.hid (C10.out.upd hU.out (fun ad he => by cases he; exact not_mine (g := gc) (by omega) (by omega) (by omega)))
                go_wp2_with fail
                refine (pos_any wr fb' nb p f' HKq.out.now HOq.out).mono ?_
                rintro en v1 ⟨gd, rfl, ho, hx⟩
                have D1 := Lib.hid (own_ints ho).1
                have HO1 := Lib.hid (HOq.out.below hx)
                have HK1 := Lib.hid (HKq.out.calm hx)
                have A1 := Lib.hid (Aq.out.below hx)
                have B1 := Lib.hid (Bq.out.below hx)
                have C1_ := Lib.hid (Cq.out.below hx)
                have hv1 := Lib.hid (hbq.out.trans (hx.mono HKq.out.le))
                clear ho hx
                go_wp2_with fail
                refine (samei_f D1.out A1.out).mono ?_
                rw [show decide (f'.pos p = f'.pos p) = true by simp]
                rintro en v2 ⟨rfl, hx⟩
                have HO2 := Lib.hid (HO1.out.below hx)
                have HK2 := Lib.hid (HK1.out.calm hx)
                have B2 := Lib.hid (B1.out.below hx)
                have C2_ := Lib.hid (C1_.out.below hx)
                have hv2 := Lib.hid (hv1.out.trans (hx.mono HK1.out.le))
                clear hx
                go_wp2_with fail
                refine (told_any v2 fb' nb p f' HK2.out.now HO2.out).mono ?_
                rintro en v3 ⟨ge, rfl, ho, hx⟩
                have D3 := Lib.hid (own_ints ho).1
                have HO3 := Lib.hid (HO2.out.below hx)
                have HK3' := Lib.hid (HK2.out.calm hx)
                have B3 := Lib.hid (B2.out.below hx)
                have C3_ := Lib.hid (C2_.out.below hx)
                have hv3 := Lib.hid (hv2.out.trans (hx.mono HK2.out.le))
                clear ho hx
                go_wp2_with fail
                refine (samei_f D3.out B3.out).mono ?_
                rw [show decide (f'.told p = f'.told p) = true by simp]
                rintro en v4 ⟨rfl, hx⟩
                have HO4 := Lib.hid (HO3.out.below hx)
                have HK4 := Lib.hid (HK3'.out.calm hx)
                have C4_ := Lib.hid (C3_.out.below hx)
                have hv4 := Lib.hid (hv3.out.trans (hx.mono HK3'.out.le))
                clear hx
                go_wp2_with fail
                refine (occ_any v4 fb' nb p f' HK4.out.now HO4.out none 0 0 [] (Row.nil _ _)).mono ?_
                rintro en v5 ⟨gf, rfl, ho, hx⟩
                have D5 := Lib.hid (own_bools ho).1
                have C5_ := Lib.hid (C4_.out.below hx)
                have hv5 := Lib.hid (hv4.out.trans (hx.mono HK4.out.le))
                have HK5 := Lib.hid (HK4.out.calm hx)
                clear ho hx
                go_wp2_with fail
                refine (sameb_f D5.out C5_.out).mono ?_
                rw [show decide (f'.occ p [] = f'.occ p []) = true by simp]
                rintro en v6 ⟨rfl, hx⟩
                have hv6 := Lib.hid (hv5.out.trans (hx.mono HK5.out.le))
                clear hx
                go_wp2_with fail
                go_ret
                exact ⟨rfl, below_step Hb3.out hv6.out Hb3.out.size⟩
set_option maxRecDepth 100000 in
theorem fieldTwins_lifted (os : Os) (started : os.Started) (H : Type) (enc : TypeId × Value → H) :
    ReturnsInHanded {} Try.checked os 7 .any (Rows.fieldTwinsSpec.pre6 enc Try.prog Try.f7 Rows.fieldTwinsRow.domain false) (Rows.fieldTwinsSpec.post enc Try.prog Try.f7 false true false false) := by
  refine returnsInHanded_of_change (C := Try.checked) own started (by kernel_rfl) Try.func7
    (ChangeSpec.witness6 (enc := enc) (C := Try.checked) false ⟨#[], #[.agg #[.slice none 0 0, .slice none 0 0, .slice none 0 0, .slice none 0 0, .int .i64 0, .int .i64 0, .int .i64 0, .int .i64 0, .bool false], .slice none 0 0, .slice none 0 0], []⟩ 8 (by kernel_rfl) (by kernel_rfl) (by kernel_rfl) (by kernel_rfl)) ?_
  intro W base args ds gs before hval0 hW hcnd _
  have hval : ∀ (j : Nat) t v, Try.f7.params[j]? = some t → args[j]? = some v → Value.okWide Try.prog W .any base t v := hval0
  have hW' := hW
  obtain ⟨p, q, hA0, hV, rfl, hfz, hnd⟩ := hW
  have hA : DataW.TrodAll enc Try.prog W 0 (fun _ => true) true Try.f7.params.toList args.toList ds p := hA0
  rw [Try.params7] at hA hval
  obtain ⟨v0, vs0, d0, ds0, p0, q0, hargs, rfl, rfl, k0, r0⟩ := trodAll_cons hA
  obtain ⟨v1, vs1, d1, ds1, p1, q1, rfl, rfl, rfl, k1, r1⟩ := trodAll_cons r0
  obtain ⟨v2, vs2, d2, ds2, p2, q2, rfl, rfl, rfl, k2, r2⟩ := trodAll_cons r1
  obtain ⟨rfl, rfl, rfl⟩ := trodAll_nil r2
  obtain rfl : args = #[v0, v1, v2] := by cases args; simp_all
  obtain ⟨rfl, rfl⟩ := trodVars_none hV
  have lt0 : ∀ x ∈ p0, x.block < W.heap.size := by obtain ⟨m, hm⟩ := k0; exact DataW.trod_lt m _ _ _ hm
  have hv0 := hval 0 27 v0 rfl rfl
  have lt1 : ∀ x ∈ p1, x.block < W.heap.size := by obtain ⟨m, hm⟩ := k1; exact DataW.trod_lt m _ _ _ hm
  have hv1 := hval 1 41 v1 rfl rfl
  have lt2 : ∀ x ∈ p2, x.block < W.heap.size := by obtain ⟨m, hm⟩ := k2; exact DataW.trod_lt m _ _ _ hm
  have hv2 := hval 2 41 v2 rfl rfl
  have fin : Calls Try.prog 7 #[v0, v1, v2] W (fun e W' => e = .returned (.bool true) ∧ Below W.heap.size W W') := by
    obtain ⟨pv, p, rfl, hp⟩ := open_plan hv0 k0
    obtain ⟨a1, n1, c1, xs1, rfl, h1⟩ := open_acts hv1 k1
    obtain ⟨a2, n2, c2, xs2, rfl, h2⟩ := open_acts hv2 k2
    exact lawTwins_any W pv p a1 n1 c1 xs1 a2 n2 c2 xs2 hp h1 h2
  clear hA0 hval0
  refine fin.mono fun e W' ⟨he, bel⟩ => ?_
  subst he
  exact ⟨_, rfl, _, _, _, [], _, [], hW', trodAll_mk1 (shut_bool Try.underlying4 _), (trodAll_cons_mk (Below.trod laidOut (by kernel_rfl) (of_decide_eq_true (by kernel_rfl)) k0 bel lt0) (trodAll_cons_mk (Below.trod laidOut (by kernel_rfl) (of_decide_eq_true (by kernel_rfl)) k1 bel lt1) (trodAll_cons_mk (Below.trod laidOut (by kernel_rfl) (of_decide_eq_true (by kernel_rfl)) k2 bel lt2) trodAll_mk0))), rfl, bel.frame _, fun h => by cases h⟩

/-- THE STATEMENT -/
theorem fieldTwins_holds : Rows.FieldTwinsSaid :=
  OpenClaim.holds_of_wide 7 Try.f7 rfl rfl rfl rfl rfl rfl rfl ⟨rfl, rfl, rfl, rfl, rfl⟩ rfl rfl rfl rfl rfl (by kernel_rfl) Try.func7 (by kernel_rfl)
    (of_decide_eq_true (by kernel_rfl)) (by unfold Func.isWrapper; first | (rw [if_pos (by decide +kernel)]; kernel_rfl) | (rw [if_neg (by decide +kernel)]; exact ⟨rfl, rfl⟩))
    (fun os started H enc _ => fieldTwins_lifted os started H enc)
end Go.Proofs.Ytlgekkffekagbaa
