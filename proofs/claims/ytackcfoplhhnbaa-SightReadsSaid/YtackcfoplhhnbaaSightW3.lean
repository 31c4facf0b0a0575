/- Walks of semaphoreref6.Ahead and Route. Condition: the plan is read and valid. -/
import Derived.Test.YtackcfoplhhnbaaSightLaws
import Derived.Lib.AppendZeros
set_option maxRecDepth 1000000
namespace Go.Proofs.Ytackcfoplhhnbaa
open Go.ChangeShapes Go.WideShapes Go.ChangeAt Go.RowKit Go.Sort

theorem arun_hit {p : Plan} {L : List Port} {j : Nat} {x : Port} {m : Int} (h : L[j]? = some x) (r : 0 ≤ reads p x) : aheadRun p (L.drop j) m = some (reads p x, m + p.length x.e) := by rw [drop_cons h, aheadRun, if_pos r]
theorem arun_go {p : Plan} {L : List Port} {j : Nat} {x : Port} {m : Int} (h : L[j]? = some x) (r : ¬ 0 ≤ reads p x) : aheadRun p (L.drop j) m = aheadRun p (L.drop (j + 1)) (m + p.length x.e) := by rw [drop_cons h, aheadRun, if_neg r]
theorem arun_end {p : Plan} {L : List Port} {j : Nat} {m : Int} (h : L.length ≤ j) : aheadRun p (L.drop j) m = none := by rw [List.drop_of_length_le h]; rfl
theorem run_ports_eq {p : Plan} (hc : chk p = 0) (pos : List Int) (h : Port) : run p pos h (portsNo p) = runGo p pos (portsNo p).toNat h := by
  have := ports_bound hc
  unfold run runMost; rw [show (max 0 (min (portsNo p) 1000)).toNat = (portsNo p).toNat by omega]
theorem lit_port1 {w : World} {base b : Nat} (x : Port) (h : base ≤ b) (hz : w.heap.size = b) : (w.alloc (.cells #[.int .i64 x.e, .int .i64 x.n] 30)).ownsRow base 30 2 (.slice (some ⟨b, 0, none⟩) 1 1) 1 ([x].flatMap encPort) := by
  subst hz; exact ⟨by simp [encPort], .inr ⟨w.heap.size, 1, #[.int .i64 x.e, .int .i64 x.n], rfl, h, heap_alloc_new w _, Nat.le_refl _, by simp [maxLen], rfl, by simp [encPort]⟩⟩
set_option maxHeartbeats 4000000 in
theorem refahead_any (w : World) (pv : PV) (p : Plan) (hp : PlanAt w pv p) (hc : chk p = 0) (a : Option Addr) (n c : Nat) (pos : List Int) (hr : Hid (Ints w a n pos)) (hd : Port) :
    Calls Try.prog 39 #[pv.val p, .slice a n c, hd.val] w fun en w' => en = .returned (.tuple #[.int .i64 ((ahead p pos hd).getD (0, 0)).1, .int .i64 ((ahead p pos hd).getD (0, 0)).2, .bool (ahead p pos hd).isSome]) ∧ Below w.heap.size w w' := by
  obtain ⟨ae, ne, ce, aj, nj, cj, as_, ns, cs, al, nl, cl, lv⟩ := pv
  dsimp only [PV.val, Port.val]
  have hP := Lib.hid hp
  have Hc := Lib.hid hc
  have hwz : w.heap.size = w.heap.size := rfl
  have Hba := Lib.hid (below_new2 w (.cells #[.slice ae ne ce, .slice aj nj cj, .slice as_ ns cs, .slice al nl cl, .int .i64 p.top, .int .i64 p.brake, .int .i64 p.margin, .int .i64 p.throw, .bool p.hard] 27) (.cells #[.int .i64 hd.e, .int .i64 hd.n] 30))
  have HBa := Lib.hid ((pbox_new w ⟨ae, ne, ce, aj, nj, cj, as_, ns, cs, al, nl, cl, lv⟩ p).below (below_new _ (.cells #[.int .i64 hd.e, .int .i64 hd.n] 30)))
  have HXa := Lib.hid (PortBox.new (w.alloc (.cells #[.slice ae ne ce, .slice aj nj cj, .slice as_ ns cs, .slice al nl cl, .int .i64 p.top, .int .i64 p.brake, .int .i64 p.margin, .int .i64 p.throw, .bool p.hard] 27)) (b := w.heap.size + 1) (by simp) hd 30)
  have HR := Lib.hid (refreads_l (a := hd.e) (b := hd.n) (hp.below Hba.out))
  rw [show (⟨hd.e, hd.n⟩ : Port) = hd from rfl] at HR
  clear hp hc
  obtain ⟨_, c0, c1, c2, c3, c4, c5, c6, c7, c8⟩ := HBa.out
  dsimp only at c0 c1 c2 c3
  obtain ⟨_, x0, x1, _⟩ := HXa.out
  by_cases r0 : 0 ≤ reads p hd
  · have Hs := Lib.hid (ahead_read (pos := pos) r0)
    go_enter Try.func39, Try.ntmps39
    go_wp2_with fail
    refine HR.out.mono ?_
    rintro en w1 ⟨rfl, hb1⟩
    have Hb1 := Lib.hid (below_step Hba.out hb1 Hba.out.size)
    clear hb1
    go_wp2_with fail
    try rw [Exit.noGoto_ret]
    exact bodyPost_ret (v := .tuple #[.int .i64 (reads p hd), .int .i64 0, .bool true]) (by simp [results, Try.results39, go_sem]) rfl ⟨ah_some Hs.out, Hb1.out⟩
  · have r1 : reads p hd < 0 := by omega
    obtain ⟨L, hL⟩ : ∃ L, L = runGo p pos (portsNo p).toNat hd := ⟨_, rfl⟩
    have Hs := Lib.hid (show aheadRun p (L.1.drop 0) 0 = ahead p pos hd by rw [ahead_eq]; unfold refAhead; rw [if_neg r0, hL]; rfl)
    have hll : L.1.length ≤ 160 := by have h1 := (run_len p pos (portsNo p).toNat hd).1; have h2 := ports_bound Hc.out; rw [hL]; omega
    have HRun := Lib.hid (fun (u : World) (hb : Below w.heap.size w u) => refrun_any u ⟨ae, ne, ce, aj, nj, cj, as_, ns, cs, al, nl, cl, lv⟩ p (hP.out.below hb) a n c pos (Lib.hid (hr.out.below hb)) hd (portsNo p))
    rw [run_ports_eq Hc.out, ← hL] at HRun
    dsimp only [PV.val, Port.val] at HRun
    have HPo := Lib.hid (fun (u : World) (hb : Below w.heap.size w u) => refports_any u ⟨ae, ne, ce, aj, nj, cj, as_, ns, cs, al, nl, cl, lv⟩ p (hP.out.below hb) Hc.out)
    dsimp only [PV.val] at HPo
    clear hL
    obtain ⟨N, hN⟩ : ∃ N, N = portsNo p := ⟨_, rfl⟩
    rw [← hN] at HRun HPo
    clear hN
    go_enter Try.func39, Try.ntmps39
    go_wp2_with fail
    refine HR.out.mono ?_
    rintro en w1 ⟨rfl, hb1⟩
    have Hb1 := Lib.hid (below_step Hba.out hb1 Hba.out.size)
    have HB1 := Lib.hid (HBa.out.below hb1)
    have HX1 := Lib.hid (HXa.out.below hb1)
    clear hb1 c0 c1 c2 c3 c4 c5 c6 c7 c8 x0 x1
    obtain ⟨hbl, c0, c1, c2, c3, c4, c5, c6, c7, c8⟩ := HB1.out
    dsimp only at c0 c1 c2 c3
    obtain ⟨hxl, x0, x1, _⟩ := HX1.out
    go_wp2_with fail
    have hSall : ∀ w' : World, Below (w1).heap.size (w1) w' → (w'.cell? ⟨w.heap.size, 0, none⟩ = some (.slice ae ne ce) ∧ w'.cell? ⟨w.heap.size, 1, none⟩ = some (.slice aj nj cj) ∧ w'.cell? ⟨w.heap.size, 2, none⟩ = some (.slice as_ ns cs) ∧ w'.cell? ⟨w.heap.size, 3, none⟩ = some (.slice al nl cl) ∧ w'.cell? ⟨w.heap.size, 4, none⟩ = some (.int .i64 p.top) ∧ w'.cell? ⟨w.heap.size, 5, none⟩ = some (.int .i64 p.brake) ∧ w'.cell? ⟨w.heap.size, 6, none⟩ = some (.int .i64 p.margin) ∧ w'.cell? ⟨w.heap.size, 7, none⟩ = some (.int .i64 p.throw) ∧ w'.cell? ⟨w.heap.size, 8, none⟩ = some (.bool p.hard) ∧ w'.cell? ⟨w.heap.size + 1, 0, none⟩ = some (.int .i64 hd.e) ∧ w'.cell? ⟨w.heap.size + 1, 1, none⟩ = some (.int .i64 hd.n)) := fun w' hb => ⟨(hb.cell (p := ⟨w.heap.size, 0, none⟩) hbl).trans c0, (hb.cell (p := ⟨w.heap.size, 1, none⟩) hbl).trans c1, (hb.cell (p := ⟨w.heap.size, 2, none⟩) hbl).trans c2, (hb.cell (p := ⟨w.heap.size, 3, none⟩) hbl).trans c3, (hb.cell (p := ⟨w.heap.size, 4, none⟩) hbl).trans c4, (hb.cell (p := ⟨w.heap.size, 5, none⟩) hbl).trans c5, (hb.cell (p := ⟨w.heap.size, 6, none⟩) hbl).trans c6, (hb.cell (p := ⟨w.heap.size, 7, none⟩) hbl).trans c7, (hb.cell (p := ⟨w.heap.size, 8, none⟩) hbl).trans c8, (hb.cell (p := ⟨w.heap.size + 1, 0, none⟩) hxl).trans x0, (hb.cell (p := ⟨w.heap.size + 1, 1, none⟩) hxl).trans x1⟩
    refine wp_region_noPanic ?_
    refine region_upto (S := fun w' => w'.cell? ⟨w.heap.size, 0, none⟩ = some (.slice ae ne ce) ∧ w'.cell? ⟨w.heap.size, 1, none⟩ = some (.slice aj nj cj) ∧ w'.cell? ⟨w.heap.size, 2, none⟩ = some (.slice as_ ns cs) ∧ w'.cell? ⟨w.heap.size, 3, none⟩ = some (.slice al nl cl) ∧ w'.cell? ⟨w.heap.size, 4, none⟩ = some (.int .i64 p.top) ∧ w'.cell? ⟨w.heap.size, 5, none⟩ = some (.int .i64 p.brake) ∧ w'.cell? ⟨w.heap.size, 6, none⟩ = some (.int .i64 p.margin) ∧ w'.cell? ⟨w.heap.size, 7, none⟩ = some (.int .i64 p.throw) ∧ w'.cell? ⟨w.heap.size, 8, none⟩ = some (.bool p.hard) ∧ w'.cell? ⟨w.heap.size + 1, 0, none⟩ = some (.int .i64 hd.e) ∧ w'.cell? ⟨w.heap.size + 1, 1, none⟩ = some (.int .i64 hd.n)) (n := 11) (by kernel_rfl) ?_
    refine upto_take (i := 0) (v := .agg #[.slice ae ne ce, .slice aj nj cj, .slice as_ ns cs, .slice al nl cl, .int .i64 p.top, .int .i64 p.brake, .int .i64 p.margin, .int .i64 p.throw, .bool p.hard]) rfl (by kernel_rfl) (by kernel_rfl) (by kernel_rfl) (by kernel_rfl) (fun _ _ _ h => h) (Or.inl ⟨by rfl, ?_⟩) (hSall _ (by repeat (first | with_reducible exact Below.refl _ _ | with_reducible assumption | with_reducible exact below_new _ _ | with_reducible apply below_drewN | with_reducible apply Below.drew | with_reducible refine below_set (Nat.le_refl _) ?_ _ | ((with_reducible refine below_set ?_ ?_ _); omega) | with_reducible refine Below.alloc ?_ (by first | omega | (simp; omega) | simp) _))) ?_
    · intro w' hSw
      (try dsimp only at hSw)
      go_simp
    (try simp only [List.getElem_toArray, List.getElem_cons_zero, Act.put, List.setIfInBounds_toArray, List.set_cons_zero, List.set_cons_succ])
    refine upto_take (i := 1) (v := .slice a n c) rfl (by kernel_rfl) (by kernel_rfl) (by kernel_rfl) (by kernel_rfl) (fun _ _ _ h => h) (Or.inl ⟨by rfl, ?_⟩) (hSall _ (by repeat (first | with_reducible exact Below.refl _ _ | with_reducible assumption | with_reducible exact below_new _ _ | with_reducible apply below_drewN | with_reducible apply Below.drew | with_reducible refine below_set (Nat.le_refl _) ?_ _ | ((with_reducible refine below_set ?_ ?_ _); omega) | with_reducible refine Below.alloc ?_ (by first | omega | (simp; omega) | simp) _))) ?_
    · intro w' hSw
      (try dsimp only at hSw)
      go_simp
    (try simp only [List.getElem_toArray, List.getElem_cons_succ, List.getElem_cons_zero, Act.put, List.setIfInBounds_toArray, List.set_cons_zero, List.set_cons_succ])
    refine upto_take (i := 2) (v := .agg #[.int .i64 hd.e, .int .i64 hd.n]) rfl (by kernel_rfl) (by kernel_rfl) (by kernel_rfl) (by kernel_rfl) (fun _ _ _ h => h) (Or.inl ⟨by rfl, ?_⟩) (hSall _ (by repeat (first | with_reducible exact Below.refl _ _ | with_reducible assumption | with_reducible exact below_new _ _ | with_reducible apply below_drewN | with_reducible apply Below.drew | with_reducible refine below_set (Nat.le_refl _) ?_ _ | ((with_reducible refine below_set ?_ ?_ _); omega) | with_reducible refine Below.alloc ?_ (by first | omega | (simp; omega) | simp) _))) ?_
    · intro w' hSw
      (try dsimp only at hSw)
      go_simp
    (try simp only [List.getElem_toArray, List.getElem_cons_succ, List.getElem_cons_zero, Act.put, List.setIfInBounds_toArray, List.set_cons_zero, List.set_cons_succ])
    refine upto_take (i := 3) (v := .agg #[.slice ae ne ce, .slice aj nj cj, .slice as_ ns cs, .slice al nl cl, .int .i64 p.top, .int .i64 p.brake, .int .i64 p.margin, .int .i64 p.throw, .bool p.hard]) rfl (by kernel_rfl) (by kernel_rfl) (by kernel_rfl) (by kernel_rfl) (fun _ _ _ h => h) (Or.inl ⟨by rfl, ?_⟩) (hSall _ (by repeat (first | with_reducible exact Below.refl _ _ | with_reducible assumption | with_reducible exact below_new _ _ | with_reducible apply below_drewN | with_reducible apply Below.drew | with_reducible refine below_set (Nat.le_refl _) ?_ _ | ((with_reducible refine below_set ?_ ?_ _); omega) | with_reducible refine Below.alloc ?_ (by first | omega | (simp; omega) | simp) _))) ?_
    · intro w' hSw
      (try dsimp only at hSw)
      go_simp
    (try simp only [List.getElem_toArray, List.getElem_cons_succ, List.getElem_cons_zero, Act.put, List.setIfInBounds_toArray, List.set_cons_zero, List.set_cons_succ])
    refine upto_step (i := 4) (by kernel_rfl) rfl (fun K hK => ?_)
    go_simp
    refine (HPo.out _ (below_step Hb1.out (Below.refl w1.heap.size w1).drew Hb1.out.size)).mono ?_
    rintro en v1 ⟨rfl, hbx1⟩
    have hbx1 : Below w1.heap.size w1 v1 := (Below.refl w1.heap.size w1).drew.trans hbx1
    refine hK _ _ (fun _ => (hSall _ (by repeat (first | with_reducible exact Below.refl _ _ | with_reducible assumption | with_reducible exact below_new _ _ | with_reducible apply below_drewN | with_reducible apply Below.drew | with_reducible refine below_set (Nat.le_refl _) ?_ _ | ((with_reducible refine below_set ?_ ?_ _); omega) | with_reducible refine Below.alloc ?_ (by first | omega | (simp; omega) | simp) _)))) ?_
    clear hK K
    (try simp only [List.getElem_toArray, List.getElem_cons_succ, List.getElem_cons_zero, Act.put, List.setIfInBounds_toArray, List.set_cons_zero, List.set_cons_succ])
    refine upto_step (i := 5) (by kernel_rfl) rfl (fun K hK => ?_)
    go_simp
    refine (HRun.out _ (below_step Hb1.out hbx1 Hb1.out.size)).mono ?_
    rintro en w2 ⟨ra, rn, rc, rfl, hrow, hrc, hbx2⟩
    have hbx2 : Below w1.heap.size w1 w2 := hbx1.trans (hbx2.mono hbx1.size)
    refine hK _ _ (fun _ => (hSall _ (by repeat (first | with_reducible exact Below.refl _ _ | with_reducible assumption | with_reducible exact below_new _ _ | with_reducible apply below_drewN | with_reducible apply Below.drew | with_reducible refine below_set (Nat.le_refl _) ?_ _ | ((with_reducible refine below_set ?_ ?_ _); omega) | with_reducible refine Below.alloc ?_ (by first | omega | (simp; omega) | simp) _)))) ?_
    clear hK K
    (try simp only [List.getElem_toArray, List.getElem_cons_succ, List.getElem_cons_zero, Act.put, List.setIfInBounds_toArray, List.set_cons_zero, List.set_cons_succ])
    refine upto_step (i := 6) (by kernel_rfl) rfl (fun K hK => ?_)
    go_simp
    refine hK _ _ (fun _ => (hSall _ (by repeat (first | with_reducible exact Below.refl _ _ | with_reducible assumption | with_reducible exact below_new _ _ | with_reducible apply below_drewN | with_reducible apply Below.drew | with_reducible refine below_set (Nat.le_refl _) ?_ _ | ((with_reducible refine below_set ?_ ?_ _); omega) | with_reducible refine Below.alloc ?_ (by first | omega | (simp; omega) | simp) _)))) ?_
    clear hK K
    (try simp only [List.getElem_toArray, List.getElem_cons_succ, List.getElem_cons_zero, Act.put, List.setIfInBounds_toArray, List.set_cons_zero, List.set_cons_succ])
    refine upto_take (i := 7) (v := .slice ra rn rc) rfl (by kernel_rfl) (by kernel_rfl) (by kernel_rfl) (by kernel_rfl) (fun _ _ _ h => h) (Or.inl ⟨by rfl, ?_⟩) (hSall _ (by repeat (first | with_reducible exact Below.refl _ _ | with_reducible assumption | with_reducible exact below_new _ _ | with_reducible apply below_drewN | with_reducible apply Below.drew | with_reducible refine below_set (Nat.le_refl _) ?_ _ | ((with_reducible refine below_set ?_ ?_ _); omega) | with_reducible refine Below.alloc ?_ (by first | omega | (simp; omega) | simp) _))) ?_
    · intro w' hSw
      (try dsimp only at hSw)
      go_simp
    (try simp only [List.getElem_toArray, List.getElem_cons_succ, List.getElem_cons_zero, Act.put, List.setIfInBounds_toArray, List.set_cons_zero, List.set_cons_succ])
    refine upto_take (i := 8) (v := .int .i64 L.2) rfl (by kernel_rfl) (by kernel_rfl) (by kernel_rfl) (by kernel_rfl) (fun _ _ _ h => h) (Or.inl ⟨by rfl, ?_⟩) (hSall _ (by repeat (first | with_reducible exact Below.refl _ _ | with_reducible assumption | with_reducible exact below_new _ _ | with_reducible apply below_drewN | with_reducible apply Below.drew | with_reducible refine below_set (Nat.le_refl _) ?_ _ | ((with_reducible refine below_set ?_ ?_ _); omega) | with_reducible refine Below.alloc ?_ (by first | omega | (simp; omega) | simp) _))) ?_
    · intro w' hSw
      (try dsimp only at hSw)
      go_simp
    (try simp only [List.getElem_toArray, List.getElem_cons_succ, List.getElem_cons_zero, Act.put, List.setIfInBounds_toArray, List.set_cons_zero, List.set_cons_succ])
    refine upto_step (i := 9) (by kernel_rfl) rfl (fun K hK => ?_)
    go_simp
    refine hK _ _ (fun _ => (hSall _ (by repeat (first | with_reducible exact Below.refl _ _ | with_reducible assumption | with_reducible exact below_new _ _ | with_reducible apply below_drewN | with_reducible apply Below.drew | with_reducible refine below_set (Nat.le_refl _) ?_ _ | ((with_reducible refine below_set ?_ ?_ _); omega) | with_reducible refine Below.alloc ?_ (by first | omega | (simp; omega) | simp) _)))) ?_
    clear hK K
    (try simp only [List.getElem_toArray, List.getElem_cons_succ, List.getElem_cons_zero, Act.put, List.setIfInBounds_toArray, List.set_cons_zero, List.set_cons_succ])
    refine upto_step (i := 10) (by kernel_rfl) rfl (fun K hK => ?_)
    go_simp
    refine hK _ _ (fun _ => (hSall _ (by repeat (first | with_reducible exact Below.refl _ _ | with_reducible assumption | with_reducible exact below_new _ _ | with_reducible apply below_drewN | with_reducible apply Below.drew | with_reducible refine below_set (Nat.le_refl _) ?_ _ | ((with_reducible refine below_set ?_ ?_ _); omega) | with_reducible refine Below.alloc ?_ (by first | omega | (simp; omega) | simp) _)))) ?_
    clear hK K
    (try simp only [List.getElem_toArray, List.getElem_cons_succ, List.getElem_cons_zero, Act.put, List.setIfInBounds_toArray, List.set_cons_zero, List.set_cons_succ])
    refine upto_done (by kernel_rfl) (NoPanic.normal ?_) _
    clear hSall
    have Hb2 := Lib.hid (below_step Hb1.out hbx2 Hb1.out.size)
    have HB2 := Lib.hid (HB1.out.below hbx2)
    have HX2 := Lib.hid (HX1.out.below hbx2)
    have Hrow := Lib.hid hrow
    clear hbx1 hbx2 hrow c0 c1 c2 c3 c4 c5 c6 c7 c8 x0 x1 HB1 HX1 Hb1 HRun HPo
    obtain ⟨L, en1⟩ := L
    dsimp only at Hs hll Hrow
    have hlen := Hrow.out.len
    have hbn := Hrow.out.bnd
    have ll := Lib.hid hlen
    go_wp2_with fail
    go_loopg [12, 13] rn (fun k s i wr => ∃ (j : Nat) (m : Int), j + k = rn ∧ s = .int .i64 m ∧ i = .int .i64 j ∧ Hid (aheadRun p (L.drop j) m = ahead p pos hd) ∧ (0 ≤ m ∧ m ≤ 4000 * j) ∧ Row 2 encPort wr ra rn L ∧ PBox wr w.heap.size ⟨ae, ne, ce, aj, nj, cj, as_, ns, cs, al, nl, cl, lv⟩ p ∧ Below w.heap.size w wr)
    case atStart => exact ⟨0, 0, by omega, rfl, rfl, Hs, by omega, Hrow.out, HB2.out, Hb2.out⟩
    case round =>
      clear Hrow HB2 Hb2 Hs
      obtain ⟨j, m, hk, rfl, rfl, hrel2, hm, hrow, hB, hb⟩ := hrel
      have Hk := Lib.hid hk; clear hk
      have HB := Lib.hid hB
      have Hb := Lib.hid hb
      have Hrow := Lib.hid hrow
      clear hB hb hrow
      by_cases hlt : j < rn
      · obtain ⟨x, hx⟩ := get_some ll.out hlt
        obtain ⟨pb, off, rfl, hpb, g1, g2⟩ := Hrow.out.port hx
        obtain ⟨_, c0, c1, c2, c3, c4, c5, c6, c7, c8⟩ := HB.out
        dsimp only at c0 c1 c2 c3
        have m2 := len_bound Hc.out x.e
        obtain ⟨m', hm'⟩ : ∃ m', m' = m + p.length x.e := ⟨_, rfl⟩
        have hmb : 0 ≤ m' ∧ m' ≤ 4000 * ((j : Int) + 1) := by omega
        have hwr : IntKind.i64.wrap (m + p.length x.e) = m' := by rw [hm']; exact IntWalk.i64_in _ (by omega)
        by_cases r2 : 0 ≤ reads p x
        · have Hs := Lib.hid (show ahead p pos hd = some (reads p x, m') by rw [← hrel2.out, hm']; exact arun_hit hx r2)
          clear hx hrel2
          go_wp2_with fail
          have c0q := fun d os => cell_regrown c0 d os
          have c1q := fun d os => cell_regrown c1 d os
          have c2q := fun d os => cell_regrown c2 d os
          have c3q := fun d os => cell_regrown c3 d os
          have c4q := fun d os => cell_regrown c4 d os
          have c5q := fun d os => cell_regrown c5 d os
          have c6q := fun d os => cell_regrown c6 d os
          have c7q := fun d os => cell_regrown c7 d os
          have c8q := fun d os => cell_regrown c8 d os
          have g1q := fun d os => cell_regrown g1 d os
          have cq0 : ∀ d os, Calls Try.prog 60 #[.agg #[.slice ae ne ce, .slice aj nj cj, .slice as_ ns cs, .slice al nl cl, .int .i64 p.top, .int .i64 p.brake, .int .i64 p.margin, .int .i64 p.throw, .bool p.hard], .int .i64 x.e] (grow (redrawn wr d) os) fun e w'' => e = .returned (.int .i64 (p.length x.e)) ∧ ∃ rg : Regrown, w'' = grow (redrawn wr rg.d) rg.os := fun d os => Calls.regrown_of (reflength_l (i := x.e) (hP.out.below (below_step Hb.out (below_regrown _ d os) Hb.out.size)))
          refine wp_region_quiet_below (by kernel_rfl) (by kernel_rfl) ?_
          repeat (quiet_step (first | with_reducible exact cq0 _ _))
          refine wpQuiet_nil ?_
          intro w3 hw'
          have hb3 : Below wr.heap.size wr w3 := by obtain ⟨⟨d, os⟩, rfl⟩ := hw'; exact below_regrown _ d os
          clear hw' c0q c1q c2q c3q c4q c5q c6q c7q c8q g1q cq0
          have HB3 := Lib.hid (HB.out.below hb3)
          have hb3k := hb3
          have Hb3 := Lib.hid (below_step Hb.out hb3 Hb.out.size)
          have g1 := (hb3.cell (p := ⟨pb, _, none⟩) hpb).trans g1
          have g2 := (hb3.cell (p := ⟨pb, _, none⟩) hpb).trans g2
          have hpb3 : pb < w3.heap.size := Nat.lt_of_lt_of_le hpb hb3.size
          clear hb3 c0 c1 c2 c3 c4 c5 c6 c7 c8
          obtain ⟨_, c0, c1, c2, c3, c4, c5, c6, c7, c8⟩ := HB3.out
          dsimp only at c0 c1 c2 c3
          try rw [hwr]
          go_wp2_with fail
          have c0q := fun d os => cell_regrown c0 d os
          have c1q := fun d os => cell_regrown c1 d os
          have c2q := fun d os => cell_regrown c2 d os
          have c3q := fun d os => cell_regrown c3 d os
          have c4q := fun d os => cell_regrown c4 d os
          have c5q := fun d os => cell_regrown c5 d os
          have c6q := fun d os => cell_regrown c6 d os
          have c7q := fun d os => cell_regrown c7 d os
          have c8q := fun d os => cell_regrown c8 d os
          have g1q := fun d os => cell_regrown g1 d os
          have g2q := fun d os => cell_regrown g2 d os
          have cq0 : ∀ d os, Calls Try.prog 63 #[.agg #[.slice ae ne ce, .slice aj nj cj, .slice as_ ns cs, .slice al nl cl, .int .i64 p.top, .int .i64 p.brake, .int .i64 p.margin, .int .i64 p.throw, .bool p.hard], .agg #[.int .i64 x.e, .int .i64 x.n]] (grow (redrawn w3 d) os) fun e w'' => e = .returned (.int .i64 (reads p x)) ∧ ∃ rg : Regrown, w'' = grow (redrawn w3 rg.d) rg.os := fun d os => Calls.regrown_of (refreads_l (a := x.e) (b := x.n) (hP.out.below (below_step Hb3.out (below_regrown _ d os) Hb3.out.size)))
          refine wp_region_quiet_below (by kernel_rfl) (by kernel_rfl) ?_
          repeat (quiet_step (first | with_reducible exact cq0 _ _))
          refine wpQuiet_nil ?_
          intro w4 hw'
          have hb4 : Below w3.heap.size w3 w4 := by obtain ⟨⟨d, os⟩, rfl⟩ := hw'; exact below_regrown _ d os
          clear hw' c0q c1q c2q c3q c4q c5q c6q c7q c8q g1q g2q cq0
          have HB4 := Lib.hid (HB3.out.below hb4)
          have hb4k := hb4
          have Hb4 := Lib.hid (below_step Hb3.out hb4 Hb3.out.size)
          clear hb4 c0 c1 c2 c3 c4 c5 c6 c7 c8 g1 g2
          go_wp2_with fail
          try rw [Exit.noGoto_ret]
          exact bodyPost_ret (v := .tuple #[.int .i64 (reads p x), .int .i64 m', .bool true]) (by simp [results, hm', Try.results39, go_sem]) rfl ⟨ah_some Hs.out, Hb4.out⟩
        · have r3 : reads p x < 0 := by omega
          have Hs := Lib.hid (show aheadRun p (L.drop (j + 1)) m' = ahead p pos hd by rw [← hrel2.out, hm']; exact (arun_go hx r2).symm)
          clear hx hrel2
          go_wp2_with fail
          have c0q := fun d os => cell_regrown c0 d os
          have c1q := fun d os => cell_regrown c1 d os
          have c2q := fun d os => cell_regrown c2 d os
          have c3q := fun d os => cell_regrown c3 d os
          have c4q := fun d os => cell_regrown c4 d os
          have c5q := fun d os => cell_regrown c5 d os
          have c6q := fun d os => cell_regrown c6 d os
          have c7q := fun d os => cell_regrown c7 d os
          have c8q := fun d os => cell_regrown c8 d os
          have g1q := fun d os => cell_regrown g1 d os
          have cq0 : ∀ d os, Calls Try.prog 60 #[.agg #[.slice ae ne ce, .slice aj nj cj, .slice as_ ns cs, .slice al nl cl, .int .i64 p.top, .int .i64 p.brake, .int .i64 p.margin, .int .i64 p.throw, .bool p.hard], .int .i64 x.e] (grow (redrawn wr d) os) fun e w'' => e = .returned (.int .i64 (p.length x.e)) ∧ ∃ rg : Regrown, w'' = grow (redrawn wr rg.d) rg.os := fun d os => Calls.regrown_of (reflength_l (i := x.e) (hP.out.below (below_step Hb.out (below_regrown _ d os) Hb.out.size)))
          refine wp_region_quiet_below (by kernel_rfl) (by kernel_rfl) ?_
          repeat (quiet_step (first | with_reducible exact cq0 _ _))
          refine wpQuiet_nil ?_
          intro w3 hw'
          have hb3 : Below wr.heap.size wr w3 := by obtain ⟨⟨d, os⟩, rfl⟩ := hw'; exact below_regrown _ d os
          clear hw' c0q c1q c2q c3q c4q c5q c6q c7q c8q g1q cq0
          have HB3 := Lib.hid (HB.out.below hb3)
          have hb3k := hb3
          have Hb3 := Lib.hid (below_step Hb.out hb3 Hb.out.size)
          have g1 := (hb3.cell (p := ⟨pb, _, none⟩) hpb).trans g1
          have g2 := (hb3.cell (p := ⟨pb, _, none⟩) hpb).trans g2
          have hpb3 : pb < w3.heap.size := Nat.lt_of_lt_of_le hpb hb3.size
          clear hb3 c0 c1 c2 c3 c4 c5 c6 c7 c8
          obtain ⟨_, c0, c1, c2, c3, c4, c5, c6, c7, c8⟩ := HB3.out
          dsimp only at c0 c1 c2 c3
          try rw [hwr]
          go_wp2_with fail
          have c0q := fun d os => cell_regrown c0 d os
          have c1q := fun d os => cell_regrown c1 d os
          have c2q := fun d os => cell_regrown c2 d os
          have c3q := fun d os => cell_regrown c3 d os
          have c4q := fun d os => cell_regrown c4 d os
          have c5q := fun d os => cell_regrown c5 d os
          have c6q := fun d os => cell_regrown c6 d os
          have c7q := fun d os => cell_regrown c7 d os
          have c8q := fun d os => cell_regrown c8 d os
          have g1q := fun d os => cell_regrown g1 d os
          have g2q := fun d os => cell_regrown g2 d os
          have cq0 : ∀ d os, Calls Try.prog 63 #[.agg #[.slice ae ne ce, .slice aj nj cj, .slice as_ ns cs, .slice al nl cl, .int .i64 p.top, .int .i64 p.brake, .int .i64 p.margin, .int .i64 p.throw, .bool p.hard], .agg #[.int .i64 x.e, .int .i64 x.n]] (grow (redrawn w3 d) os) fun e w'' => e = .returned (.int .i64 (reads p x)) ∧ ∃ rg : Regrown, w'' = grow (redrawn w3 rg.d) rg.os := fun d os => Calls.regrown_of (refreads_l (a := x.e) (b := x.n) (hP.out.below (below_step Hb3.out (below_regrown _ d os) Hb3.out.size)))
          refine wp_region_quiet_below (by kernel_rfl) (by kernel_rfl) ?_
          repeat (quiet_step (first | with_reducible exact cq0 _ _))
          refine wpQuiet_nil ?_
          intro w4 hw'
          have hb4 : Below w3.heap.size w3 w4 := by obtain ⟨⟨d, os⟩, rfl⟩ := hw'; exact below_regrown _ d os
          clear hw' c0q c1q c2q c3q c4q c5q c6q c7q c8q g1q g2q cq0
          have HB4 := Lib.hid (HB3.out.below hb4)
          have hb4k := hb4
          have Hb4 := Lib.hid (below_step Hb3.out hb4 Hb3.out.size)
          clear hb4 c0 c1 c2 c3 c4 c5 c6 c7 c8 g1 g2
          go_wp2_with fail
          go_roundg (gk - 1)
          case measure => have := Hk.out; omega
          case rel => exact ⟨j + 1, m', by have := Hk.out; omega, by rw [hm'], by go_num, Hs, by omega, Hrow.out.below (below_step hb3k hb4k hb3k.size), HB4.out, Hb4.out⟩
      · have Hs := Lib.hid (show ahead p pos hd = none by rw [← hrel2.out]; exact arun_end (by have := ll.out; omega))
        clear hrel2
        go_wp2_with fail
        try rw [Exit.noGoto_ret]
        exact bodyPost_ret (v := .tuple #[.int .i64 0, .int .i64 0, .bool false]) (by simp [results, Try.results39, go_sem]) rfl ⟨ah_none Hs.out, Hb.out⟩
theorem met_go {p : Plan} {L : List Port} {j : Nat} {x : Port} {xs ys : List Int} (h : L[j]? = some x) (hh : xs ++ metSigs p (L.drop j) = ys) : xs ++ (if 0 ≤ reads p x then [reads p x] else []) ++ metSigs p (L.drop (j + 1)) = ys := by
  rw [← hh, drop_cons h, met_cons, List.append_assoc]
set_option maxHeartbeats 4000000 in
theorem refroute_any (w : World) (pv : PV) (p : Plan) (hp : PlanAt w pv p) (hc : chk p = 0) (a : Option Addr) (n c : Nat) (pos : List Int) (hr : Hid (Ints w a n pos)) (hd : Port) :
    Calls Try.prog 42 #[pv.val p, .slice a n c, hd.val] w (IntsPost w (route p pos hd)) := by
  obtain ⟨ae, ne, ce, aj, nj, cj, as_, ns, cs, al, nl, cl, lv⟩ := pv
  dsimp only [PV.val, Port.val]
  have hP := Lib.hid hp
  have Hc := Lib.hid hc
  have Hba := Lib.hid (below_new2 w (.cells #[.slice ae ne ce, .slice aj nj cj, .slice as_ ns cs, .slice al nl cl, .int .i64 p.top, .int .i64 p.brake, .int .i64 p.margin, .int .i64 p.throw, .bool p.hard] 27) (.cells #[.int .i64 hd.e, .int .i64 hd.n] 30))
  have HBa := Lib.hid ((pbox_new w ⟨ae, ne, ce, aj, nj, cj, as_, ns, cs, al, nl, cl, lv⟩ p).below (below_new _ (.cells #[.int .i64 hd.e, .int .i64 hd.n] 30)))
  have HXa := Lib.hid (PortBox.new (w.alloc (.cells #[.slice ae ne ce, .slice aj nj cj, .slice as_ ns cs, .slice al nl cl, .int .i64 p.top, .int .i64 p.brake, .int .i64 p.margin, .int .i64 p.throw, .bool p.hard] 27)) (b := w.heap.size + 1) (by simp) hd 30)
  clear hp hc
  obtain ⟨L, hL⟩ : ∃ L, L = runGo p pos (portsNo p).toNat hd := ⟨_, rfl⟩
  have Hs := Lib.hid (show metSigs p (hd :: L.1) = route p pos hd by rw [route_run, hL])
  have hll : L.1.length ≤ 160 := by have h1 := (run_len p pos (portsNo p).toNat hd).1; have h2 := ports_bound Hc.out; rw [hL]; omega
  have HRun := Lib.hid (fun (u : World) (hb : Below w.heap.size w u) => refrun_any u ⟨ae, ne, ce, aj, nj, cj, as_, ns, cs, al, nl, cl, lv⟩ p (hP.out.below hb) a n c pos (Lib.hid (hr.out.below hb)) hd (portsNo p))
  rw [run_ports_eq Hc.out, ← hL] at HRun
  dsimp only [PV.val, Port.val] at HRun
  have HPo := Lib.hid (fun (u : World) (hb : Below w.heap.size w u) => refports_any u ⟨ae, ne, ce, aj, nj, cj, as_, ns, cs, al, nl, cl, lv⟩ p (hP.out.below hb) Hc.out)
  dsimp only [PV.val] at HPo
  clear hL
  obtain ⟨N, hN⟩ : ∃ N, N = portsNo p := ⟨_, rfl⟩
  rw [← hN] at HRun HPo
  clear hN
  obtain ⟨ii, hii, zi1, zi2, zi3⟩ := info_parts info_int
  go_enter Try.func42, Try.ntmps42
  go_wp2_with fail
  first | refine name_code fun w1 hW => ?_ | refine name_world fun w1 hW => ?_
  have Hb1 := Lib.hid (show Below w.heap.size w w1 by rw [hW]; exact Hba.out)
  have HB1 := Lib.hid (show PBox w1 w.heap.size ⟨ae, ne, ce, aj, nj, cj, as_, ns, cs, al, nl, cl, lv⟩ p by rw [hW]; exact HBa.out)
  have HX1 := Lib.hid (show PortBox w1 (w.heap.size + 1) hd by rw [hW]; exact HXa.out)
  clear hW HBa HXa Hba
  obtain ⟨hbl, c0, c1, c2, c3, c4, c5, c6, c7, c8⟩ := HB1.out
  dsimp only at c0 c1 c2 c3
  obtain ⟨hxl, x0, x1, _⟩ := HX1.out
  have hSall : ∀ w' : World, Below (w1).heap.size (w1) w' → (w'.cell? ⟨w.heap.size, 0, none⟩ = some (.slice ae ne ce) ∧ w'.cell? ⟨w.heap.size, 1, none⟩ = some (.slice aj nj cj) ∧ w'.cell? ⟨w.heap.size, 2, none⟩ = some (.slice as_ ns cs) ∧ w'.cell? ⟨w.heap.size, 3, none⟩ = some (.slice al nl cl) ∧ w'.cell? ⟨w.heap.size, 4, none⟩ = some (.int .i64 p.top) ∧ w'.cell? ⟨w.heap.size, 5, none⟩ = some (.int .i64 p.brake) ∧ w'.cell? ⟨w.heap.size, 6, none⟩ = some (.int .i64 p.margin) ∧ w'.cell? ⟨w.heap.size, 7, none⟩ = some (.int .i64 p.throw) ∧ w'.cell? ⟨w.heap.size, 8, none⟩ = some (.bool p.hard) ∧ w'.cell? ⟨w.heap.size + 1, 0, none⟩ = some (.int .i64 hd.e) ∧ w'.cell? ⟨w.heap.size + 1, 1, none⟩ = some (.int .i64 hd.n)) := fun w' hb => ⟨(hb.cell (p := ⟨w.heap.size, 0, none⟩) hbl).trans c0, (hb.cell (p := ⟨w.heap.size, 1, none⟩) hbl).trans c1, (hb.cell (p := ⟨w.heap.size, 2, none⟩) hbl).trans c2, (hb.cell (p := ⟨w.heap.size, 3, none⟩) hbl).trans c3, (hb.cell (p := ⟨w.heap.size, 4, none⟩) hbl).trans c4, (hb.cell (p := ⟨w.heap.size, 5, none⟩) hbl).trans c5, (hb.cell (p := ⟨w.heap.size, 6, none⟩) hbl).trans c6, (hb.cell (p := ⟨w.heap.size, 7, none⟩) hbl).trans c7, (hb.cell (p := ⟨w.heap.size, 8, none⟩) hbl).trans c8, (hb.cell (p := ⟨w.heap.size + 1, 0, none⟩) hxl).trans x0, (hb.cell (p := ⟨w.heap.size + 1, 1, none⟩) hxl).trans x1⟩
  refine wp_region_noPanic ?_
  refine region_upto (S := fun w' => w'.cell? ⟨w.heap.size, 0, none⟩ = some (.slice ae ne ce) ∧ w'.cell? ⟨w.heap.size, 1, none⟩ = some (.slice aj nj cj) ∧ w'.cell? ⟨w.heap.size, 2, none⟩ = some (.slice as_ ns cs) ∧ w'.cell? ⟨w.heap.size, 3, none⟩ = some (.slice al nl cl) ∧ w'.cell? ⟨w.heap.size, 4, none⟩ = some (.int .i64 p.top) ∧ w'.cell? ⟨w.heap.size, 5, none⟩ = some (.int .i64 p.brake) ∧ w'.cell? ⟨w.heap.size, 6, none⟩ = some (.int .i64 p.margin) ∧ w'.cell? ⟨w.heap.size, 7, none⟩ = some (.int .i64 p.throw) ∧ w'.cell? ⟨w.heap.size, 8, none⟩ = some (.bool p.hard) ∧ w'.cell? ⟨w.heap.size + 1, 0, none⟩ = some (.int .i64 hd.e) ∧ w'.cell? ⟨w.heap.size + 1, 1, none⟩ = some (.int .i64 hd.n)) (n := 11) (by kernel_rfl) ?_
  refine upto_take (i := 0) (v := .agg #[.slice ae ne ce, .slice aj nj cj, .slice as_ ns cs, .slice al nl cl, .int .i64 p.top, .int .i64 p.brake, .int .i64 p.margin, .int .i64 p.throw, .bool p.hard]) rfl (by kernel_rfl) (by kernel_rfl) (by kernel_rfl) (by kernel_rfl) (fun _ _ _ h => h) (Or.inl ⟨by rfl, ?_⟩) (hSall _ (by repeat (first | with_reducible exact Below.refl _ _ | with_reducible assumption | with_reducible exact below_new _ _ | with_reducible apply below_drewN | with_reducible apply Below.drew | with_reducible refine below_set (Nat.le_refl _) ?_ _ | ((with_reducible refine below_set ?_ ?_ _); omega) | with_reducible refine Below.alloc ?_ (by first | omega | (simp; omega) | simp) _))) ?_
  · intro w' hSw
    (try dsimp only at hSw)
    go_simp
  (try simp only [List.getElem_toArray, List.getElem_cons_zero, Act.put, List.setIfInBounds_toArray, List.set_cons_zero, List.set_cons_succ])
  refine upto_take (i := 1) (v := .slice a n c) rfl (by kernel_rfl) (by kernel_rfl) (by kernel_rfl) (by kernel_rfl) (fun _ _ _ h => h) (Or.inl ⟨by rfl, ?_⟩) (hSall _ (by repeat (first | with_reducible exact Below.refl _ _ | with_reducible assumption | with_reducible exact below_new _ _ | with_reducible apply below_drewN | with_reducible apply Below.drew | with_reducible refine below_set (Nat.le_refl _) ?_ _ | ((with_reducible refine below_set ?_ ?_ _); omega) | with_reducible refine Below.alloc ?_ (by first | omega | (simp; omega) | simp) _))) ?_
  · intro w' hSw
    (try dsimp only at hSw)
    go_simp
  (try simp only [List.getElem_toArray, List.getElem_cons_succ, List.getElem_cons_zero, Act.put, List.setIfInBounds_toArray, List.set_cons_zero, List.set_cons_succ])
  refine upto_take (i := 2) (v := .agg #[.int .i64 hd.e, .int .i64 hd.n]) rfl (by kernel_rfl) (by kernel_rfl) (by kernel_rfl) (by kernel_rfl) (fun _ _ _ h => h) (Or.inl ⟨by rfl, ?_⟩) (hSall _ (by repeat (first | with_reducible exact Below.refl _ _ | with_reducible assumption | with_reducible exact below_new _ _ | with_reducible apply below_drewN | with_reducible apply Below.drew | with_reducible refine below_set (Nat.le_refl _) ?_ _ | ((with_reducible refine below_set ?_ ?_ _); omega) | with_reducible refine Below.alloc ?_ (by first | omega | (simp; omega) | simp) _))) ?_
  · intro w' hSw
    (try dsimp only at hSw)
    go_simp
  (try simp only [List.getElem_toArray, List.getElem_cons_succ, List.getElem_cons_zero, Act.put, List.setIfInBounds_toArray, List.set_cons_zero, List.set_cons_succ])
  refine upto_take (i := 3) (v := .agg #[.slice ae ne ce, .slice aj nj cj, .slice as_ ns cs, .slice al nl cl, .int .i64 p.top, .int .i64 p.brake, .int .i64 p.margin, .int .i64 p.throw, .bool p.hard]) rfl (by kernel_rfl) (by kernel_rfl) (by kernel_rfl) (by kernel_rfl) (fun _ _ _ h => h) (Or.inl ⟨by rfl, ?_⟩) (hSall _ (by repeat (first | with_reducible exact Below.refl _ _ | with_reducible assumption | with_reducible exact below_new _ _ | with_reducible apply below_drewN | with_reducible apply Below.drew | with_reducible refine below_set (Nat.le_refl _) ?_ _ | ((with_reducible refine below_set ?_ ?_ _); omega) | with_reducible refine Below.alloc ?_ (by first | omega | (simp; omega) | simp) _))) ?_
  · intro w' hSw
    (try dsimp only at hSw)
    go_simp
  (try simp only [List.getElem_toArray, List.getElem_cons_succ, List.getElem_cons_zero, Act.put, List.setIfInBounds_toArray, List.set_cons_zero, List.set_cons_succ])
  refine upto_step (i := 4) (by kernel_rfl) rfl (fun K hK => ?_)
  go_simp
  refine (HPo.out _ (below_step Hb1.out (Below.refl w1.heap.size w1).drew Hb1.out.size)).mono ?_
  rintro en v1 ⟨rfl, hbx1⟩
  have hbx1 : Below w1.heap.size w1 v1 := (Below.refl w1.heap.size w1).drew.trans hbx1
  refine hK _ _ (fun _ => (hSall _ (by repeat (first | with_reducible exact Below.refl _ _ | with_reducible assumption | with_reducible exact below_new _ _ | with_reducible apply below_drewN | with_reducible apply Below.drew | with_reducible refine below_set (Nat.le_refl _) ?_ _ | ((with_reducible refine below_set ?_ ?_ _); omega) | with_reducible refine Below.alloc ?_ (by first | omega | (simp; omega) | simp) _)))) ?_
  clear hK K
  (try simp only [List.getElem_toArray, List.getElem_cons_succ, List.getElem_cons_zero, Act.put, List.setIfInBounds_toArray, List.set_cons_zero, List.set_cons_succ])
  refine upto_step (i := 5) (by kernel_rfl) rfl (fun K hK => ?_)
  go_simp
  refine (HRun.out _ (below_step Hb1.out hbx1 Hb1.out.size)).mono ?_
  rintro en w2 ⟨ra, rn, rc, rfl, hrow, hrc, hbx2⟩
  have hbx2 : Below w1.heap.size w1 w2 := hbx1.trans (hbx2.mono hbx1.size)
  refine hK _ _ (fun _ => (hSall _ (by repeat (first | with_reducible exact Below.refl _ _ | with_reducible assumption | with_reducible exact below_new _ _ | with_reducible apply below_drewN | with_reducible apply Below.drew | with_reducible refine below_set (Nat.le_refl _) ?_ _ | ((with_reducible refine below_set ?_ ?_ _); omega) | with_reducible refine Below.alloc ?_ (by first | omega | (simp; omega) | simp) _)))) ?_
  clear hK K
  (try simp only [List.getElem_toArray, List.getElem_cons_succ, List.getElem_cons_zero, Act.put, List.setIfInBounds_toArray, List.set_cons_zero, List.set_cons_succ])
  refine upto_step (i := 6) (by kernel_rfl) rfl (fun K hK => ?_)
  go_simp
  refine hK _ _ (fun _ => (hSall _ (by repeat (first | with_reducible exact Below.refl _ _ | with_reducible assumption | with_reducible exact below_new _ _ | with_reducible apply below_drewN | with_reducible apply Below.drew | with_reducible refine below_set (Nat.le_refl _) ?_ _ | ((with_reducible refine below_set ?_ ?_ _); omega) | with_reducible refine Below.alloc ?_ (by first | omega | (simp; omega) | simp) _)))) ?_
  clear hK K
  (try simp only [List.getElem_toArray, List.getElem_cons_succ, List.getElem_cons_zero, Act.put, List.setIfInBounds_toArray, List.set_cons_zero, List.set_cons_succ])
  refine upto_take (i := 7) (v := .slice ra rn rc) rfl (by kernel_rfl) (by kernel_rfl) (by kernel_rfl) (by kernel_rfl) (fun _ _ _ h => h) (Or.inl ⟨by rfl, ?_⟩) (hSall _ (by repeat (first | with_reducible exact Below.refl _ _ | with_reducible assumption | with_reducible exact below_new _ _ | with_reducible apply below_drewN | with_reducible apply Below.drew | with_reducible refine below_set (Nat.le_refl _) ?_ _ | ((with_reducible refine below_set ?_ ?_ _); omega) | with_reducible refine Below.alloc ?_ (by first | omega | (simp; omega) | simp) _))) ?_
  · intro w' hSw
    (try dsimp only at hSw)
    go_simp
  (try simp only [List.getElem_toArray, List.getElem_cons_succ, List.getElem_cons_zero, Act.put, List.setIfInBounds_toArray, List.set_cons_zero, List.set_cons_succ])
  refine upto_take (i := 8) (v := .int .i64 L.2) rfl (by kernel_rfl) (by kernel_rfl) (by kernel_rfl) (by kernel_rfl) (fun _ _ _ h => h) (Or.inl ⟨by rfl, ?_⟩) (hSall _ (by repeat (first | with_reducible exact Below.refl _ _ | with_reducible assumption | with_reducible exact below_new _ _ | with_reducible apply below_drewN | with_reducible apply Below.drew | with_reducible refine below_set (Nat.le_refl _) ?_ _ | ((with_reducible refine below_set ?_ ?_ _); omega) | with_reducible refine Below.alloc ?_ (by first | omega | (simp; omega) | simp) _))) ?_
  · intro w' hSw
    (try dsimp only at hSw)
    go_simp
  (try simp only [List.getElem_toArray, List.getElem_cons_succ, List.getElem_cons_zero, Act.put, List.setIfInBounds_toArray, List.set_cons_zero, List.set_cons_succ])
  refine upto_step (i := 9) (by kernel_rfl) rfl (fun K hK => ?_)
  go_simp
  refine hK _ _ (fun _ => (hSall _ (by repeat (first | with_reducible exact Below.refl _ _ | with_reducible assumption | with_reducible exact below_new _ _ | with_reducible apply below_drewN | with_reducible apply Below.drew | with_reducible refine below_set (Nat.le_refl _) ?_ _ | ((with_reducible refine below_set ?_ ?_ _); omega) | with_reducible refine Below.alloc ?_ (by first | omega | (simp; omega) | simp) _)))) ?_
  clear hK K
  (try simp only [List.getElem_toArray, List.getElem_cons_succ, List.getElem_cons_zero, Act.put, List.setIfInBounds_toArray, List.set_cons_zero, List.set_cons_succ])
  refine upto_step (i := 10) (by kernel_rfl) rfl (fun K hK => ?_)
  go_simp
  refine hK _ _ (fun _ => (hSall _ (by repeat (first | with_reducible exact Below.refl _ _ | with_reducible assumption | with_reducible exact below_new _ _ | with_reducible apply below_drewN | with_reducible apply Below.drew | with_reducible refine below_set (Nat.le_refl _) ?_ _ | ((with_reducible refine below_set ?_ ?_ _); omega) | with_reducible refine Below.alloc ?_ (by first | omega | (simp; omega) | simp) _)))) ?_
  clear hK K
  (try simp only [List.getElem_toArray, List.getElem_cons_succ, List.getElem_cons_zero, Act.put, List.setIfInBounds_toArray, List.set_cons_zero, List.set_cons_succ])
  refine upto_done (by kernel_rfl) (NoPanic.normal ?_) _
  clear hSall
  have Hb2 := Lib.hid (below_step Hb1.out hbx2 Hb1.out.size)
  have HB2 := Lib.hid (HB1.out.below hbx2)
  have HX2 := Lib.hid (HX1.out.below hbx2)
  have Hrow := Lib.hid hrow
  clear hbx1 hbx2 hrow c0 c1 c2 c3 c4 c5 c6 c7 c8 x0 x1 HB1 HX1 Hb1 HRun HPo
  obtain ⟨L, en1⟩ := L
  dsimp only at Hs hll Hrow
  have hlen := Hrow.out.len
  obtain ⟨_, x0, x1, _⟩ := HX2.out
  have o7 := lit_port1 (w := w2) hd (Nat.le_refl _) rfl
  have q8 := run_app (α := Port) (sz := 2) (enc := encPort) (fun _ => rfl) one_port (P := Try.prog) (w2.alloc (.cells #[.int .i64 hd.e, .int .i64 hd.n] 30)) 42 42 w2.heap.size 30 (.agg #[.int .i64 0, .int .i64 0]) 16 Try.underlying42 info_port rfl (by decide) _ 1 [hd] o7 ra rn rc L (Hrow.out.below (below_new w2 (.cells #[.int .i64 hd.e, .int .i64 hd.n] 30))) hrc (by simp only [maxLen]; omega) (by omega) (by simp <;> omega)
  obtain ⟨n9, hn9⟩ : ∃ n9, n9 = 1 + rn := ⟨_, rfl⟩
  rw [← hn9] at q8
  obtain ⟨v8, w8, r8, o8, g8, _, _⟩ := q8
  have hb8 : Below w2.heap.size w2 w8 := (below_new w2 (.cells #[.int .i64 hd.e, .int .i64 hd.n] 30)).grown g8 (by simp) (fun k hk => by cases hk; exact Nat.le_refl _)
  obtain ⟨a8, c8', rfl, _, hc8⟩ := own_slice o8
  obtain ⟨LL, hLL⟩ : ∃ LL, LL = hd :: L := ⟨_, rfl⟩
  have U8 := Lib.hid (show Row 2 encPort w8 a8 n9 LL by rw [hLL]; exact (owns_row (sz := 2) (enc := encPort) (fun _ => rfl) o8 (by omega)).1)
  rw [← hLL] at Hs
  have HB8 := Lib.hid (HB2.out.below hb8)
  have Hb8 := Lib.hid (below_step Hb2.out hb8 Hb2.out.size)
  have ll := Lib.hid U8.out.len
  have hbn := U8.out.bnd
  have hn161 : n9 ≤ 161 := by omega
  clear o7 o8 g8 hb8 hc8 HB2 HX2 Hrow hLL hn9
  go_wp2_with (at_builtin; refine Lib.wpList_append_run _ rfl _ _ _ _ rfl _ _ rfl rfl _ _ r8 ?_)
  clear r8 x0 x1
  go_wp2_with fail
  go_loopg [9, 10] n9 (fun k v i wr => ∃ (j : Nat) (xs : List Int), j + k = n9 ∧ wr.ownsRow w8.heap.size 3 1 v xs.length (xs.map (Value.int .i64)) ∧ i = .int .i64 j ∧ Hid (xs ++ metSigs p (LL.drop j) = route p pos hd) ∧ xs.length ≤ j ∧ Below w8.heap.size w8 wr)
  case atStart => exact ⟨0, [], by omega, own_nil _ _ _ _, rfl, Hs, by simp, Below.refl _ _⟩
  case round =>
    clear Hs
    obtain ⟨j, xs, hk, own, rfl, hrel2, hxl, hb⟩ := hrel
    have Hk := Lib.hid hk; clear hk
    obtain ⟨a1, ca1, rfl, hbd, hc1⟩ := own_slice own
    have Own := Lib.hid own
    have HB := Lib.hid (HB8.out.below hb)
    have Hb := Lib.hid hb
    have Hbw := Lib.hid (below_step Hb8.out hb Hb8.out.size)
    clear hb own
    by_cases hlt : j < n9
    · obtain ⟨x, hx⟩ := get_some ll.out hlt
      obtain ⟨pb, off, rfl, hpb, g1, g2⟩ := U8.out.port hx
      have g1 := (Hb.out.cell (p := ⟨pb, off + j * 2, none⟩) hpb).trans g1
      have g2 := (Hb.out.cell (p := ⟨pb, off + j * 2 + 1, none⟩) hpb).trans g2
      have hpb2 : pb < wr.heap.size := Nat.lt_of_lt_of_le hpb Hb.out.size
      obtain ⟨_, c0, c1, c2, c3, c4, c5, c6, c7, c8⟩ := HB.out
      dsimp only at c0 c1 c2 c3
      have Hn := Lib.hid (met_go hx hrel2.out)
      clear hx hrel2
      go_wp2_with fail
      have c0q := fun d os => cell_regrown c0 d os
      have c1q := fun d os => cell_regrown c1 d os
      have c2q := fun d os => cell_regrown c2 d os
      have c3q := fun d os => cell_regrown c3 d os
      have c4q := fun d os => cell_regrown c4 d os
      have c5q := fun d os => cell_regrown c5 d os
      have c6q := fun d os => cell_regrown c6 d os
      have c7q := fun d os => cell_regrown c7 d os
      have c8q := fun d os => cell_regrown c8 d os
      have g1q := fun d os => cell_regrown g1 d os
      have g2q := fun d os => cell_regrown g2 d os
      have cq0 : ∀ d os, Calls Try.prog 63 #[.agg #[.slice ae ne ce, .slice aj nj cj, .slice as_ ns cs, .slice al nl cl, .int .i64 p.top, .int .i64 p.brake, .int .i64 p.margin, .int .i64 p.throw, .bool p.hard], .agg #[.int .i64 x.e, .int .i64 x.n]] (grow (redrawn wr d) os) fun e w'' => e = .returned (.int .i64 (reads p x)) ∧ ∃ rg : Regrown, w'' = grow (redrawn wr rg.d) rg.os := fun d os => Calls.regrown_of (refreads_l (a := x.e) (b := x.n) (hP.out.below (below_step Hbw.out (below_regrown _ d os) Hbw.out.size)))
      refine wp_region_quiet_below (by kernel_rfl) (by kernel_rfl) ?_
      repeat (quiet_step (first | with_reducible exact cq0 _ _))
      refine wpQuiet_nil ?_
      intro w3 hw'
      have hb3 : Below wr.heap.size wr w3 := by obtain ⟨⟨d, os⟩, rfl⟩ := hw'; exact below_regrown _ d os
      clear hw' c0q c1q c2q c3q c4q c5q c6q c7q c8q g1q g2q cq0
      have Hb3 := Lib.hid (below_step Hb.out hb3 Hb.out.size)
      have Own3 := Lib.hid (owns_below Own.out hb3)
      have hz3 := Hb3.out.size
      clear hb3 c0 c1 c2 c3 c4 c5 c6 c7 c8 g1 g2 Own HB Hbw
      by_cases r0 : 0 ≤ reads p x
      · rw [if_pos r0] at Hn
        go_wp2_with (at_builtin; refine wpList_append_own _ rfl _ _ 28 rfl w8.heap.size 3 ii (.int .i64 0) 1 8 Try.underlying28 hii zi1 zi2 zi3 rfl (by decide) _ _ _ rfl (Own3.out.alloc _) ⟨w3.heap.size, 0, none⟩ 1 1 [.int .i64 (reads p x)] rfl rfl (cell_one_new _ _ _) (one_int _ _) (by simp [maxLen]; omega) (by omega) (by simp; omega) ?_)
        intro v4 w4 hown4 hgrow4 _
        have Hb4 := Lib.hid (grown_below (Hb3.out.alloc Hb3.out.size (.cells #[.int .i64 (reads p x)] 3)) (Own3.out.alloc (.cells #[.int .i64 (reads p x)] 3)) (Nat.le_refl _) (by simp; omega) hgrow4)
        obtain ⟨a4, ca4, rfl, _, hc4⟩ := own_slice hown4
        have Own4 := Lib.hid (show w4.ownsRow w8.heap.size 3 1 (.slice a4 (xs.length + 1) ca4) (xs.length + 1) ((xs ++ [reads p x]).map (Value.int .i64)) by rw [List.map_append]; exact hown4)
        clear hown4 hgrow4 Own3 Hb3
        go_wp2_with fail
        go_roundg (gk - 1)
        case measure => have := Hk.out; omega
        case rel => exact ⟨j + 1, xs ++ [reads p x], by have := Hk.out; omega, by simpa using Own4.out, by go_num, Hn, by simp; omega, Hb4.out⟩
      · rw [if_neg r0, List.append_nil] at Hn
        have r1 : reads p x < 0 := by omega
        go_wp2_with fail
        go_roundg (gk - 1)
        case measure => have := Hk.out; omega
        case rel => exact ⟨j + 1, xs, by have := Hk.out; omega, Own3.out, by go_num, Hn, by omega, Hb3.out⟩
    · have Hs := Lib.hid (show xs = route p pos hd by rw [← hrel2.out, List.drop_of_length_le (by have := ll.out; omega)]; simp [metSigs])
      clear hrel2
      go_wp2_with fail
      go_ret
      exact ⟨a1, xs.length, ca1, rfl, by rw [← Hs.out]; exact (own_ints Own.out).1, fun h => (hc1 h).2, Hbw.out⟩
end Go.Proofs.Ytackcfoplhhnbaa
