/- NetNews: for every input the law returns true. No condition. -/
import Derived.Test.YtlndfmflbdkpjaaNetPlit
import Derived.Test.YtlndfmflbdkpjaaPlanW11
import Derived.Test.YtlndfmflbdkpjaaUptoMap
import Derived.Lib.QuietBelow
set_option maxRecDepth 1000000
namespace Go.Proofs.Ytlndfmflbdkpjaa
open Go.ChangeShapes Go.WideShapes Go.ChangeAt Go.RowKit Go.Sort

theorem refsame_l2 {w : World} {pv : PV} {p : Plan} {ae aj as_ al : Option Addr} {ne ce nj cj ns cs nl cl : Nat} {lv : List LineV} (h : PlanAt w pv p) (h2 : PlanAt w ⟨ae, ne, ce, aj, nj, cj, as_, ns, cs, al, nl, cl, lv⟩ p) :
    Calls Try.prog 29 #[.agg #[.slice pv.ae pv.ne pv.ce, .slice pv.aj pv.nj pv.cj, .slice pv.as_ pv.ns pv.cs, .slice pv.al pv.nl pv.cl, .int .i64 p.top, .int .i64 p.brake, .int .i64 p.margin, .int .i64 p.throw, .bool p.hard], .agg #[.slice ae ne ce, .slice aj nj cj, .slice as_ ns cs, .slice al nl cl, .int .i64 p.top, .int .i64 p.brake, .int .i64 p.margin, .int .i64 p.throw, .bool p.hard]] w fun e w' => e = .returned (.bool true) ∧ Below w.heap.size w w' :=
  (refsame_any w pv ⟨ae, ne, ce, aj, nj, cj, as_, ns, cs, al, nl, cl, lv⟩ p p h h2).mono fun e w' ⟨h1, h2⟩ => ⟨by rw [h1]; simp, h2⟩
set_option maxHeartbeats 4000000 in
theorem lawNews_any (w : World) (pv : PV) (p : Plan) (i : Int) (h : PlanAt w pv p) :
    Calls Try.prog 13 #[pv.val p, .int .i64 i] w fun en w' => en = .returned (.bool true) ∧ Below w.heap.size w w' := by
  obtain ⟨ae, ne, ce, aj, nj, cj, as_, ns, cs, al, nl, cl, lv⟩ := pv
  have hP := Lib.hid h
  have HBa := Lib.hid (pbox_new w ⟨ae, ne, ce, aj, nj, cj, as_, ns, cs, al, nl, cl, lv⟩ p)
  have Hba := Lib.hid (below_new w (.cells #[.slice ae ne ce, .slice aj nj cj, .slice as_ ns cs, .slice al nl cl, .int .i64 p.top, .int .i64 p.brake, .int .i64 p.margin, .int .i64 p.throw, .bool p.hard] 32))
  have K := Lib.hid (known4_any (w.alloc (.cells #[.slice ae ne ce, .slice aj nj cj, .slice as_ ns cs, .slice al nl cl, .int .i64 p.top, .int .i64 p.brake, .int .i64 p.margin, .int .i64 p.throw, .bool p.hard] 32)))
  have HF := Lib.hid (fun (u : World) (hb : Below w.heap.size w u) => fewx_l (w := u) (hP.out.below hb))
  clear h
  dsimp only [PV.val]
  obtain ⟨_, c0, c1, c2, c3, c4, c5, c6, c7, c8⟩ := HBa.out
  dsimp only at c0 c1 c2 c3
  cases hf : few p with
  | false =>
    rw [hf] at HF
    clear hf
    go_enter Try.func13, Try.ntmps13
    go_wp2_with fail
    refine (K.out).mono ?_
    rintro e w1 ⟨rfl, hbx⟩
    have HB1 := Lib.hid (HBa.out.below hbx)
    have Hb1 := Lib.hid (below_step Hba.out hbx Hba.out.size)
    clear hbx c0 c1 c2 c3 c4 c5 c6 c7 c8
    obtain ⟨_, c0, c1, c2, c3, c4, c5, c6, c7, c8⟩ := HB1.out
    dsimp only at c0 c1 c2 c3
    go_wp2_with fail
    refine (HF.out w1 Hb1.out).mono ?_
    rintro e w2 ⟨rfl, hbx⟩
    have HB2 := Lib.hid (HB1.out.below hbx)
    have Hb2 := Lib.hid (below_step Hb1.out hbx Hb1.out.size)
    clear hbx c0 c1 c2 c3 c4 c5 c6 c7 c8
    obtain ⟨_, c0, c1, c2, c3, c4, c5, c6, c7, c8⟩ := HB2.out
    dsimp only at c0 c1 c2 c3
    go_wp2_with fail
    go_ret
    exact ⟨rfl, Hb2.out⟩
  | true =>
    rw [hf] at HF
    have Hok := Lib.hid (few_ok hP.out hf)
    have Hn2 := Lib.hid (show ∀ x ∈ lv, x.n ≤ 1000 from fun x hx => by have := Hok.out.2.2.2.2 x hx; omega)
    clear hf
    by_cases hc : chk p = 0
    · have Hc := Lib.hid hc
      have q0 : (chk p == 0) = true := by simpa using hc
      have le := Lib.hid (show p.elems.length = ne from hP.out.e.len)
      have ls := Lib.hid (show p.sigs.length = ns from hP.out.s.len)
      clear hc
      go_enter Try.func13, Try.ntmps13
      go_wp2_with fail
      refine (K.out).mono ?_
      rintro e w1 ⟨rfl, hbx⟩
      have HB1 := Lib.hid (HBa.out.below hbx)
      have Hb1 := Lib.hid (below_step Hba.out hbx Hba.out.size)
      clear hbx c0 c1 c2 c3 c4 c5 c6 c7 c8
      obtain ⟨_, c0, c1, c2, c3, c4, c5, c6, c7, c8⟩ := HB1.out
      dsimp only at c0 c1 c2 c3
      go_wp2_with fail
      refine (HF.out w1 Hb1.out).mono ?_
      rintro e w2 ⟨rfl, hbx⟩
      have HB2 := Lib.hid (HB1.out.below hbx)
      have Hb2 := Lib.hid (below_step Hb1.out hbx Hb1.out.size)
      clear hbx c0 c1 c2 c3 c4 c5 c6 c7 c8
      obtain ⟨_, c0, c1, c2, c3, c4, c5, c6, c7, c8⟩ := HB2.out
      dsimp only at c0 c1 c2 c3
      go_wp2_with fail
      refine (new_l Hok.out (hP.out.below Hb2.out)).mono ?_
      rintro e w3 (⟨hcc, _, _⟩ | ⟨_, b, rfl, hb, hn, hbx⟩)
      · exact absurd Hc.out hcc
      have HB3 := Lib.hid (HB2.out.below hbx)
      have HN3 := Lib.hid hn
      have Hb3 := Lib.hid (below_step Hb2.out hbx Hb2.out.size)
      clear hbx hn hb c0 c1 c2 c3 c4 c5 c6 c7 c8
      obtain ⟨_, c0, c1, c2, c3, c4, c5, c6, c7, c8⟩ := HB3.out
      dsimp only at c0 c1 c2 c3
      go_wp2_with fail
      refine (refcheck_l2 Hn2.out (hP.out.below Hb3.out)).mono ?_
      rintro e w4 ⟨rfl, hbx⟩
      have HB4 := Lib.hid (HB3.out.below hbx)
      have HN4 := Lib.hid (HN3.out.below hbx)
      have Hx4 := Lib.hid hbx
      have Hb4 := Lib.hid (below_step Hb3.out hbx Hb3.out.size)
      clear hbx c0 c1 c2 c3 c4 c5 c6 c7 c8
      obtain ⟨_, c0, c1, c2, c3, c4, c5, c6, c7, c8⟩ := HB4.out
      dsimp only at c0 c1 c2 c3
      rw [Hc.out]
      have NL := Lib.hid (fun (u : World) (hn : NetAt u b p) => nlen_b u b p hn)
      rw [le.out] at NL
      have NS := Lib.hid (fun (u : World) (hn : NetAt u b p) => nsignals_b u b p hn)
      rw [ls.out] at NS
      have hbl := HB4.out.lt
      go_wp2_with fail
      have hSall : ∀ w' : World, Below (w4).heap.size (w4) w' → (w'.cell? ⟨w.heap.size, 0, none⟩ = some (.slice ae ne ce) ∧ w'.cell? ⟨w.heap.size, 1, none⟩ = some (.slice aj nj cj) ∧ w'.cell? ⟨w.heap.size, 2, none⟩ = some (.slice as_ ns cs) ∧ w'.cell? ⟨w.heap.size, 3, none⟩ = some (.slice al nl cl) ∧ w'.cell? ⟨w.heap.size, 4, none⟩ = some (.int .i64 p.top) ∧ w'.cell? ⟨w.heap.size, 5, none⟩ = some (.int .i64 p.brake) ∧ w'.cell? ⟨w.heap.size, 6, none⟩ = some (.int .i64 p.margin) ∧ w'.cell? ⟨w.heap.size, 7, none⟩ = some (.int .i64 p.throw) ∧ w'.cell? ⟨w.heap.size, 8, none⟩ = some (.bool p.hard)) := fun w' hb => ⟨(hb.cell (p := ⟨w.heap.size, 0, none⟩) hbl).trans c0, (hb.cell (p := ⟨w.heap.size, 1, none⟩) hbl).trans c1, (hb.cell (p := ⟨w.heap.size, 2, none⟩) hbl).trans c2, (hb.cell (p := ⟨w.heap.size, 3, none⟩) hbl).trans c3, (hb.cell (p := ⟨w.heap.size, 4, none⟩) hbl).trans c4, (hb.cell (p := ⟨w.heap.size, 5, none⟩) hbl).trans c5, (hb.cell (p := ⟨w.heap.size, 6, none⟩) hbl).trans c6, (hb.cell (p := ⟨w.heap.size, 7, none⟩) hbl).trans c7, (hb.cell (p := ⟨w.heap.size, 8, none⟩) hbl).trans c8⟩
      refine wp_region_noPanic ?_
      refine region_upto (S := fun w' => w'.cell? ⟨w.heap.size, 0, none⟩ = some (.slice ae ne ce) ∧ w'.cell? ⟨w.heap.size, 1, none⟩ = some (.slice aj nj cj) ∧ w'.cell? ⟨w.heap.size, 2, none⟩ = some (.slice as_ ns cs) ∧ w'.cell? ⟨w.heap.size, 3, none⟩ = some (.slice al nl cl) ∧ w'.cell? ⟨w.heap.size, 4, none⟩ = some (.int .i64 p.top) ∧ w'.cell? ⟨w.heap.size, 5, none⟩ = some (.int .i64 p.brake) ∧ w'.cell? ⟨w.heap.size, 6, none⟩ = some (.int .i64 p.margin) ∧ w'.cell? ⟨w.heap.size, 7, none⟩ = some (.int .i64 p.throw) ∧ w'.cell? ⟨w.heap.size, 8, none⟩ = some (.bool p.hard)) (n := 39) (by kernel_rfl) ?_
      refine upto_take (i := 0) (v := .pointer (some ⟨b, 0, none⟩)) rfl (by kernel_rfl) (by kernel_rfl) (by kernel_rfl) (by kernel_rfl) (fun _ _ _ h => h) (Or.inl ⟨by rfl, ?_⟩) (hSall _ (by repeat (first | with_reducible exact Below.refl _ _ | with_reducible assumption | with_reducible exact below_new _ _ | with_reducible apply below_drewN | with_reducible apply Below.drew | with_reducible refine below_set (Nat.le_refl _) ?_ _ | ((with_reducible refine below_set ?_ ?_ _); omega) | with_reducible refine Below.alloc ?_ (by first | omega | (simp; omega) | simp) _))) ?_
      · intro w' hSw
        (try dsimp only at hSw)
        go_simp
      (try simp only [List.getElem_toArray, List.getElem_cons_zero, Act.put, List.setIfInBounds_toArray, List.set_cons_zero, List.set_cons_succ])
      refine upto_take (i := 2) (v := .agg #[.slice ae ne ce, .slice aj nj cj, .slice as_ ns cs, .slice al nl cl, .int .i64 p.top, .int .i64 p.brake, .int .i64 p.margin, .int .i64 p.throw, .bool p.hard]) rfl (by kernel_rfl) (by kernel_rfl) (by kernel_rfl) (by kernel_rfl) (fun _ _ _ h => h) (Or.inl ⟨by rfl, ?_⟩) (hSall _ (by repeat (first | with_reducible exact Below.refl _ _ | with_reducible assumption | with_reducible exact below_new _ _ | with_reducible apply below_drewN | with_reducible apply Below.drew | with_reducible refine below_set (Nat.le_refl _) ?_ _ | ((with_reducible refine below_set ?_ ?_ _); omega) | with_reducible refine Below.alloc ?_ (by first | omega | (simp; omega) | simp) _))) ?_
      · intro w' hSw
        (try dsimp only at hSw)
        go_simp
      (try simp only [List.getElem_toArray, List.getElem_cons_succ, List.getElem_cons_zero, Act.put, List.setIfInBounds_toArray, List.set_cons_zero, List.set_cons_succ])
      refine upto_step (i := 1) (by kernel_rfl) rfl (fun K hK => ?_)
      go_simp
      refine (nplan_any _ b p (HN4.out.below ((Below.refl w4.heap.size w4).drew))).mono ?_
      rintro en v1 ⟨⟨be, me, fe, bj, mj, fj, bs, ms, fs, bl, ml, fl, lq⟩, rfl, hq, hfq, hbx⟩
      have hbx : Below w4.heap.size w4 v1 := (Below.refl w4.heap.size w4).drew.trans hbx
      dsimp only [PV.val]
      refine hK _ _ (fun _ => (hSall _ (by repeat (first | with_reducible exact Below.refl _ _ | with_reducible assumption | with_reducible exact below_new _ _ | with_reducible apply below_drewN | with_reducible apply Below.drew | with_reducible refine below_set (Nat.le_refl _) ?_ _ | ((with_reducible refine below_set ?_ ?_ _); omega) | with_reducible refine Below.alloc ?_ (by first | omega | (simp; omega) | simp) _)))) ?_
      clear hK K
      (try simp only [List.getElem_toArray, List.getElem_cons_succ, List.getElem_cons_zero, Act.put, List.setIfInBounds_toArray, List.set_cons_zero, List.set_cons_succ])
      have hBase : Below w4.heap.size w4 v1 := hbx
      have HB5 := Lib.hid (HB4.out.below hBase)
      have HN5 := Lib.hid (HN4.out.below hBase)
      have Hb5 := Lib.hid (below_step Hb4.out hBase Hb4.out.size)
      have Hq := Lib.hid hq
      clear hbx hq c0 c1 c2 c3 c4 c5 c6 c7 c8
      obtain ⟨_, c0, c1, c2, c3, c4, c5, c6, c7, c8⟩ := HB5.out
      dsimp only at c0 c1 c2 c3
      have c0q := fun d os => cell_regrown c0 d os
      have c1q := fun d os => cell_regrown c1 d os
      have c2q := fun d os => cell_regrown c2 d os
      have c3q := fun d os => cell_regrown c3 d os
      have c4q := fun d os => cell_regrown c4 d os
      have c5q := fun d os => cell_regrown c5 d os
      have c6q := fun d os => cell_regrown c6 d os
      have c7q := fun d os => cell_regrown c7 d os
      have c8q := fun d os => cell_regrown c8 d os
      have cq0 : ∀ d os, Calls Try.prog 29 #[.agg #[.slice be me fe, .slice bj mj fj, .slice bs ms fs, .slice bl ml fl, .int .i64 p.top, .int .i64 p.brake, .int .i64 p.margin, .int .i64 p.throw, .bool p.hard], .agg #[.slice ae ne ce, .slice aj nj cj, .slice as_ ns cs, .slice al nl cl, .int .i64 p.top, .int .i64 p.brake, .int .i64 p.margin, .int .i64 p.throw, .bool p.hard]] (grow (redrawn v1 d) os) fun e w'' => e = .returned (.bool true) ∧ ∃ rg : Regrown, w'' = grow (redrawn v1 rg.d) rg.os := fun d os => Calls.regrown_of (refsame_l2 (pv := ⟨be, me, fe, bj, mj, fj, bs, ms, fs, bl, ml, fl, lq⟩) (Hq.out.below (below_regrown _ d os)) (hP.out.below (below_step Hb5.out (below_regrown _ d os) Hb5.out.size)))
      have cq1 : ∀ d os, Calls Try.prog 40 #[.pointer (some ⟨b, 0, none⟩)] (grow (redrawn v1 d) os) fun e w'' => e = .returned (.int .i64 (ne : Int)) ∧ ∃ rg : Regrown, w'' = grow (redrawn v1 rg.d) rg.os := fun d os => Calls.regrown_of (NL.out _ (HN5.out.below (below_regrown _ d os)))
      have cq2 : ∀ d os, Calls Try.prog 44 #[.pointer (some ⟨b, 0, none⟩)] (grow (redrawn v1 d) os) fun e w'' => e = .returned (.int .i64 (ns : Int)) ∧ ∃ rg : Regrown, w'' = grow (redrawn v1 rg.d) rg.os := fun d os => Calls.regrown_of (NS.out _ (HN5.out.below (below_regrown _ d os)))
      have cq3 : ∀ d os, Calls Try.prog 45 #[.pointer (some ⟨b, 0, none⟩), .int .i64 i] (grow (redrawn v1 d) os) fun e w'' => e = .returned (.int .i64 (p.kind i)) ∧ ∃ rg : Regrown, w'' = grow (redrawn v1 rg.d) rg.os := fun d os => Calls.regrown_of (nkind_any _ b p (HN5.out.below (below_regrown _ d os)) i)
      have cq4 : ∀ d os, Calls Try.prog 46 #[.agg #[.slice ae ne ce, .slice aj nj cj, .slice as_ ns cs, .slice al nl cl, .int .i64 p.top, .int .i64 p.brake, .int .i64 p.margin, .int .i64 p.throw, .bool p.hard], .int .i64 i] (grow (redrawn v1 d) os) fun e w'' => e = .returned (.int .i64 (p.kind i)) ∧ ∃ rg : Regrown, w'' = grow (redrawn v1 rg.d) rg.os := fun d os => Calls.regrown_of (refkind_l (hP.out.below (below_step Hb5.out (below_regrown _ d os) Hb5.out.size)))
      have cq5 : ∀ d os, Calls Try.prog 47 #[.pointer (some ⟨b, 0, none⟩), .int .i64 i] (grow (redrawn v1 d) os) fun e w'' => e = .returned (.int .i64 (p.length i)) ∧ ∃ rg : Regrown, w'' = grow (redrawn v1 rg.d) rg.os := fun d os => Calls.regrown_of (nlength_any _ b p (HN5.out.below (below_regrown _ d os)) i)
      have cq6 : ∀ d os, Calls Try.prog 48 #[.agg #[.slice ae ne ce, .slice aj nj cj, .slice as_ ns cs, .slice al nl cl, .int .i64 p.top, .int .i64 p.brake, .int .i64 p.margin, .int .i64 p.throw, .bool p.hard], .int .i64 i] (grow (redrawn v1 d) os) fun e w'' => e = .returned (.int .i64 (p.length i)) ∧ ∃ rg : Regrown, w'' = grow (redrawn v1 rg.d) rg.os := fun d os => Calls.regrown_of (reflength_l (hP.out.below (below_step Hb5.out (below_regrown _ d os) Hb5.out.size)))
      refine upto_tail 3 (by kernel_rfl) (by kernel_rfl) (by kernel_rfl) (fun _ hbz => hSall _ (hBase.trans (hbz.mono hBase.size))) ?_
      simp only [List.drop_succ_cons, List.drop_zero]
      clear hSall
      repeat (quiet_step (first | with_reducible exact cq0 _ _ | with_reducible exact cq1 _ _ | with_reducible exact cq2 _ _ | with_reducible exact cq3 _ _ | with_reducible exact cq4 _ _ | with_reducible exact cq5 _ _ | with_reducible exact cq6 _ _))
      refine wpQuiet_nil ?_
      intro v2 hb6
      refine NoPanic.normal ?_
      clear c0q c1q c2q c3q c4q c5q c6q c7q c8q cq0 cq1 cq2 cq3 cq4 cq5 cq6
      go_wp2_with fail
      go_ret
      exact ⟨ret_bool (by simp), below_step Hb5.out hb6 Hb5.out.size⟩
    · have Hc := Lib.hid hc
      have q0 : (chk p == 0) = false := by simpa using hc
      clear hc
      go_enter Try.func13, Try.ntmps13
      go_wp2_with fail
      refine (K.out).mono ?_
      rintro e w1 ⟨rfl, hbx⟩
      have HB1 := Lib.hid (HBa.out.below hbx)
      have Hb1 := Lib.hid (below_step Hba.out hbx Hba.out.size)
      clear hbx c0 c1 c2 c3 c4 c5 c6 c7 c8
      obtain ⟨_, c0, c1, c2, c3, c4, c5, c6, c7, c8⟩ := HB1.out
      dsimp only at c0 c1 c2 c3
      go_wp2_with fail
      refine (HF.out w1 Hb1.out).mono ?_
      rintro e w2 ⟨rfl, hbx⟩
      have HB2 := Lib.hid (HB1.out.below hbx)
      have Hb2 := Lib.hid (below_step Hb1.out hbx Hb1.out.size)
      clear hbx c0 c1 c2 c3 c4 c5 c6 c7 c8
      obtain ⟨_, c0, c1, c2, c3, c4, c5, c6, c7, c8⟩ := HB2.out
      dsimp only at c0 c1 c2 c3
      go_wp2_with fail
      refine (new_l Hok.out (hP.out.below Hb2.out)).mono ?_
      rintro e w3 (⟨_, rfl, hbx⟩ | ⟨hcc, _⟩)
      · have HB3 := Lib.hid (HB2.out.below hbx)
        have Hb3 := Lib.hid (below_step Hb2.out hbx Hb2.out.size)
        clear hbx c0 c1 c2 c3 c4 c5 c6 c7 c8
        obtain ⟨_, c0, c1, c2, c3, c4, c5, c6, c7, c8⟩ := HB3.out
        dsimp only at c0 c1 c2 c3
        go_wp2_with fail
        refine (refcheck_l2 Hn2.out (hP.out.below Hb3.out)).mono ?_
        rintro e w4 ⟨rfl, hbx⟩
        have HB4 := Lib.hid (HB3.out.below hbx)
        have Hb4 := Lib.hid (below_step Hb3.out hbx Hb3.out.size)
        clear hbx c0 c1 c2 c3 c4 c5 c6 c7 c8
        obtain ⟨_, c0, c1, c2, c3, c4, c5, c6, c7, c8⟩ := HB4.out
        dsimp only at c0 c1 c2 c3
        go_wp2_with fail
        go_ret
        exact ⟨ret_bool (by simp), Hb4.out⟩
      · exact absurd hcc Hc.out
set_option maxRecDepth 100000 in
theorem netNews_lifted (os : Os) (started : os.Started) (H : Type) (enc : TypeId × Value → H) :
    ReturnsInHanded {} Try.checked os 13 .any (Rows.netNewsSpec.pre6 enc Try.prog Try.f13 Rows.netNewsRow.domain false) (Rows.netNewsSpec.post enc Try.prog Try.f13 false true false false) := by
  refine returnsInHanded_of_change (C := Try.checked) own started (by kernel_rfl) Try.func13
    (ChangeSpec.witness6 (enc := enc) (C := Try.checked) false ⟨#[], #[.agg #[.slice none 0 0, .slice none 0 0, .slice none 0 0, .slice none 0 0, .int .i64 0, .int .i64 0, .int .i64 0, .int .i64 0, .bool false], .int .i64 0], []⟩ 8 (by kernel_rfl) (by kernel_rfl) (by kernel_rfl) (by kernel_rfl)) ?_
  intro W base args ds gs before hval0 hW hcnd _
  have hval : ∀ (j : Nat) t v, Try.f13.params[j]? = some t → args[j]? = some v → Value.okWide Try.prog W .any base t v := hval0
  have hW' := hW
  obtain ⟨p, q, hA0, hV, rfl, hfz, hnd⟩ := hW
  have hA : DataW.TrodAll enc Try.prog W 0 (fun _ => true) true Try.f13.params.toList args.toList ds p := hA0
  rw [Try.params13] at hA hval
  obtain ⟨v0, vs0, d0, ds0, p0, q0, hargs, rfl, rfl, k0, r0⟩ := trodAll_cons hA
  obtain ⟨v1, vs1, d1, ds1, p1, q1, rfl, rfl, rfl, k1, r1⟩ := trodAll_cons r0
  obtain ⟨rfl, rfl, rfl⟩ := trodAll_nil r1
  obtain rfl : args = #[v0, v1] := by cases args; simp_all
  obtain ⟨rfl, rfl⟩ := trodVars_none hV
  have lt0 : ∀ x ∈ p0, x.block < W.heap.size := by obtain ⟨m, hm⟩ := k0; exact DataW.trod_lt m _ _ _ hm
  have hv0 := hval 0 32 v0 rfl rfl
  have lt1 : ∀ x ∈ p1, x.block < W.heap.size := by obtain ⟨m, hm⟩ := k1; exact DataW.trod_lt m _ _ _ hm
  have hv1 := hval 1 3 v1 rfl rfl
  have fin : Calls Try.prog 13 #[v0, v1] W (fun e W' => e = .returned (.bool true) ∧ Below W.heap.size W W') := by
    obtain ⟨pv, p, rfl, hp⟩ := open_plan hv0 k0
    obtain ⟨x0, rfl, a0⟩ := open_i hv1 k1
    exact lawNews_any W pv p x0 hp
  clear hA0 hval0
  refine fin.mono fun e W' ⟨he, bel⟩ => ?_
  subst he
  exact ⟨_, rfl, _, _, _, [], _, [], hW', trodAll_mk1 (shut_bool Try.underlying4 _), (trodAll_cons_mk (Below.trod laidOut (by kernel_rfl) (of_decide_eq_true (by kernel_rfl)) k0 bel lt0) (trodAll_cons_mk (Below.trod laidOut (by kernel_rfl) (of_decide_eq_true (by kernel_rfl)) k1 bel lt1) trodAll_mk0)), rfl, bel.frame _, fun h => by cases h⟩

/-- THE STATEMENT -/
theorem netNews_holds : Rows.NetNewsSaid :=
  OpenClaim.holds_of_wide 13 Try.f13 rfl rfl rfl rfl rfl rfl rfl ⟨rfl, rfl, rfl, rfl, rfl⟩ rfl rfl rfl rfl rfl (by kernel_rfl) Try.func13 (by kernel_rfl)
    (of_decide_eq_true (by kernel_rfl)) (by unfold Func.isWrapper; first | (rw [if_pos (by decide +kernel)]; kernel_rfl) | (rw [if_neg (by decide +kernel)]; exact ⟨rfl, rfl⟩))
    (fun os started H enc _ => netNews_lifted os started H enc)
end Go.Proofs.Ytlndfmflbdkpjaa
