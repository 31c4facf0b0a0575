/- ClashAny: for every input the law returns true. No condition. -/
import Derived.Test.YtnkpiijljfjmkaaClashB3
import Derived.Test.YtnkpiijljfjmkaaClashAt
import Derived.Test.YtnkpiijljfjmkaaClashW1
set_option maxRecDepth 1000000
namespace Go.Proofs.Ytnkpiijljfjmkaa
open Go.ChangeShapes Go.WideShapes Go.ChangeAt Go.RowKit Go.Sort

theorem three_of {w W : World} {A B C : Obj} (h : W = ((w.alloc A).alloc B).alloc C) : W.heap[w.heap.size]? = some A ∧ W.heap[w.heap.size + 1]? = some B ∧ W.heap[w.heap.size + 2]? = some C ∧ Below w.heap.size w W := by
 subst h
 have b := heap_alloc_new (w.alloc A) B
 rw [show (w.alloc A).heap.size = w.heap.size + 1 by simp] at b
 have c := heap_alloc_new ((w.alloc A).alloc B) C
 rw [show ((w.alloc A).alloc B).heap.size = w.heap.size + 2 by simp] at c
 exact ⟨alloc_oldC (alloc_oldC (heap_alloc_new w A) _) _, alloc_oldC b _, c, (((Below.refl _ _).alloc (Nat.le_refl _) _).alloc (by simp) _).alloc (by simp; omega) _⟩
set_option maxHeartbeats 8000000 in
theorem lawAny_any (w : World) (pv : PV) (p : Plan) (h : PlanAt w pv p) (va vb : RV) (r1 r2 : Road) (h1 : RoadAt w va r1) (h2 : RoadAt w vb r2) :
  Calls Try.prog 4 #[pv.val p, va.val r1, vb.val r2] w fun e w' => e = .returned (.bool true) ∧ Below w.heap.size w w' := by
 have HP := Lib.hid h
 have HRa := Lib.hid h1
 have HRb := Lib.hid h2
 obtain ⟨ae, ne, ce, aj, nj, cj, as_, ns, cs, al, nl, cl, lv⟩ := pv
 obtain ⟨sa1, sn1, sc1, na1, nn1, nc1, ga1, gn1, gc1, za1, zn1, zc1, ha1, hn1, hc1⟩ := va
 obtain ⟨sa2, sn2, sc2, na2, nn2, nc2, ga2, gn2, gc2, za2, zn2, zc2, ha2, hn2, hc2⟩ := vb
 clear h h1 h2
 dsimp only [PV.val, RV.val]
 go_enter Try.func4, Try.ntmps4
 go_wp2_with fail
 refine name_calls fun W0 hW0 => ?_
 obtain ⟨hp0, ha0, hb0, hw0⟩ := three_of hW0
 have HpW0 := Lib.hid hp0
 have HaW0 := Lib.hid ha0
 have HbW0 := Lib.hid hb0
 have HBW0 := Lib.hid hw0
 clear hW0 hp0 ha0 hb0 hw0
 refine (known10_any W0).mono ?_
 rintro e w1 ⟨rfl, hx1⟩
 have Hpw1 := Lib.hid (rbox_keep HpW0.out hx1)
 have Haw1 := Lib.hid (rbox_keep HaW0.out hx1)
 have Hbw1 := Lib.hid (rbox_keep HbW0.out hx1)
 have HBw1 := Lib.hid (below_step HBW0.out hx1 HBW0.out.size)
 obtain ⟨c0, c1, c2, c3, c4, c5, c6, c7, c8⟩ := nine_of Hpw1.out
 obtain ⟨a0, a1, a2, a3, a4, a5, a6, a7, a8⟩ := nine_of Haw1.out
 obtain ⟨b0, b1, b2, b3, b4, b5, b6, b7, b8⟩ := nine_of Hbw1.out
 have HF := Lib.hid (finex_l (HP.out.below HBw1.out))
 clear hx1
 go_wp2_with fail
 cases hf : fine p with
 | false =>
  rw [hf] at HF
  refine HF.out.mono ?_
  rintro e w2 ⟨rfl, hx2⟩
  go_wp2_with fail
  go_ret
  exact ⟨ret_bool (by simp), below_step HBw1.out hx2 HBw1.out.size⟩
 | true =>
  rw [hf] at HF
  have Hf := Lib.hid hf
  have Hok := Lib.hid (few_ok HP.out (fine_few hf).1)
  clear hf
  refine HF.out.mono ?_
  rintro e w2 ⟨rfl, hx2⟩
  clear c0 a0 b0 c1 a1 b1 c2 a2 b2 c3 a3 b3 c4 a4 b4 c5 a5 b5 c6 a6 b6 c7 a7 b7 c8 a8 b8
  have Hpw2 := Lib.hid (rbox_keep Hpw1.out hx2)
  have Haw2 := Lib.hid (rbox_keep Haw1.out hx2)
  have Hbw2 := Lib.hid (rbox_keep Hbw1.out hx2)
  have HBw2 := Lib.hid (below_step HBw1.out hx2 HBw1.out.size)
  obtain ⟨c0, c1, c2, c3, c4, c5, c6, c7, c8⟩ := nine_of Hpw2.out
  obtain ⟨a0, a1, a2, a3, a4, a5, a6, a7, a8⟩ := nine_of Haw2.out
  obtain ⟨b0, b1, b2, b3, b4, b5, b6, b7, b8⟩ := nine_of Hbw2.out
  clear hx2 HF
  have HLa := Lib.hid (light_any w2 ⟨sa1, sn1, sc1, na1, nn1, nc1, ga1, gn1, gc1, za1, zn1, zc1, ha1, hn1, hc1⟩ r1)
  dsimp only [RV.val] at HLa
  go_wp2_with fail
  cases hla : light ⟨sa1, sn1, sc1, na1, nn1, nc1, ga1, gn1, gc1, za1, zn1, zc1, ha1, hn1, hc1⟩ with
  | false =>
   rw [hla] at HLa
   refine HLa.out.mono ?_
   rintro e w3 ⟨rfl, hx3⟩
   go_wp2_with fail
   go_ret
   exact ⟨ret_bool (by simp), below_step HBw2.out hx3 HBw2.out.size⟩
  | true =>
   rw [hla] at HLa
   have Hla := Lib.hid (light_lite hla)
   clear hla
   refine HLa.out.mono ?_
   rintro e w3 ⟨rfl, hx3⟩
   clear c0 a0 b0 c1 a1 b1 c2 a2 b2 c3 a3 b3 c4 a4 b4 c5 a5 b5 c6 a6 b6 c7 a7 b7 c8 a8 b8
   have Hpw3 := Lib.hid (rbox_keep Hpw2.out hx3)
   have Haw3 := Lib.hid (rbox_keep Haw2.out hx3)
   have Hbw3 := Lib.hid (rbox_keep Hbw2.out hx3)
   have HBw3 := Lib.hid (below_step HBw2.out hx3 HBw2.out.size)
   obtain ⟨c0, c1, c2, c3, c4, c5, c6, c7, c8⟩ := nine_of Hpw3.out
   obtain ⟨a0, a1, a2, a3, a4, a5, a6, a7, a8⟩ := nine_of Haw3.out
   obtain ⟨b0, b1, b2, b3, b4, b5, b6, b7, b8⟩ := nine_of Hbw3.out
   clear hx3 HLa
   have HLb := Lib.hid (light_any w3 ⟨sa2, sn2, sc2, na2, nn2, nc2, ga2, gn2, gc2, za2, zn2, zc2, ha2, hn2, hc2⟩ r2)
   dsimp only [RV.val] at HLb
   go_wp2_with fail
   cases hlb : light ⟨sa2, sn2, sc2, na2, nn2, nc2, ga2, gn2, gc2, za2, zn2, zc2, ha2, hn2, hc2⟩ with
   | false =>
    rw [hlb] at HLb
    refine HLb.out.mono ?_
    rintro e w4 ⟨rfl, hx4⟩
    go_wp2_with fail
    go_ret
    exact ⟨ret_bool (by simp), below_step HBw3.out hx4 HBw3.out.size⟩
   | true =>
    rw [hlb] at HLb
    have Hlb := Lib.hid (light_lite hlb)
    clear hlb
    refine HLb.out.mono ?_
    rintro e w4 ⟨rfl, hx4⟩
    clear c0 a0 b0 c1 a1 b1 c2 a2 b2 c3 a3 b3 c4 a4 b4 c5 a5 b5 c6 a6 b6 c7 a7 b7 c8 a8 b8
    have Hpw4 := Lib.hid (rbox_keep Hpw3.out hx4)
    have Haw4 := Lib.hid (rbox_keep Haw3.out hx4)
    have Hbw4 := Lib.hid (rbox_keep Hbw3.out hx4)
    have HBw4 := Lib.hid (below_step HBw3.out hx4 HBw3.out.size)
    obtain ⟨c0, c1, c2, c3, c4, c5, c6, c7, c8⟩ := nine_of Hpw4.out
    obtain ⟨a0, a1, a2, a3, a4, a5, a6, a7, a8⟩ := nine_of Haw4.out
    obtain ⟨b0, b1, b2, b3, b4, b5, b6, b7, b8⟩ := nine_of Hbw4.out
    clear hx4 HLb
    have HM := Lib.hid (made_any w4 ⟨ae, ne, ce, aj, nj, cj, as_, ns, cs, al, nl, cl, lv⟩ p Hf.out (HP.out.below HBw4.out))
    dsimp only [PV.val] at HM
    go_wp2_with fail
    refine HM.out.mono ?_
    rintro e w5 ⟨nb, rfl, hnb, hn, hx5⟩
    clear c0 a0 b0 c1 a1 b1 c2 a2 b2 c3 a3 b3 c4 a4 b4 c5 a5 b5 c6 a6 b6 c7 a7 b7 c8 a8 b8
    have Hpw5 := Lib.hid (rbox_keep Hpw4.out hx5)
    have Haw5 := Lib.hid (rbox_keep Haw4.out hx5)
    have Hbw5 := Lib.hid (rbox_keep Hbw4.out hx5)
    have HBw5 := Lib.hid (below_step HBw4.out hx5 HBw4.out.size)
    obtain ⟨c0, c1, c2, c3, c4, c5, c6, c7, c8⟩ := nine_of Hpw5.out
    obtain ⟨a0, a1, a2, a3, a4, a5, a6, a7, a8⟩ := nine_of Haw5.out
    obtain ⟨b0, b1, b2, b3, b4, b5, b6, b7, b8⟩ := nine_of Hbw5.out
    have HNk := Lib.hid hn
    have Ra5 := Lib.hid (HRa.out.below HBw5.out)
    have Rb5 := Lib.hid (HRb.out.below HBw5.out)
    have HP5 := Lib.hid (HP.out.below HBw5.out)
    have hlp := (Array.getElem?_eq_some_iff.1 Hpw5.out).1
    have hlra := (Array.getElem?_eq_some_iff.1 Haw5.out).1
    have hlrb := (Array.getElem?_eq_some_iff.1 Hbw5.out).1
    clear hx5 HM hn hnb
    go_wp2_with fail
    have HW := Lib.hid (fun (u : World) (hu : Below w5.heap.size w5 u) => why_any u nb p (HNk.out.below hu) ⟨sa1, sn1, sc1, na1, nn1, nc1, ga1, gn1, gc1, za1, zn1, zc1, ha1, hn1, hc1⟩ ⟨sa2, sn2, sc2, na2, nn2, nc2, ga2, gn2, gc2, za2, zn2, zc2, ha2, hn2, hc2⟩ r1 r2 (Ra5.out.below hu) (Rb5.out.below hu) Hla.out Hlb.out)
    have HRW := Lib.hid (fun (u : World) (hu : Below w5.heap.size w5 u) => refwhy_any u ⟨ae, ne, ce, aj, nj, cj, as_, ns, cs, al, nl, cl, lv⟩ p (HP5.out.below hu) Hok.out (fine_few Hf.out).2 ⟨sa1, sn1, sc1, na1, nn1, nc1, ga1, gn1, gc1, za1, zn1, zc1, ha1, hn1, hc1⟩ ⟨sa2, sn2, sc2, na2, nn2, nc2, ga2, gn2, gc2, za2, zn2, zc2, ha2, hn2, hc2⟩ r1 r2 (Ra5.out.below hu) (Rb5.out.below hu) Hla.out Hlb.out)
    dsimp only [PV.val, RV.val] at HW HRW
    refine wp_region_noPanic ?_
    refine region_ob (S := fun w' => Below w5.heap.size w5 w') (ob := fun _ => true) (by kernel_rfl) ?_
    have hS0 : Below w5.heap.size w5 w5.drew := (Below.refl _ _).drew
    refine tk 0 (.pointer (some ⟨nb, 0, none⟩)) ?_ hS0 ?_
    ·intro w' hSw
     go_simp
    (try simp only [zA, zC, Act.put, zD, zE, zF])
    refine tk 1 (.bool true) ?_ hS0 ?_
    ·intro w' hSw
     go_simp
    (try simp only [zA, zB, zC, Act.put, zD, zE, zF])
    refine tk 2 (.bool true) ?_ hS0 ?_
    ·intro w' hSw
     go_simp
    (try simp only [zA, zB, zC, Act.put, zD, zE, zF])
    refine tk 3 (.pointer (some ⟨nb, 0, none⟩)) ?_ hS0 ?_
    ·intro w' hSw
     go_simp
    (try simp only [zA, zB, zC, Act.put, zD, zE, zF])
    refine tk 4 (.agg #[.int .i64 r1.frm, .int .i64 r1.to, .int .i64 r1.fin, .slice sa1 sn1 sc1, .slice na1 nn1 nc1, .slice ga1 gn1 gc1, .slice za1 zn1 zc1, .slice ha1 hn1 hc1, .bool r1.bare]) ?_ hS0 ?_
    ·intro w' hSw
     have a0 := (hSw.cell (p := ⟨w.heap.size + 1, 0, none⟩) hlra).trans a0
     have a1 := (hSw.cell (p := ⟨w.heap.size + 1, 1, none⟩) hlra).trans a1
     have a2 := (hSw.cell (p := ⟨w.heap.size + 1, 2, none⟩) hlra).trans a2
     have a3 := (hSw.cell (p := ⟨w.heap.size + 1, 3, none⟩) hlra).trans a3
     have a4 := (hSw.cell (p := ⟨w.heap.size + 1, 4, none⟩) hlra).trans a4
     have a5 := (hSw.cell (p := ⟨w.heap.size + 1, 5, none⟩) hlra).trans a5
     have a6 := (hSw.cell (p := ⟨w.heap.size + 1, 6, none⟩) hlra).trans a6
     have a7 := (hSw.cell (p := ⟨w.heap.size + 1, 7, none⟩) hlra).trans a7
     have a8 := (hSw.cell (p := ⟨w.heap.size + 1, 8, none⟩) hlra).trans a8
     go_simp
    (try simp only [zA, zB, zC, Act.put, zD, zE, zF])
    refine tk 5 (.agg #[.int .i64 r2.frm, .int .i64 r2.to, .int .i64 r2.fin, .slice sa2 sn2 sc2, .slice na2 nn2 nc2, .slice ga2 gn2 gc2, .slice za2 zn2 zc2, .slice ha2 hn2 hc2, .bool r2.bare]) ?_ hS0 ?_
    ·intro w' hSw
     have b0 := (hSw.cell (p := ⟨w.heap.size + 2, 0, none⟩) hlrb).trans b0
     have b1 := (hSw.cell (p := ⟨w.heap.size + 2, 1, none⟩) hlrb).trans b1
     have b2 := (hSw.cell (p := ⟨w.heap.size + 2, 2, none⟩) hlrb).trans b2
     have b3 := (hSw.cell (p := ⟨w.heap.size + 2, 3, none⟩) hlrb).trans b3
     have b4 := (hSw.cell (p := ⟨w.heap.size + 2, 4, none⟩) hlrb).trans b4
     have b5 := (hSw.cell (p := ⟨w.heap.size + 2, 5, none⟩) hlrb).trans b5
     have b6 := (hSw.cell (p := ⟨w.heap.size + 2, 6, none⟩) hlrb).trans b6
     have b7 := (hSw.cell (p := ⟨w.heap.size + 2, 7, none⟩) hlrb).trans b7
     have b8 := (hSw.cell (p := ⟨w.heap.size + 2, 8, none⟩) hlrb).trans b8
     go_simp
    (try simp only [zA, zB, zC, Act.put, zD, zE, zF])
    refine tk 7 (.agg #[.slice ae ne ce, .slice aj nj cj, .slice as_ ns cs, .slice al nl cl, .int .i64 p.top, .int .i64 p.brake, .int .i64 p.margin, .int .i64 p.throw, .bool p.hard]) ?_ hS0 ?_
    ·intro w' hSw
     have c0 := (hSw.cell (p := ⟨w.heap.size, 0, none⟩) hlp).trans c0
     have c1 := (hSw.cell (p := ⟨w.heap.size, 1, none⟩) hlp).trans c1
     have c2 := (hSw.cell (p := ⟨w.heap.size, 2, none⟩) hlp).trans c2
     have c3 := (hSw.cell (p := ⟨w.heap.size, 3, none⟩) hlp).trans c3
     have c4 := (hSw.cell (p := ⟨w.heap.size, 4, none⟩) hlp).trans c4
     have c5 := (hSw.cell (p := ⟨w.heap.size, 5, none⟩) hlp).trans c5
     have c6 := (hSw.cell (p := ⟨w.heap.size, 6, none⟩) hlp).trans c6
     have c7 := (hSw.cell (p := ⟨w.heap.size, 7, none⟩) hlp).trans c7
     have c8 := (hSw.cell (p := ⟨w.heap.size, 8, none⟩) hlp).trans c8
     go_simp
    (try simp only [zA, zB, zC, Act.put, zD, zE, zF])
    refine tk 8 (.agg #[.int .i64 r1.frm, .int .i64 r1.to, .int .i64 r1.fin, .slice sa1 sn1 sc1, .slice na1 nn1 nc1, .slice ga1 gn1 gc1, .slice za1 zn1 zc1, .slice ha1 hn1 hc1, .bool r1.bare]) ?_ hS0 ?_
    ·intro w' hSw
     have a0 := (hSw.cell (p := ⟨w.heap.size + 1, 0, none⟩) hlra).trans a0
     have a1 := (hSw.cell (p := ⟨w.heap.size + 1, 1, none⟩) hlra).trans a1
     have a2 := (hSw.cell (p := ⟨w.heap.size + 1, 2, none⟩) hlra).trans a2
     have a3 := (hSw.cell (p := ⟨w.heap.size + 1, 3, none⟩) hlra).trans a3
     have a4 := (hSw.cell (p := ⟨w.heap.size + 1, 4, none⟩) hlra).trans a4
     have a5 := (hSw.cell (p := ⟨w.heap.size + 1, 5, none⟩) hlra).trans a5
     have a6 := (hSw.cell (p := ⟨w.heap.size + 1, 6, none⟩) hlra).trans a6
     have a7 := (hSw.cell (p := ⟨w.heap.size + 1, 7, none⟩) hlra).trans a7
     have a8 := (hSw.cell (p := ⟨w.heap.size + 1, 8, none⟩) hlra).trans a8
     go_simp
    (try simp only [zA, zB, zC, Act.put, zD, zE, zF])
    refine tk 9 (.agg #[.int .i64 r2.frm, .int .i64 r2.to, .int .i64 r2.fin, .slice sa2 sn2 sc2, .slice na2 nn2 nc2, .slice ga2 gn2 gc2, .slice za2 zn2 zc2, .slice ha2 hn2 hc2, .bool r2.bare]) ?_ hS0 ?_
    ·intro w' hSw
     have b0 := (hSw.cell (p := ⟨w.heap.size + 2, 0, none⟩) hlrb).trans b0
     have b1 := (hSw.cell (p := ⟨w.heap.size + 2, 1, none⟩) hlrb).trans b1
     have b2 := (hSw.cell (p := ⟨w.heap.size + 2, 2, none⟩) hlrb).trans b2
     have b3 := (hSw.cell (p := ⟨w.heap.size + 2, 3, none⟩) hlrb).trans b3
     have b4 := (hSw.cell (p := ⟨w.heap.size + 2, 4, none⟩) hlrb).trans b4
     have b5 := (hSw.cell (p := ⟨w.heap.size + 2, 5, none⟩) hlrb).trans b5
     have b6 := (hSw.cell (p := ⟨w.heap.size + 2, 6, none⟩) hlrb).trans b6
     have b7 := (hSw.cell (p := ⟨w.heap.size + 2, 7, none⟩) hlrb).trans b7
     have b8 := (hSw.cell (p := ⟨w.heap.size + 2, 8, none⟩) hlrb).trans b8
     go_simp
    (try simp only [zA, zB, zC, Act.put, zD, zE, zF])
    refine ob_step (i := 6) (by kernel_rfl) rfl (fun K hK => ?_)
    rw [if_pos (by rfl)]
    go_simp
    refine (HW.out _ hS0).mono ?_
    rintro e u1 ⟨rfl, hy1⟩
    have hS1 := below_step hS0 hy1 hS0.size
    refine hK _ _ (fun _ => hS1) ?_
    clear hK K
    (try simp only [zA, zB, zC, Act.put, zD, zE, zF])
    refine ob_step (i := 10) (by kernel_rfl) rfl (fun K hK => ?_)
    rw [if_pos (by rfl)]
    go_simp
    refine (HRW.out _ hS1).mono ?_
    rintro e u2 ⟨rfl, hy2⟩
    have hS2 := below_step hS1 hy2 hS1.size
    refine hK _ _ (fun _ => hS2) ?_
    clear hK K
    (try simp only [zA, zB, zC, Act.put, zD, zE, zF])
    refine tk 11 (.bool true) ?_ hS2 ?_
    ·intro w' hSw
     go_simp
    (try simp only [zA, zB, zC, Act.put, zD, zE, zF])
    refine tk 12 (.bool true) ?_ hS2 ?_
    ·intro w' hSw
     go_simp
    (try simp only [zA, zB, zC, Act.put, zD, zE, zF])
    refine tk 13 (.bool true) ?_ hS2 ?_
    ·intro w' hSw
     go_simp
    (try simp only [zA, zB, zC, Act.put, zD, zE, zF])
    refine ob_done (by kernel_rfl) (NoPanic.normal ?_) _
    go_wp2_with fail
    go_ret
    exact ⟨rfl, below_step HBw5.out hS2 HBw5.out.size⟩
set_option maxRecDepth 100000 in
theorem clashAny_lifted (os : Os) (started : os.Started) (H : Type) (enc : TypeId × Value → H) :
  ReturnsInHanded {} Try.checked os 4 .any (Rows.clashAnySpec.pre6 enc Try.prog Try.f4 Rows.clashAnyRow.domain false) (Rows.clashAnySpec.post enc Try.prog Try.f4 false true false false) := by
 refine returnsInHanded_of_change (C := Try.checked) own started (by kernel_rfl) Try.func4
  (ChangeSpec.witness6 (enc := enc) (C := Try.checked) false ⟨#[], #[.agg #[.slice none 0 0, .slice none 0 0, .slice none 0 0, .slice none 0 0, .int .i64 0, .int .i64 0, .int .i64 0, .int .i64 0, .bool false], .agg #[.int .i64 0, .int .i64 0, .int .i64 0, .slice none 0 0, .slice none 0 0, .slice none 0 0, .slice none 0 0, .slice none 0 0, .bool false], .agg #[.int .i64 0, .int .i64 0, .int .i64 0, .slice none 0 0, .slice none 0 0, .slice none 0 0, .slice none 0 0, .slice none 0 0, .bool false]], []⟩ 8 (by kernel_rfl) (by kernel_rfl) (by kernel_rfl) (by kernel_rfl)) ?_
 intro W base args ds gs before hval0 hW hcnd _
 have hval : ∀ (j : Nat) t v, Try.f4.params[j]? = some t → args[j]? = some v → Value.okWide Try.prog W .any base t v := hval0
 have hW' := hW
 obtain ⟨p, q, hA0, hV, rfl, hfz, hnd⟩ := hW
 have hA : DataW.TrodAll enc Try.prog W 0 (fun _ => true) true Try.f4.params.toList args.toList ds p := hA0
 rw [Try.params4] at hA hval
 obtain ⟨v0, vs0, d0, ds0, p0, q0, hargs, rfl, rfl, k0, r0⟩ := trodAll_cons hA
 obtain ⟨v1, vs1, d1, ds1, p1, q1, rfl, rfl, rfl, k1, r1⟩ := trodAll_cons r0
 obtain ⟨v2, vs2, d2, ds2, p2, q2, rfl, rfl, rfl, k2, r2⟩ := trodAll_cons r1
 obtain ⟨rfl, rfl, rfl⟩ := trodAll_nil r2
 obtain rfl : args = #[v0, v1, v2] := by cases args; simp_all
 obtain ⟨rfl, rfl⟩ := trodVars_none hV
 have lt0 : ∀ x ∈ p0, x.block < W.heap.size := by obtain ⟨m, hm⟩ := k0; exact DataW.trod_lt m _ _ _ hm
 have hv0 := hval 0 27 v0 rfl rfl
 have lt1 : ∀ x ∈ p1, x.block < W.heap.size := by obtain ⟨m, hm⟩ := k1; exact DataW.trod_lt m _ _ _ hm
 have hv1 := hval 1 38 v1 rfl rfl
 have lt2 : ∀ x ∈ p2, x.block < W.heap.size := by obtain ⟨m, hm⟩ := k2; exact DataW.trod_lt m _ _ _ hm
 have hv2 := hval 2 38 v2 rfl rfl
 have fin : Calls Try.prog 4 #[v0, v1, v2] W (fun e W' => e = .returned (.bool true) ∧ Below W.heap.size W W') := by
  obtain ⟨pv, p, rfl, hp⟩ := open_plan hv0 k0
  obtain ⟨va, xa, rfl, hxa⟩ := open_road hv1 k1
  obtain ⟨vb, xb, rfl, hxb⟩ := open_road hv2 k2
  exact lawAny_any W pv p hp va vb xa xb hxa hxb
 clear hA0 hval0
 refine fin.mono fun e W' ⟨he, bel⟩ => ?_
 subst he
 exact ⟨_, rfl, _, _, _, [], _, [], hW', trodAll_mk1 (shut_bool Try.underlying4 _), (trodAll_cons_mk (Below.trod laidOut (by kernel_rfl) (of_decide_eq_true (by kernel_rfl)) k0 bel lt0) (trodAll_cons_mk (Below.trod laidOut (by kernel_rfl) (of_decide_eq_true (by kernel_rfl)) k1 bel lt1) (trodAll_cons_mk (Below.trod laidOut (by kernel_rfl) (of_decide_eq_true (by kernel_rfl)) k2 bel lt2) trodAll_mk0))), rfl, bel.frame _, fun h => by cases h⟩

/-- THE STATEMENT -/
theorem clashAny_holds : Rows.ClashAnySaid :=
 OpenClaim.holds_of_wide 4 Try.f4 rfl rfl rfl rfl rfl rfl rfl ⟨rfl, rfl, rfl, rfl, rfl⟩ rfl rfl rfl rfl rfl (by kernel_rfl) Try.func4 (by kernel_rfl)
  (of_decide_eq_true (by kernel_rfl)) (by unfold Func.isWrapper; first | (rw [if_pos (by decide +kernel)]; kernel_rfl) | (rw [if_neg (by decide +kernel)]; exact ⟨rfl, rfl⟩))
  (fun os started H enc _ => clashAny_lifted os started H enc)
end Go.Proofs.Ytnkpiijljfjmkaa
