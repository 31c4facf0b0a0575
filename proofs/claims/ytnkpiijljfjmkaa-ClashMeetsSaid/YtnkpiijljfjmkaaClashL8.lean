/- ClashMeets: for every input the law returns true. No condition. -/
import Derived.Test.YtnkpiijljfjmkaaClashM1
set_option maxRecDepth 1000000
namespace Go.Proofs.Ytnkpiijljfjmkaa
open Go.ChangeShapes Go.WideShapes Go.ChangeAt Go.RowKit Go.Sort

theorem meets_not {a b : List Int} (h : meets a b = false) {e : Int} (he : e ∈ a) : memB e b = false := by
 cases hm : memB e b with
 | false => rfl
 | true =>
  have : meets a b = true := by
   simp only [meets, List.any_eq_true, decide_eq_true_eq]
   exact ⟨e, he, memB_iff.1 hm⟩
  rw [h] at this
  cases this
theorem meets_not2 {a b : List Int} (h : meets a b = false) {e : Int} (he : e ∈ b) : memB e a = false := by
 cases hm : memB e a with
 | false => rfl
 | true =>
  have : meets a b = true := by
   simp only [meets, List.any_eq_true, decide_eq_true_eq]
   exact ⟨e, memB_iff.1 hm, he⟩
  rw [h] at this
  cases this
set_option maxHeartbeats 32000000 in
theorem lawMeets_any (w : World) (pv : PV) (p : Plan) (i k : Int) (i0 : 0 ≤ i) (i1 : i ≤ 255) (k0 : 0 ≤ k) (k1 : k ≤ 255) (h : PlanAt w pv p) :
  Calls Try.prog 6 #[pv.val p, .int .u8 i, .int .u8 k] w fun e w' => e = .returned (.bool true) ∧ Below w.heap.size w w' := by
 have HP := Lib.hid h
 obtain ⟨ae, ne, ce, aj, nj, cj, as_, ns, cs, al, nl, cl, lv⟩ := pv
 clear h
 dsimp only [PV.val]
 go_enter Try.func6, Try.ntmps6
 go_wp2_with fail
 refine name_calls fun W0 hW0 => ?_
 have HpW0 := Lib.hid (show W0.heap[w.heap.size]? = some (.cells #[.slice ae ne ce, .slice aj nj cj, .slice as_ ns cs, .slice al nl cl, .int .i64 p.top, .int .i64 p.brake, .int .i64 p.margin, .int .i64 p.throw, .bool p.hard] 27) by rw [hW0]; exact heap_alloc_new w _)
 have HBW0 := Lib.hid (show Below w.heap.size w W0 by rw [hW0]; exact below_new1 w _)
 clear hW0
 refine (known10_any W0).mono ?_
 rintro e w1 ⟨rfl, hx1⟩
 have Hpw1 := Lib.hid (rbox_keep HpW0.out hx1)
 have HBw1 := Lib.hid (below_step HBW0.out hx1 HBW0.out.size)
 obtain ⟨c0, c1, c2, c3, c4, c5, c6, c7, c8⟩ := nine_of Hpw1.out
 have HRo := Lib.hid (roads10_any w1 ⟨ae, ne, ce, aj, nj, cj, as_, ns, cs, al, nl, cl, lv⟩ p (HP.out.below HBw1.out))
 dsimp only [PV.val, RoadsPost] at HRo
 clear hx1
 go_wp2_with fail
 refine HRo.out.mono ?_
 rintro e w2 ⟨hx2, rfl | ⟨a, n, cr, xs, hf, hso, hn64, hncr, hR, rfl⟩⟩
 ·go_wp2_with fail
  go_ret
  exact ⟨ret_bool (by simp), below_step HBw1.out hx2 HBw1.out.size⟩
 clear c0 c1 c2 c3 c4 c5 c6 c7 c8
 have Hpw2 := Lib.hid (rbox_keep Hpw1.out hx2)
 have HBw2 := Lib.hid (below_step HBw1.out hx2 HBw1.out.size)
 obtain ⟨c0, c1, c2, c3, c4, c5, c6, c7, c8⟩ := nine_of Hpw2.out
 have Hf := Lib.hid hf
 have Hso := Lib.hid hso
 have HR2 := Lib.hid hR
 have Hlen := Lib.hid hR.row.len
 clear hx2 HRo hf hso hR
 by_cases hn0 : n = 0
 ·subst hn0
  go_wp2_with fail
  go_ret
  exact ⟨ret_bool (by simp), HBw2.out⟩
 have hnz : (n : Int) ≠ 0 := by omega
 have dn0 : ((n : Int) == 0) = false := by simp; omega
 have HM := Lib.hid (made_any w2 ⟨ae, ne, ce, aj, nj, cj, as_, ns, cs, al, nl, cl, lv⟩ p Hf.out (HP.out.below HBw2.out))
 dsimp only [PV.val] at HM
 go_wp2_with fail
 refine HM.out.mono ?_
 rintro e w3 ⟨nb, rfl, hnb, hnn, hx3⟩
 clear c0 c1 c2 c3 c4 c5 c6 c7 c8
 have Hpw3 := Lib.hid (rbox_keep Hpw2.out hx3)
 have HBw3 := Lib.hid (below_step HBw2.out hx3 HBw2.out.size)
 obtain ⟨c0, c1, c2, c3, c4, c5, c6, c7, c8⟩ := nine_of Hpw3.out
 have HN3 := Lib.hid hnn
 have HR3 := Lib.hid (HR2.out.below hx3)
 clear hx3 HM hnn hnb
 obtain ⟨ia, hia⟩ : ∃ ia : Nat, Int.tmod i (n : Int) = (ia : Int) := ⟨(Int.tmod i n).toNat, by have := Int.tmod_nonneg (n : Int) i0; omega⟩
 obtain ⟨ka, hka⟩ : ∃ ka : Nat, Int.tmod k (n : Int) = (ka : Int) := ⟨(Int.tmod k n).toNat, by have := Int.tmod_nonneg (n : Int) k0; omega⟩
 have han : ia < n := by have := Int.tmod_lt_of_pos i (show (0 : Int) < n by omega); omega
 have hkn : ka < n := by have := Int.tmod_lt_of_pos k (show (0 : Int) < n by omega); omega
 have hwa : IntKind.i64.wrap (ia : Int) = (ia : Int) := IntWalk.i64_in _ (by omega)
 have hwk : IntKind.i64.wrap (ka : Int) = (ka : Int) := IntWalk.i64_in _ (by omega)
 have hwi : IntKind.i64.wrap i = i := IntWalk.i64_in _ (by omega)
 have hwj : IntKind.i64.wrap k = k := IntWalk.i64_in _ (by omega)
 obtain ⟨x, hx⟩ := get_some Hlen.out han
 obtain ⟨y, hy⟩ := get_some Hlen.out hkn
 have Hxa := Lib.hid (show x.r ∈ xs.map (·.r) from List.mem_map.2 ⟨x, List.mem_of_getElem? hx, rfl⟩)
 have Hxb := Lib.hid (show y.r ∈ xs.map (·.r) from List.mem_map.2 ⟨y, List.mem_of_getElem? hy, rfl⟩)
 have Rxa := Lib.hid (HR3.out.each x (List.mem_of_getElem? hx))
 have Rxb := Lib.hid (HR3.out.each y (List.mem_of_getElem? hy))
 have Hla := Lib.hid (lite_of Rxa.out (roads_sizes (fine_few Hf.out).2 Hso.out Hxa.out).1)
 have Hlb := Lib.hid (lite_of Rxb.out (roads_sizes (fine_few Hf.out).2 Hso.out Hxb.out).1)
 obtain ⟨g, off, rfl, hgl, kc1⟩ := HR3.out.row.road hx
 obtain ⟨g', off', he, _, kc2⟩ := HR3.out.row.road hy
 cases he
 obtain ⟨⟨sa1, sn1, sc1, na1, nn1, nc1, ga1, gn1, gc1, za1, zn1, zc1, ha1, hn1, hc1⟩, r1⟩ := x
 obtain ⟨⟨sa2, sn2, sc2, na2, nn2, nc2, ga2, gn2, gc2, za2, zn2, zc2, ha2, hn2, hc2⟩, r2⟩ := y
 have f0 : w3.cell? ⟨g, off + ia * 9, none⟩ = some (.int .i64 r1.frm) := kc1 0 _ rfl
 have f1 : w3.cell? ⟨g, off + ia * 9 + 1, none⟩ = some (.int .i64 r1.to) := kc1 1 _ rfl
 have f2 : w3.cell? ⟨g, off + ia * 9 + 2, none⟩ = some (.int .i64 r1.fin) := kc1 2 _ rfl
 have f3 : w3.cell? ⟨g, off + ia * 9 + 3, none⟩ = some (.slice sa1 sn1 sc1) := kc1 3 _ rfl
 have f4 : w3.cell? ⟨g, off + ia * 9 + 4, none⟩ = some (.slice na1 nn1 nc1) := kc1 4 _ rfl
 have f5 : w3.cell? ⟨g, off + ia * 9 + 5, none⟩ = some (.slice ga1 gn1 gc1) := kc1 5 _ rfl
 have f6 : w3.cell? ⟨g, off + ia * 9 + 6, none⟩ = some (.slice za1 zn1 zc1) := kc1 6 _ rfl
 have f7 : w3.cell? ⟨g, off + ia * 9 + 7, none⟩ = some (.slice ha1 hn1 hc1) := kc1 7 _ rfl
 have f8 : w3.cell? ⟨g, off + ia * 9 + 8, none⟩ = some (.bool r1.bare) := kc1 8 _ rfl
 have g0 : w3.cell? ⟨g, off + ka * 9, none⟩ = some (.int .i64 r2.frm) := kc2 0 _ rfl
 have g1 : w3.cell? ⟨g, off + ka * 9 + 1, none⟩ = some (.int .i64 r2.to) := kc2 1 _ rfl
 have g2 : w3.cell? ⟨g, off + ka * 9 + 2, none⟩ = some (.int .i64 r2.fin) := kc2 2 _ rfl
 have g3 : w3.cell? ⟨g, off + ka * 9 + 3, none⟩ = some (.slice sa2 sn2 sc2) := kc2 3 _ rfl
 have g4 : w3.cell? ⟨g, off + ka * 9 + 4, none⟩ = some (.slice na2 nn2 nc2) := kc2 4 _ rfl
 have g5 : w3.cell? ⟨g, off + ka * 9 + 5, none⟩ = some (.slice ga2 gn2 gc2) := kc2 5 _ rfl
 have g6 : w3.cell? ⟨g, off + ka * 9 + 6, none⟩ = some (.slice za2 zn2 zc2) := kc2 6 _ rfl
 have g7 : w3.cell? ⟨g, off + ka * 9 + 7, none⟩ = some (.slice ha2 hn2 hc2) := kc2 7 _ rfl
 have g8 : w3.cell? ⟨g, off + ka * 9 + 8, none⟩ = some (.bool r2.bare) := kc2 8 _ rfl
 clear kc1 kc2 hx hy HR2
 dsimp only at Hxa Hxb Rxa Rxb Hla Hlb
 go_wp2_with fail
 have hSall : ∀ w' : World, Below w3.heap.size w3 w' → (w'.cell? ⟨g, off + ia * 9, none⟩ = some (.int .i64 r1.frm) ∧ w'.cell? ⟨g, off + ia * 9 + 1, none⟩ = some (.int .i64 r1.to) ∧ w'.cell? ⟨g, off + ia * 9 + 2, none⟩ = some (.int .i64 r1.fin) ∧ w'.cell? ⟨g, off + ia * 9 + 3, none⟩ = some (.slice sa1 sn1 sc1) ∧ w'.cell? ⟨g, off + ia * 9 + 4, none⟩ = some (.slice na1 nn1 nc1) ∧ w'.cell? ⟨g, off + ia * 9 + 5, none⟩ = some (.slice ga1 gn1 gc1) ∧ w'.cell? ⟨g, off + ia * 9 + 6, none⟩ = some (.slice za1 zn1 zc1) ∧ w'.cell? ⟨g, off + ia * 9 + 7, none⟩ = some (.slice ha1 hn1 hc1) ∧ w'.cell? ⟨g, off + ia * 9 + 8, none⟩ = some (.bool r1.bare) ∧ w'.cell? ⟨g, off + ka * 9, none⟩ = some (.int .i64 r2.frm) ∧ w'.cell? ⟨g, off + ka * 9 + 1, none⟩ = some (.int .i64 r2.to) ∧ w'.cell? ⟨g, off + ka * 9 + 2, none⟩ = some (.int .i64 r2.fin) ∧ w'.cell? ⟨g, off + ka * 9 + 3, none⟩ = some (.slice sa2 sn2 sc2) ∧ w'.cell? ⟨g, off + ka * 9 + 4, none⟩ = some (.slice na2 nn2 nc2) ∧ w'.cell? ⟨g, off + ka * 9 + 5, none⟩ = some (.slice ga2 gn2 gc2) ∧ w'.cell? ⟨g, off + ka * 9 + 6, none⟩ = some (.slice za2 zn2 zc2) ∧ w'.cell? ⟨g, off + ka * 9 + 7, none⟩ = some (.slice ha2 hn2 hc2) ∧ w'.cell? ⟨g, off + ka * 9 + 8, none⟩ = some (.bool r2.bare)) := fun w' hb => ⟨(hb.cell (p := ⟨g, off + ia * 9, none⟩) hgl).trans f0, (hb.cell (p := ⟨g, off + ia * 9 + 1, none⟩) hgl).trans f1, (hb.cell (p := ⟨g, off + ia * 9 + 2, none⟩) hgl).trans f2, (hb.cell (p := ⟨g, off + ia * 9 + 3, none⟩) hgl).trans f3, (hb.cell (p := ⟨g, off + ia * 9 + 4, none⟩) hgl).trans f4, (hb.cell (p := ⟨g, off + ia * 9 + 5, none⟩) hgl).trans f5, (hb.cell (p := ⟨g, off + ia * 9 + 6, none⟩) hgl).trans f6, (hb.cell (p := ⟨g, off + ia * 9 + 7, none⟩) hgl).trans f7, (hb.cell (p := ⟨g, off + ia * 9 + 8, none⟩) hgl).trans f8, (hb.cell (p := ⟨g, off + ka * 9, none⟩) hgl).trans g0, (hb.cell (p := ⟨g, off + ka * 9 + 1, none⟩) hgl).trans g1, (hb.cell (p := ⟨g, off + ka * 9 + 2, none⟩) hgl).trans g2, (hb.cell (p := ⟨g, off + ka * 9 + 3, none⟩) hgl).trans g3, (hb.cell (p := ⟨g, off + ka * 9 + 4, none⟩) hgl).trans g4, (hb.cell (p := ⟨g, off + ka * 9 + 5, none⟩) hgl).trans g5, (hb.cell (p := ⟨g, off + ka * 9 + 6, none⟩) hgl).trans g6, (hb.cell (p := ⟨g, off + ka * 9 + 7, none⟩) hgl).trans g7, (hb.cell (p := ⟨g, off + ka * 9 + 8, none⟩) hgl).trans g8⟩
 refine wp_region_noPanic ?_
 refine region_ob (S := fun w' => w'.cell? ⟨g, off + ia * 9, none⟩ = some (.int .i64 r1.frm) ∧ w'.cell? ⟨g, off + ia * 9 + 1, none⟩ = some (.int .i64 r1.to) ∧ w'.cell? ⟨g, off + ia * 9 + 2, none⟩ = some (.int .i64 r1.fin) ∧ w'.cell? ⟨g, off + ia * 9 + 3, none⟩ = some (.slice sa1 sn1 sc1) ∧ w'.cell? ⟨g, off + ia * 9 + 4, none⟩ = some (.slice na1 nn1 nc1) ∧ w'.cell? ⟨g, off + ia * 9 + 5, none⟩ = some (.slice ga1 gn1 gc1) ∧ w'.cell? ⟨g, off + ia * 9 + 6, none⟩ = some (.slice za1 zn1 zc1) ∧ w'.cell? ⟨g, off + ia * 9 + 7, none⟩ = some (.slice ha1 hn1 hc1) ∧ w'.cell? ⟨g, off + ia * 9 + 8, none⟩ = some (.bool r1.bare) ∧ w'.cell? ⟨g, off + ka * 9, none⟩ = some (.int .i64 r2.frm) ∧ w'.cell? ⟨g, off + ka * 9 + 1, none⟩ = some (.int .i64 r2.to) ∧ w'.cell? ⟨g, off + ka * 9 + 2, none⟩ = some (.int .i64 r2.fin) ∧ w'.cell? ⟨g, off + ka * 9 + 3, none⟩ = some (.slice sa2 sn2 sc2) ∧ w'.cell? ⟨g, off + ka * 9 + 4, none⟩ = some (.slice na2 nn2 nc2) ∧ w'.cell? ⟨g, off + ka * 9 + 5, none⟩ = some (.slice ga2 gn2 gc2) ∧ w'.cell? ⟨g, off + ka * 9 + 6, none⟩ = some (.slice za2 zn2 zc2) ∧ w'.cell? ⟨g, off + ka * 9 + 7, none⟩ = some (.slice ha2 hn2 hc2) ∧ w'.cell? ⟨g, off + ka * 9 + 8, none⟩ = some (.bool r2.bare)) (ob := fun t => decide (t < 20)) (by kernel_rfl) ?_
 refine tk 0 (.slice (some ⟨g, off, none⟩) n cr) ?_ (hSall _ (Below.refl _ _).drew) ?_
 ·intro w' hSw
  (try dsimp only at hSw)
  go_simp
 (try simp only [zA, zC, Act.put, zD, zE, zF])
 refine tk 1 (.int .u8 i) ?_ (hSall _ (Below.refl _ _).drew) ?_
 ·intro w' hSw
  (try dsimp only at hSw)
  go_simp
 (try simp only [zA, zB, zC, Act.put, zD, zE, zF])
 refine tk 2 (.int .i64 i) ?_ (hSall _ (Below.refl _ _).drew) ?_
 ·intro w' hSw
  (try dsimp only at hSw)
  go_simp
 (try simp only [zA, zB, zC, Act.put, zD, zE, zF])
 refine tk 3 (.slice (some ⟨g, off, none⟩) n cr) ?_ (hSall _ (Below.refl _ _).drew) ?_
 ·intro w' hSw
  (try dsimp only at hSw)
  go_simp
 (try simp only [zA, zB, zC, Act.put, zD, zE, zF])
 refine tk 4 (.int .i64 n) ?_ (hSall _ (Below.refl _ _).drew) ?_
 ·intro w' hSw
  (try dsimp only at hSw)
  go_simp
 (try simp only [zA, zB, zC, Act.put, zD, zE, zF])
 refine tk 5 (.int .i64 (ia : Int)) ?_ (hSall _ (Below.refl _ _).drew) ?_
 ·intro w' hSw
  (try dsimp only at hSw)
  go_simp
 (try simp only [zA, zB, zC, Act.put, zD, zE, zF])
 refine tk 6 (.pointer (some ⟨g, off + ia * 9, none⟩)) ?_ (hSall _ (Below.refl _ _).drew) ?_
 ·intro w' hSw
  (try dsimp only at hSw)
  go_simp
 (try simp only [zA, zB, zC, Act.put, zD, zE, zF])
 refine tk 7 (.agg #[.int .i64 r1.frm, .int .i64 r1.to, .int .i64 r1.fin, .slice sa1 sn1 sc1, .slice na1 nn1 nc1, .slice ga1 gn1 gc1, .slice za1 zn1 zc1, .slice ha1 hn1 hc1, .bool r1.bare]) ?_ (hSall _ (Below.refl _ _).drew) ?_
 ·intro w' hSw
  (try dsimp only at hSw)
  go_simp
 (try simp only [zA, zB, zC, Act.put, zD, zE, zF])
 refine tk 8 (.slice (some ⟨g, off, none⟩) n cr) ?_ (hSall _ (Below.refl _ _).drew) ?_
 ·intro w' hSw
  (try dsimp only at hSw)
  go_simp
 (try simp only [zA, zB, zC, Act.put, zD, zE, zF])
 refine tk 9 (.int .u8 k) ?_ (hSall _ (Below.refl _ _).drew) ?_
 ·intro w' hSw
  (try dsimp only at hSw)
  go_simp
 (try simp only [zA, zB, zC, Act.put, zD, zE, zF])
 refine tk 10 (.int .i64 k) ?_ (hSall _ (Below.refl _ _).drew) ?_
 ·intro w' hSw
  (try dsimp only at hSw)
  go_simp
 (try simp only [zA, zB, zC, Act.put, zD, zE, zF])
 refine tk 11 (.slice (some ⟨g, off, none⟩) n cr) ?_ (hSall _ (Below.refl _ _).drew) ?_
 ·intro w' hSw
  (try dsimp only at hSw)
  go_simp
 (try simp only [zA, zB, zC, Act.put, zD, zE, zF])
 refine tk 12 (.int .i64 n) ?_ (hSall _ (Below.refl _ _).drew) ?_
 ·intro w' hSw
  (try dsimp only at hSw)
  go_simp
 (try simp only [zA, zB, zC, Act.put, zD, zE, zF])
 refine tk 13 (.int .i64 (ka : Int)) ?_ (hSall _ (Below.refl _ _).drew) ?_
 ·intro w' hSw
  (try dsimp only at hSw)
  go_simp
 (try simp only [zA, zB, zC, Act.put, zD, zE, zF])
 refine tk 14 (.pointer (some ⟨g, off + ka * 9, none⟩)) ?_ (hSall _ (Below.refl _ _).drew) ?_
 ·intro w' hSw
  (try dsimp only at hSw)
  go_simp
 (try simp only [zA, zB, zC, Act.put, zD, zE, zF])
 refine tk 15 (.agg #[.int .i64 r2.frm, .int .i64 r2.to, .int .i64 r2.fin, .slice sa2 sn2 sc2, .slice na2 nn2 nc2, .slice ga2 gn2 gc2, .slice za2 zn2 zc2, .slice ha2 hn2 hc2, .bool r2.bare]) ?_ (hSall _ (Below.refl _ _).drew) ?_
 ·intro w' hSw
  (try dsimp only at hSw)
  go_simp
 (try simp only [zA, zB, zC, Act.put, zD, zE, zF])
 refine ob_name fun OPS hO R hR A hA => ?_
 have key : ∀ (w5 : World) (g4 g5 : Nat), Below w3.heap.size w3 w5 → w5.heap[g4]? = some (.cells #[.int .i64 r1.frm, .int .i64 r1.to, .int .i64 r1.fin, .slice sa1 sn1 sc1, .slice na1 nn1 nc1, .slice ga1 gn1 gc1, .slice za1 zn1 zc1, .slice ha1 hn1 hc1, .bool r1.bare] 38) → w5.heap[g5]? = some (.cells #[.int .i64 r2.frm, .int .i64 r2.to, .int .i64 r2.fin, .slice sa2 sn2 sc2, .slice na2 nn2 nc2, .slice ga2 gn2 gc2, .slice za2 zn2 zc2, .slice ha2 hn2 hc2, .bool r2.bare] 38) → w3.heap.size ≤ g4 → w3.heap.size ≤ g5 →
   R .normal ((A.put (some 10) (.pointer (some ⟨g4, 0, none⟩))).put (some 11) (.pointer (some ⟨g5, 0, none⟩))) w5 := by
  intro w5 g4 g5 hw5 ha4 hb4 hl4 hl5
  have Hw5 := Lib.hid hw5
  have Ha4 := Lib.hid ha4
  have Hb4 := Lib.hid hb4
  have hl4 := Lib.hid hl4
  have hl5 := Lib.hid hl5
  subst hO
  subst hR
  subst hA
  refine NoPanic.normal ?_
  (try simp only [Act.put, zD, zE, zF])
  clear hSall hw5 ha4 hb4 f0 f1 f2 f3 f4 f5 f6 f7 f8 g0 g1 g2 g3 g6 g7 g8
  have hlp := Nat.lt_of_lt_of_le (Array.getElem?_eq_some_iff.1 Hpw3.out).1 Hw5.out.size
  have hlra := (Array.getElem?_eq_some_iff.1 Ha4.out).1
  have hlrb := (Array.getElem?_eq_some_iff.1 Hb4.out).1
  have Hp5 := Lib.hid (rbox_keep Hpw3.out Hw5.out)
  have HB5 := Lib.hid (below_step HBw3.out Hw5.out HBw3.out.size)
  have HNk := Lib.hid (HN3.out.below Hw5.out)
  have Ra5 := Lib.hid (Rxa.out.below Hw5.out)
  have Rb5 := Lib.hid (Rxb.out.below Hw5.out)
  have HP5 := Lib.hid (HP.out.below HB5.out)
  have Hok := Lib.hid (few_ok HP.out (fine_few Hf.out).1)
  clear c0 c1 c2 c3 c4 c5 c6 c7 c8
  obtain ⟨c0, c1, c2, c3, c4, c5, c6, c7, c8⟩ := nine_of Hp5.out
  obtain ⟨a0, a1, a2, a3, a4, a5, a6, a7, a8⟩ := nine_of Ha4.out
  obtain ⟨b0, b1, b2, b3, b4, b5, b6, b7, b8⟩ := nine_of Hb4.out
  have hlp0 := Lib.hid hlp
  have hlra0 := Lib.hid hlra
  have hlrb0 := Lib.hid hlrb
  obtain ⟨jj, hjj, zj1, zj2, zj3⟩ := info_parts info_need
  have hnn1 := Hla.out.n
  have hgn1 := Hla.out.g
  have hnn2 := Hlb.out.n
  have hgn2 := Hlb.out.g
  dsimp only at hnn1 hgn1 hnn2 hgn2
  have HW := Lib.hid (fun (u : World) (hu : Below w5.heap.size w5 u) => why_any u nb p (HNk.out.below hu) ⟨sa1, sn1, sc1, na1, nn1, nc1, ga1, gn1, gc1, za1, zn1, zc1, ha1, hn1, hc1⟩ ⟨sa2, sn2, sc2, na2, nn2, nc2, ga2, gn2, gc2, za2, zn2, zc2, ha2, hn2, hc2⟩ r1 r2 (Ra5.out.below hu) (Rb5.out.below hu) Hla.out Hlb.out)
  have HLy := Lib.hid (fun (u : World) (hu : Below w5.heap.size w5 u) (la : Option Addr) (ln lc : Nat) (l : List Need) (hl : Needs u la ln l) (hln : ln ≤ 1000) (pa : Option Addr) (pn pc : Nat) (pos : List Int) (hp : Ints u pa pn pos) (hpn : pn ≤ 1000) => lying_any u ⟨ae, ne, ce, aj, nj, cj, as_, ns, cs, al, nl, cl, lv⟩ p (HP5.out.below hu) (fine_few Hf.out).2 la ln lc l hl hln pa pn pc pos hp hpn)
  dsimp only [PV.val, RV.val] at HW HLy
  by_cases hw : ¬ why p r1 r2 = 0
  ·have d1 : (why p r1 r2 != 0) = true := by simpa using hw
   clear hw
   go_wp2_with fail
   refine (HW.out _ (Below.refl _ _)).mono ?_
   rintro e w6 ⟨rfl, hy⟩
   go_wp2_with fail
   go_ret
   exact ⟨rfl, below_step HB5.out hy HB5.out.size⟩
  have Hw0 := Lib.hid (Decidable.not_not.1 hw)
  have d1 : (why p r1 r2 != 0) = false := by simp [Hw0.out]
  clear hw
  have hz := why_zero Hw0.out
  have Hzz := Lib.hid hz
  clear hz
  go_wp2_with fail
  refine (HW.out _ (Below.refl _ _)).mono ?_
  rintro e w6 ⟨rfl, hy⟩
  have H6 := Lib.hid hy
  clear hy
  clear c0 c1 c2 c3 c4 c5 c6 c7 c8 a0 a1 a2 a3 a4 a5 a6 a7 a8 b0 b1 b2 b3 b4 b5 b6 b7 b8 hlp hlra hlrb
  obtain ⟨c0, c1, c2, c3, c4, c5, c6, c7, c8⟩ := nine_of (rbox_keep Hp5.out H6.out)
  obtain ⟨a0, a1, a2, a3, a4, a5, a6, a7, a8⟩ := nine_of (rbox_keep Ha4.out H6.out)
  obtain ⟨b0, b1, b2, b3, b4, b5, b6, b7, b8⟩ := nine_of (rbox_keep Hb4.out H6.out)
  have hlp := Nat.lt_of_lt_of_le hlp0.out (H6.out).size
  have hlra := Nat.lt_of_lt_of_le hlra0.out (H6.out).size
  have hlrb := Nat.lt_of_lt_of_le hlrb0.out (H6.out).size
  go_wp2_with fail
  refine wp_region_noPanic ?_
  refine region_ob (S := fun w' => Below w6.heap.size w6 w') (ob := fun _ => true) (by kernel_rfl) ?_
  have hS0 : Below w6.heap.size w6 w6.drew := (Below.refl _ _).drew
  refine tk 0 (.agg #[.slice ae ne ce, .slice aj nj cj, .slice as_ ns cs, .slice al nl cl, .int .i64 p.top, .int .i64 p.brake, .int .i64 p.margin, .int .i64 p.throw, .bool p.hard]) ?_ hS0 ?_
  ·intro w' hSw
   have c0 := (hSw.cell (p := ⟨w.heap.size, 0, none⟩) hlp).trans c0
   have c1 := (hSw.cell (p := ⟨w.heap.size, 1, none⟩) hlp).trans c1
   have c2 := (hSw.cell (p := ⟨w.heap.size, 2, none⟩) hlp).trans c2
   have c3 := (hSw.cell (p := ⟨w.heap.size, 3, none⟩) hlp).trans c3
   have c4 := (hSw.cell (p := ⟨w.heap.size, 4, none⟩) hlp).trans c4
   have c5 := (hSw.cell (p := ⟨w.heap.size, 5, none⟩) hlp).trans c5
   have c6 := (hSw.cell (p := ⟨w.heap.size, 6, none⟩) hlp).trans c6
   have c7 := (hSw.cell (p := ⟨w.heap.size, 7, none⟩) hlp).trans c7
   have c8 := (hSw.cell (p := ⟨w.heap.size, 8, none⟩) hlp).trans c8
   go_simp
  (try simp only [zA, zC, Act.put, zD, zE, zF])
  refine tk 2 (.pointer (some ⟨g4, 4, none⟩)) ?_ hS0 ?_
  ·intro w' hSw
   go_simp
  (try simp only [zA, zB, zC, Act.put, zD, zE, zF])
  refine tk 3 (.slice na1 nn1 nc1) ?_ hS0 ?_
  ·intro w' hSw
   have a4 := (hSw.cell (p := ⟨g4, 4, none⟩) hlra).trans a4
   go_simp
  (try simp only [zA, zB, zC, Act.put, zD, zE, zF])
  refine tk 5 (.pointer (some ⟨g4, 5, none⟩)) ?_ hS0 ?_
  ·intro w' hSw
   go_simp
  (try simp only [zA, zB, zC, Act.put, zD, zE, zF])
  refine tk 6 (.slice ga1 gn1 gc1) ?_ hS0 ?_
  ·intro w' hSw
   have a5 := (hSw.cell (p := ⟨g4, 5, none⟩) hlra).trans a5
   go_simp
  (try simp only [zA, zB, zC, Act.put, zD, zE, zF])
  refine ob_step (i := 1) (by kernel_rfl) rfl (fun K hK => ?_)
  refine step_build0 _ (by rfl) 35 72 (by rfl) jj (.agg #[.int .i64 0, .int .i64 0]) Try.underlying35 hjj zj1 ?_
  have hS1 := hS0.alloc hS0.size (.cells #[] 72)
  have hO1 := World.ownsRow_made (base := w6.heap.size) (e := 72) (size := 2) w6.drew #[] 0 hS0.size (by simp [maxLen]) (by simp)
  refine hK _ _ (fun _ => hS1) ?_
  clear hK K
  (try simp only [zA, zB, zC, Act.put, zD, zE, zF])
  refine ob_step (i := 4) (by kernel_rfl) rfl (fun K hK => ?_)
  refine step_app encNeed_len encNeed_one _ (by rfl) _ _ 35 (by rfl) w6.heap.size 72 (.agg #[.int .i64 0, .int .i64 0]) 16 Try.underlying35 info_need (by rfl) (by decide) (.slice (some ⟨w6.heap.size, 0, none⟩) 0 0) 0 [] (by rfl) hO1 na1 nn1 nc1 r1.needs (by rfl) (((Ra5.out.below H6.out).below hS1).n) Ra5.out.fit.nc (by simp [maxLen]; omega) (by omega) hS1.size ?_
  intro v3 w7 hO3 hg3 _ _
  have hS3 : Below w6.heap.size w6 w7 := hS1.grown hg3 hS1.size (fun k hk => (hO1.lt k hk).1)
  have hO3 : w7.ownsRow w6.heap.size 72 2 v3 nn1 (r1.needs.flatMap encNeed) := by simpa using hO3
  refine hK _ _ (fun _ => hS3) ?_
  clear hK K
  (try simp only [zA, zB, zC, Act.put, zD, zE, zF])
  refine ob_step (i := 7) (by kernel_rfl) rfl (fun K hK => ?_)
  refine step_app encNeed_len encNeed_one _ (by rfl) _ _ 35 (by rfl) w6.heap.size 72 (.agg #[.int .i64 0, .int .i64 0]) 16 Try.underlying35 info_need (by rfl) (by decide) v3 nn1 r1.needs (by rfl) hO3 ga1 gn1 gc1 r1.guards (by rfl) (((Ra5.out.below H6.out).below hS3).g) Ra5.out.fit.gc (by simp [maxLen]; omega) (by omega) hS3.size ?_
  intro v4 w8 hO4 hg4 _ _
  have hS4 : Below w6.heap.size w6 w8 := hS3.grown hg4 hS3.size (fun k hk => (hO3.lt k hk).1)
  obtain ⟨a9, c9, rfl, _, _⟩ := own_slice hO4
  have hrow : Needs w8 a9 (nn1 + gn1) r1.all := (owns_row encNeed_len (xs := r1.needs ++ r1.guards) hO4 (by decide)).1
  refine hK _ _ (fun _ => hS4) ?_
  clear hK K
  (try simp only [zA, zB, zC, Act.put, zD, zE, zF])
  refine ob_step (i := 8) (by kernel_rfl) rfl (fun K hK => ?_)
  rw [if_pos (by rfl)]
  go_simp
  refine (HLy.out _ (below_step (H6.out) hS4 (H6.out).size) a9 (nn1 + gn1) c9 r1.all hrow (by omega) none 0 0 [] (Row.nil _ _) (by omega)).mono ?_
  rintro e v9 ⟨b9, m9, d9, rfl, hI9, _, hy9⟩
  have hS9 := below_step hS4 hy9 hS4.size
  refine hK _ _ (fun _ => hS9) ?_
  clear hK K
  (try simp only [zA, zB, zC, Act.put, zD, zE, zF])
  refine tk 9 (.slice b9 m9 d9) ?_ hS9 ?_
  ·intro w' hSw
   go_simp
  (try simp only [zA, zB, zC, Act.put, zD, zE, zF])
  refine ob_done (by kernel_rfl) (NoPanic.normal ?_) _
  have H9 := Lib.hid (below_step H6.out hS9 H6.out.size)
  have HI9 := Lib.hid hI9
  have hm9 : m9 ≤ 1000 := by
   have h1 := hI9.len
   rw [lyingL_length] at h1
   have h2 := (elems_sigs_le (fine_few Hf.out).2).1
   omega
  clear hS0 hS1 hO1 hO3 hg3 hS3 hO4 hg4 hS4 hrow hI9 hy9 hS9
  clear c0 c1 c2 c3 c4 c5 c6 c7 c8 a0 a1 a2 a3 a4 a5 a6 a7 a8 b0 b1 b2 b3 b4 b5 b6 b7 b8 hlp hlra hlrb
  obtain ⟨c0, c1, c2, c3, c4, c5, c6, c7, c8⟩ := nine_of (rbox_keep Hp5.out H9.out)
  obtain ⟨a0, a1, a2, a3, a4, a5, a6, a7, a8⟩ := nine_of (rbox_keep Ha4.out H9.out)
  obtain ⟨b0, b1, b2, b3, b4, b5, b6, b7, b8⟩ := nine_of (rbox_keep Hb4.out H9.out)
  have hlp := Nat.lt_of_lt_of_le hlp0.out (H9.out).size
  have hlra := Nat.lt_of_lt_of_le hlra0.out (H9.out).size
  have hlrb := Nat.lt_of_lt_of_le hlrb0.out (H9.out).size
  go_wp2_with fail
  refine wp_region_noPanic ?_
  refine region_ob (S := fun w' => Below v9.heap.size v9 w') (ob := fun _ => true) (by kernel_rfl) ?_
  have hS0 : Below v9.heap.size v9 v9.drew := (Below.refl _ _).drew
  refine tk 0 (.agg #[.slice ae ne ce, .slice aj nj cj, .slice as_ ns cs, .slice al nl cl, .int .i64 p.top, .int .i64 p.brake, .int .i64 p.margin, .int .i64 p.throw, .bool p.hard]) ?_ hS0 ?_
  ·intro w' hSw
   have c0 := (hSw.cell (p := ⟨w.heap.size, 0, none⟩) hlp).trans c0
   have c1 := (hSw.cell (p := ⟨w.heap.size, 1, none⟩) hlp).trans c1
   have c2 := (hSw.cell (p := ⟨w.heap.size, 2, none⟩) hlp).trans c2
   have c3 := (hSw.cell (p := ⟨w.heap.size, 3, none⟩) hlp).trans c3
   have c4 := (hSw.cell (p := ⟨w.heap.size, 4, none⟩) hlp).trans c4
   have c5 := (hSw.cell (p := ⟨w.heap.size, 5, none⟩) hlp).trans c5
   have c6 := (hSw.cell (p := ⟨w.heap.size, 6, none⟩) hlp).trans c6
   have c7 := (hSw.cell (p := ⟨w.heap.size, 7, none⟩) hlp).trans c7
   have c8 := (hSw.cell (p := ⟨w.heap.size, 8, none⟩) hlp).trans c8
   go_simp
  (try simp only [zA, zC, Act.put, zD, zE, zF])
  refine tk 2 (.pointer (some ⟨g5, 4, none⟩)) ?_ hS0 ?_
  ·intro w' hSw
   go_simp
  (try simp only [zA, zB, zC, Act.put, zD, zE, zF])
  refine tk 3 (.slice na2 nn2 nc2) ?_ hS0 ?_
  ·intro w' hSw
   have b4 := (hSw.cell (p := ⟨g5, 4, none⟩) hlrb).trans b4
   go_simp
  (try simp only [zA, zB, zC, Act.put, zD, zE, zF])
  refine tk 5 (.pointer (some ⟨g5, 5, none⟩)) ?_ hS0 ?_
  ·intro w' hSw
   go_simp
  (try simp only [zA, zB, zC, Act.put, zD, zE, zF])
  refine tk 6 (.slice ga2 gn2 gc2) ?_ hS0 ?_
  ·intro w' hSw
   have b5 := (hSw.cell (p := ⟨g5, 5, none⟩) hlrb).trans b5
   go_simp
  (try simp only [zA, zB, zC, Act.put, zD, zE, zF])
  refine tk 8 (.slice b9 m9 d9) ?_ hS0 ?_
  ·intro w' hSw
   go_simp
  (try simp only [zA, zB, zC, Act.put, zD, zE, zF])
  refine ob_step (i := 1) (by kernel_rfl) rfl (fun K hK => ?_)
  refine step_build0 _ (by rfl) 35 72 (by rfl) jj (.agg #[.int .i64 0, .int .i64 0]) Try.underlying35 hjj zj1 ?_
  have hS1 := hS0.alloc hS0.size (.cells #[] 72)
  have hO1 := World.ownsRow_made (base := v9.heap.size) (e := 72) (size := 2) v9.drew #[] 0 hS0.size (by simp [maxLen]) (by simp)
  refine hK _ _ (fun _ => hS1) ?_
  clear hK K
  (try simp only [zA, zB, zC, Act.put, zD, zE, zF])
  refine ob_step (i := 4) (by kernel_rfl) rfl (fun K hK => ?_)
  refine step_app encNeed_len encNeed_one _ (by rfl) _ _ 35 (by rfl) v9.heap.size 72 (.agg #[.int .i64 0, .int .i64 0]) 16 Try.underlying35 info_need (by rfl) (by decide) (.slice (some ⟨v9.heap.size, 0, none⟩) 0 0) 0 [] (by rfl) hO1 na2 nn2 nc2 r2.needs (by rfl) (((Rb5.out.below H9.out).below hS1).n) Rb5.out.fit.nc (by simp [maxLen]; omega) (by omega) hS1.size ?_
  intro v3 w7 hO3 hg3 _ _
  have hS3 : Below v9.heap.size v9 w7 := hS1.grown hg3 hS1.size (fun k hk => (hO1.lt k hk).1)
  have hO3 : w7.ownsRow v9.heap.size 72 2 v3 nn2 (r2.needs.flatMap encNeed) := by simpa using hO3
  refine hK _ _ (fun _ => hS3) ?_
  clear hK K
  (try simp only [zA, zB, zC, Act.put, zD, zE, zF])
  refine ob_step (i := 7) (by kernel_rfl) rfl (fun K hK => ?_)
  refine step_app encNeed_len encNeed_one _ (by rfl) _ _ 35 (by rfl) v9.heap.size 72 (.agg #[.int .i64 0, .int .i64 0]) 16 Try.underlying35 info_need (by rfl) (by decide) v3 nn2 r2.needs (by rfl) hO3 ga2 gn2 gc2 r2.guards (by rfl) (((Rb5.out.below H9.out).below hS3).g) Rb5.out.fit.gc (by simp [maxLen]; omega) (by omega) hS3.size ?_
  intro v4 w8 hO4 hg4 _ _
  have hS4 : Below v9.heap.size v9 w8 := hS3.grown hg4 hS3.size (fun k hk => (hO3.lt k hk).1)
  obtain ⟨a9, c9, rfl, _, _⟩ := own_slice hO4
  have hrow : Needs w8 a9 (nn2 + gn2) r2.all := (owns_row encNeed_len (xs := r2.needs ++ r2.guards) hO4 (by decide)).1
  refine hK _ _ (fun _ => hS4) ?_
  clear hK K
  (try simp only [zA, zB, zC, Act.put, zD, zE, zF])
  refine ob_step (i := 9) (by kernel_rfl) rfl (fun K hK => ?_)
  rw [if_pos (by rfl)]
  go_simp
  refine (HLy.out _ (below_step (H9.out) hS4 (H9.out).size) a9 (nn2 + gn2) c9 r2.all hrow (by omega) b9 m9 d9 (lyingL p.elems.length r1.all []) (HI9.out.below hS4) (by omega)).mono ?_
  rintro e v9x ⟨b9x, m9x, d9x, rfl, hI9x, _, hy9⟩
  have hS9 := below_step hS4 hy9 hS4.size
  refine hK _ _ (fun _ => hS9) ?_
  clear hK K
  (try simp only [zA, zB, zC, Act.put, zD, zE, zF])
  refine tk 10 (.slice b9x m9x d9x) ?_ hS9 ?_
  ·intro w' hSw
   go_simp
  (try simp only [zA, zB, zC, Act.put, zD, zE, zF])
  refine ob_done (by kernel_rfl) (NoPanic.normal ?_) _
  have HA := Lib.hid (below_step H9.out hS9 H9.out.size)
  have HIA := Lib.hid hI9x
  clear hS0 hS1 hO1 hO3 hg3 hS3 hO4 hg4 hS4 hrow hI9x hy9 hS9
  clear c0 c1 c2 c3 c4 c5 c6 c7 c8 a0 a1 a2 a3 a4 a5 a6 a7 a8 b0 b1 b2 b3 b4 b5 b6 b7 b8 hlp hlra hlrb
  have Hs1 := Lib.hid Ra5.out.s.len
  have Hs2 := Lib.hid Rb5.out.s.len
  dsimp only at Hs1 Hs2
  have hbs1 := Ra5.out.s.bnd
  have hbs2 := Rb5.out.s.bnd
  dsimp only at hbs1 hbs2
  obtain ⟨c0, c1, c2, c3, c4, c5, c6, c7, c8⟩ := nine_of (rbox_keep Hp5.out HA.out)
  obtain ⟨a0, a1, a2, a3, a4, a5, a6, a7, a8⟩ := nine_of (rbox_keep Ha4.out HA.out)
  obtain ⟨b0, b1, b2, b3, b4, b5, b6, b7, b8⟩ := nine_of (rbox_keep Hb4.out HA.out)
  have hlp := Nat.lt_of_lt_of_le hlp0.out (HA.out).size
  have hlra := Nat.lt_of_lt_of_le hlra0.out (HA.out).size
  have hlrb := Nat.lt_of_lt_of_le hlrb0.out (HA.out).size
  go_wp2_with fail
  go_loopg [13] sn1 (fun k s13 wr => ∃ (j : Nat), j + k = sn1 ∧ s13 = .int .i64 j ∧ Hid (Below v9x.heap.size v9x wr))
  case atStart => exact ⟨0, by omega, rfl, Below.refl _ _⟩
  case round =>
   obtain ⟨j, hk, rfl, HD⟩ := hrel
   obtain ⟨wo, rfl⟩ : ∃ wo : World, wo = wr := ⟨_, rfl⟩
   obtain ⟨ko, rfl⟩ : ∃ ko : Nat, ko = gk := ⟨_, rfl⟩
   have Hk := Lib.hid hk
   clear hk
   have HE := Lib.hid (below_step HA.out HD.out HA.out.size)
   clear c0 c1 c2 c3 c4 c5 c6 c7 c8 a0 a1 a2 a3 a4 a5 a6 a7 a8 b0 b1 b2 b3 b4 b5 b6 b7 b8 hlp hlra hlrb
   obtain ⟨c0, c1, c2, c3, c4, c5, c6, c7, c8⟩ := nine_of (rbox_keep Hp5.out HE.out)
   obtain ⟨a0, a1, a2, a3, a4, a5, a6, a7, a8⟩ := nine_of (rbox_keep Ha4.out HE.out)
   obtain ⟨b0, b1, b2, b3, b4, b5, b6, b7, b8⟩ := nine_of (rbox_keep Hb4.out HE.out)
   have hlp := Nat.lt_of_lt_of_le hlp0.out (HE.out).size
   have hlra := Nat.lt_of_lt_of_le hlra0.out (HE.out).size
   have hlrb := Nat.lt_of_lt_of_le hlrb0.out (HE.out).size

   by_cases hlt : j < sn1
   ·obtain ⟨x, hx⟩ := get_some Hs1.out hlt
    have hxe : x.e ∈ r1.elems := List.mem_map.2 ⟨x, List.mem_of_getElem? hx, rfl⟩
    obtain ⟨ps, ofs, rfl, hpsl, q1, _, _⟩ := (Ra5.out.s.below HE.out).stp hx
    have HO := Lib.hid (fun (u : World) (hu : Below wo.heap.size wo u) => own_any u ⟨sa2, sn2, sc2, na2, nn2, nc2, ga2, gn2, gc2, za2, zn2, zc2, ha2, hn2, hc2⟩ r2 (Rb5.out.below (below_step HE.out hu HE.out.size)) Hlb.out.s x.e)
    rw [meets_not Hzz.out.2.1 hxe] at HO
    have HI2 := Lib.hid (fun (u : World) (hu : Below wo.heap.size wo u) => refin_any u za2 zn2 zc2 r2.zone (Rb5.out.below (below_step HE.out hu HE.out.size)).z x.e)
    rw [meets_not Hzz.out.2.2.1 hxe] at HI2
    dsimp only [RV.val] at HO
    clear hx hxe
    go_wp2_with fail
    refine (HO.out _ (Below.refl _ _)).mono ?_
    rintro e u1 ⟨rfl, hy1⟩
    have HF := Lib.hid (below_step HE.out hy1 HE.out.size)
    have HD2 := Lib.hid (below_step HD.out hy1 HD.out.size)
    clear c0 c1 c2 c3 c4 c5 c6 c7 c8 a0 a1 a2 a3 a4 a5 a6 a7 a8 b0 b1 b2 b3 b4 b5 b6 b7 b8 hlp hlra hlrb
    obtain ⟨c0, c1, c2, c3, c4, c5, c6, c7, c8⟩ := nine_of (rbox_keep Hp5.out HF.out)
    obtain ⟨a0, a1, a2, a3, a4, a5, a6, a7, a8⟩ := nine_of (rbox_keep Ha4.out HF.out)
    obtain ⟨b0, b1, b2, b3, b4, b5, b6, b7, b8⟩ := nine_of (rbox_keep Hb4.out HF.out)
    have hlp := Nat.lt_of_lt_of_le hlp0.out (HF.out).size
    have hlra := Nat.lt_of_lt_of_le hlra0.out (HF.out).size
    have hlrb := Nat.lt_of_lt_of_le hlrb0.out (HF.out).size

    have HI2' := Lib.hid (HI2.out u1 hy1)
    clear hy1 HI2
    go_wp2_with fail
    refine HI2'.out.mono ?_
    rintro e u2 ⟨rfl, rfl⟩
    go_wp2_with fail
    go_roundg (ko - 1)
    case measure => have := Hk.out; omega
    case rel => exact ⟨j + 1, by have := Hk.out; omega, by go_num, HD2.out⟩
   ·go_wp2_with fail
    go_loopg [15] sn2 (fun k s15 wr => ∃ (j : Nat), j + k = sn2 ∧ s15 = .int .i64 j ∧ Hid (Below wo.heap.size wo wr))
    case atStart => exact ⟨0, by omega, rfl, Below.refl _ _⟩
    case round =>
     obtain ⟨j, hk, rfl, HG⟩ := hrel
     obtain ⟨wq, rfl⟩ : ∃ wq : World, wq = wr := ⟨_, rfl⟩
     have Hk3 := Lib.hid hk
     clear hk
     have HJ := Lib.hid (below_step HE.out HG.out HE.out.size)
     clear c0 c1 c2 c3 c4 c5 c6 c7 c8 a0 a1 a2 a3 a4 a5 a6 a7 a8 b0 b1 b2 b3 b4 b5 b6 b7 b8 hlp hlra hlrb
     obtain ⟨c0, c1, c2, c3, c4, c5, c6, c7, c8⟩ := nine_of (rbox_keep Hp5.out HJ.out)
     obtain ⟨a0, a1, a2, a3, a4, a5, a6, a7, a8⟩ := nine_of (rbox_keep Ha4.out HJ.out)
     obtain ⟨b0, b1, b2, b3, b4, b5, b6, b7, b8⟩ := nine_of (rbox_keep Hb4.out HJ.out)
     have hlp := Nat.lt_of_lt_of_le hlp0.out (HJ.out).size
     have hlra := Nat.lt_of_lt_of_le hlra0.out (HJ.out).size
     have hlrb := Nat.lt_of_lt_of_le hlrb0.out (HJ.out).size

     by_cases hlt : j < sn2
     ·obtain ⟨x, hx⟩ := get_some Hs2.out hlt
      have hxe : x.e ∈ r2.elems := List.mem_map.2 ⟨x, List.mem_of_getElem? hx, rfl⟩
      obtain ⟨ps, ofs, rfl, hpsl, q1, _, _⟩ := (Rb5.out.s.below HJ.out).stp hx
      have HI3 := Lib.hid (fun (u : World) (hu : Below wq.heap.size wq u) => refin_any u za1 zn1 zc1 r1.zone (Ra5.out.below (below_step HJ.out hu HJ.out.size)).z x.e)
      rw [meets_not2 Hzz.out.2.2.2.1 hxe] at HI3
      clear hx hxe
      go_wp2_with fail
      refine wp_region_noPanic ?_
      refine region_ob (S := fun w' => Below wq.heap.size wq w') (ob := fun _ => true) (by kernel_rfl) ?_
      have hS0 : Below wq.heap.size wq wq.drew := (Below.refl _ _).drew
      refine tk 0 (.pointer (some ⟨g4, 6, none⟩)) ?_ hS0 ?_
      ·intro w' hSw
       go_simp
      (try simp only [zA, zC, Act.put, zD, zE, zF])
      refine tk 1 (.slice za1 zn1 zc1) ?_ hS0 ?_
      ·intro w' hSw
       have a6 := (hSw.cell (p := ⟨g4, 6, none⟩) hlra).trans a6
       go_simp
      (try simp only [zA, zB, zC, Act.put, zD, zE, zF])
      refine tk 2 (.pointer (some ⟨g5, 3, none⟩)) ?_ hS0 ?_
      ·intro w' hSw
       go_simp
      (try simp only [zA, zB, zC, Act.put, zD, zE, zF])
      refine tk 3 (.slice (some ⟨ps, ofs, none⟩) sn2 sc2) ?_ hS0 ?_
      ·intro w' hSw
       have b3 := (hSw.cell (p := ⟨g5, 3, none⟩) hlrb).trans b3
       go_simp
      (try simp only [zA, zB, zC, Act.put, zD, zE, zF])
      refine tk 4 (.int .i64 j) ?_ hS0 ?_
      ·intro w' hSw
       go_simp
      (try simp only [zA, zB, zC, Act.put, zD, zE, zF])
      refine tk 5 (.pointer (some ⟨ps, ofs + j * 3, none⟩)) ?_ hS0 ?_
      ·intro w' hSw
       go_simp
      (try simp only [zA, zB, zC, Act.put, zD, zE, zF])
      refine tk 6 (.pointer (some ⟨ps, ofs + j * 3, none⟩)) ?_ hS0 ?_
      ·intro w' hSw
       go_simp
      (try simp only [zA, zB, zC, Act.put, zD, zE, zF])
      refine tk 7 (.int .i64 x.e) ?_ hS0 ?_
      ·intro w' hSw
       have q1 := (hSw.cell (p := ⟨ps, ofs + j * 3, none⟩) hpsl).trans q1
       go_simp
      (try simp only [zA, zB, zC, Act.put, zD, zE, zF])
      refine ob_step (i := 8) (by kernel_rfl) rfl (fun K hK => ?_)
      rw [if_pos (by rfl)]
      go_simp
      refine (HI3.out _ hS0).mono ?_
      rintro e u1 ⟨rfl, rfl⟩
      refine hK _ _ (fun _ => hS0) ?_
      clear hK K
      (try simp only [zA, zB, zC, Act.put, zD, zE, zF])
      refine ob_done (by kernel_rfl) (NoPanic.normal ?_) _

      go_wp2_with fail
      go_roundg (gk - 1)
      case measure => have := Hk3.out; omega
      case rel => exact ⟨j + 1, by have := Hk3.out; omega, by go_num, HG.out.drew⟩
     ·have hrd := meets_ready (fine_few Hf.out).2 Hso.out Hxa.out Hxb.out Hw0.out rfl
      have HR1 := Lib.hid (fun (u : World) (hu : Below wq.heap.size wq u) => ready_any u ⟨sa1, sn1, sc1, na1, nn1, nc1, ga1, gn1, gc1, za1, zn1, zc1, ha1, hn1, hc1⟩ r1 (Ra5.out.below (below_step HJ.out hu HJ.out.size)) Hla.out b9x m9x d9x _ (HIA.out.below (below_step (below_step HD.out HG.out HD.out.size) hu (Nat.le_trans HD.out.size HG.out.size))) hrd.1)
      have HR2 := Lib.hid (fun (u : World) (hu : Below wq.heap.size wq u) => ready_any u ⟨sa2, sn2, sc2, na2, nn2, nc2, ga2, gn2, gc2, za2, zn2, zc2, ha2, hn2, hc2⟩ r2 (Rb5.out.below (below_step HJ.out hu HJ.out.size)) Hlb.out b9x m9x d9x _ (HIA.out.below (below_step (below_step HD.out HG.out HD.out.size) hu (Nat.le_trans HD.out.size HG.out.size))) hrd.2)
      dsimp only [RV.val] at HR1 HR2
      have dfr : (r1.frm != r2.frm) = true := by have := Hzz.out.1; simpa using this
      clear hrd
      go_wp2_with fail
      refine (HR1.out _ (Below.refl _ _)).mono ?_
      rintro e u1 ⟨rfl, hy1⟩
      have HQ := Lib.hid (below_step HJ.out hy1 HJ.out.size)
      clear c0 c1 c2 c3 c4 c5 c6 c7 c8 a0 a1 a2 a3 a4 a5 a6 a7 a8 b0 b1 b2 b3 b4 b5 b6 b7 b8 hlp hlra hlrb
      obtain ⟨c0, c1, c2, c3, c4, c5, c6, c7, c8⟩ := nine_of (rbox_keep Hp5.out HQ.out)
      obtain ⟨a0, a1, a2, a3, a4, a5, a6, a7, a8⟩ := nine_of (rbox_keep Ha4.out HQ.out)
      obtain ⟨b0, b1, b2, b3, b4, b5, b6, b7, b8⟩ := nine_of (rbox_keep Hb4.out HQ.out)
      have hlp := Nat.lt_of_lt_of_le hlp0.out (HQ.out).size
      have hlra := Nat.lt_of_lt_of_le hlra0.out (HQ.out).size
      have hlrb := Nat.lt_of_lt_of_le hlrb0.out (HQ.out).size

      have HR2' := Lib.hid (HR2.out u1 hy1)
      clear hy1 HR2
      go_wp2_with fail
      refine HR2'.out.mono ?_
      rintro e u2 ⟨rfl, hy2⟩
      go_wp2_with fail
      go_ret
      exact ⟨rfl, below_step HB5.out (below_step HQ.out hy2 HQ.out.size) HB5.out.size⟩
 subst hO
 subst hR
 subst hA
 simp only [Act.put, List.setIfInBounds_toArray, List.set_cons_zero, List.set_cons_succ] at key
 have Key := Lib.hid key
 clear key
 refine ob_some (js := [16, 17]) (by kernel_rfl) (by simp) (fun i hi => ?_)
 simp only [List.mem_cons, List.not_mem_nil, or_false] at hi
 rcases hi with rfl | rfl
 ·refine ⟨_, rfl, fun K hK => ?_⟩
  go_simp
  refine hK _ _ (fun _ => hSall _ (by with_reducible repeat (first | exact Below.refl _ _ | assumption | exact below_new _ _ | apply below_drewN | apply Below.drew | refine below_set (Nat.le_refl _) ?_ _ | (refine below_set ?_ ?_ _; omega) | refine Below.alloc ?_ (by first | omega | (simp; omega) | simp) _))) ?_
  clear hK K
  (try simp only [zA, zB, zC, Act.put, zD, zE, zF])
  refine ob_step (i := 17) (by kernel_rfl) rfl (fun K hK => ?_)
  go_simp
  refine hK _ _ (fun _ => hSall _ (by with_reducible repeat (first | exact Below.refl _ _ | assumption | exact below_new _ _ | apply below_drewN | apply Below.drew | refine below_set (Nat.le_refl _) ?_ _ | (refine below_set ?_ ?_ _; omega) | refine Below.alloc ?_ (by first | omega | (simp; omega) | simp) _))) ?_
  clear hK K
  (try simp only [zA, zB, zC, Act.put, zD, zE, zF])
  refine ob_step (i := 18) (by kernel_rfl) rfl (fun K hK => ?_)
  go_simp
  refine hK _ _ (fun _ => hSall _ (by with_reducible repeat (first | exact Below.refl _ _ | assumption | exact below_new _ _ | apply below_drewN | apply Below.drew | refine below_set (Nat.le_refl _) ?_ _ | (refine below_set ?_ ?_ _; omega) | refine Below.alloc ?_ (by first | omega | (simp; omega) | simp) _))) ?_
  clear hK K
  (try simp only [zA, zB, zC, Act.put, zD, zE, zF])
  refine ob_step (i := 19) (by kernel_rfl) rfl (fun K hK => ?_)
  go_simp
  refine hK _ _ (fun _ => hSall _ (by with_reducible repeat (first | exact Below.refl _ _ | assumption | exact below_new _ _ | apply below_drewN | apply Below.drew | refine below_set (Nat.le_refl _) ?_ _ | (refine below_set ?_ ?_ _; omega) | refine Below.alloc ?_ (by first | omega | (simp; omega) | simp) _))) ?_
  clear hK K
  (try simp only [zA, zB, zC, Act.put, zD, zE, zF])
  refine ob_done (by kernel_rfl) (NoPanic.normal ?_) _
  refine name_world fun w5 hw5 => ?_
  have hp := two_of (w := w3) (A := (.cells #[.int .i64 r1.frm, .int .i64 r1.to, .int .i64 r1.fin, .slice sa1 sn1 sc1, .slice na1 nn1 nc1, .slice ga1 gn1 gc1, .slice za1 zn1 zc1, .slice ha1 hn1 hc1, .bool r1.bare] 38)) (B := (.cells #[.int .i64 r2.frm, .int .i64 r2.to, .int .i64 r2.fin, .slice sa2 sn2 sc2, .slice na2 nn2 nc2, .slice ga2 gn2 gc2, .slice za2 zn2 zc2, .slice ha2 hn2 hc2, .bool r2.bare] 38)) rfl
  exact Key.out w5 (w3.heap.size) (w3.heap.size + 1) (by rw [hw5]; exact hp.2.2.2.drew) (by rw [hw5]; exact hp.1) (by rw [hw5]; exact hp.2.1) (by omega) (by omega)
 ·refine ⟨_, rfl, fun K hK => ?_⟩
  go_simp
  refine hK _ _ (fun _ => hSall _ (by with_reducible repeat (first | exact Below.refl _ _ | assumption | exact below_new _ _ | apply below_drewN | apply Below.drew | refine below_set (Nat.le_refl _) ?_ _ | (refine below_set ?_ ?_ _; omega) | refine Below.alloc ?_ (by first | omega | (simp; omega) | simp) _))) ?_
  clear hK K
  (try simp only [zA, zB, zC, Act.put, zD, zE, zF])
  refine ob_step (i := 16) (by kernel_rfl) rfl (fun K hK => ?_)
  go_simp
  refine hK _ _ (fun _ => hSall _ (by with_reducible repeat (first | exact Below.refl _ _ | assumption | exact below_new _ _ | apply below_drewN | apply Below.drew | refine below_set (Nat.le_refl _) ?_ _ | (refine below_set ?_ ?_ _; omega) | refine Below.alloc ?_ (by first | omega | (simp; omega) | simp) _))) ?_
  clear hK K
  (try simp only [zA, zB, zC, Act.put, zD, zE, zF])
  refine ob_step (i := 18) (by kernel_rfl) rfl (fun K hK => ?_)
  go_simp
  refine hK _ _ (fun _ => hSall _ (by with_reducible repeat (first | exact Below.refl _ _ | assumption | exact below_new _ _ | apply below_drewN | apply Below.drew | refine below_set (Nat.le_refl _) ?_ _ | (refine below_set ?_ ?_ _; omega) | refine Below.alloc ?_ (by first | omega | (simp; omega) | simp) _))) ?_
  clear hK K
  (try simp only [zA, zB, zC, Act.put, zD, zE, zF])
  refine ob_step (i := 19) (by kernel_rfl) rfl (fun K hK => ?_)
  go_simp
  refine hK _ _ (fun _ => hSall _ (by with_reducible repeat (first | exact Below.refl _ _ | assumption | exact below_new _ _ | apply below_drewN | apply Below.drew | refine below_set (Nat.le_refl _) ?_ _ | (refine below_set ?_ ?_ _; omega) | refine Below.alloc ?_ (by first | omega | (simp; omega) | simp) _))) ?_
  clear hK K
  (try simp only [zA, zB, zC, Act.put, zD, zE, zF])
  refine ob_done (by kernel_rfl) (NoPanic.normal ?_) _
  refine name_world fun w5 hw5 => ?_
  have hp := two_of (w := w3) (A := (.cells #[.int .i64 r2.frm, .int .i64 r2.to, .int .i64 r2.fin, .slice sa2 sn2 sc2, .slice na2 nn2 nc2, .slice ga2 gn2 gc2, .slice za2 zn2 zc2, .slice ha2 hn2 hc2, .bool r2.bare] 38)) (B := (.cells #[.int .i64 r1.frm, .int .i64 r1.to, .int .i64 r1.fin, .slice sa1 sn1 sc1, .slice na1 nn1 nc1, .slice ga1 gn1 gc1, .slice za1 zn1 zc1, .slice ha1 hn1 hc1, .bool r1.bare] 38)) rfl
  exact Key.out w5 (w3.heap.size + 1) (w3.heap.size) (by rw [hw5]; exact hp.2.2.2.drew) (by rw [hw5]; exact hp.2.1) (by rw [hw5]; exact hp.1) (by omega) (by omega)
set_option maxRecDepth 100000 in
theorem clashMeets_lifted (os : Os) (started : os.Started) (H : Type) (enc : TypeId × Value → H) :
  ReturnsInHanded {} Try.checked os 6 .any (Rows.clashMeetsSpec.pre6 enc Try.prog Try.f6 Rows.clashMeetsRow.domain false) (Rows.clashMeetsSpec.post enc Try.prog Try.f6 false true false false) := by
 refine returnsInHanded_of_change (C := Try.checked) own started (by kernel_rfl) Try.func6
  (ChangeSpec.witness6 (enc := enc) (C := Try.checked) false ⟨#[], #[.agg #[.slice none 0 0, .slice none 0 0, .slice none 0 0, .slice none 0 0, .int .i64 0, .int .i64 0, .int .i64 0, .int .i64 0, .bool false], .int .u8 0, .int .u8 0], []⟩ 8 (by kernel_rfl) (by kernel_rfl) (by kernel_rfl) (by kernel_rfl)) ?_
 intro W base args ds gs before hval0 hW hcnd _
 have hval : ∀ (j : Nat) t v, Try.f6.params[j]? = some t → args[j]? = some v → Value.okWide Try.prog W .any base t v := hval0
 have hW' := hW
 obtain ⟨p, q, hA0, hV, rfl, hfz, hnd⟩ := hW
 have hA : DataW.TrodAll enc Try.prog W 0 (fun _ => true) true Try.f6.params.toList args.toList ds p := hA0
 rw [Try.params6] at hA hval
 obtain ⟨v0, vs0, d0, ds0, p0, q0, hargs, rfl, rfl, k0, r0⟩ := trodAll_cons hA
 obtain ⟨v1, vs1, d1, ds1, p1, q1, rfl, rfl, rfl, k1, r1⟩ := trodAll_cons r0
 obtain ⟨v2, vs2, d2, ds2, p2, q2, rfl, rfl, rfl, k2, r2⟩ := trodAll_cons r1
 obtain ⟨rfl, rfl, rfl⟩ := trodAll_nil r2
 obtain rfl : args = #[v0, v1, v2] := by cases args; simp_all
 obtain ⟨rfl, rfl⟩ := trodVars_none hV
 have lt0 : ∀ x ∈ p0, x.block < W.heap.size := by obtain ⟨m, hm⟩ := k0; exact DataW.trod_lt m _ _ _ hm
 have hv0 := hval 0 27 v0 rfl rfl
 have lt1 : ∀ x ∈ p1, x.block < W.heap.size := by obtain ⟨m, hm⟩ := k1; exact DataW.trod_lt m _ _ _ hm
 have hv1 := hval 1 5 v1 rfl rfl
 have lt2 : ∀ x ∈ p2, x.block < W.heap.size := by obtain ⟨m, hm⟩ := k2; exact DataW.trod_lt m _ _ _ hm
 have hv2 := hval 2 5 v2 rfl rfl
 have fin : Calls Try.prog 6 #[v0, v1, v2] W (fun e W' => e = .returned (.bool true) ∧ Below W.heap.size W W') := by
  obtain ⟨pv, p, rfl, hp⟩ := open_plan hv0 k0
  obtain ⟨x0, rfl, a0, a1⟩ := open_u8 hv1 k1
  obtain ⟨x1, rfl, b0, b1⟩ := open_u8 hv2 k2
  exact lawMeets_any W pv p x0 x1 a0 a1 b0 b1 hp
 clear hA0 hval0
 refine fin.mono fun e W' ⟨he, bel⟩ => ?_
 subst he
 exact ⟨_, rfl, _, _, _, [], _, [], hW', trodAll_mk1 (shut_bool Try.underlying4 _), (trodAll_cons_mk (Below.trod laidOut (by kernel_rfl) (of_decide_eq_true (by kernel_rfl)) k0 bel lt0) (trodAll_cons_mk (Below.trod laidOut (by kernel_rfl) (of_decide_eq_true (by kernel_rfl)) k1 bel lt1) (trodAll_cons_mk (Below.trod laidOut (by kernel_rfl) (of_decide_eq_true (by kernel_rfl)) k2 bel lt2) trodAll_mk0))), rfl, bel.frame _, fun h => by cases h⟩

/-- THE STATEMENT -/
theorem clashMeets_holds : Rows.ClashMeetsSaid :=
 OpenClaim.holds_of_wide 6 Try.f6 rfl rfl rfl rfl rfl rfl rfl ⟨rfl, rfl, rfl, rfl, rfl⟩ rfl rfl rfl rfl rfl (by kernel_rfl) Try.func6 (by kernel_rfl)
  (of_decide_eq_true (by kernel_rfl)) (by unfold Func.isWrapper; first | (rw [if_pos (by decide +kernel)]; kernel_rfl) | (rw [if_neg (by decide +kernel)]; exact ⟨rfl, rfl⟩))
  (fun os started H enc _ => clashMeets_lifted os started H enc)
end Go.Proofs.Ytnkpiijljfjmkaa
