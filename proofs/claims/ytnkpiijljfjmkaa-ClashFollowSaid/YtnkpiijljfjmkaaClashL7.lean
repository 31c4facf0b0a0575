/- ClashFollow: for every input the law returns true. No condition. -/
import Derived.Test.YtnkpiijljfjmkaaClashL4
set_option maxRecDepth 1000000
namespace Go.Proofs.Ytnkpiijljfjmkaa
open Go.ChangeShapes Go.WideShapes Go.ChangeAt Go.RowKit Go.Sort

theorem memB_dec (e : Int) (l : List Int) : memB e l = decide (e ∈ l) := by
 rw [Bool.eq_iff_iff, memB_iff]
 simp
theorem why_two {p : Plan} {a b : Road} (h : a.frm ≠ b.frm) : (why p a b == 2) = meets a.elems b.elems := by
 unfold why
 rw [if_neg h]
 cases hm : meets a.elems b.elems with
 | true => rfl
 | false =>
  rw [if_neg (by simp)]
  split
  ·rfl
  ·split
   ·rfl
   ·split <;> rfl
theorem follow_ok {p : Plan} (hc : chk p = 0) {l : List Road} (hl : roadsOf p = some l) {a b : Road} (ha : a ∈ l) (hb : b ∈ l) (h1 : a.fin = 1) (h2 : a.to = b.frm) (h3 : a.frm ≠ b.frm) :
  (why p a b == 2) = meets a.elems b.elems ∧ ∃ t, a.steps[a.steps.length - 1]? = some t ∧ memB t.e b.elems = false := by
 refine ⟨why_two h3, ?_⟩
 obtain ⟨_, _, ra⟩ := roads_ok hc hl ha
 obtain ⟨at_, x0, rb⟩ := roads_ok hc hl hb
 obtain ⟨t, k1, k2, k3⟩ := ra.fin h1
 refine ⟨t, by rw [← List.getLast?_eq_getElem?]; exact k1, ?_⟩
 have hs := sigAt_reads (p := p) (y := ⟨t.e, t.o⟩) (by rw [← k2]; exact k3)
 rw [← k2, h2, rb.sg] at hs
 cases hs
 have hn := (List.nodup_cons.1 rb.pre.nod).1
 rw [memB_dec]
 exact decide_eq_false hn
set_option maxHeartbeats 16000000 in
theorem lawFollow_any (w : World) (pv : PV) (p : Plan) (i k : Int) (i0 : 0 ≤ i) (i1 : i ≤ 255) (k0 : 0 ≤ k) (k1 : k ≤ 255) (h : PlanAt w pv p) :
  Calls Try.prog 8 #[pv.val p, .int .u8 i, .int .u8 k] w fun e w' => e = .returned (.bool true) ∧ Below w.heap.size w w' := by
 have HP := Lib.hid h
 obtain ⟨ae, ne, ce, aj, nj, cj, as_, ns, cs, al, nl, cl, lv⟩ := pv
 clear h
 dsimp only [PV.val]
 go_enter Try.func8, Try.ntmps8
 go_wp2_with fail
 refine name_calls fun W0 hW0 => ?_
 have HpW0 := Lib.hid (show W0.heap[w.heap.size]? = some (.cells #[.slice ae ne ce, .slice aj nj cj, .slice as_ ns cs, .slice al nl cl, .int .i64 p.top, .int .i64 p.brake, .int .i64 p.margin, .int .i64 p.throw, .bool p.hard] 27) by rw [hW0]; exact heap_alloc_new w _)
 have HBW0 := Lib.hid (show Below w.heap.size w W0 by rw [hW0]; exact below_new1 w _)
 clear hW0
 refine (known10_any W0).mono ?_
 rintro e w1 ⟨rfl, hx1⟩
 have Hpw1 := Lib.hid (rbox_keep HpW0.out hx1)
 have HBw1 := Lib.hid (below_step HBW0.out hx1 HBW0.out.size)
 obtain ⟨c0, c1, c2, c3, c4, c5, c6, c7, c8⟩ := nine_of Hpw1.out
 have HRo := Lib.hid (roads10_any w1 ⟨ae, ne, ce, aj, nj, cj, as_, ns, cs, al, nl, cl, lv⟩ p (HP.out.below HBw1.out))
 dsimp only [PV.val, RoadsPost] at HRo
 clear hx1
 go_wp2_with fail
 refine HRo.out.mono ?_
 rintro e w2 ⟨hx2, rfl | ⟨a, n, cr, xs, hf, hso, hn64, hncr, hR, rfl⟩⟩
 ·go_wp2_with fail
  go_ret
  exact ⟨ret_bool (by simp), below_step HBw1.out hx2 HBw1.out.size⟩
 clear c0 c1 c2 c3 c4 c5 c6 c7 c8
 have Hpw2 := Lib.hid (rbox_keep Hpw1.out hx2)
 have HBw2 := Lib.hid (below_step HBw1.out hx2 HBw1.out.size)
 obtain ⟨c0, c1, c2, c3, c4, c5, c6, c7, c8⟩ := nine_of Hpw2.out
 have Hf := Lib.hid hf
 have Hso := Lib.hid hso
 have HR2 := Lib.hid hR
 have Hlen := Lib.hid hR.row.len
 clear hx2 HRo hf hso hR
 by_cases hn0 : n = 0
 ·subst hn0
  go_wp2_with fail
  go_ret
  exact ⟨ret_bool (by simp), HBw2.out⟩
 have hnz : (n : Int) ≠ 0 := by omega
 have dn0 : ((n : Int) == 0) = false := by simp; omega
 have HM := Lib.hid (made_any w2 ⟨ae, ne, ce, aj, nj, cj, as_, ns, cs, al, nl, cl, lv⟩ p Hf.out (HP.out.below HBw2.out))
 dsimp only [PV.val] at HM
 go_wp2_with fail
 refine HM.out.mono ?_
 rintro e w3 ⟨nb, rfl, hnb, hnn, hx3⟩
 clear c0 c1 c2 c3 c4 c5 c6 c7 c8
 have Hpw3 := Lib.hid (rbox_keep Hpw2.out hx3)
 have HBw3 := Lib.hid (below_step HBw2.out hx3 HBw2.out.size)
 obtain ⟨c0, c1, c2, c3, c4, c5, c6, c7, c8⟩ := nine_of Hpw3.out
 have HN3 := Lib.hid hnn
 have HR3 := Lib.hid (HR2.out.below hx3)
 clear hx3 HM hnn hnb
 obtain ⟨ia, hia⟩ : ∃ ia : Nat, Int.tmod i (n : Int) = (ia : Int) := ⟨(Int.tmod i n).toNat, by have := Int.tmod_nonneg (n : Int) i0; omega⟩
 obtain ⟨ka, hka⟩ : ∃ ka : Nat, Int.tmod k (n : Int) = (ka : Int) := ⟨(Int.tmod k n).toNat, by have := Int.tmod_nonneg (n : Int) k0; omega⟩
 have han : ia < n := by have := Int.tmod_lt_of_pos i (show (0 : Int) < n by omega); omega
 have hkn : ka < n := by have := Int.tmod_lt_of_pos k (show (0 : Int) < n by omega); omega
 have hwa : IntKind.i64.wrap (ia : Int) = (ia : Int) := IntWalk.i64_in _ (by omega)
 have hwk : IntKind.i64.wrap (ka : Int) = (ka : Int) := IntWalk.i64_in _ (by omega)
 have hwi : IntKind.i64.wrap i = i := IntWalk.i64_in _ (by omega)
 have hwj : IntKind.i64.wrap k = k := IntWalk.i64_in _ (by omega)
 obtain ⟨x, hx⟩ := get_some Hlen.out han
 obtain ⟨y, hy⟩ := get_some Hlen.out hkn
 have Hxa := Lib.hid (show x.r ∈ xs.map (·.r) from List.mem_map.2 ⟨x, List.mem_of_getElem? hx, rfl⟩)
 have Hxb := Lib.hid (show y.r ∈ xs.map (·.r) from List.mem_map.2 ⟨y, List.mem_of_getElem? hy, rfl⟩)
 have Rxa := Lib.hid (HR3.out.each x (List.mem_of_getElem? hx))
 have Rxb := Lib.hid (HR3.out.each y (List.mem_of_getElem? hy))
 have Hla := Lib.hid (lite_of Rxa.out (roads_sizes (fine_few Hf.out).2 Hso.out Hxa.out).1)
 have Hlb := Lib.hid (lite_of Rxb.out (roads_sizes (fine_few Hf.out).2 Hso.out Hxb.out).1)
 obtain ⟨g, off, rfl, hgl, kc1⟩ := HR3.out.row.road hx
 obtain ⟨g', off', he, _, kc2⟩ := HR3.out.row.road hy
 cases he
 obtain ⟨⟨sa1, sn1, sc1, na1, nn1, nc1, ga1, gn1, gc1, za1, zn1, zc1, ha1, hn1, hc1⟩, r1⟩ := x
 obtain ⟨⟨sa2, sn2, sc2, na2, nn2, nc2, ga2, gn2, gc2, za2, zn2, zc2, ha2, hn2, hc2⟩, r2⟩ := y
 have f0 : w3.cell? ⟨g, off + ia * 9, none⟩ = some (.int .i64 r1.frm) := kc1 0 _ rfl
 have f1 : w3.cell? ⟨g, off + ia * 9 + 1, none⟩ = some (.int .i64 r1.to) := kc1 1 _ rfl
 have f2 : w3.cell? ⟨g, off + ia * 9 + 2, none⟩ = some (.int .i64 r1.fin) := kc1 2 _ rfl
 have f3 : w3.cell? ⟨g, off + ia * 9 + 3, none⟩ = some (.slice sa1 sn1 sc1) := kc1 3 _ rfl
 have f4 : w3.cell? ⟨g, off + ia * 9 + 4, none⟩ = some (.slice na1 nn1 nc1) := kc1 4 _ rfl
 have f5 : w3.cell? ⟨g, off + ia * 9 + 5, none⟩ = some (.slice ga1 gn1 gc1) := kc1 5 _ rfl
 have f6 : w3.cell? ⟨g, off + ia * 9 + 6, none⟩ = some (.slice za1 zn1 zc1) := kc1 6 _ rfl
 have f7 : w3.cell? ⟨g, off + ia * 9 + 7, none⟩ = some (.slice ha1 hn1 hc1) := kc1 7 _ rfl
 have f8 : w3.cell? ⟨g, off + ia * 9 + 8, none⟩ = some (.bool r1.bare) := kc1 8 _ rfl
 have g0 : w3.cell? ⟨g, off + ka * 9, none⟩ = some (.int .i64 r2.frm) := kc2 0 _ rfl
 have g1 : w3.cell? ⟨g, off + ka * 9 + 1, none⟩ = some (.int .i64 r2.to) := kc2 1 _ rfl
 have g2 : w3.cell? ⟨g, off + ka * 9 + 2, none⟩ = some (.int .i64 r2.fin) := kc2 2 _ rfl
 have g3 : w3.cell? ⟨g, off + ka * 9 + 3, none⟩ = some (.slice sa2 sn2 sc2) := kc2 3 _ rfl
 have g4 : w3.cell? ⟨g, off + ka * 9 + 4, none⟩ = some (.slice na2 nn2 nc2) := kc2 4 _ rfl
 have g5 : w3.cell? ⟨g, off + ka * 9 + 5, none⟩ = some (.slice ga2 gn2 gc2) := kc2 5 _ rfl
 have g6 : w3.cell? ⟨g, off + ka * 9 + 6, none⟩ = some (.slice za2 zn2 zc2) := kc2 6 _ rfl
 have g7 : w3.cell? ⟨g, off + ka * 9 + 7, none⟩ = some (.slice ha2 hn2 hc2) := kc2 7 _ rfl
 have g8 : w3.cell? ⟨g, off + ka * 9 + 8, none⟩ = some (.bool r2.bare) := kc2 8 _ rfl
 clear kc1 kc2 hx hy HR2
 dsimp only at Hxa Hxb Rxa Rxb Hla Hlb
 go_wp2_with fail
 have hSall : ∀ w' : World, Below w3.heap.size w3 w' → (w'.cell? ⟨g, off + ia * 9, none⟩ = some (.int .i64 r1.frm) ∧ w'.cell? ⟨g, off + ia * 9 + 1, none⟩ = some (.int .i64 r1.to) ∧ w'.cell? ⟨g, off + ia * 9 + 2, none⟩ = some (.int .i64 r1.fin) ∧ w'.cell? ⟨g, off + ia * 9 + 3, none⟩ = some (.slice sa1 sn1 sc1) ∧ w'.cell? ⟨g, off + ia * 9 + 4, none⟩ = some (.slice na1 nn1 nc1) ∧ w'.cell? ⟨g, off + ia * 9 + 5, none⟩ = some (.slice ga1 gn1 gc1) ∧ w'.cell? ⟨g, off + ia * 9 + 6, none⟩ = some (.slice za1 zn1 zc1) ∧ w'.cell? ⟨g, off + ia * 9 + 7, none⟩ = some (.slice ha1 hn1 hc1) ∧ w'.cell? ⟨g, off + ia * 9 + 8, none⟩ = some (.bool r1.bare) ∧ w'.cell? ⟨g, off + ka * 9, none⟩ = some (.int .i64 r2.frm) ∧ w'.cell? ⟨g, off + ka * 9 + 1, none⟩ = some (.int .i64 r2.to) ∧ w'.cell? ⟨g, off + ka * 9 + 2, none⟩ = some (.int .i64 r2.fin) ∧ w'.cell? ⟨g, off + ka * 9 + 3, none⟩ = some (.slice sa2 sn2 sc2) ∧ w'.cell? ⟨g, off + ka * 9 + 4, none⟩ = some (.slice na2 nn2 nc2) ∧ w'.cell? ⟨g, off + ka * 9 + 5, none⟩ = some (.slice ga2 gn2 gc2) ∧ w'.cell? ⟨g, off + ka * 9 + 6, none⟩ = some (.slice za2 zn2 zc2) ∧ w'.cell? ⟨g, off + ka * 9 + 7, none⟩ = some (.slice ha2 hn2 hc2) ∧ w'.cell? ⟨g, off + ka * 9 + 8, none⟩ = some (.bool r2.bare)) := fun w' hb => ⟨(hb.cell (p := ⟨g, off + ia * 9, none⟩) hgl).trans f0, (hb.cell (p := ⟨g, off + ia * 9 + 1, none⟩) hgl).trans f1, (hb.cell (p := ⟨g, off + ia * 9 + 2, none⟩) hgl).trans f2, (hb.cell (p := ⟨g, off + ia * 9 + 3, none⟩) hgl).trans f3, (hb.cell (p := ⟨g, off + ia * 9 + 4, none⟩) hgl).trans f4, (hb.cell (p := ⟨g, off + ia * 9 + 5, none⟩) hgl).trans f5, (hb.cell (p := ⟨g, off + ia * 9 + 6, none⟩) hgl).trans f6, (hb.cell (p := ⟨g, off + ia * 9 + 7, none⟩) hgl).trans f7, (hb.cell (p := ⟨g, off + ia * 9 + 8, none⟩) hgl).trans f8, (hb.cell (p := ⟨g, off + ka * 9, none⟩) hgl).trans g0, (hb.cell (p := ⟨g, off + ka * 9 + 1, none⟩) hgl).trans g1, (hb.cell (p := ⟨g, off + ka * 9 + 2, none⟩) hgl).trans g2, (hb.cell (p := ⟨g, off + ka * 9 + 3, none⟩) hgl).trans g3, (hb.cell (p := ⟨g, off + ka * 9 + 4, none⟩) hgl).trans g4, (hb.cell (p := ⟨g, off + ka * 9 + 5, none⟩) hgl).trans g5, (hb.cell (p := ⟨g, off + ka * 9 + 6, none⟩) hgl).trans g6, (hb.cell (p := ⟨g, off + ka * 9 + 7, none⟩) hgl).trans g7, (hb.cell (p := ⟨g, off + ka * 9 + 8, none⟩) hgl).trans g8⟩
 refine wp_region_noPanic ?_
 refine region_ob (S := fun w' => w'.cell? ⟨g, off + ia * 9, none⟩ = some (.int .i64 r1.frm) ∧ w'.cell? ⟨g, off + ia * 9 + 1, none⟩ = some (.int .i64 r1.to) ∧ w'.cell? ⟨g, off + ia * 9 + 2, none⟩ = some (.int .i64 r1.fin) ∧ w'.cell? ⟨g, off + ia * 9 + 3, none⟩ = some (.slice sa1 sn1 sc1) ∧ w'.cell? ⟨g, off + ia * 9 + 4, none⟩ = some (.slice na1 nn1 nc1) ∧ w'.cell? ⟨g, off + ia * 9 + 5, none⟩ = some (.slice ga1 gn1 gc1) ∧ w'.cell? ⟨g, off + ia * 9 + 6, none⟩ = some (.slice za1 zn1 zc1) ∧ w'.cell? ⟨g, off + ia * 9 + 7, none⟩ = some (.slice ha1 hn1 hc1) ∧ w'.cell? ⟨g, off + ia * 9 + 8, none⟩ = some (.bool r1.bare) ∧ w'.cell? ⟨g, off + ka * 9, none⟩ = some (.int .i64 r2.frm) ∧ w'.cell? ⟨g, off + ka * 9 + 1, none⟩ = some (.int .i64 r2.to) ∧ w'.cell? ⟨g, off + ka * 9 + 2, none⟩ = some (.int .i64 r2.fin) ∧ w'.cell? ⟨g, off + ka * 9 + 3, none⟩ = some (.slice sa2 sn2 sc2) ∧ w'.cell? ⟨g, off + ka * 9 + 4, none⟩ = some (.slice na2 nn2 nc2) ∧ w'.cell? ⟨g, off + ka * 9 + 5, none⟩ = some (.slice ga2 gn2 gc2) ∧ w'.cell? ⟨g, off + ka * 9 + 6, none⟩ = some (.slice za2 zn2 zc2) ∧ w'.cell? ⟨g, off + ka * 9 + 7, none⟩ = some (.slice ha2 hn2 hc2) ∧ w'.cell? ⟨g, off + ka * 9 + 8, none⟩ = some (.bool r2.bare)) (ob := fun t => decide (t < 20)) (by kernel_rfl) ?_
 refine tk 0 (.slice (some ⟨g, off, none⟩) n cr) ?_ (hSall _ (Below.refl _ _).drew) ?_
 ·intro w' hSw
  (try dsimp only at hSw)
  go_simp
 (try simp only [zA, zC, Act.put, zD, zE, zF])
 refine tk 1 (.int .u8 i) ?_ (hSall _ (Below.refl _ _).drew) ?_
 ·intro w' hSw
  (try dsimp only at hSw)
  go_simp
 (try simp only [zA, zB, zC, Act.put, zD, zE, zF])
 refine tk 2 (.int .i64 i) ?_ (hSall _ (Below.refl _ _).drew) ?_
 ·intro w' hSw
  (try dsimp only at hSw)
  go_simp
 (try simp only [zA, zB, zC, Act.put, zD, zE, zF])
 refine tk 3 (.slice (some ⟨g, off, none⟩) n cr) ?_ (hSall _ (Below.refl _ _).drew) ?_
 ·intro w' hSw
  (try dsimp only at hSw)
  go_simp
 (try simp only [zA, zB, zC, Act.put, zD, zE, zF])
 refine tk 4 (.int .i64 n) ?_ (hSall _ (Below.refl _ _).drew) ?_
 ·intro w' hSw
  (try dsimp only at hSw)
  go_simp
 (try simp only [zA, zB, zC, Act.put, zD, zE, zF])
 refine tk 5 (.int .i64 (ia : Int)) ?_ (hSall _ (Below.refl _ _).drew) ?_
 ·intro w' hSw
  (try dsimp only at hSw)
  go_simp
 (try simp only [zA, zB, zC, Act.put, zD, zE, zF])
 refine tk 6 (.pointer (some ⟨g, off + ia * 9, none⟩)) ?_ (hSall _ (Below.refl _ _).drew) ?_
 ·intro w' hSw
  (try dsimp only at hSw)
  go_simp
 (try simp only [zA, zB, zC, Act.put, zD, zE, zF])
 refine tk 7 (.agg #[.int .i64 r1.frm, .int .i64 r1.to, .int .i64 r1.fin, .slice sa1 sn1 sc1, .slice na1 nn1 nc1, .slice ga1 gn1 gc1, .slice za1 zn1 zc1, .slice ha1 hn1 hc1, .bool r1.bare]) ?_ (hSall _ (Below.refl _ _).drew) ?_
 ·intro w' hSw
  (try dsimp only at hSw)
  go_simp
 (try simp only [zA, zB, zC, Act.put, zD, zE, zF])
 refine tk 8 (.slice (some ⟨g, off, none⟩) n cr) ?_ (hSall _ (Below.refl _ _).drew) ?_
 ·intro w' hSw
  (try dsimp only at hSw)
  go_simp
 (try simp only [zA, zB, zC, Act.put, zD, zE, zF])
 refine tk 9 (.int .u8 k) ?_ (hSall _ (Below.refl _ _).drew) ?_
 ·intro w' hSw
  (try dsimp only at hSw)
  go_simp
 (try simp only [zA, zB, zC, Act.put, zD, zE, zF])
 refine tk 10 (.int .i64 k) ?_ (hSall _ (Below.refl _ _).drew) ?_
 ·intro w' hSw
  (try dsimp only at hSw)
  go_simp
 (try simp only [zA, zB, zC, Act.put, zD, zE, zF])
 refine tk 11 (.slice (some ⟨g, off, none⟩) n cr) ?_ (hSall _ (Below.refl _ _).drew) ?_
 ·intro w' hSw
  (try dsimp only at hSw)
  go_simp
 (try simp only [zA, zB, zC, Act.put, zD, zE, zF])
 refine tk 12 (.int .i64 n) ?_ (hSall _ (Below.refl _ _).drew) ?_
 ·intro w' hSw
  (try dsimp only at hSw)
  go_simp
 (try simp only [zA, zB, zC, Act.put, zD, zE, zF])
 refine tk 13 (.int .i64 (ka : Int)) ?_ (hSall _ (Below.refl _ _).drew) ?_
 ·intro w' hSw
  (try dsimp only at hSw)
  go_simp
 (try simp only [zA, zB, zC, Act.put, zD, zE, zF])
 refine tk 14 (.pointer (some ⟨g, off + ka * 9, none⟩)) ?_ (hSall _ (Below.refl _ _).drew) ?_
 ·intro w' hSw
  (try dsimp only at hSw)
  go_simp
 (try simp only [zA, zB, zC, Act.put, zD, zE, zF])
 refine tk 15 (.agg #[.int .i64 r2.frm, .int .i64 r2.to, .int .i64 r2.fin, .slice sa2 sn2 sc2, .slice na2 nn2 nc2, .slice ga2 gn2 gc2, .slice za2 zn2 zc2, .slice ha2 hn2 hc2, .bool r2.bare]) ?_ (hSall _ (Below.refl _ _).drew) ?_
 ·intro w' hSw
  (try dsimp only at hSw)
  go_simp
 (try simp only [zA, zB, zC, Act.put, zD, zE, zF])
 refine ob_name fun OPS hO R hR A hA => ?_
 have key : ∀ (w5 : World) (g4 g5 : Nat), Below w3.heap.size w3 w5 → w5.heap[g4]? = some (.cells #[.int .i64 r1.frm, .int .i64 r1.to, .int .i64 r1.fin, .slice sa1 sn1 sc1, .slice na1 nn1 nc1, .slice ga1 gn1 gc1, .slice za1 zn1 zc1, .slice ha1 hn1 hc1, .bool r1.bare] 38) → w5.heap[g5]? = some (.cells #[.int .i64 r2.frm, .int .i64 r2.to, .int .i64 r2.fin, .slice sa2 sn2 sc2, .slice na2 nn2 nc2, .slice ga2 gn2 gc2, .slice za2 zn2 zc2, .slice ha2 hn2 hc2, .bool r2.bare] 38) → w3.heap.size ≤ g4 → w3.heap.size ≤ g5 →
   R .normal ((A.put (some 10) (.pointer (some ⟨g4, 0, none⟩))).put (some 11) (.pointer (some ⟨g5, 0, none⟩))) w5 := by
  intro w5 g4 g5 hw5 ha4 hb4 hl4 hl5
  have Hw5 := Lib.hid hw5
  have Ha4 := Lib.hid ha4
  have Hb4 := Lib.hid hb4
  have hl4 := Lib.hid hl4
  have hl5 := Lib.hid hl5
  subst hO
  subst hR
  subst hA
  refine NoPanic.normal ?_
  (try simp only [Act.put, zD, zE, zF])
  clear hSall hw5 ha4 hb4 f0 f1 f2 f3 f4 f5 f6 f7 f8 g0 g1 g2 g3 g6 g7 g8
  have hlp := Nat.lt_of_lt_of_le (Array.getElem?_eq_some_iff.1 Hpw3.out).1 Hw5.out.size
  have hlra := (Array.getElem?_eq_some_iff.1 Ha4.out).1
  have hlrb := (Array.getElem?_eq_some_iff.1 Hb4.out).1
  have Hp5 := Lib.hid (rbox_keep Hpw3.out Hw5.out)
  have HB5 := Lib.hid (below_step HBw3.out Hw5.out HBw3.out.size)
  have HNk := Lib.hid (HN3.out.below Hw5.out)
  have Ra5 := Lib.hid (Rxa.out.below Hw5.out)
  have Rb5 := Lib.hid (Rxb.out.below Hw5.out)
  have HP5 := Lib.hid (HP.out.below HB5.out)
  have Hok := Lib.hid (few_ok HP.out (fine_few Hf.out).1)
  clear c0 c1 c2 c3 c4 c5 c6 c7 c8
  obtain ⟨c0, c1, c2, c3, c4, c5, c6, c7, c8⟩ := nine_of Hp5.out
  obtain ⟨a0, a1, a2, a3, a4, a5, a6, a7, a8⟩ := nine_of Ha4.out
  obtain ⟨b0, b1, b2, b3, b4, b5, b6, b7, b8⟩ := nine_of Hb4.out
  have hst0 : ∃ x, r1.steps[0]? = some x := by
   obtain ⟨_, _, hok⟩ := roads_ok (fine_few Hf.out).2 Hso.out Hxa.out
   cases hs : r1.steps with
   | nil => exact absurd hs hok.ne
   | cons x l => exact ⟨x, rfl⟩
  obtain ⟨x0, hx0⟩ := hst0
  have hsn0 : 0 < sn1 := by
   have h1 := Ra5.out.s.len
   have h2 := (List.getElem?_eq_some_iff.1 hx0).1
   dsimp only at h1
   omega
  have hsn2 := Hla.out.s
  dsimp only at hsn2
  obtain ⟨ps, ofs, rfl, hpsl, _, _, _⟩ := Ra5.out.s.stp hx0
  clear hx0
  have Hsl := Lib.hid Ra5.out.s.len
  dsimp only at Hsl
  have HW := Lib.hid (fun (u : World) (hu : Below w5.heap.size w5 u) => why_any u nb p (HNk.out.below hu) ⟨(some ⟨ps, ofs, none⟩), sn1, sc1, na1, nn1, nc1, ga1, gn1, gc1, za1, zn1, zc1, ha1, hn1, hc1⟩ ⟨sa2, sn2, sc2, na2, nn2, nc2, ga2, gn2, gc2, za2, zn2, zc2, ha2, hn2, hc2⟩ r1 r2 (Ra5.out.below hu) (Rb5.out.below hu) Hla.out Hlb.out)
  have HO := Lib.hid (fun (u : World) (hu : Below w5.heap.size w5 u) (e : Int) => own_any u ⟨sa2, sn2, sc2, na2, nn2, nc2, ga2, gn2, gc2, za2, zn2, zc2, ha2, hn2, hc2⟩ r2 (Rb5.out.below hu) Hlb.out.s e)
  dsimp only [RV.val] at HW HO
  by_cases e1 : ¬ r1.fin = 1
  ·have d1 : (r1.fin != 1) = true := by simpa using e1
   clear e1
   go_wp2_with fail
   go_ret
   exact ⟨rfl, HB5.out⟩
  have He1 := Lib.hid (Decidable.not_not.1 e1)
  clear e1
  have d1 : (r1.fin != 1) = false := by simp [He1.out]
  by_cases e2 : ¬ r1.to = r2.frm
  ·have d2 : (r1.to != r2.frm) = true := by simpa using e2
   clear e2
   go_wp2_with fail
   go_ret
   exact ⟨rfl, HB5.out⟩
  have He2 := Lib.hid (Decidable.not_not.1 e2)
  clear e2
  have d2 : (r1.to != r2.frm) = false := by simp [He2.out]
  by_cases e3 : r1.frm = r2.frm
  ·have d3 : (r1.frm == r2.frm) = true := by simp [e3]
   clear e3
   go_wp2_with fail
   go_ret
   exact ⟨rfl, HB5.out⟩
  have d3 : (r1.frm == r2.frm) = false := by simpa using e3
  have He3 := Lib.hid e3
  clear e3
  have hfo := follow_ok (fine_few Hf.out).2 Hso.out Hxa.out Hxb.out He1.out He2.out He3.out
  obtain ⟨hwm, t, hlast, hnot⟩ := hfo
  have Hwm := Lib.hid hwm
  have Hlast := Lib.hid hlast
  have Hnot := Lib.hid hnot
  clear hwm hlast hnot
  go_wp2_with fail
  go_loopg [12, 13] sn1 (fun k s12 s13 wr => ∃ (j : Nat) (sh : Bool), j + k = sn1 ∧ s13 = .int .i64 j ∧ s12 = .bool sh ∧ Hid (sh = (r1.elems.take j).any (fun e => memB e r2.elems)) ∧ Hid (Below w5.heap.size w5 wr))
  case atStart => exact ⟨0, false, by omega, rfl, rfl, by rw [List.take_zero]; rfl, Below.refl _ _⟩
  case round =>
   obtain ⟨j, sh, hk, rfl, rfl, HS, HD⟩ := hrel
   obtain ⟨wo, rfl⟩ : ∃ wo : World, wo = wr := ⟨_, rfl⟩
   have Hk := Lib.hid hk
   clear hk
   have a0 := (HD.out.cell (p := ⟨g4, 0, none⟩) hlra).trans a0
   have a1 := (HD.out.cell (p := ⟨g4, 1, none⟩) hlra).trans a1
   have a2 := (HD.out.cell (p := ⟨g4, 2, none⟩) hlra).trans a2
   have a3 := (HD.out.cell (p := ⟨g4, 3, none⟩) hlra).trans a3
   have a4 := (HD.out.cell (p := ⟨g4, 4, none⟩) hlra).trans a4
   have a5 := (HD.out.cell (p := ⟨g4, 5, none⟩) hlra).trans a5
   have a6 := (HD.out.cell (p := ⟨g4, 6, none⟩) hlra).trans a6
   have a7 := (HD.out.cell (p := ⟨g4, 7, none⟩) hlra).trans a7
   have a8 := (HD.out.cell (p := ⟨g4, 8, none⟩) hlra).trans a8
   have b0 := (HD.out.cell (p := ⟨g5, 0, none⟩) hlrb).trans b0
   have b1 := (HD.out.cell (p := ⟨g5, 1, none⟩) hlrb).trans b1
   have b2 := (HD.out.cell (p := ⟨g5, 2, none⟩) hlrb).trans b2
   have b3 := (HD.out.cell (p := ⟨g5, 3, none⟩) hlrb).trans b3
   have b4 := (HD.out.cell (p := ⟨g5, 4, none⟩) hlrb).trans b4
   have b5 := (HD.out.cell (p := ⟨g5, 5, none⟩) hlrb).trans b5
   have b6 := (HD.out.cell (p := ⟨g5, 6, none⟩) hlrb).trans b6
   have b7 := (HD.out.cell (p := ⟨g5, 7, none⟩) hlrb).trans b7
   have b8 := (HD.out.cell (p := ⟨g5, 8, none⟩) hlrb).trans b8
   have hlra := Nat.lt_of_lt_of_le hlra HD.out.size
   have hlrb := Nat.lt_of_lt_of_le hlrb HD.out.size
   have hpsl := Nat.lt_of_lt_of_le hpsl HD.out.size
   have HWo := Lib.hid (fun (u : World) (hu : Below wo.heap.size wo u) => HW.out u (below_step HD.out hu HD.out.size))
   have HOo := Lib.hid (fun (u : World) (hu : Below wo.heap.size wo u) => HO.out u (below_step HD.out hu HD.out.size))
   by_cases hlt : j < sn1
   ·obtain ⟨x, hx⟩ := get_some Hsl.out hlt
    obtain ⟨ps', ofs', he, _, q1, _, _⟩ := (Ra5.out.s.below HD.out).stp hx
    cases he
    have hxe : r1.elems[j]? = some x.e := by unfold Road.elems; rw [List.getElem?_map, hx]; rfl
    have hnx : (r1.elems.take (j + 1)).any (fun e => memB e r2.elems) = (sh || memB x.e r2.elems) := by rw [take_snoc_get hxe, List.any_append, ← HS.out]; simp
    have Hnx := Lib.hid hnx
    clear hx hxe hnx
    cases sh with
    | true =>
     go_wp2_with fail
     go_quiet (fail)
     go_wp2_with fail
     go_roundg (gk - 1)
     case measure => have := Hk.out; omega
     case rel => exact ⟨j + 1, true, by have := Hk.out; omega, by go_num, rfl, by rw [Hnx.out]; rfl, below_drewN HD.out _⟩
    | false =>
     go_wp2_with fail
     refine wp_region_noPanic ?_
     refine region_ob (S := fun w' => Below wo.heap.size wo w') (ob := fun _ => true) (by kernel_rfl) ?_
     have hS0 : Below wo.heap.size wo wo.drew := (Below.refl _ _).drew
     refine tk 0 (.bool false) ?_ hS0 ?_
     ·intro w' hSw
      go_simp
     (try simp only [zA, zC, Act.put, zD, zE, zF])
     refine tk 1 (.bool false) ?_ hS0 ?_
     ·intro w' hSw
      go_simp
     (try simp only [zA, zB, zC, Act.put, zD, zE, zF])
     refine tk 2 (.agg #[.int .i64 r2.frm, .int .i64 r2.to, .int .i64 r2.fin, .slice sa2 sn2 sc2, .slice na2 nn2 nc2, .slice ga2 gn2 gc2, .slice za2 zn2 zc2, .slice ha2 hn2 hc2, .bool r2.bare]) ?_ hS0 ?_
     ·intro w' hSw
      have b0 := (hSw.cell (p := ⟨g5, 0, none⟩) hlrb).trans b0
      have b1 := (hSw.cell (p := ⟨g5, 1, none⟩) hlrb).trans b1
      have b2 := (hSw.cell (p := ⟨g5, 2, none⟩) hlrb).trans b2
      have b3 := (hSw.cell (p := ⟨g5, 3, none⟩) hlrb).trans b3
      have b4 := (hSw.cell (p := ⟨g5, 4, none⟩) hlrb).trans b4
      have b5 := (hSw.cell (p := ⟨g5, 5, none⟩) hlrb).trans b5
      have b6 := (hSw.cell (p := ⟨g5, 6, none⟩) hlrb).trans b6
      have b7 := (hSw.cell (p := ⟨g5, 7, none⟩) hlrb).trans b7
      have b8 := (hSw.cell (p := ⟨g5, 8, none⟩) hlrb).trans b8
      go_simp
     (try simp only [zA, zB, zC, Act.put, zD, zE, zF])
     refine tk 3 (.pointer (some ⟨g4, 3, none⟩)) ?_ hS0 ?_
     ·intro w' hSw
      go_simp
     (try simp only [zA, zB, zC, Act.put, zD, zE, zF])
     refine tk 4 (.slice (some ⟨ps, ofs, none⟩) sn1 sc1) ?_ hS0 ?_
     ·intro w' hSw
      have a3 := (hSw.cell (p := ⟨g4, 3, none⟩) hlra).trans a3
      go_simp
     (try simp only [zA, zB, zC, Act.put, zD, zE, zF])
     refine tk 5 (.int .i64 j) ?_ hS0 ?_
     ·intro w' hSw
      go_simp
     (try simp only [zA, zB, zC, Act.put, zD, zE, zF])
     refine tk 6 (.pointer (some ⟨ps, ofs + j * 3, none⟩)) ?_ hS0 ?_
     ·intro w' hSw
      go_simp
     (try simp only [zA, zB, zC, Act.put, zD, zE, zF])
     refine tk 7 (.pointer (some ⟨ps, ofs + j * 3, none⟩)) ?_ hS0 ?_
     ·intro w' hSw
      go_simp
     (try simp only [zA, zB, zC, Act.put, zD, zE, zF])
     refine tk 8 (.int .i64 x.e) ?_ hS0 ?_
     ·intro w' hSw
      have q1 := (hSw.cell (p := ⟨ps, ofs + j * 3, none⟩) hpsl).trans q1
      go_simp
     (try simp only [zA, zB, zC, Act.put, zD, zE, zF])
     refine ob_step (i := 9) (by kernel_rfl) rfl (fun K hK => ?_)
     rw [if_pos (by rfl)]
     go_simp
     refine (HOo.out _ hS0 x.e).mono ?_
     rintro e u1 ⟨rfl, hy1⟩
     have hS1 := below_step hS0 hy1 hS0.size
     refine hK _ _ (fun _ => hS1) ?_
     clear hK K
     (try simp only [zA, zB, zC, Act.put, zD, zE, zF])
     refine tk 10 (.bool (memB x.e r2.elems)) ?_ hS1 ?_
     ·intro w' hSw
      go_simp
     (try simp only [zA, zB, zC, Act.put, zD, zE, zF])
     refine tk 11 (.bool (memB x.e r2.elems)) ?_ hS1 ?_
     ·intro w' hSw
      go_simp
     (try simp only [zA, zB, zC, Act.put, zD, zE, zF])
     refine ob_done (by kernel_rfl) (NoPanic.normal ?_) _

     go_wp2_with fail
     go_roundg (gk - 1)
     case measure => have := Hk.out; omega
     case rel => exact ⟨j + 1, _, by have := Hk.out; omega, by go_num, rfl, by rw [Hnx.out]; rfl, below_step HD.out hS1 HD.out.size⟩
   ·have hj : j = sn1 := by have := Hk.out; omega
    have hsh : sh = meets r1.elems r2.elems := by
     have hel : r1.elems.length = sn1 := by unfold Road.elems; rw [List.length_map]; exact Hsl.out
     rw [HS.out, hj, ← hel, List.take_length]
     rfl
    obtain ⟨m, hm⟩ : ∃ m, m + 1 = sn1 := ⟨sn1 - 1, by omega⟩
    have hlm : r1.steps[m]? = some t := by
     have h1 := Hlast.out
     rw [Hsl.out, ← hm] at h1
     exact h1
    have hml : m < sn1 := by omega
    obtain ⟨ps', ofs', he, _, q1, _, _⟩ := (Ra5.out.s.below HD.out).stp hlm
    cases he
    have hsub : IntKind.i64.wrap ((sn1 : Int) - 1) = (m : Int) := by rw [show (sn1 : Int) - 1 = (m : Int) by omega]; exact IntWalk.i64_in _ (by omega)
    have hwm2 : (why p r1 r2 == 2) = sh := by rw [hsh]; exact Hwm.out
    have Hj := Lib.hid hj
    have Hlt := Lib.hid hlt
    have dlt : decide ((j : Int) < (sn1 : Int)) = false := by simp; omega
    clear hj hlt hsh hlm hm
    cases sh with
    | true =>
     go_wp2_with fail
     refine wp_region_noPanic ?_
     refine region_ob (S := fun w' => Below wo.heap.size wo w') (ob := fun _ => true) (by kernel_rfl) ?_
     have hS0 : Below wo.heap.size wo wo.drew := (Below.refl _ _).drew
     refine tk 0 (.pointer (some ⟨nb, 0, none⟩)) ?_ hS0 ?_
     ·intro w' hSw
      go_simp
     (try simp only [zA, zC, Act.put, zD, zE, zF])
     refine tk 1 (.agg #[.int .i64 r1.frm, .int .i64 r1.to, .int .i64 r1.fin, .slice (some ⟨ps, ofs, none⟩) sn1 sc1, .slice na1 nn1 nc1, .slice ga1 gn1 gc1, .slice za1 zn1 zc1, .slice ha1 hn1 hc1, .bool r1.bare]) ?_ hS0 ?_
     ·intro w' hSw
      have a0 := (hSw.cell (p := ⟨g4, 0, none⟩) hlra).trans a0
      have a1 := (hSw.cell (p := ⟨g4, 1, none⟩) hlra).trans a1
      have a2 := (hSw.cell (p := ⟨g4, 2, none⟩) hlra).trans a2
      have a3 := (hSw.cell (p := ⟨g4, 3, none⟩) hlra).trans a3
      have a4 := (hSw.cell (p := ⟨g4, 4, none⟩) hlra).trans a4
      have a5 := (hSw.cell (p := ⟨g4, 5, none⟩) hlra).trans a5
      have a6 := (hSw.cell (p := ⟨g4, 6, none⟩) hlra).trans a6
      have a7 := (hSw.cell (p := ⟨g4, 7, none⟩) hlra).trans a7
      have a8 := (hSw.cell (p := ⟨g4, 8, none⟩) hlra).trans a8
      go_simp
     (try simp only [zA, zB, zC, Act.put, zD, zE, zF])
     refine tk 2 (.agg #[.int .i64 r2.frm, .int .i64 r2.to, .int .i64 r2.fin, .slice sa2 sn2 sc2, .slice na2 nn2 nc2, .slice ga2 gn2 gc2, .slice za2 zn2 zc2, .slice ha2 hn2 hc2, .bool r2.bare]) ?_ hS0 ?_
     ·intro w' hSw
      have b0 := (hSw.cell (p := ⟨g5, 0, none⟩) hlrb).trans b0
      have b1 := (hSw.cell (p := ⟨g5, 1, none⟩) hlrb).trans b1
      have b2 := (hSw.cell (p := ⟨g5, 2, none⟩) hlrb).trans b2
      have b3 := (hSw.cell (p := ⟨g5, 3, none⟩) hlrb).trans b3
      have b4 := (hSw.cell (p := ⟨g5, 4, none⟩) hlrb).trans b4
      have b5 := (hSw.cell (p := ⟨g5, 5, none⟩) hlrb).trans b5
      have b6 := (hSw.cell (p := ⟨g5, 6, none⟩) hlrb).trans b6
      have b7 := (hSw.cell (p := ⟨g5, 7, none⟩) hlrb).trans b7
      have b8 := (hSw.cell (p := ⟨g5, 8, none⟩) hlrb).trans b8
      go_simp
     (try simp only [zA, zB, zC, Act.put, zD, zE, zF])
     refine tk 5 (.bool true) ?_ hS0 ?_
     ·intro w' hSw
      go_simp
     (try simp only [zA, zB, zC, Act.put, zD, zE, zF])
     refine ob_step (i := 3) (by kernel_rfl) rfl (fun K hK => ?_)
     rw [if_pos (by rfl)]
     go_simp
     refine (HWo.out _ hS0).mono ?_
     rintro e u1 ⟨rfl, hy1⟩
     have hS1 := below_step hS0 hy1 hS0.size
     refine hK _ _ (fun _ => hS1) ?_
     clear hK K
     (try simp only [zA, zB, zC, Act.put, zD, zE, zF])
     refine tk 4 (.bool true) ?_ hS1 ?_
     ·intro w' hSw
      go_simp
     (try simp only [zA, zB, zC, Act.put, zD, zE, zF])
     refine tk 6 (.bool true) ?_ hS1 ?_
     ·intro w' hSw
      go_simp
     (try simp only [zA, zB, zC, Act.put, zD, zE, zF])
     refine tk 7 (.bool true) ?_ hS1 ?_
     ·intro w' hSw
      go_simp
     (try simp only [zA, zB, zC, Act.put, zD, zE, zF])
     refine tk 8 (.agg #[.int .i64 r2.frm, .int .i64 r2.to, .int .i64 r2.fin, .slice sa2 sn2 sc2, .slice na2 nn2 nc2, .slice ga2 gn2 gc2, .slice za2 zn2 zc2, .slice ha2 hn2 hc2, .bool r2.bare]) ?_ hS1 ?_
     ·intro w' hSw
      have b0 := (hSw.cell (p := ⟨g5, 0, none⟩) hlrb).trans b0
      have b1 := (hSw.cell (p := ⟨g5, 1, none⟩) hlrb).trans b1
      have b2 := (hSw.cell (p := ⟨g5, 2, none⟩) hlrb).trans b2
      have b3 := (hSw.cell (p := ⟨g5, 3, none⟩) hlrb).trans b3
      have b4 := (hSw.cell (p := ⟨g5, 4, none⟩) hlrb).trans b4
      have b5 := (hSw.cell (p := ⟨g5, 5, none⟩) hlrb).trans b5
      have b6 := (hSw.cell (p := ⟨g5, 6, none⟩) hlrb).trans b6
      have b7 := (hSw.cell (p := ⟨g5, 7, none⟩) hlrb).trans b7
      have b8 := (hSw.cell (p := ⟨g5, 8, none⟩) hlrb).trans b8
      go_simp
     (try simp only [zA, zB, zC, Act.put, zD, zE, zF])
     refine tk 9 (.pointer (some ⟨g4, 3, none⟩)) ?_ hS1 ?_
     ·intro w' hSw
      go_simp
     (try simp only [zA, zB, zC, Act.put, zD, zE, zF])
     refine tk 10 (.slice (some ⟨ps, ofs, none⟩) sn1 sc1) ?_ hS1 ?_
     ·intro w' hSw
      have a3 := (hSw.cell (p := ⟨g4, 3, none⟩) hlra).trans a3
      go_simp
     (try simp only [zA, zB, zC, Act.put, zD, zE, zF])
     refine tk 11 (.pointer (some ⟨g4, 3, none⟩)) ?_ hS1 ?_
     ·intro w' hSw
      go_simp
     (try simp only [zA, zB, zC, Act.put, zD, zE, zF])
     refine tk 12 (.slice (some ⟨ps, ofs, none⟩) sn1 sc1) ?_ hS1 ?_
     ·intro w' hSw
      have a3 := (hSw.cell (p := ⟨g4, 3, none⟩) hlra).trans a3
      go_simp
     (try simp only [zA, zB, zC, Act.put, zD, zE, zF])
     refine tk 13 (.int .i64 sn1) ?_ hS1 ?_
     ·intro w' hSw
      go_simp
     (try simp only [zA, zB, zC, Act.put, zD, zE, zF])
     refine tk 14 (.int .i64 (m : Int)) ?_ hS1 ?_
     ·intro w' hSw
      go_simp
     (try simp only [zA, zB, zC, Act.put, zD, zE, zF])
     refine tk 15 (.pointer (some ⟨ps, ofs + m * 3, none⟩)) ?_ hS1 ?_
     ·intro w' hSw
      go_simp
     (try simp only [zA, zB, zC, Act.put, zD, zE, zF])
     refine tk 16 (.pointer (some ⟨ps, ofs + m * 3, none⟩)) ?_ hS1 ?_
     ·intro w' hSw
      go_simp
     (try simp only [zA, zB, zC, Act.put, zD, zE, zF])
     refine tk 17 (.int .i64 t.e) ?_ hS1 ?_
     ·intro w' hSw
      have q1 := (hSw.cell (p := ⟨ps, ofs + m * 3, none⟩) hpsl).trans q1
      go_simp
     (try simp only [zA, zB, zC, Act.put, zD, zE, zF])
     refine ob_step (i := 18) (by kernel_rfl) rfl (fun K hK => ?_)
     rw [if_pos (by rfl)]
     go_simp
     refine (HOo.out _ hS1 t.e).mono ?_
     rw [Hnot.out]
     rintro e u2 ⟨rfl, hy2⟩
     have hS2 := below_step hS1 hy2 hS1.size
     refine hK _ _ (fun _ => hS2) ?_
     clear hK K
     (try simp only [zA, zB, zC, Act.put, zD, zE, zF])
     refine tk 19 (.bool true) ?_ hS2 ?_
     ·intro w' hSw
      go_simp
     (try simp only [zA, zB, zC, Act.put, zD, zE, zF])
     refine tk 20 (.bool true) ?_ hS2 ?_
     ·intro w' hSw
      go_simp
     (try simp only [zA, zB, zC, Act.put, zD, zE, zF])
     refine tk 21 (.bool true) ?_ hS2 ?_
     ·intro w' hSw
      go_simp
     (try simp only [zA, zB, zC, Act.put, zD, zE, zF])
     refine ob_done (by kernel_rfl) (NoPanic.normal ?_) _

     go_wp2_with fail
     go_ret
     exact ⟨rfl, below_step (below_step HB5.out HD.out HB5.out.size) hS2 (Nat.le_trans HB5.out.size HD.out.size)⟩
    | false =>
     go_wp2_with fail
     refine wp_region_noPanic ?_
     refine region_ob (S := fun w' => Below wo.heap.size wo w') (ob := fun _ => true) (by kernel_rfl) ?_
     have hS0 : Below wo.heap.size wo wo.drew := (Below.refl _ _).drew
     refine tk 0 (.pointer (some ⟨nb, 0, none⟩)) ?_ hS0 ?_
     ·intro w' hSw
      go_simp
     (try simp only [zA, zC, Act.put, zD, zE, zF])
     refine tk 1 (.agg #[.int .i64 r1.frm, .int .i64 r1.to, .int .i64 r1.fin, .slice (some ⟨ps, ofs, none⟩) sn1 sc1, .slice na1 nn1 nc1, .slice ga1 gn1 gc1, .slice za1 zn1 zc1, .slice ha1 hn1 hc1, .bool r1.bare]) ?_ hS0 ?_
     ·intro w' hSw
      have a0 := (hSw.cell (p := ⟨g4, 0, none⟩) hlra).trans a0
      have a1 := (hSw.cell (p := ⟨g4, 1, none⟩) hlra).trans a1
      have a2 := (hSw.cell (p := ⟨g4, 2, none⟩) hlra).trans a2
      have a3 := (hSw.cell (p := ⟨g4, 3, none⟩) hlra).trans a3
      have a4 := (hSw.cell (p := ⟨g4, 4, none⟩) hlra).trans a4
      have a5 := (hSw.cell (p := ⟨g4, 5, none⟩) hlra).trans a5
      have a6 := (hSw.cell (p := ⟨g4, 6, none⟩) hlra).trans a6
      have a7 := (hSw.cell (p := ⟨g4, 7, none⟩) hlra).trans a7
      have a8 := (hSw.cell (p := ⟨g4, 8, none⟩) hlra).trans a8
      go_simp
     (try simp only [zA, zB, zC, Act.put, zD, zE, zF])
     refine tk 2 (.agg #[.int .i64 r2.frm, .int .i64 r2.to, .int .i64 r2.fin, .slice sa2 sn2 sc2, .slice na2 nn2 nc2, .slice ga2 gn2 gc2, .slice za2 zn2 zc2, .slice ha2 hn2 hc2, .bool r2.bare]) ?_ hS0 ?_
     ·intro w' hSw
      have b0 := (hSw.cell (p := ⟨g5, 0, none⟩) hlrb).trans b0
      have b1 := (hSw.cell (p := ⟨g5, 1, none⟩) hlrb).trans b1
      have b2 := (hSw.cell (p := ⟨g5, 2, none⟩) hlrb).trans b2
      have b3 := (hSw.cell (p := ⟨g5, 3, none⟩) hlrb).trans b3
      have b4 := (hSw.cell (p := ⟨g5, 4, none⟩) hlrb).trans b4
      have b5 := (hSw.cell (p := ⟨g5, 5, none⟩) hlrb).trans b5
      have b6 := (hSw.cell (p := ⟨g5, 6, none⟩) hlrb).trans b6
      have b7 := (hSw.cell (p := ⟨g5, 7, none⟩) hlrb).trans b7
      have b8 := (hSw.cell (p := ⟨g5, 8, none⟩) hlrb).trans b8
      go_simp
     (try simp only [zA, zB, zC, Act.put, zD, zE, zF])
     refine tk 5 (.bool false) ?_ hS0 ?_
     ·intro w' hSw
      go_simp
     (try simp only [zA, zB, zC, Act.put, zD, zE, zF])
     refine ob_step (i := 3) (by kernel_rfl) rfl (fun K hK => ?_)
     rw [if_pos (by rfl)]
     go_simp
     refine (HWo.out _ hS0).mono ?_
     rintro e u1 ⟨rfl, hy1⟩
     have hS1 := below_step hS0 hy1 hS0.size
     refine hK _ _ (fun _ => hS1) ?_
     clear hK K
     (try simp only [zA, zB, zC, Act.put, zD, zE, zF])
     refine tk 4 (.bool false) ?_ hS1 ?_
     ·intro w' hSw
      go_simp
     (try simp only [zA, zB, zC, Act.put, zD, zE, zF])
     refine tk 6 (.bool true) ?_ hS1 ?_
     ·intro w' hSw
      go_simp
     (try simp only [zA, zB, zC, Act.put, zD, zE, zF])
     refine tk 7 (.bool true) ?_ hS1 ?_
     ·intro w' hSw
      go_simp
     (try simp only [zA, zB, zC, Act.put, zD, zE, zF])
     refine tk 8 (.agg #[.int .i64 r2.frm, .int .i64 r2.to, .int .i64 r2.fin, .slice sa2 sn2 sc2, .slice na2 nn2 nc2, .slice ga2 gn2 gc2, .slice za2 zn2 zc2, .slice ha2 hn2 hc2, .bool r2.bare]) ?_ hS1 ?_
     ·intro w' hSw
      have b0 := (hSw.cell (p := ⟨g5, 0, none⟩) hlrb).trans b0
      have b1 := (hSw.cell (p := ⟨g5, 1, none⟩) hlrb).trans b1
      have b2 := (hSw.cell (p := ⟨g5, 2, none⟩) hlrb).trans b2
      have b3 := (hSw.cell (p := ⟨g5, 3, none⟩) hlrb).trans b3
      have b4 := (hSw.cell (p := ⟨g5, 4, none⟩) hlrb).trans b4
      have b5 := (hSw.cell (p := ⟨g5, 5, none⟩) hlrb).trans b5
      have b6 := (hSw.cell (p := ⟨g5, 6, none⟩) hlrb).trans b6
      have b7 := (hSw.cell (p := ⟨g5, 7, none⟩) hlrb).trans b7
      have b8 := (hSw.cell (p := ⟨g5, 8, none⟩) hlrb).trans b8
      go_simp
     (try simp only [zA, zB, zC, Act.put, zD, zE, zF])
     refine tk 9 (.pointer (some ⟨g4, 3, none⟩)) ?_ hS1 ?_
     ·intro w' hSw
      go_simp
     (try simp only [zA, zB, zC, Act.put, zD, zE, zF])
     refine tk 10 (.slice (some ⟨ps, ofs, none⟩) sn1 sc1) ?_ hS1 ?_
     ·intro w' hSw
      have a3 := (hSw.cell (p := ⟨g4, 3, none⟩) hlra).trans a3
      go_simp
     (try simp only [zA, zB, zC, Act.put, zD, zE, zF])
     refine tk 11 (.pointer (some ⟨g4, 3, none⟩)) ?_ hS1 ?_
     ·intro w' hSw
      go_simp
     (try simp only [zA, zB, zC, Act.put, zD, zE, zF])
     refine tk 12 (.slice (some ⟨ps, ofs, none⟩) sn1 sc1) ?_ hS1 ?_
     ·intro w' hSw
      have a3 := (hSw.cell (p := ⟨g4, 3, none⟩) hlra).trans a3
      go_simp
     (try simp only [zA, zB, zC, Act.put, zD, zE, zF])
     refine tk 13 (.int .i64 sn1) ?_ hS1 ?_
     ·intro w' hSw
      go_simp
     (try simp only [zA, zB, zC, Act.put, zD, zE, zF])
     refine tk 14 (.int .i64 (m : Int)) ?_ hS1 ?_
     ·intro w' hSw
      go_simp
     (try simp only [zA, zB, zC, Act.put, zD, zE, zF])
     refine tk 15 (.pointer (some ⟨ps, ofs + m * 3, none⟩)) ?_ hS1 ?_
     ·intro w' hSw
      go_simp
     (try simp only [zA, zB, zC, Act.put, zD, zE, zF])
     refine tk 16 (.pointer (some ⟨ps, ofs + m * 3, none⟩)) ?_ hS1 ?_
     ·intro w' hSw
      go_simp
     (try simp only [zA, zB, zC, Act.put, zD, zE, zF])
     refine tk 17 (.int .i64 t.e) ?_ hS1 ?_
     ·intro w' hSw
      have q1 := (hSw.cell (p := ⟨ps, ofs + m * 3, none⟩) hpsl).trans q1
      go_simp
     (try simp only [zA, zB, zC, Act.put, zD, zE, zF])
     refine ob_step (i := 18) (by kernel_rfl) rfl (fun K hK => ?_)
     rw [if_pos (by rfl)]
     go_simp
     refine (HOo.out _ hS1 t.e).mono ?_
     rw [Hnot.out]
     rintro e u2 ⟨rfl, hy2⟩
     have hS2 := below_step hS1 hy2 hS1.size
     refine hK _ _ (fun _ => hS2) ?_
     clear hK K
     (try simp only [zA, zB, zC, Act.put, zD, zE, zF])
     refine tk 19 (.bool true) ?_ hS2 ?_
     ·intro w' hSw
      go_simp
     (try simp only [zA, zB, zC, Act.put, zD, zE, zF])
     refine tk 20 (.bool true) ?_ hS2 ?_
     ·intro w' hSw
      go_simp
     (try simp only [zA, zB, zC, Act.put, zD, zE, zF])
     refine tk 21 (.bool true) ?_ hS2 ?_
     ·intro w' hSw
      go_simp
     (try simp only [zA, zB, zC, Act.put, zD, zE, zF])
     refine ob_done (by kernel_rfl) (NoPanic.normal ?_) _

     go_wp2_with fail
     go_ret
     exact ⟨rfl, below_step (below_step HB5.out HD.out HB5.out.size) hS2 (Nat.le_trans HB5.out.size HD.out.size)⟩
 subst hO
 subst hR
 subst hA
 simp only [Act.put, List.setIfInBounds_toArray, List.set_cons_zero, List.set_cons_succ] at key
 have Key := Lib.hid key
 clear key
 refine ob_some (js := [16, 17]) (by kernel_rfl) (by simp) (fun i hi => ?_)
 simp only [List.mem_cons, List.not_mem_nil, or_false] at hi
 rcases hi with rfl | rfl
 ·refine ⟨_, rfl, fun K hK => ?_⟩
  go_simp
  refine hK _ _ (fun _ => hSall _ (by with_reducible repeat (first | exact Below.refl _ _ | assumption | exact below_new _ _ | apply below_drewN | apply Below.drew | refine below_set (Nat.le_refl _) ?_ _ | (refine below_set ?_ ?_ _; omega) | refine Below.alloc ?_ (by first | omega | (simp; omega) | simp) _))) ?_
  clear hK K
  (try simp only [zA, zB, zC, Act.put, zD, zE, zF])
  refine ob_step (i := 17) (by kernel_rfl) rfl (fun K hK => ?_)
  go_simp
  refine hK _ _ (fun _ => hSall _ (by with_reducible repeat (first | exact Below.refl _ _ | assumption | exact below_new _ _ | apply below_drewN | apply Below.drew | refine below_set (Nat.le_refl _) ?_ _ | (refine below_set ?_ ?_ _; omega) | refine Below.alloc ?_ (by first | omega | (simp; omega) | simp) _))) ?_
  clear hK K
  (try simp only [zA, zB, zC, Act.put, zD, zE, zF])
  refine ob_step (i := 18) (by kernel_rfl) rfl (fun K hK => ?_)
  go_simp
  refine hK _ _ (fun _ => hSall _ (by with_reducible repeat (first | exact Below.refl _ _ | assumption | exact below_new _ _ | apply below_drewN | apply Below.drew | refine below_set (Nat.le_refl _) ?_ _ | (refine below_set ?_ ?_ _; omega) | refine Below.alloc ?_ (by first | omega | (simp; omega) | simp) _))) ?_
  clear hK K
  (try simp only [zA, zB, zC, Act.put, zD, zE, zF])
  refine ob_step (i := 19) (by kernel_rfl) rfl (fun K hK => ?_)
  go_simp
  refine hK _ _ (fun _ => hSall _ (by with_reducible repeat (first | exact Below.refl _ _ | assumption | exact below_new _ _ | apply below_drewN | apply Below.drew | refine below_set (Nat.le_refl _) ?_ _ | (refine below_set ?_ ?_ _; omega) | refine Below.alloc ?_ (by first | omega | (simp; omega) | simp) _))) ?_
  clear hK K
  (try simp only [zA, zB, zC, Act.put, zD, zE, zF])
  refine ob_done (by kernel_rfl) (NoPanic.normal ?_) _
  refine name_world fun w5 hw5 => ?_
  have hp := two_of (w := w3) (A := (.cells #[.int .i64 r1.frm, .int .i64 r1.to, .int .i64 r1.fin, .slice sa1 sn1 sc1, .slice na1 nn1 nc1, .slice ga1 gn1 gc1, .slice za1 zn1 zc1, .slice ha1 hn1 hc1, .bool r1.bare] 38)) (B := (.cells #[.int .i64 r2.frm, .int .i64 r2.to, .int .i64 r2.fin, .slice sa2 sn2 sc2, .slice na2 nn2 nc2, .slice ga2 gn2 gc2, .slice za2 zn2 zc2, .slice ha2 hn2 hc2, .bool r2.bare] 38)) rfl
  exact Key.out w5 (w3.heap.size) (w3.heap.size + 1) (by rw [hw5]; exact hp.2.2.2.drew) (by rw [hw5]; exact hp.1) (by rw [hw5]; exact hp.2.1) (by omega) (by omega)
 ·refine ⟨_, rfl, fun K hK => ?_⟩
  go_simp
  refine hK _ _ (fun _ => hSall _ (by with_reducible repeat (first | exact Below.refl _ _ | assumption | exact below_new _ _ | apply below_drewN | apply Below.drew | refine below_set (Nat.le_refl _) ?_ _ | (refine below_set ?_ ?_ _; omega) | refine Below.alloc ?_ (by first | omega | (simp; omega) | simp) _))) ?_
  clear hK K
  (try simp only [zA, zB, zC, Act.put, zD, zE, zF])
  refine ob_step (i := 16) (by kernel_rfl) rfl (fun K hK => ?_)
  go_simp
  refine hK _ _ (fun _ => hSall _ (by with_reducible repeat (first | exact Below.refl _ _ | assumption | exact below_new _ _ | apply below_drewN | apply Below.drew | refine below_set (Nat.le_refl _) ?_ _ | (refine below_set ?_ ?_ _; omega) | refine Below.alloc ?_ (by first | omega | (simp; omega) | simp) _))) ?_
  clear hK K
  (try simp only [zA, zB, zC, Act.put, zD, zE, zF])
  refine ob_step (i := 18) (by kernel_rfl) rfl (fun K hK => ?_)
  go_simp
  refine hK _ _ (fun _ => hSall _ (by with_reducible repeat (first | exact Below.refl _ _ | assumption | exact below_new _ _ | apply below_drewN | apply Below.drew | refine below_set (Nat.le_refl _) ?_ _ | (refine below_set ?_ ?_ _; omega) | refine Below.alloc ?_ (by first | omega | (simp; omega) | simp) _))) ?_
  clear hK K
  (try simp only [zA, zB, zC, Act.put, zD, zE, zF])
  refine ob_step (i := 19) (by kernel_rfl) rfl (fun K hK => ?_)
  go_simp
  refine hK _ _ (fun _ => hSall _ (by with_reducible repeat (first | exact Below.refl _ _ | assumption | exact below_new _ _ | apply below_drewN | apply Below.drew | refine below_set (Nat.le_refl _) ?_ _ | (refine below_set ?_ ?_ _; omega) | refine Below.alloc ?_ (by first | omega | (simp; omega) | simp) _))) ?_
  clear hK K
  (try simp only [zA, zB, zC, Act.put, zD, zE, zF])
  refine ob_done (by kernel_rfl) (NoPanic.normal ?_) _
  refine name_world fun w5 hw5 => ?_
  have hp := two_of (w := w3) (A := (.cells #[.int .i64 r2.frm, .int .i64 r2.to, .int .i64 r2.fin, .slice sa2 sn2 sc2, .slice na2 nn2 nc2, .slice ga2 gn2 gc2, .slice za2 zn2 zc2, .slice ha2 hn2 hc2, .bool r2.bare] 38)) (B := (.cells #[.int .i64 r1.frm, .int .i64 r1.to, .int .i64 r1.fin, .slice sa1 sn1 sc1, .slice na1 nn1 nc1, .slice ga1 gn1 gc1, .slice za1 zn1 zc1, .slice ha1 hn1 hc1, .bool r1.bare] 38)) rfl
  exact Key.out w5 (w3.heap.size + 1) (w3.heap.size) (by rw [hw5]; exact hp.2.2.2.drew) (by rw [hw5]; exact hp.2.1) (by rw [hw5]; exact hp.1) (by omega) (by omega)
set_option maxRecDepth 100000 in
theorem clashFollow_lifted (os : Os) (started : os.Started) (H : Type) (enc : TypeId × Value → H) :
  ReturnsInHanded {} Try.checked os 8 .any (Rows.clashFollowSpec.pre6 enc Try.prog Try.f8 Rows.clashFollowRow.domain false) (Rows.clashFollowSpec.post enc Try.prog Try.f8 false true false false) := by
 refine returnsInHanded_of_change (C := Try.checked) own started (by kernel_rfl) Try.func8
  (ChangeSpec.witness6 (enc := enc) (C := Try.checked) false ⟨#[], #[.agg #[.slice none 0 0, .slice none 0 0, .slice none 0 0, .slice none 0 0, .int .i64 0, .int .i64 0, .int .i64 0, .int .i64 0, .bool false], .int .u8 0, .int .u8 0], []⟩ 8 (by kernel_rfl) (by kernel_rfl) (by kernel_rfl) (by kernel_rfl)) ?_
 intro W base args ds gs before hval0 hW hcnd _
 have hval : ∀ (j : Nat) t v, Try.f8.params[j]? = some t → args[j]? = some v → Value.okWide Try.prog W .any base t v := hval0
 have hW' := hW
 obtain ⟨p, q, hA0, hV, rfl, hfz, hnd⟩ := hW
 have hA : DataW.TrodAll enc Try.prog W 0 (fun _ => true) true Try.f8.params.toList args.toList ds p := hA0
 rw [Try.params8] at hA hval
 obtain ⟨v0, vs0, d0, ds0, p0, q0, hargs, rfl, rfl, k0, r0⟩ := trodAll_cons hA
 obtain ⟨v1, vs1, d1, ds1, p1, q1, rfl, rfl, rfl, k1, r1⟩ := trodAll_cons r0
 obtain ⟨v2, vs2, d2, ds2, p2, q2, rfl, rfl, rfl, k2, r2⟩ := trodAll_cons r1
 obtain ⟨rfl, rfl, rfl⟩ := trodAll_nil r2
 obtain rfl : args = #[v0, v1, v2] := by cases args; simp_all
 obtain ⟨rfl, rfl⟩ := trodVars_none hV
 have lt0 : ∀ x ∈ p0, x.block < W.heap.size := by obtain ⟨m, hm⟩ := k0; exact DataW.trod_lt m _ _ _ hm
 have hv0 := hval 0 27 v0 rfl rfl
 have lt1 : ∀ x ∈ p1, x.block < W.heap.size := by obtain ⟨m, hm⟩ := k1; exact DataW.trod_lt m _ _ _ hm
 have hv1 := hval 1 5 v1 rfl rfl
 have lt2 : ∀ x ∈ p2, x.block < W.heap.size := by obtain ⟨m, hm⟩ := k2; exact DataW.trod_lt m _ _ _ hm
 have hv2 := hval 2 5 v2 rfl rfl
 have fin : Calls Try.prog 8 #[v0, v1, v2] W (fun e W' => e = .returned (.bool true) ∧ Below W.heap.size W W') := by
  obtain ⟨pv, p, rfl, hp⟩ := open_plan hv0 k0
  obtain ⟨x0, rfl, a0, a1⟩ := open_u8 hv1 k1
  obtain ⟨x1, rfl, b0, b1⟩ := open_u8 hv2 k2
  exact lawFollow_any W pv p x0 x1 a0 a1 b0 b1 hp
 clear hA0 hval0
 refine fin.mono fun e W' ⟨he, bel⟩ => ?_
 subst he
 exact ⟨_, rfl, _, _, _, [], _, [], hW', trodAll_mk1 (shut_bool Try.underlying4 _), (trodAll_cons_mk (Below.trod laidOut (by kernel_rfl) (of_decide_eq_true (by kernel_rfl)) k0 bel lt0) (trodAll_cons_mk (Below.trod laidOut (by kernel_rfl) (of_decide_eq_true (by kernel_rfl)) k1 bel lt1) (trodAll_cons_mk (Below.trod laidOut (by kernel_rfl) (of_decide_eq_true (by kernel_rfl)) k2 bel lt2) trodAll_mk0))), rfl, bel.frame _, fun h => by cases h⟩

/-- THE STATEMENT -/
theorem clashFollow_holds : Rows.ClashFollowSaid :=
 OpenClaim.holds_of_wide 8 Try.f8 rfl rfl rfl rfl rfl rfl rfl ⟨rfl, rfl, rfl, rfl, rfl⟩ rfl rfl rfl rfl rfl (by kernel_rfl) Try.func8 (by kernel_rfl)
  (of_decide_eq_true (by kernel_rfl)) (by unfold Func.isWrapper; first | (rw [if_pos (by decide +kernel)]; kernel_rfl) | (rw [if_neg (by decide +kernel)]; exact ⟨rfl, rfl⟩))
  (fun os started H enc _ => clashFollow_lifted os started H enc)
end Go.Proofs.Ytnkpiijljfjmkaa
