/- What semaphorelaw10 knows of the small plan's roads. No condition. -/
import Derived.Test.YtnkpiijljfjmkaaClashB1
import Derived.Test.YtnkpiijljfjmkaaClashDef
import Derived.Test.YtnkpiijljfjmkaaMade
set_option maxRecDepth 1000000
namespace Go.Proofs.Ytnkpiijljfjmkaa
open Go.ChangeShapes Go.WideShapes Go.ChangeAt Go.RowKit Go.Sort

def smallRoads : List Road := (roadsOf smallPlan).getD []
def smallR (i : Nat) : Road := smallRoads.getD i (road0 0)
theorem small_some : roadsOf smallPlan = some smallRoads := by
 have h : (roadsOf smallPlan).isSome = true := by decide +kernel
 unfold smallRoads
 cases hr : roadsOf smallPlan with
 | none => rw [hr] at h; cases h
 | some l => rfl
theorem small_six : smallRoads.length = 6 := by decide +kernel
theorem small_why : why smallPlan (smallR 0) (smallR 1) = 0 ∧ why smallPlan (smallR 1) (smallR 2) = 1 ∧ why smallPlan (smallR 1) (smallR 4) = 2 ∧ freeR smallPlan [smallR 0, smallR 1] = true ∧ freeR smallPlan smallRoads = false := by
 decide +kernel
theorem one_of {α : Type} {k : Nat} {xs : List α} (h : xs.length = k + 1) : ∃ x l, xs = x :: l ∧ l.length = k := by
 cases xs with
 | nil => cases h
 | cons x l => exact ⟨x, l, rfl, by simpa using h⟩
theorem six_of {α : Type} {xs : List α} (h : xs.length = 6) : ∃ x0 x1 x2 x3 x4 x5, xs = [x0, x1, x2, x3, x4, x5] := by
 obtain ⟨x0, l0, rfl, h0⟩ := one_of (k := 5) h
 obtain ⟨x1, l1, rfl, h1⟩ := one_of (k := 4) h0
 obtain ⟨x2, l2, rfl, h2⟩ := one_of (k := 3) h1
 obtain ⟨x3, l3, rfl, h3⟩ := one_of (k := 2) h2
 obtain ⟨x4, l4, rfl, h4⟩ := one_of (k := 1) h3
 obtain ⟨x5, l5, rfl, h5⟩ := one_of (k := 0) h4
 obtain rfl := List.length_eq_zero_iff.1 h5
 exact ⟨x0, x1, x2, x3, x4, x5, rfl⟩
theorem lite_of {w : World} {v : RV} {r : Road} (h : RoadAt w v r) (hs : Sizes r) : Lite v :=
 ⟨by rw [← h.s.len]; have := hs.s; omega, by rw [← h.n.len]; have := hs.n; omega, by rw [← h.g.len]; have := hs.g; omega, by rw [← h.z.len]; have := hs.z; omega, by rw [← h.h.len]; have := hs.h; omega⟩
theorem known_two {w : World} {o : Oper} {ac : Act} {K : Act → World → Prop} {Q : Exit → Act → World → Prop} (x y : Operand) (ho : o.op = .buildSlice 29 2 #[(0, x), (1, y)]) (a b : RoadV) (ha : ac.eval x = .agg (encRoad a).toArray) (hb : ac.eval y = .agg (encRoad b).toArray)
  (h : K (ac.put o.dst (.slice (some ⟨w.heap.size, 0, none⟩) 2 2)) (w.alloc (.cells (encRoad a ++ encRoad b).toArray 38))) : Oper.wp Try.prog o ac w K Q := by
 obtain ⟨ii, hii, z1, z2, z3⟩ := info_parts info_road
 refine wp_buildSlice 29 38 2 #[(0, x), (1, y)] ho (encRoad a ++ encRoad b).toArray ii _ Try.underlying29 hii z1 (by rw [z2]; decide) (by rw [z2]; decide) ?_ h
 rw [z2]
 have h1 := Great.fill_whole (s := 9) (by decide) [.agg (encRoad a).toArray, .agg (encRoad b).toArray] ((Array.range (2 * 9)).map ((Value.agg #[.int .i64 0, .int .i64 0, .int .i64 0, .slice none 0 0, .slice none 0 0, .slice none 0 0, .slice none 0 0, .slice none 0 0, .bool false]).cells[· % (Value.agg #[.int .i64 0, .int .i64 0, .int .i64 0, .slice none 0 0, .slice none 0 0, .slice none 0 0, .slice none 0 0, .slice none 0 0, .bool false]).cells.size]!))
  (by intro v hv; simp only [List.mem_cons, List.not_mem_nil, or_false] at hv; rcases hv with rfl | rfl <;> simp [Value.cells, encRoad]) (by simp)
 have e1 : (Value.agg (encRoad a).toArray).cells = (encRoad a).toArray := by simp [Value.cells, encRoad]
 have e2 : (Value.agg (encRoad b).toArray).cells = (encRoad b).toArray := by simp [Value.cells, encRoad]
 simpa [ha, hb, e1, e2] using h1
set_option maxHeartbeats 8000000 in
theorem known10_any (w : World) : Calls Try.prog 10 #[] w fun e w' => e = .returned (.bool true) ∧ Below w.heap.size w w' := by
 go_enter Try.func10, Try.ntmps10
 go_wp2_with fail
 refine (small_any _).mono ?_
 rintro e w1 ⟨pv, rfl, hp, hlv, hb1⟩
 obtain ⟨p, hpe⟩ : ∃ p, p = smallPlan := ⟨_, rfl⟩
 have hsome := small_some
 have hwhy := small_why
 have hfine := small_fine
 rw [← hpe] at hp hsome hwhy hfine ⊢
 have HP := Lib.hid hp
 have Hsome := Lib.hid hsome
 have Hfine := Lib.hid hfine
 have Hb1 := Lib.hid hb1
 obtain ⟨y01, y12, y14, yf, yfa⟩ := hwhy
 have Y01 := Lib.hid y01
 have Y12 := Lib.hid y12
 have Y14 := Lib.hid y14
 have Yf := Lib.hid yf
 have Yfa := Lib.hid yfa
 obtain ⟨ae, ne, ce, aj, nj, cj, as_, ns, cs, al, nl, cl, lv⟩ := pv
 clear hpe hp hsome hfine hlv hb1 y01 y12 y14 yf yfa
 dsimp only [PV.val]
 go_wp2_with fail
 refine name_calls fun w2 hw2 => ?_
 have hp2 : w2.heap[w1.heap.size]? = some (.cells #[.slice ae ne ce, .slice aj nj cj, .slice as_ ns cs, .slice al nl cl, .int .i64 p.top, .int .i64 p.brake, .int .i64 p.margin, .int .i64 p.throw, .bool p.hard] 27) := by rw [hw2]; exact heap_alloc_new w1 _
 have hw12 : Below w1.heap.size w1 w2 := by rw [hw2]; exact below_new1 w1 _
 have Hw2 := Lib.hid (below_step Hb1.out hw12 Hb1.out.size)
 have HP2 := Lib.hid (HP.out.below hw12)
 have hpl : w1.heap.size < w2.heap.size := (Array.getElem?_eq_some_iff.1 hp2).1
 have Hp2 := Lib.hid hp2
 have HM := Lib.hid (made_any w2 ⟨ae, ne, ce, aj, nj, cj, as_, ns, cs, al, nl, cl, lv⟩ p Hfine.out HP2.out)
 dsimp only [PV.val] at HM
 clear hw2 hp2 hw12
 refine HM.out.mono ?_
 rintro e w3 ⟨nb, rfl, hnb, hn3, hb3⟩
 have Hw3 := Lib.hid (below_step Hw2.out hb3 Hw2.out.size)
 have hp3 := rbox_keep Hp2.out hb3
 have hpl3 : w1.heap.size < w3.heap.size := Nat.lt_of_lt_of_le hpl hb3.size
 obtain ⟨c0, c1, c2, c3, c4, c5, c6, c7, c8⟩ := nine_of hp3
 have HP3 := Lib.hid (HP2.out.below hb3)
 have HN3 := Lib.hid hn3
 have HB := Lib.hid (build_any w3 ⟨ae, ne, ce, aj, nj, cj, as_, ns, cs, al, nl, cl, lv⟩ p HP3.out (fine_few Hfine.out).1 (fine_few Hfine.out).2)
 dsimp only [PV.val, BuildPost] at HB
 clear HM hn3 hb3 hp3
 go_wp2_with fail
 refine HB.out.mono ?_
 rintro e w4 ⟨hb4, ⟨hno, rfl⟩ | ⟨a, n, cr, xs, hso, hn64, hncr, hRo, hac, rfl⟩⟩
 ·exact absurd (hno.symm.trans Hsome.out) (by simp)
 have hxs : xs.map (·.r) = smallRoads := Option.some.inj (hso.symm.trans Hsome.out)
 have hlen : xs.length = 6 := by rw [← List.length_map (f := fun x : RoadV => x.r), hxs]; exact small_six
 obtain rfl : n = 6 := by rw [← hRo.row.len]; exact hlen
 obtain ⟨x0, x1, x2, x3, x4, x5, rfl⟩ := six_of hlen
 have e0 : x0.r = smallR 0 := by unfold smallR; rw [← hxs]; rfl
 have e1 : x1.r = smallR 1 := by unfold smallR; rw [← hxs]; rfl
 have e2 : x2.r = smallR 2 := by unfold smallR; rw [← hxs]; rfl
 have e4 : x4.r = smallR 4 := by unfold smallR; rw [← hxs]; rfl
 have Hxs := Lib.hid hxs
 have HRo := Lib.hid hRo
 have Hb4 := Lib.hid hb4
 have hli : ∀ x ∈ [x0, x1, x2, x3, x4, x5], Lite x.v := fun x hx => by
  exact lite_of (hRo.each x hx) (roads_sizes (fine_few Hfine.out).2 hso (List.mem_map.2 ⟨x, hx, rfl⟩)).1
 have Hli := Lib.hid hli
 have He0 := Lib.hid e0
 have He1 := Lib.hid e1
 have He2 := Lib.hid e2
 have He4 := Lib.hid e4
 clear hso hlen hxs hRo hb4 hli e0 e1 e2 e4 HB c0 c1 c2 c3 c4 c5 c6 c7 c8
 go_wp2_with fail
 refine name_code fun wk hwk => ?_
 have hk4 : Below w4.heap.size w4 wk := by rw [hwk]; exact below_new1 w4 _
 have hcb : w4.heap.size < wk.heap.size := by rw [hwk]; simp
 have hz9 : wk.cell? ⟨w4.heap.size, 9, none⟩ = some (.slice a 6 cr) := by rw [hwk]; go_simp
 have HK := Lib.hid (below_step (below_step Hw3.out Hb4.out Hw3.out.size) hk4 (Nat.le_trans Hw3.out.size Hb4.out.size))
 have HNk := Lib.hid (HN3.out.below (below_step Hb4.out hk4 Hb4.out.size))
 have hRk := HRo.out.below hk4
 have HRk := Lib.hid hRk
 have a0 := hRk.each x0 (by simp)
 have a1 := hRk.each x1 (by simp)
 have a2 := hRk.each x2 (by simp)
 have a4 := hRk.each x4 (by simp)
 have l0 := Hli.out x0 (by simp)
 have l1 := Hli.out x1 (by simp)
 have l2 := Hli.out x2 (by simp)
 have l4 := Hli.out x4 (by simp)
 have HW01 := Lib.hid (fun (u : World) (hu : Below wk.heap.size wk u) => why_any u nb p (HNk.out.below hu) x0.v x1.v x0.r x1.r (a0.below hu) (a1.below hu) l0 l1)
 have HW12 := Lib.hid (fun (u : World) (hu : Below wk.heap.size wk u) => why_any u nb p (HNk.out.below hu) x1.v x2.v x1.r x2.r (a1.below hu) (a2.below hu) l1 l2)
 have HW14 := Lib.hid (fun (u : World) (hu : Below wk.heap.size wk u) => why_any u nb p (HNk.out.below hu) x1.v x4.v x1.r x4.r (a1.below hu) (a4.below hu) l1 l4)
 have HFa := Lib.hid (fun (u : World) (hu : Below wk.heap.size wk u) => free_any u nb p (HNk.out.below hu) a 6 cr _ (HRk.out.below hu) hncr (by omega) Hli.out)
 rw [Hxs.out, Yfa.out] at HFa
 have HF01 := Lib.hid (fun (u : World) (hu : Below wk.heap.size wk u) => free_any (u.alloc (.cells (encRoad x0 ++ encRoad x1).toArray 38)) nb p (HNk.out.below (hu.alloc hu.size _)) (some ⟨u.heap.size, 0, none⟩) 2 2 [x0, x1]
  ⟨row_block (sz := 9) (enc := encRoad) encRoad_len (by decide) [x0, x1] (heap_alloc_new u _) rfl rfl (by omega), fun x hx => by
   simp only [List.mem_cons, List.not_mem_nil, or_false] at hx
   rcases hx with rfl | rfl
   ·exact a0.below (hu.alloc hu.size _)
   ·exact a1.below (hu.alloc hu.size _)⟩ (Nat.le_refl _) (by omega) (fun x hx => by
   simp only [List.mem_cons, List.not_mem_nil, or_false] at hx
   rcases hx with rfl | rfl
   ·exact l0
   ·exact l1))
 rw [show why p x0.r x1.r = 0 by rw [He0.out, He1.out]; exact Y01.out] at HW01
 rw [show why p x1.r x2.r = 1 by rw [He1.out, He2.out]; exact Y12.out] at HW12
 rw [show why p x1.r x4.r = 2 by rw [He1.out, He4.out]; exact Y14.out] at HW14
 rw [show freeR p ([x0, x1].map (·.r)) = true by rw [show [x0, x1].map (·.r) = [smallR 0, smallR 1] by rw [← He0.out, ← He1.out]; rfl]; exact Yf.out] at HF01
 clear a0 a1 a2 a4 l0 l1 l2 l4 He0 He1 He2 He4 Hxs Hli Y01 Y12 Y14 Yf Yfa hRk hk4 hwk
 obtain ⟨g, off, rfl, hgl, kc0⟩ := HRk.out.row.road (i := 0) rfl
 obtain ⟨g', off', he, _, kc1⟩ := HRk.out.row.road (i := 1) rfl
 cases he
 obtain ⟨g', off', he, _, kc2⟩ := HRk.out.row.road (i := 2) rfl
 cases he
 obtain ⟨g', off', he, _, kc4⟩ := HRk.out.row.road (i := 4) rfl
 cases he
 obtain ⟨⟨sa0, sn0, sc0, na0, nn0, nc0, ga0, gn0, gc0, za0, zn0, zc0, ha0, hn0, hc0⟩, r0⟩ := x0
 obtain ⟨⟨sa1, sn1, sc1, na1, nn1, nc1, ga1, gn1, gc1, za1, zn1, zc1, ha1, hn1, hc1⟩, r1⟩ := x1
 obtain ⟨⟨sa2, sn2, sc2, na2, nn2, nc2, ga2, gn2, gc2, za2, zn2, zc2, ha2, hn2, hc2⟩, r2⟩ := x2
 obtain ⟨⟨sa4, sn4, sc4, na4, nn4, nc4, ga4, gn4, gc4, za4, zn4, zc4, ha4, hn4, hc4⟩, r4⟩ := x4
 dsimp only [RV.val] at HW01 HW12 HW14
 have f0_0 : wk.cell? ⟨g, off, none⟩ = some (.int .i64 r0.frm) := by simpa [Nat.add_assoc] using kc0 0 _ rfl
 have f0_1 : wk.cell? ⟨g, off + 1, none⟩ = some (.int .i64 r0.to) := by simpa [Nat.add_assoc] using kc0 1 _ rfl
 have f0_2 : wk.cell? ⟨g, off + 2, none⟩ = some (.int .i64 r0.fin) := by simpa [Nat.add_assoc] using kc0 2 _ rfl
 have f0_3 : wk.cell? ⟨g, off + 3, none⟩ = some (.slice sa0 sn0 sc0) := by simpa [Nat.add_assoc] using kc0 3 _ rfl
 have f0_4 : wk.cell? ⟨g, off + 4, none⟩ = some (.slice na0 nn0 nc0) := by simpa [Nat.add_assoc] using kc0 4 _ rfl
 have f0_5 : wk.cell? ⟨g, off + 5, none⟩ = some (.slice ga0 gn0 gc0) := by simpa [Nat.add_assoc] using kc0 5 _ rfl
 have f0_6 : wk.cell? ⟨g, off + 6, none⟩ = some (.slice za0 zn0 zc0) := by simpa [Nat.add_assoc] using kc0 6 _ rfl
 have f0_7 : wk.cell? ⟨g, off + 7, none⟩ = some (.slice ha0 hn0 hc0) := by simpa [Nat.add_assoc] using kc0 7 _ rfl
 have f0_8 : wk.cell? ⟨g, off + 8, none⟩ = some (.bool r0.bare) := by simpa [Nat.add_assoc] using kc0 8 _ rfl
 have f1_0 : wk.cell? ⟨g, off + 9, none⟩ = some (.int .i64 r1.frm) := by simpa [Nat.add_assoc] using kc1 0 _ rfl
 have f1_1 : wk.cell? ⟨g, off + 10, none⟩ = some (.int .i64 r1.to) := by simpa [Nat.add_assoc] using kc1 1 _ rfl
 have f1_2 : wk.cell? ⟨g, off + 11, none⟩ = some (.int .i64 r1.fin) := by simpa [Nat.add_assoc] using kc1 2 _ rfl
 have f1_3 : wk.cell? ⟨g, off + 12, none⟩ = some (.slice sa1 sn1 sc1) := by simpa [Nat.add_assoc] using kc1 3 _ rfl
 have f1_4 : wk.cell? ⟨g, off + 13, none⟩ = some (.slice na1 nn1 nc1) := by simpa [Nat.add_assoc] using kc1 4 _ rfl
 have f1_5 : wk.cell? ⟨g, off + 14, none⟩ = some (.slice ga1 gn1 gc1) := by simpa [Nat.add_assoc] using kc1 5 _ rfl
 have f1_6 : wk.cell? ⟨g, off + 15, none⟩ = some (.slice za1 zn1 zc1) := by simpa [Nat.add_assoc] using kc1 6 _ rfl
 have f1_7 : wk.cell? ⟨g, off + 16, none⟩ = some (.slice ha1 hn1 hc1) := by simpa [Nat.add_assoc] using kc1 7 _ rfl
 have f1_8 : wk.cell? ⟨g, off + 17, none⟩ = some (.bool r1.bare) := by simpa [Nat.add_assoc] using kc1 8 _ rfl
 have f2_0 : wk.cell? ⟨g, off + 18, none⟩ = some (.int .i64 r2.frm) := by simpa [Nat.add_assoc] using kc2 0 _ rfl
 have f2_1 : wk.cell? ⟨g, off + 19, none⟩ = some (.int .i64 r2.to) := by simpa [Nat.add_assoc] using kc2 1 _ rfl
 have f2_2 : wk.cell? ⟨g, off + 20, none⟩ = some (.int .i64 r2.fin) := by simpa [Nat.add_assoc] using kc2 2 _ rfl
 have f2_3 : wk.cell? ⟨g, off + 21, none⟩ = some (.slice sa2 sn2 sc2) := by simpa [Nat.add_assoc] using kc2 3 _ rfl
 have f2_4 : wk.cell? ⟨g, off + 22, none⟩ = some (.slice na2 nn2 nc2) := by simpa [Nat.add_assoc] using kc2 4 _ rfl
 have f2_5 : wk.cell? ⟨g, off + 23, none⟩ = some (.slice ga2 gn2 gc2) := by simpa [Nat.add_assoc] using kc2 5 _ rfl
 have f2_6 : wk.cell? ⟨g, off + 24, none⟩ = some (.slice za2 zn2 zc2) := by simpa [Nat.add_assoc] using kc2 6 _ rfl
 have f2_7 : wk.cell? ⟨g, off + 25, none⟩ = some (.slice ha2 hn2 hc2) := by simpa [Nat.add_assoc] using kc2 7 _ rfl
 have f2_8 : wk.cell? ⟨g, off + 26, none⟩ = some (.bool r2.bare) := by simpa [Nat.add_assoc] using kc2 8 _ rfl
 have f4_0 : wk.cell? ⟨g, off + 36, none⟩ = some (.int .i64 r4.frm) := by simpa [Nat.add_assoc] using kc4 0 _ rfl
 have f4_1 : wk.cell? ⟨g, off + 37, none⟩ = some (.int .i64 r4.to) := by simpa [Nat.add_assoc] using kc4 1 _ rfl
 have f4_2 : wk.cell? ⟨g, off + 38, none⟩ = some (.int .i64 r4.fin) := by simpa [Nat.add_assoc] using kc4 2 _ rfl
 have f4_3 : wk.cell? ⟨g, off + 39, none⟩ = some (.slice sa4 sn4 sc4) := by simpa [Nat.add_assoc] using kc4 3 _ rfl
 have f4_4 : wk.cell? ⟨g, off + 40, none⟩ = some (.slice na4 nn4 nc4) := by simpa [Nat.add_assoc] using kc4 4 _ rfl
 have f4_5 : wk.cell? ⟨g, off + 41, none⟩ = some (.slice ga4 gn4 gc4) := by simpa [Nat.add_assoc] using kc4 5 _ rfl
 have f4_6 : wk.cell? ⟨g, off + 42, none⟩ = some (.slice za4 zn4 zc4) := by simpa [Nat.add_assoc] using kc4 6 _ rfl
 have f4_7 : wk.cell? ⟨g, off + 43, none⟩ = some (.slice ha4 hn4 hc4) := by simpa [Nat.add_assoc] using kc4 7 _ rfl
 have f4_8 : wk.cell? ⟨g, off + 44, none⟩ = some (.bool r4.bare) := by simpa [Nat.add_assoc] using kc4 8 _ rfl
 clear kc0 kc1 kc2 kc4 HRk
 refine wp_region_noPanic ?_
 refine region_ob (S := fun w' => Below wk.heap.size wk w') (ob := fun _ => true) (by kernel_rfl) ?_
 have hS0 : Below wk.heap.size wk wk.drew := (Below.refl _ _).drew
 refine tk 0 (.pointer (some ⟨nb, 0, none⟩)) ?_ hS0 ?_
 ·intro w' hSw
  go_simp
 (try simp only [zA, zC, Act.put, zD, zE, zF])
 refine tk 1 (.pointer (some ⟨w4.heap.size, 9, none⟩)) ?_ hS0 ?_
 ·intro w' hSw
  go_simp
 (try simp only [zA, zB, zC, Act.put, zD, zE, zF])
 refine tk 2 (.slice (some ⟨g, off, none⟩) 6 cr) ?_ hS0 ?_
 ·intro w' hSw
  have z := (hSw.cell (p := ⟨w4.heap.size, 9, none⟩) hcb).trans hz9
  go_simp
 (try simp only [zA, zB, zC, Act.put, zD, zE, zF])
 refine tk 3 (.pointer (some ⟨g, off, none⟩)) ?_ hS0 ?_
 ·intro w' hSw
  go_simp
 (try simp only [zA, zB, zC, Act.put, zD, zE, zF])
 refine tk 4 (.agg #[.int .i64 r0.frm, .int .i64 r0.to, .int .i64 r0.fin, .slice sa0 sn0 sc0, .slice na0 nn0 nc0, .slice ga0 gn0 gc0, .slice za0 zn0 zc0, .slice ha0 hn0 hc0, .bool r0.bare]) ?_ hS0 ?_
 ·intro w' hSw
  have f0 := (hSw.cell (p := ⟨g, off, none⟩) hgl).trans f0_0
  have f1 := (hSw.cell (p := ⟨g, off + 1, none⟩) hgl).trans f0_1
  have f2 := (hSw.cell (p := ⟨g, off + 2, none⟩) hgl).trans f0_2
  have f3 := (hSw.cell (p := ⟨g, off + 3, none⟩) hgl).trans f0_3
  have f4 := (hSw.cell (p := ⟨g, off + 4, none⟩) hgl).trans f0_4
  have f5 := (hSw.cell (p := ⟨g, off + 5, none⟩) hgl).trans f0_5
  have f6 := (hSw.cell (p := ⟨g, off + 6, none⟩) hgl).trans f0_6
  have f7 := (hSw.cell (p := ⟨g, off + 7, none⟩) hgl).trans f0_7
  have f8 := (hSw.cell (p := ⟨g, off + 8, none⟩) hgl).trans f0_8
  go_simp
 (try simp only [zA, zB, zC, Act.put, zD, zE, zF])
 refine tk 5 (.pointer (some ⟨w4.heap.size, 9, none⟩)) ?_ hS0 ?_
 ·intro w' hSw
  go_simp
 (try simp only [zA, zB, zC, Act.put, zD, zE, zF])
 refine tk 6 (.slice (some ⟨g, off, none⟩) 6 cr) ?_ hS0 ?_
 ·intro w' hSw
  have z := (hSw.cell (p := ⟨w4.heap.size, 9, none⟩) hcb).trans hz9
  go_simp
 (try simp only [zA, zB, zC, Act.put, zD, zE, zF])
 refine tk 7 (.pointer (some ⟨g, off + 9, none⟩)) ?_ hS0 ?_
 ·intro w' hSw
  go_simp
 (try simp only [zA, zB, zC, Act.put, zD, zE, zF])
 refine tk 8 (.agg #[.int .i64 r1.frm, .int .i64 r1.to, .int .i64 r1.fin, .slice sa1 sn1 sc1, .slice na1 nn1 nc1, .slice ga1 gn1 gc1, .slice za1 zn1 zc1, .slice ha1 hn1 hc1, .bool r1.bare]) ?_ hS0 ?_
 ·intro w' hSw
  have f0 := (hSw.cell (p := ⟨g, off + 9, none⟩) hgl).trans f1_0
  have f1 := (hSw.cell (p := ⟨g, off + 10, none⟩) hgl).trans f1_1
  have f2 := (hSw.cell (p := ⟨g, off + 11, none⟩) hgl).trans f1_2
  have f3 := (hSw.cell (p := ⟨g, off + 12, none⟩) hgl).trans f1_3
  have f4 := (hSw.cell (p := ⟨g, off + 13, none⟩) hgl).trans f1_4
  have f5 := (hSw.cell (p := ⟨g, off + 14, none⟩) hgl).trans f1_5
  have f6 := (hSw.cell (p := ⟨g, off + 15, none⟩) hgl).trans f1_6
  have f7 := (hSw.cell (p := ⟨g, off + 16, none⟩) hgl).trans f1_7
  have f8 := (hSw.cell (p := ⟨g, off + 17, none⟩) hgl).trans f1_8
  go_simp
 (try simp only [zA, zB, zC, Act.put, zD, zE, zF])
 refine ob_step (i := 9) (by kernel_rfl) rfl (fun K hK => ?_)
 rw [if_pos (by rfl)]
 go_simp
 refine (HW01.out _ hS0).mono ?_
 rintro e u1 ⟨rfl, hb1⟩
 have hS1 := below_step hS0 hb1 hS0.size
 refine hK _ _ (fun _ => hS1) ?_
 clear hK K
 (try simp only [zA, zB, zC, Act.put, zD, zE, zF])
 refine tk 10 (.bool true) ?_ hS1 ?_
 ·intro w' hSw
  go_simp
 (try simp only [zA, zB, zC, Act.put, zD, zE, zF])
 refine tk 11 (.bool true) ?_ hS1 ?_
 ·intro w' hSw
  go_simp
 (try simp only [zA, zB, zC, Act.put, zD, zE, zF])
 refine tk 12 (.pointer (some ⟨nb, 0, none⟩)) ?_ hS1 ?_
 ·intro w' hSw
  go_simp
 (try simp only [zA, zB, zC, Act.put, zD, zE, zF])
 refine tk 13 (.pointer (some ⟨w4.heap.size, 9, none⟩)) ?_ hS1 ?_
 ·intro w' hSw
  go_simp
 (try simp only [zA, zB, zC, Act.put, zD, zE, zF])
 refine tk 14 (.slice (some ⟨g, off, none⟩) 6 cr) ?_ hS1 ?_
 ·intro w' hSw
  have z := (hSw.cell (p := ⟨w4.heap.size, 9, none⟩) hcb).trans hz9
  go_simp
 (try simp only [zA, zB, zC, Act.put, zD, zE, zF])
 refine tk 15 (.pointer (some ⟨g, off + 9, none⟩)) ?_ hS1 ?_
 ·intro w' hSw
  go_simp
 (try simp only [zA, zB, zC, Act.put, zD, zE, zF])
 refine tk 16 (.agg #[.int .i64 r1.frm, .int .i64 r1.to, .int .i64 r1.fin, .slice sa1 sn1 sc1, .slice na1 nn1 nc1, .slice ga1 gn1 gc1, .slice za1 zn1 zc1, .slice ha1 hn1 hc1, .bool r1.bare]) ?_ hS1 ?_
 ·intro w' hSw
  have f0 := (hSw.cell (p := ⟨g, off + 9, none⟩) hgl).trans f1_0
  have f1 := (hSw.cell (p := ⟨g, off + 10, none⟩) hgl).trans f1_1
  have f2 := (hSw.cell (p := ⟨g, off + 11, none⟩) hgl).trans f1_2
  have f3 := (hSw.cell (p := ⟨g, off + 12, none⟩) hgl).trans f1_3
  have f4 := (hSw.cell (p := ⟨g, off + 13, none⟩) hgl).trans f1_4
  have f5 := (hSw.cell (p := ⟨g, off + 14, none⟩) hgl).trans f1_5
  have f6 := (hSw.cell (p := ⟨g, off + 15, none⟩) hgl).trans f1_6
  have f7 := (hSw.cell (p := ⟨g, off + 16, none⟩) hgl).trans f1_7
  have f8 := (hSw.cell (p := ⟨g, off + 17, none⟩) hgl).trans f1_8
  go_simp
 (try simp only [zA, zB, zC, Act.put, zD, zE, zF])
 refine tk 17 (.pointer (some ⟨w4.heap.size, 9, none⟩)) ?_ hS1 ?_
 ·intro w' hSw
  go_simp
 (try simp only [zA, zB, zC, Act.put, zD, zE, zF])
 refine tk 18 (.slice (some ⟨g, off, none⟩) 6 cr) ?_ hS1 ?_
 ·intro w' hSw
  have z := (hSw.cell (p := ⟨w4.heap.size, 9, none⟩) hcb).trans hz9
  go_simp
 (try simp only [zA, zB, zC, Act.put, zD, zE, zF])
 refine tk 19 (.pointer (some ⟨g, off + 18, none⟩)) ?_ hS1 ?_
 ·intro w' hSw
  go_simp
 (try simp only [zA, zB, zC, Act.put, zD, zE, zF])
 refine tk 20 (.agg #[.int .i64 r2.frm, .int .i64 r2.to, .int .i64 r2.fin, .slice sa2 sn2 sc2, .slice na2 nn2 nc2, .slice ga2 gn2 gc2, .slice za2 zn2 zc2, .slice ha2 hn2 hc2, .bool r2.bare]) ?_ hS1 ?_
 ·intro w' hSw
  have f0 := (hSw.cell (p := ⟨g, off + 18, none⟩) hgl).trans f2_0
  have f1 := (hSw.cell (p := ⟨g, off + 19, none⟩) hgl).trans f2_1
  have f2 := (hSw.cell (p := ⟨g, off + 20, none⟩) hgl).trans f2_2
  have f3 := (hSw.cell (p := ⟨g, off + 21, none⟩) hgl).trans f2_3
  have f4 := (hSw.cell (p := ⟨g, off + 22, none⟩) hgl).trans f2_4
  have f5 := (hSw.cell (p := ⟨g, off + 23, none⟩) hgl).trans f2_5
  have f6 := (hSw.cell (p := ⟨g, off + 24, none⟩) hgl).trans f2_6
  have f7 := (hSw.cell (p := ⟨g, off + 25, none⟩) hgl).trans f2_7
  have f8 := (hSw.cell (p := ⟨g, off + 26, none⟩) hgl).trans f2_8
  go_simp
 (try simp only [zA, zB, zC, Act.put, zD, zE, zF])
 refine ob_step (i := 21) (by kernel_rfl) rfl (fun K hK => ?_)
 rw [if_pos (by rfl)]
 go_simp
 refine (HW12.out _ hS1).mono ?_
 rintro e u2 ⟨rfl, hb2⟩
 have hS2 := below_step hS1 hb2 hS1.size
 refine hK _ _ (fun _ => hS2) ?_
 clear hK K
 (try simp only [zA, zB, zC, Act.put, zD, zE, zF])
 refine tk 22 (.bool true) ?_ hS2 ?_
 ·intro w' hSw
  go_simp
 (try simp only [zA, zB, zC, Act.put, zD, zE, zF])
 refine tk 23 (.bool true) ?_ hS2 ?_
 ·intro w' hSw
  go_simp
 (try simp only [zA, zB, zC, Act.put, zD, zE, zF])
 refine tk 24 (.bool true) ?_ hS2 ?_
 ·intro w' hSw
  go_simp
 (try simp only [zA, zB, zC, Act.put, zD, zE, zF])
 refine tk 25 (.pointer (some ⟨nb, 0, none⟩)) ?_ hS2 ?_
 ·intro w' hSw
  go_simp
 (try simp only [zA, zB, zC, Act.put, zD, zE, zF])
 refine tk 26 (.pointer (some ⟨w4.heap.size, 9, none⟩)) ?_ hS2 ?_
 ·intro w' hSw
  go_simp
 (try simp only [zA, zB, zC, Act.put, zD, zE, zF])
 refine tk 27 (.slice (some ⟨g, off, none⟩) 6 cr) ?_ hS2 ?_
 ·intro w' hSw
  have z := (hSw.cell (p := ⟨w4.heap.size, 9, none⟩) hcb).trans hz9
  go_simp
 (try simp only [zA, zB, zC, Act.put, zD, zE, zF])
 refine tk 28 (.pointer (some ⟨g, off + 9, none⟩)) ?_ hS2 ?_
 ·intro w' hSw
  go_simp
 (try simp only [zA, zB, zC, Act.put, zD, zE, zF])
 refine tk 29 (.agg #[.int .i64 r1.frm, .int .i64 r1.to, .int .i64 r1.fin, .slice sa1 sn1 sc1, .slice na1 nn1 nc1, .slice ga1 gn1 gc1, .slice za1 zn1 zc1, .slice ha1 hn1 hc1, .bool r1.bare]) ?_ hS2 ?_
 ·intro w' hSw
  have f0 := (hSw.cell (p := ⟨g, off + 9, none⟩) hgl).trans f1_0
  have f1 := (hSw.cell (p := ⟨g, off + 10, none⟩) hgl).trans f1_1
  have f2 := (hSw.cell (p := ⟨g, off + 11, none⟩) hgl).trans f1_2
  have f3 := (hSw.cell (p := ⟨g, off + 12, none⟩) hgl).trans f1_3
  have f4 := (hSw.cell (p := ⟨g, off + 13, none⟩) hgl).trans f1_4
  have f5 := (hSw.cell (p := ⟨g, off + 14, none⟩) hgl).trans f1_5
  have f6 := (hSw.cell (p := ⟨g, off + 15, none⟩) hgl).trans f1_6
  have f7 := (hSw.cell (p := ⟨g, off + 16, none⟩) hgl).trans f1_7
  have f8 := (hSw.cell (p := ⟨g, off + 17, none⟩) hgl).trans f1_8
  go_simp
 (try simp only [zA, zB, zC, Act.put, zD, zE, zF])
 refine tk 30 (.pointer (some ⟨w4.heap.size, 9, none⟩)) ?_ hS2 ?_
 ·intro w' hSw
  go_simp
 (try simp only [zA, zB, zC, Act.put, zD, zE, zF])
 refine tk 31 (.slice (some ⟨g, off, none⟩) 6 cr) ?_ hS2 ?_
 ·intro w' hSw
  have z := (hSw.cell (p := ⟨w4.heap.size, 9, none⟩) hcb).trans hz9
  go_simp
 (try simp only [zA, zB, zC, Act.put, zD, zE, zF])
 refine tk 32 (.pointer (some ⟨g, off + 36, none⟩)) ?_ hS2 ?_
 ·intro w' hSw
  go_simp
 (try simp only [zA, zB, zC, Act.put, zD, zE, zF])
 refine tk 33 (.agg #[.int .i64 r4.frm, .int .i64 r4.to, .int .i64 r4.fin, .slice sa4 sn4 sc4, .slice na4 nn4 nc4, .slice ga4 gn4 gc4, .slice za4 zn4 zc4, .slice ha4 hn4 hc4, .bool r4.bare]) ?_ hS2 ?_
 ·intro w' hSw
  have f0 := (hSw.cell (p := ⟨g, off + 36, none⟩) hgl).trans f4_0
  have f1 := (hSw.cell (p := ⟨g, off + 37, none⟩) hgl).trans f4_1
  have f2 := (hSw.cell (p := ⟨g, off + 38, none⟩) hgl).trans f4_2
  have f3 := (hSw.cell (p := ⟨g, off + 39, none⟩) hgl).trans f4_3
  have f4 := (hSw.cell (p := ⟨g, off + 40, none⟩) hgl).trans f4_4
  have f5 := (hSw.cell (p := ⟨g, off + 41, none⟩) hgl).trans f4_5
  have f6 := (hSw.cell (p := ⟨g, off + 42, none⟩) hgl).trans f4_6
  have f7 := (hSw.cell (p := ⟨g, off + 43, none⟩) hgl).trans f4_7
  have f8 := (hSw.cell (p := ⟨g, off + 44, none⟩) hgl).trans f4_8
  go_simp
 (try simp only [zA, zB, zC, Act.put, zD, zE, zF])
 refine ob_step (i := 34) (by kernel_rfl) rfl (fun K hK => ?_)
 rw [if_pos (by rfl)]
 go_simp
 refine (HW14.out _ hS2).mono ?_
 rintro e u3 ⟨rfl, hb3⟩
 have hS3 := below_step hS2 hb3 hS2.size
 refine hK _ _ (fun _ => hS3) ?_
 clear hK K
 (try simp only [zA, zB, zC, Act.put, zD, zE, zF])
 refine tk 35 (.bool true) ?_ hS3 ?_
 ·intro w' hSw
  go_simp
 (try simp only [zA, zB, zC, Act.put, zD, zE, zF])
 refine tk 36 (.bool true) ?_ hS3 ?_
 ·intro w' hSw
  go_simp
 (try simp only [zA, zB, zC, Act.put, zD, zE, zF])
 refine tk 37 (.bool true) ?_ hS3 ?_
 ·intro w' hSw
  go_simp
 (try simp only [zA, zB, zC, Act.put, zD, zE, zF])
 refine tk 38 (.pointer (some ⟨nb, 0, none⟩)) ?_ hS3 ?_
 ·intro w' hSw
  go_simp
 (try simp only [zA, zB, zC, Act.put, zD, zE, zF])
 refine tk 39 (.pointer (some ⟨w4.heap.size, 9, none⟩)) ?_ hS3 ?_
 ·intro w' hSw
  go_simp
 (try simp only [zA, zB, zC, Act.put, zD, zE, zF])
 refine tk 40 (.slice (some ⟨g, off, none⟩) 6 cr) ?_ hS3 ?_
 ·intro w' hSw
  have z := (hSw.cell (p := ⟨w4.heap.size, 9, none⟩) hcb).trans hz9
  go_simp
 (try simp only [zA, zB, zC, Act.put, zD, zE, zF])
 refine tk 41 (.pointer (some ⟨g, off, none⟩)) ?_ hS3 ?_
 ·intro w' hSw
  go_simp
 (try simp only [zA, zB, zC, Act.put, zD, zE, zF])
 refine tk 42 (.agg #[.int .i64 r0.frm, .int .i64 r0.to, .int .i64 r0.fin, .slice sa0 sn0 sc0, .slice na0 nn0 nc0, .slice ga0 gn0 gc0, .slice za0 zn0 zc0, .slice ha0 hn0 hc0, .bool r0.bare]) ?_ hS3 ?_
 ·intro w' hSw
  have f0 := (hSw.cell (p := ⟨g, off, none⟩) hgl).trans f0_0
  have f1 := (hSw.cell (p := ⟨g, off + 1, none⟩) hgl).trans f0_1
  have f2 := (hSw.cell (p := ⟨g, off + 2, none⟩) hgl).trans f0_2
  have f3 := (hSw.cell (p := ⟨g, off + 3, none⟩) hgl).trans f0_3
  have f4 := (hSw.cell (p := ⟨g, off + 4, none⟩) hgl).trans f0_4
  have f5 := (hSw.cell (p := ⟨g, off + 5, none⟩) hgl).trans f0_5
  have f6 := (hSw.cell (p := ⟨g, off + 6, none⟩) hgl).trans f0_6
  have f7 := (hSw.cell (p := ⟨g, off + 7, none⟩) hgl).trans f0_7
  have f8 := (hSw.cell (p := ⟨g, off + 8, none⟩) hgl).trans f0_8
  go_simp
 (try simp only [zA, zB, zC, Act.put, zD, zE, zF])
 refine tk 43 (.pointer (some ⟨w4.heap.size, 9, none⟩)) ?_ hS3 ?_
 ·intro w' hSw
  go_simp
 (try simp only [zA, zB, zC, Act.put, zD, zE, zF])
 refine tk 44 (.slice (some ⟨g, off, none⟩) 6 cr) ?_ hS3 ?_
 ·intro w' hSw
  have z := (hSw.cell (p := ⟨w4.heap.size, 9, none⟩) hcb).trans hz9
  go_simp
 (try simp only [zA, zB, zC, Act.put, zD, zE, zF])
 refine tk 45 (.pointer (some ⟨g, off + 9, none⟩)) ?_ hS3 ?_
 ·intro w' hSw
  go_simp
 (try simp only [zA, zB, zC, Act.put, zD, zE, zF])
 refine tk 46 (.agg #[.int .i64 r1.frm, .int .i64 r1.to, .int .i64 r1.fin, .slice sa1 sn1 sc1, .slice na1 nn1 nc1, .slice ga1 gn1 gc1, .slice za1 zn1 zc1, .slice ha1 hn1 hc1, .bool r1.bare]) ?_ hS3 ?_
 ·intro w' hSw
  have f0 := (hSw.cell (p := ⟨g, off + 9, none⟩) hgl).trans f1_0
  have f1 := (hSw.cell (p := ⟨g, off + 10, none⟩) hgl).trans f1_1
  have f2 := (hSw.cell (p := ⟨g, off + 11, none⟩) hgl).trans f1_2
  have f3 := (hSw.cell (p := ⟨g, off + 12, none⟩) hgl).trans f1_3
  have f4 := (hSw.cell (p := ⟨g, off + 13, none⟩) hgl).trans f1_4
  have f5 := (hSw.cell (p := ⟨g, off + 14, none⟩) hgl).trans f1_5
  have f6 := (hSw.cell (p := ⟨g, off + 15, none⟩) hgl).trans f1_6
  have f7 := (hSw.cell (p := ⟨g, off + 16, none⟩) hgl).trans f1_7
  have f8 := (hSw.cell (p := ⟨g, off + 17, none⟩) hgl).trans f1_8
  go_simp
 (try simp only [zA, zB, zC, Act.put, zD, zE, zF])
 refine ob_step (i := 47) (by kernel_rfl) rfl (fun K hK => ?_)
 rw [if_pos (by rfl)]
 refine known_two _ _ rfl ⟨⟨sa0, sn0, sc0, na0, nn0, nc0, ga0, gn0, gc0, za0, zn0, zc0, ha0, hn0, hc0⟩, r0⟩ ⟨⟨sa1, sn1, sc1, na1, nn1, nc1, ga1, gn1, gc1, za1, zn1, zc1, ha1, hn1, hc1⟩, r1⟩ (by rfl) (by rfl) ?_
 have hS4 := hS3.alloc hS3.size (.cells (encRoad ⟨⟨sa0, sn0, sc0, na0, nn0, nc0, ga0, gn0, gc0, za0, zn0, zc0, ha0, hn0, hc0⟩, r0⟩ ++ encRoad ⟨⟨sa1, sn1, sc1, na1, nn1, nc1, ga1, gn1, gc1, za1, zn1, zc1, ha1, hn1, hc1⟩, r1⟩).toArray 38)
 refine hK _ _ (fun _ => hS4) ?_
 clear hK K
 (try simp only [zA, zB, zC, Act.put, zD, zE, zF])
 refine ob_step (i := 48) (by kernel_rfl) rfl (fun K hK => ?_)
 rw [if_pos (by rfl)]
 go_simp
 refine (HF01.out _ hS3).mono ?_
 rintro e u5 ⟨rfl, hb5⟩
 have hS5 := below_step hS4 hb5 hS4.size
 refine hK _ _ (fun _ => hS5) ?_
 clear hK K
 (try simp only [zA, zB, zC, Act.put, zD, zE, zF])
 refine tk 49 (.bool true) ?_ hS5 ?_
 ·intro w' hSw
  go_simp
 (try simp only [zA, zB, zC, Act.put, zD, zE, zF])
 refine tk 50 (.bool true) ?_ hS5 ?_
 ·intro w' hSw
  go_simp
 (try simp only [zA, zB, zC, Act.put, zD, zE, zF])
 refine tk 51 (.pointer (some ⟨nb, 0, none⟩)) ?_ hS5 ?_
 ·intro w' hSw
  go_simp
 (try simp only [zA, zB, zC, Act.put, zD, zE, zF])
 refine tk 52 (.pointer (some ⟨w4.heap.size, 9, none⟩)) ?_ hS5 ?_
 ·intro w' hSw
  go_simp
 (try simp only [zA, zB, zC, Act.put, zD, zE, zF])
 refine tk 53 (.slice (some ⟨g, off, none⟩) 6 cr) ?_ hS5 ?_
 ·intro w' hSw
  have z := (hSw.cell (p := ⟨w4.heap.size, 9, none⟩) hcb).trans hz9
  go_simp
 (try simp only [zA, zB, zC, Act.put, zD, zE, zF])
 refine ob_step (i := 54) (by kernel_rfl) rfl (fun K hK => ?_)
 rw [if_pos (by rfl)]
 go_simp
 refine (HFa.out _ hS5).mono ?_
 rintro e u6 ⟨rfl, hb6⟩
 have hS6 := below_step hS5 hb6 hS5.size
 refine hK _ _ (fun _ => hS6) ?_
 clear hK K
 (try simp only [zA, zB, zC, Act.put, zD, zE, zF])
 refine tk 55 (.bool true) ?_ hS6 ?_
 ·intro w' hSw
  go_simp
 (try simp only [zA, zB, zC, Act.put, zD, zE, zF])
 refine tk 56 (.bool true) ?_ hS6 ?_
 ·intro w' hSw
  go_simp
 (try simp only [zA, zB, zC, Act.put, zD, zE, zF])
 refine tk 57 (.bool true) ?_ hS6 ?_
 ·intro w' hSw
  go_simp
 (try simp only [zA, zB, zC, Act.put, zD, zE])
 refine ob_done (by kernel_rfl) (NoPanic.normal ?_) _
 go_wp2_with fail
 go_ret
 exact ⟨rfl, below_step HK.out hS6 HK.out.size⟩
end Go.Proofs.Ytnkpiijljfjmkaa

/- Walk of semaphorelaw7.Light. Condition: the road is read. -/
set_option maxRecDepth 1000000
namespace Go.Proofs.Ytnkpiijljfjmkaa
open Go.ChangeShapes Go.WideShapes Go.ChangeAt Go.RowKit Go.Sort

end Go.Proofs.Ytnkpiijljfjmkaa
