/- ClashAlls: for every input the law returns true. No condition. -/
import Derived.Test.YtnkpiijljfjmkaaClashA1
import Derived.Test.YtnkpiijljfjmkaaClashW1
set_option maxRecDepth 1000000
namespace Go.Proofs.Ytnkpiijljfjmkaa
open Go.ChangeShapes Go.WideShapes Go.ChangeAt Go.RowKit Go.Sort Go.Deep

def encU8 (x : Int) : List Value := [.int .u8 x]
set_option maxRecDepth 100000 in
theorem open_u8s {H : Type} {enc : TypeId × Value → H} {w : World} {v : Value} {d : DataW H} {p : List MemPlace} {r : Reach} {b0 : Nat} (hv : Value.okWide Try.prog w r b0 51 v) (h : DataW.Trod enc Try.prog w 0 (fun _ => true) true 51 v d p) :
  ∃ a n c xs, v = .slice a n c ∧ Row 1 encU8 w a n xs ∧ (∀ x ∈ xs, 0 ≤ x ∧ x ≤ 255) ∧ (a = none → c = 0) ∧ n ≤ c :=
 open_row (sz := 1) (rd := encU8) Try.underlying51 (by kernel_rfl) (by decide) (fun _ => rfl) (fun n cs y hy => by
  obtain ⟨x, rfl, _, hw⟩ := DataW.trod_int Try.underlying5 hy
  exact ⟨x, rfl, by simp [Lit.wf, IntKind.min, IntKind.max, IntKind.signed, IntKind.bits] at hw; omega⟩) hv h
theorem any_swapD {α β : Type} (f : α → β → Bool) (a : List α) (b : List β) : (a.any fun x => b.any fun y => f x y) = (b.any fun y => a.any fun x => f x y) := by
 rw [Bool.eq_iff_iff]
 simp only [List.any_eq_true]
 constructor
 ·rintro ⟨x, hx, y, hy, h⟩; exact ⟨y, hy, x, hx, h⟩
 ·rintro ⟨y, hy, x, hx, h⟩; exact ⟨x, hx, y, hy, h⟩
theorem meets_symmD (a b : List Int) : meets a b = meets b a := by
 rw [Bool.eq_iff_iff]
 simp only [meets, List.any_eq_true, decide_eq_true_eq]
 constructor <;> rintro ⟨x, h1, h2⟩ <;> exact ⟨x, h2, h1⟩
theorem against_symmD (a b : List Need) : against a b = against b a := by
 unfold against
 rw [any_swapD]
 simp only [clashes, eq_comm, ne_comm]
theorem bothWays_symmD (p : Plan) (a b : List Stp) : bothWays p a b = bothWays p b a := by
 unfold bothWays
 rw [any_swapD]
 have key : ∀ x y : Stp, opposed p y x = opposed p x y := by
  intro x y
  rw [Bool.eq_iff_iff]
  simp only [opposed, Bool.and_eq_true, decide_eq_true_eq]
  constructor
  ·rintro ⟨⟨h1, h2⟩, h3⟩; exact ⟨⟨by omega, h2.symm⟩, Ne.symm h3⟩
  ·rintro ⟨⟨h1, h2⟩, h3⟩; exact ⟨⟨by omega, h2.symm⟩, Ne.symm h3⟩
 simp only [key]
theorem why_symmD (p : Plan) (a b : Road) : why p a b = why p b a := by
 unfold why
 rw [meets_symmD a.elems b.elems, meets_symmD a.elems b.zone, meets_symmD a.zone b.elems, against_symmD a.all b.all, bothWays_symmD p a.steps b.steps, Bool.or_comm (meets b.zone a.elems)]
 simp only [eq_comm (a := a.frm)]
theorem freeGo_snoc (p : Plan) (a : Road) : ∀ (l met : List Road), freeGo p met (l ++ [a]) = (freeGo p met l && (met ++ l).all (fun b => decide (why p a b = 0)))
 | [], met => by simp [freeGo]
 | x :: l, met => by
  rw [List.cons_append, freeGo, freeGo, freeGo_snoc p a l (met ++ [x]), Bool.and_assoc, List.append_assoc, List.singleton_append]
theorem freeR_snoc (p : Plan) (l : List Road) (a : Road) : freeR p (l ++ [a]) = (freeR p l && l.all (fun b => decide (why p b a = 0))) := by
 unfold freeR
 rw [freeGo_snoc, List.nil_append]
 simp only [why_symmD p a]
theorem beq_dec (x : Int) : (x == 0) = decide (x = 0) := rfl
set_option maxHeartbeats 32000000 in
theorem lawAlls_any (w : World) (pv : PV) (p : Plan) (h : PlanAt w pv p) (wa : Option Addr) (m wc : Nat) (wh : List Int) (hwh : Row 1 encU8 w wa m wh) (hwr : ∀ x ∈ wh, 0 ≤ x ∧ x ≤ 255) :
  Calls Try.prog 9 #[pv.val p, .slice wa m wc] w fun e w' => e = .returned (.bool true) ∧ Below w.heap.size w w' := by
 have Hwh := Lib.hid hwh
 have Hwr := Lib.hid hwr
 have Hwl := Lib.hid hwh.len
 clear hwh hwr
 have HP := Lib.hid h
 obtain ⟨ae, ne, ce, aj, nj, cj, as_, ns, cs, al, nl, cl, lv⟩ := pv
 clear h
 dsimp only [PV.val]
 go_enter Try.func9, Try.ntmps9
 go_wp2_with fail
 refine name_calls fun W0 hW0 => ?_
 have HpW0 := Lib.hid (show W0.heap[w.heap.size]? = some (.cells #[.slice ae ne ce, .slice aj nj cj, .slice as_ ns cs, .slice al nl cl, .int .i64 p.top, .int .i64 p.brake, .int .i64 p.margin, .int .i64 p.throw, .bool p.hard] 27) by rw [hW0]; exact heap_alloc_new w _)
 have HBW0 := Lib.hid (show Below w.heap.size w W0 by rw [hW0]; exact below_new1 w _)
 clear hW0
 refine (known10_any W0).mono ?_
 rintro e w1 ⟨rfl, hx1⟩
 have Hpw1 := Lib.hid (rbox_keep HpW0.out hx1)
 have HBw1 := Lib.hid (below_step HBW0.out hx1 HBW0.out.size)
 obtain ⟨c0, c1, c2, c3, c4, c5, c6, c7, c8⟩ := nine_of Hpw1.out
 have HRo := Lib.hid (roads10_any w1 ⟨ae, ne, ce, aj, nj, cj, as_, ns, cs, al, nl, cl, lv⟩ p (HP.out.below HBw1.out))
 dsimp only [PV.val, RoadsPost] at HRo
 clear hx1
 go_wp2_with fail
 refine HRo.out.mono ?_
 rintro e w2 ⟨hx2, rfl | ⟨a, n, cr, xs, hf, hso, hn64, hncr, hR, rfl⟩⟩
 ·go_wp2_with fail
  go_ret
  exact ⟨ret_bool (by simp), below_step HBw1.out hx2 HBw1.out.size⟩
 clear c0 c1 c2 c3 c4 c5 c6 c7 c8
 have Hpw2 := Lib.hid (rbox_keep Hpw1.out hx2)
 have HBw2 := Lib.hid (below_step HBw1.out hx2 HBw1.out.size)
 obtain ⟨c0, c1, c2, c3, c4, c5, c6, c7, c8⟩ := nine_of Hpw2.out
 have Hf := Lib.hid hf
 have Hso := Lib.hid hso
 have HR2 := Lib.hid hR
 have Hlen := Lib.hid hR.row.len
 clear hx2 HRo hf hso hR
 by_cases hn0 : n = 0
 ·subst hn0
  go_wp2_with fail
  go_ret
  exact ⟨ret_bool (by simp), HBw2.out⟩
 have hnz : (n : Int) ≠ 0 := by omega
 have dn0' : ((n : Int) == 0) = false := by simp; omega
 by_cases hm12 : 12 < m
 ·have dm : decide ((12 : Int) < (m : Int)) = true := by simp; omega
  go_wp2_with fail
  go_ret
  exact ⟨ret_bool (by simp), HBw2.out⟩
 have dm : decide ((12 : Int) < (m : Int)) = false := by simp; omega
 have dn0 : ((n : Int) == 0) = false := by simp; omega
 have HM := Lib.hid (made_any w2 ⟨ae, ne, ce, aj, nj, cj, as_, ns, cs, al, nl, cl, lv⟩ p Hf.out (HP.out.below HBw2.out))
 dsimp only [PV.val] at HM
 go_wp2_with fail
 refine HM.out.mono ?_
 rintro e w3 ⟨nb, rfl, hnb, hnn, hx3⟩
 clear c0 c1 c2 c3 c4 c5 c6 c7 c8
 have Hpw3 := Lib.hid (rbox_keep Hpw2.out hx3)
 have HBw3 := Lib.hid (below_step HBw2.out hx3 HBw2.out.size)
 obtain ⟨c0, c1, c2, c3, c4, c5, c6, c7, c8⟩ := nine_of Hpw3.out
 have HN3 := Lib.hid hnn
 have HR3 := Lib.hid (HR2.out.below hx3)
 clear hx3 HM hnn hnb
 clear c0 c1 c2 c3 c4 c5 c6 c7 c8
 have Hok := Lib.hid (few_ok HP.out (fine_few Hf.out).1)
 have HLi := Lib.hid (show ∀ x ∈ xs, Lite x.v from fun x hx => lite_of (HR3.out.each x hx) (roads_sizes (fine_few Hf.out).2 Hso.out (List.mem_map.2 ⟨x, hx, rfl⟩)).1)
 go_wp2_with fail
 go_loopg [8, 9, 10] m (fun k s8 s9 s10 wr => ∃ (i : Nat) (ys : List RoadV) (fr : Bool), i + k = m ∧ s10 = .int .i64 i ∧ s9 = .bool fr ∧ Hid (wr.ownsRow w3.heap.size 38 9 s8 i (ys.flatMap encRoad)) ∧ Hid (ys.length = i) ∧ Hid (∀ y ∈ ys, y ∈ xs) ∧ Hid (fr = freeR p (ys.map (·.r))) ∧ Hid (Below w3.heap.size w3 wr))
 case atStart => exact ⟨0, [], true, by omega, rfl, rfl, World.ownsRow_nil _ _ _ _, rfl, (by intro y hy; cases hy), rfl, Below.refl _ _⟩
 case round =>
  obtain ⟨i, ys, fr, hk, rfl, rfl, HO, HL, HI, HFr, HB⟩ := hrel
  obtain ⟨wo, rfl⟩ : ∃ wo : World, wo = wr := ⟨_, rfl⟩
  obtain ⟨ko, rfl⟩ : ∃ ko : Nat, ko = gk := ⟨_, rfl⟩
  have Hk := Lib.hid hk
  clear hk
  obtain ⟨ao, co, rfl, _, hco⟩ := own_slice HO.out
  by_cases hlt : i < m
  ·obtain ⟨u, hu⟩ := get_some Hwl.out hlt
   have hu01 := Hwr.out u (List.mem_of_getElem? hu)
   obtain ⟨bu, ou, hau, hbu, ku⟩ := ((Hwh.out.below HBw3.out).below HB.out).at_ i u hu
   have gu : wo.cell? ⟨bu, ou + i * 1, none⟩ = some (.int .u8 u) := by simpa using ku 0 _ rfl
   rw [Nat.mul_one] at gu
   subst hau
   obtain ⟨ia, hia⟩ : ∃ ia : Nat, Int.tmod u (n : Int) = (ia : Int) := ⟨(Int.tmod u n).toNat, by have := Int.tmod_nonneg (n : Int) hu01.1; omega⟩
   have han : ia < n := by have := Int.tmod_lt_of_pos u (show (0 : Int) < n by omega); omega
   have hwa : IntKind.i64.wrap (ia : Int) = (ia : Int) := IntWalk.i64_in _ (by omega)
   have hwi : IntKind.i64.wrap u = u := IntWalk.i64_in _ (by omega)
   obtain ⟨x, hx⟩ := get_some Hlen.out han
   have Hxm := Lib.hid (List.mem_of_getElem? hx)
   obtain ⟨g, off, rfl, hgl, kc1⟩ := (HR3.out.below HB.out).row.road hx
   obtain ⟨⟨sa1, sn1, sc1, na1, nn1, nc1, ga1, gn1, gc1, za1, zn1, zc1, ha1, hn1, hc1⟩, r1⟩ := x
   have f0 : wo.cell? ⟨g, off + ia * 9, none⟩ = some (.int .i64 r1.frm) := kc1 0 _ rfl
   have f1 : wo.cell? ⟨g, off + ia * 9 + 1, none⟩ = some (.int .i64 r1.to) := kc1 1 _ rfl
   have f2 : wo.cell? ⟨g, off + ia * 9 + 2, none⟩ = some (.int .i64 r1.fin) := kc1 2 _ rfl
   have f3 : wo.cell? ⟨g, off + ia * 9 + 3, none⟩ = some (.slice sa1 sn1 sc1) := kc1 3 _ rfl
   have f4 : wo.cell? ⟨g, off + ia * 9 + 4, none⟩ = some (.slice na1 nn1 nc1) := kc1 4 _ rfl
   have f5 : wo.cell? ⟨g, off + ia * 9 + 5, none⟩ = some (.slice ga1 gn1 gc1) := kc1 5 _ rfl
   have f6 : wo.cell? ⟨g, off + ia * 9 + 6, none⟩ = some (.slice za1 zn1 zc1) := kc1 6 _ rfl
   have f7 : wo.cell? ⟨g, off + ia * 9 + 7, none⟩ = some (.slice ha1 hn1 hc1) := kc1 7 _ rfl
   have f8 : wo.cell? ⟨g, off + ia * 9 + 8, none⟩ = some (.bool r1.bare) := kc1 8 _ rfl
   have hnn : n ≠ 0 := by omega
   clear kc1 hx hu ku
   go_wp2_with fail
   refine name_code fun w4 hw4 => ?_
   have hx4 : w4.heap[wo.heap.size]? = some (.cells #[.int .i64 r1.frm, .int .i64 r1.to, .int .i64 r1.fin, .slice sa1 sn1 sc1, .slice na1 nn1 nc1, .slice ga1 gn1 gc1, .slice za1 zn1 zc1, .slice ha1 hn1 hc1, .bool r1.bare] 38) := by rw [hw4]; exact heap_alloc_new wo _
   have hb4 : Below wo.heap.size wo w4 := by rw [hw4]; exact below_new1 wo _
   have Hx4 := Lib.hid hx4
   have Hb4 := Lib.hid (below_step HB.out hb4 HB.out.size)
   have HO4 := Lib.hid (owns_below HO.out hb4)
   have Hwo := Lib.hid HB.out.size
   clear hw4 hx4 hb4 f0 f1 f2 f3 f4 f5 f6 f7 f8 gu hia hwa hwi
   go_loopg [9, 12] i (fun k s9 s12 wr => ∃ (q : Nat) (sh : Bool), q + k = i ∧ s12 = .int .i64 q ∧ s9 = .bool sh ∧ Hid (sh = (fr && ((ys.map (·.r)).take q).all (fun b => decide (why p b r1 = 0)))) ∧ Hid (Below w4.heap.size w4 wr))
   case atStart => exact ⟨0, fr, by omega, rfl, rfl, Lib.hid (by simp), Below.refl _ _⟩
   case round =>
    obtain ⟨q, sh, hk, rfl, rfl, HS, HD⟩ := hrel
    obtain ⟨wq, rfl⟩ : ∃ wq : World, wq = wr := ⟨_, rfl⟩
    have Hk2 := Lib.hid hk
    clear hk
    have HBd := Lib.hid (below_step Hb4.out HD.out Hb4.out.size)
    have HOq := Lib.hid (owns_below HO4.out HD.out)
    by_cases hqi : q < i
    ·obtain ⟨y, hy⟩ := get_some HL.out hqi
     have hyr : (ys.map (·.r))[q]? = some y.r := by rw [List.getElem?_map, hy]; rfl
     have hnx : (fr && ((ys.map (·.r)).take (q + 1)).all (fun b => decide (why p b r1 = 0))) = (sh && decide (why p y.r r1 = 0)) := by rw [take_snoc_get hyr, List.all_append, HS.out, Bool.and_assoc]; simp
     have Hym := Lib.hid (HI.out y (List.mem_of_getElem? hy))
     obtain ⟨go, oo, rfl, hgo, kc2⟩ := (owns_row encRoad_len HOq.out (by decide)).1.road hy
     obtain ⟨⟨sa2, sn2, sc2, na2, nn2, nc2, ga2, gn2, gc2, za2, zn2, zc2, ha2, hn2, hc2⟩, r2⟩ := y
     have g0 : wq.cell? ⟨go, oo + q * 9, none⟩ = some (.int .i64 r2.frm) := kc2 0 _ rfl
     have g1 : wq.cell? ⟨go, oo + q * 9 + 1, none⟩ = some (.int .i64 r2.to) := kc2 1 _ rfl
     have g2 : wq.cell? ⟨go, oo + q * 9 + 2, none⟩ = some (.int .i64 r2.fin) := kc2 2 _ rfl
     have g3 : wq.cell? ⟨go, oo + q * 9 + 3, none⟩ = some (.slice sa2 sn2 sc2) := kc2 3 _ rfl
     have g4 : wq.cell? ⟨go, oo + q * 9 + 4, none⟩ = some (.slice na2 nn2 nc2) := kc2 4 _ rfl
     have g5 : wq.cell? ⟨go, oo + q * 9 + 5, none⟩ = some (.slice ga2 gn2 gc2) := kc2 5 _ rfl
     have g6 : wq.cell? ⟨go, oo + q * 9 + 6, none⟩ = some (.slice za2 zn2 zc2) := kc2 6 _ rfl
     have g7 : wq.cell? ⟨go, oo + q * 9 + 7, none⟩ = some (.slice ha2 hn2 hc2) := kc2 7 _ rfl
     have g8 : wq.cell? ⟨go, oo + q * 9 + 8, none⟩ = some (.bool r2.bare) := kc2 8 _ rfl
     dsimp only at hnx
     have Hnx := Lib.hid hnx
     clear kc2 hy hyr hnx
     cases sh with
     | false =>
      clear g0 g1 g2 g3 g4 g5 g6 g7 g8
      go_wp2_with fail
      go_quiet (fail)
      go_wp2_with fail
      go_roundg (gk - 1)
      case measure => have := Hk2.out; omega
      case rel => exact ⟨q + 1, false, by have := Hk2.out; omega, by go_num, rfl, by rw [Hnx.out]; rfl, below_drewN HD.out _⟩
     | true =>
      obtain ⟨c0, c1, c2, c3, c4, c5, c6, c7, c8⟩ := nine_of (rbox_keep Hpw3.out HBd.out)
      obtain ⟨a0, a1, a2, a3, a4, a5, a6, a7, a8⟩ := nine_of (rbox_keep Hx4.out HD.out)
      have hlp := Nat.lt_of_lt_of_le (Array.getElem?_eq_some_iff.1 Hpw3.out).1 HBd.out.size
      have hla := Nat.lt_of_lt_of_le (Array.getElem?_eq_some_iff.1 Hx4.out).1 HD.out.size
      have HRW := Lib.hid (fun (u : World) (hu : Below wq.heap.size wq u) => refwhy_any u ⟨ae, ne, ce, aj, nj, cj, as_, ns, cs, al, nl, cl, lv⟩ p ((HP.out.below HBw3.out).below (below_step HBd.out hu HBd.out.size)) Hok.out (fine_few Hf.out).2 ⟨sa2, sn2, sc2, na2, nn2, nc2, ga2, gn2, gc2, za2, zn2, zc2, ha2, hn2, hc2⟩ ⟨sa1, sn1, sc1, na1, nn1, nc1, ga1, gn1, gc1, za1, zn1, zc1, ha1, hn1, hc1⟩ r2 r1 ((HR3.out.each _ Hym.out).below (below_step HBd.out hu HBd.out.size)) ((HR3.out.each _ Hxm.out).below (below_step HBd.out hu HBd.out.size)) (HLi.out _ Hym.out) (HLi.out _ Hxm.out))
      dsimp only [PV.val, RV.val] at HRW
      go_wp2_with fail
      refine wp_region_noPanic ?_
      refine region_ob (S := fun w' => Below wq.heap.size wq w') (ob := fun _ => true) (by kernel_rfl) ?_
      have hS0 : Below wq.heap.size wq wq.drew := (Below.refl _ _).drew
      refine tk 0 (.bool true) ?_ hS0 ?_
      ·intro w' hSw
       go_simp
      (try simp only [zA, zC, Act.put, zD, zE, zF])
      refine tk 1 (.bool true) ?_ hS0 ?_
      ·intro w' hSw
       go_simp
      (try simp only [zA, zB, zC, Act.put, zD, zE, zF])
      refine tk 2 (.agg #[.slice ae ne ce, .slice aj nj cj, .slice as_ ns cs, .slice al nl cl, .int .i64 p.top, .int .i64 p.brake, .int .i64 p.margin, .int .i64 p.throw, .bool p.hard]) ?_ hS0 ?_
      ·intro w' hSw
       have c0 := (hSw.cell (p := ⟨w.heap.size, 0, none⟩) hlp).trans c0
       have c1 := (hSw.cell (p := ⟨w.heap.size, 1, none⟩) hlp).trans c1
       have c2 := (hSw.cell (p := ⟨w.heap.size, 2, none⟩) hlp).trans c2
       have c3 := (hSw.cell (p := ⟨w.heap.size, 3, none⟩) hlp).trans c3
       have c4 := (hSw.cell (p := ⟨w.heap.size, 4, none⟩) hlp).trans c4
       have c5 := (hSw.cell (p := ⟨w.heap.size, 5, none⟩) hlp).trans c5
       have c6 := (hSw.cell (p := ⟨w.heap.size, 6, none⟩) hlp).trans c6
       have c7 := (hSw.cell (p := ⟨w.heap.size, 7, none⟩) hlp).trans c7
       have c8 := (hSw.cell (p := ⟨w.heap.size, 8, none⟩) hlp).trans c8
       go_simp
      (try simp only [zA, zB, zC, Act.put, zD, zE, zF])
      refine tk 3 (.slice (some ⟨go, oo, none⟩) i co) ?_ hS0 ?_
      ·intro w' hSw
       go_simp
      (try simp only [zA, zB, zC, Act.put, zD, zE, zF])
      refine tk 4 (.int .i64 q) ?_ hS0 ?_
      ·intro w' hSw
       go_simp
      (try simp only [zA, zB, zC, Act.put, zD, zE, zF])
      refine tk 5 (.pointer (some ⟨go, oo + q * 9, none⟩)) ?_ hS0 ?_
      ·intro w' hSw
       go_simp
      (try simp only [zA, zB, zC, Act.put, zD, zE, zF])
      refine tk 6 (.agg #[.int .i64 r2.frm, .int .i64 r2.to, .int .i64 r2.fin, .slice sa2 sn2 sc2, .slice na2 nn2 nc2, .slice ga2 gn2 gc2, .slice za2 zn2 zc2, .slice ha2 hn2 hc2, .bool r2.bare]) ?_ hS0 ?_
      ·intro w' hSw
       have g0 := (hSw.cell (p := ⟨go, oo + q * 9, none⟩) hgo).trans g0
       have g1 := (hSw.cell (p := ⟨go, oo + q * 9 + 1, none⟩) hgo).trans g1
       have g2 := (hSw.cell (p := ⟨go, oo + q * 9 + 2, none⟩) hgo).trans g2
       have g3 := (hSw.cell (p := ⟨go, oo + q * 9 + 3, none⟩) hgo).trans g3
       have g4 := (hSw.cell (p := ⟨go, oo + q * 9 + 4, none⟩) hgo).trans g4
       have g5 := (hSw.cell (p := ⟨go, oo + q * 9 + 5, none⟩) hgo).trans g5
       have g6 := (hSw.cell (p := ⟨go, oo + q * 9 + 6, none⟩) hgo).trans g6
       have g7 := (hSw.cell (p := ⟨go, oo + q * 9 + 7, none⟩) hgo).trans g7
       have g8 := (hSw.cell (p := ⟨go, oo + q * 9 + 8, none⟩) hgo).trans g8
       go_simp
      (try simp only [zA, zB, zC, Act.put, zD, zE, zF])
      refine tk 7 (.agg #[.int .i64 r1.frm, .int .i64 r1.to, .int .i64 r1.fin, .slice sa1 sn1 sc1, .slice na1 nn1 nc1, .slice ga1 gn1 gc1, .slice za1 zn1 zc1, .slice ha1 hn1 hc1, .bool r1.bare]) ?_ hS0 ?_
      ·intro w' hSw
       have a0 := (hSw.cell (p := ⟨wo.heap.size, 0, none⟩) hla).trans a0
       have a1 := (hSw.cell (p := ⟨wo.heap.size, 1, none⟩) hla).trans a1
       have a2 := (hSw.cell (p := ⟨wo.heap.size, 2, none⟩) hla).trans a2
       have a3 := (hSw.cell (p := ⟨wo.heap.size, 3, none⟩) hla).trans a3
       have a4 := (hSw.cell (p := ⟨wo.heap.size, 4, none⟩) hla).trans a4
       have a5 := (hSw.cell (p := ⟨wo.heap.size, 5, none⟩) hla).trans a5
       have a6 := (hSw.cell (p := ⟨wo.heap.size, 6, none⟩) hla).trans a6
       have a7 := (hSw.cell (p := ⟨wo.heap.size, 7, none⟩) hla).trans a7
       have a8 := (hSw.cell (p := ⟨wo.heap.size, 8, none⟩) hla).trans a8
       go_simp
      (try simp only [zA, zB, zC, Act.put, zD, zE, zF])
      refine ob_step (i := 8) (by kernel_rfl) rfl (fun K hK => ?_)
      rw [if_pos (by rfl)]
      go_simp
      refine (HRW.out _ hS0).mono ?_
      rintro e u1 ⟨rfl, hy1⟩
      have hS1 := below_step hS0 hy1 hS0.size
      refine hK _ _ (fun _ => hS1) ?_
      clear hK K
      (try simp only [zA, zB, zC, Act.put, zD, zE, zF])
      refine tk 9 (.bool (why p r2 r1 == 0)) ?_ hS1 ?_
      ·intro w' hSw
       go_simp
      (try simp only [zA, zB, zC, Act.put, zD, zE, zF])
      refine tk 10 (.bool (why p r2 r1 == 0)) ?_ hS1 ?_
      ·intro w' hSw
       go_simp
      (try simp only [zA, zB, zC, Act.put, zD, zE, zF])
      refine tk 11 (.bool (why p r2 r1 == 0)) ?_ hS1 ?_
      ·intro w' hSw
       go_simp
      (try simp only [zA, zB, zC, Act.put, zD, zE, zF])
      refine ob_done (by kernel_rfl) (NoPanic.normal ?_) _

      go_wp2_with fail
      go_roundg (gk - 1)
      case measure => have := Hk2.out; omega
      case rel => exact ⟨q + 1, _, by have := Hk2.out; omega, by go_num, rfl, by rw [Hnx.out, Bool.true_and, ← beq_dec]; exact rfl, below_step HD.out hS1 HD.out.size⟩
    ·have hqe : q = i := by have := Hk2.out; omega
     have Hfr2 := Lib.hid (show sh = freeR p ((ys ++ [(⟨⟨sa1, sn1, sc1, na1, nn1, nc1, ga1, gn1, gc1, za1, zn1, zc1, ha1, hn1, hc1⟩, r1⟩ : RoadV)]).map (·.r)) by
      have hml : (ys.map (·.r)).length = i := by rw [List.length_map]; exact HL.out
      rw [HS.out, hqe, ← hml, List.take_length, List.map_append, HFr.out]
      exact (freeR_snoc p (ys.map (·.r)) r1).symm)
     have Hq := Lib.hid hqi
     have d2 : decide ((q : Int) < (i : Int)) = false := by simp; omega
     obtain ⟨a0, a1, a2, a3, a4, a5, a6, a7, a8⟩ := nine_of (rbox_keep Hx4.out HD.out)
     have hla := Nat.lt_of_lt_of_le (Array.getElem?_eq_some_iff.1 Hx4.out).1 HD.out.size
     have hz1 := HBd.out.size
     have Hi2 := Lib.hid (show ∀ y ∈ ys ++ [(⟨⟨sa1, sn1, sc1, na1, nn1, nc1, ga1, gn1, gc1, za1, zn1, zc1, ha1, hn1, hc1⟩, r1⟩ : RoadV)], y ∈ xs from fun y hy => (List.mem_append.1 hy).elim (HI.out y) (fun h => by simp only [List.mem_singleton] at h; rw [h]; exact Hxm.out))
     clear hqe hqi
     go_wp2_with (at_builtin; refine wpList_appB encRoad_len encRoad_one _ rfl _ _ 29 rfl w3.heap.size 38 (.agg #[.int .i64 0, .int .i64 0, .int .i64 0, .slice none 0 0, .slice none 0 0, .slice none 0 0, .slice none 0 0, .slice none 0 0, .bool false]) 152 Try.underlying29 info_road rfl (by decide) _ _ ys rfl (HOq.out.alloc _) (some ⟨wq.heap.size, 0, none⟩) 1 1 [⟨⟨sa1, sn1, sc1, na1, nn1, nc1, ga1, gn1, gc1, za1, zn1, zc1, ha1, hn1, hc1⟩, r1⟩] rfl (row_block (sz := 9) (enc := encRoad) encRoad_len (by decide) [⟨⟨sa1, sn1, sc1, na1, nn1, nc1, ga1, gn1, gc1, za1, zn1, zc1, ha1, hn1, hc1⟩, r1⟩] (heap_alloc_new wq _) rfl rfl (by omega)) (by intro h; cases h) (by simp [maxLen]; omega) (by omega) (by simp; omega) ?_)
     intro v8 w8 ho8 hg8 _
     have HO8 := Lib.hid (show w8.ownsRow w3.heap.size 38 9 v8 (i + 1) ((ys ++ [(⟨⟨sa1, sn1, sc1, na1, nn1, nc1, ga1, gn1, gc1, za1, zn1, zc1, ha1, hn1, hc1⟩, r1⟩ : RoadV)]).flatMap encRoad) by rw [List.flatMap_append]; exact ho8)
     have HB8 := Lib.hid (show Below w3.heap.size w3 w8 from (HBd.out.alloc HBd.out.size _).grown hg8 (by simp; omega) (fun k hk => (HOq.out.lt k hk).1))
     clear ho8 hg8 hz1 a0 a1 a2 a3 a4 a5 a6 a7 a8
     go_wp2_with fail
     go_roundg (ko - 1)
     case measure => have := Hk.out; omega
     case rel => exact ⟨i + 1, _, sh, by have := Hk.out; omega, by go_num, rfl, HO8.out, by rw [List.length_append, HL.out]; rfl, Hi2.out, Hfr2.out, HB8.out⟩
  ·have d1 : decide ((i : Int) < (m : Int)) = false := by simp; omega
   have hi12 : i ≤ 12 := by have := Hk.out; omega
   have HRy := Lib.hid (show Roads wo ao i ys from ⟨(owns_row encRoad_len HO.out (by decide)).1, fun y hy => (HR3.out.each y (HI.out y hy)).below HB.out⟩)
   have HA := Lib.hid (clashall_any wo nb p (HN3.out.below HB.out) ao i co ys HRy.out (by omega) (fun y hy => HLi.out y (HI.out y hy)))
   have HF := Lib.hid (fun (u : World) (hu : Below wo.heap.size wo u) => free_any u nb p (HN3.out.below (below_step HB.out hu HB.out.size)) ao i co ys (HRy.out.below hu) (own_le HO.out) (by omega) (fun y hy => HLi.out y (HI.out y hy)))
   rw [← HFr.out] at HF
   have dff : (fr != fr) = false := by simp
   have Hlt := Lib.hid hlt
   clear hlt
   go_wp2_with fail
   refine HA.out.mono ?_
   rintro e w7 ⟨ma, mn, mc, ms, rfl, hM, hMe, hMb, hb7⟩
   have hmn : i = mn := by
    rw [← hM.len, ← List.length_map (f := fun x : BRow => x.bs), hMb, List.length_map, List.length_map, HL.out]
   subst hmn
   have HM := Lib.hid hM
   have HMe := Lib.hid hMe
   have HMb := Lib.hid hMb
   have HMl := Lib.hid hM.len
   have HF7 := Lib.hid (HF.out w7 hb7)
   have Hb7 := Lib.hid hb7
   clear hM hMe hMb hb7 HF HA
   go_wp2_with fail
   refine HF7.out.mono ?_
   rintro e w8 ⟨rfl, hb8⟩
   have HB8 := Lib.hid (below_step Hb7.out hb8 Hb7.out.size)
   have HM8 := Lib.hid (HM.out.below hb8)
   have HMe8 := Lib.hid (fun x hx => (HMe.out x hx).below hb8)
   clear hb8 HM HF7
   go_wp2_with fail
   clear dff d1
   go_loopg [14] i (fun k s14 wr => ∃ (q : Nat), q + k = i ∧ s14 = .int .i64 q ∧ Hid (Below w8.heap.size w8 wr))
   case atStart => exact ⟨0, by omega, rfl, Below.refl _ _⟩
   case round =>
    obtain ⟨q, hk, rfl, HD⟩ := hrel
    obtain ⟨wq, rfl⟩ : ∃ wq : World, wq = wr := ⟨_, rfl⟩
    obtain ⟨kq, rfl⟩ : ∃ kq : Nat, kq = gk := ⟨_, rfl⟩
    have Hk2 := Lib.hid hk
    clear hk
    by_cases hqi : q < i
    ·obtain ⟨x, hx⟩ := get_some HMl.out hqi
     obtain ⟨y, hy⟩ := get_some HL.out hqi
     have hyr : (ys.map (·.r))[q]? = some y.r := by rw [List.getElem?_map, hy]; rfl
     have hxb : x.bs = shuts p y.r (ys.map (·.r)) := by
      have h1 : (ms.map (·.bs))[q]? = some x.bs := by rw [List.getElem?_map, hx]; rfl
      rw [HMb.out, List.getElem?_map, hyr] at h1
      exact (Option.some.inj h1).symm
     have hxr := HMe8.out x (List.mem_of_getElem? hx)
     have hxn : i = x.n := by
      rw [← hxr.len, hxb]
      unfold shuts
      rw [List.length_map, List.length_map, HL.out]
     have Hym := Lib.hid (HI.out y (List.mem_of_getElem? hy))
     obtain ⟨mb, mo, rfl, hmb, km⟩ := (HM8.out.below HD.out).at_ q x hx
     have gm : wq.cell? ⟨mb, mo + q, none⟩ = some (.slice x.a i x.c) := by
      have h1 := km 0 _ rfl
      rw [← hxn] at h1
      simpa using h1
     obtain ⟨xa, xn, xc, xbs⟩ := x
     dsimp only at hxb hxr hxn gm
     subst hxn
     obtain ⟨⟨sa1, sn1, sc1, na1, nn1, nc1, ga1, gn1, gc1, za1, zn1, zc1, ha1, hn1, hc1⟩, r1⟩ := y
     dsimp only at hxb hyr
     have Hxr := Lib.hid hxr
     have Hxb := Lib.hid hxb
     have Hyq := Lib.hid hy
     have HDw := Lib.hid (below_step HB8.out HD.out HB8.out.size)
     clear km hx hyr hxb hxr hy
     have HGm := Lib.hid gm
     go_wp2_with fail
     clear gm
     go_loopg [15] i (fun k s15 wr => ∃ (z : Nat), z + k = i ∧ s15 = .int .i64 z ∧ Hid (Below wq.heap.size wq wr))
     case atStart => exact ⟨0, by omega, rfl, Below.refl _ _⟩
     case round =>
      obtain ⟨z, hk, rfl, HZ⟩ := hrel
      obtain ⟨wz, rfl⟩ : ∃ wz : World, wz = wr := ⟨_, rfl⟩
      have Hk3 := Lib.hid hk
      clear hk
      have HZo := Lib.hid (below_step HDw.out HZ.out HDw.out.size)
      have HZ3 := Lib.hid (below_step HB.out HZo.out HB.out.size)
      by_cases hzi : z < i
      ·obtain ⟨v, hv⟩ := get_some HL.out hzi
       have Hvm := Lib.hid (HI.out v (List.mem_of_getElem? hv))
       have hvb : xbs[z]? = some (why p r1 v.r != 0) := by
        rw [Hxb.out]; unfold shuts
        rw [List.getElem?_map, List.getElem?_map, hv]; rfl
       obtain ⟨bb, bo, rfl, hbb, kb⟩ := (Hxr.out.below (below_step HD.out HZ.out HD.out.size)).at_ z _ hvb
       have gb : wz.cell? ⟨bb, bo + z, none⟩ = some (.bool (why p r1 v.r != 0)) := by simpa using kb 0 _ rfl
       have gm : wz.cell? ⟨mb, mo + q, none⟩ = some (.slice (some ⟨bb, bo, none⟩) i xc) := (HZ.out.cell (p := ⟨mb, mo + q, none⟩) hmb).trans HGm.out
       have hmb := Nat.lt_of_lt_of_le hmb HZ.out.size
       have HRz := Lib.hid (HRy.out.below HZo.out)
       obtain ⟨go, oo, rfl, hgo, kc1⟩ := HRz.out.row.road Hyq.out
       obtain ⟨go', oo', he, _, kc2⟩ := HRz.out.row.road hv
       cases he
       obtain ⟨⟨sa2, sn2, sc2, na2, nn2, nc2, ga2, gn2, gc2, za2, zn2, zc2, ha2, hn2, hc2⟩, r2⟩ := v
       have f0 : wz.cell? ⟨go, oo + q * 9, none⟩ = some (.int .i64 r1.frm) := kc1 0 _ rfl
       have f1 : wz.cell? ⟨go, oo + q * 9 + 1, none⟩ = some (.int .i64 r1.to) := kc1 1 _ rfl
       have f2 : wz.cell? ⟨go, oo + q * 9 + 2, none⟩ = some (.int .i64 r1.fin) := kc1 2 _ rfl
       have f3 : wz.cell? ⟨go, oo + q * 9 + 3, none⟩ = some (.slice sa1 sn1 sc1) := kc1 3 _ rfl
       have f4 : wz.cell? ⟨go, oo + q * 9 + 4, none⟩ = some (.slice na1 nn1 nc1) := kc1 4 _ rfl
       have f5 : wz.cell? ⟨go, oo + q * 9 + 5, none⟩ = some (.slice ga1 gn1 gc1) := kc1 5 _ rfl
       have f6 : wz.cell? ⟨go, oo + q * 9 + 6, none⟩ = some (.slice za1 zn1 zc1) := kc1 6 _ rfl
       have f7 : wz.cell? ⟨go, oo + q * 9 + 7, none⟩ = some (.slice ha1 hn1 hc1) := kc1 7 _ rfl
       have f8 : wz.cell? ⟨go, oo + q * 9 + 8, none⟩ = some (.bool r1.bare) := kc1 8 _ rfl
       have g0 : wz.cell? ⟨go, oo + z * 9, none⟩ = some (.int .i64 r2.frm) := kc2 0 _ rfl
       have g1 : wz.cell? ⟨go, oo + z * 9 + 1, none⟩ = some (.int .i64 r2.to) := kc2 1 _ rfl
       have g2 : wz.cell? ⟨go, oo + z * 9 + 2, none⟩ = some (.int .i64 r2.fin) := kc2 2 _ rfl
       have g3 : wz.cell? ⟨go, oo + z * 9 + 3, none⟩ = some (.slice sa2 sn2 sc2) := kc2 3 _ rfl
       have g4 : wz.cell? ⟨go, oo + z * 9 + 4, none⟩ = some (.slice na2 nn2 nc2) := kc2 4 _ rfl
       have g5 : wz.cell? ⟨go, oo + z * 9 + 5, none⟩ = some (.slice ga2 gn2 gc2) := kc2 5 _ rfl
       have g6 : wz.cell? ⟨go, oo + z * 9 + 6, none⟩ = some (.slice za2 zn2 zc2) := kc2 6 _ rfl
       have g7 : wz.cell? ⟨go, oo + z * 9 + 7, none⟩ = some (.slice ha2 hn2 hc2) := kc2 7 _ rfl
       have g8 : wz.cell? ⟨go, oo + z * 9 + 8, none⟩ = some (.bool r2.bare) := kc2 8 _ rfl
       obtain ⟨c0, c1, c2, c3, c4, c5, c6, c7, c8⟩ := nine_of (rbox_keep Hpw3.out HZ3.out)
       have hlp := Nat.lt_of_lt_of_le (Array.getElem?_eq_some_iff.1 Hpw3.out).1 HZ3.out.size
       have HRW := Lib.hid (fun (u : World) (hu : Below wz.heap.size wz u) => refwhy_any u ⟨ae, ne, ce, aj, nj, cj, as_, ns, cs, al, nl, cl, lv⟩ p ((HP.out.below HBw3.out).below (below_step HZ3.out hu HZ3.out.size)) Hok.out (fine_few Hf.out).2 ⟨sa1, sn1, sc1, na1, nn1, nc1, ga1, gn1, gc1, za1, zn1, zc1, ha1, hn1, hc1⟩ ⟨sa2, sn2, sc2, na2, nn2, nc2, ga2, gn2, gc2, za2, zn2, zc2, ha2, hn2, hc2⟩ r1 r2 ((HR3.out.each _ Hym.out).below (below_step HZ3.out hu HZ3.out.size)) ((HR3.out.each _ Hvm.out).below (below_step HZ3.out hu HZ3.out.size)) (HLi.out _ Hym.out) (HLi.out _ Hvm.out))
       dsimp only [PV.val, RV.val] at HRW gb
       clear kb kc1 kc2 hv hvb
       go_wp2_with fail
       refine wp_region_noPanic ?_
       refine region_ob (S := fun w' => Below wz.heap.size wz w') (ob := fun _ => true) (by kernel_rfl) ?_
       have hS0 : Below wz.heap.size wz wz.drew := (Below.refl _ _).drew
       refine tk 0 (.slice (some ⟨mb, mo, none⟩) i mc) ?_ hS0 ?_
       ·intro w' hSw
        go_simp
       (try simp only [zA, zC, Act.put, zD, zE, zF])
       refine tk 1 (.int .i64 q) ?_ hS0 ?_
       ·intro w' hSw
        go_simp
       (try simp only [zA, zB, zC, Act.put, zD, zE, zF])
       refine tk 2 (.pointer (some ⟨mb, mo + q, none⟩)) ?_ hS0 ?_
       ·intro w' hSw
        go_simp
       (try simp only [zA, zB, zC, Act.put, zD, zE, zF])
       refine tk 3 (.slice (some ⟨bb, bo, none⟩) i xc) ?_ hS0 ?_
       ·intro w' hSw
        have gm := (hSw.cell (p := ⟨mb, mo + q, none⟩) hmb).trans gm
        go_simp
       (try simp only [zA, zB, zC, Act.put, zD, zE, zF])
       refine tk 4 (.int .i64 z) ?_ hS0 ?_
       ·intro w' hSw
        go_simp
       (try simp only [zA, zB, zC, Act.put, zD, zE, zF])
       refine tk 5 (.pointer (some ⟨bb, bo + z, none⟩)) ?_ hS0 ?_
       ·intro w' hSw
        go_simp
       (try simp only [zA, zB, zC, Act.put, zD, zE, zF])
       refine tk 6 (.bool (why p r1 r2 != 0)) ?_ hS0 ?_
       ·intro w' hSw
        have gb := (hSw.cell (p := ⟨bb, bo + z, none⟩) hbb).trans gb
        go_simp
       (try simp only [zA, zB, zC, Act.put, zD, zE, zF])
       refine tk 7 (.agg #[.slice ae ne ce, .slice aj nj cj, .slice as_ ns cs, .slice al nl cl, .int .i64 p.top, .int .i64 p.brake, .int .i64 p.margin, .int .i64 p.throw, .bool p.hard]) ?_ hS0 ?_
       ·intro w' hSw
        have c0 := (hSw.cell (p := ⟨w.heap.size, 0, none⟩) hlp).trans c0
        have c1 := (hSw.cell (p := ⟨w.heap.size, 1, none⟩) hlp).trans c1
        have c2 := (hSw.cell (p := ⟨w.heap.size, 2, none⟩) hlp).trans c2
        have c3 := (hSw.cell (p := ⟨w.heap.size, 3, none⟩) hlp).trans c3
        have c4 := (hSw.cell (p := ⟨w.heap.size, 4, none⟩) hlp).trans c4
        have c5 := (hSw.cell (p := ⟨w.heap.size, 5, none⟩) hlp).trans c5
        have c6 := (hSw.cell (p := ⟨w.heap.size, 6, none⟩) hlp).trans c6
        have c7 := (hSw.cell (p := ⟨w.heap.size, 7, none⟩) hlp).trans c7
        have c8 := (hSw.cell (p := ⟨w.heap.size, 8, none⟩) hlp).trans c8
        go_simp
       (try simp only [zA, zB, zC, Act.put, zD, zE, zF])
       refine tk 8 (.slice (some ⟨go, oo, none⟩) i co) ?_ hS0 ?_
       ·intro w' hSw
        go_simp
       (try simp only [zA, zB, zC, Act.put, zD, zE, zF])
       refine tk 9 (.int .i64 q) ?_ hS0 ?_
       ·intro w' hSw
        go_simp
       (try simp only [zA, zB, zC, Act.put, zD, zE, zF])
       refine tk 10 (.pointer (some ⟨go, oo + q * 9, none⟩)) ?_ hS0 ?_
       ·intro w' hSw
        go_simp
       (try simp only [zA, zB, zC, Act.put, zD, zE, zF])
       refine tk 11 (.agg #[.int .i64 r1.frm, .int .i64 r1.to, .int .i64 r1.fin, .slice sa1 sn1 sc1, .slice na1 nn1 nc1, .slice ga1 gn1 gc1, .slice za1 zn1 zc1, .slice ha1 hn1 hc1, .bool r1.bare]) ?_ hS0 ?_
       ·intro w' hSw
        have f0 := (hSw.cell (p := ⟨go, oo + q * 9, none⟩) hgo).trans f0
        have f1 := (hSw.cell (p := ⟨go, oo + q * 9 + 1, none⟩) hgo).trans f1
        have f2 := (hSw.cell (p := ⟨go, oo + q * 9 + 2, none⟩) hgo).trans f2
        have f3 := (hSw.cell (p := ⟨go, oo + q * 9 + 3, none⟩) hgo).trans f3
        have f4 := (hSw.cell (p := ⟨go, oo + q * 9 + 4, none⟩) hgo).trans f4
        have f5 := (hSw.cell (p := ⟨go, oo + q * 9 + 5, none⟩) hgo).trans f5
        have f6 := (hSw.cell (p := ⟨go, oo + q * 9 + 6, none⟩) hgo).trans f6
        have f7 := (hSw.cell (p := ⟨go, oo + q * 9 + 7, none⟩) hgo).trans f7
        have f8 := (hSw.cell (p := ⟨go, oo + q * 9 + 8, none⟩) hgo).trans f8
        go_simp
       (try simp only [zA, zB, zC, Act.put, zD, zE, zF])
       refine tk 12 (.slice (some ⟨go, oo, none⟩) i co) ?_ hS0 ?_
       ·intro w' hSw
        go_simp
       (try simp only [zA, zB, zC, Act.put, zD, zE, zF])
       refine tk 13 (.int .i64 z) ?_ hS0 ?_
       ·intro w' hSw
        go_simp
       (try simp only [zA, zB, zC, Act.put, zD, zE, zF])
       refine tk 14 (.pointer (some ⟨go, oo + z * 9, none⟩)) ?_ hS0 ?_
       ·intro w' hSw
        go_simp
       (try simp only [zA, zB, zC, Act.put, zD, zE, zF])
       refine tk 15 (.agg #[.int .i64 r2.frm, .int .i64 r2.to, .int .i64 r2.fin, .slice sa2 sn2 sc2, .slice na2 nn2 nc2, .slice ga2 gn2 gc2, .slice za2 zn2 zc2, .slice ha2 hn2 hc2, .bool r2.bare]) ?_ hS0 ?_
       ·intro w' hSw
        have g0 := (hSw.cell (p := ⟨go, oo + z * 9, none⟩) hgo).trans g0
        have g1 := (hSw.cell (p := ⟨go, oo + z * 9 + 1, none⟩) hgo).trans g1
        have g2 := (hSw.cell (p := ⟨go, oo + z * 9 + 2, none⟩) hgo).trans g2
        have g3 := (hSw.cell (p := ⟨go, oo + z * 9 + 3, none⟩) hgo).trans g3
        have g4 := (hSw.cell (p := ⟨go, oo + z * 9 + 4, none⟩) hgo).trans g4
        have g5 := (hSw.cell (p := ⟨go, oo + z * 9 + 5, none⟩) hgo).trans g5
        have g6 := (hSw.cell (p := ⟨go, oo + z * 9 + 6, none⟩) hgo).trans g6
        have g7 := (hSw.cell (p := ⟨go, oo + z * 9 + 7, none⟩) hgo).trans g7
        have g8 := (hSw.cell (p := ⟨go, oo + z * 9 + 8, none⟩) hgo).trans g8
        go_simp
       (try simp only [zA, zB, zC, Act.put, zD, zE, zF])
       refine ob_step (i := 16) (by kernel_rfl) rfl (fun K hK => ?_)
       rw [if_pos (by rfl)]
       go_simp
       refine (HRW.out _ hS0).mono ?_
       rintro e u1 ⟨rfl, hy1⟩
       have hS1 := below_step hS0 hy1 hS0.size
       refine hK _ _ (fun _ => hS1) ?_
       clear hK K
       (try simp only [zA, zB, zC, Act.put, zD, zE, zF])
       refine tk 17 (.bool (why p r1 r2 != 0)) ?_ hS1 ?_
       ·intro w' hSw
        go_simp
       (try simp only [zA, zB, zC, Act.put, zD, zE, zF])
       refine tk 18 (.bool false) ?_ hS1 ?_
       ·intro w' hSw
        go_simp
       (try simp only [zA, zB, zC, Act.put, zD, zE, zF])
       refine ob_done (by kernel_rfl) (NoPanic.normal ?_) _

       go_wp2_with fail
       go_roundg (gk - 1)
       case measure => have := Hk3.out; omega
       case rel => exact ⟨z + 1, by have := Hk3.out; omega, by go_num, below_step HZ.out hS1 HZ.out.size⟩
      ·have d2 : decide ((z : Int) < (i : Int)) = false := by simp; omega
       have Hzi := Lib.hid hzi
       clear hzi
       go_wp2_with fail
       go_roundg (kq - 1)
       case measure => have := Hk2.out; omega
       case rel => exact ⟨q + 1, by have := Hk2.out; omega, by go_num, below_step HD.out HZ.out HD.out.size⟩
    ·have d2 : decide ((q : Int) < (i : Int)) = false := by simp; omega
     have Hqi := Lib.hid hqi
     clear hqi
     go_wp2_with fail
     go_ret
     exact ⟨rfl, below_step HBw3.out (below_step HB.out (below_step HB8.out HD.out HB8.out.size) HB.out.size) HBw3.out.size⟩
set_option maxRecDepth 100000 in
theorem clashAlls_lifted (os : Os) (started : os.Started) (H : Type) (enc : TypeId × Value → H) :
  ReturnsInHanded {} Try.checked os 9 .any (Rows.clashAllsSpec.pre6 enc Try.prog Try.f9 Rows.clashAllsRow.domain false) (Rows.clashAllsSpec.post enc Try.prog Try.f9 false true false false) := by
 refine returnsInHanded_of_change (C := Try.checked) own started (by kernel_rfl) Try.func9
  (ChangeSpec.witness6 (enc := enc) (C := Try.checked) false ⟨#[], #[.agg #[.slice none 0 0, .slice none 0 0, .slice none 0 0, .slice none 0 0, .int .i64 0, .int .i64 0, .int .i64 0, .int .i64 0, .bool false], .slice none 0 0], []⟩ 8 (by kernel_rfl) (by kernel_rfl) (by kernel_rfl) (by kernel_rfl)) ?_
 intro W base args ds gs before hval0 hW hcnd _
 have hval : ∀ (j : Nat) t v, Try.f9.params[j]? = some t → args[j]? = some v → Value.okWide Try.prog W .any base t v := hval0
 have hW' := hW
 obtain ⟨p, q, hA0, hV, rfl, hfz, hnd⟩ := hW
 have hA : DataW.TrodAll enc Try.prog W 0 (fun _ => true) true Try.f9.params.toList args.toList ds p := hA0
 rw [Try.params9] at hA hval
 obtain ⟨v0, vs0, d0, ds0, p0, q0, hargs, rfl, rfl, k0, r0⟩ := trodAll_cons hA
 obtain ⟨v1, vs1, d1, ds1, p1, q1, rfl, rfl, rfl, k1, r1⟩ := trodAll_cons r0
 obtain ⟨rfl, rfl, rfl⟩ := trodAll_nil r1
 obtain rfl : args = #[v0, v1] := by cases args; simp_all
 obtain ⟨rfl, rfl⟩ := trodVars_none hV
 have lt0 : ∀ x ∈ p0, x.block < W.heap.size := by obtain ⟨m, hm⟩ := k0; exact DataW.trod_lt m _ _ _ hm
 have hv0 := hval 0 27 v0 rfl rfl
 have lt1 : ∀ x ∈ p1, x.block < W.heap.size := by obtain ⟨m, hm⟩ := k1; exact DataW.trod_lt m _ _ _ hm
 have hv1 := hval 1 51 v1 rfl rfl
 have fin : Calls Try.prog 9 #[v0, v1] W (fun e W' => e = .returned (.bool true) ∧ Below W.heap.size W W') := by
  obtain ⟨pv, p, rfl, hp⟩ := open_plan hv0 k0
  obtain ⟨wa, m, wc, wh, rfl, hwh, hwr, _, _⟩ := open_u8s hv1 k1
  exact lawAlls_any W pv p hp wa m wc wh hwh hwr
 clear hA0 hval0
 refine fin.mono fun e W' ⟨he, bel⟩ => ?_
 subst he
 exact ⟨_, rfl, _, _, _, [], _, [], hW', trodAll_mk1 (shut_bool Try.underlying4 _), (trodAll_cons_mk (Below.trod laidOut (by kernel_rfl) (of_decide_eq_true (by kernel_rfl)) k0 bel lt0) (trodAll_cons_mk (Below.trod laidOut (by kernel_rfl) (of_decide_eq_true (by kernel_rfl)) k1 bel lt1) trodAll_mk0)), rfl, bel.frame _, fun h => by cases h⟩

/-- THE STATEMENT -/
theorem clashAlls_holds : Rows.ClashAllsSaid :=
 OpenClaim.holds_of_wide 9 Try.f9 rfl rfl rfl rfl rfl rfl rfl ⟨rfl, rfl, rfl, rfl, rfl⟩ rfl rfl rfl rfl rfl (by kernel_rfl) Try.func9 (by kernel_rfl)
  (of_decide_eq_true (by kernel_rfl)) (by unfold Func.isWrapper; first | (rw [if_pos (by decide +kernel)]; kernel_rfl) | (rw [if_neg (by decide +kernel)]; exact ⟨rfl, rfl⟩))
  (fun os started H enc _ => clashAlls_lifted os started H enc)
end Go.Proofs.Ytnkpiijljfjmkaa
