/- Walks of road.Elems and of semaphoreref12's Elems, Own, meets, against, all. Condition: the road is read. -/
import Derived.Test.YtnkpiijljfjmkaaClashAt
import Derived.Test.YtnkpiijljfjmkaaNetM1
import Derived.Test.YtnkpiijljfjmkaaUptoMap
import Derived.Lib.QuietBelow
import Derived.Test.YtnkpiijljfjmkaaMade
set_option maxRecDepth 1000000
namespace Go.Proofs.Ytnkpiijljfjmkaa
open Go.ChangeShapes Go.WideShapes Go.ChangeAt Go.RowKit Go.Sort

theorem info_intC : (Try.prog.info? 3).map (fun i => (i.zero, i.size, i.bytes)) = some (some (.int .i64 0), 1, 8) := by kernel_rfl
theorem below_new1 (w : World) (o : Obj) : Below w.heap.size w (w.alloc o) := (Below.refl _ _).alloc (Nat.le_refl _) _
theorem rbox_new (w : World) (v : RV) (r : Road) : RBox (w.alloc (.cells (v.cells r) 38)) w.heap.size v r := RBox.mk' w v r _
/-- a row of numbers that the call made, or nil -/
def IntsPost (w : World) (l : List Int) (e : Ending) (w' : World) : Prop := ∃ a n c, e = .returned (.slice a n c) ∧ Ints w' a n l ∧ (a = none → c = 0) ∧ Below w.heap.size w w'
theorem take_elems {l : List Stp} {j : Nat} {y : Stp} (h : l[j]? = some y) : (l.take (j + 1)).map (·.e) = (l.take j).map (·.e) ++ [y.e] := by
 rw [List.take_add_one, h]; simp
theorem take_all {α : Type} {l : List α} {n j : Nat} (h : l.length = n) (hj : n ≤ j) : l.take j = l := List.take_of_length_le (by omega)
set_option maxHeartbeats 1000000 in
theorem elems_any (w : World) (rv : RV) (r : Road) (h : RoadAt w rv r) (hl : rv.sn ≤ 100) : Calls Try.prog 26 #[rv.val r] w (IntsPost w r.elems) := by
 obtain ⟨sa, sn, sc, na, nn, nc, ga, gn, gc, za, zn, zc, ha, hn, hc⟩ := rv
 dsimp only at hl
 have hs : Stps w sa sn r.steps := h.s
 have Hs := Lib.hid hs
 have hlen : r.steps.length = sn := hs.len
 have Hlen := Lib.hid hlen
 obtain ⟨W0, hW0⟩ : ∃ W0, W0 = w.alloc (.cells #[.int .i64 r.frm, .int .i64 r.to, .int .i64 r.fin, .slice sa sn sc, .slice na nn nc, .slice ga gn gc, .slice za zn zc, .slice ha hn hc, .bool r.bare] 38) := ⟨_, rfl⟩
 have HR := Lib.hid (show RBox W0 w.heap.size ⟨sa, sn, sc, na, nn, nc, ga, gn, gc, za, zn, zc, ha, hn, hc⟩ r by rw [hW0]; exact rbox_new w ⟨sa, sn, sc, na, nn, nc, ga, gn, gc, za, zn, zc, ha, hn, hc⟩ r)
 have Hb0 := Lib.hid (show Below w.heap.size w W0 by rw [hW0]; exact below_new1 w _)
 have hz0 : W0.heap.size = w.heap.size + 1 := by rw [hW0]; simp
 have Hz0 := Lib.hid hz0
 obtain ⟨ii, hii, zi1, zi2, zi3⟩ := info_parts info_intC
 clear h hs hlen
 dsimp only [RV.val]
 obtain ⟨hrl, q0, q1, q2, q3, q4, q5, q6, q7, q8⟩ := HR.out
 dsimp only at q0 q1 q2 q3 q4 q5 q6 q7 q8
 go_enter Try.func26, Try.ntmps26
 go_wp2_with fail
 rw [← hW0]
 clear hW0
 go_wp2_with fail
 go_loopg [3, 9] sn (fun k s3 s9 wr => ∃ (j : Nat), j + k = sn ∧ s9 = .int .i64 j ∧ Hid (OwnI wr W0.heap.size s3 j ((r.steps.take j).map (·.e))) ∧ Hid (Below W0.heap.size W0 wr))
 case atStart => exact ⟨0, by omega, rfl, World.ownsRow_nil _ _ _ _, Below.refl _ _⟩
 case round =>
  obtain ⟨j, hk, rfl, Own, Hb⟩ := hrel
  have Hk := Lib.hid hk; clear hk
  obtain ⟨a1, c1, rfl, _, hc1⟩ := own_slice Own.out
  by_cases hlt : j < sn
  ·obtain ⟨y, hy⟩ := get_some Hlen.out hlt
   obtain ⟨pb, off, rfl, hpb, g1, g2, g3⟩ := (Hs.out.below (below_step Hb0.out Hb.out Hb0.out.size)).stp hy
   have Hn := Lib.hid (take_elems hy)
   clear hy
   have Hz := Lib.hid Hb.out.size
   have hz := Hb.out.size
   go_wp2_with (at_builtin; refine wpList_append_own _ rfl _ _ 36 rfl W0.heap.size 3 ii (.int .i64 0) 1 8 Try.underlying36 hii zi1 zi2 zi3 rfl (by decide) _ _ _ rfl ((Own.out.alloc _).alloc _) ⟨wr.heap.size + 1, 0, none⟩ 1 1 [.int .i64 y.e] rfl rfl (by simpa using cell_one_new (wr.alloc (.cells #[.int .i64 y.e, .int .i64 y.i, .int .i64 y.o] 47)) (.int .i64 y.e) 3) (one_int _ _) (by simp [maxLen]; omega) (by omega) (by simp; omega) ?_)
   intro v3 w3 hown3 hgrow3 _
   have Hb3 := Lib.hid (grown_below ((Hb.out.alloc Hb.out.size (.cells #[.int .i64 y.e, .int .i64 y.i, .int .i64 y.o] 47)).alloc (by simp; omega) (.cells #[.int .i64 y.e] 3)) ((Own.out.alloc (.cells #[.int .i64 y.e, .int .i64 y.i, .int .i64 y.o] 47)).alloc (.cells #[.int .i64 y.e] 3)) (Nat.le_refl _) (by simp; omega) hgrow3)
   have Own3 := Lib.hid (show OwnI w3 W0.heap.size v3 (j + 1) ((r.steps.take (j + 1)).map (·.e)) by rw [Hz0.out, Hn.out]; simpa [OwnI, List.map_take] using hown3)
   clear hown3 hgrow3 hz g1 g2 g3
   go_wp2_with fail
   go_roundg (gk - 1)
   case measure => have := Hk.out; omega
   case rel => exact ⟨j + 1, by have := Hk.out; omega, by go_num, Own3.out, Hb3.out⟩
  ·go_wp2_with fail
   go_ret
   refine ⟨a1, j, c1, rfl, ?_, fun h => (hc1 h).2, below_step Hb0.out Hb.out Hb0.out.size⟩
   have := (own_ints Own.out).1
   rw [take_all Hlen.out (by omega)] at this
   exact this

theorem elems_l {w : World} {sa na ga za ha : Option Addr} {sn sc nn nc gn gc zn zc hn hc : Nat} {r : Road} (h : RoadAt w ⟨sa, sn, sc, na, nn, nc, ga, gn, gc, za, zn, zc, ha, hn, hc⟩ r) (hl : sn ≤ 100) : Calls Try.prog 26 #[(.agg #[.int .i64 r.frm, .int .i64 r.to, .int .i64 r.fin, .slice sa sn sc, .slice na nn nc, .slice ga gn gc, .slice za zn zc, .slice ha hn hc, .bool r.bare])] w (IntsPost w r.elems) := elems_any w ⟨sa, sn, sc, na, nn, nc, ga, gn, gc, za, zn, zc, ha, hn, hc⟩ r h hl
set_option maxHeartbeats 1000000 in
theorem refelems_s (w : World) (rv : RV) (r : Road) (h : Stps w rv.sa rv.sn r.steps) (hl : rv.sn ≤ 100) : Calls Try.prog 32 #[rv.val r] w (IntsPost w r.elems) := by
 obtain ⟨sa, sn, sc, na, nn, nc, ga, gn, gc, za, zn, zc, ha, hn, hc⟩ := rv
 dsimp only at hl
 have hs : Stps w sa sn r.steps := h
 have Hs := Lib.hid hs
 have hlen : r.steps.length = sn := hs.len
 have Hlen := Lib.hid hlen
 obtain ⟨W0, hW0⟩ : ∃ W0, W0 = w.alloc (.cells #[.int .i64 r.frm, .int .i64 r.to, .int .i64 r.fin, .slice sa sn sc, .slice na nn nc, .slice ga gn gc, .slice za zn zc, .slice ha hn hc, .bool r.bare] 38) := ⟨_, rfl⟩
 have HR := Lib.hid (show RBox W0 w.heap.size ⟨sa, sn, sc, na, nn, nc, ga, gn, gc, za, zn, zc, ha, hn, hc⟩ r by rw [hW0]; exact rbox_new w ⟨sa, sn, sc, na, nn, nc, ga, gn, gc, za, zn, zc, ha, hn, hc⟩ r)
 have Hb0 := Lib.hid (show Below w.heap.size w W0 by rw [hW0]; exact below_new1 w _)
 have hz0 : W0.heap.size = w.heap.size + 1 := by rw [hW0]; simp
 have Hz0 := Lib.hid hz0
 obtain ⟨ii, hii, zi1, zi2, zi3⟩ := info_parts info_intC
 clear h hs hlen
 dsimp only [RV.val]
 go_enter Try.func32, Try.ntmps32
 go_wp2_with fail
 rw [← hW0]
 clear hW0
 go_loopg [3, 4] sn (fun k s3 s4 wr => ∃ (j : Nat), j + k = sn ∧ s4 = .int .i64 j ∧ Hid (OwnI wr W0.heap.size s3 j ((r.steps.take j).map (·.e))) ∧ Hid (Below W0.heap.size W0 wr))
 case atStart => exact ⟨0, by omega, rfl, World.ownsRow_nil _ _ _ _, Below.refl _ _⟩
 case round =>
  obtain ⟨j, hk, rfl, Own, Hb⟩ := hrel
  have Hk := Lib.hid hk; clear hk
  obtain ⟨a1, c1, rfl, _, hc1⟩ := own_slice Own.out
  have q3 := (HR.out.below Hb.out).c3
  have hrl := (HR.out.below Hb.out).lt
  dsimp only at q3
  by_cases hlt : j < sn
  ·obtain ⟨y, hy⟩ := get_some Hlen.out hlt
   obtain ⟨pb, off, rfl, hpb, g1, g2, g3⟩ := (Hs.out.below (below_step Hb0.out Hb.out Hb0.out.size)).stp hy
   have Hn := Lib.hid (take_elems hy)
   have hz := Hb.out.size
   clear hy
   go_wp2_with (at_builtin; refine wpList_append_own _ rfl _ _ 36 rfl W0.heap.size 3 ii (.int .i64 0) 1 8 Try.underlying36 hii zi1 zi2 zi3 rfl (by decide) _ _ _ rfl (Own.out.alloc _) ⟨wr.heap.size, 0, none⟩ 1 1 [.int .i64 y.e] rfl rfl (cell_one_new _ _ _) (one_int _ _) (by simp [maxLen]; omega) (by omega) (by simp; omega) ?_)
   intro v3 w3 hown3 hgrow3 _
   have Hb3 := Lib.hid (grown_below (Hb.out.alloc Hb.out.size (.cells #[.int .i64 y.e] 3)) (Own.out.alloc (.cells #[.int .i64 y.e] 3)) (Nat.le_refl _) (by simp; omega) hgrow3)
   have Own3 := Lib.hid (show OwnI w3 W0.heap.size v3 (j + 1) ((r.steps.take (j + 1)).map (·.e)) by rw [Hz0.out, Hn.out]; simpa [OwnI, List.map_take] using hown3)
   clear hown3 hgrow3 hz g1 g2 g3 q3
   go_wp2_with fail
   go_roundg (gk - 1)
   case measure => have := Hk.out; omega
   case rel => exact ⟨j + 1, by have := Hk.out; omega, by go_num, Own3.out, Hb3.out⟩
  ·go_wp2_with fail
   go_ret
   refine ⟨a1, j, c1, rfl, ?_, fun h => (hc1 h).2, below_step Hb0.out Hb.out Hb0.out.size⟩
   have := (own_ints Own.out).1
   rw [take_all Hlen.out (by omega)] at this
   exact this
theorem refelems_any (w : World) (rv : RV) (r : Road) (h : RoadAt w rv r) (hl : rv.sn ≤ 100) : Calls Try.prog 32 #[rv.val r] w (IntsPost w r.elems) := refelems_s w rv r h.s hl
theorem refelems_l {w : World} {sa na ga za ha : Option Addr} {sn sc nn nc gn gc zn zc hn hc : Nat} {r : Road} (h : RoadAt w ⟨sa, sn, sc, na, nn, nc, ga, gn, gc, za, zn, zc, ha, hn, hc⟩ r) (hl : sn ≤ 100) : Calls Try.prog 32 #[(.agg #[.int .i64 r.frm, .int .i64 r.to, .int .i64 r.fin, .slice sa sn sc, .slice na nn nc, .slice ga gn gc, .slice za zn zc, .slice ha hn hc, .bool r.bare])] w (IntsPost w r.elems) := refelems_any w ⟨sa, sn, sc, na, nn, nc, ga, gn, gc, za, zn, zc, ha, hn, hc⟩ r h hl
theorem own_s (w : World) (rv : RV) (r : Road) (h : Stps w rv.sa rv.sn r.steps) (hl : rv.sn ≤ 100) (e : Int) : Calls Try.prog 18 #[rv.val r, .int .i64 e] w fun en w' => en = .returned (.bool (memB e r.elems)) ∧ Below w.heap.size w w' := by
 obtain ⟨sa, sn, sc, na, nn, nc, ga, gn, gc, za, zn, zc, ha, hn, hc⟩ := rv
 dsimp only at hl
 obtain ⟨W0, hW0⟩ : ∃ W0, W0 = w.alloc (.cells #[.int .i64 r.frm, .int .i64 r.to, .int .i64 r.fin, .slice sa sn sc, .slice na nn nc, .slice ga gn gc, .slice za zn zc, .slice ha hn hc, .bool r.bare] 38) := ⟨_, rfl⟩
 have HR := Lib.hid (show RBox W0 w.heap.size ⟨sa, sn, sc, na, nn, nc, ga, gn, gc, za, zn, zc, ha, hn, hc⟩ r by rw [hW0]; exact rbox_new w ⟨sa, sn, sc, na, nn, nc, ga, gn, gc, za, zn, zc, ha, hn, hc⟩ r)
 have Hb0 := Lib.hid (show Below w.heap.size w W0 by rw [hW0]; exact below_new1 w _)
 have HE := Lib.hid (refelems_s W0 ⟨sa, sn, sc, na, nn, nc, ga, gn, gc, za, zn, zc, ha, hn, hc⟩ r (h.below Hb0.out) hl)
 dsimp only [RV.val] at HE
 clear h
 dsimp only [RV.val]
 obtain ⟨hrl, q0, q1, q2, q3, q4, q5, q6, q7, q8⟩ := HR.out
 dsimp only at q0 q1 q2 q3 q4 q5 q6 q7 q8
 go_enter Try.func18, Try.ntmps18
 go_wp2_with fail
 rw [← hW0]
 clear hW0
 go_wp2_with fail
 refine HE.out.mono ?_
 rintro en w1 ⟨a, n, c, rfl, hi, _, hb⟩
 have Hb1 := Lib.hid (below_step Hb0.out hb Hb0.out.size)
 clear hb
 go_wp2_with fail
 refine (refin_any w1 a n c r.elems hi e).mono ?_
 rintro en w2 ⟨rfl, rfl⟩
 go_wp2_with fail
 go_ret
 exact ⟨rfl, Hb1.out⟩
theorem own_any (w : World) (rv : RV) (r : Road) (h : RoadAt w rv r) (hl : rv.sn ≤ 100) (e : Int) : Calls Try.prog 18 #[rv.val r, .int .i64 e] w fun en w' => en = .returned (.bool (memB e r.elems)) ∧ Below w.heap.size w w' := own_s w rv r h.s hl e
theorem own_l {w : World} {sa na ga za ha : Option Addr} {sn sc nn nc gn gc zn zc hn hc : Nat} {r : Road} (h : RoadAt w ⟨sa, sn, sc, na, nn, nc, ga, gn, gc, za, zn, zc, ha, hn, hc⟩ r) (hl : sn ≤ 100) (e : Int) : Calls Try.prog 18 #[(.agg #[.int .i64 r.frm, .int .i64 r.to, .int .i64 r.fin, .slice sa sn sc, .slice na nn nc, .slice ga gn gc, .slice za zn zc, .slice ha hn hc, .bool r.bare]), .int .i64 e] w fun en w' => en = .returned (.bool (memB e r.elems)) ∧ Below w.heap.size w w' := own_any w ⟨sa, sn, sc, na, nn, nc, ga, gn, gc, za, zn, zc, ha, hn, hc⟩ r h hl e

/-! meets, against -/
theorem any_drop {α : Type} {l : List α} {f : α → Bool} {j : Nat} {y : α} (h : l[j]? = some y) : (l.drop j).any f = (f y || (l.drop (j + 1)).any f) := by rw [drop_cons h]; rfl
theorem meets_any (w : World) (a b : Option Addr) (n c m d : Nat) (xs ys : List Int) (h : Ints w a n xs) (h2 : Ints w b m ys) : Calls Try.prog 33 #[.slice a n c, .slice b m d] w fun en w' => en = .returned (.bool (meets xs ys)) ∧ w = w' := by
 have hl := Lib.hid h.len
 have hbd := h.bnd
 have Hx := Lib.hid h
 have HI := Lib.hid (fun y => refin_any w b m d ys h2 y)
 clear h h2
 go_enter Try.func33, Try.ntmps33
 go_wp2_with fail
 go_loopg [5] n (fun k i wr => ∃ (j : Nat), j + k = n ∧ i = .int .i64 j ∧ Hid ((xs.drop j).any (fun x => decide (x ∈ ys)) = meets xs ys) ∧ w = wr)
 case atStart => exact ⟨0, by omega, rfl, rfl, rfl⟩
 case round =>
  obtain ⟨j, hk, rfl, hr, rfl⟩ := hrel
  have Hk := Lib.hid hk; clear hk
  by_cases hlt : j < n
  ·obtain ⟨y, hy⟩ := get_some hl.out hlt
   obtain ⟨pb, off, rfl, hpb, g1⟩ := Hx.out.int hy
   have Hd := Lib.hid (any_drop (f := fun x => decide (x ∈ ys)) hy); clear hy
   cases hm : memB y ys with
   | true =>
    have Hn := Lib.hid (show meets xs ys = true by rw [← hr.out, Hd.out]; simp [memB_iff.1 hm])
    have HI2 := Lib.hid (HI.out y)
    rw [hm] at HI2
    clear hm HI
    go_wp2_with fail
    refine HI2.out.mono ?_
    rintro en w1 ⟨rfl, rfl⟩
    go_wp2_with fail
    go_ret
    exact ⟨ret_bool Hn.out.symm, rfl⟩
   | false =>
    have Hn := Lib.hid (show (xs.drop (j + 1)).any (fun x => decide (x ∈ ys)) = meets xs ys by
     rw [← hr.out, Hd.out]
     have : y ∉ ys := fun hc => by rw [memB_iff.2 hc] at hm; cases hm
     simp [this])
    have HI2 := Lib.hid (HI.out y)
    rw [hm] at HI2
    clear hm
    go_wp2_with fail
    refine HI2.out.mono ?_
    rintro en w1 ⟨rfl, rfl⟩
    go_wp2_with fail
    go_roundg (gk - 1)
    case measure => have := Hk.out; omega
    case rel => exact ⟨j + 1, by have := Hk.out; omega, by go_num, Hn.out, rfl⟩
  ·have Hn := Lib.hid (show meets xs ys = false by rw [← hr.out, drop_end hl.out (by omega)]; rfl)
   go_wp2_with fail
   go_ret
   exact ⟨ret_bool Hn.out.symm, rfl⟩
set_option maxHeartbeats 1000000 in
theorem against_any (w : World) (a b : Option Addr) (n c m d : Nat) (xs ys : List Need) (h : Needs w a n xs) (h2 : Needs w b m ys) : Calls Try.prog 34 #[.slice a n c, .slice b m d] w fun en w' => en = .returned (.bool (against xs ys)) ∧ Below w.heap.size w w' := by
 have hl := Lib.hid h.len
 have hl2 := Lib.hid h2.len
 have hbd := h.bnd
 have hbd2 := h2.bnd
 have Hx := Lib.hid h
 have Hy := Lib.hid h2
 clear h h2
 go_enter Try.func34, Try.ntmps34
 go_wp2_with fail
 go_loopg [5] n (fun k i wr => ∃ (j : Nat), j + k = n ∧ i = .int .i64 j ∧ Hid ((xs.drop j).any (fun x => ys.any fun y => clashes x y) = against xs ys) ∧ Hid (Below w.heap.size w wr))
 case atStart => exact ⟨0, by omega, rfl, rfl, Below.refl _ _⟩
 case round =>
  obtain ⟨j, hk, rfl, hr, Hb⟩ := hrel
  obtain ⟨wo, rfl⟩ : ∃ wo : World, wo = wr := ⟨_, rfl⟩
  have Hk := Lib.hid hk; clear hk
  by_cases hlt : j < n
  ·obtain ⟨x, hx⟩ := get_some hl.out hlt
   have Hgx := Lib.hid hx
   have Hd := Lib.hid (any_drop (f := fun x => ys.any fun y => clashes x y) hx); clear hx
   go_wp2_with fail
   go_loopg [6] m (fun k i wr => ∃ (q : Nat), q + k = m ∧ i = .int .i64 q ∧ Hid ((ys.drop q).any (clashes x) = ys.any fun y => clashes x y) ∧ Hid (Below w.heap.size w wr))
   case atStart => exact ⟨0, by omega, rfl, rfl, Hb.out⟩
   case round =>
    clear Hb
    obtain ⟨q, hk2, rfl, hr2, Hb2⟩ := hrel
    have Hk2 := Lib.hid hk2; clear hk2
    by_cases hlt2 : q < m
    ·obtain ⟨y, hy⟩ := get_some hl2.out hlt2
     obtain ⟨pa, offa, rfl, hpa, g1, g2⟩ := (Hx.out.below Hb2.out).need Hgx.out
     obtain ⟨pb, offb, rfl, hpb, k1, k2⟩ := (Hy.out.below Hb2.out).need hy
     have Hd2 := Lib.hid (any_drop (f := clashes x) hy); clear hy
     by_cases he : x.e = y.e
     ·have e1 : (x.e == y.e) = true := by simpa using he
      by_cases hp : x.pos = y.pos
      ·have e2 : (x.pos != y.pos) = false := by simp [hp]
       have Hn := Lib.hid (show (ys.drop (q + 1)).any (clashes x) = ys.any fun y => clashes x y by rw [← hr2.out, Hd2.out]; simp [clashes, hp])
       clear he hp
       go_wp2_with fail
       go_quiet (fail)
       go_wp2_with fail
       go_roundg (gk - 1)
       case measure => have := Hk2.out; omega
       case rel => exact ⟨q + 1, by have := Hk2.out; omega, by go_num, Hn.out, below_drewN Hb2.out _⟩
      ·have e2 : (x.pos != y.pos) = true := by simpa using hp
       have Hn := Lib.hid (show against xs ys = true by
        have h1 : (ys.any fun y => clashes x y) = true := by rw [← hr2.out, Hd2.out]; simp [clashes, he, hp]
        rw [← hr.out, Hd.out, h1]; rfl)
       clear he hp
       go_wp2_with fail
       go_quiet (fail)
       go_wp2_with fail
       go_ret
       exact ⟨ret_bool Hn.out.symm, below_drewN Hb2.out _⟩
     ·have e1 : (x.e == y.e) = false := by simpa using he
      have Hn := Lib.hid (show (ys.drop (q + 1)).any (clashes x) = ys.any fun y => clashes x y by rw [← hr2.out, Hd2.out]; simp [clashes, he])
      clear he
      go_wp2_with fail
      go_quiet (fail)
      go_wp2_with fail
      go_roundg (gk - 1)
      case measure => have := Hk2.out; omega
      case rel => exact ⟨q + 1, by have := Hk2.out; omega, by go_num, Hn.out, below_drewN Hb2.out _⟩
    ·have Hn := Lib.hid (show (xs.drop (j + 1)).any (fun x => ys.any fun y => clashes x y) = against xs ys by
      have h1 : (ys.any fun y => clashes x y) = false := by rw [← hr2.out, drop_end hl2.out (by omega)]; rfl
      rw [← hr.out, Hd.out, h1]; rfl)
     go_wp2_with fail
     go_roundg (n - j - 1)
     case measure => have := Hk.out; omega
     case rel => exact ⟨j + 1, by have := Hk.out; omega, by go_num, Hn.out, Hb2.out⟩
  ·have Hn := Lib.hid (show against xs ys = false by rw [← hr.out, drop_end hl.out (by omega)]; rfl)
   go_wp2_with fail
   go_ret
   exact ⟨ret_bool Hn.out.symm, Hb.out⟩

/-! needs and guards -/
theorem own_blocks {w : World} {base B n m c size : Nat} {e : TypeId} {a : Option Addr} {xs : List Value} (h : w.ownsRow base e size (.slice a n c) m xs) (hb : B ≤ base) : ∀ k, a.map (·.block) = some k → B ≤ k ∧ k < w.heap.size := by
 intro k hk
 cases a with
 | none => cases hk
 | some d =>
  have h1 : d.block = k := by simpa using hk
  have := h.lt d.block rfl
  omega
def NeedsPost (w : World) (l : List Need) (e : Ending) (w' : World) : Prop := ∃ a n c, e = .returned (.slice a n c) ∧ Needs w' a n l ∧ (a = none → c = 0) ∧ Below w.heap.size w w' ∧ ∀ k, a.map (·.block) = some k → w.heap.size ≤ k ∧ k < w'.heap.size
theorem encNeed_len (x : Need) : (encNeed x).length = 2 := rfl
theorem info_need : (Try.prog.info? 72).map (fun i => (i.zero, i.size, i.bytes)) = some (some (.agg #[.int .i64 0, .int .i64 0]), 2, 16) := by kernel_rfl
set_option maxHeartbeats 1000000 in
theorem refall_any (w : World) (rv : RV) (r : Road) (h : RoadAt w rv r) (h1 : rv.nn ≤ 100) (h2 : rv.gn ≤ 100) : Calls Try.prog 35 #[rv.val r] w (NeedsPost w r.all) := by
 obtain ⟨sa, sn, sc, na, nn, nc, ga, gn, gc, za, zn, zc, ha, hn, hc⟩ := rv
 dsimp only at h1 h2
 obtain ⟨W0, hW0⟩ : ∃ W0, W0 = w.alloc (.cells #[.int .i64 r.frm, .int .i64 r.to, .int .i64 r.fin, .slice sa sn sc, .slice na nn nc, .slice ga gn gc, .slice za zn zc, .slice ha hn hc, .bool r.bare] 38) := ⟨_, rfl⟩
 have HR := Lib.hid (show RBox W0 w.heap.size ⟨sa, sn, sc, na, nn, nc, ga, gn, gc, za, zn, zc, ha, hn, hc⟩ r by rw [hW0]; exact rbox_new w ⟨sa, sn, sc, na, nn, nc, ga, gn, gc, za, zn, zc, ha, hn, hc⟩ r)
 have Hb0 := Lib.hid (show Below w.heap.size w W0 by rw [hW0]; exact below_new1 w _)
 have hN := Lib.hid (show Needs W0 na nn r.needs from (h.below Hb0.out).n)
 have hG := Lib.hid (show Needs W0 ga gn r.guards from (h.below Hb0.out).g)
 have hnc := Lib.hid (show na = none → nc = 0 from h.fit.nc)
 have hgc := Lib.hid (show ga = none → gc = 0 from h.fit.gc)
 clear h
 dsimp only [RV.val]
 obtain ⟨hrl, q0, q1, q2, q3, q4, q5, q6, q7, q8⟩ := HR.out
 dsimp only at q0 q1 q2 q3 q4 q5 q6 q7 q8
 go_enter Try.func35, Try.ntmps35
 go_wp2_with fail
 rw [← hW0]
 clear hW0
 go_wp2_with fail
 have hSall : ∀ w' : World, Below (W0).heap.size (W0) w' → (w'.cell? ⟨w.heap.size, 4, none⟩ = some (.slice na nn nc) ∧ w'.cell? ⟨w.heap.size, 5, none⟩ = some (.slice ga gn gc)) := fun w' hb => ⟨(hb.cell (p := ⟨w.heap.size, 4, none⟩) hrl).trans q4, (hb.cell (p := ⟨w.heap.size, 5, none⟩) hrl).trans q5⟩
 refine wp_region_noPanic ?_
 refine region_upto (S := fun w' => w'.cell? ⟨w.heap.size, 4, none⟩ = some (.slice na nn nc) ∧ w'.cell? ⟨w.heap.size, 5, none⟩ = some (.slice ga gn gc)) (n := 8) (by kernel_rfl) ?_
 refine uk 1 (.pointer (some ⟨w.heap.size, 4, none⟩)) ?_ (hSall _ (by with_reducible repeat (first | exact Below.refl _ _ | assumption | exact below_new _ _ | apply below_drewN | apply Below.drew | refine below_set (Nat.le_refl _) ?_ _ | (refine below_set ?_ ?_ _; omega) | refine Below.alloc ?_ (by first | omega | (simp; omega) | simp) _))) ?_
 ·intro w' hSw
  (try dsimp only at hSw)
  go_simp
 (try simp only [zA, zB, zC, Act.put, zD, zE, zF])
 refine uk 2 (.slice na nn nc) ?_ (hSall _ (by with_reducible repeat (first | exact Below.refl _ _ | assumption | exact below_new _ _ | apply below_drewN | apply Below.drew | refine below_set (Nat.le_refl _) ?_ _ | (refine below_set ?_ ?_ _; omega) | refine Below.alloc ?_ (by first | omega | (simp; omega) | simp) _))) ?_
 ·intro w' hSw
  (try dsimp only at hSw)
  go_simp
 (try simp only [zA, zB, zC, Act.put, zD, zE, zF])
 refine uk 4 (.pointer (some ⟨w.heap.size, 5, none⟩)) ?_ (hSall _ (by with_reducible repeat (first | exact Below.refl _ _ | assumption | exact below_new _ _ | apply below_drewN | apply Below.drew | refine below_set (Nat.le_refl _) ?_ _ | (refine below_set ?_ ?_ _; omega) | refine Below.alloc ?_ (by first | omega | (simp; omega) | simp) _))) ?_
 ·intro w' hSw
  (try dsimp only at hSw)
  go_simp
 (try simp only [zA, zB, zC, Act.put, zD, zE, zF])
 refine uk 5 (.slice ga gn gc) ?_ (hSall _ (by with_reducible repeat (first | exact Below.refl _ _ | assumption | exact below_new _ _ | apply below_drewN | apply Below.drew | refine below_set (Nat.le_refl _) ?_ _ | (refine below_set ?_ ?_ _; omega) | refine Below.alloc ?_ (by first | omega | (simp; omega) | simp) _))) ?_
 ·intro w' hSw
  (try dsimp only at hSw)
  go_simp
 (try simp only [zA, zB, zC, Act.put, zD, zE, zF])
 refine upto_step (i := 0) (by kernel_rfl) rfl (fun K hK => ?_)
 go_simp
 refine hK _ _ (fun _ => (hSall _ (by with_reducible repeat (first | exact Below.refl _ _ | assumption | exact below_new _ _ | apply below_drewN | apply Below.drew | refine below_set (Nat.le_refl _) ?_ _ | (refine below_set ?_ ?_ _; omega) | refine Below.alloc ?_ (by first | omega | (simp; omega) | simp) _)))) ?_
 clear hK K
 (try simp only [zA, zB, zC, Act.put, zD, zE, zF])
 refine upto_step (i := 3) (by kernel_rfl) rfl (fun K hK => ?_)
 refine step_app0 encNeed_len encNeed_one _ (by rfl) _ _ 35 (by rfl) W0.heap.size 72 (.agg #[.int .i64 0, .int .i64 0]) 16 Try.underlying35 info_need (by rfl) (by decide) W0.heap.size (by rfl) (World.ownsRow_made W0.drew #[] 0 (Nat.le_refl _) (by simp [maxLen]) (by simp)) na nn nc r.needs (by rfl) (hN.out.below ((Below.refl _ _).drew.alloc (Nat.le_refl _) _)) hnc.out (by simp [maxLen]; omega) (by omega) (by simp) ?_
 intro v3 w3 hown3 hgrow3
 have hb3 : Below W0.heap.size W0 w3 := Below.grown ((Below.refl _ _).drew.alloc (Nat.le_refl _) _) hgrow3 (by simp) (by intro k hk; simp only [Option.some.injEq] at hk; omega)
 refine hK _ _ (fun _ => (hSall _ hb3)) ?_
 clear hK K
 (try simp only [zA, zB, zC, Act.put, zD, zE, zF])
 refine upto_step (i := 6) (by kernel_rfl) rfl (fun K hK => ?_)
 refine step_app encNeed_len encNeed_one _ (by rfl) _ _ 35 (by rfl) W0.heap.size 72 (.agg #[.int .i64 0, .int .i64 0]) 16 Try.underlying35 info_need (by rfl) (by decide) v3 nn r.needs (by rfl) hown3 ga gn gc r.guards (by rfl) (hG.out.below hb3) hgc.out (by simp [maxLen]; omega) (by omega) hb3.size ?_
 intro v4 w4 hown4 hgrow4 _ _
 have hb4 : Below W0.heap.size W0 w4 := Below.grown hb3 hgrow4 hb3.size (fun k hk => (hown3.lt k hk).1)
 refine hK _ _ (fun _ => (hSall _ hb4)) ?_
 clear hK K
 (try simp only [zA, zB, zC, Act.put, zD, zE, zF])
 refine upto_step (i := 7) (by kernel_rfl) rfl (fun K hK => ?_)
 go_simp
 refine hK _ _ (fun _ => (hSall _ (by with_reducible repeat (first | exact Below.refl _ _ | assumption | exact below_new _ _ | apply below_drewN | apply Below.drew | refine below_set (Nat.le_refl _) ?_ _ | (refine below_set ?_ ?_ _; omega) | refine Below.alloc ?_ (by first | omega | (simp; omega) | simp) _)))) ?_
 clear hK K
 (try simp only [zA, zB, zC, Act.put, zD, zE, zF])
 refine upto_done (by kernel_rfl) (NoPanic.normal ?_) _
 clear hSall
 go_wp2_with fail
 obtain ⟨a4, c4, rfl, _, hc4⟩ := own_slice hown4
 go_ret
 exact ⟨a4, _, c4, rfl, (owns_row encNeed_len hown4 (by decide)).1, fun h => (hc4 h).2, below_step Hb0.out hb4 Hb0.out.size, own_blocks hown4 Hb0.out.size⟩
theorem refall_l {w : World} {sa na ga za ha : Option Addr} {sn sc nn nc gn gc zn zc hn hc : Nat} {r : Road} (h : RoadAt w ⟨sa, sn, sc, na, nn, nc, ga, gn, gc, za, zn, zc, ha, hn, hc⟩ r) (h1 : nn ≤ 100) (h2 : gn ≤ 100) : Calls Try.prog 35 #[(.agg #[.int .i64 r.frm, .int .i64 r.to, .int .i64 r.fin, .slice sa sn sc, .slice na nn nc, .slice ga gn gc, .slice za zn zc, .slice ha hn hc, .bool r.bare])] w (NeedsPost w r.all) := refall_any w ⟨sa, sn, sc, na, nn, nc, ga, gn, gc, za, zn, zc, ha, hn, hc⟩ r h h1 h2
set_option maxHeartbeats 1000000 in
theorem needs_any (w : World) (rv : RV) (r : Road) (h : RoadAt w rv r) (h1 : rv.nn ≤ 100) (h2 : rv.gn ≤ 100) : Calls Try.prog 29 #[rv.val r] w (NeedsPost w r.all) := by
 obtain ⟨sa, sn, sc, na, nn, nc, ga, gn, gc, za, zn, zc, ha, hn, hc⟩ := rv
 dsimp only at h1 h2
 obtain ⟨W0, hW0⟩ : ∃ W0, W0 = w.alloc (.cells #[.int .i64 r.frm, .int .i64 r.to, .int .i64 r.fin, .slice sa sn sc, .slice na nn nc, .slice ga gn gc, .slice za zn zc, .slice ha hn hc, .bool r.bare] 38) := ⟨_, rfl⟩
 have HR := Lib.hid (show RBox W0 w.heap.size ⟨sa, sn, sc, na, nn, nc, ga, gn, gc, za, zn, zc, ha, hn, hc⟩ r by rw [hW0]; exact rbox_new w ⟨sa, sn, sc, na, nn, nc, ga, gn, gc, za, zn, zc, ha, hn, hc⟩ r)
 have Hb0 := Lib.hid (show Below w.heap.size w W0 by rw [hW0]; exact below_new1 w _)
 have hN := Lib.hid (show Needs W0 na nn r.needs from (h.below Hb0.out).n)
 have hG := Lib.hid (show Needs W0 ga gn r.guards from (h.below Hb0.out).g)
 have hnc := Lib.hid (show na = none → nc = 0 from h.fit.nc)
 have hgc := Lib.hid (show ga = none → gc = 0 from h.fit.gc)
 clear h
 dsimp only [RV.val]
 obtain ⟨hrl, q0, q1, q2, q3, q4, q5, q6, q7, q8⟩ := HR.out
 dsimp only at q0 q1 q2 q3 q4 q5 q6 q7 q8
 go_enter Try.func29, Try.ntmps29
 go_wp2_with fail
 rw [← hW0]
 clear hW0
 go_wp2_with fail
 have hSall : ∀ w' : World, Below (W0).heap.size (W0) w' → (w'.cell? ⟨w.heap.size, 4, none⟩ = some (.slice na nn nc) ∧ w'.cell? ⟨w.heap.size, 5, none⟩ = some (.slice ga gn gc)) := fun w' hb => ⟨(hb.cell (p := ⟨w.heap.size, 4, none⟩) hrl).trans q4, (hb.cell (p := ⟨w.heap.size, 5, none⟩) hrl).trans q5⟩
 refine wp_region_noPanic ?_
 refine region_upto (S := fun w' => w'.cell? ⟨w.heap.size, 4, none⟩ = some (.slice na nn nc) ∧ w'.cell? ⟨w.heap.size, 5, none⟩ = some (.slice ga gn gc)) (n := 7) (by kernel_rfl) ?_
 refine uk 0 (.pointer (some ⟨w.heap.size, 4, none⟩)) ?_ (hSall _ (by with_reducible repeat (first | exact Below.refl _ _ | assumption | exact below_new _ _ | apply below_drewN | apply Below.drew | refine below_set (Nat.le_refl _) ?_ _ | (refine below_set ?_ ?_ _; omega) | refine Below.alloc ?_ (by first | omega | (simp; omega) | simp) _))) ?_
 ·intro w' hSw
  (try dsimp only at hSw)
  go_simp
 (try simp only [zA, zC, Act.put, zD, zE, zF])
 refine uk 1 (.slice na nn nc) ?_ (hSall _ (by with_reducible repeat (first | exact Below.refl _ _ | assumption | exact below_new _ _ | apply below_drewN | apply Below.drew | refine below_set (Nat.le_refl _) ?_ _ | (refine below_set ?_ ?_ _; omega) | refine Below.alloc ?_ (by first | omega | (simp; omega) | simp) _))) ?_
 ·intro w' hSw
  (try dsimp only at hSw)
  go_simp
 (try simp only [zA, zB, zC, Act.put, zD, zE, zF])
 refine uk 3 (.pointer (some ⟨w.heap.size, 5, none⟩)) ?_ (hSall _ (by with_reducible repeat (first | exact Below.refl _ _ | assumption | exact below_new _ _ | apply below_drewN | apply Below.drew | refine below_set (Nat.le_refl _) ?_ _ | (refine below_set ?_ ?_ _; omega) | refine Below.alloc ?_ (by first | omega | (simp; omega) | simp) _))) ?_
 ·intro w' hSw
  (try dsimp only at hSw)
  go_simp
 (try simp only [zA, zB, zC, Act.put, zD, zE, zF])
 refine uk 4 (.slice ga gn gc) ?_ (hSall _ (by with_reducible repeat (first | exact Below.refl _ _ | assumption | exact below_new _ _ | apply below_drewN | apply Below.drew | refine below_set (Nat.le_refl _) ?_ _ | (refine below_set ?_ ?_ _; omega) | refine Below.alloc ?_ (by first | omega | (simp; omega) | simp) _))) ?_
 ·intro w' hSw
  (try dsimp only at hSw)
  go_simp
 (try simp only [zA, zB, zC, Act.put, zD, zE, zF])
 refine upto_step (i := 2) (by kernel_rfl) rfl (fun K hK => ?_)
 refine step_app encNeed_len encNeed_one _ (by rfl) _ _ 35 (by rfl) W0.heap.size 72 (.agg #[.int .i64 0, .int .i64 0]) 16 Try.underlying35 info_need (by rfl) (by decide) (.slice none 0 0) 0 [] (by rfl) (World.ownsRow_nil _ _ _ _) na nn nc r.needs (by rfl) (hN.out.below (Below.refl _ _).drew) hnc.out (by simp [maxLen]; omega) (by omega) (by simp) ?_
 intro v3 w3 hown3 hgrow3 _ _
 rw [Nat.zero_add, List.nil_append] at hown3
 have hb3 : Below W0.heap.size W0 w3 := Below.grown (Below.refl _ _).drew hgrow3 (by simp) (by intro k hk; cases hk)
 refine hK _ _ (fun _ => (hSall _ hb3)) ?_
 clear hK K
 (try simp only [zA, zB, zC, Act.put, zD, zE, zF])
 refine upto_step (i := 5) (by kernel_rfl) rfl (fun K hK => ?_)
 refine step_app encNeed_len encNeed_one _ (by rfl) _ _ 35 (by rfl) W0.heap.size 72 (.agg #[.int .i64 0, .int .i64 0]) 16 Try.underlying35 info_need (by rfl) (by decide) v3 nn r.needs (by rfl) hown3 ga gn gc r.guards (by rfl) (hG.out.below hb3) hgc.out (by simp [maxLen]; omega) (by omega) hb3.size ?_
 intro v4 w4 hown4 hgrow4 _ _
 have hb4 : Below W0.heap.size W0 w4 := Below.grown hb3 hgrow4 hb3.size (fun k hk => (hown3.lt k hk).1)
 refine hK _ _ (fun _ => (hSall _ hb4)) ?_
 clear hK K
 (try simp only [zA, zB, zC, Act.put, zD, zE, zF])
 refine upto_step (i := 6) (by kernel_rfl) rfl (fun K hK => ?_)
 go_simp
 refine hK _ _ (fun _ => (hSall _ (by with_reducible repeat (first | exact Below.refl _ _ | assumption | exact below_new _ _ | apply below_drewN | apply Below.drew | refine below_set (Nat.le_refl _) ?_ _ | (refine below_set ?_ ?_ _; omega) | refine Below.alloc ?_ (by first | omega | (simp; omega) | simp) _)))) ?_
 clear hK K
 (try simp only [zA, zB, zC, Act.put, zD, zE, zF])
 refine upto_done (by kernel_rfl) (NoPanic.normal ?_) _
 clear hSall
 go_wp2_with fail
 obtain ⟨a4, c4, rfl, _, hc4⟩ := own_slice hown4
 go_ret
 exact ⟨a4, _, c4, rfl, (owns_row encNeed_len hown4 (by decide)).1, fun h => (hc4 h).2, below_step Hb0.out hb4 Hb0.out.size, own_blocks hown4 Hb0.out.size⟩
theorem needs_l {w : World} {sa na ga za ha : Option Addr} {sn sc nn nc gn gc zn zc hn hc : Nat} {r : Road} (h : RoadAt w ⟨sa, sn, sc, na, nn, nc, ga, gn, gc, za, zn, zc, ha, hn, hc⟩ r) (h1 : nn ≤ 100) (h2 : gn ≤ 100) : Calls Try.prog 29 #[(.agg #[.int .i64 r.frm, .int .i64 r.to, .int .i64 r.fin, .slice sa sn sc, .slice na nn nc, .slice ga gn gc, .slice za zn zc, .slice ha hn hc, .bool r.bare])] w (NeedsPost w r.all) := needs_any w ⟨sa, sn, sc, na, nn, nc, ga, gn, gc, za, zn, zc, ha, hn, hc⟩ r h h1 h2
end Go.Proofs.Ytnkpiijljfjmkaa

/- Walks of semaphoreref12.bothWays and Why. Condition: the plan and the roads are read; the plan is one that may be. -/
set_option maxRecDepth 1000000
namespace Go.Proofs.Ytnkpiijljfjmkaa
open Go.ChangeShapes Go.WideShapes Go.ChangeAt Go.RowKit Go.Sort

theorem lineNo_pair (p : Plan) (e : Int) : lineNo p e = (linePair (lineOf p e)).1 := by
 unfold lineNo linePair
 cases lineOf p e <;> rfl
theorem boxes3 (w : World) (pv : PV) (p : Plan) (va vb : RV) (a b : Road) : ∃ W0, W0 = ((w.alloc (.cells (pv.cells p) 27)).alloc (.cells (va.cells a) 38)).alloc (.cells (vb.cells b) 38) ∧
  Below w.heap.size w W0 ∧ PBox W0 w.heap.size pv p ∧ RBox W0 (w.heap.size + 1) va a ∧ RBox W0 (w.heap.size + 2) vb b ∧ W0.heap.size = w.heap.size + 3 := by
 refine ⟨_, rfl, ?_, ?_, ?_, ?_, by simp⟩
 ·exact (((Below.refl _ _).alloc (Nat.le_refl _) _).alloc (by simp) _).alloc (by simp; omega) _
 ·exact ((PBox.mk' w pv p _).below (below_new1 _ _)).below (below_new1 _ _)
 ·have h := (rbox_new (w.alloc (.cells (pv.cells p) 27)) va a).below (below_new1 _ (.cells (vb.cells b) 38))
  rwa [show (w.alloc (.cells (pv.cells p) 27)).heap.size = w.heap.size + 1 by simp] at h
 ·have h := rbox_new ((w.alloc (.cells (pv.cells p) 27)).alloc (.cells (va.cells a) 38)) vb b
  rwa [show ((w.alloc (.cells (pv.cells p) 27)).alloc (.cells (va.cells a) 38)).heap.size = w.heap.size + 2 by simp] at h
set_option maxHeartbeats 4000000 in
theorem bothways_any (w : World) (pv : PV) (p : Plan) (h : PlanAt w pv p) (hf : FewOk pv) (hc : chk p = 0) (va vb : RV) (a b : Road) (h1 : RoadAt w va a) (h2 : RoadAt w vb b) :
  Calls Try.prog 36 #[pv.val p, va.val a, vb.val b] w fun en w' => en = .returned (.bool (bothWays p a.steps b.steps)) ∧ Below w.heap.size w w' := by
 obtain ⟨ae, ne, ce, aj, nj, cj, as_, ns, cs, al, nl, cl, lv⟩ := pv
 obtain ⟨sa1, sn1, sc1, na1, nn1, nc1, ga1, gn1, gc1, za1, zn1, zc1, ha1, hn1, hc1⟩ := va
 obtain ⟨sa2, sn2, sc2, na2, nn2, nc2, ga2, gn2, gc2, za2, zn2, zc2, ha2, hn2, hc2⟩ := vb
 obtain ⟨W0, hW0, hb0, hB0, hRa, hRb, hz0⟩ := boxes3 w ⟨ae, ne, ce, aj, nj, cj, as_, ns, cs, al, nl, cl, lv⟩ p ⟨sa1, sn1, sc1, na1, nn1, nc1, ga1, gn1, gc1, za1, zn1, zc1, ha1, hn1, hc1⟩ ⟨sa2, sn2, sc2, na2, nn2, nc2, ga2, gn2, gc2, za2, zn2, zc2, ha2, hn2, hc2⟩ a b
 have HP0 := Lib.hid (h.below hb0)
 have Hf := Lib.hid hf
 have Hc := Lib.hid hc
 have Hsa := Lib.hid (show Stps W0 sa1 sn1 a.steps from (h1.below hb0).s)
 have Hsb := Lib.hid (show Stps W0 sa2 sn2 b.steps from (h2.below hb0).s)
 have Hla := Lib.hid Hsa.out.len
 have Hlb := Lib.hid Hsb.out.len
 have hba := Hsa.out.bnd
 have hbb := Hsb.out.bnd
 have Hb0 := Lib.hid hb0
 have HB0 := Lib.hid hB0
 have HRa := Lib.hid hRa
 have HRb := Lib.hid hRb
 have Hz0 := Lib.hid hz0
 clear h hf hc h1 h2 hb0 hB0 hRa hRb hz0
 dsimp only [PV.val, RV.val]
 dsimp only [PV.cells, RV.cells] at hW0
 go_enter Try.func36, Try.ntmps36
 go_wp2_with fail
 rw [← hW0]
 clear hW0
 go_loopg [7] sn1 (fun k i wr => ∃ (j : Nat), j + k = sn1 ∧ i = .int .i64 j ∧ Hid ((a.steps.drop j).any (fun x => b.steps.any (opposed p x)) = a.steps.any (fun x => b.steps.any (opposed p x))) ∧ Hid (Below W0.heap.size W0 wr))
 case atStart => exact ⟨0, by omega, rfl, rfl, Below.refl _ _⟩
 case round =>
  obtain ⟨j, hk, rfl, hr, Hv⟩ := hrel
  obtain ⟨wo, rfl⟩ : ∃ wo : World, wo = wr := ⟨_, rfl⟩
  have Hk := Lib.hid hk; clear hk
  have qa3 := (HRa.out.below Hv.out).c3
  have hla := (HRa.out.below Hv.out).lt
  dsimp only at qa3
  by_cases hlt : j < sn1
  ·obtain ⟨x, hx⟩ := get_some Hla.out hlt
   have Hgx := Lib.hid hx
   have Hd := Lib.hid (any_drop (f := fun x => b.steps.any (opposed p x)) hx); clear hx
   go_wp2_with fail
   clear qa3 hla
   have HvO := Lib.hid Hv.out
   go_loopg [8] sn2 (fun k i wr => ∃ (q : Nat), q + k = sn2 ∧ i = .int .i64 q ∧ Hid ((b.steps.drop q).any (opposed p x) = b.steps.any (opposed p x)) ∧ Hid (Below W0.heap.size W0 wr))
   case atStart => exact ⟨0, by omega, rfl, rfl, HvO.out⟩
   case round =>
    clear Hv HvO
    obtain ⟨q, hk2, rfl, hr2, Hv⟩ := hrel
    have Hk2 := Lib.hid hk2; clear hk2
    by_cases hlt2 : q < sn2
    ·obtain ⟨y, hy⟩ := get_some Hlb.out hlt2
     have Hgy := Lib.hid hy
     have Hd2 := Lib.hid (any_drop (f := opposed p x) hy); clear hy
     obtain ⟨hpl, c0, c1, c2, c3, c4, c5, c6, c7, c8⟩ := HB0.out.below Hv.out
     dsimp only at c0 c1 c2 c3
     have qa3 := (HRa.out.below Hv.out).c3
     have qb3 := (HRb.out.below Hv.out).c3
     have hla := (HRa.out.below Hv.out).lt
     have hlb := (HRb.out.below Hv.out).lt
     dsimp only at qa3 qb3
     obtain ⟨pa, offa, hsa, hpa, g1, g2, g3⟩ := (Hsa.out.below Hv.out).stp Hgx.out
     obtain ⟨pb, offb, hsb, hpb, k1, k2, k3⟩ := (Hsb.out.below Hv.out).stp Hgy.out
     subst hsa
     subst hsb
     obtain ⟨lx, lx2, hlx⟩ : ∃ u v, linePair (lineOf p x.e) = (u, v) := ⟨_, _, rfl⟩
     obtain ⟨ly, ly2, hly⟩ : ∃ u v, linePair (lineOf p y.e) = (u, v) := ⟨_, _, rfl⟩
     have HLx := Lib.hid (fun (u : World) (hb : Below W0.heap.size W0 u) => reflineof_l (w := u) (e := x.e) (HP0.out.below hb))
     have HLy := Lib.hid (fun (u : World) (hb : Below W0.heap.size W0 u) => reflineof_l (w := u) (e := y.e) (HP0.out.below hb))
     have HDx := Lib.hid (fun (u : World) (hb : Below W0.heap.size W0 u) => reflead_l (w := u) (e := x.e) (i := x.i) Hf.out Hc.out (HP0.out.below hb))
     have HDy := Lib.hid (fun (u : World) (hb : Below W0.heap.size W0 u) => reflead_l (w := u) (e := y.e) (i := y.i) Hf.out Hc.out (HP0.out.below hb))
     obtain ⟨dx, hdx⟩ : ∃ d, lead p x.e x.i = d := ⟨_, rfl⟩
     obtain ⟨dy, hdy⟩ : ∃ d, lead p y.e y.i = d := ⟨_, rfl⟩
     rw [hlx] at HLx
     rw [hly] at HLy
     rw [hdx] at HDx
     rw [hdy] at HDy
     dsimp only at HLx HLy
     have Hop := Lib.hid (show opposed p x y = (decide (0 ≤ lx) && decide (lx = ly) && decide (dx ≠ dy)) by unfold opposed; rw [lineNo_pair, lineNo_pair, hlx, hly, hdx, hdy])
     clear hlx hly hdx hdy
     go_wp2_with fail
     have c0q := fun d os => cell_regrown c0 d os
     have c1q := fun d os => cell_regrown c1 d os
     have c2q := fun d os => cell_regrown c2 d os
     have c3q := fun d os => cell_regrown c3 d os
     have c4q := fun d os => cell_regrown c4 d os
     have c5q := fun d os => cell_regrown c5 d os
     have c6q := fun d os => cell_regrown c6 d os
     have c7q := fun d os => cell_regrown c7 d os
     have c8q := fun d os => cell_regrown c8 d os
     have qa3q := fun d os => cell_regrown qa3 d os
     have g1q := fun d os => cell_regrown g1 d os
     have cq0 : ∀ d os, Calls Try.prog 46 #[.agg #[.slice ae ne ce, .slice aj nj cj, .slice as_ ns cs, .slice al nl cl, .int .i64 p.top, .int .i64 p.brake, .int .i64 p.margin, .int .i64 p.throw, .bool p.hard], .int .i64 x.e] (grow (redrawn wr d) os) fun e w'' => e = .returned (.tuple #[.int .i64 lx, .int .i64 lx2]) ∧ ∃ rg : Regrown, w'' = grow (redrawn wr rg.d) rg.os := fun d os => Calls.regrown_of (HLx.out _ (below_step Hv.out (below_regrown _ d os) Hv.out.size))
     refine wp_region_quiet_below (by kernel_rfl) (by kernel_rfl) ?_
     repeat (go_big_quiet_step (first | with_reducible exact cq0 _ _))
     refine wpQuiet_nil ?_
     intro v1 hw'
     have hv1 : Below wr.heap.size wr v1 := by obtain ⟨⟨d, os⟩, rfl⟩ := hw'; exact below_regrown _ d os
     clear hw' c0q c1q c2q c3q c4q c5q c6q c7q c8q qa3q g1q cq0
     have Hv1 := Lib.hid (below_step Hv.out hv1 Hv.out.size)
     clear hv1 HLx
     clear c0 c1 c2 c3 c4 c5 c6 c7 c8 qa3 qb3 g1 g2 g3 k1 k2 k3 hla hlb hpa hpb
     obtain ⟨hpl1, c0, c1, c2, c3, c4, c5, c6, c7, c8⟩ := HB0.out.below Hv1.out
     dsimp only at c0 c1 c2 c3
     have qa3 := (HRa.out.below Hv1.out).c3
     have qb3 := (HRb.out.below Hv1.out).c3
     have hla := (HRa.out.below Hv1.out).lt
     have hlb := (HRb.out.below Hv1.out).lt
     dsimp only at qa3 qb3
     obtain ⟨pa1, offa1, ea, hpa, g1, g2, g3⟩ := (Hsa.out.below Hv1.out).stp Hgx.out
     obtain ⟨pb1, offb1, eb, hpb, k1, k2, k3⟩ := (Hsb.out.below Hv1.out).stp Hgy.out
     cases ea
     cases eb
     go_wp2_with fail
     have c0q := fun d os => cell_regrown c0 d os
     have c1q := fun d os => cell_regrown c1 d os
     have c2q := fun d os => cell_regrown c2 d os
     have c3q := fun d os => cell_regrown c3 d os
     have c4q := fun d os => cell_regrown c4 d os
     have c5q := fun d os => cell_regrown c5 d os
     have c6q := fun d os => cell_regrown c6 d os
     have c7q := fun d os => cell_regrown c7 d os
     have c8q := fun d os => cell_regrown c8 d os
     have qb3q := fun d os => cell_regrown qb3 d os
     have k1q := fun d os => cell_regrown k1 d os
     have cq0 : ∀ d os, Calls Try.prog 46 #[.agg #[.slice ae ne ce, .slice aj nj cj, .slice as_ ns cs, .slice al nl cl, .int .i64 p.top, .int .i64 p.brake, .int .i64 p.margin, .int .i64 p.throw, .bool p.hard], .int .i64 y.e] (grow (redrawn v1 d) os) fun e w'' => e = .returned (.tuple #[.int .i64 ly, .int .i64 ly2]) ∧ ∃ rg : Regrown, w'' = grow (redrawn v1 rg.d) rg.os := fun d os => Calls.regrown_of (HLy.out _ (below_step Hv1.out (below_regrown _ d os) Hv1.out.size))
     refine wp_region_quiet_below (by kernel_rfl) (by kernel_rfl) ?_
     repeat (go_big_quiet_step (first | with_reducible exact cq0 _ _))
     refine wpQuiet_nil ?_
     intro v2 hw'
     have hv2 : Below v1.heap.size v1 v2 := by obtain ⟨⟨d, os⟩, rfl⟩ := hw'; exact below_regrown _ d os
     clear hw' c0q c1q c2q c3q c4q c5q c6q c7q c8q qb3q k1q cq0
     have Hv2 := Lib.hid (below_step Hv1.out hv2 Hv1.out.size)
     clear hv2 HLy
     clear c0 c1 c2 c3 c4 c5 c6 c7 c8 qa3 qb3 g1 g2 g3 k1 k2 k3 hla hlb hpa hpb
     obtain ⟨hpl2, c0, c1, c2, c3, c4, c5, c6, c7, c8⟩ := HB0.out.below Hv2.out
     dsimp only at c0 c1 c2 c3
     have qa3 := (HRa.out.below Hv2.out).c3
     have qb3 := (HRb.out.below Hv2.out).c3
     have hla := (HRa.out.below Hv2.out).lt
     have hlb := (HRb.out.below Hv2.out).lt
     dsimp only at qa3 qb3
     obtain ⟨pa1, offa1, ea, hpa, g1, g2, g3⟩ := (Hsa.out.below Hv2.out).stp Hgx.out
     obtain ⟨pb1, offb1, eb, hpb, k1, k2, k3⟩ := (Hsb.out.below Hv2.out).stp Hgy.out
     cases ea
     cases eb
     by_cases b1 : 0 ≤ lx
     ·have d1 : decide (0 ≤ lx) = true := by simpa using b1
      by_cases b2 : lx = ly
      ·have d2 : (lx == ly) = true := by simpa using b2
       by_cases b3 : dx = dy
       ·have d3 : (dx != dy) = false := by simp [b3]
        have Hn := Lib.hid (show ((b.steps.drop (q + 1)).any (opposed p x)) = b.steps.any (opposed p x) by rw [← hr2.out, Hd2.out, Hop.out]; simp [b3])

        clear b1 b2 b3 Hop
        go_wp2_with fail
        have c0q := fun d os => cell_regrown c0 d os
        have c1q := fun d os => cell_regrown c1 d os
        have c2q := fun d os => cell_regrown c2 d os
        have c3q := fun d os => cell_regrown c3 d os
        have c4q := fun d os => cell_regrown c4 d os
        have c5q := fun d os => cell_regrown c5 d os
        have c6q := fun d os => cell_regrown c6 d os
        have c7q := fun d os => cell_regrown c7 d os
        have c8q := fun d os => cell_regrown c8 d os
        have qa3q := fun d os => cell_regrown qa3 d os
        have qb3q := fun d os => cell_regrown qb3 d os
        have g1q := fun d os => cell_regrown g1 d os
        have g2q := fun d os => cell_regrown g2 d os
        have k1q := fun d os => cell_regrown k1 d os
        have k2q := fun d os => cell_regrown k2 d os
        have cq0 : ∀ d os, Calls Try.prog 47 #[.agg #[.slice ae ne ce, .slice aj nj cj, .slice as_ ns cs, .slice al nl cl, .int .i64 p.top, .int .i64 p.brake, .int .i64 p.margin, .int .i64 p.throw, .bool p.hard], .int .i64 x.e, .int .i64 x.i] (grow (redrawn v2 d) os) fun e w'' => e = .returned (.int .i64 dx) ∧ ∃ rg : Regrown, w'' = grow (redrawn v2 rg.d) rg.os := fun d os => Calls.regrown_of (HDx.out _ (below_step Hv2.out (below_regrown _ d os) Hv2.out.size))
        have cq1 : ∀ d os, Calls Try.prog 47 #[.agg #[.slice ae ne ce, .slice aj nj cj, .slice as_ ns cs, .slice al nl cl, .int .i64 p.top, .int .i64 p.brake, .int .i64 p.margin, .int .i64 p.throw, .bool p.hard], .int .i64 y.e, .int .i64 y.i] (grow (redrawn v2 d) os) fun e w'' => e = .returned (.int .i64 dy) ∧ ∃ rg : Regrown, w'' = grow (redrawn v2 rg.d) rg.os := fun d os => Calls.regrown_of (HDy.out _ (below_step Hv2.out (below_regrown _ d os) Hv2.out.size))
        refine wp_region_quiet_below (by kernel_rfl) (by kernel_rfl) ?_
        repeat (go_big_quiet_step (first | with_reducible exact cq0 _ _ | with_reducible exact cq1 _ _))
        refine wpQuiet_nil ?_
        intro v3 hw'
        have hv3 : Below v2.heap.size v2 v3 := by obtain ⟨⟨d, os⟩, rfl⟩ := hw'; exact below_regrown _ d os
        clear hw' c0q c1q c2q c3q c4q c5q c6q c7q c8q qa3q qb3q g1q g2q k1q k2q cq0 cq1
        have Hv3 := Lib.hid (below_step Hv2.out hv3 Hv2.out.size)
        clear hv3 HDx HDy
        clear c0 c1 c2 c3 c4 c5 c6 c7 c8 qa3 qb3 g1 g2 g3 k1 k2 k3 hla hlb hpa hpb
        go_wp2_with fail
        go_roundg (gk - 1)
        case measure => have := Hk2.out; omega
        case rel => exact ⟨q + 1, by have := Hk2.out; omega, by go_num, Hn.out, Hv3.out⟩
       ·have d3 : (dx != dy) = true := by simpa using b3
        have Hn := Lib.hid (show bothWays p a.steps b.steps = true by
         have h1 : b.steps.any (opposed p x) = true := by rw [← hr2.out, Hd2.out, Hop.out]; simp [b2, b3]; exact .inl (b2 ▸ b1)
         unfold bothWays
         rw [← hr.out, Hd.out, h1]; rfl)
        clear b1 b2 b3 Hop
        go_wp2_with fail
        have c0q := fun d os => cell_regrown c0 d os
        have c1q := fun d os => cell_regrown c1 d os
        have c2q := fun d os => cell_regrown c2 d os
        have c3q := fun d os => cell_regrown c3 d os
        have c4q := fun d os => cell_regrown c4 d os
        have c5q := fun d os => cell_regrown c5 d os
        have c6q := fun d os => cell_regrown c6 d os
        have c7q := fun d os => cell_regrown c7 d os
        have c8q := fun d os => cell_regrown c8 d os
        have qa3q := fun d os => cell_regrown qa3 d os
        have qb3q := fun d os => cell_regrown qb3 d os
        have g1q := fun d os => cell_regrown g1 d os
        have g2q := fun d os => cell_regrown g2 d os
        have k1q := fun d os => cell_regrown k1 d os
        have k2q := fun d os => cell_regrown k2 d os
        have cq0 : ∀ d os, Calls Try.prog 47 #[.agg #[.slice ae ne ce, .slice aj nj cj, .slice as_ ns cs, .slice al nl cl, .int .i64 p.top, .int .i64 p.brake, .int .i64 p.margin, .int .i64 p.throw, .bool p.hard], .int .i64 x.e, .int .i64 x.i] (grow (redrawn v2 d) os) fun e w'' => e = .returned (.int .i64 dx) ∧ ∃ rg : Regrown, w'' = grow (redrawn v2 rg.d) rg.os := fun d os => Calls.regrown_of (HDx.out _ (below_step Hv2.out (below_regrown _ d os) Hv2.out.size))
        have cq1 : ∀ d os, Calls Try.prog 47 #[.agg #[.slice ae ne ce, .slice aj nj cj, .slice as_ ns cs, .slice al nl cl, .int .i64 p.top, .int .i64 p.brake, .int .i64 p.margin, .int .i64 p.throw, .bool p.hard], .int .i64 y.e, .int .i64 y.i] (grow (redrawn v2 d) os) fun e w'' => e = .returned (.int .i64 dy) ∧ ∃ rg : Regrown, w'' = grow (redrawn v2 rg.d) rg.os := fun d os => Calls.regrown_of (HDy.out _ (below_step Hv2.out (below_regrown _ d os) Hv2.out.size))
        refine wp_region_quiet_below (by kernel_rfl) (by kernel_rfl) ?_
        repeat (go_big_quiet_step (first | with_reducible exact cq0 _ _ | with_reducible exact cq1 _ _))
        refine wpQuiet_nil ?_
        intro v3 hw'
        have hv3 : Below v2.heap.size v2 v3 := by obtain ⟨⟨d, os⟩, rfl⟩ := hw'; exact below_regrown _ d os
        clear hw' c0q c1q c2q c3q c4q c5q c6q c7q c8q qa3q qb3q g1q g2q k1q k2q cq0 cq1
        have Hv3 := Lib.hid (below_step Hv2.out hv3 Hv2.out.size)
        clear hv3 HDx HDy
        clear c0 c1 c2 c3 c4 c5 c6 c7 c8 qa3 qb3 g1 g2 g3 k1 k2 k3 hla hlb hpa hpb

        go_wp2_with fail
        go_ret
        exact ⟨ret_bool Hn.out.symm, below_step Hb0.out Hv3.out Hb0.out.size⟩
      ·have d2 : (lx == ly) = false := by simpa using b2
       have Hn := Lib.hid (show ((b.steps.drop (q + 1)).any (opposed p x)) = b.steps.any (opposed p x) by rw [← hr2.out, Hd2.out, Hop.out]; simp [b2])

       clear b1 b2 Hop
       go_wp2_with fail
       have c0q := fun d os => cell_regrown c0 d os
       have c1q := fun d os => cell_regrown c1 d os
       have c2q := fun d os => cell_regrown c2 d os
       have c3q := fun d os => cell_regrown c3 d os
       have c4q := fun d os => cell_regrown c4 d os
       have c5q := fun d os => cell_regrown c5 d os
       have c6q := fun d os => cell_regrown c6 d os
       have c7q := fun d os => cell_regrown c7 d os
       have c8q := fun d os => cell_regrown c8 d os
       have qa3q := fun d os => cell_regrown qa3 d os
       have qb3q := fun d os => cell_regrown qb3 d os
       have g1q := fun d os => cell_regrown g1 d os
       have g2q := fun d os => cell_regrown g2 d os
       have k1q := fun d os => cell_regrown k1 d os
       have k2q := fun d os => cell_regrown k2 d os
       have cq0 : ∀ d os, Calls Try.prog 47 #[.agg #[.slice ae ne ce, .slice aj nj cj, .slice as_ ns cs, .slice al nl cl, .int .i64 p.top, .int .i64 p.brake, .int .i64 p.margin, .int .i64 p.throw, .bool p.hard], .int .i64 x.e, .int .i64 x.i] (grow (redrawn v2 d) os) fun e w'' => e = .returned (.int .i64 dx) ∧ ∃ rg : Regrown, w'' = grow (redrawn v2 rg.d) rg.os := fun d os => Calls.regrown_of (HDx.out _ (below_step Hv2.out (below_regrown _ d os) Hv2.out.size))
       have cq1 : ∀ d os, Calls Try.prog 47 #[.agg #[.slice ae ne ce, .slice aj nj cj, .slice as_ ns cs, .slice al nl cl, .int .i64 p.top, .int .i64 p.brake, .int .i64 p.margin, .int .i64 p.throw, .bool p.hard], .int .i64 y.e, .int .i64 y.i] (grow (redrawn v2 d) os) fun e w'' => e = .returned (.int .i64 dy) ∧ ∃ rg : Regrown, w'' = grow (redrawn v2 rg.d) rg.os := fun d os => Calls.regrown_of (HDy.out _ (below_step Hv2.out (below_regrown _ d os) Hv2.out.size))
       refine wp_region_quiet_below (by kernel_rfl) (by kernel_rfl) ?_
       repeat (go_big_quiet_step (first | with_reducible exact cq0 _ _ | with_reducible exact cq1 _ _))
       refine wpQuiet_nil ?_
       intro v3 hw'
       have hv3 : Below v2.heap.size v2 v3 := by obtain ⟨⟨d, os⟩, rfl⟩ := hw'; exact below_regrown _ d os
       clear hw' c0q c1q c2q c3q c4q c5q c6q c7q c8q qa3q qb3q g1q g2q k1q k2q cq0 cq1
       have Hv3 := Lib.hid (below_step Hv2.out hv3 Hv2.out.size)
       clear hv3 HDx HDy
       clear c0 c1 c2 c3 c4 c5 c6 c7 c8 qa3 qb3 g1 g2 g3 k1 k2 k3 hla hlb hpa hpb
       go_wp2_with fail
       go_roundg (gk - 1)
       case measure => have := Hk2.out; omega
       case rel => exact ⟨q + 1, by have := Hk2.out; omega, by go_num, Hn.out, Hv3.out⟩
     ·have d1 : decide (0 ≤ lx) = false := by simpa using b1
      have Hn := Lib.hid (show ((b.steps.drop (q + 1)).any (opposed p x)) = b.steps.any (opposed p x) by rw [← hr2.out, Hd2.out, Hop.out]; simp [d1])

      clear b1 Hop
      go_wp2_with fail
      have c0q := fun d os => cell_regrown c0 d os
      have c1q := fun d os => cell_regrown c1 d os
      have c2q := fun d os => cell_regrown c2 d os
      have c3q := fun d os => cell_regrown c3 d os
      have c4q := fun d os => cell_regrown c4 d os
      have c5q := fun d os => cell_regrown c5 d os
      have c6q := fun d os => cell_regrown c6 d os
      have c7q := fun d os => cell_regrown c7 d os
      have c8q := fun d os => cell_regrown c8 d os
      have qa3q := fun d os => cell_regrown qa3 d os
      have qb3q := fun d os => cell_regrown qb3 d os
      have g1q := fun d os => cell_regrown g1 d os
      have g2q := fun d os => cell_regrown g2 d os
      have k1q := fun d os => cell_regrown k1 d os
      have k2q := fun d os => cell_regrown k2 d os
      have cq0 : ∀ d os, Calls Try.prog 47 #[.agg #[.slice ae ne ce, .slice aj nj cj, .slice as_ ns cs, .slice al nl cl, .int .i64 p.top, .int .i64 p.brake, .int .i64 p.margin, .int .i64 p.throw, .bool p.hard], .int .i64 x.e, .int .i64 x.i] (grow (redrawn v2 d) os) fun e w'' => e = .returned (.int .i64 dx) ∧ ∃ rg : Regrown, w'' = grow (redrawn v2 rg.d) rg.os := fun d os => Calls.regrown_of (HDx.out _ (below_step Hv2.out (below_regrown _ d os) Hv2.out.size))
      have cq1 : ∀ d os, Calls Try.prog 47 #[.agg #[.slice ae ne ce, .slice aj nj cj, .slice as_ ns cs, .slice al nl cl, .int .i64 p.top, .int .i64 p.brake, .int .i64 p.margin, .int .i64 p.throw, .bool p.hard], .int .i64 y.e, .int .i64 y.i] (grow (redrawn v2 d) os) fun e w'' => e = .returned (.int .i64 dy) ∧ ∃ rg : Regrown, w'' = grow (redrawn v2 rg.d) rg.os := fun d os => Calls.regrown_of (HDy.out _ (below_step Hv2.out (below_regrown _ d os) Hv2.out.size))
      refine wp_region_quiet_below (by kernel_rfl) (by kernel_rfl) ?_
      repeat (go_big_quiet_step (first | with_reducible exact cq0 _ _ | with_reducible exact cq1 _ _))
      refine wpQuiet_nil ?_
      intro v3 hw'
      have hv3 : Below v2.heap.size v2 v3 := by obtain ⟨⟨d, os⟩, rfl⟩ := hw'; exact below_regrown _ d os
      clear hw' c0q c1q c2q c3q c4q c5q c6q c7q c8q qa3q qb3q g1q g2q k1q k2q cq0 cq1
      have Hv3 := Lib.hid (below_step Hv2.out hv3 Hv2.out.size)
      clear hv3 HDx HDy
      clear c0 c1 c2 c3 c4 c5 c6 c7 c8 qa3 qb3 g1 g2 g3 k1 k2 k3 hla hlb hpa hpb
      go_wp2_with fail
      go_roundg (gk - 1)
      case measure => have := Hk2.out; omega
      case rel => exact ⟨q + 1, by have := Hk2.out; omega, by go_num, Hn.out, Hv3.out⟩
    ·have qb3 := (HRb.out.below Hv.out).c3
     have hlb := (HRb.out.below Hv.out).lt
     dsimp only at qb3
     have Hn := Lib.hid (show (a.steps.drop (j + 1)).any (fun x => b.steps.any (opposed p x)) = a.steps.any (fun x => b.steps.any (opposed p x)) by
      have h1 : b.steps.any (opposed p x) = false := by rw [← hr2.out, drop_end Hlb.out (by omega)]; rfl
      rw [← hr.out, Hd.out, h1]; rfl)
     go_wp2_with fail
     go_roundg (sn1 - j - 1)
     case measure => have := Hk.out; omega
     case rel => exact ⟨j + 1, by have := Hk.out; omega, by go_num, Hn.out, Hv.out⟩
  ·have Hn := Lib.hid (show bothWays p a.steps b.steps = false by unfold bothWays; rw [← hr.out, drop_end Hla.out (by omega)]; rfl)
   go_wp2_with fail
   go_ret
   exact ⟨ret_bool Hn.out.symm, below_step Hb0.out Hv.out Hb0.out.size⟩

structure Lite (v : RV) : Prop where
 s : v.sn ≤ 100
 n : v.nn ≤ 100
 g : v.gn ≤ 100
 z : v.zn ≤ 100
 h : v.hn ≤ 100
section
variable {w : World} {ae aj as_ al : Option Addr} {ne ce nj cj ns cs nl cl : Nat} {lv : List LineV} {p : Plan} {sa1 na1 ga1 za1 ha1 sa2 na2 ga2 za2 ha2 : Option Addr} {sn1 sc1 nn1 nc1 gn1 gc1 zn1 zc1 hn1 hc1 sn2 sc2 nn2 nc2 gn2 gc2 zn2 zc2 hn2 hc2 : Nat} {a b : Road}
theorem bothways_l (h : PlanAt w ⟨ae, ne, ce, aj, nj, cj, as_, ns, cs, al, nl, cl, lv⟩ p) (hf : FewOk ⟨ae, ne, ce, aj, nj, cj, as_, ns, cs, al, nl, cl, lv⟩) (hc : chk p = 0) (h1 : RoadAt w ⟨sa1, sn1, sc1, na1, nn1, nc1, ga1, gn1, gc1, za1, zn1, zc1, ha1, hn1, hc1⟩ a) (h2 : RoadAt w ⟨sa2, sn2, sc2, na2, nn2, nc2, ga2, gn2, gc2, za2, zn2, zc2, ha2, hn2, hc2⟩ b) :
  Calls Try.prog 36 #[.agg #[.slice ae ne ce, .slice aj nj cj, .slice as_ ns cs, .slice al nl cl, .int .i64 p.top, .int .i64 p.brake, .int .i64 p.margin, .int .i64 p.throw, .bool p.hard], (.agg #[.int .i64 a.frm, .int .i64 a.to, .int .i64 a.fin, .slice sa1 sn1 sc1, .slice na1 nn1 nc1, .slice ga1 gn1 gc1, .slice za1 zn1 zc1, .slice ha1 hn1 hc1, .bool a.bare]), (.agg #[.int .i64 b.frm, .int .i64 b.to, .int .i64 b.fin, .slice sa2 sn2 sc2, .slice na2 nn2 nc2, .slice ga2 gn2 gc2, .slice za2 zn2 zc2, .slice ha2 hn2 hc2, .bool b.bare])] w fun en w' => en = .returned (.bool (bothWays p a.steps b.steps)) ∧ Below w.heap.size w w' := bothways_any w ⟨ae, ne, ce, aj, nj, cj, as_, ns, cs, al, nl, cl, lv⟩ p h hf hc ⟨sa1, sn1, sc1, na1, nn1, nc1, ga1, gn1, gc1, za1, zn1, zc1, ha1, hn1, hc1⟩ ⟨sa2, sn2, sc2, na2, nn2, nc2, ga2, gn2, gc2, za2, zn2, zc2, ha2, hn2, hc2⟩ a b h1 h2
end
end Go.Proofs.Ytnkpiijljfjmkaa

/- Walk of semaphoreref12.Why. Condition: the plan and the roads are read; the plan is one that may be. -/
set_option maxRecDepth 1000000
namespace Go.Proofs.Ytnkpiijljfjmkaa
open Go.ChangeShapes Go.WideShapes Go.ChangeAt Go.RowKit Go.Sort

set_option maxHeartbeats 4000000 in
theorem refwhy_any (w : World) (pv : PV) (p : Plan) (h : PlanAt w pv p) (hf : FewOk pv) (hc : chk p = 0) (va vb : RV) (a b : Road) (h1 : RoadAt w va a) (h2 : RoadAt w vb b) (l1 : Lite va) (l2 : Lite vb) :
  Calls Try.prog 14 #[pv.val p, va.val a, vb.val b] w fun en w' => en = .returned (.int .i64 (why p a b)) ∧ Below w.heap.size w w' := by
 obtain ⟨ae, ne, ce, aj, nj, cj, as_, ns, cs, al, nl, cl, lv⟩ := pv
 obtain ⟨sa1, sn1, sc1, na1, nn1, nc1, ga1, gn1, gc1, za1, zn1, zc1, ha1, hn1, hc1⟩ := va
 obtain ⟨sa2, sn2, sc2, na2, nn2, nc2, ga2, gn2, gc2, za2, zn2, zc2, ha2, hn2, hc2⟩ := vb
 obtain ⟨W0, hW0, hb0, hB0, hRa, hRb, hz0⟩ := boxes3 w ⟨ae, ne, ce, aj, nj, cj, as_, ns, cs, al, nl, cl, lv⟩ p ⟨sa1, sn1, sc1, na1, nn1, nc1, ga1, gn1, gc1, za1, zn1, zc1, ha1, hn1, hc1⟩ ⟨sa2, sn2, sc2, na2, nn2, nc2, ga2, gn2, gc2, za2, zn2, zc2, ha2, hn2, hc2⟩ a b
 have HP0 := Lib.hid (h.below hb0)
 have Hf := Lib.hid hf
 have Hc := Lib.hid hc
 have h1 := Lib.hid (h1.below hb0)
 have h2 := Lib.hid (h2.below hb0)
 have lm1 : sn1 ≤ 100 := l1.s
 have lm2 : sn2 ≤ 100 := l2.s
 have lm3 : nn1 ≤ 100 := l1.n
 have lm4 : gn1 ≤ 100 := l1.g
 have lm5 : nn2 ≤ 100 := l2.n
 have lm6 : gn2 ≤ 100 := l2.g
 have Hb0 := Lib.hid hb0
 have HB0 := Lib.hid hB0
 have HRa := Lib.hid hRa
 have HRb := Lib.hid hRb
 clear h hf hc hb0 hB0 hRa hRb hz0 l1 l2
 dsimp only [PV.val, RV.val]
 dsimp only [PV.cells, RV.cells] at hW0
 go_enter Try.func14, Try.ntmps14
 go_wp2_with fail
 rw [← hW0]
 clear hW0
 have Hv := Lib.hid (Below.refl W0.heap.size W0)
 obtain ⟨hpl, c0, c1, c2, c3, c4, c5, c6, c7, c8⟩ := HB0.out.below Hv.out
 dsimp only at c0 c1 c2 c3
 obtain ⟨hla, qa0, qa1, qa2, qa3, qa4, qa5, qa6, qa7, qa8⟩ := HRa.out.below Hv.out
 dsimp only at qa0 qa1 qa2 qa3 qa4 qa5 qa6 qa7 qa8
 obtain ⟨hlb, qb0, qb1, qb2, qb3, qb4, qb5, qb6, qb7, qb8⟩ := HRb.out.below Hv.out
 dsimp only at qb0 qb1 qb2 qb3 qb4 qb5 qb6 qb7 qb8
 go_wp2_with fail
 have hSall : ∀ w' : World, Below (W0).heap.size (W0) w' → (w'.cell? ⟨w.heap.size + 1, 0, none⟩ = some (.int .i64 a.frm) ∧ w'.cell? ⟨w.heap.size + 1, 1, none⟩ = some (.int .i64 a.to) ∧ w'.cell? ⟨w.heap.size + 1, 2, none⟩ = some (.int .i64 a.fin) ∧ w'.cell? ⟨w.heap.size + 1, 3, none⟩ = some (.slice sa1 sn1 sc1) ∧ w'.cell? ⟨w.heap.size + 1, 4, none⟩ = some (.slice na1 nn1 nc1) ∧ w'.cell? ⟨w.heap.size + 1, 5, none⟩ = some (.slice ga1 gn1 gc1) ∧ w'.cell? ⟨w.heap.size + 1, 6, none⟩ = some (.slice za1 zn1 zc1) ∧ w'.cell? ⟨w.heap.size + 1, 7, none⟩ = some (.slice ha1 hn1 hc1) ∧ w'.cell? ⟨w.heap.size + 1, 8, none⟩ = some (.bool a.bare) ∧ w'.cell? ⟨w.heap.size + 2, 0, none⟩ = some (.int .i64 b.frm) ∧ w'.cell? ⟨w.heap.size + 2, 1, none⟩ = some (.int .i64 b.to) ∧ w'.cell? ⟨w.heap.size + 2, 2, none⟩ = some (.int .i64 b.fin) ∧ w'.cell? ⟨w.heap.size + 2, 3, none⟩ = some (.slice sa2 sn2 sc2) ∧ w'.cell? ⟨w.heap.size + 2, 4, none⟩ = some (.slice na2 nn2 nc2) ∧ w'.cell? ⟨w.heap.size + 2, 5, none⟩ = some (.slice ga2 gn2 gc2) ∧ w'.cell? ⟨w.heap.size + 2, 6, none⟩ = some (.slice za2 zn2 zc2) ∧ w'.cell? ⟨w.heap.size + 2, 7, none⟩ = some (.slice ha2 hn2 hc2) ∧ w'.cell? ⟨w.heap.size + 2, 8, none⟩ = some (.bool b.bare)) := fun w' hb => ⟨(hb.cell (p := ⟨w.heap.size + 1, 0, none⟩) hla).trans qa0, (hb.cell (p := ⟨w.heap.size + 1, 1, none⟩) hla).trans qa1, (hb.cell (p := ⟨w.heap.size + 1, 2, none⟩) hla).trans qa2, (hb.cell (p := ⟨w.heap.size + 1, 3, none⟩) hla).trans qa3, (hb.cell (p := ⟨w.heap.size + 1, 4, none⟩) hla).trans qa4, (hb.cell (p := ⟨w.heap.size + 1, 5, none⟩) hla).trans qa5, (hb.cell (p := ⟨w.heap.size + 1, 6, none⟩) hla).trans qa6, (hb.cell (p := ⟨w.heap.size + 1, 7, none⟩) hla).trans qa7, (hb.cell (p := ⟨w.heap.size + 1, 8, none⟩) hla).trans qa8, (hb.cell (p := ⟨w.heap.size + 2, 0, none⟩) hlb).trans qb0, (hb.cell (p := ⟨w.heap.size + 2, 1, none⟩) hlb).trans qb1, (hb.cell (p := ⟨w.heap.size + 2, 2, none⟩) hlb).trans qb2, (hb.cell (p := ⟨w.heap.size + 2, 3, none⟩) hlb).trans qb3, (hb.cell (p := ⟨w.heap.size + 2, 4, none⟩) hlb).trans qb4, (hb.cell (p := ⟨w.heap.size + 2, 5, none⟩) hlb).trans qb5, (hb.cell (p := ⟨w.heap.size + 2, 6, none⟩) hlb).trans qb6, (hb.cell (p := ⟨w.heap.size + 2, 7, none⟩) hlb).trans qb7, (hb.cell (p := ⟨w.heap.size + 2, 8, none⟩) hlb).trans qb8⟩
 refine wp_region_noPanic ?_
 refine region_upto (S := fun w' => w'.cell? ⟨w.heap.size + 1, 0, none⟩ = some (.int .i64 a.frm) ∧ w'.cell? ⟨w.heap.size + 1, 1, none⟩ = some (.int .i64 a.to) ∧ w'.cell? ⟨w.heap.size + 1, 2, none⟩ = some (.int .i64 a.fin) ∧ w'.cell? ⟨w.heap.size + 1, 3, none⟩ = some (.slice sa1 sn1 sc1) ∧ w'.cell? ⟨w.heap.size + 1, 4, none⟩ = some (.slice na1 nn1 nc1) ∧ w'.cell? ⟨w.heap.size + 1, 5, none⟩ = some (.slice ga1 gn1 gc1) ∧ w'.cell? ⟨w.heap.size + 1, 6, none⟩ = some (.slice za1 zn1 zc1) ∧ w'.cell? ⟨w.heap.size + 1, 7, none⟩ = some (.slice ha1 hn1 hc1) ∧ w'.cell? ⟨w.heap.size + 1, 8, none⟩ = some (.bool a.bare) ∧ w'.cell? ⟨w.heap.size + 2, 0, none⟩ = some (.int .i64 b.frm) ∧ w'.cell? ⟨w.heap.size + 2, 1, none⟩ = some (.int .i64 b.to) ∧ w'.cell? ⟨w.heap.size + 2, 2, none⟩ = some (.int .i64 b.fin) ∧ w'.cell? ⟨w.heap.size + 2, 3, none⟩ = some (.slice sa2 sn2 sc2) ∧ w'.cell? ⟨w.heap.size + 2, 4, none⟩ = some (.slice na2 nn2 nc2) ∧ w'.cell? ⟨w.heap.size + 2, 5, none⟩ = some (.slice ga2 gn2 gc2) ∧ w'.cell? ⟨w.heap.size + 2, 6, none⟩ = some (.slice za2 zn2 zc2) ∧ w'.cell? ⟨w.heap.size + 2, 7, none⟩ = some (.slice ha2 hn2 hc2) ∧ w'.cell? ⟨w.heap.size + 2, 8, none⟩ = some (.bool b.bare)) (n := 6) (by kernel_rfl) ?_
 refine uk 0 ((.agg #[.int .i64 a.frm, .int .i64 a.to, .int .i64 a.fin, .slice sa1 sn1 sc1, .slice na1 nn1 nc1, .slice ga1 gn1 gc1, .slice za1 zn1 zc1, .slice ha1 hn1 hc1, .bool a.bare])) ?_ (hSall _ (by with_reducible repeat (first | exact Below.refl _ _ | assumption | exact below_new _ _ | apply below_drewN | apply Below.drew | refine below_set (Nat.le_refl _) ?_ _ | (refine below_set ?_ ?_ _; omega) | refine Below.alloc ?_ (by first | omega | (simp; omega) | simp) _))) ?_
 ·intro w' hSw
  (try dsimp only at hSw)
  go_simp
 (try simp only [zA, zC, Act.put, zD, zE, zF])
 refine uk 2 ((.agg #[.int .i64 b.frm, .int .i64 b.to, .int .i64 b.fin, .slice sa2 sn2 sc2, .slice na2 nn2 nc2, .slice ga2 gn2 gc2, .slice za2 zn2 zc2, .slice ha2 hn2 hc2, .bool b.bare])) ?_ (hSall _ (by with_reducible repeat (first | exact Below.refl _ _ | assumption | exact below_new _ _ | apply below_drewN | apply Below.drew | refine below_set (Nat.le_refl _) ?_ _ | (refine below_set ?_ ?_ _; omega) | refine Below.alloc ?_ (by first | omega | (simp; omega) | simp) _))) ?_
 ·intro w' hSw
  (try dsimp only at hSw)
  go_simp
 (try simp only [zA, zB, zC, Act.put, zD, zE, zF])
 refine upto_step (i := 1) (by kernel_rfl) rfl (fun K hK => ?_)
 go_simp
 refine (refelems_l (h1.out.below (below_step Hv.out (Below.refl W0.heap.size W0).drew Hv.out.size)) lm1).mono ?_
 rintro en v1 ⟨ax, nx, cx, rfl, hx, hxc, hbx⟩
 have hbx1 : Below W0.heap.size W0 v1 := (Below.refl W0.heap.size W0).drew.trans hbx
 refine hK _ _ (fun _ => (hSall _ (by with_reducible repeat (first | exact Below.refl _ _ | assumption | exact below_new _ _ | apply below_drewN | apply Below.drew | refine below_set (Nat.le_refl _) ?_ _ | (refine below_set ?_ ?_ _; omega) | refine Below.alloc ?_ (by first | omega | (simp; omega) | simp) _)))) ?_
 clear hK K
 (try simp only [zA, zB, zC, Act.put, zD, zE, zF])
 refine upto_step (i := 3) (by kernel_rfl) rfl (fun K hK => ?_)
 go_simp
 refine (refelems_l (h2.out.below (below_step Hv.out hbx1 Hv.out.size)) lm2).mono ?_
 rintro en v2 ⟨ay, ny, cy, rfl, hy, hyc, hb2⟩
 have hbx2 : Below W0.heap.size W0 v2 := below_step hbx1 hb2 hbx1.size
 refine hK _ _ (fun _ => (hSall _ (by with_reducible repeat (first | exact Below.refl _ _ | assumption | exact below_new _ _ | apply below_drewN | apply Below.drew | refine below_set (Nat.le_refl _) ?_ _ | (refine below_set ?_ ?_ _; omega) | refine Below.alloc ?_ (by first | omega | (simp; omega) | simp) _)))) ?_
 clear hK K
 (try simp only [zA, zB, zC, Act.put, zD, zE, zF])
 refine upto_step (i := 4) (by kernel_rfl) rfl (fun K hK => ?_)
 go_simp
 refine hK _ _ (fun _ => (hSall _ (by with_reducible repeat (first | exact Below.refl _ _ | assumption | exact below_new _ _ | apply below_drewN | apply Below.drew | refine below_set (Nat.le_refl _) ?_ _ | (refine below_set ?_ ?_ _; omega) | refine Below.alloc ?_ (by first | omega | (simp; omega) | simp) _)))) ?_
 clear hK K
 (try simp only [zA, zB, zC, Act.put, zD, zE, zF])
 refine upto_step (i := 5) (by kernel_rfl) rfl (fun K hK => ?_)
 go_simp
 refine hK _ _ (fun _ => (hSall _ (by with_reducible repeat (first | exact Below.refl _ _ | assumption | exact below_new _ _ | apply below_drewN | apply Below.drew | refine below_set (Nat.le_refl _) ?_ _ | (refine below_set ?_ ?_ _; omega) | refine Below.alloc ?_ (by first | omega | (simp; omega) | simp) _)))) ?_
 clear hK K
 (try simp only [zA, zB, zC, Act.put, zD, zE, zF])
 refine upto_done (by kernel_rfl) (NoPanic.normal ?_) _
 clear hSall
 have hx2 := hx.below hb2
 have Hv2 := Lib.hid (below_step Hv.out hbx2 Hv.out.size)
 have Hx := Lib.hid hx2
 have Hy := Lib.hid hy
 clear hx hy hbx hbx1 hb2 hbx2 hx2
 clear qa0 qa1 qa2 qa3 qa4 qa5 qa6 qa7 qa8 qb0 qb1 qb2 qb3 qb4 qb5 qb6 qb7 qb8 hla hlb
 obtain ⟨hpl, c0, c1, c2, c3, c4, c5, c6, c7, c8⟩ := HB0.out.below Hv2.out
 dsimp only at c0 c1 c2 c3
 obtain ⟨hla, qa0, qa1, qa2, qa3, qa4, qa5, qa6, qa7, qa8⟩ := HRa.out.below Hv2.out
 dsimp only at qa0 qa1 qa2 qa3 qa4 qa5 qa6 qa7 qa8
 obtain ⟨hlb, qb0, qb1, qb2, qb3, qb4, qb5, qb6, qb7, qb8⟩ := HRb.out.below Hv2.out
 dsimp only at qb0 qb1 qb2 qb3 qb4 qb5 qb6 qb7 qb8
 by_cases e1 : a.frm = b.frm
 ·have d1 : (a.frm == b.frm) = true := by simpa using e1
  have Hn := Lib.hid (show why p a b = 1 by unfold why; rw [if_pos e1])
  clear e1
  go_wp2_with fail
  go_ret
  exact ⟨ret_int Hn.out.symm, below_step Hb0.out Hv2.out Hb0.out.size⟩
 ·have d1 : (a.frm == b.frm) = false := by simpa using e1
  have HM := Lib.hid (meets_any v2 ax ay nx cx ny cy _ _ Hx.out Hy.out)
  cases m2 : meets a.elems b.elems with
  | true =>
   have Hn := Lib.hid (show why p a b = 2 by unfold why; rw [if_neg e1, if_pos m2])
   rw [m2] at HM
   clear e1 m2
   go_wp2_with fail
   refine HM.out.mono ?_
   rintro en v2_ ⟨rfl, rfl⟩
   go_wp2_with fail
   go_ret
   exact ⟨ret_int Hn.out.symm, below_step Hb0.out Hv2.out Hb0.out.size⟩
  | false =>
   rw [m2] at HM
   have HM3 := Lib.hid (meets_any v2 ax za2 nx cx zn2 zc2 _ _ Hx.out (show Ints v2 za2 zn2 b.zone from (h2.out.below Hv2.out).z))
   have HM4 := Lib.hid (meets_any v2 za1 ay zn1 zc1 ny cy _ _ (show Ints v2 za1 zn1 a.zone from (h1.out.below Hv2.out).z) Hy.out)
   cases m3 : meets a.elems b.zone with
   | true =>
    have Hn := Lib.hid (show why p a b = 3 by unfold why; rw [if_neg e1, if_neg (by simp [m2]), if_pos (by simp [m3])])
    rw [m3] at HM3
    clear e1 m2 m3
    go_wp2_with fail
    refine HM.out.mono ?_
    rintro en v2_ ⟨rfl, rfl⟩
    go_wp2_with fail
    refine HM3.out.mono ?_
    rintro en v2_ ⟨rfl, rfl⟩
    go_wp2_with fail
    go_ret
    exact ⟨ret_int Hn.out.symm, below_step Hb0.out Hv2.out Hb0.out.size⟩
   | false =>
    rw [m3] at HM3
    cases m4 : meets a.zone b.elems with
    | true =>
     have Hn := Lib.hid (show why p a b = 3 by unfold why; rw [if_neg e1, if_neg (by simp [m2]), if_pos (by simp [m4])])
     rw [m4] at HM4
     clear e1 m2 m3 m4
     go_wp2_with fail
     refine HM.out.mono ?_
     rintro en v2_ ⟨rfl, rfl⟩
     go_wp2_with fail
     refine HM3.out.mono ?_
     rintro en v2_ ⟨rfl, rfl⟩
     go_wp2_with fail
     refine HM4.out.mono ?_
     rintro en v2_ ⟨rfl, rfl⟩
     go_wp2_with fail
     go_ret
     exact ⟨ret_int Hn.out.symm, below_step Hb0.out Hv2.out Hb0.out.size⟩
    | false =>
     rw [m4] at HM4
     have Hw := Lib.hid (show why p a b = if against a.all b.all then 4 else if bothWays p a.steps b.steps then 5 else 0 by unfold why; rw [if_neg e1, if_neg (by simp [m2]), if_neg (by simp [m3, m4])])
     clear e1 m2 m3 m4
     go_wp2_with fail
     refine HM.out.mono ?_
     rintro en v2_ ⟨rfl, rfl⟩
     go_wp2_with fail
     refine HM3.out.mono ?_
     rintro en v2_ ⟨rfl, rfl⟩
     go_wp2_with fail
     refine HM4.out.mono ?_
     rintro en v2_ ⟨rfl, rfl⟩
     clear HM HM3 HM4
     go_wp2_with fail
     have hSall : ∀ w' : World, Below (v2).heap.size (v2) w' → (w'.cell? ⟨w.heap.size + 1, 0, none⟩ = some (.int .i64 a.frm) ∧ w'.cell? ⟨w.heap.size + 1, 1, none⟩ = some (.int .i64 a.to) ∧ w'.cell? ⟨w.heap.size + 1, 2, none⟩ = some (.int .i64 a.fin) ∧ w'.cell? ⟨w.heap.size + 1, 3, none⟩ = some (.slice sa1 sn1 sc1) ∧ w'.cell? ⟨w.heap.size + 1, 4, none⟩ = some (.slice na1 nn1 nc1) ∧ w'.cell? ⟨w.heap.size + 1, 5, none⟩ = some (.slice ga1 gn1 gc1) ∧ w'.cell? ⟨w.heap.size + 1, 6, none⟩ = some (.slice za1 zn1 zc1) ∧ w'.cell? ⟨w.heap.size + 1, 7, none⟩ = some (.slice ha1 hn1 hc1) ∧ w'.cell? ⟨w.heap.size + 1, 8, none⟩ = some (.bool a.bare) ∧ w'.cell? ⟨w.heap.size + 2, 0, none⟩ = some (.int .i64 b.frm) ∧ w'.cell? ⟨w.heap.size + 2, 1, none⟩ = some (.int .i64 b.to) ∧ w'.cell? ⟨w.heap.size + 2, 2, none⟩ = some (.int .i64 b.fin) ∧ w'.cell? ⟨w.heap.size + 2, 3, none⟩ = some (.slice sa2 sn2 sc2) ∧ w'.cell? ⟨w.heap.size + 2, 4, none⟩ = some (.slice na2 nn2 nc2) ∧ w'.cell? ⟨w.heap.size + 2, 5, none⟩ = some (.slice ga2 gn2 gc2) ∧ w'.cell? ⟨w.heap.size + 2, 6, none⟩ = some (.slice za2 zn2 zc2) ∧ w'.cell? ⟨w.heap.size + 2, 7, none⟩ = some (.slice ha2 hn2 hc2) ∧ w'.cell? ⟨w.heap.size + 2, 8, none⟩ = some (.bool b.bare)) := fun w' hb => ⟨(hb.cell (p := ⟨w.heap.size + 1, 0, none⟩) hla).trans qa0, (hb.cell (p := ⟨w.heap.size + 1, 1, none⟩) hla).trans qa1, (hb.cell (p := ⟨w.heap.size + 1, 2, none⟩) hla).trans qa2, (hb.cell (p := ⟨w.heap.size + 1, 3, none⟩) hla).trans qa3, (hb.cell (p := ⟨w.heap.size + 1, 4, none⟩) hla).trans qa4, (hb.cell (p := ⟨w.heap.size + 1, 5, none⟩) hla).trans qa5, (hb.cell (p := ⟨w.heap.size + 1, 6, none⟩) hla).trans qa6, (hb.cell (p := ⟨w.heap.size + 1, 7, none⟩) hla).trans qa7, (hb.cell (p := ⟨w.heap.size + 1, 8, none⟩) hla).trans qa8, (hb.cell (p := ⟨w.heap.size + 2, 0, none⟩) hlb).trans qb0, (hb.cell (p := ⟨w.heap.size + 2, 1, none⟩) hlb).trans qb1, (hb.cell (p := ⟨w.heap.size + 2, 2, none⟩) hlb).trans qb2, (hb.cell (p := ⟨w.heap.size + 2, 3, none⟩) hlb).trans qb3, (hb.cell (p := ⟨w.heap.size + 2, 4, none⟩) hlb).trans qb4, (hb.cell (p := ⟨w.heap.size + 2, 5, none⟩) hlb).trans qb5, (hb.cell (p := ⟨w.heap.size + 2, 6, none⟩) hlb).trans qb6, (hb.cell (p := ⟨w.heap.size + 2, 7, none⟩) hlb).trans qb7, (hb.cell (p := ⟨w.heap.size + 2, 8, none⟩) hlb).trans qb8⟩
     refine wp_region_noPanic ?_
     refine region_upto (S := fun w' => w'.cell? ⟨w.heap.size + 1, 0, none⟩ = some (.int .i64 a.frm) ∧ w'.cell? ⟨w.heap.size + 1, 1, none⟩ = some (.int .i64 a.to) ∧ w'.cell? ⟨w.heap.size + 1, 2, none⟩ = some (.int .i64 a.fin) ∧ w'.cell? ⟨w.heap.size + 1, 3, none⟩ = some (.slice sa1 sn1 sc1) ∧ w'.cell? ⟨w.heap.size + 1, 4, none⟩ = some (.slice na1 nn1 nc1) ∧ w'.cell? ⟨w.heap.size + 1, 5, none⟩ = some (.slice ga1 gn1 gc1) ∧ w'.cell? ⟨w.heap.size + 1, 6, none⟩ = some (.slice za1 zn1 zc1) ∧ w'.cell? ⟨w.heap.size + 1, 7, none⟩ = some (.slice ha1 hn1 hc1) ∧ w'.cell? ⟨w.heap.size + 1, 8, none⟩ = some (.bool a.bare) ∧ w'.cell? ⟨w.heap.size + 2, 0, none⟩ = some (.int .i64 b.frm) ∧ w'.cell? ⟨w.heap.size + 2, 1, none⟩ = some (.int .i64 b.to) ∧ w'.cell? ⟨w.heap.size + 2, 2, none⟩ = some (.int .i64 b.fin) ∧ w'.cell? ⟨w.heap.size + 2, 3, none⟩ = some (.slice sa2 sn2 sc2) ∧ w'.cell? ⟨w.heap.size + 2, 4, none⟩ = some (.slice na2 nn2 nc2) ∧ w'.cell? ⟨w.heap.size + 2, 5, none⟩ = some (.slice ga2 gn2 gc2) ∧ w'.cell? ⟨w.heap.size + 2, 6, none⟩ = some (.slice za2 zn2 zc2) ∧ w'.cell? ⟨w.heap.size + 2, 7, none⟩ = some (.slice ha2 hn2 hc2) ∧ w'.cell? ⟨w.heap.size + 2, 8, none⟩ = some (.bool b.bare)) (n := 6) (by kernel_rfl) ?_
     refine uk 0 ((.agg #[.int .i64 a.frm, .int .i64 a.to, .int .i64 a.fin, .slice sa1 sn1 sc1, .slice na1 nn1 nc1, .slice ga1 gn1 gc1, .slice za1 zn1 zc1, .slice ha1 hn1 hc1, .bool a.bare])) ?_ (hSall _ (by with_reducible repeat (first | exact Below.refl _ _ | assumption | exact below_new _ _ | apply below_drewN | apply Below.drew | refine below_set (Nat.le_refl _) ?_ _ | (refine below_set ?_ ?_ _; omega) | refine Below.alloc ?_ (by first | omega | (simp; omega) | simp) _))) ?_
     ·intro w' hSw
      (try dsimp only at hSw)
      go_simp
     (try simp only [zA, zC, Act.put, zD, zE, zF])
     refine uk 2 ((.agg #[.int .i64 b.frm, .int .i64 b.to, .int .i64 b.fin, .slice sa2 sn2 sc2, .slice na2 nn2 nc2, .slice ga2 gn2 gc2, .slice za2 zn2 zc2, .slice ha2 hn2 hc2, .bool b.bare])) ?_ (hSall _ (by with_reducible repeat (first | exact Below.refl _ _ | assumption | exact below_new _ _ | apply below_drewN | apply Below.drew | refine below_set (Nat.le_refl _) ?_ _ | (refine below_set ?_ ?_ _; omega) | refine Below.alloc ?_ (by first | omega | (simp; omega) | simp) _))) ?_
     ·intro w' hSw
      (try dsimp only at hSw)
      go_simp
     (try simp only [zA, zB, zC, Act.put, zD, zE, zF])
     refine upto_step (i := 1) (by kernel_rfl) rfl (fun K hK => ?_)
     go_simp
     refine (refall_l (h1.out.below (below_step Hv2.out (Below.refl v2.heap.size v2).drew Hv2.out.size)) lm3 lm4).mono ?_
     rintro en v3 ⟨ax3, nx3, cx3, rfl, hx3, hxc3, hbx, _⟩
     have hbx1 : Below v2.heap.size v2 v3 := (Below.refl v2.heap.size v2).drew.trans hbx
     refine hK _ _ (fun _ => (hSall _ (by with_reducible repeat (first | exact Below.refl _ _ | assumption | exact below_new _ _ | apply below_drewN | apply Below.drew | refine below_set (Nat.le_refl _) ?_ _ | (refine below_set ?_ ?_ _; omega) | refine Below.alloc ?_ (by first | omega | (simp; omega) | simp) _)))) ?_
     clear hK K
     (try simp only [zA, zB, zC, Act.put, zD, zE, zF])
     refine upto_step (i := 3) (by kernel_rfl) rfl (fun K hK => ?_)
     go_simp
     refine (refall_l (h2.out.below (below_step Hv2.out hbx1 Hv2.out.size)) lm5 lm6).mono ?_
     rintro en v4 ⟨ay3, ny3, cy3, rfl, hy3, hyc3, hb2, _⟩
     have hbx2 : Below v2.heap.size v2 v4 := below_step hbx1 hb2 hbx1.size
     refine hK _ _ (fun _ => (hSall _ (by with_reducible repeat (first | exact Below.refl _ _ | assumption | exact below_new _ _ | apply below_drewN | apply Below.drew | refine below_set (Nat.le_refl _) ?_ _ | (refine below_set ?_ ?_ _; omega) | refine Below.alloc ?_ (by first | omega | (simp; omega) | simp) _)))) ?_
     clear hK K
     (try simp only [zA, zB, zC, Act.put, zD, zE, zF])
     refine upto_step (i := 4) (by kernel_rfl) rfl (fun K hK => ?_)
     go_simp
     refine (against_any v4 ax3 ay3 nx3 cx3 ny3 cy3 _ _ (hx3.below hb2) hy3).mono ?_
     rintro en v5 ⟨rfl, hb3⟩
     have hbx3 : Below v2.heap.size v2 v5 := below_step hbx2 hb3 hbx2.size
     refine hK _ _ (fun _ => (hSall _ (by with_reducible repeat (first | exact Below.refl _ _ | assumption | exact below_new _ _ | apply below_drewN | apply Below.drew | refine below_set (Nat.le_refl _) ?_ _ | (refine below_set ?_ ?_ _; omega) | refine Below.alloc ?_ (by first | omega | (simp; omega) | simp) _)))) ?_
     clear hK K
     (try simp only [zA, zB, zC, Act.put, zD, zE, zF])
     refine upto_step (i := 5) (by kernel_rfl) rfl (fun K hK => ?_)
     go_simp
     refine hK _ _ (fun _ => (hSall _ (by with_reducible repeat (first | exact Below.refl _ _ | assumption | exact below_new _ _ | apply below_drewN | apply Below.drew | refine below_set (Nat.le_refl _) ?_ _ | (refine below_set ?_ ?_ _; omega) | refine Below.alloc ?_ (by first | omega | (simp; omega) | simp) _)))) ?_
     clear hK K
     (try simp only [zA, zB, zC, Act.put, zD, zE, zF])
     refine upto_done (by kernel_rfl) (NoPanic.normal ?_) _
     clear hSall
     have Hv3 := Lib.hid (below_step Hv2.out hbx3 Hv2.out.size)
     clear hx3 hy3 hbx hbx1 hb2 hbx2 hb3 hbx3

     clear qa0 qa1 qa2 qa3 qa4 qa5 qa6 qa7 qa8 qb0 qb1 qb2 qb3 qb4 qb5 qb6 qb7 qb8 c0 c1 c2 c3 c4 c5 c6 c7 c8 hpl hla hlb
     obtain ⟨hpl, c0, c1, c2, c3, c4, c5, c6, c7, c8⟩ := HB0.out.below Hv3.out
     dsimp only at c0 c1 c2 c3
     obtain ⟨hla, qa0, qa1, qa2, qa3, qa4, qa5, qa6, qa7, qa8⟩ := HRa.out.below Hv3.out
     dsimp only at qa0 qa1 qa2 qa3 qa4 qa5 qa6 qa7 qa8
     obtain ⟨hlb, qb0, qb1, qb2, qb3, qb4, qb5, qb6, qb7, qb8⟩ := HRb.out.below Hv3.out
     dsimp only at qb0 qb1 qb2 qb3 qb4 qb5 qb6 qb7 qb8

     cases m5 : against a.all b.all with
     | true =>
      have Hn := Lib.hid (show why p a b = 4 by rw [Hw.out, m5]; rfl)
      clear m5 Hw
      go_wp2_with fail
      go_ret
      exact ⟨ret_int Hn.out.symm, below_step Hb0.out Hv3.out Hb0.out.size⟩
     | false =>
      rw [m5] at Hw
      have HB := Lib.hid (bothways_l (HP0.out.below Hv3.out) Hf.out Hc.out (h1.out.below Hv3.out) (h2.out.below Hv3.out))
      cases m6 : bothWays p a.steps b.steps with
      | true =>
       have Hn := Lib.hid (show why p a b = 5 by rw [Hw.out, m6]; rfl)
       rw [m6] at HB
       clear m5 m6 Hw
       go_wp2_with fail
       refine HB.out.mono ?_
       rintro en v6 ⟨rfl, hb6⟩
       have Hv6 := Lib.hid (below_step Hv3.out hb6 Hv3.out.size)
       go_wp2_with fail
       go_ret
       exact ⟨ret_int Hn.out.symm, below_step Hb0.out Hv6.out Hb0.out.size⟩
      | false =>
       have Hn := Lib.hid (show why p a b = 0 by rw [Hw.out, m6]; rfl)
       rw [m6] at HB
       clear m5 m6 Hw
       go_wp2_with fail
       refine HB.out.mono ?_
       rintro en v6 ⟨rfl, hb6⟩
       have Hv6 := Lib.hid (below_step Hv3.out hb6 Hv3.out.size)
       go_wp2_with fail
       go_ret
       exact ⟨ret_int Hn.out.symm, below_step Hb0.out Hv6.out Hb0.out.size⟩
end Go.Proofs.Ytnkpiijljfjmkaa
