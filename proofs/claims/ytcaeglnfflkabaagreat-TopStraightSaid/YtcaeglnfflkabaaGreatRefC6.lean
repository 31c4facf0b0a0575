/- Walk of semaphoreref6.enters. No condition beyond the plan and the row that are read, and that the plan's joins join ports. -/
import Derived.Test.YtcaeglnfflkabaaGreatRefC5
import Derived.Test.YtcaeglnfflkabaaGreatPure
import Derived.Test.YtcaeglnfflkabaaGreatPlanW8
set_option maxRecDepth 1000000
namespace Go.Proofs.YtcaeglnfflkabaaGreat
open Go.RowKit Go.Sort Go.ChangeShapes Go.WideShapes

theorem info_int2 : (Tryz.prog.info? 3).map (fun i => (i.zero, i.size, i.bytes)) = some (some (.int .i64 0), 1, 8) := by kernel_rfl
/-- what lay in w lies in w' -/
structure Still (w w' : World) : Prop where
 out : Below w.heap.size w w'
theorem Still.drew {w w' : World} (h : Still w w') : Still w w'.drew := ⟨h.out.drew⟩
theorem Still.drewN {w w' : World} (h : Still w w') (n : Nat) : Still w (w'.drewN n) := ⟨below_drewN h.out n⟩
theorem Still.below {w w1 w2 : World} (h : Still w w1) (hb : Below w1.heap.size w1 w2) : Still w w2 := ⟨below_step h.out hb h.out.size⟩
theorem name_world {Q : Exit → Act → World → Prop} {e : Exit} {a : Act} {w : World} (h : ∀ W, W = w → Q e a W) : Q e a w := h w rfl
theorem own_far {w : World} {base n size b : Nat} {e : TypeId} {v : Value} {xs : List Value} (h : w.ownsRow base e size v n xs) (hb : w.heap.size ≤ b) : some b ≠ v.ownBlock := fun hk => by
 have := (h.lt b hk.symm).2; omega
theorem Still.refl (w : World) : Still w w := ⟨Below.refl _ _⟩
theorem Still.alloc {w w' : World} (h : Still w w') (o : Obj) : Still w (w'.alloc o) := ⟨h.out.alloc h.out.size o⟩
theorem Still.set {w w' : World} {b o : Nat} (h : Still w w') (hb : w.heap.size ≤ b) (v : Value) : Still w (w'.setCell ⟨b, o, none⟩ v) := ⟨h.out.setCell (p := ⟨b, o, none⟩) hb v⟩
theorem zport_below {w0 w' : World} {T : TypeId} (hb : Below (w0.alloc (.cells #[.int .i64 0, .int .i64 0] T)).drew.heap.size (w0.alloc (.cells #[.int .i64 0, .int .i64 0] T)).drew w') : PortBox w' w0.heap.size zeroPort :=
 PortBox.below (w := (w0.alloc (.cells #[.int .i64 0, .int .i64 0] T)).drew) ((zbox_new w0 rfl T).drewN 1) hb
theorem box_all2 {wr w' : World} {b : Nat} {ae aj as_ al : Option Addr} {ne ce nj cj ns cs nl cl : Nat} {lv : List LineV} {p : Plan} (h : PBox wr b ⟨ae, ne, ce, aj, nj, cj, as_, ns, cs, al, nl, cl, lv⟩ p) {x : Addr} {v : Value} (hx : x.block < wr.heap.size) (hv : wr.cell? x = some v)
  {x2 : Addr} {v2 : Value} (hx2 : x2.block < wr.heap.size) (hv2 : wr.cell? x2 = some v2) (hb : Below wr.heap.size wr w') :
  w'.cell? ⟨b, 0, none⟩ = some (.slice ae ne ce) ∧ w'.cell? ⟨b, 1, none⟩ = some (.slice aj nj cj) ∧ w'.cell? ⟨b, 2, none⟩ = some (.slice as_ ns cs) ∧ w'.cell? ⟨b, 3, none⟩ = some (.slice al nl cl) ∧ w'.cell? ⟨b, 4, none⟩ = some (.int .i64 p.top) ∧
  w'.cell? ⟨b, 5, none⟩ = some (.int .i64 p.brake) ∧ w'.cell? ⟨b, 6, none⟩ = some (.int .i64 p.margin) ∧ w'.cell? ⟨b, 7, none⟩ = some (.int .i64 p.throw) ∧ w'.cell? ⟨b, 8, none⟩ = some (.bool p.hard) ∧ w'.cell? x = some v ∧ w'.cell? x2 = some v2 := by
 obtain ⟨_, c0, c1, c2, c3, c4, c5, c6, c7, c8⟩ := h.below hb
 exact ⟨c0, c1, c2, c3, c4, c5, c6, c7, c8, (hb.cell hx).trans hv, (hb.cell hx2).trans hv2⟩
section
variable {w : World} {ae aj as_ al : Option Addr} {ne ce nj cj ns cs nl cl : Nat} {lv : List LineV} {p : Plan}
theorem refnext_hit {a b : Int} {z : Port} (h : PlanAt w ⟨ae, ne, ce, aj, nj, cj, as_, ns, cs, al, nl, cl, lv⟩ p) (hn : nextOf p ⟨a, b⟩ = some z) : Calls Tryz.prog 119 #[.agg #[.slice ae ne ce, .slice aj nj cj, .slice as_ ns cs, .slice al nl cl, .int .i64 p.top, .int .i64 p.brake, .int .i64 p.margin, .int .i64 p.throw, .bool p.hard], .agg #[.int .i64 a, .int .i64 b]] w fun e w' => e = .returned (.tuple #[.agg #[.int .i64 z.e, .int .i64 z.n], .bool true]) ∧ Below w.heap.size w w' :=
 (refnext_l h).mono fun e w' ⟨h1, h2⟩ => ⟨by rw [h1, hn]; rfl, h2⟩
theorem refnext_miss {a b : Int} (h : PlanAt w ⟨ae, ne, ce, aj, nj, cj, as_, ns, cs, al, nl, cl, lv⟩ p) (hn : nextOf p ⟨a, b⟩ = none) : Calls Tryz.prog 119 #[.agg #[.slice ae ne ce, .slice aj nj cj, .slice as_ ns cs, .slice al nl cl, .int .i64 p.top, .int .i64 p.brake, .int .i64 p.margin, .int .i64 p.throw, .bool p.hard], .agg #[.int .i64 a, .int .i64 b]] w fun e w' => e = .returned (.tuple #[.agg #[.int .i64 0, .int .i64 0], .bool false]) ∧ Below w.heap.size w w' :=
 (refnext_l h).mono fun e w' ⟨h1, h2⟩ => ⟨by rw [h1, hn]; rfl, h2⟩
end

theorem ints_one (w : World) (x : Int) {b : Nat} (hb : w.heap.size = b) : Ints (w.alloc (.cells #[.int .i64 x] 3)) (some ⟨b, 0, none⟩) 1 [x] := by
 subst hb
 refine ⟨rfl, by omega, fun i z hz => ?_⟩
 match i, hz with
 | 0, hz =>
  simp only [List.getElem?_cons_zero, Option.some.injEq] at hz; subst hz
  refine ⟨w.heap.size, 0, rfl, by simp, fun j v hv => ?_⟩
  match j, hv with
  | 0, hv => simp [encInt] at hv; subst hv; go_simp
  | k + 1, hv => simp [encInt] at hv
 | k + 1, hz => simp at hz
/-- what semaphoreref6.enters answers -/
def EntersPost (w : World) (p : Plan) (xs : List Int) (e : Ending) (w' : World) : Prop :=
 ∃ (a : Option Addr) (n c : Nat), e = .returned (.tuple #[.slice a n c, .bool (enters p xs).isSome]) ∧ (∀ l, enters p xs = some l → Ints w' a n l) ∧ Below w.heap.size w w'
theorem enters_no {w w' : World} {p : Plan} {xs : List Int} (h : enters p xs = none) (hb : Below w.heap.size w w') : EntersPost w p xs (.returned (.tuple #[.slice none 0 0, .bool false])) w' :=
 ⟨none, 0, 0, by rw [h]; rfl, fun (l : List Int) (hl : enters p xs = some l) => (by rw [h] at hl; cases hl), hb⟩
theorem enters_yes {w w' : World} {p : Plan} {xs l : List Int} {a : Option Addr} {n c : Nat} (h : enters p xs = some l) (hl : Ints w' a n l) (hb : Below w.heap.size w w') : EntersPost w p xs (.returned (.tuple #[.slice a n c, .bool true])) w' :=
 ⟨a, n, c, by rw [h]; rfl, fun (l' : List Int) (hl' : enters p xs = some l') => (by rw [h] at hl'; cases hl'; exact hl), hb⟩
theorem enters_two {p : Plan} {xs : List Int} {x0 x1 : Int} (h0 : xs[0]? = some x0) (h1 : xs[1]? = some x1) (ha : (xs.all fun e => decide (p.kind e = 1)) = true) :
  enters p xs = if firstOut (nextOf p) x0 x1 < 0 then none else (entersGo (nextOf p) x0 (firstOut (nextOf p) x0 x1) (xs.drop 1)).map ((1 - firstOut (nextOf p) x0 x1) :: ·) := by
 obtain ⟨r, rfl⟩ : ∃ r, xs = x0 :: x1 :: r := by
  have e0 := drop_cons h0
  have e1 := drop_cons h1
  simp only [List.drop_zero, Nat.zero_add] at e0 e1
  exact ⟨xs.drop 2, by rw [← e1]; exact e0⟩
 unfold enters
 rw [if_neg (by simp), ha, if_neg (by simp)]
 rfl

set_option maxHeartbeats 4000000 in
theorem refenters_any (w : World) (pv : PV) (p : Plan) (a : Option Addr) (n c : Nat) (xs : List Int) (h : PlanAt w pv p) (hr : Ints w a n xs) (hn : n ≤ 1000) (hp : ∀ x ∈ flatJoins p.joins, isPort p x = true) :
  Calls Tryz.prog 123 #[pv.val p, .slice a n c] w (EntersPost w p xs) := by
 obtain ⟨ae, ne, ce, aj, nj, cj, as_, ns, cs, al, nl, cl, lv⟩ := pv
 have hP := Lib.hid h
 have Hr := Lib.hid hr
 have hl := Lib.hid hr.len
 have Hports := Lib.hid hp; clear hp
 have HB := Lib.hid (pbox_new w ⟨ae, ne, ce, aj, nj, cj, as_, ns, cs, al, nl, cl, lv⟩ p)
 obtain ⟨ii, hii, zi1, zi2, zi3⟩ := info_parts info_int2
 clear h hr
 dsimp only [PV.val]
 by_cases hn0 : n = 0
 ·subst hn0
  have hxs : xs = [] := List.eq_nil_of_length_eq_zero hl.out
  have Hq := Lib.hid (show enters p xs = none by rw [hxs]; rfl)
  clear hxs
  go_enter Tryz.func123, Tryz.ntmps123
  go_wp2_with fail
  exact bodyPost_ret (v := .tuple #[.slice none 0 0, .bool false]) (by simp [results, Tryz.results123, go_sem]) rfl (enters_no Hq.out (below_new _ _))
 obtain ⟨x0, hx0⟩ := get_some hl.out (show 0 < n by omega)
 obtain ⟨pb, off, rfl, hpb, _⟩ := Hr.out.int hx0
 have Hx0 := Lib.hid hx0; clear hx0
 have hnb : ((n : Int) == 0) = false := by simp; omega
 go_enter Tryz.func123, Tryz.ntmps123
 go_wp2_with fail
 go_loopg [6] n (fun k i wr => ∃ (j : Nat), j + k = n ∧ i = .int .i64 j ∧ Hid ((xs.drop j).all (fun e => decide (p.kind e = 1)) = xs.all (fun e => decide (p.kind e = 1))) ∧ PBox wr w.heap.size ⟨ae, ne, ce, aj, nj, cj, as_, ns, cs, al, nl, cl, lv⟩ p ∧ Below w.heap.size w wr)
 case atStart => exact ⟨0, by omega, rfl, rfl, HB.out, below_new _ _⟩
 case round =>
  clear HB
  obtain ⟨j, hk, rfl, hr, hB, hb⟩ := hrel
  have Hk := Lib.hid hk; clear hk
  have HB := Lib.hid hB; clear hB
  have Hb := Lib.hid hb; clear hb
  have HPr := Lib.hid (hP.out.below Hb.out)
  obtain ⟨_, c0, c1, c2, c3, c4, c5, c6, c7, c8⟩ := HB.out
  dsimp only at c0 c1 c2 c3
  by_cases hlt : j < n
  ·obtain ⟨y, hy⟩ := get_some hl.out hlt
   have g1 := (Hb.out.cell (p := ⟨pb, off + j, none⟩) hpb).trans (Hr.out.int' hy).2
   have Hd := Lib.hid (drop_cons hy); clear hy
   by_cases hk1 : p.kind y = 1
   ·have q1 : (p.kind y != 1) = false := by simp [hk1]
    have Hn := Lib.hid (show (xs.drop (j + 1)).all (fun e => decide (p.kind e = 1)) = xs.all (fun e => decide (p.kind e = 1)) by rw [← hr.out, Hd.out]; simp [hk1])
    clear hk1
    go_wp2_with fail
    have c0q := fun d os => cell_regrown c0 d os
    have c1q := fun d os => cell_regrown c1 d os
    have c2q := fun d os => cell_regrown c2 d os
    have c3q := fun d os => cell_regrown c3 d os
    have c4q := fun d os => cell_regrown c4 d os
    have c5q := fun d os => cell_regrown c5 d os
    have c6q := fun d os => cell_regrown c6 d os
    have c7q := fun d os => cell_regrown c7 d os
    have c8q := fun d os => cell_regrown c8 d os
    have g1q := fun d os => cell_regrown g1 d os
    have cq0 : ∀ d os, Calls Tryz.prog 120 #[.agg #[.slice ae ne ce, .slice aj nj cj, .slice as_ ns cs, .slice al nl cl, .int .i64 p.top, .int .i64 p.brake, .int .i64 p.margin, .int .i64 p.throw, .bool p.hard], .int .i64 y] (grow (redrawn wr d) os) fun e w'' => e = .returned (.int .i64 (p.kind y)) ∧ ∃ rg : Regrown, w'' = grow (redrawn wr rg.d) rg.os := fun d os => Calls.regrown_of (kindU_l (HPr.out.below (below_regrown _ d os)))
    refine wp_region_quiet_below (by kernel_rfl) (by kernel_rfl) ?_
    repeat (quiet_step (first | exact cq0 _ _))
    refine wpQuiet_nil ?_
    intro w2 hw'
    have hb2 : Below wr.heap.size wr w2 := by obtain ⟨⟨d, os⟩, rfl⟩ := hw'; exact below_regrown _ d os
    clear hw' c0q c1q c2q c3q c4q c5q c6q c7q c8q g1q cq0
    go_wp2_with fail
    go_roundg (gk - 1)
    case measure => have := Hk.out; omega
    case rel => exact ⟨j + 1, by have := Hk.out; omega, by go_num, Hn.out, HB.out.below hb2, below_step Hb.out hb2 Hb.out.size⟩
   ·have q1 : (p.kind y != 1) = true := by rw [bne_iff_ne]; exact hk1
    have Hq := Lib.hid (show enters p xs = none by
     unfold enters
     have hf : (xs.all fun e => decide (p.kind e = 1)) = false := by rw [← hr.out, Hd.out]; simp [hk1]
     rw [hf]; simp)
    clear hk1
    go_wp2_with fail
    have c0q := fun d os => cell_regrown c0 d os
    have c1q := fun d os => cell_regrown c1 d os
    have c2q := fun d os => cell_regrown c2 d os
    have c3q := fun d os => cell_regrown c3 d os
    have c4q := fun d os => cell_regrown c4 d os
    have c5q := fun d os => cell_regrown c5 d os
    have c6q := fun d os => cell_regrown c6 d os
    have c7q := fun d os => cell_regrown c7 d os
    have c8q := fun d os => cell_regrown c8 d os
    have g1q := fun d os => cell_regrown g1 d os
    have cq0 : ∀ d os, Calls Tryz.prog 120 #[.agg #[.slice ae ne ce, .slice aj nj cj, .slice as_ ns cs, .slice al nl cl, .int .i64 p.top, .int .i64 p.brake, .int .i64 p.margin, .int .i64 p.throw, .bool p.hard], .int .i64 y] (grow (redrawn wr d) os) fun e w'' => e = .returned (.int .i64 (p.kind y)) ∧ ∃ rg : Regrown, w'' = grow (redrawn wr rg.d) rg.os := fun d os => Calls.regrown_of (kindU_l (HPr.out.below (below_regrown _ d os)))
    refine wp_region_quiet_below (by kernel_rfl) (by kernel_rfl) ?_
    repeat (quiet_step (first | exact cq0 _ _))
    refine wpQuiet_nil ?_
    intro w2 hw'
    have hb2 : Below wr.heap.size wr w2 := by obtain ⟨⟨d, os⟩, rfl⟩ := hw'; exact below_regrown _ d os
    clear hw' c0q c1q c2q c3q c4q c5q c6q c7q c8q g1q cq0
    go_wp2_with fail
    exact bodyPost_ret (v := .tuple #[.slice none 0 0, .bool false]) (by simp [results, Tryz.results123, go_sem]) rfl (enters_no Hq.out (below_step Hb.out hb2 Hb.out.size))
  ·have Hall := Lib.hid (show (xs.all fun e => decide (p.kind e = 1)) = true by rw [← hr.out, drop_end hl.out (by omega)]; rfl)
   clear hr Hk
   by_cases hn1 : n = 1
   ·have hnb1 : ((n : Int) == 1) = true := by simp; omega
    have Hq := Lib.hid (show enters p xs = some [0] by
     have e0 := drop_cons Hx0.out
     rw [List.drop_zero, drop_end hl.out (show n ≤ 0 + 1 by omega)] at e0
     unfold enters
     rw [Hall.out, if_neg (by rw [e0]; simp), if_neg (by simp), e0])
    clear hn1
    go_wp2_with fail
    exact bodyPost_ret (v := .tuple #[.slice (some ⟨wr.heap.size, 0, none⟩) 1 1, .bool true]) (by simp [results, Tryz.results123, go_sem]) rfl (enters_yes Hq.out (ints_one wr 0 rfl) (below_step Hb.out (by repeat (first | with_reducible exact Below.refl _ _ | with_reducible assumption | with_reducible apply below_drewN | with_reducible apply Below.drew | with_reducible refine Below.alloc ?_ (by simp <;> omega) _)) Hb.out.size))
   ·have hnb1 : ((n : Int) == 1) = false := by simp; omega
    obtain ⟨x1, hx1⟩ := get_some hl.out (show 1 < n by omega)
    have Hx1 := Lib.hid hx1; clear hx1
    have Hq := Lib.hid (enters_two Hx0.out Hx1.out Hall.out)
    go_wp2_with fail
    clear hlt
    go_loopg [7, 8] 2 (fun k o e wr => k ≤ 2 ∧ e = .int .i64 ((k : Int) - 1) ∧ o = .int .i64 (outAt (nextOf p) x0 x1 k) ∧ PBox wr w.heap.size ⟨ae, ne, ce, aj, nj, cj, as_, ns, cs, al, nl, cl, lv⟩ p ∧ Below w.heap.size w wr)
    case atStart => exact ⟨by omega, rfl, rfl, HB.out, Hb.out⟩
    case round =>
     clear HB Hb HPr c0 c1 c2 c3 c4 c5 c6 c7 c8
     obtain ⟨hk, rfl, rfl, hB, hb⟩ := hrel
     have HB := Lib.hid hB; clear hB
     have Hb := Lib.hid hb; clear hb
     have HPr := Lib.hid (hP.out.below Hb.out)
     obtain ⟨_, c0, c1, c2, c3, c4, c5, c6, c7, c8⟩ := HB.out
     dsimp only at c0 c1 c2 c3
     obtain ⟨o1, o2⟩ := outAt_ge (nextOf p) x0 x1 gk
     have g0 := (Hb.out.cell (p := ⟨pb, off, none⟩) hpb).trans (Hr.out.int' Hx0.out).2
     have g1 := (Hb.out.cell (p := ⟨pb, off + 1, none⟩) hpb).trans (Hr.out.int' Hx1.out).2
     have hnI : (0 : Int) < (n : Int) := by omega
     have hnN : 0 < n := by omega
     have hnJ : (1 : Int) < (n : Int) := by omega
     have hwz : w.heap.size ≤ wr.heap.size := Hb.out.size
     have hpb2 : pb < wr.heap.size := by omega
     cases gk with
     | zero =>
      by_cases ho : firstOut (nextOf p) x0 x1 < 0
      ·have Hq2 := Lib.hid (show enters p xs = none by rw [Hq.out, if_pos ho])
       have ho' : outAt (nextOf p) x0 x1 0 < 0 := ho
       clear ho
       go_wp2_with fail
       exact bodyPost_ret (v := .tuple #[.slice none 0 0, .bool false]) (by simp [results, Tryz.results123, go_sem]) rfl (enters_no Hq2.out Hb.out)
      ·have Hq2 := Lib.hid (show enters p xs = (entersGo (nextOf p) x0 (outAt (nextOf p) x0 x1 0) (xs.drop 1)).map ((1 - outAt (nextOf p) x0 x1 0) :: ·) by rw [Hq.out, if_neg ho]; rfl)
       have ho' : 0 ≤ outAt (nextOf p) x0 x1 0 := by show 0 ≤ firstOut (nextOf p) x0 x1; omega
       clear ho
       obtain ⟨out0, hout0⟩ : ∃ o, outAt (nextOf p) x0 x1 0 = o := ⟨_, rfl⟩
       rw [hout0] at ho' o1 o2 Hq2
       rw [hout0]
       clear hout0
       have own0 : OwnI (wr.alloc (.cells #[.int .i64 (1 - out0)] 3)) (w.heap.size + 1) (.slice (some ⟨wr.heap.size, 0, none⟩) 1 1) 1 [1 - out0] :=
        World.ownsRow_lit (base := w.heap.size + 1) (size := 1) (e := 3) wr #[.int .i64 (1 - out0)] 1 (by have := HB.out.lt; omega) (by simp [maxLen]) (by simp)
       have Own0 := Lib.hid own0; clear own0
       go_wp2_with fail
       go_loopg [7, 11, 12] n (fun k o v i wr => ∃ (j : Nat) (out y : Int) (acc : List Int), j + k = n ∧ i = .int .i64 ((j : Int) + 1) ∧ o = .int .i64 out ∧ -3 ≤ out ∧ out ≤ 1 ∧ Hid (xs[j]? = some y) ∧ OwnI wr (w.heap.size + 1) v (j + 1) acc ∧ Hid ((entersGo (nextOf p) y out (xs.drop (j + 1))).map (acc ++ ·) = enters p xs) ∧ PBox wr w.heap.size ⟨ae, ne, ce, aj, nj, cj, as_, ns, cs, al, nl, cl, lv⟩ p ∧ Below w.heap.size w wr)
       case atStart => exact ⟨0, out0, x0, [1 - out0], by omega, rfl, rfl, by omega, by omega, Hx0.out, Own0.out, Hq2.out.symm, HB.out.alloc _, Hb.out.alloc Hb.out.size _⟩
       case round =>
        clear HB Hb HPr c0 c1 c2 c3 c4 c5 c6 c7 c8 g0 g1 Own0 o1 o2 ho' hwz hpb2 Hq2 Hq
        obtain ⟨j, out, y, acc, hk, rfl, rfl, o1, o2, hy, own, hr, hB, hb⟩ := hrel
        have Hk := Lib.hid hk; clear hk
        have HB := Lib.hid hB; clear hB
        have Hb := Lib.hid hb; clear hb
        have Own := Lib.hid own; clear own
        have HPr := Lib.hid (hP.out.below Hb.out)
        obtain ⟨_, c0, c1, c2, c3, c4, c5, c6, c7, c8⟩ := HB.out
        dsimp only at c0 c1 c2 c3
        have hwz : w.heap.size ≤ wr.heap.size := Hb.out.size
        have hpb2 : pb < wr.heap.size := by omega
        have hjn : j < n := get_lt hl.out hy.out
        have g0 := (Hb.out.cell (p := ⟨pb, off + j, none⟩) hpb).trans (Hr.out.int' hy.out).2
        by_cases hlt : j + 1 < n
        ·obtain ⟨y2, hy2⟩ := get_some hl.out hlt
         have Hy2 := Lib.hid hy2; clear hy2
         have g1 := (Hb.out.cell (p := ⟨pb, off + (j + 1), none⟩) hpb).trans (Hr.out.int' Hy2.out).2
         have Hd := Lib.hid (drop_cons Hy2.out)
         have t1 : ((j : Int) + 1).toNat = j + 1 := by omega
         have t2 : (0 : Int) ≤ (j : Int) + 1 := by omega
         have t3 : (j : Int) + 1 < (n : Int) := by omega
         have t4 : (j : Int) + 1 - 1 = (j : Int) := by omega
         have t5 : (j : Int) < (n : Int) := by omega
         have hwr1 : IntKind.i64.wrap ((j : Int) + 1 - 1) = (j : Int) := by rw [t4]; exact IntWalk.i64_in _ (by omega)
         have hwr2 : IntKind.i64.wrap (j : Int) = (j : Int) := IntWalk.i64_in _ (by omega)
         have t0 : (0 : Int) ≤ (j : Int) := by omega
         have hT := Still.refl wr
         cases hx : nextOf p ⟨y, out⟩ with
         | none =>
          have Hf := Lib.hid (show enters p xs = none by rw [← hr.out, Hd.out, entersGo, hx]; rfl)
          go_wp2_with fail
          first | go_region_held3 (fun w' => w'.cell? ⟨w.heap.size, 0, none⟩ = some (.slice ae ne ce) ∧ w'.cell? ⟨w.heap.size, 1, none⟩ = some (.slice aj nj cj) ∧ w'.cell? ⟨w.heap.size, 2, none⟩ = some (.slice as_ ns cs) ∧ w'.cell? ⟨w.heap.size, 3, none⟩ = some (.slice al nl cl) ∧ w'.cell? ⟨w.heap.size, 4, none⟩ = some (.int .i64 p.top) ∧ w'.cell? ⟨w.heap.size, 5, none⟩ = some (.int .i64 p.brake) ∧ w'.cell? ⟨w.heap.size, 6, none⟩ = some (.int .i64 p.margin) ∧ w'.cell? ⟨w.heap.size, 7, none⟩ = some (.int .i64 p.throw) ∧ w'.cell? ⟨w.heap.size, 8, none⟩ = some (.bool p.hard) ∧ w'.cell? ⟨pb, off + j, none⟩ = some (.int .i64 y) ∧ w'.cell? ⟨pb, off + (j + 1), none⟩ = some (.int .i64 y2))
           (first | exact box_all2 HB.out hpb2 g0 hpb2 g1 (Still.out (by repeat (first | with_reducible exact hT | with_reducible apply Still.drew | with_reducible apply Still.drewN | with_reducible apply Still.alloc | (with_reducible refine Still.set ?_ (by omega) _)))) | go_keep)
           (first
            | (go_at_call 119; with_reducible refine (refnext_miss (HPr.out.below (Still.out (by repeat (first | with_reducible exact hT | with_reducible apply Still.drew | with_reducible apply Still.drewN | with_reducible apply Still.alloc | (with_reducible refine Still.set ?_ (by omega) _))))) hx).mono ?_; rintro e w' ⟨rfl, hbx⟩; have hZ : PortBox w' wr.heap.size zeroPort := zport_below (w0 := wr) hbx; have hT := Still.below (by repeat (first | with_reducible exact hT | with_reducible apply Still.drew | with_reducible apply Still.drewN | with_reducible apply Still.alloc | (with_reducible refine Still.set ?_ (by omega) _))) hbx; clear hbx; obtain ⟨zl, z0, z1, zf0, zf1⟩ := hZ)
            | (go_at_call 119; with_reducible refine (refnext_miss (HPr.out.below (Still.out (by repeat (first | with_reducible exact hT | with_reducible apply Still.drew | with_reducible apply Still.drewN | with_reducible apply Still.alloc | (with_reducible refine Still.set ?_ (by omega) _))))) hx).mono ?_; rintro e w' ⟨rfl, hbx⟩; have hT := Still.below (by repeat (first | with_reducible exact hT | with_reducible apply Still.drew | with_reducible apply Still.drewN | with_reducible apply Still.alloc | (with_reducible refine Still.set ?_ (by omega) _))) hbx; clear hbx)) | fail
          all_goals
           go_wp2_with fail
           go_quiet (fail)
           go_wp2_with fail
           exact bodyPost_ret (v := .tuple #[.slice none 0 0, .bool false]) (by simp [results, Tryz.results123, go_sem]) rfl (enters_no Hf.out (below_step Hb.out (below_drewN (Still.out (by repeat (first | with_reducible exact hT | with_reducible apply Still.drew | with_reducible apply Still.drewN | with_reducible apply Still.alloc | (with_reducible refine Still.set ?_ (by omega) _)))) _) Hb.out.size))
         | some x =>
          obtain ⟨u1, u2, u3, u4⟩ := isPort_iff.1 (Hports.out x (nextIn_some hx).2)
          have u5 := (ends_nonneg (p.kind x.e)).2
          have u6 : x.n ≤ 3 := by omega
          clear u1 u2 u4 u5
          by_cases hq : x.e = y2
          ·have q1 : (x.e != y2) = false := by simp [hq]
           have Hf := Lib.hid (show (entersGo (nextOf p) y2 (1 - x.n) (xs.drop (j + 1 + 1))).map ((acc ++ [x.n]) ++ ·) = enters p xs by
            rw [← hr.out, Hd.out, entersGo, hx]
            simp only [hq, if_true]
            rw [Option.map_map]; congr 1; funext l; simp)
           clear hq
           go_wp2_with fail
           first | go_region_held3 (fun w' => w'.cell? ⟨w.heap.size, 0, none⟩ = some (.slice ae ne ce) ∧ w'.cell? ⟨w.heap.size, 1, none⟩ = some (.slice aj nj cj) ∧ w'.cell? ⟨w.heap.size, 2, none⟩ = some (.slice as_ ns cs) ∧ w'.cell? ⟨w.heap.size, 3, none⟩ = some (.slice al nl cl) ∧ w'.cell? ⟨w.heap.size, 4, none⟩ = some (.int .i64 p.top) ∧ w'.cell? ⟨w.heap.size, 5, none⟩ = some (.int .i64 p.brake) ∧ w'.cell? ⟨w.heap.size, 6, none⟩ = some (.int .i64 p.margin) ∧ w'.cell? ⟨w.heap.size, 7, none⟩ = some (.int .i64 p.throw) ∧ w'.cell? ⟨w.heap.size, 8, none⟩ = some (.bool p.hard) ∧ w'.cell? ⟨pb, off + j, none⟩ = some (.int .i64 y) ∧ w'.cell? ⟨pb, off + (j + 1), none⟩ = some (.int .i64 y2))
            (first | exact box_all2 HB.out hpb2 g0 hpb2 g1 (Still.out (by repeat (first | with_reducible exact hT | with_reducible apply Still.drew | with_reducible apply Still.drewN | with_reducible apply Still.alloc | (with_reducible refine Still.set ?_ (by omega) _)))) | go_keep)
            (first
             | (go_at_call 119; with_reducible refine (refnext_hit (HPr.out.below (Still.out (by repeat (first | with_reducible exact hT | with_reducible apply Still.drew | with_reducible apply Still.drewN | with_reducible apply Still.alloc | (with_reducible refine Still.set ?_ (by omega) _))))) hx).mono ?_; rintro e w' ⟨rfl, hbx⟩; have hZ : PortBox w' wr.heap.size zeroPort := zport_below (w0 := wr) hbx; have hT := Still.below (by repeat (first | with_reducible exact hT | with_reducible apply Still.drew | with_reducible apply Still.drewN | with_reducible apply Still.alloc | (with_reducible refine Still.set ?_ (by omega) _))) hbx; clear hbx; obtain ⟨zl, z0, z1, zf0, zf1⟩ := hZ)
             | (go_at_call 119; with_reducible refine (refnext_hit (HPr.out.below (Still.out (by repeat (first | with_reducible exact hT | with_reducible apply Still.drew | with_reducible apply Still.drewN | with_reducible apply Still.alloc | (with_reducible refine Still.set ?_ (by omega) _))))) hx).mono ?_; rintro e w' ⟨rfl, hbx⟩; have hT := Still.below (by repeat (first | with_reducible exact hT | with_reducible apply Still.drew | with_reducible apply Still.drewN | with_reducible apply Still.alloc | (with_reducible refine Still.set ?_ (by omega) _))) hbx; clear hbx)) | fail
           ·go_wp2_with fail
            go_quiet (fail)
            refine name_world fun W hW => ?_
            have hS : Below wr.heap.size wr W := by rw [hW]; exact below_drewN (Still.out (by repeat (first | with_reducible exact hT | with_reducible apply Still.drew | with_reducible apply Still.drewN | with_reducible apply Still.alloc | (with_reducible refine Still.set ?_ (by omega) _)))) _
            have hX : W.cell? ⟨w'.heap.size, 1, none⟩ = some (.int .i64 x.n) := by rw [hW]; go_simp
            have OwnW := Lib.hid (owns_below Own.out hS)
            have HBW := Lib.hid (HB.out.below hS)
            have HbW := Lib.hid (below_step Hb.out hS hwz)
            have hlW := HBW.out.lt
            have hXl : w'.heap.size < W.heap.size := block_lt_of_cell hX
            have hXn := own_far Own.out (b := w'.heap.size) (hT.out.size)
            clear hW hS
            go_wp2_with (at_builtin; refine wpList_append_own _ rfl _ _ 48 rfl (w.heap.size + 1) 3 ii (.int .i64 0) 1 8 Tryz.underlying48 hii zi1 zi2 zi3 rfl (by decide) _ _ _ rfl (OwnW.out.alloc _) ⟨W.heap.size, 0, none⟩ 1 1 [.int .i64 x.n] rfl rfl (cell_one_new _ _ _) (one_int _ _) (by simp [maxLen]; omega) (by omega) (by simp; omega) ?_)
            intro v' w4 hown4 hgrow4 _
            have hb4 := Lib.hid (grown_below (HbW.out.alloc HbW.out.size (.cells #[.int .i64 x.n] 3)) (OwnW.out.alloc (.cells #[.int .i64 x.n] 3)) (by omega) (by have := HbW.out.size; simp; omega) hgrow4)
            have hB4 := Lib.hid ((HBW.out.alloc (.cells #[.int .i64 x.n] 3)).kept hgrow4 (own_ne (OwnW.out.alloc (.cells #[.int .i64 x.n] 3)) (by omega)))
            have hX4 : w4.cell? ⟨w'.heap.size, 1, none⟩ = some (.int .i64 x.n) := (hgrow4.cell_far ⟨w'.heap.size, 1, none⟩ (by show w'.heap.size < (W.alloc _).heap.size; simp; omega) hXn).trans (((below_new W (.cells #[.int .i64 x.n] 3)).cell (p := ⟨w'.heap.size, 1, none⟩) hXl).trans hX)
            have Own4 := Lib.hid (own_append1 hown4); clear hown4 hgrow4 hX
            go_wp2_with fail
            go_roundg (n - j - 1)
            case measure => have := Hk.out; omega
            case rel => exact ⟨j + 1, 1 - x.n, y2, acc ++ [x.n], by have := Hk.out; omega, by go_num, rfl, by omega, by omega, Hy2.out, Own4.out, Hf.out, hB4.out, hb4.out⟩
           ·go_wp2_with fail
            go_quiet (fail)
            refine name_world fun W hW => ?_
            have hS : Below wr.heap.size wr W := by rw [hW]; exact below_drewN (Still.out (by repeat (first | with_reducible exact hT | with_reducible apply Still.drew | with_reducible apply Still.drewN | with_reducible apply Still.alloc | (with_reducible refine Still.set ?_ (by omega) _)))) _
            have hX : W.cell? ⟨wr.heap.size, 1, none⟩ = some (.int .i64 x.n) := by rw [hW]; go_simp
            have OwnW := Lib.hid (owns_below Own.out hS)
            have HBW := Lib.hid (HB.out.below hS)
            have HbW := Lib.hid (below_step Hb.out hS hwz)
            have hlW := HBW.out.lt
            have hXl : wr.heap.size < W.heap.size := block_lt_of_cell hX
            have hXn := own_far Own.out (b := wr.heap.size) (Nat.le_refl _)
            clear hW hS
            go_wp2_with (at_builtin; refine wpList_append_own _ rfl _ _ 48 rfl (w.heap.size + 1) 3 ii (.int .i64 0) 1 8 Tryz.underlying48 hii zi1 zi2 zi3 rfl (by decide) _ _ _ rfl (OwnW.out.alloc _) ⟨W.heap.size, 0, none⟩ 1 1 [.int .i64 x.n] rfl rfl (cell_one_new _ _ _) (one_int _ _) (by simp [maxLen]; omega) (by omega) (by simp; omega) ?_)
            intro v' w4 hown4 hgrow4 _
            have hb4 := Lib.hid (grown_below (HbW.out.alloc HbW.out.size (.cells #[.int .i64 x.n] 3)) (OwnW.out.alloc (.cells #[.int .i64 x.n] 3)) (by omega) (by have := HbW.out.size; simp; omega) hgrow4)
            have hB4 := Lib.hid ((HBW.out.alloc (.cells #[.int .i64 x.n] 3)).kept hgrow4 (own_ne (OwnW.out.alloc (.cells #[.int .i64 x.n] 3)) (by omega)))
            have hX4 : w4.cell? ⟨wr.heap.size, 1, none⟩ = some (.int .i64 x.n) := (hgrow4.cell_far ⟨wr.heap.size, 1, none⟩ (by show wr.heap.size < (W.alloc _).heap.size; simp; omega) hXn).trans (((below_new W (.cells #[.int .i64 x.n] 3)).cell (p := ⟨wr.heap.size, 1, none⟩) hXl).trans hX)
            have Own4 := Lib.hid (own_append1 hown4); clear hown4 hgrow4 hX
            go_wp2_with fail
            go_roundg (n - j - 1)
            case measure => have := Hk.out; omega
            case rel => exact ⟨j + 1, 1 - x.n, y2, acc ++ [x.n], by have := Hk.out; omega, by go_num, rfl, by omega, by omega, Hy2.out, Own4.out, Hf.out, hB4.out, hb4.out⟩
          ·have q1 : (x.e != y2) = true := by rw [bne_iff_ne]; exact hq
           have Hf := Lib.hid (show enters p xs = none by rw [← hr.out, Hd.out, entersGo, hx]; simp [hq])
           clear hq
           go_wp2_with fail
           first | go_region_held3 (fun w' => w'.cell? ⟨w.heap.size, 0, none⟩ = some (.slice ae ne ce) ∧ w'.cell? ⟨w.heap.size, 1, none⟩ = some (.slice aj nj cj) ∧ w'.cell? ⟨w.heap.size, 2, none⟩ = some (.slice as_ ns cs) ∧ w'.cell? ⟨w.heap.size, 3, none⟩ = some (.slice al nl cl) ∧ w'.cell? ⟨w.heap.size, 4, none⟩ = some (.int .i64 p.top) ∧ w'.cell? ⟨w.heap.size, 5, none⟩ = some (.int .i64 p.brake) ∧ w'.cell? ⟨w.heap.size, 6, none⟩ = some (.int .i64 p.margin) ∧ w'.cell? ⟨w.heap.size, 7, none⟩ = some (.int .i64 p.throw) ∧ w'.cell? ⟨w.heap.size, 8, none⟩ = some (.bool p.hard) ∧ w'.cell? ⟨pb, off + j, none⟩ = some (.int .i64 y) ∧ w'.cell? ⟨pb, off + (j + 1), none⟩ = some (.int .i64 y2))
            (first | exact box_all2 HB.out hpb2 g0 hpb2 g1 (Still.out (by repeat (first | with_reducible exact hT | with_reducible apply Still.drew | with_reducible apply Still.drewN | with_reducible apply Still.alloc | (with_reducible refine Still.set ?_ (by omega) _)))) | go_keep)
            (first
             | (go_at_call 119; with_reducible refine (refnext_hit (HPr.out.below (Still.out (by repeat (first | with_reducible exact hT | with_reducible apply Still.drew | with_reducible apply Still.drewN | with_reducible apply Still.alloc | (with_reducible refine Still.set ?_ (by omega) _))))) hx).mono ?_; rintro e w' ⟨rfl, hbx⟩; have hZ : PortBox w' wr.heap.size zeroPort := zport_below (w0 := wr) hbx; have hT := Still.below (by repeat (first | with_reducible exact hT | with_reducible apply Still.drew | with_reducible apply Still.drewN | with_reducible apply Still.alloc | (with_reducible refine Still.set ?_ (by omega) _))) hbx; clear hbx; obtain ⟨zl, z0, z1, zf0, zf1⟩ := hZ)
             | (go_at_call 119; with_reducible refine (refnext_hit (HPr.out.below (Still.out (by repeat (first | with_reducible exact hT | with_reducible apply Still.drew | with_reducible apply Still.drewN | with_reducible apply Still.alloc | (with_reducible refine Still.set ?_ (by omega) _))))) hx).mono ?_; rintro e w' ⟨rfl, hbx⟩; have hT := Still.below (by repeat (first | with_reducible exact hT | with_reducible apply Still.drew | with_reducible apply Still.drewN | with_reducible apply Still.alloc | (with_reducible refine Still.set ?_ (by omega) _))) hbx; clear hbx)) | fail
           all_goals
            go_wp2_with fail
            go_quiet (fail)
            go_wp2_with fail
            exact bodyPost_ret (v := .tuple #[.slice none 0 0, .bool false]) (by simp [results, Tryz.results123, go_sem]) rfl (enters_no Hf.out (below_step Hb.out (below_drewN (Still.out (by repeat (first | with_reducible exact hT | with_reducible apply Still.drew | with_reducible apply Still.drewN | with_reducible apply Still.alloc | (with_reducible refine Still.set ?_ (by omega) _)))) _) Hb.out.size))
        ·have Hf := Lib.hid (show enters p xs = some acc by rw [← hr.out, drop_end hl.out (by omega)]; simp [entersGo])
         obtain ⟨av, cv, rfl, _, _⟩ := own_slice Own.out
         go_wp2_with fail
         exact bodyPost_ret (v := .tuple #[.slice av (j + 1) cv, .bool true]) (by simp [results, Tryz.results123, go_sem]) rfl (enters_yes Hf.out (own_ints Own.out).1 Hb.out)
     | succ k =>
      have hk1 : k ≤ 1 := by omega
      rw [show ((k + 1 : Nat) : Int) - 1 = (k : Int) from by omega]
      have Hs := Lib.hid (outAt_step (nextOf p) x0 x1 hk1)
      have hT := Still.refl wr
      cases hx : nextOf p ⟨x0, k⟩ with
      | none =>
       have Ho := Lib.hid (show outAt (nextOf p) x0 x1 k = outAt (nextOf p) x0 x1 (k + 1) by rw [Hs.out, leads_miss hx]; rfl)
       go_wp2_with fail
       first | go_region_held3 (fun w' => w'.cell? ⟨w.heap.size, 0, none⟩ = some (.slice ae ne ce) ∧ w'.cell? ⟨w.heap.size, 1, none⟩ = some (.slice aj nj cj) ∧ w'.cell? ⟨w.heap.size, 2, none⟩ = some (.slice as_ ns cs) ∧ w'.cell? ⟨w.heap.size, 3, none⟩ = some (.slice al nl cl) ∧ w'.cell? ⟨w.heap.size, 4, none⟩ = some (.int .i64 p.top) ∧ w'.cell? ⟨w.heap.size, 5, none⟩ = some (.int .i64 p.brake) ∧ w'.cell? ⟨w.heap.size, 6, none⟩ = some (.int .i64 p.margin) ∧ w'.cell? ⟨w.heap.size, 7, none⟩ = some (.int .i64 p.throw) ∧ w'.cell? ⟨w.heap.size, 8, none⟩ = some (.bool p.hard) ∧ w'.cell? ⟨pb, off, none⟩ = some (.int .i64 x0) ∧ w'.cell? ⟨pb, off + 1, none⟩ = some (.int .i64 x1))
        (first | exact box_all2 HB.out hpb2 g0 hpb2 g1 (Still.out (by repeat (first | with_reducible exact hT | with_reducible apply Still.drew | with_reducible apply Still.drewN | with_reducible apply Still.alloc | (with_reducible refine Still.set ?_ (by omega) _)))) | go_keep)
        (first
         | (go_at_call 119; with_reducible refine (refnext_miss (HPr.out.below (Still.out (by repeat (first | with_reducible exact hT | with_reducible apply Still.drew | with_reducible apply Still.drewN | with_reducible apply Still.alloc | (with_reducible refine Still.set ?_ (by omega) _))))) hx).mono ?_; rintro e w' ⟨rfl, hbx⟩; have hZ : PortBox w' wr.heap.size zeroPort := zport_below (w0 := wr) hbx; have hT := Still.below (by repeat (first | with_reducible exact hT | with_reducible apply Still.drew | with_reducible apply Still.drewN | with_reducible apply Still.alloc | (with_reducible refine Still.set ?_ (by omega) _))) hbx; clear hbx; obtain ⟨zl, z0, z1, zf0, zf1⟩ := hZ)
         | (go_at_call 119; with_reducible refine (refnext_miss (HPr.out.below (Still.out (by repeat (first | with_reducible exact hT | with_reducible apply Still.drew | with_reducible apply Still.drewN | with_reducible apply Still.alloc | (with_reducible refine Still.set ?_ (by omega) _))))) hx).mono ?_; rintro e w' ⟨rfl, hbx⟩; have hT := Still.below (by repeat (first | with_reducible exact hT | with_reducible apply Still.drew | with_reducible apply Still.drewN | with_reducible apply Still.alloc | (with_reducible refine Still.set ?_ (by omega) _))) hbx; clear hbx)) | fail
       all_goals
        go_wp2_with fail
        go_quiet (fail)
        go_wp2_with fail
        go_roundg k
        case measure => omega
        case rel => exact ⟨by omega, by go_num, by rw [Ho.out], HB.out.below (Still.out (by repeat (first | with_reducible exact hT | with_reducible apply Still.drew | with_reducible apply Still.drewN | with_reducible apply Still.alloc | (with_reducible refine Still.set ?_ (by omega) _)))), below_step Hb.out (Still.out (by repeat (first | with_reducible exact hT | with_reducible apply Still.drew | with_reducible apply Still.drewN | with_reducible apply Still.alloc | (with_reducible refine Still.set ?_ (by omega) _)))) Hb.out.size⟩
      | some x =>
       by_cases hq : x.e = x1
       ·have q1 : (x.e == x1) = true := by simp [hq]
        have Ho := Lib.hid (show outAt (nextOf p) x0 x1 k = (k : Int) by rw [Hs.out, leads_hit hx]; simp [hq])
        clear hq
        go_wp2_with fail
        first | go_region_held3 (fun w' => w'.cell? ⟨w.heap.size, 0, none⟩ = some (.slice ae ne ce) ∧ w'.cell? ⟨w.heap.size, 1, none⟩ = some (.slice aj nj cj) ∧ w'.cell? ⟨w.heap.size, 2, none⟩ = some (.slice as_ ns cs) ∧ w'.cell? ⟨w.heap.size, 3, none⟩ = some (.slice al nl cl) ∧ w'.cell? ⟨w.heap.size, 4, none⟩ = some (.int .i64 p.top) ∧ w'.cell? ⟨w.heap.size, 5, none⟩ = some (.int .i64 p.brake) ∧ w'.cell? ⟨w.heap.size, 6, none⟩ = some (.int .i64 p.margin) ∧ w'.cell? ⟨w.heap.size, 7, none⟩ = some (.int .i64 p.throw) ∧ w'.cell? ⟨w.heap.size, 8, none⟩ = some (.bool p.hard) ∧ w'.cell? ⟨pb, off, none⟩ = some (.int .i64 x0) ∧ w'.cell? ⟨pb, off + 1, none⟩ = some (.int .i64 x1))
         (first | exact box_all2 HB.out hpb2 g0 hpb2 g1 (Still.out (by repeat (first | with_reducible exact hT | with_reducible apply Still.drew | with_reducible apply Still.drewN | with_reducible apply Still.alloc | (with_reducible refine Still.set ?_ (by omega) _)))) | go_keep)
         (first
          | (go_at_call 119; with_reducible refine (refnext_hit (HPr.out.below (Still.out (by repeat (first | with_reducible exact hT | with_reducible apply Still.drew | with_reducible apply Still.drewN | with_reducible apply Still.alloc | (with_reducible refine Still.set ?_ (by omega) _))))) hx).mono ?_; rintro e w' ⟨rfl, hbx⟩; have hZ : PortBox w' wr.heap.size zeroPort := zport_below (w0 := wr) hbx; have hT := Still.below (by repeat (first | with_reducible exact hT | with_reducible apply Still.drew | with_reducible apply Still.drewN | with_reducible apply Still.alloc | (with_reducible refine Still.set ?_ (by omega) _))) hbx; clear hbx; obtain ⟨zl, z0, z1, zf0, zf1⟩ := hZ)
          | (go_at_call 119; with_reducible refine (refnext_hit (HPr.out.below (Still.out (by repeat (first | with_reducible exact hT | with_reducible apply Still.drew | with_reducible apply Still.drewN | with_reducible apply Still.alloc | (with_reducible refine Still.set ?_ (by omega) _))))) hx).mono ?_; rintro e w' ⟨rfl, hbx⟩; have hT := Still.below (by repeat (first | with_reducible exact hT | with_reducible apply Still.drew | with_reducible apply Still.drewN | with_reducible apply Still.alloc | (with_reducible refine Still.set ?_ (by omega) _))) hbx; clear hbx)) | fail
        all_goals
         go_wp2_with fail
         go_quiet (fail)
         go_wp2_with fail
         go_roundg k
         case measure => omega
         case rel => exact ⟨by omega, by go_num, by rw [Ho.out], HB.out.below (below_drewN (Still.out (by repeat (first | with_reducible exact hT | with_reducible apply Still.drew | with_reducible apply Still.drewN | with_reducible apply Still.alloc | (with_reducible refine Still.set ?_ (by omega) _)))) _), below_step Hb.out (below_drewN (Still.out (by repeat (first | with_reducible exact hT | with_reducible apply Still.drew | with_reducible apply Still.drewN | with_reducible apply Still.alloc | (with_reducible refine Still.set ?_ (by omega) _)))) _) Hb.out.size⟩
       ·have q1 : (x.e == x1) = false := by simp [hq]
        have Ho := Lib.hid (show outAt (nextOf p) x0 x1 k = outAt (nextOf p) x0 x1 (k + 1) by rw [Hs.out, leads_hit hx]; simp [hq])
        clear hq
        go_wp2_with fail
        first | go_region_held3 (fun w' => w'.cell? ⟨w.heap.size, 0, none⟩ = some (.slice ae ne ce) ∧ w'.cell? ⟨w.heap.size, 1, none⟩ = some (.slice aj nj cj) ∧ w'.cell? ⟨w.heap.size, 2, none⟩ = some (.slice as_ ns cs) ∧ w'.cell? ⟨w.heap.size, 3, none⟩ = some (.slice al nl cl) ∧ w'.cell? ⟨w.heap.size, 4, none⟩ = some (.int .i64 p.top) ∧ w'.cell? ⟨w.heap.size, 5, none⟩ = some (.int .i64 p.brake) ∧ w'.cell? ⟨w.heap.size, 6, none⟩ = some (.int .i64 p.margin) ∧ w'.cell? ⟨w.heap.size, 7, none⟩ = some (.int .i64 p.throw) ∧ w'.cell? ⟨w.heap.size, 8, none⟩ = some (.bool p.hard) ∧ w'.cell? ⟨pb, off, none⟩ = some (.int .i64 x0) ∧ w'.cell? ⟨pb, off + 1, none⟩ = some (.int .i64 x1))
         (first | exact box_all2 HB.out hpb2 g0 hpb2 g1 (Still.out (by repeat (first | with_reducible exact hT | with_reducible apply Still.drew | with_reducible apply Still.drewN | with_reducible apply Still.alloc | (with_reducible refine Still.set ?_ (by omega) _)))) | go_keep)
         (first
          | (go_at_call 119; with_reducible refine (refnext_hit (HPr.out.below (Still.out (by repeat (first | with_reducible exact hT | with_reducible apply Still.drew | with_reducible apply Still.drewN | with_reducible apply Still.alloc | (with_reducible refine Still.set ?_ (by omega) _))))) hx).mono ?_; rintro e w' ⟨rfl, hbx⟩; have hZ : PortBox w' wr.heap.size zeroPort := zport_below (w0 := wr) hbx; have hT := Still.below (by repeat (first | with_reducible exact hT | with_reducible apply Still.drew | with_reducible apply Still.drewN | with_reducible apply Still.alloc | (with_reducible refine Still.set ?_ (by omega) _))) hbx; clear hbx; obtain ⟨zl, z0, z1, zf0, zf1⟩ := hZ)
          | (go_at_call 119; with_reducible refine (refnext_hit (HPr.out.below (Still.out (by repeat (first | with_reducible exact hT | with_reducible apply Still.drew | with_reducible apply Still.drewN | with_reducible apply Still.alloc | (with_reducible refine Still.set ?_ (by omega) _))))) hx).mono ?_; rintro e w' ⟨rfl, hbx⟩; have hT := Still.below (by repeat (first | with_reducible exact hT | with_reducible apply Still.drew | with_reducible apply Still.drewN | with_reducible apply Still.alloc | (with_reducible refine Still.set ?_ (by omega) _))) hbx; clear hbx)) | fail
        all_goals
         go_wp2_with fail
         go_quiet (fail)
         go_wp2_with fail
         go_roundg k
         case measure => omega
         case rel => exact ⟨by omega, by go_num, by rw [Ho.out], HB.out.below (below_drewN (Still.out (by repeat (first | with_reducible exact hT | with_reducible apply Still.drew | with_reducible apply Still.drewN | with_reducible apply Still.alloc | (with_reducible refine Still.set ?_ (by omega) _)))) _), below_step Hb.out (below_drewN (Still.out (by repeat (first | with_reducible exact hT | with_reducible apply Still.drew | with_reducible apply Still.drewN | with_reducible apply Still.alloc | (with_reducible refine Still.set ?_ (by omega) _)))) _) Hb.out.size⟩
end Go.Proofs.YtcaeglnfflkabaaGreat
