/- Walk of clash.All. Condition: the net and the roads are read. -/
import Derived.Test.YtnkpiijljfjmkaaClashL4
set_option maxRecDepth 1000000
namespace Go.Proofs.Ytnkpiijljfjmkaa
open Go.ChangeShapes Go.WideShapes Go.ChangeAt Go.RowKit Go.Sort

/-- a row of truths with its slice -/
structure BRow where
 a : Option Addr
 n : Nat
 c : Nat
 bs : List Bool
def encBR (x : BRow) : List Value := [.slice x.a x.n x.c]
def encBl (x : Bool) : List Value := [.bool x]
theorem encBl_one (x : Bool) : ∀ u ∈ encBl x, u.oneCell' = true := by intro u hu; simp [encBl] at hu; subst hu; rfl
theorem encBR_one (x : BRow) : ∀ u ∈ encBR x, u.oneCell' = true := by intro u hu; simp [encBR] at hu; subst hu; rfl
theorem info_boolC : (Try.prog.info? 4).map (fun i => (i.zero, i.size, i.bytes)) = some (some (.bool false), 1, 1) := by kernel_rfl
theorem info_bools : (Try.prog.info? 55).map (fun i => (i.zero, i.size, i.bytes)) = some (some (.slice none 0 0), 1, 24) := by kernel_rfl
theorem row_bool1 {w : World} {g : Nat} {x : Bool} (h : w.heap[g]? = some (.cells #[.bool x] 4)) : Row 1 encBl w (some ⟨g, 0, none⟩) 1 [x] :=
 row_block (sz := 1) (enc := encBl) (fun _ => rfl) (by decide) [x] h rfl rfl (by omega)
theorem row_br1 {w : World} {g : Nat} {x : BRow} (h : w.heap[g]? = some (.cells #[.slice x.a x.n x.c] 55)) : Row 1 encBR w (some ⟨g, 0, none⟩) 1 [x] :=
 row_block (sz := 1) (enc := encBR) (fun _ => rfl) (by decide) [x] h rfl rfl (by omega)
/-- rows of truths that the call itself owns -/
structure OwnM (w : World) (base : Nat) (v : Value) (n : Nat) (xs : List BRow) : Prop where
 own : w.ownsRow base 55 1 v n (xs.flatMap encBR)
 each : ∀ x ∈ xs, Row 1 encBl w x.a x.n x.bs
 off : ∀ x ∈ xs, ∀ b, x.a.map (·.block) = some b → base ≤ b ∧ b < w.heap.size ∧ v.ownBlock ≠ some b
theorem OwnM.below {w w' : World} {base n : Nat} {v : Value} {xs : List BRow} (h : OwnM w base v n xs) (hb : Below w.heap.size w w') : OwnM w' base v n xs :=
 ⟨owns_below h.own hb, fun x hx => (h.each x hx).below hb, fun x hx b e => by have h1 := h.off x hx b e; exact ⟨h1.1, Nat.lt_of_lt_of_le h1.2.1 hb.size, h1.2.2⟩⟩
theorem OwnM.app {w w' : World} {base n m : Nat} {v v' : Value} {xs : List BRow} {y : BRow} (h : OwnM w base v n xs) (hy : Row 1 encBl w y.a y.n y.bs) (hyb : ∀ b, y.a.map (·.block) = some b → base ≤ b ∧ b < w.heap.size ∧ v.ownBlock ≠ some b)
  (ho : w'.ownsRow base 55 1 v' m ((xs ++ [y]).flatMap encBR)) (hg : w.grownBy w' v.ownBlock) (hb : v'.ownBlock = v.ownBlock ∨ v'.ownBlock = some w.heap.size) : OwnM w' base v' m (xs ++ [y]) := by
 have key : ∀ z ∈ xs ++ [y], Row 1 encBl w z.a z.n z.bs ∧ ∀ b, z.a.map (·.block) = some b → base ≤ b ∧ b < w.heap.size ∧ v.ownBlock ≠ some b := by
  intro z hz
  rcases List.mem_append.1 hz with hz | hz
  ·exact ⟨h.each z hz, h.off z hz⟩
  ·simp only [List.mem_singleton] at hz; subst hz; exact ⟨hy, hyb⟩
 refine ⟨ho, fun z hz => (key z hz).1.kept fun b e hlt => hg.block b hlt (fun hc => ((key z hz).2 b e).2.2 hc.symm), fun z hz b e => ?_⟩
 obtain ⟨h1, h2, h3⟩ := (key z hz).2 b e
 refine ⟨h1, Nat.lt_of_lt_of_le h2 hg.size, ?_⟩
 rcases hb with hb | hb
 ·rw [hb]; exact h3
 ·rw [hb]; intro hc; cases hc; exact absurd h2 (Nat.lt_irrefl _)
def shuts (p : Plan) (a : Road) (l : List Road) : List Bool := l.map fun b => why p a b != 0
def AllsPost (w : World) (p : Plan) (l : List Road) (e : Ending) (w' : World) : Prop := ∃ (a : Option Addr) (n c : Nat) (xs : List BRow), e = .returned (.slice a n c) ∧ Row 1 encBR w' a n xs ∧ (∀ x ∈ xs, Row 1 encBl w' x.a x.n x.bs) ∧ xs.map (·.bs) = l.map (fun r => shuts p r l) ∧ Below w.heap.size w w'
set_option maxHeartbeats 8000000 in
theorem clashall_any (w : World) (nb : Nat) (p : Plan) (h : NetAt w nb p) (a : Option Addr) (n c : Nat) (xs : List RoadV) (hr : Roads w a n xs) (hn2 : n ≤ 1000) (hl : ∀ x ∈ xs, Lite x.v) :
  Calls Try.prog 21 #[.pointer (some ⟨nb, 0, none⟩), .slice a n c] w (AllsPost w p (xs.map (·.r))) := by
 have HN := Lib.hid h
 have Hr := Lib.hid hr
 have Hl := Lib.hid hl
 have Hlen := Lib.hid hr.row.len
 clear h hr hl
 go_enter Try.func21, Try.ntmps21
 go_wp2_with fail
 go_loopg [5, 13] n (fun k s5 s13 wr => ∃ (i : Nat) (ys : List BRow), i + k = n ∧ s13 = .int .i64 i ∧ Hid (OwnM wr w.heap.size s5 i ys) ∧ Hid (ys.map (·.bs) = ((xs.map (·.r)).take i).map (fun r => shuts p r (xs.map (·.r)))) ∧ Hid (Below w.heap.size w wr))
 case atStart => exact ⟨0, [], by omega, rfl, ⟨World.ownsRow_nil _ _ _ _, (by intro x hx; cases hx), (by intro x hx; cases hx)⟩, rfl, Below.refl _ _⟩
 case round =>
  obtain ⟨i, ys, hk, rfl, HM, HR, HB⟩ := hrel
  obtain ⟨wo, rfl⟩ : ∃ wo : World, wo = wr := ⟨_, rfl⟩
  obtain ⟨ko, rfl⟩ : ∃ ko : Nat, ko = gk := ⟨_, rfl⟩
  have Hk := Lib.hid hk
  clear hk
  obtain ⟨a5, c5, rfl, _, hc5⟩ := own_slice HM.out.own
  by_cases hlt : i < n
  ·obtain ⟨x, hx⟩ := get_some Hlen.out hlt
   have Hlx := Lib.hid (Hl.out x (List.mem_of_getElem? hx))
   have HAx := Lib.hid (Hr.out.each x (List.mem_of_getElem? hx))
   have hxr : (xs.map (·.r))[i]? = some x.r := by rw [List.getElem?_map, hx]; rfl
   have htk := take_snoc_get hxr
   obtain ⟨b, off, rfl, hb, hcell⟩ := (Hr.out.row.below HB.out).road hx
   obtain ⟨⟨sa1, sn1, sc1, na1, nn1, nc1, ga1, gn1, gc1, za1, zn1, zc1, ha1, hn1, hc1⟩, r1⟩ := x
   have f0 : wo.cell? ⟨b, off + i * 9, none⟩ = some (.int .i64 r1.frm) := hcell 0 _ rfl
   have f1 : wo.cell? ⟨b, off + i * 9 + 1, none⟩ = some (.int .i64 r1.to) := hcell 1 _ rfl
   have f2 : wo.cell? ⟨b, off + i * 9 + 2, none⟩ = some (.int .i64 r1.fin) := hcell 2 _ rfl
   have f3 : wo.cell? ⟨b, off + i * 9 + 3, none⟩ = some (.slice sa1 sn1 sc1) := hcell 3 _ rfl
   have f4 : wo.cell? ⟨b, off + i * 9 + 4, none⟩ = some (.slice na1 nn1 nc1) := hcell 4 _ rfl
   have f5 : wo.cell? ⟨b, off + i * 9 + 5, none⟩ = some (.slice ga1 gn1 gc1) := hcell 5 _ rfl
   have f6 : wo.cell? ⟨b, off + i * 9 + 6, none⟩ = some (.slice za1 zn1 zc1) := hcell 6 _ rfl
   have f7 : wo.cell? ⟨b, off + i * 9 + 7, none⟩ = some (.slice ha1 hn1 hc1) := hcell 7 _ rfl
   have f8 : wo.cell? ⟨b, off + i * 9 + 8, none⟩ = some (.bool r1.bare) := hcell 8 _ rfl
   dsimp only at htk Hlx HAx
   have Htk := Lib.hid htk
   clear hcell hxr htk hx
   go_wp2_with fail
   refine name_code fun w4 hw4 => ?_
   have hx4 : w4.heap[wo.heap.size]? = some (.cells #[.int .i64 r1.frm, .int .i64 r1.to, .int .i64 r1.fin, .slice sa1 sn1 sc1, .slice na1 nn1 nc1, .slice ga1 gn1 gc1, .slice za1 zn1 zc1, .slice ha1 hn1 hc1, .bool r1.bare] 38) := by rw [hw4]; exact heap_alloc_new wo _
   have hb4 : Below wo.heap.size wo w4 := by rw [hw4]; exact below_new1 wo _
   have Hx4 := Lib.hid hx4
   have Hb4 := Lib.hid (below_step HB.out hb4 HB.out.size)
   have HM4 := Lib.hid (HM.out.below hb4)
   clear hw4 hx4 hb4 f0 f1 f2 f3 f4 f5 f6 f7 f8
   go_loopg [8, 19] n (fun k s8 s19 wr => ∃ (j : Nat), j + k = n ∧ s19 = .int .i64 j ∧ Hid (wr.ownsRow w4.heap.size 4 1 s8 j ((shuts p r1 ((xs.map (·.r)).take j)).flatMap encBl)) ∧ Hid (Below w4.heap.size w4 wr))
   case atStart => exact ⟨0, by omega, rfl, World.ownsRow_nil _ _ _ _, Below.refl _ _⟩
   case round =>
    obtain ⟨j, hk, rfl, HO, HD⟩ := hrel
    obtain ⟨w5, rfl⟩ : ∃ w5 : World, w5 = wr := ⟨_, rfl⟩
    have Hk2 := Lib.hid hk
    clear hk
    obtain ⟨a8, c8, rfl, _, hc8⟩ := own_slice HO.out
    have HBd := Lib.hid (below_step Hb4.out HD.out Hb4.out.size)
    by_cases hjt : j < n
    ·obtain ⟨y, hy⟩ := get_some Hlen.out hjt
     have Hly := Lib.hid (Hl.out y (List.mem_of_getElem? hy))
     have HAy := Lib.hid (Hr.out.each y (List.mem_of_getElem? hy))
     have hyr : (xs.map (·.r))[j]? = some y.r := by rw [List.getElem?_map, hy]; rfl
     have hsn : shuts p r1 ((xs.map (·.r)).take (j + 1)) = shuts p r1 ((xs.map (·.r)).take j) ++ [why p r1 y.r != 0] := by unfold shuts; rw [take_snoc_get hyr, List.map_append]; rfl
     obtain ⟨b', off', hba, hb5, hcell⟩ := (Hr.out.row.below HBd.out).road hy
     cases hba
     obtain ⟨⟨sa2, sn2, sc2, na2, nn2, nc2, ga2, gn2, gc2, za2, zn2, zc2, ha2, hn2, hc2⟩, r2⟩ := y
     have g0 : w5.cell? ⟨b, off + j * 9, none⟩ = some (.int .i64 r2.frm) := hcell 0 _ rfl
     have g1 : w5.cell? ⟨b, off + j * 9 + 1, none⟩ = some (.int .i64 r2.to) := hcell 1 _ rfl
     have g2 : w5.cell? ⟨b, off + j * 9 + 2, none⟩ = some (.int .i64 r2.fin) := hcell 2 _ rfl
     have g3 : w5.cell? ⟨b, off + j * 9 + 3, none⟩ = some (.slice sa2 sn2 sc2) := hcell 3 _ rfl
     have g4 : w5.cell? ⟨b, off + j * 9 + 4, none⟩ = some (.slice na2 nn2 nc2) := hcell 4 _ rfl
     have g5 : w5.cell? ⟨b, off + j * 9 + 5, none⟩ = some (.slice ga2 gn2 gc2) := hcell 5 _ rfl
     have g6 : w5.cell? ⟨b, off + j * 9 + 6, none⟩ = some (.slice za2 zn2 zc2) := hcell 6 _ rfl
     have g7 : w5.cell? ⟨b, off + j * 9 + 7, none⟩ = some (.slice ha2 hn2 hc2) := hcell 7 _ rfl
     have g8 : w5.cell? ⟨b, off + j * 9 + 8, none⟩ = some (.bool r2.bare) := hcell 8 _ rfl
     dsimp only at hsn Hly HAy
     have Hsn := Lib.hid hsn
     clear hcell hyr hsn hy
     have hxl : wo.heap.size < w5.heap.size := Nat.lt_of_lt_of_le (Array.getElem?_eq_some_iff.1 Hx4.out).1 HD.out.size
     have hx5 := rbox_keep Hx4.out HD.out
     obtain ⟨f0, f1, f2, f3, f4, f5, f6, f7, f8⟩ := nine_of hx5
     have HW := Lib.hid (fun (u : World) (hu : Below w5.heap.size w5 u) => why_any u nb p (HN.out.below (below_step HBd.out hu HBd.out.size)) ⟨sa1, sn1, sc1, na1, nn1, nc1, ga1, gn1, gc1, za1, zn1, zc1, ha1, hn1, hc1⟩ ⟨sa2, sn2, sc2, na2, nn2, nc2, ga2, gn2, gc2, za2, zn2, zc2, ha2, hn2, hc2⟩ r1 r2 (HAx.out.below (below_step HBd.out hu HBd.out.size)) (HAy.out.below (below_step HBd.out hu HBd.out.size)) Hlx.out Hly.out)
     dsimp only [RV.val] at HW
     clear hx5
     go_wp2_with fail
     refine (HW.out _ (below_new1 w5 _)).mono ?_
     rintro en w7 ⟨rfl, hb7⟩
     have HD7 := Lib.hid (below_step (below_step HD.out (below_new1 w5 (.cells #[.int .i64 r2.frm, .int .i64 r2.to, .int .i64 r2.fin, .slice sa2 sn2 sc2, .slice na2 nn2 nc2, .slice ga2 gn2 gc2, .slice za2 zn2 zc2, .slice ha2 hn2 hc2, .bool r2.bare] 38)) HD.out.size) hb7 (by have := HD.out.size; simp; omega))
     have HO7 := Lib.hid (owns_below HO.out (below_step (below_new1 w5 (.cells #[.int .i64 r2.frm, .int .i64 r2.to, .int .i64 r2.fin, .slice sa2 sn2 sc2, .slice na2 nn2 nc2, .slice ga2 gn2 gc2, .slice za2 zn2 zc2, .slice ha2 hn2 hc2, .bool r2.bare] 38)) hb7 (by simp)))
     have hz7 := HD7.out.size
     clear hb7 f0 f1 f2 f3 f4 f5 f6 f7 f8 g0 g1 g2 g3 g4 g5 g6 g7 g8
     go_wp2_with (at_builtin; refine wpList_appB (enc := encBl) (fun _ => rfl) encBl_one _ rfl _ _ 55 rfl w4.heap.size 4 (.bool false) 1 Try.underlying55 info_boolC rfl (by decide) _ _ (shuts p r1 ((xs.map (·.r)).take j)) rfl (HO7.out.alloc _) (some ⟨w7.heap.size, 0, none⟩) 1 1 [why p r1 r2 != 0] rfl (row_bool1 (heap_alloc_new w7 _)) (by intro h; cases h) (by simp [maxLen]; omega) (by omega) (by simp; omega) ?_)
     intro v8 w8 ho8 hg8 _
     have HO8 := Lib.hid (show w8.ownsRow w4.heap.size 4 1 v8 (j + 1) ((shuts p r1 ((xs.map (·.r)).take (j + 1))).flatMap encBl) by rw [Hsn.out, List.flatMap_append]; exact ho8)
     have HD8 := Lib.hid (show Below w4.heap.size w4 w8 from (HD7.out.alloc HD7.out.size _).grown hg8 (by simp; omega) (fun k hk => (HO7.out.lt k hk).1))
     clear ho8 hg8 hz7
     go_wp2_with fail
     go_roundg (gk - 1)
     case measure => have := Hk2.out; omega
     case rel => exact ⟨j + 1, by have := Hk2.out; omega, by go_num, HO8.out, HD8.out⟩
    ·have hjn : j = n := by have := Hk2.out; omega
     have hmn : (xs.map (·.r)).length = n := by rw [List.length_map]; exact Hlen.out
     have Hrow := Lib.hid (show Row 1 encBl w5 a8 j (shuts p r1 (xs.map (·.r))) by
      have h1 := (owns_row (enc := encBl) (fun _ => rfl) HO.out (by decide)).1
      rwa [show (xs.map (·.r)).take j = xs.map (·.r) by rw [hjn, ← hmn, List.take_length]] at h1)
     have HM5 := Lib.hid (HM4.out.below HD.out)
     have hz5 := HBd.out.size
     have hzw := Hb4.out.size
     have Hblk := Lib.hid (show ∀ b, a8.map (·.block) = some b → w4.heap.size ≤ b ∧ b < w5.heap.size from own_blocks HO.out (Nat.le_refl _))
     have Hjt := Lib.hid hjt
     have d2 : decide ((j : Int) < (n : Int)) = false := by simp; omega
     have hi64 : i < 1000 := by omega
     clear hjn hmn hjt
     go_wp2_with (at_builtin; refine wpList_appB (enc := encBR) (fun _ => rfl) encBR_one _ rfl _ _ 52 rfl w.heap.size 55 (.slice none 0 0) 24 Try.underlying52 info_bools rfl (by decide) _ _ ys rfl (HM5.out.own.alloc _) (some ⟨w5.heap.size, 0, none⟩) 1 1 [⟨a8, j, c8, shuts p r1 (xs.map (·.r))⟩] rfl (row_br1 (heap_alloc_new w5 _)) (by intro h; cases h) (by simp [maxLen]; omega) (by omega) (by simp; omega) ?_)
     intro v8 w8 ho8 hg8 hbl8
     have HM8 := Lib.hid (OwnM.app (HM5.out.below (below_new1 w5 (.cells #[.slice a8 j c8] 55))) (y := ⟨a8, j, c8, shuts p r1 (xs.map (·.r))⟩) (Hrow.out.below (below_new1 w5 _)) (fun b hb' => by
      have h1 := Hblk.out b hb'
      refine ⟨by omega, by simp; omega, fun hc => ?_⟩
      have h2 := (HM4.out.own.lt b hc).2
      omega) (by rw [List.flatMap_append]; exact ho8) hg8 (by rw [show (w5.alloc (.cells #[.slice a8 j c8] 55)).heap.size = w5.heap.size + 1 by simp]; exact hbl8))
     have HB8 := Lib.hid (show Below w.heap.size w w8 from (HBd.out.alloc HBd.out.size _).grown hg8 (by simp; omega) (fun k hk => (HM5.out.own.lt k hk).1))
     have Hbs := Lib.hid (show (ys ++ [(⟨a8, j, c8, shuts p r1 (xs.map (·.r))⟩ : BRow)]).map (·.bs) = ((xs.map (·.r)).take (i + 1)).map (fun r => shuts p r (xs.map (·.r))) by rw [Htk.out, List.map_append, List.map_append, HR.out]; rfl)
     clear ho8 hg8 hbl8 hz5 hzw
     go_wp2_with fail
     go_roundg (ko - 1)
     case measure => have := Hk.out; omega
     case rel => exact ⟨i + 1, _, by have := Hk.out; omega, by go_num, HM8.out, Hbs.out, HB8.out⟩
  ·have hin : i = n := by have := Hk.out; omega
   have hmn : (xs.map (·.r)).length = n := by rw [List.length_map]; exact Hlen.out
   have Hbs := Lib.hid (show ys.map (·.bs) = (xs.map (·.r)).map (fun r => shuts p r (xs.map (·.r))) by
    rw [HR.out, hin, ← hmn, List.take_length])
   have Hlt := Lib.hid hlt
   have d1 : decide ((i : Int) < (n : Int)) = false := by simp; omega
   clear hin hmn hlt
   go_wp2_with fail
   go_ret
   exact ⟨a5, i, c5, ys, rfl, (owns_row (enc := encBR) (fun _ => rfl) HM.out.own (by decide)).1, HM.out.each, Hbs.out, HB.out⟩
end Go.Proofs.Ytnkpiijljfjmkaa
