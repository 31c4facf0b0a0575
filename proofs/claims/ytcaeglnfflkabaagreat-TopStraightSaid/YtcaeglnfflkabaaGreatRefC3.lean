/- Walks of semaphoreref6.names and joined. No condition beyond the plan that is read, and that its rows are not long. -/
import Derived.Test.YtcaeglnfflkabaaGreatRefC1
import Derived.Deep.AppendLies
set_option maxRecDepth 1000000
namespace Go.Proofs.YtcaeglnfflkabaaGreat
open Go.RowKit Go.Sort Go.ChangeShapes Go.WideShapes

theorem info_string : (Tryz.prog.info? 9).map (fun i => (i.zero, i.size, i.bytes)) = some (some (.string ByteArray.empty), 1, 16) := by kernel_rfl
theorem info_port : (Tryz.prog.info? 43).map (fun i => (i.zero, i.size, i.bytes)) = some (some (.agg #[.int .i64 0, .int .i64 0]), 2, 16) := by kernel_rfl
theorem own_nil (w : World) (base size : Nat) (e : TypeId) : w.ownsRow base e size (.slice none 0 0) 0 [] := ⟨by simp, .inl ⟨rfl, rfl⟩⟩
theorem own_strs {w : World} {base : Nat} {a : Option Addr} {n m c : Nat} {xs : List ByteArray} (h : w.ownsRow base 9 1 (.slice a n c) m (xs.map Value.string)) : Strs w a n xs ∧ m = n := by
 rw [← flat_strs] at h; exact owns_row (sz := 1) (enc := encStr) (fun _ => rfl) h (by omega)
theorem one_str (s : ByteArray) : ∀ u ∈ [Value.string s], u.oneCell' = true := by intro u hu; simp at hu; subst hu; rfl
theorem own_ne {w : World} {base n size b : Nat} {e : TypeId} {v : Value} {xs : List Value} (h : w.ownsRow base e size v n xs) (hb : b < base) : some b ≠ v.ownBlock := fun hk => by
 have := (h.lt b hk.symm).1; omega
theorem grown_below {B : Nat} {w w1 w2 : World} {base n size : Nat} {e : TypeId} {v : Value} {xs : List Value} (hb : Below B w w1) (ho : w1.ownsRow base e size v n xs) (hB : B ≤ base) (hz : B ≤ w1.heap.size) (hg : w1.grownBy w2 v.ownBlock) : Below B w w2 :=
 hb.grown hg hz (fun k hk => by have := (ho.lt k hk).1; omega)

/-- what semaphoreref6.names answers -/
def NamesPost (w : World) (p : Plan) (e : Ending) (w' : World) : Prop :=
 ∃ (a1 a2 a3 : Option Addr) (n1 n2 n3 c1 c2 c3 : Nat), e = .returned (.tuple #[.slice a1 n1 c1, .slice a2 n2 c2, .slice a3 n3 c3]) ∧
  Strs w' a1 n1 (p.elems.map (·.name)) ∧ Strs w' a2 n2 (p.sigs.map (·.name)) ∧ Strs w' a3 n3 (p.lines.map (·.name)) ∧ Below w.heap.size w w'

theorem map_take {α β : Type} {f : α → β} {l : List α} {j : Nat} {y : α} (h : l[j]? = some y) : (l.take (j + 1)).map f = (l.take j).map f ++ [f y] := by rw [take_next h, List.map_append]; rfl

set_option maxHeartbeats 2000000 in
theorem names_any (w : World) (pv : PV) (p : Plan) (h : PlanAt w pv p) (h1 : pv.ne ≤ 1000) (h2 : pv.ns ≤ 1000) (h3 : pv.nl ≤ 1000) :
  Calls Tryz.prog 62 #[pv.val p] w (NamesPost w p) := by
 obtain ⟨ae, ne, ce, aj, nj, cj, as_, ns, cs, al, nl, cl, lv⟩ := pv
 have he : Elems w ae ne p.elems := h.e
 have hsg : Sigs w as_ ns p.sigs := h.s
 have hli : Lines w al nl lv := h.l
 have le := Lib.hid he.len
 have ls := Lib.hid hsg.len
 have ll := Lib.hid hli.row.len
 have HL := Lib.hid h.lp
 have h1 : ne ≤ 1000 := h1
 have h2 : ns ≤ 1000 := h2
 have h3 : nl ≤ 1000 := h3
 have HB := Lib.hid (pbox_new w ⟨ae, ne, ce, aj, nj, cj, as_, ns, cs, al, nl, cl, lv⟩ p)
 obtain ⟨ii, hii, zi1, zi2, zi3⟩ := info_parts info_string
 clear h
 dsimp only [PV.val]
 go_enter Tryz.func62, Tryz.ntmps62
 go_wp2_with fail
 go_loopg [5, 8] ne (fun k v i wr => ∃ (j : Nat), j + k = ne ∧ i = .int .i64 j ∧ wr.ownsRow (w.heap.size + 1) 9 1 v j ((p.elems.take j).map fun x => Value.string x.name) ∧ PBox wr w.heap.size ⟨ae, ne, ce, aj, nj, cj, as_, ns, cs, al, nl, cl, lv⟩ p ∧ Below w.heap.size w wr)
 case atStart => exact ⟨0, by omega, rfl, own_nil _ _ _ _, HB.out, below_new _ _⟩
 case round =>
  clear HB
  obtain ⟨j, hk, rfl, own, hB, hb⟩ := hrel
  have Hk := Lib.hid hk; clear hk
  have HB := Lib.hid hB
  have Own := Lib.hid own; clear own
  obtain ⟨hbl, c0, c1, c2, c3, c4, c5, c6, c7, c8⟩ := hB
  dsimp only at c0 c1 c2 c3
  by_cases hlt : j < ne
  ·obtain ⟨y, hy⟩ := get_some le.out hlt
   obtain ⟨pb, off, rfl, hpb, g1, g2, g3⟩ := he.elemB hb hy
   have Hy := Lib.hid hy; clear hy
   have Hb := Lib.hid hb; clear hb
   go_wp2_with (at_builtin; refine wpList_append_own _ rfl _ _ 139 rfl (w.heap.size + 1) 9 ii (.string ByteArray.empty) 1 16 Tryz.underlying139 hii zi1 zi2 zi3 rfl (by decide) _ _ _ rfl (Own.out.alloc _) ⟨wr.heap.size, 0, none⟩ 1 1 [.string y.name] rfl rfl (cell_one_new _ _ _) (one_str _) (by simp [maxLen]; omega) (by omega) (by simp; omega) ?_)
   intro v' w4 hown4 hgrow4 _
   have hb4 := Lib.hid (grown_below (Hb.out.alloc Hb.out.size (.cells #[.string y.name] 9)) (Own.out.alloc (.cells #[.string y.name] 9)) (by omega) (by have := Hb.out.size; simp; omega) hgrow4)
   have hB4 := Lib.hid ((HB.out.alloc (.cells #[.string y.name] 9)).kept hgrow4 (own_ne (Own.out.alloc (.cells #[.string y.name] 9)) (by omega)))
   have Own4 := Lib.hid hown4; clear hown4 hgrow4
   go_wp2_with fail
   go_roundg (gk - 1)
   case measure => have := Hk.out; omega
   case rel => exact ⟨j + 1, by have := Hk.out; omega, by go_num, by rw [map_take Hy.out, List.map_take]; exact Own4.out, hB4.out, hb4.out⟩
  ·have hj : ne = j := by have := Hk.out; omega
   subst hj
   obtain ⟨a1, k1, rfl, _, _⟩ := own_slice Own.out
   have S1 := Lib.hid (show Strs wr a1 ne (p.elems.map (·.name)) by
    have := Own.out; rw [List.take_of_length_le (by have := le.out; omega)] at this
    exact (own_strs (xs := p.elems.map (·.name)) (by rw [List.map_map]; exact this)).1)
   clear Own hlt Hk
   have Hb := Lib.hid hb; clear hb
   have hz := Hb.out.size
   obtain ⟨wo, rfl⟩ : ∃ wo : World, wo = wr := ⟨_, rfl⟩
   go_wp2_with fail
   go_loopg [6, 9] ns (fun k v i wr => ∃ (j : Nat), j + k = ns ∧ i = .int .i64 j ∧ wr.ownsRow wo.heap.size 9 1 v j ((p.sigs.take j).map fun x => Value.string x.name) ∧ PBox wr w.heap.size ⟨ae, ne, ce, aj, nj, cj, as_, ns, cs, al, nl, cl, lv⟩ p ∧ Below wo.heap.size wo wr)
   case atStart => exact ⟨0, by omega, rfl, own_nil _ _ _ _, HB.out, Below.refl _ _⟩
   case round =>
    clear HB c0 c1 c2 c3 c4 c5 c6 c7 c8
    obtain ⟨j2, hk, rfl, own, hB, hbo⟩ := hrel
    have Hk := Lib.hid hk; clear hk
    have HB := Lib.hid hB
    have Own := Lib.hid own; clear own
    obtain ⟨hbl2, c0, c1, c2, c3, c4, c5, c6, c7, c8⟩ := hB
    dsimp only at c0 c1 c2 c3
    have hb := below_step Hb.out hbo hz
    by_cases hlt : j2 < ns
    ·obtain ⟨y, hy⟩ := get_some ls.out hlt
     obtain ⟨pb, off, rfl, hpb, g1, g2, g3, g4⟩ := hsg.sigB hb hy
     have Hy := Lib.hid hy; clear hy
     have Hbo := Lib.hid hbo; clear hbo
     clear hb
     go_wp2_with (at_builtin; refine wpList_append_own _ rfl _ _ 139 rfl wo.heap.size 9 ii (.string ByteArray.empty) 1 16 Tryz.underlying139 hii zi1 zi2 zi3 rfl (by decide) _ _ _ rfl (Own.out.alloc _) ⟨wr.heap.size, 0, none⟩ 1 1 [.string y.name] rfl rfl (cell_one_new _ _ _) (one_str _) (by simp [maxLen]; omega) (by omega) (by have := Hbo.out.size; simp; omega) ?_)
     intro v' w4 hown4 hgrow4 _
     have hb4 := Lib.hid (grown_below (Hbo.out.alloc Hbo.out.size (.cells #[.string y.name] 9)) (Own.out.alloc (.cells #[.string y.name] 9)) (by omega) (by have := Hbo.out.size; simp; omega) hgrow4)
     have hB4 := Lib.hid ((HB.out.alloc (.cells #[.string y.name] 9)).kept hgrow4 (own_ne (Own.out.alloc (.cells #[.string y.name] 9)) (by omega)))
     have Own4 := Lib.hid hown4; clear hown4 hgrow4
     go_wp2_with fail
     go_roundg (gk - 1)
     case measure => have := Hk.out; omega
     case rel => exact ⟨j2 + 1, by have := Hk.out; omega, by go_num, by rw [map_take Hy.out, List.map_take]; exact Own4.out, hB4.out, hb4.out⟩
    ·have hj : ns = j2 := by have := Hk.out; omega
     subst hj
     obtain ⟨a2, k2, rfl, _, _⟩ := own_slice Own.out
     have S2 := Lib.hid (show Strs wr a2 ns (p.sigs.map (·.name)) by
      have := Own.out; rw [List.take_of_length_le (by have := ls.out; omega)] at this
      exact (own_strs (xs := p.sigs.map (·.name)) (by rw [List.map_map]; exact this)).1)
     have S1b := Lib.hid (S1.out.below hbo)
     clear Own hlt Hk hbo
     have Hb2 := Lib.hid hb; clear hb
     have hz2 := Hb2.out.size
     obtain ⟨wp, rfl⟩ : ∃ wp : World, wp = wr := ⟨_, rfl⟩
     go_wp2_with fail
     go_loopg [7, 10] nl (fun k v i wr => ∃ (j : Nat), j + k = nl ∧ i = .int .i64 j ∧ wr.ownsRow wp.heap.size 9 1 v j ((lv.take j).map fun x => Value.string x.name) ∧ PBox wr w.heap.size ⟨ae, ne, ce, aj, nj, cj, as_, ns, cs, al, nl, cl, lv⟩ p ∧ Below wp.heap.size wp wr)
     case atStart => exact ⟨0, by omega, rfl, own_nil _ _ _ _, HB.out, Below.refl _ _⟩
     case round =>
      clear HB c0 c1 c2 c3 c4 c5 c6 c7 c8
      obtain ⟨j3, hk, rfl, own, hB, hbo⟩ := hrel
      have Hk := Lib.hid hk; clear hk
      have HB := Lib.hid hB
      have Own := Lib.hid own; clear own
      obtain ⟨hbl3, c0, c1, c2, c3, c4, c5, c6, c7, c8⟩ := hB
      dsimp only at c0 c1 c2 c3
      have hb := below_step Hb2.out hbo hz2
      by_cases hlt : j3 < nl
      ·obtain ⟨y, hy⟩ := get_some ll.out hlt
       obtain ⟨pb, off, rfl, hpb, g1, g2⟩ := hli.row.lineB hb hy
       have Hy := Lib.hid hy; clear hy
       have Hbo := Lib.hid hbo; clear hbo
       clear hb
       go_wp2_with (at_builtin; refine wpList_append_own _ rfl _ _ 139 rfl wp.heap.size 9 ii (.string ByteArray.empty) 1 16 Tryz.underlying139 hii zi1 zi2 zi3 rfl (by decide) _ _ _ rfl (Own.out.alloc _) ⟨wr.heap.size, 0, none⟩ 1 1 [.string y.name] rfl rfl (cell_one_new _ _ _) (one_str _) (by simp [maxLen]; omega) (by omega) (by have := Hbo.out.size; simp; omega) ?_)
       intro v' w4 hown4 hgrow4 _
       have hb4 := Lib.hid (grown_below (Hbo.out.alloc Hbo.out.size (.cells #[.string y.name] 9)) (Own.out.alloc (.cells #[.string y.name] 9)) (by omega) (by have := Hbo.out.size; simp; omega) hgrow4)
       have hB4 := Lib.hid ((HB.out.alloc (.cells #[.string y.name] 9)).kept hgrow4 (own_ne (Own.out.alloc (.cells #[.string y.name] 9)) (by omega)))
       have Own4 := Lib.hid hown4; clear hown4 hgrow4
       go_wp2_with fail
       go_roundg (gk - 1)
       case measure => have := Hk.out; omega
       case rel => exact ⟨j3 + 1, by have := Hk.out; omega, by go_num, by rw [map_take Hy.out, List.map_take]; exact Own4.out, hB4.out, hb4.out⟩
      ·have hj : nl = j3 := by have := Hk.out; omega
       subst hj
       obtain ⟨a3, k3, rfl, _, _⟩ := own_slice Own.out
       have S3 := Lib.hid (show Strs wr a3 nl (p.lines.map (·.name)) by
        have := Own.out; rw [List.take_of_length_le (by have := ll.out; omega)] at this
        rw [HL.out, List.map_map]
        exact (own_strs (xs := lv.map (·.name)) (by rw [List.map_map]; exact this)).1)
       have S1c := Lib.hid (S1b.out.below hbo)
       have S2b := Lib.hid (S2.out.below hbo)
       clear Own hlt Hk hbo
       have Hb3 := Lib.hid hb; clear hb
       go_wp2_with fail
       exact bodyPost_ret (v := .tuple #[.slice a1 ne k1, .slice a2 ns k2, .slice a3 nl k3]) (by simp [results, Tryz.results62, go_sem]) rfl ⟨a1, a2, a3, ne, ns, nl, k1, k2, k3, rfl, S1c.out, S2b.out, S3.out, Hb3.out⟩
end Go.Proofs.YtcaeglnfflkabaaGreat
