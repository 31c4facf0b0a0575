/- Walks of package field: New, Twin. Condition: the net is one; the receiver is a field over a net. -/
import Derived.Test.YtlgekkffekagbaaFieldW4
set_option maxRecDepth 1000000
namespace Go.Proofs.Ytlgekkffekagbaa
open Go.ChangeShapes Go.WideShapes Go.ChangeAt Go.RowKit Go.Sort

theorem zero_field : Try.zeroCells70 = (zeroFld.row (.pointer none)).toArray := by kernel_rfl
theorem info_field : (Try.prog.info? 70).map (·.size) = some 265 := by kernel_rfl
theorem set_row0 (f : Fld) (u v : Value) : (f.row u).toArray.setIfInBounds 0 v = (f.row v).toArray := by simp [Fld.row]
def newTo (p : Plan) (j : Nat) : Fld := ⟨mixTo (newPt p) (fun _ => zeroPt) 40 j, List.replicate 40 false, List.replicate 24 false⟩
theorem newTo_len (p : Plan) (j : Nat) : (newTo p j).len := ⟨by simp [newTo, mixTo_len], by simp [newTo], by simp [newTo]⟩
theorem newTo_zero (p : Plan) : newTo p 0 = zeroFld := by unfold newTo zeroFld; rw [← mixTo_rep]
theorem newTo_end {p : Plan} : newTo p p.elems.length = newFld p := by
  unfold newTo newFld mixTo
  congr 1
  apply List.map_congr_left
  intro i _
  split
  · rfl
  · unfold newPt
    rw [if_neg]
    intro hk; have := kind_lt (p := p) (i := i) (by omega); omega
theorem newTo_pt {p : Plan} {j : Nat} (h : j < 40) : (newTo p j).pt j = zeroPt := by
  unfold Fld.pt newTo
  rw [getD_some (mixTo_get _ _ h), if_neg (by omega)]
theorem newTo_set {p : Plan} {j : Nat} {x : Pt} (hx : x = newPt p j) : ({ newTo p j with pts := (newTo p j).pts.set j x } : Fld) = newTo p (j + 1) := by
  unfold newTo; rw [mixTo_set _ _ hx]
theorem newTo_same {p : Plan} {j : Nat} (h : newPt p j = zeroPt) : newTo p j = newTo p (j + 1) := by
  unfold newTo; rw [mixTo_same (newPt p) (fun _ => zeroPt) h.symm]
set_option maxHeartbeats 1000000 in
theorem newf_any (w : World) (nb : Nat) (p : Plan) (hn : NetAt w nb p) :
    Calls Try.prog 11 #[.pointer (some ⟨nb, 0, none⟩)] w fun en w' => ∃ b, en = .returned (.pointer (some ⟨b, 0, none⟩)) ∧ w.heap.size ≤ b ∧ FldAt w' b nb p (newFld p) ∧ Below w.heap.size w w' := by
  have HN := Lib.hid hn
  obtain ⟨n, hln⟩ : ∃ n, p.elems.length = n := ⟨_, rfl⟩
  have h40 := (elems_le hn.ok).1
  rw [hln] at h40
  have He := Lib.hid (show newTo p n = newFld p by rw [← hln]; exact newTo_end)
  have HL := Lib.hid (fun (u : World) (hb : Below w.heap.size w u) => nlen_any u nb p (hn.below hb))
  rw [hln] at HL
  clear hn hln
  go_enter Try.func11, Try.ntmps11
  go_wp2_with fail
  refine name_calls fun w1 hw => ?_
  have hb1 : Below w.heap.size w w1 := by rw [hw]; exact below_new _ _
  have hx : FldBox w1 w.heap.size (.pointer (some ⟨nb, 0, none⟩)) (newTo p 0) := by
    rw [hw, zero_field, set_row0, newTo_zero]; exact heap_alloc_new w _
  have HX := Lib.hid hx
  have Hb1 := Lib.hid hb1
  clear hx hb1 hw
  refine (HL.out w1 Hb1.out).mono ?_
  rintro en w2 ⟨rfl, rfl⟩
  go_wp2_with fail
  go_loopg [10] n (fun k i wr => ∃ j : Nat, j + k = n ∧ i = .int .i64 j ∧ Hid (FldBox wr w.heap.size (.pointer (some ⟨nb, 0, none⟩)) (newTo p j)) ∧ Hid (Below w.heap.size w wr))
  case atStart => exact ⟨0, by omega, rfl, HX.out, Hb1.out⟩
  case round =>
    obtain ⟨j, hk, rfl, hX, hB⟩ := hrel
    have Hk := Lib.hid hk; clear hk
    by_cases hlt : j < n
    · have hj40 : j < 40 := by omega
      have HK := Lib.hid (nkind_any wr nb p (HN.out.below hB.out) (j : Int))
      by_cases hk2 : p.kind (j : Int) = 2
      · have q2 : (p.kind (j : Int) == 2) = true := by simp [hk2]
        have Hs := Lib.hid (newTo_set (p := p) (j := j) (x := { zeroPt with lie := 1 }) (by unfold newPt; rw [if_pos hk2]; rfl))
        clear hk2
        go_wp2_with fail
        refine HK.out.mono ?_
        rintro en w3 ⟨rfl, hb⟩
        have HX3 := Lib.hid (hX.out.below hb hX.out.lt)
        have HB3 := Lib.hid (show Below w.heap.size w w3 from below_step hB.out hb hB.out.size)
        have fz := HX3.out.frozen
        have hbl := HX3.out.lt
        have m1 := HX3.out.lie (newTo_len _ _) hj40
        clear hb
        go_wp2_with fail
        go_roundg (n - j - 1)
        case measure => have := Hk.out; omega
        case rel =>
          refine ⟨j + 1, by have := Hk.out; omega, by go_num, ?_, Below.setCell HB3.out (p := ⟨w.heap.size, _, none⟩) (Nat.le_refl _) _⟩
          unfold Hid; rw [← Hs.out]
          exact HX3.out.setPt (newTo_len _ _) (k := 0) hj40 (by omega) (by rw [newTo_pt hj40]; rfl)
      · have q2 : (p.kind (j : Int) == 2) = false := by simp [hk2]
        have Hs := Lib.hid (newTo_same (p := p) (j := j) (by unfold newPt; rw [if_neg hk2]))
        clear hk2
        go_wp2_with fail
        refine HK.out.mono ?_
        rintro en w3 ⟨rfl, hb⟩
        go_wp2_with fail
        go_roundg (n - j - 1)
        case measure => have := Hk.out; omega
        case rel => exact ⟨j + 1, by have := Hk.out; omega, by go_num, by unfold Hid; rw [← Hs.out]; exact hX.out.below hb hX.out.lt, below_step hB.out hb hB.out.size⟩
    · have hj : j = n := by have := Hk.out; omega
      subst hj
      go_wp2_with fail
      go_ret
      exact ⟨_, rfl, Nat.le_refl _, ⟨by rw [← He.out]; exact hX.out, newFld_ok p⟩, hB.out⟩
theorem enc_one (x : Pt) : ∀ u ∈ encPt x, u.oneCell' = true := by
  intro u hu
  simp [encPt] at hu
  rcases hu with rfl | rfl | rfl | rfl | rfl <;> rfl
theorem row_one (f : Fld) (nb : Nat) : (f.row (.pointer (some ⟨nb, 0, none⟩))).toArray.all (·.oneCell') = true := by
  rw [Array.all_eq_true_iff_forall_mem]
  intro u hu
  simp only [Fld.row, List.mem_toArray, List.mem_cons, List.mem_append, List.mem_flatMap, List.mem_map] at hu
  rcases hu with rfl | ⟨x, _, hx⟩ | ⟨x, _, rfl⟩ | ⟨x, _, rfl⟩
  · rfl
  · exact enc_one x u hx
  · rfl
  · rfl
theorem setRow_new (w : World) (c c' : Array Value) (t : TypeId) : (w.alloc (.cells c t)).setRow w.heap.size c' = w.alloc (.cells c' t) := by
  simp only [World.setRow, World.alloc]
  congr 1
  apply Array.ext_getElem?
  intro i
  rw [Array.getElem?_modify]
  by_cases h : w.heap.size = i
  · subst h
    simp
  · have h' : ¬ i = w.heap.size := fun e => h e.symm
    simp [h, h', Array.getElem?_push]
theorem row_size {f : Fld} (h : f.len) (v : Value) : (some 265 : Option Nat) = some (f.row v).toArray.size := by rw [List.size_toArray, Fld.row_length h]
theorem zero_size : Try.zeroCells70.size = 265 := by rw [zero_field]; kernel_rfl
theorem twinf_any (w : World) (b nb : Nat) (p : Plan) (f : Fld) (hf : FldAt w b nb p f) :
    Calls Try.prog 29 #[.pointer (some ⟨b, 0, none⟩)] w fun en w' => ∃ b', en = .returned (.pointer (some ⟨b', 0, none⟩)) ∧ w.heap.size ≤ b' ∧ FldAt w' b' nb p f ∧ Below w.heap.size w w' := by
  have HF := Lib.hid hf
  have hbx : w.heap[b]? = some (.cells (f.row (.pointer (some ⟨nb, 0, none⟩))).toArray 70) := hf.box
  have hi : (Try.prog.info? 70).map (·.size) = some (f.row (.pointer (some ⟨nb, 0, none⟩))).toArray.size := by rw [info_field]; exact row_size hf.ok.len _
  have ho : Try.zeroCells70.size = (f.row (.pointer (some ⟨nb, 0, none⟩))).toArray.size := by rw [zero_size, List.size_toArray, Fld.row_length hf.ok.len]
  have h1 := row_one f nb
  obtain ⟨cs, hcs⟩ : ∃ cs, (f.row (.pointer (some ⟨nb, 0, none⟩))).toArray = cs := ⟨_, rfl⟩
  rw [hcs] at hbx hi ho h1
  have Hbx := Lib.hid hbx
  have Hi := Lib.hid hi
  have Ho := Lib.hid ho
  have H1 := Lib.hid h1
  have Hcs := Lib.hid hcs
  clear hf hbx hi ho h1 hcs
  go_enter Try.func29, Try.ntmps29
  go_wp2_with (first | refine wpList_load_row rfl _ _ rfl b rfl 70 cs (0, 0) _ Hbx.out Try.underlying70 rfl Hi.out ?_ | refine wpList_store_row rfl _ _ _ rfl w.heap.size cs rfl rfl 70 Try.zeroCells70 (heap_alloc_new w _) Hi.out Ho.out H1.out ?_)
  rw [setRow_new]
  go_ret
  refine ⟨_, rfl, Nat.le_refl _, ⟨?_, HF.out.ok⟩, below_new _ _⟩
  unfold FldBox
  rw [Hcs.out]
  exact heap_alloc_new w _
end Go.Proofs.Ytlgekkffekagbaa
