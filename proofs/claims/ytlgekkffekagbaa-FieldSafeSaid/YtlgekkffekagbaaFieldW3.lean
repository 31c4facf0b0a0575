/- Walks of package field: Pos, Told, Occ, Lamps. Condition: the receiver is a field over a net. -/
import Derived.Test.YtlgekkffekagbaaFieldW2
set_option maxRecDepth 1000000
namespace Go.Proofs.Ytlgekkffekagbaa
open Go.ChangeShapes Go.WideShapes Go.ChangeAt Go.RowKit Go.Sort

/-! rows that are filled from the left -/
def mixTo {α : Type} (g h : Nat → α) (n j : Nat) : List α := (List.range n).map fun i => if i < j then g i else h i
theorem mixTo_len {α : Type} (g h : Nat → α) (n j : Nat) : (mixTo g h n j).length = n := by simp [mixTo]
theorem mixTo_zero {α : Type} (g h : Nat → α) (n : Nat) : mixTo g h n 0 = (List.range n).map h := by simp [mixTo]
theorem mixTo_end {α : Type} (g h : Nat → α) (n : Nat) : mixTo g h n n = (List.range n).map g := by
  unfold mixTo
  apply List.map_congr_left
  intro i hi; rw [if_pos (List.mem_range.1 hi)]
theorem mixTo_get {α : Type} (g h : Nat → α) {n j i : Nat} (hi : i < n) : (mixTo g h n j)[i]? = some (if i < j then g i else h i) := by simp [mixTo, hi]
theorem mixTo_set {α : Type} (g h : Nat → α) {n j : Nat} {x : α} (hx : x = g j) : (mixTo g h n j).set j x = mixTo g h n (j + 1) := by
  subst hx
  apply List.ext_getElem?
  intro i
  rw [List.getElem?_set, mixTo_len]
  rcases Nat.lt_or_ge i n with hi | hi
  · rw [mixTo_get _ _ hi, mixTo_get _ _ hi]
    by_cases hij : j = i
    · subst hij; simp [hi]
    · rw [if_neg hij]
      congr 1
      by_cases h1 : i < j
      · rw [if_pos h1, if_pos (by omega)]
      · rw [if_neg h1, if_neg (by omega)]
  · rw [List.getElem?_eq_none (by rw [mixTo_len]; exact hi), List.getElem?_eq_none (by rw [mixTo_len]; exact hi)]
    split <;> simp_all
theorem mixTo_same {α : Type} (g h : Nat → α) {n j : Nat} (hx : h j = g j) : mixTo g h n j = mixTo g h n (j + 1) := by
  unfold mixTo
  apply List.map_congr_left
  intro i _
  by_cases h1 : i < j
  · rw [if_pos h1, if_pos (by omega)]
  · rw [if_neg h1]
    by_cases h2 : i = j
    · subst h2; rw [if_pos (by omega), hx]
    · rw [if_neg (by omega)]
theorem mixTo_rep {α : Type} (g : Nat → α) (z : α) (n : Nat) : List.replicate n z = mixTo g (fun _ => z) n 0 := by rw [mixTo_zero]; simp [List.map_const']

/-! rows of truths -/
def encBool (x : Bool) : List Value := [.bool x]
abbrev Bools (w : World) (a : Option Addr) (n : Nat) (xs : List Bool) : Prop := Row 1 encBool w a n xs
theorem Row.bool {w : World} {a : Option Addr} {n : Nat} {xs : List Bool} (h : Row 1 encBool w a n xs) {i : Nat} {x : Bool} (hx : xs[i]? = some x) :
    ∃ b off, a = some ⟨b, off, none⟩ ∧ b < w.heap.size ∧ w.cell? ⟨b, off + i, none⟩ = some (.bool x) := by
  obtain ⟨b, off, ha, hb, hc⟩ := h.at_ i x hx
  exact ⟨b, off, ha, hb, by simpa using hc 0 _ rfl⟩
abbrev OwnB (w : World) (base : Nat) (v : Value) (n : Nat) (xs : List Bool) : Prop := w.ownsRow base 4 1 v n (xs.map Value.bool)
theorem flat_bools (xs : List Bool) : xs.flatMap encBool = xs.map Value.bool := by
  induction xs with
  | nil => rfl
  | cons x r ih => simp [List.flatMap_cons, encBool, ih]
theorem own_bools {w : World} {base : Nat} {a : Option Addr} {n m c : Nat} {xs : List Bool} (h : OwnB w base (.slice a n c) m xs) : Bools w a n xs ∧ m = n := by
  unfold OwnB at h; rw [← flat_bools] at h; exact owns_row (sz := 1) (enc := encBool) (fun _ => rfl) h (by omega)
theorem info_boolF : (Try.prog.info? 4).map (fun i => (i.zero, i.size, i.bytes)) = some (some (.bool false), 1, 1) := by kernel_rfl
theorem info_intF : (Try.prog.info? 3).map (fun i => (i.zero, i.size, i.bytes)) = some (some (.int .i64 0), 1, 8) := by kernel_rfl
theorem own_cellI {w : World} {base g n cap : Nat} {xs : List Int} (h : OwnI w base (.slice (some ⟨g, 0, none⟩) n cap) n xs) {j : Nat} {x : Int} (hx : xs[j]? = some x) : w.cell? ⟨g, j, none⟩ = some (.int .i64 x) := own1_cell h hx
theorem own_setB {w : World} {base g n cap : Nat} {xs : List Bool} (h : OwnB w base (.slice (some ⟨g, 0, none⟩) n cap) n xs) (j : Nat) (u : Bool) : OwnB (w.setCell ⟨g, j, none⟩ (.bool u)) base (.slice (some ⟨g, 0, none⟩) n cap) n (xs.set j u) := (own1_set h j u).1

set_option maxHeartbeats 1000000 in
theorem pos_any (w : World) (b nb : Nat) (p : Plan) (f : Fld) (hn : NetAt w nb p) (hf : FldAt w b nb p f) :
    Calls Try.prog 14 #[.pointer (some ⟨b, 0, none⟩)] w fun en w' => ∃ g, en = .returned (.slice (some ⟨g, 0, none⟩) p.elems.length p.elems.length) ∧ OwnI w' w.heap.size (.slice (some ⟨g, 0, none⟩) p.elems.length p.elems.length) p.elems.length (f.pos p) ∧ Below w.heap.size w w' := by
  have c0 := hf.box.net
  have HL := Lib.hid (nlen_any w nb p hn)
  have HF := Lib.hid hf
  have Hc := Lib.hid hn.ok
  obtain ⟨n, hln⟩ : ∃ n, p.elems.length = n := ⟨_, rfl⟩
  have h40 := (elems_le Hc.out).1
  rw [hln] at HL h40
  have Hpos := Lib.hid (show f.pos p = mixTo (fun i => posPt (f.pt i)) (fun _ => (0 : Int)) n n by rw [mixTo_end]; unfold Fld.pos; rw [hln])
  rw [hln]
  obtain ⟨ii, hii, zi1, zi2, zi3⟩ := info_parts info_intF
  clear hn hf hln
  go_enter Try.func14, Try.ntmps14
  go_wp2_with fail
  refine HL.out.mono ?_
  rintro en w0 ⟨rfl, rfl⟩
  go_wp2_with (at_make; refine wpList_make_full _ rfl _ _ 28 rfl w.heap.size 3 ii (.int .i64 0) 1 Try.underlying28 hii zi1 zi2 _ _ _ _ n rfl rfl rfl rfl (by rw [zi3]; omega) (by simp [maxLen]; omega) (Nat.le_refl _) ?_; intro w1 hown hgrow)
  have hb1 : Below w.heap.size w w1 := (Below.refl _ _).grown hgrow (Nat.le_refl _) (by intro k hk; cases hk)
  rw [show (Value.int .i64 0).cells = #[Value.int .i64 0] from rfl, Nat.mul_one, toList_madeCells_one] at hown
  have HO := Lib.hid (show OwnI w1 w.heap.size (.slice (some ⟨w.heap.size, 0, none⟩) n n) n (mixTo (fun i => posPt (f.pt i)) (fun _ => (0 : Int)) n 0) by rw [← mixTo_rep]; unfold OwnI; simpa using hown)
  have Hb1 := Lib.hid hb1
  clear hown hgrow hb1 c0
  go_loopg [13] n (fun k i wr => ∃ j : Nat, j + k = n ∧ i = .int .i64 j ∧ Hid (OwnI wr w.heap.size (.slice (some ⟨w.heap.size, 0, none⟩) n n) n (mixTo (fun i => posPt (f.pt i)) (fun _ => (0 : Int)) n j)) ∧ Hid (Below w.heap.size w wr))
  case atStart => exact ⟨0, by omega, rfl, HO.out, Hb1.out⟩
  case round =>
    obtain ⟨j, hk, rfl, hO, hB⟩ := hrel
    have Hk := Lib.hid hk; clear hk
    by_cases hlt : j < n
    · have hj40 : j < 40 := by omega
      have HF1 := Lib.hid (HF.out.below hB.out)
      have m1 := HF1.out.box.left HF1.out.ok.len hj40
      have m2 := HF1.out.box.lie HF1.out.ok.len hj40
      have k1 := own_cellI hO.out (mixTo_get _ _ hlt)
      have k2 := hO.out.frozenAt j
      have hs := (own_shape' hO.out).2
      by_cases h0 : (f.pt j).left = 0
      · have q0 : ((f.pt j).left == 0) = true := by simp [h0]
        have Hs := Lib.hid (mixTo_set (fun i => posPt (f.pt i)) (fun _ => (0 : Int)) (n := n) (j := j) (x := (f.pt j).lie) (by unfold posPt; rw [if_pos h0]))
        clear h0
        go_wp2_with fail
        go_roundg (n - j - 1)
        case measure => have := Hk.out; omega
        case rel => exact ⟨j + 1, by have := Hk.out; omega, by go_num, by unfold Hid; rw [← Hs.out]; exact (own_set hO.out j _).1, hB.out.setCell (p := ⟨w.heap.size, j, none⟩) (Nat.le_refl _) _⟩
      · have q0 : ((f.pt j).left == 0) = false := by simp [h0]
        have Hs := Lib.hid (mixTo_same (fun i => posPt (f.pt i)) (fun _ => (0 : Int)) (n := n) (j := j) (by unfold posPt; rw [if_neg h0]))
        clear h0
        go_wp2_with fail
        go_roundg (n - j - 1)
        case measure => have := Hk.out; omega
        case rel => exact ⟨j + 1, by have := Hk.out; omega, by go_num, by unfold Hid; rw [← Hs.out]; exact hO.out, hB⟩
    · have hj : j = n := by have := Hk.out; omega
      subst hj
      go_wp2_with fail
      go_ret
      exact ⟨_, rfl, by rw [Hpos.out]; exact hO.out, hB.out⟩

set_option maxHeartbeats 1000000 in
theorem told_any (w : World) (b nb : Nat) (p : Plan) (f : Fld) (hn : NetAt w nb p) (hf : FldAt w b nb p f) :
    Calls Try.prog 22 #[.pointer (some ⟨b, 0, none⟩)] w fun en w' => ∃ g, en = .returned (.slice (some ⟨g, 0, none⟩) p.elems.length p.elems.length) ∧ OwnI w' w.heap.size (.slice (some ⟨g, 0, none⟩) p.elems.length p.elems.length) p.elems.length (f.told p) ∧ Below w.heap.size w w' := by
  have HP := Lib.hid (pos_any w b nb p f hn hf)
  have HF := Lib.hid hf
  have Hc := Lib.hid hn.ok
  obtain ⟨n, hln⟩ : ∃ n, p.elems.length = n := ⟨_, rfl⟩
  have h40 := (elems_le Hc.out).1
  rw [show f.pos p = mixTo (fun i => toldPt (f.pt i)) (fun i => posPt (f.pt i)) n 0 by rw [mixTo_zero]; unfold Fld.pos; rw [hln]] at HP
  rw [hln] at HP h40
  have Hpos := Lib.hid (show f.told p = mixTo (fun i => toldPt (f.pt i)) (fun i => posPt (f.pt i)) n n by rw [mixTo_end]; unfold Fld.told; rw [hln])
  rw [hln]
  clear hn hf hln
  go_enter Try.func22, Try.ntmps22
  go_wp2_with fail
  refine HP.out.mono ?_
  rintro en w1 ⟨g, rfl, hown, hb1⟩
  have HO := Lib.hid hown
  have Hb1 := Lib.hid hb1
  have hg := (own_shape' hown).1
  clear hown hb1 HP
  go_wp2_with fail
  go_loopg [9] n (fun k i wr => ∃ j : Nat, j + k = n ∧ i = .int .i64 j ∧ Hid (OwnI wr w.heap.size (.slice (some ⟨g, 0, none⟩) n n) n (mixTo (fun i => toldPt (f.pt i)) (fun i => posPt (f.pt i)) n j)) ∧ Hid (Below w.heap.size w wr))
  case atStart => exact ⟨0, by omega, rfl, HO.out, Hb1.out⟩
  case round =>
    obtain ⟨j, hk, rfl, hO, hB⟩ := hrel
    have Hk := Lib.hid hk; clear hk
    by_cases hlt : j < n
    · have hj40 : j < 40 := by omega
      have HF1 := Lib.hid (HF.out.below hB.out)
      have m1 := HF1.out.box.blind HF1.out.ok.len hj40
      have k1 := own_cellI hO.out (mixTo_get _ _ hlt)
      have k2 := hO.out.frozenAt j
      have hs := (own_shape' hO.out).2
      cases h0 : (f.pt j).blind with
      | true =>
        rw [h0] at m1
        have Hs := Lib.hid (mixTo_set (fun i => toldPt (f.pt i)) (fun i => posPt (f.pt i)) (n := n) (j := j) (x := 0) (by unfold toldPt; rw [if_pos h0]))
        clear h0
        go_wp2_with fail
        go_roundg (n - j - 1)
        case measure => have := Hk.out; omega
        case rel => exact ⟨j + 1, by have := Hk.out; omega, by go_num, by unfold Hid; rw [← Hs.out]; exact (own_set hO.out j _).1, hB.out.setCell (p := ⟨g, j, none⟩) hg _⟩
      | false =>
        rw [h0] at m1
        have Hs := Lib.hid (mixTo_same (fun i => toldPt (f.pt i)) (fun i => posPt (f.pt i)) (n := n) (j := j) (by unfold toldPt; rw [if_neg (by rw [h0]; simp)]))
        clear h0
        go_wp2_with fail
        go_roundg (n - j - 1)
        case measure => have := Hk.out; omega
        case rel => exact ⟨j + 1, by have := Hk.out; omega, by go_num, by unfold Hid; rw [← Hs.out]; exact hO.out, hB⟩
    · have hj : j = n := by have := Hk.out; omega
      subst hj
      go_wp2_with fail
      go_ret
      exact ⟨_, rfl, by rw [Hpos.out]; exact hO.out, hB.out⟩
end Go.Proofs.Ytlgekkffekagbaa
