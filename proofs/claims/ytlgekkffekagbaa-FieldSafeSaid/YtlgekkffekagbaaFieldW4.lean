/- Walks of package field: Occ, Lamps. Condition: the receiver is a field over a net. -/
import Derived.Test.YtlgekkffekagbaaFieldW3
set_option maxRecDepth 1000000
namespace Go.Proofs.Ytlgekkffekagbaa
open Go.ChangeShapes Go.WideShapes Go.ChangeAt Go.RowKit Go.Sort

theorem getD_some {α : Type} {l : List α} {i : Nat} {x z : α} (h : l[i]? = some x) : l.getD i z = x := by simp [List.getD, h]
theorem getD_none {α : Type} {l : List α} {i : Nat} {z : α} (h : l.length ≤ i) : l.getD i z = z := by simp [List.getD, List.getElem?_eq_none h]

set_option maxHeartbeats 1000000 in
theorem occ_any (w : World) (b nb : Nat) (p : Plan) (f : Fld) (hn : NetAt w nb p) (hf : FldAt w b nb p f) (a : Option Addr) (n2 c2 : Nat) (real : List Bool) (hr : Bools w a n2 real) :
    Calls Try.prog 25 #[.pointer (some ⟨b, 0, none⟩), .slice a n2 c2] w fun en w' => ∃ g, en = .returned (.slice (some ⟨g, 0, none⟩) p.elems.length p.elems.length) ∧ OwnB w' w.heap.size (.slice (some ⟨g, 0, none⟩) p.elems.length p.elems.length) p.elems.length (f.occ p real) ∧ Below w.heap.size w w' := by
  have c0 := hf.box.net
  have HL := Lib.hid (nlen_any w nb p hn)
  have HF := Lib.hid hf
  have Hc := Lib.hid hn.ok
  have HN := Lib.hid hn
  have HR := Lib.hid hr
  have Lr := Lib.hid hr.len
  obtain ⟨n, hln⟩ : ∃ n, p.elems.length = n := ⟨_, rfl⟩
  have h40 := (elems_le Hc.out).1
  rw [hln] at HL h40
  have Hpos := Lib.hid (show f.occ p real = mixTo (fun i => occAt p (f.short.getD i false) real i) (fun _ => false) n n by rw [mixTo_end]; unfold Fld.occ; rw [hln])
  rw [hln]
  obtain ⟨ii, hii, zi1, zi2, zi3⟩ := info_parts info_boolF
  clear hn hf hln hr
  go_enter Try.func25, Try.ntmps25
  go_wp2_with fail
  refine HL.out.mono ?_
  rintro en w0 ⟨rfl, rfl⟩
  go_wp2_with (at_make; refine wpList_make_full _ rfl _ _ 42 rfl w.heap.size 4 ii (.bool false) 1 Try.underlying42 hii zi1 zi2 _ _ _ _ n rfl rfl rfl rfl (by rw [zi3]; omega) (by simp [maxLen]; omega) (Nat.le_refl _) ?_; intro w1 hown hgrow)
  have hb1 : Below w.heap.size w w1 := (Below.refl _ _).grown hgrow (Nat.le_refl _) (by intro k hk; cases hk)
  rw [show (Value.bool false).cells = #[Value.bool false] from rfl, Nat.mul_one, toList_madeCells_one] at hown
  have HO := Lib.hid (show OwnB w1 w.heap.size (.slice (some ⟨w.heap.size, 0, none⟩) n n) n (mixTo (fun i => occAt p (f.short.getD i false) real i) (fun _ => false) n 0) by rw [← mixTo_rep]; unfold OwnB; simpa using hown)
  have Hb1 := Lib.hid hb1
  clear hown hgrow hb1 c0
  go_loopg [15] n (fun k i wr => ∃ j : Nat, j + k = n ∧ i = .int .i64 j ∧ Hid (OwnB wr w.heap.size (.slice (some ⟨w.heap.size, 0, none⟩) n n) n (mixTo (fun i => occAt p (f.short.getD i false) real i) (fun _ => false) n j)) ∧ Hid (Below w.heap.size w wr))
  case atStart => exact ⟨0, by omega, rfl, HO.out, Hb1.out⟩
  case round =>
    obtain ⟨j, hk, rfl, hO, hB⟩ := hrel
    have Hk := Lib.hid hk; clear hk
    by_cases hlt : j < n
    · have hj40 : j < 40 := by omega
      have c0 := (HF.out.below hB.out).box.net
      have hbl := (HF.out.below hB.out).box.lt
      have HK := Lib.hid (nkind_any wr nb p (HN.out.below hB.out) (j : Int))
      by_cases hk4 : p.kind (j : Int) = 4
      · have q4 : (p.kind (j : Int) != 4) = false := by simp [hk4]
        have Hs := Lib.hid (mixTo_set (fun i => occAt p (f.short.getD i false) real i) (fun _ => false) (n := n) (j := j) (x := false) (by unfold occAt; simp [hk4]))
        clear hk4
        go_wp2_with fail
        refine HK.out.mono ?_
        rintro en w2 ⟨rfl, hb⟩
        have HO2 := Lib.hid (show OwnB w2 _ _ _ _ from owns_below hO.out hb)
        have HB2 := Lib.hid (show Below w.heap.size w w2 from below_step hB.out hb hB.out.size)
        have k1 := own1_cell HO2.out (mixTo_get _ _ hlt)
        have k2 := HO2.out.frozenAt j
        have hs := (own_shape' HO2.out).2
        have m1 := (HF.out.below HB2.out).box.short HF.out.ok.len hj40
        clear hb
        go_wp2_with fail
        go_roundg (n - j - 1)
        case measure => have := Hk.out; omega
        case rel => exact ⟨j + 1, by have := Hk.out; omega, by go_num, by unfold Hid; rw [← Hs.out]; exact (own_setB HO2.out j _), Below.setCell HB2.out (p := ⟨w.heap.size, j, none⟩) (Nat.le_refl _) _⟩
      · have q4 : (p.kind (j : Int) != 4) = true := by simp [hk4]
        cases hsh : f.short.getD j false with
        | true =>
          have Hs := Lib.hid (mixTo_set (fun i => occAt p (f.short.getD i false) real i) (fun _ => false) (n := n) (j := j) (x := true) (by unfold occAt; rw [hsh]; simp [hk4]))
          clear hk4
          go_wp2_with fail
          refine HK.out.mono ?_
          rintro en w2 ⟨rfl, hb⟩
          have HO2 := Lib.hid (show OwnB w2 _ _ _ _ from owns_below hO.out hb)
          have HB2 := Lib.hid (show Below w.heap.size w w2 from below_step hB.out hb hB.out.size)
          have k1 := own1_cell HO2.out (mixTo_get _ _ hlt)
          have k2 := HO2.out.frozenAt j
          have hs := (own_shape' HO2.out).2
          have m1 := (HF.out.below HB2.out).box.short HF.out.ok.len hj40
          rw [hsh] at m1
          clear hb
          go_wp2_with fail
          go_roundg (n - j - 1)
          case measure => have := Hk.out; omega
          case rel => exact ⟨j + 1, by have := Hk.out; omega, by go_num, by unfold Hid; rw [← Hs.out]; exact (own_setB HO2.out j _), Below.setCell HB2.out (p := ⟨w.heap.size, j, none⟩) (Nat.le_refl _) _⟩
        | false =>
          by_cases hj2 : j < n2
          · obtain ⟨x, hx⟩ := get_some Lr.out hj2
            obtain ⟨g2, o2, ha, hg2, r0⟩ := HR.out.bool hx
            subst ha
            have Hs := Lib.hid (mixTo_set (fun i => occAt p (f.short.getD i false) real i) (fun _ => false) (n := n) (j := j) (x := x) (by unfold occAt; rw [hsh, getD_some hx]; simp [hk4]))
            clear hk4 hx
            go_wp2_with fail
            refine HK.out.mono ?_
            rintro en w2 ⟨rfl, hb⟩
            have HO2 := Lib.hid (show OwnB w2 _ _ _ _ from owns_below hO.out hb)
            have HB2 := Lib.hid (show Below w.heap.size w w2 from below_step hB.out hb hB.out.size)
            have k1 := own1_cell HO2.out (mixTo_get _ _ hlt)
            have k2 := HO2.out.frozenAt j
            have hs := (own_shape' HO2.out).2
            have m1 := (HF.out.below HB2.out).box.short HF.out.ok.len hj40
            rw [hsh] at m1
            have r1 := (HB2.out.cell (p := ⟨g2, o2 + j, none⟩) hg2).trans r0
            clear hb
            go_wp2_with fail
            go_roundg (n - j - 1)
            case measure => have := Hk.out; omega
            case rel => exact ⟨j + 1, by have := Hk.out; omega, by go_num, by unfold Hid; rw [← Hs.out]; exact (own_setB HO2.out j _), Below.setCell HB2.out (p := ⟨w.heap.size, j, none⟩) (Nat.le_refl _) _⟩
          · have qj : decide ((j : Int) < (n2 : Int)) = false := by simp; omega
            have Hs := Lib.hid (mixTo_set (fun i => occAt p (f.short.getD i false) real i) (fun _ => false) (n := n) (j := j) (x := false) (by unfold occAt; rw [hsh, getD_none (l := real) (by have := Lr.out; omega)]; simp))
            clear hk4
            go_wp2_with fail
            refine HK.out.mono ?_
            rintro en w2 ⟨rfl, hb⟩
            have HO2 := Lib.hid (show OwnB w2 _ _ _ _ from owns_below hO.out hb)
            have HB2 := Lib.hid (show Below w.heap.size w w2 from below_step hB.out hb hB.out.size)
            have k1 := own1_cell HO2.out (mixTo_get _ _ hlt)
            have k2 := HO2.out.frozenAt j
            have hs := (own_shape' HO2.out).2
            have m1 := (HF.out.below HB2.out).box.short HF.out.ok.len hj40
            rw [hsh] at m1
            clear hb
            go_wp2_with fail
            go_roundg (n - j - 1)
            case measure => have := Hk.out; omega
            case rel => exact ⟨j + 1, by have := Hk.out; omega, by go_num, by unfold Hid; rw [← Hs.out]; exact (own_setB HO2.out j _), Below.setCell HB2.out (p := ⟨w.heap.size, j, none⟩) (Nat.le_refl _) _⟩
    · have hj : j = n := by have := Hk.out; omega
      subst hj
      go_wp2_with fail
      go_ret
      exact ⟨_, rfl, by rw [Hpos.out]; exact hO.out, hB.out⟩

set_option maxHeartbeats 1000000 in
theorem lamps_any (w : World) (b nb : Nat) (p : Plan) (f : Fld) (hn : NetAt w nb p) (hf : FldAt w b nb p f) (a : Option Addr) (n2 c2 : Nat) (l : List Int) (hr : Ints w a n2 l) :
    Calls Try.prog 27 #[.pointer (some ⟨b, 0, none⟩), .slice a n2 c2] w fun en w' => ∃ g, en = .returned (.slice (some ⟨g, 0, none⟩) p.sigs.length p.sigs.length) ∧ OwnI w' w.heap.size (.slice (some ⟨g, 0, none⟩) p.sigs.length p.sigs.length) p.sigs.length (f.lamps p l) ∧ Below w.heap.size w w' := by
  have c0 := hf.box.net
  have HL := Lib.hid (nsignals_any w nb p hn)
  have HF := Lib.hid hf
  have Hc := Lib.hid hn.ok
  have HR := Lib.hid hr
  have Lr := Lib.hid hr.len
  obtain ⟨n, hln⟩ : ∃ n, p.sigs.length = n := ⟨_, rfl⟩
  have h24 := (elems_le Hc.out).2.1
  rw [hln] at HL h24
  have Hpos := Lib.hid (show f.lamps p l = mixTo (fun i => lampAt (f.dark.getD i false) (l.getD i 0)) (fun _ => (0 : Int)) n n by rw [mixTo_end]; unfold Fld.lamps; rw [hln])
  rw [hln]
  obtain ⟨ii, hii, zi1, zi2, zi3⟩ := info_parts info_intF
  clear hn hf hln hr
  go_enter Try.func27, Try.ntmps27
  go_wp2_with fail
  refine HL.out.mono ?_
  rintro en w0 ⟨rfl, rfl⟩
  go_wp2_with (at_make; refine wpList_make_full _ rfl _ _ 28 rfl w.heap.size 3 ii (.int .i64 0) 1 Try.underlying28 hii zi1 zi2 _ _ _ _ n rfl rfl rfl rfl (by rw [zi3]; omega) (by simp [maxLen]; omega) (Nat.le_refl _) ?_; intro w1 hown hgrow)
  have hb1 : Below w.heap.size w w1 := (Below.refl _ _).grown hgrow (Nat.le_refl _) (by intro k hk; cases hk)
  rw [show (Value.int .i64 0).cells = #[Value.int .i64 0] from rfl, Nat.mul_one, toList_madeCells_one] at hown
  have HO := Lib.hid (show OwnI w1 w.heap.size (.slice (some ⟨w.heap.size, 0, none⟩) n n) n (mixTo (fun i => lampAt (f.dark.getD i false) (l.getD i 0)) (fun _ => (0 : Int)) n 0) by rw [← mixTo_rep]; unfold OwnI; simpa using hown)
  have Hb1 := Lib.hid hb1
  clear hown hgrow hb1 c0
  go_loopg [15] n (fun k i wr => ∃ j : Nat, j + k = n ∧ i = .int .i64 j ∧ Hid (OwnI wr w.heap.size (.slice (some ⟨w.heap.size, 0, none⟩) n n) n (mixTo (fun i => lampAt (f.dark.getD i false) (l.getD i 0)) (fun _ => (0 : Int)) n j)) ∧ Hid (Below w.heap.size w wr))
  case atStart => exact ⟨0, by omega, rfl, HO.out, Hb1.out⟩
  case round =>
    obtain ⟨j, hk, rfl, hO, hB⟩ := hrel
    have Hk := Lib.hid hk; clear hk
    by_cases hlt : j < n
    · have hj24 : j < 24 := by omega
      have hbl := (HF.out.below hB.out).box.lt
      have k1 := own1_cell hO.out (mixTo_get _ _ hlt)
      have k2 := hO.out.frozenAt j
      have hs := (own_shape' hO.out).2
      have m1 := (HF.out.below hB.out).box.dark HF.out.ok.len hj24
      by_cases hj2 : j < n2
      · obtain ⟨x, hx⟩ := get_some Lr.out hj2
        obtain ⟨g2, o2, ha, hg2, r0⟩ := HR.out.int hx
        subst ha
        have r1 := (hB.out.cell (p := ⟨g2, o2 + j, none⟩) hg2).trans r0
        clear r0
        cases hsh : f.dark.getD j false with
        | true =>
          rw [hsh] at m1
          have Hs := Lib.hid (mixTo_same (fun i => lampAt (f.dark.getD i false) (l.getD i 0)) (fun _ => (0 : Int)) (n := n) (j := j) (by unfold lampAt; rw [hsh]; simp))
          clear hx
          go_wp2_with fail
          go_roundg (n - j - 1)
          case measure => have := Hk.out; omega
          case rel => exact ⟨j + 1, by have := Hk.out; omega, by go_num, by unfold Hid; rw [← Hs.out]; exact hO.out, hB⟩
        | false =>
          rw [hsh] at m1
          by_cases x1 : x = 1
          · have y1 : (x == 1) = true := by simp [x1]
            have Hs := Lib.hid (mixTo_set (fun i => lampAt (f.dark.getD i false) (l.getD i 0)) (fun _ => (0 : Int)) (n := n) (j := j) (x := x) (by unfold lampAt; rw [hsh, getD_some hx]; simp [x1]))
            clear hx x1
            go_wp2_with fail
            go_roundg (n - j - 1)
            case measure => have := Hk.out; omega
            case rel => exact ⟨j + 1, by have := Hk.out; omega, by go_num, by unfold Hid; rw [← Hs.out]; exact (own_set hO.out j _).1, Below.setCell hB.out (p := ⟨w.heap.size, j, none⟩) (Nat.le_refl _) _⟩
          · have y1 : (x == 1) = false := by simp [x1]
            by_cases x2 : x = 2
            · have y2 : (x == 2) = true := by simp [x2]
              have Hs := Lib.hid (mixTo_set (fun i => lampAt (f.dark.getD i false) (l.getD i 0)) (fun _ => (0 : Int)) (n := n) (j := j) (x := x) (by unfold lampAt; rw [hsh, getD_some hx]; simp [x2]))
              clear hx x1 x2
              go_wp2_with fail
              go_roundg (n - j - 1)
              case measure => have := Hk.out; omega
              case rel => exact ⟨j + 1, by have := Hk.out; omega, by go_num, by unfold Hid; rw [← Hs.out]; exact (own_set hO.out j _).1, Below.setCell hB.out (p := ⟨w.heap.size, j, none⟩) (Nat.le_refl _) _⟩
            · have y2 : (x == 2) = false := by simp [x2]
              have Hs := Lib.hid (mixTo_same (fun i => lampAt (f.dark.getD i false) (l.getD i 0)) (fun _ => (0 : Int)) (n := n) (j := j) (by unfold lampAt; rw [hsh, getD_some hx]; simp [x1, x2]))
              clear hx x1 x2
              go_wp2_with fail
              go_roundg (n - j - 1)
              case measure => have := Hk.out; omega
              case rel => exact ⟨j + 1, by have := Hk.out; omega, by go_num, by unfold Hid; rw [← Hs.out]; exact hO.out, hB⟩
      · have qj : decide ((j : Int) < (n2 : Int)) = false := by simp; omega
        have Hs := Lib.hid (mixTo_same (fun i => lampAt (f.dark.getD i false) (l.getD i 0)) (fun _ => (0 : Int)) (n := n) (j := j) (by unfold lampAt; rw [getD_none (l := l) (by have := Lr.out; omega)]; simp))
        go_wp2_with fail
        go_roundg (n - j - 1)
        case measure => have := Hk.out; omega
        case rel => exact ⟨j + 1, by have := Hk.out; omega, by go_num, by unfold Hid; rw [← Hs.out]; exact hO.out, hB⟩
    · have hj : j = n := by have := Hk.out; omega
      subst hj
      go_wp2_with fail
      go_ret
      exact ⟨_, rfl, by rw [Hpos.out]; exact hO.out, hB.out⟩
end Go.Proofs.Ytlgekkffekagbaa
