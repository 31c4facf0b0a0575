/- Walks of the reference's Told, Occ, Lamps. Condition: what is read is one. -/
import Derived.Test.YtlgekkffekagbaaFieldR3
set_option maxRecDepth 1000000
namespace Go.Proofs.Ytlgekkffekagbaa
open Go.ChangeShapes Go.WideShapes Go.ChangeAt Go.RowKit Go.Sort

theorem mixTo_stop {α : Type} (g h : Nat → α) {n j : Nat} (hx : ∀ i, j ≤ i → i < n → h i = g i) : mixTo g h n j = mixTo g h n n := by
  rw [mixTo_end]
  unfold mixTo
  apply List.map_congr_left
  intro i hi
  split
  · rfl
  · exact hx i (by omega) (List.mem_range.1 hi)
theorem map_pts {α : Type} (r : RFld) (f : RPt → α) : r.pts.map f = (List.range r.pts.length).map fun i => f (r.pt i) := by
  apply List.ext_getElem?
  intro i
  rcases Nat.lt_or_ge i r.pts.length with h | h
  · rw [List.getElem?_map, List.getElem?_map, List.getElem?_range h, List.getElem?_eq_getElem h]
    simp [RFld.pt, List.getD, h]
  · rw [List.getElem?_eq_none (by simpa using h), List.getElem?_eq_none (by simpa using h)]
theorem rpt_get {r : RFld} {i : Nat} (h : i < r.pts.length) : r.pts[i]? = some (r.pt i) := by
  unfold RFld.pt List.getD
  rw [List.getElem?_eq_getElem h]; rfl
theorem encInt1 : ∀ (x : Int), ∀ u ∈ encInt x, u.oneCell' = true := by intro x u hu; simp [encInt] at hu; subst hu; rfl
theorem encBool1 : ∀ (x : Bool), ∀ u ∈ encBool x, u.oneCell' = true := by intro x u hu; simp [encBool] at hu; subst hu; rfl
theorem empty_own (w : World) (e : TypeId) (sz : Nat) : (w.alloc (.cells #[] e)).ownsRow w.heap.size e sz (.slice (some ⟨w.heap.size, 0, none⟩) 0 0) 0 [] := World.ownsRow_made w #[] 0 (Nat.le_refl _) (by simp [maxLen]) (by simp)

set_option maxHeartbeats 1000000 in
theorem reftold_any (w : World) (R : RB) (lo hi : Nat) (pv : PV) (p : Plan) (r : RFld) (hr : RefAt w R lo hi pv p r) (hn0 : 0 < r.pts.length) (hn40 : r.pts.length ≤ 40) :
    Calls Try.prog 23 #[.pointer (some ⟨R.b, 0, none⟩)] w fun en w' => ∃ g c, en = .returned (.slice (some ⟨g, 0, none⟩) r.pts.length c) ∧ OwnI w' w.heap.size (.slice (some ⟨g, 0, none⟩) r.pts.length c) r.pts.length r.told ∧ Below w.heap.size w w' := by
  have HR := Lib.hid hr
  have Hrow := Lib.hid (show Ints (w.alloc (.cells #[] 3)) (some ⟨R.g1, 0, none⟩) r.pts.length (r.pts.map (·.lie)) from (own_ints hr.lie).1.below (below_new _ _))
  obtain ⟨n, hln⟩ : ∃ n, r.pts.length = n := ⟨_, rfl⟩
  have c9 := hr.k9
  have hbl := hr.lt R.b (by simp [RB.blocks])
  rw [hln] at hn0 hn40 Hrow c9
  have HG := Lib.hid (show r.told = mixTo (fun i => toldR (r.pt i)) (fun i => (r.pt i).lie) n n by rw [mixTo_end, ← hln]; exact map_pts r toldR)
  have HS := Lib.hid (show r.pts.map (·.lie) = mixTo (fun i => toldR (r.pt i)) (fun i => (r.pt i).lie) n 0 by rw [mixTo_zero, ← hln]; exact map_pts r (·.lie))
  have Hl := Lib.hid hln
  have Own0 := Lib.hid (empty_own w 3 1)
  rw [hln]
  clear hr hln
  go_enter Try.func23, Try.ntmps23
  go_wp2_with (at_builtin; refine wpList_app (enc := encInt) (fun _ => rfl) encInt1 _ rfl _ _ 28 rfl w.heap.size 3 (.int .i64 0) 8 Try.underlying28 info_intF rfl (by decide) (.slice (some ⟨w.heap.size, 0, none⟩) 0 0) _ [] rfl Own0.out _ _ _ _ rfl Hrow.out (by simp) (by simp [maxLen]; omega) (by omega) (by simp) ?_; intro v' w1 hown hgrow _)
  have hown' : OwnI w1 w.heap.size v' n (mixTo (fun i => toldR (r.pt i)) (fun i => (r.pt i).lie) n 0) := by
    rw [← HS.out]; unfold OwnI; rw [← flat_ints]; simpa using hown
  obtain ⟨g, cap, rfl, hg, hgl⟩ := own_shape hown' hn0
  have HO := Lib.hid hown'
  have hb1 : Below w.heap.size w w1 := (below_new w (.cells #[] 3)).grown hgrow (by simp) (by intro k hk; cases hk; exact Nat.le_refl _)
  have Hb1 := Lib.hid hb1
  clear hown hown' hgrow hb1 c9 hbl hgl
  go_wp2_with fail
  go_loopg [4] n (fun k i wr => ∃ j : Nat, j + k = n ∧ i = .int .i64 j ∧ Hid (OwnI wr w.heap.size (.slice (some ⟨g, 0, none⟩) n cap) n (mixTo (fun i => toldR (r.pt i)) (fun i => (r.pt i).lie) n j)) ∧ Hid (Below w.heap.size w wr))
  case atStart => exact ⟨0, by omega, rfl, HO.out, Hb1.out⟩
  case round =>
    obtain ⟨j, hk, rfl, hO, hB⟩ := hrel
    have Hk := Lib.hid hk; clear hk
    by_cases hlt : j < n
    · have HR1 := Lib.hid (HR.out.below hB.out)
      have c13 := HR1.out.k13
      rw [Hl.out] at c13
      have hbl := HR1.out.lt R.b (by simp [RB.blocks])
      have hgl := HR1.out.lt R.g5 (by simp [RB.blocks])
      have m1 := HR1.out.cell_blind (rpt_get (r := r) (i := j) (by have := Hl.out; omega))
      have k1 := own_cellI hO.out (mixTo_get _ _ hlt)
      have k2 := hO.out.frozenAt j
      have hs := (own_shape' hO.out).2
      cases h0 : (r.pt j).blind with
      | true =>
        rw [h0] at m1
        have Hs := Lib.hid (mixTo_set (fun i => toldR (r.pt i)) (fun i => (r.pt i).lie) (n := n) (j := j) (x := 0) (by unfold toldR; rw [if_pos h0]))
        clear h0
        go_wp2_with fail
        go_roundg (n - j - 1)
        case measure => have := Hk.out; omega
        case rel => exact ⟨j + 1, by have := Hk.out; omega, by go_num, by unfold Hid; rw [← Hs.out]; exact (own_set hO.out j _).1, hB.out.setCell (p := ⟨g, j, none⟩) hg _⟩
      | false =>
        rw [h0] at m1
        have Hs := Lib.hid (mixTo_same (fun i => toldR (r.pt i)) (fun i => (r.pt i).lie) (n := n) (j := j) (by unfold toldR; rw [if_neg (by rw [h0]; simp)]))
        clear h0
        go_wp2_with fail
        go_roundg (n - j - 1)
        case measure => have := Hk.out; omega
        case rel => exact ⟨j + 1, by have := Hk.out; omega, by go_num, by unfold Hid; rw [← Hs.out]; exact hO.out, hB⟩
    · have hj : j = n := by have := Hk.out; omega
      subst hj
      go_wp2_with fail
      go_ret
      exact ⟨_, _, rfl, by rw [HG.out]; exact hO.out, hB.out⟩

set_option maxHeartbeats 1000000 in
theorem refocc_any (w : World) (R : RB) (lo hi : Nat) (pv : PV) (p : Plan) (r : RFld) (hr : RefAt w R lo hi pv p r) (hp : PlanAt w pv p) (hl : r.pts.length = p.elems.length) (hn0 : 0 < r.pts.length) (hn40 : r.pts.length ≤ 40) (a : Option Addr) (n2 c2 : Nat) (real : List Bool) (hreal : Bools w a n2 real) :
    Calls Try.prog 26 #[.pointer (some ⟨R.b, 0, none⟩), .slice a n2 c2] w fun en w' => ∃ g c, en = .returned (.slice (some ⟨g, 0, none⟩) r.pts.length c) ∧ OwnB w' w.heap.size (.slice (some ⟨g, 0, none⟩) r.pts.length c) r.pts.length (r.occ p real) ∧ Below w.heap.size w w' := by
  have HR := Lib.hid hr
  have HP := Lib.hid hp
  have Hrow := Lib.hid (show Bools (w.alloc (.cells #[] 4)) (some ⟨R.g7, 0, none⟩) r.pts.length (r.pts.map (·.short)) from (own_bools hr.short).1.below (below_new _ _))
  have HQ := Lib.hid hreal
  have Lr := Lib.hid hreal.len
  obtain ⟨n, hln⟩ : ∃ n, r.pts.length = n := ⟨_, rfl⟩
  have c15 := hr.k15
  have hbl := hr.lt R.b (by simp [RB.blocks])
  rw [hln] at hn0 hn40 Hrow c15 hl
  have Hle := Lib.hid hl.symm
  have hne : pv.ne = n := by have := hp.e.len; omega
  have HG := Lib.hid (show r.occ p real = mixTo (fun i => occAt p (r.pt i).short real i) (fun i => (r.pt i).short) n n by rw [mixTo_end, ← hln]; rfl)
  have HS := Lib.hid (show r.pts.map (·.short) = mixTo (fun i => occAt p (r.pt i).short real i) (fun i => (r.pt i).short) n 0 by rw [mixTo_zero, ← hln]; exact map_pts r (·.short))
  have Hl := Lib.hid hln
  have Own0 := Lib.hid (empty_own w 4 1)
  rw [hln]
  clear hr hln hl hp hreal
  go_enter Try.func26, Try.ntmps26
  go_wp2_with (at_builtin; refine wpList_app (enc := encBool) (fun _ => rfl) encBool1 _ rfl _ _ 42 rfl w.heap.size 4 (.bool false) 1 Try.underlying42 info_boolF rfl (by decide) (.slice (some ⟨w.heap.size, 0, none⟩) 0 0) _ [] rfl Own0.out _ _ _ _ rfl Hrow.out (by simp) (by simp [maxLen]; omega) (by omega) (by simp) ?_; intro v' w1 hown hgrow _)
  have hown' : OwnB w1 w.heap.size v' n (mixTo (fun i => occAt p (r.pt i).short real i) (fun i => (r.pt i).short) n 0) := by
    rw [← HS.out]; unfold OwnB; rw [← flat_bools]; simpa using hown
  obtain ⟨g, cap, rfl, hg, hgl⟩ := own_shape hown' hn0
  have HO := Lib.hid hown'
  have hb1 : Below w.heap.size w w1 := (below_new w (.cells #[] 4)).grown hgrow (by simp) (by intro k hk; cases hk; exact Nat.le_refl _)
  have Hb1 := Lib.hid hb1
  clear hown hown' hgrow hb1 c15 hbl hgl
  go_wp2_with fail
  go_loopg [6] n (fun k i wr => ∃ j : Nat, j + k = n ∧ i = .int .i64 j ∧ Hid (OwnB wr w.heap.size (.slice (some ⟨g, 0, none⟩) n cap) n (mixTo (fun i => occAt p (r.pt i).short real i) (fun i => (r.pt i).short) n j)) ∧ Hid (Below w.heap.size w wr))
  case atStart => exact ⟨0, by omega, rfl, HO.out, Hb1.out⟩
  case round =>
    obtain ⟨j, hk, rfl, hO, hB⟩ := hrel
    have Hk := Lib.hid hk; clear hk
    by_cases hlt : j < n
    · have HR1 := Lib.hid (HR.out.below hB.out)
      have c0 := HR1.out.plan.c0
      have hbl := HR1.out.lt R.b (by simp [RB.blocks])
      have k1 := own1_cell (f := Value.bool) hO.out (mixTo_get _ _ hlt)
      rw [if_neg (Nat.lt_irrefl j)] at k1
      have k2 := hO.out.frozenAt j
      have hs := (own_shape' hO.out).2
      obtain ⟨y, hy⟩ := get_some Hle.out hlt
      obtain ⟨ge, oe, hae, hge, y1, y2, y3⟩ := (HP.out.e.below hB.out).elem hy
      have hkx : p.kind (j : Int) = y.kind := by unfold Plan.kind; rw [elem_get (by omega) (show p.elems[((j : Nat) : Int).toNat]? = some y by simpa using hy)]
      rw [hae, hne] at c0
      clear hy y1 y3
      by_cases hk4 : y.kind = 4
      · have q4 : (y.kind != 4) = false := by simp [hk4]
        have Hs := Lib.hid (mixTo_set (fun i => occAt p (r.pt i).short real i) (fun i => (r.pt i).short) (n := n) (j := j) (x := false) (by unfold occAt; rw [hkx]; simp [hk4]))
        clear hk4 hkx
        go_wp2_with fail
        go_roundg (n - j - 1)
        case measure => have := Hk.out; omega
        case rel => exact ⟨j + 1, by have := Hk.out; omega, by go_num, by unfold Hid; rw [← Hs.out]; exact own_setB hO.out j _, hB.out.setCell (p := ⟨g, j, none⟩) hg _⟩
      · have q4 : (y.kind != 4) = true := by simp [hk4]
        cases hsh : (r.pt j).short with
        | true =>
          rw [hsh] at k1
          have Hs := Lib.hid (mixTo_set (fun i => occAt p (r.pt i).short real i) (fun i => (r.pt i).short) (n := n) (j := j) (x := true) (by unfold occAt; rw [hkx]; rw [hsh]; simp [hk4]))
          clear hk4 hkx
          go_wp2_with fail
          go_roundg (n - j - 1)
          case measure => have := Hk.out; omega
          case rel => exact ⟨j + 1, by have := Hk.out; omega, by go_num, by unfold Hid; rw [← Hs.out]; exact own_setB hO.out j _, hB.out.setCell (p := ⟨g, j, none⟩) hg _⟩
        | false =>
          rw [hsh] at k1
          by_cases hj2 : j < n2
          · obtain ⟨x, hx⟩ := get_some Lr.out hj2
            obtain ⟨g2, o2, ha, hg2, r0⟩ := HQ.out.bool hx
            subst ha
            have Hs := Lib.hid (mixTo_set (fun i => occAt p (r.pt i).short real i) (fun i => (r.pt i).short) (n := n) (j := j) (x := x) (by unfold occAt; rw [hkx]; rw [hsh, getD_some hx]; simp [hk4]))
            clear hk4 hx hkx
            have r1 := (hB.out.cell (p := ⟨g2, o2 + j, none⟩) hg2).trans r0
            go_wp2_with fail
            go_roundg (n - j - 1)
            case measure => have := Hk.out; omega
            case rel => exact ⟨j + 1, by have := Hk.out; omega, by go_num, by unfold Hid; rw [← Hs.out]; exact own_setB hO.out j _, hB.out.setCell (p := ⟨g, j, none⟩) hg _⟩
          · have qj : decide ((j : Int) < (n2 : Int)) = false := by simp; omega
            have Hs := Lib.hid (mixTo_set (fun i => occAt p (r.pt i).short real i) (fun i => (r.pt i).short) (n := n) (j := j) (x := false) (by unfold occAt; rw [hkx]; rw [hsh, getD_none (l := real) (by have := Lr.out; omega)]; simp))
            clear hk4 hkx
            go_wp2_with fail
            go_roundg (n - j - 1)
            case measure => have := Hk.out; omega
            case rel => exact ⟨j + 1, by have := Hk.out; omega, by go_num, by unfold Hid; rw [← Hs.out]; exact own_setB hO.out j _, hB.out.setCell (p := ⟨g, j, none⟩) hg _⟩
    · have hj : j = n := by have := Hk.out; omega
      subst hj
      go_wp2_with fail
      go_ret
      exact ⟨_, _, rfl, by rw [HG.out]; exact hO.out, hB.out⟩

set_option maxHeartbeats 1000000 in
theorem reflamps_any (w : World) (R : RB) (lo hi : Nat) (pv : PV) (p : Plan) (r : RFld) (hr : RefAt w R lo hi pv p r) (hn24 : r.dark.length ≤ 24) (a : Option Addr) (n2 c2 : Nat) (l : List Int) (hreal : Ints w a n2 l) :
    Calls Try.prog 28 #[.pointer (some ⟨R.b, 0, none⟩), .slice a n2 c2] w fun en w' => ∃ g, en = .returned (.slice (some ⟨g, 0, none⟩) r.dark.length r.dark.length) ∧ OwnI w' w.heap.size (.slice (some ⟨g, 0, none⟩) r.dark.length r.dark.length) r.dark.length (r.lamps l) ∧ Below w.heap.size w w' := by
  have HR := Lib.hid hr
  have HQ := Lib.hid hreal
  have Lr := Lib.hid hreal.len
  obtain ⟨n, hln⟩ : ∃ n, r.dark.length = n := ⟨_, rfl⟩
  have c14 := hr.k14
  have hbl := hr.lt R.b (by simp [RB.blocks])
  rw [hln] at hn24 c14
  have HG := Lib.hid (show r.lamps l = mixTo (fun i => lampAt (r.dark.getD i false) (l.getD i 0)) (fun _ => (0 : Int)) n n by rw [mixTo_end, ← hln]; rfl)
  have Hl := Lib.hid hln
  rw [hln]
  obtain ⟨ii, hii, zi1, zi2, zi3⟩ := info_parts info_intF
  clear hr hln hreal
  go_enter Try.func28, Try.ntmps28
  go_wp2_with (at_make; refine wpList_make_full _ rfl _ _ 28 rfl w.heap.size 3 ii (.int .i64 0) 1 Try.underlying28 hii zi1 zi2 _ _ _ _ n rfl rfl rfl rfl (by rw [zi3]; omega) (by simp [maxLen]; omega) (Nat.le_refl _) ?_; intro w1 hown hgrow)
  have hb1 : Below w.heap.size w w1 := (Below.refl _ _).grown hgrow (Nat.le_refl _) (by intro k hk; cases hk)
  rw [show (Value.int .i64 0).cells = #[Value.int .i64 0] from rfl, Nat.mul_one, toList_madeCells_one] at hown
  have HO := Lib.hid (show OwnI w1 w.heap.size (.slice (some ⟨w.heap.size, 0, none⟩) n n) n (mixTo (fun i => lampAt (r.dark.getD i false) (l.getD i 0)) (fun _ => (0 : Int)) n 0) by rw [← mixTo_rep]; unfold OwnI; simpa using hown)
  have Hb1 := Lib.hid hb1
  clear hown hgrow hb1 c14
  go_wp2_with fail
  go_loopg [6] (min n n2) (fun k i wr => ∃ j : Nat, j + k = min n n2 ∧ i = .int .i64 j ∧ Hid (OwnI wr w.heap.size (.slice (some ⟨w.heap.size, 0, none⟩) n n) n (mixTo (fun i => lampAt (r.dark.getD i false) (l.getD i 0)) (fun _ => (0 : Int)) n j)) ∧ Hid (Below w.heap.size w wr))
  case atStart => exact ⟨0, by omega, rfl, HO.out, Hb1.out⟩
  case round =>
    obtain ⟨j, hk, rfl, hO, hB⟩ := hrel
    have Hk := Lib.hid hk; clear hk
    by_cases hlt : j < n
    · by_cases hj2 : j < n2
      · have HR1 := Lib.hid (HR.out.below hB.out)
        have c14 := HR1.out.k14
        rw [Hl.out] at c14
        have hbl1 := HR1.out.lt R.b (by simp [RB.blocks])
        have hgl := HR1.out.lt R.g6 (by simp [RB.blocks])
        obtain ⟨d, hd⟩ := get_some Hl.out hlt
        have m1 := HR1.out.cell_dark hd
        have k1 := own_cellI hO.out (mixTo_get _ _ hlt)
        have k2 := hO.out.frozenAt j
        have hs := (own_shape' hO.out).2
        obtain ⟨x, hx⟩ := get_some Lr.out hj2
        obtain ⟨g2, o2, ha, hg2, r0⟩ := HQ.out.int hx
        subst ha
        have r1 := (hB.out.cell (p := ⟨g2, o2 + j, none⟩) hg2).trans r0
        clear r0
        cases d with
        | true =>
          have Hs := Lib.hid (mixTo_same (fun i => lampAt (r.dark.getD i false) (l.getD i 0)) (fun _ => (0 : Int)) (n := n) (j := j) (by unfold lampAt; rw [getD_some hd]; simp))
          clear hx hd
          go_wp2_with fail
          go_roundg (min n n2 - j - 1)
          case measure => have := Hk.out; omega
          case rel => exact ⟨j + 1, by have := Hk.out; omega, by go_num, by unfold Hid; rw [← Hs.out]; exact hO.out, hB⟩
        | false =>
          by_cases x1 : x = 1
          · have y1 : (x == 1) = true := by simp [x1]
            have Hs := Lib.hid (mixTo_set (fun i => lampAt (r.dark.getD i false) (l.getD i 0)) (fun _ => (0 : Int)) (n := n) (j := j) (x := x) (by unfold lampAt; rw [getD_some hd, getD_some hx]; simp [x1]))
            clear hx hd x1
            go_wp2_with fail
            go_roundg (min n n2 - j - 1)
            case measure => have := Hk.out; omega
            case rel => exact ⟨j + 1, by have := Hk.out; omega, by go_num, by unfold Hid; rw [← Hs.out]; exact (own_set hO.out j _).1, hB.out.setCell (p := ⟨w.heap.size, j, none⟩) (Nat.le_refl _) _⟩
          · have y1 : (x == 1) = false := by simp [x1]
            by_cases x2 : x = 2
            · have y2 : (x == 2) = true := by simp [x2]
              have Hs := Lib.hid (mixTo_set (fun i => lampAt (r.dark.getD i false) (l.getD i 0)) (fun _ => (0 : Int)) (n := n) (j := j) (x := x) (by unfold lampAt; rw [getD_some hd, getD_some hx]; simp [x2]))
              clear hx hd x1 x2
              go_wp2_with fail
              go_roundg (min n n2 - j - 1)
              case measure => have := Hk.out; omega
              case rel => exact ⟨j + 1, by have := Hk.out; omega, by go_num, by unfold Hid; rw [← Hs.out]; exact (own_set hO.out j _).1, hB.out.setCell (p := ⟨w.heap.size, j, none⟩) (Nat.le_refl _) _⟩
            · have y2 : (x == 2) = false := by simp [x2]
              have Hs := Lib.hid (mixTo_same (fun i => lampAt (r.dark.getD i false) (l.getD i 0)) (fun _ => (0 : Int)) (n := n) (j := j) (by unfold lampAt; rw [getD_some hd, getD_some hx]; simp [x1, x2]))
              clear hx hd x1 x2
              go_wp2_with fail
              go_roundg (min n n2 - j - 1)
              case measure => have := Hk.out; omega
              case rel => exact ⟨j + 1, by have := Hk.out; omega, by go_num, by unfold Hid; rw [← Hs.out]; exact hO.out, hB⟩
      · have HE := Lib.hid (mixTo_stop (fun i => lampAt (r.dark.getD i false) (l.getD i 0)) (fun _ => (0 : Int)) (n := n) (j := j) (fun i hi _ => by unfold lampAt; rw [getD_none (l := l) (by have := Lr.out; omega)]; simp))
        go_wp2_with fail
        go_ret
        exact ⟨_, rfl, by rw [HG.out, ← HE.out]; exact hO.out, hB.out⟩
    · have hj : j = n := by have := Hk.out; omega
      subst hj
      go_wp2_with fail
      go_ret
      exact ⟨_, rfl, by rw [HG.out]; exact hO.out, hB.out⟩
end Go.Proofs.Ytlgekkffekagbaa
