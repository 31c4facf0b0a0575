/- Walk of semaphoreref6.lines. No condition beyond the plan that is read, that its rows are not long, and that its joins join ports. -/
import Derived.Test.YtlgekkffekagbaaRefC6
set_option maxRecDepth 1000000
namespace Go.Proofs.Ytlgekkffekagbaa
open Go.RowKit Go.Sort Go.ChangeShapes Go.WideShapes

def refRest (p : Plan) (lv : List LineV) (j : Nat) : Bool := refLineGo p (metOf (lv.take j)) ((lv.drop j).map LineV.line)
theorem refrest_step {p : Plan} {lv : List LineV} {j : Nat} {y : LineV} (h : lv[j]? = some y) :
    refRest p lv j = (metGo (metOf (lv.take j)) y.elems && entersOk p y.elems && refRest p lv (j + 1)) := by
  unfold refRest
  rw [drop_cons h, List.map_cons, refLineGo, met_take h]; rfl
theorem refrest_zero {p : Plan} {lv : List LineV} (h : p.lines = lv.map LineV.line) : refRest p lv 0 = linesOk p := by
  unfold refRest linesOk; rw [h, refLine_eq]; rfl
theorem met_hit {met l : List Int} {i : Nat} {x : Int} {q : Bool} (hx : l[i]? = some x) (hr : metGo (met ++ l.take i) (l.drop i) = q) (hm : x ∈ met ++ l.take i) : q = false := by
  rw [← hr, drop_cons hx, metGo]; simp [hm]
theorem met_next {met l : List Int} {i : Nat} {x : Int} {q : Bool} (hx : l[i]? = some x) (hr : metGo (met ++ l.take i) (l.drop i) = q) (hm : x ∉ met ++ l.take i) : metGo (met ++ l.take (i + 1)) (l.drop (i + 1)) = q := by
  rw [← hr, drop_cons hx, metGo, take_next hx, ← List.append_assoc]
  rw [show decide (x ∈ met ++ l.take i) = false by simpa using hm]; rfl
theorem metOf_len {lv : List LineV} (h : ∀ x ∈ lv, x.elems.length ≤ 1000) : (metOf lv).length ≤ 1000 * lv.length := by
  induction lv with
  | nil => simp [metOf]
  | cons y r ih =>
    have h1 := h y (by simp)
    have h2 := ih (fun x hx => h x (List.mem_cons_of_mem _ hx))
    unfold metOf at h2 ⊢
    simp only [List.flatMap_cons, List.length_append, List.length_cons]; omega

set_option maxHeartbeats 4000000 in
theorem reflines_any (w : World) (pv : PV) (p : Plan) (h : PlanAt w pv p) (hn : pv.nl ≤ 1000) (hn2 : ∀ x ∈ pv.lv, x.n ≤ 1000) (hp : ∀ x ∈ flatJoins p.joins, isPort p x = true) :
    Calls Try.prog 53 #[pv.val p] w fun e w' => e = .returned (.bool (linesOk p)) ∧ Below w.heap.size w w' := by
  obtain ⟨ae, ne, ce, aj, nj, cj, as_, ns, cs, al, nl, cl, lv⟩ := pv
  have hP := Lib.hid h
  have hlv : Lines w al nl lv := h.l
  have HL := Lib.hid h.lp
  have ll := Lib.hid hlv.row.len
  have bl := hlv.row.bnd
  have hn : nl ≤ 1000 := hn
  have Hn2 := Lib.hid (show ∀ x ∈ lv, x.n ≤ 1000 from hn2); clear hn2
  have Hints := Lib.hid hlv.ints
  have Hml := Lib.hid (show ∀ j, (metOf (lv.take j)).length ≤ 1000 * nl from fun j => by
    have := metOf_len (lv := lv.take j) (fun x hx => by
      have hx := List.mem_of_mem_take hx
      rw [(Hints.out x hx).len]; exact Hn2.out x hx)
    have hl := ll.out
    simp only [List.length_take] at this
    have : min j lv.length ≤ nl := by omega
    omega)
  have Hports := Lib.hid hp; clear hp
  have HB := Lib.hid (pbox_new w ⟨ae, ne, ce, aj, nj, cj, as_, ns, cs, al, nl, cl, lv⟩ p)
  obtain ⟨ii, hii, zi1, zi2, zi3⟩ := info_parts info_int2
  clear h
  dsimp only [PV.val]
  go_enter Try.func53, Try.ntmps53
  go_wp2_with fail
  go_loopg [3, 4] nl (fun k v i wr => ∃ (j : Nat), j + k = nl ∧ i = .int .i64 j ∧ Hid (refRest p lv j = linesOk p) ∧ OwnI wr (w.heap.size + 1) v (metOf (lv.take j)).length (metOf (lv.take j)) ∧ PBox wr w.heap.size ⟨ae, ne, ce, aj, nj, cj, as_, ns, cs, al, nl, cl, lv⟩ p ∧ Below w.heap.size w wr)
  case atStart => exact ⟨0, by omega, rfl, refrest_zero HL.out, own_nil _ _ _ _, HB.out, below_new _ _⟩
  case round =>
    clear HB
    obtain ⟨j, hk, rfl, hr, own, hB, hb⟩ := hrel
    have Hk := Lib.hid hk; clear hk
    have HBr := Lib.hid hB; clear hB
    have Own := Lib.hid own; clear own
    obtain ⟨_, c0, c1, c2, c3, c4, c5, c6, c7, c8⟩ := HBr.out
    dsimp only at c0 c1 c2 c3
    by_cases hlt : j < nl
    · obtain ⟨y, hy⟩ := get_some ll.out hlt
      obtain ⟨pb, off, rfl, hpb, g1, g2⟩ := hlv.row.lineB hb hy
      have Hy := Lib.hid hy
      have hyi := Hints.out y (List.mem_of_getElem? hy)
      have hyn := Hn2.out y (List.mem_of_getElem? hy)
      have Hst := Lib.hid (refrest_step (p := p) hy); clear hy
      have Hyi := Lib.hid hyi
      have Hyl := Lib.hid hyi.len; clear hyi
      have Hbr := Lib.hid hb; clear hb
      obtain ⟨yname, ya, yn, yc, yel⟩ := y
      dsimp only at g1 g2 hyn Hst Hyi Hyl
      obtain ⟨met, hmet⟩ : ∃ met, metOf (lv.take j) = met := ⟨_, rfl⟩
      have Hmn := Lib.hid (Hml.out j)
      rw [hmet] at Own Hst Hmn
      have Hmet := Lib.hid hmet; clear hmet
      go_wp2_with fail
      go_loopg [3, 6] yn (fun k v i wr => ∃ (i2 : Nat), i2 + k = yn ∧ i = .int .i64 i2 ∧ Hid (metGo (met ++ yel.take i2) (yel.drop i2) = metGo met yel) ∧ OwnI wr (w.heap.size + 1) v (met.length + i2) (met ++ yel.take i2) ∧ PBox wr w.heap.size ⟨ae, ne, ce, aj, nj, cj, as_, ns, cs, some ⟨pb, off, none⟩, nl, cl, lv⟩ p ∧ Below w.heap.size w wr)
      case atStart => exact ⟨0, by omega, rfl, by simp [Hid], by simpa using Own.out, HBr.out, Hbr.out⟩
      case round =>
        clear HBr Hbr Own c0 c1 c2 c3 c4 c5 c6 c7 c8 g1 g2
        obtain ⟨i2, hk2, rfl, hr2, own, hB, hb⟩ := hrel
        have Hk2 := Lib.hid hk2; clear hk2
        have HBr := Lib.hid hB; clear hB
        have Hbr := Lib.hid hb; clear hb
        have Own := Lib.hid own; clear own
        by_cases hlt2 : i2 < yn
        · obtain ⟨x, hx⟩ := get_some Hyl.out hlt2
          obtain ⟨pb2, off2, rfl, hpb2, g1⟩ := (Hyi.out.below Hbr.out).int hx
          have Hx := Lib.hid hx; clear hx
          obtain ⟨av, cv, rfl, _, _⟩ := own_slice Own.out
          have Hin := Lib.hid (refin_any wr av (met.length + i2) cv (met ++ yel.take i2) (own_ints Own.out).1 x)
          have hmn := Hmn.out
          by_cases hm : x ∈ met ++ yel.take i2
          · have hmb := memB_iff.2 hm
            have Hq := Lib.hid (show linesOk p = false by
              rw [← hr.out, Hst.out, met_hit Hx.out hr2.out hm]; rfl)
            clear hm
            go_wp2_with fail
            refine Hin.out.mono ?_
            rintro e w' ⟨rfl, rfl⟩
            rw [hmb]
            go_wp2_with fail
            go_ret
            exact ⟨ret_bool Hq.out.symm, Hbr.out⟩
          · have hmb : memB x (met ++ yel.take i2) = false := by rw [Bool.eq_false_iff]; intro e; exact hm (memB_iff.1 e)
            have Hn := Lib.hid (met_next Hx.out hr2.out hm)
            clear hm
            go_wp2_with fail
            refine Hin.out.mono ?_
            rintro e w' ⟨rfl, rfl⟩
            rw [hmb]
            go_wp2_with (at_builtin; refine wpList_append_own _ rfl _ _ 28 rfl (w.heap.size + 1) 3 ii (.int .i64 0) 1 8 Try.underlying28 hii zi1 zi2 zi3 rfl (by decide) _ _ _ rfl (Own.out.alloc _) ⟨wr.heap.size, 0, none⟩ 1 1 [.int .i64 x] rfl rfl (cell_one_new _ _ _) (one_int _ _) (by simp [maxLen]; omega) (by omega) (by have := Hbr.out.size; have := HBr.out.lt; simp; omega) ?_)
            intro v' w4 hown4 hgrow4 _
            have hb4 := Lib.hid (grown_below (Hbr.out.alloc Hbr.out.size (.cells #[.int .i64 x] 3)) (Own.out.alloc (.cells #[.int .i64 x] 3)) (by omega) (by have := Hbr.out.size; simp; omega) hgrow4)
            have hB4 := Lib.hid ((HBr.out.alloc (.cells #[.int .i64 x] 3)).kept hgrow4 (own_ne (Own.out.alloc (.cells #[.int .i64 x] 3)) (by omega)))
            have Own4 := Lib.hid (show OwnI w4 (w.heap.size + 1) v' (met.length + (i2 + 1)) (met ++ yel.take (i2 + 1)) by rw [take_next Hx.out, ← List.append_assoc]; simpa [OwnI, Nat.add_assoc] using hown4); clear hown4 hgrow4
            go_wp2_with fail
            go_roundg (yn - i2 - 1)
            case measure => have := Hk2.out; omega
            case rel => exact ⟨i2 + 1, by have := Hk2.out; omega, by go_num, Hn.out, Own4.out, hB4.out, hb4.out⟩
        · have Hmg := Lib.hid (show metGo met yel = true by rw [← hr2.out, drop_end Hyl.out (by omega)]; rfl)
          have hi2 : yn = i2 := by have := Hk2.out; omega
          subst hi2
          have OwnE := Lib.hid (show OwnI wr (w.heap.size + 1) u3 (metOf (lv.take (j + 1))).length (metOf (lv.take (j + 1))) by
            have := Own.out
            rw [List.take_of_length_le (by have := Hyl.out; omega)] at this
            rw [met_take Hy.out, Hmet.out, List.length_append, Hyl.out]; exact this)
          clear Own hr2 hlt2 Hk2
          obtain ⟨_, c0, c1, c2, c3, c4, c5, c6, c7, c8⟩ := HBr.out
          dsimp only at c0 c1 c2 c3
          go_wp2_with fail
          refine (refenters_any _ ⟨ae, ne, ce, aj, nj, cj, as_, ns, cs, some ⟨pb, off, none⟩, nl, cl, lv⟩ p ya yn yc yel (hP.out.below Hbr.out) (Hyi.out.below Hbr.out) hyn Hports.out).mono ?_
          rintro e w2 ⟨ea, en, ec, rfl, -, hbx⟩
          have OwnF := Lib.hid (owns_below OwnE.out hbx)
          have HB2 := Lib.hid (HBr.out.below hbx)
          have Hb2 := Lib.hid (below_step Hbr.out hbx Hbr.out.size)
          clear hbx
          rw [enters_isSome]
          cases hen : entersOk p yel
          · have Hq := Lib.hid (show linesOk p = false by rw [← hr.out, Hst.out, Hmg.out, hen]; rfl)
            go_wp2_with fail
            go_ret
            exact ⟨ret_bool Hq.out.symm, Hb2.out⟩
          · have Hn := Lib.hid (show refRest p lv (j + 1) = linesOk p by rw [← hr.out, Hst.out, Hmg.out, hen]; rfl)
            go_wp2_with fail
            go_roundg (nl - j - 1)
            case measure => have := Hk.out; omega
            case rel => exact ⟨j + 1, by have := Hk.out; omega, by go_num, Hn.out, OwnF.out, HB2.out, Hb2.out⟩
    · have Hq := Lib.hid (show linesOk p = true by
        rw [← hr.out]; unfold refRest; rw [drop_end ll.out (by omega)]; rfl)
      go_wp2_with fail
      go_ret
      exact ⟨ret_bool Hq.out.symm, hb⟩
end Go.Proofs.Ytlgekkffekagbaa
