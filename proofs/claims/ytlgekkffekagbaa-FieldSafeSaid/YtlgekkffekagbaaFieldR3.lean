/- Walk of the reference's Command. Condition: what is read is one. -/
import Derived.Test.YtlgekkffekagbaaFieldR2
import Derived.BigRegion
set_option maxRecDepth 1000000
namespace Go.Proofs.Ytlgekkffekagbaa
open Go.ChangeShapes Go.WideShapes Go.ChangeAt Go.RowKit Go.Sort

theorem rcmd1_out {p : Plan} {i : Nat} {t : Int} {r : RFld} (h : r.pts.length ≤ i) : r.cmd1 p i t = r := by unfold RFld.cmd1; rw [set_out h]
theorem rcmdGo_out {p : Plan} : ∀ (l : List Int) (i : Nat) (r : RFld), r.pts.length ≤ i → r.cmdGo p i l = r
  | [], _, _, _ => rfl
  | t :: l, i, r, h => by unfold RFld.cmdGo; rw [rcmd1_out h]; exact rcmdGo_out l (i + 1) r (by omega)
theorem rcmd1_len (p : Plan) (i : Nat) (t : Int) (r : RFld) : (r.cmd1 p i t).pts.length = r.pts.length := by simp [RFld.cmd1]
theorem rcmd1_not {p : Plan} {i : Nat} {t : Int} {r : RFld} {x : RPt} (hx : r.pts[i]? = some x) (h : ¬ (calls p i t = true ∧ x.goal ≠ t)) : r.cmd1 p i t = r := by
  unfold RFld.cmd1 RFld.pt cmdR
  rw [getD_some hx, if_neg h, set_self' hx]
theorem rcmd1_put {p : Plan} {i : Nat} {t : Int} {r : RFld} {x : RPt} (hx : r.pts[i]? = some x) (h : calls p i t = true ∧ x.goal ≠ t) : { r with pts := r.pts.set i { x with lie := 0, goal := t, left := p.throw } } = r.cmd1 p i t := by
  unfold RFld.cmd1 RFld.pt cmdR
  rw [getD_some hx, if_pos h]
theorem set_get {l : List RPt} {j : Nat} {x y : RPt} (hx : l[j]? = some x) : (l.set j y)[j]? = some y := by
  have := (List.getElem?_eq_some_iff.1 hx).1
  simp [this]
theorem RefAt.put3 {w : World} {R : RB} {lo hi : Nat} {v : PV} {p : Plan} {r : RFld} (h : RefAt w R lo hi v p r) {j : Nat} {x : RPt} (hx : r.pts[j]? = some x) (a b c : Int) :
    RefAt (((w.setCell ⟨R.g1, j, none⟩ (.int .i64 a)).setCell ⟨R.g2, j, none⟩ (.int .i64 b)).setCell ⟨R.g3, j, none⟩ (.int .i64 c)).drew R lo hi v p { r with pts := r.pts.set j { x with lie := a, goal := b, left := c } } := by
  have h1 := h.set_lie hx a
  have h2 := h1.set_goal (set_get hx) b
  dsimp only at h2
  rw [List.set_set] at h2
  have h3 := h2.set_left (set_get hx) c
  dsimp only at h3
  rw [List.set_set] at h3
  exact h3.below (Below.refl _ _).drew
theorem span3 {w w1 : World} {R : RB} {lo hi : Nat} {v : PV} {p : Plan} {r : RFld} (h : RefAt w1 R lo hi v p r) (hu : Span lo hi w w1) (j : Nat) (a b c : Value) :
    Span lo hi w (((w1.setCell ⟨R.g1, j, none⟩ a).setCell ⟨R.g2, j, none⟩ b).setCell ⟨R.g3, j, none⟩ c).drew :=
  (Upd.setCell (a := ⟨R.g3, _, none⟩) (Upd.setCell (a := ⟨R.g2, _, none⟩) (Upd.setCell (a := ⟨R.g1, _, none⟩) hu h.in1 _) h.in2 _) h.in3 _).drew
set_option maxHeartbeats 2000000 in
theorem refcommand_any (w : World) (R : RB) (lo hi : Nat) (pv : PV) (p : Plan) (r : RFld) (hr : RefAt w R lo hi pv p r) (hp : ∀ u, Span lo hi w u → PlanAt u pv p) (hl : r.pts.length = p.elems.length) (a : Option Addr) (n c : Nat) (l : List Int) (hi' : ∀ u, Span lo hi w u → Ints u a n l) :
    Calls Try.prog 40 #[.pointer (some ⟨R.b, 0, none⟩), .slice a n c] w fun en w' => en = .returned (.tuple #[]) ∧ RefAt w' R lo hi pv p (r.command p l) ∧ Span lo hi w w' := by
  have HR := Lib.hid hr
  have Hp := Lib.hid hp
  obtain ⟨m, hm⟩ : ∃ m, p.elems.length = m := ⟨_, rfl⟩
  rw [hm] at hl
  have Hl := Lib.hid hl
  have Ll := Lib.hid (hi' w (Upd.refl _ _)).len
  have hbd := (hi' w (Upd.refl _ _)).bnd
  have HI := Lib.hid hi'
  clear hr hp hl hi' hm
  go_enter Try.func40, Try.ntmps40
  go_wp2_with fail
  go_loopg [4] (min n m) (fun k i wr => ∃ (j : Nat) (r' : RFld), j + k = min n m ∧ i = .int .i64 j ∧ r'.pts.length = m ∧ Hid (RefAt wr R lo hi pv p r') ∧ Hid (Span lo hi w wr) ∧ Hid (RFld.cmdGo p j (l.drop j) r' = r.command p l))
  case atStart => exact ⟨0, r, by omega, rfl, Hl.out, HR.out, Upd.refl _ _, rfl⟩
  case round =>
    obtain ⟨j, r', hk, rfl, hlr, hR, hU, hE⟩ := hrel
    have Hk := Lib.hid hk; clear hk
    have c9 := hR.out.k9
    rw [hlr] at c9
    have hbl := hR.out.lt R.b (by simp [RB.blocks])
    by_cases hm : j < m
    · by_cases hn : j < n
      · obtain ⟨t, ht⟩ := get_some Ll.out hn
        obtain ⟨x, hx⟩ := get_some hlr hm
        obtain ⟨g, off, ha, hgl, g1⟩ := (HI.out wr hU.out).int ht
        have Hd := Lib.hid (show RFld.cmdGo p (j + 1) (l.drop (j + 1)) (r'.cmd1 p j t) = r.command p l by rw [← hE.out, drop_cons ht]; rfl)
        subst ha
        have Hx := Lib.hid hx
        have Hlr := Lib.hid hlr
        have HK := Lib.hid (refpoints_any wr R lo hi pv p r' hR.out (Hp.out wr hU.out) (j : Int))
        clear ht hx hlr
        by_cases hk2 : p.kind (j : Int) = 2
        · rw [show decide (p.kind (j : Int) = 2) = true by simpa using hk2] at HK
          by_cases ht : t = 1 ∨ t = 2
          · have Hca := Lib.hid (show calls p j t = true by unfold calls; simp [hk2]; exact ht)
            have qt : (t = 1 ∧ (t == 1) = true) ∨ (t = 2 ∧ (t == 1) = false ∧ (t == 2) = true) := by rcases ht with rfl | rfl <;> simp
            clear ht
            have key : ∀ G : Prop, ((t == 1) = true → G) → ((t == 1) = false → (t == 2) = true → G) → G := fun G g1 g2 => by
              rcases qt with ⟨_, h⟩ | ⟨_, h1, h2⟩
              · exact g1 h
              · exact g2 h1 h2
            have Key := Lib.hid key
            clear key qt hk2
            by_cases h0 : x.goal = t
            · have q0 : (x.goal != t) = false := by simp [h0]
              have Hs := Lib.hid (rcmd1_not (p := p) (t := t) Hx.out (by rintro ⟨_, h⟩; exact h h0))
              clear h0
              refine Key.out _ (fun qx => ?_) (fun qx qy => ?_) <;> clear Key
              · go_wp2_with fail
                refine HK.out.mono ?_
                rintro en w1 ⟨rfl, hb⟩
                have Hb := Lib.hid hb
                have HR1 := Lib.hid (hR.out.below hb)
                have k10 := HR1.out.k10
                rw [Hlr.out] at k10
                have d1 := HR1.out.cell_goal Hx.out
                have hbl1 := HR1.out.lt R.b (by simp [RB.blocks])
                have hg2 := HR1.out.lt R.g2 (by simp [RB.blocks])
                clear hb
                go_wp2_with fail
                go_roundg (min n m - j - 1)
                case measure => have := Hk.out; omega
                case rel => exact ⟨j + 1, r', by have := Hk.out; omega, by go_num, Hlr.out, hR.out.below Hb.out, hU.out.then Hb.out, by unfold Hid; rw [← Hd.out, Hs.out]⟩
              · go_wp2_with fail
                refine HK.out.mono ?_
                rintro en w1 ⟨rfl, hb⟩
                have Hb := Lib.hid hb
                have HR1 := Lib.hid (hR.out.below hb)
                have k10 := HR1.out.k10
                rw [Hlr.out] at k10
                have d1 := HR1.out.cell_goal Hx.out
                have hbl1 := HR1.out.lt R.b (by simp [RB.blocks])
                have hg2 := HR1.out.lt R.g2 (by simp [RB.blocks])
                clear hb
                go_wp2_with fail
                go_roundg (min n m - j - 1)
                case measure => have := Hk.out; omega
                case rel => exact ⟨j + 1, r', by have := Hk.out; omega, by go_num, Hlr.out, hR.out.below Hb.out, hU.out.then Hb.out, by unfold Hid; rw [← Hd.out, Hs.out]⟩
            · have q0 : (x.goal != t) = true := by simp [h0]
              have Hs := Lib.hid (rcmd1_put (p := p) Hx.out ⟨Hca.out, h0⟩)
              clear h0
              refine Key.out _ (fun qx => ?_) (fun qx qy => ?_) <;> clear Key
              · go_wp2_with fail
                refine HK.out.mono ?_
                rintro en w1 ⟨rfl, hb⟩
                have Hb := Lib.hid hb
                have HR1 := Lib.hid (hR.out.below hb)
                have k10 := HR1.out.k10
                rw [Hlr.out] at k10
                have d1 := HR1.out.cell_goal Hx.out
                have hbl1 := HR1.out.lt R.b (by simp [RB.blocks])
                have hg2 := HR1.out.lt R.g2 (by simp [RB.blocks])
                clear hb
                go_wp2_with fail
                clear k10 d1 hbl1 hg2 c9 hbl HK g1
                refine name_code fun W hW => ?_
                subst hW
                have k9 := HR1.out.k9
                have k10 := HR1.out.k10
                have k11 := HR1.out.k11
                rw [Hlr.out] at k9 k10 k11
                have k7 := HR1.out.plan.c7
                have d1 := HR1.out.cell_lie Hx.out
                have d2 := HR1.out.cell_goal Hx.out
                have d3 := HR1.out.cell_left Hx.out
                have f1 := HR1.out.lie.frozenAt j
                have f2 := HR1.out.goal.frozenAt j
                have f3 := HR1.out.left.frozenAt j
                have e0 := HR1.out.lt R.b (by simp [RB.blocks])
                have e1 := HR1.out.lt R.g1 (by simp [RB.blocks])
                have e2 := HR1.out.lt R.g2 (by simp [RB.blocks])
                have e3 := HR1.out.lt R.g3 (by simp [RB.blocks])
                obtain ⟨n1, n2, n3, _, _, _, _, m12, m13, _, _, _, _, m23, _⟩ := HR1.out.ne
                go_region
                go_wp2_with fail
                go_roundg (min n m - j - 1)
                case measure => have := Hk.out; omega
                case rel =>
                  refine ⟨j + 1, r'.cmd1 p j t, by have := Hk.out; omega, by go_num, by rw [rcmd1_len]; exact Hlr.out, ?_, ?_, Hd.out⟩
                  · unfold Hid; rw [← Hs.out]; exact HR1.out.put3 Hx.out 0 t p.throw
                  · exact span3 HR1.out (hU.out.then Hb.out) j _ _ _
              · go_wp2_with fail
                refine HK.out.mono ?_
                rintro en w1 ⟨rfl, hb⟩
                have Hb := Lib.hid hb
                have HR1 := Lib.hid (hR.out.below hb)
                have k10 := HR1.out.k10
                rw [Hlr.out] at k10
                have d1 := HR1.out.cell_goal Hx.out
                have hbl1 := HR1.out.lt R.b (by simp [RB.blocks])
                have hg2 := HR1.out.lt R.g2 (by simp [RB.blocks])
                clear hb
                go_wp2_with fail
                clear k10 d1 hbl1 hg2 c9 hbl HK g1
                refine name_code fun W hW => ?_
                subst hW
                have k9 := HR1.out.k9
                have k10 := HR1.out.k10
                have k11 := HR1.out.k11
                rw [Hlr.out] at k9 k10 k11
                have k7 := HR1.out.plan.c7
                have d1 := HR1.out.cell_lie Hx.out
                have d2 := HR1.out.cell_goal Hx.out
                have d3 := HR1.out.cell_left Hx.out
                have f1 := HR1.out.lie.frozenAt j
                have f2 := HR1.out.goal.frozenAt j
                have f3 := HR1.out.left.frozenAt j
                have e0 := HR1.out.lt R.b (by simp [RB.blocks])
                have e1 := HR1.out.lt R.g1 (by simp [RB.blocks])
                have e2 := HR1.out.lt R.g2 (by simp [RB.blocks])
                have e3 := HR1.out.lt R.g3 (by simp [RB.blocks])
                obtain ⟨n1, n2, n3, _, _, _, _, m12, m13, _, _, _, _, m23, _⟩ := HR1.out.ne
                go_region
                go_wp2_with fail
                go_roundg (min n m - j - 1)
                case measure => have := Hk.out; omega
                case rel =>
                  refine ⟨j + 1, r'.cmd1 p j t, by have := Hk.out; omega, by go_num, by rw [rcmd1_len]; exact Hlr.out, ?_, ?_, Hd.out⟩
                  · unfold Hid; rw [← Hs.out]; exact HR1.out.put3 Hx.out 0 t p.throw
                  · exact span3 HR1.out (hU.out.then Hb.out) j _ _ _
          · have Hs := Lib.hid (rcmd1_not (p := p) (t := t) Hx.out (by rintro ⟨h, _⟩; unfold calls at h; simp at h; exact ht h.2))
            have q3 : (t == 1) = false := by simp; omega
            have q4 : (t == 2) = false := by simp; omega
            clear ht hk2
            go_wp2_with fail
            refine HK.out.mono ?_
            rintro en w1 ⟨rfl, hb⟩
            have Hb := Lib.hid hb
            clear hb
            go_wp2_with fail
            go_roundg (min n m - j - 1)
            case measure => have := Hk.out; omega
            case rel => exact ⟨j + 1, r', by have := Hk.out; omega, by go_num, Hlr.out, hR.out.below Hb.out, hU.out.then Hb.out, by unfold Hid; rw [← Hd.out, Hs.out]⟩
        · rw [show decide (p.kind (j : Int) = 2) = false by simpa using hk2] at HK
          have Hs := Lib.hid (rcmd1_not (p := p) (t := t) Hx.out (by rintro ⟨h, _⟩; unfold calls at h; simp at h; exact hk2 h.1))
          clear hk2
          go_wp2_with fail
          refine HK.out.mono ?_
          rintro en w1 ⟨rfl, hb⟩
          have Hb := Lib.hid hb
          clear hb
          go_wp2_with fail
          go_roundg (min n m - j - 1)
          case measure => have := Hk.out; omega
          case rel => exact ⟨j + 1, r', by have := Hk.out; omega, by go_num, Hlr.out, hR.out.below Hb.out, hU.out.then Hb.out, by unfold Hid; rw [← Hd.out, Hs.out]⟩
      · have Hf := Lib.hid (show r' = r.command p l by rw [← hE.out, drop_end Ll.out (by omega)]; rfl)
        go_wp2_with fail
        exact bodyPost_end (v := .tuple #[]) (by simp [results, Try.results40]) rfl ⟨rfl, by rw [← Hf.out]; exact hR.out, hU.out⟩
    · have Hf := Lib.hid (show r' = r.command p l by rw [← hE.out, rcmdGo_out _ _ _ (by omega)])
      go_wp2_with fail
      exact bodyPost_end (v := .tuple #[]) (by simp [results, Try.results40]) rfl ⟨rfl, by rw [← Hf.out]; exact hR.out, hU.out⟩
end Go.Proofs.Ytlgekkffekagbaa
