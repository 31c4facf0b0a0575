/- LateWhys: for every input the law returns true. No condition. -/
import Derived.Test.YtkklnaejpgcgoaaLawTimes
namespace Go.Proofs.Ytkklnaejpgcgoaa
open Go.ChangeShapes Go.WideShapes Go.ChangeAt Go.RowKit

theorem chain_rev {T start : List Int} {l : List Wt} : ∀ (D : List Int), ChainOk T start l D → (∃ a, D.reverse[0]? = some a ∧ at0 T a = at0 start a) ∧
    ∀ (k : Nat) (a b : Int), D.reverse[k]? = some a → D.reverse[k + 1]? = some b → ∃ x ∈ l, x.frm = a ∧ x.to = b ∧ at0 T b = at0 T a + x.gap
  | [], h => h.elim
  | [a], h => ⟨⟨a, rfl, h⟩, fun k x y _ hb => by simp at hb⟩
  | a :: b :: r, h => by
    obtain ⟨⟨x, hx, hxf, hxt, hxe⟩, h2⟩ := h
    obtain ⟨⟨c, hc, hce⟩, g⟩ := chain_rev (b :: r) h2
    have hr : (a :: b :: r).reverse = (b :: r).reverse ++ [a] := by simp
    have hl : (b :: r).reverse.length = r.length + 1 := by simp
    refine ⟨⟨c, ?_, hce⟩, fun k u v hu hv => ?_⟩
    · rw [hr, List.getElem?_append_left (by omega)]; exact hc
    · rw [hr] at hu hv
      rcases Nat.lt_or_ge (k + 1) (r.length + 1) with hk | hk
      · rw [List.getElem?_append_left (by omega)] at hu hv
        exact g k u v hu hv
      · have hv2 := (List.getElem?_eq_some_iff.1 hv).1
        simp at hv2
        have hke : k = r.length := by omega
        subst hke
        rw [List.getElem?_append_right (by omega), hl, Nat.sub_self] at hv
        simp at hv
        rw [List.getElem?_append_left (by omega)] at hu
        simp at hu
        subst hv; subst hu
        exact ⟨x, hx, hxf, hxt, hxe⟩

def pairHit (T : List Int) (a b : Int) (x : Wt) : Bool := decide (x.frm = a) && (decide (x.to = b) && decide (at0 T b = at0 T a + x.gap))

set_option maxRecDepth 100000 in
set_option maxHeartbeats 1000000 in
theorem lawWhys_yes (w : World) (a1 a2 : Option Addr) (n1 c1 n2 c2 : Nat) (start : List Int) (l : List Wt) (event : Int) (h1 : Ints w a1 n1 start) (h2 : Wts w a2 n2 l) (hc : a1 = none → c1 = 0)
    (hf1 : n1 ≤ 60) (hf2 : n2 ≤ 120) (hy : WhyYes start l event) :
    Calls Try.prog 6 #[.slice a1 n1 c1, .slice a2 n2 c2, .int .i64 event] w fun e w' => e = .returned (.bool true) ∧ Below w.heap.size w w' := by
  obtain rfl := h1.len
  have b1 := h1.bnd
  have b2 := h2.bnd
  have K := Lib.hid (known_any w)
  have Hc := Lib.hid hc; clear hc
  have hfd := Lib.hid (show decide (start.length ≤ 60 ∧ n2 ≤ 120) = true by simpa using ⟨hf1, hf2⟩)
  obtain ⟨C, hC1, hC2⟩ := why_ex hy
  have hry : RefWhyYes start l (RefR start l) event := ⟨by rw [err_eq]; exact hy.1, hy.2⟩
  have ⟨e0, e1⟩ := offB_false hy.2
  have hs := hy.1
  have Bt := Lib.hid (timesOf_bd hs)
  have Hz := Lib.hid (lateCheck_zero (solveErr_zero hs).1)
  have Hy := Lib.hid hy
  have Hs := Lib.hid hs
  have HC2 := Lib.hid hC2
  have Hry := Lib.hid hry
  have hW1 := Lib.hid (show WhyYes start l event → whyRun (timesOf start l) start l 300 event [event] = some ([event] ++ C) ∧ ([event] ++ C).length ≤ 1000 from fun _ => ⟨hC2.late 300 [event] (by omega), by simp; omega⟩)
  have hW2 := Lib.hid (show RefWhyYes start l (RefR start l) event → refWhyRun start.length (timesRun l (RefR start l) start) start l 300 event [event] = some (C.reverse ++ [event]) ∧ (C.reverse ++ [event]).length ≤ 1000 from fun _ => ⟨by rw [times_eq hs]; exact hC2.ref 300 [event] (by omega), by simp; omega⟩)
  obtain ⟨ws, hws⟩ : ∃ ws, ws = C.reverse ++ [event] := ⟨_, rfl⟩
  obtain ⟨w0, hw0⟩ : ∃ w0, w0 = [event] ++ C := ⟨_, rfl⟩
  rw [← hws] at hW2
  rw [← hw0] at hW1
  have Hws := Lib.hid hws
  have Hw0 := Lib.hid hw0
  clear hws hw0
  have hev : ¬ event < 0 := by omega
  have hev2 : ¬ (start.length : Int) ≤ event := by omega
  clear hy hs hC2 hry
  go_enter Try.func6, Try.ntmps6
  go_wp2_with fail
  refine K.out.mono ?_
  rintro e w1 ⟨rfl, hb1⟩
  go_wp2_with fail
  refine (few_any w1 a1 a2 _ c1 n2 c2 b1 b2).mono ?_
  rintro e w1' ⟨rfl, rfl⟩
  rw [hfd.out]
  have H1 := Lib.hid (why_any w1 a1 a2 _ c1 n2 c2 start l event 300 w0 (h1.below hb1) (h2.below hb1) Hc.out hW1.out)
  go_wp2_with fail
  refine H1.out.mono ?_
  rintro e w2 ⟨vc, rfl, hnn, hb2⟩
  have hb2' := below_step hb1 hb2 hb1.size
  have oc := hnn.ok Hy.out
  obtain ⟨cs, hcs⟩ : ∃ cs, cs = w0.reverse := ⟨_, rfl⟩
  rw [← hcs] at oc
  have hcl : cs.length = C.length + 1 := by rw [hcs, Hw0.out]; simp
  obtain ⟨ac, cc, hvc, _, _⟩ := own_slice oc
  cases hvc
  have Oc := Lib.hid oc
  have Hcs := Lib.hid hcs
  have Hcl := Lib.hid hcl
  clear oc hcs hcl hnn
  have H2 := Lib.hid (plain_any w2 a2 n2 c2 l (h2.below hb2') (by omega))
  go_wp2_with fail
  refine H2.out.mono ?_
  rintro e w3 ⟨a3, c3, rfl, hl3, hb3⟩
  have hb3' := below_step hb2' hb3 hb2'.size
  have H3 := Lib.hid (refwhy_any w3 a1 a3 _ c1 n2 c3 start l (RefR start l) event 300 ws (h1.below hb3') hl3 Hc.out (refOk start l) hW2.out)
  go_wp2_with fail
  refine H3.out.mono ?_
  rintro e w4 ⟨v4, rfl, hn4, hb4⟩
  have hb4' := below_step hb3' hb4 hb3'.size
  have o4 := hn4.ok Hry.out
  obtain ⟨a4, c4, hv4, _, _⟩ := own_slice o4
  cases hv4
  have oc4 := owns_below (owns_below Oc.out hb3) hb4
  have H4 := Lib.hid (sameInts w4 ac a4 _ _ cc c4 _ _ (own_ints oc4).1 (own_ints o4).1)
  have Oc4 := Lib.hid oc4
  clear oc4 o4 hn4 hl3
  go_wp2_with fail
  refine H4.out.mono ?_
  rintro e w5 ⟨rfl, hb5⟩
  have hb5' := below_step hb4' hb5 hb4'.size
  rw [show (cs == ws) = true from by rw [Hcs.out, Hw0.out, Hws.out]; simp]
  have H5 := Lib.hid (lateTimes_any w5 a1 a2 _ c1 n2 c2 start l (h1.below hb5') (h2.below hb5') Hc.out)
  go_wp2_with fail
  refine H5.out.mono ?_
  rintro e w6 ⟨v6, rfl, hn6, hb6⟩
  have hb6' := below_step hb5' hb6 hb5'.size
  rw [Hs.out]
  have o6 := hn6.ok Hs.out
  rw [timesRun_length] at o6
  have O6 : Hid (OwnI w6 w5.heap.size v6 start.length (timesOf start l)) := o6
  have oc6 := owns_below (owns_below Oc4.out hb5) hb6
  have Oc6 := Lib.hid oc6
  clear o6 hn6 oc6
  obtain ⟨gt, capt, hgt, _, hgt2⟩ := own_shape O6.out (by omega)
  cases hgt
  obtain ⟨gc, capc, hgc, _, hgc2⟩ := own_shape Oc6.out (by have := Hcl.out; omega)
  cases hgc
  have Tl := Lib.hid (own_len O6.out)
  have Csl := Lib.hid (show cs.length ≤ 201 by have := Hcl.out; omega)
  have Cmem := Lib.hid (show ∀ e ∈ cs, 0 ≤ e ∧ e < (start.length : Int) from fun e he => by
    rw [Hcs.out, Hw0.out] at he
    simp only [List.mem_reverse, List.singleton_append, List.mem_cons] at he
    rcases he with rfl | he
    · omega
    · exact HC2.out.mem e he)
  have hcp : 1 ≤ cs.length := by have := Hcl.out; omega
  have hcq : cs.length ≤ 201 := Csl.out
  go_wp2_with fail
  go_loopg [57] cs.length (fun k i wr => ∃ j : Nat, j + k = cs.length ∧ i = .int .i64 j ∧ Below w6.heap.size w6 wr)
  case atStart => exact ⟨0, by omega, rfl, Below.refl _ _⟩
  case round =>
    obtain ⟨j, hk, rfl, hb7⟩ := hrel
    have Hk := Lib.hid hk; clear hk
    by_cases hlt : j < cs.length
    · obtain ⟨x, hx⟩ := get_some (xs := cs) rfl hlt
      have m1 : wr.cell? ⟨gc, j, none⟩ = some (.int .i64 x) := by
        have := own_cell (owns_below Oc6.out hb7) hlt
        rwa [show cs.getD j 0 = x from by simp [List.getD, hx]] at this
      have ⟨x0, x1⟩ := Cmem.out x (List.mem_of_getElem? hx)
      have Hx := Lib.hid hx; clear hx
      go_wp2_with fail
      go_roundg (gk - 1)
      case measure => have := Hk.out; omega
      case rel => exact ⟨j + 1, by have := Hk.out; omega, by go_num, hb7⟩
    · obtain ⟨wz, rfl⟩ : ∃ wz : World, wz = wr := ⟨_, rfl⟩
      obtain ⟨⟨f, hf0, hfe⟩, hpair⟩ := chain_rev _ HC2.out.chain
      have hcs2 : cs = (event :: C).reverse := by rw [Hcs.out, Hw0.out]; rfl
      rw [← hcs2] at hf0 hpair
      have ⟨f0, f1⟩ := Cmem.out f (List.mem_of_getElem? hf0)
      have oc7 := owns_below Oc6.out hb7
      have ot7 := owns_below O6.out hb7
      have mz : wz.cell? ⟨gc, cs.length - 1, none⟩ = some (.int .i64 event) := by
        have := own_cell oc7 (j := cs.length - 1) (by omega)
        rwa [show cs.getD (cs.length - 1) 0 = event from by rw [hcs2]; simp [List.getD]] at this
      have m0 : wz.cell? ⟨gc, 0, none⟩ = some (.int .i64 f) := by
        have := own_cell oc7 (j := 0) (by omega)
        rwa [show cs.getD 0 0 = f from by simp [List.getD, hf0]] at this
      have mt : wz.cell? ⟨gt, f.toNat, none⟩ = some (.int .i64 (at0 (timesOf start l) f)) := own_cell ot7 (by omega)
      obtain ⟨p1, o1, ha1, hp1, g1⟩ := h1.at0 (i := f) f0 f1
      cases ha1
      have hbb := hb6'.trans (hb7.mono hb6'.size)
      have g1 := (hbb.cell (p := ⟨p1, o1 + f.toNat, none⟩) hp1).trans g1
      have d1 : ((cs.length : Int) == 0) = false := by rw [beq_eq_false_iff_ne]; omega
      have d2 : (event != event) = false := by simp
      have d3 : (at0 (timesOf start l) f != at0 start f) = false := by simpa using hfe
      have Hpair := Lib.hid hpair
      have Oc7 := Lib.hid oc7
      have Ot7 := Lib.hid ot7
      have Hbb := Lib.hid hbb
      clear hpair hfe hcs2 hf0 oc7 ot7 hbb
      go_wp2_with fail
      go_quiet (fail)
      go_wp2_with fail
      go_loopg [12] (cs.length - 1) (fun k i wr => ∃ j : Nat, 1 ≤ j ∧ j + k = cs.length ∧ i = .int .i64 j ∧ Below wz.heap.size wz wr)
      case atStart => exact ⟨1, by omega, by omega, rfl, below_drewN (Below.refl _ _) nq⟩
      case round =>
        clear mz m0 mt g1
        obtain ⟨j, hj1, hk, rfl, hb8⟩ := hrel
        have Hk := Lib.hid hk; clear hk
        by_cases hlt : j < cs.length
        · obtain ⟨wo, rfl⟩ : ∃ wo : World, wo = wr := ⟨_, rfl⟩
          obtain ⟨a, ha⟩ := get_some (xs := cs) rfl (show j - 1 < cs.length by omega)
          obtain ⟨b, hb⟩ := get_some (xs := cs) rfl hlt
          have hp := Hpair.out (j - 1) a b ha (by rw [show j - 1 + 1 = j from by omega]; exact hb)
          obtain ⟨x, hxm, hxa, hxb, hxe⟩ := hp
          have hany : l.any (pairHit (timesOf start l) a b) = true := by
            rw [List.any_eq_true]
            exact ⟨x, hxm, by simp [pairHit, hxa, hxb, hxe]⟩
          have Hany := Lib.hid hany
          have ⟨a0, a1'⟩ := Cmem.out a (List.mem_of_getElem? ha)
          have ⟨b0, b1'⟩ := Cmem.out b (List.mem_of_getElem? hb)
          have oc8 := owns_below Oc7.out hb8
          have ot8 := owns_below Ot7.out hb8
          have ca : wo.cell? ⟨gc, j - 1, none⟩ = some (.int .i64 a) := by
            have := own_cell oc8 (j := j - 1) (by omega)
            rwa [show cs.getD (j - 1) 0 = a from by simp [List.getD, ha]] at this
          have cb : wo.cell? ⟨gc, j, none⟩ = some (.int .i64 b) := by
            have := own_cell oc8 hlt
            rwa [show cs.getD j 0 = b from by simp [List.getD, hb]] at this
          have ta : wo.cell? ⟨gt, a.toNat, none⟩ = some (.int .i64 (at0 (timesOf start l) a)) := own_cell ot8 (by omega)
          have tb : wo.cell? ⟨gt, b.toNat, none⟩ = some (.int .i64 (at0 (timesOf start l) b)) := own_cell ot8 (by omega)
          obtain ⟨q1, q2⟩ := bd2_at Bt.out a0 (by have := Tl.out; omega)
          have Hbw := Lib.hid (Hbb.out.trans (hb8.mono Hbb.out.size))
          have hgc3 : gc < wo.heap.size := by have := hb7.size; have := hb8.size; omega
          have hgt3 : gt < wo.heap.size := by have := hb7.size; have := hb8.size; omega
          clear hxm hxa hxb hxe hany ha hb oc8 ot8
          go_wp2_with fail
          go_loopg [13, 113] n2 (fun k fv i wr => ∃ (q : Nat) (f : Bool), q + k = n2 ∧ i = .int .i64 q ∧ fv = .bool f ∧ Hid ((f || (l.drop q).any (pairHit (timesOf start l) a b)) = true) ∧ Below wo.heap.size wo wr)
          case atStart => exact ⟨0, false, by omega, rfl, rfl, Hany.out, Below.refl _ _⟩
          case round =>
            obtain ⟨q, fd, hk, rfl, rfl, hru, hb9⟩ := hrel
            have Hk2 := Lib.hid hk; clear hk
            by_cases hlt2 : q < n2
            · obtain ⟨y, hy⟩ := get_some h2.len hlt2
              obtain ⟨p2, o2, ha2, hp2, g1, g2, g3⟩ := h2.wt hy
              cases ha2
              have hbb := Hbw.out.trans (hb9.mono Hbw.out.size)
              have g1 := (hbb.cell (p := ⟨p2, o2 + q * 3, none⟩) hp2).trans g1
              have g2 := (hbb.cell (p := ⟨p2, o2 + q * 3 + 1, none⟩) hp2).trans g2
              have g3 := (hbb.cell (p := ⟨p2, o2 + q * 3 + 2, none⟩) hp2).trans g3
              have Hy := Lib.hid hy; clear hy
              obtain ⟨y1, y2, y3, y4, y5, y6⟩ := Hz.out.2.2.2 y (List.mem_of_getElem? Hy.out)
              have ca := (hb9.cell (p := ⟨gc, j - 1, none⟩) hgc3).trans ca
              have cb := (hb9.cell (p := ⟨gc, j, none⟩) hgc3).trans cb
              have ta := (hb9.cell (p := ⟨gt, a.toNat, none⟩) hgt3).trans ta
              have tb := (hb9.cell (p := ⟨gt, b.toNat, none⟩) hgt3).trans tb
              have hgc4 : gc < wr.heap.size := by have := hb9.size; omega
              have hgt4 : gt < wr.heap.size := by have := hb9.size; omega
              have hd := hru.out
              rw [drop_cons Hy.out, List.any_cons] at hd
              have hba := Lib.hid (fun X => hb9.alloc hb9.size X)
              clear hbb hru
              cases fd
              · by_cases e1 : y.frm = a
                · have d1 : (y.frm == a) = true := by simpa using e1
                  by_cases e2 : y.to = b
                  · have d2 : (y.to == b) = true := by simpa using e2
                    by_cases e3 : at0 (timesOf start l) b = at0 (timesOf start l) a + y.gap
                    · have d3 : (at0 (timesOf start l) b == at0 (timesOf start l) a + y.gap) = true := by simpa using e3
                      have Hn : Hid ((true || (l.drop (q + 1)).any (pairHit (timesOf start l) a b)) = true) := by rfl
                      clear e1 e2 e3 hd
                      go_wp2_with fail
                      have hwr : IntKind.i64.wrap (at0 (timesOf start l) a + y.gap) = at0 (timesOf start l) a + y.gap := IntWalk.i64_in _ (by omega)
                      go_quiet (fail)
                      go_wp2_with fail
                      go_roundg (gk - 1)
                      case measure => have := Hk2.out; omega
                      case rel => exact ⟨q + 1, _, by have := Hk2.out; omega, by go_num, rfl, Hn.out, below_drewN (hba.out _) _⟩
                    · have d3 : (at0 (timesOf start l) b == at0 (timesOf start l) a + y.gap) = false := by simpa using e3
                      have Hn : Hid ((false || (l.drop (q + 1)).any (pairHit (timesOf start l) a b)) = true) := by unfold Hid; rw [← hd, show pairHit (timesOf start l) a b y = false from by simp [pairHit, e3]]; rfl
                      clear e1 e2 e3 hd
                      go_wp2_with fail
                      have hwr : IntKind.i64.wrap (at0 (timesOf start l) a + y.gap) = at0 (timesOf start l) a + y.gap := IntWalk.i64_in _ (by omega)
                      go_quiet (fail)
                      go_wp2_with fail
                      go_roundg (gk - 1)
                      case measure => have := Hk2.out; omega
                      case rel => exact ⟨q + 1, _, by have := Hk2.out; omega, by go_num, rfl, Hn.out, below_drewN (hba.out _) _⟩
                  · have d2 : (y.to == b) = false := by simpa using e2
                    have Hn : Hid ((false || (l.drop (q + 1)).any (pairHit (timesOf start l) a b)) = true) := by unfold Hid; rw [← hd, show pairHit (timesOf start l) a b y = false from by simp [pairHit, e2]]; rfl
                    clear e1 e2 hd
                    go_wp2_with fail
                    have hwr : IntKind.i64.wrap (at0 (timesOf start l) a + y.gap) = at0 (timesOf start l) a + y.gap := IntWalk.i64_in _ (by omega)
                    go_quiet (fail)
                    go_wp2_with fail
                    go_roundg (gk - 1)
                    case measure => have := Hk2.out; omega
                    case rel => exact ⟨q + 1, _, by have := Hk2.out; omega, by go_num, rfl, Hn.out, below_drewN (hba.out _) _⟩
                · have d1 : (y.frm == a) = false := by simpa using e1
                  have Hn : Hid ((false || (l.drop (q + 1)).any (pairHit (timesOf start l) a b)) = true) := by unfold Hid; rw [← hd, show pairHit (timesOf start l) a b y = false from by simp [pairHit, e1]]; rfl
                  clear e1 hd
                  go_wp2_with fail
                  have hwr : IntKind.i64.wrap (at0 (timesOf start l) a + y.gap) = at0 (timesOf start l) a + y.gap := IntWalk.i64_in _ (by omega)
                  go_quiet (fail)
                  go_wp2_with fail
                  go_roundg (gk - 1)
                  case measure => have := Hk2.out; omega
                  case rel => exact ⟨q + 1, _, by have := Hk2.out; omega, by go_num, rfl, Hn.out, below_drewN (hba.out _) _⟩
              · skip
                have Hn : Hid ((true || (l.drop (q + 1)).any (pairHit (timesOf start l) a b)) = true) := by rfl
                clear hd
                go_wp2_with fail
                have hwr : IntKind.i64.wrap (at0 (timesOf start l) a + y.gap) = at0 (timesOf start l) a + y.gap := IntWalk.i64_in _ (by omega)
                go_quiet (fail)
                go_wp2_with fail
                go_roundg (gk - 1)
                case measure => have := Hk2.out; omega
                case rel => exact ⟨q + 1, _, by have := Hk2.out; omega, by go_num, rfl, Hn.out, below_drewN (hba.out _) _⟩
            · have hb0 : fd = true := by have := hru.out; rw [drop_end h2.len (by omega)] at this; simpa using this
              subst hb0
              go_wp2_with fail
              go_roundg (cs.length - j - 1)
              case measure => have := Hk.out; omega
              case rel => exact ⟨j + 1, by omega, by have := Hk.out; omega, by go_num, hb8.trans (hb9.mono hb8.size)⟩
        · go_wp2_with fail
          go_ret
          exact ⟨rfl, hb6'.trans ((hb7.trans (hb8.mono hb7.size)).mono hb6'.size)⟩

set_option maxRecDepth 100000 in
set_option maxHeartbeats 1000000 in
theorem lawWhys_no (w : World) (a1 a2 : Option Addr) (n1 c1 n2 c2 : Nat) (start : List Int) (l : List Wt) (event : Int) (h1 : Ints w a1 n1 start) (h2 : Wts w a2 n2 l) (hc : a1 = none → c1 = 0)
    (hf1 : n1 ≤ 60) (hf2 : n2 ≤ 120) (hy : ¬ WhyYes start l event) :
    Calls Try.prog 6 #[.slice a1 n1 c1, .slice a2 n2 c2, .int .i64 event] w fun e w' => e = .returned (.bool true) ∧ Below w.heap.size w w' := by
  obtain rfl := h1.len
  have b1 := h1.bnd
  have b2 := h2.bnd
  have K := Lib.hid (known_any w)
  have Hc := Lib.hid hc; clear hc
  have hfd := Lib.hid (show decide (start.length ≤ 60 ∧ n2 ≤ 120) = true by simpa using ⟨hf1, hf2⟩)
  have hry : ¬ RefWhyYes start l (RefR start l) event := fun h => hy ⟨by rw [← err_eq]; exact h.1, h.2⟩
  have hcase : solveErr start l ≠ 0 ∨ event < 0 ∨ (start.length : Int) ≤ event := by
    rcases Int.lt_or_le event 0 with h | h
    · exact .inr (.inl h)
    · rcases Int.lt_or_le event start.length with h' | h'
      · refine .inl fun h0 => hy ⟨h0, ?_⟩
        unfold offB; simp; omega
      · exact .inr (.inr h')
  have Hy := Lib.hid hy
  have Hry := Lib.hid hry
  have hW1 := Lib.hid (show WhyYes start l event → whyRun (timesOf start l) start l 300 event [event] = some [] ∧ ([] : List Int).length ≤ 1000 from fun h => absurd h hy)
  have hW2 := Lib.hid (show RefWhyYes start l (RefR start l) event → refWhyRun start.length (timesRun l (RefR start l) start) start l 300 event [event] = some [] ∧ ([] : List Int).length ≤ 1000 from fun h => absurd h hry)
  have Hcase := Lib.hid hcase
  clear hcase hy hry
  go_enter Try.func6, Try.ntmps6
  go_wp2_with fail
  refine K.out.mono ?_
  rintro e w1 ⟨rfl, hb1⟩
  go_wp2_with fail
  refine (few_any w1 a1 a2 _ c1 n2 c2 b1 b2).mono ?_
  rintro e w1' ⟨rfl, rfl⟩
  rw [hfd.out]
  have H1 := Lib.hid (why_any w1 a1 a2 _ c1 n2 c2 start l event 300 [] (h1.below hb1) (h2.below hb1) Hc.out hW1.out)
  go_wp2_with fail
  refine H1.out.mono ?_
  rintro e w2 ⟨vc, rfl, hnn, hb2⟩
  have hb2' := below_step hb1 hb2 hb1.size
  have hvc := hnn.no Hy.out
  cases hvc
  have H2 := Lib.hid (plain_any w2 a2 n2 c2 l (h2.below hb2') (by omega))
  go_wp2_with fail
  refine H2.out.mono ?_
  rintro e w3 ⟨a3, c3, rfl, hl3, hb3⟩
  have hb3' := below_step hb2' hb3 hb2'.size
  have H3 := Lib.hid (refwhy_any w3 a1 a3 _ c1 n2 c3 start l (RefR start l) event 300 [] (h1.below hb3') hl3 Hc.out (refOk start l) hW2.out)
  go_wp2_with fail
  refine H3.out.mono ?_
  rintro e w4 ⟨v4, rfl, hn4, hb4⟩
  have hb4' := below_step hb3' hb4 hb3'.size
  have hv4 := hn4.no Hry.out
  cases hv4
  have H4 := Lib.hid (sameInts w4 none none 0 0 0 0 [] [] (Row.nil _ _) (Row.nil _ _))
  clear hnn hn4 hl3
  go_wp2_with fail
  refine H4.out.mono ?_
  rintro e w5 ⟨rfl, hb5⟩
  have hb5' := below_step hb4' hb5 hb4'.size
  rw [show (([] : List Int) == []) = true from rfl]
  have H5 := Lib.hid (lateTimes_any w5 a1 a2 _ c1 n2 c2 start l (h1.below hb5') (h2.below hb5') Hc.out)
  go_wp2_with fail
  refine H5.out.mono ?_
  rintro e w6 ⟨v6, rfl, hn6, hb6⟩
  have hb6' := below_step hb5' hb6 hb5'.size
  clear hn6
  by_cases hs : solveErr start l = 0
  · rw [hs]
    rcases Hcase.out with h | h | h
    · exact absurd hs h
    · have Hs := Lib.hid hs; clear hs
      go_wp2_with fail
      go_ret
      exact ⟨rfl, hb6'⟩
    · have Hs := Lib.hid hs; clear hs
      have h0 : ¬ event < 0 := by omega
      go_wp2_with fail
      go_ret
      exact ⟨rfl, hb6'⟩
  · have hq := neq_beq hs
    have Hs := Lib.hid hs; clear hs
    go_wp2_with fail
    go_ret
    exact ⟨rfl, hb6'⟩

set_option maxRecDepth 100000 in
set_option maxHeartbeats 1000000 in
theorem lawWhys_any (w : World) (a1 a2 : Option Addr) (n1 c1 n2 c2 : Nat) (start : List Int) (l : List Wt) (event : Int) (h1 : Ints w a1 n1 start) (h2 : Wts w a2 n2 l) (hc : a1 = none → c1 = 0) :
    Calls Try.prog 6 #[.slice a1 n1 c1, .slice a2 n2 c2, .int .i64 event] w fun e w' => e = .returned (.bool true) ∧ Below w.heap.size w w' := by
  by_cases hf : n1 ≤ 60 ∧ n2 ≤ 120
  · by_cases hy : WhyYes start l event
    · exact lawWhys_yes w a1 a2 n1 c1 n2 c2 start l event h1 h2 hc hf.1 hf.2 hy
    · exact lawWhys_no w a1 a2 n1 c1 n2 c2 start l event h1 h2 hc hf.1 hf.2 hy
  · have b1 := h1.bnd
    have b2 := h2.bnd
    have K := Lib.hid (known_any w)
    have hfd := Lib.hid (show decide (n1 ≤ 60 ∧ n2 ≤ 120) = false by simpa using hf)
    have Hf := Lib.hid hf; clear hf
    go_enter Try.func6, Try.ntmps6
    go_wp2_with fail
    refine K.out.mono ?_
    rintro e w1 ⟨rfl, hb1⟩
    go_wp2_with fail
    refine (few_any w1 a1 a2 _ c1 n2 c2 b1 b2).mono ?_
    rintro e w1' ⟨rfl, rfl⟩
    rw [hfd.out]
    go_wp2_with fail
    go_ret
    exact ⟨rfl, hb1⟩

set_option maxRecDepth 100000 in
theorem lateWhys_lifted (os : Os) (started : os.Started) (H : Type) (enc : TypeId × Value → H) :
    ReturnsInHanded {} Try.checked os 6 .any (Rows.lateWhysSpec.pre6 enc Try.prog Try.f6 Rows.lateWhysRow.domain false) (Rows.lateWhysSpec.post enc Try.prog Try.f6 false true false false) := by
  refine returnsInHanded_of_change (C := Try.checked) own started (by kernel_rfl) Try.func6
    (ChangeSpec.witness6 (enc := enc) (C := Try.checked) false ⟨#[], #[.slice none 0 0, .slice none 0 0, .int .i64 0], []⟩ 8 (by kernel_rfl) (by kernel_rfl) (by kernel_rfl) (by kernel_rfl)) ?_
  intro W base args ds gs before hval0 hW hcnd _
  have hval : ∀ (j : Nat) t v, Try.f6.params[j]? = some t → args[j]? = some v → Value.okWide Try.prog W .any base t v := hval0
  have hW' := hW
  obtain ⟨p, q, hA0, hV, rfl, hfz, hnd⟩ := hW
  have hA : DataW.TrodAll enc Try.prog W 0 (fun _ => true) true Try.f6.params.toList args.toList ds p := hA0
  rw [Try.params6] at hA hval
  obtain ⟨v0, vs0, d0, ds0, p0, q0, hargs, rfl, rfl, k0, r0⟩ := trodAll_cons hA
  obtain ⟨v1, vs1, d1, ds1, p1, q1, rfl, rfl, rfl, k1, r1⟩ := trodAll_cons r0
  obtain ⟨v2, vs2, d2, ds2, p2, q2, rfl, rfl, rfl, k2, r2⟩ := trodAll_cons r1
  obtain ⟨rfl, rfl, rfl⟩ := trodAll_nil r2
  obtain rfl : args = #[v0, v1, v2] := by cases args; simp_all
  obtain ⟨rfl, rfl⟩ := trodVars_none hV
  have lt0 : ∀ x ∈ p0, x.block < W.heap.size := by obtain ⟨m, hm⟩ := k0; exact DataW.trod_lt m _ _ _ hm
  have hv0 := hval 0 22 v0 rfl rfl
  have lt1 : ∀ x ∈ p1, x.block < W.heap.size := by obtain ⟨m, hm⟩ := k1; exact DataW.trod_lt m _ _ _ hm
  have hv1 := hval 1 23 v1 rfl rfl
  have lt2 : ∀ x ∈ p2, x.block < W.heap.size := by obtain ⟨m, hm⟩ := k2; exact DataW.trod_lt m _ _ _ hm
  have hv2 := hval 2 3 v2 rfl rfl
  have fin : Calls Try.prog 6 #[v0, v1, v2] W (fun e W' => e = .returned (.bool true) ∧ Below W.heap.size W W') := by
    obtain ⟨a1, n1, c1, start, rfl, h1, _, hc, _⟩ := open_Ints hv0 k0
    obtain ⟨a2, n2, c2, l, rfl, h2, _, _, _⟩ := open_Wts hv1 k1
    obtain ⟨event, rfl, _⟩ := open_int Try.underlying3 hv2 k2
    exact lawWhys_any W a1 a2 n1 c1 n2 c2 start l event h1 h2 hc
  clear hA0 hval0
  refine fin.mono fun e W' ⟨he, bel⟩ => ?_
  subst he
  exact ⟨_, rfl, _, _, _, [], _, [], hW', trodAll_mk1 (shut_bool Try.underlying4 _), (trodAll_cons_mk (Below.trod laidOut (by kernel_rfl) (of_decide_eq_true (by kernel_rfl)) k0 bel lt0) (trodAll_cons_mk (Below.trod laidOut (by kernel_rfl) (of_decide_eq_true (by kernel_rfl)) k1 bel lt1) (trodAll_cons_mk (Below.trod laidOut (by kernel_rfl) (of_decide_eq_true (by kernel_rfl)) k2 bel lt2) trodAll_mk0))), rfl, bel.frame _, fun h => by cases h⟩

/-- THE STATEMENT -/
theorem lateWhys_holds : Rows.LateWhysSaid :=
  OpenClaim.holds_of_wide 6 Try.f6 rfl rfl rfl rfl rfl rfl rfl ⟨rfl, rfl, rfl, rfl, rfl⟩ rfl rfl rfl rfl rfl (by kernel_rfl) Try.func6 (by kernel_rfl)
    (of_decide_eq_true (by kernel_rfl)) (by unfold Func.isWrapper; first | (rw [if_pos (by decide +kernel)]; kernel_rfl) | (rw [if_neg (by decide +kernel)]; exact ⟨rfl, rfl⟩))
    (fun os started H enc _ => lateWhys_lifted os started H enc)
end Go.Proofs.Ytkklnaejpgcgoaa
