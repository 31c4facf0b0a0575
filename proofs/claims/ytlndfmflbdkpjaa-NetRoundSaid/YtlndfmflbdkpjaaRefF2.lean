/- Walk of semaphoreref6.Same. No condition beyond the plans that are read. -/
import Derived.Test.YtlndfmflbdkpjaaRefF1
set_option maxRecDepth 1000000
namespace Go.Proofs.Ytlndfmflbdkpjaa
open Go.RowKit

theorem drop_eq_lines {xs ys : List LineV} {j : Nat} {x y : LineV} (hx : xs.drop j = x :: xs.drop (j + 1)) (hy : ys.drop j = y :: ys.drop (j + 1)) :
    decide ((xs.drop j).map LineV.line = (ys.drop j).map LineV.line) = ((decide (x.name = y.name) && decide (x.elems = y.elems)) && decide ((xs.drop (j + 1)).map LineV.line = (ys.drop (j + 1)).map LineV.line)) := by
  rw [hx, hy, Bool.eq_iff_iff]; simp [LineV.line, and_assoc]
theorem plan_ne_len {p q : Plan} (h : p.elems.length ≠ q.elems.length ∨ p.joins.length ≠ q.joins.length ∨ p.sigs.length ≠ q.sigs.length ∨ p.lines.length ≠ q.lines.length) : decide (p = q) = false := by
  simp only [decide_eq_false_iff_not]; rintro rfl; simp at h

set_option maxHeartbeats 4000000 in
theorem refsame_any (w : World) (pv pv2 : PV) (p q : Plan) (h : PlanAt w pv p) (h2 : PlanAt w pv2 q) :
    Calls Try.prog 29 #[pv.val p, pv2.val q] w fun e w' => e = .returned (.bool (decide (p = q))) ∧ Below w.heap.size w w' := by
  have hW := Lib.hid (below_new2 w (pobj pv p) (pobj pv2 q))
  have HA0 := Lib.hid ((pbox_new w pv p).alloc (pobj pv2 q))
  have HB0 := Lib.hid (show PBox ((w.alloc (pobj pv p)).alloc (pobj pv2 q)) (w.heap.size + 1) pv2 q by have := pbox_new (w.alloc (pobj pv p)) pv2 q; simpa using this)
  have Hs := Lib.hid (plan_eq p q)
  obtain ⟨ae, ne, ce, aj, nj, cj, as_, ns, cs, al, nl, cl, lv⟩ := pv
  obtain ⟨ae2, ne2, ce2, aj2, nj2, cj2, as2, ns2, cs2, al2, nl2, cl2, lv2⟩ := pv2
  have HE := Lib.hid (show Elems w ae ne p.elems ∧ Elems w ae2 ne2 q.elems from ⟨h.e, h2.e⟩)
  have HJ := Lib.hid (show Joins w aj nj p.joins ∧ Joins w aj2 nj2 q.joins from ⟨h.j, h2.j⟩)
  have HS := Lib.hid (show Sigs w as_ ns p.sigs ∧ Sigs w as2 ns2 q.sigs from ⟨h.s, h2.s⟩)
  have HLi := Lib.hid (show Lines w al nl lv ∧ Lines w al2 nl2 lv2 from ⟨h.l, h2.l⟩)
  have HL := Lib.hid (show decide (p.lines = q.lines) = decide (lv.map LineV.line = lv2.map LineV.line) by rw [h.lp, h2.lp])
  have HN := Lib.hid (show p.lines.length = nl ∧ q.lines.length = nl2 by rw [h.lp, h2.lp, List.length_map, List.length_map]; exact ⟨h.l.row.len, h2.l.row.len⟩)
  have be := HE.out.1.bnd
  have bj := HJ.out.1.bnd
  have bs := HS.out.1.bnd
  have bl := HLi.out.1.row.bnd
  clear h h2
  dsimp only [PV.val]
  by_cases m0 : ne ≠ ne2
  · have Hf := Lib.hid (plan_ne_len (p := p) (q := q) (by have := HE.out.1.len; have := HE.out.2.len; omega))
    have t0 : ((ne : Int) != (ne2 : Int)) = true := by rw [bne_iff_ne]; omega
    go_enter Try.func29, Try.ntmps29
    go_wp2_with fail
    go_ret
    exact ⟨ret_bool Hf.out.symm, hW.out⟩
  have m0 : ne = ne2 := by omega
  subst m0
  by_cases m1 : nj ≠ nj2
  · have Hf := Lib.hid (plan_ne_len (p := p) (q := q) (by have := HJ.out.1.len; have := HJ.out.2.len; omega))
    have t1 : ((nj : Int) != (nj2 : Int)) = true := by rw [bne_iff_ne]; omega
    go_enter Try.func29, Try.ntmps29
    go_wp2_with fail
    go_ret
    exact ⟨ret_bool Hf.out.symm, hW.out⟩
  have m1 : nj = nj2 := by omega
  subst m1
  by_cases m2 : ns ≠ ns2
  · have Hf := Lib.hid (plan_ne_len (p := p) (q := q) (by have := HS.out.1.len; have := HS.out.2.len; omega))
    have t2 : ((ns : Int) != (ns2 : Int)) = true := by rw [bne_iff_ne]; omega
    go_enter Try.func29, Try.ntmps29
    go_wp2_with fail
    go_ret
    exact ⟨ret_bool Hf.out.symm, hW.out⟩
  have m2 : ns = ns2 := by omega
  subst m2
  by_cases m3 : nl ≠ nl2
  · have Hf := Lib.hid (plan_ne_len (p := p) (q := q) (by have := HN.out.1; have := HN.out.2; omega))
    have t3 : ((nl : Int) != (nl2 : Int)) = true := by rw [bne_iff_ne]; omega
    go_enter Try.func29, Try.ntmps29
    go_wp2_with fail
    go_ret
    exact ⟨ret_bool Hf.out.symm, hW.out⟩
  have m3 : nl = nl2 := by omega
  subst m3
  have Hk := Lib.hid Hs.out
  cases s0 : (p.top != q.top)
  case true =>
    have Hf := Lib.hid (show decide (p = q) = false by simp only [decide_eq_false_iff_not]; rintro rfl; simp at s0)
    go_enter Try.func29, Try.ntmps29
    go_wp2_with fail
    go_ret
    exact ⟨ret_bool Hf.out.symm, hW.out⟩
  cases s1 : (p.brake != q.brake)
  case true =>
    have Hf := Lib.hid (show decide (p = q) = false by simp only [decide_eq_false_iff_not]; rintro rfl; simp at s1)
    go_enter Try.func29, Try.ntmps29
    go_wp2_with fail
    go_ret
    exact ⟨ret_bool Hf.out.symm, hW.out⟩
  cases s2 : (p.margin != q.margin)
  case true =>
    have Hf := Lib.hid (show decide (p = q) = false by simp only [decide_eq_false_iff_not]; rintro rfl; simp at s2)
    go_enter Try.func29, Try.ntmps29
    go_wp2_with fail
    go_ret
    exact ⟨ret_bool Hf.out.symm, hW.out⟩
  cases s3 : (p.throw != q.throw)
  case true =>
    have Hf := Lib.hid (show decide (p = q) = false by simp only [decide_eq_false_iff_not]; rintro rfl; simp at s3)
    go_enter Try.func29, Try.ntmps29
    go_wp2_with fail
    go_ret
    exact ⟨ret_bool Hf.out.symm, hW.out⟩
  cases s4 : (p.hard == q.hard)
  case false =>
    have Hf := Lib.hid (show decide (p = q) = false by simp only [decide_eq_false_iff_not]; rintro rfl; simp at s4)
    go_enter Try.func29, Try.ntmps29
    go_wp2_with fail
    go_ret
    exact ⟨ret_bool Hf.out.symm, hW.out⟩
  have Hf := Lib.hid (show decide (p = q) = (decide (p.elems = q.elems) && (decide (p.joins = q.joins) && (decide (p.sigs = q.sigs) && decide (lv.map LineV.line = lv2.map LineV.line)))) by
    rw [Hs.out, HL.out]; simp at s0 s1 s2 s3 s4; simp [s0, s1, s2, s3, s4])
  clear Hs
  go_enter Try.func29, Try.ntmps29
  go_wp2_with fail
  clear s0 s1 s2 s3 s4
  go_loopg [5] ne (fun k i wr => ∃ j : Nat, j + k = ne ∧ i = .int .i64 j ∧ Hid (decide (p.elems.drop j = q.elems.drop j) = decide (p.elems = q.elems)) ∧ PBox wr w.heap.size ⟨ae, ne, ce, aj, nj, cj, as_, ns, cs, al, nl, cl, lv⟩ p ∧ PBox wr (w.heap.size + 1) ⟨ae2, ne, ce2, aj2, nj, cj2, as2, ns, cs2, al2, nl, cl2, lv2⟩ q ∧ Below w.heap.size w wr)
  case atStart => exact ⟨0, by omega, rfl, rfl, HA0.out, HB0.out, hW.out⟩
  case round =>
    clear HA0 HB0 hW
    obtain ⟨j, hk, rfl, hr, hA, hB, hb⟩ := hrel
    have Hk := Lib.hid hk; clear hk
    have HA := Lib.hid hA
    have HB := Lib.hid hB
    have Hb := Lib.hid hb; clear hb
    obtain ⟨_, c0, c1, c2, c3, _⟩ := hA
    obtain ⟨_, d0, d1, d2, d3, _⟩ := hB
    by_cases hlt : j < ne
    · obtain ⟨x, hx⟩ := get_some HE.out.1.len hlt
      obtain ⟨y, hy⟩ := get_some HE.out.2.len hlt
      obtain ⟨p1, o1, rfl, hp1, g0, g1, g2⟩ := HE.out.1.elemB Hb.out hx
      obtain ⟨p2, o2, rfl, hp2, k0, k1, k2⟩ := HE.out.2.elemB Hb.out hy
      have Hd := Lib.hid (drop_eq_eqElems (drop_cons hx) (drop_cons hy)); clear hx hy
      by_cases hxy : x = y
      · have q1 := fun w => (eql_elem (x := x) (y := y) (b := true) (by simpa using hxy) w).2
        have Hg := Lib.hid (show decide (p.elems.drop (j + 1) = q.elems.drop (j + 1)) = decide (p.elems = q.elems) by rw [← hr.out, Hd.out]; simp [hxy])
        clear hxy
        go_wp2_with fail
        go_quiet (fail)
        go_wp2_with fail
        go_roundg (gk - 1)
        case measure => have := Hk.out; omega
        case rel => exact ⟨j + 1, by have := Hk.out; omega, by go_num, Hg.out, HA.out.drewN _, HB.out.drewN _, below_drewN Hb.out _⟩
      · have q1 := fun w => (eql_elem (x := x) (y := y) (b := false) (by simpa using hxy) w).2
        have Hg := Lib.hid (show decide (p.elems = q.elems) = false by rw [← hr.out, Hd.out]; simp [hxy])
        clear hxy
        go_wp2_with fail
        go_quiet (fail)
        go_wp2_with fail
        go_ret
        exact ⟨ret_bool (by rw [Hf.out, Hg.out]; rfl), below_drewN Hb.out _⟩
    · have T0 := Lib.hid (show decide (p.elems = q.elems) = true by rw [← hr.out, drop_end HE.out.1.len (by omega), drop_end HE.out.2.len (by omega)]; rfl)
      clear hr
      go_wp2_with fail
      go_loopg [6] nj (fun k i wr => ∃ j : Nat, j + k = nj ∧ i = .int .i64 j ∧ Hid (decide (p.joins.drop j = q.joins.drop j) = decide (p.joins = q.joins)) ∧ PBox wr w.heap.size ⟨ae, ne, ce, aj, nj, cj, as_, ns, cs, al, nl, cl, lv⟩ p ∧ PBox wr (w.heap.size + 1) ⟨ae2, ne, ce2, aj2, nj, cj2, as2, ns, cs2, al2, nl, cl2, lv2⟩ q ∧ Below w.heap.size w wr)
      case atStart => exact ⟨0, by omega, rfl, rfl, HA.out, HB.out, Hb.out⟩
      case round =>
        clear HA HB Hb c0 c1 c2 c3 d0 d1 d2 d3 hlt
        obtain ⟨j, hk, rfl, hr, hA, hB, hb⟩ := hrel
        have Hk := Lib.hid hk; clear hk
        have HA := Lib.hid hA
        have HB := Lib.hid hB
        have Hb := Lib.hid hb; clear hb
        obtain ⟨_, c0, c1, c2, c3, _⟩ := hA
        obtain ⟨_, d0, d1, d2, d3, _⟩ := hB
        by_cases hlt : j < nj
        · obtain ⟨x, hx⟩ := get_some HJ.out.1.len hlt
          obtain ⟨y, hy⟩ := get_some HJ.out.2.len hlt
          obtain ⟨p1, o1, rfl, hp1, g0, g1, g2, g3⟩ := HJ.out.1.joinB Hb.out hx
          obtain ⟨p2, o2, rfl, hp2, k0, k1, k2, k3⟩ := HJ.out.2.joinB Hb.out hy
          have Hd := Lib.hid (drop_eq_eqJoins (drop_cons hx) (drop_cons hy)); clear hx hy
          by_cases hxy : x = y
          · have q1 := fun w => (eql_join (x := x) (y := y) (b := true) (by simpa using hxy) w).2
            have Hg := Lib.hid (show decide (p.joins.drop (j + 1) = q.joins.drop (j + 1)) = decide (p.joins = q.joins) by rw [← hr.out, Hd.out]; simp [hxy])
            clear hxy
            go_wp2_with fail
            go_quiet (fail)
            go_wp2_with fail
            go_roundg (gk - 1)
            case measure => have := Hk.out; omega
            case rel => exact ⟨j + 1, by have := Hk.out; omega, by go_num, Hg.out, HA.out.drewN _, HB.out.drewN _, below_drewN Hb.out _⟩
          · have q1 := fun w => (eql_join (x := x) (y := y) (b := false) (by simpa using hxy) w).2
            have Hg := Lib.hid (show decide (p.joins = q.joins) = false by rw [← hr.out, Hd.out]; simp [hxy])
            clear hxy
            go_wp2_with fail
            go_quiet (fail)
            go_wp2_with fail
            go_ret
            exact ⟨ret_bool (by rw [Hf.out, T0.out, Hg.out]; rfl), below_drewN Hb.out _⟩
        · have T1 := Lib.hid (show decide (p.joins = q.joins) = true by rw [← hr.out, drop_end HJ.out.1.len (by omega), drop_end HJ.out.2.len (by omega)]; rfl)
          clear hr
          go_wp2_with fail
          go_loopg [7] ns (fun k i wr => ∃ j : Nat, j + k = ns ∧ i = .int .i64 j ∧ Hid (decide (p.sigs.drop j = q.sigs.drop j) = decide (p.sigs = q.sigs)) ∧ PBox wr w.heap.size ⟨ae, ne, ce, aj, nj, cj, as_, ns, cs, al, nl, cl, lv⟩ p ∧ PBox wr (w.heap.size + 1) ⟨ae2, ne, ce2, aj2, nj, cj2, as2, ns, cs2, al2, nl, cl2, lv2⟩ q ∧ Below w.heap.size w wr)
          case atStart => exact ⟨0, by omega, rfl, rfl, HA.out, HB.out, Hb.out⟩
          case round =>
            clear HA HB Hb c0 c1 c2 c3 d0 d1 d2 d3 hlt
            obtain ⟨j, hk, rfl, hr, hA, hB, hb⟩ := hrel
            have Hk := Lib.hid hk; clear hk
            have HA := Lib.hid hA
            have HB := Lib.hid hB
            have Hb := Lib.hid hb; clear hb
            obtain ⟨_, c0, c1, c2, c3, _⟩ := hA
            obtain ⟨_, d0, d1, d2, d3, _⟩ := hB
            by_cases hlt : j < ns
            · obtain ⟨x, hx⟩ := get_some HS.out.1.len hlt
              obtain ⟨y, hy⟩ := get_some HS.out.2.len hlt
              obtain ⟨p1, o1, rfl, hp1, g0, g1, g2, g3⟩ := HS.out.1.sigB Hb.out hx
              obtain ⟨p2, o2, rfl, hp2, k0, k1, k2, k3⟩ := HS.out.2.sigB Hb.out hy
              have Hd := Lib.hid (drop_eq_eqSigs (drop_cons hx) (drop_cons hy)); clear hx hy
              by_cases hxy : x = y
              · have q1 := fun w => (eql_sig (x := x) (y := y) (b := true) (by simpa using hxy) w).2
                have Hg := Lib.hid (show decide (p.sigs.drop (j + 1) = q.sigs.drop (j + 1)) = decide (p.sigs = q.sigs) by rw [← hr.out, Hd.out]; simp [hxy])
                clear hxy
                go_wp2_with fail
                go_quiet (fail)
                go_wp2_with fail
                go_roundg (gk - 1)
                case measure => have := Hk.out; omega
                case rel => exact ⟨j + 1, by have := Hk.out; omega, by go_num, Hg.out, HA.out.drewN _, HB.out.drewN _, below_drewN Hb.out _⟩
              · have q1 := fun w => (eql_sig (x := x) (y := y) (b := false) (by simpa using hxy) w).2
                have Hg := Lib.hid (show decide (p.sigs = q.sigs) = false by rw [← hr.out, Hd.out]; simp [hxy])
                clear hxy
                go_wp2_with fail
                go_quiet (fail)
                go_wp2_with fail
                go_ret
                exact ⟨ret_bool (by rw [Hf.out, T0.out, T1.out, Hg.out]; rfl), below_drewN Hb.out _⟩
            · have T2 := Lib.hid (show decide (p.sigs = q.sigs) = true by rw [← hr.out, drop_end HS.out.1.len (by omega), drop_end HS.out.2.len (by omega)]; rfl)
              clear hr
              go_wp2_with fail
              go_loopg [8] nl (fun k i wr => ∃ j : Nat, j + k = nl ∧ i = .int .i64 j ∧ Hid (decide ((lv.drop j).map LineV.line = (lv2.drop j).map LineV.line) = decide (lv.map LineV.line = lv2.map LineV.line)) ∧ PBox wr w.heap.size ⟨ae, ne, ce, aj, nj, cj, as_, ns, cs, al, nl, cl, lv⟩ p ∧ PBox wr (w.heap.size + 1) ⟨ae2, ne, ce2, aj2, nj, cj2, as2, ns, cs2, al2, nl, cl2, lv2⟩ q ∧ Below w.heap.size w wr)
              case atStart => exact ⟨0, by omega, rfl, rfl, HA.out, HB.out, Hb.out⟩
              case round =>
                clear HA HB Hb c0 c1 c2 c3 d0 d1 d2 d3 hlt
                obtain ⟨j, hk, rfl, hr, hA, hB, hb⟩ := hrel
                have Hk := Lib.hid hk; clear hk
                have HA := Lib.hid hA
                have HB := Lib.hid hB
                have Hb := Lib.hid hb; clear hb
                obtain ⟨_, _, _, _, c3, _⟩ := hA
                obtain ⟨_, _, _, _, d3, _⟩ := hB
                by_cases hlt : j < nl
                · obtain ⟨x, hx⟩ := get_some HLi.out.1.row.len hlt
                  obtain ⟨y, hy⟩ := get_some HLi.out.2.row.len hlt
                  have HI := Lib.hid (show Ints wr x.a x.n x.elems ∧ Ints wr y.a y.n y.elems from ⟨(HLi.out.1.ints x (List.mem_of_getElem? hx)).below Hb.out, (HLi.out.2.ints y (List.mem_of_getElem? hy)).below Hb.out⟩)
                  obtain ⟨p1, o1, rfl, hp1, g0, g1⟩ := HLi.out.1.row.lineB Hb.out hx
                  obtain ⟨p2, o2, rfl, hp2, k0, k1⟩ := HLi.out.2.row.lineB Hb.out hy
                  have Hd := Lib.hid (drop_eq_lines (drop_cons hx) (drop_cons hy)); clear hx hy
                  by_cases hn : x.name = y.name
                  · have q1 : (x.name.toList == y.name.toList) = true := by rw [str_beq]; simpa using hn
                    have Hn := Lib.hid hn; clear hn
                    cases hi : decide (x.elems = y.elems)
                    · have Hg := Lib.hid (show decide (lv.map LineV.line = lv2.map LineV.line) = false by rw [← hr.out, Hd.out, hi]; simp)
                      go_wp2_with fail
                      go_quiet ((go_at_call 83; refine Calls.quiet_of (refSameInts _ _ _ _ _ _ _ _ _ (HI.out.1.below (by repeat (first | with_reducible exact Below.refl _ _ | with_reducible assumption | with_reducible apply below_drewN | with_reducible apply Below.drew | with_reducible refine Below.alloc ?_ (by simp <;> omega) _))) (HI.out.2.below (by repeat (first | with_reducible exact Below.refl _ _ | with_reducible assumption | with_reducible apply below_drewN | with_reducible apply Below.drew | with_reducible refine Below.alloc ?_ (by simp <;> omega) _))))))
                      go_wp2_with fail
                      go_ret
                      exact ⟨ret_bool (by rw [Hf.out, T0.out, T1.out, T2.out, Hg.out]; rfl), below_drewN Hb.out _⟩
                    · have Hg := Lib.hid (show decide ((lv.drop (j + 1)).map LineV.line = (lv2.drop (j + 1)).map LineV.line) = decide (lv.map LineV.line = lv2.map LineV.line) by rw [← hr.out, Hd.out, hi]; simp [Hn.out])
                      go_wp2_with fail
                      go_quiet ((go_at_call 83; refine Calls.quiet_of (refSameInts _ _ _ _ _ _ _ _ _ (HI.out.1.below (by repeat (first | with_reducible exact Below.refl _ _ | with_reducible assumption | with_reducible apply below_drewN | with_reducible apply Below.drew | with_reducible refine Below.alloc ?_ (by simp <;> omega) _))) (HI.out.2.below (by repeat (first | with_reducible exact Below.refl _ _ | with_reducible assumption | with_reducible apply below_drewN | with_reducible apply Below.drew | with_reducible refine Below.alloc ?_ (by simp <;> omega) _))))))
                      go_wp2_with fail
                      go_roundg (gk - 1)
                      case measure => have := Hk.out; omega
                      case rel => exact ⟨j + 1, by have := Hk.out; omega, by go_num, Hg.out, HA.out.drewN _, HB.out.drewN _, below_drewN Hb.out _⟩
                  · have q1 : (x.name.toList == y.name.toList) = false := by rw [str_beq]; simpa using hn
                    have Hg := Lib.hid (show decide (lv.map LineV.line = lv2.map LineV.line) = false by rw [← hr.out, Hd.out]; simp [hn])
                    clear hn
                    go_wp2_with fail
                    go_quiet (fail)
                    go_wp2_with fail
                    go_ret
                    exact ⟨ret_bool (by rw [Hf.out, T0.out, T1.out, T2.out, Hg.out]; rfl), below_drewN Hb.out _⟩
                · have T3 := Lib.hid (show decide (lv.map LineV.line = lv2.map LineV.line) = true by rw [← hr.out, drop_end HLi.out.1.row.len (by omega), drop_end HLi.out.2.row.len (by omega)]; rfl)
                  clear hr
                  go_wp2_with fail
                  go_ret
                  exact ⟨ret_bool (by rw [Hf.out, T0.out, T1.out, T2.out, T3.out]; rfl), Hb.out⟩
end Go.Proofs.Ytlndfmflbdkpjaa
