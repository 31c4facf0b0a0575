/- Walk of semaphoreref6.Few: its answer exactly. No condition beyond the plan that is read. -/
import Derived.Test.YtlgekkffekagbaaRefC8
set_option maxRecDepth 1000000
namespace Go.Proofs.Ytlgekkffekagbaa
open Go.RowKit Go.Sort Go.ChangeShapes Go.WideShapes

def lineFew (l : Line) : Bool := decide (l.elems.length ≤ 60) && decide (l.name.size ≤ 100)
theorem few_eq (p : Plan) : few p = (decide (p.elems.length ≤ 60) && decide (p.joins.length ≤ 120) && decide (p.sigs.length ≤ 60) && decide (p.lines.length ≤ 20) && ((p.lines.all lineFew) && ((p.elems.all fun e => decide (e.name.size ≤ 100)) && (p.sigs.all fun s => decide (s.name.size ≤ 100))))) := rfl
theorem few_ok {w : World} {pv : PV} {p : Plan} (h : PlanAt w pv p) (hf : few p = true) : FewOk pv := by
  rw [few_eq] at hf
  simp only [Bool.and_eq_true, decide_eq_true_eq, List.all_eq_true] at hf
  obtain ⟨⟨⟨⟨f1, f2⟩, f3⟩, f4⟩, f5, _⟩ := hf
  refine ⟨by rw [← h.e.len]; exact f1, by rw [← h.j.len]; exact f2, by rw [← h.s.len]; exact f3, ?_, fun x hx => ?_⟩
  · rw [h.lp, List.length_map, h.l.row.len] at f4; exact f4
  · have := f5 x.line (by rw [h.lp]; exact List.mem_map.2 ⟨x, hx, rfl⟩)
    unfold lineFew at this
    simp only [Bool.and_eq_true, decide_eq_true_eq] at this
    rw [← (h.l.ints x hx).len]; exact this.1

set_option maxHeartbeats 1000000 in
theorem fewx_any (w : World) (pv : PV) (p : Plan) (h : PlanAt w pv p) :
    Calls Try.prog 34 #[pv.val p] w fun e w' => e = .returned (.bool (few p)) ∧ Below w.heap.size w w' := by
  obtain ⟨ae, ne, ce, aj, nj, cj, as_, ns, cs, al, nl, cl, lv⟩ := pv
  have he : Elems w ae ne p.elems := h.e
  have hs : Sigs w as_ ns p.sigs := h.s
  have hl : Lines w al nl lv := h.l
  have hfit := Lib.hid h.fit
  have Hl := Lib.hid h.lp
  have le := Lib.hid he.len
  have ls := Lib.hid hs.len
  have ll := Lib.hid hl.row.len
  have lj := Lib.hid (show p.joins.length = nj from h.j.len)
  have Hints := Lib.hid hl.ints
  have be := he.bnd
  have bs := hs.bnd
  have bl := hl.row.bnd
  have hW : Below w.heap.size w (w.alloc (.cells #[.slice ae ne ce, .slice aj nj cj, .slice as_ ns cs, .slice al nl cl, .int .i64 p.top, .int .i64 p.brake, .int .i64 p.margin, .int .i64 p.throw, .bool p.hard] 27)) := below_new _ _
  have HB := Lib.hid (pbox_new w ⟨ae, ne, ce, aj, nj, cj, as_, ns, cs, al, nl, cl, lv⟩ p)
  have lll := Lib.hid (show p.lines.length = nl by rw [Hl.out, List.length_map]; exact ll.out)
  clear h
  dsimp only [PV.val]
  cases d1 : decide (60 < (ne : Int))
  case true =>
    have Hq := Lib.hid (show few p = false by rw [few_eq, show decide (p.elems.length ≤ 60) = false by have := le.out; simp at d1 ⊢; omega]; rfl)
    go_enter Try.func34, Try.ntmps34
    go_wp2_with fail
    go_ret
    exact ⟨ret_bool Hq.out.symm, hW⟩
  cases d2 : decide (120 < (nj : Int))
  case true =>
    have Hq := Lib.hid (show few p = false by rw [few_eq, show decide (p.joins.length ≤ 120) = false by have := lj.out; simp at d2 ⊢; omega]; simp)
    go_enter Try.func34, Try.ntmps34
    go_wp2_with fail
    go_ret
    exact ⟨ret_bool Hq.out.symm, hW⟩
  cases d3 : decide (60 < (ns : Int))
  case true =>
    have Hq := Lib.hid (show few p = false by rw [few_eq, show decide (p.sigs.length ≤ 60) = false by have := ls.out; simp at d3 ⊢; omega]; simp)
    go_enter Try.func34, Try.ntmps34
    go_wp2_with fail
    go_ret
    exact ⟨ret_bool Hq.out.symm, hW⟩
  cases d4 : decide (20 < (nl : Int))
  case true =>
    have Hq := Lib.hid (show few p = false by rw [few_eq, show decide (p.lines.length ≤ 20) = false by have := lll.out; simp at d4 ⊢; omega]; simp)
    go_enter Try.func34, Try.ntmps34
    go_wp2_with fail
    go_ret
    exact ⟨ret_bool Hq.out.symm, hW⟩
  have Hq := Lib.hid (show few p = ((lv.all fun x => lineFew x.line) && ((p.elems.all fun e => decide (e.name.size ≤ 100)) && (p.sigs.all fun s => decide (s.name.size ≤ 100)))) by
    rw [few_eq, show decide (p.elems.length ≤ 60) = true by have := le.out; simp at d1 ⊢; omega, show decide (p.joins.length ≤ 120) = true by have := lj.out; simp at d2 ⊢; omega,
      show decide (p.sigs.length ≤ 60) = true by have := ls.out; simp at d3 ⊢; omega, show decide (p.lines.length ≤ 20) = true by have := lll.out; simp at d4 ⊢; omega, Hl.out, List.all_map]
    rfl)
  go_enter Try.func34, Try.ntmps34
  go_wp2_with fail
  go_loopg [3] nl (fun k i wr => ∃ j : Nat, j + k = nl ∧ i = .int .i64 j ∧ Hid ((lv.drop j).all (fun x => lineFew x.line) = lv.all (fun x => lineFew x.line)) ∧ PBox wr w.heap.size ⟨ae, ne, ce, aj, nj, cj, as_, ns, cs, al, nl, cl, lv⟩ p ∧ Below w.heap.size w wr)
  case atStart => exact ⟨0, by omega, rfl, rfl, HB.out, hW⟩
  case round =>
    clear HB hW
    obtain ⟨j, hk, rfl, hr, hB, hb⟩ := hrel
    have Hk := Lib.hid hk; clear hk
    have HB := Lib.hid hB
    have Hb := Lib.hid hb; clear hb
    obtain ⟨_, c0, _, c2, c3, _⟩ := hB
    by_cases hlt : j < nl
    · obtain ⟨y, hy⟩ := get_some ll.out hlt
      obtain ⟨pb, off, rfl, hpb, g1, g2⟩ := hl.row.lineB Hb.out hy
      have Hd := Lib.hid (drop_cons hy)
      have hsz := (hfit.out.l y.line (by rw [Hl.out]; exact List.mem_map.2 ⟨y, List.mem_of_getElem? hy, rfl⟩)).2
      have Hyl := Lib.hid (show y.line.elems.length = y.n from (Hints.out y (List.mem_of_getElem? hy)).len)
      clear hy
      cases t1 : decide (60 < (y.n : Int))
      case true =>
        have Ho := Lib.hid (show lineFew y.line = false by unfold lineFew; rw [show decide (y.line.elems.length ≤ 60) = false by have := Hyl.out; simp at t1 ⊢; omega]; rfl)
        go_wp2_with fail
        go_ret
        exact ⟨ret_bool (by rw [Hq.out, all_stop Hd.out hr.out Ho.out]; rfl), Hb.out⟩
      cases t2 : decide (100 < (y.name.size : Int))
      · have Ho := Lib.hid (show lineFew y.line = true by unfold lineFew; rw [show decide (y.line.elems.length ≤ 60) = true by have := Hyl.out; simp at t1 ⊢; omega, show decide (y.line.name.size ≤ 100) = true by simp at t2; show decide (y.name.size ≤ 100) = true; simp; omega]; rfl)
        go_wp2_with fail
        go_roundg (gk - 1)
        case measure => have := Hk.out; omega
        case rel => exact ⟨j + 1, by have := Hk.out; omega, by go_num, all_step Hd.out hr.out Ho.out, HB.out, Hb.out⟩
      · have Ho := Lib.hid (show lineFew y.line = false by unfold lineFew; rw [show decide (y.line.name.size ≤ 100) = false by simp at t2; show decide (y.name.size ≤ 100) = false; simp; omega]; simp)
        go_wp2_with fail
        go_ret
        exact ⟨ret_bool (by rw [Hq.out, all_stop Hd.out hr.out Ho.out]; rfl), Hb.out⟩
    · have Hq2 := Lib.hid (show few p = ((p.elems.all fun e => decide (e.name.size ≤ 100)) && (p.sigs.all fun s => decide (s.name.size ≤ 100))) by rw [Hq.out, all_end ll.out hr.out hlt]; rfl)
      clear hr
      go_wp2_with fail
      go_loopg [4] ne (fun k i wr => ∃ j : Nat, j + k = ne ∧ i = .int .i64 j ∧ Hid ((p.elems.drop j).all (fun e => decide (e.name.size ≤ 100)) = p.elems.all (fun e => decide (e.name.size ≤ 100))) ∧ PBox wr w.heap.size ⟨ae, ne, ce, aj, nj, cj, as_, ns, cs, al, nl, cl, lv⟩ p ∧ Below w.heap.size w wr)
      case atStart => exact ⟨0, by omega, rfl, rfl, HB.out, Hb.out⟩
      case round =>
        clear HB Hb c0 c2 c3 hlt
        obtain ⟨j, hk, rfl, hr, hB, hb⟩ := hrel
        have Hk := Lib.hid hk; clear hk
        have HB := Lib.hid hB
        have Hb := Lib.hid hb; clear hb
        obtain ⟨_, c0, _, c2, c3, _⟩ := hB
        by_cases hlt : j < ne
        · obtain ⟨y, hy⟩ := get_some le.out hlt
          obtain ⟨pb, off, rfl, hpb, g1, g2, g3⟩ := he.elemB Hb.out hy
          have Hd := Lib.hid (drop_cons hy)
          have hsz := (hfit.out.e y (List.mem_of_getElem? hy)).2.2
          clear hy
          cases t2 : decide (100 < (y.name.size : Int))
          · have Ho := Lib.hid (show decide (y.name.size ≤ 100) = true by simp at t2 ⊢; omega)
            go_wp2_with fail
            go_roundg (gk - 1)
            case measure => have := Hk.out; omega
            case rel => exact ⟨j + 1, by have := Hk.out; omega, by go_num, all_step Hd.out hr.out Ho.out, HB.out, Hb.out⟩
          · have Ho := Lib.hid (show decide (y.name.size ≤ 100) = false by simp at t2 ⊢; omega)
            go_wp2_with fail
            go_ret
            exact ⟨ret_bool (by rw [Hq2.out, all_stop Hd.out hr.out Ho.out]; rfl), Hb.out⟩
        · have Hq3 := Lib.hid (show few p = (p.sigs.all fun s => decide (s.name.size ≤ 100)) by rw [Hq2.out, all_end le.out hr.out hlt]; rfl)
          clear hr
          go_wp2_with fail
          go_loopg [5] ns (fun k i wr => ∃ j : Nat, j + k = ns ∧ i = .int .i64 j ∧ Hid ((p.sigs.drop j).all (fun e => decide (e.name.size ≤ 100)) = p.sigs.all (fun e => decide (e.name.size ≤ 100))) ∧ PBox wr w.heap.size ⟨ae, ne, ce, aj, nj, cj, as_, ns, cs, al, nl, cl, lv⟩ p ∧ Below w.heap.size w wr)
          case atStart => exact ⟨0, by omega, rfl, rfl, HB.out, Hb.out⟩
          case round =>
            clear HB Hb c0 c2 c3 hlt
            obtain ⟨j, hk, rfl, hr, hB, hb⟩ := hrel
            have Hk := Lib.hid hk; clear hk
            have HB := Lib.hid hB
            have Hb := Lib.hid hb; clear hb
            obtain ⟨_, c0, _, c2, c3, _⟩ := hB
            by_cases hlt : j < ns
            · obtain ⟨y, hy⟩ := get_some ls.out hlt
              obtain ⟨pb, off, rfl, hpb, g1, g2, g3, g4⟩ := hs.sigB Hb.out hy
              have Hd := Lib.hid (drop_cons hy)
              have hsz := (hfit.out.s y (List.mem_of_getElem? hy)).2
              clear hy
              cases t2 : decide (100 < (y.name.size : Int))
              · have Ho := Lib.hid (show decide (y.name.size ≤ 100) = true by simp at t2 ⊢; omega)
                go_wp2_with fail
                go_roundg (gk - 1)
                case measure => have := Hk.out; omega
                case rel => exact ⟨j + 1, by have := Hk.out; omega, by go_num, all_step Hd.out hr.out Ho.out, HB.out, Hb.out⟩
              · have Ho := Lib.hid (show decide (y.name.size ≤ 100) = false by simp at t2 ⊢; omega)
                go_wp2_with fail
                go_ret
                exact ⟨ret_bool (by rw [Hq3.out, all_stop Hd.out hr.out Ho.out]), Hb.out⟩
            · have Hq4 := Lib.hid (show few p = true by rw [Hq3.out, all_end ls.out hr.out hlt])
              go_wp2_with fail
              go_ret
              exact ⟨ret_bool Hq4.out.symm, Hb.out⟩
section
variable {w : World} {ae aj as_ al : Option Addr} {ne ce nj cj ns cs nl cl : Nat} {lv : List LineV} {p : Plan}
theorem fewx_l (h : PlanAt w ⟨ae, ne, ce, aj, nj, cj, as_, ns, cs, al, nl, cl, lv⟩ p) : Calls Try.prog 34 #[.agg #[.slice ae ne ce, .slice aj nj cj, .slice as_ ns cs, .slice al nl cl, .int .i64 p.top, .int .i64 p.brake, .int .i64 p.margin, .int .i64 p.throw, .bool p.hard]] w fun e w' => e = .returned (.bool (few p)) ∧ Below w.heap.size w w' := fewx_any w ⟨ae, ne, ce, aj, nj, cj, as_, ns, cs, al, nl, cl, lv⟩ p h
theorem check_l (hn2 : ∀ x ∈ lv, x.n ≤ 1000) (h : PlanAt w ⟨ae, ne, ce, aj, nj, cj, as_, ns, cs, al, nl, cl, lv⟩ p) : Calls Try.prog 55 #[.agg #[.slice ae ne ce, .slice aj nj cj, .slice as_ ns cs, .slice al nl cl, .int .i64 p.top, .int .i64 p.brake, .int .i64 p.margin, .int .i64 p.throw, .bool p.hard]] w fun e w' => e = .returned (.int .i64 (chk p)) ∧ Below w.heap.size w w' := check_any w ⟨ae, ne, ce, aj, nj, cj, as_, ns, cs, al, nl, cl, lv⟩ p h hn2
theorem refcheck_l2 (hn2 : ∀ x ∈ lv, x.n ≤ 1000) (h : PlanAt w ⟨ae, ne, ce, aj, nj, cj, as_, ns, cs, al, nl, cl, lv⟩ p) : Calls Try.prog 35 #[.agg #[.slice ae ne ce, .slice aj nj cj, .slice as_ ns cs, .slice al nl cl, .int .i64 p.top, .int .i64 p.brake, .int .i64 p.margin, .int .i64 p.throw, .bool p.hard]] w fun e w' => e = .returned (.int .i64 (chk p)) ∧ Below w.heap.size w w' := refcheck_any w ⟨ae, ne, ce, aj, nj, cj, as_, ns, cs, al, nl, cl, lv⟩ p h hn2
end
end Go.Proofs.Ytlgekkffekagbaa
