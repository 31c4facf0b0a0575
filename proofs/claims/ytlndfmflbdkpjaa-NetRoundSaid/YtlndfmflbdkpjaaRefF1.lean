/- Walks of semaphoreref6.Few, Find and SameInts. No condition beyond the plan that is read. -/
import Derived.Test.YtlndfmflbdkpjaaPlanW12
set_option maxRecDepth 1000000
namespace Go.Proofs.Ytlndfmflbdkpjaa
open Go.RowKit

theorem drop_eq_refSameInts {xs ys : List Int} {j : Nat} {x y : Int} (hx : xs.drop j = x :: xs.drop (j + 1)) (hy : ys.drop j = y :: ys.drop (j + 1)) : decide (xs.drop j = ys.drop j) = (decide (x = y) && decide (xs.drop (j + 1) = ys.drop (j + 1))) := by
  rw [hx, hy, Bool.eq_iff_iff]; simp
set_option maxHeartbeats 400000 in
theorem refSameInts (w : World) (a1 a2 : Option Addr) (n1 n2 c1 c2 : Nat) (xs ys : List Int) (h1 : Row 1 encInt w a1 n1 xs) (h2 : Row 1 encInt w a2 n2 ys) :
    Calls Try.prog 83 #[.slice a1 n1 c1, .slice a2 n2 c2] w fun e w' => e = .returned (.bool (decide (xs = ys))) ∧ ∃ q : Nat, w' = w.drewN q := by
  have l1 := Lib.hid h1.len
  have l2 := Lib.hid h2.len
  have b1 := h1.bnd
  have b2 := h2.bnd
  by_cases hn : n1 = n2
  · subst hn
    go_enter Try.func83, Try.ntmps83
    go_wp2_with fail
    go_loopg [5] n1 (fun k i wr => ∃ (j q : Nat), j + k = n1 ∧ i = .int .i64 j ∧ Hid (decide (xs.drop j = ys.drop j) = decide (xs = ys)) ∧ wr = w.drewN q)
    case atStart => exact ⟨0, 0, by omega, rfl, rfl, rfl⟩
    case round =>
      obtain ⟨j, q, hk, rfl, hr, rfl⟩ := hrel
      have Hk := Lib.hid hk; clear hk
      by_cases hlt : j < n1
      · obtain ⟨x, hx⟩ := get_some l1.out hlt
        obtain ⟨y, hy⟩ := get_some l2.out hlt
        obtain ⟨p1, o1, rfl, hp1, g0⟩ := h1.int hx
        obtain ⟨p2, o2, rfl, hp2, k0⟩ := h2.int hy
        have Hd := Lib.hid (drop_eq_refSameInts (drop_cons hx) (drop_cons hy)); clear hx hy
        by_cases hxy : x = y
        · have q1 : (x != y) = false := by simpa using hxy
          have Hf := Lib.hid (show decide (xs.drop (j + 1) = ys.drop (j + 1)) = decide (xs = ys) by rw [← hr.out, Hd.out]; simp [hxy])
          clear hxy
          go_wp2_with fail
          go_quiet (fail)
          go_wp2_with fail
          go_roundg (gk - 1)
          case measure => have := Hk.out; omega
          case rel => exact ⟨j + 1, _, by have := Hk.out; omega, by go_num, Hf.out, rfl⟩
        · have q1 : (x != y) = true := by simpa using hxy
          have Hf := Lib.hid (show decide (xs = ys) = false by rw [← hr.out, Hd.out]; simp [hxy])
          clear hxy
          go_wp2_with fail
          go_quiet (fail)
          go_wp2_with fail
          go_ret
          exact ⟨ret_bool Hf.out.symm, _, by first | exact World.drewN_drewN .. | rfl⟩
      · have Hf := Lib.hid (show decide (xs = ys) = true by rw [← hr.out, drop_end l1.out (by omega), drop_end l2.out (by omega)]; rfl)
        go_wp2_with fail
        go_ret
        exact ⟨ret_bool Hf.out.symm, _, by first | exact World.drewN_drewN .. | rfl⟩
  · have Hf := Lib.hid (show decide (xs = ys) = false by
      have := l1.out; have := l2.out
      simp only [decide_eq_false_iff_not]; intro h; subst h; omega)
    have q1 : ((n1 : Int) != (n2 : Int)) = true := by rw [bne_iff_ne]; omega
    go_enter Try.func83, Try.ntmps83
    go_wp2_with fail
    go_ret
    exact ⟨ret_bool Hf.out.symm, 0, rfl⟩

theorem reffind_any (w : World) (pv : PV) (p : Plan) (s : ByteArray) (h : PlanAt w pv p) :
    Calls Try.prog 27 #[pv.val p, .string s] w fun e w' => e = .returned (.int .i64 (findName p.elems s)) ∧ Below w.heap.size w w' := by
  obtain ⟨ae, ne, ce, aj, nj, cj, as_, ns, cs, al, nl, cl, lv⟩ := pv
  have he : Elems w ae ne p.elems := h.e
  have l1 := Lib.hid he.len
  have b1 := he.bnd
  have hW := below_new w (.cells #[.slice ae ne ce, .slice aj nj cj, .slice as_ ns cs, .slice al nl cl, .int .i64 p.top, .int .i64 p.brake, .int .i64 p.margin, .int .i64 p.throw, .bool p.hard] 32)
  have HB := Lib.hid (pbox_new w ⟨ae, ne, ce, aj, nj, cj, as_, ns, cs, al, nl, cl, lv⟩ p)
  clear h
  dsimp only [PV.val]
  go_enter Try.func27, Try.ntmps27
  go_wp2_with fail
  go_loopg [5] ne (fun k i wr => ∃ j : Nat, j + k = ne ∧ i = .int .i64 j ∧ Hid (idxFrom (fun e => decide (e.name = s)) j (p.elems.drop j) = findName p.elems s) ∧ PBox wr w.heap.size ⟨ae, ne, ce, aj, nj, cj, as_, ns, cs, al, nl, cl, lv⟩ p ∧ Below w.heap.size w wr)
  case atStart => exact ⟨0, by omega, rfl, rfl, HB.out, hW⟩
  case round =>
    clear hW HB
    obtain ⟨j, hk, rfl, hr, hB, hb⟩ := hrel
    have Hk := Lib.hid hk; clear hk
    have HB := Lib.hid hB
    obtain ⟨_, c0, _⟩ := hB
    by_cases hlt : j < ne
    · obtain ⟨y, hy⟩ := get_some l1.out hlt
      obtain ⟨pb, off, rfl, hpb, g1, g2, g3⟩ := he.elemB hb hy
      have Hd := Lib.hid (drop_cons hy); clear hy
      have Hb := Lib.hid hb; clear hb
      by_cases hn : y.name = s
      · have q1 : (y.name.toList == s.toList) = true := by rw [str_beq]; simpa using hn
        have Hf := Lib.hid (show findName p.elems s = (j : Int) by rw [← hr.out, Hd.out]; simp [idxFrom, hn])
        clear hn
        go_wp2_with fail
        go_ret
        exact ⟨ret_int Hf.out.symm, Hb.out⟩
      · have q1 : (y.name.toList == s.toList) = false := by rw [str_beq]; simpa using hn
        have Hf := Lib.hid (show idxFrom (fun e => decide (e.name = s)) (j + 1) (p.elems.drop (j + 1)) = findName p.elems s by rw [← hr.out, Hd.out]; simp [idxFrom, hn])
        clear hn
        go_wp2_with fail
        go_roundg (gk - 1)
        case measure => have := Hk.out; omega
        case rel => exact ⟨j + 1, by have := Hk.out; omega, by go_num, Hf.out, HB.out, Hb.out⟩
    · have Hf := Lib.hid (show findName p.elems s = -1 by rw [← hr.out, drop_end l1.out (by omega)]; rfl)
      go_wp2_with fail
      go_ret
      exact ⟨ret_int Hf.out.symm, hb⟩

/-- what Few's yes tells -/
def FewOk (pv : PV) : Prop := pv.ne ≤ 60 ∧ pv.nj ≤ 120 ∧ pv.ns ≤ 60 ∧ pv.nl ≤ 20 ∧ ∀ x ∈ pv.lv, x.n ≤ 60
def FewPost (w : World) (pv : PV) (e : Ending) (w' : World) : Prop := ∃ b : Bool, e = .returned (.bool b) ∧ (b = true → FewOk pv) ∧ Below w.heap.size w w'
theorem take_small {lv : List LineV} {j : Nat} {y : LineV} (h : ∀ x ∈ lv.take j, x.n ≤ 60) (hy : lv[j]? = some y) (hn : y.n ≤ 60) : ∀ x ∈ lv.take (j + 1), x.n ≤ 60 := by
  intro x hx
  rw [List.take_add_one, hy] at hx
  simp at hx
  rcases hx with hx | rfl
  · exact h x hx
  · exact hn
set_option maxHeartbeats 1000000 in
theorem reffew_any (w : World) (pv : PV) (p : Plan) (h : PlanAt w pv p) :
    Calls Try.prog 23 #[pv.val p] w (FewPost w pv) := by
  obtain ⟨ae, ne, ce, aj, nj, cj, as_, ns, cs, al, nl, cl, lv⟩ := pv
  have he : Elems w ae ne p.elems := h.e
  have hs : Sigs w as_ ns p.sigs := h.s
  have hl : Lines w al nl lv := h.l
  have hfit := Lib.hid h.fit
  have Hl := Lib.hid h.lp
  have le := Lib.hid he.len
  have ls := Lib.hid hs.len
  have ll := Lib.hid hl.row.len
  have be := he.bnd
  have bs := hs.bnd
  have bl := hl.row.bnd
  have hW : Below w.heap.size w (w.alloc (.cells #[.slice ae ne ce, .slice aj nj cj, .slice as_ ns cs, .slice al nl cl, .int .i64 p.top, .int .i64 p.brake, .int .i64 p.margin, .int .i64 p.throw, .bool p.hard] 32)) := below_new _ _
  have HB := Lib.hid (pbox_new w ⟨ae, ne, ce, aj, nj, cj, as_, ns, cs, al, nl, cl, lv⟩ p)
  clear h
  dsimp only [PV.val]
  cases d1 : decide (60 < (ne : Int))
  case true =>
    go_enter Try.func23, Try.ntmps23
    go_wp2_with fail
    go_ret
    exact ⟨false, rfl, by simp, hW⟩
  cases d2 : decide (120 < (nj : Int))
  case true =>
    go_enter Try.func23, Try.ntmps23
    go_wp2_with fail
    go_ret
    exact ⟨false, rfl, by simp, hW⟩
  cases d3 : decide (60 < (ns : Int))
  case true =>
    go_enter Try.func23, Try.ntmps23
    go_wp2_with fail
    go_ret
    exact ⟨false, rfl, by simp, hW⟩
  cases d4 : decide (20 < (nl : Int))
  case true =>
    go_enter Try.func23, Try.ntmps23
    go_wp2_with fail
    go_ret
    exact ⟨false, rfl, by simp, hW⟩
  go_enter Try.func23, Try.ntmps23
  go_wp2_with fail
  go_loopg [3] nl (fun k i wr => ∃ j : Nat, j + k = nl ∧ i = .int .i64 j ∧ Hid (∀ x ∈ lv.take j, x.n ≤ 60) ∧ PBox wr w.heap.size ⟨ae, ne, ce, aj, nj, cj, as_, ns, cs, al, nl, cl, lv⟩ p ∧ Below w.heap.size w wr)
  case atStart => exact ⟨0, by omega, rfl, Lib.hid (by simp), HB.out, hW⟩
  case round =>
    clear HB hW
    obtain ⟨j, hk, rfl, Ht, hB, hb⟩ := hrel
    have Hk := Lib.hid hk; clear hk
    have HB := Lib.hid hB
    have Hb := Lib.hid hb; clear hb
    obtain ⟨_, c0, _, c2, c3, _⟩ := hB
    by_cases hlt : j < nl
    · obtain ⟨y, hy⟩ := get_some ll.out hlt
      obtain ⟨pb, off, rfl, hpb, g1, g2⟩ := hl.row.lineB Hb.out hy
      have hy0 := Lib.hid hy
      have hsz := (hfit.out.l y.line (by rw [Hl.out]; exact List.mem_map.2 ⟨y, List.mem_of_getElem? hy, rfl⟩)).2
      clear hy
      cases t1 : decide (60 < (y.n : Int))
      case true =>
        go_wp2_with fail
        go_ret
        exact ⟨false, rfl, by simp, Hb.out⟩
      cases t2 : decide (100 < (y.name.size : Int))
      · go_wp2_with fail
        go_roundg (gk - 1)
        case measure => have := Hk.out; omega
        case rel => exact ⟨j + 1, by have := Hk.out; omega, by go_num, Lib.hid (take_small Ht.out hy0.out (by simp at t1; omega)), HB.out, Hb.out⟩
      · go_wp2_with fail
        go_ret
        exact ⟨false, rfl, by simp, Hb.out⟩
    · have HSm := Lib.hid (show FewOk ⟨ae, ne, ce, aj, nj, cj, as_, ns, cs, al, nl, cl, lv⟩ from ⟨by simp at d1; show ne ≤ 60; omega, by simp at d2; show nj ≤ 120; omega, by simp at d3; show ns ≤ 60; omega, by simp at d4; show nl ≤ 20; omega, fun x hx => Ht.out x (by rw [List.take_of_length_le (by have := ll.out; omega)]; exact hx)⟩)
      go_wp2_with fail
      go_loopg [4] ne (fun k i wr => ∃ j : Nat, j + k = ne ∧ i = .int .i64 j ∧ PBox wr w.heap.size ⟨ae, ne, ce, aj, nj, cj, as_, ns, cs, al, nl, cl, lv⟩ p ∧ Below w.heap.size w wr)
      case atStart => exact ⟨0, by omega, rfl, HB.out, Hb.out⟩
      case round =>
        clear HB Hb c0 c2 c3 hlt
        obtain ⟨j, hk, rfl, hB, hb⟩ := hrel
        have Hk := Lib.hid hk; clear hk
        have HB := Lib.hid hB
        have Hb := Lib.hid hb; clear hb
        obtain ⟨_, c0, _, c2, c3, _⟩ := hB
        by_cases hlt : j < ne
        · obtain ⟨y, hy⟩ := get_some le.out hlt
          obtain ⟨pb, off, rfl, hpb, g1, g2, g3⟩ := he.elemB Hb.out hy
          have hsz := (hfit.out.e y (List.mem_of_getElem? hy)).2.2
          clear hy
          cases t2 : decide (100 < (y.name.size : Int))
          · go_wp2_with fail
            go_roundg (gk - 1)
            case measure => have := Hk.out; omega
            case rel => exact ⟨j + 1, by have := Hk.out; omega, by go_num, HB.out, Hb.out⟩
          · go_wp2_with fail
            go_ret
            exact ⟨false, rfl, by simp, Hb.out⟩
        · go_wp2_with fail
          go_loopg [5] ns (fun k i wr => ∃ j : Nat, j + k = ns ∧ i = .int .i64 j ∧ PBox wr w.heap.size ⟨ae, ne, ce, aj, nj, cj, as_, ns, cs, al, nl, cl, lv⟩ p ∧ Below w.heap.size w wr)
          case atStart => exact ⟨0, by omega, rfl, HB.out, Hb.out⟩
          case round =>
            clear HB Hb c0 c2 c3 hlt
            obtain ⟨j, hk, rfl, hB, hb⟩ := hrel
            have Hk := Lib.hid hk; clear hk
            have HB := Lib.hid hB
            have Hb := Lib.hid hb; clear hb
            obtain ⟨_, c0, _, c2, c3, _⟩ := hB
            by_cases hlt : j < ns
            · obtain ⟨y, hy⟩ := get_some ls.out hlt
              obtain ⟨pb, off, rfl, hpb, g1, g2, g3, g4⟩ := hs.sigB Hb.out hy
              have hsz := (hfit.out.s y (List.mem_of_getElem? hy)).2
              clear hy
              cases t2 : decide (100 < (y.name.size : Int))
              · go_wp2_with fail
                go_roundg (gk - 1)
                case measure => have := Hk.out; omega
                case rel => exact ⟨j + 1, by have := Hk.out; omega, by go_num, HB.out, Hb.out⟩
              · go_wp2_with fail
                go_ret
                exact ⟨false, rfl, by simp, Hb.out⟩
            · go_wp2_with fail
              go_ret
              exact ⟨true, rfl, fun _ => HSm.out, Hb.out⟩
end Go.Proofs.Ytlndfmflbdkpjaa
