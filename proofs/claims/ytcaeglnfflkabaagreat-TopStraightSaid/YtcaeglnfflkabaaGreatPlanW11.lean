/- Walks of plan.Find and plan.Same with the library's IndexFunc, Equal and EqualFunc. No condition beyond the plans that are read. -/
import Derived.Test.YtcaeglnfflkabaaGreatPlanW3
set_option maxRecDepth 1000000
namespace Go.Proofs.YtcaeglnfflkabaaGreat
open Go.RowKit

/-! lines -/
def LineV.val (x : LineV) : Value := .agg #[.string x.name, .slice x.a x.n x.c]
end Go.Proofs.YtcaeglnfflkabaaGreat

/- Walks of plan.Same and of the small plan that the laws know. No condition beyond the plans that are read. -/
set_option maxRecDepth 1000000
namespace Go.Proofs.YtcaeglnfflkabaaGreat
open Go.RowKit

/-! the small plan -/
theorem heap_new_at {u : World} {o : Obj} {b : Nat} (h : u.heap.size = b) : (u.alloc o).heap[b]? = some o := by
 subst h; exact heap_alloc_new u o
theorem row_block {α : Type} {sz : Nat} {enc : α → List Value} (henc : ∀ x, (enc x).length = sz) (hsz : 0 < sz) {W : World} {b : Nat} {cs : Array Value} {T : TypeId} (xs : List α) {n : Nat}
  (hb : W.heap[b]? = some (.cells cs T)) (hcs : cs.toList = xs.flatMap enc) (hn : xs.length = n) (hm : n ≤ 100000) : Row sz enc W (some ⟨b, 0, none⟩) n xs := by
 have hl : (xs.flatMap enc).length = n * sz := by
  subst hn
  clear hcs hm
  induction xs with
  | nil => simp
  | cons x r ih => simp only [List.flatMap_cons, List.length_append, henc, ih, List.length_cons, Nat.succ_mul]; omega
 have hs : cs.size = n * sz := by rw [← Array.length_toList, hcs, hl]
 have h : W.ownsRow 0 T sz (.slice (some ⟨b, 0, none⟩) n n) n (xs.flatMap enc) :=
  ⟨hl, .inr ⟨b, n, cs, rfl, Nat.zero_le _, hb, Nat.le_refl _, by simp [maxLen]; omega, hs, by rw [hcs]; exact List.take_of_length_le (by omega)⟩⟩
 exact (owns_row henc h hsz).1
end Go.Proofs.YtcaeglnfflkabaaGreat

/- Walks of semaphoreref6.Few, Find and SameInts. No condition beyond the plan that is read. -/
set_option maxRecDepth 1000000
namespace Go.Proofs.YtcaeglnfflkabaaGreat
open Go.RowKit

/-- what Few's yes tells -/
def FewOk (pv : PV) : Prop := pv.ne ≤ 60 ∧ pv.nj ≤ 120 ∧ pv.ns ≤ 60 ∧ pv.nl ≤ 20 ∧ ∀ x ∈ pv.lv, x.n ≤ 60
def FewPost (w : World) (pv : PV) (e : Ending) (w' : World) : Prop := ∃ b : Bool, e = .returned (.bool b) ∧ (b = true → FewOk pv) ∧ Below w.heap.size w w'
theorem take_small {lv : List LineV} {j : Nat} {y : LineV} (h : ∀ x ∈ lv.take j, x.n ≤ 60) (hy : lv[j]? = some y) (hn : y.n ≤ 60) : ∀ x ∈ lv.take (j + 1), x.n ≤ 60 := by
 intro x hx
 rw [List.take_add_one, hy] at hx
 simp at hx
 rcases hx with hx | rfl
 ·exact h x hx
 ·exact hn
set_option maxHeartbeats 1000000 in
theorem reffew_any (w : World) (pv : PV) (p : Plan) (h : PlanAt w pv p) :
  Calls Tryz.prog 26 #[pv.val p] w (FewPost w pv) := by
 obtain ⟨ae, ne, ce, aj, nj, cj, as_, ns, cs, al, nl, cl, lv⟩ := pv
 have he : Elems w ae ne p.elems := h.e
 have hs : Sigs w as_ ns p.sigs := h.s
 have hl : Lines w al nl lv := h.l
 have hfit := Lib.hid h.fit
 have Hl := Lib.hid h.lp
 have le := Lib.hid he.len
 have ls := Lib.hid hs.len
 have ll := Lib.hid hl.row.len
 have be := he.bnd
 have bs := hs.bnd
 have bl := hl.row.bnd
 have hW : Below w.heap.size w (w.alloc (.cells #[.slice ae ne ce, .slice aj nj cj, .slice as_ ns cs, .slice al nl cl, .int .i64 p.top, .int .i64 p.brake, .int .i64 p.margin, .int .i64 p.throw, .bool p.hard] 27)) := below_new _ _
 have HB := Lib.hid (pbox_new w ⟨ae, ne, ce, aj, nj, cj, as_, ns, cs, al, nl, cl, lv⟩ p)
 clear h
 dsimp only [PV.val]
 cases d1 : decide (60 < (ne : Int))
 case true =>
  go_enter Tryz.func26, Tryz.ntmps26
  go_wp2_with fail
  go_ret
  exact ⟨false, rfl, by simp, hW⟩
 cases d2 : decide (120 < (nj : Int))
 case true =>
  go_enter Tryz.func26, Tryz.ntmps26
  go_wp2_with fail
  go_ret
  exact ⟨false, rfl, by simp, hW⟩
 cases d3 : decide (60 < (ns : Int))
 case true =>
  go_enter Tryz.func26, Tryz.ntmps26
  go_wp2_with fail
  go_ret
  exact ⟨false, rfl, by simp, hW⟩
 cases d4 : decide (20 < (nl : Int))
 case true =>
  go_enter Tryz.func26, Tryz.ntmps26
  go_wp2_with fail
  go_ret
  exact ⟨false, rfl, by simp, hW⟩
 go_enter Tryz.func26, Tryz.ntmps26
 go_wp2_with fail
 go_loopg [3] nl (fun k i wr => ∃ j : Nat, j + k = nl ∧ i = .int .i64 j ∧ Hid (∀ x ∈ lv.take j, x.n ≤ 60) ∧ PBox wr w.heap.size ⟨ae, ne, ce, aj, nj, cj, as_, ns, cs, al, nl, cl, lv⟩ p ∧ Below w.heap.size w wr)
 case atStart => exact ⟨0, by omega, rfl, Lib.hid (by simp), HB.out, hW⟩
 case round =>
  clear HB hW
  obtain ⟨j, hk, rfl, Ht, hB, hb⟩ := hrel
  have Hk := Lib.hid hk; clear hk
  have HB := Lib.hid hB
  have Hb := Lib.hid hb; clear hb
  obtain ⟨_, c0, _, c2, c3, _⟩ := hB
  by_cases hlt : j < nl
  ·obtain ⟨y, hy⟩ := get_some ll.out hlt
   obtain ⟨pb, off, rfl, hpb, g1, g2⟩ := hl.row.lineB Hb.out hy
   have hy0 := Lib.hid hy
   have hsz := (hfit.out.l y.line (by rw [Hl.out]; exact List.mem_map.2 ⟨y, List.mem_of_getElem? hy, rfl⟩)).2
   clear hy
   cases t1 : decide (60 < (y.n : Int))
   case true =>
    go_wp2_with fail
    go_ret
    exact ⟨false, rfl, by simp, Hb.out⟩
   cases t2 : decide (100 < (y.name.size : Int))
   ·go_wp2_with fail
    go_roundg (gk - 1)
    case measure => have := Hk.out; omega
    case rel => exact ⟨j + 1, by have := Hk.out; omega, by go_num, Lib.hid (take_small Ht.out hy0.out (by simp at t1; omega)), HB.out, Hb.out⟩
   ·go_wp2_with fail
    go_ret
    exact ⟨false, rfl, by simp, Hb.out⟩
  ·have HSm := Lib.hid (show FewOk ⟨ae, ne, ce, aj, nj, cj, as_, ns, cs, al, nl, cl, lv⟩ from ⟨by simp at d1; show ne ≤ 60; omega, by simp at d2; show nj ≤ 120; omega, by simp at d3; show ns ≤ 60; omega, by simp at d4; show nl ≤ 20; omega, fun x hx => Ht.out x (by rw [List.take_of_length_le (by have := ll.out; omega)]; exact hx)⟩)
   go_wp2_with fail
   go_loopg [4] ne (fun k i wr => ∃ j : Nat, j + k = ne ∧ i = .int .i64 j ∧ PBox wr w.heap.size ⟨ae, ne, ce, aj, nj, cj, as_, ns, cs, al, nl, cl, lv⟩ p ∧ Below w.heap.size w wr)
   case atStart => exact ⟨0, by omega, rfl, HB.out, Hb.out⟩
   case round =>
    clear HB Hb c0 c2 c3 hlt
    obtain ⟨j, hk, rfl, hB, hb⟩ := hrel
    have Hk := Lib.hid hk; clear hk
    have HB := Lib.hid hB
    have Hb := Lib.hid hb; clear hb
    obtain ⟨_, c0, _, c2, c3, _⟩ := hB
    by_cases hlt : j < ne
    ·obtain ⟨y, hy⟩ := get_some le.out hlt
     obtain ⟨pb, off, rfl, hpb, g1, g2, g3⟩ := he.elemB Hb.out hy
     have hsz := (hfit.out.e y (List.mem_of_getElem? hy)).2.2
     clear hy
     cases t2 : decide (100 < (y.name.size : Int))
     ·go_wp2_with fail
      go_roundg (gk - 1)
      case measure => have := Hk.out; omega
      case rel => exact ⟨j + 1, by have := Hk.out; omega, by go_num, HB.out, Hb.out⟩
     ·go_wp2_with fail
      go_ret
      exact ⟨false, rfl, by simp, Hb.out⟩
    ·go_wp2_with fail
     go_loopg [5] ns (fun k i wr => ∃ j : Nat, j + k = ns ∧ i = .int .i64 j ∧ PBox wr w.heap.size ⟨ae, ne, ce, aj, nj, cj, as_, ns, cs, al, nl, cl, lv⟩ p ∧ Below w.heap.size w wr)
     case atStart => exact ⟨0, by omega, rfl, HB.out, Hb.out⟩
     case round =>
      clear HB Hb c0 c2 c3 hlt
      obtain ⟨j, hk, rfl, hB, hb⟩ := hrel
      have Hk := Lib.hid hk; clear hk
      have HB := Lib.hid hB
      have Hb := Lib.hid hb; clear hb
      obtain ⟨_, c0, _, c2, c3, _⟩ := hB
      by_cases hlt : j < ns
      ·obtain ⟨y, hy⟩ := get_some ls.out hlt
       obtain ⟨pb, off, rfl, hpb, g1, g2, g3, g4⟩ := hs.sigB Hb.out hy
       have hsz := (hfit.out.s y (List.mem_of_getElem? hy)).2
       clear hy
       cases t2 : decide (100 < (y.name.size : Int))
       ·go_wp2_with fail
        go_roundg (gk - 1)
        case measure => have := Hk.out; omega
        case rel => exact ⟨j + 1, by have := Hk.out; omega, by go_num, HB.out, Hb.out⟩
       ·go_wp2_with fail
        go_ret
        exact ⟨false, rfl, by simp, Hb.out⟩
      ·go_wp2_with fail
       go_ret
       exact ⟨true, rfl, fun _ => HSm.out, Hb.out⟩
end Go.Proofs.YtcaeglnfflkabaaGreat

/- Walk of semaphoreref6.Same. No condition beyond the plans that are read. -/
set_option maxRecDepth 1000000
namespace Go.Proofs.YtcaeglnfflkabaaGreat
open Go.RowKit

end Go.Proofs.YtcaeglnfflkabaaGreat
