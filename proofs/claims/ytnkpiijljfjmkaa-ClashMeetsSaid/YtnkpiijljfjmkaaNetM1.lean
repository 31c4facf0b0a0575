/- Walks of the methods of net.Net that read one thing: elem, Kind, Length, Len, Signals, At, Plan. Condition: the receiver is a net. -/
import Derived.Test.YtnkpiijljfjmkaaNetAt
import Derived.Test.YtnkpiijljfjmkaaRefC7
set_option maxRecDepth 1000000
namespace Go.Proofs.Ytnkpiijljfjmkaa
open Go.ChangeShapes Go.WideShapes Go.ChangeAt Go.RowKit Go.Sort

theorem opt_none {x : Option Port} (h : x = none) : Ending.returned (.tuple #[.agg #[.int .i64 0, .int .i64 0], .bool false]) = .returned (.tuple #[.agg #[.int .i64 ((x).getD zeroPort).e, .int .i64 ((x).getD zeroPort).n], .bool (x).isSome]) := by rw [h]; rfl
theorem opt_some {x : Option Port} {y : Port} (h : x = some y) : Ending.returned (.tuple #[.agg #[.int .i64 y.e, .int .i64 y.n], .bool true]) = .returned (.tuple #[.agg #[.int .i64 ((x).getD zeroPort).e, .int .i64 ((x).getD zeroPort).n], .bool (x).isSome]) := by rw [h]; rfl
theorem sigAt_none {p : Plan} {s : Int} (h : s < 0 ∨ (p.sigs.length : Int) ≤ s) : sigAt p s = none := by
 unfold sigAt
 split
 ·rw [List.getElem?_eq_none (by omega)]; rfl
 ·rfl
theorem lines_low {w : World} {v : PV} {p : Plan} (h : PlanAt w v p) : ∀ x ∈ v.lv, x.n ≠ 0 → ∀ b, x.a = some b → b.block ≠ w.heap.size := by
 intro x hx hn a ha
 have hi := h.l.ints x hx
 have hl := hi.len
 obtain ⟨y, hy⟩ : ∃ y, x.elems[0]? = some y := ⟨_, List.getElem?_eq_getElem (by omega)⟩
 obtain ⟨b', off, hab, hbl, _⟩ := hi.at_ 0 y hy
 rw [ha] at hab
 cases hab
 show b' ≠ _
 omega
end Go.Proofs.Ytnkpiijljfjmkaa

/- Walks of the methods Outs, Through, From of net.Net and of semaphoreref6.Outs, Through, From, At. Condition: the receiver is a net; the plan is read. -/
set_option maxRecDepth 1000000
namespace Go.Proofs.Ytnkpiijljfjmkaa
open Go.ChangeShapes Go.WideShapes Go.ChangeAt Go.RowKit Go.Sort

def encWay (x : Way) : List Value := [.int .i64 x.out, .int .i64 x.pos]
def OutsPost (w : World) (l : List Way) (e : Ending) (w' : World) : Prop := ∃ a n c, e = .returned (.slice a n c) ∧ Row 2 encWay w' a n l ∧ n ≤ 2 ∧ Below w.heap.size w w'
theorem Row.way {w : World} {a : Option Addr} {n : Nat} {xs : List Way} (h : Row 2 encWay w a n xs) {i : Nat} {x : Way} (hx : xs[i]? = some x) :
  ∃ b off, a = some ⟨b, off, none⟩ ∧ b < w.heap.size ∧ w.cell? ⟨b, off + i * 2, none⟩ = some (.int .i64 x.out) ∧ w.cell? ⟨b, off + i * 2 + 1, none⟩ = some (.int .i64 x.pos) := by
 obtain ⟨b, off, ha, hb, hc⟩ := h.at_ i x hx
 exact ⟨b, off, ha, hb, by simpa using hc 0 _ rfl, by simpa using hc 1 _ rfl⟩
theorem ways_nil {w w' : World} {l : List Way} (h : l = []) (hb : Below w.heap.size w w') : OutsPost w l (.returned (.slice none 0 0)) w' := by
 subst h; exact ⟨none, 0, 0, rfl, Row.nil _ _, by omega, hb⟩
theorem ways_one {w w' : World} {l : List Way} {x y : Int} {g : Nat} {T : TypeId} (h : l = [⟨x, y⟩]) (hg : w'.heap[g]? = some (.cells #[.int .i64 x, .int .i64 y] T)) (hb : Below w.heap.size w w') : OutsPost w l (.returned (.slice (some ⟨g, 0, none⟩) 1 1)) w' := by
 subst h
 refine ⟨_, 1, 1, rfl, ⟨rfl, by omega, fun i z hz => ⟨g, 0, rfl, (Array.getElem?_eq_some_iff.1 hg).1, fun k v hv => ?_⟩⟩, by omega, hb⟩
 rw [cell_of_row w' g _ _ _ (0, 0) hg]
 match i, hz with
 | 0, hz =>
  simp at hz; subst hz
  match k, hv with
  | 0, hv => simpa [encWay] using hv
  | 1, hv => simpa [encWay] using hv
 | i + 1, hz => simp at hz
theorem ways_two {w w' : World} {l : List Way} {x y u v : Int} {g : Nat} {T : TypeId} (h : l = [⟨x, y⟩, ⟨u, v⟩]) (hg : w'.heap[g]? = some (.cells #[.int .i64 x, .int .i64 y, .int .i64 u, .int .i64 v] T)) (hb : Below w.heap.size w w') : OutsPost w l (.returned (.slice (some ⟨g, 0, none⟩) 2 2)) w' := by
 subst h
 refine ⟨_, 2, 2, rfl, ⟨rfl, by omega, fun i z hz => ⟨g, 0, rfl, (Array.getElem?_eq_some_iff.1 hg).1, fun k t ht => ?_⟩⟩, by omega, hb⟩
 rw [cell_of_row w' g _ _ _ (0, 0) hg]
 match i, hz with
 | 0, hz =>
  simp at hz; subst hz
  match k, ht with
  | 0, ht => simpa [encWay] using ht
  | 1, ht => simpa [encWay] using ht
 | 1, hz =>
  simp at hz; subst hz
  match k, ht with
  | 0, ht => simpa [encWay] using ht
  | 1, ht => simpa [encWay] using ht
 | i + 2, hz => simp at hz
set_option maxHeartbeats 2000000 in
theorem refouts_any (w : World) (pv : PV) (p : Plan) (h : PlanAt w pv p) (e i : Int) :
  Calls Try.prog 92 #[pv.val p, .int .i64 e, .int .i64 i] w (OutsPost w (outs p e i)) := by
 obtain ⟨ae, ne, ce, aj, nj, cj, as_, ns, cs, al, nl, cl, lv⟩ := pv
 have Hba := Lib.hid (below_new w (.cells #[.slice ae ne ce, .slice aj nj cj, .slice as_ ns cs, .slice al nl cl, .int .i64 p.top, .int .i64 p.brake, .int .i64 p.margin, .int .i64 p.throw, .bool p.hard] 27))
 have HBa := Lib.hid (pbox_new w ⟨ae, ne, ce, aj, nj, cj, as_, ns, cs, al, nl, cl, lv⟩ p)
 have hP := Lib.hid h
 have HH := Lib.hid (has_any (w.alloc (.cells #[.slice ae ne ce, .slice aj nj cj, .slice as_ ns cs, .slice al nl cl, .int .i64 p.top, .int .i64 p.brake, .int .i64 p.margin, .int .i64 p.throw, .bool p.hard] 27)) ⟨ae, ne, ce, aj, nj, cj, as_, ns, cs, al, nl, cl, lv⟩ p ⟨e, i⟩ (h.below Hba.out))
 clear h
 dsimp only [PV.val, Port.val] at HH ⊢
 obtain ⟨_, c0, c1, c2, c3, c4, c5, c6, c7, c8⟩ := HBa.out
 dsimp only at c0 c1 c2 c3
 cases hp : isPort p ⟨e, i⟩ with
 | false =>
  have Hs := Lib.hid (show outs p e i = [] by
   unfold outs
   split
   ·rfl
   ·rename_i hn
    have : ¬ isPort p ⟨e, i⟩ = true := by simp [hp]
    rw [isPort_iff] at this
    exfalso
    apply this
    have hr : 0 ≤ e ∧ e < p.elems.length := by
     apply Classical.byContradiction
     intro hc
     have := kind_out (p := p) (i := e) (by omega)
     rw [this] at hn
     simp [ends] at hn
     omega
    refine ⟨hr.1, hr.2, ?_, ?_⟩
    ·show 0 ≤ i; omega
    ·show i < ends (p.kind e); omega)
  rw [hp] at HH
  clear hp
  go_enter Try.func92, Try.ntmps92
  go_wp2_with fail
  refine HH.out.mono ?_
  rintro en w1 ⟨rfl, hb⟩
  go_wp2_with fail
  go_ret
  exact ways_nil Hs.out (below_step Hba.out hb Hba.out.size)
 | true =>
  rw [hp] at HH
  have a3 := isPort_iff.1 hp
  dsimp only at a3
  have key : ∀ K : Int, p.kind e = K → (K = 1 ∧ (i = 0 ∨ i = 1)) ∨ (K = 2 ∧ (i = 0 ∨ i = 1 ∨ i = 2)) ∨ (K = 3 ∧ (i = 0 ∨ i = 1 ∨ i = 2 ∨ i = 3)) ∨ (K = 4 ∧ i = 0) := by
   intro K hK
   rw [hK] at a3
   unfold ends at a3
   omega
  have hk := key _ rfl
  clear key a3 hp
  rcases hk with ⟨hk, rfl | rfl⟩ | ⟨hk, rfl | rfl | rfl⟩ | ⟨hk, rfl | rfl | rfl | rfl⟩ | ⟨hk, rfl⟩
  ·have Hs := Lib.hid (show outs p e 0 = [⟨1, 0⟩] by unfold outs; rw [hk]; rfl)
   have HK2 := Lib.hid (show ∀ u : World, Below w.heap.size w u → Calls Try.prog 78 #[.agg #[.slice ae ne ce, .slice aj nj cj, .slice as_ ns cs, .slice al nl cl, .int .i64 p.top, .int .i64 p.brake, .int .i64 p.margin, .int .i64 p.throw, .bool p.hard], .int .i64 e] u fun en w' => en = .returned (.int .i64 1) ∧ Below u.heap.size u w' from fun u hb => by have := kindU_any u ⟨ae, ne, ce, aj, nj, cj, as_, ns, cs, al, nl, cl, lv⟩ p e (hP.out.below hb); dsimp only [PV.val] at this; rwa [hk] at this)
   clear hk
   go_enter Try.func92, Try.ntmps92
   go_wp2_with fail
   refine HH.out.mono ?_
   rintro en w1 ⟨rfl, hb⟩
   have HB1 := Lib.hid (HBa.out.below hb)
   have Hb := Lib.hid (below_step Hba.out hb Hba.out.size)
   clear hb c0 c1 c2 c3 c4 c5 c6 c7 c8
   obtain ⟨_, c0, c1, c2, c3, c4, c5, c6, c7, c8⟩ := HB1.out
   dsimp only at c0 c1 c2 c3
   go_wp2_with fail
   refine (HK2.out w1 Hb.out).mono ?_
   rintro en w2 ⟨rfl, hb2⟩
   have Hb2 := Lib.hid (below_step Hb.out hb2 Hb.out.size)
   clear hb2
   go_wp2_with fail
   refine name_body fun Wf hWf => ?_
   have hbf : Below w.heap.size w Wf := by rw [hWf]; have := Hb2.out.size; repeat (first | with_reducible exact Hb2.out | with_reducible refine Below.alloc ?_ (by first | omega | (simp; omega) | simp) _)
   go_ret
   exact ways_one Hs.out (by rw [hWf]; exact heap_new_at (by simp)) hbf
  ·have Hs := Lib.hid (show outs p e 1 = [⟨0, 0⟩] by unfold outs; rw [hk]; rfl)
   have HK2 := Lib.hid (show ∀ u : World, Below w.heap.size w u → Calls Try.prog 78 #[.agg #[.slice ae ne ce, .slice aj nj cj, .slice as_ ns cs, .slice al nl cl, .int .i64 p.top, .int .i64 p.brake, .int .i64 p.margin, .int .i64 p.throw, .bool p.hard], .int .i64 e] u fun en w' => en = .returned (.int .i64 1) ∧ Below u.heap.size u w' from fun u hb => by have := kindU_any u ⟨ae, ne, ce, aj, nj, cj, as_, ns, cs, al, nl, cl, lv⟩ p e (hP.out.below hb); dsimp only [PV.val] at this; rwa [hk] at this)
   clear hk
   go_enter Try.func92, Try.ntmps92
   go_wp2_with fail
   refine HH.out.mono ?_
   rintro en w1 ⟨rfl, hb⟩
   have HB1 := Lib.hid (HBa.out.below hb)
   have Hb := Lib.hid (below_step Hba.out hb Hba.out.size)
   clear hb c0 c1 c2 c3 c4 c5 c6 c7 c8
   obtain ⟨_, c0, c1, c2, c3, c4, c5, c6, c7, c8⟩ := HB1.out
   dsimp only at c0 c1 c2 c3
   go_wp2_with fail
   refine (HK2.out w1 Hb.out).mono ?_
   rintro en w2 ⟨rfl, hb2⟩
   have Hb2 := Lib.hid (below_step Hb.out hb2 Hb.out.size)
   clear hb2
   go_wp2_with fail
   refine name_body fun Wf hWf => ?_
   have hbf : Below w.heap.size w Wf := by rw [hWf]; have := Hb2.out.size; repeat (first | with_reducible exact Hb2.out | with_reducible refine Below.alloc ?_ (by first | omega | (simp; omega) | simp) _)
   go_ret
   exact ways_one Hs.out (by rw [hWf]; exact heap_new_at (by simp)) hbf
  ·have Hs := Lib.hid (show outs p e 0 = [⟨1, 1⟩, ⟨2, 2⟩] by unfold outs; rw [hk]; rfl)
   have HK2 := Lib.hid (show ∀ u : World, Below w.heap.size w u → Calls Try.prog 78 #[.agg #[.slice ae ne ce, .slice aj nj cj, .slice as_ ns cs, .slice al nl cl, .int .i64 p.top, .int .i64 p.brake, .int .i64 p.margin, .int .i64 p.throw, .bool p.hard], .int .i64 e] u fun en w' => en = .returned (.int .i64 2) ∧ Below u.heap.size u w' from fun u hb => by have := kindU_any u ⟨ae, ne, ce, aj, nj, cj, as_, ns, cs, al, nl, cl, lv⟩ p e (hP.out.below hb); dsimp only [PV.val] at this; rwa [hk] at this)
   clear hk
   go_enter Try.func92, Try.ntmps92
   go_wp2_with fail
   refine HH.out.mono ?_
   rintro en w1 ⟨rfl, hb⟩
   have HB1 := Lib.hid (HBa.out.below hb)
   have Hb := Lib.hid (below_step Hba.out hb Hba.out.size)
   clear hb c0 c1 c2 c3 c4 c5 c6 c7 c8
   obtain ⟨_, c0, c1, c2, c3, c4, c5, c6, c7, c8⟩ := HB1.out
   dsimp only at c0 c1 c2 c3
   go_wp2_with fail
   refine (HK2.out w1 Hb.out).mono ?_
   rintro en w2 ⟨rfl, hb2⟩
   have Hb2 := Lib.hid (below_step Hb.out hb2 Hb.out.size)
   clear hb2
   go_wp2_with fail
   refine name_body fun Wf hWf => ?_
   have hbf : Below w.heap.size w Wf := by rw [hWf]; have := Hb2.out.size; repeat (first | with_reducible exact Hb2.out | with_reducible refine Below.alloc ?_ (by first | omega | (simp; omega) | simp) _)
   go_ret
   exact ways_two Hs.out (by rw [hWf]; exact heap_new_at (by simp)) hbf
  ·have Hs := Lib.hid (show outs p e 1 = [⟨0, 1⟩] by unfold outs; rw [hk]; rfl)
   have HK2 := Lib.hid (show ∀ u : World, Below w.heap.size w u → Calls Try.prog 78 #[.agg #[.slice ae ne ce, .slice aj nj cj, .slice as_ ns cs, .slice al nl cl, .int .i64 p.top, .int .i64 p.brake, .int .i64 p.margin, .int .i64 p.throw, .bool p.hard], .int .i64 e] u fun en w' => en = .returned (.int .i64 2) ∧ Below u.heap.size u w' from fun u hb => by have := kindU_any u ⟨ae, ne, ce, aj, nj, cj, as_, ns, cs, al, nl, cl, lv⟩ p e (hP.out.below hb); dsimp only [PV.val] at this; rwa [hk] at this)
   clear hk
   go_enter Try.func92, Try.ntmps92
   go_wp2_with fail
   refine HH.out.mono ?_
   rintro en w1 ⟨rfl, hb⟩
   have HB1 := Lib.hid (HBa.out.below hb)
   have Hb := Lib.hid (below_step Hba.out hb Hba.out.size)
   clear hb c0 c1 c2 c3 c4 c5 c6 c7 c8
   obtain ⟨_, c0, c1, c2, c3, c4, c5, c6, c7, c8⟩ := HB1.out
   dsimp only at c0 c1 c2 c3
   go_wp2_with fail
   refine (HK2.out w1 Hb.out).mono ?_
   rintro en w2 ⟨rfl, hb2⟩
   have Hb2 := Lib.hid (below_step Hb.out hb2 Hb.out.size)
   clear hb2
   go_wp2_with fail
   refine name_body fun Wf hWf => ?_
   have hbf : Below w.heap.size w Wf := by rw [hWf]; have := Hb2.out.size; repeat (first | with_reducible exact Hb2.out | with_reducible refine Below.alloc ?_ (by first | omega | (simp; omega) | simp) _)
   go_ret
   exact ways_one Hs.out (by rw [hWf]; exact heap_new_at (by simp)) hbf
  ·have Hs := Lib.hid (show outs p e 2 = [⟨0, 2⟩] by unfold outs; rw [hk]; rfl)
   have HK2 := Lib.hid (show ∀ u : World, Below w.heap.size w u → Calls Try.prog 78 #[.agg #[.slice ae ne ce, .slice aj nj cj, .slice as_ ns cs, .slice al nl cl, .int .i64 p.top, .int .i64 p.brake, .int .i64 p.margin, .int .i64 p.throw, .bool p.hard], .int .i64 e] u fun en w' => en = .returned (.int .i64 2) ∧ Below u.heap.size u w' from fun u hb => by have := kindU_any u ⟨ae, ne, ce, aj, nj, cj, as_, ns, cs, al, nl, cl, lv⟩ p e (hP.out.below hb); dsimp only [PV.val] at this; rwa [hk] at this)
   clear hk
   go_enter Try.func92, Try.ntmps92
   go_wp2_with fail
   refine HH.out.mono ?_
   rintro en w1 ⟨rfl, hb⟩
   have HB1 := Lib.hid (HBa.out.below hb)
   have Hb := Lib.hid (below_step Hba.out hb Hba.out.size)
   clear hb c0 c1 c2 c3 c4 c5 c6 c7 c8
   obtain ⟨_, c0, c1, c2, c3, c4, c5, c6, c7, c8⟩ := HB1.out
   dsimp only at c0 c1 c2 c3
   go_wp2_with fail
   refine (HK2.out w1 Hb.out).mono ?_
   rintro en w2 ⟨rfl, hb2⟩
   have Hb2 := Lib.hid (below_step Hb.out hb2 Hb.out.size)
   clear hb2
   go_wp2_with fail
   refine name_body fun Wf hWf => ?_
   have hbf : Below w.heap.size w Wf := by rw [hWf]; have := Hb2.out.size; repeat (first | with_reducible exact Hb2.out | with_reducible refine Below.alloc ?_ (by first | omega | (simp; omega) | simp) _)
   go_ret
   exact ways_one Hs.out (by rw [hWf]; exact heap_new_at (by simp)) hbf
  ·have Hs := Lib.hid (show outs p e 0 = [⟨1, 0⟩] by unfold outs; rw [hk]; rfl)
   have HK2 := Lib.hid (show ∀ u : World, Below w.heap.size w u → Calls Try.prog 78 #[.agg #[.slice ae ne ce, .slice aj nj cj, .slice as_ ns cs, .slice al nl cl, .int .i64 p.top, .int .i64 p.brake, .int .i64 p.margin, .int .i64 p.throw, .bool p.hard], .int .i64 e] u fun en w' => en = .returned (.int .i64 3) ∧ Below u.heap.size u w' from fun u hb => by have := kindU_any u ⟨ae, ne, ce, aj, nj, cj, as_, ns, cs, al, nl, cl, lv⟩ p e (hP.out.below hb); dsimp only [PV.val] at this; rwa [hk] at this)
   clear hk
   go_enter Try.func92, Try.ntmps92
   go_wp2_with fail
   refine HH.out.mono ?_
   rintro en w1 ⟨rfl, hb⟩
   have HB1 := Lib.hid (HBa.out.below hb)
   have Hb := Lib.hid (below_step Hba.out hb Hba.out.size)
   clear hb c0 c1 c2 c3 c4 c5 c6 c7 c8
   obtain ⟨_, c0, c1, c2, c3, c4, c5, c6, c7, c8⟩ := HB1.out
   dsimp only at c0 c1 c2 c3
   go_wp2_with fail
   refine (HK2.out w1 Hb.out).mono ?_
   rintro en w2 ⟨rfl, hb2⟩
   have Hb2 := Lib.hid (below_step Hb.out hb2 Hb.out.size)
   clear hb2
   go_wp2_with fail
   refine name_body fun Wf hWf => ?_
   have hbf : Below w.heap.size w Wf := by rw [hWf]; have := Hb2.out.size; repeat (first | with_reducible exact Hb2.out | with_reducible refine Below.alloc ?_ (by first | omega | (simp; omega) | simp) _)
   go_ret
   exact ways_one Hs.out (by rw [hWf]; exact heap_new_at (by simp)) hbf
  ·have Hs := Lib.hid (show outs p e 1 = [⟨0, 0⟩] by unfold outs; rw [hk]; rfl)
   have HK2 := Lib.hid (show ∀ u : World, Below w.heap.size w u → Calls Try.prog 78 #[.agg #[.slice ae ne ce, .slice aj nj cj, .slice as_ ns cs, .slice al nl cl, .int .i64 p.top, .int .i64 p.brake, .int .i64 p.margin, .int .i64 p.throw, .bool p.hard], .int .i64 e] u fun en w' => en = .returned (.int .i64 3) ∧ Below u.heap.size u w' from fun u hb => by have := kindU_any u ⟨ae, ne, ce, aj, nj, cj, as_, ns, cs, al, nl, cl, lv⟩ p e (hP.out.below hb); dsimp only [PV.val] at this; rwa [hk] at this)
   clear hk
   go_enter Try.func92, Try.ntmps92
   go_wp2_with fail
   refine HH.out.mono ?_
   rintro en w1 ⟨rfl, hb⟩
   have HB1 := Lib.hid (HBa.out.below hb)
   have Hb := Lib.hid (below_step Hba.out hb Hba.out.size)
   clear hb c0 c1 c2 c3 c4 c5 c6 c7 c8
   obtain ⟨_, c0, c1, c2, c3, c4, c5, c6, c7, c8⟩ := HB1.out
   dsimp only at c0 c1 c2 c3
   go_wp2_with fail
   refine (HK2.out w1 Hb.out).mono ?_
   rintro en w2 ⟨rfl, hb2⟩
   have Hb2 := Lib.hid (below_step Hb.out hb2 Hb.out.size)
   clear hb2
   go_wp2_with fail
   refine name_body fun Wf hWf => ?_
   have hbf : Below w.heap.size w Wf := by rw [hWf]; have := Hb2.out.size; repeat (first | with_reducible exact Hb2.out | with_reducible refine Below.alloc ?_ (by first | omega | (simp; omega) | simp) _)
   go_ret
   exact ways_one Hs.out (by rw [hWf]; exact heap_new_at (by simp)) hbf
  ·have Hs := Lib.hid (show outs p e 2 = [⟨3, 0⟩] by unfold outs; rw [hk]; rfl)
   have HK2 := Lib.hid (show ∀ u : World, Below w.heap.size w u → Calls Try.prog 78 #[.agg #[.slice ae ne ce, .slice aj nj cj, .slice as_ ns cs, .slice al nl cl, .int .i64 p.top, .int .i64 p.brake, .int .i64 p.margin, .int .i64 p.throw, .bool p.hard], .int .i64 e] u fun en w' => en = .returned (.int .i64 3) ∧ Below u.heap.size u w' from fun u hb => by have := kindU_any u ⟨ae, ne, ce, aj, nj, cj, as_, ns, cs, al, nl, cl, lv⟩ p e (hP.out.below hb); dsimp only [PV.val] at this; rwa [hk] at this)
   clear hk
   go_enter Try.func92, Try.ntmps92
   go_wp2_with fail
   refine HH.out.mono ?_
   rintro en w1 ⟨rfl, hb⟩
   have HB1 := Lib.hid (HBa.out.below hb)
   have Hb := Lib.hid (below_step Hba.out hb Hba.out.size)
   clear hb c0 c1 c2 c3 c4 c5 c6 c7 c8
   obtain ⟨_, c0, c1, c2, c3, c4, c5, c6, c7, c8⟩ := HB1.out
   dsimp only at c0 c1 c2 c3
   go_wp2_with fail
   refine (HK2.out w1 Hb.out).mono ?_
   rintro en w2 ⟨rfl, hb2⟩
   have Hb2 := Lib.hid (below_step Hb.out hb2 Hb.out.size)
   clear hb2
   go_wp2_with fail
   refine name_body fun Wf hWf => ?_
   have hbf : Below w.heap.size w Wf := by rw [hWf]; have := Hb2.out.size; repeat (first | with_reducible exact Hb2.out | with_reducible refine Below.alloc ?_ (by first | omega | (simp; omega) | simp) _)
   go_ret
   exact ways_one Hs.out (by rw [hWf]; exact heap_new_at (by simp)) hbf
  ·have Hs := Lib.hid (show outs p e 3 = [⟨2, 0⟩] by unfold outs; rw [hk]; rfl)
   have HK2 := Lib.hid (show ∀ u : World, Below w.heap.size w u → Calls Try.prog 78 #[.agg #[.slice ae ne ce, .slice aj nj cj, .slice as_ ns cs, .slice al nl cl, .int .i64 p.top, .int .i64 p.brake, .int .i64 p.margin, .int .i64 p.throw, .bool p.hard], .int .i64 e] u fun en w' => en = .returned (.int .i64 3) ∧ Below u.heap.size u w' from fun u hb => by have := kindU_any u ⟨ae, ne, ce, aj, nj, cj, as_, ns, cs, al, nl, cl, lv⟩ p e (hP.out.below hb); dsimp only [PV.val] at this; rwa [hk] at this)
   clear hk
   go_enter Try.func92, Try.ntmps92
   go_wp2_with fail
   refine HH.out.mono ?_
   rintro en w1 ⟨rfl, hb⟩
   have HB1 := Lib.hid (HBa.out.below hb)
   have Hb := Lib.hid (below_step Hba.out hb Hba.out.size)
   clear hb c0 c1 c2 c3 c4 c5 c6 c7 c8
   obtain ⟨_, c0, c1, c2, c3, c4, c5, c6, c7, c8⟩ := HB1.out
   dsimp only at c0 c1 c2 c3
   go_wp2_with fail
   refine (HK2.out w1 Hb.out).mono ?_
   rintro en w2 ⟨rfl, hb2⟩
   have Hb2 := Lib.hid (below_step Hb.out hb2 Hb.out.size)
   clear hb2
   go_wp2_with fail
   refine name_body fun Wf hWf => ?_
   have hbf : Below w.heap.size w Wf := by rw [hWf]; have := Hb2.out.size; repeat (first | with_reducible exact Hb2.out | with_reducible refine Below.alloc ?_ (by first | omega | (simp; omega) | simp) _)
   go_ret
   exact ways_one Hs.out (by rw [hWf]; exact heap_new_at (by simp)) hbf
  ·have Hs := Lib.hid (show outs p e 0 = [] by unfold outs; rw [hk]; rfl)
   have HK2 := Lib.hid (show ∀ u : World, Below w.heap.size w u → Calls Try.prog 78 #[.agg #[.slice ae ne ce, .slice aj nj cj, .slice as_ ns cs, .slice al nl cl, .int .i64 p.top, .int .i64 p.brake, .int .i64 p.margin, .int .i64 p.throw, .bool p.hard], .int .i64 e] u fun en w' => en = .returned (.int .i64 4) ∧ Below u.heap.size u w' from fun u hb => by have := kindU_any u ⟨ae, ne, ce, aj, nj, cj, as_, ns, cs, al, nl, cl, lv⟩ p e (hP.out.below hb); dsimp only [PV.val] at this; rwa [hk] at this)
   clear hk
   go_enter Try.func92, Try.ntmps92
   go_wp2_with fail
   refine HH.out.mono ?_
   rintro en w1 ⟨rfl, hb⟩
   have HB1 := Lib.hid (HBa.out.below hb)
   have Hb := Lib.hid (below_step Hba.out hb Hba.out.size)
   clear hb c0 c1 c2 c3 c4 c5 c6 c7 c8
   obtain ⟨_, c0, c1, c2, c3, c4, c5, c6, c7, c8⟩ := HB1.out
   dsimp only at c0 c1 c2 c3
   go_wp2_with fail
   refine (HK2.out w1 Hb.out).mono ?_
   rintro en w2 ⟨rfl, hb2⟩
   have Hb2 := Lib.hid (below_step Hb.out hb2 Hb.out.size)
   clear hb2
   go_wp2_with fail
   go_ret
   exact ways_nil Hs.out Hb2.out
end Go.Proofs.Ytnkpiijljfjmkaa

/- Walks of Through and From (net.Net and semaphoreref6), semaphoreref6.At and LineOf. Condition: the receiver is a net; the plan is read. -/
set_option maxRecDepth 1000000
namespace Go.Proofs.Ytnkpiijljfjmkaa
open Go.ChangeShapes Go.WideShapes Go.ChangeAt Go.RowKit Go.Sort

theorem opti_none {x : Option Int} (h : x = none) : Ending.returned (.tuple #[.int .i64 0, .bool false]) = .returned (.tuple #[.int .i64 ((x).getD 0), .bool (x).isSome]) := by rw [h]; rfl
theorem opti_some {x : Option Int} {y : Int} (h : x = some y) : Ending.returned (.tuple #[.int .i64 y, .bool true]) = .returned (.tuple #[.int .i64 ((x).getD 0), .bool (x).isSome]) := by rw [h]; rfl
theorem wayGo_yes {pos : Int} {l : List Way} {j : Nat} {x : Way} (h : l[j]? = some x) (hp : x.pos = 0 ∨ x.pos = pos) : wayGo pos (l.drop j) = some x.out := by
 rw [drop_cons h, wayGo, if_pos hp]
theorem wayGo_no {pos : Int} {l : List Way} {j : Nat} {x : Way} (h : l[j]? = some x) (hp : ¬ (x.pos = 0 ∨ x.pos = pos)) : wayGo pos (l.drop j) = wayGo pos (l.drop (j + 1)) := by
 rw [drop_cons h, wayGo, if_neg hp]
set_option maxHeartbeats 400000 in
theorem refthrough_any (w : World) (pv : PV) (p : Plan) (h : PlanAt w pv p) (e i pos : Int) :
  Calls Try.prog 99 #[pv.val p, .int .i64 e, .int .i64 i, .int .i64 pos] w fun en w' => en = .returned (.tuple #[.int .i64 ((through p e i pos).getD 0), .bool (through p e i pos).isSome]) ∧ Below w.heap.size w w' := by
 obtain ⟨ae, ne, ce, aj, nj, cj, as_, ns, cs, al, nl, cl, lv⟩ := pv
 have Hba := Lib.hid (below_new w (.cells #[.slice ae ne ce, .slice aj nj cj, .slice as_ ns cs, .slice al nl cl, .int .i64 p.top, .int .i64 p.brake, .int .i64 p.margin, .int .i64 p.throw, .bool p.hard] 27))
 have HBa := Lib.hid (pbox_new w ⟨ae, ne, ce, aj, nj, cj, as_, ns, cs, al, nl, cl, lv⟩ p)
 have H := Lib.hid (refouts_any (w.alloc (.cells #[.slice ae ne ce, .slice aj nj cj, .slice as_ ns cs, .slice al nl cl, .int .i64 p.top, .int .i64 p.brake, .int .i64 p.margin, .int .i64 p.throw, .bool p.hard] 27)) ⟨ae, ne, ce, aj, nj, cj, as_, ns, cs, al, nl, cl, lv⟩ p (h.below Hba.out) e i)
 clear h
 dsimp only [PV.val] at H ⊢
 obtain ⟨_, c0, c1, c2, c3, c4, c5, c6, c7, c8⟩ := HBa.out
 dsimp only at c0 c1 c2 c3
 go_enter Try.func99, Try.ntmps99
 go_wp2_with fail
 refine H.out.mono ?_
 rintro en w1 ⟨a, n, c, rfl, hr, hn, hb⟩
 have Hr := Lib.hid hr
 have Hb := Lib.hid (below_step Hba.out hb Hba.out.size)
 have hl := Lib.hid hr.len
 clear hr hb c0 c1 c2 c3 c4 c5 c6 c7 c8
 go_wp2_with fail
 go_loopg [11] n (fun k i' wr => ∃ j : Nat, j + k = n ∧ i' = .int .i64 j ∧ Hid (wayGo pos ((outs p e i).drop j) = through p e i pos) ∧ wr = w1)
 case atStart => exact ⟨0, by omega, rfl, rfl, rfl⟩
 case round =>
  obtain ⟨j, hk, rfl, hw, rfl⟩ := hrel
  have Hk := Lib.hid hk; clear hk
  by_cases hlt : j < n
  ·obtain ⟨x, hx⟩ := get_some hl.out hlt
   obtain ⟨pb, off, rfl, hpb, g1, g2⟩ := Hr.out.way hx
   have Hx := Lib.hid hx; clear hx
   by_cases p0 : x.pos = 0
   ·have Hs := Lib.hid (show through p e i pos = some x.out by rw [← hw.out]; exact wayGo_yes Hx.out (.inl p0))
    rw [p0] at g2
    clear p0
    go_wp2_with fail
    go_ret2
    exact ⟨opti_some Hs.out, Hb.out⟩
   ·have q0 : (x.pos == 0) = false := by simpa using p0
    by_cases p1 : x.pos = pos
    ·have Hs := Lib.hid (show through p e i pos = some x.out by rw [← hw.out]; exact wayGo_yes Hx.out (.inr p1))
     have q1 : (x.pos == pos) = true := by simpa using p1
     clear p0 p1
     go_wp2_with fail
     go_ret2
     exact ⟨opti_some Hs.out, Hb.out⟩
    ·have Hs := Lib.hid (show wayGo pos ((outs p e i).drop (j + 1)) = through p e i pos by rw [← hw.out]; exact (wayGo_no Hx.out (by intro q; rcases q with q | q; exact p0 q; exact p1 q)).symm)
     have q1 : (x.pos == pos) = false := by simpa using p1
     clear p0 p1
     go_wp2_with fail
     go_roundg (gk - 1)
     case measure => have := Hk.out; omega
     case rel => exact ⟨j + 1, by have := Hk.out; omega, by go_num, Hs.out, rfl⟩
  ·have Hs := Lib.hid (show through p e i pos = none by rw [← hw.out, drop_end hl.out (by omega)]; rfl)
   go_wp2_with fail
   go_ret2
   exact ⟨opti_none Hs.out, Hb.out⟩
theorem from_step {p : Plan} {e out pos : Int} {k : Nat} {i : Int} {r : Option Int} (h : fromGo p e out pos (k + 1) i = r) (hn : through p e i pos ≠ some out) : fromGo p e out pos k (i + 1) = r := by
 rw [fromGo, if_neg hn] at h; exact h
theorem from_hit {p : Plan} {e out pos : Int} {k : Nat} {i : Int} {r : Option Int} (h : fromGo p e out pos (k + 1) i = r) (hn : through p e i pos = some out) : r = some i := by
 rw [fromGo, if_pos hn] at h; exact h.symm
set_option maxHeartbeats 400000 in
theorem reffrom_any (w : World) (pv : PV) (p : Plan) (h : PlanAt w pv p) (e out pos : Int) :
  Calls Try.prog 95 #[pv.val p, .int .i64 e, .int .i64 out, .int .i64 pos] w fun en w' => en = .returned (.tuple #[.int .i64 ((fromRef p e out pos).getD 0), .bool (fromRef p e out pos).isSome]) ∧ Below w.heap.size w w' := by
 obtain ⟨ae, ne, ce, aj, nj, cj, as_, ns, cs, al, nl, cl, lv⟩ := pv
 have Hba := Lib.hid (below_new w (.cells #[.slice ae ne ce, .slice aj nj cj, .slice as_ ns cs, .slice al nl cl, .int .i64 p.top, .int .i64 p.brake, .int .i64 p.margin, .int .i64 p.throw, .bool p.hard] 27))
 have HBa := Lib.hid (pbox_new w ⟨ae, ne, ce, aj, nj, cj, as_, ns, cs, al, nl, cl, lv⟩ p)
 have hP := Lib.hid h
 have he0 := ends_nonneg (p.kind e)
 obtain ⟨n, hn⟩ : ∃ n : Nat, (n : Int) = ends (p.kind e) := ⟨(ends (p.kind e)).toNat, by omega⟩
 have hn4 : n ≤ 4 := by omega
 have Hn := Lib.hid hn
 have Hs0 := Lib.hid (show fromGo p e out pos n 0 = fromRef p e out pos by unfold fromRef; rw [← hn]; rfl)
 clear h hn he0
 dsimp only [PV.val]
 go_enter Try.func95, Try.ntmps95
 go_wp2_with fail
 go_loopg [10] n (fun k i' wr => ∃ j : Nat, j + k = n ∧ i' = .int .i64 j ∧ Hid (fromGo p e out pos k (j : Int) = fromRef p e out pos) ∧ PBox wr w.heap.size ⟨ae, ne, ce, aj, nj, cj, as_, ns, cs, al, nl, cl, lv⟩ p ∧ Below w.heap.size w wr)
 case atStart => exact ⟨0, by omega, rfl, Hs0, HBa.out, Hba.out⟩
 case round =>
  clear HBa Hba Hs0
  obtain ⟨j, hk, rfl, hw, hB, hb⟩ := hrel
  have Hk := Lib.hid hk; clear hk
  have HB := Lib.hid hB; clear hB
  have Hb := Lib.hid hb; clear hb
  have HK := Lib.hid (kindU_any wr ⟨ae, ne, ce, aj, nj, cj, as_, ns, cs, al, nl, cl, lv⟩ p e (hP.out.below Hb.out))
  dsimp only [PV.val] at HK
  have HE := Lib.hid (show ∀ u : World, Calls Try.prog 76 #[.int .i64 (p.kind e)] u fun en w' => en = .returned (.int .i64 n) ∧ u = w' from fun u => by rw [Hn.out]; exact refends_any _ u)
  obtain ⟨_, c0, c1, c2, c3, c4, c5, c6, c7, c8⟩ := HB.out
  dsimp only at c0 c1 c2 c3
  cases gk with
  | zero =>
   have Hs := Lib.hid (show fromRef p e out pos = none from hw.out.symm)
   have Hj := Hk.out
   go_wp2_with fail
   refine HK.out.mono ?_
   rintro en w1 ⟨rfl, hb1⟩
   go_wp2_with fail
   refine (HE.out w1).mono ?_
   rintro en w2 ⟨rfl, rfl⟩
   go_wp2_with fail
   go_ret2
   exact ⟨opti_none Hs.out, below_step Hb.out hb1 Hb.out.size⟩
  | succ k =>
   have hlt : j < n := by have := Hk.out; omega
   go_wp2_with fail
   refine HK.out.mono ?_
   rintro en w1 ⟨rfl, hb1⟩
   have Hb1 := Lib.hid (below_step Hb.out hb1 Hb.out.size)
   have HB1 := Lib.hid (HB.out.below hb1)
   clear hb1 c0 c1 c2 c3 c4 c5 c6 c7 c8
   go_wp2_with fail
   refine (HE.out w1).mono ?_
   rintro en w2 ⟨rfl, rfl⟩
   have HT := Lib.hid (refthrough_any w1 ⟨ae, ne, ce, aj, nj, cj, as_, ns, cs, al, nl, cl, lv⟩ p (hP.out.below Hb1.out) e (j : Int) pos)
   dsimp only [PV.val] at HT
   obtain ⟨_, c0, c1, c2, c3, c4, c5, c6, c7, c8⟩ := HB1.out
   dsimp only at c0 c1 c2 c3
   cases ht : through p e (j : Int) pos with
   | none =>
    have Hs := Lib.hid (from_step hw.out (by rw [ht]; simp))
    rw [ht] at HT
    clear ht
    go_wp2_with fail
    refine HT.out.mono ?_
    rintro en w2 ⟨rfl, hb2⟩
    have Hb2 := Lib.hid (below_step Hb1.out hb2 Hb1.out.size)
    have HB2 := Lib.hid (HB1.out.below hb2)
    clear hb2 c0 c1 c2 c3 c4 c5 c6 c7 c8
    go_wp2_with fail
    go_roundg k
    case measure => omega
    case rel => exact ⟨j + 1, by have := Hk.out; omega, by go_num, Hs.out, HB2.out, Hb2.out⟩
   | some o =>
    rw [ht] at HT
    dsimp only [Option.getD_some, Option.isSome_some] at HT
    by_cases ho : o = out
    ·have Hs := Lib.hid (from_hit hw.out (by rw [ht, ho]))
     have q1 : (o == out) = true := by simpa using ho
     clear ht ho
     go_wp2_with fail
     refine HT.out.mono ?_
     rintro en w2 ⟨rfl, hb2⟩
     have Hb2 := Lib.hid (below_step Hb1.out hb2 Hb1.out.size)
     clear hb2 c0 c1 c2 c3 c4 c5 c6 c7 c8
     go_wp2_with fail
     go_ret2
     exact ⟨opti_some Hs.out, Hb2.out⟩
    ·have Hs := Lib.hid (from_step hw.out (by rw [ht]; simpa using ho))
     have q1 : (o == out) = false := by simpa using ho
     clear ht ho
     go_wp2_with fail
     refine HT.out.mono ?_
     rintro en w2 ⟨rfl, hb2⟩
     have Hb2 := Lib.hid (below_step Hb1.out hb2 Hb1.out.size)
     have HB2 := Lib.hid (HB1.out.below hb2)
     clear hb2 c0 c1 c2 c3 c4 c5 c6 c7 c8
     go_wp2_with fail
     go_roundg k
     case measure => omega
     case rel => exact ⟨j + 1, by have := Hk.out; omega, by go_num, Hs.out, HB2.out, Hb2.out⟩
theorem refat_any (w : World) (pv : PV) (p : Plan) (h : PlanAt w pv p) (s : Int) :
  Calls Try.prog 82 #[pv.val p, .int .i64 s] w fun en w' => en = .returned (.tuple #[.agg #[.int .i64 ((sigAt p s).getD zeroPort).e, .int .i64 ((sigAt p s).getD zeroPort).n], .bool (sigAt p s).isSome]) ∧ Below w.heap.size w w' := by
 obtain ⟨ae, ne, ce, aj, nj, cj, as_, ns, cs, al, nl, cl, lv⟩ := pv
 have HBa := Lib.hid (pbox_new w ⟨ae, ne, ce, aj, nj, cj, as_, ns, cs, al, nl, cl, lv⟩ p)
 have he : Sigs w as_ ns p.sigs := h.s
 have hl : p.sigs.length = ns := he.len
 have hbd := he.bnd
 clear h
 dsimp only [PV.val]
 by_cases a1 : s < 0
 ·have Hs := Lib.hid (sigAt_none (p := p) (s := s) (.inl a1))
  clear he hl
  go_enter Try.func82, Try.ntmps82
  go_wp2_with fail
  exact bodyPost_ret (v := .tuple #[.agg #[.int .i64 0, .int .i64 0], .bool false]) (by simp [results, Try.results82, go_sem]) rfl ⟨opt_none Hs.out, (by with_reducible repeat (first | exact Below.refl _ _ | assumption | exact below_new _ _ | apply below_drewN | apply Below.drew | refine below_set (Nat.le_refl _) ?_ _ | (refine below_set ?_ ?_ _; omega) | refine Below.alloc ?_ (by first | omega | (simp; omega) | simp) _))⟩
 by_cases a2 : (ns : Int) ≤ s
 ·have Hs := Lib.hid (sigAt_none (p := p) (s := s) (.inr (by omega)))
  clear he hl
  go_enter Try.func82, Try.ntmps82
  go_wp2_with fail
  exact bodyPost_ret (v := .tuple #[.agg #[.int .i64 0, .int .i64 0], .bool false]) (by simp [results, Try.results82, go_sem]) rfl ⟨opt_none Hs.out, (by with_reducible repeat (first | exact Below.refl _ _ | assumption | exact below_new _ _ | apply below_drewN | apply Below.drew | refine below_set (Nat.le_refl _) ?_ _ | (refine below_set ?_ ?_ _; omega) | refine Below.alloc ?_ (by first | omega | (simp; omega) | simp) _))⟩
 have b1 : 0 ≤ s := by omega
 have b2 : s < ns := by omega
 obtain ⟨y, hy⟩ := get_some hl (show s.toNat < ns by omega)
 obtain ⟨g, off, ha, hb, g1, g2, g3, g4⟩ := he.sig hy
 have Hs := Lib.hid (show sigAt p s = some y.at_ by unfold sigAt; rw [if_pos b1, hy]; rfl)
 have Hy := Lib.hid hy; clear hy hl a1 a2 he
 rw [ha]
 go_enter Try.func82, Try.ntmps82
 go_wp2_with fail
 exact bodyPost_ret (v := .tuple #[.agg #[.int .i64 y.at_.e, .int .i64 y.at_.n], .bool true]) (by simp [results, Try.results82, go_sem]) rfl ⟨opt_some Hs.out, (by with_reducible repeat (first | exact Below.refl _ _ | assumption | exact below_new _ _ | apply below_drewN | apply Below.drew | refine below_set (Nat.le_refl _) ?_ _ | (refine below_set ?_ ?_ _; omega) | refine Below.alloc ?_ (by first | omega | (simp; omega) | simp) _))⟩
end Go.Proofs.Ytnkpiijljfjmkaa

/- Walks of the methods of net.Net that look into its maps: Next, Reads, Line, Lead. Condition: the receiver is a net; ports and numbers are ints. -/
set_option maxRecDepth 1000000
namespace Go.Proofs.Ytnkpiijljfjmkaa
open Go.ChangeShapes Go.WideShapes Go.ChangeAt Go.RowKit Go.Sort

def linePair (x : Option (Nat × Nat)) : Int × Int := match x with | some q => ((q.1 : Int), (q.2 : Int)) | none => (-1, -1)
theorem line_ret {a b : Int} {x : Option (Nat × Nat)} (h : linePair x = (a, b)) : Ending.returned (.tuple #[.int .i64 a, .int .i64 b]) = .returned (.tuple #[.int .i64 (linePair x).1, .int .i64 (linePair x).2]) := by rw [h]
theorem nline_any (w : World) (b : Nat) (p : Plan) (h : NetAt w b p) (e : Int) (he : inI e) :
  Calls Try.prog 30 #[.pointer (some ⟨b, 0, none⟩), .int .i64 e] w fun en w' => en = .returned (.tuple #[.int .i64 (linePair (lineOf p e)).1, .int .i64 (linePair (lineOf p e)).2]) ∧ Below w.heap.size w w' := by
 obtain ⟨v, bn, br, bl, bd, h⟩ := h
 have c11 := h.blk.cell11
 have hlt := h.blk.lt
 cases hn : lineOf p e with
 | none =>
  have Hs := Lib.hid (show linePair (lineOf p e) = (-1, -1) by rw [hn]; rfl)
  rw [← hn]
  have R1 := (h.line.miss hn keyed_int Try.underlying98 zero_pair (key_int he) _ (Below.refl _ _)).2
  change (Instr.lookup 98 (.map (some bl)) (.int .i64 e) true).run Try.prog _ = .ok (.tuple #[.agg #[.int .i64 0, .int .i64 0], .bool false]) _ at R1
  clear h hn he
  go_enter Try.func30, Try.ntmps30
  go_wp2_with fail
  go_ret2
  exact ⟨line_ret Hs.out, (by with_reducible repeat (first | exact Below.refl _ _ | assumption | exact below_new _ _ | apply below_drewN | apply Below.drew | refine below_set (Nat.le_refl _) ?_ _ | (refine below_set ?_ ?_ _; omega) | refine Below.alloc ?_ (by first | omega | (simp; omega) | simp) _))⟩
 | some q =>
  have Hs := Lib.hid (show linePair (lineOf p e) = ((q.1 : Int), (q.2 : Int)) by rw [hn]; rfl)
  rw [← hn]
  have R1 := (h.line.hit hn keyed_int Try.underlying98 zero_pair (key_int he) _ (Below.refl _ _)).2
  change (Instr.lookup 98 (.map (some bl)) (.int .i64 e) true).run Try.prog _ = .ok (.tuple #[.agg #[.int .i64 (q.1 : Int), .int .i64 (q.2 : Int)], .bool true]) _ at R1
  clear h hn he
  go_enter Try.func30, Try.ntmps30
  go_wp2_with fail
  go_quiet (fail)
  go_wp2_with fail
  go_ret2
  exact ⟨line_ret Hs.out, (by with_reducible repeat (first | exact Below.refl _ _ | assumption | exact below_new _ _ | apply below_drewN | apply Below.drew | refine below_set (Nat.le_refl _) ?_ _ | (refine below_set ?_ ?_ _; omega) | refine Below.alloc ?_ (by first | omega | (simp; omega) | simp) _))⟩
theorem nlead_any (w : World) (b : Nat) (p : Plan) (h : NetAt w b p) (e i : Int) (he : inI e) :
  Calls Try.prog 31 #[.pointer (some ⟨b, 0, none⟩), .int .i64 e, .int .i64 i] w fun en w' => en = .returned (.int .i64 (lead p e i)) ∧ w = w' := by
 obtain ⟨v, bn, br, bl, bd, h⟩ := h
 have c12 := h.blk.cell12
 have hlt := h.blk.lt
 cases hn : leadIn (nextOf p) p.lines e with
 | none =>
  have Hs := Lib.hid (show lead p e i = 0 by unfold lead; rw [hn])
  have R1 := (h.lead.miss hn keyed_int Try.underlying99 zero_int' (key_int he) _ (Below.refl _ _)).2
  change (Instr.lookup 99 (.map (some bd)) (.int .i64 e) true).run Try.prog _ = .ok (.tuple #[.int .i64 0, .bool false]) _ at R1
  clear h hn he
  go_enter Try.func31, Try.ntmps31
  go_wp2_with fail
  go_ret
  exact ⟨ret_int Hs.out.symm, rfl⟩
 | some u =>
  have Hs := Lib.hid (show lead p e i = if i < 0 ∨ 1 < i then 0 else if u = i then 1 else 2 by unfold lead; rw [hn])
  have R1 := (h.lead.hit hn keyed_int Try.underlying99 zero_int' (key_int he) _ (Below.refl _ _)).2
  change (Instr.lookup 99 (.map (some bd)) (.int .i64 e) true).run Try.prog _ = .ok (.tuple #[.int .i64 u, .bool true]) _ at R1
  clear h hn he
  by_cases i0 : i < 0
  ·go_enter Try.func31, Try.ntmps31
   go_wp2_with fail
   go_ret
   exact ⟨ret_int (by rw [Hs.out, if_pos (.inl i0)]), rfl⟩
  ·have i1 : 0 ≤ i := by omega
   by_cases i2 : 1 < i
   ·go_enter Try.func31, Try.ntmps31
    go_wp2_with fail
    go_ret
    exact ⟨ret_int (by rw [Hs.out, if_pos (.inr i2)]), rfl⟩
   ·have i3 : i ≤ 1 := by omega
    by_cases i4 : u = i
    ·have q1 : (u == i) = true := by simpa using i4
     have Hs2 := Lib.hid (show lead p e i = 1 by rw [Hs.out, if_neg (by omega), if_pos i4])
     clear i4
     go_enter Try.func31, Try.ntmps31
     go_wp2_with fail
     go_ret
     exact ⟨ret_int Hs2.out.symm, rfl⟩
    ·have q1 : (u == i) = false := by simpa using i4
     have Hs2 := Lib.hid (show lead p e i = 2 by rw [Hs.out, if_neg (by omega), if_neg i4])
     clear i4
     go_enter Try.func31, Try.ntmps31
     go_wp2_with fail
     go_ret
     exact ⟨ret_int Hs2.out.symm, rfl⟩
end Go.Proofs.Ytnkpiijljfjmkaa

/- Walks of semaphoreref6.LineOf and Lead; contracts of net.Net's methods that end in Below. Condition: the plan is read (Lead: and is valid). -/
set_option maxRecDepth 1000000
namespace Go.Proofs.Ytnkpiijljfjmkaa
open Go.ChangeShapes Go.WideShapes Go.ChangeAt Go.RowKit Go.Sort

theorem line_hit {j k : Nat} {L : List Line} {l : Line} {e : Int} (hl : L[j]? = some l) (h : posIn 0 l.elems e = some k) : lineFrom j (L.drop j) e = some (j, k) := by
 rw [drop_cons hl, lineFrom, h]
theorem line_miss {j : Nat} {L : List Line} {l : Line} {e : Int} (hl : L[j]? = some l) (h : posIn 0 l.elems e = none) : lineFrom j (L.drop j) e = lineFrom (j + 1) (L.drop (j + 1)) e := by
 rw [drop_cons hl, lineFrom, h]
theorem pos_hit {j : Nat} {L : List Int} {x e : Int} (hl : L[j]? = some x) (h : x = e) : posIn j (L.drop j) e = some j := by
 rw [drop_cons hl, posIn, if_pos h]
theorem pos_miss {j : Nat} {L : List Int} {x e : Int} (hl : L[j]? = some x) (h : x ≠ e) : posIn j (L.drop j) e = posIn (j + 1) (L.drop (j + 1)) e := by
 rw [drop_cons hl, posIn, if_neg h]
set_option maxHeartbeats 1000000 in
theorem reflineof_any (w : World) (pv : PV) (p : Plan) (h : PlanAt w pv p) (e : Int) :
  Calls Try.prog 46 #[pv.val p, .int .i64 e] w fun en w' => en = .returned (.tuple #[.int .i64 (linePair (lineOf p e)).1, .int .i64 (linePair (lineOf p e)).2]) ∧ Below w.heap.size w w' := by
 obtain ⟨ae, ne, ce, aj, nj, cj, as_, ns, cs, al, nl, cl, lv⟩ := pv
 have hP := Lib.hid h
 have Hba := Lib.hid (below_new w (.cells #[.slice ae ne ce, .slice aj nj cj, .slice as_ ns cs, .slice al nl cl, .int .i64 p.top, .int .i64 p.brake, .int .i64 p.margin, .int .i64 p.throw, .bool p.hard] 27))
 have HBa := Lib.hid (pbox_new w ⟨ae, ne, ce, aj, nj, cj, as_, ns, cs, al, nl, cl, lv⟩ p)
 have ll := Lib.hid (show lv.length = nl from h.l.row.len)
 have hbd := h.l.row.bnd
 dsimp only at hbd
 clear h
 dsimp only [PV.val]
 obtain ⟨_, c0, c1, c2, c3, c4, c5, c6, c7, c8⟩ := HBa.out
 dsimp only at c0 c1 c2 c3
 go_enter Try.func46, Try.ntmps46
 go_wp2_with fail
 go_loopg [6] nl (fun k i wr => ∃ j : Nat, j + k = nl ∧ i = .int .i64 j ∧ Hid (lineFrom j (p.lines.drop j) e = lineOf p e) ∧ wr = w.alloc (.cells #[.slice ae ne ce, .slice aj nj cj, .slice as_ ns cs, .slice al nl cl, .int .i64 p.top, .int .i64 p.brake, .int .i64 p.margin, .int .i64 p.throw, .bool p.hard] 27))
 case atStart => exact ⟨0, by omega, rfl, Lib.hid rfl, rfl⟩
 case round =>
  obtain ⟨j, hk, rfl, hw, rfl⟩ := hrel
  have Hk := Lib.hid hk; clear hk
  by_cases hlt : j < nl
  ·obtain ⟨⟨nm, ya, yn, yc, yel⟩, hy⟩ := get_some ll.out hlt
   obtain ⟨pb, off, rfl, hpb, g1, g2⟩ := hP.out.l.row.lineB Hba.out hy
   have Hy := Lib.hid hy
   have HyL := Lib.hid (show p.lines[j]? = some ⟨nm, yel⟩ by rw [hP.out.lp, List.getElem?_map, hy]; rfl)
   have Hints := Lib.hid (show Ints w ya yn yel from hP.out.l.ints _ (List.mem_of_getElem? hy))
   have ly := Lib.hid Hints.out.len
   have hbn := Hints.out.bnd
   dsimp only at g1 g2
   clear hy
   go_wp2_with fail
   go_loopg [7] yn (fun k i wr => ∃ j2 : Nat, j2 + k = yn ∧ i = .int .i64 j2 ∧ Hid (posIn j2 (yel.drop j2) e = posIn 0 yel e) ∧ wr = w.alloc (.cells #[.slice ae ne ce, .slice aj nj cj, .slice as_ ns cs, .slice (some ⟨pb, off, none⟩) nl cl, .int .i64 p.top, .int .i64 p.brake, .int .i64 p.margin, .int .i64 p.throw, .bool p.hard] 27))
   case atStart => exact ⟨0, by omega, rfl, Lib.hid rfl, rfl⟩
   case round =>
    obtain ⟨j2, hk2, rfl, hw2, rfl⟩ := hrel
    have Hk2 := Lib.hid hk2; clear hk2
    by_cases hlt2 : j2 < yn
    ·obtain ⟨x, hx⟩ := get_some ly.out hlt2
     obtain ⟨pa, offa, rfl, hpa, ge⟩ := Hints.out.int hx
     have ge := (Hba.out.cell (p := ⟨pa, offa + j2, none⟩) hpa).trans ge
     by_cases hxe : x = e
     ·have q1 : (x == e) = true := by simpa using hxe
      have Hs := Lib.hid (show linePair (lineOf p e) = ((j : Int), (j2 : Int)) by rw [← hw.out, line_hit HyL.out (by rw [← hw2.out]; exact pos_hit hx hxe)]; rfl)
      clear hx hxe
      go_wp2_with fail
      go_ret2
      exact ⟨line_ret Hs.out, Hba.out⟩
     ·have q1 : (x == e) = false := by simpa using hxe
      have Hs := Lib.hid (show posIn (j2 + 1) (yel.drop (j2 + 1)) e = posIn 0 yel e by rw [← hw2.out]; exact (pos_miss hx hxe).symm)
      clear hx hxe
      go_wp2_with fail
      go_roundg (gk - 1)
      case measure => have := Hk2.out; omega
      case rel => exact ⟨j2 + 1, by have := Hk2.out; omega, by go_num, Hs.out, rfl⟩
    ·have Hs := Lib.hid (show lineFrom (j + 1) (p.lines.drop (j + 1)) e = lineOf p e by rw [← hw.out]; exact (line_miss HyL.out (by rw [← hw2.out, drop_end ly.out (by omega)]; rfl)).symm)
     go_wp2_with fail
     go_roundg (nl - j - 1)
     case measure => have := Hk.out; omega
     case rel => exact ⟨j + 1, by have := Hk.out; omega, by go_num, Hs.out, rfl⟩
  ·have Hs := Lib.hid (show linePair (lineOf p e) = (-1, -1) by rw [← hw.out, drop_end (show p.lines.length = nl by rw [hP.out.lp, List.length_map]; exact ll.out) (by omega)]; rfl)
   go_wp2_with fail
   go_ret2
   exact ⟨line_ret Hs.out, Hba.out⟩
theorem enters_line {p : Plan} (g : Good p) {x : Line} (hm : x ∈ p.lines) : enters p x.elems = some (leadList (nextOf p) x.elems) := by
 apply enters_lead
 have hr := g.lines.2.2 x hm
 unfold entersOk
 simp only [Bool.and_eq_true, decide_eq_true_eq]
 refine ⟨⟨hr.1, ?_⟩, hr.2⟩
 rw [List.all_eq_true]
 intro y hy
 rw [kind_inLine]
 exact g.lines.2.1 y (by simp only [flatLines, List.mem_flatMap]; exact ⟨x, hm, hy⟩)
theorem lead_no {p : Plan} {e i : Int} (h : lineOf p e = none) : lead p e i = 0 := by
 have := lineFrom_none.1 h
 unfold lead
 rw [leadIn_none.2 this]
theorem lead_out {p : Plan} (g : Good p) {e i : Int} {q : Nat × Nat} (h : lineOf p e = some q) (hp : isPort p ⟨e, i⟩ = false) : lead p e i = 0 := by
 rw [← refLead_eq g]
 unfold refLead
 rw [h]
 simp [hp]
theorem lead_in {p : Plan} (g : Good p) {e i : Int} {a k : Nat} (h : lineOf p e = some (a, k)) (hp : isPort p ⟨e, i⟩ = true) : ∃ (x : Line) (u : Int), p.lines[a]? = some x ∧ (leadList (nextOf p) x.elems)[k]? = some u ∧ k < x.elems.length ∧ lead p e i = if u = i then 1 else 2 := by
 obtain ⟨_, x, hx, hk⟩ := lineFrom_get h
 rw [Nat.sub_zero] at hx
 obtain ⟨_, h2, h3⟩ := lines_at g hx hk
 obtain ⟨u, h01, hu, _⟩ := leads_law g hx hk
 refine ⟨x, u, hx, by rw [← h2]; exact hu, (List.getElem?_eq_some_iff.1 hk).1, ?_⟩
 unfold lead
 rw [hu]
 simp only
 rw [if_neg]
 have hi := isPort_iff.1 hp
 have ht : p.kind e = 1 := by have := h3; rw [← kind_inLine] at this; simpa using this
 have h4 : i < ends (p.kind e) := hi.2.2.2
 have h5 : 0 ≤ i := hi.2.2.1
 rw [ht, show ends 1 = 2 from rfl] at h4
 omega
set_option maxHeartbeats 1000000 in
theorem reflead_any (w : World) (pv : PV) (p : Plan) (h : PlanAt w pv p) (hf : FewOk pv) (hc : chk p = 0) (e i : Int) :
  Calls Try.prog 47 #[pv.val p, .int .i64 e, .int .i64 i] w fun en w' => en = .returned (.int .i64 (lead p e i)) ∧ Below w.heap.size w w' := by
 have G := Lib.hid (good_of hc)
 obtain ⟨ae, ne, ce, aj, nj, cj, as_, ns, cs, al, nl, cl, lv⟩ := pv
 have hP := Lib.hid h
 have Hf := Lib.hid hf
 have Hba := Lib.hid (below_new w (.cells #[.slice ae ne ce, .slice aj nj cj, .slice as_ ns cs, .slice al nl cl, .int .i64 p.top, .int .i64 p.brake, .int .i64 p.margin, .int .i64 p.throw, .bool p.hard] 27))
 have HBa := Lib.hid (pbox_new w ⟨ae, ne, ce, aj, nj, cj, as_, ns, cs, al, nl, cl, lv⟩ p)
 have ll := Lib.hid (show lv.length = nl from h.l.row.len)
 have H1 := Lib.hid (reflineof_any (w.alloc (.cells #[.slice ae ne ce, .slice aj nj cj, .slice as_ ns cs, .slice al nl cl, .int .i64 p.top, .int .i64 p.brake, .int .i64 p.margin, .int .i64 p.throw, .bool p.hard] 27)) ⟨ae, ne, ce, aj, nj, cj, as_, ns, cs, al, nl, cl, lv⟩ p (h.below Hba.out) e)
 have H2 := Lib.hid (fun (u : World) (hb : Below w.heap.size w u) => has_any u ⟨ae, ne, ce, aj, nj, cj, as_, ns, cs, al, nl, cl, lv⟩ p ⟨e, i⟩ (h.below hb))
 clear h hf hc
 dsimp only [PV.val, Port.val] at H1 H2 ⊢
 obtain ⟨_, c0, c1, c2, c3, c4, c5, c6, c7, c8⟩ := HBa.out
 dsimp only at c0 c1 c2 c3
 cases hl : lineOf p e with
 | none =>
  have Hs := Lib.hid (lead_no (i := i) hl)
  rw [hl] at H1
  dsimp only [linePair] at H1
  clear hl
  go_enter Try.func47, Try.ntmps47
  go_wp2_with fail
  refine H1.out.mono ?_
  rintro en w1 ⟨rfl, hb⟩
  have Hb1 := Lib.hid (below_step Hba.out hb Hba.out.size)
  clear hb
  go_wp2_with fail
  go_ret
  exact ⟨ret_int Hs.out.symm, Hb1.out⟩
 | some q =>
  obtain ⟨a, k⟩ := q
  rw [hl] at H1
  dsimp only [linePair] at H1
  have Hl := Lib.hid hl
  clear hl
  cases hp : isPort p ⟨e, i⟩ with
  | false =>
   have Hs := Lib.hid (lead_out G.out Hl.out hp)
   rw [hp] at H2
   clear hp
   go_enter Try.func47, Try.ntmps47
   go_wp2_with fail
   refine H1.out.mono ?_
   rintro en w1 ⟨rfl, hb⟩
   have Hb1 := Lib.hid (below_step Hba.out hb Hba.out.size)
   have HB1 := Lib.hid (HBa.out.below hb)
   clear hb c0 c1 c2 c3 c4 c5 c6 c7 c8
   obtain ⟨_, c0, c1, c2, c3, c4, c5, c6, c7, c8⟩ := HB1.out
   dsimp only at c0 c1 c2 c3
   go_wp2_with fail
   refine (H2.out w1 Hb1.out).mono ?_
   rintro en w2 ⟨rfl, hb⟩
   have Hb2 := Lib.hid (below_step Hb1.out hb Hb1.out.size)
   clear hb
   go_wp2_with fail
   go_ret
   exact ⟨ret_int Hs.out.symm, Hb2.out⟩
  | true =>
   obtain ⟨x, u, hx, hu, hk, hs⟩ := lead_in G.out Hl.out hp
   have Hs := Lib.hid hs
   have Hu := Lib.hid hu
   have Hen := Lib.hid (enters_line G.out (List.mem_of_getElem? hx))
   have hal : a < nl := by have h1 := (List.getElem?_eq_some_iff.1 hx).1; rw [hP.out.lp, List.length_map] at h1; have h2 : lv.length = nl := ll.out; dsimp only at h1; omega
   obtain ⟨⟨nm, ya, yn, yc, yel⟩, hy⟩ := get_some ll.out hal
   have hxe : x = ⟨nm, yel⟩ := by
    rw [hP.out.lp, List.getElem?_map, hy] at hx
    exact (Option.some.inj hx).symm
   subst hxe
   dsimp only at hk hu
   have Hints := Lib.hid (show Ints w ya yn yel from hP.out.l.ints _ (List.mem_of_getElem? hy))
   have hyn : yn ≤ 60 := Hf.out.2.2.2.2 _ (List.mem_of_getElem? hy)
   have Hy := Lib.hid hy
   rw [hp] at H2
   have hkl : k < 60 := by have h1 : yel.length = yn := Hints.out.len; omega
   have HkL := Lib.hid hk
   have ha0 : (0 : Int) ≤ (a : Int) := by omega
   have hk0 : (0 : Int) ≤ (k : Int) := by omega
   have hal2 : (a : Int) < (nl : Int) := by omega
   clear hs hu hx hy hp hk
   go_enter Try.func47, Try.ntmps47
   go_wp2_with fail
   refine H1.out.mono ?_
   rintro en w1 ⟨rfl, hb⟩
   have Hb1 := Lib.hid (below_step Hba.out hb Hba.out.size)
   have HB1 := Lib.hid (HBa.out.below hb)
   clear hb c0 c1 c2 c3 c4 c5 c6 c7 c8
   obtain ⟨_, c0, c1, c2, c3, c4, c5, c6, c7, c8⟩ := HB1.out
   dsimp only at c0 c1 c2 c3
   go_wp2_with fail
   refine (H2.out w1 Hb1.out).mono ?_
   rintro en w2 ⟨rfl, hb⟩
   have Hb2 := Lib.hid (below_step Hb1.out hb Hb1.out.size)
   have HB2 := Lib.hid (HB1.out.below hb)
   clear hb c0 c1 c2 c3 c4 c5 c6 c7 c8
   obtain ⟨pb, off, rfl, hpb, g1, g2⟩ := hP.out.l.row.lineB Hb2.out Hy.out
   dsimp only at g1 g2
   obtain ⟨_, c0, c1, c2, c3, c4, c5, c6, c7, c8⟩ := HB2.out
   dsimp only at c0 c1 c2 c3
   have hbl := HB2.out.lt
   have hpb2 : pb < w2.heap.size := by have := Hb2.out.size; omega
   go_wp2_with fail
   have hSall : ∀ w' : World, Below (w2).heap.size (w2) w' → (w'.cell? ⟨w.heap.size, 0, none⟩ = some (.slice ae ne ce) ∧ w'.cell? ⟨w.heap.size, 1, none⟩ = some (.slice aj nj cj) ∧ w'.cell? ⟨w.heap.size, 2, none⟩ = some (.slice as_ ns cs) ∧ w'.cell? ⟨w.heap.size, 3, none⟩ = some (.slice (some ⟨pb, off, none⟩) nl cl) ∧ w'.cell? ⟨w.heap.size, 4, none⟩ = some (.int .i64 p.top) ∧ w'.cell? ⟨w.heap.size, 5, none⟩ = some (.int .i64 p.brake) ∧ w'.cell? ⟨w.heap.size, 6, none⟩ = some (.int .i64 p.margin) ∧ w'.cell? ⟨w.heap.size, 7, none⟩ = some (.int .i64 p.throw) ∧ w'.cell? ⟨w.heap.size, 8, none⟩ = some (.bool p.hard) ∧ w'.cell? ⟨pb, off + a * 2 + 1, none⟩ = some (.slice ya yn yc)) := fun w' hb => ⟨(hb.cell (p := ⟨w.heap.size, 0, none⟩) hbl).trans c0, (hb.cell (p := ⟨w.heap.size, 1, none⟩) hbl).trans c1, (hb.cell (p := ⟨w.heap.size, 2, none⟩) hbl).trans c2, (hb.cell (p := ⟨w.heap.size, 3, none⟩) hbl).trans c3, (hb.cell (p := ⟨w.heap.size, 4, none⟩) hbl).trans c4, (hb.cell (p := ⟨w.heap.size, 5, none⟩) hbl).trans c5, (hb.cell (p := ⟨w.heap.size, 6, none⟩) hbl).trans c6, (hb.cell (p := ⟨w.heap.size, 7, none⟩) hbl).trans c7, (hb.cell (p := ⟨w.heap.size, 8, none⟩) hbl).trans c8, (hb.cell (p := ⟨pb, off + a * 2 + 1, none⟩) hpb2).trans g2⟩
   refine wp_region_noPanic ?_
   refine region_upto (S := fun w' => w'.cell? ⟨w.heap.size, 0, none⟩ = some (.slice ae ne ce) ∧ w'.cell? ⟨w.heap.size, 1, none⟩ = some (.slice aj nj cj) ∧ w'.cell? ⟨w.heap.size, 2, none⟩ = some (.slice as_ ns cs) ∧ w'.cell? ⟨w.heap.size, 3, none⟩ = some (.slice (some ⟨pb, off, none⟩) nl cl) ∧ w'.cell? ⟨w.heap.size, 4, none⟩ = some (.int .i64 p.top) ∧ w'.cell? ⟨w.heap.size, 5, none⟩ = some (.int .i64 p.brake) ∧ w'.cell? ⟨w.heap.size, 6, none⟩ = some (.int .i64 p.margin) ∧ w'.cell? ⟨w.heap.size, 7, none⟩ = some (.int .i64 p.throw) ∧ w'.cell? ⟨w.heap.size, 8, none⟩ = some (.bool p.hard) ∧ w'.cell? ⟨pb, off + a * 2 + 1, none⟩ = some (.slice ya yn yc)) (n := 13) (by kernel_rfl) ?_
   refine uk 0 (.agg #[.slice ae ne ce, .slice aj nj cj, .slice as_ ns cs, .slice (some ⟨pb, off, none⟩) nl cl, .int .i64 p.top, .int .i64 p.brake, .int .i64 p.margin, .int .i64 p.throw, .bool p.hard]) ?_ (hSall _ (by with_reducible repeat (first | exact Below.refl _ _ | assumption | exact below_new _ _ | apply below_drewN | apply Below.drew | refine below_set (Nat.le_refl _) ?_ _ | (refine below_set ?_ ?_ _; omega) | refine Below.alloc ?_ (by first | omega | (simp; omega) | simp) _))) ?_
   ·intro w' hSw
    (try dsimp only at hSw)
    go_simp
   (try simp only [zA, zC, Act.put, zD, zE, zF])
   refine uk 1 (.pointer (some ⟨w.heap.size, 3, none⟩)) ?_ (hSall _ (by with_reducible repeat (first | exact Below.refl _ _ | assumption | exact below_new _ _ | apply below_drewN | apply Below.drew | refine below_set (Nat.le_refl _) ?_ _ | (refine below_set ?_ ?_ _; omega) | refine Below.alloc ?_ (by first | omega | (simp; omega) | simp) _))) ?_
   ·intro w' hSw
    (try dsimp only at hSw)
    go_simp
   (try simp only [zA, zB, zC, Act.put, zD, zE, zF])
   refine uk 2 (.slice (some ⟨pb, off, none⟩) nl cl) ?_ (hSall _ (by with_reducible repeat (first | exact Below.refl _ _ | assumption | exact below_new _ _ | apply below_drewN | apply Below.drew | refine below_set (Nat.le_refl _) ?_ _ | (refine below_set ?_ ?_ _; omega) | refine Below.alloc ?_ (by first | omega | (simp; omega) | simp) _))) ?_
   ·intro w' hSw
    (try dsimp only at hSw)
    go_simp
   (try simp only [zA, zB, zC, Act.put, zD, zE, zF])
   refine uk 3 (.int .i64 (a : Int)) ?_ (hSall _ (by with_reducible repeat (first | exact Below.refl _ _ | assumption | exact below_new _ _ | apply below_drewN | apply Below.drew | refine below_set (Nat.le_refl _) ?_ _ | (refine below_set ?_ ?_ _; omega) | refine Below.alloc ?_ (by first | omega | (simp; omega) | simp) _))) ?_
   ·intro w' hSw
    (try dsimp only at hSw)
    go_simp
   (try simp only [zA, zB, zC, Act.put, zD, zE, zF])
   refine uk 4 (.pointer (some ⟨pb, off + a * 2, none⟩)) ?_ (hSall _ (by with_reducible repeat (first | exact Below.refl _ _ | assumption | exact below_new _ _ | apply below_drewN | apply Below.drew | refine below_set (Nat.le_refl _) ?_ _ | (refine below_set ?_ ?_ _; omega) | refine Below.alloc ?_ (by first | omega | (simp; omega) | simp) _))) ?_
   ·intro w' hSw
    (try dsimp only at hSw)
    go_simp
   (try simp only [zA, zB, zC, Act.put, zD, zE, zF])
   refine uk 5 (.pointer (some ⟨pb, off + a * 2 + 1, none⟩)) ?_ (hSall _ (by with_reducible repeat (first | exact Below.refl _ _ | assumption | exact below_new _ _ | apply below_drewN | apply Below.drew | refine below_set (Nat.le_refl _) ?_ _ | (refine below_set ?_ ?_ _; omega) | refine Below.alloc ?_ (by first | omega | (simp; omega) | simp) _))) ?_
   ·intro w' hSw
    (try dsimp only at hSw)
    go_simp
   (try simp only [zA, zB, zC, Act.put, zD, zE, zF])
   refine uk 6 (.slice ya yn yc) ?_ (hSall _ (by with_reducible repeat (first | exact Below.refl _ _ | assumption | exact below_new _ _ | apply below_drewN | apply Below.drew | refine below_set (Nat.le_refl _) ?_ _ | (refine below_set ?_ ?_ _; omega) | refine Below.alloc ?_ (by first | omega | (simp; omega) | simp) _))) ?_
   ·intro w' hSw
    (try dsimp only at hSw)
    go_simp
   (try simp only [zA, zB, zC, Act.put, zD, zE, zF])
   refine upto_step (i := 7) (by kernel_rfl) rfl (fun K hK => ?_)
   go_simp
   refine (refenters_any _ ⟨ae, ne, ce, aj, nj, cj, as_, ns, cs, (some ⟨pb, off, none⟩), nl, cl, lv⟩ p ya yn yc yel (hP.out.below (Hb2.out.drew)) (Hints.out.below (Hb2.out.drew)) (by omega) G.out.port).mono ?_
   rintro en v1 ⟨a2, n2, cx2, rfl, hi, hbx⟩
   have hbx : Below w2.heap.size w2 v1 := (Below.refl w2.heap.size w2).drew.trans hbx
   rw [show (enters p yel).isSome = true by rw [Hen.out]; rfl]
   refine hK _ _ (fun _ => (hSall _ (by with_reducible repeat (first | exact Below.refl _ _ | assumption | exact below_new _ _ | apply below_drewN | apply Below.drew | refine below_set (Nat.le_refl _) ?_ _ | (refine below_set ?_ ?_ _; omega) | refine Below.alloc ?_ (by first | omega | (simp; omega) | simp) _)))) ?_
   clear hK K
   (try simp only [zA, zB, zC, Act.put, zD, zE, zF])
   refine upto_step (i := 8) (by kernel_rfl) rfl (fun K hK => ?_)
   go_simp
   refine hK _ _ (fun _ => (hSall _ (by with_reducible repeat (first | exact Below.refl _ _ | assumption | exact below_new _ _ | apply below_drewN | apply Below.drew | refine below_set (Nat.le_refl _) ?_ _ | (refine below_set ?_ ?_ _; omega) | refine Below.alloc ?_ (by first | omega | (simp; omega) | simp) _)))) ?_
   clear hK K
   (try simp only [zA, zB, zC, Act.put, zD, zE, zF])
   refine uk 9 (.slice a2 n2 cx2) ?_ (hSall _ (by with_reducible repeat (first | exact Below.refl _ _ | assumption | exact below_new _ _ | apply below_drewN | apply Below.drew | refine below_set (Nat.le_refl _) ?_ _ | (refine below_set ?_ ?_ _; omega) | refine Below.alloc ?_ (by first | omega | (simp; omega) | simp) _))) ?_
   ·intro w' hSw
    (try dsimp only at hSw)
    go_simp
   (try simp only [zA, zB, zC, Act.put, zD, zE, zF])
   refine uk 10 (.bool true) ?_ (hSall _ (by with_reducible repeat (first | exact Below.refl _ _ | assumption | exact below_new _ _ | apply below_drewN | apply Below.drew | refine below_set (Nat.le_refl _) ?_ _ | (refine below_set ?_ ?_ _; omega) | refine Below.alloc ?_ (by first | omega | (simp; omega) | simp) _))) ?_
   ·intro w' hSw
    (try dsimp only at hSw)
    go_simp
   (try simp only [zA, zB, zC, Act.put, zD, zE, zF])
   refine upto_step (i := 11) (by kernel_rfl) rfl (fun K hK => ?_)
   go_simp
   refine hK _ _ (fun _ => (hSall _ (by with_reducible repeat (first | exact Below.refl _ _ | assumption | exact below_new _ _ | apply below_drewN | apply Below.drew | refine below_set (Nat.le_refl _) ?_ _ | (refine below_set ?_ ?_ _; omega) | refine Below.alloc ?_ (by first | omega | (simp; omega) | simp) _)))) ?_
   clear hK K
   (try simp only [zA, zB, zC, Act.put, zD, zE, zF])
   refine upto_step (i := 12) (by kernel_rfl) rfl (fun K hK => ?_)
   go_simp
   refine hK _ _ (fun _ => (hSall _ (by with_reducible repeat (first | exact Below.refl _ _ | assumption | exact below_new _ _ | apply below_drewN | apply Below.drew | refine below_set (Nat.le_refl _) ?_ _ | (refine below_set ?_ ?_ _; omega) | refine Below.alloc ?_ (by first | omega | (simp; omega) | simp) _)))) ?_
   clear hK K
   (try simp only [zA, zB, zC, Act.put, zD, zE, zF])
   refine upto_done (by kernel_rfl) (NoPanic.normal ?_) _
   clear hSall
   refine name_world fun V hV => ?_
   have HV := Lib.hid (show Below w2.heap.size w2 V by rw [hV]; repeat (first | with_reducible exact Below.refl _ _ | with_reducible assumption | with_reducible exact below_new _ _ | with_reducible apply below_drewN | with_reducible apply Below.drew | with_reducible refine below_set (Nat.le_refl _) ?_ _ | ((with_reducible refine below_set ?_ ?_ _); omega) | with_reducible refine Below.alloc ?_ (by first | omega | (simp; omega) | simp) _))
   have Hi := Lib.hid (show Ints V a2 n2 (leadList (nextOf p) yel) from by rw [hV]; exact (hi _ Hen.out).below (by with_reducible repeat (first | exact Below.refl _ _ | assumption | exact below_new _ _ | apply below_drewN | apply Below.drew | refine below_set (Nat.le_refl _) ?_ _ | (refine below_set ?_ ?_ _; omega) | refine Below.alloc ?_ (by first | omega | (simp; omega) | simp) _)))
   clear hV hi hbx g1 g2 c0 c1 c2 c3 c4 c5 c6 c7 c8
   obtain ⟨pa, offa, rfl, hpa, ge⟩ := Hi.out.int Hu.out
   have hk2 : k < n2 := get_lt Hi.out.len Hu.out
   by_cases hui : u = i
   ·have q1 : (u == i) = true := by simpa using hui
    have Hs2 := Lib.hid (show lead p e i = 1 by rw [Hs.out, if_pos hui])
    clear hui
    go_wp2_with fail
    go_ret
    exact ⟨ret_int Hs2.out.symm, below_step Hb2.out HV.out Hb2.out.size⟩
   ·have q1 : (u == i) = false := by simpa using hui
    have Hs2 := Lib.hid (show lead p e i = 2 by rw [Hs.out, if_neg hui])
    clear hui
    go_wp2_with fail
    go_ret
    exact ⟨ret_int Hs2.out.symm, below_step Hb2.out HV.out Hb2.out.size⟩
end Go.Proofs.Ytnkpiijljfjmkaa
