/- Walks of the methods Outs, Through, From of net.Net and of semaphoreref6.Outs, Through, From, At. Condition: the receiver is a net; the plan is read. -/
import Derived.Test.YtlndfmflbdkpjaaNetM1
set_option maxRecDepth 1000000
namespace Go.Proofs.Ytlndfmflbdkpjaa
open Go.ChangeShapes Go.WideShapes Go.ChangeAt Go.RowKit Go.Sort

def encWay (x : Way) : List Value := [.int .i64 x.out, .int .i64 x.pos]
def OutsPost (w : World) (l : List Way) (e : Ending) (w' : World) : Prop := ∃ a n c, e = .returned (.slice a n c) ∧ Row 2 encWay w' a n l ∧ n ≤ 2 ∧ Below w.heap.size w w'
theorem Row.way {w : World} {a : Option Addr} {n : Nat} {xs : List Way} (h : Row 2 encWay w a n xs) {i : Nat} {x : Way} (hx : xs[i]? = some x) :
    ∃ b off, a = some ⟨b, off, none⟩ ∧ b < w.heap.size ∧ w.cell? ⟨b, off + i * 2, none⟩ = some (.int .i64 x.out) ∧ w.cell? ⟨b, off + i * 2 + 1, none⟩ = some (.int .i64 x.pos) := by
  obtain ⟨b, off, ha, hb, hc⟩ := h.at_ i x hx
  exact ⟨b, off, ha, hb, by simpa using hc 0 _ rfl, by simpa using hc 1 _ rfl⟩
theorem ways_nil {w w' : World} {l : List Way} (h : l = []) (hb : Below w.heap.size w w') : OutsPost w l (.returned (.slice none 0 0)) w' := by
  subst h; exact ⟨none, 0, 0, rfl, Row.nil _ _, by omega, hb⟩
theorem ways_one {w w' : World} {l : List Way} {x y : Int} {g : Nat} {T : TypeId} (h : l = [⟨x, y⟩]) (hg : w'.heap[g]? = some (.cells #[.int .i64 x, .int .i64 y] T)) (hb : Below w.heap.size w w') : OutsPost w l (.returned (.slice (some ⟨g, 0, none⟩) 1 1)) w' := by
  subst h
  refine ⟨_, 1, 1, rfl, ⟨rfl, by omega, fun i z hz => ⟨g, 0, rfl, (Array.getElem?_eq_some_iff.1 hg).1, fun k v hv => ?_⟩⟩, by omega, hb⟩
  rw [cell_of_row w' g _ _ _ (0, 0) hg]
  match i, hz with
  | 0, hz =>
    simp at hz; subst hz
    match k, hv with
    | 0, hv => simpa [encWay] using hv
    | 1, hv => simpa [encWay] using hv
  | i + 1, hz => simp at hz
theorem ways_two {w w' : World} {l : List Way} {x y u v : Int} {g : Nat} {T : TypeId} (h : l = [⟨x, y⟩, ⟨u, v⟩]) (hg : w'.heap[g]? = some (.cells #[.int .i64 x, .int .i64 y, .int .i64 u, .int .i64 v] T)) (hb : Below w.heap.size w w') : OutsPost w l (.returned (.slice (some ⟨g, 0, none⟩) 2 2)) w' := by
  subst h
  refine ⟨_, 2, 2, rfl, ⟨rfl, by omega, fun i z hz => ⟨g, 0, rfl, (Array.getElem?_eq_some_iff.1 hg).1, fun k t ht => ?_⟩⟩, by omega, hb⟩
  rw [cell_of_row w' g _ _ _ (0, 0) hg]
  match i, hz with
  | 0, hz =>
    simp at hz; subst hz
    match k, ht with
    | 0, ht => simpa [encWay] using ht
    | 1, ht => simpa [encWay] using ht
  | 1, hz =>
    simp at hz; subst hz
    match k, ht with
    | 0, ht => simpa [encWay] using ht
    | 1, ht => simpa [encWay] using ht
  | i + 2, hz => simp at hz
set_option maxHeartbeats 2000000 in
theorem nouts_any (w : World) (b : Nat) (p : Plan) (h : NetAt w b p) (e i : Int) :
    Calls Try.prog 34 #[.pointer (some ⟨b, 0, none⟩), .int .i64 e, .int .i64 i] w (OutsPost w (outs p e i)) := by
  by_cases a1 : i < 0
  · have Hs := Lib.hid (show outs p e i = [] by unfold outs; rw [if_pos (.inl a1)])
    clear h
    go_enter Try.func34, Try.ntmps34
    go_wp2_with fail
    go_ret
    exact ways_nil Hs.out (Below.refl _ _)
  have HK := Lib.hid (nkind_any w b p h e)
  have a0 : 0 ≤ i := by omega
  by_cases a2 : ends (p.kind e) ≤ i
  · have Hs := Lib.hid (show outs p e i = [] by unfold outs; rw [if_pos (.inr a2)])
    have hd : decide (ends (p.kind e) ≤ i) = true := by simpa using a2
    clear h
    go_enter Try.func34, Try.ntmps34
    go_wp2_with fail
    refine HK.out.mono ?_
    rintro en w1 ⟨rfl, hb⟩
    go_wp2_with fail
    refine (ends_any _ _).mono ?_
    rintro en w2 ⟨rfl, rfl⟩
    go_wp2_with fail
    go_ret
    exact ways_nil Hs.out hb
  have Hh := Lib.hid h
  clear h
  have key : ∀ K : Int, p.kind e = K → (K = 1 ∧ (i = 0 ∨ i = 1)) ∨ (K = 2 ∧ (i = 0 ∨ i = 1 ∨ i = 2)) ∨ (K = 3 ∧ (i = 0 ∨ i = 1 ∨ i = 2 ∨ i = 3)) ∨ (K = 4 ∧ i = 0) := by
    intro K hK
    rw [hK] at a2
    unfold ends at a2
    omega
  have hk := key _ rfl
  clear key a1 a2 a0
  rcases hk with ⟨hk, rfl | rfl⟩ | ⟨hk, rfl | rfl | rfl⟩ | ⟨hk, rfl | rfl | rfl | rfl⟩ | ⟨hk, rfl⟩
  · have Hs := Lib.hid (show outs p e 0 = [⟨1, 0⟩] by unfold outs; rw [hk]; rfl)
    have HE := Lib.hid (show ∀ u : World, Calls Try.prog 19 #[.int .i64 1] u fun en w' => en = .returned (.int .i64 2) ∧ u = w' from fun u => ends_any 1 u)
    have HK2 := Lib.hid (show ∀ u : World, Below w.heap.size w u → Calls Try.prog 45 #[.pointer (some ⟨b, 0, none⟩), .int .i64 e] u fun en w' => en = .returned (.int .i64 1) ∧ Below u.heap.size u w' from fun u hb => by have := nkind_any u b p (Hh.out.below hb) e; rwa [hk] at this)
    have hix : ∀ u : World, (Instr.index 104 (.agg #[.int .i64 0, .int .i64 1, .int .i64 2]) (.int .i64 0)).run Try.prog u = .ok (.int .i64 0) u := by intro u; kernel_rfl
    clear HK hk
    go_enter Try.func34, Try.ntmps34
    go_wp2_with fail
    refine (HK2.out w (Below.refl _ _)).mono ?_
    rintro en w1 ⟨rfl, hb⟩
    have Hb := Lib.hid hb
    go_wp2_with fail
    refine (HE.out w1).mono ?_
    rintro en w2 ⟨rfl, rfl⟩
    go_wp2_with fail
    refine (HK2.out w1 Hb.out).mono ?_
    rintro en w2 ⟨rfl, hb2⟩
    have Hb2 := Lib.hid (below_step Hb.out hb2 Hb.out.size)
    clear hb hb2
    go_wp2_with fail
    refine name_body fun Wf hWf => ?_
    have hbf : Below w.heap.size w Wf := by rw [hWf]; have := Hb2.out.size; repeat (first | with_reducible exact Hb2.out | with_reducible refine Below.alloc ?_ (by first | omega | (simp; omega) | simp) _)
    go_ret
    exact ways_one Hs.out (by rw [hWf]; exact heap_new_at (by simp)) hbf
  · have Hs := Lib.hid (show outs p e 1 = [⟨0, 0⟩] by unfold outs; rw [hk]; rfl)
    have HE := Lib.hid (show ∀ u : World, Calls Try.prog 19 #[.int .i64 1] u fun en w' => en = .returned (.int .i64 2) ∧ u = w' from fun u => ends_any 1 u)
    have HK2 := Lib.hid (show ∀ u : World, Below w.heap.size w u → Calls Try.prog 45 #[.pointer (some ⟨b, 0, none⟩), .int .i64 e] u fun en w' => en = .returned (.int .i64 1) ∧ Below u.heap.size u w' from fun u hb => by have := nkind_any u b p (Hh.out.below hb) e; rwa [hk] at this)
    have hix : ∀ u : World, (Instr.index 104 (.agg #[.int .i64 0, .int .i64 1, .int .i64 2]) (.int .i64 1)).run Try.prog u = .ok (.int .i64 1) u := by intro u; kernel_rfl
    clear HK hk
    go_enter Try.func34, Try.ntmps34
    go_wp2_with fail
    refine (HK2.out w (Below.refl _ _)).mono ?_
    rintro en w1 ⟨rfl, hb⟩
    have Hb := Lib.hid hb
    go_wp2_with fail
    refine (HE.out w1).mono ?_
    rintro en w2 ⟨rfl, rfl⟩
    go_wp2_with fail
    refine (HK2.out w1 Hb.out).mono ?_
    rintro en w2 ⟨rfl, hb2⟩
    have Hb2 := Lib.hid (below_step Hb.out hb2 Hb.out.size)
    clear hb hb2
    go_wp2_with fail
    refine name_body fun Wf hWf => ?_
    have hbf : Below w.heap.size w Wf := by rw [hWf]; have := Hb2.out.size; repeat (first | with_reducible exact Hb2.out | with_reducible refine Below.alloc ?_ (by first | omega | (simp; omega) | simp) _)
    go_ret
    exact ways_one Hs.out (by rw [hWf]; exact heap_new_at (by simp)) hbf
  · have Hs := Lib.hid (show outs p e 0 = [⟨1, 1⟩, ⟨2, 2⟩] by unfold outs; rw [hk]; rfl)
    have HE := Lib.hid (show ∀ u : World, Calls Try.prog 19 #[.int .i64 2] u fun en w' => en = .returned (.int .i64 3) ∧ u = w' from fun u => ends_any 2 u)
    have HK2 := Lib.hid (show ∀ u : World, Below w.heap.size w u → Calls Try.prog 45 #[.pointer (some ⟨b, 0, none⟩), .int .i64 e] u fun en w' => en = .returned (.int .i64 2) ∧ Below u.heap.size u w' from fun u hb => by have := nkind_any u b p (Hh.out.below hb) e; rwa [hk] at this)
    have hix : ∀ u : World, (Instr.index 104 (.agg #[.int .i64 0, .int .i64 1, .int .i64 2]) (.int .i64 0)).run Try.prog u = .ok (.int .i64 0) u := by intro u; kernel_rfl
    clear HK hk
    go_enter Try.func34, Try.ntmps34
    go_wp2_with fail
    refine (HK2.out w (Below.refl _ _)).mono ?_
    rintro en w1 ⟨rfl, hb⟩
    have Hb := Lib.hid hb
    go_wp2_with fail
    refine (HE.out w1).mono ?_
    rintro en w2 ⟨rfl, rfl⟩
    go_wp2_with fail
    refine (HK2.out w1 Hb.out).mono ?_
    rintro en w2 ⟨rfl, hb2⟩
    have Hb2 := Lib.hid (below_step Hb.out hb2 Hb.out.size)
    clear hb hb2
    go_wp2_with fail
    refine name_body fun Wf hWf => ?_
    have hbf : Below w.heap.size w Wf := by rw [hWf]; have := Hb2.out.size; repeat (first | with_reducible exact Hb2.out | with_reducible refine Below.alloc ?_ (by first | omega | (simp; omega) | simp) _)
    go_ret
    exact ways_two Hs.out (by rw [hWf]; exact heap_new_at (by simp)) hbf
  · have Hs := Lib.hid (show outs p e 1 = [⟨0, 1⟩] by unfold outs; rw [hk]; rfl)
    have HE := Lib.hid (show ∀ u : World, Calls Try.prog 19 #[.int .i64 2] u fun en w' => en = .returned (.int .i64 3) ∧ u = w' from fun u => ends_any 2 u)
    have HK2 := Lib.hid (show ∀ u : World, Below w.heap.size w u → Calls Try.prog 45 #[.pointer (some ⟨b, 0, none⟩), .int .i64 e] u fun en w' => en = .returned (.int .i64 2) ∧ Below u.heap.size u w' from fun u hb => by have := nkind_any u b p (Hh.out.below hb) e; rwa [hk] at this)
    have hix : ∀ u : World, (Instr.index 104 (.agg #[.int .i64 0, .int .i64 1, .int .i64 2]) (.int .i64 1)).run Try.prog u = .ok (.int .i64 1) u := by intro u; kernel_rfl
    clear HK hk
    go_enter Try.func34, Try.ntmps34
    go_wp2_with fail
    refine (HK2.out w (Below.refl _ _)).mono ?_
    rintro en w1 ⟨rfl, hb⟩
    have Hb := Lib.hid hb
    go_wp2_with fail
    refine (HE.out w1).mono ?_
    rintro en w2 ⟨rfl, rfl⟩
    go_wp2_with fail
    refine (HK2.out w1 Hb.out).mono ?_
    rintro en w2 ⟨rfl, hb2⟩
    have Hb2 := Lib.hid (below_step Hb.out hb2 Hb.out.size)
    clear hb hb2
    go_wp2_with fail
    refine name_body fun Wf hWf => ?_
    have hbf : Below w.heap.size w Wf := by rw [hWf]; have := Hb2.out.size; repeat (first | with_reducible exact Hb2.out | with_reducible refine Below.alloc ?_ (by first | omega | (simp; omega) | simp) _)
    go_ret
    exact ways_one Hs.out (by rw [hWf]; exact heap_new_at (by simp)) hbf
  · have Hs := Lib.hid (show outs p e 2 = [⟨0, 2⟩] by unfold outs; rw [hk]; rfl)
    have HE := Lib.hid (show ∀ u : World, Calls Try.prog 19 #[.int .i64 2] u fun en w' => en = .returned (.int .i64 3) ∧ u = w' from fun u => ends_any 2 u)
    have HK2 := Lib.hid (show ∀ u : World, Below w.heap.size w u → Calls Try.prog 45 #[.pointer (some ⟨b, 0, none⟩), .int .i64 e] u fun en w' => en = .returned (.int .i64 2) ∧ Below u.heap.size u w' from fun u hb => by have := nkind_any u b p (Hh.out.below hb) e; rwa [hk] at this)
    have hix : ∀ u : World, (Instr.index 104 (.agg #[.int .i64 0, .int .i64 1, .int .i64 2]) (.int .i64 2)).run Try.prog u = .ok (.int .i64 2) u := by intro u; kernel_rfl
    clear HK hk
    go_enter Try.func34, Try.ntmps34
    go_wp2_with fail
    refine (HK2.out w (Below.refl _ _)).mono ?_
    rintro en w1 ⟨rfl, hb⟩
    have Hb := Lib.hid hb
    go_wp2_with fail
    refine (HE.out w1).mono ?_
    rintro en w2 ⟨rfl, rfl⟩
    go_wp2_with fail
    refine (HK2.out w1 Hb.out).mono ?_
    rintro en w2 ⟨rfl, hb2⟩
    have Hb2 := Lib.hid (below_step Hb.out hb2 Hb.out.size)
    clear hb hb2
    go_wp2_with fail
    refine name_body fun Wf hWf => ?_
    have hbf : Below w.heap.size w Wf := by rw [hWf]; have := Hb2.out.size; repeat (first | with_reducible exact Hb2.out | with_reducible refine Below.alloc ?_ (by first | omega | (simp; omega) | simp) _)
    go_ret
    exact ways_one Hs.out (by rw [hWf]; exact heap_new_at (by simp)) hbf
  · have Hs := Lib.hid (show outs p e 0 = [⟨1, 0⟩] by unfold outs; rw [hk]; rfl)
    have HE := Lib.hid (show ∀ u : World, Calls Try.prog 19 #[.int .i64 3] u fun en w' => en = .returned (.int .i64 4) ∧ u = w' from fun u => ends_any 3 u)
    have HK2 := Lib.hid (show ∀ u : World, Below w.heap.size w u → Calls Try.prog 45 #[.pointer (some ⟨b, 0, none⟩), .int .i64 e] u fun en w' => en = .returned (.int .i64 3) ∧ Below u.heap.size u w' from fun u hb => by have := nkind_any u b p (Hh.out.below hb) e; rwa [hk] at this)
    have hix : ∀ u : World, (Instr.index 104 (.agg #[.int .i64 0, .int .i64 1, .int .i64 2]) (.int .i64 0)).run Try.prog u = .ok (.int .i64 0) u := by intro u; kernel_rfl
    clear HK hk
    go_enter Try.func34, Try.ntmps34
    go_wp2_with fail
    refine (HK2.out w (Below.refl _ _)).mono ?_
    rintro en w1 ⟨rfl, hb⟩
    have Hb := Lib.hid hb
    go_wp2_with fail
    refine (HE.out w1).mono ?_
    rintro en w2 ⟨rfl, rfl⟩
    go_wp2_with fail
    refine (HK2.out w1 Hb.out).mono ?_
    rintro en w2 ⟨rfl, hb2⟩
    have Hb2 := Lib.hid (below_step Hb.out hb2 Hb.out.size)
    clear hb hb2
    go_wp2_with fail
    refine name_body fun Wf hWf => ?_
    have hbf : Below w.heap.size w Wf := by rw [hWf]; have := Hb2.out.size; repeat (first | with_reducible exact Hb2.out | with_reducible refine Below.alloc ?_ (by first | omega | (simp; omega) | simp) _)
    go_ret
    exact ways_one Hs.out (by rw [hWf]; exact heap_new_at (by simp)) hbf
  · have Hs := Lib.hid (show outs p e 1 = [⟨0, 0⟩] by unfold outs; rw [hk]; rfl)
    have HE := Lib.hid (show ∀ u : World, Calls Try.prog 19 #[.int .i64 3] u fun en w' => en = .returned (.int .i64 4) ∧ u = w' from fun u => ends_any 3 u)
    have HK2 := Lib.hid (show ∀ u : World, Below w.heap.size w u → Calls Try.prog 45 #[.pointer (some ⟨b, 0, none⟩), .int .i64 e] u fun en w' => en = .returned (.int .i64 3) ∧ Below u.heap.size u w' from fun u hb => by have := nkind_any u b p (Hh.out.below hb) e; rwa [hk] at this)
    have hix : ∀ u : World, (Instr.index 104 (.agg #[.int .i64 0, .int .i64 1, .int .i64 2]) (.int .i64 1)).run Try.prog u = .ok (.int .i64 1) u := by intro u; kernel_rfl
    clear HK hk
    go_enter Try.func34, Try.ntmps34
    go_wp2_with fail
    refine (HK2.out w (Below.refl _ _)).mono ?_
    rintro en w1 ⟨rfl, hb⟩
    have Hb := Lib.hid hb
    go_wp2_with fail
    refine (HE.out w1).mono ?_
    rintro en w2 ⟨rfl, rfl⟩
    go_wp2_with fail
    refine (HK2.out w1 Hb.out).mono ?_
    rintro en w2 ⟨rfl, hb2⟩
    have Hb2 := Lib.hid (below_step Hb.out hb2 Hb.out.size)
    clear hb hb2
    go_wp2_with fail
    refine name_body fun Wf hWf => ?_
    have hbf : Below w.heap.size w Wf := by rw [hWf]; have := Hb2.out.size; repeat (first | with_reducible exact Hb2.out | with_reducible refine Below.alloc ?_ (by first | omega | (simp; omega) | simp) _)
    go_ret
    exact ways_one Hs.out (by rw [hWf]; exact heap_new_at (by simp)) hbf
  · have Hs := Lib.hid (show outs p e 2 = [⟨3, 0⟩] by unfold outs; rw [hk]; rfl)
    have HE := Lib.hid (show ∀ u : World, Calls Try.prog 19 #[.int .i64 3] u fun en w' => en = .returned (.int .i64 4) ∧ u = w' from fun u => ends_any 3 u)
    have HK2 := Lib.hid (show ∀ u : World, Below w.heap.size w u → Calls Try.prog 45 #[.pointer (some ⟨b, 0, none⟩), .int .i64 e] u fun en w' => en = .returned (.int .i64 3) ∧ Below u.heap.size u w' from fun u hb => by have := nkind_any u b p (Hh.out.below hb) e; rwa [hk] at this)
    have hix : ∀ u : World, (Instr.index 104 (.agg #[.int .i64 0, .int .i64 1, .int .i64 2]) (.int .i64 2)).run Try.prog u = .ok (.int .i64 2) u := by intro u; kernel_rfl
    clear HK hk
    go_enter Try.func34, Try.ntmps34
    go_wp2_with fail
    refine (HK2.out w (Below.refl _ _)).mono ?_
    rintro en w1 ⟨rfl, hb⟩
    have Hb := Lib.hid hb
    go_wp2_with fail
    refine (HE.out w1).mono ?_
    rintro en w2 ⟨rfl, rfl⟩
    go_wp2_with fail
    refine (HK2.out w1 Hb.out).mono ?_
    rintro en w2 ⟨rfl, hb2⟩
    have Hb2 := Lib.hid (below_step Hb.out hb2 Hb.out.size)
    clear hb hb2
    go_wp2_with fail
    refine name_body fun Wf hWf => ?_
    have hbf : Below w.heap.size w Wf := by rw [hWf]; have := Hb2.out.size; repeat (first | with_reducible exact Hb2.out | with_reducible refine Below.alloc ?_ (by first | omega | (simp; omega) | simp) _)
    go_ret
    exact ways_one Hs.out (by rw [hWf]; exact heap_new_at (by simp)) hbf
  · have Hs := Lib.hid (show outs p e 3 = [⟨2, 0⟩] by unfold outs; rw [hk]; rfl)
    have HE := Lib.hid (show ∀ u : World, Calls Try.prog 19 #[.int .i64 3] u fun en w' => en = .returned (.int .i64 4) ∧ u = w' from fun u => ends_any 3 u)
    have HK2 := Lib.hid (show ∀ u : World, Below w.heap.size w u → Calls Try.prog 45 #[.pointer (some ⟨b, 0, none⟩), .int .i64 e] u fun en w' => en = .returned (.int .i64 3) ∧ Below u.heap.size u w' from fun u hb => by have := nkind_any u b p (Hh.out.below hb) e; rwa [hk] at this)
    have hix : ∀ u : World, (Instr.index 104 (.agg #[.int .i64 0, .int .i64 1, .int .i64 2]) (.int .i64 2)).run Try.prog u = .ok (.int .i64 2) u := by intro u; kernel_rfl
    clear HK hk
    go_enter Try.func34, Try.ntmps34
    go_wp2_with fail
    refine (HK2.out w (Below.refl _ _)).mono ?_
    rintro en w1 ⟨rfl, hb⟩
    have Hb := Lib.hid hb
    go_wp2_with fail
    refine (HE.out w1).mono ?_
    rintro en w2 ⟨rfl, rfl⟩
    go_wp2_with fail
    refine (HK2.out w1 Hb.out).mono ?_
    rintro en w2 ⟨rfl, hb2⟩
    have Hb2 := Lib.hid (below_step Hb.out hb2 Hb.out.size)
    clear hb hb2
    go_wp2_with fail
    refine name_body fun Wf hWf => ?_
    have hbf : Below w.heap.size w Wf := by rw [hWf]; have := Hb2.out.size; repeat (first | with_reducible exact Hb2.out | with_reducible refine Below.alloc ?_ (by first | omega | (simp; omega) | simp) _)
    go_ret
    exact ways_one Hs.out (by rw [hWf]; exact heap_new_at (by simp)) hbf
  · have Hs := Lib.hid (show outs p e 0 = [] by unfold outs; rw [hk]; rfl)
    have HE := Lib.hid (show ∀ u : World, Calls Try.prog 19 #[.int .i64 4] u fun en w' => en = .returned (.int .i64 1) ∧ u = w' from fun u => ends_any 4 u)
    have HK2 := Lib.hid (show ∀ u : World, Below w.heap.size w u → Calls Try.prog 45 #[.pointer (some ⟨b, 0, none⟩), .int .i64 e] u fun en w' => en = .returned (.int .i64 4) ∧ Below u.heap.size u w' from fun u hb => by have := nkind_any u b p (Hh.out.below hb) e; rwa [hk] at this)
    have hix : ∀ u : World, (Instr.index 104 (.agg #[.int .i64 0, .int .i64 1, .int .i64 2]) (.int .i64 0)).run Try.prog u = .ok (.int .i64 0) u := by intro u; kernel_rfl
    clear HK hk
    go_enter Try.func34, Try.ntmps34
    go_wp2_with fail
    refine (HK2.out w (Below.refl _ _)).mono ?_
    rintro en w1 ⟨rfl, hb⟩
    have Hb := Lib.hid hb
    go_wp2_with fail
    refine (HE.out w1).mono ?_
    rintro en w2 ⟨rfl, rfl⟩
    go_wp2_with fail
    refine (HK2.out w1 Hb.out).mono ?_
    rintro en w2 ⟨rfl, hb2⟩
    have Hb2 := Lib.hid (below_step Hb.out hb2 Hb.out.size)
    clear hb hb2
    go_wp2_with fail
    go_ret
    exact ways_nil Hs.out Hb2.out
set_option maxHeartbeats 2000000 in
theorem refouts_any (w : World) (pv : PV) (p : Plan) (h : PlanAt w pv p) (e i : Int) :
    Calls Try.prog 35 #[pv.val p, .int .i64 e, .int .i64 i] w (OutsPost w (outs p e i)) := by
  obtain ⟨ae, ne, ce, aj, nj, cj, as_, ns, cs, al, nl, cl, lv⟩ := pv
  have Hba := Lib.hid (below_new w (.cells #[.slice ae ne ce, .slice aj nj cj, .slice as_ ns cs, .slice al nl cl, .int .i64 p.top, .int .i64 p.brake, .int .i64 p.margin, .int .i64 p.throw, .bool p.hard] 32))
  have HBa := Lib.hid (pbox_new w ⟨ae, ne, ce, aj, nj, cj, as_, ns, cs, al, nl, cl, lv⟩ p)
  have hP := Lib.hid h
  have HH := Lib.hid (has_any (w.alloc (.cells #[.slice ae ne ce, .slice aj nj cj, .slice as_ ns cs, .slice al nl cl, .int .i64 p.top, .int .i64 p.brake, .int .i64 p.margin, .int .i64 p.throw, .bool p.hard] 32)) ⟨ae, ne, ce, aj, nj, cj, as_, ns, cs, al, nl, cl, lv⟩ p ⟨e, i⟩ (h.below Hba.out))
  clear h
  dsimp only [PV.val, Port.val] at HH ⊢
  obtain ⟨_, c0, c1, c2, c3, c4, c5, c6, c7, c8⟩ := HBa.out
  dsimp only at c0 c1 c2 c3
  cases hp : isPort p ⟨e, i⟩ with
  | false =>
    have Hs := Lib.hid (show outs p e i = [] by
      unfold outs
      split
      · rfl
      · rename_i hn
        have : ¬ isPort p ⟨e, i⟩ = true := by simp [hp]
        rw [isPort_iff] at this
        exfalso
        apply this
        have hr : 0 ≤ e ∧ e < p.elems.length := by
          apply Classical.byContradiction
          intro hc
          have := kind_out (p := p) (i := e) (by omega)
          rw [this] at hn
          simp [ends] at hn
          omega
        refine ⟨hr.1, hr.2, ?_, ?_⟩
        · show 0 ≤ i; omega
        · show i < ends (p.kind e); omega)
    rw [hp] at HH
    clear hp
    go_enter Try.func35, Try.ntmps35
    go_wp2_with fail
    refine HH.out.mono ?_
    rintro en w1 ⟨rfl, hb⟩
    go_wp2_with fail
    go_ret
    exact ways_nil Hs.out (below_step Hba.out hb Hba.out.size)
  | true =>
    rw [hp] at HH
    have a3 := isPort_iff.1 hp
    dsimp only at a3
    have key : ∀ K : Int, p.kind e = K → (K = 1 ∧ (i = 0 ∨ i = 1)) ∨ (K = 2 ∧ (i = 0 ∨ i = 1 ∨ i = 2)) ∨ (K = 3 ∧ (i = 0 ∨ i = 1 ∨ i = 2 ∨ i = 3)) ∨ (K = 4 ∧ i = 0) := by
      intro K hK
      rw [hK] at a3
      unfold ends at a3
      omega
    have hk := key _ rfl
    clear key a3 hp
    rcases hk with ⟨hk, rfl | rfl⟩ | ⟨hk, rfl | rfl | rfl⟩ | ⟨hk, rfl | rfl | rfl | rfl⟩ | ⟨hk, rfl⟩
    · have Hs := Lib.hid (show outs p e 0 = [⟨1, 0⟩] by unfold outs; rw [hk]; rfl)
      have HK2 := Lib.hid (show ∀ u : World, Below w.heap.size w u → Calls Try.prog 85 #[.agg #[.slice ae ne ce, .slice aj nj cj, .slice as_ ns cs, .slice al nl cl, .int .i64 p.top, .int .i64 p.brake, .int .i64 p.margin, .int .i64 p.throw, .bool p.hard], .int .i64 e] u fun en w' => en = .returned (.int .i64 1) ∧ Below u.heap.size u w' from fun u hb => by have := kindU_any u ⟨ae, ne, ce, aj, nj, cj, as_, ns, cs, al, nl, cl, lv⟩ p e (hP.out.below hb); dsimp only [PV.val] at this; rwa [hk] at this)
      clear hk
      go_enter Try.func35, Try.ntmps35
      go_wp2_with fail
      refine HH.out.mono ?_
      rintro en w1 ⟨rfl, hb⟩
      have HB1 := Lib.hid (HBa.out.below hb)
      have Hb := Lib.hid (below_step Hba.out hb Hba.out.size)
      clear hb c0 c1 c2 c3 c4 c5 c6 c7 c8
      obtain ⟨_, c0, c1, c2, c3, c4, c5, c6, c7, c8⟩ := HB1.out
      dsimp only at c0 c1 c2 c3
      go_wp2_with fail
      refine (HK2.out w1 Hb.out).mono ?_
      rintro en w2 ⟨rfl, hb2⟩
      have Hb2 := Lib.hid (below_step Hb.out hb2 Hb.out.size)
      clear hb2
      go_wp2_with fail
      refine name_body fun Wf hWf => ?_
      have hbf : Below w.heap.size w Wf := by rw [hWf]; have := Hb2.out.size; repeat (first | with_reducible exact Hb2.out | with_reducible refine Below.alloc ?_ (by first | omega | (simp; omega) | simp) _)
      go_ret
      exact ways_one Hs.out (by rw [hWf]; exact heap_new_at (by simp)) hbf
    · have Hs := Lib.hid (show outs p e 1 = [⟨0, 0⟩] by unfold outs; rw [hk]; rfl)
      have HK2 := Lib.hid (show ∀ u : World, Below w.heap.size w u → Calls Try.prog 85 #[.agg #[.slice ae ne ce, .slice aj nj cj, .slice as_ ns cs, .slice al nl cl, .int .i64 p.top, .int .i64 p.brake, .int .i64 p.margin, .int .i64 p.throw, .bool p.hard], .int .i64 e] u fun en w' => en = .returned (.int .i64 1) ∧ Below u.heap.size u w' from fun u hb => by have := kindU_any u ⟨ae, ne, ce, aj, nj, cj, as_, ns, cs, al, nl, cl, lv⟩ p e (hP.out.below hb); dsimp only [PV.val] at this; rwa [hk] at this)
      clear hk
      go_enter Try.func35, Try.ntmps35
      go_wp2_with fail
      refine HH.out.mono ?_
      rintro en w1 ⟨rfl, hb⟩
      have HB1 := Lib.hid (HBa.out.below hb)
      have Hb := Lib.hid (below_step Hba.out hb Hba.out.size)
      clear hb c0 c1 c2 c3 c4 c5 c6 c7 c8
      obtain ⟨_, c0, c1, c2, c3, c4, c5, c6, c7, c8⟩ := HB1.out
      dsimp only at c0 c1 c2 c3
      go_wp2_with fail
      refine (HK2.out w1 Hb.out).mono ?_
      rintro en w2 ⟨rfl, hb2⟩
      have Hb2 := Lib.hid (below_step Hb.out hb2 Hb.out.size)
      clear hb2
      go_wp2_with fail
      refine name_body fun Wf hWf => ?_
      have hbf : Below w.heap.size w Wf := by rw [hWf]; have := Hb2.out.size; repeat (first | with_reducible exact Hb2.out | with_reducible refine Below.alloc ?_ (by first | omega | (simp; omega) | simp) _)
      go_ret
      exact ways_one Hs.out (by rw [hWf]; exact heap_new_at (by simp)) hbf
    · have Hs := Lib.hid (show outs p e 0 = [⟨1, 1⟩, ⟨2, 2⟩] by unfold outs; rw [hk]; rfl)
      have HK2 := Lib.hid (show ∀ u : World, Below w.heap.size w u → Calls Try.prog 85 #[.agg #[.slice ae ne ce, .slice aj nj cj, .slice as_ ns cs, .slice al nl cl, .int .i64 p.top, .int .i64 p.brake, .int .i64 p.margin, .int .i64 p.throw, .bool p.hard], .int .i64 e] u fun en w' => en = .returned (.int .i64 2) ∧ Below u.heap.size u w' from fun u hb => by have := kindU_any u ⟨ae, ne, ce, aj, nj, cj, as_, ns, cs, al, nl, cl, lv⟩ p e (hP.out.below hb); dsimp only [PV.val] at this; rwa [hk] at this)
      clear hk
      go_enter Try.func35, Try.ntmps35
      go_wp2_with fail
      refine HH.out.mono ?_
      rintro en w1 ⟨rfl, hb⟩
      have HB1 := Lib.hid (HBa.out.below hb)
      have Hb := Lib.hid (below_step Hba.out hb Hba.out.size)
      clear hb c0 c1 c2 c3 c4 c5 c6 c7 c8
      obtain ⟨_, c0, c1, c2, c3, c4, c5, c6, c7, c8⟩ := HB1.out
      dsimp only at c0 c1 c2 c3
      go_wp2_with fail
      refine (HK2.out w1 Hb.out).mono ?_
      rintro en w2 ⟨rfl, hb2⟩
      have Hb2 := Lib.hid (below_step Hb.out hb2 Hb.out.size)
      clear hb2
      go_wp2_with fail
      refine name_body fun Wf hWf => ?_
      have hbf : Below w.heap.size w Wf := by rw [hWf]; have := Hb2.out.size; repeat (first | with_reducible exact Hb2.out | with_reducible refine Below.alloc ?_ (by first | omega | (simp; omega) | simp) _)
      go_ret
      exact ways_two Hs.out (by rw [hWf]; exact heap_new_at (by simp)) hbf
    · have Hs := Lib.hid (show outs p e 1 = [⟨0, 1⟩] by unfold outs; rw [hk]; rfl)
      have HK2 := Lib.hid (show ∀ u : World, Below w.heap.size w u → Calls Try.prog 85 #[.agg #[.slice ae ne ce, .slice aj nj cj, .slice as_ ns cs, .slice al nl cl, .int .i64 p.top, .int .i64 p.brake, .int .i64 p.margin, .int .i64 p.throw, .bool p.hard], .int .i64 e] u fun en w' => en = .returned (.int .i64 2) ∧ Below u.heap.size u w' from fun u hb => by have := kindU_any u ⟨ae, ne, ce, aj, nj, cj, as_, ns, cs, al, nl, cl, lv⟩ p e (hP.out.below hb); dsimp only [PV.val] at this; rwa [hk] at this)
      clear hk
      go_enter Try.func35, Try.ntmps35
      go_wp2_with fail
      refine HH.out.mono ?_
      rintro en w1 ⟨rfl, hb⟩
      have HB1 := Lib.hid (HBa.out.below hb)
      have Hb := Lib.hid (below_step Hba.out hb Hba.out.size)
      clear hb c0 c1 c2 c3 c4 c5 c6 c7 c8
      obtain ⟨_, c0, c1, c2, c3, c4, c5, c6, c7, c8⟩ := HB1.out
      dsimp only at c0 c1 c2 c3
      go_wp2_with fail
      refine (HK2.out w1 Hb.out).mono ?_
      rintro en w2 ⟨rfl, hb2⟩
      have Hb2 := Lib.hid (below_step Hb.out hb2 Hb.out.size)
      clear hb2
      go_wp2_with fail
      refine name_body fun Wf hWf => ?_
      have hbf : Below w.heap.size w Wf := by rw [hWf]; have := Hb2.out.size; repeat (first | with_reducible exact Hb2.out | with_reducible refine Below.alloc ?_ (by first | omega | (simp; omega) | simp) _)
      go_ret
      exact ways_one Hs.out (by rw [hWf]; exact heap_new_at (by simp)) hbf
    · have Hs := Lib.hid (show outs p e 2 = [⟨0, 2⟩] by unfold outs; rw [hk]; rfl)
      have HK2 := Lib.hid (show ∀ u : World, Below w.heap.size w u → Calls Try.prog 85 #[.agg #[.slice ae ne ce, .slice aj nj cj, .slice as_ ns cs, .slice al nl cl, .int .i64 p.top, .int .i64 p.brake, .int .i64 p.margin, .int .i64 p.throw, .bool p.hard], .int .i64 e] u fun en w' => en = .returned (.int .i64 2) ∧ Below u.heap.size u w' from fun u hb => by have := kindU_any u ⟨ae, ne, ce, aj, nj, cj, as_, ns, cs, al, nl, cl, lv⟩ p e (hP.out.below hb); dsimp only [PV.val] at this; rwa [hk] at this)
      clear hk
      go_enter Try.func35, Try.ntmps35
      go_wp2_with fail
      refine HH.out.mono ?_
      rintro en w1 ⟨rfl, hb⟩
      have HB1 := Lib.hid (HBa.out.below hb)
      have Hb := Lib.hid (below_step Hba.out hb Hba.out.size)
      clear hb c0 c1 c2 c3 c4 c5 c6 c7 c8
      obtain ⟨_, c0, c1, c2, c3, c4, c5, c6, c7, c8⟩ := HB1.out
      dsimp only at c0 c1 c2 c3
      go_wp2_with fail
      refine (HK2.out w1 Hb.out).mono ?_
      rintro en w2 ⟨rfl, hb2⟩
      have Hb2 := Lib.hid (below_step Hb.out hb2 Hb.out.size)
      clear hb2
      go_wp2_with fail
      refine name_body fun Wf hWf => ?_
      have hbf : Below w.heap.size w Wf := by rw [hWf]; have := Hb2.out.size; repeat (first | with_reducible exact Hb2.out | with_reducible refine Below.alloc ?_ (by first | omega | (simp; omega) | simp) _)
      go_ret
      exact ways_one Hs.out (by rw [hWf]; exact heap_new_at (by simp)) hbf
    · have Hs := Lib.hid (show outs p e 0 = [⟨1, 0⟩] by unfold outs; rw [hk]; rfl)
      have HK2 := Lib.hid (show ∀ u : World, Below w.heap.size w u → Calls Try.prog 85 #[.agg #[.slice ae ne ce, .slice aj nj cj, .slice as_ ns cs, .slice al nl cl, .int .i64 p.top, .int .i64 p.brake, .int .i64 p.margin, .int .i64 p.throw, .bool p.hard], .int .i64 e] u fun en w' => en = .returned (.int .i64 3) ∧ Below u.heap.size u w' from fun u hb => by have := kindU_any u ⟨ae, ne, ce, aj, nj, cj, as_, ns, cs, al, nl, cl, lv⟩ p e (hP.out.below hb); dsimp only [PV.val] at this; rwa [hk] at this)
      clear hk
      go_enter Try.func35, Try.ntmps35
      go_wp2_with fail
      refine HH.out.mono ?_
      rintro en w1 ⟨rfl, hb⟩
      have HB1 := Lib.hid (HBa.out.below hb)
      have Hb := Lib.hid (below_step Hba.out hb Hba.out.size)
      clear hb c0 c1 c2 c3 c4 c5 c6 c7 c8
      obtain ⟨_, c0, c1, c2, c3, c4, c5, c6, c7, c8⟩ := HB1.out
      dsimp only at c0 c1 c2 c3
      go_wp2_with fail
      refine (HK2.out w1 Hb.out).mono ?_
      rintro en w2 ⟨rfl, hb2⟩
      have Hb2 := Lib.hid (below_step Hb.out hb2 Hb.out.size)
      clear hb2
      go_wp2_with fail
      refine name_body fun Wf hWf => ?_
      have hbf : Below w.heap.size w Wf := by rw [hWf]; have := Hb2.out.size; repeat (first | with_reducible exact Hb2.out | with_reducible refine Below.alloc ?_ (by first | omega | (simp; omega) | simp) _)
      go_ret
      exact ways_one Hs.out (by rw [hWf]; exact heap_new_at (by simp)) hbf
    · have Hs := Lib.hid (show outs p e 1 = [⟨0, 0⟩] by unfold outs; rw [hk]; rfl)
      have HK2 := Lib.hid (show ∀ u : World, Below w.heap.size w u → Calls Try.prog 85 #[.agg #[.slice ae ne ce, .slice aj nj cj, .slice as_ ns cs, .slice al nl cl, .int .i64 p.top, .int .i64 p.brake, .int .i64 p.margin, .int .i64 p.throw, .bool p.hard], .int .i64 e] u fun en w' => en = .returned (.int .i64 3) ∧ Below u.heap.size u w' from fun u hb => by have := kindU_any u ⟨ae, ne, ce, aj, nj, cj, as_, ns, cs, al, nl, cl, lv⟩ p e (hP.out.below hb); dsimp only [PV.val] at this; rwa [hk] at this)
      clear hk
      go_enter Try.func35, Try.ntmps35
      go_wp2_with fail
      refine HH.out.mono ?_
      rintro en w1 ⟨rfl, hb⟩
      have HB1 := Lib.hid (HBa.out.below hb)
      have Hb := Lib.hid (below_step Hba.out hb Hba.out.size)
      clear hb c0 c1 c2 c3 c4 c5 c6 c7 c8
      obtain ⟨_, c0, c1, c2, c3, c4, c5, c6, c7, c8⟩ := HB1.out
      dsimp only at c0 c1 c2 c3
      go_wp2_with fail
      refine (HK2.out w1 Hb.out).mono ?_
      rintro en w2 ⟨rfl, hb2⟩
      have Hb2 := Lib.hid (below_step Hb.out hb2 Hb.out.size)
      clear hb2
      go_wp2_with fail
      refine name_body fun Wf hWf => ?_
      have hbf : Below w.heap.size w Wf := by rw [hWf]; have := Hb2.out.size; repeat (first | with_reducible exact Hb2.out | with_reducible refine Below.alloc ?_ (by first | omega | (simp; omega) | simp) _)
      go_ret
      exact ways_one Hs.out (by rw [hWf]; exact heap_new_at (by simp)) hbf
    · have Hs := Lib.hid (show outs p e 2 = [⟨3, 0⟩] by unfold outs; rw [hk]; rfl)
      have HK2 := Lib.hid (show ∀ u : World, Below w.heap.size w u → Calls Try.prog 85 #[.agg #[.slice ae ne ce, .slice aj nj cj, .slice as_ ns cs, .slice al nl cl, .int .i64 p.top, .int .i64 p.brake, .int .i64 p.margin, .int .i64 p.throw, .bool p.hard], .int .i64 e] u fun en w' => en = .returned (.int .i64 3) ∧ Below u.heap.size u w' from fun u hb => by have := kindU_any u ⟨ae, ne, ce, aj, nj, cj, as_, ns, cs, al, nl, cl, lv⟩ p e (hP.out.below hb); dsimp only [PV.val] at this; rwa [hk] at this)
      clear hk
      go_enter Try.func35, Try.ntmps35
      go_wp2_with fail
      refine HH.out.mono ?_
      rintro en w1 ⟨rfl, hb⟩
      have HB1 := Lib.hid (HBa.out.below hb)
      have Hb := Lib.hid (below_step Hba.out hb Hba.out.size)
      clear hb c0 c1 c2 c3 c4 c5 c6 c7 c8
      obtain ⟨_, c0, c1, c2, c3, c4, c5, c6, c7, c8⟩ := HB1.out
      dsimp only at c0 c1 c2 c3
      go_wp2_with fail
      refine (HK2.out w1 Hb.out).mono ?_
      rintro en w2 ⟨rfl, hb2⟩
      have Hb2 := Lib.hid (below_step Hb.out hb2 Hb.out.size)
      clear hb2
      go_wp2_with fail
      refine name_body fun Wf hWf => ?_
      have hbf : Below w.heap.size w Wf := by rw [hWf]; have := Hb2.out.size; repeat (first | with_reducible exact Hb2.out | with_reducible refine Below.alloc ?_ (by first | omega | (simp; omega) | simp) _)
      go_ret
      exact ways_one Hs.out (by rw [hWf]; exact heap_new_at (by simp)) hbf
    · have Hs := Lib.hid (show outs p e 3 = [⟨2, 0⟩] by unfold outs; rw [hk]; rfl)
      have HK2 := Lib.hid (show ∀ u : World, Below w.heap.size w u → Calls Try.prog 85 #[.agg #[.slice ae ne ce, .slice aj nj cj, .slice as_ ns cs, .slice al nl cl, .int .i64 p.top, .int .i64 p.brake, .int .i64 p.margin, .int .i64 p.throw, .bool p.hard], .int .i64 e] u fun en w' => en = .returned (.int .i64 3) ∧ Below u.heap.size u w' from fun u hb => by have := kindU_any u ⟨ae, ne, ce, aj, nj, cj, as_, ns, cs, al, nl, cl, lv⟩ p e (hP.out.below hb); dsimp only [PV.val] at this; rwa [hk] at this)
      clear hk
      go_enter Try.func35, Try.ntmps35
      go_wp2_with fail
      refine HH.out.mono ?_
      rintro en w1 ⟨rfl, hb⟩
      have HB1 := Lib.hid (HBa.out.below hb)
      have Hb := Lib.hid (below_step Hba.out hb Hba.out.size)
      clear hb c0 c1 c2 c3 c4 c5 c6 c7 c8
      obtain ⟨_, c0, c1, c2, c3, c4, c5, c6, c7, c8⟩ := HB1.out
      dsimp only at c0 c1 c2 c3
      go_wp2_with fail
      refine (HK2.out w1 Hb.out).mono ?_
      rintro en w2 ⟨rfl, hb2⟩
      have Hb2 := Lib.hid (below_step Hb.out hb2 Hb.out.size)
      clear hb2
      go_wp2_with fail
      refine name_body fun Wf hWf => ?_
      have hbf : Below w.heap.size w Wf := by rw [hWf]; have := Hb2.out.size; repeat (first | with_reducible exact Hb2.out | with_reducible refine Below.alloc ?_ (by first | omega | (simp; omega) | simp) _)
      go_ret
      exact ways_one Hs.out (by rw [hWf]; exact heap_new_at (by simp)) hbf
    · have Hs := Lib.hid (show outs p e 0 = [] by unfold outs; rw [hk]; rfl)
      have HK2 := Lib.hid (show ∀ u : World, Below w.heap.size w u → Calls Try.prog 85 #[.agg #[.slice ae ne ce, .slice aj nj cj, .slice as_ ns cs, .slice al nl cl, .int .i64 p.top, .int .i64 p.brake, .int .i64 p.margin, .int .i64 p.throw, .bool p.hard], .int .i64 e] u fun en w' => en = .returned (.int .i64 4) ∧ Below u.heap.size u w' from fun u hb => by have := kindU_any u ⟨ae, ne, ce, aj, nj, cj, as_, ns, cs, al, nl, cl, lv⟩ p e (hP.out.below hb); dsimp only [PV.val] at this; rwa [hk] at this)
      clear hk
      go_enter Try.func35, Try.ntmps35
      go_wp2_with fail
      refine HH.out.mono ?_
      rintro en w1 ⟨rfl, hb⟩
      have HB1 := Lib.hid (HBa.out.below hb)
      have Hb := Lib.hid (below_step Hba.out hb Hba.out.size)
      clear hb c0 c1 c2 c3 c4 c5 c6 c7 c8
      obtain ⟨_, c0, c1, c2, c3, c4, c5, c6, c7, c8⟩ := HB1.out
      dsimp only at c0 c1 c2 c3
      go_wp2_with fail
      refine (HK2.out w1 Hb.out).mono ?_
      rintro en w2 ⟨rfl, hb2⟩
      have Hb2 := Lib.hid (below_step Hb.out hb2 Hb.out.size)
      clear hb2
      go_wp2_with fail
      go_ret
      exact ways_nil Hs.out Hb2.out
end Go.Proofs.Ytlndfmflbdkpjaa
