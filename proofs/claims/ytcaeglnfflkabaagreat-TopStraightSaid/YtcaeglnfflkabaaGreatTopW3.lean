/- Walks of road.path.pop and road. Condition: the path is read. -/
import Derived.Test.YtcaeglnfflkabaaGreatTopW2
import Derived.BigRegion
set_option maxRecDepth 1000000
namespace Go.Proofs.YtcaeglnfflkabaaGreat
open Go.ChangeShapes Go.WideShapes Go.ChangeAt Go.RowKit Go.Sort

/-- a row that is cut to its first n elements -/
theorem own_cut {w : World} {base g n m cap size : Nat} {e : TypeId} {xs : List Value} (h : w.ownsRow base e size (.slice (some ⟨g, 0, none⟩) n cap) n xs) (hm : m ≤ n) : w.ownsRow base e size (.slice (some ⟨g, 0, none⟩) m cap) m (xs.take (m * size)) := by
  obtain ⟨h1, h2⟩ := h
  have hmn : m * size ≤ n * size := Nat.mul_le_mul_right _ hm
  refine ⟨by rw [List.length_take]; omega, .inr ?_⟩
  rcases h2 with ⟨h2, _⟩ | ⟨g', cap', cur, hv, hb, hh, hc, hc2, hs, ht⟩
  · cases h2
  · simp only [Value.slice.injEq, Option.some.injEq, Addr.mk.injEq] at hv
    obtain ⟨⟨rfl, _, _⟩, _, rfl⟩ := hv
    exact ⟨g, cap, cur, rfl, hb, hh, by omega, hc2, hs, by rw [← ht, List.take_take, Nat.min_eq_left hmn]⟩
theorem flat_cut {α : Type} {enc : α → List Value} {sz : Nat} (hl : ∀ x, (enc x).length = sz) : ∀ (l : List α) (m : Nat), (l.flatMap enc).take (m * sz) = (l.take m).flatMap enc
  | [], m => by simp
  | x :: r, 0 => by simp
  | x :: r, m + 1 => by
    simp only [List.flatMap_cons, List.take_succ_cons]
    rw [List.take_append, hl, List.take_of_length_le (by rw [hl, Nat.succ_mul]; omega), ← flat_cut hl r m, show (m + 1) * sz - sz = m * sz by rw [Nat.succ_mul]; omega]
theorem own_some {w : World} {base n c size : Nat} {e : TypeId} {a : Option Addr} {xs : List Value} (h : w.ownsRow base e size (.slice a n c) n xs) (hn : 0 < n) : ∃ g, a = some ⟨g, 0, none⟩ ∧ n ≤ c := by
  rcases h.2 with ⟨h1, h2⟩ | ⟨g, cap, cur, h1, h2, _, h3, _⟩
  · omega
  · simp only [Value.slice.injEq] at h1
    obtain ⟨rfl, _, rfl⟩ := h1
    exact ⟨g, rfl, h3⟩
/-- the path without its last element -/
theorem PathIs.popped {w : World} {b base : Nat} {berth : Int} {sg pg lg sc pc lc k : Nat} {xs : List Stp} {ps : List Int} {ls : List WS}
    (h : PathIs w b base berth (.slice (some ⟨sg, 0, none⟩) (k + 1) sc) (.slice (some ⟨pg, 0, none⟩) (k + 1) pc) (.slice (some ⟨lg, 0, none⟩) (k + 1) lc) xs ps ls) (h1 : xs.length = k + 1) (h2 : ps.length = k + 1) (h3 : ls.length = k + 1) {w' : World}
    (hb : w'.heap[b]? = some (.cells #[.int .i64 berth, .slice (some ⟨sg, 0, none⟩) k sc, .slice (some ⟨pg, 0, none⟩) k pc, .slice (some ⟨lg, 0, none⟩) k lc] 223)) (hk : ∀ q, q < w.heap.size → q ≠ b → w'.heap[q]? = w.heap[q]?) (hs : w.heap.size ≤ w'.heap.size) :
    PathIs w' b base berth (.slice (some ⟨sg, 0, none⟩) k sc) (.slice (some ⟨pg, 0, none⟩) k pc) (.slice (some ⟨lg, 0, none⟩) k lc) (xs.take k) (ps.take k) (ls.take k) := by
  have hst : ∀ {e : TypeId} {size n c g : Nat} {l : List Value}, w.ownsRow base e size (.slice (some ⟨g, 0, none⟩) n c) n l → w'.ownsRow base e size (.slice (some ⟨g, 0, none⟩) n c) n l := by
    intro e size n c g l ho
    obtain ⟨q1, q2⟩ := ho
    refine ⟨q1, q2.imp id fun ⟨g', cap, cur, hv, hgb, hh, r⟩ => ⟨g', cap, cur, hv, hgb, ?_, r⟩⟩
    rw [hk g' (Array.getElem?_eq_some_iff.1 hh).1 (by have := h.lt; omega)]
    exact hh
  have o1 := h.os
  have o2 := h.oi
  have o3 := h.ol
  rw [h1] at o1
  rw [h2] at o2
  rw [h3] at o3
  have q1 := own_cut (hst o1) (show k ≤ k + 1 by omega)
  have q2 := own_cut (hst o2) (show k ≤ k + 1 by omega)
  have q3 := own_cut (hst o3) (show k ≤ k + 1 by omega)
  rw [flat_cut encStp_len] at q1
  rw [flat_cut encInt_lenT] at q2
  rw [flat_cut encWS_len] at q3
  have l1 : (xs.take k).length = k := by rw [List.length_take]; omega
  have l2 : (ps.take k).length = k := by rw [List.length_take]; omega
  have l3 : (ls.take k).length = k := by rw [List.length_take]; omega
  refine ⟨hb, h.lt, Nat.le_trans h.le hs, ⟨fun q hq => ?_, ?_⟩⟩
  · simp only [List.mem_cons, List.not_mem_nil, or_false] at hq
    rcases hq with rfl | rfl | rfl
    · simpa [rowS, l1] using q1
    · simpa [rowI, l2] using q2
    · simpa [rowL, l3] using q3
  · have hp := h.rows.apart
    simpa [rowS, rowI, rowL, ApartM, List.pairwise_cons, Value.ownBlock] using hp
set_option maxHeartbeats 2000000 in
theorem pop_any (w : World) (b base : Nat) (berth : Int) (sg pg lg sc pc lc k : Nat) (xs : List Stp) (ps : List Int) (ls : List WS)
    (h : PathIs w b base berth (.slice (some ⟨sg, 0, none⟩) (k + 1) sc) (.slice (some ⟨pg, 0, none⟩) (k + 1) pc) (.slice (some ⟨lg, 0, none⟩) (k + 1) lc) xs ps ls) (h1 : xs.length = k + 1) (h2 : ps.length = k + 1) (h3 : ls.length = k + 1) (hk : k < 12) (hc1 : k + 1 ≤ sc) (hc2 : k + 1 ≤ pc) (hc3 : k + 1 ≤ lc) :
    Calls Tryz.prog 130 #[.pointer (some ⟨b, 0, none⟩)] w fun e w' => e = .returned (.tuple #[]) ∧
      PathIs w' b base berth (.slice (some ⟨sg, 0, none⟩) k sc) (.slice (some ⟨pg, 0, none⟩) k pc) (.slice (some ⟨lg, 0, none⟩) k lc) (xs.take k) (ps.take k) (ls.take k) ∧ (∀ q, q ≠ b → w'.heap[q]? = w.heap[q]?) ∧ w'.heap.size = w.heap.size ∧ w'.os = w.os ∧ w'.tape = w.tape ∧ w'.output = w.output := by
  have c1 := h.c1
  have c2 := h.c2
  have c3 := h.c3
  have hbl := h.bl
  have H := Lib.hid h
  clear h
  have fz : ∀ o, w.frozen? ⟨b, o, none⟩ = false := fun o => frozen_of_row w b o _ _ H.out.box
  go_enter Tryz.func130, Tryz.ntmps130
  go_wp2_with fail
  go_region
  refine name_world fun W hW => ?_
  have hbx := heap_setCell_same _ b 3 _ _ (.slice (some ⟨lg, 0, none⟩) k lc) (heap_setCell_same _ b 2 _ _ (.slice (some ⟨pg, 0, none⟩) k pc) (heap_setCell_same w b 1 _ _ (.slice (some ⟨sg, 0, none⟩) k sc) H.out.box))
  have hbW : W.heap[b]? = some (.cells #[.int .i64 berth, .slice (some ⟨sg, 0, none⟩) k sc, .slice (some ⟨pg, 0, none⟩) k pc, .slice (some ⟨lg, 0, none⟩) k lc] 223) := by rw [hW]; exact hbx
  have hne : ∀ q, q ≠ b → W.heap[q]? = w.heap[q]? := by
    intro q hq
    rw [hW]
    exact (Below.heap_setCell _ ⟨b, 3, none⟩ _ q hq).trans ((Below.heap_setCell _ ⟨b, 2, none⟩ _ q hq).trans (Below.heap_setCell _ ⟨b, 1, none⟩ _ q hq))
  have hsz : W.heap.size = w.heap.size := by rw [hW]; simp [World.setCell, World.drew]
  have hos : W.os = w.os ∧ W.tape = w.tape ∧ W.output = w.output := by rw [hW]; exact ⟨rfl, rfl, rfl⟩
  clear hW hbx
  go_wp2_with fail
  refine bodyPost_end (v := .tuple #[]) (by simp [results, Tryz.results130]) rfl ?_
  exact ⟨rfl, H.out.popped h1 h2 h3 hbW (fun q _ hq => hne q hq) (by omega), hne, hsz, hos⟩
end Go.Proofs.YtcaeglnfflkabaaGreat
