/- Walks of plan.Same and of the small plan that the laws know. No condition beyond the plans that are read. -/
import Derived.Test.YtlndfmflbdkpjaaPlanW11
set_option maxRecDepth 1000000
namespace Go.Proofs.Ytlndfmflbdkpjaa
open Go.RowKit

theorem plan_eq (p q : Plan) : decide (p = q) = (decide (p.elems = q.elems) && (decide (p.joins = q.joins) && (decide (p.sigs = q.sigs) && (decide (p.lines = q.lines) && ((p.top == q.top) && ((p.brake == q.brake) && ((p.margin == q.margin) && ((p.throw == q.throw) && (p.hard == q.hard))))))))) := by
  obtain ⟨a, b, c, d, e, f, g, h, i⟩ := p
  obtain ⟨a', b', c', d', e', f', g', h', i'⟩ := q
  rw [Bool.eq_iff_iff]; simp

set_option maxHeartbeats 2000000 in
theorem same_any (w : World) (pv pv2 : PV) (p q : Plan) (h : PlanAt w pv p) (h2 : PlanAt w pv2 q) :
    Calls Try.prog 28 #[pv.val p, pv2.val q] w fun e w' => e = .returned (.bool (decide (p = q))) ∧ Below w.heap.size w w' := by
  have hP := Lib.hid h
  have hQ := Lib.hid h2
  have hW := Lib.hid (below_new2 w (pobj pv p) (pobj pv2 q))
  have HA0 := Lib.hid ((pbox_new w pv p).alloc (pobj pv2 q))
  have HB0 := Lib.hid (show PBox ((w.alloc (pobj pv p)).alloc (pobj pv2 q)) (w.heap.size + 1) pv2 q by have := pbox_new (w.alloc (pobj pv p)) pv2 q; simpa using this)
  have Hs := Lib.hid (plan_eq p q)
  obtain ⟨ae, ne, ce, aj, nj, cj, as_, ns, cs, al, nl, cl, lv⟩ := pv
  obtain ⟨ae2, ne2, ce2, aj2, nj2, cj2, as2, ns2, cs2, al2, nl2, cl2, lv2⟩ := pv2
  have HE := Lib.hid (show Elems w ae ne p.elems ∧ Elems w ae2 ne2 q.elems from ⟨h.e, h2.e⟩)
  have HJ := Lib.hid (show Joins w aj nj p.joins ∧ Joins w aj2 nj2 q.joins from ⟨h.j, h2.j⟩)
  have HS := Lib.hid (show Sigs w as_ ns p.sigs ∧ Sigs w as2 ns2 q.sigs from ⟨h.s, h2.s⟩)
  have HLi := Lib.hid (show Lines w al nl lv ∧ Lines w al2 nl2 lv2 from ⟨h.l, h2.l⟩)
  have HL := Lib.hid (show decide (p.lines = q.lines) = decide (lv.map LineV.line = lv2.map LineV.line) by rw [h.lp, h2.lp])
  clear h h2
  dsimp only [PV.val]
  go_enter Try.func28, Try.ntmps28
  go_wp2_with fail
  refine (eqElems _ _ _ _ _ _ _ _ _ (HE.out.1.below hW.out) (HE.out.2.below hW.out)).mono ?_
  rintro e w1 ⟨rfl, hbx⟩
  have Hb1 := Lib.hid (below_step hW.out hbx (by simp; omega))
  have HA1 := Lib.hid (HA0.out.below hbx)
  have HB1 := Lib.hid (HB0.out.below hbx)
  clear hbx
  obtain ⟨_, c0, c1, c2, c3, c4, c5, c6, c7, c8⟩ := HA1.out
  obtain ⟨_, d0, d1, d2, d3, d4, d5, d6, d7, d8⟩ := HB1.out
  dsimp only at c0 c1 c2 c3 d0 d1 d2 d3
  cases t1 : decide (p.elems = q.elems)
  · have Hf := Lib.hid (show decide (p = q) = false by rw [Hs.out, t1]; rfl)
    clear t1
    go_wp2_with fail
    go_ret
    exact ⟨ret_bool Hf.out.symm, Hb1.out⟩
  have T1 := Lib.hid t1; clear t1
  go_wp2_with fail
  refine (eqJoins _ _ _ _ _ _ _ _ _ (HJ.out.1.below Hb1.out) (HJ.out.2.below Hb1.out)).mono ?_
  rintro e w2 ⟨rfl, hbx⟩
  have Hb2 := Lib.hid (below_step Hb1.out hbx Hb1.out.size)
  have HA2 := Lib.hid (HA1.out.below hbx)
  have HB2 := Lib.hid (HB1.out.below hbx)
  clear hbx c0 c1 c2 c3 c4 c5 c6 c7 c8 d0 d1 d2 d3 d4 d5 d6 d7 d8
  obtain ⟨_, c0, c1, c2, c3, c4, c5, c6, c7, c8⟩ := HA2.out
  obtain ⟨_, d0, d1, d2, d3, d4, d5, d6, d7, d8⟩ := HB2.out
  dsimp only at c0 c1 c2 c3 d0 d1 d2 d3
  cases t1 : decide (p.joins = q.joins)
  · have Hf := Lib.hid (show decide (p = q) = false by rw [Hs.out, T1.out, t1]; rfl)
    clear t1
    go_wp2_with fail
    go_ret
    exact ⟨ret_bool Hf.out.symm, Hb2.out⟩
  have T2 := Lib.hid t1; clear t1
  go_wp2_with fail
  refine (eqSigs _ _ _ _ _ _ _ _ _ (HS.out.1.below Hb2.out) (HS.out.2.below Hb2.out)).mono ?_
  rintro e w3 ⟨rfl, hbx⟩
  have Hb3 := Lib.hid (below_step Hb2.out hbx Hb2.out.size)
  have HA3 := Lib.hid (HA2.out.below hbx)
  have HB3 := Lib.hid (HB2.out.below hbx)
  clear hbx c0 c1 c2 c3 c4 c5 c6 c7 c8 d0 d1 d2 d3 d4 d5 d6 d7 d8
  obtain ⟨_, c0, c1, c2, c3, c4, c5, c6, c7, c8⟩ := HA3.out
  obtain ⟨_, d0, d1, d2, d3, d4, d5, d6, d7, d8⟩ := HB3.out
  dsimp only at c0 c1 c2 c3 d0 d1 d2 d3
  cases t1 : decide (p.sigs = q.sigs)
  · have Hf := Lib.hid (show decide (p = q) = false by rw [Hs.out, T1.out, T2.out, t1]; rfl)
    clear t1
    go_wp2_with fail
    go_ret
    exact ⟨ret_bool Hf.out.symm, Hb3.out⟩
  have T3 := Lib.hid t1; clear t1
  go_wp2_with fail
  refine (eqLines _ _ _ _ _ _ _ _ _ (HLi.out.1.below Hb3.out) (HLi.out.2.below Hb3.out)).mono ?_
  rintro e w4 ⟨rfl, hbx⟩
  have Hb4 := Lib.hid (below_step Hb3.out hbx Hb3.out.size)
  have HA4 := Lib.hid (HA3.out.below hbx)
  have HB4 := Lib.hid (HB3.out.below hbx)
  clear hbx c0 c1 c2 c3 c4 c5 c6 c7 c8 d0 d1 d2 d3 d4 d5 d6 d7 d8
  obtain ⟨_, c0, c1, c2, c3, c4, c5, c6, c7, c8⟩ := HA4.out
  obtain ⟨_, d0, d1, d2, d3, d4, d5, d6, d7, d8⟩ := HB4.out
  dsimp only at c0 c1 c2 c3 d0 d1 d2 d3
  cases t1 : decide (lv.map LineV.line = lv2.map LineV.line)
  · have Hf := Lib.hid (show decide (p = q) = false by rw [Hs.out, T1.out, T2.out, T3.out, HL.out, t1]; rfl)
    clear t1
    go_wp2_with fail
    go_ret
    exact ⟨ret_bool Hf.out.symm, Hb4.out⟩
  have Hf := Lib.hid (show decide (p = q) = ((p.top == q.top) && ((p.brake == q.brake) && ((p.margin == q.margin) && ((p.throw == q.throw) && (p.hard == q.hard))))) by rw [Hs.out, T1.out, T2.out, T3.out, HL.out, t1]; rfl)
  clear t1
  cases s1 : (p.top == q.top)
  · go_wp2_with fail
    go_ret
    exact ⟨ret_bool (by rw [Hf.out, s1]; rfl), Hb4.out⟩
  cases s2 : (p.brake == q.brake)
  · go_wp2_with fail
    go_ret
    exact ⟨ret_bool (by rw [Hf.out, s1, s2]; rfl), Hb4.out⟩
  cases s3 : (p.margin == q.margin)
  · go_wp2_with fail
    go_ret
    exact ⟨ret_bool (by rw [Hf.out, s1, s2, s3]; rfl), Hb4.out⟩
  cases s4 : (p.throw == q.throw)
  · go_wp2_with fail
    go_ret
    exact ⟨ret_bool (by rw [Hf.out, s1, s2, s3, s4]; rfl), Hb4.out⟩
  · go_wp2_with fail
    go_ret
    exact ⟨ret_bool (by rw [Hf.out, s1, s2, s3, s4]; simp), Hb4.out⟩

/-! the small plan -/
def bytes1 (c : UInt8) : ByteArray := ⟨#[c]⟩
def smallPlan : Plan where
  elems := [⟨bytes1 87, 4, 0⟩, ⟨bytes1 65, 1, 20⟩, ⟨bytes1 80, 2, 10⟩, ⟨bytes1 66, 1, 20⟩, ⟨bytes1 67, 1, 30⟩, ⟨bytes1 69, 4, 0⟩]
  joins := [⟨⟨0, 0⟩, ⟨1, 0⟩⟩, ⟨⟨1, 1⟩, ⟨2, 0⟩⟩, ⟨⟨2, 1⟩, ⟨3, 0⟩⟩, ⟨⟨3, 1⟩, ⟨5, 0⟩⟩, ⟨⟨2, 2⟩, ⟨4, 0⟩⟩]
  sigs := [⟨bytes1 119, ⟨0, 0⟩, false⟩, ⟨bytes1 97, ⟨1, 1⟩, false⟩, ⟨bytes1 101, ⟨5, 0⟩, false⟩, ⟨bytes1 98, ⟨3, 0⟩, false⟩, ⟨bytes1 99, ⟨4, 0⟩, false⟩]
  lines := []
  top := 10
  brake := 5
  margin := 15
  throw := 2
  hard := false
theorem join_any (w : World) (a x b y : Int) : Calls Try.prog 89 #[.int .i64 a, .int .i64 x, .int .i64 b, .int .i64 y] w fun e w' => e = .returned (.agg #[.int .i64 a, .int .i64 x, .int .i64 b, .int .i64 y]) ∧ w' = w.alloc (.cells #[.int .i64 a, .int .i64 x, .int .i64 b, .int .i64 y] 48) := by
  go_enter Try.func89, Try.ntmps89
  go_wp2_with fail
  exact bodyPost_ret (v := .agg #[.int .i64 a, .int .i64 x, .int .i64 b, .int .i64 y]) (by simp [results, Try.results89, go_sem]) rfl ⟨rfl, rfl⟩
theorem heap_new_at {u : World} {o : Obj} {b : Nat} (h : u.heap.size = b) : (u.alloc o).heap[b]? = some o := by
  subst h; exact heap_alloc_new u o
theorem row_block {α : Type} {sz : Nat} {enc : α → List Value} (henc : ∀ x, (enc x).length = sz) (hsz : 0 < sz) {W : World} {b : Nat} {cs : Array Value} {T : TypeId} (xs : List α) {n : Nat}
    (hb : W.heap[b]? = some (.cells cs T)) (hcs : cs.toList = xs.flatMap enc) (hn : xs.length = n) (hm : n ≤ 100000) : Row sz enc W (some ⟨b, 0, none⟩) n xs := by
  have hl : (xs.flatMap enc).length = n * sz := by
    subst hn
    clear hcs hm
    induction xs with
    | nil => simp
    | cons x r ih => simp only [List.flatMap_cons, List.length_append, henc, ih, List.length_cons, Nat.succ_mul]; omega
  have hs : cs.size = n * sz := by rw [← Array.length_toList, hcs, hl]
  have h : W.ownsRow 0 T sz (.slice (some ⟨b, 0, none⟩) n n) n (xs.flatMap enc) :=
    ⟨hl, .inr ⟨b, n, cs, rfl, Nat.zero_le _, hb, Nat.le_refl _, by simp [maxLen]; omega, hs, by rw [hcs]; exact List.take_of_length_le (by omega)⟩⟩
  exact (owns_row henc h hsz).1
theorem small_fit : PlanFit ⟨some ⟨0, 0, none⟩, 6, 6, some ⟨0, 0, none⟩, 5, 5, some ⟨0, 0, none⟩, 5, 5, none, 0, 0, []⟩ smallPlan := by
  refine ⟨by simp, by simp, by simp, by simp, by simp, ?_, ?_, ?_, by simp [smallPlan], ?_, ?_, ?_, ?_⟩
  · intro x hx; simp [smallPlan] at hx; rcases hx with rfl | rfl | rfl | rfl | rfl | rfl <;> (refine ⟨⟨?_, ?_⟩, ⟨?_, ?_⟩, ?_⟩ <;> decide)
  · intro x hx; simp [smallPlan] at hx; rcases hx with rfl | rfl | rfl | rfl | rfl <;> (refine ⟨⟨⟨?_, ?_⟩, ⟨?_, ?_⟩⟩, ⟨⟨?_, ?_⟩, ⟨?_, ?_⟩⟩⟩ <;> decide)
  · intro x hx; simp [smallPlan] at hx; rcases hx with rfl | rfl | rfl | rfl | rfl <;> (refine ⟨⟨⟨?_, ?_⟩, ⟨?_, ?_⟩⟩, ?_⟩ <;> decide)
  all_goals (refine ⟨?_, ?_⟩ <;> decide)
def SmallPost (w : World) (e : Ending) (w' : World) : Prop := ∃ pv : PV, e = .returned (pv.val smallPlan) ∧ PlanAt w' pv smallPlan ∧ pv.lv = [] ∧ Below w.heap.size w w'
set_option maxHeartbeats 4000000 in
theorem small_any (w : World) : Calls Try.prog 58 #[] w (SmallPost w) := by
  go_enter Try.func58, Try.ntmps58
  go_wp2_with fail
  refine (join_any _ _ _ _ _).mono ?_; rintro e w' ⟨rfl, rfl⟩
  go_wp2_with fail
  refine (join_any _ _ _ _ _).mono ?_; rintro e w' ⟨rfl, rfl⟩
  go_wp2_with fail
  refine (join_any _ _ _ _ _).mono ?_; rintro e w' ⟨rfl, rfl⟩
  go_wp2_with fail
  refine (join_any _ _ _ _ _).mono ?_; rintro e w' ⟨rfl, rfl⟩
  go_wp2_with fail
  refine (join_any _ _ _ _ _).mono ?_; rintro e w' ⟨rfl, rfl⟩
  go_wp2_with fail
  refine bodyPost_ret (v := .agg #[.slice (some ⟨w.heap.size + 1 + 1, 0, none⟩) 6 6, .slice (some ⟨w.heap.size + 1 + 1 + 1 + 1 + 1 + 1 + 1 + 1, 0, none⟩) 5 5, .slice (some ⟨w.heap.size + 1 + 1 + 1 + 1 + 1 + 1 + 1 + 1 + 1, 0, none⟩) 5 5, .slice none 0 0, .int .i64 10, .int .i64 5, .int .i64 15, .int .i64 2, .bool false]) (by simp [results, Try.results58, go_sem]) rfl ?_
  refine ⟨⟨some ⟨w.heap.size + 1 + 1, 0, none⟩, 6, 6, some ⟨w.heap.size + 1 + 1 + 1 + 1 + 1 + 1 + 1 + 1, 0, none⟩, 5, 5, some ⟨w.heap.size + 1 + 1 + 1 + 1 + 1 + 1 + 1 + 1 + 1, 0, none⟩, 5, 5, none, 0, 0, []⟩, rfl, ⟨?_, ?_, ?_, ⟨Row.nil _ _, by simp⟩, rfl, ?_⟩, rfl, ?_⟩
  · refine row_block (sz := 3) (n := 6) (T := 42) (cs := #[.string (bytes1 87), .int .i64 4, .int .i64 0, .string (bytes1 65), .int .i64 1, .int .i64 20, .string (bytes1 80), .int .i64 2, .int .i64 10, .string (bytes1 66), .int .i64 1, .int .i64 20, .string (bytes1 67), .int .i64 1, .int .i64 30, .string (bytes1 69), .int .i64 4, .int .i64 0]) (fun _ => rfl) (by omega) smallPlan.elems ?_ ?_ rfl (by omega)
    · repeat (first | (refine heap_new_at ?_; (simp; done)) | (refine (Below.heap_alloc _ _ _ ?_).trans ?_; (simp <;> omega)))
    · rfl
  · refine row_block (sz := 4) (n := 5) (T := 48) (cs := #[.int .i64 0, .int .i64 0, .int .i64 1, .int .i64 0, .int .i64 1, .int .i64 1, .int .i64 2, .int .i64 0, .int .i64 2, .int .i64 1, .int .i64 3, .int .i64 0, .int .i64 3, .int .i64 1, .int .i64 5, .int .i64 0, .int .i64 2, .int .i64 2, .int .i64 4, .int .i64 0]) (fun _ => rfl) (by omega) smallPlan.joins ?_ ?_ rfl (by omega)
    · repeat (first | (refine heap_new_at ?_; (simp; done)) | (refine (Below.heap_alloc _ _ _ ?_).trans ?_; (simp <;> omega)))
    · rfl
  · refine row_block (sz := 4) (n := 5) (T := 46) (cs := #[.string (bytes1 119), .int .i64 0, .int .i64 0, .bool false, .string (bytes1 97), .int .i64 1, .int .i64 1, .bool false, .string (bytes1 101), .int .i64 5, .int .i64 0, .bool false, .string (bytes1 98), .int .i64 3, .int .i64 0, .bool false, .string (bytes1 99), .int .i64 4, .int .i64 0, .bool false]) (fun _ => rfl) (by omega) smallPlan.sigs ?_ ?_ rfl (by omega)
    · repeat (first | (refine heap_new_at ?_; (simp; done)) | (refine (Below.heap_alloc _ _ _ ?_).trans ?_; (simp <;> omega)))
    · rfl
  · exact ⟨by simp, by simp, by simp, by simp, by simp, small_fit.e, small_fit.j, small_fit.s, small_fit.l, small_fit.top, small_fit.brake, small_fit.margin, small_fit.throw⟩
  · exact (by repeat (first | with_reducible exact Below.refl _ _ | with_reducible assumption | with_reducible apply below_drewN | with_reducible apply Below.drew | with_reducible refine Below.alloc ?_ (by simp <;> omega) _))
end Go.Proofs.Ytlndfmflbdkpjaa
