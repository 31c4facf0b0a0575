/- PlanFinds: for every input the law returns true. No condition. -/
import Derived.Test.YtlndfmflbdkpjaaLawK2
import Derived.Test.YtlndfmflbdkpjaaRefF2
set_option maxRecDepth 1000000
namespace Go.Proofs.Ytlndfmflbdkpjaa
open Go.ChangeShapes Go.WideShapes Go.ChangeAt Go.RowKit

theorem same_lit (w : World) (pv pv2 : PV) (p q : Plan) (h : PlanAt w pv p) (h2 : PlanAt w pv2 q) : Calls Try.prog 28 #[.agg #[.slice pv.ae pv.ne pv.ce, .slice pv.aj pv.nj pv.cj, .slice pv.as_ pv.ns pv.cs, .slice pv.al pv.nl pv.cl, .int .i64 p.top, .int .i64 p.brake, .int .i64 p.margin, .int .i64 p.throw, .bool p.hard], .agg #[.slice pv2.ae pv2.ne pv2.ce, .slice pv2.aj pv2.nj pv2.cj, .slice pv2.as_ pv2.ns pv2.cs, .slice pv2.al pv2.nl pv2.cl, .int .i64 q.top, .int .i64 q.brake, .int .i64 q.margin, .int .i64 q.throw, .bool q.hard]] w fun e w' => e = .returned (.bool (decide (p = q))) ∧ Below w.heap.size w w' := same_any w pv pv2 p q h h2
theorem refsame_lit (w : World) (pv pv2 : PV) (p q : Plan) (h : PlanAt w pv p) (h2 : PlanAt w pv2 q) : Calls Try.prog 29 #[.agg #[.slice pv.ae pv.ne pv.ce, .slice pv.aj pv.nj pv.cj, .slice pv.as_ pv.ns pv.cs, .slice pv.al pv.nl pv.cl, .int .i64 p.top, .int .i64 p.brake, .int .i64 p.margin, .int .i64 p.throw, .bool p.hard], .agg #[.slice pv2.ae pv2.ne pv2.ce, .slice pv2.aj pv2.nj pv2.cj, .slice pv2.as_ pv2.ns pv2.cs, .slice pv2.al pv2.nl pv2.cl, .int .i64 q.top, .int .i64 q.brake, .int .i64 q.margin, .int .i64 q.throw, .bool q.hard]] w fun e w' => e = .returned (.bool (decide (p = q))) ∧ Below w.heap.size w w' := refsame_any w pv pv2 p q h h2
theorem find_lit (w : World) (pv : PV) (p : Plan) (s : ByteArray) (h : PlanAt w pv p) : Calls Try.prog 26 #[.agg #[.slice pv.ae pv.ne pv.ce, .slice pv.aj pv.nj pv.cj, .slice pv.as_ pv.ns pv.cs, .slice pv.al pv.nl pv.cl, .int .i64 p.top, .int .i64 p.brake, .int .i64 p.margin, .int .i64 p.throw, .bool p.hard], .string s] w fun e w' => e = .returned (.int .i64 (findName p.elems s)) ∧ Below w.heap.size w w' := find_any w pv p s h
theorem reffind_lit (w : World) (pv : PV) (p : Plan) (s : ByteArray) (h : PlanAt w pv p) : Calls Try.prog 27 #[.agg #[.slice pv.ae pv.ne pv.ce, .slice pv.aj pv.nj pv.cj, .slice pv.as_ pv.ns pv.cs, .slice pv.al pv.nl pv.cl, .int .i64 p.top, .int .i64 p.brake, .int .i64 p.margin, .int .i64 p.throw, .bool p.hard], .string s] w fun e w' => e = .returned (.int .i64 (findName p.elems s)) ∧ Below w.heap.size w w' := reffind_any w pv p s h
theorem same_flip (w : World) (pv pv2 : PV) (p q : Plan) (h : PlanAt w pv p) (h2 : PlanAt w pv2 q) : Calls Try.prog 28 #[.agg #[.slice pv2.ae pv2.ne pv2.ce, .slice pv2.aj pv2.nj pv2.cj, .slice pv2.as_ pv2.ns pv2.cs, .slice pv2.al pv2.nl pv2.cl, .int .i64 q.top, .int .i64 q.brake, .int .i64 q.margin, .int .i64 q.throw, .bool q.hard], .agg #[.slice pv.ae pv.ne pv.ce, .slice pv.aj pv.nj pv.cj, .slice pv.as_ pv.ns pv.cs, .slice pv.al pv.nl pv.cl, .int .i64 p.top, .int .i64 p.brake, .int .i64 p.margin, .int .i64 p.throw, .bool p.hard]] w fun e w' => e = .returned (.bool (decide (p = q))) ∧ Below w.heap.size w w' := (same_any w pv2 pv q p h2 h).mono fun _ _ ⟨a, b⟩ => ⟨by rw [a]; congr 2; simp [eq_comm], b⟩
structure Two (w : World) (b : Nat) (pv pv2 : PV) (p q : Plan) (w' : World) : Prop where
  a : PBox w' b pv p
  b : PBox w' (b + 1) pv2 q
  c : Below w.heap.size w w'
theorem Two.below {w : World} {b : Nat} {pv pv2 : PV} {p q : Plan} {w1 w2 : World} (h : Two w b pv pv2 p q w1) (hb : Below w1.heap.size w1 w2) : Two w b pv pv2 p q w2 := ⟨h.a.below hb, h.b.below hb, below_step h.c hb h.c.size⟩
theorem Two.drew {w : World} {b : Nat} {pv pv2 : PV} {p q : Plan} {w1 : World} (h : Two w b pv pv2 p q w1) : Two w b pv pv2 p q w1.drew := ⟨h.a.drewN 1, h.b.drewN 1, below_drewN h.c 1⟩
theorem Two.drewN {w : World} {b : Nat} {pv pv2 : PV} {p q : Plan} {w1 : World} (h : Two w b pv pv2 p q w1) (n : Nat) : Two w b pv pv2 p q (w1.drewN n) := ⟨h.a.drewN n, h.b.drewN n, below_drewN h.c n⟩
theorem two_all {w : World} {b : Nat} {pv pv2 : PV} {p q : Plan} {w' : World} (h : Two w b pv pv2 p q w') : w'.cell? ⟨b, 0, none⟩ = some (.slice pv.ae pv.ne pv.ce) ∧ w'.cell? ⟨b, 1, none⟩ = some (.slice pv.aj pv.nj pv.cj) ∧ w'.cell? ⟨b, 2, none⟩ = some (.slice pv.as_ pv.ns pv.cs) ∧ w'.cell? ⟨b, 3, none⟩ = some (.slice pv.al pv.nl pv.cl) ∧ w'.cell? ⟨b, 4, none⟩ = some (.int .i64 p.top) ∧ w'.cell? ⟨b, 5, none⟩ = some (.int .i64 p.brake) ∧ w'.cell? ⟨b, 6, none⟩ = some (.int .i64 p.margin) ∧ w'.cell? ⟨b, 7, none⟩ = some (.int .i64 p.throw) ∧ w'.cell? ⟨b, 8, none⟩ = some (.bool p.hard) ∧ w'.cell? ⟨b + 1, 0, none⟩ = some (.slice pv2.ae pv2.ne pv2.ce) ∧ w'.cell? ⟨b + 1, 1, none⟩ = some (.slice pv2.aj pv2.nj pv2.cj) ∧ w'.cell? ⟨b + 1, 2, none⟩ = some (.slice pv2.as_ pv2.ns pv2.cs) ∧ w'.cell? ⟨b + 1, 3, none⟩ = some (.slice pv2.al pv2.nl pv2.cl) ∧ w'.cell? ⟨b + 1, 4, none⟩ = some (.int .i64 q.top) ∧ w'.cell? ⟨b + 1, 5, none⟩ = some (.int .i64 q.brake) ∧ w'.cell? ⟨b + 1, 6, none⟩ = some (.int .i64 q.margin) ∧ w'.cell? ⟨b + 1, 7, none⟩ = some (.int .i64 q.throw) ∧ w'.cell? ⟨b + 1, 8, none⟩ = some (.bool q.hard) := by
  obtain ⟨_, c0, c1, c2, c3, c4, c5, c6, c7, c8⟩ := h.a
  obtain ⟨_, d0, d1, d2, d3, d4, d5, d6, d7, d8⟩ := h.b
  exact ⟨c0, c1, c2, c3, c4, c5, c6, c7, c8, d0, d1, d2, d3, d4, d5, d6, d7, d8⟩

set_option maxHeartbeats 4000000 in
theorem lawFinds_any (w : World) (pv pv2 : PV) (p q : Plan) (s : ByteArray) (h : PlanAt w pv p) (h2 : PlanAt w pv2 q) (hs : s.size ≤ 9223372036854775807) :
    Calls Try.prog 6 #[pv.val p, pv2.val q, .string s] w fun e w' => e = .returned (.bool true) ∧ Below w.heap.size w w' := by
  have HP := Lib.hid h
  have HQ := Lib.hid h2
  clear h h2
  have HA0 := Lib.hid ((pbox_new w pv p).alloc (pobj pv2 q))
  have HB0 := Lib.hid (show PBox ((w.alloc (pobj pv p)).alloc (pobj pv2 q)) (w.heap.size + 1) pv2 q by have := pbox_new (w.alloc (pobj pv p)) pv2 q; simpa using this)
  have HW := Lib.hid (below_new2 w (pobj pv p) (pobj pv2 q))
  have K := Lib.hid (known2_any ((w.alloc (pobj pv p)).alloc (pobj pv2 q)))
  unfold PV.val
  go_enter Try.func6, Try.ntmps6
  go_wp2_with fail
  refine K.out.mono ?_
  rintro e w1 ⟨rfl, hbx⟩
  have HA1 := Lib.hid (HA0.out.below hbx)
  have HB1 := Lib.hid (HB0.out.below hbx)
  have Hb1 := Lib.hid (below_step HW.out hbx (by simp; omega))
  clear hbx
  obtain ⟨_, c0, c1, c2, c3, c4, c5, c6, c7, c8⟩ := HA1.out
  obtain ⟨_, d0, d1, d2, d3, d4, d5, d6, d7, d8⟩ := HB1.out
  go_wp2_with fail
  refine (reffew_any _ pv p (HP.out.below Hb1.out)).mono ?_
  rintro e w2 ⟨b1, rfl, -, hbx⟩
  have HA2 := Lib.hid (HA1.out.below hbx)
  have HB2 := Lib.hid (HB1.out.below hbx)
  have Hb2 := Lib.hid (below_step Hb1.out hbx Hb1.out.size)
  clear hbx c0 c1 c2 c3 c4 c5 c6 c7 c8 d0 d1 d2 d3 d4 d5 d6 d7 d8
  obtain ⟨_, c0, c1, c2, c3, c4, c5, c6, c7, c8⟩ := HA2.out
  obtain ⟨_, d0, d1, d2, d3, d4, d5, d6, d7, d8⟩ := HB2.out
  cases b1
  · go_wp2_with fail
    go_ret
    exact ⟨ret_bool (by simp), Hb2.out⟩
  go_wp2_with fail
  refine (reffew_any _ pv2 q (HQ.out.below Hb2.out)).mono ?_
  rintro e w3 ⟨b2, rfl, -, hbx⟩
  have HA3 := Lib.hid (HA2.out.below hbx)
  have HB3 := Lib.hid (HB2.out.below hbx)
  have Hb3 := Lib.hid (below_step Hb2.out hbx Hb2.out.size)
  clear hbx c0 c1 c2 c3 c4 c5 c6 c7 c8 d0 d1 d2 d3 d4 d5 d6 d7 d8
  obtain ⟨_, c0, c1, c2, c3, c4, c5, c6, c7, c8⟩ := HA3.out
  obtain ⟨_, d0, d1, d2, d3, d4, d5, d6, d7, d8⟩ := HB3.out
  cases b2
  · go_wp2_with fail
    go_ret
    exact ⟨ret_bool (by simp), Hb3.out⟩
  cases t3 : decide (100 < (s.size : Int))
  case true =>
    go_wp2_with fail
    go_ret
    exact ⟨ret_bool (by simp), Hb3.out⟩
  go_wp2_with fail
  have hT : Two w w.heap.size pv pv2 p q w3 := ⟨HA3.out, HB3.out, Hb3.out⟩
  clear t3
  go_region_held3 (fun w' => w'.cell? ⟨w.heap.size, 0, none⟩ = some (.slice pv.ae pv.ne pv.ce) ∧ w'.cell? ⟨w.heap.size, 1, none⟩ = some (.slice pv.aj pv.nj pv.cj) ∧ w'.cell? ⟨w.heap.size, 2, none⟩ = some (.slice pv.as_ pv.ns pv.cs) ∧ w'.cell? ⟨w.heap.size, 3, none⟩ = some (.slice pv.al pv.nl pv.cl) ∧ w'.cell? ⟨w.heap.size, 4, none⟩ = some (.int .i64 p.top) ∧ w'.cell? ⟨w.heap.size, 5, none⟩ = some (.int .i64 p.brake) ∧ w'.cell? ⟨w.heap.size, 6, none⟩ = some (.int .i64 p.margin) ∧ w'.cell? ⟨w.heap.size, 7, none⟩ = some (.int .i64 p.throw) ∧ w'.cell? ⟨w.heap.size, 8, none⟩ = some (.bool p.hard) ∧ w'.cell? ⟨w.heap.size + 1, 0, none⟩ = some (.slice pv2.ae pv2.ne pv2.ce) ∧ w'.cell? ⟨w.heap.size + 1, 1, none⟩ = some (.slice pv2.aj pv2.nj pv2.cj) ∧ w'.cell? ⟨w.heap.size + 1, 2, none⟩ = some (.slice pv2.as_ pv2.ns pv2.cs) ∧ w'.cell? ⟨w.heap.size + 1, 3, none⟩ = some (.slice pv2.al pv2.nl pv2.cl) ∧ w'.cell? ⟨w.heap.size + 1, 4, none⟩ = some (.int .i64 q.top) ∧ w'.cell? ⟨w.heap.size + 1, 5, none⟩ = some (.int .i64 q.brake) ∧ w'.cell? ⟨w.heap.size + 1, 6, none⟩ = some (.int .i64 q.margin) ∧ w'.cell? ⟨w.heap.size + 1, 7, none⟩ = some (.int .i64 q.throw) ∧ w'.cell? ⟨w.heap.size + 1, 8, none⟩ = some (.bool q.hard))
    (first | exact two_all (by repeat (first | with_reducible exact hT | with_reducible apply Two.drew | with_reducible apply Two.drewN)) | go_keep)
    (first
      | (go_at_call 26; with_reducible refine (find_lit _ pv p s (HP.out.below (Two.c (by repeat (first | with_reducible exact hT | with_reducible apply Two.drew | with_reducible apply Two.drewN))))).mono ?_; rintro e w' ⟨rfl, hbx⟩; have hT := Two.below (by repeat (first | with_reducible exact hT | with_reducible apply Two.drew | with_reducible apply Two.drewN)) hbx; clear hbx)
      | (go_at_call 27; with_reducible refine (reffind_lit _ pv p s (HP.out.below (Two.c (by repeat (first | with_reducible exact hT | with_reducible apply Two.drew | with_reducible apply Two.drewN))))).mono ?_; rintro e w' ⟨rfl, hbx⟩; have hT := Two.below (by repeat (first | with_reducible exact hT | with_reducible apply Two.drew | with_reducible apply Two.drewN)) hbx; clear hbx)
      | (go_at_call 28; with_reducible refine (same_lit _ pv pv2 p q (HP.out.below (Two.c (by repeat (first | with_reducible exact hT | with_reducible apply Two.drew | with_reducible apply Two.drewN)))) (HQ.out.below (Two.c (by repeat (first | with_reducible exact hT | with_reducible apply Two.drew | with_reducible apply Two.drewN))))).mono ?_; rintro e w' ⟨rfl, hbx⟩; have hT := Two.below (by repeat (first | with_reducible exact hT | with_reducible apply Two.drew | with_reducible apply Two.drewN)) hbx; clear hbx)
      | (go_at_call 29; with_reducible refine (refsame_lit _ pv pv2 p q (HP.out.below (Two.c (by repeat (first | with_reducible exact hT | with_reducible apply Two.drew | with_reducible apply Two.drewN)))) (HQ.out.below (Two.c (by repeat (first | with_reducible exact hT | with_reducible apply Two.drew | with_reducible apply Two.drewN))))).mono ?_; rintro e w' ⟨rfl, hbx⟩; have hT := Two.below (by repeat (first | with_reducible exact hT | with_reducible apply Two.drew | with_reducible apply Two.drewN)) hbx; clear hbx)
      | (go_at_call 28; with_reducible refine (same_flip _ pv pv2 p q (HP.out.below (Two.c (by repeat (first | with_reducible exact hT | with_reducible apply Two.drew | with_reducible apply Two.drewN)))) (HQ.out.below (Two.c (by repeat (first | with_reducible exact hT | with_reducible apply Two.drew | with_reducible apply Two.drewN))))).mono ?_; rintro e w' ⟨rfl, hbx⟩; have hT := Two.below (by repeat (first | with_reducible exact hT | with_reducible apply Two.drew | with_reducible apply Two.drewN)) hbx; clear hbx)
      | (go_at_call 28; with_reducible refine (same_lit _ pv pv p p (HP.out.below (Two.c (by repeat (first | with_reducible exact hT | with_reducible apply Two.drew | with_reducible apply Two.drewN)))) (HP.out.below (Two.c (by repeat (first | with_reducible exact hT | with_reducible apply Two.drew | with_reducible apply Two.drewN))))).mono ?_; rintro e w' ⟨rfl, hbx⟩; have hT := Two.below (by repeat (first | with_reducible exact hT | with_reducible apply Two.drew | with_reducible apply Two.drewN)) hbx; clear hbx))
  go_wp2_with fail
  go_ret
  exact ⟨ret_bool (by simp), Two.c (by repeat (first | with_reducible exact hT | with_reducible apply Two.drew | with_reducible apply Two.drewN))⟩
set_option maxRecDepth 100000 in
theorem planFinds_lifted (os : Os) (started : os.Started) (H : Type) (enc : TypeId × Value → H) :
    ReturnsInHanded {} Try.checked os 6 .any (Rows.planFindsSpec.pre6 enc Try.prog Try.f6 Rows.planFindsRow.domain false) (Rows.planFindsSpec.post enc Try.prog Try.f6 false true false false) := by
  refine returnsInHanded_of_change (C := Try.checked) own started (by kernel_rfl) Try.func6
    (ChangeSpec.witness6 (enc := enc) (C := Try.checked) false ⟨#[], #[.agg #[.slice none 0 0, .slice none 0 0, .slice none 0 0, .slice none 0 0, .int .i64 0, .int .i64 0, .int .i64 0, .int .i64 0, .bool false], .agg #[.slice none 0 0, .slice none 0 0, .slice none 0 0, .slice none 0 0, .int .i64 0, .int .i64 0, .int .i64 0, .int .i64 0, .bool false], .string ByteArray.empty], []⟩ 8 (by kernel_rfl) (by kernel_rfl) (by kernel_rfl) (by kernel_rfl)) ?_
  intro W base args ds gs before hval0 hW hcnd _
  have hval : ∀ (j : Nat) t v, Try.f6.params[j]? = some t → args[j]? = some v → Value.okWide Try.prog W .any base t v := hval0
  have hW' := hW
  obtain ⟨p, q, hA0, hV, rfl, hfz, hnd⟩ := hW
  have hA : DataW.TrodAll enc Try.prog W 0 (fun _ => true) true Try.f6.params.toList args.toList ds p := hA0
  rw [Try.params6] at hA hval
  obtain ⟨v0, vs0, d0, ds0, p0, q0, hargs, rfl, rfl, k0, r0⟩ := trodAll_cons hA
  obtain ⟨v1, vs1, d1, ds1, p1, q1, rfl, rfl, rfl, k1, r1⟩ := trodAll_cons r0
  obtain ⟨v2, vs2, d2, ds2, p2, q2, rfl, rfl, rfl, k2, r2⟩ := trodAll_cons r1
  obtain ⟨rfl, rfl, rfl⟩ := trodAll_nil r2
  obtain rfl : args = #[v0, v1, v2] := by cases args; simp_all
  obtain ⟨rfl, rfl⟩ := trodVars_none hV
  have lt0 : ∀ x ∈ p0, x.block < W.heap.size := by obtain ⟨m, hm⟩ := k0; exact DataW.trod_lt m _ _ _ hm
  have hv0 := hval 0 32 v0 rfl rfl
  have lt1 : ∀ x ∈ p1, x.block < W.heap.size := by obtain ⟨m, hm⟩ := k1; exact DataW.trod_lt m _ _ _ hm
  have hv1 := hval 1 32 v1 rfl rfl
  have lt2 : ∀ x ∈ p2, x.block < W.heap.size := by obtain ⟨m, hm⟩ := k2; exact DataW.trod_lt m _ _ _ hm
  have hv2 := hval 2 9 v2 rfl rfl
  have fin : Calls Try.prog 6 #[v0, v1, v2] W (fun e W' => e = .returned (.bool true) ∧ Below W.heap.size W W') := by
    obtain ⟨pv, p, rfl, hp⟩ := open_plan hv0 k0
    obtain ⟨pv2, q, rfl, hq⟩ := open_plan hv1 k1
    obtain ⟨s, rfl, hs⟩ := open_s hv2 k2
    exact lawFinds_any W pv pv2 p q s hp hq hs
  clear hA0 hval0
  refine fin.mono fun e W' ⟨he, bel⟩ => ?_
  subst he
  exact ⟨_, rfl, _, _, _, [], _, [], hW', trodAll_mk1 (shut_bool Try.underlying4 _), (trodAll_cons_mk (Below.trod laidOut (by kernel_rfl) (of_decide_eq_true (by kernel_rfl)) k0 bel lt0) (trodAll_cons_mk (Below.trod laidOut (by kernel_rfl) (of_decide_eq_true (by kernel_rfl)) k1 bel lt1) (trodAll_cons_mk (Below.trod laidOut (by kernel_rfl) (of_decide_eq_true (by kernel_rfl)) k2 bel lt2) trodAll_mk0))), rfl, bel.frame _, fun h => by cases h⟩

/-- THE STATEMENT -/
theorem planFinds_holds : Rows.PlanFindsSaid :=
  OpenClaim.holds_of_wide 6 Try.f6 rfl rfl rfl rfl rfl rfl rfl ⟨rfl, rfl, rfl, rfl, rfl⟩ rfl rfl rfl rfl rfl (by kernel_rfl) Try.func6 (by kernel_rfl)
    (of_decide_eq_true (by kernel_rfl)) (by unfold Func.isWrapper; first | (rw [if_pos (by decide +kernel)]; kernel_rfl) | (rw [if_neg (by decide +kernel)]; exact ⟨rfl, rfl⟩))
    (fun os started H enc _ => planFinds_lifted os started H enc)
end Go.Proofs.Ytlndfmflbdkpjaa
