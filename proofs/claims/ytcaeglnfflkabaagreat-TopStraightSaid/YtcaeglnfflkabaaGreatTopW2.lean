/- Walks of road.path.push and pop. Condition: the path and the net are read. -/
import Derived.Test.YtcaeglnfflkabaaGreatTopPath
set_option maxRecDepth 1000000
namespace Go.Proofs.YtcaeglnfflkabaaGreat
open Go.ChangeShapes Go.WideShapes Go.ChangeAt Go.RowKit Go.Sort

/-- append of a row, with the place of the new slice -/
theorem wpList_appB {α : Type} {sz : Nat} {enc : α → List Value} (henc : ∀ x, (enc x).length = sz) (hone : ∀ x, ∀ u ∈ enc x, u.oneCell' = true)
    {P : Program} (w : World) {ops : Array Oper} {rest : List Oper} {o : Oper} {ac : Act} {Q : Exit → Act → World → Prop} (hgd : o.guard = none) (s x : Operand) (t : TypeId)
    (ho : o.op = .call { callee := .builtin .append, args := #[s, x], argTypes := #[t, t] })
    (base : Nat) (e : TypeId) (z : Value) (bytes : Nat) (ht : P.underlying t = some (.slice e)) (hinfo : (P.info? e).map (fun i => (i.zero, i.size, i.bytes)) = some (some z, sz, bytes))
    (hzs : z.cells.size = sz) (hsz : 0 < sz) (v : Value) (n : Nat) (xs : List α) (hs : ac.eval s = v) (hown : w.ownsRow base e sz v n (xs.flatMap enc))
    (a : Option Addr) (m c : Nat) (ys : List α) (hx : ac.eval x = .slice a m c) (hrow : Row sz enc w a m ys) (hc : a = none → c = 0)
    (h63 : n + m ≤ maxLen) (hbytes : (n + m) * bytes ≤ 140737488355328) (hbase : base ≤ w.heap.size)
    (h : ∀ v' w', w'.ownsRow base e sz v' (n + m) ((xs ++ ys).flatMap enc) → w.grownBy w' v.ownBlock → (v'.ownBlock = v.ownBlock ∨ v'.ownBlock = some w.heap.size) → wpList P ops Q rest (ac.put o.dst v') w') : wpList P ops Q (o :: rest) ac w := by
  refine wpList_plain hgd fun K' hK' => ?_
  obtain ⟨v', w', hr, h2, h3, _, h5⟩ := run_app henc hone (P := P) w t o.type base e z bytes ht hinfo hzs hsz v n xs hown a m c ys hrow hc h63 hbytes hbase
  unfold Oper.wp execOp
  simp only [ho, resolve, invoke, builtin, Sem.run_bind, Sem.run_pure, Result.andThen_ok, List.map_toArray, List.map_cons, List.map_nil, hs, hx, hr]
  exact hK' _ _ (h v' w' h2 h3 h5)
theorem encInt_lenT (x : Int) : (encInt x).length = 1 := rfl
theorem encInt_oneT (x : Int) : ∀ u ∈ encInt x, u.oneCell' = true := by intro u hu; simp [encInt] at hu; subst hu; rfl
theorem row_int1 {w : World} {g : Nat} {x : Int} (h : w.heap[g]? = some (.cells #[.int .i64 x] 3)) : Row 1 encInt w (some ⟨g, 0, none⟩) 1 [x] :=
  row_block (sz := 1) (enc := encInt) (fun _ => rfl) (by decide) [x] h rfl rfl (by omega)
theorem encStp_len (x : Stp) : (encStp x).length = 3 := rfl
theorem info_stp : (Tryz.prog.info? 146).map (fun i => (i.zero, i.size, i.bytes)) = some (some (.agg #[.int .i64 0, .int .i64 0, .int .i64 0]), 3, 24) := by kernel_rfl
theorem info_ways : (Tryz.prog.info? 227).map (fun i => (i.zero, i.size, i.bytes)) = some (some (.slice none 0 0), 1, 24) := by kernel_rfl
theorem row_stp1 {w : World} {g : Nat} {s : Stp} (h : w.heap[g]? = some (.cells #[.int .i64 s.e, .int .i64 s.i, .int .i64 s.o] 146)) : Row 3 encStp w (some ⟨g, 0, none⟩) 1 [s] :=
  row_block (sz := 3) (enc := encStp) (fun _ => rfl) (by decide) [s] h rfl rfl (by omega)
theorem row_ws1 {w : World} {g : Nat} {s : WS} (h : w.heap[g]? = some (.cells #[.slice s.a s.n s.c] 227)) : Row 1 encWS w (some ⟨g, 0, none⟩) 1 [s] :=
  row_block (sz := 1) (enc := encWS) (fun _ => rfl) (by decide) [s] h rfl rfl (by omega)
theorem NearR.below0 {w0 w w' : World} {b base : Nat} {l l' : List Value} (h : NearR b l l' w w') (hb : Below w0.heap.size w0 w) (hl : ∀ v ∈ l, ∀ k, v.ownBlock = some k → base ≤ k) (h0 : w0.heap.size ≤ b) (h1 : b < base) : Below w0.heap.size w0 w' := by
  refine ⟨h.os.trans hb.os, h.tape.trans hb.tape, h.output.trans hb.output, Nat.le_trans hb.size h.size, fun k hk => ?_⟩
  exact (h.block k (Nat.lt_of_lt_of_le hk hb.size) (by omega) (fun v hv hc => by have := hl v hv k hc; omega)).trans (hb.block k hk)
def PushPost (w : World) (b base : Nat) (berth : Int) (sv pv lv : Value) (xs : List Stp) (ps : List Int) (ls : List WS) (p : Plan) (x : Port) (e : Ending) (w' : World) : Prop := e = .returned (.tuple #[]) ∧ ∃ sv' pv' lv' y,
  PathIs w' b base berth sv' pv' lv' (xs ++ [⟨x.e, x.n, -1⟩]) (ps ++ [0]) (ls ++ [y]) ∧ Row 2 encWay w' y.a y.n (outs p x.e x.n) ∧ y.n ≤ y.c ∧ NearR b [sv, pv, lv] [sv', pv', lv'] w w'
set_option maxHeartbeats 4000000 in
theorem push_any (w w0 : World) (b base : Nat) (berth : Int) (sv pv lv : Value) (xs : List Stp) (ps : List Int) (ls : List WS) (nb : Nat) (p : Plan) (x : Port) (h : PathIs w b base berth sv pv lv xs ps ls)
    (hn : NetAt w0 nb p) (h0 : Below w0.heap.size w0 w) (hb0 : w0.heap.size ≤ b) (h1 : xs.length < 12) (h2 : ps.length < 12) (h3 : ls.length < 12) :
    Calls Tryz.prog 128 #[.pointer (some ⟨b, 0, none⟩), .pointer (some ⟨nb, 0, none⟩), .agg #[.int .i64 x.e, .int .i64 x.n]] w (PushPost w b base berth sv pv lv xs ps ls p x) := by
  obtain ⟨W1, hW1⟩ : ∃ W1, W1 = w.alloc (.cells #[.int .i64 x.e, .int .i64 x.n] 43) := ⟨_, rfl⟩
  have Hb1 := Lib.hid (show Below w.heap.size w W1 by rw [hW1]; exact below_new w _)
  have HS1 := Lib.hid (h.below Hb1.out)
  have u0 : W1.cell? ⟨w.heap.size, 0, none⟩ = some (.int .i64 x.e) := by rw [hW1]; go_simp
  have u1 : W1.cell? ⟨w.heap.size, 1, none⟩ = some (.int .i64 x.n) := by rw [hW1]; go_simp
  have hg1 : w.heap.size < W1.heap.size := by rw [hW1]; simp
  have hbl1 := HS1.out.bl
  have hle1 := HS1.out.le
  obtain ⟨sa, sc, rfl, _, _⟩ := own_slice h.os
  obtain ⟨pa, pc, rfl, _, _⟩ := own_slice h.oi
  obtain ⟨la, lc, rfl, _, _⟩ := own_slice h.ol
  have m1 := HS1.out.c1
  have hun : ∀ v ∈ [Value.slice sa xs.length sc, Value.slice pa ps.length pc, Value.slice la ls.length lc], v.ownBlock ≠ some w.heap.size := by
    intro v hv hc
    simp only [List.mem_cons, List.not_mem_nil, or_false] at hv
    rcases hv with rfl | rfl | rfl
    · exact absurd (h.os.lt _ hc).2 (Nat.lt_irrefl _)
    · exact absurd (h.oi.lt _ hc).2 (Nat.lt_irrefl _)
    · exact absurd (h.ol.lt _ hc).2 (Nat.lt_irrefl _)
  have Hun := Lib.hid hun
  clear hun
  have hbw : b < w.heap.size := h.bl
  have Hlow := Lib.hid (HS1.out.lows)
  have Hn := Lib.hid hn
  have H0 := Lib.hid h0
  have HbS := Lib.hid h.lt
  clear h hn h0
  go_enter Tryz.func128, Tryz.ntmps128
  go_wp2_with fail
  rw [← hW1]
  clear hW1
  have hSall : ∀ w' : World, Below (W1).heap.size (W1) w' → (w'.cell? ⟨b, 1, none⟩ = some (.slice sa xs.length sc) ∧ w'.cell? ⟨w.heap.size, 0, none⟩ = some (.int .i64 x.e) ∧ w'.cell? ⟨w.heap.size, 1, none⟩ = some (.int .i64 x.n)) := fun w' hb => ⟨(hb.cell (p := ⟨b, 1, none⟩) hbl1).trans m1, (hb.cell (p := ⟨w.heap.size, 0, none⟩) hg1).trans u0, (hb.cell (p := ⟨w.heap.size, 1, none⟩) hg1).trans u1⟩
  refine wp_region_noPanic ?_
  refine region_ob (S := fun w' => w'.cell? ⟨b, 1, none⟩ = some (.slice sa xs.length sc) ∧ w'.cell? ⟨w.heap.size, 0, none⟩ = some (.int .i64 x.e) ∧ w'.cell? ⟨w.heap.size, 1, none⟩ = some (.int .i64 x.n)) (ob := fun t => decide (t < 11) && !decide (t = 0)) (by kernel_rfl) ?_
  refine ob_pure (i := 0) (v := .pointer (some ⟨b, 0, none⟩)) rfl (by kernel_rfl) (by kernel_rfl) (by kernel_rfl) (by kernel_rfl) (by kernel_rfl) (fun _ _ _ h => h) (Or.inl ⟨by rfl, ?_⟩) ?_
  · intro w' _
    go_simp
  (try simp only [zA, zC, Act.put, zD, zE, zF])
  refine tk 1 (.pointer (some ⟨b, 0, none⟩)) ?_ (hSall _ (Below.refl _ _).drew) ?_
  · intro w' hSw
    (try dsimp only at hSw)
    go_simp
  (try simp only [zA, zB, zC, Act.put, zD, zE, zF])
  refine tk 2 (.pointer (some ⟨b, 0, none⟩)) ?_ (hSall _ (Below.refl _ _).drew) ?_
  · intro w' hSw
    (try dsimp only at hSw)
    go_simp
  (try simp only [zA, zB, zC, Act.put, zD, zE, zF])
  refine tk 3 (.pointer (some ⟨b, 1, none⟩)) ?_ (hSall _ (Below.refl _ _).drew) ?_
  · intro w' hSw
    (try dsimp only at hSw)
    go_simp
  (try simp only [zA, zB, zC, Act.put, zD, zE, zF])
  refine tk 4 (.slice sa xs.length sc) ?_ (hSall _ (Below.refl _ _).drew) ?_
  · intro w' hSw
    (try dsimp only at hSw)
    go_simp
  (try simp only [zA, zB, zC, Act.put, zD, zE, zF])
  refine tk 5 (.pointer (some ⟨w.heap.size, 0, none⟩)) ?_ (hSall _ (Below.refl _ _).drew) ?_
  · intro w' hSw
    (try dsimp only at hSw)
    go_simp
  (try simp only [zA, zB, zC, Act.put, zD, zE, zF])
  refine tk 6 (.int .i64 x.e) ?_ (hSall _ (Below.refl _ _).drew) ?_
  · intro w' hSw
    (try dsimp only at hSw)
    go_simp
  (try simp only [zA, zB, zC, Act.put, zD, zE, zF])
  refine tk 7 (.pointer (some ⟨w.heap.size, 1, none⟩)) ?_ (hSall _ (Below.refl _ _).drew) ?_
  · intro w' hSw
    (try dsimp only at hSw)
    go_simp
  (try simp only [zA, zB, zC, Act.put, zD, zE, zF])
  refine tk 8 (.int .i64 x.n) ?_ (hSall _ (Below.refl _ _).drew) ?_
  · intro w' hSw
    (try dsimp only at hSw)
    go_simp
  (try simp only [zA, zB, zC, Act.put, zD, zE, zF])
  refine tk 9 (.agg #[.int .i64 x.e, .int .i64 x.n, .int .i64 (-1)]) ?_ (hSall _ (Below.refl _ _).drew) ?_
  · intro w' hSw
    (try dsimp only at hSw)
    go_simp
  (try simp only [zA, zB, zC, Act.put, zD, zE, zF])
  refine ob_step (i := 10) (by kernel_rfl) rfl (fun K hK => ?_)
  go_simp
  refine hK _ _ (fun _ => (hSall _ (by with_reducible repeat (first | exact Below.refl _ _ | assumption | exact below_new _ _ | apply below_drewN | apply Below.drew | refine below_set (Nat.le_refl _) ?_ _ | (refine below_set ?_ ?_ _; omega) | refine Below.alloc ?_ (by first | omega | (simp; omega) | simp) _)))) ?_
  clear hK K
  (try simp only [zA, zB, zC, Act.put, zD, zE, zF])
  refine ob_step (i := 11) (by kernel_rfl) rfl (fun K hK => ?_)
  have hdr : Below W1.heap.size W1 (W1.alloc (.cells #[.int .i64 x.e, .int .i64 x.n, .int .i64 (-1)] 146)).drew := ((Below.refl _ _).alloc (Nat.le_refl _) _).drew
  have HSd := HS1.out.below hdr
  refine step_app encStp_len encStp_one _ (by rfl) _ _ 71 (by rfl) base 146 (.agg #[.int .i64 0, .int .i64 0, .int .i64 0]) 24 Tryz.underlying71 info_stp (by rfl) (by decide) (.slice sa xs.length sc) xs.length xs (by rfl) HSd.os (some ⟨W1.heap.size, 0, none⟩) 1 1 [⟨x.e, x.n, -1⟩] (by rfl) (row_stp1 (heap_alloc_new W1 _)) (by intro h; cases h) (by simp [maxLen]; omega) (by omega) (by simp; omega) ?_
  intro v8 w8 ho8 hg8 _ hb8
  have hA := HSd.step (x := ⟨x.e, x.n, -1⟩) ho8 hg8 hb8
  have h8b : w8.heap[b]? = W1.heap[b]? := (hg8.block b HSd.bl (fun hc => by have := HSd.lows _ (by simp) b hc.symm; have := HSd.lt; omega)).trans (hdr.block b hbl1)
  have k18 : w8.cell? ⟨b, 1, none⟩ = some (.slice sa xs.length sc) := (cell_of_same h8b 1).trans m1
  have kf : w8.frozen? ⟨b, 1, none⟩ = false := frozen_of_row w8 b 1 _ _ (h8b.trans HS1.out.box)
  have hbl8 : b < w8.heap.size := by have := hg8.size; simp at this; omega
  obtain ⟨a8, c8, rfl, _, _⟩ := own_slice ho8
  clear ho8 hg8 hb8 h8b HSd
  refine hK _ _ (fun h => absurd h (by decide)) ?_
  clear hK K
  (try simp only [zA, zB, zC, Act.put, zD, zE, zF])
  refine ob_step (i := 12) (by kernel_rfl) rfl (fun K hK => ?_)
  go_simp
  refine hK _ _ (fun h => absurd h (by decide)) ?_
  clear hK K
  (try simp only [zA, zB, zC, Act.put, zD, zE, zF])
  refine ob_step (i := 13) (by kernel_rfl) rfl (fun K hK => ?_)
  go_simp
  refine hK _ _ (fun h => absurd h (by decide)) ?_
  clear hK K
  (try simp only [zA, zB, zC, Act.put, zD, zE, zF])
  refine ob_step (i := 14) (by kernel_rfl) rfl (fun K hK => ?_)
  go_simp
  refine hK _ _ (fun h => absurd h (by decide)) ?_
  clear hK K
  (try simp only [zA, zB, zC, Act.put, zD, zE, zF])
  refine ob_done (by kernel_rfl) (NoPanic.normal ?_) _
  clear hSall
  refine name_world fun W2 hW2 => ?_
  rw [← hW2] at hA
  have HS2 := Lib.hid hA.1
  have HR2 := Lib.hid ((NearR.of_below hdr).trans hA.2)
  clear hW2 hA hdr m1 k18 kf hbl8 HS1
  have m2 := HS2.out.c2
  have hbl2 := HS2.out.bl
  have hle2 := HS2.out.le
  have HSa := Lib.hid (HS2.out.below (below_new W2 (.cells #[.int .i64 0] 3)))
  go_wp2_with (at_builtin; refine wpList_appB encInt_lenT encInt_oneT _ rfl _ _ 48 rfl base 3 (.int .i64 0) 8 Tryz.underlying48 info_int2 rfl (by decide) (.slice pa ps.length pc) ps.length ps rfl HSa.out.oi (some ⟨W2.heap.size, 0, none⟩) 1 1 [0] rfl (row_int1 (heap_alloc_new W2 _)) (by intro h; cases h) (by simp [maxLen]; omega) (by omega) (by simp; omega) ?_)
  intro v9 w9 ho9 hg9 hb9
  have hA := HSa.out.posn (x := 0) (v := v9) (by rw [List.flatMap_append]; simpa using ho9) hg9 (by simpa using hb9)
  have h9b : w9.heap[b]? = W2.heap[b]? := (hg9.block b HSa.out.bl (fun hc => by have := HSa.out.lows _ (by simp) b hc.symm; have := HSa.out.lt; omega)).trans ((below_new W2 _).block b hbl2)
  have k19 : w9.cell? ⟨b, 2, none⟩ = some (.slice pa ps.length pc) := (cell_of_same h9b 2).trans m2
  have kf9 : w9.frozen? ⟨b, 2, none⟩ = false := frozen_of_row w9 b 2 _ _ (h9b.trans HS2.out.box)
  have hbl9 : b < w9.heap.size := by have := hg9.size; simp at this; omega
  obtain ⟨a9, c9, rfl, _, _⟩ := own_slice ho9
  clear ho9 hg9 hb9 h9b
  go_wp2_with fail
  refine name_code fun W3 hW3 => ?_
  rw [← hW3] at hA
  have HS3 := Lib.hid hA.1
  have HR3 := Lib.hid (HR2.out.trans ((NearR.of_below (below_new W2 _)).trans hA.2))
  clear hW3 hA m2 k19 kf9 hbl9 HSa HS2 HR2 hbl2 hle2
  have m3 := HS3.out.c3
  have hbl3 := HS3.out.bl
  have hle3 := HS3.out.le
  have hx3 : W3.heap[w.heap.size]? = W1.heap[w.heap.size]? := HR3.out.block _ hg1 (by omega) Hun.out
  have v0 := (cell_of_same hx3 0).trans u0
  have v1 := (cell_of_same hx3 1).trans u1
  have hg3 : w.heap.size < W3.heap.size := by have := HR3.out.size; omega
  have Hn3 := Lib.hid (show Below w0.heap.size w0 W3 from HR3.out.below0 (below_step H0.out Hb1.out H0.out.size) Hlow.out hb0 HbS.out)
  clear hx3 u0 u1
  have hSall : ∀ w' : World, Below (W3).heap.size (W3) w' → (w'.cell? ⟨b, 3, none⟩ = some (.slice la ls.length lc) ∧ w'.cell? ⟨w.heap.size, 0, none⟩ = some (.int .i64 x.e) ∧ w'.cell? ⟨w.heap.size, 1, none⟩ = some (.int .i64 x.n)) := fun w' hb => ⟨(hb.cell (p := ⟨b, 3, none⟩) hbl3).trans m3, (hb.cell (p := ⟨w.heap.size, 0, none⟩) hg3).trans v0, (hb.cell (p := ⟨w.heap.size, 1, none⟩) hg3).trans v1⟩
  refine wp_region_noPanic ?_
  refine region_ob (S := fun w' => w'.cell? ⟨b, 3, none⟩ = some (.slice la ls.length lc) ∧ w'.cell? ⟨w.heap.size, 0, none⟩ = some (.int .i64 x.e) ∧ w'.cell? ⟨w.heap.size, 1, none⟩ = some (.int .i64 x.n)) (ob := fun t => decide (t < 12) && !decide (t = 0)) (by kernel_rfl) ?_
  refine ob_pure (i := 0) (v := .pointer (some ⟨b, 0, none⟩)) rfl (by kernel_rfl) (by kernel_rfl) (by kernel_rfl) (by kernel_rfl) (by kernel_rfl) (fun _ _ _ h => h) (Or.inl ⟨by rfl, ?_⟩) ?_
  · intro w' _
    go_simp
  (try simp only [zA, zC, Act.put, zD, zE, zF])
  refine tk 1 (.pointer (some ⟨b, 0, none⟩)) ?_ (hSall _ (Below.refl _ _).drew) ?_
  · intro w' hSw
    (try dsimp only at hSw)
    go_simp
  (try simp only [zA, zB, zC, Act.put, zD, zE, zF])
  refine tk 2 (.pointer (some ⟨b, 0, none⟩)) ?_ (hSall _ (Below.refl _ _).drew) ?_
  · intro w' hSw
    (try dsimp only at hSw)
    go_simp
  (try simp only [zA, zB, zC, Act.put, zD, zE, zF])
  refine tk 3 (.pointer (some ⟨b, 3, none⟩)) ?_ (hSall _ (Below.refl _ _).drew) ?_
  · intro w' hSw
    (try dsimp only at hSw)
    go_simp
  (try simp only [zA, zB, zC, Act.put, zD, zE, zF])
  refine tk 4 (.slice la ls.length lc) ?_ (hSall _ (Below.refl _ _).drew) ?_
  · intro w' hSw
    (try dsimp only at hSw)
    go_simp
  (try simp only [zA, zB, zC, Act.put, zD, zE, zF])
  refine tk 5 (.pointer (some ⟨nb, 0, none⟩)) ?_ (hSall _ (Below.refl _ _).drew) ?_
  · intro w' hSw
    (try dsimp only at hSw)
    go_simp
  (try simp only [zA, zB, zC, Act.put, zD, zE, zF])
  refine tk 6 (.pointer (some ⟨w.heap.size, 0, none⟩)) ?_ (hSall _ (Below.refl _ _).drew) ?_
  · intro w' hSw
    (try dsimp only at hSw)
    go_simp
  (try simp only [zA, zB, zC, Act.put, zD, zE, zF])
  refine tk 7 (.int .i64 x.e) ?_ (hSall _ (Below.refl _ _).drew) ?_
  · intro w' hSw
    (try dsimp only at hSw)
    go_simp
  (try simp only [zA, zB, zC, Act.put, zD, zE, zF])
  refine tk 8 (.pointer (some ⟨w.heap.size, 1, none⟩)) ?_ (hSall _ (Below.refl _ _).drew) ?_
  · intro w' hSw
    (try dsimp only at hSw)
    go_simp
  (try simp only [zA, zB, zC, Act.put, zD, zE, zF])
  refine tk 9 (.int .i64 x.n) ?_ (hSall _ (Below.refl _ _).drew) ?_
  · intro w' hSw
    (try dsimp only at hSw)
    go_simp
  (try simp only [zA, zB, zC, Act.put, zD, zE, zF])
  refine ob_step (i := 10) (by kernel_rfl) rfl (fun K hK => ?_)
  go_simp
  refine (nouts_any _ nb p (Hn.out.below (below_step Hn3.out (Below.refl _ _).drew Hn3.out.size)) x.e x.n).mono ?_
  rintro en w5 ⟨ya, yn, yc, rfl, hrow, hyn, hb5⟩
  have hb53 : Below W3.heap.size W3 w5 := below_step (Below.refl _ _).drew hb5 (by simp)
  refine hK _ _ (fun _ => hSall _ hb53) ?_
  clear hK K
  (try simp only [zA, zB, zC, Act.put, zD, zE, zF])
  refine ob_step (i := 11) (by kernel_rfl) rfl (fun K hK => ?_)
  go_simp
  refine hK _ _ (fun _ => hSall _ (hb53.alloc hb53.size _)) ?_
  clear hK K
  (try simp only [zA, zB, zC, Act.put, zD, zE, zF])
  refine ob_step (i := 12) (by kernel_rfl) rfl (fun K hK => ?_)
  have hdr : Below W3.heap.size W3 (w5.alloc (.cells #[.slice ya yn yc] 227)) := hb53.alloc hb53.size _
  have HSd := HS3.out.below hdr
  refine step_app encWS_len encWS_one _ (by rfl) _ _ 221 (by rfl) base 227 (.slice none 0 0) 24 Tryz.underlying221 info_ways (by rfl) (by decide) (.slice la ls.length lc) ls.length ls (by rfl) HSd.ol (some ⟨w5.heap.size, 0, none⟩) 1 1 [⟨ya, yn, yc⟩] (by rfl) (row_ws1 (heap_alloc_new w5 _)) (by intro h; cases h) (by simp [maxLen]; omega) (by omega) (by have := hb53.size; simp; omega) ?_
  intro v8 w8 ho8 hg8 _ hb8
  have hA := HSd.way (x := ⟨ya, yn, yc⟩) ho8 hg8 hb8
  have h8b : w8.heap[b]? = W3.heap[b]? := (hg8.block b HSd.bl (fun hc => by have := HSd.lows _ (by simp) b hc.symm; have := HSd.lt; omega)).trans (hdr.block b hbl3)
  have k18 : w8.cell? ⟨b, 3, none⟩ = some (.slice la ls.length lc) := (cell_of_same h8b 3).trans m3
  have kf : w8.frozen? ⟨b, 3, none⟩ = false := frozen_of_row w8 b 3 _ _ (h8b.trans HS3.out.box)
  have hbl8 : b < w8.heap.size := by have := hg8.size; have := hdr.size; omega
  obtain ⟨a8, c8, rfl, _, _⟩ := own_slice ho8
  clear ho8 hg8 hb8 h8b
  refine hK _ _ (fun h => absurd h (by decide)) ?_
  clear hK K
  (try simp only [zA, zB, zC, Act.put, zD, zE, zF])
  refine ob_step (i := 13) (by kernel_rfl) rfl (fun K hK => ?_)
  go_simp
  refine hK _ _ (fun h => absurd h (by decide)) ?_
  clear hK K
  (try simp only [zA, zB, zC, Act.put, zD, zE, zF])
  refine ob_step (i := 14) (by kernel_rfl) rfl (fun K hK => ?_)
  go_simp
  refine hK _ _ (fun h => absurd h (by decide)) ?_
  clear hK K
  (try simp only [zA, zB, zC, Act.put, zD, zE, zF])
  refine ob_step (i := 15) (by kernel_rfl) rfl (fun K hK => ?_)
  go_simp
  refine hK _ _ (fun h => absurd h (by decide)) ?_
  clear hK K
  (try simp only [zA, zB, zC, Act.put, zD, zE, zF])
  refine ob_done (by kernel_rfl) (NoPanic.normal ?_) _
  clear hSall
  go_wp2_with fail
  refine bodyPost_end (v := .tuple #[]) (by simp [results, Tryz.results128]) rfl ?_
  have hrow2 : Row 2 encWay (w5.alloc (.cells #[.slice ya yn yc] 227)) ya yn (outs p x.e x.n) := hrow.below (below_new w5 _)
  have hfr := hyn.2
  refine ⟨rfl, _, _, _, ⟨ya, yn, yc⟩, hA.1, hrow2.kept (fun q hq hl => hA.2.block q hl (fun hc => ?_) (fun v hv hc => ?_)), hyn.1.2, (NearR.of_below Hb1.out).trans (HR3.out.trans ((NearR.of_below hdr).trans hA.2))⟩
  · have := hfr q hq
    simp at this
    omega
  · have := hfr q hq
    simp at this
    have h2 : q < W3.heap.size := by
      simp only [List.mem_cons, List.not_mem_nil, or_false] at hv
      rcases hv with rfl | rfl | rfl
      · exact (HS3.out.os.lt q hc).2
      · exact (HS3.out.oi.lt q hc).2
      · exact (HS3.out.ol.lt q hc).2
    omega
end Go.Proofs.YtcaeglnfflkabaaGreat
