/- Walk of semaphoreref12.with: a road with one step more. Condition: the road is read. -/
import Derived.Test.YtnkpiijljfjmkaaClashW1
import Derived.Great.BuildSlice
import Derived.BigRegion
set_option maxRecDepth 1000000
namespace Go.Proofs.Ytnkpiijljfjmkaa
open Go.ChangeShapes Go.WideShapes Go.ChangeAt Go.RowKit Go.Sort

def SW (b : Nat) (v : Value) (s : Stp) (w' : World) : Prop := w'.cell? ⟨b, 3, none⟩ = some v ∧ w'.cell? ⟨b + 1, 0, none⟩ = some (.int .i64 s.e) ∧ w'.cell? ⟨b + 1, 1, none⟩ = some (.int .i64 s.i) ∧ w'.cell? ⟨b + 1, 2, none⟩ = some (.int .i64 s.o)
def obW (t : Nat) : Bool := decide (t < 7)
theorem encStp_len (x : Stp) : (encStp x).length = 3 := rfl
theorem info_stp : (Try.prog.info? 47).map (fun i => (i.zero, i.size, i.bytes)) = some (some (.agg #[.int .i64 0, .int .i64 0, .int .i64 0]), 3, 24) := by kernel_rfl
theorem ev_putC (A : Act) {i j : Nat} {v : Value} (hi : i < A.tmps.size) : (A.put (some i) v).eval (.tmp j) = if i = j then v else A.eval (.tmp j) := by
  by_cases h : i = j
  · subst h; simp [Act.put, Act.eval, hi]
  · simp [Act.put, Act.eval, Array.getElem?_setIfInBounds_ne h, h]
theorem put_sizeC (A : Act) (d : Option Nat) (v : Value) : (A.put d v).tmps.size = A.tmps.size := by
  cases d <;> simp [Act.put]
theorem put_swapC (A : Act) {i j : Nat} (h : i ≠ j) (u v : Value) : (A.put (some i) u).put (some j) v = (A.put (some j) v).put (some i) u := by
  simp only [Act.put]
  rw [Array.setIfInBounds_comm _ _ h]
theorem alloc_oldC {w : World} {g : Nat} {o : Obj} (h : w.heap[g]? = some o) (x : Obj) : (w.alloc x).heap[g]? = some o := by
  obtain ⟨hg, rfl⟩ := Array.getElem?_eq_some_iff.1 h
  show (w.heap.push x)[g]? = _
  rw [Array.getElem?_push_lt hg]
theorem own_elseC {w : World} {a b : Option Nat} {g : Nat} {o : Obj} (h : a = b ∨ a = some w.heap.size) (hb : b ≠ some g) (hp : w.heap[g]? = some o) : a ≠ some g := by
  rcases h with rfl | rfl
  · exact hb
  · intro h
    cases h
    exact absurd (Array.getElem?_eq_some_iff.1 hp).1 (Nat.lt_irrefl _)
theorem fill3i (a b c : Int) : Instr.fill (fun i => some (i * 3, 3)) ((Array.range (1 * 3)).map ((Value.agg #[.int .i64 0, .int .i64 0, .int .i64 0]).cells[· % (Value.agg #[.int .i64 0, .int .i64 0, .int .i64 0]).cells.size]!)) [(0, .agg #[.int .i64 a, .int .i64 b, .int .i64 c])] = some #[.int .i64 a, .int .i64 b, .int .i64 c] := by
  have hc : (Value.agg #[.int .i64 a, .int .i64 b, .int .i64 c]).cells = #[.int .i64 a, .int .i64 b, .int .i64 c] := by
    simp [Value.cells]
  have := Great.fill_whole (s := 3) (by decide) [.agg #[.int .i64 a, .int .i64 b, .int .i64 c]] ((Array.range (1 * 3)).map ((Value.agg #[.int .i64 0, .int .i64 0, .int .i64 0]).cells[· % (Value.agg #[.int .i64 0, .int .i64 0, .int .i64 0]).cells.size]!)) (by simp [hc]) (by simp)
  simpa [hc] using this
theorem step_build0 {P : Program} (w : World) {ops : Array Oper} {o : Oper} {ac : Act} {K : Act → World → Prop} {Q : Exit → Act → World → Prop} {E : Prop} (hgd : o.guard = none) (t e : TypeId)
    (ho : o.op = .buildSlice t 0 #[]) (ie : TypeInfo) (z : Value) (hu : P.underlying t = some (.slice e)) (hie : P.info? e = some ie) (_hz : ie.zero = some z)
    (h : K (ac.put o.dst (.slice (some ⟨w.heap.size, 0, none⟩) 0 0)) (w.alloc (.cells #[] e))) : if Region.wanted o (yielded ops ac.tmps) = true then Oper.wp P o ac w K Q else E := by
  have hw : Region.wanted o (yielded ops ac.tmps) = true := by simp [Region.wanted, hgd]
  rw [if_pos hw]
  unfold Oper.wp execOp
  simp [ho, Sem.run_bind, Instr.buildSlice, run_underlying hu, sizeOf, typeInfo, hie, newRow, Result.andThen_ok, Instr.fill]
  have e0 : Array.map (fun _ => (default : Value)) (Array.range 0) = #[] := by simp [Array.range]
  rw [e0]
  exact h
theorem step_build3 {P : Program} (w : World) {ops : Array Oper} {o : Oper} {ac : Act} {K : Act → World → Prop} {Q : Exit → Act → World → Prop} {E : Prop} (hgd : o.guard = none) (t e : TypeId) (x : Operand)
    (ho : o.op = .buildSlice t 1 #[(0, x)]) (ie : TypeInfo) (z : Value) (hu : P.underlying t = some (.slice e)) (hie : P.info? e = some ie) (hz : ie.zero = some z) (hs : ie.size = 3) (a b c : Value) (hv : ac.eval x = .agg #[a, b, c])
    (hf : Instr.fill (fun i => some (i * 3, 3)) ((Array.range (1 * 3)).map (z.cells[· % z.cells.size]!)) [(0, .agg #[a, b, c])] = some #[a, b, c])
    (h : K (ac.put o.dst (.slice (some ⟨w.heap.size, 0, none⟩) 1 1)) (w.alloc (.cells #[a, b, c] e))) : if Region.wanted o (yielded ops ac.tmps) = true then Oper.wp P o ac w K Q else E := by
  have hw : Region.wanted o (yielded ops ac.tmps) = true := by simp [Region.wanted, hgd]
  rw [if_pos hw]
  refine wp_buildSlice t e 1 #[(0, x)] ho #[a, b, c] ie z hu hie hz (by rw [hs]; decide) (by rw [hs]; decide) ?_ h
  rw [hs]
  simpa [hv] using hf
theorem row_stp1 {w : World} {g : Nat} {s : Stp} (h : w.heap[g]? = some (.cells #[.int .i64 s.e, .int .i64 s.i, .int .i64 s.o] 47)) : Row 3 encStp w (some ⟨g, 0, none⟩) 1 [s] :=
  row_block (sz := 3) (enc := encStp) (fun _ => rfl) (by decide) [s] h rfl rfl (by omega)
theorem four_of {w W : World} {A B C D : Obj} (h : W = (((w.alloc A).alloc B).alloc C).alloc D) : W.heap[w.heap.size]? = some A ∧ W.heap[w.heap.size + 1]? = some B ∧ W.heap[w.heap.size + 1 + 1]? = some C ∧ W.heap[w.heap.size + 1 + 1 + 1]? = some D ∧ W.heap.size = w.heap.size + 4 ∧ Below w.heap.size w W := by
  subst h
  have a := heap_alloc_new w A
  have b := heap_alloc_new (w.alloc A) B
  have c := heap_alloc_new ((w.alloc A).alloc B) C
  have d := heap_alloc_new (((w.alloc A).alloc B).alloc C) D
  have z1 : (w.alloc A).heap.size = w.heap.size + 1 := by simp
  have z2 : ((w.alloc A).alloc B).heap.size = w.heap.size + 1 + 1 := by simp
  have z3 : (((w.alloc A).alloc B).alloc C).heap.size = w.heap.size + 1 + 1 + 1 := by simp
  rw [z1] at b
  rw [z2] at c
  rw [z3] at d
  refine ⟨alloc_oldC (alloc_oldC (alloc_oldC a _) _) _, alloc_oldC (alloc_oldC b _) _, alloc_oldC c _, d, by simp, ?_⟩
  exact ((((Below.refl _ _).alloc (Nat.le_refl _) _).alloc (by omega) _).alloc (by omega) _).alloc (by omega) _
theorem box9 {w : World} {b : Nat} {T : TypeId} {a0 a1 a2 a3 a4 a5 a6 a7 a8 : Value} (h : w.heap[b]? = some (.cells #[a0, a1, a2, a3, a4, a5, a6, a7, a8] T)) (v0 v1 v2 v3 v4 v5 v6 v7 v8 : Value) :
    (((((((((w.setCell ⟨b, 0, none⟩ v0).setCell ⟨b, 1, none⟩ v1).setCell ⟨b, 2, none⟩ v2).setCell ⟨b, 3, none⟩ v3).setCell ⟨b, 4, none⟩ v4).setCell ⟨b, 5, none⟩ v5).setCell ⟨b, 6, none⟩ v6).setCell ⟨b, 7, none⟩ v7).setCell ⟨b, 8, none⟩ v8).heap[b]? =
      some (.cells #[v0, v1, v2, v3, v4, v5, v6, v7, v8] T) := by
  have h0 : (w.setCell ⟨b, 0, none⟩ v0).heap[b]? = some (.cells #[v0, a1, a2, a3, a4, a5, a6, a7, a8] T) := heap_setCell_same w b 0 _ _ _ h
  generalize w.setCell ⟨b, 0, none⟩ v0 = w0 at h0 ⊢
  have h1 : (w0.setCell ⟨b, 1, none⟩ v1).heap[b]? = some (.cells #[v0, v1, a2, a3, a4, a5, a6, a7, a8] T) := heap_setCell_same w0 b 1 _ _ _ h0
  generalize w0.setCell ⟨b, 1, none⟩ v1 = w1 at h1 ⊢
  have h2 : (w1.setCell ⟨b, 2, none⟩ v2).heap[b]? = some (.cells #[v0, v1, v2, a3, a4, a5, a6, a7, a8] T) := heap_setCell_same w1 b 2 _ _ _ h1
  generalize w1.setCell ⟨b, 2, none⟩ v2 = w2 at h2 ⊢
  have h3 : (w2.setCell ⟨b, 3, none⟩ v3).heap[b]? = some (.cells #[v0, v1, v2, v3, a4, a5, a6, a7, a8] T) := heap_setCell_same w2 b 3 _ _ _ h2
  generalize w2.setCell ⟨b, 3, none⟩ v3 = w3 at h3 ⊢
  have h4 : (w3.setCell ⟨b, 4, none⟩ v4).heap[b]? = some (.cells #[v0, v1, v2, v3, v4, a5, a6, a7, a8] T) := heap_setCell_same w3 b 4 _ _ _ h3
  generalize w3.setCell ⟨b, 4, none⟩ v4 = w4 at h4 ⊢
  have h5 : (w4.setCell ⟨b, 5, none⟩ v5).heap[b]? = some (.cells #[v0, v1, v2, v3, v4, v5, a6, a7, a8] T) := heap_setCell_same w4 b 5 _ _ _ h4
  generalize w4.setCell ⟨b, 5, none⟩ v5 = w5 at h5 ⊢
  have h6 : (w5.setCell ⟨b, 6, none⟩ v6).heap[b]? = some (.cells #[v0, v1, v2, v3, v4, v5, v6, a7, a8] T) := heap_setCell_same w5 b 6 _ _ _ h5
  generalize w5.setCell ⟨b, 6, none⟩ v6 = w6 at h6 ⊢
  have h7 : (w6.setCell ⟨b, 7, none⟩ v7).heap[b]? = some (.cells #[v0, v1, v2, v3, v4, v5, v6, v7, a8] T) := heap_setCell_same w6 b 7 _ _ _ h6
  generalize w6.setCell ⟨b, 7, none⟩ v7 = w7 at h7 ⊢
  have h8 : (w7.setCell ⟨b, 8, none⟩ v8).heap[b]? = some (.cells #[v0, v1, v2, v3, v4, v5, v6, v7, v8] T) := heap_setCell_same w7 b 8 _ _ _ h7
  exact h8
/-- the road that with makes -/
def WithPost (w : World) (r : Road) (e : Ending) (w' : World) : Prop := ∃ rv : RV, e = .returned (rv.val r) ∧ RoadAt w' rv r ∧ (∀ a ∈ rv.addrs, ∀ k, a.map (·.block) = some k → w.heap.size ≤ k ∧ k < w'.heap.size) ∧ Below w.heap.size w w'
theorem with_fit {v : RV} {r : Road} (h : RoadFit v r) {s : Stp} (hs : inI s.e ∧ inI s.i ∧ inI s.o) {pos fin to : Int} (hp : inI pos) {a b : Option Addr} {n c m d : Nat} (h1 : a = none → c = 0) (h2 : b = none → d = 0) :
    RoadFit ⟨a, n, c, b, m, d, none, 0, 0, none, 0, 0, none, 0, 0⟩ (addStep r s pos fin to) := by
  refine ⟨h1, h2, fun _ => rfl, fun _ => rfl, fun _ => rfl, fun x hx => ?_, fun x hx => ?_, fun x hx => (by cases hx), fun x hx => (by cases hx), fun x hx => (by cases hx)⟩
  · rcases List.mem_append.1 hx with hx | hx
    · exact h.s x hx
    · simp at hx; subst hx; exact hs
  · rcases List.mem_append.1 hx with hx | hx
    · exact h.n x hx
    · split at hx
      · cases hx
      · simp at hx; subst hx; exact ⟨hs.1, hp⟩
theorem with_blocks {a b : Option Addr} {n c m d B Z : Nat} (h1 : ∀ k, a.map (·.block) = some k → B ≤ k ∧ k < Z) (h2 : ∀ k, b.map (·.block) = some k → B ≤ k ∧ k < Z) :
    ∀ x ∈ (⟨a, n, c, b, m, d, none, 0, 0, none, 0, 0, none, 0, 0⟩ : RV).addrs, ∀ k, x.map (·.block) = some k → B ≤ k ∧ k < Z := by
  intro x hx k hk
  simp only [RV.addrs, List.mem_cons, List.not_mem_nil, or_false] at hx
  rcases hx with rfl | rfl | rfl | rfl | rfl
  · exact h1 k hk
  · exact h2 k hk
  · cases hk
  · cases hk
  · cases hk
set_option maxHeartbeats 8000000 in
theorem with_any (w : World) (rv : RV) (r : Road) (h : RoadAt w rv r) (h1 : rv.sn ≤ 100) (h2 : rv.nn ≤ 100) (s : Stp) (hs : inI s.e ∧ inI s.i ∧ inI s.o) (pos fin to : Int) (hpos : inI pos) :
    Calls Try.prog 91 #[rv.val r, .agg #[.int .i64 s.e, .int .i64 s.i, .int .i64 s.o], .int .i64 pos, .int .i64 fin, .int .i64 to] w (WithPost w (addStep r s pos fin to)) := by
  obtain ⟨sa, sn, sc, na, nn, nc, ga, gn, gc, za, zn, zc, ha, hn, hc⟩ := rv
  dsimp only at h1 h2
  have Hfit := Lib.hid h.fit
  have hS := Lib.hid h.s
  have hN := Lib.hid h.n
  dsimp only at hS hN
  have hsc := Lib.hid (show sa = none → sc = 0 from h.fit.sc)
  have hnc := Lib.hid (show na = none → nc = 0 from h.fit.nc)
  have HR := Lib.hid (rbox_new w ⟨sa, sn, sc, na, nn, nc, ga, gn, gc, za, zn, zc, ha, hn, hc⟩ r)
  dsimp only [RV.cells] at HR
  have Hs := Lib.hid hs
  clear h hs
  obtain ⟨ii, hii, zi1, zi2, zi3⟩ := info_parts info_stp
  dsimp only [RV.val]
  go_enter Try.func91, Try.ntmps91
  go_wp2_with fail
  refine name_code fun W1 hW1 => ?_
  obtain ⟨hr0, hx0, hres, hob, hz1, hw1⟩ := four_of hW1
  clear hW1
  have hrl : w.heap.size < W1.heap.size := by omega
  have hxl : w.heap.size + 1 < W1.heap.size := by omega
  have hol : w.heap.size + 1 + 1 + 1 < W1.heap.size := by omega
  have Hw1 := Lib.hid hw1
  have q3 : W1.cell? ⟨w.heap.size, 3, none⟩ = some (.slice sa sn sc) := by rw [cell_of_row W1 w.heap.size 3 _ _ (0, 0) hr0]; rfl
  have q4 : W1.cell? ⟨w.heap.size, 4, none⟩ = some (.slice na nn nc) := by rw [cell_of_row W1 w.heap.size 4 _ _ (0, 0) hr0]; rfl
  have x0 : W1.cell? ⟨w.heap.size + 1, 0, none⟩ = some (.int .i64 s.e) := by rw [cell_of_row W1 (w.heap.size + 1) 0 _ _ (0, 0) hx0]; rfl
  have x1 : W1.cell? ⟨w.heap.size + 1, 1, none⟩ = some (.int .i64 s.i) := by rw [cell_of_row W1 (w.heap.size + 1) 1 _ _ (0, 0) hx0]; rfl
  have x2 : W1.cell? ⟨w.heap.size + 1, 2, none⟩ = some (.int .i64 s.o) := by rw [cell_of_row W1 (w.heap.size + 1) 2 _ _ (0, 0) hx0]; rfl
  have hN0 := hN
  have hS := Lib.hid (hS.out.below hw1)
  clear hN HR hr0 hx0 hw1
  refine wp_region_noPanic ?_
  refine region_ob (S := (SW w.heap.size (.slice sa sn sc) s)) (ob := obW) (by kernel_rfl) ?_
  have hSall : ∀ w' : World, Below W1.heap.size W1 w' → (SW w.heap.size (.slice sa sn sc) s) w' := fun w' hb => ⟨(hb.cell (p := ⟨w.heap.size, 3, none⟩) hrl).trans q3, (hb.cell (p := ⟨w.heap.size + 1, 0, none⟩) hxl).trans x0, (hb.cell (p := ⟨w.heap.size + 1, 1, none⟩) hxl).trans x1, (hb.cell (p := ⟨w.heap.size + 1, 2, none⟩) hxl).trans x2⟩
  have hS0 : (SW w.heap.size (.slice sa sn sc) s) W1.drew := hSall _ (Below.refl _ _).drew
  refine tk 1 (.pointer (some ⟨w.heap.size, 3, none⟩)) ?_ hS0 ?_
  · intro w' hSw
    obtain ⟨s1, s2, s3, s4⟩ := hSw
    go_simp
  (try simp only [zA, zB, zC, Act.put, zD, zE, zF])
  refine tk 2 (.slice sa sn sc) ?_ hS0 ?_
  · intro w' hSw
    obtain ⟨s1, s2, s3, s4⟩ := hSw
    go_simp
  (try simp only [zA, zB, zC, Act.put, zD, zE, zF])
  refine tk 4 (.agg #[.int .i64 s.e, .int .i64 s.i, .int .i64 s.o]) ?_ hS0 ?_
  · intro w' hSw
    obtain ⟨s1, s2, s3, s4⟩ := hSw
    go_simp
  (try simp only [zA, zB, zC, Act.put, zD, zE, zF])
  refine ob_name fun OPS hO R hR A hA => ?_
  have hsz : A.tmps.size = 42 := by rw [hA]; rfl
  have e19 : A.eval (.tmp 19) = .slice sa sn sc := by rw [hA]; rfl
  have e21 : A.eval (.tmp 21) = .agg #[.int .i64 s.e, .int .i64 s.i, .int .i64 s.o] := by rw [hA]; rfl
  have st111 : ∀ (w' : World) (g1 g5 : Nat) (v3 : Value), Below W1.heap.size W1 w' → w'.ownsRow W1.heap.size 47 3 v3 sn (r.steps.flatMap encStp) → w'.heap[g5]? = some (.cells #[.int .i64 s.e, .int .i64 s.i, .int .i64 s.o] 47) → v3.ownBlock ≠ some g5 → W1.heap.size ≤ g5 → wpOb Try.prog .any OPS R (SW w.heap.size (.slice sa sn sc) s) obW 3 #[true, true, true, true, true, true, false, false, false] (((A.put (some 17) (.slice (some ⟨g1, 0, none⟩) 0 0)).put (some 20) v3).put (some 22) (.slice (some ⟨g5, 0, none⟩) 1 1)) w' := by
    intro w' g1 g5 v3 hb ho hp ha hg
    have hsb := hb.size
    subst hO
    subst hR
    refine ob_step (i := 6) (by kernel_rfl) rfl (fun K hK => ?_)
    refine step_app encStp_len encStp_one w' (by rfl) _ _ 34 (by rfl) W1.heap.size 47 (.agg #[.int .i64 0, .int .i64 0, .int .i64 0]) 24 Try.underlying34 info_stp (by rfl) (by decide) v3 sn r.steps (by simp [ev_putC, put_sizeC, hsz]) ho (some ⟨g5, 0, none⟩) 1 1 [s] (by simp [ev_putC, put_sizeC, hsz]) (row_stp1 hp) (by intro h; cases h) (by simp [maxLen]; omega) (by omega) hsb ?_
    intro v4 w4 ho4 hgrow4 _ _
    have hb4 : Below W1.heap.size W1 w4 := hb.grown hgrow4 hsb (fun k hk => (ho.lt k hk).1)
    have hob4 := (hb4.block _ hol).trans hob
    have fz : ∀ o, w4.frozen? ⟨w.heap.size + 1 + 1 + 1, o, none⟩ = false := fun o => frozen_of_row w4 (w.heap.size + 1 + 1 + 1) o _ _ hob4
    have hwl : w.heap.size + 1 + 1 + 1 < w4.heap.size := by have := hb4.size; omega
    refine hK _ _ (fun _ => hSall _ hb4) ?_
    clear hK K hSall hS0 hb ho hp ha hg hsb hgrow4
    subst hA
    (try simp only [zA, zB, zC, Act.put, zD, zE, zF])
    clear e19 e21 hsz
    obtain ⟨a4, c4, rfl, _, hc4⟩ := own_slice ho4
    have o3 : w4.cell? ⟨w.heap.size + 1 + 1 + 1, 3, none⟩ = some (.slice none 0 0) := by rw [cell_of_row w4 (w.heap.size + 1 + 1 + 1) 3 _ _ (0, 0) hob4]; rfl
    refine ob_step (i := 7) (by kernel_rfl) rfl (fun K hK => ?_)
    go_simp
    refine hK _ _ (fun h => absurd h (by decide)) ?_
    clear hK K
    (try simp only [zD, zE, zF])
    refine ob_step (i := 8) (by kernel_rfl) rfl (fun K hK => ?_)
    go_simp
    refine hK _ _ (fun h => absurd h (by decide)) ?_
    clear hK K
    (try simp only [zD, zE, zF])
    refine ob_done (by kernel_rfl) (NoPanic.normal ?_) _
    refine name_world fun W5 hW5 => ?_
    have hz54 : W5.heap.size = w4.heap.size := by rw [hW5]; simp [World.setCell]
    have hz4 := hb4.size
    have hob5 : W5.heap[w.heap.size + 1 + 1 + 1]? = some (.cells #[.int .i64 r.frm, .int .i64 to, .int .i64 fin, .slice a4 (sn + 1) c4, .slice none 0 0, .slice none 0 0, .slice none 0 0, .slice none 0 0, .bool false] 38) := by rw [hW5]; exact heap_setCell_same w4 (w.heap.size + 1 + 1 + 1) 3 _ _ _ hob4
    have hk5 : ∀ k, k < W1.heap.size → k ≠ w.heap.size + 1 + 1 + 1 → W5.heap[k]? = W1.heap[k]? := fun k h1 h2 => by rw [hW5]; exact (Below.heap_setCell w4 ⟨(w.heap.size + 1 + 1 + 1), 3, none⟩ _ k h2).trans (hb4.block k h1)
    have Os5 := Lib.hid (show W5.ownsRow W1.heap.size 47 3 (.slice a4 (sn + 1) c4) (sn + 1) ((r.steps ++ [s]).flatMap encStp) by rw [hW5]; exact own_low (by omega) ho4 _)
    have Hw5 := Lib.hid (show Below w.heap.size w W5 by rw [hW5]; exact below_set (by omega) (Hw1.out.trans (hb4.mono (by omega))) _)
    have q4 : W5.cell? ⟨w.heap.size, 4, none⟩ = some (.slice na nn nc) := (cell_of_same (hk5 w.heap.size (by omega) (by omega)) 4).trans q4
    have x0 : W5.cell? ⟨w.heap.size + 1, 0, none⟩ = some (.int .i64 s.e) := (cell_of_same (hk5 (w.heap.size + 1) (by omega) (by omega)) 0).trans x0
    have hres5 : W5.heap[w.heap.size + 1 + 1]? = some (.cells #[.int .i64 0, .int .i64 0, .int .i64 0, .slice none 0 0, .slice none 0 0, .slice none 0 0, .slice none 0 0, .slice none 0 0, .bool false] 38) := (hk5 (w.heap.size + 1 + 1) (by omega) (by omega)).trans hres
    have hrl5 : w.heap.size < W5.heap.size := by omega
    have hxl5 : w.heap.size + 1 < W5.heap.size := by omega
    have hol5 : w.heap.size + 1 + 1 + 1 < W5.heap.size := by omega
    have Hn5 := Lib.hid ((hN0.out.below Hw5.out).below (below_new1 W5 (.cells #[] 72)))
    have Own0 := Lib.hid (show (W5.alloc (.cells #[] 72)).ownsRow W5.heap.size 72 2 (.slice (some ⟨W5.heap.size, 0, none⟩) 0 0) 0 [] from World.ownsRow_made W5 #[] 0 (Nat.le_refl _) (by simp [maxLen]) (by simp))
    have hz5 : W1.heap.size ≤ W5.heap.size := by omega
    have Hz1 := Lib.hid hz1
    clear hW5 hk5 ho4 fz hwl hob4 hob hres q3 x1 x2 hb4 hz54 hz4 hz1
    go_wp2_with (at_builtin; refine wpList_app (enc := encNeed) encNeed_len encNeed_one _ rfl _ _ 35 rfl W5.heap.size 72 (.agg #[.int .i64 0, .int .i64 0]) 16 Try.underlying35 info_need rfl (by decide) (.slice (some ⟨W5.heap.size, 0, none⟩) 0 0) _ [] rfl Own0.out na nn nc r.needs rfl Hn5.out hnc.out (by simp [maxLen]; omega) (by omega) (by simp) ?_)
    intro v6 w6 hown6 hgrow6 _
    have hsame : ∀ k, k < W5.heap.size → w6.heap[k]? = W5.heap[k]? := fun k hk => (hgrow6.block k (by simp; omega) (by simp [Value.ownBlock]; omega)).trans (Below.heap_alloc W5 _ k hk)
    have hob6 := (hsame _ hol5).trans hob5
    have hres6 := (hsame _ (by omega)).trans hres5
    have x0 : w6.cell? ⟨w.heap.size + 1, 0, none⟩ = some (.int .i64 s.e) := (cell_of_same (hsame _ hxl5) 0).trans x0
    have hz6 : W5.heap.size + 1 ≤ w6.heap.size := by have := hgrow6.size; simp at this; omega
    have hb56 : Below W5.heap.size W5 w6 := (below_new1 W5 _).grown hgrow6 (by simp) (by intro k hk; simp only [Value.ownBlock, Option.some.injEq] at hk; omega)
    have Hw6 := Lib.hid (Hw5.out.trans (hb56.mono Hw5.out.size))
    have Os6 := Lib.hid (owns_below Os5.out hb56)
    have On6 := Lib.hid (show w6.ownsRow W5.heap.size 72 2 v6 nn (r.needs.flatMap encNeed) by simpa using hown6)
    have fz6 : ∀ o, w6.frozen? ⟨w.heap.size + 1 + 1 + 1, o, none⟩ = false := fun o => frozen_of_row w6 (w.heap.size + 1 + 1 + 1) o _ _ hob6
    have fr6 : ∀ o, w6.frozen? ⟨w.heap.size + 1 + 1, o, none⟩ = false := fun o => frozen_of_row w6 (w.heap.size + 1 + 1) o _ _ hres6
    have hol6 : w.heap.size + 1 + 1 + 1 < w6.heap.size := by omega
    have hrl6 : w.heap.size + 1 + 1 < w6.heap.size := by omega
    obtain ⟨o0, o1, o2, o3, o4, o5, o6, o7, o8⟩ := nine_of hob6
    have Hlt4 := Lib.hid (fun k (hk : (Value.slice a4 (sn + 1) c4).ownBlock = some k) => (Os5.out.lt k hk).2)
    clear hown6 hgrow6 hsame hb56 Own0 Hn5 q4 hrl5 hxl5 hol5 hob5 hres5 Os5
    obtain ⟨a6, c6, rfl, _, hc6⟩ := own_slice On6.out
    obtain ⟨rc0, rc1, rc2, rc3, rc4, rc5, rc6, rc7, rc8⟩ := nine_of hres6
    by_cases hp : pos = 0
    · subst hp
      go_wp2_with fail
      refine name_world fun W8 hW8 => ?_
      have hbx : W8.heap[w.heap.size + 1 + 1]? = some (.cells #[.int .i64 r.frm, .int .i64 to, .int .i64 fin, .slice a4 (sn + 1) c4, .slice a6 nn c6, .slice none 0 0, .slice none 0 0, .slice none 0 0, .bool false] 38) := by
        rw [hW8]; exact box9 ((heap_setCell_other w6 ⟨w.heap.size + 1 + 1 + 1, 4, none⟩ (w.heap.size + 1 + 1) _ (by simp)).trans hres6) _ _ _ _ _ _ _ _ _
      obtain ⟨y0, y1, y2, y3, y4, y5, y6, y7, y8⟩ := nine_of hbx
      try rw [Exit.noGoto_ret]
      refine bodyPost_ret (v := .agg #[.int .i64 r.frm, .int .i64 to, .int .i64 fin, .slice a4 (sn + 1) c4, .slice a6 nn c6, .slice none 0 0, .slice none 0 0, .slice none 0 0, .bool false]) (by simp [results, Try.results91, go_sem, y0, y1, y2, y3, y4, y5, y6, y7, y8]) rfl ?_
      have Os7 := Lib.hid (show W8.ownsRow W1.heap.size 47 3 (.slice a4 (sn + 1) c4) (sn + 1) ((r.steps ++ [s]).flatMap encStp) by rw [hW8]; exact (by repeat (first | with_reducible exact Os6.out | (with_reducible refine own_low (by omega) ?_ _))))
      have On7 := Lib.hid (show W8.ownsRow W5.heap.size 72 2 (.slice a6 nn c6) nn (r.needs.flatMap encNeed) by rw [hW8]; exact (by repeat (first | with_reducible exact On6.out | (with_reducible refine own_low (by omega) ?_ _))))
      have Hw7 := Lib.hid (show Below w.heap.size w W8 by rw [hW8]; exact (by repeat (first | with_reducible exact Hw6.out | (with_reducible refine below_set (by omega) ?_ _) | with_reducible refine Below.alloc ?_ (by omega) _)))
      clear hW8 hbx
      refine ⟨⟨a4, sn + 1, c4, a6, nn, c6, none, 0, 0, none, 0, 0, none, 0, 0⟩, rfl, ⟨(owns_row encStp_len Os7.out (by decide)).1, ?_, Row.nil _ _, Row.nil _ _, Row.nil _ _, ?_⟩, ?_, Hw7.out⟩
      · have := (owns_row encNeed_len (xs := r.needs) On7.out (by decide)).1
        simpa [addStep] using this
      · exact with_fit Hfit.out Hs.out hpos (fun h => (hc4 h).2) (fun h => (hc6 h).2)
      · exact with_blocks (own_blocks Os7.out (show w.heap.size ≤ W1.heap.size by omega)) (own_blocks On7.out (show w.heap.size ≤ W5.heap.size by omega))
    · have d1 : (pos != 0) = true := by simpa using hp
      obtain ⟨i2, hi2, zj1, zj2, zj3⟩ := info_parts info_need
      go_wp2_with (at_builtin; refine wpList_append_own _ rfl _ _ 35 rfl W5.heap.size 72 i2 (.agg #[.int .i64 0, .int .i64 0]) 2 16 Try.underlying35 hi2 zj1 zj2 zj3 rfl (by decide) _ _ _ rfl ((own_low (by omega) On6.out _).alloc _) ⟨w6.heap.size, 0, none⟩ 1 1 [.int .i64 s.e, .int .i64 pos] rfl rfl (by simpa using news_new (w6.setCell ⟨w.heap.size + 1 + 1 + 1, 4, none⟩ (.slice a6 nn c6)) #[.int .i64 s.e, .int .i64 pos] 72) (by intro u hu; simp at hu; rcases hu with rfl | rfl <;> rfl) (by simp [maxLen]; omega) (by omega) (by simp; omega) ?_)
      intro v8 w8 hown8 hgrow8 _
      have On8 := Lib.hid hown8
      obtain ⟨a8, c8, rfl, _, hc8⟩ := own_slice On8.out
      have hY : Below W5.heap.size (w6.setCell ⟨w.heap.size + 1 + 1 + 1, 4, none⟩ (.slice a6 nn c6)) w8 := ((Below.refl _ _).alloc (by simp; omega) _).grown hgrow8 (by simp; omega) (fun k hk => (On6.out.lt k hk).1)
      have hsz8 : w6.heap.size + 1 ≤ w8.heap.size := by have := hgrow8.size; simp at this; omega
      have hob8 := (hY.block (w.heap.size + 1 + 1 + 1) (by omega)).trans (heap_setCell_same w6 (w.heap.size + 1 + 1 + 1) 4 _ _ (.slice a6 nn c6) hob6)
      have hres8 := ((hY.block (w.heap.size + 1 + 1) (by omega)).trans (heap_setCell_other w6 ⟨w.heap.size + 1 + 1 + 1, 4, none⟩ (w.heap.size + 1 + 1) (.slice a6 nn c6) (by simp))).trans hres6
      have Os8 := Lib.hid (own_lowb (own_low (by omega) Os6.out _) Hlt4.out hY)
      have Hw8 := Lib.hid ((below_set (show w.heap.size ≤ w.heap.size + 1 + 1 + 1 by omega) Hw6.out _).trans (hY.mono (by omega)))
      have fz8 : ∀ o, w8.frozen? ⟨w.heap.size + 1 + 1 + 1, o, none⟩ = false := fun o => frozen_of_row w8 (w.heap.size + 1 + 1 + 1) o _ _ hob8
      have fr8 : ∀ o, w8.frozen? ⟨w.heap.size + 1 + 1, o, none⟩ = false := fun o => frozen_of_row w8 (w.heap.size + 1 + 1) o _ _ hres8
      have hol8 : w.heap.size + 1 + 1 + 1 < w8.heap.size := by omega
      have hrl8 : w.heap.size + 1 + 1 < w8.heap.size := by omega
      clear hown8 hgrow8 hY o0 o1 o2 o3 o4 o5 o6 o7 o8 rc0 rc1 rc2 rc3 rc4 rc5 rc6 rc7 rc8
      obtain ⟨o0, o1, o2, o3, o4, o5, o6, o7, o8⟩ := nine_of hob8
      obtain ⟨rc0, rc1, rc2, rc3, rc4, rc5, rc6, rc7, rc8⟩ := nine_of hres8
      go_wp2_with fail
      refine name_world fun W8 hW8 => ?_
      have hbx : W8.heap[w.heap.size + 1 + 1]? = some (.cells #[.int .i64 r.frm, .int .i64 to, .int .i64 fin, .slice a4 (sn + 1) c4, .slice a8 (nn + 1) c8, .slice none 0 0, .slice none 0 0, .slice none 0 0, .bool false] 38) := by
        rw [hW8]; exact box9 ((heap_setCell_other w8 ⟨w.heap.size + 1 + 1 + 1, 4, none⟩ (w.heap.size + 1 + 1) _ (by simp)).trans hres8) _ _ _ _ _ _ _ _ _
      obtain ⟨y0, y1, y2, y3, y4, y5, y6, y7, y8⟩ := nine_of hbx
      try rw [Exit.noGoto_ret]
      refine bodyPost_ret (v := .agg #[.int .i64 r.frm, .int .i64 to, .int .i64 fin, .slice a4 (sn + 1) c4, .slice a8 (nn + 1) c8, .slice none 0 0, .slice none 0 0, .slice none 0 0, .bool false]) (by simp [results, Try.results91, go_sem, y0, y1, y2, y3, y4, y5, y6, y7, y8]) rfl ?_
      have Os7 := Lib.hid (show W8.ownsRow W1.heap.size 47 3 (.slice a4 (sn + 1) c4) (sn + 1) ((r.steps ++ [s]).flatMap encStp) by rw [hW8]; exact (by repeat (first | with_reducible exact Os8.out | (with_reducible refine own_low (by omega) ?_ _))))
      have On7 := Lib.hid (show W8.ownsRow W5.heap.size 72 2 (.slice a8 (nn + 1) c8) (nn + 1) (r.needs.flatMap encNeed ++ [.int .i64 s.e, .int .i64 pos]) by rw [hW8]; exact (by repeat (first | with_reducible exact On8.out | (with_reducible refine own_low (by omega) ?_ _))))
      have Hw7 := Lib.hid (show Below w.heap.size w W8 by rw [hW8]; exact (by repeat (first | with_reducible exact Hw8.out | (with_reducible refine below_set (by omega) ?_ _) | with_reducible refine Below.alloc ?_ (by omega) _)))
      clear hW8 hbx
      refine ⟨⟨a4, sn + 1, c4, a8, nn + 1, c8, none, 0, 0, none, 0, 0, none, 0, 0⟩, rfl, ⟨(owns_row encStp_len Os7.out (by decide)).1, ?_, Row.nil _ _, Row.nil _ _, Row.nil _ _, ?_⟩, ?_, Hw7.out⟩
      · have := (owns_row encNeed_len (xs := r.needs ++ [⟨s.e, pos⟩]) (by have := On7.out; rw [List.flatMap_append]; exact this) (by decide)).1
        simpa [addStep, hp] using this
      · exact with_fit Hfit.out Hs.out hpos (fun h => (hc4 h).2) (fun h => (hc8 h).2)
      · exact with_blocks (own_blocks Os7.out (show w.heap.size ≤ W1.heap.size by omega)) (own_blocks On7.out (show w.heap.size ≤ W5.heap.size by omega))
  have st110 : ∀ (w' : World) (g1 : Nat) (v3 : Value), Below W1.heap.size W1 w' → w'.ownsRow W1.heap.size 47 3 v3 sn (r.steps.flatMap encStp) → wpOb Try.prog .any OPS R (SW w.heap.size (.slice sa sn sc) s) obW 4 #[true, true, true, true, true, false, false, false, false] ((A.put (some 17) (.slice (some ⟨g1, 0, none⟩) 0 0)).put (some 20) v3) w' := by
    intro w' g1 v3 hb ho
    have hsb := hb.size
    refine ob_some (js := [5]) (by rw [hO]; kernel_rfl) (by simp) (fun i hi => ?_)
    simp only [List.mem_cons, List.not_mem_nil, or_false] at hi
    subst hi
    · refine ⟨_, (by rw [hO]; rfl), fun K hK => ?_⟩
      refine step_build3 w' (by rfl) 34 47 _ (by rfl) ii (.agg #[.int .i64 0, .int .i64 0, .int .i64 0]) Try.underlying34 hii zi1 zi2 (.int .i64 s.e) (.int .i64 s.i) (.int .i64 s.o) (by simp [ev_putC, put_sizeC, hsz, e21]) (fill3i _ _ _) ?_
      have hb2 := hb.alloc hsb (.cells #[.int .i64 s.e, .int .i64 s.i, .int .i64 s.o] 47)
      refine hK _ _ (fun _ => hSall _ hb2) ?_
      exact st111 _ g1 w'.heap.size v3 hb2 (ho.alloc _) (heap_alloc_new _ _) (fun h => absurd (ho.lt _ h).2 (Nat.lt_irrefl _)) hsb
  have st101 : ∀ (w' : World) (g1 g5 : Nat), Below W1.heap.size W1 w' → w'.ownsRow W1.heap.size 47 3 (.slice (some ⟨g1, 0, none⟩) 0 0) 0 [] → w'.heap[g5]? = some (.cells #[.int .i64 s.e, .int .i64 s.i, .int .i64 s.o] 47) → g1 ≠ g5 → W1.heap.size ≤ g5 → wpOb Try.prog .any OPS R (SW w.heap.size (.slice sa sn sc) s) obW 4 #[true, true, true, false, true, true, false, false, false] ((A.put (some 17) (.slice (some ⟨g1, 0, none⟩) 0 0)).put (some 22) (.slice (some ⟨g5, 0, none⟩) 1 1)) w' := by
    intro w' g1 g5 hb hl hp ha hg
    have hsb := hb.size
    refine ob_some (js := [3]) (by rw [hO]; kernel_rfl) (by simp) (fun i hi => ?_)
    simp only [List.mem_cons, List.not_mem_nil, or_false] at hi
    subst hi
    · refine ⟨_, (by rw [hO]; rfl), fun K hK => ?_⟩
      refine step_app encStp_len encStp_one w' (by rfl) _ _ 34 (by rfl) W1.heap.size 47 (.agg #[.int .i64 0, .int .i64 0, .int .i64 0]) 24 Try.underlying34 info_stp (by rfl) (by decide) (.slice (some ⟨g1, 0, none⟩) 0 0) 0 [] (by simp [ev_putC, put_sizeC, hsz]) hl sa sn sc r.steps (by simp [ev_putC, put_sizeC, hsz, e19]) (hS.out.below hb) hsc.out (by simp [maxLen]; omega) (by omega) hsb ?_
      intro v3 w3 ho3 hg3 _ hbl
      have hb3 : Below W1.heap.size W1 w3 := hb.grown hg3 hsb (by intro k hk; exact (hl.lt k hk).1)
      refine hK _ _ (fun _ => hSall _ hb3) ?_
      have hn := st111 w3 g1 g5 v3 hb3 (by simpa using ho3) ((hg3.block g5 (Array.getElem?_eq_some_iff.1 hp).1 (by intro h; cases h; exact ha rfl)).trans hp) (own_elseC hbl (fun h => ha (by cases h; rfl)) hp) hg
      rw [put_swapC _ (show (20 : Nat) ≠ 22 from by decide)] at hn
      exact hn
  have st100 : ∀ (w' : World) (g1 : Nat), Below W1.heap.size W1 w' → w'.ownsRow W1.heap.size 47 3 (.slice (some ⟨g1, 0, none⟩) 0 0) 0 [] → wpOb Try.prog .any OPS R (SW w.heap.size (.slice sa sn sc) s) obW 5 #[true, true, true, false, true, false, false, false, false] (A.put (some 17) (.slice (some ⟨g1, 0, none⟩) 0 0)) w' := by
    intro w' g1 hb hl
    have hsb := hb.size
    refine ob_some (js := [3, 5]) (by rw [hO]; kernel_rfl) (by simp) (fun i hi => ?_)
    simp only [List.mem_cons, List.not_mem_nil, or_false] at hi
    rcases hi with rfl | rfl
    · refine ⟨_, (by rw [hO]; rfl), fun K hK => ?_⟩
      refine step_app encStp_len encStp_one w' (by rfl) _ _ 34 (by rfl) W1.heap.size 47 (.agg #[.int .i64 0, .int .i64 0, .int .i64 0]) 24 Try.underlying34 info_stp (by rfl) (by decide) (.slice (some ⟨g1, 0, none⟩) 0 0) 0 [] (by simp [ev_putC, hsz]) hl sa sn sc r.steps (by simp [ev_putC, hsz, e19]) (hS.out.below hb) hsc.out (by simp [maxLen]; omega) (by omega) hsb ?_
      intro v3 w3 ho3 hg3 _ hbl
      have hb3 : Below W1.heap.size W1 w3 := hb.grown hg3 hsb (by intro k hk; exact (hl.lt k hk).1)
      refine hK _ _ (fun _ => hSall _ hb3) ?_
      have hn := st110 w3 g1 v3 hb3 (by simpa using ho3)
      exact hn
    · refine ⟨_, (by rw [hO]; rfl), fun K hK => ?_⟩
      refine step_build3 w' (by rfl) 34 47 _ (by rfl) ii (.agg #[.int .i64 0, .int .i64 0, .int .i64 0]) Try.underlying34 hii zi1 zi2 (.int .i64 s.e) (.int .i64 s.i) (.int .i64 s.o) (by simp [ev_putC, hsz, e21]) (fill3i _ _ _) ?_
      have hb2 := hb.alloc hsb (.cells #[.int .i64 s.e, .int .i64 s.i, .int .i64 s.o] 47)
      refine hK _ _ (fun _ => hSall _ hb2) ?_
      exact st101 _ g1 w'.heap.size hb2 (hl.alloc _) (heap_alloc_new _ _) (fun h => absurd (hl.lt g1 rfl).2 (by rw [h]; exact Nat.lt_irrefl _)) hsb
  have st001 : ∀ (w' : World) (g5 : Nat), Below W1.heap.size W1 w' → w'.heap[g5]? = some (.cells #[.int .i64 s.e, .int .i64 s.i, .int .i64 s.o] 47) → W1.heap.size ≤ g5 → wpOb Try.prog .any OPS R (SW w.heap.size (.slice sa sn sc) s) obW 5 #[false, true, true, false, true, true, false, false, false] (A.put (some 22) (.slice (some ⟨g5, 0, none⟩) 1 1)) w' := by
    intro w' g5 hb hp hg
    have hsb := hb.size
    refine ob_some (js := [0]) (by rw [hO]; kernel_rfl) (by simp) (fun i hi => ?_)
    simp only [List.mem_cons, List.not_mem_nil, or_false] at hi
    subst hi
    · refine ⟨_, (by rw [hO]; rfl), fun K hK => ?_⟩
      refine step_build0 w' (by rfl) 34 47 (by rfl) ii (.agg #[.int .i64 0, .int .i64 0, .int .i64 0]) Try.underlying34 hii zi1 ?_
      have hb2 := hb.alloc hsb (.cells #[] 47)
      refine hK _ _ (fun _ => hSall _ hb2) ?_
      have hn := st101 _ w'.heap.size g5 hb2 (World.ownsRow_made w' #[] 0 hsb (by simp [maxLen]) (by simp)) (alloc_oldC hp _) (fun h => by rw [← h] at hp; exact absurd hp (by simp)) hg
      rw [put_swapC _ (show (17 : Nat) ≠ 22 from by decide)] at hn
      exact hn
  have st000 : ∀ (w' : World), Below W1.heap.size W1 w' → wpOb Try.prog .any OPS R (SW w.heap.size (.slice sa sn sc) s) obW 6 #[false, true, true, false, true, false, false, false, false] A w' := by
    intro w' hb
    have hsb := hb.size
    refine ob_some (js := [0, 5]) (by rw [hO]; kernel_rfl) (by simp) (fun i hi => ?_)
    simp only [List.mem_cons, List.not_mem_nil, or_false] at hi
    rcases hi with rfl | rfl
    · refine ⟨_, (by rw [hO]; rfl), fun K hK => ?_⟩
      refine step_build0 w' (by rfl) 34 47 (by rfl) ii (.agg #[.int .i64 0, .int .i64 0, .int .i64 0]) Try.underlying34 hii zi1 ?_
      have hb2 := hb.alloc hsb (.cells #[] 47)
      refine hK _ _ (fun _ => hSall _ hb2) ?_
      have hn := st100 _ w'.heap.size hb2 (World.ownsRow_made w' #[] 0 hsb (by simp [maxLen]) (by simp))
      exact hn
    · refine ⟨_, (by rw [hO]; rfl), fun K hK => ?_⟩
      refine step_build3 w' (by rfl) 34 47 _ (by rfl) ii (.agg #[.int .i64 0, .int .i64 0, .int .i64 0]) Try.underlying34 hii zi1 zi2 (.int .i64 s.e) (.int .i64 s.i) (.int .i64 s.o) (by simp [e21]) (fill3i _ _ _) ?_
      have hb2 := hb.alloc hsb (.cells #[.int .i64 s.e, .int .i64 s.i, .int .i64 s.o] 47)
      refine hK _ _ (fun _ => hSall _ hb2) ?_
      exact st001 _ w'.heap.size hb2 (heap_alloc_new _ _) hsb
  exact st000 _ (Below.refl _ _).drew
end Go.Proofs.Ytnkpiijljfjmkaa

/- Walk of semaphoreref12.on: all roads that begin so. Condition: the plan, the road, the elements met are read; the plan is one that may be. -/
set_option maxRecDepth 1000000
namespace Go.Proofs.Ytnkpiijljfjmkaa
open Go.ChangeShapes Go.WideShapes Go.ChangeAt Go.RowKit Go.Sort

def SX (b : Nat) (e : Int) (w' : World) : Prop := w'.cell? ⟨b, 0, none⟩ = some (.int .i64 e)
def obX (t : Nat) : Bool := decide (t < 7)
theorem encInt_oneC (x : Int) : ∀ u ∈ encInt x, u.oneCell' = true := by intro u hu; simp [encInt] at hu; subst hu; rfl
theorem row_int1 {w : World} {g : Nat} {x : Int} (h : w.heap[g]? = some (.cells #[.int .i64 x] 3)) : Row 1 encInt w (some ⟨g, 0, none⟩) 1 [x] :=
  row_block (sz := 1) (enc := encInt) (fun _ => rfl) (by decide) [x] h rfl rfl (by omega)
theorem fillIC (x : Int) : Instr.fill (fun i => some (i * 1, 1)) ((Array.range (1 * 1)).map ((Value.int .i64 0).cells[· % (Value.int .i64 0).cells.size]!)) [(0, .int .i64 x)] = some #[.int .i64 x] := by
  simp [Instr.fill, Value.cells, Array.range]
  apply Array.ext
  · simp
  · intro i h1 h2
    have : i = 0 := by simp at h2; omega
    subst this
    simp
theorem step_build1C {P : Program} (w : World) {ops : Array Oper} {o : Oper} {ac : Act} {K : Act → World → Prop} {Q : Exit → Act → World → Prop} {E : Prop} (hgd : o.guard = none) (t e : TypeId) (x : Operand)
    (ho : o.op = .buildSlice t 1 #[(0, x)]) (ie : TypeInfo) (z : Value) (hu : P.underlying t = some (.slice e)) (hie : P.info? e = some ie) (hz : ie.zero = some z) (hs : ie.size = 1) (v : Value) (hv : ac.eval x = v)
    (hf : Instr.fill (fun i => some (i * 1, 1)) ((Array.range (1 * 1)).map (z.cells[· % z.cells.size]!)) [(0, v)] = some #[v])
    (h : K (ac.put o.dst (.slice (some ⟨w.heap.size, 0, none⟩) 1 1)) (w.alloc (.cells #[v] e))) : if Region.wanted o (yielded ops ac.tmps) = true then Oper.wp P o ac w K Q else E := by
  have hw : Region.wanted o (yielded ops ac.tmps) = true := by simp [Region.wanted, hgd]
  rw [if_pos hw]
  refine wp_buildSlice t e 1 #[(0, x)] ho #[v] ie z hu hie hz (by rw [hs]; decide) (by rw [hs]; decide) ?_ h
  rw [hs]
  simpa [hv] using hf
/-- the roads that on makes -/
def OnPost (w : World) (l : List Road) (e : Ending) (w' : World) : Prop := ∃ (v : Value) (xs : List RoadV), e = .returned v ∧ xs.map (·.r) = l ∧ OwnR w' w.heap.size v xs ∧ Below w.heap.size w w'
theorem boxesP (w : World) (pv : PV) (p : Plan) (rv : RV) (r : Road) (x : Port) : ∃ W0, W0 = ((w.alloc (.cells (pv.cells p) 27)).alloc (.cells (rv.cells r) 38)).alloc (.cells #[.int .i64 x.e, .int .i64 x.n] 86) ∧
    Below w.heap.size w W0 ∧ PBox W0 w.heap.size pv p ∧ RBox W0 (w.heap.size + 1) rv r ∧ PortBox W0 (w.heap.size + 1 + 1) x ∧ W0.heap.size = w.heap.size + 3 := by
  refine ⟨_, rfl, ?_, ?_, ?_, ?_, by simp⟩
  · exact (((Below.refl _ _).alloc (Nat.le_refl _) _).alloc (by simp) _).alloc (by simp; omega) _
  · exact ((PBox.mk' w pv p _).below (below_new1 _ _)).below (below_new1 _ _)
  · have h := (rbox_new (w.alloc (.cells (pv.cells p) 27)) rv r).below (below_new1 _ (.cells #[.int .i64 x.e, .int .i64 x.n] 86))
    rwa [show (w.alloc (.cells (pv.cells p) 27)).heap.size = w.heap.size + 1 by simp] at h
  · exact PortBox.new _ (b := w.heap.size + 1 + 1) (by simp) x _
def onG (p : Plan) (f : Nat) (r : Road) (x : Port) (met : List Int) (w : Way) : List Road :=
  if 0 ≤ reads p ⟨x.e, w.out⟩ then [addStep r ⟨x.e, x.n, w.out⟩ w.pos 1 (reads p ⟨x.e, w.out⟩)]
  else match nextOf p ⟨x.e, w.out⟩ with
    | none => [addStep r ⟨x.e, x.n, w.out⟩ w.pos 3 (-1)]
    | some y => onR p f (addStep r ⟨x.e, x.n, w.out⟩ w.pos 0 (-1)) y met
theorem info_road : (Try.prog.info? 38).map (fun i => (i.zero, i.size, i.bytes)) = some (some (.agg #[.int .i64 0, .int .i64 0, .int .i64 0, .slice none 0 0, .slice none 0 0, .slice none 0 0, .slice none 0 0, .slice none 0 0, .bool false]), 9, 152) := by kernel_rfl
theorem way_inI {p : Plan} {x : Port} (hx : x.wf) {y : Way} (h : y ∈ outs p x.e x.n) : inI y.out ∧ inI y.pos := by
  obtain ⟨_, h2, h3⟩ := hx
  have key : ∀ a : Int, -100 ≤ a → a ≤ 100 → inI a := fun a h1 h2 => inI_mk (by omega) (by omega)
  have he : ∀ k : Int, ends k ≤ 4 := fun k => by unfold ends; repeat' split
                                                 all_goals omega
  have hk := he (p.kind x.e)
  unfold outs at h
  split at h
  · cases h
  · rename_i hn
    split at h
    · simp at h; subst h; exact ⟨key (1 - x.n) (by omega) (by omega), key 0 (by omega) (by omega)⟩
    · split at h
      · simp at h; subst h
        refine ⟨?_, key 0 (by omega) (by omega)⟩
        show inI (cross x.n)
        unfold cross
        repeat' split
        all_goals exact key _ (by omega) (by omega)
      · split at h
        · split at h
          · simp at h; rcases h with rfl | rfl
            · exact ⟨key 1 (by omega) (by omega), key 1 (by omega) (by omega)⟩
            · exact ⟨key 2 (by omega) (by omega), key 2 (by omega) (by omega)⟩
          · simp at h; subst h; exact ⟨key 0 (by omega) (by omega), ⟨h2, h3⟩⟩
        · cases h
theorem nextIn_mem : ∀ {l : List Join} {x y : Port}, nextIn l x = some y → ∃ j ∈ l, y = j.a ∨ y = j.b
  | [], _, _, h => by cases h
  | j :: r, x, y, h => by
    unfold nextIn at h
    split at h
    · cases h; exact ⟨j, by simp, .inr rfl⟩
    · split at h
      · cases h; exact ⟨j, by simp, .inl rfl⟩
      · obtain ⟨q, hq, h2⟩ := nextIn_mem h
        exact ⟨q, List.mem_cons_of_mem _ hq, h2⟩
theorem next_wfC {v : PV} {p : Plan} (h : PlanFit v p) {x y : Port} (hn : nextOf p x = some y) : y.wf := by
  obtain ⟨j, hj, rfl | rfl⟩ := nextIn_mem hn
  · exact (h.j j hj).1
  · exact (h.j j hj).2
theorem lit_road {w : World} {rv : RV} {r : Road} {base : Nat} (h : RoadAt w rv r) (hb : ∀ a ∈ rv.addrs, ∀ k, a.map (·.block) = some k → base ≤ k ∧ k < w.heap.size) (hz : base ≤ w.heap.size) :
    OwnR (w.alloc (.cells (rv.cells r) 38)) base (.slice (some ⟨w.heap.size, 0, none⟩) 1 1) [⟨rv, r⟩] := by
  refine ⟨?_, fun x hx => ?_, fun x hx a ha k hk => ?_⟩
  · exact ⟨rfl, .inr ⟨w.heap.size, 1, rv.cells r, rfl, hz, heap_alloc_new w _, Nat.le_refl _, by simp [maxLen], rfl, rfl⟩⟩
  · simp at hx; subst hx; exact h.below (below_new1 _ _)
  · simp at hx; subst hx
    have := hb a ha k hk
    refine ⟨this.1, by simp; omega, fun hc => ?_⟩
    simp only [Value.ownBlock, Option.some.injEq] at hc
    omega
theorem with_l {w : World} {sa na ga za ha : Option Addr} {sn sc nn nc gn gc zn zc hn hc : Nat} {r : Road} (h : RoadAt w ⟨sa, sn, sc, na, nn, nc, ga, gn, gc, za, zn, zc, ha, hn, hc⟩ r) (h1 : sn ≤ 100) (h2 : nn ≤ 100) (s : Stp) (hs : inI s.e ∧ inI s.i ∧ inI s.o) (pos fin to : Int) (hpos : inI pos) :
    Calls Try.prog 91 #[(.agg #[.int .i64 r.frm, .int .i64 r.to, .int .i64 r.fin, .slice sa sn sc, .slice na nn nc, .slice ga gn gc, .slice za zn zc, .slice ha hn hc, .bool r.bare]), .agg #[.int .i64 s.e, .int .i64 s.i, .int .i64 s.o], .int .i64 pos, .int .i64 fin, .int .i64 to] w (WithPost w (addStep r s pos fin to)) := with_any w ⟨sa, sn, sc, na, nn, nc, ga, gn, gc, za, zn, zc, ha, hn, hc⟩ r h h1 h2 s hs pos fin to hpos
set_option maxHeartbeats 4000000 in
theorem on_zero (w : World) (pv : PV) (p : Plan) (h : PlanAt w pv p) (rv : RV) (r : Road) (hr : RoadAt w rv r) (hsf : r.steps.length = 12) (x : Port)
    (am : Option Addr) (nm cm : Nat) (met : List Int) (hm : Ints w am nm met) :
    Calls Try.prog 83 #[pv.val p, rv.val r, x.val, .slice am nm cm] w (OnPost w []) := by
  obtain ⟨ae, ne, ce, aj, nj, cj, as_, ns, cs, al, nl, cl, lv⟩ := pv
  obtain ⟨sa, sn, sc, na, nn, nc, ga, gn, gc, za, zn, zc, ha, hn, hc⟩ := rv
  have hsn : r.steps.length = sn := hr.s.len
  obtain ⟨W0, hW0, hb0, hB0, hR0, hX0, hz0⟩ := boxesP w ⟨ae, ne, ce, aj, nj, cj, as_, ns, cs, al, nl, cl, lv⟩ p ⟨sa, sn, sc, na, nn, nc, ga, gn, gc, za, zn, zc, ha, hn, hc⟩ r x
  have Hb0 := Lib.hid hb0
  have HB0 := Lib.hid hB0
  have HR0 := Lib.hid hR0
  have HX0 := Lib.hid hX0
  have HM0 := Lib.hid (hm.below hb0)
  have HIn := Lib.hid (refin_any W0 am nm cm met HM0.out x.e)
  have d12 : ((sn : Int) == 12) = true := by simp; omega
  clear h hr hb0 hB0 hR0 hX0 hz0 hm hsf hsn
  dsimp only [PV.val, RV.val, Port.val]
  dsimp only [PV.cells, RV.cells] at hW0
  obtain ⟨hrl, q0, q1, q2, q3, q4, q5, q6, q7, q8⟩ := HR0.out
  dsimp only at q0 q1 q2 q3 q4 q5 q6 q7 q8
  obtain ⟨hxl, x0, x1, _⟩ := HX0.out
  cases hmem : memB x.e met with
  | true =>
    rw [hmem] at HIn
    clear hmem
    go_enter Try.func83, Try.ntmps83
    go_wp2_with fail
    rw [← hW0]
    clear hW0
    go_wp2_with fail
    refine HIn.out.mono ?_
    rintro en w1 ⟨rfl, rfl⟩
    go_wp2_with fail
    go_ret
    exact ⟨_, [], rfl, rfl, OwnR.nil _ _, Hb0.out⟩
  | false =>
    rw [hmem] at HIn
    clear hmem
    go_enter Try.func83, Try.ntmps83
    go_wp2_with fail
    rw [← hW0]
    clear hW0
    go_wp2_with fail
    refine HIn.out.mono ?_
    rintro en w1 ⟨rfl, rfl⟩
    go_wp2_with fail
    go_ret
    exact ⟨_, [], rfl, rfl, OwnR.nil _ _, Hb0.out⟩
end Go.Proofs.Ytnkpiijljfjmkaa
