/- LateMore: for every input the law returns true. No condition. -/
import Derived.Test.YtkklnaejpgcgoaaLawTimes
import Derived.Test.YtkklnaejpgcgoaaOpenWt
import Derived.Test.YtkklnaejpgcgoaaLawLong
import Derived.Test.YtkklnaejpgcgoaaApp
import Derived.Test.YtkklnaejpgcgoaaTillL
import Derived.Great.BuildSlice
import Derived.Deep.CutRange
namespace Go.Proofs.Ytkklnaejpgcgoaa
open Go.ChangeShapes Go.WideShapes Go.ChangeAt Go.RowKit

/-! what region 6 needs -/
def SM (b : Nat) (x : Wt) (w' : World) : Prop := w'.cell? ⟨b, 0, none⟩ = some (.int .i64 x.frm) ∧ w'.cell? ⟨b, 1, none⟩ = some (.int .i64 x.to) ∧ w'.cell? ⟨b, 2, none⟩ = some (.int .i64 x.gap)
def obM (t : Nat) : Bool := decide (t < 7)
theorem alloc_old {w : World} {g : Nat} {o : Obj} (h : w.heap[g]? = some o) (x : Obj) : (w.alloc x).heap[g]? = some o := by
  obtain ⟨hg, rfl⟩ := Array.getElem?_eq_some_iff.1 h
  show (w.heap.push x)[g]? = _
  rw [Array.getElem?_push_lt hg]
theorem row_wt2 {w : World} {g : Nat} {x : Wt} (h : w.heap[g]? = some (.cells #[.int .i64 x.frm, .int .i64 x.to, .int .i64 x.gap] 34)) : Row 3 encWt w (some ⟨g, 0, none⟩) 1 [x] := by
  refine ⟨rfl, by omega, fun i y hy => ⟨g, 0, rfl, (Array.getElem?_eq_some_iff.1 h).1, fun k v hv => ?_⟩⟩
  cases i with
  | zero =>
    simp only [List.getElem?_cons_zero, Option.some.injEq] at hy; subst hy
    rw [cell_of_row w g _ _ _ (0, 0) h]
    unfold encWt at hv
    match k, hv with
    | 0, hv => simpa using hv
    | 1, hv => simpa using hv
    | 2, hv => simpa using hv
    | k + 3, hv => simp at hv
  | succ i => simp at hy
theorem own_else {w : World} {a b : Option Nat} {g : Nat} {o : Obj} (h : a = b ∨ a = some w.heap.size) (hb : b ≠ some g) (hp : w.heap[g]? = some o) : a ≠ some g := by
  rcases h with rfl | rfl
  · exact hb
  · intro h
    cases h
    exact absurd (Array.getElem?_eq_some_iff.1 hp).1 (Nat.lt_irrefl _)
theorem ev_put (A : Act) {i j : Nat} {v : Value} (hi : i < A.tmps.size) : (A.put (some i) v).eval (.tmp j) = if i = j then v else A.eval (.tmp j) := by
  by_cases h : i = j
  · subst h; simp [Act.put, Act.eval, hi]
  · simp [Act.put, Act.eval, Array.getElem?_setIfInBounds_ne h, h]
theorem put_size (A : Act) (d : Option Nat) (v : Value) : (A.put d v).tmps.size = A.tmps.size := by
  cases d <;> simp [Act.put]
theorem put_swap (A : Act) {i j : Nat} (h : i ≠ j) (u v : Value) : (A.put (some i) u).put (some j) v = (A.put (some j) v).put (some i) u := by
  simp only [Act.put]
  rw [Array.setIfInBounds_comm _ _ h]
theorem fill3i (a b c : Int) : Instr.fill (fun i => some (i * 3, 3)) ((Array.range (1 * 3)).map ((Value.agg #[.int .i64 0, .int .i64 0, .int .i64 0]).cells[· % (Value.agg #[.int .i64 0, .int .i64 0, .int .i64 0]).cells.size]!)) [(0, .agg #[.int .i64 a, .int .i64 b, .int .i64 c])] = some #[.int .i64 a, .int .i64 b, .int .i64 c] := by
  have hc : (Value.agg #[.int .i64 a, .int .i64 b, .int .i64 c]).cells = #[.int .i64 a, .int .i64 b, .int .i64 c] := by
    simp [Value.cells]
  have := Great.fill_whole (s := 3) (by decide) [.agg #[.int .i64 a, .int .i64 b, .int .i64 c]] ((Array.range (1 * 3)).map ((Value.agg #[.int .i64 0, .int .i64 0, .int .i64 0]).cells[· % (Value.agg #[.int .i64 0, .int .i64 0, .int .i64 0]).cells.size]!)) (by simp [hc]) (by simp)
  simpa [hc] using this
theorem step_build0 {P : Program} (w : World) {ops : Array Oper} {o : Oper} {ac : Act} {K : Act → World → Prop} {Q : Exit → Act → World → Prop} {E : Prop} (hgd : o.guard = none) (t e : TypeId)
    (ho : o.op = .buildSlice t 0 #[]) (ie : TypeInfo) (z : Value) (hu : P.underlying t = some (.slice e)) (hie : P.info? e = some ie) (_hz : ie.zero = some z)
    (h : K (ac.put o.dst (.slice (some ⟨w.heap.size, 0, none⟩) 0 0)) (w.alloc (.cells #[] e))) : if Region.wanted o (yielded ops ac.tmps) = true then Oper.wp P o ac w K Q else E := by
  have hw : Region.wanted o (yielded ops ac.tmps) = true := by simp [Region.wanted, hgd]
  rw [if_pos hw]
  unfold Oper.wp execOp
  simp [ho, Sem.run_bind, Instr.buildSlice, run_underlying hu, sizeOf, typeInfo, hie, newRow, Result.andThen_ok, Instr.fill]
  have e0 : Array.map (fun _ => (default : Value)) (Array.range 0) = #[] := by simp [Array.range]
  rw [e0]
  exact h
theorem step_build3 {P : Program} (w : World) {ops : Array Oper} {o : Oper} {ac : Act} {K : Act → World → Prop} {Q : Exit → Act → World → Prop} {E : Prop} (hgd : o.guard = none) (t e : TypeId) (x : Operand)
    (ho : o.op = .buildSlice t 1 #[(0, x)]) (ie : TypeInfo) (z : Value) (hu : P.underlying t = some (.slice e)) (hie : P.info? e = some ie) (hz : ie.zero = some z) (hs : ie.size = 3) (a b c : Value) (hv : ac.eval x = .agg #[a, b, c])
    (hf : Instr.fill (fun i => some (i * 3, 3)) ((Array.range (1 * 3)).map (z.cells[· % z.cells.size]!)) [(0, .agg #[a, b, c])] = some #[a, b, c])
    (h : K (ac.put o.dst (.slice (some ⟨w.heap.size, 0, none⟩) 1 1)) (w.alloc (.cells #[a, b, c] e))) : if Region.wanted o (yielded ops ac.tmps) = true then Oper.wp P o ac w K Q else E := by
  have hw : Region.wanted o (yielded ops ac.tmps) = true := by simp [Region.wanted, hgd]
  rw [if_pos hw]
  refine wp_buildSlice t e 1 #[(0, x)] ho #[a, b, c] ie z hu hie hz (by rw [hs]; decide) (by rw [hs]; decide) ?_ h
  rw [hs]
  simpa [hv] using hf
theorem own_as {w : World} {B n m : Nat} {v : Value} {xs : List Int} (h : OwnI w B v n xs) (e : n = m) : OwnI w B v m xs := e ▸ h
theorem name_act {P : Program} {c : Code} {Q : Exit → Act → World → Prop} {a : Act} {w : World} (h : ∀ A, A = a → Code.wp P c Q A w) : Code.wp P c Q a w := h _ rfl
theorem at0_mem {l : List Int} {i : Int} (h0 : 0 ≤ i) (h1 : i < l.length) : at0 l i ∈ l := by
  unfold at0
  rw [List.getD_eq_getElem?_getD, List.getElem?_eq_getElem (show i.toNat < l.length by omega)]
  exact List.getElem_mem _
theorem at0_later {l : List Int} {e b : Int} (_h0 : 0 ≤ e) (h1 : e < l.length) (hb : 0 ≤ b) (i : Int) (i0 : 0 ≤ i) (_i1 : i < l.length) : at0 l i ≤ at0 (l.set e.toNat (at0 l e + b)) i := by
  unfold at0
  rw [getD_set l e.toNat i.toNat _ (by omega)]
  split
  · rename_i h; rw [← h]; omega
  · exact Int.le_refl _
theorem timesOf_len {start : List Int} {l : List Wt} (_h : solveErr start l = 0) : (timesOf start l).length = start.length := timesRun_length _ _ _

set_option maxRecDepth 100000 in
set_option maxHeartbeats 16000000 in
theorem lawMore_any (w : World) (a1 a2 : Option Addr) (n1 c1 n2 c2 : Nat) (start : List Int) (l : List Wt) (x : Wt) (event byy : Int) (h1 : Ints w a1 n1 start) (h2 : Wts w a2 n2 l) (hc : a1 = none → c1 = 0) (hc2 : a2 = none → c2 = 0)
    (u0 : 0 ≤ byy) (u1 : byy ≤ 65535) :
    Calls Try.prog 8 #[.slice a1 n1 c1, .slice a2 n2 c2, x.val, .int .i64 event, .int .u16 byy] w fun e w' => e = .returned (.bool true) ∧ Below w.heap.size w w' := by
  obtain rfl := h1.len
  have b1 := h1.bnd
  have b2 := h2.bnd
  obtain ⟨W0, hW0⟩ : ∃ W0, W0 = w.alloc (.cells #[.int .i64 x.frm, .int .i64 x.to, .int .i64 x.gap] 34) := ⟨_, rfl⟩
  have hb0 : Below w.heap.size w W0 := by rw [hW0]; exact (Below.refl _ _).alloc (Nat.le_refl _) _
  have K := Lib.hid (known_any W0)
  have Hc := Lib.hid hc; clear hc
  have Hc2 := Lib.hid hc2; clear hc2
  by_cases hf : start.length ≤ 60 ∧ n2 ≤ 120
  · have hfd := Lib.hid (show decide (start.length ≤ 60 ∧ n2 ≤ 120) = true by simpa using hf)
    obtain ⟨hf1, hf2⟩ := hf
    unfold Wt.val
    rw [hW0] at K
    have HW0 := Lib.hid hW0
    have x1 : W0.cell? ⟨w.heap.size, 0, none⟩ = some (.int .i64 x.frm) := by rw [hW0]; go_simp
    have x2 : W0.cell? ⟨w.heap.size, 1, none⟩ = some (.int .i64 x.to) := by rw [hW0]; go_simp
    have x3 : W0.cell? ⟨w.heap.size, 2, none⟩ = some (.int .i64 x.gap) := by rw [hW0]; go_simp
    have hs0 : W0.heap.size = w.heap.size + 1 := by rw [hW0]; simp
    clear hW0
    go_enter Try.func8, Try.ntmps8
    go_wp2_with fail
    refine K.out.mono ?_
    rintro e w1 ⟨rfl, hb1⟩
    rw [← HW0.out] at hb1
    have x1 := (hb1.cell (p := ⟨w.heap.size, 0, none⟩) (by show w.heap.size < _; omega)).trans x1
    have x2 := (hb1.cell (p := ⟨w.heap.size, 1, none⟩) (by show w.heap.size < _; omega)).trans x2
    have x3 := (hb1.cell (p := ⟨w.heap.size, 2, none⟩) (by show w.heap.size < _; omega)).trans x3
    have hs1 : w.heap.size < w1.heap.size := by have := hb1.size; omega
    have hb1' : Below w.heap.size w w1 := hb0.trans (hb1.mono hb0.size)
    go_wp2_with fail
    refine (few_any w1 a1 a2 _ c1 n2 c2 b1 b2).mono ?_
    rintro e w1' ⟨rfl, rfl⟩
    rw [hfd.out]
    have H1 := Lib.hid (lateTimes_any w1 a1 a2 _ c1 n2 c2 start l (h1.below hb1') (h2.below hb1') Hc.out)
    go_wp2_with fail
    refine H1.out.mono ?_
    rintro e w2 ⟨v1, rfl, hn1, hb2⟩
    have hb2' := below_step hb1' hb2 hb1'.size
    have x1 := (hb2.cell (p := ⟨w.heap.size, 0, none⟩) hs1).trans x1
    have x2 := (hb2.cell (p := ⟨w.heap.size, 1, none⟩) hs1).trans x2
    have x3 := (hb2.cell (p := ⟨w.heap.size, 2, none⟩) hs1).trans x3
    have hs2 : w.heap.size < w2.heap.size := by have := hb2.size; omega
    have Hn1 := Lib.hid hn1
    clear hn1
    obtain ⟨ii, hii, zi1, zi2, zi3⟩ := info_parts info_lwait
    have hlx := h2.len
    go_wp2_with fail
    refine wp_region_noPanic ?_
    refine region_ob (S := (SM w.heap.size x)) (ob := obM) (by kernel_rfl) ?_
    have hSall : ∀ w' : World, Below w2.heap.size w2 w' → (SM w.heap.size x) w' := fun w' hb => ⟨(hb.cell (p := ⟨w.heap.size, 0, none⟩) hs2).trans x1, (hb.cell (p := ⟨w.heap.size, 1, none⟩) hs2).trans x2, (hb.cell (p := ⟨w.heap.size, 2, none⟩) hs2).trans x3⟩
    have hS0 : (SM w.heap.size x) w2.drew := hSall _ (Below.refl _ _).drew
    refine ob_take (i := 0) (v := .slice a1 start.length c1) rfl (by kernel_rfl) (by kernel_rfl) (by kernel_rfl) (by kernel_rfl) (by kernel_rfl) (fun _ _ _ h => h) (Or.inl ⟨by rfl, ?_⟩) hS0 ?_
    · intro w' hSw
      obtain ⟨s1, s2, s3⟩ := hSw
      go_simp
    (try simp only [List.getElem_toArray, List.getElem_cons_zero, Act.put, List.setIfInBounds_toArray, List.set_cons_zero, List.set_cons_succ])
    refine ob_take (i := 2) (v := .slice a2 n2 c2) rfl (by kernel_rfl) (by kernel_rfl) (by kernel_rfl) (by kernel_rfl) (by kernel_rfl) (fun _ _ _ h => h) (Or.inl ⟨by rfl, ?_⟩) hS0 ?_
    · intro w' hSw
      obtain ⟨s1, s2, s3⟩ := hSw
      go_simp
    (try simp only [List.getElem_toArray, List.getElem_cons_succ, List.getElem_cons_zero, Act.put, List.setIfInBounds_toArray, List.set_cons_zero, List.set_cons_succ])
    refine ob_take (i := 4) (v := .agg #[.int .i64 x.frm, .int .i64 x.to, .int .i64 x.gap]) rfl (by kernel_rfl) (by kernel_rfl) (by kernel_rfl) (by kernel_rfl) (by kernel_rfl) (fun _ _ _ h => h) (Or.inl ⟨by rfl, ?_⟩) hS0 ?_
    · intro w' hSw
      obtain ⟨s1, s2, s3⟩ := hSw
      go_simp
    (try simp only [List.getElem_toArray, List.getElem_cons_succ, List.getElem_cons_zero, Act.put, List.setIfInBounds_toArray, List.set_cons_zero, List.set_cons_succ])
    refine ob_name fun OPS hO R hR A hA => ?_
    have hsz : A.tmps.size = 125 := by rw [hA]; rfl
    have e32 : A.eval (.tmp 32) = .slice a1 start.length c1 := by rw [hA]; rfl
    have e34 : A.eval (.tmp 34) = .slice a2 n2 c2 := by rw [hA]; rfl
    have e36 : A.eval (.tmp 36) = .agg #[.int .i64 x.frm, .int .i64 x.to, .int .i64 x.gap] := by rw [hA]; rfl
    have st111 : ∀ (w' : World) (g1 g5 : Nat) (v3 : Value), Below w2.heap.size w2 w' → w'.ownsRow w2.heap.size 34 3 v3 n2 (l.flatMap encWt) → w'.heap[g5]? = some (.cells #[.int .i64 x.frm, .int .i64 x.to, .int .i64 x.gap] 34) → v3.ownBlock ≠ some g5 → w2.heap.size ≤ g5 → wpOb Try.prog .any OPS R (SM w.heap.size x) obM 7 #[true, true, true, true, true, true, false, false, false, false, false, false, false] (((A.put (some 33) (.slice (some ⟨g1, 0, none⟩) 0 0)).put (some 35) v3).put (some 37) (.slice (some ⟨g5, 0, none⟩) 1 1)) w' := by
      intro w' g1 g5 v3 hb ho hp ha hg
      have hsb := hb.size
      subst hO
      subst hR
      refine ob_step (i := 6) (by kernel_rfl) rfl (fun K hK => ?_)
      refine step_app1 encWt_len encWt_one w' (by rfl) _ _ 23 (by rfl) w2.heap.size 34 (.agg #[.int .i64 0, .int .i64 0, .int .i64 0]) 24 Try.underlying23 info_lwait (by rfl) (by decide) v3 n2 l (by simp [ev_put, put_size, hsz]) ho ⟨g5, 0, none⟩ 1 x (by simp [ev_put, put_size, hsz]) (row_wt2 hp) (by simp [maxLen]; omega) (by omega) hsb ?_
      intro a4 n4 c4 w4 hn4 hrow4 hgrow4
      subst hn4
      have hb4 : Below w2.heap.size w2 w4 := hb.grown hgrow4 hsb (fun k hk => (ho.lt k hk).1)
      have H4 := Lib.hid (lateTimes_any w4 a1 a4 _ c1 (n2 + 1) c4 start (l ++ [x]) (h1.below (below_step hb2' hb4 hb2'.size)) hrow4 Hc.out)
      refine hK _ _ (fun _ => hSall _ hb4) ?_
      clear hK K hSall hS0 hb ho hp ha hg hsb hgrow4 hrow4
      subst hA
      (try simp only [List.getElem_toArray, List.getElem_cons_succ, List.getElem_cons_zero, Act.put, List.setIfInBounds_toArray, List.set_cons_zero, List.set_cons_succ])
      clear e32 e34 e36 hsz
      refine ob_step (i := 7) (by kernel_rfl) rfl (fun K hK => ?_)
      go_simp
      refine H4.out.mono ?_
      rintro e w5 ⟨v5, rfl, hn5, hb5⟩
      refine hK _ _ (fun h => absurd h (by decide)) ?_
      clear hK K
      (try simp only [List.setIfInBounds_toArray, List.set_cons_zero, List.set_cons_succ])
      refine ob_step (i := 8) (by kernel_rfl) rfl (fun K hK => ?_)
      go_simp
      refine hK _ _ (fun h => absurd h (by decide)) ?_
      clear hK K
      (try simp only [List.setIfInBounds_toArray, List.set_cons_zero, List.set_cons_succ])
      refine ob_pure (i := 9) (v := v5) rfl (by kernel_rfl) (by kernel_rfl) (by kernel_rfl) (by kernel_rfl) (by kernel_rfl) (fun _ _ _ h => h) (Or.inl ⟨by rfl, ?_⟩) ?_
      · intro w' _
        go_simp
      (try simp only [List.getElem_toArray, List.getElem_cons_succ, List.getElem_cons_zero, Act.put, List.setIfInBounds_toArray, List.set_cons_zero, List.set_cons_succ])
      refine ob_pure (i := 10) (v := .int .i64 (solveErr start (l ++ [x]))) rfl (by kernel_rfl) (by kernel_rfl) (by kernel_rfl) (by kernel_rfl) (by kernel_rfl) (fun _ _ _ h => h) (Or.inl ⟨by rfl, ?_⟩) ?_
      · intro w' _
        go_simp
      (try simp only [List.getElem_toArray, List.getElem_cons_succ, List.getElem_cons_zero, Act.put, List.setIfInBounds_toArray, List.set_cons_zero, List.set_cons_succ])
      refine ob_step (i := 11) (by kernel_rfl) rfl (fun K hK => ?_)
      go_simp
      refine hK _ _ (fun h => absurd h (by decide)) ?_
      clear hK K
      (try simp only [List.setIfInBounds_toArray, List.set_cons_zero, List.set_cons_succ])
      refine ob_step (i := 12) (by kernel_rfl) rfl (fun K hK => ?_)
      go_simp
      refine hK _ _ (fun h => absurd h (by decide)) ?_
      clear hK K
      (try simp only [List.setIfInBounds_toArray, List.set_cons_zero, List.set_cons_succ])
      refine ob_done (by kernel_rfl) (NoPanic.normal ?_) _
      have hb5' := below_step (below_step hb2' hb4 hb2'.size) hb5 (Nat.le_trans hb2'.size hb4.size)
      have Hn5 := Lib.hid hn5
      have Hn5no := Lib.hid hn5.no
      have O1b := Lib.hid (fun hd => owns_below (owns_below (own_as (Hn1.out.ok hd) (timesOf_len hd)) hb4) hb5)
      have hs5 : w2.heap.size ≤ w5.heap.size := Nat.le_trans hb4.size hb5.size
      clear hn5 hb5 hb4 x1 x2 x3 H1 H4 hs0 hs1 hs2
      by_cases hd : solveErr start l = 0
      · have O1 := Lib.hid (O1b.out hd)
        have Hd := Lib.hid hd
        obtain ⟨z1, z2⟩ := solveErr_zero hd
        have hz3 := (lateCheck_zero z1).2.2.1
        rw [hd]
        clear hd O1b z1 z2
        have own0 : OwnI (w5.alloc (.cells #[] 3)) w5.heap.size (.slice (some ⟨w5.heap.size, 0, none⟩) 0 0) 0 [] := World.ownsRow_made w5 #[] 0 (Nat.le_refl _) (by simp [maxLen]) (by simp)
        have Own0 := Lib.hid own0
        have Hr := Lib.hid (h1.below (hb5'.alloc hb5'.size (.cells #[] 3)))
        clear own0
        go_wp2_with (at_builtin; refine wpList_app (enc := encInt) (fun _ => rfl) encInt_one _ rfl _ _ 22 rfl w5.heap.size 3 (.int .i64 0) 8 Try.underlying22 info_int rfl (by decide) (.slice (some ⟨w5.heap.size, 0, none⟩) 0 0) _ [] rfl Own0.out a1 start.length c1 start rfl Hr.out Hc.out (by simp [maxLen]; omega) (by omega) (by simp) ?_)
        intro vs w6 hown6 hgrow6 _
        have hb6 : Below w5.heap.size w5 w6 := ((Below.refl w5.heap.size w5).alloc (Nat.le_refl _) _).grown hgrow6 (by simp) (by intro k hk; simp only [Value.ownBlock, Option.some.injEq] at hk; omega)
        have os : OwnI w6 w5.heap.size vs start.length start := by
          rw [flat_ints] at hown6
          simpa using hown6
        have Os := Lib.hid os
        have Hb6 := Lib.hid hb6
        clear hown6 hgrow6 Own0 Hr os hb6
        go_upto_region 10 with fail
        rename_i QQ _ K1 hK1 KK hKK
        have HK1 := Lib.hid hK1
        clear hK1
        refine name_act fun A hA => ?_
        have key : ∀ (u49 u50 u51 u52 u53 u54 u55 u56 u57 u58 u59 u60 u61 u62 u63 u64 s15 : Value) (wq : World) (s2 : List Int), s2.length = start.length → Hid (OwnI wq w5.heap.size s15 start.length s2) → Hid (∀ i : Int, 0 ≤ i → i < start.length → at0 start i ≤ at0 s2 i) → Hid (Below w5.heap.size w5 wq) → K1 (((((((((((((((((A.put (some 15) s15).put (some 49) u49).put (some 50) u50).put (some 51) u51).put (some 52) u52).put (some 53) u53).put (some 54) u54).put (some 55) u55).put (some 56) u56).put (some 57) u57).put (some 58) u58).put (some 59) u59).put (some 60) u60).put (some 61) u61).put (some 62) u62).put (some 63) u63).put (some 64) u64) wq := by
          intro u49 u50 u51 u52 u53 u54 u55 u56 u57 u58 u59 u60 u61 u62 u63 u64 s15 wq s2 hl2 Os2 Hle Hb7
          clear Os Hb6 hKK hz3
          subst hA
          refine HK1.out _ _ ?_
          clear HK1
          simp only [Act.put, List.setIfInBounds_toArray, List.set_cons_zero, List.set_cons_succ]
          obtain ⟨xa, xc, rfl, _, hxc⟩ := own_slice Os2.out
          have Hl := Lib.hid hl2
          have hbq := below_step hb5' Hb7.out hb5'.size
          have Hbq := Lib.hid hbq
          have H6 := Lib.hid (lateTimes_any wq xa a2 start.length xc n2 c2 s2 l (own_ints Os2.out).1 (h2.below hbq) (fun h => (hxc h).2))
          clear hbq hl2 hxc
          go_wp2_with fail
          refine H6.out.mono ?_
          rintro e w6' ⟨v6, rfl, hn6, hb6⟩
          have hb6' := below_step Hbq.out hb6 Hbq.out.size
          have O1 := Lib.hid (owns_below (owns_below O1.out Hb7.out) hb6)
          have Hn5 := Lib.hid (fun hf => owns_below (owns_below (Hn5.out.ok hf) Hb7.out) hb6)
          obtain ⟨w6, rfl⟩ : ∃ w6 : World, w6 = w6' := ⟨_, rfl⟩
          have Hn5n := Hn5no
          have Hg1 := Lib.hid (solveErr_later Hl.out Hd.out)
          clear H6 hb6 Hb7 Hbq hb5'
          obtain ⟨y1, k1, rfl, _, _⟩ := own_slice O1.out
          by_cases hf : solveErr start (l ++ [x]) = 0
          · have O5 := Lib.hid (own_as (Hn5.out hf) (timesOf_len hf))
            obtain ⟨y5, k5, rfl, _, _⟩ := own_slice O5.out
            have Hf := Lib.hid hf
            rw [hf]
            clear hf Hn5
            by_cases hg : solveErr s2 l = 0
            · have O6 := Lib.hid (own_as (hn6.ok hg) ((timesOf_len hg).trans Hl.out))
              obtain ⟨y6, k6, rfl, _, _⟩ := own_slice O6.out
              have Hg := Lib.hid hg
              rw [hg]
              clear hg hn6
              go_wp2_with fail
              go_loopg [73] start.length (fun k i wr => ∃ j : Nat, j + k = start.length ∧ i = .int .i64 j ∧ Below w6.heap.size w6 wr)
              case atStart => exact ⟨0, by omega, rfl, Below.refl _ _⟩
              case round =>
                obtain ⟨j, hk, rfl, hb7⟩ := hrel
                have Hk := Lib.hid hk; clear hk
                by_cases hlt : j < start.length
                · obtain ⟨ga, ca, hga, _, _⟩ := own_shape O1.out (by omega)
                  cases hga
                  have o1 := owns_below O1.out hb7
                  have hga2 := (own_shape' O1.out).2
                  have hga3 : ga < wr.heap.size := by have := hb7.size; omega
                  have m1 : wr.cell? ⟨ga, j, none⟩ = some (.int .i64 (at0 (timesOf start l) j)) := own_cell o1 hlt
                  obtain ⟨gb, cb, hgb, _, _⟩ := own_shape O5.out (by omega)
                  cases hgb
                  have o5 := owns_below O5.out hb7
                  have hgb2 := (own_shape' O5.out).2
                  have hgb3 : gb < wr.heap.size := by have := hb7.size; omega
                  have m5 : wr.cell? ⟨gb, j, none⟩ = some (.int .i64 (at0 (timesOf start (l ++ [x])) j)) := own_cell o5 hlt
                  have d5 := lt_false (show ¬ at0 (timesOf start (l ++ [x])) j < at0 (timesOf start l) j by have := times_snoc Hf.out (j : Int) (by omega) (by omega); omega)
                  clear o5
                  obtain ⟨gc, cc, hgc, _, _⟩ := own_shape O6.out (by omega)
                  cases hgc
                  have o6 := owns_below O6.out hb7
                  have hgc2 := (own_shape' O6.out).2
                  have hgc3 : gc < wr.heap.size := by have := hb7.size; omega
                  have m6 : wr.cell? ⟨gc, j, none⟩ = some (.int .i64 (at0 (timesOf s2 l) j)) := own_cell o6 hlt
                  have d6 := lt_false (show ¬ at0 (timesOf s2 l) j < at0 (timesOf start l) j by have := times_later Hl.out Hd.out Hg.out Hle.out (j : Int) (by omega) (by omega); omega)
                  clear o6
                  clear o1
                  go_wp2_with fail
                  go_quiet (fail)
                  go_wp2_with fail
                  go_roundg (gk - 1)
                  case measure => have := Hk.out; omega
                  case rel => exact ⟨j + 1, by have := Hk.out; omega, by go_num, below_drewN hb7 _⟩
                · go_wp2_with fail
                  go_ret
                  exact ⟨ret_bool (by rfl), hb6'.trans (hb7.mono hb6'.size)⟩
            · have hgx : (solveErr s2 l == 0) = false := by simpa using hg
              obtain rfl := hn6.no hg
              have hg1 : solveErr s2 l = 1 := by rcases Hg1.out with h | h; exact absurd h hg; exact h
              rw [hg1]
              clear hn6 hg hgx hg1
              go_wp2_with fail
              go_loopg [73] start.length (fun k i wr => ∃ j : Nat, j + k = start.length ∧ i = .int .i64 j ∧ Below w6.heap.size w6 wr)
              case atStart => exact ⟨0, by omega, rfl, Below.refl _ _⟩
              case round =>
                obtain ⟨j, hk, rfl, hb7⟩ := hrel
                have Hk := Lib.hid hk; clear hk
                by_cases hlt : j < start.length
                · obtain ⟨ga, ca, hga, _, _⟩ := own_shape O1.out (by omega)
                  cases hga
                  have o1 := owns_below O1.out hb7
                  have hga2 := (own_shape' O1.out).2
                  have hga3 : ga < wr.heap.size := by have := hb7.size; omega
                  have m1 : wr.cell? ⟨ga, j, none⟩ = some (.int .i64 (at0 (timesOf start l) j)) := own_cell o1 hlt
                  obtain ⟨gb, cb, hgb, _, _⟩ := own_shape O5.out (by omega)
                  cases hgb
                  have o5 := owns_below O5.out hb7
                  have hgb2 := (own_shape' O5.out).2
                  have hgb3 : gb < wr.heap.size := by have := hb7.size; omega
                  have m5 : wr.cell? ⟨gb, j, none⟩ = some (.int .i64 (at0 (timesOf start (l ++ [x])) j)) := own_cell o5 hlt
                  have d5 := lt_false (show ¬ at0 (timesOf start (l ++ [x])) j < at0 (timesOf start l) j by have := times_snoc Hf.out (j : Int) (by omega) (by omega); omega)
                  clear o5
                  clear o1
                  go_wp2_with fail
                  go_quiet (fail)
                  go_wp2_with fail
                  go_roundg (gk - 1)
                  case measure => have := Hk.out; omega
                  case rel => exact ⟨j + 1, by have := Hk.out; omega, by go_num, below_drewN hb7 _⟩
                · go_wp2_with fail
                  go_ret
                  exact ⟨ret_bool (by rfl), hb6'.trans (hb7.mono hb6'.size)⟩
          · have hfx : (solveErr start (l ++ [x]) == 0) = false := by simpa using hf
            obtain rfl := Hn5no.out hf
            have Hf := Lib.hid hf
            clear hf Hn5
            by_cases hg : solveErr s2 l = 0
            · have O6 := Lib.hid (own_as (hn6.ok hg) ((timesOf_len hg).trans Hl.out))
              obtain ⟨y6, k6, rfl, _, _⟩ := own_slice O6.out
              have Hg := Lib.hid hg
              rw [hg]
              clear hg hn6
              go_wp2_with fail
              go_loopg [73] start.length (fun k i wr => ∃ j : Nat, j + k = start.length ∧ i = .int .i64 j ∧ Below w6.heap.size w6 wr)
              case atStart => exact ⟨0, by omega, rfl, Below.refl _ _⟩
              case round =>
                obtain ⟨j, hk, rfl, hb7⟩ := hrel
                have Hk := Lib.hid hk; clear hk
                by_cases hlt : j < start.length
                · obtain ⟨ga, ca, hga, _, _⟩ := own_shape O1.out (by omega)
                  cases hga
                  have o1 := owns_below O1.out hb7
                  have hga2 := (own_shape' O1.out).2
                  have hga3 : ga < wr.heap.size := by have := hb7.size; omega
                  have m1 : wr.cell? ⟨ga, j, none⟩ = some (.int .i64 (at0 (timesOf start l) j)) := own_cell o1 hlt
                  obtain ⟨gc, cc, hgc, _, _⟩ := own_shape O6.out (by omega)
                  cases hgc
                  have o6 := owns_below O6.out hb7
                  have hgc2 := (own_shape' O6.out).2
                  have hgc3 : gc < wr.heap.size := by have := hb7.size; omega
                  have m6 : wr.cell? ⟨gc, j, none⟩ = some (.int .i64 (at0 (timesOf s2 l) j)) := own_cell o6 hlt
                  have d6 := lt_false (show ¬ at0 (timesOf s2 l) j < at0 (timesOf start l) j by have := times_later Hl.out Hd.out Hg.out Hle.out (j : Int) (by omega) (by omega); omega)
                  clear o6
                  clear o1
                  go_wp2_with fail
                  go_quiet (fail)
                  go_wp2_with fail
                  go_roundg (gk - 1)
                  case measure => have := Hk.out; omega
                  case rel => exact ⟨j + 1, by have := Hk.out; omega, by go_num, below_drewN hb7 _⟩
                · go_wp2_with fail
                  go_ret
                  exact ⟨ret_bool (by rfl), hb6'.trans (hb7.mono hb6'.size)⟩
            · have hgx : (solveErr s2 l == 0) = false := by simpa using hg
              obtain rfl := hn6.no hg
              have hg1 : solveErr s2 l = 1 := by rcases Hg1.out with h | h; exact absurd h hg; exact h
              rw [hg1]
              clear hn6 hg hgx hg1
              go_wp2_with fail
              go_loopg [73] start.length (fun k i wr => ∃ j : Nat, j + k = start.length ∧ i = .int .i64 j ∧ Below w6.heap.size w6 wr)
              case atStart => exact ⟨0, by omega, rfl, Below.refl _ _⟩
              case round =>
                obtain ⟨j, hk, rfl, hb7⟩ := hrel
                have Hk := Lib.hid hk; clear hk
                by_cases hlt : j < start.length
                · obtain ⟨ga, ca, hga, _, _⟩ := own_shape O1.out (by omega)
                  cases hga
                  have o1 := owns_below O1.out hb7
                  have hga2 := (own_shape' O1.out).2
                  have hga3 : ga < wr.heap.size := by have := hb7.size; omega
                  have m1 : wr.cell? ⟨ga, j, none⟩ = some (.int .i64 (at0 (timesOf start l) j)) := own_cell o1 hlt
                  clear o1
                  go_wp2_with fail
                  go_quiet (fail)
                  go_wp2_with fail
                  go_roundg (gk - 1)
                  case measure => have := Hk.out; omega
                  case rel => exact ⟨j + 1, by have := Hk.out; omega, by go_num, below_drewN hb7 _⟩
                · go_wp2_with fail
                  go_ret
                  exact ⟨ret_bool (by rfl), hb6'.trans (hb7.mono hb6'.size)⟩
        subst hA
        simp only [Act.put, List.setIfInBounds_toArray, List.set_cons_zero, List.set_cons_succ] at key
        have Key := Lib.hid key
        clear key
        by_cases e0 : 0 ≤ event
        · have q0 : decide (0 ≤ event) = true := by simpa using e0
          by_cases e1 : event < start.length
          · have q1 : decide (event < (start.length : Int)) = true := by simpa using e1
            obtain ⟨g, cg, rfl, hg1, hg2⟩ := own_shape Os.out (by omega)
            have k1 : w6.cell? ⟨g, event.toNat, none⟩ = some (.int .i64 (at0 start event)) := own_cell Os.out (by omega)
            have k3 := Os.out.frozenAt event.toNat
            have hr0 : 0 ≤ at0 start event ∧ at0 start event ≤ 100000 := hz3 _ (at0_mem e0 e1)
            have w1' : IntKind.i64.wrap byy = byy := IntWalk.i64_in _ (by omega)
            have w2' : IntKind.i64.wrap (at0 start event + byy) = at0 start event + byy := IntWalk.i64_in _ (by omega)
            obtain ⟨own3, hgr3⟩ := own_set Os.out event.toNat (at0 start event + byy)
            have Own3 := Lib.hid own3
            have Hb7 := Lib.hid (Hb6.out.setCell (p := ⟨g, event.toNat, none⟩) (by show w5.heap.size ≤ g; omega) (.int .i64 (at0 start event + byy)))
            clear own3 hgr3
            go_wp2_with fail
            exact Key.out _ _ _ _ _ _ _ _ _ _ _ _ _ _ _ _ _ _ (start.set event.toNat (at0 start event + byy)) (by simp) Own3 (Lib.hid (fun i i0 i1 => at0_later e0 e1 u0 i i0 i1)) Hb7
          · have q1 : decide (event < (start.length : Int)) = false := by simpa using e1
            obtain ⟨xa, xc, rfl, _, hxc⟩ := own_slice Os.out
            go_wp2_with fail
            exact Key.out _ _ _ _ _ _ _ _ _ _ _ _ _ _ _ _ _ _ start rfl Os (Lib.hid (fun i _ _ => Int.le_refl _)) Hb6
        · have q0 : decide (0 ≤ event) = false := by simpa using e0
          obtain ⟨xa, xc, rfl, _, hxc⟩ := own_slice Os.out
          go_wp2_with fail
          exact Key.out _ _ _ _ _ _ _ _ _ _ _ _ _ _ _ _ _ _ start rfl Os (Lib.hid (fun i _ _ => Int.le_refl _)) Hb6
      · have q1 : (solveErr start l != 0) = true := by simpa using hd
        have Hf := Lib.hid (show (solveErr start (l ++ [x]) != 0) = true by simp; exact fun h => hd (solveErr_snoc h))
        clear hd
        go_wp2_with fail
        go_ret
        exact ⟨ret_bool Hf.out, hb5'⟩
    have st110 : ∀ (w' : World) (g1 : Nat) (v3 : Value), Below w2.heap.size w2 w' → w'.ownsRow w2.heap.size 34 3 v3 n2 (l.flatMap encWt) → wpOb Try.prog .any OPS R (SM w.heap.size x) obM 8 #[true, true, true, true, true, false, false, false, false, false, false, false, false] ((A.put (some 33) (.slice (some ⟨g1, 0, none⟩) 0 0)).put (some 35) v3) w' := by
      intro w' g1 v3 hb ho
      have hsb := hb.size
      refine ob_some (js := [5]) (by rw [hO]; kernel_rfl) (by simp) (fun i hi => ?_)
      simp only [List.mem_cons, List.not_mem_nil, or_false] at hi
      subst hi
      · refine ⟨_, (by rw [hO]; rfl), fun K hK => ?_⟩
        refine step_build3 w' (by rfl) 23 34 _ (by rfl) ii (.agg #[.int .i64 0, .int .i64 0, .int .i64 0]) Try.underlying23 hii zi1 zi2 (.int .i64 x.frm) (.int .i64 x.to) (.int .i64 x.gap) (by simp [ev_put, put_size, hsz, e36]) (fill3i _ _ _) ?_
        have hb2 := hb.alloc hsb (.cells #[.int .i64 x.frm, .int .i64 x.to, .int .i64 x.gap] 34)
        refine hK _ _ (fun _ => hSall _ hb2) ?_
        exact st111 _ g1 w'.heap.size v3 hb2 (ho.alloc _) (heap_alloc_new _ _) (fun h => absurd (ho.lt _ h).2 (Nat.lt_irrefl _)) hsb
    have st101 : ∀ (w' : World) (g1 g5 : Nat), Below w2.heap.size w2 w' → w'.ownsRow w2.heap.size 34 3 (.slice (some ⟨g1, 0, none⟩) 0 0) 0 [] → w'.heap[g5]? = some (.cells #[.int .i64 x.frm, .int .i64 x.to, .int .i64 x.gap] 34) → g1 ≠ g5 → w2.heap.size ≤ g5 → wpOb Try.prog .any OPS R (SM w.heap.size x) obM 8 #[true, true, true, false, true, true, false, false, false, false, false, false, false] ((A.put (some 33) (.slice (some ⟨g1, 0, none⟩) 0 0)).put (some 37) (.slice (some ⟨g5, 0, none⟩) 1 1)) w' := by
      intro w' g1 g5 hb hl hp ha hg
      have hsb := hb.size
      refine ob_some (js := [3]) (by rw [hO]; kernel_rfl) (by simp) (fun i hi => ?_)
      simp only [List.mem_cons, List.not_mem_nil, or_false] at hi
      subst hi
      · refine ⟨_, (by rw [hO]; rfl), fun K hK => ?_⟩
        refine step_app encWt_len encWt_one w' (by rfl) _ _ 23 (by rfl) w2.heap.size 34 (.agg #[.int .i64 0, .int .i64 0, .int .i64 0]) 24 Try.underlying23 info_lwait (by rfl) (by decide) (.slice (some ⟨g1, 0, none⟩) 0 0) 0 [] (by simp [ev_put, put_size, hsz]) hl a2 n2 c2 l (by simp [ev_put, put_size, hsz, e34]) (h2.below (below_step hb2' hb hb2'.size)) Hc2.out (by simp [maxLen]; omega) (by omega) hsb ?_
        intro v3 w3 ho3 hg3 _ hbl
        have hb3 : Below w2.heap.size w2 w3 := hb.grown hg3 hsb (by intro k hk; exact (hl.lt k hk).1)
        refine hK _ _ (fun _ => hSall _ hb3) ?_
        have hn := st111 w3 g1 g5 v3 hb3 (by simpa using ho3) ((hg3.block g5 (Array.getElem?_eq_some_iff.1 hp).1 (by intro h; cases h; exact ha rfl)).trans hp) (own_else hbl (fun h => ha (by cases h; rfl)) hp) hg
        rw [put_swap _ (show (35 : Nat) ≠ 37 from by decide)] at hn
        exact hn
    have st100 : ∀ (w' : World) (g1 : Nat), Below w2.heap.size w2 w' → w'.ownsRow w2.heap.size 34 3 (.slice (some ⟨g1, 0, none⟩) 0 0) 0 [] → wpOb Try.prog .any OPS R (SM w.heap.size x) obM 9 #[true, true, true, false, true, false, false, false, false, false, false, false, false] (A.put (some 33) (.slice (some ⟨g1, 0, none⟩) 0 0)) w' := by
      intro w' g1 hb hl
      have hsb := hb.size
      refine ob_some (js := [3, 5]) (by rw [hO]; kernel_rfl) (by simp) (fun i hi => ?_)
      simp only [List.mem_cons, List.not_mem_nil, or_false] at hi
      rcases hi with rfl | rfl
      · refine ⟨_, (by rw [hO]; rfl), fun K hK => ?_⟩
        refine step_app encWt_len encWt_one w' (by rfl) _ _ 23 (by rfl) w2.heap.size 34 (.agg #[.int .i64 0, .int .i64 0, .int .i64 0]) 24 Try.underlying23 info_lwait (by rfl) (by decide) (.slice (some ⟨g1, 0, none⟩) 0 0) 0 [] (by simp [ev_put, hsz]) hl a2 n2 c2 l (by simp [ev_put, hsz, e34]) (h2.below (below_step hb2' hb hb2'.size)) Hc2.out (by simp [maxLen]; omega) (by omega) hsb ?_
        intro v3 w3 ho3 hg3 _ hbl
        have hb3 : Below w2.heap.size w2 w3 := hb.grown hg3 hsb (by intro k hk; exact (hl.lt k hk).1)
        refine hK _ _ (fun _ => hSall _ hb3) ?_
        have hn := st110 w3 g1 v3 hb3 (by simpa using ho3)
        exact hn
      · refine ⟨_, (by rw [hO]; rfl), fun K hK => ?_⟩
        refine step_build3 w' (by rfl) 23 34 _ (by rfl) ii (.agg #[.int .i64 0, .int .i64 0, .int .i64 0]) Try.underlying23 hii zi1 zi2 (.int .i64 x.frm) (.int .i64 x.to) (.int .i64 x.gap) (by simp [ev_put, hsz, e36]) (fill3i _ _ _) ?_
        have hb2 := hb.alloc hsb (.cells #[.int .i64 x.frm, .int .i64 x.to, .int .i64 x.gap] 34)
        refine hK _ _ (fun _ => hSall _ hb2) ?_
        exact st101 _ g1 w'.heap.size hb2 (hl.alloc _) (heap_alloc_new _ _) (fun h => absurd (hl.lt g1 rfl).2 (by rw [h]; exact Nat.lt_irrefl _)) hsb
    have st001 : ∀ (w' : World) (g5 : Nat), Below w2.heap.size w2 w' → w'.heap[g5]? = some (.cells #[.int .i64 x.frm, .int .i64 x.to, .int .i64 x.gap] 34) → w2.heap.size ≤ g5 → wpOb Try.prog .any OPS R (SM w.heap.size x) obM 9 #[true, false, true, false, true, true, false, false, false, false, false, false, false] (A.put (some 37) (.slice (some ⟨g5, 0, none⟩) 1 1)) w' := by
      intro w' g5 hb hp hg
      have hsb := hb.size
      refine ob_some (js := [1]) (by rw [hO]; kernel_rfl) (by simp) (fun i hi => ?_)
      simp only [List.mem_cons, List.not_mem_nil, or_false] at hi
      subst hi
      · refine ⟨_, (by rw [hO]; rfl), fun K hK => ?_⟩
        refine step_build0 w' (by rfl) 23 34 (by rfl) ii (.agg #[.int .i64 0, .int .i64 0, .int .i64 0]) Try.underlying23 hii zi1 ?_
        have hb2 := hb.alloc hsb (.cells #[] 34)
        refine hK _ _ (fun _ => hSall _ hb2) ?_
        have hn := st101 _ w'.heap.size g5 hb2 (World.ownsRow_made w' #[] 0 hsb (by simp [maxLen]) (by simp)) (alloc_old hp _) (fun h => by rw [← h] at hp; exact absurd hp (by simp)) hg
        rw [put_swap _ (show (33 : Nat) ≠ 37 from by decide)] at hn
        exact hn
    have st000 : ∀ (w' : World), Below w2.heap.size w2 w' → wpOb Try.prog .any OPS R (SM w.heap.size x) obM 10 #[true, false, true, false, true, false, false, false, false, false, false, false, false] A w' := by
      intro w' hb
      have hsb := hb.size
      refine ob_some (js := [1, 5]) (by rw [hO]; kernel_rfl) (by simp) (fun i hi => ?_)
      simp only [List.mem_cons, List.not_mem_nil, or_false] at hi
      rcases hi with rfl | rfl
      · refine ⟨_, (by rw [hO]; rfl), fun K hK => ?_⟩
        refine step_build0 w' (by rfl) 23 34 (by rfl) ii (.agg #[.int .i64 0, .int .i64 0, .int .i64 0]) Try.underlying23 hii zi1 ?_
        have hb2 := hb.alloc hsb (.cells #[] 34)
        refine hK _ _ (fun _ => hSall _ hb2) ?_
        have hn := st100 _ w'.heap.size hb2 (World.ownsRow_made w' #[] 0 hsb (by simp [maxLen]) (by simp))
        exact hn
      · refine ⟨_, (by rw [hO]; rfl), fun K hK => ?_⟩
        refine step_build3 w' (by rfl) 23 34 _ (by rfl) ii (.agg #[.int .i64 0, .int .i64 0, .int .i64 0]) Try.underlying23 hii zi1 zi2 (.int .i64 x.frm) (.int .i64 x.to) (.int .i64 x.gap) (by simp [e36]) (fill3i _ _ _) ?_
        have hb2 := hb.alloc hsb (.cells #[.int .i64 x.frm, .int .i64 x.to, .int .i64 x.gap] 34)
        refine hK _ _ (fun _ => hSall _ hb2) ?_
        exact st001 _ w'.heap.size hb2 (heap_alloc_new _ _) hsb
    exact st000 _ (Below.refl _ _).drew
  · have hfd := Lib.hid (show decide (start.length ≤ 60 ∧ n2 ≤ 120) = false by simpa using hf)
    have Hf := Lib.hid hf; clear hf
    unfold Wt.val
    rw [hW0] at K
    go_enter Try.func8, Try.ntmps8
    go_wp2_with fail
    refine K.out.mono ?_
    rintro e w1 ⟨rfl, hb1⟩
    rw [← hW0] at hb1
    have hb1' : Below w.heap.size w w1 := hb0.trans (hb1.mono hb0.size)
    go_wp2_with fail
    refine (few_any w1 a1 a2 _ c1 n2 c2 b1 b2).mono ?_
    rintro e w1' ⟨rfl, rfl⟩
    rw [hfd.out]
    go_wp2_with fail
    go_ret
    exact ⟨rfl, hb1'⟩

section
variable {H : Type} {enc : TypeId × Value → H} {w : World}
theorem open_Wt {v : Value} {d : DataW H} {q : List MemPlace} {r : Reach} {b0 : Nat} (hv : Value.okWide Try.prog w r b0 34 v) (h : DataW.Trod enc Try.prog w 0 (fun _ => true) true 34 v d q) : ∃ x : Wt, v = x.val := by
  obtain ⟨cs, rfl, _⟩ := okWide_struct Try.underlying34 hv
  obtain ⟨fuel, hf⟩ := h
  obtain ⟨x, hc, _⟩ := trod_wt hf
  refine ⟨x, ?_⟩
  simp only [Value.cells] at hc
  have : cs = #[.int .i64 x.frm, .int .i64 x.to, .int .i64 x.gap] := by
    apply Array.ext'
    exact hc
  rw [this]; rfl
theorem open_u16 {v : Value} {d : DataW H} {q : List MemPlace} {r : Reach} {b0 : Nat} (hv : Value.okWide Try.prog w r b0 42 v) (h : DataW.Trod enc Try.prog w 0 (fun _ => true) true 42 v d q) : ∃ x : Int, v = .int .u16 x ∧ 0 ≤ x ∧ x ≤ 65535 := by
  obtain ⟨x, rfl⟩ := okWide_int Try.underlying42 hv
  obtain ⟨fuel, hf⟩ := h
  obtain ⟨y, hc, _, hw⟩ := DataW.trod_int Try.underlying42 hf
  simp [Value.cells] at hc
  subst hc
  exact ⟨x, rfl, by simp [Lit.wf, IntKind.min, IntKind.max, IntKind.signed, IntKind.bits] at hw; omega⟩
end

set_option maxRecDepth 100000 in
theorem lateMore_lifted (os : Os) (started : os.Started) (H : Type) (enc : TypeId × Value → H) :
    ReturnsInHanded {} Try.checked os 8 .any (Rows.lateMoreSpec.pre6 enc Try.prog Try.f8 Rows.lateMoreRow.domain false) (Rows.lateMoreSpec.post enc Try.prog Try.f8 false true false false) := by
  refine returnsInHanded_of_change (C := Try.checked) own started (by kernel_rfl) Try.func8
    (ChangeSpec.witness6 (enc := enc) (C := Try.checked) false ⟨#[], #[.slice none 0 0, .slice none 0 0, .agg #[.int .i64 0, .int .i64 0, .int .i64 0], .int .i64 0, .int .u16 0], []⟩ 8 (by kernel_rfl) (by kernel_rfl) (by kernel_rfl) (by kernel_rfl)) ?_
  intro W base args ds gs before hval0 hW hcnd _
  have hval : ∀ (j : Nat) t v, Try.f8.params[j]? = some t → args[j]? = some v → Value.okWide Try.prog W .any base t v := hval0
  have hW' := hW
  obtain ⟨p, q, hA0, hV, rfl, hfz, hnd⟩ := hW
  have hA : DataW.TrodAll enc Try.prog W 0 (fun _ => true) true Try.f8.params.toList args.toList ds p := hA0
  rw [Try.params8] at hA hval
  obtain ⟨v0, vs0, d0, ds0, p0, q0, hargs, rfl, rfl, k0, r0⟩ := trodAll_cons hA
  obtain ⟨v1, vs1, d1, ds1, p1, q1, rfl, rfl, rfl, k1, r1⟩ := trodAll_cons r0
  obtain ⟨v2, vs2, d2, ds2, p2, q2, rfl, rfl, rfl, k2, r2⟩ := trodAll_cons r1
  obtain ⟨v3, vs3, d3, ds3, p3, q3, rfl, rfl, rfl, k3, r3⟩ := trodAll_cons r2
  obtain ⟨v4, vs4, d4, ds4, p4, q4, rfl, rfl, rfl, k4, r4⟩ := trodAll_cons r3
  obtain ⟨rfl, rfl, rfl⟩ := trodAll_nil r4
  obtain rfl : args = #[v0, v1, v2, v3, v4] := by cases args; simp_all
  obtain ⟨rfl, rfl⟩ := trodVars_none hV
  have lt0 : ∀ x ∈ p0, x.block < W.heap.size := by obtain ⟨m, hm⟩ := k0; exact DataW.trod_lt m _ _ _ hm
  have hv0 := hval 0 22 v0 rfl rfl
  have lt1 : ∀ x ∈ p1, x.block < W.heap.size := by obtain ⟨m, hm⟩ := k1; exact DataW.trod_lt m _ _ _ hm
  have hv1 := hval 1 23 v1 rfl rfl
  have lt2 : ∀ x ∈ p2, x.block < W.heap.size := by obtain ⟨m, hm⟩ := k2; exact DataW.trod_lt m _ _ _ hm
  have hv2 := hval 2 34 v2 rfl rfl
  have lt3 : ∀ x ∈ p3, x.block < W.heap.size := by obtain ⟨m, hm⟩ := k3; exact DataW.trod_lt m _ _ _ hm
  have hv3 := hval 3 3 v3 rfl rfl
  have lt4 : ∀ x ∈ p4, x.block < W.heap.size := by obtain ⟨m, hm⟩ := k4; exact DataW.trod_lt m _ _ _ hm
  have hv4 := hval 4 42 v4 rfl rfl
  have fin : Calls Try.prog 8 #[v0, v1, v2, v3, v4] W (fun e W' => e = .returned (.bool true) ∧ Below W.heap.size W W') := by
    obtain ⟨a1, n1, c1, start, rfl, h1, _, hc, _⟩ := open_Ints hv0 k0
    obtain ⟨a2, n2, c2, l, rfl, h2, _, hc2, _⟩ := open_Wts hv1 k1
    obtain ⟨x, rfl⟩ := open_Wt hv2 k2
    obtain ⟨event, rfl, _⟩ := open_int Try.underlying3 hv3 k3
    obtain ⟨byy, rfl, u0, u1⟩ := open_u16 hv4 k4
    exact lawMore_any W a1 a2 n1 c1 n2 c2 start l x event byy h1 h2 hc hc2 u0 u1
  clear hA0 hval0
  refine fin.mono fun e W' ⟨he, bel⟩ => ?_
  subst he
  exact ⟨_, rfl, _, _, _, [], _, [], hW', trodAll_mk1 (shut_bool Try.underlying4 _), (trodAll_cons_mk (Below.trod laidOut (by kernel_rfl) (of_decide_eq_true (by kernel_rfl)) k0 bel lt0) (trodAll_cons_mk (Below.trod laidOut (by kernel_rfl) (of_decide_eq_true (by kernel_rfl)) k1 bel lt1) (trodAll_cons_mk (Below.trod laidOut (by kernel_rfl) (of_decide_eq_true (by kernel_rfl)) k2 bel lt2) (trodAll_cons_mk (Below.trod laidOut (by kernel_rfl) (of_decide_eq_true (by kernel_rfl)) k3 bel lt3) (trodAll_cons_mk (Below.trod laidOut (by kernel_rfl) (of_decide_eq_true (by kernel_rfl)) k4 bel lt4) trodAll_mk0))))), rfl, bel.frame _, fun h => by cases h⟩

/-- THE STATEMENT -/
theorem lateMore_holds : Rows.LateMoreSaid :=
  OpenClaim.holds_of_wide 8 Try.f8 rfl rfl rfl rfl rfl rfl rfl ⟨rfl, rfl, rfl, rfl, rfl⟩ rfl rfl rfl rfl rfl (by kernel_rfl) Try.func8 (by kernel_rfl)
    (of_decide_eq_true (by kernel_rfl)) (by unfold Func.isWrapper; first | (rw [if_pos (by decide +kernel)]; kernel_rfl) | (rw [if_neg (by decide +kernel)]; exact ⟨rfl, rfl⟩))
    (fun os started H enc _ => lateMore_lifted os started H enc)
end Go.Proofs.Ytkklnaejpgcgoaa
