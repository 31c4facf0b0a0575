/- Walks of the methods of net.Net that look into its maps: Next, Reads, Line, Lead. Condition: the receiver is a net; ports and numbers are ints. -/
import Derived.Test.YtackcfoplhhnbaaNetM1
set_option maxRecDepth 1000000
namespace Go.Proofs.Ytackcfoplhhnbaa
open Go.ChangeShapes Go.WideShapes Go.ChangeAt Go.RowKit Go.Sort

set_option maxHeartbeats 400000 in
theorem nnext_any (w : World) (b : Nat) (p : Plan) (h : NetAt w b p) (x : Port) (hx : x.wf) :
    Calls Try.prog 51 #[.pointer (some ⟨b, 0, none⟩), x.val] w fun en w' => en = .returned (.tuple #[.agg #[.int .i64 ((nextOf p x).getD zeroPort).e, .int .i64 ((nextOf p x).getD zeroPort).n], .bool (nextOf p x).isSome]) ∧ Below w.heap.size w w' := by
  obtain ⟨v, bn, br, bl, bd, h⟩ := h
  unfold Port.val
  have hbW : Below w.heap.size w ((w.alloc (.cells #[.int .i64 x.e, .int .i64 x.n] 30)).alloc (.cells #[.int .i64 0, .int .i64 0] 30)) := below_new2 w _ _
  have H9 := Lib.hid h.blk
  have hlt := h.blk.lt
  have c9w := h.blk.cell9
  cases hn : nextOf p x with
  | none =>
    have Hs := Lib.hid hn
    have R1 := Lib.hid (show ∀ w', Below w.heap.size w w' → (Instr.lookup 84 (.map (some bn)) (.agg #[.int .i64 x.e, .int .i64 x.n]) false).run Try.prog w' = .ok (.agg #[.int .i64 0, .int .i64 0]) w' ∧ (Instr.lookup 84 (.map (some bn)) (.agg #[.int .i64 x.e, .int .i64 x.n]) true).run Try.prog w' = .ok (.tuple #[.agg #[.int .i64 0, .int .i64 0], .bool false]) w' from h.next.miss hn keyed_port Try.underlying84 zero_port (key_port hx))
    clear h hn hx
    go_enter Try.func51, Try.ntmps51
    go_wp2_with fail
    have c9 : ((w.alloc (.cells #[.int .i64 x.e, .int .i64 x.n] 30)).alloc (.cells #[.int .i64 0, .int .i64 0] 30)).cell? ⟨b, 9, none⟩ = some (.map (some bn)) := (hbW.cell (p := ⟨b, 9, none⟩) hlt).trans H9.out.cell9
    have k0 : ((w.alloc (.cells #[.int .i64 x.e, .int .i64 x.n] 30)).alloc (.cells #[.int .i64 0, .int .i64 0] 30)).cell? ⟨w.heap.size, 0, none⟩ = some (.int .i64 x.e) := by go_simp
    have k1 : ((w.alloc (.cells #[.int .i64 x.e, .int .i64 x.n] 30)).alloc (.cells #[.int .i64 0, .int .i64 0] 30)).cell? ⟨w.heap.size, 1, none⟩ = some (.int .i64 x.n) := by go_simp
    have hSall : ∀ w' : World, Below (((w.alloc (.cells #[.int .i64 x.e, .int .i64 x.n] 30)).alloc (.cells #[.int .i64 0, .int .i64 0] 30))).heap.size (((w.alloc (.cells #[.int .i64 x.e, .int .i64 x.n] 30)).alloc (.cells #[.int .i64 0, .int .i64 0] 30))) w' → (w'.cell? ⟨b, 9, none⟩ = some (.map (some bn)) ∧ w'.cell? ⟨w.heap.size, 0, none⟩ = some (.int .i64 x.e) ∧ w'.cell? ⟨w.heap.size, 1, none⟩ = some (.int .i64 x.n) ∧ (Instr.lookup 84 (.map (some bn)) (.agg #[.int .i64 x.e, .int .i64 x.n]) true).run Try.prog w' = .ok (.tuple #[.agg #[.int .i64 0, .int .i64 0], .bool false]) w') := fun w' hb => ⟨(hb.cell (p := ⟨b, 9, none⟩) (by simp; omega)).trans c9, (hb.cell (p := ⟨w.heap.size, 0, none⟩) (by simp <;> omega)).trans k0, (hb.cell (p := ⟨w.heap.size, 1, none⟩) (by simp <;> omega)).trans k1, (R1.out w' (hbW.trans (hb.mono hbW.size))).2⟩
    refine wp_region_noPanic ?_
    refine region_upto (S := fun w' => w'.cell? ⟨b, 9, none⟩ = some (.map (some bn)) ∧ w'.cell? ⟨w.heap.size, 0, none⟩ = some (.int .i64 x.e) ∧ w'.cell? ⟨w.heap.size, 1, none⟩ = some (.int .i64 x.n) ∧ (Instr.lookup 84 (.map (some bn)) (.agg #[.int .i64 x.e, .int .i64 x.n]) true).run Try.prog w' = .ok (.tuple #[.agg #[.int .i64 0, .int .i64 0], .bool false]) w') (n := 12) (by kernel_rfl) ?_
    refine upto_take (i := 0) (v := .pointer (some ⟨b, 0, none⟩)) rfl (by kernel_rfl) (by kernel_rfl) (by kernel_rfl) (by kernel_rfl) (fun _ _ _ h => h) (Or.inl ⟨by rfl, ?_⟩) (hSall _ (by repeat (first | with_reducible exact Below.refl _ _ | with_reducible assumption | with_reducible exact below_new _ _ | with_reducible apply below_drewN | with_reducible apply Below.drew | with_reducible refine below_set (Nat.le_refl _) ?_ _ | ((with_reducible refine below_set ?_ ?_ _); omega) | with_reducible refine Below.alloc ?_ (by first | omega | (simp; omega) | simp) _))) ?_
    · intro w' hSw
      (try dsimp only at hSw)
      go_simp
    (try simp only [List.getElem_toArray, List.getElem_cons_zero, Act.put, List.setIfInBounds_toArray, List.set_cons_zero, List.set_cons_succ])
    refine upto_take (i := 1) (v := .pointer (some ⟨b, 0, none⟩)) rfl (by kernel_rfl) (by kernel_rfl) (by kernel_rfl) (by kernel_rfl) (fun _ _ _ h => h) (Or.inl ⟨by rfl, ?_⟩) (hSall _ (by repeat (first | with_reducible exact Below.refl _ _ | with_reducible assumption | with_reducible exact below_new _ _ | with_reducible apply below_drewN | with_reducible apply Below.drew | with_reducible refine below_set (Nat.le_refl _) ?_ _ | ((with_reducible refine below_set ?_ ?_ _); omega) | with_reducible refine Below.alloc ?_ (by first | omega | (simp; omega) | simp) _))) ?_
    · intro w' hSw
      (try dsimp only at hSw)
      go_simp
    (try simp only [List.getElem_toArray, List.getElem_cons_succ, List.getElem_cons_zero, Act.put, List.setIfInBounds_toArray, List.set_cons_zero, List.set_cons_succ])
    refine upto_take (i := 2) (v := .pointer (some ⟨b, 9, none⟩)) rfl (by kernel_rfl) (by kernel_rfl) (by kernel_rfl) (by kernel_rfl) (fun _ _ _ h => h) (Or.inl ⟨by rfl, ?_⟩) (hSall _ (by repeat (first | with_reducible exact Below.refl _ _ | with_reducible assumption | with_reducible exact below_new _ _ | with_reducible apply below_drewN | with_reducible apply Below.drew | with_reducible refine below_set (Nat.le_refl _) ?_ _ | ((with_reducible refine below_set ?_ ?_ _); omega) | with_reducible refine Below.alloc ?_ (by first | omega | (simp; omega) | simp) _))) ?_
    · intro w' hSw
      (try dsimp only at hSw)
      go_simp
    (try simp only [List.getElem_toArray, List.getElem_cons_succ, List.getElem_cons_zero, Act.put, List.setIfInBounds_toArray, List.set_cons_zero, List.set_cons_succ])
    refine upto_take (i := 3) (v := .map (some bn)) rfl (by kernel_rfl) (by kernel_rfl) (by kernel_rfl) (by kernel_rfl) (fun _ _ _ h => h) (Or.inl ⟨by rfl, ?_⟩) (hSall _ (by repeat (first | with_reducible exact Below.refl _ _ | with_reducible assumption | with_reducible exact below_new _ _ | with_reducible apply below_drewN | with_reducible apply Below.drew | with_reducible refine below_set (Nat.le_refl _) ?_ _ | ((with_reducible refine below_set ?_ ?_ _); omega) | with_reducible refine Below.alloc ?_ (by first | omega | (simp; omega) | simp) _))) ?_
    · intro w' hSw
      (try dsimp only at hSw)
      go_simp
    (try simp only [List.getElem_toArray, List.getElem_cons_succ, List.getElem_cons_zero, Act.put, List.setIfInBounds_toArray, List.set_cons_zero, List.set_cons_succ])
    refine upto_take (i := 4) (v := .agg #[.int .i64 x.e, .int .i64 x.n]) rfl (by kernel_rfl) (by kernel_rfl) (by kernel_rfl) (by kernel_rfl) (fun _ _ _ h => h) (Or.inl ⟨by rfl, ?_⟩) (hSall _ (by repeat (first | with_reducible exact Below.refl _ _ | with_reducible assumption | with_reducible exact below_new _ _ | with_reducible apply below_drewN | with_reducible apply Below.drew | with_reducible refine below_set (Nat.le_refl _) ?_ _ | ((with_reducible refine below_set ?_ ?_ _); omega) | with_reducible refine Below.alloc ?_ (by first | omega | (simp; omega) | simp) _))) ?_
    · intro w' hSw
      (try dsimp only at hSw)
      go_simp
    (try simp only [List.getElem_toArray, List.getElem_cons_succ, List.getElem_cons_zero, Act.put, List.setIfInBounds_toArray, List.set_cons_zero, List.set_cons_succ])
    refine upto_take (i := 5) (v := .tuple #[.agg #[.int .i64 0, .int .i64 0], .bool false]) rfl (by kernel_rfl) (by kernel_rfl) (by kernel_rfl) (by kernel_rfl) (fun _ _ _ h => h) (Or.inl ⟨by rfl, ?_⟩) (hSall _ (by repeat (first | with_reducible exact Below.refl _ _ | with_reducible assumption | with_reducible exact below_new _ _ | with_reducible apply below_drewN | with_reducible apply Below.drew | with_reducible refine below_set (Nat.le_refl _) ?_ _ | ((with_reducible refine below_set ?_ ?_ _); omega) | with_reducible refine Below.alloc ?_ (by first | omega | (simp; omega) | simp) _))) ?_
    · intro w' hSw
      (try dsimp only at hSw)
      go_simp
    (try simp only [List.getElem_toArray, List.getElem_cons_succ, List.getElem_cons_zero, Act.put, List.setIfInBounds_toArray, List.set_cons_zero, List.set_cons_succ])
    refine upto_take (i := 6) (v := .tuple #[.agg #[.int .i64 0, .int .i64 0], .bool false]) rfl (by kernel_rfl) (by kernel_rfl) (by kernel_rfl) (by kernel_rfl) (fun _ _ _ h => h) (Or.inl ⟨by rfl, ?_⟩) (hSall _ (by repeat (first | with_reducible exact Below.refl _ _ | with_reducible assumption | with_reducible exact below_new _ _ | with_reducible apply below_drewN | with_reducible apply Below.drew | with_reducible refine below_set (Nat.le_refl _) ?_ _ | ((with_reducible refine below_set ?_ ?_ _); omega) | with_reducible refine Below.alloc ?_ (by first | omega | (simp; omega) | simp) _))) ?_
    · intro w' hSw
      (try dsimp only at hSw)
      go_simp
    (try simp only [List.getElem_toArray, List.getElem_cons_succ, List.getElem_cons_zero, Act.put, List.setIfInBounds_toArray, List.set_cons_zero, List.set_cons_succ])
    refine upto_take (i := 7) (v := .agg #[.int .i64 0, .int .i64 0]) rfl (by kernel_rfl) (by kernel_rfl) (by kernel_rfl) (by kernel_rfl) (fun _ _ _ h => h) (Or.inl ⟨by rfl, ?_⟩) (hSall _ (by repeat (first | with_reducible exact Below.refl _ _ | with_reducible assumption | with_reducible exact below_new _ _ | with_reducible apply below_drewN | with_reducible apply Below.drew | with_reducible refine below_set (Nat.le_refl _) ?_ _ | ((with_reducible refine below_set ?_ ?_ _); omega) | with_reducible refine Below.alloc ?_ (by first | omega | (simp; omega) | simp) _))) ?_
    · intro w' hSw
      (try dsimp only at hSw)
      go_simp
    (try simp only [List.getElem_toArray, List.getElem_cons_succ, List.getElem_cons_zero, Act.put, List.setIfInBounds_toArray, List.set_cons_zero, List.set_cons_succ])
    refine upto_take (i := 8) (v := .bool false) rfl (by kernel_rfl) (by kernel_rfl) (by kernel_rfl) (by kernel_rfl) (fun _ _ _ h => h) (Or.inl ⟨by rfl, ?_⟩) (hSall _ (by repeat (first | with_reducible exact Below.refl _ _ | with_reducible assumption | with_reducible exact below_new _ _ | with_reducible apply below_drewN | with_reducible apply Below.drew | with_reducible refine below_set (Nat.le_refl _) ?_ _ | ((with_reducible refine below_set ?_ ?_ _); omega) | with_reducible refine Below.alloc ?_ (by first | omega | (simp; omega) | simp) _))) ?_
    · intro w' hSw
      (try dsimp only at hSw)
      go_simp
    (try simp only [List.getElem_toArray, List.getElem_cons_succ, List.getElem_cons_zero, Act.put, List.setIfInBounds_toArray, List.set_cons_zero, List.set_cons_succ])
    refine upto_step (i := 9) (by kernel_rfl) rfl (fun K hK => ?_)
    go_simp
    refine hK _ _ (fun _ => (hSall _ (by repeat (first | with_reducible exact Below.refl _ _ | with_reducible assumption | with_reducible exact below_new _ _ | with_reducible apply below_drewN | with_reducible apply Below.drew | with_reducible refine below_set (Nat.le_refl _) ?_ _ | ((with_reducible refine below_set ?_ ?_ _); omega) | with_reducible refine Below.alloc ?_ (by first | omega | (simp; omega) | simp) _)))) ?_
    clear hK K
    (try simp only [List.getElem_toArray, List.getElem_cons_succ, List.getElem_cons_zero, Act.put, List.setIfInBounds_toArray, List.set_cons_zero, List.set_cons_succ])
    refine upto_step (i := 10) (by kernel_rfl) rfl (fun K hK => ?_)
    go_simp
    refine hK _ _ (fun _ => (hSall _ (by repeat (first | with_reducible exact Below.refl _ _ | with_reducible assumption | with_reducible exact below_new _ _ | with_reducible apply below_drewN | with_reducible apply Below.drew | with_reducible refine below_set (Nat.le_refl _) ?_ _ | ((with_reducible refine below_set ?_ ?_ _); omega) | with_reducible refine Below.alloc ?_ (by first | omega | (simp; omega) | simp) _)))) ?_
    clear hK K
    (try simp only [List.getElem_toArray, List.getElem_cons_succ, List.getElem_cons_zero, Act.put, List.setIfInBounds_toArray, List.set_cons_zero, List.set_cons_succ])
    refine upto_step (i := 11) (by kernel_rfl) rfl (fun K hK => ?_)
    go_simp
    refine hK _ _ (fun _ => (hSall _ (by repeat (first | with_reducible exact Below.refl _ _ | with_reducible assumption | with_reducible exact below_new _ _ | with_reducible apply below_drewN | with_reducible apply Below.drew | with_reducible refine below_set (Nat.le_refl _) ?_ _ | ((with_reducible refine below_set ?_ ?_ _); omega) | with_reducible refine Below.alloc ?_ (by first | omega | (simp; omega) | simp) _)))) ?_
    clear hK K
    (try simp only [List.getElem_toArray, List.getElem_cons_succ, List.getElem_cons_zero, Act.put, List.setIfInBounds_toArray, List.set_cons_zero, List.set_cons_succ])
    refine upto_done (by kernel_rfl) (NoPanic.normal ?_) _
    clear hSall
    go_wp2_with fail
    exact bodyPost_ret (v := .tuple #[.agg #[.int .i64 0, .int .i64 0], .bool false]) (by simp [results, Try.results51, go_sem]) rfl ⟨opt_none rfl, (by repeat (first | with_reducible exact Below.refl _ _ | with_reducible assumption | with_reducible exact below_new _ _ | with_reducible apply below_drewN | with_reducible apply Below.drew | with_reducible refine below_set (Nat.le_refl _) ?_ _ | ((with_reducible refine below_set ?_ ?_ _); omega) | with_reducible refine Below.alloc ?_ (by first | omega | (simp; omega) | simp) _))⟩
  | some y =>
    have Hs := Lib.hid hn
    have R1 := Lib.hid (show ∀ w', Below w.heap.size w w' → (Instr.lookup 84 (.map (some bn)) (.agg #[.int .i64 x.e, .int .i64 x.n]) false).run Try.prog w' = .ok (.agg #[.int .i64 y.e, .int .i64 y.n]) w' ∧ (Instr.lookup 84 (.map (some bn)) (.agg #[.int .i64 x.e, .int .i64 x.n]) true).run Try.prog w' = .ok (.tuple #[.agg #[.int .i64 y.e, .int .i64 y.n], .bool true]) w' from h.next.hit hn keyed_port Try.underlying84 zero_port (key_port hx))
    clear h hn hx
    go_enter Try.func51, Try.ntmps51
    go_wp2_with fail
    have c9 : ((w.alloc (.cells #[.int .i64 x.e, .int .i64 x.n] 30)).alloc (.cells #[.int .i64 0, .int .i64 0] 30)).cell? ⟨b, 9, none⟩ = some (.map (some bn)) := (hbW.cell (p := ⟨b, 9, none⟩) hlt).trans H9.out.cell9
    have k0 : ((w.alloc (.cells #[.int .i64 x.e, .int .i64 x.n] 30)).alloc (.cells #[.int .i64 0, .int .i64 0] 30)).cell? ⟨w.heap.size, 0, none⟩ = some (.int .i64 x.e) := by go_simp
    have k1 : ((w.alloc (.cells #[.int .i64 x.e, .int .i64 x.n] 30)).alloc (.cells #[.int .i64 0, .int .i64 0] 30)).cell? ⟨w.heap.size, 1, none⟩ = some (.int .i64 x.n) := by go_simp
    have hSall : ∀ w' : World, Below (((w.alloc (.cells #[.int .i64 x.e, .int .i64 x.n] 30)).alloc (.cells #[.int .i64 0, .int .i64 0] 30))).heap.size (((w.alloc (.cells #[.int .i64 x.e, .int .i64 x.n] 30)).alloc (.cells #[.int .i64 0, .int .i64 0] 30))) w' → (w'.cell? ⟨b, 9, none⟩ = some (.map (some bn)) ∧ w'.cell? ⟨w.heap.size, 0, none⟩ = some (.int .i64 x.e) ∧ w'.cell? ⟨w.heap.size, 1, none⟩ = some (.int .i64 x.n) ∧ (Instr.lookup 84 (.map (some bn)) (.agg #[.int .i64 x.e, .int .i64 x.n]) true).run Try.prog w' = .ok (.tuple #[.agg #[.int .i64 y.e, .int .i64 y.n], .bool true]) w') := fun w' hb => ⟨(hb.cell (p := ⟨b, 9, none⟩) (by simp; omega)).trans c9, (hb.cell (p := ⟨w.heap.size, 0, none⟩) (by simp <;> omega)).trans k0, (hb.cell (p := ⟨w.heap.size, 1, none⟩) (by simp <;> omega)).trans k1, (R1.out w' (hbW.trans (hb.mono hbW.size))).2⟩
    refine wp_region_noPanic ?_
    refine region_upto (S := fun w' => w'.cell? ⟨b, 9, none⟩ = some (.map (some bn)) ∧ w'.cell? ⟨w.heap.size, 0, none⟩ = some (.int .i64 x.e) ∧ w'.cell? ⟨w.heap.size, 1, none⟩ = some (.int .i64 x.n) ∧ (Instr.lookup 84 (.map (some bn)) (.agg #[.int .i64 x.e, .int .i64 x.n]) true).run Try.prog w' = .ok (.tuple #[.agg #[.int .i64 y.e, .int .i64 y.n], .bool true]) w') (n := 12) (by kernel_rfl) ?_
    refine upto_take (i := 0) (v := .pointer (some ⟨b, 0, none⟩)) rfl (by kernel_rfl) (by kernel_rfl) (by kernel_rfl) (by kernel_rfl) (fun _ _ _ h => h) (Or.inl ⟨by rfl, ?_⟩) (hSall _ (by repeat (first | with_reducible exact Below.refl _ _ | with_reducible assumption | with_reducible exact below_new _ _ | with_reducible apply below_drewN | with_reducible apply Below.drew | with_reducible refine below_set (Nat.le_refl _) ?_ _ | ((with_reducible refine below_set ?_ ?_ _); omega) | with_reducible refine Below.alloc ?_ (by first | omega | (simp; omega) | simp) _))) ?_
    · intro w' hSw
      (try dsimp only at hSw)
      go_simp
    (try simp only [List.getElem_toArray, List.getElem_cons_zero, Act.put, List.setIfInBounds_toArray, List.set_cons_zero, List.set_cons_succ])
    refine upto_take (i := 1) (v := .pointer (some ⟨b, 0, none⟩)) rfl (by kernel_rfl) (by kernel_rfl) (by kernel_rfl) (by kernel_rfl) (fun _ _ _ h => h) (Or.inl ⟨by rfl, ?_⟩) (hSall _ (by repeat (first | with_reducible exact Below.refl _ _ | with_reducible assumption | with_reducible exact below_new _ _ | with_reducible apply below_drewN | with_reducible apply Below.drew | with_reducible refine below_set (Nat.le_refl _) ?_ _ | ((with_reducible refine below_set ?_ ?_ _); omega) | with_reducible refine Below.alloc ?_ (by first | omega | (simp; omega) | simp) _))) ?_
    · intro w' hSw
      (try dsimp only at hSw)
      go_simp
    (try simp only [List.getElem_toArray, List.getElem_cons_succ, List.getElem_cons_zero, Act.put, List.setIfInBounds_toArray, List.set_cons_zero, List.set_cons_succ])
    refine upto_take (i := 2) (v := .pointer (some ⟨b, 9, none⟩)) rfl (by kernel_rfl) (by kernel_rfl) (by kernel_rfl) (by kernel_rfl) (fun _ _ _ h => h) (Or.inl ⟨by rfl, ?_⟩) (hSall _ (by repeat (first | with_reducible exact Below.refl _ _ | with_reducible assumption | with_reducible exact below_new _ _ | with_reducible apply below_drewN | with_reducible apply Below.drew | with_reducible refine below_set (Nat.le_refl _) ?_ _ | ((with_reducible refine below_set ?_ ?_ _); omega) | with_reducible refine Below.alloc ?_ (by first | omega | (simp; omega) | simp) _))) ?_
    · intro w' hSw
      (try dsimp only at hSw)
      go_simp
    (try simp only [List.getElem_toArray, List.getElem_cons_succ, List.getElem_cons_zero, Act.put, List.setIfInBounds_toArray, List.set_cons_zero, List.set_cons_succ])
    refine upto_take (i := 3) (v := .map (some bn)) rfl (by kernel_rfl) (by kernel_rfl) (by kernel_rfl) (by kernel_rfl) (fun _ _ _ h => h) (Or.inl ⟨by rfl, ?_⟩) (hSall _ (by repeat (first | with_reducible exact Below.refl _ _ | with_reducible assumption | with_reducible exact below_new _ _ | with_reducible apply below_drewN | with_reducible apply Below.drew | with_reducible refine below_set (Nat.le_refl _) ?_ _ | ((with_reducible refine below_set ?_ ?_ _); omega) | with_reducible refine Below.alloc ?_ (by first | omega | (simp; omega) | simp) _))) ?_
    · intro w' hSw
      (try dsimp only at hSw)
      go_simp
    (try simp only [List.getElem_toArray, List.getElem_cons_succ, List.getElem_cons_zero, Act.put, List.setIfInBounds_toArray, List.set_cons_zero, List.set_cons_succ])
    refine upto_take (i := 4) (v := .agg #[.int .i64 x.e, .int .i64 x.n]) rfl (by kernel_rfl) (by kernel_rfl) (by kernel_rfl) (by kernel_rfl) (fun _ _ _ h => h) (Or.inl ⟨by rfl, ?_⟩) (hSall _ (by repeat (first | with_reducible exact Below.refl _ _ | with_reducible assumption | with_reducible exact below_new _ _ | with_reducible apply below_drewN | with_reducible apply Below.drew | with_reducible refine below_set (Nat.le_refl _) ?_ _ | ((with_reducible refine below_set ?_ ?_ _); omega) | with_reducible refine Below.alloc ?_ (by first | omega | (simp; omega) | simp) _))) ?_
    · intro w' hSw
      (try dsimp only at hSw)
      go_simp
    (try simp only [List.getElem_toArray, List.getElem_cons_succ, List.getElem_cons_zero, Act.put, List.setIfInBounds_toArray, List.set_cons_zero, List.set_cons_succ])
    refine upto_take (i := 5) (v := .tuple #[.agg #[.int .i64 y.e, .int .i64 y.n], .bool true]) rfl (by kernel_rfl) (by kernel_rfl) (by kernel_rfl) (by kernel_rfl) (fun _ _ _ h => h) (Or.inl ⟨by rfl, ?_⟩) (hSall _ (by repeat (first | with_reducible exact Below.refl _ _ | with_reducible assumption | with_reducible exact below_new _ _ | with_reducible apply below_drewN | with_reducible apply Below.drew | with_reducible refine below_set (Nat.le_refl _) ?_ _ | ((with_reducible refine below_set ?_ ?_ _); omega) | with_reducible refine Below.alloc ?_ (by first | omega | (simp; omega) | simp) _))) ?_
    · intro w' hSw
      (try dsimp only at hSw)
      go_simp
    (try simp only [List.getElem_toArray, List.getElem_cons_succ, List.getElem_cons_zero, Act.put, List.setIfInBounds_toArray, List.set_cons_zero, List.set_cons_succ])
    refine upto_take (i := 6) (v := .tuple #[.agg #[.int .i64 y.e, .int .i64 y.n], .bool true]) rfl (by kernel_rfl) (by kernel_rfl) (by kernel_rfl) (by kernel_rfl) (fun _ _ _ h => h) (Or.inl ⟨by rfl, ?_⟩) (hSall _ (by repeat (first | with_reducible exact Below.refl _ _ | with_reducible assumption | with_reducible exact below_new _ _ | with_reducible apply below_drewN | with_reducible apply Below.drew | with_reducible refine below_set (Nat.le_refl _) ?_ _ | ((with_reducible refine below_set ?_ ?_ _); omega) | with_reducible refine Below.alloc ?_ (by first | omega | (simp; omega) | simp) _))) ?_
    · intro w' hSw
      (try dsimp only at hSw)
      go_simp
    (try simp only [List.getElem_toArray, List.getElem_cons_succ, List.getElem_cons_zero, Act.put, List.setIfInBounds_toArray, List.set_cons_zero, List.set_cons_succ])
    refine upto_take (i := 7) (v := .agg #[.int .i64 y.e, .int .i64 y.n]) rfl (by kernel_rfl) (by kernel_rfl) (by kernel_rfl) (by kernel_rfl) (fun _ _ _ h => h) (Or.inl ⟨by rfl, ?_⟩) (hSall _ (by repeat (first | with_reducible exact Below.refl _ _ | with_reducible assumption | with_reducible exact below_new _ _ | with_reducible apply below_drewN | with_reducible apply Below.drew | with_reducible refine below_set (Nat.le_refl _) ?_ _ | ((with_reducible refine below_set ?_ ?_ _); omega) | with_reducible refine Below.alloc ?_ (by first | omega | (simp; omega) | simp) _))) ?_
    · intro w' hSw
      (try dsimp only at hSw)
      go_simp
    (try simp only [List.getElem_toArray, List.getElem_cons_succ, List.getElem_cons_zero, Act.put, List.setIfInBounds_toArray, List.set_cons_zero, List.set_cons_succ])
    refine upto_take (i := 8) (v := .bool true) rfl (by kernel_rfl) (by kernel_rfl) (by kernel_rfl) (by kernel_rfl) (fun _ _ _ h => h) (Or.inl ⟨by rfl, ?_⟩) (hSall _ (by repeat (first | with_reducible exact Below.refl _ _ | with_reducible assumption | with_reducible exact below_new _ _ | with_reducible apply below_drewN | with_reducible apply Below.drew | with_reducible refine below_set (Nat.le_refl _) ?_ _ | ((with_reducible refine below_set ?_ ?_ _); omega) | with_reducible refine Below.alloc ?_ (by first | omega | (simp; omega) | simp) _))) ?_
    · intro w' hSw
      (try dsimp only at hSw)
      go_simp
    (try simp only [List.getElem_toArray, List.getElem_cons_succ, List.getElem_cons_zero, Act.put, List.setIfInBounds_toArray, List.set_cons_zero, List.set_cons_succ])
    refine upto_step (i := 9) (by kernel_rfl) rfl (fun K hK => ?_)
    go_simp
    refine hK _ _ (fun _ => (hSall _ (by repeat (first | with_reducible exact Below.refl _ _ | with_reducible assumption | with_reducible exact below_new _ _ | with_reducible apply below_drewN | with_reducible apply Below.drew | with_reducible refine below_set (Nat.le_refl _) ?_ _ | ((with_reducible refine below_set ?_ ?_ _); omega) | with_reducible refine Below.alloc ?_ (by first | omega | (simp; omega) | simp) _)))) ?_
    clear hK K
    (try simp only [List.getElem_toArray, List.getElem_cons_succ, List.getElem_cons_zero, Act.put, List.setIfInBounds_toArray, List.set_cons_zero, List.set_cons_succ])
    refine upto_step (i := 10) (by kernel_rfl) rfl (fun K hK => ?_)
    go_simp
    refine hK _ _ (fun _ => (hSall _ (by repeat (first | with_reducible exact Below.refl _ _ | with_reducible assumption | with_reducible exact below_new _ _ | with_reducible apply below_drewN | with_reducible apply Below.drew | with_reducible refine below_set (Nat.le_refl _) ?_ _ | ((with_reducible refine below_set ?_ ?_ _); omega) | with_reducible refine Below.alloc ?_ (by first | omega | (simp; omega) | simp) _)))) ?_
    clear hK K
    (try simp only [List.getElem_toArray, List.getElem_cons_succ, List.getElem_cons_zero, Act.put, List.setIfInBounds_toArray, List.set_cons_zero, List.set_cons_succ])
    refine upto_step (i := 11) (by kernel_rfl) rfl (fun K hK => ?_)
    go_simp
    refine hK _ _ (fun _ => (hSall _ (by repeat (first | with_reducible exact Below.refl _ _ | with_reducible assumption | with_reducible exact below_new _ _ | with_reducible apply below_drewN | with_reducible apply Below.drew | with_reducible refine below_set (Nat.le_refl _) ?_ _ | ((with_reducible refine below_set ?_ ?_ _); omega) | with_reducible refine Below.alloc ?_ (by first | omega | (simp; omega) | simp) _)))) ?_
    clear hK K
    (try simp only [List.getElem_toArray, List.getElem_cons_succ, List.getElem_cons_zero, Act.put, List.setIfInBounds_toArray, List.set_cons_zero, List.set_cons_succ])
    refine upto_done (by kernel_rfl) (NoPanic.normal ?_) _
    clear hSall
    go_wp2_with fail
    exact bodyPost_ret (v := .tuple #[.agg #[.int .i64 y.e, .int .i64 y.n], .bool true]) (by simp [results, Try.results51, go_sem]) rfl ⟨opt_some rfl, (by repeat (first | with_reducible exact Below.refl _ _ | with_reducible assumption | with_reducible exact below_new _ _ | with_reducible apply below_drewN | with_reducible apply Below.drew | with_reducible refine below_set (Nat.le_refl _) ?_ _ | ((with_reducible refine below_set ?_ ?_ _); omega) | with_reducible refine Below.alloc ?_ (by first | omega | (simp; omega) | simp) _))⟩
theorem reads_pos (l : List Sig) (x : Port) : ∀ i : Nat, readsGo i l x = match posP i (l.map (·.at_)) x with | some k => (k : Int) | none => -1 := by
  induction l with
  | nil => intro i; rfl
  | cons s r ih =>
    intro i
    unfold readsGo
    simp only [List.map_cons, posP]
    split
    · rfl
    · exact ih (i + 1)
theorem nreads_any (w : World) (b : Nat) (p : Plan) (h : NetAt w b p) (x : Port) (hx : x.wf) :
    Calls Try.prog 43 #[.pointer (some ⟨b, 0, none⟩), x.val] w fun en w' => en = .returned (.int .i64 (reads p x)) ∧ Below w.heap.size w w' := by
  obtain ⟨v, bn, br, bl, bd, h⟩ := h
  unfold Port.val
  have hbW : Below w.heap.size w (w.alloc (.cells #[.int .i64 x.e, .int .i64 x.n] 30)) := below_new w _
  have c10w := h.blk.cell10
  have hlt := h.blk.lt
  have Hr := Lib.hid (reads_pos p.sigs x 0)
  cases hn : posP 0 (p.sigs.map (·.at_)) x with
  | none =>
    have Hs := Lib.hid (show reads p x = -1 by have := Hr.out; rw [hn] at this; exact this)
    have R1 := Lib.hid (show ∀ w', Below w.heap.size w w' → (Instr.lookup 85 (.map (some br)) (.agg #[.int .i64 x.e, .int .i64 x.n]) false).run Try.prog w' = .ok (.int .i64 0) w' ∧ (Instr.lookup 85 (.map (some br)) (.agg #[.int .i64 x.e, .int .i64 x.n]) true).run Try.prog w' = .ok (.tuple #[.int .i64 0, .bool false]) w' from h.reads.miss hn keyed_port Try.underlying85 zero_int' (key_port hx))
    clear h hn hx
    go_enter Try.func43, Try.ntmps43
    go_wp2_with fail
    have c10 : (w.alloc (.cells #[.int .i64 x.e, .int .i64 x.n] 30)).cell? ⟨b, 10, none⟩ = some (.map (some br)) := (hbW.cell (p := ⟨b, 10, none⟩) hlt).trans c10w
    have k0 : (w.alloc (.cells #[.int .i64 x.e, .int .i64 x.n] 30)).cell? ⟨w.heap.size, 0, none⟩ = some (.int .i64 x.e) := by go_simp
    have k1 : (w.alloc (.cells #[.int .i64 x.e, .int .i64 x.n] 30)).cell? ⟨w.heap.size, 1, none⟩ = some (.int .i64 x.n) := by go_simp
    have hSall : ∀ w' : World, Below ((w.alloc (.cells #[.int .i64 x.e, .int .i64 x.n] 30))).heap.size ((w.alloc (.cells #[.int .i64 x.e, .int .i64 x.n] 30))) w' → (w'.cell? ⟨b, 10, none⟩ = some (.map (some br)) ∧ w'.cell? ⟨w.heap.size, 0, none⟩ = some (.int .i64 x.e) ∧ w'.cell? ⟨w.heap.size, 1, none⟩ = some (.int .i64 x.n) ∧ (Instr.lookup 85 (.map (some br)) (.agg #[.int .i64 x.e, .int .i64 x.n]) true).run Try.prog w' = .ok (.tuple #[.int .i64 0, .bool false]) w') := fun w' hb => ⟨(hb.cell (p := ⟨b, 10, none⟩) (by simp <;> omega)).trans c10, (hb.cell (p := ⟨w.heap.size, 0, none⟩) (by simp)).trans k0, (hb.cell (p := ⟨w.heap.size, 1, none⟩) (by simp)).trans k1, (R1.out w' (hbW.trans (hb.mono hbW.size))).2⟩
    refine wp_region_noPanic ?_
    refine region_upto (S := fun w' => w'.cell? ⟨b, 10, none⟩ = some (.map (some br)) ∧ w'.cell? ⟨w.heap.size, 0, none⟩ = some (.int .i64 x.e) ∧ w'.cell? ⟨w.heap.size, 1, none⟩ = some (.int .i64 x.n) ∧ (Instr.lookup 85 (.map (some br)) (.agg #[.int .i64 x.e, .int .i64 x.n]) true).run Try.prog w' = .ok (.tuple #[.int .i64 0, .bool false]) w') (n := 11) (by kernel_rfl) ?_
    refine upto_take (i := 0) (v := .pointer (some ⟨b, 0, none⟩)) rfl (by kernel_rfl) (by kernel_rfl) (by kernel_rfl) (by kernel_rfl) (fun _ _ _ h => h) (Or.inl ⟨by rfl, ?_⟩) (hSall _ (by repeat (first | with_reducible exact Below.refl _ _ | with_reducible assumption | with_reducible exact below_new _ _ | with_reducible apply below_drewN | with_reducible apply Below.drew | with_reducible refine below_set (Nat.le_refl _) ?_ _ | ((with_reducible refine below_set ?_ ?_ _); omega) | with_reducible refine Below.alloc ?_ (by first | omega | (simp; omega) | simp) _))) ?_
    · intro w' hSw
      (try dsimp only at hSw)
      go_simp
    (try simp only [List.getElem_toArray, List.getElem_cons_zero, Act.put, List.setIfInBounds_toArray, List.set_cons_zero, List.set_cons_succ])
    refine upto_take (i := 1) (v := .pointer (some ⟨b, 0, none⟩)) rfl (by kernel_rfl) (by kernel_rfl) (by kernel_rfl) (by kernel_rfl) (fun _ _ _ h => h) (Or.inl ⟨by rfl, ?_⟩) (hSall _ (by repeat (first | with_reducible exact Below.refl _ _ | with_reducible assumption | with_reducible exact below_new _ _ | with_reducible apply below_drewN | with_reducible apply Below.drew | with_reducible refine below_set (Nat.le_refl _) ?_ _ | ((with_reducible refine below_set ?_ ?_ _); omega) | with_reducible refine Below.alloc ?_ (by first | omega | (simp; omega) | simp) _))) ?_
    · intro w' hSw
      (try dsimp only at hSw)
      go_simp
    (try simp only [List.getElem_toArray, List.getElem_cons_succ, List.getElem_cons_zero, Act.put, List.setIfInBounds_toArray, List.set_cons_zero, List.set_cons_succ])
    refine upto_take (i := 2) (v := .pointer (some ⟨b, 10, none⟩)) rfl (by kernel_rfl) (by kernel_rfl) (by kernel_rfl) (by kernel_rfl) (fun _ _ _ h => h) (Or.inl ⟨by rfl, ?_⟩) (hSall _ (by repeat (first | with_reducible exact Below.refl _ _ | with_reducible assumption | with_reducible exact below_new _ _ | with_reducible apply below_drewN | with_reducible apply Below.drew | with_reducible refine below_set (Nat.le_refl _) ?_ _ | ((with_reducible refine below_set ?_ ?_ _); omega) | with_reducible refine Below.alloc ?_ (by first | omega | (simp; omega) | simp) _))) ?_
    · intro w' hSw
      (try dsimp only at hSw)
      go_simp
    (try simp only [List.getElem_toArray, List.getElem_cons_succ, List.getElem_cons_zero, Act.put, List.setIfInBounds_toArray, List.set_cons_zero, List.set_cons_succ])
    refine upto_take (i := 3) (v := .map (some br)) rfl (by kernel_rfl) (by kernel_rfl) (by kernel_rfl) (by kernel_rfl) (fun _ _ _ h => h) (Or.inl ⟨by rfl, ?_⟩) (hSall _ (by repeat (first | with_reducible exact Below.refl _ _ | with_reducible assumption | with_reducible exact below_new _ _ | with_reducible apply below_drewN | with_reducible apply Below.drew | with_reducible refine below_set (Nat.le_refl _) ?_ _ | ((with_reducible refine below_set ?_ ?_ _); omega) | with_reducible refine Below.alloc ?_ (by first | omega | (simp; omega) | simp) _))) ?_
    · intro w' hSw
      (try dsimp only at hSw)
      go_simp
    (try simp only [List.getElem_toArray, List.getElem_cons_succ, List.getElem_cons_zero, Act.put, List.setIfInBounds_toArray, List.set_cons_zero, List.set_cons_succ])
    refine upto_take (i := 4) (v := .agg #[.int .i64 x.e, .int .i64 x.n]) rfl (by kernel_rfl) (by kernel_rfl) (by kernel_rfl) (by kernel_rfl) (fun _ _ _ h => h) (Or.inl ⟨by rfl, ?_⟩) (hSall _ (by repeat (first | with_reducible exact Below.refl _ _ | with_reducible assumption | with_reducible exact below_new _ _ | with_reducible apply below_drewN | with_reducible apply Below.drew | with_reducible refine below_set (Nat.le_refl _) ?_ _ | ((with_reducible refine below_set ?_ ?_ _); omega) | with_reducible refine Below.alloc ?_ (by first | omega | (simp; omega) | simp) _))) ?_
    · intro w' hSw
      (try dsimp only at hSw)
      go_simp
    (try simp only [List.getElem_toArray, List.getElem_cons_succ, List.getElem_cons_zero, Act.put, List.setIfInBounds_toArray, List.set_cons_zero, List.set_cons_succ])
    refine upto_take (i := 5) (v := .tuple #[.int .i64 0, .bool false]) rfl (by kernel_rfl) (by kernel_rfl) (by kernel_rfl) (by kernel_rfl) (fun _ _ _ h => h) (Or.inl ⟨by rfl, ?_⟩) (hSall _ (by repeat (first | with_reducible exact Below.refl _ _ | with_reducible assumption | with_reducible exact below_new _ _ | with_reducible apply below_drewN | with_reducible apply Below.drew | with_reducible refine below_set (Nat.le_refl _) ?_ _ | ((with_reducible refine below_set ?_ ?_ _); omega) | with_reducible refine Below.alloc ?_ (by first | omega | (simp; omega) | simp) _))) ?_
    · intro w' hSw
      (try dsimp only at hSw)
      go_simp
    (try simp only [List.getElem_toArray, List.getElem_cons_succ, List.getElem_cons_zero, Act.put, List.setIfInBounds_toArray, List.set_cons_zero, List.set_cons_succ])
    refine upto_take (i := 6) (v := .tuple #[.int .i64 0, .bool false]) rfl (by kernel_rfl) (by kernel_rfl) (by kernel_rfl) (by kernel_rfl) (fun _ _ _ h => h) (Or.inl ⟨by rfl, ?_⟩) (hSall _ (by repeat (first | with_reducible exact Below.refl _ _ | with_reducible assumption | with_reducible exact below_new _ _ | with_reducible apply below_drewN | with_reducible apply Below.drew | with_reducible refine below_set (Nat.le_refl _) ?_ _ | ((with_reducible refine below_set ?_ ?_ _); omega) | with_reducible refine Below.alloc ?_ (by first | omega | (simp; omega) | simp) _))) ?_
    · intro w' hSw
      (try dsimp only at hSw)
      go_simp
    (try simp only [List.getElem_toArray, List.getElem_cons_succ, List.getElem_cons_zero, Act.put, List.setIfInBounds_toArray, List.set_cons_zero, List.set_cons_succ])
    refine upto_take (i := 7) (v := .int .i64 0) rfl (by kernel_rfl) (by kernel_rfl) (by kernel_rfl) (by kernel_rfl) (fun _ _ _ h => h) (Or.inl ⟨by rfl, ?_⟩) (hSall _ (by repeat (first | with_reducible exact Below.refl _ _ | with_reducible assumption | with_reducible exact below_new _ _ | with_reducible apply below_drewN | with_reducible apply Below.drew | with_reducible refine below_set (Nat.le_refl _) ?_ _ | ((with_reducible refine below_set ?_ ?_ _); omega) | with_reducible refine Below.alloc ?_ (by first | omega | (simp; omega) | simp) _))) ?_
    · intro w' hSw
      (try dsimp only at hSw)
      go_simp
    (try simp only [List.getElem_toArray, List.getElem_cons_succ, List.getElem_cons_zero, Act.put, List.setIfInBounds_toArray, List.set_cons_zero, List.set_cons_succ])
    refine upto_take (i := 8) (v := .bool false) rfl (by kernel_rfl) (by kernel_rfl) (by kernel_rfl) (by kernel_rfl) (fun _ _ _ h => h) (Or.inl ⟨by rfl, ?_⟩) (hSall _ (by repeat (first | with_reducible exact Below.refl _ _ | with_reducible assumption | with_reducible exact below_new _ _ | with_reducible apply below_drewN | with_reducible apply Below.drew | with_reducible refine below_set (Nat.le_refl _) ?_ _ | ((with_reducible refine below_set ?_ ?_ _); omega) | with_reducible refine Below.alloc ?_ (by first | omega | (simp; omega) | simp) _))) ?_
    · intro w' hSw
      (try dsimp only at hSw)
      go_simp
    (try simp only [List.getElem_toArray, List.getElem_cons_succ, List.getElem_cons_zero, Act.put, List.setIfInBounds_toArray, List.set_cons_zero, List.set_cons_succ])
    refine upto_step (i := 9) (by kernel_rfl) rfl (fun K hK => ?_)
    go_simp
    refine hK _ _ (fun _ => (hSall _ (by repeat (first | with_reducible exact Below.refl _ _ | with_reducible assumption | with_reducible exact below_new _ _ | with_reducible apply below_drewN | with_reducible apply Below.drew | with_reducible refine below_set (Nat.le_refl _) ?_ _ | ((with_reducible refine below_set ?_ ?_ _); omega) | with_reducible refine Below.alloc ?_ (by first | omega | (simp; omega) | simp) _)))) ?_
    clear hK K
    (try simp only [List.getElem_toArray, List.getElem_cons_succ, List.getElem_cons_zero, Act.put, List.setIfInBounds_toArray, List.set_cons_zero, List.set_cons_succ])
    refine upto_step (i := 10) (by kernel_rfl) rfl (fun K hK => ?_)
    go_simp
    refine hK _ _ (fun _ => (hSall _ (by repeat (first | with_reducible exact Below.refl _ _ | with_reducible assumption | with_reducible exact below_new _ _ | with_reducible apply below_drewN | with_reducible apply Below.drew | with_reducible refine below_set (Nat.le_refl _) ?_ _ | ((with_reducible refine below_set ?_ ?_ _); omega) | with_reducible refine Below.alloc ?_ (by first | omega | (simp; omega) | simp) _)))) ?_
    clear hK K
    (try simp only [List.getElem_toArray, List.getElem_cons_succ, List.getElem_cons_zero, Act.put, List.setIfInBounds_toArray, List.set_cons_zero, List.set_cons_succ])
    refine upto_done (by kernel_rfl) (NoPanic.normal ?_) _
    clear hSall
    go_wp2_with fail
    go_ret
    exact ⟨ret_int Hs.out.symm, (by repeat (first | with_reducible exact Below.refl _ _ | with_reducible assumption | with_reducible exact below_new _ _ | with_reducible apply below_drewN | with_reducible apply Below.drew | with_reducible refine below_set (Nat.le_refl _) ?_ _ | ((with_reducible refine below_set ?_ ?_ _); omega) | with_reducible refine Below.alloc ?_ (by first | omega | (simp; omega) | simp) _))⟩
  | some k =>
    have Hs := Lib.hid (show reads p x = (k : Int) by have := Hr.out; rw [hn] at this; exact this)
    have R1 := Lib.hid (show ∀ w', Below w.heap.size w w' → (Instr.lookup 85 (.map (some br)) (.agg #[.int .i64 x.e, .int .i64 x.n]) false).run Try.prog w' = .ok (.int .i64 (k : Int)) w' ∧ (Instr.lookup 85 (.map (some br)) (.agg #[.int .i64 x.e, .int .i64 x.n]) true).run Try.prog w' = .ok (.tuple #[.int .i64 (k : Int), .bool true]) w' from h.reads.hit hn keyed_port Try.underlying85 zero_int' (key_port hx))
    clear h hn hx
    go_enter Try.func43, Try.ntmps43
    go_wp2_with fail
    have c10 : (w.alloc (.cells #[.int .i64 x.e, .int .i64 x.n] 30)).cell? ⟨b, 10, none⟩ = some (.map (some br)) := (hbW.cell (p := ⟨b, 10, none⟩) hlt).trans c10w
    have k0 : (w.alloc (.cells #[.int .i64 x.e, .int .i64 x.n] 30)).cell? ⟨w.heap.size, 0, none⟩ = some (.int .i64 x.e) := by go_simp
    have k1 : (w.alloc (.cells #[.int .i64 x.e, .int .i64 x.n] 30)).cell? ⟨w.heap.size, 1, none⟩ = some (.int .i64 x.n) := by go_simp
    have hSall : ∀ w' : World, Below ((w.alloc (.cells #[.int .i64 x.e, .int .i64 x.n] 30))).heap.size ((w.alloc (.cells #[.int .i64 x.e, .int .i64 x.n] 30))) w' → (w'.cell? ⟨b, 10, none⟩ = some (.map (some br)) ∧ w'.cell? ⟨w.heap.size, 0, none⟩ = some (.int .i64 x.e) ∧ w'.cell? ⟨w.heap.size, 1, none⟩ = some (.int .i64 x.n) ∧ (Instr.lookup 85 (.map (some br)) (.agg #[.int .i64 x.e, .int .i64 x.n]) true).run Try.prog w' = .ok (.tuple #[.int .i64 (k : Int), .bool true]) w') := fun w' hb => ⟨(hb.cell (p := ⟨b, 10, none⟩) (by simp <;> omega)).trans c10, (hb.cell (p := ⟨w.heap.size, 0, none⟩) (by simp)).trans k0, (hb.cell (p := ⟨w.heap.size, 1, none⟩) (by simp)).trans k1, (R1.out w' (hbW.trans (hb.mono hbW.size))).2⟩
    refine wp_region_noPanic ?_
    refine region_upto (S := fun w' => w'.cell? ⟨b, 10, none⟩ = some (.map (some br)) ∧ w'.cell? ⟨w.heap.size, 0, none⟩ = some (.int .i64 x.e) ∧ w'.cell? ⟨w.heap.size, 1, none⟩ = some (.int .i64 x.n) ∧ (Instr.lookup 85 (.map (some br)) (.agg #[.int .i64 x.e, .int .i64 x.n]) true).run Try.prog w' = .ok (.tuple #[.int .i64 (k : Int), .bool true]) w') (n := 11) (by kernel_rfl) ?_
    refine upto_take (i := 0) (v := .pointer (some ⟨b, 0, none⟩)) rfl (by kernel_rfl) (by kernel_rfl) (by kernel_rfl) (by kernel_rfl) (fun _ _ _ h => h) (Or.inl ⟨by rfl, ?_⟩) (hSall _ (by repeat (first | with_reducible exact Below.refl _ _ | with_reducible assumption | with_reducible exact below_new _ _ | with_reducible apply below_drewN | with_reducible apply Below.drew | with_reducible refine below_set (Nat.le_refl _) ?_ _ | ((with_reducible refine below_set ?_ ?_ _); omega) | with_reducible refine Below.alloc ?_ (by first | omega | (simp; omega) | simp) _))) ?_
    · intro w' hSw
      (try dsimp only at hSw)
      go_simp
    (try simp only [List.getElem_toArray, List.getElem_cons_zero, Act.put, List.setIfInBounds_toArray, List.set_cons_zero, List.set_cons_succ])
    refine upto_take (i := 1) (v := .pointer (some ⟨b, 0, none⟩)) rfl (by kernel_rfl) (by kernel_rfl) (by kernel_rfl) (by kernel_rfl) (fun _ _ _ h => h) (Or.inl ⟨by rfl, ?_⟩) (hSall _ (by repeat (first | with_reducible exact Below.refl _ _ | with_reducible assumption | with_reducible exact below_new _ _ | with_reducible apply below_drewN | with_reducible apply Below.drew | with_reducible refine below_set (Nat.le_refl _) ?_ _ | ((with_reducible refine below_set ?_ ?_ _); omega) | with_reducible refine Below.alloc ?_ (by first | omega | (simp; omega) | simp) _))) ?_
    · intro w' hSw
      (try dsimp only at hSw)
      go_simp
    (try simp only [List.getElem_toArray, List.getElem_cons_succ, List.getElem_cons_zero, Act.put, List.setIfInBounds_toArray, List.set_cons_zero, List.set_cons_succ])
    refine upto_take (i := 2) (v := .pointer (some ⟨b, 10, none⟩)) rfl (by kernel_rfl) (by kernel_rfl) (by kernel_rfl) (by kernel_rfl) (fun _ _ _ h => h) (Or.inl ⟨by rfl, ?_⟩) (hSall _ (by repeat (first | with_reducible exact Below.refl _ _ | with_reducible assumption | with_reducible exact below_new _ _ | with_reducible apply below_drewN | with_reducible apply Below.drew | with_reducible refine below_set (Nat.le_refl _) ?_ _ | ((with_reducible refine below_set ?_ ?_ _); omega) | with_reducible refine Below.alloc ?_ (by first | omega | (simp; omega) | simp) _))) ?_
    · intro w' hSw
      (try dsimp only at hSw)
      go_simp
    (try simp only [List.getElem_toArray, List.getElem_cons_succ, List.getElem_cons_zero, Act.put, List.setIfInBounds_toArray, List.set_cons_zero, List.set_cons_succ])
    refine upto_take (i := 3) (v := .map (some br)) rfl (by kernel_rfl) (by kernel_rfl) (by kernel_rfl) (by kernel_rfl) (fun _ _ _ h => h) (Or.inl ⟨by rfl, ?_⟩) (hSall _ (by repeat (first | with_reducible exact Below.refl _ _ | with_reducible assumption | with_reducible exact below_new _ _ | with_reducible apply below_drewN | with_reducible apply Below.drew | with_reducible refine below_set (Nat.le_refl _) ?_ _ | ((with_reducible refine below_set ?_ ?_ _); omega) | with_reducible refine Below.alloc ?_ (by first | omega | (simp; omega) | simp) _))) ?_
    · intro w' hSw
      (try dsimp only at hSw)
      go_simp
    (try simp only [List.getElem_toArray, List.getElem_cons_succ, List.getElem_cons_zero, Act.put, List.setIfInBounds_toArray, List.set_cons_zero, List.set_cons_succ])
    refine upto_take (i := 4) (v := .agg #[.int .i64 x.e, .int .i64 x.n]) rfl (by kernel_rfl) (by kernel_rfl) (by kernel_rfl) (by kernel_rfl) (fun _ _ _ h => h) (Or.inl ⟨by rfl, ?_⟩) (hSall _ (by repeat (first | with_reducible exact Below.refl _ _ | with_reducible assumption | with_reducible exact below_new _ _ | with_reducible apply below_drewN | with_reducible apply Below.drew | with_reducible refine below_set (Nat.le_refl _) ?_ _ | ((with_reducible refine below_set ?_ ?_ _); omega) | with_reducible refine Below.alloc ?_ (by first | omega | (simp; omega) | simp) _))) ?_
    · intro w' hSw
      (try dsimp only at hSw)
      go_simp
    (try simp only [List.getElem_toArray, List.getElem_cons_succ, List.getElem_cons_zero, Act.put, List.setIfInBounds_toArray, List.set_cons_zero, List.set_cons_succ])
    refine upto_take (i := 5) (v := .tuple #[.int .i64 (k : Int), .bool true]) rfl (by kernel_rfl) (by kernel_rfl) (by kernel_rfl) (by kernel_rfl) (fun _ _ _ h => h) (Or.inl ⟨by rfl, ?_⟩) (hSall _ (by repeat (first | with_reducible exact Below.refl _ _ | with_reducible assumption | with_reducible exact below_new _ _ | with_reducible apply below_drewN | with_reducible apply Below.drew | with_reducible refine below_set (Nat.le_refl _) ?_ _ | ((with_reducible refine below_set ?_ ?_ _); omega) | with_reducible refine Below.alloc ?_ (by first | omega | (simp; omega) | simp) _))) ?_
    · intro w' hSw
      (try dsimp only at hSw)
      go_simp
    (try simp only [List.getElem_toArray, List.getElem_cons_succ, List.getElem_cons_zero, Act.put, List.setIfInBounds_toArray, List.set_cons_zero, List.set_cons_succ])
    refine upto_take (i := 6) (v := .tuple #[.int .i64 (k : Int), .bool true]) rfl (by kernel_rfl) (by kernel_rfl) (by kernel_rfl) (by kernel_rfl) (fun _ _ _ h => h) (Or.inl ⟨by rfl, ?_⟩) (hSall _ (by repeat (first | with_reducible exact Below.refl _ _ | with_reducible assumption | with_reducible exact below_new _ _ | with_reducible apply below_drewN | with_reducible apply Below.drew | with_reducible refine below_set (Nat.le_refl _) ?_ _ | ((with_reducible refine below_set ?_ ?_ _); omega) | with_reducible refine Below.alloc ?_ (by first | omega | (simp; omega) | simp) _))) ?_
    · intro w' hSw
      (try dsimp only at hSw)
      go_simp
    (try simp only [List.getElem_toArray, List.getElem_cons_succ, List.getElem_cons_zero, Act.put, List.setIfInBounds_toArray, List.set_cons_zero, List.set_cons_succ])
    refine upto_take (i := 7) (v := .int .i64 (k : Int)) rfl (by kernel_rfl) (by kernel_rfl) (by kernel_rfl) (by kernel_rfl) (fun _ _ _ h => h) (Or.inl ⟨by rfl, ?_⟩) (hSall _ (by repeat (first | with_reducible exact Below.refl _ _ | with_reducible assumption | with_reducible exact below_new _ _ | with_reducible apply below_drewN | with_reducible apply Below.drew | with_reducible refine below_set (Nat.le_refl _) ?_ _ | ((with_reducible refine below_set ?_ ?_ _); omega) | with_reducible refine Below.alloc ?_ (by first | omega | (simp; omega) | simp) _))) ?_
    · intro w' hSw
      (try dsimp only at hSw)
      go_simp
    (try simp only [List.getElem_toArray, List.getElem_cons_succ, List.getElem_cons_zero, Act.put, List.setIfInBounds_toArray, List.set_cons_zero, List.set_cons_succ])
    refine upto_take (i := 8) (v := .bool true) rfl (by kernel_rfl) (by kernel_rfl) (by kernel_rfl) (by kernel_rfl) (fun _ _ _ h => h) (Or.inl ⟨by rfl, ?_⟩) (hSall _ (by repeat (first | with_reducible exact Below.refl _ _ | with_reducible assumption | with_reducible exact below_new _ _ | with_reducible apply below_drewN | with_reducible apply Below.drew | with_reducible refine below_set (Nat.le_refl _) ?_ _ | ((with_reducible refine below_set ?_ ?_ _); omega) | with_reducible refine Below.alloc ?_ (by first | omega | (simp; omega) | simp) _))) ?_
    · intro w' hSw
      (try dsimp only at hSw)
      go_simp
    (try simp only [List.getElem_toArray, List.getElem_cons_succ, List.getElem_cons_zero, Act.put, List.setIfInBounds_toArray, List.set_cons_zero, List.set_cons_succ])
    refine upto_step (i := 9) (by kernel_rfl) rfl (fun K hK => ?_)
    go_simp
    refine hK _ _ (fun _ => (hSall _ (by repeat (first | with_reducible exact Below.refl _ _ | with_reducible assumption | with_reducible exact below_new _ _ | with_reducible apply below_drewN | with_reducible apply Below.drew | with_reducible refine below_set (Nat.le_refl _) ?_ _ | ((with_reducible refine below_set ?_ ?_ _); omega) | with_reducible refine Below.alloc ?_ (by first | omega | (simp; omega) | simp) _)))) ?_
    clear hK K
    (try simp only [List.getElem_toArray, List.getElem_cons_succ, List.getElem_cons_zero, Act.put, List.setIfInBounds_toArray, List.set_cons_zero, List.set_cons_succ])
    refine upto_step (i := 10) (by kernel_rfl) rfl (fun K hK => ?_)
    go_simp
    refine hK _ _ (fun _ => (hSall _ (by repeat (first | with_reducible exact Below.refl _ _ | with_reducible assumption | with_reducible exact below_new _ _ | with_reducible apply below_drewN | with_reducible apply Below.drew | with_reducible refine below_set (Nat.le_refl _) ?_ _ | ((with_reducible refine below_set ?_ ?_ _); omega) | with_reducible refine Below.alloc ?_ (by first | omega | (simp; omega) | simp) _)))) ?_
    clear hK K
    (try simp only [List.getElem_toArray, List.getElem_cons_succ, List.getElem_cons_zero, Act.put, List.setIfInBounds_toArray, List.set_cons_zero, List.set_cons_succ])
    refine upto_done (by kernel_rfl) (NoPanic.normal ?_) _
    clear hSall
    go_wp2_with fail
    go_ret
    exact ⟨ret_int Hs.out.symm, (by repeat (first | with_reducible exact Below.refl _ _ | with_reducible assumption | with_reducible exact below_new _ _ | with_reducible apply below_drewN | with_reducible apply Below.drew | with_reducible refine below_set (Nat.le_refl _) ?_ _ | ((with_reducible refine below_set ?_ ?_ _); omega) | with_reducible refine Below.alloc ?_ (by first | omega | (simp; omega) | simp) _))⟩
def linePair (x : Option (Nat × Nat)) : Int × Int := match x with | some q => ((q.1 : Int), (q.2 : Int)) | none => (-1, -1)
theorem line_ret {a b : Int} {x : Option (Nat × Nat)} (h : linePair x = (a, b)) : Ending.returned (.tuple #[.int .i64 a, .int .i64 b]) = .returned (.tuple #[.int .i64 (linePair x).1, .int .i64 (linePair x).2]) := by rw [h]
end Go.Proofs.Ytackcfoplhhnbaa
