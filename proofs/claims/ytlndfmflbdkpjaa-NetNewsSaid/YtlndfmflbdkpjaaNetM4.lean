/- Walks of the methods of net.Net that look into its maps: Next, Reads, Line, Lead. Condition: the receiver is a net; ports and numbers are ints. -/
import Derived.Test.YtlndfmflbdkpjaaNetM1
set_option maxRecDepth 1000000
namespace Go.Proofs.Ytlndfmflbdkpjaa
open Go.ChangeShapes Go.WideShapes Go.ChangeAt Go.RowKit Go.Sort

set_option maxHeartbeats 400000 in
theorem nnext_any (w : World) (b : Nat) (p : Plan) (h : NetAt w b p) (x : Port) (hx : x.wf) :
    Calls Try.prog 41 #[.pointer (some ⟨b, 0, none⟩), x.val] w fun en w' => en = .returned (.tuple #[.agg #[.int .i64 ((nextOf p x).getD zeroPort).e, .int .i64 ((nextOf p x).getD zeroPort).n], .bool (nextOf p x).isSome]) ∧ Below w.heap.size w w' := by
  obtain ⟨v, bn, br, bl, bd, h⟩ := h
  unfold Port.val
  have hbW : Below w.heap.size w ((w.alloc (.cells #[.int .i64 x.e, .int .i64 x.n] 44)).alloc (.cells #[.int .i64 0, .int .i64 0] 44)) := below_new2 w _ _
  have H9 := Lib.hid h.blk
  have hlt := h.blk.lt
  have c9w := h.blk.cell9
  cases hn : nextOf p x with
  | none =>
    have Hs := Lib.hid hn
    have R1 := Lib.hid (show ∀ w', Below w.heap.size w w' → (Instr.lookup 87 (.map (some bn)) (.agg #[.int .i64 x.e, .int .i64 x.n]) false).run Try.prog w' = .ok (.agg #[.int .i64 0, .int .i64 0]) w' ∧ (Instr.lookup 87 (.map (some bn)) (.agg #[.int .i64 x.e, .int .i64 x.n]) true).run Try.prog w' = .ok (.tuple #[.agg #[.int .i64 0, .int .i64 0], .bool false]) w' from h.next.miss hn keyed_port Try.underlying87 zero_port (key_port hx))
    clear h hn hx
    go_enter Try.func41, Try.ntmps41
    go_wp2_with fail
    have c9 : ((w.alloc (.cells #[.int .i64 x.e, .int .i64 x.n] 44)).alloc (.cells #[.int .i64 0, .int .i64 0] 44)).cell? ⟨b, 9, none⟩ = some (.map (some bn)) := (hbW.cell (p := ⟨b, 9, none⟩) hlt).trans H9.out.cell9
    have k0 : ((w.alloc (.cells #[.int .i64 x.e, .int .i64 x.n] 44)).alloc (.cells #[.int .i64 0, .int .i64 0] 44)).cell? ⟨w.heap.size, 0, none⟩ = some (.int .i64 x.e) := by go_simp
    have k1 : ((w.alloc (.cells #[.int .i64 x.e, .int .i64 x.n] 44)).alloc (.cells #[.int .i64 0, .int .i64 0] 44)).cell? ⟨w.heap.size, 1, none⟩ = some (.int .i64 x.n) := by go_simp
    have hSall : ∀ w' : World, Below (((w.alloc (.cells #[.int .i64 x.e, .int .i64 x.n] 44)).alloc (.cells #[.int .i64 0, .int .i64 0] 44))).heap.size (((w.alloc (.cells #[.int .i64 x.e, .int .i64 x.n] 44)).alloc (.cells #[.int .i64 0, .int .i64 0] 44))) w' → (w'.cell? ⟨b, 9, none⟩ = some (.map (some bn)) ∧ w'.cell? ⟨w.heap.size, 0, none⟩ = some (.int .i64 x.e) ∧ w'.cell? ⟨w.heap.size, 1, none⟩ = some (.int .i64 x.n) ∧ (Instr.lookup 87 (.map (some bn)) (.agg #[.int .i64 x.e, .int .i64 x.n]) true).run Try.prog w' = .ok (.tuple #[.agg #[.int .i64 0, .int .i64 0], .bool false]) w') := fun w' hb => ⟨(hb.cell (p := ⟨b, 9, none⟩) (by simp; omega)).trans c9, (hb.cell (p := ⟨w.heap.size, 0, none⟩) (by simp <;> omega)).trans k0, (hb.cell (p := ⟨w.heap.size, 1, none⟩) (by simp <;> omega)).trans k1, (R1.out w' (hbW.trans (hb.mono hbW.size))).2⟩
    refine wp_region_noPanic ?_
    refine region_upto (S := fun w' => w'.cell? ⟨b, 9, none⟩ = some (.map (some bn)) ∧ w'.cell? ⟨w.heap.size, 0, none⟩ = some (.int .i64 x.e) ∧ w'.cell? ⟨w.heap.size, 1, none⟩ = some (.int .i64 x.n) ∧ (Instr.lookup 87 (.map (some bn)) (.agg #[.int .i64 x.e, .int .i64 x.n]) true).run Try.prog w' = .ok (.tuple #[.agg #[.int .i64 0, .int .i64 0], .bool false]) w') (n := 12) (by kernel_rfl) ?_
    refine upto_take (i := 0) (v := .pointer (some ⟨b, 0, none⟩)) rfl (by kernel_rfl) (by kernel_rfl) (by kernel_rfl) (by kernel_rfl) (fun _ _ _ h => h) (Or.inl ⟨by rfl, ?_⟩) (hSall _ (by repeat (first | with_reducible exact Below.refl _ _ | with_reducible assumption | with_reducible exact below_new _ _ | with_reducible apply below_drewN | with_reducible apply Below.drew | with_reducible refine below_set (Nat.le_refl _) ?_ _ | ((with_reducible refine below_set ?_ ?_ _); omega) | with_reducible refine Below.alloc ?_ (by first | omega | (simp; omega) | simp) _))) ?_
    · intro w' hSw
      (try dsimp only at hSw)
      go_simp
    (try simp only [List.getElem_toArray, List.getElem_cons_zero, Act.put, List.setIfInBounds_toArray, List.set_cons_zero, List.set_cons_succ])
    refine upto_take (i := 1) (v := .pointer (some ⟨b, 0, none⟩)) rfl (by kernel_rfl) (by kernel_rfl) (by kernel_rfl) (by kernel_rfl) (fun _ _ _ h => h) (Or.inl ⟨by rfl, ?_⟩) (hSall _ (by repeat (first | with_reducible exact Below.refl _ _ | with_reducible assumption | with_reducible exact below_new _ _ | with_reducible apply below_drewN | with_reducible apply Below.drew | with_reducible refine below_set (Nat.le_refl _) ?_ _ | ((with_reducible refine below_set ?_ ?_ _); omega) | with_reducible refine Below.alloc ?_ (by first | omega | (simp; omega) | simp) _))) ?_
    · intro w' hSw
      (try dsimp only at hSw)
      go_simp
    (try simp only [List.getElem_toArray, List.getElem_cons_succ, List.getElem_cons_zero, Act.put, List.setIfInBounds_toArray, List.set_cons_zero, List.set_cons_succ])
    refine upto_take (i := 2) (v := .pointer (some ⟨b, 9, none⟩)) rfl (by kernel_rfl) (by kernel_rfl) (by kernel_rfl) (by kernel_rfl) (fun _ _ _ h => h) (Or.inl ⟨by rfl, ?_⟩) (hSall _ (by repeat (first | with_reducible exact Below.refl _ _ | with_reducible assumption | with_reducible exact below_new _ _ | with_reducible apply below_drewN | with_reducible apply Below.drew | with_reducible refine below_set (Nat.le_refl _) ?_ _ | ((with_reducible refine below_set ?_ ?_ _); omega) | with_reducible refine Below.alloc ?_ (by first | omega | (simp; omega) | simp) _))) ?_
    · intro w' hSw
      (try dsimp only at hSw)
      go_simp
    (try simp only [List.getElem_toArray, List.getElem_cons_succ, List.getElem_cons_zero, Act.put, List.setIfInBounds_toArray, List.set_cons_zero, List.set_cons_succ])
    refine upto_take (i := 3) (v := .map (some bn)) rfl (by kernel_rfl) (by kernel_rfl) (by kernel_rfl) (by kernel_rfl) (fun _ _ _ h => h) (Or.inl ⟨by rfl, ?_⟩) (hSall _ (by repeat (first | with_reducible exact Below.refl _ _ | with_reducible assumption | with_reducible exact below_new _ _ | with_reducible apply below_drewN | with_reducible apply Below.drew | with_reducible refine below_set (Nat.le_refl _) ?_ _ | ((with_reducible refine below_set ?_ ?_ _); omega) | with_reducible refine Below.alloc ?_ (by first | omega | (simp; omega) | simp) _))) ?_
    · intro w' hSw
      (try dsimp only at hSw)
      go_simp
    (try simp only [List.getElem_toArray, List.getElem_cons_succ, List.getElem_cons_zero, Act.put, List.setIfInBounds_toArray, List.set_cons_zero, List.set_cons_succ])
    refine upto_take (i := 4) (v := .agg #[.int .i64 x.e, .int .i64 x.n]) rfl (by kernel_rfl) (by kernel_rfl) (by kernel_rfl) (by kernel_rfl) (fun _ _ _ h => h) (Or.inl ⟨by rfl, ?_⟩) (hSall _ (by repeat (first | with_reducible exact Below.refl _ _ | with_reducible assumption | with_reducible exact below_new _ _ | with_reducible apply below_drewN | with_reducible apply Below.drew | with_reducible refine below_set (Nat.le_refl _) ?_ _ | ((with_reducible refine below_set ?_ ?_ _); omega) | with_reducible refine Below.alloc ?_ (by first | omega | (simp; omega) | simp) _))) ?_
    · intro w' hSw
      (try dsimp only at hSw)
      go_simp
    (try simp only [List.getElem_toArray, List.getElem_cons_succ, List.getElem_cons_zero, Act.put, List.setIfInBounds_toArray, List.set_cons_zero, List.set_cons_succ])
    refine upto_take (i := 5) (v := .tuple #[.agg #[.int .i64 0, .int .i64 0], .bool false]) rfl (by kernel_rfl) (by kernel_rfl) (by kernel_rfl) (by kernel_rfl) (fun _ _ _ h => h) (Or.inl ⟨by rfl, ?_⟩) (hSall _ (by repeat (first | with_reducible exact Below.refl _ _ | with_reducible assumption | with_reducible exact below_new _ _ | with_reducible apply below_drewN | with_reducible apply Below.drew | with_reducible refine below_set (Nat.le_refl _) ?_ _ | ((with_reducible refine below_set ?_ ?_ _); omega) | with_reducible refine Below.alloc ?_ (by first | omega | (simp; omega) | simp) _))) ?_
    · intro w' hSw
      (try dsimp only at hSw)
      go_simp
    (try simp only [List.getElem_toArray, List.getElem_cons_succ, List.getElem_cons_zero, Act.put, List.setIfInBounds_toArray, List.set_cons_zero, List.set_cons_succ])
    refine upto_take (i := 6) (v := .tuple #[.agg #[.int .i64 0, .int .i64 0], .bool false]) rfl (by kernel_rfl) (by kernel_rfl) (by kernel_rfl) (by kernel_rfl) (fun _ _ _ h => h) (Or.inl ⟨by rfl, ?_⟩) (hSall _ (by repeat (first | with_reducible exact Below.refl _ _ | with_reducible assumption | with_reducible exact below_new _ _ | with_reducible apply below_drewN | with_reducible apply Below.drew | with_reducible refine below_set (Nat.le_refl _) ?_ _ | ((with_reducible refine below_set ?_ ?_ _); omega) | with_reducible refine Below.alloc ?_ (by first | omega | (simp; omega) | simp) _))) ?_
    · intro w' hSw
      (try dsimp only at hSw)
      go_simp
    (try simp only [List.getElem_toArray, List.getElem_cons_succ, List.getElem_cons_zero, Act.put, List.setIfInBounds_toArray, List.set_cons_zero, List.set_cons_succ])
    refine upto_take (i := 7) (v := .agg #[.int .i64 0, .int .i64 0]) rfl (by kernel_rfl) (by kernel_rfl) (by kernel_rfl) (by kernel_rfl) (fun _ _ _ h => h) (Or.inl ⟨by rfl, ?_⟩) (hSall _ (by repeat (first | with_reducible exact Below.refl _ _ | with_reducible assumption | with_reducible exact below_new _ _ | with_reducible apply below_drewN | with_reducible apply Below.drew | with_reducible refine below_set (Nat.le_refl _) ?_ _ | ((with_reducible refine below_set ?_ ?_ _); omega) | with_reducible refine Below.alloc ?_ (by first | omega | (simp; omega) | simp) _))) ?_
    · intro w' hSw
      (try dsimp only at hSw)
      go_simp
    (try simp only [List.getElem_toArray, List.getElem_cons_succ, List.getElem_cons_zero, Act.put, List.setIfInBounds_toArray, List.set_cons_zero, List.set_cons_succ])
    refine upto_take (i := 8) (v := .bool false) rfl (by kernel_rfl) (by kernel_rfl) (by kernel_rfl) (by kernel_rfl) (fun _ _ _ h => h) (Or.inl ⟨by rfl, ?_⟩) (hSall _ (by repeat (first | with_reducible exact Below.refl _ _ | with_reducible assumption | with_reducible exact below_new _ _ | with_reducible apply below_drewN | with_reducible apply Below.drew | with_reducible refine below_set (Nat.le_refl _) ?_ _ | ((with_reducible refine below_set ?_ ?_ _); omega) | with_reducible refine Below.alloc ?_ (by first | omega | (simp; omega) | simp) _))) ?_
    · intro w' hSw
      (try dsimp only at hSw)
      go_simp
    (try simp only [List.getElem_toArray, List.getElem_cons_succ, List.getElem_cons_zero, Act.put, List.setIfInBounds_toArray, List.set_cons_zero, List.set_cons_succ])
    refine upto_step (i := 9) (by kernel_rfl) rfl (fun K hK => ?_)
    go_simp
    refine hK _ _ (fun _ => (hSall _ (by repeat (first | with_reducible exact Below.refl _ _ | with_reducible assumption | with_reducible exact below_new _ _ | with_reducible apply below_drewN | with_reducible apply Below.drew | with_reducible refine below_set (Nat.le_refl _) ?_ _ | ((with_reducible refine below_set ?_ ?_ _); omega) | with_reducible refine Below.alloc ?_ (by first | omega | (simp; omega) | simp) _)))) ?_
    clear hK K
    (try simp only [List.getElem_toArray, List.getElem_cons_succ, List.getElem_cons_zero, Act.put, List.setIfInBounds_toArray, List.set_cons_zero, List.set_cons_succ])
    refine upto_step (i := 10) (by kernel_rfl) rfl (fun K hK => ?_)
    go_simp
    refine hK _ _ (fun _ => (hSall _ (by repeat (first | with_reducible exact Below.refl _ _ | with_reducible assumption | with_reducible exact below_new _ _ | with_reducible apply below_drewN | with_reducible apply Below.drew | with_reducible refine below_set (Nat.le_refl _) ?_ _ | ((with_reducible refine below_set ?_ ?_ _); omega) | with_reducible refine Below.alloc ?_ (by first | omega | (simp; omega) | simp) _)))) ?_
    clear hK K
    (try simp only [List.getElem_toArray, List.getElem_cons_succ, List.getElem_cons_zero, Act.put, List.setIfInBounds_toArray, List.set_cons_zero, List.set_cons_succ])
    refine upto_step (i := 11) (by kernel_rfl) rfl (fun K hK => ?_)
    go_simp
    refine hK _ _ (fun _ => (hSall _ (by repeat (first | with_reducible exact Below.refl _ _ | with_reducible assumption | with_reducible exact below_new _ _ | with_reducible apply below_drewN | with_reducible apply Below.drew | with_reducible refine below_set (Nat.le_refl _) ?_ _ | ((with_reducible refine below_set ?_ ?_ _); omega) | with_reducible refine Below.alloc ?_ (by first | omega | (simp; omega) | simp) _)))) ?_
    clear hK K
    (try simp only [List.getElem_toArray, List.getElem_cons_succ, List.getElem_cons_zero, Act.put, List.setIfInBounds_toArray, List.set_cons_zero, List.set_cons_succ])
    refine upto_done (by kernel_rfl) (NoPanic.normal ?_) _
    clear hSall
    go_wp2_with fail
    exact bodyPost_ret (v := .tuple #[.agg #[.int .i64 0, .int .i64 0], .bool false]) (by simp [results, Try.results41, go_sem]) rfl ⟨opt_none rfl, (by repeat (first | with_reducible exact Below.refl _ _ | with_reducible assumption | with_reducible exact below_new _ _ | with_reducible apply below_drewN | with_reducible apply Below.drew | with_reducible refine below_set (Nat.le_refl _) ?_ _ | ((with_reducible refine below_set ?_ ?_ _); omega) | with_reducible refine Below.alloc ?_ (by first | omega | (simp; omega) | simp) _))⟩
  | some y =>
    have Hs := Lib.hid hn
    have R1 := Lib.hid (show ∀ w', Below w.heap.size w w' → (Instr.lookup 87 (.map (some bn)) (.agg #[.int .i64 x.e, .int .i64 x.n]) false).run Try.prog w' = .ok (.agg #[.int .i64 y.e, .int .i64 y.n]) w' ∧ (Instr.lookup 87 (.map (some bn)) (.agg #[.int .i64 x.e, .int .i64 x.n]) true).run Try.prog w' = .ok (.tuple #[.agg #[.int .i64 y.e, .int .i64 y.n], .bool true]) w' from h.next.hit hn keyed_port Try.underlying87 zero_port (key_port hx))
    clear h hn hx
    go_enter Try.func41, Try.ntmps41
    go_wp2_with fail
    have c9 : ((w.alloc (.cells #[.int .i64 x.e, .int .i64 x.n] 44)).alloc (.cells #[.int .i64 0, .int .i64 0] 44)).cell? ⟨b, 9, none⟩ = some (.map (some bn)) := (hbW.cell (p := ⟨b, 9, none⟩) hlt).trans H9.out.cell9
    have k0 : ((w.alloc (.cells #[.int .i64 x.e, .int .i64 x.n] 44)).alloc (.cells #[.int .i64 0, .int .i64 0] 44)).cell? ⟨w.heap.size, 0, none⟩ = some (.int .i64 x.e) := by go_simp
    have k1 : ((w.alloc (.cells #[.int .i64 x.e, .int .i64 x.n] 44)).alloc (.cells #[.int .i64 0, .int .i64 0] 44)).cell? ⟨w.heap.size, 1, none⟩ = some (.int .i64 x.n) := by go_simp
    have hSall : ∀ w' : World, Below (((w.alloc (.cells #[.int .i64 x.e, .int .i64 x.n] 44)).alloc (.cells #[.int .i64 0, .int .i64 0] 44))).heap.size (((w.alloc (.cells #[.int .i64 x.e, .int .i64 x.n] 44)).alloc (.cells #[.int .i64 0, .int .i64 0] 44))) w' → (w'.cell? ⟨b, 9, none⟩ = some (.map (some bn)) ∧ w'.cell? ⟨w.heap.size, 0, none⟩ = some (.int .i64 x.e) ∧ w'.cell? ⟨w.heap.size, 1, none⟩ = some (.int .i64 x.n) ∧ (Instr.lookup 87 (.map (some bn)) (.agg #[.int .i64 x.e, .int .i64 x.n]) true).run Try.prog w' = .ok (.tuple #[.agg #[.int .i64 y.e, .int .i64 y.n], .bool true]) w') := fun w' hb => ⟨(hb.cell (p := ⟨b, 9, none⟩) (by simp; omega)).trans c9, (hb.cell (p := ⟨w.heap.size, 0, none⟩) (by simp <;> omega)).trans k0, (hb.cell (p := ⟨w.heap.size, 1, none⟩) (by simp <;> omega)).trans k1, (R1.out w' (hbW.trans (hb.mono hbW.size))).2⟩
    refine wp_region_noPanic ?_
    refine region_upto (S := fun w' => w'.cell? ⟨b, 9, none⟩ = some (.map (some bn)) ∧ w'.cell? ⟨w.heap.size, 0, none⟩ = some (.int .i64 x.e) ∧ w'.cell? ⟨w.heap.size, 1, none⟩ = some (.int .i64 x.n) ∧ (Instr.lookup 87 (.map (some bn)) (.agg #[.int .i64 x.e, .int .i64 x.n]) true).run Try.prog w' = .ok (.tuple #[.agg #[.int .i64 y.e, .int .i64 y.n], .bool true]) w') (n := 12) (by kernel_rfl) ?_
    refine upto_take (i := 0) (v := .pointer (some ⟨b, 0, none⟩)) rfl (by kernel_rfl) (by kernel_rfl) (by kernel_rfl) (by kernel_rfl) (fun _ _ _ h => h) (Or.inl ⟨by rfl, ?_⟩) (hSall _ (by repeat (first | with_reducible exact Below.refl _ _ | with_reducible assumption | with_reducible exact below_new _ _ | with_reducible apply below_drewN | with_reducible apply Below.drew | with_reducible refine below_set (Nat.le_refl _) ?_ _ | ((with_reducible refine below_set ?_ ?_ _); omega) | with_reducible refine Below.alloc ?_ (by first | omega | (simp; omega) | simp) _))) ?_
    · intro w' hSw
      (try dsimp only at hSw)
      go_simp
    (try simp only [List.getElem_toArray, List.getElem_cons_zero, Act.put, List.setIfInBounds_toArray, List.set_cons_zero, List.set_cons_succ])
    refine upto_take (i := 1) (v := .pointer (some ⟨b, 0, none⟩)) rfl (by kernel_rfl) (by kernel_rfl) (by kernel_rfl) (by kernel_rfl) (fun _ _ _ h => h) (Or.inl ⟨by rfl, ?_⟩) (hSall _ (by repeat (first | with_reducible exact Below.refl _ _ | with_reducible assumption | with_reducible exact below_new _ _ | with_reducible apply below_drewN | with_reducible apply Below.drew | with_reducible refine below_set (Nat.le_refl _) ?_ _ | ((with_reducible refine below_set ?_ ?_ _); omega) | with_reducible refine Below.alloc ?_ (by first | omega | (simp; omega) | simp) _))) ?_
    · intro w' hSw
      (try dsimp only at hSw)
      go_simp
    (try simp only [List.getElem_toArray, List.getElem_cons_succ, List.getElem_cons_zero, Act.put, List.setIfInBounds_toArray, List.set_cons_zero, List.set_cons_succ])
    refine upto_take (i := 2) (v := .pointer (some ⟨b, 9, none⟩)) rfl (by kernel_rfl) (by kernel_rfl) (by kernel_rfl) (by kernel_rfl) (fun _ _ _ h => h) (Or.inl ⟨by rfl, ?_⟩) (hSall _ (by repeat (first | with_reducible exact Below.refl _ _ | with_reducible assumption | with_reducible exact below_new _ _ | with_reducible apply below_drewN | with_reducible apply Below.drew | with_reducible refine below_set (Nat.le_refl _) ?_ _ | ((with_reducible refine below_set ?_ ?_ _); omega) | with_reducible refine Below.alloc ?_ (by first | omega | (simp; omega) | simp) _))) ?_
    · intro w' hSw
      (try dsimp only at hSw)
      go_simp
    (try simp only [List.getElem_toArray, List.getElem_cons_succ, List.getElem_cons_zero, Act.put, List.setIfInBounds_toArray, List.set_cons_zero, List.set_cons_succ])
    refine upto_take (i := 3) (v := .map (some bn)) rfl (by kernel_rfl) (by kernel_rfl) (by kernel_rfl) (by kernel_rfl) (fun _ _ _ h => h) (Or.inl ⟨by rfl, ?_⟩) (hSall _ (by repeat (first | with_reducible exact Below.refl _ _ | with_reducible assumption | with_reducible exact below_new _ _ | with_reducible apply below_drewN | with_reducible apply Below.drew | with_reducible refine below_set (Nat.le_refl _) ?_ _ | ((with_reducible refine below_set ?_ ?_ _); omega) | with_reducible refine Below.alloc ?_ (by first | omega | (simp; omega) | simp) _))) ?_
    · intro w' hSw
      (try dsimp only at hSw)
      go_simp
    (try simp only [List.getElem_toArray, List.getElem_cons_succ, List.getElem_cons_zero, Act.put, List.setIfInBounds_toArray, List.set_cons_zero, List.set_cons_succ])
    refine upto_take (i := 4) (v := .agg #[.int .i64 x.e, .int .i64 x.n]) rfl (by kernel_rfl) (by kernel_rfl) (by kernel_rfl) (by kernel_rfl) (fun _ _ _ h => h) (Or.inl ⟨by rfl, ?_⟩) (hSall _ (by repeat (first | with_reducible exact Below.refl _ _ | with_reducible assumption | with_reducible exact below_new _ _ | with_reducible apply below_drewN | with_reducible apply Below.drew | with_reducible refine below_set (Nat.le_refl _) ?_ _ | ((with_reducible refine below_set ?_ ?_ _); omega) | with_reducible refine Below.alloc ?_ (by first | omega | (simp; omega) | simp) _))) ?_
    · intro w' hSw
      (try dsimp only at hSw)
      go_simp
    (try simp only [List.getElem_toArray, List.getElem_cons_succ, List.getElem_cons_zero, Act.put, List.setIfInBounds_toArray, List.set_cons_zero, List.set_cons_succ])
    refine upto_take (i := 5) (v := .tuple #[.agg #[.int .i64 y.e, .int .i64 y.n], .bool true]) rfl (by kernel_rfl) (by kernel_rfl) (by kernel_rfl) (by kernel_rfl) (fun _ _ _ h => h) (Or.inl ⟨by rfl, ?_⟩) (hSall _ (by repeat (first | with_reducible exact Below.refl _ _ | with_reducible assumption | with_reducible exact below_new _ _ | with_reducible apply below_drewN | with_reducible apply Below.drew | with_reducible refine below_set (Nat.le_refl _) ?_ _ | ((with_reducible refine below_set ?_ ?_ _); omega) | with_reducible refine Below.alloc ?_ (by first | omega | (simp; omega) | simp) _))) ?_
    · intro w' hSw
      (try dsimp only at hSw)
      go_simp
    (try simp only [List.getElem_toArray, List.getElem_cons_succ, List.getElem_cons_zero, Act.put, List.setIfInBounds_toArray, List.set_cons_zero, List.set_cons_succ])
    refine upto_take (i := 6) (v := .tuple #[.agg #[.int .i64 y.e, .int .i64 y.n], .bool true]) rfl (by kernel_rfl) (by kernel_rfl) (by kernel_rfl) (by kernel_rfl) (fun _ _ _ h => h) (Or.inl ⟨by rfl, ?_⟩) (hSall _ (by repeat (first | with_reducible exact Below.refl _ _ | with_reducible assumption | with_reducible exact below_new _ _ | with_reducible apply below_drewN | with_reducible apply Below.drew | with_reducible refine below_set (Nat.le_refl _) ?_ _ | ((with_reducible refine below_set ?_ ?_ _); omega) | with_reducible refine Below.alloc ?_ (by first | omega | (simp; omega) | simp) _))) ?_
    · intro w' hSw
      (try dsimp only at hSw)
      go_simp
    (try simp only [List.getElem_toArray, List.getElem_cons_succ, List.getElem_cons_zero, Act.put, List.setIfInBounds_toArray, List.set_cons_zero, List.set_cons_succ])
    refine upto_take (i := 7) (v := .agg #[.int .i64 y.e, .int .i64 y.n]) rfl (by kernel_rfl) (by kernel_rfl) (by kernel_rfl) (by kernel_rfl) (fun _ _ _ h => h) (Or.inl ⟨by rfl, ?_⟩) (hSall _ (by repeat (first | with_reducible exact Below.refl _ _ | with_reducible assumption | with_reducible exact below_new _ _ | with_reducible apply below_drewN | with_reducible apply Below.drew | with_reducible refine below_set (Nat.le_refl _) ?_ _ | ((with_reducible refine below_set ?_ ?_ _); omega) | with_reducible refine Below.alloc ?_ (by first | omega | (simp; omega) | simp) _))) ?_
    · intro w' hSw
      (try dsimp only at hSw)
      go_simp
    (try simp only [List.getElem_toArray, List.getElem_cons_succ, List.getElem_cons_zero, Act.put, List.setIfInBounds_toArray, List.set_cons_zero, List.set_cons_succ])
    refine upto_take (i := 8) (v := .bool true) rfl (by kernel_rfl) (by kernel_rfl) (by kernel_rfl) (by kernel_rfl) (fun _ _ _ h => h) (Or.inl ⟨by rfl, ?_⟩) (hSall _ (by repeat (first | with_reducible exact Below.refl _ _ | with_reducible assumption | with_reducible exact below_new _ _ | with_reducible apply below_drewN | with_reducible apply Below.drew | with_reducible refine below_set (Nat.le_refl _) ?_ _ | ((with_reducible refine below_set ?_ ?_ _); omega) | with_reducible refine Below.alloc ?_ (by first | omega | (simp; omega) | simp) _))) ?_
    · intro w' hSw
      (try dsimp only at hSw)
      go_simp
    (try simp only [List.getElem_toArray, List.getElem_cons_succ, List.getElem_cons_zero, Act.put, List.setIfInBounds_toArray, List.set_cons_zero, List.set_cons_succ])
    refine upto_step (i := 9) (by kernel_rfl) rfl (fun K hK => ?_)
    go_simp
    refine hK _ _ (fun _ => (hSall _ (by repeat (first | with_reducible exact Below.refl _ _ | with_reducible assumption | with_reducible exact below_new _ _ | with_reducible apply below_drewN | with_reducible apply Below.drew | with_reducible refine below_set (Nat.le_refl _) ?_ _ | ((with_reducible refine below_set ?_ ?_ _); omega) | with_reducible refine Below.alloc ?_ (by first | omega | (simp; omega) | simp) _)))) ?_
    clear hK K
    (try simp only [List.getElem_toArray, List.getElem_cons_succ, List.getElem_cons_zero, Act.put, List.setIfInBounds_toArray, List.set_cons_zero, List.set_cons_succ])
    refine upto_step (i := 10) (by kernel_rfl) rfl (fun K hK => ?_)
    go_simp
    refine hK _ _ (fun _ => (hSall _ (by repeat (first | with_reducible exact Below.refl _ _ | with_reducible assumption | with_reducible exact below_new _ _ | with_reducible apply below_drewN | with_reducible apply Below.drew | with_reducible refine below_set (Nat.le_refl _) ?_ _ | ((with_reducible refine below_set ?_ ?_ _); omega) | with_reducible refine Below.alloc ?_ (by first | omega | (simp; omega) | simp) _)))) ?_
    clear hK K
    (try simp only [List.getElem_toArray, List.getElem_cons_succ, List.getElem_cons_zero, Act.put, List.setIfInBounds_toArray, List.set_cons_zero, List.set_cons_succ])
    refine upto_step (i := 11) (by kernel_rfl) rfl (fun K hK => ?_)
    go_simp
    refine hK _ _ (fun _ => (hSall _ (by repeat (first | with_reducible exact Below.refl _ _ | with_reducible assumption | with_reducible exact below_new _ _ | with_reducible apply below_drewN | with_reducible apply Below.drew | with_reducible refine below_set (Nat.le_refl _) ?_ _ | ((with_reducible refine below_set ?_ ?_ _); omega) | with_reducible refine Below.alloc ?_ (by first | omega | (simp; omega) | simp) _)))) ?_
    clear hK K
    (try simp only [List.getElem_toArray, List.getElem_cons_succ, List.getElem_cons_zero, Act.put, List.setIfInBounds_toArray, List.set_cons_zero, List.set_cons_succ])
    refine upto_done (by kernel_rfl) (NoPanic.normal ?_) _
    clear hSall
    go_wp2_with fail
    exact bodyPost_ret (v := .tuple #[.agg #[.int .i64 y.e, .int .i64 y.n], .bool true]) (by simp [results, Try.results41, go_sem]) rfl ⟨opt_some rfl, (by repeat (first | with_reducible exact Below.refl _ _ | with_reducible assumption | with_reducible exact below_new _ _ | with_reducible apply below_drewN | with_reducible apply Below.drew | with_reducible refine below_set (Nat.le_refl _) ?_ _ | ((with_reducible refine below_set ?_ ?_ _); omega) | with_reducible refine Below.alloc ?_ (by first | omega | (simp; omega) | simp) _))⟩
theorem reads_pos (l : List Sig) (x : Port) : ∀ i : Nat, readsGo i l x = match posP i (l.map (·.at_)) x with | some k => (k : Int) | none => -1 := by
  induction l with
  | nil => intro i; rfl
  | cons s r ih =>
    intro i
    unfold readsGo
    simp only [List.map_cons, posP]
    split
    · rfl
    · exact ih (i + 1)
theorem nreads_any (w : World) (b : Nat) (p : Plan) (h : NetAt w b p) (x : Port) (hx : x.wf) :
    Calls Try.prog 52 #[.pointer (some ⟨b, 0, none⟩), x.val] w fun en w' => en = .returned (.int .i64 (reads p x)) ∧ Below w.heap.size w w' := by
  obtain ⟨v, bn, br, bl, bd, h⟩ := h
  unfold Port.val
  have hbW : Below w.heap.size w (w.alloc (.cells #[.int .i64 x.e, .int .i64 x.n] 44)) := below_new w _
  have c10w := h.blk.cell10
  have hlt := h.blk.lt
  have Hr := Lib.hid (reads_pos p.sigs x 0)
  cases hn : posP 0 (p.sigs.map (·.at_)) x with
  | none =>
    have Hs := Lib.hid (show reads p x = -1 by have := Hr.out; rw [hn] at this; exact this)
    have R1 := Lib.hid (show ∀ w', Below w.heap.size w w' → (Instr.lookup 105 (.map (some br)) (.agg #[.int .i64 x.e, .int .i64 x.n]) false).run Try.prog w' = .ok (.int .i64 0) w' ∧ (Instr.lookup 105 (.map (some br)) (.agg #[.int .i64 x.e, .int .i64 x.n]) true).run Try.prog w' = .ok (.tuple #[.int .i64 0, .bool false]) w' from h.reads.miss hn keyed_port Try.underlying105 zero_int' (key_port hx))
    clear h hn hx
    go_enter Try.func52, Try.ntmps52
    go_wp2_with fail
    have c10 : (w.alloc (.cells #[.int .i64 x.e, .int .i64 x.n] 44)).cell? ⟨b, 10, none⟩ = some (.map (some br)) := (hbW.cell (p := ⟨b, 10, none⟩) hlt).trans c10w
    have k0 : (w.alloc (.cells #[.int .i64 x.e, .int .i64 x.n] 44)).cell? ⟨w.heap.size, 0, none⟩ = some (.int .i64 x.e) := by go_simp
    have k1 : (w.alloc (.cells #[.int .i64 x.e, .int .i64 x.n] 44)).cell? ⟨w.heap.size, 1, none⟩ = some (.int .i64 x.n) := by go_simp
    have hSall : ∀ w' : World, Below ((w.alloc (.cells #[.int .i64 x.e, .int .i64 x.n] 44))).heap.size ((w.alloc (.cells #[.int .i64 x.e, .int .i64 x.n] 44))) w' → (w'.cell? ⟨b, 10, none⟩ = some (.map (some br)) ∧ w'.cell? ⟨w.heap.size, 0, none⟩ = some (.int .i64 x.e) ∧ w'.cell? ⟨w.heap.size, 1, none⟩ = some (.int .i64 x.n) ∧ (Instr.lookup 105 (.map (some br)) (.agg #[.int .i64 x.e, .int .i64 x.n]) true).run Try.prog w' = .ok (.tuple #[.int .i64 0, .bool false]) w') := fun w' hb => ⟨(hb.cell (p := ⟨b, 10, none⟩) (by simp <;> omega)).trans c10, (hb.cell (p := ⟨w.heap.size, 0, none⟩) (by simp)).trans k0, (hb.cell (p := ⟨w.heap.size, 1, none⟩) (by simp)).trans k1, (R1.out w' (hbW.trans (hb.mono hbW.size))).2⟩
    refine wp_region_noPanic ?_
    refine region_upto (S := fun w' => w'.cell? ⟨b, 10, none⟩ = some (.map (some br)) ∧ w'.cell? ⟨w.heap.size, 0, none⟩ = some (.int .i64 x.e) ∧ w'.cell? ⟨w.heap.size, 1, none⟩ = some (.int .i64 x.n) ∧ (Instr.lookup 105 (.map (some br)) (.agg #[.int .i64 x.e, .int .i64 x.n]) true).run Try.prog w' = .ok (.tuple #[.int .i64 0, .bool false]) w') (n := 11) (by kernel_rfl) ?_
    refine upto_take (i := 0) (v := .pointer (some ⟨b, 0, none⟩)) rfl (by kernel_rfl) (by kernel_rfl) (by kernel_rfl) (by kernel_rfl) (fun _ _ _ h => h) (Or.inl ⟨by rfl, ?_⟩) (hSall _ (by repeat (first | with_reducible exact Below.refl _ _ | with_reducible assumption | with_reducible exact below_new _ _ | with_reducible apply below_drewN | with_reducible apply Below.drew | with_reducible refine below_set (Nat.le_refl _) ?_ _ | ((with_reducible refine below_set ?_ ?_ _); omega) | with_reducible refine Below.alloc ?_ (by first | omega | (simp; omega) | simp) _))) ?_
    · intro w' hSw
      (try dsimp only at hSw)
      go_simp
    (try simp only [List.getElem_toArray, List.getElem_cons_zero, Act.put, List.setIfInBounds_toArray, List.set_cons_zero, List.set_cons_succ])
    refine upto_take (i := 1) (v := .pointer (some ⟨b, 0, none⟩)) rfl (by kernel_rfl) (by kernel_rfl) (by kernel_rfl) (by kernel_rfl) (fun _ _ _ h => h) (Or.inl ⟨by rfl, ?_⟩) (hSall _ (by repeat (first | with_reducible exact Below.refl _ _ | with_reducible assumption | with_reducible exact below_new _ _ | with_reducible apply below_drewN | with_reducible apply Below.drew | with_reducible refine below_set (Nat.le_refl _) ?_ _ | ((with_reducible refine below_set ?_ ?_ _); omega) | with_reducible refine Below.alloc ?_ (by first | omega | (simp; omega) | simp) _))) ?_
    · intro w' hSw
      (try dsimp only at hSw)
      go_simp
    (try simp only [List.getElem_toArray, List.getElem_cons_succ, List.getElem_cons_zero, Act.put, List.setIfInBounds_toArray, List.set_cons_zero, List.set_cons_succ])
    refine upto_take (i := 2) (v := .pointer (some ⟨b, 10, none⟩)) rfl (by kernel_rfl) (by kernel_rfl) (by kernel_rfl) (by kernel_rfl) (fun _ _ _ h => h) (Or.inl ⟨by rfl, ?_⟩) (hSall _ (by repeat (first | with_reducible exact Below.refl _ _ | with_reducible assumption | with_reducible exact below_new _ _ | with_reducible apply below_drewN | with_reducible apply Below.drew | with_reducible refine below_set (Nat.le_refl _) ?_ _ | ((with_reducible refine below_set ?_ ?_ _); omega) | with_reducible refine Below.alloc ?_ (by first | omega | (simp; omega) | simp) _))) ?_
    · intro w' hSw
      (try dsimp only at hSw)
      go_simp
    (try simp only [List.getElem_toArray, List.getElem_cons_succ, List.getElem_cons_zero, Act.put, List.setIfInBounds_toArray, List.set_cons_zero, List.set_cons_succ])
    refine upto_take (i := 3) (v := .map (some br)) rfl (by kernel_rfl) (by kernel_rfl) (by kernel_rfl) (by kernel_rfl) (fun _ _ _ h => h) (Or.inl ⟨by rfl, ?_⟩) (hSall _ (by repeat (first | with_reducible exact Below.refl _ _ | with_reducible assumption | with_reducible exact below_new _ _ | with_reducible apply below_drewN | with_reducible apply Below.drew | with_reducible refine below_set (Nat.le_refl _) ?_ _ | ((with_reducible refine below_set ?_ ?_ _); omega) | with_reducible refine Below.alloc ?_ (by first | omega | (simp; omega) | simp) _))) ?_
    · intro w' hSw
      (try dsimp only at hSw)
      go_simp
    (try simp only [List.getElem_toArray, List.getElem_cons_succ, List.getElem_cons_zero, Act.put, List.setIfInBounds_toArray, List.set_cons_zero, List.set_cons_succ])
    refine upto_take (i := 4) (v := .agg #[.int .i64 x.e, .int .i64 x.n]) rfl (by kernel_rfl) (by kernel_rfl) (by kernel_rfl) (by kernel_rfl) (fun _ _ _ h => h) (Or.inl ⟨by rfl, ?_⟩) (hSall _ (by repeat (first | with_reducible exact Below.refl _ _ | with_reducible assumption | with_reducible exact below_new _ _ | with_reducible apply below_drewN | with_reducible apply Below.drew | with_reducible refine below_set (Nat.le_refl _) ?_ _ | ((with_reducible refine below_set ?_ ?_ _); omega) | with_reducible refine Below.alloc ?_ (by first | omega | (simp; omega) | simp) _))) ?_
    · intro w' hSw
      (try dsimp only at hSw)
      go_simp
    (try simp only [List.getElem_toArray, List.getElem_cons_succ, List.getElem_cons_zero, Act.put, List.setIfInBounds_toArray, List.set_cons_zero, List.set_cons_succ])
    refine upto_take (i := 5) (v := .tuple #[.int .i64 0, .bool false]) rfl (by kernel_rfl) (by kernel_rfl) (by kernel_rfl) (by kernel_rfl) (fun _ _ _ h => h) (Or.inl ⟨by rfl, ?_⟩) (hSall _ (by repeat (first | with_reducible exact Below.refl _ _ | with_reducible assumption | with_reducible exact below_new _ _ | with_reducible apply below_drewN | with_reducible apply Below.drew | with_reducible refine below_set (Nat.le_refl _) ?_ _ | ((with_reducible refine below_set ?_ ?_ _); omega) | with_reducible refine Below.alloc ?_ (by first | omega | (simp; omega) | simp) _))) ?_
    · intro w' hSw
      (try dsimp only at hSw)
      go_simp
    (try simp only [List.getElem_toArray, List.getElem_cons_succ, List.getElem_cons_zero, Act.put, List.setIfInBounds_toArray, List.set_cons_zero, List.set_cons_succ])
    refine upto_take (i := 6) (v := .tuple #[.int .i64 0, .bool false]) rfl (by kernel_rfl) (by kernel_rfl) (by kernel_rfl) (by kernel_rfl) (fun _ _ _ h => h) (Or.inl ⟨by rfl, ?_⟩) (hSall _ (by repeat (first | with_reducible exact Below.refl _ _ | with_reducible assumption | with_reducible exact below_new _ _ | with_reducible apply below_drewN | with_reducible apply Below.drew | with_reducible refine below_set (Nat.le_refl _) ?_ _ | ((with_reducible refine below_set ?_ ?_ _); omega) | with_reducible refine Below.alloc ?_ (by first | omega | (simp; omega) | simp) _))) ?_
    · intro w' hSw
      (try dsimp only at hSw)
      go_simp
    (try simp only [List.getElem_toArray, List.getElem_cons_succ, List.getElem_cons_zero, Act.put, List.setIfInBounds_toArray, List.set_cons_zero, List.set_cons_succ])
    refine upto_take (i := 7) (v := .int .i64 0) rfl (by kernel_rfl) (by kernel_rfl) (by kernel_rfl) (by kernel_rfl) (fun _ _ _ h => h) (Or.inl ⟨by rfl, ?_⟩) (hSall _ (by repeat (first | with_reducible exact Below.refl _ _ | with_reducible assumption | with_reducible exact below_new _ _ | with_reducible apply below_drewN | with_reducible apply Below.drew | with_reducible refine below_set (Nat.le_refl _) ?_ _ | ((with_reducible refine below_set ?_ ?_ _); omega) | with_reducible refine Below.alloc ?_ (by first | omega | (simp; omega) | simp) _))) ?_
    · intro w' hSw
      (try dsimp only at hSw)
      go_simp
    (try simp only [List.getElem_toArray, List.getElem_cons_succ, List.getElem_cons_zero, Act.put, List.setIfInBounds_toArray, List.set_cons_zero, List.set_cons_succ])
    refine upto_take (i := 8) (v := .bool false) rfl (by kernel_rfl) (by kernel_rfl) (by kernel_rfl) (by kernel_rfl) (fun _ _ _ h => h) (Or.inl ⟨by rfl, ?_⟩) (hSall _ (by repeat (first | with_reducible exact Below.refl _ _ | with_reducible assumption | with_reducible exact below_new _ _ | with_reducible apply below_drewN | with_reducible apply Below.drew | with_reducible refine below_set (Nat.le_refl _) ?_ _ | ((with_reducible refine below_set ?_ ?_ _); omega) | with_reducible refine Below.alloc ?_ (by first | omega | (simp; omega) | simp) _))) ?_
    · intro w' hSw
      (try dsimp only at hSw)
      go_simp
    (try simp only [List.getElem_toArray, List.getElem_cons_succ, List.getElem_cons_zero, Act.put, List.setIfInBounds_toArray, List.set_cons_zero, List.set_cons_succ])
    refine upto_step (i := 9) (by kernel_rfl) rfl (fun K hK => ?_)
    go_simp
    refine hK _ _ (fun _ => (hSall _ (by repeat (first | with_reducible exact Below.refl _ _ | with_reducible assumption | with_reducible exact below_new _ _ | with_reducible apply below_drewN | with_reducible apply Below.drew | with_reducible refine below_set (Nat.le_refl _) ?_ _ | ((with_reducible refine below_set ?_ ?_ _); omega) | with_reducible refine Below.alloc ?_ (by first | omega | (simp; omega) | simp) _)))) ?_
    clear hK K
    (try simp only [List.getElem_toArray, List.getElem_cons_succ, List.getElem_cons_zero, Act.put, List.setIfInBounds_toArray, List.set_cons_zero, List.set_cons_succ])
    refine upto_step (i := 10) (by kernel_rfl) rfl (fun K hK => ?_)
    go_simp
    refine hK _ _ (fun _ => (hSall _ (by repeat (first | with_reducible exact Below.refl _ _ | with_reducible assumption | with_reducible exact below_new _ _ | with_reducible apply below_drewN | with_reducible apply Below.drew | with_reducible refine below_set (Nat.le_refl _) ?_ _ | ((with_reducible refine below_set ?_ ?_ _); omega) | with_reducible refine Below.alloc ?_ (by first | omega | (simp; omega) | simp) _)))) ?_
    clear hK K
    (try simp only [List.getElem_toArray, List.getElem_cons_succ, List.getElem_cons_zero, Act.put, List.setIfInBounds_toArray, List.set_cons_zero, List.set_cons_succ])
    refine upto_done (by kernel_rfl) (NoPanic.normal ?_) _
    clear hSall
    go_wp2_with fail
    go_ret
    exact ⟨ret_int Hs.out.symm, (by repeat (first | with_reducible exact Below.refl _ _ | with_reducible assumption | with_reducible exact below_new _ _ | with_reducible apply below_drewN | with_reducible apply Below.drew | with_reducible refine below_set (Nat.le_refl _) ?_ _ | ((with_reducible refine below_set ?_ ?_ _); omega) | with_reducible refine Below.alloc ?_ (by first | omega | (simp; omega) | simp) _))⟩
  | some k =>
    have Hs := Lib.hid (show reads p x = (k : Int) by have := Hr.out; rw [hn] at this; exact this)
    have R1 := Lib.hid (show ∀ w', Below w.heap.size w w' → (Instr.lookup 105 (.map (some br)) (.agg #[.int .i64 x.e, .int .i64 x.n]) false).run Try.prog w' = .ok (.int .i64 (k : Int)) w' ∧ (Instr.lookup 105 (.map (some br)) (.agg #[.int .i64 x.e, .int .i64 x.n]) true).run Try.prog w' = .ok (.tuple #[.int .i64 (k : Int), .bool true]) w' from h.reads.hit hn keyed_port Try.underlying105 zero_int' (key_port hx))
    clear h hn hx
    go_enter Try.func52, Try.ntmps52
    go_wp2_with fail
    have c10 : (w.alloc (.cells #[.int .i64 x.e, .int .i64 x.n] 44)).cell? ⟨b, 10, none⟩ = some (.map (some br)) := (hbW.cell (p := ⟨b, 10, none⟩) hlt).trans c10w
    have k0 : (w.alloc (.cells #[.int .i64 x.e, .int .i64 x.n] 44)).cell? ⟨w.heap.size, 0, none⟩ = some (.int .i64 x.e) := by go_simp
    have k1 : (w.alloc (.cells #[.int .i64 x.e, .int .i64 x.n] 44)).cell? ⟨w.heap.size, 1, none⟩ = some (.int .i64 x.n) := by go_simp
    have hSall : ∀ w' : World, Below ((w.alloc (.cells #[.int .i64 x.e, .int .i64 x.n] 44))).heap.size ((w.alloc (.cells #[.int .i64 x.e, .int .i64 x.n] 44))) w' → (w'.cell? ⟨b, 10, none⟩ = some (.map (some br)) ∧ w'.cell? ⟨w.heap.size, 0, none⟩ = some (.int .i64 x.e) ∧ w'.cell? ⟨w.heap.size, 1, none⟩ = some (.int .i64 x.n) ∧ (Instr.lookup 105 (.map (some br)) (.agg #[.int .i64 x.e, .int .i64 x.n]) true).run Try.prog w' = .ok (.tuple #[.int .i64 (k : Int), .bool true]) w') := fun w' hb => ⟨(hb.cell (p := ⟨b, 10, none⟩) (by simp <;> omega)).trans c10, (hb.cell (p := ⟨w.heap.size, 0, none⟩) (by simp)).trans k0, (hb.cell (p := ⟨w.heap.size, 1, none⟩) (by simp)).trans k1, (R1.out w' (hbW.trans (hb.mono hbW.size))).2⟩
    refine wp_region_noPanic ?_
    refine region_upto (S := fun w' => w'.cell? ⟨b, 10, none⟩ = some (.map (some br)) ∧ w'.cell? ⟨w.heap.size, 0, none⟩ = some (.int .i64 x.e) ∧ w'.cell? ⟨w.heap.size, 1, none⟩ = some (.int .i64 x.n) ∧ (Instr.lookup 105 (.map (some br)) (.agg #[.int .i64 x.e, .int .i64 x.n]) true).run Try.prog w' = .ok (.tuple #[.int .i64 (k : Int), .bool true]) w') (n := 11) (by kernel_rfl) ?_
    refine upto_take (i := 0) (v := .pointer (some ⟨b, 0, none⟩)) rfl (by kernel_rfl) (by kernel_rfl) (by kernel_rfl) (by kernel_rfl) (fun _ _ _ h => h) (Or.inl ⟨by rfl, ?_⟩) (hSall _ (by repeat (first | with_reducible exact Below.refl _ _ | with_reducible assumption | with_reducible exact below_new _ _ | with_reducible apply below_drewN | with_reducible apply Below.drew | with_reducible refine below_set (Nat.le_refl _) ?_ _ | ((with_reducible refine below_set ?_ ?_ _); omega) | with_reducible refine Below.alloc ?_ (by first | omega | (simp; omega) | simp) _))) ?_
    · intro w' hSw
      (try dsimp only at hSw)
      go_simp
    (try simp only [List.getElem_toArray, List.getElem_cons_zero, Act.put, List.setIfInBounds_toArray, List.set_cons_zero, List.set_cons_succ])
    refine upto_take (i := 1) (v := .pointer (some ⟨b, 0, none⟩)) rfl (by kernel_rfl) (by kernel_rfl) (by kernel_rfl) (by kernel_rfl) (fun _ _ _ h => h) (Or.inl ⟨by rfl, ?_⟩) (hSall _ (by repeat (first | with_reducible exact Below.refl _ _ | with_reducible assumption | with_reducible exact below_new _ _ | with_reducible apply below_drewN | with_reducible apply Below.drew | with_reducible refine below_set (Nat.le_refl _) ?_ _ | ((with_reducible refine below_set ?_ ?_ _); omega) | with_reducible refine Below.alloc ?_ (by first | omega | (simp; omega) | simp) _))) ?_
    · intro w' hSw
      (try dsimp only at hSw)
      go_simp
    (try simp only [List.getElem_toArray, List.getElem_cons_succ, List.getElem_cons_zero, Act.put, List.setIfInBounds_toArray, List.set_cons_zero, List.set_cons_succ])
    refine upto_take (i := 2) (v := .pointer (some ⟨b, 10, none⟩)) rfl (by kernel_rfl) (by kernel_rfl) (by kernel_rfl) (by kernel_rfl) (fun _ _ _ h => h) (Or.inl ⟨by rfl, ?_⟩) (hSall _ (by repeat (first | with_reducible exact Below.refl _ _ | with_reducible assumption | with_reducible exact below_new _ _ | with_reducible apply below_drewN | with_reducible apply Below.drew | with_reducible refine below_set (Nat.le_refl _) ?_ _ | ((with_reducible refine below_set ?_ ?_ _); omega) | with_reducible refine Below.alloc ?_ (by first | omega | (simp; omega) | simp) _))) ?_
    · intro w' hSw
      (try dsimp only at hSw)
      go_simp
    (try simp only [List.getElem_toArray, List.getElem_cons_succ, List.getElem_cons_zero, Act.put, List.setIfInBounds_toArray, List.set_cons_zero, List.set_cons_succ])
    refine upto_take (i := 3) (v := .map (some br)) rfl (by kernel_rfl) (by kernel_rfl) (by kernel_rfl) (by kernel_rfl) (fun _ _ _ h => h) (Or.inl ⟨by rfl, ?_⟩) (hSall _ (by repeat (first | with_reducible exact Below.refl _ _ | with_reducible assumption | with_reducible exact below_new _ _ | with_reducible apply below_drewN | with_reducible apply Below.drew | with_reducible refine below_set (Nat.le_refl _) ?_ _ | ((with_reducible refine below_set ?_ ?_ _); omega) | with_reducible refine Below.alloc ?_ (by first | omega | (simp; omega) | simp) _))) ?_
    · intro w' hSw
      (try dsimp only at hSw)
      go_simp
    (try simp only [List.getElem_toArray, List.getElem_cons_succ, List.getElem_cons_zero, Act.put, List.setIfInBounds_toArray, List.set_cons_zero, List.set_cons_succ])
    refine upto_take (i := 4) (v := .agg #[.int .i64 x.e, .int .i64 x.n]) rfl (by kernel_rfl) (by kernel_rfl) (by kernel_rfl) (by kernel_rfl) (fun _ _ _ h => h) (Or.inl ⟨by rfl, ?_⟩) (hSall _ (by repeat (first | with_reducible exact Below.refl _ _ | with_reducible assumption | with_reducible exact below_new _ _ | with_reducible apply below_drewN | with_reducible apply Below.drew | with_reducible refine below_set (Nat.le_refl _) ?_ _ | ((with_reducible refine below_set ?_ ?_ _); omega) | with_reducible refine Below.alloc ?_ (by first | omega | (simp; omega) | simp) _))) ?_
    · intro w' hSw
      (try dsimp only at hSw)
      go_simp
    (try simp only [List.getElem_toArray, List.getElem_cons_succ, List.getElem_cons_zero, Act.put, List.setIfInBounds_toArray, List.set_cons_zero, List.set_cons_succ])
    refine upto_take (i := 5) (v := .tuple #[.int .i64 (k : Int), .bool true]) rfl (by kernel_rfl) (by kernel_rfl) (by kernel_rfl) (by kernel_rfl) (fun _ _ _ h => h) (Or.inl ⟨by rfl, ?_⟩) (hSall _ (by repeat (first | with_reducible exact Below.refl _ _ | with_reducible assumption | with_reducible exact below_new _ _ | with_reducible apply below_drewN | with_reducible apply Below.drew | with_reducible refine below_set (Nat.le_refl _) ?_ _ | ((with_reducible refine below_set ?_ ?_ _); omega) | with_reducible refine Below.alloc ?_ (by first | omega | (simp; omega) | simp) _))) ?_
    · intro w' hSw
      (try dsimp only at hSw)
      go_simp
    (try simp only [List.getElem_toArray, List.getElem_cons_succ, List.getElem_cons_zero, Act.put, List.setIfInBounds_toArray, List.set_cons_zero, List.set_cons_succ])
    refine upto_take (i := 6) (v := .tuple #[.int .i64 (k : Int), .bool true]) rfl (by kernel_rfl) (by kernel_rfl) (by kernel_rfl) (by kernel_rfl) (fun _ _ _ h => h) (Or.inl ⟨by rfl, ?_⟩) (hSall _ (by repeat (first | with_reducible exact Below.refl _ _ | with_reducible assumption | with_reducible exact below_new _ _ | with_reducible apply below_drewN | with_reducible apply Below.drew | with_reducible refine below_set (Nat.le_refl _) ?_ _ | ((with_reducible refine below_set ?_ ?_ _); omega) | with_reducible refine Below.alloc ?_ (by first | omega | (simp; omega) | simp) _))) ?_
    · intro w' hSw
      (try dsimp only at hSw)
      go_simp
    (try simp only [List.getElem_toArray, List.getElem_cons_succ, List.getElem_cons_zero, Act.put, List.setIfInBounds_toArray, List.set_cons_zero, List.set_cons_succ])
    refine upto_take (i := 7) (v := .int .i64 (k : Int)) rfl (by kernel_rfl) (by kernel_rfl) (by kernel_rfl) (by kernel_rfl) (fun _ _ _ h => h) (Or.inl ⟨by rfl, ?_⟩) (hSall _ (by repeat (first | with_reducible exact Below.refl _ _ | with_reducible assumption | with_reducible exact below_new _ _ | with_reducible apply below_drewN | with_reducible apply Below.drew | with_reducible refine below_set (Nat.le_refl _) ?_ _ | ((with_reducible refine below_set ?_ ?_ _); omega) | with_reducible refine Below.alloc ?_ (by first | omega | (simp; omega) | simp) _))) ?_
    · intro w' hSw
      (try dsimp only at hSw)
      go_simp
    (try simp only [List.getElem_toArray, List.getElem_cons_succ, List.getElem_cons_zero, Act.put, List.setIfInBounds_toArray, List.set_cons_zero, List.set_cons_succ])
    refine upto_take (i := 8) (v := .bool true) rfl (by kernel_rfl) (by kernel_rfl) (by kernel_rfl) (by kernel_rfl) (fun _ _ _ h => h) (Or.inl ⟨by rfl, ?_⟩) (hSall _ (by repeat (first | with_reducible exact Below.refl _ _ | with_reducible assumption | with_reducible exact below_new _ _ | with_reducible apply below_drewN | with_reducible apply Below.drew | with_reducible refine below_set (Nat.le_refl _) ?_ _ | ((with_reducible refine below_set ?_ ?_ _); omega) | with_reducible refine Below.alloc ?_ (by first | omega | (simp; omega) | simp) _))) ?_
    · intro w' hSw
      (try dsimp only at hSw)
      go_simp
    (try simp only [List.getElem_toArray, List.getElem_cons_succ, List.getElem_cons_zero, Act.put, List.setIfInBounds_toArray, List.set_cons_zero, List.set_cons_succ])
    refine upto_step (i := 9) (by kernel_rfl) rfl (fun K hK => ?_)
    go_simp
    refine hK _ _ (fun _ => (hSall _ (by repeat (first | with_reducible exact Below.refl _ _ | with_reducible assumption | with_reducible exact below_new _ _ | with_reducible apply below_drewN | with_reducible apply Below.drew | with_reducible refine below_set (Nat.le_refl _) ?_ _ | ((with_reducible refine below_set ?_ ?_ _); omega) | with_reducible refine Below.alloc ?_ (by first | omega | (simp; omega) | simp) _)))) ?_
    clear hK K
    (try simp only [List.getElem_toArray, List.getElem_cons_succ, List.getElem_cons_zero, Act.put, List.setIfInBounds_toArray, List.set_cons_zero, List.set_cons_succ])
    refine upto_step (i := 10) (by kernel_rfl) rfl (fun K hK => ?_)
    go_simp
    refine hK _ _ (fun _ => (hSall _ (by repeat (first | with_reducible exact Below.refl _ _ | with_reducible assumption | with_reducible exact below_new _ _ | with_reducible apply below_drewN | with_reducible apply Below.drew | with_reducible refine below_set (Nat.le_refl _) ?_ _ | ((with_reducible refine below_set ?_ ?_ _); omega) | with_reducible refine Below.alloc ?_ (by first | omega | (simp; omega) | simp) _)))) ?_
    clear hK K
    (try simp only [List.getElem_toArray, List.getElem_cons_succ, List.getElem_cons_zero, Act.put, List.setIfInBounds_toArray, List.set_cons_zero, List.set_cons_succ])
    refine upto_done (by kernel_rfl) (NoPanic.normal ?_) _
    clear hSall
    go_wp2_with fail
    go_ret
    exact ⟨ret_int Hs.out.symm, (by repeat (first | with_reducible exact Below.refl _ _ | with_reducible assumption | with_reducible exact below_new _ _ | with_reducible apply below_drewN | with_reducible apply Below.drew | with_reducible refine below_set (Nat.le_refl _) ?_ _ | ((with_reducible refine below_set ?_ ?_ _); omega) | with_reducible refine Below.alloc ?_ (by first | omega | (simp; omega) | simp) _))⟩
def linePair (x : Option (Nat × Nat)) : Int × Int := match x with | some q => ((q.1 : Int), (q.2 : Int)) | none => (-1, -1)
theorem line_ret {a b : Int} {x : Option (Nat × Nat)} (h : linePair x = (a, b)) : Ending.returned (.tuple #[.int .i64 a, .int .i64 b]) = .returned (.tuple #[.int .i64 (linePair x).1, .int .i64 (linePair x).2]) := by rw [h]
theorem nline_any (w : World) (b : Nat) (p : Plan) (h : NetAt w b p) (e : Int) (he : inI e) :
    Calls Try.prog 55 #[.pointer (some ⟨b, 0, none⟩), .int .i64 e] w fun en w' => en = .returned (.tuple #[.int .i64 (linePair (lineOf p e)).1, .int .i64 (linePair (lineOf p e)).2]) ∧ Below w.heap.size w w' := by
  obtain ⟨v, bn, br, bl, bd, h⟩ := h
  have c11 := h.blk.cell11
  have hlt := h.blk.lt
  cases hn : lineOf p e with
  | none =>
    have Hs := Lib.hid (show linePair (lineOf p e) = (-1, -1) by rw [hn]; rfl)
    rw [← hn]
    have R1 := (h.line.miss hn keyed_int Try.underlying106 zero_pair (key_int he) _ (Below.refl _ _)).2
    change (Instr.lookup 106 (.map (some bl)) (.int .i64 e) true).run Try.prog _ = .ok (.tuple #[.agg #[.int .i64 0, .int .i64 0], .bool false]) _ at R1
    clear h hn he
    go_enter Try.func55, Try.ntmps55
    go_wp2_with fail
    go_ret2
    exact ⟨line_ret Hs.out, (by repeat (first | with_reducible exact Below.refl _ _ | with_reducible assumption | with_reducible exact below_new _ _ | with_reducible apply below_drewN | with_reducible apply Below.drew | with_reducible refine below_set (Nat.le_refl _) ?_ _ | ((with_reducible refine below_set ?_ ?_ _); omega) | with_reducible refine Below.alloc ?_ (by first | omega | (simp; omega) | simp) _))⟩
  | some q =>
    have Hs := Lib.hid (show linePair (lineOf p e) = ((q.1 : Int), (q.2 : Int)) by rw [hn]; rfl)
    rw [← hn]
    have R1 := (h.line.hit hn keyed_int Try.underlying106 zero_pair (key_int he) _ (Below.refl _ _)).2
    change (Instr.lookup 106 (.map (some bl)) (.int .i64 e) true).run Try.prog _ = .ok (.tuple #[.agg #[.int .i64 (q.1 : Int), .int .i64 (q.2 : Int)], .bool true]) _ at R1
    clear h hn he
    go_enter Try.func55, Try.ntmps55
    go_wp2_with fail
    go_quiet (fail)
    go_wp2_with fail
    go_ret2
    exact ⟨line_ret Hs.out, (by repeat (first | with_reducible exact Below.refl _ _ | with_reducible assumption | with_reducible exact below_new _ _ | with_reducible apply below_drewN | with_reducible apply Below.drew | with_reducible refine below_set (Nat.le_refl _) ?_ _ | ((with_reducible refine below_set ?_ ?_ _); omega) | with_reducible refine Below.alloc ?_ (by first | omega | (simp; omega) | simp) _))⟩
theorem nlead_any (w : World) (b : Nat) (p : Plan) (h : NetAt w b p) (e i : Int) (he : inI e) :
    Calls Try.prog 54 #[.pointer (some ⟨b, 0, none⟩), .int .i64 e, .int .i64 i] w fun en w' => en = .returned (.int .i64 (lead p e i)) ∧ w = w' := by
  obtain ⟨v, bn, br, bl, bd, h⟩ := h
  have c12 := h.blk.cell12
  have hlt := h.blk.lt
  cases hn : leadIn (nextOf p) p.lines e with
  | none =>
    have Hs := Lib.hid (show lead p e i = 0 by unfold lead; rw [hn])
    have R1 := (h.lead.miss hn keyed_int Try.underlying107 zero_int' (key_int he) _ (Below.refl _ _)).2
    change (Instr.lookup 107 (.map (some bd)) (.int .i64 e) true).run Try.prog _ = .ok (.tuple #[.int .i64 0, .bool false]) _ at R1
    clear h hn he
    go_enter Try.func54, Try.ntmps54
    go_wp2_with fail
    go_ret
    exact ⟨ret_int Hs.out.symm, rfl⟩
  | some u =>
    have Hs := Lib.hid (show lead p e i = if i < 0 ∨ 1 < i then 0 else if u = i then 1 else 2 by unfold lead; rw [hn])
    have R1 := (h.lead.hit hn keyed_int Try.underlying107 zero_int' (key_int he) _ (Below.refl _ _)).2
    change (Instr.lookup 107 (.map (some bd)) (.int .i64 e) true).run Try.prog _ = .ok (.tuple #[.int .i64 u, .bool true]) _ at R1
    clear h hn he
    by_cases i0 : i < 0
    · go_enter Try.func54, Try.ntmps54
      go_wp2_with fail
      go_ret
      exact ⟨ret_int (by rw [Hs.out, if_pos (.inl i0)]), rfl⟩
    · have i1 : 0 ≤ i := by omega
      by_cases i2 : 1 < i
      · go_enter Try.func54, Try.ntmps54
        go_wp2_with fail
        go_ret
        exact ⟨ret_int (by rw [Hs.out, if_pos (.inr i2)]), rfl⟩
      · have i3 : i ≤ 1 := by omega
        by_cases i4 : u = i
        · have q1 : (u == i) = true := by simpa using i4
          have Hs2 := Lib.hid (show lead p e i = 1 by rw [Hs.out, if_neg (by omega), if_pos i4])
          clear i4
          go_enter Try.func54, Try.ntmps54
          go_wp2_with fail
          go_ret
          exact ⟨ret_int Hs2.out.symm, rfl⟩
        · have q1 : (u == i) = false := by simpa using i4
          have Hs2 := Lib.hid (show lead p e i = 2 by rw [Hs.out, if_neg (by omega), if_neg i4])
          clear i4
          go_enter Try.func54, Try.ntmps54
          go_wp2_with fail
          go_ret
          exact ⟨ret_int Hs2.out.symm, rfl⟩
end Go.Proofs.Ytlndfmflbdkpjaa
