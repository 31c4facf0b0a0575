/- Walks of slices.Clone at the rows of a plan. No condition beyond the row that is read. -/
import Derived.Test.YtlndfmflbdkpjaaTurned
import Derived.WalkLawsBesides
set_option maxRecDepth 1000000
namespace Go.Proofs.Ytlndfmflbdkpjaa
open Go.ChangeShapes Go.WideShapes Go.ChangeAt Go.RowKit Go.Sort

theorem eql_nil {P : Program} (w : World) (t e : TypeId) (a : Option Addr) (l c : Nat) (h : P.underlying t = some (.slice e)) : (binOp .eql t (.slice a l c) (.slice none 0 0)).run P w = .ok (.bool a.isNone) w := by
  simp [binOp, run_equal_slice_nil w t e a l c h]
theorem encInt_one2 : ∀ x, ∀ u ∈ encInt x, u.oneCell' = true := by
  intro x u hu; simp only [encInt, List.mem_cons, List.not_mem_nil, or_false] at hu; subst hu; rfl
/-- a row that is the call's own, as a clone gives it -/
def ClonePost {α : Type} (sz : Nat) (enc : α → List Value) (T : TypeId) (w : World) (n : Nat) (xs : List α) (e : Ending) (w' : World) : Prop :=
  ∃ a c, e = .returned (.slice a n c) ∧ w'.ownsRow w.heap.size T sz (.slice a n c) n (xs.flatMap enc) ∧ (a = none → n = 0 ∧ c = 0) ∧ Below w.heap.size w w'
theorem row_nil_none {α : Type} {sz : Nat} {enc : α → List Value} {w : World} {n : Nat} {xs : List α} (h : Row sz enc w none n xs) : n = 0 ∧ xs = [] := by
  have hl := h.len
  cases xs with
  | nil => exact ⟨by simpa using hl.symm, rfl⟩
  | cons y r => obtain ⟨b, off, ha, _⟩ := h.at_ 0 y (by simp); cases ha
theorem clone_elem (w : World) (a : Option Addr) (n c : Nat) (xs : List Elem) (h : Row 3 encElem w a n xs) (hc : a = none → c = 0) (hn : n ≤ 1000) :
    Calls Try.prog 96 #[.slice a n c] w (ClonePost 3 encElem 42 w n xs) := by
  cases a with
  | none =>
    have hc0 := hc rfl
    obtain ⟨hn0, hx0⟩ := row_nil_none h
    subst hc0 hn0 hx0
    have hq := fun w' => eql_nil (P := Try.prog) w' 27 42 none 0 0 Try.underlying27
    go_enter Try.func96, Try.ntmps96
    go_wp2_with fail
    go_ret
    exact ⟨none, 0, rfl, World.ownsRow_nil _ _ _ _, fun _ => ⟨rfl, rfl⟩, Below.refl _ _⟩
  | some ad =>
    have hrow := Lib.hid (h.below (below_new w (.cells #[] 42)))
    have hlit := Lib.hid (lit_ownJ (w := w) (e := 42) (sz := 3) (Nat.le_refl _) rfl)
    clear h hc
    have hq := fun w' => eql_nil (P := Try.prog) w' 27 42 (some ad) n c Try.underlying27
    go_enter Try.func96, Try.ntmps96
    go_wp2_with (at_builtin; refine wpList_app0 (enc := encElem) (fun _ => rfl) encElem_one _ rfl _ _ 27 rfl w.heap.size 42 (.agg #[.string ByteArray.empty, .int .i64 0, .int .i64 0]) 32 Try.underlying27 info_elem rfl (by decide) w.heap.size rfl hlit.out (some ad) n c xs rfl hrow.out (by intro h; cases h) (by simp only [maxLen]; omega) (by omega) (by simp) ?_)
    intro v w4 hown hgrow
    obtain ⟨a2, c2, rfl, _, hz⟩ := own_slice hown
    have Own := Lib.hid hown
    have Hb := Lib.hid (show Below w.heap.size w w4 from (below_new w (.cells #[] 42)).grown hgrow (by simp) (by intro k hk; cases hk; exact Nat.le_refl _))
    have Hz := Lib.hid hz
    clear hown hgrow hrow hlit hz
    go_wp2_with fail
    go_ret
    exact ⟨a2, c2, rfl, Own.out, Hz.out, Hb.out⟩
theorem clone_join (w : World) (a : Option Addr) (n c : Nat) (xs : List Join) (h : Row 4 encJoin w a n xs) (hc : a = none → c = 0) (hn : n ≤ 1000) :
    Calls Try.prog 97 #[.slice a n c] w (ClonePost 4 encJoin 48 w n xs) := by
  cases a with
  | none =>
    have hc0 := hc rfl
    obtain ⟨hn0, hx0⟩ := row_nil_none h
    subst hc0 hn0 hx0
    have hq := fun w' => eql_nil (P := Try.prog) w' 28 48 none 0 0 Try.underlying28
    go_enter Try.func97, Try.ntmps97
    go_wp2_with fail
    go_ret
    exact ⟨none, 0, rfl, World.ownsRow_nil _ _ _ _, fun _ => ⟨rfl, rfl⟩, Below.refl _ _⟩
  | some ad =>
    have hrow := Lib.hid (h.below (below_new w (.cells #[] 48)))
    have hlit := Lib.hid (lit_ownJ (w := w) (e := 48) (sz := 4) (Nat.le_refl _) rfl)
    clear h hc
    have hq := fun w' => eql_nil (P := Try.prog) w' 28 48 (some ad) n c Try.underlying28
    go_enter Try.func97, Try.ntmps97
    go_wp2_with (at_builtin; refine wpList_app0 (enc := encJoin) (fun _ => rfl) encJoin_one _ rfl _ _ 28 rfl w.heap.size 48 (.agg #[.int .i64 0, .int .i64 0, .int .i64 0, .int .i64 0]) 32 Try.underlying28 info_join rfl (by decide) w.heap.size rfl hlit.out (some ad) n c xs rfl hrow.out (by intro h; cases h) (by simp only [maxLen]; omega) (by omega) (by simp) ?_)
    intro v w4 hown hgrow
    obtain ⟨a2, c2, rfl, _, hz⟩ := own_slice hown
    have Own := Lib.hid hown
    have Hb := Lib.hid (show Below w.heap.size w w4 from (below_new w (.cells #[] 48)).grown hgrow (by simp) (by intro k hk; cases hk; exact Nat.le_refl _))
    have Hz := Lib.hid hz
    clear hown hgrow hrow hlit hz
    go_wp2_with fail
    go_ret
    exact ⟨a2, c2, rfl, Own.out, Hz.out, Hb.out⟩
theorem clone_sig (w : World) (a : Option Addr) (n c : Nat) (xs : List Sig) (h : Row 4 encSig w a n xs) (hc : a = none → c = 0) (hn : n ≤ 1000) :
    Calls Try.prog 98 #[.slice a n c] w (ClonePost 4 encSig 46 w n xs) := by
  cases a with
  | none =>
    have hc0 := hc rfl
    obtain ⟨hn0, hx0⟩ := row_nil_none h
    subst hc0 hn0 hx0
    have hq := fun w' => eql_nil (P := Try.prog) w' 29 46 none 0 0 Try.underlying29
    go_enter Try.func98, Try.ntmps98
    go_wp2_with fail
    go_ret
    exact ⟨none, 0, rfl, World.ownsRow_nil _ _ _ _, fun _ => ⟨rfl, rfl⟩, Below.refl _ _⟩
  | some ad =>
    have hrow := Lib.hid (h.below (below_new w (.cells #[] 46)))
    have hlit := Lib.hid (lit_ownJ (w := w) (e := 46) (sz := 4) (Nat.le_refl _) rfl)
    clear h hc
    have hq := fun w' => eql_nil (P := Try.prog) w' 29 46 (some ad) n c Try.underlying29
    go_enter Try.func98, Try.ntmps98
    go_wp2_with (at_builtin; refine wpList_app0 (enc := encSig) (fun _ => rfl) encSig_one _ rfl _ _ 29 rfl w.heap.size 46 (.agg #[.string ByteArray.empty, .int .i64 0, .int .i64 0, .bool false]) 40 Try.underlying29 info_sig rfl (by decide) w.heap.size rfl hlit.out (some ad) n c xs rfl hrow.out (by intro h; cases h) (by simp only [maxLen]; omega) (by omega) (by simp) ?_)
    intro v w4 hown hgrow
    obtain ⟨a2, c2, rfl, _, hz⟩ := own_slice hown
    have Own := Lib.hid hown
    have Hb := Lib.hid (show Below w.heap.size w w4 from (below_new w (.cells #[] 46)).grown hgrow (by simp) (by intro k hk; cases hk; exact Nat.le_refl _))
    have Hz := Lib.hid hz
    clear hown hgrow hrow hlit hz
    go_wp2_with fail
    go_ret
    exact ⟨a2, c2, rfl, Own.out, Hz.out, Hb.out⟩
theorem clone_line (w : World) (a : Option Addr) (n c : Nat) (xs : List LineV) (h : Row 2 encLine w a n xs) (hc : a = none → c = 0) (hn : n ≤ 1000) :
    Calls Try.prog 99 #[.slice a n c] w (ClonePost 2 encLine 79 w n xs) := by
  cases a with
  | none =>
    have hc0 := hc rfl
    obtain ⟨hn0, hx0⟩ := row_nil_none h
    subst hc0 hn0 hx0
    have hq := fun w' => eql_nil (P := Try.prog) w' 30 79 none 0 0 Try.underlying30
    go_enter Try.func99, Try.ntmps99
    go_wp2_with fail
    go_ret
    exact ⟨none, 0, rfl, World.ownsRow_nil _ _ _ _, fun _ => ⟨rfl, rfl⟩, Below.refl _ _⟩
  | some ad =>
    have hrow := Lib.hid (h.below (below_new w (.cells #[] 79)))
    have hlit := Lib.hid (lit_ownJ (w := w) (e := 79) (sz := 2) (Nat.le_refl _) rfl)
    clear h hc
    have hq := fun w' => eql_nil (P := Try.prog) w' 30 79 (some ad) n c Try.underlying30
    go_enter Try.func99, Try.ntmps99
    go_wp2_with (at_builtin; refine wpList_app0 (enc := encLine) (fun _ => rfl) encLine_one _ rfl _ _ 30 rfl w.heap.size 79 (.agg #[.string ByteArray.empty, .slice none 0 0]) 40 Try.underlying30 info_line rfl (by decide) w.heap.size rfl hlit.out (some ad) n c xs rfl hrow.out (by intro h; cases h) (by simp only [maxLen]; omega) (by omega) (by simp) ?_)
    intro v w4 hown hgrow
    obtain ⟨a2, c2, rfl, _, hz⟩ := own_slice hown
    have Own := Lib.hid hown
    have Hb := Lib.hid (show Below w.heap.size w w4 from (below_new w (.cells #[] 79)).grown hgrow (by simp) (by intro k hk; cases hk; exact Nat.le_refl _))
    have Hz := Lib.hid hz
    clear hown hgrow hrow hlit hz
    go_wp2_with fail
    go_ret
    exact ⟨a2, c2, rfl, Own.out, Hz.out, Hb.out⟩
theorem clone_int (w : World) (a : Option Addr) (n c : Nat) (xs : List Int) (h : Row 1 encInt w a n xs) (hc : a = none → c = 0) (hn : n ≤ 1000) :
    Calls Try.prog 100 #[.slice a n c] w (ClonePost 1 encInt 3 w n xs) := by
  cases a with
  | none =>
    have hc0 := hc rfl
    obtain ⟨hn0, hx0⟩ := row_nil_none h
    subst hc0 hn0 hx0
    have hq := fun w' => eql_nil (P := Try.prog) w' 77 3 none 0 0 Try.underlying77
    go_enter Try.func100, Try.ntmps100
    go_wp2_with fail
    go_ret
    exact ⟨none, 0, rfl, World.ownsRow_nil _ _ _ _, fun _ => ⟨rfl, rfl⟩, Below.refl _ _⟩
  | some ad =>
    have hrow := Lib.hid (h.below (below_new w (.cells #[] 3)))
    have hlit := Lib.hid (lit_ownJ (w := w) (e := 3) (sz := 1) (Nat.le_refl _) rfl)
    clear h hc
    have hq := fun w' => eql_nil (P := Try.prog) w' 77 3 (some ad) n c Try.underlying77
    go_enter Try.func100, Try.ntmps100
    go_wp2_with (at_builtin; refine wpList_app0 (enc := encInt) (fun _ => rfl) encInt_one2 _ rfl _ _ 77 rfl w.heap.size 3 (.int .i64 0) 8 Try.underlying77 info_int2 rfl (by decide) w.heap.size rfl hlit.out (some ad) n c xs rfl hrow.out (by intro h; cases h) (by simp only [maxLen]; omega) (by omega) (by simp) ?_)
    intro v w4 hown hgrow
    obtain ⟨a2, c2, rfl, _, hz⟩ := own_slice hown
    have Own := Lib.hid hown
    have Hb := Lib.hid (show Below w.heap.size w w4 from (below_new w (.cells #[] 3)).grown hgrow (by simp) (by intro k hk; cases hk; exact Nat.le_refl _))
    have Hz := Lib.hid hz
    clear hown hgrow hrow hlit hz
    go_wp2_with fail
    go_ret
    exact ⟨a2, c2, rfl, Own.out, Hz.out, Hb.out⟩
end Go.Proofs.Ytlndfmflbdkpjaa
