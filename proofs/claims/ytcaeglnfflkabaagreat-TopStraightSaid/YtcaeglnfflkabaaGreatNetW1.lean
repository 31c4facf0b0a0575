/- Walks of slices.Clone at the rows of a plan. No condition beyond the row that is read. -/
import Derived.Test.YtcaeglnfflkabaaGreatCopy
import Derived.WalkLawsBesides
import Derived.Test.YtcaeglnfflkabaaGreatUptoMap
set_option maxRecDepth 1000000
namespace Go.Proofs.YtcaeglnfflkabaaGreat
open Go.ChangeShapes Go.WideShapes Go.ChangeAt Go.RowKit Go.Sort

theorem eql_nil {P : Program} (w : World) (t e : TypeId) (a : Option Addr) (l c : Nat) (h : P.underlying t = some (.slice e)) : (binOp .eql t (.slice a l c) (.slice none 0 0)).run P w = .ok (.bool a.isNone) w := by
 simp [binOp, run_equal_slice_nil w t e a l c h]
theorem encInt_one2 : ∀ x, ∀ u ∈ encInt x, u.oneCell' = true := by
 intro x u hu; simp only [encInt, List.mem_cons, List.not_mem_nil, or_false] at hu; subst hu; rfl
/-- a row that is the call's own, as a clone gives it -/
def ClonePost {α : Type} (sz : Nat) (enc : α → List Value) (T : TypeId) (w : World) (n : Nat) (xs : List α) (e : Ending) (w' : World) : Prop :=
 ∃ a c, e = .returned (.slice a n c) ∧ w'.ownsRow w.heap.size T sz (.slice a n c) n (xs.flatMap enc) ∧ (a = none → n = 0 ∧ c = 0) ∧ Below w.heap.size w w'
theorem row_nil_none {α : Type} {sz : Nat} {enc : α → List Value} {w : World} {n : Nat} {xs : List α} (h : Row sz enc w none n xs) : n = 0 ∧ xs = [] := by
 have hl := h.len
 cases xs with
 | nil => exact ⟨by simpa using hl.symm, rfl⟩
 | cons y r => obtain ⟨b, off, ha, _⟩ := h.at_ 0 y (by simp); cases ha
theorem clone_elem (w : World) (a : Option Addr) (n c : Nat) (xs : List Elem) (h : Row 3 encElem w a n xs) (hc : a = none → c = 0) (hn : n ≤ 1000) :
  Calls Tryz.prog 55 #[.slice a n c] w (ClonePost 3 encElem 65 w n xs) := by
 cases a with
 | none =>
  have hc0 := hc rfl
  obtain ⟨hn0, hx0⟩ := row_nil_none h
  subst hc0 hn0 hx0
  have hq := fun w' => eql_nil (P := Tryz.prog) w' 22 65 none 0 0 Tryz.underlying22
  go_enter Tryz.func55, Tryz.ntmps55
  go_wp2_with fail
  go_ret
  exact ⟨none, 0, rfl, World.ownsRow_nil _ _ _ _, fun _ => ⟨rfl, rfl⟩, Below.refl _ _⟩
 | some ad =>
  have hrow := Lib.hid (h.below (below_new w (.cells #[] 65)))
  have hlit := Lib.hid (lit_ownJ (w := w) (e := 65) (sz := 3) (Nat.le_refl _) rfl)
  clear h hc
  have hq := fun w' => eql_nil (P := Tryz.prog) w' 22 65 (some ad) n c Tryz.underlying22
  go_enter Tryz.func55, Tryz.ntmps55
  go_wp2_with (at_builtin; refine wpList_app0 (enc := encElem) (fun _ => rfl) encElem_one _ rfl _ _ 22 rfl w.heap.size 65 (.agg #[.string ByteArray.empty, .int .i64 0, .int .i64 0]) 32 Tryz.underlying22 info_elem rfl (by decide) w.heap.size rfl hlit.out (some ad) n c xs rfl hrow.out (by intro h; cases h) (by simp only [maxLen]; omega) (by omega) (by simp) ?_)
  intro v w4 hown hgrow
  obtain ⟨a2, c2, rfl, _, hz⟩ := own_slice hown
  have Own := Lib.hid hown
  have Hb := Lib.hid (show Below w.heap.size w w4 from (below_new w (.cells #[] 65)).grown hgrow (by simp) (by intro k hk; cases hk; exact Nat.le_refl _))
  have Hz := Lib.hid hz
  clear hown hgrow hrow hlit hz
  go_wp2_with fail
  go_ret
  exact ⟨a2, c2, rfl, Own.out, Hz.out, Hb.out⟩
theorem clone_join (w : World) (a : Option Addr) (n c : Nat) (xs : List Join) (h : Row 4 encJoin w a n xs) (hc : a = none → c = 0) (hn : n ≤ 1000) :
  Calls Tryz.prog 56 #[.slice a n c] w (ClonePost 4 encJoin 94 w n xs) := by
 cases a with
 | none =>
  have hc0 := hc rfl
  obtain ⟨hn0, hx0⟩ := row_nil_none h
  subst hc0 hn0 hx0
  have hq := fun w' => eql_nil (P := Tryz.prog) w' 23 94 none 0 0 Tryz.underlying23
  go_enter Tryz.func56, Tryz.ntmps56
  go_wp2_with fail
  go_ret
  exact ⟨none, 0, rfl, World.ownsRow_nil _ _ _ _, fun _ => ⟨rfl, rfl⟩, Below.refl _ _⟩
 | some ad =>
  have hrow := Lib.hid (h.below (below_new w (.cells #[] 94)))
  have hlit := Lib.hid (lit_ownJ (w := w) (e := 94) (sz := 4) (Nat.le_refl _) rfl)
  clear h hc
  have hq := fun w' => eql_nil (P := Tryz.prog) w' 23 94 (some ad) n c Tryz.underlying23
  go_enter Tryz.func56, Tryz.ntmps56
  go_wp2_with (at_builtin; refine wpList_app0 (enc := encJoin) (fun _ => rfl) encJoin_one _ rfl _ _ 23 rfl w.heap.size 94 (.agg #[.int .i64 0, .int .i64 0, .int .i64 0, .int .i64 0]) 32 Tryz.underlying23 info_join rfl (by decide) w.heap.size rfl hlit.out (some ad) n c xs rfl hrow.out (by intro h; cases h) (by simp only [maxLen]; omega) (by omega) (by simp) ?_)
  intro v w4 hown hgrow
  obtain ⟨a2, c2, rfl, _, hz⟩ := own_slice hown
  have Own := Lib.hid hown
  have Hb := Lib.hid (show Below w.heap.size w w4 from (below_new w (.cells #[] 94)).grown hgrow (by simp) (by intro k hk; cases hk; exact Nat.le_refl _))
  have Hz := Lib.hid hz
  clear hown hgrow hrow hlit hz
  go_wp2_with fail
  go_ret
  exact ⟨a2, c2, rfl, Own.out, Hz.out, Hb.out⟩
theorem clone_sig (w : World) (a : Option Addr) (n c : Nat) (xs : List Sig) (h : Row 4 encSig w a n xs) (hc : a = none → c = 0) (hn : n ≤ 1000) :
  Calls Tryz.prog 57 #[.slice a n c] w (ClonePost 4 encSig 45 w n xs) := by
 cases a with
 | none =>
  have hc0 := hc rfl
  obtain ⟨hn0, hx0⟩ := row_nil_none h
  subst hc0 hn0 hx0
  have hq := fun w' => eql_nil (P := Tryz.prog) w' 24 45 none 0 0 Tryz.underlying24
  go_enter Tryz.func57, Tryz.ntmps57
  go_wp2_with fail
  go_ret
  exact ⟨none, 0, rfl, World.ownsRow_nil _ _ _ _, fun _ => ⟨rfl, rfl⟩, Below.refl _ _⟩
 | some ad =>
  have hrow := Lib.hid (h.below (below_new w (.cells #[] 45)))
  have hlit := Lib.hid (lit_ownJ (w := w) (e := 45) (sz := 4) (Nat.le_refl _) rfl)
  clear h hc
  have hq := fun w' => eql_nil (P := Tryz.prog) w' 24 45 (some ad) n c Tryz.underlying24
  go_enter Tryz.func57, Tryz.ntmps57
  go_wp2_with (at_builtin; refine wpList_app0 (enc := encSig) (fun _ => rfl) encSig_one _ rfl _ _ 24 rfl w.heap.size 45 (.agg #[.string ByteArray.empty, .int .i64 0, .int .i64 0, .bool false]) 40 Tryz.underlying24 info_sig rfl (by decide) w.heap.size rfl hlit.out (some ad) n c xs rfl hrow.out (by intro h; cases h) (by simp only [maxLen]; omega) (by omega) (by simp) ?_)
  intro v w4 hown hgrow
  obtain ⟨a2, c2, rfl, _, hz⟩ := own_slice hown
  have Own := Lib.hid hown
  have Hb := Lib.hid (show Below w.heap.size w w4 from (below_new w (.cells #[] 45)).grown hgrow (by simp) (by intro k hk; cases hk; exact Nat.le_refl _))
  have Hz := Lib.hid hz
  clear hown hgrow hrow hlit hz
  go_wp2_with fail
  go_ret
  exact ⟨a2, c2, rfl, Own.out, Hz.out, Hb.out⟩
theorem clone_line (w : World) (a : Option Addr) (n c : Nat) (xs : List LineV) (h : Row 2 encLine w a n xs) (hc : a = none → c = 0) (hn : n ≤ 1000) :
  Calls Tryz.prog 58 #[.slice a n c] w (ClonePost 2 encLine 96 w n xs) := by
 cases a with
 | none =>
  have hc0 := hc rfl
  obtain ⟨hn0, hx0⟩ := row_nil_none h
  subst hc0 hn0 hx0
  have hq := fun w' => eql_nil (P := Tryz.prog) w' 25 96 none 0 0 Tryz.underlying25
  go_enter Tryz.func58, Tryz.ntmps58
  go_wp2_with fail
  go_ret
  exact ⟨none, 0, rfl, World.ownsRow_nil _ _ _ _, fun _ => ⟨rfl, rfl⟩, Below.refl _ _⟩
 | some ad =>
  have hrow := Lib.hid (h.below (below_new w (.cells #[] 96)))
  have hlit := Lib.hid (lit_ownJ (w := w) (e := 96) (sz := 2) (Nat.le_refl _) rfl)
  clear h hc
  have hq := fun w' => eql_nil (P := Tryz.prog) w' 25 96 (some ad) n c Tryz.underlying25
  go_enter Tryz.func58, Tryz.ntmps58
  go_wp2_with (at_builtin; refine wpList_app0 (enc := encLine) (fun _ => rfl) encLine_one _ rfl _ _ 25 rfl w.heap.size 96 (.agg #[.string ByteArray.empty, .slice none 0 0]) 40 Tryz.underlying25 info_line rfl (by decide) w.heap.size rfl hlit.out (some ad) n c xs rfl hrow.out (by intro h; cases h) (by simp only [maxLen]; omega) (by omega) (by simp) ?_)
  intro v w4 hown hgrow
  obtain ⟨a2, c2, rfl, _, hz⟩ := own_slice hown
  have Own := Lib.hid hown
  have Hb := Lib.hid (show Below w.heap.size w w4 from (below_new w (.cells #[] 96)).grown hgrow (by simp) (by intro k hk; cases hk; exact Nat.le_refl _))
  have Hz := Lib.hid hz
  clear hown hgrow hrow hlit hz
  go_wp2_with fail
  go_ret
  exact ⟨a2, c2, rfl, Own.out, Hz.out, Hb.out⟩
theorem clone_int (w : World) (a : Option Addr) (n c : Nat) (xs : List Int) (h : Row 1 encInt w a n xs) (hc : a = none → c = 0) (hn : n ≤ 1000) :
  Calls Tryz.prog 59 #[.slice a n c] w (ClonePost 1 encInt 3 w n xs) := by
 cases a with
 | none =>
  have hc0 := hc rfl
  obtain ⟨hn0, hx0⟩ := row_nil_none h
  subst hc0 hn0 hx0
  have hq := fun w' => eql_nil (P := Tryz.prog) w' 48 3 none 0 0 Tryz.underlying48
  go_enter Tryz.func59, Tryz.ntmps59
  go_wp2_with fail
  go_ret
  exact ⟨none, 0, rfl, World.ownsRow_nil _ _ _ _, fun _ => ⟨rfl, rfl⟩, Below.refl _ _⟩
 | some ad =>
  have hrow := Lib.hid (h.below (below_new w (.cells #[] 3)))
  have hlit := Lib.hid (lit_ownJ (w := w) (e := 3) (sz := 1) (Nat.le_refl _) rfl)
  clear h hc
  have hq := fun w' => eql_nil (P := Tryz.prog) w' 48 3 (some ad) n c Tryz.underlying48
  go_enter Tryz.func59, Tryz.ntmps59
  go_wp2_with (at_builtin; refine wpList_app0 (enc := encInt) (fun _ => rfl) encInt_one2 _ rfl _ _ 48 rfl w.heap.size 3 (.int .i64 0) 8 Tryz.underlying48 info_int2 rfl (by decide) w.heap.size rfl hlit.out (some ad) n c xs rfl hrow.out (by intro h; cases h) (by simp only [maxLen]; omega) (by omega) (by simp) ?_)
  intro v w4 hown hgrow
  obtain ⟨a2, c2, rfl, _, hz⟩ := own_slice hown
  have Own := Lib.hid hown
  have Hb := Lib.hid (show Below w.heap.size w w4 from (below_new w (.cells #[] 3)).grown hgrow (by simp) (by intro k hk; cases hk; exact Nat.le_refl _))
  have Hz := Lib.hid hz
  clear hown hgrow hrow hlit hz
  go_wp2_with fail
  go_ret
  exact ⟨a2, c2, rfl, Own.out, Hz.out, Hb.out⟩
end Go.Proofs.YtcaeglnfflkabaaGreat

/- Walk of net.twin: a deep copy of a plan. No condition beyond the plan that is read. -/
set_option maxRecDepth 1000000
namespace Go.Proofs.YtcaeglnfflkabaaGreat
open Go.ChangeShapes Go.WideShapes Go.ChangeAt Go.RowKit Go.Sort

/-- no slice of a plan lies in block c -/
structure PVApart (v : PV) (c : Nat) : Prop where
 e : ∀ a, v.ae = some a → a.block ≠ c
 j : ∀ a, v.aj = some a → a.block ≠ c
 s : ∀ a, v.as_ = some a → a.block ≠ c
 l : ∀ a, v.al = some a → a.block ≠ c
 i : ∀ x ∈ v.lv, x.n ≠ 0 → ∀ a, x.a = some a → a.block ≠ c
def LKeep (B : Nat) (lv l : List LineV) : Prop := ∀ c, c < B → (∀ x ∈ lv, x.n ≠ 0 → ∀ b, x.a = some b → b.block ≠ c) → ∀ x ∈ l, x.n ≠ 0 → ∀ b, x.a = some b → b.block ≠ c
theorem LKeep.put {B : Nat} {lv l : List LineV} {j : Nat} {x : LineV} {a2 : Option Addr} {c2 : Nat} (h : LKeep B lv l) (hx : l[j]? = some x) (ha : ∀ b, a2 = some b → B ≤ b.block) : LKeep B lv (l.set j { x with a := a2, c := c2 }) :=
 fun c hc h0 => fit_set (P := fun y : LineV => y.n ≠ 0 → ∀ b, y.a = some b → b.block ≠ c) (h c hc h0) hx (fun _ _ b hb => by have := ha b hb; omega)
def TwinPost (w : World) (lv : List LineV) (p : Plan) (e : Ending) (w' : World) : Prop := ∃ qv : PV, e = .returned (qv.val p) ∧ PlanAt w' qv p ∧ (∀ x ∈ qv.lv, x.n ≤ 1000) ∧
 (∀ c, c < w.heap.size → (∀ x ∈ lv, x.n ≠ 0 → ∀ b, x.a = some b → b.block ≠ c) → PVApart qv c) ∧ Below w.heap.size w w'
theorem row_far {α : Type} {sz : Nat} {enc : α → List Value} {w : World} {a : Option Addr} {n g : Nat} {xs : List α} (h : Row sz enc w a n xs) (hne : n ≠ 0 → ∀ b, a = some b → b.block ≠ g) (o : Nat) (u : Value) : Row sz enc (w.setCell ⟨g, o, none⟩ u) a n xs := by
 refine ⟨h.len, h.bnd, fun i y hy => ?_⟩
 have hn0 : n ≠ 0 := by have := h.len; have := (List.getElem?_eq_some_iff.1 hy).1; omega
 obtain ⟨b, off, ha, hb, hc⟩ := h.at_ i y hy
 refine ⟨b, off, ha, by simpa [World.setCell] using hb, fun k v hv => ?_⟩
 rw [World.cell?_of_block (Below.heap_setCell w ⟨g, o, none⟩ u b (hne hn0 _ ha))]
 exact hc k v hv
theorem PlanAt.far {w : World} {v : PV} {p : Plan} {c : Nat} (h : PlanAt w v p) (ha : PVApart v c) (o : Nat) (u : Value) : PlanAt (w.setCell ⟨c, o, none⟩ u) v p :=
 ⟨row_far h.e (fun _ => ha.e) o u, row_far h.j (fun _ => ha.j) o u, row_far h.s (fun _ => ha.s) o u, ⟨row_far h.l.row (fun _ => ha.l) o u, fun x hx => row_far (h.l.ints x hx) (ha.i x hx) o u⟩, h.lp, h.fit⟩

theorem own_lowb {w w' : World} {base n size B : Nat} {e : TypeId} {v : Value} {xs : List Value} (h : w.ownsRow base e size v n xs) (hv : ∀ k, v.ownBlock = some k → k < B) (hb : Below B w w') : w'.ownsRow base e size v n xs := by
 obtain ⟨h1, h2⟩ := h
 refine ⟨h1, ?_⟩
 rcases h2 with h0 | ⟨g, cap, cur, rfl, hg, hh, rest⟩
 ·exact .inl h0
 ·exact .inr ⟨g, cap, cur, rfl, hg, (hb.block g (hv g rfl)).trans hh, rest⟩
theorem ints_far {w : World} {a : Option Addr} {n g : Nat} {xs : List Int} (h : Ints w a n xs) (hne : n ≠ 0 → ∀ b, a = some b → b.block ≠ g) (o : Nat) (u : Value) : Ints (w.setCell ⟨g, o, none⟩ u) a n xs := by
 refine ⟨h.len, h.bnd, fun i y hy => ?_⟩
 have hn0 : n ≠ 0 := by have := h.len; have := (List.getElem?_eq_some_iff.1 hy).1; omega
 obtain ⟨b, off, ha, hb, hc⟩ := h.at_ i y hy
 refine ⟨b, off, ha, by simpa [World.setCell] using hb, fun k v hv => ?_⟩
 rw [World.cell?_of_block (Below.heap_setCell w ⟨g, o, none⟩ u b (hne hn0 _ ha))]
 exact hc k v hv
/-- what the rounds keep of the lines -/
structure LinesIn (w : World) (z : Nat) (al : Option Addr) (L : List Line) (l : List LineV) : Prop where
 apart : ∀ x ∈ l, x.n ≠ 0 → ∀ b, x.a = some b → b.block ≠ z
 same : l.map LineV.line = L
 ints : ∀ x ∈ l, Ints w x.a x.n x.elems
 cap : ∀ x ∈ l, x.a = none → x.c = 0
 few : ∀ x ∈ l, x.n ≤ 60
 away : ∀ g, al = some ⟨g, 0, none⟩ → ∀ x ∈ l, x.n ≠ 0 → ∀ b, x.a = some b → b.block ≠ g
theorem LinesIn.below {w w' : World} {z : Nat} {al : Option Addr} {L : List Line} {l : List LineV} (h : LinesIn w z al L l) (hb : Below w.heap.size w w') : LinesIn w' z al L l := ⟨h.apart, h.same, fun x hx => (h.ints x hx).below hb, h.cap, h.few, h.away⟩
theorem LinesIn.put {w : World} {z g o : Nat} {u : Value} {L : List Line} {l : List LineV} {j : Nat} {x : LineV} (h : LinesIn w z (some ⟨g, 0, none⟩) L l) (hx : l[j]? = some x) {a2 : Option Addr} {c2 : Nat} (hi : Ints w a2 x.n x.elems) (hz : a2 = none → c2 = 0)
  (hne : x.n ≠ 0 → ∀ b, a2 = some b → b.block ≠ g) (hnz : x.n ≠ 0 → ∀ b, a2 = some b → b.block ≠ z) : LinesIn (w.setCell ⟨g, o, none⟩ u) z (some ⟨g, 0, none⟩) L (l.set j { x with a := a2, c := c2 }) := by
 refine ⟨fit_set (P := fun y : LineV => y.n ≠ 0 → ∀ b, y.a = some b → b.block ≠ z) h.apart hx (fun _ => hnz), ?_, ?_, ?_, ?_, ?_⟩
 ·rw [← h.same, List.map_set]
  show (l.map LineV.line).set j x.line = _
  apply List.ext_getElem?
  intro i
  rw [List.getElem?_set]
  split
  ·rename_i hi; subst hi; rw [List.getElem?_map, hx, if_pos (by simpa using (List.getElem?_eq_some_iff.1 hx).1)]; rfl
  ·rfl
 ·exact fit_set (P := fun y : LineV => Ints (w.setCell ⟨g, o, none⟩ u) y.a y.n y.elems) (fun y hy => ints_far (h.ints y hy) (h.away g rfl y hy) _ _) hx (fun _ => ints_far hi hne _ _)
 ·exact fit_set (P := fun y : LineV => y.a = none → y.c = 0) h.cap hx (fun _ => hz)
 ·exact fit_set (P := fun y : LineV => y.n ≤ 60) h.few hx (fun q => q)
 ·intro g' hg'
  cases hg'
  exact fit_set (P := fun y : LineV => y.n ≠ 0 → ∀ b, y.a = some b → b.block ≠ g) (h.away g rfl) hx (fun _ => hne)
theorem own_ints' {w : World} {base : Nat} {a : Option Addr} {n c : Nat} {xs : List Int} (h : w.ownsRow base 3 1 (.slice a n c) n (xs.flatMap encInt)) : Ints w a n xs := (owns_row (sz := 1) (enc := encInt) (fun _ => rfl) h (by omega)).1
theorem lines_start {w W : World} {pv : PV} {p : Plan} {al2 : Option Addr} (h : PlanAt w pv p) (hf : FewOk pv) (hb : Below w.heap.size w W) (hg : ∀ g, al2 = some ⟨g, 0, none⟩ → w.heap.size ≤ g) {o : Nat} (u : Value) :
  LinesIn (W.setCell ⟨w.heap.size, o, none⟩ u) (w.heap.size + 1) al2 p.lines pv.lv := by
 have key : ∀ x ∈ pv.lv, x.n ≠ 0 → ∀ b, x.a = some b → b.block < w.heap.size := by
  intro x hx hn a ha
  have hi := h.l.ints x hx
  have hl := hi.len
  obtain ⟨y, hy⟩ : ∃ y, x.elems[0]? = some y := ⟨_, List.getElem?_eq_getElem (by omega)⟩
  obtain ⟨b', off, hab, hbl, _⟩ := hi.at_ 0 y hy
  rw [ha] at hab
  cases hab
  exact hbl
 refine ⟨fun x hx hn b hb => by have := key x hx hn b hb; omega, h.lp.symm, fun x hx => (h.l.ints x hx).below (below_set (Nat.le_refl _) hb u), h.fit.ll, hf.2.2.2.2, ?_⟩
 intro g hgg x hx hn a ha
 have := hg g hgg
 have := key x hx hn a ha
 omega
theorem obox_second (w : World) (o : Obj) : OBox ((w.alloc o).alloc (.cells (zPV.cells zPlan) 27)) (w.heap.size + 1) zPV zPlan := by
 have h := obox_new (w.alloc o) zPV zPlan
 have hs : (w.alloc o).heap.size = w.heap.size + 1 := by simp
 rw [hs] at h
 exact h
set_option maxHeartbeats 800000 in
theorem twin_any (w : World) (pv : PV) (p : Plan) (hf : FewOk pv) (h : PlanAt w pv p) : Calls Tryz.prog 23 #[pv.val p] w (TwinPost w pv.lv p) := by
 obtain ⟨ae, ne, ce, aj, nj, cj, as_, ns, cs, al, nl, cl, lv⟩ := pv
 have hP := Lib.hid h
 have Hf := Lib.hid hf
 have HBa := Lib.hid (pbox_new w ⟨ae, ne, ce, aj, nj, cj, as_, ns, cs, al, nl, cl, lv⟩ p)
 clear h hf
 dsimp only [PV.val]
 go_enter Tryz.func23, Tryz.ntmps23
 go_wp2_with fail
 refine name_code fun W0 hW0 => ?_
 have HB0 := Lib.hid (show OBox W0 w.heap.size ⟨ae, ne, ce, aj, nj, cj, as_, ns, cs, al, nl, cl, lv⟩ p by rw [hW0]; exact (obox_new w ⟨ae, ne, ce, aj, nj, cj, as_, ns, cs, al, nl, cl, lv⟩ p).alloc _)
 have HZ0 := Lib.hid (show OBox W0 (w.heap.size + 1) zPV zPlan by rw [hW0]; exact obox_second w (.cells #[.slice ae ne ce, .slice aj nj cj, .slice as_ ns cs, .slice al nl cl, .int .i64 p.top, .int .i64 p.brake, .int .i64 p.margin, .int .i64 p.throw, .bool p.hard] 27))
 have Hb0 := Lib.hid (show Below w.heap.size w W0 by rw [hW0]; exact below_new2 w _ _)
 clear hW0 HBa
 obtain ⟨hfe, hfj, hfs, hfl, hfi⟩ := Hf.out
 dsimp only at hfe hfj hfs hfl
 obtain ⟨_, c0, c1, c2, c3, c4, c5, c6, c7, c8⟩ := HB0.out.box
 dsimp only at c0 c1 c2 c3
 refine wp_region_noPanic ?_
 refine region_upto (S := (fun w' => w'.cell? ⟨w.heap.size, 0, none⟩ = some (.slice ae ne ce) ∧ w'.cell? ⟨w.heap.size, 1, none⟩ = some (.slice aj nj cj) ∧ w'.cell? ⟨w.heap.size, 2, none⟩ = some (.slice as_ ns cs))) (n := 9) (by kernel_rfl) ?_
 have hS0 : W0.drew.cell? ⟨w.heap.size, 0, none⟩ = some (.slice ae ne ce) ∧ W0.drew.cell? ⟨w.heap.size, 1, none⟩ = some (.slice aj nj cj) ∧ W0.drew.cell? ⟨w.heap.size, 2, none⟩ = some (.slice as_ ns cs) := ⟨c0, c1, c2⟩
 refine uk 0 (.pointer (some ⟨w.heap.size, 0, none⟩)) ?_ hS0 ?_
 ·intro w' hSw
  (try dsimp only at hSw)
  go_simp
 (try simp only [zA, zC, Act.put, zD, zE, zF])
 refine uk 1 (.slice ae ne ce) ?_ hS0 ?_
 ·intro w' hSw
  (try dsimp only at hSw)
  go_simp
 (try simp only [zA, zB, zC, Act.put, zD, zE, zF])
 refine uk 3 (.pointer (some ⟨w.heap.size, 1, none⟩)) ?_ hS0 ?_
 ·intro w' hSw
  (try dsimp only at hSw)
  go_simp
 (try simp only [zA, zB, zC, Act.put, zD, zE, zF])
 refine uk 4 (.slice aj nj cj) ?_ hS0 ?_
 ·intro w' hSw
  (try dsimp only at hSw)
  go_simp
 (try simp only [zA, zB, zC, Act.put, zD, zE, zF])
 refine uk 6 (.pointer (some ⟨w.heap.size, 2, none⟩)) ?_ hS0 ?_
 ·intro w' hSw
  (try dsimp only at hSw)
  go_simp
 (try simp only [zA, zB, zC, Act.put, zD, zE, zF])
 refine uk 7 (.slice as_ ns cs) ?_ hS0 ?_
 ·intro w' hSw
  (try dsimp only at hSw)
  go_simp
 (try simp only [zA, zB, zC, Act.put, zD, zE, zF])
 refine upto_step (i := 2) (by kernel_rfl) rfl (fun K hK => ?_)
 go_simp
 refine (clone_elem W0.drew ae ne ce p.elems (hP.out.e.below Hb0.out.drew) hP.out.fit.ec (by omega)).mono ?_
 rintro e w1 ⟨ae2, ce2, rfl, hown, hz, hbx⟩
 have hbx : Below W0.heap.size W0 w1 := ((Below.refl W0.heap.size W0).drew).trans hbx
 change w1.ownsRow W0.heap.size _ _ _ _ _ at hown
 have HBw1 := Lib.hid (HB0.out.below hbx)
 have HZw1 := Lib.hid (HZ0.out.below hbx)
 have Hbw1 := Lib.hid (below_step Hb0.out hbx Hb0.out.size)
 have OEw1 := Lib.hid hown
 have HzE := Lib.hid hz
 have Hsz1 := Lib.hid hbx.size
 clear hown hz
 obtain ⟨_, c0, c1, c2, c3, c4, c5, c6, c7, c8⟩ := HBw1.out.box
 dsimp only at c0 c1 c2 c3
 refine hK _ _ (fun _ => ⟨c0, c1, c2⟩) ?_
 clear hK K hS0
 have hS0 := And.intro c0 (And.intro c1 c2)
 (try simp only [zA, zB, zC, Act.put, zD, zE, zF])
 clear hbx
 refine upto_pure (i := 9) (v := .pointer (some ⟨w.heap.size, 0, none⟩)) rfl (by kernel_rfl) (by kernel_rfl) (by kernel_rfl) (by decide) (fun _ _ _ h => h) (Or.inl ⟨by rfl, ?_⟩) ?_
 ·intro w' _
  go_simp
 (try simp only [zA, zB, zC, Act.put, zD, zE, zF])
 refine upto_step (i := 5) (by kernel_rfl) rfl (fun K hK => ?_)
 go_simp
 refine (clone_join w1 aj nj cj p.joins (hP.out.j.below Hbw1.out) hP.out.fit.jc (by omega)).mono ?_
 rintro e w2 ⟨aj2, cj2, rfl, hown, hz, hbx⟩
 have HBw2 := Lib.hid (HBw1.out.below hbx)
 have HZw2 := Lib.hid (HZw1.out.below hbx)
 have Hbw2 := Lib.hid (below_step Hbw1.out hbx Hbw1.out.size)
 have OJw2 := Lib.hid hown
 have HzJ := Lib.hid hz
 have Hsz2 := Lib.hid hbx.size
 clear hown hz
 obtain ⟨_, c0, c1, c2, c3, c4, c5, c6, c7, c8⟩ := HBw2.out.box
 dsimp only at c0 c1 c2 c3
 refine hK _ _ (fun _ => ⟨c0, c1, c2⟩) ?_
 clear hK K hS0
 have hS0 := And.intro c0 (And.intro c1 c2)
 (try simp only [zA, zB, zC, Act.put, zD, zE, zF])
 have OEw2 := Lib.hid (owns_below OEw1.out hbx)
 clear hbx
 refine upto_step (i := 8) (by kernel_rfl) rfl (fun K hK => ?_)
 go_simp
 refine (clone_sig w2 as_ ns cs p.sigs (hP.out.s.below Hbw2.out) hP.out.fit.sc (by omega)).mono ?_
 rintro e w3 ⟨as2, cs2, rfl, hown, hz, hbx⟩
 have HBw3 := Lib.hid (HBw2.out.below hbx)
 have HZw3 := Lib.hid (HZw2.out.below hbx)
 have Hbw3 := Lib.hid (below_step Hbw2.out hbx Hbw2.out.size)
 have OSw3 := Lib.hid hown
 have HzS := Lib.hid hz
 have Hsz3 := Lib.hid hbx.size
 clear hown hz
 obtain ⟨_, c0, c1, c2, c3, c4, c5, c6, c7, c8⟩ := HBw3.out.box
 dsimp only at c0 c1 c2 c3
 refine hK _ _ (fun _ => ⟨c0, c1, c2⟩) ?_
 clear hK K hS0
 have hS0 := And.intro c0 (And.intro c1 c2)
 (try simp only [zA, zB, zC, Act.put, zD, zE, zF])
 have OEw3 := Lib.hid (owns_below OEw2.out hbx)
 have OJw3 := Lib.hid (owns_below OJw2.out hbx)
 clear hbx
 have fq := HBw3.out.frozen
 refine upto_step (i := 10) (by kernel_rfl) rfl (fun K hK => ?_)
 go_simp
 refine hK _ _ (fun h => absurd h (by omega)) ?_
 clear hK K
 (try simp only [zA, zB, zC, Act.put, zD, zE, zF])
 refine upto_pure (i := 11) (v := .pointer (some ⟨w.heap.size, 1, none⟩)) rfl (by kernel_rfl) (by kernel_rfl) (by kernel_rfl) (by decide) (fun _ _ _ h => h) (Or.inl ⟨by rfl, ?_⟩) ?_
 ·intro w' _
  go_simp
 (try simp only [zA, zB, zC, Act.put, zD, zE, zF])
 refine upto_step (i := 12) (by kernel_rfl) rfl (fun K hK => ?_)
 go_simp
 refine hK _ _ (fun h => absurd h (by omega)) ?_
 clear hK K
 (try simp only [zA, zB, zC, Act.put, zD, zE, zF])
 refine upto_pure (i := 13) (v := .pointer (some ⟨w.heap.size, 2, none⟩)) rfl (by kernel_rfl) (by kernel_rfl) (by kernel_rfl) (by decide) (fun _ _ _ h => h) (Or.inl ⟨by rfl, ?_⟩) ?_
 ·intro w' _
  go_simp
 (try simp only [zA, zB, zC, Act.put, zD, zE, zF])
 refine upto_step (i := 14) (by kernel_rfl) rfl (fun K hK => ?_)
 go_simp
 refine hK _ _ (fun h => absurd h (by omega)) ?_
 clear hK K
 (try simp only [zA, zB, zC, Act.put, zD, zE, zF])
 refine upto_done (by kernel_rfl) (NoPanic.normal ?_) _
 refine name_world fun w4 hw4 => ?_
 have hlt0 := HZ0.out.lt
 have HB4 := Lib.hid (show OBox w4 w.heap.size ⟨ae2, ne, ce2, aj2, nj, cj2, as2, ns, cs2, al, nl, cl, lv⟩ p by rw [hw4]; exact ((HBw3.out.put (v' := ⟨ae2, ne, ce2, aj, nj, cj, as_, ns, cs, al, nl, cl, lv⟩) (p' := p) rfl).put (v' := ⟨ae2, ne, ce2, aj2, nj, cj2, as_, ns, cs, al, nl, cl, lv⟩) (p' := p) rfl).put rfl)
 have HZ4 := Lib.hid (show OBox w4 (w.heap.size + 1) zPV zPlan by rw [hw4]; exact obox_far (by omega) (obox_far (by omega) (obox_far (by omega) HZw3.out _ _) _ _) _ _)
 have Hb4 := Lib.hid (show Below w.heap.size w w4 by rw [hw4]; exact below_set (Nat.le_refl _) (below_set (Nat.le_refl _) (below_set (Nat.le_refl _) Hbw3.out _) _) _)
 have hs1 : W0.heap.size ≤ w1.heap.size := Hsz1.out
 have hs2 : w1.heap.size ≤ w2.heap.size := Hsz2.out
 have OE4 := Lib.hid (show w4.ownsRow W0.heap.size 65 3 (.slice ae2 ne ce2) ne (p.elems.flatMap encElem) by rw [hw4]; exact own_low (by omega) (own_low (by omega) (own_low (by omega) OEw3.out _) _) _)
 have OJ4 := Lib.hid (show w4.ownsRow w1.heap.size 94 4 (.slice aj2 nj cj2) nj (p.joins.flatMap encJoin) by rw [hw4]; exact own_low (by omega) (own_low (by omega) (own_low (by omega) OJw3.out _) _) _)
 have OS4 := Lib.hid (show w4.ownsRow w2.heap.size 45 4 (.slice as2 ns cs2) ns (p.sigs.flatMap encSig) by rw [hw4]; exact own_low (by omega) (own_low (by omega) (own_low (by omega) OSw3.out _) _) _)
 clear hw4 c0 c1 c2 c3 c4 c5 c6 c7 c8 hS0 fq OEw3 OJw3 OSw3 HBw1 HBw2 HBw3 HZw1 HZw2 HZw3 Hbw1 Hbw2 Hbw3 OEw1 OEw2 OJw2
 obtain ⟨_, c0, c1, c2, c3, c4, c5, c6, c7, c8⟩ := HB4.out.box
 dsimp only at c0 c1 c2 c3
 go_wp2_with fail
 refine (clone_line w4 al nl cl lv (hP.out.l.row.below Hb4.out) hP.out.fit.lc (by omega)).mono ?_
 rintro e w5 ⟨al2, cl2, rfl, hown, hz, hbx⟩
 have HB5 := Lib.hid (HB4.out.below hbx)
 have hfr := HB5.out.frozen 3
 have OL5 := Lib.hid hown
 have Hx5 := Lib.hid hbx
 have Hz5 := Lib.hid hz
 clear hown hbx hz c0 c1 c2 c3 c4 c5 c6 c7 c8
 have c3 := HB5.out.box.c3
 dsimp only at c3
 go_wp2_with fail
 refine name_code fun w6 hw6 => ?_
 have hb04 : w.heap.size ≤ w4.heap.size := Hb4.out.size
 have hH4 := HB4.out.lt
 have HB6 := Lib.hid (show OBox w6 w.heap.size ⟨ae2, ne, ce2, aj2, nj, cj2, as2, ns, cs2, al2, nl, cl2, lv⟩ p by rw [hw6]; exact HB5.out.put rfl)
 have HL6 := Lib.hid (show LinesIn w6 (w.heap.size + 1) al2 p.lines lv by rw [hw6]; exact lines_start hP.out Hf.out (Hb4.out.trans (Hx5.out.mono hb04)) (fun g hg => by subst hg; have := (OL5.out.lt g rfl).1; omega) _)
 have OL6 := Lib.hid (show w6.ownsRow w4.heap.size 96 2 (.slice al2 nl cl2) nl (lv.flatMap encLine) by rw [hw6]; exact own_low hH4 OL5.out _)
 have Hx6 := Lib.hid (show Below w.heap.size w w6 by rw [hw6]; exact below_set (Nat.le_refl _) (Hb4.out.trans (Hx5.out.mono hb04)) _)
 have hltE := OE4.out.lt
 have hZ4lt := HZ4.out.lt
 have hltJ := OJ4.out.lt
 have hltS := OS4.out.lt
 have OE6 := Lib.hid (show w6.ownsRow W0.heap.size 65 3 (.slice ae2 ne ce2) ne (p.elems.flatMap encElem) by rw [hw6]; exact own_low (by omega) (owns_below OE4.out Hx5.out) _)
 have OJ6 := Lib.hid (show w6.ownsRow w1.heap.size 94 4 (.slice aj2 nj cj2) nj (p.joins.flatMap encJoin) by rw [hw6]; exact own_low (by omega) (owns_below OJ4.out Hx5.out) _)
 have OS6 := Lib.hid (show w6.ownsRow w2.heap.size 45 4 (.slice as2 ns cs2) ns (p.sigs.flatMap encSig) by rw [hw6]; exact own_low (by omega) (owns_below OS4.out Hx5.out) _)
 have HZ6 := Lib.hid (show OBox w6 (w.heap.size + 1) zPV zPlan by rw [hw6]; exact obox_far (by omega) (HZ4.out.below Hx5.out) _ _)
 have hs46 : w4.heap.size ≤ w6.heap.size := by rw [hw6]; have := Hx5.out.size; simpa [World.setCell] using this
 clear hw6 c3 hfr HB5 OL5
 go_loopg [23] nl (fun k i wr => ∃ (j : Nat) (l : List LineV), j + k = nl ∧ i = .int .i64 j ∧ l.length = nl ∧ OBox wr w.heap.size ⟨ae2, ne, ce2, aj2, nj, cj2, as2, ns, cs2, al2, nl, cl2, lv⟩ p ∧ Hid (LinesIn wr (w.heap.size + 1) al2 p.lines l) ∧ wr.ownsRow w4.heap.size 96 2 (.slice al2 nl cl2) nl (l.flatMap encLine) ∧ Below w.heap.size w wr ∧ Below w4.heap.size w6 wr ∧ Hid (LKeep w.heap.size lv l))
 case atStart => exact ⟨0, lv, by omega, rfl, hP.out.l.row.len, HB6.out, HL6.out, OL6.out, Hx6.out, Below.refl _ _, Lib.hid (fun c _ h => h)⟩
 case round =>
  clear HB6 HL6 OL6 Hx6
  obtain ⟨j, l, hk, rfl, hl, hB, hL, hO, hx, hx6, HKp⟩ := hrel
  have Hk := Lib.hid hk; clear hk
  have hBr := Lib.hid hB
  have hLI := Lib.hid hL.out
  have hOr := Lib.hid hO
  have hxr := Lib.hid hx
  have hx6r := Lib.hid hx6
  have hsr : w.heap.size ≤ wr.heap.size := hx.size
  clear hB hL hO hx hx6
  by_cases hlt : j < nl
  ·obtain ⟨gl, cx, heq, hgl, hgl2⟩ := own_shape hOr.out (by omega)
   simp only [Value.slice.injEq, true_and] at heq
   obtain ⟨rfl, rfl⟩ := heq
   obtain ⟨x, hxx⟩ := get_some hl hlt
   have Hx := Lib.hid hxx
   have hxm := List.mem_of_getElem? hxx
   clear hxx
   have c3 := hBr.out.box.c3
   dsimp only at c3
   have e1 : wr.cell? ⟨gl, j * 2 + 1, none⟩ = some (.slice x.a x.n x.c) := own_at encLine_len hOr.out (k := 1) Hx.out hlt rfl
   go_wp2_with fail
   refine wp_region_noPanic ?_
   refine region_upto (S := (fun w' => w'.cell? ⟨w.heap.size, 3, none⟩ = some (.slice (some ⟨gl, 0, none⟩) nl cl2) ∧ w'.cell? ⟨gl, j * 2 + 1, none⟩ = some (.slice x.a x.n x.c))) (n := 10) (by kernel_rfl) ?_
   have hS0 : wr.drew.cell? ⟨w.heap.size, 3, none⟩ = some (.slice (some ⟨gl, 0, none⟩) nl cl2) ∧ wr.drew.cell? ⟨gl, j * 2 + 1, none⟩ = some (.slice x.a x.n x.c) := ⟨c3, e1⟩
   refine uk 0 (.pointer (some ⟨w.heap.size, 3, none⟩)) ?_ hS0 ?_
   ·intro w' hSw
    (try dsimp only at hSw)
    go_simp
   (try simp only [zA, zC, Act.put, zD, zE, zF])
   refine uk 1 (.slice (some ⟨gl, 0, none⟩) nl cl2) ?_ hS0 ?_
   ·intro w' hSw
    (try dsimp only at hSw)
    go_simp
   (try simp only [zA, zB, zC, Act.put, zD, zE, zF])
   refine uk 2 (.int .i64 j) ?_ hS0 ?_
   ·intro w' hSw
    (try dsimp only at hSw)
    go_simp
   (try simp only [zA, zB, zC, Act.put, zD, zE, zF])
   refine uk 3 (.pointer (some ⟨w.heap.size, 3, none⟩)) ?_ hS0 ?_
   ·intro w' hSw
    (try dsimp only at hSw)
    go_simp
   (try simp only [zA, zB, zC, Act.put, zD, zE, zF])
   refine uk 4 (.slice (some ⟨gl, 0, none⟩) nl cl2) ?_ hS0 ?_
   ·intro w' hSw
    (try dsimp only at hSw)
    go_simp
   (try simp only [zA, zB, zC, Act.put, zD, zE, zF])
   refine uk 5 (.int .i64 j) ?_ hS0 ?_
   ·intro w' hSw
    (try dsimp only at hSw)
    go_simp
   (try simp only [zA, zB, zC, Act.put, zD, zE, zF])
   refine uk 6 (.pointer (some ⟨gl, j * 2, none⟩)) ?_ hS0 ?_
   ·intro w' hSw
    (try dsimp only at hSw)
    go_simp
   (try simp only [zA, zB, zC, Act.put, zD, zE, zF])
   refine uk 7 (.pointer (some ⟨gl, j * 2 + 1, none⟩)) ?_ hS0 ?_
   ·intro w' hSw
    (try dsimp only at hSw)
    go_simp
   (try simp only [zA, zB, zC, Act.put, zD, zE, zF])
   refine uk 8 (.slice x.a x.n x.c) ?_ hS0 ?_
   ·intro w' hSw
    (try dsimp only at hSw)
    go_simp
   (try simp only [zA, zB, zC, Act.put, zD, zE, zF])
   refine upto_step (i := 9) (by kernel_rfl) rfl (fun K hK => ?_)
   go_simp
   refine (clone_int wr.drew x.a x.n x.c x.elems ((hLI.out.ints x hxm).below (Below.refl _ _).drew) (hLI.out.cap x hxm) (by have := hLI.out.few x hxm; omega)).mono ?_
   rintro e w7 ⟨a2, c2, rfl, hown, hz, hbx⟩
   have hbx : Below wr.heap.size wr w7 := ((Below.refl wr.heap.size wr).drew).trans hbx
   change w7.ownsRow wr.heap.size _ _ _ _ _ at hown
   have hB7 := Lib.hid (hBr.out.below hbx)
   have hL7 := Lib.hid (hLI.out.below hbx)
   have hO7 := Lib.hid (owns_below hOr.out hbx)
   have hx7 := Lib.hid (below_step hxr.out hbx hsr)
   have hrw7 := Lib.hid (own_ints' hown)
   have hb67 := Lib.hid (hx6r.out.trans (hbx.mono (Nat.le_trans hs46 hx6r.out.size)))
   have hlt7 := hown.lt
   have hsz7 := hbx.size
   have c3 := hB7.out.box.c3
   dsimp only at c3
   have e1 : w7.cell? ⟨gl, j * 2 + 1, none⟩ = some (.slice x.a x.n x.c) := own_at encLine_len hO7.out (k := 1) Hx.out hlt rfl
   refine hK _ _ (fun _ => ⟨c3, e1⟩) ?_
   clear hK K hS0 hown hbx
   (try simp only [zA, zB, zC, Act.put, zD, zE, zF])
   refine upto_pure (i := 10) (v := .pointer (some ⟨gl, j * 2, none⟩)) rfl (by kernel_rfl) (by kernel_rfl) (by kernel_rfl) (by decide) (fun _ _ _ h => h) (Or.inl ⟨by rfl, ?_⟩) ?_
   ·intro w' _
    go_simp
   (try simp only [zA, zB, zC, Act.put, zD, zE, zF])
   refine upto_pure (i := 11) (v := .pointer (some ⟨gl, j * 2 + 1, none⟩)) rfl (by kernel_rfl) (by kernel_rfl) (by kernel_rfl) (by decide) (fun _ _ _ h => h) (Or.inl ⟨by rfl, ?_⟩) ?_
   ·intro w' _
    go_simp
   (try simp only [zA, zB, zC, Act.put, zD, zE, zF])
   have fL := hO7.out.frozenAt (j * 2 + 1)
   refine upto_step (i := 12) (by kernel_rfl) rfl (fun K hK => ?_)
   go_simp
   refine hK _ _ (fun h => absurd h (by omega)) ?_
   clear hK K
   (try simp only [zA, zB, zC, Act.put, zD, zE, zF])
   refine upto_done (by kernel_rfl) (NoPanic.normal ?_) _
   refine name_world fun w8 hw8 => ?_
   have hB8 : OBox w8 w.heap.size ⟨ae2, ne, ce2, aj2, nj, cj2, as2, ns, cs2, some ⟨gl, 0, none⟩, nl, cl2, lv⟩ p := by rw [hw8]; exact obox_far (by omega) hB7.out _ _
   have hL8 : LinesIn w8 (w.heap.size + 1) (some ⟨gl, 0, none⟩) p.lines (l.set j { x with a := a2, c := c2 }) := by
    rw [hw8]; exact hL7.out.put Hx.out hrw7.out (fun h => (hz h).2) (fun _ b hb => by subst hb; have := hlt7 b.block rfl; omega) (fun _ b hb => by subst hb; have := hlt7 b.block rfl; omega)
   have hO8 : w8.ownsRow w4.heap.size 96 2 (.slice (some ⟨gl, 0, none⟩) nl cl2) nl ((l.set j { x with a := a2, c := c2 }).flatMap encLine) := by rw [hw8]; exact (own_put encLine_len hO7.out (k := 1) Hx.out (by omega) (x' := { x with a := a2, c := c2 }) rfl).1
   have hx8 : Below w.heap.size w w8 := by rw [hw8]; exact below_set (by omega) hx7.out _
   have hx68 : Below w4.heap.size w6 w8 := by rw [hw8]; exact below_set hgl hb67.out _
   have HB8 := Lib.hid hB8
   have HL8 := Lib.hid hL8
   have HO8 := Lib.hid hO8
   have Hx8 := Lib.hid hx8
   have Hx68 := Lib.hid hx68
   have HK8 := Lib.hid (show LKeep w.heap.size lv (l.set j { x with a := a2, c := c2 }) from HKp.out.put Hx.out (fun b hb => by subst hb; have := hlt7 b.block rfl; omega))
   clear hw8 hB8 hL8 hO8 hx8 hx68 c3 e1 fL hz hbx
   go_wp2_with fail
   go_roundg (gk - 1)
   case measure => have := Hk.out; omega
   case rel => exact ⟨j + 1, _, by have := Hk.out; omega, by go_num, by rw [List.length_set]; exact hl, HB8.out, HL8.out, HO8.out, Hx8.out, Hx68.out, HK8⟩
  ·have HZr := Lib.hid (HZ6.out.same (hx6r.out.block (w.heap.size + 1) (by omega)))
   have OEr := Lib.hid (own_lowb OE6.out (fun k hk => (hltE k hk).2) hx6r.out)
   have OJr := Lib.hid (own_lowb OJ6.out (fun k hk => (hltJ k hk).2) hx6r.out)
   have OSr := Lib.hid (own_lowb OS6.out (fun k hk => (hltS k hk).2) hx6r.out)
   obtain ⟨_, c0, c1, c2, c3, c4, c5, c6, c7, c8⟩ := hBr.out.box
   obtain ⟨_, z0, z1, z2, z3, z4, z5, z6, z7, z8⟩ := HZr.out.box
   have fz := HZr.out.frozen
   dsimp only at c0 c1 c2 c3
   dsimp only [zPV, zPlan] at z0 z1 z2 z3 z4 z5 z6 z7 z8
   go_wp2_with fail
   refine name_body fun Wf hWf => ?_
   have OZf : OBox Wf (w.heap.size + 1) ⟨ae2, ne, ce2, aj2, nj, cj2, as2, ns, cs2, al2, nl, cl2, l⟩ p := by rw [hWf]; exact obox_filled (v := zPV) (p := zPlan) (v' := ⟨ae2, ne, ce2, aj2, nj, cj2, as2, ns, cs2, al2, nl, cl2, l⟩) (p' := p) HZr.out
   have sf : Below w.heap.size w Wf := by rw [hWf]; repeat (first | with_reducible exact hxr.out | ((with_reducible refine below_set ?_ ?_ _); omega))
   have OEf : Wf.ownsRow W0.heap.size 65 3 (.slice ae2 ne ce2) ne (p.elems.flatMap encElem) := by rw [hWf]; repeat (first | with_reducible exact OEr.out | ((with_reducible refine own_low ?_ ?_ _); omega))
   have OJf : Wf.ownsRow w1.heap.size 94 4 (.slice aj2 nj cj2) nj (p.joins.flatMap encJoin) := by rw [hWf]; repeat (first | with_reducible exact OJr.out | ((with_reducible refine own_low ?_ ?_ _); omega))
   have OSf : Wf.ownsRow w2.heap.size 45 4 (.slice as2 ns cs2) ns (p.sigs.flatMap encSig) := by rw [hWf]; repeat (first | with_reducible exact OSr.out | ((with_reducible refine own_low ?_ ?_ _); omega))
   have OLf : Wf.ownsRow w4.heap.size 96 2 (.slice al2 nl cl2) nl (l.flatMap encLine) := by rw [hWf]; repeat (first | with_reducible exact hOr.out | ((with_reducible refine own_low ?_ ?_ _); omega))
   have hIf : ∀ x ∈ l, Ints Wf x.a x.n x.elems := by
    intro x hx
    rw [hWf]
    repeat (first | with_reducible exact hLI.out.ints x hx | (with_reducible refine ints_far ?_ (hLI.out.apart x hx) _ _))
   clear hWf
   have hsW0 : w.heap.size ≤ W0.heap.size := Hb0.out.size
   obtain ⟨_, x0, x1, x2, x3, x4, x5, x6, x7, x8⟩ := OZf.box
   dsimp only at x0 x1 x2 x3
   exact bodyPost_ret (v := .agg #[.slice ae2 ne ce2, .slice aj2 nj cj2, .slice as2 ns cs2, .slice al2 nl cl2, .int .i64 p.top, .int .i64 p.brake, .int .i64 p.margin, .int .i64 p.throw, .bool p.hard])
    (by simp [results, Tryz.results23, go_sem, x0, x1, x2, x3, x4, x5, x6, x7, x8]) rfl
    ⟨⟨ae2, ne, ce2, aj2, nj, cj2, as2, ns, cs2, al2, nl, cl2, l⟩, rfl, ⟨(owns_row encElem_len OEf (by omega)).1, (owns_row encJoin_len OJf (by omega)).1, (owns_row encSig_len OSf (by omega)).1, ⟨(owns_row encLine_len OLf (by omega)).1, hIf⟩, hLI.out.same.symm,
     ⟨fun h => (HzE.out h).2, fun h => (HzJ.out h).2, fun h => (HzS.out h).2, fun h => (Hz5.out h).2, hLI.out.cap, hP.out.fit.e, hP.out.fit.j, hP.out.fit.s, hP.out.fit.l, hP.out.fit.top, hP.out.fit.brake, hP.out.fit.margin, hP.out.fit.throw⟩⟩,
     fun x hx => by have := hLI.out.few x hx; omega, fun c hc h0 => ⟨fun a ha => by subst ha; have := OEf.lt a.block rfl; omega, fun a ha => by subst ha; have := OJf.lt a.block rfl; omega, fun a ha => by subst ha; have := OSf.lt a.block rfl; omega, fun a ha => by subst ha; have := OLf.lt a.block rfl; omega, HKp.out c hc h0⟩, sf⟩
end Go.Proofs.YtcaeglnfflkabaaGreat
