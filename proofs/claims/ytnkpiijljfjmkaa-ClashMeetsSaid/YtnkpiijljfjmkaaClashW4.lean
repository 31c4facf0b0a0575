/- Walks of clash.set and meet. Condition: the numbers are read. -/
import Derived.Test.YtnkpiijljfjmkaaClashW1
import Derived.Maps.RangeWalk
import Derived.Test.YtnkpiijljfjmkaaNetM1
set_option maxRecDepth 1000000
namespace Go.Proofs.Ytnkpiijljfjmkaa
open Go.ChangeShapes Go.WideShapes Go.ChangeAt Go.RowKit Go.Sort

/-- a map that holds just the numbers of a list -/
def SetPost (w : World) (l : List Int) (e : Ending) (w' : World) : Prop := ∃ b n, e = .returned (.map (some b)) ∧ w.heap.size ≤ b ∧ MapOf intCode Value.bool w' 3 b n (seenIn l) ∧ Below w.heap.size w w'
theorem set_any (w : World) (a : Option Addr) (n c : Nat) (xs : List Int) (h : Ints w a n xs) (hn : n ≤ 1000) (hi : ∀ x ∈ xs, inI x) : Calls Try.prog 28 #[.slice a n c] w (SetPost w xs) := by
  have hl := Lib.hid h.len
  have Hx := Lib.hid h
  have Hi := Lib.hid hi
  have Hm := Lib.hid (MapOf.made intCode Value.bool w 3)
  have hmm := @run_makeMap Try.prog
  clear h hi
  go_enter Try.func28, Try.ntmps28
  go_wp2_with fail
  clear hmm
  go_loopg [9] n (fun k i wr => ∃ (j : Nat), j + k = n ∧ i = .int .i64 j ∧ MapOf intCode Value.bool wr 3 w.heap.size j (seenIn (xs.take j)) ∧ Hid (Below w.heap.size w wr))
  case atStart => exact ⟨0, by omega, rfl, Hm.out, below_new _ _⟩
  case round =>
    clear Hm
    obtain ⟨j, hk, rfl, hm, Hb⟩ := hrel
    have Hk := Lib.hid hk; clear hk
    have Hmm := Lib.hid hm; clear hm
    have hml := Hmm.out.lt
    by_cases hlt : j < n
    · obtain ⟨y, hy⟩ := get_some hl.out hlt
      obtain ⟨pb, off, rfl, hpb, g1⟩ := (Hx.out.below Hb.out).int hy
      have Hst := Lib.hid (Hmm.out.store (t := 67) (e := 4) (x := y) (y := true) (seenIn (xs.take (j + 1))) (by rw [take_next hy]; exact seen_key _ _) (fun z hz => by rw [take_next hy]; exact seen_other _ hz) (by unfold maxLen; omega) keyed_int Try.underlying67 (key_int (Hi.out y (List.mem_of_getElem? hy))))
      clear hy
      go_wp2_with (at_mapUpdate; refine wpList_put _ rfl _ _ _ _ rfl rfl rfl rfl Hst.out ?_; rintro w3 ⟨hm3, hg3⟩)
      have hb3 : Below w.heap.size w w3 := Hb.out.grown hg3 Hb.out.size (by intro k hk; simp only [Option.some.injEq] at hk; omega)
      go_roundg (gk - 1)
      case measure => have := Hk.out; omega
      case rel => exact ⟨j + 1, by have := Hk.out; omega, by go_num, hm3, hb3⟩
    · go_wp2_with fail
      go_ret
      refine ⟨w.heap.size, j, rfl, Nat.le_refl _, ?_, Hb.out⟩
      have := Hmm.out
      rwa [take_all hl.out (by omega)] at this
theorem meet_any (w : World) (a : Option Addr) (n c b m : Nat) (xs ys : List Int) (h : Ints w a n xs) (hi : ∀ x ∈ xs, inI x) (hm : MapOf intCode Value.bool w 3 b m (seenIn ys)) :
    Calls Try.prog 27 #[.slice a n c, .map (some b)] w fun en w' => en = .returned (.bool (meets xs ys)) ∧ w = w' := by
  have hl := Lib.hid h.len
  have hbd := h.bnd
  have Hx := Lib.hid h
  have Hi := Lib.hid hi
  have Hm := Lib.hid hm
  clear h hi hm
  go_enter Try.func27, Try.ntmps27
  go_wp2_with fail
  go_loopg [9] n (fun k i wr => ∃ (j : Nat), j + k = n ∧ i = .int .i64 j ∧ Hid ((xs.drop j).any (fun x => decide (x ∈ ys)) = meets xs ys) ∧ w = wr)
  case atStart => exact ⟨0, by omega, rfl, rfl, rfl⟩
  case round =>
    obtain ⟨j, hk, rfl, hr, rfl⟩ := hrel
    have Hk := Lib.hid hk; clear hk
    by_cases hlt : j < n
    · obtain ⟨y, hy⟩ := get_some hl.out hlt
      obtain ⟨pb, off, rfl, hpb, g1⟩ := Hx.out.int hy
      have hyi := Hi.out y (List.mem_of_getElem? hy)
      have Hd := Lib.hid (any_drop (f := fun x => decide (x ∈ ys)) hy); clear hy
      by_cases hmem : y ∈ ys
      · have lk := (Hm.out.look_hit (seen_yes hmem) keyed_int Try.underlying67 zero_bool (key_int hyi)).1
        have Hn := Lib.hid (show meets xs ys = true by rw [← hr.out, Hd.out]; simp [hmem])
        clear hmem
        go_wp2_with (at_lookup; refine wpList_look _ rfl _ _ _ _ rfl rfl rfl lk ?_)
        go_ret
        exact ⟨ret_bool Hn.out.symm, rfl⟩
      · have lk := (Hm.out.look_miss (seen_no hmem) keyed_int Try.underlying67 zero_bool (key_int hyi)).1
        have Hn := Lib.hid (show (xs.drop (j + 1)).any (fun x => decide (x ∈ ys)) = meets xs ys by rw [← hr.out, Hd.out]; simp [hmem])
        clear hmem
        go_wp2_with (at_lookup; refine wpList_look _ rfl _ _ _ _ rfl rfl rfl lk ?_)
        go_roundg (gk - 1)
        case measure => have := Hk.out; omega
        case rel => exact ⟨j + 1, by have := Hk.out; omega, by go_num, Hn.out, rfl⟩
    · have Hn := Lib.hid (show meets xs ys = false by rw [← hr.out, drop_end hl.out (by omega)]; rfl)
      go_wp2_with fail
      go_ret
      exact ⟨ret_bool Hn.out.symm, rfl⟩
end Go.Proofs.Ytnkpiijljfjmkaa

/- Maps of clash.Why: pairs as keys, a range over a map of numbers, a map of maps. No condition. -/
set_option maxRecDepth 1000000
namespace Go.Proofs.Ytnkpiijljfjmkaa
open Go.ChangeShapes Go.WideShapes Go.ChangeAt Go.RowKit Go.Sort
open Go.WideElems (Fit rd rg pl rd_key rg_of rd_mk)
open Go.Maps (Keyed)

/-! pairs as keys -/
def pairOf : List Value → Option (Int × Int)
  | [.int .i64 a, .int .i64 b] => some (a, b)
  | _ => none
theorem pairOf_some {l : List Value} {x : Int × Int} (h : pairOf l = some x) : l = [.int .i64 x.1, .int .i64 x.2] := by
  unfold pairOf at h
  split at h
  · simp at h; subst h; rfl
  · cases h
def pairCode : Code (Int × Int) where
  enc x := .agg #[.int .i64 x.1, .int .i64 x.2]
  dec | .agg cs => pairOf cs.toList | _ => none
  dec_enc _ := rfl
  enc_dec v x h := by
    cases v with
    | agg cs =>
      have := pairOf_some h
      congr 1
      apply Array.ext'
      exact this
    | _ => simp at h
theorem underlying_pair_wide : (match Try.prog.underlying 77 with | some (.array _ _) | some (.struct _) => true | _ => false) = true := by rw [Try.underlying77]
theorem row_pair : (77 : TypeId) < Try.prog.types.size := of_decide_eq_true (by kernel_rfl)
theorem keyed_pair : Keyed Try.prog 77 := Keyed.of_law (deep_law_laid laidOut (m := 2) (by omega) row_pair (by kernel_rfl) underlying_pair_wide)
theorem keyOf_array2 {P : Program} {k ti : TypeId} (hu : P.underlying k = some (.array 2 ti)) (hi : P.underlying ti = some (.int .i64)) (hc : P.cellsOf k = 2) (hci : P.cellsOf ti = 1) (hk : P.keyType k = true) (hs : 0 < P.types.size) {a b : Int}
    (w1 : (Lit.int .i64 a).wf = true) (w2 : (Lit.int .i64 b).wf = true) : ∃ l, keyOf P k (.agg #[.int .i64 a, .int .i64 b]) = some l := by
  obtain ⟨d, hd⟩ : ∃ d, P.types.size = d + 1 := ⟨P.types.size - 1, by omega⟩
  refine ⟨.string (keyBytes [.int .i64 a, .int .i64 b]), ?_⟩
  unfold keyOf
  rw [hu]
  simp [hk, hd, Value.formed, Program.keyLits, hu, hi, hc, hci, w1, w2, Value.cells, List.range_succ]
theorem key_pair {x : Int × Int} (h1 : inI x.1) (h2 : inI x.2) : ∃ l, keyOf Try.prog 77 (pairCode.enc x) = some l :=
  keyOf_array2 Try.underlying77 Try.underlying3 (by kernel_rfl) (by kernel_rfl) (by kernel_rfl) types_pos (WalkArith.wf_i64 h1) (WalkArith.wf_i64 h2)

/-! a range over a map that holds just the numbers of a list -/
def Ranging (w : World) (b r n : Nat) (S : List Int) (gone : Int → Prop) (cnt : Nat) : Prop := ∃ (D : DataW Unit) (left : Lit → Bool), w.ranges Try.prog 3 trivR b r n D left cnt ∧
  (∀ (x : Int) kl, keyOf Try.prog 3 (.int .i64 x) = some kl → left kl = true → x ∈ S) ∧ (∀ x ∈ S, ∀ kl, keyOf Try.prog 3 (.int .i64 x) = some kl → left kl = false → gone x)
theorem ranging_start {w : World} {b n : Nat} {S : List Int} (h : MapOf intCode Value.bool w 3 b n (seenIn S)) {t e : TypeId} (ht : Try.prog.underlying t = some (.map 3 e)) :
    ∃ w' cnt, (Instr.range t (.map (some b))).run Try.prog w = .ok (.pointer (some ⟨w.heap.size, 0, none⟩)) w' ∧ Ranging w' b w.heap.size n S (fun _ => False) cnt ∧ w.grownBy w' none ∧ w'.heap.size = w.heap.size + 1 := by
  obtain ⟨es, clock, hb, F, hs, hf⟩ := h
  obtain ⟨w', hrun, hr, hg, hz⟩ := World.ownsMap.range (P := Try.prog) (k := 3) (R := trivR) (w := w) (b := b) (n := n) (t := t) (e := e) ⟨es, clock, hb, F, hs, rfl⟩ keyed_int ht
  refine ⟨w', _, hrun, ⟨_, _, hr, fun x kl hk hl => ?_, fun x hx kl hk hl => ?_⟩, hg, hz⟩
  · obtain ⟨p, hp, hpk⟩ := List.any_eq_true.1 hl
    obtain ⟨x0, hx0, rfl⟩ := List.mem_map.1 (mem_sorted.1 hp)
    have he := WideAt.sameKey_eq hpk
    obtain ⟨y, hy⟩ := F.reads x0 hx0
    have h1 := rd_key hy
    rw [rg_of hy] at he
    rw [he] at h1
    have h2 := keyed_int.inj h1 hk
    have h3 := hf.one x0 hx0
    rw [h2] at h3
    have h4 : (seenIn S x).map Value.bool = some x0.val := by
      have := intCode.lift_enc (seenIn S) Value.bool x
      exact this.symm.trans h3
    by_cases hm : x ∈ S
    · exact hm
    · rw [seen_no hm] at h4; cases h4
  · exfalso
    have h3 : intCode.lift (seenIn S) Value.bool (.int .i64 x) = some (.bool true) := by
      have := intCode.lift_enc (seenIn S) Value.bool x
      rw [seen_yes hx] at this
      exact this
    obtain ⟨x0, hx0, hk0, _⟩ := hf.all _ _ h3
    obtain ⟨y, hy⟩ := F.reads x0 hx0
    have h1 := rd_key hy
    rw [hk0, hk] at h1
    have hp : rg Try.prog 3 trivR x0 = y := rg_of hy
    have : Maps.has (DataW.map ((es.toList.map (rg Try.prog 3 trivR)).foldr DataW.insert [])) kl = true :=
      List.any_eq_true.2 ⟨y, mem_sorted.2 (List.mem_map.2 ⟨x0, hx0, hp⟩), by rw [← Option.some.inj h1]; exact WideAt.sameKey_self (keyed_int.key hk)⟩
    rw [this] at hl
    cases hl
theorem ranging_next {w : World} {b r n : Nat} {S : List Int} {gone : Int → Prop} {cnt : Nat} (h : Ranging w b r n S gone cnt) (hi : ∀ x ∈ S, inI x) (ty : TypeId) :
    ((∀ x ∈ S, gone x) ∧ (Instr.next (.pointer (some ⟨r, 0, none⟩)) false ty).run Try.prog w = .ok (.tuple #[.bool false]) w) ∨
    ∃ (x : Int) (v : Value) (w' : World) (cnt' : Nat), x ∈ S ∧ (Instr.next (.pointer (some ⟨r, 0, none⟩)) false ty).run Try.prog w = .ok (.tuple #[.bool true, .int .i64 x, v]) w' ∧
      Ranging w' b r n S (fun z => gone z ∨ z = x) cnt' ∧ cnt' < cnt ∧ w.grownBy w' (some r) ∧ w'.heap.size = w.heap.size ∧ (Instr.entry (.pointer (some ⟨r, 0, none⟩))).run Try.prog w' = .ok (.tuple #[.int .i64 x, v]) w' := by
  obtain ⟨D, left, hr, h1, h2⟩ := h
  rcases hr.next keyed_int ty with ⟨_, hl, hrun⟩ | ⟨key, v, kl, y, w', cnt', hkey, hlk, _, _, hrun, hr', hlt, hg, hz, hen⟩
  · exact .inl ⟨fun x hx => by obtain ⟨kl, hk⟩ := key_int (hi x hx); exact h2 x hx kl hk (hl kl), hrun⟩
  · obtain ⟨x, rfl, rfl, _⟩ := Maps.keyOf_int_inv Try.underlying3 hkey
    refine .inr ⟨x, v, w', cnt', h1 x _ hkey hlk, hrun, ⟨D, _, hr', fun z kz hz hzl => h1 z kz hz (by simp at hzl; exact hzl.1), fun z hz kz hkz hzl => ?_⟩, hlt, hg, hz, hen⟩
    simp only [Bool.and_eq_false_iff, Bool.not_eq_false'] at hzl
    rcases hzl with hzl | hzl
    · exact .inl (h2 z hz kz hkz hzl)
    · right
      have := WideAt.sameKey_eq hzl
      rw [this] at hkz
      have := keyed_int.inj hkz hkey
      simpa using this
theorem Ranging.kept {w w' : World} {b r n : Nat} {S : List Int} {gone : Int → Prop} {cnt : Nat} (h : Ranging w b r n S gone cnt) {row : Option Nat} (hg : w.grownBy w' row) (h1 : some b ≠ row) (h2 : some r ≠ row) : Ranging w' b r n S gone cnt := by
  obtain ⟨D, left, hr, h3, h4⟩ := h
  exact ⟨D, left, hr.kept hg h1 h2, h3, h4⟩
theorem Ranging.weak {w : World} {b r n : Nat} {S : List Int} {gone gone' : Int → Prop} {cnt : Nat} (h : Ranging w b r n S gone cnt) (hw : ∀ x ∈ S, gone x → gone' x) : Ranging w b r n S gone' cnt := by
  obtain ⟨D, left, hr, h3, h4⟩ := h
  exact ⟨D, left, hr, h3, fun x hx kl hk hl => hw x hx (h4 x hx kl hk hl)⟩

section
variable {P : Program} (w : World) {ops : Array Oper} {rest : List Oper} {o : Oper} {a : Act} {Q : Exit → Act → World → Prop}
theorem wpList_nextC (hg : o.guard = none) (it : Operand) (hop : o.op = Op.next it false) {iv v : Value} {w' : World} (hi : a.eval it = iv) (hrun : (Instr.next iv false o.type).run P w = .ok v w')
    (hK : wpList P ops Q rest (a.put o.dst v) w') : wpList P ops Q (o :: rest) a w := by
  refine wpList_plain hg fun K' hK' => ?_
  unfold Oper.wp
  simp [execOp, hop, hi, hrun, Result.andThen]
  exact hK' _ _ hK
end

theorem wpList_nextR {w : World} {ops : Array Oper} {rest : List Oper} {o : Oper} {a : Act} {Q : Exit → Act → World → Prop} (hg : o.guard = none) (it : Operand) (hop : o.op = Op.next it false) {b r n cnt : Nat} {S : List Int} {gone : Int → Prop} (hi : a.eval it = .pointer (some ⟨r, 0, none⟩)) (h : Ranging w b r n S gone cnt) (hS : ∀ x ∈ S, inI x)
    (hDone : (∀ x ∈ S, gone x) → wpList Try.prog ops Q rest (a.put o.dst (.tuple #[.bool false])) w)
    (hMore : ∀ (x : Int) (v : Value) (w' : World) (cnt' : Nat), x ∈ S → Ranging w' b r n S (fun z => gone z ∨ z = x) cnt' → cnt' < cnt → w.grownBy w' (some r) → w'.heap.size = w.heap.size →
      (Instr.entry (.pointer (some ⟨r, 0, none⟩))).run Try.prog w' = .ok (.tuple #[.int .i64 x, v]) w' → wpList Try.prog ops Q rest (a.put o.dst (.tuple #[.bool true, .int .i64 x, v])) w') :
    wpList Try.prog ops Q (o :: rest) a w := by
  refine wpList_plain hg fun K' hK' => ?_
  unfold Oper.wp
  rcases ranging_next h hS o.type with ⟨hl, hrun⟩ | ⟨x, v, w', cnt', hx, hrun, hr, hlt, hgr, hsz, hen⟩
  · simp [execOp, hop, hi, hrun, Result.andThen]
    exact hK' _ _ (hDone hl)
  · simp [execOp, hop, hi, hrun, Result.andThen]
    exact hK' _ _ (hMore x v w' cnt' hx hr hlt hgr hsz hen)

/-! the map of maps: element number -> the positions that are wanted -/
def posOf (L : List Need) (e : Int) : List Int := (L.filter fun x => decide (x.e = e)).map (·.pos)
theorem posOf_snoc_same (L : List Need) (q : Need) : posOf (L ++ [q]) q.e = posOf L q.e ++ [q.pos] := by simp [posOf, List.filter_append]
theorem posOf_snoc_other (L : List Need) {q : Need} {e : Int} (h : q.e ≠ e) : posOf (L ++ [q]) e = posOf L e := by simp [posOf, List.filter_append, h]
theorem posOf_none {L : List Need} {e : Int} (h : ∀ x ∈ L, x.e ≠ e) : posOf L e = [] := by
  unfold posOf
  rw [List.filter_eq_nil_iff.2 (fun x hx => by simpa using h x hx)]; rfl
theorem mem_posOf {L : List Need} {e x : Int} : x ∈ posOf L e ↔ (⟨e, x⟩ : Need) ∈ L := by
  unfold posOf
  constructor
  · intro h
    obtain ⟨y, hy, rfl⟩ := List.mem_map.1 h
    obtain ⟨h1, h2⟩ := List.mem_filter.1 hy
    have : y.e = e := by simpa using h2
    subst this; exact h1
  · intro h
    exact List.mem_map.2 ⟨⟨e, x⟩, List.mem_filter.2 ⟨h, by simp⟩, rfl⟩
def mapVal (g : Nat) : Value := .map (some g)
structure AtMap (w : World) (base ab n : Nat) (L : List Need) (M : Int → Option Nat) : Prop where
  map : MapOf intCode mapVal w 3 ab n M
  out : ∀ e, M e = none → ∀ x ∈ L, x.e ≠ e
  inn : ∀ e g, M e = some g → base ≤ g ∧ g ≠ ab ∧ MapOf intCode Value.bool w 3 g n (seenIn (posOf L e))
  inj : ∀ e e' g, M e = some g → M e' = some g → e = e'
theorem AtMap.keep {w w' : World} {base ab n : Nat} {L : List Need} {M : Int → Option Nat} (h : AtMap w base ab n L M) (hb : Below w.heap.size w w') : AtMap w' base ab n L M :=
  ⟨h.map.below hb h.map.lt, h.out, fun e g he => ⟨(h.inn e g he).1, (h.inn e g he).2.1, (h.inn e g he).2.2.below hb (h.inn e g he).2.2.lt⟩, h.inj⟩
theorem zero_map (w : World) : (zeroValue 67).run Try.prog w = .ok (.map none) w := by kernel_rfl
theorem eqlm_nil (w : World) : (binOp .eql 67 (.map none) (.map none)).run Try.prog w = .ok (.bool true) w := by kernel_rfl
theorem eqlm_some (g : Nat) (w : World) : (binOp .eql 67 (.map (some g)) (.map none)).run Try.prog w = .ok (.bool false) w := by kernel_rfl
/-- a new inner map, stored under an element that has none -/
theorem AtMap.fresh {w w' : World} {base ab n : Nat} {L : List Need} {M : Int → Option Nat} {e : Int} {g : Nat} (h : AtMap w base ab n L M) (hM : M e = none) (hb : base ≤ w.heap.size) (hgz : w.heap.size = g)
    (hm : MapOf intCode mapVal w' 3 ab (n + 1) (fun z => if z = e then some g else M z)) (hg : (w.alloc (.map #[] 0)).grownBy w' (some ab)) : AtMap w' base ab (n + 1) L (fun z => if z = e then some g else M z) := by
  subst hgz
  have hab := h.map.lt
  refine ⟨hm, fun z hz x hx => ?_, fun z g' hz => ?_, fun z z' g' hz hz' => ?_⟩
  · split at hz
    · cases hz
    · exact h.out z hz x hx
  · split at hz
    · rename_i he
      cases hz
      refine ⟨hb, by omega, ?_⟩
      rw [he, posOf_none (h.out e hM)]
      have h1 := (MapOf.made intCode Value.bool w 3).congr (m' := seenIn []) (fun x => by rw [seen_no (by simp)])
      exact (h1.mono (by omega : 0 ≤ n + 1)).kept hg (by simp; omega)
    · obtain ⟨h1, h2, h3⟩ := h.inn z g' hz
      exact ⟨h1, h2, ((h3.alloc _).mono (by omega)).kept hg (by simpa using h2)⟩
  · split at hz
    · rename_i he
      split at hz'
      · rename_i he'; rw [he, he']
      · cases hz
        have := (h.inn z' _ hz').2.2.lt
        omega
    · split at hz'
      · cases hz'
        have := (h.inn z _ hz).2.2.lt
        omega
      · exact h.inj z z' g' hz hz'
theorem atmap_made (w : World) (B : Nat) : AtMap (w.alloc (.map #[] 0)) B w.heap.size 0 [] (fun _ => none) :=
  ⟨MapOf.made intCode mapVal w 3, fun _ _ x hx => (by cases hx), fun e g h => (by cases h), fun e e' g h => (by cases h)⟩
theorem AtMap.more {w : World} {base ab n n' : Nat} {L : List Need} {M : Int → Option Nat} (h : AtMap w base ab n L M) (hn : n ≤ n') : AtMap w base ab n' L M :=
  ⟨h.map.mono hn, h.out, fun e g he => ⟨(h.inn e g he).1, (h.inn e g he).2.1, (h.inn e g he).2.2.mono hn⟩, h.inj⟩
theorem AtMap.base {w : World} {base base' ab n : Nat} {M : Int → Option Nat} (h : AtMap w base ab n [] M) (hM : ∀ e, M e = none) : AtMap w base' ab n [] M :=
  ⟨h.map, h.out, fun e g he => (by rw [hM] at he; cases he), h.inj⟩
theorem needs_kept {w w' : World} {a : Option Addr} {n r : Nat} {xs : List Need} (h : Needs w a n xs) (hg : w.grownBy w' (some r)) (hne : ∀ k, a.map (·.block) = some k → k ≠ r) : Needs w' a n xs :=
  h.kept fun b e hlt => hg.block b hlt (by simpa using hne b e)
/-- a position more -/
theorem AtMap.put {w w' : World} {base ab n g : Nat} {L : List Need} {M : Int → Option Nat} {q : Need} (h : AtMap w base ab n L M) (hM : M q.e = some g)
    (hm : MapOf intCode Value.bool w' 3 g (n + 1) (seenIn (posOf (L ++ [q]) q.e))) (hg : w.grownBy w' (some g)) : AtMap w' base ab (n + 1) (L ++ [q]) M := by
  obtain ⟨g1, g2, _⟩ := h.inn q.e g hM
  refine ⟨(h.map.mono (by omega)).kept hg (by simpa using fun hc => g2 hc.symm), fun z hz x hx => ?_, fun z g' hz => ?_, h.inj⟩
  · rcases List.mem_append.1 hx with hx | hx
    · exact h.out z hz x hx
    · simp at hx; subst hx
      intro hc; rw [hc, hz] at hM; cases hM
  · obtain ⟨h1, h2, h3⟩ := h.inn z g' hz
    by_cases he : z = q.e
    · subst he
      rw [hM] at hz; cases hz
      exact ⟨h1, h2, hm⟩
    · refine ⟨h1, h2, ?_⟩
      rw [posOf_snoc_other L (fun hc => he hc.symm)]
      have hne : g' ≠ g := fun hc => he (h.inj z q.e g' hz (by rw [hM, hc]))
      exact (h3.mono (by omega)).kept hg (by simpa using hne)
end Go.Proofs.Ytnkpiijljfjmkaa

/- Walk of clash.Why. Condition: the receiver is a net; the roads are read. -/
set_option maxRecDepth 1000000
namespace Go.Proofs.Ytnkpiijljfjmkaa
open Go.ChangeShapes Go.WideShapes Go.ChangeAt Go.RowKit Go.Sort
open Go.Maps (Keyed)

theorem any_swap {α β : Type} (f : α → β → Bool) (l : List α) (m : List β) : (l.any fun x => m.any fun y => f x y) = m.any fun y => l.any fun x => f x y := by
  rw [Bool.eq_iff_iff]
  simp only [List.any_eq_true]
  constructor
  · rintro ⟨x, hx, y, hy, h⟩; exact ⟨y, hy, x, hx, h⟩
  · rintro ⟨y, hy, x, hx, h⟩; exact ⟨x, hx, y, hy, h⟩
def pairsOf (p : Plan) (l : List Stp) : List (Int × Int) := (l.filter fun s => decide (0 ≤ lineNo p s.e)).map fun s => (lineNo p s.e, lead p s.e s.i)
theorem pairs_yes {p : Plan} {l : List Stp} {j : Nat} {s : Stp} (hs : l[j]? = some s) (h : 0 ≤ lineNo p s.e) : pairsOf p (l.take (j + 1)) = pairsOf p (l.take j) ++ [(lineNo p s.e, lead p s.e s.i)] := by
  rw [List.take_add_one, hs]; simp [pairsOf, List.filter_append, h]
theorem pairs_no {p : Plan} {l : List Stp} {j : Nat} {s : Stp} (hs : l[j]? = some s) (h : ¬ 0 ≤ lineNo p s.e) : pairsOf p (l.take (j + 1)) = pairsOf p (l.take j) := by
  rw [List.take_add_one, hs]; simp [pairsOf, List.filter_append, h]
theorem mem_pairs {p : Plan} {l : List Stp} {a d : Int} : (a, d) ∈ pairsOf p l ↔ 0 ≤ a ∧ ∃ s ∈ l, lineNo p s.e = a ∧ lead p s.e s.i = d := by
  unfold pairsOf
  rw [List.mem_map]
  constructor
  · rintro ⟨s, hs, he⟩
    obtain ⟨h1, h2⟩ := List.mem_filter.1 hs
    cases he
    exact ⟨by simpa using h2, s, h1, rfl, rfl⟩
  · rintro ⟨h0, s, hs, rfl, rfl⟩
    exact ⟨s, List.mem_filter.2 ⟨hs, by simpa using h0⟩, rfl⟩
theorem lead_three (p : Plan) (e i : Int) : lead p e i = 0 ∨ lead p e i = 1 ∨ lead p e i = 2 := by
  unfold lead
  split
  · exact .inl rfl
  · split
    · exact .inl rfl
    · split
      · exact .inr (.inl rfl)
      · exact .inr (.inr rfl)
theorem opp_hit {p : Plan} {a : List Stp} {t : Stp} {d : Int} (h1 : d ≠ lead p t.e t.i) (h2 : (lineNo p t.e, d) ∈ pairsOf p a) : (a.any fun s => opposed p s t) = true := by
  obtain ⟨h0, s, hs, e1, e2⟩ := mem_pairs.1 h2
  exact List.any_eq_true.2 ⟨s, hs, by unfold opposed; rw [e1, e2]; simp [h0, h1]⟩
theorem opp_low {p : Plan} {a : List Stp} {t : Stp} (h : ¬ 0 ≤ lineNo p t.e) : (a.any fun s => opposed p s t) = false := by
  rw [List.any_eq_false]
  intro s _ hc
  unfold opposed at hc
  simp at hc
  omega
theorem opp_none {p : Plan} {a : List Stp} {t : Stp} (h : ∀ d : Nat, d < 3 → ¬ ((d : Int) ≠ lead p t.e t.i ∧ (lineNo p t.e, (d : Int)) ∈ pairsOf p a)) : (a.any fun s => opposed p s t) = false := by
  rw [List.any_eq_false]
  intro s hs hc
  unfold opposed at hc
  simp at hc
  obtain ⟨⟨c1, c2⟩, c3⟩ := hc
  have hp : ∀ d : Int, lead p s.e s.i = d → (lineNo p t.e, d) ∈ pairsOf p a := fun d hd => mem_pairs.2 ⟨by omega, s, hs, c2, hd⟩
  rcases lead_three p s.e s.i with e | e | e
  · exact h 0 (by omega) ⟨by intro hc; rw [e] at c3; exact c3 hc, hp 0 e⟩
  · exact h 1 (by omega) ⟨by intro hc; rw [e] at c3; exact c3 hc, hp 1 e⟩
  · exact h 2 (by omega) ⟨by intro hc; rw [e] at c3; exact c3 hc, hp 2 e⟩
theorem lineFrom_lt {L : List Line} {e : Int} : ∀ {i : Nat} {q : Nat × Nat}, lineFrom i L e = some q → q.1 < i + L.length := by
  induction L with
  | nil => intro i q h; cases h
  | cons x r ih =>
    intro i q h
    unfold lineFrom at h
    split at h
    · cases h; simp only [List.length_cons]; omega
    · have := ih h; simp only [List.length_cons]; omega
theorem lineNo_in {p : Plan} (hc : chk p = 0) (e : Int) : inI (lineNo p e) := by
  have hl : p.lines.length ≤ 4 := by
    unfold chk at hc
    split at hc
    · cases hc
    · rename_i h; unfold tooMuch at h; simp at h; omega
  unfold lineNo
  split
  · exact inI_mk (by omega) (by omega)
  · rename_i q h
    have := lineFrom_lt h
    exact inI_mk (by omega) (by omega)
theorem lead_inI (p : Plan) (e i : Int) : inI (lead p e i) := by
  rcases lead_three p e i with h | h | h <;> rw [h] <;> exact inI_mk (by omega) (by omega)
theorem boxes2 (w : World) (va vb : RV) (a b : Road) : ∃ W0, W0 = (w.alloc (.cells (va.cells a) 38)).alloc (.cells (vb.cells b) 38) ∧
    Below w.heap.size w W0 ∧ RBox W0 w.heap.size va a ∧ RBox W0 (w.heap.size + 1) vb b ∧ W0.heap.size = w.heap.size + 2 := by
  refine ⟨_, rfl, ?_, ?_, ?_, by simp⟩
  · exact ((Below.refl _ _).alloc (Nat.le_refl _) _).alloc (by simp) _
  · exact (rbox_new w va a).below (below_new1 _ _)
  · have h := rbox_new (w.alloc (.cells (va.cells a) 38)) vb b
    rwa [show (w.alloc (.cells (va.cells a) 38)).heap.size = w.heap.size + 1 by simp] at h
theorem elems_in {v : RV} {r : Road} (h : RoadFit v r) : ∀ x ∈ r.elems, inI x := by
  intro x hx
  obtain ⟨s, hs, rfl⟩ := List.mem_map.1 hx
  exact (h.s s hs).1
theorem all_in {v : RV} {r : Road} (h : RoadFit v r) : ∀ x ∈ r.all, inI x.e ∧ inI x.pos := by
  intro x hx
  rcases List.mem_append.1 hx with hx | hx
  · exact h.n x hx
  · exact h.g x hx
theorem meets_comm (a b : List Int) : meets a b = meets b a := by
  rw [Bool.eq_iff_iff]
  simp only [meets, List.any_eq_true, decide_eq_true_eq]
  constructor
  · rintro ⟨x, h1, h2⟩; exact ⟨x, h2, h1⟩
  · rintro ⟨x, h1, h2⟩; exact ⟨x, h2, h1⟩
set_option maxHeartbeats 16000000 in
theorem why_any (w : World) (nb : Nat) (p : Plan) (h : NetAt w nb p) (va vb : RV) (a b : Road) (h1 : RoadAt w va a) (h2 : RoadAt w vb b) (l1 : Lite va) (l2 : Lite vb) :
    Calls Try.prog 13 #[.pointer (some ⟨nb, 0, none⟩), va.val a, vb.val b] w fun en w' => en = .returned (.int .i64 (why p a b)) ∧ Below w.heap.size w w' := by
  have Hea := Lib.hid (elems_in h1.fit)
  have Heb := Lib.hid (elems_in h2.fit)
  have Hza := Lib.hid h1.fit.z
  have Hzb := Lib.hid h2.fit.z
  have Haa := Lib.hid (all_in h1.fit)
  have Hab := Lib.hid (all_in h2.fit)
  have Hsa := Lib.hid h1.fit.s
  have Hsb := Lib.hid h2.fit.s
  obtain ⟨sa1, sn1, sc1, na1, nn1, nc1, ga1, gn1, gc1, za1, zn1, zc1, ha1, hn1, hc1⟩ := va
  obtain ⟨sa2, sn2, sc2, na2, nn2, nc2, ga2, gn2, gc2, za2, zn2, zc2, ha2, hn2, hc2⟩ := vb
  obtain ⟨W0, hW0, hb0, hRa, hRb, hz0⟩ := boxes2 w ⟨sa1, sn1, sc1, na1, nn1, nc1, ga1, gn1, gc1, za1, zn1, zc1, ha1, hn1, hc1⟩ ⟨sa2, sn2, sc2, na2, nn2, nc2, ga2, gn2, gc2, za2, zn2, zc2, ha2, hn2, hc2⟩ a b
  have HN0 := Lib.hid (h.below hb0)
  have h1 := Lib.hid (h1.below hb0)
  have h2 := Lib.hid (h2.below hb0)
  have lm1 : sn1 ≤ 100 := l1.s
  have lm2 : sn2 ≤ 100 := l2.s
  have lm3 : nn1 ≤ 100 := l1.n
  have lm4 : gn1 ≤ 100 := l1.g
  have lm5 : nn2 ≤ 100 := l2.n
  have lm6 : gn2 ≤ 100 := l2.g
  have lm7 : zn1 ≤ 100 := l1.z
  have lm8 : zn2 ≤ 100 := l2.z
  have Hb0 := Lib.hid hb0
  have HRa := Lib.hid hRa
  have HRb := Lib.hid hRb
  clear h hb0 hRa hRb hz0 l1 l2
  dsimp only [RV.val]
  dsimp only [RV.cells] at hW0
  go_enter Try.func13, Try.ntmps13
  go_wp2_with fail
  rw [← hW0]
  clear hW0
  have Hv := Lib.hid (Below.refl W0.heap.size W0)
  obtain ⟨hla, qa0, qa1, qa2, qa3, qa4, qa5, qa6, qa7, qa8⟩ := HRa.out.below Hv.out
  dsimp only at qa0 qa1 qa2 qa3 qa4 qa5 qa6 qa7 qa8
  obtain ⟨hlb, qb0, qb1, qb2, qb3, qb4, qb5, qb6, qb7, qb8⟩ := HRb.out.below Hv.out
  dsimp only at qb0 qb1 qb2 qb3 qb4 qb5 qb6 qb7 qb8
  go_wp2_with fail
  have hSall : ∀ w' : World, Below (W0).heap.size (W0) w' → (w'.cell? ⟨w.heap.size, 0, none⟩ = some (.int .i64 a.frm) ∧ w'.cell? ⟨w.heap.size, 1, none⟩ = some (.int .i64 a.to) ∧ w'.cell? ⟨w.heap.size, 2, none⟩ = some (.int .i64 a.fin) ∧ w'.cell? ⟨w.heap.size, 3, none⟩ = some (.slice sa1 sn1 sc1) ∧ w'.cell? ⟨w.heap.size, 4, none⟩ = some (.slice na1 nn1 nc1) ∧ w'.cell? ⟨w.heap.size, 5, none⟩ = some (.slice ga1 gn1 gc1) ∧ w'.cell? ⟨w.heap.size, 6, none⟩ = some (.slice za1 zn1 zc1) ∧ w'.cell? ⟨w.heap.size, 7, none⟩ = some (.slice ha1 hn1 hc1) ∧ w'.cell? ⟨w.heap.size, 8, none⟩ = some (.bool a.bare) ∧ w'.cell? ⟨w.heap.size + 1, 0, none⟩ = some (.int .i64 b.frm) ∧ w'.cell? ⟨w.heap.size + 1, 1, none⟩ = some (.int .i64 b.to) ∧ w'.cell? ⟨w.heap.size + 1, 2, none⟩ = some (.int .i64 b.fin) ∧ w'.cell? ⟨w.heap.size + 1, 3, none⟩ = some (.slice sa2 sn2 sc2) ∧ w'.cell? ⟨w.heap.size + 1, 4, none⟩ = some (.slice na2 nn2 nc2) ∧ w'.cell? ⟨w.heap.size + 1, 5, none⟩ = some (.slice ga2 gn2 gc2) ∧ w'.cell? ⟨w.heap.size + 1, 6, none⟩ = some (.slice za2 zn2 zc2) ∧ w'.cell? ⟨w.heap.size + 1, 7, none⟩ = some (.slice ha2 hn2 hc2) ∧ w'.cell? ⟨w.heap.size + 1, 8, none⟩ = some (.bool b.bare)) := fun w' hb => ⟨(hb.cell (p := ⟨w.heap.size, 0, none⟩) hla).trans qa0, (hb.cell (p := ⟨w.heap.size, 1, none⟩) hla).trans qa1, (hb.cell (p := ⟨w.heap.size, 2, none⟩) hla).trans qa2, (hb.cell (p := ⟨w.heap.size, 3, none⟩) hla).trans qa3, (hb.cell (p := ⟨w.heap.size, 4, none⟩) hla).trans qa4, (hb.cell (p := ⟨w.heap.size, 5, none⟩) hla).trans qa5, (hb.cell (p := ⟨w.heap.size, 6, none⟩) hla).trans qa6, (hb.cell (p := ⟨w.heap.size, 7, none⟩) hla).trans qa7, (hb.cell (p := ⟨w.heap.size, 8, none⟩) hla).trans qa8, (hb.cell (p := ⟨w.heap.size + 1, 0, none⟩) hlb).trans qb0, (hb.cell (p := ⟨w.heap.size + 1, 1, none⟩) hlb).trans qb1, (hb.cell (p := ⟨w.heap.size + 1, 2, none⟩) hlb).trans qb2, (hb.cell (p := ⟨w.heap.size + 1, 3, none⟩) hlb).trans qb3, (hb.cell (p := ⟨w.heap.size + 1, 4, none⟩) hlb).trans qb4, (hb.cell (p := ⟨w.heap.size + 1, 5, none⟩) hlb).trans qb5, (hb.cell (p := ⟨w.heap.size + 1, 6, none⟩) hlb).trans qb6, (hb.cell (p := ⟨w.heap.size + 1, 7, none⟩) hlb).trans qb7, (hb.cell (p := ⟨w.heap.size + 1, 8, none⟩) hlb).trans qb8⟩
  refine wp_region_noPanic ?_
  refine region_upto (S := fun w' => w'.cell? ⟨w.heap.size, 0, none⟩ = some (.int .i64 a.frm) ∧ w'.cell? ⟨w.heap.size, 1, none⟩ = some (.int .i64 a.to) ∧ w'.cell? ⟨w.heap.size, 2, none⟩ = some (.int .i64 a.fin) ∧ w'.cell? ⟨w.heap.size, 3, none⟩ = some (.slice sa1 sn1 sc1) ∧ w'.cell? ⟨w.heap.size, 4, none⟩ = some (.slice na1 nn1 nc1) ∧ w'.cell? ⟨w.heap.size, 5, none⟩ = some (.slice ga1 gn1 gc1) ∧ w'.cell? ⟨w.heap.size, 6, none⟩ = some (.slice za1 zn1 zc1) ∧ w'.cell? ⟨w.heap.size, 7, none⟩ = some (.slice ha1 hn1 hc1) ∧ w'.cell? ⟨w.heap.size, 8, none⟩ = some (.bool a.bare) ∧ w'.cell? ⟨w.heap.size + 1, 0, none⟩ = some (.int .i64 b.frm) ∧ w'.cell? ⟨w.heap.size + 1, 1, none⟩ = some (.int .i64 b.to) ∧ w'.cell? ⟨w.heap.size + 1, 2, none⟩ = some (.int .i64 b.fin) ∧ w'.cell? ⟨w.heap.size + 1, 3, none⟩ = some (.slice sa2 sn2 sc2) ∧ w'.cell? ⟨w.heap.size + 1, 4, none⟩ = some (.slice na2 nn2 nc2) ∧ w'.cell? ⟨w.heap.size + 1, 5, none⟩ = some (.slice ga2 gn2 gc2) ∧ w'.cell? ⟨w.heap.size + 1, 6, none⟩ = some (.slice za2 zn2 zc2) ∧ w'.cell? ⟨w.heap.size + 1, 7, none⟩ = some (.slice ha2 hn2 hc2) ∧ w'.cell? ⟨w.heap.size + 1, 8, none⟩ = some (.bool b.bare)) (n := 6) (by kernel_rfl) ?_
  refine uk 0 ((.agg #[.int .i64 a.frm, .int .i64 a.to, .int .i64 a.fin, .slice sa1 sn1 sc1, .slice na1 nn1 nc1, .slice ga1 gn1 gc1, .slice za1 zn1 zc1, .slice ha1 hn1 hc1, .bool a.bare])) ?_ (hSall _ (by with_reducible repeat (first | exact Below.refl _ _ | assumption | exact below_new _ _ | apply below_drewN | apply Below.drew | refine below_set (Nat.le_refl _) ?_ _ | (refine below_set ?_ ?_ _; omega) | refine Below.alloc ?_ (by first | omega | (simp; omega) | simp) _))) ?_
  · intro w' hSw
    (try dsimp only at hSw)
    go_simp
  (try simp only [zA, zC, Act.put, zD, zE, zF])
  refine uk 2 ((.agg #[.int .i64 b.frm, .int .i64 b.to, .int .i64 b.fin, .slice sa2 sn2 sc2, .slice na2 nn2 nc2, .slice ga2 gn2 gc2, .slice za2 zn2 zc2, .slice ha2 hn2 hc2, .bool b.bare])) ?_ (hSall _ (by with_reducible repeat (first | exact Below.refl _ _ | assumption | exact below_new _ _ | apply below_drewN | apply Below.drew | refine below_set (Nat.le_refl _) ?_ _ | (refine below_set ?_ ?_ _; omega) | refine Below.alloc ?_ (by first | omega | (simp; omega) | simp) _))) ?_
  · intro w' hSw
    (try dsimp only at hSw)
    go_simp
  (try simp only [zA, zB, zC, Act.put, zD, zE, zF])
  refine upto_step (i := 1) (by kernel_rfl) rfl (fun K hK => ?_)
  go_simp
  refine (elems_l (h1.out.below (below_step Hv.out (Below.refl W0.heap.size W0).drew Hv.out.size)) lm1).mono ?_
  rintro en v1 ⟨ax, nx, cx, rfl, hx, hxc, hbx⟩
  have hbx1 : Below W0.heap.size W0 v1 := (Below.refl W0.heap.size W0).drew.trans hbx
  refine hK _ _ (fun _ => (hSall _ (by with_reducible repeat (first | exact Below.refl _ _ | assumption | exact below_new _ _ | apply below_drewN | apply Below.drew | refine below_set (Nat.le_refl _) ?_ _ | (refine below_set ?_ ?_ _; omega) | refine Below.alloc ?_ (by first | omega | (simp; omega) | simp) _)))) ?_
  clear hK K
  (try simp only [zA, zB, zC, Act.put, zD, zE, zF])
  refine upto_step (i := 3) (by kernel_rfl) rfl (fun K hK => ?_)
  go_simp
  refine (elems_l (h2.out.below (below_step Hv.out hbx1 Hv.out.size)) lm2).mono ?_
  rintro en v2 ⟨ay, ny, cy, rfl, hy, hyc, hb2⟩
  have hbx2 : Below W0.heap.size W0 v2 := below_step hbx1 hb2 hbx1.size
  refine hK _ _ (fun _ => (hSall _ (by with_reducible repeat (first | exact Below.refl _ _ | assumption | exact below_new _ _ | apply below_drewN | apply Below.drew | refine below_set (Nat.le_refl _) ?_ _ | (refine below_set ?_ ?_ _; omega) | refine Below.alloc ?_ (by first | omega | (simp; omega) | simp) _)))) ?_
  clear hK K
  (try simp only [zA, zB, zC, Act.put, zD, zE, zF])
  refine upto_step (i := 4) (by kernel_rfl) rfl (fun K hK => ?_)
  go_simp
  refine hK _ _ (fun _ => (hSall _ (by with_reducible repeat (first | exact Below.refl _ _ | assumption | exact below_new _ _ | apply below_drewN | apply Below.drew | refine below_set (Nat.le_refl _) ?_ _ | (refine below_set ?_ ?_ _; omega) | refine Below.alloc ?_ (by first | omega | (simp; omega) | simp) _)))) ?_
  clear hK K
  (try simp only [zA, zB, zC, Act.put, zD, zE, zF])
  refine upto_step (i := 5) (by kernel_rfl) rfl (fun K hK => ?_)
  go_simp
  refine hK _ _ (fun _ => (hSall _ (by with_reducible repeat (first | exact Below.refl _ _ | assumption | exact below_new _ _ | apply below_drewN | apply Below.drew | refine below_set (Nat.le_refl _) ?_ _ | (refine below_set ?_ ?_ _; omega) | refine Below.alloc ?_ (by first | omega | (simp; omega) | simp) _)))) ?_
  clear hK K
  (try simp only [zA, zB, zC, Act.put, zD, zE, zF])
  refine upto_done (by kernel_rfl) (NoPanic.normal ?_) _
  clear hSall
  have hx2 := hx.below hb2
  have Hv2 := Lib.hid (below_step Hv.out hbx2 Hv.out.size)
  have Hx := Lib.hid hx2
  have Hy := Lib.hid hy
  clear hx hy hbx hbx1 hb2 hbx2 hx2
  clear qa0 qa1 qa2 qa3 qa4 qa5 qa6 qa7 qa8 qb0 qb1 qb2 qb3 qb4 qb5 qb6 qb7 qb8 hla hlb
  obtain ⟨hla, qa0, qa1, qa2, qa3, qa4, qa5, qa6, qa7, qa8⟩ := HRa.out.below Hv2.out
  dsimp only at qa0 qa1 qa2 qa3 qa4 qa5 qa6 qa7 qa8
  obtain ⟨hlb, qb0, qb1, qb2, qb3, qb4, qb5, qb6, qb7, qb8⟩ := HRb.out.below Hv2.out
  dsimp only at qb0 qb1 qb2 qb3 qb4 qb5 qb6 qb7 qb8
  have hnx : nx ≤ 100 := by have e1 := Hx.out.len; have e2 := h1.out.s.len; simp only [Road.elems, List.length_map] at e1; dsimp only at e2; omega
  have hny : ny ≤ 100 := by have e1 := Hy.out.len; have e2 := h2.out.s.len; simp only [Road.elems, List.length_map] at e1; dsimp only at e2; omega
  by_cases e1 : a.frm = b.frm
  · have d1 : (a.frm == b.frm) = true := by simpa using e1
    have Hn := Lib.hid (show why p a b = 1 by unfold why; rw [if_pos e1])
    clear e1
    go_wp2_with fail
    go_ret
    exact ⟨ret_int Hn.out.symm, below_step Hb0.out Hv2.out Hb0.out.size⟩
  · have d1 : (a.frm == b.frm) = false := by simpa using e1
    have HS := Lib.hid (set_any v2 ay ny cy _ Hy.out (by omega) Heb.out)
    go_wp2_with fail
    refine HS.out.mono ?_
    rintro en v3 ⟨mb, mn, rfl, _, hmm, hb3⟩
    have Hv3 := Lib.hid (below_step Hv2.out hb3 Hv2.out.size)
    have Hx3 := Lib.hid (Hx.out.below hb3)
    have Hy3 := Lib.hid (Hy.out.below hb3)
    have HM := Lib.hid (meet_any v3 ax nx cx mb mn _ _ Hx3.out Hea.out hmm)
    clear hb3 hmm HS qa0 qa1 qa2 qa3 qa4 qa5 qa6 qa7 qa8 qb0 qb1 qb2 qb3 qb4 qb5 qb6 qb7 qb8 hla hlb
    obtain ⟨hla, qa0, qa1, qa2, qa3, qa4, qa5, qa6, qa7, qa8⟩ := HRa.out.below Hv3.out
    dsimp only at qa0 qa1 qa2 qa3 qa4 qa5 qa6 qa7 qa8
    obtain ⟨hlb, qb0, qb1, qb2, qb3, qb4, qb5, qb6, qb7, qb8⟩ := HRb.out.below Hv3.out
    dsimp only at qb0 qb1 qb2 qb3 qb4 qb5 qb6 qb7 qb8

    cases m2 : meets a.elems b.elems with
    | true =>
      have Hn := Lib.hid (show why p a b = 2 by unfold why; rw [if_neg e1, if_pos m2])
      rw [m2] at HM
      clear e1 m2
      go_wp2_with fail
      refine HM.out.mono ?_
      rintro en v3_ ⟨rfl, rfl⟩
      go_wp2_with fail
      go_ret
      exact ⟨ret_int Hn.out.symm, below_step Hb0.out Hv3.out Hb0.out.size⟩
    | false =>
      rw [m2] at HM
      have HS := Lib.hid (set_any v3 za2 zn2 zc2 _ (show Ints v3 za2 zn2 b.zone from (h2.out.below Hv3.out).z) (by omega) Hzb.out)
      go_wp2_with fail
      refine HM.out.mono ?_
      rintro en v3_ ⟨rfl, rfl⟩
      go_wp2_with fail
      refine HS.out.mono ?_
      rintro en v4 ⟨mb, mn, rfl, _, hmm, hb4⟩
      have Hv4 := Lib.hid (below_step Hv3.out hb4 Hv3.out.size)
      have Hx4 := Lib.hid (Hx3.out.below hb4)
      have Hy4 := Lib.hid (Hy3.out.below hb4)
      have HM3 := Lib.hid (meet_any v4 ax nx cx mb mn _ _ Hx4.out Hea.out hmm)
      clear hb4 hmm HS HM qa0 qa1 qa2 qa3 qa4 qa5 qa6 qa7 qa8 qb0 qb1 qb2 qb3 qb4 qb5 qb6 qb7 qb8 hla hlb
      obtain ⟨hla, qa0, qa1, qa2, qa3, qa4, qa5, qa6, qa7, qa8⟩ := HRa.out.below Hv4.out
      dsimp only at qa0 qa1 qa2 qa3 qa4 qa5 qa6 qa7 qa8
      obtain ⟨hlb, qb0, qb1, qb2, qb3, qb4, qb5, qb6, qb7, qb8⟩ := HRb.out.below Hv4.out
      dsimp only at qb0 qb1 qb2 qb3 qb4 qb5 qb6 qb7 qb8

      cases m3 : meets a.elems b.zone with
      | true =>
        have Hn := Lib.hid (show why p a b = 3 by unfold why; rw [if_neg e1, if_neg (by simp [m2]), if_pos (by simp [m3])])
        rw [m3] at HM3
        clear e1 m2 m3
        go_wp2_with fail
        refine HM3.out.mono ?_
        rintro en v4_ ⟨rfl, rfl⟩
        go_wp2_with fail
        go_ret
        exact ⟨ret_int Hn.out.symm, below_step Hb0.out Hv4.out Hb0.out.size⟩
      | false =>
        rw [m3] at HM3
        have HS := Lib.hid (set_any v4 za1 zn1 zc1 _ (show Ints v4 za1 zn1 a.zone from (h1.out.below Hv4.out).z) (by omega) Hza.out)
        go_wp2_with fail
        refine HM3.out.mono ?_
        rintro en v4_ ⟨rfl, rfl⟩
        go_wp2_with fail
        refine HS.out.mono ?_
        rintro en v5 ⟨mb', mn', rfl, _, hmm, hb5⟩
        have Hv5 := Lib.hid (below_step Hv4.out hb5 Hv4.out.size)
        have Hy5 := Lib.hid (Hy4.out.below hb5)
        have HM4 := Lib.hid (meet_any v5 ay ny cy mb' mn' _ _ Hy5.out Heb.out hmm)
        rw [meets_comm] at HM4
        clear hb5 hmm HS HM3 qa0 qa1 qa2 qa3 qa4 qa5 qa6 qa7 qa8 qb0 qb1 qb2 qb3 qb4 qb5 qb6 qb7 qb8 hla hlb
        obtain ⟨hla, qa0, qa1, qa2, qa3, qa4, qa5, qa6, qa7, qa8⟩ := HRa.out.below Hv5.out
        dsimp only at qa0 qa1 qa2 qa3 qa4 qa5 qa6 qa7 qa8
        obtain ⟨hlb, qb0, qb1, qb2, qb3, qb4, qb5, qb6, qb7, qb8⟩ := HRb.out.below Hv5.out
        dsimp only at qb0 qb1 qb2 qb3 qb4 qb5 qb6 qb7 qb8

        cases m4 : meets a.zone b.elems with
        | true =>
          have Hn := Lib.hid (show why p a b = 3 by unfold why; rw [if_neg e1, if_neg (by simp [m2]), if_pos (by simp [m4])])
          rw [m4] at HM4
          clear e1 m2 m3 m4
          go_wp2_with fail
          refine HM4.out.mono ?_
          rintro en v5_ ⟨rfl, rfl⟩
          go_wp2_with fail
          go_ret
          exact ⟨ret_int Hn.out.symm, below_step Hb0.out Hv5.out Hb0.out.size⟩
        | false =>
          rw [m4] at HM4
          have Hw := Lib.hid (show why p a b = if against a.all b.all then 4 else if bothWays p a.steps b.steps then 5 else 0 by unfold why; rw [if_neg e1, if_neg (by simp [m2]), if_neg (by simp [m3, m4])])
          clear e1 m2 m3 m4
          have hmk := @run_makeMap Try.prog
          go_wp2_with fail
          refine HM4.out.mono ?_
          rintro en v5_ ⟨rfl, rfl⟩
          clear HM4 Hx Hy Hx3 Hy3 Hx4 Hy4 Hy5
          obtain ⟨u5, hu5⟩ : ∃ u5, u5 = v5.alloc (.map #[] 0) := ⟨_, rfl⟩
          have Hu5 := Lib.hid (show Below W0.heap.size W0 u5 by rw [hu5]; exact Hv5.out.alloc Hv5.out.size _)
          have HA5 := Lib.hid (show AtMap u5 0 v5.heap.size 0 [] (fun _ => none) by rw [hu5]; exact atmap_made v5 0)
          have hz5 : u5.heap.size = v5.heap.size + 1 := by rw [hu5]; simp
          have HB5 := Lib.hid (show Below v5.heap.size v5 u5 by rw [hu5]; exact below_new1 _ _)
          have HQ1 := Lib.hid (needs_l (h1.out.below Hu5.out) lm3 lm4)
          clear qa0 qa1 qa2 qa3 qa4 qa5 qa6 qa7 qa8 qb0 qb1 qb2 qb3 qb4 qb5 qb6 qb7 qb8 hla hlb
          obtain ⟨hla, qa0, qa1, qa2, qa3, qa4, qa5, qa6, qa7, qa8⟩ := HRa.out.below Hu5.out
          dsimp only at qa0 qa1 qa2 qa3 qa4 qa5 qa6 qa7 qa8
          obtain ⟨hlb, qb0, qb1, qb2, qb3, qb4, qb5, qb6, qb7, qb8⟩ := HRb.out.below Hu5.out
          dsimp only at qb0 qb1 qb2 qb3 qb4 qb5 qb6 qb7 qb8
          have Hz5 := Lib.hid hz5
          clear hz5
          subst hu5
          go_wp2_with fail
          refine HQ1.out.mono ?_
          rintro en v6 ⟨ax, nq, cq, rfl, hq, _, hb6, hblk⟩
          have hnq : nq ≤ 200 := by have e1 := hq.len; have e2 := h1.out.n.len; have e3 := h1.out.g.len; simp only [Road.all, List.length_append] at e1; dsimp only at e2 e3; omega
          have HQ6 := Lib.hid hq
          have HA6 := Lib.hid ((HA5.out.keep hb6).base (base' := v6.heap.size) (fun _ => rfl))
          have HB6 := Lib.hid (below_step HB5.out hb6 HB5.out.size)
          have hz6 := hb6.size
          rw [Hz5.out] at hz6 hblk
          clear hq hb6 HQ1 HA5 HB5 qa0 qa1 qa2 qa3 qa4 qa5 qa6 qa7 qa8 qb0 qb1 qb2 qb3 qb4 qb5 qb6 qb7 qb8 hla hlb
          go_wp2_with fail
          go_loopg [57] nq (fun k s57 wr => ∃ (j : Nat) (M : Int → Option Nat), j + k = nq ∧ s57 = .int .i64 j ∧ Hid (AtMap wr v6.heap.size v5.heap.size (2 * j) (a.all.take j) M) ∧ Hid (Needs wr ax nq a.all) ∧ Hid (Below v5.heap.size v5 wr) ∧ v6.heap.size ≤ wr.heap.size)
          case atStart => exact ⟨0, fun _ => none, by omega, rfl, HA6, HQ6, HB6, Nat.le_refl _⟩
          case round =>
            clear HA6 HQ6 HB6
            obtain ⟨j, M, hk, rfl, HA, HQ, HB, hsz⟩ := hrel
            have Hk := Lib.hid hk; clear hk
            by_cases hlt : j < nq
            · obtain ⟨q, hq⟩ := get_some HQ.out.len hlt
              obtain ⟨pb, off, rfl, hpb, g1, g2⟩ := HQ.out.need hq
              have hqi := Haa.out q (List.mem_of_getElem? hq)
              have htk := take_next hq
              have Hkey := Lib.hid (key_int hqi.1)
              have Hkey2 := Lib.hid (key_int hqi.2)
              have HAu := Lib.hid (HA.out.keep (below_new1 wr (.cells #[.int .i64 q.e, .int .i64 q.pos] 72)))
              clear hq hqi
              cases hM : M q.e with
              | none =>
                have lk := (HAu.out.map.look_miss hM keyed_int Try.underlying69 zero_map Hkey.out).1
                have HAv := Lib.hid (HAu.out.keep (below_new1 _ (.map #[] 0)))
                obtain ⟨M', hM'⟩ : ∃ M' : Int → Option Nat, M' = fun z => if z = q.e then some (wr.heap.size + 1) else M z := ⟨_, rfl⟩
                have hM1 : M' q.e = some (wr.heap.size + 1) := by rw [hM']; simp
                have Hst := Lib.hid (HAv.out.map.store (t := 69) (e := 67) (x := q.e) (y := wr.heap.size + 1) M' hM1 (fun z hz => by rw [hM']; simp [hz]) (by unfold maxLen; omega) keyed_int Try.underlying69 Hkey.out)
                have qn := eqlm_nil
                have Hu2 := Lib.hid (show Below wr.heap.size wr ((wr.alloc (.cells #[.int .i64 q.e, .int .i64 q.pos] 72)).alloc (.map #[] 0)) from (below_new1 _ _).alloc (by simp) _)
                go_wp2_with (first
                  | (at_lookup; refine wpList_look _ rfl _ _ _ _ rfl rfl rfl lk ?_)
                  | (at_mapUpdate; refine wpList_put _ rfl _ _ _ _ rfl rfl rfl rfl Hst.out ?_; rintro w3 ⟨hm3, hg3⟩
                     have k0 : w3.cell? ⟨wr.heap.size, 0, none⟩ = some (.int .i64 q.e) := (cell_of_same (hg3.block wr.heap.size (by simp; omega) (by simp; omega)) 0).trans (by go_simp)
                     have k1 : w3.cell? ⟨wr.heap.size, 1, none⟩ = some (.int .i64 q.pos) := (cell_of_same (hg3.block wr.heap.size (by simp; omega) (by simp; omega)) 1).trans (by go_simp)
                     have hA3 : AtMap w3 v6.heap.size v5.heap.size (2 * j + 1) (a.all.take j) M' := by
                       subst hM'
                       exact HAu.out.fresh hM (by simp; omega) (by simp) hm3 hg3
                     have lk3 := (hA3.map.look_hit hM1 keyed_int Try.underlying69 zero_map Hkey.out).1
                     dsimp only [mapVal] at lk3
                     obtain ⟨gg1, gg2, gg3⟩ := hA3.inn q.e _ hM1
                     have Hst4 := Lib.hid (gg3.store (t := 67) (e := 4) (x := q.pos) (y := true) (seenIn (posOf (a.all.take j ++ [q]) q.e)) (by rw [posOf_snoc_same]; exact seen_key _ _) (fun z hz => by rw [posOf_snoc_same]; exact seen_other _ hz) (by unfold maxLen; omega) keyed_int Try.underlying67 Hkey2.out)
                     have HA3 := Lib.hid hA3
                     have Hg3 := Lib.hid hg3
                     have hz3 : wr.heap.size + 2 ≤ w3.heap.size := by have := hg3.size; simp at this; omega
                     clear gg3 hA3 hm3 hg3)
                  | (at_lookup; refine wpList_look _ rfl _ _ _ _ rfl rfl rfl lk3 ?_)
                  | (at_mapUpdate; refine wpList_put _ rfl _ _ _ _ rfl rfl rfl rfl Hst4.out ?_; rintro w4 ⟨hm4, hg4⟩))
                have hA4 := HA3.out.put hM1 hm4 hg4
                rw [← htk] at hA4
                have hB4 : Below v5.heap.size v5 w4 := ((below_step HB.out Hu2.out HB.out.size).grown Hg3.out (by have := HB.out.size; simp; omega) (by intro k hk; simp only [Option.some.injEq] at hk; omega)).grown hg4 (by omega) (by intro k hk; simp only [Option.some.injEq] at hk; omega)
                have hQ4 := needs_kept (needs_kept (HQ.out.below Hu2.out) Hg3.out (fun k hk => by have := hblk k hk; omega)) hg4 (fun k hk => by have := hblk k hk; omega)
                have hz4 := hg4.size
                go_roundg (gk - 1)
                case measure => have := Hk.out; omega
                case rel => exact ⟨j + 1, M', by have := Hk.out; omega, by go_num, hA4, hQ4, hB4, by omega⟩
              | some g =>
                have lk := (HAu.out.map.look_hit hM keyed_int Try.underlying69 zero_map Hkey.out).1
                dsimp only [mapVal] at lk
                have qn := eqlm_some g
                obtain ⟨hg1, hg2, hg3⟩ := HAu.out.inn q.e g hM
                have Hst := Lib.hid (hg3.store (t := 67) (e := 4) (x := q.pos) (y := true) (seenIn (posOf (a.all.take j ++ [q]) q.e)) (by rw [posOf_snoc_same]; exact seen_key _ _) (fun z hz => by rw [posOf_snoc_same]; exact seen_other _ hz) (by unfold maxLen; omega) keyed_int Try.underlying67 Hkey2.out)
                clear hg3
                go_wp2_with (first | (at_lookup; refine wpList_look _ rfl _ _ _ _ rfl rfl rfl lk ?_) | (at_mapUpdate; refine wpList_put _ rfl _ _ _ _ rfl rfl rfl rfl Hst.out ?_; rintro w4 ⟨hm4, hg4⟩))
                have hA4 := (HAu.out.put hM hm4 hg4).more (show 2 * j + 1 ≤ 2 * (j + 1) by omega)
                rw [← htk] at hA4
                have hB4 : Below v5.heap.size v5 w4 := (HB.out.alloc HB.out.size _).grown hg4 (by have := HB.out.size; simp; omega) (by intro k hk; simp only [Option.some.injEq] at hk; omega)
                have hQ4 := needs_kept (HQ.out.below (below_new1 wr (.cells #[.int .i64 q.e, .int .i64 q.pos] 72))) hg4 (fun k hk => by have := hblk k hk; omega)
                have hz4 := hg4.size
                simp at hz4
                go_roundg (gk - 1)
                case measure => have := Hk.out; omega
                case rel => exact ⟨j + 1, M, by have := Hk.out; omega, by go_num, hA4, hQ4, hB4, by omega⟩
            · obtain ⟨v7, rfl⟩ : ∃ v7 : World, v7 = wr := ⟨_, rfl⟩
              have hj : j = nq := by have := Hk.out; omega
              subst hj
              have Hv7 := Lib.hid (below_step Hv5.out HB.out Hv5.out.size)
              have HA7 := Lib.hid (show AtMap v7 v6.heap.size v5.heap.size (2 * j) a.all M by have := HA.out; rwa [take_all HQ.out.len (Nat.le_refl _)] at this)
              clear HA HQ HB hblk
              obtain ⟨hla, qa0, qa1, qa2, qa3, qa4, qa5, qa6, qa7, qa8⟩ := HRa.out.below Hv7.out
              dsimp only at qa0 qa1 qa2 qa3 qa4 qa5 qa6 qa7 qa8
              obtain ⟨hlb, qb0, qb1, qb2, qb3, qb4, qb5, qb6, qb7, qb8⟩ := HRb.out.below Hv7.out
              dsimp only at qb0 qb1 qb2 qb3 qb4 qb5 qb6 qb7 qb8

              have HQ1 := Lib.hid (needs_l (h2.out.below Hv7.out) lm5 lm6)
              go_wp2_with fail
              refine HQ1.out.mono ?_
              rintro en v8 ⟨ay3, nr, cr, rfl, hq, _, hb8, _⟩
              have HQ8 := Lib.hid hq
              have HA8 := Lib.hid (HA7.out.keep hb8)
              have Hv8 := Lib.hid (below_step Hv7.out hb8 Hv7.out.size)
              have hbn := hq.bnd
              clear hq hb8 HQ1 HA7 qa0 qa1 qa2 qa3 qa4 qa5 qa6 qa7 qa8 qb0 qb1 qb2 qb3 qb4 qb5 qb6 qb7 qb8 hla hlb
              go_wp2_with fail
              go_loopg [80] nr (fun k s80 wr => ∃ (j2 : Nat), j2 + k = nr ∧ s80 = .int .i64 j2 ∧ Hid ((b.all.drop j2).any (fun y => a.all.any fun x => clashes x y) = against a.all b.all) ∧ Hid (Below v8.heap.size v8 wr))
              case atStart => exact ⟨0, by omega, rfl, (any_swap clashes a.all b.all).symm, Below.refl _ _⟩
              case round =>
                obtain ⟨j2, hk2, rfl, hr2, HB⟩ := hrel
                have Hk2 := Lib.hid hk2; clear hk2
                obtain ⟨wo, rfl⟩ : ∃ wo : World, wo = wr := ⟨_, rfl⟩
                by_cases hlt2 : j2 < nr
                · obtain ⟨q, hq⟩ := get_some HQ8.out.len hlt2
                  obtain ⟨pb, off, rfl, hpb, g1, g2⟩ := (HQ8.out.below HB.out).need hq
                  have hqi := Hab.out q (List.mem_of_getElem? hq)
                  have Hkey := Lib.hid (key_int hqi.1)
                  have Hd := Lib.hid (any_drop (f := fun y => a.all.any fun x => clashes x y) hq)
                  have HAu := Lib.hid ((HA8.out.keep HB.out).keep (below_new1 wo (.cells #[.int .i64 q.e, .int .i64 q.pos] 72)))
                  have HBu := Lib.hid (HB.out.alloc HB.out.size (.cells #[.int .i64 q.e, .int .i64 q.pos] 72))
                  clear hq hqi
                  cases hM : M q.e with
                  | none =>
                    have lk := (HAu.out.map.look_miss hM keyed_int Try.underlying69 zero_map Hkey.out).1
                    have Hn := Lib.hid (show (b.all.drop (j2 + 1)).any (fun y => a.all.any fun x => clashes x y) = against a.all b.all by
                      rw [← hr2.out, Hd.out]
                      have : (a.all.any fun x => clashes x q) = false := by
                        rw [List.any_eq_false]
                        intro x hx hc
                        unfold clashes at hc; simp at hc
                        exact HAu.out.out q.e hM x hx hc.1
                      simp [this])
                    have hrg := run_range_nilMap (P := Try.prog) (wo.alloc (.cells #[.int .i64 q.e, .int .i64 q.pos] 72)) 67 3 4 Try.underlying67
                    have hnx : ∀ ty, (Instr.next (.pointer (some ⟨wo.heap.size + 1, 0, none⟩)) false ty).run Try.prog ((wo.alloc (.cells #[.int .i64 q.e, .int .i64 q.pos] 72)).alloc (.mapIter none 0 #[] 0)) = .ok (.tuple #[.bool false]) ((wo.alloc (.cells #[.int .i64 q.e, .int .i64 q.pos] 72)).alloc (.mapIter none 0 #[] 0)) := fun ty => by simpa using run_next_nilMap (P := Try.prog) (wo.alloc (.cells #[.int .i64 q.e, .int .i64 q.pos] 72)) ty 0 0 #[]
                    go_wp2_with (at_lookup; refine wpList_look _ rfl _ _ _ _ rfl rfl rfl lk ?_)
                    go_loopg [14] 0 (fun k s14 wr => wr = ((wo.alloc (.cells #[.int .i64 q.e, .int .i64 q.pos] 72)).alloc (.mapIter none 0 #[] 0)))
                    case atStart => rfl
                    case round =>
                      subst hrel
                      go_wp2_with (at_next; refine wpList_nextC _ rfl _ rfl rfl (hnx _) ?_)
                      go_roundg (nr - j2 - 1)
                      case measure => have := Hk2.out; omega
                      case rel => exact ⟨j2 + 1, by have := Hk2.out; omega, by go_num, Hn.out, HBu.out.alloc HBu.out.size _⟩
                  | some g =>
                    have lk := (HAu.out.map.look_hit hM keyed_int Try.underlying69 zero_map Hkey.out).1
                    dsimp only [mapVal] at lk
                    obtain ⟨_, _, hm0⟩ := HAu.out.inn q.e g hM
                    have hgl := hm0.lt
                    obtain ⟨w9, cnt, hrg, hR9, hg9, hz9⟩ := ranging_start hm0 Try.underlying67
                    have HS := Lib.hid (show ∀ x ∈ posOf a.all q.e, inI x from fun x hx => (Haa.out _ (mem_posOf.1 hx)).2)
                    have hzq : (wo.alloc (.cells #[.int .i64 q.e, .int .i64 q.pos] 72)).heap.size = wo.heap.size + 1 := by simp
                    rw [hzq] at hrg hR9
                    have k0 : w9.cell? ⟨wo.heap.size, 0, none⟩ = some (.int .i64 q.e) := (cell_of_same (hg9.block wo.heap.size (by simp) (by simp)) 0).trans (by go_simp)
                    have k1 : w9.cell? ⟨wo.heap.size, 1, none⟩ = some (.int .i64 q.pos) := (cell_of_same (hg9.block wo.heap.size (by simp) (by simp)) 1).trans (by go_simp)
                    have HB9 := Lib.hid (HBu.out.grown hg9 HBu.out.size (by intro k hk; cases hk))
                    have HR9 := Lib.hid (hR9.weak (gone' := fun z => z = q.pos) (fun _ _ h => h.elim))
                    rw [hzq] at hz9
                    have hvz := HB.out.size
                    clear hm0 hg9 hR9 HBu hzq
                    go_wp2_with (at_lookup; refine wpList_look _ rfl _ _ _ _ rfl rfl rfl lk ?_)
                    clear lk hrg
                    go_loopg [14] cnt (fun k s14 wr => Hid (Ranging wr g (wo.heap.size + 1) (2 * j) (posOf a.all q.e) (fun z => z = q.pos) k) ∧ wr.cell? ⟨wo.heap.size, 0, none⟩ = some (.int .i64 q.e) ∧ wr.cell? ⟨wo.heap.size, 1, none⟩ = some (.int .i64 q.pos) ∧ Hid (Below v8.heap.size v8 wr) ∧ wr.heap.size = wo.heap.size + 2)
                    case atStart => exact ⟨HR9, k0, k1, HB9, hz9⟩
                    case round =>
                      clear k0 k1 HR9 HB9 hz9
                      obtain ⟨HR, k0, k1, HB9, hz9⟩ := hrel
                      go_wp2_with (at_next; refine wpList_nextR rfl _ rfl rfl HR.out HS.out ?_ ?_)
                      · intro hall
                        have Hn := Lib.hid (show (b.all.drop (j2 + 1)).any (fun y => a.all.any fun x => clashes x y) = against a.all b.all by
                          rw [← hr2.out, Hd.out]
                          have : (a.all.any fun x => clashes x q) = false := by
                            rw [List.any_eq_false]
                            intro x hx hc
                            unfold clashes at hc; simp at hc
                            have h1 : (⟨q.e, x.pos⟩ : Need) ∈ a.all := by rw [← hc.1]; exact hx
                            exact hc.2 (hall _ (mem_posOf.2 h1))
                          simp [this])
                        clear hall
                        go_wp2_with fail
                        go_roundg (nr - j2 - 1)
                        case measure => have := Hk2.out; omega
                        case rel => exact ⟨j2 + 1, by have := Hk2.out; omega, by go_num, Hn.out, HB9.out⟩
                      · intro x v w4 cnt4 hx hR4 hlt4 hg4 hz4 hen
                        have k0' : w4.cell? ⟨wo.heap.size, 0, none⟩ = some (.int .i64 q.e) := (cell_of_same (hg4.block wo.heap.size (by omega) (by simp)) 0).trans k0
                        have k1' : w4.cell? ⟨wo.heap.size, 1, none⟩ = some (.int .i64 q.pos) := (cell_of_same (hg4.block wo.heap.size (by omega) (by simp)) 1).trans k1
                        have HB4 := Lib.hid (HB9.out.grown hg4 HB9.out.size (by intro k hk; simp only [Option.some.injEq] at hk; omega))
                        have HR4 := Lib.hid hR4
                        clear hR4 hg4 k0 k1
                        by_cases hxp : x = q.pos
                        · have d3 : (x != q.pos) = false := by simp [hxp]
                          have HR5 := Lib.hid (HR4.out.weak (gone' := fun z => z = q.pos) (fun z _ h => h.elim id (fun h => h.trans hxp)))
                          clear hxp
                          go_wp2_with fail
                          go_roundg cnt4
                          case measure => omega
                          case rel => exact ⟨HR5, k0', k1', HB4, by omega⟩
                        · have d3 : (x != q.pos) = true := by simpa using hxp
                          have Hn := Lib.hid (show why p a b = 4 by
                            have h0 : (a.all.any fun x => clashes x q) = true := List.any_eq_true.2 ⟨⟨q.e, x⟩, mem_posOf.1 hx, by simp [clashes, hxp]⟩
                            have h1 : against a.all b.all = true := by rw [← hr2.out, Hd.out, h0]; rfl
                            rw [Hw.out, h1]; rfl)
                          have Hfin := Lib.hid (below_step Hv8.out HB4.out Hv8.out.size)
                          clear hxp hx
                          go_wp2_with fail
                          go_ret
                          exact ⟨ret_int Hn.out.symm, below_step Hb0.out Hfin.out Hb0.out.size⟩
                · have Hw5 := Lib.hid (show why p a b = if bothWays p a.steps b.steps then 5 else 0 by
                    have h0 : against a.all b.all = false := by rw [← hr2.out, drop_end HQ8.out.len (by omega)]; rfl
                    rw [Hw.out, h0]; rfl)
                  have Hv9 := Lib.hid (below_step Hv8.out HB.out Hv8.out.size)
                  clear HQ8 HA8 HB hr2 Hw
                  have Hv10 := Lib.hid (show Below W0.heap.size W0 (wo.alloc (.map #[] 0)) from Hv9.out.alloc Hv9.out.size _)
                  have qa3 := (HRa.out.below Hv10.out).c3
                  have hla := (HRa.out.below Hv10.out).lt
                  dsimp only at qa3
                  have HL0 := Lib.hid ((MapOf.made pairCode Value.bool wo 77).congr (m' := seenIn (pairsOf p (a.steps.take 0))) (fun x => by rw [seen_no (by simp [pairsOf])]))
                  have Hla := Lib.hid (show a.steps.length = sn1 from h1.out.s.len)
                  have Hlb := Lib.hid (show b.steps.length = sn2 from h2.out.s.len)
                  have hcp := HN0.out.ok
                  go_wp2_with fail
                  clear qa3 hla hmk
                  go_loopg [102] sn1 (fun k s102 wr => ∃ (j3 : Nat), j3 + k = sn1 ∧ s102 = .int .i64 j3 ∧ Hid (MapOf pairCode Value.bool wr 77 wo.heap.size j3 (seenIn (pairsOf p (a.steps.take j3)))) ∧ Hid (Below wo.heap.size wo wr))
                  case atStart => exact ⟨0, by omega, rfl, HL0, below_new1 _ _⟩
                  case round =>
                    clear HL0
                    obtain ⟨j3, hk3, rfl, HM3, HB⟩ := hrel
                    have Hk3 := Lib.hid hk3; clear hk3
                    have Hv11 := Lib.hid (below_step Hv9.out HB.out Hv9.out.size)
                    by_cases hlt3 : j3 < sn1
                    · obtain ⟨s, hs⟩ := get_some Hla.out hlt3
                      have hi := Hsa.out s (List.mem_of_getElem? hs)
                      obtain ⟨pb, off, hsa, hpb, g1, g2, g3⟩ := (h1.out.s.below Hv11.out).stp hs
                      dsimp only at hsa
                      subst hsa
                      have Hgs := Lib.hid hs
                      clear hs
                      have Hu := Lib.hid (show Below wr.heap.size wr (wr.alloc (.cells #[.int .i64 s.e, .int .i64 s.i, .int .i64 s.o] 47)) from below_new1 _ _)
                      obtain ⟨lx, lx2, hlx⟩ : ∃ u v, linePair (lineOf p s.e) = (u, v) := ⟨_, _, rfl⟩
                      have Hln := Lib.hid (show lineNo p s.e = lx by rw [lineNo_pair, hlx])
                      have HL := Lib.hid (nline_any (wr.alloc (.cells #[.int .i64 s.e, .int .i64 s.i, .int .i64 s.o] 47)) nb p (HN0.out.below (below_step Hv11.out Hu.out Hv11.out.size)) s.e hi.1)
                      rw [hlx] at HL
                      dsimp only at HL
                      clear hlx
                      go_wp2_with fail
                      refine HL.out.mono ?_
                      rintro en w3 ⟨rfl, hb3⟩
                      have k0 : w3.cell? ⟨wr.heap.size, 0, none⟩ = some (.int .i64 s.e) := (hb3.cell (p := ⟨wr.heap.size, 0, none⟩) (by simp)).trans (by go_simp)
                      have k1 : w3.cell? ⟨wr.heap.size, 1, none⟩ = some (.int .i64 s.i) := (hb3.cell (p := ⟨wr.heap.size, 1, none⟩) (by simp)).trans (by go_simp)
                      have Hb3 := Lib.hid (below_step Hu.out hb3 Hu.out.size)
                      have HN3 := Lib.hid (HN0.out.below (below_step Hv11.out Hb3.out Hv11.out.size))
                      have hz3 := hb3.size
                      simp at hz3
                      clear hb3 HL Hu g1 g2 g3
                      have hml := HM3.out.lt
                      by_cases hl0 : 0 ≤ lx
                      · have d1 : decide (0 ≤ lx) = true := by simpa using hl0
                        have HD := Lib.hid (nlead_any w3 nb p HN3.out s.e s.i hi.1)
                        have Hst := Lib.hid ((HM3.out.below Hb3.out hml).store (t := 73) (e := 4) (x := (lx, lead p s.e s.i)) (y := true) (seenIn (pairsOf p (a.steps.take (j3 + 1)))) (by rw [pairs_yes Hgs.out (by rw [Hln.out]; exact hl0), Hln.out]; exact seen_key _ _) (fun z hz => by rw [pairs_yes Hgs.out (by rw [Hln.out]; exact hl0), Hln.out]; exact seen_other _ hz) (by unfold maxLen; omega) keyed_pair Try.underlying73 (key_pair (by show inI lx; rw [← Hln.out]; exact lineNo_in hcp _) (lead_inI _ _ _)))
                        clear hl0
                        go_wp2_with fail
                        refine HD.out.mono ?_
                        rintro en w3_ ⟨rfl, rfl⟩
                        go_wp2_with (at_mapUpdate; refine wpList_put _ rfl _ _ _ _ rfl rfl rfl rfl Hst.out ?_; rintro w4 ⟨hm4, hg4⟩)
                        have hB4 : Below wo.heap.size wo w4 := (below_step HB.out Hb3.out HB.out.size).grown hg4 (by have := HB.out.size; omega) (by intro k hk; simp only [Option.some.injEq] at hk; omega)
                        go_roundg (gk - 1)
                        case measure => have := Hk3.out; omega
                        case rel => exact ⟨j3 + 1, by have := Hk3.out; omega, by go_num, hm4, hB4⟩
                      · have d1 : decide (0 ≤ lx) = false := by simpa using hl0
                        have hM4 : MapOf pairCode Value.bool w3 77 wo.heap.size (j3 + 1) (seenIn (pairsOf p (a.steps.take (j3 + 1)))) := by
                          rw [pairs_no Hgs.out (by rw [Hln.out]; exact hl0)]
                          exact (HM3.out.below Hb3.out hml).mono (by omega)
                        clear hl0
                        go_wp2_with fail
                        go_roundg (gk - 1)
                        case measure => have := Hk3.out; omega
                        case rel => exact ⟨j3 + 1, by have := Hk3.out; omega, by go_num, hM4, below_step HB.out Hb3.out HB.out.size⟩
                    · obtain ⟨v12, rfl⟩ : ∃ v12 : World, v12 = wr := ⟨_, rfl⟩
                      have HM12 := Lib.hid (show MapOf pairCode Value.bool v12 77 wo.heap.size j3 (seenIn (pairsOf p a.steps)) by have := HM3.out; rwa [take_all Hla.out (by omega)] at this)
                      have qb3 := (HRb.out.below Hv11.out).c3
                      have hlb := (HRb.out.below Hv11.out).lt
                      dsimp only at qb3
                      have Hv12 := Hv11
                      clear HM3 HB Hv11
                      go_wp2_with fail
                      clear qb3 hlb
                      go_loopg [128] sn2 (fun k s128 wr => ∃ (j5 : Nat), j5 + k = sn2 ∧ s128 = .int .i64 j5 ∧ Hid ((b.steps.drop j5).any (fun t => a.steps.any fun s => opposed p s t) = bothWays p a.steps b.steps) ∧ Hid (Below v12.heap.size v12 wr))
                      case atStart => exact ⟨0, by omega, rfl, (any_swap (opposed p) a.steps b.steps).symm, Below.refl _ _⟩
                      case round =>
                        obtain ⟨j5, hk5, rfl, hr5, HB⟩ := hrel
                        have Hk5 := Lib.hid hk5; clear hk5
                        have Hv11 := Lib.hid (below_step Hv12.out HB.out Hv12.out.size)
                        by_cases hlt5 : j5 < sn2
                        · obtain ⟨t, ht⟩ := get_some Hlb.out hlt5
                          have hi := Hsb.out t (List.mem_of_getElem? ht)
                          obtain ⟨pb, off, hsb, hpb, g1, g2, g3⟩ := (h2.out.s.below Hv11.out).stp ht
                          dsimp only at hsb
                          subst hsb
                          have Hd := Lib.hid (any_drop (f := fun t => a.steps.any fun s => opposed p s t) ht)
                          clear ht
                          have Hu := Lib.hid (show Below wr.heap.size wr (wr.alloc (.cells #[.int .i64 t.e, .int .i64 t.i, .int .i64 t.o] 47)) from below_new1 _ _)
                          obtain ⟨lx, lx2, hlx⟩ : ∃ u v, linePair (lineOf p t.e) = (u, v) := ⟨_, _, rfl⟩
                          have Hln := Lib.hid (show lineNo p t.e = lx by rw [lineNo_pair, hlx])
                          have HL := Lib.hid (nline_any (wr.alloc (.cells #[.int .i64 t.e, .int .i64 t.i, .int .i64 t.o] 47)) nb p (HN0.out.below (below_step Hv11.out Hu.out Hv11.out.size)) t.e hi.1)
                          rw [hlx] at HL
                          dsimp only at HL
                          clear hlx
                          go_wp2_with fail
                          refine HL.out.mono ?_
                          rintro en w3 ⟨rfl, hb3⟩
                          have k0 : w3.cell? ⟨wr.heap.size, 0, none⟩ = some (.int .i64 t.e) := (hb3.cell (p := ⟨wr.heap.size, 0, none⟩) (by simp)).trans (by go_simp)
                          have k1 : w3.cell? ⟨wr.heap.size, 1, none⟩ = some (.int .i64 t.i) := (hb3.cell (p := ⟨wr.heap.size, 1, none⟩) (by simp)).trans (by go_simp)
                          have Hb3 := Lib.hid (below_step Hu.out hb3 Hu.out.size)
                          have HN3 := Lib.hid (HN0.out.below (below_step Hv11.out Hb3.out Hv11.out.size))
                          have hz3 := hb3.size
                          simp at hz3
                          clear hb3 HL Hu g1 g2 g3
                          have HMw := Lib.hid ((HM12.out.below HB.out HM12.out.lt).below Hb3.out (by have := HM12.out.lt; have := HB.out.size; omega))
                          have HD := Lib.hid (nlead_any w3 nb p HN3.out t.e t.i hi.1)
                          have HBw := Lib.hid (below_step HB.out Hb3.out HB.out.size)
                          have hlr := lead_three p t.e t.i
                          obtain ⟨wz, hwz⟩ : ∃ wz : Nat, wz = wr.heap.size := ⟨_, rfl⟩
                          go_wp2_with fail
                          go_loopg [24] 3 (fun k s24 wr => ∃ (d : Nat), d + k = 3 ∧ s24 = .int .i64 d ∧ Hid (∀ d' : Nat, d' < d → ¬ ((d' : Int) ≠ lead p t.e t.i ∧ (lx, (d' : Int)) ∈ pairsOf p a.steps)) ∧ wr = w3)
                          case atStart => exact ⟨0, by omega, rfl, (fun d' h => absurd h (by omega)), rfl⟩
                          case round =>
                            obtain ⟨d, hkd, rfl, hno, hw3⟩ := hrel
                            subst hw3
                            by_cases hl0 : 0 ≤ lx
                            · have d1 : decide (0 ≤ lx) = true := by simpa using hl0
                              by_cases hd3 : d < 3
                              · have d2 : decide ((d : Int) < 3) = true := by simp; omega
                                have Hkp := Lib.hid (key_pair (x := (lx, (d : Int))) (by show inI lx; rw [← Hln.out]; exact lineNo_in hcp _) (inI_mk (by show _ ≤ (d : Int); omega) (by show (d : Int) ≤ _; omega)))
                                by_cases hde : (d : Int) = lead p t.e t.i
                                · have d4 : ((d : Int) != lead p t.e t.i) = false := by simp [hde]
                                  have Hn := Lib.hid (show ∀ d' : Nat, d' < d + 1 → ¬ ((d' : Int) ≠ lead p t.e t.i ∧ (lx, (d' : Int)) ∈ pairsOf p a.steps) from fun d' hd' hc => by
                                    by_cases h : d' = d
                                    · subst h; exact hc.1 hde
                                    · exact hno.out d' (by omega) hc)
                                  clear hde
                                  go_wp2_with fail
                                  refine HD.out.mono ?_
                                  rintro en w3_ ⟨rfl, rfl⟩
                                  go_wp2_with fail
                                  go_roundg (gk - 1)
                                  case measure => omega
                                  case rel => exact ⟨d + 1, by omega, by go_num, Hn, rfl⟩
                                · have d4 : ((d : Int) != lead p t.e t.i) = true := by simpa using hde
                                  by_cases hmem : (lx, (d : Int)) ∈ pairsOf p a.steps
                                  · have lk := (HMw.out.look_hit (seen_yes hmem) keyed_pair Try.underlying73 zero_bool Hkp.out).1
                                    dsimp only [pairCode] at lk
                                    have Hn := Lib.hid (show why p a b = 5 by
                                      have h0 : (a.steps.any fun s => opposed p s t) = true := opp_hit hde (by rw [Hln.out]; exact hmem)
                                      have h1 : bothWays p a.steps b.steps = true := by rw [← hr5.out, Hd.out, h0]; rfl
                                      rw [Hw5.out, h1]; rfl)
                                    have Hfin := Lib.hid (below_step Hv12.out HBw.out Hv12.out.size)
                                    clear hmem hde
                                    go_wp2_with fail
                                    refine HD.out.mono ?_
                                    rintro en w3_ ⟨rfl, rfl⟩
                                    go_wp2_with fail
                                    go_ret
                                    exact ⟨ret_int Hn.out.symm, below_step Hb0.out Hfin.out Hb0.out.size⟩
                                  · have lk := (HMw.out.look_miss (seen_no hmem) keyed_pair Try.underlying73 zero_bool Hkp.out).1
                                    dsimp only [pairCode] at lk
                                    have Hn := Lib.hid (show ∀ d' : Nat, d' < d + 1 → ¬ ((d' : Int) ≠ lead p t.e t.i ∧ (lx, (d' : Int)) ∈ pairsOf p a.steps) from fun d' hd' hc => by
                                      by_cases h : d' = d
                                      · subst h; exact hmem hc.2
                                      · exact hno.out d' (by omega) hc)
                                    clear hmem hde
                                    go_wp2_with fail
                                    refine HD.out.mono ?_
                                    rintro en w3_ ⟨rfl, rfl⟩
                                    go_wp2_with fail
                                    go_roundg (gk - 1)
                                    case measure => omega
                                    case rel => exact ⟨d + 1, by omega, by go_num, Hn, rfl⟩
                              · have d2 : decide ((d : Int) < 3) = false := by simp; omega
                                have Hn := Lib.hid (show (b.steps.drop (j5 + 1)).any (fun t => a.steps.any fun s => opposed p s t) = bothWays p a.steps b.steps by
                                  have h0 : (a.steps.any fun s => opposed p s t) = false := opp_none (fun d' h' => by rw [Hln.out]; exact hno.out d' (by omega))
                                  rw [← hr5.out, Hd.out, h0]; rfl)
                                go_wp2_with fail
                                go_roundg (sn2 - j5 - 1)
                                case measure => have := Hk5.out; omega
                                case rel => exact ⟨j5 + 1, by have := Hk5.out; omega, by go_num, Hn, HBw⟩
                            · have d1 : decide (0 ≤ lx) = false := by simpa using hl0
                              have Hn := Lib.hid (show (b.steps.drop (j5 + 1)).any (fun t => a.steps.any fun s => opposed p s t) = bothWays p a.steps b.steps by
                                have h0 : (a.steps.any fun s => opposed p s t) = false := opp_low (by rw [Hln.out]; exact hl0)
                                rw [← hr5.out, Hd.out, h0]; rfl)
                              clear hl0
                              go_wp2_with fail
                              go_roundg (sn2 - j5 - 1)
                              case measure => have := Hk5.out; omega
                              case rel => exact ⟨j5 + 1, by have := Hk5.out; omega, by go_num, Hn, HBw⟩
                        · have Hn := Lib.hid (show why p a b = 0 by
                            have h0 : bothWays p a.steps b.steps = false := by rw [← hr5.out, drop_end Hlb.out (by omega)]; rfl
                            rw [Hw5.out, h0]; rfl)
                          go_wp2_with fail
                          go_ret
                          exact ⟨ret_int Hn.out.symm, below_step Hb0.out Hv11.out Hb0.out.size⟩
end Go.Proofs.Ytnkpiijljfjmkaa
