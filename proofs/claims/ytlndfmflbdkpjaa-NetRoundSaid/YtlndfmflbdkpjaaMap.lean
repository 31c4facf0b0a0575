/- What a map's block holds, as a function from keys to values; lookup and store at the operation. No condition. -/
import Derived.Test.YtlndfmflbdkpjaaBase
import Derived.Maps.RangeWalk
import Derived.Maps.OwnSet
import Derived.DeepKeys4
namespace Go.Proofs.Ytlndfmflbdkpjaa
open Go.RowKit
open Go.WideElems (Fit rd rg pl rd_key rg_of rd_mk)
open Go.ChangeMaps (setBlock heap_setBlock_same heap_setBlock_other putKey notKey mem_insert_iff)
open Go.WideShapes (sorted_perm)
open Go.Maps (Keyed)

def trivR : Value → Option (DataW Unit × List MemPlace) := fun _ => some (.lit (.bool true), [])

structure Holds (f : Value → Option Value) (es : Array MapEntry) : Prop where
  one : ∀ x ∈ es.toList, f x.key = some x.val
  all : ∀ key v, f key = some v → ∃ x ∈ es.toList, x.key = key ∧ x.val = v

/-- Block b of w is a map of at most n entries; f says what it holds. -/
def MapIs (w : World) (k : TypeId) (b n : Nat) (f : Value → Option Value) : Prop :=
  ∃ es clock, w.heap[b]? = some (.map es clock) ∧ Fit Try.prog k trivR es clock ∧ es.size ≤ n ∧ Holds f es

section
variable {w : World} {k : TypeId} {b n : Nat} {f : Value → Option Value}

theorem MapIs.made (w : World) (k : TypeId) : MapIs (w.alloc (.map #[] 0)) k w.heap.size 0 (fun _ => none) :=
  ⟨#[], 0, (MapKept.heap_alloc w _).1, ⟨by simp, MapKept.stamped_empty 0, by simp⟩, Nat.le_refl _, by simp, by simp⟩

theorem MapIs.lt (h : MapIs w k b n f) : b < w.heap.size := by
  obtain ⟨es, clock, hb, _⟩ := h
  exact (Array.getElem?_eq_some_iff.1 hb).1

theorem MapIs.mono (h : MapIs w k b n f) {n' : Nat} (hn : n ≤ n') : MapIs w k b n' f := by
  obtain ⟨es, clock, hb, F, hs, hf⟩ := h
  exact ⟨es, clock, hb, F, Nat.le_trans hs hn, hf⟩

theorem MapIs.of_block {w' : World} (h : MapIs w k b n f) (hg : w'.heap[b]? = w.heap[b]?) : MapIs w' k b n f := by
  obtain ⟨es, clock, hb, F, hs, hf⟩ := h
  exact ⟨es, clock, hg.trans hb, F, hs, hf⟩

theorem MapIs.below {w' : World} {B : Nat} (h : MapIs w k b n f) (hg : Below B w w') (hb : b < B) : MapIs w' k b n f := h.of_block (hg.block b hb)
theorem MapIs.kept {w' : World} {row : Option Nat} (h : MapIs w k b n f) (hg : w.grownBy w' row) (hne : some b ≠ row) : MapIs w' k b n f := h.of_block (hg.block b h.lt hne)
theorem MapIs.alloc (h : MapIs w k b n f) (o : Obj) : MapIs (w.alloc o) k b n f := h.kept (World.grownBy_alloc w o none) (by simp)
theorem MapIs.drew (h : MapIs w k b n f) : MapIs w.drew k b n f := h

/-- m[k], and v, ok := m[k] -/
theorem MapIs.look {t e : TypeId} (c : Bool) (h : MapIs w k b n f) (K : Keyed Try.prog k) (ht : Try.prog.underlying t = some (.map k e)) {z : Value} (hz : (zeroValue e).run Try.prog w = .ok z w)
    {key : Value} {kl : Lit} (hkey : keyOf Try.prog k key = some kl) :
    (Instr.lookup t (.map (some b)) key c).run Try.prog w = .ok (match f key with | some v => if c then .tuple #[v, .bool true] else v | none => if c then .tuple #[z, .bool false] else z) w := by
  obtain ⟨es, clock, hb, F, _, hf⟩ := h
  rcases Maps.fit_look c K ht hz hb F hkey with ⟨hrun, hne, _⟩ | ⟨e0, y, hm, hk0, hrun, _⟩
  · have : f key = none := by
      cases hv : f key with
      | none => rfl
      | some v => obtain ⟨x, hx, hxk, _⟩ := hf.all key v hv; exact absurd hxk (hne x hx)
    rw [this]; exact hrun
  · have := hf.one e0 hm
    rw [hk0] at this
    rw [this]; exact hrun

/-- m[k] = v -/
theorem MapIs.store {t e : TypeId} (h : MapIs w k b n f) (K : Keyed Try.prog k) (ht : Try.prog.underlying t = some (.map k e)) (hn : n < maxLen) {key val : Value} {kl : Lit} (hkey : keyOf Try.prog k key = some kl)
    (f' : Value → Option Value) (h1 : f' key = some val) (h2 : ∀ x, x ≠ key → f' x = f x) :
    ∃ w', (Instr.mapUpdate t (.map (some b)) key val).run Try.prog w = .ok () w' ∧ MapIs w' k b (n + 1) f' ∧ w.grownBy w' (some b) := by
  obtain ⟨es, clock, hb, F, hs, hf⟩ := h
  obtain ⟨es', clock', hrun, F', hput, _, _, hwho⟩ := Maps.fit_store (R' := trivR) (yv := (.lit (.bool true), [])) (val := val) K ht hb F (Nat.lt_of_le_of_lt hs hn) (fun _ _ _ _ hz => hz) hkey rfl
  have hmem : ∀ p, p ∈ (es'.toList.map (rg Try.prog k trivR)).foldr DataW.insert [] ↔ p ∈ es'.toList.map (rg Try.prog k trivR) := fun p => (sorted_perm _).mem_iff
  have hmem0 : ∀ p, p ∈ (es.toList.map (rg Try.prog k trivR)).foldr DataW.insert [] ↔ p ∈ es.toList.map (rg Try.prog k trivR) := fun p => (sorted_perm _).mem_iff
  have hin : ∀ p, p ∈ es'.toList.map (rg Try.prog k trivR) ↔ p = (kl, .lit (.bool true)) ∨ (p ∈ es.toList.map (rg Try.prog k trivR) ∧ notKey kl p = true) := by
    intro p
    rw [← hmem p, hput]
    unfold putKey
    rw [mem_insert_iff, List.mem_filter, hmem0]
  have back : ∀ {v : Value} {l : Lit}, keyOf Try.prog k v = some l → (l, DataW.lit (.bool true)) ∈ es'.toList.map (rg Try.prog k trivR) → ∃ x ∈ es'.toList, x.key = v := by
    intro v l hv hm
    obtain ⟨x, hx, he⟩ := List.mem_map.1 hm
    obtain ⟨y, hy⟩ := F'.reads x hx
    rw [rg_of hy] at he
    have hk := rd_key hy
    rw [he] at hk
    exact ⟨x, hx, K.inj hk hv⟩
  refine ⟨_, hrun, ⟨es', clock', heap_setBlock_same hb _, F', ?_, ⟨?_, ?_⟩⟩, ⟨rfl, rfl, rfl, by simp [setBlock], fun i _ hi => heap_setBlock_other hb _ (fun e => hi (by rw [e]))⟩⟩
  · have e1 : es'.size = ((es'.toList.map (rg Try.prog k trivR)).foldr DataW.insert []).length := by rw [length_sorted]; simp
    rw [e1, hput]
    unfold putKey
    rw [length_insert]
    have e2 := List.length_filter_le (notKey kl) ((es.toList.map (rg Try.prog k trivR)).foldr DataW.insert [])
    rw [length_sorted] at e2
    simp at e2
    omega
  · intro x hx
    rcases hwho x hx with ⟨ho, hne⟩ | ⟨hk, hv⟩
    · rw [h2 _ hne]; exact hf.one x ho
    · rw [hk, h1, hv]
  · intro key' v' hv'
    by_cases hkk : key' = key
    · subst hkk
      rw [h1] at hv'
      obtain ⟨x, hx, hxk⟩ := back hkey ((hin _).2 (.inl rfl))
      rcases hwho x hx with ⟨_, hne⟩ | ⟨_, hv⟩
      · exact absurd hxk hne
      · exact ⟨x, hx, hxk, by rw [hv]; exact Option.some.inj hv'⟩
    · rw [h2 _ hkk] at hv'
      obtain ⟨x, hx, hxk, hxv⟩ := hf.all key' v' hv'
      obtain ⟨y, hy⟩ := F.reads x hx
      have hlk := rd_key hy
      have hy2 : y = (y.1, .lit (.bool true)) := by
        have := rd_mk (R := trivR) (born := x.born) (val := x.val) hlk rfl
        have e : (⟨x.key, x.val, x.born⟩ : MapEntry) = x := rfl
        rw [e, hy] at this
        exact Option.some.inj this
      have hnk : notKey kl y = true := (Maps.notKey_iff (K.key hkey)).2 (fun e1 => hkk (by rw [← hxk]; rw [e1] at hlk; exact K.inj hlk hkey))
      have hmy : y ∈ es.toList.map (rg Try.prog k trivR) := List.mem_map.2 ⟨x, hx, rg_of hy⟩
      have h3 := (hin y).2 (.inr ⟨hmy, hnk⟩)
      rw [hy2] at h3
      obtain ⟨x', hx', hxk'⟩ := back hlk h3
      rcases hwho x' hx' with ⟨ho, _⟩ | ⟨hk', _⟩
      · refine ⟨x', hx', hxk'.trans hxk, ?_⟩
        have a1 := hf.one x' ho
        have a2 := hf.one x hx
        rw [hxk', a2] at a1
        rw [← hxv]
        exact (Option.some.inj a1).symm
      · exact absurd (hxk.symm.trans (hxk'.symm.trans hk')) hkk

end

/-! Keys that stand for elements of a Lean type. -/
structure Code (α : Type) where
  enc : α → Value
  dec : Value → Option α
  dec_enc : ∀ x, dec (enc x) = some x
  enc_dec : ∀ v x, dec v = some x → v = enc x

def Code.lift {α β : Type} (D : Code α) (m : α → Option β) (g : β → Value) : Value → Option Value := fun v => (D.dec v).bind fun x => (m x).map g
theorem Code.lift_enc {α β : Type} (D : Code α) (m : α → Option β) (g : β → Value) (x : α) : D.lift m g (D.enc x) = (m x).map g := by simp [Code.lift, D.dec_enc]
theorem Code.lift_other {α β : Type} (D : Code α) {m m' : α → Option β} (g : β → Value) {y : α} (h : ∀ x, x ≠ y → m' x = m x) : ∀ v, v ≠ D.enc y → D.lift m' g v = D.lift m g v := by
  intro v hv
  unfold Code.lift
  cases hd : D.dec v with
  | none => rfl
  | some x =>
    have := D.enc_dec v x hd
    have hx : x ≠ y := fun e => hv (by rw [this, e])
    simp [h x hx]

/-- Block b of w is a map of at most n entries that holds m, its keys coded by D, its values by g. -/
def MapOf {α β : Type} (D : Code α) (g : β → Value) (w : World) (k : TypeId) (b n : Nat) (m : α → Option β) : Prop := MapIs w k b n (D.lift m g)

section
variable {α β : Type} {D : Code α} {g : β → Value} {w : World} {k : TypeId} {b n : Nat} {m : α → Option β}

theorem MapOf.made (D : Code α) (g : β → Value) (w : World) (k : TypeId) : MapOf D g (w.alloc (.map #[] 0)) k w.heap.size 0 (fun _ => none) := by
  have : D.lift (fun _ => (none : Option β)) g = fun _ => none := by funext v; unfold Code.lift; cases D.dec v <;> rfl
  unfold MapOf; rw [this]; exact MapIs.made w k
theorem MapOf.lt (h : MapOf D g w k b n m) : b < w.heap.size := MapIs.lt h
theorem MapOf.mono (h : MapOf D g w k b n m) {n' : Nat} (hn : n ≤ n') : MapOf D g w k b n' m := MapIs.mono h hn
theorem MapOf.below {w' : World} {B : Nat} (h : MapOf D g w k b n m) (hg : Below B w w') (hb : b < B) : MapOf D g w' k b n m := MapIs.below h hg hb
theorem MapOf.kept {w' : World} {row : Option Nat} (h : MapOf D g w k b n m) (hg : w.grownBy w' row) (hne : some b ≠ row) : MapOf D g w' k b n m := MapIs.kept h hg hne
theorem MapOf.alloc (h : MapOf D g w k b n m) (o : Obj) : MapOf D g (w.alloc o) k b n m := MapIs.alloc h o
theorem MapOf.drew (h : MapOf D g w k b n m) : MapOf D g w.drew k b n m := h
theorem MapOf.of_block {w' : World} (h : MapOf D g w k b n m) (hg : w'.heap[b]? = w.heap[b]?) : MapOf D g w' k b n m := MapIs.of_block h hg
theorem MapOf.congr (h : MapOf D g w k b n m) {m' : α → Option β} (he : ∀ x, m' x = m x) : MapOf D g w k b n m' := by
  have : m' = m := funext he
  rw [this]; exact h

theorem MapOf.look_hit {t e : TypeId} {x : α} {y : β} (h : MapOf D g w k b n m) (hf : m x = some y) (K : Keyed Try.prog k) (ht : Try.prog.underlying t = some (.map k e)) {z : Value} (hz : ∀ w, (zeroValue e).run Try.prog w = .ok z w)
    (hkey : ∃ l, keyOf Try.prog k (D.enc x) = some l) : (Instr.lookup t (.map (some b)) (D.enc x) false).run Try.prog w = .ok (g y) w ∧ (Instr.lookup t (.map (some b)) (D.enc x) true).run Try.prog w = .ok (.tuple #[g y, .bool true]) w := by
  obtain ⟨l, hl⟩ := hkey
  have h1 := MapIs.look false h K ht (hz w) hl
  have h2 := MapIs.look true h K ht (hz w) hl
  rw [D.lift_enc, hf] at h1 h2
  exact ⟨h1, h2⟩
theorem MapOf.look_miss {t e : TypeId} {x : α} (h : MapOf D g w k b n m) (hf : m x = none) (K : Keyed Try.prog k) (ht : Try.prog.underlying t = some (.map k e)) {z : Value} (hz : ∀ w, (zeroValue e).run Try.prog w = .ok z w)
    (hkey : ∃ l, keyOf Try.prog k (D.enc x) = some l) : (Instr.lookup t (.map (some b)) (D.enc x) false).run Try.prog w = .ok z w ∧ (Instr.lookup t (.map (some b)) (D.enc x) true).run Try.prog w = .ok (.tuple #[z, .bool false]) w := by
  obtain ⟨l, hl⟩ := hkey
  have h1 := MapIs.look false h K ht (hz w) hl
  have h2 := MapIs.look true h K ht (hz w) hl
  rw [D.lift_enc, hf] at h1 h2
  exact ⟨h1, h2⟩
theorem MapOf.hit {t e : TypeId} {x : α} {y : β} (h : MapOf D g w k b n m) (hf : m x = some y) (K : Keyed Try.prog k) (ht : Try.prog.underlying t = some (.map k e)) {z : Value} (hz : ∀ w, (zeroValue e).run Try.prog w = .ok z w)
    (hkey : ∃ l, keyOf Try.prog k (D.enc x) = some l) : ∀ w', Below w.heap.size w w' → (Instr.lookup t (.map (some b)) (D.enc x) false).run Try.prog w' = .ok (g y) w' ∧ (Instr.lookup t (.map (some b)) (D.enc x) true).run Try.prog w' = .ok (.tuple #[g y, .bool true]) w' :=
  fun w' hb => (h.below hb h.lt).look_hit hf K ht hz hkey
theorem MapOf.miss {t e : TypeId} {x : α} (h : MapOf D g w k b n m) (hf : m x = none) (K : Keyed Try.prog k) (ht : Try.prog.underlying t = some (.map k e)) {z : Value} (hz : ∀ w, (zeroValue e).run Try.prog w = .ok z w)
    (hkey : ∃ l, keyOf Try.prog k (D.enc x) = some l) : ∀ w', Below w.heap.size w w' → (Instr.lookup t (.map (some b)) (D.enc x) false).run Try.prog w' = .ok z w' ∧ (Instr.lookup t (.map (some b)) (D.enc x) true).run Try.prog w' = .ok (.tuple #[z, .bool false]) w' :=
  fun w' hb => (h.below hb h.lt).look_miss hf K ht hz hkey
theorem MapOf.store {t e : TypeId} {x : α} {y : β} (h : MapOf D g w k b n m) (m' : α → Option β) (h1 : m' x = some y) (h2 : ∀ z, z ≠ x → m' z = m z) (hn : n < maxLen) (K : Keyed Try.prog k) (ht : Try.prog.underlying t = some (.map k e))
    (hkey : ∃ l, keyOf Try.prog k (D.enc x) = some l) : ∃ w', (Instr.mapUpdate t (.map (some b)) (D.enc x) (g y)).run Try.prog w = .ok () w' ∧ MapOf D g w' k b (n + 1) m' ∧ w.grownBy w' (some b) := by
  obtain ⟨l, hl⟩ := hkey
  exact MapIs.store h K ht hn hl (D.lift m' g) (by rw [D.lift_enc, h1]; rfl) (D.lift_other g h2)
end

/-! At the operation. -/
section
variable {P : Program} (w : World) {ops : Array Oper} {rest : List Oper} {o : Oper} {a : Act} {Q : Exit → Act → World → Prop}

/-- a lookup whose run is known -/
theorem wpList_look (hg : o.guard = none) (m x : Operand) (t : TypeId) (c : Bool) (hop : o.op = Op.lookup t m x c) {mv key r : Value} (hm : a.eval m = mv) (hx : a.eval x = key)
    (hrun : (Instr.lookup t mv key c).run P w = .ok r w) (hK : wpList P ops Q rest (a.put o.dst r) w) : wpList P ops Q (o :: rest) a w := by
  refine wpList_plain hg fun K' hK' => ?_
  unfold Oper.wp
  simp [execOp, hop, hm, hx, hrun, Result.andThen]
  exact hK' _ _ hK

/-- a store into a map whose run is known -/
theorem wpList_put (hg : o.guard = none) (m x v : Operand) (t : TypeId) (hop : o.op = Op.mapUpdate t m x v) {mv key val : Value} (hm : a.eval m = mv) (hx : a.eval x = key) (hv : a.eval v = val) {R : World → Prop}
    (hrun : ∃ w', (Instr.mapUpdate t mv key val).run P w = .ok () w' ∧ R w') (hK : ∀ w', R w' → wpList P ops Q rest (a.put o.dst undef) w') : wpList P ops Q (o :: rest) a w := by
  refine wpList_plain hg fun K' hK' => ?_
  obtain ⟨w', hrun, r⟩ := hrun
  unfold Oper.wp
  simp [execOp, hop, hm, hx, hv, hrun, Result.andThen]
  exact hK' _ _ (hK w' r)
end

section
variable {P : Program} (w : World) {ops : Array Oper} {o : Oper} {a : Act} {K : Act → World → Prop} {Q : Exit → Act → World → Prop} {E : Prop}
/-- the store at a step of a region that draws its order -/
theorem step_put (hg : o.guard = none) (m x v : Operand) (t : TypeId) (hop : o.op = Op.mapUpdate t m x v) {mv key val : Value} (hm : a.eval m = mv) (hx : a.eval x = key) (hv : a.eval v = val) {R : World → Prop}
    (hrun : ∃ w', (Instr.mapUpdate t mv key val).run P w = .ok () w' ∧ R w') (hK : ∀ w', R w' → K (a.put o.dst undef) w') : if Region.wanted o (yielded ops a.tmps) = true then Oper.wp P o a w K Q else E := by
  have hw : Region.wanted o (yielded ops a.tmps) = true := by simp [Region.wanted, hg]
  rw [if_pos hw]
  obtain ⟨w', hrun, r⟩ := hrun
  unfold Oper.wp
  simp [execOp, hop, hm, hx, hv, hrun, Result.andThen]
  exact hK w' r
end

/-! The codes. -/
def intCode : Code Int where
  enc x := .int .i64 x
  dec | .int .i64 x => some x | _ => none
  dec_enc _ := rfl
  enc_dec v x h := by
    cases v with
    | int k y => cases k <;> simp at h; subst h; rfl
    | _ => simp at h
def strCode : Code ByteArray where
  enc x := .string x
  dec | .string x => some x | _ => none
  dec_enc _ := rfl
  enc_dec v x h := by
    cases v with
    | string y => simp at h; subst h; rfl
    | _ => simp at h

theorem key_int {x : Int} (h : -9223372036854775808 ≤ x ∧ x ≤ 9223372036854775807) : ∃ l, keyOf Try.prog 3 (intCode.enc x) = some l :=
  ⟨_, Maps.keyOf_int_mk Try.underlying3 (WalkArith.wf_i64 h)⟩
theorem keyed_int : Keyed Try.prog 3 := Maps.int_keyed Try.underlying3
theorem keyed_str : Keyed Try.prog 9 := Maps.string_keyed Try.underlying9
theorem key_str {x : ByteArray} (h : x.size ≤ maxLen) : ∃ l, keyOf Try.prog 9 (strCode.enc x) = some l :=
  ⟨.string x.data.toList, by unfold keyOf; rw [Try.underlying9]; simp [mapKey, Try.underlying9, strCode, h]⟩

end Go.Proofs.Ytlndfmflbdkpjaa
