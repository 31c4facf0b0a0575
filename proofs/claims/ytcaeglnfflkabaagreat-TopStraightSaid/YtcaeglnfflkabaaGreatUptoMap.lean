/- m[k] = v by way of the entry (a map's place in an assignment of several places). No condition. -/
import Derived.Test.YtcaeglnfflkabaaGreatBase
import Derived.WideKeyEntry
import Derived.OrdersHeld
import Derived.StillTail
import Derived.Deep.RegionHeld3
import Derived.Test.YtcaeglnfflkabaaGreatPure
import Derived.Lib.QuietBelow
namespace Go.Proofs.YtcaeglnfflkabaaGreat
open Go.RowKit
open Go.WideElems (Fit findIdx_born findIdx_arr modify_last set_self)
open Go.ChangeMaps (modify_eq_set)
open Go.ChangeMaps (setBlock heap_setBlock_same heap_setBlock_other)
open Go.Maps (Keyed)

section
variable {w : World} {k : TypeId} {b n : Nat} {f : Value → Option Value}

theorem store_at {t : TypeId} {w2 : World} {b : Nat} {es1 es2 : Array MapEntry} {c1 j st : Nat} {val : Value} (hw2 : w2.heap[b]? = some (.map es1 c1)) (hidx : es1.findIdx? (fun e => ((e.born : Nat) : Int) == ((st : Nat) : Int)) = some j)
  (hmod : es1.modify j (fun e => { e with val := val }) = es2) : (Instr.entryStore t (.map (some b)) (goInt st) val).run Tryz.prog w2 = .ok () (setBlock w2 b (.map es2 c1)) := by
 simp [Instr.entryStore, MapKept.run_getObj_map hw2, asInt, asIntOf, goInt, hidx, hmod, MapKept.run_setObj_map _ hw2, Result.andThen, setBlock]
/-- the entry is made or found; the store into it does what 'm[k] = v' does at once -/
theorem entry_runs {t e : TypeId} {es : Array MapEntry} {clock : Nat} (K : Keyed Tryz.prog k) (ht : Tryz.prog.underlying t = some (.map k e)) {z : Value} (hz : ∀ u : World, (zeroValue e).run Tryz.prog u = .ok z u)
  (hb : w.heap[b]? = some (.map es clock)) (F : Fit Tryz.prog k trivR es clock) {key : Value} {kl : Lit} (hkey : keyOf Tryz.prog k key = some kl) (val : Value) :
  ∃ (v0 : Value) (st : Nat) (w1 w2 : World), (Instr.mapEntry t (.map (some b)) key).run Tryz.prog w = .ok (.tuple #[v0, goInt st]) w1 ∧ w.grownBy w1 (some b) ∧
   (Instr.entryStore t (.map (some b)) (goInt st) val).run Tryz.prog w1 = .ok () w2 ∧ w.grownBy w2 (some b) ∧
   ∃ w3, (Instr.mapUpdate t (.map (some b)) key val).run Tryz.prog w = .ok () w3 ∧ w2.heap[b]? = w3.heap[b]? := by
 have grow : ∀ o : Obj, w.grownBy (setBlock w b o) (some b) := fun o => ⟨rfl, rfl, rfl, by simp [setBlock], fun i _ hi => heap_setBlock_other hb o (fun e => hi (by rw [e]))⟩
 have twice : ∀ (es1 : Array MapEntry) (c1 : Nat) (o' : Obj), w.grownBy (setBlock (setBlock w b (.map es1 c1)) b o') (some b) := fun es1 c1 o' => ⟨rfl, rfl, rfl, by simp [setBlock], fun i hi1 hi => by
  rw [heap_setBlock_other (heap_setBlock_same hb (.map es1 c1)) o' (fun e => hi (by rw [e])), heap_setBlock_other hb (.map es1 c1) (fun e => hi (by rw [e]))]⟩
 obtain ⟨s1, s2, _⟩ := F.stamped
 rcases K.find w hkey es.toList F.keys with ⟨q1, q2⟩ | ⟨j, e0, q1, q2, q3⟩
 ·have hnew : ((es.push ⟨key, z, clock⟩).toList.map (·.born)).Nodup := by
   simp only [Array.toList_push, List.map_append, List.map_cons, List.map_nil]
   refine List.nodup_append.2 ⟨s2, by simp, fun a ha c hc e1 => ?_⟩
   simp only [List.mem_singleton] at hc
   obtain ⟨x, hx, rfl⟩ := List.mem_map.1 ha
   have := s1 x hx
   omega
  have hidx : (es.push ⟨key, z, clock⟩).findIdx? (fun e => ((e.born : Nat) : Int) == ((clock : Nat) : Int)) = some es.size := by
   rw [findIdx_arr]; exact findIdx_born hnew (j := es.size) (e0 := ⟨key, z, clock⟩) (by simp)
  have hmod : (es.push ⟨key, z, clock⟩).modify es.size (fun e => { e with val := val }) = es.push ⟨key, val, clock⟩ := by
   apply Array.ext'
   rw [Array.toList_modify, Array.toList_push, Array.toList_push, ← Array.length_toList, modify_last]
  have hb1 := heap_setBlock_same hb (.map (es.push ⟨key, z, clock⟩) (clock + 1))
  refine ⟨z, clock, setBlock w b (.map (es.push ⟨key, z, clock⟩) (clock + 1)), setBlock (setBlock w b (.map (es.push ⟨key, z, clock⟩) (clock + 1))) b (.map (es.push ⟨key, val, clock⟩) (clock + 1)), ?_, grow _, ?_, twice _ _ _,
   setBlock w b (.map (es.push ⟨key, val, clock⟩) (clock + 1)), ?_, (heap_setBlock_same hb1 _).trans (heap_setBlock_same hb _).symm⟩
  ·simp [Instr.mapEntry, run_underlying ht, MapKept.run_getObj_map hb, K.check w false hkey, q1, hz, MapKept.run_setObj_map _ hb, Result.andThen, setBlock]
  ·exact store_at hb1 hidx hmod
  ·simp [Instr.mapUpdate, run_underlying ht, MapKept.run_getObj_map hb, K.check w false hkey, q1, MapKept.run_setObj_map _ hb, Result.andThen, setBlock]
 ·have hj : es[j]? = some e0 := by simpa using q2
  have hsame : es.modify j (fun e => { e with key := key }) = es := by
   apply Array.ext'
   rw [Array.toList_modify, modify_eq_set _ _ _ _ q2]
   have : ({ e0 with key := key } : MapEntry) = e0 := by rw [← q3]
   rw [this]
   exact set_self _ _ _ q2
  have hidx : es.findIdx? (fun e => ((e.born : Nat) : Int) == ((e0.born : Nat) : Int)) = some j := by rw [findIdx_arr]; exact findIdx_born s2 q2
  have hmod : es.modify j (fun e => { e with val := val }) = es.modify j (fun e' => { e' with key := key, val := val }) := by
   apply Array.ext'
   rw [Array.toList_modify, Array.toList_modify, modify_eq_set _ _ _ _ q2, modify_eq_set _ _ _ _ q2, ← q3]
  have hb1 := heap_setBlock_same hb (.map es clock)
  refine ⟨e0.val, e0.born, setBlock w b (.map es clock), setBlock (setBlock w b (.map es clock)) b (.map (es.modify j (fun e' => { e' with key := key, val := val })) clock), ?_, grow _, ?_, twice _ _ _,
   setBlock w b (.map (es.modify j (fun e' => { e' with key := key, val := val })) clock), ?_, (heap_setBlock_same hb1 _).trans (heap_setBlock_same hb _).symm⟩
  ·simp [Instr.mapEntry, run_underlying ht, MapKept.run_getObj_map hb, K.check w false hkey, q1, hj, q3, K.stays w hkey, hsame, MapKept.run_setObj_map _ hb, Result.andThen, setBlock]
  ·exact store_at hb1 hidx hmod
  ·simp [Instr.mapUpdate, run_underlying ht, MapKept.run_getObj_map hb, K.check w false hkey, q1, hj, q3, K.stays w hkey, MapKept.run_setObj_map _ hb, Result.andThen, setBlock]
end

section
variable {α β : Type} {D : Code α} {g : β → Value} {w : World} {k : TypeId} {b n : Nat} {m : α → Option β}
/-- an entry of a map, and the store into it -/
theorem MapOf.entry {t e : TypeId} {x : α} {y : β} (h : MapOf D g w k b n m) (m' : α → Option β) (h1 : m' x = some y) (h2 : ∀ z, z ≠ x → m' z = m z) (hn : n < maxLen) (K : Keyed Tryz.prog k) (ht : Tryz.prog.underlying t = some (.map k e))
  {z : Value} (hz : ∀ u : World, (zeroValue e).run Tryz.prog u = .ok z u) (hkey : ∃ l, keyOf Tryz.prog k (D.enc x) = some l) :
  ∃ (v0 : Value) (st : Nat) (w1 w2 : World), (Instr.mapEntry t (.map (some b)) (D.enc x)).run Tryz.prog w = .ok (.tuple #[v0, goInt st]) w1 ∧ w.grownBy w1 (some b) ∧
   (Instr.entryStore t (.map (some b)) (goInt st) (g y)).run Tryz.prog w1 = .ok () w2 ∧ w.grownBy w2 (some b) ∧ MapOf D g w2 k b (n + 1) m' := by
 obtain ⟨w', hrun, hm, _⟩ := h.store m' h1 h2 hn K ht hkey
 obtain ⟨l, hl⟩ := hkey
 obtain ⟨es, clock, hb, F, _, _⟩ := h
 obtain ⟨v0, st, w1, w2, r1, g1, r2, g2, w3, r3, e3⟩ := entry_runs K ht hz hb F hl (g y)
 rw [hrun] at r3
 cases r3
 exact ⟨v0, st, w1, w2, r1, g1, r2, g2, hm.of_block e3⟩
end

section
variable {P : Program} {w w1 : World} {ops : Array Oper} {o : Oper} {a : Act} {K : Act → World → Prop} {Q : Exit → Act → World → Prop} {E : Prop}
theorem step_entry (hg : o.guard = none) (m x : Operand) (t : TypeId) (hop : o.op = Op.mapEntry t m x) {mv key r : Value} (hm : a.eval m = mv) (hx : a.eval x = key)
  (hrun : (Instr.mapEntry t mv key).run P w = .ok r w1) (hK : K (a.put o.dst r) w1) : if Region.wanted o (yielded ops a.tmps) = true then Oper.wp P o a w K Q else E := by
 have hw : Region.wanted o (yielded ops a.tmps) = true := by simp [Region.wanted, hg]
 rw [if_pos hw]
 unfold Oper.wp
 simp [execOp, hop, hm, hx, hrun, Result.andThen]
 exact hK
theorem step_estore (hg : o.guard = none) (m s v : Operand) (t : TypeId) (hop : o.op = Op.entryStore t m s v) {mv st val : Value} (hm : a.eval m = mv) (hs : a.eval s = st) (hv : a.eval v = val)
  (hrun : (Instr.entryStore t mv st val).run P w = .ok () w1) (hK : K (a.put o.dst undef) w1) : if Region.wanted o (yielded ops a.tmps) = true then Oper.wp P o a w K Q else E := by
 have hw : Region.wanted o (yielded ops a.tmps) = true := by simp [Region.wanted, hg]
 rw [if_pos hw]
 unfold Oper.wp
 simp [execOp, hop, hm, hs, hv, hrun, Result.andThen]
 exact hK
theorem cell5 {w : World} {b : Nat} (hb : b < w.heap.size) (o1 o2 o3 o4 o5 : Obj) (k : Nat) : (((((w.alloc o1).alloc o2).alloc o3).alloc o4).alloc o5).cell? ⟨b, k, none⟩ = w.cell? ⟨b, k, none⟩ :=
 World.cell?_of_block (by
  show _ = w.heap[b]?
  rw [Below.heap_alloc _ _ _ (by simp; omega), Below.heap_alloc _ _ _ (by simp; omega), Below.heap_alloc _ _ _ (by simp; omega), Below.heap_alloc _ _ _ (by simp; omega), Below.heap_alloc _ _ _ hb])
end
end Go.Proofs.YtcaeglnfflkabaaGreat

/- A region that draws its order and whose last operations write what the others read: a condition on the world is held up to those operations. No condition. -/

namespace Go.Proofs.YtcaeglnfflkabaaGreat

section
variable {P : Program} {ops : Array Oper} {Q : Exit → Act → World → Prop} {md : Region.Mode} {S : World → Prop} {n : Nat}

/-- whatever comes up next; behind each operation but the numbers n, n + 1 .. the condition holds -/
def wpUpto (P : Program) (md : Region.Mode) (ops : Array Oper) (Q : Exit → Act → World → Prop) (S : World → Prop) (n : Nat) : Nat → Array Bool → Act → World → Prop
 | 0, done, a, w => Region.ready md ops done = [] ∧ Q .normal a w
 | k + 1, done, a, w => (Region.ready md ops done = [] → Q .normal a w) ∧ ∀ j ∈ Region.ready md ops done, wpOp P ops Q j (fun a' w' => (j < n → S w') ∧ wpUpto P md ops Q S n k (done.setIfInBounds j true) a' w') a w

theorem upto_any : ∀ (k : Nat) (done : Array Bool) (a : Act) (w : World), wpUpto P md ops Q S n k done a w → wpAny P md ops Q k done a w
 | 0, _, _, _, h => h
 | k + 1, _, _, _, h => ⟨h.1, fun j hj => wpOp_mono (fun a' w' q => upto_any k _ a' w' q.2) (h.2 j hj)⟩

/-- every operation from n on waits for number i, or is it -/
def tailWaits (md : Region.Mode) (ops : Array Oper) (n i : Nat) : Bool := (List.range ops.size).all fun t => decide (t < n) || decide (t = i) || Region.waitsFor md ops t i
theorem upto_first {S0 : World → Prop} {i : Nat} {oi : Oper} {v : Value} (hi : ops[i]? = some oi) (hsel : ∀ (j : Nat) (o : Oper) cs b, ops[j]? = some o → o.op ≠ .select cs b) (hQ : ∀ c a w, Q (.panic c) (a.put oi.dst v) w → Q (.panic c) a w)
  (hk : ((∀ w, S0 w) ∧ n ≤ i) ∨ ((∀ w, S w → S0 w) ∧ tailWaits md ops n i = true)) : ∀ (k : Nat) (done : Array Bool) (a : Act) (w : World),
  (∀ j oj, ops[j]? = some oj → j ≠ i → done.getD j true = false → (∀ e ∈ oj.after, Region.binds md e = true → e.on ≠ i) → oi.apart ops oj = true) → i ∈ Region.ready md ops done → YieldsIf P ops S0 oi v a → S0 w → (i < n → S w) →
  wpUpto P md ops Q S n k (done.setIfInBounds i true) (a.put oi.dst v) w → wpUpto P md ops Q S n (k + 1) done a w := by
 have key : ∀ (done : Array Bool) (j : Nat), i ∈ Region.ready md ops done → j ∈ Region.ready md ops done → ∀ oj, ops[j]? = some oj → ∀ e ∈ oj.after, Region.binds md e = true → e.on ≠ i := by
  intro done j hr hj oj hoj e he hb heq
  obtain ⟨_, o2, ho2, hall⟩ := mem_ready.1 hj
  rw [hoj] at ho2
  cases ho2
  have h1 := hall e he hb
  have h0 := (mem_ready.1 hr).1
  rw [heq] at h1
  by_cases hs : i < done.size
  ·simp [hs] at h0 h1
   rw [h0] at h1; cases h1
  ·simp [hs] at h1
 intro k
 induction k with
 | zero =>
  intro done a w _ hr hy hS hS2 H
  refine ⟨fun h0 => (by rw [h0] at hr; cases hr), fun j hj => ?_⟩
  rcases Nat.decEq j i with hji | rfl
  ·have hn := ready_mono hj hji
   rw [H.1] at hn; cases hn
  ·exact hy.wpOp hi hS ⟨hS2, H⟩
 | succ k ih =>
  intro done a w hfree hr hy hS hS2 H
  refine ⟨fun h0 => (by rw [h0] at hr; cases hr), fun j hj => ?_⟩
  rcases Nat.decEq j i with hji | rfl
  ·obtain ⟨hun, oj, hoj, _⟩ := mem_ready.1 hj
   have hno := key done j hr hj oj hoj
   have hlow : ((∀ w, S0 w) ∧ n ≤ i) ∨ ((∀ w, S w → S0 w) ∧ j < n) := by
    refine hk.imp id fun q => ⟨q.1, ?_⟩
    rcases Nat.lt_or_ge j n with hjn | hjn
    ·exact hjn
    ·exfalso
     have h1 := List.all_eq_true.1 q.2 j (List.mem_range.2 (Array.getElem?_eq_some_iff.1 hoj).1)
     simp only [Bool.or_eq_true, decide_eq_true_eq] at h1
     rcases h1 with (h1 | h1) | h1
     ·omega
     ·exact hji h1
     ·obtain ⟨ot, hot, e, he, hb, heq⟩ := Region.waitsFor_spec h1
      rw [hoj] at hot; cases hot
      exact hno e he hb heq
   refine wpOp_mono ?_ (wpOp_putIf hoj (hfree j oj hoj hji hun hno) (fun cs b => hsel i oi cs b hi) (fun cs b => hsel j oj cs b hoj) hQ hy (H.2 j (ready_mono hj hji)))
   rintro a' w' ⟨q1, q2, q3⟩
   have hS' : S0 w' := hlow.elim (fun q => q.1 w') (fun q => q.1 w' (q2 q.2))
   refine ⟨q2, ih _ a' w' ?_ (ready_mono hr (Ne.symm hji)) q1 hS' ?_ ?_⟩
   ·intro m om hm hmi hum hnom
    refine hfree m om hm hmi ?_ hnom
    rcases Nat.decEq j m with hjm | rfl
    ·rwa [getD_set_ne true hjm] at hum
    ·exact hun
   ·exact fun hin => hlow.elim (fun q => absurd hin (by have := q.2; omega)) (fun q => q2 q.2)
   ·rw [Array.setIfInBounds_comm _ _ hji]; exact q3
  ·exact hy.wpOp hi hS ⟨hS2, H⟩

theorem upto_take {i : Nat} {oi : Oper} {v : Value} {k : Nat} {done : Array Bool} {a : Act} {w : World} (hi : ops[i]? = some oi) (hs : Region.noSelect ops = true) (hf : Region.free md ops done i = true)
  (hr : (Region.ready md ops done).contains i = true) (ht : tailWaits md ops n i = true) (hQ : ∀ c a w, Q (.panic c) (a.put oi.dst v) w → Q (.panic c) a w)
  (hy : YieldsIf P ops S oi v a) (hS : S w) (h : wpUpto P md ops Q S n k (done.setIfInBounds i true) (a.put oi.dst v) w) : wpUpto P md ops Q S n (k + 1) done a w :=
 upto_first hi (Region.noSelect_spec hs) hQ (.inr ⟨fun _ q => q, ht⟩) k done a w (Region.free_spec hi hf) (by simpa using hr) hy hS (fun _ => hS) h
/-- upto_take, its conditions in one -/
theorem uk (i : Nat) (v : Value) {oi : Oper} {k : Nat} {done : Array Bool} {a : Act} {w : World} (hy : ∀ w, S w → (execOp a.eval oi).run P w = .ok (.value v) w) (hS : S w) (h : wpUpto P md ops Q S n k (done.setIfInBounds i true) (a.put oi.dst v) w)
  (hi : ops[i]? = some oi := by rfl) (hb : (Region.noSelect ops && Region.free md ops done i && (Region.ready md ops done).contains i && tailWaits md ops n i) = true := by kernel_rfl)
  (hQ : ∀ c a w, Q (.panic c) (a.put oi.dst v) w → Q (.panic c) a w := by exact fun _ _ _ h => h) (hw : Region.wanted oi (yielded ops a.tmps) = true := by rfl) : wpUpto P md ops Q S n (k + 1) done a w := by
 simp only [Bool.and_eq_true] at hb
 exact upto_take hi hb.1.1.1 hb.1.1.2 hb.1.2 hb.2 hQ (.inl ⟨hw, hy⟩) hS h
/-- an address, a number: it needs no condition -/
theorem upto_pure {i : Nat} {oi : Oper} {v : Value} {k : Nat} {done : Array Bool} {a : Act} {w : World} (hi : ops[i]? = some oi) (hs : Region.noSelect ops = true) (hf : Region.free md ops done i = true)
  (hr : (Region.ready md ops done).contains i = true) (hni : decide (n ≤ i) = true) (hQ : ∀ c a w, Q (.panic c) (a.put oi.dst v) w → Q (.panic c) a w)
  (hy : YieldsIf P ops (fun _ => True) oi v a) (h : wpUpto P md ops Q S n k (done.setIfInBounds i true) (a.put oi.dst v) w) : wpUpto P md ops Q S n (k + 1) done a w :=
 upto_first hi (Region.noSelect_spec hs) hQ (.inl ⟨fun _ => trivial, of_decide_eq_true hni⟩) k done a w (Region.free_spec hi hf) (by simpa using hr) hy trivial (fun q => absurd q (by have := of_decide_eq_true hni; omega)) h

/-- one operation alone may come up -/
theorem upto_step {i : Nat} {o : Oper} {k : Nat} {done : Array Bool} {a : Act} {w : World} (hr : Region.ready md ops done = [i]) (ho : ops[i]? = some o)
  (h : ∀ K : Act → World → Prop, (∀ a' w', (i < n → S w') → wpUpto P md ops Q S n k (done.setIfInBounds i true) a' w' → K a' w') → if Region.wanted o (yielded ops a.tmps) = true then Oper.wp P o a w K Q else K (a.put o.dst undef) w) :
  wpUpto P md ops Q S n (k + 1) done a w := by
 refine ⟨fun h0 => (by rw [hr] at h0; cases h0), fun j hj => ?_⟩
 rw [hr] at hj
 simp only [List.mem_singleton] at hj
 subst hj
 have hx := h (fun a' w' => (j < n → S w') ∧ wpUpto P md ops Q S n k (done.setIfInBounds j true) a' w') (fun a' w' q1 q2 => ⟨q1, q2⟩)
 unfold wpOp
 simp only [ho]
 split
 ·rename_i hw; rw [if_pos hw] at hx; exact .inl hx
 ·rename_i hw; rw [if_neg hw] at hx; exact hx
theorem upto_done {done : Array Bool} {a : Act} {w : World} (hr : Region.ready md ops done = []) (h : Q .normal a w) : ∀ k, wpUpto P md ops Q S n k done a w
 | 0 => ⟨hr, h⟩
 | _ + 1 => ⟨fun _ => h, by rw [hr]; simp⟩
theorem region_upto {id : Nat} {a : Act} {w : World} (hm : P.follows .mixedOrders = true) (h : wpUpto P .any ops Q S n ops.size (Array.replicate ops.size false) a w.drew) : (Code.region id ops true).wp P Q a w :=
 wp_region_any hm (upto_any _ _ _ _ h)
end
end Go.Proofs.YtcaeglnfflkabaaGreat

/- The entry of a map, and the store into it, as operations of a region that draws its order. No condition. -/
namespace Go.Proofs.YtcaeglnfflkabaaGreat

section
variable {P : Program} {ops : Array Oper} {Q : Exit → Act → World → Prop} {md : Region.Mode} {S : World → Prop} {n : Nat} {i : Nat} {o : Oper} {k : Nat} {done : Array Bool} {a : Act} {w w1 : World}
theorem upto_entry (hr : Region.ready md ops done = [i]) (ho : ops[i]? = some o) (hg : o.guard = none) (m x : Operand) (t : TypeId) (hop : o.op = Op.mapEntry t m x) {mv key r : Value} (hm : a.eval m = mv) (hx : a.eval x = key)
  (hrun : (Instr.mapEntry t mv key).run P w = .ok r w1) (hS : i < n → S w1) (h : wpUpto P md ops Q S n k (done.setIfInBounds i true) (a.put o.dst r) w1) : wpUpto P md ops Q S n (k + 1) done a w :=
 upto_step hr ho fun _ hK => step_entry hg m x t hop hm hx hrun (hK _ _ hS h)
theorem upto_estore (hr : Region.ready md ops done = [i]) (ho : ops[i]? = some o) (hg : o.guard = none) (m s v : Operand) (t : TypeId) (hop : o.op = Op.entryStore t m s v) {mv st val : Value} (hm : a.eval m = mv) (hs : a.eval s = st) (hv : a.eval v = val)
  (hrun : (Instr.entryStore t mv st val).run P w = .ok () w1) (hS : i < n → S w1) (h : wpUpto P md ops Q S n k (done.setIfInBounds i true) (a.put o.dst undef) w1) : wpUpto P md ops Q S n (k + 1) done a w :=
 upto_step hr ho fun _ hK => step_estore hg m s v t hop hm hs hv hrun (hK _ _ hS h)
theorem upto_put (hr : Region.ready md ops done = [i]) (ho : ops[i]? = some o) (hg : o.guard = none) (m x v : Operand) (t : TypeId) (hop : o.op = Op.mapUpdate t m x v) {mv key val : Value} (hm : a.eval m = mv) (hx : a.eval x = key) (hv : a.eval v = val)
  (hrun : (Instr.mapUpdate t mv key val).run P w = .ok () w1) (hS : i < n → S w1) (h : wpUpto P md ops Q S n k (done.setIfInBounds i true) (a.put o.dst undef) w1) : wpUpto P md ops Q S n (k + 1) done a w :=
 upto_step hr ho fun _ hK => step_put w hg m x v t hop hm hx hv (R := fun w' => w' = w1) ⟨w1, hrun, rfl⟩ (fun w' e => by subst e; exact hK _ _ hS h)
end
/-! the index of a port -/
def posP : Nat → List Port → Port → Option Nat
 | _, [], _ => none
 | i, y :: r, x => if y = x then some i else posP (i + 1) r x
theorem posP_none {l : List Port} {x : Port} : ∀ {i : Nat}, posP i l x = none ↔ x ∉ l := by
 induction l with
 | nil => intro i; simp [posP]
 | cons y r ih =>
  intro i
  unfold posP
  by_cases h : y = x
  ·simp [h]
  ·rw [if_neg h, ih]; simp [show ¬ x = y from fun e => h e.symm]
theorem posP_snoc (l : List Port) (a x : Port) : ∀ i : Nat, posP i (l ++ [a]) x = match posP i l x with
  | some k => some k
  | none => if a = x then some (i + l.length) else none := by
 induction l with
 | nil => intro i; simp [posP]
 | cons y r ih =>
  intro i
  have e1 : posP i (y :: r ++ [a]) x = if y = x then some i else posP (i + 1) (r ++ [a]) x := rfl
  have e2 : posP i (y :: r) x = if y = x then some i else posP (i + 1) r x := rfl
  rw [e1, e2]
  split
  ·rfl
  ·rw [ih, List.length_cons, show i + (r.length + 1) = i + 1 + r.length by omega]
theorem posP_key {l : List Port} {a : Port} (h : a ∉ l) : posP 0 (l ++ [a]) a = some l.length := by rw [posP_snoc, posP_none.2 h]; simp
theorem posP_other {l : List Port} {a z : Port} (h : z ≠ a) : posP 0 (l ++ [a]) z = posP 0 l z := by
 rw [posP_snoc]
 cases posP 0 l z with
 | some k => rfl
 | none => simp [show ¬ a = z from fun e => h e.symm]
end Go.Proofs.YtcaeglnfflkabaaGreat

/- A region that draws its order: its first operations by hand, the others quiet. No condition. -/
namespace Go.Proofs.YtcaeglnfflkabaaGreat
open Go.RowKit Go.Sort
section
variable {P : Program} {ops : Array Oper} {Q : Exit → Act → World → Prop} {md : Region.Mode} {S : World → Prop} {n : Nat} {C : World → Prop}
theorem upto_quiet {Qq : Act → Prop} (hQ : ∀ a w, C w → Qq a → Q .normal a w) (hS : ∀ w, C w → S w) : ∀ (fuel : Nat) (listed : Array Bool) (a : Act) (w : World), C w → wpAnyQ P md ops C Qq fuel listed a → wpUpto P md ops Q S n fuel listed a w
 | 0, _, _, _, hw, h => ⟨h.1, hQ _ _ hw h.2⟩
 | fuel + 1, _, _, _, hw, h => ⟨fun h0 => hQ _ _ hw (h.1 h0), fun i hi => wpOp_of_qOp hw (fun a' w' hw' hk => ⟨fun _ => hS w' hw', upto_quiet hQ hS fuel _ a' w' hw' hk⟩) (h.2 i hi)⟩
theorem upto_tail (k : Nat) {fuel : Nat} {listed : Array Bool} {a : Act} {w : World} (hs : Region.noSelect ops = true) (hf : (ops.toList.drop k).length = fuel) (hB : Region.lexFrom md ops (ops.toList.drop k).length k listed = true)
  (hS : ∀ w', Below w.heap.size w w' → S w')
  (h : wpQuiet P ops (fun w' => ∃ p : Regrown, w' = grow (redrawn w p.d) p.os) (fun a' => ∀ w', Below w.heap.size w w' → Q .normal a' w') (ops.toList.drop k) a) : wpUpto P md ops Q S n fuel listed a w := by
 subst hf
 have hC : ∀ w', (∃ p : Regrown, w' = grow (redrawn w p.d) p.os) → Below w.heap.size w w' := by rintro w' ⟨⟨d, os⟩, rfl⟩; exact below_regrown _ d os
 refine upto_quiet (C := fun w' => ∃ p : Regrown, w' = grow (redrawn w p.d) p.os) (Qq := fun a' => ∀ w', Below w.heap.size w w' → Q .normal a' w') (fun a' w' hw' hq => hq w' (hC w' hw')) (fun w' hw' => hS w' (hC w' hw')) _ _ _ _ ⟨⟨w.drawn, #[]⟩, by rw [grow_empty]; rfl⟩ ?_
 exact wpAnyQ_lex hs (ops.toList.drop k) k listed a (fun j => by simp) hB h
end
end Go.Proofs.YtcaeglnfflkabaaGreat

/- As Till2's laws, where the operations that write wait for the others by way of others. No condition. -/
namespace Go.Proofs.YtcaeglnfflkabaaGreat

section
variable {P : Program} {ops : Array Oper} {Q : Exit → Act → World → Prop} {md : Region.Mode} {S : World → Prop} {ob : Nat → Bool}

def waitsIn (md : Region.Mode) (ops : Array Oper) (i : Nat) : Nat → Nat → Bool
 | 0, t => Region.waitsFor md ops t i
 | f + 1, t => Region.waitsFor md ops t i || ((ops[t]?).map fun o => o.after.any fun e => Region.binds md e && waitsIn md ops i f e.on).getD false
/-- every operation behind which the condition need not hold is done, or is number i, or waits for it -/
def tailWaitsC (md : Region.Mode) (ops : Array Oper) (ob : Nat → Bool) (done : Array Bool) (i : Nat) : Bool := (List.range ops.size).all fun t => ob t || decide (t = i) || done.getD t false || waitsIn md ops i 8 t
/-- whatever comes up next; behind each operation of ob the condition holds -/
def wpOb (P : Program) (md : Region.Mode) (ops : Array Oper) (Q : Exit → Act → World → Prop) (S : World → Prop) (ob : Nat → Bool) : Nat → Array Bool → Act → World → Prop
 | 0, done, a, w => Region.ready md ops done = [] ∧ Q .normal a w
 | k + 1, done, a, w => (Region.ready md ops done = [] → Q .normal a w) ∧ ∀ j ∈ Region.ready md ops done, wpOp P ops Q j (fun a' w' => (ob j = true → S w') ∧ wpOb P md ops Q S ob k (done.setIfInBounds j true) a' w') a w
theorem ob_any : ∀ (k : Nat) (done : Array Bool) (a : Act) (w : World), wpOb P md ops Q S ob k done a w → wpAny P md ops Q k done a w
 | 0, _, _, _, h => h
 | k + 1, _, _, _, h => ⟨h.1, fun j hj => wpOp_mono (fun a' w' q => ob_any k _ a' w' q.2) (h.2 j hj)⟩
theorem region_ob {id : Nat} {a : Act} {w : World} (hm : P.follows .mixedOrders = true) (h : wpOb P .any ops Q S ob ops.size (Array.replicate ops.size false) a w.drew) : (Code.region id ops true).wp P Q a w :=
 wp_region_any hm (ob_any _ _ _ _ h)
def closedB (md : Region.Mode) (ops : Array Oper) (done : Array Bool) : Bool := (List.range ops.size).all fun t => !done.getD t false || ((ops[t]?).map fun o => o.after.all fun e => !Region.binds md e || done.getD e.on false).getD true
def Closed (md : Region.Mode) (ops : Array Oper) (done : Array Bool) : Prop := ∀ t o, done.getD t false = true → ops[t]? = some o → ∀ e ∈ o.after, Region.binds md e = true → done.getD e.on false = true
theorem closed_of {done : Array Bool} (h : closedB md ops done = true) : Closed md ops done := by
 intro t o hd ho e he hb
 have h1 := List.all_eq_true.1 h t (List.mem_range.2 (Array.getElem?_eq_some_iff.1 ho).1)
 simp only [hd, ho, Bool.not_true, Bool.false_or, Option.map_some, Option.getD_some, Array.all_eq_true_iff_forall_mem] at h1
 have h2 := h1 e he
 simpa [hb] using h2
theorem getD_set_self {done : Array Bool} {j t : Nat} (h : (done.setIfInBounds j true).getD t false = true) : t = j ∨ done.getD t false = true := by
 rcases Nat.decEq j t with hjt | rfl
 ·right; rwa [getD_set_ne false hjt] at h
 ·exact .inl rfl
theorem closed_set {done : Array Bool} {j : Nat} (h : Closed md ops done) (hj : j ∈ Region.ready md ops done) : Closed md ops (done.setIfInBounds j true) := by
 intro t o hd ho e he hb
 rcases getD_set_self hd with rfl | hd
 ·obtain ⟨_, o2, ho2, hall⟩ := mem_ready.1 hj
  rw [ho] at ho2; cases ho2
  exact getD_set_true (hall e he hb)
 ·exact getD_set_true (h t o hd ho e he hb)
theorem closed_waits {done : Array Bool} {i : Nat} (h : Closed md ops done) : ∀ (f t : Nat), done.getD t false = true → waitsIn md ops i f t = true → done.getD i false = true
 | 0, t, hd, hw => by
  obtain ⟨o, ho, e, he, hb, rfl⟩ := Region.waitsFor_spec hw
  exact h t o hd ho e he hb
 | f + 1, t, hd, hw => by
  unfold waitsIn at hw
  rw [Bool.or_eq_true] at hw
  rcases hw with hw | hw
  ·obtain ⟨o, ho, e, he, hb, rfl⟩ := Region.waitsFor_spec hw
   exact h t o hd ho e he hb
  ·cases ho : ops[t]? with
   | none => rw [ho] at hw; cases hw
   | some o =>
    rw [ho] at hw
    simp only [Option.map_some, Option.getD_some] at hw
    obtain ⟨e, he, hb⟩ := Array.any_eq_true'.1 hw
    rw [Bool.and_eq_true] at hb
    exact closed_waits h f e.on (h t o hd ho e he hb.1) hb.2
theorem ready_waits {done : Array Bool} {i j : Nat} (h : Closed md ops done) (hj : j ∈ Region.ready md ops done) {f : Nat} (hw : waitsIn md ops i f j = true) : done.getD i false = true := by
 obtain ⟨_, o, ho, hall⟩ := mem_ready.1 hj
 have key : ∀ e ∈ o.after, Region.binds md e = true → ∀ f, (e.on = i ∨ waitsIn md ops i f e.on = true) → done.getD i false = true := by
  intro e he hb f hf
  have hd := hall e he hb
  rcases hf with rfl | hf
  ·exact hd
  ·exact closed_waits h f e.on hd hf
 cases f with
 | zero =>
  obtain ⟨o2, ho2, e, he, hb, heq⟩ := Region.waitsFor_spec hw
  rw [ho] at ho2; cases ho2
  exact key e he hb 0 (.inl heq)
 | succ f =>
  unfold waitsIn at hw
  rw [Bool.or_eq_true] at hw
  rcases hw with hw | hw
  ·obtain ⟨o2, ho2, e, he, hb, heq⟩ := Region.waitsFor_spec hw
   rw [ho] at ho2; cases ho2
   exact key e he hb 0 (.inl heq)
  ·rw [ho] at hw
   simp only [Option.map_some, Option.getD_some] at hw
   obtain ⟨e, he, hb⟩ := Array.any_eq_true'.1 hw
   rw [Bool.and_eq_true] at hb
   exact key e he hb.1 f (.inr hb.2)

theorem ob_first {S0 : World → Prop} {i : Nat} {oi : Oper} {v : Value} (hi : ops[i]? = some oi) (hsel : ∀ (j : Nat) (o : Oper) cs b, ops[j]? = some o → o.op ≠ .select cs b) (hQ : ∀ c a w, Q (.panic c) (a.put oi.dst v) w → Q (.panic c) a w)
  (hk : ((∀ w, S0 w) ∧ ob i = false) ∨ (∀ w, S w → S0 w)) : ∀ (k : Nat) (done : Array Bool) (a : Act) (w : World), Closed md ops done → (((∀ w, S0 w) ∧ ob i = false) ∨ tailWaitsC md ops ob done i = true) →
  (∀ j oj, ops[j]? = some oj → j ≠ i → done.getD j true = false → (∀ e ∈ oj.after, Region.binds md e = true → e.on ≠ i) → oi.apart ops oj = true) → i ∈ Region.ready md ops done → YieldsIf P ops S0 oi v a → S0 w → (ob i = true → S w) →
  wpOb P md ops Q S ob k (done.setIfInBounds i true) (a.put oi.dst v) w → wpOb P md ops Q S ob (k + 1) done a w := by
 have key : ∀ (done : Array Bool) (j : Nat), i ∈ Region.ready md ops done → j ∈ Region.ready md ops done → ∀ oj, ops[j]? = some oj → ∀ e ∈ oj.after, Region.binds md e = true → e.on ≠ i := by
  intro done j hr hj oj hoj e he hb heq
  obtain ⟨_, o2, ho2, hall⟩ := mem_ready.1 hj
  rw [hoj] at ho2
  cases ho2
  have h1 := hall e he hb
  have h0 := (mem_ready.1 hr).1
  rw [heq] at h1
  by_cases hs : i < done.size
  ·simp [hs] at h0 h1
   rw [h0] at h1; cases h1
  ·simp [hs] at h1
 intro k
 induction k with
 | zero =>
  intro done a w _ _ _ hr hy hS hS2 H
  refine ⟨fun h0 => (by rw [h0] at hr; cases hr), fun j hj => ?_⟩
  rcases Nat.decEq j i with hji | rfl
  ·have hn := ready_mono hj hji
   rw [H.1] at hn; cases hn
  ·exact hy.wpOp hi hS ⟨hS2, H⟩
 | succ k ih =>
  intro done a w hcl hta hfree hr hy hS hS2 H
  refine ⟨fun h0 => (by rw [h0] at hr; cases hr), fun j hj => ?_⟩
  rcases Nat.decEq j i with hji | rfl
  ·obtain ⟨hun, oj, hoj, _⟩ := mem_ready.1 hj
   have hno := key done j hr hj oj hoj
   have hlow : ((∀ w, S0 w) ∧ ob i = false) ∨ ob j = true := by
    rcases hta with hta | hta
    ·exact .inl hta
    ·right
     cases hob : ob j with
     | true => rfl
     | false =>
      exfalso
      have h1 := List.all_eq_true.1 hta j (List.mem_range.2 (Array.getElem?_eq_some_iff.1 hoj).1)
      simp only [Bool.or_eq_true, decide_eq_true_eq, hob, Bool.false_eq_true, false_or] at h1
      rcases h1 with (h1 | h1) | h1
      ·exact hji h1
      ·by_cases hs : j < done.size
       ·simp [hs] at hun h1
        rw [hun] at h1; cases h1
       ·simp [hs] at h1
      ·have hd := ready_waits hcl hj h1
       have h0 := (mem_ready.1 hr).1
       by_cases hs : i < done.size
       ·simp [hs] at h0 hd
        rw [h0] at hd; cases hd
       ·simp [hs] at hd
   refine wpOp_mono ?_ (wpOp_putIf hoj (hfree j oj hoj hji hun hno) (fun cs b => hsel i oi cs b hi) (fun cs b => hsel j oj cs b hoj) hQ hy (H.2 j (ready_mono hj hji)))
   rintro a' w' ⟨q1, q2, q3⟩
   have hS' : S0 w' := by
    rcases hlow with h | h
    ·exact h.1 w'
    ·rcases hk with h' | h'
     ·exact h'.1 w'
     ·exact h' w' (q2 h)
   refine ⟨q2, ih _ a' w' (closed_set hcl hj) ?_ ?_ (ready_mono hr (Ne.symm hji)) q1 hS' ?_ ?_⟩
   ·rcases hta with h | h
    ·exact .inl h
    ·refine .inr (List.all_eq_true.2 fun t ht => ?_)
     have h1 := List.all_eq_true.1 h t ht
     simp only [Bool.or_eq_true, decide_eq_true_eq] at h1 ⊢
     rcases h1 with (h1 | h1) | h1
     ·exact .inl (.inl h1)
     ·exact .inl (.inr (getD_set_true h1))
     ·exact .inr h1
   ·intro m om hm hmi hum hnom
    refine hfree m om hm hmi ?_ hnom
    rcases Nat.decEq j m with hjm | rfl
    ·rwa [getD_set_ne true hjm] at hum
    ·exact hun
   ·intro h
    rcases hlow with h' | h'
    ·rw [h'.2] at h; cases h
    ·exact q2 h'
   ·rw [Array.setIfInBounds_comm _ _ hji]; exact q3
  ·exact hy.wpOp hi hS ⟨hS2, H⟩
/-- taken ahead of the others: it reads what the condition tells -/
theorem ob_take {i : Nat} {oi : Oper} {v : Value} {k : Nat} {done : Array Bool} {a : Act} {w : World} (hi : ops[i]? = some oi) (hs : Region.noSelect ops = true) (hf : Region.free md ops done i = true)
  (hr : (Region.ready md ops done).contains i = true) (ht : tailWaitsC md ops ob done i = true) (hc : closedB md ops done = true) (hQ : ∀ c a w, Q (.panic c) (a.put oi.dst v) w → Q (.panic c) a w)
  (hy : YieldsIf P ops S oi v a) (hS : S w) (h : wpOb P md ops Q S ob k (done.setIfInBounds i true) (a.put oi.dst v) w) : wpOb P md ops Q S ob (k + 1) done a w :=
 ob_first hi (Region.noSelect_spec hs) hQ (.inr fun _ q => q) k done a w (closed_of hc) (.inr ht) (Region.free_spec hi hf) (by simpa using hr) hy hS (fun _ => hS) h
/-- an address, a number: it needs no condition on the world -/
theorem ob_pure {i : Nat} {oi : Oper} {v : Value} {k : Nat} {done : Array Bool} {a : Act} {w : World} (hi : ops[i]? = some oi) (hs : Region.noSelect ops = true) (hf : Region.free md ops done i = true)
  (hr : (Region.ready md ops done).contains i = true) (ht : ob i = false) (hc : closedB md ops done = true) (hQ : ∀ c a w, Q (.panic c) (a.put oi.dst v) w → Q (.panic c) a w)
  (hy : YieldsIf P ops (fun _ => True) oi v a) (h : wpOb P md ops Q S ob k (done.setIfInBounds i true) (a.put oi.dst v) w) : wpOb P md ops Q S ob (k + 1) done a w :=
 ob_first (S0 := fun _ => True) hi (Region.noSelect_spec hs) hQ (.inl ⟨fun _ => trivial, ht⟩) k done a w (closed_of hc) (.inl ⟨fun _ => trivial, ht⟩) (Region.free_spec hi hf) (by simpa using hr) hy trivial (fun q => by rw [ht] at q; cases q) h
/-- some operations may come up -/
theorem ob_some {js : List Nat} {k : Nat} {done : Array Bool} {a : Act} {w : World} (hr : Region.ready md ops done = js) (hj : js ≠ [])
  (h : ∀ i ∈ js, ∃ o, ops[i]? = some o ∧ ∀ K : Act → World → Prop, (∀ a' w', (ob i = true → S w') → wpOb P md ops Q S ob k (done.setIfInBounds i true) a' w' → K a' w') → if Region.wanted o (yielded ops a.tmps) = true then Oper.wp P o a w K Q else K (a.put o.dst undef) w) :
  wpOb P md ops Q S ob (k + 1) done a w := by
 refine ⟨fun h0 => (by rw [hr] at h0; exact absurd h0 hj), fun j hjm => ?_⟩
 rw [hr] at hjm
 obtain ⟨o, ho, hx0⟩ := h j hjm
 have hx := hx0 (fun a' w' => (ob j = true → S w') ∧ wpOb P md ops Q S ob k (done.setIfInBounds j true) a' w') (fun a' w' q1 q2 => ⟨q1, q2⟩)
 unfold wpOp
 simp only [ho]
 split
 ·rename_i hw; rw [if_pos hw] at hx; exact .inl hx
 ·rename_i hw; rw [if_neg hw] at hx; exact hx
/-- one operation alone may come up -/
theorem ob_step {i : Nat} {o : Oper} {k : Nat} {done : Array Bool} {a : Act} {w : World} (hr : Region.ready md ops done = [i]) (ho : ops[i]? = some o)
  (h : ∀ K : Act → World → Prop, (∀ a' w', (ob i = true → S w') → wpOb P md ops Q S ob k (done.setIfInBounds i true) a' w' → K a' w') → if Region.wanted o (yielded ops a.tmps) = true then Oper.wp P o a w K Q else K (a.put o.dst undef) w) :
  wpOb P md ops Q S ob (k + 1) done a w := by
 refine ob_some hr (by simp) (fun j hj => ?_)
 simp only [List.mem_singleton] at hj
 subst hj
 exact ⟨o, ho, h⟩
theorem ob_done {done : Array Bool} {a : Act} {w : World} (hr : Region.ready md ops done = []) (h : Q .normal a w) : ∀ k, wpOb P md ops Q S ob k done a w
 | 0 => ⟨hr, h⟩
 | _ + 1 => ⟨fun _ => h, by rw [hr]; simp⟩
/-- ob_take, its conditions in one -/
theorem tk (i : Nat) (v : Value) {oi : Oper} {k : Nat} {done : Array Bool} {a : Act} {w : World} (hy : ∀ w, S w → (execOp a.eval oi).run P w = .ok (.value v) w) (hS : S w) (h : wpOb P md ops Q S ob k (done.setIfInBounds i true) (a.put oi.dst v) w)
  (hi : ops[i]? = some oi := by rfl) (hb : (Region.noSelect ops && Region.free md ops done i && (Region.ready md ops done).contains i && tailWaitsC md ops ob done i && closedB md ops done) = true := by kernel_rfl)
  (hQ : ∀ c a w, Q (.panic c) (a.put oi.dst v) w → Q (.panic c) a w := by exact fun _ _ _ h => h) (hw : Region.wanted oi (yielded ops a.tmps) = true := by rfl) : wpOb P md ops Q S ob (k + 1) done a w := by
 simp only [Bool.and_eq_true] at hb
 exact ob_take hi hb.1.1.1.1 hb.1.1.1.2 hb.1.1.2 hb.1.2 hb.2 hQ (.inl ⟨hw, hy⟩) hS h
end
end Go.Proofs.YtcaeglnfflkabaaGreat
