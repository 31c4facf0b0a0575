/- m[k] = v by way of the entry (a map's place in an assignment of several places). No condition. -/
import Derived.Test.YtlndfmflbdkpjaaMap
import Derived.WideKeyEntry
namespace Go.Proofs.Ytlndfmflbdkpjaa
open Go.RowKit
open Go.WideElems (Fit findIdx_born findIdx_arr modify_last set_self)
open Go.ChangeMaps (modify_eq_set)
open Go.ChangeMaps (setBlock heap_setBlock_same heap_setBlock_other)
open Go.Maps (Keyed)

section
variable {w : World} {k : TypeId} {b n : Nat} {f : Value → Option Value}

theorem store_at {t : TypeId} {w2 : World} {b : Nat} {es1 es2 : Array MapEntry} {c1 j st : Nat} {val : Value} (hw2 : w2.heap[b]? = some (.map es1 c1)) (hidx : es1.findIdx? (fun e => ((e.born : Nat) : Int) == ((st : Nat) : Int)) = some j)
    (hmod : es1.modify j (fun e => { e with val := val }) = es2) : (Instr.entryStore t (.map (some b)) (goInt st) val).run Try.prog w2 = .ok () (setBlock w2 b (.map es2 c1)) := by
  simp [Instr.entryStore, MapKept.run_getObj_map hw2, asInt, asIntOf, goInt, hidx, hmod, MapKept.run_setObj_map _ hw2, Result.andThen, setBlock]
/-- the entry is made or found; the store into it does what 'm[k] = v' does at once -/
theorem entry_runs {t e : TypeId} {es : Array MapEntry} {clock : Nat} (K : Keyed Try.prog k) (ht : Try.prog.underlying t = some (.map k e)) {z : Value} (hz : ∀ u : World, (zeroValue e).run Try.prog u = .ok z u)
    (hb : w.heap[b]? = some (.map es clock)) (F : Fit Try.prog k trivR es clock) {key : Value} {kl : Lit} (hkey : keyOf Try.prog k key = some kl) (val : Value) :
    ∃ (v0 : Value) (st : Nat) (w1 w2 : World), (Instr.mapEntry t (.map (some b)) key).run Try.prog w = .ok (.tuple #[v0, goInt st]) w1 ∧ w.grownBy w1 (some b) ∧
      (Instr.entryStore t (.map (some b)) (goInt st) val).run Try.prog w1 = .ok () w2 ∧ w.grownBy w2 (some b) ∧
      ∃ w3, (Instr.mapUpdate t (.map (some b)) key val).run Try.prog w = .ok () w3 ∧ w2.heap[b]? = w3.heap[b]? := by
  have grow : ∀ o : Obj, w.grownBy (setBlock w b o) (some b) := fun o => ⟨rfl, rfl, rfl, by simp [setBlock], fun i _ hi => heap_setBlock_other hb o (fun e => hi (by rw [e]))⟩
  have twice : ∀ (es1 : Array MapEntry) (c1 : Nat) (o' : Obj), w.grownBy (setBlock (setBlock w b (.map es1 c1)) b o') (some b) := fun es1 c1 o' => ⟨rfl, rfl, rfl, by simp [setBlock], fun i hi1 hi => by
    rw [heap_setBlock_other (heap_setBlock_same hb (.map es1 c1)) o' (fun e => hi (by rw [e])), heap_setBlock_other hb (.map es1 c1) (fun e => hi (by rw [e]))]⟩
  obtain ⟨s1, s2, _⟩ := F.stamped
  rcases K.find w hkey es.toList F.keys with ⟨q1, q2⟩ | ⟨j, e0, q1, q2, q3⟩
  · have hnew : ((es.push ⟨key, z, clock⟩).toList.map (·.born)).Nodup := by
      simp only [Array.toList_push, List.map_append, List.map_cons, List.map_nil]
      refine List.nodup_append.2 ⟨s2, by simp, fun a ha c hc e1 => ?_⟩
      simp only [List.mem_singleton] at hc
      obtain ⟨x, hx, rfl⟩ := List.mem_map.1 ha
      have := s1 x hx
      omega
    have hidx : (es.push ⟨key, z, clock⟩).findIdx? (fun e => ((e.born : Nat) : Int) == ((clock : Nat) : Int)) = some es.size := by
      rw [findIdx_arr]; exact findIdx_born hnew (j := es.size) (e0 := ⟨key, z, clock⟩) (by simp)
    have hmod : (es.push ⟨key, z, clock⟩).modify es.size (fun e => { e with val := val }) = es.push ⟨key, val, clock⟩ := by
      apply Array.ext'
      rw [Array.toList_modify, Array.toList_push, Array.toList_push, ← Array.length_toList, modify_last]
    have hb1 := heap_setBlock_same hb (.map (es.push ⟨key, z, clock⟩) (clock + 1))
    refine ⟨z, clock, setBlock w b (.map (es.push ⟨key, z, clock⟩) (clock + 1)), setBlock (setBlock w b (.map (es.push ⟨key, z, clock⟩) (clock + 1))) b (.map (es.push ⟨key, val, clock⟩) (clock + 1)), ?_, grow _, ?_, twice _ _ _,
      setBlock w b (.map (es.push ⟨key, val, clock⟩) (clock + 1)), ?_, (heap_setBlock_same hb1 _).trans (heap_setBlock_same hb _).symm⟩
    · simp [Instr.mapEntry, run_underlying ht, MapKept.run_getObj_map hb, K.check w false hkey, q1, hz, MapKept.run_setObj_map _ hb, Result.andThen, setBlock]
    · exact store_at hb1 hidx hmod
    · simp [Instr.mapUpdate, run_underlying ht, MapKept.run_getObj_map hb, K.check w false hkey, q1, MapKept.run_setObj_map _ hb, Result.andThen, setBlock]
  · have hj : es[j]? = some e0 := by simpa using q2
    have hsame : es.modify j (fun e => { e with key := key }) = es := by
      apply Array.ext'
      rw [Array.toList_modify, modify_eq_set _ _ _ _ q2]
      have : ({ e0 with key := key } : MapEntry) = e0 := by rw [← q3]
      rw [this]
      exact set_self _ _ _ q2
    have hidx : es.findIdx? (fun e => ((e.born : Nat) : Int) == ((e0.born : Nat) : Int)) = some j := by rw [findIdx_arr]; exact findIdx_born s2 q2
    have hmod : es.modify j (fun e => { e with val := val }) = es.modify j (fun e' => { e' with key := key, val := val }) := by
      apply Array.ext'
      rw [Array.toList_modify, Array.toList_modify, modify_eq_set _ _ _ _ q2, modify_eq_set _ _ _ _ q2, ← q3]
    have hb1 := heap_setBlock_same hb (.map es clock)
    refine ⟨e0.val, e0.born, setBlock w b (.map es clock), setBlock (setBlock w b (.map es clock)) b (.map (es.modify j (fun e' => { e' with key := key, val := val })) clock), ?_, grow _, ?_, twice _ _ _,
      setBlock w b (.map (es.modify j (fun e' => { e' with key := key, val := val })) clock), ?_, (heap_setBlock_same hb1 _).trans (heap_setBlock_same hb _).symm⟩
    · simp [Instr.mapEntry, run_underlying ht, MapKept.run_getObj_map hb, K.check w false hkey, q1, hj, q3, K.stays w hkey, hsame, MapKept.run_setObj_map _ hb, Result.andThen, setBlock]
    · exact store_at hb1 hidx hmod
    · simp [Instr.mapUpdate, run_underlying ht, MapKept.run_getObj_map hb, K.check w false hkey, q1, hj, q3, K.stays w hkey, MapKept.run_setObj_map _ hb, Result.andThen, setBlock]
end

section
variable {α β : Type} {D : Code α} {g : β → Value} {w : World} {k : TypeId} {b n : Nat} {m : α → Option β}
/-- an entry of a map, and the store into it -/
theorem MapOf.entry {t e : TypeId} {x : α} {y : β} (h : MapOf D g w k b n m) (m' : α → Option β) (h1 : m' x = some y) (h2 : ∀ z, z ≠ x → m' z = m z) (hn : n < maxLen) (K : Keyed Try.prog k) (ht : Try.prog.underlying t = some (.map k e))
    {z : Value} (hz : ∀ u : World, (zeroValue e).run Try.prog u = .ok z u) (hkey : ∃ l, keyOf Try.prog k (D.enc x) = some l) :
    ∃ (v0 : Value) (st : Nat) (w1 w2 : World), (Instr.mapEntry t (.map (some b)) (D.enc x)).run Try.prog w = .ok (.tuple #[v0, goInt st]) w1 ∧ w.grownBy w1 (some b) ∧
      (Instr.entryStore t (.map (some b)) (goInt st) (g y)).run Try.prog w1 = .ok () w2 ∧ w.grownBy w2 (some b) ∧ MapOf D g w2 k b (n + 1) m' := by
  obtain ⟨w', hrun, hm, _⟩ := h.store m' h1 h2 hn K ht hkey
  obtain ⟨l, hl⟩ := hkey
  obtain ⟨es, clock, hb, F, _, _⟩ := h
  obtain ⟨v0, st, w1, w2, r1, g1, r2, g2, w3, r3, e3⟩ := entry_runs K ht hz hb F hl (g y)
  rw [hrun] at r3
  cases r3
  exact ⟨v0, st, w1, w2, r1, g1, r2, g2, hm.of_block e3⟩
end

section
variable {P : Program} {w w1 : World} {ops : Array Oper} {o : Oper} {a : Act} {K : Act → World → Prop} {Q : Exit → Act → World → Prop} {E : Prop}
theorem step_entry (hg : o.guard = none) (m x : Operand) (t : TypeId) (hop : o.op = Op.mapEntry t m x) {mv key r : Value} (hm : a.eval m = mv) (hx : a.eval x = key)
    (hrun : (Instr.mapEntry t mv key).run P w = .ok r w1) (hK : K (a.put o.dst r) w1) : if Region.wanted o (yielded ops a.tmps) = true then Oper.wp P o a w K Q else E := by
  have hw : Region.wanted o (yielded ops a.tmps) = true := by simp [Region.wanted, hg]
  rw [if_pos hw]
  unfold Oper.wp
  simp [execOp, hop, hm, hx, hrun, Result.andThen]
  exact hK
theorem step_estore (hg : o.guard = none) (m s v : Operand) (t : TypeId) (hop : o.op = Op.entryStore t m s v) {mv st val : Value} (hm : a.eval m = mv) (hs : a.eval s = st) (hv : a.eval v = val)
    (hrun : (Instr.entryStore t mv st val).run P w = .ok () w1) (hK : K (a.put o.dst undef) w1) : if Region.wanted o (yielded ops a.tmps) = true then Oper.wp P o a w K Q else E := by
  have hw : Region.wanted o (yielded ops a.tmps) = true := by simp [Region.wanted, hg]
  rw [if_pos hw]
  unfold Oper.wp
  simp [execOp, hop, hm, hs, hv, hrun, Result.andThen]
  exact hK
theorem cell5 {w : World} {b : Nat} (hb : b < w.heap.size) (o1 o2 o3 o4 o5 : Obj) (k : Nat) : (((((w.alloc o1).alloc o2).alloc o3).alloc o4).alloc o5).cell? ⟨b, k, none⟩ = w.cell? ⟨b, k, none⟩ :=
  World.cell?_of_block (by
    show _ = w.heap[b]?
    rw [Below.heap_alloc _ _ _ (by simp; omega), Below.heap_alloc _ _ _ (by simp; omega), Below.heap_alloc _ _ _ (by simp; omega), Below.heap_alloc _ _ _ (by simp; omega), Below.heap_alloc _ _ _ hb])
end
end Go.Proofs.Ytlndfmflbdkpjaa
