/- The operations, on: maps. -/
import Derived.Test.YtcaeglnfflkabaaGreatEv3
namespace Go.Proofs.YtcaeglnfflkabaaGreat.Ev

/-- The map of a block, as it lies. -/
structure LiesM (r : Ren) (es : List (Value × AV × Nat)) (clock : Nat) (w : World) (B : Nat) (arr : Array MapEntry) : Prop where
  at_ : w.heap[B]? = some (.map arr clock)
  size : arr.size = es.length
  entry : ∀ (i : Nat) (k : Value) (v : AV) (t : Nat), es[i]? = some (k, v, t) → ∃ x, arr[i]? = some ⟨k, x, t⟩ ∧ Rel r v x
theorem Rep.liesM {r : Ren} {h : Heap} {w : World} (k : Rep r h.get w) {i : Nat} {es : List (Value × AV × Nat)} {c : Nat} (e : h.get i = some (.map es c)) {B o n : Nat} (f : r i = some (B, o, n)) :
    ∃ arr, LiesM r es c w B arr := by
  obtain ⟨B', o', n', g, q⟩ := k.fits i _ e
  rw [f] at g; cases g
  generalize hx : w.heap[B]? = x at q
  cases q with | map a b => exact ⟨_, hx, a, b⟩

theorem LiesM.keys {r : Ren} {es : List (Value × AV × Nat)} {c : Nat} {w : World} {B : Nat} {arr : Array MapEntry} (h : LiesM r es c w B arr) :
    (keyEs es).map (·.key) = arr.toList.map (·.key) := by
  apply List.ext_getElem?
  intro i
  simp only [keyEs, List.map_map, List.getElem?_map]
  cases e : es[i]? with
  | none =>
    have : arr.toList[i]? = none := by
      rw [List.getElem?_eq_none_iff] at e ⊢
      have := h.size
      simp; omega
    rw [this]; rfl
  | some x =>
    obtain ⟨k, v, t⟩ := x
    obtain ⟨y, p, _⟩ := h.entry i k v t e
    rw [Array.getElem?_toList, p]; rfl

theorem findNow_keys (kind : TypeDesc) (k : Value) : ∀ (l m : List MapEntry) (i : Nat), l.map (·.key) = m.map (·.key) →
    ∀ r, Instr.findNow kind k l i = some r → ∃ r', Instr.findNow kind k m i = some r' ∧ r'.map (·.1) = r.map (·.1) ∧ ∀ j v, r' = some (j, v) → i ≤ j ∧ (m[j - i]?).map (·.val) = some v := by
  intro l
  induction l with
  | nil => intro m i h r e; cases m with
    | nil => cases e; exact ⟨none, rfl, rfl, fun j v f => by cases f⟩
    | cons a b => simp at h
  | cons x l ih =>
    intro m i h r e
    cases m with
    | nil => simp at h
    | cons y m =>
      simp only [List.map_cons, List.cons.injEq] at h
      obtain ⟨hk, hm⟩ := h
      simp only [Instr.findNow] at e ⊢
      rw [← hk]
      cases hs : Instr.sameNow kind k x.key with
      | none => rw [hs] at e; cases e
      | some b =>
        rw [hs] at e
        cases b with
        | true => cases e; exact ⟨_, rfl, rfl, fun j v f => by cases f; simp⟩
        | false =>
          obtain ⟨r', g1, g2, g3⟩ := ih m (i + 1) hm r e
          refine ⟨r', g1, g2, fun j v f => ?_⟩
          obtain ⟨c1, c2⟩ := g3 j v f
          refine ⟨by omega, ?_⟩
          rw [show j - i = (j - (i + 1)) + 1 from by omega]
          simpa using c2
theorem runD_bind {α β : Type} {P : Program} {x : Sem α} {f : α → Sem β} {y : β} (h : runD P (x >>= f) = some y) : ∃ a, runD P x = some a ∧ runD P (f a) = some y := by
  have : ∀ (x : Sem α), runD P (x.bind f) = some y → ∃ a, runD P x = some a ∧ runD P (f a) = some y := by
    intro x
    induction x with
    | pure a => intro h; exact ⟨a, rfl, h⟩
    | program k ih => intro h; exact ih P h
    | _ => intro h; cases h
  exact this x h
theorem findAsking_keys (P : Program) (t : TypeId) (k : Value) : ∀ (l m : List MapEntry) (i : Nat), l.map (·.key) = m.map (·.key) →
    ∀ r, runD P (Instr.findAsking t k l i) = some r → ∃ r', (∀ w, (Instr.findAsking t k m i).run P w = .ok r' w) ∧ r'.map (·.1) = r.map (·.1) ∧ ∀ j v, r' = some (j, v) → i ≤ j ∧ (m[j - i]?).map (·.val) = some v := by
  intro l
  induction l with
  | nil => intro m i h r e; cases m with
    | nil => cases e; exact ⟨none, fun w => rfl, rfl, fun j v f => by cases f⟩
    | cons a b => simp at h
  | cons x l ih =>
    intro m i h r e
    cases m with
    | nil => simp at h
    | cons y m =>
      simp only [List.map_cons, List.cons.injEq] at h
      obtain ⟨hk, hm⟩ := h
      simp only [Instr.findAsking] at e
      obtain ⟨b, e1, e2⟩ := runD_bind e
      have hq := runD_ok P _ e1
      rw [hk] at hq
      cases b with
      | true =>
        cases e2
        refine ⟨some (i, y.val), fun w => ?_, rfl, fun j v f => by cases f; simp⟩
        simp only [Instr.findAsking, Sem.run_bind, hq, Result.andThen_ok, if_true, Sem.run_pure]
      | false =>
        obtain ⟨r', g1, g2, g3⟩ := ih m (i + 1) hm r e2
        refine ⟨r', fun w => ?_, g2, fun j v f => ?_⟩
        · simp only [Instr.findAsking, Sem.run_bind, hq, Result.andThen_ok, Bool.false_eq_true, if_false, g1]
        · obtain ⟨c1, c2⟩ := g3 j v f
          refine ⟨by omega, ?_⟩
          rw [show j - i = (j - (i + 1)) + 1 from by omega]
          simpa using c2
/-- A key is looked for. -/
theorem find_ok {P : Program} {t : TypeId} {k : Value} {es : List (Value × AV × Nat)} {empty : Bool} {o : Option Nat} {m : List MapEntry} (hk : (keyEs es).map (·.key) = m.map (·.key))
    (e : findE P t k es empty = some o) (w : World) : (Instr.checkKey empty 10000 t k).run P w = .ok () w ∧
      ∃ r', (Instr.findKey t k m).run P w = .ok r' w ∧ r'.map (·.1) = o ∧ ∀ j v, r' = some (j, v) → (m[j]?).map (·.val) = some v := by
  obtain ⟨u, h1, e⟩ := bnd_some e
  obtain ⟨r, h2, e⟩ := bnd_some e
  cases e
  refine ⟨runD_ok P _ h1 w, ?_⟩
  unfold Instr.findKey at h2
  obtain ⟨d, h3, h4⟩ := runD_bind h2
  have hd := runD_ok P _ h3 w
  cases hf : Instr.findNow d k (keyEs es) 0 with
  | some r1 =>
    rw [hf] at h4
    cases h4
    obtain ⟨r', g1, g2, g3⟩ := findNow_keys d k _ _ 0 hk _ hf
    refine ⟨r', ?_, g2, fun j v f => (g3 j v f).2⟩
    simp only [Instr.findKey, Sem.run_bind, hd, Result.andThen_ok, g1, Sem.run_pure]
  | none =>
    rw [hf] at h4
    have hn : Instr.findNow d k m 0 = none := by
      cases hm : Instr.findNow d k m 0 with
      | none => rfl
      | some r2 =>
        obtain ⟨r', g1, _⟩ := findNow_keys d k _ _ 0 hk.symm _ hm
        rw [hf] at g1; cases g1
    obtain ⟨r', g1, g2, g3⟩ := findAsking_keys P t k _ _ 0 hk _ h4
    refine ⟨r', ?_, g2, fun j v f => (g3 j v f).2⟩
    simp only [Instr.findKey, Sem.run_bind, hd, Result.andThen_ok, hn, g1]

section
variable {P : Program} {r : Ren} {env : T AV} {a : Go.Act} {N : Nat} {h : Heap} {n : Nat} {w : World} {ty : TypeId} {call : CallE} {y : Res}

theorem run_getObj {B : Nat} {arr : Array MapEntry} {c : Nat} (h : w.heap[B]? = some (.map arr c)) : (getObj B).run P w = .ok (.map arr c) w := by
  simp [getObj, Sem.run, h]
theorem isEmpty_eq {es : List (Value × AV × Nat)} {arr : Array MapEntry} (hs : arr.size = es.length) : arr.isEmpty = es.isEmpty := by
  rw [Bool.eq_iff_iff]; simp [Array.isEmpty, List.isEmpty_iff, hs]

theorem nilMapV_some {z : Value} {u : Unit} (h : nilMapV z = some u) : z = .map none := by
  unfold nilMapV at h
  split at h
  · rfl
  · cases h
theorem lookup_ok (k : EnvRel r env a N) (q : Rep r h.get w) {t : TypeId} {m x : Operand} {ok : Bool} (e : mLookup t m x ok P call env h n ty = some y) :
    GivesV P (Instr.lookup t (a.eval m) (a.eval x) ok) r h n w y := by
  obtain ⟨mt, h1, e⟩ := bnd_some e
  obtain ⟨v, h2, e⟩ := bnd_some e
  obtain ⟨u, h3, e⟩ := bnd_some e
  obtain ⟨key, h4, e⟩ := bnd_some e
  obtain ⟨es, h5, e⟩ := bnd_some e
  obtain ⟨o, h6, e⟩ := bnd_some e
  obtain ⟨g, h7, e⟩ := bnd_some e
  cases e
  have hm := mapTE_some h1
  have hv := ev_ok k h2
  have hx := toD_ok h4 (ev_ok k h3)
  -- the entries
  have hes : ∃ arr : Array MapEntry, arr.size = es.length ∧ (keyEs es).map (·.key) = arr.toList.map (·.key) ∧
      (∀ (i : Nat) (k : Value) (v : AV) (t : Nat), es[i]? = some (k, v, t) → ∃ x, arr[i]? = some ⟨k, x, t⟩ ∧ Rel r v x) ∧
      ((a.eval m = .map none ∧ arr = #[]) ∨ ∃ B c, a.eval m = .map (some B) ∧ w.heap[B]? = some (.map arr c)) := by
    rcases orE_some h5 with h5 | h5
    · obtain ⟨i, c1, c2⟩ := bnd_some h5
      obtain ⟨es', c3, c4⟩ := bnd_some c2
      cases c4
      cases mapE_some c1
      obtain ⟨B, b, z, f, hx⟩ := map_inv hv
      obtain ⟨arr, hl⟩ := q.liesM (mapAt_some c3) f
      exact ⟨arr, hl.size, hl.keys, hl.entry, .inr ⟨B, _, hx, hl.at_⟩⟩
    · obtain ⟨z, c1, c2⟩ := bnd_some h5
      obtain ⟨_, c3, c4⟩ := bnd_some c2
      cases datE_some c1
      have := nilMapV_some c3
      subst this
      cases c4
      exact ⟨#[], rfl, rfl, fun i k v t e => by simp at e, .inl ⟨dat_inv hv, rfl⟩⟩
  obtain ⟨arr, s1, s2, s3, s4⟩ := hes
  obtain ⟨f1, r', f2, f3, f4⟩ := find_ok s2 h6 w
  -- what is found
  have hg : ∃ x, Rel r g.1 x ∧ ((r' = none ∧ g.2 = false ∧ (zeroValue mt.2).run P w = .ok x w) ∨ (∃ j, r' = some (j, x) ∧ g.2 = true)) := by
    cases o with
    | none =>
      obtain ⟨z, c1, c2⟩ := bnd_some h7
      cases c2
      cases r' with
      | none => exact ⟨z, .dat z, .inl ⟨rfl, rfl, run_zero c1⟩⟩
      | some p => simp at f3
    | some j =>
      obtain ⟨en, c1, c2⟩ := bnd_some h7
      cases c2
      obtain ⟨ek, evv, et⟩ := en
      obtain ⟨x, p1, p2⟩ := s3 j ek evv et c1
      cases r' with
      | none => simp at f3
      | some p =>
        simp only [Option.map_some, Option.some.injEq] at f3
        obtain ⟨pj, pv⟩ := p
        simp only at f3
        subst f3
        have := f4 pj pv rfl
        rw [Array.getElem?_toList, p1] at this
        simp only [Option.map_some, Option.some.injEq] at this
        subst this
        exact ⟨x, p2, .inr ⟨pj, rfl, rfl⟩⟩
  obtain ⟨x, hx1, hx2⟩ := hg
  refine .pure q (x := if ok then .tuple #[x, .bool g.2] else x) ?_ ?_
  · have hem := isEmpty_eq s1
    rcases s4 with ⟨s4, s5⟩ | ⟨B, c, s4, s5⟩
    · subst s5
      simp only [Instr.lookup, Sem.run_bind, run_underlying hm, Result.andThen_ok, s4, Sem.run_pure, hx, hem, f1, f2]
      rcases hx2 with ⟨e1, e2, e3⟩ | ⟨j, e1, e2⟩
      · simp only [e1, Sem.run_bind, e3, Result.andThen_ok, Sem.run_pure, e2]
        try (cases ok <;> rfl)
      · simp only [e1, e2]
        try (cases ok <;> rfl)
    · simp only [Instr.lookup, Sem.run_bind, run_underlying hm, Result.andThen_ok, s4, run_getObj s5, Sem.run_pure, hx, hem, f1, f2]
      rcases hx2 with ⟨e1, e2, e3⟩ | ⟨j, e1, e2⟩
      · simp only [e1, Sem.run_bind, e3, Result.andThen_ok, Sem.run_pure, e2]
        try (cases ok <;> rfl)
      · simp only [e1, e2]
        try (cases ok <;> rfl)
  · cases ok with
    | false => exact hx1
    | true =>
      refine .tup rfl fun i v z e f => ?_
      match i with
      | 0 => simp at e f; subst e; subst f; exact hx1
      | 1 => simp at e f; subst e; subst f; exact .dat _
      | i + 2 => simp at e
end
end Go.Proofs.YtcaeglnfflkabaaGreat.Ev

namespace Go.Proofs.YtcaeglnfflkabaaGreat.Ev
section
variable {P : Program} {r : Ren} {env : T AV} {a : Go.Act} {N : Nat} {h : Heap} {n : Nat} {w : World} {ty : TypeId} {call : CallE} {y : Res}

def Ents (r : Ren) (es : List (Value × AV × Nat)) (arr : Array MapEntry) : Prop :=
  arr.size = es.length ∧ ∀ (i : Nat) (k : Value) (v : AV) (t : Nat), es[i]? = some (k, v, t) → ∃ x, arr[i]? = some ⟨k, x, t⟩ ∧ Rel r v x
theorem LiesM.ents {es : List (Value × AV × Nat)} {c : Nat} {B : Nat} {arr : Array MapEntry} (l : LiesM r es c w B arr) : Ents r es arr := ⟨l.size, l.entry⟩
theorem Ents.push {es : List (Value × AV × Nat)} {arr : Array MapEntry} (l : Ents r es arr) {k : Value} {v : AV} {x : Value} (t : Nat) (hv : Rel r v x) :
    Ents r (es ++ [(k, v, t)]) (arr.push ⟨k, x, t⟩) := by
  refine ⟨by simp [l.1], fun i k' v' t' e => ?_⟩
  by_cases g : i < es.length
  · rw [List.getElem?_append_left g] at e
    obtain ⟨x', p, q⟩ := l.2 i k' v' t' e
    exact ⟨x', by rw [Array.getElem?_push, if_neg (by have := l.1; omega)]; exact p, q⟩
  · rw [List.getElem?_append_right (by omega)] at e
    have : i = es.length := by
      rcases Nat.lt_or_ge (i - es.length) 1 with g1 | g1
      · omega
      · rw [List.getElem?_eq_none (by simpa using g1)] at e; cases e
    subst this
    simp only [Nat.sub_self, List.getElem?_cons_zero, Option.some.injEq, Prod.mk.injEq] at e
    obtain ⟨rfl, rfl, rfl⟩ := e
    exact ⟨x, by rw [Array.getElem?_push, if_pos l.1.symm], hv⟩
theorem Ents.modify {es : List (Value × AV × Nat)} {arr : Array MapEntry} (l : Ents r es arr) {f : Value × AV × Nat → Value × AV × Nat} {g : MapEntry → MapEntry} (j : Nat)
    (hf : ∀ k v t x, es[j]? = some (k, v, t) → Rel r v x → ∃ x', g ⟨k, x, t⟩ = ⟨(f (k, v, t)).1, x', (f (k, v, t)).2.2⟩ ∧ Rel r (f (k, v, t)).2.1 x') : Ents r (modE es j f) (arr.modify j g) := by
  refine ⟨by simp [modE, l.1], fun i k v t e => ?_⟩
  simp only [modE, List.getElem?_modify] at e
  rw [Array.getElem?_modify]
  by_cases c : j = i
  · subst c
    rw [if_pos rfl]
    simp only [if_true] at e
    cases he : es[j]? with
    | none => rw [he] at e; cases e
    | some z =>
      obtain ⟨k0, v0, t0⟩ := z
      rw [he] at e
      simp only [Option.map_eq_map, Option.map_some, Option.some.injEq] at e
      obtain ⟨x, p, q⟩ := l.2 j k0 v0 t0 he
      obtain ⟨x', g1, g2⟩ := hf k0 v0 t0 x he q
      rw [e] at g1 g2
      exact ⟨x', by rw [p]; exact congrArg some g1, g2⟩
  · rw [if_neg c]
    simp only [if_neg c] at e
    obtain ⟨x, p, q⟩ := l.2 i k v t (by simpa using e)
    exact ⟨x, p, q⟩
theorem Ents.erase {es : List (Value × AV × Nat)} {arr : Array MapEntry} (l : Ents r es arr) {j : Nat} (hj : j < es.length) : Ents r (es.eraseIdx j) (arr.eraseIdxIfInBounds j) := by
  have hs := l.1
  have hj' : j < arr.size := by omega
  rw [Array.eraseIdxIfInBounds_eq]
  rw [dif_pos hj']
  refine ⟨by simp [List.length_eraseIdx, hj, hs], fun i k v t e => ?_⟩
  rw [List.getElem?_eraseIdx] at e
  rw [Array.getElem?_eraseIdx]
  split at e <;> rename_i c
  · rw [if_pos c]; exact l.2 i k v t e
  · rw [if_neg c]; exact l.2 (i + 1) k v t e

/-- A map's block laid anew. -/
theorem set_map {i B o m c c' : Nat} {es es' : List (Value × AV × Nat)} {arr arr' : Array MapEntry} (q : Rep r h.get w) (e : h.get i = some (.map es c)) (f : r i = some (B, o, m))
    (l : LiesM r es c w B arr) (l' : Ents r es' arr') :
    (setObj B (.map arr' c')).run P w = .ok () { w with heap := w.heap.setIfInBounds B (.map arr' c') } ∧
    Post r h.get (h.put i (some (.map es' c'))).get n n w { w with heap := w.heap.setIfInBounds B (.map arr' c') } r := by
  have hB : B < w.heap.size := (Array.getElem?_eq_some_iff.1 l.at_).1
  refine ⟨by simp [setObj, Sem.run, l.at_], .set q e f ?_ rfl rfl rfl (by simp) fun C hC => ?_⟩
  · show Fits r _ (w.heap.setIfInBounds B _)[B]? o m
    rw [Array.getElem?_setIfInBounds, if_pos rfl, if_pos hB]
    exact .map l'.1 l'.2
  · show (w.heap.setIfInBounds B _)[C]? = _
    rw [Array.getElem?_setIfInBounds, if_neg (Ne.symm hC)]

theorem mapUpdate_ok (k : EnvRel r env a N) (q : Rep r h.get w) {t : TypeId} {m x z : Operand} (e : mMapUpdate t m x z P call env h n ty = some y) :
    GivesU P (Instr.mapUpdate t (a.eval m) (a.eval x) (a.eval z)) r h n w y := by
  obtain ⟨mt, h1, e⟩ := bnd_some e
  obtain ⟨v, h2, e⟩ := bnd_some e
  obtain ⟨i, h3, e⟩ := bnd_some e
  obtain ⟨es, h4, e⟩ := bnd_some e
  obtain ⟨u, h5, e⟩ := bnd_some e
  obtain ⟨key, h6, e⟩ := bnd_some e
  obtain ⟨nv, h7, e⟩ := bnd_some e
  obtain ⟨o, h8, e'⟩ := bnd_some e
  have hm := mapTE_some h1
  have hv := ev_ok k h2
  have hx := toD_ok h6 (ev_ok k h5)
  have hz := ev_ok k h7
  have hi := mapAt_some h4
  cases mapE_some h3
  obtain ⟨B, b, s, f, hmv⟩ := map_inv hv
  obtain ⟨arr, l⟩ := q.liesM hi f
  obtain ⟨f1, r', f2, f3, f4⟩ := find_ok l.keys h8 w
  cases o with
  | none =>
    cases r' with
    | some p => simp at f3
    | none =>
      cases e'
      obtain ⟨s1, s2⟩ := set_map (P := P) (n := n) (c' := es.2 + 1) q hi f l (l.ents.push (k := key) es.2 hz)
      refine ⟨Nat.le_refl _, fun _ => ⟨_, r, ?_, rfl, s2⟩⟩
      simp only [Instr.mapUpdate, Sem.run_bind, run_underlying hm, Result.andThen_ok, hmv, run_getObj l.at_, hx, f1, f2, s1]
  | some j =>
    cases r' with
    | none => simp at f3
    | some p =>
      obtain ⟨c1, e''⟩ := iff_some e'
      cases e''
      simp only [Option.map_some, Option.some.injEq] at f3
      obtain ⟨pj, pv⟩ := p
      simp only at f3
      subst f3
      cases he : es.1[pj]? with
      | none => rw [he] at c1; cases c1
      | some z0 =>
        obtain ⟨k0, v0, t0⟩ := z0
        rw [he] at c1
        simp only [Option.any_some] at c1
        obtain ⟨x0, p1, p2⟩ := l.entry pj k0 v0 t0 he
        obtain ⟨s1, s2⟩ := set_map (P := P) (n := n) (c' := es.2) q hi f l (l.ents.modify (f := fun e => (key, nv, e.2.2)) (g := fun e => { e with key := key, val := a.eval z }) pj
          fun k v t x _ _ => ⟨a.eval z, rfl, hz⟩)
        refine ⟨Nat.le_refl _, fun _ => ⟨_, r, ?_, rfl, s2⟩⟩
        simp only [Instr.mapUpdate, Sem.run_bind, run_underlying hm, Result.andThen_ok, hmv, run_getObj l.at_, hx, f1, f2, Instr.keyThatStays, p1, Option.map_some, Option.getD_some, c1, if_true, Sem.run_pure, s1]

theorem mapEntry_ok (k : EnvRel r env a N) (q : Rep r h.get w) {t : TypeId} {m x : Operand} (e : mMapEntry t m x P call env h n ty = some y) :
    GivesV P (Instr.mapEntry t (a.eval m) (a.eval x)) r h n w y := by
  obtain ⟨mt, h1, e⟩ := bnd_some e
  obtain ⟨v, h2, e⟩ := bnd_some e
  obtain ⟨i, h3, e⟩ := bnd_some e
  obtain ⟨es, h4, e⟩ := bnd_some e
  obtain ⟨u, h5, e⟩ := bnd_some e
  obtain ⟨key, h6, e⟩ := bnd_some e
  obtain ⟨o, h8, e'⟩ := bnd_some e
  have hm := mapTE_some h1
  have hv := ev_ok k h2
  have hx := toD_ok h6 (ev_ok k h5)
  have hi := mapAt_some h4
  cases mapE_some h3
  obtain ⟨B, b, s, f, hmv⟩ := map_inv hv
  obtain ⟨arr, l⟩ := q.liesM hi f
  obtain ⟨f1, r', f2, f3, f4⟩ := find_ok l.keys h8 w
  have pair : ∀ {v1 : AV} {x1 : Value} {j : Int}, Rel r v1 x1 → Rel r (.tup [v1, .dat (goInt j)]) (.tuple #[x1, goInt j]) := by
    intro v1 x1 j g
    refine .tup rfl fun i v z e f => ?_
    match i with
    | 0 => simp at e f; subst e; subst f; exact g
    | 1 => simp at e f; subst e; subst f; exact .dat _
    | i + 2 => simp at e
  cases o with
  | none =>
    cases r' with
    | some p => simp at f3
    | none =>
      obtain ⟨zv, c1, e''⟩ := bnd_some e'
      cases e''
      obtain ⟨s1, s2⟩ := set_map (P := P) (n := n) (c' := es.2 + 1) q hi f l (l.ents.push (k := key) es.2 (.dat zv))
      refine ⟨Nat.le_refl _, fun _ => ⟨.tuple #[zv, goInt es.2], _, r, ?_, pair (.dat zv), s2⟩⟩
      simp only [Instr.mapEntry, Sem.run_bind, run_underlying hm, Result.andThen_ok, hmv, run_getObj l.at_, hx, f1, f2, run_zero c1, s1, Sem.run_pure]
  | some j =>
    cases r' with
    | none => simp at f3
    | some p =>
      obtain ⟨z0, he, e''⟩ := bnd_some e'
      obtain ⟨c1, e'''⟩ := iff_some e''
      cases e'''
      simp only [Option.map_some, Option.some.injEq] at f3
      obtain ⟨pj, pv⟩ := p
      simp only at f3
      subst f3
      obtain ⟨k0, v0, t0⟩ := z0
      simp only at c1
      obtain ⟨x0, p1, p2⟩ := l.entry pj k0 v0 t0 he
      have hpv := f4 pj pv rfl
      rw [Array.getElem?_toList, p1] at hpv
      simp only [Option.map_some, Option.some.injEq] at hpv
      subst hpv
      obtain ⟨s1, s2⟩ := set_map (P := P) (n := n) (c' := es.2) q hi f l (l.ents.modify (f := fun e => (key, e.2)) (g := fun e => { e with key := key }) pj
        fun k v t x _ hv => ⟨x, rfl, hv⟩)
      refine ⟨Nat.le_refl _, fun _ => ⟨.tuple #[x0, goInt t0], _, r, ?_, pair p2, s2⟩⟩
      simp only [Instr.mapEntry, Sem.run_bind, run_underlying hm, Result.andThen_ok, hmv, run_getObj l.at_, hx, f1, f2, Instr.keyThatStays, p1, Option.map_some, Option.getD_some, c1, if_true, Sem.run_pure, s1]

theorem findIdx_ok {es : List (Value × AV × Nat)} {arr : Array MapEntry} (l : Ents r es arr) {s j : Nat} (e : (es.findIdx? fun e => Nat.beq e.2.2 s) = some j) :
    arr.findIdx? (fun e => (e.born : Int) == (s : Int)) = some j := by
  rw [List.findIdx?_eq_some_iff_getElem] at e
  obtain ⟨h1, h2, h3⟩ := e
  rw [Array.findIdx?_eq_some_iff_getElem]
  have hs := l.1
  have key : ∀ (i : Nat) (hi : i < es.length), (arr[i]'(by omega)).born = es[i].2.2 := by
    intro i hi
    obtain ⟨x, p, _⟩ := l.2 i es[i].1 es[i].2.1 es[i].2.2 (List.getElem?_eq_getElem hi)
    rw [Array.getElem?_eq_getElem (by omega)] at p
    simp only [Option.some.injEq] at p
    rw [p]
  refine ⟨by omega, ?_, fun i hi => ?_⟩
  · rw [key j h1, beq_eq h2]; simp
  · rw [key i (by omega)]
    have := h3 i hi
    simp only [beq_iff_eq]
    intro c
    apply this
    have : es[i].2.2 = s := by omega
    rw [this]; exact Nat.beq_refl s

theorem entryStore_ok (k : EnvRel r env a N) (q : Rep r h.get w) {t : TypeId} {m x z : Operand} (e : mEntryStore t m x z P call env h n ty = some y) :
    GivesU P (Instr.entryStore t (a.eval m) (a.eval x) (a.eval z)) r h n w y := by
  obtain ⟨v, h2, e⟩ := bnd_some e
  obtain ⟨i, h3, e⟩ := bnd_some e
  obtain ⟨es, h4, e⟩ := bnd_some e
  obtain ⟨u, h5, e⟩ := bnd_some e
  obtain ⟨s, h6, e⟩ := bnd_some e
  obtain ⟨nv, h7, e⟩ := bnd_some e
  obtain ⟨j, h8, e⟩ := bnd_some e
  cases e
  have hv := ev_ok k h2
  obtain ⟨kd, hs⟩ := natE_some h6
  subst hs
  have hx := dat_inv (ev_ok k h5)
  have hz := ev_ok k h7
  have hi := mapAt_some h4
  cases mapE_some h3
  obtain ⟨B, b, s0, f, hmv⟩ := map_inv hv
  obtain ⟨arr, l⟩ := q.liesM hi f
  have hf := findIdx_ok l.ents h8
  obtain ⟨s1, s2⟩ := set_map (P := P) (n := n) (c' := es.2) q hi f l (l.ents.modify (f := fun e => (e.1, nv, e.2.2)) (g := fun e => { e with val := a.eval z }) j
    fun k v t x _ _ => ⟨a.eval z, rfl, hz⟩)
  refine ⟨Nat.le_refl _, fun _ => ⟨_, r, ?_, rfl, s2⟩⟩
  simp only [Instr.entryStore, Sem.run_bind, hmv, run_getObj l.at_, Result.andThen_ok, hx, asInt, asInt_ofNat, Sem.run_pure, Int.ofNat_eq_natCast, hf, s1]
end
end Go.Proofs.YtcaeglnfflkabaaGreat.Ev

namespace Go.Proofs.YtcaeglnfflkabaaGreat.Ev
section
variable {P : Program} {r : Ren} {env : T AV} {a : Go.Act} {N : Nat} {h : Heap} {n : Nat} {w : World} {ty : TypeId} {call : CallE} {y : Res}

theorem range_ok (k : EnvRel r env a N) (q : Rep r h.get w) {t : TypeId} {x : Operand} (e : mRange t x P call env h n ty = some y) : GivesV P (Instr.range t (a.eval x)) r h n w y := by
  obtain ⟨mt, h1, e⟩ := bnd_some e
  obtain ⟨v, h2, e⟩ := bnd_some e
  have hm := mapTE_some h1
  have hv := ev_ok k h2
  rcases orE_some e with e | e
  · obtain ⟨i, h3, e⟩ := bnd_some e
    obtain ⟨es, h4, e⟩ := bnd_some e
    cases e
    cases mapE_some h3
    obtain ⟨B, b, s, f, hx⟩ := map_inv hv
    obtain ⟨arr, l⟩ := q.liesM (mapAt_some h4) f
    refine ⟨Nat.le_succ n, fun g => ?_⟩
    have g0 := g n (Nat.le_refl _) (Nat.lt_succ_self _)
    refine ⟨.pointer (some ⟨w.heap.size, 0, none⟩), _, r.add n (w.heap.size, 0, 0), ?_, .ptr (Ren.add_same _ _ _), .new (x := .mapIter (some B) es.2 #[] es.2) q g0 (.iter (seen := []) (Ren.add_le g0 _ _ f))⟩
    simp only [Instr.range, Sem.run_bind, run_underlying hm, Result.andThen_ok, hx, run_getObj l.at_, Sem.run_pure, run_newObj]
  · obtain ⟨z, h3, e⟩ := bnd_some e
    obtain ⟨_, h4, e⟩ := bnd_some e
    cases e
    cases datE_some h3
    have hz := nilMapV_some h4
    subst hz
    refine ⟨Nat.le_succ n, fun g => ?_⟩
    have g0 := g n (Nat.le_refl _) (Nat.lt_succ_self _)
    refine ⟨.pointer (some ⟨w.heap.size, 0, none⟩), _, r.add n (w.heap.size, 0, 0), ?_, .ptr (Ren.add_same _ _ _), .new (x := .mapIter none 0 #[] 0) q g0 (.none (seen := []))⟩
    simp only [Instr.range, Sem.run_bind, run_underlying hm, Result.andThen_ok, dat_inv hv, Sem.run_pure, run_newObj]

theorem Rep.iter {i B o m since last : Nat} {mm : Option Nat} {seen : List Nat} (q : Rep r h.get w) (e : h.get i = some (.iter mm since seen last)) (f : r i = some (B, o, m)) :
    o = 0 ∧ ∃ mB, w.heap[B]? = some (.mapIter mB since seen.toArray last) ∧ ((mm = none ∧ mB = none) ∨ ∃ id b k s, mm = some id ∧ mB = some b ∧ r id = some (b, k, s)) := by
  obtain ⟨B', o', n', g, q⟩ := q.fits i _ e
  rw [f] at g; cases g
  generalize hx : w.heap[B]? = x at q
  cases q with
  | none => exact ⟨rfl, _, rfl, .inl ⟨rfl, rfl⟩⟩
  | iter g => exact ⟨rfl, _, rfl, .inr ⟨_, _, _, _, rfl, rfl, g⟩⟩

theorem Ents.cons {k : Value} {v : AV} {t : Nat} {es : List (Value × AV × Nat)} {l : List MapEntry} (h : Ents r ((k, v, t) :: es) l.toArray) :
    ∃ x l', l = ⟨k, x, t⟩ :: l' ∧ Rel r v x ∧ Ents r es l'.toArray := by
  cases l with
  | nil => have := h.1; simp at this
  | cons e l =>
    obtain ⟨x, p, q⟩ := h.2 0 k v t rfl
    simp only [List.getElem?_toArray, List.getElem?_cons_zero, Option.some.injEq] at p
    subst p
    exact ⟨x, l, rfl, q, by have := h.1; simpa using this, fun i k v t e => by have := h.2 (i + 1) k v t (by simpa using e); simpa using this⟩
theorem Ents.cons' {k x : Value} {v : AV} {t : Nat} {es : List (Value × AV × Nat)} {l : List MapEntry} (hv : Rel r v x) (h : Ents r es l.toArray) : Ents r ((k, v, t) :: es) (⟨k, x, t⟩ :: l).toArray := by
  refine ⟨by have := h.1; simpa using this, fun i k' v' t' e => ?_⟩
  cases i with
  | zero => simp at e; obtain ⟨rfl, rfl, rfl⟩ := e; exact ⟨x, by simp, hv⟩
  | succ i => have := h.2 i k' v' t' (by simpa using e); simpa using this
theorem Ents.filter {p : Nat → Bool} : ∀ {es : List (Value × AV × Nat)} {l : List MapEntry}, Ents r es l.toArray → Ents r (es.filter fun e => p e.2.2) (l.filter fun e => p e.born).toArray := by
  intro es
  induction es with
  | nil => intro l h; have := h.1; simp at this; subst this; exact h
  | cons e es ih =>
    intro l h
    obtain ⟨k, v, t⟩ := e
    obtain ⟨x, l', rfl, hv, h'⟩ := h.cons
    have := ih h'
    cases hp : p t with
    | true => simp only [List.filter_cons, hp, if_true]; exact this.cons' hv
    | false => simp only [List.filter_cons, hp, Bool.false_eq_true, if_false]; exact this
theorem Ents.find {p : Nat → Bool} : ∀ {es : List (Value × AV × Nat)} {l : List MapEntry}, Ents r es l.toArray → ∀ {k : Value} {v : AV} {t : Nat}, (es.find? fun e => p e.2.2) = some (k, v, t) →
    ∃ x, (l.find? fun e => p e.born) = some ⟨k, x, t⟩ ∧ Rel r v x := by
  intro es
  induction es with
  | nil => intro l h k v t e; cases e
  | cons e0 es ih =>
    intro l h k v t e
    obtain ⟨k0, v0, t0⟩ := e0
    obtain ⟨x, l', rfl, hv, h'⟩ := h.cons
    simp only [List.find?_cons] at e ⊢
    cases hp : p t0 with
    | true => rw [hp] at e; simp only [Option.some.injEq, Prod.mk.injEq] at e; obtain ⟨rfl, rfl, rfl⟩ := e; exact ⟨x, rfl, hv⟩
    | false => rw [hp] at e; exact ih h' e
theorem Ents.all {p : Nat → Bool} : ∀ {es : List (Value × AV × Nat)} {l : List MapEntry}, Ents r es l.toArray → (es.all fun e => p e.2.2) = (l.all fun e => p e.born) := by
  intro es
  induction es with
  | nil => intro l h; have := h.1; simp at this; subst this; rfl
  | cons e es ih =>
    intro l h
    obtain ⟨k0, v0, t0⟩ := e
    obtain ⟨x, l', rfl, hv, h'⟩ := h.cons
    simp only [List.all_cons, ih h']

theorem entry_ok (k : EnvRel r env a N) (q : Rep r h.get w) {x : Operand} (e : mEntry x P call env h n ty = some y) : GivesV P (Instr.entry (a.eval x)) r h n w y := by
  obtain ⟨v, h1, e⟩ := bnd_some e
  obtain ⟨p, h2, e⟩ := bnd_some e
  obtain ⟨h3, e⟩ := iff_some e
  obtain ⟨b, h4, e⟩ := bnd_some e
  obtain ⟨it, h5, e⟩ := bnd_some e
  obtain ⟨m, h6, e⟩ := bnd_some e
  obtain ⟨es, h7, e⟩ := bnd_some e
  obtain ⟨h8, e⟩ := iff_some e
  obtain ⟨st, h9, e⟩ := bnd_some e
  obtain ⟨en, h10, e⟩ := bnd_some e
  cases e
  have hv := ev_ok k h1
  have hb : b = .iter it.1 it.2.1 it.2.2.1 it.2.2.2 := by cases b <;> simp [iterB] at h5; subst h5; rfl
  subst hb
  cases ptrE_some h2
  obtain ⟨B, o, s, f, hx⟩ := ptr_inv hv
  obtain ⟨ho, mB, at_, hm⟩ := q.iter h4 f
  rw [h6] at hm
  rcases hm with ⟨c, _⟩ | ⟨id, bb, kk, ss, c1, c2, c3⟩
  · cases c
  · cases c1; subst c2
    obtain ⟨arr, l⟩ := q.liesM (mapAt_some h7) c3
    obtain ⟨ek, evv, et⟩ := en
    obtain ⟨z, z1, z2⟩ := Ents.find (p := fun t => Nat.beq t st) (l := arr.toList) (by simpa using l.ents) h10
    refine .pure q (x := .tuple #[ek, z]) ?_ ?_
    · have e1 : (getObj B).run P w = .ok (.mapIter (some bb) it.2.1 it.2.2.1.toArray it.2.2.2) w := by simp [getObj, Sem.run, at_]
      have e2 : it.2.2.1.toArray.back? = some st := by simpa using h9
      have e3 : (es.2 != it.2.2.2) = false := by have := beq_eq h8; simp [this]
      have e4 : arr.find? (fun e => e.born == st) = some ⟨ek, z, et⟩ := by
        rw [← Array.find?_toList]
        have : (fun (e : MapEntry) => e.born == st) = fun e => Nat.beq e.born st := by
          funext e; rw [Bool.eq_iff_iff]; simp
        rw [this]; exact z1
      have hp2 : o + p.2 = 0 := by have := beq_eq h3; omega
      rw [hx, hp2]
      simp only [Instr.entry, Sem.run_bind, e1, Result.andThen_ok, e2, run_getObj l.at_, e3, Bool.false_eq_true, if_false, e4, Sem.run_pure]
    · refine .tup rfl fun i v z e f => ?_
      match i with
      | 0 => simp at e f; subst e; subst f; exact .dat _
      | 1 => simp at e f; subst e; subst f; exact z2
      | i + 2 => simp at e

theorem next_ok (k : EnvRel r env a N) (q : Rep r h.get w) {x : Operand} {str : Bool} (t : TypeId) (e : mNext x str P call env h n ty = some y) : GivesV P (Instr.next (a.eval x) str t) r h n w y := by
  obtain ⟨h0, e⟩ := iff_some e
  obtain ⟨v, h1, e⟩ := bnd_some e
  obtain ⟨p, h2, e⟩ := bnd_some e
  obtain ⟨h3, e⟩ := iff_some e
  obtain ⟨b, h4, e⟩ := bnd_some e
  obtain ⟨it, h5, e'⟩ := bnd_some e
  have hstr : str = false := by cases str <;> first | rfl | cases h0
  have hv := ev_ok k h1
  have hb : b = .iter it.1 it.2.1 it.2.2.1 it.2.2.2 := by cases b <;> simp [iterB] at h5; subst h5; rfl
  subst hb
  cases ptrE_some h2
  obtain ⟨B, o, s, f, hx⟩ := ptr_inv hv
  obtain ⟨ho, mB, at_, hm⟩ := q.iter h4 f
  have hp2 : o + p.2 = 0 := by have := beq_eq h3; omega
  have over : Rel r (.tup [.dat (.bool false)]) (.tuple #[.bool false]) := .tup rfl fun i v z e f => by
    match i with
    | 0 => simp at e f; subst e; subst f; exact .dat _
    | i + 1 => simp at e
  subst hstr
  rw [hx, hp2]
  obtain ⟨mm, since, seen, last⟩ := it
  simp only at e' hm at_ h4
  rcases hm with ⟨c1, c2⟩ | ⟨id, bb, kk, ss, c1, c2, c3⟩
  · subst c1; subst c2
    cases e'
    refine .pure q (x := .tuple #[.bool false]) ?_ over
    have e1 : (getObj B).run P w = .ok (.mapIter none since seen.toArray last) w := by simp [getObj, Sem.run, at_]
    simp only [Instr.next, Sem.run_bind, e1, Result.andThen_ok, Sem.run_pure]
  · subst c1; subst c2
    obtain ⟨es, h7, e''⟩ := bnd_some e'
    obtain ⟨rr, h8, e3⟩ := bnd_some e''
    obtain ⟨g1, g2⟩ := iff_some h8
    obtain ⟨arr, l⟩ := q.liesM (mapAt_some h7) c3
    have hen : Ents r es.1 arr.toList.toArray := by simpa using l.ents
    have e1 : (getObj B).run P w = .ok (.mapIter (some bb) since seen.toArray last) w := by simp [getObj, Sem.run, at_]
    have hall := Ents.all (p := fun t => Nat.ble last t) hen
    have hcond : (!seen.toArray.isEmpty && !arr.isEmpty && arr.all (fun e => decide (e.born ≥ last))) = false := by
      have : (arr.all fun e => decide (e.born ≥ last)) = es.1.all (fun e => Nat.ble last e.2.2) := by
        rw [hall, ← Array.all_toList]
        congr 1
        funext e
        rw [Bool.eq_iff_iff]; simp
      rw [this, isEmpty_eq l.size]
      have : seen.toArray.isEmpty = seen.isEmpty := by cases seen <;> rfl
      rw [this]
      exact (Bool.not_eq_true' _).mp g1
    have hfil := Ents.filter (p := fun t => !seen.any (Nat.beq t)) hen
    have hfe : arr.filter (fun e => !seen.toArray.contains e.born) = (arr.toList.filter fun e => !seen.any (Nat.beq e.born)).toArray := by
      have : (fun (e : MapEntry) => !seen.toArray.contains e.born) = fun e => !seen.any (Nat.beq e.born) := by
        funext e
        congr 1
        rw [List.contains_toArray, List.contains_eq_any_beq]
        congr 1
        funext j
        rw [Bool.eq_iff_iff]; simp
      rw [this]
      apply Array.ext'
      simp
    generalize hL : (arr.toList.filter fun e => !seen.any (Nat.beq e.born)) = L at hfil hfe
    split at g2
    · rename_i hl
      cases g2
      cases e3
      rw [hl] at hfil
      have : L = [] := by have := hfil.1; simpa using this
      subst this
      refine .pure q (x := .tuple #[.bool false]) ?_ over
      simp only [Instr.next, Sem.run_bind, e1, Result.andThen_ok, run_getObj l.at_, hcond, Bool.false_eq_true, if_false, hfe]
      simp [Question.forced]
    · rename_i en hl
      obtain ⟨g3, g4⟩ := iff_some g2
      cases g4
      cases e3
      rw [hl] at hfil
      obtain ⟨ek, evv, et⟩ := en
      obtain ⟨z, L', rfl, hz, h'⟩ := hfil.cons
      have : L' = [] := by have := h'.1; simpa using this
      subst this
      simp only at g3
      have hlt := blt_lt g3
      refine ⟨Nat.le_refl _, fun _ => ⟨.tuple #[.bool true, ek, z], { w with heap := w.heap.setIfInBounds B (.mapIter (some bb) since (seen ++ [et]).toArray es.2) }, r, ?_, ?_, ?_⟩⟩
      · have hB : (setObj B (.mapIter (some bb) since (seen ++ [et]).toArray es.2)).run P w = .ok () { w with heap := w.heap.setIfInBounds B (.mapIter (some bb) since (seen ++ [et]).toArray es.2) } := by
          simp [setObj, Sem.run, at_]
        simp only [Instr.next, Sem.run_bind, e1, Result.andThen_ok, run_getObj l.at_, hcond, Bool.false_eq_true, if_false, hfe]
        simp [Question.forced, hlt, Nat.not_le.2 hlt, hB]
      · refine .tup rfl fun i v z' e f => ?_
        match i with
        | 0 => simp at e f; subst e; subst f; exact .dat _
        | 1 => simp at e f; subst e; subst f; exact .dat _
        | 2 => simp at e f; subst e; subst f; exact hz
        | i + 3 => simp at e
      · have hB : B < w.heap.size := (Array.getElem?_eq_some_iff.1 at_).1
        refine .set q h4 f ?_ rfl rfl rfl (by simp) fun C hC => ?_
        · show Fits r _ (w.heap.setIfInBounds B _)[B]? o s
          rw [Array.getElem?_setIfInBounds, if_pos rfl, if_pos hB, ho]
          exact .iter c3
        · show (w.heap.setIfInBounds B _)[C]? = _
          rw [Array.getElem?_setIfInBounds, if_neg (Ne.symm hC)]
    · cases g2
end
end Go.Proofs.YtcaeglnfflkabaaGreat.Ev
