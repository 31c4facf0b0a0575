/- The operations, one after the other. -/
import Derived.Test.YtcaeglnfflkabaaGreatEv2
namespace Go.Proofs.YtcaeglnfflkabaaGreat.Ev

theorem runD_ok {α : Type} (P : Program) : ∀ (s : Sem α) {x : α}, runD P s = some x → ∀ w, s.run P w = .ok x w := by
  intro s
  induction s with
  | pure a => intro x h w; cases h; rfl
  | program k ih => intro x h w; exact ih P h w
  | _ => intro x h; cases h
theorem natE_some {v : AV} {k : Nat} (h : natE v = some k) : ∃ kd, v = .dat (.int kd (.ofNat k)) := by
  obtain ⟨x, h1, h2⟩ := bnd_some h
  cases datE_some h1
  cases x <;> simp [natV] at h2
  rename_i kd i
  cases i <;> simp [natI] at h2
  subst h2; exact ⟨kd, rfl⟩
theorem boolE_some {v : AV} {b : Bool} (h : boolE v = some b) : v = .dat (.bool b) := by
  obtain ⟨x, h1, h2⟩ := bnd_some h
  cases datE_some h1
  cases x <;> simp [boolV] at h2
  subst h2; rfl
theorem nilE_some {v : AV} {u : Unit} (h : nilE v = some u) : v = .dat (.slice none 0 0) := by
  obtain ⟨x, h1, h2⟩ := bnd_some h
  cases datE_some h1
  obtain ⟨h2, _⟩ := iff_some h2
  unfold isNilV at h2
  split at h2
  · rfl
  · cases h2
theorem unDL_ok {r : Ren} : ∀ (l : List AV) {vs : List Value} {xs : Array Value}, unDL l = some vs → RelL r l xs → xs = vs.toArray := by
  intro l
  induction l with
  | nil =>
    intro vs xs h k
    cases h
    have := k.1
    exact Array.eq_empty_of_size_eq_zero (by simpa using this)
  | cons v l ih =>
    intro vs xs h k
    obtain ⟨y, h1, h⟩ := bnd_some h
    obtain ⟨l', h2, h⟩ := bnd_some h
    cases h
    cases datE_some h1
    have hs := k.1
    simp only [List.length_cons] at hs
    have h0 : xs[0]? = some y := by
      have : 0 < xs.size := by omega
      rw [Array.getElem?_eq_getElem this]
      rw [dat_inv (k.2 0 _ _ rfl (Array.getElem?_eq_getElem this))]
    have := ih (xs := (xs.toList.drop 1).toArray) h2 ⟨by simp; omega, fun i v x e f => k.2 (i + 1) v x (by simpa using e) (by simpa [List.getElem?_drop, Nat.add_comm] using f)⟩
    apply Array.ext'
    have h3 : xs.toList.drop 1 = l' := by simpa using congrArg Array.toList this
    have h4 : xs.toList = y :: xs.toList.drop 1 := by
      rw [← Array.getElem?_toList] at h0
      cases hx : xs.toList with
      | nil => rw [hx] at h0; cases h0
      | cons a b => rw [hx] at h0; cases h0; rfl
    rw [h4, h3]
theorem toD_ok {r : Ren} {v : AV} {y x : Value} (h : toD v = some y) (k : Rel r v x) : x = y := by
  cases v with
  | dat u => cases h; exact dat_inv k
  | agg cs =>
    obtain ⟨l, h1, h2⟩ := bnd_some h
    cases h2
    cases k with
    | agg a b => rw [unDL_ok cs h1 ⟨a, b⟩]
  | _ => cases h

section
variable {P : Program} {r : Ren} {env : T AV} {a : Act} {N : Nat} {h : Heap} {n : Nat} {w : World} {ty : TypeId} {call : CallE} {y : Res}

theorem alloc_ok (q : Rep r h.get w) {t : TypeId} (e : mAlloc t P call env h n ty = some y) : GivesV P (Instr.alloc t true (.tuple #[])) r h n w y := by
  obtain ⟨z, h1, e⟩ := bnd_some e
  obtain ⟨z', h2, h3⟩ := zeroE_some h1
  subst h3
  have := gives_new (P := P) (el := t) q (RelL.dat r z'.cells) e
  simpa [GivesV, Instr.alloc, run_zero h2, newVar] using this
theorem box_ok (k : EnvRel r env a N) (q : Rep r h.get w) {t : TypeId} {x : Operand} (e : mBox t x P call env h n ty = some y) : GivesV P (Instr.box t (a.eval x)) r h n w y := by
  obtain ⟨v, h1, e⟩ := bnd_some e
  have := gives_new (P := P) (el := t) q (cells_ok (ev_ok k h1)) e
  simpa [GivesV, Instr.box, newVar] using this
theorem loadOp_ok (k : EnvRel r env a N) (q : Rep r h.get w) {t : TypeId} {x : Operand} (e : mLoad t x P call env h n ty = some y) : GivesV P (Instr.loadAt t (a.eval x)) r h n w y := by
  obtain ⟨v, h1, e⟩ := bnd_some e
  obtain ⟨p, h2, e⟩ := bnd_some e
  obtain ⟨g, h3, e⟩ := bnd_some e
  obtain ⟨s, h4, e⟩ := bnd_some e
  obtain ⟨cs, h5, e⟩ := bnd_some e
  obtain ⟨u, h6, e⟩ := bnd_some e
  cases e
  cases ptrE_some h2
  obtain ⟨B, o, m, f, hx⟩ := ptr_inv (ev_ok k h1)
  obtain ⟨x', p', q'⟩ := load_ok q h3 h4 h5 h6 f
  exact .pure q (by simp [Instr.loadAt, hx, Instr.sureAddr, p']) q'
theorem nilCheck_ok (k : EnvRel r env a N) (_q : Rep r h.get w) {x : Operand} (e : mNilCheck x P call env h n ty = some y) :
    ∃ B o, a.eval x = .pointer (some ⟨B, o, none⟩) ∧ y = ⟨y.v, h, n⟩ ∧ Rel r y.v (a.eval x) := by
  obtain ⟨v, h1, e⟩ := bnd_some e
  obtain ⟨p, h2, e⟩ := bnd_some e
  cases e
  have hv := ev_ok k h1
  cases ptrE_some h2
  obtain ⟨B, o, m, f, hx⟩ := ptr_inv hv
  exact ⟨B, _, hx, rfl, hv⟩
theorem unOp_ok (k : EnvRel r env a N) (q : Rep r h.get w) {op : UnOp} {t : TypeId} {x : Operand} (e : mUnOp op t x P call env h n ty = some y) : GivesV P (Op.unary op (a.eval x)) r h n w y := by
  obtain ⟨v, h1, e⟩ := bnd_some e
  obtain ⟨u, h2, e⟩ := bnd_some e
  obtain ⟨z, h3, e⟩ := bnd_some e
  cases e
  have hv := ev_ok k h1
  cases datE_some h2
  rw [dat_inv hv]
  exact .pure q (runD_ok P _ h3 w) (.dat _)
theorem convert_ok (k : EnvRel r env a N) (q : Rep r h.get w) {s d : TypeId} {x : Operand} (e : mConvert s d x P call env h n ty = some y) : GivesV P (convert s d (a.eval x)) r h n w y := by
  obtain ⟨v, h1, e⟩ := bnd_some e
  obtain ⟨u, h2, e⟩ := bnd_some e
  obtain ⟨z, h3, e⟩ := bnd_some e
  cases e
  have hv := ev_ok k h1
  cases datE_some h2
  rw [dat_inv hv]
  exact .pure q (runD_ok P _ h3 w) (.dat _)
theorem makeFunc_ok (k : EnvRel r env a N) (q : Rep r h.get w) {f : Fn} {xs zs : Array Operand} (e : mMakeFunc f xs zs P call env h n ty = some y) :
    GivesV P (Instr.makeFunc f (xs.map a.eval) (zs.map a.eval)) r h n w y := by
  obtain ⟨v, h1, e⟩ := bnd_some e
  obtain ⟨u, h2, e⟩ := bnd_some e
  cases e
  have g1 := evL_ok k _ h1
  have g2 := evL_ok k _ h2
  rw [show (xs.toList.map a.eval).toArray = xs.map a.eval from by apply Array.ext'; simp] at g1
  rw [show (zs.toList.map a.eval).toArray = zs.map a.eval from by apply Array.ext'; simp] at g2
  exact .pure q rfl (.fn g1.1 g1.2 g2.1 g2.2)
theorem makeMap_ok (q : Rep r h.get w) {t : TypeId} {x : Option Operand} (e : mMakeMap t x P call env h n ty = some y) : GivesV P (Instr.makeMap t (x.map a.eval)) r h n w y := by
  cases x with
  | some x => cases e
  | none =>
    cases e
    refine ⟨Nat.le_succ n, fun f => ?_⟩
    have f0 := f n (Nat.le_refl _) (Nat.lt_succ_self _)
    exact ⟨.map (some w.heap.size), _, r.add n (w.heap.size, 0, 0), by simp [Instr.makeMap]; rfl, .map (Ren.add_same _ _ _), .new q f0 (.map rfl fun i k v t e => by simp at e)⟩
theorem fieldAddr_ok (k : EnvRel r env a N) (q : Rep r h.get w) {t : TypeId} {x : Operand} {f : Nat} (e : mFieldAddr t x f P call env h n ty = some y) :
    GivesV P (Instr.fieldAt t (a.eval x) f) r h n w y := by
  obtain ⟨v, h1, e⟩ := bnd_some e
  obtain ⟨p, h2, e⟩ := bnd_some e
  obtain ⟨o, h3, e⟩ := bnd_some e
  obtain ⟨h4, e⟩ := iff_some e
  cases e
  have hv := ev_ok k h1
  cases ptrE_some h2
  obtain ⟨B, b, m, g, hx⟩ := ptr_inv hv
  obtain ⟨fs, fd, g1, g2, g3, _, g5⟩ := fieldE_some h3
  have hz : o.2.1 ≠ 0 := by intro c; rw [c] at h4; simp [Nat.beq] at h4
  refine .pure q (x := .pointer (some ⟨B, b + (p.2 + o.1), none⟩)) ?_ (.ptr g)
  simp only [Instr.fieldAt, Sem.run_bind, run_underlying g1, Result.andThen_ok, g2, hx, Instr.sureAddr, Sem.run_pure, fieldPlace, run_sizeOf g3, hz, if_false, Sem.run_ite, addr_add, g5]
  simp [Nat.add_assoc]
theorem field_ok (k : EnvRel r env a N) (q : Rep r h.get w) {t : TypeId} {x : Operand} {f : Nat} (e : mField t x f P call env h n ty = some y) :
    GivesV P (Instr.field t (a.eval x) f) r h n w y := by
  obtain ⟨v, h1, e⟩ := bnd_some e
  obtain ⟨o, h2, e⟩ := bnd_some e
  obtain ⟨cs, h3, e⟩ := bnd_some e
  obtain ⟨u, h4, e⟩ := bnd_some e
  cases e
  have hv := ev_ok k h1
  obtain ⟨fs, fd, g1, g2, g3, g4, g5⟩ := fieldE_some h2
  have hag : ∃ xs, a.eval x = .agg xs ∧ RelL r cs xs := by
    cases v with
    | dat z =>
      obtain ⟨ys, h5, h6⟩ := bnd_some h3
      cases h6
      cases z <;> simp [aggV] at h5
      subst h5
      exact ⟨_, dat_inv hv, .dat r _⟩
    | agg l => cases h3; generalize a.eval x = z at hv; cases hv with | agg c d => exact ⟨_, rfl, c, d⟩
    | _ => cases h3
  obtain ⟨xs, hx, hl⟩ := hag
  obtain ⟨z, p, p'⟩ := part_ok (w := w) g4 g3 hl h4
  refine .pure q (x := z) ?_ p'
  simp only [Instr.field, Sem.run_bind, run_underlying g1, Result.andThen_ok, g2, hx, asAgg, Sem.run_pure, g5, p]
theorem asInt_ofNat {kd : IntKind} {i : Int} : (asIntOf (.int kd i)).run P w = .ok (kd, i) w := rfl
theorem indexAddr_ok (k : EnvRel r env a N) (q : Rep r h.get w) {t : TypeId} {x i : Operand} (e : mIndexAddr t x i P call env h n ty = some y) :
    GivesV P (Instr.indexAt t (a.eval x) (a.eval i)) r h n w y := by
  obtain ⟨v, h1, e⟩ := bnd_some e
  obtain ⟨u, h2, e⟩ := bnd_some e
  obtain ⟨j, h3, e⟩ := bnd_some e
  obtain ⟨kd, hj⟩ := natE_some h3
  subst hj
  have hi := dat_inv (ev_ok k h2)
  have hv := ev_ok k h1
  rcases orE_some e with e | e
  · obtain ⟨s, h4, e⟩ := bnd_some e
    obtain ⟨el, h5, e⟩ := bnd_some e
    obtain ⟨h6, e⟩ := iff_some e
    cases e
    obtain ⟨g1, g2⟩ := elemE_some h5
    have hlt := blt_lt h6
    cases slE_some h4
    obtain ⟨B, b, m, c, k', f, hx, hle, _, _, hk, _⟩ := sl_inv hv
    have hk : k' = b + s.off := hk.resolve_right (by omega)
    subst hk
    refine .pure q (x := .pointer (some ⟨B, b + (s.off + j * el.2), none⟩)) ?_ (.ptr f)
    have : (0 : Int) ≤ (j : Int) ∧ (j : Int) < (s.len : Int) := ⟨by omega, by omega⟩
    simp [Instr.indexAt, hi, hx, asInt_ofNat, run_underlying g1, run_sizeOf g2, this, addr_add, Nat.add_assoc]
  · obtain ⟨s, h4, e⟩ := bnd_some e
    obtain ⟨el, h5, e⟩ := bnd_some e
    obtain ⟨h6, e⟩ := iff_some e
    cases e
    obtain ⟨g1, g2⟩ := arrE_some h5
    have hlt := blt_lt h6
    cases ptrE_some h4
    obtain ⟨B, b, m, f, hx⟩ := ptr_inv hv
    refine .pure q (x := .pointer (some ⟨B, b + (s.2 + j * el.2.2), none⟩)) ?_ (.ptr f)
    have : (0 : Int) ≤ (j : Int) ∧ (j : Int) < (el.1 : Int) := ⟨by omega, by omega⟩
    simp [Instr.indexAt, hi, hx, asInt_ofNat, run_underlying g1, run_sizeOf g2, this, addr_add, Nat.add_assoc, Instr.sureAddr]
end
end Go.Proofs.YtcaeglnfflkabaaGreat.Ev

namespace Go.Proofs.YtcaeglnfflkabaaGreat.Ev

def GivesU (P : Program) (s : Sem Unit) (r : Ren) (h : Heap) (n : Nat) (w : World) (y : Res) : Prop :=
  n ≤ y.n ∧ (Free r n y.n → ∃ w' r', s.run P w = .ok () w' ∧ y.v = .dat undef ∧ Post r h.get y.h.get n y.n w w' r')

section
variable {P : Program} {r : Ren} {env : T AV} {a : Act} {N : Nat} {h : Heap} {n : Nat} {w : World} {ty : TypeId} {call : CallE} {y : Res}

theorem aggA_ok {v : AV} {cs : List AV} {x : Value} (h3 : aggA v = some cs) (hv : Rel r v x) : ∃ xs, x = .agg xs ∧ RelL r cs xs := by
  cases v with
  | dat z =>
    obtain ⟨ys, h5, h6⟩ := bnd_some h3
    cases h6
    cases z <;> simp [aggV] at h5
    subst h5
    exact ⟨_, dat_inv hv, .dat r _⟩
  | agg l => cases h3; cases hv with | agg c d => exact ⟨_, rfl, c, d⟩
  | _ => cases h3
theorem tupA_ok {v : AV} {cs : List AV} {x : Value} (h3 : tupA v = some cs) (hv : Rel r v x) : ∃ xs, x = .tuple xs ∧ RelL r cs xs := by
  cases v with
  | dat z =>
    obtain ⟨ys, h5, h6⟩ := bnd_some h3
    cases h6
    cases z <;> simp [tupV] at h5
    subst h5
    exact ⟨_, dat_inv hv, .dat r _⟩
  | tup l => cases h3; cases hv with | tup c d => exact ⟨_, rfl, c, d⟩
  | _ => cases h3

theorem index_ok (k : EnvRel r env a N) (q : Rep r h.get w) {t : TypeId} {x i : Operand} (e : mIndex t x i P call env h n ty = some y) :
    GivesV P (Instr.index t (a.eval x) (a.eval i)) r h n w y := by
  obtain ⟨v, h1, e⟩ := bnd_some e
  obtain ⟨u, h2, e⟩ := bnd_some e
  have hi := ev_ok k h2
  have hv := ev_ok k h1
  rcases orE_some e with e | e
  · obtain ⟨z, h3, e⟩ := bnd_some e
    obtain ⟨s, h4, e⟩ := bnd_some e
    obtain ⟨j, h5, e⟩ := bnd_some e
    obtain ⟨b, h6, e⟩ := bnd_some e
    cases e
    cases datE_some h3
    cases datE_some h5
    rw [dat_inv hv, dat_inv hi]
    have : z = .string s := by cases z <;> simp [strV] at h4; subst h4; rfl
    subst this
    exact .pure q (runD_ok P _ h6 w) (.dat _)
  · obtain ⟨cs, h3, e⟩ := bnd_some e
    obtain ⟨j, h4, e⟩ := bnd_some e
    obtain ⟨el, h5, e⟩ := bnd_some e
    obtain ⟨b, h6, e⟩ := bnd_some e
    obtain ⟨h7, e⟩ := iff_some e
    obtain ⟨u', h8, e⟩ := bnd_some e
    cases e
    obtain ⟨kd, hj⟩ := natE_some h4
    subst hj
    have hi := dat_inv hi
    obtain ⟨xs, hx, hl⟩ := aggA_ok h3 hv
    obtain ⟨g1, g2⟩ := arrE_some h5
    obtain ⟨z, p, p'⟩ := part_ok (w := w) h6 g2 hl h8
    have hlt := blt_lt h7
    refine .pure q (x := z) ?_ p'
    have : (0 : Int) ≤ (j : Int) ∧ (j : Int) < (el.1 : Int) := ⟨by omega, by omega⟩
    simp only [Nat.mul_eq] at p
    simp [Instr.index, hi, hx, asInt_ofNat, run_underlying g1, run_sizeOf g2, this, p]

theorem extract_ok (k : EnvRel r env a N) (q : Rep r h.get w) {x : Operand} {i : Nat} (e : mExtract x i P call env h n ty = some y) : GivesV P (Instr.extract (a.eval x) i) r h n w y := by
  obtain ⟨v, h1, e⟩ := bnd_some e
  obtain ⟨vs, h2, e⟩ := bnd_some e
  obtain ⟨u, h3, e⟩ := bnd_some e
  cases e
  obtain ⟨xs, hx, hl⟩ := tupA_ok h2 (ev_ok k h1)
  obtain ⟨z, p, p'⟩ := hl.get h3
  exact .pure q (x := z) (by simp [Instr.extract, hx, p]) p'

theorem store_ok (k : EnvRel r env a N) (q : Rep r h.get w) {t : TypeId} {x z : Operand} (e : mStore t x z P call env h n ty = some y) : GivesU P (Instr.storeAt t (a.eval x) (a.eval z)) r h n w y := by
  obtain ⟨v, h1, e⟩ := bnd_some e
  obtain ⟨p, h2, e⟩ := bnd_some e
  obtain ⟨u, h3, e⟩ := bnd_some e
  obtain ⟨s, h4, e⟩ := bnd_some e
  obtain ⟨h5, e'⟩ := iff_some e
  have hv := ev_ok k h1
  cases ptrE_some h2
  obtain ⟨B, b, m, f, hx⟩ := ptr_inv hv
  have hc := cells_ok (ev_ok k h3)
  obtain ⟨w', g1, g2, g3, g4⟩ := set_ok (P := P) q hc e' f
  refine ⟨by omega, fun _ => ⟨w', r, ?_, g2, by rw [g3]; exact g4⟩⟩
  have hs : (a.eval z).cells.size = s := by rw [hc.1]; exact beq_eq h5
  simp [Instr.storeAt, hx, Instr.sureAddr, storeVar, run_sizeOf h4, hs, g1]

/-- Parts of a literal. -/
theorem parts_ok (k : EnvRel r env a N) : ∀ (l : List (Nat × Operand)) {ps : List (Nat × AV)}, partsE env l = some ps →
    ps.length = l.length ∧ ∀ (i : Nat) (p : Nat × AV) (x : Nat × Operand), ps[i]? = some p → l[i]? = some x → p.1 = x.1 ∧ Rel r p.2 (a.eval x.2) := by
  intro l
  induction l with
  | nil => intro ps h; cases h; exact ⟨rfl, fun i p x e => by simp at e⟩
  | cons x l ih =>
    intro ps h
    obtain ⟨v, h1, h⟩ := bnd_some h
    obtain ⟨l', h2, h⟩ := bnd_some h
    cases h
    obtain ⟨g1, g2⟩ := ih h2
    refine ⟨by simp [g1], fun i p x' e f => ?_⟩
    cases i with
    | zero => simp at e f; subst e; subst f; exact ⟨rfl, ev_ok k h1⟩
    | succ i => exact g2 i p x' (by simpa using e) (by simpa using f)

/-- One value laid into cells. -/
theorem fold_lay : ∀ (l : List Value) (s off : Nat) (cs : Array Value) (j : Nat),
    ((l.zipIdx s).foldl (fun cs (x : Value × Nat) => cs.setIfInBounds (off + x.2) x.1) cs)[j]? =
      if off + s ≤ j ∧ j < off + s + l.length ∧ j < cs.size then l[j - (off + s)]? else cs[j]? := by
  intro l
  induction l with
  | nil => intro s off cs j; simp; omega
  | cons x l ih =>
    intro s off cs j
    simp only [List.zipIdx_cons, List.foldl_cons, List.length_cons]
    rw [ih]
    simp only [Array.size_setIfInBounds, Array.getElem?_setIfInBounds]
    by_cases g : j = off + s
    · subst g
      rw [if_neg (by omega)]
      by_cases g1 : off + s < cs.size
      · rw [if_pos rfl, if_pos g1, if_pos ⟨by omega, by omega, g1⟩]; simp
      · rw [if_pos rfl, if_neg g1, if_neg (by omega), Array.getElem?_eq_none (by omega)]
    · rw [if_neg (Ne.symm g)]
      by_cases g1 : off + (s + 1) ≤ j ∧ j < off + (s + 1) + l.length ∧ j < cs.size
      · rw [if_pos g1, if_pos ⟨by omega, by omega, g1.2.2⟩, show j - (off + s) = (j - (off + (s + 1))) + 1 from by omega]; simp
      · rw [if_neg g1, if_neg (by omega)]
theorem fill_ok {place : Nat → Option (Nat × Nat)} {place' : Nat → Option (Nat × Nat)} (hp : ∀ i x, place i = some x → place' i = some x) :
    ∀ (ps : List (Nat × AV)) (qs : List (Nat × Value)) (cs : List AV) (xs : Array Value) {cs' : List AV}, ps.length = qs.length →
      (∀ (i : Nat) (p : Nat × AV) (x : Nat × Value), ps[i]? = some p → qs[i]? = some x → p.1 = x.1 ∧ Rel r p.2 x.2) → RelL r cs xs → fillE place ps cs = some cs' →
      ∃ xs', Instr.fill place' xs qs = some xs' ∧ RelL r cs' xs' := by
  intro ps
  induction ps with
  | nil =>
    intro qs cs xs cs' hl _ hc e
    cases qs with
    | nil => cases e; exact ⟨xs, rfl, hc⟩
    | cons a b => simp at hl
  | cons p ps ih =>
    intro qs cs xs cs' hl hr hc e
    cases qs with
    | nil => simp at hl
    | cons x qs =>
      obtain ⟨o, h1, e⟩ := bnd_some e
      obtain ⟨h2, e⟩ := iff_some e
      obtain ⟨cs1, h3, e⟩ := bnd_some e
      obtain ⟨r1, r2⟩ := hr 0 p x rfl rfl
      have hv := cells_ok r2
      obtain ⟨h4, h5⟩ := lay_some h3
      have h2 := beq_eq h2
      have hs := hc.1
      have hv1 := hv.1
      obtain ⟨xi, xv⟩ := x
      simp only at r1 r2 hv hv1
      have hpl := hp _ _ h1
      rw [r1] at hpl
      let xs1 : Array Value := xv.cells.zipIdx.foldl (fun cs (c, j) => cs.setIfInBounds (o.1 + j) c) xs
      have hsize : xs1.size = xs.size := by
        have : ∀ (l : List (Value × Nat)) (cs : Array Value), (l.foldl (fun cs (x : Value × Nat) => cs.setIfInBounds (o.1 + x.2) x.1) cs).size = cs.size := by
          intro l
          induction l with
          | nil => intro cs; rfl
          | cons a l ih => intro cs; rw [List.foldl_cons, ih]; simp
        show (xv.cells.zipIdx.foldl _ xs).size = _
        rw [← Array.foldl_toList]
        exact this _ _
      have hget : ∀ j, xs1[j]? = if o.1 ≤ j ∧ j < o.1 + xv.cells.size ∧ j < xs.size then xv.cells[j - o.1]? else xs[j]? := by
        intro j
        have := fold_lay xv.cells.toList 0 o.1 xs j
        simp only [Nat.add_zero, Array.length_toList, Array.getElem?_toList] at this
        rw [← this]
        show (xv.cells.zipIdx.foldl _ xs)[j]? = _
        rw [← Array.foldl_toList]
        simp
      have hl1 : RelL r cs1 xs1 := by
        refine ⟨by rw [hsize, h5]; simp; omega, fun j v z ej ez => ?_⟩
        rw [hget] at ez
        subst h5
        by_cases c1 : j < o.1
        · rw [List.getElem?_append_left (by simp; omega), List.getElem?_take, if_pos c1] at ej
          rw [if_neg (by omega)] at ez
          exact hc.2 j v z ej ez
        · rw [List.getElem?_append_right (by simp; omega)] at ej
          simp only [List.length_take] at ej
          rw [show min o.1 cs.length = o.1 from by omega] at ej
          by_cases c2 : j < o.1 + (cellsE p.2).length
          · rw [List.getElem?_append_left (by omega)] at ej
            rw [if_pos ⟨by omega, by omega, by omega⟩] at ez
            exact hv.2 _ v z ej ez
          · rw [List.getElem?_append_right (by omega), List.getElem?_drop] at ej
            rw [if_neg (by omega)] at ez
            refine hc.2 j v z ?_ ez
            rw [show j = o.1 + (cellsE p.2).length + (j - o.1 - (cellsE p.2).length) from by omega]
            exact ej
      obtain ⟨xs', g1, g2⟩ := ih qs cs1 xs1 (by simpa using hl) (fun i p' x' e f => hr (i + 1) p' x' (by simpa using e) (by simpa using f)) hl1 e
      refine ⟨xs', ?_, g2⟩
      simp only [Instr.fill, hpl]
      rw [if_neg]
      · exact g1
      · simp only [Bool.or_eq_true, decide_eq_true_eq, not_or]
        exact ⟨by omega, by omega⟩

theorem rep_ok {l : List AV} {xs : Array Value} (hl : RelL r l xs) : ∀ k, RelL r (repE k l) ((Array.range (k * xs.size)).map (xs[· % xs.size]!)) := by
  intro k
  have hlen : (repE k l).length = k * xs.size := by
    induction k with
    | zero => show ([] : List AV).length = _; simp
    | succ k ih => simp only [repE] at ih ⊢; rw [List.length_append, ih, hl.1, Nat.succ_mul, Nat.add_comm]
  have hget : ∀ (k j : Nat) (v : AV), (repE k l)[j]? = some v → l[j % xs.size]? = some v := by
    intro k
    induction k with
    | zero => intro j v e; change ([] : List AV)[j]? = some v at e; simp at e
    | succ k ih =>
      intro j v e
      simp only [repE] at e ih
      by_cases g : j < l.length
      · rw [List.getElem?_append_left g] at e
        rw [Nat.mod_eq_of_lt (by rw [hl.1]; exact g)]; exact e
      · rw [List.getElem?_append_right (by omega)] at e
        have := ih _ v e
        rw [← hl.1] at this
        rw [Nat.mod_eq_sub_mod (by rw [hl.1]; omega)]
        exact this
  refine ⟨by simp [hlen], fun i v x e f => ?_⟩
  have e1 := hget k i v e
  rw [Array.getElem?_map, Array.getElem?_range] at f
  split at f
  · simp only [Option.map_some, Option.some.injEq] at f
    obtain ⟨z, p, p'⟩ := hl.get e1
    rw [← f, getElem!_def, p]
    exact p'
  · cases f
end
end Go.Proofs.YtcaeglnfflkabaaGreat.Ev

namespace Go.Proofs.YtcaeglnfflkabaaGreat.Ev
section
variable {P : Program} {r : Ren} {env : T AV} {a : Go.Act} {N : Nat} {h : Heap} {n : Nat} {w : World} {ty : TypeId} {call : CallE} {y : Res}

theorem mapM_places : ∀ (fs : List Field), (∀ (i : Nat) (f : Field), fs[i]? = some f → ∃ x, szE P f.type = some x) →
    ∃ l, (fs.mapM (fun (f : Field) => (do pure (f.offset, ← sizeOf f.type) : Sem (Nat × Nat)))).run P w = .ok l w ∧ l.length = fs.length ∧
      ∀ (i : Nat) (f : Field), fs[i]? = some f → ∀ s, szE P f.type = some s → l[i]? = some (f.offset, s) := by
  intro fs
  induction fs with
  | nil => intro _; exact ⟨[], by simp, rfl, fun i f e => by simp at e⟩
  | cons f fs ih =>
    intro hf
    obtain ⟨s, hs⟩ := hf 0 f rfl
    obtain ⟨l, h1, h2, h3⟩ := ih fun i g e => hf (i + 1) g (by simpa using e)
    refine ⟨(f.offset, s) :: l, by simp only [List.mapM_cons, Sem.run_bind, run_sizeOf hs, Result.andThen_ok, Sem.run_pure, h1], by simp [h2], fun i g e t ht => ?_⟩
    cases i with
    | zero => simp at e; subst e; rw [hs] at ht; cases ht; rfl
    | succ i => exact h3 i g (by simpa using e) t ht

theorem vals_ok (k : EnvRel r env a N) {ps : Array (Nat × Operand)} {qs : List (Nat × AV)} (h4 : partsE env ps.toList = some qs) :
    qs.length = (ps.map fun (i, x) => (i, a.eval x)).toList.length ∧
    ∀ (i : Nat) (p : Nat × AV) (x : Nat × Value), qs[i]? = some p → (ps.map fun (i, x) => (i, a.eval x)).toList[i]? = some x → p.1 = x.1 ∧ Rel r p.2 x.2 := by
  obtain ⟨p1, p2⟩ := parts_ok k _ h4
  refine ⟨by simp [p1], fun i p x e f => ?_⟩
  simp only [Array.toList_map, List.getElem?_map] at f
  cases hx : ps.toList[i]? with
  | none => rw [hx] at f; cases f
  | some z =>
    rw [hx] at f
    simp only [Option.map_some, Option.some.injEq] at f
    obtain ⟨g1, g2⟩ := p2 i p z e hx
    subst f
    exact ⟨g1, g2⟩

theorem build_ok (k : EnvRel r env a N) (q : Rep r h.get w) {t : TypeId} {ps : Array (Nat × Operand)} (e : mBuild t ps P call env h n ty = some y) :
    GivesV P (Instr.build t (ps.map fun (i, x) => (i, a.eval x))) r h n w y := by
  obtain ⟨z, h2, e⟩ := bnd_some e
  obtain ⟨qs, h4, e⟩ := bnd_some e
  obtain ⟨zv, g3, g4⟩ := zeroE_some h2
  subst g4
  obtain ⟨v1, v2⟩ := vals_ok k h4
  rcases orE_some e with e | e
  · obtain ⟨fs, h5, e⟩ := bnd_some e
    obtain ⟨h6, e⟩ := iff_some e
    obtain ⟨cs, h7, e⟩ := bnd_some e
    cases e
    obtain ⟨d, h8, h9⟩ := bnd_some h5
    cases structD_some h9
    obtain ⟨pl, m1, m2, m3⟩ := mapM_places (P := P) (w := w) fs.toList fun i f e => Option.isSome_iff_exists.1 (List.all_eq_true.1 h6 f (List.mem_of_getElem? e))
    obtain ⟨xs, f1, f2⟩ := fill_ok (r := r) (place := placeE P t) (place' := fun i => pl.toArray[i]?) (by
      intro i x hx
      obtain ⟨o, e1, e2⟩ := bnd_some hx
      cases e2
      obtain ⟨fs', fd, c1, c2, c3, _, c5⟩ := fieldE_some e1
      rw [h8] at c1; cases c1
      have := m3 i fd (by simpa using c2) _ c3
      simpa [c5] using this) qs _ _ _ v1 v2 (RelL.dat r zv.cells) h7
    refine .pure q (x := .agg xs) ?_ (.agg f2.1 f2.2)
    simp only [Instr.build, Sem.run_bind, run_zero g3, Result.andThen_ok, run_underlying h8, Array.mapM_eq_mapM_toList, Sem.run_map, m1]
    rw [f1]; rfl
  · obtain ⟨x, h5, e⟩ := bnd_some e
    obtain ⟨cs, h7, e⟩ := bnd_some e
    cases e
    obtain ⟨h8, h9⟩ := arrE_some h5
    obtain ⟨xs, f1, f2⟩ := fill_ok (r := r) (place' := fun i => some (i * x.2.2, x.2.2)) (fun i x hx => hx) qs _ _ _ v1 v2 (RelL.dat r zv.cells) h7
    refine .pure q (x := .agg xs) ?_ (.agg f2.1 f2.2)
    simp only [Instr.build, Sem.run_bind, run_zero g3, Result.andThen_ok, run_underlying h8, run_sizeOf h9]
    rw [f1]; rfl

theorem rows_ok {zv : Value} {sz c : Nat} (hz : (zv.cells.toList.map AV.dat).length = sz) {z0 : Array Value} (h0 : z0 = if c * sz = 0 then #[] else zv.cells) :
    RelL r (repE c (zv.cells.toList.map .dat)) ((Array.range (c * sz)).map (z0[· % z0.size]!)) := by
  have hs : zv.cells.size = sz := by simpa using hz
  have h1 := rep_ok (RelL.dat r zv.cells) c
  rw [hs] at h1
  by_cases g : c * sz = 0
  · have h2 := h1.1
    rw [g] at h2 ⊢
    have h3 : repE c (zv.cells.toList.map .dat) = [] := List.eq_nil_of_length_eq_zero (by simpa using h2.symm)
    rw [h3]
    exact ⟨by simp, fun i v x e => by simp at e⟩
  · rw [if_neg g] at h0
    subst h0
    rw [hs]
    exact h1

theorem newSl {cs : List AV} {xs : Array Value} {el : TypeId} (q : Rep r h.get w) (hc : RelL r cs xs) {len cap sz : Nat} {ex : Bool} (h1 : len ≤ cap) (h2 : cap * sz ≤ xs.size)
    (e : newE h n (.cells cs) (.sl n 0 len cap sz ex) = some y) : n ≤ y.n ∧ (Free r n y.n → ∃ r', (newRow el xs).run P w = .ok ⟨w.heap.size, 0, none⟩ { w with heap := w.heap.push (.cells xs el) } ∧
      Rel r' y.v (.slice (some ⟨w.heap.size, 0, none⟩) len cap) ∧ Post r h.get y.h.get n y.n w { w with heap := w.heap.push (.cells xs el) } r') := by
  cases e
  refine ⟨Nat.le_succ n, fun f => ?_⟩
  obtain ⟨g1, g2⟩ := new_cells (P := P) (el := el) q (Nat.le_of_eq hc.1.symm) (fun i v e => hc.get e) (f n (Nat.le_refl _) (Nat.lt_succ_self _))
  exact ⟨_, g1, .sl (Ren.add_same _ _ _) h1 (Nat.le_refl _) (fun _ => rfl) (.inl rfl) (by omega), g2⟩

theorem buildSlice_ok (k : EnvRel r env a N) (q : Rep r h.get w) {t : TypeId} {len : Nat} {ps : Array (Nat × Operand)} (e : mBuildSlice t len ps P call env h n ty = some y) :
    GivesV P (Instr.buildSlice t len (ps.map fun (i, x) => (i, a.eval x))) r h n w y := by
  obtain ⟨el, h1, e⟩ := bnd_some e
  obtain ⟨z, h2, e⟩ := bnd_some e
  obtain ⟨h3, e⟩ := iff_some e
  obtain ⟨qs, h4, e⟩ := bnd_some e
  obtain ⟨cs, h5, e'⟩ := bnd_some e
  obtain ⟨g1, g2⟩ := elemE_some h1
  obtain ⟨zv, g3, g4⟩ := zeroE_some h2
  subst g4
  obtain ⟨v1, v2⟩ := vals_ok k h4
  simp only [Bool.and_eq_true] at h3
  have h30 := ble_le h3.1
  generalize hz0 : (if len * el.2 = 0 then #[] else zv.cells) = z0
  have z2 := rows_ok (r := r) (c := len) (beq_eq h3.2) hz0.symm
  obtain ⟨xs, f1, f2⟩ := fill_ok (r := r) (place' := fun i => some (i * el.2, el.2)) (fun i x hx => hx) qs _ _ _ v1 v2 z2 h5
  have hxs : xs.size = len * el.2 := by
    have : ∀ (place : Nat → Option (Nat × Nat)) (qs : List (Nat × Value)) (cs cs' : Array Value), Instr.fill place cs qs = some cs' → cs'.size = cs.size := by
      intro place qs
      induction qs with
      | nil => intro cs cs' e; cases e; rfl
      | cons x qs ih =>
        intro cs cs' e
        obtain ⟨i, v⟩ := x
        simp only [Instr.fill] at e
        split at e
        · cases e
        · split at e
          · cases e
          · rw [ih _ _ e]
            have : ∀ (o : Nat) (l : List (Value × Nat)) (cs : Array Value), (l.foldl (fun cs (x : Value × Nat) => cs.setIfInBounds (o + x.2) x.1) cs).size = cs.size := by
              intro o l
              induction l with
              | nil => intro cs; rfl
              | cons a l ih => intro cs; rw [List.foldl_cons, ih]; simp
            rw [← Array.foldl_toList]
            exact this _ _ _
    rw [this _ _ _ _ f1]; simp
  obtain ⟨m1, m2⟩ := newSl (P := P) (el := el.1) q f2 (Nat.le_refl len) (by rw [hxs]; exact Nat.le_refl _) e'
  refine ⟨m1, fun f => ?_⟩
  obtain ⟨r', c1, c2, c3⟩ := m2 f
  refine ⟨_, _, r', ?_, c2, c3⟩
  have hle : ¬ (len * el.2 > 2 ^ 24) := by have : len * el.2 ≤ 10000 := h30; omega
  simp only [Instr.buildSlice, Sem.run_bind, run_underlying g1, Result.andThen_ok, run_sizeOf g2, if_neg hle]
  by_cases g : len * el.2 = 0
  · rw [if_pos g] at hz0
    subst hz0
    simp only [if_pos g, Sem.run_bind, Sem.run_pure, Result.andThen_ok]
    rw [f1]
    simp only [Sem.run_bind, c1, Result.andThen_ok, Sem.run_pure]
  · rw [if_neg g] at hz0
    subst hz0
    simp only [if_neg g, Sem.run_bind, Sem.run_pure, Result.andThen_ok, run_zero g3]
    rw [f1]
    simp only [Sem.run_bind, c1, Result.andThen_ok, Sem.run_pure]

theorem makeSlice_ok (k : EnvRel r env a N) (q : Rep r h.get w) {t : TypeId} {l c : Operand} (e : mMakeSlice t l c P call env h n ty = some y) :
    GivesV P (Instr.makeSlice t (a.eval l) (a.eval c)) r h n w y := by
  obtain ⟨el, h1, e⟩ := bnd_some e
  obtain ⟨z, h2, e⟩ := bnd_some e
  obtain ⟨v, h3, e⟩ := bnd_some e
  obtain ⟨l', h4, e⟩ := bnd_some e
  obtain ⟨u, h5, e⟩ := bnd_some e
  obtain ⟨c', h6, e⟩ := bnd_some e
  obtain ⟨i, h7, e⟩ := bnd_some e
  obtain ⟨h8, e'⟩ := iff_some e
  simp only [Bool.and_eq_true] at h8
  have b1 := ble_le h8.1
  have b2 := ble_le h8.2.1
  have b3 := ble_le h8.2.2.1
  obtain ⟨k1, hl⟩ := natE_some h4
  obtain ⟨k2, hc⟩ := natE_some h6
  subst hl; subst hc
  have hl := dat_inv (ev_ok k h3)
  have hc := dat_inv (ev_ok k h5)
  obtain ⟨g1, g2⟩ := elemE_some h1
  obtain ⟨zv, g3, g4⟩ := zeroE_some h2
  subst g4
  generalize hz0 : (if c' * el.2 = 0 then #[] else zv.cells) = z0
  have z2 := rows_ok (r := r) (c := c') (beq_eq h8.2.2.2) hz0.symm
  obtain ⟨m1, m2⟩ := newSl (P := P) (el := el.1) q z2 b1 (by simp) e'
  refine ⟨m1, fun f => ?_⟩
  obtain ⟨r', c1, c2, c3⟩ := m2 f
  refine ⟨_, _, r', ?_, c2, c3⟩
  have w1 : IntKind.i64.wrap (Int.ofNat l') = l' := by simp [IntKind.wrap, IntKind.bits, IntKind.signed]; omega
  have w2 : IntKind.i64.wrap (Int.ofNat c') = c' := by simp [IntKind.wrap, IntKind.bits, IntKind.signed]; omega
  have hb : (i.bytes : Int) * (c' : Int) ≤ 100000000 := by
    have : i.bytes * c' ≤ 100000000 := Nat.le_trans (Nat.mul_le_mul b3 b2) (by decide)
    rw [← Int.natCast_mul]; exact Int.ofNat_le.2 this
  simp only [Instr.makeSlice, Sem.run_bind, run_underlying g1, Result.andThen_ok, hl, hc, asInt, asInt_ofNat, Sem.run_pure, run_typeInfo h7, w1, w2]
  have hp : (2 : Int) ^ 48 = 281474976710656 := by decide
  have hcond : (decide ((c' : Int) < 0) || decide ((i.bytes : Int) * c' > 2 ^ 48) || decide ((l' : Int) < 0) || decide ((l' : Int) > c')) = false := by
    rw [decide_eq_false (by omega), decide_eq_false (by rw [hp]; omega), decide_eq_false (by omega), decide_eq_false (by omega)]; rfl
  rw [hcond]
  simp only [Bool.false_eq_true, if_false]
  simp only [Sem.run_bind, run_askRoom, Result.andThen_ok, run_sizeOf g2, Int.toNat_natCast]
  by_cases g : c' * el.2 = 0
  · rw [if_pos g] at hz0
    subst hz0
    simp only [if_pos g, Sem.run_bind, Sem.run_pure, Result.andThen_ok, c1]
  · rw [if_neg g] at hz0
    subst hz0
    simp only [if_neg g, Sem.run_bind, Sem.run_pure, Result.andThen_ok, run_zero g3, c1]
end
end Go.Proofs.YtcaeglnfflkabaaGreat.Ev

namespace Go.Proofs.YtcaeglnfflkabaaGreat.Ev

theorem wrap_small (k : IntKind) {a : Nat} (h : a < 128) : k.wrap (a : Int) = a := by
  cases k <;> simp [IntKind.wrap, IntKind.bits, IntKind.signed] <;> omega
theorem addI_eq (k : IntKind) (a b : Int) : addI k a b = k.wrap (a + b) := by
  unfold addI
  split
  · rename_i a b
    cases hb : Nat.blt (Nat.add a b) 128 with
    | false => rfl
    | true => exact (wrap_small k (blt_lt hb)).symm
  · rfl
theorem ltI_eq (a b : Int) : ltI a b = decide (a < b) := by
  unfold ltI
  split
  · rename_i a b
    rw [Bool.eq_iff_iff]
    constructor
    · intro h; have := blt_lt h; simp; omega
    · intro h; simp at h; exact Nat.ble_eq_true_of_le (by omega)
  · rfl
theorem leI_eq (a b : Int) : leI a b = decide (a ≤ b) := by
  unfold leI
  split
  · rename_i a b
    rw [Bool.eq_iff_iff]
    constructor
    · intro h; have := ble_le h; simp; omega
    · intro h; simp at h; exact Nat.ble_eq_true_of_le (by omega)
  · rfl
theorem eqI_eq (a b : Int) : eqI a b = (a == b) := by
  unfold eqI
  split
  · rename_i a b
    rw [Bool.eq_iff_iff]
    constructor
    · intro h; have := beq_eq h; simp; omega
    · intro h; simp at h; have : a = b := by omega
      subst this; exact Nat.beq_refl a
  · rfl
theorem twoI_ok (P : Program) {op : BinOp} {t : TypeId} {x y : Operand} {a b v : Value} (h : twoI op a b = some v) (w : World) :
    ((do eqGuard op t x y a b; binOp op t a b) : Sem Value).run P w = .ok v w := by
  obtain ⟨f, h1, g1⟩ := bnd_some h
  obtain ⟨p, h2, g2⟩ := bnd_some g1
  obtain ⟨q, h3, g3⟩ := bnd_some g2
  obtain ⟨h4, g4⟩ := iff_some g3
  clear h g1 g2 g3
  cases a <;> simp [intV] at h2
  cases b <;> simp [intV] at h3
  subst h2; subst h3
  have h4 : _ = _ := of_decide_eq_true h4
  simp only at h4 g4
  subst h4
  cases op <;> simp [binI] at h1 <;> subst h1 <;> simp only [Option.some.injEq] at g4 <;> subst g4 <;>
    simp [eqGuard, binOp, Op.intArith, Op.intCmp, addI_eq, ltI_eq, leI_eq, eqI_eq, bne]

section
variable {P : Program} {r : Ren} {env : T AV} {a : Go.Act} {N : Nat} {h : Heap} {n : Nat} {w : World} {ty : TypeId} {call : CallE} {y : Res}

theorem binOp_ok (k : EnvRel r env a N) (q : Rep r h.get w) {op : BinOp} {t t' : TypeId} {x z : Operand} (e : mBinOp op t x z t' P call env h n ty = some y) :
    GivesV P (do eqGuard op t x z (a.eval x) (a.eval z); binOp op t (a.eval x) (a.eval z)) r h n w y := by
  obtain ⟨v, h1, e⟩ := bnd_some e
  obtain ⟨u, h2, e⟩ := bnd_some e
  have hv := ev_ok k h1
  have hu := ev_ok k h2
  rcases orE_some e with e | e
  · obtain ⟨c, h3, e⟩ := bnd_some e
    obtain ⟨d, h4, e⟩ := bnd_some e
    obtain ⟨b, h5, e⟩ := bnd_some e
    cases e
    rw [toD_ok h3 hv, toD_ok h4 hu]
    refine .pure q (x := b) ?_ (.dat _)
    unfold binD at h5
    cases h6 : twoI op c d with
    | some b' => rw [h6] at h5; cases h5; exact twoI_ok P h6 w
    | none => rw [h6] at h5; exact runD_ok P _ h5 w
  · obtain ⟨c, h3, e⟩ := bnd_some e
    obtain ⟨d, h4, e⟩ := bnd_some e
    obtain ⟨h5, e⟩ := iff_some e
    obtain ⟨b, h6, e⟩ := bnd_some e
    cases e
    cases datE_some h3
    rw [dat_inv hu]
    refine .pure q (x := .bool b) ?_ (.dat _)
    have hq : (Op.equal t (a.eval x) c).run P w = .ok false w := by
      generalize a.eval x = X at hv
      unfold nilEqE at h5
      unfold Op.equal Op.maxDepth
      rw [show (10000 : Nat) = 9999 + 1 from rfl, Op.equalIn]
      split at h5
      · cases hv; simp only [Sem.run_bind, run_underlying h4, Result.andThen_ok, Sem.run_pure]
      · cases hv; simp only [Sem.run_bind, run_underlying h4, Result.andThen_ok, Sem.run_pure]
      · cases hv; simp only [Sem.run_bind, run_underlying h4, Result.andThen_ok, Sem.run_pure]
      · cases hv; simp only [Sem.run_bind, run_underlying h4, Result.andThen_ok, Sem.run_pure]
      · cases h5
    have hg : (eqGuard op t x z (a.eval x) c).run P w = .ok () w := by
      generalize a.eval x = X at hv
      unfold nilEqE at h5
      split at h5 <;> first | (cases hv; cases op <;> rfl) | cases h5
    have hb : (binOp op t (a.eval x) c).run P w = .ok (.bool b) w := by
      have hop : (op = .eql ∧ b = false) ∨ (op = .neq ∧ b = true) := by cases op <;> simp [eqlB] at h6 <;> simp [h6]
      have hs : (op = .eql → binOp op t (a.eval x) c = (do pure (.bool (← Op.equal t (a.eval x) c)))) ∧ (op = .neq → binOp op t (a.eval x) c = (do pure (.bool (!(← Op.equal t (a.eval x) c))))) := by
        generalize a.eval x = X at hv
        unfold nilEqE at h5
        split at h5 <;> first | (cases hv; exact ⟨fun e => by subst e; rfl, fun e => by subst e; rfl⟩) | cases h5
      rcases hop with ⟨rfl, rfl⟩ | ⟨rfl, rfl⟩
      · rw [hs.1 rfl]; simp only [Sem.run_bind, hq, Result.andThen_ok, Sem.run_pure]
      · rw [hs.2 rfl]; simp only [Sem.run_bind, hq, Result.andThen_ok, Sem.run_pure]; rfl
    simp only [Sem.run_bind, hg, Result.andThen_ok, hb]

/-- A bound of a slice expression. -/
theorem opt_ok (k : EnvRel r env a N) {x : Option Operand} {m : Option Nat} (e : optE env x = some m) :
    (m = none ∧ x.map a.eval = none) ∨ ∃ kd j, m = some j ∧ x.map a.eval = some (.int kd (.ofNat j)) := by
  cases x with
  | none => cases e; exact .inl ⟨rfl, rfl⟩
  | some x =>
    obtain ⟨v, h1, e⟩ := bnd_some e
    obtain ⟨j, h2, e⟩ := bnd_some e
    cases e
    obtain ⟨kd, hj⟩ := natE_some h2
    subst hj
    exact .inr ⟨kd, j, rfl, by simp [dat_inv (ev_ok k h1)]⟩
theorem bound_ok {kd : IntKind} {j y : Nat} {code : BoundsCode} (h : j ≤ y) : (Instr.sliceBound (.int kd (j : Int)) y code).run P w = .ok j w := by
  have : (0 : Int) ≤ (j : Int) ∧ (j : Int) ≤ (y : Int) := ⟨by omega, by omega⟩
  simp [Instr.sliceBound, asInt_ofNat, this]
theorem bounds_ok {lo hi mx : Option Nat} {lo' hi' mx' : Option Value} {len cap : Nat} (h1 : (lo = none ∧ lo' = none) ∨ ∃ kd j, lo = some j ∧ lo' = some (.int kd (.ofNat j)))
    (h2 : (hi = none ∧ hi' = none) ∨ ∃ kd j, hi = some j ∧ hi' = some (.int kd (.ofNat j))) (h3 : (mx = none ∧ mx' = none) ∨ ∃ kd j, mx = some j ∧ mx' = some (.int kd (.ofNat j)))
    (h4 : (!(mx.isSome && hi.isNone)) = true) (h5 : lo.getD 0 ≤ hi.getD len) (h6 : hi.getD len ≤ mx.getD cap) (h7 : mx.getD cap ≤ cap) :
    (Instr.sliceBounds true len cap lo' hi' mx').run P w = .ok (lo.getD 0, hi.getD len, mx.getD cap) w := by
  rcases h3 with ⟨rfl, rfl⟩ | ⟨k3, m, rfl, rfl⟩
  · rcases h2 with ⟨rfl, rfl⟩ | ⟨k2, l, rfl, rfl⟩
    · rcases h1 with ⟨rfl, rfl⟩ | ⟨k1, j, rfl, rfl⟩
      · simp [Instr.sliceBounds]
      · simp only [Option.getD_some, Option.getD_none] at h5 h6 h7 ⊢
        simp [Instr.sliceBounds, bound_ok h5, Int.ofNat_eq_natCast]
    · simp only [Option.getD_some, Option.getD_none] at h5 h6 h7 ⊢
      rcases h1 with ⟨rfl, rfl⟩ | ⟨k1, j, rfl, rfl⟩
      · simp [Instr.sliceBounds, bound_ok h6, Int.ofNat_eq_natCast]
      · simp only [Option.getD_some] at h5 ⊢
        simp [Instr.sliceBounds, bound_ok h6, bound_ok h5, Int.ofNat_eq_natCast]
  · rcases h2 with ⟨rfl, rfl⟩ | ⟨k2, l, rfl, rfl⟩
    · simp at h4
    · simp only [Option.getD_some] at h5 h6 h7 ⊢
      rcases h1 with ⟨rfl, rfl⟩ | ⟨k1, j, rfl, rfl⟩
      · simp [Instr.sliceBounds, bound_ok h7, bound_ok h6, Int.ofNat_eq_natCast]
      · simp only [Option.getD_some] at h5 ⊢
        simp [Instr.sliceBounds, bound_ok h7, bound_ok h6, bound_ok h5, Int.ofNat_eq_natCast]

theorem slice_ok (k : EnvRel r env a N) (q : Rep r h.get w) {t : TypeId} {x : Operand} {lo hi mx : Option Operand} (e : mSlice t x lo hi mx P call env h n ty = some y) :
    GivesV P (Instr.sliceAt t (a.eval x) (lo.map a.eval) (hi.map a.eval) (mx.map a.eval)) r h n w y := by
  obtain ⟨el, h1, e⟩ := bnd_some e
  obtain ⟨v, h2, e⟩ := bnd_some e
  obtain ⟨lo', h3, e⟩ := bnd_some e
  obtain ⟨hi', h4, e⟩ := bnd_some e
  obtain ⟨mx', h5, e⟩ := bnd_some e
  obtain ⟨h6, e⟩ := iff_some e
  obtain ⟨g1, g2⟩ := elemE_some h1
  have hv := ev_ok k h2
  have o3 := opt_ok k h3
  have o4 := opt_ok k h4
  have o5 := opt_ok k h5
  rcases orE_some e with e | e
  · obtain ⟨s, h7, e⟩ := bnd_some e
    obtain ⟨h8, e⟩ := iff_some e
    cases e
    simp only [Bool.and_eq_true] at h8
    have b1 := ble_le h8.1.1.1
    have b2 := ble_le h8.1.1.2
    have b3 := ble_le h8.1.2
    have b4 := beq_eq h8.2
    cases slE_some h7
    obtain ⟨B, b, m, c, j, f, hx, i1, i2, i3, i4, i5⟩ := sl_inv hv
    have hm : mx'.getD s.cap ≤ mx'.getD c := by cases mx' with | none => exact i2 | some z => exact Nat.le_refl _
    have hm2 : mx'.getD c ≤ c := by cases mx' with | none => exact Nat.le_refl _ | some z => simp at b3 ⊢; omega
    have hb := bounds_ok (P := P) (w := w) (len := s.len) (cap := c) o3 o4 o5 h6 b1 (Nat.le_trans b2 hm) hm2
    let k' := if mx'.getD c = lo'.getD 0 then j else j + lo'.getD 0 * el.2
    refine .pure q (x := .slice (some ⟨B, k', none⟩) (hi'.getD s.len - lo'.getD 0) (mx'.getD c - lo'.getD 0)) ?_ ?_
    · simp only [Instr.sliceAt, Instr.slice, Sem.run_bind, run_underlying g1, Result.andThen_ok, hx, hb, run_sizeOf g2, Sem.run_pure, k']
      split <;> simp [addr_add]
    · refine .sl f (by simp only [Nat.sub_eq]; omega) (by simp only [Nat.sub_eq]; omega) ?_ ?_ ?_
      · intro hex
        simp only [Bool.or_eq_true] at hex
        rcases hex with hex | hex
        · have := i3 hex; subst this; rfl
        · obtain ⟨z, hz⟩ := Option.isSome_iff_exists.1 hex
          subst hz; rfl
      · simp only [Nat.sub_eq, Nat.add_eq, Nat.mul_eq, k']
        rcases i4 with i4 | i4
        · by_cases g : mx'.getD c = lo'.getD 0
          · right; omega
          · left; rw [if_neg g]; omega
        · right; omega
      · have h9 : (mx'.getD c - lo'.getD 0) * el.2 ≤ c * el.2 := Nat.mul_le_mul_right _ (by omega)
        rw [← b4] at i5
        simp only [k']
        split
        · omega
        · have : lo'.getD 0 * el.2 + (mx'.getD c - lo'.getD 0) * el.2 ≤ c * el.2 := by
            rw [← Nat.add_mul]; exact Nat.mul_le_mul_right _ (by omega)
          omega
  · obtain ⟨_, h7, e⟩ := bnd_some e
    obtain ⟨h8, e⟩ := iff_some e
    cases e
    simp only [Bool.and_eq_true] at h8
    have b1 := beq_eq h8.1.1
    have b2 := beq_eq h8.1.2
    have b3 := beq_eq h8.2
    rw [nilE_some h7] at hv ⊢
    have hx := dat_inv hv
    have hb := bounds_ok (P := P) (w := w) (len := 0) (cap := 0) o3 o4 o5 h6 (by omega) (by omega) (by omega)
    refine .pure q (x := .slice none 0 0) ?_ (.dat _)
    rw [b1, b2, b3] at hb
    simp [Instr.sliceAt, Instr.slice, run_underlying g1, hx, hb, run_sizeOf g2]
end
end Go.Proofs.YtcaeglnfflkabaaGreat.Ev
