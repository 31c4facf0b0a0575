/- Regions in the order of the text; code; calls. -/
import Derived.Test.YtcaeglnfflkabaaGreatEv5
namespace Go.Proofs.YtcaeglnfflkabaaGreat.Ev

theorem put_ok {r : Ren} {env env' : T AV} {a : Go.Act} {N : Nat} {dst : Option Tmp} {v : AV} {x : Value} (k : EnvRel r env a N) (e : putE N env dst v = some env') (hv : Rel r v x) :
    EnvRel r env' (a.put dst x) N := by
  cases dst with
  | none => cases e; exact k
  | some d =>
    obtain ⟨h1, e⟩ := iff_some e
    cases e
    have h1 := blt_lt h1
    refine ⟨by simp [Go.Act.put, k.size], fun t u f => ?_⟩
    rw [T.get_put] at f
    simp only [Go.Act.put, Array.getElem?_setIfInBounds]
    by_cases g : t = d
    · subst g
      rw [if_pos rfl] at f
      cases f
      exact ⟨x, by rw [if_pos rfl, if_pos (by rw [k.size]; exact h1)], hv⟩
    · rw [if_neg g] at f
      obtain ⟨z, p, q⟩ := k.get t u f
      exact ⟨z, by rw [if_neg (Ne.symm g)]; exact p, q⟩
theorem put_defers (a : Go.Act) (dst : Option Tmp) (x : Value) : (a.put dst x).defers = a.defers := by cases dst <;> rfl

theorem want_ok {r : Ren} {env : T AV} {a : Go.Act} {N : Nat} {ops : Array Oper} (k : EnvRel r env a N) {g : Nat × Bool} {b : Bool} (e : wantE ops.toList env g = some b) :
    (yielded ops a.tmps g.1 == some g.2) = b := by
  obtain ⟨o, h1, e⟩ := bnd_some e
  obtain ⟨t, h2, e⟩ := bnd_some e
  obtain ⟨v, h3, e⟩ := bnd_some e
  obtain ⟨x, h4, e⟩ := bnd_some e
  obtain ⟨z, p, q⟩ := k.get t v h3
  cases datE_some h4
  cases dat_inv q
  have hy : yielded ops a.tmps g.1 = match some x with | some (.bool b) => some b | _ => none := by
    unfold yielded
    rw [← Array.getElem?_toList, h1]
    simp only [Option.bind_some, h2, p]
    rfl
  rw [hy]
  rcases orE_some e with e | e
  · obtain ⟨b', h5, e⟩ := bnd_some e
    have : x = .bool b' := by cases x <;> simp [boolV] at h5; subst h5; rfl
    subst this
    cases e
    cases b' <;> cases g.2 <;> rfl
  · obtain ⟨h5, e⟩ := iff_some e
    cases e
    have : ∃ l, x = .tuple l := by cases x <;> simp [isTup] at h5; exact ⟨_, rfl⟩
    obtain ⟨l, rfl⟩ := this
    rfl

/-- Where a run stands, that began at `r0`, `h0`, `n0`, `w0`. -/
structure Stands (N : Nat) (D : List Deferred) (r0 : Ren) (h0 : Nat → Option Blk) (n0 : Nat) (w0 : World) (env : T AV) (h : Heap) (n : Nat) (a : Go.Act) (w : World) (r : Ren) : Prop where
  env : EnvRel r env a N
  defers : a.defers = D
  post : Post r0 h0 h.get n0 n w0 w r
  le : n0 ≤ n
theorem Stands.step {N : Nat} {D : List Deferred} {r0 : Ren} {h0 : Nat → Option Blk} {n0 : Nat} {w0 : World} {env env' : T AV} {h h' : Heap} {n n' : Nat} {a : Go.Act} {w w' : World} {r r' : Ren} {v : AV} {x : Value} {dst : Option Tmp}
    (s : Stands N D r0 h0 n0 w0 env h n a w r) (p : Post r h.get h'.get n n' w w' r') (le : n ≤ n') (e : putE N env dst v = some env') (hv : Rel r' v x) : Stands N D r0 h0 n0 w0 env' h' n' (a.put dst x) w' r' :=
  ⟨put_ok (s.env.mono p.ext.1) e hv, by rw [put_defers]; exact s.defers, s.post.trans p s.le le, Nat.le_trans s.le le⟩
theorem Stands.start {N : Nat} {r : Ren} {env : T AV} {h : Heap} {n : Nat} {a : Go.Act} {w : World} (k : EnvRel r env a N) (q : Rep r h.get w) : Stands N a.defers r h.get n w env h n a w r :=
  ⟨k, rfl, .refl q, Nat.le_refl n⟩
theorem Free.later {r r' : Ren} {a b c : Nat} (f : Free r a c) (e : Ext r r' a b) (h0 : a ≤ b) : Free r' b c := by
  intro i h1 h2
  by_cases g : r' i = none
  · exact g
  · have := e.2 i (f i (by omega) h2) g
    omega
theorem Free.less {r : Ren} {a b c : Nat} (f : Free r a c) (h : b ≤ c) : Free r a b := fun i h1 h2 => f i h1 (by omega)

section
variable {P : Program} {call : CallE} {N : Nat}

theorem nextK_some {dst : Option Tmp} {k : KE} {env : T AV} {x : Res} {s : St} (e : nextK N dst k env x = some s) : ∃ env', putE N env dst x.v = some env' ∧ k env' x.h x.n = some s := bnd_some e

/-- What the rest of a region gives. -/
def SeqOk (P : Program) (N : Nat) (ops : Array Oper) (is : List Nat) (k : KE) : Prop := ∀ env h n s, k env h n = some s → n ≤ s.n ∧
  ∀ D r0 h0 n0 w0 a w r, Stands N D r0 h0 n0 w0 env h n a w r → Free r n s.n →
    wpOps P ops (fun e a' w' => e = .normal ∧ ∃ r', Stands N D r0 h0 n0 w0 s.env s.h s.n a' w' r') is a w

theorem goE_ok (hc : CallsOk P call) {ops : Array Oper} {i : Nat} {is : List Nat} {k : KE} {o : Oper} (hi : ops[i]? = some o) (ih : SeqOk P N ops is k) {env : T AV} {h : Heap} {n : Nat} {s : St}
    (e : goE P call N o k env h n = some s) : n ≤ s.n ∧ ∀ D r0 h0 n0 w0 a w r, Stands N D r0 h0 n0 w0 env h n a w r → Free r n s.n → Region.wanted o (yielded ops a.tmps) = true →
    wpOps P ops (fun e a' w' => e = .normal ∧ ∃ r', Stands N D r0 h0 n0 w0 s.env s.h s.n a' w' r') (i :: is) a w := by
  obtain ⟨x, h1, e⟩ := bnd_some e
  obtain ⟨h2, e⟩ := iff_some e
  have h2 := ble_le h2
  obtain ⟨env', h3, e⟩ := nextK_some e
  obtain ⟨h4, h5⟩ := ih _ _ _ _ e
  refine ⟨Nat.le_trans h2 h4, fun D r0 h0 n0 w0 a w r st fr hw => ?_⟩
  have := opE_ok hc st.env st.post.rep h1 (fr.less h4)
  simp only [wpOps, hi, hw, if_true]
  refine .inl (this _ _ fun z w' r' g1 g2 => ?_)
  exact h5 D r0 h0 n0 w0 _ _ _ (st.step g2 h2 h3 g1) (fr.later g2.ext h2)
theorem skipE_ok {ops : Array Oper} {i : Nat} {is : List Nat} {k : KE} {o : Oper} (hi : ops[i]? = some o) (ih : SeqOk P N ops is k) {env : T AV} {h : Heap} {n : Nat} {s : St}
    (e : skipE N o k env h n = some s) : n ≤ s.n ∧ ∀ D r0 h0 n0 w0 a w r, Stands N D r0 h0 n0 w0 env h n a w r → Free r n s.n → Region.wanted o (yielded ops a.tmps) = false →
    wpOps P ops (fun e a' w' => e = .normal ∧ ∃ r', Stands N D r0 h0 n0 w0 s.env s.h s.n a' w' r') (i :: is) a w := by
  obtain ⟨env', h3, e⟩ := nextK_some e
  obtain ⟨h4, h5⟩ := ih _ _ _ _ e
  refine ⟨h4, fun D r0 h0 n0 w0 a w r st fr hw => ?_⟩
  simp only [wpOps, hi, hw, Bool.false_eq_true, if_false]
  exact h5 D r0 h0 n0 w0 _ _ _ (st.step (.refl st.post.rep) (Nat.le_refl _) h3 (.dat _)) fr
theorem seqE_ok (hc : CallsOk P call) (ops : Array Oper) : ∀ (l : List Oper) (is : List Nat), is.map (ops[·]?) = l.map some → SeqOk P N ops is (seqE P call N ops.toList l) := by
  intro l
  induction l with
  | nil =>
    intro is his env h n s e
    cases is with
    | nil => cases e; exact ⟨Nat.le_refl _, fun D r0 h0 n0 w0 a w r st _ => ⟨rfl, r, st⟩⟩
    | cons i is => simp at his
  | cons o l ih =>
    intro is his env h n s e
    cases is with
    | nil => simp at his
    | cons i is =>
      simp only [List.map_cons, List.cons.injEq] at his
      obtain ⟨hi, his⟩ := his
      have ih := ih is his
      change stepE P call N ops.toList o (seqE P call N ops.toList l) env h n = some s at e
      unfold stepE at e
      cases hg : o.guard with
      | none =>
        rw [hg] at e
        obtain ⟨h1, h2⟩ := goE_ok hc hi ih e
        exact ⟨h1, fun D r0 h0 n0 w0 a w r st fr => h2 D r0 h0 n0 w0 a w r st fr (by simp [Region.wanted, hg])⟩
      | some g =>
        rw [hg] at e
        obtain ⟨b, h3, e⟩ := bnd_some e
        cases b with
        | true =>
          obtain ⟨h1, h2⟩ := goE_ok hc hi ih e
          exact ⟨h1, fun D r0 h0 n0 w0 a w r st fr => h2 D r0 h0 n0 w0 a w r st fr (by simp only [Region.wanted, hg]; exact want_ok st.env h3)⟩
        | false =>
          obtain ⟨h1, h2⟩ := skipE_ok hi ih e
          exact ⟨h1, fun D r0 h0 n0 w0 a w r st fr => h2 D r0 h0 n0 w0 a w r st fr (by simp only [Region.wanted, hg]; exact want_ok st.env h3)⟩

/-- A region does what is reckoned. -/
def RegOk (P : Program) (N : Nat) (reg : RegE) : Prop := ∀ (ops : Array Oper) draw env h n s, reg ops.toList draw env h n = some s → n ≤ s.n ∧
  ∀ id D r0 h0 n0 w0 a w r, Stands N D r0 h0 n0 w0 env h n a w r → Free r n s.n →
    (Code.region id ops draw).wp P (fun e a' w' => e = .normal ∧ ∃ r', Stands N D r0 h0 n0 w0 s.env s.h s.n a' w' r') a w
theorem plain_ok (hc : CallsOk P call) (ops : Array Oper) {env : T AV} {h : Heap} {n : Nat} {s : St} (e : seqE P call N ops.toList ops.toList env h n = some s) : n ≤ s.n ∧
    ∀ id D r0 h0 n0 w0 a w r, Stands N D r0 h0 n0 w0 env h n a w r → Free r n s.n →
    (Code.region id ops false).wp P (fun e a' w' => e = .normal ∧ ∃ r', Stands N D r0 h0 n0 w0 s.env s.h s.n a' w' r') a w := by
  obtain ⟨h1, h2⟩ := seqE_ok (N := N) hc ops ops.toList (List.range ops.size) (by
    apply List.ext_getElem?
    intro i
    simp only [List.getElem?_map]
    by_cases g : i < ops.size
    · simp [g]
    · simp [g]) env h n s e
  exact ⟨h1, fun id D r0 h0 n0 w0 a w r st fr => wp_region (h2 D r0 h0 n0 w0 a w r st fr)⟩

/-! ### code -/
def exOf : Ex → Exit
  | .normal => .normal
  | .exit i => .exit i
  | .ret => .ret
def CodePost (N : Nat) (D : List Deferred) (r0 : Ren) (h0 : Nat → Option Blk) (n0 : Nat) (w0 : World) (x : ExSt) : Exit → Go.Act → World → Prop :=
  fun e a' w' => e = exOf x.e ∧ ∃ r', Stands N D r0 h0 n0 w0 x.s.env x.s.h x.s.n a' w' r'
def CodeOk (P : Program) (N : Nat) (c : Code) (env : T AV) (h : Heap) (n : Nat) (x : ExSt) : Prop := n ≤ x.s.n ∧
  ∀ D r0 h0 n0 w0 a w r, Stands N D r0 h0 n0 w0 env h n a w r → Free r n x.s.n → c.wp P (CodePost N D r0 h0 n0 w0 x) a w ∧
    ∀ c', c = .loop c' → ∀ b k cs, ∃ e a' w', CodePost N D r0 h0 n0 w0 x e a' w' ∧ Arrives P (lone (b.at a (.code c' :: .inLoop c' :: k)) cs w) b k cs e a' w'
theorem Stands.free {D : List Deferred} {_r0 : Ren} {_h0 : Nat → Option Blk} {_n0 : Nat} {_w0 : World} {_env env' : T AV} {h h' : Heap} {n n' m : Nat} {_a a' : Go.Act} {w w' : World} {r r' : Ren}
    (s' : Stands N D r h.get n w env' h' n' a' w' r') (f : Free r n m) : Free r' n' m := f.later s'.post.ext s'.le
theorem Stands.trans {D : List Deferred} {r0 : Ren} {h0 : Nat → Option Blk} {n0 : Nat} {w0 : World} {env env' : T AV} {h h' : Heap} {n n' : Nat} {a a' : Go.Act} {w w' : World} {r r' : Ren}
    (s : Stands N D r0 h0 n0 w0 env h n a w r) (s' : Stands N D r h.get n w env' h' n' a' w' r') : Stands N D r0 h0 n0 w0 env' h' n' a' w' r' :=
  ⟨s'.env, s'.defers, s.post.trans s'.post s.le s'.le, Nat.le_trans s.le s'.le⟩

theorem codeE_ok {reg : RegE} (hreg : RegOk P N reg) : ∀ (f : Nat) (c : Code) (env : T AV) (h : Heap) (n : Nat) (x : ExSt), codeE reg f c env h n = some x → CodeOk P N c env h n x := by
  intro f
  induction f with
  | zero => intro c env h n x e; cases e
  | succ f ih =>
    intro c env h n x e
    change codeStep c reg (codeE reg f) env h n = some x at e
    -- a piece of code, and what comes behind it
    have seqK : ∀ (c b : Code) (x1 x : ExSt), CodeOk P N c env h n x1 → seqC (codeE reg f) b x1 = some x → n ≤ x.s.n ∧ ∀ D r0 h0 n0 w0 a w r, Stands N D r0 h0 n0 w0 env h n a w r → Free r n x.s.n →
        c.wp P (Exit.then (fun a' w' => x1.e = .normal ∧ ∃ r', Stands N D r0 h0 n0 w0 x1.s.env x1.s.h x1.s.n a' w' r' ∧ Free r' x1.s.n x.s.n ∧ CodeOk P N b x1.s.env x1.s.h x1.s.n x) (CodePost N D r0 h0 n0 w0 x)) a w := by
      intro c b x1 x h1 h2
      obtain ⟨l1, k1⟩ := h1
      obtain ⟨e1, s1⟩ := x1
      cases e1 with
      | normal =>
        have hb := ih b _ _ _ _ h2
        refine ⟨Nat.le_trans l1 hb.1, fun D r0 h0 n0 w0 a w r st fr => ?_⟩
        refine wp_mono (k1 D r h.get n w a w r ⟨st.env, st.defers, .refl st.post.rep, Nat.le_refl _⟩ (fr.less hb.1)).1 fun e' a' w' he => ?_
        obtain ⟨rfl, r', st'⟩ := he
        exact ⟨rfl, r', st.trans st', fr.later st'.post.ext st'.le, hb⟩
      | exit i =>
        cases h2
        refine ⟨l1, fun D r0 h0 n0 w0 a w r st fr => ?_⟩
        refine wp_mono (k1 D r0 h0 n0 w0 a w r st fr).1 fun e' a' w' he => ?_
        obtain ⟨rfl, r', st'⟩ := he
        exact ⟨rfl, r', st'⟩
      | ret =>
        cases h2
        refine ⟨l1, fun D r0 h0 n0 w0 a w r st fr => ?_⟩
        refine wp_mono (k1 D r0 h0 n0 w0 a w r st fr).1 fun e' a' w' he => ?_
        obtain ⟨rfl, r', st'⟩ := he
        exact ⟨rfl, r', st'⟩
    cases c with
    | skip => cases e; exact ⟨Nat.le_refl _, fun D r0 h0 n0 w0 a w r st _ => ⟨wp_skip ⟨rfl, r, st⟩, fun c' h => by cases h⟩⟩
    | label l => cases e; exact ⟨Nat.le_refl _, fun D r0 h0 n0 w0 a w r st _ => ⟨wp_label ⟨rfl, r, st⟩, fun c' h => by cases h⟩⟩
    | exit i => cases e; exact ⟨Nat.le_refl _, fun D r0 h0 n0 w0 a w r st _ => ⟨wp_exit ⟨rfl, r, st⟩, fun c' h => by cases h⟩⟩
    | ret => cases e; exact ⟨Nat.le_refl _, fun D r0 h0 n0 w0 a w r st _ => ⟨wp_ret ⟨rfl, r, st⟩, fun c' h => by cases h⟩⟩
    | region id ops draw =>
      obtain ⟨s, h1, e⟩ := bnd_some e
      cases e
      obtain ⟨h2, h3⟩ := hreg ops draw env h n s h1
      exact ⟨h2, fun D r0 h0 n0 w0 a w r st fr => ⟨h3 id D r0 h0 n0 w0 a w r st fr, fun c' h => by cases h⟩⟩
    | seq p q =>
      obtain ⟨x1, h1, e⟩ := bnd_some e
      obtain ⟨l1, k1⟩ := seqK p q x1 x (ih p _ _ _ _ h1) e
      refine ⟨l1, fun D r0 h0 n0 w0 a w r st fr => ⟨wp_seq (wp_mono (k1 D r0 h0 n0 w0 a w r st fr) fun e' a' w' he => ?_), fun c' h => by cases h⟩⟩
      cases e' with
      | normal =>
        obtain ⟨_, r', st', fr', hb⟩ := he
        exact (hb.2 D r0 h0 n0 w0 a' w' r' st' fr').1
      | _ => exact he
    | cond c p q =>
      obtain ⟨v, h1, e⟩ := bnd_some e
      obtain ⟨t, h2, e⟩ := bnd_some e
      rw [boolE_some h2] at h1
      cases t with
      | true =>
        obtain ⟨l1, k1⟩ := ih p _ _ _ _ e
        exact ⟨l1, fun D r0 h0 n0 w0 a w r st fr => ⟨wp_cond_true (dat_inv (ev_ok st.env h1)) (k1 D r0 h0 n0 w0 a w r st fr).1, fun c' h => by cases h⟩⟩
      | false =>
        obtain ⟨l1, k1⟩ := ih q _ _ _ _ e
        exact ⟨l1, fun D r0 h0 n0 w0 a w r st fr => ⟨wp_cond_false (dat_inv (ev_ok st.env h1)) (k1 D r0 h0 n0 w0 a w r st fr).1, fun c' h => by cases h⟩⟩
    | block id p =>
      obtain ⟨x1, h1, e⟩ := bnd_some e
      obtain ⟨l1, k1⟩ := ih p _ _ _ _ h1
      obtain ⟨e1, s1⟩ := x1
      cases e1 with
      | normal =>
        cases e
        exact ⟨l1, fun D r0 h0 n0 w0 a w r st fr => ⟨wp_block (wp_mono (k1 D r0 h0 n0 w0 a w r st fr).1 fun e' a' w' he => by obtain ⟨rfl, hr⟩ := he; exact ⟨rfl, hr⟩), fun c' h => by cases h⟩⟩
      | ret =>
        cases e
        exact ⟨l1, fun D r0 h0 n0 w0 a w r st fr => ⟨wp_block (wp_mono (k1 D r0 h0 n0 w0 a w r st fr).1 fun e' a' w' he => by obtain ⟨rfl, hr⟩ := he; exact ⟨rfl, hr⟩), fun c' h => by cases h⟩⟩
      | exit i =>
        cases e
        refine ⟨l1, fun D r0 h0 n0 w0 a w r st fr => ⟨wp_block (wp_mono (k1 D r0 h0 n0 w0 a w r st fr).1 fun e' a' w' he => ?_), fun c' h => by cases h⟩⟩
        obtain ⟨rfl, hr⟩ := he
        simp only [exOf, Exit.inBlock]
        cases hb : Nat.beq i id with
        | true => rw [if_pos (beq_eq hb)]; exact ⟨rfl, hr⟩
        | false => rw [if_neg (fun c => by subst c; rw [Nat.beq_refl] at hb; cases hb)]; exact ⟨rfl, hr⟩
    | loop p =>
      obtain ⟨x1, h1, e⟩ := bnd_some e
      obtain ⟨l1, k1⟩ := seqK p (.loop p) x1 x (ih p _ _ _ _ h1) e
      have key : ∀ D r0 h0 n0 w0 a w r, Stands N D r0 h0 n0 w0 env h n a w r → Free r n x.s.n → ∀ b k cs, ∃ e a' w', CodePost N D r0 h0 n0 w0 x e a' w' ∧
          Arrives P (lone (b.at a (.code p :: .inLoop p :: k)) cs w) b k cs e a' w' := by
        intro D r0 h0 n0 w0 a w r st fr b k cs
        obtain ⟨e', a1, w1, hq, harr⟩ := k1 D r0 h0 n0 w0 a w r st fr b (.inLoop p :: k) cs
        cases e' with
        | normal =>
          obtain ⟨_, r', st', fr', hb⟩ := hq
          obtain ⟨e2, a2, w2, hq2, harr2⟩ := (hb.2 D r0 h0 n0 w0 a1 w1 r' st' fr').2 p rfl b k cs
          exact ⟨e2, a2, w2, hq2, .of_steps (Steps.trans harr (.one step_inLoop)) harr2⟩
        | exit id => exact ⟨_, a1, w1, hq, .pass (x := .inLoop p) rfl (fun _ _ => .inl (by simp)) harr⟩
        | goto l => exact ⟨_, a1, w1, hq, .pass (x := .inLoop p) rfl (fun _ _ => .inl (by simp)) harr⟩
        | ret => exact ⟨_, a1, w1, hq, .pass (x := .inLoop p) rfl (fun _ _ => .inl (by simp)) harr⟩
        | panic ch => exact ⟨_, a1, w1, hq, .pass (x := .inLoop p) rfl (fun _ _ => .inl (by simp)) harr⟩
        | outgrown => exact ⟨_, a1, w1, hq, .pass (x := .inLoop p) rfl (fun _ _ => .inl (by simp)) harr⟩
      refine ⟨l1, fun D r0 h0 n0 w0 a w r st fr => ⟨fun b k cs => ?_, fun c' hc => by cases hc; exact key D r0 h0 n0 w0 a w r st fr⟩⟩
      obtain ⟨e', a', w', hq, harr⟩ := key D r0 h0 n0 w0 a w r st fr b k cs
      exact ⟨e', a', w', hq, .of_steps (.one step_loop) harr⟩
    | rangeFunc => cases e
    | scope p =>
      obtain ⟨l1, k1⟩ := ih p _ _ _ _ e
      refine ⟨l1, fun D r0 h0 n0 w0 a w r st fr => ⟨wp_scope_straight (wp_mono (k1 D r0 h0 n0 w0 a w r st fr).1 fun e' a' w' he => ?_), fun c' h => by cases h⟩⟩
      obtain ⟨rfl, hr⟩ := he
      cases hx : x.e <;> exact ⟨by rw [hx], hr⟩
    | goto => cases e
    | refuse => cases e
end
end Go.Proofs.YtcaeglnfflkabaaGreat.Ev

namespace Go.Proofs.YtcaeglnfflkabaaGreat.Ev
section
variable {P : Program} {call : CallE} {N : Nat}

theorem envOf_get : ∀ (l : List AV) (i t : Nat), (envOf l i).get t = if i ≤ t then l[t - i]? else none := by
  intro l
  induction l with
  | nil => intro i t; show (T.leaf : T AV).get t = _; rw [T.get_leaf]; simp
  | cons v l ih =>
    intro i t
    show ((envOf l (i + 1)).put i (some v)).get t = _
    rw [T.get_put, ih]
    by_cases g : t = i
    · subst g; simp
    · rw [if_neg g]
      by_cases g1 : i + 1 ≤ t
      · rw [if_pos g1, if_pos (by omega), show t - i = (t - (i + 1)) + 1 from by omega]; simp
      · rw [if_neg g1, if_neg (by omega)]
theorem envOf_ok {r : Ren} {vs : List AV} {xs : Array Value} (hl : RelL r vs xs) (h : vs.length ≤ N) :
    EnvRel r (envOf vs 0) { tmps := xs ++ Array.replicate (N - xs.size) undef, defers := [] } N := by
  refine ⟨by simp [hl.1]; omega, fun t v e => ?_⟩
  rw [envOf_get, if_pos (Nat.zero_le _), Nat.sub_zero] at e
  obtain ⟨x, p, q⟩ := hl.get e
  exact ⟨x, by rw [Array.getElem?_append_left (Array.getElem?_eq_some_iff.1 p).1]; exact p, q⟩

def getR (tmps : Array Value) : ResultVar → Sem Value
  | .tmp t => pure (tmps.getD t undef)
  | .cell a t => do loadVar t (← asAddr (tmps.getD a undef))
theorem results_eq (fn : Func) (tmps : Array Value) : results fn tmps = (do
    let vs ← fn.results.mapM (getR tmps)
    pure (if h : vs.size = 1 then vs[0] else .tuple vs)) := by
  unfold results
  congr 1
theorem res_ok {r : Ren} {env : T AV} {a : Go.Act} {h : Heap} {w : World} (k : EnvRel r env a N) (q : Rep r h.get w) : ∀ (l : List ResultVar) {vs : List AV}, resE P env h l = some vs →
    ∃ xs, (l.mapM (getR a.tmps)).run P w = .ok xs w ∧ RelL r vs xs.toArray := by
  intro l
  induction l with
  | nil => intro vs e; cases e; exact ⟨[], by simp, .nil r⟩
  | cons x l ih =>
    intro vs e
    obtain ⟨v, h1, e⟩ := bnd_some e
    obtain ⟨vs', h2, e⟩ := bnd_some e
    cases e
    obtain ⟨xs, p1, p2⟩ := ih h2
    cases x with
    | tmp t =>
      obtain ⟨z, c1, c2⟩ := k.get t v h1
      refine ⟨z :: xs, ?_, .cons c2 p2⟩
      have : a.tmps.getD t undef = z := by simp [c1]
      have hg : (getR a.tmps (.tmp t)).run P w = .ok z w := by simp only [getR, this, Sem.run_pure]
      simp only [List.mapM_cons, Sem.run_bind, hg, Sem.run_pure, Result.andThen_ok, p1]
    | cell b t =>
      obtain ⟨u, c1, e1⟩ := bnd_some h1
      obtain ⟨p, c2, e1⟩ := bnd_some e1
      obtain ⟨g, c3, e1⟩ := bnd_some e1
      obtain ⟨s, c4, e1⟩ := bnd_some e1
      obtain ⟨cs, c5, e1⟩ := bnd_some e1
      obtain ⟨z, d1, d2⟩ := k.get b u c1
      rw [ptrE_some c2] at d2
      obtain ⟨B, o, m, f, hx⟩ := ptr_inv d2
      subst hx
      obtain ⟨x', p', q'⟩ := load_ok q c3 c4 c5 e1 f
      refine ⟨x' :: xs, ?_, .cons q' p2⟩
      have : a.tmps.getD b undef = .pointer (some ⟨B, o + p.2, none⟩) := by simp [d1]
      have hg : (getR a.tmps (.cell b t)).run P w = .ok x' w := by simp only [getR, Sem.run_bind, this, asAddr, Sem.run_pure, Result.andThen_ok, p']
      simp only [List.mapM_cons, Sem.run_bind, hg, Sem.run_pure, Result.andThen_ok, p1]

theorem results_ok {r : Ren} {env : T AV} {a : Go.Act} {h : Heap} {w : World} (k : EnvRel r env a N) (q : Rep r h.get w) {fn : Func} {vs : List AV} (e : resE P env h fn.results.toList = some vs) :
    ∃ x, (results fn a.tmps).run P w = .ok x w ∧ Rel r (tupleE vs) x := by
  obtain ⟨xs, p1, p2⟩ := res_ok k q _ e
  have hr : (results fn a.tmps).run P w = .ok (if h : xs.toArray.size = 1 then xs.toArray[0] else .tuple xs.toArray) w := by
    rw [results_eq, Array.mapM_eq_mapM_toList]
    simp only [Sem.run_bind, Sem.run_map]
    rw [p1]
    rfl
  refine ⟨_, hr, ?_⟩
  have hs := p2.1
  match vs with
  | [] =>
    have h0 : xs = [] := List.eq_nil_of_length_eq_zero (by simpa using hs)
    subst h0
    exact .tup rfl fun i v x e => by simp at e
  | [v] =>
    rw [dif_pos (by simpa using hs)]
    exact p2.2 0 v _ rfl (by rw [Array.getElem?_eq_getElem])
  | v :: u :: t =>
    rw [dif_neg (by rw [hs]; simp)]
    exact .tup p2.1 p2.2

theorem callStep_ok {fuel : Nat} {reg : CallE → Nat → RegE} {k : CallE} (hreg : ∀ N, RegOk P N (reg k N)) : CallsOk P (callStep P fuel reg k) := by
  intro f vs h n y e
  obtain ⟨fn, h1, e⟩ := bnd_some e
  obtain ⟨c, h2, e⟩ := bnd_some e
  obtain ⟨h3, e⟩ := iff_some e
  obtain ⟨x, h4, e⟩ := bnd_some e
  simp only [Bool.and_eq_true] at h3
  have hlen := ble_le h3.1
  obtain ⟨l1, k1⟩ := codeE_ok (hreg fn.ntmps) fuel c _ _ _ _ h4
  have hend : ∃ vs', resE P x.s.env x.s.h fn.results.toList = some vs' ∧ y = ⟨tupleE vs', x.s.h, x.s.n⟩ ∧ (x.e = .normal ∨ x.e = .ret) := by
    unfold endE at e
    cases hx : x.e with
    | normal => rw [hx] at e; obtain ⟨vs', c1, c2⟩ := bnd_some e; cases c2; exact ⟨vs', c1, rfl, .inl rfl⟩
    | ret => rw [hx] at e; obtain ⟨vs', c1, c2⟩ := bnd_some e; cases c2; exact ⟨vs', c1, rfl, .inr rfl⟩
    | exit i => rw [hx] at e; cases e
  obtain ⟨vs', r1, r2, r3⟩ := hend
  subst r2
  refine ⟨l1, ⟨fn, c, h1, h2, by simpa using h3.2⟩, fun r w xs hl q fr => ?_⟩
  have hk := envOf_ok (N := fn.ntmps) hl hlen
  refine calls_of_wp h1 h2 ?_
  refine wp_mono (k1 [] r h.get n w _ w r ⟨hk, rfl, .refl q, Nat.le_refl n⟩ fr).1 fun e' a' w' he => ?_
  obtain ⟨rfl, r', st⟩ := he
  obtain ⟨z, z1, z2⟩ := results_ok st.env st.post.rep r1
  rcases r3 with r3 | r3 <;> rw [r3] <;> exact ⟨st.defers, z, z1, z, r', rfl, z2, st.post⟩
theorem callE_ok {fuel : Nat} {reg : CallE → Nat → RegE} (hreg : ∀ k, CallsOk P k → ∀ N, RegOk P N (reg k N)) : ∀ d, CallsOk P (callE P fuel reg d) := by
  intro d
  induction d with
  | zero => intro f vs h n y e; cases e
  | succ d ih => exact callStep_ok (hreg _ ih)
end
end Go.Proofs.YtcaeglnfflkabaaGreat.Ev

namespace Go.Proofs.YtcaeglnfflkabaaGreat.Ev

theorem lor_bit (a b j : Nat) : (Nat.lor a b).testBit j = (a.testBit j || b.testBit j) := Nat.testBit_or a b j
theorem shift_bit (k j : Nat) : (Nat.shiftLeft 1 k).testBit j = decide (k = j) := by
  show (1 <<< k).testBit j = _
  rw [Nat.one_shiftLeft, Nat.testBit_two_pow]
theorem preE_bit (acc : List Nat) (j : Nat) : ∀ (l : List Edge), hasB (preE acc l) j = true → ∃ e ∈ l, bindsE e = true ∧ (e.on = j ∨ hasB (acc.getD e.on 0) j = true) := by
  intro l
  induction l with
  | nil => intro h; simp [preE, hasB] at h
  | cons e l ih =>
    intro h
    change hasB (Bool.rec (preE acc l) (Nat.lor (preE acc l) (Nat.lor (Nat.shiftLeft 1 e.on) (acc.getD e.on 0))) (bindsE e)) j = true at h
    cases hb : bindsE e with
    | false =>
      rw [hb] at h
      obtain ⟨e', h1, h2⟩ := ih h
      exact ⟨e', List.mem_cons_of_mem _ h1, h2⟩
    | true =>
      rw [hb] at h
      simp only [hasB, lor_bit, shift_bit, Bool.or_eq_true, decide_eq_true_eq] at h
      rcases h with h | h | h
      · obtain ⟨e', h1, h2⟩ := ih h
        exact ⟨e', List.mem_cons_of_mem _ h1, h2⟩
      · exact ⟨e, List.mem_cons_self, hb, .inl h⟩
      · exact ⟨e, List.mem_cons_self, hb, .inr h⟩

theorem sops_spec (os : List Oper) : ∀ (l : List Oper) (k : Nat) (acc : List Nat) (i : Nat) (s : SOp), (sopsE os l k acc)[i]? = some s →
    ∃ o, l[i]? = some o ∧ s = ⟨o, k + i, preE (acc ++ ((sopsE os l k acc).take i).map (·.pre)) o.after.toList, actE o.op, looksE os o⟩ := by
  intro l
  induction l with
  | nil => intro k acc i s h; change ([] : List SOp)[i]? = some s at h; simp at h
  | cons o l ih =>
    intro k acc i s h
    have hs : sopsE os (o :: l) k acc = ⟨o, k, preE acc o.after.toList, actE o.op, looksE os o⟩ :: sopsE os l k.succ (acc ++ [preE acc o.after.toList]) := rfl
    rw [hs] at h ⊢
    cases i with
    | zero => simp at h; exact ⟨o, rfl, by rw [← h]; simp⟩
    | succ i =>
      simp at h
      obtain ⟨o', h1, h2⟩ := ih _ _ i s h
      refine ⟨o', by simpa using h1, ?_⟩
      rw [h2]
      simp [Nat.add_assoc, Nat.add_comm 1 i]
theorem sops_length (os : List Oper) : ∀ (l : List Oper) (k : Nat) (acc : List Nat), (sopsE os l k acc).length = l.length := by
  intro l
  induction l with
  | nil => intro k acc; rfl
  | cons o l ih => intro k acc; show (sopsE os l _ _).length + 1 = _; rw [ih]; rfl

/-- The operation in place `i`. -/
structure Place (os : List Oper) (l : List SOp) (i : Nat) (s : SOp) : Prop where
  get : l[i]? = some s
  o : os[i]? = some s.o
  k : s.k = i
  act : s.act = actE s.o.op
  looks : s.looks = looksE os s.o
  pre : ∀ j, hasB s.pre j = true → ∃ e ∈ s.o.after.toList, bindsE e = true ∧ (e.on = j ∨ ∃ s', l[e.on]? = some s' ∧ e.on < i ∧ hasB s'.pre j = true)
theorem place {os : List Oper} {i : Nat} {s : SOp} (h : (sopsE os os 0 [])[i]? = some s) : Place os (sopsE os os 0 []) i s := by
  obtain ⟨o, h1, h2⟩ := sops_spec os os 0 [] i s h
  have hi : i < (sopsE os os 0 []).length := (List.getElem?_eq_some_iff.1 h).1
  refine ⟨h, by rw [h1, h2], by rw [h2]; simp, by rw [h2], by rw [h2], fun j hj => ?_⟩
  rw [h2] at hj ⊢
  simp only [List.nil_append] at hj
  obtain ⟨e, e1, e2, e3⟩ := preE_bit _ j _ hj
  refine ⟨e, e1, e2, e3.imp id fun e3 => ?_⟩
  by_cases g : e.on < i
  · have hlt : e.on < (sopsE os os 0 []).length := by omega
    refine ⟨(sopsE os os 0 [])[e.on], List.getElem?_eq_getElem hlt, g, ?_⟩
    rw [List.getD_eq_getElem?_getD, List.getElem?_map, List.getElem?_take, if_pos g, List.getElem?_eq_getElem hlt] at e3
    simpa using e3
  · rw [List.getD_eq_getElem?_getD, List.getElem?_map, List.getElem?_take, if_neg g] at e3
    simp [hasB] at e3

/-- Whoever is listed, has all listed for whom it waits. -/
def Down (ops : Array Oper) (S : Nat → Prop) : Prop := ∀ k o, S k → ops[k]? = some o → ∀ e ∈ o.after, Region.binds .any e = true → S e.on
theorem Down.pre {ops : Array Oper} {S : Nat → Prop} (hd : Down ops S) : ∀ (i : Nat) (s : SOp), (sopsE ops.toList ops.toList 0 [])[i]? = some s →
    (∀ e ∈ s.o.after, Region.binds .any e = true → S e.on) → ∀ j, hasB s.pre j = true → S j := by
  intro i
  induction i using Nat.strongRecOn with
  | _ i ih =>
    intro s hs hdir j hj
    have hp := place hs
    obtain ⟨e, e1, e2, e3⟩ := hp.pre j hj
    have hS : S e.on := hdir e (by simpa using e1) e2
    rcases e3 with e3 | ⟨s', c1, c2, c3⟩
    · exact e3 ▸ hS
    · have hp' := place c1
      refine ih e.on c2 s' c1 (fun e' h1 h2 => ?_) j c3
      exact hd e.on s'.o hS (by rw [← Array.getElem?_toList]; exact hp'.o) e' h1 h2

/-! ### the static facts -/
theorem static_facts {l : List SOp} (h : staticE l = true) : chainE l 0 = true ∧ dstsE l = true ∧ ∀ s ∈ l, backE s = true ∧ ∀ t ∈ s.looks, slotE l s t = true := by
  simp only [staticE, Bool.and_eq_true, List.all_eq_true] at h
  exact ⟨h.1, h.2.1, fun s hs => ⟨(h.2.2 s hs).1, (h.2.2 s hs).2⟩⟩
theorem and_mask {m p j : Nat} (h : Nat.beq (Nat.land m p) m = true) (hj : m.testBit j = true) : p.testBit j = true := by
  have h1 := beq_eq h
  have : (Nat.land m p).testBit j = (m.testBit j && p.testBit j) := Nat.testBit_and m p j
  rw [h1, hj] at this
  simpa using this.symm
theorem chain_fact : ∀ (l : List SOp) (m k0 : Nat), (∀ (i : Nat) (s : SOp), l[i]? = some s → s.k = k0 + i) → chainE l m = true →
    ∀ (i : Nat) (s : SOp), l[i]? = some s → s.act = true → (∀ j, m.testBit j = true → hasB s.pre j = true) ∧ ∀ (j : Nat) (s' : SOp), j < i → l[j]? = some s' → s'.act = true → hasB s.pre s'.k = true := by
  intro l
  induction l with
  | nil => intro m k0 _ _ i s h; simp at h
  | cons s0 l ih =>
    intro m k0 hk hc i s hi ha
    change Bool.rec (chainE l m) (Nat.beq (Nat.land m s0.pre) m && chainE l (Nat.lor m (Nat.shiftLeft 1 s0.k))) s0.act = true at hc
    have hk' : ∀ (i : Nat) (s : SOp), l[i]? = some s → s.k = (k0 + 1) + i := fun i s h => by have := hk (i + 1) s (by simpa using h); omega
    cases h0 : s0.act with
    | false =>
      rw [h0] at hc
      cases i with
      | zero => simp at hi; subst hi; rw [h0] at ha; cases ha
      | succ i =>
        obtain ⟨c1, c2⟩ := ih m (k0 + 1) hk' hc i s (by simpa using hi) ha
        refine ⟨c1, fun j s' hj hs' ha' => ?_⟩
        cases j with
        | zero => simp at hs'; subst hs'; rw [h0] at ha'; cases ha'
        | succ j => exact c2 j s' (by omega) (by simpa using hs') ha'
    | true =>
      rw [h0] at hc
      simp only [Bool.and_eq_true] at hc
      cases i with
      | zero => simp at hi; subst hi; exact ⟨fun j hj => and_mask hc.1 hj, fun j s' hj => by omega⟩
      | succ i =>
        obtain ⟨c1, c2⟩ := ih _ (k0 + 1) hk' hc.2 i s (by simpa using hi) ha
        refine ⟨fun j hj => c1 j (by rw [lor_bit, hj]; rfl), fun j s' hj hs' ha' => ?_⟩
        cases j with
        | zero => simp at hs'; subst hs'; exact c1 _ (by rw [lor_bit, shift_bit]; simp)
        | succ j => exact c2 j s' (by omega) (by simpa using hs') ha'
theorem sameT_eq {a : Option Tmp} {t : Nat} : sameT a t = true ↔ a = some t := by
  cases a with
  | none => simp [sameT]
  | some d => show Nat.beq d t = true ↔ _; rw [Nat.beq_eq]; simp
theorem dsts_fact : ∀ (l : List SOp), dstsE l = true → ∀ (i j : Nat) (s s' : SOp) (t : Nat), l[i]? = some s → l[j]? = some s' → s.o.dst = some t → s'.o.dst = some t → i = j := by
  intro l
  induction l with
  | nil => intro _ i j s s' t h; simp at h
  | cons s0 l ih =>
    intro hd i j s s' t hi hj hs hs'
    change ((Option.rec true (fun d => l.all fun u => !sameT u.o.dst d) s0.o.dst : Bool) && dstsE l) = true at hd
    simp only [Bool.and_eq_true] at hd
    have hno : ∀ (i : Nat) (s : SOp) (t : Nat), l[i]? = some s → s0.o.dst = some t → s.o.dst = some t → False := by
      intro i s t h1 h2 h3
      rw [h2] at hd
      have := List.all_eq_true.1 hd.1 s (List.mem_of_getElem? h1)
      rw [sameT_eq.2 h3] at this
      cases this
    cases i with
    | zero =>
      cases j with
      | zero => rfl
      | succ j => simp at hi; subst hi; exact (hno j s' t (by simpa using hj) hs hs').elim
    | succ i =>
      cases j with
      | zero => simp at hj; subst hj; exact (hno i s t (by simpa using hi) hs' hs).elim
      | succ j => rw [ih hd.2 i j s s' t (by simpa using hi) (by simpa using hj) hs hs']
theorem slot_fact {l : List SOp} {s u : SOp} {t i : Nat} (h : slotE l s t = true) (hu : l[i]? = some u) (hd : u.o.dst = some t) :
    (u.k < s.k → hasB s.pre u.k = true) ∧ (¬ u.k < s.k → hasB u.pre s.k = true) := by
  have := List.all_eq_true.1 h u (List.mem_of_getElem? hu)
  rw [sameT_eq.2 hd] at this
  simp only [Bool.not_true, Bool.false_or] at this
  cases hb : Nat.blt u.k s.k with
  | true => rw [hb] at this; exact ⟨fun _ => this, fun c => absurd (blt_lt hb) c⟩
  | false =>
    rw [hb] at this
    refine ⟨fun c => ?_, fun _ => this⟩
    have : Nat.blt u.k s.k = true := Nat.ble_eq_true_of_le c
    rw [hb] at this; cases this
end Go.Proofs.YtcaeglnfflkabaaGreat.Ev

namespace Go.Proofs.YtcaeglnfflkabaaGreat.Ev

/-! ### equality -/
theorem eqK_ok {a b : IntKind} (h : eqK a b = true) : a = b := of_decide_eq_true h
theorem bytes_ext {a b : ByteArray} (h : a.data.toList = b.data.toList) : a = b := by
  cases a
  cases b
  exact congrArg ByteArray.mk (Array.ext' h)
theorem eqV_ok {a b : Value} (h : eqV a b = true) : a = b := by
  unfold eqV at h
  split at h
  · simp only [Bool.and_eq_true] at h
    have h2 := h.2
    rw [eqI_eq] at h2
    rw [eqK_ok h.1, eq_of_beq h2]
  · rename_i a b; cases a <;> cases b <;> first | rfl | (exact absurd h (by decide))
  · rw [bytes_ext (of_decide_eq_true h)]
  all_goals first | rfl | cases h
theorem eqA0_ok {a b : AV} (h : eqA0 a b = true) : a = b := by
  unfold eqA0 at h
  split at h
  · rw [eqV_ok h]
  · simp only [Bool.and_eq_true] at h; rw [beq_eq h.1, beq_eq h.2]
  · simp only [Bool.and_eq_true] at h
    rename_i e _ _ _ _ _ f
    rw [beq_eq h.1, beq_eq h.2.1, beq_eq h.2.2.1, beq_eq h.2.2.2.1, beq_eq h.2.2.2.2.1]
    have := h.2.2.2.2.2
    cases e <;> cases f <;> first | rfl | cases this
  · rw [beq_eq h]
  · cases h
theorem eqL_ok : ∀ {a b : List AV}, eqL a b = true → a = b := by
  intro a
  induction a with
  | nil => intro b h; cases b <;> first | rfl | cases h
  | cons x a ih =>
    intro b h
    cases b with
    | nil => cases h
    | cons y b =>
      change (eqA0 x y && eqL a b) = true at h
      simp only [Bool.and_eq_true] at h
      rw [eqA0_ok h.1, ih h.2]
theorem eqW_ok : ∀ {a b : List Value}, eqW a b = true → a = b := by
  intro a
  induction a with
  | nil => intro b h; cases b <;> first | rfl | cases h
  | cons x a ih =>
    intro b h
    cases b with
    | nil => cases h
    | cons y b =>
      change (eqV x y && eqW a b) = true at h
      simp only [Bool.and_eq_true] at h
      rw [eqV_ok h.1, ih h.2]
theorem eqKey_ok {a b : Value} (h : eqKey a b = true) : a = b := by
  unfold eqKey at h
  split at h
  · rename_i a b
    have := eqW_ok h
    rw [show a = b from Array.ext' this]
  · exact eqV_ok h
theorem eqA_ok {a b : AV} (h : eqA a b = true) : a = b := by
  unfold eqA at h
  split at h
  · rw [eqL_ok h]
  · rw [eqKey_ok h]
  · exact eqA0_ok h
theorem eqEs_ok : ∀ {a b : List (Value × AV × Nat)}, eqEs a b = true → a = b := by
  intro a
  induction a with
  | nil => intro b h; cases b <;> first | rfl | cases h
  | cons x a ih =>
    intro b h
    cases b with
    | nil => cases h
    | cons y b =>
      change (eqKey x.1 y.1 && (eqA x.2.1 y.2.1 && (Nat.beq x.2.2 y.2.2 && eqEs a b))) = true at h
      simp only [Bool.and_eq_true] at h
      obtain ⟨x1, x2, x3⟩ := x
      obtain ⟨y1, y2, y3⟩ := y
      simp only at h
      rw [eqKey_ok h.1, eqA_ok h.2.1, beq_eq h.2.2.1, ih h.2.2.2]
theorem eqB_ok {a b : Blk} (h : eqB a b = true) : a = b := by
  unfold eqB at h
  split at h
  · rw [eqL_ok h]
  · simp only [Bool.and_eq_true] at h; rw [eqEs_ok h.1, beq_eq h.2]
  · cases h

/-! ### what an operation that is no act leaves -/
theorem quiet_form {P : Program} {call : CallE} {env : T AV} {h : Heap} {n : Nat} {ty : TypeId} {op : Op} {y : Res} (ha : actE op = false) (e : opE op P call env h n ty = some y) :
    (y.h = h ∧ y.n = n) ∨ ∃ b, y.h = h.put n (some b) ∧ y.n = n + 1 := by
  cases op <;> first | (cases ha; done) | (cases e; done) | skip
  case call c =>
    change mCall c P call env h n ty = some y at e
    change calleeAct c.callee = false at ha
    unfold mCall at e
    cases hf : c.callee with
    | value f => rw [hf] at ha; cases ha
    | invoke x m => rw [hf] at ha; cases ha
    | builtin b =>
      rw [hf] at ha e
      obtain ⟨f, h1, e⟩ := bnd_some e
      obtain ⟨vs, h2, e⟩ := bnd_some e
      cases b <;> first | (cases ha; done) | skip
      case len =>
        cases h1
        obtain ⟨t, tl, _, e⟩ := one1_some e
        obtain ⟨x, vl, _, e⟩ := one1_some e
        rcases orE_some e with e | e
        · obtain ⟨_, _, e⟩ := bnd_some e; obtain ⟨_, _, e⟩ := bnd_some e; cases e; exact .inl ⟨rfl, rfl⟩
        rcases orE_some e with e | e
        · obtain ⟨_, _, e⟩ := bnd_some e; obtain ⟨_, _, e⟩ := bnd_some e; obtain ⟨_, _, e⟩ := bnd_some e; cases e; exact .inl ⟨rfl, rfl⟩
        · obtain ⟨_, _, e⟩ := bnd_some e; obtain ⟨_, _, e⟩ := bnd_some e; cases e; exact .inl ⟨rfl, rfl⟩
      case max => cases h1; obtain ⟨_, _, e⟩ := bnd_some e; obtain ⟨_, _, e⟩ := bnd_some e; cases e; exact .inl ⟨rfl, rfl⟩
      case min => cases h1; obtain ⟨_, _, e⟩ := bnd_some e; obtain ⟨_, _, e⟩ := bnd_some e; cases e; exact .inl ⟨rfl, rfl⟩
  case makeMap t x =>
    cases x with
    | none => cases e; exact .inr ⟨_, rfl, rfl⟩
    | some x => cases e
  case build t ps =>
    obtain ⟨_, _, e⟩ := bnd_some e
    obtain ⟨_, _, e⟩ := bnd_some e
    rcases orE_some e with e | e
    · obtain ⟨_, _, e⟩ := bnd_some e; obtain ⟨_, e⟩ := iff_some e; obtain ⟨_, _, e⟩ := bnd_some e; cases e; exact .inl ⟨rfl, rfl⟩
    · obtain ⟨_, _, e⟩ := bnd_some e; obtain ⟨_, _, e⟩ := bnd_some e; cases e; exact .inl ⟨rfl, rfl⟩
  case move => obtain ⟨_, _, e⟩ := bnd_some e; cases e; exact .inl ⟨rfl, rfl⟩
  case assign => obtain ⟨_, _, e⟩ := bnd_some e; cases e; exact .inl ⟨rfl, rfl⟩
  case pick => obtain ⟨_, _, e⟩ := bnd_some e; obtain ⟨_, _, e⟩ := bnd_some e; obtain ⟨_, _, e⟩ := bnd_some e; cases e; exact .inl ⟨rfl, rfl⟩
  case alloc => obtain ⟨_, _, e⟩ := bnd_some e; cases e; exact .inr ⟨_, rfl, rfl⟩
  case box => obtain ⟨_, _, e⟩ := bnd_some e; cases e; exact .inr ⟨_, rfl, rfl⟩
  case buildSlice => obtain ⟨_, _, e⟩ := bnd_some e; obtain ⟨_, _, e⟩ := bnd_some e; obtain ⟨_, e⟩ := iff_some e; obtain ⟨_, _, e⟩ := bnd_some e; obtain ⟨_, _, e⟩ := bnd_some e; cases e; exact .inr ⟨_, rfl, rfl⟩
  case load => obtain ⟨_, _, e⟩ := bnd_some e; obtain ⟨_, _, e⟩ := bnd_some e; obtain ⟨_, _, e⟩ := bnd_some e; obtain ⟨_, _, e⟩ := bnd_some e; obtain ⟨_, _, e⟩ := bnd_some e; obtain ⟨_, _, e⟩ := bnd_some e; cases e; exact .inl ⟨rfl, rfl⟩
  case nilCheck => obtain ⟨_, _, e⟩ := bnd_some e; obtain ⟨_, _, e⟩ := bnd_some e; cases e; exact .inl ⟨rfl, rfl⟩
  case binOp =>
    obtain ⟨_, _, e⟩ := bnd_some e; obtain ⟨_, _, e⟩ := bnd_some e
    rcases orE_some e with e | e
    · obtain ⟨_, _, e⟩ := bnd_some e; obtain ⟨_, _, e⟩ := bnd_some e; obtain ⟨_, _, e⟩ := bnd_some e; cases e; exact .inl ⟨rfl, rfl⟩
    · obtain ⟨_, _, e⟩ := bnd_some e; obtain ⟨_, _, e⟩ := bnd_some e; obtain ⟨_, e⟩ := iff_some e; obtain ⟨_, _, e⟩ := bnd_some e; cases e; exact .inl ⟨rfl, rfl⟩
  case unOp => obtain ⟨_, _, e⟩ := bnd_some e; obtain ⟨_, _, e⟩ := bnd_some e; obtain ⟨_, _, e⟩ := bnd_some e; cases e; exact .inl ⟨rfl, rfl⟩
  case convert => obtain ⟨_, _, e⟩ := bnd_some e; obtain ⟨_, _, e⟩ := bnd_some e; obtain ⟨_, _, e⟩ := bnd_some e; cases e; exact .inl ⟨rfl, rfl⟩
  case makeFunc => obtain ⟨_, _, e⟩ := bnd_some e; obtain ⟨_, _, e⟩ := bnd_some e; cases e; exact .inl ⟨rfl, rfl⟩
  case makeSlice => obtain ⟨_, _, e⟩ := bnd_some e; obtain ⟨_, _, e⟩ := bnd_some e; obtain ⟨_, _, e⟩ := bnd_some e; obtain ⟨_, _, e⟩ := bnd_some e; obtain ⟨_, _, e⟩ := bnd_some e; obtain ⟨_, _, e⟩ := bnd_some e; obtain ⟨_, _, e⟩ := bnd_some e; obtain ⟨_, e⟩ := iff_some e; cases e; exact .inr ⟨_, rfl, rfl⟩
  case slice =>
    obtain ⟨_, _, e⟩ := bnd_some e; obtain ⟨_, _, e⟩ := bnd_some e; obtain ⟨_, _, e⟩ := bnd_some e; obtain ⟨_, _, e⟩ := bnd_some e; obtain ⟨_, _, e⟩ := bnd_some e; obtain ⟨_, e⟩ := iff_some e
    rcases orE_some e with e | e
    · obtain ⟨_, _, e⟩ := bnd_some e; obtain ⟨_, e⟩ := iff_some e; cases e; exact .inl ⟨rfl, rfl⟩
    · obtain ⟨_, _, e⟩ := bnd_some e; obtain ⟨_, e⟩ := iff_some e; cases e; exact .inl ⟨rfl, rfl⟩
  case fieldAddr => obtain ⟨_, _, e⟩ := bnd_some e; obtain ⟨_, _, e⟩ := bnd_some e; obtain ⟨_, _, e⟩ := bnd_some e; obtain ⟨_, e⟩ := iff_some e; cases e; exact .inl ⟨rfl, rfl⟩
  case field => obtain ⟨_, _, e⟩ := bnd_some e; obtain ⟨_, _, e⟩ := bnd_some e; obtain ⟨_, _, e⟩ := bnd_some e; obtain ⟨_, _, e⟩ := bnd_some e; cases e; exact .inl ⟨rfl, rfl⟩
  case indexAddr =>
    obtain ⟨_, _, e⟩ := bnd_some e; obtain ⟨_, _, e⟩ := bnd_some e; obtain ⟨_, _, e⟩ := bnd_some e
    rcases orE_some e with e | e
    · obtain ⟨_, _, e⟩ := bnd_some e; obtain ⟨_, _, e⟩ := bnd_some e; obtain ⟨_, e⟩ := iff_some e; cases e; exact .inl ⟨rfl, rfl⟩
    · obtain ⟨_, _, e⟩ := bnd_some e; obtain ⟨_, _, e⟩ := bnd_some e; obtain ⟨_, e⟩ := iff_some e; cases e; exact .inl ⟨rfl, rfl⟩
  case index =>
    obtain ⟨_, _, e⟩ := bnd_some e; obtain ⟨_, _, e⟩ := bnd_some e
    rcases orE_some e with e | e
    · obtain ⟨_, _, e⟩ := bnd_some e; obtain ⟨_, _, e⟩ := bnd_some e; obtain ⟨_, _, e⟩ := bnd_some e; obtain ⟨_, _, e⟩ := bnd_some e; cases e; exact .inl ⟨rfl, rfl⟩
    · obtain ⟨_, _, e⟩ := bnd_some e; obtain ⟨_, _, e⟩ := bnd_some e; obtain ⟨_, _, e⟩ := bnd_some e; obtain ⟨_, _, e⟩ := bnd_some e; obtain ⟨_, e⟩ := iff_some e; obtain ⟨_, _, e⟩ := bnd_some e; cases e; exact .inl ⟨rfl, rfl⟩
  case lookup => obtain ⟨_, _, e⟩ := bnd_some e; obtain ⟨_, _, e⟩ := bnd_some e; obtain ⟨_, _, e⟩ := bnd_some e; obtain ⟨_, _, e⟩ := bnd_some e; obtain ⟨_, _, e⟩ := bnd_some e; obtain ⟨_, _, e⟩ := bnd_some e; obtain ⟨_, _, e⟩ := bnd_some e; cases e; exact .inl ⟨rfl, rfl⟩
  case extract => obtain ⟨_, _, e⟩ := bnd_some e; obtain ⟨_, _, e⟩ := bnd_some e; obtain ⟨_, _, e⟩ := bnd_some e; cases e; exact .inl ⟨rfl, rfl⟩

/-! ### the run, step by step -/
section
variable {P : Program} {call : CallE} {N : Nat} {os : List Oper}

def Wanted (os : List Oper) (e : T AV) (o : Oper) : Prop := o.guard = none ∨ ∃ g, o.guard = some g ∧ wantE os e g = some true
/-- A step. -/
inductive StepIs (P : Program) (call : CallE) (N : Nat) (os : List Oper) (s : SOp) (r : Run) : Run → AV → Prop
  | idle {g : Nat × Bool} {env : T AV} : s.o.guard = some g → wantE os (envE r.env s.looks) g = some false → putE N r.env s.o.dst (.dat undef) = some env →
      StepIs P call N os s r ⟨env, r.h, r.n, r.acts, r.reads, r.news⟩ (.dat undef)
  | quiet {x : Res} {env : T AV} : Wanted os (envE r.env s.looks) s.o → s.act = false →
      opE s.o.op P call (envE r.env s.looks) (tinyE r s.pre (readsE (envE r.env s.looks) s.o.op)) r.n s.o.type = some x → x.n = r.n → putE N r.env s.o.dst x.v = some env →
      StepIs P call N os s r ⟨env, r.h, r.n, r.acts, readL s.k s.pre r (readsE (envE r.env s.looks) s.o.op), r.news⟩ x.v
  | new {x : Res} {env : T AV} {b : Blk} : Wanted os (envE r.env s.looks) s.o → s.act = false →
      opE s.o.op P call (envE r.env s.looks) (tinyE r s.pre (readsE (envE r.env s.looks) s.o.op)) r.n s.o.type = some x → x.n = r.n + 1 → x.h.get r.n = some b →
      putE N r.env s.o.dst x.v = some env →
      StepIs P call N os s r ⟨env, r.h, r.n + 1, r.acts, readL s.k s.pre r (readsE (envE r.env s.looks) s.o.op), ⟨s.k, r.n, b⟩ :: r.news⟩ x.v
  | act {x : Res} {env : T AV} : Wanted os (envE r.env s.looks) s.o → s.act = true →
      opE s.o.op P call (envE r.env s.looks) (mergeE (pendE r) s.pre r.h) r.n s.o.type = some x → r.n ≤ x.n → putE N r.env s.o.dst x.v = some env →
      StepIs P call N os s r ⟨env, x.h, x.n, ⟨s.k, s.pre, x.h⟩ :: r.acts, r.reads, r.news⟩ x.v
theorem goR_is {s : SOp} {r r' : Run} (hw : Wanted os (envE r.env s.looks) s.o) (e : goR P call N s r (envE r.env s.looks) = some r') : ∃ v, StepIs P call N os s r r' v := by
  unfold goR at e
  cases ha : s.act with
  | false =>
    rw [ha] at e
    obtain ⟨x, h1, e⟩ := bnd_some e
    obtain ⟨env, h2, e⟩ := bnd_some e
    cases hb : Nat.beq x.n r.n with
    | true => rw [hb] at e; cases e; rw [beq_eq hb]; exact ⟨_, .quiet hw ha h1 (beq_eq hb) h2⟩
    | false =>
      rw [hb] at e
      obtain ⟨b, h3, e⟩ := bnd_some e
      obtain ⟨h4, e⟩ := iff_some e
      cases e
      rw [beq_eq h4]
      exact ⟨_, .new hw ha h1 (beq_eq h4) h3 h2⟩
  | true =>
    rw [ha] at e
    obtain ⟨x, h1, e⟩ := bnd_some e
    obtain ⟨h2, e⟩ := iff_some e
    obtain ⟨env, h3, e⟩ := bnd_some e
    cases e
    exact ⟨_, .act hw ha h1 (ble_le h2) h3⟩
theorem stepR_is {s : SOp} {r r' : Run} (e : stepR P call N os s r = some r') : ∃ v, StepIs P call N os s r r' v := by
  unfold stepR stepRE at e
  cases hg : s.o.guard with
  | none => rw [hg] at e; exact goR_is (.inl hg) e
  | some g =>
    rw [hg] at e
    obtain ⟨w, h1, e⟩ := bnd_some e
    cases w with
    | true => exact goR_is (.inr ⟨g, hg, h1⟩) e
    | false => obtain ⟨env, h2, e⟩ := bnd_some e; cases e; exact ⟨_, .idle hg h1 h2⟩
theorem run_seq : ∀ (l : List SOp) (r rf : Run), runE P call N os l r = some rf → ∃ (R : Nat → Run) (V : Nat → AV), R 0 = r ∧ R l.length = rf ∧
    ∀ (i : Nat) (s : SOp), l[i]? = some s → StepIs P call N os s (R i) (R (i + 1)) (V i) := by
  intro l
  induction l with
  | nil => intro r rf e; cases e; exact ⟨fun _ => r, fun _ => .dat undef, rfl, rfl, fun i s h => by simp at h⟩
  | cons s l ih =>
    intro r rf e
    obtain ⟨r1, h1, h2⟩ := bnd_some (show bnd (stepR P call N os s r) (runE P call N os l) = some rf from e)
    obtain ⟨v, hv⟩ := stepR_is h1
    obtain ⟨R, V, c1, c2, c3⟩ := ih r1 rf h2
    refine ⟨fun i => match i with | 0 => r | i + 1 => R i, fun i => match i with | 0 => v | i + 1 => V i, rfl, c2, fun i s' h => ?_⟩
    cases i with
    | zero => simp at h; subst h; show StepIs P call N os s r (R 0) v; rw [c1]; exact hv
    | succ i => exact c3 i s' (by simpa using h)
end
end Go.Proofs.YtcaeglnfflkabaaGreat.Ev
