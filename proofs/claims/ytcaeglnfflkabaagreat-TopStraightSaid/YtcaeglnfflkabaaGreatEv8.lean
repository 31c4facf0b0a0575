/- Regions that draw their order: a step. -/
import Derived.Test.YtcaeglnfflkabaaGreatEv7
namespace Go.Proofs.YtcaeglnfflkabaaGreat.Ev
section
variable {P : Program} {call : CallE} {N : Nat} {ops : Array Oper} {R : Nat → Run} {V : Nat → AV} {env0 : T AV} {h0 : Heap} {n0 : Nat}
variable {S : Nat → Prop} {D : List Deferred} {r0 : Ren} {hh : Nat → Option Blk} {nn : Nat} {w0 : World} {a : Go.Act} {w : World} {r : Ren} {p : Nat} {H : Nat → Option Blk}

theorem step_view {os : List Oper} {s : SOp} {q q' : Run} {v : AV} (st : StepIs P call N os s q q' v) :
    (∃ g, s.o.guard = some g ∧ wantE os (envE q.env s.looks) g = some false ∧ v = .dat undef ∧ q'.n = q.n ∧ q'.acts = q.acts ∧ q'.news = q.news) ∨
    (Wanted os (envE q.env s.looks) s.o ∧ s.act = false ∧ ∃ x, opE s.o.op P call (envE q.env s.looks) (tinyE q s.pre (readsE (envE q.env s.looks) s.o.op)) q.n s.o.type = some x ∧ x.v = v ∧ x.n = q'.n ∧
      ((x.n = q.n ∧ q'.news = q.news) ∨ ∃ b, x.n = q.n + 1 ∧ x.h.get q.n = some b ∧ q'.news = ⟨s.k, q.n, b⟩ :: q.news) ∧ q'.acts = q.acts ∧ q'.reads = readL s.k s.pre q (readsE (envE q.env s.looks) s.o.op)) ∨
    (Wanted os (envE q.env s.looks) s.o ∧ s.act = true ∧ ∃ x, opE s.o.op P call (envE q.env s.looks) (mergeE (pendE q) s.pre q.h) q.n s.o.type = some x ∧ x.v = v ∧ x.n = q'.n ∧ q'.h = x.h ∧
      q'.acts = ⟨s.k, s.pre, x.h⟩ :: q.acts ∧ q'.news = q.news) := by
  cases st with
  | idle h1 h2 _ => exact .inl ⟨_, h1, h2, rfl, rfl, rfl, rfl⟩
  | quiet h1 h2 h3 h4 _ => exact .inr (.inl ⟨h1, h2, _, h3, rfl, h4, .inl ⟨h4, rfl⟩, rfl, rfl⟩)
  | new h1 h2 h3 h4 h5 _ => exact .inr (.inl ⟨h1, h2, _, h3, rfl, h4, .inr ⟨_, h4, h5, rfl⟩, rfl, rfl⟩)
  | act h1 h2 h3 h4 _ => exact .inr (.inr ⟨h1, h2, _, h3, rfl, rfl, rfl, rfl, rfl⟩)

theorem Ran.no_act (c : Ran P call N ops env0 h0 n0 R V) {k : Nat} (hk : k < ops.size) (h : (R (k + 1)).acts = (R k).acts) : ∀ b ∈ (R ops.size).acts, b.k ≠ k := by
  intro b hb e
  obtain ⟨t, c1, c2⟩ := (c.grows (i := k + 1) (j := ops.size) hk (Nat.le_refl _)).acts
  rw [c1] at hb
  rcases List.mem_append.1 hb with hb | hb
  · have := c2 b hb; omega
  · rw [h] at hb; have := (c.act_is k (by omega) b hb).1; omega
theorem Ran.no_new (c : Ran P call N ops env0 h0 n0 R V) {k : Nat} (h : (R (k + 1)).news = (R k).news) : ∀ x ∈ (R ops.size).news, x.k ≠ k := by
  intro x hx e
  obtain ⟨_, s, _, _, _, _, d⟩ := c.new_is _ (Nat.le_refl _) x hx
  rw [e, h] at d
  have := congrArg List.length d
  simp at this
theorem pre_lt (hst : staticE (sops ops) = true) : ∀ (i : Nat) (s : SOp), (sops ops)[i]? = some s → ∀ j, hasB s.pre j = true → j < i := by
  intro i
  induction i using Nat.strongRecOn with
  | _ i ih =>
    intro s hs j hj
    have hp := place hs
    obtain ⟨e, e1, e2, e3⟩ := hp.pre j hj
    have hb := ((static_facts hst).2.2 s (List.mem_of_getElem? hs)).1
    have := List.all_eq_true.1 hb e e1
    rw [e2] at this
    simp only [Bool.not_true, Bool.false_or] at this
    have hlt := blt_lt this
    rw [hp.k] at hlt
    rcases e3 with e3 | ⟨s', c1, c2, c3⟩
    · omega
    · have := ih e.on c2 s' c1 j c3; omega

theorem wanted_true {s : SOp} (he : EnvRel r (envE (R p).env s.looks) a N) (h : Wanted ops.toList (envE (R p).env s.looks) s.o) : Region.wanted s.o (yielded ops a.tmps) = true := by
  rcases h with h | ⟨g, h1, h2⟩
  · simp [Region.wanted, h]
  · simp only [Region.wanted, h1]; exact want_ok he h2

theorem Inv.step (hc : CallsOk P call) (c : Ran P call N ops env0 h0 n0 R V) (v : Inv N ops R V env0 n0 S D r0 hh nn w0 a w r p H) (hnn : nn ≤ n0) (hd : Down ops S) {k : Nat} {s : SOp}
    (hs : (sops ops)[k]? = some s) (hS : ¬ S k) (hpre : ∀ j, hasB s.pre j = true → S j) {Q : Exit → Go.Act → World → Prop} {K : Go.Act → World → Prop}
    (hK : ∀ a' w' r' p' H', Inv N ops R V env0 n0 (Also S k) D r0 hh nn w0 a' w' r' p' H' → K a' w') : wpOp P ops Q k K a w := by
  have hk := sop_lt hs
  have ho : ops[k]? = some s.o := by rw [← Array.getElem?_toList]; exact (place hs).o
  have hsk := (place hs).k
  have henv := v.env c hd hs hS hpre
  have hfree := v.free c hk hS
  have hrep := v.post.rep
  unfold wpOp
  rw [ho]
  simp only
  rcases step_view (c.step k s hs) with ⟨g, g1, g2, g3, g4, g5, g6⟩ | ⟨g1, g2, x, g3, g4, g5, g6, g7, g8⟩ | ⟨g1, g2, x, g3, g4, g5, g6, g7, g8⟩
  · -- not wanted
    have hw : Region.wanted s.o (yielded ops a.tmps) = false := by simp only [Region.wanted, g1]; exact want_ok henv g2
    rw [if_neg (by rw [hw]; exact Bool.false_ne_true)]
    obtain ⟨s1, s2, s3⟩ := v.slots c hs hS (Ren.le.refl r) (x := undef) (by rw [g3]; exact .dat _)
    refine hK _ _ r p H ⟨s1, by rw [put_defers]; exact v.defers, fun t j u => s2 t j u, s3, v.ple, fun b hb => ?_, fun x hx hx2 => ?_, fun i hi => v.rest i fun x hx e hS' => hi x hx e (.inl hS'), v.post, v.named hk (.refl r _ _)⟩
    · have := c.no_act hk g5 b hb
      rw [← v.acts b hb]
      exact ⟨fun q => q.resolve_right this, .inl⟩
    · exact v.made x hx (hx2.resolve_right (c.no_new g6 x hx))
  · -- no act
    rw [if_pos (wanted_true henv g1)]
    refine .inl ?_
    let ids := readsE (envE (R k).env s.looks) s.o.op
    have hfound : ∀ i b, (tinyE (R k) s.pre ids).get i = some b → H i = some b := by
      intro i b e
      rw [tiny_get] at e
      by_cases hi : i ∈ ids
      · rw [if_pos hi] at e
        refine v.found c hd hs hS hpre ((c.grows (i := k + 1) (j := ops.size) hk (Nat.le_refl _)).reads _ ?_)
        rw [g8]; exact read_mem _ _ _ ids hi e
      · rw [if_neg hi] at e; cases e
    have hact : actE s.o.op = false := by rw [← (place hs).act]; exact g2
    have same : ∀ i, ¬ ((tinyE (R k) s.pre ids).get i = none ∧ H i ≠ none) → H i = (tinyE (R k) s.pre ids).get i := by
      intro i hn
      cases ht : (tinyE (R k) s.pre ids).get i with
      | some b => exact hfound i b ht
      | none => exact Classical.byContradiction fun q => hn ⟨ht, q⟩
    have hdo := opE_ok hc henv (hrep.sub hfound) g3 (by rw [g5]; exact hfree)
    refine hdo K Q fun z w' r' z1 z2 => ?_
    rw [g4] at z1
    rw [g5] at z2
    obtain ⟨s1, s2, s3⟩ := v.slots c hs hS z2.ext.1 z1
    have hacts : ∀ b ∈ (R ops.size).acts, (Also S k b.k ↔ b.k < p) := fun b hb => by
      have := c.no_act hk g7 b hb
      rw [← v.acts b hb]
      exact ⟨fun q => q.resolve_right this, .inl⟩
    rcases g6 with ⟨e1, e2⟩ | ⟨b, e1, e2, e3⟩
    · have hx : x.h = tinyE (R k) s.pre ids := by
        rcases quiet_form hact g3 with ⟨q1, _⟩ | ⟨_, _, q2⟩
        · exact q1
        · omega
      rw [hx] at z2
      have q := z2.frame hrep hfound hfree (hb' := H) (fun _ _ _ => rfl) same
      refine hK _ _ r' p H ⟨s1, by rw [put_defers]; exact v.defers, fun t j u => s2 t j u, s3, v.ple, hacts, fun x hx hx2 => v.made x hx (hx2.resolve_right (c.no_new e2 x hx)),
        fun i hi => v.rest i fun x hx e hS' => hi x hx e (.inl hS'), v.post' c hnn hk q, v.named hk q.ext⟩
    · have hx : x.h = (tinyE (R k) s.pre ids).put (R k).n (some b) := by
        rcases quiet_form hact g3 with ⟨_, q1⟩ | ⟨b', q1, _⟩
        · omega
        · rw [q1, T.get_put, if_pos rfl] at e2
          cases e2; exact q1
      rw [hx] at z2
      have hmem : (⟨s.k, (R k).n, b⟩ : New) ∈ (R ops.size).news := by
        obtain ⟨t, t1, _⟩ := (c.grows (i := k + 1) (j := ops.size) hk (Nat.le_refl _)).news
        rw [t1, e3]; exact List.mem_append_right _ List.mem_cons_self
      have hself : ∀ y ∈ (R ops.size).news, y.id = (R k).n → y = ⟨s.k, (R k).n, b⟩ := fun y hy e => c.new_eq hy hmem e
      have hnone : H (R k).n = none := by
        have h1 := v.rest (R k).n fun y hy e hS' => by
          have := hself y hy e
          rw [this] at hS'
          simp only [hsk] at hS'
          exact absurd hS' hS
        rw [h1]
        exact v.fresh c hmem (v.unm c hd (by simp only [hsk]; exact hS))
      have q := z2.frame hrep hfound hfree (hb' := fun i => if i = (R k).n then some b else H i) (fun i t1 t2 => by
        have : i ≠ (R k).n := by rintro rfl; exact t2 hnone
        simp only [if_neg this]) (fun i t1 => by
        rw [T.get_put]
        by_cases hi : i = (R k).n
        · simp only [if_pos hi]
        · simp only [if_neg hi]; exact same i t1)
      refine hK _ _ r' p _ ⟨s1, by rw [put_defers]; exact v.defers, fun t j u => s2 t j u, s3, v.ple, hacts, fun y hy hy2 hu => ?_, fun i hi => ?_, v.post' c hnn hk q, v.named hk q.ext⟩
      · by_cases hid : y.id = (R k).n
        · rw [hself y hy hid]; simp
        · simp only [if_neg hid]
          rcases hy2 with hy2 | hy2
          · exact v.made y hy hy2 hu
          · obtain ⟨_, _, _, _, q4, _⟩ := c.new_is _ (Nat.le_refl _) y hy
            rw [hy2] at q4; exact absurd q4 hid
      · have hi2 : i ≠ (R k).n := by
          rintro rfl
          have := hi _ hmem rfl (.inr hsk)
          rw [v.unm c hd (x := ⟨s.k, (R k).n, b⟩) (by simp only [hsk]; exact hS)] at this
          cases this
        simp only [if_neg hi2]
        exact v.rest i fun y hy e hS' => hi y hy e (.inl hS')
  · -- an act
    rw [if_pos (wanted_true henv g1)]
    refine .inl ?_
    have hchain := fun j s' (h : j < k) h1 h2 => (chain_fact (sops ops) 0 0 (fun i s h => by rw [(place h).k]; omega) (static_facts c.stat).1 k s hs g2).2 j s' h h1 h2
    have before : ∀ b ∈ (R ops.size).acts, b.k < k → S b.k := by
      intro b hb hlt
      obtain ⟨_, s', d1, d2, _⟩ := c.act_is _ (Nat.le_refl _) b hb
      have := hchain b.k s' hlt d1 d2
      rw [(place d1).k] at this
      exact hpre _ this
    have behind : ∀ b ∈ (R ops.size).acts, S b.k → b.k < k := by
      intro b hb hSb
      obtain ⟨_, s', d1, d2, _⟩ := c.act_is _ (Nat.le_refl _) b hb
      rcases Nat.lt_trichotomy b.k k with q | q | q
      · exact q
      · rw [q] at hSb; exact absurd hSb hS
      · have := (chain_fact (sops ops) 0 0 (fun i s h => by rw [(place h).k]; omega) (static_facts c.stat).1 b.k s' d1 d2).2 k s q hs g2
        rw [hsk] at this
        exact absurd (closed hd hSb d1 k this) hS
    have hacts : (R k).acts = (R p).acts := by
      rcases Nat.le_total p k with q | q
      · obtain ⟨t, t1, t2⟩ := (c.grows q (by omega)).acts
        cases t with
        | nil => simpa using t1
        | cons b t =>
          have hb := t2 b List.mem_cons_self
          have hmem : b ∈ (R ops.size).acts := by
            obtain ⟨u, u1, _⟩ := (c.grows (i := k) (j := ops.size) (by omega) (Nat.le_refl _)).acts
            rw [u1, t1]; exact List.mem_append_right _ (List.mem_append_left _ List.mem_cons_self)
          have := (v.acts b hmem).1 (before b hmem hb.2)
          omega
      · obtain ⟨t, t1, t2⟩ := (c.grows q v.ple).acts
        cases t with
        | nil => simpa using t1.symm
        | cons b t =>
          have hb := t2 b List.mem_cons_self
          have hmem : b ∈ (R ops.size).acts := by
            obtain ⟨u, u1, _⟩ := (c.grows (i := p) (j := ops.size) v.ple (Nat.le_refl _)).acts
            rw [u1, t1]; exact List.mem_append_right _ (List.mem_append_left _ List.mem_cons_self)
          have := behind b hmem ((v.acts b hmem).2 hb.2)
          omega
    have hheap : (R k).h = (R p).h := by rw [c.head k (by omega), c.head p v.ple, hacts]
    have hnews : ∀ y ∈ (R k).news, y ∈ (R ops.size).news := by
      intro y hy
      obtain ⟨t, t1, _⟩ := (c.grows (i := k) (j := ops.size) (by omega) (Nat.le_refl _)).news
      rw [t1]; exact List.mem_append_right _ hy
    have hnonew := c.no_new g8
    have hA : ∀ i b, (mergeE (pendE (R k)) s.pre (R k).h).get i = some b → H i = some b := by
      intro i b e
      rw [look_merge] at e
      rcases look_some e with ⟨y, y1, y2, y3, y4, y5⟩ | e
      · have := v.made y (hnews y y1) (hpre _ y4) (by rw [← hacts]; exact y2)
        rw [y3, y5] at this; exact this
      · rw [v.rest i fun y hy hid hSy => ?_, ← hheap]
        · exact e
        · cases hu : unmE (R p).acts y with
          | false => rfl
          | true =>
            have := v.fresh c hy hu
            rw [hid, ← hheap, e] at this; cases this
    have hdo := opE_ok hc henv (hrep.sub hA) g3 (by rw [g5]; exact hfree)
    refine hdo K Q fun z w' r' z1 z2 => ?_
    rw [g4] at z1
    rw [g5] at z2
    obtain ⟨s1, s2, s3⟩ := v.slots c hs hS z2.ext.1 z1
    have q := z2.frame hrep hA hfree (hb' := fun i => match (mergeE (pendE (R k)) s.pre (R k).h).get i, H i with | none, some b => some b | _, _ => x.h.get i)
      (fun i t1 t2 => by
        cases hH : H i with
        | none => exact absurd hH t2
        | some b => simp only [t1])
      (fun i t1 => by
        cases hm : (mergeE (pendE (R k)) s.pre (R k).h).get i with
        | some b => simp only
        | none =>
          cases hH : H i with
          | none => simp only
          | some b => exact absurd ⟨hm, by rw [hH]; exact Option.some_ne_none _⟩ t1)
    refine hK _ _ r' (k + 1) _ ⟨s1, by rw [put_defers]; exact v.defers, fun t j u => s2 t j u, s3, hk, fun b hb => ?_, fun y hy hy2 hu => ?_, fun i hi => ?_, v.post' c hnn hk q, v.named hk q.ext⟩
    · constructor
      · rintro (q | q)
        · have := behind b hb q; omega
        · omega
      · intro q
        rcases Nat.lt_or_ge b.k k with q1 | q1
        · exact .inl (before b hb q1)
        · exact .inr (by omega)
    · rw [g7, unm_cons] at hu
      simp only [Bool.and_eq_true, Bool.not_eq_true'] at hu
      have hSy : S y.k := hy2.resolve_right (hnonew y hy)
      have hm := v.made y hy hSy (by rw [← hacts]; exact hu.2)
      have hn : (mergeE (pendE (R k)) s.pre (R k).h).get y.id = none := by
        cases e : (mergeE (pendE (R k)) s.pre (R k).h).get y.id with
        | none => rfl
        | some b =>
          rw [look_merge] at e
          rcases look_some e with ⟨u, u1, u2, u3, u4, u5⟩ | e
          · have := c.new_eq (hnews u u1) hy u3
            subst this
            rw [u4] at hu; cases hu.1
          · have := v.fresh c hy (by rw [← hacts]; exact hu.2)
            rw [← hheap, e] at this; cases this
      simp only [hn, hm]
    · rw [g6]
      cases hm : (mergeE (pendE (R k)) s.pre (R k).h).get i with
      | some b => simp only
      | none =>
        cases hH : H i with
        | none => simp only
        | some b =>
          exfalso
          rw [look_merge] at hm
          have hf : findN (pendE (R k)) s.pre i = none := by
            unfold lookE at hm
            cases hq : findN (pendE (R k)) s.pre i with
            | none => rfl
            | some _ => rw [hq] at hm; cases hm
          have hh2 : (R k).h.get i = none := by
            unfold lookE at hm
            rw [hf] at hm; exact hm
          have := v.rest i fun y hy hid hSy => ?_
          · rw [hH, ← hheap, hh2] at this; cases this
          · cases hu : unmE (R p).acts y with
            | false => rfl
            | true =>
              have h1 := hi y hy hid (.inl hSy)
              rw [g7, unm_cons, hacts, hu, Bool.and_true] at h1
              have h2 : hasB s.pre y.k = true := by simpa using h1
              have h3 := c.new_early hy (pre_lt c.stat k s hs _ h2) (by omega)
              have h4 := findN_none hf y (List.mem_filter.2 ⟨h3, by rw [hacts]; exact hu⟩) hid
              rw [h2] at h4; cases h4
end
end Go.Proofs.YtcaeglnfflkabaaGreat.Ev

namespace Go.Proofs.YtcaeglnfflkabaaGreat.Ev
section
variable {P : Program} {call : CallE} {N : Nat} {ops : Array Oper} {R : Nat → Run} {V : Nat → AV} {env0 : T AV} {h0 : Heap} {n0 : Nat}
variable {D : List Deferred} {r0 : Ren} {hh : Nat → Option Blk} {nn : Nat} {w0 : World} {a : Go.Act} {w : World}

def Listed (l : Array Bool) : Nat → Prop := fun k => l.getD k false = true
theorem count_set : ∀ (l : List Bool) (i : Nat), l[i]? = some false → ((l.set i true).filter (!·)).length + 1 = (l.filter (!·)).length := by
  intro l
  induction l with
  | nil => intro i h; simp at h
  | cons b l ih =>
    intro i h
    cases i with
    | zero => simp at h; subst h; simp
    | succ i =>
      have := ih i (by simpa using h)
      cases b <;> simp <;> simpa using this
theorem listed_set {l : Array Bool} {i : Nat} (h : i < l.size) : Also (Listed l) i = Listed (l.setIfInBounds i true) := by
  funext k
  apply propext
  unfold Also Listed
  by_cases g : k = i
  · subst g; simp [h]
  · rw [getD_set_ne false (Ne.symm g)]
    exact ⟨fun q => q.resolve_right g, .inl⟩

theorem Inv.done (c : Ran P call N ops env0 h0 n0 R V) {S : Nat → Prop} (hS : ∀ k, k < ops.size → S k) {r : Ren} {p : Nat} {H : Nat → Option Blk} (v : Inv N ops R V env0 n0 S D r0 hh nn w0 a w r p H) (hnn : nn ≤ n0) :
    Stands N D r0 hh nn w0 (R ops.size).env (putsE (pendE (R ops.size)) (R ops.size).h) (R ops.size).n a w r := by
  have hacts : (R ops.size).acts = (R p).acts := by
    obtain ⟨t, c1, c2, _⟩ := v.split c
    cases t with
    | nil => simpa using c1
    | cons b t =>
      have hb : b ∈ (R ops.size).acts := by rw [c1]; exact List.mem_append_left _ List.mem_cons_self
      exact absurd (hS b.k (c.act_is _ (Nat.le_refl _) b hb).1) (c2 b List.mem_cons_self)
  have hheap : (R ops.size).h = (R p).h := by rw [c.head _ (Nat.le_refl _), c.head p v.ple, hacts]
  have hH : H = (putsE (pendE (R ops.size)) (R ops.size).h).get := by
    funext i
    rcases puts_get (R ops.size).h i (pendE (R ops.size)) with ⟨e1, e2⟩ | ⟨x, e1, e2, e3⟩
    · rw [e1, hheap]
      refine v.rest i fun x hx hid _ => ?_
      cases hu : unmE (R p).acts x with
      | false => rfl
      | true => exact absurd hid (e2 x (List.mem_filter.2 ⟨hx, by rw [hacts]; exact hu⟩))
    · have hx := List.mem_filter.1 e1
      have := v.made x hx.1 (hS x.k (c.new_is _ (Nat.le_refl _) x hx.1).1) (by rw [← hacts]; exact hx.2)
      rw [e3, ← this, e2]
  refine ⟨⟨v.size, fun t u e => ?_⟩, v.defers, by rw [← hH]; exact v.post, Nat.le_trans hnn (c.lo (Nat.le_refl _))⟩
  rcases c.slot t ops.size (Nat.le_refl _) with ⟨k, s, c1, c2, c3, c4⟩ | ⟨c1, c2⟩
  · rw [c4] at e; cases e
    exact v.slot1 t k s (hS k c1) c2 c3
  · rw [c2] at e
    exact v.slot0 t (fun k s _ hs => c1 k s (sop_lt hs) hs) u e

theorem all_listed (hst : staticE (sops ops) = true) {l : Array Bool} (hsz : l.size = ops.size) (hr : Region.ready .any ops l = []) : ∀ k, k < ops.size → Listed l k := by
  intro k
  induction k using Nat.strongRecOn with
  | _ k ih =>
    intro hk
    obtain ⟨s, hs⟩ := sop_at (ops := ops) k hk
    have ho : ops[k]? = some s.o := by rw [← Array.getElem?_toList]; exact (place hs).o
    apply Classical.byContradiction
    intro hn
    have hmem : k ∈ Region.ready .any ops l := by
      rw [mem_ready]
      refine ⟨?_, s.o, ho, fun e he hb => ?_⟩
      · unfold Listed at hn
        have hlt : k < l.size := by omega
        simp only [Array.getD, hlt, dif_pos] at hn ⊢
        simpa using hn
      · have h1 := ((static_facts hst).2.2 s (List.mem_of_getElem? hs)).1
        have := List.all_eq_true.1 h1 e (by simpa using he)
        have hb' : bindsE e = true := hb
        rw [hb'] at this
        simp only [Bool.not_true, Bool.false_or] at this
        have hlt := blt_lt this
        rw [(place hs).k] at hlt
        exact ih e.on hlt (by omega)
    rw [hr] at hmem; simp at hmem

theorem any_ok (hc : CallsOk P call) (c : Ran P call N ops env0 h0 n0 R V) (hnn : nn ≤ n0) {Q : Exit → Go.Act → World → Prop}
    (hQ : ∀ a w r, Stands N D r0 hh nn w0 (R ops.size).env (putsE (pendE (R ops.size)) (R ops.size).h) (R ops.size).n a w r → Q .normal a w) :
    ∀ (fuel : Nat) (l : Array Bool) (a : Go.Act) (w : World), l.size = ops.size → (l.toList.filter (!·)).length = fuel → Down ops (Listed l) →
      (∃ r p H, Inv N ops R V env0 n0 (Listed l) D r0 hh nn w0 a w r p H) → wpAny P .any ops Q fuel l a w := by
  have fin : ∀ (l : Array Bool) (a : Go.Act) (w : World), l.size = ops.size → (∃ r p H, Inv N ops R V env0 n0 (Listed l) D r0 hh nn w0 a w r p H) → Region.ready .any ops l = [] → Q .normal a w := by
    intro l a w hsz hv hr
    obtain ⟨r, p, H, v⟩ := hv
    exact hQ a w r (v.done c (all_listed c.stat hsz hr) hnn)
  intro fuel
  induction fuel with
  | zero =>
    intro l a w hsz hf hd hv
    have hr : Region.ready .any ops l = [] := by
      apply List.eq_nil_iff_forall_not_mem.2
      intro k hk
      rw [mem_ready] at hk
      obtain ⟨h1, o, h2, _⟩ := hk
      have hlt : k < l.size := by rw [hsz]; exact (Array.getElem?_eq_some_iff.1 h2).1
      have h3 : l.toList[k]? = some false := by
        simp only [Array.getD, hlt, dif_pos] at h1
        rw [Array.getElem?_toList, Array.getElem?_eq_getElem hlt]
        exact congrArg some h1
      have := count_set _ _ h3
      omega
    exact ⟨hr, fin l a w hsz hv hr⟩
  | succ fuel ih =>
    intro l a w hsz hf hd hv
    refine ⟨fin l a w hsz hv, fun k hk => ?_⟩
    rw [mem_ready] at hk
    obtain ⟨h1, o, h2, h3⟩ := hk
    have hlt : k < ops.size := (Array.getElem?_eq_some_iff.1 h2).1
    have hlt' : k < l.size := by omega
    have h4 : l.toList[k]? = some false := by
      simp only [Array.getD, hlt', dif_pos] at h1
      rw [Array.getElem?_toList, Array.getElem?_eq_getElem hlt']
      exact congrArg some h1
    obtain ⟨s, hs⟩ := sop_at (ops := ops) k hlt
    have ho : ops[k]? = some s.o := by rw [← Array.getElem?_toList]; exact (place hs).o
    rw [h2] at ho
    simp only [Option.some.injEq] at ho
    obtain ⟨r, p, H, v⟩ := hv
    have hS : ¬ Listed l k := by
      unfold Listed
      simp only [Array.getD, hlt', dif_pos] at h1 ⊢
      simpa using h1
    refine v.step hc c hnn hd hs hS (hd.pre k s hs (by rw [← ho]; exact h3)) fun a' w' r' p' H' v' => ?_
    rw [listed_set hlt'] at v'
    refine ih (l.setIfInBounds k true) a' w' (by simpa using hsz) ?_ ?_ ⟨r', p', H', v'⟩
    · have := count_set _ _ h4
      rw [Array.toList_setIfInBounds]
      omega
    · rw [← listed_set hlt']
      intro j o' hj ho' e he hb
      rcases hj with hj | rfl
      · exact .inl (hd j o' hj ho' e he hb)
      · rw [h2] at ho'; cases ho'
        exact .inl (h3 e he hb)

theorem drawn_ok (hm : P.follows .mixedOrders = true) (hc : CallsOk P call) (ops : Array Oper) {env : T AV} {h : Heap} {n : Nat} {s : St} (e : drawnE P call N ops.toList env h n = some s) : n ≤ s.n ∧
    ∀ id D r0 h0 n0 w0 a w r, Stands N D r0 h0 n0 w0 env h n a w r → Free r n s.n →
    (Code.region id ops true).wp P (fun e a' w' => e = .normal ∧ ∃ r', Stands N D r0 h0 n0 w0 s.env s.h s.n a' w' r') a w := by
  obtain ⟨l, h1, e⟩ := bnd_some e
  obtain ⟨rf, h2, e⟩ := bnd_some e
  obtain ⟨h3, e⟩ := iff_some e
  cases e
  obtain ⟨h4, h5⟩ := iff_some h1
  cases h5
  obtain ⟨R, V, q1, q2, q3⟩ := run_seq _ _ _ h2
  rw [sops_size] at q2
  subst q2
  simp only [Bool.and_eq_true, List.all_eq_true] at h3
  have c : Ran P call N ops env h n R V := ⟨q1, q3, h4, h3.1, h3.2⟩
  refine ⟨c.lo (Nat.le_refl _), fun id D r0 h0 n0 w0 a w r st fr => wp_region_any hm ?_⟩
  have hno : ∀ k, ¬ Listed (Array.replicate ops.size false) k := by
    intro k hk
    unfold Listed at hk
    by_cases g : k < ops.size
    · simp [Array.getD, g] at hk
    · simp [Array.getD, g] at hk
  refine any_ok hc c st.le (fun a' w' r' st' => ⟨rfl, r', st'⟩) ops.size _ a _ (by simp) (by simp) (fun k o hk => absurd hk (hno k)) ⟨r, 0, h.get, ?_⟩
  have hp : Post r h.get h.get n (R ops.size).n w { w with drawn := w.drawn + 1 } r := .same st.post.rep (fun _ _ e => e) rfl rfl rfl rfl
  refine ⟨st.env.size, st.defers, fun t k s hk => absurd hk (hno k), fun t _ v hv => st.env.get t v hv, Nat.zero_le _, fun b _ => ⟨fun hb => absurd hb (hno _), fun hb => absurd hb (Nat.not_lt_zero _)⟩,
    fun x _ hx => absurd hx (hno _), fun i _ => by rw [c.init], (st.post.widen (Nat.le_refl _) (c.lo (Nat.le_refl _))).join (hp.widen st.le (Nat.le_refl _)), fun i i1 i2 i3 => absurd (fr i i1 i2) i3⟩

theorem regE_ok (hm : P.follows .mixedOrders = true) (hc : CallsOk P call) (N : Nat) : RegOk P N (regE P call N) := by
  intro ops draw env h n s e
  cases draw with
  | false => exact plain_ok hc ops e
  | true => exact drawn_ok hm hc ops e
/-- What is reckoned of a call, holds. -/
theorem reckoned (hm : P.follows .mixedOrders = true) (fuel d : Nat) : CallsOk P (callE P fuel (regE P) d) := callE_ok (fun _ hc N => regE_ok hm hc N) d
end
end Go.Proofs.YtcaeglnfflkabaaGreat.Ev

namespace Go.Proofs.YtcaeglnfflkabaaGreat.Ev
section
variable {P : Program} {N : Nat}

/-- `s'` says less than `s`. -/
structure Less (s s' : St) : Prop where
  env : ∀ t v, s'.env.get t = some v → s.env.get t = some v
  h : ∀ i b, s'.h.get i = some b → s.h.get i = some b
  n : s'.n = s.n
theorem Stands.less {D : List Deferred} {r0 : Ren} {h0 : Nat → Option Blk} {n0 : Nat} {w0 : World} {s s' : St} {a : Go.Act} {w : World} {r : Ren} (l : Less s s')
    (st : Stands N D r0 h0 n0 w0 s.env s.h s.n a w r) : Stands N D r0 h0 n0 w0 s'.env s'.h s'.n a w r := by
  refine ⟨⟨st.env.size, fun t v e => st.env.get t v (l.env t v e)⟩, st.defers, ?_, by rw [l.n]; exact st.le⟩
  rw [l.n]
  exact st.post.trans (.same (n := s.n) st.post.rep l.h rfl rfl rfl rfl) st.le (Nat.le_refl _)
theorem CodeOk.less {c : Code} {env : T AV} {h : Heap} {n : Nat} {x : ExSt} {s : St} (k : CodeOk P N c env h n x) (l : Less x.s s) : CodeOk P N c env h n ⟨x.e, s⟩ := by
  refine ⟨by show n ≤ s.n; rw [l.n]; exact k.1, fun D r0 h0 n0 w0 a w r st fr => ?_⟩
  have fr' : Free r n x.s.n := by have : s.n = x.s.n := l.n; rw [← this]; exact fr
  have conv : ∀ e a' w', CodePost N D r0 h0 n0 w0 x e a' w' → CodePost N D r0 h0 n0 w0 ⟨x.e, s⟩ e a' w' := by
    intro e a' w' he
    obtain ⟨e1, r', e2⟩ := he
    exact ⟨e1, r', e2.less l⟩
  obtain ⟨k1, k2⟩ := k.2 D r0 h0 n0 w0 a w r st fr'
  refine ⟨wp_mono k1 conv, fun c' hc b kk cs => ?_⟩
  obtain ⟨e, a', w', q1, q2⟩ := k2 c' hc b kk cs
  exact ⟨e, a', w', conv e a' w' q1, q2⟩
/-- A piece, and on. -/
theorem CodeOk.then_ {c : Code} {env : T AV} {h : Heap} {n : Nat} {s : St} {b : Code} {x : ExSt} (k : CodeOk P N c env h n ⟨.normal, s⟩) (k2 : CodeOk P N b s.env s.h s.n x) :
    n ≤ x.s.n ∧ ∀ D r0 h0 n0 w0 a w r, Stands N D r0 h0 n0 w0 env h n a w r → Free r n x.s.n →
      c.wp P (fun e a' w' => e = .normal ∧ ∃ r', Stands N D r0 h0 n0 w0 s.env s.h s.n a' w' r' ∧ Free r' s.n x.s.n) a w := by
  refine ⟨Nat.le_trans k.1 k2.1, fun D r0 h0 n0 w0 a w r st fr => ?_⟩
  refine wp_mono (k.2 D r h.get n w a w r ⟨st.env, st.defers, .refl st.post.rep, Nat.le_refl _⟩ (fr.less k2.1)).1 fun e' a' w' he => ?_
  obtain ⟨rfl, r', st'⟩ := he
  exact ⟨rfl, r', st.trans st', fr.later st'.post.ext st'.le⟩
theorem CodeOk.seq {c b : Code} {env : T AV} {h : Heap} {n : Nat} {s : St} {x : ExSt} (k : CodeOk P N c env h n ⟨.normal, s⟩) (k2 : CodeOk P N b s.env s.h s.n x) : CodeOk P N (.seq c b) env h n x := by
  obtain ⟨l1, l2⟩ := k.then_ k2
  refine ⟨l1, fun D r0 h0 n0 w0 a w r st fr => ⟨wp_seq (wp_mono (l2 D r0 h0 n0 w0 a w r st fr) fun e' a' w' he => ?_), fun c' h => by cases h⟩⟩
  obtain ⟨rfl, r', st', fr'⟩ := he
  exact (k2.2 D r0 h0 n0 w0 a' w' r' st' fr').1
theorem CodeOk.loop_more {c : Code} {env : T AV} {h : Heap} {n : Nat} {s : St} {x : ExSt} (k : CodeOk P N c env h n ⟨.normal, s⟩) (k2 : CodeOk P N (.loop c) s.env s.h s.n x) :
    CodeOk P N (.loop c) env h n x := by
  obtain ⟨l1, l2⟩ := k.then_ k2
  have key : ∀ D r0 h0 n0 w0 a w r, Stands N D r0 h0 n0 w0 env h n a w r → Free r n x.s.n → ∀ b kk cs, ∃ e a' w', CodePost N D r0 h0 n0 w0 x e a' w' ∧
      Arrives P (lone (b.at a (.code c :: .inLoop c :: kk)) cs w) b kk cs e a' w' := by
    intro D r0 h0 n0 w0 a w r st fr b kk cs
    obtain ⟨e', a1, w1, hq, harr⟩ := l2 D r0 h0 n0 w0 a w r st fr b (.inLoop c :: kk) cs
    obtain ⟨rfl, r', st', fr'⟩ := hq
    obtain ⟨e2, a2, w2, hq2, harr2⟩ := (k2.2 D r0 h0 n0 w0 a1 w1 r' st' fr').2 c rfl b kk cs
    exact ⟨e2, a2, w2, hq2, .of_steps (Steps.trans harr (.one step_inLoop)) harr2⟩
  refine ⟨l1, fun D r0 h0 n0 w0 a w r st fr => ⟨fun b kk cs => ?_, fun c' hc => by cases hc; exact key D r0 h0 n0 w0 a w r st fr⟩⟩
  obtain ⟨e', a', w', hq, harr⟩ := key D r0 h0 n0 w0 a w r st fr b kk cs
  exact ⟨e', a', w', hq, .of_steps (.one step_loop) harr⟩
theorem CodeOk.loop_out {c : Code} {env : T AV} {h : Heap} {n : Nat} {s : St} {i : Nat} (k : CodeOk P N c env h n ⟨.exit i, s⟩) : CodeOk P N (.loop c) env h n ⟨.exit i, s⟩ := by
  have key : ∀ D r0 h0 n0 w0 a w r, Stands N D r0 h0 n0 w0 env h n a w r → Free r n s.n → ∀ b kk cs, ∃ e a' w', CodePost N D r0 h0 n0 w0 ⟨.exit i, s⟩ e a' w' ∧
      Arrives P (lone (b.at a (.code c :: .inLoop c :: kk)) cs w) b kk cs e a' w' := by
    intro D r0 h0 n0 w0 a w r st fr b kk cs
    obtain ⟨e', a1, w1, hq, harr⟩ := (k.2 D r0 h0 n0 w0 a w r st fr).1 b (.inLoop c :: kk) cs
    obtain ⟨rfl, hr⟩ := hq
    exact ⟨.exit i, a1, w1, ⟨rfl, hr⟩, .pass (x := .inLoop c) rfl (fun _ _ => .inl (by simp)) harr⟩
  refine ⟨k.1, fun D r0 h0 n0 w0 a w r st fr => ⟨fun b kk cs => ?_, fun c' hc => by cases hc; exact key D r0 h0 n0 w0 a w r st fr⟩⟩
  obtain ⟨e', a', w', hq, harr⟩ := key D r0 h0 n0 w0 a w r st fr b kk cs
  exact ⟨e', a', w', hq, .of_steps (.one step_loop) harr⟩
theorem CodeOk.block {c : Code} {env : T AV} {h : Heap} {n : Nat} {s : St} {id : Nat} (k : CodeOk P N c env h n ⟨.exit id, s⟩) : CodeOk P N (.block id c) env h n ⟨.normal, s⟩ := by
  refine ⟨k.1, fun D r0 h0 n0 w0 a w r st fr => ⟨wp_block (wp_mono (k.2 D r0 h0 n0 w0 a w r st fr).1 fun e' a' w' he => ?_), fun c' h => by cases h⟩⟩
  obtain ⟨rfl, hr⟩ := he
  simp only [exOf, Exit.inBlock, if_true]
  exact ⟨rfl, hr⟩
end

/-! ### what the kernel looks at -/
noncomputable section
def treeOf {α : Type} (l : List (Nat × α)) : T α := List.rec .leaf (fun x _ t => t.put x.1 (some x.2)) l
theorem treeOf_get {α : Type} {i : Nat} {v : α} : ∀ (l : List (Nat × α)), (treeOf l).get i = some v → (i, v) ∈ l := by
  intro l
  induction l with
  | nil => intro h; change (T.leaf : T α).get i = some v at h; rw [T.get_leaf] at h; cases h
  | cons x l ih =>
    intro h
    change ((treeOf l).put x.1 (some x.2)).get i = some v at h
    rw [T.get_put] at h
    by_cases g : i = x.1
    · rw [if_pos g] at h; cases h; subst g; exact List.mem_cons_self
    · rw [if_neg g] at h; exact List.mem_cons_of_mem _ (ih h)
def eqE (a b : Ex) : Bool :=
  match a, b with
  | .normal, .normal => true
  | .ret, .ret => true
  | .exit i, .exit j => Nat.beq i j
  | _, _ => false
def sameEnv (env : T AV) (l : List (Nat × AV)) : Bool := l.all fun x => Option.rec false (eqA x.2) (env.get x.1)
def sameHeap (h : Heap) (l : List (Nat × Blk)) : Bool := l.all fun x => Option.rec false (eqB x.2) (h.get x.1)
/-- A run ends so, with these slots and these blocks. -/
def ends (x : Option ExSt) (e : Ex) (el : List (Nat × AV)) (hl : List (Nat × Blk)) (n : Nat) : Bool :=
  Option.rec false (fun x => eqE e x.e && (Nat.beq n x.s.n && (sameEnv x.s.env el && sameHeap x.s.h hl))) x
def stOf (el : List (Nat × AV)) (hl : List (Nat × Blk)) (n : Nat) : St := ⟨treeOf el, treeOf hl, n⟩
theorem eqE_ok {a b : Ex} (h : eqE a b = true) : a = b := by
  unfold eqE at h
  split at h <;> first | rfl | cases h | (rw [beq_eq h])
theorem ends_ok {P : Program} {N : Nat} {reg : RegE} (hreg : RegOk P N reg) {f : Nat} {c : Code} {s : St} {e : Ex} {el : List (Nat × AV)} {hl : List (Nat × Blk)} {n : Nat}
    (h : ends (codeE reg f c s.env s.h s.n) e el hl n = true) : CodeOk P N c s.env s.h s.n ⟨e, stOf el hl n⟩ := by
  unfold ends at h
  cases hx : codeE reg f c s.env s.h s.n with
  | none => rw [hx] at h; cases h
  | some x =>
    rw [hx] at h
    simp only [Bool.and_eq_true, sameEnv, sameHeap, List.all_eq_true] at h
    have k := (codeE_ok hreg f c _ _ _ _ hx).less (s := stOf el hl n) ⟨fun t v ht => ?_, fun i b hi => ?_, beq_eq h.2.1⟩
    · rw [eqE_ok h.1]; exact k
    · have := h.2.2.1 _ (treeOf_get el ht)
      simp only at this
      cases hg : x.s.env.get t with
      | none => rw [hg] at this; cases this
      | some u => rw [hg] at this; rw [eqA_ok this]
    · have := h.2.2.2 _ (treeOf_get hl hi)
      simp only at this
      cases hg : x.s.h.get i with
      | none => rw [hg] at this; cases this
      | some u => rw [hg] at this; rw [eqB_ok this]
end
end Go.Proofs.YtcaeglnfflkabaaGreat.Ev

namespace Go.Proofs.YtcaeglnfflkabaaGreat.Ev
section
variable {P : Program} {N : Nat}

/-- A function without arguments, whose body has been reckoned. -/
theorem call0 {f : FuncId} {fn : Func} {c : Code} {h : Heap} {n : Nat} {el : List (Nat × AV)} {t : Nat} {v : Value} (hf : P.funcs[f]? = some fn) (hb : fn.body = some c)
    (k : CodeOk P fn.ntmps c .leaf .leaf 0 ⟨.ret, ⟨treeOf el, h, n⟩⟩) (hr : fn.results = #[.tmp t]) (ht : (treeOf el).get t = some (.dat v)) (w : World) :
    Calls P f #[] w fun e w' => e = .returned v ∧ w'.os = w.os ∧ w'.tape = w.tape ∧ w'.output = w.output ∧ w.heap.size ≤ w'.heap.size ∧ ∀ B, B < w.heap.size → w'.heap[B]? = w.heap[B]? := by
  refine calls_of_wp hf hb ?_
  have hrep : Rep (fun _ => none) (T.leaf : Heap).get w := ⟨fun i b e => (by rw [T.get_leaf] at e; cases e), fun i j bi bj B o n o' n' e => (by rw [T.get_leaf] at e; cases e)⟩
  have henv : EnvRel (fun _ => none) (T.leaf : T AV) { tmps := #[] ++ Array.replicate (fn.ntmps - (#[] : Array Value).size) undef, defers := [] } fn.ntmps :=
    ⟨by simp, fun t v e => by rw [T.get_leaf] at e; cases e⟩
  refine wp_mono (k.2 [] _ _ 0 w _ w _ ⟨henv, rfl, .refl hrep, Nat.le_refl 0⟩ (fun i _ _ => rfl)).1 fun e' a' w' he => ?_
  obtain ⟨rfl, r', st⟩ := he
  obtain ⟨x, x1, x2⟩ := st.env.get t _ ht
  rw [dat_inv x2] at x1
  refine ⟨st.defers, v, ?_, rfl, st.post.keeps.os, st.post.keeps.tape, st.post.keeps.output, st.post.keeps.size, fun B hB => st.post.keeps.block B hB fun i b o k e => by rw [T.get_leaf] at e; cases e⟩
  rw [results_eq, hr]
  have hg : (getR a'.tmps (.tmp t)).run P w' = .ok v w' := by simp [getR, x1]
  simp only [Sem.run_bind, Array.mapM_eq_mapM_toList, Sem.run_map, List.mapM_cons, List.mapM_nil, hg, Result.andThen_ok, Sem.run_pure]
  rfl
end
end Go.Proofs.YtcaeglnfflkabaaGreat.Ev
