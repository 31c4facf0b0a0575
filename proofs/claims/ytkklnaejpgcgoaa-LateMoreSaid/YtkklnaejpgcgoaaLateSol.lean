/- Plain facts: the times are the one solution; how they grow; the slack. -/
import Derived.Test.YtkklnaejpgcgoaaLateTopo2
namespace Go.Proofs.Ytkklnaejpgcgoaa

/-- T keeps start and waits, and each event comes when one of them says -/
structure Sol (n : Nat) (l : List Wt) (start T : List Int) : Prop where
  len : T.length = n
  ge : ∀ i : Int, 0 ≤ i → i < n → at0 start i ≤ at0 T i
  wt : ∀ i : Int, 0 ≤ i → i < n → ∀ x ∈ l, x.to = i → at0 T x.frm + x.gap ≤ at0 T i
  eq : ∀ i : Int, 0 ≤ i → i < n → at0 T i = at0 start i ∨ ∃ x ∈ l, x.to = i ∧ at0 T i = at0 T x.frm + x.gap

/-- a complete order -/
structure Full (n : Nat) (l : List Wt) (o : List Int) : Prop where
  topo : Topo n l o
  len : o.length = n

/-- an induction along a complete order -/
theorem Full.ind {n : Nat} {l : List Wt} {o : List Int} (h : Full n l o) {P : Int → Prop} (step : ∀ i : Int, 0 ≤ i → i < n → (∀ x ∈ l, x.to = i → (0 ≤ x.frm ∧ x.frm < n) ∧ P x.frm) → P i) : ∀ i : Int, 0 ≤ i → i < n → P i := by
  have key : ∀ (k : Nat) (e : Int), o[k]? = some e → P e := by
    intro k
    induction k using Nat.strongRecOn with
    | _ k ih =>
      intro e he
      obtain ⟨e0, e1⟩ := h.topo.mem e (List.mem_of_getElem? he)
      refine step e e0 e1 (fun x hx hxt => ?_)
      obtain ⟨j, hj, hje⟩ := mem_take_get (h.topo.pre k e he x hx hxt)
      exact ⟨h.topo.mem _ (List.mem_of_getElem? hje), ih j hj _ hje⟩
  intro i i0 i1
  obtain ⟨k, hk⟩ := List.mem_iff_getElem?.1 (topo_all h.topo h.len i0 i1)
  exact key k i hk

theorem sol_le {n : Nat} {l l' : List Wt} {o start start' T T' : List Int} (hf : Full n l o) (h : Sol n l start T) (h' : Sol n l' start' T') (hl : ∀ x ∈ l, x ∈ l') (hs : ∀ i : Int, 0 ≤ i → i < n → at0 start i ≤ at0 start' i) :
    ∀ i : Int, 0 ≤ i → i < n → at0 T i ≤ at0 T' i := by
  refine hf.ind (fun i i0 i1 ih => ?_)
  rcases h.eq i i0 i1 with h1 | ⟨x, hx, hxt, h1⟩
  · have := hs i i0 i1; have := h'.ge i i0 i1; omega
  · have := (ih x hx hxt).2; have := h'.wt i i0 i1 x (hl x hx) hxt; omega

theorem list_ext {n : Nat} {T T' : List Int} (h : T.length = n) (h' : T'.length = n) (he : ∀ i : Int, 0 ≤ i → i < n → at0 T i = at0 T' i) : T = T' := by
  apply List.ext_getElem (by omega)
  intro k hk hk'
  have := he k (by omega) (by omega)
  unfold at0 at this
  simpa [List.getD, List.getElem?_eq_getElem hk, List.getElem?_eq_getElem hk'] using this

theorem sol_unique {n : Nat} {l : List Wt} {o start T T' : List Int} (hf : Full n l o) (h : Sol n l start T) (h' : Sol n l start T') : T = T' :=
  list_ext h.len h'.len (fun i i0 i1 => Int.le_antisymm (sol_le hf h h' (fun _ hx => hx) (fun _ _ _ => Int.le_refl _) i i0 i1) (sol_le hf h' h (fun _ hx => hx) (fun _ _ _ => Int.le_refl _) i i0 i1))

/-- one event's fold -/
theorem timeFold {n : Nat} {e : Int} (e0 : 0 ≤ e) (e1 : e < n) : ∀ (r : List Wt) (out : List Int), out.length = n → (∀ x ∈ r, x.to = e → x.frm ≠ e ∧ 0 ≤ x.frm) →
    (r.foldl (timeStep e) out).length = n ∧ (∀ i : Int, 0 ≤ i → i ≠ e → at0 (r.foldl (timeStep e) out) i = at0 out i) ∧ at0 out e ≤ at0 (r.foldl (timeStep e) out) e ∧
    (∀ x ∈ r, x.to = e → at0 out x.frm + x.gap ≤ at0 (r.foldl (timeStep e) out) e) ∧ (at0 (r.foldl (timeStep e) out) e = at0 out e ∨ ∃ x ∈ r, x.to = e ∧ at0 (r.foldl (timeStep e) out) e = at0 out x.frm + x.gap)
  | [], out, h, _ => ⟨h, fun _ _ _ => rfl, Int.le_refl _, by simp, .inl rfl⟩
  | x :: r, out, h, hr => by
    have hr' : ∀ y ∈ r, y.to = e → y.frm ≠ e ∧ 0 ≤ y.frm := fun y hy => hr y (by simp [hy])
    by_cases hx : x.to = e
    · obtain ⟨hx1, hx2⟩ := hr x (by simp) hx
      have hs : timeStep e out x = out.set e.toNat (max (at0 out e) (at0 out x.frm + x.gap)) := by unfold timeStep; rw [if_pos hx]
      obtain ⟨g1, g2, g3, g4, g5⟩ := timeFold e0 e1 r (timeStep e out x) (by rw [hs]; simpa using h) hr'
      have ho : ∀ i : Int, 0 ≤ i → at0 (timeStep e out x) i = if i = e then max (at0 out e) (at0 out x.frm + x.gap) else at0 out i := fun i i0 => by rw [hs]; exact at0_set out _ e0 (by omega) i0
      rw [ho e e0, if_pos rfl] at g3 g5
      refine ⟨g1, fun i i0 hi => by rw [List.foldl_cons, g2 i i0 hi, ho i i0, if_neg hi], by rw [List.foldl_cons]; omega, fun y hy hyt => ?_, ?_⟩
      · rw [List.foldl_cons]
        rcases List.mem_cons.1 hy with rfl | hy
        · omega
        · have := g4 y hy hyt
          rwa [ho y.frm (hr' y hy hyt).2, if_neg (hr' y hy hyt).1] at this
      · rw [List.foldl_cons]
        rcases g5 with g5 | ⟨y, hy, hyt, g5⟩
        · rcases Int.le_total (at0 out e) (at0 out x.frm + x.gap) with hm | hm
          · exact .inr ⟨x, by simp, hx, by omega⟩
          · exact .inl (by omega)
        · rw [ho y.frm (hr' y hy hyt).2, if_neg (hr' y hy hyt).1] at g5
          exact .inr ⟨y, by simp [hy], hyt, g5⟩
    · have hs : timeStep e out x = out := by unfold timeStep; rw [if_neg hx]
      obtain ⟨g1, g2, g3, g4, g5⟩ := timeFold e0 e1 r out h hr'
      rw [List.foldl_cons, hs]
      refine ⟨g1, g2, g3, fun y hy hyt => ?_, ?_⟩
      · rcases List.mem_cons.1 hy with rfl | hy
        · exact absurd hyt hx
        · exact g4 y hy hyt
      · rcases g5 with g5 | ⟨y, hy, hyt, g5⟩
        · exact .inl g5
        · exact .inr ⟨y, by simp [hy], hyt, g5⟩

/-- behind the first k events of the order -/
structure SolAt (n : Nat) (l : List Wt) (start : List Int) (dn : List Int) (T : List Int) : Prop where
  len : T.length = n
  old : ∀ i : Int, 0 ≤ i → i < n → i ∉ dn → at0 T i = at0 start i
  ge : ∀ i ∈ dn, at0 start i ≤ at0 T i
  wt : ∀ i ∈ dn, ∀ x ∈ l, x.to = i → at0 T x.frm + x.gap ≤ at0 T i
  eq : ∀ i ∈ dn, at0 T i = at0 start i ∨ ∃ x ∈ l, x.to = i ∧ at0 T i = at0 T x.frm + x.gap

theorem timesRun_sol_at {n : Nat} {l : List Wt} {o start : List Int} (ht : Topo n l o) (_hs : start.length = n) : ∀ (k : Nat) (T : List Int), k ≤ o.length → SolAt n l start (o.take k) T → SolAt n l start o (timesRun l (o.drop k) T) := by
  intro k
  obtain ⟨d, hd⟩ : ∃ d, d = o.length - k := ⟨_, rfl⟩
  induction d generalizing k with
  | zero =>
    intro T hk h
    rw [List.drop_eq_nil_of_le (by omega)]
    rw [List.take_of_length_le (by omega)] at h
    exact h
  | succ d ih =>
    intro T hk h
    have hkl : k < o.length := by omega
    have hd1 : d = o.length - (k + 1) := by omega
    have he : o[k]? = some o[k] := List.getElem?_eq_getElem hkl
    obtain ⟨e, hee⟩ : ∃ e, e = o[k] := ⟨_, rfl⟩
    rw [← hee] at he
    obtain ⟨e0, e1⟩ := ht.mem e (List.mem_of_getElem? he)
    have hne : e ∉ o.take k := by
      intro hm
      obtain ⟨j, hj, hje⟩ := mem_take_get hm
      have := (List.getElem?_inj (by omega : j < o.length) ht.nodup).1 (hje.trans he.symm)
      omega
    have hpre : ∀ x ∈ l, x.to = e → x.frm ≠ e ∧ 0 ≤ x.frm := fun x hx hxt => by
      have hm := ht.pre k e he x hx hxt
      exact ⟨fun hh => hne (hh ▸ hm), (ht.mem _ (List.mem_of_mem_take hm)).1⟩
    obtain ⟨g1, g2, g3, g4, g5⟩ := timeFold e0 e1 l T h.len hpre
    have htk : o.take (k + 1) = o.take k ++ [e] := by rw [List.take_add_one, he]; rfl
    rw [drop_cons he]
    refine ih (k + 1) hd1 (l.foldl (timeStep e) T) (by omega) ?_
    rw [htk]
    have hold : ∀ i ∈ o.take k, at0 (l.foldl (timeStep e) T) i = at0 T i := fun i hi => g2 i (ht.mem i (List.mem_of_mem_take hi)).1 (fun hh => hne (hh ▸ hi))
    have hpk : ∀ i ∈ o.take k, ∀ x ∈ l, x.to = i → x.frm ∈ o.take k := fun i hi x hx hxt => by
      obtain ⟨j, hj, hje⟩ := mem_take_get hi
      obtain ⟨j2, hj2, hje2⟩ := mem_take_get (ht.pre j i hje x hx hxt)
      exact List.mem_iff_getElem?.2 ⟨j2, by rw [List.getElem?_take_of_lt (by omega)]; exact hje2⟩
    refine ⟨g1, fun i i0 i1 hi => ?_, fun i hi => ?_, fun i hi x hx hxt => ?_, fun i hi => ?_⟩
    · simp only [List.mem_append, List.mem_singleton, not_or] at hi
      rw [g2 i i0 hi.2]; exact h.old i i0 i1 hi.1
    · rcases List.mem_append.1 hi with hi | hi
      · rw [hold i hi]; exact h.ge i hi
      · simp only [List.mem_singleton] at hi; subst hi
        rw [← h.old i e0 e1 hne]; exact g3
    · rcases List.mem_append.1 hi with hi | hi
      · rw [hold i hi, hold _ (hpk i hi x hx hxt)]; exact h.wt i hi x hx hxt
      · simp only [List.mem_singleton] at hi; subst hi
        rw [g2 x.frm (hpre x hx hxt).2 (hpre x hx hxt).1]; exact g4 x hx hxt
    · rcases List.mem_append.1 hi with hi | hi
      · rw [hold i hi]
        rcases h.eq i hi with h1 | ⟨x, hx, hxt, h1⟩
        · exact .inl h1
        · exact .inr ⟨x, hx, hxt, by rw [hold _ (hpk i hi x hx hxt)]; exact h1⟩
      · simp only [List.mem_singleton] at hi; subst hi
        rcases g5 with g5 | ⟨x, hx, hxt, g5⟩
        · exact .inl (by rw [g5, h.old i e0 e1 hne])
        · exact .inr ⟨x, hx, hxt, by rw [g5, g2 x.frm (hpre x hx hxt).2 (hpre x hx hxt).1]⟩

theorem timesRun_sol {n : Nat} {l : List Wt} {o start : List Int} (hf : Full n l o) (hs : start.length = n) : Sol n l start (timesRun l o start) := by
  have h := timesRun_sol_at hf.topo hs 0 start (Nat.zero_le _) ⟨hs, fun _ _ _ _ => rfl, by simp, by simp, by simp⟩
  rw [List.drop_zero] at h
  have ha : ∀ i : Int, 0 ≤ i → i < n → i ∈ o := fun i i0 i1 => topo_all hf.topo hf.len i0 i1
  exact ⟨h.len, fun i i0 i1 => h.ge i (ha i i0 i1), fun i i0 i1 => h.wt i (ha i i0 i1), fun i i0 i1 => h.eq i (ha i i0 i1)⟩

/-- two complete orders give the same times -/
theorem timesRun_same {n : Nat} {l : List Wt} {o o' start : List Int} (hf : Full n l o) (hf' : Full n l o') (hs : start.length = n) : timesRun l o start = timesRun l o' start :=
  sol_unique hf (timesRun_sol hf hs) (timesRun_sol hf' hs)

/-! The last times: the same over the turned waits, at the negated numbers. -/
def Wt.rev (x : Wt) : Wt := ⟨x.to, x.frm, x.gap⟩
def neg (xs : List Int) : List Int := xs.map (fun x => -x)
theorem at0_neg (xs : List Int) (i : Int) : at0 (neg xs) i = - at0 xs i := by
  unfold at0 neg
  simp only [List.getD, List.getElem?_map]
  cases xs[i.toNat]? <;> simp
theorem neg_set (xs : List Int) (i : Nat) (u : Int) : neg (xs.set i u) = (neg xs).set i (-u) := by simp [neg, List.map_set]
theorem neg_neg' (xs : List Int) : neg (neg xs) = xs := by simp [neg, Function.comp_def]
theorem slackStep_neg (e : Int) (last : List Int) (x : Wt) : neg (slackStep e last x) = timeStep e (neg last) x.rev := by
  unfold slackStep timeStep Wt.rev
  by_cases h : x.frm = e
  · rw [if_pos h, if_pos h, neg_set, at0_neg, at0_neg, h]; congr 1; dsimp only; omega
  · rw [if_neg h, if_neg h]
theorem slackFold_neg (e : Int) : ∀ (l : List Wt) (last : List Int), neg (l.foldl (slackStep e) last) = (l.map Wt.rev).foldl (timeStep e) (neg last)
  | [], _ => rfl
  | x :: r, last => by rw [List.foldl_cons, slackFold_neg e r, slackStep_neg]; rfl
theorem slackRun_neg (l : List Wt) (o : List Int) (last : List Int) : neg (slackRun l o last) = timesRun (l.map Wt.rev) o.reverse (neg last) := by
  unfold slackRun timesRun
  generalize o.reverse = o'
  induction o' generalizing last with
  | nil => rfl
  | cons e r ih => rw [List.foldl_cons, List.foldl_cons, ih, slackFold_neg]

theorem full_rev {n : Nat} {l : List Wt} {o : List Int} (hl : ∀ x ∈ l, 0 ≤ x.to ∧ x.to < n) (h : Full n l o) : Full n (l.map Wt.rev) o.reverse := by
  refine ⟨⟨(List.reverse_perm o).nodup_iff.2 h.topo.nodup, fun e he => h.topo.mem e (by simpa using he), fun k e hk x hx hxt => ?_⟩, by simpa using h.len⟩
  obtain ⟨y, hy, rfl⟩ := List.mem_map.1 hx
  simp only [Wt.rev] at hxt ⊢
  have hkl : k < o.length := by have := (List.getElem?_eq_some_iff.1 hk).1; simpa using this
  rw [List.getElem?_reverse hkl] at hk
  obtain ⟨y0, y1⟩ := hl y hy
  obtain ⟨j, hj⟩ := List.mem_iff_getElem?.1 (topo_all h.topo h.len y0 y1)
  obtain ⟨i, hi, hie⟩ := mem_take_get (h.topo.pre j y.to hj y hy rfl)
  have hin : i = o.length - 1 - k := (List.getElem?_inj (by have := (List.getElem?_eq_some_iff.1 hie).1; exact this) h.topo.nodup).1 (hie.trans (by rw [hxt]; exact hk.symm))
  have hjl : j < o.length := (List.getElem?_eq_some_iff.1 hj).1
  refine List.mem_iff_getElem?.2 ⟨o.length - 1 - j, ?_⟩
  rw [List.getElem?_take_of_lt (by omega), List.getElem?_reverse (by omega), show o.length - 1 - (o.length - 1 - j) = j from by omega]
  exact hj

theorem slackRun_same {n : Nat} {l : List Wt} {o o' due : List Int} (hl : ∀ x ∈ l, 0 ≤ x.to ∧ x.to < n) (hf : Full n l o) (hf' : Full n l o') (hs : due.length = n) : slackRun l o due = slackRun l o' due := by
  rw [← neg_neg' (slackRun l o due), ← neg_neg' (slackRun l o' due), slackRun_neg, slackRun_neg, timesRun_same (full_rev hl hf) (full_rev hl hf') (by simpa [neg] using hs)]

/-- what the last times keep -/
structure LastSol (n : Nat) (l : List Wt) (due L : List Int) : Prop where
  len : L.length = n
  le : ∀ i : Int, 0 ≤ i → i < n → at0 L i ≤ at0 due i
  wt : ∀ i : Int, 0 ≤ i → i < n → ∀ x ∈ l, x.frm = i → at0 L i ≤ at0 L x.to - x.gap
  eq : ∀ i : Int, 0 ≤ i → i < n → at0 L i = at0 due i ∨ ∃ x ∈ l, x.frm = i ∧ at0 L i = at0 L x.to - x.gap

theorem slackRun_sol {n : Nat} {l : List Wt} {o due : List Int} (hl : ∀ x ∈ l, 0 ≤ x.to ∧ x.to < n) (hf : Full n l o) (hs : due.length = n) : LastSol n l due (slackRun l o due) := by
  have h := timesRun_sol (start := neg due) (full_rev hl hf) (by simpa [neg] using hs)
  rw [← slackRun_neg] at h
  refine ⟨by have := h.len; simpa [neg] using this, fun i i0 i1 => ?_, fun i i0 i1 x hx hxf => ?_, fun i i0 i1 => ?_⟩
  · have := h.ge i i0 i1; rw [at0_neg, at0_neg] at this; omega
  · have := h.wt i i0 i1 x.rev (List.mem_map.2 ⟨x, hx, rfl⟩) hxf; rw [at0_neg, at0_neg] at this; simp only [Wt.rev] at this; omega
  · rcases h.eq i i0 i1 with h1 | ⟨y, hy, hyt, h1⟩
    · rw [at0_neg, at0_neg] at h1; exact .inl (by omega)
    · obtain ⟨x, hx, rfl⟩ := List.mem_map.1 hy
      rw [at0_neg, at0_neg] at h1; simp only [Wt.rev] at h1 hyt
      exact .inr ⟨x, hx, hyt, by omega⟩
end Go.Proofs.Ytkklnaejpgcgoaa
