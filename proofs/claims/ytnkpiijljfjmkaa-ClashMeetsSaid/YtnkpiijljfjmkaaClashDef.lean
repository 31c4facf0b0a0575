/- Roads and what packages road and clash and semaphoreref12 compute of them, in plain words. No condition. -/
import Derived.Test.YtnkpiijljfjmkaaPure
namespace Go.Proofs.Ytnkpiijljfjmkaa

structure Stp where
  e : Int
  i : Int
  o : Int
  deriving DecidableEq, Inhabited
structure Need where
  e : Int
  pos : Int
  deriving DecidableEq, Inhabited
structure Road where
  frm : Int
  to : Int
  fin : Int
  steps : List Stp
  needs : List Need
  guards : List Need
  zone : List Int
  holds : List Int
  bare : Bool
  deriving DecidableEq

def Road.elems (r : Road) : List Int := r.steps.map (·.e)
def Road.all (r : Road) : List Need := r.needs ++ r.guards
def meets (a b : List Int) : Bool := a.any fun x => decide (x ∈ b)
def clashes (n m : Need) : Bool := decide (n.e = m.e) && decide (n.pos ≠ m.pos)
def against (a b : List Need) : Bool := a.any fun n => b.any fun m => clashes n m
def lineNo (p : Plan) (e : Int) : Int := match lineOf p e with
  | none => -1
  | some q => q.1
def opposed (p : Plan) (s t : Stp) : Bool := decide (0 ≤ lineNo p s.e) && decide (lineNo p s.e = lineNo p t.e) && decide (lead p s.e s.i ≠ lead p t.e t.i)
def bothWays (p : Plan) (a b : List Stp) : Bool := a.any fun s => b.any fun t => opposed p s t
def why (p : Plan) (a b : Road) : Int :=
  if a.frm = b.frm then 1 else if meets a.elems b.elems then 2 else if meets a.elems b.zone || meets a.zone b.elems then 3 else if against a.all b.all then 4 else if bothWays p a.steps b.steps then 5 else 0

/-! roads from a signal on -/
def road0 (s : Int) : Road := ⟨s, 0, 0, [], [], [], [], [], false⟩
def addStep (r : Road) (s : Stp) (pos fin to : Int) : Road := ⟨r.frm, to, fin, r.steps ++ [s], r.needs ++ (if pos = 0 then [] else [⟨s.e, pos⟩]), [], [], [], false⟩
def onR (p : Plan) : Nat → Road → Port → List Int → List Road
  | 0, _, _, _ => []
  | f + 1, r, x, met => if x.e ∈ met then [] else if p.kind x.e = 4 then [addStep r ⟨x.e, x.n, -1⟩ 0 2 (-1)] else
    (outs p x.e x.n).flatMap fun w =>
      if 0 ≤ reads p ⟨x.e, w.out⟩ then [addStep r ⟨x.e, x.n, w.out⟩ w.pos 1 (reads p ⟨x.e, w.out⟩)]
      else match nextOf p ⟨x.e, w.out⟩ with
        | none => [addStep r ⟨x.e, x.n, w.out⟩ w.pos 3 (-1)]
        | some y => onR p f (addStep r ⟨x.e, x.n, w.out⟩ w.pos 0 (-1)) y (met ++ [x.e])
def ofR (p : Plan) (s : Int) : List Road := match sigAt p s with
  | none => []
  | some at_ => match nextOf p at_ with
    | none => []
    | some x => onR p 12 (road0 s) x [at_.e]
/-- semaphoreref12.All from signal number i on: none if there are too many -/
def allGo (p : Plan) : Nat → Nat → List Road → Option (List Road)
  | 0, _, out => some out
  | k + 1, i, out => if 64 < (out ++ ofR p (i : Int)).length then none else allGo p k (i + 1) (out ++ ofR p (i : Int))
def allR (p : Plan) : Option (List Road) := allGo p p.sigs.length 0 []

/-! ports beside a road, flanks -/
def sidePorts (p : Plan) (s : Stp) : List Port :=
  if p.kind s.e = 2 then [⟨s.e, 3 - max s.i s.o⟩]
  else if p.kind s.e = 3 then (if 2 ≤ s.i then [⟨s.e, 0⟩, ⟨s.e, 1⟩] else [⟨s.e, 2⟩, ⟨s.e, 3⟩])
  else []
def portsR (p : Plan) (r : Road) : List Port := r.steps.flatMap fun s => (sidePorts p s).filter fun x => (nextOf p x).isSome
structure Srch where
  r : Road
  met : List Port
  deriving DecidableEq
def Srch.put (s : Srch) (e : Int) : Srch :=
  if e ∈ s.r.zone then s else if 12 ≤ s.r.zone.length then { s with r := { s.r with bare := true } } else { s with r := { s.r with zone := s.r.zone ++ [e] } }
def Srch.puts (s : Srch) (e : Int) : Bool := decide (e ∈ s.r.zone) || decide (s.r.zone.length < 12)
def Srch.mark (s : Srch) (y : Port) : Srch := { s with met := s.met ++ [y] }
def Srch.hold (s : Srch) (k : Int) : Srch := if k ∈ s.r.holds then s else { s with r := { s.r with holds := s.r.holds ++ [k] } }
def Srch.guard (s : Srch) (n : Need) : Srch := if n ∈ s.r.guards then s else { s with r := { s.r with guards := s.r.guards ++ [n] } }
def Srch.strip (s : Srch) : Srch := { s with r := { s.r with bare := true } }
def goS (p : Plan) (come : Srch → Port → Srch) (s : Srch) (e n : Int) : Srch := match nextOf p ⟨e, n⟩ with
  | none => s
  | some y => come s y
def pointsS (p : Plan) (come : Srch → Port → Srch) (s : Srch) (y : Port) : Srch :=
  if y.n = 0 then (if s.puts y.e then goS p come (goS p come (s.put y.e) y.e 1) y.e 2 else s.put y.e)
  else if (⟨y.e, y.n⟩ : Need) ∉ s.r.needs ∧ (⟨y.e, y.n⟩ : Need) ∉ s.r.guards then s.guard ⟨y.e, 3 - y.n⟩
  else (if s.puts y.e then goS p come (s.put y.e) y.e 0 else s.put y.e)
def comeS (p : Plan) : Nat → Srch → Port → Srch
  | 0, s, _ => s
  | f + 1, s, y =>
    if y.e ∈ s.r.elems ∨ y ∈ s.met then s
    else if 0 ≤ reads p y ∧ p.hard = false then (s.mark y).hold (reads p y)
    else if p.kind y.e = 4 then (s.mark y).strip
    else if p.kind y.e = 2 then pointsS p (comeS p f) (s.mark y) y
    else if (s.mark y).puts y.e then goS p (comeS p f) ((s.mark y).put y.e) y.e ((fromRef p y.e y.n 0).getD 0) else (s.mark y).put y.e
def portNo (p : Plan) : Nat := 4 * p.elems.length
def flankGo (p : Plan) : List Port → Srch → Srch
  | [], s => s
  | x :: l, s => flankGo p l (goS p (comeS p (portNo p)) s x.e x.n)
def flank (p : Plan) (r : Road) : Road := (flankGo p (portsR p r) ⟨⟨r.frm, r.to, r.fin, r.steps, r.needs, [], [], [], false⟩, []⟩).r
def roadsOf (p : Plan) : Option (List Road) := (allR p).map fun l => l.map (flank p)

/-! how many there are -/
theorem outs_two (p : Plan) (e i : Int) : (outs p e i).length ≤ 2 := by
  unfold outs
  repeat' split
  all_goals simp
theorem onR_length (p : Plan) : ∀ (f : Nat) (r : Road) (x : Port) (met : List Int), (onR p f r x met).length ≤ 2 ^ f
  | 0, _, _, _ => by simp [onR]
  | f + 1, r, x, met => by
    have hp : 1 ≤ 2 ^ f := Nat.one_le_two_pow
    unfold onR
    split
    · simp
    · split
      · simp only [List.length_singleton]; exact Nat.one_le_two_pow
      · have key : ∀ (l : List Way) (g : Way → List Road), (∀ w, (g w).length ≤ 2 ^ f) → (l.flatMap g).length ≤ l.length * 2 ^ f := by
          intro l g hg
          induction l with
          | nil => simp
          | cons y t ih =>
            simp only [List.flatMap_cons, List.length_append, List.length_cons, Nat.succ_mul]
            have := hg y; omega
        refine Nat.le_trans (key _ _ fun w => ?_) ?_
        · split
          · simpa using hp
          · split
            · simpa using hp
            · exact onR_length p f _ _ _
        · rw [Nat.pow_succ, Nat.mul_comm]
          exact Nat.mul_le_mul_left _ (outs_two p x.e x.n)
theorem ofR_length (p : Plan) (s : Int) : (ofR p s).length ≤ 4096 := by
  unfold ofR
  split
  · simp
  · split
    · simp
    · exact onR_length p 12 _ _ _
theorem portsR_length (p : Plan) (r : Road) : (portsR p r).length ≤ 2 * r.steps.length := by
  unfold portsR
  induction r.steps with
  | nil => simp
  | cons s t ih =>
    simp only [List.flatMap_cons, List.length_append, List.length_cons]
    have h1 := List.length_filter_le (fun x => (nextOf p x).isSome) (sidePorts p s)
    have h2 : (sidePorts p s).length ≤ 2 := by unfold sidePorts; repeat' split
                                               all_goals simp
    omega
end Go.Proofs.Ytnkpiijljfjmkaa

/- What the search for a flank keeps: pure facts on comeS. No condition beyond the plan's ports. -/
namespace Go.Proofs.Ytnkpiijljfjmkaa

theorem nodup_sub_le {α : Type} [DecidableEq α] : ∀ (l m : List α), l.Nodup → (∀ x ∈ l, x ∈ m) → l.length ≤ m.length
  | [], _, _, _ => by simp
  | a :: t, m, h, hs => by
    rw [List.nodup_cons] at h
    have ha := hs a (by simp)
    have h1 := nodup_sub_le t (m.erase a) h.2 fun x hx => by
      have hne : x ≠ a := fun e => h.1 (e ▸ hx)
      exact (List.mem_erase_of_ne hne).2 (hs x (List.mem_cons_of_mem _ hx))
    rw [List.length_erase_of_mem ha] at h1
    have h2 : 0 < m.length := List.length_pos_of_mem ha
    simp only [List.length_cons]
    omega
/-- every port of the plan, and some more -/
def portsC (p : Plan) : List Port := (List.range p.elems.length).flatMap fun (e : Nat) => [⟨e, 0⟩, ⟨e, 1⟩, ⟨e, 2⟩, ⟨e, 3⟩]
theorem portsC_length (p : Plan) : (portsC p).length = portNo p := by
  unfold portsC portNo
  generalize p.elems.length = n
  induction n with
  | zero => rfl
  | succ n ih => rw [List.range_succ, List.flatMap_append, List.length_append, ih]; simp; omega
theorem mem_portsC {p : Plan} {x : Port} (h : isPort p x = true) : x ∈ portsC p := by
  unfold isPort at h
  simp only [Bool.and_eq_true, decide_eq_true_eq] at h
  obtain ⟨⟨⟨h1, h2⟩, h3⟩, h4⟩ := h
  have he : ∀ k : Int, ends k ≤ 4 := fun k => by unfold ends; repeat' split
                                                 all_goals omega
  have h5 := he (p.kind x.e)
  unfold portsC
  refine List.mem_flatMap.2 ⟨x.e.toNat, List.mem_range.2 (by omega), ?_⟩
  obtain ⟨e, n⟩ := x
  dsimp only at *
  have e1 : ((e.toNat : Nat) : Int) = e := by omega
  rw [e1]
  have : n = 0 ∨ n = 1 ∨ n = 2 ∨ n = 3 := by omega
  rcases this with rfl | rfl | rfl | rfl <;> simp
/-- how many ports are not met -/
def unmet (p : Plan) (met : List Port) : Nat := ((portsC p).filter fun x => decide (x ∉ met)).length
theorem filter_le {α : Type} {f g : α → Bool} (h : ∀ x, f x = true → g x = true) : ∀ l : List α, (l.filter f).length ≤ (l.filter g).length
  | [] => Nat.le_refl _
  | a :: t => by
    have ih := filter_le h t
    rw [List.filter_cons, List.filter_cons]
    split
    · rename_i hf
      rw [if_pos (h a hf)]; simpa using ih
    · split
      · simp only [List.length_cons]; omega
      · exact ih
theorem filter_lt {α : Type} {f g : α → Bool} (h : ∀ x, f x = true → g x = true) {y : α} (hy : g y = true) (hn : f y = false) : ∀ l : List α, y ∈ l → (l.filter f).length < (l.filter g).length
  | [], hm => by cases hm
  | a :: t, hm => by
    rw [List.filter_cons, List.filter_cons]
    by_cases ha : a = y
    · subst ha
      rw [if_neg (by simp [hn]), if_pos hy]
      have := filter_le h t
      simp only [List.length_cons]; omega
    · have ih := filter_lt h hy hn t (by rcases List.mem_cons.1 hm with e | e; exact absurd e.symm ha; exact e)
      split
      · rename_i hf
        rw [if_pos (h a hf)]; simpa using ih
      · split
        · simp only [List.length_cons]; omega
        · exact ih
theorem unmet_mono {p : Plan} {a b : List Port} (h : ∀ x ∈ a, x ∈ b) : unmet p b ≤ unmet p a := filter_le (fun x hx => by simp at hx ⊢; exact fun hc => hx (h x hc)) _
theorem unmet_mark {p : Plan} {a : List Port} {y : Port} (hy : y ∉ a) (hp : isPort p y = true) : unmet p (a ++ [y]) < unmet p a := by
  refine filter_lt (fun x hx => ?_) (y := y) (by simpa using hy) (by simp) _ (mem_portsC hp)
  simp at hx ⊢; exact hx.1
theorem unmet_le (p : Plan) (a : List Port) : unmet p a ≤ portNo p := by
  rw [← portsC_length]; exact List.length_filter_le _ _
/-- what holds of a search all along -/
structure SOk (p : Plan) (s : Srch) : Prop where
  nodup : s.met.Nodup
  ports : ∀ x ∈ s.met, isPort p x = true
  zone : s.r.zone.length ≤ 12
  holds : s.r.holds.length ≤ s.met.length
  guards : s.r.guards.length ≤ s.met.length
structure Grows (s t : Srch) : Prop where
  steps : t.r.steps = s.r.steps
  needs : t.r.needs = s.r.needs
  met : ∀ x ∈ s.met, x ∈ t.met
  zone : ∀ x ∈ s.r.zone, x ∈ t.r.zone
theorem Grows.refl (s : Srch) : Grows s s := ⟨rfl, rfl, fun _ h => h, fun _ h => h⟩
theorem Grows.trans {s t u : Srch} (h : Grows s t) (h2 : Grows t u) : Grows s u := ⟨h2.steps.trans h.steps, h2.needs.trans h.needs, fun x hx => h2.met x (h.met x hx), fun x hx => h2.zone x (h.zone x hx)⟩
theorem SOk.met_le {p : Plan} {s : Srch} (h : SOk p s) : s.met.length ≤ portNo p := by
  rw [← portsC_length]; exact nodup_sub_le _ _ h.nodup fun x hx => mem_portsC (h.ports x hx)
theorem SOk.put {p : Plan} {s : Srch} (h : SOk p s) (e : Int) : SOk p (s.put e) ∧ Grows s (s.put e) := by
  unfold Srch.put
  split
  · exact ⟨h, Grows.refl s⟩
  · split
    · exact ⟨⟨h.nodup, h.ports, h.zone, h.holds, h.guards⟩, ⟨rfl, rfl, fun _ h => h, fun _ h => h⟩⟩
    · exact ⟨⟨h.nodup, h.ports, by simp; omega, h.holds, h.guards⟩, ⟨rfl, rfl, fun _ h => h, fun x hx => by simp; exact .inl hx⟩⟩
theorem SOk.mark {p : Plan} {s : Srch} (h : SOk p s) {y : Port} (hy : y ∉ s.met) (hp : isPort p y = true) : SOk p (s.mark y) ∧ Grows s (s.mark y) ∧ s.r.holds.length + 1 ≤ (s.mark y).met.length ∧ s.r.guards.length + 1 ≤ (s.mark y).met.length := by
  have h1 := h.holds
  have h2 := h.guards
  refine ⟨⟨?_, ?_, h.zone, by simp [Srch.mark]; omega, by simp [Srch.mark]; omega⟩, ⟨rfl, rfl, fun x hx => by simp [Srch.mark]; exact .inl hx, fun _ h => h⟩, by simp [Srch.mark]; omega, by simp [Srch.mark]; omega⟩
  · show (s.met ++ [y]).Nodup
    rw [List.nodup_append]
    refine ⟨h.nodup, by simp, fun a ha b hb hab => ?_⟩
    simp at hb; subst hb; exact hy (hab ▸ ha)
  · intro x hx
    rcases List.mem_append.1 (show x ∈ s.met ++ [y] from hx) with hx | hx
    · exact h.ports x hx
    · simp at hx; subst hx; exact hp
theorem goS_ok {p : Plan} {come : Srch → Port → Srch} {f : Nat} (hn : ∀ x y, nextOf p x = some y → isPort p y = true) (hc : ∀ (s : Srch) (y : Port), SOk p s → isPort p y = true → unmet p s.met ≤ f → SOk p (come s y) ∧ Grows s (come s y))
    {s : Srch} (h : SOk p s) (hf : unmet p s.met ≤ f) (e n : Int) : SOk p (goS p come s e n) ∧ Grows s (goS p come s e n) := by
  unfold goS
  split
  · exact ⟨h, Grows.refl s⟩
  · rename_i y hy; exact hc s y h (hn _ _ hy) hf
theorem come_ok {p : Plan} (hn : ∀ x y, nextOf p x = some y → isPort p y = true) : ∀ (f : Nat) (s : Srch) (y : Port), SOk p s → isPort p y = true → unmet p s.met ≤ f → SOk p (comeS p f s y) ∧ Grows s (comeS p f s y)
  | 0, s, _, h, _, _ => ⟨h, Grows.refl s⟩
  | f + 1, s, y, h, hp, hf => by
    unfold comeS
    split
    · exact ⟨h, Grows.refl s⟩
    · rename_i hy
      have hy2 : y ∉ s.met := fun hc => hy (.inr hc)
      obtain ⟨k1, k2, k3, k4⟩ := h.mark hy2 hp
      have k5 : unmet p (s.mark y).met ≤ f := by have := unmet_mark hy2 hp; unfold Srch.mark; dsimp only; omega
      have ih := come_ok hn f
      have hput : ∀ e, SOk p ((s.mark y).put e) ∧ Grows s ((s.mark y).put e) ∧ unmet p ((s.mark y).put e).met ≤ f := fun e => by
        obtain ⟨q1, q2⟩ := k1.put e
        exact ⟨q1, k2.trans q2, Nat.le_trans (unmet_mono q2.met) k5⟩
      split
      · unfold Srch.hold
        split
        · exact ⟨k1, k2⟩
        · exact ⟨⟨k1.nodup, k1.ports, k1.zone, by simp; exact k3, k1.guards⟩, ⟨rfl, rfl, k2.met, k2.zone⟩⟩
      · split
        · exact ⟨⟨k1.nodup, k1.ports, k1.zone, k1.holds, k1.guards⟩, ⟨rfl, rfl, k2.met, k2.zone⟩⟩
        · split
          · unfold pointsS
            split
            · split
              · obtain ⟨q1, q2, q3⟩ := hput y.e
                obtain ⟨g1, g2⟩ := goS_ok hn ih q1 q3 y.e 1
                obtain ⟨g3, g4⟩ := goS_ok hn ih g1 (Nat.le_trans (unmet_mono g2.met) q3) y.e 2
                exact ⟨g3, q2.trans (g2.trans g4)⟩
              · exact ⟨(hput y.e).1, (hput y.e).2.1⟩
            · split
              · unfold Srch.guard
                split
                · exact ⟨k1, k2⟩
                · exact ⟨⟨k1.nodup, k1.ports, k1.zone, k1.holds, by simp; exact k4⟩, ⟨rfl, rfl, k2.met, k2.zone⟩⟩
              · split
                · obtain ⟨q1, q2, q3⟩ := hput y.e
                  obtain ⟨g1, g2⟩ := goS_ok hn ih q1 q3 y.e 0
                  exact ⟨g1, q2.trans g2⟩
                · exact ⟨(hput y.e).1, (hput y.e).2.1⟩
          · split
            · obtain ⟨q1, q2, q3⟩ := hput y.e
              obtain ⟨g1, g2⟩ := goS_ok hn ih q1 q3 y.e ((fromRef p y.e y.n 0).getD 0)
              exact ⟨g1, q2.trans g2⟩
            · exact ⟨(hput y.e).1, (hput y.e).2.1⟩
end Go.Proofs.Ytnkpiijljfjmkaa

/- What a search for a flank finds lies in the plan: pure facts on comeS and flank. No condition beyond the plan's ports. -/
namespace Go.Proofs.Ytnkpiijljfjmkaa

theorem readsGo_bound (l : List Sig) (x : Port) : ∀ i : Nat, readsGo i l x = -1 ∨ ((i : Int) ≤ readsGo i l x ∧ readsGo i l x < i + l.length) := by
  induction l with
  | nil => intro i; exact .inl rfl
  | cons s t ih =>
    intro i
    unfold readsGo
    split
    · refine .inr ⟨Int.le_refl _, ?_⟩
      simp only [List.length_cons]; omega
    · rcases ih (i + 1) with h | h
      · exact .inl h
      · refine .inr ?_
        simp only [List.length_cons]
        constructor <;> omega
theorem reads_bound (p : Plan) (x : Port) : reads p x = -1 ∨ (0 ≤ reads p x ∧ reads p x < p.sigs.length) := by
  have := readsGo_bound p.sigs x 0
  unfold reads
  rcases this with h | h
  · exact .inl h
  · exact .inr (by constructor <;> omega)
/-- what a search holds lies in the plan -/
structure SFit (p : Plan) (s : Srch) : Prop where
  g : ∀ x ∈ s.r.guards, 0 ≤ x.e ∧ x.e < p.elems.length ∧ p.kind x.e = 2 ∧ (x.pos = 1 ∨ x.pos = 2)
  z : ∀ x ∈ s.r.zone, 0 ≤ x ∧ x < p.elems.length
  h : ∀ x ∈ s.r.holds, 0 ≤ x ∧ x < p.sigs.length
theorem isPort_e {p : Plan} {x : Port} (h : isPort p x = true) : 0 ≤ x.e ∧ x.e < p.elems.length ∧ 0 ≤ x.n ∧ x.n < ends (p.kind x.e) := by
  unfold isPort at h
  simp only [Bool.and_eq_true, decide_eq_true_eq] at h
  exact ⟨h.1.1.1, h.1.1.2, h.1.2, h.2⟩
section
variable {p : Plan} {s : Srch} {y : Port}
theorem SFit.mark (h : SFit p s) (y : Port) : SFit p (s.mark y) := ⟨h.g, h.z, h.h⟩
theorem SFit.strip (h : SFit p s) : SFit p s.strip := ⟨h.g, h.z, h.h⟩
theorem SFit.put (h : SFit p s) {e : Int} (he : 0 ≤ e ∧ e < p.elems.length) : SFit p (s.put e) := by
  unfold Srch.put
  split
  · exact h
  · split
    · exact ⟨h.g, h.z, h.h⟩
    · refine ⟨h.g, fun x hx => ?_, h.h⟩
      rcases List.mem_append.1 hx with hx | hx
      · exact h.z x hx
      · simp at hx; subst hx; exact he
theorem SFit.hold (h : SFit p s) {k : Int} (hk : 0 ≤ k ∧ k < p.sigs.length) : SFit p (s.hold k) := by
  unfold Srch.hold
  split
  · exact h
  · refine ⟨h.g, h.z, fun x hx => ?_⟩
    rcases List.mem_append.1 hx with hx | hx
    · exact h.h x hx
    · simp at hx; subst hx; exact hk
theorem SFit.guard (h : SFit p s) {n : Need} (hn : 0 ≤ n.e ∧ n.e < p.elems.length ∧ p.kind n.e = 2 ∧ (n.pos = 1 ∨ n.pos = 2)) : SFit p (s.guard n) := by
  unfold Srch.guard
  split
  · exact h
  · refine ⟨fun x hx => ?_, h.z, h.h⟩
    rcases List.mem_append.1 hx with hx | hx
    · exact h.g x hx
    · simp at hx; subst hx; exact hn
theorem goS_fit {come : Srch → Port → Srch} (hn : ∀ x y, nextOf p x = some y → isPort p y = true) (hc : ∀ (s : Srch) (y : Port), SFit p s → isPort p y = true → SFit p (come s y)) (h : SFit p s) (e n : Int) : SFit p (goS p come s e n) := by
  unfold goS
  split
  · exact h
  · rename_i y hy; exact hc s y h (hn _ _ hy)
theorem come_fit (hn : ∀ x y, nextOf p x = some y → isPort p y = true) : ∀ (f : Nat) (s : Srch) (y : Port), SFit p s → isPort p y = true → SFit p (comeS p f s y)
  | 0, s, _, h, _ => h
  | f + 1, s, y, h, hp => by
    obtain ⟨e1, e2, e3, e4⟩ := isPort_e hp
    have hm := h.mark y
    have ih := come_fit hn f
    unfold comeS
    split
    · exact h
    · split
      · rename_i hr
        exact hm.hold ((reads_bound p y).resolve_left (by omega))
      · split
        · exact hm.strip
        · split
          · rename_i hk
            rw [hk] at e4
            have e5 : y.n < 3 := e4
            unfold pointsS
            split
            · split
              · exact goS_fit hn ih (goS_fit hn ih (hm.put ⟨e1, e2⟩) _ _) _ _
              · exact hm.put ⟨e1, e2⟩
            · split
              · exact hm.guard ⟨e1, e2, hk, by dsimp only; omega⟩
              · split
                · exact goS_fit hn ih (hm.put ⟨e1, e2⟩) _ _
                · exact hm.put ⟨e1, e2⟩
          · split
            · exact goS_fit hn ih (hm.put ⟨e1, e2⟩) _ _
            · exact hm.put ⟨e1, e2⟩
end
def srch0 (r : Road) : Srch := ⟨⟨r.frm, r.to, r.fin, r.steps, r.needs, [], [], [], false⟩, []⟩
theorem flank_eq (p : Plan) (r : Road) : flank p r = (flankGo p (portsR p r) (srch0 r)).r := rfl
theorem srch0_ok (p : Plan) (r : Road) : SOk p (srch0 r) := ⟨List.nodup_nil, (by intro x hx; cases hx), Nat.zero_le _, Nat.le_refl _, Nat.le_refl _⟩
theorem srch0_fit (p : Plan) (r : Road) : SFit p (srch0 r) := ⟨(by intro x hx; cases hx), (by intro x hx; cases hx), (by intro x hx; cases hx)⟩
/-- one port of the road's side -/
def oneS (p : Plan) (s : Srch) (x : Port) : Srch := goS p (comeS p (portNo p)) s x.e x.n
theorem oneS_ok {p : Plan} (hn : ∀ x y, nextOf p x = some y → isPort p y = true) {s : Srch} (h : SOk p s) (hf : SFit p s) (x : Port) : SOk p (oneS p s x) ∧ Grows s (oneS p s x) ∧ SFit p (oneS p s x) := by
  have h1 := goS_ok (f := portNo p) hn (fun s y h1 h2 h3 => come_ok hn (portNo p) s y h1 h2 h3) h (unmet_le p s.met) x.e x.n
  exact ⟨h1.1, h1.2, goS_fit hn (come_fit hn _) hf _ _⟩
theorem goS_same {p : Plan} {come : Srch → Port → Srch} {q : Srch → Prop} (hc : ∀ (s : Srch) (y : Port), q s → q (come s y)) {s : Srch} (h : q s) (e n : Int) : q (goS p come s e n) := by
  unfold goS
  split
  · exact h
  · exact hc s _ h
/-- from, to and end stay -/
def Same3 (r : Road) (s : Srch) : Prop := s.r.frm = r.frm ∧ s.r.to = r.to ∧ s.r.fin = r.fin ∧ s.r.steps = r.steps ∧ s.r.needs = r.needs
theorem put_same {r : Road} {s : Srch} (h : Same3 r s) (e : Int) : Same3 r (s.put e) := by
  unfold Srch.put
  split
  · exact h
  · split <;> exact h
theorem come_same {p : Plan} {r : Road} : ∀ (f : Nat) (s : Srch) (y : Port), Same3 r s → Same3 r (comeS p f s y)
  | 0, s, _, h => h
  | f + 1, s, y, h => by
    have ih := come_same (p := p) (r := r) f
    have hm : Same3 r (s.mark y) := h
    unfold comeS
    split
    · exact h
    · split
      · unfold Srch.hold; split <;> exact hm
      · split
        · exact hm
        · split
          · unfold pointsS
            split
            · split
              · exact goS_same ih (goS_same ih (put_same hm _) _ _) _ _
              · exact put_same hm _
            · split
              · unfold Srch.guard; split <;> exact hm
              · split
                · exact goS_same ih (put_same hm _) _ _
                · exact put_same hm _
          · split
            · exact goS_same ih (put_same hm _) _ _
            · exact put_same hm _
theorem oneS_same {p : Plan} {r : Road} {s : Srch} (h : Same3 r s) (x : Port) : Same3 r (oneS p s x) := goS_same (come_same _) h _ _
theorem flankGo_all {p : Plan} (hn : ∀ x y, nextOf p x = some y → isPort p y = true) {r : Road} : ∀ (l : List Port) (s : Srch), SOk p s → SFit p s → Same3 r s → SOk p (flankGo p l s) ∧ SFit p (flankGo p l s) ∧ Same3 r (flankGo p l s)
  | [], s, h1, h2, h3 => ⟨h1, h2, h3⟩
  | x :: l, s, h1, h2, h3 => by
    obtain ⟨k1, _, k3⟩ := oneS_ok hn h1 h2 x
    exact flankGo_all hn l (oneS p s x) k1 k3 (oneS_same h3 x)
/-- the flanked road: signals, end, steps and needs as before; its guards, zone and holds lie in the plan -/
theorem flank_all {p : Plan} (hn : ∀ x y, nextOf p x = some y → isPort p y = true) (r : Road) : Same3 r ⟨flank p r, []⟩ ∧ SFit p ⟨flank p r, []⟩ ∧ (flank p r).zone.length ≤ 12 := by
  obtain ⟨h1, h2, h3⟩ := flankGo_all hn (r := r) (portsR p r) (srch0 r) (srch0_ok p r) (srch0_fit p r) ⟨rfl, rfl, rfl, rfl, rfl⟩
  exact ⟨h3, ⟨h2.g, h2.z, h2.h⟩, h1.zone⟩
end Go.Proofs.Ytnkpiijljfjmkaa

/- What may be said of every road of a plan: pure facts on onR, ofR, allR and flank. Condition: the plan may be. -/
namespace Go.Proofs.Ytnkpiijljfjmkaa

/-- a road from the signal s at the port at_ on, of which x0 is the first port -/
structure Pre (p : Plan) (s : Int) (at_ x0 : Port) (r : Road) : Prop where
  frm : r.frm = s
  nod : (at_.e :: r.elems).Nodup
  stp : ∀ t ∈ r.steps, 0 ≤ t.e ∧ t.e < p.elems.length ∧ 0 ≤ t.i ∧ t.i ≤ 3 ∧ -1 ≤ t.o ∧ t.o ≤ 3
  nd : (r.needs.map (·.e)).Sublist r.elems
  ndk : ∀ n ∈ r.needs, p.kind n.e = 2 ∧ (n.pos = 1 ∨ n.pos = 2)
  head : ∀ t, r.steps.head? = some t → t.e = x0.e
structure RoadOk (p : Plan) (at_ x0 : Port) (r : Road) : Prop where
  sg : sigAt p r.frm = some at_
  next : nextOf p at_ = some x0
  pre : Pre p r.frm at_ x0 r
  ne : r.steps ≠ []
  len : r.steps.length ≤ 12
  fin : r.fin = 1 → ∃ t, r.steps.getLast? = some t ∧ r.to = reads p ⟨t.e, t.o⟩ ∧ 0 ≤ r.to
section
variable {p : Plan} {s : Int} {at_ x0 : Port} {r : Road}
theorem addStep_elems (r : Road) (t : Stp) (pos fin to : Int) : (addStep r t pos fin to).elems = r.elems ++ [t.e] := by simp [addStep, Road.elems]
theorem Pre.add (h : Pre p s at_ x0 r) {x : Port} (hx : isPort p x = true) (hn : x.e ∉ at_.e :: r.elems) (h0 : r.steps = [] → x = x0) {o pos : Int} (ho : -1 ≤ o ∧ o ≤ 3) (hp : pos = 0 ∨ (p.kind x.e = 2 ∧ (pos = 1 ∨ pos = 2))) (fin to : Int) :
    Pre p s at_ x0 (addStep r ⟨x.e, x.n, o⟩ pos fin to) := by
  obtain ⟨e1, e2, e3, e4⟩ := isPort_e hx
  have he : ∀ k : Int, ends k ≤ 4 := fun k => by unfold ends; repeat' split
                                                 all_goals omega
  have hk := he (p.kind x.e)
  refine ⟨h.frm, ?_, fun t ht => ?_, ?_, fun n hn => ?_, fun t ht => ?_⟩
  · rw [addStep_elems, ← List.cons_append]
    exact List.nodup_append.2 ⟨h.nod, by simp, fun a ha b hb hc => by
      simp only [List.mem_singleton] at hb
      subst hb
      exact hn (hc ▸ ha)⟩
  · rcases List.mem_append.1 ht with ht | ht
    · exact h.stp t ht
    · simp only [List.mem_singleton] at ht; subst ht
      exact ⟨e1, e2, e3, by dsimp only; omega, ho.1, ho.2⟩
  · rw [addStep_elems]
    show ((r.needs ++ _).map (·.e)).Sublist _
    rw [List.map_append]
    refine List.Sublist.append h.nd ?_
    split <;> simp
  · rcases List.mem_append.1 hn with hn | hn
    · exact h.ndk n hn
    · split at hn
      · cases hn
      · rename_i h0
        simp only [List.mem_singleton] at hn; subst hn
        exact hp.resolve_left h0
  · cases hs : r.steps with
    | nil =>
      simp only [addStep, hs, List.nil_append, List.head?_cons, Option.some.injEq] at ht
      subst ht
      rw [h0 hs]
    | cons t' l =>
      refine h.head t ?_
      simp only [addStep, hs, List.cons_append, List.head?_cons] at ht ⊢
      exact ht
theorem outs_bound {e i : Int} {w : Way} (hw : w ∈ outs p e i) : (0 ≤ w.out ∧ w.out ≤ 3) ∧ (w.pos = 0 ∨ (p.kind e = 2 ∧ (w.pos = 1 ∨ w.pos = 2))) := by
  unfold outs at hw
  split at hw
  · cases hw
  · rename_i h0
    split at hw
    · rename_i h1
      rw [h1] at h0
      have : ends 1 = 2 := rfl
      simp only [List.mem_singleton] at hw; subst hw
      dsimp only; omega
    · split at hw
      · simp only [List.mem_singleton] at hw; subst hw
        unfold cross
        dsimp only
        repeat' split
        all_goals omega
      · split at hw
        · rename_i h2
          rw [h2] at h0
          have : ends 2 = 3 := rfl
          split at hw
          · simp only [List.mem_cons, List.not_mem_nil, or_false] at hw
            rcases hw with rfl | rfl <;> simp [h2]
          · simp only [List.mem_singleton] at hw; subst hw
            dsimp only; omega
        · cases hw
theorem addStep_ne (r : Road) (t : Stp) (pos fin to : Int) : (addStep r t pos fin to).steps ≠ [] := by simp [addStep]
theorem onR_ok (hc : chk p = 0) (ha : sigAt p s = some at_) (hx0 : nextOf p at_ = some x0) : ∀ (f : Nat) (r : Road) (x : Port), Pre p s at_ x0 r → isPort p x = true → (r.steps = [] → x = x0) → r.steps.length + f ≤ 12 →
    ∀ q ∈ onR p f r x (at_.e :: r.elems), RoadOk p at_ x0 q
  | 0, _, _, _, _, _, _, q, hq => by cases hq
  | f + 1, r, x, h, hx, h0, hl, q, hq => by
    unfold onR at hq
    split at hq
    · cases hq
    · rename_i hn
      have key : ∀ (o pos fin to : Int), (-1 ≤ o ∧ o ≤ 3) → (pos = 0 ∨ (p.kind x.e = 2 ∧ (pos = 1 ∨ pos = 2))) → (fin = 1 → to = reads p ⟨x.e, o⟩ ∧ 0 ≤ to) → RoadOk p at_ x0 (addStep r ⟨x.e, x.n, o⟩ pos fin to) := by
        intro o pos fin to ho hp hf
        have h2 := h.add hx hn h0 ho hp fin to
        have h3 : (addStep r ⟨x.e, x.n, o⟩ pos fin to).frm = s := h2.frm
        refine ⟨by rw [h3]; exact ha, hx0, by rw [h3]; exact h2, addStep_ne _ _ _ _ _, by simp [addStep]; omega, fun h1 => ⟨⟨x.e, x.n, o⟩, by simp [addStep], ?_⟩⟩
        exact hf h1
      split at hq
      · simp only [List.mem_singleton] at hq; subst hq
        exact key (-1) 0 2 (-1) (by omega) (.inl rfl) (by omega)
      · obtain ⟨w, hw, hq⟩ := List.mem_flatMap.1 hq
        obtain ⟨ho, hp⟩ := outs_bound hw
        split at hq
        · rename_i hr
          simp only [List.mem_singleton] at hq; subst hq
          exact key _ _ _ _ (by omega) hp (fun _ => ⟨rfl, hr⟩)
        · split at hq
          · simp only [List.mem_singleton] at hq; subst hq
            exact key _ _ 3 (-1) (by omega) hp (by omega)
          · rename_i y hy
            have h2 := h.add hx hn h0 (by omega) hp 0 (-1) (o := w.out)
            have e1 : (at_.e :: r.elems) ++ [x.e] = at_.e :: (addStep r ⟨x.e, x.n, w.out⟩ w.pos 0 (-1)).elems := by rw [addStep_elems]; rfl
            rw [e1] at hq
            exact onR_ok hc ha hx0 f _ y h2 ((good_of hc).ports hy).2 (fun h => absurd h (addStep_ne _ _ _ _ _)) (by simp [addStep]; omega) q hq
theorem ofR_ok (hc : chk p = 0) {q : Road} (hq : q ∈ ofR p s) : ∃ at_ x0, RoadOk p at_ x0 q := by
  unfold ofR at hq
  split at hq
  · cases hq
  · rename_i at_ ha
    split at hq
    · cases hq
    · rename_i x hx
      refine ⟨at_, x, onR_ok hc ha hx 12 (road0 s) x ⟨rfl, by simp [road0, Road.elems], (by intro t ht; cases ht), by simp [road0], (by intro n hn; cases hn), (by intro t ht; cases ht)⟩ ((good_of hc).ports hx).2 (fun _ => rfl) (Nat.le_refl _) q hq⟩
theorem allGo_mem : ∀ (k i : Nat) (out l : List Road), allGo p k i out = some l → ∀ q ∈ l, q ∈ out ∨ ∃ s : Int, q ∈ ofR p s
  | 0, i, out, l, h, q, hq => by
    unfold allGo at h
    cases h
    exact .inl hq
  | k + 1, i, out, l, h, q, hq => by
    unfold allGo at h
    split at h
    · cases h
    · rcases allGo_mem k (i + 1) _ l h q hq with h1 | h1
      · rcases List.mem_append.1 h1 with h1 | h1
        · exact .inl h1
        · exact .inr ⟨_, h1⟩
      · exact .inr h1
theorem allR_ok (hc : chk p = 0) {l : List Road} (h : allR p = some l) {q : Road} (hq : q ∈ l) : ∃ at_ x0, RoadOk p at_ x0 q := by
  rcases allGo_mem _ _ _ _ h q hq with h1 | ⟨s, h1⟩
  · cases h1
  · exact ofR_ok hc h1
theorem RoadOk.needs_le {q : Road} (h : RoadOk p at_ x0 q) : q.needs.length ≤ 12 := by
  have h1 := h.pre.nd.length_le
  have h2 := h.len
  simp only [Road.elems, List.length_map] at h1
  omega
theorem RoadOk.ends {q : Road} (h : RoadOk p at_ x0 q) : ∀ t ∈ q.steps, -1 ≤ t.i ∧ t.i ≤ 4 ∧ -1 ≤ t.o ∧ t.o ≤ 4 := fun t ht => by
  have := h.pre.stp t ht
  omega
/-- what was said of a road holds of the flanked one -/
theorem RoadOk.flank (hc : chk p = 0) {q : Road} (h : RoadOk p at_ x0 q) : RoadOk p at_ x0 (flank p q) := by
  obtain ⟨⟨m1, m2, m3, m4, m5⟩, _⟩ := flank_all (fun x y hn => ((good_of hc).ports hn).2) q
  dsimp only at m1 m2 m3 m4 m5
  obtain ⟨h1, h2, ⟨_, p2, p3, p4, p5, p6⟩, h4, h5, h6⟩ := h
  have me : (Go.Proofs.Ytnkpiijljfjmkaa.flank p q).elems = q.elems := by unfold Road.elems; rw [m4]
  refine ⟨by rw [m1]; exact h1, h2, ⟨rfl, by rw [me]; exact p2, by rw [m4]; exact p3, by rw [m5, me]; exact p4, by rw [m5]; exact p5, by rw [m4]; exact p6⟩, by rw [m4]; exact h4, by rw [m4]; exact h5, by rw [m3, m2, m4]; exact h6⟩
theorem roads_ok (hc : chk p = 0) {l : List Road} (h : roadsOf p = some l) {q : Road} (hq : q ∈ l) : ∃ at_ x0, RoadOk p at_ x0 q := by
  unfold roadsOf at h
  cases ha : allR p with
  | none => rw [ha] at h; cases h
  | some l0 =>
    rw [ha] at h
    simp only [Option.map_some, Option.some.injEq] at h
    subst h
    obtain ⟨q0, h0, rfl⟩ := List.mem_map.1 hq
    obtain ⟨a, x, h1⟩ := allR_ok hc ha h0
    exact ⟨a, x, h1.flank hc⟩
end
end Go.Proofs.Ytnkpiijljfjmkaa

/- What may be said of every flank: its guards, its zone, what it holds. Condition: the plan may be. -/
namespace Go.Proofs.Ytnkpiijljfjmkaa

def InOz (s : Srch) (e : Int) : Prop := e ∈ s.r.elems ∨ e ∈ s.r.zone
structure Mon (s t : Srch) : Prop where
  steps : t.r.steps = s.r.steps
  needs : t.r.needs = s.r.needs
  zone : ∀ x ∈ s.r.zone, x ∈ t.r.zone
theorem Mon.refl (s : Srch) : Mon s s := ⟨rfl, rfl, fun _ h => h⟩
theorem Mon.trans {s t u : Srch} (h : Mon s t) (h2 : Mon t u) : Mon s u := ⟨h2.steps.trans h.steps, h2.needs.trans h.needs, fun x hx => h2.zone x (h.zone x hx)⟩
theorem Mon.elems {s t : Srch} (h : Mon s t) : t.r.elems = s.r.elems := by unfold Road.elems; rw [h.steps]
theorem Mon.inoz {s t : Srch} (h : Mon s t) {e : Int} (he : InOz s e) : InOz t e := by
  rcases he with he | he
  · exact .inl (by rw [h.elems]; exact he)
  · exact .inr (h.zone e he)
theorem mon_put (s : Srch) (e : Int) : Mon s (s.put e) := by
  unfold Srch.put
  split
  · exact Mon.refl s
  · split
    · exact ⟨rfl, rfl, fun _ h => h⟩
    · exact ⟨rfl, rfl, fun x h => List.mem_append_left _ h⟩
theorem mon_hold (s : Srch) (k : Int) : Mon s (s.hold k) := by unfold Srch.hold; split <;> exact ⟨rfl, rfl, fun _ h => h⟩
theorem mon_guard (s : Srch) (n : Need) : Mon s (s.guard n) := by unfold Srch.guard; split <;> exact ⟨rfl, rfl, fun _ h => h⟩
theorem put_in {s : Srch} {e : Int} (h : s.puts e = true) : e ∈ (s.put e).r.zone := by
  unfold Srch.puts at h
  simp only [Bool.or_eq_true, decide_eq_true_eq] at h
  unfold Srch.put
  split
  · assumption
  · rename_i hn
    have h1 := h.resolve_left hn
    split
    · omega
    · exact List.mem_append_right _ (by simp)
/-- a search keeps Q, step by step -/
structure Keeps (p : Plan) (Q : Srch → Prop) : Prop where
  mark : ∀ s y, Q s → Q (s.mark y)
  strip : ∀ s, Q s → Q s.strip
  put : ∀ s (e : Int), 0 ≤ e ∧ e < p.elems.length → Q s → Q (s.put e)
  hold : ∀ s y z, Q s → 0 ≤ reads p y → nextOf p y = some z → InOz s z.e → Q (s.hold (reads p y))
  guard : ∀ s (y : Port), Q s → isPort p y = true → p.kind y.e = 2 → y.n ≠ 0 → y.e ∉ s.r.elems → (⟨y.e, y.n⟩ : Need) ∉ s.r.guards → Q (s.guard ⟨y.e, 3 - y.n⟩)
section
variable {p : Plan} {Q : Srch → Prop}
def ComeK (p : Plan) (Q : Srch → Prop) (come : Srch → Port → Srch) : Prop := ∀ s y, Q s → isPort p y = true → (∃ z, nextOf p y = some z ∧ InOz s z.e) → Q (come s y) ∧ Mon s (come s y)
theorem goS_keeps (g : Good p) {come : Srch → Port → Srch} (hc : ComeK p Q come) {s : Srch} (h : Q s) {e n : Int} (he : InOz s e) : Q (goS p come s e n) ∧ Mon s (goS p come s e n) := by
  unfold goS
  split
  · exact ⟨h, Mon.refl s⟩
  · rename_i y hy
    exact hc s y h (g.ports hy).2 ⟨_, (g.back hy).1, he⟩
theorem come_keeps (g : Good p) (K : Keeps p Q) : ∀ f, ComeK p Q (comeS p f)
  | 0 => fun s _ h _ _ => ⟨h, Mon.refl s⟩
  | f + 1 => fun s y h hp hz => by
    have ih := come_keeps g K f
    obtain ⟨e1, e2, e3, e4⟩ := isPort_e hp
    have hm := K.mark s y h
    have mm : Mon s (s.mark y) := ⟨rfl, rfl, fun _ h => h⟩
    unfold comeS
    split
    · exact ⟨h, Mon.refl s⟩
    · rename_i hno
      split
      · rename_i hr
        obtain ⟨z, hz1, hz2⟩ := hz
        exact ⟨K.hold _ y z hm hr.1 hz1 (mm.inoz hz2), mm.trans (mon_hold _ _)⟩
      · split
        · exact ⟨K.strip _ hm, mm.trans ⟨rfl, rfl, fun _ h => h⟩⟩
        · have hput := K.put _ y.e ⟨e1, e2⟩ hm
          have mput := mm.trans (mon_put (s.mark y) y.e)
          split
          · rename_i hk
            unfold pointsS
            split
            · split
              · rename_i hps
                have h1 := goS_keeps g ih hput (e := y.e) (n := 1) (.inr (put_in hps))
                have h2 := goS_keeps g ih h1.1 (e := y.e) (n := 2) (h1.2.inoz (.inr (put_in hps)))
                exact ⟨h2.1, mput.trans (h1.2.trans h2.2)⟩
              · exact ⟨hput, mput⟩
            · rename_i hn0
              split
              · rename_i hng
                exact ⟨K.guard _ y hm hp hk hn0 (fun hc => hno (.inl hc)) hng.2, mm.trans (mon_guard _ _)⟩
              · split
                · rename_i hps
                  have h1 := goS_keeps g ih hput (e := y.e) (n := 0) (.inr (put_in hps))
                  exact ⟨h1.1, mput.trans h1.2⟩
                · exact ⟨hput, mput⟩
          · split
            · rename_i hps
              have h1 := goS_keeps g ih hput (e := y.e) (n := (fromRef p y.e y.n 0).getD 0) (.inr (put_in hps))
              exact ⟨h1.1, mput.trans h1.2⟩
            · exact ⟨hput, mput⟩
theorem flankGo_keeps (g : Good p) (K : Keeps p Q) : ∀ (l : List Port) (s : Srch), Q s → (∀ x ∈ l, x.e ∈ s.r.elems) → Q (flankGo p l s) ∧ Mon s (flankGo p l s)
  | [], s, h, _ => ⟨h, Mon.refl s⟩
  | x :: l, s, h, hl => by
    have h1 := goS_keeps g (come_keeps g K (portNo p)) h (e := x.e) (n := x.n) (.inl (hl x (by simp)))
    have h2 := flankGo_keeps g K l _ h1.1 (fun y hy => by rw [h1.2.elems]; exact hl y (by simp [hy]))
    exact ⟨h2.1, h1.2.trans h2.2⟩
theorem side_elem {s : Stp} {x : Port} (h : x ∈ sidePorts p s) : x.e = s.e := by
  unfold sidePorts at h
  split at h
  · simp only [List.mem_singleton] at h; subst h; rfl
  · split at h
    · split at h <;> (simp only [List.mem_cons, List.not_mem_nil, or_false] at h; rcases h with rfl | rfl <;> rfl)
    · cases h
theorem ports_elems {r : Road} {x : Port} (h : x ∈ portsR p r) : x.e ∈ r.elems := by
  unfold portsR at h
  obtain ⟨t, ht, hx⟩ := List.mem_flatMap.1 h
  rw [side_elem (List.mem_filter.1 hx).1]
  exact List.mem_map.2 ⟨t, ht, rfl⟩
/-- what a search has found -/
structure Found (p : Plan) (s : Srch) : Prop where
  gnd : (s.r.guards.map (·.e)).Nodup
  gb : ∀ g ∈ s.r.guards, 0 ≤ g.e ∧ g.e < p.elems.length ∧ p.kind g.e = 2 ∧ (g.pos = 1 ∨ g.pos = 2) ∧ g.e ∉ s.r.elems
  hnd : s.r.holds.Nodup
  hb : ∀ k ∈ s.r.holds, 0 ≤ k ∧ k < p.sigs.length ∧ ∃ y z, reads p y = k ∧ nextOf p y = some z ∧ InOz s z.e
theorem Found.mon {s t : Srch} (h : Found p s) (m : Mon s t) (hg : t.r.guards = s.r.guards) (hh : t.r.holds = s.r.holds) : Found p t := by
  refine ⟨by rw [hg]; exact h.gnd, fun g hgm => ?_, by rw [hh]; exact h.hnd, fun k hk => ?_⟩
  · rw [hg] at hgm
    rw [m.elems]
    exact h.gb g hgm
  · rw [hh] at hk
    obtain ⟨h1, h2, y, z, h3, h4, h5⟩ := h.hb k hk
    exact ⟨h1, h2, y, z, h3, h4, m.inoz h5⟩
theorem found_keeps : Keeps p (Found p) := by
  refine ⟨fun s y h => h.mon ⟨rfl, rfl, fun _ h => h⟩ rfl rfl, fun s h => h.mon ⟨rfl, rfl, fun _ h => h⟩ rfl rfl, fun s e _ h => h.mon (mon_put s e) ?_ ?_, fun s y z h hr hy hz => ?_, fun s y h hp hk hn he hg => ?_⟩
  · unfold Srch.put; repeat' split
    all_goals rfl
  · unfold Srch.put; repeat' split
    all_goals rfl
  · unfold Srch.hold
    split
    · exact h
    · rename_i hn
      refine ⟨h.gnd, h.gb, ?_, fun k hk => ?_⟩
      · exact List.nodup_append.2 ⟨h.hnd, by simp, fun a ha b hb hc => by
          simp only [List.mem_singleton] at hb
          subst hb
          exact hn (hc ▸ ha)⟩
      · rcases List.mem_append.1 hk with hk | hk
        · exact h.hb k hk
        · simp only [List.mem_singleton] at hk
          subst hk
          exact ⟨hr, ((reads_bound p y).resolve_left (by omega)).2, y, z, rfl, hy, hz⟩
  · obtain ⟨e1, e2, e3, e4⟩ := isPort_e hp
    rw [hk] at e4
    have e5 : y.n < 3 := e4
    unfold Srch.guard
    split
    · exact h
    · rename_i hno
      refine ⟨?_, fun g hgm => ?_, h.hnd, h.hb⟩
      · show ((s.r.guards ++ [_]).map _).Nodup
        rw [List.map_append]
        refine List.nodup_append.2 ⟨h.gnd, by simp, fun a ha b hb hc => ?_⟩
        simp only [List.map_cons, List.map_nil, List.mem_singleton] at hb
        obtain ⟨g, hgm, rfl⟩ := List.mem_map.1 ha
        obtain ⟨_, _, _, hpos, _⟩ := h.gb g hgm
        obtain ⟨ge, gp⟩ := g
        dsimp only at hc hpos hb
        rw [hb] at hc
        subst hc
        by_cases hq : gp = y.n
        · exact hg (by rw [← hq]; exact hgm)
        · exact hno (by rw [show (3 : Int) - y.n = gp by omega]; exact hgm)
      · rcases List.mem_append.1 hgm with hgm | hgm
        · exact h.gb g hgm
        · simp only [List.mem_singleton] at hgm
          subst hgm
          exact ⟨e1, e2, hk, by dsimp only; omega, he⟩
theorem found0 (r : Road) : Found p (srch0 r) := ⟨List.nodup_nil, (by intro g hg; cases hg), List.nodup_nil, (by intro g hg; cases hg)⟩
theorem flank_found (hc : chk p = 0) (r : Road) : Found p ⟨flank p r, []⟩ := by
  have h := (flankGo_keeps (good_of hc) found_keeps (portsR p r) (srch0 r) (found0 r) (fun x hx => ports_elems hx)).1
  exact h.mon ⟨rfl, rfl, fun _ h => h⟩ rfl rfl
def numsTo (n : Nat) : List Int := (List.range n).map fun (k : Nat) => (k : Int)
theorem mem_numsTo {n : Nat} {x : Int} (h : 0 ≤ x ∧ x < n) : x ∈ numsTo n := List.mem_map.2 ⟨x.toNat, List.mem_range.2 (by omega), by omega⟩
theorem flank_sizes (hc : chk p = 0) (r : Road) : (flank p r).guards.length ≤ 40 ∧ (flank p r).holds.length ≤ 24 ∧ (flank p r).zone.length ≤ 12 := by
  have hf := flank_found hc r
  have hl : p.elems.length ≤ 40 ∧ p.sigs.length ≤ 24 := by
    unfold chk at hc
    split at hc
    · cases hc
    · rename_i h; unfold tooMuch at h; simp at h; omega
  have h3 := (flank_all (fun x y hn => ((good_of hc).ports hn).2) r).2.2
  have h1 := nodup_sub_le _ (numsTo p.elems.length) hf.gnd (fun x hx => by
    obtain ⟨g, hg, rfl⟩ := List.mem_map.1 hx
    obtain ⟨a, b, _⟩ := hf.gb g hg
    exact mem_numsTo ⟨a, b⟩)
  have h2 := nodup_sub_le _ (numsTo p.sigs.length) hf.hnd (fun x hx => by
    obtain ⟨a, b, _⟩ := hf.hb x hx
    exact mem_numsTo ⟨a, b⟩)
  simp only [numsTo, List.length_map, List.length_range] at h1 h2
  exact ⟨by omega, by omega, h3⟩
/-- a road of a plan: how long its rows are -/
structure Sizes (r : Road) : Prop where
  s : r.steps.length ≤ 12
  n : r.needs.length ≤ 12
  g : r.guards.length ≤ 40
  z : r.zone.length ≤ 12
  h : r.holds.length ≤ 24
theorem roads_sizes (hc : chk p = 0) {l : List Road} (h : roadsOf p = some l) {q : Road} (hq : q ∈ l) : Sizes q ∧ Found p ⟨q, []⟩ ∧ ∃ at_ x0, RoadOk p at_ x0 q := by
  obtain ⟨a, x, h1⟩ := roads_ok hc h hq
  unfold roadsOf at h
  cases ha : allR p with
  | none => rw [ha] at h; cases h
  | some l0 =>
    rw [ha] at h
    simp only [Option.map_some, Option.some.injEq] at h
    subst h
    obtain ⟨q0, h0, rfl⟩ := List.mem_map.1 hq
    have hs := flank_sizes hc q0
    exact ⟨⟨h1.len, h1.needs_le, hs.1, hs.2.2, hs.2.1⟩, flank_found hc q0, a, x, h1⟩
end
end Go.Proofs.Ytnkpiijljfjmkaa
