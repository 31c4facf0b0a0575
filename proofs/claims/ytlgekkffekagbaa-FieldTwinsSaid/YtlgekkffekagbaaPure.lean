/- Plans and what the functions of package plan compute of them, in plain words. No condition. -/
import Derived.Test.YtlgekkffekagbaaBase
namespace Go.Proofs.Ytlgekkffekagbaa

structure Port where
  e : Int
  n : Int
  deriving DecidableEq, Inhabited
structure Elem where
  name : ByteArray
  kind : Int
  len : Int
  deriving DecidableEq
structure Join where
  a : Port
  b : Port
  deriving DecidableEq, Inhabited
structure Sig where
  name : ByteArray
  at_ : Port
  auto : Bool
  deriving DecidableEq
structure Line where
  name : ByteArray
  elems : List Int
  deriving DecidableEq
structure Plan where
  elems : List Elem
  joins : List Join
  sigs : List Sig
  lines : List Line
  top : Int
  brake : Int
  margin : Int
  throw : Int
  hard : Bool
  deriving DecidableEq

def ends (k : Int) : Int := if k = 1 then 2 else if k = 2 then 3 else if k = 3 then 4 else if k = 4 then 1 else 0

/-- the sum of v, v - b, .. as long as they are above 0 -/
def stopSum (b : Int) : Nat → Int → Int
  | 0, _ => 0
  | f + 1, v => if 0 < v then v + stopSum b f (v - b) else 0
def stop (v b : Int) : Int := if v < 0 ∨ 60 < v ∨ b < 1 ∨ 10 < b then 0 else stopSum b 61 (v - b)

def zeroElem : Elem := ⟨ByteArray.empty, 0, 0⟩
def Plan.elem (p : Plan) (i : Int) : Elem := if 0 ≤ i then p.elems.getD i.toNat zeroElem else zeroElem
def Plan.kind (p : Plan) (i : Int) : Int := (p.elem i).kind
def Plan.length (p : Plan) (i : Int) : Int := (p.elem i).len

def isPort (p : Plan) (x : Port) : Bool := decide (0 ≤ x.e) && decide (x.e < p.elems.length) && decide (0 ≤ x.n) && decide (x.n < ends (p.kind x.e))

/-! names -/
def isLetter (c : UInt8) : Bool := (decide (97 ≤ c.toNat) && decide (c.toNat ≤ 122)) || (decide (65 ≤ c.toNat) && decide (c.toNat ≤ 90))
def isDigit (c : UInt8) : Bool := decide (48 ≤ c.toNat) && decide (c.toNat ≤ 57)
def nameList (l : List UInt8) : Bool := match l with
  | [] => false
  | c :: r => decide (r.length < 8) && isLetter c && r.all fun c => isLetter c || isDigit c
def nameOk (s : ByteArray) : Bool := nameList s.data.toList

def elemOk (e : Elem) : Bool := nameOk e.name && decide (ends e.kind ≠ 0) && (if e.kind = 4 then decide (e.len = 0) else decide (1 ≤ e.len) && decide (e.len ≤ 4000))
def numsOk (p : Plan) : Bool :=
  decide (1 ≤ p.top) && decide (p.top ≤ 60) && decide (1 ≤ p.brake) && decide (p.brake ≤ 10) && decide (1 ≤ p.margin) && decide (p.margin ≤ 4000) && decide (1 ≤ p.throw) && decide (p.throw ≤ 20) && decide (p.elems.length ≠ 0)
def argsOk (p : Plan) : Bool := numsOk p && (p.elems.all elemOk && (p.sigs.all (fun s => nameOk s.name) && p.lines.all (fun l => nameOk l.name)))

/-- is an element there twice? -/
def dupGo {α : Type} [DecidableEq α] : List α → List α → Bool
  | _, [] => false
  | met, x :: r => decide (x ∈ met) || dupGo (met ++ [x]) r
def dup {α : Type} [DecidableEq α] (l : List α) : Bool := dupGo [] l
def namesTwice (p : Plan) : Bool := dup (p.elems.map (·.name)) || (dup (p.sigs.map (·.name)) || dup (p.lines.map (·.name)))

/-! joins -/
def nextIn : List Join → Port → Option Port
  | [], _ => none
  | j :: r, x => if j.a = x then some j.b else if j.b = x then some j.a else nextIn r x
def nextOf (p : Plan) (x : Port) : Option Port := nextIn p.joins x
def flatJoins : List Join → List Port
  | [] => []
  | j :: r => j.a :: j.b :: flatJoins r
def joinGo (p : Plan) : List Port → List Join → Bool
  | _, [] => true
  | met, j :: r => !(decide (j.a ∈ met) || decide (j.b ∈ met) || decide (j.a = j.b) || !isPort p j.a || !isPort p j.b) && joinGo p (met ++ [j.a, j.b]) r
/-- each gate is joined, and to no gate -/
def gateGo (p : Plan) (nx : Port → Option Port) : Nat → List Elem → Bool
  | _, [] => true
  | i, e :: r => (if e.kind = 4 then (match nx ⟨i, 0⟩ with | some x => decide (p.kind x.e ≠ 4) | none => false) else true) && gateGo p nx (i + 1) r
def joinedOk (p : Plan) : Bool := joinGo p [] p.joins && gateGo p (nextOf p) 0 p.elems

/-! signals -/
def readsGo : Nat → List Sig → Port → Int
  | _, [], _ => -1
  | i, s :: r, x => if s.at_ = x then i else readsGo (i + 1) r x
def reads (p : Plan) (x : Port) : Int := readsGo 0 p.sigs x
def sigOk (p : Plan) (x : Port) : Bool := isPort p x && (decide (p.kind x.e = 1) || decide (p.kind x.e = 4)) && (match nextOf p x with | some y => decide (p.kind y.e ≠ 4) | none => false)
def sigGo (p : Plan) : List Port → List Sig → Bool
  | _, [] => true
  | met, s :: r => !decide (s.at_ ∈ met) && sigOk p s.at_ && sigGo p (met ++ [s.at_]) r
def gateSigGo (l : List Port) : Nat → List Elem → Bool
  | _, [] => true
  | i, e :: r => (if e.kind = 4 then decide ((⟨i, 0⟩ : Port) ∈ l) else true) && gateSigGo l (i + 1) r
def signalsOk (p : Plan) : Bool := sigGo p [] p.sigs && gateSigGo (p.sigs.map (·.at_)) 0 p.elems

/-! lines -/
def chain (nx : Port → Option Port) : Int → Int → List Int → Bool
  | _, _, [] => true
  | prev, out, y :: r => match nx ⟨prev, out⟩ with
    | some x => decide (x.e = y) && chain nx y (1 - x.n) r
    | none => false
def leadsTo (nx : Port → Option Port) (x : Port) (y : Int) : Bool := match nx x with
  | some z => decide (z.e = y)
  | none => false
def firstOut (nx : Port → Option Port) (a b : Int) : Int := if leadsTo nx ⟨a, 0⟩ b then 0 else if leadsTo nx ⟨a, 1⟩ b then 1 else -1
def rowOk (nx : Port → Option Port) : List Int → Bool
  | [] => true
  | [_] => true
  | a :: b :: r => decide (0 ≤ firstOut nx a b) && chain nx a (firstOut nx a b) (b :: r)
def inLine (p : Plan) (e : Int) : Bool := decide (0 ≤ e) && decide (e < p.elems.length) && decide (p.kind e = 1)
def tracksGo (p : Plan) : List Int → List Int → Bool
  | _, [] => true
  | met, e :: r => inLine p e && !decide (e ∈ met) && tracksGo p (met ++ [e]) r
def lineGo (p : Plan) : List Int → List Line → Bool
  | _, [] => true
  | met, l :: r => decide (l.elems ≠ []) && tracksGo p met l.elems && rowOk (nextOf p) l.elems && lineGo p (met ++ l.elems) r
def linesOk (p : Plan) : Bool := lineGo p [] p.lines

/-! lengths -/
def longOk (p : Plan) : Bool :=
  decide (p.top + stop p.top p.brake ≤ p.margin) && ((p.sigs.all fun s => !(decide (p.kind s.at_.e = 1) && decide (p.length s.at_.e < p.margin))) && (p.elems.all fun e => !(decide (e.kind ≠ 4) && decide (e.len < p.top))))

def tooMuch (p : Plan) : Bool := decide (40 < p.elems.length) || decide (24 < p.sigs.length) || decide (4 < p.lines.length) || decide (80 < p.joins.length)
def chk (p : Plan) : Int :=
  if tooMuch p then 3 else if !argsOk p then 1 else if namesTwice p then 4 else if !joinedOk p then 6 else if !signalsOk p then 7 else if !linesOk p then 8 else if !longOk p then 9 else 0

def findName (l : List Elem) (s : ByteArray) : Int := idxFrom (fun e : Elem => decide (e.name = s)) 0 l

/-- semaphoreref6.Few -/
def few (p : Plan) : Bool :=
  decide (p.elems.length ≤ 60) && decide (p.joins.length ≤ 120) && decide (p.sigs.length ≤ 60) && decide (p.lines.length ≤ 20) &&
  ((p.lines.all fun l => decide (l.elems.length ≤ 60) && decide (l.name.size ≤ 100)) && ((p.elems.all fun e => decide (e.name.size ≤ 100)) && (p.sigs.all fun s => decide (s.name.size ≤ 100))))
def fine (p : Plan) : Bool := few p && decide (chk p = 0)

/-! semaphoreref6's way of saying it -/
def refNameGo : Nat → List UInt8 → Bool
  | _, [] => true
  | i, c :: r => (isLetter c || (decide (i ≠ 0) && isDigit c)) && refNameGo (i + 1) r
def refName (s : ByteArray) : Bool := refNameGo 0 s.data.toList && decide (1 ≤ s.size) && decide (s.size ≤ 8)
def refElemOk (e : Elem) : Bool := !(!refName e.name || decide (ends e.kind = 0) || (decide (e.kind = 4) && decide (e.len ≠ 0)) || (decide (e.kind ≠ 4) && !(decide (1 ≤ e.len) && decide (e.len ≤ 4000))))

end Go.Proofs.Ytlgekkffekagbaa

/- Plain laws on plans: that package plan and semaphoreref6 say the same. No condition. -/
namespace Go.Proofs.Ytlgekkffekagbaa

theorem ends_zero {k : Int} : (ends k = 0) = ¬ (k = 1 ∨ k = 2 ∨ k = 3 ∨ k = 4) := by
  unfold ends; apply propext
  constructor
  · intro h hk; rcases hk with rfl | rfl | rfl | rfl <;> simp at h
  · intro h
    rw [if_neg (by omega), if_neg (by omega), if_neg (by omega), if_neg (by omega)]

theorem refNameGo_succ (l : List UInt8) : ∀ i, refNameGo (i + 1) l = l.all fun c => isLetter c || isDigit c := by
  induction l with
  | nil => intro i; rfl
  | cons c r ih => intro i; simp [refNameGo, ih]
theorem refName_eq (s : ByteArray) : refName s = nameOk s := by
  unfold refName nameOk nameList
  have hs : s.size = s.data.toList.length := (Array.length_toList).symm
  rw [hs]
  cases h : s.data.toList with
  | nil => simp [refNameGo]
  | cons c r =>
    simp only [refNameGo, refNameGo_succ, List.length_cons]
    simp only [ne_eq, not_true_eq_false, decide_false, Bool.false_and, Bool.or_false]
    rw [show decide (1 ≤ r.length + 1) = true by simp, show decide (r.length + 1 ≤ 8) = decide (r.length < 8) by simp; omega]
    cases isLetter c <;> cases (r.all fun c => isLetter c || isDigit c) <;> simp
theorem refElem_eq (e : Elem) : refElemOk e = elemOk e := by
  unfold refElemOk elemOk
  rw [refName_eq]
  by_cases h4 : e.kind = 4
  · cases nameOk e.name <;> simp [h4, ends]
  · cases nameOk e.name <;> simp [h4]

theorem dupGo_flat {_p : Plan} : True := trivial

def refPorts (p : Plan) : List Port → List Port → Bool
  | _, [] => true
  | met, x :: r => isPort p x && !decide (x ∈ met) && refPorts p (met ++ [x]) r
theorem refPorts_eq (p : Plan) : ∀ (js : List Join) (met : List Port), refPorts p met (flatJoins js) = joinGo p met js := by
  intro js
  induction js with
  | nil => intro met; rfl
  | cons j r ih =>
    intro met
    simp only [flatJoins, refPorts, joinGo]
    rw [show met ++ [j.a] ++ [j.b] = met ++ [j.a, j.b] by simp, ih]
    have hm : decide (j.b ∈ met ++ [j.a]) = (decide (j.b ∈ met) || decide (j.a = j.b)) := by
      rw [Bool.eq_iff_iff]; simp only [List.mem_append, List.mem_singleton, decide_eq_true_eq, Bool.or_eq_true]; rw [eq_comm (a := j.a)]
    rw [hm]
    cases isPort p j.a <;> cases isPort p j.b <;> cases decide (j.a ∈ met) <;> cases decide (j.b ∈ met) <;> cases decide (j.a = j.b) <;> simp

/-! signals -/
theorem readsGo_neg (l : List Sig) (x : Port) : ∀ i : Nat, decide (readsGo i l x < 0) = !decide (x ∈ l.map (·.at_)) := by
  induction l with
  | nil => intro i; simp [readsGo]
  | cons s r ih =>
    intro i
    unfold readsGo
    by_cases h : s.at_ = x
    · rw [if_pos h]; subst h; simp
    · rw [if_neg h, ih]; simp [show ¬ x = s.at_ from fun e => h e.symm]
theorem readsGo_ge (l : List Sig) (x : Port) : ∀ i : Nat, readsGo i l x < 0 ∨ (i : Int) ≤ readsGo i l x := by
  induction l with
  | nil => intro i; left; simp [readsGo]
  | cons s r ih =>
    intro i
    unfold readsGo
    by_cases h : s.at_ = x
    · rw [if_pos h]; right; omega
    · rw [if_neg h]; rcases ih (i + 1) with h1 | h1
      · exact .inl h1
      · right; omega
theorem readsGo_mem {l : List Sig} {x : Port} (h : x ∈ l.map (·.at_)) : ∀ i : Nat, (i : Int) ≤ readsGo i l x ∧ readsGo i l x < i + l.length := by
  induction l with
  | nil => simp at h
  | cons s r ih =>
    intro i
    unfold readsGo
    by_cases hs : s.at_ = x
    · rw [if_pos hs]; simp; omega
    · rw [if_neg hs]
      have := ih ((List.mem_cons.1 h).resolve_left fun h => hs h.symm) (i + 1)
      simp only [List.length_cons]; omega
theorem readsGo_append (l r : List Sig) (x : Port) : ∀ i : Nat, readsGo i (l ++ r) x = if x ∈ l.map (·.at_) then readsGo i l x else readsGo (i + l.length) r x := by
  induction l with
  | nil => intro i; simp
  | cons s t ih =>
    intro i
    rw [List.cons_append, readsGo, readsGo]
    by_cases hs : s.at_ = x
    · rw [if_pos hs, if_pos (by simp [hs]), if_pos hs]
    · rw [if_neg hs, ih (i + 1), if_neg hs]
      by_cases hx : x ∈ t.map (·.at_)
      · rw [if_pos hx, if_pos (by simp only [List.map_cons, List.mem_cons]; exact .inr hx)]
      · rw [if_neg hx, if_neg (by simp only [List.map_cons, List.mem_cons, not_or]; exact ⟨fun e => hs e.symm, hx⟩)]
        rw [show i + 1 + t.length = i + (s :: t).length by simp; omega]
def refSigGo (p : Plan) : Nat → List Sig → Bool
  | _, [] => true
  | i, s :: r => sigOk p s.at_ && decide (reads p s.at_ = i) && refSigGo p (i + 1) r
theorem refSig_go (p : Plan) : ∀ (r l : List Sig), p.sigs = l ++ r → refSigGo p l.length r = sigGo p (l.map (·.at_)) r := by
  intro r
  induction r with
  | nil => intro l _; rfl
  | cons s r ih =>
    intro l h
    have hr : decide (reads p s.at_ = l.length) = !decide (s.at_ ∈ l.map (·.at_)) := by
      unfold reads
      rw [h, readsGo_append]
      by_cases hm : s.at_ ∈ l.map (·.at_)
      · rw [if_pos hm]
        have := readsGo_mem hm 0
        simp only [hm, decide_true, Bool.not_true, decide_eq_false_iff_not]
        simp at this
        omega
      · rw [if_neg hm]; simp [readsGo, hm]
    have := ih (l ++ [s]) (by simp [h])
    simp only [List.length_append, List.length_cons, List.length_nil, Nat.zero_add, List.map_append, List.map_cons, List.map_nil] at this
    simp only [refSigGo, sigGo, hr, this]
    cases sigOk p s.at_ <;> cases decide (s.at_ ∈ l.map (·.at_)) <;> simp
theorem refSig_eq (p : Plan) : refSigGo p 0 p.sigs = sigGo p [] p.sigs := by
  have := refSig_go p p.sigs [] rfl
  simpa using this
def refGateGo (p : Plan) : Nat → List Elem → Bool
  | _, [] => true
  | i, e :: r => !(decide (e.kind = 4) && decide (reads p ⟨i, 0⟩ < 0)) && refGateGo p (i + 1) r
theorem refGate_eq (p : Plan) : ∀ (r : List Elem) (i : Nat), refGateGo p i r = gateSigGo (p.sigs.map (·.at_)) i r := by
  intro r
  induction r with
  | nil => intro i; rfl
  | cons e r ih =>
    intro i
    simp only [refGateGo, gateSigGo, ih]
    have := readsGo_neg p.sigs ⟨i, 0⟩ 0
    unfold reads
    rw [this]
    by_cases h : e.kind = 4
    · simp [h]
    · simp [h]
def refSignals (p : Plan) : Bool := refSigGo p 0 p.sigs && refGateGo p 0 p.elems
theorem refSignals_eq (p : Plan) : refSignals p = signalsOk p := by unfold refSignals signalsOk; rw [refSig_eq, refGate_eq]

/-! lines -/
def metGo : List Int → List Int → Bool
  | _, [] => true
  | met, e :: r => !decide (e ∈ met) && metGo (met ++ [e]) r
theorem kind_inLine (p : Plan) (e : Int) : decide (p.kind e = 1) = inLine p e := by
  unfold inLine
  by_cases h0 : 0 ≤ e
  · by_cases h1 : e < p.elems.length
    · simp [h0, h1]
    · have : p.kind e = 0 := by
        unfold Plan.kind Plan.elem
        rw [if_pos h0]; simp only [List.getD, List.getElem?_eq_none (show p.elems.length ≤ e.toNat by omega)]; rfl
      simp [h1, this]
  · have : p.kind e = 0 := by
      unfold Plan.kind Plan.elem
      rw [if_neg h0]; rfl
    simp [h0, this]
theorem tracks_eq (p : Plan) : ∀ (l met : List Int), tracksGo p met l = (metGo met l && l.all fun e => decide (p.kind e = 1)) := by
  intro l
  induction l with
  | nil => intro met; rfl
  | cons e r ih =>
    intro met
    simp only [tracksGo, metGo, List.all_cons, ih, kind_inLine]
    cases inLine p e <;> cases decide (e ∈ met) <;> simp
def entersOk (p : Plan) (l : List Int) : Bool := decide (l ≠ []) && (l.all fun e => decide (p.kind e = 1)) && rowOk (nextOf p) l
def refLineGo (p : Plan) : List Int → List Line → Bool
  | _, [] => true
  | met, l :: r => metGo met l.elems && entersOk p l.elems && refLineGo p (met ++ l.elems) r
theorem refLine_eq (p : Plan) : ∀ (l : List Line) (met : List Int), refLineGo p met l = lineGo p met l := by
  intro l
  induction l with
  | nil => intro met; rfl
  | cons x r ih =>
    intro met
    simp only [refLineGo, lineGo, ih, tracks_eq, entersOk]
    cases decide (x.elems ≠ []) <;> cases metGo met x.elems <;> cases (x.elems.all fun e => decide (p.kind e = 1)) <;> simp

end Go.Proofs.Ytlgekkffekagbaa

/- Nets: what the functions of packages net, walk and sight compute of a plan, in plain words. No condition. -/
namespace Go.Proofs.Ytlgekkffekagbaa

structure Way where
  out : Int
  pos : Int
  deriving DecidableEq, Inhabited

def zeroPort : Port := ⟨0, 0⟩
def cross (i : Int) : Int := if i = 0 then 1 else if i = 1 then 0 else if i = 2 then 3 else 2
def outs (p : Plan) (e i : Int) : List Way :=
  if i < 0 ∨ ends (p.kind e) ≤ i then []
  else if p.kind e = 1 then [⟨1 - i, 0⟩]
  else if p.kind e = 3 then [⟨cross i, 0⟩]
  else if p.kind e = 2 then (if i = 0 then [⟨1, 1⟩, ⟨2, 2⟩] else [⟨0, i⟩])
  else []
def wayGo (pos : Int) : List Way → Option Int
  | [] => none
  | w :: r => if w.pos = 0 ∨ w.pos = pos then some w.out else wayGo pos r
def through (p : Plan) (e i pos : Int) : Option Int := wayGo pos (outs p e i)
/-- semaphoreref6.From: the first entry that leads to out -/
def fromGo (p : Plan) (e out pos : Int) : Nat → Int → Option Int
  | 0, _ => none
  | k + 1, i => if through p e i pos = some out then some i else fromGo p e out pos k (i + 1)
def fromRef (p : Plan) (e out pos : Int) : Option Int := fromGo p e out pos (ends (p.kind e)).toNat 0

def sigAt (p : Plan) (s : Int) : Option Port := if 0 ≤ s then (p.sigs[s.toNat]?).map (·.at_) else none

/-- the index of an element in a list -/
def posIn : Nat → List Int → Int → Option Nat
  | _, [], _ => none
  | i, x :: r, e => if x = e then some i else posIn (i + 1) r e
def lineFrom : Nat → List Line → Int → Option (Nat × Nat)
  | _, [], _ => none
  | i, l :: r, e => match posIn 0 l.elems e with
    | some k => some (i, k)
    | none => lineFrom (i + 1) r e
def lineOf (p : Plan) (e : Int) : Option (Nat × Nat) := lineFrom 0 p.lines e

/-- by which end the first element of a line is entered -/
def firstIn (nx : Port → Option Port) : List Int → Int
  | a :: b :: _ => if leadsTo nx ⟨a, 0⟩ b then 1 else 0
  | _ => 0
def endOf (nx : Port → Option Port) (x : Port) : Int := ((nx x).getD zeroPort).n
def leadGo (nx : Port → Option Port) : Int → List Int → List Int
  | _, [] => []
  | i, e :: r => i :: leadGo nx (endOf nx ⟨e, 1 - i⟩) r
def leadList (nx : Port → Option Port) (l : List Int) : List Int := leadGo nx (firstIn nx l) l
/-- the entering end of an element of some line -/
def leadIn (nx : Port → Option Port) : List Line → Int → Option Int
  | [], _ => none
  | l :: r, e => match posIn 0 l.elems e with
    | some k => (leadList nx l.elems)[k]?
    | none => leadIn nx r e
def lead (p : Plan) (e i : Int) : Int := match leadIn (nextOf p) p.lines e with
  | none => 0
  | some x => if i < 0 ∨ 1 < i then 0 else if x = i then 1 else 2

/-! walks -/
def lies (pos : List Int) (e : Int) : Int := if 0 ≤ e then pos.getD e.toNat 0 else 0
def refLies (pos : List Int) (e : Int) : Int := if lies pos e = 1 ∨ lies pos e = 2 then lies pos e else 0
def step (p : Plan) (pos : List Int) (h : Port) : Port × Int := match nextOf p h with
  | none => (zeroPort, 3)
  | some x => if p.kind x.e = 4 then (zeroPort, 2) else match through p x.e x.n (lies pos x.e) with
    | none => (zeroPort, 4)
    | some o => (⟨x.e, o⟩, 0)
def turn (p : Plan) (pos : List Int) (h : Port) : Option Port := (through p h.e h.n (lies pos h.e)).map fun i => ⟨h.e, i⟩
def back (p : Plan) (pos : List Int) (h : Port) : Option Port := (turn p pos h).bind fun x => nextOf p x
def runGo (p : Plan) (pos : List Int) : Nat → Port → List Port × Int
  | 0, h => if (step p pos h).2 ≠ 0 then ([], (step p pos h).2) else ([], 5)
  | k + 1, h => if (step p pos h).2 ≠ 0 then ([], (step p pos h).2) else ((step p pos h).1 :: (runGo p pos k (step p pos h).1).1, (runGo p pos k (step p pos h).1).2)
def runMost (most : Int) : Nat := (max 0 (min most 1000)).toNat
def run (p : Plan) (pos : List Int) (h : Port) (most : Int) : List Port × Int := runGo p pos (runMost most) h
def metres (p : Plan) (l : List Port) : Int := (l.map fun x => p.length x.e).sum

/-! signals along a run -/
def portsNo (p : Plan) : Int := (p.elems.map fun e => ends e.kind).sum
def aheadGo (p : Plan) (pos : List Int) : Nat → Port → Int → Option (Int × Int)
  | k, h, m => if 0 ≤ reads p h then some (reads p h, m) else if (step p pos h).2 ≠ 0 then none else match k with
    | 0 => none
    | k + 1 => aheadGo p pos k (step p pos h).1 (m + p.length (step p pos h).1.e)
def ahead (p : Plan) (pos : List Int) (h : Port) : Option (Int × Int) := aheadGo p pos (portsNo p).toNat h 0
def metSigs (p : Plan) (l : List Port) : List Int := (l.map (reads p)).filter fun s => decide (0 ≤ s)
def routeGo (p : Plan) (pos : List Int) : Nat → Port → List Int
  | k, h => (if 0 ≤ reads p h then [reads p h] else []) ++ (if (step p pos h).2 ≠ 0 then [] else match k with
    | 0 => []
    | k + 1 => routeGo p pos k (step p pos h).1)
def route (p : Plan) (pos : List Int) (h : Port) : List Int := routeGo p pos (portsNo p).toNat h

end Go.Proofs.Ytlgekkffekagbaa

/- Plain laws on nets: joins lead back, ways lead back, what a fine plan has. No condition. -/
namespace Go.Proofs.Ytlgekkffekagbaa

theorem nodup_idx {α : Type} {l : List α} : l.Nodup ↔ ∀ i j, i < j → j < l.length → l[i]? ≠ l[j]? := by
  unfold List.Nodup
  rw [List.pairwise_iff_getElem]
  constructor
  · intro h i j hij hj
    rw [List.getElem?_eq_getElem (show i < l.length by omega), List.getElem?_eq_getElem hj]
    exact fun e => h i j (by omega) hj hij (Option.some.inj e)
  · intro h i j hi hj hij e
    exact h i j hij hj (by rw [List.getElem?_eq_getElem hi, List.getElem?_eq_getElem hj, e])

/-! what a plan that is fine has -/
theorem chk_zero {p : Plan} (h : chk p = 0) : tooMuch p = false ∧ argsOk p = true ∧ namesTwice p = false ∧ joinedOk p = true ∧ signalsOk p = true ∧ linesOk p = true ∧ longOk p = true := by
  unfold chk at h
  cases h1 : tooMuch p <;> cases h2 : argsOk p <;> cases h3 : namesTwice p <;> cases h4 : joinedOk p <;> cases h5 : signalsOk p <;> cases h6 : linesOk p <;> cases h7 : longOk p <;> simp_all

theorem flat_mem {js : List Join} {x : Port} : x ∈ flatJoins js ↔ ∃ j ∈ js, x = j.a ∨ x = j.b := by
  induction js with
  | nil => simp [flatJoins]
  | cons j r ih => simp [flatJoins, ih, or_assoc]
theorem joinGo_ok {p : Plan} : ∀ (js : List Join) (met : List Port), joinGo p met js = true → (flatJoins js).Nodup ∧ (∀ x ∈ flatJoins js, x ∉ met) ∧ ∀ x ∈ flatJoins js, isPort p x = true := by
  intro js
  induction js with
  | nil => intro met _; simp [flatJoins]
  | cons j r ih =>
    intro met h
    simp only [joinGo, Bool.and_eq_true, Bool.not_eq_true', Bool.or_eq_false_iff, decide_eq_false_iff_not, Bool.not_eq_false'] at h
    obtain ⟨⟨⟨⟨⟨h1, h2⟩, h3⟩, h4⟩, h5⟩, h6⟩ := h
    obtain ⟨i1, i2, i3⟩ := ih _ h6
    have hna : j.a ∉ flatJoins r := fun hm => i2 _ hm (by simp)
    have hnb : j.b ∉ flatJoins r := fun hm => i2 _ hm (by simp)
    refine ⟨?_, ?_, ?_⟩
    · simp only [flatJoins, List.nodup_cons, List.mem_cons, not_or]
      exact ⟨⟨h3, hna⟩, hnb, i1⟩
    · intro x hx
      simp only [flatJoins, List.mem_cons] at hx
      rcases hx with rfl | rfl | hx
      · exact h1
      · exact h2
      · intro hm; exact i2 x hx (by simp [hm])
    · intro x hx
      simp only [flatJoins, List.mem_cons] at hx
      rcases hx with rfl | rfl | hx
      · exact h4
      · exact h5
      · exact i3 x hx

theorem nextIn_some {js : List Join} {x y : Port} (h : nextIn js x = some y) : x ∈ flatJoins js ∧ y ∈ flatJoins js := by
  induction js with
  | nil => simp [nextIn] at h
  | cons j r ih =>
    unfold nextIn at h
    split at h
    · rename_i he; cases h; simp [flatJoins, he]
    · split at h
      · rename_i he; cases h; simp [flatJoins, he]
      · have := ih h; simp [flatJoins, this.1, this.2]
theorem nextIn_none {js : List Join} {x : Port} : nextIn js x = none ↔ x ∉ flatJoins js := by
  induction js with
  | nil => simp [nextIn, flatJoins]
  | cons j r ih =>
    unfold nextIn
    split
    · rename_i he; simp [flatJoins, he]
    · rename_i h1
      split
      · rename_i he; simp [flatJoins, he]
      · rename_i h2
        rw [ih]; simp [flatJoins, show x ≠ j.a from fun e => h1 e.symm, show x ≠ j.b from fun e => h2 e.symm]
theorem nextIn_back {js : List Join} (hn : (flatJoins js).Nodup) {x y : Port} (h : nextIn js x = some y) : nextIn js y = some x ∧ x ≠ y := by
  induction js with
  | nil => simp [nextIn] at h
  | cons j r ih =>
    simp only [flatJoins, List.nodup_cons, List.mem_cons, not_or] at hn
    obtain ⟨⟨h1, h2⟩, h3, h4⟩ := hn
    unfold nextIn at h ⊢
    split at h
    · rename_i he
      cases h
      rw [if_neg h1, if_pos rfl]
      exact ⟨by rw [he], by rw [← he]; exact h1⟩
    · rename_i hne
      split at h
      · rename_i he
        cases h
        rw [if_pos rfl]
        exact ⟨by rw [he], by rw [← he]; exact fun e => h1 e.symm⟩
      · rename_i hne2
        obtain ⟨m1, m2⟩ := nextIn_some h
        rw [if_neg (fun e => h2 (by rw [e]; exact m2)), if_neg (fun e => h3 (by rw [e]; exact m2))]
        exact ih h4 h

/-- the facts of a plan that may be -/
structure Good (p : Plan) : Prop where
  chk : chk p = 0
  nodup : (flatJoins p.joins).Nodup
  port : ∀ x ∈ flatJoins p.joins, isPort p x = true
theorem good_of {p : Plan} (h : chk p = 0) : Good p := by
  obtain ⟨_, _, _, h4, _⟩ := chk_zero h
  unfold joinedOk at h4
  simp only [Bool.and_eq_true] at h4
  obtain ⟨i1, _, i3⟩ := joinGo_ok _ _ h4.1
  exact ⟨h, i1, i3⟩
theorem Good.back {p : Plan} (g : Good p) {x y : Port} (h : nextOf p x = some y) : nextOf p y = some x ∧ x ≠ y := nextIn_back g.nodup h
theorem Good.ports {p : Plan} (g : Good p) {x y : Port} (h : nextOf p x = some y) : isPort p x = true ∧ isPort p y = true :=
  ⟨g.port _ (nextIn_some h).1, g.port _ (nextIn_some h).2⟩

/-! ways lead back -/
theorem outs_zero {p : Plan} {e : Int} (h : p.kind e ≠ 1) (h2 : p.kind e ≠ 2) (h3 : p.kind e ≠ 3) (i : Int) : outs p e i = [] := by
  unfold outs
  simp [h, h2, h3]
theorem through_kind {p : Plan} {e i pos o : Int} (h : through p e i pos = some o) : p.kind e = 1 ∨ p.kind e = 2 ∨ p.kind e = 3 := by
  by_cases h1 : p.kind e = 1
  · exact .inl h1
  by_cases h2 : p.kind e = 2
  · exact .inr (.inl h2)
  by_cases h3 : p.kind e = 3
  · exact .inr (.inr h3)
  · unfold through at h; rw [outs_zero h1 h2 h3] at h; cases h
theorem through_track {p : Plan} {e : Int} (h : p.kind e = 1) (i pos : Int) : through p e i pos = if i < 0 ∨ 2 ≤ i then none else some (1 - i) := by
  unfold through outs
  simp only [h, ends]
  by_cases hi : i < 0 ∨ 2 ≤ i
  · simp [hi, wayGo]
  · simp [hi, wayGo]
theorem through_cross {p : Plan} {e : Int} (h : p.kind e = 3) (i pos : Int) : through p e i pos = if i < 0 ∨ 4 ≤ i then none else some (cross i) := by
  unfold through outs
  simp only [h, ends]
  by_cases hi : i < 0 ∨ 4 ≤ i
  · simp [hi, wayGo]
  · simp [hi, wayGo]
theorem through_points {p : Plan} {e : Int} (h : p.kind e = 2) (i pos : Int) : through p e i pos = if i = 0 then (if pos = 1 then some 1 else if pos = 2 then some 2 else none) else if i = 1 then (if pos = 1 then some 0 else none) else if i = 2 then (if pos = 2 then some 0 else none) else none := by
  unfold through outs
  simp only [h, ends]
  by_cases hi : i < 0 ∨ 3 ≤ i
  · rw [if_neg (show ¬ i = 1 by omega), if_neg (show ¬ i = 2 by omega)]
    rw [if_pos (by simpa using hi)]
    simp [wayGo, show ¬ i = 0 by omega]
  · have : i = 0 ∨ i = 1 ∨ i = 2 := by omega
    rcases this with rfl | rfl | rfl
    · by_cases h1 : pos = 1
      · subst h1; simp [wayGo]
      · by_cases h2 : pos = 2
        · subst h2; simp [wayGo]
        · simp [wayGo, h1, h2, show ¬ (1 : Int) = pos from fun e => h1 e.symm, show ¬ (2 : Int) = pos from fun e => h2 e.symm]
    · by_cases h1 : pos = 1
      · subst h1; simp [wayGo]
      · simp [wayGo, h1, show ¬ (1 : Int) = pos from fun e => h1 e.symm]
    · by_cases h1 : pos = 2
      · subst h1; simp [wayGo]
      · simp [wayGo, h1, show ¬ (2 : Int) = pos from fun e => h1 e.symm]
theorem cross_cases {i : Int} (h0 : 0 ≤ i) (h1 : i < 4) : 0 ≤ cross i ∧ cross i < 4 ∧ cross (cross i) = i := by
  have : i = 0 ∨ i = 1 ∨ i = 2 ∨ i = 3 := by omega
  rcases this with rfl | rfl | rfl | rfl <;> decide
theorem through_back {p : Plan} {e i pos o : Int} (h : through p e i pos = some o) : through p e o pos = some i := by
  rcases through_kind h with hk | hk | hk
  · rw [through_track hk] at h ⊢
    split at h
    · cases h
    · simp at h; subst h; rw [if_neg (by omega)]; congr 1; omega
  · rw [through_points hk] at h ⊢
    repeat' split at h
    all_goals first | (cases h; done) | (simp at h; subst h; subst_vars; simp)
  · rw [through_cross hk] at h ⊢
    split at h
    · cases h
    · simp at h; subst h
      obtain ⟨c1, c2, c3⟩ := cross_cases (i := i) (by omega) (by omega)
      rw [if_neg (by omega), c3]
theorem through_range {p : Plan} {e i pos o : Int} (h : through p e i pos = some o) : 0 ≤ i ∧ i < ends (p.kind e) := by
  unfold through outs at h
  split at h
  · cases h
  · omega
theorem through_lies {p : Plan} {e i x : Int} : through p e i (if x = 1 ∨ x = 2 then x else 0) = through p e i x := by
  by_cases h1 : p.kind e = 1
  · rw [through_track h1, through_track h1]
  by_cases h3 : p.kind e = 3
  · rw [through_cross h3, through_cross h3]
  by_cases h2 : p.kind e = 2
  · rw [through_points h2, through_points h2]
    by_cases hx : x = 1 ∨ x = 2
    · rw [if_pos hx]
    · rw [if_neg hx]
      simp [show ¬ x = 1 by omega, show ¬ x = 2 by omega]
  · unfold through; rw [outs_zero h1 h2 h3]; rfl
theorem fromGo_eq (p : Plan) (e out pos : Int) : ∀ (k : Nat) (i : Int), fromGo p e out pos k i = match through p e out pos with
    | some j => if i ≤ j ∧ j < i + k then some j else none
    | none => none := by
  intro k
  induction k with
  | zero =>
    intro i
    unfold fromGo
    cases through p e out pos with
    | none => rfl
    | some j => simp only; rw [if_neg (by omega)]
  | succ k ih =>
    intro i
    unfold fromGo
    by_cases h : through p e i pos = some out
    · rw [if_pos h, through_back h]; simp only; rw [if_pos (by omega)]
    · rw [if_neg h, ih]
      cases ht : through p e out pos with
      | none => rfl
      | some j =>
        simp only
        have hj : j ≠ i := fun e1 => h (by rw [← e1]; exact through_back ht)
        by_cases hc : i + 1 ≤ j ∧ j < i + 1 + k
        · rw [if_pos hc, if_pos (by omega)]
        · rw [if_neg hc, if_neg (by omega)]
theorem ends_nonneg (k : Int) : 0 ≤ ends k ∧ ends k ≤ 4 := by
  unfold ends
  repeat' split
  all_goals omega
theorem fromRef_eq (p : Plan) (e out pos : Int) : fromRef p e out pos = through p e out pos := by
  unfold fromRef
  rw [fromGo_eq]
  have := ends_nonneg (p.kind e)
  cases ht : through p e out pos with
  | none => rfl
  | some j =>
    simp only
    have h2 := through_range (through_back ht)
    rw [if_pos (by omega)]
theorem Good.notGate {p : Plan} {e i pos o : Int} (h : through p e i pos = some o) : p.kind e ≠ 4 := by
  rcases through_kind h with h | h | h <;> omega

/-! walks -/
theorem step_ok {p : Plan} {pos : List Int} {h x : Port} (hs : step p pos h = (x, 0)) : ∃ y, nextOf p h = some y ∧ x.e = y.e ∧ through p y.e y.n (lies pos y.e) = some x.n := by
  unfold step at hs
  cases hn : nextOf p h with
  | none => simp [hn] at hs
  | some y =>
    simp only [hn] at hs
    split at hs
    · simp at hs
    · cases ht : through p y.e y.n (lies pos y.e) with
      | none => simp [ht] at hs
      | some o =>
        simp only [ht, Prod.mk.injEq, and_true] at hs
        subst hs
        exact ⟨y, rfl, rfl, ht⟩
theorem step_mk {p : Plan} {pos : List Int} {h y : Port} {o : Int} (hn : nextOf p h = some y) (ht : through p y.e y.n (lies pos y.e) = some o) : step p pos h = (⟨y.e, o⟩, 0) := by
  unfold step
  simp only [hn]
  rw [if_neg (Good.notGate ht)]
  simp only [ht]
theorem back_of_step {p : Plan} (g : Good p) {pos : List Int} {h x : Port} (hs : step p pos h = (x, 0)) : back p pos x = some h := by
  obtain ⟨y, hn, he, ht⟩ := step_ok hs
  unfold back turn
  rw [he, through_back ht]
  simp only [Option.map_some, Option.bind_some]
  exact (g.back hn).1
theorem step_of_back {p : Plan} (g : Good p) {pos : List Int} {h b : Port} (hb : back p pos h = some b) : step p pos b = (h, 0) := by
  unfold back turn at hb
  cases ht : through p h.e h.n (lies pos h.e) with
  | none => simp [ht] at hb
  | some i =>
    simp only [ht, Option.map_some, Option.bind_some] at hb
    have hn := (g.back hb).1
    have := step_mk (pos := pos) hn (through_back ht)
    exact this
theorem step_inj {p : Plan} (g : Good p) {pos : List Int} {h h' x : Port} (h1 : step p pos h = (x, 0)) (h2 : step p pos h' = (x, 0)) : h = h' :=
  Option.some.inj ((back_of_step g h1).symm.trans (back_of_step g h2))

end Go.Proofs.Ytlgekkffekagbaa

/- Plain laws on runs: how they join, that they end or come back. No condition. -/
namespace Go.Proofs.Ytlgekkffekagbaa

theorem step_fst {p : Plan} {pos : List Int} {h : Port} (hs : (step p pos h).2 = 0) : step p pos h = ((step p pos h).1, 0) := by
  rw [← hs]

/-- semaphoreref6.Step -/
def refStep6 (p : Plan) (pos : List Int) (h : Port) : Port × Int := match nextOf p h with
  | none => (zeroPort, 3)
  | some x => if p.kind x.e = 4 then (zeroPort, 2) else match through p x.e x.n (refLies pos x.e) with
    | none => (zeroPort, 4)
    | some o => (⟨x.e, o⟩, 0)
theorem refStep6_eq (p : Plan) (pos : List Int) (h : Port) : refStep6 p pos h = step p pos h := by
  unfold refStep6 step refLies
  cases nextOf p h with
  | none => rfl
  | some x => first | (simp only [through_lies]; done) | (simp only [through_lies]; rfl)

theorem run_len (p : Plan) (pos : List Int) : ∀ (k : Nat) (h : Port), (runGo p pos k h).1.length ≤ k ∧ ((runGo p pos k h).2 = 5 → (runGo p pos k h).1.length = k) := by
  intro k
  induction k with
  | zero => intro h; unfold runGo; split <;> simp
  | succ k ih =>
    intro h
    unfold runGo
    by_cases hs : (step p pos h).2 ≠ 0
    · rw [if_pos hs]; simp only [List.length_nil]
      refine ⟨by omega, fun h5 => ?_⟩
      exfalso
      unfold step at h5 hs
      cases hn : nextOf p h with
      | none => simp [hn] at h5
      | some x =>
        simp only [hn] at h5
        split at h5
        · simp at h5
        · cases ht : through p x.e x.n (lies pos x.e) <;> simp [ht] at h5
    · rw [if_neg hs]
      obtain ⟨h1, h2⟩ := ih (step p pos h).1
      simp only [List.length_cons]
      exact ⟨by omega, fun h5 => by rw [h2 h5]⟩

theorem step_end {p : Plan} {pos : List Int} {h : Port} : (step p pos h).2 = 0 ∨ (step p pos h).2 = 2 ∨ (step p pos h).2 = 3 ∨ (step p pos h).2 = 4 := by
  unfold step
  cases nextOf p h with
  | none => simp
  | some x =>
    simp only
    split
    · simp
    · cases through p x.e x.n (lies pos x.e) <;> simp

/-- A run of a + b steps is one of a, and one of b from there. -/
def lastOf (h : Port) (l : List Port) : Port := l.getLast?.getD h
theorem lastOf_cons (h x : Port) (l : List Port) : lastOf h (x :: l) = lastOf x l := by
  unfold lastOf
  cases l with
  | nil => rfl
  | cons y r => simp [List.getLast?_cons_cons]; cases hr : (y :: r).getLast? with
    | none => simp at hr
    | some z => rfl
theorem run_join (p : Plan) (pos : List Int) (b : Nat) : ∀ (a : Nat) (h : Port), runGo p pos (a + b) h =
    if (runGo p pos a h).2 ≠ 5 then runGo p pos a h else ((runGo p pos a h).1 ++ (runGo p pos b (lastOf h (runGo p pos a h).1)).1, (runGo p pos b (lastOf h (runGo p pos a h).1)).2) := by
  intro a
  induction a with
  | zero =>
    intro h
    rw [Nat.zero_add]
    by_cases hs : (step p pos h).2 ≠ 0
    · have h0 : runGo p pos 0 h = ([], (step p pos h).2) := by unfold runGo; rw [if_pos hs]
      have hb : runGo p pos b h = ([], (step p pos h).2) := by cases b <;> (unfold runGo; rw [if_pos hs])
      rw [h0, hb]
      rcases step_end (p := p) (pos := pos) (h := h) with e | e | e | e
      · exact absurd e hs
      all_goals simp [e]
    · have h0 : runGo p pos 0 h = ([], 5) := by unfold runGo; rw [if_neg hs]
      rw [h0]; simp [lastOf]
  | succ a ih =>
    intro h
    rw [show a + 1 + b = a + b + 1 by omega]
    have e1 : runGo p pos (a + b + 1) h = if (step p pos h).2 ≠ 0 then ([], (step p pos h).2) else ((step p pos h).1 :: (runGo p pos (a + b) (step p pos h).1).1, (runGo p pos (a + b) (step p pos h).1).2) := rfl
    have e2 : runGo p pos (a + 1) h = if (step p pos h).2 ≠ 0 then ([], (step p pos h).2) else ((step p pos h).1 :: (runGo p pos a (step p pos h).1).1, (runGo p pos a (step p pos h).1).2) := rfl
    rw [e1, e2]
    by_cases hs : (step p pos h).2 ≠ 0
    · rw [if_pos hs]
      rcases step_end (p := p) (pos := pos) (h := h) with e | e | e | e
      · exact absurd e hs
      all_goals simp [e]
    · rw [if_neg hs, if_neg hs]
      rw [ih]
      by_cases h5 : (runGo p pos a (step p pos h).1).2 ≠ 5
      · rw [if_pos h5, if_pos h5]
      · rw [if_neg h5, if_neg h5]
        simp only [lastOf_cons, List.cons_append]
theorem metres_append (p : Plan) (a b : List Port) : metres p (a ++ b) = metres p a + metres p b := by simp [metres]

/-! the headings of a run, one by one -/
theorem run_get (p : Plan) (pos : List Int) : ∀ (k : Nat) (h : Port) (i : Nat) (x : Port), (runGo p pos k h).1[i]? = some x →
    step p pos (match i with | 0 => h | i + 1 => (runGo p pos k h).1.getD i zeroPort) = (x, 0) := by
  intro k
  induction k with
  | zero => intro h i x hx; unfold runGo at hx; split at hx <;> simp at hx
  | succ k ih =>
    intro h i x hx
    unfold runGo at hx ⊢
    by_cases hs : (step p pos h).2 ≠ 0
    · rw [if_pos hs] at hx; simp at hx
    · rw [if_neg hs] at hx ⊢
      have hs0 : (step p pos h).2 = 0 := by simpa using hs
      cases i with
      | zero =>
        simp only [List.getElem?_cons_zero, Option.some.injEq] at hx
        simp only
        rw [← hx, ← hs0]
      | succ i =>
        simp only [List.getElem?_cons_succ] at hx
        have := ih _ i x hx
        cases i with
        | zero => simpa using this
        | succ i => simpa using this
theorem run_end (p : Plan) (pos : List Int) : ∀ (k : Nat) (h : Port), (runGo p pos k h).2 ≠ 5 → (step p pos (lastOf h (runGo p pos k h).1)).2 ≠ 0 := by
  intro k
  induction k with
  | zero =>
    intro h h5
    unfold runGo at h5 ⊢
    by_cases hs : (step p pos h).2 ≠ 0
    · rw [if_pos hs]; simpa [lastOf] using hs
    · rw [if_neg hs] at h5; simp at h5
  | succ k ih =>
    intro h h5
    unfold runGo at h5 ⊢
    by_cases hs : (step p pos h).2 ≠ 0
    · rw [if_pos hs]; simpa [lastOf] using hs
    · rw [if_neg hs] at h5 ⊢
      simp only [lastOf_cons]
      exact ih _ h5

/-- where two headings of a run are one, so are the first one and one that lies as far behind it -/
theorem run_shift {p : Plan} (g : Good p) {pos : List Int} {k : Nat} {h : Port} : ∀ (i j : Nat) (x : Port), (runGo p pos k h).1[i]? = some x → (runGo p pos k h).1[j]? = some x → i ≤ j →
    ∃ y, (runGo p pos k h).1[0]? = some y ∧ (runGo p pos k h).1[j - i]? = some y := by
  intro i
  induction i with
  | zero => intro j x hi hj _; exact ⟨x, hi, by simpa using hj⟩
  | succ i ih =>
    intro j x hi hj hij
    obtain ⟨j', rfl⟩ : ∃ j', j = j' + 1 := ⟨j - 1, by omega⟩
    have s1 := run_get p pos k h _ x hi
    have s2 := run_get p pos k h _ x hj
    simp only at s1 s2
    have he := step_inj g s1 s2
    have hli : i < (runGo p pos k h).1.length := by have := (List.getElem?_eq_some_iff.1 hi).1; omega
    have hlj : j' < (runGo p pos k h).1.length := by have := (List.getElem?_eq_some_iff.1 hj).1; omega
    have e1 : (runGo p pos k h).1.getD i zeroPort = (runGo p pos k h).1[i] := by simp [List.getD, List.getElem?_eq_getElem hli]
    have e2 : (runGo p pos k h).1.getD j' zeroPort = (runGo p pos k h).1[j'] := by simp [List.getD, List.getElem?_eq_getElem hlj]
    rw [e1, e2] at he
    obtain ⟨y, h1, h2⟩ := ih j' _ (List.getElem?_eq_getElem hli) (by rw [List.getElem?_eq_getElem hlj, he]) (by omega)
    exact ⟨y, h1, by rw [show j' + 1 - (i + 1) = j' - i by omega]; exact h2⟩

/-- a run that ends has no heading twice -/
theorem run_nodup {p : Plan} (g : Good p) {pos : List Int} {k : Nat} {h : Port} (h5 : (runGo p pos k h).2 ≠ 5) : (runGo p pos k h).1.Nodup := by
  rw [nodup_idx]
  intro i j hij hj he
  have hx : ∃ x, (runGo p pos k h).1[j]? = some x := ⟨_, List.getElem?_eq_getElem hj⟩
  obtain ⟨x, hx⟩ := hx
  obtain ⟨y, hy0, hyd⟩ := run_shift g i j x (by rw [he, hx]) hx (by omega)
  -- d = j - i > 0: heading m and heading m + d are one, as far as both are there
  have hd : 0 < j - i := by omega
  have key : ∀ m, m + (j - i) < (runGo p pos k h).1.length → (runGo p pos k h).1[m]? = (runGo p pos k h).1[m + (j - i)]? := by
    intro m
    induction m with
    | zero => intro _; rw [hy0, Nat.zero_add, hyd]
    | succ m ih =>
      intro hm
      have hm1 : m + 1 < (runGo p pos k h).1.length := by omega
      have e0 := ih (by omega)
      have s1 := run_get p pos k h (m + 1) _ (List.getElem?_eq_getElem hm1)
      have s2 := run_get p pos k h (m + (j - i) + 1) _ (List.getElem?_eq_getElem (show m + (j - i) + 1 < _ by omega))
      simp only at s1 s2
      have e1 : (runGo p pos k h).1.getD m zeroPort = (runGo p pos k h).1.getD (m + (j - i)) zeroPort := by simp only [List.getD, e0]
      rw [e1, s2] at s1
      rw [show m + 1 + (j - i) = m + (j - i) + 1 by omega, List.getElem?_eq_getElem hm1, List.getElem?_eq_getElem (show m + (j - i) + 1 < _ by omega)]
      have := congrArg Prod.fst s1
      simp only at this
      rw [this]
  -- the last heading has a step: the one that lies d before it has
  have hlen : j < (runGo p pos k h).1.length := hj
  have hend := run_end p pos k h h5
  have hl : lastOf h (runGo p pos k h).1 = (runGo p pos k h).1[(runGo p pos k h).1.length - 1]'(by omega) := by
    unfold lastOf
    rw [List.getLast?_eq_getElem?, List.getElem?_eq_getElem (by omega)]; rfl
  have hm := key ((runGo p pos k h).1.length - 1 - (j - i)) (by omega)
  rw [show (runGo p pos k h).1.length - 1 - (j - i) + (j - i) = (runGo p pos k h).1.length - 1 by omega, List.getElem?_eq_getElem (show (runGo p pos k h).1.length - 1 < _ by omega)] at hm
  have hs : (runGo p pos k h).1.length - 1 - (j - i) + 1 < (runGo p pos k h).1.length := by omega
  have s3 := run_get p pos k h ((runGo p pos k h).1.length - 1 - (j - i) + 1) _ (List.getElem?_eq_getElem hs)
  simp only [List.getD, hm, Option.getD_some] at s3
  rw [hl, s3] at hend
  exact hend rfl

/-- all headings of a run are ports of the plan -/
theorem isPort_iff {p : Plan} {x : Port} : isPort p x = true ↔ 0 ≤ x.e ∧ x.e < p.elems.length ∧ 0 ≤ x.n ∧ x.n < ends (p.kind x.e) := by
  unfold isPort; simp [and_assoc]
theorem step_port {p : Plan} (g : Good p) {pos : List Int} {h x : Port} (hs : step p pos h = (x, 0)) : isPort p x = true := by
  obtain ⟨y, hn, he, ht⟩ := step_ok hs
  have hy := isPort_iff.1 (g.ports hn).2
  have hr := through_range (through_back ht)
  rw [isPort_iff, he]
  exact ⟨hy.1, hy.2.1, hr.1, hr.2⟩

def allPorts (n : Nat) : List Port := (List.range n).flatMap fun (i : Nat) => [⟨i, 0⟩, ⟨i, 1⟩, ⟨i, 2⟩, ⟨i, 3⟩]
theorem allPorts_length (n : Nat) : (allPorts n).length = 4 * n := by
  unfold allPorts
  induction n with
  | zero => rfl
  | succ n ih => rw [List.range_succ, List.flatMap_append, List.length_append, ih]; simp; omega
theorem allPorts_mem {p : Plan} {x : Port} (h : isPort p x = true) : x ∈ allPorts p.elems.length := by
  obtain ⟨h1, h2, h3, h4⟩ := isPort_iff.1 h
  have := ends_nonneg (p.kind x.e)
  unfold allPorts
  rw [List.mem_flatMap]
  refine ⟨x.e.toNat, by simp; omega, ?_⟩
  obtain ⟨a, b⟩ := x
  have ha : ((a.toNat : Nat) : Int) = a := by simp at h1; omega
  have hb : b = 0 ∨ b = 1 ∨ b = 2 ∨ b = 3 := by simp at h3 h4 this; omega
  simp only [ha]
  rcases hb with rfl | rfl | rfl | rfl <;> simp
theorem nodup_le {α : Type} [DecidableEq α] : ∀ (l m : List α), l.Nodup → (∀ x ∈ l, x ∈ m) → l.length ≤ m.length := by
  intro l
  induction l with
  | nil => intro m _ _; simp
  | cons x r ih =>
    intro m hn hs
    obtain ⟨h1, h2⟩ := List.nodup_cons.1 hn
    have hx : x ∈ m := hs x (by simp)
    have := ih (m.erase x) h2 (fun y hy => (List.mem_erase_of_ne (fun e => h1 (by rw [← e]; exact hy))).2 (hs y (by simp [hy])))
    rw [List.length_erase_of_mem hx] at this
    have : 0 < m.length := List.length_pos_of_mem hx
    simp only [List.length_cons]; omega
theorem run_ports {p : Plan} (g : Good p) {pos : List Int} {k : Nat} {h x : Port} (hx : x ∈ (runGo p pos k h).1) : isPort p x = true := by
  obtain ⟨i, hi⟩ := List.getElem?_of_mem hx
  exact step_port g (run_get p pos k h i x hi)
theorem run_short {p : Plan} (g : Good p) (h40 : p.elems.length ≤ 40) {pos : List Int} {k : Nat} {h : Port} (h5 : (runGo p pos k h).2 ≠ 5) : (runGo p pos k h).1.length ≤ 160 := by
  have := nodup_le _ (allPorts p.elems.length) (run_nodup g h5) (fun x hx => allPorts_mem (run_ports g hx))
  rw [allPorts_length] at this; omega

/-- semaphorelaw5.WalkRings' search: none again, or the first time that a heading comes again it is the first one's -/
def ringRow (l : List Port) (i : Nat) (again : Bool) : List Nat → Option Bool
  | [] => some again
  | k :: r => if decide (l[i]? = l[k]?) && !again then (if k ≠ 0 then none else ringRow l i true r) else ringRow l i again r
def ringGo (l : List Port) : Bool → List Nat → Option Bool
  | again, [] => some again
  | again, i :: r => match ringRow l i again (List.range i) with
    | none => none
    | some a => ringGo l a r
theorem ringRow_true (l : List Port) (i : Nat) : ∀ ks, ringRow l i true ks = some true := by
  intro ks
  induction ks with
  | nil => rfl
  | cons k r ih => unfold ringRow; simp [ih]
theorem ringGo_true (l : List Port) : ∀ r, ringGo l true r = some true := by
  intro r
  induction r with
  | nil => rfl
  | cons i r ih => unfold ringGo; rw [ringRow_true]; exact ih
theorem ringRow_none {l : List Port} {i : Nat} : ∀ ks, (∀ k ∈ ks, l[i]? ≠ l[k]?) → ringRow l i false ks = some false := by
  intro ks
  induction ks with
  | nil => intro _; rfl
  | cons k r ih =>
    intro h
    unfold ringRow
    have h1 := h k (by simp)
    simp only [h1, decide_false, Bool.false_and]
    exact ih (fun k hk => h k (by simp [hk]))
/-- the first index at which a heading comes again has it in common with index 0 -/
theorem ringGo_ok {l : List Port} (hsh : ∀ (i j : Nat) (x : Port), l[i]? = some x → l[j]? = some x → i ≤ j → ∃ y, l[0]? = some y ∧ l[j - i]? = some y) :
    ∀ (m i : Nat), i + m = l.length → 1 ≤ i → (∀ a b, a < b → b < i → l[a]? ≠ l[b]?) → ringGo l false ((List.range m).map (· + i)) = some (decide (¬ l.Nodup)) := by
  intro m
  induction m with
  | zero =>
    intro i hi _ hno
    have : l.Nodup := by
      rw [nodup_idx]
      intro a b hab hb; exact hno a b hab (by omega)
    simp [ringGo, this]
  | succ m ih =>
    intro i hi h1 hno
    rw [List.range_succ_eq_map, List.map_cons, List.map_map, Nat.zero_add]
    have hf : ((fun x => x + i) ∘ Nat.succ) = (fun x => x + (i + 1)) := by funext x; simp; omega
    rw [hf]
    unfold ringGo
    have hil : i < l.length := by omega
    by_cases hr : ∃ a, a < i ∧ l[a]? = l[i]?
    · obtain ⟨a, ha, he⟩ := hr
      -- index 0 has it
      have h0 : l[0]? = l[i]? := by
        cases a with
        | zero => exact he
        | succ a =>
          exfalso
          obtain ⟨y, hy0, hyd⟩ := hsh (a + 1) i (l[i]) (by rw [he, List.getElem?_eq_getElem hil]) (List.getElem?_eq_getElem hil) (by omega)
          exact hno 0 (i - (a + 1)) (by omega) (by omega) (by rw [hy0, hyd])
      have hnd : ¬ l.Nodup := by
        rw [nodup_idx]
        intro hn; exact hn 0 i (by omega) hil h0
      have hrow : ringRow l i false (List.range i) = some true := by
        obtain ⟨i', rfl⟩ : ∃ i', i = i' + 1 := ⟨i - 1, by omega⟩
        rw [List.range_succ_eq_map]
        unfold ringRow
        simp only [h0.symm, decide_true, Bool.true_and, Bool.not_false, if_true]
        simp [ringRow_true]
      rw [hrow]
      simp only [ringGo_true]
      simp [hnd]
    · have hrow : ringRow l i false (List.range i) = some false := ringRow_none _ (fun k hk e => hr ⟨k, by simpa using hk, e.symm⟩)
      rw [hrow]
      exact ih (i + 1) (by omega) (by omega) (fun a b hab hb => by
        rcases Nat.lt_or_ge b i with h | h
        · exact hno a b hab h
        · have : b = i := by omega
          subst this
          exact fun e => hr ⟨a, hab, e⟩)
theorem run_rings {p : Plan} (g : Good p) (h40 : p.elems.length ≤ 40) {pos : List Int} {h : Port} (h5 : (runGo p pos 200 h).2 = 5) :
    ringGo (runGo p pos 200 h).1 false ((List.range ((runGo p pos 200 h).1.length - 1)).map (· + 1)) = some true := by
  have hl := (run_len p pos 200 h).2 h5
  rw [ringGo_ok (fun i j x => run_shift g i j x) _ 1 (by omega) (by omega) (by intro a b h1 h2; omega)]
  have : ¬ (runGo p pos 200 h).1.Nodup := by
    intro hn
    have := nodup_le _ (allPorts p.elems.length) hn (fun x hx => allPorts_mem (run_ports g hx))
    rw [allPorts_length] at this; omega
  simp [this]

/-! turned -/
theorem turn_back {p : Plan} {pos : List Int} {h t : Port} (ht : turn p pos h = some t) : turn p pos t = some h ∧ t.e = h.e := by
  unfold turn at ht ⊢
  cases h1 : through p h.e h.n (lies pos h.e) with
  | none => simp [h1] at ht
  | some i =>
    simp only [h1, Option.map_some, Option.some.injEq] at ht
    subst ht
    simp only
    rw [through_back h1]
    simp
theorem turned {p : Plan} (g : Good p) {pos : List Int} {h x : Port} (hs : step p pos h = (x, 0)) : ∃ b, turn p pos x = some b ∧
    (∀ t, turn p pos h = some t → step p pos b = (t, 0)) ∧ (turn p pos h = none → (step p pos b).2 = 4 ∨ (step p pos b).2 = 2) := by
  obtain ⟨y, hn, he, ht⟩ := step_ok hs
  have hb := (g.back hn).1
  refine ⟨y, ?_, ?_, ?_⟩
  · unfold turn; rw [he, through_back ht]; rfl
  · intro t hht
    unfold turn at hht
    cases h1 : through p h.e h.n (lies pos h.e) with
    | none => simp [h1] at hht
    | some i =>
      simp only [h1, Option.map_some, Option.some.injEq] at hht
      subst hht
      exact step_mk hb h1
  · intro hht
    unfold turn at hht
    cases h1 : through p h.e h.n (lies pos h.e) with
    | some i => simp [h1] at hht
    | none =>
      unfold step
      simp only [hb, h1]
      split <;> simp

/-! signals along a run -/
theorem aheadGo_none (_p : Plan) (_pos : List Int) : True := trivial
theorem route_eq (p : Plan) (pos : List Int) : ∀ (k : Nat) (h : Port), routeGo p pos k h = metSigs p (h :: (runGo p pos k h).1) := by
  intro k
  induction k with
  | zero =>
    intro h
    unfold routeGo runGo metSigs
    by_cases hs : (step p pos h).2 ≠ 0 <;> by_cases hr : 0 ≤ reads p h <;> simp [hs, hr]
  | succ k ih =>
    intro h
    have e1 : routeGo p pos (k + 1) h = (if 0 ≤ reads p h then [reads p h] else []) ++ (if (step p pos h).2 ≠ 0 then [] else routeGo p pos k (step p pos h).1) := rfl
    have e2 : runGo p pos (k + 1) h = if (step p pos h).2 ≠ 0 then ([], (step p pos h).2) else ((step p pos h).1 :: (runGo p pos k (step p pos h).1).1, (runGo p pos k (step p pos h).1).2) := rfl
    rw [e1, e2]
    by_cases hs : (step p pos h).2 ≠ 0
    · rw [if_pos hs, if_pos hs]; unfold metSigs; by_cases hr : 0 ≤ reads p h <;> simp [hr]
    · rw [if_neg hs, if_neg hs, ih]; unfold metSigs; by_cases hr : 0 ≤ reads p h <;> simp [hr]
/-- semaphoreref6.Ahead: the search along a run -/
def aheadRun (p : Plan) : List Port → Int → Option (Int × Int)
  | [], _ => none
  | x :: r, m => if 0 ≤ reads p x then some (reads p x, m + p.length x.e) else aheadRun p r (m + p.length x.e)
def refAhead (p : Plan) (pos : List Int) (h : Port) : Option (Int × Int) := if 0 ≤ reads p h then some (reads p h, 0) else aheadRun p (runGo p pos (portsNo p).toNat h).1 0
theorem ahead_go (p : Plan) (pos : List Int) : ∀ (k : Nat) (h : Port) (m : Int), aheadGo p pos k h m = if 0 ≤ reads p h then some (reads p h, m) else aheadRun p (runGo p pos k h).1 m := by
  intro k
  induction k with
  | zero =>
    intro h m
    unfold aheadGo runGo
    by_cases hr : 0 ≤ reads p h
    · rw [if_pos hr, if_pos hr]
    · rw [if_neg hr, if_neg hr]; split <;> rfl
  | succ k ih =>
    intro h m
    have e1 : aheadGo p pos (k + 1) h m = if 0 ≤ reads p h then some (reads p h, m) else if (step p pos h).2 ≠ 0 then none else aheadGo p pos k (step p pos h).1 (m + p.length (step p pos h).1.e) := rfl
    have e2 : runGo p pos (k + 1) h = if (step p pos h).2 ≠ 0 then ([], (step p pos h).2) else ((step p pos h).1 :: (runGo p pos k (step p pos h).1).1, (runGo p pos k (step p pos h).1).2) := rfl
    rw [e1, e2]
    by_cases hr : 0 ≤ reads p h
    · rw [if_pos hr, if_pos hr]
    · rw [if_neg hr, if_neg hr]
      split
      · rfl
      · rw [ih]; rfl
theorem ahead_eq (p : Plan) (pos : List Int) (h : Port) : ahead p pos h = refAhead p pos h := by unfold ahead refAhead; rw [ahead_go]

end Go.Proofs.Ytlgekkffekagbaa

/- Plain laws on plans: braking distances; names twice, a join twice; longer elements. No condition. -/
namespace Go.Proofs.Ytlgekkffekagbaa

set_option maxRecDepth 100000 in
theorem stop_tab : ∀ a ∈ List.range 61, ∀ b ∈ List.range 10,
    stop (a : Int) ((b : Int) + 1) = max ((a : Int) - ((b : Int) + 1)) 0 + stop (max ((a : Int) - ((b : Int) + 1)) 0) ((b : Int) + 1) ∧ (a ≠ 0 → stop ((a : Int) - 1) ((b : Int) + 1) ≤ stop (a : Int) ((b : Int) + 1)) ∧ stop 0 ((b : Int) + 1) = 0 ∧
    (b ≠ 9 → stop (a : Int) ((b : Int) + 1 + 1) ≤ stop (a : Int) ((b : Int) + 1)) ∧ 0 ≤ stop (a : Int) ((b : Int) + 1) := by decide +kernel
theorem stop_laws {a b : Int} (h1 : 0 ≤ a) (h2 : a ≤ 60) (h3 : 1 ≤ b) (h4 : b ≤ 10) :
    stop a b = max (a - b) 0 + stop (max (a - b) 0) b ∧ (a ≠ 0 → stop (a - 1) b ≤ stop a b) ∧ stop 0 b = 0 ∧ (b ≠ 10 → stop a (b + 1) ≤ stop a b) ∧ 0 ≤ stop a b := by
  have := stop_tab a.toNat (by simp; omega) (b - 1).toNat (by simp; omega)
  rw [show ((a.toNat : Nat) : Int) = a by omega, show (((b - 1).toNat : Nat) : Int) + 1 = b by omega] at this
  exact ⟨this.1, fun h => this.2.1 (by omega), this.2.2.1, fun h => this.2.2.2.1 (by omega), this.2.2.2.2⟩
theorem stop_mono {a a' b : Int} (h1 : 0 ≤ a) (h2 : a ≤ a') (h3 : a' ≤ 60) (h4 : 1 ≤ b) (h5 : b ≤ 10) : stop a b ≤ stop a' b := by
  obtain ⟨k, rfl⟩ : ∃ k : Nat, a' = a + k := ⟨(a' - a).toNat, by omega⟩
  induction k with
  | zero => simp
  | succ k ih =>
    have h := ih (by omega) (by omega)
    have := (stop_laws (a := a + ((k + 1 : Nat) : Int)) (by omega) h3 h4 h5).2.1 (by omega)
    rw [show a + ((k + 1 : Nat) : Int) - 1 = a + (k : Int) by omega] at this
    omega
theorem stop_anti {a b b' : Int} (h1 : 0 ≤ a) (h2 : a ≤ 60) (h3 : 1 ≤ b) (h4 : b ≤ b') (h5 : b' ≤ 10) : stop a b' ≤ stop a b := by
  obtain ⟨k, rfl⟩ : ∃ k : Nat, b' = b + k := ⟨(b' - b).toNat, by omega⟩
  induction k with
  | zero => simp
  | succ k ih =>
    have h := ih (by omega) (by omega)
    have := (stop_laws (a := a) (b := b + (k : Int)) h1 h2 (by omega) (by omega)).2.2.2.1 (by omega)
    rw [show b + (k : Int) + 1 = b + ((k + 1 : Nat) : Int) by omega] at this
    omega

/-! an element twice -/
theorem dupGo_iff {α : Type} [DecidableEq α] : ∀ (l met : List α), dupGo met l = false ↔ l.Nodup ∧ ∀ x ∈ l, x ∉ met := by
  intro l
  induction l with
  | nil => intro met; simp [dupGo]
  | cons x r ih =>
    intro met
    unfold dupGo
    rw [Bool.or_eq_false_iff, ih, decide_eq_false_iff_not, List.nodup_cons]
    constructor
    · rintro ⟨h1, h2, h3⟩
      refine ⟨⟨fun hm => h3 x hm (by simp), h2⟩, fun y hy => ?_⟩
      rcases List.mem_cons.1 hy with rfl | hy
      · exact h1
      · exact fun hm => h3 y hy (by simp [hm])
    · rintro ⟨⟨h1, h2⟩, h3⟩
      refine ⟨h3 x (by simp), h2, fun y hy hm => ?_⟩
      rcases List.mem_append.1 hm with hm | hm
      · exact h3 y (by simp [hy]) hm
      · simp at hm; subst hm; exact h1 hy
theorem dup_iff {α : Type} [DecidableEq α] (l : List α) : dup l = false ↔ l.Nodup := by
  unfold dup; rw [dupGo_iff]; simp
theorem dup_true {α : Type} [DecidableEq α] {l : List α} {i j : Nat} {x : α} (hij : i ≠ j) (hi : l[i]? = some x) (hj : l[j]? = some x) : dup l = true := by
  cases h : dup l with
  | true => rfl
  | false =>
    exfalso
    have hn := (dup_iff l).1 h
    rw [nodup_idx] at hn
    have h1 := (List.getElem?_eq_some_iff.1 hi).1
    have h2 := (List.getElem?_eq_some_iff.1 hj).1
    rcases Nat.lt_or_ge i j with h3 | h3
    · exact hn i j h3 h2 (hi.trans hj.symm)
    · exact hn j i (by omega) h1 (hj.trans hi.symm)

/-! plans whose elements have the same kinds -/
def Alike (q p : Plan) : Prop := q.elems.map (·.kind) = p.elems.map (·.kind)
theorem Alike.len {q p : Plan} (h : Alike q p) : q.elems.length = p.elems.length := by have := congrArg List.length h; simpa using this
theorem Alike.kind {q p : Plan} (h : Alike q p) (i : Int) : q.kind i = p.kind i := by
  unfold Plan.kind Plan.elem
  split
  · have := congrArg (fun l : List Int => l.getD i.toNat 0) h
    simp only [List.getD, List.getElem?_map] at this ⊢
    cases h1 : q.elems[i.toNat]? <;> cases h2 : p.elems[i.toNat]? <;> simp_all [zeroElem]
  · rfl
theorem Alike.isPort {q p : Plan} (h : Alike q p) (x : Port) : Proofs.Ytlgekkffekagbaa.isPort q x = Proofs.Ytlgekkffekagbaa.isPort p x := by unfold Proofs.Ytlgekkffekagbaa.isPort; rw [h.len, h.kind]
theorem Alike.joinGo {q p : Plan} (h : Alike q p) : ∀ (js : List Join) (met : List Port), Proofs.Ytlgekkffekagbaa.joinGo q met js = Proofs.Ytlgekkffekagbaa.joinGo p met js := by
  intro js
  induction js with
  | nil => intro met; rfl
  | cons j r ih => intro met; simp only [Proofs.Ytlgekkffekagbaa.joinGo, h.isPort, ih]
theorem Alike.gateGo {q p : Plan} (h : Alike q p) (nx : Port → Option Port) : ∀ (l m : List Elem) (i : Nat), l.map (·.kind) = m.map (·.kind) → Proofs.Ytlgekkffekagbaa.gateGo q nx i l = Proofs.Ytlgekkffekagbaa.gateGo p nx i m := by
  intro l
  induction l with
  | nil => intro m i hm; cases m with
    | nil => rfl
    | cons _ _ => simp at hm
  | cons e r ih => intro m i hm; cases m with
    | nil => simp at hm
    | cons f s =>
      simp only [List.map_cons, List.cons.injEq] at hm
      simp only [Proofs.Ytlgekkffekagbaa.gateGo, hm.1, h.kind, ih s (i + 1) hm.2]
theorem Alike.joinedOk {q p : Plan} (h : Alike q p) (hj : q.joins = p.joins) : Proofs.Ytlgekkffekagbaa.joinedOk q = Proofs.Ytlgekkffekagbaa.joinedOk p := by
  have hn : nextOf q = nextOf p := by funext x; unfold nextOf; rw [hj]
  unfold Proofs.Ytlgekkffekagbaa.joinedOk
  rw [hj, h.joinGo, hn, h.gateGo (nextOf p) q.elems p.elems 0 h]
theorem Alike.sigGo {q p : Plan} (h : Alike q p) (hj : q.joins = p.joins) : ∀ (l m : List Sig) (met : List Port), l.map (·.at_) = m.map (·.at_) → Proofs.Ytlgekkffekagbaa.sigGo q met l = Proofs.Ytlgekkffekagbaa.sigGo p met m := by
  have hn : nextOf q = nextOf p := by funext x; unfold nextOf; rw [hj]
  intro l
  induction l with
  | nil => intro m met hm; cases m with
    | nil => rfl
    | cons _ _ => simp at hm
  | cons e r ih => intro m met hm; cases m with
    | nil => simp at hm
    | cons f s =>
      simp only [List.map_cons, List.cons.injEq] at hm
      simp only [Proofs.Ytlgekkffekagbaa.sigGo, hm.1, sigOk, h.kind, h.isPort, hn, ih s _ hm.2]
theorem gateSig_congr (ps : List Port) : ∀ (l m : List Elem) (i : Nat), l.map (·.kind) = m.map (·.kind) → gateSigGo ps i l = gateSigGo ps i m := by
  intro l
  induction l with
  | nil => intro m i hm; cases m with
    | nil => rfl
    | cons _ _ => simp at hm
  | cons e r ih => intro m i hm; cases m with
    | nil => simp at hm
    | cons f s =>
      simp only [List.map_cons, List.cons.injEq] at hm
      simp only [gateSigGo, hm.1, ih s (i + 1) hm.2]
theorem Alike.signalsOk {q p : Plan} (h : Alike q p) (hj : q.joins = p.joins) (hs : q.sigs.map (·.at_) = p.sigs.map (·.at_)) : Proofs.Ytlgekkffekagbaa.signalsOk q = Proofs.Ytlgekkffekagbaa.signalsOk p := by
  unfold Proofs.Ytlgekkffekagbaa.signalsOk
  rw [h.sigGo hj _ _ _ hs, hs, gateSig_congr _ q.elems p.elems 0 h]
theorem Alike.linesOk {q p : Plan} (h : Alike q p) (hj : q.joins = p.joins) (hl : q.lines = p.lines) : Proofs.Ytlgekkffekagbaa.linesOk q = Proofs.Ytlgekkffekagbaa.linesOk p := by
  have hn : nextOf q = nextOf p := by funext x; unfold nextOf; rw [hj]
  have ht : ∀ (l met : List Int), tracksGo q met l = tracksGo p met l := by
    intro l
    induction l with
    | nil => intro met; rfl
    | cons e r ih => intro met; simp only [tracksGo, inLine, h.kind, h.len, ih]
  have hg : ∀ (l : List Line) (met : List Int), lineGo q met l = lineGo p met l := by
    intro l
    induction l with
    | nil => intro met; rfl
    | cons e r ih => intro met; simp only [lineGo, ht, hn, ih]
  unfold Proofs.Ytlgekkffekagbaa.linesOk
  rw [hl, hg]

/-! a name twice -/
theorem all_set {α : Type} {l : List α} {f : α → Bool} (h : l.all f = true) {i : Nat} {x : α} (hx : f x = true) : (l.set i x).all f = true := by
  rw [List.all_eq_true] at h ⊢
  intro y hy
  rcases List.mem_or_eq_of_mem_set hy with h1 | h1
  · exact h y h1
  · rw [h1]; exact hx
def rename (x : Elem) (s : ByteArray) : Elem := { x with name := s }
theorem twice_elem {p : Plan} (h : chk p = 0) {a b : Nat} {x y : Elem} (hab : a ≠ b) (hx : p.elems[a]? = some x) (hy : p.elems[b]? = some y) :
    chk { p with elems := p.elems.set a (rename x y.name) } = 4 := by
  obtain ⟨h1, h2, _⟩ := chk_zero h
  have hal : a < p.elems.length := (List.getElem?_eq_some_iff.1 hx).1
  have t1 : tooMuch { p with elems := p.elems.set a (rename x y.name) } = false := by unfold tooMuch at h1 ⊢; simpa using h1
  have t2 : argsOk { p with elems := p.elems.set a (rename x y.name) } = true := by
    unfold argsOk at h2 ⊢
    simp only [Bool.and_eq_true] at h2 ⊢
    refine ⟨?_, all_set h2.2.1 ?_, h2.2.2⟩
    · unfold numsOk at h2 ⊢; simpa using h2.1
    · have e1 := List.all_eq_true.1 h2.2.1 x (List.mem_of_getElem? hx)
      have e2 := List.all_eq_true.1 h2.2.1 y (List.mem_of_getElem? hy)
      unfold elemOk at e1 e2 ⊢
      simp only [Bool.and_eq_true] at e1 e2
      simp only [rename, Bool.and_eq_true]
      exact ⟨⟨e2.1.1, e1.1.2⟩, e1.2⟩
  have t3 : namesTwice { p with elems := p.elems.set a (rename x y.name) } = true := by
    unfold namesTwice
    rw [dup_true (i := a) (j := b) (x := y.name) hab (by simp [hal, rename]) (by simp [List.getElem?_set_ne hab, hy])]
    rfl
  unfold chk
  rw [t1, t2, t3]; rfl
def resign (x : Sig) (s : ByteArray) : Sig := { x with name := s }
theorem twice_sig {p : Plan} (h : chk p = 0) {a b : Nat} {x y : Sig} (hab : a ≠ b) (hx : p.sigs[a]? = some x) (hy : p.sigs[b]? = some y) :
    chk { p with sigs := p.sigs.set a (resign x y.name) } = 4 := by
  obtain ⟨h1, h2, _⟩ := chk_zero h
  have hal : a < p.sigs.length := (List.getElem?_eq_some_iff.1 hx).1
  have t1 : tooMuch { p with sigs := p.sigs.set a (resign x y.name) } = false := by unfold tooMuch at h1 ⊢; simpa using h1
  have t2 : argsOk { p with sigs := p.sigs.set a (resign x y.name) } = true := by
    unfold argsOk at h2 ⊢
    simp only [Bool.and_eq_true] at h2 ⊢
    refine ⟨?_, h2.2.1, all_set h2.2.2.1 ?_, h2.2.2.2⟩
    · unfold numsOk at h2 ⊢; simpa using h2.1
    · exact List.all_eq_true.1 h2.2.2.1 y (List.mem_of_getElem? hy)
  have t3 : namesTwice { p with sigs := p.sigs.set a (resign x y.name) } = true := by
    unfold namesTwice
    rw [dup_true (l := (p.sigs.set a (resign x y.name)).map (·.name)) (i := a) (j := b) (x := y.name) hab (by simp [hal, resign]) (by simp [List.getElem?_set_ne hab, hy])]
    simp
  unfold chk
  rw [t1, t2, t3]; rfl
theorem flat_append (a b : List Join) : flatJoins (a ++ b) = flatJoins a ++ flatJoins b := by
  induction a with
  | nil => rfl
  | cons j r ih => simp [flatJoins, ih]
theorem twice_join {p : Plan} (h : chk p = 0) {j : Join} (hj : j ∈ p.joins) (hl : p.joins.length < 80) : chk { p with joins := p.joins ++ [j] } = 6 := by
  obtain ⟨h1, h2, h3, _⟩ := chk_zero h
  have t1 : tooMuch { p with joins := p.joins ++ [j] } = false := by
    unfold tooMuch at h1 ⊢
    simp at h1 ⊢; omega
  have t2 : argsOk { p with joins := p.joins ++ [j] } = true := by unfold argsOk numsOk at h2 ⊢; exact h2
  have t3 : namesTwice { p with joins := p.joins ++ [j] } = false := h3
  have t4 : joinedOk { p with joins := p.joins ++ [j] } = false := by
    cases hk : joinedOk { p with joins := p.joins ++ [j] } with
    | false => rfl
    | true =>
      exfalso
      unfold joinedOk at hk
      simp only [Bool.and_eq_true] at hk
      have := (joinGo_ok _ _ hk.1).1
      simp only [flat_append] at this
      rw [List.nodup_append] at this
      exact this.2.2 j.a (flat_mem.2 ⟨j, hj, .inl rfl⟩) j.a (by simp [flatJoins]) rfl
  unfold chk
  rw [t1, t2, t3, t4]; rfl

/-! longer elements, slower trains -/
theorem longer_elem {p : Plan} (h : chk p = 0) {k : Nat} {x : Elem} (hx : p.elems[k]? = some x) {n : Int} (hk : x.kind ≠ 4) (h1 : x.len ≤ n) (h2 : n ≤ 4000) :
    chk { p with elems := p.elems.set k { x with len := n } } = 0 := by
  obtain ⟨c1, c2, c3, c4, c5, c6, c7⟩ := chk_zero h
  have hkl : k < p.elems.length := (List.getElem?_eq_some_iff.1 hx).1
  have hset : ∀ {β : Type} (f : Elem → β), f { x with len := n } = f x → (p.elems.set k { x with len := n }).map f = p.elems.map f := by
    intro β f hf
    rw [List.map_set, hf]
    apply List.ext_getElem?
    intro i
    rw [List.getElem?_set]
    split
    · rename_i hi; subst hi; rw [List.getElem?_map, hx, if_pos (by simpa using hkl)]; rfl
    · rfl
  have ha : Alike { p with elems := p.elems.set k { x with len := n } } p := hset (·.kind) rfl
  have t1 : tooMuch { p with elems := p.elems.set k { x with len := n } } = false := by unfold tooMuch at c1 ⊢; simpa using c1
  have ex : elemOk x = true := by
    unfold argsOk at c2; simp only [Bool.and_eq_true] at c2
    exact List.all_eq_true.1 c2.2.1 x (List.mem_of_getElem? hx)
  have t2 : argsOk { p with elems := p.elems.set k { x with len := n } } = true := by
    unfold argsOk at c2 ⊢
    simp only [Bool.and_eq_true] at c2 ⊢
    refine ⟨?_, all_set c2.2.1 ?_, c2.2.2⟩
    · unfold numsOk at c2 ⊢; simpa using c2.1
    · unfold elemOk at ex ⊢
      simp only [hk, if_false, Bool.and_eq_true, decide_eq_true_eq] at ex ⊢
      exact ⟨ex.1, by omega, h2⟩
  have t3 : namesTwice { p with elems := p.elems.set k { x with len := n } } = false := by
    unfold namesTwice at c3 ⊢
    rw [hset (·.name) rfl]; exact c3
  have t4 := ha.joinedOk rfl
  have t5 := ha.signalsOk rfl rfl
  have t6 := ha.linesOk rfl rfl
  have hlen : ∀ i, p.length i ≤ Plan.length { p with elems := p.elems.set k { x with len := n } } i := by
    intro i
    unfold Plan.length Plan.elem
    split
    · simp only [List.getD, List.getElem?_set]
      split
      · rename_i hi; rw [← hi, hx]; simp; exact h1
      · exact Int.le_refl _
    · exact Int.le_refl _
  have t7 : longOk { p with elems := p.elems.set k { x with len := n } } = true := by
    unfold longOk at c7 ⊢
    simp only [Bool.and_eq_true] at c7 ⊢
    refine ⟨c7.1, ?_, all_set c7.2.2 ?_⟩
    · rw [List.all_eq_true]
      intro s hs
      have := List.all_eq_true.1 c7.2.1 s hs
      have hl := hlen s.at_.e
      rw [ha.kind]
      simp only [Bool.not_eq_true', Bool.and_eq_false_iff, decide_eq_false_iff_not] at this ⊢
      rcases this with h3 | h3
      · exact .inl h3
      · right; show ¬ Plan.length _ s.at_.e < p.margin; omega
    · have := List.all_eq_true.1 c7.2.2 x (List.mem_of_getElem? hx)
      simp only [Bool.not_eq_true', Bool.and_eq_false_iff, decide_eq_false_iff_not] at this ⊢
      rcases this with h3 | h3
      · exact .inl h3
      · right; omega
  unfold chk
  rw [t1, t2, t3, t4, t5, t6, t7, c4, c5, c6]; rfl
theorem slower {p : Plan} (h : chk p = 0) {t b : Int} (h1 : 1 ≤ t) (h2 : t ≤ p.top) (h3 : p.brake ≤ b) (h4 : b ≤ 10) : chk { p with top := t, brake := b } = 0 := by
  obtain ⟨c1, c2, c3, c4, c5, c6, c7⟩ := chk_zero h
  have hn : numsOk p = true := by unfold argsOk at c2; simp only [Bool.and_eq_true] at c2; exact c2.1
  have hn' : 1 ≤ p.top ∧ p.top ≤ 60 ∧ 1 ≤ p.brake ∧ p.brake ≤ 10 := by
    unfold numsOk at hn; simp only [Bool.and_eq_true, decide_eq_true_eq] at hn; omega
  have ha : Alike { p with top := t, brake := b } p := rfl
  have t1 : tooMuch { p with top := t, brake := b } = false := c1
  have t2 : argsOk { p with top := t, brake := b } = true := by
    unfold argsOk at c2 ⊢
    simp only [Bool.and_eq_true] at c2 ⊢
    refine ⟨?_, c2.2⟩
    unfold numsOk at hn ⊢
    simp only [Bool.and_eq_true, decide_eq_true_eq] at hn ⊢
    omega
  have t4 := ha.joinedOk rfl
  have t5 := ha.signalsOk rfl rfl
  have t6 := ha.linesOk rfl rfl
  have t7 : longOk { p with top := t, brake := b } = true := by
    unfold longOk at c7 ⊢
    simp only [Bool.and_eq_true, decide_eq_true_eq] at c7 ⊢
    refine ⟨?_, c7.2.1, ?_⟩
    · have := c7.1
      have a1 := stop_mono (a := t) (a' := p.top) (b := b) (by omega) h2 (by omega) (by omega) h4
      have a2 := stop_anti (a := p.top) (b := p.brake) (b' := b) (by omega) (by omega) (by omega) h3 h4
      omega
    · rw [List.all_eq_true]
      intro e he
      have := List.all_eq_true.1 c7.2.2 e he
      simp only [Bool.not_eq_true', Bool.and_eq_false_iff, decide_eq_false_iff_not] at this ⊢
      rcases this with h3 | h3
      · exact .inl h3
      · right; omega
  unfold chk
  rw [t1, t2, show namesTwice { p with top := t, brake := b } = false from c3, t4, t5, t6, t7, c4, c5, c6]; rfl

end Go.Proofs.Ytlgekkffekagbaa

/- Plain laws on nets: lines and their directions, signals, how many ports are joined. No condition. -/
namespace Go.Proofs.Ytlgekkffekagbaa

/-! lines -/
theorem posIn_none {l : List Int} {e : Int} : ∀ {i : Nat}, posIn i l e = none ↔ e ∉ l := by
  induction l with
  | nil => intro i; simp [posIn]
  | cons x r ih =>
    intro i
    unfold posIn
    split
    · rename_i h; subst h; simp
    · rename_i h; rw [ih]; simp [show ¬ e = x from fun h' => h h'.symm]
theorem posIn_append (l r : List Int) (e : Int) : ∀ i : Nat, posIn i (l ++ r) e = match posIn i l e with
    | some k => some k
    | none => posIn (i + l.length) r e := by
  induction l with
  | nil => intro i; simp [posIn]
  | cons x t ih =>
    intro i
    have e1 : posIn i (x :: t ++ r) e = if x = e then some i else posIn (i + 1) (t ++ r) e := rfl
    have e2 : posIn i (x :: t) e = if x = e then some i else posIn (i + 1) t e := rfl
    rw [e1, e2]
    split
    · rfl
    · rw [ih, List.length_cons, show i + 1 + t.length = i + (t.length + 1) by omega]
theorem posIn_get {l : List Int} {e : Int} {j : Nat} : ∀ {i : Nat}, posIn i l e = some j → i ≤ j ∧ l[j - i]? = some e := by
  induction l with
  | nil => intro i h; simp [posIn] at h
  | cons x r ih =>
    intro i h
    unfold posIn at h
    split at h
    · rename_i hx; cases h; subst hx; simp
    · obtain ⟨h1, h2⟩ := ih h
      refine ⟨by omega, ?_⟩
      rw [show j - i = (j - (i + 1)) + 1 by omega, List.getElem?_cons_succ]; exact h2
theorem posIn_nodup {l : List Int} (hn : l.Nodup) {e : Int} {k : Nat} (hk : l[k]? = some e) : posIn 0 l e = some k := by
  cases h : posIn 0 l e with
  | none => exact absurd (List.mem_of_getElem? hk) (posIn_none.1 h)
  | some j =>
    obtain ⟨_, h2⟩ := posIn_get h
    rw [Nat.sub_zero] at h2
    rw [nodup_idx] at hn
    have l1 := (List.getElem?_eq_some_iff.1 hk).1
    have l2 := (List.getElem?_eq_some_iff.1 h2).1
    rcases Nat.lt_trichotomy j k with h3 | h3 | h3
    · exact absurd (h2.trans hk.symm) (hn j k h3 l1)
    · rw [h3]
    · exact absurd (hk.trans h2.symm) (hn k j h3 l2)
def flatLines (l : List Line) : List Int := l.flatMap (·.elems)
theorem lineFrom_none {l : List Line} {e : Int} : ∀ {i : Nat}, lineFrom i l e = none ↔ e ∉ flatLines l := by
  induction l with
  | nil => intro i; simp [lineFrom, flatLines]
  | cons x r ih =>
    intro i
    unfold lineFrom
    cases h : posIn 0 x.elems e with
    | none =>
      simp only [ih]
      have := posIn_none.1 h
      simp [flatLines, this]
    | some k =>
      have : e ∈ x.elems := by
        have := (posIn_get h).2
        exact List.mem_of_getElem? this
      simp [flatLines, this]
theorem lineFrom_append (l r : List Line) (e : Int) : ∀ i : Nat, lineFrom i (l ++ r) e = match lineFrom i l e with
    | some k => some k
    | none => lineFrom (i + l.length) r e := by
  induction l with
  | nil => intro i; simp [lineFrom]
  | cons x t ih =>
    intro i
    have e1 : lineFrom i (x :: t ++ r) e = match posIn 0 x.elems e with
      | some k => some (i, k)
      | none => lineFrom (i + 1) (t ++ r) e := rfl
    have e2 : lineFrom i (x :: t) e = match posIn 0 x.elems e with
      | some k => some (i, k)
      | none => lineFrom (i + 1) t e := rfl
    rw [e1, e2]
    cases h : posIn 0 x.elems e with
    | some k => rfl
    | none => simp only [ih, List.length_cons]; rw [show i + 1 + t.length = i + (t.length + 1) by omega]
theorem leadIn_append (nx : Port → Option Port) (l r : List Line) (e : Int) : e ∉ flatLines l → leadIn nx (l ++ r) e = leadIn nx r e := by
  induction l with
  | nil => intro _; rfl
  | cons x t ih =>
    intro h
    simp only [flatLines, List.flatMap_cons, List.mem_append, not_or] at h
    rw [List.cons_append, leadIn, posIn_none.2 h.1]
    exact ih h.2

theorem tracksGo_ok {p : Plan} : ∀ (l met : List Int), tracksGo p met l = true → l.Nodup ∧ (∀ x ∈ l, x ∉ met) ∧ ∀ x ∈ l, inLine p x = true := by
  intro l
  induction l with
  | nil => intro met _; simp
  | cons e r ih =>
    intro met h
    simp only [tracksGo, Bool.and_eq_true, Bool.not_eq_true', decide_eq_false_iff_not] at h
    obtain ⟨⟨h1, h2⟩, h3⟩ := h
    obtain ⟨i1, i2, i3⟩ := ih _ h3
    refine ⟨List.nodup_cons.2 ⟨fun hm => i2 e hm (by simp), i1⟩, ?_, ?_⟩
    · intro x hx
      rcases List.mem_cons.1 hx with rfl | hx
      · exact h2
      · exact fun hm => i2 x hx (by simp [hm])
    · intro x hx
      rcases List.mem_cons.1 hx with rfl | hx
      · exact h1
      · exact i3 x hx
theorem lineGo_ok {p : Plan} : ∀ (l : List Line) (met : List Int), lineGo p met l = true → (flatLines l).Nodup ∧ (∀ x ∈ flatLines l, x ∉ met ∧ inLine p x = true) ∧ ∀ x ∈ l, x.elems ≠ [] ∧ rowOk (nextOf p) x.elems = true := by
  intro l
  induction l with
  | nil => intro met _; simp [flatLines]
  | cons e r ih =>
    intro met h
    simp only [lineGo, Bool.and_eq_true, decide_eq_true_eq] at h
    obtain ⟨⟨⟨h1, h2⟩, h3⟩, h4⟩ := h
    obtain ⟨i1, i2, i3⟩ := ih _ h4
    obtain ⟨t1, t2, t3⟩ := tracksGo_ok _ _ h2
    refine ⟨?_, ?_, ?_⟩
    · show (e.elems ++ flatLines r).Nodup
      rw [List.nodup_append]
      refine ⟨t1, i1, fun a ha b hb hab => ?_⟩
      exact (i2 b hb).1 (by rw [← hab]; simp [ha])
    · intro x hx
      have hx : x ∈ e.elems ++ flatLines r := hx
      rcases List.mem_append.1 hx with hx | hx
      · exact ⟨t2 x hx, t3 x hx⟩
      · exact ⟨fun hm => (i2 x hx).1 (by simp [hm]), (i2 x hx).2⟩
    · intro x hx
      rcases List.mem_cons.1 hx with rfl | hx
      · exact ⟨h1, h3⟩
      · exact i3 x hx
theorem Good.lines {p : Plan} (g : Good p) : (flatLines p.lines).Nodup ∧ (∀ x ∈ flatLines p.lines, inLine p x = true) ∧ ∀ x ∈ p.lines, x.elems ≠ [] ∧ rowOk (nextOf p) x.elems = true := by
  obtain ⟨_, _, _, _, _, h6, _⟩ := chk_zero g.chk
  obtain ⟨a, b, c⟩ := lineGo_ok _ _ h6
  exact ⟨a, fun x hx => (b x hx).2, c⟩

/-- what the loop over the lines has written into the map of lines -/
def lineAt (done : List Line) (l : List Int) (k : Nat) (z : Int) : Option (Nat × Nat) := match lineFrom 0 done z with
  | some r => some r
  | none => (posIn 0 (l.take k) z).map fun j => (done.length, j)
theorem lineAt_zero (done : List Line) (l : List Int) (z : Int) : lineAt done l 0 z = lineFrom 0 done z := by
  unfold lineAt; cases lineFrom 0 done z <;> simp [posIn]
theorem lineAt_end (done : List Line) (l : Line) (z : Int) : lineAt done l.elems l.elems.length z = lineFrom 0 (done ++ [l]) z := by
  unfold lineAt
  rw [lineFrom_append]
  cases lineFrom 0 done z with
  | some r => rfl
  | none =>
    simp only [List.take_length, lineFrom, Nat.zero_add]
    cases posIn 0 l.elems z <;> rfl
theorem take_snoc_get {α : Type} {l : List α} {k : Nat} {x : α} (h : l[k]? = some x) : l.take (k + 1) = l.take k ++ [x] := by
  rw [List.take_add_one, h]; rfl
theorem lineAt_key {done : List Line} {l : List Int} {k : Nat} {e : Int} (he : l[k]? = some e) (h1 : e ∉ flatLines done) (h2 : e ∉ l.take k) : lineAt done l (k + 1) e = some (done.length, k) := by
  unfold lineAt
  rw [lineFrom_none.2 h1]
  have hk := (List.getElem?_eq_some_iff.1 he).1
  simp only [take_snoc_get he, posIn_append, posIn_none.2 h2, Nat.zero_add]
  simp [posIn, Nat.min_eq_left (Nat.le_of_lt hk)]
theorem lineAt_other {done : List Line} {l : List Int} {k : Nat} {e z : Int} (he : l[k]? = some e) (hz : z ≠ e) : lineAt done l (k + 1) z = lineAt done l k z := by
  unfold lineAt
  cases lineFrom 0 done z with
  | some r => rfl
  | none =>
    simp only [take_snoc_get he, posIn_append]
    cases posIn 0 (l.take k) z with
    | some j => rfl
    | none => simp [posIn, show ¬ e = z from fun h => hz h.symm]

/-- what it has written into the map of entering ends -/
def leadAt (nx : Port → Option Port) (done : List Line) (l : List Int) (k : Nat) (z : Int) : Option Int := match leadIn nx done z with
  | some r => some r
  | none => match posIn 0 (l.take k) z with
    | some j => (leadList nx l)[j]?
    | none => none
theorem leadAt_zero (nx : Port → Option Port) (done : List Line) (l : List Int) (z : Int) : leadAt nx done l 0 z = leadIn nx done z := by
  unfold leadAt; cases leadIn nx done z <;> simp [posIn]
theorem leadGo_length (nx : Port → Option Port) : ∀ (l : List Int) (i : Int), (leadGo nx i l).length = l.length := by
  intro l
  induction l with
  | nil => intro i; rfl
  | cons x r ih => intro i; simp [leadGo, ih]
theorem leadIn_none {nx : Port → Option Port} {l : List Line} {e : Int} : leadIn nx l e = none ↔ e ∉ flatLines l := by
  induction l with
  | nil => simp [leadIn, flatLines]
  | cons x r ih =>
    unfold leadIn
    cases h : posIn 0 x.elems e with
    | none => simp only [ih]; have := posIn_none.1 h; simp [flatLines, this]
    | some k =>
      obtain ⟨_, h2⟩ := posIn_get h
      rw [Nat.sub_zero] at h2
      have hk := (List.getElem?_eq_some_iff.1 h2).1
      have hm : e ∈ flatLines (x :: r) := by simp [flatLines, List.mem_of_getElem? h2]
      simp only [hm, not_true_eq_false, iff_false]
      rw [List.getElem?_eq_getElem (by rw [leadList, leadGo_length]; exact hk)]
      simp
theorem leadIn_snoc (nx : Port → Option Port) (done : List Line) (l : Line) (z : Int) : leadIn nx (done ++ [l]) z = leadAt nx done l.elems l.elems.length z := by
  unfold leadAt
  rw [List.take_length]
  cases h : leadIn nx done z with
  | none => rw [leadIn_append nx done [l] z (leadIn_none.1 h)]; unfold leadIn; rfl
  | some r =>
    simp only
    induction done with
    | nil => simp [leadIn] at h
    | cons x t ih =>
      unfold leadIn at h
      rw [List.cons_append]
      unfold leadIn
      cases hp : posIn 0 x.elems z with
      | some k => simp only [hp] at h ⊢; exact h
      | none => simp only [hp] at h ⊢; exact ih h
theorem leadAt_key {nx : Port → Option Port} {done : List Line} {l : List Int} {k : Nat} {e : Int} (he : l[k]? = some e) (h1 : e ∉ flatLines done) (h2 : e ∉ l.take k) : leadAt nx done l (k + 1) e = (leadList nx l)[k]? := by
  unfold leadAt
  rw [leadIn_none.2 h1]
  have hk := (List.getElem?_eq_some_iff.1 he).1
  simp only [take_snoc_get he, posIn_append, posIn_none.2 h2, Nat.zero_add]
  simp [posIn, Nat.min_eq_left (Nat.le_of_lt hk)]
theorem leadAt_other {nx : Port → Option Port} {done : List Line} {l : List Int} {k : Nat} {e z : Int} (he : l[k]? = some e) (hz : z ≠ e) : leadAt nx done l (k + 1) z = leadAt nx done l k z := by
  unfold leadAt
  cases leadIn nx done z with
  | some r => rfl
  | none =>
    simp only [take_snoc_get he, posIn_append]
    cases posIn 0 (l.take k) z with
    | some j => rfl
    | none => simp [posIn, show ¬ e = z from fun h => hz h.symm]
/-- the entering ends, one after another -/
theorem leadGo_get (nx : Port → Option Port) : ∀ (l : List Int) (i : Int) (k : Nat) (e : Int), l[k]? = some e → ∃ x, (leadGo nx i l)[k]? = some x ∧ (k = 0 → x = i) ∧ (leadGo nx i l).drop (k + 1) = leadGo nx (endOf nx ⟨e, 1 - x⟩) (l.drop (k + 1)) := by
  intro l
  induction l with
  | nil => intro i k e h; simp at h
  | cons x r ih =>
    intro i k e h
    cases k with
    | zero => simp at h; subst h; exact ⟨i, rfl, fun _ => rfl, rfl⟩
    | succ k =>
      simp only [List.getElem?_cons_succ] at h
      obtain ⟨y, h1, _, h3⟩ := ih (endOf nx ⟨x, 1 - i⟩) k e h
      exact ⟨y, h1, fun hk => by omega, h3⟩

/-- along a chain each element's way out leads to the next one's way in -/
theorem chain_lead {nx : Port → Option Port} : ∀ (r : List Int) (a i : Int), chain nx a (1 - i) r = true → ∀ k x y, (a :: r)[k]? = some x → (a :: r)[k + 1]? = some y →
    ∃ u v, (leadGo nx i (a :: r))[k]? = some u ∧ (leadGo nx i (a :: r))[k + 1]? = some v ∧ nx ⟨x, 1 - u⟩ = some ⟨y, v⟩ := by
  intro r
  induction r with
  | nil => intro a i _ k x y hx hy; cases k <;> simp at hy
  | cons b s ih =>
    intro a i h k x y hx hy
    unfold chain at h
    cases hn : nx ⟨a, 1 - i⟩ with
    | none => simp [hn] at h
    | some z =>
      simp only [hn, Bool.and_eq_true, decide_eq_true_eq] at h
      obtain ⟨h1, h2⟩ := h
      have he : endOf nx ⟨a, 1 - i⟩ = z.n := by unfold endOf; rw [hn]; rfl
      cases k with
      | zero =>
        simp at hx hy
        subst hx; subst hy
        refine ⟨i, z.n, rfl, ?_, ?_⟩
        · simp [leadGo, he]
        · rw [hn]; congr 1; obtain ⟨z1, z2⟩ := z; simp at h1; subst h1; rfl
      | succ k =>
        simp only [List.getElem?_cons_succ] at hx hy
        have := ih b z.n h2 k x y (by simpa using hx) (by simpa using hy)
        rw [leadGo, he]
        simpa using this
theorem leadList_chain {nx : Port → Option Port} {l : List Int} (h : rowOk nx l = true) {k : Nat} {x y : Int} (hx : l[k]? = some x) (hy : l[k + 1]? = some y) :
    ∃ u v, (leadList nx l)[k]? = some u ∧ (leadList nx l)[k + 1]? = some v ∧ nx ⟨x, 1 - u⟩ = some ⟨y, v⟩ := by
  match l, h with
  | [], _ => simp at hy
  | [_], _ => simp at hy
  | a :: b :: r, h =>
    simp only [rowOk, Bool.and_eq_true, decide_eq_true_eq] at h
    have hf : firstOut nx a b = 1 - firstIn nx (a :: b :: r) := by
      have h30 := h.1
      unfold firstOut firstIn at *
      cases h0 : leadsTo nx ⟨a, 0⟩ b
      · cases h1 : leadsTo nx ⟨a, 1⟩ b
        · simp [h0, h1] at h30
        · simp [h0]
      · simp [h0]
    unfold leadList
    rw [hf] at h
    exact chain_lead _ _ _ h.2 k x y hx hy
theorem firstIn_01 (nx : Port → Option Port) (l : List Int) : firstIn nx l = 0 ∨ firstIn nx l = 1 := by
  unfold firstIn; split
  · split <;> simp
  · simp

/-- an element of a line: where it is, and by which end it is entered -/
theorem lines_at {p : Plan} (g : Good p) {i k : Nat} {l : Line} {e : Int} (hl : p.lines[i]? = some l) (he : l.elems[k]? = some e) :
    lineOf p e = some (i, k) ∧ leadIn (nextOf p) p.lines e = (leadList (nextOf p) l.elems)[k]? ∧ inLine p e = true := by
  obtain ⟨g1, g2, _⟩ := g.lines
  have hil := (List.getElem?_eq_some_iff.1 hl).1
  have hsplit : p.lines = p.lines.take i ++ l :: p.lines.drop (i + 1) := by
    have := List.getElem?_eq_some_iff.1 hl
    rw [← this.2]; simp
  rw [hsplit] at g1 g2
  simp only [flatLines, List.flatMap_append, List.flatMap_cons] at g1 g2
  rw [List.nodup_append] at g1
  obtain ⟨_, g3, g4⟩ := g1
  rw [List.nodup_append] at g3
  have hm : e ∈ l.elems := List.mem_of_getElem? he
  have hno : e ∉ flatLines (p.lines.take i) := fun hmm => g4 e hmm e (by simp [hm]) rfl
  have hpos := posIn_nodup g3.1 he
  refine ⟨?_, ?_, g2 e (by simp [hm])⟩
  · unfold lineOf
    rw [hsplit, lineFrom_append, lineFrom_none.2 hno]
    simp only [lineFrom, hpos]
    simp; omega
  · rw [hsplit, leadIn_append _ _ _ _ hno, leadIn, hpos]

/-- the entering end of each element of a line is 0 or 1 -/
theorem leadList_01 {p : Plan} (g : Good p) {l : Line} (hl : l ∈ p.lines) : ∀ (k : Nat) (u : Int), (leadList (nextOf p) l.elems)[k]? = some u → u = 0 ∨ u = 1 := by
  obtain ⟨i, hi⟩ := List.getElem?_of_mem hl
  obtain ⟨_, _, g3⟩ := g.lines
  intro k
  induction k with
  | zero =>
    intro u hu
    unfold leadList at hu
    cases hle : l.elems with
    | nil => simp [hle, leadGo] at hu
    | cons a r => rw [hle] at hu; simp only [leadGo, List.getElem?_cons_zero, Option.some.injEq] at hu; rw [← hu]; exact firstIn_01 _ _
  | succ k ih =>
    intro u hu
    have hk : k + 1 < l.elems.length := by
      have := (List.getElem?_eq_some_iff.1 hu).1
      rwa [leadList, leadGo_length] at this
    obtain ⟨a, b, h1, h2, h3⟩ := leadList_chain (g3 l hl).2 (List.getElem?_eq_getElem (show k < l.elems.length by omega)) (List.getElem?_eq_getElem hk)
    rw [h2] at hu
    cases hu
    have hp := isPort_iff.1 (g.ports h3).2
    have ht := (lines_at g hi (List.getElem?_eq_getElem hk)).2.2
    rw [← kind_inLine] at ht
    simp only [decide_eq_true_eq] at ht
    simp only [ht, ends] at hp
    simp at hp
    omega

/-- semaphorelaw4.NetLeads: what it asks of one element of a line -/
theorem leads_law {p : Plan} (g : Good p) {i k : Nat} {l : Line} {e : Int} (hl : p.lines[i]? = some l) (he : l.elems[k]? = some e) :
    ∃ u, (u = 0 ∨ u = 1) ∧ leadIn (nextOf p) p.lines e = some u ∧ lead p e 0 = (if u = 0 then 1 else 2) ∧ lead p e 1 = (if u = 1 then 1 else 2) ∧
      ∀ k' d, k = k' + 1 → l.elems[k']? = some d → ∃ v, nextOf p ⟨e, u⟩ = some ⟨d, v⟩ ∧ lead p d (1 - v) = 1 := by
  obtain ⟨_, h2, _⟩ := lines_at g hl he
  have hm := List.mem_of_getElem? hl
  have hk := (List.getElem?_eq_some_iff.1 he).1
  have hu : ∃ u, (leadList (nextOf p) l.elems)[k]? = some u := ⟨_, List.getElem?_eq_getElem (by rw [leadList, leadGo_length]; exact hk)⟩
  obtain ⟨u, hu⟩ := hu
  have h01 := leadList_01 g hm k u hu
  rw [hu] at h2
  refine ⟨u, h01, h2, ?_, ?_, ?_⟩
  · unfold lead; rw [h2]; simp
  · unfold lead; rw [h2]; simp
  · intro k' d hkk hd
    subst hkk
    obtain ⟨a, b, q1, q2, q3⟩ := leadList_chain (g.lines.2.2 l hm).2 hd he
    rw [hu] at q2
    cases q2
    have hb := (g.back q3).1
    refine ⟨1 - a, hb, ?_⟩
    have ha := leadList_01 g hm k' a q1
    obtain ⟨_, w2, _⟩ := lines_at g hl hd
    rw [q1] at w2
    unfold lead; rw [w2]
    simp only
    rw [show (1 : Int) - (1 - a) = a by omega, if_neg (by omega)]
    simp

/-- semaphoreref6.enters -/
def entersGo (nx : Port → Option Port) : Int → Int → List Int → Option (List Int)
  | _, _, [] => some []
  | prev, out, y :: r => match nx ⟨prev, out⟩ with
    | some x => if x.e = y then (entersGo nx y (1 - x.n) r).map (x.n :: ·) else none
    | none => none
def enters (p : Plan) (l : List Int) : Option (List Int) :=
  if l = [] then none else if (l.all fun e => decide (p.kind e = 1)) = false then none else match l with
  | a :: b :: r => if firstOut (nextOf p) a b < 0 then none else (entersGo (nextOf p) a (firstOut (nextOf p) a b) (b :: r)).map ((1 - firstOut (nextOf p) a b) :: ·)
  | _ => some [0]
theorem entersGo_some (nx : Port → Option Port) : ∀ (r : List Int) (prev out : Int), (entersGo nx prev out r).isSome = chain nx prev out r := by
  intro r
  induction r with
  | nil => intro _ _; rfl
  | cons y r ih =>
    intro prev out
    unfold entersGo chain
    cases nx ⟨prev, out⟩ with
    | none => rfl
    | some x => simp only; by_cases h : x.e = y <;> simp [h, ih]
theorem entersGo_lead (nx : Port → Option Port) : ∀ (r : List Int) (a i : Int), chain nx a (1 - i) r = true → entersGo nx a (1 - i) r = some (leadGo nx (endOf nx ⟨a, 1 - i⟩) r) := by
  intro r
  induction r with
  | nil => intro _ _ _; rfl
  | cons y r ih =>
    intro a i h
    unfold chain at h
    unfold entersGo
    cases hn : nx ⟨a, 1 - i⟩ with
    | none => simp [hn] at h
    | some x =>
      simp only [hn, Bool.and_eq_true, decide_eq_true_eq] at h
      have he : endOf nx ⟨a, 1 - i⟩ = x.n := by unfold endOf; rw [hn]; rfl
      simp only [h.1, if_true, ih y x.n h.2, he, leadGo, Option.map_some]
theorem enters_isSome (p : Plan) (l : List Int) : (enters p l).isSome = entersOk p l := by
  unfold enters entersOk
  by_cases h : l = []
  · simp [h]
  · rw [if_neg h]
    cases ha : (l.all fun e => decide (p.kind e = 1)) with
    | false => simp [h]
    | true =>
      simp only [Bool.true_eq_false, if_false]
      match l with
      | [] => exact absurd rfl h
      | [a] => simp [rowOk]
      | a :: b :: r =>
        simp only [rowOk]
        by_cases hf : firstOut (nextOf p) a b < 0
        · simp [hf, show ¬ 0 ≤ firstOut (nextOf p) a b by omega]
        · simp [hf, show 0 ≤ firstOut (nextOf p) a b by omega, entersGo_some]
theorem enters_lead {p : Plan} {l : List Int} (h : entersOk p l = true) : enters p l = some (leadList (nextOf p) l) := by
  unfold entersOk at h
  simp only [Bool.and_eq_true, decide_eq_true_eq] at h
  obtain ⟨⟨h1, h2⟩, h3⟩ := h
  unfold enters
  rw [if_neg h1, h2]
  simp only [Bool.true_eq_false, if_false]
  match l, h3 with
  | [], _ => exact absurd rfl h1
  | [a], _ => rfl
  | a :: b :: r, h3 =>
    simp only [rowOk, Bool.and_eq_true, decide_eq_true_eq] at h3
    have hf : firstOut (nextOf p) a b = 1 - firstIn (nextOf p) (a :: b :: r) := by
      have h30 := h3.1
      unfold firstOut firstIn at *
      cases h0 : leadsTo (nextOf p) ⟨a, 0⟩ b
      · cases h1 : leadsTo (nextOf p) ⟨a, 1⟩ b
        · simp [h0, h1] at h30
        · simp [h0]
      · simp [h0]
    simp only
    rw [if_neg (by omega), hf] 
    rw [hf] at h3
    rw [entersGo_lead _ _ _ _ h3.2]
    simp only [Option.map_some, leadList, leadGo]
    congr 2
    omega
/-- semaphoreref6.Lead -/
def refLead (p : Plan) (e i : Int) : Int := match lineOf p e with
  | none => 0
  | some (l, k) => if isPort p ⟨e, i⟩ = false then 0 else if ((enters p ((p.lines.map (·.elems)).getD l [])).getD []).getD k 0 = i then 1 else 2
theorem lineFrom_get {l : List Line} {e : Int} {i k : Nat} : ∀ {j : Nat}, lineFrom j l e = some (i, k) → j ≤ i ∧ ∃ x, l[i - j]? = some x ∧ x.elems[k]? = some e := by
  induction l with
  | nil => intro j h; simp [lineFrom] at h
  | cons x r ih =>
    intro j h
    unfold lineFrom at h
    cases hp : posIn 0 x.elems e with
    | some q =>
      simp only [hp, Option.some.injEq, Prod.mk.injEq] at h
      obtain ⟨rfl, rfl⟩ := h
      have := posIn_get hp
      exact ⟨by omega, x, by simp, by simpa using this.2⟩
    | none =>
      simp only [hp] at h
      obtain ⟨h1, y, h2, h3⟩ := ih h
      exact ⟨by omega, y, by rw [show i - j = (i - (j + 1)) + 1 by omega, List.getElem?_cons_succ]; exact h2, h3⟩
theorem refLead_eq {p : Plan} (g : Good p) (e i : Int) : refLead p e i = lead p e i := by
  unfold refLead
  cases hl : lineOf p e with
  | none =>
    have := lineFrom_none.1 hl
    unfold lead
    rw [leadIn_none.2 this]
  | some q =>
    obtain ⟨a, k⟩ := q
    obtain ⟨_, x, hx, hk⟩ := lineFrom_get hl
    rw [Nat.sub_zero] at hx
    obtain ⟨_, h2, h3⟩ := lines_at g hx hk
    have hm := List.mem_of_getElem? hx
    have hen : enters p x.elems = some (leadList (nextOf p) x.elems) := by
      apply enters_lead
      have hr := g.lines.2.2 x hm
      unfold entersOk
      simp only [Bool.and_eq_true, decide_eq_true_eq]
      refine ⟨⟨hr.1, ?_⟩, hr.2⟩
      rw [List.all_eq_true]
      intro y hy
      rw [kind_inLine]
      exact g.lines.2.1 y (by simp only [flatLines, List.mem_flatMap]; exact ⟨x, hm, hy⟩)
    obtain ⟨u, h01, hu, _⟩ := leads_law g hx hk
    rw [h2] at hu
    have hg : (p.lines.map (·.elems)).getD a [] = x.elems := by simp [List.getD, hx]
    simp only [hg, hen, Option.getD_some]
    have hgu : (leadList (nextOf p) x.elems).getD k 0 = u := by simp [List.getD, hu]
    rw [hgu]
    unfold lead
    rw [h2, hu]
    simp only
    have ht : p.kind e = 1 := by have := h3; rw [← kind_inLine] at this; simpa using this
    have hin : 0 ≤ e ∧ e < p.elems.length := by unfold inLine at h3; simp only [Bool.and_eq_true, decide_eq_true_eq] at h3; exact h3.1
    by_cases hi : i < 0 ∨ 1 < i
    · rw [if_pos hi]
      have : isPort p ⟨e, i⟩ = false := by
        cases hq : isPort p ⟨e, i⟩ with
        | false => rfl
        | true => have := isPort_iff.1 hq; simp only [ht, ends] at this; simp at this; omega
      rw [if_pos this]
    · rw [if_neg hi]
      have : isPort p ⟨e, i⟩ = true := by rw [isPort_iff]; simp only [ht, ends]; simp; omega
      rw [if_neg (by simp [this])]

/-! signals -/
theorem sigGo_ok {p : Plan} : ∀ (l : List Sig) (met : List Port), sigGo p met l = true → (l.map (·.at_)).Nodup ∧ (∀ s ∈ l, s.at_ ∉ met) ∧ ∀ s ∈ l, sigOk p s.at_ = true := by
  intro l
  induction l with
  | nil => intro met _; simp
  | cons e r ih =>
    intro met h
    simp only [sigGo, Bool.and_eq_true, Bool.not_eq_true', decide_eq_false_iff_not] at h
    obtain ⟨⟨h1, h2⟩, h3⟩ := h
    obtain ⟨i1, i2, i3⟩ := ih _ h3
    refine ⟨?_, ?_, ?_⟩
    · rw [List.map_cons, List.nodup_cons]
      refine ⟨fun hm => ?_, i1⟩
      obtain ⟨s, hs, hse⟩ := List.mem_map.1 hm
      exact i2 s hs (by simp [hse])
    · intro x hx
      rcases List.mem_cons.1 hx with rfl | hx
      · exact h1
      · exact fun hm => i2 x hx (by simp [hm])
    · intro x hx
      rcases List.mem_cons.1 hx with rfl | hx
      · exact h2
      · exact i3 x hx
theorem Good.sigs {p : Plan} (g : Good p) : (p.sigs.map (·.at_)).Nodup ∧ ∀ s ∈ p.sigs, sigOk p s.at_ = true := by
  obtain ⟨_, _, _, _, h5, _⟩ := chk_zero g.chk
  unfold signalsOk at h5
  simp only [Bool.and_eq_true] at h5
  obtain ⟨a, _, c⟩ := sigGo_ok _ _ h5.1
  exact ⟨a, c⟩
theorem readsGo_get {l : List Sig} {x : Port} {j : Int} : ∀ {i : Nat}, readsGo i l x = j → 0 ≤ j → (i : Int) ≤ j ∧ (l.map (·.at_))[(j - i).toNat]? = some x := by
  induction l with
  | nil => intro i h h0; simp [readsGo] at h; omega
  | cons s r ih =>
    intro i h h0
    unfold readsGo at h
    split at h
    · rename_i hs; subst hs; subst h; simp
    · obtain ⟨h1, h2⟩ := ih h h0
      refine ⟨by omega, ?_⟩
      rw [show (j - i).toNat = (j - (i + 1 : Nat)).toNat + 1 by omega, List.map_cons, List.getElem?_cons_succ]
      exact h2
theorem reads_iff {p : Plan} (g : Good p) {s : Nat} {a : Sig} (hs : p.sigs[s]? = some a) (x : Port) : reads p x = s ↔ x = a.at_ := by
  constructor
  · intro h
    have := (readsGo_get h (by omega)).2
    rw [show ((s : Int) - (0 : Nat)).toNat = s by omega, List.getElem?_map, hs] at this
    simpa using this.symm
  · intro h
    subst h
    have hm : a.at_ ∈ p.sigs.map (·.at_) := List.mem_map.2 ⟨a, List.mem_of_getElem? hs, rfl⟩
    have hr := readsGo_mem hm 0
    have h2 := (readsGo_get (i := 0) (l := p.sigs) (x := a.at_) rfl (by omega)).2
    have hn := g.sigs.1
    rw [nodup_idx] at hn
    have h1 : (p.sigs.map (·.at_))[s]? = some a.at_ := by simp [hs]
    have l1 := (List.getElem?_eq_some_iff.1 h1).1
    have l2 := (List.getElem?_eq_some_iff.1 h2).1
    show readsGo 0 p.sigs a.at_ = s
    generalize hq : (readsGo 0 p.sigs a.at_ - (0 : Nat)).toNat = q at h2 l2
    have hqq : readsGo 0 p.sigs a.at_ = q := by omega
    rw [hqq]
    rcases Nat.lt_trichotomy q s with h3 | h3 | h3
    · exact absurd (h2.trans h1.symm) (hn q s h3 l1)
    · rw [h3]
    · exact absurd (h1.trans h2.symm) (hn s q h3 l2)

/-! how many ports are joined -/
theorem flat_length (js : List Join) : (flatJoins js).length = 2 * js.length := by
  induction js with
  | nil => rfl
  | cons j r ih => simp [flatJoins, ih]; omega
theorem allPorts_nodup (n : Nat) : (allPorts n).Nodup := by
  unfold allPorts
  induction n with
  | zero => simp
  | succ n ih =>
    rw [List.range_succ, List.flatMap_append, List.nodup_append]
    refine ⟨ih, by simp, ?_⟩
    intro a ha b hb hab
    subst hab
    rw [List.mem_flatMap] at ha
    obtain ⟨i, hi, hm⟩ := ha
    simp at hi hb hm
    rcases hb with rfl | rfl | rfl | rfl <;> simp at hm <;> omega
def joinedNo (p : Plan) : Nat := ((allPorts p.elems.length).filter fun x => (nextOf p x).isSome).length
theorem joinedNo_eq {p : Plan} (g : Good p) : joinedNo p = 2 * p.joins.length := by
  rw [← flat_length]
  unfold joinedNo
  have h1 := (allPorts_nodup p.elems.length).filter (fun x => (nextOf p x).isSome)
  apply Nat.le_antisymm
  · refine nodup_le _ _ h1 (fun x hx => ?_)
    rw [List.mem_filter] at hx
    obtain ⟨y, hy⟩ := Option.isSome_iff_exists.1 hx.2
    exact (nextIn_some hy).1
  · refine nodup_le _ _ g.nodup (fun x hx => ?_)
    rw [List.mem_filter]
    refine ⟨allPorts_mem (g.port x hx), ?_⟩
    cases h : nextOf p x with
    | some y => rfl
    | none => exact absurd hx (nextIn_none.1 h)

end Go.Proofs.Ytlgekkffekagbaa
