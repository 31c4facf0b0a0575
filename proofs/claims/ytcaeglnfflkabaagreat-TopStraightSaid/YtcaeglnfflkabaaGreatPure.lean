/- Plans and what the functions of package plan compute of them, in plain words. No condition. -/
import Derived.Test.YtcaeglnfflkabaaGreatBase
namespace Go.Proofs.YtcaeglnfflkabaaGreat

structure Port where
 e : Int
 n : Int
 deriving DecidableEq, Inhabited
structure Elem where
 name : ByteArray
 kind : Int
 len : Int
 deriving DecidableEq
structure Join where
 a : Port
 b : Port
 deriving DecidableEq, Inhabited
structure Sig where
 name : ByteArray
 at_ : Port
 auto : Bool
 deriving DecidableEq
structure Line where
 name : ByteArray
 elems : List Int
 deriving DecidableEq
structure Plan where
 elems : List Elem
 joins : List Join
 sigs : List Sig
 lines : List Line
 top : Int
 brake : Int
 margin : Int
 throw : Int
 hard : Bool
 deriving DecidableEq

def ends (k : Int) : Int := if k = 1 then 2 else if k = 2 then 3 else if k = 3 then 4 else if k = 4 then 1 else 0

/-- the sum of v, v - b, .. as long as they are above 0 -/
def stopSum (b : Int) : Nat → Int → Int
 | 0, _ => 0
 | f + 1, v => if 0 < v then v + stopSum b f (v - b) else 0
def stop (v b : Int) : Int := if v < 0 ∨ 60 < v ∨ b < 1 ∨ 10 < b then 0 else stopSum b 61 (v - b)

def zeroElem : Elem := ⟨ByteArray.empty, 0, 0⟩
def Plan.elem (p : Plan) (i : Int) : Elem := if 0 ≤ i then p.elems.getD i.toNat zeroElem else zeroElem
def Plan.kind (p : Plan) (i : Int) : Int := (p.elem i).kind
def Plan.length (p : Plan) (i : Int) : Int := (p.elem i).len

def isPort (p : Plan) (x : Port) : Bool := decide (0 ≤ x.e) && decide (x.e < p.elems.length) && decide (0 ≤ x.n) && decide (x.n < ends (p.kind x.e))

/-! names -/
def isLetter (c : UInt8) : Bool := (decide (97 ≤ c.toNat) && decide (c.toNat ≤ 122)) || (decide (65 ≤ c.toNat) && decide (c.toNat ≤ 90))
def isDigit (c : UInt8) : Bool := decide (48 ≤ c.toNat) && decide (c.toNat ≤ 57)
def nameList (l : List UInt8) : Bool := match l with
 | [] => false
 | c :: r => decide (r.length < 8) && isLetter c && r.all fun c => isLetter c || isDigit c
def nameOk (s : ByteArray) : Bool := nameList s.data.toList

def elemOk (e : Elem) : Bool := nameOk e.name && decide (ends e.kind ≠ 0) && (if e.kind = 4 then decide (e.len = 0) else decide (1 ≤ e.len) && decide (e.len ≤ 4000))
def numsOk (p : Plan) : Bool :=
 decide (1 ≤ p.top) && decide (p.top ≤ 60) && decide (1 ≤ p.brake) && decide (p.brake ≤ 10) && decide (1 ≤ p.margin) && decide (p.margin ≤ 4000) && decide (1 ≤ p.throw) && decide (p.throw ≤ 20) && decide (p.elems.length ≠ 0)
def argsOk (p : Plan) : Bool := numsOk p && (p.elems.all elemOk && (p.sigs.all (fun s => nameOk s.name) && p.lines.all (fun l => nameOk l.name)))

/-- is an element there twice? -/
def dupGo {α : Type} [DecidableEq α] : List α → List α → Bool
 | _, [] => false
 | met, x :: r => decide (x ∈ met) || dupGo (met ++ [x]) r
def dup {α : Type} [DecidableEq α] (l : List α) : Bool := dupGo [] l
def namesTwice (p : Plan) : Bool := dup (p.elems.map (·.name)) || (dup (p.sigs.map (·.name)) || dup (p.lines.map (·.name)))

/-! joins -/
def nextIn : List Join → Port → Option Port
 | [], _ => none
 | j :: r, x => if j.a = x then some j.b else if j.b = x then some j.a else nextIn r x
def nextOf (p : Plan) (x : Port) : Option Port := nextIn p.joins x
def flatJoins : List Join → List Port
 | [] => []
 | j :: r => j.a :: j.b :: flatJoins r
def joinGo (p : Plan) : List Port → List Join → Bool
 | _, [] => true
 | met, j :: r => !(decide (j.a ∈ met) || decide (j.b ∈ met) || decide (j.a = j.b) || !isPort p j.a || !isPort p j.b) && joinGo p (met ++ [j.a, j.b]) r
/-- each gate is joined, and to no gate -/
def gateGo (p : Plan) (nx : Port → Option Port) : Nat → List Elem → Bool
 | _, [] => true
 | i, e :: r => (if e.kind = 4 then (match nx ⟨i, 0⟩ with | some x => decide (p.kind x.e ≠ 4) | none => false) else true) && gateGo p nx (i + 1) r
def joinedOk (p : Plan) : Bool := joinGo p [] p.joins && gateGo p (nextOf p) 0 p.elems

/-! signals -/
def readsGo : Nat → List Sig → Port → Int
 | _, [], _ => -1
 | i, s :: r, x => if s.at_ = x then i else readsGo (i + 1) r x
def reads (p : Plan) (x : Port) : Int := readsGo 0 p.sigs x
def sigOk (p : Plan) (x : Port) : Bool := isPort p x && (decide (p.kind x.e = 1) || decide (p.kind x.e = 4)) && (match nextOf p x with | some y => decide (p.kind y.e ≠ 4) | none => false)
def sigGo (p : Plan) : List Port → List Sig → Bool
 | _, [] => true
 | met, s :: r => !decide (s.at_ ∈ met) && sigOk p s.at_ && sigGo p (met ++ [s.at_]) r
def gateSigGo (l : List Port) : Nat → List Elem → Bool
 | _, [] => true
 | i, e :: r => (if e.kind = 4 then decide ((⟨i, 0⟩ : Port) ∈ l) else true) && gateSigGo l (i + 1) r
def signalsOk (p : Plan) : Bool := sigGo p [] p.sigs && gateSigGo (p.sigs.map (·.at_)) 0 p.elems

/-! lines -/
def chain (nx : Port → Option Port) : Int → Int → List Int → Bool
 | _, _, [] => true
 | prev, out, y :: r => match nx ⟨prev, out⟩ with
  | some x => decide (x.e = y) && chain nx y (1 - x.n) r
  | none => false
def leadsTo (nx : Port → Option Port) (x : Port) (y : Int) : Bool := match nx x with
 | some z => decide (z.e = y)
 | none => false
def firstOut (nx : Port → Option Port) (a b : Int) : Int := if leadsTo nx ⟨a, 0⟩ b then 0 else if leadsTo nx ⟨a, 1⟩ b then 1 else -1
def rowOk (nx : Port → Option Port) : List Int → Bool
 | [] => true
 | [_] => true
 | a :: b :: r => decide (0 ≤ firstOut nx a b) && chain nx a (firstOut nx a b) (b :: r)
def inLine (p : Plan) (e : Int) : Bool := decide (0 ≤ e) && decide (e < p.elems.length) && decide (p.kind e = 1)
def tracksGo (p : Plan) : List Int → List Int → Bool
 | _, [] => true
 | met, e :: r => inLine p e && !decide (e ∈ met) && tracksGo p (met ++ [e]) r
def lineGo (p : Plan) : List Int → List Line → Bool
 | _, [] => true
 | met, l :: r => decide (l.elems ≠ []) && tracksGo p met l.elems && rowOk (nextOf p) l.elems && lineGo p (met ++ l.elems) r
def linesOk (p : Plan) : Bool := lineGo p [] p.lines

/-! lengths -/
def longOk (p : Plan) : Bool :=
 decide (p.top + stop p.top p.brake ≤ p.margin) && ((p.sigs.all fun s => !(decide (p.kind s.at_.e = 1) && decide (p.length s.at_.e < p.margin))) && (p.elems.all fun e => !(decide (e.kind ≠ 4) && decide (e.len < p.top))))

def tooMuch (p : Plan) : Bool := decide (40 < p.elems.length) || decide (24 < p.sigs.length) || decide (4 < p.lines.length) || decide (80 < p.joins.length)
def chk (p : Plan) : Int :=
 if tooMuch p then 3 else if !argsOk p then 1 else if namesTwice p then 4 else if !joinedOk p then 6 else if !signalsOk p then 7 else if !linesOk p then 8 else if !longOk p then 9 else 0

/-- semaphoreref6.Few -/
def few (p : Plan) : Bool :=
 decide (p.elems.length ≤ 60) && decide (p.joins.length ≤ 120) && decide (p.sigs.length ≤ 60) && decide (p.lines.length ≤ 20) &&
 ((p.lines.all fun l => decide (l.elems.length ≤ 60) && decide (l.name.size ≤ 100)) && ((p.elems.all fun e => decide (e.name.size ≤ 100)) && (p.sigs.all fun s => decide (s.name.size ≤ 100))))
/-! semaphoreref6's way of saying it -/
def refNameGo : Nat → List UInt8 → Bool
 | _, [] => true
 | i, c :: r => (isLetter c || (decide (i ≠ 0) && isDigit c)) && refNameGo (i + 1) r
def refName (s : ByteArray) : Bool := refNameGo 0 s.data.toList && decide (1 ≤ s.size) && decide (s.size ≤ 8)
end Go.Proofs.YtcaeglnfflkabaaGreat

/- Plain laws on plans: that package plan and semaphoreref6 say the same. No condition. -/
namespace Go.Proofs.YtcaeglnfflkabaaGreat

theorem refNameGo_succ (l : List UInt8) : ∀ i, refNameGo (i + 1) l = l.all fun c => isLetter c || isDigit c := by
 induction l with
 | nil => intro i; rfl
 | cons c r ih => intro i; simp [refNameGo, ih]
theorem refName_eq (s : ByteArray) : refName s = nameOk s := by
 unfold refName nameOk nameList
 have hs : s.size = s.data.toList.length := (Array.length_toList).symm
 rw [hs]
 cases h : s.data.toList with
 | nil => simp [refNameGo]
 | cons c r =>
  simp only [refNameGo, refNameGo_succ, List.length_cons]
  simp only [ne_eq, not_true_eq_false, decide_false, Bool.false_and, Bool.or_false]
  rw [show decide (1 ≤ r.length + 1) = true by simp, show decide (r.length + 1 ≤ 8) = decide (r.length < 8) by simp; omega]
  cases isLetter c <;> cases (r.all fun c => isLetter c || isDigit c) <;> simp
def refPorts (p : Plan) : List Port → List Port → Bool
 | _, [] => true
 | met, x :: r => isPort p x && !decide (x ∈ met) && refPorts p (met ++ [x]) r
theorem refPorts_eq (p : Plan) : ∀ (js : List Join) (met : List Port), refPorts p met (flatJoins js) = joinGo p met js := by
 intro js
 induction js with
 | nil => intro met; rfl
 | cons j r ih =>
  intro met
  simp only [flatJoins, refPorts, joinGo]
  rw [show met ++ [j.a] ++ [j.b] = met ++ [j.a, j.b] by simp, ih]
  have hm : decide (j.b ∈ met ++ [j.a]) = (decide (j.b ∈ met) || decide (j.a = j.b)) := by
   rw [Bool.eq_iff_iff]; simp only [List.mem_append, List.mem_singleton, decide_eq_true_eq, Bool.or_eq_true]; rw [eq_comm (a := j.a)]
  rw [hm]
  cases isPort p j.a <;> cases isPort p j.b <;> cases decide (j.a ∈ met) <;> cases decide (j.b ∈ met) <;> cases decide (j.a = j.b) <;> simp

/-! signals -/
theorem readsGo_neg (l : List Sig) (x : Port) : ∀ i : Nat, decide (readsGo i l x < 0) = !decide (x ∈ l.map (·.at_)) := by
 induction l with
 | nil => intro i; simp [readsGo]
 | cons s r ih =>
  intro i
  unfold readsGo
  by_cases h : s.at_ = x
  ·rw [if_pos h]; subst h; simp
  ·rw [if_neg h, ih]; simp [show ¬ x = s.at_ from fun e => h e.symm]
theorem readsGo_mem {l : List Sig} {x : Port} (h : x ∈ l.map (·.at_)) : ∀ i : Nat, (i : Int) ≤ readsGo i l x ∧ readsGo i l x < i + l.length := by
 induction l with
 | nil => simp at h
 | cons s r ih =>
  intro i
  unfold readsGo
  by_cases hs : s.at_ = x
  ·rw [if_pos hs]; simp; omega
  ·rw [if_neg hs]
   have := ih ((List.mem_cons.1 h).resolve_left fun h => hs h.symm) (i + 1)
   simp only [List.length_cons]; omega
theorem readsGo_append (l r : List Sig) (x : Port) : ∀ i : Nat, readsGo i (l ++ r) x = if x ∈ l.map (·.at_) then readsGo i l x else readsGo (i + l.length) r x := by
 induction l with
 | nil => intro i; simp
 | cons s t ih =>
  intro i
  rw [List.cons_append, readsGo, readsGo]
  by_cases hs : s.at_ = x
  ·rw [if_pos hs, if_pos (by simp [hs]), if_pos hs]
  ·rw [if_neg hs, ih (i + 1), if_neg hs]
   by_cases hx : x ∈ t.map (·.at_)
   ·rw [if_pos hx, if_pos (by simp only [List.map_cons, List.mem_cons]; exact .inr hx)]
   ·rw [if_neg hx, if_neg (by simp only [List.map_cons, List.mem_cons, not_or]; exact ⟨fun e => hs e.symm, hx⟩)]
    rw [show i + 1 + t.length = i + (s :: t).length by simp; omega]
def refSigGo (p : Plan) : Nat → List Sig → Bool
 | _, [] => true
 | i, s :: r => sigOk p s.at_ && decide (reads p s.at_ = i) && refSigGo p (i + 1) r
theorem refSig_go (p : Plan) : ∀ (r l : List Sig), p.sigs = l ++ r → refSigGo p l.length r = sigGo p (l.map (·.at_)) r := by
 intro r
 induction r with
 | nil => intro l _; rfl
 | cons s r ih =>
  intro l h
  have hr : decide (reads p s.at_ = l.length) = !decide (s.at_ ∈ l.map (·.at_)) := by
   unfold reads
   rw [h, readsGo_append]
   by_cases hm : s.at_ ∈ l.map (·.at_)
   ·rw [if_pos hm]
    have := readsGo_mem hm 0
    simp only [hm, decide_true, Bool.not_true, decide_eq_false_iff_not]
    simp at this
    omega
   ·rw [if_neg hm]; simp [readsGo, hm]
  have := ih (l ++ [s]) (by simp [h])
  simp only [List.length_append, List.length_cons, List.length_nil, Nat.zero_add, List.map_append, List.map_cons, List.map_nil] at this
  simp only [refSigGo, sigGo, hr, this]
  cases sigOk p s.at_ <;> cases decide (s.at_ ∈ l.map (·.at_)) <;> simp
theorem refSig_eq (p : Plan) : refSigGo p 0 p.sigs = sigGo p [] p.sigs := by
 have := refSig_go p p.sigs [] rfl
 simpa using this
def refGateGo (p : Plan) : Nat → List Elem → Bool
 | _, [] => true
 | i, e :: r => !(decide (e.kind = 4) && decide (reads p ⟨i, 0⟩ < 0)) && refGateGo p (i + 1) r
theorem refGate_eq (p : Plan) : ∀ (r : List Elem) (i : Nat), refGateGo p i r = gateSigGo (p.sigs.map (·.at_)) i r := by
 intro r
 induction r with
 | nil => intro i; rfl
 | cons e r ih =>
  intro i
  simp only [refGateGo, gateSigGo, ih]
  have := readsGo_neg p.sigs ⟨i, 0⟩ 0
  unfold reads
  rw [this]
  by_cases h : e.kind = 4
  ·simp [h]
  ·simp [h]
def refSignals (p : Plan) : Bool := refSigGo p 0 p.sigs && refGateGo p 0 p.elems
theorem refSignals_eq (p : Plan) : refSignals p = signalsOk p := by unfold refSignals signalsOk; rw [refSig_eq, refGate_eq]

/-! lines -/
def metGo : List Int → List Int → Bool
 | _, [] => true
 | met, e :: r => !decide (e ∈ met) && metGo (met ++ [e]) r
theorem kind_inLine (p : Plan) (e : Int) : decide (p.kind e = 1) = inLine p e := by
 unfold inLine
 by_cases h0 : 0 ≤ e
 ·by_cases h1 : e < p.elems.length
  ·simp [h0, h1]
  ·have : p.kind e = 0 := by
    unfold Plan.kind Plan.elem
    rw [if_pos h0]; simp only [List.getD, List.getElem?_eq_none (show p.elems.length ≤ e.toNat by omega)]; rfl
   simp [h1, this]
 ·have : p.kind e = 0 := by
   unfold Plan.kind Plan.elem
   rw [if_neg h0]; rfl
  simp [h0, this]
theorem tracks_eq (p : Plan) : ∀ (l met : List Int), tracksGo p met l = (metGo met l && l.all fun e => decide (p.kind e = 1)) := by
 intro l
 induction l with
 | nil => intro met; rfl
 | cons e r ih =>
  intro met
  simp only [tracksGo, metGo, List.all_cons, ih, kind_inLine]
  cases inLine p e <;> cases decide (e ∈ met) <;> simp
def entersOk (p : Plan) (l : List Int) : Bool := decide (l ≠ []) && (l.all fun e => decide (p.kind e = 1)) && rowOk (nextOf p) l
def refLineGo (p : Plan) : List Int → List Line → Bool
 | _, [] => true
 | met, l :: r => metGo met l.elems && entersOk p l.elems && refLineGo p (met ++ l.elems) r
theorem refLine_eq (p : Plan) : ∀ (l : List Line) (met : List Int), refLineGo p met l = lineGo p met l := by
 intro l
 induction l with
 | nil => intro met; rfl
 | cons x r ih =>
  intro met
  simp only [refLineGo, lineGo, ih, tracks_eq, entersOk]
  cases decide (x.elems ≠ []) <;> cases metGo met x.elems <;> cases (x.elems.all fun e => decide (p.kind e = 1)) <;> simp

end Go.Proofs.YtcaeglnfflkabaaGreat

/- Nets: what the functions of packages net, walk and sight compute of a plan, in plain words. No condition. -/
namespace Go.Proofs.YtcaeglnfflkabaaGreat

structure Way where
 out : Int
 pos : Int
 deriving DecidableEq, Inhabited

def zeroPort : Port := ⟨0, 0⟩
def cross (i : Int) : Int := if i = 0 then 1 else if i = 1 then 0 else if i = 2 then 3 else 2
def outs (p : Plan) (e i : Int) : List Way :=
 if i < 0 ∨ ends (p.kind e) ≤ i then []
 else if p.kind e = 1 then [⟨1 - i, 0⟩]
 else if p.kind e = 3 then [⟨cross i, 0⟩]
 else if p.kind e = 2 then (if i = 0 then [⟨1, 1⟩, ⟨2, 2⟩] else [⟨0, i⟩])
 else []
def wayGo (pos : Int) : List Way → Option Int
 | [] => none
 | w :: r => if w.pos = 0 ∨ w.pos = pos then some w.out else wayGo pos r
def through (p : Plan) (e i pos : Int) : Option Int := wayGo pos (outs p e i)
def sigAt (p : Plan) (s : Int) : Option Port := if 0 ≤ s then (p.sigs[s.toNat]?).map (·.at_) else none

/-- the index of an element in a list -/
def posIn : Nat → List Int → Int → Option Nat
 | _, [], _ => none
 | i, x :: r, e => if x = e then some i else posIn (i + 1) r e
def lineFrom : Nat → List Line → Int → Option (Nat × Nat)
 | _, [], _ => none
 | i, l :: r, e => match posIn 0 l.elems e with
  | some k => some (i, k)
  | none => lineFrom (i + 1) r e
def lineOf (p : Plan) (e : Int) : Option (Nat × Nat) := lineFrom 0 p.lines e

/-- by which end the first element of a line is entered -/
def firstIn (nx : Port → Option Port) : List Int → Int
 | a :: b :: _ => if leadsTo nx ⟨a, 0⟩ b then 1 else 0
 | _ => 0
def endOf (nx : Port → Option Port) (x : Port) : Int := ((nx x).getD zeroPort).n
def leadGo (nx : Port → Option Port) : Int → List Int → List Int
 | _, [] => []
 | i, e :: r => i :: leadGo nx (endOf nx ⟨e, 1 - i⟩) r
def leadList (nx : Port → Option Port) (l : List Int) : List Int := leadGo nx (firstIn nx l) l
/-- the entering end of an element of some line -/
def leadIn (nx : Port → Option Port) : List Line → Int → Option Int
 | [], _ => none
 | l :: r, e => match posIn 0 l.elems e with
  | some k => (leadList nx l.elems)[k]?
  | none => leadIn nx r e
def lead (p : Plan) (e i : Int) : Int := match leadIn (nextOf p) p.lines e with
 | none => 0
 | some x => if i < 0 ∨ 1 < i then 0 else if x = i then 1 else 2

/-! walks -/
def lies (pos : List Int) (e : Int) : Int := if 0 ≤ e then pos.getD e.toNat 0 else 0
def refLies (pos : List Int) (e : Int) : Int := if lies pos e = 1 ∨ lies pos e = 2 then lies pos e else 0
def step (p : Plan) (pos : List Int) (h : Port) : Port × Int := match nextOf p h with
 | none => (zeroPort, 3)
 | some x => if p.kind x.e = 4 then (zeroPort, 2) else match through p x.e x.n (lies pos x.e) with
  | none => (zeroPort, 4)
  | some o => (⟨x.e, o⟩, 0)
def turn (p : Plan) (pos : List Int) (h : Port) : Option Port := (through p h.e h.n (lies pos h.e)).map fun i => ⟨h.e, i⟩
def back (p : Plan) (pos : List Int) (h : Port) : Option Port := (turn p pos h).bind fun x => nextOf p x
def runGo (p : Plan) (pos : List Int) : Nat → Port → List Port × Int
 | 0, h => if (step p pos h).2 ≠ 0 then ([], (step p pos h).2) else ([], 5)
 | k + 1, h => if (step p pos h).2 ≠ 0 then ([], (step p pos h).2) else ((step p pos h).1 :: (runGo p pos k (step p pos h).1).1, (runGo p pos k (step p pos h).1).2)
def runMost (most : Int) : Nat := (max 0 (min most 1000)).toNat
def run (p : Plan) (pos : List Int) (h : Port) (most : Int) : List Port × Int := runGo p pos (runMost most) h
/-! signals along a run -/
def portsNo (p : Plan) : Int := (p.elems.map fun e => ends e.kind).sum
def aheadGo (p : Plan) (pos : List Int) : Nat → Port → Int → Option (Int × Int)
 | k, h, m => if 0 ≤ reads p h then some (reads p h, m) else if (step p pos h).2 ≠ 0 then none else match k with
  | 0 => none
  | k + 1 => aheadGo p pos k (step p pos h).1 (m + p.length (step p pos h).1.e)
def ahead (p : Plan) (pos : List Int) (h : Port) : Option (Int × Int) := aheadGo p pos (portsNo p).toNat h 0
end Go.Proofs.YtcaeglnfflkabaaGreat

/- Plain laws on nets: joins lead back, ways lead back, what a fine plan has. No condition. -/
namespace Go.Proofs.YtcaeglnfflkabaaGreat

theorem nodup_idx {α : Type} {l : List α} : l.Nodup ↔ ∀ i j, i < j → j < l.length → l[i]? ≠ l[j]? := by
 unfold List.Nodup
 rw [List.pairwise_iff_getElem]
 constructor
 ·intro h i j hij hj
  rw [List.getElem?_eq_getElem (show i < l.length by omega), List.getElem?_eq_getElem hj]
  exact fun e => h i j (by omega) hj hij (Option.some.inj e)
 ·intro h i j hi hj hij e
  exact h i j hij hj (by rw [List.getElem?_eq_getElem hi, List.getElem?_eq_getElem hj, e])

/-! what a plan that is fine has -/
theorem chk_zero {p : Plan} (h : chk p = 0) : tooMuch p = false ∧ argsOk p = true ∧ namesTwice p = false ∧ joinedOk p = true ∧ signalsOk p = true ∧ linesOk p = true ∧ longOk p = true := by
 unfold chk at h
 cases h1 : tooMuch p <;> cases h2 : argsOk p <;> cases h3 : namesTwice p <;> cases h4 : joinedOk p <;> cases h5 : signalsOk p <;> cases h6 : linesOk p <;> cases h7 : longOk p <;> simp_all

theorem joinGo_ok {p : Plan} : ∀ (js : List Join) (met : List Port), joinGo p met js = true → (flatJoins js).Nodup ∧ (∀ x ∈ flatJoins js, x ∉ met) ∧ ∀ x ∈ flatJoins js, isPort p x = true := by
 intro js
 induction js with
 | nil => intro met _; simp [flatJoins]
 | cons j r ih =>
  intro met h
  simp only [joinGo, Bool.and_eq_true, Bool.not_eq_true', Bool.or_eq_false_iff, decide_eq_false_iff_not, Bool.not_eq_false'] at h
  obtain ⟨⟨⟨⟨⟨h1, h2⟩, h3⟩, h4⟩, h5⟩, h6⟩ := h
  obtain ⟨i1, i2, i3⟩ := ih _ h6
  have hna : j.a ∉ flatJoins r := fun hm => i2 _ hm (by simp)
  have hnb : j.b ∉ flatJoins r := fun hm => i2 _ hm (by simp)
  refine ⟨?_, ?_, ?_⟩
  ·simp only [flatJoins, List.nodup_cons, List.mem_cons, not_or]
   exact ⟨⟨h3, hna⟩, hnb, i1⟩
  ·intro x hx
   simp only [flatJoins, List.mem_cons] at hx
   rcases hx with rfl | rfl | hx
   ·exact h1
   ·exact h2
   ·intro hm; exact i2 x hx (by simp [hm])
  ·intro x hx
   simp only [flatJoins, List.mem_cons] at hx
   rcases hx with rfl | rfl | hx
   ·exact h4
   ·exact h5
   ·exact i3 x hx

theorem nextIn_some {js : List Join} {x y : Port} (h : nextIn js x = some y) : x ∈ flatJoins js ∧ y ∈ flatJoins js := by
 induction js with
 | nil => simp [nextIn] at h
 | cons j r ih =>
  unfold nextIn at h
  split at h
  ·rename_i he; cases h; simp [flatJoins, he]
  ·split at h
   ·rename_i he; cases h; simp [flatJoins, he]
   ·have := ih h; simp [flatJoins, this.1, this.2]
theorem nextIn_none {js : List Join} {x : Port} : nextIn js x = none ↔ x ∉ flatJoins js := by
 induction js with
 | nil => simp [nextIn, flatJoins]
 | cons j r ih =>
  unfold nextIn
  split
  ·rename_i he; simp [flatJoins, he]
  ·rename_i h1
   split
   ·rename_i he; simp [flatJoins, he]
   ·rename_i h2
    rw [ih]; simp [flatJoins, show x ≠ j.a from fun e => h1 e.symm, show x ≠ j.b from fun e => h2 e.symm]
theorem nextIn_back {js : List Join} (hn : (flatJoins js).Nodup) {x y : Port} (h : nextIn js x = some y) : nextIn js y = some x ∧ x ≠ y := by
 induction js with
 | nil => simp [nextIn] at h
 | cons j r ih =>
  simp only [flatJoins, List.nodup_cons, List.mem_cons, not_or] at hn
  obtain ⟨⟨h1, h2⟩, h3, h4⟩ := hn
  unfold nextIn at h ⊢
  split at h
  ·rename_i he
   cases h
   rw [if_neg h1, if_pos rfl]
   exact ⟨by rw [he], by rw [← he]; exact h1⟩
  ·rename_i hne
   split at h
   ·rename_i he
    cases h
    rw [if_pos rfl]
    exact ⟨by rw [he], by rw [← he]; exact fun e => h1 e.symm⟩
   ·rename_i hne2
    obtain ⟨m1, m2⟩ := nextIn_some h
    rw [if_neg (fun e => h2 (by rw [e]; exact m2)), if_neg (fun e => h3 (by rw [e]; exact m2))]
    exact ih h4 h

/-- the facts of a plan that may be -/
structure Good (p : Plan) : Prop where
 chk : chk p = 0
 nodup : (flatJoins p.joins).Nodup
 port : ∀ x ∈ flatJoins p.joins, isPort p x = true
theorem good_of {p : Plan} (h : chk p = 0) : Good p := by
 obtain ⟨_, _, _, h4, _⟩ := chk_zero h
 unfold joinedOk at h4
 simp only [Bool.and_eq_true] at h4
 obtain ⟨i1, _, i3⟩ := joinGo_ok _ _ h4.1
 exact ⟨h, i1, i3⟩
theorem Good.back {p : Plan} (g : Good p) {x y : Port} (h : nextOf p x = some y) : nextOf p y = some x ∧ x ≠ y := nextIn_back g.nodup h
theorem Good.ports {p : Plan} (g : Good p) {x y : Port} (h : nextOf p x = some y) : isPort p x = true ∧ isPort p y = true :=
 ⟨g.port _ (nextIn_some h).1, g.port _ (nextIn_some h).2⟩

/-! ways lead back -/
theorem outs_zero {p : Plan} {e : Int} (h : p.kind e ≠ 1) (h2 : p.kind e ≠ 2) (h3 : p.kind e ≠ 3) (i : Int) : outs p e i = [] := by
 unfold outs
 simp [h, h2, h3]
theorem through_kind {p : Plan} {e i pos o : Int} (h : through p e i pos = some o) : p.kind e = 1 ∨ p.kind e = 2 ∨ p.kind e = 3 := by
 by_cases h1 : p.kind e = 1
 ·exact .inl h1
 by_cases h2 : p.kind e = 2
 ·exact .inr (.inl h2)
 by_cases h3 : p.kind e = 3
 ·exact .inr (.inr h3)
 ·unfold through at h; rw [outs_zero h1 h2 h3] at h; cases h
theorem through_track {p : Plan} {e : Int} (h : p.kind e = 1) (i pos : Int) : through p e i pos = if i < 0 ∨ 2 ≤ i then none else some (1 - i) := by
 unfold through outs
 simp only [h, ends]
 by_cases hi : i < 0 ∨ 2 ≤ i
 ·simp [hi, wayGo]
 ·simp [hi, wayGo]
theorem through_cross {p : Plan} {e : Int} (h : p.kind e = 3) (i pos : Int) : through p e i pos = if i < 0 ∨ 4 ≤ i then none else some (cross i) := by
 unfold through outs
 simp only [h, ends]
 by_cases hi : i < 0 ∨ 4 ≤ i
 ·simp [hi, wayGo]
 ·simp [hi, wayGo]
theorem through_points {p : Plan} {e : Int} (h : p.kind e = 2) (i pos : Int) : through p e i pos = if i = 0 then (if pos = 1 then some 1 else if pos = 2 then some 2 else none) else if i = 1 then (if pos = 1 then some 0 else none) else if i = 2 then (if pos = 2 then some 0 else none) else none := by
 unfold through outs
 simp only [h, ends]
 by_cases hi : i < 0 ∨ 3 ≤ i
 ·rw [if_neg (show ¬ i = 1 by omega), if_neg (show ¬ i = 2 by omega)]
  rw [if_pos (by simpa using hi)]
  simp [wayGo, show ¬ i = 0 by omega]
 ·have : i = 0 ∨ i = 1 ∨ i = 2 := by omega
  rcases this with rfl | rfl | rfl
  ·by_cases h1 : pos = 1
   ·subst h1; simp [wayGo]
   ·by_cases h2 : pos = 2
    ·subst h2; simp [wayGo]
    ·simp [wayGo, h1, h2, show ¬ (1 : Int) = pos from fun e => h1 e.symm, show ¬ (2 : Int) = pos from fun e => h2 e.symm]
  ·by_cases h1 : pos = 1
   ·subst h1; simp [wayGo]
   ·simp [wayGo, h1, show ¬ (1 : Int) = pos from fun e => h1 e.symm]
  ·by_cases h1 : pos = 2
   ·subst h1; simp [wayGo]
   ·simp [wayGo, h1, show ¬ (2 : Int) = pos from fun e => h1 e.symm]
theorem cross_cases {i : Int} (h0 : 0 ≤ i) (h1 : i < 4) : 0 ≤ cross i ∧ cross i < 4 ∧ cross (cross i) = i := by
 have : i = 0 ∨ i = 1 ∨ i = 2 ∨ i = 3 := by omega
 rcases this with rfl | rfl | rfl | rfl <;> decide
theorem through_back {p : Plan} {e i pos o : Int} (h : through p e i pos = some o) : through p e o pos = some i := by
 rcases through_kind h with hk | hk | hk
 ·rw [through_track hk] at h ⊢
  split at h
  ·cases h
  ·simp at h; subst h; rw [if_neg (by omega)]; congr 1; omega
 ·rw [through_points hk] at h ⊢
  repeat' split at h
  all_goals first | (cases h; done) | (simp at h; subst h; subst_vars; simp)
 ·rw [through_cross hk] at h ⊢
  split at h
  ·cases h
  ·simp at h; subst h
   obtain ⟨c1, c2, c3⟩ := cross_cases (i := i) (by omega) (by omega)
   rw [if_neg (by omega), c3]
theorem ends_nonneg (k : Int) : 0 ≤ ends k ∧ ends k ≤ 4 := by
 unfold ends
 repeat' split
 all_goals omega
theorem Good.notGate {p : Plan} {e i pos o : Int} (h : through p e i pos = some o) : p.kind e ≠ 4 := by
 rcases through_kind h with h | h | h <;> omega

/-! walks -/
theorem step_ok {p : Plan} {pos : List Int} {h x : Port} (hs : step p pos h = (x, 0)) : ∃ y, nextOf p h = some y ∧ x.e = y.e ∧ through p y.e y.n (lies pos y.e) = some x.n := by
 unfold step at hs
 cases hn : nextOf p h with
 | none => simp [hn] at hs
 | some y =>
  simp only [hn] at hs
  split at hs
  ·simp at hs
  ·cases ht : through p y.e y.n (lies pos y.e) with
   | none => simp [ht] at hs
   | some o =>
    simp only [ht, Prod.mk.injEq, and_true] at hs
    subst hs
    exact ⟨y, rfl, rfl, ht⟩
theorem step_mk {p : Plan} {pos : List Int} {h y : Port} {o : Int} (hn : nextOf p h = some y) (ht : through p y.e y.n (lies pos y.e) = some o) : step p pos h = (⟨y.e, o⟩, 0) := by
 unfold step
 simp only [hn]
 rw [if_neg (Good.notGate ht)]
 simp only [ht]
end Go.Proofs.YtcaeglnfflkabaaGreat

/- Plain laws on runs: how they join, that they end or come back. No condition. -/
namespace Go.Proofs.YtcaeglnfflkabaaGreat

/-! the headings of a run, one by one -/
/-- all headings of a run are ports of the plan -/
theorem isPort_iff {p : Plan} {x : Port} : isPort p x = true ↔ 0 ≤ x.e ∧ x.e < p.elems.length ∧ 0 ≤ x.n ∧ x.n < ends (p.kind x.e) := by
 unfold isPort; simp [and_assoc]
/-! turned -/
theorem turned {p : Plan} (g : Good p) {pos : List Int} {h x : Port} (hs : step p pos h = (x, 0)) : ∃ b, turn p pos x = some b ∧
  (∀ t, turn p pos h = some t → step p pos b = (t, 0)) ∧ (turn p pos h = none → (step p pos b).2 = 4 ∨ (step p pos b).2 = 2) := by
 obtain ⟨y, hn, he, ht⟩ := step_ok hs
 have hb := (g.back hn).1
 refine ⟨y, ?_, ?_, ?_⟩
 ·unfold turn; rw [he, through_back ht]; rfl
 ·intro t hht
  unfold turn at hht
  cases h1 : through p h.e h.n (lies pos h.e) with
  | none => simp [h1] at hht
  | some i =>
   simp only [h1, Option.map_some, Option.some.injEq] at hht
   subst hht
   exact step_mk hb h1
 ·intro hht
  unfold turn at hht
  cases h1 : through p h.e h.n (lies pos h.e) with
  | some i => simp [h1] at hht
  | none =>
   unfold step
   simp only [hb, h1]
   split <;> simp

/-! signals along a run -/
end Go.Proofs.YtcaeglnfflkabaaGreat

/- Plain laws on plans: braking distances; names twice, a join twice; longer elements. No condition. -/
namespace Go.Proofs.YtcaeglnfflkabaaGreat

/-! an element twice -/
/-! plans whose elements have the same kinds -/
def Alike (q p : Plan) : Prop := q.elems.map (·.kind) = p.elems.map (·.kind)
theorem Alike.len {q p : Plan} (h : Alike q p) : q.elems.length = p.elems.length := by have := congrArg List.length h; simpa using this
theorem Alike.kind {q p : Plan} (h : Alike q p) (i : Int) : q.kind i = p.kind i := by
 unfold Plan.kind Plan.elem
 split
 ·have := congrArg (fun l : List Int => l.getD i.toNat 0) h
  simp only [List.getD, List.getElem?_map] at this ⊢
  cases h1 : q.elems[i.toNat]? <;> cases h2 : p.elems[i.toNat]? <;> simp_all [zeroElem]
 ·rfl
theorem Alike.isPort {q p : Plan} (h : Alike q p) (x : Port) : Proofs.YtcaeglnfflkabaaGreat.isPort q x = Proofs.YtcaeglnfflkabaaGreat.isPort p x := by unfold Proofs.YtcaeglnfflkabaaGreat.isPort; rw [h.len, h.kind]
theorem Alike.joinGo {q p : Plan} (h : Alike q p) : ∀ (js : List Join) (met : List Port), Proofs.YtcaeglnfflkabaaGreat.joinGo q met js = Proofs.YtcaeglnfflkabaaGreat.joinGo p met js := by
 intro js
 induction js with
 | nil => intro met; rfl
 | cons j r ih => intro met; simp only [Proofs.YtcaeglnfflkabaaGreat.joinGo, h.isPort, ih]
theorem Alike.gateGo {q p : Plan} (h : Alike q p) (nx : Port → Option Port) : ∀ (l m : List Elem) (i : Nat), l.map (·.kind) = m.map (·.kind) → Proofs.YtcaeglnfflkabaaGreat.gateGo q nx i l = Proofs.YtcaeglnfflkabaaGreat.gateGo p nx i m := by
 intro l
 induction l with
 | nil => intro m i hm; cases m with
  | nil => rfl
  | cons _ _ => simp at hm
 | cons e r ih => intro m i hm; cases m with
  | nil => simp at hm
  | cons f s =>
   simp only [List.map_cons, List.cons.injEq] at hm
   simp only [Proofs.YtcaeglnfflkabaaGreat.gateGo, hm.1, h.kind, ih s (i + 1) hm.2]
theorem Alike.joinedOk {q p : Plan} (h : Alike q p) (hj : q.joins = p.joins) : Proofs.YtcaeglnfflkabaaGreat.joinedOk q = Proofs.YtcaeglnfflkabaaGreat.joinedOk p := by
 have hn : nextOf q = nextOf p := by funext x; unfold nextOf; rw [hj]
 unfold Proofs.YtcaeglnfflkabaaGreat.joinedOk
 rw [hj, h.joinGo, hn, h.gateGo (nextOf p) q.elems p.elems 0 h]
theorem Alike.sigGo {q p : Plan} (h : Alike q p) (hj : q.joins = p.joins) : ∀ (l m : List Sig) (met : List Port), l.map (·.at_) = m.map (·.at_) → Proofs.YtcaeglnfflkabaaGreat.sigGo q met l = Proofs.YtcaeglnfflkabaaGreat.sigGo p met m := by
 have hn : nextOf q = nextOf p := by funext x; unfold nextOf; rw [hj]
 intro l
 induction l with
 | nil => intro m met hm; cases m with
  | nil => rfl
  | cons _ _ => simp at hm
 | cons e r ih => intro m met hm; cases m with
  | nil => simp at hm
  | cons f s =>
   simp only [List.map_cons, List.cons.injEq] at hm
   simp only [Proofs.YtcaeglnfflkabaaGreat.sigGo, hm.1, sigOk, h.kind, h.isPort, hn, ih s _ hm.2]
theorem gateSig_congr (ps : List Port) : ∀ (l m : List Elem) (i : Nat), l.map (·.kind) = m.map (·.kind) → gateSigGo ps i l = gateSigGo ps i m := by
 intro l
 induction l with
 | nil => intro m i hm; cases m with
  | nil => rfl
  | cons _ _ => simp at hm
 | cons e r ih => intro m i hm; cases m with
  | nil => simp at hm
  | cons f s =>
   simp only [List.map_cons, List.cons.injEq] at hm
   simp only [gateSigGo, hm.1, ih s (i + 1) hm.2]
theorem Alike.signalsOk {q p : Plan} (h : Alike q p) (hj : q.joins = p.joins) (hs : q.sigs.map (·.at_) = p.sigs.map (·.at_)) : Proofs.YtcaeglnfflkabaaGreat.signalsOk q = Proofs.YtcaeglnfflkabaaGreat.signalsOk p := by
 unfold Proofs.YtcaeglnfflkabaaGreat.signalsOk
 rw [h.sigGo hj _ _ _ hs, hs, gateSig_congr _ q.elems p.elems 0 h]
theorem Alike.linesOk {q p : Plan} (h : Alike q p) (hj : q.joins = p.joins) (hl : q.lines = p.lines) : Proofs.YtcaeglnfflkabaaGreat.linesOk q = Proofs.YtcaeglnfflkabaaGreat.linesOk p := by
 have hn : nextOf q = nextOf p := by funext x; unfold nextOf; rw [hj]
 have ht : ∀ (l met : List Int), tracksGo q met l = tracksGo p met l := by
  intro l
  induction l with
  | nil => intro met; rfl
  | cons e r ih => intro met; simp only [tracksGo, inLine, h.kind, h.len, ih]
 have hg : ∀ (l : List Line) (met : List Int), lineGo q met l = lineGo p met l := by
  intro l
  induction l with
  | nil => intro met; rfl
  | cons e r ih => intro met; simp only [lineGo, ht, hn, ih]
 unfold Proofs.YtcaeglnfflkabaaGreat.linesOk
 rw [hl, hg]

/-! a name twice -/
theorem flat_append (a b : List Join) : flatJoins (a ++ b) = flatJoins a ++ flatJoins b := by
 induction a with
 | nil => rfl
 | cons j r ih => simp [flatJoins, ih]
/-! longer elements, slower trains -/
end Go.Proofs.YtcaeglnfflkabaaGreat

/- Plain laws on nets: lines and their directions, signals, how many ports are joined. No condition. -/
namespace Go.Proofs.YtcaeglnfflkabaaGreat

/-! lines -/
theorem posIn_none {l : List Int} {e : Int} : ∀ {i : Nat}, posIn i l e = none ↔ e ∉ l := by
 induction l with
 | nil => intro i; simp [posIn]
 | cons x r ih =>
  intro i
  unfold posIn
  split
  ·rename_i h; subst h; simp
  ·rename_i h; rw [ih]; simp [show ¬ e = x from fun h' => h h'.symm]
theorem posIn_append (l r : List Int) (e : Int) : ∀ i : Nat, posIn i (l ++ r) e = match posIn i l e with
  | some k => some k
  | none => posIn (i + l.length) r e := by
 induction l with
 | nil => intro i; simp [posIn]
 | cons x t ih =>
  intro i
  have e1 : posIn i (x :: t ++ r) e = if x = e then some i else posIn (i + 1) (t ++ r) e := rfl
  have e2 : posIn i (x :: t) e = if x = e then some i else posIn (i + 1) t e := rfl
  rw [e1, e2]
  split
  ·rfl
  ·rw [ih, List.length_cons, show i + 1 + t.length = i + (t.length + 1) by omega]
theorem posIn_get {l : List Int} {e : Int} {j : Nat} : ∀ {i : Nat}, posIn i l e = some j → i ≤ j ∧ l[j - i]? = some e := by
 induction l with
 | nil => intro i h; simp [posIn] at h
 | cons x r ih =>
  intro i h
  unfold posIn at h
  split at h
  ·rename_i hx; cases h; subst hx; simp
  ·obtain ⟨h1, h2⟩ := ih h
   refine ⟨by omega, ?_⟩
   rw [show j - i = (j - (i + 1)) + 1 by omega, List.getElem?_cons_succ]; exact h2
def flatLines (l : List Line) : List Int := l.flatMap (·.elems)
theorem lineFrom_none {l : List Line} {e : Int} : ∀ {i : Nat}, lineFrom i l e = none ↔ e ∉ flatLines l := by
 induction l with
 | nil => intro i; simp [lineFrom, flatLines]
 | cons x r ih =>
  intro i
  unfold lineFrom
  cases h : posIn 0 x.elems e with
  | none =>
   simp only [ih]
   have := posIn_none.1 h
   simp [flatLines, this]
  | some k =>
   have : e ∈ x.elems := by
    have := (posIn_get h).2
    exact List.mem_of_getElem? this
   simp [flatLines, this]
theorem lineFrom_append (l r : List Line) (e : Int) : ∀ i : Nat, lineFrom i (l ++ r) e = match lineFrom i l e with
  | some k => some k
  | none => lineFrom (i + l.length) r e := by
 induction l with
 | nil => intro i; simp [lineFrom]
 | cons x t ih =>
  intro i
  have e1 : lineFrom i (x :: t ++ r) e = match posIn 0 x.elems e with
   | some k => some (i, k)
   | none => lineFrom (i + 1) (t ++ r) e := rfl
  have e2 : lineFrom i (x :: t) e = match posIn 0 x.elems e with
   | some k => some (i, k)
   | none => lineFrom (i + 1) t e := rfl
  rw [e1, e2]
  cases h : posIn 0 x.elems e with
  | some k => rfl
  | none => simp only [ih, List.length_cons]; rw [show i + 1 + t.length = i + (t.length + 1) by omega]
theorem leadIn_append (nx : Port → Option Port) (l r : List Line) (e : Int) : e ∉ flatLines l → leadIn nx (l ++ r) e = leadIn nx r e := by
 induction l with
 | nil => intro _; rfl
 | cons x t ih =>
  intro h
  simp only [flatLines, List.flatMap_cons, List.mem_append, not_or] at h
  rw [List.cons_append, leadIn, posIn_none.2 h.1]
  exact ih h.2

theorem tracksGo_ok {p : Plan} : ∀ (l met : List Int), tracksGo p met l = true → l.Nodup ∧ (∀ x ∈ l, x ∉ met) ∧ ∀ x ∈ l, inLine p x = true := by
 intro l
 induction l with
 | nil => intro met _; simp
 | cons e r ih =>
  intro met h
  simp only [tracksGo, Bool.and_eq_true, Bool.not_eq_true', decide_eq_false_iff_not] at h
  obtain ⟨⟨h1, h2⟩, h3⟩ := h
  obtain ⟨i1, i2, i3⟩ := ih _ h3
  refine ⟨List.nodup_cons.2 ⟨fun hm => i2 e hm (by simp), i1⟩, ?_, ?_⟩
  ·intro x hx
   rcases List.mem_cons.1 hx with rfl | hx
   ·exact h2
   ·exact fun hm => i2 x hx (by simp [hm])
  ·intro x hx
   rcases List.mem_cons.1 hx with rfl | hx
   ·exact h1
   ·exact i3 x hx
theorem lineGo_ok {p : Plan} : ∀ (l : List Line) (met : List Int), lineGo p met l = true → (flatLines l).Nodup ∧ (∀ x ∈ flatLines l, x ∉ met ∧ inLine p x = true) ∧ ∀ x ∈ l, x.elems ≠ [] ∧ rowOk (nextOf p) x.elems = true := by
 intro l
 induction l with
 | nil => intro met _; simp [flatLines]
 | cons e r ih =>
  intro met h
  simp only [lineGo, Bool.and_eq_true, decide_eq_true_eq] at h
  obtain ⟨⟨⟨h1, h2⟩, h3⟩, h4⟩ := h
  obtain ⟨i1, i2, i3⟩ := ih _ h4
  obtain ⟨t1, t2, t3⟩ := tracksGo_ok _ _ h2
  refine ⟨?_, ?_, ?_⟩
  ·show (e.elems ++ flatLines r).Nodup
   rw [List.nodup_append]
   refine ⟨t1, i1, fun a ha b hb hab => ?_⟩
   exact (i2 b hb).1 (by rw [← hab]; simp [ha])
  ·intro x hx
   have hx : x ∈ e.elems ++ flatLines r := hx
   rcases List.mem_append.1 hx with hx | hx
   ·exact ⟨t2 x hx, t3 x hx⟩
   ·exact ⟨fun hm => (i2 x hx).1 (by simp [hm]), (i2 x hx).2⟩
  ·intro x hx
   rcases List.mem_cons.1 hx with rfl | hx
   ·exact ⟨h1, h3⟩
   ·exact i3 x hx
theorem Good.lines {p : Plan} (g : Good p) : (flatLines p.lines).Nodup ∧ (∀ x ∈ flatLines p.lines, inLine p x = true) ∧ ∀ x ∈ p.lines, x.elems ≠ [] ∧ rowOk (nextOf p) x.elems = true := by
 obtain ⟨_, _, _, _, _, h6, _⟩ := chk_zero g.chk
 obtain ⟨a, b, c⟩ := lineGo_ok _ _ h6
 exact ⟨a, fun x hx => (b x hx).2, c⟩

/-- what the loop over the lines has written into the map of lines -/
def lineAt (done : List Line) (l : List Int) (k : Nat) (z : Int) : Option (Nat × Nat) := match lineFrom 0 done z with
 | some r => some r
 | none => (posIn 0 (l.take k) z).map fun j => (done.length, j)
theorem lineAt_zero (done : List Line) (l : List Int) (z : Int) : lineAt done l 0 z = lineFrom 0 done z := by
 unfold lineAt; cases lineFrom 0 done z <;> simp [posIn]
theorem lineAt_end (done : List Line) (l : Line) (z : Int) : lineAt done l.elems l.elems.length z = lineFrom 0 (done ++ [l]) z := by
 unfold lineAt
 rw [lineFrom_append]
 cases lineFrom 0 done z with
 | some r => rfl
 | none =>
  simp only [List.take_length, lineFrom, Nat.zero_add]
  cases posIn 0 l.elems z <;> rfl
theorem take_snoc_get {α : Type} {l : List α} {k : Nat} {x : α} (h : l[k]? = some x) : l.take (k + 1) = l.take k ++ [x] := by
 rw [List.take_add_one, h]; rfl
theorem lineAt_key {done : List Line} {l : List Int} {k : Nat} {e : Int} (he : l[k]? = some e) (h1 : e ∉ flatLines done) (h2 : e ∉ l.take k) : lineAt done l (k + 1) e = some (done.length, k) := by
 unfold lineAt
 rw [lineFrom_none.2 h1]
 have hk := (List.getElem?_eq_some_iff.1 he).1
 simp only [take_snoc_get he, posIn_append, posIn_none.2 h2, Nat.zero_add]
 simp [posIn, Nat.min_eq_left (Nat.le_of_lt hk)]
theorem lineAt_other {done : List Line} {l : List Int} {k : Nat} {e z : Int} (he : l[k]? = some e) (hz : z ≠ e) : lineAt done l (k + 1) z = lineAt done l k z := by
 unfold lineAt
 cases lineFrom 0 done z with
 | some r => rfl
 | none =>
  simp only [take_snoc_get he, posIn_append]
  cases posIn 0 (l.take k) z with
  | some j => rfl
  | none => simp [posIn, show ¬ e = z from fun h => hz h.symm]

/-- what it has written into the map of entering ends -/
def leadAt (nx : Port → Option Port) (done : List Line) (l : List Int) (k : Nat) (z : Int) : Option Int := match leadIn nx done z with
 | some r => some r
 | none => match posIn 0 (l.take k) z with
  | some j => (leadList nx l)[j]?
  | none => none
theorem leadAt_zero (nx : Port → Option Port) (done : List Line) (l : List Int) (z : Int) : leadAt nx done l 0 z = leadIn nx done z := by
 unfold leadAt; cases leadIn nx done z <;> simp [posIn]
theorem leadGo_length (nx : Port → Option Port) : ∀ (l : List Int) (i : Int), (leadGo nx i l).length = l.length := by
 intro l
 induction l with
 | nil => intro i; rfl
 | cons x r ih => intro i; simp [leadGo, ih]
theorem leadIn_none {nx : Port → Option Port} {l : List Line} {e : Int} : leadIn nx l e = none ↔ e ∉ flatLines l := by
 induction l with
 | nil => simp [leadIn, flatLines]
 | cons x r ih =>
  unfold leadIn
  cases h : posIn 0 x.elems e with
  | none => simp only [ih]; have := posIn_none.1 h; simp [flatLines, this]
  | some k =>
   obtain ⟨_, h2⟩ := posIn_get h
   rw [Nat.sub_zero] at h2
   have hk := (List.getElem?_eq_some_iff.1 h2).1
   have hm : e ∈ flatLines (x :: r) := by simp [flatLines, List.mem_of_getElem? h2]
   simp only [hm, not_true_eq_false, iff_false]
   rw [List.getElem?_eq_getElem (by rw [leadList, leadGo_length]; exact hk)]
   simp
theorem leadIn_snoc (nx : Port → Option Port) (done : List Line) (l : Line) (z : Int) : leadIn nx (done ++ [l]) z = leadAt nx done l.elems l.elems.length z := by
 unfold leadAt
 rw [List.take_length]
 cases h : leadIn nx done z with
 | none => rw [leadIn_append nx done [l] z (leadIn_none.1 h)]; unfold leadIn; rfl
 | some r =>
  simp only
  induction done with
  | nil => simp [leadIn] at h
  | cons x t ih =>
   unfold leadIn at h
   rw [List.cons_append]
   unfold leadIn
   cases hp : posIn 0 x.elems z with
   | some k => simp only [hp] at h ⊢; exact h
   | none => simp only [hp] at h ⊢; exact ih h
theorem leadAt_key {nx : Port → Option Port} {done : List Line} {l : List Int} {k : Nat} {e : Int} (he : l[k]? = some e) (h1 : e ∉ flatLines done) (h2 : e ∉ l.take k) : leadAt nx done l (k + 1) e = (leadList nx l)[k]? := by
 unfold leadAt
 rw [leadIn_none.2 h1]
 have hk := (List.getElem?_eq_some_iff.1 he).1
 simp only [take_snoc_get he, posIn_append, posIn_none.2 h2, Nat.zero_add]
 simp [posIn, Nat.min_eq_left (Nat.le_of_lt hk)]
theorem leadAt_other {nx : Port → Option Port} {done : List Line} {l : List Int} {k : Nat} {e z : Int} (he : l[k]? = some e) (hz : z ≠ e) : leadAt nx done l (k + 1) z = leadAt nx done l k z := by
 unfold leadAt
 cases leadIn nx done z with
 | some r => rfl
 | none =>
  simp only [take_snoc_get he, posIn_append]
  cases posIn 0 (l.take k) z with
  | some j => rfl
  | none => simp [posIn, show ¬ e = z from fun h => hz h.symm]
/-- semaphoreref6.enters -/
def entersGo (nx : Port → Option Port) : Int → Int → List Int → Option (List Int)
 | _, _, [] => some []
 | prev, out, y :: r => match nx ⟨prev, out⟩ with
  | some x => if x.e = y then (entersGo nx y (1 - x.n) r).map (x.n :: ·) else none
  | none => none
def enters (p : Plan) (l : List Int) : Option (List Int) :=
 if l = [] then none else if (l.all fun e => decide (p.kind e = 1)) = false then none else match l with
 | a :: b :: r => if firstOut (nextOf p) a b < 0 then none else (entersGo (nextOf p) a (firstOut (nextOf p) a b) (b :: r)).map ((1 - firstOut (nextOf p) a b) :: ·)
 | _ => some [0]
theorem entersGo_some (nx : Port → Option Port) : ∀ (r : List Int) (prev out : Int), (entersGo nx prev out r).isSome = chain nx prev out r := by
 intro r
 induction r with
 | nil => intro _ _; rfl
 | cons y r ih =>
  intro prev out
  unfold entersGo chain
  cases nx ⟨prev, out⟩ with
  | none => rfl
  | some x => simp only; by_cases h : x.e = y <;> simp [h, ih]
theorem enters_isSome (p : Plan) (l : List Int) : (enters p l).isSome = entersOk p l := by
 unfold enters entersOk
 by_cases h : l = []
 ·simp [h]
 ·rw [if_neg h]
  cases ha : (l.all fun e => decide (p.kind e = 1)) with
  | false => simp [h]
  | true =>
   simp only [Bool.true_eq_false, if_false]
   match l with
   | [] => exact absurd rfl h
   | [a] => simp [rowOk]
   | a :: b :: r =>
    simp only [rowOk]
    by_cases hf : firstOut (nextOf p) a b < 0
    ·simp [hf, show ¬ 0 ≤ firstOut (nextOf p) a b by omega]
    ·simp [hf, show 0 ≤ firstOut (nextOf p) a b by omega, entersGo_some]
/-! signals -/
theorem sigGo_ok {p : Plan} : ∀ (l : List Sig) (met : List Port), sigGo p met l = true → (l.map (·.at_)).Nodup ∧ (∀ s ∈ l, s.at_ ∉ met) ∧ ∀ s ∈ l, sigOk p s.at_ = true := by
 intro l
 induction l with
 | nil => intro met _; simp
 | cons e r ih =>
  intro met h
  simp only [sigGo, Bool.and_eq_true, Bool.not_eq_true', decide_eq_false_iff_not] at h
  obtain ⟨⟨h1, h2⟩, h3⟩ := h
  obtain ⟨i1, i2, i3⟩ := ih _ h3
  refine ⟨?_, ?_, ?_⟩
  ·rw [List.map_cons, List.nodup_cons]
   refine ⟨fun hm => ?_, i1⟩
   obtain ⟨s, hs, hse⟩ := List.mem_map.1 hm
   exact i2 s hs (by simp [hse])
  ·intro x hx
   rcases List.mem_cons.1 hx with rfl | hx
   ·exact h1
   ·exact fun hm => i2 x hx (by simp [hm])
  ·intro x hx
   rcases List.mem_cons.1 hx with rfl | hx
   ·exact h2
   ·exact i3 x hx
theorem Good.sigs {p : Plan} (g : Good p) : (p.sigs.map (·.at_)).Nodup ∧ ∀ s ∈ p.sigs, sigOk p s.at_ = true := by
 obtain ⟨_, _, _, _, h5, _⟩ := chk_zero g.chk
 unfold signalsOk at h5
 simp only [Bool.and_eq_true] at h5
 obtain ⟨a, _, c⟩ := sigGo_ok _ _ h5.1
 exact ⟨a, c⟩
/-! how many ports are joined -/
end Go.Proofs.YtcaeglnfflkabaaGreat
