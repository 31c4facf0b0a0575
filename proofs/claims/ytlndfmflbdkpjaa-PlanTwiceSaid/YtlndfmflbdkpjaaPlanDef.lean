/- Plans and what the functions of package plan compute of them, in plain words. No condition. -/
import Derived.Test.YtlndfmflbdkpjaaBase
namespace Go.Proofs.Ytlndfmflbdkpjaa

structure Port where
  e : Int
  n : Int
  deriving DecidableEq, Inhabited
structure Elem where
  name : ByteArray
  kind : Int
  len : Int
  deriving DecidableEq
structure Join where
  a : Port
  b : Port
  deriving DecidableEq, Inhabited
structure Sig where
  name : ByteArray
  at_ : Port
  auto : Bool
  deriving DecidableEq
structure Line where
  name : ByteArray
  elems : List Int
  deriving DecidableEq
structure Plan where
  elems : List Elem
  joins : List Join
  sigs : List Sig
  lines : List Line
  top : Int
  brake : Int
  margin : Int
  throw : Int
  hard : Bool
  deriving DecidableEq

def ends (k : Int) : Int := if k = 1 then 2 else if k = 2 then 3 else if k = 3 then 4 else if k = 4 then 1 else 0

/-- the sum of v, v - b, .. as long as they are above 0 -/
def stopSum (b : Int) : Nat → Int → Int
  | 0, _ => 0
  | f + 1, v => if 0 < v then v + stopSum b f (v - b) else 0
def stop (v b : Int) : Int := if v < 0 ∨ 60 < v ∨ b < 1 ∨ 10 < b then 0 else stopSum b 61 (v - b)

def zeroElem : Elem := ⟨ByteArray.empty, 0, 0⟩
def Plan.elem (p : Plan) (i : Int) : Elem := if 0 ≤ i then p.elems.getD i.toNat zeroElem else zeroElem
def Plan.kind (p : Plan) (i : Int) : Int := (p.elem i).kind
def Plan.length (p : Plan) (i : Int) : Int := (p.elem i).len

def isPort (p : Plan) (x : Port) : Bool := decide (0 ≤ x.e) && decide (x.e < p.elems.length) && decide (0 ≤ x.n) && decide (x.n < ends (p.kind x.e))

/-! names -/
def isLetter (c : UInt8) : Bool := (decide (97 ≤ c.toNat) && decide (c.toNat ≤ 122)) || (decide (65 ≤ c.toNat) && decide (c.toNat ≤ 90))
def isDigit (c : UInt8) : Bool := decide (48 ≤ c.toNat) && decide (c.toNat ≤ 57)
def nameList (l : List UInt8) : Bool := match l with
  | [] => false
  | c :: r => decide (r.length < 8) && isLetter c && r.all fun c => isLetter c || isDigit c
def nameOk (s : ByteArray) : Bool := nameList s.data.toList

def elemOk (e : Elem) : Bool := nameOk e.name && decide (ends e.kind ≠ 0) && (if e.kind = 4 then decide (e.len = 0) else decide (1 ≤ e.len) && decide (e.len ≤ 4000))
def numsOk (p : Plan) : Bool :=
  decide (1 ≤ p.top) && decide (p.top ≤ 60) && decide (1 ≤ p.brake) && decide (p.brake ≤ 10) && decide (1 ≤ p.margin) && decide (p.margin ≤ 4000) && decide (1 ≤ p.throw) && decide (p.throw ≤ 20) && decide (p.elems.length ≠ 0)
def argsOk (p : Plan) : Bool := numsOk p && (p.elems.all elemOk && (p.sigs.all (fun s => nameOk s.name) && p.lines.all (fun l => nameOk l.name)))

/-- is an element there twice? -/
def dupGo {α : Type} [DecidableEq α] : List α → List α → Bool
  | _, [] => false
  | met, x :: r => decide (x ∈ met) || dupGo (met ++ [x]) r
def dup {α : Type} [DecidableEq α] (l : List α) : Bool := dupGo [] l
def namesTwice (p : Plan) : Bool := dup (p.elems.map (·.name)) || (dup (p.sigs.map (·.name)) || dup (p.lines.map (·.name)))

/-! joins -/
def nextIn : List Join → Port → Option Port
  | [], _ => none
  | j :: r, x => if j.a = x then some j.b else if j.b = x then some j.a else nextIn r x
def nextOf (p : Plan) (x : Port) : Option Port := nextIn p.joins x
def flatJoins : List Join → List Port
  | [] => []
  | j :: r => j.a :: j.b :: flatJoins r
def joinGo (p : Plan) : List Port → List Join → Bool
  | _, [] => true
  | met, j :: r => !(decide (j.a ∈ met) || decide (j.b ∈ met) || decide (j.a = j.b) || !isPort p j.a || !isPort p j.b) && joinGo p (met ++ [j.a, j.b]) r
/-- each gate is joined, and to no gate -/
def gateGo (p : Plan) (nx : Port → Option Port) : Nat → List Elem → Bool
  | _, [] => true
  | i, e :: r => (if e.kind = 4 then (match nx ⟨i, 0⟩ with | some x => decide (p.kind x.e ≠ 4) | none => false) else true) && gateGo p nx (i + 1) r
def joinedOk (p : Plan) : Bool := joinGo p [] p.joins && gateGo p (nextOf p) 0 p.elems

/-! signals -/
def readsGo : Nat → List Sig → Port → Int
  | _, [], _ => -1
  | i, s :: r, x => if s.at_ = x then i else readsGo (i + 1) r x
def reads (p : Plan) (x : Port) : Int := readsGo 0 p.sigs x
def sigOk (p : Plan) (x : Port) : Bool := isPort p x && (decide (p.kind x.e = 1) || decide (p.kind x.e = 4)) && (match nextOf p x with | some y => decide (p.kind y.e ≠ 4) | none => false)
def sigGo (p : Plan) : List Port → List Sig → Bool
  | _, [] => true
  | met, s :: r => !decide (s.at_ ∈ met) && sigOk p s.at_ && sigGo p (met ++ [s.at_]) r
def gateSigGo (l : List Port) : Nat → List Elem → Bool
  | _, [] => true
  | i, e :: r => (if e.kind = 4 then decide ((⟨i, 0⟩ : Port) ∈ l) else true) && gateSigGo l (i + 1) r
def signalsOk (p : Plan) : Bool := sigGo p [] p.sigs && gateSigGo (p.sigs.map (·.at_)) 0 p.elems

/-! lines -/
def chain (nx : Port → Option Port) : Int → Int → List Int → Bool
  | _, _, [] => true
  | prev, out, y :: r => match nx ⟨prev, out⟩ with
    | some x => decide (x.e = y) && chain nx y (1 - x.n) r
    | none => false
def leadsTo (nx : Port → Option Port) (x : Port) (y : Int) : Bool := match nx x with
  | some z => decide (z.e = y)
  | none => false
def firstOut (nx : Port → Option Port) (a b : Int) : Int := if leadsTo nx ⟨a, 0⟩ b then 0 else if leadsTo nx ⟨a, 1⟩ b then 1 else -1
def rowOk (nx : Port → Option Port) : List Int → Bool
  | [] => true
  | [_] => true
  | a :: b :: r => decide (0 ≤ firstOut nx a b) && chain nx a (firstOut nx a b) (b :: r)
def inLine (p : Plan) (e : Int) : Bool := decide (0 ≤ e) && decide (e < p.elems.length) && decide (p.kind e = 1)
def tracksGo (p : Plan) : List Int → List Int → Bool
  | _, [] => true
  | met, e :: r => inLine p e && !decide (e ∈ met) && tracksGo p (met ++ [e]) r
def lineGo (p : Plan) : List Int → List Line → Bool
  | _, [] => true
  | met, l :: r => decide (l.elems ≠ []) && tracksGo p met l.elems && rowOk (nextOf p) l.elems && lineGo p (met ++ l.elems) r
def linesOk (p : Plan) : Bool := lineGo p [] p.lines

/-! lengths -/
def longOk (p : Plan) : Bool :=
  decide (p.top + stop p.top p.brake ≤ p.margin) && ((p.sigs.all fun s => !(decide (p.kind s.at_.e = 1) && decide (p.length s.at_.e < p.margin))) && (p.elems.all fun e => !(decide (e.kind ≠ 4) && decide (e.len < p.top))))

def tooMuch (p : Plan) : Bool := decide (40 < p.elems.length) || decide (24 < p.sigs.length) || decide (4 < p.lines.length) || decide (80 < p.joins.length)
def chk (p : Plan) : Int :=
  if tooMuch p then 3 else if !argsOk p then 1 else if namesTwice p then 4 else if !joinedOk p then 6 else if !signalsOk p then 7 else if !linesOk p then 8 else if !longOk p then 9 else 0

def findName (l : List Elem) (s : ByteArray) : Int := idxFrom (fun e : Elem => decide (e.name = s)) 0 l

/-- semaphoreref6.Few -/
def few (p : Plan) : Bool :=
  decide (p.elems.length ≤ 60) && decide (p.joins.length ≤ 120) && decide (p.sigs.length ≤ 60) && decide (p.lines.length ≤ 20) &&
  ((p.lines.all fun l => decide (l.elems.length ≤ 60) && decide (l.name.size ≤ 100)) && ((p.elems.all fun e => decide (e.name.size ≤ 100)) && (p.sigs.all fun s => decide (s.name.size ≤ 100))))
def fine (p : Plan) : Bool := few p && decide (chk p = 0)

/-! semaphoreref6's way of saying it -/
def refNameGo : Nat → List UInt8 → Bool
  | _, [] => true
  | i, c :: r => (isLetter c || (decide (i ≠ 0) && isDigit c)) && refNameGo (i + 1) r
def refName (s : ByteArray) : Bool := refNameGo 0 s.data.toList && decide (1 ≤ s.size) && decide (s.size ≤ 8)
def refElemOk (e : Elem) : Bool := !(!refName e.name || decide (ends e.kind = 0) || (decide (e.kind = 4) && decide (e.len ≠ 0)) || (decide (e.kind ≠ 4) && !(decide (1 ≤ e.len) && decide (e.len ≤ 4000))))

end Go.Proofs.Ytlndfmflbdkpjaa
