/- Nets: what the functions of packages net, walk and sight compute of a plan, in plain words. No condition. -/
import Derived.Test.YtlndfmflbdkpjaaPlanPure
namespace Go.Proofs.Ytlndfmflbdkpjaa

structure Way where
  out : Int
  pos : Int
  deriving DecidableEq, Inhabited

def zeroPort : Port := ⟨0, 0⟩
def cross (i : Int) : Int := if i = 0 then 1 else if i = 1 then 0 else if i = 2 then 3 else 2
def outs (p : Plan) (e i : Int) : List Way :=
  if i < 0 ∨ ends (p.kind e) ≤ i then []
  else if p.kind e = 1 then [⟨1 - i, 0⟩]
  else if p.kind e = 3 then [⟨cross i, 0⟩]
  else if p.kind e = 2 then (if i = 0 then [⟨1, 1⟩, ⟨2, 2⟩] else [⟨0, i⟩])
  else []
def wayGo (pos : Int) : List Way → Option Int
  | [] => none
  | w :: r => if w.pos = 0 ∨ w.pos = pos then some w.out else wayGo pos r
def through (p : Plan) (e i pos : Int) : Option Int := wayGo pos (outs p e i)
/-- semaphoreref6.From: the first entry that leads to out -/
def fromGo (p : Plan) (e out pos : Int) : Nat → Int → Option Int
  | 0, _ => none
  | k + 1, i => if through p e i pos = some out then some i else fromGo p e out pos k (i + 1)
def fromRef (p : Plan) (e out pos : Int) : Option Int := fromGo p e out pos (ends (p.kind e)).toNat 0

def sigAt (p : Plan) (s : Int) : Option Port := if 0 ≤ s then (p.sigs[s.toNat]?).map (·.at_) else none

/-- the index of an element in a list -/
def posIn : Nat → List Int → Int → Option Nat
  | _, [], _ => none
  | i, x :: r, e => if x = e then some i else posIn (i + 1) r e
def lineFrom : Nat → List Line → Int → Option (Nat × Nat)
  | _, [], _ => none
  | i, l :: r, e => match posIn 0 l.elems e with
    | some k => some (i, k)
    | none => lineFrom (i + 1) r e
def lineOf (p : Plan) (e : Int) : Option (Nat × Nat) := lineFrom 0 p.lines e

/-- by which end the first element of a line is entered -/
def firstIn (nx : Port → Option Port) : List Int → Int
  | a :: b :: _ => if leadsTo nx ⟨a, 0⟩ b then 1 else 0
  | _ => 0
def endOf (nx : Port → Option Port) (x : Port) : Int := ((nx x).getD zeroPort).n
def leadGo (nx : Port → Option Port) : Int → List Int → List Int
  | _, [] => []
  | i, e :: r => i :: leadGo nx (endOf nx ⟨e, 1 - i⟩) r
def leadList (nx : Port → Option Port) (l : List Int) : List Int := leadGo nx (firstIn nx l) l
/-- the entering end of an element of some line -/
def leadIn (nx : Port → Option Port) : List Line → Int → Option Int
  | [], _ => none
  | l :: r, e => match posIn 0 l.elems e with
    | some k => (leadList nx l.elems)[k]?
    | none => leadIn nx r e
def lead (p : Plan) (e i : Int) : Int := match leadIn (nextOf p) p.lines e with
  | none => 0
  | some x => if i < 0 ∨ 1 < i then 0 else if x = i then 1 else 2

/-! walks -/
def lies (pos : List Int) (e : Int) : Int := if 0 ≤ e then pos.getD e.toNat 0 else 0
def refLies (pos : List Int) (e : Int) : Int := if lies pos e = 1 ∨ lies pos e = 2 then lies pos e else 0
def step (p : Plan) (pos : List Int) (h : Port) : Port × Int := match nextOf p h with
  | none => (zeroPort, 3)
  | some x => if p.kind x.e = 4 then (zeroPort, 2) else match through p x.e x.n (lies pos x.e) with
    | none => (zeroPort, 4)
    | some o => (⟨x.e, o⟩, 0)
def turn (p : Plan) (pos : List Int) (h : Port) : Option Port := (through p h.e h.n (lies pos h.e)).map fun i => ⟨h.e, i⟩
def back (p : Plan) (pos : List Int) (h : Port) : Option Port := (turn p pos h).bind fun x => nextOf p x
def runGo (p : Plan) (pos : List Int) : Nat → Port → List Port × Int
  | 0, h => if (step p pos h).2 ≠ 0 then ([], (step p pos h).2) else ([], 5)
  | k + 1, h => if (step p pos h).2 ≠ 0 then ([], (step p pos h).2) else ((step p pos h).1 :: (runGo p pos k (step p pos h).1).1, (runGo p pos k (step p pos h).1).2)
def runMost (most : Int) : Nat := (max 0 (min most 1000)).toNat
def run (p : Plan) (pos : List Int) (h : Port) (most : Int) : List Port × Int := runGo p pos (runMost most) h
def metres (p : Plan) (l : List Port) : Int := (l.map fun x => p.length x.e).sum

/-! signals along a run -/
def portsNo (p : Plan) : Int := (p.elems.map fun e => ends e.kind).sum
def aheadGo (p : Plan) (pos : List Int) : Nat → Port → Int → Option (Int × Int)
  | k, h, m => if 0 ≤ reads p h then some (reads p h, m) else if (step p pos h).2 ≠ 0 then none else match k with
    | 0 => none
    | k + 1 => aheadGo p pos k (step p pos h).1 (m + p.length (step p pos h).1.e)
def ahead (p : Plan) (pos : List Int) (h : Port) : Option (Int × Int) := aheadGo p pos (portsNo p).toNat h 0
def metSigs (p : Plan) (l : List Port) : List Int := (l.map (reads p)).filter fun s => decide (0 ≤ s)
def routeGo (p : Plan) (pos : List Int) : Nat → Port → List Int
  | k, h => (if 0 ≤ reads p h then [reads p h] else []) ++ (if (step p pos h).2 ≠ 0 then [] else match k with
    | 0 => []
    | k + 1 => routeGo p pos k (step p pos h).1)
def route (p : Plan) (pos : List Int) (h : Port) : List Int := routeGo p pos (portsNo p).toNat h

end Go.Proofs.Ytlndfmflbdkpjaa
