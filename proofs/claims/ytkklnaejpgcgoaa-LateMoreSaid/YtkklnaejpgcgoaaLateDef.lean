/- Plain functions that the functions of package late and of semaphoreref35 compute. No condition. -/
import Derived.Test.YtkklnaejpgcgoaaBase
namespace Go.Proofs.Ytkklnaejpgcgoaa

structure Wt where
  frm : Int
  to : Int
  gap : Int
  deriving DecidableEq, Inhabited

def offB (n m : Int) : Bool := decide (n < 0) || decide (m < n)

/-- late.check -/
def lateCheck (start : List Int) (l : List Wt) : Int :=
  if 200 < start.length ∨ 1000 < l.length then 3
  else if start.any (fun t => offB t 100000) || l.any (fun w => offB w.gap 100000) then 1
  else if l.any (fun w => offB w.frm (start.length - 1) || offB w.to (start.length - 1)) then 10
  else 0

/-- late.order: what one event does to (done, out, news) -/
def ordBlocked (l : List Wt) (ds : List Bool) (e : Nat) : Bool := l.any (fun w => decide (w.to = e) && !(ds.getD w.frm.toNat false))
def ordStep (l : List Wt) (e : Nat) (s : List Bool × List Int × Bool) : List Bool × List Int × Bool :=
  if (s.1.getD e false || ordBlocked l s.1 e) = true then s else (s.1.set e true, s.2.1 ++ [(e : Int)], true)
def ordPass (l : List Wt) (es : List Nat) (s : List Bool × List Int × Bool) : List Bool × List Int × Bool := es.foldl (fun s e => ordStep l e s) s
theorem ordPass_cons (l : List Wt) (e : Nat) (r : List Nat) (s : List Bool × List Int × Bool) : ordPass l (e :: r) s = ordPass l r (ordStep l e s) := rfl
def ordRun (n : Nat) (l : List Wt) : Nat → List Bool × List Int → List Int
  | 0, s => s.2
  | f + 1, s =>
    let r := ordPass l (List.range n) (s.1, s.2, false)
    if r.2.2 then ordRun n l f (r.1, r.2.1) else r.2.1
theorem ordRun_succ (n : Nat) (l : List Wt) (f : Nat) (ds : List Bool) (outs : List Int) : ordRun n l (f + 1) (ds, outs) =
    (if (ordPass l (List.range n) (ds, outs, false)).2.2 then ordRun n l f ((ordPass l (List.range n) (ds, outs, false)).1, (ordPass l (List.range n) (ds, outs, false)).2.1) else (ordPass l (List.range n) (ds, outs, false)).2.1) := rfl
def lateOrder (n : Nat) (l : List Wt) : List Int := ordRun n l (n + 1) (List.replicate n false, [])

/-- late.times -/
def timeStep (e : Int) (out : List Int) (w : Wt) : List Int := if w.to = e then out.set e.toNat (max (at0 out e) (at0 out w.frm + w.gap)) else out
def timesRun (l : List Wt) (o : List Int) (out : List Int) : List Int := o.foldl (fun out e => l.foldl (timeStep e) out) out

/-- out[i] -= t[i], for each i of a list -/
def subStep (t : List Int) (out : List Int) (i : Nat) : List Int := out.set i (at0 out i - at0 t i)
def subRun (t : List Int) (out : List Int) : List Int := (List.range out.length).foldl (subStep t) out

/-- late.Slack's last times -/
def slackStep (e : Int) (last : List Int) (x : Wt) : List Int := if x.frm = e then last.set x.frm.toNat (min (at0 last x.frm) (at0 last x.to - x.gap)) else last
def slackRun (l : List Wt) (o : List Int) (last : List Int) : List Int := o.reverse.foldl (fun last e => l.foldl (slackStep e) last) last

/-- semaphoreref35.order -/
def incStep (left : List Int) (x : Wt) : List Int := left.set x.to.toNat (at0 left x.to + 1)
def refLeft (n : Nat) (l : List Wt) : List Int := l.foldl incStep (List.replicate n 0)
def zeroStep (left : List Int) (out : List Int) (i : Nat) : List Int := if at0 left i = 0 then out ++ [(i : Int)] else out
def refStart (n : Nat) (left : List Int) : List Int := (List.range n).foldl (zeroStep left) []
def refStep (e : Int) (s : List Int × List Int) (x : Wt) : List Int × List Int :=
  if x.frm = e then (s.1.set x.to.toNat (at0 s.1 x.to - 1), if at0 s.1 x.to - 1 = 0 then s.2 ++ [x.to] else s.2) else s
def refRun (l : List Wt) : Nat → Nat → List Int → List Int → Option (List Int)
  | 0, _, _, _ => none
  | f + 1, k, left, out => match out[k]? with
    | none => some out
    | some e => refRun l f (k + 1) (l.foldl (refStep e) (left, out)).1 (l.foldl (refStep e) (left, out)).2
def refOrder (n : Nat) (l : List Wt) : Option (List Int) := refRun l (n + 1) 0 (refLeft n l) (refStart n (refLeft n l))

theorem refStep_len (e : Int) (s : List Int × List Int) (x : Wt) : s.2.length ≤ (refStep e s x).2.length := by
  unfold refStep; split
  · dsimp only; split <;> simp
  · exact Nat.le_refl _
theorem refFold_len (e : Int) : ∀ (l : List Wt) (s : List Int × List Int), s.2.length ≤ (l.foldl (refStep e) s).2.length
  | [], _ => Nat.le_refl _
  | x :: r, s => Nat.le_trans (refStep_len e s x) (refFold_len e r _)
theorem refRun_len {l : List Wt} {R : List Int} : ∀ {f k : Nat} {left out : List Int}, refRun l f k left out = some R → out.length ≤ R.length
  | 0, _, _, _, h => by simp [refRun] at h
  | f + 1, k, left, out, h => by
    unfold refRun at h
    split at h
    · cases h; exact Nat.le_refl _
    · exact Nat.le_trans (refFold_len _ l (left, out)) (refRun_len h)

/-- late.Why, semaphoreref35.Why -/
def WhyHit (t : List Int) (ev : Int) (x : Wt) : Prop := x.to = ev ∧ at0 t x.frm + x.gap = at0 t ev
instance (t : List Int) (ev : Int) (x : Wt) : Decidable (WhyHit t ev x) := by unfold WhyHit; exact inferInstance
def aheadStep (t : List Int) (ev : Int) (a : Int) (x : Wt) : Int := if WhyHit t ev x then (if a < 0 then x.frm else if x.frm < a then x.frm else a) else a
def ahead (t : List Int) (l : List Wt) (ev : Int) : Int := l.foldl (aheadStep t ev) (-1)
def whyRun (t start : List Int) (l : List Wt) : Nat → Int → List Int → Option (List Int)
  | 0, _, _ => none
  | f + 1, ev, out => if at0 t ev = at0 start ev then some out else if ahead t l ev < 0 then some out else whyRun t start l f (ahead t l ev) (out ++ [ahead t l ev])
def minStep (t : List Int) (ev : Int) (a : Int) (x : Wt) : Int := if WhyHit t ev x then min a x.frm else a
def minAhead (n : Nat) (t : List Int) (l : List Wt) (ev : Int) : Int := l.foldl (minStep t ev) n
def refWhyRun (n : Nat) (t start : List Int) (l : List Wt) : Nat → Int → List Int → Option (List Int)
  | 0, _, _ => none
  | f + 1, ev, out => if at0 t ev = at0 start ev then some out else if (n : Int) ≤ minAhead n t l ev then none else refWhyRun n t start l f (minAhead n t l ev) (minAhead n t l ev :: out)

theorem whyRun_len {t start : List Int} {l : List Wt} {W : List Int} : ∀ {f : Nat} {ev : Int} {out : List Int}, whyRun t start l f ev out = some W → out.length ≤ W.length
  | 0, _, _, h => by simp [whyRun] at h
  | f + 1, ev, out, h => by
    unfold whyRun at h
    split at h
    · cases h; exact Nat.le_refl _
    · split at h
      · cases h; exact Nat.le_refl _
      · have := whyRun_len h; simp at this; omega
theorem refWhyRun_len {n : Nat} {t start : List Int} {l : List Wt} {W : List Int} : ∀ {f : Nat} {ev : Int} {out : List Int}, refWhyRun n t start l f ev out = some W → out.length ≤ W.length
  | 0, _, _, h => by simp [refWhyRun] at h
  | f + 1, ev, out, h => by
    unfold refWhyRun at h
    split at h
    · cases h; exact Nat.le_refl _
    · split at h
      · cases h
      · have := refWhyRun_len h; simp at this; omega

end Go.Proofs.Ytkklnaejpgcgoaa
