/- The field: what it holds and what is done to it, in plain words, and the laws of that. No condition. -/
import Derived.Test.YtlgekkffekagbaaPure
namespace Go.Proofs.Ytlgekkffekagbaa

structure Pt where
  lie : Int
  to : Int
  left : Int
  stick : Bool
  blind : Bool
  deriving DecidableEq
def zeroPt : Pt := ⟨0, 0, 0, false, false⟩
structure Fld where
  pts : List Pt
  short : List Bool
  dark : List Bool
def Fld.pt (f : Fld) (i : Nat) : Pt := f.pts.getD i zeroPt
def Fld.len (f : Fld) : Prop := f.pts.length = 40 ∧ f.short.length = 40 ∧ f.dark.length = 24
def zeroFld : Fld := ⟨List.replicate 40 zeroPt, List.replicate 40 false, List.replicate 24 false⟩

def newPt (p : Plan) (i : Nat) : Pt := if p.kind i = 2 then ⟨1, 0, 0, false, false⟩ else zeroPt
def newFld (p : Plan) : Fld := ⟨(List.range 40).map (newPt p), List.replicate 40 false, List.replicate 24 false⟩
def tickPt (x : Pt) : Pt := if x.left = 0 ∨ x.stick = true then x else if x.left - 1 = 0 then { x with left := x.left - 1, lie := x.to } else { x with left := x.left - 1 }
def Fld.tick (f : Fld) : Fld := { f with pts := f.pts.map tickPt }
def calls (p : Plan) (i : Nat) (t : Int) : Bool := decide (p.kind i = 2) && (decide (t = 1) || decide (t = 2))
def cmdPt (throw t : Int) (x : Pt) : Pt := if (x.left = 0 ∧ x.lie = t) ∨ (0 < x.left ∧ x.to = t) then x else { x with to := t, left := throw }
def cmdAt (p : Plan) (i : Nat) (t : Int) (x : Pt) : Pt := if calls p i t = true then cmdPt p.throw t x else x
def Fld.cmd1 (p : Plan) (i : Nat) (t : Int) (f : Fld) : Fld := { f with pts := f.pts.set i (cmdAt p i t (f.pt i)) }
def Fld.cmdGo (p : Plan) : Nat → List Int → Fld → Fld
  | _, [], f => f
  | i, t :: r, f => Fld.cmdGo p (i + 1) r (f.cmd1 p i t)
def Fld.command (p : Plan) (l : List Int) (f : Fld) : Fld := f.cmdGo p 0 l
def posPt (x : Pt) : Int := if x.left = 0 then x.lie else 0
def Fld.pos (p : Plan) (f : Fld) : List Int := (List.range p.elems.length).map fun i => posPt (f.pt i)
def toldPt (x : Pt) : Int := if x.blind = true then 0 else posPt x
def Fld.told (p : Plan) (f : Fld) : List Int := (List.range p.elems.length).map fun i => toldPt (f.pt i)
def occAt (p : Plan) (short : Bool) (real : List Bool) (i : Nat) : Bool := decide (p.kind i ≠ 4) && (short || real.getD i false)
def Fld.occ (p : Plan) (f : Fld) (real : List Bool) : List Bool := (List.range p.elems.length).map fun i => occAt p (f.short.getD i false) real i
def lampAt (dark : Bool) (a : Int) : Int := if dark = false ∧ (a = 1 ∨ a = 2) then a else 0
def Fld.lamps (p : Plan) (f : Fld) (l : List Int) : List Int := (List.range p.sigs.length).map fun i => lampAt (f.dark.getD i false) (l.getD i 0)
def Fld.stick (p : Plan) (e : Int) (on : Bool) (f : Fld) : Fld := if p.kind e = 2 then { f with pts := f.pts.set e.toNat { f.pt e.toNat with stick := on } } else f
def Fld.blind (p : Plan) (e : Int) (on : Bool) (f : Fld) : Fld := if p.kind e = 2 then { f with pts := f.pts.set e.toNat { f.pt e.toNat with blind := on } } else f
def Fld.darken (p : Plan) (s : Int) (on : Bool) (f : Fld) : Fld := if 0 ≤ s ∧ s < p.sigs.length then { f with dark := f.dark.set s.toNat on } else f
def Fld.shorten (p : Plan) (e : Int) (f : Fld) : Fld := if p.kind e ≠ 0 ∧ p.kind e ≠ 4 then { f with short := f.short.set e.toNat true } else f
def Fld.left (p : Plan) (e : Int) (f : Fld) : Int := if p.kind e = 2 then (f.pt e.toNat).left else 0

/-- what can be said of every field -/
structure FldOk (p : Plan) (f : Fld) : Prop where
  len : f.len
  left : ∀ x ∈ f.pts, 0 ≤ x.left ∧ x.left ≤ 20
  other : ∀ i : Nat, p.kind i ≠ 2 → (f.pt i).left = 0
  lie : ∀ x ∈ f.pts, 0 ≤ x.lie ∧ x.lie ≤ 2 ∧ 0 ≤ x.to ∧ x.to ≤ 2

theorem kind_lt {p : Plan} {i : Int} (h : p.kind i ≠ 0) : 0 ≤ i ∧ i < p.elems.length := by
  apply Classical.byContradiction
  intro hc
  apply h
  unfold Plan.kind Plan.elem
  split
  · rename_i h0
    rw [List.getD, List.getElem?_eq_none (by omega)]; rfl
  · rfl
theorem pt_set {f : Fld} {i j : Nat} {x : Pt} (h : i < f.pts.length) : ({ f with pts := f.pts.set i x } : Fld).pt j = if j = i then x else f.pt j := by
  unfold Fld.pt List.getD
  simp only [List.getElem?_set]
  by_cases hij : i = j
  · subst hij; simp [h]
  · have : ¬ j = i := fun e => hij e.symm
    simp [hij, this]
theorem pt_mem {f : Fld} {i : Nat} (h : i < f.pts.length) : f.pt i ∈ f.pts := by
  unfold Fld.pt List.getD
  rw [List.getElem?_eq_getElem h]; exact List.getElem_mem h
theorem pt_get {f : Fld} {i : Nat} (h : i < f.pts.length) : f.pts[i]? = some (f.pt i) := by
  unfold Fld.pt List.getD
  rw [List.getElem?_eq_getElem h]; rfl
theorem pt_out {f : Fld} {i : Nat} (h : f.pts.length ≤ i) : f.pt i = zeroPt := by
  unfold Fld.pt List.getD
  rw [List.getElem?_eq_none h]; rfl
theorem FldOk.pt {p : Plan} {f : Fld} (h : FldOk p f) (i : Nat) : 0 ≤ (f.pt i).left ∧ (f.pt i).left ≤ 20 ∧ 0 ≤ (f.pt i).lie ∧ (f.pt i).lie ≤ 2 ∧ 0 ≤ (f.pt i).to ∧ (f.pt i).to ≤ 2 := by
  rcases Nat.lt_or_ge i f.pts.length with hi | hi
  · have := h.left _ (pt_mem hi); have := h.lie _ (pt_mem hi); omega
  · rw [pt_out hi]; simp [zeroPt]
/-- one element of a field that is changed -/
theorem FldOk.set {p : Plan} {f : Fld} (h : FldOk p f) {i : Nat} {x : Pt} (hi : i < 40) (h1 : 0 ≤ x.left ∧ x.left ≤ 20) (h2 : 0 ≤ x.lie ∧ x.lie ≤ 2 ∧ 0 ≤ x.to ∧ x.to ≤ 2) (h3 : p.kind i ≠ 2 → x.left = 0) :
    FldOk p { f with pts := f.pts.set i x } := by
  obtain ⟨l1, l2, l3⟩ := h.len
  refine ⟨⟨by simpa using l1, l2, l3⟩, fun y hy => ?_, fun j hj => ?_, fun y hy => ?_⟩
  · rcases List.mem_or_eq_of_mem_set hy with hy | rfl
    · exact h.left y hy
    · exact h1
  · rw [pt_set (by omega)]
    split
    · rename_i e; subst e; exact h3 hj
    · exact h.other j hj
  · rcases List.mem_or_eq_of_mem_set hy with hy | rfl
    · exact h.lie y hy
    · exact h2
theorem newPt_ok (p : Plan) (i : Nat) : (newPt p i).left = 0 ∧ 0 ≤ (newPt p i).lie ∧ (newPt p i).lie ≤ 2 ∧ (newPt p i).to = 0 ∧ (newPt p i).stick = false ∧ (newPt p i).blind = false := by
  unfold newPt; split <;> simp [zeroPt]
theorem newFld_pt {p : Plan} {i : Nat} (hi : i < 40) : (newFld p).pt i = newPt p i := by
  unfold Fld.pt newFld List.getD
  simp [hi]
theorem newFld_ok (p : Plan) : FldOk p (newFld p) := by
  refine ⟨⟨by simp [newFld], by simp [newFld], by simp [newFld]⟩, fun x hx => ?_, fun i _ => ?_, fun x hx => ?_⟩
  · simp only [newFld, List.mem_map] at hx
    obtain ⟨i, _, rfl⟩ := hx
    have := newPt_ok p i; omega
  · rcases Nat.lt_or_ge i 40 with h | h
    · rw [newFld_pt h]; exact (newPt_ok p i).1
    · rw [pt_out (by simpa [newFld] using h)]; rfl
  · simp only [newFld, List.mem_map] at hx
    obtain ⟨i, _, rfl⟩ := hx
    have := newPt_ok p i; omega
theorem tickPt_left (x : Pt) : (tickPt x).left = if x.left = 0 ∨ x.stick = true then x.left else x.left - 1 := by
  unfold tickPt; split
  · rfl
  · split <;> rfl
theorem tick_pt (f : Fld) (i : Nat) : f.tick.pt i = tickPt (f.pt i) := by
  unfold Fld.tick Fld.pt List.getD
  simp only [List.getElem?_map]
  cases f.pts[i]? with
  | none => simp [tickPt, zeroPt]
  | some x => rfl
theorem tickPt_ok {x : Pt} (h : 0 ≤ x.left ∧ x.left ≤ 20) (h2 : 0 ≤ x.lie ∧ x.lie ≤ 2 ∧ 0 ≤ x.to ∧ x.to ≤ 2) : (0 ≤ (tickPt x).left ∧ (tickPt x).left ≤ 20) ∧ 0 ≤ (tickPt x).lie ∧ (tickPt x).lie ≤ 2 ∧ 0 ≤ (tickPt x).to ∧ (tickPt x).to ≤ 2 := by
  unfold tickPt
  split
  · exact ⟨h, h2⟩
  · rename_i hn
    have : x.left ≠ 0 := fun e => hn (.inl e)
    split
    · exact ⟨⟨by dsimp only; omega, by dsimp only; omega⟩, h2.2.2.1, h2.2.2.2, h2.2.2.1, h2.2.2.2⟩
    · exact ⟨⟨by dsimp only; omega, by dsimp only; omega⟩, h2⟩
theorem FldOk.tick {p : Plan} {f : Fld} (h : FldOk p f) : FldOk p f.tick := by
  obtain ⟨l1, l2, l3⟩ := h.len
  refine ⟨⟨by simpa [Fld.tick] using l1, l2, l3⟩, fun y hy => ?_, fun j hj => ?_, fun y hy => ?_⟩
  · simp only [Fld.tick, List.mem_map] at hy
    obtain ⟨x, hx, rfl⟩ := hy
    exact (tickPt_ok (h.left x hx) (h.lie x hx)).1
  · rw [tick_pt]
    have := h.other j hj
    rw [tickPt_left, if_pos (.inl this)]; exact this
  · simp only [Fld.tick, List.mem_map] at hy
    obtain ⟨x, hx, rfl⟩ := hy
    exact (tickPt_ok (h.left x hx) (h.lie x hx)).2
theorem throw_ok {p : Plan} (h : chk p = 0) : 1 ≤ p.throw ∧ p.throw ≤ 20 := by
  have := (chk_zero h).2.1
  unfold argsOk numsOk at this
  simp at this
  omega
theorem elems_le {p : Plan} (h : chk p = 0) : p.elems.length ≤ 40 ∧ p.sigs.length ≤ 24 ∧ p.elems.length ≠ 0 := by
  have h1 := (chk_zero h).1
  have h2 := (chk_zero h).2.1
  unfold tooMuch at h1
  unfold argsOk numsOk at h2
  simp at h1 h2
  refine ⟨by omega, by omega, ?_⟩
  have := h2.1.2
  intro h0
  exact this (List.eq_nil_of_length_eq_zero h0)
theorem cmdAt_ok {p : Plan} (hc : chk p = 0) {i : Nat} {t : Int} {x : Pt} (h : 0 ≤ x.left ∧ x.left ≤ 20) (h2 : 0 ≤ x.lie ∧ x.lie ≤ 2 ∧ 0 ≤ x.to ∧ x.to ≤ 2) :
    (0 ≤ (cmdAt p i t x).left ∧ (cmdAt p i t x).left ≤ 20) ∧ 0 ≤ (cmdAt p i t x).lie ∧ (cmdAt p i t x).lie ≤ 2 ∧ 0 ≤ (cmdAt p i t x).to ∧ (cmdAt p i t x).to ≤ 2 := by
  have ht := throw_ok hc
  unfold cmdAt calls
  split
  · rename_i hd
    simp at hd
    unfold cmdPt
    split
    · exact ⟨h, h2⟩
    · exact ⟨⟨by dsimp only; omega, by dsimp only; omega⟩, h2.1, h2.2.1, by dsimp only; omega, by dsimp only; omega⟩
  · exact ⟨h, h2⟩
theorem cmdAt_other {p : Plan} {i : Nat} {t : Int} {x : Pt} (hk : p.kind i ≠ 2) : cmdAt p i t x = x := by
  unfold cmdAt calls; simp [hk]
theorem set_out {α : Type} {l : List α} {i : Nat} {x : α} (h : l.length ≤ i) : l.set i x = l := List.set_eq_of_length_le h
theorem FldOk.cmd1 {p : Plan} (hc : chk p = 0) {f : Fld} (h : FldOk p f) (i : Nat) (t : Int) : FldOk p (f.cmd1 p i t) := by
  unfold Fld.cmd1
  rcases Nat.lt_or_ge i 40 with hi | hi
  · have q := h.pt i
    have := cmdAt_ok hc (i := i) (t := t) (x := f.pt i) ⟨q.1, q.2.1⟩ q.2.2
    exact h.set hi this.1 this.2 fun hk => by rw [cmdAt_other hk]; exact h.other i hk
  · rw [set_out (by rw [h.len.1]; exact hi)]; exact h
theorem FldOk.cmdGo {p : Plan} (hc : chk p = 0) : ∀ (l : List Int) (i : Nat) {f : Fld}, FldOk p f → FldOk p (f.cmdGo p i l)
  | [], _, _, h => h
  | _ :: r, i, _, h => FldOk.cmdGo hc r (i + 1) (h.cmd1 hc i _)
theorem FldOk.command {p : Plan} (hc : chk p = 0) {f : Fld} (h : FldOk p f) (l : List Int) : FldOk p (f.command p l) := FldOk.cmdGo hc l 0 h
theorem FldOk.stick {p : Plan} (hc : chk p = 0) {f : Fld} (h : FldOk p f) (e : Int) (on : Bool) : FldOk p (f.stick p e on) := by
  unfold Fld.stick; split
  · rename_i hk
    have q := h.pt e.toNat
    have := kind_lt (p := p) (i := e) (by omega)
    have := elems_le hc
    exact h.set (by omega) ⟨q.1, q.2.1⟩ q.2.2 (fun h2 => absurd (by rw [show ((e.toNat : Nat) : Int) = e by omega]; exact hk) h2)
  · exact h
theorem FldOk.blind {p : Plan} (hc : chk p = 0) {f : Fld} (h : FldOk p f) (e : Int) (on : Bool) : FldOk p (f.blind p e on) := by
  unfold Fld.blind; split
  · rename_i hk
    have q := h.pt e.toNat
    have := kind_lt (p := p) (i := e) (by omega)
    have := elems_le hc
    exact h.set (by omega) ⟨q.1, q.2.1⟩ q.2.2 (fun h2 => absurd (by rw [show ((e.toNat : Nat) : Int) = e by omega]; exact hk) h2)
  · exact h
theorem FldOk.darken {p : Plan} {f : Fld} (h : FldOk p f) (e : Int) (on : Bool) : FldOk p (f.darken p e on) := by
  unfold Fld.darken; split
  · exact ⟨⟨h.len.1, h.len.2.1, by simpa using h.len.2.2⟩, h.left, h.other, h.lie⟩
  · exact h
theorem FldOk.shorten {p : Plan} {f : Fld} (h : FldOk p f) (e : Int) : FldOk p (f.shorten p e) := by
  unfold Fld.shorten; split
  · exact ⟨⟨h.len.1, by simpa using h.len.2.1, h.len.2.2⟩, h.left, h.other, h.lie⟩
  · exact h

/-! the reference's field -/
structure RPt where
  lie : Int
  goal : Int
  left : Int
  stick : Bool
  blind : Bool
  short : Bool
  deriving DecidableEq
def zeroR : RPt := ⟨0, 0, 0, false, false, false⟩
structure RFld where
  pts : List RPt
  dark : List Bool
def RFld.pt (r : RFld) (i : Nat) : RPt := r.pts.getD i zeroR
def newR (p : Plan) (i : Nat) : RPt := ⟨if p.kind i = 2 then 1 else 0, if p.kind i = 2 then 1 else 0, 0, false, false, false⟩
def newRFld (p : Plan) : RFld := ⟨(List.range p.elems.length).map (newR p), List.replicate p.sigs.length false⟩
def tickR (x : RPt) : RPt := if x.left = 0 ∨ x.stick = true then x else if x.left - 1 = 0 then { x with left := x.left - 1, lie := x.goal } else { x with left := x.left - 1 }
def RFld.tick (r : RFld) : RFld := { r with pts := r.pts.map tickR }
def cmdR (p : Plan) (i : Nat) (t : Int) (x : RPt) : RPt := if calls p i t = true ∧ x.goal ≠ t then { x with lie := 0, goal := t, left := p.throw } else x
def RFld.cmd1 (p : Plan) (i : Nat) (t : Int) (r : RFld) : RFld := { r with pts := r.pts.set i (cmdR p i t (r.pt i)) }
def RFld.cmdGo (p : Plan) : Nat → List Int → RFld → RFld
  | _, [], f => f
  | i, t :: r, f => RFld.cmdGo p (i + 1) r (f.cmd1 p i t)
def RFld.command (p : Plan) (l : List Int) (r : RFld) : RFld := r.cmdGo p 0 l
def toldR (x : RPt) : Int := if x.blind = true then 0 else x.lie
def RFld.told (r : RFld) : List Int := r.pts.map toldR
def RFld.occ (p : Plan) (r : RFld) (real : List Bool) : List Bool := (List.range r.pts.length).map fun i => occAt p (r.pt i).short real i
def RFld.lamps (r : RFld) (l : List Int) : List Int := (List.range r.dark.length).map fun i => lampAt (r.dark.getD i false) (l.getD i 0)
def RFld.stick (p : Plan) (e : Int) (on : Bool) (r : RFld) : RFld := if p.kind e = 2 then { r with pts := r.pts.set e.toNat { r.pt e.toNat with stick := on } } else r
def RFld.blind (p : Plan) (e : Int) (on : Bool) (r : RFld) : RFld := if p.kind e = 2 then { r with pts := r.pts.set e.toNat { r.pt e.toNat with blind := on } } else r
def RFld.darken (s : Int) (on : Bool) (r : RFld) : RFld := if 0 ≤ s ∧ s < r.dark.length then { r with dark := r.dark.set s.toNat on } else r
def RFld.shorten (p : Plan) (e : Int) (r : RFld) : RFld := if p.kind e ≠ 0 ∧ p.kind e ≠ 4 then { r with pts := r.pts.set e.toNat { r.pt e.toNat with short := true } } else r

/-- the reference's field that goes with a field -/
def refPt (x : Pt) (s : Bool) : RPt := ⟨posPt x, if x.left = 0 then x.lie else x.to, x.left, x.stick, x.blind, s⟩
def refOf (p : Plan) (f : Fld) : RFld := ⟨(List.range p.elems.length).map fun i => refPt (f.pt i) (f.short.getD i false), f.dark.take p.sigs.length⟩

theorem refOf_pt {p : Plan} {f : Fld} {i : Nat} (h : i < p.elems.length) : (refOf p f).pt i = refPt (f.pt i) (f.short.getD i false) := by
  unfold refOf RFld.pt List.getD
  simp [h]
theorem refOf_len (p : Plan) (f : Fld) : (refOf p f).pts.length = p.elems.length := by simp [refOf]
theorem refOf_ext {p : Plan} {f : Fld} {r : RFld} (hl : r.pts.length = p.elems.length) (hp : ∀ i, i < p.elems.length → r.pt i = refPt (f.pt i) (f.short.getD i false)) (hd : r.dark = f.dark.take p.sigs.length) : r = refOf p f := by
  obtain ⟨rp, rd⟩ := r
  unfold refOf
  simp only at hd hl
  subst hd
  congr 1
  apply List.ext_getElem?
  intro i
  rcases Nat.lt_or_ge i p.elems.length with h | h
  · have := hp i h
    unfold RFld.pt List.getD at this
    simp only at this
    rw [List.getElem?_eq_getElem (by omega)] at this ⊢
    simp [h] at this ⊢
    exact this
  · rw [List.getElem?_eq_none (by omega), List.getElem?_eq_none (by simpa using h)]
theorem rep_get (n i : Nat) : (List.replicate n false).getD i false = false := by
  unfold List.getD
  cases h : (List.replicate n false)[i]? with
  | none => rfl
  | some x =>
    have := List.mem_of_getElem? h
    simp at this
    exact this.2
theorem ref_new {p : Plan} (hc : chk p = 0) : newRFld p = refOf p (newFld p) := by
  have h := elems_le hc
  refine refOf_ext (by simp [newRFld]) (fun i hi => ?_) ?_
  · rw [newFld_pt (by omega)]
    have e1 : (newRFld p).pt i = newR p i := by
      unfold newRFld RFld.pt List.getD
      simp [hi]
    have e2 : (newFld p).short.getD i false = false := rep_get 40 i
    rw [e1, e2]
    unfold newR newPt refPt posPt
    split <;> simp [zeroPt]
  · simp only [newRFld, newFld, List.take_replicate]
    congr 1; omega
theorem tick_refPt {x : Pt} (h : 0 ≤ x.left) (s : Bool) : tickR (refPt x s) = refPt (tickPt x) s := by
  obtain ⟨lie, to, left, stick, blind⟩ := x
  simp only at h
  unfold tickR tickPt
  by_cases h0 : left = 0
  · subst h0; simp [refPt]
  · cases stick
    · by_cases h1 : left - 1 = 0
      · simp [refPt, posPt, h0, h1]
      · simp [refPt, posPt, h0, h1]
    · simp [refPt]
theorem ref_tick {p : Plan} {f : Fld} (h : FldOk p f) : (refOf p f).tick = refOf p f.tick := by
  refine refOf_ext (by simp [RFld.tick, refOf]) (fun i hi => ?_) rfl
  rw [tick_pt]
  have : (refOf p f).tick.pt i = tickR ((refOf p f).pt i) := by
    unfold RFld.tick RFld.pt List.getD
    simp only [List.getElem?_map]
    cases (refOf p f).pts[i]? with
    | none => simp [tickR, zeroR]
    | some x => rfl
  rw [this, refOf_pt hi, tick_refPt (h.pt i).1]
  rfl
theorem rpt_set {r : RFld} {i j : Nat} {x : RPt} (h : i < r.pts.length) : ({ r with pts := r.pts.set i x } : RFld).pt j = if j = i then x else r.pt j := by
  unfold RFld.pt List.getD
  simp only [List.getElem?_set]
  by_cases hij : i = j
  · subst hij; simp [h]
  · have : ¬ j = i := fun e => hij e.symm
    simp [hij, this]
theorem cmd_refPt {p : Plan} {i : Nat} {t : Int} {x : Pt} (h : 0 ≤ x.left) (ht : 1 ≤ p.throw) (s : Bool) : cmdR p i t (refPt x s) = refPt (cmdAt p i t x) s := by
  unfold cmdR cmdAt
  cases calls p i t
  · simp
  · simp only [true_and, if_true]
    obtain ⟨lie, to, left, stick, blind⟩ := x
    simp only at h
    unfold cmdPt
    have hth : ¬ p.throw = 0 := by omega
    by_cases h0 : left = 0
    · subst h0
      by_cases h1 : lie = t
      · simp [refPt, h1]
      · simp [refPt, posPt, h1, hth]
    · have h3 : 0 < left := by omega
      by_cases h1 : to = t
      · simp [refPt, h0, h1, h3]
      · simp [refPt, posPt, h0, h1, hth, h3]
/-- a change at one element -/
theorem ref_set {p : Plan} {f : Fld} {i : Nat} {x : Pt} {y : RPt} (h : FldOk p f) (hi : i < p.elems.length) (h40 : p.elems.length ≤ 40) (hy : y = refPt x (f.short.getD i false)) :
    ({ refOf p f with pts := (refOf p f).pts.set i y } : RFld) = refOf p { f with pts := f.pts.set i x } := by
  subst hy
  refine refOf_ext (by simp [refOf]) (fun j hj => ?_) rfl
  rw [rpt_set (by rw [refOf_len]; exact hi), pt_set (by rw [h.len.1]; omega)]
  by_cases hji : j = i
  · subst hji; simp
  · simp only [hji, if_false]; exact refOf_pt hj
theorem ref_cmd1 {p : Plan} (hc : chk p = 0) {f : Fld} (h : FldOk p f) (i : Nat) (t : Int) : (refOf p f).cmd1 p i t = refOf p (f.cmd1 p i t) := by
  have he := elems_le hc
  have ht := throw_ok hc
  unfold RFld.cmd1 Fld.cmd1
  rcases Nat.lt_or_ge i p.elems.length with hi | hi
  · refine ref_set h hi (by omega) ?_
    rw [refOf_pt hi, cmd_refPt (h.pt i).1 ht.1]
  · have hk : p.kind i ≠ 2 := fun hk => by have := kind_lt (p := p) (i := i) (by omega); omega
    have e1 : f.pts.set i (f.pt i) = f.pts := by
      rcases Nat.lt_or_ge i f.pts.length with h1 | h1
      · apply List.ext_getElem?
        intro j
        rw [List.getElem?_set]
        split
        · rename_i e; subst e; exact (pt_get h1).symm
        · rfl
      · exact set_out h1
    rw [set_out (by rw [refOf_len]; exact hi), cmdAt_other hk, e1]
theorem ref_cmdGo {p : Plan} (hc : chk p = 0) : ∀ (l : List Int) (i : Nat) {f : Fld}, FldOk p f → (refOf p f).cmdGo p i l = refOf p (f.cmdGo p i l)
  | [], _, _, _ => rfl
  | t :: r, i, f, h => by
    unfold RFld.cmdGo Fld.cmdGo
    rw [ref_cmd1 hc h]
    exact ref_cmdGo hc r (i + 1) (h.cmd1 hc i t)
theorem ref_command {p : Plan} (hc : chk p = 0) {f : Fld} (h : FldOk p f) (l : List Int) : (refOf p f).command p l = refOf p (f.command p l) := ref_cmdGo hc l 0 h
theorem toNat_cast {e : Int} (h : 0 ≤ e) : ((e.toNat : Nat) : Int) = e := by omega
theorem ref_stick {p : Plan} (hc : chk p = 0) {f : Fld} (h : FldOk p f) (e : Int) (on : Bool) : (refOf p f).stick p e on = refOf p (f.stick p e on) := by
  unfold RFld.stick Fld.stick
  split
  · rename_i hk
    have := kind_lt (p := p) (i := e) (by omega)
    exact ref_set h (by omega) (elems_le hc).1 (by rw [refOf_pt (by omega)]; rfl)
  · rfl
theorem ref_blind {p : Plan} (hc : chk p = 0) {f : Fld} (h : FldOk p f) (e : Int) (on : Bool) : (refOf p f).blind p e on = refOf p (f.blind p e on) := by
  unfold RFld.blind Fld.blind
  split
  · rename_i hk
    have := kind_lt (p := p) (i := e) (by omega)
    exact ref_set h (by omega) (elems_le hc).1 (by rw [refOf_pt (by omega)]; rfl)
  · rfl
theorem refOf_dark {p : Plan} (hc : chk p = 0) {f : Fld} (h : FldOk p f) : (refOf p f).dark.length = p.sigs.length := by
  have := (elems_le hc).2.1
  have := h.len.2.2
  simp only [refOf, List.length_take]; omega
theorem ref_darken {p : Plan} (hc : chk p = 0) {f : Fld} (h : FldOk p f) (s : Int) (on : Bool) : (refOf p f).darken s on = refOf p (f.darken p s on) := by
  unfold RFld.darken Fld.darken
  rw [refOf_dark hc h]
  split
  · rename_i hs
    refine refOf_ext (refOf_len _ _) (fun i hi => refOf_pt hi) ?_
    simp only [refOf]
    rw [← List.take_set]
  · rfl
theorem ref_shorten {p : Plan} (hc : chk p = 0) {f : Fld} (h : FldOk p f) (e : Int) : (refOf p f).shorten p e = refOf p (f.shorten p e) := by
  unfold RFld.shorten Fld.shorten
  split
  · rename_i hk
    have := kind_lt (p := p) (i := e) hk.1
    have h40 := (elems_le hc).1
    refine refOf_ext (by simp [refOf]) (fun j hj => ?_) rfl
    rw [rpt_set (by rw [refOf_len]; omega)]
    by_cases hji : j = e.toNat
    · subst hji
      rw [if_pos rfl, refOf_pt hj]
      have := h.len.2.1
      simp [refPt, List.getD, Fld.pt, show e.toNat < f.short.length from by omega]
      rfl
    · rw [if_neg hji, refOf_pt hj]
      have : ¬ e.toNat = j := fun e => hji e.symm
      simp [List.getD, Fld.pt, this]
  · rfl
theorem ref_pos (p : Plan) (f : Fld) : (refOf p f).pts.map (·.lie) = f.pos p := by simp [refOf, Fld.pos, refPt]
theorem ref_told (p : Plan) (f : Fld) : (refOf p f).told = f.told p := by
  simp only [refOf, RFld.told, Fld.told, List.map_map]
  apply List.map_congr_left
  intro i _
  simp [toldR, toldPt, refPt]
theorem ref_occ (p : Plan) (f : Fld) (real : List Bool) : (refOf p f).occ p real = f.occ p real := by
  unfold RFld.occ Fld.occ
  rw [refOf_len]
  apply List.map_congr_left
  intro i hi
  rw [refOf_pt (List.mem_range.1 hi)]; rfl
theorem ref_lamps {p : Plan} (hc : chk p = 0) {f : Fld} (h : FldOk p f) (l : List Int) : (refOf p f).lamps l = f.lamps p l := by
  unfold RFld.lamps Fld.lamps
  rw [refOf_dark hc h]
  apply List.map_congr_left
  intro i hi
  have := List.mem_range.1 hi
  simp [refOf, List.getD, this]
theorem ref_left {p : Plan} {f : Fld} (h : FldOk p f) {k : Int} (h0 : 0 ≤ k) (h1 : k < p.elems.length) : ((refOf p f).pt k.toNat).left = f.left p k := by
  rw [refOf_pt (by omega)]
  unfold Fld.left
  split
  · rfl
  · rename_i hk
    exact h.other k.toNat (by rw [toNat_cast h0]; exact hk)
theorem left_out {p : Plan} {f : Fld} {k : Int} (h : k < 0 ∨ (p.elems.length : Int) ≤ k) : f.left p k = 0 := by
  unfold Fld.left
  split
  · rename_i hk; have := kind_lt (p := p) (i := k) (by omega); omega
  · rfl
end Go.Proofs.Ytlgekkffekagbaa
