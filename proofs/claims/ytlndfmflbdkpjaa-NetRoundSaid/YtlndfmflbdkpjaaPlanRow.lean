/- Plans in memory: how a plan's value reads. No condition. -/
import Derived.Test.YtlndfmflbdkpjaaPlanDef
import Derived.Test.YtlndfmflbdkpjaaMap
import Derived.Test.YtlndfmflbdkpjaaOpen
namespace Go.Proofs.Ytlndfmflbdkpjaa
open Go.RowKit
open Go.Maps (Keyed)

def inI (x : Int) : Prop := -9223372036854775808 ≤ x ∧ x ≤ 9223372036854775807
theorem inI_mk {x : Int} (h : -9223372036854775808 ≤ x) (h' : x ≤ 9223372036854775807) : inI x := ⟨h, h'⟩
def Port.val (x : Port) : Value := .agg #[.int .i64 x.e, .int .i64 x.n]
def Port.wf (x : Port) : Prop := inI x.e ∧ inI x.n
def encPort (x : Port) : List Value := [.int .i64 x.e, .int .i64 x.n]
def encElem (x : Elem) : List Value := [.string x.name, .int .i64 x.kind, .int .i64 x.len]
def Elem.val (x : Elem) : Value := .agg #[.string x.name, .int .i64 x.kind, .int .i64 x.len]
def encJoin (x : Join) : List Value := [.int .i64 x.a.e, .int .i64 x.a.n, .int .i64 x.b.e, .int .i64 x.b.n]
def encSig (x : Sig) : List Value := [.string x.name, .int .i64 x.at_.e, .int .i64 x.at_.n, .bool x.auto]

/-- a line with the slice that holds its elements -/
structure LineV where
  name : ByteArray
  a : Option Addr
  n : Nat
  c : Nat
  elems : List Int
def LineV.line (x : LineV) : Line := ⟨x.name, x.elems⟩
def encLine (x : LineV) : List Value := [.string x.name, .slice x.a x.n x.c]

abbrev Elems (w : World) (a : Option Addr) (n : Nat) (xs : List Elem) : Prop := Row 3 encElem w a n xs
abbrev Joins (w : World) (a : Option Addr) (n : Nat) (xs : List Join) : Prop := Row 4 encJoin w a n xs
abbrev Sigs (w : World) (a : Option Addr) (n : Nat) (xs : List Sig) : Prop := Row 4 encSig w a n xs
structure Lines (w : World) (a : Option Addr) (n : Nat) (xs : List LineV) : Prop where
  row : Row 2 encLine w a n xs
  ints : ∀ x ∈ xs, Ints w x.a x.n x.elems
theorem Lines.below {w w' : World} {a : Option Addr} {n : Nat} {xs : List LineV} (h : Lines w a n xs) (hb : Below w.heap.size w w') : Lines w' a n xs :=
  ⟨h.row.below hb, fun x hx => (h.ints x hx).below hb⟩

/-- the slices of a plan's value -/
structure PV where
  ae : Option Addr
  ne : Nat
  ce : Nat
  aj : Option Addr
  nj : Nat
  cj : Nat
  as_ : Option Addr
  ns : Nat
  cs : Nat
  al : Option Addr
  nl : Nat
  cl : Nat
  lv : List LineV
def PV.cells (v : PV) (p : Plan) : Array Value := #[.slice v.ae v.ne v.ce, .slice v.aj v.nj v.cj, .slice v.as_ v.ns v.cs, .slice v.al v.nl v.cl, .int .i64 p.top, .int .i64 p.brake, .int .i64 p.margin, .int .i64 p.throw, .bool p.hard]
def PV.val (v : PV) (p : Plan) : Value := .agg #[.slice v.ae v.ne v.ce, .slice v.aj v.nj v.cj, .slice v.as_ v.ns v.cs, .slice v.al v.nl v.cl, .int .i64 p.top, .int .i64 p.brake, .int .i64 p.margin, .int .i64 p.throw, .bool p.hard]

/-- All numbers of a plan are ints, all its slices have a capacity only if they lie somewhere. -/
structure PlanFit (v : PV) (p : Plan) : Prop where
  ec : v.ae = none → v.ce = 0
  jc : v.aj = none → v.cj = 0
  sc : v.as_ = none → v.cs = 0
  lc : v.al = none → v.cl = 0
  ll : ∀ x ∈ v.lv, x.a = none → x.c = 0
  e : ∀ x ∈ p.elems, inI x.kind ∧ inI x.len ∧ x.name.size ≤ 9223372036854775807
  j : ∀ x ∈ p.joins, x.a.wf ∧ x.b.wf
  s : ∀ x ∈ p.sigs, x.at_.wf ∧ x.name.size ≤ 9223372036854775807
  l : ∀ x ∈ p.lines, (∀ y ∈ x.elems, inI y) ∧ x.name.size ≤ 9223372036854775807
  top : inI p.top
  brake : inI p.brake
  margin : inI p.margin
  throw : inI p.throw

/-- In w the value v.val p reads as the plan p. -/
structure PlanAt (w : World) (v : PV) (p : Plan) : Prop where
  e : Elems w v.ae v.ne p.elems
  j : Joins w v.aj v.nj p.joins
  s : Sigs w v.as_ v.ns p.sigs
  l : Lines w v.al v.nl v.lv
  lp : p.lines = v.lv.map LineV.line
  fit : PlanFit v p
theorem PlanAt.below {w w' : World} {v : PV} {p : Plan} (h : PlanAt w v p) (hb : Below w.heap.size w w') : PlanAt w' v p :=
  ⟨h.e.below hb, h.j.below hb, h.s.below hb, h.l.below hb, h.lp, h.fit⟩

/-- Block b of w holds a plan. -/
structure PBox (w : World) (b : Nat) (v : PV) (p : Plan) : Prop where
  lt : b < w.heap.size
  c0 : w.cell? ⟨b, 0, none⟩ = some (.slice v.ae v.ne v.ce)
  c1 : w.cell? ⟨b, 1, none⟩ = some (.slice v.aj v.nj v.cj)
  c2 : w.cell? ⟨b, 2, none⟩ = some (.slice v.as_ v.ns v.cs)
  c3 : w.cell? ⟨b, 3, none⟩ = some (.slice v.al v.nl v.cl)
  c4 : w.cell? ⟨b, 4, none⟩ = some (.int .i64 p.top)
  c5 : w.cell? ⟨b, 5, none⟩ = some (.int .i64 p.brake)
  c6 : w.cell? ⟨b, 6, none⟩ = some (.int .i64 p.margin)
  c7 : w.cell? ⟨b, 7, none⟩ = some (.int .i64 p.throw)
  c8 : w.cell? ⟨b, 8, none⟩ = some (.bool p.hard)
theorem PBox.below {w w' : World} {b : Nat} {v : PV} {p : Plan} (h : PBox w b v p) (hb : Below w.heap.size w w') : PBox w' b v p := by
  have key : ∀ o, w'.cell? ⟨b, o, none⟩ = w.cell? ⟨b, o, none⟩ := fun o => hb.cell (p := ⟨b, o, none⟩) h.lt
  exact ⟨Nat.lt_of_lt_of_le h.lt hb.size, (key _).trans h.c0, (key _).trans h.c1, (key _).trans h.c2, (key _).trans h.c3, (key _).trans h.c4, (key _).trans h.c5, (key _).trans h.c6, (key _).trans h.c7, (key _).trans h.c8⟩
theorem PBox.mk' (w : World) (v : PV) (p : Plan) (T : TypeId) : PBox (w.alloc (.cells (v.cells p) T)) w.heap.size v p := by
  unfold PV.cells
  refine ⟨by simp, ?_, ?_, ?_, ?_, ?_, ?_, ?_, ?_, ?_⟩ <;> go_simp

/-- the elements of rows -/
theorem Row.elem {w : World} {a : Option Addr} {n : Nat} {xs : List Elem} (h : Row 3 encElem w a n xs) {i : Nat} {x : Elem} (hx : xs[i]? = some x) :
    ∃ b off, a = some ⟨b, off, none⟩ ∧ b < w.heap.size ∧ w.cell? ⟨b, off + i * 3, none⟩ = some (.string x.name) ∧ w.cell? ⟨b, off + i * 3 + 1, none⟩ = some (.int .i64 x.kind) ∧ w.cell? ⟨b, off + i * 3 + 2, none⟩ = some (.int .i64 x.len) := by
  obtain ⟨b, off, ha, hb, hc⟩ := h.at_ i x hx
  exact ⟨b, off, ha, hb, by simpa using hc 0 _ rfl, by simpa using hc 1 _ rfl, by simpa using hc 2 _ rfl⟩
theorem Row.join {w : World} {a : Option Addr} {n : Nat} {xs : List Join} (h : Row 4 encJoin w a n xs) {i : Nat} {x : Join} (hx : xs[i]? = some x) :
    ∃ b off, a = some ⟨b, off, none⟩ ∧ b < w.heap.size ∧ w.cell? ⟨b, off + i * 4, none⟩ = some (.int .i64 x.a.e) ∧ w.cell? ⟨b, off + i * 4 + 1, none⟩ = some (.int .i64 x.a.n) ∧ w.cell? ⟨b, off + i * 4 + 2, none⟩ = some (.int .i64 x.b.e) ∧ w.cell? ⟨b, off + i * 4 + 3, none⟩ = some (.int .i64 x.b.n) := by
  obtain ⟨b, off, ha, hb, hc⟩ := h.at_ i x hx
  exact ⟨b, off, ha, hb, by simpa using hc 0 _ rfl, by simpa using hc 1 _ rfl, by simpa using hc 2 _ rfl, by simpa using hc 3 _ rfl⟩
theorem Row.sig {w : World} {a : Option Addr} {n : Nat} {xs : List Sig} (h : Row 4 encSig w a n xs) {i : Nat} {x : Sig} (hx : xs[i]? = some x) :
    ∃ b off, a = some ⟨b, off, none⟩ ∧ b < w.heap.size ∧ w.cell? ⟨b, off + i * 4, none⟩ = some (.string x.name) ∧ w.cell? ⟨b, off + i * 4 + 1, none⟩ = some (.int .i64 x.at_.e) ∧ w.cell? ⟨b, off + i * 4 + 2, none⟩ = some (.int .i64 x.at_.n) ∧ w.cell? ⟨b, off + i * 4 + 3, none⟩ = some (.bool x.auto) := by
  obtain ⟨b, off, ha, hb, hc⟩ := h.at_ i x hx
  exact ⟨b, off, ha, hb, by simpa using hc 0 _ rfl, by simpa using hc 1 _ rfl, by simpa using hc 2 _ rfl, by simpa using hc 3 _ rfl⟩
theorem Row.line {w : World} {a : Option Addr} {n : Nat} {xs : List LineV} (h : Row 2 encLine w a n xs) {i : Nat} {x : LineV} (hx : xs[i]? = some x) :
    ∃ b off, a = some ⟨b, off, none⟩ ∧ b < w.heap.size ∧ w.cell? ⟨b, off + i * 2, none⟩ = some (.string x.name) ∧ w.cell? ⟨b, off + i * 2 + 1, none⟩ = some (.slice x.a x.n x.c) := by
  obtain ⟨b, off, ha, hb, hc⟩ := h.at_ i x hx
  exact ⟨b, off, ha, hb, by simpa using hc 0 _ rfl, by simpa using hc 1 _ rfl⟩

/-! ports as keys -/
def portOf : List Value → Option Port
  | [.int .i64 a, .int .i64 b] => some ⟨a, b⟩
  | _ => none
theorem portOf_some {l : List Value} {x : Port} (h : portOf l = some x) : l = [.int .i64 x.e, .int .i64 x.n] := by
  unfold portOf at h
  split at h
  · simp at h; subst h; rfl
  · cases h
def portCode : Code Port where
  enc := Port.val
  dec | .agg cs => portOf cs.toList | _ => none
  dec_enc _ := rfl
  enc_dec v x h := by
    cases v with
    | agg cs =>
      have := portOf_some h
      unfold Port.val
      congr 1
      apply Array.ext'
      exact this
    | _ => simp at h
theorem underlying_port_wide : (match Try.prog.underlying 44 with | some (.array _ _) | some (.struct _) => true | _ => false) = true := by rw [Try.underlying44]
theorem row_port : (44 : TypeId) < Try.prog.types.size := of_decide_eq_true (by kernel_rfl)
set_option maxRecDepth 1000000 in
theorem keyed_port : Keyed Try.prog 44 := Keyed.of_law (deep_law_laid laidOut (m := 2) (by omega) row_port (by kernel_rfl) underlying_port_wide)
theorem keyOf_ints2 {P : Program} {k ti : TypeId} {f0 f1 : Field} (hu : P.underlying k = some (.struct #[f0, f1])) (h0 : f0.type = ti) (h1 : f1.type = ti) (o0 : f0.offset = 0) (o1 : f1.offset = 1)
    (n0 : (f0.name != "_") = true) (n1 : (f1.name != "_") = true) (hi : P.underlying ti = some (.int .i64)) (hc : P.cellsOf k = 2) (hci : P.cellsOf ti = 1) (hk : P.keyType k = true) (hs : 0 < P.types.size) {a b : Int}
    (w1 : (Lit.int .i64 a).wf = true) (w2 : (Lit.int .i64 b).wf = true) : ∃ l, keyOf P k (.agg #[.int .i64 a, .int .i64 b]) = some l := by
  obtain ⟨d, hd⟩ : ∃ d, P.types.size = d + 1 := ⟨P.types.size - 1, by omega⟩
  refine ⟨.string (keyBytes [.int .i64 a, .int .i64 b]), ?_⟩
  unfold keyOf
  rw [hu]
  simp [hk, hd, Value.formed, Program.keyLits, hu, hi, hc, hci, w1, w2, Value.cells, h0, h1, o0, o1, n0, n1]
theorem types_pos : 0 < Try.prog.types.size := of_decide_eq_true (by kernel_rfl)
set_option maxRecDepth 1000000 in
theorem key_port {x : Port} (h : x.wf) : ∃ l, keyOf Try.prog 44 (portCode.enc x) = some l :=
  keyOf_ints2 Try.underlying44 rfl rfl rfl rfl rfl rfl Try.underlying3 (by kernel_rfl) (by kernel_rfl) (by kernel_rfl) types_pos (WalkArith.wf_i64 h.1) (WalkArith.wf_i64 h.2)
end Go.Proofs.Ytlndfmflbdkpjaa
