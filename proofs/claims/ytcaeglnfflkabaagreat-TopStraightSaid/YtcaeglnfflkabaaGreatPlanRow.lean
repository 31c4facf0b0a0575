/- Plans in memory: how a plan's value reads. No condition. -/
import Derived.Test.YtcaeglnfflkabaaGreatPure
import Derived.Test.YtcaeglnfflkabaaGreatBase
import Derived.Lib.SmallJoins
import Derived.Laws.StructEq
import Derived.Lib.Strings
namespace Go.Proofs.YtcaeglnfflkabaaGreat
open Go.RowKit
open Go.Maps (Keyed)

def inI (x : Int) : Prop := -9223372036854775808 ≤ x ∧ x ≤ 9223372036854775807
theorem inI_mk {x : Int} (h : -9223372036854775808 ≤ x) (h' : x ≤ 9223372036854775807) : inI x := ⟨h, h'⟩
def Port.val (x : Port) : Value := .agg #[.int .i64 x.e, .int .i64 x.n]
def Port.wf (x : Port) : Prop := inI x.e ∧ inI x.n
def encPort (x : Port) : List Value := [.int .i64 x.e, .int .i64 x.n]
def encElem (x : Elem) : List Value := [.string x.name, .int .i64 x.kind, .int .i64 x.len]
def Elem.val (x : Elem) : Value := .agg #[.string x.name, .int .i64 x.kind, .int .i64 x.len]
def encJoin (x : Join) : List Value := [.int .i64 x.a.e, .int .i64 x.a.n, .int .i64 x.b.e, .int .i64 x.b.n]
def encSig (x : Sig) : List Value := [.string x.name, .int .i64 x.at_.e, .int .i64 x.at_.n, .bool x.auto]

/-- a line with the slice that holds its elements -/
structure LineV where
 name : ByteArray
 a : Option Addr
 n : Nat
 c : Nat
 elems : List Int
def LineV.line (x : LineV) : Line := ⟨x.name, x.elems⟩
def encLine (x : LineV) : List Value := [.string x.name, .slice x.a x.n x.c]

abbrev Elems (w : World) (a : Option Addr) (n : Nat) (xs : List Elem) : Prop := Row 3 encElem w a n xs
abbrev Joins (w : World) (a : Option Addr) (n : Nat) (xs : List Join) : Prop := Row 4 encJoin w a n xs
abbrev Sigs (w : World) (a : Option Addr) (n : Nat) (xs : List Sig) : Prop := Row 4 encSig w a n xs
structure Lines (w : World) (a : Option Addr) (n : Nat) (xs : List LineV) : Prop where
 row : Row 2 encLine w a n xs
 ints : ∀ x ∈ xs, Ints w x.a x.n x.elems
theorem Lines.below {w w' : World} {a : Option Addr} {n : Nat} {xs : List LineV} (h : Lines w a n xs) (hb : Below w.heap.size w w') : Lines w' a n xs :=
 ⟨h.row.below hb, fun x hx => (h.ints x hx).below hb⟩

/-- the slices of a plan's value -/
structure PV where
 ae : Option Addr
 ne : Nat
 ce : Nat
 aj : Option Addr
 nj : Nat
 cj : Nat
 as_ : Option Addr
 ns : Nat
 cs : Nat
 al : Option Addr
 nl : Nat
 cl : Nat
 lv : List LineV
def PV.cells (v : PV) (p : Plan) : Array Value := #[.slice v.ae v.ne v.ce, .slice v.aj v.nj v.cj, .slice v.as_ v.ns v.cs, .slice v.al v.nl v.cl, .int .i64 p.top, .int .i64 p.brake, .int .i64 p.margin, .int .i64 p.throw, .bool p.hard]
def PV.val (v : PV) (p : Plan) : Value := .agg #[.slice v.ae v.ne v.ce, .slice v.aj v.nj v.cj, .slice v.as_ v.ns v.cs, .slice v.al v.nl v.cl, .int .i64 p.top, .int .i64 p.brake, .int .i64 p.margin, .int .i64 p.throw, .bool p.hard]

/-- All numbers of a plan are ints, all its slices have a capacity only if they lie somewhere. -/
structure PlanFit (v : PV) (p : Plan) : Prop where
 ec : v.ae = none → v.ce = 0
 jc : v.aj = none → v.cj = 0
 sc : v.as_ = none → v.cs = 0
 lc : v.al = none → v.cl = 0
 ll : ∀ x ∈ v.lv, x.a = none → x.c = 0
 e : ∀ x ∈ p.elems, inI x.kind ∧ inI x.len ∧ x.name.size ≤ 9223372036854775807
 j : ∀ x ∈ p.joins, x.a.wf ∧ x.b.wf
 s : ∀ x ∈ p.sigs, x.at_.wf ∧ x.name.size ≤ 9223372036854775807
 l : ∀ x ∈ p.lines, (∀ y ∈ x.elems, inI y) ∧ x.name.size ≤ 9223372036854775807
 top : inI p.top
 brake : inI p.brake
 margin : inI p.margin
 throw : inI p.throw

/-- In w the value v.val p reads as the plan p. -/
structure PlanAt (w : World) (v : PV) (p : Plan) : Prop where
 e : Elems w v.ae v.ne p.elems
 j : Joins w v.aj v.nj p.joins
 s : Sigs w v.as_ v.ns p.sigs
 l : Lines w v.al v.nl v.lv
 lp : p.lines = v.lv.map LineV.line
 fit : PlanFit v p
theorem PlanAt.below {w w' : World} {v : PV} {p : Plan} (h : PlanAt w v p) (hb : Below w.heap.size w w') : PlanAt w' v p :=
 ⟨h.e.below hb, h.j.below hb, h.s.below hb, h.l.below hb, h.lp, h.fit⟩

/-- Block b of w holds a plan. -/
structure PBox (w : World) (b : Nat) (v : PV) (p : Plan) : Prop where
 lt : b < w.heap.size
 c0 : w.cell? ⟨b, 0, none⟩ = some (.slice v.ae v.ne v.ce)
 c1 : w.cell? ⟨b, 1, none⟩ = some (.slice v.aj v.nj v.cj)
 c2 : w.cell? ⟨b, 2, none⟩ = some (.slice v.as_ v.ns v.cs)
 c3 : w.cell? ⟨b, 3, none⟩ = some (.slice v.al v.nl v.cl)
 c4 : w.cell? ⟨b, 4, none⟩ = some (.int .i64 p.top)
 c5 : w.cell? ⟨b, 5, none⟩ = some (.int .i64 p.brake)
 c6 : w.cell? ⟨b, 6, none⟩ = some (.int .i64 p.margin)
 c7 : w.cell? ⟨b, 7, none⟩ = some (.int .i64 p.throw)
 c8 : w.cell? ⟨b, 8, none⟩ = some (.bool p.hard)
theorem PBox.below {w w' : World} {b : Nat} {v : PV} {p : Plan} (h : PBox w b v p) (hb : Below w.heap.size w w') : PBox w' b v p := by
 have key : ∀ o, w'.cell? ⟨b, o, none⟩ = w.cell? ⟨b, o, none⟩ := fun o => hb.cell (p := ⟨b, o, none⟩) h.lt
 exact ⟨Nat.lt_of_lt_of_le h.lt hb.size, (key _).trans h.c0, (key _).trans h.c1, (key _).trans h.c2, (key _).trans h.c3, (key _).trans h.c4, (key _).trans h.c5, (key _).trans h.c6, (key _).trans h.c7, (key _).trans h.c8⟩
theorem PBox.mk' (w : World) (v : PV) (p : Plan) (T : TypeId) : PBox (w.alloc (.cells (v.cells p) T)) w.heap.size v p := by
 unfold PV.cells
 refine ⟨by simp, ?_, ?_, ?_, ?_, ?_, ?_, ?_, ?_, ?_⟩ <;> go_simp

/-- the elements of rows -/
theorem Row.elem {w : World} {a : Option Addr} {n : Nat} {xs : List Elem} (h : Row 3 encElem w a n xs) {i : Nat} {x : Elem} (hx : xs[i]? = some x) :
  ∃ b off, a = some ⟨b, off, none⟩ ∧ b < w.heap.size ∧ w.cell? ⟨b, off + i * 3, none⟩ = some (.string x.name) ∧ w.cell? ⟨b, off + i * 3 + 1, none⟩ = some (.int .i64 x.kind) ∧ w.cell? ⟨b, off + i * 3 + 2, none⟩ = some (.int .i64 x.len) := by
 obtain ⟨b, off, ha, hb, hc⟩ := h.at_ i x hx
 exact ⟨b, off, ha, hb, by simpa using hc 0 _ rfl, by simpa using hc 1 _ rfl, by simpa using hc 2 _ rfl⟩
theorem Row.join {w : World} {a : Option Addr} {n : Nat} {xs : List Join} (h : Row 4 encJoin w a n xs) {i : Nat} {x : Join} (hx : xs[i]? = some x) :
  ∃ b off, a = some ⟨b, off, none⟩ ∧ b < w.heap.size ∧ w.cell? ⟨b, off + i * 4, none⟩ = some (.int .i64 x.a.e) ∧ w.cell? ⟨b, off + i * 4 + 1, none⟩ = some (.int .i64 x.a.n) ∧ w.cell? ⟨b, off + i * 4 + 2, none⟩ = some (.int .i64 x.b.e) ∧ w.cell? ⟨b, off + i * 4 + 3, none⟩ = some (.int .i64 x.b.n) := by
 obtain ⟨b, off, ha, hb, hc⟩ := h.at_ i x hx
 exact ⟨b, off, ha, hb, by simpa using hc 0 _ rfl, by simpa using hc 1 _ rfl, by simpa using hc 2 _ rfl, by simpa using hc 3 _ rfl⟩
theorem Row.sig {w : World} {a : Option Addr} {n : Nat} {xs : List Sig} (h : Row 4 encSig w a n xs) {i : Nat} {x : Sig} (hx : xs[i]? = some x) :
  ∃ b off, a = some ⟨b, off, none⟩ ∧ b < w.heap.size ∧ w.cell? ⟨b, off + i * 4, none⟩ = some (.string x.name) ∧ w.cell? ⟨b, off + i * 4 + 1, none⟩ = some (.int .i64 x.at_.e) ∧ w.cell? ⟨b, off + i * 4 + 2, none⟩ = some (.int .i64 x.at_.n) ∧ w.cell? ⟨b, off + i * 4 + 3, none⟩ = some (.bool x.auto) := by
 obtain ⟨b, off, ha, hb, hc⟩ := h.at_ i x hx
 exact ⟨b, off, ha, hb, by simpa using hc 0 _ rfl, by simpa using hc 1 _ rfl, by simpa using hc 2 _ rfl, by simpa using hc 3 _ rfl⟩
theorem Row.line {w : World} {a : Option Addr} {n : Nat} {xs : List LineV} (h : Row 2 encLine w a n xs) {i : Nat} {x : LineV} (hx : xs[i]? = some x) :
  ∃ b off, a = some ⟨b, off, none⟩ ∧ b < w.heap.size ∧ w.cell? ⟨b, off + i * 2, none⟩ = some (.string x.name) ∧ w.cell? ⟨b, off + i * 2 + 1, none⟩ = some (.slice x.a x.n x.c) := by
 obtain ⟨b, off, ha, hb, hc⟩ := h.at_ i x hx
 exact ⟨b, off, ha, hb, by simpa using hc 0 _ rfl, by simpa using hc 1 _ rfl⟩

/-! ports as keys -/
def portOf : List Value → Option Port
 | [.int .i64 a, .int .i64 b] => some ⟨a, b⟩
 | _ => none
theorem portOf_some {l : List Value} {x : Port} (h : portOf l = some x) : l = [.int .i64 x.e, .int .i64 x.n] := by
 unfold portOf at h
 split at h
 ·simp at h; subst h; rfl
 ·cases h
def portCode : Code Port where
 enc := Port.val
 dec | .agg cs => portOf cs.toList | _ => none
 dec_enc _ := rfl
 enc_dec v x h := by
  cases v with
  | agg cs =>
   have := portOf_some h
   unfold Port.val
   congr 1
   apply Array.ext'
   exact this
  | _ => simp at h
theorem underlying_port_wide : (match Tryz.prog.underlying 43 with | some (.array _ _) | some (.struct _) => true | _ => false) = true := by rw [Tryz.underlying43]
theorem row_port : (43 : TypeId) < Tryz.prog.types.size := of_decide_eq_true (by kernel_rfl)
set_option maxRecDepth 1000000 in
theorem keyed_port : Keyed Tryz.prog 43 := Keyed.of_law (deep_law_laid laidOut (m := 2) (by omega) row_port (by kernel_rfl) underlying_port_wide)
theorem keyOf_ints2 {P : Program} {k ti : TypeId} {f0 f1 : Field} (hu : P.underlying k = some (.struct #[f0, f1])) (h0 : f0.type = ti) (h1 : f1.type = ti) (o0 : f0.offset = 0) (o1 : f1.offset = 1)
  (n0 : (f0.name != "_") = true) (n1 : (f1.name != "_") = true) (hi : P.underlying ti = some (.int .i64)) (hc : P.cellsOf k = 2) (hci : P.cellsOf ti = 1) (hk : P.keyType k = true) (hs : 0 < P.types.size) {a b : Int}
  (w1 : (Lit.int .i64 a).wf = true) (w2 : (Lit.int .i64 b).wf = true) : ∃ l, keyOf P k (.agg #[.int .i64 a, .int .i64 b]) = some l := by
 obtain ⟨d, hd⟩ : ∃ d, P.types.size = d + 1 := ⟨P.types.size - 1, by omega⟩
 refine ⟨.string (keyBytes [.int .i64 a, .int .i64 b]), ?_⟩
 unfold keyOf
 rw [hu]
 simp [hk, hd, Value.formed, Program.keyLits, hu, hi, hc, hci, w1, w2, Value.cells, h0, h1, o0, o1, n0, n1]
theorem types_pos : 0 < Tryz.prog.types.size := of_decide_eq_true (by kernel_rfl)
set_option maxRecDepth 1000000 in
theorem key_port {x : Port} (h : x.wf) : ∃ l, keyOf Tryz.prog 43 (portCode.enc x) = some l :=
 keyOf_ints2 Tryz.underlying43 rfl rfl rfl rfl rfl rfl Tryz.underlying3 (by kernel_rfl) (by kernel_rfl) (by kernel_rfl) types_pos (WalkArith.wf_i64 h.1) (WalkArith.wf_i64 h.2)
end Go.Proofs.YtcaeglnfflkabaaGreat

/- Plans, ports and names among the arguments. No condition. -/
namespace Go.Proofs.YtcaeglnfflkabaaGreat
open Go.ChangeShapes Go.WideShapes Go.ChangeAt Go.RowKit Go.Deep

set_option maxRecDepth 1000000
section
variable {H : Type} {enc : TypeId × Value → H} {w : World}

theorem cells_int : Tryz.prog.cellsOf 3 = 1 := by kernel_rfl
theorem cells_string : Tryz.prog.cellsOf 9 = 1 := by kernel_rfl
theorem cells_bool : Tryz.prog.cellsOf 4 = 1 := by kernel_rfl
theorem cells_port : Tryz.prog.cellsOf 43 = 2 := by kernel_rfl
theorem trod_i {n : Nat} {cs : List Value} {y : DataW H × List MemPlace} (hy : DataW.trod enc Tryz.prog w 0 (fun _ => true) true n 3 cs = some y) : ∃ x : Int, cs = [.int .i64 x] ∧ inI x := by
 obtain ⟨x, e0, _, hw⟩ := DataW.trod_int Tryz.underlying3 hy
 exact ⟨x, e0, by simp [Lit.wf, IntKind.min, IntKind.max, IntKind.signed, IntKind.bits] at hw; unfold inI; omega⟩
theorem trod_s {n : Nat} {cs : List Value} {y : DataW H × List MemPlace} (hy : DataW.trod enc Tryz.prog w 0 (fun _ => true) true n 9 cs = some y) : ∃ x : ByteArray, cs = [.string x] ∧ x.size ≤ 9223372036854775807 := by
 obtain ⟨x, e0, _, hw⟩ := DataW.trod_string Tryz.underlying9 hy
 exact ⟨x, e0, by simpa [maxLen] using hw⟩
theorem trod_b {n : Nat} {cs : List Value} {y : DataW H × List MemPlace} (hy : DataW.trod enc Tryz.prog w 0 (fun _ => true) true n 4 cs = some y) : ∃ x : Bool, cs = [.bool x] := by
 obtain ⟨x, e0, _⟩ := DataW.trod_bool Tryz.underlying4 hy
 exact ⟨x, e0⟩

theorem trod_port {n : Nat} {cs : List Value} {y : DataW H × List MemPlace} (hy : DataW.trod enc Tryz.prog w 0 (fun _ => true) true n 43 cs = some y) : ∃ x : Port, cs = encPort x ∧ x.wf := by
 obtain ⟨xs, m, _, _, hl, hxl, hf⟩ := DataW.trod_struct Tryz.underlying43 hy
 rw [cells_port] at hl
 have hxl : xs.length = 2 := hxl
 match cs, hl with
 | [c0, c1], _ =>
  match xs, hxl with
  | [y0, y1], _ =>
   have f0 : DataW.trod enc Tryz.prog w 0 (fun _ => true) true m 3 [c0] = some y0 := by have := hf 0 _ rfl; simpa [cells_int] using this
   have f1 : DataW.trod enc Tryz.prog w 0 (fun _ => true) true m 3 [c1] = some y1 := by have := hf 1 _ rfl; simpa [cells_int] using this
   obtain ⟨a, e0, w0⟩ := trod_i f0
   obtain ⟨b, e1, w1⟩ := trod_i f1
   simp only [List.cons.injEq, and_true] at e0 e1
   subst e0; subst e1
   exact ⟨⟨a, b⟩, rfl, w0, w1⟩
theorem trod_elem {n : Nat} {cs : List Value} {y : DataW H × List MemPlace} (hy : DataW.trod enc Tryz.prog w 0 (fun _ => true) true n 65 cs = some y) : ∃ x : Elem, cs = encElem x ∧ inI x.kind ∧ inI x.len ∧ x.name.size ≤ 9223372036854775807 := by
 obtain ⟨xs, m, _, _, hl, hxl, hf⟩ := DataW.trod_struct Tryz.underlying65 hy
 have hc : Tryz.prog.cellsOf 65 = 3 := by kernel_rfl
 rw [hc] at hl
 have hxl : xs.length = 3 := hxl
 match cs, hl with
 | [c0, c1, c2], _ =>
  match xs, hxl with
  | [y0, y1, y2], _ =>
   have f0 : DataW.trod enc Tryz.prog w 0 (fun _ => true) true m 9 [c0] = some y0 := by have := hf 0 _ rfl; simpa [cells_string] using this
   have f1 : DataW.trod enc Tryz.prog w 0 (fun _ => true) true m 3 [c1] = some y1 := by have := hf 1 _ rfl; simpa [cells_int] using this
   have f2 : DataW.trod enc Tryz.prog w 0 (fun _ => true) true m 3 [c2] = some y2 := by have := hf 2 _ rfl; simpa [cells_int] using this
   obtain ⟨s, e0, w0⟩ := trod_s f0
   obtain ⟨a, e1, w1⟩ := trod_i f1
   obtain ⟨b, e2, w2⟩ := trod_i f2
   simp only [List.cons.injEq, and_true] at e0 e1 e2
   subst e0; subst e1; subst e2
   exact ⟨⟨s, a, b⟩, rfl, w1, w2, w0⟩
theorem trod_join {n : Nat} {cs : List Value} {y : DataW H × List MemPlace} (hy : DataW.trod enc Tryz.prog w 0 (fun _ => true) true n 94 cs = some y) : ∃ x : Join, cs = encJoin x ∧ x.a.wf ∧ x.b.wf := by
 obtain ⟨xs, m, _, _, hl, hxl, hf⟩ := DataW.trod_struct Tryz.underlying94 hy
 have hc : Tryz.prog.cellsOf 94 = 4 := by kernel_rfl
 rw [hc] at hl
 have hxl : xs.length = 2 := hxl
 match cs, hl with
 | [c0, c1, c2, c3], _ =>
  match xs, hxl with
  | [y0, y1], _ =>
   have f0 : DataW.trod enc Tryz.prog w 0 (fun _ => true) true m 43 [c0, c1] = some y0 := by have := hf 0 _ rfl; simpa [cells_port] using this
   have f1 : DataW.trod enc Tryz.prog w 0 (fun _ => true) true m 43 [c2, c3] = some y1 := by have := hf 1 _ rfl; simpa [cells_port] using this
   obtain ⟨a, e0, w0⟩ := trod_port f0
   obtain ⟨b, e1, w1⟩ := trod_port f1
   simp only [encPort, List.cons.injEq, and_true] at e0 e1
   obtain ⟨rfl, rfl⟩ := e0
   obtain ⟨rfl, rfl⟩ := e1
   exact ⟨⟨a, b⟩, rfl, w0, w1⟩
theorem trod_sig {n : Nat} {cs : List Value} {y : DataW H × List MemPlace} (hy : DataW.trod enc Tryz.prog w 0 (fun _ => true) true n 45 cs = some y) : ∃ x : Sig, cs = encSig x ∧ x.at_.wf ∧ x.name.size ≤ 9223372036854775807 := by
 obtain ⟨xs, m, _, _, hl, hxl, hf⟩ := DataW.trod_struct Tryz.underlying45 hy
 have hc : Tryz.prog.cellsOf 45 = 4 := by kernel_rfl
 rw [hc] at hl
 have hxl : xs.length = 3 := hxl
 match cs, hl with
 | [c0, c1, c2, c3], _ =>
  match xs, hxl with
  | [y0, y1, y2], _ =>
   have f0 : DataW.trod enc Tryz.prog w 0 (fun _ => true) true m 9 [c0] = some y0 := by have := hf 0 _ rfl; simpa [cells_string] using this
   have f1 : DataW.trod enc Tryz.prog w 0 (fun _ => true) true m 43 [c1, c2] = some y1 := by have := hf 1 _ rfl; simpa [cells_port] using this
   have f2 : DataW.trod enc Tryz.prog w 0 (fun _ => true) true m 4 [c3] = some y2 := by have := hf 2 _ rfl; simpa [cells_bool] using this
   obtain ⟨s, e0, w0⟩ := trod_s f0
   obtain ⟨a, e1, w1⟩ := trod_port f1
   obtain ⟨b, e2⟩ := trod_b f2
   simp only [encPort, List.cons.injEq, and_true] at e0 e1 e2
   obtain ⟨rfl, rfl⟩ := e1
   subst e0; subst e2
   exact ⟨⟨s, a, b⟩, rfl, w1, w0⟩
theorem trod_ints {n : Nat} {cs : List Value} {y : DataW H × List MemPlace} (hy : DataW.trod enc Tryz.prog w 0 (fun _ => true) true n 48 cs = some y) :
  ∃ a n c xs, cs = [.slice a n c] ∧ Ints w a n xs ∧ (∀ x ∈ xs, inI x) ∧ (a = none → c = 0) ∧ n ≤ c :=
 open_row_cs (sz := 1) Tryz.underlying48 cells_int (by decide) (fun _ => rfl) (fun n cs y hy => trod_i hy) hy
theorem trod_line {n : Nat} {cs : List Value} {y : DataW H × List MemPlace} (hy : DataW.trod enc Tryz.prog w 0 (fun _ => true) true n 96 cs = some y) :
  ∃ x : LineV, cs = encLine x ∧ Ints w x.a x.n x.elems ∧ (x.a = none → x.c = 0) ∧ (∀ z ∈ x.elems, inI z) ∧ x.name.size ≤ 9223372036854775807 := by
 obtain ⟨xs, m, _, _, hl, hxl, hf⟩ := DataW.trod_struct Tryz.underlying96 hy
 have hc : Tryz.prog.cellsOf 96 = 2 := by kernel_rfl
 have hs : Tryz.prog.cellsOf 48 = 1 := by kernel_rfl
 rw [hc] at hl
 have hxl : xs.length = 2 := hxl
 match cs, hl with
 | [c0, c1], _ =>
  match xs, hxl with
  | [y0, y1], _ =>
   have f0 : DataW.trod enc Tryz.prog w 0 (fun _ => true) true m 9 [c0] = some y0 := by have := hf 0 _ rfl; simpa [cells_string] using this
   have f1 : DataW.trod enc Tryz.prog w 0 (fun _ => true) true m 48 [c1] = some y1 := by have := hf 1 _ rfl; simpa [hs] using this
   obtain ⟨s, e0, w0⟩ := trod_s f0
   obtain ⟨a, k, c, l, e1, h1, h2, h3, _⟩ := trod_ints f1
   simp only [List.cons.injEq, and_true] at e0 e1
   subst e0; subst e1
   exact ⟨⟨s, a, k, c, l⟩, rfl, h1, h3, h2, w0⟩

/-- a plan -/
theorem trod_plan {n : Nat} {cs : List Value} {y : DataW H × List MemPlace} (hy : DataW.trod enc Tryz.prog w 0 (fun _ => true) true n 27 cs = some y) : ∃ (v : PV) (p : Plan), cs = (v.cells p).toList ∧ PlanAt w v p := by
 obtain ⟨xs, m, _, _, hl, hxl, hf⟩ := DataW.trod_struct Tryz.underlying27 hy
 have hc : Tryz.prog.cellsOf 27 = 9 := by kernel_rfl
 have s0 : Tryz.prog.cellsOf 22 = 1 := by kernel_rfl
 have s1 : Tryz.prog.cellsOf 23 = 1 := by kernel_rfl
 have s2 : Tryz.prog.cellsOf 24 = 1 := by kernel_rfl
 have s3 : Tryz.prog.cellsOf 25 = 1 := by kernel_rfl
 rw [hc] at hl
 have hxl : xs.length = 9 := hxl
 match cs, hl with
 | [c0, c1, c2, c3, c4, c5, c6, c7, c8], _ =>
  match xs, hxl with
  | [y0, y1, y2, y3, y4, y5, y6, y7, y8], _ =>
   have f0 : DataW.trod enc Tryz.prog w 0 (fun _ => true) true m 22 [c0] = some y0 := by have := hf 0 _ rfl; simpa [s0] using this
   have f1 : DataW.trod enc Tryz.prog w 0 (fun _ => true) true m 23 [c1] = some y1 := by have := hf 1 _ rfl; simpa [s1] using this
   have f2 : DataW.trod enc Tryz.prog w 0 (fun _ => true) true m 24 [c2] = some y2 := by have := hf 2 _ rfl; simpa [s2] using this
   have f3 : DataW.trod enc Tryz.prog w 0 (fun _ => true) true m 25 [c3] = some y3 := by have := hf 3 _ rfl; simpa [s3] using this
   have f4 : DataW.trod enc Tryz.prog w 0 (fun _ => true) true m 3 [c4] = some y4 := by have := hf 4 _ rfl; simpa [cells_int] using this
   have f5 : DataW.trod enc Tryz.prog w 0 (fun _ => true) true m 3 [c5] = some y5 := by have := hf 5 _ rfl; simpa [cells_int] using this
   have f6 : DataW.trod enc Tryz.prog w 0 (fun _ => true) true m 3 [c6] = some y6 := by have := hf 6 _ rfl; simpa [cells_int] using this
   have f7 : DataW.trod enc Tryz.prog w 0 (fun _ => true) true m 3 [c7] = some y7 := by have := hf 7 _ rfl; simpa [cells_int] using this
   have f8 : DataW.trod enc Tryz.prog w 0 (fun _ => true) true m 4 [c8] = some y8 := by have := hf 8 _ rfl; simpa [cells_bool] using this
   obtain ⟨ae, ne, ce, le, e0, a0, b0, d0, _⟩ := open_row_cs (sz := 3) (rd := encElem) Tryz.underlying22 (by kernel_rfl) (by decide) (fun _ => rfl) (fun n cs y hy => trod_elem hy) f0
   obtain ⟨aj, nj, cj, lj, e1, a1, b1, d1, _⟩ := open_row_cs (sz := 4) (rd := encJoin) Tryz.underlying23 (by kernel_rfl) (by decide) (fun _ => rfl) (fun n cs y hy => trod_join hy) f1
   obtain ⟨as_, ns, cs', ls, e2, a2, b2, d2, _⟩ := open_row_cs (sz := 4) (rd := encSig) Tryz.underlying24 (by kernel_rfl) (by decide) (fun _ => rfl) (fun n cs y hy => trod_sig hy) f2
   obtain ⟨al, nl, cl, ll, e3, a3, b3, d3, _⟩ := open_row_cs (sz := 2) (rd := encLine) Tryz.underlying25 (by kernel_rfl) (by decide) (fun _ => rfl) (fun n cs y hy => trod_line hy) f3
   obtain ⟨x4, e4, w4⟩ := trod_i f4
   obtain ⟨x5, e5, w5⟩ := trod_i f5
   obtain ⟨x6, e6, w6⟩ := trod_i f6
   obtain ⟨x7, e7, w7⟩ := trod_i f7
   obtain ⟨x8, e8⟩ := trod_b f8
   simp only [List.cons.injEq, and_true] at e0 e1 e2 e3 e4 e5 e6 e7 e8
   subst e0; subst e1; subst e2; subst e3; subst e4; subst e5; subst e6; subst e7; subst e8
   refine ⟨⟨ae, ne, ce, aj, nj, cj, as_, ns, cs', al, nl, cl, ll⟩, ⟨le, lj, ls, ll.map LineV.line, x4, x5, x6, x7, x8⟩, rfl, ⟨a0, a1, a2, ⟨a3, fun x hx => (b3 x hx).1⟩, rfl, ⟨d0, d1, d2, d3, fun x hx => (b3 x hx).2.1, b0, b1, b2, ?_, w4, w5, w6, w7⟩⟩⟩
   intro x hx
   obtain ⟨z, hz, rfl⟩ := List.mem_map.1 hx
   exact (b3 z hz).2.2
theorem open_plan {v : Value} {d : DataW H} {q : List MemPlace} {r : Reach} {b0 : Nat} (hv : Value.okWide Tryz.prog w r b0 27 v) (h : DataW.Trod enc Tryz.prog w 0 (fun _ => true) true 27 v d q) :
  ∃ (pv : PV) (p : Plan), v = pv.val p ∧ PlanAt w pv p := by
 obtain ⟨cs, rfl, _⟩ := okWide_struct Tryz.underlying27 hv
 obtain ⟨fuel, hf⟩ := h
 obtain ⟨pv, p, hc, hp⟩ := trod_plan hf
 refine ⟨pv, p, ?_, hp⟩
 simp only [Value.cells] at hc
 have : cs = pv.cells p := by
  apply Array.ext'
  exact hc
 rw [this]; rfl
theorem open_i {v : Value} {d : DataW H} {q : List MemPlace} {r : Reach} {b0 : Nat} (hv : Value.okWide Tryz.prog w r b0 3 v) (h : DataW.Trod enc Tryz.prog w 0 (fun _ => true) true 3 v d q) : ∃ x : Int, v = .int .i64 x ∧ inI x := by
 obtain ⟨x, rfl⟩ := okWide_int Tryz.underlying3 hv
 obtain ⟨fuel, hf⟩ := h
 obtain ⟨y, hc, hp⟩ := trod_i hf
 simp [Value.cells] at hc
 subst hc
 exact ⟨x, rfl, hp⟩
theorem open_u8 {v : Value} {d : DataW H} {q : List MemPlace} {r : Reach} {b0 : Nat} (hv : Value.okWide Tryz.prog w r b0 5 v) (h : DataW.Trod enc Tryz.prog w 0 (fun _ => true) true 5 v d q) : ∃ x : Int, v = .int .u8 x ∧ 0 ≤ x ∧ x ≤ 255 := by
 obtain ⟨x, rfl⟩ := okWide_int Tryz.underlying5 hv
 obtain ⟨fuel, hf⟩ := h
 obtain ⟨y, hc, _, hw⟩ := DataW.trod_int Tryz.underlying5 hf
 simp [Value.cells] at hc
 subst hc
 exact ⟨x, rfl, by simp [Lit.wf, IntKind.min, IntKind.max, IntKind.signed, IntKind.bits] at hw; omega⟩
end
end Go.Proofs.YtcaeglnfflkabaaGreat

/- Equality of ports, joins, elements, signals, as the program runs it. No condition. -/
set_option maxRecDepth 1000000
namespace Go.Proofs.YtcaeglnfflkabaaGreat
open Go.RowKit
theorem eql_struct {P : Program} {t : TypeId} {fs : Array Field} (hu : P.underlying t = some (.struct fs)) (hp : P.stoodInHeld t = false) {b : Bool} (xs ys : Array Value)
  (hb : ∀ w, (Op.eqFields 9999 xs ys fs.toList).run P w = .ok b w) (w : World) : (binOp .eql t (.agg xs) (.agg ys)).run P w = .ok (.bool b) w ∧ (binOp .neq t (.agg xs) (.agg ys)).run P w = .ok (.bool (!b)) w := by
 have ht : P.underlying t = some (.struct (P.fieldsOf t)) := by unfold Program.fieldsOf; rw [hu]
 have hf : P.fieldsOf t = fs := by unfold Program.fieldsOf; rw [hu]
 rw [run_eql_struct, run_neq_struct, run_equalIn_agg w 9999 t _ _ ht hp, hf, hb]; exact ⟨rfl, rfl⟩
theorem str_beq (a b : ByteArray) : (a.toList == b.toList) = decide (a = b) := by
 rw [Lib.toList_data, Lib.toList_data, Bool.eq_iff_iff]
 simp only [beq_iff_eq, decide_eq_true_eq]
 constructor
 ·intro h; exact ByteArray.ext (Array.ext' h)
 ·intro h; rw [h]
theorem held_port : Tryz.prog.stoodInHeld 43 = false := by kernel_rfl
theorem eqlI_port (x1 x2 y1 y2 : Int) (w : World) : (binOp .eql 43 (.agg #[.int .i64 x1, .int .i64 x2]) (.agg #[.int .i64 y1, .int .i64 y2])).run Tryz.prog w = .ok (.bool (x1 == y1 && x2 == y2)) w ∧
  (binOp .neq 43 (.agg #[.int .i64 x1, .int .i64 x2]) (.agg #[.int .i64 y1, .int .i64 y2])).run Tryz.prog w = .ok (.bool (!(x1 == y1 && x2 == y2))) w := by
 have hi := Tryz.underlying3
 refine eql_struct Tryz.underlying43 held_port _ _ (fun w => ?_) w
 cases h1 : (x1 == y1) <;> cases h2 : (x2 == y2) <;> simp [Op.eqFields, go_sem, part, hi, h1, h2]
theorem port_beq (a b : Port) : (a.e == b.e && a.n == b.n) = decide (a = b) := by
 rw [Bool.eq_iff_iff]; obtain ⟨a1, a2⟩ := a; obtain ⟨b1, b2⟩ := b; simp
theorem eql_port {x y : Port} {b : Bool} (h : decide (x = y) = b) : ∀ w, (binOp .eql 43 (.agg #[.int .i64 x.e, .int .i64 x.n]) (.agg #[.int .i64 y.e, .int .i64 y.n])).run Tryz.prog w = .ok (.bool b) w := by
 intro w; rw [(eqlI_port _ _ _ _ w).1, port_beq, h]
end Go.Proofs.YtcaeglnfflkabaaGreat
