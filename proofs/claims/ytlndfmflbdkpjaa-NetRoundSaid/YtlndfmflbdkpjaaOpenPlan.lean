/- Plans, ports and names among the arguments. No condition. -/
import Derived.Test.YtlndfmflbdkpjaaPlanRow
import Derived.Lib.SmallJoins
namespace Go.Proofs.Ytlndfmflbdkpjaa
open Go.ChangeShapes Go.WideShapes Go.ChangeAt Go.RowKit Go.Deep

set_option maxRecDepth 1000000
section
variable {H : Type} {enc : TypeId × Value → H} {w : World}

theorem cells_int : Try.prog.cellsOf 3 = 1 := by kernel_rfl
theorem cells_string : Try.prog.cellsOf 9 = 1 := by kernel_rfl
theorem cells_bool : Try.prog.cellsOf 4 = 1 := by kernel_rfl
theorem cells_port : Try.prog.cellsOf 44 = 2 := by kernel_rfl
theorem trod_i {n : Nat} {cs : List Value} {y : DataW H × List MemPlace} (hy : DataW.trod enc Try.prog w 0 (fun _ => true) true n 3 cs = some y) : ∃ x : Int, cs = [.int .i64 x] ∧ inI x := by
  obtain ⟨x, e0, _, hw⟩ := DataW.trod_int Try.underlying3 hy
  exact ⟨x, e0, by simp [Lit.wf, IntKind.min, IntKind.max, IntKind.signed, IntKind.bits] at hw; unfold inI; omega⟩
theorem trod_s {n : Nat} {cs : List Value} {y : DataW H × List MemPlace} (hy : DataW.trod enc Try.prog w 0 (fun _ => true) true n 9 cs = some y) : ∃ x : ByteArray, cs = [.string x] ∧ x.size ≤ 9223372036854775807 := by
  obtain ⟨x, e0, _, hw⟩ := DataW.trod_string Try.underlying9 hy
  exact ⟨x, e0, by simpa [maxLen] using hw⟩
theorem trod_b {n : Nat} {cs : List Value} {y : DataW H × List MemPlace} (hy : DataW.trod enc Try.prog w 0 (fun _ => true) true n 4 cs = some y) : ∃ x : Bool, cs = [.bool x] := by
  obtain ⟨x, e0, _⟩ := DataW.trod_bool Try.underlying4 hy
  exact ⟨x, e0⟩

theorem trod_port {n : Nat} {cs : List Value} {y : DataW H × List MemPlace} (hy : DataW.trod enc Try.prog w 0 (fun _ => true) true n 44 cs = some y) : ∃ x : Port, cs = encPort x ∧ x.wf := by
  obtain ⟨xs, m, _, _, hl, hxl, hf⟩ := DataW.trod_struct Try.underlying44 hy
  rw [cells_port] at hl
  have hxl : xs.length = 2 := hxl
  match cs, hl with
  | [c0, c1], _ =>
    match xs, hxl with
    | [y0, y1], _ =>
      have f0 : DataW.trod enc Try.prog w 0 (fun _ => true) true m 3 [c0] = some y0 := by have := hf 0 _ rfl; simpa [cells_int] using this
      have f1 : DataW.trod enc Try.prog w 0 (fun _ => true) true m 3 [c1] = some y1 := by have := hf 1 _ rfl; simpa [cells_int] using this
      obtain ⟨a, e0, w0⟩ := trod_i f0
      obtain ⟨b, e1, w1⟩ := trod_i f1
      simp only [List.cons.injEq, and_true] at e0 e1
      subst e0; subst e1
      exact ⟨⟨a, b⟩, rfl, w0, w1⟩
theorem trod_elem {n : Nat} {cs : List Value} {y : DataW H × List MemPlace} (hy : DataW.trod enc Try.prog w 0 (fun _ => true) true n 42 cs = some y) : ∃ x : Elem, cs = encElem x ∧ inI x.kind ∧ inI x.len ∧ x.name.size ≤ 9223372036854775807 := by
  obtain ⟨xs, m, _, _, hl, hxl, hf⟩ := DataW.trod_struct Try.underlying42 hy
  have hc : Try.prog.cellsOf 42 = 3 := by kernel_rfl
  rw [hc] at hl
  have hxl : xs.length = 3 := hxl
  match cs, hl with
  | [c0, c1, c2], _ =>
    match xs, hxl with
    | [y0, y1, y2], _ =>
      have f0 : DataW.trod enc Try.prog w 0 (fun _ => true) true m 9 [c0] = some y0 := by have := hf 0 _ rfl; simpa [cells_string] using this
      have f1 : DataW.trod enc Try.prog w 0 (fun _ => true) true m 3 [c1] = some y1 := by have := hf 1 _ rfl; simpa [cells_int] using this
      have f2 : DataW.trod enc Try.prog w 0 (fun _ => true) true m 3 [c2] = some y2 := by have := hf 2 _ rfl; simpa [cells_int] using this
      obtain ⟨s, e0, w0⟩ := trod_s f0
      obtain ⟨a, e1, w1⟩ := trod_i f1
      obtain ⟨b, e2, w2⟩ := trod_i f2
      simp only [List.cons.injEq, and_true] at e0 e1 e2
      subst e0; subst e1; subst e2
      exact ⟨⟨s, a, b⟩, rfl, w1, w2, w0⟩
theorem trod_join {n : Nat} {cs : List Value} {y : DataW H × List MemPlace} (hy : DataW.trod enc Try.prog w 0 (fun _ => true) true n 48 cs = some y) : ∃ x : Join, cs = encJoin x ∧ x.a.wf ∧ x.b.wf := by
  obtain ⟨xs, m, _, _, hl, hxl, hf⟩ := DataW.trod_struct Try.underlying48 hy
  have hc : Try.prog.cellsOf 48 = 4 := by kernel_rfl
  rw [hc] at hl
  have hxl : xs.length = 2 := hxl
  match cs, hl with
  | [c0, c1, c2, c3], _ =>
    match xs, hxl with
    | [y0, y1], _ =>
      have f0 : DataW.trod enc Try.prog w 0 (fun _ => true) true m 44 [c0, c1] = some y0 := by have := hf 0 _ rfl; simpa [cells_port] using this
      have f1 : DataW.trod enc Try.prog w 0 (fun _ => true) true m 44 [c2, c3] = some y1 := by have := hf 1 _ rfl; simpa [cells_port] using this
      obtain ⟨a, e0, w0⟩ := trod_port f0
      obtain ⟨b, e1, w1⟩ := trod_port f1
      simp only [encPort, List.cons.injEq, and_true] at e0 e1
      obtain ⟨rfl, rfl⟩ := e0
      obtain ⟨rfl, rfl⟩ := e1
      exact ⟨⟨a, b⟩, rfl, w0, w1⟩
theorem trod_sig {n : Nat} {cs : List Value} {y : DataW H × List MemPlace} (hy : DataW.trod enc Try.prog w 0 (fun _ => true) true n 46 cs = some y) : ∃ x : Sig, cs = encSig x ∧ x.at_.wf ∧ x.name.size ≤ 9223372036854775807 := by
  obtain ⟨xs, m, _, _, hl, hxl, hf⟩ := DataW.trod_struct Try.underlying46 hy
  have hc : Try.prog.cellsOf 46 = 4 := by kernel_rfl
  rw [hc] at hl
  have hxl : xs.length = 3 := hxl
  match cs, hl with
  | [c0, c1, c2, c3], _ =>
    match xs, hxl with
    | [y0, y1, y2], _ =>
      have f0 : DataW.trod enc Try.prog w 0 (fun _ => true) true m 9 [c0] = some y0 := by have := hf 0 _ rfl; simpa [cells_string] using this
      have f1 : DataW.trod enc Try.prog w 0 (fun _ => true) true m 44 [c1, c2] = some y1 := by have := hf 1 _ rfl; simpa [cells_port] using this
      have f2 : DataW.trod enc Try.prog w 0 (fun _ => true) true m 4 [c3] = some y2 := by have := hf 2 _ rfl; simpa [cells_bool] using this
      obtain ⟨s, e0, w0⟩ := trod_s f0
      obtain ⟨a, e1, w1⟩ := trod_port f1
      obtain ⟨b, e2⟩ := trod_b f2
      simp only [encPort, List.cons.injEq, and_true] at e0 e1 e2
      obtain ⟨rfl, rfl⟩ := e1
      subst e0; subst e2
      exact ⟨⟨s, a, b⟩, rfl, w1, w0⟩
theorem trod_ints {n : Nat} {cs : List Value} {y : DataW H × List MemPlace} (hy : DataW.trod enc Try.prog w 0 (fun _ => true) true n 77 cs = some y) :
    ∃ a n c xs, cs = [.slice a n c] ∧ Ints w a n xs ∧ (∀ x ∈ xs, inI x) ∧ (a = none → c = 0) ∧ n ≤ c :=
  open_row_cs (sz := 1) Try.underlying77 cells_int (by decide) (fun _ => rfl) (fun n cs y hy => trod_i hy) hy
theorem trod_line {n : Nat} {cs : List Value} {y : DataW H × List MemPlace} (hy : DataW.trod enc Try.prog w 0 (fun _ => true) true n 79 cs = some y) :
    ∃ x : LineV, cs = encLine x ∧ Ints w x.a x.n x.elems ∧ (x.a = none → x.c = 0) ∧ (∀ z ∈ x.elems, inI z) ∧ x.name.size ≤ 9223372036854775807 := by
  obtain ⟨xs, m, _, _, hl, hxl, hf⟩ := DataW.trod_struct Try.underlying79 hy
  have hc : Try.prog.cellsOf 79 = 2 := by kernel_rfl
  have hs : Try.prog.cellsOf 77 = 1 := by kernel_rfl
  rw [hc] at hl
  have hxl : xs.length = 2 := hxl
  match cs, hl with
  | [c0, c1], _ =>
    match xs, hxl with
    | [y0, y1], _ =>
      have f0 : DataW.trod enc Try.prog w 0 (fun _ => true) true m 9 [c0] = some y0 := by have := hf 0 _ rfl; simpa [cells_string] using this
      have f1 : DataW.trod enc Try.prog w 0 (fun _ => true) true m 77 [c1] = some y1 := by have := hf 1 _ rfl; simpa [hs] using this
      obtain ⟨s, e0, w0⟩ := trod_s f0
      obtain ⟨a, k, c, l, e1, h1, h2, h3, _⟩ := trod_ints f1
      simp only [List.cons.injEq, and_true] at e0 e1
      subst e0; subst e1
      exact ⟨⟨s, a, k, c, l⟩, rfl, h1, h3, h2, w0⟩

/-- a plan -/
theorem trod_plan {n : Nat} {cs : List Value} {y : DataW H × List MemPlace} (hy : DataW.trod enc Try.prog w 0 (fun _ => true) true n 32 cs = some y) : ∃ (v : PV) (p : Plan), cs = (v.cells p).toList ∧ PlanAt w v p := by
  obtain ⟨xs, m, _, _, hl, hxl, hf⟩ := DataW.trod_struct Try.underlying32 hy
  have hc : Try.prog.cellsOf 32 = 9 := by kernel_rfl
  have s0 : Try.prog.cellsOf 27 = 1 := by kernel_rfl
  have s1 : Try.prog.cellsOf 28 = 1 := by kernel_rfl
  have s2 : Try.prog.cellsOf 29 = 1 := by kernel_rfl
  have s3 : Try.prog.cellsOf 30 = 1 := by kernel_rfl
  rw [hc] at hl
  have hxl : xs.length = 9 := hxl
  match cs, hl with
  | [c0, c1, c2, c3, c4, c5, c6, c7, c8], _ =>
    match xs, hxl with
    | [y0, y1, y2, y3, y4, y5, y6, y7, y8], _ =>
      have f0 : DataW.trod enc Try.prog w 0 (fun _ => true) true m 27 [c0] = some y0 := by have := hf 0 _ rfl; simpa [s0] using this
      have f1 : DataW.trod enc Try.prog w 0 (fun _ => true) true m 28 [c1] = some y1 := by have := hf 1 _ rfl; simpa [s1] using this
      have f2 : DataW.trod enc Try.prog w 0 (fun _ => true) true m 29 [c2] = some y2 := by have := hf 2 _ rfl; simpa [s2] using this
      have f3 : DataW.trod enc Try.prog w 0 (fun _ => true) true m 30 [c3] = some y3 := by have := hf 3 _ rfl; simpa [s3] using this
      have f4 : DataW.trod enc Try.prog w 0 (fun _ => true) true m 3 [c4] = some y4 := by have := hf 4 _ rfl; simpa [cells_int] using this
      have f5 : DataW.trod enc Try.prog w 0 (fun _ => true) true m 3 [c5] = some y5 := by have := hf 5 _ rfl; simpa [cells_int] using this
      have f6 : DataW.trod enc Try.prog w 0 (fun _ => true) true m 3 [c6] = some y6 := by have := hf 6 _ rfl; simpa [cells_int] using this
      have f7 : DataW.trod enc Try.prog w 0 (fun _ => true) true m 3 [c7] = some y7 := by have := hf 7 _ rfl; simpa [cells_int] using this
      have f8 : DataW.trod enc Try.prog w 0 (fun _ => true) true m 4 [c8] = some y8 := by have := hf 8 _ rfl; simpa [cells_bool] using this
      obtain ⟨ae, ne, ce, le, e0, a0, b0, d0, _⟩ := open_row_cs (sz := 3) (rd := encElem) Try.underlying27 (by kernel_rfl) (by decide) (fun _ => rfl) (fun n cs y hy => trod_elem hy) f0
      obtain ⟨aj, nj, cj, lj, e1, a1, b1, d1, _⟩ := open_row_cs (sz := 4) (rd := encJoin) Try.underlying28 (by kernel_rfl) (by decide) (fun _ => rfl) (fun n cs y hy => trod_join hy) f1
      obtain ⟨as_, ns, cs', ls, e2, a2, b2, d2, _⟩ := open_row_cs (sz := 4) (rd := encSig) Try.underlying29 (by kernel_rfl) (by decide) (fun _ => rfl) (fun n cs y hy => trod_sig hy) f2
      obtain ⟨al, nl, cl, ll, e3, a3, b3, d3, _⟩ := open_row_cs (sz := 2) (rd := encLine) Try.underlying30 (by kernel_rfl) (by decide) (fun _ => rfl) (fun n cs y hy => trod_line hy) f3
      obtain ⟨x4, e4, w4⟩ := trod_i f4
      obtain ⟨x5, e5, w5⟩ := trod_i f5
      obtain ⟨x6, e6, w6⟩ := trod_i f6
      obtain ⟨x7, e7, w7⟩ := trod_i f7
      obtain ⟨x8, e8⟩ := trod_b f8
      simp only [List.cons.injEq, and_true] at e0 e1 e2 e3 e4 e5 e6 e7 e8
      subst e0; subst e1; subst e2; subst e3; subst e4; subst e5; subst e6; subst e7; subst e8
      refine ⟨⟨ae, ne, ce, aj, nj, cj, as_, ns, cs', al, nl, cl, ll⟩, ⟨le, lj, ls, ll.map LineV.line, x4, x5, x6, x7, x8⟩, rfl, ⟨a0, a1, a2, ⟨a3, fun x hx => (b3 x hx).1⟩, rfl, ⟨d0, d1, d2, d3, fun x hx => (b3 x hx).2.1, b0, b1, b2, ?_, w4, w5, w6, w7⟩⟩⟩
      intro x hx
      obtain ⟨z, hz, rfl⟩ := List.mem_map.1 hx
      exact (b3 z hz).2.2
theorem open_plan {v : Value} {d : DataW H} {q : List MemPlace} {r : Reach} {b0 : Nat} (hv : Value.okWide Try.prog w r b0 32 v) (h : DataW.Trod enc Try.prog w 0 (fun _ => true) true 32 v d q) :
    ∃ (pv : PV) (p : Plan), v = pv.val p ∧ PlanAt w pv p := by
  obtain ⟨cs, rfl, _⟩ := okWide_struct Try.underlying32 hv
  obtain ⟨fuel, hf⟩ := h
  obtain ⟨pv, p, hc, hp⟩ := trod_plan hf
  refine ⟨pv, p, ?_, hp⟩
  simp only [Value.cells] at hc
  have : cs = pv.cells p := by
    apply Array.ext'
    exact hc
  rw [this]; rfl
theorem open_port {v : Value} {d : DataW H} {q : List MemPlace} {r : Reach} {b0 : Nat} (hv : Value.okWide Try.prog w r b0 44 v) (h : DataW.Trod enc Try.prog w 0 (fun _ => true) true 44 v d q) :
    ∃ (x : Port), v = x.val ∧ x.wf := by
  obtain ⟨cs, rfl, _⟩ := okWide_struct Try.underlying44 hv
  obtain ⟨fuel, hf⟩ := h
  obtain ⟨x, hc, hp⟩ := trod_port hf
  refine ⟨x, ?_, hp⟩
  simp only [Value.cells] at hc
  have : cs = #[.int .i64 x.e, .int .i64 x.n] := by
    apply Array.ext'
    exact hc
  rw [this]; rfl
theorem open_i {v : Value} {d : DataW H} {q : List MemPlace} {r : Reach} {b0 : Nat} (hv : Value.okWide Try.prog w r b0 3 v) (h : DataW.Trod enc Try.prog w 0 (fun _ => true) true 3 v d q) : ∃ x : Int, v = .int .i64 x ∧ inI x := by
  obtain ⟨x, rfl⟩ := okWide_int Try.underlying3 hv
  obtain ⟨fuel, hf⟩ := h
  obtain ⟨y, hc, hp⟩ := trod_i hf
  simp [Value.cells] at hc
  subst hc
  exact ⟨x, rfl, hp⟩
theorem open_u8 {v : Value} {d : DataW H} {q : List MemPlace} {r : Reach} {b0 : Nat} (hv : Value.okWide Try.prog w r b0 5 v) (h : DataW.Trod enc Try.prog w 0 (fun _ => true) true 5 v d q) : ∃ x : Int, v = .int .u8 x ∧ 0 ≤ x ∧ x ≤ 255 := by
  obtain ⟨x, rfl⟩ := okWide_int Try.underlying5 hv
  obtain ⟨fuel, hf⟩ := h
  obtain ⟨y, hc, _, hw⟩ := DataW.trod_int Try.underlying5 hf
  simp [Value.cells] at hc
  subst hc
  exact ⟨x, rfl, by simp [Lit.wf, IntKind.min, IntKind.max, IntKind.signed, IntKind.bits] at hw; omega⟩
theorem open_s {v : Value} {d : DataW H} {q : List MemPlace} {r : Reach} {b0 : Nat} (hv : Value.okWide Try.prog w r b0 9 v) (h : DataW.Trod enc Try.prog w 0 (fun _ => true) true 9 v d q) : ∃ x : ByteArray, v = .string x ∧ x.size ≤ 9223372036854775807 := by
  obtain ⟨x, rfl⟩ := okWide_string Try.underlying9 hv
  obtain ⟨fuel, hf⟩ := h
  obtain ⟨y, hc, hp⟩ := trod_s hf
  simp [Value.cells] at hc
  subst hc
  exact ⟨x, rfl, hp⟩
end
end Go.Proofs.Ytlndfmflbdkpjaa
