/- Equality of ports, joins, elements, signals, as the program runs it. No condition. -/
import Derived.Test.YtlndfmflbdkpjaaPlanRow
import Derived.Laws.StructEq
import Derived.Lib.Strings
set_option maxRecDepth 1000000
namespace Go.Proofs.Ytlndfmflbdkpjaa
open Go.RowKit
theorem eql_struct {P : Program} {t : TypeId} {fs : Array Field} (hu : P.underlying t = some (.struct fs)) (hp : P.stoodInHeld t = false) {b : Bool} (xs ys : Array Value)
    (hb : ∀ w, (Op.eqFields 9999 xs ys fs.toList).run P w = .ok b w) (w : World) : (binOp .eql t (.agg xs) (.agg ys)).run P w = .ok (.bool b) w ∧ (binOp .neq t (.agg xs) (.agg ys)).run P w = .ok (.bool (!b)) w := by
  have ht : P.underlying t = some (.struct (P.fieldsOf t)) := by unfold Program.fieldsOf; rw [hu]
  have hf : P.fieldsOf t = fs := by unfold Program.fieldsOf; rw [hu]
  rw [run_eql_struct, run_neq_struct, run_equalIn_agg w 9999 t _ _ ht hp, hf, hb]; exact ⟨rfl, rfl⟩
theorem str_beq (a b : ByteArray) : (a.toList == b.toList) = decide (a = b) := by
  rw [Lib.toList_data, Lib.toList_data, Bool.eq_iff_iff]
  simp only [beq_iff_eq, decide_eq_true_eq]
  constructor
  · intro h; exact ByteArray.ext (Array.ext' h)
  · intro h; rw [h]
theorem held_port : Try.prog.stoodInHeld 44 = false := by kernel_rfl
theorem eqlI_port (x1 x2 y1 y2 : Int) (w : World) : (binOp .eql 44 (.agg #[.int .i64 x1, .int .i64 x2]) (.agg #[.int .i64 y1, .int .i64 y2])).run Try.prog w = .ok (.bool (x1 == y1 && x2 == y2)) w ∧
    (binOp .neq 44 (.agg #[.int .i64 x1, .int .i64 x2]) (.agg #[.int .i64 y1, .int .i64 y2])).run Try.prog w = .ok (.bool (!(x1 == y1 && x2 == y2))) w := by
  have hi := Try.underlying3
  refine eql_struct Try.underlying44 held_port _ _ (fun w => ?_) w
  cases h1 : (x1 == y1) <;> cases h2 : (x2 == y2) <;> simp [Op.eqFields, go_sem, part, hi, h1, h2]
theorem port_beq (a b : Port) : (a.e == b.e && a.n == b.n) = decide (a = b) := by
  rw [Bool.eq_iff_iff]; obtain ⟨a1, a2⟩ := a; obtain ⟨b1, b2⟩ := b; simp
theorem eql_port {x y : Port} {b : Bool} (h : decide (x = y) = b) : ∀ w, (binOp .eql 44 (.agg #[.int .i64 x.e, .int .i64 x.n]) (.agg #[.int .i64 y.e, .int .i64 y.n])).run Try.prog w = .ok (.bool b) w := by
  intro w; rw [(eqlI_port _ _ _ _ w).1, port_beq, h]
theorem neq_port {x y : Port} {b : Bool} (h : decide (x = y) = b) : ∀ w, (binOp .neq 44 (.agg #[.int .i64 x.e, .int .i64 x.n]) (.agg #[.int .i64 y.e, .int .i64 y.n])).run Try.prog w = .ok (.bool (!b)) w := by
  intro w; rw [(eqlI_port _ _ _ _ w).2, port_beq, h]
theorem held_join : Try.prog.stoodInHeld 48 = false := by kernel_rfl
theorem eql_join {x y : Join} {b : Bool} (h : decide (x = y) = b) : ∀ w, (binOp .eql 48 (.agg #[.int .i64 x.a.e, .int .i64 x.a.n, .int .i64 x.b.e, .int .i64 x.b.n]) (.agg #[.int .i64 y.a.e, .int .i64 y.a.n, .int .i64 y.b.e, .int .i64 y.b.n])).run Try.prog w = .ok (.bool b) w ∧
    (binOp .neq 48 (.agg #[.int .i64 x.a.e, .int .i64 x.a.n, .int .i64 x.b.e, .int .i64 x.b.n]) (.agg #[.int .i64 y.a.e, .int .i64 y.a.n, .int .i64 y.b.e, .int .i64 y.b.n])).run Try.prog w = .ok (.bool (!b)) w := by
  have hi := Try.underlying3
  have hp := Try.underlying44
  have hh := held_port
  have hb : b = ((x.a.e == y.a.e && x.a.n == y.a.n) && (x.b.e == y.b.e && x.b.n == y.b.n)) := by
    rw [port_beq, port_beq, ← h, Bool.eq_iff_iff]; obtain ⟨a, b⟩ := x; obtain ⟨c, d⟩ := y; simp
  intro w
  refine eql_struct Try.underlying48 held_join _ _ (fun w => ?_) w
  rw [hb]
  cases h1 : (x.a.e == y.a.e) <;> cases h2 : (x.a.n == y.a.n) <;> cases h3 : (x.b.e == y.b.e) <;> cases h4 : (x.b.n == y.b.n) <;> simp [Op.eqFields, go_sem, part, hi, hp, hh, h1, h2, h3, h4]
theorem held_elem : Try.prog.stoodInHeld 42 = false := by kernel_rfl
theorem eql_elem {x y : Elem} {b : Bool} (h : decide (x = y) = b) : ∀ w, (binOp .eql 42 (.agg #[.string x.name, .int .i64 x.kind, .int .i64 x.len]) (.agg #[.string y.name, .int .i64 y.kind, .int .i64 y.len])).run Try.prog w = .ok (.bool b) w ∧
    (binOp .neq 42 (.agg #[.string x.name, .int .i64 x.kind, .int .i64 x.len]) (.agg #[.string y.name, .int .i64 y.kind, .int .i64 y.len])).run Try.prog w = .ok (.bool (!b)) w := by
  have hi := Try.underlying3
  have hs := Try.underlying9
  have hb : b = ((x.name.toList == y.name.toList) && (x.kind == y.kind && x.len == y.len)) := by
    rw [str_beq, ← h, Bool.eq_iff_iff]; obtain ⟨a, b, c⟩ := x; obtain ⟨d, e, f⟩ := y; simp
  intro w
  refine eql_struct Try.underlying42 held_elem _ _ (fun w => ?_) w
  rw [hb]
  cases h1 : (x.name.toList == y.name.toList) <;> cases h2 : (x.kind == y.kind) <;> cases h3 : (x.len == y.len) <;> simp [Op.eqFields, go_sem, part, hi, hs, h1, h2, h3]
theorem held_sig : Try.prog.stoodInHeld 46 = false := by kernel_rfl
theorem eql_sig {x y : Sig} {b : Bool} (h : decide (x = y) = b) : ∀ w, (binOp .eql 46 (.agg #[.string x.name, .int .i64 x.at_.e, .int .i64 x.at_.n, .bool x.auto]) (.agg #[.string y.name, .int .i64 y.at_.e, .int .i64 y.at_.n, .bool y.auto])).run Try.prog w = .ok (.bool b) w ∧
    (binOp .neq 46 (.agg #[.string x.name, .int .i64 x.at_.e, .int .i64 x.at_.n, .bool x.auto]) (.agg #[.string y.name, .int .i64 y.at_.e, .int .i64 y.at_.n, .bool y.auto])).run Try.prog w = .ok (.bool (!b)) w := by
  have hi := Try.underlying3
  have hs := Try.underlying9
  have hbo := Try.underlying4
  have hp := Try.underlying44
  have hh := held_port
  have hb : b = ((x.name.toList == y.name.toList) && ((x.at_.e == y.at_.e && x.at_.n == y.at_.n) && (x.auto == y.auto))) := by
    rw [str_beq, port_beq, ← h, Bool.eq_iff_iff]; obtain ⟨a, b, c⟩ := x; obtain ⟨d, e, f⟩ := y; simp
  intro w
  refine eql_struct Try.underlying46 held_sig _ _ (fun w => ?_) w
  rw [hb]
  cases h1 : (x.name.toList == y.name.toList) <;> cases h2 : (x.at_.e == y.at_.e) <;> cases h3 : (x.at_.n == y.at_.n) <;> cases h4 : (x.auto == y.auto) <;> simp [Op.eqFields, go_sem, part, hi, hs, hbo, hp, hh, h1, h2, h3, h4]
end Go.Proofs.Ytlndfmflbdkpjaa
