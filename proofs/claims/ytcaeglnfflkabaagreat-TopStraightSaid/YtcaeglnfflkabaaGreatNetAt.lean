/- A net in memory: what it holds. No condition beyond what is read. -/
import Derived.Test.YtcaeglnfflkabaaGreatNetW1
import Derived.Test.YtcaeglnfflkabaaGreatUptoMap
import Derived.Test.YtcaeglnfflkabaaGreatPure
set_option maxRecDepth 1000000
namespace Go.Proofs.YtcaeglnfflkabaaGreat
open Go.ChangeShapes Go.WideShapes Go.ChangeAt Go.RowKit Go.Sort

def natVal (i : Nat) : Value := .int .i64 (i : Int)
def intVal (i : Int) : Value := .int .i64 i
def pairVal (q : Nat × Nat) : Value := .agg #[.int .i64 (q.1 : Int), .int .i64 (q.2 : Int)]
/-- block b holds a net with the plan's slices v and the maps b1 .. b4 -/
def NetBlock (w : World) (b : Nat) (v : PV) (p : Plan) (b1 b2 b3 b4 : Nat) : Prop := w.heap[b]? = some (.cells #[.slice v.ae v.ne v.ce, .slice v.aj v.nj v.cj, .slice v.as_ v.ns v.cs, .slice v.al v.nl v.cl, .int .i64 p.top, .int .i64 p.brake, .int .i64 p.margin, .int .i64 p.throw, .bool p.hard,
  .map (some b1), .map (some b2), .map (some b3), .map (some b4)] 92)
section
variable {w w' : World} {b b1 b2 b3 b4 : Nat} {v : PV} {p : Plan}
theorem NetBlock.same (h : NetBlock w b v p b1 b2 b3 b4) (hb : w'.heap[b]? = w.heap[b]?) : NetBlock w' b v p b1 b2 b3 b4 := Eq.trans hb h
theorem NetBlock.lt (h : NetBlock w b v p b1 b2 b3 b4) : b < w.heap.size := (Array.getElem?_eq_some_iff.1 h).1
theorem NetBlock.alloc (h : NetBlock w b v p b1 b2 b3 b4) (o : Obj) : NetBlock (w.alloc o) b v p b1 b2 b3 b4 := h.same (Below.heap_alloc w o b h.lt)
theorem NetBlock.grown (h : NetBlock w b v p b1 b2 b3 b4) {row : Option Nat} (hg : w.grownBy w' row) (hr : some b ≠ row) : NetBlock w' b v p b1 b2 b3 b4 := h.same (hg.block b h.lt hr)
theorem NetBlock.cell0 (h : NetBlock w b v p b1 b2 b3 b4) : w.cell? ⟨b, 0, none⟩ = some (.slice v.ae v.ne v.ce) := by rw [cell_of_row w b 0 _ _ (0, 0) h]; rfl
theorem NetBlock.cell1 (h : NetBlock w b v p b1 b2 b3 b4) : w.cell? ⟨b, 1, none⟩ = some (.slice v.aj v.nj v.cj) := by rw [cell_of_row w b 1 _ _ (0, 0) h]; rfl
theorem NetBlock.cell2 (h : NetBlock w b v p b1 b2 b3 b4) : w.cell? ⟨b, 2, none⟩ = some (.slice v.as_ v.ns v.cs) := by rw [cell_of_row w b 2 _ _ (0, 0) h]; rfl
theorem NetBlock.cell3 (h : NetBlock w b v p b1 b2 b3 b4) : w.cell? ⟨b, 3, none⟩ = some (.slice v.al v.nl v.cl) := by rw [cell_of_row w b 3 _ _ (0, 0) h]; rfl
theorem NetBlock.cell4 (h : NetBlock w b v p b1 b2 b3 b4) : w.cell? ⟨b, 4, none⟩ = some (.int .i64 p.top) := by rw [cell_of_row w b 4 _ _ (0, 0) h]; rfl
theorem NetBlock.cell5 (h : NetBlock w b v p b1 b2 b3 b4) : w.cell? ⟨b, 5, none⟩ = some (.int .i64 p.brake) := by rw [cell_of_row w b 5 _ _ (0, 0) h]; rfl
theorem NetBlock.cell6 (h : NetBlock w b v p b1 b2 b3 b4) : w.cell? ⟨b, 6, none⟩ = some (.int .i64 p.margin) := by rw [cell_of_row w b 6 _ _ (0, 0) h]; rfl
theorem NetBlock.cell7 (h : NetBlock w b v p b1 b2 b3 b4) : w.cell? ⟨b, 7, none⟩ = some (.int .i64 p.throw) := by rw [cell_of_row w b 7 _ _ (0, 0) h]; rfl
theorem NetBlock.cell8 (h : NetBlock w b v p b1 b2 b3 b4) : w.cell? ⟨b, 8, none⟩ = some (.bool p.hard) := by rw [cell_of_row w b 8 _ _ (0, 0) h]; rfl
theorem NetBlock.cell9 (h : NetBlock w b v p b1 b2 b3 b4) : w.cell? ⟨b, 9, none⟩ = some (.map (some b1)) := by rw [cell_of_row w b 9 _ _ (0, 0) h]; rfl
theorem NetBlock.cell10 (h : NetBlock w b v p b1 b2 b3 b4) : w.cell? ⟨b, 10, none⟩ = some (.map (some b2)) := by rw [cell_of_row w b 10 _ _ (0, 0) h]; rfl
theorem NetBlock.cell11 (h : NetBlock w b v p b1 b2 b3 b4) : w.cell? ⟨b, 11, none⟩ = some (.map (some b3)) := by rw [cell_of_row w b 11 _ _ (0, 0) h]; rfl
theorem NetBlock.cell12 (h : NetBlock w b v p b1 b2 b3 b4) : w.cell? ⟨b, 12, none⟩ = some (.map (some b4)) := by rw [cell_of_row w b 12 _ _ (0, 0) h]; rfl
theorem NetBlock.box (h : NetBlock w b v p b1 b2 b3 b4) : PBox w b v p := ⟨h.lt, h.cell0, h.cell1, h.cell2, h.cell3, h.cell4, h.cell5, h.cell6, h.cell7, h.cell8⟩
end
theorem few_same {w w' : World} {pv qv : PV} {p : Plan} (h : PlanAt w pv p) (hf : FewOk pv) (h' : PlanAt w' qv p) : FewOk qv := by
 obtain ⟨f1, f2, f3, f4, f5⟩ := hf
 refine ⟨by rw [← h'.e.len, h.e.len]; exact f1, by rw [← h'.j.len, h.j.len]; exact f2, by rw [← h'.s.len, h.s.len]; exact f3, ?_, fun x hx => ?_⟩
 ·have e1 : pv.lv.length = pv.nl := h.l.row.len
  have e2 : qv.lv.length = qv.nl := h'.l.row.len
  have e3 : (pv.lv.map LineV.line).length = (qv.lv.map LineV.line).length := by rw [← h.lp, ← h'.lp]
  simp only [List.length_map] at e3
  omega
 ·have hm : x.line ∈ pv.lv.map LineV.line := by rw [← h.lp, h'.lp]; exact List.mem_map.2 ⟨x, hx, rfl⟩
  obtain ⟨y, hy, hyx⟩ := List.mem_map.1 hm
  have e1 : y.elems.length = y.n := (h.l.ints y hy).len
  have e2 : x.elems.length = x.n := (h'.l.ints x hx).len
  have e3 : y.elems = x.elems := congrArg Line.elems hyx
  have e4 := f5 y hy
  rw [e3] at e1
  omega
/-- block b of w holds the net of p: its plan's slices v, its maps bn br bl bd -/
structure NetIs (w : World) (b : Nat) (p : Plan) (v : PV) (bn br bl bd : Nat) : Prop where
 blk : NetBlock w b v p bn br bl bd
 plan : PlanAt w v p
 few : FewOk v
 next : MapOf portCode Port.val w 43 bn 1000 (nextOf p)
 reads : MapOf portCode natVal w 43 br 1000 (posP 0 (p.sigs.map (·.at_)))
 line : MapOf intCode pairVal w 3 bl 2000 (lineOf p)
 lead : MapOf intCode intVal w 3 bd 2000 (leadIn (nextOf p) p.lines)
 ok : chk p = 0
theorem NetIs.below {w w' : World} {b : Nat} {p : Plan} {v : PV} {bn br bl bd : Nat} (h : NetIs w b p v bn br bl bd) (hb : Below w.heap.size w w') : NetIs w' b p v bn br bl bd :=
 ⟨h.blk.same (hb.block b h.blk.lt), h.plan.below hb, h.few, h.next.below hb h.next.lt, h.reads.below hb h.reads.lt, h.line.below hb h.line.lt, h.lead.below hb h.lead.lt, h.ok⟩
def NetAt (w : World) (b : Nat) (p : Plan) : Prop := ∃ (v : PV) (bn br bl bd : Nat), NetIs w b p v bn br bl bd
theorem NetAt.below {w w' : World} {b : Nat} {p : Plan} (h : NetAt w b p) (hb : Below w.heap.size w w') : NetAt w' b p := by
 obtain ⟨v, bn, br, bl, bd, h⟩ := h
 exact ⟨v, bn, br, bl, bd, h.below hb⟩
theorem NetAt.ok {w : World} {b : Nat} {p : Plan} (h : NetAt w b p) : chk p = 0 := by
 obtain ⟨v, bn, br, bl, bd, h⟩ := h
 exact h.ok
def NewPost (w : World) (p : Plan) (e : Ending) (w' : World) : Prop :=
 (chk p ≠ 0 ∧ e = .returned (.tuple #[.pointer none, .int .i64 (chk p)]) ∧ Below w.heap.size w w') ∨ (chk p = 0 ∧ ∃ b, e = .returned (.tuple #[.pointer (some ⟨b, 0, none⟩), .int .i64 0]) ∧ w.heap.size ≤ b ∧ NetAt w' b p ∧ Below w.heap.size w w')
theorem zero_int' (w : World) : (zeroValue 3).run Tryz.prog w = .ok (.int .i64 0) w := by kernel_rfl
theorem zero_pair (w : World) : (zeroValue 97).run Tryz.prog w = .ok (.agg #[.int .i64 0, .int .i64 0]) w := by kernel_rfl
theorem run_fend (a b : Int) (w : World) : (Instr.field 43 (.agg #[.int .i64 a, .int .i64 b]) 1).run Tryz.prog w = .ok (.int .i64 b) w := by kernel_rfl
end Go.Proofs.YtcaeglnfflkabaaGreat
