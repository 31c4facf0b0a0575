/- Plain laws that the walks of chapters 5 and 6 use: the references' Turn and Back, and that ports of a valid plan are ints. No condition. -/
import Derived.Test.YtackcfoplhhnbaaNetPlit
namespace Go.Proofs.Ytackcfoplhhnbaa

/-- semaphoreref6.Turn and Back -/
def refTurn6 (p : Plan) (pos : List Int) (h : Port) : Option Port := (fromRef p h.e h.n (refLies pos h.e)).map fun i => ⟨h.e, i⟩
theorem refTurn6_eq (p : Plan) (pos : List Int) (h : Port) : refTurn6 p pos h = turn p pos h := by
  unfold refTurn6 turn refLies
  rw [fromRef_eq, through_lies]
theorem elems_few {p : Plan} (h : chk p = 0) : p.elems.length ≤ 40 := by
  have := (chk_zero h).1
  unfold tooMuch at this
  simp only [Bool.or_eq_false_iff, decide_eq_false_iff_not] at this
  omega
theorem port_wf {p : Plan} (g : Good p) {x : Port} (hx : isPort p x = true) : x.wf := by
  obtain ⟨h1, h2, h3, h4⟩ := isPort_iff.1 hx
  have := elems_few g.chk
  have := ends_nonneg (p.kind x.e)
  exact ⟨inI_mk (by omega) (by omega), inI_mk (by omega) (by omega)⟩
theorem next_wf {p : Plan} (g : Good p) {x y : Port} (h : nextOf p x = some y) : y.wf := port_wf g (g.ports h).2
theorem step_wf {p : Plan} (g : Good p) {pos : List Int} {h x : Port} (hs : step p pos h = (x, 0)) : x.wf := port_wf g (step_port g hs)
theorem through_wf {p : Plan} {e i pos o : Int} (h : through p e i pos = some o) : inI o := by
  have h2 := through_range (through_back h)
  have := ends_nonneg (p.kind e)
  exact inI_mk (by omega) (by omega)
theorem turn_wf {p : Plan} {pos : List Int} {h t : Port} (hw : h.wf) (ht : turn p pos h = some t) : t.wf := by
  unfold turn at ht
  cases h1 : through p h.e h.n (lies pos h.e) with
  | none => simp [h1] at ht
  | some i =>
    simp only [h1, Option.map_some, Option.some.injEq] at ht
    subst ht
    exact ⟨hw.1, through_wf h1⟩
theorem back_wf {p : Plan} (g : Good p) {pos : List Int} {h b : Port} (hb : back p pos h = some b) : b.wf := by
  unfold back at hb
  cases h1 : turn p pos h with
  | none => simp [h1] at hb
  | some t => simp only [h1, Option.bind_some] at hb; exact next_wf g hb
end Go.Proofs.Ytackcfoplhhnbaa
