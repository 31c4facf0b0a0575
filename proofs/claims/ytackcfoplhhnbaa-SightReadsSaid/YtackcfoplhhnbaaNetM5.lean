/- Walks of semaphoreref6.LineOf and Lead; contracts of net.Net's methods that end in Below. Condition: the plan is read (Lead: and is valid). -/
import Derived.Test.YtackcfoplhhnbaaNetM3
import Derived.Test.YtackcfoplhhnbaaNetM4
import Derived.Test.YtackcfoplhhnbaaRefC9
set_option maxRecDepth 1000000
namespace Go.Proofs.Ytackcfoplhhnbaa
open Go.ChangeShapes Go.WideShapes Go.ChangeAt Go.RowKit Go.Sort

theorem line_hit {j k : Nat} {L : List Line} {l : Line} {e : Int} (hl : L[j]? = some l) (h : posIn 0 l.elems e = some k) : lineFrom j (L.drop j) e = some (j, k) := by
  rw [drop_cons hl, lineFrom, h]
theorem line_miss {j : Nat} {L : List Line} {l : Line} {e : Int} (hl : L[j]? = some l) (h : posIn 0 l.elems e = none) : lineFrom j (L.drop j) e = lineFrom (j + 1) (L.drop (j + 1)) e := by
  rw [drop_cons hl, lineFrom, h]
theorem pos_hit {j : Nat} {L : List Int} {x e : Int} (hl : L[j]? = some x) (h : x = e) : posIn j (L.drop j) e = some j := by
  rw [drop_cons hl, posIn, if_pos h]
theorem pos_miss {j : Nat} {L : List Int} {x e : Int} (hl : L[j]? = some x) (h : x ≠ e) : posIn j (L.drop j) e = posIn (j + 1) (L.drop (j + 1)) e := by
  rw [drop_cons hl, posIn, if_neg h]
theorem nlen_b (w : World) (b : Nat) (p : Plan) (h : NetAt w b p) :
    Calls Try.prog 31 #[.pointer (some ⟨b, 0, none⟩)] w fun e w' => e = .returned (.int .i64 (p.elems.length : Int)) ∧ Below w.heap.size w w' := (nlen_any w b p h).mono fun _ _ ⟨h1, h2⟩ => ⟨h1, by rw [← h2]; exact Below.refl _ _⟩
theorem nsignals_b (w : World) (b : Nat) (p : Plan) (h : NetAt w b p) :
    Calls Try.prog 45 #[.pointer (some ⟨b, 0, none⟩)] w fun e w' => e = .returned (.int .i64 (p.sigs.length : Int)) ∧ Below w.heap.size w w' := (nsignals_any w b p h).mono fun _ _ ⟨h1, h2⟩ => ⟨h1, by rw [← h2]; exact Below.refl _ _⟩
theorem enters_line {p : Plan} (g : Good p) {x : Line} (hm : x ∈ p.lines) : enters p x.elems = some (leadList (nextOf p) x.elems) := by
  apply enters_lead
  have hr := g.lines.2.2 x hm
  unfold entersOk
  simp only [Bool.and_eq_true, decide_eq_true_eq]
  refine ⟨⟨hr.1, ?_⟩, hr.2⟩
  rw [List.all_eq_true]
  intro y hy
  rw [kind_inLine]
  exact g.lines.2.1 y (by simp only [flatLines, List.mem_flatMap]; exact ⟨x, hm, hy⟩)
theorem lead_no {p : Plan} {e i : Int} (h : lineOf p e = none) : lead p e i = 0 := by
  have := lineFrom_none.1 h
  unfold lead
  rw [leadIn_none.2 this]
theorem lead_out {p : Plan} (g : Good p) {e i : Int} {q : Nat × Nat} (h : lineOf p e = some q) (hp : isPort p ⟨e, i⟩ = false) : lead p e i = 0 := by
  rw [← refLead_eq g]
  unfold refLead
  rw [h]
  simp [hp]
theorem lead_in {p : Plan} (g : Good p) {e i : Int} {a k : Nat} (h : lineOf p e = some (a, k)) (hp : isPort p ⟨e, i⟩ = true) : ∃ (x : Line) (u : Int), p.lines[a]? = some x ∧ (leadList (nextOf p) x.elems)[k]? = some u ∧ k < x.elems.length ∧ lead p e i = if u = i then 1 else 2 := by
  obtain ⟨_, x, hx, hk⟩ := lineFrom_get h
  rw [Nat.sub_zero] at hx
  obtain ⟨_, h2, h3⟩ := lines_at g hx hk
  obtain ⟨u, h01, hu, _⟩ := leads_law g hx hk
  refine ⟨x, u, hx, by rw [← h2]; exact hu, (List.getElem?_eq_some_iff.1 hk).1, ?_⟩
  unfold lead
  rw [hu]
  simp only
  rw [if_neg]
  have hi := isPort_iff.1 hp
  have ht : p.kind e = 1 := by have := h3; rw [← kind_inLine] at this; simpa using this
  have h4 : i < ends (p.kind e) := hi.2.2.2
  have h5 : 0 ≤ i := hi.2.2.1
  rw [ht, show ends 1 = 2 from rfl] at h4
  omega
end Go.Proofs.Ytackcfoplhhnbaa
