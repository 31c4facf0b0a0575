/- Arguments that can be read as data, opened to rows of memory. -/
import Derived.Test.YtkklnaejpgcgoaaBase
import Derived.ProofKit
import Derived.OpenShut
import Derived.ShutString
import Derived.ChangeOld
import Derived.Deep.Slices
import Derived.Deep.Fields
import Derived.ChangeSame
namespace Go.Proofs.Ytkklnaejpgcgoaa
open Go.ChangeShapes Go.WideShapes Go.ChangeAt Go.RowKit Go.Deep

theorem own : ownKnob Try.prog.godebug = none := by kernel_rfl
theorem laidOut : laidOutB Try.prog = true := by kernel_rfl

section
variable {H : Type} {enc : TypeId × Value → H} {w : World}

/-- an address at which cells can be read is a plain one -/
theorem plain_addr {x : Addr} {v : Value} (h : w.cell? x = some v) : ∃ b off, x = ⟨b, off, none⟩ ∧ b < w.heap.size := by
  obtain ⟨b, off, spot⟩ := x
  unfold World.cell? at h
  cases hb : w.heap[b]? with
  | none => simp [hb] at h
  | some o =>
    have hlt : b < w.heap.size := (Array.getElem?_eq_some_iff.1 hb).1
    cases spot with
    | none => exact ⟨b, off, rfl, hlt⟩
    | some s => cases o <;> simp [hb] at h

/-- A slice whose elements can each be opened: it reads as a row. -/
theorem open_row {α : Type} {sz : Nat} {rd : α → List Value} {Q : α → Prop} {t e : TypeId} (ht : Try.prog.underlying t = some (.slice e)) (hsz : Try.prog.cellsOf e = sz) (h0 : 0 < sz) (hlen : ∀ x, (rd x).length = sz)
    (hel : ∀ (n : Nat) (cs : List Value) (y : DataW H × List MemPlace), DataW.trod enc Try.prog w 0 (fun _ => true) true n e cs = some y → ∃ x : α, cs = rd x ∧ Q x)
    {v : Value} {d : DataW H} {p : List MemPlace} {r : Reach} {b0 : Nat} (hv : Value.okWide Try.prog w r b0 t v) (h : DataW.Trod enc Try.prog w 0 (fun _ => true) true t v d p) :
    ∃ a n c xs, v = .slice a n c ∧ Row sz rd w a n xs ∧ (∀ x ∈ xs, Q x) ∧ (a = none → c = 0) ∧ n ≤ c := by
  obtain ⟨a, n, c, rfl⟩ := okWide_slice ht hv
  obtain ⟨fuel, hf⟩ := h
  rcases open_slice ht hf with ⟨hcs, _⟩ | ⟨ad, len, cap, m, k, D, Pl, hcs, _, hl, hm, hmm, _, hi⟩
  · simp [Value.cells] at hcs
    obtain ⟨rfl, rfl, rfl⟩ := hcs
    exact ⟨none, 0, 0, [], rfl, Row.nil _ _, by simp, fun _ => rfl, Nat.le_refl _⟩
  · simp [Value.cells] at hcs
    obtain ⟨rfl, rfl, rfl⟩ := hcs
    simp only [if_true] at hmm
    subst hmm
    have hx : ∀ i, i < n → ∃ x : α, Q x ∧ ∀ j u, (rd x)[j]? = some u → w.cell? (ad.add (i * sz + j)) = some u := by
      intro i hin
      obtain ⟨cs', hc, ht'⟩ := hi i (by omega)
      obtain ⟨x, rfl, hq⟩ := hel _ _ _ ht'
      rw [hsz] at hc
      obtain ⟨_, hcl, hat⟩ := World.cells?_some hc
      refine ⟨x, hq, fun j u hu => ?_⟩
      have hj : j < sz := by have := (List.getElem?_eq_some_iff.1 hu).1; rwa [hlen] at this
      rw [← Go.Deep.add_add, hat j hj, hu]
    have hxs : ∃ xs : List α, xs.length = n ∧ (∀ x ∈ xs, Q x) ∧ ∀ i x, xs[i]? = some x → ∀ j u, (rd x)[j]? = some u → w.cell? (ad.add (i * sz + j)) = some u := by
      have key : ∀ k, k ≤ n → ∃ xs : List α, xs.length = k ∧ (∀ x ∈ xs, Q x) ∧ ∀ i x, xs[i]? = some x → ∀ j u, (rd x)[j]? = some u → w.cell? (ad.add (i * sz + j)) = some u := by
        intro k
        induction k with
        | zero => intro _; exact ⟨[], rfl, by simp, fun i x hx => by simp at hx⟩
        | succ k ih =>
          intro hk
          obtain ⟨xs, h1, h2, h3⟩ := ih (by omega)
          obtain ⟨x, hq, hc⟩ := hx k (by omega)
          refine ⟨xs ++ [x], by simp [h1], fun y hy => ?_, fun i y hy => ?_⟩
          · rcases List.mem_append.1 hy with hy | hy
            · exact h2 y hy
            · simp at hy; subst hy; exact hq
          · rcases Nat.lt_or_ge i xs.length with hil | hil
            · rw [List.getElem?_append_left hil] at hy; exact h3 i y hy
            · rw [List.getElem?_append_right hil] at hy
              have : i - xs.length = 0 := by have := (List.getElem?_eq_some_iff.1 hy).1; simp at this; omega
              rw [this] at hy; simp at hy; subst hy
              have hik : i = k := by omega
              subst hik; exact hc
      exact key n (Nat.le_refl _)
    obtain ⟨xs, h1, h2, h3⟩ := hxs
    refine ⟨some ad, n, m, xs, rfl, ⟨h1, by simp only [maxLen] at hm; omega, fun i x hxi => ?_⟩, h2, fun h => (by cases h), hl⟩
    have hr : 0 < (rd x).length := by rw [hlen]; exact h0
    have hc0 := h3 i x hxi 0 _ (List.getElem?_eq_getElem hr)
    obtain ⟨b, off, hb, hlt⟩ := plain_addr hc0
    have hsp : ∃ b off, ad = ⟨b, off, none⟩ ∧ b < w.heap.size := by
      unfold Addr.add at hb
      split at hb
      · exact ⟨b, off, hb, hlt⟩
      · -- the first cell of the row itself
        have h00 : ∃ x0, xs[0]? = some x0 := ⟨xs[0]'(by have := (List.getElem?_eq_some_iff.1 hxi).1; omega), List.getElem?_eq_getElem _⟩
        obtain ⟨x0, hx0⟩ := h00
        have hr0 : 0 < (rd x0).length := by rw [hlen]; exact h0
        have hc00 := h3 0 x0 hx0 0 _ (List.getElem?_eq_getElem hr0)
        rw [Nat.zero_mul, Nat.zero_add] at hc00
        unfold Addr.add at hc00
        rw [if_pos rfl] at hc00
        exact plain_addr hc00
    obtain ⟨b', off', rfl, hlt'⟩ := hsp
    refine ⟨b', off', rfl, hlt', fun j u hu => ?_⟩
    have := h3 i x hxi j u hu
    rwa [Addr.add_lit, ← Nat.add_assoc] at this

/-- []int -/
theorem open_Ints {v : Value} {d : DataW H} {p : List MemPlace} {r : Reach} {b0 : Nat} (hv : Value.okWide Try.prog w r b0 22 v) (h : DataW.Trod enc Try.prog w 0 (fun _ => true) true 22 v d p) :
    ∃ a n c xs, v = .slice a n c ∧ Ints w a n xs ∧ (∀ x ∈ xs, -9223372036854775808 ≤ x ∧ x ≤ 9223372036854775807) ∧ (a = none → c = 0) ∧ n ≤ c :=
  open_row (sz := 1) Try.underlying22 (by kernel_rfl) (by decide) (fun _ => rfl) (fun n cs y hy => by
    obtain ⟨x, rfl, _, hw⟩ := DataW.trod_int Try.underlying3 hy
    exact ⟨x, rfl, by simp [Lit.wf, IntKind.min, IntKind.max, IntKind.signed, IntKind.bits] at hw; omega⟩) hv h
end
end Go.Proofs.Ytkklnaejpgcgoaa
