/- Acts among the arguments of the laws of chapter 13. No condition. -/
import Derived.Test.YtlgekkffekagbaaFieldL2
set_option maxRecDepth 1000000
namespace Go.Proofs.Ytlgekkffekagbaa
open Go.ChangeShapes Go.WideShapes Go.ChangeAt Go.RowKit Go.Sort Go.Deep

section
variable {H : Type} {enc : TypeId × Value → H} {w : World}
theorem cells_act : Try.prog.cellsOf 48 = 4 := by kernel_rfl
theorem cells_ints1 : Try.prog.cellsOf 28 = 1 := by kernel_rfl
theorem trod_act {n : Nat} {cs : List Value} {y : DataW H × List MemPlace} (hy : DataW.trod enc Try.prog w 0 (fun _ => true) true n 48 cs = some y) : ∃ x : ActV, cs = encAct x ∧ Ints w x.a x.n x.l := by
  obtain ⟨xs, m, _, _, hl, hxl, hf⟩ := DataW.trod_struct Try.underlying48 hy
  rw [cells_act] at hl
  have hxl : xs.length = 4 := hxl
  match cs, hl with
  | [c0, c1, c2, c3], _ =>
    match xs, hxl with
    | [y0, y1, y2, y3], _ =>
      have f0 : DataW.trod enc Try.prog w 0 (fun _ => true) true m 3 [c0] = some y0 := by have := hf 0 _ rfl; simpa [cells_int] using this
      have f1 : DataW.trod enc Try.prog w 0 (fun _ => true) true m 3 [c1] = some y1 := by have := hf 1 _ rfl; simpa [cells_int] using this
      have f2 : DataW.trod enc Try.prog w 0 (fun _ => true) true m 4 [c2] = some y2 := by have := hf 2 _ rfl; simpa [cells_bool] using this
      have f3 : DataW.trod enc Try.prog w 0 (fun _ => true) true m 28 [c3] = some y3 := by have := hf 3 _ rfl; simpa [cells_ints1] using this
      obtain ⟨a, e0, w0⟩ := trod_i f0
      obtain ⟨b, e1, w1⟩ := trod_i f1
      obtain ⟨d, e2⟩ := trod_b f2
      obtain ⟨ad, k, c, l, e3, h1, h2, h3, _⟩ := trod_ints f3
      simp only [List.cons.injEq, and_true] at e0 e1 e2 e3
      subst e0; subst e1; subst e2; subst e3
      exact ⟨⟨a, b, d, ad, k, c, l⟩, rfl, h1⟩
theorem open_acts {v : Value} {d : DataW H} {p : List MemPlace} {r : Reach} {b0 : Nat} (hv : Value.okWide Try.prog w r b0 41 v) (h : DataW.Trod enc Try.prog w 0 (fun _ => true) true 41 v d p) :
    ∃ a n c xs, v = .slice a n c ∧ Acts w a n xs := by
  obtain ⟨a, n, c, xs, rfl, hr, hq, _, _⟩ := open_row (sz := 4) (rd := encAct) (Q := fun x => Ints w x.a x.n x.l) Try.underlying41 cells_act (by decide) encAct_len (fun n cs y hy => trod_act hy) hv h
  exact ⟨a, n, c, xs, rfl, hr, hq⟩
theorem open_Bools {v : Value} {d : DataW H} {p : List MemPlace} {r : Reach} {b0 : Nat} (hv : Value.okWide Try.prog w r b0 42 v) (h : DataW.Trod enc Try.prog w 0 (fun _ => true) true 42 v d p) :
    ∃ a n c xs, v = .slice a n c ∧ Bools w a n xs := by
  obtain ⟨a, n, c, xs, rfl, hr, _, _, _⟩ := open_row (sz := 1) (rd := encBool) (Q := fun _ => True) Try.underlying42 cells_bool (by decide) (fun _ => rfl) (fun n cs y hy => by obtain ⟨x, e⟩ := trod_b hy; exact ⟨x, e, trivial⟩) hv h
  exact ⟨a, n, c, xs, rfl, hr⟩
end
theorem fewActs_le {n : Nat} {xs : List ActV} (h : fewActs n xs = true) : n ≤ 60 := by
  unfold fewActs at h; simp at h; exact h.1
theorem not_mine {tb lo hi N g : Nat} (h1 : g ≠ tb) (h2 : hi ≤ g) (h3 : g < N) : ¬ (Mine tb lo hi g ∨ N ≤ g) := by
  unfold Mine; omega
theorem mine_to {tb tb' lo hi N k : Nat} (h : tb' = tb ∨ N ≤ tb') (hk : Mine tb' lo hi k) : Mine tb lo hi k ∨ N ≤ k := by
  rcases hk with rfl | hk
  · rcases h with rfl | h
    · exact .inl (.inl rfl)
    · exact .inr h
  · exact .inl (.inr hk)

section
variable {M : Nat} {w : World} {b nb : Nat} {R : RB} {lo hi : Nat} {pv : PV} {p : Plan} {f : Fld} {n : Nat}
def SlI (w : World) (n : Nat) (l : List Int) (e : Ending) (w' : World) : Prop := ∃ g c, e = .returned (.slice (some ⟨g, 0, none⟩) n c) ∧ Ints w' (some ⟨g, 0, none⟩) n l ∧ Below w.heap.size w w' ∧ w.heap.size ≤ g
def SlB (w : World) (n : Nat) (l : List Bool) (e : Ending) (w' : World) : Prop := ∃ g c, e = .returned (.slice (some ⟨g, 0, none⟩) n c) ∧ Bools w' (some ⟨g, 0, none⟩) n l ∧ Below w.heap.size w w' ∧ w.heap.size ≤ g
theorem pos_n (hn : p.elems.length = n) (hk : NetAt w nb p) (hf : FldAt w b nb p f) : Calls Try.prog 14 #[.pointer (some ⟨b, 0, none⟩)] w (SlI w n (f.pos p)) := by
  subst hn
  exact (pos_any w b nb p f hk hf).mono fun e w' ⟨g, h1, h2, h3⟩ => ⟨g, _, h1, (own_ints h2).1, h3, (own_shape' h2).1⟩
theorem told_n (hn : p.elems.length = n) (hk : NetAt w nb p) (hf : FldAt w b nb p f) : Calls Try.prog 22 #[.pointer (some ⟨b, 0, none⟩)] w (SlI w n (f.told p)) := by
  subst hn
  exact (told_any w b nb p f hk hf).mono fun e w' ⟨g, h1, h2, h3⟩ => ⟨g, _, h1, (own_ints h2).1, h3, (own_shape' h2).1⟩
theorem occ_n (hn : p.elems.length = n) (hk : NetAt w nb p) (hf : FldAt w b nb p f) {a : Option Addr} {n2 c2 : Nat} {real : List Bool} (hr : Bools w a n2 real) : Calls Try.prog 25 #[.pointer (some ⟨b, 0, none⟩), .slice a n2 c2] w (SlB w n (f.occ p real)) := by
  subst hn
  exact (occ_any w b nb p f hk hf a n2 c2 real hr).mono fun e w' ⟨g, h1, h2, h3⟩ => ⟨g, _, h1, (own_bools h2).1, h3, (own_shape' h2).1⟩
theorem lamps_n (hn : p.sigs.length = n) (hk : NetAt w nb p) (hf : FldAt w b nb p f) {a : Option Addr} {n2 c2 : Nat} {l : List Int} (hr : Ints w a n2 l) : Calls Try.prog 27 #[.pointer (some ⟨b, 0, none⟩), .slice a n2 c2] w (SlI w n (f.lamps p l)) := by
  subst hn
  exact (lamps_any w b nb p f hk hf a n2 c2 l hr).mono fun e w' ⟨g, h1, h2, h3⟩ => ⟨g, _, h1, (own_ints h2).1, h3, (own_shape' h2).1⟩
theorem reflie_n (hn : p.elems.length = n) (hP : Pair M w b nb R lo hi pv p f) : Ints w (some ⟨R.g1, 0, none⟩) n (f.pos p) := by
  have := (own_ints hP.ref.lie).1
  rw [refOf_len, hn, ref_pos] at this; exact this
theorem reftold_n (hn : p.elems.length = n) (hP : Pair M w b nb R lo hi pv p f) : Calls Try.prog 23 #[.pointer (some ⟨R.b, 0, none⟩)] w (SlI w n (f.told p)) := by
  have h := elems_le hP.k.ok
  have := reftold_any w R lo hi pv p (refOf p f) hP.ref (by rw [refOf_len]; omega) (by rw [refOf_len]; omega)
  rw [refOf_len, hn, ref_told] at this
  exact this.mono fun e w' ⟨g, c, h1, h2, h3⟩ => ⟨g, c, h1, (own_ints h2).1, h3, (own_shape' h2).1⟩
theorem refocc_n (hn : p.elems.length = n) (hP : Pair M w b nb R lo hi pv p f) {a : Option Addr} {n2 c2 : Nat} {real : List Bool} (hr : Bools w a n2 real) : Calls Try.prog 26 #[.pointer (some ⟨R.b, 0, none⟩), .slice a n2 c2] w (SlB w n (f.occ p real)) := by
  have h := elems_le hP.k.ok
  have := refocc_any w R lo hi pv p (refOf p f) hP.ref hP.k.pl hP.len (by rw [refOf_len]; omega) (by rw [refOf_len]; omega) a n2 c2 real hr
  rw [refOf_len, hn, ref_occ] at this
  exact this.mono fun e w' ⟨g, c, h1, h2, h3⟩ => ⟨g, c, h1, (own_bools h2).1, h3, (own_shape' h2).1⟩
theorem reflamps_n (hn : p.sigs.length = n) (hP : Pair M w b nb R lo hi pv p f) {a : Option Addr} {n2 c2 : Nat} {l : List Int} (hr : Ints w a n2 l) : Calls Try.prog 28 #[.pointer (some ⟨R.b, 0, none⟩), .slice a n2 c2] w (SlI w n (f.lamps p l)) := by
  have h := elems_le hP.k.ok
  have := reflamps_any w R lo hi pv p (refOf p f) hP.ref (by rw [refOf_dark hP.k.ok hP.fld.ok]; omega) a n2 c2 l hr
  rw [refOf_dark hP.k.ok hP.fld.ok, hn, ref_lamps hP.k.ok hP.fld.ok] at this
  exact this.mono fun e w' ⟨g, h1, h2, h3⟩ => ⟨g, _, h1, (own_ints h2).1, h3, (own_shape' h2).1⟩
end
end Go.Proofs.Ytlgekkffekagbaa
