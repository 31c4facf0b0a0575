/- Walk of plan.lines. No condition beyond the plan that is read, the map of its joins, and what the earlier checks have shown of it. -/
import Derived.Test.YtlgekkffekagbaaPlanW8
set_option maxRecDepth 1000000
namespace Go.Proofs.Ytlgekkffekagbaa
open Go.RowKit

theorem track_no {p : Plan} {met : List Int} {e : Int} {r : List Int} {q : Bool} (hr : tracksGo p met (e :: r) = q) (h : inLine p e = false ∨ e ∈ met) : q = false := by
  rw [← hr, tracksGo]; rcases h with h | h <;> simp [h]
theorem track_yes {p : Plan} {met : List Int} {e : Int} {r : List Int} {q : Bool} (hr : tracksGo p met (e :: r) = q) (h1 : inLine p e = true) (h2 : e ∉ met) : tracksGo p (met ++ [e]) r = q := by
  rw [← hr, tracksGo]; simp [h1, h2]
theorem and3_no {a T R L : Bool} (h : a = (T && R && L)) (ht : T = false) : a = false := by rw [h, ht]; rfl
def metOf (lv : List LineV) : List Int := lv.flatMap (·.elems)
theorem met_take {lv : List LineV} {j : Nat} {y : LineV} (h : lv[j]? = some y) : metOf (lv.take (j + 1)) = metOf (lv.take j) ++ y.elems := by
  unfold metOf; rw [take_next h, List.flatMap_append]; simp
def linesRest (p : Plan) (lv : List LineV) (j : Nat) : Bool := lineGo p (metOf (lv.take j)) ((lv.drop j).map LineV.line)
theorem rest_step {p : Plan} {lv : List LineV} {j : Nat} {y : LineV} (h : lv[j]? = some y) :
    linesRest p lv j = (decide (y.elems ≠ []) && tracksGo p (metOf (lv.take j)) y.elems && rowOk (nextOf p) y.elems && linesRest p lv (j + 1)) := by
  unfold linesRest
  rw [drop_cons h, List.map_cons, lineGo, met_take h]; rfl
theorem nil_len {α : Type} {xs : List α} {n : Nat} (h : xs.length = n) : decide (xs ≠ []) = decide (n ≠ 0) := by
  subst h; cases xs <;> simp
theorem inLine_of {p : Plan} {e : Int} {z : Elem} (h0 : 0 ≤ e) (h1 : e < p.elems.length) (hz : p.elem e = z) : inLine p e = decide (z.kind = 1) := by
  unfold inLine Plan.kind; rw [hz]; simp [h0, h1]
theorem inLine_out {p : Plan} {e : Int} (h : e < 0 ∨ (p.elems.length : Int) ≤ e) : inLine p e = false := by
  unfold inLine; simp; omega

set_option maxHeartbeats 2000000 in
theorem lines_any (w : World) (pv : PV) (p : Plan) (b : Nat) (h : PlanAt w pv p) (hnx : NextAt w b p) (hn : pv.nl ≤ 1000) (hn2 : ∀ x ∈ pv.lv, x.n ≤ 1000) (hj : joinedOk p = true) :
    Calls Try.prog 77 #[pv.val p, .map (some b)] w fun e w' => e = .returned (.bool (linesOk p)) ∧ Below w.heap.size w w' := by
  obtain ⟨ae, ne, ce, aj, nj, cj, as_, ns, cs, al, nl, cl, lv⟩ := pv
  have he : Elems w ae ne p.elems := h.e
  have hlv : Lines w al nl lv := h.l
  have hfit := Lib.hid h.fit
  have HL := Lib.hid h.lp
  have le := Lib.hid he.len
  have ll := Lib.hid hlv.row.len
  have be := he.bnd
  have bl := hlv.row.bnd
  have hn : nl ≤ 1000 := hn
  have Hn2 := Lib.hid (show ∀ x ∈ lv, x.n ≤ 1000 from hn2); clear hn2
  have Hints := Lib.hid hlv.ints
  have Hports := Lib.hid (show ∀ x ∈ flatJoins p.joins, isPort p x = true by unfold joinedOk at hj; simp only [Bool.and_eq_true] at hj; exact (joinGo_ok _ _ hj.1).2.2)
  have hbw := hnx.lt
  have Hnx := Lib.hid hnx; clear hnx hj
  have Hl0 := Lib.hid (show linesOk p = linesRest p lv 0 by unfold linesOk linesRest; rw [HL.out]; rfl)
  have HB := Lib.hid ((pbox_new w ⟨ae, ne, ce, aj, nj, cj, as_, ns, cs, al, nl, cl, lv⟩ p).alloc (.map #[] 0))
  have Hm := Lib.hid (made_at intCode Value.bool (w.alloc (.cells #[.slice ae ne ce, .slice aj nj cj, .slice as_ ns cs, .slice al nl cl, .int .i64 p.top, .int .i64 p.brake, .int .i64 p.margin, .int .i64 p.throw, .bool p.hard] 27)) 3 (b := w.heap.size + 1) (by simp) (m := seenIn (metOf (lv.take 0))) (fun _ => rfl))
  have hmm := @run_makeMap Try.prog
  clear h
  dsimp only [PV.val]
  go_enter Try.func77, Try.ntmps77
  go_wp2_with fail
  clear hmm
  go_loopg [14] nl (fun k i wr => ∃ (j c : Nat), j + k = nl ∧ i = .int .i64 j ∧ c ≤ 1000 * j ∧ Hid (linesRest p lv j = linesOk p) ∧ MapOf intCode Value.bool wr 3 (w.heap.size + 1) c (seenIn (metOf (lv.take j))) ∧ PBox wr w.heap.size ⟨ae, ne, ce, aj, nj, cj, as_, ns, cs, al, nl, cl, lv⟩ p ∧ Below w.heap.size w wr)
  case atStart => exact ⟨0, 0, by omega, rfl, by omega, Hl0.out.symm, Hm.out, HB.out, (below_new _ _).alloc (by simp) _⟩
  case round =>
    clear Hm HB
    obtain ⟨j, c, hk, rfl, hc, hr, hm, hB, hb⟩ := hrel
    obtain ⟨wo, rfl⟩ : ∃ wo : World, wo = wr := ⟨_, rfl⟩
    have Hk := Lib.hid hk; clear hk
    have HB := Lib.hid hB
    have Hm := Lib.hid hm; clear hm
    have hmlt := Hm.out.lt
    obtain ⟨hbl, c0, _⟩ := hB
    dsimp only at c0
    by_cases hlt : j < nl
    · obtain ⟨⟨nm, ya, yn, yc, yel⟩, hy⟩ := get_some ll.out hlt
      obtain ⟨pb, off, rfl, hpb, g1, g2⟩ := hlv.row.lineB hb hy
      dsimp only at g1 g2
      have Hy := Lib.hid hy
      have hin : Ints w ya yn yel := Hints.out _ (List.mem_of_getElem? hy)
      have hyn : yn ≤ 1000 := Hn2.out _ (List.mem_of_getElem? hy)
      have Hfy := Lib.hid (show ∀ z ∈ yel, inI z from (hfit.out.l (LineV.line ⟨nm, ya, yn, yc, yel⟩) (by rw [HL.out]; exact List.mem_map.2 ⟨_, List.mem_of_getElem? hy, rfl⟩)).1)
      have hybd := hin.bnd
      have ly := Lib.hid hin.len
      have Hst := Lib.hid (show linesRest p lv j = (decide (yel ≠ []) && tracksGo p (metOf (lv.take j)) yel && rowOk (nextOf p) yel && linesRest p lv (j + 1)) from rest_step (p := p) Hy.out)
      have Hmt := Lib.hid (show metOf (lv.take (j + 1)) = metOf (lv.take j) ++ yel from met_take Hy.out)
      clear hy
      have Hb := Lib.hid hb; clear hb
      have hwz : w.heap.size ≤ wo.heap.size := Hb.out.size
      have hpb2 : pb < wo.heap.size := by omega
      by_cases hy0 : yn = 0
      · have q0 : ((yn : Int) == 0) = true := by simp [hy0]
        have Hf := Lib.hid (show linesOk p = false by rw [← hr.out, Hst.out, nil_len ly.out]; simp [hy0])
        clear hy0
        go_wp2_with fail
        go_ret
        exact ⟨ret_bool Hf.out.symm, below_step Hb.out (by repeat (first | with_reducible exact Below.refl _ _ | with_reducible assumption | with_reducible apply below_drewN | with_reducible apply Below.drew | with_reducible refine Below.alloc ?_ (by simp <;> omega) _)) Hb.out.size⟩
      · have q0 : ((yn : Int) == 0) = false := by simp [hy0]
        have Hst2 := Lib.hid (show linesOk p = (tracksGo p (metOf (lv.take j)) yel && rowOk (nextOf p) yel && linesRest p lv (j + 1)) by rw [← hr.out, Hst.out, nil_len ly.out]; simp [hy0])
        have HBy := Lib.hid (HB.out.alloc (.cells #[.string nm, .slice ya yn yc] 84))
        have Hmy := Lib.hid (Hm.out.alloc (.cells #[.string nm, .slice ya yn yc] 84))
        have Hby := Lib.hid (below_alloc Hb.out (.cells #[.string nm, .slice ya yn yc] 84))
        have hyp : 0 < yn := by omega
        clear hy0
        go_wp2_with fail
        clear q0 c0 g1 g2
        go_loopg [25] yn (fun k i wi => ∃ (i0 c2 : Nat), i0 + k = yn ∧ i = .int .i64 i0 ∧ c2 ≤ 1000 * j + i0 ∧ Hid (tracksGo p (metOf (lv.take j) ++ yel.take i0) (yel.drop i0) = tracksGo p (metOf (lv.take j)) yel) ∧ MapOf intCode Value.bool wi 3 (w.heap.size + 1) c2 (seenIn (metOf (lv.take j) ++ yel.take i0)) ∧ PBox wi w.heap.size ⟨ae, ne, ce, aj, nj, cj, as_, ns, cs, some ⟨pb, off, none⟩, nl, cl, lv⟩ p ∧ wi.cell? ⟨wo.heap.size, 1, none⟩ = some (.slice ya yn yc) ∧ wo.heap.size < wi.heap.size ∧ Below w.heap.size w wi)
        case atStart => exact ⟨0, c, by omega, rfl, by omega, by simp [Hid], by simpa using Hmy.out, HBy.out, by go_simp, by simp, Hby.out⟩
        case round =>
          clear Hmy HBy Hby
          obtain ⟨i0, c2, hk2, rfl, hc2, hr2, hm2, hB2, kc, kz, hb2⟩ := hrel
          have Hk2 := Lib.hid hk2; clear hk2
          have HB2 := Lib.hid hB2
          have Hm2 := Lib.hid hm2; clear hm2
          have hm2lt := Hm2.out.lt
          obtain ⟨hbl2, c0, _⟩ := hB2
          dsimp only at c0
          by_cases hlt2 : i0 < yn
          · obtain ⟨e, hee⟩ := get_some ly.out hlt2
            obtain ⟨pe, offe, rfl, hpe, v1⟩ := hin.intB hb2 hee
            have He := Lib.hid hee
            have Hd := Lib.hid (drop_cons hee)
            have ie := Hfy.out e (List.mem_of_getElem? hee)
            have Ie := Lib.hid ie; clear ie hee
            have Hb2 := Lib.hid hb2; clear hb2
            by_cases h0 : e < 0
            · have Hf := Lib.hid (and3_no Hst2.out (track_no (Hd.out ▸ hr2.out) (.inl (inLine_out (.inl h0)))))
              go_wp2_with fail
              go_ret
              exact ⟨ret_bool Hf.out.symm, Hb2.out⟩
            by_cases h1 : (ne : Int) ≤ e
            · have Hf := Lib.hid (and3_no Hst2.out (track_no (Hd.out ▸ hr2.out) (.inl (inLine_out (.inr (by rw [le.out]; exact h1))))))
              go_wp2_with fail
              go_ret
              exact ⟨ret_bool Hf.out.symm, Hb2.out⟩
            have x1 : 0 ≤ e := by omega
            have x2 : e < ne := by omega
            obtain ⟨pb', off', z, hae, _, hz, e1, e2, e3⟩ := (he.below Hb2.out).elemI x1 x2
            have Hil := Lib.hid (inLine_of x1 (by rw [le.out]; exact x2) (elem_get x1 hz))
            clear hz h0 h1
            subst hae
            by_cases hk1 : z.kind = 1
            · have q1 : (z.kind != 1) = false := by simp [hk1]
              by_cases hmem : e ∈ metOf (lv.take j) ++ yel.take i0
              · have l1 := ((Hm2.out.hit (seen_yes hmem) keyed_int Try.underlying121 zero_bool (key_int Ie.out)) wr (Below.refl _ _)).1
                have l1 : (Instr.lookup 121 (.map (some (w.heap.size + 1))) (.int .i64 e) false).run Try.prog wr = .ok (.bool true) wr := l1
                have Hf := Lib.hid (and3_no Hst2.out (track_no (Hd.out ▸ hr2.out) (.inr hmem)))
                clear hmem hk1
                go_wp2_with fail
                go_ret
                exact ⟨ret_bool Hf.out.symm, Hb2.out⟩
              · have l1 : (Instr.lookup 121 (.map (some (w.heap.size + 1))) (.int .i64 e) false).run Try.prog wr = .ok (.bool false) wr := ((Hm2.out.miss (seen_no hmem) keyed_int Try.underlying121 zero_bool (key_int Ie.out)) wr (Below.refl _ _)).1
                have Hf := Lib.hid (track_yes (Hd.out ▸ hr2.out) (by rw [Hil.out]; simp [hk1]) hmem)
                obtain ⟨w3, t3, hm3, hg3⟩ := (show ∃ w', (Instr.mapUpdate 121 (.map (some (w.heap.size + 1))) (.int .i64 e) (.bool true)).run Try.prog wr = .ok () w' ∧ MapOf intCode Value.bool w' 3 (w.heap.size + 1) (c2 + 1) (seenIn (metOf (lv.take j) ++ yel.take (i0 + 1))) ∧ wr.grownBy w' (some (w.heap.size + 1)) from
                  Hm2.out.store (x := e) (y := true) _ (by rw [take_next He.out, ← List.append_assoc]; exact seen_key _ _) (fun z hz => by rw [take_next He.out, ← List.append_assoc]; exact seen_other _ hz) (by unfold maxLen; omega) keyed_int Try.underlying121 (key_int Ie.out))
                have Hm3 := Lib.hid hm3; clear hm3
                have hz2 := Hb2.out.size
                have Hb3 := Lib.hid (Hb2.out.grown hg3 (by omega) (by intro k hk; simp only [Option.some.injEq] at hk; omega))
                have Hkc := Lib.hid (hg3.cell kc (by simp; omega))
                have Hkz := Lib.hid (show wo.heap.size < w3.heap.size by have := hg3.size; omega)
                clear hmem hk1
                go_wp2_with fail
                go_roundg (gk - 1)
                case measure => have := Hk2.out; omega
                case rel => exact ⟨i0 + 1, c2 + 1, by have := Hk2.out; omega, by go_num, by omega, by rw [take_next He.out, ← List.append_assoc]; exact Hf.out, Hm3.out, HB2.out.kept hg3 (by simp), Hkc.out, Hkz.out, Hb3.out⟩
            · have q1 : (z.kind != 1) = true := by simp [hk1]
              have Hf := Lib.hid (and3_no Hst2.out (track_no (Hd.out ▸ hr2.out) (.inl (by rw [Hil.out]; simp [hk1]))))
              clear hk1
              go_wp2_with fail
              go_ret
              exact ⟨ret_bool Hf.out.symm, Hb2.out⟩
          · have Hst3 := Lib.hid (show linesOk p = (rowOk (nextOf p) yel && linesRest p lv (j + 1)) by
              have := hr2.out; rw [drop_end ly.out (by omega)] at this
              rw [Hst2.out, ← this]; rfl)
            have Hmf := Lib.hid (show MapOf intCode Value.bool wr 3 (w.heap.size + 1) c2 (seenIn (metOf (lv.take (j + 1)))) from Hm2.out.congr (fun x => by rw [Hmt.out, show yel.take i0 = yel from List.take_of_length_le (by have := ly.out; omega)]))
            have Hb2 := Lib.hid hb2; clear hb2
            go_wp2_with fail
            refine (row_any wr p ya yn yc b yel (hin.below Hb2.out) (Hnx.out.below Hb2.out hbw) Hfy.out Hports.out).mono ?_
            rintro e w1 ⟨rfl, hb1⟩
            have Hb1 := Lib.hid hb1; clear hb1
            have hwi := Hb2.out.size
            cases hro : rowOk (nextOf p) yel
            · have Hf := Lib.hid (show linesOk p = false by rw [Hst3.out, hro]; rfl)
              clear hro
              go_wp2_with fail
              go_ret
              exact ⟨ret_bool Hf.out.symm, below_step Hb2.out Hb1.out hwi⟩
            · have Hf := Lib.hid (show linesRest p lv (j + 1) = linesOk p by rw [Hst3.out, hro]; rfl)
              clear hro
              go_wp2_with fail
              go_roundg (nl - j - 1)
              case measure => have := Hk.out; omega
              case rel => exact ⟨j + 1, c2, by have := Hk.out; omega, by go_num, by have := Hk2.out; omega, Hf.out, Hmf.out.below Hb1.out hm2lt, HB2.out.below Hb1.out, below_step Hb2.out Hb1.out hwi⟩
    · have Hf := Lib.hid (show linesOk p = true by rw [← hr.out, linesRest, drop_end ll.out (by omega)]; rfl)
      go_wp2_with fail
      go_ret
      exact ⟨ret_bool Hf.out.symm, hb⟩
end Go.Proofs.Ytlgekkffekagbaa
