/- Walks of slices.Clone over ints and of late.times. -/
import Derived.Test.YtkklnaejpgcgoaaLateW3
import Derived.Test.YtkklnaejpgcgoaaLatePure1
import Derived.StillTailTactics
import Derived.IntWalk
namespace Go.Proofs.Ytkklnaejpgcgoaa
open Go.RowKit

theorem info_int : (Try.prog.info? 3).map (fun i => (i.zero, i.size, i.bytes)) = some (some (.int .i64 0), 1, 8) := by kernel_rfl
theorem encInt_one : ∀ x, ∀ u ∈ encInt x, u.oneCell' = true := by intro x u hu; simp [encInt] at hu; subst hu; rfl

set_option maxHeartbeats 400000 in
theorem cloneInts (w : World) (a1 : Option Addr) (n1 c1 : Nat) (xs : List Int) (h1 : Ints w a1 n1 xs) (hc : a1 = none → c1 = 0) (hn : n1 ≤ 10000) :
    Calls Try.prog 28 #[.slice a1 n1 c1] w fun e w' => ∃ v, e = .returned v ∧ OwnI w' w.heap.size v n1 xs ∧ Below w.heap.size w w' := by
  have hq := fun (w : World) => Lib.run_eql_slice_nil (P := Try.prog) w 22 3 a1 n1 c1 0 0 Try.underlying22
  cases a1 with
  | none =>
    have hx : n1 = 0 := by
      rcases Nat.eq_zero_or_pos n1 with h | h
      · exact h
      · obtain ⟨x, hx⟩ := get_some h1.len h
        obtain ⟨_, _, ha, _⟩ := h1.int hx; cases ha
    subst hx
    have hxs : xs = [] := List.eq_nil_of_length_eq_zero h1.len
    obtain rfl := hc rfl
    clear h1 hn hc
    go_enter Try.func28, Try.ntmps28
    go_wp2
    go_ret
    exact ⟨_, rfl, by subst hxs; exact World.ownsRow_nil _ _ _ _, Below.refl _ _⟩
  | some ad =>
    have own0 : OwnI (w.alloc (.cells #[] 3)) w.heap.size (.slice (some ⟨w.heap.size, 0, none⟩) 0 0) 0 [] := World.ownsRow_made w #[] 0 (Nat.le_refl _) (by simp [maxLen]) (by simp)
    have hb0 : Below w.heap.size w (w.alloc (.cells #[] 3)) := (Below.refl _ _).alloc (Nat.le_refl _) _
    have hr := h1.below hb0
    have Hn := Lib.hid hc; clear hc
    go_enter Try.func28, Try.ntmps28
    go_wp2_with (at_builtin; refine wpList_app (enc := encInt) (fun _ => rfl) encInt_one _ rfl _ _ 22 rfl w.heap.size 3 (.int .i64 0) 8 Try.underlying22 info_int rfl (by decide) (.slice (some ⟨w.heap.size, 0, none⟩) 0 0) _ [] rfl own0 _ _ _ xs rfl hr (by simp) (by simp [maxLen]; omega) (by omega) (by simp) ?_; intro v' w1 hown hgrow _)
    go_ret
    refine ⟨_, rfl, ?_, hb0.grown hgrow (by simp) (by intro k hk; simp only [Value.ownBlock, Option.some.injEq] at hk; omega)⟩
    rw [List.nil_append, flat_ints] at hown
    simpa using hown
def Bd (xs : List Int) (B : Int) : Prop := Bd2 xs 0 B
theorem bd_at {xs : List Int} {B : Int} (h : Bd xs B) {i : Int} (h0 : 0 ≤ i) (h1 : i < xs.length) : 0 ≤ at0 xs i ∧ at0 xs i ≤ B := bd2_at h h0 h1
theorem bd_set {xs : List Int} {B C : Int} (h : Bd xs B) (hBC : B ≤ C) {u : Int} (hu : 0 ≤ u ∧ u ≤ C) (i : Nat) : Bd (xs.set i u) C := bd2_set h (by omega) hBC hu i
theorem bd_mono {xs : List Int} {B C : Int} (h : Bd xs B) (hBC : B ≤ C) : Bd xs C := bd2_mono h (by omega) hBC

set_option maxHeartbeats 1000000 in
theorem times_any (w : World) (a1 a2 a3 : Option Addr) (n1 c1 n2 c2 n3 c3 : Nat) (start : List Int) (l : List Wt) (o : List Int) (h1 : Ints w a1 n1 start) (h2 : Wts w a2 n2 l) (h3 : Ints w a3 n3 o)
    (hc : a1 = none → c1 = 0) (hn1 : n1 ≤ 1000) (hn2 : n2 ≤ 1000) (hn3 : n3 ≤ 1000) (hok : TimesOk n1 l o) (hbd : Bd start 1000000000000) :
    Calls Try.prog 29 #[.slice a1 n1 c1, .slice a2 n2 c2, .slice a3 n3 c3] w fun e w' => ∃ v, e = .returned v ∧ OwnI w' w.heap.size v n1 (timesRun l o start) ∧ Below w.heap.size w w' := by
  have H1 := Lib.hid (cloneInts w a1 n1 c1 start h1 hc (by omega))
  have Hc := Lib.hid hc; clear hc
  have l2 := Lib.hid h2.len
  have l3 := Lib.hid h3.len
  go_enter Try.func29, Try.ntmps29
  go_wp2_with fail
  refine H1.out.mono ?_
  rintro e w1 ⟨v, rfl, hown, hb1⟩
  have Hbd := Lib.hid hbd; clear hbd
  have Hok := Lib.hid hok; clear hok
  go_wp2_with fail
  go_loopg [16] n3 (fun k i wr => ∃ (j : Nat) (out : List Int) (B : Int), j + k = n3 ∧ i = .int .i64 j ∧ 0 ≤ B ∧ B ≤ 1000000000000 + 100000000 * j ∧ Hid (Bd out B) ∧ OwnI wr w.heap.size v n1 out ∧ Hid (timesRun l (o.drop j) out = timesRun l o start) ∧ Below w.heap.size w wr)
  case atStart => exact ⟨0, start, 1000000000000, by omega, rfl, by omega, by omega, Hbd.out, hown, by simp [Hid], hb1⟩
  case round =>
    obtain ⟨j, out, B, hk, rfl, hB0, hB, hbo, hown, he, hb⟩ := hrel
    have Hk := Lib.hid hk; clear hk
    by_cases hlt : j < n3
    · obtain ⟨x, hx⟩ := get_some l3.out hlt
      obtain ⟨p3, o3, rfl, hp3, g3⟩ := h3.int hx
      have g3 := (hb.cell (p := ⟨p3, o3 + j, none⟩) hp3).trans g3
      have Hx := Lib.hid hx; clear hx
      have ⟨hx0, hx1⟩ := Hok.out.ord x (List.mem_of_getElem? Hx.out)
      go_wp2_with fail
      go_loopg [22] n2 (fun k i wr => ∃ (j : Nat) (out2 : List Int) (B2 : Int), j + k = n2 ∧ i = .int .i64 j ∧ 0 ≤ B2 ∧ B2 ≤ B + 100000 * j ∧ Hid (Bd out2 B2) ∧ OwnI wr w.heap.size v n1 out2 ∧ Hid ((l.drop j).foldl (timeStep x) out2 = l.foldl (timeStep x) out) ∧ Below w.heap.size w wr)
      case atStart => exact ⟨0, out, B, by omega, rfl, by omega, by omega, hbo, hown, by simp [Hid], hb⟩
      case round =>
        clear hown hb hbo g3
        obtain ⟨j2, out2, B2, hk2, rfl, hB20, hB2, hbo2, hown2, he2, hb2⟩ := hrel
        have Hk2 := Lib.hid hk2; clear hk2
        by_cases hlt2 : j2 < n2
        · obtain ⟨y, hy⟩ := get_some l2.out hlt2
          obtain ⟨p2, o2, rfl, hp2, g1, g2, g3⟩ := h2.wt hy
          have g1 := (hb2.cell (p := ⟨p2, o2 + j2 * 3, none⟩) hp2).trans g1
          have g2 := (hb2.cell (p := ⟨p2, o2 + j2 * 3 + 1, none⟩) hp2).trans g2
          have g3 := (hb2.cell (p := ⟨p2, o2 + j2 * 3 + 2, none⟩) hp2).trans g3
          have Hy := Lib.hid hy; clear hy
          obtain ⟨y1, y2, y3, y4, y5, y6⟩ := Hok.out.ends y (List.mem_of_getElem? Hy.out)
          obtain ⟨g, cap, rfl, hg1, hg2⟩ := own_shape hown2 (by omega)
          have c1 : wr.cell? ⟨g, x.toNat, none⟩ = some (.int .i64 (at0 out2 x)) := own_cell hown2 (by omega)
          have c2 : wr.cell? ⟨g, y.frm.toNat, none⟩ = some (.int .i64 (at0 out2 y.frm)) := own_cell hown2 (by omega)
          have c3 := hown2.frozenAt x.toNat
          obtain ⟨q1, q2⟩ := bd_at hbo2.out hx0 (by have := own_len hown2; omega)
          obtain ⟨q3, q4⟩ := bd_at hbo2.out y1 (by have := own_len hown2; omega)
          have ol := own_len hown2
          by_cases hto : y.to = x
          · have ht : (y.to == x) = true := by simpa using hto
            rcases Int.lt_or_le (at0 out2 x) (at0 out2 y.frm + y.gap) with hmx | hmx
            · go_wp2_with fail
              have hwr : IntKind.i64.wrap (at0 out2 y.frm + y.gap) = at0 out2 y.frm + y.gap := IntWalk.i64_in _ (by omega)
              refine wp_region_still_tail 16 (by kernel_rfl) (by kernel_rfl) ?_
              simp only [List.take_succ_cons, List.take_zero, List.drop_succ_cons, List.drop_zero]
              change wpStill _ _ (World.drew _) _ _ _
              repeat still_step
              refine wpStill_nil ?_
              change wpList _ _ _ _ _ (World.drew _)
              go_wp2_with fail
              go_roundg (gk - 1)
              case measure => have := Hk2.out; omega
              case rel =>
                refine ⟨j2 + 1, timeStep x out2 y, B2 + 100000, by have := Hk2.out; omega, by go_num, by omega, by omega, ?_, ?_, by rw [← he2.out, drop_cons Hy.out]; rfl, ?_⟩
                · unfold timeStep; rw [if_pos hto]; exact bd_set hbo2.out (by omega) (by omega) _
                · unfold timeStep; rw [if_pos hto, show max (at0 out2 x) (at0 out2 y.frm + y.gap) = at0 out2 y.frm + y.gap from by omega]
                  exact (own_set hown2 x.toNat _).1.alloc _
                · exact ((hb2.setCell (p := ⟨g, _, none⟩) hg1 _).alloc (by have := hb2.size; simpa [World.setCell] using this) _).drew
            · go_wp2_with fail
              have hwr : IntKind.i64.wrap (at0 out2 y.frm + y.gap) = at0 out2 y.frm + y.gap := IntWalk.i64_in _ (by omega)
              refine wp_region_still_tail 16 (by kernel_rfl) (by kernel_rfl) ?_
              simp only [List.take_succ_cons, List.take_zero, List.drop_succ_cons, List.drop_zero]
              change wpStill _ _ (World.drew _) _ _ _
              repeat still_step
              refine wpStill_nil ?_
              change wpList _ _ _ _ _ (World.drew _)
              go_wp2_with fail
              go_roundg (gk - 1)
              case measure => have := Hk2.out; omega
              case rel =>
                refine ⟨j2 + 1, timeStep x out2 y, B2 + 100000, by have := Hk2.out; omega, by go_num, by omega, by omega, ?_, ?_, by rw [← he2.out, drop_cons Hy.out]; rfl, ?_⟩
                · unfold timeStep; rw [if_pos hto]; exact bd_set hbo2.out (by omega) (by omega) _
                · unfold timeStep; rw [if_pos hto, show max (at0 out2 x) (at0 out2 y.frm + y.gap) = at0 out2 x from by omega]
                  exact (own_set hown2 x.toNat _).1.alloc _
                · exact ((hb2.setCell (p := ⟨g, _, none⟩) hg1 _).alloc (by have := hb2.size; simpa [World.setCell] using this) _).drew
          · have ht : (y.to == x) = false := by simpa using hto
            have Hto := Lib.hid hto; clear hto
            go_wp2_with fail
            go_roundg (gk - 1)
            case measure => have := Hk2.out; omega
            case rel =>
              refine ⟨j2 + 1, timeStep x out2 y, B2 + 100000, by have := Hk2.out; omega, by go_num, by omega, by omega, ?_, ?_, by rw [← he2.out, drop_cons Hy.out]; rfl, ?_⟩
              · unfold timeStep; rw [if_neg Hto.out]; exact bd_mono hbo2.out (by omega)
              · unfold timeStep; rw [if_neg Hto.out]; exact hown2.alloc _
              · exact hb2.alloc hb2.size _
        · go_wp2_with fail
          go_roundg (n3 - j - 1)
          case measure => have := Hk.out; omega
          case rel =>
            have := Hk2.out
            refine ⟨j + 1, out2, B2, by have := Hk.out; omega, by go_num, by omega, by omega, hbo2, hown2, ?_, hb2⟩
            have := he2.out
            rw [drop_end l2.out (by omega)] at this
            have he := he.out
            rw [drop_cons Hx.out] at he
            simp only [timesRun, List.foldl_cons] at he ⊢
            simp only [List.foldl_nil] at this
            unfold Hid; rw [← he, ← this]
    · go_wp2_with fail
      go_ret
      exact ⟨v, rfl, by rw [drop_end l3.out (by omega)] at he; exact he.out ▸ hown, hb⟩

end Go.Proofs.Ytkklnaejpgcgoaa
