/- Walk of semaphoreref35.Times. -/
import Derived.Test.YtkklnaejpgcgoaaRefW2
import Derived.Test.YtkklnaejpgcgoaaLateW6
namespace Go.Proofs.Ytkklnaejpgcgoaa
open Go.RowKit

/-- what semaphoreref35.Times answers, R the order -/
def refErr (start : List Int) (l : List Wt) (R : List Int) : Int :=
  if lateCheck start l ≠ 0 then lateCheck start l else if R.length = start.length then 0 else 19

/-- the order is there where it is asked for -/
def RefOk (start : List Int) (l : List Wt) (R : List Int) : Prop := lateCheck start l = 0 → refOrder start.length l = some R ∧ R.length ≤ 1000 ∧ ∀ e ∈ R, 0 ≤ e ∧ e < (start.length : Int)

set_option maxHeartbeats 2000000 in
theorem reftimes_any (w : World) (a1 a2 : Option Addr) (n1 c1 n2 c2 : Nat) (start : List Int) (l : List Wt) (R : List Int) (h1 : Ints w a1 n1 start) (h2 : Wts w a2 n2 l) (hc : a1 = none → c1 = 0) (hR : RefOk start l R) :
    Calls Try.prog 14 #[.slice a1 n1 c1, .slice a2 n2 c2] w fun e w' => ∃ v, e = .returned (.tuple #[v, .int .i64 (refErr start l R)]) ∧
      NumsOut w' w.heap.size (refErr start l R) (timesRun l R start) v ∧ Below w.heap.size w w' := by
  obtain rfl := h1.len
  have b1 := h1.bnd
  have H := Lib.hid (wrong_any w a1 a2 _ c1 n2 c2 start l h1 h2)
  have Hc := Lib.hid hc; clear hc
  by_cases hk : lateCheck start l = 0
  · obtain ⟨hR1, hR2, hR3⟩ := hR hk
    clear hR
    have hz := lateCheck_zero hk
    have Hz := Lib.hid hz
    have hz1 := hz.1
    have hn2 : n2 ≤ 1000 := by have := h2.len; omega
    clear hz
    have Hk1 := Lib.hid hk; clear hk
    have HR3 := Lib.hid hR3; clear hR3
    have HR1 := Lib.hid hR1; clear hR1
    go_enter Try.func14, Try.ntmps14
    go_wp2_with fail
    refine H.out.mono ?_
    rintro e w1 ⟨rfl, hb1⟩
    rw [Hk1.out]
    have H2 := Lib.hid (reforder_any w1 a2 start.length n2 c2 l R (h2.below hb1) (by omega) (by omega) (fun x hx => by have := Hz.out.2.2.2 x hx; omega) HR1.out hR2)
    go_wp2_with fail
    refine H2.out.mono ?_
    rintro e w2 ⟨vo, rfl, hown2, hb2⟩
    have hb2' := below_step hb1 hb2 hb1.size
    obtain ⟨a3, c3, rfl, hn3, hc3⟩ := own_slice hown2
    by_cases ho : R.length = start.length
    · have hd : decide (R.length = start.length) = true := by simpa using ho
      have h3 := (own_ints hown2).1
      have Ho := Lib.hid ho; clear ho
      have hown0 : OwnI (w2.alloc (.cells #[] 3)) w2.heap.size (.slice (some ⟨w2.heap.size, 0, none⟩) 0 0) 0 [] := World.ownsRow_made w2 #[] 0 (Nat.le_refl _) (by simp [maxLen]) (by simp)
      have hb0 : Below w2.heap.size w2 (w2.alloc (.cells #[] 3)) := (Below.refl _ _).alloc (Nat.le_refl _) _
      have hr := (h1.below hb2').below hb0
      have Hown0 := Lib.hid hown0; clear hown0 hc3 hown2
      go_wp2_with (at_builtin; refine wpList_app (enc := encInt) (fun _ => rfl) encInt_one _ rfl _ _ 22 rfl w2.heap.size 3 (.int .i64 0) 8 Try.underlying22 info_int rfl (by decide) (.slice (some ⟨w2.heap.size, 0, none⟩) 0 0) _ [] rfl Hown0.out a1 start.length c1 start rfl hr Hc.out (by simp [maxLen]; omega) (by omega) (by simp) ?_; intro v w3 hownx hgrow _)
      have hown : OwnI w3 w2.heap.size v start.length start := by rw [List.nil_append, flat_ints] at hownx; simpa using hownx
      have hb3 : Below w2.heap.size w2 w3 := hb0.grown hgrow (by simp) (by intro k hk; simp only [Value.ownBlock, Option.some.injEq] at hk; omega)
      clear hownx hgrow hb0 hr
      have Hbd : Hid (Bd start 1000000000000) := fun t ht => by have := Hz.out.2.2.1 t ht; omega
      have h2' := h2.below hb2'
      have l2 := Lib.hid h2'.len
      have Hok : Hid (TimesOk start.length l R) := ⟨Hz.out.2.2.2, HR3.out⟩
      have hno : R.length ≤ 1000 := hR2
      clear H2
      go_wp2_with fail
      go_loopg [34] R.length (fun k i wr => ∃ (j : Nat) (out : List Int) (B : Int), j + k = R.length ∧ i = .int .i64 j ∧ 0 ≤ B ∧ B ≤ 1000000000000 + 100000000 * j ∧ Hid (Bd out B) ∧ OwnI wr w2.heap.size v start.length out ∧ Hid (timesRun l (R.drop j) out = timesRun l R start) ∧ Below w2.heap.size w2 wr)
      case atStart => exact ⟨0, start, 1000000000000, by omega, rfl, by omega, by omega, Hbd.out, hown, by simp [Hid], hb3⟩
      case round =>
        obtain ⟨j, out, B, hk, rfl, hB0, hB, hbo, hown, he, hb⟩ := hrel
        have Hk := Lib.hid hk; clear hk
        by_cases hlt : j < R.length
        · obtain ⟨x, hx⟩ := get_some (rfl : R.length = R.length) hlt
          obtain ⟨p3, o3, rfl, hp3, g3⟩ := h3.int hx
          have g3 := (hb.cell (p := ⟨p3, o3 + j, none⟩) hp3).trans g3
          have Hx := Lib.hid hx; clear hx
          have ⟨hx0, hx1⟩ := Hok.out.ord x (List.mem_of_getElem? Hx.out)
          go_wp2_with fail
          go_loopg [40] n2 (fun k i wr => ∃ (j : Nat) (out2 : List Int) (B2 : Int), j + k = n2 ∧ i = .int .i64 j ∧ 0 ≤ B2 ∧ B2 ≤ B + 100000 * j ∧ Hid (Bd out2 B2) ∧ OwnI wr w2.heap.size v start.length out2 ∧ Hid ((l.drop j).foldl (timeStep x) out2 = l.foldl (timeStep x) out) ∧ Below w2.heap.size w2 wr)
          case atStart => exact ⟨0, out, B, by omega, rfl, by omega, by omega, hbo, hown, by simp [Hid], hb⟩
          case round =>
            clear hown hb hbo g3
            obtain ⟨j2, out2, B2, hk2, rfl, hB20, hB2, hbo2, hown2, he2, hb2⟩ := hrel
            have Hk2 := Lib.hid hk2; clear hk2
            by_cases hlt2 : j2 < n2
            · obtain ⟨y, hy⟩ := get_some l2.out hlt2
              obtain ⟨p2, o2, rfl, hp2, g1, g2, g3⟩ := h2'.wt hy
              have g1 := (hb2.cell (p := ⟨p2, o2 + j2 * 3, none⟩) hp2).trans g1
              have g2 := (hb2.cell (p := ⟨p2, o2 + j2 * 3 + 1, none⟩) hp2).trans g2
              have g3 := (hb2.cell (p := ⟨p2, o2 + j2 * 3 + 2, none⟩) hp2).trans g3
              have Hy := Lib.hid hy; clear hy
              obtain ⟨y1, y2, y3, y4, y5, y6⟩ := Hok.out.ends y (List.mem_of_getElem? Hy.out)
              obtain ⟨g, cap, rfl, hg1, hg2⟩ := own_shape hown2 (by omega)
              have c1 : wr.cell? ⟨g, x.toNat, none⟩ = some (.int .i64 (at0 out2 x)) := own_cell hown2 (by omega)
              have c2 : wr.cell? ⟨g, y.frm.toNat, none⟩ = some (.int .i64 (at0 out2 y.frm)) := own_cell hown2 (by omega)
              have c3 := hown2.frozenAt x.toNat
              obtain ⟨q1, q2⟩ := bd_at hbo2.out hx0 (by have := own_len hown2; omega)
              obtain ⟨q3, q4⟩ := bd_at hbo2.out y1 (by have := own_len hown2; omega)
              have ol := own_len hown2
              by_cases hto : y.to = x
              · have ht : (y.to == x) = true := by simpa using hto
                rcases Int.lt_or_le (at0 out2 x) (at0 out2 y.frm + y.gap) with hmx | hmx
                · go_wp2_with fail
                  have hwr : IntKind.i64.wrap (at0 out2 y.frm + y.gap) = at0 out2 y.frm + y.gap := IntWalk.i64_in _ (by omega)
                  refine wp_region_still_tail 16 (by kernel_rfl) (by kernel_rfl) ?_
                  simp only [List.take_succ_cons, List.take_zero, List.drop_succ_cons, List.drop_zero]
                  change wpStill _ _ (World.drew _) _ _ _
                  repeat still_step
                  refine wpStill_nil ?_
                  change wpList _ _ _ _ _ (World.drew _)
                  go_wp2_with fail
                  go_roundg (gk - 1)
                  case measure => have := Hk2.out; omega
                  case rel =>
                    refine ⟨j2 + 1, timeStep x out2 y, B2 + 100000, by have := Hk2.out; omega, by go_num, by omega, by omega, ?_, ?_, by rw [← he2.out, drop_cons Hy.out]; rfl, ?_⟩
                    · unfold timeStep; rw [if_pos hto]; exact bd_set hbo2.out (by omega) (by omega) _
                    · unfold timeStep; rw [if_pos hto, show max (at0 out2 x) (at0 out2 y.frm + y.gap) = at0 out2 y.frm + y.gap from by omega]
                      exact (own_set hown2 x.toNat _).1.alloc _
                    · exact ((hb2.setCell (p := ⟨g, _, none⟩) hg1 _).alloc (by have := hb2.size; simpa [World.setCell] using this) _).drew
                · go_wp2_with fail
                  have hwr : IntKind.i64.wrap (at0 out2 y.frm + y.gap) = at0 out2 y.frm + y.gap := IntWalk.i64_in _ (by omega)
                  refine wp_region_still_tail 16 (by kernel_rfl) (by kernel_rfl) ?_
                  simp only [List.take_succ_cons, List.take_zero, List.drop_succ_cons, List.drop_zero]
                  change wpStill _ _ (World.drew _) _ _ _
                  repeat still_step
                  refine wpStill_nil ?_
                  change wpList _ _ _ _ _ (World.drew _)
                  go_wp2_with fail
                  go_roundg (gk - 1)
                  case measure => have := Hk2.out; omega
                  case rel =>
                    refine ⟨j2 + 1, timeStep x out2 y, B2 + 100000, by have := Hk2.out; omega, by go_num, by omega, by omega, ?_, ?_, by rw [← he2.out, drop_cons Hy.out]; rfl, ?_⟩
                    · unfold timeStep; rw [if_pos hto]; exact bd_set hbo2.out (by omega) (by omega) _
                    · unfold timeStep; rw [if_pos hto, show max (at0 out2 x) (at0 out2 y.frm + y.gap) = at0 out2 x from by omega]
                      exact (own_set hown2 x.toNat _).1.alloc _
                    · exact ((hb2.setCell (p := ⟨g, _, none⟩) hg1 _).alloc (by have := hb2.size; simpa [World.setCell] using this) _).drew
              · have ht : (y.to == x) = false := by simpa using hto
                have Hto := Lib.hid hto; clear hto
                go_wp2_with fail
                go_roundg (gk - 1)
                case measure => have := Hk2.out; omega
                case rel =>
                  refine ⟨j2 + 1, timeStep x out2 y, B2 + 100000, by have := Hk2.out; omega, by go_num, by omega, by omega, ?_, ?_, by rw [← he2.out, drop_cons Hy.out]; rfl, ?_⟩
                  · unfold timeStep; rw [if_neg Hto.out]; exact bd_mono hbo2.out (by omega)
                  · unfold timeStep; rw [if_neg Hto.out]; exact hown2.alloc _
                  · exact hb2.alloc hb2.size _
            · go_wp2_with fail
              go_roundg (R.length - j - 1)
              case measure => have := Hk.out; omega
              case rel =>
                have := Hk2.out
                refine ⟨j + 1, out2, B2, by have := Hk.out; omega, by go_num, by omega, by omega, hbo2, hown2, ?_, hb2⟩
                have := he2.out
                rw [drop_end l2.out (by omega)] at this
                have he := he.out
                rw [drop_cons Hx.out] at he
                simp only [timesRun, List.foldl_cons] at he ⊢
                simp only [List.foldl_nil] at this
                unfold Hid; rw [← he, ← this]
        · have hr0 : Hid (out = timesRun l R start) := by rw [drop_end rfl (by omega)] at he; exact he.out
          clear he hbo
          have Hown := Lib.hid hown; clear hown
          go_wp2_with fail
          go_ret2
          have hs : refErr start l R = 0 := by unfold refErr; rw [if_neg (by simpa using Hk1.out), if_pos Ho.out]
          refine ⟨_, by rw [hs]; rfl, ⟨fun _ => ?_, fun h => absurd hs h⟩, hb2'.trans (hb.mono hb2'.size)⟩
          rw [timesRun_length, ← hr0.out]
          exact owns_base Hown.out hb2'.size
    · have hd : decide (R.length = start.length) = false := by simpa using ho
      have Ho := Lib.hid ho; clear ho hown2 hc3
      go_wp2_with fail
      go_ret2
      have hs : refErr start l R = 19 := by unfold refErr; rw [if_neg (by simpa using Hk1.out), if_neg Ho.out]
      exact ⟨_, by rw [hs]; rfl, ⟨fun h => absurd (hs.symm.trans h) (by decide), fun _ => rfl⟩, hb2'⟩
  · have hq := neq_beq hk
    have Hk := Lib.hid hk; clear hk
    go_enter Try.func14, Try.ntmps14
    go_wp2_with fail
    refine H.out.mono ?_
    rintro e w1 ⟨rfl, hb1⟩
    go_wp2_with fail
    go_ret2
    have hs : refErr start l R = lateCheck start l := by unfold refErr; rw [if_pos Hk.out]
    exact ⟨_, by rw [hs]; rfl, ⟨fun h => absurd (hs.symm.trans h) Hk.out, fun _ => rfl⟩, hb1⟩
end Go.Proofs.Ytkklnaejpgcgoaa
