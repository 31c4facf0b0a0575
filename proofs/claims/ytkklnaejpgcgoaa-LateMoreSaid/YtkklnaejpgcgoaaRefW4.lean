/- Walk of semaphoreref35.Delay. -/
import Derived.Test.YtkklnaejpgcgoaaRefW3
import Derived.Test.YtkklnaejpgcgoaaLateW7
namespace Go.Proofs.Ytkklnaejpgcgoaa
open Go.RowKit

/-- Two rows of numbers that the call owns, of which the second is written. -/
structure Rows2 (B : Nat) (w : World) (vt : Value) (nt : Nat) (t : List Int) (vl : Value) (nl : Nat) (last : List Int) : Prop where
  t : OwnI w B vt nt t
  l : OwnI w B vl nl last
  ne : ∀ k, vt.ownBlock = some k → vl.ownBlock ≠ some k

section
variable {B : Nat} {w : World} {vt : Value} {nt : Nat} {t : List Int} {vl : Value} {nl : Nat} {last : List Int}
theorem Rows2.drew (h : Rows2 B w vt nt t vl nl last) : Rows2 B w.drew vt nt t vl nl last := ⟨h.t, h.l, h.ne⟩
theorem Rows2.set {g cap : Nat} (h : Rows2 B w vt nt t (.slice (some ⟨g, 0, none⟩) nl cap) nl last) (j : Nat) (u : Int) :
    Rows2 B (w.setCell ⟨g, j, none⟩ (.int .i64 u)) vt nt t (.slice (some ⟨g, 0, none⟩) nl cap) nl (last.set j u) := by
  obtain ⟨e1, e2⟩ := own_set h.l j u
  exact ⟨h.t.kept e2 (.inr (fun hk => h.ne g hk rfl)), e1, h.ne⟩
end

def refDelayErr (start : List Int) (l : List Wt) (R : List Int) (event byy : Int) : Int :=
  if refErr start l R ≠ 0 then refErr start l R else if offB event (start.length - 1) then 10 else if offB byy 100000 then 1 else 0
def refDelayVal (start : List Int) (l : List Wt) (R : List Int) (event byy : Int) : List Int :=
  subRun (timesRun l R start) (timesRun l R (start.set event.toNat (at0 (timesRun l R start) event + byy)))
theorem refDelayVal_eq {start : List Int} {l : List Wt} {R : List Int} {event byy : Int} : refDelayVal start l R event byy = (List.range start.length).foldl (subStep (timesRun l R start)) (timesRun l R (start.set event.toNat (at0 (timesRun l R start) event + byy))) := by
  unfold refDelayVal subRun; rw [timesRun_length]; simp

theorem refErr_zero {start : List Int} {l : List Wt} {R : List Int} (h : refErr start l R = 0) : lateCheck start l = 0 ∧ R.length = start.length := by
  unfold refErr at h
  split at h
  · rename_i h1; exact absurd h h1
  · rename_i h1
    split at h
    · rename_i h2; exact ⟨by simpa using h1, h2⟩
    · cases h
theorem refTimes_bd {start : List Int} {l : List Wt} {R : List Int} (h : refErr start l R = 0) : Bd2 (timesRun l R start) 0 20000100000 := by
  obtain ⟨h1, h2⟩ := refErr_zero h
  obtain ⟨z1, z2, z3, z4⟩ := lateCheck_zero h1
  exact bd2_mono (timesRun_bd z4 z2 _ start 100000 (by omega) rfl z3) (by omega) (by omega)

set_option maxHeartbeats 2000000 in
theorem refdelay_any (w : World) (a1 a2 : Option Addr) (n1 c1 n2 c2 : Nat) (start : List Int) (l : List Wt) (R : List Int) (event byy : Int) (h1 : Ints w a1 n1 start) (h2 : Wts w a2 n2 l) (hc : a1 = none → c1 = 0) (hR : RefOk start l R) :
    Calls Try.prog 20 #[.slice a1 n1 c1, .slice a2 n2 c2, .int .i64 event, .int .i64 byy] w fun e w' => ∃ v, e = .returned (.tuple #[v, .int .i64 (refDelayErr start l R event byy)]) ∧
      NumsOut w' w.heap.size (refDelayErr start l R event byy) (refDelayVal start l R event byy) v ∧ Below w.heap.size w w' := by
  obtain rfl := h1.len
  have b1 := h1.bnd
  have H := Lib.hid (reftimes_any w a1 a2 _ c1 n2 c2 start l R h1 h2 hc hR)
  have Hc := Lib.hid hc; clear hc
  by_cases hs : refErr start l R = 0
  · obtain ⟨hk1, hk2⟩ := refErr_zero hs
    obtain ⟨hR1, hR2, hR3⟩ := hR hk1
    clear hR
    have hz := lateCheck_zero hk1
    have Hz := Lib.hid hz; clear hk1
    have hz1 := hz.1
    have hn2 : n2 ≤ 1000 := by have := h2.len; omega
    clear hz
    have Hk2 := Lib.hid hk2; clear hk2
    have HR3 := Lib.hid hR3; clear hR3
    have HR1 := Lib.hid hR1; clear hR1
    have Hs := Lib.hid hs; clear hs
    by_cases he : event < 0 ∨ (start.length : Int) ≤ event
    · have hd := Lib.hid (show refDelayErr start l R event byy = 10 by unfold refDelayErr; rw [if_neg (by simpa using Hs.out), if_pos (by simp [offB]; omega)])
      rcases he with he | he
      all_goals
        go_enter Try.func20, Try.ntmps20
        go_wp2_with fail
        refine H.out.mono ?_
        rintro e w1 ⟨v1, rfl, hs, hb⟩
        rw [Hs.out]
        clear hs
        go_wp2_with fail
        go_ret2
        exact ⟨_, by rw [hd.out]; rfl, ⟨fun h => absurd (hd.out.symm.trans h) (by decide), fun _ => rfl⟩, hb⟩
    have e0 : ¬ event < 0 := by omega
    have e1 : ¬ (start.length : Int) ≤ event := by omega
    clear he
    by_cases hy : byy < 0 ∨ 100000 < byy
    · have hd := Lib.hid (show refDelayErr start l R event byy = 1 by unfold refDelayErr; rw [if_neg (by simpa using Hs.out), if_neg (by simp [offB]; omega), if_pos (by simp [offB]; omega)])
      rcases hy with hy | hy
      all_goals
        go_enter Try.func20, Try.ntmps20
        go_wp2_with fail
        refine H.out.mono ?_
        rintro e w1 ⟨v1, rfl, hs, hb⟩
        rw [Hs.out]
        clear hs
        go_wp2_with fail
        go_ret2
        exact ⟨_, by rw [hd.out]; rfl, ⟨fun h => absurd (hd.out.symm.trans h) (by decide), fun _ => rfl⟩, hb⟩
    have y0 : ¬ byy < 0 := by omega
    have y1 : ¬ 100000 < byy := by omega
    clear hy
    have hd := Lib.hid (show refDelayErr start l R event byy = 0 by unfold refDelayErr; rw [if_neg (by simpa using Hs.out), if_neg (by simp [offB]; omega), if_neg (by simp [offB]; omega)])
    have Bt := Lib.hid (refTimes_bd Hs.out)
    go_enter Try.func20, Try.ntmps20
    go_wp2_with fail
    refine H.out.mono ?_
    rintro e w1 ⟨v1, rfl, hs, hb⟩
    rw [Hs.out]
    have o1 := hs.ok Hs.out
    rw [timesRun_length] at o1
    have O1 := Lib.hid o1
    clear o1 hs
    have H2 := Lib.hid (reforder_any w1 a2 start.length n2 c2 l R (h2.below hb) (by omega) (by omega) (fun x hx => by have := Hz.out.2.2.2 x hx; omega) HR1.out hR2)
    go_wp2_with fail
    refine H2.out.mono ?_
    rintro e w2 ⟨vo, rfl, hown2, hb2⟩
    have hb2' := below_step hb hb2 hb.size
    obtain ⟨a3, c3, rfl, hn3, hc3⟩ := own_slice hown2
    have h3 := (own_ints hown2).1
    have hown0 : OwnI (w2.alloc (.cells #[] 3)) w2.heap.size (.slice (some ⟨w2.heap.size, 0, none⟩) 0 0) 0 [] := World.ownsRow_made w2 #[] 0 (Nat.le_refl _) (by simp [maxLen]) (by simp)
    have hb0 : Below w2.heap.size w2 (w2.alloc (.cells #[] 3)) := (Below.refl _ _).alloc (Nat.le_refl _) _
    have hr := (h1.below hb2').below hb0
    have Hown0 := Lib.hid hown0; clear hown0 hc3 hown2
    have hdt : decide (R.length = start.length) = true := by simpa using Hk2.out
    obtain ⟨gt, capt, hgt, hgt1, hgt2⟩ := own_shape O1.out (by omega)
    cases hgt
    go_wp2_with (at_builtin; refine wpList_app (enc := encInt) (fun _ => rfl) encInt_one _ rfl _ _ 22 rfl w2.heap.size 3 (.int .i64 0) 8 Try.underlying22 info_int rfl (by decide) (.slice (some ⟨w2.heap.size, 0, none⟩) 0 0) _ [] rfl Hown0.out a1 start.length c1 start rfl hr Hc.out (by simp [maxLen]; omega) (by omega) (by simp) ?_)
    intro v w3 hownx hgrow _
    have hown : OwnI w3 w2.heap.size v start.length start := by rw [flat_ints] at hownx; exact hownx
    have hb3 : Below w2.heap.size w2 w3 := hb0.grown hgrow (by simp) (by intro k hk; simp only [Value.ownBlock, Option.some.injEq] at hk; omega)
    have ot3 := owns_below (owns_below O1.out hb2) hb3
    obtain ⟨g, cap, hg, hg1, hg2⟩ := own_shape hown (by omega)
    cases hg
    have k1 : w3.cell? ⟨gt, event.toNat, none⟩ = some (.int .i64 (at0 (timesRun l R start) event)) := own_cell ot3 (by omega)
    have k2 := own_cell hown (j := event.toNat) (by omega)
    have k3 := hown.frozenAt event.toNat
    have tl : (timesRun l R start).length = start.length := timesRun_length _ _ _
    obtain ⟨q1, q2⟩ := bd2_at Bt.out (i := event) (by omega) (by omega)
    have Tl := Lib.hid tl; clear tl
    obtain ⟨ow4, hgr4⟩ := own_set hown event.toNat (at0 (timesRun l R start) event + byy)
    have hgs : gt < w3.heap.size := by have := hb2.size; have := hb3.size; omega
    have ne : gt ≠ g := by have := hb2.size; omega
    have ot4 := ot3.kept hgr4 (.inr (by simp only [Value.ownBlock, ne_eq, Option.some.injEq]; exact ne))
    have hb4 : Below w2.heap.size w2 (w3.setCell ⟨g, event.toNat, none⟩ (.int .i64 (at0 (timesRun l R start) event + byy))) := hb3.setCell (p := ⟨g, _, none⟩) hg1 _
    have OW4 := Lib.hid ow4
    have OT4 := Lib.hid ot4
    clear ow4 ot4 hgr4 hown hownx hgrow hb0 hr ot3
    have Hbd : Hid (Bd (start.set event.toNat (at0 (timesRun l R start) event + byy)) 1000000000000) := bd2_set (fun t ht => by have := Hz.out.2.2.1 t ht; omega) (A := 0) (B := 100000) (by omega) (by omega) (by omega) _
    have h2' := h2.below hb2'
    have l2 := Lib.hid h2'.len
    have Hok : Hid (TimesOk start.length l R) := ⟨Hz.out.2.2.2, HR3.out⟩
    clear H2
    go_wp2_with fail
    clear k1 k2 k3
    obtain ⟨v, hv⟩ : ∃ v, v = Value.slice (some ⟨g, 0, none⟩) start.length cap := ⟨_, rfl⟩
    rw [← hv] at OW4 ⊢
    have hown := OW4.out
    go_loopg [64] R.length (fun k i wr => ∃ (j : Nat) (out : List Int) (B : Int), j + k = R.length ∧ i = .int .i64 j ∧ 0 ≤ B ∧ B ≤ 1000000000000 + 100000000 * j ∧ Hid (Bd out B) ∧ OwnI wr w2.heap.size v start.length out ∧ Hid (timesRun l (R.drop j) out = timesRun l R (start.set event.toNat (at0 (timesRun l R start) event + byy))) ∧ Below w2.heap.size w2 wr)
    case atStart => exact ⟨0, (start.set event.toNat (at0 (timesRun l R start) event + byy)), 1000000000000, by omega, rfl, by omega, by omega, Hbd.out, hown, by simp [Hid], hb4⟩
    case round =>
      obtain ⟨j, out, B, hk, rfl, hB0, hB, hbo, hown, he, hb⟩ := hrel
      have Hk := Lib.hid hk; clear hk
      by_cases hlt : j < R.length
      · obtain ⟨x, hx⟩ := get_some (rfl : R.length = R.length) hlt
        obtain ⟨p3, o3, rfl, hp3, g3⟩ := h3.int hx
        have g3 := (hb.cell (p := ⟨p3, o3 + j, none⟩) hp3).trans g3
        have Hx := Lib.hid hx; clear hx
        have ⟨hx0, hx1⟩ := Hok.out.ord x (List.mem_of_getElem? Hx.out)
        go_wp2_with fail
        go_loopg [70] n2 (fun k i wr => ∃ (j : Nat) (out2 : List Int) (B2 : Int), j + k = n2 ∧ i = .int .i64 j ∧ 0 ≤ B2 ∧ B2 ≤ B + 100000 * j ∧ Hid (Bd out2 B2) ∧ OwnI wr w2.heap.size v start.length out2 ∧ Hid ((l.drop j).foldl (timeStep x) out2 = l.foldl (timeStep x) out) ∧ Below w2.heap.size w2 wr)
        case atStart => exact ⟨0, out, B, by omega, rfl, by omega, by omega, hbo, hown, by simp [Hid], hb⟩
        case round =>
          clear hown hb hbo g3
          obtain ⟨j2, out2, B2, hk2, rfl, hB20, hB2, hbo2, hown2, he2, hb2⟩ := hrel
          have Hk2 := Lib.hid hk2; clear hk2
          by_cases hlt2 : j2 < n2
          · obtain ⟨y, hy⟩ := get_some l2.out hlt2
            obtain ⟨p2, o2, rfl, hp2, g1, g2, g3⟩ := h2'.wt hy
            have g1 := (hb2.cell (p := ⟨p2, o2 + j2 * 3, none⟩) hp2).trans g1
            have g2 := (hb2.cell (p := ⟨p2, o2 + j2 * 3 + 1, none⟩) hp2).trans g2
            have g3 := (hb2.cell (p := ⟨p2, o2 + j2 * 3 + 2, none⟩) hp2).trans g3
            have Hy := Lib.hid hy; clear hy
            obtain ⟨y1, y2, y3, y4, y5, y6⟩ := Hok.out.ends y (List.mem_of_getElem? Hy.out)
            obtain ⟨g, cap, rfl, hg1, hg2⟩ := own_shape hown2 (by omega)
            have c1 : wr.cell? ⟨g, x.toNat, none⟩ = some (.int .i64 (at0 out2 x)) := own_cell hown2 (by omega)
            have c2 : wr.cell? ⟨g, y.frm.toNat, none⟩ = some (.int .i64 (at0 out2 y.frm)) := own_cell hown2 (by omega)
            have c3 := hown2.frozenAt x.toNat
            obtain ⟨q1, q2⟩ := bd_at hbo2.out hx0 (by have := own_len hown2; omega)
            obtain ⟨q3, q4⟩ := bd_at hbo2.out y1 (by have := own_len hown2; omega)
            have ol := own_len hown2
            by_cases hto : y.to = x
            · have ht : (y.to == x) = true := by simpa using hto
              rcases Int.lt_or_le (at0 out2 x) (at0 out2 y.frm + y.gap) with hmx | hmx
              · go_wp2_with fail
                have hwr : IntKind.i64.wrap (at0 out2 y.frm + y.gap) = at0 out2 y.frm + y.gap := IntWalk.i64_in _ (by omega)
                refine wp_region_still_tail 16 (by kernel_rfl) (by kernel_rfl) ?_
                simp only [List.take_succ_cons, List.take_zero, List.drop_succ_cons, List.drop_zero]
                change wpStill _ _ (World.drew _) _ _ _
                repeat still_step
                refine wpStill_nil ?_
                change wpList _ _ _ _ _ (World.drew _)
                go_wp2_with fail
                go_roundg (gk - 1)
                case measure => have := Hk2.out; omega
                case rel =>
                  refine ⟨j2 + 1, timeStep x out2 y, B2 + 100000, by have := Hk2.out; omega, by go_num, by omega, by omega, ?_, ?_, by rw [← he2.out, drop_cons Hy.out]; rfl, ?_⟩
                  · unfold timeStep; rw [if_pos hto]; exact bd_set hbo2.out (by omega) (by omega) _
                  · unfold timeStep; rw [if_pos hto, show max (at0 out2 x) (at0 out2 y.frm + y.gap) = at0 out2 y.frm + y.gap from by omega]
                    exact (own_set hown2 x.toNat _).1.alloc _
                  · exact ((hb2.setCell (p := ⟨g, _, none⟩) hg1 _).alloc (by have := hb2.size; simpa [World.setCell] using this) _).drew
              · go_wp2_with fail
                have hwr : IntKind.i64.wrap (at0 out2 y.frm + y.gap) = at0 out2 y.frm + y.gap := IntWalk.i64_in _ (by omega)
                refine wp_region_still_tail 16 (by kernel_rfl) (by kernel_rfl) ?_
                simp only [List.take_succ_cons, List.take_zero, List.drop_succ_cons, List.drop_zero]
                change wpStill _ _ (World.drew _) _ _ _
                repeat still_step
                refine wpStill_nil ?_
                change wpList _ _ _ _ _ (World.drew _)
                go_wp2_with fail
                go_roundg (gk - 1)
                case measure => have := Hk2.out; omega
                case rel =>
                  refine ⟨j2 + 1, timeStep x out2 y, B2 + 100000, by have := Hk2.out; omega, by go_num, by omega, by omega, ?_, ?_, by rw [← he2.out, drop_cons Hy.out]; rfl, ?_⟩
                  · unfold timeStep; rw [if_pos hto]; exact bd_set hbo2.out (by omega) (by omega) _
                  · unfold timeStep; rw [if_pos hto, show max (at0 out2 x) (at0 out2 y.frm + y.gap) = at0 out2 x from by omega]
                    exact (own_set hown2 x.toNat _).1.alloc _
                  · exact ((hb2.setCell (p := ⟨g, _, none⟩) hg1 _).alloc (by have := hb2.size; simpa [World.setCell] using this) _).drew
            · have ht : (y.to == x) = false := by simpa using hto
              have Hto := Lib.hid hto; clear hto
              go_wp2_with fail
              go_roundg (gk - 1)
              case measure => have := Hk2.out; omega
              case rel =>
                refine ⟨j2 + 1, timeStep x out2 y, B2 + 100000, by have := Hk2.out; omega, by go_num, by omega, by omega, ?_, ?_, by rw [← he2.out, drop_cons Hy.out]; rfl, ?_⟩
                · unfold timeStep; rw [if_neg Hto.out]; exact bd_mono hbo2.out (by omega)
                · unfold timeStep; rw [if_neg Hto.out]; exact hown2.alloc _
                · exact hb2.alloc hb2.size _
          · go_wp2_with fail
            go_roundg (R.length - j - 1)
            case measure => have := Hk.out; omega
            case rel =>
              have := Hk2.out
              refine ⟨j + 1, out2, B2, by have := Hk.out; omega, by go_num, by omega, by omega, hbo2, hown2, ?_, hb2⟩
              have := he2.out
              rw [drop_end l2.out (by omega)] at this
              have he := he.out
              rw [drop_cons Hx.out] at he
              simp only [timesRun, List.foldl_cons] at he ⊢
              simp only [List.foldl_nil] at this
              unfold Hid; rw [← he, ← this]
      · have hr0 : Hid (out = timesRun l R (start.set event.toNat (at0 (timesRun l R start) event + byy))) := by rw [drop_end rfl (by omega)] at he; exact he.out
        clear he hbo
        have ot5 : OwnI wr w.heap.size (.slice (some ⟨gt, 0, none⟩) start.length capt) start.length (timesRun l R start) := owns_below (owns_below O1.out hb2) hb
        have hbw : Below w.heap.size w wr := hb2'.trans (hb.mono hb2'.size)
        have hR2' : Rows2 w.heap.size wr (.slice (some ⟨gt, 0, none⟩) start.length capt) start.length (timesRun l R start) v start.length out :=
          ⟨ot5, owns_base hown hb2'.size, fun k hk hv2 => by subst hv; simp only [Value.ownBlock, Option.some.injEq] at hk hv2; omega⟩
        have HR2 := Lib.hid hR2'
        have Bo := Lib.hid (timesRun_bd Hz.out.2.2.2 Hz.out.2.1 R (start.set event.toNat (at0 (timesRun l R start) event + byy)) 30000000000 (by omega) (by simp) (bd2_set (fun t ht => by have := Hz.out.2.2.1 t ht; omega) (A := 0) (B := 100000) (by omega) (by omega) (by omega) _))
        clear hown ot5 hR2' hb
        rw [hv] at HR2 ⊢
        go_wp2_with fail
        go_loopg [98] start.length (fun k i wr => ∃ (j : Nat) (out : List Int), j + k = start.length ∧ i = .int .i64 j ∧ Rows2 w.heap.size wr (.slice (some ⟨gt, 0, none⟩) start.length capt) start.length (timesRun l R start) (.slice (some ⟨g, 0, none⟩) start.length cap) start.length out ∧
          Hid (Bd2 out (-(30000000000 * ((j : Int) + 1))) 100000000000) ∧ Hid (((List.range start.length).drop j).foldl (subStep (timesRun l R start)) out = refDelayVal start l R event byy) ∧ Below w.heap.size w wr)
        case atStart => exact ⟨0, _, by omega, rfl, HR2.out, (by rw [hr0.out]; exact bd2_mono Bo.out (by omega) (by have := Hk2.out; omega)), (by unfold Hid; rw [refDelayVal_eq, hr0.out]; rfl), hbw⟩
        case round =>
          clear hbw
          obtain ⟨j, out, hk, rfl, hR, hbo, hru, hbr⟩ := hrel
          have Hk := Lib.hid hk; clear hk
          by_cases hlt : j < start.length
          · obtain ⟨g, cap, hg, hg1, hg2⟩ := own_shape hR.l (by omega)
            cases hg
            obtain ⟨gt, capt, hgt, _, hgt2⟩ := own_shape hR.t (by omega)
            cases hgt
            have m1 := own_cell hR.l hlt
            have m2 := own_cell hR.t hlt
            have m3 := hR.l.frozenAt j
            have lo := own_len hR.l
            have lt := own_len hR.t
            have hj2 : j < 1000 := by omega
            have r1 := bd2_at hbo.out (i := j) (by omega) (by omega)
            have r2 := bd2_at Bt.out (i := j) (by omega) (by omega)
            have HR := Lib.hid hR; clear hR
            have Lo := Lib.hid lo; clear lo
            have Lt := Lib.hid lt; clear lt
            rw [show out.getD j 0 = at0 out j from rfl] at m1
            rw [show ((timesRun l R start)).getD j 0 = at0 ((timesRun l R start)) j from rfl] at m2
            go_wp2_with fail
            have hwr : IntKind.i64.wrap (at0 out j - at0 ((timesRun l R start)) j) = at0 out j - at0 ((timesRun l R start)) j := IntWalk.i64_in _ (by omega)
            refine wp_region_still_tail 12 (by kernel_rfl) (by kernel_rfl) ?_
            simp only [List.take_succ_cons, List.take_zero, List.drop_succ_cons, List.drop_zero]
            change wpStill _ _ (World.drew _) _ _ _
            repeat still_step
            refine wpStill_nil ?_
            change wpList _ _ _ _ _ (World.drew _)
            go_wp2_with fail
            go_roundg (gk - 1)
            case measure => have := Hk.out; omega
            case rel =>
              refine ⟨j + 1, subStep (timesRun l R start) out j, by have := Hk.out; omega, by go_num, (HR.out.set j _).drew, ?_, ?_, ?_⟩
              · exact bd2_set hbo.out (by omega) (by omega) (by omega) _
              · have := hru.out; rw [drop_cons (show (List.range start.length)[j]? = some j by simp [hlt])] at this; exact this
              · exact (hbr.setCell (p := ⟨g, _, none⟩) hg1 _).drew
          · have hfin : OwnI wr w.heap.size (.slice (some ⟨g, 0, none⟩) start.length cap) (refDelayVal start l R event byy).length (refDelayVal start l R event byy) := by
              rw [List.drop_eq_nil_of_le (by simp; omega)] at hru
              rw [← hru.out]; have := own_len hR.l; show OwnI wr _ _ out.length out; rw [this]; exact hR.l
            have Hfin := Lib.hid hfin; clear hfin hR hru
            go_wp2_with fail
            go_ret2
            exact ⟨_, by rw [hd.out]; rfl, ⟨fun _ => Hfin.out, fun h => absurd hd.out h⟩, hbr⟩
  · have hq := neq_beq hs
    have Hs := Lib.hid hs; clear hs
    go_enter Try.func20, Try.ntmps20
    go_wp2_with fail
    refine H.out.mono ?_
    rintro e w1 ⟨v1, rfl, hs, hb⟩
    go_wp2_with fail
    go_ret2
    have hd : refDelayErr start l R event byy = refErr start l R := by unfold refDelayErr; rw [if_pos Hs.out]
    exact ⟨_, by rw [hd]; rfl, ⟨fun h => absurd (hd.symm.trans h) Hs.out, fun _ => rfl⟩, hb⟩
end Go.Proofs.Ytkklnaejpgcgoaa
