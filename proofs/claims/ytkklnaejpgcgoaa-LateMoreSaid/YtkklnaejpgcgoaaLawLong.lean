/- LateLong: for every input the law returns true. No condition. -/
import Derived.Test.YtkklnaejpgcgoaaLawTimes
import Derived.Test.YtkklnaejpgcgoaaLateGrow
import Derived.Deep.AppendLies
namespace Go.Proofs.Ytkklnaejpgcgoaa
open Go.ChangeShapes Go.WideShapes Go.ChangeAt Go.RowKit

theorem info_lwait : (Try.prog.info? 34).map (fun i => (i.zero, i.size, i.bytes)) = some (some (.agg #[.int .i64 0, .int .i64 0, .int .i64 0]), 3, 24) := by kernel_rfl

/-- two rows in different blocks -/
def Apart (va vb : Value) : Prop := ∀ k, va.ownBlock = some k → vb.ownBlock ≠ some k
theorem Apart.ne {va vb : Value} (h : Apart va vb) : va.ownBlock = none ∨ va.ownBlock ≠ vb.ownBlock := by
  cases hk : va.ownBlock with
  | none => exact .inl rfl
  | some k => exact .inr fun e => h k hk e.symm
theorem Apart.lies {va vb : Value} {g n c H : Nat} (h : Apart va vb) (hl : ∀ k, va.ownBlock = some k → k < H) (hg : vb.ownBlock = some g ∨ g = H) : Apart va (.slice (some ⟨g, 0, none⟩) n c) := by
  intro k hk e
  simp only [Value.ownBlock, Option.some.injEq] at e
  subst e
  rcases hg with hg | rfl
  · exact h _ hk hg
  · exact absurd (hl _ hk) (Nat.lt_irrefl _)
theorem alloc_new (w : World) (o : Obj) : (w.alloc o).heap[w.heap.size]? = some o := by
  show (w.heap.push o)[w.heap.size]? = some o
  simp
theorem Apart.symm {va vb : Value} (h : Apart va vb) : Apart vb va := fun k hk e => h k e hk

set_option maxRecDepth 100000 in
set_option maxHeartbeats 1000000 in
theorem lawLong_any (w : World) (a1 a2 : Option Addr) (n1 c1 n2 c2 : Nat) (start : List Int) (l : List Wt) (ev wt : Int) (h1 : Ints w a1 n1 start) (h2 : Wts w a2 n2 l) (hc : a1 = none → c1 = 0) (hc2 : a2 = none → c2 = 0)
    (u0 : 0 ≤ ev) (u1 : ev ≤ 255) (v0 : 0 ≤ wt) (v1 : wt ≤ 255) :
    Calls Try.prog 4 #[.slice a1 n1 c1, .slice a2 n2 c2, .int .u8 ev, .int .u8 wt] w fun e w' => e = .returned (.bool true) ∧ Below w.heap.size w w' := by
  obtain rfl := h1.len
  have b1 := h1.bnd
  have b2 := h2.bnd
  have K := Lib.hid (known_any w)
  have Hc := Lib.hid hc; clear hc
  have Hc2 := Lib.hid hc2; clear hc2
  by_cases hf : start.length ≤ 60 ∧ n2 ≤ 120
  · have hfd := Lib.hid (show decide (start.length ≤ 60 ∧ n2 ≤ 120) = true by simpa using hf)
    obtain ⟨hf1, hf2⟩ := hf
    go_enter Try.func4, Try.ntmps4
    go_wp2_with fail
    refine K.out.mono ?_
    rintro e w1 ⟨rfl, hb1⟩
    go_wp2_with fail
    refine (few_any w1 a1 a2 _ c1 n2 c2 b1 b2).mono ?_
    rintro e w1' ⟨rfl, rfl⟩
    rw [hfd.out]
    have own0 : OwnI (w1.alloc (.cells #[] 3)) w1.heap.size (.slice (some ⟨w1.heap.size, 0, none⟩) 0 0) 0 [] := World.ownsRow_made w1 #[] 0 (Nat.le_refl _) (by simp [maxLen]) (by simp)
    have hba : Below w.heap.size w (w1.alloc (.cells #[] 3)) := hb1.alloc hb1.size _
    have hr := h1.below hba
    have Hr := Lib.hid hr
    have Own0 := Lib.hid own0
    clear own0 hr
    go_wp2_with (at_builtin; refine wpList_app (enc := encInt) (fun _ => rfl) encInt_one _ rfl _ _ 22 rfl w1.heap.size 3 (.int .i64 0) 8 Try.underlying22 info_int rfl (by decide) (.slice (some ⟨w1.heap.size, 0, none⟩) 0 0) _ [] rfl Own0.out a1 start.length c1 start rfl Hr.out Hc.out (by simp [maxLen]; omega) (by omega) (by simp) ?_)
    intro vs w2 hown2 hgrow2 _
    have hb2 : Below w.heap.size w w2 := hba.grown hgrow2 (by simp; have := hb1.size; omega) (by intro k hk; simp only [Value.ownBlock, Option.some.injEq] at hk; have := hb1.size; omega)
    have os : OwnI w2 w1.heap.size vs start.length start := by
      rw [flat_ints] at hown2
      simpa using hown2
    have Os := Lib.hid os
    have hgs1 := hgrow2.size
    clear hown2 hgrow2 Own0 Hr os
    have own0 : (w2.alloc (.cells #[] 34)).ownsRow w2.heap.size 34 3 (.slice (some ⟨w2.heap.size, 0, none⟩) 0 0) 0 [] := World.ownsRow_made w2 #[] 0 (Nat.le_refl _) (by simp [maxLen]) (by simp)
    have hbb : Below w.heap.size w (w2.alloc (.cells #[] 34)) := hb2.alloc hb2.size _
    have hr := h2.below hbb
    have Hr := Lib.hid hr
    have Own0 := Lib.hid own0
    clear own0 hr
    go_wp2_with (at_builtin; refine wpList_app (enc := encWt) encWt_len encWt_one _ rfl _ _ 23 rfl w2.heap.size 34 (.agg #[.int .i64 0, .int .i64 0, .int .i64 0]) 24 Try.underlying23 info_lwait rfl (by decide) (.slice (some ⟨w2.heap.size, 0, none⟩) 0 0) _ [] rfl Own0.out a2 n2 c2 l rfl Hr.out Hc2.out (by simp [maxLen]; omega) (by omega) (by simp) ?_)
    intro vm w3 hown3 hgrow3 _
    have hb3 : Below w.heap.size w w3 := hbb.grown hgrow3 (by simp; have := hb2.size; omega) (by intro k hk; simp only [Value.ownBlock, Option.some.injEq] at hk; have := hb2.size; omega)
    have om : w3.ownsRow w2.heap.size 34 3 vm n2 (l.flatMap encWt) := by simpa using hown3
    have os : OwnI w3 w1.heap.size vs start.length start := ((Os.out.alloc _).kept hgrow3 (.inr fun e => by
      have := (Os.out.lt _ e).2
      simp at this))
    have ap : Apart vm vs := fun k hk e => by
      have h5 := (om.lt k hk).1
      have h6 := (Os.out.lt k e).2
      omega
    have Om := Lib.hid om
    have Os := Lib.hid os
    have Ap := Lib.hid ap
    have hgs2 := hgrow3.size
    have hlen2 := Lib.hid h2.len
    have hwu1 : IntKind.i64.wrap ev = ev := IntWalk.i64_in _ (by omega)
    have hwu2 : IntKind.i64.wrap (150 + ev) = 150 + ev := IntWalk.i64_in _ (by omega)
    have hwv1 : IntKind.i64.wrap wt = wt := IntWalk.i64_in _ (by omega)
    have hwv2 : IntKind.i64.wrap (900 + wt) = 900 + wt := IntWalk.i64_in _ (by omega)
    have hs12 : w1.heap.size ≤ w2.heap.size := by simp at hgs1; omega
    have hs23 : w2.heap.size ≤ w3.heap.size := by simp at hgs2; omega
    clear hown3 hgrow3 Own0 Hr om os ap hgs1 hgs2
    go_wp2_with fail
    go_loopg [9] (150 + ev.toNat - start.length) (fun k vs wr => ∃ S : List Int, S.length + k = 150 + ev.toNat ∧ OwnI wr w1.heap.size vs S.length S ∧ wr.ownsRow w2.heap.size 34 3 vm n2 (l.flatMap encWt) ∧ Apart vm vs ∧ w2.heap.size ≤ wr.heap.size ∧ Below w.heap.size w wr)
    case atStart => exact ⟨start, by omega, Os.out, Om.out, Ap.out, hs23, hb3⟩
    case round =>
      obtain ⟨S, hk, os, om, ap, hsz, hb⟩ := hrel
      obtain ⟨wo, rfl⟩ : ∃ wo : World, wo = wr := ⟨_, rfl⟩
      have Hk := Lib.hid hk
      have Om := Lib.hid om
      have Ap := Lib.hid ap
      obtain ⟨xa, xc, hvs, _, hxn⟩ := own_slice os
      subst hvs
      have Os := Lib.hid os
      by_cases hlt : (S.length : Int) < 150 + ev
      · obtain ⟨ii, hii, zi1, zi2, zi3⟩ := info_parts info_int
        have hlo : ∀ k, (Value.slice xa S.length xc).ownBlock = some k → w.heap.size ≤ k := fun k hk => by have := (os.lt k hk).1; have := hb1.size; omega
        have hS : S.length ≤ 500 := by omega
        have Hlo := Lib.hid hlo
        clear os om ap hk hlo
        go_wp2_with (at_builtin; refine wpList_append_lies _ rfl _ _ 22 rfl w1.heap.size 3 ii (.int .i64 0) 1 8 Try.underlying22 hii zi1 zi2 zi3 rfl (by decide) _ _ _ rfl (Os.out.alloc _) ⟨wo.heap.size, 0, none⟩ 1 1 [.int .i64 0] rfl rfl (cell_one_new _ _ _) (one_int _ _) (by decide) (by simp [maxLen]; omega) (by omega) (by simp; omega) (wo.heap.size + 1) (by simp) ?_)
        intro g cap w4 hown4 hgrow4 hg4 hlt4
        have hb4 : Below w.heap.size w w4 := (hb.alloc hb.size (.cells #[.int .i64 0] 3)).grown hgrow4 (by have := hb.size; simp; omega) (fun k hk => Hlo.out k hk)
        have om4 := (Om.out.alloc (.cells #[.int .i64 0] 3)).kept hgrow4 Ap.out.ne
        have ap4 : Apart vm (.slice (some ⟨g, 0, none⟩) (S.length + 1) cap) := Ap.out.lies (fun k hk => by have := (Om.out.lt k hk).2; omega) hg4
        have hsz4 : w2.heap.size ≤ w4.heap.size := by have := hgrow4.size; simp at this; omega
        have Os4 := Lib.hid (own_append1 hown4)
        have Om4 := Lib.hid om4
        have Ap4 := Lib.hid ap4
        clear hown4 hgrow4 hg4 om4 ap4
        go_wp2_with fail
        go_roundg (gk - 1)
        case measure => have := Hk.out; omega
        case rel => exact ⟨S ++ [0], by have := Hk.out; simp; omega, by have := Os4.out; unfold OwnI; simpa using this, Om4.out, Ap4.out, hsz4, hb4⟩
      · have hS : S.length ≤ 500 := by omega
        have Hos0 := Lib.hid os.lt
        clear os om ap hk
        obtain ⟨l2, hl2⟩ : ∃ l2 : Nat, l2 = n2 := ⟨_, rfl⟩
        go_wp2_with fail
        go_loopg [10] (900 + wt.toNat - n2) (fun k vm wr => ∃ M : List Wt, M.length + k = 900 + wt.toNat ∧ OwnI wr w1.heap.size (.slice xa S.length xc) S.length S ∧ wr.ownsRow w2.heap.size 34 3 vm M.length (M.flatMap encWt) ∧ Apart (.slice xa S.length xc) vm ∧ w2.heap.size ≤ wr.heap.size ∧ Below w.heap.size w wr)
        case atStart => exact ⟨l, by have := hlen2.out; omega, Os.out, by have := Om.out; rw [← hlen2.out] at this; exact this, Ap.out.symm, hsz, hb⟩
        case round =>
          clear hb hsz
          obtain ⟨M, hk, os, om, ap, hsz, hb⟩ := hrel
          have Hk2 := Lib.hid hk
          have Os := Lib.hid os
          have Ap := Lib.hid ap
          obtain ⟨ya, yc, hvm, _, _⟩ := own_slice om
          subst hvm
          have Om := Lib.hid om
          by_cases hlt2 : (M.length : Int) < 900 + wt
          · obtain ⟨ii, hii, zi1, zi2, zi3⟩ := info_parts info_lwait
            have hlo : ∀ k, (Value.slice ya M.length yc).ownBlock = some k → w.heap.size ≤ k := fun k hk => by have := (om.lt k hk).1; have := hb1.size; omega
            have hM : M.length ≤ 1500 := by omega
            have Hlo := Lib.hid hlo
            have Hnb := Lib.hid (alloc_new wr)
            clear os om ap hk hlo
            go_wp2_with (at_builtin; refine wpList_append_lies _ rfl _ _ 23 rfl w2.heap.size 34 ii (.agg #[.int .i64 0, .int .i64 0, .int .i64 0]) 3 24 Try.underlying23 hii zi1 zi2 zi3 rfl (by decide) _ _ _ rfl (Om.out.alloc _) ⟨wr.heap.size, 0, none⟩ 1 1 (encWt ⟨0, (S.length : Int) - 1, 0⟩) rfl rfl ?_ (encWt_one _) (by decide) (by simp [maxLen]; omega) (by omega) (by simp; omega) (wr.heap.size + 1) (by simp) ?_)
            · exact World.news_of_block (cs := #[.int .i64 0, .int .i64 ((S.length : Int) - 1), .int .i64 0]) (t := 34) (fr := (0, 0)) (Hnb.out _)
            intro g cap w4 hown4 hgrow4 hg4 hlt4
            have hb4 : Below w.heap.size w w4 := (hb.alloc hb.size (.cells #[.int .i64 0, .int .i64 ((S.length : Int) - 1), .int .i64 0] 34)).grown hgrow4 (by have := hb.size; simp; omega) (fun k hk => Hlo.out k hk)
            have os4 : OwnI w4 w1.heap.size (.slice xa S.length xc) S.length S := (Os.out.alloc (.cells #[.int .i64 0, .int .i64 ((S.length : Int) - 1), .int .i64 0] 34)).kept hgrow4 Ap.out.ne
            have ap4 : Apart (.slice xa S.length xc) (.slice (some ⟨g, 0, none⟩) (M.length + 1) cap) := Ap.out.lies (fun k hk => by have := (Os.out.lt k hk).2; omega) hg4
            have hsz4 : w2.heap.size ≤ w4.heap.size := by have := hgrow4.size; simp at this; omega
            have om4 : w4.ownsRow w2.heap.size 34 3 (.slice (some ⟨g, 0, none⟩) (M.length + 1) cap) (M ++ [(⟨0, (S.length : Int) - 1, 0⟩ : Wt)]).length ((M ++ [(⟨0, (S.length : Int) - 1, 0⟩ : Wt)]).flatMap encWt) := by
              rw [List.flatMap_append]; simpa using hown4
            have Os4 := Lib.hid os4
            have Om4 := Lib.hid om4
            have Ap4 := Lib.hid ap4
            clear hown4 hgrow4 hg4 om4 ap4 os4
            go_wp2_with fail
            go_roundg (wt.toNat + 900 - M.length - 1)
            case measure => have := Hk2.out; omega
            case rel => exact ⟨M ++ [⟨0, (S.length : Int) - 1, 0⟩], by have := Hk2.out; simp; omega, Os4.out, Om4.out, Ap4.out, hsz4, hb4⟩
          · have hM : M.length ≤ 1500 := by omega
            obtain ⟨wz, rfl⟩ : ∃ wz : World, wz = wr := ⟨_, rfl⟩
            have hrs : Ints wz xa S.length S := (own_ints os).1
            have hrm : Wts wz ya M.length M := (owns_row (sz := 3) (enc := encWt) encWt_len om (by omega)).1
            clear os om ap hk
            have H1 := Lib.hid (lateTimes_any wz xa ya _ xc _ yc S M hrs hrm (fun h => (hxn h).2))
            go_wp2_with fail
            refine H1.out.mono ?_
            rintro e w5 ⟨v5, rfl, _, hb5⟩
            have hb5' := below_step hb hb5 hb.size
            have H2 := Lib.hid (plain_any w5 ya _ yc M (hrm.below hb5) (by omega))
            go_wp2_with fail
            refine H2.out.mono ?_
            rintro e w6 ⟨a6, c6, rfl, hl6, hb6⟩
            have hb6' := below_step hb5' hb6 hb5'.size
            have H3 := Lib.hid (reftimes_any w6 xa a6 _ xc _ c6 S M (RefR S M) ((hrs.below hb5).below hb6) hl6 (fun h => (hxn h).2) (refOk S M))
            go_wp2_with fail
            refine H3.out.mono ?_
            rintro e w7 ⟨v7, rfl, _, hb7⟩
            have hb7' := below_step hb6' hb7 hb6'.size
            rw [err_eq]
            have hq : (solveErr S M == solveErr S M) = true := by simp
            have hz := solveErr_long S M
            by_cases g1 : 200 < S.length
            · have hz' : (solveErr S M == 3) = true := by rw [hz]; simp [g1]
              have d1 : decide ((200 : Int) < (S.length : Int)) = true := by simpa using (by omega : (200 : Int) < S.length)
              clear hz
              go_wp2_with fail
              go_ret
              exact ⟨rfl, hb7'⟩
            · have d1 : decide ((200 : Int) < (S.length : Int)) = false := by simpa using (by omega : (S.length : Int) ≤ 200)
              by_cases g2 : 1000 < M.length
              · have hz' : (solveErr S M == 3) = true := by rw [hz]; simp [g2]
                have d2 : decide ((1000 : Int) < (M.length : Int)) = true := by simpa using (by omega : (1000 : Int) < M.length)
                clear hz
                go_wp2_with fail
                go_ret
                exact ⟨rfl, hb7'⟩
              · have hz' : (solveErr S M == 3) = false := by rw [hz]; simp; omega
                have d2 : decide ((1000 : Int) < (M.length : Int)) = false := by simpa using (by omega : (M.length : Int) ≤ 1000)
                clear hz
                go_wp2_with fail
                go_ret
                exact ⟨rfl, hb7'⟩
  · have hfd := Lib.hid (show decide (start.length ≤ 60 ∧ n2 ≤ 120) = false by simpa using hf)
    have Hf := Lib.hid hf; clear hf
    go_enter Try.func4, Try.ntmps4
    go_wp2_with fail
    refine K.out.mono ?_
    rintro e w1 ⟨rfl, hb1⟩
    go_wp2_with fail
    refine (few_any w1 a1 a2 _ c1 n2 c2 b1 b2).mono ?_
    rintro e w1' ⟨rfl, rfl⟩
    rw [hfd.out]
    go_wp2_with fail
    go_ret
    exact ⟨rfl, hb1⟩

set_option maxRecDepth 100000 in
theorem lateLong_lifted (os : Os) (started : os.Started) (H : Type) (enc : TypeId × Value → H) :
    ReturnsInHanded {} Try.checked os 4 .any (Rows.lateLongSpec.pre6 enc Try.prog Try.f4 Rows.lateLongRow.domain false) (Rows.lateLongSpec.post enc Try.prog Try.f4 false true false false) := by
  refine returnsInHanded_of_change (C := Try.checked) own started (by kernel_rfl) Try.func4
    (ChangeSpec.witness6 (enc := enc) (C := Try.checked) false ⟨#[], #[.slice none 0 0, .slice none 0 0, .int .u8 0, .int .u8 0], []⟩ 8 (by kernel_rfl) (by kernel_rfl) (by kernel_rfl) (by kernel_rfl)) ?_
  intro W base args ds gs before hval0 hW hcnd _
  have hval : ∀ (j : Nat) t v, Try.f4.params[j]? = some t → args[j]? = some v → Value.okWide Try.prog W .any base t v := hval0
  have hW' := hW
  obtain ⟨p, q, hA0, hV, rfl, hfz, hnd⟩ := hW
  have hA : DataW.TrodAll enc Try.prog W 0 (fun _ => true) true Try.f4.params.toList args.toList ds p := hA0
  rw [Try.params4] at hA hval
  obtain ⟨v0, vs0, d0, ds0, p0, q0, hargs, rfl, rfl, k0, r0⟩ := trodAll_cons hA
  obtain ⟨v1, vs1, d1, ds1, p1, q1, rfl, rfl, rfl, k1, r1⟩ := trodAll_cons r0
  obtain ⟨v2, vs2, d2, ds2, p2, q2, rfl, rfl, rfl, k2, r2⟩ := trodAll_cons r1
  obtain ⟨v3, vs3, d3, ds3, p3, q3, rfl, rfl, rfl, k3, r3⟩ := trodAll_cons r2
  obtain ⟨rfl, rfl, rfl⟩ := trodAll_nil r3
  obtain rfl : args = #[v0, v1, v2, v3] := by cases args; simp_all
  obtain ⟨rfl, rfl⟩ := trodVars_none hV
  have lt0 : ∀ x ∈ p0, x.block < W.heap.size := by obtain ⟨m, hm⟩ := k0; exact DataW.trod_lt m _ _ _ hm
  have hv0 := hval 0 22 v0 rfl rfl
  have lt1 : ∀ x ∈ p1, x.block < W.heap.size := by obtain ⟨m, hm⟩ := k1; exact DataW.trod_lt m _ _ _ hm
  have hv1 := hval 1 23 v1 rfl rfl
  have lt2 : ∀ x ∈ p2, x.block < W.heap.size := by obtain ⟨m, hm⟩ := k2; exact DataW.trod_lt m _ _ _ hm
  have hv2 := hval 2 5 v2 rfl rfl
  have lt3 : ∀ x ∈ p3, x.block < W.heap.size := by obtain ⟨m, hm⟩ := k3; exact DataW.trod_lt m _ _ _ hm
  have hv3 := hval 3 5 v3 rfl rfl
  have fin : Calls Try.prog 4 #[v0, v1, v2, v3] W (fun e W' => e = .returned (.bool true) ∧ Below W.heap.size W W') := by
    obtain ⟨a1, n1, c1, start, rfl, h1, _, hc, _⟩ := open_Ints hv0 k0
    obtain ⟨a2, n2, c2, l, rfl, h2, _, hc2, _⟩ := open_Wts hv1 k1
    obtain ⟨ev, rfl, _, _, hwf⟩ := open_int Try.underlying5 hv2 k2
    obtain ⟨wt, rfl, _, _, hwf2⟩ := open_int Try.underlying5 hv3 k3
    have hwf : IntKind.u8.min ≤ ev ∧ ev ≤ IntKind.u8.max := by simpa [Lit.wf] using hwf
    have hwf2 : IntKind.u8.min ≤ wt ∧ wt ≤ IntKind.u8.max := by simpa [Lit.wf] using hwf2
    have hwf : 0 ≤ ev ∧ ev ≤ 255 := hwf
    have hwf2 : 0 ≤ wt ∧ wt ≤ 255 := hwf2
    exact lawLong_any W a1 a2 n1 c1 n2 c2 start l ev wt h1 h2 hc hc2 hwf.1 hwf.2 hwf2.1 hwf2.2
  clear hA0 hval0
  refine fin.mono fun e W' ⟨he, bel⟩ => ?_
  subst he
  exact ⟨_, rfl, _, _, _, [], _, [], hW', trodAll_mk1 (shut_bool Try.underlying4 _), (trodAll_cons_mk (Below.trod laidOut (by kernel_rfl) (of_decide_eq_true (by kernel_rfl)) k0 bel lt0) (trodAll_cons_mk (Below.trod laidOut (by kernel_rfl) (of_decide_eq_true (by kernel_rfl)) k1 bel lt1) (trodAll_cons_mk (Below.trod laidOut (by kernel_rfl) (of_decide_eq_true (by kernel_rfl)) k2 bel lt2) (trodAll_cons_mk (Below.trod laidOut (by kernel_rfl) (of_decide_eq_true (by kernel_rfl)) k3 bel lt3) trodAll_mk0)))), rfl, bel.frame _, fun h => by cases h⟩

/-- THE STATEMENT -/
theorem lateLong_holds : Rows.LateLongSaid :=
  OpenClaim.holds_of_wide 4 Try.f4 rfl rfl rfl rfl rfl rfl rfl ⟨rfl, rfl, rfl, rfl, rfl⟩ rfl rfl rfl rfl rfl (by kernel_rfl) Try.func4 (by kernel_rfl)
    (of_decide_eq_true (by kernel_rfl)) (by unfold Func.isWrapper; first | (rw [if_pos (by decide +kernel)]; kernel_rfl) | (rw [if_neg (by decide +kernel)]; exact ⟨rfl, rfl⟩))
    (fun os started H enc _ => lateLong_lifted os started H enc)
end Go.Proofs.Ytkklnaejpgcgoaa
