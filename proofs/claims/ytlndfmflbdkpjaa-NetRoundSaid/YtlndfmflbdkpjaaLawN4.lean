/- NetRound: for every input the law returns true. No condition. -/
import Derived.Test.YtlndfmflbdkpjaaNetPlit
set_option maxRecDepth 1000000
namespace Go.Proofs.Ytlndfmflbdkpjaa
open Go.ChangeShapes Go.WideShapes Go.ChangeAt Go.RowKit Go.Sort

theorem chk_elems {p : Plan} (h : chk p = 0) : p.elems.length ≠ 0 := by
  obtain ⟨_, h2, _⟩ := chk_zero h
  unfold argsOk numsOk at h2
  simp only [Bool.and_eq_true, decide_eq_true_eq] at h2
  exact h2.1.2
/-- what the loop over the ways finds -/
def thereGo (out q : Int) : List Way → Bool → Bool
  | [], t => t
  | x :: r, t => thereGo out q r (t || (decide (x.out = out) && (decide (x.pos = 0) || decide (x.pos = q))))
theorem there_step {out q : Int} {l : List Way} {j : Nat} {x : Way} {t r : Bool} (h : thereGo out q (l.drop j) t = r) (hx : l[j]? = some x) : thereGo out q (l.drop (j + 1)) (t || (decide (x.out = out) && (decide (x.pos = 0) || decide (x.pos = q)))) = r := by
  rw [drop_cons hx] at h; exact h
theorem there_true (out q : Int) : ∀ l : List Way, thereGo out q l true = true := by
  intro l; induction l with
  | nil => rfl
  | cons x r ih => unfold thereGo; simpa using ih
theorem there_some (out q : Int) : ∀ l : List Way, wayGo q l = some out → thereGo out q l false = true := by
  intro l
  induction l with
  | nil => intro h; simp [wayGo] at h
  | cons x r ih =>
    intro h
    unfold wayGo at h
    unfold thereGo
    split at h
    · rename_i hx
      have : x.out = out := by simpa using h
      have e : (false || (decide (x.out = out) && (decide (x.pos = 0) || decide (x.pos = q)))) = true := by
        simp only [this, decide_true, Bool.true_and, Bool.false_or, Bool.or_eq_true, decide_eq_true_eq]; exact hx
      rw [e]; exact there_true _ _ _
    · rename_i hx
      have e : (false || (decide (x.out = out) && (decide (x.pos = 0) || decide (x.pos = q)))) = false := by
        simp only [Bool.false_or, Bool.and_eq_false_iff]; right
        simp only [Bool.or_eq_false_iff, decide_eq_false_iff_not]
        exact ⟨fun h => hx (.inl h), fun h => hx (.inr h)⟩
      rw [e]; exact ih h
theorem there_none (out q : Int) : ∀ l : List Way, wayGo q l = none → thereGo out q l false = false := by
  intro l
  induction l with
  | nil => intro _; rfl
  | cons x r ih =>
    intro h
    unfold wayGo at h
    unfold thereGo
    split at h
    · cases h
    · rename_i hx
      have e : (false || (decide (x.out = out) && (decide (x.pos = 0) || decide (x.pos = q)))) = false := by
        simp only [Bool.false_or, Bool.and_eq_false_iff]; right
        simp only [Bool.or_eq_false_iff, decide_eq_false_iff_not]
        exact ⟨fun h => hx (.inl h), fun h => hx (.inr h)⟩
      rw [e]; exact ih h
set_option maxHeartbeats 4000000 in
theorem lawRound_any (w : World) (pv : PV) (p : Plan) (x1 x2 x3 : Int) (l1 : 0 ≤ x1) (u1 : x1 ≤ 255) (l2 : 0 ≤ x2) (u2 : x2 ≤ 255) (l3 : 0 ≤ x3) (u3 : x3 ≤ 255) (h : PlanAt w pv p) :
    Calls Try.prog 11 #[pv.val p, .int .u8 x1, .int .u8 x2, .int .u8 x3] w fun en w' => en = .returned (.bool true) ∧ Below w.heap.size w w' := by
  obtain ⟨ae, ne, ce, aj, nj, cj, as_, ns, cs, al, nl, cl, lv⟩ := pv
  have hP := Lib.hid h
  have HBa := Lib.hid (pbox_new w ⟨ae, ne, ce, aj, nj, cj, as_, ns, cs, al, nl, cl, lv⟩ p)
  have Hba := Lib.hid (below_new w (.cells #[.slice ae ne ce, .slice aj nj cj, .slice as_ ns cs, .slice al nl cl, .int .i64 p.top, .int .i64 p.brake, .int .i64 p.margin, .int .i64 p.throw, .bool p.hard] 32))
  have K := Lib.hid (known4_any (w.alloc (.cells #[.slice ae ne ce, .slice aj nj cj, .slice as_ ns cs, .slice al nl cl, .int .i64 p.top, .int .i64 p.brake, .int .i64 p.margin, .int .i64 p.throw, .bool p.hard] 32)))
  have HF := Lib.hid (fun (u : World) (hb : Below w.heap.size w u) => finex_l (w := u) (hP.out.below hb))
  clear h
  dsimp only [PV.val]
  obtain ⟨_, c0, c1, c2, c3, c4, c5, c6, c7, c8⟩ := HBa.out
  dsimp only at c0 c1 c2 c3
  cases hf : fine p with
  | false =>
    rw [hf] at HF
    clear hf
    go_enter Try.func11, Try.ntmps11
    go_wp2_with fail
    refine (K.out).mono ?_
    rintro e w1 ⟨rfl, hbx⟩
    have HB1 := Lib.hid (HBa.out.below hbx)
    have Hb1 := Lib.hid (below_step Hba.out hbx Hba.out.size)
    clear hbx c0 c1 c2 c3 c4 c5 c6 c7 c8
    obtain ⟨_, c0, c1, c2, c3, c4, c5, c6, c7, c8⟩ := HB1.out
    dsimp only at c0 c1 c2 c3
    clear K
    go_wp2_with fail
    refine (HF.out w1 Hb1.out).mono ?_
    rintro e w2 ⟨rfl, hbx⟩
    have HB2 := Lib.hid (HB1.out.below hbx)
    have Hb2 := Lib.hid (below_step Hb1.out hbx Hb1.out.size)
    clear hbx c0 c1 c2 c3 c4 c5 c6 c7 c8
    obtain ⟨_, c0, c1, c2, c3, c4, c5, c6, c7, c8⟩ := HB2.out
    dsimp only at c0 c1 c2 c3
    go_wp2_with fail
    go_ret
    exact ⟨rfl, Hb2.out⟩
  | true =>
    rw [hf] at HF
    have HM := Lib.hid (fun (u : World) (hb : Below w.heap.size w u) => made_l (w := u) hf (hP.out.below hb))
    have Hok := Lib.hid (few_ok hP.out (fine_few hf).1)
    have Hc := Lib.hid (fine_few hf).2
    have G := Lib.hid (good_of (fine_few hf).2)
    clear hf
    go_enter Try.func11, Try.ntmps11
    go_wp2_with fail
    refine (K.out).mono ?_
    rintro e w1 ⟨rfl, hbx⟩
    have HB1 := Lib.hid (HBa.out.below hbx)
    have Hb1 := Lib.hid (below_step Hba.out hbx Hba.out.size)
    clear hbx c0 c1 c2 c3 c4 c5 c6 c7 c8
    obtain ⟨_, c0, c1, c2, c3, c4, c5, c6, c7, c8⟩ := HB1.out
    dsimp only at c0 c1 c2 c3
    clear K
    go_wp2_with fail
    refine (HF.out w1 Hb1.out).mono ?_
    rintro e w2 ⟨rfl, hbx⟩
    have HB2 := Lib.hid (HB1.out.below hbx)
    have Hb2 := Lib.hid (below_step Hb1.out hbx Hb1.out.size)
    clear hbx c0 c1 c2 c3 c4 c5 c6 c7 c8
    obtain ⟨_, c0, c1, c2, c3, c4, c5, c6, c7, c8⟩ := HB2.out
    dsimp only at c0 c1 c2 c3
    go_wp2_with fail
    refine (HM.out w2 Hb2.out).mono ?_
    rintro e w3 ⟨b, rfl, hbb, hn, hbx⟩
    have HB3 := Lib.hid (HB2.out.below hbx)
    have Hb3 := Lib.hid (below_step Hb2.out hbx Hb2.out.size)
    have HN3 := Lib.hid hn
    have hbb := Nat.le_trans Hb2.out.size hbb
    clear hbx hn HF HM c0 c1 c2 c3 c4 c5 c6 c7 c8
    obtain ⟨_, c0, c1, c2, c3, c4, c5, c6, c7, c8⟩ := HB3.out
    dsimp only at c0 c1 c2 c3
    have hne0 : ne ≠ 0 := by have h1 := chk_elems Hc.out; have h2 : p.elems.length = ne := hP.out.e.len; omega
    go_wp2_with fail
    obtain ⟨k0, hk0⟩ : ∃ k, k = x1 % (ne : Int) := ⟨_, rfl⟩
    obtain ⟨e0, he0⟩ : ∃ k, k = x2 % 4 := ⟨_, rfl⟩
    obtain ⟨q0, hq0⟩ : ∃ k, k = x3 % 3 := ⟨_, rfl⟩
    rw [← hk0, ← he0, ← hq0]
    clear hk0 he0 hq0 c0 c1 c2 c3 c4 c5 c6 c7 c8
    have T := Lib.hid (fun (u : World) (hb : Below w3.heap.size w3 u) (o : Int) => nthrough_any u b p (HN3.out.below hb) k0 o q0)
    have F := Lib.hid (fun (u : World) (hb : Below w3.heap.size w3 u) (o : Int) => nfrom_any u b p (HN3.out.below hb) k0 o q0)
    have O := Lib.hid (fun (u : World) (hb : Below w3.heap.size w3 u) => nouts_any u b p (HN3.out.below hb) k0 e0)
    cases ht : through p k0 e0 q0 with
    | none =>
      have T1 := Lib.hid (T.out w3 (Below.refl _ _) e0)
      rw [ht] at T1
      dsimp only [Option.getD_none, Option.isSome_none] at T1
      have Hs := Lib.hid (there_none 0 q0 _ (show wayGo q0 (outs p k0 e0) = none from ht))
      clear ht
      refine T1.out.mono ?_
      rintro en w4 ⟨rfl, hbx⟩
      have Hx4 := Lib.hid hbx
      clear hbx
      go_wp2_with fail
      refine (O.out w4 Hx4.out).mono ?_
      rintro en w5 ⟨a, n, c, rfl, hr, hn, hbx⟩
      have Hr := Lib.hid hr
      have Hx5 := Lib.hid (below_step Hx4.out hbx Hx4.out.size)
      have ly := Lib.hid hr.len
      clear hr hbx
      go_wp2_with fail
      go_loopg [20, 21] n (fun k t i' wr => ∃ (j : Nat) (tb : Bool), j + k = n ∧ i' = .int .i64 j ∧ t = .bool tb ∧ Hid (thereGo 0 q0 ((outs p k0 e0).drop j) tb = false) ∧ wr = w5)
      case atStart => exact ⟨0, false, by omega, rfl, rfl, Lib.hid Hs.out, rfl⟩
      case round =>
        obtain ⟨j, tb, hk, rfl, rfl, hw, rfl⟩ := hrel
        have Hk := Lib.hid hk; clear hk
        by_cases hlt : j < n
        · obtain ⟨x, hx⟩ := get_some ly.out hlt
          obtain ⟨pb, off, rfl, hpb, g1, g2⟩ := Hr.out.way hx
          have Hx := Lib.hid hx; clear hx
          cases tb with
          | true =>
            have Hn := Lib.hid (show thereGo 0 q0 ((outs p k0 e0).drop (j + 1)) true = false by have h7 := there_step hw.out Hx.out; simpa [] using h7)
            go_wp2_with fail
            go_roundg (gk - 1)
            case measure => have := Hk.out; omega
            case rel => exact ⟨j + 1, true, by have := Hk.out; omega, by go_num, rfl, Hn.out, rfl⟩
          | false =>
            by_cases o1 : x.out = 0
            · have q1 : (x.out == 0) = true := by simpa using o1
              by_cases o2 : x.pos = 0
              · have q2 : (x.pos == 0) = true := by simpa using o2
                have Hn := Lib.hid (show thereGo 0 q0 ((outs p k0 e0).drop (j + 1)) true = false by have h7 := there_step hw.out Hx.out; simpa [o1, o2] using h7)
                clear o1 o2
                go_wp2_with fail
                go_roundg (gk - 1)
                case measure => have := Hk.out; omega
                case rel => exact ⟨j + 1, true, by have := Hk.out; omega, by go_num, rfl, Hn.out, rfl⟩
              · have q2 : (x.pos == 0) = false := by simpa using o2
                by_cases o3 : x.pos = q0
                · have q3 : (x.pos == q0) = true := by simpa using o3
                  have Hn := Lib.hid (show thereGo 0 q0 ((outs p k0 e0).drop (j + 1)) true = false by have h7 := there_step hw.out Hx.out; simpa [o1, o2, o3] using h7)
                  clear o1 o2 o3
                  go_wp2_with fail
                  go_roundg (gk - 1)
                  case measure => have := Hk.out; omega
                  case rel => exact ⟨j + 1, true, by have := Hk.out; omega, by go_num, rfl, Hn.out, rfl⟩
                · have q3 : (x.pos == q0) = false := by simpa using o3
                  have Hn := Lib.hid (show thereGo 0 q0 ((outs p k0 e0).drop (j + 1)) false = false by have h7 := there_step hw.out Hx.out; simpa [o1, o2, o3] using h7)
                  clear o1 o2 o3
                  go_wp2_with fail
                  go_roundg (gk - 1)
                  case measure => have := Hk.out; omega
                  case rel => exact ⟨j + 1, false, by have := Hk.out; omega, by go_num, rfl, Hn.out, rfl⟩
            · have q1 : (x.out == 0) = false := by simpa using o1
              have Hn := Lib.hid (show thereGo 0 q0 ((outs p k0 e0).drop (j + 1)) false = false by have h7 := there_step hw.out Hx.out; simpa [o1] using h7)
              clear o1
              go_wp2_with fail
              go_roundg (gk - 1)
              case measure => have := Hk.out; omega
              case rel => exact ⟨j + 1, false, by have := Hk.out; omega, by go_num, rfl, Hn.out, rfl⟩
        · have Hn := Lib.hid (show tb = false from by have h7 := hw.out; rw [drop_end ly.out (by omega)] at h7; exact h7)
          rw [Hn.out]
          go_wp2_with fail
          go_ret
          exact ⟨ret_bool (by simp), below_step Hb3.out Hx5.out Hb3.out.size⟩
    | some out =>
      have hbk := through_back ht
      have T1 := Lib.hid (T.out w3 (Below.refl _ _) e0)
      rw [ht] at T1
      dsimp only [Option.getD_some, Option.isSome_some] at T1
      have T2 := Lib.hid (fun (u : World) (hb : Below w3.heap.size w3 u) => T.out u hb out)
      rw [hbk] at T2
      dsimp only [Option.getD_some, Option.isSome_some] at T2
      have F2 := Lib.hid (fun (u : World) (hb : Below w3.heap.size w3 u) => F.out u hb out)
      rw [hbk] at F2
      dsimp only [Option.getD_some, Option.isSome_some] at F2
      have Hs := Lib.hid (there_some out q0 _ (show wayGo q0 (outs p k0 e0) = some out from ht))
      clear ht hbk
      refine T1.out.mono ?_
      rintro en w4 ⟨rfl, hbx⟩
      have Hx4 := Lib.hid hbx
      clear hbx
      go_wp2_with fail
      refine (T2.out w4 Hx4.out).mono ?_
      rintro en w5 ⟨rfl, hbx⟩
      have Hx5 := Lib.hid (below_step Hx4.out hbx Hx4.out.size)
      clear hbx
      go_wp2_with fail
      refine (F2.out w5 Hx5.out).mono ?_
      rintro en w6 ⟨rfl, hbx⟩
      have Hx6 := Lib.hid (below_step Hx5.out hbx Hx5.out.size)
      clear hbx
      go_wp2_with fail
      refine (O.out w6 Hx6.out).mono ?_
      rintro en w5 ⟨a, n, c, rfl, hr, hn, hbx⟩
      have Hr := Lib.hid hr
      have Hx5 := Lib.hid (below_step Hx6.out hbx Hx6.out.size)
      have ly := Lib.hid hr.len
      clear hr hbx
      go_wp2_with fail
      go_loopg [20, 21] n (fun k t i' wr => ∃ (j : Nat) (tb : Bool), j + k = n ∧ i' = .int .i64 j ∧ t = .bool tb ∧ Hid (thereGo out q0 ((outs p k0 e0).drop j) tb = true) ∧ wr = w5)
      case atStart => exact ⟨0, false, by omega, rfl, rfl, Lib.hid Hs.out, rfl⟩
      case round =>
        obtain ⟨j, tb, hk, rfl, rfl, hw, rfl⟩ := hrel
        have Hk := Lib.hid hk; clear hk
        by_cases hlt : j < n
        · obtain ⟨x, hx⟩ := get_some ly.out hlt
          obtain ⟨pb, off, rfl, hpb, g1, g2⟩ := Hr.out.way hx
          have Hx := Lib.hid hx; clear hx
          cases tb with
          | true =>
            have Hn := Lib.hid (show thereGo out q0 ((outs p k0 e0).drop (j + 1)) true = true by have h7 := there_step hw.out Hx.out; simpa [] using h7)
            go_wp2_with fail
            go_roundg (gk - 1)
            case measure => have := Hk.out; omega
            case rel => exact ⟨j + 1, true, by have := Hk.out; omega, by go_num, rfl, Hn.out, rfl⟩
          | false =>
            by_cases o1 : x.out = out
            · have q1 : (x.out == out) = true := by simpa using o1
              by_cases o2 : x.pos = 0
              · have q2 : (x.pos == 0) = true := by simpa using o2
                have Hn := Lib.hid (show thereGo out q0 ((outs p k0 e0).drop (j + 1)) true = true by have h7 := there_step hw.out Hx.out; simpa [o1, o2] using h7)
                clear o1 o2
                go_wp2_with fail
                go_roundg (gk - 1)
                case measure => have := Hk.out; omega
                case rel => exact ⟨j + 1, true, by have := Hk.out; omega, by go_num, rfl, Hn.out, rfl⟩
              · have q2 : (x.pos == 0) = false := by simpa using o2
                by_cases o3 : x.pos = q0
                · have q3 : (x.pos == q0) = true := by simpa using o3
                  have Hn := Lib.hid (show thereGo out q0 ((outs p k0 e0).drop (j + 1)) true = true by have h7 := there_step hw.out Hx.out; simpa [o1, o2, o3] using h7)
                  clear o1 o2 o3
                  go_wp2_with fail
                  go_roundg (gk - 1)
                  case measure => have := Hk.out; omega
                  case rel => exact ⟨j + 1, true, by have := Hk.out; omega, by go_num, rfl, Hn.out, rfl⟩
                · have q3 : (x.pos == q0) = false := by simpa using o3
                  have Hn := Lib.hid (show thereGo out q0 ((outs p k0 e0).drop (j + 1)) false = true by have h7 := there_step hw.out Hx.out; simpa [o1, o2, o3] using h7)
                  clear o1 o2 o3
                  go_wp2_with fail
                  go_roundg (gk - 1)
                  case measure => have := Hk.out; omega
                  case rel => exact ⟨j + 1, false, by have := Hk.out; omega, by go_num, rfl, Hn.out, rfl⟩
            · have q1 : (x.out == out) = false := by simpa using o1
              have Hn := Lib.hid (show thereGo out q0 ((outs p k0 e0).drop (j + 1)) false = true by have h7 := there_step hw.out Hx.out; simpa [o1] using h7)
              clear o1
              go_wp2_with fail
              go_roundg (gk - 1)
              case measure => have := Hk.out; omega
              case rel => exact ⟨j + 1, false, by have := Hk.out; omega, by go_num, rfl, Hn.out, rfl⟩
        · have Hn := Lib.hid (show tb = true from by have h7 := hw.out; rw [drop_end ly.out (by omega)] at h7; exact h7)
          rw [Hn.out]
          go_wp2_with fail
          go_ret
          exact ⟨ret_bool (by simp), below_step Hb3.out Hx5.out Hb3.out.size⟩
set_option maxRecDepth 100000 in
theorem netRound_lifted (os : Os) (started : os.Started) (H : Type) (enc : TypeId × Value → H) :
    ReturnsInHanded {} Try.checked os 11 .any (Rows.netRoundSpec.pre6 enc Try.prog Try.f11 Rows.netRoundRow.domain false) (Rows.netRoundSpec.post enc Try.prog Try.f11 false true false false) := by
  refine returnsInHanded_of_change (C := Try.checked) own started (by kernel_rfl) Try.func11
    (ChangeSpec.witness6 (enc := enc) (C := Try.checked) false ⟨#[], #[.agg #[.slice none 0 0, .slice none 0 0, .slice none 0 0, .slice none 0 0, .int .i64 0, .int .i64 0, .int .i64 0, .int .i64 0, .bool false], .int .u8 0, .int .u8 0, .int .u8 0], []⟩ 8 (by kernel_rfl) (by kernel_rfl) (by kernel_rfl) (by kernel_rfl)) ?_
  intro W base args ds gs before hval0 hW hcnd _
  have hval : ∀ (j : Nat) t v, Try.f11.params[j]? = some t → args[j]? = some v → Value.okWide Try.prog W .any base t v := hval0
  have hW' := hW
  obtain ⟨p, q, hA0, hV, rfl, hfz, hnd⟩ := hW
  have hA : DataW.TrodAll enc Try.prog W 0 (fun _ => true) true Try.f11.params.toList args.toList ds p := hA0
  rw [Try.params11] at hA hval
  obtain ⟨v0, vs0, d0, ds0, p0, q0, hargs, rfl, rfl, k0, r0⟩ := trodAll_cons hA
  obtain ⟨v1, vs1, d1, ds1, p1, q1, rfl, rfl, rfl, k1, r1⟩ := trodAll_cons r0
  obtain ⟨v2, vs2, d2, ds2, p2, q2, rfl, rfl, rfl, k2, r2⟩ := trodAll_cons r1
  obtain ⟨v3, vs3, d3, ds3, p3, q3, rfl, rfl, rfl, k3, r3⟩ := trodAll_cons r2
  obtain ⟨rfl, rfl, rfl⟩ := trodAll_nil r3
  obtain rfl : args = #[v0, v1, v2, v3] := by cases args; simp_all
  obtain ⟨rfl, rfl⟩ := trodVars_none hV
  have lt0 : ∀ x ∈ p0, x.block < W.heap.size := by obtain ⟨m, hm⟩ := k0; exact DataW.trod_lt m _ _ _ hm
  have hv0 := hval 0 32 v0 rfl rfl
  have lt1 : ∀ x ∈ p1, x.block < W.heap.size := by obtain ⟨m, hm⟩ := k1; exact DataW.trod_lt m _ _ _ hm
  have hv1 := hval 1 5 v1 rfl rfl
  have lt2 : ∀ x ∈ p2, x.block < W.heap.size := by obtain ⟨m, hm⟩ := k2; exact DataW.trod_lt m _ _ _ hm
  have hv2 := hval 2 5 v2 rfl rfl
  have lt3 : ∀ x ∈ p3, x.block < W.heap.size := by obtain ⟨m, hm⟩ := k3; exact DataW.trod_lt m _ _ _ hm
  have hv3 := hval 3 5 v3 rfl rfl
  have fin : Calls Try.prog 11 #[v0, v1, v2, v3] W (fun e W' => e = .returned (.bool true) ∧ Below W.heap.size W W') := by
    obtain ⟨pv, p, rfl, hp⟩ := open_plan hv0 k0
    obtain ⟨x0, rfl, a0, a1⟩ := open_u8 hv1 k1
    obtain ⟨x1, rfl, b0, b1⟩ := open_u8 hv2 k2
    obtain ⟨x2, rfl, d0, d1⟩ := open_u8 hv3 k3
    exact lawRound_any W pv p x0 x1 x2 a0 a1 b0 b1 d0 d1 hp
  clear hA0 hval0
  refine fin.mono fun e W' ⟨he, bel⟩ => ?_
  subst he
  exact ⟨_, rfl, _, _, _, [], _, [], hW', trodAll_mk1 (shut_bool Try.underlying4 _), (trodAll_cons_mk (Below.trod laidOut (by kernel_rfl) (of_decide_eq_true (by kernel_rfl)) k0 bel lt0) (trodAll_cons_mk (Below.trod laidOut (by kernel_rfl) (of_decide_eq_true (by kernel_rfl)) k1 bel lt1) (trodAll_cons_mk (Below.trod laidOut (by kernel_rfl) (of_decide_eq_true (by kernel_rfl)) k2 bel lt2) (trodAll_cons_mk (Below.trod laidOut (by kernel_rfl) (of_decide_eq_true (by kernel_rfl)) k3 bel lt3) trodAll_mk0)))), rfl, bel.frame _, fun h => by cases h⟩

/-- THE STATEMENT -/
theorem netRound_holds : Rows.NetRoundSaid :=
  OpenClaim.holds_of_wide 11 Try.f11 rfl rfl rfl rfl rfl rfl rfl ⟨rfl, rfl, rfl, rfl, rfl⟩ rfl rfl rfl rfl rfl (by kernel_rfl) Try.func11 (by kernel_rfl)
    (of_decide_eq_true (by kernel_rfl)) (by unfold Func.isWrapper; first | (rw [if_pos (by decide +kernel)]; kernel_rfl) | (rw [if_neg (by decide +kernel)]; exact ⟨rfl, rfl⟩))
    (fun os started H enc _ => netRound_lifted os started H enc)
end Go.Proofs.Ytlndfmflbdkpjaa
