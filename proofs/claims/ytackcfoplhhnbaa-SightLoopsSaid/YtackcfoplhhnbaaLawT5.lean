/- SightLoops: for every input the law returns true. No condition. -/
import Derived.Test.YtackcfoplhhnbaaKnown6
set_option maxRecDepth 1000000
namespace Go.Proofs.Ytackcfoplhhnbaa
open Go.ChangeShapes Go.WideShapes Go.ChangeAt Go.RowKit Go.Sort

theorem sigAt_get {p : Plan} {j : Nat} {a : Sig} (h : p.sigs[j]? = some a) : sigAt p (j : Int) = some a.at_ := by
  unfold sigAt; rw [if_pos (by omega), show ((j : Int)).toNat = j by omega, h]; rfl
section
variable {H : Type} {enc : TypeId × Value → H} {w : World}
theorem open_u16 {v : Value} {d : DataW H} {q : List MemPlace} {r : Reach} {b0 : Nat} (hv : Value.okWide Try.prog w r b0 70 v) (h : DataW.Trod enc Try.prog w 0 (fun _ => true) true 70 v d q) : ∃ x : Int, v = .int .u16 x ∧ 0 ≤ x ∧ x ≤ 65535 := by
  obtain ⟨x, rfl⟩ := okWide_int Try.underlying70 hv
  obtain ⟨fuel, hf⟩ := h
  obtain ⟨y, hc, _, hw⟩ := DataW.trod_int Try.underlying70 hf
  simp [Value.cells] at hc
  subst hc
  exact ⟨x, rfl, by simp [Lit.wf, IntKind.min, IntKind.max, IntKind.signed, IntKind.bits] at hw; omega⟩
end
set_option maxHeartbeats 4000000 in
theorem lawLoops_any (w : World) (pv : PV) (p : Plan) (left : Int) (l0 : 0 ≤ left) (l1 : left ≤ 65535) (h : PlanAt w pv p) :
    Calls Try.prog 14 #[pv.val p, .int .u16 left] w fun en w' => en = .returned (.bool true) ∧ Below w.heap.size w w' := by
  obtain ⟨ae, ne, ce, aj, nj, cj, as_, ns, cs, al, nl, cl, lv⟩ := pv
  have hP := Lib.hid h
  have HBa := Lib.hid (pbox_new w ⟨ae, ne, ce, aj, nj, cj, as_, ns, cs, al, nl, cl, lv⟩ p)
  have Hba := Lib.hid (below_new w (.cells #[.slice ae ne ce, .slice aj nj cj, .slice as_ ns cs, .slice al nl cl, .int .i64 p.top, .int .i64 p.brake, .int .i64 p.margin, .int .i64 p.throw, .bool p.hard] 27))
  have K := Lib.hid (known6_any (w.alloc (.cells #[.slice ae ne ce, .slice aj nj cj, .slice as_ ns cs, .slice al nl cl, .int .i64 p.top, .int .i64 p.brake, .int .i64 p.margin, .int .i64 p.throw, .bool p.hard] 27)))
  have HF := Lib.hid (fun (u : World) (hb : Below w.heap.size w u) => finex_l (w := u) (hP.out.below hb))
  clear h
  dsimp only [PV.val]
  obtain ⟨_, c0, c1, c2, c3, c4, c5, c6, c7, c8⟩ := HBa.out
  dsimp only at c0 c1 c2 c3
  cases hf : fine p with
  | false =>
    rw [hf] at HF
    clear hf
    go_enter Try.func14, Try.ntmps14
    go_wp2_with fail
    refine (K.out).mono ?_
    rintro e w1 ⟨rfl, hbx⟩
    have HB1 := Lib.hid (HBa.out.below hbx)
    have Hb1 := Lib.hid (below_step Hba.out hbx Hba.out.size)
    clear hbx c0 c1 c2 c3 c4 c5 c6 c7 c8
    obtain ⟨_, c0, c1, c2, c3, c4, c5, c6, c7, c8⟩ := HB1.out
    dsimp only at c0 c1 c2 c3
    clear K
    go_wp2_with fail
    refine (HF.out w1 Hb1.out).mono ?_
    rintro e w2 ⟨rfl, hbx⟩
    have HB2 := Lib.hid (HB1.out.below hbx)
    have Hb2 := Lib.hid (below_step Hb1.out hbx Hb1.out.size)
    clear hbx c0 c1 c2 c3 c4 c5 c6 c7 c8
    obtain ⟨_, c0, c1, c2, c3, c4, c5, c6, c7, c8⟩ := HB2.out
    dsimp only at c0 c1 c2 c3
    go_wp2_with fail
    go_ret
    exact ⟨rfl, Hb2.out⟩
  | true =>
    rw [hf] at HF
    have HM := Lib.hid (fun (u : World) (hb : Below w.heap.size w u) => made_l (w := u) hf (hP.out.below hb))
    have Hok := Lib.hid (few_ok hP.out (fine_few hf).1)
    have Hc := Lib.hid (fine_few hf).2
    have G := Lib.hid (good_of (fine_few hf).2)
    clear hf
    go_enter Try.func14, Try.ntmps14
    go_wp2_with fail
    refine (K.out).mono ?_
    rintro e w1 ⟨rfl, hbx⟩
    have HB1 := Lib.hid (HBa.out.below hbx)
    have Hb1 := Lib.hid (below_step Hba.out hbx Hba.out.size)
    clear hbx c0 c1 c2 c3 c4 c5 c6 c7 c8
    obtain ⟨_, c0, c1, c2, c3, c4, c5, c6, c7, c8⟩ := HB1.out
    dsimp only at c0 c1 c2 c3
    clear K
    go_wp2_with fail
    refine (HF.out w1 Hb1.out).mono ?_
    rintro e w2 ⟨rfl, hbx⟩
    have HB2 := Lib.hid (HB1.out.below hbx)
    have Hb2 := Lib.hid (below_step Hb1.out hbx Hb1.out.size)
    clear hbx c0 c1 c2 c3 c4 c5 c6 c7 c8
    obtain ⟨_, c0, c1, c2, c3, c4, c5, c6, c7, c8⟩ := HB2.out
    dsimp only at c0 c1 c2 c3
    go_wp2_with fail
    refine (HM.out w2 Hb2.out).mono ?_
    rintro e w3 ⟨b, rfl, hbb, hn, hbx⟩
    have HB3 := Lib.hid (HB2.out.below hbx)
    have Hb3 := Lib.hid (below_step Hb2.out hbx Hb2.out.size)
    have HN3 := Lib.hid hn
    have hbb := Nat.le_trans Hb2.out.size hbb
    clear hbx hn HF HM c0 c1 c2 c3 c4 c5 c6 c7 c8
    obtain ⟨_, c0, c1, c2, c3, c4, c5, c6, c7, c8⟩ := HB3.out
    dsimp only at c0 c1 c2 c3
    go_wp2_with fail
    have hwl : IntKind.i64.wrap left = left := IntWalk.i64_in _ (by omega)
    have ls := Lib.hid (show p.sigs.length = ns from hP.out.s.len)
    have hns : ns ≤ 60 := Hok.out.2.2.1
    have NS := Lib.hid (fun (u : World) (hb : Below w3.heap.size w3 u) => nsignals_any u b p (HN3.out.below hb))
    rw [ls.out] at NS
    clear c0 c1 c2 c3 c4 c5 c6 c7 c8
    go_loopg [6] ns (fun k i wr => ∃ j : Nat, j + k = ns ∧ i = .int .i64 j ∧ Below w3.heap.size w3 wr)
    case atStart => exact ⟨0, by omega, rfl, Below.refl _ _⟩
    case round =>
      obtain ⟨j, hk, rfl, hb⟩ := hrel
      have Hk := Lib.hid hk; clear hk
      have Hb := Lib.hid hb; clear hb
      by_cases hlt : j < ns
      · obtain ⟨s, hs⟩ := get_some ls.out hlt
        have haw : s.at_.wf := (hP.out.fit.s s (List.mem_of_getElem? hs)).1
        have hr0 : 0 ≤ reads p s.at_ := by rw [((reads_iff G.out hs) s.at_).2 rfl]; omega
        have hlong := berth_long Hc.out (List.mem_of_getElem? hs)
        have Z := Lib.hid (fun (u : World) (hb : Below w3.heap.size w3 u) => nat_any u b p (HN3.out.below hb) (j : Int))
        have Y := Lib.hid (fun (u : World) (hb : Below w3.heap.size w3 u) => nberth_any u b p (HN3.out.below hb) (j : Int))
        rw [sigAt_get hs] at Z Y
        obtain ⟨x, hx⟩ : ∃ x, x = s.at_ := ⟨_, rfl⟩
        rw [← hx] at haw hr0 hlong Z Y
        dsimp only [Option.getD_some, Option.isSome_some, Port.val] at Z Y
        have I1 := Lib.hid (fun (u : World) (hb : Below w3.heap.size w3 u) => ninloop_any u b p (HN3.out.below hb) x haw left)
        have I2 := Lib.hid (fun (u : World) (hb : Below w3.heap.size w3 u) => ninloop_any u b p (HN3.out.below hb) x haw (-1))
        rw [inLoop_l (p := p) (h := x) (l := -1) (by omega)] at I2
        rw [inLoop_m hr0 l0] at I1
        have KK := Lib.hid (fun (u : World) (hb : Below w3.heap.size w3 u) => nkind_any u b p (HN3.out.below hb) x.e)
        have LL := Lib.hid (fun (u : World) (hb : Below w3.heap.size w3 u) => nlength_any u b p (HN3.out.below hb) x.e)
        dsimp only [Port.val] at I1 I2
        clear hs hx hr0 haw
        go_wp2_with fail
        refine (NS.out wr Hb.out).mono ?_
        rintro en w4 ⟨rfl, rfl⟩
        go_wp2_with fail
        refine (Z.out _ Hb.out).mono ?_
        rintro en w5 ⟨rfl, hbx⟩
        have Hb5 := Lib.hid (below_step Hb.out hbx Hb.out.size)
        clear hbx Z
        go_wp2_with fail
        refine name_calls fun w6 hw => ?_
        have hbx : Below w5.heap.size w5 w6 := by rw [hw]; exact below_new _ _
        have Q6 := Lib.hid (show PortBox w6 w5.heap.size x by rw [hw]; exact PortBox.new _ rfl _ _)
        have Hb6 := Lib.hid (below_step Hb5.out hbx Hb5.out.size)
        clear hbx hw
        refine (Y.out _ Hb6.out).mono ?_
        rintro en w7 ⟨rfl, hbx⟩
        have Hb7 := Lib.hid (below_step Hb6.out hbx Hb6.out.size)
        have Q7 := Lib.hid (Q6.out.below hbx)
        clear hbx Y
        obtain ⟨_, q0, q1, _⟩ := Q7.out
        have HB7 := Lib.hid (HB3.out.below Hb7.out)
        obtain ⟨_, _, _, _, _, _, _, c6, _, _⟩ := HB7.out
        go_wp2_with fail
        by_cases hm : left ≤ p.margin
        · by_cases hk : p.kind x.e = 1
          · rw [show decide (left ≤ p.margin) = true by simpa using hm] at I1
            have q2 : decide (left ≤ p.margin) = true := by simpa using hm
            have hkk : p.kind x.e = 1 := hk
            rw [hkk] at KK
            have q3 : decide (p.length x.e < p.margin) = false := by simp; exact hlong hkk
            clear hkk
            clear hm hk hlong
            have q0q := fun d os => cell_regrown q0 d os
            have q1q := fun d os => cell_regrown q1 d os
            have c6q := fun d os => cell_regrown c6 d os
            have cq0 : ∀ d os, Calls Try.prog 36 #[.pointer (some ⟨b, 0, none⟩), .agg #[.int .i64 x.e, .int .i64 x.n], .int .i64 left] (grow (redrawn w7 d) os) fun e w'' => e = .returned (.bool true) ∧ ∃ rg : Regrown, w'' = grow (redrawn w7 rg.d) rg.os := fun d os => Calls.regrown_of (I1.out _ (below_step Hb7.out (below_regrown _ d os) Hb7.out.size))
            have cq1 : ∀ d os, Calls Try.prog 36 #[.pointer (some ⟨b, 0, none⟩), .agg #[.int .i64 x.e, .int .i64 x.n], .int .i64 (-1)] (grow (redrawn w7 d) os) fun e w'' => e = .returned (.bool false) ∧ ∃ rg : Regrown, w'' = grow (redrawn w7 rg.d) rg.os := fun d os => Calls.regrown_of (I2.out _ (below_step Hb7.out (below_regrown _ d os) Hb7.out.size))
            refine wp_region_quiet_below (by kernel_rfl) (by kernel_rfl) ?_
            repeat (quiet_step (first | with_reducible exact cq0 _ _ | with_reducible exact cq1 _ _))
            refine wpQuiet_nil ?_
            intro w8 hw'
            have hb8 : Below w7.heap.size w7 w8 := by obtain ⟨⟨d, os⟩, rfl⟩ := hw'; exact below_regrown _ d os
            clear hw' q0q q1q c6q cq0 cq1
            have Hb8 := Lib.hid (below_step Hb7.out hb8 Hb7.out.size)
            have HB8 := Lib.hid (HB7.out.below hb8)
            clear hb8 q0 q1 c6
            obtain ⟨_, _, _, _, _, _, _, c6, _, _⟩ := HB8.out
            go_wp2_with fail
            have c6q := fun d os => cell_regrown c6 d os
            have cq0 : ∀ d os, Calls Try.prog 32 #[.pointer (some ⟨b, 0, none⟩), .int .i64 x.e] (grow (redrawn w8 d) os) fun e w'' => e = .returned (.int .i64 1) ∧ ∃ rg : Regrown, w'' = grow (redrawn w8 rg.d) rg.os := fun d os => Calls.regrown_of (KK.out _ (below_step Hb8.out (below_regrown _ d os) Hb8.out.size))
            have cq1 : ∀ d os, Calls Try.prog 44 #[.pointer (some ⟨b, 0, none⟩), .int .i64 x.e] (grow (redrawn w8 d) os) fun e w'' => e = .returned (.int .i64 (p.length x.e)) ∧ ∃ rg : Regrown, w'' = grow (redrawn w8 rg.d) rg.os := fun d os => Calls.regrown_of (LL.out _ (below_step Hb8.out (below_regrown _ d os) Hb8.out.size))
            refine wp_region_quiet_below (by kernel_rfl) (by kernel_rfl) ?_
            repeat (quiet_step (first | with_reducible exact cq0 _ _ | with_reducible exact cq1 _ _))
            refine wpQuiet_nil ?_
            intro w9 hw'
            have hb9 : Below w8.heap.size w8 w9 := by obtain ⟨⟨d, os⟩, rfl⟩ := hw'; exact below_regrown _ d os
            clear hw' c6q cq0 cq1
            go_wp2_with fail
            go_roundg (gk - 1)
            case measure => have := Hk.out; omega
            case rel => exact ⟨j + 1, by have := Hk.out; omega, by go_num, below_step Hb8.out hb9 Hb8.out.size⟩
          · rw [show decide (left ≤ p.margin) = true by simpa using hm] at I1
            have q2 : decide (left ≤ p.margin) = true := by simpa using hm
            have q3 : (p.kind x.e == 1) = false := by simpa using hk
            clear hm hk hlong
            have q0q := fun d os => cell_regrown q0 d os
            have q1q := fun d os => cell_regrown q1 d os
            have c6q := fun d os => cell_regrown c6 d os
            have cq0 : ∀ d os, Calls Try.prog 36 #[.pointer (some ⟨b, 0, none⟩), .agg #[.int .i64 x.e, .int .i64 x.n], .int .i64 left] (grow (redrawn w7 d) os) fun e w'' => e = .returned (.bool true) ∧ ∃ rg : Regrown, w'' = grow (redrawn w7 rg.d) rg.os := fun d os => Calls.regrown_of (I1.out _ (below_step Hb7.out (below_regrown _ d os) Hb7.out.size))
            have cq1 : ∀ d os, Calls Try.prog 36 #[.pointer (some ⟨b, 0, none⟩), .agg #[.int .i64 x.e, .int .i64 x.n], .int .i64 (-1)] (grow (redrawn w7 d) os) fun e w'' => e = .returned (.bool false) ∧ ∃ rg : Regrown, w'' = grow (redrawn w7 rg.d) rg.os := fun d os => Calls.regrown_of (I2.out _ (below_step Hb7.out (below_regrown _ d os) Hb7.out.size))
            refine wp_region_quiet_below (by kernel_rfl) (by kernel_rfl) ?_
            repeat (quiet_step (first | with_reducible exact cq0 _ _ | with_reducible exact cq1 _ _))
            refine wpQuiet_nil ?_
            intro w8 hw'
            have hb8 : Below w7.heap.size w7 w8 := by obtain ⟨⟨d, os⟩, rfl⟩ := hw'; exact below_regrown _ d os
            clear hw' q0q q1q c6q cq0 cq1
            have Hb8 := Lib.hid (below_step Hb7.out hb8 Hb7.out.size)
            have HB8 := Lib.hid (HB7.out.below hb8)
            clear hb8 q0 q1 c6
            obtain ⟨_, _, _, _, _, _, _, c6, _, _⟩ := HB8.out
            go_wp2_with fail
            have c6q := fun d os => cell_regrown c6 d os
            have cq0 : ∀ d os, Calls Try.prog 32 #[.pointer (some ⟨b, 0, none⟩), .int .i64 x.e] (grow (redrawn w8 d) os) fun e w'' => e = .returned (.int .i64 (p.kind x.e)) ∧ ∃ rg : Regrown, w'' = grow (redrawn w8 rg.d) rg.os := fun d os => Calls.regrown_of (KK.out _ (below_step Hb8.out (below_regrown _ d os) Hb8.out.size))
            have cq1 : ∀ d os, Calls Try.prog 44 #[.pointer (some ⟨b, 0, none⟩), .int .i64 x.e] (grow (redrawn w8 d) os) fun e w'' => e = .returned (.int .i64 (p.length x.e)) ∧ ∃ rg : Regrown, w'' = grow (redrawn w8 rg.d) rg.os := fun d os => Calls.regrown_of (LL.out _ (below_step Hb8.out (below_regrown _ d os) Hb8.out.size))
            refine wp_region_quiet_below (by kernel_rfl) (by kernel_rfl) ?_
            repeat (quiet_step (first | with_reducible exact cq0 _ _ | with_reducible exact cq1 _ _))
            refine wpQuiet_nil ?_
            intro w9 hw'
            have hb9 : Below w8.heap.size w8 w9 := by obtain ⟨⟨d, os⟩, rfl⟩ := hw'; exact below_regrown _ d os
            clear hw' c6q cq0 cq1
            go_wp2_with fail
            go_roundg (gk - 1)
            case measure => have := Hk.out; omega
            case rel => exact ⟨j + 1, by have := Hk.out; omega, by go_num, below_step Hb8.out hb9 Hb8.out.size⟩
        · by_cases hk : p.kind x.e = 1
          · rw [show decide (left ≤ p.margin) = false by simpa using hm] at I1
            have q2 : decide (left ≤ p.margin) = false := by simpa using hm
            have hkk : p.kind x.e = 1 := hk
            rw [hkk] at KK
            have q3 : decide (p.length x.e < p.margin) = false := by simp; exact hlong hkk
            clear hkk
            clear hm hk hlong
            have q0q := fun d os => cell_regrown q0 d os
            have q1q := fun d os => cell_regrown q1 d os
            have c6q := fun d os => cell_regrown c6 d os
            have cq0 : ∀ d os, Calls Try.prog 36 #[.pointer (some ⟨b, 0, none⟩), .agg #[.int .i64 x.e, .int .i64 x.n], .int .i64 left] (grow (redrawn w7 d) os) fun e w'' => e = .returned (.bool false) ∧ ∃ rg : Regrown, w'' = grow (redrawn w7 rg.d) rg.os := fun d os => Calls.regrown_of (I1.out _ (below_step Hb7.out (below_regrown _ d os) Hb7.out.size))
            have cq1 : ∀ d os, Calls Try.prog 36 #[.pointer (some ⟨b, 0, none⟩), .agg #[.int .i64 x.e, .int .i64 x.n], .int .i64 (-1)] (grow (redrawn w7 d) os) fun e w'' => e = .returned (.bool false) ∧ ∃ rg : Regrown, w'' = grow (redrawn w7 rg.d) rg.os := fun d os => Calls.regrown_of (I2.out _ (below_step Hb7.out (below_regrown _ d os) Hb7.out.size))
            refine wp_region_quiet_below (by kernel_rfl) (by kernel_rfl) ?_
            repeat (quiet_step (first | with_reducible exact cq0 _ _ | with_reducible exact cq1 _ _))
            refine wpQuiet_nil ?_
            intro w8 hw'
            have hb8 : Below w7.heap.size w7 w8 := by obtain ⟨⟨d, os⟩, rfl⟩ := hw'; exact below_regrown _ d os
            clear hw' q0q q1q c6q cq0 cq1
            have Hb8 := Lib.hid (below_step Hb7.out hb8 Hb7.out.size)
            have HB8 := Lib.hid (HB7.out.below hb8)
            clear hb8 q0 q1 c6
            obtain ⟨_, _, _, _, _, _, _, c6, _, _⟩ := HB8.out
            go_wp2_with fail
            have c6q := fun d os => cell_regrown c6 d os
            have cq0 : ∀ d os, Calls Try.prog 32 #[.pointer (some ⟨b, 0, none⟩), .int .i64 x.e] (grow (redrawn w8 d) os) fun e w'' => e = .returned (.int .i64 1) ∧ ∃ rg : Regrown, w'' = grow (redrawn w8 rg.d) rg.os := fun d os => Calls.regrown_of (KK.out _ (below_step Hb8.out (below_regrown _ d os) Hb8.out.size))
            have cq1 : ∀ d os, Calls Try.prog 44 #[.pointer (some ⟨b, 0, none⟩), .int .i64 x.e] (grow (redrawn w8 d) os) fun e w'' => e = .returned (.int .i64 (p.length x.e)) ∧ ∃ rg : Regrown, w'' = grow (redrawn w8 rg.d) rg.os := fun d os => Calls.regrown_of (LL.out _ (below_step Hb8.out (below_regrown _ d os) Hb8.out.size))
            refine wp_region_quiet_below (by kernel_rfl) (by kernel_rfl) ?_
            repeat (quiet_step (first | with_reducible exact cq0 _ _ | with_reducible exact cq1 _ _))
            refine wpQuiet_nil ?_
            intro w9 hw'
            have hb9 : Below w8.heap.size w8 w9 := by obtain ⟨⟨d, os⟩, rfl⟩ := hw'; exact below_regrown _ d os
            clear hw' c6q cq0 cq1
            go_wp2_with fail
            go_roundg (gk - 1)
            case measure => have := Hk.out; omega
            case rel => exact ⟨j + 1, by have := Hk.out; omega, by go_num, below_step Hb8.out hb9 Hb8.out.size⟩
          · rw [show decide (left ≤ p.margin) = false by simpa using hm] at I1
            have q2 : decide (left ≤ p.margin) = false := by simpa using hm
            have q3 : (p.kind x.e == 1) = false := by simpa using hk
            clear hm hk hlong
            have q0q := fun d os => cell_regrown q0 d os
            have q1q := fun d os => cell_regrown q1 d os
            have c6q := fun d os => cell_regrown c6 d os
            have cq0 : ∀ d os, Calls Try.prog 36 #[.pointer (some ⟨b, 0, none⟩), .agg #[.int .i64 x.e, .int .i64 x.n], .int .i64 left] (grow (redrawn w7 d) os) fun e w'' => e = .returned (.bool false) ∧ ∃ rg : Regrown, w'' = grow (redrawn w7 rg.d) rg.os := fun d os => Calls.regrown_of (I1.out _ (below_step Hb7.out (below_regrown _ d os) Hb7.out.size))
            have cq1 : ∀ d os, Calls Try.prog 36 #[.pointer (some ⟨b, 0, none⟩), .agg #[.int .i64 x.e, .int .i64 x.n], .int .i64 (-1)] (grow (redrawn w7 d) os) fun e w'' => e = .returned (.bool false) ∧ ∃ rg : Regrown, w'' = grow (redrawn w7 rg.d) rg.os := fun d os => Calls.regrown_of (I2.out _ (below_step Hb7.out (below_regrown _ d os) Hb7.out.size))
            refine wp_region_quiet_below (by kernel_rfl) (by kernel_rfl) ?_
            repeat (quiet_step (first | with_reducible exact cq0 _ _ | with_reducible exact cq1 _ _))
            refine wpQuiet_nil ?_
            intro w8 hw'
            have hb8 : Below w7.heap.size w7 w8 := by obtain ⟨⟨d, os⟩, rfl⟩ := hw'; exact below_regrown _ d os
            clear hw' q0q q1q c6q cq0 cq1
            have Hb8 := Lib.hid (below_step Hb7.out hb8 Hb7.out.size)
            have HB8 := Lib.hid (HB7.out.below hb8)
            clear hb8 q0 q1 c6
            obtain ⟨_, _, _, _, _, _, _, c6, _, _⟩ := HB8.out
            go_wp2_with fail
            have c6q := fun d os => cell_regrown c6 d os
            have cq0 : ∀ d os, Calls Try.prog 32 #[.pointer (some ⟨b, 0, none⟩), .int .i64 x.e] (grow (redrawn w8 d) os) fun e w'' => e = .returned (.int .i64 (p.kind x.e)) ∧ ∃ rg : Regrown, w'' = grow (redrawn w8 rg.d) rg.os := fun d os => Calls.regrown_of (KK.out _ (below_step Hb8.out (below_regrown _ d os) Hb8.out.size))
            have cq1 : ∀ d os, Calls Try.prog 44 #[.pointer (some ⟨b, 0, none⟩), .int .i64 x.e] (grow (redrawn w8 d) os) fun e w'' => e = .returned (.int .i64 (p.length x.e)) ∧ ∃ rg : Regrown, w'' = grow (redrawn w8 rg.d) rg.os := fun d os => Calls.regrown_of (LL.out _ (below_step Hb8.out (below_regrown _ d os) Hb8.out.size))
            refine wp_region_quiet_below (by kernel_rfl) (by kernel_rfl) ?_
            repeat (quiet_step (first | with_reducible exact cq0 _ _ | with_reducible exact cq1 _ _))
            refine wpQuiet_nil ?_
            intro w9 hw'
            have hb9 : Below w8.heap.size w8 w9 := by obtain ⟨⟨d, os⟩, rfl⟩ := hw'; exact below_regrown _ d os
            clear hw' c6q cq0 cq1
            go_wp2_with fail
            go_roundg (gk - 1)
            case measure => have := Hk.out; omega
            case rel => exact ⟨j + 1, by have := Hk.out; omega, by go_num, below_step Hb8.out hb9 Hb8.out.size⟩
      · have Z := Lib.hid (fun (u : World) (hb : Below w3.heap.size w3 u) => NS.out u hb)
        go_wp2_with fail
        refine (NS.out _ Hb.out).mono ?_
        rintro en w4 ⟨rfl, rfl⟩
        go_wp2_with fail
        go_ret
        exact ⟨rfl, below_step Hb3.out Hb.out Hb3.out.size⟩
set_option maxRecDepth 100000 in
theorem sightLoops_lifted (os : Os) (started : os.Started) (H : Type) (enc : TypeId × Value → H) :
    ReturnsInHanded {} Try.checked os 14 .any (Rows.sightLoopsSpec.pre6 enc Try.prog Try.f14 Rows.sightLoopsRow.domain false) (Rows.sightLoopsSpec.post enc Try.prog Try.f14 false true false false) := by
  refine returnsInHanded_of_change (C := Try.checked) own started (by kernel_rfl) Try.func14
    (ChangeSpec.witness6 (enc := enc) (C := Try.checked) false ⟨#[], #[.agg #[.slice none 0 0, .slice none 0 0, .slice none 0 0, .slice none 0 0, .int .i64 0, .int .i64 0, .int .i64 0, .int .i64 0, .bool false], .int .u16 0], []⟩ 8 (by kernel_rfl) (by kernel_rfl) (by kernel_rfl) (by kernel_rfl)) ?_
  intro W base args ds gs before hval0 hW hcnd _
  have hval : ∀ (j : Nat) t v, Try.f14.params[j]? = some t → args[j]? = some v → Value.okWide Try.prog W .any base t v := hval0
  have hW' := hW
  obtain ⟨p, q, hA0, hV, rfl, hfz, hnd⟩ := hW
  have hA : DataW.TrodAll enc Try.prog W 0 (fun _ => true) true Try.f14.params.toList args.toList ds p := hA0
  rw [Try.params14] at hA hval
  obtain ⟨v0, vs0, d0, ds0, p0, q0, hargs, rfl, rfl, k0, r0⟩ := trodAll_cons hA
  obtain ⟨v1, vs1, d1, ds1, p1, q1, rfl, rfl, rfl, k1, r1⟩ := trodAll_cons r0
  obtain ⟨rfl, rfl, rfl⟩ := trodAll_nil r1
  obtain rfl : args = #[v0, v1] := by cases args; simp_all
  obtain ⟨rfl, rfl⟩ := trodVars_none hV
  have lt0 : ∀ x ∈ p0, x.block < W.heap.size := by obtain ⟨m, hm⟩ := k0; exact DataW.trod_lt m _ _ _ hm
  have hv0 := hval 0 27 v0 rfl rfl
  have lt1 : ∀ x ∈ p1, x.block < W.heap.size := by obtain ⟨m, hm⟩ := k1; exact DataW.trod_lt m _ _ _ hm
  have hv1 := hval 1 70 v1 rfl rfl
  have fin : Calls Try.prog 14 #[v0, v1] W (fun e W' => e = .returned (.bool true) ∧ Below W.heap.size W W') := by
    obtain ⟨pv, p, rfl, hp⟩ := open_plan hv0 k0
    obtain ⟨x0, rfl, a0, a1⟩ := open_u16 hv1 k1
    exact lawLoops_any W pv p x0 a0 a1 hp
  clear hA0 hval0
  refine fin.mono fun e W' ⟨he, bel⟩ => ?_
  subst he
  exact ⟨_, rfl, _, _, _, [], _, [], hW', trodAll_mk1 (shut_bool Try.underlying4 _), (trodAll_cons_mk (Below.trod laidOut (by kernel_rfl) (of_decide_eq_true (by kernel_rfl)) k0 bel lt0) (trodAll_cons_mk (Below.trod laidOut (by kernel_rfl) (of_decide_eq_true (by kernel_rfl)) k1 bel lt1) trodAll_mk0)), rfl, bel.frame _, fun h => by cases h⟩

/-- THE STATEMENT -/
theorem sightLoops_holds : Rows.SightLoopsSaid :=
  OpenClaim.holds_of_wide 14 Try.f14 rfl rfl rfl rfl rfl rfl rfl ⟨rfl, rfl, rfl, rfl, rfl⟩ rfl rfl rfl rfl rfl (by kernel_rfl) Try.func14 (by kernel_rfl)
    (of_decide_eq_true (by kernel_rfl)) (by unfold Func.isWrapper; first | (rw [if_pos (by decide +kernel)]; kernel_rfl) | (rw [if_neg (by decide +kernel)]; exact ⟨rfl, rfl⟩))
    (fun os started H enc _ => sightLoops_lifted os started H enc)
end Go.Proofs.Ytackcfoplhhnbaa
