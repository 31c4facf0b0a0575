/- NetTwice: for every input the law returns true. No condition. -/
import Derived.Test.YtlndfmflbdkpjaaNetPlit
set_option maxRecDepth 1000000
namespace Go.Proofs.Ytlndfmflbdkpjaa
open Go.ChangeShapes Go.WideShapes Go.ChangeAt Go.RowKit Go.Sort

/-- how many ports are joined among all those before end e of element i -/
def cntTo (p : Plan) (i e : Nat) : Nat := ((allPorts i ++ ((List.range e).map fun (k : Nat) => (⟨(i : Int), (k : Int)⟩ : Port))).filter fun x => (nextOf p x).isSome).length
theorem cnt_zero (p : Plan) : cntTo p 0 0 = 0 := rfl
theorem cnt_yes {p : Plan} {i e : Nat} (h : (nextOf p ⟨(i : Int), (e : Int)⟩).isSome = true) : cntTo p i (e + 1) = cntTo p i e + 1 := by
  unfold cntTo
  rw [List.range_succ, List.map_append, ← List.append_assoc, List.filter_append, List.length_append]
  simp [h]
theorem cnt_no {p : Plan} {i e : Nat} (h : (nextOf p ⟨(i : Int), (e : Int)⟩).isSome = false) : cntTo p i (e + 1) = cntTo p i e := by
  unfold cntTo
  rw [List.range_succ, List.map_append, ← List.append_assoc, List.filter_append, List.length_append]
  simp [h]
theorem cnt_row (p : Plan) (i : Nat) : cntTo p i 4 = cntTo p (i + 1) 0 := by
  unfold cntTo allPorts
  rw [List.range_succ (n := i), List.flatMap_append]
  simp only [List.range_zero, List.map_nil, List.append_nil]
  congr 2
theorem cnt_end (p : Plan) : cntTo p p.elems.length 0 = joinedNo p := by
  unfold cntTo joinedNo; simp
theorem cnt_le (p : Plan) (i e : Nat) : cntTo p i e ≤ 4 * i + e := by
  unfold cntTo
  refine Nat.le_trans (List.length_filter_le _ _) ?_
  rw [List.length_append, allPorts_length]; simp
set_option maxHeartbeats 4000000 in
theorem lawTwiceN_any (w : World) (pv : PV) (p : Plan) (h : PlanAt w pv p) :
    Calls Try.prog 12 #[pv.val p] w fun en w' => en = .returned (.bool true) ∧ Below w.heap.size w w' := by
  obtain ⟨ae, ne, ce, aj, nj, cj, as_, ns, cs, al, nl, cl, lv⟩ := pv
  have hP := Lib.hid h
  have HBa := Lib.hid (pbox_new w ⟨ae, ne, ce, aj, nj, cj, as_, ns, cs, al, nl, cl, lv⟩ p)
  have Hba := Lib.hid (below_new w (.cells #[.slice ae ne ce, .slice aj nj cj, .slice as_ ns cs, .slice al nl cl, .int .i64 p.top, .int .i64 p.brake, .int .i64 p.margin, .int .i64 p.throw, .bool p.hard] 32))
  have K := Lib.hid (known4_any (w.alloc (.cells #[.slice ae ne ce, .slice aj nj cj, .slice as_ ns cs, .slice al nl cl, .int .i64 p.top, .int .i64 p.brake, .int .i64 p.margin, .int .i64 p.throw, .bool p.hard] 32)))
  have HF := Lib.hid (fun (u : World) (hb : Below w.heap.size w u) => finex_l (w := u) (hP.out.below hb))
  clear h
  dsimp only [PV.val]
  obtain ⟨_, c0, c1, c2, c3, c4, c5, c6, c7, c8⟩ := HBa.out
  dsimp only at c0 c1 c2 c3
  cases hf : fine p with
  | false =>
    rw [hf] at HF
    clear hf
    go_enter Try.func12, Try.ntmps12
    go_wp2_with fail
    refine (K.out).mono ?_
    rintro e w1 ⟨rfl, hbx⟩
    have HB1 := Lib.hid (HBa.out.below hbx)
    have Hb1 := Lib.hid (below_step Hba.out hbx Hba.out.size)
    clear hbx c0 c1 c2 c3 c4 c5 c6 c7 c8
    obtain ⟨_, c0, c1, c2, c3, c4, c5, c6, c7, c8⟩ := HB1.out
    dsimp only at c0 c1 c2 c3
    clear K
    go_wp2_with fail
    refine (HF.out w1 Hb1.out).mono ?_
    rintro e w2 ⟨rfl, hbx⟩
    have HB2 := Lib.hid (HB1.out.below hbx)
    have Hb2 := Lib.hid (below_step Hb1.out hbx Hb1.out.size)
    clear hbx c0 c1 c2 c3 c4 c5 c6 c7 c8
    obtain ⟨_, c0, c1, c2, c3, c4, c5, c6, c7, c8⟩ := HB2.out
    dsimp only at c0 c1 c2 c3
    go_wp2_with fail
    go_ret
    exact ⟨rfl, Hb2.out⟩
  | true =>
    rw [hf] at HF
    have HM := Lib.hid (fun (u : World) (hb : Below w.heap.size w u) => made_l (w := u) hf (hP.out.below hb))
    have Hok := Lib.hid (few_ok hP.out (fine_few hf).1)
    have Hc := Lib.hid (fine_few hf).2
    have G := Lib.hid (good_of (fine_few hf).2)
    clear hf
    go_enter Try.func12, Try.ntmps12
    go_wp2_with fail
    refine (K.out).mono ?_
    rintro e w1 ⟨rfl, hbx⟩
    have HB1 := Lib.hid (HBa.out.below hbx)
    have Hb1 := Lib.hid (below_step Hba.out hbx Hba.out.size)
    clear hbx c0 c1 c2 c3 c4 c5 c6 c7 c8
    obtain ⟨_, c0, c1, c2, c3, c4, c5, c6, c7, c8⟩ := HB1.out
    dsimp only at c0 c1 c2 c3
    clear K
    go_wp2_with fail
    refine (HF.out w1 Hb1.out).mono ?_
    rintro e w2 ⟨rfl, hbx⟩
    have HB2 := Lib.hid (HB1.out.below hbx)
    have Hb2 := Lib.hid (below_step Hb1.out hbx Hb1.out.size)
    clear hbx c0 c1 c2 c3 c4 c5 c6 c7 c8
    obtain ⟨_, c0, c1, c2, c3, c4, c5, c6, c7, c8⟩ := HB2.out
    dsimp only at c0 c1 c2 c3
    go_wp2_with fail
    refine (HM.out w2 Hb2.out).mono ?_
    rintro e w3 ⟨b, rfl, hbb, hn, hbx⟩
    have HB3 := Lib.hid (HB2.out.below hbx)
    have Hb3 := Lib.hid (below_step Hb2.out hbx Hb2.out.size)
    have HN3 := Lib.hid hn
    have hbb := Nat.le_trans Hb2.out.size hbb
    clear hbx hn HF HM c0 c1 c2 c3 c4 c5 c6 c7 c8
    obtain ⟨_, c0, c1, c2, c3, c4, c5, c6, c7, c8⟩ := HB3.out
    dsimp only at c0 c1 c2 c3
    go_wp2_with fail
    have le := Lib.hid (show p.elems.length = ne from hP.out.e.len)
    have lj := Lib.hid (show p.joins.length = nj from hP.out.j.len)
    have hne : ne ≤ 60 := Hok.out.1
    have hnj : nj ≤ 120 := Hok.out.2.1
    have NL := Lib.hid (fun (u : World) (hn : NetAt u b p) => nlen_any u b p hn)
    rw [le.out] at NL
    clear c0 c1 c2 c3 c4 c5 c6 c7 c8
    go_loopg [4, 5] ne (fun k cn i wr => ∃ j : Nat, j + k = ne ∧ i = .int .i64 j ∧ cn = .int .i64 (cntTo p j 0 : Nat) ∧ NetAt wr b p ∧ Below w3.heap.size w3 wr)
    case atStart => exact ⟨0, by omega, rfl, rfl, HN3.out, Below.refl _ _⟩
    case round =>
      obtain ⟨j, hk, rfl, rfl, hN, hb⟩ := hrel
      have Hk := Lib.hid hk; clear hk
      have HN := Lib.hid hN
      have Hb := Lib.hid hb
      clear hN hb
      by_cases hlt : j < ne
      · go_wp2_with fail
        refine (NL.out wr HN.out).mono ?_
        rintro en w4 ⟨rfl, rfl⟩
        go_wp2_with fail
        go_loopg [4, 6] 4 (fun k cn i w' => ∃ e : Nat, e + k = 4 ∧ i = .int .i64 e ∧ cn = .int .i64 (cntTo p j e : Nat) ∧ NetAt w' b p ∧ Below w3.heap.size w3 w')
        case atStart => exact ⟨0, by omega, rfl, rfl, HN.out, Hb.out⟩
        case round =>
          clear HN Hb
          obtain ⟨e, hk2, rfl, rfl, hN, hb⟩ := hrel
          have Hk2 := Lib.hid hk2; clear hk2
          have HN := Lib.hid hN
          have Hb := Lib.hid hb
          clear hN hb
          have hcl := cnt_le p j e
          by_cases hlt2 : e < 4
          · have hwf : Port.wf ⟨(j : Int), (e : Int)⟩ := ⟨inI_mk (by show _ ≤ (j : Int); omega) (by show (j : Int) ≤ _; omega), inI_mk (by show _ ≤ (e : Int); omega) (by show (e : Int) ≤ _; omega)⟩
            have HC := Lib.hid (fun (u : World) (hn : NetAt u b p) => nnext_any u b p hn ⟨(j : Int), (e : Int)⟩ hwf)
            go_wp2_with fail
            refine name_calls fun w5 hw => ?_
            have Hn5 := Lib.hid (show Below wr.heap.size wr w5 by rw [hw]; exact below_new _ _)
            have Q5 := Lib.hid (show PortBox w5 wr.heap.size ⟨(j : Int), (e : Int)⟩ by rw [hw]; exact PortBox.new _ rfl ⟨(j : Int), (e : Int)⟩ _)
            clear hw
            have HN5 := Lib.hid (HN.out.below Hn5.out)
            have Hb5 := Lib.hid (below_step Hb.out Hn5.out Hb.out.size)
            cases hn : nextOf p ⟨(j : Int), (e : Int)⟩ with
            | none =>
              rw [hn] at HC
              dsimp only [Port.val, Option.getD_none, Option.isSome_none] at HC
              have Hcn := Lib.hid (cnt_no (p := p) (i := j) (e := e) (by rw [hn]; rfl))
              clear hn
              refine (HC.out w5 HN5.out).mono ?_
              rintro en w6 ⟨rfl, hbx⟩
              have HN6 := Lib.hid (HN5.out.below hbx)
              have Hb6 := Lib.hid (below_step Hb5.out hbx Hb5.out.size)
              clear hbx
              go_wp2_with fail
              go_roundg (gk - 1)
              case measure => have := Hk2.out; omega
              case rel => exact ⟨e + 1, by have := Hk2.out; omega, by go_num, by rw [Hcn.out], HN6.out.below (below_new _ _), Hb6.out.alloc Hb6.out.size _⟩
            | some y =>
              obtain ⟨g1, g2⟩ := G.out.back hn
              have hyw : y.wf := by
                have h1 := isPort_iff.1 (G.out.ports hn).2
                have h2 := ends_nonneg (p.kind y.e)
                have h3 := le.out
                exact ⟨inI_mk (by omega) (by omega), inI_mk (by omega) (by omega)⟩
              rw [hn] at HC
              dsimp only [Port.val, Option.getD_some, Option.isSome_some] at HC
              have HD := Lib.hid (fun (u : World) (hn : NetAt u b p) => nnext_any u b p hn y hyw)
              rw [g1] at HD
              dsimp only [Port.val, Option.getD_some, Option.isSome_some] at HD
              have Hcn := Lib.hid (cnt_yes (p := p) (i := j) (e := e) (by rw [hn]; rfl))
              have eqp := neq_port (x := ⟨(j : Int), (e : Int)⟩) (y := ⟨(j : Int), (e : Int)⟩) (b := true) (by simp)
              dsimp only at eqp
              clear hn g1 g2 hyw
              refine (HC.out w5 HN5.out).mono ?_
              rintro en w6 ⟨rfl, hbx⟩
              have HN6 := Lib.hid (HN5.out.below hbx)
              have Q6 := Lib.hid (Q5.out.below hbx)
              have Hb6 := Lib.hid (below_step Hb5.out hbx Hb5.out.size)
              clear hbx
              go_wp2_with fail
              refine name_calls fun w7 hw => ?_
              have Hn7 := Lib.hid (show Below w6.heap.size w6 w7 by rw [hw]; exact below_new _ _)
              clear hw
              have HN7 := Lib.hid (HN6.out.below Hn7.out)
              have Q7 := Lib.hid (Q6.out.below Hn7.out)
              have Hb7 := Lib.hid (below_step Hb6.out Hn7.out Hb6.out.size)
              refine (HD.out w7 HN7.out).mono ?_
              rintro en w8 ⟨rfl, hbx⟩
              have HN8 := Lib.hid (HN7.out.below hbx)
              have Q8 := Lib.hid (Q7.out.below hbx)
              have Hb8 := Lib.hid (below_step Hb7.out hbx Hb7.out.size)
              clear hbx
              obtain ⟨hql, q0, q1, _⟩ := Q8.out
              dsimp only at q0 q1
              go_wp2_with fail
              go_roundg (gk - 1)
              case measure => have := Hk2.out; omega
              case rel => exact ⟨e + 1, by have := Hk2.out; omega, by go_num, by rw [Hcn.out]; go_num, HN8.out.below (below_new _ _), Hb8.out.alloc Hb8.out.size _⟩
          · have he4 : e = 4 := by have := Hk2.out; omega
            subst he4
            have Hr := Lib.hid (cnt_row p j)
            go_wp2_with fail
            go_roundg (ne - j - 1)
            case measure => have := Hk.out; omega
            case rel => exact ⟨j + 1, by have := Hk.out; omega, by go_num, by rw [Hr.out], HN.out, Hb.out⟩
      · have Hj := Lib.hid (show j = ne by have := Hk.out; omega)
        have Hce := Lib.hid (show cntTo p j 0 = 2 * nj by rw [Hj.out, ← le.out, cnt_end, joinedNo_eq G.out, lj.out])
        rw [Hce.out]
        have HBr := Lib.hid (HB3.out.below Hb.out)
        obtain ⟨_, c0, c1, c2, c3, c4, c5, c6, c7, c8⟩ := HBr.out
        dsimp only at c0 c1 c2 c3
        go_wp2_with fail
        refine (NL.out wr HN.out).mono ?_
        rintro en w4 ⟨rfl, rfl⟩
        go_wp2_with fail
        go_ret
        exact ⟨ret_bool (by simp), below_step Hb3.out Hb.out Hb3.out.size⟩
set_option maxRecDepth 100000 in
theorem netTwice_lifted (os : Os) (started : os.Started) (H : Type) (enc : TypeId × Value → H) :
    ReturnsInHanded {} Try.checked os 12 .any (Rows.netTwiceSpec.pre6 enc Try.prog Try.f12 Rows.netTwiceRow.domain false) (Rows.netTwiceSpec.post enc Try.prog Try.f12 false true false false) := by
  refine returnsInHanded_of_change (C := Try.checked) own started (by kernel_rfl) Try.func12
    (ChangeSpec.witness6 (enc := enc) (C := Try.checked) false ⟨#[], #[.agg #[.slice none 0 0, .slice none 0 0, .slice none 0 0, .slice none 0 0, .int .i64 0, .int .i64 0, .int .i64 0, .int .i64 0, .bool false]], []⟩ 8 (by kernel_rfl) (by kernel_rfl) (by kernel_rfl) (by kernel_rfl)) ?_
  intro W base args ds gs before hval0 hW hcnd _
  have hval : ∀ (j : Nat) t v, Try.f12.params[j]? = some t → args[j]? = some v → Value.okWide Try.prog W .any base t v := hval0
  have hW' := hW
  obtain ⟨p, q, hA0, hV, rfl, hfz, hnd⟩ := hW
  have hA : DataW.TrodAll enc Try.prog W 0 (fun _ => true) true Try.f12.params.toList args.toList ds p := hA0
  rw [Try.params12] at hA hval
  obtain ⟨v0, vs0, d0, ds0, p0, q0, hargs, rfl, rfl, k0, r0⟩ := trodAll_cons hA
  obtain ⟨rfl, rfl, rfl⟩ := trodAll_nil r0
  obtain rfl : args = #[v0] := by cases args; simp_all
  obtain ⟨rfl, rfl⟩ := trodVars_none hV
  have lt0 : ∀ x ∈ p0, x.block < W.heap.size := by obtain ⟨m, hm⟩ := k0; exact DataW.trod_lt m _ _ _ hm
  have hv0 := hval 0 32 v0 rfl rfl
  have fin : Calls Try.prog 12 #[v0] W (fun e W' => e = .returned (.bool true) ∧ Below W.heap.size W W') := by
    obtain ⟨pv, p, rfl, hp⟩ := open_plan hv0 k0
    exact lawTwiceN_any W pv p hp
  clear hA0 hval0
  refine fin.mono fun e W' ⟨he, bel⟩ => ?_
  subst he
  exact ⟨_, rfl, _, _, _, [], _, [], hW', trodAll_mk1 (shut_bool Try.underlying4 _), (trodAll_cons_mk (Below.trod laidOut (by kernel_rfl) (of_decide_eq_true (by kernel_rfl)) k0 bel lt0) trodAll_mk0), rfl, bel.frame _, fun h => by cases h⟩

/-- THE STATEMENT -/
theorem netTwice_holds : Rows.NetTwiceSaid :=
  OpenClaim.holds_of_wide 12 Try.f12 rfl rfl rfl rfl rfl rfl rfl ⟨rfl, rfl, rfl, rfl, rfl⟩ rfl rfl rfl rfl rfl (by kernel_rfl) Try.func12 (by kernel_rfl)
    (of_decide_eq_true (by kernel_rfl)) (by unfold Func.isWrapper; first | (rw [if_pos (by decide +kernel)]; kernel_rfl) | (rw [if_neg (by decide +kernel)]; exact ⟨rfl, rfl⟩))
    (fun os started H enc _ => netTwice_lifted os started H enc)
end Go.Proofs.Ytlndfmflbdkpjaa
