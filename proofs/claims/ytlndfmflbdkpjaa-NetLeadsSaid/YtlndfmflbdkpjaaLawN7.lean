/- NetLeads: for every input the law returns true. No condition. -/
import Derived.Test.YtlndfmflbdkpjaaNetPlit
set_option maxRecDepth 1000000
namespace Go.Proofs.Ytlndfmflbdkpjaa
open Go.ChangeShapes Go.WideShapes Go.ChangeAt Go.RowKit Go.Sort

set_option maxHeartbeats 4000000 in
theorem lawLeads_any (w : World) (pv : PV) (p : Plan) (h : PlanAt w pv p) :
    Calls Try.prog 16 #[pv.val p] w fun en w' => en = .returned (.bool true) ∧ Below w.heap.size w w' := by
  obtain ⟨ae, ne, ce, aj, nj, cj, as_, ns, cs, al, nl, cl, lv⟩ := pv
  have hP := Lib.hid h
  have HBa := Lib.hid (pbox_new w ⟨ae, ne, ce, aj, nj, cj, as_, ns, cs, al, nl, cl, lv⟩ p)
  have Hba := Lib.hid (below_new w (.cells #[.slice ae ne ce, .slice aj nj cj, .slice as_ ns cs, .slice al nl cl, .int .i64 p.top, .int .i64 p.brake, .int .i64 p.margin, .int .i64 p.throw, .bool p.hard] 32))
  have K := Lib.hid (known4_any (w.alloc (.cells #[.slice ae ne ce, .slice aj nj cj, .slice as_ ns cs, .slice al nl cl, .int .i64 p.top, .int .i64 p.brake, .int .i64 p.margin, .int .i64 p.throw, .bool p.hard] 32)))
  have HF := Lib.hid (fun (u : World) (hb : Below w.heap.size w u) => finex_l (w := u) (hP.out.below hb))
  clear h
  dsimp only [PV.val]
  obtain ⟨_, c0, c1, c2, c3, c4, c5, c6, c7, c8⟩ := HBa.out
  dsimp only at c0 c1 c2 c3
  cases hf : fine p with
  | false =>
    rw [hf] at HF
    clear hf
    go_enter Try.func16, Try.ntmps16
    go_wp2_with fail
    refine (K.out).mono ?_
    rintro e w1 ⟨rfl, hbx⟩
    have HB1 := Lib.hid (HBa.out.below hbx)
    have Hb1 := Lib.hid (below_step Hba.out hbx Hba.out.size)
    clear hbx c0 c1 c2 c3 c4 c5 c6 c7 c8
    obtain ⟨_, c0, c1, c2, c3, c4, c5, c6, c7, c8⟩ := HB1.out
    dsimp only at c0 c1 c2 c3
    clear K
    go_wp2_with fail
    refine (HF.out w1 Hb1.out).mono ?_
    rintro e w2 ⟨rfl, hbx⟩
    have HB2 := Lib.hid (HB1.out.below hbx)
    have Hb2 := Lib.hid (below_step Hb1.out hbx Hb1.out.size)
    clear hbx c0 c1 c2 c3 c4 c5 c6 c7 c8
    obtain ⟨_, c0, c1, c2, c3, c4, c5, c6, c7, c8⟩ := HB2.out
    dsimp only at c0 c1 c2 c3
    go_wp2_with fail
    go_ret
    exact ⟨rfl, Hb2.out⟩
  | true =>
    rw [hf] at HF
    have HM := Lib.hid (fun (u : World) (hb : Below w.heap.size w u) => made_l (w := u) hf (hP.out.below hb))
    have Hok := Lib.hid (few_ok hP.out (fine_few hf).1)
    have Hc := Lib.hid (fine_few hf).2
    have G := Lib.hid (good_of (fine_few hf).2)
    clear hf
    go_enter Try.func16, Try.ntmps16
    go_wp2_with fail
    refine (K.out).mono ?_
    rintro e w1 ⟨rfl, hbx⟩
    have HB1 := Lib.hid (HBa.out.below hbx)
    have Hb1 := Lib.hid (below_step Hba.out hbx Hba.out.size)
    clear hbx c0 c1 c2 c3 c4 c5 c6 c7 c8
    obtain ⟨_, c0, c1, c2, c3, c4, c5, c6, c7, c8⟩ := HB1.out
    dsimp only at c0 c1 c2 c3
    clear K
    go_wp2_with fail
    refine (HF.out w1 Hb1.out).mono ?_
    rintro e w2 ⟨rfl, hbx⟩
    have HB2 := Lib.hid (HB1.out.below hbx)
    have Hb2 := Lib.hid (below_step Hb1.out hbx Hb1.out.size)
    clear hbx c0 c1 c2 c3 c4 c5 c6 c7 c8
    obtain ⟨_, c0, c1, c2, c3, c4, c5, c6, c7, c8⟩ := HB2.out
    dsimp only at c0 c1 c2 c3
    go_wp2_with fail
    refine (HM.out w2 Hb2.out).mono ?_
    rintro e w3 ⟨b, rfl, hbb, hn, hbx⟩
    have HB3 := Lib.hid (HB2.out.below hbx)
    have Hb3 := Lib.hid (below_step Hb2.out hbx Hb2.out.size)
    have HN3 := Lib.hid hn
    have hbb := Nat.le_trans Hb2.out.size hbb
    clear hbx hn HF HM c0 c1 c2 c3 c4 c5 c6 c7 c8
    obtain ⟨_, c0, c1, c2, c3, c4, c5, c6, c7, c8⟩ := HB3.out
    dsimp only at c0 c1 c2 c3
    go_wp2_with fail
    have ll := Lib.hid (show lv.length = nl from hP.out.l.row.len)
    have hnl : nl ≤ 20 := Hok.out.2.2.2.1
    clear c0 c1 c2 c3 c4 c5 c6 c7 c8
    go_loopg [4] nl (fun k i wr => ∃ j : Nat, j + k = nl ∧ i = .int .i64 j ∧ NetAt wr b p ∧ Below w3.heap.size w3 wr)
    case atStart => exact ⟨0, by omega, rfl, HN3.out, Below.refl _ _⟩
    case round =>
      obtain ⟨j, hk, rfl, hN, hb⟩ := hrel
      have Hk := Lib.hid hk; clear hk
      have HN := Lib.hid hN
      have Hb := Lib.hid hb
      clear hN hb
      have HBr := Lib.hid (HB3.out.below Hb.out)
      by_cases hlt : j < nl
      · obtain ⟨⟨nm, ya, yn, yc, yel⟩, hy⟩ := get_some ll.out hlt
        have Hbw := Lib.hid (below_step Hb3.out Hb.out Hb3.out.size)
        obtain ⟨pb, off, rfl, hpb, g1, g2⟩ := hP.out.l.row.lineB Hbw.out hy
        have HyL := Lib.hid (show p.lines[j]? = some ⟨nm, yel⟩ by rw [hP.out.lp, List.getElem?_map, hy]; rfl)
        have Hints := Lib.hid (show Ints w ya yn yel from hP.out.l.ints _ (List.mem_of_getElem? hy))
        have ly := Lib.hid (show yel.length = yn from Hints.out.len)
        have hyn : yn ≤ 60 := Hok.out.2.2.2.2 _ (List.mem_of_getElem? hy)
        dsimp only at g1 g2
        clear hy
        obtain ⟨_, c0, c1, c2, c3, c4, c5, c6, c7, c8⟩ := HBr.out
        dsimp only at c0 c1 c2 c3
        go_wp2_with fail
        clear c0 c1 c2 c3 c4 c5 c6 c7 c8 g1 g2 Hbw
        go_loopg [6] yn (fun k i w' => ∃ q : Nat, q + k = yn ∧ i = .int .i64 q ∧ NetAt w' b p ∧ Below w3.heap.size w3 w')
        case atStart => exact ⟨0, by omega, rfl, HN.out, Hb.out⟩
        case round =>
          clear HN Hb HBr
          obtain ⟨q, hk2, rfl, hN, hb⟩ := hrel
          have Hk2 := Lib.hid hk2; clear hk2
          have HN := Lib.hid hN
          have Hb := Lib.hid hb
          clear hN hb
          by_cases hlt2 : q < yn
          · obtain ⟨e0, he⟩ := get_some ly.out hlt2
            obtain ⟨pa, offa, rfl, hpa, ge⟩ := Hints.out.int he
            have ge := ((below_step Hb3.out Hb.out Hb3.out.size).cell (p := ⟨pa, offa + q, none⟩) hpa).trans ge
            have hei : inI e0 := (hP.out.fit.l _ (List.mem_of_getElem? HyL.out)).1 e0 (List.mem_of_getElem? he)
            obtain ⟨u, h01, hlead, hl0, hl1, hnext⟩ := leads_law G.out HyL.out he
            clear he
            rcases h01 with rfl | rfl
            · rw [if_pos rfl] at hl0
              rw [if_neg (by omega)] at hl1
              have HC := Lib.hid (show ∀ dd v, nextOf p ⟨e0, 0⟩ = some ⟨dd, v⟩ → ∀ (u' : World), NetAt u' b p → Calls Try.prog 41 #[.pointer (some ⟨b, 0, none⟩), .agg #[.int .i64 e0, .int .i64 0]] u' fun en w' => en = .returned (.tuple #[.agg #[.int .i64 dd, .int .i64 v], .bool true]) ∧ Below u'.heap.size u' w' from fun dd v hnx u' hn => by
                have h7 := nnext_any u' b p hn ⟨e0, 0⟩ ⟨hei, inI_mk (by show _ ≤ (0 : Int); omega) (by show (0 : Int) ≤ _; omega)⟩
                rw [hnx] at h7
                exact h7)
              have Hnext := Lib.hid hnext
              have HL0 := Lib.hid (fun (u' : World) (hn : NetAt u' b p) => nlead_b u' b p hn e0 0 hei)
              have HL1 := Lib.hid (fun (u' : World) (hn : NetAt u' b p) => nlead_b u' b p hn e0 1 hei)
              rw [hl0] at HL0
              rw [hl1] at HL1
              clear hnext hl0 hl1 hlead
              go_wp2_with fail
              have geq := fun d os => cell_regrown ge d os
              have cq0 : ∀ d os, Calls Try.prog 54 #[.pointer (some ⟨b, 0, none⟩), .int .i64 e0, .int .i64 0] (grow (redrawn wr d) os) fun e w'' => e = .returned (.int .i64 1) ∧ ∃ rg : Regrown, w'' = grow (redrawn wr rg.d) rg.os := fun d os => Calls.regrown_of (HL0.out _ (HN.out.below (below_regrown _ d os)))
              have cq1 : ∀ d os, Calls Try.prog 54 #[.pointer (some ⟨b, 0, none⟩), .int .i64 e0, .int .i64 1] (grow (redrawn wr d) os) fun e w'' => e = .returned (.int .i64 2) ∧ ∃ rg : Regrown, w'' = grow (redrawn wr rg.d) rg.os := fun d os => Calls.regrown_of (HL1.out _ (HN.out.below (below_regrown _ d os)))
              refine wp_region_quiet_below (by kernel_rfl) (by kernel_rfl) ?_
              repeat (quiet_step (first | with_reducible exact cq0 _ _ | with_reducible exact cq1 _ _))
              refine wpQuiet_nil ?_
              intro w4 hw'
              have hb4 : Below wr.heap.size wr w4 := by obtain ⟨⟨d, os⟩, rfl⟩ := hw'; exact below_regrown _ d os
              clear hw' geq cq0 cq1
              have HN4 := Lib.hid (HN.out.below hb4)
              have Hb4 := Lib.hid (below_step Hb.out hb4 Hb.out.size)
              have ge := (hb4.cell (p := ⟨pa, offa + q, none⟩) (block_lt_of_cell ge)).trans ge
              clear hb4
              by_cases hq0 : q = 0
              · subst hq0
                go_wp2_with fail
                go_roundg (gk - 1)
                case measure => have := Hk2.out; omega
                case rel => exact ⟨0 + 1, by have := Hk2.out; omega, by go_num, HN4.out, Hb4.out⟩
              · obtain ⟨r, rfl⟩ : ∃ r, q = r + 1 := ⟨q - 1, by omega⟩
                have hqe : (((r + 1 : Nat) : Int) == 0) = false := by rw [beq_eq_false_iff_ne]; omega
                have hqe2 : ((r : Int) + 1 == 0) = false := by rw [beq_eq_false_iff_ne]; omega
                obtain ⟨dd, hd⟩ := get_some ly.out (show r < yn by omega)
                obtain ⟨v, hnx, hld⟩ := Hnext.out r dd rfl hd
                obtain ⟨hpa2, gd⟩ := Hints.out.int' hd
                have hdi : inI dd := (hP.out.fit.l _ (List.mem_of_getElem? HyL.out)).1 dd (List.mem_of_getElem? hd)
                have hv1 := isPort_iff.1 (G.out.ports hnx).2
                have hv2 := ends_nonneg (p.kind dd)
                dsimp only at hv1
                have hv3 : 0 ≤ v := by omega
                have hv4 : v ≤ 4 := by omega
                have HL2 := Lib.hid (fun (u' : World) (hn : NetAt u' b p) => nlead_b u' b p hn dd (1 - v) hdi)
                rw [hld] at HL2
                have HC2 := Lib.hid (HC.out dd v hnx)
                clear hv1 hv2 hld hnx hd hq0
                go_wp2_with fail
                refine (HC2.out w4 HN4.out).mono ?_
                rintro en w5 ⟨rfl, hbx⟩
                have HN5 := Lib.hid (HN4.out.below hbx)
                have Hb5 := Lib.hid (below_step Hb4.out hbx Hb4.out.size)
                clear hbx
                go_wp2_with fail
                refine name_code fun w6 hw => ?_
                have Hn6 := Lib.hid (show Below w5.heap.size w5 w6 by rw [hw]; exact below_new _ _)
                have Q6 := Lib.hid (show PortBox w6 w5.heap.size ⟨dd, v⟩ by rw [hw]; exact PortBox.new _ rfl ⟨dd, v⟩ _)
                clear hw
                have HN6 := Lib.hid (HN5.out.below Hn6.out)
                have Hb6 := Lib.hid (below_step Hb5.out Hn6.out Hb5.out.size)
                obtain ⟨_, x0, x1, _⟩ := Q6.out
                dsimp only at x0 x1
                have gd := ((below_step Hb3.out Hb6.out Hb3.out.size).cell (p := ⟨pa, offa + r, none⟩) hpa2).trans gd
                have t2 : (0 : Int) ≤ (r : Int) := by omega
                have t3 : (r : Int) < (yn : Int) := by omega
                have t4 : (r : Int) + 1 - 1 = (r : Int) := by omega
                have hwr1 : IntKind.i64.wrap ((r : Int) + 1 - 1) = (r : Int) := by rw [t4]; exact IntWalk.i64_in _ (by omega)
                have hwr3 : IntKind.i64.wrap (r : Int) = (r : Int) := IntWalk.i64_in _ (by omega)
                have hwr2 : IntKind.i64.wrap (1 - v) = 1 - v := IntWalk.i64_in _ (by omega)
                have x0q := fun d os => cell_regrown x0 d os
                have x1q := fun d os => cell_regrown x1 d os
                have gdq := fun d os => cell_regrown gd d os
                have cq0 : ∀ d os, Calls Try.prog 54 #[.pointer (some ⟨b, 0, none⟩), .int .i64 dd, .int .i64 (1 - v)] (grow (redrawn w6 d) os) fun e w'' => e = .returned (.int .i64 1) ∧ ∃ rg : Regrown, w'' = grow (redrawn w6 rg.d) rg.os := fun d os => Calls.regrown_of (HL2.out _ (HN6.out.below (below_regrown _ d os)))
                refine wp_region_quiet_below (by kernel_rfl) (by kernel_rfl) ?_
                repeat (quiet_step (first | with_reducible exact cq0 _ _))
                refine wpQuiet_nil ?_
                intro w7 hw'
                have hb7 : Below w6.heap.size w6 w7 := by obtain ⟨⟨d, os⟩, rfl⟩ := hw'; exact below_regrown _ d os
                clear hw' x0q x1q gdq cq0
                have HN7 := Lib.hid (HN6.out.below hb7)
                have Hb7 := Lib.hid (below_step Hb6.out hb7 Hb6.out.size)
                clear hb7 x0 x1 gd hwr1 hwr2 hwr3 t2 t3 t4
                go_wp2_with fail
                go_roundg (gk - 1)
                case measure => have := Hk2.out; omega
                case rel => exact ⟨r + 1 + 1, by have := Hk2.out; omega, by go_num, HN7.out, Hb7.out⟩
            · rw [if_neg (by omega)] at hl0
              rw [if_pos rfl] at hl1
              have HC := Lib.hid (show ∀ dd v, nextOf p ⟨e0, 1⟩ = some ⟨dd, v⟩ → ∀ (u' : World), NetAt u' b p → Calls Try.prog 41 #[.pointer (some ⟨b, 0, none⟩), .agg #[.int .i64 e0, .int .i64 1]] u' fun en w' => en = .returned (.tuple #[.agg #[.int .i64 dd, .int .i64 v], .bool true]) ∧ Below u'.heap.size u' w' from fun dd v hnx u' hn => by
                have h7 := nnext_any u' b p hn ⟨e0, 1⟩ ⟨hei, inI_mk (by show _ ≤ (1 : Int); omega) (by show (1 : Int) ≤ _; omega)⟩
                rw [hnx] at h7
                exact h7)
              have Hnext := Lib.hid hnext
              have HL0 := Lib.hid (fun (u' : World) (hn : NetAt u' b p) => nlead_b u' b p hn e0 0 hei)
              have HL1 := Lib.hid (fun (u' : World) (hn : NetAt u' b p) => nlead_b u' b p hn e0 1 hei)
              rw [hl0] at HL0
              rw [hl1] at HL1
              clear hnext hl0 hl1 hlead
              go_wp2_with fail
              have geq := fun d os => cell_regrown ge d os
              have cq0 : ∀ d os, Calls Try.prog 54 #[.pointer (some ⟨b, 0, none⟩), .int .i64 e0, .int .i64 0] (grow (redrawn wr d) os) fun e w'' => e = .returned (.int .i64 2) ∧ ∃ rg : Regrown, w'' = grow (redrawn wr rg.d) rg.os := fun d os => Calls.regrown_of (HL0.out _ (HN.out.below (below_regrown _ d os)))
              have cq1 : ∀ d os, Calls Try.prog 54 #[.pointer (some ⟨b, 0, none⟩), .int .i64 e0, .int .i64 1] (grow (redrawn wr d) os) fun e w'' => e = .returned (.int .i64 1) ∧ ∃ rg : Regrown, w'' = grow (redrawn wr rg.d) rg.os := fun d os => Calls.regrown_of (HL1.out _ (HN.out.below (below_regrown _ d os)))
              refine wp_region_quiet_below (by kernel_rfl) (by kernel_rfl) ?_
              repeat (quiet_step (first | with_reducible exact cq0 _ _ | with_reducible exact cq1 _ _))
              refine wpQuiet_nil ?_
              intro w4 hw'
              have hb4 : Below wr.heap.size wr w4 := by obtain ⟨⟨d, os⟩, rfl⟩ := hw'; exact below_regrown _ d os
              clear hw' geq cq0 cq1
              have HN4 := Lib.hid (HN.out.below hb4)
              have Hb4 := Lib.hid (below_step Hb.out hb4 Hb.out.size)
              have ge := (hb4.cell (p := ⟨pa, offa + q, none⟩) (block_lt_of_cell ge)).trans ge
              clear hb4
              by_cases hq0 : q = 0
              · subst hq0
                go_wp2_with fail
                go_roundg (gk - 1)
                case measure => have := Hk2.out; omega
                case rel => exact ⟨0 + 1, by have := Hk2.out; omega, by go_num, HN4.out, Hb4.out⟩
              · obtain ⟨r, rfl⟩ : ∃ r, q = r + 1 := ⟨q - 1, by omega⟩
                have hqe : (((r + 1 : Nat) : Int) == 0) = false := by rw [beq_eq_false_iff_ne]; omega
                have hqe2 : ((r : Int) + 1 == 0) = false := by rw [beq_eq_false_iff_ne]; omega
                obtain ⟨dd, hd⟩ := get_some ly.out (show r < yn by omega)
                obtain ⟨v, hnx, hld⟩ := Hnext.out r dd rfl hd
                obtain ⟨hpa2, gd⟩ := Hints.out.int' hd
                have hdi : inI dd := (hP.out.fit.l _ (List.mem_of_getElem? HyL.out)).1 dd (List.mem_of_getElem? hd)
                have hv1 := isPort_iff.1 (G.out.ports hnx).2
                have hv2 := ends_nonneg (p.kind dd)
                dsimp only at hv1
                have hv3 : 0 ≤ v := by omega
                have hv4 : v ≤ 4 := by omega
                have HL2 := Lib.hid (fun (u' : World) (hn : NetAt u' b p) => nlead_b u' b p hn dd (1 - v) hdi)
                rw [hld] at HL2
                have HC2 := Lib.hid (HC.out dd v hnx)
                clear hv1 hv2 hld hnx hd hq0
                go_wp2_with fail
                refine (HC2.out w4 HN4.out).mono ?_
                rintro en w5 ⟨rfl, hbx⟩
                have HN5 := Lib.hid (HN4.out.below hbx)
                have Hb5 := Lib.hid (below_step Hb4.out hbx Hb4.out.size)
                clear hbx
                go_wp2_with fail
                refine name_code fun w6 hw => ?_
                have Hn6 := Lib.hid (show Below w5.heap.size w5 w6 by rw [hw]; exact below_new _ _)
                have Q6 := Lib.hid (show PortBox w6 w5.heap.size ⟨dd, v⟩ by rw [hw]; exact PortBox.new _ rfl ⟨dd, v⟩ _)
                clear hw
                have HN6 := Lib.hid (HN5.out.below Hn6.out)
                have Hb6 := Lib.hid (below_step Hb5.out Hn6.out Hb5.out.size)
                obtain ⟨_, x0, x1, _⟩ := Q6.out
                dsimp only at x0 x1
                have gd := ((below_step Hb3.out Hb6.out Hb3.out.size).cell (p := ⟨pa, offa + r, none⟩) hpa2).trans gd
                have t2 : (0 : Int) ≤ (r : Int) := by omega
                have t3 : (r : Int) < (yn : Int) := by omega
                have t4 : (r : Int) + 1 - 1 = (r : Int) := by omega
                have hwr1 : IntKind.i64.wrap ((r : Int) + 1 - 1) = (r : Int) := by rw [t4]; exact IntWalk.i64_in _ (by omega)
                have hwr3 : IntKind.i64.wrap (r : Int) = (r : Int) := IntWalk.i64_in _ (by omega)
                have hwr2 : IntKind.i64.wrap (1 - v) = 1 - v := IntWalk.i64_in _ (by omega)
                have x0q := fun d os => cell_regrown x0 d os
                have x1q := fun d os => cell_regrown x1 d os
                have gdq := fun d os => cell_regrown gd d os
                have cq0 : ∀ d os, Calls Try.prog 54 #[.pointer (some ⟨b, 0, none⟩), .int .i64 dd, .int .i64 (1 - v)] (grow (redrawn w6 d) os) fun e w'' => e = .returned (.int .i64 1) ∧ ∃ rg : Regrown, w'' = grow (redrawn w6 rg.d) rg.os := fun d os => Calls.regrown_of (HL2.out _ (HN6.out.below (below_regrown _ d os)))
                refine wp_region_quiet_below (by kernel_rfl) (by kernel_rfl) ?_
                repeat (quiet_step (first | with_reducible exact cq0 _ _))
                refine wpQuiet_nil ?_
                intro w7 hw'
                have hb7 : Below w6.heap.size w6 w7 := by obtain ⟨⟨d, os⟩, rfl⟩ := hw'; exact below_regrown _ d os
                clear hw' x0q x1q gdq cq0
                have HN7 := Lib.hid (HN6.out.below hb7)
                have Hb7 := Lib.hid (below_step Hb6.out hb7 Hb6.out.size)
                clear hb7 x0 x1 gd hwr1 hwr2 hwr3 t2 t3 t4
                go_wp2_with fail
                go_roundg (gk - 1)
                case measure => have := Hk2.out; omega
                case rel => exact ⟨r + 1 + 1, by have := Hk2.out; omega, by go_num, HN7.out, Hb7.out⟩
          · go_wp2_with fail
            go_roundg (nl - j - 1)
            case measure => have := Hk.out; omega
            case rel => exact ⟨j + 1, by have := Hk.out; omega, by go_num, HN.out, Hb.out⟩
      ·
        obtain ⟨_, c0, c1, c2, c3, c4, c5, c6, c7, c8⟩ := HBr.out
        dsimp only at c0 c1 c2 c3
        go_wp2_with fail
        go_ret
        exact ⟨rfl, below_step Hb3.out Hb.out Hb3.out.size⟩
set_option maxRecDepth 100000 in
theorem netLeads_lifted (os : Os) (started : os.Started) (H : Type) (enc : TypeId × Value → H) :
    ReturnsInHanded {} Try.checked os 16 .any (Rows.netLeadsSpec.pre6 enc Try.prog Try.f16 Rows.netLeadsRow.domain false) (Rows.netLeadsSpec.post enc Try.prog Try.f16 false true false false) := by
  refine returnsInHanded_of_change (C := Try.checked) own started (by kernel_rfl) Try.func16
    (ChangeSpec.witness6 (enc := enc) (C := Try.checked) false ⟨#[], #[.agg #[.slice none 0 0, .slice none 0 0, .slice none 0 0, .slice none 0 0, .int .i64 0, .int .i64 0, .int .i64 0, .int .i64 0, .bool false]], []⟩ 8 (by kernel_rfl) (by kernel_rfl) (by kernel_rfl) (by kernel_rfl)) ?_
  intro W base args ds gs before hval0 hW hcnd _
  have hval : ∀ (j : Nat) t v, Try.f16.params[j]? = some t → args[j]? = some v → Value.okWide Try.prog W .any base t v := hval0
  have hW' := hW
  obtain ⟨p, q, hA0, hV, rfl, hfz, hnd⟩ := hW
  have hA : DataW.TrodAll enc Try.prog W 0 (fun _ => true) true Try.f16.params.toList args.toList ds p := hA0
  rw [Try.params16] at hA hval
  obtain ⟨v0, vs0, d0, ds0, p0, q0, hargs, rfl, rfl, k0, r0⟩ := trodAll_cons hA
  obtain ⟨rfl, rfl, rfl⟩ := trodAll_nil r0
  obtain rfl : args = #[v0] := by cases args; simp_all
  obtain ⟨rfl, rfl⟩ := trodVars_none hV
  have lt0 : ∀ x ∈ p0, x.block < W.heap.size := by obtain ⟨m, hm⟩ := k0; exact DataW.trod_lt m _ _ _ hm
  have hv0 := hval 0 32 v0 rfl rfl
  have fin : Calls Try.prog 16 #[v0] W (fun e W' => e = .returned (.bool true) ∧ Below W.heap.size W W') := by
    obtain ⟨pv, p, rfl, hp⟩ := open_plan hv0 k0
    exact lawLeads_any W pv p hp
  clear hA0 hval0
  refine fin.mono fun e W' ⟨he, bel⟩ => ?_
  subst he
  exact ⟨_, rfl, _, _, _, [], _, [], hW', trodAll_mk1 (shut_bool Try.underlying4 _), (trodAll_cons_mk (Below.trod laidOut (by kernel_rfl) (of_decide_eq_true (by kernel_rfl)) k0 bel lt0) trodAll_mk0), rfl, bel.frame _, fun h => by cases h⟩

/-- THE STATEMENT -/
theorem netLeads_holds : Rows.NetLeadsSaid :=
  OpenClaim.holds_of_wide 16 Try.f16 rfl rfl rfl rfl rfl rfl rfl ⟨rfl, rfl, rfl, rfl, rfl⟩ rfl rfl rfl rfl rfl (by kernel_rfl) Try.func16 (by kernel_rfl)
    (of_decide_eq_true (by kernel_rfl)) (by unfold Func.isWrapper; first | (rw [if_pos (by decide +kernel)]; kernel_rfl) | (rw [if_neg (by decide +kernel)]; exact ⟨rfl, rfl⟩))
    (fun os started H enc _ => netLeads_lifted os started H enc)
end Go.Proofs.Ytlndfmflbdkpjaa
