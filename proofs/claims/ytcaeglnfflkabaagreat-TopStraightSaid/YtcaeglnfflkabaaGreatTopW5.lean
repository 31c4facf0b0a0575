/- Walk of road.Of. Condition: the net is read; it has no points and no crossings. -/
import Derived.Test.YtcaeglnfflkabaaGreatTopI
set_option maxRecDepth 1000000
namespace Go.Proofs.YtcaeglnfflkabaaGreat
open Go.ChangeShapes Go.WideShapes Go.ChangeAt Go.RowKit Go.Sort

set_option maxHeartbeats 4000000 in
theorem nof_any (w : World) (nb : Nat) (p : Plan) (h : NetAt w nb p) (hwf : ∀ x y, nextOf p x = some y → y.wf) (hat : ∀ s x, sigAt p s = some x → x.wf) (he : Even p) (s : Int) :
    Calls Tryz.prog 69 #[.pointer (some ⟨nb, 0, none⟩), .int .i64 s] w (OfPost w s) := by
  have HA := Lib.hid (nat_any w nb p h s)
  have Hh := Lib.hid h
  have Hwf := Lib.hid hwf
  have He := Lib.hid he
  clear h he hwf
  cases hs : sigAt p s with
  | none =>
    rw [hs] at HA
    dsimp only [Option.getD_none, Option.isSome_none, zeroPort] at HA
    go_enter Tryz.func69, Tryz.ntmps69
    go_wp2_with fail
    go_step3
    go_wp2_with fail
    refine HA.out.mono ?_
    rintro en w1 ⟨rfl, hb1⟩
    go_wp2_with fail
    go_ret
    exact ⟨_, [], rfl, OwnR.nil _ _, by simp, by simp, hb1.alloc hb1.size _⟩
  | some at_ =>
    have hatw := hat s at_ hs
    rw [hs] at HA
    dsimp only [Option.getD_some, Option.isSome_some] at HA
    clear hs
    go_enter Tryz.func69, Tryz.ntmps69
    go_wp2_with fail
    go_step3
    go_wp2_with fail
    refine HA.out.mono ?_
    rintro en w1 ⟨rfl, hb1⟩
    have Hv1 := Lib.hid (hb1.alloc hb1.size (.cells #[.int .i64 at_.e, .int .i64 at_.n] 43))
    have HN := Lib.hid (nnext_any _ nb p (Hh.out.below Hv1.out) at_ hatw)
    have Hl1 := hb1.size
    clear hb1 HA
    dsimp only [Port.val] at HN
    cases hn : nextOf p at_ with
    | none =>
      rw [hn] at HN
      dsimp only [Option.getD_none, Option.isSome_none, zeroPort] at HN
      clear hn
      go_wp2_with fail
      refine HN.out.mono ?_
      rintro en w2 ⟨rfl, hb2⟩
      go_wp2_with fail
      go_ret
      exact ⟨_, [], rfl, OwnR.nil _ _, by simp, by simp, below_step Hv1.out (hb2.alloc hb2.size _) Hv1.out.size⟩
    | some x =>
      have hxw := Hwf.out _ _ hn
      rw [hn] at HN
      dsimp only [Option.getD_some, Option.isSome_some] at HN
      clear hn
      go_wp2_with fail
      refine HN.out.mono ?_
      rintro en w2 ⟨rfl, hb2⟩
      have a0 : (w2.alloc (.cells #[.int .i64 x.e, .int .i64 x.n] 43)).cell? ⟨w1.heap.size, 0, none⟩ = some (.int .i64 at_.e) := ((hb2.alloc hb2.size (.cells #[.int .i64 x.e, .int .i64 x.n] 43)).cell (p := ⟨w1.heap.size, 0, none⟩) (by simp)).trans (by go_simp)
      go_wp2_with fail
      refine name_code fun W0 hW0 => ?_
      have hW0s : W0.heap.size = w2.heap.size + 2 := by rw [hW0]; simp
      have Hv0 := Lib.hid (show Below w.heap.size w W0 by rw [hW0]; exact (below_step Hv1.out (hb2.alloc hb2.size _) Hv1.out.size).alloc (below_step Hv1.out (hb2.alloc hb2.size _) Hv1.out.size).size _)
      have HP0 := Lib.hid (show PathIs W0 (w2.heap.size + 1) W0.heap.size at_.e (.slice none 0 0) (.slice none 0 0) (.slice none 0 0) [] [] [] from by
        have h1 := heap_alloc_new (w2.alloc (.cells #[.int .i64 x.e, .int .i64 x.n] 43)) (.cells #[.int .i64 at_.e, .slice none 0 0, .slice none 0 0, .slice none 0 0] 223)
        rw [← hW0, show (w2.alloc (.cells #[.int .i64 x.e, .int .i64 x.n] 43)).heap.size = w2.heap.size + 1 by simp] at h1
        refine ⟨h1, by omega, Nat.le_refl _, ⟨fun q hq => ?_, ?_⟩⟩
        · simp only [List.mem_cons, List.not_mem_nil, or_false] at hq
          rcases hq with rfl | rfl | rfl <;> exact World.ownsRow_nil _ _ _ _
        · simp [rowS, rowI, rowL, ApartM, Value.ownBlock])
      have x0 : W0.heap[w2.heap.size]? = some (.cells #[.int .i64 x.e, .int .i64 x.n] 43) := by
        rw [hW0]
        exact (Below.heap_alloc (w2.alloc _) _ w2.heap.size (by simp)).trans (heap_alloc_new w2 _)
      have Hl2 : w1.heap.size ≤ w2.heap.size := by have := hb2.size; simp at this; omega
      have HW0s := Lib.hid hW0s
      clear hW0 a0 hb2 hW0s
      go_step3
      go_wp2_with fail
      go_loopg [8] 13 (fun k s8 wr => s8 = .slice none 0 0 ∧ ∃ (y : Port) (sv pv lv : Value) (xs : List Stp) (ps : List Int) (ls : List WS), k + xs.length = 13 ∧ xs.length ≤ 12 ∧ y.wf ∧ Hid (wr.heap[w2.heap.size]? = some (.cells #[.int .i64 y.e, .int .i64 y.n] 43)) ∧
        Hid (PathIs wr (w2.heap.size + 1) W0.heap.size at_.e sv pv lv xs ps ls) ∧ ps.length = xs.length ∧ ls.length = xs.length ∧ Hid (∀ q ∈ ps, q = 0) ∧ Hid (Shut ls) ∧ Hid (Below w.heap.size w wr))
      case atStart => exact ⟨rfl, x, _, _, _, [], [], [], rfl, by simp, hxw, Lib.hid x0, HP0, rfl, rfl, Lib.hid (by simp), Lib.hid (by simp [Shut]), Hv0⟩
      case round =>
        obtain ⟨rfl, y, sv, pv, lv, xs, ps, ls, hk, hx12, hyw, HY, HP, hpl, hll, Hz, Hsh, HB⟩ := hrel
        have y0 := cell_of_row wr w2.heap.size 0 _ _ (0, 0) HY.out
        have y1 := cell_of_row wr w2.heap.size 1 _ _ (0, 0) HY.out
        have HXb := Lib.hid (show XBox wr w2.heap.size from ⟨_, _, HY.out⟩)
        have Hk := Lib.hid hk; clear hk
        obtain ⟨sa, sc, rfl, _, _⟩ := own_slice HP.out.os
        have hlen : xs.length ≤ 13 := by have := Hk.out; omega
        have HM := Lib.hid (may_any wr (w2.heap.size + 1) at_.e y.e sa xs.length sc xs HP.out.c0 HP.out.c1 HP.out.bl (owns_row encStp_len HP.out.os (by decide)).1)
        go_wp2_with fail
        go_step3
        go_wp2_with fail
        refine HM.out.mono ?_
        rintro en w3 ⟨rfl, hb3⟩
        go_upto_if 39 with fail
        go_cut [8] from 36 to 54 (fun s8 w' => ∃ (sv pv lv : Value) (ys : List Stp) (ps' : List Int) (ls' : List WS), ys.length ≤ 12 ∧ Hid (PathIs w' (w2.heap.size + 1) W0.heap.size at_.e sv pv lv ys ps' ls') ∧ ps'.length = ys.length ∧ ls'.length = ys.length ∧ Hid (∀ q ∈ ps', q = 0) ∧ Hid (Below w.heap.size w w' ∧ XBox w' w2.heap.size) ∧
          ((s8 = .slice none 0 0 ∧ Hid (∃ o, Open1 w' ls' o) ∧ ∃ q : Stp, ys = xs ++ [q] ∧ inI q.e) ∨ (Hid (Shut ls') ∧ ∃ rs, Hid (OwnR w' W0.heap.size s8 rs) ∧ rs.length ≤ 1 ∧ Hid (∀ r ∈ rs, Plain s r))))
        case first =>
          have HP3 := Lib.hid (HP.out.below hb3)
          have HB3 := Lib.hid (below_step HB.out hb3 HB.out.size)
          have HX3 := Lib.hid (HXb.out.below hb3)
          cases hm : mayB at_.e y.e xs with
          | false =>
            go_wp2_with fail
            go_meet
            case rel => exact ⟨_, _, _, xs, ps, ls, hx12, HP3.out, hpl, hll, Hz.out, ⟨HB3.out, HX3.out⟩, .inr ⟨Hsh.out, [], OwnR.nil _ _, by simp, Lib.hid (by simp)⟩⟩
          | true =>
            have h12 : xs.length < 12 := by
              unfold mayB at hm
              simp only [Bool.and_eq_true, decide_eq_true_eq] at hm
              exact hm.1
            have HU := Lib.hid (push_any w3 w (w2.heap.size + 1) W0.heap.size at_.e _ pv lv xs ps ls nb p y HP3.out Hh.out HB3.out (by have := Hl1; have := Hl2; omega) h12 (by omega) (by omega))
            have y0 := (hb3.cell (p := ⟨w2.heap.size, 0, none⟩) (by have := HP.out.bl; show w2.heap.size < wr.heap.size; omega)).trans y0
            have y1 := (hb3.cell (p := ⟨w2.heap.size, 1, none⟩) (by have := HP.out.bl; show w2.heap.size < wr.heap.size; omega)).trans y1
            go_wp2_with fail
            refine HU.out.mono ?_
            rintro en w4 ⟨rfl, sv4, pv4, lv4, v, hP4, hrow4, hvc, hR4⟩
            obtain ⟨ys, hys⟩ : ∃ ys, ys = xs ++ [(⟨y.e, y.n, -1⟩ : Stp)] := ⟨_, rfl⟩
            have hyl : ys.length = xs.length + 1 := by rw [hys]; simp
            have Hys := Lib.hid hys
            have Hyl := Lib.hid hyl
            rw [← hys] at hP4
            have HP4 := Lib.hid hP4
            have hB4 : Below w.heap.size w w4 := hR4.below0 HB3.out HP3.out.lows (by have := Hl1; omega) HP3.out.lt
            have hx4 : w4.heap[w2.heap.size]? = w3.heap[w2.heap.size]? := hR4.block _ (by have := HP3.out.bl; omega) (by omega) (fun v hv hc => by have := HP3.out.lows v hv _ hc; have := HP3.out.lt; omega)
            have z0 := (cell_of_same hx4 0).trans y0
            have HX4 := Lib.hid (HX3.out.same hx4)
            have hl4 : w2.heap.size < w4.heap.size := by have := HP4.out.bl; omega
            have HKd := Lib.hid (nkind_any w4 nb p (Hh.out.below hB4) y.e)
            have HB4 := Lib.hid hB4
            have Hrow4 := Lib.hid hrow4
            have Hl4 : (ls ++ [v]).length = ys.length := by simp; omega
            have Hp4 : (ps ++ [0]).length = ys.length := by simp; omega
            have Hz4 := Lib.hid (show ∀ q ∈ ps ++ [0], q = 0 from fun q hq => by
              rcases List.mem_append.1 hq with hq | hq
              · exact Hz.out q hq
              · simpa using hq)
            clear hP4 hrow4 hR4 hx4 y0 y1 hB4 HU hys hyl
            go_wp2_with fail
            refine HKd.out.mono ?_
            rintro en w5 ⟨rfl, hb5⟩
            have HX5 := Lib.hid (HX4.out.below hb5)
            have HP5 := Lib.hid (HP4.out.below hb5)
            have HB5 := Lib.hid (below_step HB4.out hb5 HB4.out.size)
            have Hrow5 := Lib.hid (Hrow4.out.below hb5)
            by_cases hk4 : p.kind y.e = 4
            · have d4 : (p.kind y.e == 4) = true := by simp [hk4]
              have HRd := Lib.hid (road_any2 w5 _ _ at_.e s (-1) 2 _ _ _ _ _ _ HP5.out Hp4 Hz4.out (by have := Hyl.out; omega))
              go_wp2_with fail
              refine HRd.out.mono ?_
              rintro en w6 ⟨a6, c6, rfl, hst6, hfr6, hac6, hb6⟩
              have hl6 : W0.heap.size ≤ w6.heap.size := Nat.le_trans HP5.out.le hb6.size
              clear HRd
              go_wp2_with (at_builtin; refine wpList_appB encRoad_len encRoad_one _ rfl _ _ 66 rfl W0.heap.size 74 (.agg #[.int .i64 0, .int .i64 0, .int .i64 0, .slice none 0 0, .slice none 0 0, .slice none 0 0, .slice none 0 0, .slice none 0 0, .bool false]) 152 Tryz.underlying66 info_road rfl (by decide) (.slice none 0 0) 0 [] rfl (World.ownsRow_nil _ _ _ _) (some ⟨w6.heap.size, 0, none⟩) 1 1 [road1 s (-1) 2 a6 c6 ys] rfl (row_road1 _ (heap_alloc_new w6 _)) (by intro h; cases h) (by simp [maxLen]) (by omega) (by simp; omega) ?_)
              intro v8 w8 ho8 hg8 hb8
              have hX8 := own_road1 (base := W0.heap.size) (hst6.below (below_new w6 _)) (fun k hk => ⟨Nat.le_trans HP5.out.le (hfr6 k hk).1, by have := (hfr6 k hk).2; simp; omega⟩) hac6 ho8 hg8 (by simpa [Value.ownBlock] using hb8)
              have hb86 : Below w5.heap.size w5 w8 := (hb6.alloc hb6.size _).grown hg8 (by have := hb6.size; simp; omega) (fun k hk => by cases hk)
              have HP8 := Lib.hid (HP5.out.below hb86)
              have HB8 := Lib.hid (below_step HB5.out hb86 HB5.out.size)
              have HX8 := Lib.hid hX8
              have Hb86 := Lib.hid hb86
              clear hb86 ho8 hg8 hb8 hX8 hst6 hfr6 hac6 hb6
              go_wp2_with fail
              go_meet
              case rel =>
                refine ⟨_, _, _, ys, _, _, by have := Hyl.out; omega, HP8.out, Hp4, Hl4, Hz4.out, ⟨HB8.out, HX5.out.below Hb86.out⟩, .inr ⟨?_, _, HX8.out, by simp, fun r hr => ?_⟩⟩
                · intro q hq
                  rcases List.mem_append.1 hq with hq | hq
                  · exact Hsh.out q hq
                  · obtain rfl := List.mem_singleton.1 hq
                    have h0 := Hrow4.out.len
                    rw [outs_gate hk4] at h0
                    exact h0.symm
                · obtain rfl := List.mem_singleton.1 hr
                  exact road1_plain _ _ _ _ _ _ (by have := Hyl.out; omega)
            · have d4 : (p.kind y.e == 4) = false := by simp [hk4]
              have hrw := Hrow5.out
              go_wp2_with fail
              go_meet
              case rel =>
                refine ⟨_, _, _, ys, _, _, by have := Hyl.out; omega, HP5.out, Hp4, Hl4, Hz4.out, ⟨HB5.out, HX5.out⟩, ?_⟩
                rcases even_outs He.out y.e y.n with h0 | ⟨o, h0⟩
                · refine .inr ⟨?_, [], OwnR.nil _ _, by simp, Lib.hid (by simp)⟩
                  intro q hq
                  rcases List.mem_append.1 hq with hq | hq
                  · exact Hsh.out q hq
                  · obtain rfl := List.mem_singleton.1 hq
                    have h1 := Hrow4.out.len
                    rw [h0] at h1
                    exact h1.symm
                · have hoi := outs_in He.out h0
                  rw [h0] at hrw
                  have h1 : v.n = 1 := hrw.len.symm
                  exact .inl ⟨rfl, ⟨o, ls, v, rfl, Hsh.out, h1, by omega, by rw [h1] at hrw; exact hrw, hoi⟩, _, Hys.out, hyw.1⟩
        case rest =>
          obtain ⟨sv6, pv6, lv6, ys, ps6, ls6, hy12, HP6, hp6, hl6, Hz6, HBX6, hAB⟩ := hcut
          clear y0 y1 HM HP HB Hz hb3 HY HXb Hsh
          go_wp2_with fail
          go_step3
          go_wp2_with fail
          refine of_inner w nb p s Hh Hwf at_.e w2.heap.size W0.heap.size (by omega) xs wc _ sv6 pv6 lv6 ys ps6 ls6 hy12 HP6 hp6 hl6 Hz6 HBX6 (Lib.hid hAB) _ _ _ _ _ _ _ _ _ _ _ _ _ _ _ _ _ _ _ _ _ _ _ _ _ _ _ _ _ _ _ _ _ _ _ _ _ _ _ _ _ _ _ _ _ _ _ _ _ _ _ _ _ _ _ _ _ _ _ _ _ _ _ _ _ _ _ _ _ _ _ _ _ _ _ _ _ _ _ _ _ _ _ _ _ _ _ _ _ _ _ _ _ _ _ _ _ _ _ _ _ _ _ _ _ _ _ _ _ _ _ _ _ _ _ _ _ _ _ _ _ _ _ _ _ _ _ _ _ _ _ _ _ _ _ _ _ _ _ _ _ _ _ _ _ _ _ _ _ _ _ _ _ (Lib.hid ?_) (Lib.hid ?_)
          · skip
            intro v8 v10 v11 v12 v13 v14 v15 v55 v56 v57 v58 v59 v60 v61 v62 v63 v64 v65 v66 v67 v68 v69 v70 v71 v72 v73 v74 v75 v76 v77 v78 v79 v80 v81 v82 v83 v84 v85 v86 v87 v88 v89 v90 v91 v92 v93 v94 v95 v96 v97 v98 v99 v100 v101 v102 v103 v104 v105 v106 v107 v108 v109 v110 v111 v112 v113 v114 v115 v116 v117 v118 v119 v120 v121 v122 v123 v124 v125 v126 v127 v128 v129 v130 v131 v132 v133 v134 v135 v136 v137 v138 v139 v140 v141 v142 v143 v144 v145 v146 v147 v148 v149 v150 v151 v152 v153 v154 v155 w9 rs9 HX9 hr9 Hpl9 HB9
            go_wp2_with fail
            simp only [Exit.noGoto_exit]
            go_wp2_with fail
            go_ret
            exact ⟨_, rs9, rfl, HX9.out.base Hv0.out.size, hr9, Hpl9.out, HB9.out⟩
          · skip
            intro v10 v11 v12 v13 v14 v15 v55 v56 v57 v58 v59 v60 v61 v62 v63 v64 v65 v66 v67 v68 v69 v70 v71 v72 v73 v74 v75 v76 v77 v78 v79 v80 v81 v82 v83 v84 v85 v86 v87 v88 v89 v90 v91 v92 v93 v94 v95 v96 v97 v98 v99 v100 v101 v102 v103 v104 v105 v106 v107 v108 v109 v110 v111 v112 v113 v114 v115 v116 v117 v118 v119 v120 v121 v122 v123 v124 v125 v126 v127 v128 v129 v130 v131 v132 v133 v134 v135 v136 v137 v138 v139 v140 v141 v142 v143 v144 v145 v146 v147 v148 v149 v150 v151 v152 v153 v154 v155 w9 hw9
            obtain ⟨z2, sv9, pv9, lv9, zs9, ps9, ls9, hzl9, hz9, hzw9, HY9, HP9, hp9, hl9, Hz9, Hsh9, HB9⟩ := hw9
            go_wp2_with fail
            simp only [Exit.noGoto_exit]
            go_wp2_with fail
            go_roundg (gk - 1)
            case measure => have := Hk.out; omega
            case rel => exact ⟨rfl, z2, _, _, _, zs9, ps9, ls9, by have := Hk.out; omega, hz9, hzw9, HY9, HP9, hp9, hl9, Hz9, Hsh9, HB9⟩
end Go.Proofs.YtcaeglnfflkabaaGreat
