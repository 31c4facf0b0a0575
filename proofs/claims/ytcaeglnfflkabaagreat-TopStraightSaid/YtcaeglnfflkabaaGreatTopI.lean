/- Walk of road.Of: the inner loop. Condition: the net and the path are read. -/
import Derived.Test.YtcaeglnfflkabaaGreatTopO
set_option maxRecDepth 1000000
namespace Go.Proofs.YtcaeglnfflkabaaGreat
open Go.ChangeShapes Go.WideShapes Go.ChangeAt Go.RowKit Go.Sort

set_option maxHeartbeats 4000000 in
theorem of_inner (w : World) (nb : Nat) (p : Plan) (s : Int) (Hh : Hid (NetAt w nb p)) (Hwf : Hid (∀ x y, nextOf p x = some y → y.wf)) (be : Int) (xb bs : Nat) (hwx : w.heap.size ≤ xb) (xs : List Stp) (wc : World) (t8 sv6 pv6 lv6 : Value) (ys : List Stp) (ps6 : List Int) (ls6 : List WS) (hy12 : ys.length ≤ 12)
    (HP6 : Hid (PathIs wc (xb + 1) bs be sv6 pv6 lv6 ys ps6 ls6)) (hp6 : ps6.length = ys.length) (hl6 : ls6.length = ys.length) (Hz6 : Hid (∀ q ∈ ps6, q = 0)) (HBX6 : Hid (Below w.heap.size w wc ∧ XBox wc xb))
    (HAB : Hid ((t8 = .slice none 0 0 ∧ Hid (∃ o, Open1 wc ls6 o) ∧ ∃ q : Stp, ys = xs ++ [q] ∧ inI q.e) ∨ (Hid (Shut ls6) ∧ ∃ rs, Hid (OwnR wc bs t8 rs) ∧ rs.length ≤ 1 ∧ Hid (∀ r ∈ rs, Plain s r))))
    (Q : Exit → Act → World → Prop) (t2 t3 t4 t5 t6 t10 t11 t12 t13 t14 t15 t16 t17 t18 t19 t20 t21 t22 t23 t24 t25 t26 t27 t28 t29 t30 t31 t32 t33 t34 t35 t36 t37 t38 t39 t40 t41 t42 t43 t44 t45 t46 t47 t48 t49 t50 t51 t52 t53 t54 t55 t56 t57 t58 t59 t60 t61 t62 t63 t64 t65 t66 t67 t68 t69 t70 t71 t72 t73 t74 t75 t76 t77 t78 t79 t80 t81 t82 t83 t84 t85 t86 t87 t88 t89 t90 t91 t92 t93 t94 t95 t96 t97 t98 t99 t100 t101 t102 t103 t104 t105 t106 t107 t108 t109 t110 t111 t112 t113 t114 t115 t116 t117 t118 t119 t120 t121 t122 t123 t124 t125 t126 t127 t128 t129 t130 t131 t132 t133 t134 t135 t136 t137 t138 t139 t140 t141 t142 t143 t144 t145 t146 t147 t148 t149 t150 t151 t152 t153 t154 t155 t156 : Value)
    (h2 : Hid (∀ (v8 v10 v11 v12 v13 v14 v15 v55 v56 v57 v58 v59 v60 v61 v62 v63 v64 v65 v66 v67 v68 v69 v70 v71 v72 v73 v74 v75 v76 v77 v78 v79 v80 v81 v82 v83 v84 v85 v86 v87 v88 v89 v90 v91 v92 v93 v94 v95 v96 v97 v98 v99 v100 v101 v102 v103 v104 v105 v106 v107 v108 v109 v110 v111 v112 v113 v114 v115 v116 v117 v118 v119 v120 v121 v122 v123 v124 v125 v126 v127 v128 v129 v130 v131 v132 v133 v134 v135 v136 v137 v138 v139 v140 v141 v142 v143 v144 v145 v146 v147 v148 v149 v150 v151 v152 v153 v154 v155 : Value) (w' : World) (rs : List RoadV), Hid (OwnR w' bs v8 rs) → rs.length ≤ 1 → Hid (∀ r ∈ rs, Plain s r) → Hid (Below w.heap.size w w') → Q (.exit 2) { tmps := List.toArray (Value.pointer (some ⟨nb, 0, none⟩) :: Value.int .i64 s :: t2 :: t3 :: t4 :: t5 :: t6 :: Value.pointer (some ⟨xb, 0, none⟩) :: v8 :: Value.pointer (some ⟨xb + 1, 0, none⟩) :: v10 :: v11 :: v12 :: v13 :: v14 :: v15 :: t16 :: t17 :: t18 :: t19 :: t20 :: t21 :: t22 :: t23 :: t24 :: t25 :: t26 :: t27 :: t28 :: t29 :: t30 :: t31 :: t32 :: t33 :: t34 :: t35 :: t36 :: t37 :: t38 :: t39 :: t40 :: t41 :: t42 :: t43 :: t44 :: t45 :: t46 :: t47 :: t48 :: t49 :: t50 :: t51 :: t52 :: t53 :: t54 :: v55 :: v56 :: v57 :: v58 :: v59 :: v60 :: v61 :: v62 :: v63 :: v64 :: v65 :: v66 :: v67 :: v68 :: v69 :: v70 :: v71 :: v72 :: v73 :: v74 :: v75 :: v76 :: v77 :: v78 :: v79 :: v80 :: v81 :: v82 :: v83 :: v84 :: v85 :: v86 :: v87 :: v88 :: v89 :: v90 :: v91 :: v92 :: v93 :: v94 :: v95 :: v96 :: v97 :: v98 :: v99 :: v100 :: v101 :: v102 :: v103 :: v104 :: v105 :: v106 :: v107 :: v108 :: v109 :: v110 :: v111 :: v112 :: v113 :: v114 :: v115 :: v116 :: v117 :: v118 :: v119 :: v120 :: v121 :: v122 :: v123 :: v124 :: v125 :: v126 :: v127 :: v128 :: v129 :: v130 :: v131 :: v132 :: v133 :: v134 :: v135 :: v136 :: v137 :: v138 :: v139 :: v140 :: v141 :: v142 :: v143 :: v144 :: v145 :: v146 :: v147 :: v148 :: v149 :: v150 :: v151 :: v152 :: v153 :: v154 :: v155 :: t156 :: []), defers := [] } w'))
    (h1 : Hid (∀ (v10 v11 v12 v13 v14 v15 v55 v56 v57 v58 v59 v60 v61 v62 v63 v64 v65 v66 v67 v68 v69 v70 v71 v72 v73 v74 v75 v76 v77 v78 v79 v80 v81 v82 v83 v84 v85 v86 v87 v88 v89 v90 v91 v92 v93 v94 v95 v96 v97 v98 v99 v100 v101 v102 v103 v104 v105 v106 v107 v108 v109 v110 v111 v112 v113 v114 v115 v116 v117 v118 v119 v120 v121 v122 v123 v124 v125 v126 v127 v128 v129 v130 v131 v132 v133 v134 v135 v136 v137 v138 v139 v140 v141 v142 v143 v144 v145 v146 v147 v148 v149 v150 v151 v152 v153 v154 v155 : Value) (w' : World), GoOn w w' xb bs be xs.length → Q (.exit 1) { tmps := List.toArray (Value.pointer (some ⟨nb, 0, none⟩) :: Value.int .i64 s :: t2 :: t3 :: t4 :: t5 :: t6 :: Value.pointer (some ⟨xb, 0, none⟩) :: Value.slice none 0 0 :: Value.pointer (some ⟨xb + 1, 0, none⟩) :: v10 :: v11 :: v12 :: v13 :: v14 :: v15 :: t16 :: t17 :: t18 :: t19 :: t20 :: t21 :: t22 :: t23 :: t24 :: t25 :: t26 :: t27 :: t28 :: t29 :: t30 :: t31 :: t32 :: t33 :: t34 :: t35 :: t36 :: t37 :: t38 :: t39 :: t40 :: t41 :: t42 :: t43 :: t44 :: t45 :: t46 :: t47 :: t48 :: t49 :: t50 :: t51 :: t52 :: t53 :: t54 :: v55 :: v56 :: v57 :: v58 :: v59 :: v60 :: v61 :: v62 :: v63 :: v64 :: v65 :: v66 :: v67 :: v68 :: v69 :: v70 :: v71 :: v72 :: v73 :: v74 :: v75 :: v76 :: v77 :: v78 :: v79 :: v80 :: v81 :: v82 :: v83 :: v84 :: v85 :: v86 :: v87 :: v88 :: v89 :: v90 :: v91 :: v92 :: v93 :: v94 :: v95 :: v96 :: v97 :: v98 :: v99 :: v100 :: v101 :: v102 :: v103 :: v104 :: v105 :: v106 :: v107 :: v108 :: v109 :: v110 :: v111 :: v112 :: v113 :: v114 :: v115 :: v116 :: v117 :: v118 :: v119 :: v120 :: v121 :: v122 :: v123 :: v124 :: v125 :: v126 :: v127 :: v128 :: v129 :: v130 :: v131 :: v132 :: v133 :: v134 :: v135 :: v136 :: v137 :: v138 :: v139 :: v140 :: v141 :: v142 :: v143 :: v144 :: v145 :: v146 :: v147 :: v148 :: v149 :: v150 :: v151 :: v152 :: v153 :: v154 :: v155 :: t156 :: []), defers := [] } w')) :
    Go.Code.wp Tryz.prog (codeAt ofBody [1,0,1,1,1,1,1,1,1,0,0,0,0,0,1,1,0,0]) Q { tmps := List.toArray (Value.pointer (some ⟨nb, 0, none⟩) :: Value.int .i64 s :: t2 :: t3 :: t4 :: t5 :: t6 :: Value.pointer (some ⟨xb, 0, none⟩) :: t8 :: Value.pointer (some ⟨xb + 1, 0, none⟩) :: t10 :: t11 :: t12 :: t13 :: t14 :: t15 :: t16 :: t17 :: t18 :: t19 :: t20 :: t21 :: t22 :: t23 :: t24 :: t25 :: t26 :: t27 :: t28 :: t29 :: t30 :: t31 :: t32 :: t33 :: t34 :: t35 :: t36 :: t37 :: t38 :: t39 :: t40 :: t41 :: t42 :: t43 :: t44 :: t45 :: t46 :: t47 :: t48 :: t49 :: t50 :: t51 :: t52 :: t53 :: t54 :: t55 :: t56 :: t57 :: t58 :: t59 :: t60 :: t61 :: t62 :: t63 :: t64 :: t65 :: t66 :: t67 :: t68 :: t69 :: t70 :: t71 :: t72 :: t73 :: t74 :: t75 :: t76 :: t77 :: t78 :: t79 :: t80 :: t81 :: t82 :: t83 :: t84 :: t85 :: t86 :: t87 :: t88 :: t89 :: t90 :: t91 :: t92 :: t93 :: t94 :: t95 :: t96 :: t97 :: t98 :: t99 :: t100 :: t101 :: t102 :: t103 :: t104 :: t105 :: t106 :: t107 :: t108 :: t109 :: t110 :: t111 :: t112 :: t113 :: t114 :: t115 :: t116 :: t117 :: t118 :: t119 :: t120 :: t121 :: t122 :: t123 :: t124 :: t125 :: t126 :: t127 :: t128 :: t129 :: t130 :: t131 :: t132 :: t133 :: t134 :: t135 :: t136 :: t137 :: t138 :: t139 :: t140 :: t141 :: t142 :: t143 :: t144 :: t145 :: t146 :: t147 :: t148 :: t149 :: t150 :: t151 :: t152 :: t153 :: t154 :: t155 :: t156 :: []), defers := [] } wc := by
  show Go.Code.wp Tryz.prog (Go.Code.loop _) _ _ _
  go_loopg [8] (ys.length + 1) (fun m s8 w' => ∃ (sv pv lv : Value) (zs : List Stp) (ps : List Int) (ls : List WS), zs.length ≤ 12 ∧ Hid (PathIs w' (xb + 1) bs be sv pv lv zs ps ls) ∧ ps.length = zs.length ∧ ls.length = zs.length ∧ Hid (∀ q ∈ ps, q = 0) ∧ Hid (Below w.heap.size w w' ∧ XBox w' xb) ∧
    ((s8 = .slice none 0 0 ∧ Hid (zs.length + 1 ≤ m) ∧ Hid (∃ o, Open1 w' ls o) ∧ ∃ q : Stp, zs = xs ++ [q] ∧ inI q.e) ∨ (Hid (zs.length ≤ m) ∧ Hid (Shut ls) ∧ ∃ rs, Hid (OwnR w' bs s8 rs) ∧ rs.length ≤ 1 ∧ Hid (∀ r ∈ rs, Plain s r))))
  case atStart =>
    refine ⟨_, _, _, ys, _, _, hy12, HP6, hp6, hl6, Hz6, HBX6, ?_⟩
    rcases HAB.out with ⟨h1, h2, h3⟩ | ⟨h1, h2⟩
    · exact .inl ⟨h1, Lib.hid (Nat.le_refl _), h2, h3⟩
    · exact .inr ⟨Lib.hid (Nat.le_succ _), h1, h2⟩
  case round =>
    obtain ⟨sv, pv, lv, zs, ps, ls, hz12, HP, hpl, hll, Hz, HBX, hAB2⟩ := hrel
    have HB := Lib.hid HBX.out.1
    have HAB2 := Lib.hid hAB2
    clear hAB2 hp6 hl6 hy12
    have c1 := HP.out.c1
    cases hzn : zs.length with
    | zero =>
      obtain ⟨sa, sc, rfl, _, _⟩ := own_slice HP.out.os
      rw [hzn] at c1
      go_wp2_with fail
      rcases HAB2.out with ⟨_, _, _, q, hq, _⟩ | ⟨_, _, rs, HX, hrl, Hpl⟩
      · rw [hq] at hzn; simp at hzn
      · apply h2.out
        · exact HX
        · exact hrl
        · exact Hpl
        · exact HB
    | succ n =>
      obtain ⟨sg, sc, pg, pc, lg, lc, rfl, rfl, rfl, q1, q2, q3, hsg, hpg, hlg⟩ := HP.out.somes hzn hpl hll
      have c3 := HP.out.c3
      obtain ⟨v, hv⟩ := get_some (show ls.length = n + 1 by omega) (show n < n + 1 by omega)
      have k3 : wr.cell? ⟨lg, n, none⟩ = some (.slice v.a v.n v.c) := by
        have h3 := HP.out.ol
        rw [hll, hzn] at h3
        have := own_at encWS_len h3 (k := 0) hv (by omega) rfl
        rwa [show n * 1 + 0 = n by omega] at this
      have Hv := Lib.hid hv
      have Hq1 := Lib.hid q1
      have Hq2 := Lib.hid q2
      have Hq3 := Lib.hid q3
      have hn12 : n ≤ 12 := by omega
      have Hzn := Lib.hid hzn
      clear hv q1 q2 q3 hzn
      rcases HAB2.out with ⟨rfl, Hm, HO, Hq⟩ | ⟨Hm, Hsh, rs, HX, hrl, Hpl⟩
      · obtain ⟨o, l0, v1, rfl, Hs0, hv1, hvc, hvr, hoi⟩ := HO.out
        obtain ⟨q, rfl, hqi⟩ := Hq
        have hl0 : l0.length = n := by have := Hzn.out; simp at hll this; omega
        have hve : v1 = v := by
          have h1 := Hv.out
          rw [← hl0, List.getElem?_concat_length] at h1
          exact Option.some.inj h1
        subst hve
        have hxl : xs.length = n := by have := Hzn.out; simp at this; omega
        obtain ⟨vb, vo, hva, hvb, e1, e2⟩ := hvr.way (i := 0) (x := ⟨o, 0⟩) rfl
        simp only [Nat.zero_mul, Nat.add_zero] at e1 e2
        rw [hv1, hva] at k3
        have hW0w : bs ≤ wr.heap.size := HP.out.le
        have Hll := Lib.hid hll
        have Hpl2 := Lib.hid hpl
        have Hvr := Lib.hid hvr
        have Hz12 := Lib.hid hz12
        clear hll hpl hz12 hvr
        go_upto_region 17 with fail
        rename_i K17 hK17
        have HK17 := Lib.hid hK17
        clear hK17
        go_wp2_with fail
        refine HK17.out _ _ ?_
        refine name_code fun W1 hW1 => ?_
        have hB1 : Below wr.heap.size wr W1 := by rw [hW1]; exact below_new wr _
        have hs1 : W1.heap.size = wr.heap.size + 1 := by rw [hW1]; simp
        have y0 : W1.cell? ⟨wr.heap.size, 0, none⟩ = some (.int .i64 o) := by rw [hW1]; go_simp
        have y1 : W1.cell? ⟨wr.heap.size, 1, none⟩ = some (.int .i64 0) := by rw [hW1]; go_simp
        obtain rfl := hxl
        refine of_open w nb p s Hh Hwf be xb bs xs.length hwx hn12 sg sc pg pc lg lc xs q ps l0 v1 W1 (Lib.hid (HP.out.below hB1)) (Lib.hid (HBX.out.2.below hB1)) (Lib.hid (below_step HB.out hB1 HB.out.size)) Hzn Hz12 Hll Hpl2 Hz (Lib.hid Hs0) o hoi hqi vb vo hvc (Lib.hid hv1) (Lib.hid hva) wr.heap.size (by omega) (Lib.hid ⟨hsg.2, hpg.2, hlg.2⟩) y0 y1 _ _ _ _ _ _ _ _ _ _ _ _ _ _ _ _ _ _ _ _ _ _ _ _ _ _ _ _ _ _ _ _ _ _ _ _ _ _ _ _ _ _ _ _ _ _ _ _ _ _ _ _ _ _ _ _ _ _ _ _ _ _ _ _ _ _ _ _ _ _ _ _ _ _ _ _ _ _ _ _ _ _ _ _ _ _ _ _ _ _ _ _ _ _ _ _ _ _ _ _ _ _ _ _ _ _ _ _ _ _ _ _ _ _ _ _ _ _ _ _ _ _ _ _ _ _ _ _ _ _ _ _ _ _ _ _ _ _ _ _ _ _ _ _ _ _ _ _ _ _ _ (Lib.hid ?_) (Lib.hid ?_)
        · clear HK17 hW1 y0 y1
          intro v8 v10 v11 v12 v13 v14 v15 v55 v56 v57 v58 v59 v60 v61 v62 v63 v64 v65 v66 v67 v68 v69 v70 v71 v72 v73 v74 v75 v76 v77 v78 v79 v80 v81 v82 v83 v84 v85 v86 v87 v88 v89 v90 v91 v92 v93 v94 v95 v96 v97 v98 v99 v100 v101 v102 v103 v104 v105 v106 v107 v108 v109 v110 v111 v112 v113 v114 v115 v116 v117 v118 v119 v120 v121 v122 v123 v124 v125 v126 v127 v128 v129 v130 v131 v132 v133 v134 v135 v136 v137 v138 v139 v140 v141 v142 v143 v144 v145 v146 v147 v148 v149 v150 v151 v152 v153 v154 v155 w9 hw9
          obtain ⟨sv9, pv9, lv9, zs9, ps9, ls9, hz9, hz9b, HP9, hp9, hl9, Hz9, HB9, Hsh9, rs9, HX9, hr9, Hpl9⟩ := hw9
          go_wp2_with fail
          go_roundg (gk - 1)
          case measure => have := Hm.out; omega
          case rel => exact ⟨_, _, _, zs9, _, _, hz9b, HP9, hp9, hl9, Hz9, HB9, .inr ⟨Lib.hid (by have := Hm.out; rw [Hzn.out] at this; omega), Hsh9, rs9, HX9, hr9, Hpl9⟩⟩
        · clear HK17 hW1 y0 y1
          intro v10 v11 v12 v13 v14 v15 v55 v56 v57 v58 v59 v60 v61 v62 v63 v64 v65 v66 v67 v68 v69 v70 v71 v72 v73 v74 v75 v76 v77 v78 v79 v80 v81 v82 v83 v84 v85 v86 v87 v88 v89 v90 v91 v92 v93 v94 v95 v96 v97 v98 v99 v100 v101 v102 v103 v104 v105 v106 v107 v108 v109 v110 v111 v112 v113 v114 v115 v116 v117 v118 v119 v120 v121 v122 v123 v124 v125 v126 v127 v128 v129 v130 v131 v132 v133 v134 v135 v136 v137 v138 v139 v140 v141 v142 v143 v144 v145 v146 v147 v148 v149 v150 v151 v152 v153 v154 v155 w9 hw9
          go_wp2_with fail
          exact h1.out _ _ _ _ _ _ _ _ _ _ _ _ _ _ _ _ _ _ _ _ _ _ _ _ _ _ _ _ _ _ _ _ _ _ _ _ _ _ _ _ _ _ _ _ _ _ _ _ _ _ _ _ _ _ _ _ _ _ _ _ _ _ _ _ _ _ _ _ _ _ _ _ _ _ _ _ _ _ _ _ _ _ _ _ _ _ _ _ _ _ _ _ _ _ _ _ _ _ _ _ _ _ _ _ _ _ _ w9 hw9
      · have hv0 : v.n = 0 := Hsh.out v (List.mem_of_getElem? Hv.out)
        rw [hv0] at k3
        have HPop := Lib.hid (pop_any wr (xb + 1) bs be sg pg lg sc pc lc n zs ps ls HP.out Hzn.out (hpl.trans Hzn.out) (hll.trans Hzn.out) (by have := Hzn.out; omega) Hq1.out Hq2.out Hq3.out)
        have Hll := Lib.hid hll
        have Hpl2 := Lib.hid hpl
        clear hv0 hll hpl hz12
        go_wp2_with fail
        refine HPop.out.mono ?_
        rintro en w7 ⟨rfl, hP7, hne, hsz, hos⟩
        have HP7 := Lib.hid hP7
        have HX7 := Lib.hid (HX.out.near HP.out.lt hne hsz)
        have HB7 := Lib.hid (And.intro (Below.one HB.out hne hsz hos (by omega)) (HBX.out.2.same (hne _ (by omega))))
        clear hP7 hne hsz hos
        go_wp2_with fail
        go_roundg (gk - 1)
        case measure => have := Hm.out; have := Hzn.out; omega
        case rel =>
          have h1 := Hzn.out
          have h2 := Hll.out
          have h3 := Hpl2.out
          refine ⟨_, _, _, zs.take n, ps.take n, ls.take n, by rw [List.length_take]; omega, HP7, by rw [List.length_take, List.length_take]; omega, by rw [List.length_take, List.length_take]; omega, Lib.hid (fun q hq => Hz.out q (List.mem_of_mem_take hq)), HB7,
            .inr ⟨Lib.hid (by rw [List.length_take]; have := Hm.out; omega), Lib.hid (fun q hq => Hsh.out q (List.mem_of_mem_take hq)), rs, HX7, hrl, Hpl⟩⟩
end Go.Proofs.YtcaeglnfflkabaaGreat
