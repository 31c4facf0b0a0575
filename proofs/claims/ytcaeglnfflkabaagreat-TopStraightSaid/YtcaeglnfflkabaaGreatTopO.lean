/- Walk of road.Of: an open way is taken. Condition: the net and the path are read. -/
import Derived.Test.YtcaeglnfflkabaaGreatTopT
set_option maxRecDepth 1000000
namespace Go.Proofs.YtcaeglnfflkabaaGreat
open Go.ChangeShapes Go.WideShapes Go.ChangeAt Go.RowKit Go.Sort

set_option maxHeartbeats 4000000 in
theorem of_open (w : World) (nb : Nat) (p : Plan) (s : Int) (Hh : Hid (NetAt w nb p)) (Hwf : Hid (∀ x y, nextOf p x = some y → y.wf)) (be : Int) (xb bs n : Nat) (hwx : w.heap.size ≤ xb) (hn12 : n ≤ 12) (sg sc pg pc lg lc : Nat) (xs : List Stp) (q : Stp) (ps : List Int) (l0 : List WS) (v1 : WS) (W1 : World)
    (HP1 : Hid (PathIs W1 (xb + 1) bs be (.slice (some ⟨sg, 0, none⟩) (n + 1) sc) (.slice (some ⟨pg, 0, none⟩) (n + 1) pc) (.slice (some ⟨lg, 0, none⟩) (n + 1) lc) (xs ++ [q]) ps (l0 ++ [v1]))) (HX1 : Hid (XBox W1 xb)) (HB1 : Hid (Below w.heap.size w W1))
    (Hzn : Hid ((xs ++ [q]).length = n + 1)) (Hz12 : Hid ((xs ++ [q]).length ≤ 12)) (Hll : Hid ((l0 ++ [v1]).length = (xs ++ [q]).length)) (Hpl2 : Hid (ps.length = (xs ++ [q]).length)) (Hz : Hid (∀ q ∈ ps, q = 0)) (Hs0 : Hid (Shut l0)) (o : Int) (hoi : inI o) (hqi : inI q.e)
    (vb vo : Nat) (_hvc : 1 ≤ v1.c) (Hv1 : Hid (v1.n = 1)) (Hva : Hid (v1.a = some ⟨vb, vo, none⟩)) (wb : Nat) (hwb : wb < W1.heap.size) (Hne : Hid (sg < wb ∧ pg < wb ∧ lg < wb)) (y0 : W1.cell? ⟨wb, 0, none⟩ = some (.int .i64 o)) (y1 : W1.cell? ⟨wb, 1, none⟩ = some (.int .i64 0))
    (Q : Exit → Act → World → Prop) (t2 t3 t4 t5 t6 t12 t13 t14 t15 t16 t17 t18 t19 t20 t21 t22 t23 t24 t25 t26 t27 t28 t29 t30 t31 t32 t33 t34 t35 t36 t37 t38 t39 t40 t41 t42 t43 t44 t45 t46 t47 t48 t49 t50 t51 t52 t53 t54 t55 t56 t57 t58 t59 t60 t61 t62 t63 t64 t65 t66 t67 t68 t69 t70 t71 t72 t73 t74 t75 t76 t77 t78 t79 t80 t81 t82 t83 t84 t85 t86 t87 t88 t89 t90 t91 t92 t93 t94 t95 t96 t97 t98 t99 t100 t101 t102 t103 t104 t105 t106 t107 t108 t109 t110 t111 t112 t113 t114 t115 t116 t117 t118 t119 t120 t121 t122 t123 t124 t125 t126 t127 t128 t129 t130 t131 t132 t133 t134 t135 t136 t137 t138 t139 t140 t141 t142 t143 t144 t145 t146 t147 t148 t149 t150 t151 t152 t153 t154 t155 t156 : Value)
    (h3 : Hid (∀ (v8 v10 v11 v12 v13 v14 v15 v55 v56 v57 v58 v59 v60 v61 v62 v63 v64 v65 v66 v67 v68 v69 v70 v71 v72 v73 v74 v75 v76 v77 v78 v79 v80 v81 v82 v83 v84 v85 v86 v87 v88 v89 v90 v91 v92 v93 v94 v95 v96 v97 v98 v99 v100 v101 v102 v103 v104 v105 v106 v107 v108 v109 v110 v111 v112 v113 v114 v115 v116 v117 v118 v119 v120 v121 v122 v123 v124 v125 v126 v127 v128 v129 v130 v131 v132 v133 v134 v135 v136 v137 v138 v139 v140 v141 v142 v143 v144 v145 v146 v147 v148 v149 v150 v151 v152 v153 v154 v155 : Value) (w' : World), BackOk w w' xb bs be s n v8 → Q (.exit 3) { tmps := List.toArray (Value.pointer (some ⟨nb, 0, none⟩) :: Value.int .i64 s :: t2 :: t3 :: t4 :: t5 :: t6 :: Value.pointer (some ⟨xb, 0, none⟩) :: v8 :: Value.pointer (some ⟨xb + 1, 0, none⟩) :: v10 :: v11 :: v12 :: v13 :: v14 :: v15 :: t16 :: t17 :: t18 :: t19 :: t20 :: t21 :: t22 :: t23 :: t24 :: t25 :: t26 :: t27 :: t28 :: t29 :: t30 :: t31 :: t32 :: t33 :: t34 :: t35 :: t36 :: t37 :: t38 :: t39 :: t40 :: t41 :: t42 :: t43 :: t44 :: t45 :: t46 :: t47 :: t48 :: t49 :: t50 :: t51 :: t52 :: t53 :: t54 :: v55 :: v56 :: v57 :: v58 :: v59 :: v60 :: v61 :: v62 :: v63 :: v64 :: v65 :: v66 :: v67 :: v68 :: v69 :: v70 :: v71 :: v72 :: v73 :: v74 :: v75 :: v76 :: v77 :: v78 :: v79 :: v80 :: v81 :: v82 :: v83 :: v84 :: v85 :: v86 :: v87 :: v88 :: v89 :: v90 :: v91 :: v92 :: v93 :: v94 :: v95 :: v96 :: v97 :: v98 :: v99 :: v100 :: v101 :: v102 :: v103 :: v104 :: v105 :: v106 :: v107 :: v108 :: v109 :: v110 :: v111 :: v112 :: v113 :: v114 :: v115 :: v116 :: v117 :: v118 :: v119 :: v120 :: v121 :: v122 :: v123 :: v124 :: v125 :: v126 :: v127 :: v128 :: v129 :: v130 :: v131 :: v132 :: v133 :: v134 :: v135 :: v136 :: v137 :: v138 :: v139 :: v140 :: v141 :: v142 :: v143 :: v144 :: v145 :: v146 :: v147 :: v148 :: v149 :: v150 :: v151 :: v152 :: v153 :: v154 :: v155 :: t156 :: []), defers := [] } w'))
    (h1 : Hid (∀ (v10 v11 v12 v13 v14 v15 v55 v56 v57 v58 v59 v60 v61 v62 v63 v64 v65 v66 v67 v68 v69 v70 v71 v72 v73 v74 v75 v76 v77 v78 v79 v80 v81 v82 v83 v84 v85 v86 v87 v88 v89 v90 v91 v92 v93 v94 v95 v96 v97 v98 v99 v100 v101 v102 v103 v104 v105 v106 v107 v108 v109 v110 v111 v112 v113 v114 v115 v116 v117 v118 v119 v120 v121 v122 v123 v124 v125 v126 v127 v128 v129 v130 v131 v132 v133 v134 v135 v136 v137 v138 v139 v140 v141 v142 v143 v144 v145 v146 v147 v148 v149 v150 v151 v152 v153 v154 v155 : Value) (w' : World), GoOn w w' xb bs be n → Q (.exit 1) { tmps := List.toArray (Value.pointer (some ⟨nb, 0, none⟩) :: Value.int .i64 s :: t2 :: t3 :: t4 :: t5 :: t6 :: Value.pointer (some ⟨xb, 0, none⟩) :: Value.slice none 0 0 :: Value.pointer (some ⟨xb + 1, 0, none⟩) :: v10 :: v11 :: v12 :: v13 :: v14 :: v15 :: t16 :: t17 :: t18 :: t19 :: t20 :: t21 :: t22 :: t23 :: t24 :: t25 :: t26 :: t27 :: t28 :: t29 :: t30 :: t31 :: t32 :: t33 :: t34 :: t35 :: t36 :: t37 :: t38 :: t39 :: t40 :: t41 :: t42 :: t43 :: t44 :: t45 :: t46 :: t47 :: t48 :: t49 :: t50 :: t51 :: t52 :: t53 :: t54 :: v55 :: v56 :: v57 :: v58 :: v59 :: v60 :: v61 :: v62 :: v63 :: v64 :: v65 :: v66 :: v67 :: v68 :: v69 :: v70 :: v71 :: v72 :: v73 :: v74 :: v75 :: v76 :: v77 :: v78 :: v79 :: v80 :: v81 :: v82 :: v83 :: v84 :: v85 :: v86 :: v87 :: v88 :: v89 :: v90 :: v91 :: v92 :: v93 :: v94 :: v95 :: v96 :: v97 :: v98 :: v99 :: v100 :: v101 :: v102 :: v103 :: v104 :: v105 :: v106 :: v107 :: v108 :: v109 :: v110 :: v111 :: v112 :: v113 :: v114 :: v115 :: v116 :: v117 :: v118 :: v119 :: v120 :: v121 :: v122 :: v123 :: v124 :: v125 :: v126 :: v127 :: v128 :: v129 :: v130 :: v131 :: v132 :: v133 :: v134 :: v135 :: v136 :: v137 :: v138 :: v139 :: v140 :: v141 :: v142 :: v143 :: v144 :: v145 :: v146 :: v147 :: v148 :: v149 :: v150 :: v151 :: v152 :: v153 :: v154 :: v155 :: t156 :: []), defers := [] } w')) :
    Go.Code.wp Tryz.prog (codeAt ofBody [1,0,1,1,1,1,1,1,1,0,0,0,0,0,1,1,0,0,0,1,0,1,1,1]) Q { tmps := List.toArray (Value.pointer (some ⟨nb, 0, none⟩) :: Value.int .i64 s :: t2 :: t3 :: t4 :: t5 :: t6 :: Value.pointer (some ⟨xb, 0, none⟩) :: Value.slice none 0 0 :: Value.pointer (some ⟨xb + 1, 0, none⟩) :: Value.int .i64 n :: Value.pointer (some ⟨wb, 0, none⟩) :: t12 :: t13 :: t14 :: t15 :: t16 :: t17 :: t18 :: t19 :: t20 :: t21 :: t22 :: t23 :: t24 :: t25 :: t26 :: t27 :: t28 :: t29 :: t30 :: t31 :: t32 :: t33 :: t34 :: t35 :: t36 :: t37 :: t38 :: t39 :: t40 :: t41 :: t42 :: t43 :: t44 :: t45 :: t46 :: t47 :: t48 :: t49 :: t50 :: t51 :: t52 :: t53 :: t54 :: t55 :: t56 :: t57 :: t58 :: t59 :: t60 :: t61 :: t62 :: t63 :: t64 :: t65 :: t66 :: t67 :: t68 :: t69 :: t70 :: t71 :: t72 :: t73 :: t74 :: t75 :: t76 :: t77 :: t78 :: t79 :: t80 :: t81 :: t82 :: t83 :: t84 :: t85 :: t86 :: t87 :: t88 :: t89 :: t90 :: t91 :: t92 :: t93 :: t94 :: t95 :: t96 :: t97 :: t98 :: t99 :: t100 :: t101 :: t102 :: t103 :: t104 :: t105 :: t106 :: t107 :: t108 :: t109 :: t110 :: t111 :: t112 :: t113 :: t114 :: t115 :: t116 :: t117 :: t118 :: t119 :: t120 :: t121 :: t122 :: t123 :: t124 :: t125 :: t126 :: t127 :: t128 :: t129 :: t130 :: t131 :: t132 :: t133 :: t134 :: t135 :: t136 :: t137 :: t138 :: t139 :: t140 :: t141 :: t142 :: t143 :: t144 :: t145 :: t146 :: t147 :: t148 :: t149 :: t150 :: t151 :: t152 :: t153 :: t154 :: t155 :: t156 :: []), defers := [] } W1 := by
  have h3l := HP1.out.ol
  rw [Hll.out, Hzn.out] at h3l
  have hl0 : l0.length = n := by have h1 := Hll.out; have h2 := Hzn.out; simp at h1 h2; omega
  have hv : (l0 ++ [v1])[n]? = some v1 := by rw [← hl0, List.getElem?_concat_length]
  have k31 := own_at encWS_len h3l (k := 0) hv (by omega) rfl
  rw [show n * 1 + 0 = n by omega, Hv1.out, Hva.out] at k31
  have f31 := own_frozen h3l n
  have c31 := HP1.out.c3
  have hlgs := h3l.lt lg rfl
  have hbl1 := HP1.out.bl
  have hxl : xs.length = n := by have := Hzn.out; simp at this; omega
  have Hv := Lib.hid hv
  have h1s := HP1.out.os
  rw [Hzn.out] at h1s
  have h2s := HP1.out.oi
  rw [Hpl2.out, Hzn.out] at h2s
  have Hlg := Lib.hid (And.intro hlgs.1 Hne.out.2.2)
  have Hsg := Lib.hid (And.intro (h1s.lt sg rfl).1 Hne.out.1)
  have Hpg := Lib.hid (And.intro (h2s.lt pg rfl).1 Hne.out.2.1)
  have hlgs := hlgs.2
  have hnn : ¬ ((n : Int) + 1 ≤ (n : Int)) := by omega
  clear h3l hv h1s h2s
  show Go.Code.wp Tryz.prog (Go.Code.seq _ _) _ _ _
  go_wp2_with fail
  obtain ⟨za, hza⟩ : ∃ za : Option Addr, za = if v1.c = 1 then some ⟨vb, vo, none⟩ else some ⟨vb, vo + 2, none⟩ := ⟨_, rfl⟩
  have Hza := Lib.hid hza
  clear hza
  have hSall : ∀ w' : World, Below (W1).heap.size (W1) w' → (w'.cell? ⟨xb + 1, 3, none⟩ = some (.slice (some ⟨lg, 0, none⟩) (n + 1) lc) ∧ w'.cell? ⟨lg, n, none⟩ = some (.slice (some ⟨vb, vo, none⟩) 1 v1.c)) := fun w' hb => ⟨(hb.cell (p := ⟨xb + 1, 3, none⟩) hbl1).trans c31, (hb.cell (p := ⟨lg, n, none⟩) hlgs).trans k31⟩
  refine wp_region_noPanic ?_
  refine region_ob (S := fun w' => w'.cell? ⟨xb + 1, 3, none⟩ = some (.slice (some ⟨lg, 0, none⟩) (n + 1) lc) ∧ w'.cell? ⟨lg, n, none⟩ = some (.slice (some ⟨vb, vo, none⟩) 1 v1.c)) (ob := fun t => decide (t < 13) && !decide (t = 0)) (by kernel_rfl) ?_
  refine ob_pure (i := 0) (v := .pointer (some ⟨xb + 1, 0, none⟩)) rfl (by kernel_rfl) (by kernel_rfl) (by kernel_rfl) (by kernel_rfl) (by kernel_rfl) (fun _ _ _ h => h) (Or.inl ⟨by rfl, ?_⟩) ?_
  · intro w' _
    go_simp
  (try simp only [zA, zC, Act.put, zD, zE, zF])
  refine tk 1 (.pointer (some ⟨xb + 1, 0, none⟩)) ?_ (hSall _ (Below.refl _ _).drew) ?_
  · intro w' hSw
    (try dsimp only at hSw)
    go_simp
  (try simp only [zA, zB, zC, Act.put, zD, zE, zF])
  refine tk 2 (.pointer (some ⟨xb + 1, 3, none⟩)) ?_ (hSall _ (Below.refl _ _).drew) ?_
  · intro w' hSw
    (try dsimp only at hSw)
    go_simp
  (try simp only [zA, zB, zC, Act.put, zD, zE, zF])
  refine tk 3 (.slice (some ⟨lg, 0, none⟩) (n + 1) lc) ?_ (hSall _ (Below.refl _ _).drew) ?_
  · intro w' hSw
    (try dsimp only at hSw)
    go_simp
  (try simp only [zA, zB, zC, Act.put, zD, zE, zF])
  refine tk 4 (.int .i64 n) ?_ (hSall _ (Below.refl _ _).drew) ?_
  · intro w' hSw
    (try dsimp only at hSw)
    go_simp
  (try simp only [zA, zB, zC, Act.put, zD, zE, zF])
  refine tk 5 (.pointer (some ⟨xb + 1, 0, none⟩)) ?_ (hSall _ (Below.refl _ _).drew) ?_
  · intro w' hSw
    (try dsimp only at hSw)
    go_simp
  (try simp only [zA, zB, zC, Act.put, zD, zE, zF])
  refine tk 6 (.pointer (some ⟨xb + 1, 0, none⟩)) ?_ (hSall _ (Below.refl _ _).drew) ?_
  · intro w' hSw
    (try dsimp only at hSw)
    go_simp
  (try simp only [zA, zB, zC, Act.put, zD, zE, zF])
  refine tk 7 (.pointer (some ⟨xb + 1, 3, none⟩)) ?_ (hSall _ (Below.refl _ _).drew) ?_
  · intro w' hSw
    (try dsimp only at hSw)
    go_simp
  (try simp only [zA, zB, zC, Act.put, zD, zE, zF])
  refine tk 8 (.slice (some ⟨lg, 0, none⟩) (n + 1) lc) ?_ (hSall _ (Below.refl _ _).drew) ?_
  · intro w' hSw
    (try dsimp only at hSw)
    go_simp
  (try simp only [zA, zB, zC, Act.put, zD, zE, zF])
  refine tk 9 (.int .i64 n) ?_ (hSall _ (Below.refl _ _).drew) ?_
  · intro w' hSw
    (try dsimp only at hSw)
    go_simp
  (try simp only [zA, zB, zC, Act.put, zD, zE, zF])
  refine tk 10 (.pointer (some ⟨lg, n, none⟩)) ?_ (hSall _ (Below.refl _ _).drew) ?_
  · intro w' hSw
    (try dsimp only at hSw)
    go_simp
  (try simp only [zA, zB, zC, Act.put, zD, zE, zF])
  refine tk 11 (.slice (some ⟨vb, vo, none⟩) 1 v1.c) ?_ (hSall _ (Below.refl _ _).drew) ?_
  · intro w' hSw
    (try dsimp only at hSw)
    go_simp
  (try simp only [zA, zB, zC, Act.put, zD, zE, zF])
  refine tk 12 (.slice (if v1.c = 1 then some ⟨vb, vo, none⟩ else some ⟨vb, vo + 2, none⟩) 0 (v1.c - 1)) ?_ (hSall _ (Below.refl _ _).drew) ?_
  · intro w' hSw
    (try dsimp only at hSw)
    go_simp
  (try simp only [zA, zB, zC, Act.put, zD, zE, zF])
  refine ob_step (i := 13) (by kernel_rfl) rfl (fun K hK => ?_)
  go_simp
  refine hK _ _ (fun h => absurd h (by decide)) ?_
  clear hK K
  (try simp only [zA, zB, zC, Act.put, zD, zE, zF])
  refine ob_step (i := 14) (by kernel_rfl) rfl (fun K hK => ?_)
  go_simp
  refine hK _ _ (fun h => absurd h (by decide)) ?_
  clear hK K
  (try simp only [zA, zB, zC, Act.put, zD, zE, zF])
  refine ob_done (by kernel_rfl) (NoPanic.normal ?_) _
  clear hSall
  rw [← Hza.out]
  refine name_world fun W2 hW2 => ?_
  obtain ⟨z, hz⟩ : ∃ z : WS, z = ⟨za, 0, v1.c - 1⟩ := ⟨_, rfl⟩
  have hz0 : z.n = 0 := by rw [hz]
  have HP2 := Lib.hid (show PathIs W2 _ _ _ _ _ _ _ _ ((l0 ++ [v1]).set n z) from by
    rw [hW2, hz]
    exact (HP1.out.setL (x' := ⟨za, 0, v1.c - 1⟩) (Hll.out.trans Hzn.out) Hv.out).below (Below.refl _ _).drew)
  have HB2 := Lib.hid (show Below w.heap.size w W2 by
    rw [hW2]
    have h1 := Hlg.out.1
    have h2 := HP1.out.lt
    exact (below_set (by omega) HB1.out _).drew)
  have hne2 : W2.heap[wb]? = W1.heap[wb]? := by rw [hW2]; exact Below.heap_setCell W1 ⟨lg, n, none⟩ _ _ (by have := Hlg.out.2; show wb ≠ lg; omega)
  have HX2 := Lib.hid (HX1.out.same (show W2.heap[xb]? = W1.heap[xb]? by rw [hW2]; exact Below.heap_setCell W1 ⟨lg, n, none⟩ _ _ (by have := Hlg.out.1; have := HP1.out.lt; show xb ≠ lg; omega)))
  have Hs2 := Lib.hid (show W2.heap.size = W1.heap.size by rw [hW2]; simp [World.setCell, World.drew])
  replace y0 := (cell_of_same hne2 0).trans y0
  replace y1 := (cell_of_same hne2 1).trans y1
  replace hwb : wb < W2.heap.size := by have := Hs2.out; omega
  have Hz0 := Lib.hid hz0
  have c12 := HP2.out.c1
  have c22 := HP2.out.c2
  have hos := HP2.out.os
  have hop := HP2.out.oi
  rw [Hzn.out] at hos
  rw [Hpl2.out, Hzn.out] at hop
  have hxq : (xs ++ [q])[n]? = some q := by rw [← hxl, List.getElem?_concat_length]
  obtain ⟨pq, hpq⟩ := get_some (Hpl2.out.trans Hzn.out) (show n < n + 1 by omega)
  have k1 := own_at encStp_len hos (k := 2) hxq (by omega) rfl
  have k0 := own_at encStp_len hos (k := 0) hxq (by omega) rfl
  have k2 := own_at encInt_lenT hop (k := 0) hpq (by omega) rfl
  rw [show n * 1 + 0 = n by omega] at k2
  rw [show n * 3 + 0 = n * 3 by omega] at k0
  have f1 := own_frozen hos (n * 3 + 2)
  have f2 := own_frozen hop n
  have Hxq := Lib.hid hxq
  have Hpq := Lib.hid hpq
  have hbl2 := HP2.out.bl
  have hsl2 := hos.lt sg rfl
  have hpl2 := hop.lt pg rfl
  clear hW2 hlgs hbl1 hz hz0 hne2 hos hop hxq hpq k31 c31 f31
  go_wp2_with fail
  have hs16 := Hsg.out
  have hp16 := Hpg.out
  have hb16 := HP2.out.lt
  have hS16 : ∀ u : World, (u.cell? ⟨xb + 1, 1, none⟩ = some (.slice (some ⟨sg, 0, none⟩) (n + 1) sc) ∧ u.cell? ⟨xb + 1, 2, none⟩ = some (.slice (some ⟨pg, 0, none⟩) (n + 1) pc) ∧ u.cell? ⟨wb, 0, none⟩ = some (.int .i64 o) ∧ u.cell? ⟨wb, 1, none⟩ = some (.int .i64 0)) →
      ((u.setCell ⟨sg, n * 3 + 2, none⟩ (.int .i64 o)).cell? ⟨xb + 1, 1, none⟩ = some (.slice (some ⟨sg, 0, none⟩) (n + 1) sc) ∧ (u.setCell ⟨sg, n * 3 + 2, none⟩ (.int .i64 o)).cell? ⟨xb + 1, 2, none⟩ = some (.slice (some ⟨pg, 0, none⟩) (n + 1) pc) ∧ (u.setCell ⟨sg, n * 3 + 2, none⟩ (.int .i64 o)).cell? ⟨wb, 0, none⟩ = some (.int .i64 o) ∧ (u.setCell ⟨sg, n * 3 + 2, none⟩ (.int .i64 o)).cell? ⟨wb, 1, none⟩ = some (.int .i64 0)) := fun u ⟨h1, h2, h3, h4⟩ =>
    ⟨(cell_of_same (Below.heap_setCell u ⟨sg, n * 3 + 2, none⟩ _ (xb + 1) (by show xb + 1 ≠ sg; omega)) 1).trans h1, (cell_of_same (Below.heap_setCell u ⟨sg, n * 3 + 2, none⟩ _ (xb + 1) (by show xb + 1 ≠ sg; omega)) 2).trans h2,
     (cell_of_same (Below.heap_setCell u ⟨sg, n * 3 + 2, none⟩ _ wb (by show wb ≠ sg; omega)) 0).trans h3, (cell_of_same (Below.heap_setCell u ⟨sg, n * 3 + 2, none⟩ _ wb (by show wb ≠ sg; omega)) 1).trans h4⟩
  clear hs16 hp16 hb16
  have hSall : ∀ w' : World, Below (W2).heap.size (W2) w' → (w'.cell? ⟨xb + 1, 1, none⟩ = some (.slice (some ⟨sg, 0, none⟩) (n + 1) sc) ∧ w'.cell? ⟨xb + 1, 2, none⟩ = some (.slice (some ⟨pg, 0, none⟩) (n + 1) pc) ∧ w'.cell? ⟨wb, 0, none⟩ = some (.int .i64 o) ∧ w'.cell? ⟨wb, 1, none⟩ = some (.int .i64 0)) := fun w' hb => ⟨(hb.cell (p := ⟨xb + 1, 1, none⟩) hbl2).trans c12, (hb.cell (p := ⟨xb + 1, 2, none⟩) hbl2).trans c22, (hb.cell (p := ⟨wb, 0, none⟩) hwb).trans y0, (hb.cell (p := ⟨wb, 1, none⟩) hwb).trans y1⟩
  refine wp_region_noPanic ?_
  refine region_ob (S := fun w' => w'.cell? ⟨xb + 1, 1, none⟩ = some (.slice (some ⟨sg, 0, none⟩) (n + 1) sc) ∧ w'.cell? ⟨xb + 1, 2, none⟩ = some (.slice (some ⟨pg, 0, none⟩) (n + 1) pc) ∧ w'.cell? ⟨wb, 0, none⟩ = some (.int .i64 o) ∧ w'.cell? ⟨wb, 1, none⟩ = some (.int .i64 0)) (ob := fun t => decide (t < 18) && !decide (t = 0)) (by kernel_rfl) ?_
  refine ob_pure (i := 0) (v := .pointer (some ⟨xb + 1, 0, none⟩)) rfl (by kernel_rfl) (by kernel_rfl) (by kernel_rfl) (by kernel_rfl) (by kernel_rfl) (fun _ _ _ h => h) (Or.inl ⟨by rfl, ?_⟩) ?_
  · intro w' _
    go_simp
  (try simp only [zA, zC, Act.put, zD, zE, zF])
  refine tk 1 (.pointer (some ⟨xb + 1, 0, none⟩)) ?_ (hSall _ (Below.refl _ _).drew) ?_
  · intro w' hSw
    (try dsimp only at hSw)
    go_simp
  (try simp only [zA, zB, zC, Act.put, zD, zE, zF])
  refine tk 2 (.pointer (some ⟨xb + 1, 1, none⟩)) ?_ (hSall _ (Below.refl _ _).drew) ?_
  · intro w' hSw
    (try dsimp only at hSw)
    go_simp
  (try simp only [zA, zB, zC, Act.put, zD, zE, zF])
  refine tk 3 (.slice (some ⟨sg, 0, none⟩) (n + 1) sc) ?_ (hSall _ (Below.refl _ _).drew) ?_
  · intro w' hSw
    (try dsimp only at hSw)
    go_simp
  (try simp only [zA, zB, zC, Act.put, zD, zE, zF])
  refine tk 4 (.int .i64 n) ?_ (hSall _ (Below.refl _ _).drew) ?_
  · intro w' hSw
    (try dsimp only at hSw)
    go_simp
  (try simp only [zA, zB, zC, Act.put, zD, zE, zF])
  refine tk 5 (.pointer (some ⟨xb + 1, 0, none⟩)) ?_ (hSall _ (Below.refl _ _).drew) ?_
  · intro w' hSw
    (try dsimp only at hSw)
    go_simp
  (try simp only [zA, zB, zC, Act.put, zD, zE, zF])
  refine tk 6 (.pointer (some ⟨xb + 1, 0, none⟩)) ?_ (hSall _ (Below.refl _ _).drew) ?_
  · intro w' hSw
    (try dsimp only at hSw)
    go_simp
  (try simp only [zA, zB, zC, Act.put, zD, zE, zF])
  refine tk 7 (.pointer (some ⟨xb + 1, 2, none⟩)) ?_ (hSall _ (Below.refl _ _).drew) ?_
  · intro w' hSw
    (try dsimp only at hSw)
    go_simp
  (try simp only [zA, zB, zC, Act.put, zD, zE, zF])
  refine tk 8 (.slice (some ⟨pg, 0, none⟩) (n + 1) pc) ?_ (hSall _ (Below.refl _ _).drew) ?_
  · intro w' hSw
    (try dsimp only at hSw)
    go_simp
  (try simp only [zA, zB, zC, Act.put, zD, zE, zF])
  refine tk 9 (.int .i64 n) ?_ (hSall _ (Below.refl _ _).drew) ?_
  · intro w' hSw
    (try dsimp only at hSw)
    go_simp
  (try simp only [zA, zB, zC, Act.put, zD, zE, zF])
  refine tk 10 (.pointer (some ⟨wb, 0, none⟩)) ?_ (hSall _ (Below.refl _ _).drew) ?_
  · intro w' hSw
    (try dsimp only at hSw)
    go_simp
  (try simp only [zA, zB, zC, Act.put, zD, zE, zF])
  refine tk 11 (.int .i64 o) ?_ (hSall _ (Below.refl _ _).drew) ?_
  · intro w' hSw
    (try dsimp only at hSw)
    go_simp
  (try simp only [zA, zB, zC, Act.put, zD, zE, zF])
  refine tk 12 (.pointer (some ⟨wb, 1, none⟩)) ?_ (hSall _ (Below.refl _ _).drew) ?_
  · intro w' hSw
    (try dsimp only at hSw)
    go_simp
  (try simp only [zA, zB, zC, Act.put, zD, zE, zF])
  refine tk 13 (.int .i64 0) ?_ (hSall _ (Below.refl _ _).drew) ?_
  · intro w' hSw
    (try dsimp only at hSw)
    go_simp
  (try simp only [zA, zB, zC, Act.put, zD, zE, zF])
  refine tk 14 (.pointer (some ⟨sg, n * 3, none⟩)) ?_ (hSall _ (Below.refl _ _).drew) ?_
  · intro w' hSw
    (try dsimp only at hSw)
    go_simp
  (try simp only [zA, zB, zC, Act.put, zD, zE, zF])
  refine tk 15 (.pointer (some ⟨sg, n * 3 + 2, none⟩)) ?_ (hSall _ (Below.refl _ _).drew) ?_
  · intro w' hSw
    (try dsimp only at hSw)
    go_simp
  (try simp only [zA, zB, zC, Act.put, zD, zE, zF])
  refine ob_step (i := 16) (by kernel_rfl) rfl (fun K hK => ?_)
  go_simp
  refine hK _ _ (fun _ => hS16 _ (hSall _ (by first | exact Below.refl _ _ | exact (Below.refl _ _).drew))) ?_
  clear hK K
  (try simp only [zA, zB, zC, Act.put, zD, zE, zF])
  refine tk 17 (.pointer (some ⟨pg, n, none⟩)) ?_ (hS16 _ (hSall _ (by first | exact Below.refl _ _ | exact (Below.refl _ _).drew))) ?_
  · intro w' hSw
    (try dsimp only at hSw)
    go_simp
  (try simp only [zA, zB, zC, Act.put, zD, zE, zF])
  refine ob_step (i := 18) (by kernel_rfl) rfl (fun K hK => ?_)
  go_simp
  refine hK _ _ (fun h => absurd h (by decide)) ?_
  clear hK K
  (try simp only [zA, zB, zC, Act.put, zD, zE, zF])
  refine ob_done (by kernel_rfl) (NoPanic.normal ?_) _
  clear hSall
  refine name_world fun W3 hW3 => ?_
  have HP3 := Lib.hid (show PathIs W3 _ _ _ _ _ _ ((xs ++ [q]).set n ⟨q.e, q.i, o⟩) (ps.set n 0) _ from by
    rw [hW3]
    exact ((HP2.out.setS (x' := ⟨q.e, q.i, o⟩) (k := 2) Hzn.out Hxq.out (by decide) rfl).setP (x' := 0) (Hpl2.out.trans Hzn.out) Hpq.out).below (Below.refl _ _).drew)
  have HB3 := Lib.hid (show Below w.heap.size w W3 by
    rw [hW3]
    have h1 := HP2.out.lt
    exact (below_set (by omega) (below_set (by omega) HB2.out _) _).drew)
  have hne3 : W3.heap[wb]? = W2.heap[wb]? := by
    rw [hW3]
    exact (Below.heap_setCell _ ⟨pg, n, none⟩ _ _ (by have := Hpg.out.2; show wb ≠ pg; omega)).trans (Below.heap_setCell W2 ⟨sg, n * 3 + 2, none⟩ _ _ (by have := Hsg.out.2; show wb ≠ sg; omega))
  have HX3 := Lib.hid (HX2.out.same (show W3.heap[xb]? = W2.heap[xb]? by
    rw [hW3]
    have h1 := HP2.out.lt
    exact (Below.heap_setCell _ ⟨pg, n, none⟩ _ _ (by have := Hpg.out.1; show xb ≠ pg; omega)).trans (Below.heap_setCell W2 ⟨sg, n * 3 + 2, none⟩ _ _ (by have := Hsg.out.1; show xb ≠ sg; omega))))
  have Hs3 := Lib.hid (show W3.heap.size = W2.heap.size by rw [hW3]; simp [World.setCell, World.drew])
  replace y0 := (cell_of_same hne3 0).trans y0
  replace hwb : wb < W3.heap.size := by have := Hs3.out; omega
  have c13 := HP3.out.c1
  have hos := HP3.out.os
  rw [List.length_set, Hzn.out] at hos
  have hxq3 : ((xs ++ [q]).set n ⟨q.e, q.i, o⟩)[n]? = some ⟨q.e, q.i, o⟩ := List.getElem?_set_self (by have := Hzn.out; omega)
  have k03 := own_at encStp_len hos (k := 0) hxq3 (by omega) rfl
  rw [show n * 3 + 0 = n * 3 by omega] at k03
  have hbl3 := HP3.out.bl
  have hsl3 := hos.lt sg rfl
  clear hS16 hW3 hne3 hos hxq3 c12 c22 k1 k0 k2 f1 f2 hbl2 hsl2 hpl2 y1
  obtain ⟨zs, hzs⟩ : ∃ zs, zs = (xs ++ [q]).set n ⟨q.e, q.i, o⟩ := ⟨_, rfl⟩
  have Hzl := Lib.hid (show zs.length = n + 1 by rw [hzs, List.length_set]; exact Hzn.out)
  rw [← hzs] at HP3
  clear hzs
  go_wp2_with fail
  rename_i K20 hK20
  have hSall : ∀ w' : World, Below (W3).heap.size (W3) w' → (w'.cell? ⟨xb + 1, 1, none⟩ = some (.slice (some ⟨sg, 0, none⟩) (n + 1) sc) ∧ w'.cell? ⟨sg, n * 3, none⟩ = some (.int .i64 q.e) ∧ w'.cell? ⟨wb, 0, none⟩ = some (.int .i64 o)) := fun w' hb => ⟨(hb.cell (p := ⟨xb + 1, 1, none⟩) hbl3).trans c13, (hb.cell (p := ⟨sg, n * 3, none⟩) hsl3.2).trans k03, (hb.cell (p := ⟨wb, 0, none⟩) hwb).trans y0⟩
  refine wp_region_noPanic ?_
  refine region_ob (S := fun w' => w'.cell? ⟨xb + 1, 1, none⟩ = some (.slice (some ⟨sg, 0, none⟩) (n + 1) sc) ∧ w'.cell? ⟨sg, n * 3, none⟩ = some (.int .i64 q.e) ∧ w'.cell? ⟨wb, 0, none⟩ = some (.int .i64 o)) (ob := fun t => decide (t < 12) && !decide (t = 0)) (by kernel_rfl) ?_
  refine ob_pure (i := 0) (v := .pointer (some ⟨xb + 1, 0, none⟩)) rfl (by kernel_rfl) (by kernel_rfl) (by kernel_rfl) (by kernel_rfl) (by kernel_rfl) (fun _ _ _ h => h) (Or.inl ⟨by rfl, ?_⟩) ?_
  · intro w' _
    go_simp
  (try dsimp only [List.getElem_toArray, List.getElem_cons_succ, List.getElem_cons_zero, Act.put, List.setIfInBounds_toArray, List.set_cons_zero, List.set_cons_succ])
  refine tk 1 (.pointer (some ⟨xb + 1, 0, none⟩)) ?_ (hSall _ (Below.refl _ _).drew) ?_
  · intro w' hSw
    (try dsimp only at hSw)
    go_simp
  (try dsimp only [List.getElem_toArray, List.getElem_cons_succ, List.getElem_cons_zero, Act.put, List.setIfInBounds_toArray, List.set_cons_zero, List.set_cons_succ])
  refine tk 2 (.pointer (some ⟨xb + 1, 1, none⟩)) ?_ (hSall _ (Below.refl _ _).drew) ?_
  · intro w' hSw
    (try dsimp only at hSw)
    go_simp
  (try dsimp only [List.getElem_toArray, List.getElem_cons_succ, List.getElem_cons_zero, Act.put, List.setIfInBounds_toArray, List.set_cons_zero, List.set_cons_succ])
  refine tk 3 (.slice (some ⟨sg, 0, none⟩) (n + 1) sc) ?_ (hSall _ (Below.refl _ _).drew) ?_
  · intro w' hSw
    (try dsimp only at hSw)
    go_simp
  (try dsimp only [List.getElem_toArray, List.getElem_cons_succ, List.getElem_cons_zero, Act.put, List.setIfInBounds_toArray, List.set_cons_zero, List.set_cons_succ])
  refine tk 4 (.int .i64 n) ?_ (hSall _ (Below.refl _ _).drew) ?_
  · intro w' hSw
    (try dsimp only at hSw)
    go_simp
  (try dsimp only [List.getElem_toArray, List.getElem_cons_succ, List.getElem_cons_zero, Act.put, List.setIfInBounds_toArray, List.set_cons_zero, List.set_cons_succ])
  refine tk 5 (.pointer (some ⟨sg, n * 3, none⟩)) ?_ (hSall _ (Below.refl _ _).drew) ?_
  · intro w' hSw
    (try dsimp only at hSw)
    go_simp
  (try dsimp only [List.getElem_toArray, List.getElem_cons_succ, List.getElem_cons_zero, Act.put, List.setIfInBounds_toArray, List.set_cons_zero, List.set_cons_succ])
  refine tk 6 (.pointer (some ⟨sg, n * 3, none⟩)) ?_ (hSall _ (Below.refl _ _).drew) ?_
  · intro w' hSw
    (try dsimp only at hSw)
    go_simp
  (try dsimp only [List.getElem_toArray, List.getElem_cons_succ, List.getElem_cons_zero, Act.put, List.setIfInBounds_toArray, List.set_cons_zero, List.set_cons_succ])
  refine tk 7 (.int .i64 q.e) ?_ (hSall _ (Below.refl _ _).drew) ?_
  · intro w' hSw
    (try dsimp only at hSw)
    go_simp
  (try dsimp only [List.getElem_toArray, List.getElem_cons_succ, List.getElem_cons_zero, Act.put, List.setIfInBounds_toArray, List.set_cons_zero, List.set_cons_succ])
  refine tk 8 (.pointer (some ⟨wb, 0, none⟩)) ?_ (hSall _ (Below.refl _ _).drew) ?_
  · intro w' hSw
    (try dsimp only at hSw)
    go_simp
  (try dsimp only [List.getElem_toArray, List.getElem_cons_succ, List.getElem_cons_zero, Act.put, List.setIfInBounds_toArray, List.set_cons_zero, List.set_cons_succ])
  refine tk 9 (.int .i64 o) ?_ (hSall _ (Below.refl _ _).drew) ?_
  · intro w' hSw
    (try dsimp only at hSw)
    go_simp
  (try dsimp only [List.getElem_toArray, List.getElem_cons_succ, List.getElem_cons_zero, Act.put, List.setIfInBounds_toArray, List.set_cons_zero, List.set_cons_succ])
  refine tk 10 (.agg #[.int .i64 q.e, .int .i64 o]) ?_ (hSall _ (Below.refl _ _).drew) ?_
  · intro w' hSw
    (try dsimp only at hSw)
    go_simp
  (try dsimp only [List.getElem_toArray, List.getElem_cons_succ, List.getElem_cons_zero, Act.put, List.setIfInBounds_toArray, List.set_cons_zero, List.set_cons_succ])
  refine ob_step (i := 11) (by kernel_rfl) rfl (fun K hK => ?_)
  go_simp
  refine hK _ _ (fun _ => (hSall _ (by with_reducible repeat (first | exact Below.refl _ _ | assumption | exact below_new _ _ | apply below_drewN | apply Below.drew | refine below_set (Nat.le_refl _) ?_ _ | (refine below_set ?_ ?_ _; omega) | refine Below.alloc ?_ (by first | omega | (simp; omega) | simp) _)))) ?_
  clear hK K
  (try dsimp only [List.getElem_toArray, List.getElem_cons_succ, List.getElem_cons_zero, Act.put, List.setIfInBounds_toArray, List.set_cons_zero, List.set_cons_succ])
  refine ob_step (i := 12) (by kernel_rfl) rfl (fun K hK => ?_)
  go_simp
  refine hK _ _ (fun h => absurd h (by decide)) ?_
  clear hK K
  (try dsimp only [List.getElem_toArray, List.getElem_cons_succ, List.getElem_cons_zero, Act.put, List.setIfInBounds_toArray, List.set_cons_zero, List.set_cons_succ])
  refine ob_done (by kernel_rfl) (NoPanic.normal ?_) _
  clear hSall
  refine name_world fun W4 hW4 => ?_
  have hB4 : Below W3.heap.size W3 W4 := by rw [hW4]; exact (below_new W3 _).drew
  have b0 : W4.cell? ⟨W3.heap.size, 0, none⟩ = some (.int .i64 q.e) := by rw [hW4]; go_simp
  have b1 : W4.cell? ⟨W3.heap.size, 1, none⟩ = some (.int .i64 o) := by rw [hW4]; go_simp
  have hwb4 : W3.heap.size < W4.heap.size := by rw [hW4]; simp [World.drew]
  clear hW4
  refine hK20 _ _ ?_
  exact of_tail w nb p s Hh Hwf be xb bs n hwx _ _ _ zs (ps.set n 0) ((l0 ++ [v1]).set n z) Hzl (Lib.hid (by have := Hz12.out; rw [Hzn.out] at this; rw [Hzl.out]; exact this)) q.e o hqi hoi W4 W3.heap.size hwb4 b0 b1
    (Lib.hid (HP3.out.below hB4)) (Lib.hid (HX3.out.below hB4)) (Lib.hid (below_step HB3.out hB4 HB3.out.size))
    (Lib.hid (by rw [List.length_set, Hzl.out, Hpl2.out, Hzn.out])) (Lib.hid (by rw [List.length_set, Hzl.out, Hll.out, Hzn.out]))
    (Lib.hid (fun q hq => by
      rcases List.mem_or_eq_of_mem_set hq with hq | rfl
      · exact Hz.out q hq
      · rfl))
    (Lib.hid (fun y hy => by
      rw [← hl0, List.set_append_right _ _ (Nat.le_refl _), Nat.sub_self, List.set_cons_zero] at hy
      rcases List.mem_append.1 hy with hy | hy
      · exact Hs0.out y hy
      · obtain rfl := List.mem_singleton.1 hy
        exact Hz0.out)) Q _ _ _ _ _ _ _ _ _ _ _ _ _ _ _ _ _ _ _ _ _ _ _ _ _ _ _ _ _ _ _ _ _ _ _ _ _ _ _ _ _ _ _ _ _ _ _ _ _ _ _ _ _ _ _ _ _ _ _ _ _ _ _ _ _ _ _ _ _ _ _ _ _ _ _ _ _ _ _ _ _ _ _ _ _ _ _ _ _ _ _ _ _ _ _ _ _ _ _ _ _ _ _ _ _ _ _ _ _ _ _ _ _ _ _ _ _ _ _ _ _ _ _ _ _ _ _ _ _ _ _ _ _ _ _ _ _ _ _ _ _ _ _ _ _ _ _ _ _ _ _ h3 h1
end Go.Proofs.YtcaeglnfflkabaaGreat
