/- Walk of road.Of: what follows when a way is taken. Condition: the net and the path are read. -/
import Derived.Test.YtcaeglnfflkabaaGreatTopOwn
import Derived.WalkMore
import Derived.Deep.CutRange
import Derived.BigRegion
set_option maxRecDepth 1000000
namespace Go.Proofs.YtcaeglnfflkabaaGreat
open Go.ChangeShapes Go.WideShapes Go.ChangeAt Go.RowKit Go.Sort

theorem outs_in {p : Plan} (h : Even p) {e i o : Int} (ho : outs p e i = [⟨o, 0⟩]) : inI o := by
  obtain ⟨h2, h3⟩ := h e
  unfold outs at ho
  split at ho
  · cases ho
  · rename_i hi
    split at ho
    · rename_i hk
      rw [hk] at hi
      simp only [List.cons.injEq, Way.mk.injEq, and_true] at ho
      have h1 : ends 1 = 2 := rfl
      rw [h1] at hi
      unfold inI
      omega
    · first
        | (cases ho; done)
        | (split at ho
           · exact absurd (by assumption) h3
           · first
              | (cases ho; done)
              | (split at ho
                 · exact absurd (by assumption) h2
                 · cases ho))
/-- all ways are shut -/
def Shut (ls : List WS) : Prop := ∀ y ∈ ls, y.n = 0
/-- the last way alone is open, and leads to o -/
def Open1 (w : World) (ls : List WS) (o : Int) : Prop := ∃ l0 y, ls = l0 ++ [y] ∧ Shut l0 ∧ y.n = 1 ∧ 1 ≤ y.c ∧ Row 2 encWay w y.a 1 [⟨o, 0⟩] ∧ inI o
def OfPost (w : World) (s : Int) (e : Ending) (w' : World) : Prop := ∃ v xs, e = .returned v ∧ OwnR w' w.heap.size v xs ∧ xs.length ≤ 1 ∧ (∀ x ∈ xs, Plain s x) ∧ Below w.heap.size w w'
theorem nextIn_mem : ∀ {l : List Join} {x y : Port}, nextIn l x = some y → ∃ j ∈ l, y = j.a ∨ y = j.b
  | [], _, _, h => by cases h
  | j :: r, x, y, h => by
    unfold nextIn at h
    split at h
    · cases h; exact ⟨j, by simp, .inr rfl⟩
    · split at h
      · cases h; exact ⟨j, by simp, .inl rfl⟩
      · obtain ⟨q, hq, h2⟩ := nextIn_mem h
        exact ⟨q, List.mem_cons_of_mem _ hq, h2⟩
theorem next_wfT {v : PV} {p : Plan} (h : PlanFit v p) {x y : Port} (hn : nextOf p x = some y) : y.wf := by
  obtain ⟨j, hj, rfl | rfl⟩ := nextIn_mem hn
  · exact (h.j j hj).1
  · exact (h.j j hj).2
/-- a part of a function's body, by the way to it -/
def stepC (i : Nat) : Go.Code → Go.Code
  | .seq a b => match i with | 0 => a | _ => b
  | .cond _ a b => match i with | 0 => a | _ => b
  | .block _ c => c
  | .loop c => c
  | .scope c => c
  | c => c
def codeAt (c : Go.Code) (l : List Nat) : Go.Code := l.foldl (fun c i => stepC i c) c
/-- the body of road.Of -/
noncomputable def ofBody : Go.Code := (Tryz.f69.body).getD .skip
/-- a way has ended: all ways are shut, and there is at most one road -/
def BackOk (w w' : World) (xb bs : Nat) (be s : Int) (n : Nat) (v8 : Value) : Prop := ∃ (sv pv lv : Value) (zs : List Stp) (ps : List Int) (ls : List WS), zs.length = n + 1 ∧ zs.length ≤ 12 ∧ Hid (PathIs w' (xb + 1) bs be sv pv lv zs ps ls) ∧ ps.length = zs.length ∧ ls.length = zs.length ∧
  Hid (∀ q ∈ ps, q = 0) ∧ Hid (Below w.heap.size w w' ∧ XBox w' xb) ∧ Hid (Shut ls) ∧ ∃ rs, Hid (OwnR w' bs v8 rs) ∧ rs.length ≤ 1 ∧ Hid (∀ r ∈ rs, Plain s r)
/-- the search goes on at a port -/
def GoOn (w w' : World) (xb bs : Nat) (be : Int) (n : Nat) : Prop := ∃ (y : Port) (sv pv lv : Value) (zs : List Stp) (ps : List Int) (ls : List WS), zs.length = n + 1 ∧ zs.length ≤ 12 ∧ y.wf ∧ Hid (w'.heap[xb]? = some (.cells #[.int .i64 y.e, .int .i64 y.n] 43)) ∧
  Hid (PathIs w' (xb + 1) bs be sv pv lv zs ps ls) ∧ ps.length = zs.length ∧ ls.length = zs.length ∧ Hid (∀ q ∈ ps, q = 0) ∧ Hid (Shut ls) ∧ Hid (Below w.heap.size w w')
set_option maxHeartbeats 4000000 in
theorem of_tail (w : World) (nb : Nat) (p : Plan) (s : Int) (Hh : Hid (NetAt w nb p)) (Hwf : Hid (∀ x y, nextOf p x = some y → y.wf)) (be : Int) (xb bs n : Nat) (hwx : w.heap.size ≤ xb) (sv pv lv : Value) (zs : List Stp) (ps : List Int) (ls : List WS)
    (Hzl : Hid (zs.length = n + 1)) (Hz12' : Hid (zs.length ≤ 12)) (qe o : Int) (hqi : inI qe) (hoi : inI o) (W4 : World) (yb : Nat) (hwb4 : yb < W4.heap.size) (b0 : W4.cell? ⟨yb, 0, none⟩ = some (.int .i64 qe)) (b1 : W4.cell? ⟨yb, 1, none⟩ = some (.int .i64 o))
    (HP4 : Hid (PathIs W4 (xb + 1) bs be sv pv lv zs ps ls)) (HX4 : Hid (XBox W4 xb)) (HB4 : Hid (Below w.heap.size w W4)) (Hp5 : Hid (ps.length = zs.length)) (Hl5 : Hid (ls.length = zs.length)) (Hz5 : Hid (∀ q ∈ ps, q = 0)) (Hsh5 : Hid (Shut ls))
    (Q : Exit → Act → World → Prop) (t2 t3 t4 t5 t6 t10 t11 t13 t14 t15 t16 t17 t18 t19 t20 t21 t22 t23 t24 t25 t26 t27 t28 t29 t30 t31 t32 t33 t34 t35 t36 t37 t38 t39 t40 t41 t42 t43 t44 t45 t46 t47 t48 t49 t50 t51 t52 t53 t54 t55 t56 t57 t58 t59 t60 t61 t62 t63 t64 t65 t66 t67 t68 t69 t70 t71 t72 t73 t74 t75 t76 t77 t78 t79 t80 t81 t82 t83 t84 t85 t86 t87 t88 t89 t90 t91 t92 t93 t94 t95 t96 t97 t98 t99 t100 t101 t102 t103 t104 t105 t106 t107 t108 t109 t110 t111 t112 t113 t114 t115 t116 t117 t118 t119 t120 t121 t122 t123 t124 t125 t126 t127 t128 t129 t130 t131 t132 t133 t134 t135 t136 t137 t138 t139 t140 t141 t142 t143 t144 t145 t146 t147 t148 t149 t150 t151 t152 t153 t154 t155 t156 : Value)
    (h3 : Hid (∀ (v8 v10 v11 v12 v13 v14 v15 v55 v56 v57 v58 v59 v60 v61 v62 v63 v64 v65 v66 v67 v68 v69 v70 v71 v72 v73 v74 v75 v76 v77 v78 v79 v80 v81 v82 v83 v84 v85 v86 v87 v88 v89 v90 v91 v92 v93 v94 v95 v96 v97 v98 v99 v100 v101 v102 v103 v104 v105 v106 v107 v108 v109 v110 v111 v112 v113 v114 v115 v116 v117 v118 v119 v120 v121 v122 v123 v124 v125 v126 v127 v128 v129 v130 v131 v132 v133 v134 v135 v136 v137 v138 v139 v140 v141 v142 v143 v144 v145 v146 v147 v148 v149 v150 v151 v152 v153 v154 v155 : Value) (w' : World), BackOk w w' xb bs be s n v8 → Q (.exit 3) { tmps := List.toArray (Value.pointer (some ⟨nb, 0, none⟩) :: Value.int .i64 s :: t2 :: t3 :: t4 :: t5 :: t6 :: Value.pointer (some ⟨xb, 0, none⟩) :: v8 :: Value.pointer (some ⟨xb + 1, 0, none⟩) :: v10 :: v11 :: v12 :: v13 :: v14 :: v15 :: t16 :: t17 :: t18 :: t19 :: t20 :: t21 :: t22 :: t23 :: t24 :: t25 :: t26 :: t27 :: t28 :: t29 :: t30 :: t31 :: t32 :: t33 :: t34 :: t35 :: t36 :: t37 :: t38 :: t39 :: t40 :: t41 :: t42 :: t43 :: t44 :: t45 :: t46 :: t47 :: t48 :: t49 :: t50 :: t51 :: t52 :: t53 :: t54 :: v55 :: v56 :: v57 :: v58 :: v59 :: v60 :: v61 :: v62 :: v63 :: v64 :: v65 :: v66 :: v67 :: v68 :: v69 :: v70 :: v71 :: v72 :: v73 :: v74 :: v75 :: v76 :: v77 :: v78 :: v79 :: v80 :: v81 :: v82 :: v83 :: v84 :: v85 :: v86 :: v87 :: v88 :: v89 :: v90 :: v91 :: v92 :: v93 :: v94 :: v95 :: v96 :: v97 :: v98 :: v99 :: v100 :: v101 :: v102 :: v103 :: v104 :: v105 :: v106 :: v107 :: v108 :: v109 :: v110 :: v111 :: v112 :: v113 :: v114 :: v115 :: v116 :: v117 :: v118 :: v119 :: v120 :: v121 :: v122 :: v123 :: v124 :: v125 :: v126 :: v127 :: v128 :: v129 :: v130 :: v131 :: v132 :: v133 :: v134 :: v135 :: v136 :: v137 :: v138 :: v139 :: v140 :: v141 :: v142 :: v143 :: v144 :: v145 :: v146 :: v147 :: v148 :: v149 :: v150 :: v151 :: v152 :: v153 :: v154 :: v155 :: t156 :: []), defers := [] } w'))
    (h1 : Hid (∀ (v10 v11 v12 v13 v14 v15 v55 v56 v57 v58 v59 v60 v61 v62 v63 v64 v65 v66 v67 v68 v69 v70 v71 v72 v73 v74 v75 v76 v77 v78 v79 v80 v81 v82 v83 v84 v85 v86 v87 v88 v89 v90 v91 v92 v93 v94 v95 v96 v97 v98 v99 v100 v101 v102 v103 v104 v105 v106 v107 v108 v109 v110 v111 v112 v113 v114 v115 v116 v117 v118 v119 v120 v121 v122 v123 v124 v125 v126 v127 v128 v129 v130 v131 v132 v133 v134 v135 v136 v137 v138 v139 v140 v141 v142 v143 v144 v145 v146 v147 v148 v149 v150 v151 v152 v153 v154 v155 : Value) (w' : World), GoOn w w' xb bs be n → Q (.exit 1) { tmps := List.toArray (Value.pointer (some ⟨nb, 0, none⟩) :: Value.int .i64 s :: t2 :: t3 :: t4 :: t5 :: t6 :: Value.pointer (some ⟨xb, 0, none⟩) :: Value.slice none 0 0 :: Value.pointer (some ⟨xb + 1, 0, none⟩) :: v10 :: v11 :: v12 :: v13 :: v14 :: v15 :: t16 :: t17 :: t18 :: t19 :: t20 :: t21 :: t22 :: t23 :: t24 :: t25 :: t26 :: t27 :: t28 :: t29 :: t30 :: t31 :: t32 :: t33 :: t34 :: t35 :: t36 :: t37 :: t38 :: t39 :: t40 :: t41 :: t42 :: t43 :: t44 :: t45 :: t46 :: t47 :: t48 :: t49 :: t50 :: t51 :: t52 :: t53 :: t54 :: v55 :: v56 :: v57 :: v58 :: v59 :: v60 :: v61 :: v62 :: v63 :: v64 :: v65 :: v66 :: v67 :: v68 :: v69 :: v70 :: v71 :: v72 :: v73 :: v74 :: v75 :: v76 :: v77 :: v78 :: v79 :: v80 :: v81 :: v82 :: v83 :: v84 :: v85 :: v86 :: v87 :: v88 :: v89 :: v90 :: v91 :: v92 :: v93 :: v94 :: v95 :: v96 :: v97 :: v98 :: v99 :: v100 :: v101 :: v102 :: v103 :: v104 :: v105 :: v106 :: v107 :: v108 :: v109 :: v110 :: v111 :: v112 :: v113 :: v114 :: v115 :: v116 :: v117 :: v118 :: v119 :: v120 :: v121 :: v122 :: v123 :: v124 :: v125 :: v126 :: v127 :: v128 :: v129 :: v130 :: v131 :: v132 :: v133 :: v134 :: v135 :: v136 :: v137 :: v138 :: v139 :: v140 :: v141 :: v142 :: v143 :: v144 :: v145 :: v146 :: v147 :: v148 :: v149 :: v150 :: v151 :: v152 :: v153 :: v154 :: v155 :: t156 :: []), defers := [] } w')) :
    Go.Code.wp Tryz.prog (codeAt ofBody [1,0,1,1,1,1,1,1,1,0,0,0,0,0,1,1,0,0,0,1,0,1,1,1,1,1,1]) Q { tmps := List.toArray (Value.pointer (some ⟨nb, 0, none⟩) :: Value.int .i64 s :: t2 :: t3 :: t4 :: t5 :: t6 :: Value.pointer (some ⟨xb, 0, none⟩) :: Value.slice none 0 0 :: Value.pointer (some ⟨xb + 1, 0, none⟩) :: t10 :: t11 :: Value.pointer (some ⟨yb, 0, none⟩) :: t13 :: t14 :: t15 :: t16 :: t17 :: t18 :: t19 :: t20 :: t21 :: t22 :: t23 :: t24 :: t25 :: t26 :: t27 :: t28 :: t29 :: t30 :: t31 :: t32 :: t33 :: t34 :: t35 :: t36 :: t37 :: t38 :: t39 :: t40 :: t41 :: t42 :: t43 :: t44 :: t45 :: t46 :: t47 :: t48 :: t49 :: t50 :: t51 :: t52 :: t53 :: t54 :: t55 :: t56 :: t57 :: t58 :: t59 :: t60 :: t61 :: t62 :: t63 :: t64 :: t65 :: t66 :: t67 :: t68 :: t69 :: t70 :: t71 :: t72 :: t73 :: t74 :: t75 :: t76 :: t77 :: t78 :: t79 :: t80 :: t81 :: t82 :: t83 :: t84 :: t85 :: t86 :: t87 :: t88 :: t89 :: t90 :: t91 :: t92 :: t93 :: t94 :: t95 :: t96 :: t97 :: t98 :: t99 :: t100 :: t101 :: t102 :: t103 :: t104 :: t105 :: t106 :: t107 :: t108 :: t109 :: t110 :: t111 :: t112 :: t113 :: t114 :: t115 :: t116 :: t117 :: t118 :: t119 :: t120 :: t121 :: t122 :: t123 :: t124 :: t125 :: t126 :: t127 :: t128 :: t129 :: t130 :: t131 :: t132 :: t133 :: t134 :: t135 :: t136 :: t137 :: t138 :: t139 :: t140 :: t141 :: t142 :: t143 :: t144 :: t145 :: t146 :: t147 :: t148 :: t149 :: t150 :: t151 :: t152 :: t153 :: t154 :: t155 :: t156 :: []), defers := [] } W4 := by
  have HNR := Lib.hid (nreads_any W4 nb p (Hh.out.below HB4.out) ⟨qe, o⟩ ⟨hqi, hoi⟩)
  dsimp only [Port.val] at HNR
  show Go.Code.wp Tryz.prog (Go.Code.seq _ _) _ _ _
  go_wp2_with fail
  refine HNR.out.mono ?_
  rintro en w5 ⟨rfl, hb5⟩
  have HP5 := Lib.hid (HP4.out.below hb5)
  have HX5 := Lib.hid (HX4.out.below hb5)
  have HB5 := Lib.hid (below_step HB4.out hb5 HB4.out.size)
  have d0 := (hb5.cell (p := ⟨yb, 0, none⟩) hwb4).trans b0
  have d1 := (hb5.cell (p := ⟨yb, 1, none⟩) hwb4).trans b1
  have hwb5 : yb < w5.heap.size := Nat.lt_of_lt_of_le hwb4 hb5.size
  obtain ⟨r, hr⟩ : ∃ r, r = reads p ⟨qe, o⟩ := ⟨_, rfl⟩
  rw [← hr]
  clear hr hb5 hwb4 HNR b0 b1
  by_cases hr : 0 ≤ r
  · go_wp2_with fail
    have HRd := Lib.hid (road_any2 w5 _ _ be s (r) 1 _ _ _ _ _ _ HP5.out Hp5.out Hz5.out Hz12'.out)
    go_wp2_with fail
    refine HRd.out.mono ?_
    rintro en w6 ⟨a6, c6, rfl, hst6, hfr6, hac6, hb6⟩
    have hl6 : bs ≤ w6.heap.size := Nat.le_trans HP5.out.le hb6.size
    clear HRd
    go_wp2_with (at_builtin; refine wpList_appB encRoad_len encRoad_one _ rfl _ _ 66 rfl bs 74 (.agg #[.int .i64 0, .int .i64 0, .int .i64 0, .slice none 0 0, .slice none 0 0, .slice none 0 0, .slice none 0 0, .slice none 0 0, .bool false]) 152 Tryz.underlying66 info_road rfl (by decide) (.slice none 0 0) 0 [] rfl (World.ownsRow_nil _ _ _ _) (some ⟨w6.heap.size, 0, none⟩) 1 1 [road1 s (r) 1 a6 c6 zs] rfl (row_road1 _ (heap_alloc_new w6 _)) (by intro h; cases h) (by simp [maxLen]) (by omega) (by simp; omega) ?_)
    intro v8 w8 ho8 hg8 hb8
    have hX8 := own_road1 (base := bs) (hst6.below (below_new w6 _)) (fun k hk => ⟨Nat.le_trans HP5.out.le (hfr6 k hk).1, by have := (hfr6 k hk).2; simp; omega⟩) hac6 ho8 hg8 (by simpa [Value.ownBlock] using hb8)
    have hb86 : Below w5.heap.size w5 w8 := (hb6.alloc hb6.size _).grown hg8 (by have := hb6.size; simp; omega) (fun k hk => by cases hk)
    have HP8 := Lib.hid (HP5.out.below hb86)
    have HB8 := Lib.hid (below_step HB5.out hb86 HB5.out.size)
    have HX8 := Lib.hid hX8
    have Hb86 := Lib.hid hb86
    clear hb86 ho8 hg8 hb8 hX8 hst6 hfr6 hac6 hb6
    go_wp2_with fail
    apply h3.out
    refine ⟨_, _, _, zs, _, _, Hzl.out, Hz12'.out, HP8, Hp5.out, Hl5.out, Hz5, Lib.hid ⟨HB8.out, HX5.out.below Hb86.out⟩, Hsh5, _, HX8, by simp, Lib.hid (fun y hy => ?_)⟩
    obtain rfl := List.mem_singleton.1 hy
    exact road1_plain _ _ _ _ _ _ Hz12'.out
  · have HN2 := Lib.hid (nnext_any w5 nb p (Hh.out.below HB5.out) ⟨qe, o⟩ ⟨hqi, hoi⟩)
    dsimp only [Port.val] at HN2
    cases hnx : nextOf p ⟨qe, o⟩ with
    | none =>
      rw [hnx] at HN2
      dsimp only [Option.getD_none, Option.isSome_none, zeroPort] at HN2
      clear hnx
      go_wp2_with fail
      refine HN2.out.mono ?_
      rintro en w7 ⟨rfl, hb7⟩
      have hb7a := hb7.alloc hb7.size (.cells #[.int .i64 0, .int .i64 0] 43)
      clear d0 d1
      go_wp2_with fail
      refine name_calls fun w9 hw9 => ?_
      rw [← hw9] at hb7a
      have HP9 := Lib.hid (HP5.out.below hb7a)
      have HX9 := Lib.hid (HX5.out.below hb7a)
      have HB9 := Lib.hid (below_step HB5.out hb7a HB5.out.size)
      clear hw9 hb7a hb7 HN2
      have HRd := Lib.hid (road_any2 w9 _ _ be s (-1) 3 _ _ _ _ _ _ HP9.out Hp5.out Hz5.out Hz12'.out)
      go_wp2_with fail
      refine HRd.out.mono ?_
      rintro en w6 ⟨a6, c6, rfl, hst6, hfr6, hac6, hb6⟩
      have hl6 : bs ≤ w6.heap.size := Nat.le_trans HP9.out.le hb6.size
      clear HRd
      go_wp2_with (at_builtin; refine wpList_appB encRoad_len encRoad_one _ rfl _ _ 66 rfl bs 74 (.agg #[.int .i64 0, .int .i64 0, .int .i64 0, .slice none 0 0, .slice none 0 0, .slice none 0 0, .slice none 0 0, .slice none 0 0, .bool false]) 152 Tryz.underlying66 info_road rfl (by decide) (.slice none 0 0) 0 [] rfl (World.ownsRow_nil _ _ _ _) (some ⟨w6.heap.size, 0, none⟩) 1 1 [road1 s (-1) 3 a6 c6 zs] rfl (row_road1 _ (heap_alloc_new w6 _)) (by intro h; cases h) (by simp [maxLen]) (by omega) (by simp; omega) ?_)
      intro v8 w8 ho8 hg8 hb8
      have hX8 := own_road1 (base := bs) (hst6.below (below_new w6 _)) (fun k hk => ⟨Nat.le_trans HP9.out.le (hfr6 k hk).1, by have := (hfr6 k hk).2; simp; omega⟩) hac6 ho8 hg8 (by simpa [Value.ownBlock] using hb8)
      have hb86 : Below w9.heap.size w9 w8 := (hb6.alloc hb6.size _).grown hg8 (by have := hb6.size; simp; omega) (fun k hk => by cases hk)
      have HP8 := Lib.hid (HP9.out.below hb86)
      have HB8 := Lib.hid (below_step HB9.out hb86 HB9.out.size)
      have HX8 := Lib.hid hX8
      have Hb86 := Lib.hid hb86
      clear hb86 ho8 hg8 hb8 hX8 hst6 hfr6 hac6 hb6
      go_wp2_with fail
      apply h3.out
      refine ⟨_, _, _, zs, _, _, Hzl.out, Hz12'.out, HP8, Hp5.out, Hl5.out, Hz5, Lib.hid ⟨HB8.out, HX9.out.below Hb86.out⟩, Hsh5, _, HX8, by simp, Lib.hid (fun y hy => ?_)⟩
      obtain rfl := List.mem_singleton.1 hy
      exact road1_plain _ _ _ _ _ _ Hz12'.out
    | some z2 =>
      have hzw := Hwf.out _ _ hnx
      rw [hnx] at HN2
      dsimp only [Option.getD_some, Option.isSome_some] at HN2
      clear hnx
      obtain ⟨xa, xc, hxb⟩ := HX5.out
      have hlt5 : xb < w5.heap.size := (Array.getElem?_eq_some_iff.1 hxb).1
      have Hxb := Lib.hid hxb
      clear hxb
      go_wp2_with fail
      refine HN2.out.mono ?_
      rintro en w7 ⟨rfl, hb7⟩
      have hb7a := hb7.alloc hb7.size (.cells #[.int .i64 z2.e, .int .i64 z2.n] 43)
      have hx7 := (hb7a.block _ hlt5).trans Hxb.out
      have t0 := cell_of_row _ xb 0 _ _ (0, 0) hx7
      have t1 := cell_of_row _ xb 1 _ _ (0, 0) hx7
      have fz : ∀ k, (w7.alloc (.cells #[.int .i64 z2.e, .int .i64 z2.n] 43)).frozen? ⟨xb, k, none⟩ = false := fun k => frozen_of_row _ xb k _ _ hx7
      have Hx7 := Lib.hid hx7
      have Hb7a := Lib.hid hb7a
      clear d0 d1 hx7 hb7a HN2
      go_wp2_with fail
      apply h1.out
      have h13 := HP5.out.lt
      exact ⟨z2, _, _, _, zs, ps, ls, Hzl.out, Hz12'.out, hzw, Lib.hid (heap_setCell_same _ xb 1 _ _ _ (heap_setCell_same _ xb 0 _ _ _ Hx7.out)),
        Lib.hid (((HP5.out.below Hb7a.out).lowset (by omega) (by omega) _ _).lowset (by omega) (by omega) _ _), Hp5.out, Hl5.out, Hz5, Hsh5, Lib.hid (below_set (by omega) (below_set (by omega) (below_step HB5.out Hb7a.out HB5.out.size) _) _)⟩
end Go.Proofs.YtcaeglnfflkabaaGreat
