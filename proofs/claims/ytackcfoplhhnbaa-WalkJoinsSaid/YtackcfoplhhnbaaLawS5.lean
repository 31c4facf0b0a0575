/- WalkJoins: for every input the law returns true. No condition. -/
import Derived.Test.YtackcfoplhhnbaaLawS4
import Derived.Lib.AppendZeros
set_option maxRecDepth 1000000
namespace Go.Proofs.Ytackcfoplhhnbaa
open Go.ChangeShapes Go.WideShapes Go.ChangeAt Go.RowKit Go.Sort

/-- an append whose run is known, at an operation whose guard holds -/
theorem wpList_append_guarded {P : Program} (w : World) {ops : Array Oper} {rest : List Oper} {o : Oper} {a : Act} {Q : Exit → Act → World → Prop} (hw : Region.wanted o (yielded ops a.tmps) = true) (s x : Operand) (t tn : TypeId)
    (ho : o.op = .call { callee := .builtin .append, args := #[s, x], argTypes := #[t, tn] }) (vs vx : Value) (hs : a.eval s = vs) (hx : a.eval x = vx)
    (v' : Value) (w' : World) (hr : (Builtin.append_ #[t, tn] o.type #[vs, vx]).run P w = .ok v' w') (h : wpList P ops Q rest (a.put o.dst v') w') : wpList P ops Q (o :: rest) a w := by
  unfold wpList; rw [if_pos hw]; exact .inl (Lib.wp_append_run w s x t tn ho vs vx hs hx v' w' hr h)
theorem run_u8 {a : Int} (h0 : 0 ≤ a) (h1 : a ≤ 510) (p : Plan) (pos : List Int) (x : Port) : run p pos x a = runGo p pos a.toNat x := by
  unfold run runMost; rw [show (max 0 (min a 1000)).toNat = a.toNat by omega]
theorem run_join8 {a b : Int} (h0 : 0 ≤ a) (h1 : a ≤ 255) (h2 : 0 ≤ b) (h3 : b ≤ 255) (p : Plan) (pos : List Int) (x : Port) : run p pos x (a + b) =
    if (run p pos x a).2 ≠ 5 then run p pos x a else ((run p pos x a).1 ++ (run p pos (lastOf x (run p pos x a).1) b).1, (run p pos (lastOf x (run p pos x a).1) b).2) := by
  rw [run_u8 (by omega) (by omega), run_u8 h0 (by omega), run_u8 h2 (by omega), show (a + b).toNat = a.toNat + b.toNat by omega, run_join]
theorem last_wf {p : Plan} (g : Good p) {pos : List Int} {x : Port} (hx : x.wf) (k : Int) : (lastOf x (run p pos x k).1).wf := by
  unfold lastOf
  cases h : (run p pos x k).1.getLast? with
  | none => exact hx
  | some z => exact port_wf g (run_ports g (List.mem_of_getLast? h))
set_option maxHeartbeats 4000000 in
theorem lawJoins_any (w : World) (pv : PV) (p : Plan) (pa : Option Addr) (pn pc : Nat) (pos : List Int) (x : Port) (hx : x.wf) (ka kb : Int) (l1 : 0 ≤ ka) (u1 : ka ≤ 255) (l2 : 0 ≤ kb) (u2 : kb ≤ 255) (h : PlanAt w pv p) (hr : Hid (Ints w pa pn pos)) :
    Calls Try.prog 7 #[pv.val p, .slice pa pn pc, x.val, .int .u8 ka, .int .u8 kb] w fun en w' => en = .returned (.bool true) ∧ Below w.heap.size w w' := by
  obtain ⟨ae, ne, ce, aj, nj, cj, as_, ns, cs, al, nl, cl, lv⟩ := pv
  have hP := Lib.hid h
  have HBa := Lib.hid ((pbox_new w ⟨ae, ne, ce, aj, nj, cj, as_, ns, cs, al, nl, cl, lv⟩ p).alloc (.cells #[.int .i64 x.e, .int .i64 x.n] 30))
  have Hba := Lib.hid (below_new2 w (.cells #[.slice ae ne ce, .slice aj nj cj, .slice as_ ns cs, .slice al nl cl, .int .i64 p.top, .int .i64 p.brake, .int .i64 p.margin, .int .i64 p.throw, .bool p.hard] 27) (.cells #[.int .i64 x.e, .int .i64 x.n] 30))
  have HXa := Lib.hid (PortBox.new (w.alloc (.cells #[.slice ae ne ce, .slice aj nj cj, .slice as_ ns cs, .slice al nl cl, .int .i64 p.top, .int .i64 p.brake, .int .i64 p.margin, .int .i64 p.throw, .bool p.hard] 27)) (b := w.heap.size + 1) (by simp) x 30)
  have K := Lib.hid (known5_any ((w.alloc (.cells #[.slice ae ne ce, .slice aj nj cj, .slice as_ ns cs, .slice al nl cl, .int .i64 p.top, .int .i64 p.brake, .int .i64 p.margin, .int .i64 p.throw, .bool p.hard] 27)).alloc (.cells #[.int .i64 x.e, .int .i64 x.n] 30)))
  have HF := Lib.hid (fun (u : World) (hb : Below w.heap.size w u) => finex_l (w := u) (hP.out.below hb))
  clear h
  dsimp only [PV.val, Port.val]
  obtain ⟨_, c0, c1, c2, c3, c4, c5, c6, c7, c8⟩ := HBa.out
  dsimp only at c0 c1 c2 c3
  obtain ⟨_, x0, x1, _⟩ := HXa.out
  cases hf : fine p with
  | false =>
    rw [hf] at HF
    clear hf
    go_enter Try.func7, Try.ntmps7
    go_wp2_with fail
    refine (K.out).mono ?_
    rintro e w1 ⟨rfl, hbx⟩
    have HB1 := Lib.hid (HBa.out.below hbx)
    have HX1 := Lib.hid (HXa.out.below hbx)
    have Hb1 := Lib.hid (below_step Hba.out hbx Hba.out.size)
    clear hbx c0 c1 c2 c3 c4 c5 c6 c7 c8 x0 x1
    obtain ⟨_, c0, c1, c2, c3, c4, c5, c6, c7, c8⟩ := HB1.out
    dsimp only at c0 c1 c2 c3
    obtain ⟨_, x0, x1, _⟩ := HX1.out
    clear K
    go_wp2_with fail
    refine (HF.out w1 Hb1.out).mono ?_
    rintro e w2 ⟨rfl, hbx⟩
    have HB2 := Lib.hid (HB1.out.below hbx)
    have HX2 := Lib.hid (HX1.out.below hbx)
    have Hb2 := Lib.hid (below_step Hb1.out hbx Hb1.out.size)
    clear hbx c0 c1 c2 c3 c4 c5 c6 c7 c8 x0 x1
    obtain ⟨_, c0, c1, c2, c3, c4, c5, c6, c7, c8⟩ := HB2.out
    dsimp only at c0 c1 c2 c3
    obtain ⟨_, x0, x1, _⟩ := HX2.out
    go_wp2_with fail
    go_ret
    exact ⟨rfl, Hb2.out⟩
  | true =>
    rw [hf] at HF
    have HM := Lib.hid (fun (u : World) (hb : Below w.heap.size w u) => made_l (w := u) hf (hP.out.below hb))
    have Hok := Lib.hid (few_ok hP.out (fine_few hf).1)
    have Hc := Lib.hid (fine_few hf).2
    have G := Lib.hid (good_of (fine_few hf).2)
    clear hf
    by_cases hq : 100 < pn
    · have q9 : decide ((100 : Int) < (pn : Int)) = true := by simp; omega
      go_enter Try.func7, Try.ntmps7
      go_wp2_with fail
      refine (K.out).mono ?_
      rintro e w1 ⟨rfl, hbx⟩
      have HB1 := Lib.hid (HBa.out.below hbx)
      have HX1 := Lib.hid (HXa.out.below hbx)
      have Hb1 := Lib.hid (below_step Hba.out hbx Hba.out.size)
      clear hbx c0 c1 c2 c3 c4 c5 c6 c7 c8 x0 x1
      obtain ⟨_, c0, c1, c2, c3, c4, c5, c6, c7, c8⟩ := HB1.out
      dsimp only at c0 c1 c2 c3
      obtain ⟨_, x0, x1, _⟩ := HX1.out
      clear K
      go_wp2_with fail
      refine (HF.out w1 Hb1.out).mono ?_
      rintro e w2 ⟨rfl, hbx⟩
      have HB2 := Lib.hid (HB1.out.below hbx)
      have HX2 := Lib.hid (HX1.out.below hbx)
      have Hb2 := Lib.hid (below_step Hb1.out hbx Hb1.out.size)
      clear hbx c0 c1 c2 c3 c4 c5 c6 c7 c8 x0 x1
      obtain ⟨_, c0, c1, c2, c3, c4, c5, c6, c7, c8⟩ := HB2.out
      dsimp only at c0 c1 c2 c3
      obtain ⟨_, x0, x1, _⟩ := HX2.out
      go_wp2_with fail
      go_ret
      exact ⟨rfl, Hb2.out⟩
    have q9 : decide ((100 : Int) < (pn : Int)) = false := by simp; omega
    go_enter Try.func7, Try.ntmps7
    go_wp2_with fail
    refine (K.out).mono ?_
    rintro e w1 ⟨rfl, hbx⟩
    have HB1 := Lib.hid (HBa.out.below hbx)
    have HX1 := Lib.hid (HXa.out.below hbx)
    have Hb1 := Lib.hid (below_step Hba.out hbx Hba.out.size)
    clear hbx c0 c1 c2 c3 c4 c5 c6 c7 c8 x0 x1
    obtain ⟨_, c0, c1, c2, c3, c4, c5, c6, c7, c8⟩ := HB1.out
    dsimp only at c0 c1 c2 c3
    obtain ⟨_, x0, x1, _⟩ := HX1.out
    clear K
    go_wp2_with fail
    refine (HF.out w1 Hb1.out).mono ?_
    rintro e w2 ⟨rfl, hbx⟩
    have HB2 := Lib.hid (HB1.out.below hbx)
    have HX2 := Lib.hid (HX1.out.below hbx)
    have Hb2 := Lib.hid (below_step Hb1.out hbx Hb1.out.size)
    clear hbx c0 c1 c2 c3 c4 c5 c6 c7 c8 x0 x1
    obtain ⟨_, c0, c1, c2, c3, c4, c5, c6, c7, c8⟩ := HB2.out
    dsimp only at c0 c1 c2 c3
    obtain ⟨_, x0, x1, _⟩ := HX2.out
    go_wp2_with fail
    refine (HM.out w2 Hb2.out).mono ?_
    rintro e w3 ⟨b, rfl, hbb, hn, hbx⟩
    have HB3 := Lib.hid (HB2.out.below hbx)
    have HX3 := Lib.hid (HX2.out.below hbx)
    have Hb3 := Lib.hid (below_step Hb2.out hbx Hb2.out.size)
    have HN3 := Lib.hid hn
    have hbb := Nat.le_trans Hb2.out.size hbb
    clear hbx hn HF HM c0 c1 c2 c3 c4 c5 c6 c7 c8 x0 x1
    obtain ⟨_, c0, c1, c2, c3, c4, c5, c6, c7, c8⟩ := HB3.out
    dsimp only at c0 c1 c2 c3
    obtain ⟨_, x0, x1, _⟩ := HX3.out
    have Hr3 := Lib.hid (hr.out.below Hb3.out)
    have D3 := Lib.hid (Below.refl w3.heap.size w3)
    clear q9 hr
    have hwr9 : IntKind.i64.wrap (ka + kb) = ka + kb := IntWalk.i64_in _ (by omega)
    go_wp2_with fail
    have hj := run_join8 l1 u1 l2 u2 p pos x
    obtain ⟨f, hf⟩ : ∃ f, f = lastOf x (run p pos x ka).1 := ⟨_, rfl⟩
    have hfw : f.wf := by rw [hf]; exact last_wf G.out hx ka
    rw [← hf] at hj
    obtain ⟨A, hA⟩ : ∃ A, A = run p pos x ka := ⟨_, rfl⟩
    obtain ⟨B, hB⟩ : ∃ B, B = run p pos x (ka + kb) := ⟨_, rfl⟩
    have hAl : A.1.length ≤ 1000 := by rw [hA]; exact run_le _ _ _ _
    have hBl : B.1.length ≤ 1000 := by rw [hB]; exact run_le _ _ _ _
    have C1 := Lib.hid (fun (u : World) (hb : Below w3.heap.size w3 u) => nrun_any u b p (HN3.out.below hb) pa pn pc pos (Lib.hid (Hr3.out.below hb)) x hx ka)
    have C2 := Lib.hid (fun (u : World) (hb : Below w3.heap.size w3 u) => nrun_any u b p (HN3.out.below hb) pa pn pc pos (Lib.hid (Hr3.out.below hb)) x hx (ka + kb))
    have C3 := Lib.hid (fun (u : World) (hb : Below w3.heap.size w3 u) => nrun_any u b p (HN3.out.below hb) pa pn pc pos (Lib.hid (Hr3.out.below hb)) f hfw kb)
    rw [← hA] at C1 hj hf
    rw [← hB] at C2 hj
    clear hA hB
    obtain ⟨C, hC⟩ : ∃ C, C = run p pos f kb := ⟨_, rfl⟩
    have hCl : C.1.length ≤ 1000 := by rw [hC]; exact run_le _ _ _ _
    rw [← hC] at C3 hj
    clear hC
    dsimp only [Port.val] at C1 C2 C3
    obtain ⟨A1, A2⟩ := A
    dsimp only at C1 hj hf hAl
    by_cases e5 : A2 = 5
    · rw [if_neg (by simpa using e5)] at hj
      subst hj
      subst e5
      dsimp only at C2 hBl
      have ma := metres_bound Hc.out A1
      have mc := metres_bound Hc.out C.1
      have hmw : IntKind.i64.wrap (metres p A1 + metres p C.1) = metres p A1 + metres p C.1 := IntWalk.i64_in _ (by omega)
      have M1 := Lib.hid (fun (u : World) (hb : Below w3.heap.size w3 u) (a : Option Addr) (n c : Nat) (hr : Row 2 encPort u a n A1) => nmetres_any u b p (HN3.out.below hb) a n c A1 (Lib.hid hr) (by have := hr.len; omega))
      have M2 := Lib.hid (fun (u : World) (hb : Below w3.heap.size w3 u) (a : Option Addr) (n c : Nat) (hr : Row 2 encPort u a n C.1) => nmetres_any u b p (HN3.out.below hb) a n c C.1 (Lib.hid hr) (by have := hr.len; omega))
      have M3 := Lib.hid (fun (u : World) (hb : Below w3.heap.size w3 u) (a : Option Addr) (n c : Nat) (hr : Row 2 encPort u a n (A1 ++ C.1)) => nmetres_any u b p (HN3.out.below hb) a n c (A1 ++ C.1) (Lib.hid hr) (by have := hr.len; omega))
      rw [metres_append] at M3
      clear ma mc
      refine (C1.out _ D3.out).mono ?_
      rintro en w4 ⟨ra, rn, rc, rfl, hrow, hrcR, hbx⟩
      have R4_ := Lib.hid hrow
      have hlenR := hrow.len
      clear hrow
      clear c0 c1 c2 c3 c4 c5 c6 c7 c8 x0 x1
      have D4 := Lib.hid (below_step D3.out hbx D3.out.size)
      clear hbx
      obtain ⟨_, c0, c1, c2, c3, c4, c5, c6, c7, c8⟩ := (HB3.out.below D4.out)
      dsimp only at c0 c1 c2 c3
      obtain ⟨_, x0, x1, _⟩ := (HX3.out.below D4.out)
      go_wp2_with fail
      refine (C2.out _ D4.out).mono ?_
      rintro en w5 ⟨sa, sn, sc, rfl, hrow, hrcS, hbx⟩
      have S5_ := Lib.hid hrow
      have hlenS := hrow.len
      clear hrow
      clear c0 c1 c2 c3 c4 c5 c6 c7 c8 x0 x1
      have D5 := Lib.hid (below_step D4.out hbx D4.out.size)
      have R5_ := Lib.hid (R4_.out.below hbx)
      clear hbx
      obtain ⟨_, c0, c1, c2, c3, c4, c5, c6, c7, c8⟩ := (HB3.out.below D5.out)
      dsimp only at c0 c1 c2 c3
      obtain ⟨_, x0, x1, _⟩ := (HX3.out.below D5.out)
      by_cases h0 : rn = 0
      · subst h0
        obtain rfl : A1 = [] := List.eq_nil_of_length_eq_zero hlenR
        have hfx : f = x := by rw [hf]; rfl
        subst hfx
        clear hf
        go_wp2_with fail
        refine name_calls fun w6 hw => ?_
        have hbx : Below w5.heap.size w5 w6 := by rw [hw]; exact below_new _ _
        have D6 := Lib.hid (below_step D5.out hbx D5.out.size)
        have R6_ := Lib.hid (R5_.out.below hbx)
        have S6_ := Lib.hid (S5_.out.below hbx)
        clear hw hbx c0 c1 c2 c3 c4 c5 c6 c7 c8 x0 x1
        refine (C3.out _ D6.out).mono ?_
        rintro en w7 ⟨ta, tn, tc, rfl, hrow, hrcT, hbx⟩
        have T7_ := Lib.hid hrow
        have hlenT := hrow.len
        clear hrow
        have D7 := Lib.hid (below_step D6.out hbx D6.out.size)
        have R7_ := Lib.hid (R6_.out.below hbx)
        have S7_ := Lib.hid (S6_.out.below hbx)
        clear hbx
        have hlA := hlenR
        have hlT := hlenT
        have o7 : (w7.alloc (.cells #[] 30)).ownsRow w7.heap.size 30 2 (.slice (some ⟨w7.heap.size, 0, none⟩) 0 0) 0 (([] : List Port).flatMap encPort) := lit_ownJ (Nat.le_refl _) rfl
        have q8 := run_app (α := Port) (sz := 2) (enc := encPort) (fun _ => rfl) one_port (P := Try.prog) (w7.alloc (.cells #[] 30)) 42 42 w7.heap.size 30 (.agg #[.int .i64 0, .int .i64 0]) 16 Try.underlying42 info_port rfl (by decide) _ 0 [] o7 ra 0 rc [] (R7_.out.below (below_new w7 (.cells #[] 30))) hrcR (by simp only [maxLen]; omega) (by omega) (by simp <;> omega)
        obtain ⟨v8, w8, r8, o8, g8, _, _⟩ := q8
        have o8 : w8.ownsRow w7.heap.size 30 2 v8 0 (([] : List Port).flatMap encPort) := by simpa using o8
        have hb8 : Below w7.heap.size w7 w8 := (below_new w7 (.cells #[] 30)).grown g8 (by simp) (fun k hk => by cases hk; exact Nat.le_refl _)
        obtain ⟨a8, c8, rfl, _, hc8⟩ := own_slice o8
        have q9 := run_app (α := Port) (sz := 2) (enc := encPort) (fun _ => rfl) one_port (P := Try.prog) w8 42 42 w7.heap.size 30 (.agg #[.int .i64 0, .int .i64 0]) 16 Try.underlying42 info_port rfl (by decide) _ 0 [] o8 ta tn tc C.1 (T7_.out.below hb8) hrcT (by simp only [maxLen]; omega) (by omega) hb8.size
        obtain ⟨n9, hn9⟩ : ∃ n9, n9 = 0 + tn := ⟨_, rfl⟩
        rw [← hn9] at q9
        clear hn9
        obtain ⟨v9, w9, r9, o9, g9, _, _⟩ := q9
        have hb9 : Below w7.heap.size w7 w9 := hb8.grown g9 hb8.size (fun k hk => (o8.lt k hk).1)
        obtain ⟨a9, c9, rfl, _, _⟩ := own_slice o9
        have U9 := Lib.hid (owns_row (sz := 2) (enc := encPort) (fun _ => rfl) o9 (by omega)).1
        have S9 := Lib.hid (S7_.out.below hb9)
        have R9 := Lib.hid (R7_.out.below hb9)
        have T9 := Lib.hid (T7_.out.below hb9)
        have D9 := Lib.hid (below_step D7.out hb9 D7.out.size)
        clear o7 o8 o9 g8 g9 hb8 hb9 hc8
        go_wp2_with (at_builtin; first | refine wpList_append_guarded _ rfl _ _ _ _ rfl _ _ rfl rfl _ _ r8 ?_ | refine wpList_append_guarded _ rfl _ _ _ _ rfl _ _ rfl rfl _ _ r9 ?_)

        refine (samep_b U9.out S9.out rfl).mono ?_
        rintro en wa ⟨rfl, hbx⟩
        have Da := Lib.hid (below_step D9.out hbx D9.out.size)
        have Ra := Lib.hid (R9.out.below hbx)
        have Ta := Lib.hid (T9.out.below hbx)
        have Sa := Lib.hid (S9.out.below hbx)
        clear hbx r8 r9
        go_wp2_with fail
        refine (M1.out _ Da.out _ _ _ Ra.out).mono ?_
        rintro en wb ⟨rfl, hbx⟩
        have Db := Lib.hid (below_step Da.out hbx Da.out.size)
        have Tb := Lib.hid (Ta.out.below hbx)
        have Sb := Lib.hid (Sa.out.below hbx)
        clear hbx
        go_wp2_with fail
        refine (M2.out _ Db.out _ _ _ Tb.out).mono ?_
        rintro en wc ⟨rfl, hbx⟩
        have Dc := Lib.hid (below_step Db.out hbx Db.out.size)
        have Sc := Lib.hid (Sb.out.below hbx)
        clear hbx
        go_wp2_with fail
        refine (M3.out _ Dc.out _ _ _ Sc.out).mono ?_
        rintro en wd ⟨rfl, hbx⟩
        have Dd := Lib.hid (below_step Dc.out hbx Dc.out.size)
        clear hbx
        go_wp2_with fail
        go_ret
        exact ⟨ret_bool (by simp), below_step Hb3.out Dd.out Hb3.out.size⟩
      · obtain ⟨m, rfl⟩ : ∃ m, rn = m + 1 := ⟨rn - 1, by omega⟩
        have hz : A1[m]? = some f := by
          rw [hf]; unfold lastOf
          rw [List.getLast?_eq_getElem?, hlenR, Nat.add_sub_cancel, List.getElem?_eq_getElem (by omega)]; rfl
        have hbd := R5_.out.bnd
        obtain ⟨rb, roff, rfl, hrb, g1, g2⟩ := R5_.out.port hz
        have g1 := ((below_new w5 (.cells #[.int .i64 x.e, .int .i64 x.n] 30)).cell (p := ⟨rb, _, none⟩) hrb).trans g1
        have g2 := ((below_new w5 (.cells #[.int .i64 x.e, .int .i64 x.n] 30)).cell (p := ⟨rb, _, none⟩) hrb).trans g2
        have hw1 : IntKind.i64.wrap (((m + 1 : Nat) : Int) - 1) = (m : Int) := by rw [show ((m + 1 : Nat) : Int) - 1 = (m : Int) by omega]; exact IntWalk.i64_in _ (by omega)
        have hw2 : IntKind.i64.wrap ((m : Int) + 1 - 1) = (m : Int) := by rw [show (m : Int) + 1 - 1 = (m : Int) by omega]; exact IntWalk.i64_in _ (by omega)
        clear hz hf h0
        go_wp2_with fail
        refine name_calls fun w6 hw => ?_
        have hbx : Below w5.heap.size w5 w6 := by rw [hw]; first | exact below_new _ _ | exact below_set2 (below_new _ _) (Nat.le_refl _) _ _
        have D6 := Lib.hid (below_step D5.out hbx D5.out.size)
        have R6_ := Lib.hid (R5_.out.below hbx)
        have S6_ := Lib.hid (S5_.out.below hbx)
        clear hw hbx c0 c1 c2 c3 c4 c5 c6 c7 c8 x0 x1 g1 g2 hw1 hw2
        refine (C3.out _ D6.out).mono ?_
        rintro en w7 ⟨ta, tn, tc, rfl, hrow, hrcT, hbx⟩
        have T7_ := Lib.hid hrow
        have hlenT := hrow.len
        clear hrow
        have D7 := Lib.hid (below_step D6.out hbx D6.out.size)
        have R7_ := Lib.hid (R6_.out.below hbx)
        have S7_ := Lib.hid (S6_.out.below hbx)
        clear hbx
        have hlA := hlenR
        have hlT := hlenT
        have o7 : (w7.alloc (.cells #[] 30)).ownsRow w7.heap.size 30 2 (.slice (some ⟨w7.heap.size, 0, none⟩) 0 0) 0 (([] : List Port).flatMap encPort) := lit_ownJ (Nat.le_refl _) rfl
        have q8 := run_app (α := Port) (sz := 2) (enc := encPort) (fun _ => rfl) one_port (P := Try.prog) (w7.alloc (.cells #[] 30)) 42 42 w7.heap.size 30 (.agg #[.int .i64 0, .int .i64 0]) 16 Try.underlying42 info_port rfl (by decide) _ 0 [] o7 (some ⟨rb, roff, none⟩) (m + 1) rc A1 (R7_.out.below (below_new w7 (.cells #[] 30))) hrcR (by simp only [maxLen]; omega) (by omega) (by simp <;> omega)
        obtain ⟨v8, w8, r8, o8, g8, _, _⟩ := q8
        have o8 : w8.ownsRow w7.heap.size 30 2 v8 (m + 1) ((A1 : List Port).flatMap encPort) := by simpa using o8
        have hb8 : Below w7.heap.size w7 w8 := (below_new w7 (.cells #[] 30)).grown g8 (by simp) (fun k hk => by cases hk; exact Nat.le_refl _)
        obtain ⟨a8, c8, rfl, _, hc8⟩ := own_slice o8
        have q9 := run_app (α := Port) (sz := 2) (enc := encPort) (fun _ => rfl) one_port (P := Try.prog) w8 42 42 w7.heap.size 30 (.agg #[.int .i64 0, .int .i64 0]) 16 Try.underlying42 info_port rfl (by decide) _ (m + 1) A1 o8 ta tn tc C.1 (T7_.out.below hb8) hrcT (by simp only [maxLen]; omega) (by omega) hb8.size
        obtain ⟨n9, hn9⟩ : ∃ n9, n9 = (m + 1) + tn := ⟨_, rfl⟩
        rw [← hn9] at q9
        clear hn9
        obtain ⟨v9, w9, r9, o9, g9, _, _⟩ := q9
        have hb9 : Below w7.heap.size w7 w9 := hb8.grown g9 hb8.size (fun k hk => (o8.lt k hk).1)
        obtain ⟨a9, c9, rfl, _, _⟩ := own_slice o9
        have U9 := Lib.hid (owns_row (sz := 2) (enc := encPort) (fun _ => rfl) o9 (by omega)).1
        have S9 := Lib.hid (S7_.out.below hb9)
        have R9 := Lib.hid (R7_.out.below hb9)
        have T9 := Lib.hid (T7_.out.below hb9)
        have D9 := Lib.hid (below_step D7.out hb9 D7.out.size)
        clear o7 o8 o9 g8 g9 hb8 hb9 hc8
        go_wp2_with (at_builtin; first | refine wpList_append_guarded _ rfl _ _ _ _ rfl _ _ rfl rfl _ _ r8 ?_ | refine wpList_append_guarded _ rfl _ _ _ _ rfl _ _ rfl rfl _ _ r9 ?_)

        refine (samep_b U9.out S9.out rfl).mono ?_
        rintro en wa ⟨rfl, hbx⟩
        have Da := Lib.hid (below_step D9.out hbx D9.out.size)
        have Ra := Lib.hid (R9.out.below hbx)
        have Ta := Lib.hid (T9.out.below hbx)
        have Sa := Lib.hid (S9.out.below hbx)
        clear hbx r8 r9
        go_wp2_with fail
        refine (M1.out _ Da.out _ _ _ Ra.out).mono ?_
        rintro en wb ⟨rfl, hbx⟩
        have Db := Lib.hid (below_step Da.out hbx Da.out.size)
        have Tb := Lib.hid (Ta.out.below hbx)
        have Sb := Lib.hid (Sa.out.below hbx)
        clear hbx
        go_wp2_with fail
        refine (M2.out _ Db.out _ _ _ Tb.out).mono ?_
        rintro en wc ⟨rfl, hbx⟩
        have Dc := Lib.hid (below_step Db.out hbx Db.out.size)
        have Sc := Lib.hid (Sb.out.below hbx)
        clear hbx
        go_wp2_with fail
        refine (M3.out _ Dc.out _ _ _ Sc.out).mono ?_
        rintro en wd ⟨rfl, hbx⟩
        have Dd := Lib.hid (below_step Dc.out hbx Dc.out.size)
        clear hbx
        go_wp2_with fail
        go_ret
        exact ⟨ret_bool (by simp), below_step Hb3.out Dd.out Hb3.out.size⟩
    · rw [if_pos (by simpa using e5)] at hj
      subst hj
      have q0 : (A2 != 5) = true := by rw [bne_iff_ne]; exact e5
      clear e5 C3 hf
      refine (C1.out _ D3.out).mono ?_
      rintro en w4 ⟨ra, rn, rc, rfl, hrow, hrcR, hbx⟩
      have R4_ := Lib.hid hrow
      have hlenR := hrow.len
      clear hrow
      clear c0 c1 c2 c3 c4 c5 c6 c7 c8 x0 x1
      have D4 := Lib.hid (below_step D3.out hbx D3.out.size)
      clear hbx
      obtain ⟨_, c0, c1, c2, c3, c4, c5, c6, c7, c8⟩ := (HB3.out.below D4.out)
      dsimp only at c0 c1 c2 c3
      obtain ⟨_, x0, x1, _⟩ := (HX3.out.below D4.out)
      go_wp2_with fail
      refine (C2.out _ D4.out).mono ?_
      rintro en w5 ⟨sa, sn, sc, rfl, hrow, hrcS, hbx⟩
      have S5_ := Lib.hid hrow
      have hlenS := hrow.len
      clear hrow
      clear c0 c1 c2 c3 c4 c5 c6 c7 c8 x0 x1
      have D5 := Lib.hid (below_step D4.out hbx D4.out.size)
      have R5_ := Lib.hid (R4_.out.below hbx)
      clear hbx
      obtain ⟨_, c0, c1, c2, c3, c4, c5, c6, c7, c8⟩ := (HB3.out.below D5.out)
      dsimp only at c0 c1 c2 c3
      obtain ⟨_, x0, x1, _⟩ := (HX3.out.below D5.out)
      go_wp2_with fail
      refine (samep_b R5_.out S5_.out rfl).mono ?_
      rintro en w6 ⟨rfl, hb6⟩
      go_wp2_with fail
      go_ret
      exact ⟨rfl, below_step Hb3.out (below_step D5.out hb6 D5.out.size) Hb3.out.size⟩
set_option maxRecDepth 100000 in
theorem walkJoins_lifted (os : Os) (started : os.Started) (H : Type) (enc : TypeId × Value → H) :
    ReturnsInHanded {} Try.checked os 7 .any (Rows.walkJoinsSpec.pre6 enc Try.prog Try.f7 Rows.walkJoinsRow.domain false) (Rows.walkJoinsSpec.post enc Try.prog Try.f7 false true false false) := by
  refine returnsInHanded_of_change (C := Try.checked) own started (by kernel_rfl) Try.func7
    (ChangeSpec.witness6 (enc := enc) (C := Try.checked) false ⟨#[], #[.agg #[.slice none 0 0, .slice none 0 0, .slice none 0 0, .slice none 0 0, .int .i64 0, .int .i64 0, .int .i64 0, .int .i64 0, .bool false], .slice none 0 0, .agg #[.int .i64 0, .int .i64 0], .int .u8 0, .int .u8 0], []⟩ 8 (by kernel_rfl) (by kernel_rfl) (by kernel_rfl) (by kernel_rfl)) ?_
  intro W base args ds gs before hval0 hW hcnd _
  have hval : ∀ (j : Nat) t v, Try.f7.params[j]? = some t → args[j]? = some v → Value.okWide Try.prog W .any base t v := hval0
  have hW' := hW
  obtain ⟨p, q, hA0, hV, rfl, hfz, hnd⟩ := hW
  have hA : DataW.TrodAll enc Try.prog W 0 (fun _ => true) true Try.f7.params.toList args.toList ds p := hA0
  rw [Try.params7] at hA hval
  obtain ⟨v0, vs0, d0, ds0, p0, q0, hargs, rfl, rfl, k0, r0⟩ := trodAll_cons hA
  obtain ⟨v1, vs1, d1, ds1, p1, q1, rfl, rfl, rfl, k1, r1⟩ := trodAll_cons r0
  obtain ⟨v2, vs2, d2, ds2, p2, q2, rfl, rfl, rfl, k2, r2⟩ := trodAll_cons r1
  obtain ⟨v3, vs3, d3, ds3, p3, q3, rfl, rfl, rfl, k3, r3⟩ := trodAll_cons r2
  obtain ⟨v4, vs4, d4, ds4, p4, q4, rfl, rfl, rfl, k4, r4⟩ := trodAll_cons r3
  obtain ⟨rfl, rfl, rfl⟩ := trodAll_nil r4
  obtain rfl : args = #[v0, v1, v2, v3, v4] := by cases args; simp_all
  obtain ⟨rfl, rfl⟩ := trodVars_none hV
  have lt0 : ∀ x ∈ p0, x.block < W.heap.size := by obtain ⟨m, hm⟩ := k0; exact DataW.trod_lt m _ _ _ hm
  have hv0 := hval 0 27 v0 rfl rfl
  have lt1 : ∀ x ∈ p1, x.block < W.heap.size := by obtain ⟨m, hm⟩ := k1; exact DataW.trod_lt m _ _ _ hm
  have hv1 := hval 1 28 v1 rfl rfl
  have lt2 : ∀ x ∈ p2, x.block < W.heap.size := by obtain ⟨m, hm⟩ := k2; exact DataW.trod_lt m _ _ _ hm
  have hv2 := hval 2 30 v2 rfl rfl
  have lt3 : ∀ x ∈ p3, x.block < W.heap.size := by obtain ⟨m, hm⟩ := k3; exact DataW.trod_lt m _ _ _ hm
  have hv3 := hval 3 5 v3 rfl rfl
  have lt4 : ∀ x ∈ p4, x.block < W.heap.size := by obtain ⟨m, hm⟩ := k4; exact DataW.trod_lt m _ _ _ hm
  have hv4 := hval 4 5 v4 rfl rfl
  have fin : Calls Try.prog 7 #[v0, v1, v2, v3, v4] W (fun e W' => e = .returned (.bool true) ∧ Below W.heap.size W W') := by
    obtain ⟨pv, p, rfl, hp⟩ := open_plan hv0 k0
    obtain ⟨pa, pn, pc, pos, rfl, hr, _, _, _⟩ := open_Ints hv1 k1
    obtain ⟨y, rfl, y0⟩ := open_port hv2 k2
    obtain ⟨x0, rfl, a0, a1⟩ := open_u8 hv3 k3
    obtain ⟨x1, rfl, b0, b1⟩ := open_u8 hv4 k4
    exact lawJoins_any W pv p pa pn pc pos y y0 x0 x1 a0 a1 b0 b1 hp (Lib.hid hr)
  clear hA0 hval0
  refine fin.mono fun e W' ⟨he, bel⟩ => ?_
  subst he
  exact ⟨_, rfl, _, _, _, [], _, [], hW', trodAll_mk1 (shut_bool Try.underlying4 _), (trodAll_cons_mk (Below.trod laidOut (by kernel_rfl) (of_decide_eq_true (by kernel_rfl)) k0 bel lt0) (trodAll_cons_mk (Below.trod laidOut (by kernel_rfl) (of_decide_eq_true (by kernel_rfl)) k1 bel lt1) (trodAll_cons_mk (Below.trod laidOut (by kernel_rfl) (of_decide_eq_true (by kernel_rfl)) k2 bel lt2) (trodAll_cons_mk (Below.trod laidOut (by kernel_rfl) (of_decide_eq_true (by kernel_rfl)) k3 bel lt3) (trodAll_cons_mk (Below.trod laidOut (by kernel_rfl) (of_decide_eq_true (by kernel_rfl)) k4 bel lt4) trodAll_mk0))))), rfl, bel.frame _, fun h => by cases h⟩

/-- THE STATEMENT -/
theorem walkJoins_holds : Rows.WalkJoinsSaid :=
  OpenClaim.holds_of_wide 7 Try.f7 rfl rfl rfl rfl rfl rfl rfl ⟨rfl, rfl, rfl, rfl, rfl⟩ rfl rfl rfl rfl rfl (by kernel_rfl) Try.func7 (by kernel_rfl)
    (of_decide_eq_true (by kernel_rfl)) (by unfold Func.isWrapper; first | (rw [if_pos (by decide +kernel)]; kernel_rfl) | (rw [if_neg (by decide +kernel)]; exact ⟨rfl, rfl⟩))
    (fun os started H enc _ => walkJoins_lifted os started H enc)
end Go.Proofs.Ytackcfoplhhnbaa
