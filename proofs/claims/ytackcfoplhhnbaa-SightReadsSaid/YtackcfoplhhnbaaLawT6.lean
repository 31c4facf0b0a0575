/- SightReads: for every input the law returns true. No condition. -/
import Derived.Test.YtackcfoplhhnbaaKnown6
set_option maxRecDepth 1000000
namespace Go.Proofs.Ytackcfoplhhnbaa
open Go.ChangeShapes Go.WideShapes Go.ChangeAt Go.RowKit Go.Sort

set_option maxHeartbeats 4000000 in
theorem lawReads_any (w : World) (pv : PV) (p : Plan) (pa : Option Addr) (pn pc : Nat) (pos : List Int) (x : Port) (hx : x.wf) (h : PlanAt w pv p) (hr : Hid (Ints w pa pn pos)) :
    Calls Try.prog 15 #[pv.val p, .slice pa pn pc, x.val] w fun en w' => en = .returned (.bool true) ∧ Below w.heap.size w w' := by
  obtain ⟨ae, ne, ce, aj, nj, cj, as_, ns, cs, al, nl, cl, lv⟩ := pv
  have hP := Lib.hid h
  have HBa := Lib.hid ((pbox_new w ⟨ae, ne, ce, aj, nj, cj, as_, ns, cs, al, nl, cl, lv⟩ p).alloc (.cells #[.int .i64 x.e, .int .i64 x.n] 30))
  have Hba := Lib.hid (below_new2 w (.cells #[.slice ae ne ce, .slice aj nj cj, .slice as_ ns cs, .slice al nl cl, .int .i64 p.top, .int .i64 p.brake, .int .i64 p.margin, .int .i64 p.throw, .bool p.hard] 27) (.cells #[.int .i64 x.e, .int .i64 x.n] 30))
  have HXa := Lib.hid (PortBox.new (w.alloc (.cells #[.slice ae ne ce, .slice aj nj cj, .slice as_ ns cs, .slice al nl cl, .int .i64 p.top, .int .i64 p.brake, .int .i64 p.margin, .int .i64 p.throw, .bool p.hard] 27)) (b := w.heap.size + 1) (by simp) x 30)
  have K := Lib.hid (known6_any ((w.alloc (.cells #[.slice ae ne ce, .slice aj nj cj, .slice as_ ns cs, .slice al nl cl, .int .i64 p.top, .int .i64 p.brake, .int .i64 p.margin, .int .i64 p.throw, .bool p.hard] 27)).alloc (.cells #[.int .i64 x.e, .int .i64 x.n] 30)))
  have HF := Lib.hid (fun (u : World) (hb : Below w.heap.size w u) => finex_l (w := u) (hP.out.below hb))
  clear h
  dsimp only [PV.val, Port.val]
  obtain ⟨_, c0, c1, c2, c3, c4, c5, c6, c7, c8⟩ := HBa.out
  dsimp only at c0 c1 c2 c3
  obtain ⟨_, x0, x1, _⟩ := HXa.out
  cases hf : fine p with
  | false =>
    rw [hf] at HF
    clear hf
    go_enter Try.func15, Try.ntmps15
    go_wp2_with fail
    refine (K.out).mono ?_
    rintro e w1 ⟨rfl, hbx⟩
    have HB1 := Lib.hid (HBa.out.below hbx)
    have HX1 := Lib.hid (HXa.out.below hbx)
    have Hb1 := Lib.hid (below_step Hba.out hbx Hba.out.size)
    clear hbx c0 c1 c2 c3 c4 c5 c6 c7 c8 x0 x1
    obtain ⟨_, c0, c1, c2, c3, c4, c5, c6, c7, c8⟩ := HB1.out
    dsimp only at c0 c1 c2 c3
    obtain ⟨_, x0, x1, _⟩ := HX1.out
    clear K
    go_wp2_with fail
    refine (HF.out w1 Hb1.out).mono ?_
    rintro e w2 ⟨rfl, hbx⟩
    have HB2 := Lib.hid (HB1.out.below hbx)
    have HX2 := Lib.hid (HX1.out.below hbx)
    have Hb2 := Lib.hid (below_step Hb1.out hbx Hb1.out.size)
    clear hbx c0 c1 c2 c3 c4 c5 c6 c7 c8 x0 x1
    obtain ⟨_, c0, c1, c2, c3, c4, c5, c6, c7, c8⟩ := HB2.out
    dsimp only at c0 c1 c2 c3
    obtain ⟨_, x0, x1, _⟩ := HX2.out
    go_wp2_with fail
    go_ret
    exact ⟨rfl, Hb2.out⟩
  | true =>
    rw [hf] at HF
    have HM := Lib.hid (fun (u : World) (hb : Below w.heap.size w u) => made_l (w := u) hf (hP.out.below hb))
    have Hok := Lib.hid (few_ok hP.out (fine_few hf).1)
    have Hc := Lib.hid (fine_few hf).2
    have G := Lib.hid (good_of (fine_few hf).2)
    clear hf
    by_cases hq : 100 < pn
    · have q9 : decide ((100 : Int) < (pn : Int)) = true := by simp; omega
      go_enter Try.func15, Try.ntmps15
      go_wp2_with fail
      refine (K.out).mono ?_
      rintro e w1 ⟨rfl, hbx⟩
      have HB1 := Lib.hid (HBa.out.below hbx)
      have HX1 := Lib.hid (HXa.out.below hbx)
      have Hb1 := Lib.hid (below_step Hba.out hbx Hba.out.size)
      clear hbx c0 c1 c2 c3 c4 c5 c6 c7 c8 x0 x1
      obtain ⟨_, c0, c1, c2, c3, c4, c5, c6, c7, c8⟩ := HB1.out
      dsimp only at c0 c1 c2 c3
      obtain ⟨_, x0, x1, _⟩ := HX1.out
      clear K
      go_wp2_with fail
      refine (HF.out w1 Hb1.out).mono ?_
      rintro e w2 ⟨rfl, hbx⟩
      have HB2 := Lib.hid (HB1.out.below hbx)
      have HX2 := Lib.hid (HX1.out.below hbx)
      have Hb2 := Lib.hid (below_step Hb1.out hbx Hb1.out.size)
      clear hbx c0 c1 c2 c3 c4 c5 c6 c7 c8 x0 x1
      obtain ⟨_, c0, c1, c2, c3, c4, c5, c6, c7, c8⟩ := HB2.out
      dsimp only at c0 c1 c2 c3
      obtain ⟨_, x0, x1, _⟩ := HX2.out
      go_wp2_with fail
      go_ret
      exact ⟨rfl, Hb2.out⟩
    have q9 : decide ((100 : Int) < (pn : Int)) = false := by simp; omega
    go_enter Try.func15, Try.ntmps15
    go_wp2_with fail
    refine (K.out).mono ?_
    rintro e w1 ⟨rfl, hbx⟩
    have HB1 := Lib.hid (HBa.out.below hbx)
    have HX1 := Lib.hid (HXa.out.below hbx)
    have Hb1 := Lib.hid (below_step Hba.out hbx Hba.out.size)
    clear hbx c0 c1 c2 c3 c4 c5 c6 c7 c8 x0 x1
    obtain ⟨_, c0, c1, c2, c3, c4, c5, c6, c7, c8⟩ := HB1.out
    dsimp only at c0 c1 c2 c3
    obtain ⟨_, x0, x1, _⟩ := HX1.out
    clear K
    go_wp2_with fail
    refine (HF.out w1 Hb1.out).mono ?_
    rintro e w2 ⟨rfl, hbx⟩
    have HB2 := Lib.hid (HB1.out.below hbx)
    have HX2 := Lib.hid (HX1.out.below hbx)
    have Hb2 := Lib.hid (below_step Hb1.out hbx Hb1.out.size)
    clear hbx c0 c1 c2 c3 c4 c5 c6 c7 c8 x0 x1
    obtain ⟨_, c0, c1, c2, c3, c4, c5, c6, c7, c8⟩ := HB2.out
    dsimp only at c0 c1 c2 c3
    obtain ⟨_, x0, x1, _⟩ := HX2.out
    go_wp2_with fail
    refine (HM.out w2 Hb2.out).mono ?_
    rintro e w3 ⟨b, rfl, hbb, hn, hbx⟩
    have HB3 := Lib.hid (HB2.out.below hbx)
    have HX3 := Lib.hid (HX2.out.below hbx)
    have Hb3 := Lib.hid (below_step Hb2.out hbx Hb2.out.size)
    have HN3 := Lib.hid hn
    have hbb := Nat.le_trans Hb2.out.size hbb
    clear hbx hn HF HM c0 c1 c2 c3 c4 c5 c6 c7 c8 x0 x1
    obtain ⟨_, c0, c1, c2, c3, c4, c5, c6, c7, c8⟩ := HB3.out
    dsimp only at c0 c1 c2 c3
    obtain ⟨_, x0, x1, _⟩ := HX3.out
    have Hr3 := Lib.hid (hr.out.below Hb3.out)
    have D3 := Lib.hid (Below.refl w3.heap.size w3)
    clear q9 hr
    go_wp2_with fail
    have hp0 := ports_bound Hc.out
    obtain ⟨L, hL⟩ : ∃ L, L = runGo p pos (portsNo p).toNat x := ⟨_, rfl⟩
    have hll : L.1.length ≤ 160 := by have h1 := (run_len p pos (portsNo p).toNat x).1; rw [hL]; omega
    have Hs := Lib.hid (show metSigs p (x :: L.1) = route p pos x by rw [route_run, hL])
    have C1 := Lib.hid (fun (u : World) (hb : Below w3.heap.size w3 u) => nrun_any u b p (HN3.out.below hb) pa pn pc pos (Lib.hid (Hr3.out.below hb)) x hx (portsNo p))
    rw [run_ports_eq Hc.out, ← hL] at C1
    have C3 := Lib.hid (fun (u : World) (hb : Below w3.heap.size w3 u) => nroute_any u b p (HN3.out.below hb) pa pn pc pos (Lib.hid (Hr3.out.below hb)) x hx)
    have NL := Lib.hid (fun (u : World) (hb : Below w3.heap.size w3 u) => nlen_any u b p (HN3.out.below hb))
    have le := Lib.hid (show p.elems.length = ne from hP.out.e.len)
    rw [le.out] at NL
    have hne : ne ≤ 40 := by have := elems_few Hc.out; have := le.out; omega
    have hwfl : ∀ y ∈ x :: L.1, y.wf := by
      intro y hy
      rcases List.mem_cons.1 hy with rfl | hy
      · exact hx
      · rw [hL] at hy; exact port_wf G.out (run_ports G.out hy)
    dsimp only [Port.val] at C1 C3
    clear hL
    obtain ⟨L, en1⟩ := L
    dsimp only at hll Hs C1 hwfl
    obtain ⟨N, hN⟩ : ∃ N, N = portsNo p := ⟨_, rfl⟩
    have HNp := Lib.hid hN
    rw [← hN] at C1 hp0
    clear hN c0 c1 c2 c3 c4 c5 c6 c7 c8 x0 x1
    go_loopg [8, 9] ne (fun k s i wr => ∃ j : Nat, j + k = ne ∧ s = .int .i64 (portsTo p j) ∧ i = .int .i64 j ∧ Below w3.heap.size w3 wr)
    case atStart => exact ⟨0, by omega, by simp [portsTo], rfl, Below.refl _ _⟩
    case round =>
      obtain ⟨j, hk, rfl, rfl, hb⟩ := hrel
      have Hk := Lib.hid hk; clear hk
      have Hb := Lib.hid hb; clear hb
      by_cases hlt : j < ne
      · obtain ⟨z, hz⟩ := get_some le.out hlt
        have HK := Lib.hid (nkind_any wr b p (HN3.out.below Hb.out) (j : Int))
        have Hz := Lib.hid (portsTo_snoc hz)
        have m1 := portsTo_bound p j
        have m2 := ends_nonneg (p.kind (j : Int))
        have hwr : IntKind.i64.wrap (portsTo p j + ends (p.kind (j : Int))) = portsTo p j + ends (p.kind (j : Int)) := IntWalk.i64_in _ (by omega)
        clear hz m1 m2
        go_wp2_with fail
        refine (NL.out _ Hb.out).mono ?_
        rintro en w4 ⟨rfl, rfl⟩
        go_wp2_with fail
        refine HK.out.mono ?_
        rintro en w5 ⟨rfl, hb1⟩
        have Hb1 := Lib.hid (below_step Hb.out hb1 Hb.out.size)
        clear hb1
        go_wp2_with fail
        refine (refends_any _ _).mono ?_
        rintro en w6 ⟨rfl, rfl⟩
        go_wp2_with fail
        go_roundg (gk - 1)
        case measure => have := Hk.out; omega
        case rel => exact ⟨j + 1, by have := Hk.out; omega, by rw [Hz.out], by go_num, Hb1.out⟩
      · have hpt : portsTo p j = N := by rw [HNp.out]; exact portsTo_all (p := p) (j := j) (by have := le.out; omega)
        rw [hpt]
        clear hpt
        have Hrr := Lib.hid (HX3.out.below Hb.out)
        obtain ⟨_, x0, x1, _⟩ := Hrr.out
        go_wp2_with fail
        refine (NL.out _ Hb.out).mono ?_
        rintro en w4 ⟨rfl, rfl⟩
        go_wp2_with fail
        refine (C1.out _ Hb.out).mono ?_
        rintro en w5 ⟨ra, rn, rc, rfl, hrow, hrc, hbx⟩
        have Hb5 := Lib.hid (below_step Hb.out hbx Hb.out.size)
        have hlen : L.length = rn := hrow.len
        clear hbx x0 x1
        have Hx5 := Lib.hid (HX3.out.below Hb5.out)
        obtain ⟨_, x0, x1, _⟩ := Hx5.out
        have o7 := lit_port1 (w := w5) x (Nat.le_refl _) rfl
        have q8 := run_app (α := Port) (sz := 2) (enc := encPort) (fun _ => rfl) one_port (P := Try.prog) (w5.alloc (.cells #[.int .i64 x.e, .int .i64 x.n] 30)) 42 42 w5.heap.size 30 (.agg #[.int .i64 0, .int .i64 0]) 16 Try.underlying42 info_port rfl (by decide) _ 1 [x] o7 ra rn rc L (hrow.below (below_new w5 (.cells #[.int .i64 x.e, .int .i64 x.n] 30))) hrc (by simp only [maxLen]; omega) (by omega) (by simp <;> omega)
        obtain ⟨n9, hn9⟩ : ∃ n9, n9 = 1 + rn := ⟨_, rfl⟩
        rw [← hn9] at q8
        obtain ⟨v8, w8, r8, o8, g8, _, _⟩ := q8
        have hb8 : Below w5.heap.size w5 w8 := (below_new w5 (.cells #[.int .i64 x.e, .int .i64 x.n] 30)).grown g8 (by simp) (fun k hk => by cases hk; exact Nat.le_refl _)
        obtain ⟨a8, c8', rfl, _, _⟩ := own_slice o8
        obtain ⟨LL, hLL⟩ : ∃ LL, LL = x :: L := ⟨_, rfl⟩
        have U8 := Lib.hid (show Row 2 encPort w8 a8 n9 LL by rw [hLL]; exact (owns_row (sz := 2) (enc := encPort) (fun _ => rfl) o8 (by omega)).1)
        rw [← hLL] at Hs hwfl
        have Hb8 := Lib.hid (below_step Hb5.out hb8 Hb5.out.size)
        have ll := Lib.hid U8.out.len
        have hn161 : n9 ≤ 161 := by omega
        have hbn := U8.out.bnd
        clear o7 o8 g8 hb8 hLL hn9 hrow
        have Hx8 := Lib.hid (HX3.out.below Hb8.out)
        obtain ⟨_, z0, z1, _⟩ := Hx8.out
        go_wp2_with (at_builtin; refine Lib.wpList_append_run _ rfl _ _ _ _ rfl _ _ rfl rfl _ _ r8 ?_)
        refine (C3.out _ Hb8.out).mono ?_
        rintro en w9 ⟨sa, sn, sc, rfl, hsow, hsc, hbx⟩
        rw [← Hs.out] at hsow
        have Hb9 := Lib.hid (below_step Hb8.out hbx Hb8.out.size)
        have U9 := Lib.hid (U8.out.below hbx)
        have S9 := Lib.hid hsow
        have ls := Lib.hid hsow.len
        have hsb := hsow.bnd
        have hsl : sn ≤ 161 := by have h1 := met_len p LL; have h2 := ls.out; have h3 := ll.out; omega
        clear hbx hsow x0 x1 z0 z1
        go_wp2_with fail
        go_loopg [13, 14] n9 (fun k q i wr => ∃ (j : Nat) (m : Nat), j + k = n9 ∧ q = .int .i64 m ∧ i = .int .i64 j ∧ Hid (m = (metSigs p (LL.take j)).length) ∧ Below w9.heap.size w9 wr)
        case atStart => exact ⟨0, 0, by omega, rfl, rfl, Lib.hid (by simp [metSigs]), Below.refl _ _⟩
        case round =>
          obtain ⟨j, m, hk, rfl, rfl, hm, hb⟩ := hrel
          have Hk2 := Lib.hid hk; clear hk
          have Hbr := Lib.hid hb; clear hb
          have hmj : m ≤ j := by have h1 := met_len p (LL.take j); have h2 : (LL.take j).length ≤ j := by simp; omega
                                 rw [hm.out]; omega
          by_cases hlt2 : j < n9
          · obtain ⟨y, hy⟩ := get_some ll.out hlt2
            obtain ⟨pb, off, rfl, hpb, g1, g2⟩ := U9.out.port hy
            have g1 := (Hbr.out.cell (p := ⟨pb, _, none⟩) hpb).trans g1
            have g2 := (Hbr.out.cell (p := ⟨pb, _, none⟩) hpb).trans g2
            have hpb2 : pb < wr.heap.size := Nat.lt_of_lt_of_le hpb Hbr.out.size
            have CR := Lib.hid (fun (u : World) (hb : Below w3.heap.size w3 u) => nreads_any u b p (HN3.out.below hb) y (hwfl y (List.mem_of_getElem? hy)))
            dsimp only [Port.val] at CR
            by_cases r0 : 0 ≤ reads p y
            · have hat := met_at hy r0
              rw [← hm.out] at hat
              have hms : m < sn := by have h1 := (List.getElem?_eq_some_iff.1 hat).1; have h2 := ls.out; omega
              obtain ⟨gb, goff, rfl, hgb, ge⟩ := S9.out.int hat
              have Hn := Lib.hid (show m + 1 = (metSigs p (LL.take (j + 1))).length by rw [met_snoc hy, if_pos r0, hm.out]; simp)
              clear hat hy hm
              go_wp2_with fail
              refine (CR.out _ (below_step Hb9.out Hbr.out Hb9.out.size)).mono ?_
              rintro en w10 ⟨rfl, hbx⟩
              have Hb10 := Lib.hid (below_step Hbr.out hbx Hbr.out.size)
              have ge := (Hb10.out.cell (p := ⟨gb, _, none⟩) hgb).trans ge
              clear hbx g1 g2
              go_wp2_with fail
              go_roundg (gk - 1)
              case measure => have := Hk2.out; omega
              case rel => exact ⟨j + 1, m + 1, by have := Hk2.out; omega, by go_num, by go_num, Hn, Hb10.out⟩
            · have r1 : reads p y < 0 := by omega
              have Hn := Lib.hid (show m = (metSigs p (LL.take (j + 1))).length by rw [met_snoc hy, if_neg r0, hm.out]; simp)
              clear hy hm
              go_wp2_with fail
              refine (CR.out _ (below_step Hb9.out Hbr.out Hb9.out.size)).mono ?_
              rintro en w10 ⟨rfl, hbx⟩
              have Hb10 := Lib.hid (below_step Hbr.out hbx Hbr.out.size)
              clear hbx g1 g2
              go_wp2_with fail
              go_roundg (gk - 1)
              case measure => have := Hk2.out; omega
              case rel => exact ⟨j + 1, m, by have := Hk2.out; omega, rfl, by go_num, Hn, Hb10.out⟩
          · have hme : m = sn := by have h1 := hm.out; rw [List.take_of_length_le (by have := ll.out; omega)] at h1; have h2 := ls.out; omega
            subst hme
            go_wp2_with fail
            go_ret
            exact ⟨ret_bool (by simp), below_step Hb3.out (below_step Hb9.out Hbr.out Hb9.out.size) Hb3.out.size⟩
set_option maxRecDepth 100000 in
theorem sightReads_lifted (os : Os) (started : os.Started) (H : Type) (enc : TypeId × Value → H) :
    ReturnsInHanded {} Try.checked os 15 .any (Rows.sightReadsSpec.pre6 enc Try.prog Try.f15 Rows.sightReadsRow.domain false) (Rows.sightReadsSpec.post enc Try.prog Try.f15 false true false false) := by
  refine returnsInHanded_of_change (C := Try.checked) own started (by kernel_rfl) Try.func15
    (ChangeSpec.witness6 (enc := enc) (C := Try.checked) false ⟨#[], #[.agg #[.slice none 0 0, .slice none 0 0, .slice none 0 0, .slice none 0 0, .int .i64 0, .int .i64 0, .int .i64 0, .int .i64 0, .bool false], .slice none 0 0, .agg #[.int .i64 0, .int .i64 0]], []⟩ 8 (by kernel_rfl) (by kernel_rfl) (by kernel_rfl) (by kernel_rfl)) ?_
  intro W base args ds gs before hval0 hW hcnd _
  have hval : ∀ (j : Nat) t v, Try.f15.params[j]? = some t → args[j]? = some v → Value.okWide Try.prog W .any base t v := hval0
  have hW' := hW
  obtain ⟨p, q, hA0, hV, rfl, hfz, hnd⟩ := hW
  have hA : DataW.TrodAll enc Try.prog W 0 (fun _ => true) true Try.f15.params.toList args.toList ds p := hA0
  rw [Try.params15] at hA hval
  obtain ⟨v0, vs0, d0, ds0, p0, q0, hargs, rfl, rfl, k0, r0⟩ := trodAll_cons hA
  obtain ⟨v1, vs1, d1, ds1, p1, q1, rfl, rfl, rfl, k1, r1⟩ := trodAll_cons r0
  obtain ⟨v2, vs2, d2, ds2, p2, q2, rfl, rfl, rfl, k2, r2⟩ := trodAll_cons r1
  obtain ⟨rfl, rfl, rfl⟩ := trodAll_nil r2
  obtain rfl : args = #[v0, v1, v2] := by cases args; simp_all
  obtain ⟨rfl, rfl⟩ := trodVars_none hV
  have lt0 : ∀ x ∈ p0, x.block < W.heap.size := by obtain ⟨m, hm⟩ := k0; exact DataW.trod_lt m _ _ _ hm
  have hv0 := hval 0 27 v0 rfl rfl
  have lt1 : ∀ x ∈ p1, x.block < W.heap.size := by obtain ⟨m, hm⟩ := k1; exact DataW.trod_lt m _ _ _ hm
  have hv1 := hval 1 28 v1 rfl rfl
  have lt2 : ∀ x ∈ p2, x.block < W.heap.size := by obtain ⟨m, hm⟩ := k2; exact DataW.trod_lt m _ _ _ hm
  have hv2 := hval 2 30 v2 rfl rfl
  have fin : Calls Try.prog 15 #[v0, v1, v2] W (fun e W' => e = .returned (.bool true) ∧ Below W.heap.size W W') := by
    obtain ⟨pv, p, rfl, hp⟩ := open_plan hv0 k0
    obtain ⟨pa, pn, pc, pos, rfl, hr, _, _, _⟩ := open_Ints hv1 k1
    obtain ⟨x0, rfl, a0⟩ := open_port hv2 k2
    exact lawReads_any W pv p pa pn pc pos x0 a0 hp (Lib.hid hr)
  clear hA0 hval0
  refine fin.mono fun e W' ⟨he, bel⟩ => ?_
  subst he
  exact ⟨_, rfl, _, _, _, [], _, [], hW', trodAll_mk1 (shut_bool Try.underlying4 _), (trodAll_cons_mk (Below.trod laidOut (by kernel_rfl) (of_decide_eq_true (by kernel_rfl)) k0 bel lt0) (trodAll_cons_mk (Below.trod laidOut (by kernel_rfl) (of_decide_eq_true (by kernel_rfl)) k1 bel lt1) (trodAll_cons_mk (Below.trod laidOut (by kernel_rfl) (of_decide_eq_true (by kernel_rfl)) k2 bel lt2) trodAll_mk0))), rfl, bel.frame _, fun h => by cases h⟩

/-- THE STATEMENT -/
theorem sightReads_holds : Rows.SightReadsSaid :=
  OpenClaim.holds_of_wide 15 Try.f15 rfl rfl rfl rfl rfl rfl rfl ⟨rfl, rfl, rfl, rfl, rfl⟩ rfl rfl rfl rfl rfl (by kernel_rfl) Try.func15 (by kernel_rfl)
    (of_decide_eq_true (by kernel_rfl)) (by unfold Func.isWrapper; first | (rw [if_pos (by decide +kernel)]; kernel_rfl) | (rw [if_neg (by decide +kernel)]; exact ⟨rfl, rfl⟩))
    (fun os started H enc _ => sightReads_lifted os started H enc)
end Go.Proofs.Ytackcfoplhhnbaa
