/- WalkOnce: for every input the law returns true. No condition. -/
import Derived.Test.YtackcfoplhhnbaaLawS2
set_option maxRecDepth 1000000
namespace Go.Proofs.Ytackcfoplhhnbaa
open Go.ChangeShapes Go.WideShapes Go.ChangeAt Go.RowKit Go.Sort

/-- the list holds Steps of headings before (i, e) -/
def Before (p : Plan) (pos : List Int) (i e : Nat) (xs : List Port) : Prop := ∀ z ∈ xs, ∃ h, step p pos h = (z, 0) ∧ (h.e < (i : Int) ∨ h.e = (i : Int) ∧ h.n < (e : Int))
section
variable {p : Plan} {pos : List Int} {i e : Nat} {xs : List Port} {x : Port}
theorem Before.row (h : Before p pos i e xs) : Before p pos (i + 1) 0 xs := fun z hz => by
  obtain ⟨t, h1, h2⟩ := h z hz
  exact ⟨t, h1, .inl (by omega)⟩
theorem Before.skip (h : Before p pos i e xs) : Before p pos i (e + 1) xs := fun z hz => by
  obtain ⟨t, h1, h2⟩ := h z hz
  exact ⟨t, h1, by omega⟩
theorem Before.snoc (h : Before p pos i e xs) (hs : step p pos ⟨(i : Int), (e : Int)⟩ = (x, 0)) : Before p pos i (e + 1) (xs ++ [x]) := fun z hz => by
  rcases List.mem_append.1 hz with hz | hz
  · exact h.skip z hz
  · simp at hz; subst hz; exact ⟨_, hs, .inr ⟨rfl, by show (e : Int) < _; omega⟩⟩
theorem Before.new (g : Good p) (h : Before p pos i e xs) (hs : step p pos ⟨(i : Int), (e : Int)⟩ = (x, 0)) {j : Nat} {z : Port} (hz : xs[j]? = some z) : z ≠ x := fun hzx => by
  obtain ⟨t, h1, h2⟩ := h z (List.mem_of_getElem? hz)
  subst hzx
  have := step_inj g h1 hs
  subst this
  simp at h2
end
set_option maxHeartbeats 4000000 in
theorem lawOnce_any (w : World) (pv : PV) (p : Plan) (pa : Option Addr) (pn pc : Nat) (pos : List Int) (h : PlanAt w pv p) (hr : Hid (Ints w pa pn pos)) :
    Calls Try.prog 9 #[pv.val p, .slice pa pn pc] w fun en w' => en = .returned (.bool true) ∧ Below w.heap.size w w' := by
  obtain ⟨ae, ne, ce, aj, nj, cj, as_, ns, cs, al, nl, cl, lv⟩ := pv
  have hP := Lib.hid h
  have HBa := Lib.hid (pbox_new w ⟨ae, ne, ce, aj, nj, cj, as_, ns, cs, al, nl, cl, lv⟩ p)
  have Hba := Lib.hid (below_new w (.cells #[.slice ae ne ce, .slice aj nj cj, .slice as_ ns cs, .slice al nl cl, .int .i64 p.top, .int .i64 p.brake, .int .i64 p.margin, .int .i64 p.throw, .bool p.hard] 27))
  have K := Lib.hid (known5_any (w.alloc (.cells #[.slice ae ne ce, .slice aj nj cj, .slice as_ ns cs, .slice al nl cl, .int .i64 p.top, .int .i64 p.brake, .int .i64 p.margin, .int .i64 p.throw, .bool p.hard] 27)))
  have HF := Lib.hid (fun (u : World) (hb : Below w.heap.size w u) => finex_l (w := u) (hP.out.below hb))
  clear h
  dsimp only [PV.val]
  obtain ⟨_, c0, c1, c2, c3, c4, c5, c6, c7, c8⟩ := HBa.out
  dsimp only at c0 c1 c2 c3
  cases hf : fine p with
  | false =>
    rw [hf] at HF
    clear hf
    go_enter Try.func9, Try.ntmps9
    go_wp2_with fail
    refine (K.out).mono ?_
    rintro e w1 ⟨rfl, hbx⟩
    have HB1 := Lib.hid (HBa.out.below hbx)
    have Hb1 := Lib.hid (below_step Hba.out hbx Hba.out.size)
    clear hbx c0 c1 c2 c3 c4 c5 c6 c7 c8
    obtain ⟨_, c0, c1, c2, c3, c4, c5, c6, c7, c8⟩ := HB1.out
    dsimp only at c0 c1 c2 c3
    clear K
    go_wp2_with fail
    refine (HF.out w1 Hb1.out).mono ?_
    rintro e w2 ⟨rfl, hbx⟩
    have HB2 := Lib.hid (HB1.out.below hbx)
    have Hb2 := Lib.hid (below_step Hb1.out hbx Hb1.out.size)
    clear hbx c0 c1 c2 c3 c4 c5 c6 c7 c8
    obtain ⟨_, c0, c1, c2, c3, c4, c5, c6, c7, c8⟩ := HB2.out
    dsimp only at c0 c1 c2 c3
    go_wp2_with fail
    go_ret
    exact ⟨rfl, Hb2.out⟩
  | true =>
    rw [hf] at HF
    have HM := Lib.hid (fun (u : World) (hb : Below w.heap.size w u) => made_l (w := u) hf (hP.out.below hb))
    have Hok := Lib.hid (few_ok hP.out (fine_few hf).1)
    have Hc := Lib.hid (fine_few hf).2
    have G := Lib.hid (good_of (fine_few hf).2)
    clear hf
    by_cases hq : 100 < pn
    · have q9 : decide ((100 : Int) < (pn : Int)) = true := by simp; omega
      go_enter Try.func9, Try.ntmps9
      go_wp2_with fail
      refine (K.out).mono ?_
      rintro e w1 ⟨rfl, hbx⟩
      have HB1 := Lib.hid (HBa.out.below hbx)
      have Hb1 := Lib.hid (below_step Hba.out hbx Hba.out.size)
      clear hbx c0 c1 c2 c3 c4 c5 c6 c7 c8
      obtain ⟨_, c0, c1, c2, c3, c4, c5, c6, c7, c8⟩ := HB1.out
      dsimp only at c0 c1 c2 c3
      clear K
      go_wp2_with fail
      refine (HF.out w1 Hb1.out).mono ?_
      rintro e w2 ⟨rfl, hbx⟩
      have HB2 := Lib.hid (HB1.out.below hbx)
      have Hb2 := Lib.hid (below_step Hb1.out hbx Hb1.out.size)
      clear hbx c0 c1 c2 c3 c4 c5 c6 c7 c8
      obtain ⟨_, c0, c1, c2, c3, c4, c5, c6, c7, c8⟩ := HB2.out
      dsimp only at c0 c1 c2 c3
      go_wp2_with fail
      go_ret
      exact ⟨rfl, Hb2.out⟩
    have q9 : decide ((100 : Int) < (pn : Int)) = false := by simp; omega
    go_enter Try.func9, Try.ntmps9
    go_wp2_with fail
    refine (K.out).mono ?_
    rintro e w1 ⟨rfl, hbx⟩
    have HB1 := Lib.hid (HBa.out.below hbx)
    have Hb1 := Lib.hid (below_step Hba.out hbx Hba.out.size)
    clear hbx c0 c1 c2 c3 c4 c5 c6 c7 c8
    obtain ⟨_, c0, c1, c2, c3, c4, c5, c6, c7, c8⟩ := HB1.out
    dsimp only at c0 c1 c2 c3
    clear K
    go_wp2_with fail
    refine (HF.out w1 Hb1.out).mono ?_
    rintro e w2 ⟨rfl, hbx⟩
    have HB2 := Lib.hid (HB1.out.below hbx)
    have Hb2 := Lib.hid (below_step Hb1.out hbx Hb1.out.size)
    clear hbx c0 c1 c2 c3 c4 c5 c6 c7 c8
    obtain ⟨_, c0, c1, c2, c3, c4, c5, c6, c7, c8⟩ := HB2.out
    dsimp only at c0 c1 c2 c3
    go_wp2_with fail
    refine (HM.out w2 Hb2.out).mono ?_
    rintro e w3 ⟨b, rfl, hbb, hn, hbx⟩
    have HB3 := Lib.hid (HB2.out.below hbx)
    have Hb3 := Lib.hid (below_step Hb2.out hbx Hb2.out.size)
    have HN3 := Lib.hid hn
    have hbb := Nat.le_trans Hb2.out.size hbb
    clear hbx hn HF HM c0 c1 c2 c3 c4 c5 c6 c7 c8
    obtain ⟨_, c0, c1, c2, c3, c4, c5, c6, c7, c8⟩ := HB3.out
    dsimp only at c0 c1 c2 c3
    have Hr3 := Lib.hid (hr.out.below Hb3.out)
    have D3 := Lib.hid (Below.refl w3.heap.size w3)
    clear q9 hr
    go_wp2_with fail
    have hne : p.elems.length = ne := hP.out.e.len
    have h40 := elems_few Hc.out
    have HL := Lib.hid (show ∀ u : World, Below w3.heap.size w3 u → Calls Try.prog 31 #[.pointer (some ⟨b, 0, none⟩)] u fun e w' => e = .returned (.int .i64 (ne : Int)) ∧ u = w' from fun u hb => by have := nlen_any u b p (HN3.out.below hb); rwa [hne] at this)
    obtain ⟨ii, hii, zi1, zi2, zi3⟩ := info_parts info_port
    have hne0 : ne ≤ 40 := by omega
    clear c0 c1 c2 c3 c4 c5 c6 c7 c8 hne h40
    go_loopg [6, 7] ne (fun k v i' wr => ∃ (i : Nat) (xs : List Port), i + k = ne ∧ i' = .int .i64 (i : Int) ∧ Hid (Before p pos i 0 xs) ∧ xs.length ≤ 4 * i ∧ wr.ownsRow w3.heap.size 30 2 v xs.length (xs.flatMap encPort) ∧ Below w3.heap.size w3 wr)
    case atStart => exact ⟨0, [], by omega, rfl, Lib.hid (fun z hz => by simp at hz), by simp, own_nil _ _ _ _, Below.refl _ _⟩
    case round =>
      obtain ⟨i, xs, hk, rfl, hbf, hxl, own, hb⟩ := hrel
      have Hk := Lib.hid hk; clear hk
      have Own := Lib.hid own; clear own
      have Hb := Lib.hid hb; clear hb
      by_cases hlt : i < ne
      · have he0 := ends_nonneg (p.kind (i : Int))
        obtain ⟨E, hE⟩ : ∃ E : Nat, (E : Int) = ends (p.kind (i : Int)) := ⟨(ends (p.kind (i : Int))).toNat, by omega⟩
        have hE4 : E ≤ 4 := by omega
        have HE := Lib.hid (show ∀ u : World, Calls Try.prog 30 #[.int .i64 (p.kind (i : Int))] u fun en w' => en = .returned (.int .i64 (E : Int)) ∧ u = w' from fun u => by rw [hE]; exact refends_any _ u)
        clear he0 hE
        go_wp2_with fail
        refine (HL.out _ Hb.out).mono ?_
        rintro en w4 ⟨rfl, rfl⟩
        obtain ⟨wo, rfl⟩ : ∃ wo : World, wo = wr := ⟨_, rfl⟩
        go_wp2_with fail
        go_loopg [6, 8] E (fun k v e' wr => ∃ (e : Nat) (xs : List Port), e + k = E ∧ e' = .int .i64 (e : Int) ∧ Hid (Before p pos i e xs) ∧ xs.length ≤ 4 * i + e ∧ wr.ownsRow w3.heap.size 30 2 v xs.length (xs.flatMap encPort) ∧ Below w3.heap.size w3 wr)
        case atStart => exact ⟨0, xs, by omega, rfl, hbf, by omega, Own.out, Hb.out⟩
        case round =>
          clear Own Hb hbf hxl xs
          obtain ⟨e, xs, hk2, rfl, hbf, hxl, own, hb⟩ := hrel
          have Hk2 := Lib.hid hk2; clear hk2
          obtain ⟨a1, cc1, rfl, hbd, _⟩ := own_slice own
          have Own := Lib.hid own; clear own
          have Hb := Lib.hid hb; clear hb
          have HK := Lib.hid (nkind_any wr b p (HN3.out.below Hb.out) (i : Int))
          have HS := Lib.hid (fun (u : World) (hb : Below w3.heap.size w3 u) => nstep_any u b p (HN3.out.below hb) pa pn pc pos (Lib.hid (Hr3.out.below hb)) ⟨(i : Int), (e : Int)⟩ (wf_lit (by omega) (by omega) (by omega) (by have := Hk2.out; omega)))
          dsimp only [Port.val] at HS
          by_cases hlt2 : e < E
          · by_cases e0 : (step p pos ⟨(i : Int), (e : Int)⟩).2 = 0
            · obtain ⟨x, hs⟩ : ∃ x, step p pos ⟨(i : Int), (e : Int)⟩ = (x, 0) := ⟨_, by rw [← e0]⟩
              have Hnew := Lib.hid (show ∀ (j : Nat) (z : Port), xs[j]? = some z → z ≠ x from fun j z hz => Before.new G.out hbf.out hs hz)
              have Hbf2 := Lib.hid (hbf.out.snoc hs)
              rw [hs] at HS
              dsimp only at HS
              clear e0 hs hbf
              go_wp2_with fail
              refine HK.out.mono ?_
              rintro en w4 ⟨rfl, hb4⟩
              have Hb4 := Lib.hid (below_step Hb.out hb4 Hb.out.size)
              have Own4 := Lib.hid (owns_below Own.out hb4)
              clear hb4
              go_wp2_with fail
              refine (HE.out _).mono ?_
              rintro en w5 ⟨rfl, rfl⟩
              go_wp2_with fail
              refine (HS.out _ Hb4.out).mono ?_
              rintro en w5 ⟨rfl, hb5⟩
              have Hb5 := Lib.hid (below_step Hb4.out (hb5.alloc hb5.size (.cells #[.int .i64 x.e, .int .i64 x.n] 30)) Hb4.out.size)
              have Own5 := Lib.hid (owns_below Own4.out (hb5.alloc hb5.size (.cells #[.int .i64 x.e, .int .i64 x.n] 30)))
              have Hx5 := Lib.hid (qbox_new w5 x)
              have hlo := Lib.hid (Nat.le_trans Hb4.out.size hb5.size)
              have hne5 := fun k hk => Nat.lt_of_lt_of_le (Own4.out.lt k hk).2 hb5.size
              clear hb5 Own Own4 Hb Hb4 HK
              go_wp2_with fail
              refine name_code fun wi hwi => ?_
              rw [← hwi] at Hb5 Own5 Hx5
              clear hwi
              go_loopg [11] xs.length (fun kk k' wz => ∃ (j q : Nat), j + kk = xs.length ∧ k' = .int .i64 (j : Int) ∧ wz = wi.drewN q)
              case atStart => exact ⟨0, 0, by omega, rfl, rfl⟩
              case round =>
                obtain ⟨j, q, hk3, rfl, rfl⟩ := hrel
                have Hk3 := Lib.hid hk3; clear hk3
                by_cases hlt3 : j < xs.length
                · obtain ⟨z, hz⟩ := get_some (rfl : xs.length = xs.length) hlt3
                  have hzx := Hnew.out j z hz
                  obtain ⟨pb, off, rfl, hpb, z1, z2⟩ := (owns_row (sz := 2) (enc := encPort) (fun _ => rfl) Own5.out (by omega)).1.port hz
                  obtain ⟨_, y0, y1, _⟩ := Hx5.out.box
                  have q1 := eql_port (x := z) (y := x) (b := false) (by simpa using hzx)
                  clear hz hzx
                  go_wp2_with fail
                  go_quiet (fail)
                  go_wp2_with fail
                  go_roundg (gk - 1)
                  case measure => have := Hk3.out; omega
                  case rel => exact ⟨j + 1, _, by have := Hk3.out; omega, by go_num, rfl⟩
                · obtain ⟨wj, hwj⟩ : ∃ W, W = wi.drewN q := ⟨_, rfl⟩
                  rw [← hwj]
                  have hbj : Below wi.heap.size wi wj := by rw [hwj]; exact below_drewN (Below.refl _ _) q
                  have Ownj := Lib.hid (owns_below Own5.out hbj)
                  have Hbj := Lib.hid (below_step Hb5.out hbj Hb5.out.size)
                  have Hxj := Lib.hid (Hx5.out.below hbj)
                  have hzj := Hbj.out.size
                  have hx5 := Hxj.out.lt
                  clear hbj hwj Own5 Hb5 Hx5
                  obtain ⟨_, y0, y1, _⟩ := Hxj.out.box
                  go_wp2_with (at_builtin; refine wpList_append_own _ rfl _ _ 42 rfl w3.heap.size 30 ii (.agg #[.int .i64 0, .int .i64 0]) 2 16 Try.underlying42 hii zi1 zi2 zi3 rfl (by decide) _ _ _ rfl (Ownj.out.alloc _) ⟨wj.heap.size, 0, none⟩ 1 1 [.int .i64 x.e, .int .i64 x.n] rfl rfl (news_new wj #[.int .i64 x.e, .int .i64 x.n] 30) (one_port' x) (by simp [maxLen]; omega) (by omega) (by simp; omega) ?_)
                  intro v' w6 hown6 hgrow6 _
                  have Hb6 := Lib.hid (grown_below (Hbj.out.alloc Hbj.out.size (.cells #[.int .i64 x.e, .int .i64 x.n] 30)) (Ownj.out.alloc (.cells #[.int .i64 x.e, .int .i64 x.n] 30)) (Nat.le_refl _) (by simp; omega) hgrow6)
                  have Own6 := Lib.hid hown6
                  clear hown6 hgrow6 y0 y1
                  go_wp2_with fail
                  go_roundg (E - e - 1)
                  case measure => have := Hk2.out; omega
                  case rel =>
                    refine ⟨e + 1, xs ++ [x], by have := Hk2.out; omega, by go_num, Hbf2.out, by simp; omega, ?_, Hb6.out⟩
                    rw [List.length_append, List.length_singleton, ← flat_snoc]
                    exact Own6.out
            · have q0 : ((step p pos ⟨(i : Int), (e : Int)⟩).2 != 0) = true := by rw [bne_iff_ne]; exact e0
              have Hbf2 := Lib.hid hbf.out.skip
              obtain ⟨s, hs⟩ : ∃ s, s = step p pos ⟨(i : Int), (e : Int)⟩ := ⟨_, rfl⟩
              rw [← hs] at HS q0
              clear e0 hbf hs
              go_wp2_with fail
              refine HK.out.mono ?_
              rintro en w4 ⟨rfl, hb4⟩
              have Hb4 := Lib.hid (below_step Hb.out hb4 Hb.out.size)
              have Own4 := Lib.hid (owns_below Own.out hb4)
              clear hb4
              go_wp2_with fail
              refine (HE.out _).mono ?_
              rintro en w5 ⟨rfl, rfl⟩
              go_wp2_with fail
              refine (HS.out _ Hb4.out).mono ?_
              rintro en w5 ⟨rfl, hb5⟩
              have Hb5 := Lib.hid (below_step Hb4.out (hb5.alloc hb5.size (.cells #[.int .i64 s.1.e, .int .i64 s.1.n] 30)) Hb4.out.size)
              have Own5 := Lib.hid (owns_below Own4.out (hb5.alloc hb5.size (.cells #[.int .i64 s.1.e, .int .i64 s.1.n] 30)))
              clear hb5 Own Own4 Hb Hb4 HK
              go_wp2_with fail
              go_roundg (E - e - 1)
              case measure => have := Hk2.out; omega
              case rel => exact ⟨e + 1, xs, by have := Hk2.out; omega, by go_num, Hbf2.out, by omega, Own5.out, Hb5.out⟩
          · have Hbf2 := Lib.hid hbf.out.row
            clear HS hbf
            go_wp2_with fail
            refine HK.out.mono ?_
            rintro en w4 ⟨rfl, hb4⟩
            have Hb4 := Lib.hid (below_step Hb.out hb4 Hb.out.size)
            have Own4 := Lib.hid (owns_below Own.out hb4)
            clear hb4
            go_wp2_with fail
            refine (HE.out _).mono ?_
            rintro en w5 ⟨rfl, rfl⟩
            go_wp2_with fail
            go_roundg (ne - i - 1)
            case measure => have := Hk.out; omega
            case rel => exact ⟨i + 1, xs, by have := Hk.out; omega, by go_num, Hbf2.out, by have := Hk2.out; omega, Own4.out, Hb4.out⟩
      · go_wp2_with fail
        refine (HL.out _ Hb.out).mono ?_
        rintro en w4 ⟨rfl, rfl⟩
        go_wp2_with fail
        go_ret
        exact ⟨rfl, below_step Hb3.out Hb.out Hb3.out.size⟩
set_option maxRecDepth 100000 in
theorem walkOnce_lifted (os : Os) (started : os.Started) (H : Type) (enc : TypeId × Value → H) :
    ReturnsInHanded {} Try.checked os 9 .any (Rows.walkOnceSpec.pre6 enc Try.prog Try.f9 Rows.walkOnceRow.domain false) (Rows.walkOnceSpec.post enc Try.prog Try.f9 false true false false) := by
  refine returnsInHanded_of_change (C := Try.checked) own started (by kernel_rfl) Try.func9
    (ChangeSpec.witness6 (enc := enc) (C := Try.checked) false ⟨#[], #[.agg #[.slice none 0 0, .slice none 0 0, .slice none 0 0, .slice none 0 0, .int .i64 0, .int .i64 0, .int .i64 0, .int .i64 0, .bool false], .slice none 0 0], []⟩ 8 (by kernel_rfl) (by kernel_rfl) (by kernel_rfl) (by kernel_rfl)) ?_
  intro W base args ds gs before hval0 hW hcnd _
  have hval : ∀ (j : Nat) t v, Try.f9.params[j]? = some t → args[j]? = some v → Value.okWide Try.prog W .any base t v := hval0
  have hW' := hW
  obtain ⟨p, q, hA0, hV, rfl, hfz, hnd⟩ := hW
  have hA : DataW.TrodAll enc Try.prog W 0 (fun _ => true) true Try.f9.params.toList args.toList ds p := hA0
  rw [Try.params9] at hA hval
  obtain ⟨v0, vs0, d0, ds0, p0, q0, hargs, rfl, rfl, k0, r0⟩ := trodAll_cons hA
  obtain ⟨v1, vs1, d1, ds1, p1, q1, rfl, rfl, rfl, k1, r1⟩ := trodAll_cons r0
  obtain ⟨rfl, rfl, rfl⟩ := trodAll_nil r1
  obtain rfl : args = #[v0, v1] := by cases args; simp_all
  obtain ⟨rfl, rfl⟩ := trodVars_none hV
  have lt0 : ∀ x ∈ p0, x.block < W.heap.size := by obtain ⟨m, hm⟩ := k0; exact DataW.trod_lt m _ _ _ hm
  have hv0 := hval 0 27 v0 rfl rfl
  have lt1 : ∀ x ∈ p1, x.block < W.heap.size := by obtain ⟨m, hm⟩ := k1; exact DataW.trod_lt m _ _ _ hm
  have hv1 := hval 1 28 v1 rfl rfl
  have fin : Calls Try.prog 9 #[v0, v1] W (fun e W' => e = .returned (.bool true) ∧ Below W.heap.size W W') := by
    obtain ⟨pv, p, rfl, hp⟩ := open_plan hv0 k0
    obtain ⟨pa, pn, pc, pos, rfl, hr, _, _, _⟩ := open_Ints hv1 k1
    exact lawOnce_any W pv p pa pn pc pos hp (Lib.hid hr)
  clear hA0 hval0
  refine fin.mono fun e W' ⟨he, bel⟩ => ?_
  subst he
  exact ⟨_, rfl, _, _, _, [], _, [], hW', trodAll_mk1 (shut_bool Try.underlying4 _), (trodAll_cons_mk (Below.trod laidOut (by kernel_rfl) (of_decide_eq_true (by kernel_rfl)) k0 bel lt0) (trodAll_cons_mk (Below.trod laidOut (by kernel_rfl) (of_decide_eq_true (by kernel_rfl)) k1 bel lt1) trodAll_mk0)), rfl, bel.frame _, fun h => by cases h⟩

/-- THE STATEMENT -/
theorem walkOnce_holds : Rows.WalkOnceSaid :=
  OpenClaim.holds_of_wide 9 Try.f9 rfl rfl rfl rfl rfl rfl rfl ⟨rfl, rfl, rfl, rfl, rfl⟩ rfl rfl rfl rfl rfl (by kernel_rfl) Try.func9 (by kernel_rfl)
    (of_decide_eq_true (by kernel_rfl)) (by unfold Func.isWrapper; first | (rw [if_pos (by decide +kernel)]; kernel_rfl) | (rw [if_neg (by decide +kernel)]; exact ⟨rfl, rfl⟩))
    (fun os started H enc _ => walkOnce_lifted os started H enc)
end Go.Proofs.Ytackcfoplhhnbaa
