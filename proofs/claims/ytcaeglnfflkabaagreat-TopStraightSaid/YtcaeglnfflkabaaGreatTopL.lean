/- TopStraight: for every input the law returns true. No condition. -/
import Derived.Test.YtcaeglnfflkabaaGreatTopW8
import Derived.Test.YtcaeglnfflkabaaGreatRefC7
import Derived.Test.YtcaeglnfflkabaaGreatKnZ
set_option maxRecDepth 1000000
namespace Go.Proofs.YtcaeglnfflkabaaGreat
open Go.ChangeShapes Go.WideShapes Go.ChangeAt Go.RowKit Go.Sort

theorem info_intT : (Tryz.prog.info? 3).map (fun i => (i.zero, i.size, i.bytes)) = some (some (.int .i64 0), 1, 8) := by kernel_rfl
theorem build_l {w : World} {ae aj as_ al : Option Addr} {ne ce nj cj ns cs nl cl : Nat} {lv : List LineV} {p : Plan} (h : PlanAt w ⟨ae, ne, ce, aj, nj, cj, as_, ns, cs, al, nl, cl, lv⟩ p) (hf : FewOk ⟨ae, ne, ce, aj, nj, cj, as_, ns, cs, al, nl, cl, lv⟩) (hck : chk p = 0) (he : Even p) : Calls Tryz.prog 15 #[.agg #[.slice ae ne ce, .slice aj nj cj, .slice as_ ns cs, .slice al nl cl, .int .i64 p.top, .int .i64 p.brake, .int .i64 p.margin, .int .i64 p.throw, .bool p.hard]] w (BuildPost w p) := build_any w ⟨ae, ne, ce, aj, nj, cj, as_, ns, cs, al, nl, cl, lv⟩ p h hf hck he
theorem even_of {p : Plan} (h : ∀ x ∈ p.elems, x.kind ≠ 2 ∧ x.kind ≠ 3) : Even p := by
  intro e
  unfold Plan.kind Plan.elem
  split
  · cases hx : p.elems[e.toNat]? with
    | none => simp [List.getD, hx, zeroElem]
    | some x =>
      simp only [List.getD, hx, Option.getD_some]
      exact h x (List.mem_of_getElem? hx)
  · simp [zeroElem]
/-- how many roads of a row begin at a signal, at most one -/
def Marks (n j : Nat) (xs : List RoadV) (fs : List Int) : Prop := ∀ s : Nat, s < n → fs[s]? = some (if (s : Int) ∈ (xs.take j).map (·.r.frm) then 1 else 0)
theorem marks_zero (n : Nat) (xs : List RoadV) : Marks n 0 xs (List.replicate n 0) := by
  intro s hs
  simp [hs]
theorem Marks.fresh {n j : Nat} {xs : List RoadV} {fs : List Int} {x : RoadV} {s : Nat} (h : Marks n j xs fs) (hn : (xs.map (·.r.frm)).Nodup) (hx : xs[j]? = some x) (hs : s < n) (hf : x.r.frm = (s : Int)) : fs[s]? = some 0 ∧ Marks n (j + 1) xs (fs.set s 1) := by
  have hnot : (s : Int) ∉ (xs.take j).map (·.r.frm) := by
    intro hm
    obtain ⟨y, hy, hys⟩ := List.mem_map.1 hm
    obtain ⟨i, hi⟩ := List.getElem?_of_mem hy
    have hij : i < j := by
      have := (List.getElem?_eq_some_iff.1 hi).1
      rw [List.length_take] at this
      omega
    rw [List.getElem?_take_of_lt hij] at hi
    obtain ⟨hi1, hi2⟩ := List.getElem?_eq_some_iff.1 hi
    obtain ⟨hx1, hx2⟩ := List.getElem?_eq_some_iff.1 hx
    have hl := List.pairwise_iff_getElem.1 hn i j (by rw [List.length_map]; exact hi1) (by rw [List.length_map]; exact hx1) hij
    rw [List.getElem_map, List.getElem_map, hi2, hx2, hf] at hl
    exact hl hys
  refine ⟨by rw [h s hs, if_neg hnot], fun q hq => ?_⟩
  have htk : xs.take (j + 1) = xs.take j ++ [x] := by
    rw [List.take_add_one, hx]; rfl
  rw [htk, List.map_append]
  have hlen : s < fs.length := (List.getElem?_eq_some_iff.1 (h s hs)).1
  by_cases hqs : q = s
  · subst hqs
    rw [List.getElem?_set_self hlen, if_pos (by simp [hf])]
  · rw [List.getElem?_set_ne (fun hc => hqs hc.symm), h q hq]
    have : ((q : Int) ∈ (xs.take j).map (·.r.frm) ++ [x].map (·.r.frm)) ↔ (q : Int) ∈ (xs.take j).map (·.r.frm) := by
      rw [List.mem_append]
      refine ⟨fun hm => hm.resolve_right fun hr => ?_, .inl⟩
      simp only [List.map_cons, List.map_nil, List.mem_singleton, hf] at hr
      omega
    simp only [this]
theorem Plain.form0 {s : Int} {x : RoadV} (h : Plain s x) :
    ∃ (sa : Option Addr) (sn sc : Nat) (t2 fin : Int) (steps : List Stp), x = ⟨⟨sa, sn, sc, none, 0, 0, none, 0, 0, none, 0, 0, none, 0, 0⟩, ⟨s, t2, fin, steps, [], [], [], [], false⟩⟩ := by
  obtain ⟨⟨sa, sn, sc, na, nn, nc, ga, gn, gc, za, zn, zc, ha, hn, hc⟩, ⟨frm, t2, fin, steps, needs, guards, zone, holds, bare⟩⟩ := x
  obtain ⟨h1, h2, h3, h4, h5, h6, ⟨e1, e2, e3⟩, ⟨e4, e5, e6⟩, ⟨e7, e8, e9⟩, ⟨e10, e11, e12⟩, hl⟩ := h
  dsimp only at *
  subst h1 h2 h3 h4 h5 h6 e1 e2 e3 e4 e5 e6 e7 e8 e9 e10 e11 e12
  exact ⟨sa, sn, sc, t2, fin, steps, rfl⟩
set_option maxHeartbeats 8000000 in
theorem lawStraight_any (w : World) (pv : PV) (p : Plan) (h : PlanAt w pv p) :
    Calls Tryz.prog 4 #[pv.val p] w fun e w' => e = .returned (.bool true) ∧ Below w.heap.size w w' := by
  obtain ⟨ae, ne, ce, aj, nj, cj, as_, ns, cs, al, nl, cl, lv⟩ := pv
  have hP := Lib.hid h
  have HBa := Lib.hid (pbox_new w ⟨ae, ne, ce, aj, nj, cj, as_, ns, cs, al, nl, cl, lv⟩ p)
  have Hba := Lib.hid (below_new w (.cells #[.slice ae ne ce, .slice aj nj cj, .slice as_ ns cs, .slice al nl cl, .int .i64 p.top, .int .i64 p.brake, .int .i64 p.margin, .int .i64 p.throw, .bool p.hard] 27))
  clear h
  dsimp only [PV.val]
  go_enter Tryz.func4, Tryz.ntmps4
  go_wp2_with fail
  refine (Ev.known_true _).mono ?_
  rintro e w1 ⟨rfl, o1, o2, o3, o4, o5⟩
  have hbx : Below (w.alloc (.cells #[.slice ae ne ce, .slice aj nj cj, .slice as_ ns cs, .slice al nl cl, .int .i64 p.top, .int .i64 p.brake, .int .i64 p.margin, .int .i64 p.throw, .bool p.hard] 27)).heap.size (w.alloc (.cells #[.slice ae ne ce, .slice aj nj cj, .slice as_ ns cs, .slice al nl cl, .int .i64 p.top, .int .i64 p.brake, .int .i64 p.margin, .int .i64 p.throw, .bool p.hard] 27)) w1 := ⟨o1, o2, o3, o4, o5⟩
  have HB1 := Lib.hid (HBa.out.below hbx)
  have Hb1 := Lib.hid (below_step Hba.out hbx Hba.out.size)
  clear hbx o1 o2 o3 o4 o5
  obtain ⟨_, c0, c1, c2, c3, c4, c5, c6, c7, c8⟩ := HB1.out
  dsimp only at c0 c1 c2 c3
  go_wp2_with fail
  refine (fine_l (hP.out.below Hb1.out)).mono ?_
  rintro e w2 ⟨b, rfl, hfi, hbx⟩
  have HB2 := Lib.hid (HB1.out.below hbx)
  have Hb2 := Lib.hid (below_step Hb1.out hbx Hb1.out.size)
  clear hbx c0 c1 c2 c3 c4 c5 c6 c7 c8
  cases b with
  | false =>
    go_wp2_with fail
    go_ret
    exact ⟨rfl, Hb2.out⟩
  | true =>
    obtain ⟨hfew, hck⟩ := hfi rfl
    have Hfew := Lib.hid hfew
    have Hck := Lib.hid hck
    clear hfi hfew hck
    have hne : ne ≤ 60 := Hfew.out.1
    have hns : ns ≤ 60 := Hfew.out.2.2.1
    go_wp2_with fail
    go_loopg [3] ne (fun k i wr => ∃ j : Nat, j + k = ne ∧ i = .int .i64 j ∧ Hid (∀ x ∈ p.elems.take j, x.kind ≠ 2 ∧ x.kind ≠ 3) ∧ Hid (Below w2.heap.size w2 wr))
    case atStart => exact ⟨0, by omega, rfl, Lib.hid (by simp), Below.refl _ _⟩
    case round =>
      obtain ⟨j, hk, rfl, HK, HB⟩ := hrel
      obtain ⟨wo, rfl⟩ : ∃ wo : World, wo = wr := ⟨_, rfl⟩
      have Hk := Lib.hid hk; clear hk
      have HBo := Lib.hid (HB2.out.below HB.out)
      have Hbo := Lib.hid (below_step Hb2.out HB.out Hb2.out.size)
      obtain ⟨_, c0, c1, c2, c3, c4, c5, c6, c7, c8⟩ := HBo.out
      dsimp only at c0 c1 c2 c3
      have hPo := Lib.hid (hP.out.below Hbo.out)
      by_cases hlt : j < ne
      · obtain ⟨x, hx⟩ := get_some hPo.out.e.len hlt
        obtain ⟨g, off, rfl, hg, e1, e2, e3⟩ := hPo.out.e.elem hx
        have Hx := Lib.hid hx
        clear hx
        by_cases k2 : x.kind = 2
        · have d2 : (x.kind == 2) = true := by simp [k2]
          go_wp2_with fail
          go_ret
          exact ⟨rfl, Hbo.out⟩
        · have d2 : (x.kind == 2) = false := by simp [k2]
          by_cases k3 : x.kind = 3
          · have d3 : (x.kind == 3) = true := by simp [k3]
            go_wp2_with fail
            go_ret
            exact ⟨rfl, Hbo.out⟩
          · have d3 : (x.kind == 3) = false := by simp [k3]
            have HK2 := Lib.hid (show ∀ y ∈ p.elems.take (j + 1), y.kind ≠ 2 ∧ y.kind ≠ 3 from fun y hy => by
              rw [List.take_add_one, Hx.out] at hy
              rcases List.mem_append.1 hy with hy | hy
              · exact HK.out y hy
              · simp only [Option.toList_some, List.mem_singleton] at hy
                subst hy
                exact ⟨k2, k3⟩)
            go_wp2_with fail
            go_roundg (gk - 1)
            case measure => have := Hk.out; omega
            case rel => exact ⟨j + 1, by have := Hk.out; omega, by go_num, HK2, HB⟩
      · have He := Lib.hid (even_of (p := p) fun x hx => HK.out x (by
          rw [List.take_of_length_le (by rw [hPo.out.e.len]; show ne ≤ j; omega)]
          exact hx))
        go_wp2_with fail
        refine (build_l hPo.out Hfew.out Hck.out He.out).mono ?_
        rintro e w3 ⟨hbx, rfl | ⟨qe, me, de, qj, mj, dj, qs, ms, ds, ql, ml, dl, a, c, xs, rfl, hrow, hfs⟩⟩
        · have Hb3 := Lib.hid (below_step Hbo.out hbx Hbo.out.size)
          clear hbx c0 c1 c2 c3 c4 c5 c6 c7 c8
          go_wp2_with fail
          go_ret
          exact ⟨rfl, Hb3.out.alloc Hb3.out.size _⟩
        · have HB3 := Lib.hid (HBo.out.below hbx)
          have Hb3 := Lib.hid (below_step Hbo.out hbx Hbo.out.size)
          have Hrow := Lib.hid hrow
          have hfs1 := hfs
          have Hfs := Lib.hid hfs
          clear hbx c0 c1 c2 c3 c4 c5 c6 c7 c8 hrow hfs
          obtain ⟨ii, hii, zi1, zi2, zi3⟩ := info_parts info_intT
          have hxl : xs.length ≤ 60 := by have h1 := hfs1.len; have h2 : p.sigs.length = ns := hPo.out.s.len; omega
          go_upto_region 13 with fail
          refine name_code fun W4 hW4 => ?_
          have hb34 : Below w3.heap.size w3 W4 := by rw [hW4]; exact below_new w3 _
          have hcb : W4.cell? ⟨w3.heap.size, 9, none⟩ = some (.slice a xs.length c) := by rw [hW4]; go_simp
          have hl4 : w3.heap.size < W4.heap.size := by rw [hW4]; simp
          have HB4 := Lib.hid (HB3.out.below hb34)
          have Hb4 := Lib.hid (below_step Hb3.out hb34 Hb3.out.size)
          have Hrow4 := Lib.hid (Hrow.out.below hb34)
          clear hW4 hb34
          obtain ⟨_, c0, c1, c2, c3, c4, c5, c6, c7, c8⟩ := HB4.out
          dsimp only at c0 c1 c2 c3
          go_wp2_with (at_make; refine wpList_make_full _ rfl _ _ 48 rfl W4.heap.size 3 ii (.int .i64 0) 1 Tryz.underlying48 hii zi1 zi2 _ _ _ _ ns rfl rfl rfl rfl (by rw [zi3]; omega) (by simp [maxLen]; omega) (Nat.le_refl _) ?_; intro w5 hown hgrow)
          have hb5 : Below W4.heap.size W4 w5 := (Below.refl _ _).grown hgrow (Nat.le_refl _) (by intro k hk; cases hk)
          rw [show (Value.int .i64 0).cells = #[Value.int .i64 0] from rfl, Nat.mul_one, toList_madeCells_one] at hown
          have HO := Lib.hid (show OwnI w5 W4.heap.size (.slice (some ⟨W4.heap.size, 0, none⟩) ns ns) ns (List.replicate ns 0) by unfold OwnI; simpa using hown)
          have Hb5 := Lib.hid hb5
          have hcb5 := (hb5.cell (p := ⟨w3.heap.size, 9, none⟩) hl4).trans hcb
          have hl5 : w3.heap.size < w5.heap.size := Nat.lt_of_lt_of_le hl4 hb5.size
          have Hrow5 := Lib.hid (Hrow4.out.below hb5)
          clear hown hgrow hb5 hcb c0 c1 c2 c3 c4 c5 c6 c7 c8
          go_wp2_with fail
          have Hns := Lib.hid (show p.sigs.length = ns from hPo.out.s.len)
          go_loopg [7] xs.length (fun k s7 wr => ∃ (j : Nat) (fs : List Int), j + k = xs.length ∧ s7 = .int .i64 j ∧ Hid (OwnI wr W4.heap.size (.slice (some ⟨W4.heap.size, 0, none⟩) ns ns) ns fs) ∧ Hid (Marks ns j xs fs) ∧ Hid (Below W4.heap.size W4 wr) ∧ wr.cell? ⟨w3.heap.size, 9, none⟩ = some (.slice a xs.length c))
          case atStart => exact ⟨0, _, by omega, rfl, HO, Lib.hid (marks_zero ns xs), Hb5, hcb5⟩
          case round =>
            obtain ⟨j, fs, hk, rfl, HO, HM, HB, hcw⟩ := hrel
            have Hk := Lib.hid hk; clear hk hcb5
            have hw34 : w3.heap.size < wr.heap.size := Nat.lt_of_lt_of_le hl4 HB.out.size
            by_cases hlt : j < xs.length
            · obtain ⟨x, hx⟩ := get_some (n := xs.length) rfl hlt
              obtain ⟨s, hs, hpx⟩ := Hfs.out.frm x (List.mem_of_getElem? hx)
              have hs2 : s < ns := by have := Hns.out; omega
              obtain ⟨hf0, hM2⟩ := HM.out.fresh Hfs.out.one hx hs2 hpx.frm
              obtain ⟨g, off, rfl, hg, hcell⟩ := (Hrow4.out.below HB.out).road hx
              obtain ⟨sa, sn, sc, t2, fin, steps, rfl⟩ := hpx.form0
              have f0 := hcell 0 _ rfl
              have f1 := hcell 1 _ rfl
              have f2 := hcell 2 _ rfl
              have f3 := hcell 3 _ rfl
              have f4 := hcell 4 _ rfl
              have f5 := hcell 5 _ rfl
              have f6 := hcell 6 _ rfl
              have f7 := hcell 7 _ rfl
              have f8 := hcell 8 _ rfl
              rw [Nat.add_zero] at f0
              dsimp only at f0 f1 f2 f3 f4 f5 f6 f7 f8
              have hlw := (own_shape' HO.out).2
              have m0 : wr.cell? ⟨W4.heap.size, s, none⟩ = some (.int .i64 0) := by
                have := own_cell HO.out hs2
                rwa [show fs.getD s 0 = 0 by simp [List.getD, hf0]] at this
              have fz := own_frozen HO.out s
              have HM2 := Lib.hid hM2
              have Hhs := Lib.hid hs
              clear hcell hpx hx hf0 hM2 hs
              go_upto_region 19 with fail
              refine name_code fun W6 hW6 => ?_
              have hO6 : OwnI W6 W4.heap.size (.slice (some ⟨W4.heap.size, 0, none⟩) ns ns) ns (fs.set s 1) := by rw [hW6]; exact (own_set HO.out s 1).1.alloc _
              have hbx : W6.heap[wr.heap.size]? = some (.cells #[.int .i64 s, .int .i64 t2, .int .i64 fin, .slice sa sn sc, .slice none 0 0, .slice none 0 0, .slice none 0 0, .slice none 0 0, .bool false] 74) := by
                rw [hW6]
                have he : (wr.setCell ⟨W4.heap.size, s, none⟩ (.int .i64 1)).heap.size = wr.heap.size := by simp [World.setCell]
                rw [← he]
                exact heap_alloc_new _ _
              have hB6 : Below W4.heap.size W4 W6 := by
                rw [hW6]
                have hq := below_set (o := s) (Nat.le_refl W4.heap.size) HB.out (.int .i64 1)
                exact hq.alloc hq.size _
              have hl6 : wr.heap.size < W6.heap.size := (Array.getElem?_eq_some_iff.1 hbx).1
              have hw36 : w3.heap.size < W6.heap.size := by omega
              have hw46 : W4.heap.size < W6.heap.size := by omega
              obtain ⟨q0, q1, q2, q3, q4, q5, q6, q7, q8⟩ := nine_of hbx
              have m1 : W6.cell? ⟨W4.heap.size, s, none⟩ = some (.int .i64 1) := by
                have := own_cell hO6 hs2
                have hlen : s < fs.length := by rw [own_len HO.out]; exact hs2
                rwa [show (fs.set s 1).getD s 0 = 1 by simp [List.getD, List.getElem?_set_self hlen]] at this
              have hc6 : W6.cell? ⟨w3.heap.size, 9, none⟩ = some (.slice (some ⟨g, off, none⟩) xs.length c) := by
                rw [hW6]
                exact (cell_of_same (Below.heap_alloc _ _ w3.heap.size (by simpa [World.setCell] using hw34)) 9).trans ((cell_of_same (Below.heap_setCell wr ⟨W4.heap.size, s, none⟩ _ w3.heap.size (by show w3.heap.size ≠ W4.heap.size; omega)) 9).trans hcw)
              have HO6 := Lib.hid hO6
              have HB6 := Lib.hid hB6
              clear hW6 hO6 hbx hB6 f0 f1 f2 f3 f4 f5 f6 f7 f8 m0 fz hcw
              go_wp2_with fail
              go_roundg (gk - 1)
              case measure => have := Hk.out; omega
              case rel => exact ⟨j + 1, fs.set s 1, by have := Hk.out; omega, by go_num, HO6, HM2, HB6, hc6⟩
            · go_wp2_with fail
              go_ret
              exact ⟨rfl, below_step Hb4.out HB.out Hb4.out.size⟩
set_option maxRecDepth 100000 in
theorem topStraight_lifted (os : Os) (started : os.Started) (H : Type) (enc : TypeId × Value → H) :
    ReturnsInHanded {} Tryz.checked os 4 .any (Rows.topStraightSpec.pre6 enc Tryz.prog Tryz.f4 Rows.topStraightRow.domain false) (Rows.topStraightSpec.post enc Tryz.prog Tryz.f4 false true false false) := by
  refine returnsInHanded_of_change (C := Tryz.checked) own started (by kernel_rfl) Tryz.func4
    (ChangeSpec.witness6 (enc := enc) (C := Tryz.checked) false ⟨#[], #[.agg #[.slice none 0 0, .slice none 0 0, .slice none 0 0, .slice none 0 0, .int .i64 0, .int .i64 0, .int .i64 0, .int .i64 0, .bool false]], []⟩ 8 (by kernel_rfl) (by kernel_rfl) (by kernel_rfl) (by kernel_rfl)) ?_
  intro W base args ds gs before hval0 hW hcnd _
  have hval : ∀ (j : Nat) t v, Tryz.f4.params[j]? = some t → args[j]? = some v → Value.okWide Tryz.prog W .any base t v := hval0
  have hW' := hW
  obtain ⟨p, q, hA0, hV, rfl, hfz, hnd⟩ := hW
  have hA : DataW.TrodAll enc Tryz.prog W 0 (fun _ => true) true Tryz.f4.params.toList args.toList ds p := hA0
  rw [Tryz.params4] at hA hval
  obtain ⟨v0, vs0, d0, ds0, p0, q0, hargs, rfl, rfl, k0, r0⟩ := trodAll_cons hA
  obtain ⟨rfl, rfl, rfl⟩ := trodAll_nil r0
  obtain rfl : args = #[v0] := by cases args; simp_all
  obtain ⟨rfl, rfl⟩ := trodVars_none hV
  have lt0 : ∀ x ∈ p0, x.block < W.heap.size := by obtain ⟨m, hm⟩ := k0; exact DataW.trod_lt m _ _ _ hm
  have hv0 := hval 0 27 v0 rfl rfl
  have fin : Calls Tryz.prog 4 #[v0] W (fun e W' => e = .returned (.bool true) ∧ Below W.heap.size W W') := by
    obtain ⟨pv, p, rfl, hp⟩ := open_plan hv0 k0
    exact lawStraight_any W pv p hp
  clear hA0 hval0
  refine fin.mono fun e W' ⟨he, bel⟩ => ?_
  subst he
  exact ⟨_, rfl, _, _, _, [], _, [], hW', trodAll_mk1 (shut_bool Tryz.underlying4 _), (trodAll_cons_mk (Below.trod laidOut (by kernel_rfl) (of_decide_eq_true (by kernel_rfl)) k0 bel lt0) trodAll_mk0), rfl, bel.frame _, fun h => by cases h⟩

/-- THE STATEMENT -/
theorem topStraight_holds : Rows.TopStraightSaid :=
  OpenClaim.holds_of_wide 4 Tryz.f4 rfl rfl rfl rfl rfl rfl rfl ⟨rfl, rfl, rfl, rfl, rfl⟩ rfl rfl rfl rfl rfl (by kernel_rfl) Tryz.func4 (by kernel_rfl)
    (of_decide_eq_true (by kernel_rfl)) (by unfold Func.isWrapper; first | (rw [if_pos (by decide +kernel)]; kernel_rfl) | (rw [if_neg (by decide +kernel)]; exact ⟨rfl, rfl⟩))
    (fun os started H enc _ => topStraight_lifted os started H enc)
end Go.Proofs.YtcaeglnfflkabaaGreat
