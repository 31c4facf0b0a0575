/- Walk of semaphoreref6.joined. No condition beyond the plan that is read, and that it has few joins. -/
import Derived.Test.YtcaeglnfflkabaaGreatRefC3
import Derived.Test.YtcaeglnfflkabaaGreatBase
import Derived.Deep.RegionHeld3
set_option maxRecDepth 1000000
namespace Go.Proofs.YtcaeglnfflkabaaGreat
open Go.RowKit Go.Sort Go.ChangeShapes Go.WideShapes

theorem Row.port {w : World} {a : Option Addr} {n : Nat} {xs : List Port} (h : Row 2 encPort w a n xs) {i : Nat} {x : Port} (hx : xs[i]? = some x) :
    ∃ b off, a = some ⟨b, off, none⟩ ∧ b < w.heap.size ∧ w.cell? ⟨b, off + i * 2, none⟩ = some (.int .i64 x.e) ∧ w.cell? ⟨b, off + i * 2 + 1, none⟩ = some (.int .i64 x.n) := by
  obtain ⟨b, off, ha, hb, hc⟩ := h.at_ i x hx
  exact ⟨b, off, ha, hb, by simpa using hc 0 _ rfl, by simpa using hc 1 _ rfl⟩
theorem one_port (x : Port) : ∀ u ∈ encPort x, u.oneCell' = true := by intro u hu; simp [encPort] at hu; rcases hu with rfl | rfl <;> rfl
theorem row_two (w : World) (x y : Port) (T : TypeId) {b : Nat} (hb : w.heap.size = b) : Row 2 encPort (w.alloc (.cells #[.int .i64 x.e, .int .i64 x.n, .int .i64 y.e, .int .i64 y.n] T)) (some ⟨b, 0, none⟩) 2 [x, y] := by
  subst hb
  refine ⟨rfl, by omega, fun i z hz => ?_⟩
  match i, hz with
  | 0, hz =>
    simp only [List.getElem?_cons_zero, Option.some.injEq] at hz; subst hz
    refine ⟨w.heap.size, 0, rfl, by simp, fun j v hv => ?_⟩
    match j, hv with
    | 0, hv => simp [encPort] at hv; subst hv; go_simp
    | 1, hv => simp [encPort] at hv; subst hv; go_simp
    | k + 2, hv => simp [encPort] at hv
  | 1, hz =>
    simp only [List.getElem?_cons_succ, List.getElem?_cons_zero, Option.some.injEq] at hz; subst hz
    refine ⟨w.heap.size, 0, rfl, by simp, fun j v hv => ?_⟩
    match j, hv with
    | 0, hv => simp [encPort] at hv; subst hv; go_simp
    | 1, hv => simp [encPort] at hv; subst hv; go_simp
    | k + 2, hv => simp [encPort] at hv
  | k + 2, hz => simp at hz
theorem join_kept {wr w1 w4 : World} {b pb off j : Nat} {row : Option Nat} {v : Value} {y : Join} (hg : w1.grownBy w4 row) (h1 : some b ≠ row) (h2 : some pb ≠ row) (hb : Below wr.heap.size wr w1) (hb0 : b < wr.heap.size) (hp0 : pb < wr.heap.size)
    (c1 : wr.cell? ⟨b, 1, none⟩ = some v) (g1 : wr.cell? ⟨pb, off + j * 4, none⟩ = some (.int .i64 y.a.e)) (g2 : wr.cell? ⟨pb, off + j * 4 + 1, none⟩ = some (.int .i64 y.a.n)) (g3 : wr.cell? ⟨pb, off + j * 4 + 2, none⟩ = some (.int .i64 y.b.e)) (g4 : wr.cell? ⟨pb, off + j * 4 + 3, none⟩ = some (.int .i64 y.b.n)) :
    w4.cell? ⟨b, 1, none⟩ = some v ∧ w4.cell? ⟨pb, off + j * 4, none⟩ = some (.int .i64 y.a.e) ∧ w4.cell? ⟨pb, off + j * 4 + 1, none⟩ = some (.int .i64 y.a.n) ∧ w4.cell? ⟨pb, off + j * 4 + 2, none⟩ = some (.int .i64 y.b.e) ∧ w4.cell? ⟨pb, off + j * 4 + 3, none⟩ = some (.int .i64 y.b.n) := by
  have hz := hb.size
  have k1 : ∀ o, w4.cell? ⟨b, o, none⟩ = wr.cell? ⟨b, o, none⟩ := fun o => (hg.cell_far ⟨b, o, none⟩ (show b < w1.heap.size by omega) h1).trans (hb.cell (p := ⟨b, o, none⟩) hb0)
  have k2 : ∀ o, w4.cell? ⟨pb, o, none⟩ = wr.cell? ⟨pb, o, none⟩ := fun o => (hg.cell_far ⟨pb, o, none⟩ (show pb < w1.heap.size by omega) h2).trans (hb.cell (p := ⟨pb, o, none⟩) hp0)
  exact ⟨(k1 _).trans c1, (k2 _).trans g1, (k2 _).trans g2, (k2 _).trans g3, (k2 _).trans g4⟩
def refJoined (p : Plan) : Bool := refPorts p [] (flatJoins p.joins) && gateGo p (nextOf p) 0 p.elems
theorem refJoined_eq (p : Plan) : refJoined p = joinedOk p := by unfold refJoined joinedOk; rw [refPorts_eq]
theorem ports_no {p : Plan} {met : List Port} {x : Port} {r : List Port} {q : Bool} (hr : refPorts p met (x :: r) = q) (h : isPort p x = false ∨ x ∈ met) : q = false := by
  rw [← hr, refPorts]; rcases h with h | h <;> simp [h]
theorem ports_yes {p : Plan} {met : List Port} {x : Port} {r : List Port} {q : Bool} (hr : refPorts p met (x :: r) = q) (h : isPort p x = true) (h2 : x ∉ met) : refPorts p (met ++ [x]) r = q := by
  rw [← hr, refPorts]; simp [h, h2]
theorem joinNo {p : Plan} (h : refPorts p [] (flatJoins p.joins) = false) : joinedOk p = false := by rw [← refJoined_eq]; unfold refJoined; rw [h]; rfl

set_option maxHeartbeats 4000000 in
theorem refjoined_any (w : World) (pv : PV) (p : Plan) (h : PlanAt w pv p) (hn : pv.nj ≤ 1000) :
    Calls Tryz.prog 65 #[pv.val p] w fun e w' => e = .returned (.bool (joinedOk p)) ∧ Below w.heap.size w w' := by
  obtain ⟨ae, ne, ce, aj, nj, cj, as_, ns, cs, al, nl, cl, lv⟩ := pv
  have hP := Lib.hid h
  have he : Elems w ae ne p.elems := h.e
  have hj : Joins w aj nj p.joins := h.j
  have le := Lib.hid he.len
  have lj := Lib.hid hj.len
  have be := he.bnd
  have hn : nj ≤ 1000 := hn
  have HB := Lib.hid (pbox_new w ⟨ae, ne, ce, aj, nj, cj, as_, ns, cs, al, nl, cl, lv⟩ p)
  obtain ⟨ii, hii, zi1, zi2, zi3⟩ := info_parts info_port
  clear h
  dsimp only [PV.val]
  go_enter Tryz.func65, Tryz.ntmps65
  go_wp2_with fail
  go_loopg [3, 4] nj (fun k v i wr => ∃ (j : Nat), j + k = nj ∧ i = .int .i64 j ∧ wr.ownsRow (w.heap.size + 1) 43 2 v (2 * j) ((flatJoins (p.joins.take j)).flatMap encPort) ∧ PBox wr w.heap.size ⟨ae, ne, ce, aj, nj, cj, as_, ns, cs, al, nl, cl, lv⟩ p ∧ Below w.heap.size w wr)
  case atStart => exact ⟨0, by omega, rfl, own_nil _ _ _ _, HB.out, below_new _ _⟩
  case round =>
    clear HB
    obtain ⟨j, hk, rfl, own, hB, hb⟩ := hrel
    have Hk := Lib.hid hk; clear hk
    have HB := Lib.hid hB
    have Own := Lib.hid own; clear own
    obtain ⟨hbl, c0, c1, c2, c3, c4, c5, c6, c7, c8⟩ := hB
    dsimp only at c0 c1 c2 c3
    by_cases hlt : j < nj
    · obtain ⟨y, hy⟩ := get_some lj.out hlt
      obtain ⟨pb, off, rfl, hpb, g1, g2, g3, g4⟩ := hj.joinB hb hy
      have Hy := Lib.hid hy; clear hy
      have Hb := Lib.hid hb; clear hb
      go_wp2_with fail
      have HRow := Lib.hid (row_two wr.drew y.a y.b 43 (b := wr.heap.size) rfl)
      have k0 : w.heap.size < wr.heap.size := hbl
      have hpb2 : pb < wr.heap.size := by omega
      have hbz := Lib.hid (show w.heap.size + 1 ≤ (wr.drew.alloc (.cells #[.int .i64 y.a.e, .int .i64 y.a.n, .int .i64 y.b.e, .int .i64 y.b.n] 43)).heap.size by show w.heap.size + 1 ≤ (wr.alloc _).heap.size; simp; omega)
      go_region_held3 (fun w' => w'.cell? ⟨w.heap.size, 1, none⟩ = some (.slice (some ⟨pb, off, none⟩) nj cj) ∧ w'.cell? ⟨pb, off + j * 4, none⟩ = some (.int .i64 y.a.e) ∧ w'.cell? ⟨pb, off + j * 4 + 1, none⟩ = some (.int .i64 y.a.n) ∧ w'.cell? ⟨pb, off + j * 4 + 2, none⟩ = some (.int .i64 y.b.e) ∧ w'.cell? ⟨pb, off + j * 4 + 3, none⟩ = some (.int .i64 y.b.n))
        (first | exact hcells | go_keep)
        (first
          | (refine step_app (enc := encPort) (fun _ => rfl) one_port _ rfl (.tmp 17) (.tmp 30) 59 rfl (w.heap.size + 1) 43 (.agg #[.int .i64 0, .int .i64 0]) 16 Tryz.underlying59 info_port rfl (by decide) _ (2 * j) (flatJoins (p.joins.take j)) rfl (Own.out.drew.alloc _) (some ⟨wr.heap.size, 0, none⟩) 2 2 [y.a, y.b] rfl HRow.out (by intro h; cases h) (by simp [maxLen]; omega) (by omega) hbz.out ?_
             intro v' w4 hown4 hgrow4 _ _
             have hcells := join_kept hgrow4 (own_ne (Own.out.drew.alloc (.cells #[.int .i64 y.a.e, .int .i64 y.a.n, .int .i64 y.b.e, .int .i64 y.b.n] 43)) (by omega)) (own_ne (Own.out.drew.alloc (.cells #[.int .i64 y.a.e, .int .i64 y.a.n, .int .i64 y.b.e, .int .i64 y.b.n] 43)) (by omega)) (below_new wr.drew (.cells #[.int .i64 y.a.e, .int .i64 y.a.n, .int .i64 y.b.e, .int .i64 y.b.n] 43)) k0 hpb2 c1 g1 g2 g3 g4))
      have hb4 := Lib.hid (grown_below (Hb.out.drew.alloc Hb.out.size (.cells #[.int .i64 y.a.e, .int .i64 y.a.n, .int .i64 y.b.e, .int .i64 y.b.n] 43)) (Own.out.drew.alloc (.cells #[.int .i64 y.a.e, .int .i64 y.a.n, .int .i64 y.b.e, .int .i64 y.b.n] 43)) (by omega) (by have := Hb.out.size; simp; omega) hgrow4)
      have hB4 := Lib.hid ((HB.out.drew.alloc (.cells #[.int .i64 y.a.e, .int .i64 y.a.n, .int .i64 y.b.e, .int .i64 y.b.n] 43)).kept hgrow4 (own_ne (Own.out.drew.alloc (.cells #[.int .i64 y.a.e, .int .i64 y.a.n, .int .i64 y.b.e, .int .i64 y.b.n] 43)) (by omega)))
      have Own4 := Lib.hid hown4; clear hown4 hgrow4
      go_wp2_with fail
      go_roundg (gk - 1)
      case measure => have := Hk.out; omega
      case rel =>
        refine ⟨j + 1, by have := Hk.out; omega, by go_num, ?_, hB4.out, hb4.out⟩
        have := Own4.out
        rw [flat_take Hy.out]
        exact this
    · have hj' : nj = j := by have := Hk.out; omega
      subst hj'
      obtain ⟨aq, kq, rfl, _, _⟩ := own_slice Own.out
      have S1 := Lib.hid (show Row 2 encPort wr aq (2 * nj) (flatJoins p.joins) by
        have := Own.out; rw [List.take_of_length_le (by have := lj.out; omega)] at this
        obtain ⟨r, rm⟩ := owns_row (sz := 2) (enc := encPort) (fun _ => rfl) this (by decide)
        exact r)
      clear Own hlt Hk
      have Hb := Lib.hid hb; clear hb
      have hz := Hb.out.size
      obtain ⟨wo, rfl⟩ : ∃ wo : World, wo = wr := ⟨_, rfl⟩
      have hl2 := Lib.hid S1.out.len
      go_wp2_with fail
      go_loopg [5] (2 * nj) (fun k i wr => ∃ (i0 : Nat), i0 + k = 2 * nj ∧ i = .int .i64 i0 ∧ Hid (refPorts p ((flatJoins p.joins).take i0) ((flatJoins p.joins).drop i0) = refPorts p [] (flatJoins p.joins)) ∧ PBox wr w.heap.size ⟨ae, ne, ce, aj, nj, cj, as_, ns, cs, al, nl, cl, lv⟩ p ∧ Below wo.heap.size wo wr)
      case atStart => exact ⟨0, by omega, rfl, rfl, HB.out, Below.refl _ _⟩
      case round =>
        clear HB c0 c1 c2 c3 c4 c5 c6 c7 c8
        obtain ⟨i0, hk, rfl, hr, hB, hbo⟩ := hrel
        have Hk := Lib.hid hk; clear hk
        have HB := Lib.hid hB
        obtain ⟨hbl2, c0, c1, c2, c3, c4, c5, c6, c7, c8⟩ := hB
        dsimp only at c0 c1 c2 c3
        have Hb2 := Lib.hid (below_step Hb.out hbo hz)
        have HPr := Lib.hid (hP.out.below Hb2.out)
        by_cases hlt : i0 < 2 * nj
        · have hltI : (i0 : Int) < 2 * (nj : Int) := by omega
          obtain ⟨x, hx⟩ := get_some hl2.out hlt
          obtain ⟨pb, off, rfl, hpb, g1, g2⟩ := (S1.out.below hbo).port hx
          have hpo : pb < wo.heap.size := by
            obtain ⟨_, _, hh, hpo, _⟩ := S1.out.port hx
            cases hh; exact hpo
          have Hx := Lib.hid hx
          have Hd := Lib.hid (drop_cons hx); clear hx
          have Hbo := Lib.hid hbo; clear hbo
          cases hp : isPort p x
          · have Hq := Lib.hid (joinNo (ports_no (Hd.out ▸ hr.out) (.inl hp)))
            go_wp2_with fail
            have c0q := fun d os => cell_regrown c0 d os
            have c1q := fun d os => cell_regrown c1 d os
            have c2q := fun d os => cell_regrown c2 d os
            have c3q := fun d os => cell_regrown c3 d os
            have c4q := fun d os => cell_regrown c4 d os
            have c5q := fun d os => cell_regrown c5 d os
            have c6q := fun d os => cell_regrown c6 d os
            have c7q := fun d os => cell_regrown c7 d os
            have c8q := fun d os => cell_regrown c8 d os
            have g1q := fun d os => cell_regrown g1 d os
            have g2q := fun d os => cell_regrown g2 d os
            have cq0 : ∀ d os, Calls Tryz.prog 118 #[.agg #[.slice ae ne ce, .slice aj nj cj, .slice as_ ns cs, .slice al nl cl, .int .i64 p.top, .int .i64 p.brake, .int .i64 p.margin, .int .i64 p.throw, .bool p.hard], .agg #[.int .i64 x.e, .int .i64 x.n]] (grow (redrawn wr d) os) fun e w'' => e = .returned (.bool (isPort p x)) ∧ ∃ rg : Regrown, w'' = grow (redrawn wr rg.d) rg.os := fun d os => Calls.regrown_of (has_l (HPr.out.below (below_regrown _ d os)))
            refine wp_region_quiet_below (by kernel_rfl) (by kernel_rfl) ?_
            repeat (quiet_step (first | exact cq0 _ _))
            refine wpQuiet_nil ?_
            intro w2 hw'
            have hb2 : Below wr.heap.size wr w2 := by obtain ⟨⟨d, os⟩, rfl⟩ := hw'; exact below_regrown _ d os
            clear hw' c0q c1q c2q c3q c4q c5q c6q c7q c8q g1q g2q cq0
            go_wp2_with fail
            go_ret
            exact ⟨ret_bool Hq.out.symm, below_step Hb2.out hb2 Hb2.out.size⟩
          · skip
            go_wp2_with fail
            have c0q := fun d os => cell_regrown c0 d os
            have c1q := fun d os => cell_regrown c1 d os
            have c2q := fun d os => cell_regrown c2 d os
            have c3q := fun d os => cell_regrown c3 d os
            have c4q := fun d os => cell_regrown c4 d os
            have c5q := fun d os => cell_regrown c5 d os
            have c6q := fun d os => cell_regrown c6 d os
            have c7q := fun d os => cell_regrown c7 d os
            have c8q := fun d os => cell_regrown c8 d os
            have g1q := fun d os => cell_regrown g1 d os
            have g2q := fun d os => cell_regrown g2 d os
            have cq0 : ∀ d os, Calls Tryz.prog 118 #[.agg #[.slice ae ne ce, .slice aj nj cj, .slice as_ ns cs, .slice al nl cl, .int .i64 p.top, .int .i64 p.brake, .int .i64 p.margin, .int .i64 p.throw, .bool p.hard], .agg #[.int .i64 x.e, .int .i64 x.n]] (grow (redrawn wr d) os) fun e w'' => e = .returned (.bool (isPort p x)) ∧ ∃ rg : Regrown, w'' = grow (redrawn wr rg.d) rg.os := fun d os => Calls.regrown_of (has_l (HPr.out.below (below_regrown _ d os)))
            refine wp_region_quiet_below (by kernel_rfl) (by kernel_rfl) ?_
            repeat (quiet_step (first | exact cq0 _ _))
            refine wpQuiet_nil ?_
            intro w2 hw'
            have hb2 : Below wr.heap.size wr w2 := by obtain ⟨⟨d, os⟩, rfl⟩ := hw'; exact below_regrown _ d os
            clear hw' c0q c1q c2q c3q c4q c5q c6q c7q c8q g1q g2q cq0
            have HB2 := Lib.hid (HB.out.below hb2)
            have Hbo2 := Lib.hid (below_step Hbo.out hb2 Hbo.out.size)
            clear hb2 c0 c1 c2 c3 c4 c5 c6 c7 c8 g1 g2 HB Hbo HPr Hb2
            go_wp2_with fail
            go_loopg [6] i0 (fun k i wr => ∃ (i2 : Nat), i2 + k = i0 ∧ i = .int .i64 i2 ∧ Hid (memB x (((flatJoins p.joins).take i0).drop i2) = memB x ((flatJoins p.joins).take i0)) ∧ PBox wr w.heap.size ⟨ae, ne, ce, aj, nj, cj, as_, ns, cs, al, nl, cl, lv⟩ p ∧ Below wo.heap.size wo wr)
            case atStart => exact ⟨0, by omega, rfl, rfl, HB2.out, Hbo2.out⟩
            case round =>
              clear HB2 Hbo2
              obtain ⟨i2, hk2, rfl, hr2, hB, hbo⟩ := hrel
              have Hk2 := Lib.hid hk2; clear hk2
              have HB := Lib.hid hB
              by_cases hlt2 : i2 < i0
              · obtain ⟨z, hz2⟩ := get_some hl2.out (show i2 < 2 * nj by omega)
                obtain ⟨pb', off', hh, _, e1, e2⟩ := (S1.out.below hbo).port hz2
                cases hh
                obtain ⟨pb', off', hh, _, g1, g2⟩ := (S1.out.below hbo).port Hx.out
                cases hh
                have Hd2 := Lib.hid (mem_drop (x := x) (show ((flatJoins p.joins).take i0)[i2]? = some z by rw [List.getElem?_take, if_pos hlt2]; exact hz2)); clear hz2
                have Hbo := Lib.hid hbo; clear hbo
                by_cases hm : z = x
                · have q1 := eql_port (x := z) (y := x) (b := true) (by simpa using hm)
                  have Hn := Lib.hid (joinNo (ports_no (Hd.out ▸ hr.out) (.inr (memB_iff.1 (by rw [← hr2.out, Hd2.out]; simp [hm])))))
                  clear hm
                  go_wp2_with fail
                  go_quiet (fail)
                  go_wp2_with fail
                  go_ret
                  exact ⟨ret_bool Hn.out.symm, below_step Hb.out (below_drewN Hbo.out _) hz⟩
                · have q1 := eql_port (x := z) (y := x) (b := false) (by simpa using hm)
                  have Hn := Lib.hid (show memB x (((flatJoins p.joins).take i0).drop (i2 + 1)) = memB x ((flatJoins p.joins).take i0) by rw [← hr2.out, Hd2.out]; simp [hm])
                  clear hm
                  go_wp2_with fail
                  go_quiet (fail)
                  go_wp2_with fail
                  go_roundg (gk - 1)
                  case measure => have := Hk2.out; omega
                  case rel => exact ⟨i2 + 1, by have := Hk2.out; omega, by go_num, Hn.out, HB.out.drewN _, below_drewN Hbo.out _⟩
              · have Hn := Lib.hid (show refPorts p ((flatJoins p.joins).take (i0 + 1)) ((flatJoins p.joins).drop (i0 + 1)) = refPorts p [] (flatJoins p.joins) by
                  rw [take_next Hx.out]
                  exact ports_yes (Hd.out ▸ hr.out) hp (fun e => by
                    have := memB_iff.2 e
                    rw [← hr2.out, List.drop_eq_nil_of_le (by simp; omega)] at this
                    simp [memB] at this))
                go_wp2_with fail
                go_roundg (2 * nj - i0 - 1)
                case measure => have := Hk.out; omega
                case rel => exact ⟨i0 + 1, by have := Hk.out; omega, by go_num, Hn.out, HB.out, hbo⟩
        · have Hq := Lib.hid (show joinedOk p = gateGo p (nextOf p) 0 p.elems by
            have := hr.out
            rw [drop_end hl2.out (by omega)] at this
            rw [← refJoined_eq]; unfold refJoined; rw [← this]; rfl)
          have hltI : ¬ (i0 : Int) < 2 * (nj : Int) := by omega
          clear hr hlt Hk hbo HPr
          go_wp2_with fail
          clear hltI
          go_loopg [7] ne (fun k i wr => ∃ (i0 : Nat), i0 + k = ne ∧ i = .int .i64 i0 ∧ Hid (gateGo p (nextOf p) i0 (p.elems.drop i0) = gateGo p (nextOf p) 0 p.elems) ∧ PBox wr w.heap.size ⟨ae, ne, ce, aj, nj, cj, as_, ns, cs, al, nl, cl, lv⟩ p ∧ Below w.heap.size w wr)
          case atStart => exact ⟨0, by omega, rfl, rfl, HB.out, Hb2.out⟩
          case round =>
            clear HB Hb2 c0 c1 c2 c3 c4 c5 c6 c7 c8
            obtain ⟨i1, hk, rfl, hr, hB, hb⟩ := hrel
            have Hk := Lib.hid hk; clear hk
            have HB := Lib.hid hB
            obtain ⟨hbl2, c0, c1, c2, c3, c4, c5, c6, c7, c8⟩ := hB
            dsimp only at c0 c1 c2 c3
            by_cases hlt : i1 < ne
            · obtain ⟨y, hy⟩ := get_some le.out hlt
              obtain ⟨pb, off, rfl, hpb, g1, g2, g3⟩ := he.elemB hb hy
              have Hd := Lib.hid (drop_cons hy)
              clear hy
              have Hb3 := Lib.hid hb; clear hb
              by_cases h4 : y.kind = 4
              · have k4 : (y.kind == 4) = true := by simp [h4]
                have Hc := Lib.hid (refnext_l (a := (i1 : Int)) (b := 0) (hP.out.below Hb3.out))
                cases hx : nextOf p ⟨(i1 : Int), 0⟩ with
                | none =>
                  have Hq2 := Lib.hid (show joinedOk p = false by
                    have := hr.out
                    rw [Hd.out, gateGo, if_pos h4, hx] at this
                    rw [Hq.out, ← this]; rfl)
                  clear h4
                  go_wp2_with fail
                  refine Hc.out.mono ?_
                  rintro e w2 ⟨rfl, hb2⟩
                  rw [hx]
                  dsimp only [Option.getD_none, Option.isSome_none, zeroPort]
                  have Hb4 := Lib.hid (below_step Hb3.out hb2 Hb3.out.size); clear hb2
                  go_wp2_with fail
                  go_ret
                  exact ⟨ret_bool Hq2.out.symm, below_step Hb4.out (by repeat (first | with_reducible exact Below.refl _ _ | with_reducible assumption | with_reducible apply below_drewN | with_reducible apply Below.drew | with_reducible refine Below.alloc ?_ (by simp <;> omega) _)) Hb4.out.size⟩
                | some x =>
                  have hgx := hr.out
                  rw [Hd.out, gateGo, if_pos h4, hx] at hgx
                  have Hgx := Lib.hid hgx; clear hgx
                  clear h4
                  go_wp2_with fail
                  refine Hc.out.mono ?_
                  rintro e w2 ⟨rfl, hb2⟩
                  rw [hx]
                  dsimp only [Option.getD_some, Option.isSome_some]
                  have HBx := Lib.hid (HB.out.below hb2)
                  have Hb4 := Lib.hid (below_step Hb3.out hb2 Hb3.out.size); clear hb2
                  clear c0 c1 c2 c3 c4 c5 c6 c7 c8 g1 g2 g3 hbl2
                  obtain ⟨hbl3, c0, c1, c2, c3, c4, c5, c6, c7, c8⟩ := HBx.out.alloc (.cells #[.int .i64 x.e, .int .i64 x.n] 43)
                  dsimp only at c0 c1 c2 c3
                  go_wp2_with fail
                  refine (kindU_l (hP.out.below (below_step Hb4.out (by repeat (first | with_reducible exact Below.refl _ _ | with_reducible assumption | with_reducible apply below_drewN | with_reducible apply Below.drew | with_reducible refine Below.alloc ?_ (by simp <;> omega) _)) Hb4.out.size))).mono ?_
                  rintro e w3 ⟨rfl, hb3⟩
                  have HB3 := Lib.hid ((HBx.out.alloc (.cells #[.int .i64 x.e, .int .i64 x.n] 43)).below hb3)
                  have Hb5 := Lib.hid (below_step (Hb4.out.alloc Hb4.out.size (.cells #[.int .i64 x.e, .int .i64 x.n] 43)) hb3 (by have := Hb4.out.size; simp; omega))
                  clear hb3 c0 c1 c2 c3 c4 c5 c6 c7 c8
                  by_cases hk4 : p.kind x.e = 4
                  · have q4 : (p.kind x.e == 4) = true := by simp [hk4]
                    have Hq2 := Lib.hid (show joinedOk p = false by rw [Hq.out, ← Hgx.out]; simp [hk4])
                    clear hk4
                    go_wp2_with fail
                    go_ret
                    exact ⟨ret_bool Hq2.out.symm, Hb5.out⟩
                  · have q4 : (p.kind x.e == 4) = false := by simp [hk4]
                    have Hn := Lib.hid (show gateGo p (nextOf p) (i1 + 1) (p.elems.drop (i1 + 1)) = gateGo p (nextOf p) 0 p.elems by rw [← Hgx.out]; simp [hk4])
                    clear hk4
                    go_wp2_with fail
                    go_roundg (gk - 1)
                    case measure => have := Hk.out; omega
                    case rel => exact ⟨i1 + 1, by have := Hk.out; omega, by go_num, Hn.out, HB3.out, Hb5.out⟩
              · have k4 : (y.kind == 4) = false := by simp [h4]
                have Hn := Lib.hid (show gateGo p (nextOf p) (i1 + 1) (p.elems.drop (i1 + 1)) = gateGo p (nextOf p) 0 p.elems by
                  have := hr.out; rw [Hd.out, gateGo, if_neg h4] at this
                  rw [← this]; simp)
                clear h4
                go_wp2_with fail
                go_roundg (gk - 1)
                case measure => have := Hk.out; omega
                case rel => exact ⟨i1 + 1, by have := Hk.out; omega, by go_num, Hn.out, HB.out, Hb3.out⟩
            · have Hq2 := Lib.hid (show joinedOk p = true by
                have := hr.out; rw [drop_end le.out (by omega)] at this
                rw [Hq.out, ← this]; rfl)
              go_wp2_with fail
              go_ret
              exact ⟨ret_bool Hq2.out.symm, hb⟩
end Go.Proofs.YtcaeglnfflkabaaGreat
