/- Walks of Through and From (net.Net and semaphoreref6), semaphoreref6.At and LineOf. Condition: the receiver is a net; the plan is read. -/
import Derived.Test.YtlndfmflbdkpjaaNetM2
set_option maxRecDepth 1000000
namespace Go.Proofs.Ytlndfmflbdkpjaa
open Go.ChangeShapes Go.WideShapes Go.ChangeAt Go.RowKit Go.Sort

theorem opti_none {x : Option Int} (h : x = none) : Ending.returned (.tuple #[.int .i64 0, .bool false]) = .returned (.tuple #[.int .i64 ((x).getD 0), .bool (x).isSome]) := by rw [h]; rfl
theorem opti_some {x : Option Int} {y : Int} (h : x = some y) : Ending.returned (.tuple #[.int .i64 y, .bool true]) = .returned (.tuple #[.int .i64 ((x).getD 0), .bool (x).isSome]) := by rw [h]; rfl
theorem wayGo_yes {pos : Int} {l : List Way} {j : Nat} {x : Way} (h : l[j]? = some x) (hp : x.pos = 0 ∨ x.pos = pos) : wayGo pos (l.drop j) = some x.out := by
  rw [drop_cons h, wayGo, if_pos hp]
theorem wayGo_no {pos : Int} {l : List Way} {j : Nat} {x : Way} (h : l[j]? = some x) (hp : ¬ (x.pos = 0 ∨ x.pos = pos)) : wayGo pos (l.drop j) = wayGo pos (l.drop (j + 1)) := by
  rw [drop_cons h, wayGo, if_neg hp]
set_option maxHeartbeats 400000 in
theorem nthrough_any (w : World) (b : Nat) (p : Plan) (h : NetAt w b p) (e i pos : Int) :
    Calls Try.prog 36 #[.pointer (some ⟨b, 0, none⟩), .int .i64 e, .int .i64 i, .int .i64 pos] w fun en w' => en = .returned (.tuple #[.int .i64 ((through p e i pos).getD 0), .bool (through p e i pos).isSome]) ∧ Below w.heap.size w w' := by
  have H := Lib.hid (nouts_any w b p h e i)
  clear h
  go_enter Try.func36, Try.ntmps36
  go_wp2_with fail
  refine H.out.mono ?_
  rintro en w1 ⟨a, n, c, rfl, hr, hn, hb⟩
  have Hr := Lib.hid hr
  have Hb := Lib.hid hb
  have hl := Lib.hid hr.len
  clear hr hb
  go_wp2_with fail
  go_loopg [17] n (fun k i' wr => ∃ j : Nat, j + k = n ∧ i' = .int .i64 j ∧ Hid (wayGo pos ((outs p e i).drop j) = through p e i pos) ∧ Below w1.heap.size w1 wr)
  case atStart => exact ⟨0, by omega, rfl, rfl, Below.refl _ _⟩
  case round =>
    obtain ⟨j, hk, rfl, hw, hb⟩ := hrel
    have Hk := Lib.hid hk; clear hk
    have Hbr := Lib.hid hb; clear hb
    by_cases hlt : j < n
    · obtain ⟨x, hx⟩ := get_some hl.out hlt
      obtain ⟨pb, off, rfl, hpb, g1, g2⟩ := Hr.out.way hx
      have g1 := (Hbr.out.cell (p := ⟨pb, off + j * 2, none⟩) hpb).trans g1
      have g2 := (Hbr.out.cell (p := ⟨pb, off + j * 2 + 1, none⟩) hpb).trans g2
      have Hx := Lib.hid hx; clear hx
      have hsz := Hbr.out.size
      by_cases p0 : x.pos = 0
      · have Hs := Lib.hid (show through p e i pos = some x.out by rw [← hw.out]; exact wayGo_yes Hx.out (.inl p0))
        rw [p0] at g2
        clear p0
        go_wp2_with fail
        go_ret2
        exact ⟨opti_some Hs.out, below_step Hb.out (Hbr.out.alloc hsz _) Hb.out.size⟩
      · have q0 : (x.pos == 0) = false := by simpa using p0
        by_cases p1 : x.pos = pos
        · have Hs := Lib.hid (show through p e i pos = some x.out by rw [← hw.out]; exact wayGo_yes Hx.out (.inr p1))
          have q1 : (x.pos == pos) = true := by simpa using p1
          clear p0 p1
          go_wp2_with fail
          go_ret2
          exact ⟨opti_some Hs.out, below_step Hb.out (Hbr.out.alloc hsz _) Hb.out.size⟩
        · have Hs := Lib.hid (show wayGo pos ((outs p e i).drop (j + 1)) = through p e i pos by rw [← hw.out]; exact (wayGo_no Hx.out (by intro q; rcases q with q | q; exact p0 q; exact p1 q)).symm)
          have q1 : (x.pos == pos) = false := by simpa using p1
          clear p0 p1
          go_wp2_with fail
          go_roundg (gk - 1)
          case measure => have := Hk.out; omega
          case rel => exact ⟨j + 1, by have := Hk.out; omega, by go_num, Hs.out, Hbr.out.alloc hsz _⟩
    · have Hs := Lib.hid (show through p e i pos = none by rw [← hw.out, drop_end hl.out (by omega)]; rfl)
      go_wp2_with fail
      go_ret2
      exact ⟨opti_none Hs.out, below_step Hb.out Hbr.out Hb.out.size⟩
theorem nfrom_any (w : World) (b : Nat) (p : Plan) (h : NetAt w b p) (e i pos : Int) :
    Calls Try.prog 38 #[.pointer (some ⟨b, 0, none⟩), .int .i64 e, .int .i64 i, .int .i64 pos] w fun en w' => en = .returned (.tuple #[.int .i64 ((through p e i pos).getD 0), .bool (through p e i pos).isSome]) ∧ Below w.heap.size w w' := by
  have H := Lib.hid (nthrough_any w b p h e i pos)
  clear h
  go_enter Try.func38, Try.ntmps38
  go_wp2_with fail
  refine H.out.mono ?_
  rintro en w1 ⟨rfl, hb⟩
  go_wp2_with fail
  go_ret2
  exact ⟨rfl, hb⟩
set_option maxHeartbeats 400000 in
theorem refthrough_any (w : World) (pv : PV) (p : Plan) (h : PlanAt w pv p) (e i pos : Int) :
    Calls Try.prog 37 #[pv.val p, .int .i64 e, .int .i64 i, .int .i64 pos] w fun en w' => en = .returned (.tuple #[.int .i64 ((through p e i pos).getD 0), .bool (through p e i pos).isSome]) ∧ Below w.heap.size w w' := by
  obtain ⟨ae, ne, ce, aj, nj, cj, as_, ns, cs, al, nl, cl, lv⟩ := pv
  have Hba := Lib.hid (below_new w (.cells #[.slice ae ne ce, .slice aj nj cj, .slice as_ ns cs, .slice al nl cl, .int .i64 p.top, .int .i64 p.brake, .int .i64 p.margin, .int .i64 p.throw, .bool p.hard] 32))
  have HBa := Lib.hid (pbox_new w ⟨ae, ne, ce, aj, nj, cj, as_, ns, cs, al, nl, cl, lv⟩ p)
  have H := Lib.hid (refouts_any (w.alloc (.cells #[.slice ae ne ce, .slice aj nj cj, .slice as_ ns cs, .slice al nl cl, .int .i64 p.top, .int .i64 p.brake, .int .i64 p.margin, .int .i64 p.throw, .bool p.hard] 32)) ⟨ae, ne, ce, aj, nj, cj, as_, ns, cs, al, nl, cl, lv⟩ p (h.below Hba.out) e i)
  clear h
  dsimp only [PV.val] at H ⊢
  obtain ⟨_, c0, c1, c2, c3, c4, c5, c6, c7, c8⟩ := HBa.out
  dsimp only at c0 c1 c2 c3
  go_enter Try.func37, Try.ntmps37
  go_wp2_with fail
  refine H.out.mono ?_
  rintro en w1 ⟨a, n, c, rfl, hr, hn, hb⟩
  have Hr := Lib.hid hr
  have Hb := Lib.hid (below_step Hba.out hb Hba.out.size)
  have hl := Lib.hid hr.len
  clear hr hb c0 c1 c2 c3 c4 c5 c6 c7 c8
  go_wp2_with fail
  go_loopg [11] n (fun k i' wr => ∃ j : Nat, j + k = n ∧ i' = .int .i64 j ∧ Hid (wayGo pos ((outs p e i).drop j) = through p e i pos) ∧ wr = w1)
  case atStart => exact ⟨0, by omega, rfl, rfl, rfl⟩
  case round =>
    obtain ⟨j, hk, rfl, hw, rfl⟩ := hrel
    have Hk := Lib.hid hk; clear hk
    by_cases hlt : j < n
    · obtain ⟨x, hx⟩ := get_some hl.out hlt
      obtain ⟨pb, off, rfl, hpb, g1, g2⟩ := Hr.out.way hx
      have Hx := Lib.hid hx; clear hx
      by_cases p0 : x.pos = 0
      · have Hs := Lib.hid (show through p e i pos = some x.out by rw [← hw.out]; exact wayGo_yes Hx.out (.inl p0))
        rw [p0] at g2
        clear p0
        go_wp2_with fail
        go_ret2
        exact ⟨opti_some Hs.out, Hb.out⟩
      · have q0 : (x.pos == 0) = false := by simpa using p0
        by_cases p1 : x.pos = pos
        · have Hs := Lib.hid (show through p e i pos = some x.out by rw [← hw.out]; exact wayGo_yes Hx.out (.inr p1))
          have q1 : (x.pos == pos) = true := by simpa using p1
          clear p0 p1
          go_wp2_with fail
          go_ret2
          exact ⟨opti_some Hs.out, Hb.out⟩
        · have Hs := Lib.hid (show wayGo pos ((outs p e i).drop (j + 1)) = through p e i pos by rw [← hw.out]; exact (wayGo_no Hx.out (by intro q; rcases q with q | q; exact p0 q; exact p1 q)).symm)
          have q1 : (x.pos == pos) = false := by simpa using p1
          clear p0 p1
          go_wp2_with fail
          go_roundg (gk - 1)
          case measure => have := Hk.out; omega
          case rel => exact ⟨j + 1, by have := Hk.out; omega, by go_num, Hs.out, rfl⟩
    · have Hs := Lib.hid (show through p e i pos = none by rw [← hw.out, drop_end hl.out (by omega)]; rfl)
      go_wp2_with fail
      go_ret2
      exact ⟨opti_none Hs.out, Hb.out⟩
theorem from_step {p : Plan} {e out pos : Int} {k : Nat} {i : Int} {r : Option Int} (h : fromGo p e out pos (k + 1) i = r) (hn : through p e i pos ≠ some out) : fromGo p e out pos k (i + 1) = r := by
  rw [fromGo, if_neg hn] at h; exact h
theorem from_hit {p : Plan} {e out pos : Int} {k : Nat} {i : Int} {r : Option Int} (h : fromGo p e out pos (k + 1) i = r) (hn : through p e i pos = some out) : r = some i := by
  rw [fromGo, if_pos hn] at h; exact h.symm
set_option maxHeartbeats 400000 in
theorem reffrom_any (w : World) (pv : PV) (p : Plan) (h : PlanAt w pv p) (e out pos : Int) :
    Calls Try.prog 39 #[pv.val p, .int .i64 e, .int .i64 out, .int .i64 pos] w fun en w' => en = .returned (.tuple #[.int .i64 ((fromRef p e out pos).getD 0), .bool (fromRef p e out pos).isSome]) ∧ Below w.heap.size w w' := by
  obtain ⟨ae, ne, ce, aj, nj, cj, as_, ns, cs, al, nl, cl, lv⟩ := pv
  have Hba := Lib.hid (below_new w (.cells #[.slice ae ne ce, .slice aj nj cj, .slice as_ ns cs, .slice al nl cl, .int .i64 p.top, .int .i64 p.brake, .int .i64 p.margin, .int .i64 p.throw, .bool p.hard] 32))
  have HBa := Lib.hid (pbox_new w ⟨ae, ne, ce, aj, nj, cj, as_, ns, cs, al, nl, cl, lv⟩ p)
  have hP := Lib.hid h
  have he0 := ends_nonneg (p.kind e)
  obtain ⟨n, hn⟩ : ∃ n : Nat, (n : Int) = ends (p.kind e) := ⟨(ends (p.kind e)).toNat, by omega⟩
  have hn4 : n ≤ 4 := by omega
  have Hn := Lib.hid hn
  have Hs0 := Lib.hid (show fromGo p e out pos n 0 = fromRef p e out pos by unfold fromRef; rw [← hn]; rfl)
  clear h hn he0
  dsimp only [PV.val]
  go_enter Try.func39, Try.ntmps39
  go_wp2_with fail
  go_loopg [10] n (fun k i' wr => ∃ j : Nat, j + k = n ∧ i' = .int .i64 j ∧ Hid (fromGo p e out pos k (j : Int) = fromRef p e out pos) ∧ PBox wr w.heap.size ⟨ae, ne, ce, aj, nj, cj, as_, ns, cs, al, nl, cl, lv⟩ p ∧ Below w.heap.size w wr)
  case atStart => exact ⟨0, by omega, rfl, Hs0, HBa.out, Hba.out⟩
  case round =>
    clear HBa Hba Hs0
    obtain ⟨j, hk, rfl, hw, hB, hb⟩ := hrel
    have Hk := Lib.hid hk; clear hk
    have HB := Lib.hid hB; clear hB
    have Hb := Lib.hid hb; clear hb
    have HK := Lib.hid (kindU_any wr ⟨ae, ne, ce, aj, nj, cj, as_, ns, cs, al, nl, cl, lv⟩ p e (hP.out.below Hb.out))
    dsimp only [PV.val] at HK
    have HE := Lib.hid (show ∀ u : World, Calls Try.prog 20 #[.int .i64 (p.kind e)] u fun en w' => en = .returned (.int .i64 n) ∧ u = w' from fun u => by rw [Hn.out]; exact refends_any _ u)
    obtain ⟨_, c0, c1, c2, c3, c4, c5, c6, c7, c8⟩ := HB.out
    dsimp only at c0 c1 c2 c3
    cases gk with
    | zero =>
      have Hs := Lib.hid (show fromRef p e out pos = none from hw.out.symm)
      have Hj := Hk.out
      go_wp2_with fail
      refine HK.out.mono ?_
      rintro en w1 ⟨rfl, hb1⟩
      go_wp2_with fail
      refine (HE.out w1).mono ?_
      rintro en w2 ⟨rfl, rfl⟩
      go_wp2_with fail
      go_ret2
      exact ⟨opti_none Hs.out, below_step Hb.out hb1 Hb.out.size⟩
    | succ k =>
      have hlt : j < n := by have := Hk.out; omega
      go_wp2_with fail
      refine HK.out.mono ?_
      rintro en w1 ⟨rfl, hb1⟩
      have Hb1 := Lib.hid (below_step Hb.out hb1 Hb.out.size)
      have HB1 := Lib.hid (HB.out.below hb1)
      clear hb1 c0 c1 c2 c3 c4 c5 c6 c7 c8
      go_wp2_with fail
      refine (HE.out w1).mono ?_
      rintro en w2 ⟨rfl, rfl⟩
      have HT := Lib.hid (refthrough_any w1 ⟨ae, ne, ce, aj, nj, cj, as_, ns, cs, al, nl, cl, lv⟩ p (hP.out.below Hb1.out) e (j : Int) pos)
      dsimp only [PV.val] at HT
      obtain ⟨_, c0, c1, c2, c3, c4, c5, c6, c7, c8⟩ := HB1.out
      dsimp only at c0 c1 c2 c3
      cases ht : through p e (j : Int) pos with
      | none =>
        have Hs := Lib.hid (from_step hw.out (by rw [ht]; simp))
        rw [ht] at HT
        clear ht
        go_wp2_with fail
        refine HT.out.mono ?_
        rintro en w2 ⟨rfl, hb2⟩
        have Hb2 := Lib.hid (below_step Hb1.out hb2 Hb1.out.size)
        have HB2 := Lib.hid (HB1.out.below hb2)
        clear hb2 c0 c1 c2 c3 c4 c5 c6 c7 c8
        go_wp2_with fail
        go_roundg k
        case measure => omega
        case rel => exact ⟨j + 1, by have := Hk.out; omega, by go_num, Hs.out, HB2.out, Hb2.out⟩
      | some o =>
        rw [ht] at HT
        dsimp only [Option.getD_some, Option.isSome_some] at HT
        by_cases ho : o = out
        · have Hs := Lib.hid (from_hit hw.out (by rw [ht, ho]))
          have q1 : (o == out) = true := by simpa using ho
          clear ht ho
          go_wp2_with fail
          refine HT.out.mono ?_
          rintro en w2 ⟨rfl, hb2⟩
          have Hb2 := Lib.hid (below_step Hb1.out hb2 Hb1.out.size)
          clear hb2 c0 c1 c2 c3 c4 c5 c6 c7 c8
          go_wp2_with fail
          go_ret2
          exact ⟨opti_some Hs.out, Hb2.out⟩
        · have Hs := Lib.hid (from_step hw.out (by rw [ht]; simpa using ho))
          have q1 : (o == out) = false := by simpa using ho
          clear ht ho
          go_wp2_with fail
          refine HT.out.mono ?_
          rintro en w2 ⟨rfl, hb2⟩
          have Hb2 := Lib.hid (below_step Hb1.out hb2 Hb1.out.size)
          have HB2 := Lib.hid (HB1.out.below hb2)
          clear hb2 c0 c1 c2 c3 c4 c5 c6 c7 c8
          go_wp2_with fail
          go_roundg k
          case measure => omega
          case rel => exact ⟨j + 1, by have := Hk.out; omega, by go_num, Hs.out, HB2.out, Hb2.out⟩
theorem refat_any (w : World) (pv : PV) (p : Plan) (h : PlanAt w pv p) (s : Int) :
    Calls Try.prog 51 #[pv.val p, .int .i64 s] w fun en w' => en = .returned (.tuple #[.agg #[.int .i64 ((sigAt p s).getD zeroPort).e, .int .i64 ((sigAt p s).getD zeroPort).n], .bool (sigAt p s).isSome]) ∧ Below w.heap.size w w' := by
  obtain ⟨ae, ne, ce, aj, nj, cj, as_, ns, cs, al, nl, cl, lv⟩ := pv
  have HBa := Lib.hid (pbox_new w ⟨ae, ne, ce, aj, nj, cj, as_, ns, cs, al, nl, cl, lv⟩ p)
  have he : Sigs w as_ ns p.sigs := h.s
  have hl : p.sigs.length = ns := he.len
  have hbd := he.bnd
  clear h
  dsimp only [PV.val]
  by_cases a1 : s < 0
  · have Hs := Lib.hid (sigAt_none (p := p) (s := s) (.inl a1))
    clear he hl
    go_enter Try.func51, Try.ntmps51
    go_wp2_with fail
    exact bodyPost_ret (v := .tuple #[.agg #[.int .i64 0, .int .i64 0], .bool false]) (by simp [results, Try.results51, go_sem]) rfl ⟨opt_none Hs.out, (by repeat (first | with_reducible exact Below.refl _ _ | with_reducible assumption | with_reducible exact below_new _ _ | with_reducible apply below_drewN | with_reducible apply Below.drew | with_reducible refine below_set (Nat.le_refl _) ?_ _ | ((with_reducible refine below_set ?_ ?_ _); omega) | with_reducible refine Below.alloc ?_ (by first | omega | (simp; omega) | simp) _))⟩
  by_cases a2 : (ns : Int) ≤ s
  · have Hs := Lib.hid (sigAt_none (p := p) (s := s) (.inr (by omega)))
    clear he hl
    go_enter Try.func51, Try.ntmps51
    go_wp2_with fail
    exact bodyPost_ret (v := .tuple #[.agg #[.int .i64 0, .int .i64 0], .bool false]) (by simp [results, Try.results51, go_sem]) rfl ⟨opt_none Hs.out, (by repeat (first | with_reducible exact Below.refl _ _ | with_reducible assumption | with_reducible exact below_new _ _ | with_reducible apply below_drewN | with_reducible apply Below.drew | with_reducible refine below_set (Nat.le_refl _) ?_ _ | ((with_reducible refine below_set ?_ ?_ _); omega) | with_reducible refine Below.alloc ?_ (by first | omega | (simp; omega) | simp) _))⟩
  have b1 : 0 ≤ s := by omega
  have b2 : s < ns := by omega
  obtain ⟨y, hy⟩ := get_some hl (show s.toNat < ns by omega)
  obtain ⟨g, off, ha, hb, g1, g2, g3, g4⟩ := he.sig hy
  have Hs := Lib.hid (show sigAt p s = some y.at_ by unfold sigAt; rw [if_pos b1, hy]; rfl)
  have Hy := Lib.hid hy; clear hy hl a1 a2 he
  rw [ha]
  go_enter Try.func51, Try.ntmps51
  go_wp2_with fail
  exact bodyPost_ret (v := .tuple #[.agg #[.int .i64 y.at_.e, .int .i64 y.at_.n], .bool true]) (by simp [results, Try.results51, go_sem]) rfl ⟨opt_some Hs.out, (by repeat (first | with_reducible exact Below.refl _ _ | with_reducible assumption | with_reducible exact below_new _ _ | with_reducible apply below_drewN | with_reducible apply Below.drew | with_reducible refine below_set (Nat.le_refl _) ?_ _ | ((with_reducible refine below_set ?_ ?_ _); omega) | with_reducible refine Below.alloc ?_ (by first | omega | (simp; omega) | simp) _))⟩
end Go.Proofs.Ytlndfmflbdkpjaa
