/- Walk of semaphoreref6.lines. No condition beyond the plan that is read, that its rows are not long, and that its joins join ports. -/
import Derived.Test.YtcaeglnfflkabaaGreatRefC6
import Derived.Test.YtcaeglnfflkabaaGreatPlanW8
set_option maxRecDepth 1000000
namespace Go.Proofs.YtcaeglnfflkabaaGreat
open Go.RowKit Go.Sort Go.ChangeShapes Go.WideShapes

def refRest (p : Plan) (lv : List LineV) (j : Nat) : Bool := refLineGo p (metOf (lv.take j)) ((lv.drop j).map LineV.line)
theorem refrest_step {p : Plan} {lv : List LineV} {j : Nat} {y : LineV} (h : lv[j]? = some y) :
  refRest p lv j = (metGo (metOf (lv.take j)) y.elems && entersOk p y.elems && refRest p lv (j + 1)) := by
 unfold refRest
 rw [drop_cons h, List.map_cons, refLineGo, met_take h]; rfl
theorem refrest_zero {p : Plan} {lv : List LineV} (h : p.lines = lv.map LineV.line) : refRest p lv 0 = linesOk p := by
 unfold refRest linesOk; rw [h, refLine_eq]; rfl
theorem met_hit {met l : List Int} {i : Nat} {x : Int} {q : Bool} (hx : l[i]? = some x) (hr : metGo (met ++ l.take i) (l.drop i) = q) (hm : x ∈ met ++ l.take i) : q = false := by
 rw [← hr, drop_cons hx, metGo]; simp [hm]
theorem met_next {met l : List Int} {i : Nat} {x : Int} {q : Bool} (hx : l[i]? = some x) (hr : metGo (met ++ l.take i) (l.drop i) = q) (hm : x ∉ met ++ l.take i) : metGo (met ++ l.take (i + 1)) (l.drop (i + 1)) = q := by
 rw [← hr, drop_cons hx, metGo, take_next hx, ← List.append_assoc]
 rw [show decide (x ∈ met ++ l.take i) = false by simpa using hm]; rfl
theorem metOf_len {lv : List LineV} (h : ∀ x ∈ lv, x.elems.length ≤ 1000) : (metOf lv).length ≤ 1000 * lv.length := by
 induction lv with
 | nil => simp [metOf]
 | cons y r ih =>
  have h1 := h y (by simp)
  have h2 := ih (fun x hx => h x (List.mem_cons_of_mem _ hx))
  unfold metOf at h2 ⊢
  simp only [List.flatMap_cons, List.length_append, List.length_cons]; omega

set_option maxHeartbeats 4000000 in
theorem reflines_any (w : World) (pv : PV) (p : Plan) (h : PlanAt w pv p) (hn : pv.nl ≤ 1000) (hn2 : ∀ x ∈ pv.lv, x.n ≤ 1000) (hp : ∀ x ∈ flatJoins p.joins, isPort p x = true) :
  Calls Tryz.prog 67 #[pv.val p] w fun e w' => e = .returned (.bool (linesOk p)) ∧ Below w.heap.size w w' := by
 obtain ⟨ae, ne, ce, aj, nj, cj, as_, ns, cs, al, nl, cl, lv⟩ := pv
 have hP := Lib.hid h
 have hlv : Lines w al nl lv := h.l
 have HL := Lib.hid h.lp
 have ll := Lib.hid hlv.row.len
 have bl := hlv.row.bnd
 have hn : nl ≤ 1000 := hn
 have Hn2 := Lib.hid (show ∀ x ∈ lv, x.n ≤ 1000 from hn2); clear hn2
 have Hints := Lib.hid hlv.ints
 have Hml := Lib.hid (show ∀ j, (metOf (lv.take j)).length ≤ 1000 * nl from fun j => by
  have := metOf_len (lv := lv.take j) (fun x hx => by
   have hx := List.mem_of_mem_take hx
   rw [(Hints.out x hx).len]; exact Hn2.out x hx)
  have hl := ll.out
  simp only [List.length_take] at this
  have : min j lv.length ≤ nl := by omega
  omega)
 have Hports := Lib.hid hp; clear hp
 have HB := Lib.hid (pbox_new w ⟨ae, ne, ce, aj, nj, cj, as_, ns, cs, al, nl, cl, lv⟩ p)
 obtain ⟨ii, hii, zi1, zi2, zi3⟩ := info_parts info_int2
 clear h
 dsimp only [PV.val]
 go_enter Tryz.func67, Tryz.ntmps67
 go_wp2_with fail
 go_loopg [3, 4] nl (fun k v i wr => ∃ (j : Nat), j + k = nl ∧ i = .int .i64 j ∧ Hid (refRest p lv j = linesOk p) ∧ OwnI wr (w.heap.size + 1) v (metOf (lv.take j)).length (metOf (lv.take j)) ∧ PBox wr w.heap.size ⟨ae, ne, ce, aj, nj, cj, as_, ns, cs, al, nl, cl, lv⟩ p ∧ Below w.heap.size w wr)
 case atStart => exact ⟨0, by omega, rfl, refrest_zero HL.out, own_nil _ _ _ _, HB.out, below_new _ _⟩
 case round =>
  clear HB
  obtain ⟨j, hk, rfl, hr, own, hB, hb⟩ := hrel
  have Hk := Lib.hid hk; clear hk
  have HBr := Lib.hid hB; clear hB
  have Own := Lib.hid own; clear own
  obtain ⟨_, c0, c1, c2, c3, c4, c5, c6, c7, c8⟩ := HBr.out
  dsimp only at c0 c1 c2 c3
  by_cases hlt : j < nl
  ·obtain ⟨y, hy⟩ := get_some ll.out hlt
   obtain ⟨pb, off, rfl, hpb, g1, g2⟩ := hlv.row.lineB hb hy
   have Hy := Lib.hid hy
   have hyi := Hints.out y (List.mem_of_getElem? hy)
   have hyn := Hn2.out y (List.mem_of_getElem? hy)
   have Hst := Lib.hid (refrest_step (p := p) hy); clear hy
   have Hyi := Lib.hid hyi
   have Hyl := Lib.hid hyi.len; clear hyi
   have Hbr := Lib.hid hb; clear hb
   obtain ⟨yname, ya, yn, yc, yel⟩ := y
   dsimp only at g1 g2 hyn Hst Hyi Hyl
   obtain ⟨met, hmet⟩ : ∃ met, metOf (lv.take j) = met := ⟨_, rfl⟩
   have Hmn := Lib.hid (Hml.out j)
   rw [hmet] at Own Hst Hmn
   have Hmet := Lib.hid hmet; clear hmet
   go_wp2_with fail
   go_loopg [3, 6] yn (fun k v i wr => ∃ (i2 : Nat), i2 + k = yn ∧ i = .int .i64 i2 ∧ Hid (metGo (met ++ yel.take i2) (yel.drop i2) = metGo met yel) ∧ OwnI wr (w.heap.size + 1) v (met.length + i2) (met ++ yel.take i2) ∧ PBox wr w.heap.size ⟨ae, ne, ce, aj, nj, cj, as_, ns, cs, some ⟨pb, off, none⟩, nl, cl, lv⟩ p ∧ Below w.heap.size w wr)
   case atStart => exact ⟨0, by omega, rfl, by simp [Hid], by simpa using Own.out, HBr.out, Hbr.out⟩
   case round =>
    clear HBr Hbr Own c0 c1 c2 c3 c4 c5 c6 c7 c8 g1 g2
    obtain ⟨i2, hk2, rfl, hr2, own, hB, hb⟩ := hrel
    have Hk2 := Lib.hid hk2; clear hk2
    have HBr := Lib.hid hB; clear hB
    have Hbr := Lib.hid hb; clear hb
    have Own := Lib.hid own; clear own
    by_cases hlt2 : i2 < yn
    ·obtain ⟨x, hx⟩ := get_some Hyl.out hlt2
     obtain ⟨pb2, off2, rfl, hpb2, g1⟩ := (Hyi.out.below Hbr.out).int hx
     have Hx := Lib.hid hx; clear hx
     obtain ⟨av, cv, rfl, _, _⟩ := own_slice Own.out
     have Hin := Lib.hid (refin_any wr av (met.length + i2) cv (met ++ yel.take i2) (own_ints Own.out).1 x)
     have hmn := Hmn.out
     by_cases hm : x ∈ met ++ yel.take i2
     ·have hmb := memB_iff.2 hm
      have Hq := Lib.hid (show linesOk p = false by
       rw [← hr.out, Hst.out, met_hit Hx.out hr2.out hm]; rfl)
      clear hm
      go_wp2_with fail
      refine Hin.out.mono ?_
      rintro e w' ⟨rfl, rfl⟩
      rw [hmb]
      go_wp2_with fail
      go_ret
      exact ⟨ret_bool Hq.out.symm, Hbr.out⟩
     ·have hmb : memB x (met ++ yel.take i2) = false := by rw [Bool.eq_false_iff]; intro e; exact hm (memB_iff.1 e)
      have Hn := Lib.hid (met_next Hx.out hr2.out hm)
      clear hm
      go_wp2_with fail
      refine Hin.out.mono ?_
      rintro e w' ⟨rfl, rfl⟩
      rw [hmb]
      go_wp2_with (at_builtin; refine wpList_append_own _ rfl _ _ 48 rfl (w.heap.size + 1) 3 ii (.int .i64 0) 1 8 Tryz.underlying48 hii zi1 zi2 zi3 rfl (by decide) _ _ _ rfl (Own.out.alloc _) ⟨wr.heap.size, 0, none⟩ 1 1 [.int .i64 x] rfl rfl (cell_one_new _ _ _) (one_int _ _) (by simp [maxLen]; omega) (by omega) (by have := Hbr.out.size; have := HBr.out.lt; simp; omega) ?_)
      intro v' w4 hown4 hgrow4 _
      have hb4 := Lib.hid (grown_below (Hbr.out.alloc Hbr.out.size (.cells #[.int .i64 x] 3)) (Own.out.alloc (.cells #[.int .i64 x] 3)) (by omega) (by have := Hbr.out.size; simp; omega) hgrow4)
      have hB4 := Lib.hid ((HBr.out.alloc (.cells #[.int .i64 x] 3)).kept hgrow4 (own_ne (Own.out.alloc (.cells #[.int .i64 x] 3)) (by omega)))
      have Own4 := Lib.hid (show OwnI w4 (w.heap.size + 1) v' (met.length + (i2 + 1)) (met ++ yel.take (i2 + 1)) by rw [take_next Hx.out, ← List.append_assoc]; simpa [OwnI, Nat.add_assoc] using hown4); clear hown4 hgrow4
      go_wp2_with fail
      go_roundg (yn - i2 - 1)
      case measure => have := Hk2.out; omega
      case rel => exact ⟨i2 + 1, by have := Hk2.out; omega, by go_num, Hn.out, Own4.out, hB4.out, hb4.out⟩
    ·have Hmg := Lib.hid (show metGo met yel = true by rw [← hr2.out, drop_end Hyl.out (by omega)]; rfl)
     have hi2 : yn = i2 := by have := Hk2.out; omega
     subst hi2
     have OwnE := Lib.hid (show OwnI wr (w.heap.size + 1) u3 (metOf (lv.take (j + 1))).length (metOf (lv.take (j + 1))) by
      have := Own.out
      rw [List.take_of_length_le (by have := Hyl.out; omega)] at this
      rw [met_take Hy.out, Hmet.out, List.length_append, Hyl.out]; exact this)
     clear Own hr2 hlt2 Hk2
     obtain ⟨_, c0, c1, c2, c3, c4, c5, c6, c7, c8⟩ := HBr.out
     dsimp only at c0 c1 c2 c3
     go_wp2_with fail
     refine (refenters_any _ ⟨ae, ne, ce, aj, nj, cj, as_, ns, cs, some ⟨pb, off, none⟩, nl, cl, lv⟩ p ya yn yc yel (hP.out.below Hbr.out) (Hyi.out.below Hbr.out) hyn Hports.out).mono ?_
     rintro e w2 ⟨ea, en, ec, rfl, -, hbx⟩
     have OwnF := Lib.hid (owns_below OwnE.out hbx)
     have HB2 := Lib.hid (HBr.out.below hbx)
     have Hb2 := Lib.hid (below_step Hbr.out hbx Hbr.out.size)
     clear hbx
     rw [enters_isSome]
     cases hen : entersOk p yel
     ·have Hq := Lib.hid (show linesOk p = false by rw [← hr.out, Hst.out, Hmg.out, hen]; rfl)
      go_wp2_with fail
      go_ret
      exact ⟨ret_bool Hq.out.symm, Hb2.out⟩
     ·have Hn := Lib.hid (show refRest p lv (j + 1) = linesOk p by rw [← hr.out, Hst.out, Hmg.out, hen]; rfl)
      go_wp2_with fail
      go_roundg (nl - j - 1)
      case measure => have := Hk.out; omega
      case rel => exact ⟨j + 1, by have := Hk.out; omega, by go_num, Hn.out, OwnF.out, HB2.out, Hb2.out⟩
  ·have Hq := Lib.hid (show linesOk p = true by
    rw [← hr.out]; unfold refRest; rw [drop_end ll.out (by omega)]; rfl)
   go_wp2_with fail
   go_ret
   exact ⟨ret_bool Hq.out.symm, hb⟩
end Go.Proofs.YtcaeglnfflkabaaGreat

/- Walks of semaphoreref6.Check and Fine. No condition beyond the plan that is read, and that its block lines are not long. -/
set_option maxRecDepth 1000000
namespace Go.Proofs.YtcaeglnfflkabaaGreat
open Go.RowKit Go.Sort Go.ChangeShapes Go.WideShapes

theorem argsOk_nums {p : Plan} (h : argsOk p = true) : numsOk p = true := by
 unfold argsOk at h; simp only [Bool.and_eq_true] at h; exact h.1
theorem joinedOk_ports {p : Plan} (h : joinedOk p = true) : ∀ x ∈ flatJoins p.joins, isPort p x = true := by
 unfold joinedOk at h; simp only [Bool.and_eq_true] at h; exact (joinGo_ok _ _ h.1).2.2
section
variable {w : World} {ae aj as_ al : Option Addr} {ne ce nj cj ns cs nl cl : Nat} {lv : List LineV} {p : Plan}
theorem names_l (h : PlanAt w ⟨ae, ne, ce, aj, nj, cj, as_, ns, cs, al, nl, cl, lv⟩ p) (h1 : ne ≤ 1000) (h2 : ns ≤ 1000) (h3 : nl ≤ 1000) : Calls Tryz.prog 62 #[.agg #[.slice ae ne ce, .slice aj nj cj, .slice as_ ns cs, .slice al nl cl, .int .i64 p.top, .int .i64 p.brake, .int .i64 p.margin, .int .i64 p.throw, .bool p.hard]] w (NamesPost w p) := names_any w ⟨ae, ne, ce, aj, nj, cj, as_, ns, cs, al, nl, cl, lv⟩ p h h1 h2 h3
theorem refargs_l (h : PlanAt w ⟨ae, ne, ce, aj, nj, cj, as_, ns, cs, al, nl, cl, lv⟩ p) : Calls Tryz.prog 63 #[.agg #[.slice ae ne ce, .slice aj nj cj, .slice as_ ns cs, .slice al nl cl, .int .i64 p.top, .int .i64 p.brake, .int .i64 p.margin, .int .i64 p.throw, .bool p.hard]] w fun e w' => e = .returned (.bool (argsOk p)) ∧ Below w.heap.size w w' := args_any w ⟨ae, ne, ce, aj, nj, cj, as_, ns, cs, al, nl, cl, lv⟩ p h
theorem refjoined_l (h : PlanAt w ⟨ae, ne, ce, aj, nj, cj, as_, ns, cs, al, nl, cl, lv⟩ p) (hn : nj ≤ 1000) : Calls Tryz.prog 65 #[.agg #[.slice ae ne ce, .slice aj nj cj, .slice as_ ns cs, .slice al nl cl, .int .i64 p.top, .int .i64 p.brake, .int .i64 p.margin, .int .i64 p.throw, .bool p.hard]] w fun e w' => e = .returned (.bool (joinedOk p)) ∧ Below w.heap.size w w' := refjoined_any w ⟨ae, ne, ce, aj, nj, cj, as_, ns, cs, al, nl, cl, lv⟩ p h hn
theorem refsignals_l (h : PlanAt w ⟨ae, ne, ce, aj, nj, cj, as_, ns, cs, al, nl, cl, lv⟩ p) : Calls Tryz.prog 66 #[.agg #[.slice ae ne ce, .slice aj nj cj, .slice as_ ns cs, .slice al nl cl, .int .i64 p.top, .int .i64 p.brake, .int .i64 p.margin, .int .i64 p.throw, .bool p.hard]] w fun e w' => e = .returned (.bool (signalsOk p)) ∧ Below w.heap.size w w' := refsignals_any w ⟨ae, ne, ce, aj, nj, cj, as_, ns, cs, al, nl, cl, lv⟩ p h
theorem reflines_l (h : PlanAt w ⟨ae, ne, ce, aj, nj, cj, as_, ns, cs, al, nl, cl, lv⟩ p) (hn : nl ≤ 1000) (hn2 : ∀ x ∈ lv, x.n ≤ 1000) (hp : ∀ x ∈ flatJoins p.joins, isPort p x = true) : Calls Tryz.prog 67 #[.agg #[.slice ae ne ce, .slice aj nj cj, .slice as_ ns cs, .slice al nl cl, .int .i64 p.top, .int .i64 p.brake, .int .i64 p.margin, .int .i64 p.throw, .bool p.hard]] w fun e w' => e = .returned (.bool (linesOk p)) ∧ Below w.heap.size w w' := reflines_any w ⟨ae, ne, ce, aj, nj, cj, as_, ns, cs, al, nl, cl, lv⟩ p h hn hn2 hp
theorem reflong_l (h : PlanAt w ⟨ae, ne, ce, aj, nj, cj, as_, ns, cs, al, nl, cl, lv⟩ p) (hn : numsOk p = true) : Calls Tryz.prog 68 #[.agg #[.slice ae ne ce, .slice aj nj cj, .slice as_ ns cs, .slice al nl cl, .int .i64 p.top, .int .i64 p.brake, .int .i64 p.margin, .int .i64 p.throw, .bool p.hard]] w fun e w' => e = .returned (.bool (longOk p)) ∧ Below w.heap.size w w' := reflong_any w ⟨ae, ne, ce, aj, nj, cj, as_, ns, cs, al, nl, cl, lv⟩ p h hn
end
theorem reftwice_l {w : World} {a : Option Addr} {n c : Nat} {xs : List ByteArray} (h : Strs w a n xs) : Calls Tryz.prog 64 #[.slice a n c] w fun e w' => e = .returned (.bool (dup xs)) ∧ Below w.heap.size w w' :=
 (reftwice_any w a n c xs h).mono fun e w' ⟨h1, q, h2⟩ => ⟨h1, by rw [h2]; exact below_drewN (Below.refl _ _) q⟩


set_option maxHeartbeats 4000000 in
theorem refcheck_any (w : World) (pv : PV) (p : Plan) (h : PlanAt w pv p) (hn2 : ∀ x ∈ pv.lv, x.n ≤ 1000) :
  Calls Tryz.prog 27 #[pv.val p] w fun e w' => e = .returned (.int .i64 (chk p)) ∧ Below w.heap.size w w' := by
 obtain ⟨ae, ne, ce, aj, nj, cj, as_, ns, cs, al, nl, cl, lv⟩ := pv
 have hP := Lib.hid h
 have le := Lib.hid (show p.elems.length = ne from h.e.len)
 have lj := Lib.hid (show p.joins.length = nj from h.j.len)
 have ls := Lib.hid (show p.sigs.length = ns from h.s.len)
 have ll := Lib.hid (show p.lines.length = nl by rw [h.lp, List.length_map]; exact h.l.row.len)
 have be := h.e.bnd
 have bj := h.j.bnd
 have bs := h.s.bnd
 have bl := h.l.row.bnd
 have Hn2 := Lib.hid (show ∀ x ∈ lv, x.n ≤ 1000 from hn2); clear hn2
 have HBa := Lib.hid (pbox_new w ⟨ae, ne, ce, aj, nj, cj, as_, ns, cs, al, nl, cl, lv⟩ p)
 have Hba := Lib.hid (below_new w (.cells #[.slice ae ne ce, .slice aj nj cj, .slice as_ ns cs, .slice al nl cl, .int .i64 p.top, .int .i64 p.brake, .int .i64 p.margin, .int .i64 p.throw, .bool p.hard] 27))
 clear h
 dsimp only [PV.val]
 by_cases t1 : 40 < ne
 ·have Hq := Lib.hid (show chk p = 3 by unfold chk tooMuch; simp [le.out, t1])
  go_enter Tryz.func27, Tryz.ntmps27
  go_wp2_with fail
  go_ret
  exact ⟨ret_int Hq.out.symm, Hba.out⟩
 by_cases t2 : 24 < ns
 ·have Hq := Lib.hid (show chk p = 3 by unfold chk tooMuch; simp [ls.out, t2])
  go_enter Tryz.func27, Tryz.ntmps27
  go_wp2_with fail
  go_ret
  exact ⟨ret_int Hq.out.symm, Hba.out⟩
 by_cases t3 : 4 < nl
 ·have Hq := Lib.hid (show chk p = 3 by unfold chk tooMuch; simp [ll.out, t3])
  go_enter Tryz.func27, Tryz.ntmps27
  go_wp2_with fail
  go_ret
  exact ⟨ret_int Hq.out.symm, Hba.out⟩
 by_cases t4 : 80 < nj
 ·have Hq := Lib.hid (show chk p = 3 by unfold chk tooMuch; simp [lj.out, t4])
  go_enter Tryz.func27, Tryz.ntmps27
  go_wp2_with fail
  go_ret
  exact ⟨ret_int Hq.out.symm, Hba.out⟩
 have Hq := Lib.hid (show chk p = if !argsOk p then 1 else if namesTwice p then 4 else if !joinedOk p then 6 else if !signalsOk p then 7 else if !linesOk p then 8 else if !longOk p then 9 else 0 by
  unfold chk
  rw [show tooMuch p = false by unfold tooMuch; simp; have := le.out; have := ls.out; have := lj.out; have := ll.out; omega]; rfl)
 obtain ⟨_, c0, c1, c2, c3, c4, c5, c6, c7, c8⟩ := HBa.out
 dsimp only at c0 c1 c2 c3
 go_enter Tryz.func27, Tryz.ntmps27
 go_wp2_with fail
 refine (names_l (hP.out.below Hba.out) (by omega) (by omega) (by omega)).mono ?_
 rintro e w1 ⟨a1, a2, a3, n1, n2, n3, c1', c2', c3', rfl, s1, s2, s3, hbx⟩
 have HB1 := Lib.hid (HBa.out.below hbx)
 have Hb1 := Lib.hid (below_step Hba.out hbx Hba.out.size)
 have S1 := Lib.hid s1; have S2 := Lib.hid s2; have S3 := Lib.hid s3
 clear hbx s1 s2 s3 c0 c1 c2 c3 c4 c5 c6 c7 c8
 obtain ⟨_, c0, c1, c2, c3, c4, c5, c6, c7, c8⟩ := HB1.out
 dsimp only at c0 c1 c2 c3
 go_wp2_with fail
 refine (refargs_l (hP.out.below Hb1.out)).mono ?_
 rintro e w2 ⟨rfl, hbx⟩
 have HB2 := Lib.hid (HB1.out.below hbx)
 have Hb2 := Lib.hid (below_step Hb1.out hbx Hb1.out.size)
 have hk12 := Lib.hid hbx
 clear hbx c0 c1 c2 c3 c4 c5 c6 c7 c8
 obtain ⟨_, c0, c1, c2, c3, c4, c5, c6, c7, c8⟩ := HB2.out
 dsimp only at c0 c1 c2 c3
 cases ha : argsOk p
 ·have Hr := Lib.hid (show chk p = 1 by rw [Hq.out, ha]; rfl)
  go_wp2_with fail
  go_ret
  exact ⟨ret_int Hr.out.symm, Hb2.out⟩
 have Hq2 := Lib.hid (show chk p = if namesTwice p then 4 else if !joinedOk p then 6 else if !signalsOk p then 7 else if !linesOk p then 8 else if !longOk p then 9 else 0 by rw [Hq.out, ha]; rfl)
 have Hnt := Lib.hid (show namesTwice p = (dup (p.elems.map (·.name)) || (dup (p.sigs.map (·.name)) || dup (p.lines.map (·.name)))) from rfl)
 have S1a := Lib.hid (S1.out.below hk12.out)
 have S2a := Lib.hid (S2.out.below hk12.out)
 have S3a := Lib.hid (S3.out.below hk12.out)
 go_wp2_with fail
 refine (reftwice_l S1a.out).mono ?_
 rintro e w3 ⟨rfl, hbx⟩
 have HB3 := Lib.hid (HB2.out.below hbx)
 have Hb3 := Lib.hid (below_step Hb2.out hbx Hb2.out.size)
 have S2b := Lib.hid (S2a.out.below hbx)
 have S3b := Lib.hid (S3a.out.below hbx)
 clear hbx c0 c1 c2 c3 c4 c5 c6 c7 c8
 cases hd1 : dup (p.elems.map (·.name))
 case true =>
  have Hr := Lib.hid (show chk p = 4 by rw [Hq2.out, Hnt.out, hd1]; rfl)
  go_wp2_with fail
  go_ret
  exact ⟨ret_int Hr.out.symm, Hb3.out⟩
 go_wp2_with fail
 refine (reftwice_l S2b.out).mono ?_
 rintro e w4 ⟨rfl, hbx⟩
 have HB4 := Lib.hid (HB3.out.below hbx)
 have Hb4 := Lib.hid (below_step Hb3.out hbx Hb3.out.size)
 have S3c := Lib.hid (S3b.out.below hbx)
 clear hbx
 cases hd2 : dup (p.sigs.map (·.name))
 case true =>
  have Hr := Lib.hid (show chk p = 4 by rw [Hq2.out, Hnt.out, hd1, hd2]; rfl)
  go_wp2_with fail
  go_ret
  exact ⟨ret_int Hr.out.symm, Hb4.out⟩
 go_wp2_with fail
 refine (reftwice_l S3c.out).mono ?_
 rintro e w5 ⟨rfl, hbx⟩
 have HB5 := Lib.hid (HB4.out.below hbx)
 have Hb5 := Lib.hid (below_step Hb4.out hbx Hb4.out.size)
 clear hbx
 obtain ⟨_, c0, c1, c2, c3, c4, c5, c6, c7, c8⟩ := HB5.out
 dsimp only at c0 c1 c2 c3
 cases hd3 : dup (p.lines.map (·.name))
 case true =>
  have Hr := Lib.hid (show chk p = 4 by rw [Hq2.out, Hnt.out, hd1, hd2, hd3]; rfl)
  go_wp2_with fail
  go_ret
  exact ⟨ret_int Hr.out.symm, Hb5.out⟩
 have Hq3 := Lib.hid (show chk p = if !joinedOk p then 6 else if !signalsOk p then 7 else if !linesOk p then 8 else if !longOk p then 9 else 0 by rw [Hq2.out, Hnt.out, hd1, hd2, hd3]; rfl)
 have Hns := Lib.hid (argsOk_nums ha)
 clear hd1 hd2 hd3 ha
 go_wp2_with fail
 refine (refjoined_l (hP.out.below Hb5.out) (by omega)).mono ?_
 rintro e w6 ⟨rfl, hbx⟩
 have HB6 := Lib.hid (HB5.out.below hbx)
 have Hb6 := Lib.hid (below_step Hb5.out hbx Hb5.out.size)
 clear hbx c0 c1 c2 c3 c4 c5 c6 c7 c8
 obtain ⟨_, c0, c1, c2, c3, c4, c5, c6, c7, c8⟩ := HB6.out
 dsimp only at c0 c1 c2 c3
 cases hj : joinedOk p
 ·have Hr := Lib.hid (show chk p = 6 by rw [Hq3.out, hj]; rfl)
  go_wp2_with fail
  go_ret
  exact ⟨ret_int Hr.out.symm, Hb6.out⟩
 have Hq4 := Lib.hid (show chk p = if !signalsOk p then 7 else if !linesOk p then 8 else if !longOk p then 9 else 0 by rw [Hq3.out, hj]; rfl)
 have Hpo := Lib.hid (joinedOk_ports hj)
 clear hj
 go_wp2_with fail
 refine (refsignals_l (hP.out.below Hb6.out)).mono ?_
 rintro e w7 ⟨rfl, hbx⟩
 have HB7 := Lib.hid (HB6.out.below hbx)
 have Hb7 := Lib.hid (below_step Hb6.out hbx Hb6.out.size)
 clear hbx c0 c1 c2 c3 c4 c5 c6 c7 c8
 obtain ⟨_, c0, c1, c2, c3, c4, c5, c6, c7, c8⟩ := HB7.out
 dsimp only at c0 c1 c2 c3
 cases hs : signalsOk p
 ·have Hr := Lib.hid (show chk p = 7 by rw [Hq4.out, hs]; rfl)
  go_wp2_with fail
  go_ret
  exact ⟨ret_int Hr.out.symm, Hb7.out⟩
 have Hq5 := Lib.hid (show chk p = if !linesOk p then 8 else if !longOk p then 9 else 0 by rw [Hq4.out, hs]; rfl)
 clear hs
 go_wp2_with fail
 refine (reflines_l (hP.out.below Hb7.out) (by omega) Hn2.out Hpo.out).mono ?_
 rintro e w8 ⟨rfl, hbx⟩
 have HB8 := Lib.hid (HB7.out.below hbx)
 have Hb8 := Lib.hid (below_step Hb7.out hbx Hb7.out.size)
 clear hbx c0 c1 c2 c3 c4 c5 c6 c7 c8
 obtain ⟨_, c0, c1, c2, c3, c4, c5, c6, c7, c8⟩ := HB8.out
 dsimp only at c0 c1 c2 c3
 cases hl : linesOk p
 ·have Hr := Lib.hid (show chk p = 8 by rw [Hq5.out, hl]; rfl)
  go_wp2_with fail
  go_ret
  exact ⟨ret_int Hr.out.symm, Hb8.out⟩
 have Hq6 := Lib.hid (show chk p = if !longOk p then 9 else 0 by rw [Hq5.out, hl]; rfl)
 clear hl
 go_wp2_with fail
 refine (reflong_l (hP.out.below Hb8.out) Hns.out).mono ?_
 rintro e w9 ⟨rfl, hbx⟩
 have HB9 := Lib.hid (HB8.out.below hbx)
 have Hb9 := Lib.hid (below_step Hb8.out hbx Hb8.out.size)
 clear hbx c0 c1 c2 c3 c4 c5 c6 c7 c8
 obtain ⟨_, c0, c1, c2, c3, c4, c5, c6, c7, c8⟩ := HB9.out
 dsimp only at c0 c1 c2 c3
 cases hg : longOk p
 ·have Hr := Lib.hid (show chk p = 9 by rw [Hq6.out, hg]; rfl)
  go_wp2_with fail
  go_ret
  exact ⟨ret_int Hr.out.symm, Hb9.out⟩
 ·have Hr := Lib.hid (show chk p = 0 by rw [Hq6.out, hg]; rfl)
  go_wp2_with fail
  go_ret
  exact ⟨ret_int Hr.out.symm, Hb9.out⟩

/-- a plan that semaphoreref6.Few takes -/
def FinePost (w : World) (pv : PV) (p : Plan) (e : Ending) (w' : World) : Prop := ∃ b : Bool, e = .returned (.bool b) ∧ (b = true → FewOk pv ∧ chk p = 0) ∧ Below w.heap.size w w'
theorem reffew_l {w : World} {ae aj as_ al : Option Addr} {ne ce nj cj ns cs nl cl : Nat} {lv : List LineV} {p : Plan} (h : PlanAt w ⟨ae, ne, ce, aj, nj, cj, as_, ns, cs, al, nl, cl, lv⟩ p) : Calls Tryz.prog 26 #[.agg #[.slice ae ne ce, .slice aj nj cj, .slice as_ ns cs, .slice al nl cl, .int .i64 p.top, .int .i64 p.brake, .int .i64 p.margin, .int .i64 p.throw, .bool p.hard]] w (FewPost w ⟨ae, ne, ce, aj, nj, cj, as_, ns, cs, al, nl, cl, lv⟩) := reffew_any w ⟨ae, ne, ce, aj, nj, cj, as_, ns, cs, al, nl, cl, lv⟩ p h
theorem refcheck_l {w : World} {ae aj as_ al : Option Addr} {ne ce nj cj ns cs nl cl : Nat} {lv : List LineV} {p : Plan} (h : PlanAt w ⟨ae, ne, ce, aj, nj, cj, as_, ns, cs, al, nl, cl, lv⟩ p) (hn2 : ∀ x ∈ lv, x.n ≤ 1000) : Calls Tryz.prog 27 #[.agg #[.slice ae ne ce, .slice aj nj cj, .slice as_ ns cs, .slice al nl cl, .int .i64 p.top, .int .i64 p.brake, .int .i64 p.margin, .int .i64 p.throw, .bool p.hard]] w fun e w' => e = .returned (.int .i64 (chk p)) ∧ Below w.heap.size w w' := refcheck_any w ⟨ae, ne, ce, aj, nj, cj, as_, ns, cs, al, nl, cl, lv⟩ p h hn2
theorem fine_any (w : World) (pv : PV) (p : Plan) (h : PlanAt w pv p) :
  Calls Tryz.prog 14 #[pv.val p] w (FinePost w pv p) := by
 obtain ⟨ae, ne, ce, aj, nj, cj, as_, ns, cs, al, nl, cl, lv⟩ := pv
 have hP := Lib.hid h
 have HBa := Lib.hid (pbox_new w ⟨ae, ne, ce, aj, nj, cj, as_, ns, cs, al, nl, cl, lv⟩ p)
 have Hba := Lib.hid (below_new w (.cells #[.slice ae ne ce, .slice aj nj cj, .slice as_ ns cs, .slice al nl cl, .int .i64 p.top, .int .i64 p.brake, .int .i64 p.margin, .int .i64 p.throw, .bool p.hard] 27))
 clear h
 dsimp only [PV.val]
 obtain ⟨_, c0, c1, c2, c3, c4, c5, c6, c7, c8⟩ := HBa.out
 dsimp only at c0 c1 c2 c3
 go_enter Tryz.func14, Tryz.ntmps14
 go_wp2_with fail
 refine (reffew_l (hP.out.below Hba.out)).mono ?_
 rintro e w1 ⟨b1, rfl, hfew, hbx⟩
 have HB1 := Lib.hid (HBa.out.below hbx)
 have Hb1 := Lib.hid (below_step Hba.out hbx Hba.out.size)
 clear hbx c0 c1 c2 c3 c4 c5 c6 c7 c8
 obtain ⟨_, c0, c1, c2, c3, c4, c5, c6, c7, c8⟩ := HB1.out
 dsimp only at c0 c1 c2 c3
 cases b1
 ·go_wp2_with fail
  go_ret
  exact ⟨false, rfl, by simp, Hb1.out⟩
 have Hfew := Lib.hid (hfew rfl)
 clear hfew
 go_wp2_with fail
 refine (refcheck_l (hP.out.below Hb1.out) (fun x hx => by have := Hfew.out.2.2.2.2 x hx; omega)).mono ?_
 rintro e w2 ⟨rfl, hbx⟩
 have Hb2 := Lib.hid (below_step Hb1.out hbx Hb1.out.size)
 clear hbx
 by_cases h0 : chk p = 0
 ·have q1 : (chk p == 0) = true := by simp [h0]
  have Hc := Lib.hid h0; clear h0
  go_wp2_with fail
  go_ret
  exact ⟨true, by simp, fun _ => ⟨Hfew.out, Hc.out⟩, Hb2.out⟩
 ·have q1 : (chk p == 0) = false := by simp [h0]
  clear h0
  go_wp2_with fail
  go_ret
  exact ⟨false, by simp, by simp, Hb2.out⟩
end Go.Proofs.YtcaeglnfflkabaaGreat

/- Walk of semaphoreref6.Few: its answer exactly. No condition beyond the plan that is read. -/
set_option maxRecDepth 1000000
namespace Go.Proofs.YtcaeglnfflkabaaGreat
open Go.RowKit Go.Sort Go.ChangeShapes Go.WideShapes

section
variable {w : World} {ae aj as_ al : Option Addr} {ne ce nj cj ns cs nl cl : Nat} {lv : List LineV} {p : Plan}
theorem check_l (hn2 : ∀ x ∈ lv, x.n ≤ 1000) (h : PlanAt w ⟨ae, ne, ce, aj, nj, cj, as_, ns, cs, al, nl, cl, lv⟩ p) : Calls Tryz.prog 22 #[.agg #[.slice ae ne ce, .slice aj nj cj, .slice as_ ns cs, .slice al nl cl, .int .i64 p.top, .int .i64 p.brake, .int .i64 p.margin, .int .i64 p.throw, .bool p.hard]] w fun e w' => e = .returned (.int .i64 (chk p)) ∧ Below w.heap.size w w' := check_any w ⟨ae, ne, ce, aj, nj, cj, as_, ns, cs, al, nl, cl, lv⟩ p h hn2
end
end Go.Proofs.YtcaeglnfflkabaaGreat
