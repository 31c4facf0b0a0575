/- Walk of plan.Check. No condition beyond the plan that is read, its lines at most 1000 elements long. -/
import Derived.Test.YtlgekkffekagbaaPlanW9
import Derived.Test.YtlgekkffekagbaaPure
set_option maxRecDepth 1000000
namespace Go.Proofs.Ytlgekkffekagbaa
open Go.RowKit

theorem twice_n (w : World) (F : FuncId) (cap : Array Value) (l : List ByteArray) (n : Nat) (hl : l.length = n) (hF : Names F cap w l) (hn : n ≤ 1000) (hfit : ∀ s ∈ l, s.size ≤ 9223372036854775807) :
    Calls Try.prog 71 #[.int .i64 n, .func (.func F) #[] cap] w fun e w' => e = .returned (.bool (dup l)) ∧ Below w.heap.size w w' := by
  subst hl; exact twice_any w F cap l hF hn hfit
theorem much_yes {p : Plan} (h : tooMuch p = true) : chk p = 3 := by unfold chk; rw [h]; rfl
theorem chk_1 {p : Plan} (h : tooMuch p = false) (h1 : argsOk p = false) : chk p = 1 := by unfold chk; rw [h, h1]; rfl
theorem chk_4 {p : Plan} (h : tooMuch p = false) (h1 : argsOk p = true) (h2 : namesTwice p = true) : chk p = 4 := by unfold chk; rw [h, h1, h2]; rfl
theorem chk_6 {p : Plan} (h : tooMuch p = false) (h1 : argsOk p = true) (h2 : namesTwice p = false) (h3 : joinedOk p = false) : chk p = 6 := by unfold chk; rw [h, h1, h2, h3]; rfl
theorem chk_7 {p : Plan} (h : tooMuch p = false) (h1 : argsOk p = true) (h2 : namesTwice p = false) (h3 : joinedOk p = true) (h4 : signalsOk p = false) : chk p = 7 := by unfold chk; rw [h, h1, h2, h3, h4]; rfl
theorem chk_8 {p : Plan} (h : tooMuch p = false) (h1 : argsOk p = true) (h2 : namesTwice p = false) (h3 : joinedOk p = true) (h4 : signalsOk p = true) (h5 : linesOk p = false) : chk p = 8 := by unfold chk; rw [h, h1, h2, h3, h4, h5]; rfl
theorem chk_90 {p : Plan} (h : tooMuch p = false) (h1 : argsOk p = true) (h2 : namesTwice p = false) (h3 : joinedOk p = true) (h4 : signalsOk p = true) (h5 : linesOk p = true) : chk p = if longOk p then 0 else 9 := by unfold chk; rw [h, h1, h2, h3, h4, h5]; cases longOk p <;> rfl
theorem much_iff {p : Plan} {ne ns nl nj : Nat} (h1 : p.elems.length = ne) (h2 : p.sigs.length = ns) (h3 : p.lines.length = nl) (h4 : p.joins.length = nj) : tooMuch p = true ↔ 40 < ne ∨ 24 < ns ∨ 4 < nl ∨ 80 < nj := by
  unfold tooMuch; rw [h1, h2, h3, h4]; simp [or_assoc]

set_option maxHeartbeats 2000000 in
theorem check_any (w : World) (pv : PV) (p : Plan) (h : PlanAt w pv p) (hn2 : ∀ x ∈ pv.lv, x.n ≤ 1000) :
    Calls Try.prog 55 #[pv.val p] w fun e w' => e = .returned (.int .i64 (chk p)) ∧ Below w.heap.size w w' := by
  have hP := Lib.hid h
  obtain ⟨ae, ne, ce, aj, nj, cj, as_, ns, cs, al, nl, cl, lv⟩ := pv
  have he : Elems w ae ne p.elems := h.e
  have hs : Sigs w as_ ns p.sigs := h.s
  have hj : Joins w aj nj p.joins := h.j
  have hl : Lines w al nl lv := h.l
  have hfit := Lib.hid h.fit
  have HL := Lib.hid h.lp
  have le := Lib.hid he.len
  have ls := Lib.hid hs.len
  have lj := Lib.hid hj.len
  have ll := Lib.hid hl.row.len
  have ll2 := Lib.hid (show p.lines.length = nl by rw [HL.out, List.length_map]; exact ll.out)
  have be := he.bnd
  have bs := hs.bnd
  have bl := hl.row.bnd
  have bj := hj.bnd
  have Hn2 := Lib.hid hn2; clear hn2
  have Hw := Lib.hid (below_new w (.cells #[.slice ae ne ce, .slice aj nj cj, .slice as_ ns cs, .slice al nl cl, .int .i64 p.top, .int .i64 p.brake, .int .i64 p.margin, .int .i64 p.throw, .bool p.hard] 27))
  have HB0 := Lib.hid (pbox_new w ⟨ae, ne, ce, aj, nj, cj, as_, ns, cs, al, nl, cl, lv⟩ p)
  have Hm := much_iff le.out ls.out ll2.out lj.out
  clear h
  dsimp only [PV.val]
  cases hmu : tooMuch p
  · rw [hmu] at Hm
    have m1 : ne ≤ 40 := by have := mt Hm.2 (by simp); omega
    have m2 : ns ≤ 24 := by have := mt Hm.2 (by simp); omega
    have m3 : nl ≤ 4 := by have := mt Hm.2 (by simp); omega
    have m4 : nj ≤ 80 := by have := mt Hm.2 (by simp); omega
    have Hmu := Lib.hid hmu
    clear Hm hmu
    go_enter Try.func55, Try.ntmps55
    go_wp2_with fail
    refine (numbers_any _ _ p (hP.out.below (below_new _ _))).mono ?_
    rintro e w1 ⟨rfl, hbx⟩
    have HB1 := Lib.hid (HB0.out.below hbx)
    have Hb1 := Lib.hid (below_step Hw.out hbx (by simp))
    clear hbx
    obtain ⟨b1, c0, c1, c2, c3, c4, c5, c6, c7, c8⟩ := HB1.out
    dsimp only at c0 c1 c2 c3
    cases ha : argsOk p
    · have Hc := Lib.hid (chk_1 Hmu.out ha)
      go_wp2_with fail
      go_ret
      exact ⟨ret_int Hc.out.symm, Hb1.out⟩
    have Ha := Lib.hid ha
    go_wp2_with fail
    refine (twice_n w1 _ _ (p.elems.map (·.name)) ne (by rw [List.length_map]; exact le.out) (names1 w1 w.heap.size _ p (hP.out.below Hb1.out) HB1.out) (by omega) (fun s hs => by obtain ⟨y, hy, rfl⟩ := List.mem_map.1 hs; exact (hfit.out.e y hy).2.2)).mono ?_
    rintro e w2 ⟨rfl, hbx⟩
    have HB2 := Lib.hid (HB1.out.below hbx)
    have Hb2 := Lib.hid (below_step Hb1.out hbx Hb1.out.size)
    have Hx2 := Lib.hid hbx; clear hbx
    clear c0 c1 c2 c3 c4 c5 c6 c7 c8
    obtain ⟨_, c0, c1, c2, c3, c4, c5, c6, c7, c8⟩ := HB2.out
    dsimp only at c0 c1 c2 c3
    cases t1 : dup (p.elems.map (·.name))
    case true =>
      have Hc := Lib.hid (chk_4 Hmu.out Ha.out (by unfold namesTwice; rw [t1]; rfl))
      go_wp2_with fail
      go_ret
      exact ⟨ret_int Hc.out.symm, Hb2.out⟩
    have T1 := Lib.hid t1
    go_wp2_with fail
    refine (twice_n w2 _ _ (p.sigs.map (·.name)) ns (by rw [List.length_map]; exact ls.out) (names2 w2 w.heap.size _ p (hP.out.below Hb2.out) HB2.out) (by omega) (fun s hs => by obtain ⟨y, hy, rfl⟩ := List.mem_map.1 hs; exact (hfit.out.s y hy).2)).mono ?_
    rintro e w3 ⟨rfl, hbx⟩
    have HB3 := Lib.hid (HB2.out.below hbx)
    have Hb3 := Lib.hid (below_step Hb2.out hbx Hb2.out.size)
    have Hx3 := Lib.hid hbx; clear hbx
    clear c0 c1 c2 c3 c4 c5 c6 c7 c8
    obtain ⟨_, c0, c1, c2, c3, c4, c5, c6, c7, c8⟩ := HB3.out
    dsimp only at c0 c1 c2 c3
    cases t2 : dup (p.sigs.map (·.name))
    case true =>
      have Hc := Lib.hid (chk_4 Hmu.out Ha.out (by unfold namesTwice; rw [t2]; simp))
      go_wp2_with fail
      go_ret
      exact ⟨ret_int Hc.out.symm, Hb3.out⟩
    have T2 := Lib.hid t2
    go_wp2_with fail
    refine (twice_n w3 _ _ (p.lines.map (·.name)) nl (by rw [List.length_map]; exact ll2.out) (names3 w3 w.heap.size _ p (hP.out.below Hb3.out) HB3.out) (by omega) (fun s hs => by obtain ⟨y, hy, rfl⟩ := List.mem_map.1 hs; exact (hfit.out.l y hy).2)).mono ?_
    rintro e w4 ⟨rfl, hbx⟩
    have HB4 := Lib.hid (HB3.out.below hbx)
    have Hb4 := Lib.hid (below_step Hb3.out hbx Hb3.out.size)
    have Hx4 := Lib.hid hbx; clear hbx
    clear c0 c1 c2 c3 c4 c5 c6 c7 c8
    obtain ⟨_, c0, c1, c2, c3, c4, c5, c6, c7, c8⟩ := HB4.out
    dsimp only at c0 c1 c2 c3
    cases t3 : dup (p.lines.map (·.name))
    case true =>
      have Hc := Lib.hid (chk_4 Hmu.out Ha.out (by unfold namesTwice; rw [t3]; simp))
      go_wp2_with fail
      go_ret
      exact ⟨ret_int Hc.out.symm, Hb4.out⟩
    have Hnt := Lib.hid (show namesTwice p = false by unfold namesTwice; rw [T1.out, T2.out, t3]; rfl)
    have hnj : (PV.mk ae ne ce aj nj cj as_ ns cs al nl cl lv).nj ≤ 1000 := by show nj ≤ 1000; omega
    have Hj := Lib.hid (joined_any w4 _ p (hP.out.below Hb4.out) hnj)
    clear hnj t1 t2
    go_wp2_with fail
    refine Hj.out.mono ?_
    rintro e w5 ⟨hres, hbx⟩
    have HB5 := Lib.hid (HB4.out.below hbx)
    have Hb5 := Lib.hid (below_step Hb4.out hbx Hb4.out.size)
    have Hx5 := Lib.hid hbx; clear hbx
    clear c0 c1 c2 c3 c4 c5 c6 c7 c8
    obtain ⟨_, c0, c1, c2, c3, c4, c5, c6, c7, c8⟩ := HB5.out
    dsimp only at c0 c1 c2 c3
    rcases hres with ⟨hjo, bm, rfl, hbm, hnx⟩ | ⟨hjo, rfl⟩
    case inr =>
      have Hc := Lib.hid (chk_6 Hmu.out Ha.out Hnt.out hjo)
      clear hjo
      go_wp2_with fail
      go_ret
      exact ⟨ret_int Hc.out.symm, Hb5.out⟩
    have Hjo := Lib.hid hjo; clear hjo
    have Hnx := Lib.hid hnx; clear hnx
    have hnlt := Hnx.out.lt
    have hnum : numsOk p = true := by have := Ha.out; unfold argsOk at this; simp only [Bool.and_eq_true] at this; exact this.1
    have Hnum := Lib.hid hnum; clear hnum
    have Hs := Lib.hid (signals_any w5 _ p bm (hP.out.below Hb5.out) Hnx.out (by show ns ≤ 1000; omega) Hjo.out)
    go_wp2_with fail
    refine Hs.out.mono ?_
    rintro e w6 ⟨rfl, hbx⟩
    have HB6 := Lib.hid (HB5.out.below hbx)
    have Hb6 := Lib.hid (below_step Hb5.out hbx Hb5.out.size)
    have Hx6 := Lib.hid hbx; clear hbx
    clear c0 c1 c2 c3 c4 c5 c6 c7 c8
    obtain ⟨_, c0, c1, c2, c3, c4, c5, c6, c7, c8⟩ := HB6.out
    dsimp only at c0 c1 c2 c3
    cases hso : signalsOk p
    · have Hc := Lib.hid (chk_7 Hmu.out Ha.out Hnt.out Hjo.out hso)
      go_wp2_with fail
      go_ret
      exact ⟨ret_int Hc.out.symm, Hb6.out⟩
    have Hso := Lib.hid hso
    have Hl := Lib.hid (lines_any w6 _ p bm (hP.out.below Hb6.out) (Hnx.out.below Hx6.out hnlt) (by show nl ≤ 1000; omega) Hn2.out Hjo.out)
    go_wp2_with fail
    refine Hl.out.mono ?_
    rintro e w7 ⟨rfl, hbx⟩
    have HB7 := Lib.hid (HB6.out.below hbx)
    have Hb7 := Lib.hid (below_step Hb6.out hbx Hb6.out.size)
    have Hx7 := Lib.hid hbx; clear hbx
    clear c0 c1 c2 c3 c4 c5 c6 c7 c8
    obtain ⟨_, c0, c1, c2, c3, c4, c5, c6, c7, c8⟩ := HB7.out
    dsimp only at c0 c1 c2 c3
    cases hlo : linesOk p
    · have Hc := Lib.hid (chk_8 Hmu.out Ha.out Hnt.out Hjo.out Hso.out hlo)
      go_wp2_with fail
      go_ret
      exact ⟨ret_int Hc.out.symm, Hb7.out⟩
    have Hc9 := Lib.hid (chk_90 Hmu.out Ha.out Hnt.out Hjo.out Hso.out hlo)
    have Hlg := Lib.hid (long_any w7 _ p (hP.out.below Hb7.out) Hnum.out (fun s hs => by
      have := Hso.out
      unfold signalsOk at this
      simp only [Bool.and_eq_true] at this
      have h2 := (sigGo_ok _ _ this.1).2.2 s hs
      unfold sigOk at h2
      simp only [Bool.and_eq_true] at h2
      exact h2.1.1))
    go_wp2_with fail
    refine Hlg.out.mono ?_
    rintro e w8 ⟨rfl, hbx⟩
    have HB8 := Lib.hid (HB7.out.below hbx)
    have Hb8 := Lib.hid (below_step Hb7.out hbx Hb7.out.size)
    have Hx8 := Lib.hid hbx; clear hbx
    clear c0 c1 c2 c3 c4 c5 c6 c7 c8
    obtain ⟨_, c0, c1, c2, c3, c4, c5, c6, c7, c8⟩ := HB8.out
    dsimp only at c0 c1 c2 c3
    cases hg : longOk p
    · have Hc := Lib.hid (show chk p = 9 by rw [Hc9.out, hg]; rfl)
      go_wp2_with fail
      go_ret
      exact ⟨ret_int Hc.out.symm, Hb8.out⟩
    · have Hc := Lib.hid (show chk p = 0 by rw [Hc9.out, hg]; rfl)
      go_wp2_with fail
      go_ret
      exact ⟨ret_int Hc.out.symm, Hb8.out⟩
  · have Hc := Lib.hid (much_yes hmu)
    have Hm2 := Lib.hid (Hm.1 hmu)
    clear Hm hmu
    go_enter Try.func55, Try.ntmps55
    go_wp2_with fail
    all_goals first
      | (go_ret
         exact ⟨ret_int Hc.out.symm, Hw.out⟩)
      | (exfalso
         have := Hm2.out
         omega)
end Go.Proofs.Ytlgekkffekagbaa
