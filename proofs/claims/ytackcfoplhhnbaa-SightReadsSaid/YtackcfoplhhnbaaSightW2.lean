/- Walks of sight.Ahead and Route. Condition: the receiver is a net. -/
import Derived.Test.YtackcfoplhhnbaaSightW1
set_option maxRecDepth 1000000
namespace Go.Proofs.Ytackcfoplhhnbaa
open Go.ChangeShapes Go.WideShapes Go.ChangeAt Go.RowKit Go.Sort

theorem ah_none {r : Option (Int × Int)} (h : r = none) : Ending.returned (.tuple #[.int .i64 0, .int .i64 0, .bool false]) = .returned (.tuple #[.int .i64 (r.getD (0, 0)).1, .int .i64 (r.getD (0, 0)).2, .bool r.isSome]) := by rw [h]; rfl
theorem ah_some {r : Option (Int × Int)} {a b : Int} (h : r = some (a, b)) : Ending.returned (.tuple #[.int .i64 a, .int .i64 b, .bool true]) = .returned (.tuple #[.int .i64 (r.getD (0, 0)).1, .int .i64 (r.getD (0, 0)).2, .bool r.isSome]) := by rw [h]; rfl
section
variable {p : Plan} {pos : List Int} {k : Nat} {h : Port} {m : Int}
theorem ahead_hit (r : 0 ≤ reads p h) : aheadGo p pos k h m = some (reads p h, m) := by unfold aheadGo; rw [if_pos r]
theorem ahead_end (r : ¬ 0 ≤ reads p h) (e : (step p pos h).2 ≠ 0) : aheadGo p pos k h m = none := by unfold aheadGo; rw [if_neg r, if_pos e]
theorem ahead_stop (r : ¬ 0 ≤ reads p h) : aheadGo p pos 0 h m = none := by unfold aheadGo; rw [if_neg r]; split <;> rfl
theorem ahead_go1 (r : ¬ 0 ≤ reads p h) (e : (step p pos h).2 = 0) : aheadGo p pos (k + 1) h m = aheadGo p pos k (step p pos h).1 (m + p.length (step p pos h).1.e) := by
  rw [aheadGo, if_neg r, if_neg (by simp [e])]
theorem route_end (e : (step p pos h).2 ≠ 0) : routeGo p pos k h = if 0 ≤ reads p h then [reads p h] else [] := by unfold routeGo; rw [if_pos e]; simp
theorem route_stop : routeGo p pos 0 h = if 0 ≤ reads p h then [reads p h] else [] := by unfold routeGo; split <;> simp
theorem route_go1 (e : (step p pos h).2 = 0) : routeGo p pos (k + 1) h = (if 0 ≤ reads p h then [reads p h] else []) ++ routeGo p pos k (step p pos h).1 := by
  rw [routeGo, if_neg (show ¬ (step p pos h).2 ≠ 0 by simp [e])]
end
set_option maxHeartbeats 4000000 in
theorem nahead_any (w : World) (b : Nat) (p : Plan) (hn : NetAt w b p) (a : Option Addr) (n c : Nat) (pos : List Int) (hr : Hid (Ints w a n pos)) (hd : Port) (hw : hd.wf) :
    Calls Try.prog 38 #[.pointer (some ⟨b, 0, none⟩), .slice a n c, hd.val] w fun en w' => en = .returned (.tuple #[.int .i64 ((ahead p pos hd).getD (0, 0)).1, .int .i64 ((ahead p pos hd).getD (0, 0)).2, .bool (ahead p pos hd).isSome]) ∧ Below w.heap.size w w' := by
  dsimp only [Port.val]
  have Hba := Lib.hid (below_new w (.cells #[.int .i64 hd.e, .int .i64 hd.n] 30))
  have HQ := Lib.hid (qbox_new w hd)
  have G := Lib.hid (good_of hn.ok)
  have Hc := Lib.hid hn.ok
  have HN := Lib.hid hn
  have hp0 := ports_bound hn.ok
  obtain ⟨R, hR⟩ : ∃ R : Nat, (R : Int) = portsNo p := ⟨(portsNo p).toNat, by omega⟩
  have HP := Lib.hid (fun (u : World) (hb : Below w.heap.size w u) => nports_any u b p (hn.below hb))
  rw [← hR] at HP
  have hR160 : R ≤ 160 := by omega
  have HA := Lib.hid (show aheadGo p pos R hd 0 = ahead p pos hd by unfold ahead; rw [← hR]; rfl)
  clear hn hp0 hR
  go_enter Try.func38, Try.ntmps38
  go_wp2_with fail
  go_step3
  go_wp2_with fail
  refine (HP.out _ Hba.out).mono ?_
  rintro en w1 ⟨rfl, hb1⟩
  have Hb1 := Lib.hid (below_step Hba.out hb1 Hba.out.size)
  have HQ1 := Lib.hid (HQ.out.below hb1)
  clear hb1 HQ
  go_wp2_with fail
  go_step3
  go_wp2_with fail
  go_loopg [9, 11] R (fun k s9 s11 wr => ∃ (i : Nat) (h' : Port) (m : Int), i + k = R ∧ s9 = .int .i64 m ∧ s11 = .int .i64 (i : Int) ∧ Hid (aheadGo p pos k h' m = ahead p pos hd) ∧ (0 ≤ m ∧ m ≤ 4000 * i) ∧ QBox wr w.heap.size h' ∧ h'.wf ∧ Below w.heap.size w wr)
  case atStart => exact ⟨0, hd, 0, by omega, rfl, rfl, HA, by omega, HQ1.out, hw, Hb1.out⟩
  case round =>
    clear HQ1 Hb1 HA
    obtain ⟨i, h', m, hk, rfl, rfl, hrel2, hm, hq, hw', hb⟩ := hrel
    have Hq := Lib.hid hq
    have Hb := Lib.hid hb
    have HRd := Lib.hid (nreads_any wr b p (HN.out.below hb) h' hw')
    have HS := Lib.hid (fun (u : World) (hb : Below w.heap.size w u) => nstep_any u b p (HN.out.below hb) a n c pos (Lib.hid (hr.out.below hb)) h' hw')
    dsimp only [Port.val] at HRd HS
    obtain ⟨_, x0, x1, _⟩ := hq.box
    clear hq hb
    by_cases r0 : 0 ≤ reads p h'
    · have Hs := Lib.hid (show ahead p pos hd = some (reads p h', m) by rw [← hrel2.out]; exact ahead_hit r0)
      clear hrel2 HS
      go_wp2_with fail
      refine HRd.out.mono ?_
      rintro en w2 ⟨rfl, hb2⟩
      have Hb2 := Lib.hid (below_step Hb.out hb2 Hb.out.size)
      clear hb2 x0 x1
      go_wp2_with fail
      try rw [Exit.noGoto_ret]
      exact bodyPost_ret (v := .tuple #[.int .i64 (reads p h'), .int .i64 m, .bool true]) (by simp [results, Try.results38, go_sem]) rfl ⟨ah_some Hs.out, Hb2.out⟩
    · have r1 : reads p h' < 0 := by omega
      have go2 : True := trivial
      by_cases e0 : (step p pos h').2 = 0
      · cases gk with
        | zero =>
          have Hs := Lib.hid (show ahead p pos hd = none by rw [← hrel2.out]; exact ahead_stop r0)
          have hys : ∃ y, step p pos h' = (y, 0) := ⟨_, by rw [← e0]⟩
          obtain ⟨y, hy⟩ := hys
          rw [hy] at HS
          dsimp only at HS
          have q1 : (((i : Nat) : Int) == (R : Int)) = true := by simp; omega
          clear hrel2 e0 hy
          go_wp2_with fail
          refine HRd.out.mono ?_
          rintro en w2 ⟨rfl, hb2⟩
          have Hb2 := Lib.hid (below_step Hb.out hb2 Hb.out.size)
          obtain ⟨_, x0, x1, _⟩ := (Hq.out.below hb2).box
          clear hb2
          go_wp2_with fail
          refine (HS.out _ Hb2.out).mono ?_
          rintro en w3 ⟨rfl, hb3⟩
          have Hb3 := Lib.hid (below_step Hb2.out hb3 Hb2.out.size)
          clear hb3
          go_wp2_with fail
          try rw [Exit.noGoto_ret]
          exact bodyPost_ret (v := .tuple #[.int .i64 0, .int .i64 0, .bool false]) (by simp [results, Try.results38, go_sem]) rfl ⟨ah_none Hs.out, Hb3.out.alloc Hb3.out.size _⟩
        | succ k =>
          obtain ⟨y, hy⟩ : ∃ y, step p pos h' = (y, 0) := ⟨_, by rw [← e0]⟩
          have Hwy := Lib.hid (step_wf G.out hy)
          have Hs := Lib.hid (show aheadGo p pos k y (m + p.length y.e) = ahead p pos hd by rw [← hrel2.out, ahead_go1 r0 e0, hy])
          have HLn := Lib.hid (fun (u : World) (hb : Below w.heap.size w u) => nlength_any u b p (HN.out.below hb) y.e)
          rw [hy] at HS
          dsimp only at HS
          have q1 : (((i : Nat) : Int) == (R : Int)) = false := by simp; omega
          have m2 := len_bound Hc.out y.e
          have hwr : IntKind.i64.wrap (m + p.length y.e) = m + p.length y.e := IntWalk.i64_in _ (by omega)
          clear hrel2 e0 hy
          go_wp2_with fail
          refine HRd.out.mono ?_
          rintro en w2 ⟨rfl, hb2⟩
          have Hb2 := Lib.hid (below_step Hb.out hb2 Hb.out.size)
          have Hq2 := Lib.hid (Hq.out.below hb2)
          clear hb2 x0 x1
          obtain ⟨_, x0, x1, _⟩ := Hq2.out.box
          go_wp2_with fail
          refine (HS.out _ Hb2.out).mono ?_
          rintro en w3 ⟨rfl, hb3⟩
          have Hb3 := Lib.hid (below_step Hb2.out hb3 Hb2.out.size)
          have Hq3 := Lib.hid ((Hq2.out.below hb3).alloc (.cells #[.int .i64 y.e, .int .i64 y.n] 30))
          clear hb3 x0 x1
          obtain ⟨_, x0, x1, f0, f1⟩ := Hq3.out.box
          go_wp2_with fail
          refine name_calls fun w4 hw4 => ?_
          have Hb4 := Lib.hid (show Below w.heap.size w w4 by rw [hw4]; exact below_set2 (Hb3.out.alloc Hb3.out.size _) (Nat.le_refl _) _ _)
          have Hq4 := Lib.hid (show QBox w4 w.heap.size y by rw [hw4]; exact Hq3.out.put y)
          clear hw4 x0 x1 f0 f1
          refine (HLn.out _ Hb4.out).mono ?_
          rintro en w5 ⟨rfl, hb5⟩
          have Hb5 := Lib.hid (below_step Hb4.out hb5 Hb4.out.size)
          have Hq5 := Lib.hid (Hq4.out.below hb5)
          clear hb5
          go_wp2_with fail
          go_roundg k
          case measure => omega
          case rel => exact ⟨i + 1, y, _, by omega, rfl, by go_num, Hs.out, by omega, Hq5.out, Hwy.out, Hb5.out⟩
      · have Hs := Lib.hid (show ahead p pos hd = none by rw [← hrel2.out]; exact ahead_end r0 e0)
        obtain ⟨ye, yn, s2, hss⟩ : ∃ ye yn s2, step p pos h' = (⟨ye, yn⟩, s2) := ⟨_, _, _, rfl⟩
        have q0 : (s2 != 0) = true := by rw [hss] at e0; simpa [bne_iff_ne] using e0
        rw [hss] at HS
        dsimp only at HS
        clear hrel2 e0 hss
        go_wp2_with fail
        refine HRd.out.mono ?_
        rintro en w2 ⟨rfl, hb2⟩
        have Hb2 := Lib.hid (below_step Hb.out hb2 Hb.out.size)
        obtain ⟨_, x0, x1, _⟩ := (Hq.out.below hb2).box
        clear hb2
        go_wp2_with fail
        refine (HS.out _ Hb2.out).mono ?_
        rintro en w3 ⟨rfl, hb3⟩
        have Hb3 := Lib.hid (below_step Hb2.out hb3 Hb2.out.size)
        clear hb3
        go_wp2_with fail
        try rw [Exit.noGoto_ret]
        exact bodyPost_ret (v := .tuple #[.int .i64 0, .int .i64 0, .bool false]) (by simp [results, Try.results38, go_sem]) rfl ⟨ah_none Hs.out, Hb3.out.alloc Hb3.out.size _⟩
def IntsPost (w : World) (l : List Int) (e : Ending) (w' : World) : Prop := ∃ a n c, e = .returned (.slice a n c) ∧ Ints w' a n l ∧ (a = none → c = 0) ∧ Below w.heap.size w w'
theorem info_int : (Try.prog.info? 3).map (fun i => (i.zero, i.size, i.bytes)) = some (some (.int .i64 0), 1, 8) := by kernel_rfl
set_option maxHeartbeats 4000000 in
theorem nroute_any (w : World) (b : Nat) (p : Plan) (hn : NetAt w b p) (a : Option Addr) (n c : Nat) (pos : List Int) (hr : Hid (Ints w a n pos)) (hd : Port) (hw : hd.wf) :
    Calls Try.prog 41 #[.pointer (some ⟨b, 0, none⟩), .slice a n c, hd.val] w (IntsPost w (route p pos hd)) := by
  dsimp only [Port.val]
  have Hba := Lib.hid (below_new w (.cells #[.int .i64 hd.e, .int .i64 hd.n] 30))
  have HQ := Lib.hid (qbox_new w hd)
  have G := Lib.hid (good_of hn.ok)
  have HN := Lib.hid hn
  have hp0 := ports_bound hn.ok
  obtain ⟨R, hR⟩ : ∃ R : Nat, (R : Int) = portsNo p := ⟨(portsNo p).toNat, by omega⟩
  have HP := Lib.hid (fun (u : World) (hb : Below w.heap.size w u) => nports_any u b p (hn.below hb))
  rw [← hR] at HP
  have hR160 : R ≤ 160 := by omega
  have HA := Lib.hid (show [] ++ routeGo p pos R hd = route p pos hd by unfold route; rw [← hR]; rfl)
  obtain ⟨ii, hii, zi1, zi2, zi3⟩ := info_parts info_int
  clear hn hp0 hR
  go_enter Try.func41, Try.ntmps41
  go_wp2_with fail
  go_step3
  go_wp2_with fail
  refine (HP.out _ Hba.out).mono ?_
  rintro en w1 ⟨rfl, hb1⟩
  have Hb1 := Lib.hid (below_step Hba.out hb1 Hba.out.size)
  have HQ1 := Lib.hid (HQ.out.below hb1)
  clear hb1 HQ
  go_wp2_with fail
  go_step3
  go_wp2_with fail
  go_loopg [7, 9] R (fun k v s9 wr => ∃ (i : Nat) (xs : List Int) (h' : Port), i + k = R ∧ wr.ownsRow (w.heap.size + 1) 3 1 v xs.length (xs.map (Value.int .i64)) ∧ s9 = .int .i64 (i : Int) ∧ Hid (xs ++ routeGo p pos k h' = route p pos hd) ∧ xs.length ≤ i ∧ QBox wr w.heap.size h' ∧ h'.wf ∧ Below w.heap.size w wr)
  case atStart => exact ⟨0, [], hd, by omega, own_nil _ _ _ _, rfl, HA, by simp, HQ1.out, hw, Hb1.out⟩
  case round =>
    clear HQ1 Hb1 HA
    obtain ⟨i, xs, h', hk, own, rfl, hrel2, hxl, hq, hw', hb⟩ := hrel
    have HRd := Lib.hid (nreads_any wr b p (HN.out.below hb) h' hw')
    have HS := Lib.hid (fun (u : World) (hb : Below w.heap.size w u) => nstep_any u b p (HN.out.below hb) a n c pos (Lib.hid (hr.out.below hb)) h' hw')
    dsimp only [Port.val] at HRd HS
    obtain ⟨_, x0, x1, _⟩ := hq.box
    obtain ⟨a1, c1, rfl, hbd, hc1⟩ := own_slice own
    have Own := Lib.hid own
    have Hq := Lib.hid hq
    have Hb := Lib.hid hb
    clear hq hb own
    by_cases r0 : 0 ≤ reads p h'
    · go_wp2_with fail
      refine HRd.out.mono ?_
      rintro en w2 ⟨rfl, hb2⟩
      have Hb2 := Lib.hid (below_step Hb.out hb2 Hb.out.size)
      have Hq2 := Lib.hid (Hq.out.below hb2)
      have Own2 := Lib.hid (owns_below Own.out hb2)
      have hz2 := Hb2.out.size
      have hq2 := Hq2.out.lt
      clear hb2 x0 x1 Own Hb Hq HRd
      go_wp2_with (at_builtin; refine wpList_append_own _ rfl _ _ 28 rfl (w.heap.size + 1) 3 ii (.int .i64 0) 1 8 Try.underlying28 hii zi1 zi2 zi3 rfl (by decide) _ _ _ rfl (Own2.out.alloc _) ⟨w2.heap.size, 0, none⟩ 1 1 [.int .i64 (reads p h')] rfl rfl (cell_one_new _ _ _) (one_int _ _) (by simp [maxLen]; omega) (by omega) (by simp; omega) ?_)
      intro v3 w3 hown3 hgrow3 _
      have Hb3 := Lib.hid (grown_below (Hb2.out.alloc Hb2.out.size (.cells #[.int .i64 (reads p h')] 3)) (Own2.out.alloc (.cells #[.int .i64 (reads p h')] 3)) (by omega) (by simp; omega) hgrow3)
      have Hq3 := Lib.hid ((Hq2.out.alloc (.cells #[.int .i64 (reads p h')] 3)).grown hgrow3 (own_ne (Own2.out.alloc (.cells #[.int .i64 (reads p h')] 3)) (by omega)))
      obtain ⟨a3, c3, rfl, _, hc3⟩ := own_slice hown3
      have Own3 := Lib.hid (show w3.ownsRow (w.heap.size + 1) 3 1 (.slice a3 (xs.length + 1) c3) (xs.length + 1) ((xs ++ [reads p h']).map (Value.int .i64)) by rw [List.map_append]; exact hown3)
      clear hown3 hgrow3 Hq2 Own2 Hb2
      obtain ⟨_, x0, x1, _⟩ := Hq3.out.box
      by_cases e0 : (step p pos h').2 = 0
      · cases gk with
        | zero =>
          have Hs := Lib.hid (show route p pos hd = xs ++ [reads p h'] by rw [← hrel2.out, route_stop]; simp [r0])
          obtain ⟨y, hy⟩ : ∃ y, step p pos h' = (y, 0) := ⟨_, by rw [← e0]⟩
          rw [hy] at HS
          dsimp only at HS
          have q1 : (((i : Nat) : Int) == (R : Int)) = true := by simp; omega
          clear hrel2 e0 hy
          go_wp2_with fail
          refine (HS.out _ Hb3.out).mono ?_
          rintro en w7 ⟨rfl, hb7⟩
          have Hb7 := Lib.hid (below_step Hb3.out (hb7.alloc hb7.size (.cells #[.int .i64 y.e, .int .i64 y.n] 30)) Hb3.out.size)
          have Ow7 := Lib.hid (owns_below Own3.out (hb7.alloc hb7.size (.cells #[.int .i64 y.e, .int .i64 y.n] 30)))
          clear hb7
          go_wp2_with fail
          try rw [Exit.noGoto_ret]
          exact bodyPost_ret (v := .slice a3 (xs.length + 1) c3) (by simp [results, Try.results41, go_sem]) rfl ⟨a3, xs.length + 1, c3, rfl, by rw [Hs.out]; exact (own_ints Ow7.out).1, (fun h => (hc3 h).2), Hb7.out⟩
        | succ k =>
          obtain ⟨y, hy⟩ : ∃ y, step p pos h' = (y, 0) := ⟨_, by rw [← e0]⟩
          rw [hy] at HS
          dsimp only at HS
          have Hwy := Lib.hid (step_wf G.out hy)
          have Hs := Lib.hid (show (xs ++ [reads p h']) ++ routeGo p pos k y = route p pos hd by rw [← hrel2.out, route_go1 e0, hy]; simp [r0])
          have q1 : (((i : Nat) : Int) == (R : Int)) = false := by simp; omega
          clear hrel2 e0 hy
          go_wp2_with fail
          refine (HS.out _ Hb3.out).mono ?_
          rintro en w7 ⟨rfl, hb7⟩
          have Hb7 := Lib.hid (below_step Hb3.out (hb7.alloc hb7.size (.cells #[.int .i64 y.e, .int .i64 y.n] 30)) Hb3.out.size)
          have Ow7 := Lib.hid (owns_below Own3.out (hb7.alloc hb7.size (.cells #[.int .i64 y.e, .int .i64 y.n] 30)))
          have Hq7 := Lib.hid ((Hq3.out.below hb7).alloc (.cells #[.int .i64 y.e, .int .i64 y.n] 30))
          have Hy7 := Lib.hid (qbox_new w7 y)
          clear hb7 x0 x1
          obtain ⟨_, x0, x1, f0, f1⟩ := Hq7.out.box
          obtain ⟨_, y0, y1, _⟩ := Hy7.out.box
          go_wp2_with fail
          go_roundg k
          case measure => omega
          case rel =>
            refine ⟨i + 1, xs ++ [reads p h'], y, by omega, ?_, by go_num, Hs.out, by first | omega | (simp; omega), Hq7.out.put y, Hwy.out, below_set2 Hb7.out (Nat.le_refl _) _ _⟩
            have := own_low (b := w.heap.size) (o := 1) (Nat.lt_succ_self _) (own_low (b := w.heap.size) (o := 0) (Nat.lt_succ_self _) Ow7.out (.int .i64 y.e)) (.int .i64 y.n)
            simpa using this
      · have Hs := Lib.hid (show route p pos hd = xs ++ [reads p h'] by rw [← hrel2.out, route_end e0]; simp [r0])
        obtain ⟨ye, yn, s2, hss⟩ : ∃ ye yn s2, step p pos h' = (⟨ye, yn⟩, s2) := ⟨_, _, _, rfl⟩
        have q0 : (s2 != 0) = true := by rw [hss] at e0; simpa [bne_iff_ne] using e0
        rw [hss] at HS
        dsimp only at HS
        clear hrel2 e0 hss
        go_wp2_with fail
        refine (HS.out _ Hb3.out).mono ?_
        rintro en w7 ⟨rfl, hb7⟩
        have Hb7 := Lib.hid (below_step Hb3.out (hb7.alloc hb7.size (.cells #[.int .i64 ye, .int .i64 yn] 30)) Hb3.out.size)
        have Ow7 := Lib.hid (owns_below Own3.out (hb7.alloc hb7.size (.cells #[.int .i64 ye, .int .i64 yn] 30)))
        clear hb7
        go_wp2_with fail
        try rw [Exit.noGoto_ret]
        exact bodyPost_ret (v := .slice a3 (xs.length + 1) c3) (by simp [results, Try.results41, go_sem]) rfl ⟨a3, xs.length + 1, c3, rfl, by rw [Hs.out]; exact (own_ints Ow7.out).1, (fun h => (hc3 h).2), Hb7.out⟩
    · have r1 : reads p h' < 0 := by omega
      go_wp2_with fail
      refine HRd.out.mono ?_
      rintro en w3 ⟨rfl, hb2⟩
      have Hb3 := Lib.hid (below_step Hb.out hb2 Hb.out.size)
      have Hq3 := Lib.hid (Hq.out.below hb2)
      have Own3 := Lib.hid (owns_below Own.out hb2)
      clear hb2 x0 x1 Own Hb Hq HRd
      obtain ⟨_, x0, x1, _⟩ := Hq3.out.box
      by_cases e0 : (step p pos h').2 = 0
      · cases gk with
        | zero =>
          have Hs := Lib.hid (show route p pos hd = xs by rw [← hrel2.out, route_stop]; simp [r0])
          obtain ⟨y, hy⟩ : ∃ y, step p pos h' = (y, 0) := ⟨_, by rw [← e0]⟩
          rw [hy] at HS
          dsimp only at HS
          have q1 : (((i : Nat) : Int) == (R : Int)) = true := by simp; omega
          clear hrel2 e0 hy
          go_wp2_with fail
          refine (HS.out _ Hb3.out).mono ?_
          rintro en w7 ⟨rfl, hb7⟩
          have Hb7 := Lib.hid (below_step Hb3.out (hb7.alloc hb7.size (.cells #[.int .i64 y.e, .int .i64 y.n] 30)) Hb3.out.size)
          have Ow7 := Lib.hid (owns_below Own3.out (hb7.alloc hb7.size (.cells #[.int .i64 y.e, .int .i64 y.n] 30)))
          clear hb7
          go_wp2_with fail
          try rw [Exit.noGoto_ret]
          exact bodyPost_ret (v := .slice a1 (xs.length) c1) (by simp [results, Try.results41, go_sem]) rfl ⟨a1, xs.length, c1, rfl, by rw [Hs.out]; exact (own_ints Ow7.out).1, (fun h => (hc1 h).2), Hb7.out⟩
        | succ k =>
          obtain ⟨y, hy⟩ : ∃ y, step p pos h' = (y, 0) := ⟨_, by rw [← e0]⟩
          rw [hy] at HS
          dsimp only at HS
          have Hwy := Lib.hid (step_wf G.out hy)
          have Hs := Lib.hid (show (xs) ++ routeGo p pos k y = route p pos hd by rw [← hrel2.out, route_go1 e0, hy]; simp [r0])
          have q1 : (((i : Nat) : Int) == (R : Int)) = false := by simp; omega
          clear hrel2 e0 hy
          go_wp2_with fail
          refine (HS.out _ Hb3.out).mono ?_
          rintro en w7 ⟨rfl, hb7⟩
          have Hb7 := Lib.hid (below_step Hb3.out (hb7.alloc hb7.size (.cells #[.int .i64 y.e, .int .i64 y.n] 30)) Hb3.out.size)
          have Ow7 := Lib.hid (owns_below Own3.out (hb7.alloc hb7.size (.cells #[.int .i64 y.e, .int .i64 y.n] 30)))
          have Hq7 := Lib.hid ((Hq3.out.below hb7).alloc (.cells #[.int .i64 y.e, .int .i64 y.n] 30))
          have Hy7 := Lib.hid (qbox_new w7 y)
          clear hb7 x0 x1
          obtain ⟨_, x0, x1, f0, f1⟩ := Hq7.out.box
          obtain ⟨_, y0, y1, _⟩ := Hy7.out.box
          go_wp2_with fail
          go_roundg k
          case measure => omega
          case rel =>
            refine ⟨i + 1, xs, y, by omega, ?_, by go_num, Hs.out, by first | omega | (simp; omega), Hq7.out.put y, Hwy.out, below_set2 Hb7.out (Nat.le_refl _) _ _⟩
            have := own_low (b := w.heap.size) (o := 1) (Nat.lt_succ_self _) (own_low (b := w.heap.size) (o := 0) (Nat.lt_succ_self _) Ow7.out (.int .i64 y.e)) (.int .i64 y.n)
            simpa using this
      · have Hs := Lib.hid (show route p pos hd = xs by rw [← hrel2.out, route_end e0]; simp [r0])
        obtain ⟨ye, yn, s2, hss⟩ : ∃ ye yn s2, step p pos h' = (⟨ye, yn⟩, s2) := ⟨_, _, _, rfl⟩
        have q0 : (s2 != 0) = true := by rw [hss] at e0; simpa [bne_iff_ne] using e0
        rw [hss] at HS
        dsimp only at HS
        clear hrel2 e0 hss
        go_wp2_with fail
        refine (HS.out _ Hb3.out).mono ?_
        rintro en w7 ⟨rfl, hb7⟩
        have Hb7 := Lib.hid (below_step Hb3.out (hb7.alloc hb7.size (.cells #[.int .i64 ye, .int .i64 yn] 30)) Hb3.out.size)
        have Ow7 := Lib.hid (owns_below Own3.out (hb7.alloc hb7.size (.cells #[.int .i64 ye, .int .i64 yn] 30)))
        clear hb7
        go_wp2_with fail
        try rw [Exit.noGoto_ret]
        exact bodyPost_ret (v := .slice a1 (xs.length) c1) (by simp [results, Try.results41, go_sem]) rfl ⟨a1, xs.length, c1, rfl, by rw [Hs.out]; exact (own_ints Ow7.out).1, (fun h => (hc1 h).2), Hb7.out⟩
end Go.Proofs.Ytackcfoplhhnbaa
