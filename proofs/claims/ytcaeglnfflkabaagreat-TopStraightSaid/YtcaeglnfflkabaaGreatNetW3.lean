/- Walk of net.New: the net of a plan. No condition beyond the plan that is read. -/
import Derived.Test.YtcaeglnfflkabaaGreatNetAt
set_option maxRecDepth 1000000
namespace Go.Proofs.YtcaeglnfflkabaaGreat
open Go.ChangeShapes Go.WideShapes Go.ChangeAt Go.RowKit Go.Sort

theorem join_fresh {js : List Join} (hn : (flatJoins js).Nodup) {j : Nat} {y : Join} (hy : js[j]? = some y) :
  nextIn (js.take j ++ [y]) y.b = some y.a ∧ ∀ z, z ≠ y.b → nextIn (js.take j ++ [y]) z = nextHalf (js.take j) y z := by
 have hs : js = js.take j ++ (y :: js.drop (j + 1)) := by
  rw [← drop_cons hy, List.take_append_drop]
 rw [hs, flat_append] at hn
 have h2 := List.nodup_append.1 hn
 have h3 : (y.a :: y.b :: flatJoins (js.drop (j + 1))).Nodup := h2.2.1
 have h4 := List.nodup_cons.1 h3
 refine next_snoc (fun h => h2.2.2 _ h y.a (by simp [flatJoins]) rfl) (fun h => h2.2.2 _ h y.b (by simp [flatJoins]) rfl) (fun h => h4.1 (by rw [h]; simp))
theorem keep5 {w w' : World} {b c d : Nat} {u9 u0 u1 u2 u3 : Value} (h : w.cell? ⟨c, 9, none⟩ = some u9 ∧ w.cell? ⟨d, 0, none⟩ = some u0 ∧ w.cell? ⟨d, 1, none⟩ = some u1 ∧ w.cell? ⟨d, 2, none⟩ = some u2 ∧ w.cell? ⟨d, 3, none⟩ = some u3) (g : w.grownBy w' (some b)) (hc : c ≠ b) (hd : d ≠ b) :
  w'.cell? ⟨c, 9, none⟩ = some u9 ∧ w'.cell? ⟨d, 0, none⟩ = some u0 ∧ w'.cell? ⟨d, 1, none⟩ = some u1 ∧ w'.cell? ⟨d, 2, none⟩ = some u2 ∧ w'.cell? ⟨d, 3, none⟩ = some u3 := by
 have e1 : some c ≠ some b := fun e => hc (Option.some.inj e)
 have e2 : some d ≠ some b := fun e => hd (Option.some.inj e)
 exact ⟨g.cell h.1 e1, g.cell h.2.1 e2, g.cell h.2.2.1 e2, g.cell h.2.2.2.1 e2, g.cell h.2.2.2.2 e2⟩
theorem sig_take {l : List Sig} {j : Nat} {y : Sig} (hy : l[j]? = some y) : (l.take (j + 1)).map (·.at_) = (l.take j).map (·.at_) ++ [y.at_] := by rw [take_next hy]; simp
theorem sig_len {l : List Sig} {j : Nat} {y : Sig} (hy : l[j]? = some y) : ((l.take j).map (·.at_)).length = j := by
 have := (List.getElem?_eq_some_iff.1 hy).1
 simp; omega
theorem sig_fresh {p : Plan} (g : Good p) {j : Nat} {y : Sig} (hy : p.sigs[j]? = some y) : y.at_ ∉ (p.sigs.take j).map (·.at_) := by
 intro hm
 obtain ⟨i, hi⟩ := List.mem_iff_getElem?.1 hm
 rw [List.getElem?_map, List.getElem?_take] at hi
 split at hi
 ·rename_i hij
  have hn := nodup_idx.1 g.sigs.1
  refine hn i j hij (by simpa using (List.getElem?_eq_some_iff.1 hy).1) ?_
  rw [List.getElem?_map, List.getElem?_map, hi, hy]; rfl
 ·simp at hi
theorem first_short {nx : Port → Option Port} {l : List Int} (h : l.length ≤ 1) : firstIn nx l = 0 := by
 match l, h with
 | [], _ => rfl
 | [_], _ => rfl
 | _ :: _ :: _, h => simp at h
theorem line_fresh {p : Plan} (g : Good p) {j q : Nat} {l : Line} {e : Int} (hl : p.lines[j]? = some l) (he : l.elems[q]? = some e) : e ∉ flatLines (p.lines.take j) ∧ e ∉ l.elems.take q := by
 have h1 := g.lines.1
 have hs : p.lines = p.lines.take j ++ (l :: p.lines.drop (j + 1)) := by rw [← drop_cons hl, List.take_append_drop]
 rw [hs] at h1
 have e1 : flatLines (p.lines.take j ++ (l :: p.lines.drop (j + 1))) = flatLines (p.lines.take j) ++ (l.elems ++ flatLines (p.lines.drop (j + 1))) := by simp [flatLines]
 rw [e1] at h1
 obtain ⟨_, h2, h3⟩ := List.nodup_append.1 h1
 refine ⟨fun hm => h3 e hm e (by simp [List.mem_of_getElem? he]) rfl, ?_⟩
 have h4 := (List.nodup_append.1 h2).1
 have hs2 : l.elems = l.elems.take q ++ (e :: l.elems.drop (q + 1)) := by rw [← drop_cons he, List.take_append_drop]
 rw [hs2] at h4
 exact fun hm => (List.nodup_append.1 h4).2.2 e hm e (by simp) rfl
theorem endOf_bound {p : Plan} (g : Good p) (x : Port) : 0 ≤ endOf (nextOf p) x ∧ endOf (nextOf p) x ≤ 4 := by
 unfold endOf
 cases h : nextOf p x with
 | none => simp [zeroPort]
 | some y =>
  have h1 := isPort_iff.1 (g.ports h).2
  have h2 := ends_nonneg (p.kind y.e)
  simp only [Option.getD_some]
  omega
theorem lead_step {nx : Port → Option Port} {l : List Int} {q : Nat} {u e : Int} (h : (leadList nx l).drop q = leadGo nx u (l.drop q)) (he : l[q]? = some e) :
  (leadList nx l)[q]? = some u ∧ (leadList nx l).drop (q + 1) = leadGo nx (endOf nx ⟨e, 1 - u⟩) (l.drop (q + 1)) := by
 rw [drop_cons he] at h
 have h' : (leadList nx l).drop q = u :: leadGo nx (endOf nx ⟨e, 1 - u⟩) (l.drop (q + 1)) := h
 constructor
 ·have := congrArg List.head? h'; rw [List.head?_drop] at this; exact this
 ·have := congrArg List.tail h'; rw [List.tail_drop] at this; exact this
theorem keep2 {w w' : World} {b c : Nat} {u1 u2 : Value} (h : w.cell? ⟨c, 11, none⟩ = some u1 ∧ w.cell? ⟨c, 12, none⟩ = some u2) (g : w.grownBy w' (some b)) (hc : c ≠ b) : w'.cell? ⟨c, 11, none⟩ = some u1 ∧ w'.cell? ⟨c, 12, none⟩ = some u2 :=
 ⟨g.cell h.1 (fun e => hc (Option.some.inj e)), g.cell h.2 (fun e => hc (Option.some.inj e))⟩
theorem first_yes {nx : Port → Option Port} {l : List Int} {a b : Int} {x : Port} (h0 : l[0]? = some a) (h1 : l[1]? = some b) (h : nx ⟨a, 0⟩ = some x) (he : x.e = b) : firstIn nx l = 1 := by
 match l, h0, h1 with
 | _ :: _ :: _, h0, h1 =>
  simp at h0 h1
  subst h0; subst h1
  simp [firstIn, leadsTo, h, he]
theorem first_no {nx : Port → Option Port} {l : List Int} {a b : Int} {x : Port} (h0 : l[0]? = some a) (h1 : l[1]? = some b) (h : nx ⟨a, 0⟩ = some x) (he : x.e ≠ b) : firstIn nx l = 0 := by
 match l, h0, h1 with
 | _ :: _ :: _, h0, h1 =>
  simp at h0 h1
  subst h0; subst h1
  simp [firstIn, leadsTo, h, he]
theorem first_none {nx : Port → Option Port} {l : List Int} {a b : Int} (h0 : l[0]? = some a) (h1 : l[1]? = some b) (h : nx ⟨a, 0⟩ = none) : firstIn nx l = 0 := by
 match l, h0, h1 with
 | _ :: _ :: _, h0, h1 =>
  simp at h0 h1
  subst h0; subst h1
  simp [firstIn, leadsTo, h]
theorem twin_l {w : World} {ae aj as_ al : Option Addr} {ne ce nj cj ns cs nl cl : Nat} {lv : List LineV} {p : Plan} (hf : FewOk ⟨ae, ne, ce, aj, nj, cj, as_, ns, cs, al, nl, cl, lv⟩) (h : PlanAt w ⟨ae, ne, ce, aj, nj, cj, as_, ns, cs, al, nl, cl, lv⟩ p) : Calls Tryz.prog 23 #[.agg #[.slice ae ne ce, .slice aj nj cj, .slice as_ ns cs, .slice al nl cl, .int .i64 p.top, .int .i64 p.brake, .int .i64 p.margin, .int .i64 p.throw, .bool p.hard]] w (TwinPost w lv p) := twin_any w ⟨ae, ne, ce, aj, nj, cj, as_, ns, cs, al, nl, cl, lv⟩ p hf h
set_option maxHeartbeats 4000000 in
theorem new_any (w : World) (pv : PV) (p : Plan) (hf : FewOk pv) (h : PlanAt w pv p) : Calls Tryz.prog 9 #[pv.val p] w (NewPost w p) := by
 obtain ⟨ae, ne, ce, aj, nj, cj, as_, ns, cs, al, nl, cl, lv⟩ := pv
 have hP := Lib.hid h
 have Hf := Lib.hid hf
 have Hn2 := Lib.hid (show ∀ x ∈ lv, x.n ≤ 1000 from fun x hx => by have := hf.2.2.2.2 x hx; omega)
 have HBa := Lib.hid (pbox_new w ⟨ae, ne, ce, aj, nj, cj, as_, ns, cs, al, nl, cl, lv⟩ p)
 have Hba := Lib.hid (below_new w (.cells #[.slice ae ne ce, .slice aj nj cj, .slice as_ ns cs, .slice al nl cl, .int .i64 p.top, .int .i64 p.brake, .int .i64 p.margin, .int .i64 p.throw, .bool p.hard] 27))
 clear h hf
 have hmm := @run_makeMap Tryz.prog
 dsimp only [PV.val]
 go_enter Tryz.func9, Tryz.ntmps9
 go_wp2_with fail
 refine (check_l Hn2.out (hP.out.below Hba.out)).mono ?_
 rintro e w1 ⟨rfl, hbx⟩
 have HB1 := Lib.hid (HBa.out.below hbx)
 have Hb1 := Lib.hid (below_step Hba.out hbx Hba.out.size)
 clear hbx
 obtain ⟨_, c0, c1, c2, c3, c4, c5, c6, c7, c8⟩ := HB1.out
 dsimp only at c0 c1 c2 c3
 by_cases h0 : chk p = 0
 ·have q1 : (chk p != 0) = false := by simp [h0]
  have Hc := Lib.hid h0
  clear h0
  go_wp2_with fail
  refine (twin_l Hf.out (hP.out.below Hb1.out)).mono ?_
  rintro e w2 ⟨⟨be, me, fe, bj, mj, fj, bs, ms, fs, bl, ml, fl, lq⟩, rfl, hq, _, _, hbx⟩
  have HQ2 := Lib.hid hq
  have HB2 := Lib.hid (HB1.out.below hbx)
  have Hb2 := Lib.hid (below_step Hb1.out hbx Hb1.out.size)
  clear hq hbx c0 c1 c2 c3 c4 c5 c6 c7 c8
  dsimp only [PV.val]
  obtain ⟨_, c0, c1, c2, c3, c4, c5, c6, c7, c8⟩ := HB2.out
  dsimp only at c0 c1 c2 c3
  have h5 := cell5 HB2.out.lt
  go_wp2_with fail
  refine name_code fun w3 hw3 => ?_
  have HN3 := Lib.hid (show NetBlock w3 (w2.heap.size + 4) ⟨be, me, fe, bj, mj, fj, bs, ms, fs, bl, ml, fl, lq⟩ p w2.heap.size (w2.heap.size + 1) (w2.heap.size + 1 + 1) (w2.heap.size + 1 + 1 + 1) by rw [hw3]; exact heap_new_at (by simp))
  have Hx3 := Lib.hid (show Below w2.heap.size w2 w3 by rw [hw3]; exact ((((below_new w2 _).alloc (by simp) _).alloc (by simp; omega) _).alloc (by simp; omega) _).alloc (by simp; omega) _)
  have HM1 := Lib.hid (show MapOf portCode Port.val w3 43 w2.heap.size 0 (nextIn (p.joins.take 0)) by rw [hw3]; exact ((((made_at portCode Port.val w2 43 rfl (fun _ => rfl)).alloc _).alloc _).alloc _).alloc _)
  have HM2 := Lib.hid (show MapOf portCode natVal w3 43 (w2.heap.size + 1) 0 (fun _ => none) by rw [hw3]; exact (((made_at portCode natVal (w2.alloc _) 43 (by simp) (fun _ => rfl)).alloc _).alloc _).alloc _)
  have HM3 := Lib.hid (show MapOf intCode pairVal w3 3 (w2.heap.size + 1 + 1) 0 (fun _ => none) by rw [hw3]; exact ((made_at intCode pairVal ((w2.alloc _).alloc _) 3 (by simp) (fun _ => rfl)).alloc _).alloc _)
  have HM4 := Lib.hid (show MapOf intCode intVal w3 3 (w2.heap.size + 1 + 1 + 1) 0 (fun _ => none) by rw [hw3]; exact (made_at intCode intVal (((w2.alloc _).alloc _).alloc _) 3 (by simp) (fun _ => rfl)).alloc _)
  clear hw3 h5 hmm c0 c1 c2 c3 c4 c5 c6 c7 c8
  have G := Lib.hid (good_of Hc.out)
  have lj := Lib.hid (show p.joins.length = nj from hP.out.j.len)
  obtain ⟨hfe, hfj, hfs, hfl, hfi⟩ := Hf.out
  dsimp only at hfe hfj hfs hfl
  go_loopg [33] nj (fun k i wr => ∃ j : Nat, j + k = nj ∧ i = .int .i64 j ∧ NetBlock wr (w2.heap.size + 4) ⟨be, me, fe, bj, mj, fj, bs, ms, fs, bl, ml, fl, lq⟩ p w2.heap.size (w2.heap.size + 1) (w2.heap.size + 1 + 1) (w2.heap.size + 1 + 1 + 1) ∧ Below w2.heap.size w2 wr ∧
   MapOf portCode Port.val wr 43 w2.heap.size (2 * j) (nextIn (p.joins.take j)) ∧ MapOf portCode natVal wr 43 (w2.heap.size + 1) 0 (fun _ => none) ∧ MapOf intCode pairVal wr 3 (w2.heap.size + 1 + 1) 0 (fun _ => none) ∧ MapOf intCode intVal wr 3 (w2.heap.size + 1 + 1 + 1) 0 (fun _ => none))
  case atStart => exact ⟨0, by omega, rfl, HN3.out, Hx3.out, HM1.out, HM2.out, HM3.out, HM4.out⟩
  case round =>
   clear HN3 Hx3 HM1 HM2 HM3 HM4
   obtain ⟨j, hk, rfl, hN, hx, hm1, hm2, hm3, hm4⟩ := hrel
   have Hk := Lib.hid hk; clear hk
   have HN := Lib.hid hN; clear hN
   have Hx := Lib.hid hx; clear hx
   have Hm1 := Lib.hid hm1
   have Hm2 := Lib.hid hm2
   have Hm3 := Lib.hid hm3
   have Hm4 := Lib.hid hm4
   clear hm1 hm2 hm3 hm4
   by_cases hlt : j < nj
   ·obtain ⟨y, hy⟩ := get_some lj.out hlt
    obtain ⟨pb, off, rfl, hpb, g1, g2, g3, g4⟩ := hP.out.j.joinB (below_step Hb2.out Hx.out Hb2.out.size) hy
    have Hy := Lib.hid hy
    have hwf := hP.out.fit.j y (List.mem_of_getElem? hy)
    have hsn := join_fresh G.out.nodup hy
    have hml1 : 2 * j < maxLen := by simp only [maxLen]; omega
    have hml2 : 2 * j + 1 < maxLen := by simp only [maxLen]; omega
    clear hy
    go_wp2_with fail
    refine name_code fun W hW => ?_
    have HNW := Lib.hid (show NetBlock W (w2.heap.size + 4) ⟨be, me, fe, bj, mj, fj, bs, ms, fs, bl, ml, fl, lq⟩ p w2.heap.size (w2.heap.size + 1) (w2.heap.size + 1 + 1) (w2.heap.size + 1 + 1 + 1) by rw [hW]; exact HN.out.alloc _)
    have HxW := Lib.hid (show Below w2.heap.size w2 W by rw [hW]; exact Hx.out.alloc Hx.out.size _)
    have HmW := Lib.hid (show MapOf portCode Port.val W 43 w2.heap.size (2 * j) (nextIn (p.joins.take j)) by rw [hW]; exact Hm1.out.alloc _)
    have HmW2 := Lib.hid (show MapOf portCode natVal W 43 (w2.heap.size + 1) 0 (fun _ => none) by rw [hW]; exact Hm2.out.alloc _)
    have HmW3 := Lib.hid (show MapOf intCode pairVal W 3 (w2.heap.size + 1 + 1) 0 (fun _ => none) by rw [hW]; exact Hm3.out.alloc _)
    have HmW4 := Lib.hid (show MapOf intCode intVal W 3 (w2.heap.size + 1 + 1 + 1) 0 (fun _ => none) by rw [hW]; exact Hm4.out.alloc _)
    have k0 : W.cell? ⟨wr.heap.size, 0, none⟩ = some (.int .i64 y.a.e) := by rw [hW]; go_simp
    have k1 : W.cell? ⟨wr.heap.size, 1, none⟩ = some (.int .i64 y.a.n) := by rw [hW]; go_simp
    have k2 : W.cell? ⟨wr.heap.size, 2, none⟩ = some (.int .i64 y.b.e) := by rw [hW]; go_simp
    have k3 : W.cell? ⟨wr.heap.size, 3, none⟩ = some (.int .i64 y.b.n) := by rw [hW]; go_simp
    have n9 := HNW.out.cell9
    have hwrH := HN.out.lt
    clear hW g1 g2 g3 g4
    refine wp_region_noPanic ?_
    refine region_upto (S := fun w' => w'.cell? ⟨w2.heap.size + 4, 9, none⟩ = some (.map (some w2.heap.size)) ∧ w'.cell? ⟨wr.heap.size, 0, none⟩ = some (.int .i64 y.a.e) ∧ w'.cell? ⟨wr.heap.size, 1, none⟩ = some (.int .i64 y.a.n) ∧ w'.cell? ⟨wr.heap.size, 2, none⟩ = some (.int .i64 y.b.e) ∧ w'.cell? ⟨wr.heap.size, 3, none⟩ = some (.int .i64 y.b.n)) (n := 22) (by kernel_rfl) ?_
    have hS0 : W.drew.cell? ⟨w2.heap.size + 4, 9, none⟩ = some (.map (some w2.heap.size)) ∧ W.drew.cell? ⟨wr.heap.size, 0, none⟩ = some (.int .i64 y.a.e) ∧ W.drew.cell? ⟨wr.heap.size, 1, none⟩ = some (.int .i64 y.a.n) ∧ W.drew.cell? ⟨wr.heap.size, 2, none⟩ = some (.int .i64 y.b.e) ∧ W.drew.cell? ⟨wr.heap.size, 3, none⟩ = some (.int .i64 y.b.n) := ⟨n9, k0, k1, k2, k3⟩
    refine uk 0 (.pointer (some ⟨(w2.heap.size + 1 + 1 + 1 + 1), 0, none⟩)) ?_ hS0 ?_
    ·intro w' hSw
     (try dsimp only at hSw)
     go_simp
    (try simp only [zA, zC, Act.put, zD, zE, zF])
    refine uk 1 (.pointer (some ⟨(w2.heap.size + 1 + 1 + 1 + 1), 0, none⟩)) ?_ hS0 ?_
    ·intro w' hSw
     (try dsimp only at hSw)
     go_simp
    (try simp only [zA, zB, zC, Act.put, zD, zE, zF])
    refine uk 2 (.pointer (some ⟨(w2.heap.size + 1 + 1 + 1 + 1), 9, none⟩)) ?_ hS0 ?_
    ·intro w' hSw
     (try dsimp only at hSw)
     go_simp
    (try simp only [zA, zB, zC, Act.put, zD, zE, zF])
    refine uk 3 (.map (some w2.heap.size)) ?_ hS0 ?_
    ·intro w' hSw
     (try dsimp only at hSw)
     go_simp
    (try simp only [zA, zB, zC, Act.put, zD, zE, zF])
    refine uk 4 (.pointer (some ⟨wr.heap.size, 0, none⟩)) ?_ hS0 ?_
    ·intro w' hSw
     (try dsimp only at hSw)
     go_simp
    (try simp only [zA, zB, zC, Act.put, zD, zE, zF])
    refine uk 5 (.agg #[.int .i64 y.a.e, .int .i64 y.a.n]) ?_ hS0 ?_
    ·intro w' hSw
     (try dsimp only at hSw)
     go_simp
    (try simp only [zA, zB, zC, Act.put, zD, zE, zF])
    refine uk 6 (.pointer (some ⟨(w2.heap.size + 1 + 1 + 1 + 1), 0, none⟩)) ?_ hS0 ?_
    ·intro w' hSw
     (try dsimp only at hSw)
     go_simp
    (try simp only [zA, zB, zC, Act.put, zD, zE, zF])
    refine uk 7 (.pointer (some ⟨(w2.heap.size + 1 + 1 + 1 + 1), 0, none⟩)) ?_ hS0 ?_
    ·intro w' hSw
     (try dsimp only at hSw)
     go_simp
    (try simp only [zA, zB, zC, Act.put, zD, zE, zF])
    refine uk 8 (.pointer (some ⟨(w2.heap.size + 1 + 1 + 1 + 1), 9, none⟩)) ?_ hS0 ?_
    ·intro w' hSw
     (try dsimp only at hSw)
     go_simp
    (try simp only [zA, zB, zC, Act.put, zD, zE, zF])
    refine uk 9 (.map (some w2.heap.size)) ?_ hS0 ?_
    ·intro w' hSw
     (try dsimp only at hSw)
     go_simp
    (try simp only [zA, zB, zC, Act.put, zD, zE, zF])
    refine uk 10 (.pointer (some ⟨wr.heap.size, 2, none⟩)) ?_ hS0 ?_
    ·intro w' hSw
     (try dsimp only at hSw)
     go_simp
    (try simp only [zA, zB, zC, Act.put, zD, zE, zF])
    refine uk 11 (.agg #[.int .i64 y.b.e, .int .i64 y.b.n]) ?_ hS0 ?_
    ·intro w' hSw
     (try dsimp only at hSw)
     go_simp
    (try simp only [zA, zB, zC, Act.put, zD, zE, zF])
    refine uk 12 (.pointer (some ⟨wr.heap.size, 2, none⟩)) ?_ hS0 ?_
    ·intro w' hSw
     (try dsimp only at hSw)
     go_simp
    (try simp only [zA, zB, zC, Act.put, zD, zE, zF])
    refine uk 13 (.agg #[.int .i64 y.b.e, .int .i64 y.b.n]) ?_ hS0 ?_
    ·intro w' hSw
     (try dsimp only at hSw)
     go_simp
    (try simp only [zA, zB, zC, Act.put, zD, zE, zF])
    refine uk 14 (.pointer (some ⟨wr.heap.size, 0, none⟩)) ?_ hS0 ?_
    ·intro w' hSw
     (try dsimp only at hSw)
     go_simp
    (try simp only [zA, zB, zC, Act.put, zD, zE, zF])
    refine uk 15 (.agg #[.int .i64 y.a.e, .int .i64 y.a.n]) ?_ hS0 ?_
    ·intro w' hSw
     (try dsimp only at hSw)
     go_simp
    (try simp only [zA, zB, zC, Act.put, zD, zE, zF])
    have hq := HmW.out.drew.entry (nextHalf (p.joins.take j) y) (y := y.b) (nextHalf_key _ _) (nextHalf_other _ _) hml1 keyed_port Tryz.underlying87 zero_port (key_port hwf.1)
    obtain ⟨vwb, hq⟩ := hq
    obtain ⟨stwb, hq⟩ := hq
    obtain ⟨wa, hq⟩ := hq
    obtain ⟨wb, hq⟩ := hq
    obtain ⟨r1, hq⟩ := hq
    obtain ⟨g1wb, hq⟩ := hq
    obtain ⟨r2, hq⟩ := hq
    obtain ⟨g2wb, hmwb⟩ := hq
    have r1 : (Instr.mapEntry 87 (.map (some w2.heap.size)) (.agg #[.int .i64 y.a.e, .int .i64 y.a.n])).run Tryz.prog W.drew = .ok (.tuple #[vwb, goInt stwb]) wa := r1
    have r2 : (Instr.entryStore 87 (.map (some w2.heap.size)) (goInt stwb) (.agg #[.int .i64 y.b.e, .int .i64 y.b.n])).run Tryz.prog wa = .ok () wb := r2
    have hS1 := keep5 hS0 g1wb (by omega) (by omega)
    refine upto_entry (i := 16) (mv := .map (some w2.heap.size)) (key := .agg #[.int .i64 y.a.e, .int .i64 y.a.n]) (r := .tuple #[vwb, goInt stwb]) (w1 := wa) ?zz1 rfl ?zz3 (.tmp 40) (.tmp 42) 87 ?zz4 ?zz5 ?zz6 ?zz7 (fun _ => hS1) ?_
    case zz1 => kernel_rfl
    case zz3 => exact rfl
    case zz4 => exact rfl
    case zz5 => exact rfl
    case zz6 => exact rfl
    case zz7 => exact r1
    (try simp only [zA, zB, zC, Act.put, zD, zE, zF])
    refine uk 17 (goInt stwb) ?_ hS1 ?_
    ·intro w' hSw
     (try dsimp only at hSw)
     go_simp
    (try simp only [zA, zB, zC, Act.put, zD, zE, zF])
    have hSwb := keep5 hS0 g2wb (by omega) (by omega)
    refine upto_estore (i := 18) (mv := .map (some w2.heap.size)) (st := goInt stwb) (val := .agg #[.int .i64 y.b.e, .int .i64 y.b.n]) (w1 := wb) (by kernel_rfl) rfl rfl (.tmp 40) (.tmp 54) (.tmp 50) 87 rfl rfl rfl rfl r2 (fun _ => hSwb) ?_
    clear r1 r2 hS1
    (try simp only [zA, zB, zC, Act.put])
    have hq := hmwb.entry (nextIn (p.joins.take (j + 1))) (y := y.a) (by rw [take_next Hy.out]; exact hsn.1) (by rw [take_next Hy.out]; exact hsn.2) hml2 keyed_port Tryz.underlying87 zero_port (key_port hwf.2)
    obtain ⟨vwd, hq⟩ := hq
    obtain ⟨stwd, hq⟩ := hq
    obtain ⟨wc, hq⟩ := hq
    obtain ⟨wd, hq⟩ := hq
    obtain ⟨r1, hq⟩ := hq
    obtain ⟨g1wd, hq⟩ := hq
    obtain ⟨r2, hq⟩ := hq
    obtain ⟨g2wd, hmwd⟩ := hq
    have r1 : (Instr.mapEntry 87 (.map (some w2.heap.size)) (.agg #[.int .i64 y.b.e, .int .i64 y.b.n])).run Tryz.prog wb = .ok (.tuple #[vwd, goInt stwd]) wc := r1
    have r2 : (Instr.entryStore 87 (.map (some w2.heap.size)) (goInt stwd) (.agg #[.int .i64 y.a.e, .int .i64 y.a.n])).run Tryz.prog wc = .ok () wd := r2
    have hS1 := keep5 hSwb g1wd (by omega) (by omega)
    refine upto_entry (i := 19) (mv := .map (some w2.heap.size)) (key := .agg #[.int .i64 y.b.e, .int .i64 y.b.n]) (r := .tuple #[vwd, goInt stwd]) (w1 := wc) ?zz1 rfl ?zz3 (.tmp 46) (.tmp 48) 87 ?zz4 ?zz5 ?zz6 ?zz7 (fun _ => hS1) ?_
    case zz1 => kernel_rfl
    case zz3 => exact rfl
    case zz4 => exact rfl
    case zz5 => exact rfl
    case zz6 => exact rfl
    case zz7 => exact r1
    (try simp only [zA, zB, zC, Act.put, zD, zE, zF])
    refine uk 20 (goInt stwd) ?_ hS1 ?_
    ·intro w' hSw
     (try dsimp only at hSw)
     go_simp
    (try simp only [zA, zB, zC, Act.put, zD, zE, zF])
    have hSwd := keep5 hSwb g2wd (by omega) (by omega)
    refine upto_estore (i := 21) (mv := .map (some w2.heap.size)) (st := goInt stwd) (val := .agg #[.int .i64 y.a.e, .int .i64 y.a.n]) (w1 := wd) (by kernel_rfl) rfl rfl (.tmp 46) (.tmp 56) (.tmp 52) 87 rfl rfl rfl rfl r2 (fun _ => hSwd) ?_
    clear r1 r2 hS1
    (try simp only [zA, zB, zC, Act.put])
    refine upto_done (by kernel_rfl) (NoPanic.normal ?_) _
    have hs1 := HNW.out.lt
    have HNd := Lib.hid ((HNW.out.grown (w' := wb) ⟨g2wb.os, g2wb.tape, g2wb.output, g2wb.size, g2wb.block⟩ (fun e => by have := Option.some.inj e; omega)).grown g2wd (fun e => by have := Option.some.inj e; omega))
    have hbW : w2.heap.size ≤ W.drew.heap.size := HxW.out.size
    have Hxb := (HxW.out.drew.grown g2wb hbW (by intro k hk; cases hk; exact Nat.le_refl _))
    have Hxd := Lib.hid (Hxb.grown g2wd Hxb.size (by intro k hk; cases hk; exact Nat.le_refl _))
    have Hm1d := Lib.hid (show MapOf portCode Port.val wd 43 w2.heap.size (2 * (j + 1)) (nextIn (p.joins.take (j + 1))) from hmwd.mono (by omega))
    have Hm2d := Lib.hid ((HmW2.out.drew.kept g2wb (by simp)).kept g2wd (by simp))
    have Hm3d := Lib.hid ((HmW3.out.drew.kept g2wb (by simp; omega)).kept g2wd (by simp; omega))
    have Hm4d := Lib.hid ((HmW4.out.drew.kept g2wb (by simp; omega)).kept g2wd (by simp; omega))
    clear hmwb hmwd hSwb hSwd g1wb g1wd g2wb g2wd Hxb n9 k0 k1 k2 k3 hS0
    go_wp2_with fail
    go_roundg (gk - 1)
    case measure => have := Hk.out; omega
    case rel => exact ⟨j + 1, by have := Hk.out; omega, by go_num, HNd.out, Hxd.out, Hm1d.out, Hm2d.out, Hm3d.out, Hm4d.out⟩
   ·have hM1 := Lib.hid (show MapOf portCode Port.val wr 43 w2.heap.size 1000 (nextOf p) from (Hm1.out.mono (by have := Hk.out; omega)).congr (fun x => by unfold nextOf; rw [List.take_of_length_le (by have := lj.out; omega)]))
    have HPw := (below_step Hb2.out Hx.out Hb2.out.size)
    have HBr := Lib.hid (HB2.out.below Hx.out)
    obtain ⟨_, c0, c1, c2, c3, c4, c5, c6, c7, c8⟩ := HBr.out
    dsimp only at c0 c1 c2 c3
    clear Hm1
    have ls := Lib.hid (show p.sigs.length = ns from hP.out.s.len)
    go_wp2_with fail
    clear c0 c1 c2 c3 c4 c5 c6 c7 c8 HPw HBr hlt Hk lj
    go_loopg [61] ns (fun k i w' => ∃ j : Nat, j + k = ns ∧ i = .int .i64 j ∧ NetBlock w' (w2.heap.size + 4) ⟨be, me, fe, bj, mj, fj, bs, ms, fs, bl, ml, fl, lq⟩ p w2.heap.size (w2.heap.size + 1) (w2.heap.size + 1 + 1) (w2.heap.size + 1 + 1 + 1) ∧ Below w2.heap.size w2 w' ∧
     MapOf portCode Port.val w' 43 w2.heap.size 1000 (nextOf p) ∧ MapOf portCode natVal w' 43 (w2.heap.size + 1) j (posP 0 ((p.sigs.take j).map (·.at_))) ∧ MapOf intCode pairVal w' 3 (w2.heap.size + 1 + 1) 0 (fun _ => none) ∧ MapOf intCode intVal w' 3 (w2.heap.size + 1 + 1 + 1) 0 (fun _ => none))
    case atStart => exact ⟨0, by omega, rfl, HN.out, Hx.out, hM1.out, Hm2.out.congr (fun x => by simp [posP]), Hm3.out, Hm4.out⟩
    case round =>
     clear HN Hx hM1 Hm2 Hm3 Hm4
     obtain ⟨j, hk, rfl, hN, hx, hm1, hm2, hm3, hm4⟩ := hrel
     have Hk := Lib.hid hk; clear hk
     have HN := Lib.hid hN; clear hN
     have Hx := Lib.hid hx; clear hx
     have Hm1 := Lib.hid hm1
     have Hm2 := Lib.hid hm2
     have Hm3 := Lib.hid hm3
     have Hm4 := Lib.hid hm4
     clear hm1 hm2 hm3 hm4
     by_cases hlt : j < ns
     ·obtain ⟨y, hy⟩ := get_some ls.out hlt
      obtain ⟨pb, off, rfl, hpb, g1, g2, g3, g4⟩ := hP.out.s.sigB (below_step Hb2.out Hx.out Hb2.out.size) hy
      have Hy := Lib.hid hy
      have hwf := (hP.out.fit.s y (List.mem_of_getElem? hy)).1
      have htk := Lib.hid (sig_take hy)
      have hfr := Lib.hid (sig_fresh G.out hy)
      have hml1 : j < maxLen := by simp only [maxLen]; omega
      clear hy
      go_wp2_with fail
      refine name_code fun W hW => ?_
      have HNW := Lib.hid (show NetBlock W (w2.heap.size + 4) ⟨be, me, fe, bj, mj, fj, bs, ms, fs, bl, ml, fl, lq⟩ p w2.heap.size (w2.heap.size + 1) (w2.heap.size + 1 + 1) (w2.heap.size + 1 + 1 + 1) by rw [hW]; exact HN.out.alloc _)
      have HxW := Lib.hid (show Below w2.heap.size w2 W by rw [hW]; exact Hx.out.alloc Hx.out.size _)
      have HmW := Lib.hid (show MapOf portCode Port.val W 43 w2.heap.size 1000 (nextOf p) by rw [hW]; exact Hm1.out.alloc _)
      have HmW2 := Lib.hid (show MapOf portCode natVal W 43 (w2.heap.size + 1) j (posP 0 ((p.sigs.take j).map (·.at_))) by rw [hW]; exact Hm2.out.alloc _)
      have HmW3 := Lib.hid (show MapOf intCode pairVal W 3 (w2.heap.size + 1 + 1) 0 (fun _ => none) by rw [hW]; exact Hm3.out.alloc _)
      have HmW4 := Lib.hid (show MapOf intCode intVal W 3 (w2.heap.size + 1 + 1 + 1) 0 (fun _ => none) by rw [hW]; exact Hm4.out.alloc _)
      have k1 : W.cell? ⟨wr.heap.size, 1, none⟩ = some (.int .i64 y.at_.e) := by rw [hW]; go_simp
      have k2 : W.cell? ⟨wr.heap.size, 2, none⟩ = some (.int .i64 y.at_.n) := by rw [hW]; go_simp
      have n10 := HNW.out.cell10
      have hwrH := HN.out.lt
      have hq := HmW2.out.drew.store (posP 0 ((p.sigs.take (j + 1)).map (·.at_))) (y := j) (by rw [htk.out, posP_key hfr.out, sig_len Hy.out]) (fun z hz => by rw [htk.out, posP_other hz]) hml1 keyed_port Tryz.underlying88 (key_port hwf)
      clear hW g1 g2 g3 g4
      refine wp_region_noPanic ?_
      refine region_upto (S := fun w' => w'.cell? ⟨w2.heap.size + 4, 10, none⟩ = some (.map (some (w2.heap.size + 1))) ∧ w'.cell? ⟨wr.heap.size, 1, none⟩ = some (.int .i64 y.at_.e) ∧ w'.cell? ⟨wr.heap.size, 2, none⟩ = some (.int .i64 y.at_.n)) (n := 7) (by kernel_rfl) ?_
      have hS0 : W.drew.cell? ⟨w2.heap.size + 4, 10, none⟩ = some (.map (some (w2.heap.size + 1))) ∧ W.drew.cell? ⟨wr.heap.size, 1, none⟩ = some (.int .i64 y.at_.e) ∧ W.drew.cell? ⟨wr.heap.size, 2, none⟩ = some (.int .i64 y.at_.n) := ⟨n10, k1, k2⟩
      refine uk 0 (.pointer (some ⟨(w2.heap.size + 1 + 1 + 1 + 1), 0, none⟩)) ?_ hS0 ?_
      ·intro w' hSw
       (try dsimp only at hSw)
       go_simp
      (try simp only [zA, zC, Act.put, zD, zE, zF])
      refine uk 1 (.pointer (some ⟨(w2.heap.size + 1 + 1 + 1 + 1), 0, none⟩)) ?_ hS0 ?_
      ·intro w' hSw
       (try dsimp only at hSw)
       go_simp
      (try simp only [zA, zB, zC, Act.put, zD, zE, zF])
      refine uk 2 (.pointer (some ⟨(w2.heap.size + 1 + 1 + 1 + 1), 10, none⟩)) ?_ hS0 ?_
      ·intro w' hSw
       (try dsimp only at hSw)
       go_simp
      (try simp only [zA, zB, zC, Act.put, zD, zE, zF])
      refine uk 3 (.map (some (w2.heap.size + 1))) ?_ hS0 ?_
      ·intro w' hSw
       (try dsimp only at hSw)
       go_simp
      (try simp only [zA, zB, zC, Act.put, zD, zE, zF])
      refine uk 4 (.pointer (some ⟨wr.heap.size, 1, none⟩)) ?_ hS0 ?_
      ·intro w' hSw
       (try dsimp only at hSw)
       go_simp
      (try simp only [zA, zB, zC, Act.put, zD, zE, zF])
      refine uk 5 (.agg #[.int .i64 y.at_.e, .int .i64 y.at_.n]) ?_ hS0 ?_
      ·intro w' hSw
       (try dsimp only at hSw)
       go_simp
      (try simp only [zA, zB, zC, Act.put, zD, zE, zF])
      refine uk 6 (.int .i64 j) ?_ hS0 ?_
      ·intro w' hSw
       (try dsimp only at hSw)
       go_simp
      (try simp only [zA, zB, zC, Act.put, zD, zE, zF])
      obtain ⟨wd, r1, hmd, gd⟩ := hq
      have r1 : (Instr.mapUpdate 88 (.map (some (w2.heap.size + 1))) (.agg #[.int .i64 y.at_.e, .int .i64 y.at_.n]) (.int .i64 (j : Int))).run Tryz.prog W.drew = .ok () wd := r1
      refine upto_put (i := 7) (mv := .map (some (w2.heap.size + 1))) (key := .agg #[.int .i64 y.at_.e, .int .i64 y.at_.n]) (val := .int .i64 (j : Int)) (w1 := wd) (by kernel_rfl) rfl rfl (.tmp 69) (.tmp 71) (.tmp 72) 88 rfl rfl rfl rfl r1 (fun h => absurd h (by omega)) ?_
      (try simp only [zA, zB, zC, Act.put])
      refine upto_done (by kernel_rfl) (NoPanic.normal ?_) _
      have hs1 := HNW.out.lt
      have HNd := Lib.hid (HNW.out.grown (w' := wd) ⟨gd.os, gd.tape, gd.output, gd.size, gd.block⟩ (fun e => by have := Option.some.inj e; omega))
      have hbW : w2.heap.size ≤ W.drew.heap.size := HxW.out.size
      have Hxd := Lib.hid (HxW.out.drew.grown gd hbW (by intro k hk; cases hk; omega))
      have Hm1d := Lib.hid (HmW.out.drew.kept gd (by simp))
      have Hm2d := Lib.hid hmd
      have Hm3d := Lib.hid (HmW3.out.drew.kept gd (by simp))
      have Hm4d := Lib.hid (HmW4.out.drew.kept gd (by simp; omega))
      clear hmd gd n10 k1 k2 hS0 r1
      go_wp2_with fail
      go_roundg (gk - 1)
      case measure => have := Hk.out; omega
      case rel => exact ⟨j + 1, by have := Hk.out; omega, by go_num, HNd.out, Hxd.out, Hm1d.out, Hm2d.out, Hm3d.out, Hm4d.out⟩
     ·have hM2 := Lib.hid (show MapOf portCode natVal wr 43 (w2.heap.size + 1) 1000 (posP 0 (p.sigs.map (·.at_))) from (Hm2.out.mono (by have := Hk.out; omega)).congr (fun x => by rw [List.take_of_length_le (by have := ls.out; omega)]))
      have HBr := Lib.hid (HB2.out.below Hx.out)
      obtain ⟨_, c0, c1, c2, c3, c4, c5, c6, c7, c8⟩ := HBr.out
      dsimp only at c0 c1 c2 c3
      clear Hm2
      have ll := Lib.hid (show lv.length = nl from hP.out.l.row.len)
      go_wp2_with fail
      clear c0 c1 c2 c3 c4 c5 c6 c7 c8 HBr hlt Hk ls
      go_loopg [77] nl (fun k i w' => ∃ j n : Nat, j + k = nl ∧ i = .int .i64 j ∧ n ≤ 60 * j ∧ NetBlock w' (w2.heap.size + 4) ⟨be, me, fe, bj, mj, fj, bs, ms, fs, bl, ml, fl, lq⟩ p w2.heap.size (w2.heap.size + 1) (w2.heap.size + 1 + 1) (w2.heap.size + 1 + 1 + 1) ∧ Below w2.heap.size w2 w' ∧
       MapOf portCode Port.val w' 43 w2.heap.size 1000 (nextOf p) ∧ MapOf portCode natVal w' 43 (w2.heap.size + 1) 1000 (posP 0 (p.sigs.map (·.at_))) ∧
       MapOf intCode pairVal w' 3 (w2.heap.size + 1 + 1) n (lineFrom 0 (p.lines.take j)) ∧ MapOf intCode intVal w' 3 (w2.heap.size + 1 + 1 + 1) n (leadIn (nextOf p) (p.lines.take j)))
      case atStart => exact ⟨0, 0, by omega, rfl, by omega, HN.out, Hx.out, Hm1.out, hM2.out, Hm3.out.congr (fun x => by simp [lineFrom]), Hm4.out.congr (fun x => by simp [leadIn])⟩
      case round =>
       clear HN Hx Hm1 hM2 Hm3 Hm4
       obtain ⟨j, n, hk, rfl, hn60, hN, hx, hm1, hm2, hm3, hm4⟩ := hrel
       have Hk := Lib.hid hk; clear hk
       have HN := Lib.hid hN; clear hN
       have Hx := Lib.hid hx; clear hx
       have Hm1 := Lib.hid hm1
       have Hm2 := Lib.hid hm2
       have Hm3 := Lib.hid hm3
       have Hm4 := Lib.hid hm4
       clear hm1 hm2 hm3 hm4
       by_cases hlt : j < nl
       ·obtain ⟨⟨nm, ya, yn, yc, yel⟩, hy⟩ := get_some ll.out hlt
        obtain ⟨pb, off, rfl, hpb, g1, g2⟩ := hP.out.l.row.lineB (below_step Hb2.out Hx.out Hb2.out.size) hy
        have Hy := Lib.hid hy
        have Hints := Lib.hid (hP.out.l.ints _ (List.mem_of_getElem? hy))
        have hyn := hfi _ (List.mem_of_getElem? hy)
        dsimp only at hyn g1 g2
        clear hy
        have HyL := Lib.hid (show p.lines[j]? = some ⟨nm, yel⟩ by rw [hP.out.lp, List.getElem?_map, Hy.out]; rfl)
        have ly0 := Lib.hid (show yel.length = yn from Hints.out.len)
        by_cases hy1 : 1 < yn
        ·have hy2 : (1 : Int) < (yn : Int) := by omega
         have hy3 : (0 : Int) < (yn : Int) := by omega
         have hy4 : 0 < yn := by omega
         obtain ⟨y0, hy0⟩ := get_some ly0.out hy4
         obtain ⟨y1, hy1'⟩ := get_some ly0.out hy1
         obtain ⟨pa, offa, rfl, hpa, ge0⟩ := Hints.out.int hy0
         have ge1 := (Hints.out.int' hy1').2
         simp only [Nat.add_zero] at ge0
         have hp0 : Port.wf ⟨y0, 0⟩ := ⟨(hP.out.fit.l _ (List.mem_of_getElem? HyL.out)).1 y0 (List.mem_of_getElem? hy0), inI_mk (by show _ ≤ (0 : Int); omega) (by show (0 : Int) ≤ _; omega)⟩
         have Hy0 := Lib.hid hy0
         have Hy1 := Lib.hid hy1'
         clear hy0 hy1'
         cases hnx : nextOf p ⟨y0, 0⟩ with
         | none =>
          have HF := Lib.hid (first_none Hy0.out Hy1.out hnx)
          go_wp2_with fail
          refine name_code fun W hW => ?_
          have HxW := Lib.hid (show Below w2.heap.size w2 W by rw [hW]; exact Hx.out.alloc Hx.out.size _)
          have HNW := Lib.hid (show NetBlock W (w2.heap.size + 4) ⟨be, me, fe, bj, mj, fj, bs, ms, fs, bl, ml, fl, lq⟩ p w2.heap.size (w2.heap.size + 1) (w2.heap.size + 1 + 1) (w2.heap.size + 1 + 1 + 1) from by rw [hW]; exact HN.out.alloc _)
          have Hm1W := Lib.hid (show MapOf portCode Port.val W 43 w2.heap.size 1000 (nextOf p) from by rw [hW]; exact Hm1.out.alloc _)
          have Hm2W := Lib.hid (show MapOf portCode natVal W 43 (w2.heap.size + 1) 1000 (posP 0 (p.sigs.map (·.at_))) from by rw [hW]; exact Hm2.out.alloc _)
          have Hm3W := Lib.hid (show MapOf intCode pairVal W 3 (w2.heap.size + 1 + 1) n (lineFrom 0 (p.lines.take j)) from by rw [hW]; exact Hm3.out.alloc _)
          have Hm4W := Lib.hid (show MapOf intCode intVal W 3 (w2.heap.size + 1 + 1 + 1) n (leadIn (nextOf p) (p.lines.take j)) from by rw [hW]; exact Hm4.out.alloc _)
          have k1 : W.cell? ⟨wr.heap.size, 1, none⟩ = some (.slice (some ⟨pa, offa, none⟩) yn yc) := by rw [hW]; go_simp
          have hwW : wr.heap.size < W.heap.size := by rw [hW]; simp
          have hwrH := HN.out.lt
          have n9 := HNW.out.cell9
          have hbwW := below_step Hb2.out HxW.out Hb2.out.size
          have hpaW : pa < W.heap.size := by have := hbwW.size; omega
          have ge0 := (hbwW.cell (p := ⟨pa, offa, none⟩) hpa).trans ge0
          have ge1 := (hbwW.cell (p := ⟨pa, offa + 1, none⟩) hpa).trans ge1
          have R1 := Lib.hid (show ∀ w', Below W.heap.size W w' → (Instr.lookup 87 (.map (some w2.heap.size)) (.agg #[.int .i64 y0, .int .i64 0]) false).run Tryz.prog w' = .ok (.agg #[.int .i64 0, .int .i64 0]) w' ∧ (Instr.lookup 87 (.map (some w2.heap.size)) (.agg #[.int .i64 y0, .int .i64 0]) true).run Tryz.prog w' = .ok (.tuple #[.agg #[.int .i64 0, .int .i64 0], .bool false]) w' from Hm1W.out.miss hnx keyed_port Tryz.underlying87 zero_port (key_port hp0))
          clear hW hbwW hnx g1 g2
          have hSall : ∀ w' : World, Below (W).heap.size (W) w' → (w'.cell? ⟨w2.heap.size + 4, 9, none⟩ = some (.map (some w2.heap.size)) ∧ w'.cell? ⟨wr.heap.size, 1, none⟩ = some (.slice (some ⟨pa, offa, none⟩) yn yc) ∧ w'.cell? ⟨pa, offa, none⟩ = some (.int .i64 y0) ∧ w'.cell? ⟨pa, offa + 1, none⟩ = some (.int .i64 y1) ∧ (Instr.lookup 87 (.map (some w2.heap.size)) (.agg #[.int .i64 y0, .int .i64 0]) true).run Tryz.prog w' = .ok (.tuple #[.agg #[.int .i64 0, .int .i64 0], .bool false]) w') := fun w' hb => ⟨(hb.cell (p := ⟨w2.heap.size + 4, 9, none⟩) HNW.out.lt).trans n9, (hb.cell (p := ⟨wr.heap.size, 1, none⟩) hwW).trans k1, (hb.cell (p := ⟨pa, offa, none⟩) hpaW).trans ge0, (hb.cell (p := ⟨pa, offa + 1, none⟩) hpaW).trans ge1, (R1.out w' hb).2⟩
          refine wp_region_noPanic ?_
          refine region_upto (S := fun w' => w'.cell? ⟨w2.heap.size + 4, 9, none⟩ = some (.map (some w2.heap.size)) ∧ w'.cell? ⟨wr.heap.size, 1, none⟩ = some (.slice (some ⟨pa, offa, none⟩) yn yc) ∧ w'.cell? ⟨pa, offa, none⟩ = some (.int .i64 y0) ∧ w'.cell? ⟨pa, offa + 1, none⟩ = some (.int .i64 y1) ∧ (Instr.lookup 87 (.map (some w2.heap.size)) (.agg #[.int .i64 y0, .int .i64 0]) true).run Tryz.prog w' = .ok (.tuple #[.agg #[.int .i64 0, .int .i64 0], .bool false]) w') (n := 16) (by kernel_rfl) ?_
          refine uk 0 (.pointer (some ⟨(w2.heap.size + 1 + 1 + 1 + 1), 0, none⟩)) ?_ (hSall _ (by with_reducible repeat (first | exact Below.refl _ _ | assumption | exact below_new _ _ | apply below_drewN | apply Below.drew | refine below_set (Nat.le_refl _) ?_ _ | (refine below_set ?_ ?_ _; omega) | refine Below.alloc ?_ (by first | omega | (simp; omega) | simp) _))) ?_
          ·intro w' hSw
           (try dsimp only at hSw)
           go_simp
          (try simp only [zA, zC, Act.put, zD, zE, zF])
          refine uk 1 (.pointer (some ⟨(w2.heap.size + 1 + 1 + 1 + 1), 0, none⟩)) ?_ (hSall _ (by with_reducible repeat (first | exact Below.refl _ _ | assumption | exact below_new _ _ | apply below_drewN | apply Below.drew | refine below_set (Nat.le_refl _) ?_ _ | (refine below_set ?_ ?_ _; omega) | refine Below.alloc ?_ (by first | omega | (simp; omega) | simp) _))) ?_
          ·intro w' hSw
           (try dsimp only at hSw)
           go_simp
          (try simp only [zA, zB, zC, Act.put, zD, zE, zF])
          refine uk 2 (.pointer (some ⟨(w2.heap.size + 1 + 1 + 1 + 1), 9, none⟩)) ?_ (hSall _ (by with_reducible repeat (first | exact Below.refl _ _ | assumption | exact below_new _ _ | apply below_drewN | apply Below.drew | refine below_set (Nat.le_refl _) ?_ _ | (refine below_set ?_ ?_ _; omega) | refine Below.alloc ?_ (by first | omega | (simp; omega) | simp) _))) ?_
          ·intro w' hSw
           (try dsimp only at hSw)
           go_simp
          (try simp only [zA, zB, zC, Act.put, zD, zE, zF])
          refine uk 3 (.map (some w2.heap.size)) ?_ (hSall _ (by with_reducible repeat (first | exact Below.refl _ _ | assumption | exact below_new _ _ | apply below_drewN | apply Below.drew | refine below_set (Nat.le_refl _) ?_ _ | (refine below_set ?_ ?_ _; omega) | refine Below.alloc ?_ (by first | omega | (simp; omega) | simp) _))) ?_
          ·intro w' hSw
           (try dsimp only at hSw)
           go_simp
          (try simp only [zA, zB, zC, Act.put, zD, zE, zF])
          refine uk 4 (.pointer (some ⟨wr.heap.size, 1, none⟩)) ?_ (hSall _ (by with_reducible repeat (first | exact Below.refl _ _ | assumption | exact below_new _ _ | apply below_drewN | apply Below.drew | refine below_set (Nat.le_refl _) ?_ _ | (refine below_set ?_ ?_ _; omega) | refine Below.alloc ?_ (by first | omega | (simp; omega) | simp) _))) ?_
          ·intro w' hSw
           (try dsimp only at hSw)
           go_simp
          (try simp only [zA, zB, zC, Act.put, zD, zE, zF])
          refine uk 5 (.slice (some ⟨pa, offa, none⟩) yn yc) ?_ (hSall _ (by with_reducible repeat (first | exact Below.refl _ _ | assumption | exact below_new _ _ | apply below_drewN | apply Below.drew | refine below_set (Nat.le_refl _) ?_ _ | (refine below_set ?_ ?_ _; omega) | refine Below.alloc ?_ (by first | omega | (simp; omega) | simp) _))) ?_
          ·intro w' hSw
           (try dsimp only at hSw)
           go_simp
          (try simp only [zA, zB, zC, Act.put, zD, zE, zF])
          refine uk 6 (.pointer (some ⟨pa, offa, none⟩)) ?_ (hSall _ (by with_reducible repeat (first | exact Below.refl _ _ | assumption | exact below_new _ _ | apply below_drewN | apply Below.drew | refine below_set (Nat.le_refl _) ?_ _ | (refine below_set ?_ ?_ _; omega) | refine Below.alloc ?_ (by first | omega | (simp; omega) | simp) _))) ?_
          ·intro w' hSw
           (try dsimp only at hSw)
           go_simp
          (try simp only [zA, zB, zC, Act.put, zD, zE, zF])
          refine uk 7 (.int .i64 y0) ?_ (hSall _ (by with_reducible repeat (first | exact Below.refl _ _ | assumption | exact below_new _ _ | apply below_drewN | apply Below.drew | refine below_set (Nat.le_refl _) ?_ _ | (refine below_set ?_ ?_ _; omega) | refine Below.alloc ?_ (by first | omega | (simp; omega) | simp) _))) ?_
          ·intro w' hSw
           (try dsimp only at hSw)
           go_simp
          (try simp only [zA, zB, zC, Act.put, zD, zE, zF])
          refine uk 8 (.agg #[.int .i64 y0, .int .i64 0]) ?_ (hSall _ (by with_reducible repeat (first | exact Below.refl _ _ | assumption | exact below_new _ _ | apply below_drewN | apply Below.drew | refine below_set (Nat.le_refl _) ?_ _ | (refine below_set ?_ ?_ _; omega) | refine Below.alloc ?_ (by first | omega | (simp; omega) | simp) _))) ?_
          ·intro w' hSw
           (try dsimp only at hSw)
           go_simp
          (try simp only [zA, zB, zC, Act.put, zD, zE, zF])
          refine uk 9 (.tuple #[.agg #[.int .i64 0, .int .i64 0], .bool false]) ?_ (hSall _ (by with_reducible repeat (first | exact Below.refl _ _ | assumption | exact below_new _ _ | apply below_drewN | apply Below.drew | refine below_set (Nat.le_refl _) ?_ _ | (refine below_set ?_ ?_ _; omega) | refine Below.alloc ?_ (by first | omega | (simp; omega) | simp) _))) ?_
          ·intro w' hSw
           (try dsimp only at hSw)
           go_simp
          (try simp only [zA, zB, zC, Act.put, zD, zE, zF])
          refine uk 10 (.tuple #[.agg #[.int .i64 0, .int .i64 0], .bool false]) ?_ (hSall _ (by with_reducible repeat (first | exact Below.refl _ _ | assumption | exact below_new _ _ | apply below_drewN | apply Below.drew | refine below_set (Nat.le_refl _) ?_ _ | (refine below_set ?_ ?_ _; omega) | refine Below.alloc ?_ (by first | omega | (simp; omega) | simp) _))) ?_
          ·intro w' hSw
           (try dsimp only at hSw)
           go_simp
          (try simp only [zA, zB, zC, Act.put, zD, zE, zF])
          refine uk 11 (.agg #[.int .i64 0, .int .i64 0]) ?_ (hSall _ (by with_reducible repeat (first | exact Below.refl _ _ | assumption | exact below_new _ _ | apply below_drewN | apply Below.drew | refine below_set (Nat.le_refl _) ?_ _ | (refine below_set ?_ ?_ _; omega) | refine Below.alloc ?_ (by first | omega | (simp; omega) | simp) _))) ?_
          ·intro w' hSw
           (try dsimp only at hSw)
           go_simp
          (try simp only [zA, zB, zC, Act.put, zD, zE, zF])
          refine uk 12 (.bool false) ?_ (hSall _ (by with_reducible repeat (first | exact Below.refl _ _ | assumption | exact below_new _ _ | apply below_drewN | apply Below.drew | refine below_set (Nat.le_refl _) ?_ _ | (refine below_set ?_ ?_ _; omega) | refine Below.alloc ?_ (by first | omega | (simp; omega) | simp) _))) ?_
          ·intro w' hSw
           (try dsimp only at hSw)
           go_simp
          (try simp only [zA, zB, zC, Act.put, zD, zE, zF])
          refine upto_step (i := 13) (by kernel_rfl) rfl (fun K hK => ?_)
          go_simp
          refine hK _ _ (fun _ => (hSall _ (by with_reducible repeat (first | exact Below.refl _ _ | assumption | exact below_new _ _ | apply below_drewN | apply Below.drew | refine below_set (Nat.le_refl _) ?_ _ | (refine below_set ?_ ?_ _; omega) | refine Below.alloc ?_ (by first | omega | (simp; omega) | simp) _)))) ?_
          clear hK K
          (try simp only [zA, zB, zC, Act.put, zD, zE, zF])
          refine upto_step (i := 14) (by kernel_rfl) rfl (fun K hK => ?_)
          go_simp
          refine hK _ _ (fun _ => (hSall _ (by with_reducible repeat (first | exact Below.refl _ _ | assumption | exact below_new _ _ | apply below_drewN | apply Below.drew | refine below_set (Nat.le_refl _) ?_ _ | (refine below_set ?_ ?_ _; omega) | refine Below.alloc ?_ (by first | omega | (simp; omega) | simp) _)))) ?_
          clear hK K
          (try simp only [zA, zB, zC, Act.put, zD, zE, zF])
          refine upto_step (i := 15) (by kernel_rfl) rfl (fun K hK => ?_)
          go_simp
          refine hK _ _ (fun _ => (hSall _ (by with_reducible repeat (first | exact Below.refl _ _ | assumption | exact below_new _ _ | apply below_drewN | apply Below.drew | refine below_set (Nat.le_refl _) ?_ _ | (refine below_set ?_ ?_ _; omega) | refine Below.alloc ?_ (by first | omega | (simp; omega) | simp) _)))) ?_
          clear hK K
          (try simp only [zA, zB, zC, Act.put, zD, zE, zF])
          refine upto_done (by kernel_rfl) (NoPanic.normal ?_) _
          clear hSall
          refine name_world fun V hV => ?_
          have hbV : Below W.heap.size W V := by rw [hV]; exact (by with_reducible repeat (first | exact Below.refl _ _ | assumption | exact below_new _ _ | apply below_drewN | apply Below.drew | refine below_set (Nat.le_refl _) ?_ _ | (refine below_set ?_ ?_ _; omega) | refine Below.alloc ?_ (by first | omega | (simp; omega) | simp) _))
          have HxV := Lib.hid (show Below w2.heap.size w2 V from HxW.out.trans (hbV.mono HxW.out.size))
          have HNV := Lib.hid (show NetBlock V (w2.heap.size + 4) ⟨be, me, fe, bj, mj, fj, bs, ms, fs, bl, ml, fl, lq⟩ p w2.heap.size (w2.heap.size + 1) (w2.heap.size + 1 + 1) (w2.heap.size + 1 + 1 + 1) from HNW.out.same (hbV.block _ HNW.out.lt))
          have Hm1V := Lib.hid (show MapOf portCode Port.val V 43 w2.heap.size 1000 (nextOf p) from Hm1W.out.of_block (hbV.block _ Hm1W.out.lt))
          have Hm2V := Lib.hid (show MapOf portCode natVal V 43 (w2.heap.size + 1) 1000 (posP 0 (p.sigs.map (·.at_))) from Hm2W.out.of_block (hbV.block _ Hm2W.out.lt))
          have Hm3V := Lib.hid (show MapOf intCode pairVal V 3 (w2.heap.size + 1 + 1) n (lineFrom 0 (p.lines.take j)) from Hm3W.out.of_block (hbV.block _ Hm3W.out.lt))
          have Hm4V := Lib.hid (show MapOf intCode intVal V 3 (w2.heap.size + 1 + 1 + 1) n (leadIn (nextOf p) (p.lines.take j)) from Hm4W.out.of_block (hbV.block _ Hm4W.out.lt))
          have k1V : V.cell? ⟨wr.heap.size, 1, none⟩ = some (.slice (some ⟨pa, offa, none⟩) yn yc) := (hbV.cell (p := ⟨wr.heap.size, 1, none⟩) hwW).trans k1
          have ge1V := (hbV.cell (p := ⟨pa, offa + 1, none⟩) hpaW).trans ge1
          clear hV hbV k1 ge1 HxW HNW Hm1W Hm2W Hm3W Hm4W n9 hpaW
          go_wp2_with fail
          go_quiet (fail)
          first | refine name_code fun U hU => ?_ | refine name_world fun U hU => ?_
          have hbU : Below V.heap.size V U := by rw [hU]; exact (by with_reducible repeat (first | exact Below.refl _ _ | assumption | exact below_new _ _ | apply below_drewN | apply Below.drew | refine below_set (Nat.le_refl _) ?_ _ | (refine below_set ?_ ?_ _; omega) | refine Below.alloc ?_ (by first | omega | (simp; omega) | simp) _))
          have HxU := Lib.hid (show Below w2.heap.size w2 U from HxV.out.trans (hbU.mono HxV.out.size))
          have HNU := Lib.hid (show NetBlock U (w2.heap.size + 4) ⟨be, me, fe, bj, mj, fj, bs, ms, fs, bl, ml, fl, lq⟩ p w2.heap.size (w2.heap.size + 1) (w2.heap.size + 1 + 1) (w2.heap.size + 1 + 1 + 1) from HNV.out.same (hbU.block _ HNV.out.lt))
          have Hm1U := Lib.hid (show MapOf portCode Port.val U 43 w2.heap.size 1000 (nextOf p) from Hm1V.out.of_block (hbU.block _ Hm1V.out.lt))
          have Hm2U := Lib.hid (show MapOf portCode natVal U 43 (w2.heap.size + 1) 1000 (posP 0 (p.sigs.map (·.at_))) from Hm2V.out.of_block (hbU.block _ Hm2V.out.lt))
          have Hm3U := Lib.hid (show MapOf intCode pairVal U 3 (w2.heap.size + 1 + 1) n (lineFrom 0 (p.lines.take j)) from Hm3V.out.of_block (hbU.block _ Hm3V.out.lt))
          have Hm4U := Lib.hid (show MapOf intCode intVal U 3 (w2.heap.size + 1 + 1 + 1) n (leadIn (nextOf p) (p.lines.take j)) from Hm4V.out.of_block (hbU.block _ Hm4V.out.lt))
          have hwV : wr.heap.size < V.heap.size := block_lt_of_cell k1V
          have k1U : U.cell? ⟨wr.heap.size, 1, none⟩ = some (.slice (some ⟨pa, offa, none⟩) yn yc) := (hbU.cell (p := ⟨wr.heap.size, 1, none⟩) hwV).trans k1V
          clear hU hbU k1V ge1V hwV HxV HNV Hm1V Hm2V Hm3V Hm4V R1
          go_wp2_with fail
          go_loopg [112, 12] yn (fun k i inn w' => ∃ (q m : Nat) (u : Int), q + k = yn ∧ i = .int .i64 q ∧ inn = .int .i64 u ∧ 0 ≤ u ∧ u ≤ 4 ∧ m ≤ 60 * j + q ∧ Hid ((leadList (nextOf p) yel).drop q = leadGo (nextOf p) u (yel.drop q)) ∧ NetBlock w' (w2.heap.size + 4) ⟨be, me, fe, bj, mj, fj, bs, ms, fs, bl, ml, fl, lq⟩ p w2.heap.size (w2.heap.size + 1) (w2.heap.size + 1 + 1) (w2.heap.size + 1 + 1 + 1) ∧ Below w2.heap.size w2 w' ∧
           MapOf portCode Port.val w' 43 w2.heap.size 1000 (nextOf p) ∧ MapOf portCode natVal w' 43 (w2.heap.size + 1) 1000 (posP 0 (p.sigs.map (·.at_))) ∧
           MapOf intCode pairVal w' 3 (w2.heap.size + 1 + 1) m (lineAt (p.lines.take j) yel q) ∧ MapOf intCode intVal w' 3 (w2.heap.size + 1 + 1 + 1) m (leadAt (nextOf p) (p.lines.take j) yel q))
          case atStart => exact ⟨0, n, 0, by omega, rfl, rfl, by omega, by omega, by omega, Lib.hid (by show leadGo _ (firstIn (nextOf p) yel) yel = _; rw [HF.out]; rfl), HNU.out, HxU.out, Hm1U.out, Hm2U.out, Hm3U.out.congr (fun z => lineAt_zero _ _ z), Hm4U.out.congr (fun z => leadAt_zero _ _ _ z)⟩
          case round =>
           clear HNU HxU Hm1U Hm2U Hm3U Hm4U HF
           obtain ⟨q, m, u, hk2, rfl, rfl, hu0, hu4, hm60, hld, hN, hx, hm1, hm2, hm3, hm4⟩ := hrel
           have Hk2 := Lib.hid hk2; clear hk2
           have HN := Lib.hid hN; clear hN
           have Hx := Lib.hid hx; clear hx
           have HmN := Lib.hid hm1
           have HmR := Lib.hid hm2
           have HmL := Lib.hid hm3
           have HmD := Lib.hid hm4
           clear hm1 hm2 hm3 hm4
           have ly := Lib.hid (show yel.length = yn from Hints.out.len)
           by_cases hlt2 : q < yn
           ·obtain ⟨e, he⟩ := get_some ly.out hlt2
            obtain ⟨hpa2, ge⟩ := Hints.out.int' he
            have ge := ((below_step Hb2.out Hx.out Hb2.out.size).cell (p := ⟨pa, offa + q, none⟩) hpa).trans ge
            have hel : inI e := (hP.out.fit.l _ (List.mem_of_getElem? HyL.out)).1 e (List.mem_of_getElem? he)
            have hfr := line_fresh G.out HyL.out he
            have hls := lead_step hld.out he
            have Hls := Lib.hid hls
            have He := Lib.hid he
            have hdl : (p.lines.take j).length = j := by have := (List.getElem?_eq_some_iff.1 HyL.out).1; simp; omega
            have hlk := Lib.hid (show lineAt (p.lines.take j) yel (q + 1) e = some (j, q) by rw [lineAt_key he hfr.1 hfr.2, hdl])
            have hdk := Lib.hid (show leadAt (nextOf p) (p.lines.take j) yel (q + 1) e = some u by rw [leadAt_key he hfr.1 hfr.2]; exact hls.1)
            have hml : m < maxLen := by simp only [maxLen]; have hjl := (List.getElem?_eq_some_iff.1 HyL.out).1; omega
            clear he hfr hls hld hdl
            have hub := endOf_bound G.out ⟨e, 1 - u⟩
            have Hub := Lib.hid hub
            have hport : Port.wf ⟨e, 1 - u⟩ := ⟨hel, inI_mk (by show _ ≤ 1 - u; omega) (by show 1 - u ≤ _; omega)⟩
            clear hub
            have n9 := HN.out.cell9
            have n11 := HN.out.cell11
            have n12 := HN.out.cell12
            have hs1 := HN.out.lt
            cases hnx : nextOf p ⟨e, 1 - u⟩ with
            | none =>
             have Hnx := Lib.hid hnx
             have hE := Lib.hid (show endOf (nextOf p) ⟨e, 1 - u⟩ = 0 by unfold endOf; rw [hnx]; rfl)
             clear hnx
             go_wp2_with fail
             refine wp_region_noPanic ?_
             refine region_upto (S := fun w' => w'.cell? ⟨w2.heap.size + 4, 11, none⟩ = some (.map (some (w2.heap.size + 1 + 1))) ∧ w'.cell? ⟨w2.heap.size + 4, 12, none⟩ = some (.map (some (w2.heap.size + 1 + 1 + 1)))) (n := 20) (by kernel_rfl) ?_
             have hS0 : wr.drew.cell? ⟨w2.heap.size + 4, 11, none⟩ = some (.map (some (w2.heap.size + 1 + 1))) ∧ wr.drew.cell? ⟨w2.heap.size + 4, 12, none⟩ = some (.map (some (w2.heap.size + 1 + 1 + 1))) := ⟨n11, n12⟩
             refine uk 0 (.pointer (some ⟨(w2.heap.size + 1 + 1 + 1 + 1), 0, none⟩)) ?_ hS0 ?_
             ·intro w' hSw
              (try dsimp only at hSw)
              go_simp
             (try simp only [zA, zC, Act.put, zD, zE, zF])
             refine uk 1 (.pointer (some ⟨(w2.heap.size + 1 + 1 + 1 + 1), 0, none⟩)) ?_ hS0 ?_
             ·intro w' hSw
              (try dsimp only at hSw)
              go_simp
             (try simp only [zA, zB, zC, Act.put, zD, zE, zF])
             refine uk 2 (.pointer (some ⟨(w2.heap.size + 1 + 1 + 1 + 1), 11, none⟩)) ?_ hS0 ?_
             ·intro w' hSw
              (try dsimp only at hSw)
              go_simp
             (try simp only [zA, zB, zC, Act.put, zD, zE, zF])
             refine uk 3 (.map (some (w2.heap.size + 1 + 1))) ?_ hS0 ?_
             ·intro w' hSw
              (try dsimp only at hSw)
              go_simp
             (try simp only [zA, zB, zC, Act.put, zD, zE, zF])
             refine uk 4 (.int .i64 e) ?_ hS0 ?_
             ·intro w' hSw
              (try dsimp only at hSw)
              go_simp
             (try simp only [zA, zB, zC, Act.put, zD, zE, zF])
             refine uk 5 (.pointer (some ⟨(w2.heap.size + 1 + 1 + 1 + 1), 0, none⟩)) ?_ hS0 ?_
             ·intro w' hSw
              (try dsimp only at hSw)
              go_simp
             (try simp only [zA, zB, zC, Act.put, zD, zE, zF])
             refine uk 6 (.pointer (some ⟨(w2.heap.size + 1 + 1 + 1 + 1), 0, none⟩)) ?_ hS0 ?_
             ·intro w' hSw
              (try dsimp only at hSw)
              go_simp
             (try simp only [zA, zB, zC, Act.put, zD, zE, zF])
             refine uk 7 (.pointer (some ⟨(w2.heap.size + 1 + 1 + 1 + 1), 12, none⟩)) ?_ hS0 ?_
             ·intro w' hSw
              (try dsimp only at hSw)
              go_simp
             (try simp only [zA, zB, zC, Act.put, zD, zE, zF])
             refine uk 8 (.map (some (w2.heap.size + 1 + 1 + 1))) ?_ hS0 ?_
             ·intro w' hSw
              (try dsimp only at hSw)
              go_simp
             (try simp only [zA, zB, zC, Act.put, zD, zE, zF])
             refine uk 9 (.int .i64 e) ?_ hS0 ?_
             ·intro w' hSw
              (try dsimp only at hSw)
              go_simp
             (try simp only [zA, zB, zC, Act.put, zD, zE, zF])
             refine uk 10 (.int .i64 (j : Int)) ?_ hS0 ?_
             ·intro w' hSw
              (try dsimp only at hSw)
              go_simp
             (try simp only [zA, zB, zC, Act.put, zD, zE, zF])
             refine uk 11 (.int .i64 (q : Int)) ?_ hS0 ?_
             ·intro w' hSw
              (try dsimp only at hSw)
              go_simp
             (try simp only [zA, zB, zC, Act.put, zD, zE, zF])
             refine uk 12 (.agg #[.int .i64 (j : Int), .int .i64 (q : Int)]) ?_ hS0 ?_
             ·intro w' hSw
              (try dsimp only at hSw)
              go_simp
             (try simp only [zA, zB, zC, Act.put, zD, zE, zF])
             refine uk 13 (.int .i64 u) ?_ hS0 ?_
             ·intro w' hSw
              (try dsimp only at hSw)
              go_simp
             (try simp only [zA, zB, zC, Act.put, zD, zE, zF])
             have hq := HmL.out.drew.entry (lineAt (p.lines.take j) yel (q + 1)) (x := e) (y := (j, q)) hlk.out (fun z hz => lineAt_other He.out hz) hml keyed_int Tryz.underlying89 zero_pair (key_int hel)
             obtain ⟨vwb, hq⟩ := hq
             obtain ⟨stwb, hq⟩ := hq
             obtain ⟨wa, hq⟩ := hq
             obtain ⟨wb, hq⟩ := hq
             obtain ⟨r1, hq⟩ := hq
             obtain ⟨g1wb, hq⟩ := hq
             obtain ⟨r2, hq⟩ := hq
             obtain ⟨g2wb, hmwb⟩ := hq
             have r1 : (Instr.mapEntry 89 (.map (some (w2.heap.size + 1 + 1))) (.int .i64 e)).run Tryz.prog wr.drew = .ok (.tuple #[vwb, goInt stwb]) wa := r1
             have r2 : (Instr.entryStore 89 (.map (some (w2.heap.size + 1 + 1))) (goInt stwb) (.agg #[.int .i64 (j : Int), .int .i64 (q : Int)])).run Tryz.prog wa = .ok () wb := r2
             have hS1 := keep2 hS0 g1wb (by omega)
             refine upto_entry (i := 14) (mv := .map (some (w2.heap.size + 1 + 1))) (key := .int .i64 e) (r := .tuple #[vwb, goInt stwb]) (w1 := wa) ?zz1 rfl ?zz3 (.tmp 120) (.tmp 121) 89 ?zz4 ?zz5 ?zz6 ?zz7 (fun _ => hS1) ?_
             case zz1 => kernel_rfl
             case zz3 => exact rfl
             case zz4 => exact rfl
             case zz5 => exact rfl
             case zz6 => exact rfl
             case zz7 => exact r1
             (try simp only [zA, zB, zC, Act.put, zD, zE, zF])
             refine uk 15 (goInt stwb) ?_ hS1 ?_
             ·intro w' hSw
              (try dsimp only at hSw)
              go_simp
             (try simp only [zA, zB, zC, Act.put, zD, zE, zF])
             have hSwb := keep2 hS0 g2wb (by omega)
             refine upto_estore (i := 16) (mv := .map (some (w2.heap.size + 1 + 1))) (st := goInt stwb) (val := .agg #[.int .i64 (j : Int), .int .i64 (q : Int)]) (w1 := wb) (by kernel_rfl) rfl rfl (.tmp 120) (.tmp 132) (.tmp 129) 89 rfl rfl rfl rfl r2 (fun _ => hSwb) ?_
             clear r1 r2 hS1
             (try simp only [zA, zB, zC, Act.put])
             have hq := (HmD.out.drew.kept g2wb (by simp <;> omega)).entry (leadAt (nextOf p) (p.lines.take j) yel (q + 1)) (x := e) (y := u) hdk.out (fun z hz => leadAt_other He.out hz) hml keyed_int Tryz.underlying90 zero_int' (key_int hel)
             obtain ⟨vwd, hq⟩ := hq
             obtain ⟨stwd, hq⟩ := hq
             obtain ⟨wc, hq⟩ := hq
             obtain ⟨wd, hq⟩ := hq
             obtain ⟨r1, hq⟩ := hq
             obtain ⟨g1wd, hq⟩ := hq
             obtain ⟨r2, hq⟩ := hq
             obtain ⟨g2wd, hmwd⟩ := hq
             have r1 : (Instr.mapEntry 90 (.map (some (w2.heap.size + 1 + 1 + 1))) (.int .i64 e)).run Tryz.prog wb = .ok (.tuple #[vwd, goInt stwd]) wc := r1
             have r2 : (Instr.entryStore 90 (.map (some (w2.heap.size + 1 + 1 + 1))) (goInt stwd) (.int .i64 u)).run Tryz.prog wc = .ok () wd := r2
             have hS1 := keep2 hSwb g1wd (by omega)
             refine upto_entry (i := 17) (mv := .map (some (w2.heap.size + 1 + 1 + 1))) (key := .int .i64 e) (r := .tuple #[vwd, goInt stwd]) (w1 := wc) ?zz1 rfl ?zz3 (.tmp 125) (.tmp 126) 90 ?zz4 ?zz5 ?zz6 ?zz7 (fun _ => hS1) ?_
             case zz1 => kernel_rfl
             case zz3 => exact rfl
             case zz4 => exact rfl
             case zz5 => exact rfl
             case zz6 => exact rfl
             case zz7 => exact r1
             (try simp only [zA, zB, zC, Act.put, zD, zE, zF])
             refine uk 18 (goInt stwd) ?_ hS1 ?_
             ·intro w' hSw
              (try dsimp only at hSw)
              go_simp
             (try simp only [zA, zB, zC, Act.put, zD, zE, zF])
             have hSwd := keep2 hSwb g2wd (by omega)
             refine upto_estore (i := 19) (mv := .map (some (w2.heap.size + 1 + 1 + 1))) (st := goInt stwd) (val := .int .i64 u) (w1 := wd) (by kernel_rfl) rfl rfl (.tmp 125) (.tmp 134) (.tmp 130) 90 rfl rfl rfl rfl r2 (fun _ => hSwd) ?_
             clear r1 r2 hS1
             (try simp only [zA, zB, zC, Act.put])
             refine upto_done (by kernel_rfl) (NoPanic.normal ?_) _
             have R2 := ((HmN.out.drew.kept g2wb (by simp <;> omega)).kept g2wd (by simp <;> omega)).look_miss Hnx.out keyed_port Tryz.underlying87 zero_port (key_port hport)
             have R2 : (Instr.lookup 87 (.map (some w2.heap.size)) (.agg #[.int .i64 e, .int .i64 (1 - u)]) false).run Tryz.prog wd = .ok (.agg #[.int .i64 0, .int .i64 0]) wd := R2.1
             have HNd := Lib.hid ((HN.out.grown (w' := wb) ⟨g2wb.os, g2wb.tape, g2wb.output, g2wb.size, g2wb.block⟩ (fun e => by have := Option.some.inj e; omega)).grown g2wd (fun e => by have := Option.some.inj e; omega))
             have hbW : w2.heap.size ≤ wr.drew.heap.size := Hx.out.size
             have Hxb := (Hx.out.drew.grown g2wb hbW (by intro k hk; cases hk; omega))
             have Hxd := Lib.hid (Hxb.grown g2wd Hxb.size (by intro k hk; cases hk; omega))
             have HmNd := Lib.hid ((HmN.out.drew.kept g2wb (by simp <;> omega)).kept g2wd (by simp <;> omega))
             have HmRd := Lib.hid ((HmR.out.drew.kept g2wb (by simp <;> omega)).kept g2wd (by simp <;> omega))
             have HmLd := Lib.hid (hmwb.kept g2wd (by simp <;> omega))
             have HmDd := Lib.hid hmwd
             have n9d := HNd.out.cell9
             have hfd := run_fend
             clear hmwb hmwd hSwb hSwd g1wb g1wd g2wb g2wd Hxb n9 n11 n12 hS0
             go_wp2_with fail
             go_roundg (gk - 1)
             case measure => have := Hk2.out; omega
             case rel => exact ⟨q + 1, m + 1, 0, by have := Hk2.out; omega, by go_num, rfl, by have h7 := Hub.out; rw [hE.out] at h7; exact h7.1, by have h7 := Hub.out; rw [hE.out] at h7; exact h7.2, by omega, Lib.hid (by have h7 := Hls.out.2; rw [hE.out] at h7; exact h7), HNd.out, Hxd.out, HmNd.out, HmRd.out, HmLd.out, HmDd.out⟩
            | some x =>
             have Hnx := Lib.hid hnx
             have hE := Lib.hid (show endOf (nextOf p) ⟨e, 1 - u⟩ = x.n by unfold endOf; rw [hnx]; rfl)
             clear hnx
             go_wp2_with fail
             refine wp_region_noPanic ?_
             refine region_upto (S := fun w' => w'.cell? ⟨w2.heap.size + 4, 11, none⟩ = some (.map (some (w2.heap.size + 1 + 1))) ∧ w'.cell? ⟨w2.heap.size + 4, 12, none⟩ = some (.map (some (w2.heap.size + 1 + 1 + 1)))) (n := 20) (by kernel_rfl) ?_
             have hS0 : wr.drew.cell? ⟨w2.heap.size + 4, 11, none⟩ = some (.map (some (w2.heap.size + 1 + 1))) ∧ wr.drew.cell? ⟨w2.heap.size + 4, 12, none⟩ = some (.map (some (w2.heap.size + 1 + 1 + 1))) := ⟨n11, n12⟩
             refine uk 0 (.pointer (some ⟨(w2.heap.size + 1 + 1 + 1 + 1), 0, none⟩)) ?_ hS0 ?_
             ·intro w' hSw
              (try dsimp only at hSw)
              go_simp
             (try simp only [zA, zC, Act.put, zD, zE, zF])
             refine uk 1 (.pointer (some ⟨(w2.heap.size + 1 + 1 + 1 + 1), 0, none⟩)) ?_ hS0 ?_
             ·intro w' hSw
              (try dsimp only at hSw)
              go_simp
             (try simp only [zA, zB, zC, Act.put, zD, zE, zF])
             refine uk 2 (.pointer (some ⟨(w2.heap.size + 1 + 1 + 1 + 1), 11, none⟩)) ?_ hS0 ?_
             ·intro w' hSw
              (try dsimp only at hSw)
              go_simp
             (try simp only [zA, zB, zC, Act.put, zD, zE, zF])
             refine uk 3 (.map (some (w2.heap.size + 1 + 1))) ?_ hS0 ?_
             ·intro w' hSw
              (try dsimp only at hSw)
              go_simp
             (try simp only [zA, zB, zC, Act.put, zD, zE, zF])
             refine uk 4 (.int .i64 e) ?_ hS0 ?_
             ·intro w' hSw
              (try dsimp only at hSw)
              go_simp
             (try simp only [zA, zB, zC, Act.put, zD, zE, zF])
             refine uk 5 (.pointer (some ⟨(w2.heap.size + 1 + 1 + 1 + 1), 0, none⟩)) ?_ hS0 ?_
             ·intro w' hSw
              (try dsimp only at hSw)
              go_simp
             (try simp only [zA, zB, zC, Act.put, zD, zE, zF])
             refine uk 6 (.pointer (some ⟨(w2.heap.size + 1 + 1 + 1 + 1), 0, none⟩)) ?_ hS0 ?_
             ·intro w' hSw
              (try dsimp only at hSw)
              go_simp
             (try simp only [zA, zB, zC, Act.put, zD, zE, zF])
             refine uk 7 (.pointer (some ⟨(w2.heap.size + 1 + 1 + 1 + 1), 12, none⟩)) ?_ hS0 ?_
             ·intro w' hSw
              (try dsimp only at hSw)
              go_simp
             (try simp only [zA, zB, zC, Act.put, zD, zE, zF])
             refine uk 8 (.map (some (w2.heap.size + 1 + 1 + 1))) ?_ hS0 ?_
             ·intro w' hSw
              (try dsimp only at hSw)
              go_simp
             (try simp only [zA, zB, zC, Act.put, zD, zE, zF])
             refine uk 9 (.int .i64 e) ?_ hS0 ?_
             ·intro w' hSw
              (try dsimp only at hSw)
              go_simp
             (try simp only [zA, zB, zC, Act.put, zD, zE, zF])
             refine uk 10 (.int .i64 (j : Int)) ?_ hS0 ?_
             ·intro w' hSw
              (try dsimp only at hSw)
              go_simp
             (try simp only [zA, zB, zC, Act.put, zD, zE, zF])
             refine uk 11 (.int .i64 (q : Int)) ?_ hS0 ?_
             ·intro w' hSw
              (try dsimp only at hSw)
              go_simp
             (try simp only [zA, zB, zC, Act.put, zD, zE, zF])
             refine uk 12 (.agg #[.int .i64 (j : Int), .int .i64 (q : Int)]) ?_ hS0 ?_
             ·intro w' hSw
              (try dsimp only at hSw)
              go_simp
             (try simp only [zA, zB, zC, Act.put, zD, zE, zF])
             refine uk 13 (.int .i64 u) ?_ hS0 ?_
             ·intro w' hSw
              (try dsimp only at hSw)
              go_simp
             (try simp only [zA, zB, zC, Act.put, zD, zE, zF])
             have hq := HmL.out.drew.entry (lineAt (p.lines.take j) yel (q + 1)) (x := e) (y := (j, q)) hlk.out (fun z hz => lineAt_other He.out hz) hml keyed_int Tryz.underlying89 zero_pair (key_int hel)
             obtain ⟨vwb, hq⟩ := hq
             obtain ⟨stwb, hq⟩ := hq
             obtain ⟨wa, hq⟩ := hq
             obtain ⟨wb, hq⟩ := hq
             obtain ⟨r1, hq⟩ := hq
             obtain ⟨g1wb, hq⟩ := hq
             obtain ⟨r2, hq⟩ := hq
             obtain ⟨g2wb, hmwb⟩ := hq
             have r1 : (Instr.mapEntry 89 (.map (some (w2.heap.size + 1 + 1))) (.int .i64 e)).run Tryz.prog wr.drew = .ok (.tuple #[vwb, goInt stwb]) wa := r1
             have r2 : (Instr.entryStore 89 (.map (some (w2.heap.size + 1 + 1))) (goInt stwb) (.agg #[.int .i64 (j : Int), .int .i64 (q : Int)])).run Tryz.prog wa = .ok () wb := r2
             have hS1 := keep2 hS0 g1wb (by omega)
             refine upto_entry (i := 14) (mv := .map (some (w2.heap.size + 1 + 1))) (key := .int .i64 e) (r := .tuple #[vwb, goInt stwb]) (w1 := wa) ?zz1 rfl ?zz3 (.tmp 120) (.tmp 121) 89 ?zz4 ?zz5 ?zz6 ?zz7 (fun _ => hS1) ?_
             case zz1 => kernel_rfl
             case zz3 => exact rfl
             case zz4 => exact rfl
             case zz5 => exact rfl
             case zz6 => exact rfl
             case zz7 => exact r1
             (try simp only [zA, zB, zC, Act.put, zD, zE, zF])
             refine uk 15 (goInt stwb) ?_ hS1 ?_
             ·intro w' hSw
              (try dsimp only at hSw)
              go_simp
             (try simp only [zA, zB, zC, Act.put, zD, zE, zF])
             have hSwb := keep2 hS0 g2wb (by omega)
             refine upto_estore (i := 16) (mv := .map (some (w2.heap.size + 1 + 1))) (st := goInt stwb) (val := .agg #[.int .i64 (j : Int), .int .i64 (q : Int)]) (w1 := wb) (by kernel_rfl) rfl rfl (.tmp 120) (.tmp 132) (.tmp 129) 89 rfl rfl rfl rfl r2 (fun _ => hSwb) ?_
             clear r1 r2 hS1
             (try simp only [zA, zB, zC, Act.put])
             have hq := (HmD.out.drew.kept g2wb (by simp <;> omega)).entry (leadAt (nextOf p) (p.lines.take j) yel (q + 1)) (x := e) (y := u) hdk.out (fun z hz => leadAt_other He.out hz) hml keyed_int Tryz.underlying90 zero_int' (key_int hel)
             obtain ⟨vwd, hq⟩ := hq
             obtain ⟨stwd, hq⟩ := hq
             obtain ⟨wc, hq⟩ := hq
             obtain ⟨wd, hq⟩ := hq
             obtain ⟨r1, hq⟩ := hq
             obtain ⟨g1wd, hq⟩ := hq
             obtain ⟨r2, hq⟩ := hq
             obtain ⟨g2wd, hmwd⟩ := hq
             have r1 : (Instr.mapEntry 90 (.map (some (w2.heap.size + 1 + 1 + 1))) (.int .i64 e)).run Tryz.prog wb = .ok (.tuple #[vwd, goInt stwd]) wc := r1
             have r2 : (Instr.entryStore 90 (.map (some (w2.heap.size + 1 + 1 + 1))) (goInt stwd) (.int .i64 u)).run Tryz.prog wc = .ok () wd := r2
             have hS1 := keep2 hSwb g1wd (by omega)
             refine upto_entry (i := 17) (mv := .map (some (w2.heap.size + 1 + 1 + 1))) (key := .int .i64 e) (r := .tuple #[vwd, goInt stwd]) (w1 := wc) ?zz1 rfl ?zz3 (.tmp 125) (.tmp 126) 90 ?zz4 ?zz5 ?zz6 ?zz7 (fun _ => hS1) ?_
             case zz1 => kernel_rfl
             case zz3 => exact rfl
             case zz4 => exact rfl
             case zz5 => exact rfl
             case zz6 => exact rfl
             case zz7 => exact r1
             (try simp only [zA, zB, zC, Act.put, zD, zE, zF])
             refine uk 18 (goInt stwd) ?_ hS1 ?_
             ·intro w' hSw
              (try dsimp only at hSw)
              go_simp
             (try simp only [zA, zB, zC, Act.put, zD, zE, zF])
             have hSwd := keep2 hSwb g2wd (by omega)
             refine upto_estore (i := 19) (mv := .map (some (w2.heap.size + 1 + 1 + 1))) (st := goInt stwd) (val := .int .i64 u) (w1 := wd) (by kernel_rfl) rfl rfl (.tmp 125) (.tmp 134) (.tmp 130) 90 rfl rfl rfl rfl r2 (fun _ => hSwd) ?_
             clear r1 r2 hS1
             (try simp only [zA, zB, zC, Act.put])
             refine upto_done (by kernel_rfl) (NoPanic.normal ?_) _
             have R2 := ((HmN.out.drew.kept g2wb (by simp <;> omega)).kept g2wd (by simp <;> omega)).look_hit Hnx.out keyed_port Tryz.underlying87 zero_port (key_port hport)
             have R2 : (Instr.lookup 87 (.map (some w2.heap.size)) (.agg #[.int .i64 e, .int .i64 (1 - u)]) false).run Tryz.prog wd = .ok (.agg #[.int .i64 x.e, .int .i64 x.n]) wd := R2.1
             have HNd := Lib.hid ((HN.out.grown (w' := wb) ⟨g2wb.os, g2wb.tape, g2wb.output, g2wb.size, g2wb.block⟩ (fun e => by have := Option.some.inj e; omega)).grown g2wd (fun e => by have := Option.some.inj e; omega))
             have hbW : w2.heap.size ≤ wr.drew.heap.size := Hx.out.size
             have Hxb := (Hx.out.drew.grown g2wb hbW (by intro k hk; cases hk; omega))
             have Hxd := Lib.hid (Hxb.grown g2wd Hxb.size (by intro k hk; cases hk; omega))
             have HmNd := Lib.hid ((HmN.out.drew.kept g2wb (by simp <;> omega)).kept g2wd (by simp <;> omega))
             have HmRd := Lib.hid ((HmR.out.drew.kept g2wb (by simp <;> omega)).kept g2wd (by simp <;> omega))
             have HmLd := Lib.hid (hmwb.kept g2wd (by simp <;> omega))
             have HmDd := Lib.hid hmwd
             have n9d := HNd.out.cell9
             have hfd := run_fend
             clear hmwb hmwd hSwb hSwd g1wb g1wd g2wb g2wd Hxb n9 n11 n12 hS0
             go_wp2_with fail
             go_roundg (gk - 1)
             case measure => have := Hk2.out; omega
             case rel => exact ⟨q + 1, m + 1, x.n, by have := Hk2.out; omega, by go_num, rfl, by have h7 := Hub.out; rw [hE.out] at h7; exact h7.1, by have h7 := Hub.out; rw [hE.out] at h7; exact h7.2, by omega, Lib.hid (by have h7 := Hls.out.2; rw [hE.out] at h7; exact h7), HNd.out, Hxd.out, HmNd.out, HmRd.out, HmLd.out, HmDd.out⟩
           ·have hqe := Lib.hid (show q = yel.length by have := Hk2.out; have := ly.out; omega)
            go_wp2_with fail
            go_roundg (nl - j - 1)
            case measure => have := Hk.out; omega
            case rel => exact ⟨j + 1, m, by have := Hk.out; omega, by go_num, by have := Hk2.out; omega, HN.out, Hx.out, HmN.out, HmR.out, HmL.out.congr (fun z => by rw [take_next HyL.out, hqe.out]; exact (lineAt_end (p.lines.take j) ⟨nm, yel⟩ z).symm), HmD.out.congr (fun z => by rw [take_next HyL.out, hqe.out]; exact leadIn_snoc (nextOf p) (p.lines.take j) ⟨nm, yel⟩ z)⟩
         | some x =>
          by_cases hx1 : x.e = y1
          ·have HF := Lib.hid (first_yes Hy0.out Hy1.out hnx hx1)
           have q1 : (x.e == y1) = true := by simpa using hx1
           clear hx1
           go_wp2_with fail
           refine name_code fun W hW => ?_
           have HxW := Lib.hid (show Below w2.heap.size w2 W by rw [hW]; exact Hx.out.alloc Hx.out.size _)
           have HNW := Lib.hid (show NetBlock W (w2.heap.size + 4) ⟨be, me, fe, bj, mj, fj, bs, ms, fs, bl, ml, fl, lq⟩ p w2.heap.size (w2.heap.size + 1) (w2.heap.size + 1 + 1) (w2.heap.size + 1 + 1 + 1) from by rw [hW]; exact HN.out.alloc _)
           have Hm1W := Lib.hid (show MapOf portCode Port.val W 43 w2.heap.size 1000 (nextOf p) from by rw [hW]; exact Hm1.out.alloc _)
           have Hm2W := Lib.hid (show MapOf portCode natVal W 43 (w2.heap.size + 1) 1000 (posP 0 (p.sigs.map (·.at_))) from by rw [hW]; exact Hm2.out.alloc _)
           have Hm3W := Lib.hid (show MapOf intCode pairVal W 3 (w2.heap.size + 1 + 1) n (lineFrom 0 (p.lines.take j)) from by rw [hW]; exact Hm3.out.alloc _)
           have Hm4W := Lib.hid (show MapOf intCode intVal W 3 (w2.heap.size + 1 + 1 + 1) n (leadIn (nextOf p) (p.lines.take j)) from by rw [hW]; exact Hm4.out.alloc _)
           have k1 : W.cell? ⟨wr.heap.size, 1, none⟩ = some (.slice (some ⟨pa, offa, none⟩) yn yc) := by rw [hW]; go_simp
           have hwW : wr.heap.size < W.heap.size := by rw [hW]; simp
           have hwrH := HN.out.lt
           have n9 := HNW.out.cell9
           have hbwW := below_step Hb2.out HxW.out Hb2.out.size
           have hpaW : pa < W.heap.size := by have := hbwW.size; omega
           have ge0 := (hbwW.cell (p := ⟨pa, offa, none⟩) hpa).trans ge0
           have ge1 := (hbwW.cell (p := ⟨pa, offa + 1, none⟩) hpa).trans ge1
           have R1 := Lib.hid (show ∀ w', Below W.heap.size W w' → (Instr.lookup 87 (.map (some w2.heap.size)) (.agg #[.int .i64 y0, .int .i64 0]) false).run Tryz.prog w' = .ok (.agg #[.int .i64 x.e, .int .i64 x.n]) w' ∧ (Instr.lookup 87 (.map (some w2.heap.size)) (.agg #[.int .i64 y0, .int .i64 0]) true).run Tryz.prog w' = .ok (.tuple #[.agg #[.int .i64 x.e, .int .i64 x.n], .bool true]) w' from Hm1W.out.hit hnx keyed_port Tryz.underlying87 zero_port (key_port hp0))
           clear hW hbwW hnx g1 g2
           have hSall : ∀ w' : World, Below (W).heap.size (W) w' → (w'.cell? ⟨w2.heap.size + 4, 9, none⟩ = some (.map (some w2.heap.size)) ∧ w'.cell? ⟨wr.heap.size, 1, none⟩ = some (.slice (some ⟨pa, offa, none⟩) yn yc) ∧ w'.cell? ⟨pa, offa, none⟩ = some (.int .i64 y0) ∧ w'.cell? ⟨pa, offa + 1, none⟩ = some (.int .i64 y1) ∧ (Instr.lookup 87 (.map (some w2.heap.size)) (.agg #[.int .i64 y0, .int .i64 0]) true).run Tryz.prog w' = .ok (.tuple #[.agg #[.int .i64 x.e, .int .i64 x.n], .bool true]) w') := fun w' hb => ⟨(hb.cell (p := ⟨w2.heap.size + 4, 9, none⟩) HNW.out.lt).trans n9, (hb.cell (p := ⟨wr.heap.size, 1, none⟩) hwW).trans k1, (hb.cell (p := ⟨pa, offa, none⟩) hpaW).trans ge0, (hb.cell (p := ⟨pa, offa + 1, none⟩) hpaW).trans ge1, (R1.out w' hb).2⟩
           refine wp_region_noPanic ?_
           refine region_upto (S := fun w' => w'.cell? ⟨w2.heap.size + 4, 9, none⟩ = some (.map (some w2.heap.size)) ∧ w'.cell? ⟨wr.heap.size, 1, none⟩ = some (.slice (some ⟨pa, offa, none⟩) yn yc) ∧ w'.cell? ⟨pa, offa, none⟩ = some (.int .i64 y0) ∧ w'.cell? ⟨pa, offa + 1, none⟩ = some (.int .i64 y1) ∧ (Instr.lookup 87 (.map (some w2.heap.size)) (.agg #[.int .i64 y0, .int .i64 0]) true).run Tryz.prog w' = .ok (.tuple #[.agg #[.int .i64 x.e, .int .i64 x.n], .bool true]) w') (n := 16) (by kernel_rfl) ?_
           refine uk 0 (.pointer (some ⟨(w2.heap.size + 1 + 1 + 1 + 1), 0, none⟩)) ?_ (hSall _ (by with_reducible repeat (first | exact Below.refl _ _ | assumption | exact below_new _ _ | apply below_drewN | apply Below.drew | refine below_set (Nat.le_refl _) ?_ _ | (refine below_set ?_ ?_ _; omega) | refine Below.alloc ?_ (by first | omega | (simp; omega) | simp) _))) ?_
           ·intro w' hSw
            (try dsimp only at hSw)
            go_simp
           (try simp only [zA, zC, Act.put, zD, zE, zF])
           refine uk 1 (.pointer (some ⟨(w2.heap.size + 1 + 1 + 1 + 1), 0, none⟩)) ?_ (hSall _ (by with_reducible repeat (first | exact Below.refl _ _ | assumption | exact below_new _ _ | apply below_drewN | apply Below.drew | refine below_set (Nat.le_refl _) ?_ _ | (refine below_set ?_ ?_ _; omega) | refine Below.alloc ?_ (by first | omega | (simp; omega) | simp) _))) ?_
           ·intro w' hSw
            (try dsimp only at hSw)
            go_simp
           (try simp only [zA, zB, zC, Act.put, zD, zE, zF])
           refine uk 2 (.pointer (some ⟨(w2.heap.size + 1 + 1 + 1 + 1), 9, none⟩)) ?_ (hSall _ (by with_reducible repeat (first | exact Below.refl _ _ | assumption | exact below_new _ _ | apply below_drewN | apply Below.drew | refine below_set (Nat.le_refl _) ?_ _ | (refine below_set ?_ ?_ _; omega) | refine Below.alloc ?_ (by first | omega | (simp; omega) | simp) _))) ?_
           ·intro w' hSw
            (try dsimp only at hSw)
            go_simp
           (try simp only [zA, zB, zC, Act.put, zD, zE, zF])
           refine uk 3 (.map (some w2.heap.size)) ?_ (hSall _ (by with_reducible repeat (first | exact Below.refl _ _ | assumption | exact below_new _ _ | apply below_drewN | apply Below.drew | refine below_set (Nat.le_refl _) ?_ _ | (refine below_set ?_ ?_ _; omega) | refine Below.alloc ?_ (by first | omega | (simp; omega) | simp) _))) ?_
           ·intro w' hSw
            (try dsimp only at hSw)
            go_simp
           (try simp only [zA, zB, zC, Act.put, zD, zE, zF])
           refine uk 4 (.pointer (some ⟨wr.heap.size, 1, none⟩)) ?_ (hSall _ (by with_reducible repeat (first | exact Below.refl _ _ | assumption | exact below_new _ _ | apply below_drewN | apply Below.drew | refine below_set (Nat.le_refl _) ?_ _ | (refine below_set ?_ ?_ _; omega) | refine Below.alloc ?_ (by first | omega | (simp; omega) | simp) _))) ?_
           ·intro w' hSw
            (try dsimp only at hSw)
            go_simp
           (try simp only [zA, zB, zC, Act.put, zD, zE, zF])
           refine uk 5 (.slice (some ⟨pa, offa, none⟩) yn yc) ?_ (hSall _ (by with_reducible repeat (first | exact Below.refl _ _ | assumption | exact below_new _ _ | apply below_drewN | apply Below.drew | refine below_set (Nat.le_refl _) ?_ _ | (refine below_set ?_ ?_ _; omega) | refine Below.alloc ?_ (by first | omega | (simp; omega) | simp) _))) ?_
           ·intro w' hSw
            (try dsimp only at hSw)
            go_simp
           (try simp only [zA, zB, zC, Act.put, zD, zE, zF])
           refine uk 6 (.pointer (some ⟨pa, offa, none⟩)) ?_ (hSall _ (by with_reducible repeat (first | exact Below.refl _ _ | assumption | exact below_new _ _ | apply below_drewN | apply Below.drew | refine below_set (Nat.le_refl _) ?_ _ | (refine below_set ?_ ?_ _; omega) | refine Below.alloc ?_ (by first | omega | (simp; omega) | simp) _))) ?_
           ·intro w' hSw
            (try dsimp only at hSw)
            go_simp
           (try simp only [zA, zB, zC, Act.put, zD, zE, zF])
           refine uk 7 (.int .i64 y0) ?_ (hSall _ (by with_reducible repeat (first | exact Below.refl _ _ | assumption | exact below_new _ _ | apply below_drewN | apply Below.drew | refine below_set (Nat.le_refl _) ?_ _ | (refine below_set ?_ ?_ _; omega) | refine Below.alloc ?_ (by first | omega | (simp; omega) | simp) _))) ?_
           ·intro w' hSw
            (try dsimp only at hSw)
            go_simp
           (try simp only [zA, zB, zC, Act.put, zD, zE, zF])
           refine uk 8 (.agg #[.int .i64 y0, .int .i64 0]) ?_ (hSall _ (by with_reducible repeat (first | exact Below.refl _ _ | assumption | exact below_new _ _ | apply below_drewN | apply Below.drew | refine below_set (Nat.le_refl _) ?_ _ | (refine below_set ?_ ?_ _; omega) | refine Below.alloc ?_ (by first | omega | (simp; omega) | simp) _))) ?_
           ·intro w' hSw
            (try dsimp only at hSw)
            go_simp
           (try simp only [zA, zB, zC, Act.put, zD, zE, zF])
           refine uk 9 (.tuple #[.agg #[.int .i64 x.e, .int .i64 x.n], .bool true]) ?_ (hSall _ (by with_reducible repeat (first | exact Below.refl _ _ | assumption | exact below_new _ _ | apply below_drewN | apply Below.drew | refine below_set (Nat.le_refl _) ?_ _ | (refine below_set ?_ ?_ _; omega) | refine Below.alloc ?_ (by first | omega | (simp; omega) | simp) _))) ?_
           ·intro w' hSw
            (try dsimp only at hSw)
            go_simp
           (try simp only [zA, zB, zC, Act.put, zD, zE, zF])
           refine uk 10 (.tuple #[.agg #[.int .i64 x.e, .int .i64 x.n], .bool true]) ?_ (hSall _ (by with_reducible repeat (first | exact Below.refl _ _ | assumption | exact below_new _ _ | apply below_drewN | apply Below.drew | refine below_set (Nat.le_refl _) ?_ _ | (refine below_set ?_ ?_ _; omega) | refine Below.alloc ?_ (by first | omega | (simp; omega) | simp) _))) ?_
           ·intro w' hSw
            (try dsimp only at hSw)
            go_simp
           (try simp only [zA, zB, zC, Act.put, zD, zE, zF])
           refine uk 11 (.agg #[.int .i64 x.e, .int .i64 x.n]) ?_ (hSall _ (by with_reducible repeat (first | exact Below.refl _ _ | assumption | exact below_new _ _ | apply below_drewN | apply Below.drew | refine below_set (Nat.le_refl _) ?_ _ | (refine below_set ?_ ?_ _; omega) | refine Below.alloc ?_ (by first | omega | (simp; omega) | simp) _))) ?_
           ·intro w' hSw
            (try dsimp only at hSw)
            go_simp
           (try simp only [zA, zB, zC, Act.put, zD, zE, zF])
           refine uk 12 (.bool true) ?_ (hSall _ (by with_reducible repeat (first | exact Below.refl _ _ | assumption | exact below_new _ _ | apply below_drewN | apply Below.drew | refine below_set (Nat.le_refl _) ?_ _ | (refine below_set ?_ ?_ _; omega) | refine Below.alloc ?_ (by first | omega | (simp; omega) | simp) _))) ?_
           ·intro w' hSw
            (try dsimp only at hSw)
            go_simp
           (try simp only [zA, zB, zC, Act.put, zD, zE, zF])
           refine upto_step (i := 13) (by kernel_rfl) rfl (fun K hK => ?_)
           go_simp
           refine hK _ _ (fun _ => (hSall _ (by with_reducible repeat (first | exact Below.refl _ _ | assumption | exact below_new _ _ | apply below_drewN | apply Below.drew | refine below_set (Nat.le_refl _) ?_ _ | (refine below_set ?_ ?_ _; omega) | refine Below.alloc ?_ (by first | omega | (simp; omega) | simp) _)))) ?_
           clear hK K
           (try simp only [zA, zB, zC, Act.put, zD, zE, zF])
           refine upto_step (i := 14) (by kernel_rfl) rfl (fun K hK => ?_)
           go_simp
           refine hK _ _ (fun _ => (hSall _ (by with_reducible repeat (first | exact Below.refl _ _ | assumption | exact below_new _ _ | apply below_drewN | apply Below.drew | refine below_set (Nat.le_refl _) ?_ _ | (refine below_set ?_ ?_ _; omega) | refine Below.alloc ?_ (by first | omega | (simp; omega) | simp) _)))) ?_
           clear hK K
           (try simp only [zA, zB, zC, Act.put, zD, zE, zF])
           refine upto_step (i := 15) (by kernel_rfl) rfl (fun K hK => ?_)
           go_simp
           refine hK _ _ (fun _ => (hSall _ (by with_reducible repeat (first | exact Below.refl _ _ | assumption | exact below_new _ _ | apply below_drewN | apply Below.drew | refine below_set (Nat.le_refl _) ?_ _ | (refine below_set ?_ ?_ _; omega) | refine Below.alloc ?_ (by first | omega | (simp; omega) | simp) _)))) ?_
           clear hK K
           (try simp only [zA, zB, zC, Act.put, zD, zE, zF])
           refine upto_done (by kernel_rfl) (NoPanic.normal ?_) _
           clear hSall
           refine name_world fun V hV => ?_
           have hbV : Below W.heap.size W V := by rw [hV]; exact (by with_reducible repeat (first | exact Below.refl _ _ | assumption | exact below_new _ _ | apply below_drewN | apply Below.drew | refine below_set (Nat.le_refl _) ?_ _ | (refine below_set ?_ ?_ _; omega) | refine Below.alloc ?_ (by first | omega | (simp; omega) | simp) _))
           have HxV := Lib.hid (show Below w2.heap.size w2 V from HxW.out.trans (hbV.mono HxW.out.size))
           have HNV := Lib.hid (show NetBlock V (w2.heap.size + 4) ⟨be, me, fe, bj, mj, fj, bs, ms, fs, bl, ml, fl, lq⟩ p w2.heap.size (w2.heap.size + 1) (w2.heap.size + 1 + 1) (w2.heap.size + 1 + 1 + 1) from HNW.out.same (hbV.block _ HNW.out.lt))
           have Hm1V := Lib.hid (show MapOf portCode Port.val V 43 w2.heap.size 1000 (nextOf p) from Hm1W.out.of_block (hbV.block _ Hm1W.out.lt))
           have Hm2V := Lib.hid (show MapOf portCode natVal V 43 (w2.heap.size + 1) 1000 (posP 0 (p.sigs.map (·.at_))) from Hm2W.out.of_block (hbV.block _ Hm2W.out.lt))
           have Hm3V := Lib.hid (show MapOf intCode pairVal V 3 (w2.heap.size + 1 + 1) n (lineFrom 0 (p.lines.take j)) from Hm3W.out.of_block (hbV.block _ Hm3W.out.lt))
           have Hm4V := Lib.hid (show MapOf intCode intVal V 3 (w2.heap.size + 1 + 1 + 1) n (leadIn (nextOf p) (p.lines.take j)) from Hm4W.out.of_block (hbV.block _ Hm4W.out.lt))
           have k1V : V.cell? ⟨wr.heap.size, 1, none⟩ = some (.slice (some ⟨pa, offa, none⟩) yn yc) := (hbV.cell (p := ⟨wr.heap.size, 1, none⟩) hwW).trans k1
           have ge1V := (hbV.cell (p := ⟨pa, offa + 1, none⟩) hpaW).trans ge1
           have kx : V.cell? ⟨W.heap.size, 0, none⟩ = some (.int .i64 x.e) := by rw [hV]; go_simp
           clear hV hbV k1 ge1 HxW HNW Hm1W Hm2W Hm3W Hm4W n9 hpaW
           go_wp2_with fail
           go_quiet (fail)
           first | refine name_code fun U hU => ?_ | refine name_world fun U hU => ?_
           have hbU : Below V.heap.size V U := by rw [hU]; exact (by with_reducible repeat (first | exact Below.refl _ _ | assumption | exact below_new _ _ | apply below_drewN | apply Below.drew | refine below_set (Nat.le_refl _) ?_ _ | (refine below_set ?_ ?_ _; omega) | refine Below.alloc ?_ (by first | omega | (simp; omega) | simp) _))
           have HxU := Lib.hid (show Below w2.heap.size w2 U from HxV.out.trans (hbU.mono HxV.out.size))
           have HNU := Lib.hid (show NetBlock U (w2.heap.size + 4) ⟨be, me, fe, bj, mj, fj, bs, ms, fs, bl, ml, fl, lq⟩ p w2.heap.size (w2.heap.size + 1) (w2.heap.size + 1 + 1) (w2.heap.size + 1 + 1 + 1) from HNV.out.same (hbU.block _ HNV.out.lt))
           have Hm1U := Lib.hid (show MapOf portCode Port.val U 43 w2.heap.size 1000 (nextOf p) from Hm1V.out.of_block (hbU.block _ Hm1V.out.lt))
           have Hm2U := Lib.hid (show MapOf portCode natVal U 43 (w2.heap.size + 1) 1000 (posP 0 (p.sigs.map (·.at_))) from Hm2V.out.of_block (hbU.block _ Hm2V.out.lt))
           have Hm3U := Lib.hid (show MapOf intCode pairVal U 3 (w2.heap.size + 1 + 1) n (lineFrom 0 (p.lines.take j)) from Hm3V.out.of_block (hbU.block _ Hm3V.out.lt))
           have Hm4U := Lib.hid (show MapOf intCode intVal U 3 (w2.heap.size + 1 + 1 + 1) n (leadIn (nextOf p) (p.lines.take j)) from Hm4V.out.of_block (hbU.block _ Hm4V.out.lt))
           have hwV : wr.heap.size < V.heap.size := block_lt_of_cell k1V
           have k1U : U.cell? ⟨wr.heap.size, 1, none⟩ = some (.slice (some ⟨pa, offa, none⟩) yn yc) := (hbU.cell (p := ⟨wr.heap.size, 1, none⟩) hwV).trans k1V
           clear hU hbU k1V ge1V hwV HxV HNV Hm1V Hm2V Hm3V Hm4V R1 kx
           go_wp2_with fail
           go_loopg [112, 12] yn (fun k i inn w' => ∃ (q m : Nat) (u : Int), q + k = yn ∧ i = .int .i64 q ∧ inn = .int .i64 u ∧ 0 ≤ u ∧ u ≤ 4 ∧ m ≤ 60 * j + q ∧ Hid ((leadList (nextOf p) yel).drop q = leadGo (nextOf p) u (yel.drop q)) ∧ NetBlock w' (w2.heap.size + 4) ⟨be, me, fe, bj, mj, fj, bs, ms, fs, bl, ml, fl, lq⟩ p w2.heap.size (w2.heap.size + 1) (w2.heap.size + 1 + 1) (w2.heap.size + 1 + 1 + 1) ∧ Below w2.heap.size w2 w' ∧
            MapOf portCode Port.val w' 43 w2.heap.size 1000 (nextOf p) ∧ MapOf portCode natVal w' 43 (w2.heap.size + 1) 1000 (posP 0 (p.sigs.map (·.at_))) ∧
            MapOf intCode pairVal w' 3 (w2.heap.size + 1 + 1) m (lineAt (p.lines.take j) yel q) ∧ MapOf intCode intVal w' 3 (w2.heap.size + 1 + 1 + 1) m (leadAt (nextOf p) (p.lines.take j) yel q))
           case atStart => exact ⟨0, n, 1, by omega, rfl, rfl, by omega, by omega, by omega, Lib.hid (by show leadGo _ (firstIn (nextOf p) yel) yel = _; rw [HF.out]; rfl), HNU.out, HxU.out, Hm1U.out, Hm2U.out, Hm3U.out.congr (fun z => lineAt_zero _ _ z), Hm4U.out.congr (fun z => leadAt_zero _ _ _ z)⟩
           case round =>
            clear HNU HxU Hm1U Hm2U Hm3U Hm4U HF
            obtain ⟨q, m, u, hk2, rfl, rfl, hu0, hu4, hm60, hld, hN, hx, hm1, hm2, hm3, hm4⟩ := hrel
            have Hk2 := Lib.hid hk2; clear hk2
            have HN := Lib.hid hN; clear hN
            have Hx := Lib.hid hx; clear hx
            have HmN := Lib.hid hm1
            have HmR := Lib.hid hm2
            have HmL := Lib.hid hm3
            have HmD := Lib.hid hm4
            clear hm1 hm2 hm3 hm4
            have ly := Lib.hid (show yel.length = yn from Hints.out.len)
            by_cases hlt2 : q < yn
            ·obtain ⟨e, he⟩ := get_some ly.out hlt2
             obtain ⟨hpa2, ge⟩ := Hints.out.int' he
             have ge := ((below_step Hb2.out Hx.out Hb2.out.size).cell (p := ⟨pa, offa + q, none⟩) hpa).trans ge
             have hel : inI e := (hP.out.fit.l _ (List.mem_of_getElem? HyL.out)).1 e (List.mem_of_getElem? he)
             have hfr := line_fresh G.out HyL.out he
             have hls := lead_step hld.out he
             have Hls := Lib.hid hls
             have He := Lib.hid he
             have hdl : (p.lines.take j).length = j := by have := (List.getElem?_eq_some_iff.1 HyL.out).1; simp; omega
             have hlk := Lib.hid (show lineAt (p.lines.take j) yel (q + 1) e = some (j, q) by rw [lineAt_key he hfr.1 hfr.2, hdl])
             have hdk := Lib.hid (show leadAt (nextOf p) (p.lines.take j) yel (q + 1) e = some u by rw [leadAt_key he hfr.1 hfr.2]; exact hls.1)
             have hml : m < maxLen := by simp only [maxLen]; have hjl := (List.getElem?_eq_some_iff.1 HyL.out).1; omega
             clear he hfr hls hld hdl
             have hub := endOf_bound G.out ⟨e, 1 - u⟩
             have Hub := Lib.hid hub
             have hport : Port.wf ⟨e, 1 - u⟩ := ⟨hel, inI_mk (by show _ ≤ 1 - u; omega) (by show 1 - u ≤ _; omega)⟩
             clear hub
             have n9 := HN.out.cell9
             have n11 := HN.out.cell11
             have n12 := HN.out.cell12
             have hs1 := HN.out.lt
             cases hnx : nextOf p ⟨e, 1 - u⟩ with
             | none =>
              have Hnx := Lib.hid hnx
              have hE := Lib.hid (show endOf (nextOf p) ⟨e, 1 - u⟩ = 0 by unfold endOf; rw [hnx]; rfl)
              clear hnx
              go_wp2_with fail
              refine wp_region_noPanic ?_
              refine region_upto (S := fun w' => w'.cell? ⟨w2.heap.size + 4, 11, none⟩ = some (.map (some (w2.heap.size + 1 + 1))) ∧ w'.cell? ⟨w2.heap.size + 4, 12, none⟩ = some (.map (some (w2.heap.size + 1 + 1 + 1)))) (n := 20) (by kernel_rfl) ?_
              have hS0 : wr.drew.cell? ⟨w2.heap.size + 4, 11, none⟩ = some (.map (some (w2.heap.size + 1 + 1))) ∧ wr.drew.cell? ⟨w2.heap.size + 4, 12, none⟩ = some (.map (some (w2.heap.size + 1 + 1 + 1))) := ⟨n11, n12⟩
              refine uk 0 (.pointer (some ⟨(w2.heap.size + 1 + 1 + 1 + 1), 0, none⟩)) ?_ hS0 ?_
              ·intro w' hSw
               (try dsimp only at hSw)
               go_simp
              (try simp only [zA, zC, Act.put, zD, zE, zF])
              refine uk 1 (.pointer (some ⟨(w2.heap.size + 1 + 1 + 1 + 1), 0, none⟩)) ?_ hS0 ?_
              ·intro w' hSw
               (try dsimp only at hSw)
               go_simp
              (try simp only [zA, zB, zC, Act.put, zD, zE, zF])
              refine uk 2 (.pointer (some ⟨(w2.heap.size + 1 + 1 + 1 + 1), 11, none⟩)) ?_ hS0 ?_
              ·intro w' hSw
               (try dsimp only at hSw)
               go_simp
              (try simp only [zA, zB, zC, Act.put, zD, zE, zF])
              refine uk 3 (.map (some (w2.heap.size + 1 + 1))) ?_ hS0 ?_
              ·intro w' hSw
               (try dsimp only at hSw)
               go_simp
              (try simp only [zA, zB, zC, Act.put, zD, zE, zF])
              refine uk 4 (.int .i64 e) ?_ hS0 ?_
              ·intro w' hSw
               (try dsimp only at hSw)
               go_simp
              (try simp only [zA, zB, zC, Act.put, zD, zE, zF])
              refine uk 5 (.pointer (some ⟨(w2.heap.size + 1 + 1 + 1 + 1), 0, none⟩)) ?_ hS0 ?_
              ·intro w' hSw
               (try dsimp only at hSw)
               go_simp
              (try simp only [zA, zB, zC, Act.put, zD, zE, zF])
              refine uk 6 (.pointer (some ⟨(w2.heap.size + 1 + 1 + 1 + 1), 0, none⟩)) ?_ hS0 ?_
              ·intro w' hSw
               (try dsimp only at hSw)
               go_simp
              (try simp only [zA, zB, zC, Act.put, zD, zE, zF])
              refine uk 7 (.pointer (some ⟨(w2.heap.size + 1 + 1 + 1 + 1), 12, none⟩)) ?_ hS0 ?_
              ·intro w' hSw
               (try dsimp only at hSw)
               go_simp
              (try simp only [zA, zB, zC, Act.put, zD, zE, zF])
              refine uk 8 (.map (some (w2.heap.size + 1 + 1 + 1))) ?_ hS0 ?_
              ·intro w' hSw
               (try dsimp only at hSw)
               go_simp
              (try simp only [zA, zB, zC, Act.put, zD, zE, zF])
              refine uk 9 (.int .i64 e) ?_ hS0 ?_
              ·intro w' hSw
               (try dsimp only at hSw)
               go_simp
              (try simp only [zA, zB, zC, Act.put, zD, zE, zF])
              refine uk 10 (.int .i64 (j : Int)) ?_ hS0 ?_
              ·intro w' hSw
               (try dsimp only at hSw)
               go_simp
              (try simp only [zA, zB, zC, Act.put, zD, zE, zF])
              refine uk 11 (.int .i64 (q : Int)) ?_ hS0 ?_
              ·intro w' hSw
               (try dsimp only at hSw)
               go_simp
              (try simp only [zA, zB, zC, Act.put, zD, zE, zF])
              refine uk 12 (.agg #[.int .i64 (j : Int), .int .i64 (q : Int)]) ?_ hS0 ?_
              ·intro w' hSw
               (try dsimp only at hSw)
               go_simp
              (try simp only [zA, zB, zC, Act.put, zD, zE, zF])
              refine uk 13 (.int .i64 u) ?_ hS0 ?_
              ·intro w' hSw
               (try dsimp only at hSw)
               go_simp
              (try simp only [zA, zB, zC, Act.put, zD, zE, zF])
              have hq := HmL.out.drew.entry (lineAt (p.lines.take j) yel (q + 1)) (x := e) (y := (j, q)) hlk.out (fun z hz => lineAt_other He.out hz) hml keyed_int Tryz.underlying89 zero_pair (key_int hel)
              obtain ⟨vwb, hq⟩ := hq
              obtain ⟨stwb, hq⟩ := hq
              obtain ⟨wa, hq⟩ := hq
              obtain ⟨wb, hq⟩ := hq
              obtain ⟨r1, hq⟩ := hq
              obtain ⟨g1wb, hq⟩ := hq
              obtain ⟨r2, hq⟩ := hq
              obtain ⟨g2wb, hmwb⟩ := hq
              have r1 : (Instr.mapEntry 89 (.map (some (w2.heap.size + 1 + 1))) (.int .i64 e)).run Tryz.prog wr.drew = .ok (.tuple #[vwb, goInt stwb]) wa := r1
              have r2 : (Instr.entryStore 89 (.map (some (w2.heap.size + 1 + 1))) (goInt stwb) (.agg #[.int .i64 (j : Int), .int .i64 (q : Int)])).run Tryz.prog wa = .ok () wb := r2
              have hS1 := keep2 hS0 g1wb (by omega)
              refine upto_entry (i := 14) (mv := .map (some (w2.heap.size + 1 + 1))) (key := .int .i64 e) (r := .tuple #[vwb, goInt stwb]) (w1 := wa) ?zz1 rfl ?zz3 (.tmp 120) (.tmp 121) 89 ?zz4 ?zz5 ?zz6 ?zz7 (fun _ => hS1) ?_
              case zz1 => kernel_rfl
              case zz3 => exact rfl
              case zz4 => exact rfl
              case zz5 => exact rfl
              case zz6 => exact rfl
              case zz7 => exact r1
              (try simp only [zA, zB, zC, Act.put, zD, zE, zF])
              refine uk 15 (goInt stwb) ?_ hS1 ?_
              ·intro w' hSw
               (try dsimp only at hSw)
               go_simp
              (try simp only [zA, zB, zC, Act.put, zD, zE, zF])
              have hSwb := keep2 hS0 g2wb (by omega)
              refine upto_estore (i := 16) (mv := .map (some (w2.heap.size + 1 + 1))) (st := goInt stwb) (val := .agg #[.int .i64 (j : Int), .int .i64 (q : Int)]) (w1 := wb) (by kernel_rfl) rfl rfl (.tmp 120) (.tmp 132) (.tmp 129) 89 rfl rfl rfl rfl r2 (fun _ => hSwb) ?_
              clear r1 r2 hS1
              (try simp only [zA, zB, zC, Act.put])
              have hq := (HmD.out.drew.kept g2wb (by simp <;> omega)).entry (leadAt (nextOf p) (p.lines.take j) yel (q + 1)) (x := e) (y := u) hdk.out (fun z hz => leadAt_other He.out hz) hml keyed_int Tryz.underlying90 zero_int' (key_int hel)
              obtain ⟨vwd, hq⟩ := hq
              obtain ⟨stwd, hq⟩ := hq
              obtain ⟨wc, hq⟩ := hq
              obtain ⟨wd, hq⟩ := hq
              obtain ⟨r1, hq⟩ := hq
              obtain ⟨g1wd, hq⟩ := hq
              obtain ⟨r2, hq⟩ := hq
              obtain ⟨g2wd, hmwd⟩ := hq
              have r1 : (Instr.mapEntry 90 (.map (some (w2.heap.size + 1 + 1 + 1))) (.int .i64 e)).run Tryz.prog wb = .ok (.tuple #[vwd, goInt stwd]) wc := r1
              have r2 : (Instr.entryStore 90 (.map (some (w2.heap.size + 1 + 1 + 1))) (goInt stwd) (.int .i64 u)).run Tryz.prog wc = .ok () wd := r2
              have hS1 := keep2 hSwb g1wd (by omega)
              refine upto_entry (i := 17) (mv := .map (some (w2.heap.size + 1 + 1 + 1))) (key := .int .i64 e) (r := .tuple #[vwd, goInt stwd]) (w1 := wc) ?zz1 rfl ?zz3 (.tmp 125) (.tmp 126) 90 ?zz4 ?zz5 ?zz6 ?zz7 (fun _ => hS1) ?_
              case zz1 => kernel_rfl
              case zz3 => exact rfl
              case zz4 => exact rfl
              case zz5 => exact rfl
              case zz6 => exact rfl
              case zz7 => exact r1
              (try simp only [zA, zB, zC, Act.put, zD, zE, zF])
              refine uk 18 (goInt stwd) ?_ hS1 ?_
              ·intro w' hSw
               (try dsimp only at hSw)
               go_simp
              (try simp only [zA, zB, zC, Act.put, zD, zE, zF])
              have hSwd := keep2 hSwb g2wd (by omega)
              refine upto_estore (i := 19) (mv := .map (some (w2.heap.size + 1 + 1 + 1))) (st := goInt stwd) (val := .int .i64 u) (w1 := wd) (by kernel_rfl) rfl rfl (.tmp 125) (.tmp 134) (.tmp 130) 90 rfl rfl rfl rfl r2 (fun _ => hSwd) ?_
              clear r1 r2 hS1
              (try simp only [zA, zB, zC, Act.put])
              refine upto_done (by kernel_rfl) (NoPanic.normal ?_) _
              have R2 := ((HmN.out.drew.kept g2wb (by simp <;> omega)).kept g2wd (by simp <;> omega)).look_miss Hnx.out keyed_port Tryz.underlying87 zero_port (key_port hport)
              have R2 : (Instr.lookup 87 (.map (some w2.heap.size)) (.agg #[.int .i64 e, .int .i64 (1 - u)]) false).run Tryz.prog wd = .ok (.agg #[.int .i64 0, .int .i64 0]) wd := R2.1
              have HNd := Lib.hid ((HN.out.grown (w' := wb) ⟨g2wb.os, g2wb.tape, g2wb.output, g2wb.size, g2wb.block⟩ (fun e => by have := Option.some.inj e; omega)).grown g2wd (fun e => by have := Option.some.inj e; omega))
              have hbW : w2.heap.size ≤ wr.drew.heap.size := Hx.out.size
              have Hxb := (Hx.out.drew.grown g2wb hbW (by intro k hk; cases hk; omega))
              have Hxd := Lib.hid (Hxb.grown g2wd Hxb.size (by intro k hk; cases hk; omega))
              have HmNd := Lib.hid ((HmN.out.drew.kept g2wb (by simp <;> omega)).kept g2wd (by simp <;> omega))
              have HmRd := Lib.hid ((HmR.out.drew.kept g2wb (by simp <;> omega)).kept g2wd (by simp <;> omega))
              have HmLd := Lib.hid (hmwb.kept g2wd (by simp <;> omega))
              have HmDd := Lib.hid hmwd
              have n9d := HNd.out.cell9
              have hfd := run_fend
              clear hmwb hmwd hSwb hSwd g1wb g1wd g2wb g2wd Hxb n9 n11 n12 hS0
              go_wp2_with fail
              go_roundg (gk - 1)
              case measure => have := Hk2.out; omega
              case rel => exact ⟨q + 1, m + 1, 0, by have := Hk2.out; omega, by go_num, rfl, by have h7 := Hub.out; rw [hE.out] at h7; exact h7.1, by have h7 := Hub.out; rw [hE.out] at h7; exact h7.2, by omega, Lib.hid (by have h7 := Hls.out.2; rw [hE.out] at h7; exact h7), HNd.out, Hxd.out, HmNd.out, HmRd.out, HmLd.out, HmDd.out⟩
             | some x =>
              have Hnx := Lib.hid hnx
              have hE := Lib.hid (show endOf (nextOf p) ⟨e, 1 - u⟩ = x.n by unfold endOf; rw [hnx]; rfl)
              clear hnx
              go_wp2_with fail
              refine wp_region_noPanic ?_
              refine region_upto (S := fun w' => w'.cell? ⟨w2.heap.size + 4, 11, none⟩ = some (.map (some (w2.heap.size + 1 + 1))) ∧ w'.cell? ⟨w2.heap.size + 4, 12, none⟩ = some (.map (some (w2.heap.size + 1 + 1 + 1)))) (n := 20) (by kernel_rfl) ?_
              have hS0 : wr.drew.cell? ⟨w2.heap.size + 4, 11, none⟩ = some (.map (some (w2.heap.size + 1 + 1))) ∧ wr.drew.cell? ⟨w2.heap.size + 4, 12, none⟩ = some (.map (some (w2.heap.size + 1 + 1 + 1))) := ⟨n11, n12⟩
              refine uk 0 (.pointer (some ⟨(w2.heap.size + 1 + 1 + 1 + 1), 0, none⟩)) ?_ hS0 ?_
              ·intro w' hSw
               (try dsimp only at hSw)
               go_simp
              (try simp only [zA, zC, Act.put, zD, zE, zF])
              refine uk 1 (.pointer (some ⟨(w2.heap.size + 1 + 1 + 1 + 1), 0, none⟩)) ?_ hS0 ?_
              ·intro w' hSw
               (try dsimp only at hSw)
               go_simp
              (try simp only [zA, zB, zC, Act.put, zD, zE, zF])
              refine uk 2 (.pointer (some ⟨(w2.heap.size + 1 + 1 + 1 + 1), 11, none⟩)) ?_ hS0 ?_
              ·intro w' hSw
               (try dsimp only at hSw)
               go_simp
              (try simp only [zA, zB, zC, Act.put, zD, zE, zF])
              refine uk 3 (.map (some (w2.heap.size + 1 + 1))) ?_ hS0 ?_
              ·intro w' hSw
               (try dsimp only at hSw)
               go_simp
              (try simp only [zA, zB, zC, Act.put, zD, zE, zF])
              refine uk 4 (.int .i64 e) ?_ hS0 ?_
              ·intro w' hSw
               (try dsimp only at hSw)
               go_simp
              (try simp only [zA, zB, zC, Act.put, zD, zE, zF])
              refine uk 5 (.pointer (some ⟨(w2.heap.size + 1 + 1 + 1 + 1), 0, none⟩)) ?_ hS0 ?_
              ·intro w' hSw
               (try dsimp only at hSw)
               go_simp
              (try simp only [zA, zB, zC, Act.put, zD, zE, zF])
              refine uk 6 (.pointer (some ⟨(w2.heap.size + 1 + 1 + 1 + 1), 0, none⟩)) ?_ hS0 ?_
              ·intro w' hSw
               (try dsimp only at hSw)
               go_simp
              (try simp only [zA, zB, zC, Act.put, zD, zE, zF])
              refine uk 7 (.pointer (some ⟨(w2.heap.size + 1 + 1 + 1 + 1), 12, none⟩)) ?_ hS0 ?_
              ·intro w' hSw
               (try dsimp only at hSw)
               go_simp
              (try simp only [zA, zB, zC, Act.put, zD, zE, zF])
              refine uk 8 (.map (some (w2.heap.size + 1 + 1 + 1))) ?_ hS0 ?_
              ·intro w' hSw
               (try dsimp only at hSw)
               go_simp
              (try simp only [zA, zB, zC, Act.put, zD, zE, zF])
              refine uk 9 (.int .i64 e) ?_ hS0 ?_
              ·intro w' hSw
               (try dsimp only at hSw)
               go_simp
              (try simp only [zA, zB, zC, Act.put, zD, zE, zF])
              refine uk 10 (.int .i64 (j : Int)) ?_ hS0 ?_
              ·intro w' hSw
               (try dsimp only at hSw)
               go_simp
              (try simp only [zA, zB, zC, Act.put, zD, zE, zF])
              refine uk 11 (.int .i64 (q : Int)) ?_ hS0 ?_
              ·intro w' hSw
               (try dsimp only at hSw)
               go_simp
              (try simp only [zA, zB, zC, Act.put, zD, zE, zF])
              refine uk 12 (.agg #[.int .i64 (j : Int), .int .i64 (q : Int)]) ?_ hS0 ?_
              ·intro w' hSw
               (try dsimp only at hSw)
               go_simp
              (try simp only [zA, zB, zC, Act.put, zD, zE, zF])
              refine uk 13 (.int .i64 u) ?_ hS0 ?_
              ·intro w' hSw
               (try dsimp only at hSw)
               go_simp
              (try simp only [zA, zB, zC, Act.put, zD, zE, zF])
              have hq := HmL.out.drew.entry (lineAt (p.lines.take j) yel (q + 1)) (x := e) (y := (j, q)) hlk.out (fun z hz => lineAt_other He.out hz) hml keyed_int Tryz.underlying89 zero_pair (key_int hel)
              obtain ⟨vwb, hq⟩ := hq
              obtain ⟨stwb, hq⟩ := hq
              obtain ⟨wa, hq⟩ := hq
              obtain ⟨wb, hq⟩ := hq
              obtain ⟨r1, hq⟩ := hq
              obtain ⟨g1wb, hq⟩ := hq
              obtain ⟨r2, hq⟩ := hq
              obtain ⟨g2wb, hmwb⟩ := hq
              have r1 : (Instr.mapEntry 89 (.map (some (w2.heap.size + 1 + 1))) (.int .i64 e)).run Tryz.prog wr.drew = .ok (.tuple #[vwb, goInt stwb]) wa := r1
              have r2 : (Instr.entryStore 89 (.map (some (w2.heap.size + 1 + 1))) (goInt stwb) (.agg #[.int .i64 (j : Int), .int .i64 (q : Int)])).run Tryz.prog wa = .ok () wb := r2
              have hS1 := keep2 hS0 g1wb (by omega)
              refine upto_entry (i := 14) (mv := .map (some (w2.heap.size + 1 + 1))) (key := .int .i64 e) (r := .tuple #[vwb, goInt stwb]) (w1 := wa) ?zz1 rfl ?zz3 (.tmp 120) (.tmp 121) 89 ?zz4 ?zz5 ?zz6 ?zz7 (fun _ => hS1) ?_
              case zz1 => kernel_rfl
              case zz3 => exact rfl
              case zz4 => exact rfl
              case zz5 => exact rfl
              case zz6 => exact rfl
              case zz7 => exact r1
              (try simp only [zA, zB, zC, Act.put, zD, zE, zF])
              refine uk 15 (goInt stwb) ?_ hS1 ?_
              ·intro w' hSw
               (try dsimp only at hSw)
               go_simp
              (try simp only [zA, zB, zC, Act.put, zD, zE, zF])
              have hSwb := keep2 hS0 g2wb (by omega)
              refine upto_estore (i := 16) (mv := .map (some (w2.heap.size + 1 + 1))) (st := goInt stwb) (val := .agg #[.int .i64 (j : Int), .int .i64 (q : Int)]) (w1 := wb) (by kernel_rfl) rfl rfl (.tmp 120) (.tmp 132) (.tmp 129) 89 rfl rfl rfl rfl r2 (fun _ => hSwb) ?_
              clear r1 r2 hS1
              (try simp only [zA, zB, zC, Act.put])
              have hq := (HmD.out.drew.kept g2wb (by simp <;> omega)).entry (leadAt (nextOf p) (p.lines.take j) yel (q + 1)) (x := e) (y := u) hdk.out (fun z hz => leadAt_other He.out hz) hml keyed_int Tryz.underlying90 zero_int' (key_int hel)
              obtain ⟨vwd, hq⟩ := hq
              obtain ⟨stwd, hq⟩ := hq
              obtain ⟨wc, hq⟩ := hq
              obtain ⟨wd, hq⟩ := hq
              obtain ⟨r1, hq⟩ := hq
              obtain ⟨g1wd, hq⟩ := hq
              obtain ⟨r2, hq⟩ := hq
              obtain ⟨g2wd, hmwd⟩ := hq
              have r1 : (Instr.mapEntry 90 (.map (some (w2.heap.size + 1 + 1 + 1))) (.int .i64 e)).run Tryz.prog wb = .ok (.tuple #[vwd, goInt stwd]) wc := r1
              have r2 : (Instr.entryStore 90 (.map (some (w2.heap.size + 1 + 1 + 1))) (goInt stwd) (.int .i64 u)).run Tryz.prog wc = .ok () wd := r2
              have hS1 := keep2 hSwb g1wd (by omega)
              refine upto_entry (i := 17) (mv := .map (some (w2.heap.size + 1 + 1 + 1))) (key := .int .i64 e) (r := .tuple #[vwd, goInt stwd]) (w1 := wc) ?zz1 rfl ?zz3 (.tmp 125) (.tmp 126) 90 ?zz4 ?zz5 ?zz6 ?zz7 (fun _ => hS1) ?_
              case zz1 => kernel_rfl
              case zz3 => exact rfl
              case zz4 => exact rfl
              case zz5 => exact rfl
              case zz6 => exact rfl
              case zz7 => exact r1
              (try simp only [zA, zB, zC, Act.put, zD, zE, zF])
              refine uk 18 (goInt stwd) ?_ hS1 ?_
              ·intro w' hSw
               (try dsimp only at hSw)
               go_simp
              (try simp only [zA, zB, zC, Act.put, zD, zE, zF])
              have hSwd := keep2 hSwb g2wd (by omega)
              refine upto_estore (i := 19) (mv := .map (some (w2.heap.size + 1 + 1 + 1))) (st := goInt stwd) (val := .int .i64 u) (w1 := wd) (by kernel_rfl) rfl rfl (.tmp 125) (.tmp 134) (.tmp 130) 90 rfl rfl rfl rfl r2 (fun _ => hSwd) ?_
              clear r1 r2 hS1
              (try simp only [zA, zB, zC, Act.put])
              refine upto_done (by kernel_rfl) (NoPanic.normal ?_) _
              have R2 := ((HmN.out.drew.kept g2wb (by simp <;> omega)).kept g2wd (by simp <;> omega)).look_hit Hnx.out keyed_port Tryz.underlying87 zero_port (key_port hport)
              have R2 : (Instr.lookup 87 (.map (some w2.heap.size)) (.agg #[.int .i64 e, .int .i64 (1 - u)]) false).run Tryz.prog wd = .ok (.agg #[.int .i64 x.e, .int .i64 x.n]) wd := R2.1
              have HNd := Lib.hid ((HN.out.grown (w' := wb) ⟨g2wb.os, g2wb.tape, g2wb.output, g2wb.size, g2wb.block⟩ (fun e => by have := Option.some.inj e; omega)).grown g2wd (fun e => by have := Option.some.inj e; omega))
              have hbW : w2.heap.size ≤ wr.drew.heap.size := Hx.out.size
              have Hxb := (Hx.out.drew.grown g2wb hbW (by intro k hk; cases hk; omega))
              have Hxd := Lib.hid (Hxb.grown g2wd Hxb.size (by intro k hk; cases hk; omega))
              have HmNd := Lib.hid ((HmN.out.drew.kept g2wb (by simp <;> omega)).kept g2wd (by simp <;> omega))
              have HmRd := Lib.hid ((HmR.out.drew.kept g2wb (by simp <;> omega)).kept g2wd (by simp <;> omega))
              have HmLd := Lib.hid (hmwb.kept g2wd (by simp <;> omega))
              have HmDd := Lib.hid hmwd
              have n9d := HNd.out.cell9
              have hfd := run_fend
              clear hmwb hmwd hSwb hSwd g1wb g1wd g2wb g2wd Hxb n9 n11 n12 hS0
              go_wp2_with fail
              go_roundg (gk - 1)
              case measure => have := Hk2.out; omega
              case rel => exact ⟨q + 1, m + 1, x.n, by have := Hk2.out; omega, by go_num, rfl, by have h7 := Hub.out; rw [hE.out] at h7; exact h7.1, by have h7 := Hub.out; rw [hE.out] at h7; exact h7.2, by omega, Lib.hid (by have h7 := Hls.out.2; rw [hE.out] at h7; exact h7), HNd.out, Hxd.out, HmNd.out, HmRd.out, HmLd.out, HmDd.out⟩
            ·have hqe := Lib.hid (show q = yel.length by have := Hk2.out; have := ly.out; omega)
             go_wp2_with fail
             go_roundg (nl - j - 1)
             case measure => have := Hk.out; omega
             case rel => exact ⟨j + 1, m, by have := Hk.out; omega, by go_num, by have := Hk2.out; omega, HN.out, Hx.out, HmN.out, HmR.out, HmL.out.congr (fun z => by rw [take_next HyL.out, hqe.out]; exact (lineAt_end (p.lines.take j) ⟨nm, yel⟩ z).symm), HmD.out.congr (fun z => by rw [take_next HyL.out, hqe.out]; exact leadIn_snoc (nextOf p) (p.lines.take j) ⟨nm, yel⟩ z)⟩
          ·have HF := Lib.hid (first_no Hy0.out Hy1.out hnx hx1)
           have q1 : (x.e == y1) = false := by simpa using hx1
           clear hx1
           go_wp2_with fail
           refine name_code fun W hW => ?_
           have HxW := Lib.hid (show Below w2.heap.size w2 W by rw [hW]; exact Hx.out.alloc Hx.out.size _)
           have HNW := Lib.hid (show NetBlock W (w2.heap.size + 4) ⟨be, me, fe, bj, mj, fj, bs, ms, fs, bl, ml, fl, lq⟩ p w2.heap.size (w2.heap.size + 1) (w2.heap.size + 1 + 1) (w2.heap.size + 1 + 1 + 1) from by rw [hW]; exact HN.out.alloc _)
           have Hm1W := Lib.hid (show MapOf portCode Port.val W 43 w2.heap.size 1000 (nextOf p) from by rw [hW]; exact Hm1.out.alloc _)
           have Hm2W := Lib.hid (show MapOf portCode natVal W 43 (w2.heap.size + 1) 1000 (posP 0 (p.sigs.map (·.at_))) from by rw [hW]; exact Hm2.out.alloc _)
           have Hm3W := Lib.hid (show MapOf intCode pairVal W 3 (w2.heap.size + 1 + 1) n (lineFrom 0 (p.lines.take j)) from by rw [hW]; exact Hm3.out.alloc _)
           have Hm4W := Lib.hid (show MapOf intCode intVal W 3 (w2.heap.size + 1 + 1 + 1) n (leadIn (nextOf p) (p.lines.take j)) from by rw [hW]; exact Hm4.out.alloc _)
           have k1 : W.cell? ⟨wr.heap.size, 1, none⟩ = some (.slice (some ⟨pa, offa, none⟩) yn yc) := by rw [hW]; go_simp
           have hwW : wr.heap.size < W.heap.size := by rw [hW]; simp
           have hwrH := HN.out.lt
           have n9 := HNW.out.cell9
           have hbwW := below_step Hb2.out HxW.out Hb2.out.size
           have hpaW : pa < W.heap.size := by have := hbwW.size; omega
           have ge0 := (hbwW.cell (p := ⟨pa, offa, none⟩) hpa).trans ge0
           have ge1 := (hbwW.cell (p := ⟨pa, offa + 1, none⟩) hpa).trans ge1
           have R1 := Lib.hid (show ∀ w', Below W.heap.size W w' → (Instr.lookup 87 (.map (some w2.heap.size)) (.agg #[.int .i64 y0, .int .i64 0]) false).run Tryz.prog w' = .ok (.agg #[.int .i64 x.e, .int .i64 x.n]) w' ∧ (Instr.lookup 87 (.map (some w2.heap.size)) (.agg #[.int .i64 y0, .int .i64 0]) true).run Tryz.prog w' = .ok (.tuple #[.agg #[.int .i64 x.e, .int .i64 x.n], .bool true]) w' from Hm1W.out.hit hnx keyed_port Tryz.underlying87 zero_port (key_port hp0))
           clear hW hbwW hnx g1 g2
           have hSall : ∀ w' : World, Below (W).heap.size (W) w' → (w'.cell? ⟨w2.heap.size + 4, 9, none⟩ = some (.map (some w2.heap.size)) ∧ w'.cell? ⟨wr.heap.size, 1, none⟩ = some (.slice (some ⟨pa, offa, none⟩) yn yc) ∧ w'.cell? ⟨pa, offa, none⟩ = some (.int .i64 y0) ∧ w'.cell? ⟨pa, offa + 1, none⟩ = some (.int .i64 y1) ∧ (Instr.lookup 87 (.map (some w2.heap.size)) (.agg #[.int .i64 y0, .int .i64 0]) true).run Tryz.prog w' = .ok (.tuple #[.agg #[.int .i64 x.e, .int .i64 x.n], .bool true]) w') := fun w' hb => ⟨(hb.cell (p := ⟨w2.heap.size + 4, 9, none⟩) HNW.out.lt).trans n9, (hb.cell (p := ⟨wr.heap.size, 1, none⟩) hwW).trans k1, (hb.cell (p := ⟨pa, offa, none⟩) hpaW).trans ge0, (hb.cell (p := ⟨pa, offa + 1, none⟩) hpaW).trans ge1, (R1.out w' hb).2⟩
           refine wp_region_noPanic ?_
           refine region_upto (S := fun w' => w'.cell? ⟨w2.heap.size + 4, 9, none⟩ = some (.map (some w2.heap.size)) ∧ w'.cell? ⟨wr.heap.size, 1, none⟩ = some (.slice (some ⟨pa, offa, none⟩) yn yc) ∧ w'.cell? ⟨pa, offa, none⟩ = some (.int .i64 y0) ∧ w'.cell? ⟨pa, offa + 1, none⟩ = some (.int .i64 y1) ∧ (Instr.lookup 87 (.map (some w2.heap.size)) (.agg #[.int .i64 y0, .int .i64 0]) true).run Tryz.prog w' = .ok (.tuple #[.agg #[.int .i64 x.e, .int .i64 x.n], .bool true]) w') (n := 16) (by kernel_rfl) ?_
           refine uk 0 (.pointer (some ⟨(w2.heap.size + 1 + 1 + 1 + 1), 0, none⟩)) ?_ (hSall _ (by with_reducible repeat (first | exact Below.refl _ _ | assumption | exact below_new _ _ | apply below_drewN | apply Below.drew | refine below_set (Nat.le_refl _) ?_ _ | (refine below_set ?_ ?_ _; omega) | refine Below.alloc ?_ (by first | omega | (simp; omega) | simp) _))) ?_
           ·intro w' hSw
            (try dsimp only at hSw)
            go_simp
           (try simp only [zA, zC, Act.put, zD, zE, zF])
           refine uk 1 (.pointer (some ⟨(w2.heap.size + 1 + 1 + 1 + 1), 0, none⟩)) ?_ (hSall _ (by with_reducible repeat (first | exact Below.refl _ _ | assumption | exact below_new _ _ | apply below_drewN | apply Below.drew | refine below_set (Nat.le_refl _) ?_ _ | (refine below_set ?_ ?_ _; omega) | refine Below.alloc ?_ (by first | omega | (simp; omega) | simp) _))) ?_
           ·intro w' hSw
            (try dsimp only at hSw)
            go_simp
           (try simp only [zA, zB, zC, Act.put, zD, zE, zF])
           refine uk 2 (.pointer (some ⟨(w2.heap.size + 1 + 1 + 1 + 1), 9, none⟩)) ?_ (hSall _ (by with_reducible repeat (first | exact Below.refl _ _ | assumption | exact below_new _ _ | apply below_drewN | apply Below.drew | refine below_set (Nat.le_refl _) ?_ _ | (refine below_set ?_ ?_ _; omega) | refine Below.alloc ?_ (by first | omega | (simp; omega) | simp) _))) ?_
           ·intro w' hSw
            (try dsimp only at hSw)
            go_simp
           (try simp only [zA, zB, zC, Act.put, zD, zE, zF])
           refine uk 3 (.map (some w2.heap.size)) ?_ (hSall _ (by with_reducible repeat (first | exact Below.refl _ _ | assumption | exact below_new _ _ | apply below_drewN | apply Below.drew | refine below_set (Nat.le_refl _) ?_ _ | (refine below_set ?_ ?_ _; omega) | refine Below.alloc ?_ (by first | omega | (simp; omega) | simp) _))) ?_
           ·intro w' hSw
            (try dsimp only at hSw)
            go_simp
           (try simp only [zA, zB, zC, Act.put, zD, zE, zF])
           refine uk 4 (.pointer (some ⟨wr.heap.size, 1, none⟩)) ?_ (hSall _ (by with_reducible repeat (first | exact Below.refl _ _ | assumption | exact below_new _ _ | apply below_drewN | apply Below.drew | refine below_set (Nat.le_refl _) ?_ _ | (refine below_set ?_ ?_ _; omega) | refine Below.alloc ?_ (by first | omega | (simp; omega) | simp) _))) ?_
           ·intro w' hSw
            (try dsimp only at hSw)
            go_simp
           (try simp only [zA, zB, zC, Act.put, zD, zE, zF])
           refine uk 5 (.slice (some ⟨pa, offa, none⟩) yn yc) ?_ (hSall _ (by with_reducible repeat (first | exact Below.refl _ _ | assumption | exact below_new _ _ | apply below_drewN | apply Below.drew | refine below_set (Nat.le_refl _) ?_ _ | (refine below_set ?_ ?_ _; omega) | refine Below.alloc ?_ (by first | omega | (simp; omega) | simp) _))) ?_
           ·intro w' hSw
            (try dsimp only at hSw)
            go_simp
           (try simp only [zA, zB, zC, Act.put, zD, zE, zF])
           refine uk 6 (.pointer (some ⟨pa, offa, none⟩)) ?_ (hSall _ (by with_reducible repeat (first | exact Below.refl _ _ | assumption | exact below_new _ _ | apply below_drewN | apply Below.drew | refine below_set (Nat.le_refl _) ?_ _ | (refine below_set ?_ ?_ _; omega) | refine Below.alloc ?_ (by first | omega | (simp; omega) | simp) _))) ?_
           ·intro w' hSw
            (try dsimp only at hSw)
            go_simp
           (try simp only [zA, zB, zC, Act.put, zD, zE, zF])
           refine uk 7 (.int .i64 y0) ?_ (hSall _ (by with_reducible repeat (first | exact Below.refl _ _ | assumption | exact below_new _ _ | apply below_drewN | apply Below.drew | refine below_set (Nat.le_refl _) ?_ _ | (refine below_set ?_ ?_ _; omega) | refine Below.alloc ?_ (by first | omega | (simp; omega) | simp) _))) ?_
           ·intro w' hSw
            (try dsimp only at hSw)
            go_simp
           (try simp only [zA, zB, zC, Act.put, zD, zE, zF])
           refine uk 8 (.agg #[.int .i64 y0, .int .i64 0]) ?_ (hSall _ (by with_reducible repeat (first | exact Below.refl _ _ | assumption | exact below_new _ _ | apply below_drewN | apply Below.drew | refine below_set (Nat.le_refl _) ?_ _ | (refine below_set ?_ ?_ _; omega) | refine Below.alloc ?_ (by first | omega | (simp; omega) | simp) _))) ?_
           ·intro w' hSw
            (try dsimp only at hSw)
            go_simp
           (try simp only [zA, zB, zC, Act.put, zD, zE, zF])
           refine uk 9 (.tuple #[.agg #[.int .i64 x.e, .int .i64 x.n], .bool true]) ?_ (hSall _ (by with_reducible repeat (first | exact Below.refl _ _ | assumption | exact below_new _ _ | apply below_drewN | apply Below.drew | refine below_set (Nat.le_refl _) ?_ _ | (refine below_set ?_ ?_ _; omega) | refine Below.alloc ?_ (by first | omega | (simp; omega) | simp) _))) ?_
           ·intro w' hSw
            (try dsimp only at hSw)
            go_simp
           (try simp only [zA, zB, zC, Act.put, zD, zE, zF])
           refine uk 10 (.tuple #[.agg #[.int .i64 x.e, .int .i64 x.n], .bool true]) ?_ (hSall _ (by with_reducible repeat (first | exact Below.refl _ _ | assumption | exact below_new _ _ | apply below_drewN | apply Below.drew | refine below_set (Nat.le_refl _) ?_ _ | (refine below_set ?_ ?_ _; omega) | refine Below.alloc ?_ (by first | omega | (simp; omega) | simp) _))) ?_
           ·intro w' hSw
            (try dsimp only at hSw)
            go_simp
           (try simp only [zA, zB, zC, Act.put, zD, zE, zF])
           refine uk 11 (.agg #[.int .i64 x.e, .int .i64 x.n]) ?_ (hSall _ (by with_reducible repeat (first | exact Below.refl _ _ | assumption | exact below_new _ _ | apply below_drewN | apply Below.drew | refine below_set (Nat.le_refl _) ?_ _ | (refine below_set ?_ ?_ _; omega) | refine Below.alloc ?_ (by first | omega | (simp; omega) | simp) _))) ?_
           ·intro w' hSw
            (try dsimp only at hSw)
            go_simp
           (try simp only [zA, zB, zC, Act.put, zD, zE, zF])
           refine uk 12 (.bool true) ?_ (hSall _ (by with_reducible repeat (first | exact Below.refl _ _ | assumption | exact below_new _ _ | apply below_drewN | apply Below.drew | refine below_set (Nat.le_refl _) ?_ _ | (refine below_set ?_ ?_ _; omega) | refine Below.alloc ?_ (by first | omega | (simp; omega) | simp) _))) ?_
           ·intro w' hSw
            (try dsimp only at hSw)
            go_simp
           (try simp only [zA, zB, zC, Act.put, zD, zE, zF])
           refine upto_step (i := 13) (by kernel_rfl) rfl (fun K hK => ?_)
           go_simp
           refine hK _ _ (fun _ => (hSall _ (by with_reducible repeat (first | exact Below.refl _ _ | assumption | exact below_new _ _ | apply below_drewN | apply Below.drew | refine below_set (Nat.le_refl _) ?_ _ | (refine below_set ?_ ?_ _; omega) | refine Below.alloc ?_ (by first | omega | (simp; omega) | simp) _)))) ?_
           clear hK K
           (try simp only [zA, zB, zC, Act.put, zD, zE, zF])
           refine upto_step (i := 14) (by kernel_rfl) rfl (fun K hK => ?_)
           go_simp
           refine hK _ _ (fun _ => (hSall _ (by with_reducible repeat (first | exact Below.refl _ _ | assumption | exact below_new _ _ | apply below_drewN | apply Below.drew | refine below_set (Nat.le_refl _) ?_ _ | (refine below_set ?_ ?_ _; omega) | refine Below.alloc ?_ (by first | omega | (simp; omega) | simp) _)))) ?_
           clear hK K
           (try simp only [zA, zB, zC, Act.put, zD, zE, zF])
           refine upto_step (i := 15) (by kernel_rfl) rfl (fun K hK => ?_)
           go_simp
           refine hK _ _ (fun _ => (hSall _ (by with_reducible repeat (first | exact Below.refl _ _ | assumption | exact below_new _ _ | apply below_drewN | apply Below.drew | refine below_set (Nat.le_refl _) ?_ _ | (refine below_set ?_ ?_ _; omega) | refine Below.alloc ?_ (by first | omega | (simp; omega) | simp) _)))) ?_
           clear hK K
           (try simp only [zA, zB, zC, Act.put, zD, zE, zF])
           refine upto_done (by kernel_rfl) (NoPanic.normal ?_) _
           clear hSall
           refine name_world fun V hV => ?_
           have hbV : Below W.heap.size W V := by rw [hV]; exact (by with_reducible repeat (first | exact Below.refl _ _ | assumption | exact below_new _ _ | apply below_drewN | apply Below.drew | refine below_set (Nat.le_refl _) ?_ _ | (refine below_set ?_ ?_ _; omega) | refine Below.alloc ?_ (by first | omega | (simp; omega) | simp) _))
           have HxV := Lib.hid (show Below w2.heap.size w2 V from HxW.out.trans (hbV.mono HxW.out.size))
           have HNV := Lib.hid (show NetBlock V (w2.heap.size + 4) ⟨be, me, fe, bj, mj, fj, bs, ms, fs, bl, ml, fl, lq⟩ p w2.heap.size (w2.heap.size + 1) (w2.heap.size + 1 + 1) (w2.heap.size + 1 + 1 + 1) from HNW.out.same (hbV.block _ HNW.out.lt))
           have Hm1V := Lib.hid (show MapOf portCode Port.val V 43 w2.heap.size 1000 (nextOf p) from Hm1W.out.of_block (hbV.block _ Hm1W.out.lt))
           have Hm2V := Lib.hid (show MapOf portCode natVal V 43 (w2.heap.size + 1) 1000 (posP 0 (p.sigs.map (·.at_))) from Hm2W.out.of_block (hbV.block _ Hm2W.out.lt))
           have Hm3V := Lib.hid (show MapOf intCode pairVal V 3 (w2.heap.size + 1 + 1) n (lineFrom 0 (p.lines.take j)) from Hm3W.out.of_block (hbV.block _ Hm3W.out.lt))
           have Hm4V := Lib.hid (show MapOf intCode intVal V 3 (w2.heap.size + 1 + 1 + 1) n (leadIn (nextOf p) (p.lines.take j)) from Hm4W.out.of_block (hbV.block _ Hm4W.out.lt))
           have k1V : V.cell? ⟨wr.heap.size, 1, none⟩ = some (.slice (some ⟨pa, offa, none⟩) yn yc) := (hbV.cell (p := ⟨wr.heap.size, 1, none⟩) hwW).trans k1
           have ge1V := (hbV.cell (p := ⟨pa, offa + 1, none⟩) hpaW).trans ge1
           have kx : V.cell? ⟨W.heap.size, 0, none⟩ = some (.int .i64 x.e) := by rw [hV]; go_simp
           clear hV hbV k1 ge1 HxW HNW Hm1W Hm2W Hm3W Hm4W n9 hpaW
           go_wp2_with fail
           go_quiet (fail)
           first | refine name_code fun U hU => ?_ | refine name_world fun U hU => ?_
           have hbU : Below V.heap.size V U := by rw [hU]; exact (by with_reducible repeat (first | exact Below.refl _ _ | assumption | exact below_new _ _ | apply below_drewN | apply Below.drew | refine below_set (Nat.le_refl _) ?_ _ | (refine below_set ?_ ?_ _; omega) | refine Below.alloc ?_ (by first | omega | (simp; omega) | simp) _))
           have HxU := Lib.hid (show Below w2.heap.size w2 U from HxV.out.trans (hbU.mono HxV.out.size))
           have HNU := Lib.hid (show NetBlock U (w2.heap.size + 4) ⟨be, me, fe, bj, mj, fj, bs, ms, fs, bl, ml, fl, lq⟩ p w2.heap.size (w2.heap.size + 1) (w2.heap.size + 1 + 1) (w2.heap.size + 1 + 1 + 1) from HNV.out.same (hbU.block _ HNV.out.lt))
           have Hm1U := Lib.hid (show MapOf portCode Port.val U 43 w2.heap.size 1000 (nextOf p) from Hm1V.out.of_block (hbU.block _ Hm1V.out.lt))
           have Hm2U := Lib.hid (show MapOf portCode natVal U 43 (w2.heap.size + 1) 1000 (posP 0 (p.sigs.map (·.at_))) from Hm2V.out.of_block (hbU.block _ Hm2V.out.lt))
           have Hm3U := Lib.hid (show MapOf intCode pairVal U 3 (w2.heap.size + 1 + 1) n (lineFrom 0 (p.lines.take j)) from Hm3V.out.of_block (hbU.block _ Hm3V.out.lt))
           have Hm4U := Lib.hid (show MapOf intCode intVal U 3 (w2.heap.size + 1 + 1 + 1) n (leadIn (nextOf p) (p.lines.take j)) from Hm4V.out.of_block (hbU.block _ Hm4V.out.lt))
           have hwV : wr.heap.size < V.heap.size := block_lt_of_cell k1V
           have k1U : U.cell? ⟨wr.heap.size, 1, none⟩ = some (.slice (some ⟨pa, offa, none⟩) yn yc) := (hbU.cell (p := ⟨wr.heap.size, 1, none⟩) hwV).trans k1V
           clear hU hbU k1V ge1V hwV HxV HNV Hm1V Hm2V Hm3V Hm4V R1 kx
           go_wp2_with fail
           go_loopg [112, 12] yn (fun k i inn w' => ∃ (q m : Nat) (u : Int), q + k = yn ∧ i = .int .i64 q ∧ inn = .int .i64 u ∧ 0 ≤ u ∧ u ≤ 4 ∧ m ≤ 60 * j + q ∧ Hid ((leadList (nextOf p) yel).drop q = leadGo (nextOf p) u (yel.drop q)) ∧ NetBlock w' (w2.heap.size + 4) ⟨be, me, fe, bj, mj, fj, bs, ms, fs, bl, ml, fl, lq⟩ p w2.heap.size (w2.heap.size + 1) (w2.heap.size + 1 + 1) (w2.heap.size + 1 + 1 + 1) ∧ Below w2.heap.size w2 w' ∧
            MapOf portCode Port.val w' 43 w2.heap.size 1000 (nextOf p) ∧ MapOf portCode natVal w' 43 (w2.heap.size + 1) 1000 (posP 0 (p.sigs.map (·.at_))) ∧
            MapOf intCode pairVal w' 3 (w2.heap.size + 1 + 1) m (lineAt (p.lines.take j) yel q) ∧ MapOf intCode intVal w' 3 (w2.heap.size + 1 + 1 + 1) m (leadAt (nextOf p) (p.lines.take j) yel q))
           case atStart => exact ⟨0, n, 0, by omega, rfl, rfl, by omega, by omega, by omega, Lib.hid (by show leadGo _ (firstIn (nextOf p) yel) yel = _; rw [HF.out]; rfl), HNU.out, HxU.out, Hm1U.out, Hm2U.out, Hm3U.out.congr (fun z => lineAt_zero _ _ z), Hm4U.out.congr (fun z => leadAt_zero _ _ _ z)⟩
           case round =>
            clear HNU HxU Hm1U Hm2U Hm3U Hm4U HF
            obtain ⟨q, m, u, hk2, rfl, rfl, hu0, hu4, hm60, hld, hN, hx, hm1, hm2, hm3, hm4⟩ := hrel
            have Hk2 := Lib.hid hk2; clear hk2
            have HN := Lib.hid hN; clear hN
            have Hx := Lib.hid hx; clear hx
            have HmN := Lib.hid hm1
            have HmR := Lib.hid hm2
            have HmL := Lib.hid hm3
            have HmD := Lib.hid hm4
            clear hm1 hm2 hm3 hm4
            have ly := Lib.hid (show yel.length = yn from Hints.out.len)
            by_cases hlt2 : q < yn
            ·obtain ⟨e, he⟩ := get_some ly.out hlt2
             obtain ⟨hpa2, ge⟩ := Hints.out.int' he
             have ge := ((below_step Hb2.out Hx.out Hb2.out.size).cell (p := ⟨pa, offa + q, none⟩) hpa).trans ge
             have hel : inI e := (hP.out.fit.l _ (List.mem_of_getElem? HyL.out)).1 e (List.mem_of_getElem? he)
             have hfr := line_fresh G.out HyL.out he
             have hls := lead_step hld.out he
             have Hls := Lib.hid hls
             have He := Lib.hid he
             have hdl : (p.lines.take j).length = j := by have := (List.getElem?_eq_some_iff.1 HyL.out).1; simp; omega
             have hlk := Lib.hid (show lineAt (p.lines.take j) yel (q + 1) e = some (j, q) by rw [lineAt_key he hfr.1 hfr.2, hdl])
             have hdk := Lib.hid (show leadAt (nextOf p) (p.lines.take j) yel (q + 1) e = some u by rw [leadAt_key he hfr.1 hfr.2]; exact hls.1)
             have hml : m < maxLen := by simp only [maxLen]; have hjl := (List.getElem?_eq_some_iff.1 HyL.out).1; omega
             clear he hfr hls hld hdl
             have hub := endOf_bound G.out ⟨e, 1 - u⟩
             have Hub := Lib.hid hub
             have hport : Port.wf ⟨e, 1 - u⟩ := ⟨hel, inI_mk (by show _ ≤ 1 - u; omega) (by show 1 - u ≤ _; omega)⟩
             clear hub
             have n9 := HN.out.cell9
             have n11 := HN.out.cell11
             have n12 := HN.out.cell12
             have hs1 := HN.out.lt
             cases hnx : nextOf p ⟨e, 1 - u⟩ with
             | none =>
              have Hnx := Lib.hid hnx
              have hE := Lib.hid (show endOf (nextOf p) ⟨e, 1 - u⟩ = 0 by unfold endOf; rw [hnx]; rfl)
              clear hnx
              go_wp2_with fail
              refine wp_region_noPanic ?_
              refine region_upto (S := fun w' => w'.cell? ⟨w2.heap.size + 4, 11, none⟩ = some (.map (some (w2.heap.size + 1 + 1))) ∧ w'.cell? ⟨w2.heap.size + 4, 12, none⟩ = some (.map (some (w2.heap.size + 1 + 1 + 1)))) (n := 20) (by kernel_rfl) ?_
              have hS0 : wr.drew.cell? ⟨w2.heap.size + 4, 11, none⟩ = some (.map (some (w2.heap.size + 1 + 1))) ∧ wr.drew.cell? ⟨w2.heap.size + 4, 12, none⟩ = some (.map (some (w2.heap.size + 1 + 1 + 1))) := ⟨n11, n12⟩
              refine uk 0 (.pointer (some ⟨(w2.heap.size + 1 + 1 + 1 + 1), 0, none⟩)) ?_ hS0 ?_
              ·intro w' hSw
               (try dsimp only at hSw)
               go_simp
              (try simp only [zA, zC, Act.put, zD, zE, zF])
              refine uk 1 (.pointer (some ⟨(w2.heap.size + 1 + 1 + 1 + 1), 0, none⟩)) ?_ hS0 ?_
              ·intro w' hSw
               (try dsimp only at hSw)
               go_simp
              (try simp only [zA, zB, zC, Act.put, zD, zE, zF])
              refine uk 2 (.pointer (some ⟨(w2.heap.size + 1 + 1 + 1 + 1), 11, none⟩)) ?_ hS0 ?_
              ·intro w' hSw
               (try dsimp only at hSw)
               go_simp
              (try simp only [zA, zB, zC, Act.put, zD, zE, zF])
              refine uk 3 (.map (some (w2.heap.size + 1 + 1))) ?_ hS0 ?_
              ·intro w' hSw
               (try dsimp only at hSw)
               go_simp
              (try simp only [zA, zB, zC, Act.put, zD, zE, zF])
              refine uk 4 (.int .i64 e) ?_ hS0 ?_
              ·intro w' hSw
               (try dsimp only at hSw)
               go_simp
              (try simp only [zA, zB, zC, Act.put, zD, zE, zF])
              refine uk 5 (.pointer (some ⟨(w2.heap.size + 1 + 1 + 1 + 1), 0, none⟩)) ?_ hS0 ?_
              ·intro w' hSw
               (try dsimp only at hSw)
               go_simp
              (try simp only [zA, zB, zC, Act.put, zD, zE, zF])
              refine uk 6 (.pointer (some ⟨(w2.heap.size + 1 + 1 + 1 + 1), 0, none⟩)) ?_ hS0 ?_
              ·intro w' hSw
               (try dsimp only at hSw)
               go_simp
              (try simp only [zA, zB, zC, Act.put, zD, zE, zF])
              refine uk 7 (.pointer (some ⟨(w2.heap.size + 1 + 1 + 1 + 1), 12, none⟩)) ?_ hS0 ?_
              ·intro w' hSw
               (try dsimp only at hSw)
               go_simp
              (try simp only [zA, zB, zC, Act.put, zD, zE, zF])
              refine uk 8 (.map (some (w2.heap.size + 1 + 1 + 1))) ?_ hS0 ?_
              ·intro w' hSw
               (try dsimp only at hSw)
               go_simp
              (try simp only [zA, zB, zC, Act.put, zD, zE, zF])
              refine uk 9 (.int .i64 e) ?_ hS0 ?_
              ·intro w' hSw
               (try dsimp only at hSw)
               go_simp
              (try simp only [zA, zB, zC, Act.put, zD, zE, zF])
              refine uk 10 (.int .i64 (j : Int)) ?_ hS0 ?_
              ·intro w' hSw
               (try dsimp only at hSw)
               go_simp
              (try simp only [zA, zB, zC, Act.put, zD, zE, zF])
              refine uk 11 (.int .i64 (q : Int)) ?_ hS0 ?_
              ·intro w' hSw
               (try dsimp only at hSw)
               go_simp
              (try simp only [zA, zB, zC, Act.put, zD, zE, zF])
              refine uk 12 (.agg #[.int .i64 (j : Int), .int .i64 (q : Int)]) ?_ hS0 ?_
              ·intro w' hSw
               (try dsimp only at hSw)
               go_simp
              (try simp only [zA, zB, zC, Act.put, zD, zE, zF])
              refine uk 13 (.int .i64 u) ?_ hS0 ?_
              ·intro w' hSw
               (try dsimp only at hSw)
               go_simp
              (try simp only [zA, zB, zC, Act.put, zD, zE, zF])
              have hq := HmL.out.drew.entry (lineAt (p.lines.take j) yel (q + 1)) (x := e) (y := (j, q)) hlk.out (fun z hz => lineAt_other He.out hz) hml keyed_int Tryz.underlying89 zero_pair (key_int hel)
              obtain ⟨vwb, hq⟩ := hq
              obtain ⟨stwb, hq⟩ := hq
              obtain ⟨wa, hq⟩ := hq
              obtain ⟨wb, hq⟩ := hq
              obtain ⟨r1, hq⟩ := hq
              obtain ⟨g1wb, hq⟩ := hq
              obtain ⟨r2, hq⟩ := hq
              obtain ⟨g2wb, hmwb⟩ := hq
              have r1 : (Instr.mapEntry 89 (.map (some (w2.heap.size + 1 + 1))) (.int .i64 e)).run Tryz.prog wr.drew = .ok (.tuple #[vwb, goInt stwb]) wa := r1
              have r2 : (Instr.entryStore 89 (.map (some (w2.heap.size + 1 + 1))) (goInt stwb) (.agg #[.int .i64 (j : Int), .int .i64 (q : Int)])).run Tryz.prog wa = .ok () wb := r2
              have hS1 := keep2 hS0 g1wb (by omega)
              refine upto_entry (i := 14) (mv := .map (some (w2.heap.size + 1 + 1))) (key := .int .i64 e) (r := .tuple #[vwb, goInt stwb]) (w1 := wa) ?zz1 rfl ?zz3 (.tmp 120) (.tmp 121) 89 ?zz4 ?zz5 ?zz6 ?zz7 (fun _ => hS1) ?_
              case zz1 => kernel_rfl
              case zz3 => exact rfl
              case zz4 => exact rfl
              case zz5 => exact rfl
              case zz6 => exact rfl
              case zz7 => exact r1
              (try simp only [zA, zB, zC, Act.put, zD, zE, zF])
              refine uk 15 (goInt stwb) ?_ hS1 ?_
              ·intro w' hSw
               (try dsimp only at hSw)
               go_simp
              (try simp only [zA, zB, zC, Act.put, zD, zE, zF])
              have hSwb := keep2 hS0 g2wb (by omega)
              refine upto_estore (i := 16) (mv := .map (some (w2.heap.size + 1 + 1))) (st := goInt stwb) (val := .agg #[.int .i64 (j : Int), .int .i64 (q : Int)]) (w1 := wb) (by kernel_rfl) rfl rfl (.tmp 120) (.tmp 132) (.tmp 129) 89 rfl rfl rfl rfl r2 (fun _ => hSwb) ?_
              clear r1 r2 hS1
              (try simp only [zA, zB, zC, Act.put])
              have hq := (HmD.out.drew.kept g2wb (by simp <;> omega)).entry (leadAt (nextOf p) (p.lines.take j) yel (q + 1)) (x := e) (y := u) hdk.out (fun z hz => leadAt_other He.out hz) hml keyed_int Tryz.underlying90 zero_int' (key_int hel)
              obtain ⟨vwd, hq⟩ := hq
              obtain ⟨stwd, hq⟩ := hq
              obtain ⟨wc, hq⟩ := hq
              obtain ⟨wd, hq⟩ := hq
              obtain ⟨r1, hq⟩ := hq
              obtain ⟨g1wd, hq⟩ := hq
              obtain ⟨r2, hq⟩ := hq
              obtain ⟨g2wd, hmwd⟩ := hq
              have r1 : (Instr.mapEntry 90 (.map (some (w2.heap.size + 1 + 1 + 1))) (.int .i64 e)).run Tryz.prog wb = .ok (.tuple #[vwd, goInt stwd]) wc := r1
              have r2 : (Instr.entryStore 90 (.map (some (w2.heap.size + 1 + 1 + 1))) (goInt stwd) (.int .i64 u)).run Tryz.prog wc = .ok () wd := r2
              have hS1 := keep2 hSwb g1wd (by omega)
              refine upto_entry (i := 17) (mv := .map (some (w2.heap.size + 1 + 1 + 1))) (key := .int .i64 e) (r := .tuple #[vwd, goInt stwd]) (w1 := wc) ?zz1 rfl ?zz3 (.tmp 125) (.tmp 126) 90 ?zz4 ?zz5 ?zz6 ?zz7 (fun _ => hS1) ?_
              case zz1 => kernel_rfl
              case zz3 => exact rfl
              case zz4 => exact rfl
              case zz5 => exact rfl
              case zz6 => exact rfl
              case zz7 => exact r1
              (try simp only [zA, zB, zC, Act.put, zD, zE, zF])
              refine uk 18 (goInt stwd) ?_ hS1 ?_
              ·intro w' hSw
               (try dsimp only at hSw)
               go_simp
              (try simp only [zA, zB, zC, Act.put, zD, zE, zF])
              have hSwd := keep2 hSwb g2wd (by omega)
              refine upto_estore (i := 19) (mv := .map (some (w2.heap.size + 1 + 1 + 1))) (st := goInt stwd) (val := .int .i64 u) (w1 := wd) (by kernel_rfl) rfl rfl (.tmp 125) (.tmp 134) (.tmp 130) 90 rfl rfl rfl rfl r2 (fun _ => hSwd) ?_
              clear r1 r2 hS1
              (try simp only [zA, zB, zC, Act.put])
              refine upto_done (by kernel_rfl) (NoPanic.normal ?_) _
              have R2 := ((HmN.out.drew.kept g2wb (by simp <;> omega)).kept g2wd (by simp <;> omega)).look_miss Hnx.out keyed_port Tryz.underlying87 zero_port (key_port hport)
              have R2 : (Instr.lookup 87 (.map (some w2.heap.size)) (.agg #[.int .i64 e, .int .i64 (1 - u)]) false).run Tryz.prog wd = .ok (.agg #[.int .i64 0, .int .i64 0]) wd := R2.1
              have HNd := Lib.hid ((HN.out.grown (w' := wb) ⟨g2wb.os, g2wb.tape, g2wb.output, g2wb.size, g2wb.block⟩ (fun e => by have := Option.some.inj e; omega)).grown g2wd (fun e => by have := Option.some.inj e; omega))
              have hbW : w2.heap.size ≤ wr.drew.heap.size := Hx.out.size
              have Hxb := (Hx.out.drew.grown g2wb hbW (by intro k hk; cases hk; omega))
              have Hxd := Lib.hid (Hxb.grown g2wd Hxb.size (by intro k hk; cases hk; omega))
              have HmNd := Lib.hid ((HmN.out.drew.kept g2wb (by simp <;> omega)).kept g2wd (by simp <;> omega))
              have HmRd := Lib.hid ((HmR.out.drew.kept g2wb (by simp <;> omega)).kept g2wd (by simp <;> omega))
              have HmLd := Lib.hid (hmwb.kept g2wd (by simp <;> omega))
              have HmDd := Lib.hid hmwd
              have n9d := HNd.out.cell9
              have hfd := run_fend
              clear hmwb hmwd hSwb hSwd g1wb g1wd g2wb g2wd Hxb n9 n11 n12 hS0
              go_wp2_with fail
              go_roundg (gk - 1)
              case measure => have := Hk2.out; omega
              case rel => exact ⟨q + 1, m + 1, 0, by have := Hk2.out; omega, by go_num, rfl, by have h7 := Hub.out; rw [hE.out] at h7; exact h7.1, by have h7 := Hub.out; rw [hE.out] at h7; exact h7.2, by omega, Lib.hid (by have h7 := Hls.out.2; rw [hE.out] at h7; exact h7), HNd.out, Hxd.out, HmNd.out, HmRd.out, HmLd.out, HmDd.out⟩
             | some x =>
              have Hnx := Lib.hid hnx
              have hE := Lib.hid (show endOf (nextOf p) ⟨e, 1 - u⟩ = x.n by unfold endOf; rw [hnx]; rfl)
              clear hnx
              go_wp2_with fail
              refine wp_region_noPanic ?_
              refine region_upto (S := fun w' => w'.cell? ⟨w2.heap.size + 4, 11, none⟩ = some (.map (some (w2.heap.size + 1 + 1))) ∧ w'.cell? ⟨w2.heap.size + 4, 12, none⟩ = some (.map (some (w2.heap.size + 1 + 1 + 1)))) (n := 20) (by kernel_rfl) ?_
              have hS0 : wr.drew.cell? ⟨w2.heap.size + 4, 11, none⟩ = some (.map (some (w2.heap.size + 1 + 1))) ∧ wr.drew.cell? ⟨w2.heap.size + 4, 12, none⟩ = some (.map (some (w2.heap.size + 1 + 1 + 1))) := ⟨n11, n12⟩
              refine uk 0 (.pointer (some ⟨(w2.heap.size + 1 + 1 + 1 + 1), 0, none⟩)) ?_ hS0 ?_
              ·intro w' hSw
               (try dsimp only at hSw)
               go_simp
              (try simp only [zA, zC, Act.put, zD, zE, zF])
              refine uk 1 (.pointer (some ⟨(w2.heap.size + 1 + 1 + 1 + 1), 0, none⟩)) ?_ hS0 ?_
              ·intro w' hSw
               (try dsimp only at hSw)
               go_simp
              (try simp only [zA, zB, zC, Act.put, zD, zE, zF])
              refine uk 2 (.pointer (some ⟨(w2.heap.size + 1 + 1 + 1 + 1), 11, none⟩)) ?_ hS0 ?_
              ·intro w' hSw
               (try dsimp only at hSw)
               go_simp
              (try simp only [zA, zB, zC, Act.put, zD, zE, zF])
              refine uk 3 (.map (some (w2.heap.size + 1 + 1))) ?_ hS0 ?_
              ·intro w' hSw
               (try dsimp only at hSw)
               go_simp
              (try simp only [zA, zB, zC, Act.put, zD, zE, zF])
              refine uk 4 (.int .i64 e) ?_ hS0 ?_
              ·intro w' hSw
               (try dsimp only at hSw)
               go_simp
              (try simp only [zA, zB, zC, Act.put, zD, zE, zF])
              refine uk 5 (.pointer (some ⟨(w2.heap.size + 1 + 1 + 1 + 1), 0, none⟩)) ?_ hS0 ?_
              ·intro w' hSw
               (try dsimp only at hSw)
               go_simp
              (try simp only [zA, zB, zC, Act.put, zD, zE, zF])
              refine uk 6 (.pointer (some ⟨(w2.heap.size + 1 + 1 + 1 + 1), 0, none⟩)) ?_ hS0 ?_
              ·intro w' hSw
               (try dsimp only at hSw)
               go_simp
              (try simp only [zA, zB, zC, Act.put, zD, zE, zF])
              refine uk 7 (.pointer (some ⟨(w2.heap.size + 1 + 1 + 1 + 1), 12, none⟩)) ?_ hS0 ?_
              ·intro w' hSw
               (try dsimp only at hSw)
               go_simp
              (try simp only [zA, zB, zC, Act.put, zD, zE, zF])
              refine uk 8 (.map (some (w2.heap.size + 1 + 1 + 1))) ?_ hS0 ?_
              ·intro w' hSw
               (try dsimp only at hSw)
               go_simp
              (try simp only [zA, zB, zC, Act.put, zD, zE, zF])
              refine uk 9 (.int .i64 e) ?_ hS0 ?_
              ·intro w' hSw
               (try dsimp only at hSw)
               go_simp
              (try simp only [zA, zB, zC, Act.put, zD, zE, zF])
              refine uk 10 (.int .i64 (j : Int)) ?_ hS0 ?_
              ·intro w' hSw
               (try dsimp only at hSw)
               go_simp
              (try simp only [zA, zB, zC, Act.put, zD, zE, zF])
              refine uk 11 (.int .i64 (q : Int)) ?_ hS0 ?_
              ·intro w' hSw
               (try dsimp only at hSw)
               go_simp
              (try simp only [zA, zB, zC, Act.put, zD, zE, zF])
              refine uk 12 (.agg #[.int .i64 (j : Int), .int .i64 (q : Int)]) ?_ hS0 ?_
              ·intro w' hSw
               (try dsimp only at hSw)
               go_simp
              (try simp only [zA, zB, zC, Act.put, zD, zE, zF])
              refine uk 13 (.int .i64 u) ?_ hS0 ?_
              ·intro w' hSw
               (try dsimp only at hSw)
               go_simp
              (try simp only [zA, zB, zC, Act.put, zD, zE, zF])
              have hq := HmL.out.drew.entry (lineAt (p.lines.take j) yel (q + 1)) (x := e) (y := (j, q)) hlk.out (fun z hz => lineAt_other He.out hz) hml keyed_int Tryz.underlying89 zero_pair (key_int hel)
              obtain ⟨vwb, hq⟩ := hq
              obtain ⟨stwb, hq⟩ := hq
              obtain ⟨wa, hq⟩ := hq
              obtain ⟨wb, hq⟩ := hq
              obtain ⟨r1, hq⟩ := hq
              obtain ⟨g1wb, hq⟩ := hq
              obtain ⟨r2, hq⟩ := hq
              obtain ⟨g2wb, hmwb⟩ := hq
              have r1 : (Instr.mapEntry 89 (.map (some (w2.heap.size + 1 + 1))) (.int .i64 e)).run Tryz.prog wr.drew = .ok (.tuple #[vwb, goInt stwb]) wa := r1
              have r2 : (Instr.entryStore 89 (.map (some (w2.heap.size + 1 + 1))) (goInt stwb) (.agg #[.int .i64 (j : Int), .int .i64 (q : Int)])).run Tryz.prog wa = .ok () wb := r2
              have hS1 := keep2 hS0 g1wb (by omega)
              refine upto_entry (i := 14) (mv := .map (some (w2.heap.size + 1 + 1))) (key := .int .i64 e) (r := .tuple #[vwb, goInt stwb]) (w1 := wa) ?zz1 rfl ?zz3 (.tmp 120) (.tmp 121) 89 ?zz4 ?zz5 ?zz6 ?zz7 (fun _ => hS1) ?_
              case zz1 => kernel_rfl
              case zz3 => exact rfl
              case zz4 => exact rfl
              case zz5 => exact rfl
              case zz6 => exact rfl
              case zz7 => exact r1
              (try simp only [zA, zB, zC, Act.put, zD, zE, zF])
              refine uk 15 (goInt stwb) ?_ hS1 ?_
              ·intro w' hSw
               (try dsimp only at hSw)
               go_simp
              (try simp only [zA, zB, zC, Act.put, zD, zE, zF])
              have hSwb := keep2 hS0 g2wb (by omega)
              refine upto_estore (i := 16) (mv := .map (some (w2.heap.size + 1 + 1))) (st := goInt stwb) (val := .agg #[.int .i64 (j : Int), .int .i64 (q : Int)]) (w1 := wb) (by kernel_rfl) rfl rfl (.tmp 120) (.tmp 132) (.tmp 129) 89 rfl rfl rfl rfl r2 (fun _ => hSwb) ?_
              clear r1 r2 hS1
              (try simp only [zA, zB, zC, Act.put])
              have hq := (HmD.out.drew.kept g2wb (by simp <;> omega)).entry (leadAt (nextOf p) (p.lines.take j) yel (q + 1)) (x := e) (y := u) hdk.out (fun z hz => leadAt_other He.out hz) hml keyed_int Tryz.underlying90 zero_int' (key_int hel)
              obtain ⟨vwd, hq⟩ := hq
              obtain ⟨stwd, hq⟩ := hq
              obtain ⟨wc, hq⟩ := hq
              obtain ⟨wd, hq⟩ := hq
              obtain ⟨r1, hq⟩ := hq
              obtain ⟨g1wd, hq⟩ := hq
              obtain ⟨r2, hq⟩ := hq
              obtain ⟨g2wd, hmwd⟩ := hq
              have r1 : (Instr.mapEntry 90 (.map (some (w2.heap.size + 1 + 1 + 1))) (.int .i64 e)).run Tryz.prog wb = .ok (.tuple #[vwd, goInt stwd]) wc := r1
              have r2 : (Instr.entryStore 90 (.map (some (w2.heap.size + 1 + 1 + 1))) (goInt stwd) (.int .i64 u)).run Tryz.prog wc = .ok () wd := r2
              have hS1 := keep2 hSwb g1wd (by omega)
              refine upto_entry (i := 17) (mv := .map (some (w2.heap.size + 1 + 1 + 1))) (key := .int .i64 e) (r := .tuple #[vwd, goInt stwd]) (w1 := wc) ?zz1 rfl ?zz3 (.tmp 125) (.tmp 126) 90 ?zz4 ?zz5 ?zz6 ?zz7 (fun _ => hS1) ?_
              case zz1 => kernel_rfl
              case zz3 => exact rfl
              case zz4 => exact rfl
              case zz5 => exact rfl
              case zz6 => exact rfl
              case zz7 => exact r1
              (try simp only [zA, zB, zC, Act.put, zD, zE, zF])
              refine uk 18 (goInt stwd) ?_ hS1 ?_
              ·intro w' hSw
               (try dsimp only at hSw)
               go_simp
              (try simp only [zA, zB, zC, Act.put, zD, zE, zF])
              have hSwd := keep2 hSwb g2wd (by omega)
              refine upto_estore (i := 19) (mv := .map (some (w2.heap.size + 1 + 1 + 1))) (st := goInt stwd) (val := .int .i64 u) (w1 := wd) (by kernel_rfl) rfl rfl (.tmp 125) (.tmp 134) (.tmp 130) 90 rfl rfl rfl rfl r2 (fun _ => hSwd) ?_
              clear r1 r2 hS1
              (try simp only [zA, zB, zC, Act.put])
              refine upto_done (by kernel_rfl) (NoPanic.normal ?_) _
              have R2 := ((HmN.out.drew.kept g2wb (by simp <;> omega)).kept g2wd (by simp <;> omega)).look_hit Hnx.out keyed_port Tryz.underlying87 zero_port (key_port hport)
              have R2 : (Instr.lookup 87 (.map (some w2.heap.size)) (.agg #[.int .i64 e, .int .i64 (1 - u)]) false).run Tryz.prog wd = .ok (.agg #[.int .i64 x.e, .int .i64 x.n]) wd := R2.1
              have HNd := Lib.hid ((HN.out.grown (w' := wb) ⟨g2wb.os, g2wb.tape, g2wb.output, g2wb.size, g2wb.block⟩ (fun e => by have := Option.some.inj e; omega)).grown g2wd (fun e => by have := Option.some.inj e; omega))
              have hbW : w2.heap.size ≤ wr.drew.heap.size := Hx.out.size
              have Hxb := (Hx.out.drew.grown g2wb hbW (by intro k hk; cases hk; omega))
              have Hxd := Lib.hid (Hxb.grown g2wd Hxb.size (by intro k hk; cases hk; omega))
              have HmNd := Lib.hid ((HmN.out.drew.kept g2wb (by simp <;> omega)).kept g2wd (by simp <;> omega))
              have HmRd := Lib.hid ((HmR.out.drew.kept g2wb (by simp <;> omega)).kept g2wd (by simp <;> omega))
              have HmLd := Lib.hid (hmwb.kept g2wd (by simp <;> omega))
              have HmDd := Lib.hid hmwd
              have n9d := HNd.out.cell9
              have hfd := run_fend
              clear hmwb hmwd hSwb hSwd g1wb g1wd g2wb g2wd Hxb n9 n11 n12 hS0
              go_wp2_with fail
              go_roundg (gk - 1)
              case measure => have := Hk2.out; omega
              case rel => exact ⟨q + 1, m + 1, x.n, by have := Hk2.out; omega, by go_num, rfl, by have h7 := Hub.out; rw [hE.out] at h7; exact h7.1, by have h7 := Hub.out; rw [hE.out] at h7; exact h7.2, by omega, Lib.hid (by have h7 := Hls.out.2; rw [hE.out] at h7; exact h7), HNd.out, Hxd.out, HmNd.out, HmRd.out, HmLd.out, HmDd.out⟩
            ·have hqe := Lib.hid (show q = yel.length by have := Hk2.out; have := ly.out; omega)
             go_wp2_with fail
             go_roundg (nl - j - 1)
             case measure => have := Hk.out; omega
             case rel => exact ⟨j + 1, m, by have := Hk.out; omega, by go_num, by have := Hk2.out; omega, HN.out, Hx.out, HmN.out, HmR.out, HmL.out.congr (fun z => by rw [take_next HyL.out, hqe.out]; exact (lineAt_end (p.lines.take j) ⟨nm, yel⟩ z).symm), HmD.out.congr (fun z => by rw [take_next HyL.out, hqe.out]; exact leadIn_snoc (nextOf p) (p.lines.take j) ⟨nm, yel⟩ z)⟩
        ·have hy2 : ¬ ((1 : Int) < (yn : Int)) := by omega
         have HF := Lib.hid (first_short (nx := nextOf p) (l := yel) (by have h6 : yel.length = yn := Hints.out.len; omega))
         obtain ⟨U, hU⟩ : ∃ U : World, U = wr.alloc (.cells #[.string nm, .slice ya yn yc] 96) := ⟨_, rfl⟩
         have HxU := Lib.hid (show Below w2.heap.size w2 U by rw [hU]; exact Hx.out.alloc Hx.out.size _)
         have HNU := Lib.hid (show NetBlock U (w2.heap.size + 4) ⟨be, me, fe, bj, mj, fj, bs, ms, fs, bl, ml, fl, lq⟩ p w2.heap.size (w2.heap.size + 1) (w2.heap.size + 1 + 1) (w2.heap.size + 1 + 1 + 1) from by rw [hU]; exact HN.out.alloc _)
         have Hm1U := Lib.hid (show MapOf portCode Port.val U 43 w2.heap.size 1000 (nextOf p) from by rw [hU]; exact Hm1.out.alloc _)
         have Hm2U := Lib.hid (show MapOf portCode natVal U 43 (w2.heap.size + 1) 1000 (posP 0 (p.sigs.map (·.at_))) from by rw [hU]; exact Hm2.out.alloc _)
         have Hm3U := Lib.hid (show MapOf intCode pairVal U 3 (w2.heap.size + 1 + 1) n (lineFrom 0 (p.lines.take j)) from by rw [hU]; exact Hm3.out.alloc _)
         have Hm4U := Lib.hid (show MapOf intCode intVal U 3 (w2.heap.size + 1 + 1 + 1) n (leadIn (nextOf p) (p.lines.take j)) from by rw [hU]; exact Hm4.out.alloc _)
         subst hU
         have hwrH := HN.out.lt
         go_wp2_with fail
         go_loopg [112, 12] yn (fun k i inn w' => ∃ (q m : Nat) (u : Int), q + k = yn ∧ i = .int .i64 q ∧ inn = .int .i64 u ∧ 0 ≤ u ∧ u ≤ 4 ∧ m ≤ 60 * j + q ∧ Hid ((leadList (nextOf p) yel).drop q = leadGo (nextOf p) u (yel.drop q)) ∧ NetBlock w' (w2.heap.size + 4) ⟨be, me, fe, bj, mj, fj, bs, ms, fs, bl, ml, fl, lq⟩ p w2.heap.size (w2.heap.size + 1) (w2.heap.size + 1 + 1) (w2.heap.size + 1 + 1 + 1) ∧ Below w2.heap.size w2 w' ∧
          MapOf portCode Port.val w' 43 w2.heap.size 1000 (nextOf p) ∧ MapOf portCode natVal w' 43 (w2.heap.size + 1) 1000 (posP 0 (p.sigs.map (·.at_))) ∧
          MapOf intCode pairVal w' 3 (w2.heap.size + 1 + 1) m (lineAt (p.lines.take j) yel q) ∧ MapOf intCode intVal w' 3 (w2.heap.size + 1 + 1 + 1) m (leadAt (nextOf p) (p.lines.take j) yel q))
         case atStart => exact ⟨0, n, 0, by omega, rfl, rfl, by omega, by omega, by omega, Lib.hid (by show leadGo _ (firstIn (nextOf p) yel) yel = _; rw [HF.out]; rfl), HNU.out, HxU.out, Hm1U.out, Hm2U.out, Hm3U.out.congr (fun z => lineAt_zero _ _ z), Hm4U.out.congr (fun z => leadAt_zero _ _ _ z)⟩
         case round =>
          clear HNU HxU Hm1U Hm2U Hm3U Hm4U HF
          obtain ⟨q, m, u, hk2, rfl, rfl, hu0, hu4, hm60, hld, hN, hx, hm1, hm2, hm3, hm4⟩ := hrel
          have Hk2 := Lib.hid hk2; clear hk2
          have HN := Lib.hid hN; clear hN
          have Hx := Lib.hid hx; clear hx
          have HmN := Lib.hid hm1
          have HmR := Lib.hid hm2
          have HmL := Lib.hid hm3
          have HmD := Lib.hid hm4
          clear hm1 hm2 hm3 hm4
          have ly := Lib.hid (show yel.length = yn from Hints.out.len)
          by_cases hlt2 : q < yn
          ·obtain ⟨e, he⟩ := get_some ly.out hlt2
           obtain ⟨pa, offa, rfl, hpa, ge⟩ := Hints.out.int he
           have ge := ((below_step Hb2.out Hx.out Hb2.out.size).cell (p := ⟨pa, offa + q, none⟩) hpa).trans ge
           have hel : inI e := (hP.out.fit.l _ (List.mem_of_getElem? HyL.out)).1 e (List.mem_of_getElem? he)
           have hfr := line_fresh G.out HyL.out he
           have hls := lead_step hld.out he
           have Hls := Lib.hid hls
           have He := Lib.hid he
           have hdl : (p.lines.take j).length = j := by have := (List.getElem?_eq_some_iff.1 HyL.out).1; simp; omega
           have hlk := Lib.hid (show lineAt (p.lines.take j) yel (q + 1) e = some (j, q) by rw [lineAt_key he hfr.1 hfr.2, hdl])
           have hdk := Lib.hid (show leadAt (nextOf p) (p.lines.take j) yel (q + 1) e = some u by rw [leadAt_key he hfr.1 hfr.2]; exact hls.1)
           have hml : m < maxLen := by simp only [maxLen]; have hjl := (List.getElem?_eq_some_iff.1 HyL.out).1; omega
           clear he hfr hls hld hdl
           have hub := endOf_bound G.out ⟨e, 1 - u⟩
           have Hub := Lib.hid hub
           have hport : Port.wf ⟨e, 1 - u⟩ := ⟨hel, inI_mk (by show _ ≤ 1 - u; omega) (by show 1 - u ≤ _; omega)⟩
           clear hub
           have n9 := HN.out.cell9
           have n11 := HN.out.cell11
           have n12 := HN.out.cell12
           have hs1 := HN.out.lt
           cases hnx : nextOf p ⟨e, 1 - u⟩ with
           | none =>
            have Hnx := Lib.hid hnx
            have hE := Lib.hid (show endOf (nextOf p) ⟨e, 1 - u⟩ = 0 by unfold endOf; rw [hnx]; rfl)
            clear hnx
            go_wp2_with fail
            refine wp_region_noPanic ?_
            refine region_upto (S := fun w' => w'.cell? ⟨w2.heap.size + 4, 11, none⟩ = some (.map (some (w2.heap.size + 1 + 1))) ∧ w'.cell? ⟨w2.heap.size + 4, 12, none⟩ = some (.map (some (w2.heap.size + 1 + 1 + 1)))) (n := 20) (by kernel_rfl) ?_
            have hS0 : wr.drew.cell? ⟨w2.heap.size + 4, 11, none⟩ = some (.map (some (w2.heap.size + 1 + 1))) ∧ wr.drew.cell? ⟨w2.heap.size + 4, 12, none⟩ = some (.map (some (w2.heap.size + 1 + 1 + 1))) := ⟨n11, n12⟩
            refine uk 0 (.pointer (some ⟨(w2.heap.size + 1 + 1 + 1 + 1), 0, none⟩)) ?_ hS0 ?_
            ·intro w' hSw
             (try dsimp only at hSw)
             go_simp
            (try simp only [zA, zC, Act.put, zD, zE, zF])
            refine uk 1 (.pointer (some ⟨(w2.heap.size + 1 + 1 + 1 + 1), 0, none⟩)) ?_ hS0 ?_
            ·intro w' hSw
             (try dsimp only at hSw)
             go_simp
            (try simp only [zA, zB, zC, Act.put, zD, zE, zF])
            refine uk 2 (.pointer (some ⟨(w2.heap.size + 1 + 1 + 1 + 1), 11, none⟩)) ?_ hS0 ?_
            ·intro w' hSw
             (try dsimp only at hSw)
             go_simp
            (try simp only [zA, zB, zC, Act.put, zD, zE, zF])
            refine uk 3 (.map (some (w2.heap.size + 1 + 1))) ?_ hS0 ?_
            ·intro w' hSw
             (try dsimp only at hSw)
             go_simp
            (try simp only [zA, zB, zC, Act.put, zD, zE, zF])
            refine uk 4 (.int .i64 e) ?_ hS0 ?_
            ·intro w' hSw
             (try dsimp only at hSw)
             go_simp
            (try simp only [zA, zB, zC, Act.put, zD, zE, zF])
            refine uk 5 (.pointer (some ⟨(w2.heap.size + 1 + 1 + 1 + 1), 0, none⟩)) ?_ hS0 ?_
            ·intro w' hSw
             (try dsimp only at hSw)
             go_simp
            (try simp only [zA, zB, zC, Act.put, zD, zE, zF])
            refine uk 6 (.pointer (some ⟨(w2.heap.size + 1 + 1 + 1 + 1), 0, none⟩)) ?_ hS0 ?_
            ·intro w' hSw
             (try dsimp only at hSw)
             go_simp
            (try simp only [zA, zB, zC, Act.put, zD, zE, zF])
            refine uk 7 (.pointer (some ⟨(w2.heap.size + 1 + 1 + 1 + 1), 12, none⟩)) ?_ hS0 ?_
            ·intro w' hSw
             (try dsimp only at hSw)
             go_simp
            (try simp only [zA, zB, zC, Act.put, zD, zE, zF])
            refine uk 8 (.map (some (w2.heap.size + 1 + 1 + 1))) ?_ hS0 ?_
            ·intro w' hSw
             (try dsimp only at hSw)
             go_simp
            (try simp only [zA, zB, zC, Act.put, zD, zE, zF])
            refine uk 9 (.int .i64 e) ?_ hS0 ?_
            ·intro w' hSw
             (try dsimp only at hSw)
             go_simp
            (try simp only [zA, zB, zC, Act.put, zD, zE, zF])
            refine uk 10 (.int .i64 (j : Int)) ?_ hS0 ?_
            ·intro w' hSw
             (try dsimp only at hSw)
             go_simp
            (try simp only [zA, zB, zC, Act.put, zD, zE, zF])
            refine uk 11 (.int .i64 (q : Int)) ?_ hS0 ?_
            ·intro w' hSw
             (try dsimp only at hSw)
             go_simp
            (try simp only [zA, zB, zC, Act.put, zD, zE, zF])
            refine uk 12 (.agg #[.int .i64 (j : Int), .int .i64 (q : Int)]) ?_ hS0 ?_
            ·intro w' hSw
             (try dsimp only at hSw)
             go_simp
            (try simp only [zA, zB, zC, Act.put, zD, zE, zF])
            refine uk 13 (.int .i64 u) ?_ hS0 ?_
            ·intro w' hSw
             (try dsimp only at hSw)
             go_simp
            (try simp only [zA, zB, zC, Act.put, zD, zE, zF])
            have hq := HmL.out.drew.entry (lineAt (p.lines.take j) yel (q + 1)) (x := e) (y := (j, q)) hlk.out (fun z hz => lineAt_other He.out hz) hml keyed_int Tryz.underlying89 zero_pair (key_int hel)
            obtain ⟨vwb, hq⟩ := hq
            obtain ⟨stwb, hq⟩ := hq
            obtain ⟨wa, hq⟩ := hq
            obtain ⟨wb, hq⟩ := hq
            obtain ⟨r1, hq⟩ := hq
            obtain ⟨g1wb, hq⟩ := hq
            obtain ⟨r2, hq⟩ := hq
            obtain ⟨g2wb, hmwb⟩ := hq
            have r1 : (Instr.mapEntry 89 (.map (some (w2.heap.size + 1 + 1))) (.int .i64 e)).run Tryz.prog wr.drew = .ok (.tuple #[vwb, goInt stwb]) wa := r1
            have r2 : (Instr.entryStore 89 (.map (some (w2.heap.size + 1 + 1))) (goInt stwb) (.agg #[.int .i64 (j : Int), .int .i64 (q : Int)])).run Tryz.prog wa = .ok () wb := r2
            have hS1 := keep2 hS0 g1wb (by omega)
            refine upto_entry (i := 14) (mv := .map (some (w2.heap.size + 1 + 1))) (key := .int .i64 e) (r := .tuple #[vwb, goInt stwb]) (w1 := wa) ?zz1 rfl ?zz3 (.tmp 120) (.tmp 121) 89 ?zz4 ?zz5 ?zz6 ?zz7 (fun _ => hS1) ?_
            case zz1 => kernel_rfl
            case zz3 => exact rfl
            case zz4 => exact rfl
            case zz5 => exact rfl
            case zz6 => exact rfl
            case zz7 => exact r1
            (try simp only [zA, zB, zC, Act.put, zD, zE, zF])
            refine uk 15 (goInt stwb) ?_ hS1 ?_
            ·intro w' hSw
             (try dsimp only at hSw)
             go_simp
            (try simp only [zA, zB, zC, Act.put, zD, zE, zF])
            have hSwb := keep2 hS0 g2wb (by omega)
            refine upto_estore (i := 16) (mv := .map (some (w2.heap.size + 1 + 1))) (st := goInt stwb) (val := .agg #[.int .i64 (j : Int), .int .i64 (q : Int)]) (w1 := wb) (by kernel_rfl) rfl rfl (.tmp 120) (.tmp 132) (.tmp 129) 89 rfl rfl rfl rfl r2 (fun _ => hSwb) ?_
            clear r1 r2 hS1
            (try simp only [zA, zB, zC, Act.put])
            have hq := (HmD.out.drew.kept g2wb (by simp <;> omega)).entry (leadAt (nextOf p) (p.lines.take j) yel (q + 1)) (x := e) (y := u) hdk.out (fun z hz => leadAt_other He.out hz) hml keyed_int Tryz.underlying90 zero_int' (key_int hel)
            obtain ⟨vwd, hq⟩ := hq
            obtain ⟨stwd, hq⟩ := hq
            obtain ⟨wc, hq⟩ := hq
            obtain ⟨wd, hq⟩ := hq
            obtain ⟨r1, hq⟩ := hq
            obtain ⟨g1wd, hq⟩ := hq
            obtain ⟨r2, hq⟩ := hq
            obtain ⟨g2wd, hmwd⟩ := hq
            have r1 : (Instr.mapEntry 90 (.map (some (w2.heap.size + 1 + 1 + 1))) (.int .i64 e)).run Tryz.prog wb = .ok (.tuple #[vwd, goInt stwd]) wc := r1
            have r2 : (Instr.entryStore 90 (.map (some (w2.heap.size + 1 + 1 + 1))) (goInt stwd) (.int .i64 u)).run Tryz.prog wc = .ok () wd := r2
            have hS1 := keep2 hSwb g1wd (by omega)
            refine upto_entry (i := 17) (mv := .map (some (w2.heap.size + 1 + 1 + 1))) (key := .int .i64 e) (r := .tuple #[vwd, goInt stwd]) (w1 := wc) ?zz1 rfl ?zz3 (.tmp 125) (.tmp 126) 90 ?zz4 ?zz5 ?zz6 ?zz7 (fun _ => hS1) ?_
            case zz1 => kernel_rfl
            case zz3 => exact rfl
            case zz4 => exact rfl
            case zz5 => exact rfl
            case zz6 => exact rfl
            case zz7 => exact r1
            (try simp only [zA, zB, zC, Act.put, zD, zE, zF])
            refine uk 18 (goInt stwd) ?_ hS1 ?_
            ·intro w' hSw
             (try dsimp only at hSw)
             go_simp
            (try simp only [zA, zB, zC, Act.put, zD, zE, zF])
            have hSwd := keep2 hSwb g2wd (by omega)
            refine upto_estore (i := 19) (mv := .map (some (w2.heap.size + 1 + 1 + 1))) (st := goInt stwd) (val := .int .i64 u) (w1 := wd) (by kernel_rfl) rfl rfl (.tmp 125) (.tmp 134) (.tmp 130) 90 rfl rfl rfl rfl r2 (fun _ => hSwd) ?_
            clear r1 r2 hS1
            (try simp only [zA, zB, zC, Act.put])
            refine upto_done (by kernel_rfl) (NoPanic.normal ?_) _
            have R2 := ((HmN.out.drew.kept g2wb (by simp <;> omega)).kept g2wd (by simp <;> omega)).look_miss Hnx.out keyed_port Tryz.underlying87 zero_port (key_port hport)
            have R2 : (Instr.lookup 87 (.map (some w2.heap.size)) (.agg #[.int .i64 e, .int .i64 (1 - u)]) false).run Tryz.prog wd = .ok (.agg #[.int .i64 0, .int .i64 0]) wd := R2.1
            have HNd := Lib.hid ((HN.out.grown (w' := wb) ⟨g2wb.os, g2wb.tape, g2wb.output, g2wb.size, g2wb.block⟩ (fun e => by have := Option.some.inj e; omega)).grown g2wd (fun e => by have := Option.some.inj e; omega))
            have hbW : w2.heap.size ≤ wr.drew.heap.size := Hx.out.size
            have Hxb := (Hx.out.drew.grown g2wb hbW (by intro k hk; cases hk; omega))
            have Hxd := Lib.hid (Hxb.grown g2wd Hxb.size (by intro k hk; cases hk; omega))
            have HmNd := Lib.hid ((HmN.out.drew.kept g2wb (by simp <;> omega)).kept g2wd (by simp <;> omega))
            have HmRd := Lib.hid ((HmR.out.drew.kept g2wb (by simp <;> omega)).kept g2wd (by simp <;> omega))
            have HmLd := Lib.hid (hmwb.kept g2wd (by simp <;> omega))
            have HmDd := Lib.hid hmwd
            have n9d := HNd.out.cell9
            have hfd := run_fend
            clear hmwb hmwd hSwb hSwd g1wb g1wd g2wb g2wd Hxb n9 n11 n12 hS0
            go_wp2_with fail
            go_roundg (gk - 1)
            case measure => have := Hk2.out; omega
            case rel => exact ⟨q + 1, m + 1, 0, by have := Hk2.out; omega, by go_num, rfl, by have h7 := Hub.out; rw [hE.out] at h7; exact h7.1, by have h7 := Hub.out; rw [hE.out] at h7; exact h7.2, by omega, Lib.hid (by have h7 := Hls.out.2; rw [hE.out] at h7; exact h7), HNd.out, Hxd.out, HmNd.out, HmRd.out, HmLd.out, HmDd.out⟩
           | some x =>
            have Hnx := Lib.hid hnx
            have hE := Lib.hid (show endOf (nextOf p) ⟨e, 1 - u⟩ = x.n by unfold endOf; rw [hnx]; rfl)
            clear hnx
            go_wp2_with fail
            refine wp_region_noPanic ?_
            refine region_upto (S := fun w' => w'.cell? ⟨w2.heap.size + 4, 11, none⟩ = some (.map (some (w2.heap.size + 1 + 1))) ∧ w'.cell? ⟨w2.heap.size + 4, 12, none⟩ = some (.map (some (w2.heap.size + 1 + 1 + 1)))) (n := 20) (by kernel_rfl) ?_
            have hS0 : wr.drew.cell? ⟨w2.heap.size + 4, 11, none⟩ = some (.map (some (w2.heap.size + 1 + 1))) ∧ wr.drew.cell? ⟨w2.heap.size + 4, 12, none⟩ = some (.map (some (w2.heap.size + 1 + 1 + 1))) := ⟨n11, n12⟩
            refine uk 0 (.pointer (some ⟨(w2.heap.size + 1 + 1 + 1 + 1), 0, none⟩)) ?_ hS0 ?_
            ·intro w' hSw
             (try dsimp only at hSw)
             go_simp
            (try simp only [zA, zC, Act.put, zD, zE, zF])
            refine uk 1 (.pointer (some ⟨(w2.heap.size + 1 + 1 + 1 + 1), 0, none⟩)) ?_ hS0 ?_
            ·intro w' hSw
             (try dsimp only at hSw)
             go_simp
            (try simp only [zA, zB, zC, Act.put, zD, zE, zF])
            refine uk 2 (.pointer (some ⟨(w2.heap.size + 1 + 1 + 1 + 1), 11, none⟩)) ?_ hS0 ?_
            ·intro w' hSw
             (try dsimp only at hSw)
             go_simp
            (try simp only [zA, zB, zC, Act.put, zD, zE, zF])
            refine uk 3 (.map (some (w2.heap.size + 1 + 1))) ?_ hS0 ?_
            ·intro w' hSw
             (try dsimp only at hSw)
             go_simp
            (try simp only [zA, zB, zC, Act.put, zD, zE, zF])
            refine uk 4 (.int .i64 e) ?_ hS0 ?_
            ·intro w' hSw
             (try dsimp only at hSw)
             go_simp
            (try simp only [zA, zB, zC, Act.put, zD, zE, zF])
            refine uk 5 (.pointer (some ⟨(w2.heap.size + 1 + 1 + 1 + 1), 0, none⟩)) ?_ hS0 ?_
            ·intro w' hSw
             (try dsimp only at hSw)
             go_simp
            (try simp only [zA, zB, zC, Act.put, zD, zE, zF])
            refine uk 6 (.pointer (some ⟨(w2.heap.size + 1 + 1 + 1 + 1), 0, none⟩)) ?_ hS0 ?_
            ·intro w' hSw
             (try dsimp only at hSw)
             go_simp
            (try simp only [zA, zB, zC, Act.put, zD, zE, zF])
            refine uk 7 (.pointer (some ⟨(w2.heap.size + 1 + 1 + 1 + 1), 12, none⟩)) ?_ hS0 ?_
            ·intro w' hSw
             (try dsimp only at hSw)
             go_simp
            (try simp only [zA, zB, zC, Act.put, zD, zE, zF])
            refine uk 8 (.map (some (w2.heap.size + 1 + 1 + 1))) ?_ hS0 ?_
            ·intro w' hSw
             (try dsimp only at hSw)
             go_simp
            (try simp only [zA, zB, zC, Act.put, zD, zE, zF])
            refine uk 9 (.int .i64 e) ?_ hS0 ?_
            ·intro w' hSw
             (try dsimp only at hSw)
             go_simp
            (try simp only [zA, zB, zC, Act.put, zD, zE, zF])
            refine uk 10 (.int .i64 (j : Int)) ?_ hS0 ?_
            ·intro w' hSw
             (try dsimp only at hSw)
             go_simp
            (try simp only [zA, zB, zC, Act.put, zD, zE, zF])
            refine uk 11 (.int .i64 (q : Int)) ?_ hS0 ?_
            ·intro w' hSw
             (try dsimp only at hSw)
             go_simp
            (try simp only [zA, zB, zC, Act.put, zD, zE, zF])
            refine uk 12 (.agg #[.int .i64 (j : Int), .int .i64 (q : Int)]) ?_ hS0 ?_
            ·intro w' hSw
             (try dsimp only at hSw)
             go_simp
            (try simp only [zA, zB, zC, Act.put, zD, zE, zF])
            refine uk 13 (.int .i64 u) ?_ hS0 ?_
            ·intro w' hSw
             (try dsimp only at hSw)
             go_simp
            (try simp only [zA, zB, zC, Act.put, zD, zE, zF])
            have hq := HmL.out.drew.entry (lineAt (p.lines.take j) yel (q + 1)) (x := e) (y := (j, q)) hlk.out (fun z hz => lineAt_other He.out hz) hml keyed_int Tryz.underlying89 zero_pair (key_int hel)
            obtain ⟨vwb, hq⟩ := hq
            obtain ⟨stwb, hq⟩ := hq
            obtain ⟨wa, hq⟩ := hq
            obtain ⟨wb, hq⟩ := hq
            obtain ⟨r1, hq⟩ := hq
            obtain ⟨g1wb, hq⟩ := hq
            obtain ⟨r2, hq⟩ := hq
            obtain ⟨g2wb, hmwb⟩ := hq
            have r1 : (Instr.mapEntry 89 (.map (some (w2.heap.size + 1 + 1))) (.int .i64 e)).run Tryz.prog wr.drew = .ok (.tuple #[vwb, goInt stwb]) wa := r1
            have r2 : (Instr.entryStore 89 (.map (some (w2.heap.size + 1 + 1))) (goInt stwb) (.agg #[.int .i64 (j : Int), .int .i64 (q : Int)])).run Tryz.prog wa = .ok () wb := r2
            have hS1 := keep2 hS0 g1wb (by omega)
            refine upto_entry (i := 14) (mv := .map (some (w2.heap.size + 1 + 1))) (key := .int .i64 e) (r := .tuple #[vwb, goInt stwb]) (w1 := wa) ?zz1 rfl ?zz3 (.tmp 120) (.tmp 121) 89 ?zz4 ?zz5 ?zz6 ?zz7 (fun _ => hS1) ?_
            case zz1 => kernel_rfl
            case zz3 => exact rfl
            case zz4 => exact rfl
            case zz5 => exact rfl
            case zz6 => exact rfl
            case zz7 => exact r1
            (try simp only [zA, zB, zC, Act.put, zD, zE, zF])
            refine uk 15 (goInt stwb) ?_ hS1 ?_
            ·intro w' hSw
             (try dsimp only at hSw)
             go_simp
            (try simp only [zA, zB, zC, Act.put, zD, zE, zF])
            have hSwb := keep2 hS0 g2wb (by omega)
            refine upto_estore (i := 16) (mv := .map (some (w2.heap.size + 1 + 1))) (st := goInt stwb) (val := .agg #[.int .i64 (j : Int), .int .i64 (q : Int)]) (w1 := wb) (by kernel_rfl) rfl rfl (.tmp 120) (.tmp 132) (.tmp 129) 89 rfl rfl rfl rfl r2 (fun _ => hSwb) ?_
            clear r1 r2 hS1
            (try simp only [zA, zB, zC, Act.put])
            have hq := (HmD.out.drew.kept g2wb (by simp <;> omega)).entry (leadAt (nextOf p) (p.lines.take j) yel (q + 1)) (x := e) (y := u) hdk.out (fun z hz => leadAt_other He.out hz) hml keyed_int Tryz.underlying90 zero_int' (key_int hel)
            obtain ⟨vwd, hq⟩ := hq
            obtain ⟨stwd, hq⟩ := hq
            obtain ⟨wc, hq⟩ := hq
            obtain ⟨wd, hq⟩ := hq
            obtain ⟨r1, hq⟩ := hq
            obtain ⟨g1wd, hq⟩ := hq
            obtain ⟨r2, hq⟩ := hq
            obtain ⟨g2wd, hmwd⟩ := hq
            have r1 : (Instr.mapEntry 90 (.map (some (w2.heap.size + 1 + 1 + 1))) (.int .i64 e)).run Tryz.prog wb = .ok (.tuple #[vwd, goInt stwd]) wc := r1
            have r2 : (Instr.entryStore 90 (.map (some (w2.heap.size + 1 + 1 + 1))) (goInt stwd) (.int .i64 u)).run Tryz.prog wc = .ok () wd := r2
            have hS1 := keep2 hSwb g1wd (by omega)
            refine upto_entry (i := 17) (mv := .map (some (w2.heap.size + 1 + 1 + 1))) (key := .int .i64 e) (r := .tuple #[vwd, goInt stwd]) (w1 := wc) ?zz1 rfl ?zz3 (.tmp 125) (.tmp 126) 90 ?zz4 ?zz5 ?zz6 ?zz7 (fun _ => hS1) ?_
            case zz1 => kernel_rfl
            case zz3 => exact rfl
            case zz4 => exact rfl
            case zz5 => exact rfl
            case zz6 => exact rfl
            case zz7 => exact r1
            (try simp only [zA, zB, zC, Act.put, zD, zE, zF])
            refine uk 18 (goInt stwd) ?_ hS1 ?_
            ·intro w' hSw
             (try dsimp only at hSw)
             go_simp
            (try simp only [zA, zB, zC, Act.put, zD, zE, zF])
            have hSwd := keep2 hSwb g2wd (by omega)
            refine upto_estore (i := 19) (mv := .map (some (w2.heap.size + 1 + 1 + 1))) (st := goInt stwd) (val := .int .i64 u) (w1 := wd) (by kernel_rfl) rfl rfl (.tmp 125) (.tmp 134) (.tmp 130) 90 rfl rfl rfl rfl r2 (fun _ => hSwd) ?_
            clear r1 r2 hS1
            (try simp only [zA, zB, zC, Act.put])
            refine upto_done (by kernel_rfl) (NoPanic.normal ?_) _
            have R2 := ((HmN.out.drew.kept g2wb (by simp <;> omega)).kept g2wd (by simp <;> omega)).look_hit Hnx.out keyed_port Tryz.underlying87 zero_port (key_port hport)
            have R2 : (Instr.lookup 87 (.map (some w2.heap.size)) (.agg #[.int .i64 e, .int .i64 (1 - u)]) false).run Tryz.prog wd = .ok (.agg #[.int .i64 x.e, .int .i64 x.n]) wd := R2.1
            have HNd := Lib.hid ((HN.out.grown (w' := wb) ⟨g2wb.os, g2wb.tape, g2wb.output, g2wb.size, g2wb.block⟩ (fun e => by have := Option.some.inj e; omega)).grown g2wd (fun e => by have := Option.some.inj e; omega))
            have hbW : w2.heap.size ≤ wr.drew.heap.size := Hx.out.size
            have Hxb := (Hx.out.drew.grown g2wb hbW (by intro k hk; cases hk; omega))
            have Hxd := Lib.hid (Hxb.grown g2wd Hxb.size (by intro k hk; cases hk; omega))
            have HmNd := Lib.hid ((HmN.out.drew.kept g2wb (by simp <;> omega)).kept g2wd (by simp <;> omega))
            have HmRd := Lib.hid ((HmR.out.drew.kept g2wb (by simp <;> omega)).kept g2wd (by simp <;> omega))
            have HmLd := Lib.hid (hmwb.kept g2wd (by simp <;> omega))
            have HmDd := Lib.hid hmwd
            have n9d := HNd.out.cell9
            have hfd := run_fend
            clear hmwb hmwd hSwb hSwd g1wb g1wd g2wb g2wd Hxb n9 n11 n12 hS0
            go_wp2_with fail
            go_roundg (gk - 1)
            case measure => have := Hk2.out; omega
            case rel => exact ⟨q + 1, m + 1, x.n, by have := Hk2.out; omega, by go_num, rfl, by have h7 := Hub.out; rw [hE.out] at h7; exact h7.1, by have h7 := Hub.out; rw [hE.out] at h7; exact h7.2, by omega, Lib.hid (by have h7 := Hls.out.2; rw [hE.out] at h7; exact h7), HNd.out, Hxd.out, HmNd.out, HmRd.out, HmLd.out, HmDd.out⟩
          ·have hqe := Lib.hid (show q = yel.length by have := Hk2.out; have := ly.out; omega)
           go_wp2_with fail
           go_roundg (nl - j - 1)
           case measure => have := Hk.out; omega
           case rel => exact ⟨j + 1, m, by have := Hk.out; omega, by go_num, by have := Hk2.out; omega, HN.out, Hx.out, HmN.out, HmR.out, HmL.out.congr (fun z => by rw [take_next HyL.out, hqe.out]; exact (lineAt_end (p.lines.take j) ⟨nm, yel⟩ z).symm), HmD.out.congr (fun z => by rw [take_next HyL.out, hqe.out]; exact leadIn_snoc (nextOf p) (p.lines.take j) ⟨nm, yel⟩ z)⟩
       ·have hlp : p.lines.length = nl := by rw [hP.out.lp, List.length_map]; exact ll.out
        have hHk := Hk.out
        have HM3 := Lib.hid (show MapOf intCode pairVal wr 3 (w2.heap.size + 1 + 1) 2000 (lineOf p) from (Hm3.out.mono (by omega)).congr (fun z => by rw [List.take_of_length_le (by omega)]; rfl))
        have HM4 := Lib.hid (show MapOf intCode intVal wr 3 (w2.heap.size + 1 + 1 + 1) 2000 (leadIn (nextOf p) p.lines) from (Hm4.out.mono (by omega)).congr (fun z => by rw [List.take_of_length_le (by omega)]))
        clear hlp hHk
        go_wp2_with fail
        have hQ := HQ2.out.below Hx.out
        exact bodyPost_ret (v := .tuple #[.pointer (some ⟨w2.heap.size + 4, 0, none⟩), .int .i64 0]) (by simp [results, Tryz.results9, go_sem]) rfl
         (.inr ⟨Hc.out, w2.heap.size + 4, rfl, by have := Hb2.out.size; omega, ⟨_, _, _, _, _, ⟨HN.out, hQ, few_same hP.out Hf.out hQ, Hm1.out, Hm2.out, HM3.out, HM4.out, Hc.out⟩⟩, below_step Hb2.out Hx.out Hb2.out.size⟩)
 ·have q1 : (chk p != 0) = true := by simp [h0]
  have Hc := Lib.hid h0
  clear h0
  go_wp2_with fail
  exact bodyPost_ret (v := .tuple #[.pointer none, .int .i64 (chk p)]) (by simp [results, Tryz.results9, go_sem]) rfl (.inl ⟨Hc.out, rfl, Hb1.out⟩)
end Go.Proofs.YtcaeglnfflkabaaGreat
