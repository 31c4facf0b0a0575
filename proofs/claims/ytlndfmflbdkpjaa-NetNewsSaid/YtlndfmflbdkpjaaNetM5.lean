/- Walks of semaphoreref6.LineOf and Lead; contracts of net.Net's methods that end in Below. Condition: the plan is read (Lead: and is valid). -/
import Derived.Test.YtlndfmflbdkpjaaNetM3
import Derived.Test.YtlndfmflbdkpjaaNetM4
import Derived.Test.YtlndfmflbdkpjaaRefC9
set_option maxRecDepth 1000000
namespace Go.Proofs.Ytlndfmflbdkpjaa
open Go.ChangeShapes Go.WideShapes Go.ChangeAt Go.RowKit Go.Sort

theorem line_hit {j k : Nat} {L : List Line} {l : Line} {e : Int} (hl : L[j]? = some l) (h : posIn 0 l.elems e = some k) : lineFrom j (L.drop j) e = some (j, k) := by
  rw [drop_cons hl, lineFrom, h]
theorem line_miss {j : Nat} {L : List Line} {l : Line} {e : Int} (hl : L[j]? = some l) (h : posIn 0 l.elems e = none) : lineFrom j (L.drop j) e = lineFrom (j + 1) (L.drop (j + 1)) e := by
  rw [drop_cons hl, lineFrom, h]
theorem pos_hit {j : Nat} {L : List Int} {x e : Int} (hl : L[j]? = some x) (h : x = e) : posIn j (L.drop j) e = some j := by
  rw [drop_cons hl, posIn, if_pos h]
theorem pos_miss {j : Nat} {L : List Int} {x e : Int} (hl : L[j]? = some x) (h : x ≠ e) : posIn j (L.drop j) e = posIn (j + 1) (L.drop (j + 1)) e := by
  rw [drop_cons hl, posIn, if_neg h]
set_option maxHeartbeats 1000000 in
theorem reflineof_any (w : World) (pv : PV) (p : Plan) (h : PlanAt w pv p) (e : Int) :
    Calls Try.prog 56 #[pv.val p, .int .i64 e] w fun en w' => en = .returned (.tuple #[.int .i64 (linePair (lineOf p e)).1, .int .i64 (linePair (lineOf p e)).2]) ∧ Below w.heap.size w w' := by
  obtain ⟨ae, ne, ce, aj, nj, cj, as_, ns, cs, al, nl, cl, lv⟩ := pv
  have hP := Lib.hid h
  have Hba := Lib.hid (below_new w (.cells #[.slice ae ne ce, .slice aj nj cj, .slice as_ ns cs, .slice al nl cl, .int .i64 p.top, .int .i64 p.brake, .int .i64 p.margin, .int .i64 p.throw, .bool p.hard] 32))
  have HBa := Lib.hid (pbox_new w ⟨ae, ne, ce, aj, nj, cj, as_, ns, cs, al, nl, cl, lv⟩ p)
  have ll := Lib.hid (show lv.length = nl from h.l.row.len)
  have hbd := h.l.row.bnd
  dsimp only at hbd
  clear h
  dsimp only [PV.val]
  obtain ⟨_, c0, c1, c2, c3, c4, c5, c6, c7, c8⟩ := HBa.out
  dsimp only at c0 c1 c2 c3
  go_enter Try.func56, Try.ntmps56
  go_wp2_with fail
  go_loopg [6] nl (fun k i wr => ∃ j : Nat, j + k = nl ∧ i = .int .i64 j ∧ Hid (lineFrom j (p.lines.drop j) e = lineOf p e) ∧ wr = w.alloc (.cells #[.slice ae ne ce, .slice aj nj cj, .slice as_ ns cs, .slice al nl cl, .int .i64 p.top, .int .i64 p.brake, .int .i64 p.margin, .int .i64 p.throw, .bool p.hard] 32))
  case atStart => exact ⟨0, by omega, rfl, Lib.hid rfl, rfl⟩
  case round =>
    obtain ⟨j, hk, rfl, hw, rfl⟩ := hrel
    have Hk := Lib.hid hk; clear hk
    by_cases hlt : j < nl
    · obtain ⟨⟨nm, ya, yn, yc, yel⟩, hy⟩ := get_some ll.out hlt
      obtain ⟨pb, off, rfl, hpb, g1, g2⟩ := hP.out.l.row.lineB Hba.out hy
      have Hy := Lib.hid hy
      have HyL := Lib.hid (show p.lines[j]? = some ⟨nm, yel⟩ by rw [hP.out.lp, List.getElem?_map, hy]; rfl)
      have Hints := Lib.hid (show Ints w ya yn yel from hP.out.l.ints _ (List.mem_of_getElem? hy))
      have ly := Lib.hid Hints.out.len
      have hbn := Hints.out.bnd
      dsimp only at g1 g2
      clear hy
      go_wp2_with fail
      go_loopg [7] yn (fun k i wr => ∃ j2 : Nat, j2 + k = yn ∧ i = .int .i64 j2 ∧ Hid (posIn j2 (yel.drop j2) e = posIn 0 yel e) ∧ wr = w.alloc (.cells #[.slice ae ne ce, .slice aj nj cj, .slice as_ ns cs, .slice (some ⟨pb, off, none⟩) nl cl, .int .i64 p.top, .int .i64 p.brake, .int .i64 p.margin, .int .i64 p.throw, .bool p.hard] 32))
      case atStart => exact ⟨0, by omega, rfl, Lib.hid rfl, rfl⟩
      case round =>
        obtain ⟨j2, hk2, rfl, hw2, rfl⟩ := hrel
        have Hk2 := Lib.hid hk2; clear hk2
        by_cases hlt2 : j2 < yn
        · obtain ⟨x, hx⟩ := get_some ly.out hlt2
          obtain ⟨pa, offa, rfl, hpa, ge⟩ := Hints.out.int hx
          have ge := (Hba.out.cell (p := ⟨pa, offa + j2, none⟩) hpa).trans ge
          by_cases hxe : x = e
          · have q1 : (x == e) = true := by simpa using hxe
            have Hs := Lib.hid (show linePair (lineOf p e) = ((j : Int), (j2 : Int)) by rw [← hw.out, line_hit HyL.out (by rw [← hw2.out]; exact pos_hit hx hxe)]; rfl)
            clear hx hxe
            go_wp2_with fail
            go_ret2
            exact ⟨line_ret Hs.out, Hba.out⟩
          · have q1 : (x == e) = false := by simpa using hxe
            have Hs := Lib.hid (show posIn (j2 + 1) (yel.drop (j2 + 1)) e = posIn 0 yel e by rw [← hw2.out]; exact (pos_miss hx hxe).symm)
            clear hx hxe
            go_wp2_with fail
            go_roundg (gk - 1)
            case measure => have := Hk2.out; omega
            case rel => exact ⟨j2 + 1, by have := Hk2.out; omega, by go_num, Hs.out, rfl⟩
        · have Hs := Lib.hid (show lineFrom (j + 1) (p.lines.drop (j + 1)) e = lineOf p e by rw [← hw.out]; exact (line_miss HyL.out (by rw [← hw2.out, drop_end ly.out (by omega)]; rfl)).symm)
          go_wp2_with fail
          go_roundg (nl - j - 1)
          case measure => have := Hk.out; omega
          case rel => exact ⟨j + 1, by have := Hk.out; omega, by go_num, Hs.out, rfl⟩
    · have Hs := Lib.hid (show linePair (lineOf p e) = (-1, -1) by rw [← hw.out, drop_end (show p.lines.length = nl by rw [hP.out.lp, List.length_map]; exact ll.out) (by omega)]; rfl)
      go_wp2_with fail
      go_ret2
      exact ⟨line_ret Hs.out, Hba.out⟩
theorem nlead_b (w : World) (b : Nat) (p : Plan) (h : NetAt w b p) (e i : Int) (he : inI e) :
    Calls Try.prog 54 #[.pointer (some ⟨b, 0, none⟩), .int .i64 e, .int .i64 i] w fun en w' => en = .returned (.int .i64 (lead p e i)) ∧ Below w.heap.size w w' := (nlead_any w b p h e i he).mono fun _ _ ⟨h1, h2⟩ => ⟨h1, by rw [← h2]; exact Below.refl _ _⟩
theorem nlen_b (w : World) (b : Nat) (p : Plan) (h : NetAt w b p) :
    Calls Try.prog 40 #[.pointer (some ⟨b, 0, none⟩)] w fun e w' => e = .returned (.int .i64 (p.elems.length : Int)) ∧ Below w.heap.size w w' := (nlen_any w b p h).mono fun _ _ ⟨h1, h2⟩ => ⟨h1, by rw [← h2]; exact Below.refl _ _⟩
theorem nsignals_b (w : World) (b : Nat) (p : Plan) (h : NetAt w b p) :
    Calls Try.prog 44 #[.pointer (some ⟨b, 0, none⟩)] w fun e w' => e = .returned (.int .i64 (p.sigs.length : Int)) ∧ Below w.heap.size w w' := (nsignals_any w b p h).mono fun _ _ ⟨h1, h2⟩ => ⟨h1, by rw [← h2]; exact Below.refl _ _⟩
theorem enters_line {p : Plan} (g : Good p) {x : Line} (hm : x ∈ p.lines) : enters p x.elems = some (leadList (nextOf p) x.elems) := by
  apply enters_lead
  have hr := g.lines.2.2 x hm
  unfold entersOk
  simp only [Bool.and_eq_true, decide_eq_true_eq]
  refine ⟨⟨hr.1, ?_⟩, hr.2⟩
  rw [List.all_eq_true]
  intro y hy
  rw [kind_inLine]
  exact g.lines.2.1 y (by simp only [flatLines, List.mem_flatMap]; exact ⟨x, hm, hy⟩)
theorem lead_no {p : Plan} {e i : Int} (h : lineOf p e = none) : lead p e i = 0 := by
  have := lineFrom_none.1 h
  unfold lead
  rw [leadIn_none.2 this]
theorem lead_out {p : Plan} (g : Good p) {e i : Int} {q : Nat × Nat} (h : lineOf p e = some q) (hp : isPort p ⟨e, i⟩ = false) : lead p e i = 0 := by
  rw [← refLead_eq g]
  unfold refLead
  rw [h]
  simp [hp]
theorem lead_in {p : Plan} (g : Good p) {e i : Int} {a k : Nat} (h : lineOf p e = some (a, k)) (hp : isPort p ⟨e, i⟩ = true) : ∃ (x : Line) (u : Int), p.lines[a]? = some x ∧ (leadList (nextOf p) x.elems)[k]? = some u ∧ k < x.elems.length ∧ lead p e i = if u = i then 1 else 2 := by
  obtain ⟨_, x, hx, hk⟩ := lineFrom_get h
  rw [Nat.sub_zero] at hx
  obtain ⟨_, h2, h3⟩ := lines_at g hx hk
  obtain ⟨u, h01, hu, _⟩ := leads_law g hx hk
  refine ⟨x, u, hx, by rw [← h2]; exact hu, (List.getElem?_eq_some_iff.1 hk).1, ?_⟩
  unfold lead
  rw [hu]
  simp only
  rw [if_neg]
  have hi := isPort_iff.1 hp
  have ht : p.kind e = 1 := by have := h3; rw [← kind_inLine] at this; simpa using this
  have h4 : i < ends (p.kind e) := hi.2.2.2
  have h5 : 0 ≤ i := hi.2.2.1
  rw [ht, show ends 1 = 2 from rfl] at h4
  omega
set_option maxHeartbeats 1000000 in
theorem reflead_any (w : World) (pv : PV) (p : Plan) (h : PlanAt w pv p) (hf : FewOk pv) (hc : chk p = 0) (e i : Int) :
    Calls Try.prog 57 #[pv.val p, .int .i64 e, .int .i64 i] w fun en w' => en = .returned (.int .i64 (lead p e i)) ∧ Below w.heap.size w w' := by
  have G := Lib.hid (good_of hc)
  obtain ⟨ae, ne, ce, aj, nj, cj, as_, ns, cs, al, nl, cl, lv⟩ := pv
  have hP := Lib.hid h
  have Hf := Lib.hid hf
  have Hba := Lib.hid (below_new w (.cells #[.slice ae ne ce, .slice aj nj cj, .slice as_ ns cs, .slice al nl cl, .int .i64 p.top, .int .i64 p.brake, .int .i64 p.margin, .int .i64 p.throw, .bool p.hard] 32))
  have HBa := Lib.hid (pbox_new w ⟨ae, ne, ce, aj, nj, cj, as_, ns, cs, al, nl, cl, lv⟩ p)
  have ll := Lib.hid (show lv.length = nl from h.l.row.len)
  have H1 := Lib.hid (reflineof_any (w.alloc (.cells #[.slice ae ne ce, .slice aj nj cj, .slice as_ ns cs, .slice al nl cl, .int .i64 p.top, .int .i64 p.brake, .int .i64 p.margin, .int .i64 p.throw, .bool p.hard] 32)) ⟨ae, ne, ce, aj, nj, cj, as_, ns, cs, al, nl, cl, lv⟩ p (h.below Hba.out) e)
  have H2 := Lib.hid (fun (u : World) (hb : Below w.heap.size w u) => has_any u ⟨ae, ne, ce, aj, nj, cj, as_, ns, cs, al, nl, cl, lv⟩ p ⟨e, i⟩ (h.below hb))
  clear h hf hc
  dsimp only [PV.val, Port.val] at H1 H2 ⊢
  obtain ⟨_, c0, c1, c2, c3, c4, c5, c6, c7, c8⟩ := HBa.out
  dsimp only at c0 c1 c2 c3
  cases hl : lineOf p e with
  | none =>
    have Hs := Lib.hid (lead_no (i := i) hl)
    rw [hl] at H1
    dsimp only [linePair] at H1
    clear hl
    go_enter Try.func57, Try.ntmps57
    go_wp2_with fail
    refine H1.out.mono ?_
    rintro en w1 ⟨rfl, hb⟩
    have Hb1 := Lib.hid (below_step Hba.out hb Hba.out.size)
    clear hb
    go_wp2_with fail
    go_ret
    exact ⟨ret_int Hs.out.symm, Hb1.out⟩
  | some q =>
    obtain ⟨a, k⟩ := q
    rw [hl] at H1
    dsimp only [linePair] at H1
    have Hl := Lib.hid hl
    clear hl
    cases hp : isPort p ⟨e, i⟩ with
    | false =>
      have Hs := Lib.hid (lead_out G.out Hl.out hp)
      rw [hp] at H2
      clear hp
      go_enter Try.func57, Try.ntmps57
      go_wp2_with fail
      refine H1.out.mono ?_
      rintro en w1 ⟨rfl, hb⟩
      have Hb1 := Lib.hid (below_step Hba.out hb Hba.out.size)
      have HB1 := Lib.hid (HBa.out.below hb)
      clear hb c0 c1 c2 c3 c4 c5 c6 c7 c8
      obtain ⟨_, c0, c1, c2, c3, c4, c5, c6, c7, c8⟩ := HB1.out
      dsimp only at c0 c1 c2 c3
      go_wp2_with fail
      refine (H2.out w1 Hb1.out).mono ?_
      rintro en w2 ⟨rfl, hb⟩
      have Hb2 := Lib.hid (below_step Hb1.out hb Hb1.out.size)
      clear hb
      go_wp2_with fail
      go_ret
      exact ⟨ret_int Hs.out.symm, Hb2.out⟩
    | true =>
      obtain ⟨x, u, hx, hu, hk, hs⟩ := lead_in G.out Hl.out hp
      have Hs := Lib.hid hs
      have Hu := Lib.hid hu
      have Hen := Lib.hid (enters_line G.out (List.mem_of_getElem? hx))
      have hal : a < nl := by have h1 := (List.getElem?_eq_some_iff.1 hx).1; rw [hP.out.lp, List.length_map] at h1; have h2 : lv.length = nl := ll.out; dsimp only at h1; omega
      obtain ⟨⟨nm, ya, yn, yc, yel⟩, hy⟩ := get_some ll.out hal
      have hxe : x = ⟨nm, yel⟩ := by
        rw [hP.out.lp, List.getElem?_map, hy] at hx
        exact (Option.some.inj hx).symm
      subst hxe
      dsimp only at hk hu
      have Hints := Lib.hid (show Ints w ya yn yel from hP.out.l.ints _ (List.mem_of_getElem? hy))
      have hyn : yn ≤ 60 := Hf.out.2.2.2.2 _ (List.mem_of_getElem? hy)
      have Hy := Lib.hid hy
      rw [hp] at H2
      have hkl : k < 60 := by have h1 : yel.length = yn := Hints.out.len; omega
      have HkL := Lib.hid hk
      have ha0 : (0 : Int) ≤ (a : Int) := by omega
      have hk0 : (0 : Int) ≤ (k : Int) := by omega
      have hal2 : (a : Int) < (nl : Int) := by omega
      clear hs hu hx hy hp hk
      go_enter Try.func57, Try.ntmps57
      go_wp2_with fail
      refine H1.out.mono ?_
      rintro en w1 ⟨rfl, hb⟩
      have Hb1 := Lib.hid (below_step Hba.out hb Hba.out.size)
      have HB1 := Lib.hid (HBa.out.below hb)
      clear hb c0 c1 c2 c3 c4 c5 c6 c7 c8
      obtain ⟨_, c0, c1, c2, c3, c4, c5, c6, c7, c8⟩ := HB1.out
      dsimp only at c0 c1 c2 c3
      go_wp2_with fail
      refine (H2.out w1 Hb1.out).mono ?_
      rintro en w2 ⟨rfl, hb⟩
      have Hb2 := Lib.hid (below_step Hb1.out hb Hb1.out.size)
      have HB2 := Lib.hid (HB1.out.below hb)
      clear hb c0 c1 c2 c3 c4 c5 c6 c7 c8
      obtain ⟨pb, off, rfl, hpb, g1, g2⟩ := hP.out.l.row.lineB Hb2.out Hy.out
      dsimp only at g1 g2
      obtain ⟨_, c0, c1, c2, c3, c4, c5, c6, c7, c8⟩ := HB2.out
      dsimp only at c0 c1 c2 c3
      have hbl := HB2.out.lt
      have hpb2 : pb < w2.heap.size := by have := Hb2.out.size; omega
      go_wp2_with fail
      have hSall : ∀ w' : World, Below (w2).heap.size (w2) w' → (w'.cell? ⟨w.heap.size, 0, none⟩ = some (.slice ae ne ce) ∧ w'.cell? ⟨w.heap.size, 1, none⟩ = some (.slice aj nj cj) ∧ w'.cell? ⟨w.heap.size, 2, none⟩ = some (.slice as_ ns cs) ∧ w'.cell? ⟨w.heap.size, 3, none⟩ = some (.slice (some ⟨pb, off, none⟩) nl cl) ∧ w'.cell? ⟨w.heap.size, 4, none⟩ = some (.int .i64 p.top) ∧ w'.cell? ⟨w.heap.size, 5, none⟩ = some (.int .i64 p.brake) ∧ w'.cell? ⟨w.heap.size, 6, none⟩ = some (.int .i64 p.margin) ∧ w'.cell? ⟨w.heap.size, 7, none⟩ = some (.int .i64 p.throw) ∧ w'.cell? ⟨w.heap.size, 8, none⟩ = some (.bool p.hard) ∧ w'.cell? ⟨pb, off + a * 2 + 1, none⟩ = some (.slice ya yn yc)) := fun w' hb => ⟨(hb.cell (p := ⟨w.heap.size, 0, none⟩) hbl).trans c0, (hb.cell (p := ⟨w.heap.size, 1, none⟩) hbl).trans c1, (hb.cell (p := ⟨w.heap.size, 2, none⟩) hbl).trans c2, (hb.cell (p := ⟨w.heap.size, 3, none⟩) hbl).trans c3, (hb.cell (p := ⟨w.heap.size, 4, none⟩) hbl).trans c4, (hb.cell (p := ⟨w.heap.size, 5, none⟩) hbl).trans c5, (hb.cell (p := ⟨w.heap.size, 6, none⟩) hbl).trans c6, (hb.cell (p := ⟨w.heap.size, 7, none⟩) hbl).trans c7, (hb.cell (p := ⟨w.heap.size, 8, none⟩) hbl).trans c8, (hb.cell (p := ⟨pb, off + a * 2 + 1, none⟩) hpb2).trans g2⟩
      refine wp_region_noPanic ?_
      refine region_upto (S := fun w' => w'.cell? ⟨w.heap.size, 0, none⟩ = some (.slice ae ne ce) ∧ w'.cell? ⟨w.heap.size, 1, none⟩ = some (.slice aj nj cj) ∧ w'.cell? ⟨w.heap.size, 2, none⟩ = some (.slice as_ ns cs) ∧ w'.cell? ⟨w.heap.size, 3, none⟩ = some (.slice (some ⟨pb, off, none⟩) nl cl) ∧ w'.cell? ⟨w.heap.size, 4, none⟩ = some (.int .i64 p.top) ∧ w'.cell? ⟨w.heap.size, 5, none⟩ = some (.int .i64 p.brake) ∧ w'.cell? ⟨w.heap.size, 6, none⟩ = some (.int .i64 p.margin) ∧ w'.cell? ⟨w.heap.size, 7, none⟩ = some (.int .i64 p.throw) ∧ w'.cell? ⟨w.heap.size, 8, none⟩ = some (.bool p.hard) ∧ w'.cell? ⟨pb, off + a * 2 + 1, none⟩ = some (.slice ya yn yc)) (n := 13) (by kernel_rfl) ?_
      refine upto_take (i := 0) (v := .agg #[.slice ae ne ce, .slice aj nj cj, .slice as_ ns cs, .slice (some ⟨pb, off, none⟩) nl cl, .int .i64 p.top, .int .i64 p.brake, .int .i64 p.margin, .int .i64 p.throw, .bool p.hard]) rfl (by kernel_rfl) (by kernel_rfl) (by kernel_rfl) (by kernel_rfl) (fun _ _ _ h => h) (Or.inl ⟨by rfl, ?_⟩) (hSall _ (by repeat (first | with_reducible exact Below.refl _ _ | with_reducible assumption | with_reducible exact below_new _ _ | with_reducible apply below_drewN | with_reducible apply Below.drew | with_reducible refine below_set (Nat.le_refl _) ?_ _ | ((with_reducible refine below_set ?_ ?_ _); omega) | with_reducible refine Below.alloc ?_ (by first | omega | (simp; omega) | simp) _))) ?_
      · intro w' hSw
        (try dsimp only at hSw)
        go_simp
      (try simp only [List.getElem_toArray, List.getElem_cons_zero, Act.put, List.setIfInBounds_toArray, List.set_cons_zero, List.set_cons_succ])
      refine upto_take (i := 1) (v := .pointer (some ⟨w.heap.size, 3, none⟩)) rfl (by kernel_rfl) (by kernel_rfl) (by kernel_rfl) (by kernel_rfl) (fun _ _ _ h => h) (Or.inl ⟨by rfl, ?_⟩) (hSall _ (by repeat (first | with_reducible exact Below.refl _ _ | with_reducible assumption | with_reducible exact below_new _ _ | with_reducible apply below_drewN | with_reducible apply Below.drew | with_reducible refine below_set (Nat.le_refl _) ?_ _ | ((with_reducible refine below_set ?_ ?_ _); omega) | with_reducible refine Below.alloc ?_ (by first | omega | (simp; omega) | simp) _))) ?_
      · intro w' hSw
        (try dsimp only at hSw)
        go_simp
      (try simp only [List.getElem_toArray, List.getElem_cons_succ, List.getElem_cons_zero, Act.put, List.setIfInBounds_toArray, List.set_cons_zero, List.set_cons_succ])
      refine upto_take (i := 2) (v := .slice (some ⟨pb, off, none⟩) nl cl) rfl (by kernel_rfl) (by kernel_rfl) (by kernel_rfl) (by kernel_rfl) (fun _ _ _ h => h) (Or.inl ⟨by rfl, ?_⟩) (hSall _ (by repeat (first | with_reducible exact Below.refl _ _ | with_reducible assumption | with_reducible exact below_new _ _ | with_reducible apply below_drewN | with_reducible apply Below.drew | with_reducible refine below_set (Nat.le_refl _) ?_ _ | ((with_reducible refine below_set ?_ ?_ _); omega) | with_reducible refine Below.alloc ?_ (by first | omega | (simp; omega) | simp) _))) ?_
      · intro w' hSw
        (try dsimp only at hSw)
        go_simp
      (try simp only [List.getElem_toArray, List.getElem_cons_succ, List.getElem_cons_zero, Act.put, List.setIfInBounds_toArray, List.set_cons_zero, List.set_cons_succ])
      refine upto_take (i := 3) (v := .int .i64 (a : Int)) rfl (by kernel_rfl) (by kernel_rfl) (by kernel_rfl) (by kernel_rfl) (fun _ _ _ h => h) (Or.inl ⟨by rfl, ?_⟩) (hSall _ (by repeat (first | with_reducible exact Below.refl _ _ | with_reducible assumption | with_reducible exact below_new _ _ | with_reducible apply below_drewN | with_reducible apply Below.drew | with_reducible refine below_set (Nat.le_refl _) ?_ _ | ((with_reducible refine below_set ?_ ?_ _); omega) | with_reducible refine Below.alloc ?_ (by first | omega | (simp; omega) | simp) _))) ?_
      · intro w' hSw
        (try dsimp only at hSw)
        go_simp
      (try simp only [List.getElem_toArray, List.getElem_cons_succ, List.getElem_cons_zero, Act.put, List.setIfInBounds_toArray, List.set_cons_zero, List.set_cons_succ])
      refine upto_take (i := 4) (v := .pointer (some ⟨pb, off + a * 2, none⟩)) rfl (by kernel_rfl) (by kernel_rfl) (by kernel_rfl) (by kernel_rfl) (fun _ _ _ h => h) (Or.inl ⟨by rfl, ?_⟩) (hSall _ (by repeat (first | with_reducible exact Below.refl _ _ | with_reducible assumption | with_reducible exact below_new _ _ | with_reducible apply below_drewN | with_reducible apply Below.drew | with_reducible refine below_set (Nat.le_refl _) ?_ _ | ((with_reducible refine below_set ?_ ?_ _); omega) | with_reducible refine Below.alloc ?_ (by first | omega | (simp; omega) | simp) _))) ?_
      · intro w' hSw
        (try dsimp only at hSw)
        go_simp
      (try simp only [List.getElem_toArray, List.getElem_cons_succ, List.getElem_cons_zero, Act.put, List.setIfInBounds_toArray, List.set_cons_zero, List.set_cons_succ])
      refine upto_take (i := 5) (v := .pointer (some ⟨pb, off + a * 2 + 1, none⟩)) rfl (by kernel_rfl) (by kernel_rfl) (by kernel_rfl) (by kernel_rfl) (fun _ _ _ h => h) (Or.inl ⟨by rfl, ?_⟩) (hSall _ (by repeat (first | with_reducible exact Below.refl _ _ | with_reducible assumption | with_reducible exact below_new _ _ | with_reducible apply below_drewN | with_reducible apply Below.drew | with_reducible refine below_set (Nat.le_refl _) ?_ _ | ((with_reducible refine below_set ?_ ?_ _); omega) | with_reducible refine Below.alloc ?_ (by first | omega | (simp; omega) | simp) _))) ?_
      · intro w' hSw
        (try dsimp only at hSw)
        go_simp
      (try simp only [List.getElem_toArray, List.getElem_cons_succ, List.getElem_cons_zero, Act.put, List.setIfInBounds_toArray, List.set_cons_zero, List.set_cons_succ])
      refine upto_take (i := 6) (v := .slice ya yn yc) rfl (by kernel_rfl) (by kernel_rfl) (by kernel_rfl) (by kernel_rfl) (fun _ _ _ h => h) (Or.inl ⟨by rfl, ?_⟩) (hSall _ (by repeat (first | with_reducible exact Below.refl _ _ | with_reducible assumption | with_reducible exact below_new _ _ | with_reducible apply below_drewN | with_reducible apply Below.drew | with_reducible refine below_set (Nat.le_refl _) ?_ _ | ((with_reducible refine below_set ?_ ?_ _); omega) | with_reducible refine Below.alloc ?_ (by first | omega | (simp; omega) | simp) _))) ?_
      · intro w' hSw
        (try dsimp only at hSw)
        go_simp
      (try simp only [List.getElem_toArray, List.getElem_cons_succ, List.getElem_cons_zero, Act.put, List.setIfInBounds_toArray, List.set_cons_zero, List.set_cons_succ])
      refine upto_step (i := 7) (by kernel_rfl) rfl (fun K hK => ?_)
      go_simp
      refine (refenters_any _ ⟨ae, ne, ce, aj, nj, cj, as_, ns, cs, (some ⟨pb, off, none⟩), nl, cl, lv⟩ p ya yn yc yel (hP.out.below (Hb2.out.drew)) (Hints.out.below (Hb2.out.drew)) (by omega) G.out.port).mono ?_
      rintro en v1 ⟨a2, n2, cx2, rfl, hi, hbx⟩
      have hbx : Below w2.heap.size w2 v1 := (Below.refl w2.heap.size w2).drew.trans hbx
      rw [show (enters p yel).isSome = true by rw [Hen.out]; rfl]
      refine hK _ _ (fun _ => (hSall _ (by repeat (first | with_reducible exact Below.refl _ _ | with_reducible assumption | with_reducible exact below_new _ _ | with_reducible apply below_drewN | with_reducible apply Below.drew | with_reducible refine below_set (Nat.le_refl _) ?_ _ | ((with_reducible refine below_set ?_ ?_ _); omega) | with_reducible refine Below.alloc ?_ (by first | omega | (simp; omega) | simp) _)))) ?_
      clear hK K
      (try simp only [List.getElem_toArray, List.getElem_cons_succ, List.getElem_cons_zero, Act.put, List.setIfInBounds_toArray, List.set_cons_zero, List.set_cons_succ])
      refine upto_step (i := 8) (by kernel_rfl) rfl (fun K hK => ?_)
      go_simp
      refine hK _ _ (fun _ => (hSall _ (by repeat (first | with_reducible exact Below.refl _ _ | with_reducible assumption | with_reducible exact below_new _ _ | with_reducible apply below_drewN | with_reducible apply Below.drew | with_reducible refine below_set (Nat.le_refl _) ?_ _ | ((with_reducible refine below_set ?_ ?_ _); omega) | with_reducible refine Below.alloc ?_ (by first | omega | (simp; omega) | simp) _)))) ?_
      clear hK K
      (try simp only [List.getElem_toArray, List.getElem_cons_succ, List.getElem_cons_zero, Act.put, List.setIfInBounds_toArray, List.set_cons_zero, List.set_cons_succ])
      refine upto_take (i := 9) (v := .slice a2 n2 cx2) rfl (by kernel_rfl) (by kernel_rfl) (by kernel_rfl) (by kernel_rfl) (fun _ _ _ h => h) (Or.inl ⟨by rfl, ?_⟩) (hSall _ (by repeat (first | with_reducible exact Below.refl _ _ | with_reducible assumption | with_reducible exact below_new _ _ | with_reducible apply below_drewN | with_reducible apply Below.drew | with_reducible refine below_set (Nat.le_refl _) ?_ _ | ((with_reducible refine below_set ?_ ?_ _); omega) | with_reducible refine Below.alloc ?_ (by first | omega | (simp; omega) | simp) _))) ?_
      · intro w' hSw
        (try dsimp only at hSw)
        go_simp
      (try simp only [List.getElem_toArray, List.getElem_cons_succ, List.getElem_cons_zero, Act.put, List.setIfInBounds_toArray, List.set_cons_zero, List.set_cons_succ])
      refine upto_take (i := 10) (v := .bool true) rfl (by kernel_rfl) (by kernel_rfl) (by kernel_rfl) (by kernel_rfl) (fun _ _ _ h => h) (Or.inl ⟨by rfl, ?_⟩) (hSall _ (by repeat (first | with_reducible exact Below.refl _ _ | with_reducible assumption | with_reducible exact below_new _ _ | with_reducible apply below_drewN | with_reducible apply Below.drew | with_reducible refine below_set (Nat.le_refl _) ?_ _ | ((with_reducible refine below_set ?_ ?_ _); omega) | with_reducible refine Below.alloc ?_ (by first | omega | (simp; omega) | simp) _))) ?_
      · intro w' hSw
        (try dsimp only at hSw)
        go_simp
      (try simp only [List.getElem_toArray, List.getElem_cons_succ, List.getElem_cons_zero, Act.put, List.setIfInBounds_toArray, List.set_cons_zero, List.set_cons_succ])
      refine upto_step (i := 11) (by kernel_rfl) rfl (fun K hK => ?_)
      go_simp
      refine hK _ _ (fun _ => (hSall _ (by repeat (first | with_reducible exact Below.refl _ _ | with_reducible assumption | with_reducible exact below_new _ _ | with_reducible apply below_drewN | with_reducible apply Below.drew | with_reducible refine below_set (Nat.le_refl _) ?_ _ | ((with_reducible refine below_set ?_ ?_ _); omega) | with_reducible refine Below.alloc ?_ (by first | omega | (simp; omega) | simp) _)))) ?_
      clear hK K
      (try simp only [List.getElem_toArray, List.getElem_cons_succ, List.getElem_cons_zero, Act.put, List.setIfInBounds_toArray, List.set_cons_zero, List.set_cons_succ])
      refine upto_step (i := 12) (by kernel_rfl) rfl (fun K hK => ?_)
      go_simp
      refine hK _ _ (fun _ => (hSall _ (by repeat (first | with_reducible exact Below.refl _ _ | with_reducible assumption | with_reducible exact below_new _ _ | with_reducible apply below_drewN | with_reducible apply Below.drew | with_reducible refine below_set (Nat.le_refl _) ?_ _ | ((with_reducible refine below_set ?_ ?_ _); omega) | with_reducible refine Below.alloc ?_ (by first | omega | (simp; omega) | simp) _)))) ?_
      clear hK K
      (try simp only [List.getElem_toArray, List.getElem_cons_succ, List.getElem_cons_zero, Act.put, List.setIfInBounds_toArray, List.set_cons_zero, List.set_cons_succ])
      refine upto_done (by kernel_rfl) (NoPanic.normal ?_) _
      clear hSall
      refine name_world fun V hV => ?_
      have HV := Lib.hid (show Below w2.heap.size w2 V by rw [hV]; repeat (first | with_reducible exact Below.refl _ _ | with_reducible assumption | with_reducible exact below_new _ _ | with_reducible apply below_drewN | with_reducible apply Below.drew | with_reducible refine below_set (Nat.le_refl _) ?_ _ | ((with_reducible refine below_set ?_ ?_ _); omega) | with_reducible refine Below.alloc ?_ (by first | omega | (simp; omega) | simp) _))
      have Hi := Lib.hid (show Ints V a2 n2 (leadList (nextOf p) yel) from by rw [hV]; exact (hi _ Hen.out).below (by repeat (first | with_reducible exact Below.refl _ _ | with_reducible assumption | with_reducible exact below_new _ _ | with_reducible apply below_drewN | with_reducible apply Below.drew | with_reducible refine below_set (Nat.le_refl _) ?_ _ | ((with_reducible refine below_set ?_ ?_ _); omega) | with_reducible refine Below.alloc ?_ (by first | omega | (simp; omega) | simp) _)))
      clear hV hi hbx g1 g2 c0 c1 c2 c3 c4 c5 c6 c7 c8
      obtain ⟨pa, offa, rfl, hpa, ge⟩ := Hi.out.int Hu.out
      have hk2 : k < n2 := get_lt Hi.out.len Hu.out
      by_cases hui : u = i
      · have q1 : (u == i) = true := by simpa using hui
        have Hs2 := Lib.hid (show lead p e i = 1 by rw [Hs.out, if_pos hui])
        clear hui
        go_wp2_with fail
        go_ret
        exact ⟨ret_int Hs2.out.symm, below_step Hb2.out HV.out Hb2.out.size⟩
      · have q1 : (u == i) = false := by simpa using hui
        have Hs2 := Lib.hid (show lead p e i = 2 by rw [Hs.out, if_neg hui])
        clear hui
        go_wp2_with fail
        go_ret
        exact ⟨ret_int Hs2.out.symm, below_step Hb2.out HV.out Hb2.out.size⟩
end Go.Proofs.Ytlndfmflbdkpjaa
