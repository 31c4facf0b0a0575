/- The builtins. -/
import Derived.Test.YtcaeglnfflkabaaGreatEv4
namespace Go.Proofs.YtcaeglnfflkabaaGreat.Ev
section
variable {P : Program} {r : Ren} {h : Heap} {n : Nat} {w : World} {ty : TypeId} {y : Res}

theorem one1_some {α β : Type} {l : List α} {k : α → Option β} {y : β} (h : one1 l k = some y) : ∃ x t, l = x :: t ∧ k x = some y := by
  cases l with
  | nil => cases h
  | cons x t => exact ⟨x, t, rfl, h⟩
theorem RelL.at0 {v : AV} {l : List AV} {xs : Array Value} (hl : RelL r (v :: l) xs) : ∃ x, xs[0]? = some x ∧ Rel r v x := hl.get rfl
theorem RelL.at1 {vs : List AV} {v : AV} {l : List AV} {xs : Array Value} (hl : RelL r vs xs) (e : vs.drop 1 = v :: l) : ∃ x, xs[1]? = some x ∧ Rel r v x :=
  hl.get (by rw [show vs[1]? = (vs.drop 1)[0]? from by simp, e]; rfl)
theorem list_at1 {ts : List TypeId} {t : TypeId} {l : List TypeId} (e : ts.drop 1 = t :: l) : ts[1]? = some t := by
  rw [show ts[1]? = (ts.drop 1)[0]? from by simp, e]; rfl

theorem len_ok (q : Rep r h.get w) {ts : List TypeId} {vs : List AV} {xs : Array Value} (hl : RelL r vs xs) (e : bLen P h n ts ty vs = some y) :
    GivesV P (Builtin.len_ ts.toArray ty xs) r h n w y := by
  obtain ⟨t, tl, ht0, e⟩ := one1_some e
  obtain ⟨x, vl, hv0, e⟩ := one1_some e
  subst ht0; subst hv0
  obtain ⟨X, x1, x2⟩ := hl.at0
  have ht : (t :: tl).toArray[0]? = some t := by simp
  rcases orE_some e with e | e
  · obtain ⟨s, h1, e⟩ := bnd_some e
    obtain ⟨el, h2, e⟩ := bnd_some e
    cases e
    cases slE_some h1
    obtain ⟨B, b, m, c, k, f, hx, _⟩ := sl_inv x2
    subst hx
    refine .pure q (x := goInt s.len) ?_ (.dat _)
    simp only [Builtin.len_, ht, x1, Sem.run_bind, run_underlying (elemE_some h2).1, Result.andThen_ok, Sem.run_pure]
  rcases orE_some e with e | e
  · obtain ⟨i, h1, e⟩ := bnd_some e
    obtain ⟨mt, h2, e⟩ := bnd_some e
    obtain ⟨es, h3, e⟩ := bnd_some e
    cases e
    cases mapE_some h1
    obtain ⟨B, b, m, f, hx⟩ := map_inv x2
    subst hx
    obtain ⟨arr, l⟩ := q.liesM (mapAt_some h3) f
    refine .pure q (x := goInt es.1.length) ?_ (.dat _)
    simp only [Builtin.len_, ht, x1, Sem.run_bind, run_underlying (mapTE_some h2), Result.andThen_ok, run_getObj l.at_, Sem.run_pure, l.size]
  · obtain ⟨v, h1, e⟩ := bnd_some e
    obtain ⟨z, h2, e⟩ := bnd_some e
    cases e
    cases datE_some h1
    rw [dat_inv x2] at x1
    refine .pure q (x := z) ?_ (.dat _)
    have := runD_ok P _ h2 w
    simpa only [Builtin.len_, ht, x1, List.getElem?_toArray, List.getElem?_cons_zero] using this
theorem max_ok (q : Rep r h.get w) {ts : List TypeId} {vs : List AV} {xs : Array Value} (hl : RelL r vs xs) (e : bMax P h n ts ty vs = some y) : GivesV P (Builtin.max_ ts.toArray ty xs) r h n w y := by
  obtain ⟨l, h1, e⟩ := bnd_some e
  obtain ⟨z, h2, e⟩ := bnd_some e
  cases e
  rw [unDL_ok vs h1 hl]
  exact .pure q (runD_ok P _ h2 w) (.dat _)
theorem min_ok (q : Rep r h.get w) {ts : List TypeId} {vs : List AV} {xs : Array Value} (hl : RelL r vs xs) (e : bMin P h n ts ty vs = some y) : GivesV P (Builtin.min_ ts.toArray ty xs) r h n w y := by
  obtain ⟨l, h1, e⟩ := bnd_some e
  obtain ⟨z, h2, e⟩ := bnd_some e
  cases e
  rw [unDL_ok vs h1 hl]
  exact .pure q (runD_ok P _ h2 w) (.dat _)

/-- The cells of a slice. -/
theorem row_ok (q : Rep r h.get w) {sz c : Nat} {v : AV} {l : List AV} {x : Value} (e : rowE h sz v = some (l, c)) (hv : Rel r v x) :
    ∃ base cap xs, x = .slice base c cap ∧ (Builtin.firstCells sz c x).run P w = .ok xs w ∧ RelL r l xs ∧ l.length = c * sz := by
  rcases orE_some e with e | e
  · obtain ⟨s, h1, e⟩ := bnd_some e
    obtain ⟨cs, h2, e⟩ := bnd_some e
    obtain ⟨l', h3, e⟩ := bnd_some e
    cases e
    cases slE_some h1
    obtain ⟨B, b, m, cp, k, f, hx, i1, i2, i3, i4, i5⟩ := sl_inv hv
    subst hx
    obtain ⟨c1, c2⟩ := cut_some h3
    have hlen : l.length = s.len * sz := by rw [c2]; simp only [Nat.mul_eq] at c1; simp; omega
    rcases i4 with i4 | i4
    · subst i4
      obtain ⟨arr, el, hl⟩ := q.lies (cellsAt_some h2) f
      obtain ⟨xs, p1, p2⟩ := hl.loads P h3
      exact ⟨_, _, xs, rfl, by simpa [Builtin.firstCells] using p1, p2, hlen⟩
    · have : s.len = 0 := by omega
      rw [this, Nat.zero_mul] at hlen
      have hn : l = [] := List.eq_nil_of_length_eq_zero hlen
      subst hn
      exact ⟨_, _, #[], rfl, by simp [Builtin.firstCells, this, loadCells, loadCellsFrom], .nil r, by rw [this]; simp⟩
  · obtain ⟨_, h1, e⟩ := bnd_some e
    cases e
    rw [nilE_some h1] at hv
    rw [dat_inv hv]
    exact ⟨_, _, #[], rfl, rfl, .nil r, by simp⟩

/-- Cells laid anew, wherever the slice lies that has none. -/
theorem set_sl {s : SlD} {off : Nat} {vs : List AV} {xs : Array Value} {v : AV} {B b m k : Nat} (q : Rep r h.get w) (hv : RelL r vs xs) (e : setE h n s.id (s.off + off) vs v = some y)
    (f : r s.id = some (B, b, m)) (hk : k = b + s.off ∨ xs = #[]) :
    ∃ w', (storeCells ⟨B, k + off, none⟩ xs.toList).run P w = .ok () w' ∧ y.v = v ∧ y.n = n ∧ Post r h.get y.h.get n n w w' r := by
  obtain ⟨w', g1, g2⟩ := set_ok (P := P) q hv e f
  rcases hk with hk | hk
  · subst hk
    refine ⟨w', ?_, g2⟩
    rw [Nat.add_assoc]; exact g1
  · subst hk
    exact ⟨w', by simpa [storeCells] using g1, g2⟩

theorem grow_bound (nl : Nat) : ∀ (k c : Nat), Builtin.growBy nl k c ≤ (c + 768) * 2 ^ k := by
  intro k
  induction k with
  | zero => intro c; simp [Builtin.growBy]
  | succ k ih =>
    intro c
    simp only [Builtin.growBy]
    split
    · have : 1 ≤ 2 ^ (k + 1) := Nat.one_le_two_pow
      calc c ≤ (c + 768) * 1 := by omega
        _ ≤ _ := Nat.mul_le_mul_left _ this
    · refine Nat.le_trans (ih _) ?_
      rw [Nat.pow_succ, Nat.mul_comm (2 ^ k) 2, ← Nat.mul_assoc]
      exact Nat.mul_le_mul_right _ (by omega)
theorem next_bound {need c : Nat} (h : c < need) (hn : need ≤ 10000) : Builtin.nextslicecap need c ≤ 200000 := by
  unfold Builtin.nextslicecap
  split
  · omega
  · split
    · omega
    · have h1 : Builtin.growBy need 4 c ≤ (c + 768) * 16 := grow_bound need 4 c
      exact Nat.le_trans h1 (Nat.le_trans (Nat.mul_le_mul_right 16 (show c + 768 ≤ 10768 by omega)) (by decide))

/-- What grows lies in a new block. -/
theorem grow_new {P : Program} {el : TypeId} {sz need nc bytes : Nat} {h0 : Heap} {old new : List AV} {xo xn rest : Array Value} {w1 : World} (q : Rep r h.get w)
    (hsub : ∀ j b, h0.get j = some b → h.get j = some b) (hw : w1.heap = w.heap) (hos : w1.os = w.os) (htape : w1.tape = w.tape) (hout : w1.output = w.output)
    (ho : RelL r old xo) (hn : RelL r new xn) (hcap : need ≤ nc) (hsize : nc * sz ≤ (xo ++ xn ++ rest).size) (e : growE h0 n sz need bytes (old ++ new) = some y) :
    need ≤ 10000 ∧ bytes ≤ 10000 ∧ n ≤ y.n ∧ (Free r n y.n → ∃ w' r', (newRow el (xo ++ xn ++ rest)).run P w1 = .ok ⟨w1.heap.size, 0, none⟩ w' ∧
      Rel r' y.v (.slice (some ⟨w1.heap.size, 0, none⟩) need nc) ∧ Post r h.get y.h.get n y.n w w' r') := by
  obtain ⟨c1, e⟩ := iff_some e
  simp only [Bool.and_eq_true] at c1
  cases e
  refine ⟨ble_le c1.1, ble_le c1.2, Nat.le_succ n, fun f => ?_⟩
  have q0 : Rep r h0.get w1 := (q.sub hsub).heap hw
  have hc : RelL r (old ++ new) (xo ++ xn) := by
    refine ⟨by simp [ho.1, hn.1], fun i v x ei ex => ?_⟩
    by_cases g : i < old.length
    · rw [List.getElem?_append_left g] at ei
      rw [Array.getElem?_append_left (by rw [ho.1]; exact g)] at ex
      exact ho.2 i v x ei ex
    · rw [List.getElem?_append_right (by omega)] at ei
      rw [Array.getElem?_append_right (by rw [ho.1]; omega), ho.1] at ex
      exact hn.2 _ v x ei ex
  obtain ⟨g1, g2⟩ := new_cells (P := P) (el := el) (cs := old ++ new) (xs := xo ++ xn ++ rest) q0 (by rw [Array.size_append, ← hc.1]; omega) (fun i v ei => by
    obtain ⟨x, p, k⟩ := hc.get ei
    exact ⟨x, by rw [Array.getElem?_append_left (Array.getElem?_eq_some_iff.1 p).1]; exact p, k⟩) (f n (Nat.le_refl _) (Nat.lt_succ_self _))
  refine ⟨_, r.add n (w1.heap.size, 0, (xo ++ xn ++ rest).size), g1, .sl (Ren.add_same _ _ _) (Nat.le_refl _) hcap (fun c => by cases c) (.inl rfl) (by omega), ?_⟩
  exact (Post.same (n := n) (n' := n) q hsub hw hos htape hout).trans g2 (Nat.le_refl _) (Nat.le_succ n)

/-- What grows in its place bears a new name. -/
theorem grow_turn {P : Program} {s : SlD} {sz cnt bytes B b m k c : Nat} {cs old new : List AV} {xn : Array Value} (q : Rep r h.get w) (hi : cellsAt h s.id = some cs) (f : r s.id = some (B, b, m))
    (hcut : cut cs s.off (s.len * sz) = some old) (hk : k = b + s.off ∨ s.cap = 0) (hlen : s.len ≤ s.cap) (hroom : k + c * sz ≤ m) (hn : RelL r new xn) (hnl : new.length = cnt * sz)
    (hcell : new.all cellA = true) (hc : s.len + cnt ≤ c) (e : growE (h.put s.id none) n sz (s.len + cnt) bytes (old ++ new) = some y) :
    n ≤ y.n ∧ (Free r n y.n → ∃ w' r', (storeCells ⟨B, k + s.len * sz, none⟩ xn.toList).run P w = .ok () w' ∧
      Rel r' y.v (.slice (some ⟨B, k, none⟩) (s.len + cnt) c) ∧ Post r h.get y.h.get n y.n w w' r') := by
  obtain ⟨c1, e⟩ := iff_some e
  cases e
  refine ⟨Nat.le_succ n, fun g => ?_⟩
  have g0 := g n (Nat.le_refl _) (Nat.lt_succ_self _)
  obtain ⟨arr, el, hl⟩ := q.lies (cellsAt_some hi) f
  obtain ⟨d1, d2⟩ := cut_some hcut
  have hr := hl.room
  have hs := hl.size
  have hmul : s.len * sz + cnt * sz ≤ c * sz := by rw [← Nat.add_mul]; exact Nat.mul_le_mul_right _ hc
  have hxn := hn.1
  have hone : ∀ x ∈ xn.toList, x.oneCell' = true := by
    intro x hx
    obtain ⟨j, hj⟩ := List.getElem?_of_mem hx
    rw [Array.getElem?_toList] at hj
    have hlt : j < new.length := by rw [← hxn]; exact (Array.getElem?_eq_some_iff.1 hj).1
    exact cellA_one (hn.2 j new[j] x (List.getElem?_eq_getElem hlt) hj) (List.all_eq_true.1 hcell _ (List.getElem_mem hlt))
  have hol : old.length = s.len * sz := by rw [d2]; simp; omega
  obtain ⟨w', arr', g1, g2, g3, g4, g5, g6, g7, g8, g9⟩ := storeFrom (P := P) (B := B) (o := k + s.len * sz) (el := el) xn.toList 0 w arr hl.at_ (by simp; omega) hone
  refine ⟨w', r.add n (B, k, m), g1, .sl (Ren.add_same _ _ _) (Nat.le_refl _) hc (fun c => by cases c) (.inl rfl) hroom, .turn q (cellsAt_some hi) f g0 ?_ g2 g3 g4 g5 g6⟩
  rw [g7]
  refine .cells (by omega) (by simp; omega) fun j u ej => ?_
  rw [g9]
  by_cases j1 : j < old.length
  · rw [List.getElem?_append_left j1] at ej
    rw [if_neg (by omega)]
    have hk : k = b + s.off := hk.resolve_right (by
      intro c0
      have : s.len = 0 := by omega
      rw [this, Nat.zero_mul] at hol; omega)
    subst d2
    rw [List.getElem?_take, if_pos (by omega), List.getElem?_drop] at ej
    obtain ⟨x, p, p'⟩ := hl.cell _ u ej
    exact ⟨x, by rw [hk, Nat.add_assoc]; exact p, p'.mono (Ren.add_le g0)⟩
  · rw [List.getElem?_append_right (by omega)] at ej
    obtain ⟨x, p, p'⟩ := hn.get ej
    have hj : j - old.length < new.length := (List.getElem?_eq_some_iff.1 ej).1
    rw [if_pos ⟨by omega, by simp; omega⟩]
    refine ⟨x, ?_, p'.mono (Ren.add_le g0)⟩
    rw [Array.getElem?_toList, show k + j - (k + s.len * sz + 0) = j - old.length from by omega]
    exact p

theorem zeroCells_size (z : Array Value) (k : Nat) : (Builtin.zeroCells z k).size = k * z.size := by simp [Builtin.zeroCells]
set_option maxHeartbeats 4000000 in
theorem append_ok (q : Rep r h.get w) {ts : List TypeId} {vs : List AV} {xs : Array Value} (hl : RelL r vs xs) (e : bAppend P h n ts ty vs = some y) :
    GivesV P (Builtin.append_ ts.toArray ty xs) r h n w y := by
  obtain ⟨t, tl, ht0, e⟩ := one1_some e
  obtain ⟨s, vl, hv0, e⟩ := one1_some e
  obtain ⟨x, vl', hv1, e⟩ := one1_some e
  obtain ⟨xt, tl', ht1, e⟩ := one1_some e
  obtain ⟨el, h1, e⟩ := bnd_some e
  obtain ⟨z, h2, e⟩ := bnd_some e
  obtain ⟨i, h3, e⟩ := bnd_some e
  obtain ⟨xd, h4, e⟩ := bnd_some e
  obtain ⟨h5, e⟩ := iff_some e
  obtain ⟨row, h6, e⟩ := bnd_some e
  obtain ⟨h7, e0⟩ := iff_some e
  have t1 := list_at1 ht1
  have x1 := hl.at1 hv1
  subst ht0; subst hv0
  obtain ⟨S, s1, s2⟩ := hl.at0
  obtain ⟨X, x1, x2⟩ := x1
  obtain ⟨g1, g2⟩ := elemE_some h1
  obtain ⟨zv, g3, g4⟩ := zeroE_some h2
  simp only [Bool.and_eq_true] at h5
  have hz : zv.cells.size = el.2 := by have := beq_eq h5.2; rw [g4] at this; simpa using this
  have hxd : (xd matches .int _) = false := by have := h5.1; cases xd <;> first | rfl | (simp [intD] at this)
  obtain ⟨rl, rc⟩ := row
  obtain ⟨xb, xcap, xn, rfl, f1, f2, f3⟩ := row_ok (P := P) q h6 x2
  have t0 : (t :: tl).toArray[0]? = some t := by simp
  have t1' : (t :: tl).toArray[1]? = some xt := by simpa using t1
  rcases orE_some e0 with e | e
  · obtain ⟨sd, k1, e⟩ := bnd_some e
    obtain ⟨k2, e9⟩ := iff_some e
    have k2 := beq_eq k2
    simp only at e9
    clear e e0
    cases slE_some k1
    obtain ⟨B, b, m, c, k, f, hx, i1, i2, i3, i4, i5⟩ := sl_inv s2
    subst hx
    cases hb : Nat.ble (Nat.add sd.len rc) sd.cap with
    | true =>
      rw [hb] at e9
      simp only [Nat.add_eq, Nat.mul_eq] at e9 hb
      have hle := ble_le hb
      obtain ⟨w', p1, p2, p3, p4⟩ := set_sl (P := P) (off := sd.len * el.2) q f2 e9 f (i4.imp id fun c0 => by
        have : rc = 0 := by omega
        rw [this, Nat.zero_mul] at f3
        exact Array.eq_empty_of_size_eq_zero (by rw [f2.1, f3]))
      refine ⟨by rw [p3]; exact Nat.le_refl _, fun _ => ⟨.slice (some ⟨B, k, none⟩) (sd.len + rc) c, w', r, ?_, ?_, by rw [p3]; exact p4⟩⟩
      · have hc : sd.len + rc ≤ c := by omega
        cases xd <;> first
          | (exfalso; simp [intD] at h5; done)
          | simp only [Builtin.append_, t0, t1', s1, x1, Sem.run_bind, run_underlying g1, Result.andThen_ok, run_sizeOf g2, run_underlying h4, Sem.run_pure, Builtin.lenOf, hc, if_true, Bool.false_eq_true, if_false,
              Bool.not_false, f1, addr_add, p1]
      · rw [p2]
        exact .sl f hle i2 i3 i4 (by rw [k2]; exact i5)
    | false =>
      rw [hb] at e9
      simp only [Nat.add_eq, Nat.mul_eq] at e9 hb
      have hgt : ¬ (sd.len + rc ≤ sd.cap) := fun hle => by rw [Nat.ble_eq_true_of_le hle] at hb; cases hb
      obtain ⟨cs, c1, e8⟩ := bnd_some e9
      obtain ⟨old, c2, e7⟩ := bnd_some e8
      by_cases hc : sd.len + rc ≤ c
      · -- there is room
        have hex : sd.ex = false := by
          cases hx : sd.ex with
          | false => rfl
          | true => have := i3 hx; omega
        rw [hex] at e7
        obtain ⟨p1, p2⟩ := grow_turn (P := P) (cnt := rc) (k := k) (c := c) q c1 f c2 i4 i1 (by rw [k2]; exact i5) f2 f3 h7 hc e7
        refine ⟨p1, fun fr => ?_⟩
        obtain ⟨w', r', u1, u2, u3⟩ := p2 fr
        refine ⟨_, w', r', ?_, u2, u3⟩
        cases xd <;> first
          | (exfalso; simp [intD] at h5; done)
          | simp only [Builtin.append_, t0, t1', s1, x1, Sem.run_bind, run_underlying g1, Result.andThen_ok, run_sizeOf g2, run_underlying h4, Sem.run_pure, Builtin.lenOf, hc, if_true, Bool.false_eq_true, if_false,
              Bool.not_false, f1, addr_add, u1]
      · -- it grows
        have hsub : ∀ j b, (Bool.rec (h.put sd.id none) h sd.ex : Heap).get j = some b → h.get j = some b := by
          cases sd.ex with
          | true => exact fun _ _ e => e
          | false => intro j b e; rw [T.get_put] at e; split at e <;> first | cases e | exact e
        have hrow : rowE h el.2 (.sl sd.id sd.off sd.len sd.cap sd.sz sd.ex) = some (old, sd.len) := by
          simp only [rowE, slE, bnd, c1, Nat.mul_eq, c2, orE]
        let w1 : World := { w with drawn := w.drawn + 1 }
        have q1 : Rep r h.get w1 := q.heap rfl
        obtain ⟨_, _, xo, hSx, a1, a2, a3⟩ := row_ok (P := P) q1 hrow s2
        obtain ⟨_, _, xn', hX, b1, b2, b3⟩ := row_ok (P := P) q1 h6 x2
        cases hSx
        let nc := (sd.len + rc) + w.tape w.drawn (.appendCap (sd.len + rc) c el.1) % (2 ^ 63 - (sd.len + rc))
        obtain ⟨v1, v2, v3, v4⟩ := grow_new (P := P) (el := el.1) (w1 := w1) (nc := nc) (rest := Builtin.zeroCells zv.cells (nc - (sd.len + rc))) q hsub rfl rfl rfl rfl a2 b2 (Nat.le_add_right _ _)
          (by rw [Array.size_append, Array.size_append, a2.1, b2.1, a3, b3, zeroCells_size, hz, ← Nat.add_mul, ← Nat.add_mul]; exact Nat.mul_le_mul_right _ (by omega)) e7
        refine ⟨v3, fun fr => ?_⟩
        obtain ⟨w', r', u1, u2, u3⟩ := v4 fr
        refine ⟨_, w', r', ?_, u2, u3⟩
        have hm : ¬ (((sd.len + rc : Nat) : Int) > IntKind.i64.max) := by simp [IntKind.max, IntKind.signed, IntKind.bits]; omega
        have hn2 : ¬ (Builtin.nextslicecap (sd.len + rc) c * i.bytes > 2 ^ 48) := by
          have := Nat.mul_le_mul (next_bound (need := sd.len + rc) (c := c) (by omega) v1) v2
          have h48 : (2 : Nat) ^ 48 = 281474976710656 := by decide
          omega
        cases xd <;> first
          | (exfalso; simp [intD] at h5; done)
          | (simp only [Builtin.append_, t0, t1', s1, x1, Sem.run_bind, run_underlying g1, Result.andThen_ok, run_sizeOf g2, run_underlying h4, Sem.run_pure, Builtin.lenOf, hc, Bool.false_eq_true, if_false,
              Bool.not_false, run_typeInfo h3, hm, false_and, hn2, run_choose, Question.forced, Question.cut, if_true]
             simp only [run_askRoom, Result.andThen_ok, run_zero g3]
             rw [a1]; simp only [Result.andThen_ok]; rw [b1]; simp only [Result.andThen_ok]
             rw [u1]; rfl)
  · obtain ⟨_, k1, e9⟩ := bnd_some e
    simp only at e9
    clear e e0
    rw [nilE_some k1] at s2 e9
    have hS := dat_inv s2
    subst hS
    cases hb : Nat.beq rc 0 with
    | true =>
      rw [hb] at e9
      cases e9
      have hrc := beq_eq hb
      subst hrc
      refine .pure q (x := .slice none 0 0) ?_ (.dat _)
      cases xd <;> first
        | (exfalso; simp [intD] at h5; done)
        | simp only [Builtin.append_, t0, t1', s1, x1, Sem.run_bind, run_underlying g1, Result.andThen_ok, run_sizeOf g2, run_underlying h4, Sem.run_pure, Builtin.lenOf, if_true, Bool.false_eq_true, if_false,
            Bool.not_false, f1, Nat.add_zero, Nat.le_refl]
    | false =>
      rw [hb] at e9
      have hrc : 0 < rc := by
        rcases Nat.eq_zero_or_pos rc with h0 | h0
        · subst h0; cases hb
        · exact h0
      have hc : ¬ (0 + rc ≤ 0) := by omega
      let w1 : World := { w with drawn := w.drawn + 1 }
      have q1 : Rep r h.get w1 := q.heap rfl
      obtain ⟨_, _, xn', hX, b1, b2, b3⟩ := row_ok (P := P) q1 h6 x2
      have a1 : (Builtin.firstCells el.2 0 (.slice none 0 0)).run P w1 = .ok #[] w1 := rfl
      let nc := (0 + rc) + w.tape w.drawn (.appendCap (0 + rc) 0 el.1) % (2 ^ 63 - (0 + rc))
      have e8 : growE h n el.2 (0 + rc) i.bytes ([] ++ rl) = some y := by rw [Nat.zero_add]; exact e9
      obtain ⟨v1, v2, v3, v4⟩ := grow_new (P := P) (el := el.1) (w1 := w1) (nc := nc) (rest := Builtin.zeroCells zv.cells (nc - (0 + rc))) q (fun _ _ e => e) rfl rfl rfl rfl (RelL.nil r) b2 (Nat.le_add_right _ _)
        (by rw [Array.size_append, Array.size_append, b2.1, b3, zeroCells_size, hz]; simp only [List.size_toArray, List.length_nil]; rw [Nat.zero_add, ← Nat.add_mul]; exact Nat.mul_le_mul_right _ (by omega)) e8
      refine ⟨v3, fun fr => ?_⟩
      obtain ⟨w', r', u1, u2, u3⟩ := v4 fr
      refine ⟨_, w', r', ?_, u2, u3⟩
      have hm : ¬ (((0 + rc : Nat) : Int) > IntKind.i64.max) := by simp [IntKind.max, IntKind.signed, IntKind.bits]; omega
      have hn2 : ¬ (Builtin.nextslicecap (0 + rc) 0 * i.bytes > 2 ^ 48) := by
        have := Nat.mul_le_mul (next_bound (need := 0 + rc) (c := 0) (by omega) v1) v2
        have h48 : (2 : Nat) ^ 48 = 281474976710656 := by decide
        omega
      cases xd <;> first
        | (exfalso; simp [intD] at h5; done)
        | (simp only [Builtin.append_, t0, t1', s1, x1, Sem.run_bind, run_underlying g1, Result.andThen_ok, run_sizeOf g2, run_underlying h4, Sem.run_pure, Builtin.lenOf, hc, Bool.false_eq_true, if_false,
            Bool.not_false, run_typeInfo h3, hm, false_and, hn2, run_choose, Question.forced, Question.cut, if_true]
           simp only [run_askRoom, Result.andThen_ok, run_zero g3]
           rw [a1]; simp only [Result.andThen_ok]; rw [b1]; simp only [Result.andThen_ok]
           rw [u1]; rfl)

theorem copy_ok (q : Rep r h.get w) {ts : List TypeId} {vs : List AV} {xs : Array Value} (hl : RelL r vs xs) (e : bCopy P h n ts ty vs = some y) : GivesV P (Builtin.copy_ ts.toArray ty xs) r h n w y := by
  obtain ⟨t, tl, ht0, e⟩ := one1_some e
  obtain ⟨d, vl, hv0, e⟩ := one1_some e
  obtain ⟨s, vl', hv1, e⟩ := one1_some e
  obtain ⟨el, h1, e⟩ := bnd_some e
  obtain ⟨sd, h2, e⟩ := bnd_some e
  obtain ⟨ss, h3, e⟩ := bnd_some e
  obtain ⟨cs, h4, e⟩ := bnd_some e
  obtain ⟨new, h5, e9⟩ := bnd_some e
  clear e
  have x1 := hl.at1 hv1
  subst ht0; subst hv0
  obtain ⟨S, s1, s2⟩ := hl.at0
  obtain ⟨X, x1, x2⟩ := x1
  obtain ⟨g1, g2⟩ := elemE_some h1
  cases slE_some h2
  cases slE_some h3
  obtain ⟨B, b, m, c, k, f, hx, i1, i2, i3, i4, i5⟩ := sl_inv s2
  obtain ⟨B', b', m', c', k', f', hx', i1', i2', i3', i4', i5'⟩ := sl_inv x2
  subst hx; subst hx'
  have t0 : (t :: tl).toArray[0]? = some t := by simp
  simp only [Nat.mul_eq] at h5
  obtain ⟨c1, c2⟩ := cut_some h5
  have hnl : new.length = Nat.min ss.len sd.len * el.2 := by rw [c2]; simp; omega
  -- the cells of the source
  have hsrc : ∃ xs', (loadCells ⟨B', k', none⟩ (Nat.min ss.len sd.len * el.2)).run P w = .ok xs' w ∧ RelL r new xs' := by
    rcases i4' with i4' | i4'
    · subst i4'
      obtain ⟨arr, el', l⟩ := q.lies (cellsAt_some h4) f'
      exact l.loads P h5
    · have h0 : Nat.min ss.len sd.len = 0 := (by have h0' : ss.len = 0 := (by omega); rw [h0']; exact Nat.zero_min _)
      rw [h0, Nat.zero_mul] at hnl ⊢
      have hn : new = [] := List.eq_nil_of_length_eq_zero hnl
      subst hn
      exact ⟨#[], by simp [loadCells, loadCellsFrom], .nil r⟩
  obtain ⟨xs', p1, p2⟩ := hsrc
  obtain ⟨w', u1, u2, u3, u4⟩ := set_sl (P := P) (off := 0) q p2 e9 f (i4.imp id fun c0 => by
    have : Nat.min ss.len sd.len = 0 := (by have h0' : sd.len = 0 := (by omega); rw [h0']; exact Nat.min_zero _)
    rw [this, Nat.zero_mul] at hnl
    exact Array.eq_empty_of_size_eq_zero (by rw [p2.1, hnl]))
  refine ⟨by rw [u3]; exact Nat.le_refl _, fun _ => ⟨goInt (Nat.min ss.len sd.len), w', r, ?_, by rw [u2]; exact .dat _, by rw [u3]; exact u4⟩⟩
  simp only [Builtin.copy_, t0, s1, x1, Sem.run_bind, run_underlying g1, Result.andThen_ok, run_sizeOf g2, Builtin.lenOf, Builtin.firstCells, Sem.run_pure, p1]
  rw [Nat.add_zero] at u1
  rw [u1]; rfl
theorem clear_ok (q : Rep r h.get w) {ts : List TypeId} {vs : List AV} {xs : Array Value} (hl : RelL r vs xs) (e : bClear P h n ts ty vs = some y) : GivesV P (Builtin.clear_ ts.toArray ty xs) r h n w y := by
  obtain ⟨t, tl, ht0, e⟩ := one1_some e
  obtain ⟨x, vl, hv0, e⟩ := one1_some e
  obtain ⟨el, h1, e⟩ := bnd_some e
  obtain ⟨sd, h2, e⟩ := bnd_some e
  obtain ⟨z, h3, e9⟩ := bnd_some e
  clear e
  subst ht0; subst hv0
  obtain ⟨S, s1, s2⟩ := hl.at0
  obtain ⟨g1, g2⟩ := elemE_some h1
  obtain ⟨zv, g3, g4⟩ := zeroE_some h3
  subst g4
  cases slE_some h2
  obtain ⟨B, b, m, c, k, f, hx, i1, i2, i3, i4, i5⟩ := sl_inv s2
  subst hx
  have t0 : (t :: tl).toArray[0]? = some t := by simp
  have hrep : RelL r (repE sd.len (zv.cells.toList.map .dat)) (Builtin.zeroCells zv.cells sd.len) := rep_ok (RelL.dat r zv.cells) sd.len
  obtain ⟨w', u1, u2, u3, u4⟩ := set_sl (P := P) (off := 0) q hrep e9 f (i4.imp id fun c0 => by
    have : sd.len = 0 := by omega
    rw [this]; exact Array.eq_empty_of_size_eq_zero (by rw [zeroCells_size, Nat.zero_mul]))
  rw [Nat.add_zero] at u1
  refine ⟨by rw [u3]; exact Nat.le_refl _, fun _ => ⟨undef, w', r, ?_, by rw [u2]; exact .dat _, by rw [u3]; exact u4⟩⟩
  rcases Nat.eq_zero_or_pos sd.len with hz | hz
  · rw [hz] at u1 s1
    have : Builtin.zeroCells zv.cells 0 = #[] := Array.eq_empty_of_size_eq_zero (by rw [zeroCells_size, Nat.zero_mul])
    rw [this] at u1
    cases u1
    simp only [Builtin.clear_, t0, s1, Sem.run_bind, run_underlying g1, Result.andThen_ok, Sem.run_pure]; rfl
  · obtain ⟨j, hj⟩ : ∃ j, sd.len = j + 1 := ⟨sd.len - 1, by omega⟩
    rw [hj] at u1 s1
    simp only [Builtin.clear_, t0, s1, Sem.run_bind, run_underlying g1, Result.andThen_ok, run_zero g3, u1, Sem.run_pure]; rfl
theorem put_self {h : Heap} {i : Nat} {b : Blk} (e : h.get i = some b) : (h.put i (some b)).get = h.get := by
  funext j
  rw [T.get_put]
  split
  · rename_i g; subst g; exact e.symm
  · rfl
theorem delete_ok (q : Rep r h.get w) {ts : List TypeId} {vs : List AV} {xs : Array Value} (hl : RelL r vs xs) (e : bDelete P h n ts ty vs = some y) : GivesV P (Builtin.delete_ ts.toArray ty xs) r h n w y := by
  obtain ⟨t, tl, ht0, e⟩ := one1_some e
  obtain ⟨m, vl, hv0, e⟩ := one1_some e
  obtain ⟨x, vl', hv1, e⟩ := one1_some e
  obtain ⟨mt, h1, e⟩ := bnd_some e
  obtain ⟨i, h2, e⟩ := bnd_some e
  obtain ⟨es, h3, e⟩ := bnd_some e
  obtain ⟨key, h4, e⟩ := bnd_some e
  obtain ⟨o, h5, e9⟩ := bnd_some e
  clear e
  have x1 := hl.at1 hv1
  subst ht0; subst hv0
  obtain ⟨S, s1, s2⟩ := hl.at0
  obtain ⟨X, x1, x2⟩ := x1
  have hk := toD_ok h4 x2
  subst hk
  have hm := mapTE_some h1
  have hi := mapAt_some h3
  cases mapE_some h2
  obtain ⟨B, b, s, f, hmv⟩ := map_inv s2
  subst hmv
  obtain ⟨arr, l⟩ := q.liesM hi f
  obtain ⟨f1, r', f2, f3, f4⟩ := find_ok l.keys h5 w
  have t0 : (t :: tl).toArray[0]? = some t := by simp
  have hem := isEmpty_eq l.size
  cases o with
  | none =>
    cases r' with
    | some p => simp at f3
    | none =>
      cases e9
      obtain ⟨u1, u2⟩ := set_map (P := P) (n := n) (c' := es.2) q hi f l l.ents
      rw [put_self hi] at u2
      refine ⟨Nat.le_refl _, fun _ => ⟨undef, _, r, ?_, .dat _, u2⟩⟩
      simp only [Builtin.delete_, t0, s1, x1, Sem.run_bind, run_underlying hm, Result.andThen_ok, run_getObj l.at_, hem, f1, f2, u1, Sem.run_pure]; rfl
  | some j =>
    cases r' with
    | none => simp at f3
    | some p =>
      cases e9
      simp only [Option.map_some, Option.some.injEq] at f3
      obtain ⟨pj, pv⟩ := p
      simp only at f3
      subst f3
      have hj : pj < es.1.length := by
        have := f4 pj pv rfl
        rw [← l.size]
        cases hp : arr.toList[pj]? with
        | none => rw [hp] at this; cases this
        | some z => rw [Array.getElem?_toList] at hp; exact (Array.getElem?_eq_some_iff.1 hp).1
      obtain ⟨u1, u2⟩ := set_map (P := P) (n := n) (c' := es.2) q hi f l (l.ents.erase hj)
      refine ⟨Nat.le_refl _, fun _ => ⟨undef, _, r, ?_, .dat _, u2⟩⟩
      simp only [Builtin.delete_, t0, s1, x1, Sem.run_bind, run_underlying hm, Result.andThen_ok, run_getObj l.at_, hem, f1, f2, u1, Sem.run_pure]; rfl
end
end Go.Proofs.YtcaeglnfflkabaaGreat.Ev

namespace Go.Proofs.YtcaeglnfflkabaaGreat.Ev

/-- What is reckoned of a call, holds. -/
def CallsOk (P : Program) (call : CallE) : Prop := ∀ f vs h n y, call f vs h n = some y → n ≤ y.n ∧ (∃ fn c, P.funcs[f]? = some fn ∧ fn.body = some c ∧ (fn.name == "runtime.NumGoroutine") = false) ∧
  ∀ r w xs, RelL r vs xs → Rep r h.get w → Free r n y.n → Calls P f xs w fun e w' => ∃ x r', e = .returned x ∧ Rel r' y.v x ∧ Post r h.get y.h.get n y.n w w' r'

section
variable {P : Program} {r : Ren} {env : T AV} {a : Go.Act} {N : Nat} {h : Heap} {n : Nat} {w : World} {ty : TypeId} {call : CallE} {y : Res}

/-- An operation does what is reckoned. -/
def OpDoes (P : Program) (o : Oper) (r : Ren) (a : Go.Act) (h : Heap) (n : Nat) (w : World) (y : Res) : Prop :=
  ∀ (next : Go.Act → World → Prop) (Q : Exit → Go.Act → World → Prop), (∀ x w' r', Rel r' y.v x → Post r h.get y.h.get n y.n w w' r' → next (a.put o.dst x) w') → o.wp P a w next Q

theorem does_value {o : Oper} {s : Sem Value} (hs : execOp a.eval o = (do pure (.value (← s)) : Sem Next)) (g : GivesV P s r h n w y) (f : Free r n y.n) : OpDoes P o r a h n w y := by
  intro next Q hn
  obtain ⟨x, w', r', h1, h2, h3⟩ := g.2 f
  unfold Oper.wp
  rw [hs]
  simp only [Sem.run_bind, h1, Result.andThen_ok, Sem.run_pure]
  exact hn x w' r' h2 h3
theorem does_unit {o : Oper} {s : Sem Unit} (hs : execOp a.eval o = (do s; pure .skip : Sem Next)) (g : GivesU P s r h n w y) (f : Free r n y.n) : OpDoes P o r a h n w y := by
  intro next Q hn
  obtain ⟨w', r', h1, h2, h3⟩ := g.2 f
  unfold Oper.wp
  rw [hs]
  simp only [Sem.run_bind, h1, Result.andThen_ok, Sem.run_pure]
  exact hn undef w' r' (by rw [h2]; exact .dat _) h3
theorem does_pure {o : Oper} {x : Value} (q : Rep r h.get w) (hs : execOp a.eval o = (pure (.value x) : Sem Next)) {v : AV} (hv : Rel r v x) : OpDoes P o r a h n w ⟨v, h, n⟩ := by
  intro next Q hn
  unfold Oper.wp
  rw [hs]
  exact hn x w r hv (.refl q)

theorem callV_ok (hc : CallsOk P call) (k : EnvRel r env a N) (q : Rep r h.get w) {o : Oper} {c : Call} {f : Operand} (ho : o.op = .call c) (hf : c.callee = .value f)
    (e : callV f c.args P call env h n o.type = some y) (fr : Free r n y.n) : OpDoes P o r a h n w y := by
  obtain ⟨v, h1, e⟩ := bnd_some e
  obtain ⟨g, h2, e⟩ := bnd_some e
  obtain ⟨i, h3, e⟩ := bnd_some e
  obtain ⟨vs, h4, e⟩ := bnd_some e
  have hv := ev_ok k h1
  have hg : v = .fn g.1 g.2.1 g.2.2 := by cases v <;> simp [fnA] at h2; subst h2; rfl
  have hi : g.1 = .func i := by cases hh : g.1 <;> rw [hh] at h3 <;> simp [funcF] at h3; subst h3; rfl
  rw [hg, hi] at hv
  obtain ⟨X, hX⟩ : ∃ X, X = a.eval f := ⟨_, rfl⟩
  rw [← hX] at hv
  cases hv with
  | @fn _ _ _ xs ys a1 a2 b1 b2 =>
    have hl := evL_ok k _ h4
    rw [show (c.args.toList.map a.eval).toArray = c.args.map a.eval from by apply Array.ext'; simp] at hl
    have hall : RelL r (g.2.1 ++ (vs ++ g.2.2)) ((xs ++ c.args.map a.eval) ++ ys) := by
      refine ⟨by rw [Array.size_append, Array.size_append, a1, b1, hl.1]; simp; omega, fun j u z ej ez => ?_⟩
      by_cases c1 : j < g.2.1.length
      · rw [List.getElem?_append_left c1] at ej
        rw [Array.getElem?_append_left (by rw [Array.size_append]; omega), Array.getElem?_append_left (by omega)] at ez
        exact a2 j u z ej ez
      · rw [List.getElem?_append_right (by omega)] at ej
        by_cases c2 : j - g.2.1.length < vs.length
        · rw [List.getElem?_append_left c2] at ej
          rw [Array.getElem?_append_left (by rw [Array.size_append, hl.1]; omega), Array.getElem?_append_right (by omega), a1] at ez
          exact hl.2 _ u z ej ez
        · rw [List.getElem?_append_right (by omega)] at ej
          rw [Array.getElem?_append_right (by rw [Array.size_append, hl.1]; omega), Array.size_append, a1, hl.1] at ez
          exact b2 _ u z ej (by rw [show j - g.2.1.length - vs.length = j - (g.2.1.length + vs.length) from by omega]; exact ez)
    obtain ⟨_, ⟨fn, cd, f1, f2, f3⟩, hcall⟩ := hc i _ h n y e
    intro next Q hn
    unfold Oper.wp
    have hex : (execOp a.eval o).run P w = .ok (.enter i ((xs ++ c.args.map a.eval) ++ ys)) w := by
      simp only [execOp, ho, resolve, hf, Sem.run_bind, Deferred.ofValue, ← hX, Sem.run_pure, Result.andThen_ok, invoke, callFunc, run_program, f1, f2, f3, Bool.false_eq_true, if_false, Option.isNone_some]
    rw [hex]
    refine Calls.mono (hcall r w _ hall q fr) fun en w' he => ?_
    obtain ⟨x, r', rfl, g1, g2⟩ := he
    exact hn x w' r' g1 g2

theorem callB_ok (k : EnvRel r env a N) (q : Rep r h.get w) {o : Oper} {c : Call} {b : Builtin} (ho : o.op = .call c) (hf : c.callee = .builtin b)
    (e : callB b c.args c.argTypes P call env h n o.type = some y) (fr : Free r n y.n) : OpDoes P o r a h n w y := by
  obtain ⟨f, h1, e⟩ := bnd_some e
  obtain ⟨vs, h2, e⟩ := bnd_some e
  have hl := evL_ok k _ h2
  rw [show (c.args.toList.map a.eval).toArray = c.args.map a.eval from by apply Array.ext'; simp] at hl
  have hex : ∀ (s : Sem Value), builtin b c.argTypes o.type (c.args.map fun | .const _ => true | _ => false) (c.args.map a.eval) = (do pure (.value (← s)) : Sem Next) →
      execOp a.eval o = (do pure (.value (← s)) : Sem Next) := by
    intro s hs
    simp only [execOp, ho, resolve, hf]
    exact hs
  have ht : c.argTypes.toList.toArray = c.argTypes := by apply Array.ext'; simp
  cases b <;> simp only [builtE] at h1 <;> first | (cases h1; done) | skip
  case len => cases h1; have := len_ok q hl e; rw [ht] at this; exact does_value (hex _ rfl) this fr
  case max => cases h1; have := max_ok q hl e; rw [ht] at this; exact does_value (hex _ rfl) this fr
  case min => cases h1; have := min_ok q hl e; rw [ht] at this; exact does_value (hex _ rfl) this fr
  case append => cases h1; have := append_ok q hl e; rw [ht] at this; exact does_value (hex _ rfl) this fr
  case copy => cases h1; have := copy_ok q hl e; rw [ht] at this; exact does_value (hex _ rfl) this fr
  case clear => cases h1; have := clear_ok q hl e; rw [ht] at this; exact does_value (hex _ rfl) this fr
  case delete => cases h1; have := delete_ok q hl e; rw [ht] at this; exact does_value (hex _ rfl) this fr

/-- Every operation. -/
theorem opE_ok (hc : CallsOk P call) (k : EnvRel r env a N) (q : Rep r h.get w) {o : Oper} (e : opE o.op P call env h n o.type = some y) (fr : Free r n y.n) : OpDoes P o r a h n w y := by
  obtain ⟨dst, op, type, pos, after, guard⟩ := o
  simp only at e
  cases op
  case move x => obtain ⟨v, h1, e⟩ := bnd_some e; cases e; exact does_pure q rfl (ev_ok k h1)
  case assign x => obtain ⟨v, h1, e⟩ := bnd_some e; cases e; exact does_pure q rfl (ev_ok k h1)
  case pick c x z =>
    obtain ⟨v, h1, e⟩ := bnd_some e
    obtain ⟨b, h2, e⟩ := bnd_some e
    obtain ⟨u, h3, e⟩ := bnd_some e
    cases e
    rw [boolE_some h2] at h1
    have hb := dat_inv (ev_ok k h1)
    refine does_value (s := pure (if b then a.eval x else a.eval z)) ?_ (.pure q rfl ?_) fr
    · simp only [execOp, hb, asBool]; rfl
    · cases b with
      | true => exact ev_ok k h3
      | false => exact ev_ok k h3
  case alloc t => exact does_value rfl (alloc_ok (env := env) (ty := type) (call := call) q e) fr
  case box t x => exact does_value rfl (box_ok (t := t) (ty := type) (call := call) k q e) fr
  case build t ps => exact does_value rfl (build_ok (ty := type) (call := call) k q e) fr
  case buildSlice t l ps => exact does_value rfl (buildSlice_ok (ty := type) (call := call) k q e) fr
  case load t x => exact does_value rfl (loadOp_ok (ty := type) (call := call) k q e) fr
  case store t x z => exact does_unit rfl (store_ok (ty := type) (call := call) k q e) fr
  case nilCheck x =>
    obtain ⟨B, o, h1, h2, h3⟩ := nilCheck_ok (P := P) (ty := type) (call := call) k q e
    rw [h2] at fr ⊢
    refine does_pure q (x := a.eval x) ?_ h3
    simp only [execOp, h1]
  case binOp op t x z t' => exact does_value rfl (binOp_ok (t' := t') (ty := type) (call := call) k q e) fr
  case unOp op t x => exact does_value rfl (unOp_ok (t := t) (ty := type) (call := call) k q e) fr
  case convert s d x => exact does_value rfl (convert_ok (ty := type) (call := call) k q e) fr
  case makeFunc f xs zs => exact does_value rfl (makeFunc_ok (ty := type) (call := call) k q e) fr
  case makeMap t x => exact does_value rfl (makeMap_ok (t := t) (env := env) (ty := type) (call := call) q e) fr
  case makeSlice t l c => exact does_value rfl (makeSlice_ok (ty := type) (call := call) k q e) fr
  case slice t x lo hi mx => exact does_value rfl (slice_ok (ty := type) (call := call) k q e) fr
  case fieldAddr t x f => exact does_value rfl (fieldAddr_ok (ty := type) (call := call) k q e) fr
  case field t x f => exact does_value rfl (field_ok (ty := type) (call := call) k q e) fr
  case indexAddr t x i => exact does_value rfl (indexAddr_ok (ty := type) (call := call) k q e) fr
  case index t x i => exact does_value rfl (index_ok (ty := type) (call := call) k q e) fr
  case lookup t m x b => exact does_value rfl (lookup_ok (ty := type) (call := call) k q e) fr
  case mapUpdate t m x z => exact does_unit rfl (mapUpdate_ok (ty := type) (call := call) k q e) fr
  case mapEntry t m x => exact does_value rfl (mapEntry_ok (ty := type) (call := call) k q e) fr
  case entryStore t m s x => exact does_unit rfl (entryStore_ok (t := t) (ty := type) (call := call) k q e) fr
  case range t x => exact does_value rfl (range_ok (ty := type) (call := call) k q e) fr
  case next x b => exact does_value rfl (next_ok (ty := type) (call := call) k q type e) fr
  case entry x => exact does_value rfl (entry_ok (ty := type) (call := call) k q e) fr
  case extract x i => exact does_value rfl (extract_ok (ty := type) (call := call) k q e) fr
  case call c =>
    change mCall c P call env h n type = some y at e
    unfold mCall at e
    cases hf : c.callee with
    | value f => rw [hf] at e; exact callV_ok (o := ⟨dst, .call c, type, pos, after, guard⟩) hc k q rfl hf e fr
    | invoke x m => rw [hf] at e; cases e
    | builtin b => rw [hf] at e; exact callB_ok (o := ⟨dst, .call c, type, pos, after, guard⟩) k q rfl hf e fr
  all_goals cases e
end
end Go.Proofs.YtcaeglnfflkabaaGreat.Ev
