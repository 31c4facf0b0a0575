/- Acts on a field and on the reference's field at once: SameBools, Few, do. Condition: what is read is one. -/
import Derived.Test.YtlgekkffekagbaaFieldR5
import Derived.Test.YtlgekkffekagbaaMade
set_option maxRecDepth 1000000
namespace Go.Proofs.Ytlgekkffekagbaa
open Go.ChangeShapes Go.WideShapes Go.ChangeAt Go.RowKit Go.Sort

theorem drop_eq_refSameBools {xs ys : List Bool} {j : Nat} {x y : Bool} (hx : xs.drop j = x :: xs.drop (j + 1)) (hy : ys.drop j = y :: ys.drop (j + 1)) : decide (xs.drop j = ys.drop j) = (decide (x = y) && decide (xs.drop (j + 1) = ys.drop (j + 1))) := by
  rw [hx, hy, Bool.eq_iff_iff]; simp
set_option maxHeartbeats 400000 in
theorem refSameBools (w : World) (a1 a2 : Option Addr) (n1 n2 c1 c2 : Nat) (xs ys : List Bool) (h1 : Row 1 encBool w a1 n1 xs) (h2 : Row 1 encBool w a2 n2 ys) :
    Calls Try.prog 24 #[.slice a1 n1 c1, .slice a2 n2 c2] w fun e w' => e = .returned (.bool (decide (xs = ys))) ∧ ∃ q : Nat, w' = w.drewN q := by
  have l1 := Lib.hid h1.len
  have l2 := Lib.hid h2.len
  have b1 := h1.bnd
  have b2 := h2.bnd
  by_cases hn : n1 = n2
  · subst hn
    go_enter Try.func24, Try.ntmps24
    go_wp2_with fail
    go_loopg [5] n1 (fun k i wr => ∃ (j q : Nat), j + k = n1 ∧ i = .int .i64 j ∧ Hid (decide (xs.drop j = ys.drop j) = decide (xs = ys)) ∧ wr = w.drewN q)
    case atStart => exact ⟨0, 0, by omega, rfl, rfl, rfl⟩
    case round =>
      obtain ⟨j, q, hk, rfl, hr, rfl⟩ := hrel
      have Hk := Lib.hid hk; clear hk
      by_cases hlt : j < n1
      · obtain ⟨x, hx⟩ := get_some l1.out hlt
        obtain ⟨y, hy⟩ := get_some l2.out hlt
        obtain ⟨p1, o1, rfl, hp1, g0⟩ := h1.bool hx
        obtain ⟨p2, o2, rfl, hp2, k0⟩ := h2.bool hy
        have Hd := Lib.hid (drop_eq_refSameBools (drop_cons hx) (drop_cons hy)); clear hx hy
        by_cases hxy : x = y
        · have q1 : (x == y) = true := beq_iff_eq.2 hxy
          have Hf := Lib.hid (show decide (xs.drop (j + 1) = ys.drop (j + 1)) = decide (xs = ys) by rw [← hr.out, Hd.out]; simp [hxy])
          clear hxy
          go_wp2_with fail
          go_quiet (fail)
          go_wp2_with fail
          go_roundg (gk - 1)
          case measure => have := Hk.out; omega
          case rel => exact ⟨j + 1, _, by have := Hk.out; omega, by go_num, Hf.out, rfl⟩
        · have q1 : (x == y) = false := beq_eq_false_iff_ne.2 hxy
          have Hf := Lib.hid (show decide (xs = ys) = false by rw [← hr.out, Hd.out]; simp [hxy])
          clear hxy
          go_wp2_with fail
          go_quiet (fail)
          go_wp2_with fail
          go_ret
          exact ⟨ret_bool Hf.out.symm, _, by first | exact World.drewN_drewN .. | rfl⟩
      · have Hf := Lib.hid (show decide (xs = ys) = true by rw [← hr.out, drop_end l1.out (by omega), drop_end l2.out (by omega)]; rfl)
        go_wp2_with fail
        go_ret
        exact ⟨ret_bool Hf.out.symm, _, by first | exact World.drewN_drewN .. | rfl⟩
  · have Hf := Lib.hid (show decide (xs = ys) = false by
      have := l1.out; have := l2.out
      simp only [decide_eq_false_iff_not]; intro h; subst h; omega)
    have q1 : ((n1 : Int) != (n2 : Int)) = true := by rw [bne_iff_ne]; omega
    go_enter Try.func24, Try.ntmps24
    go_wp2_with fail
    go_ret
    exact ⟨ret_bool Hf.out.symm, 0, rfl⟩

/-- what stays: the net and the plan, whatever is done above the block M -/
structure NetK (M : Nat) (w : World) (nb : Nat) (pv : PV) (p : Plan) : Prop where
  le : M ≤ w.heap.size
  net : ∀ u, Below M w u → NetAt u nb p
  plan : ∀ u, Below M w u → PlanAt u pv p
section
variable {M : Nat} {w w' : World} {nb b : Nat} {pv : PV} {p : Plan} {f : Fld}
theorem NetK.start (hn : NetAt w nb p) (hp : PlanAt w pv p) : NetK w.heap.size w nb pv p := ⟨Nat.le_refl _, fun _ hb => hn.below hb, fun _ hb => hp.below hb⟩
theorem NetK.step (h : NetK M w nb pv p) (hb : Below M w w') : NetK M w' nb pv p := ⟨Nat.le_trans h.le hb.size, fun u hu => h.net u (hb.trans hu), fun u hu => h.plan u (hb.trans hu)⟩
theorem NetK.now (h : NetK M w nb pv p) : NetAt w nb p := h.net w (Below.refl _ _)
theorem NetK.pl (h : NetK M w nb pv p) : PlanAt w pv p := h.plan w (Below.refl _ _)
theorem NetK.ok (h : NetK M w nb pv p) : chk p = 0 := h.now.ok
theorem NetK.calm (h : NetK M w nb pv p) (hb : Below w.heap.size w w') : NetK M w' nb pv p := h.step (hb.mono h.le)
theorem NetK.only (h : NetK M w nb pv p) (hm : M ≤ b) (hu : Only b w w') : NetK M w' nb pv p := h.step (hu.below (fun k hk => by rw [hk]; exact hm) h.le)
theorem NetK.span {lo hi : Nat} (h : NetK M w nb pv p) (hm : M ≤ lo) (hu : Span lo hi w w') : NetK M w' nb pv p := h.step (hu.below (fun _k hk => Nat.le_trans hm hk.1) h.le)
end
/-- a field and the reference's field of the same state -/
structure Pair (M : Nat) (w : World) (b nb : Nat) (R : RB) (lo hi : Nat) (pv : PV) (p : Plan) (f : Fld) : Prop where
  k : NetK M w nb pv p
  fld : FldAt w b nb p f
  ref : RefAt w R lo hi pv p (refOf p f)
  mb : M ≤ b
  ml : M ≤ lo
  off : b < lo ∨ hi ≤ b
/-- the blocks that acts may change -/
def Mine (b lo hi k : Nat) : Prop := k = b ∨ (lo ≤ k ∧ k < hi)
section
variable {M : Nat} {w w' : World} {nb b : Nat} {R : RB} {lo hi : Nat} {pv : PV} {p : Plan} {f : Fld}
theorem Pair.calm (h : Pair M w b nb R lo hi pv p f) (hb : Below w.heap.size w w') : Pair M w' b nb R lo hi pv p f := ⟨h.k.calm hb, h.fld.below hb, h.ref.below hb, h.mb, h.ml, h.off⟩
theorem Pair.len (_h : Pair M w b nb R lo hi pv p f) : (refOf p f).pts.length = p.elems.length := refOf_len p f
theorem Only.mine (h : Only b w w') : Upd (Mine b lo hi) w w' := h.mono fun _ hk => .inl hk
theorem Span.mine (h : Span lo hi w w') : Upd (Mine b lo hi) w w' := h.mono fun _ hk => .inr hk
theorem mine_below (h : Upd (Mine b lo hi) w w') {M : Nat} (hm : M ≤ b) (hl : M ≤ lo) (hw : M ≤ w.heap.size) : Below M w w' := h.below (fun k hk => by rcases hk with rfl | hk <;> omega) hw
/-- an act on the field, then the same on the reference's -/
theorem Pair.both (h : Pair M w b nb R lo hi pv p f) {f' : Fld} {w1 w2 : World} (h1 : FldAt w1 b nb p f') (u1 : Only b w w1) (h2 : RefAt w2 R lo hi pv p (refOf p f')) (u2 : Span lo hi w1 w2) :
    Pair M w2 b nb R lo hi pv p f' ∧ Upd (Mine b lo hi) w w2 :=
  ⟨⟨(h.k.only h.mb u1).span h.ml u2, h1.upd u2 (fun hk => by have := h.off; omega), h2, h.mb, h.ml, h.off⟩, (Only.mine u1).trans (Span.mine u2)⟩
theorem Pair.half (h : Pair M w b nb R lo hi pv p f) {w1 : World} (u1 : Only b w w1) : NetK M w1 nb pv p ∧ RefAt w1 R lo hi pv p (refOf p f) := ⟨h.k.only h.mb u1, h.ref.upd u1 (fun k h1 h2 hk => by have := h.off; omega)⟩
theorem Pair.left (h : Pair M w b nb R lo hi pv p f) : ∀ x ∈ (refOf p f).pts, 0 ≤ x.left ∧ x.left ≤ 20 := by
  intro x hx
  simp only [refOf, List.mem_map] at hx
  obtain ⟨i, _, rfl⟩ := hx
  have := h.fld.ok.pt i
  exact ⟨this.1, this.2.1⟩
end

/-! acts -/
structure ActV where
  d : Int
  i : Int
  on : Bool
  a : Option Addr
  n : Nat
  c : Nat
  l : List Int
def encAct (x : ActV) : List Value := [.int .i64 x.d, .int .i64 x.i, .bool x.on, .slice x.a x.n x.c]
def ActV.val (x : ActV) : Value := .agg #[.int .i64 x.d, .int .i64 x.i, .bool x.on, .slice x.a x.n x.c]
def actF (p : Plan) (x : ActV) (f : Fld) : Fld :=
  if x.d = 0 ∨ x.d = 1 then f.command p x.l else if x.d = 2 ∨ x.d = 3 then f.tick else if x.d = 4 then f.stick p x.i x.on else if x.d = 5 then f.blind p x.i x.on else if x.d = 6 then f.darken p x.i x.on else if x.d = 7 then f.shorten p x.i else f
theorem actF_ok {p : Plan} (hc : chk p = 0) {f : Fld} (h : FldOk p f) (x : ActV) : FldOk p (actF p x f) := by
  unfold actF
  split
  · exact h.command hc _
  split
  · exact h.tick
  split
  · exact h.stick hc _ _
  split
  · exact h.blind hc _ _
  split
  · exact h.darken _ _
  split
  · exact h.shorten _
  · exact h
def DoPost (M : Nat) (w : World) (b nb : Nat) (R : RB) (lo hi : Nat) (pv : PV) (p : Plan) (f' : Fld) (e : Ending) (w' : World) : Prop :=
  ∃ b', e = .returned (.pointer (some ⟨b', 0, none⟩)) ∧ (b' = b ∨ w.heap.size ≤ b') ∧ Pair M w' b' nb R lo hi pv p f' ∧ Upd (Mine b lo hi) w w'
theorem abox_at {w : World} {b : Nat} {v0 v1 v2 v3 : Value} {T : TypeId} (h : w.heap[b]? = some (.cells #[v0, v1, v2, v3] T)) : w.cell? ⟨b, 0, none⟩ = some v0 ∧ w.cell? ⟨b, 1, none⟩ = some v1 ∧ w.cell? ⟨b, 2, none⟩ = some v2 ∧ w.cell? ⟨b, 3, none⟩ = some v3 := by
  refine ⟨?_, ?_, ?_, ?_⟩ <;> (rw [cell_of_row w b _ _ _ (0, 0) h]; rfl)
set_option maxHeartbeats 4000000 in
theorem do_any (M : Nat) (w : World) (b nb : Nat) (R : RB) (lo hi : Nat) (pv : PV) (p : Plan) (f : Fld) (hP : Pair M w b nb R lo hi pv p f) (x : ActV) (hl : ∀ u, Below M w u → Ints u x.a x.n x.l) :
    Calls Try.prog 20 #[.pointer (some ⟨b, 0, none⟩), .pointer (some ⟨R.b, 0, none⟩), x.val] w (DoPost M w b nb R lo hi pv p (actF p x f)) := by
  obtain ⟨d, i, on, a, n, c, l⟩ := x
  dsimp only at hl
  obtain ⟨W, hW⟩ : ∃ W, W = w.alloc (.cells #[.int .i64 d, .int .i64 i, .bool on, .slice a n c] 48) := ⟨_, rfl⟩
  have hbW : Below w.heap.size w W := by rw [hW]; exact below_new _ _
  have hX : W.heap[w.heap.size]? = some (.cells #[.int .i64 d, .int .i64 i, .bool on, .slice a n c] 48) := by rw [hW]; exact heap_alloc_new w _
  have hPW := hP.calm hbW
  have hlt : b < w.heap.size ∧ hi ≤ w.heap.size := ⟨hP.fld.box.lt, hP.ref.le⟩
  have hsz : W.heap.size = w.heap.size + 1 := by rw [hW]; simp
  have hM := hP.k.le
  have Hbox := Lib.hid (show ∀ u, Upd (Mine b lo hi) W u → u.cell? ⟨w.heap.size, 0, none⟩ = some (.int .i64 d) ∧ u.cell? ⟨w.heap.size, 1, none⟩ = some (.int .i64 i) ∧ u.cell? ⟨w.heap.size, 2, none⟩ = some (.bool on) ∧ u.cell? ⟨w.heap.size, 3, none⟩ = some (.slice a n c) from fun u hu =>
    abox_at (Eq.trans (hu.block w.heap.size (by omega) (by unfold Mine; have := hlt.1; have := hlt.2; omega)) hX))
  have Hlist := Lib.hid (show ∀ u, Upd (Mine b lo hi) W u → Ints u a n l from fun u hu => hl u ((hbW.mono hM).trans (mine_below hu hP.mb hP.ml (by omega))))
  have HPW := Lib.hid hPW
  have Hc := Lib.hid hP.k.ok
  have Hend := Lib.hid (show ∀ (b' : Nat) (f' : Fld) (u : World), (b' = b ∨ w.heap.size ≤ b') → Pair M u b' nb R lo hi pv p f' → Upd (Mine b lo hi) W u → f' = actF p ⟨d, i, on, a, n, c, l⟩ f → DoPost M w b nb R lo hi pv p (actF p ⟨d, i, on, a, n, c, l⟩ f) (.returned (.pointer (some ⟨b', 0, none⟩))) u from
    fun b' f' u h1 h2 h3 h4 => ⟨b', rfl, h1, by rw [← h4]; exact h2, (Upd.of_below hbW).trans h3⟩)
  have HbW := Lib.hid hbW
  have Hsz := Lib.hid hsz
  obtain ⟨c0, c1, c2, c3⟩ := Hbox.out W (Upd.refl _ _)
  clear hP hl hX hPW hlt hbW hsz hM
  dsimp only [ActV.val]
  by_cases h0 : d = 0
  · subst h0
    have Hact := Lib.hid (show f.command p l = actF p ⟨0, i, on, a, n, c, l⟩ f by simp [actF])
    go_enter Try.func20, Try.ntmps20
    go_wp2_with fail
    rw [← hW]
    refine (command_any W b nb p f HPW.out.k.now HPW.out.fld (fun u hu => HPW.out.k.net u (hu.below (fun k hk => by rw [hk]; exact HPW.out.mb) HPW.out.k.le)) a n c l (fun u hu => Hlist.out u (Only.mine hu))).mono ?_
    rintro en w1 ⟨rfl, hf1, hu1⟩
    obtain ⟨c0, c1, c2, c3⟩ := Hbox.out w1 (Only.mine hu1)
    have HF1 := Lib.hid hf1
    have HU1 := Lib.hid hu1
    have HH := Lib.hid (HPW.out.half hu1)
    clear hf1 hu1
    go_wp2_with fail
    refine (refcommand_any w1 R lo hi pv p _ HH.out.2 (fun u hu => HH.out.1.plan u (hu.below (fun k hk => Nat.le_trans HPW.out.ml hk.1) HH.out.1.le)) HPW.out.len a n c l (fun u hu => Hlist.out u ((Only.mine HU1.out).trans (Span.mine hu)))).mono ?_
    rintro en w2 ⟨rfl, hr2, hu2⟩
    rw [ref_command Hc.out HPW.out.fld.ok] at hr2
    have HB := Lib.hid (HPW.out.both HF1.out HU1.out hr2 hu2)
    clear hr2 hu2
    go_wp2_with fail
    go_ret
    exact Hend.out b _ w2 (.inl rfl) HB.out.1 HB.out.2 Hact.out
  by_cases h1 : d = 1
  · subst h1
    have Hact := Lib.hid (show f.command p l = actF p ⟨1, i, on, a, n, c, l⟩ f by simp [actF])
    go_enter Try.func20, Try.ntmps20
    go_wp2_with fail
    rw [← hW]
    refine (command_any W b nb p f HPW.out.k.now HPW.out.fld (fun u hu => HPW.out.k.net u (hu.below (fun k hk => by rw [hk]; exact HPW.out.mb) HPW.out.k.le)) a n c l (fun u hu => Hlist.out u (Only.mine hu))).mono ?_
    rintro en w1 ⟨rfl, hf1, hu1⟩
    obtain ⟨c0, c1, c2, c3⟩ := Hbox.out w1 (Only.mine hu1)
    have HF1 := Lib.hid hf1
    have HU1 := Lib.hid hu1
    have HH := Lib.hid (HPW.out.half hu1)
    clear hf1 hu1
    go_wp2_with fail
    refine (refcommand_any w1 R lo hi pv p _ HH.out.2 (fun u hu => HH.out.1.plan u (hu.below (fun k hk => Nat.le_trans HPW.out.ml hk.1) HH.out.1.le)) HPW.out.len a n c l (fun u hu => Hlist.out u ((Only.mine HU1.out).trans (Span.mine hu)))).mono ?_
    rintro en w2 ⟨rfl, hr2, hu2⟩
    rw [ref_command Hc.out HPW.out.fld.ok] at hr2
    have HB := Lib.hid (HPW.out.both HF1.out HU1.out hr2 hu2)
    clear hr2 hu2
    go_wp2_with fail
    go_ret
    exact Hend.out b _ w2 (.inl rfl) HB.out.1 HB.out.2 Hact.out
  by_cases h2 : d = 2
  · subst h2
    have Hact := Lib.hid (show f.tick = actF p ⟨2, i, on, a, n, c, l⟩ f by simp [actF])
    go_enter Try.func20, Try.ntmps20
    go_wp2_with fail
    rw [← hW]
    refine (tick_any W b nb p f HPW.out.fld).mono ?_
    rintro en w1 ⟨rfl, hf1, hu1⟩
    obtain ⟨c0, c1, c2, c3⟩ := Hbox.out w1 (Only.mine hu1)
    have HF1 := Lib.hid hf1
    have HU1 := Lib.hid hu1
    have HH := Lib.hid (HPW.out.half hu1)
    clear hf1 hu1
    go_wp2_with fail
    refine (reftick_any w1 R lo hi pv p _ HH.out.2 HPW.out.left (by rw [HPW.out.len]; exact (elems_le Hc.out).1)).mono ?_
    rintro en w2 ⟨rfl, hr2, hu2⟩
    rw [ref_tick HPW.out.fld.ok] at hr2
    have HB := Lib.hid (HPW.out.both HF1.out HU1.out hr2 hu2)
    clear hr2 hu2
    go_wp2_with fail
    go_ret
    exact Hend.out b _ w2 (.inl rfl) HB.out.1 HB.out.2 Hact.out
  by_cases h3 : d = 3
  · subst h3
    have Hact := Lib.hid (show f.tick = actF p ⟨3, i, on, a, n, c, l⟩ f by simp [actF])
    go_enter Try.func20, Try.ntmps20
    go_wp2_with fail
    rw [← hW]
    refine (tick_any W b nb p f HPW.out.fld).mono ?_
    rintro en w1 ⟨rfl, hf1, hu1⟩
    obtain ⟨c0, c1, c2, c3⟩ := Hbox.out w1 (Only.mine hu1)
    have HF1 := Lib.hid hf1
    have HU1 := Lib.hid hu1
    have HH := Lib.hid (HPW.out.half hu1)
    clear hf1 hu1
    go_wp2_with fail
    refine (reftick_any w1 R lo hi pv p _ HH.out.2 HPW.out.left (by rw [HPW.out.len]; exact (elems_le Hc.out).1)).mono ?_
    rintro en w2 ⟨rfl, hr2, hu2⟩
    rw [ref_tick HPW.out.fld.ok] at hr2
    have HB := Lib.hid (HPW.out.both HF1.out HU1.out hr2 hu2)
    clear hr2 hu2
    go_wp2_with fail
    go_ret
    exact Hend.out b _ w2 (.inl rfl) HB.out.1 HB.out.2 Hact.out
  by_cases h4 : d = 4
  · subst h4
    have Hact := Lib.hid (show f.stick p i on = actF p ⟨4, i, on, a, n, c, l⟩ f by simp [actF])
    go_enter Try.func20, Try.ntmps20
    go_wp2_with fail
    rw [← hW]
    refine (stick_any W b nb p f HPW.out.k.now HPW.out.fld i on).mono ?_
    rintro en w1 ⟨rfl, hf1, hu1⟩
    obtain ⟨c0, c1, c2, c3⟩ := Hbox.out w1 (Only.mine hu1)
    have HF1 := Lib.hid hf1
    have HU1 := Lib.hid hu1
    have HH := Lib.hid (HPW.out.half hu1)
    clear hf1 hu1
    go_wp2_with fail
    refine (refstick_any w1 R lo hi pv p _ HH.out.2 HH.out.1.pl HPW.out.len i on).mono ?_
    rintro en w2 ⟨rfl, hr2, hu2⟩
    rw [ref_stick Hc.out HPW.out.fld.ok] at hr2
    have HB := Lib.hid (HPW.out.both HF1.out HU1.out hr2 hu2)
    clear hr2 hu2
    go_wp2_with fail
    go_ret
    exact Hend.out b _ w2 (.inl rfl) HB.out.1 HB.out.2 Hact.out
  by_cases h5 : d = 5
  · subst h5
    have Hact := Lib.hid (show f.blind p i on = actF p ⟨5, i, on, a, n, c, l⟩ f by simp [actF])
    go_enter Try.func20, Try.ntmps20
    go_wp2_with fail
    rw [← hW]
    refine (blind_any W b nb p f HPW.out.k.now HPW.out.fld i on).mono ?_
    rintro en w1 ⟨rfl, hf1, hu1⟩
    obtain ⟨c0, c1, c2, c3⟩ := Hbox.out w1 (Only.mine hu1)
    have HF1 := Lib.hid hf1
    have HU1 := Lib.hid hu1
    have HH := Lib.hid (HPW.out.half hu1)
    clear hf1 hu1
    go_wp2_with fail
    refine (refblind_any w1 R lo hi pv p _ HH.out.2 HH.out.1.pl HPW.out.len i on).mono ?_
    rintro en w2 ⟨rfl, hr2, hu2⟩
    rw [ref_blind Hc.out HPW.out.fld.ok] at hr2
    have HB := Lib.hid (HPW.out.both HF1.out HU1.out hr2 hu2)
    clear hr2 hu2
    go_wp2_with fail
    go_ret
    exact Hend.out b _ w2 (.inl rfl) HB.out.1 HB.out.2 Hact.out
  by_cases h6 : d = 6
  · subst h6
    have Hact := Lib.hid (show f.darken p i on = actF p ⟨6, i, on, a, n, c, l⟩ f by simp [actF])
    go_enter Try.func20, Try.ntmps20
    go_wp2_with fail
    rw [← hW]
    refine (dark_any W b nb p f HPW.out.k.now HPW.out.fld i on).mono ?_
    rintro en w1 ⟨rfl, hf1, hu1⟩
    obtain ⟨c0, c1, c2, c3⟩ := Hbox.out w1 (Only.mine hu1)
    have HF1 := Lib.hid hf1
    have HU1 := Lib.hid hu1
    have HH := Lib.hid (HPW.out.half hu1)
    clear hf1 hu1
    go_wp2_with fail
    refine (refdark_any w1 R lo hi pv p _ HH.out.2 i on).mono ?_
    rintro en w2 ⟨rfl, hr2, hu2⟩
    rw [ref_darken Hc.out HPW.out.fld.ok] at hr2
    have HB := Lib.hid (HPW.out.both HF1.out HU1.out hr2 hu2)
    clear hr2 hu2
    go_wp2_with fail
    go_ret
    exact Hend.out b _ w2 (.inl rfl) HB.out.1 HB.out.2 Hact.out
  by_cases h7 : d = 7
  · subst h7
    have Hact := Lib.hid (show f.shorten p i = actF p ⟨7, i, on, a, n, c, l⟩ f by simp [actF])
    go_enter Try.func20, Try.ntmps20
    go_wp2_with fail
    rw [← hW]
    refine (short_any W b nb p f HPW.out.k.now HPW.out.fld i).mono ?_
    rintro en w1 ⟨rfl, hf1, hu1⟩
    obtain ⟨c0, c1, c2, c3⟩ := Hbox.out w1 (Only.mine hu1)
    have HF1 := Lib.hid hf1
    have HU1 := Lib.hid hu1
    have HH := Lib.hid (HPW.out.half hu1)
    clear hf1 hu1
    go_wp2_with fail
    refine (refshort_any w1 R lo hi pv p _ HH.out.2 HH.out.1.pl HPW.out.len i).mono ?_
    rintro en w2 ⟨rfl, hr2, hu2⟩
    rw [ref_shorten Hc.out HPW.out.fld.ok] at hr2
    have HB := Lib.hid (HPW.out.both HF1.out HU1.out hr2 hu2)
    clear hr2 hu2
    go_wp2_with fail
    go_ret
    exact Hend.out b _ w2 (.inl rfl) HB.out.1 HB.out.2 Hact.out
  by_cases h8 : d = 8
  · subst h8
    have Hact := Lib.hid (show f = actF p ⟨8, i, on, a, n, c, l⟩ f by simp [actF])
    go_enter Try.func20, Try.ntmps20
    go_wp2_with fail
    rw [← hW]
    refine (twinf_any W b nb p f HPW.out.fld).mono ?_
    rintro en w1 ⟨b', rfl, hb', hf1, hb1⟩
    have HP1 := Lib.hid (HPW.out.calm hb1)
    have HT1 := Lib.hid hf1
    have HU1 := Lib.hid (show Upd (Mine b lo hi) W w1 from Upd.of_below hb1)
    obtain ⟨c0, c1, c2, c3⟩ := Hbox.out w1 HU1.out
    have hbb : b < W.heap.size := HPW.out.fld.box.lt
    clear hf1 hb1
    go_wp2_with fail
    refine (tick_any w1 b nb p f HP1.out.fld).mono ?_
    rintro en w2 ⟨rfl, hf2, hu2⟩
    have HU2 := Lib.hid (HU1.out.trans (Only.mine hu2))
    have HK2 := Lib.hid (HP1.out.k.only HP1.out.mb hu2)
    have HF2 := Lib.hid hf2
    have HT2 := Lib.hid (HT1.out.upd hu2 (by omega))
    have HR2 := Lib.hid (HP1.out.half hu2).2
    obtain ⟨c0, c1, c2, c3⟩ := Hbox.out w2 HU2.out
    clear hf2 hu2
    go_wp2_with fail
    refine (short_any w2 b nb p f.tick HK2.out.now HF2.out i).mono ?_
    rintro en w3 ⟨rfl, hf3, hu3⟩
    have HU3 := Lib.hid (HU2.out.trans (Only.mine hu3))
    have HK3 := Lib.hid (HK2.out.only HPW.out.mb hu3)
    have HF3 := Lib.hid hf3
    have HT3 := Lib.hid (HT2.out.upd hu3 (by omega))
    have HR3 := Lib.hid (HR2.out.upd hu3 (fun k h1 h2 hk => by have := HPW.out.off; omega))
    obtain ⟨c0, c1, c2, c3⟩ := Hbox.out w3 HU3.out
    clear hf3 hu3
    go_wp2_with fail
    refine (command_any w3 b nb p _ HK3.out.now HF3.out (fun u hu => HK3.out.net u (hu.below (fun k hk => by rw [hk]; exact HPW.out.mb) HK3.out.le)) a n c l (fun u hu => Hlist.out u (HU3.out.trans (Only.mine hu)))).mono ?_
    rintro en w4 ⟨rfl, hf4, hu4⟩
    have HU4 := Lib.hid (HU3.out.trans (Only.mine hu4))
    have HP4 := Lib.hid (show Pair M w4 b' nb R lo hi pv p f from ⟨HK3.out.only HPW.out.mb hu4, HT3.out.upd hu4 (by omega), HR3.out.upd hu4 (fun k h1 h2 hk => by have := HPW.out.off; omega), by have := HPW.out.k.le; omega, HPW.out.ml, .inr (by have := HPW.out.ref.le; omega)⟩)
    clear hf4 hu4
    go_wp2_with fail
    go_ret
    exact Hend.out b' _ w4 (.inr (by have := HbW.out.size; omega)) HP4.out HU4.out Hact.out
  · have Hact := Lib.hid (show f = actF p ⟨d, i, on, a, n, c, l⟩ f by simp [actF, h0, h1, h2, h3, h4, h5, h6, h7])
    have q0 : (d == 0) = false := by simp [h0]
    have q1 : (d == 1) = false := by simp [h1]
    have q2 : (d == 2) = false := by simp [h2]
    have q3 : (d == 3) = false := by simp [h3]
    have q4 : (d == 4) = false := by simp [h4]
    have q5 : (d == 5) = false := by simp [h5]
    have q6 : (d == 6) = false := by simp [h6]
    have q7 : (d == 7) = false := by simp [h7]
    have q8 : (d == 8) = false := by simp [h8]
    clear h0 h1 h2 h3 h4 h5 h6 h7 h8
    go_enter Try.func20, Try.ntmps20
    go_wp2_with fail
    rw [← hW]
    go_ret
    exact Hend.out b _ W (.inl rfl) HPW.out (Upd.refl _ _) Hact.out

/-! rows of acts -/
theorem encAct_len (x : ActV) : (encAct x).length = 4 := rfl
structure Acts (w : World) (a : Option Addr) (n : Nat) (xs : List ActV) : Prop where
  row : Row 4 encAct w a n xs
  ints : ∀ x ∈ xs, Ints w x.a x.n x.l
theorem Acts.below {w w' : World} {a : Option Addr} {n : Nat} {xs : List ActV} (h : Acts w a n xs) (hb : Below w.heap.size w w') : Acts w' a n xs := ⟨h.row.below hb, fun x hx => (h.ints x hx).below hb⟩
theorem Row.act {w : World} {a : Option Addr} {n : Nat} {xs : List ActV} (h : Row 4 encAct w a n xs) {i : Nat} {x : ActV} (hx : xs[i]? = some x) :
    ∃ b off, a = some ⟨b, off, none⟩ ∧ b < w.heap.size ∧ w.cell? ⟨b, off + i * 4, none⟩ = some (.int .i64 x.d) ∧ w.cell? ⟨b, off + i * 4 + 1, none⟩ = some (.int .i64 x.i) ∧ w.cell? ⟨b, off + i * 4 + 2, none⟩ = some (.bool x.on) ∧ w.cell? ⟨b, off + i * 4 + 3, none⟩ = some (.slice x.a x.n x.c) := by
  obtain ⟨b, off, ha, hb, hc⟩ := h.at_ i x hx
  exact ⟨b, off, ha, hb, by simpa using hc 0 _ rfl, by simpa using hc 1 _ rfl, by simpa using hc 2 _ rfl, by simpa using hc 3 _ rfl⟩
def fewActs (n : Nat) (xs : List ActV) : Bool := decide (n ≤ 60) && xs.all fun x => decide (x.n ≤ 60)
theorem fewacts_any (w : World) (a : Option Addr) (n c : Nat) (xs : List ActV) (h : Acts w a n xs) :
    Calls Try.prog 18 #[.slice a n c] w fun e w' => e = .returned (.bool (fewActs n xs)) ∧ w = w' := by
  have Hl := Lib.hid h.row.len
  have HA := Lib.hid h
  have hbd := h.row.bnd
  clear h
  by_cases hn : n ≤ 60
  · have q0 : decide ((60 : Int) < (n : Int)) = false := by simp; omega
    go_enter Try.func18, Try.ntmps18
    go_wp2_with fail
    go_loopg [3] n (fun k i wr => ∃ j : Nat, j + k = n ∧ i = .int .i64 j ∧ Hid (((xs.drop j).all fun x => decide (x.n ≤ 60)) = fewActs n xs) ∧ wr = w)
    case atStart => exact ⟨0, by omega, rfl, by unfold Hid fewActs; simp [hn], rfl⟩
    case round =>
      obtain ⟨j, hk, rfl, hr, rfl⟩ := hrel
      have Hk := Lib.hid hk; clear hk
      by_cases hlt : j < n
      · obtain ⟨x, hx⟩ := get_some Hl.out hlt
        obtain ⟨b, off, rfl, hb, g0, g1, g2, g3⟩ := HA.out.row.act hx
        by_cases hx6 : x.n ≤ 60
        · have q1 : decide ((60 : Int) < (x.n : Int)) = false := by simp; omega
          have Hd := Lib.hid (show ((xs.drop (j + 1)).all fun x => decide (x.n ≤ 60)) = fewActs n xs by rw [← hr.out, drop_cons hx]; simp [hx6])
          clear hx hx6 g0 g1 g2
          go_wp2_with fail
          go_roundg (n - j - 1)
          case measure => have := Hk.out; omega
          case rel => exact ⟨j + 1, by have := Hk.out; omega, by go_num, Hd.out, rfl⟩
        · have q1 : decide ((60 : Int) < (x.n : Int)) = true := by simp; omega
          have Hd := Lib.hid (show false = fewActs n xs by rw [← hr.out, drop_cons hx]; simp [hx6])
          clear hx hx6 g0 g1 g2
          go_wp2_with fail
          go_ret
          exact ⟨ret_bool Hd.out, rfl⟩
      · have Hd := Lib.hid (show true = fewActs n xs by rw [← hr.out, drop_end Hl.out (by omega)]; rfl)
        go_wp2_with fail
        go_ret
        exact ⟨ret_bool Hd.out, rfl⟩
  · have q0 : decide ((60 : Int) < (n : Int)) = true := by simp; omega
    have Hd := Lib.hid (show false = fewActs n xs by unfold fewActs; simp [hn])
    go_enter Try.func18, Try.ntmps18
    go_wp2_with fail
    go_ret
    exact ⟨ret_bool Hd.out, rfl⟩
end Go.Proofs.Ytlgekkffekagbaa
