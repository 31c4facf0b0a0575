/- Walk of late.order. -/
import Derived.Test.YtkklnaejpgcgoaaLateW4
namespace Go.Proofs.Ytkklnaejpgcgoaa
open Go.RowKit

theorem order1_any (x : Wt) (w : World) (be bd g n cap : Nat) (e : Int) (d : Bool) (h1 : be < w.heap.size) (h2 : bd < w.heap.size) (h3 : g < w.heap.size)
    (c1 : w.cell? ⟨be, 0, none⟩ = some (.int .i64 e)) (c2 : w.cell? ⟨bd, 0, none⟩ = some (.slice (some ⟨g, 0, none⟩) n cap)) (f0 : 0 ≤ x.frm) (f1 : x.frm < n) (c3 : w.cell? ⟨g, x.frm.toNat, none⟩ = some (.bool d)) :
    Calls Try.prog 39 #[x.val, .pointer (some ⟨be, 0, none⟩), .pointer (some ⟨bd, 0, none⟩)] w fun r w' => r = .returned (.bool (decide (x.to = e) && !d)) ∧ Below w.heap.size w w' := by
  obtain ⟨fr, to, gap⟩ := x
  unfold Wt.val
  by_cases he : to = e
  · subst he
    go_enter Try.func39, Try.ntmps39
    go_wp2_with fail
    go_ret
    exact ⟨by simp, (Below.refl _ _).alloc (Nat.le_refl _) _⟩
  · have hd : (to == e) = false := by simpa using he
    have He := Lib.hid he; clear he
    go_enter Try.func39, Try.ntmps39
    go_wp2_with fail
    go_ret
    exact ⟨by have := He.out; simp [this], (Below.refl _ _).alloc (Nat.le_refl _) _⟩
/-- late.order's memory: the row 'done' (block B), the variable that holds it (block D), the row 'out'. -/
structure OrdInv (B D : Nat) (wr : World) (n : Nat) (ds : List Bool) (outs : List Int) (vo : Value) : Prop where
  lt : B < D
  cnt : outs.length = ds.count true
  done : wr.ownsRow B 4 1 (.slice (some ⟨B, 0, none⟩) n n) n (ds.map Value.bool)
  var : wr.cell? ⟨D, 0, none⟩ = some (.slice (some ⟨B, 0, none⟩) n n)
  out : OwnI wr (D + 1) vo outs.length outs
  size : D + 1 ≤ wr.heap.size

theorem OrdInv.below {B D n : Nat} {w w' : World} {ds : List Bool} {outs : List Int} {vo : Value} (h : OrdInv B D w n ds outs vo) (hb : Below w.heap.size w w') : OrdInv B D w' n ds outs vo :=
  ⟨h.lt, h.cnt, owns_below h.done hb, (hb.cell (p := ⟨D, 0, none⟩) (by have := h.size; exact this)).trans h.var, owns_below h.out hb, Nat.le_trans h.size hb.size⟩
theorem OrdInv.len {B D n : Nat} {w : World} {ds : List Bool} {outs : List Int} {vo : Value} (h : OrdInv B D w n ds outs vo) : ds.length = n := own1_len h.done
theorem OrdInv.le {B D n : Nat} {w : World} {ds : List Bool} {outs : List Int} {vo : Value} (h : OrdInv B D w n ds outs vo) : outs.length ≤ n := by
  have := h.len; have := h.cnt; have := List.count_le_length (a := true) (l := ds); omega

theorem count_set {ds : List Bool} : ∀ {j : Nat}, ds[j]? = some false → (ds.set j true).count true = ds.count true + 1 := by
  induction ds with
  | nil => intro j h; simp at h
  | cons d r ih =>
    intro j h
    cases j with
    | zero => simp only [List.getElem?_cons_zero, Option.some.injEq] at h; subst h; simp
    | succ j => simp only [List.getElem?_cons_succ] at h; simp only [List.set_cons_succ, List.count_cons, ih h]; omega

/-- done[e] = true; out = append(out, e): the store. -/
theorem OrdInv.stored {B D n : Nat} {w : World} {ds : List Bool} {outs : List Int} {vo : Value} (h : OrdInv B D w n ds outs vo) (j : Nat) :
    (w.setCell ⟨B, j, none⟩ (.bool true)).ownsRow B 4 1 (.slice (some ⟨B, 0, none⟩) n n) n ((ds.set j true).map Value.bool) ∧
    (w.setCell ⟨B, j, none⟩ (.bool true)).cell? ⟨D, 0, none⟩ = some (.slice (some ⟨B, 0, none⟩) n n) ∧
    OwnI (w.setCell ⟨B, j, none⟩ (.bool true)) (D + 1) vo outs.length outs ∧ D + 1 ≤ (w.setCell ⟨B, j, none⟩ (.bool true)).heap.size := by
  obtain ⟨h1, h2⟩ := own1_set h.done j true
  refine ⟨h1, h2.cell h.var (by have := h.lt; simp; omega), ownsRow_setCell_below h.out (by have := h.lt; simp; omega) _, by simpa [World.setCell] using h.size⟩

theorem OrdInv.appended {B D n : Nat} {w w' : World} {ds : List Bool} {outs : List Int} {vo vo' : Value} {e : Int} (hlt : B < D) (hc : outs.length + 1 = ds.count true)
    (h1 : w.ownsRow B 4 1 (.slice (some ⟨B, 0, none⟩) n n) n (ds.map Value.bool)) (h2 : w.cell? ⟨D, 0, none⟩ = some (.slice (some ⟨B, 0, none⟩) n n))
    (ho : OwnI w (D + 1) vo outs.length outs) (hs : D + 1 ≤ w.heap.size) (hg : w.grownBy w' vo.ownBlock) (hn : w'.ownsRow (D + 1) 3 1 vo' (outs.length + 1) (outs.map (Value.int .i64) ++ [.int .i64 e])) :
    OrdInv B D w' n ds (outs ++ [e]) vo' := by
  have hne : ∀ k, vo.ownBlock = some k → D + 1 ≤ k := fun k hk => (ho.lt k hk).1
  refine ⟨hlt, by simpa using hc, h1.kept hg (.inr ?_), hg.cell h2 ?_, ?_, Nat.le_trans hs hg.size⟩
  · intro h; simp only [Value.ownBlock] at h; have := hne B h.symm; omega
  · intro h; have := hne D h.symm; omega
  · unfold OwnI; simpa using hn

theorem fun_order1 {B D n : Nat} {w : World} {ds : List Bool} {outs : List Int} {vo : Value} (h : OrdInv B D w n ds outs vo) (be : Nat) (hbe : be < w.heap.size) (e : Int) (c1 : w.cell? ⟨be, 0, none⟩ = some (.int .i64 e)) (l : List Wt)
    (hl : ∀ x ∈ l, 0 ≤ x.frm ∧ x.frm < n) : Fun 39 #[.pointer (some ⟨be, 0, none⟩), .pointer (some ⟨D, 0, none⟩)] Wt.val w (fun x => decide (x.to = e) && !(ds.getD x.frm.toNat false)) l := by
  refine ⟨fun args w => by kernel_rfl, fun x hx w1 h1 => ?_⟩
  obtain ⟨f0, f1⟩ := hl x hx
  have h' := h.below h1
  have hlen := h.len
  have hj : ds[x.frm.toNat]? = some (ds.getD x.frm.toNat false) := by simp [List.getD, List.getElem?_eq_getElem (show x.frm.toNat < ds.length by omega)]
  have hs := h'.size
  have hd := h'.lt
  exact order1_any x w1 be D B n n e _ (Nat.lt_of_lt_of_le hbe h1.size) (by omega) (by omega) ((h1.cell (p := ⟨be, 0, none⟩) hbe).trans c1) h'.var f0 f1 (own1_cell h'.done hj)

theorem info_bool : (Try.prog.info? 4).map (fun i => (i.zero, i.size, i.bytes)) = some (some (.bool false), 1, 1) := by kernel_rfl

set_option maxHeartbeats 1000000 in
theorem order_any (w : World) (a2 : Option Addr) (n n2 c2 : Nat) (l : List Wt) (h2 : Wts w a2 n2 l) (hn : n ≤ 1000) (hl : ∀ x ∈ l, 0 ≤ x.frm ∧ x.frm < n) :
    Calls Try.prog 33 #[.int .i64 n, .slice a2 n2 c2] w fun e w' => ∃ v, e = .returned (.tuple #[v, .bool (decide ((lateOrder n l).length = n))]) ∧
      OwnI w' w.heap.size v (lateOrder n l).length (lateOrder n l) ∧ Below w.heap.size w w' := by
  have l2 := Lib.hid h2.len
  obtain ⟨ib, hib, zb1, zb2, zb3⟩ := info_parts info_bool
  obtain ⟨ii, hii, zi1, zi2, zi3⟩ := info_parts info_int
  go_enter Try.func33, Try.ntmps33
  go_wp2_with (at_make; refine wpList_make_full _ rfl _ _ 65 rfl w.heap.size 4 ib (.bool false) 1 Try.underlying65 hib zb1 zb2 _ _ _ _ n rfl rfl rfl rfl (by rw [zb3]; omega) (by simp [maxLen]; omega) (Nat.le_refl _) ?_; intro w1 hown hgrow)
  have hB : w.heap.size < w1.heap.size := (own_shape' hown).2
  have hbw : Below w.heap.size w w1 := (Below.refl _ _).grown hgrow (Nat.le_refl _) (by intro k hk; cases hk)
  have I0 : OrdInv w.heap.size w1.heap.size (w1.alloc (.cells #[.slice (some ⟨w.heap.size, 0, none⟩) n n] 65)) n (List.replicate n false) [] (.slice none 0 0) := by
    refine ⟨hB, by simp [List.count_replicate], ?_, by go_simp, World.ownsRow_nil _ _ _ _, by simp⟩
    have := hown.alloc (.cells #[.slice (some ⟨w.heap.size, 0, none⟩) n n] 65)
    rw [show (Value.bool false).cells = #[Value.bool false] from rfl, Nat.mul_one, toList_madeCells_one] at this
    simpa using this
  have HI := Lib.hid I0; clear I0
  have hb0 : Below w.heap.size w (w1.alloc (.cells #[.slice (some ⟨w.heap.size, 0, none⟩) n n] 65)) := hbw.alloc hbw.size _
  clear hown hgrow hbw
  go_loopg [6, 8] (2 * n + 2) (fun k vo news wr => ∃ (ds : List Bool) (outs : List Int) (nw : Bool) (f : Nat), news = .bool nw ∧ OrdInv w.heap.size w1.heap.size wr n ds outs vo ∧
    Hid ((if nw then ordRun n l f (ds, outs) else outs) = lateOrder n l) ∧ n + 1 ≤ f + outs.length + (if nw then 0 else n + 1) ∧ 2 * n + 1 + (if nw then 1 else 0) ≤ k + 2 * outs.length ∧ Below w.heap.size w wr)
  case atStart => exact ⟨List.replicate n false, [], true, n + 1, rfl, HI.out, by simp [Hid, lateOrder], by simp, by simp, hb0⟩
  case round =>
    obtain ⟨ds, outs, nw, f, rfl, hI, hR, hf, hk, hb⟩ := hrel
    have HI := Lib.hid hI; clear hI
    have Hk := Lib.hid hk; clear hk
    cases nw
    · obtain ⟨a, cap, rfl, ha⟩ := own_slice HI.out.out
      have hR' : outs = lateOrder n l := by simpa [Hid] using hR
      clear hR
      subst hR'
      go_wp2_with fail
      go_ret2
      exact ⟨_, by rw [int_beq]; rfl, owns_base HI.out.out (by omega), hb⟩
    · have hR' : Hid (ordRun n l f (ds, outs) = lateOrder n l) := by simpa [Hid] using hR
      clear hR
      simp only [if_true, Nat.add_zero] at hf
      go_wp2_with fail
      go_loopg [6, 8, 14] n (fun k vo news i wr => ∃ (j : Nat) (ds2 : List Bool) (outs2 : List Int) (nw2 : Bool), j + k = n ∧ i = .int .i64 j ∧ news = .bool nw2 ∧ OrdInv w.heap.size w1.heap.size wr n ds2 outs2 vo ∧
        Hid (ordPass l ((List.range n).drop j) (ds2, outs2, nw2) = ordPass l (List.range n) (ds, outs, false)) ∧ outs.length + (if nw2 then 1 else 0) ≤ outs2.length ∧ Below w.heap.size w wr)
      case atStart => exact ⟨0, ds, outs, false, by omega, rfl, rfl, HI.out, by simp [Hid], by simp, hb⟩
      case round =>
        clear hb
        obtain ⟨j, ds2, outs2, nw2, hk2, rfl, rfl, hI2, hR2, hcnt, hb2⟩ := hrel
        have HI2 := Lib.hid hI2; clear hI2
        have Hk2 := Lib.hid hk2; clear hk2
        by_cases hlt : j < n
        · have Hj := Lib.hid (show (List.range n)[j]? = some j from by simp [hlt])
          obtain ⟨d, hd⟩ := get_some HI2.out.len hlt
          have k1 := own1_cell HI2.out.done hd
          have k2 := HI2.out.var
          have Hd := Lib.hid hd; clear hd
          have z1 : w1.heap.size < wr.heap.size := HI2.out.size
          have z2 : w.heap.size < wr.heap.size := by omega
          cases d
          · have hfun := fun_order1 (HI2.out.below ((Below.refl _ _).alloc (Nat.le_refl _) (.cells #[.int .i64 j] 3))) wr.heap.size (by simp) j (by go_simp) l hl
            have hw2 := h2.below (hb2.alloc hb2.size (.cells #[.int .i64 j] 3))
            have H := Lib.hid (conWts _ a2 n2 c2 l _ _ _ hw2 hfun)
            clear hfun hw2
            go_wp2_with fail
            refine H.out.mono ?_
            rintro e w3 ⟨rfl, hb3⟩
            have hI3 := (HI2.out.below ((Below.refl _ _).alloc (Nat.le_refl _) (.cells #[.int .i64 j] 3))).below hb3
            have hb4 := below_step (hb2.alloc hb2.size (.cells #[.int .i64 j] 3)) hb3 (by have := hb2.size; simp; omega)
            have k3 : w3.cell? ⟨wr.heap.size, 0, none⟩ = some (.int .i64 j) := (hb3.cell (p := ⟨wr.heap.size, 0, none⟩) (by simp)).trans (by go_simp)
            have hst := hR2.out
            rw [drop_cons Hj.out, ordPass_cons] at hst
            have hd0 : ds2.getD j false = false := by simp [List.getD, Hd.out]
            have k4 := hI3.var
            have k5 := hI3.done.frozenAt j
            have k6 := own1_cell hI3.done Hd.out
            have z3 : w1.heap.size < w3.heap.size := hI3.size
            have z4 : w.heap.size < w3.heap.size := by omega
            cases hany : ordBlocked l ds2 j
            · have hstp : ordStep l j (ds2, outs2, nw2) = (ds2.set j true, outs2 ++ [(j : Int)], true) := by unfold ordStep; rw [hd0, hany]; rfl
              rw [hstp] at hst
              have Hst := Lib.hid hst
              have hany' := Lib.hid hany
              rw [show (l.any fun x => decide (x.to = (j : Int)) && !(ds2.getD x.frm.toNat false)) = false from hany]
              clear hany hst hstp H hd0
              obtain ⟨s1, s2, s3, s4⟩ := hI3.stored j
              have hcn : outs2.length + 1 = (ds2.set j true).count true := by rw [count_set Hd.out, hI3.cnt]
              have hle := hI3.le
              have Hcn := Lib.hid hcn; clear hcn
              have S := Lib.hid (And.intro s1 (And.intro s2 s4)); clear s1 s2 s4
              have HI3 := Lib.hid hI3; clear hI3
              go_wp2_with (at_builtin; refine wpList_append_own _ rfl _ _ 22 rfl (w1.heap.size + 1) 3 ii (.int .i64 0) 1 8 Try.underlying22 hii zi1 zi2 zi3 rfl (by decide) _ _ _ rfl (s3.alloc _) ⟨w3.heap.size, 0, none⟩ 1 1 [.int .i64 j] rfl rfl ?_ ?_ ?_ ?_ ?_ ?_)
              · exact cell_new_set _ _ _ _ _
              · intro u hu; simp at hu; subst hu; rfl
              · simp [maxLen]; omega
              · omega
              · simp [World.setCell]; omega
              · intro v' w4 hown4 hgrow4 _
                have S1 := S.out.1.alloc (.cells #[.int .i64 j] 3)
                have S2 : ((w3.setCell ⟨w.heap.size, j, none⟩ (.bool true)).alloc (.cells #[.int .i64 j] 3)).cell? ⟨w1.heap.size, 0, none⟩ = some (.slice (some ⟨w.heap.size, 0, none⟩) n n) :=
                  (World.grownBy_alloc _ _ none).cell S.out.2.1 (by simp)
                have hI4 := OrdInv.appended HI3.out.lt Hcn.out S1 S2 (s3.alloc _) (by simp [World.setCell]; omega) hgrow4 hown4
                have hb5 : Below w.heap.size w w4 := ((hb4.setCell (p := ⟨w.heap.size, j, none⟩) (Nat.le_refl _) (.bool true)).alloc (by simp [World.setCell]; omega) (.cells #[.int .i64 j] 3)).grown hgrow4 (by simp [World.setCell]; omega) (fun k hk => by have := (s3.lt k hk).1; omega)
                have HI4 := Lib.hid hI4; clear hI4 hown4 hgrow4 S1 S2
                go_wp2_with fail
                go_roundg (gk - 1)
                case measure => have := Hk2.out; omega
                case rel => exact ⟨j + 1, ds2.set j true, outs2 ++ [(j : Int)], true, by have := Hk2.out; omega, by go_num, rfl, HI4.out, Hst.out, by simp; split at hcnt <;> omega, hb5⟩
            · have hstp : ordStep l j (ds2, outs2, nw2) = (ds2, outs2, nw2) := by unfold ordStep; rw [hany]; simp
              rw [hstp] at hst
              have Hst := Lib.hid hst
              rw [show (l.any fun x => decide (x.to = (j : Int)) && !(ds2.getD x.frm.toNat false)) = true from hany]
              have Hany := Lib.hid hany; clear hany hst hstp H hd0
              have HI3 := Lib.hid hI3; clear hI3
              go_wp2_with fail
              go_roundg (gk - 1)
              case measure => have := Hk2.out; omega
              case rel => exact ⟨j + 1, ds2, outs2, nw2, by have := Hk2.out; omega, by go_num, rfl, HI3.out, Hst.out, hcnt, hb4⟩
          · go_wp2_with fail
            go_roundg (gk - 1)
            case measure => have := Hk2.out; omega
            case rel =>
              refine ⟨j + 1, ds2, outs2, nw2, by have := Hk2.out; omega, by go_num, rfl, ?_, ?_, hcnt, ?_⟩
              · exact HI2.out.below ((Below.refl _ _).alloc (Nat.le_refl _) _)
              · have := hR2.out
                rw [drop_cons Hj.out] at this
                unfold Hid; rw [← this]
                rw [ordPass_cons]; congr 1; unfold ordStep; simp [List.getD, Hd.out]
              · exact hb2.alloc hb2.size _
        · have hR3 := hR2.out
          rw [List.drop_eq_nil_of_le (by simp; omega)] at hR3
          have hle := HI2.out.le
          go_wp2_with fail
          have hfs : ∃ f', f = f' + 1 := ⟨f - 1, by have := HI.out.le; omega⟩
          obtain ⟨f', rfl⟩ := hfs
          have hR4 := hR'.out
          rw [ordRun_succ, ← hR3] at hR4
          go_roundg (2 * n + 1 + (if nw2 then 1 else 0) - 2 * outs2.length)
          case measure => have := Hk.out; simp at this; cases nw2 <;> simp at hcnt ⊢ <;> omega
          case rel => exact ⟨ds2, outs2, nw2, f', rfl, HI2.out, hR4, by cases nw2 <;> simp at hcnt ⊢ <;> omega, by omega, hb2⟩

end Go.Proofs.Ytkklnaejpgcgoaa
