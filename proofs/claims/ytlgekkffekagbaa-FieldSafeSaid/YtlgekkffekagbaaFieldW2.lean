/- Walks of package field: Tick, Command. Condition: the receiver is a field over a net. -/
import Derived.Test.YtlgekkffekagbaaFieldW1
set_option maxRecDepth 1000000
namespace Go.Proofs.Ytlgekkffekagbaa
open Go.ChangeShapes Go.WideShapes Go.ChangeAt Go.RowKit Go.Sort

theorem FldBox.setPt2 {w : World} {b : Nat} {nb : Value} {f : Fld} (h : FldBox w b nb f) (hl : f.len) {i k1 k2 : Nat} (hi : i < 40) (hk1 : k1 < 5) (hk2 : k2 < 5) {v1 v2 : Value} {y1 y2 : Pt} (he1 : encPt y1 = (encPt (f.pt i)).set k1 v1) (he2 : encPt y2 = (encPt y1).set k2 v2) :
    FldBox ((w.setCell ⟨b, 1 + i * 5 + k1, none⟩ v1).setCell ⟨b, 1 + i * 5 + k2, none⟩ v2) b nb { f with pts := f.pts.set i y2 } := by
  have h1 := h.setPt hl hi hk1 he1
  have hl1 : ({ f with pts := f.pts.set i y1 } : Fld).len := ⟨by simpa using hl.1, hl.2.1, hl.2.2⟩
  have hp : ({ f with pts := f.pts.set i y1 } : Fld).pt i = y1 := by rw [pt_set (by rw [hl.1]; exact hi), if_pos rfl]
  have := h1.setPt hl1 hi hk2 (v := v2) (y := y2) (by rw [hp]; exact he2)
  simpa using this

/-! Tick -/
def Fld.tickTo (f : Fld) (j : Nat) : Fld := { f with pts := (f.pts.take j).map tickPt ++ f.pts.drop j }
theorem tickTo_zero (f : Fld) : f.tickTo 0 = f := by simp [Fld.tickTo]
theorem tickTo_end {f : Fld} (h : f.pts.length = 40) : f.tickTo 40 = f.tick := by simp [Fld.tickTo, Fld.tick, ← h]
theorem tickTo_pt {f : Fld} {j : Nat} (h : j < f.pts.length) : (f.tickTo j).pt j = f.pt j := by
  unfold Fld.tickTo Fld.pt List.getD
  simp only
  rw [List.getElem?_append_right (by simp; omega)]
  simp [show min j f.pts.length = j from by omega]
theorem tickTo_set {f : Fld} {j : Nat} (h : j < f.pts.length) : ({ f.tickTo j with pts := (f.tickTo j).pts.set j (tickPt (f.pt j)) } : Fld) = f.tickTo (j + 1) := by
  unfold Fld.tickTo
  simp only
  congr 1
  rw [List.set_append_right _ _ (by simp; omega), show j - ((f.pts.take j).map tickPt).length = 0 by simp; omega, drop_cons (pt_get h), List.set_cons_zero, take_snoc_get (pt_get h)]
  simp
theorem pts_self {f : Fld} {i : Nat} : f.pts.set i (f.pt i) = f.pts := by
  rcases Nat.lt_or_ge i f.pts.length with h1 | h1
  · apply List.ext_getElem?
    intro j
    rw [List.getElem?_set]
    split
    · rename_i e; subst e; exact (pt_get h1).symm
    · rfl
  · exact set_out h1
theorem tickTo_same {f : Fld} {j : Nat} (h : j < f.pts.length) (he : tickPt (f.pt j) = f.pt j) : f.tickTo j = f.tickTo (j + 1) := by
  rw [← tickTo_set h, he]
  conv => lhs; rw [show f.tickTo j = { f.tickTo j with pts := (f.tickTo j).pts } from rfl]
  rw [← tickTo_pt h, pts_self]
theorem FldOk.tickTo {p : Plan} {f : Fld} (h : FldOk p f) (j : Nat) : FldOk p (f.tickTo j) := by
  obtain ⟨l1, l2, l3⟩ := h.len
  have key : ∀ x ∈ (f.tickTo j).pts, ∃ y ∈ f.pts, x = tickPt y ∨ x = y := by
    intro x hx
    simp only [Fld.tickTo, List.mem_append, List.mem_map] at hx
    rcases hx with ⟨y, hy, rfl⟩ | hx
    · exact ⟨y, List.mem_of_mem_take hy, .inl rfl⟩
    · exact ⟨x, List.mem_of_mem_drop hx, .inr rfl⟩
  refine ⟨⟨by simp [Fld.tickTo]; omega, l2, l3⟩, fun x hx => ?_, fun i hi => ?_, fun x hx => ?_⟩
  · obtain ⟨y, hy, rfl | rfl⟩ := key x hx
    · exact (tickPt_ok (h.left y hy) (h.lie y hy)).1
    · exact h.left _ hy
  · have h0 := h.other i hi
    have : (f.tickTo j).pt i = tickPt (f.pt i) ∨ (f.tickTo j).pt i = f.pt i := by
      unfold Fld.tickTo Fld.pt List.getD
      simp only
      rcases Nat.lt_or_ge i (min j f.pts.length) with hi | hi
      · rw [List.getElem?_append_left (by simpa using hi)]
        left
        rw [List.getElem?_map, List.getElem?_take, if_pos (by omega), List.getElem?_eq_getElem (by omega)]
        rfl
      · rw [List.getElem?_append_right (by simpa using hi)]
        right
        rw [List.getElem?_drop, List.length_map, List.length_take]
        rcases Nat.lt_or_ge j f.pts.length with hj | hj
        · rw [show j + (i - min j f.pts.length) = i by omega]
        · rw [List.getElem?_eq_none (by omega), List.getElem?_eq_none (by omega)]
    rcases this with e | e
    · rw [e, tickPt_left, if_pos (.inl h0)]; exact h0
    · rw [e]; exact h0
  · obtain ⟨y, hy, rfl | rfl⟩ := key x hx
    · exact (tickPt_ok (h.left y hy) (h.lie y hy)).2
    · exact h.lie _ hy
set_option maxHeartbeats 1000000 in
theorem tick_any (w : World) (b nb : Nat) (p : Plan) (f : Fld) (hf : FldAt w b nb p f) :
    Calls Try.prog 13 #[.pointer (some ⟨b, 0, none⟩)] w fun en w' => en = .returned (.tuple #[]) ∧ FldAt w' b nb p f.tick ∧ Only b w w' := by
  have HF := Lib.hid hf
  clear hf
  go_enter Try.func13, Try.ntmps13
  go_wp2_with fail
  go_loopg [4] 40 (fun k i wr => ∃ j : Nat, j + k = 40 ∧ i = .int .i64 j ∧ Hid (FldAt wr b nb p (f.tickTo j)) ∧ Hid (Only b w wr))
  case atStart => exact ⟨0, by omega, rfl, by unfold Hid; rw [tickTo_zero]; exact HF.out, Upd.refl _ _⟩
  case round =>
    obtain ⟨j, hk, rfl, hF, hU⟩ := hrel
    have Hk := Lib.hid hk; clear hk
    by_cases hlt : j < 40
    · have hj : j < f.pts.length := by rw [HF.out.ok.len.1]; exact hlt
      have bx := hF.out.box
      have ln := hF.out.ok.len
      have hbl := bx.lt
      have c1 := bx.left ln hlt
      have c2 := bx.stick ln hlt
      have c3 := bx.to ln hlt
      have c4 := bx.lie ln hlt
      have fz := bx.frozen
      rw [tickTo_pt hj] at c1 c2 c3 c4
      have hb := HF.out.ok.pt j
      have Hj := Lib.hid hj; clear hj
      have He := Lib.hid (show ∀ y, tickPt (f.pt j) = y → ({ f.tickTo j with pts := (f.tickTo j).pts.set j y } : Fld) = f.tickTo (j + 1) from fun y hy => by rw [← hy]; exact tickTo_set Hj.out)
      clear bx ln
      obtain ⟨x, hx⟩ : ∃ x, f.pt j = x := ⟨_, rfl⟩
      have Hx := Lib.hid hx
      rw [hx] at c1 c2 c3 c4 hb
      clear hx
      obtain ⟨l0, l1, _⟩ := hb
      by_cases h0 : x.left = 0
      · have q0 : (x.left == 0) = true := by simp [h0]
        have Hs := Lib.hid (show f.tickTo j = f.tickTo (j + 1) from tickTo_same Hj.out (by rw [Hx.out]; unfold tickPt; rw [if_pos (.inl h0)]))
        clear h0
        go_wp2_with fail
        go_roundg (40 - j - 1)
        case measure => have := Hk.out; omega
        case rel => exact ⟨j + 1, by have := Hk.out; omega, by go_num, by unfold Hid; rw [← Hs.out]; exact hF.out, hU⟩
      · have q0 : (x.left == 0) = false := by simp [h0]
        cases hs : x.stick with
        | true =>
          rw [hs] at c2
          have Hs := Lib.hid (show f.tickTo j = f.tickTo (j + 1) from tickTo_same Hj.out (by rw [Hx.out]; unfold tickPt; rw [if_pos (.inr hs)]))
          clear h0 hs
          go_wp2_with fail
          go_roundg (40 - j - 1)
          case measure => have := Hk.out; omega
          case rel => exact ⟨j + 1, by have := Hk.out; omega, by go_num, by unfold Hid; rw [← Hs.out]; exact hF.out, hU⟩
        | false =>
          rw [hs] at c2
          have hwr : IntKind.i64.wrap (x.left - 1) = x.left - 1 := IntWalk.i64_in _ (by omega)
          by_cases h1 : x.left - 1 = 0
          · have q1 : (x.left - 1 == 0) = true := by simp [h1]
            have Hs := Lib.hid (He.out { x with left := x.left - 1, lie := x.to } (by rw [Hx.out]; unfold tickPt; rw [if_neg (by rw [hs]; simp [h0]), if_pos h1]))
            clear h0 hs h1
            go_wp2_with fail
            go_roundg (40 - j - 1)
            case measure => have := Hk.out; omega
            case rel =>
              refine ⟨j + 1, by have := Hk.out; omega, by go_num, ⟨?_, HF.out.ok.tickTo _⟩, Upd.setCell (S := fun k => k = b) (a := ⟨b, _, none⟩) (Upd.setCell (S := fun k => k = b) (a := ⟨b, _, none⟩) hU.out rfl _) rfl _⟩
              rw [← Hs.out]
              exact hF.out.box.setPt2 hF.out.ok.len (k1 := 2) (k2 := 0) hlt (by omega) (by omega) (y1 := { x with left := x.left - 1 }) (by rw [tickTo_pt Hj.out, Hx.out]; rfl) rfl
          · have q1 : (x.left - 1 == 0) = false := by simp [h1]
            have Hs := Lib.hid (He.out { x with left := x.left - 1 } (by rw [Hx.out]; unfold tickPt; rw [if_neg (by rw [hs]; simp [h0]), if_neg h1]))
            clear h0 hs h1
            go_wp2_with fail
            go_roundg (40 - j - 1)
            case measure => have := Hk.out; omega
            case rel =>
              refine ⟨j + 1, by have := Hk.out; omega, by go_num, ⟨?_, HF.out.ok.tickTo _⟩, Upd.setCell (S := fun k => k = b) (a := ⟨b, _, none⟩) hU.out rfl _⟩
              rw [← Hs.out]
              exact hF.out.box.setPt hF.out.ok.len (k := 2) hlt (by omega) (by rw [tickTo_pt Hj.out, Hx.out]; rfl)
    · have hj : j = 40 := by have := Hk.out; omega
      subst hj
      go_wp2_with fail
      exact bodyPost_end (v := .tuple #[]) (by simp [results, Try.results13]) rfl ⟨rfl, by rw [← tickTo_end HF.out.ok.len.1]; exact hF.out, hU.out⟩

/-! Command -/
theorem calls_not {p : Plan} {i : Nat} {t : Int} {f : Fld} (h : calls p i t = false) : f.cmd1 p i t = f := by
  unfold Fld.cmd1 cmdAt
  rw [if_neg (by rw [h]; simp), pts_self]
theorem cmd1_same {p : Plan} {i : Nat} {t : Int} {f : Fld} (h : ((f.pt i).left = 0 ∧ (f.pt i).lie = t) ∨ (0 < (f.pt i).left ∧ (f.pt i).to = t)) : f.cmd1 p i t = f := by
  unfold Fld.cmd1 cmdAt cmdPt
  rw [if_pos h]; simp only [ite_self]; rw [pts_self]
theorem cmd1_put {p : Plan} {i : Nat} {t : Int} {f : Fld} {x : Pt} (hx : f.pt i = x) (hc : calls p i t = true) (h : ¬ ((x.left = 0 ∧ x.lie = t) ∨ (0 < x.left ∧ x.to = t))) : { f with pts := f.pts.set i { x with to := t, left := p.throw } } = f.cmd1 p i t := by
  unfold Fld.cmd1 cmdAt cmdPt
  rw [hx, if_pos hc, if_neg h]
set_option maxHeartbeats 2000000 in
theorem command_any (w : World) (b nb : Nat) (p : Plan) (f : Fld) (hn : NetAt w nb p) (hf : FldAt w b nb p f) (hnb : ∀ u, Only b w u → NetAt u nb p) (a : Option Addr) (n c : Nat) (l : List Int) (hl : ∀ u, Only b w u → Ints u a n l) :
    Calls Try.prog 12 #[.pointer (some ⟨b, 0, none⟩), .slice a n c] w fun en w' => en = .returned (.tuple #[]) ∧ FldAt w' b nb p (f.command p l) ∧ Only b w w' := by
  have c0 := hf.box.net
  have HP := Lib.hid (nplan_any w nb p hn)
  have HF := Lib.hid hf
  have Hc := Lib.hid hn.ok
  have Hnb := Lib.hid hnb
  have Ll := Lib.hid (hl w (Upd.refl _ _)).len
  have hbd := (hl w (Upd.refl _ _)).bnd
  have h40 := (elems_le Hc.out).1
  have hth := throw_ok Hc.out
  have Hl := Lib.hid hl
  have HN := Lib.hid hn
  clear hn hf hl hnb
  go_enter Try.func12, Try.ntmps12
  go_wp2_with fail
  refine HP.out.mono ?_
  rintro en w0 ⟨qv, rfl, hq, hqf, hb0⟩
  have hfe : ∀ W : World, (Instr.field 27 (qv.val p) 7).run Try.prog W = .ok (.int .i64 p.throw) W := fun W => by kernel_rfl
  have Hb0 := Lib.hid hb0
  obtain ⟨V, hV⟩ : ∃ V, qv.val p = V := ⟨_, rfl⟩
  rw [hV] at hfe ⊢
  clear hq hqf hb0 c0 hV
  go_wp2_with fail
  go_loopg [16] n (fun k i wr => ∃ (j : Nat) (f' : Fld), j + k = n ∧ i = .int .i64 j ∧ Hid (FldAt wr b nb p f') ∧ Hid (Only b w wr) ∧ Hid (Fld.cmdGo p j (l.drop j) f' = f.command p l))
  case atStart => exact ⟨0, f, by omega, rfl, HF.out.below Hb0.out, Upd.of_below Hb0.out, rfl⟩
  case round =>
    obtain ⟨j, f', hk, rfl, hF, hU, hR⟩ := hrel
    have Hk := Lib.hid hk; clear hk
    by_cases hlt : j < n
    · obtain ⟨t, ht⟩ := get_some Ll.out hlt
      obtain ⟨g, off, ha, hgl, g1⟩ := (Hl.out wr hU.out).int ht
      have Hd := Lib.hid (show Fld.cmdGo p (j + 1) (l.drop (j + 1)) (f'.cmd1 p j t) = f.command p l by rw [← hR.out, drop_cons ht]; rfl)
      subst ha
      clear ht
      have HK := Lib.hid (nkind_any wr nb p (Hnb.out wr hU.out) (j : Int))
      have c0 := hF.out.box.net
      by_cases hk2 : p.kind (j : Int) = 2
      · have hj := kind_lt (p := p) (i := (j : Int)) (by omega)
        have hj40 : j < 40 := by omega
        have q2 : (p.kind (j : Int) != 2) = false := by simp [hk2]
        obtain ⟨x, hx⟩ : ∃ x, f'.pt j = x := ⟨_, rfl⟩
        have hpt := hF.out.ok.pt j
        rw [hx] at hpt
        have Hx := Lib.hid hx; clear hx
        obtain ⟨p0, p1, _⟩ := hpt
        by_cases ht : t = 1 ∨ t = 2
        · have Hca := Lib.hid (show calls p j t = true by unfold calls; simp [hk2]; exact ht)
          have qt : (t = 1 ∧ (t != 1) = false) ∨ (t = 2 ∧ (t != 1) = true ∧ (t != 2) = false) := by rcases ht with rfl | rfl <;> simp
          clear ht
          have key : ∀ G : Prop, ((t != 1) = false → G) → ((t != 1) = true → (t != 2) = false → G) → G := fun G g1 g2 => by
            rcases qt with ⟨_, h⟩ | ⟨_, h1, h2⟩
            · exact g1 h
            · exact g2 h1 h2
          have T := Lib.hid qt
          clear qt
          have way : ∀ G : Prop, ((x.left == 0) = true → (x.lie == t) = true → f'.cmd1 p j t = f' → G) → ((x.left == 0) = true → (x.lie == t) = false → { f' with pts := f'.pts.set j { x with to := t, left := p.throw } } = f'.cmd1 p j t → G) →
              ((x.left == 0) = false → decide (0 < x.left) = true → (x.to == t) = true → f'.cmd1 p j t = f' → G) → ((x.left == 0) = false → decide (0 < x.left) = true → (x.to == t) = false → { f' with pts := f'.pts.set j { x with to := t, left := p.throw } } = f'.cmd1 p j t → G) → G := by
            intro G g1 g2 g3 g4
            by_cases h0 : x.left = 0
            · by_cases h1 : x.lie = t
              · exact g1 (by simp [h0]) (by simp [h1]) (cmd1_same (by rw [Hx.out]; exact .inl ⟨h0, h1⟩))
              · exact g2 (by simp [h0]) (by simp [h1]) (cmd1_put Hx.out Hca.out (by omega))
            · by_cases h1 : x.to = t
              · exact g3 (by simp [h0]) (by simp; omega) (by simp [h1]) (cmd1_same (by rw [Hx.out]; exact .inr ⟨by omega, h1⟩))
              · exact g4 (by simp [h0]) (by simp; omega) (by simp [h1]) (cmd1_put Hx.out Hca.out (by omega))
          have Way := Lib.hid way
          have Key := Lib.hid key
          clear way key
          refine Way.out _ (fun qa qb hs => ?_) (fun qa qb hs => ?_) (fun qa qc qb hs => ?_) (fun qa qc qb hs => ?_)
          · have Hs := Lib.hid hs; clear hs Way
            refine Key.out _ (fun qx => ?_) (fun qx qy => ?_) <;> clear Key
            · clear hk2
              go_wp2_with fail
              refine HK.out.mono ?_
              rintro en w1 ⟨rfl, hb⟩
              have HF1 := Lib.hid (hF.out.below hb)
              have fz := HF1.out.box.frozen
              have hbl := HF1.out.box.lt
              have m1 := HF1.out.box.left HF1.out.ok.len hj40
              have m2 := HF1.out.box.lie HF1.out.ok.len hj40
              have m3 := HF1.out.box.to HF1.out.ok.len hj40
              rw [Hx.out] at m1 m2 m3
              have Hb := Lib.hid hb; clear hb
              go_wp2_with fail
              go_roundg (n - j - 1)
              case measure => have := Hk.out; omega
              case rel => exact ⟨j + 1, f', by have := Hk.out; omega, by go_num, hF.out.below Hb.out, hU.out.then Hb.out, by unfold Hid; rw [← Hd.out, Hs.out]⟩
            · clear hk2
              go_wp2_with fail
              refine HK.out.mono ?_
              rintro en w1 ⟨rfl, hb⟩
              have HF1 := Lib.hid (hF.out.below hb)
              have fz := HF1.out.box.frozen
              have hbl := HF1.out.box.lt
              have m1 := HF1.out.box.left HF1.out.ok.len hj40
              have m2 := HF1.out.box.lie HF1.out.ok.len hj40
              have m3 := HF1.out.box.to HF1.out.ok.len hj40
              rw [Hx.out] at m1 m2 m3
              have Hb := Lib.hid hb; clear hb
              go_wp2_with fail
              go_roundg (n - j - 1)
              case measure => have := Hk.out; omega
              case rel => exact ⟨j + 1, f', by have := Hk.out; omega, by go_num, hF.out.below Hb.out, hU.out.then Hb.out, by unfold Hid; rw [← Hd.out, Hs.out]⟩
          · have Hs := Lib.hid hs; clear hs Way
            refine Key.out _ (fun qx => ?_) (fun qx qy => ?_) <;> clear Key
            · clear hk2
              go_wp2_with fail
              refine HK.out.mono ?_
              rintro en w1 ⟨rfl, hb⟩
              have HF1 := Lib.hid (hF.out.below hb)
              have fz := HF1.out.box.frozen
              have hbl := HF1.out.box.lt
              have m1 := HF1.out.box.left HF1.out.ok.len hj40
              have m2 := HF1.out.box.lie HF1.out.ok.len hj40
              have m3 := HF1.out.box.to HF1.out.ok.len hj40
              rw [Hx.out] at m1 m2 m3
              have Hb := Lib.hid hb; clear hb
              go_wp2_with fail
              go_roundg (n - j - 1)
              case measure => have := Hk.out; omega
              case rel =>
                have hU1 : Only b w w1 := hU.out.then Hb.out
                refine ⟨j + 1, f'.cmd1 p j t, by have := Hk.out; omega, by go_num, ⟨?_, hF.out.ok.cmd1 Hc.out j t⟩, Upd.setCell (S := fun k => k = b) (a := ⟨b, _, none⟩) (Upd.setCell (S := fun k => k = b) (a := ⟨b, _, none⟩) hU1 rfl _) rfl _, Hd.out⟩
                rw [← Hs.out]
                exact HF1.out.box.setPt2 HF1.out.ok.len (k1 := 1) (k2 := 2) hj40 (by omega) (by omega) (y1 := { x with to := t }) (by rw [Hx.out]; rfl) rfl
            · clear hk2
              go_wp2_with fail
              refine HK.out.mono ?_
              rintro en w1 ⟨rfl, hb⟩
              have HF1 := Lib.hid (hF.out.below hb)
              have fz := HF1.out.box.frozen
              have hbl := HF1.out.box.lt
              have m1 := HF1.out.box.left HF1.out.ok.len hj40
              have m2 := HF1.out.box.lie HF1.out.ok.len hj40
              have m3 := HF1.out.box.to HF1.out.ok.len hj40
              rw [Hx.out] at m1 m2 m3
              have Hb := Lib.hid hb; clear hb
              go_wp2_with fail
              go_roundg (n - j - 1)
              case measure => have := Hk.out; omega
              case rel =>
                have hU1 : Only b w w1 := hU.out.then Hb.out
                refine ⟨j + 1, f'.cmd1 p j t, by have := Hk.out; omega, by go_num, ⟨?_, hF.out.ok.cmd1 Hc.out j t⟩, Upd.setCell (S := fun k => k = b) (a := ⟨b, _, none⟩) (Upd.setCell (S := fun k => k = b) (a := ⟨b, _, none⟩) hU1 rfl _) rfl _, Hd.out⟩
                rw [← Hs.out]
                exact HF1.out.box.setPt2 HF1.out.ok.len (k1 := 1) (k2 := 2) hj40 (by omega) (by omega) (y1 := { x with to := t }) (by rw [Hx.out]; rfl) rfl
          · have Hs := Lib.hid hs; clear hs Way
            refine Key.out _ (fun qx => ?_) (fun qx qy => ?_) <;> clear Key
            · clear hk2
              go_wp2_with fail
              refine HK.out.mono ?_
              rintro en w1 ⟨rfl, hb⟩
              have HF1 := Lib.hid (hF.out.below hb)
              have fz := HF1.out.box.frozen
              have hbl := HF1.out.box.lt
              have m1 := HF1.out.box.left HF1.out.ok.len hj40
              have m2 := HF1.out.box.lie HF1.out.ok.len hj40
              have m3 := HF1.out.box.to HF1.out.ok.len hj40
              rw [Hx.out] at m1 m2 m3
              have Hb := Lib.hid hb; clear hb
              go_wp2_with fail
              go_roundg (n - j - 1)
              case measure => have := Hk.out; omega
              case rel => exact ⟨j + 1, f', by have := Hk.out; omega, by go_num, hF.out.below Hb.out, hU.out.then Hb.out, by unfold Hid; rw [← Hd.out, Hs.out]⟩
            · clear hk2
              go_wp2_with fail
              refine HK.out.mono ?_
              rintro en w1 ⟨rfl, hb⟩
              have HF1 := Lib.hid (hF.out.below hb)
              have fz := HF1.out.box.frozen
              have hbl := HF1.out.box.lt
              have m1 := HF1.out.box.left HF1.out.ok.len hj40
              have m2 := HF1.out.box.lie HF1.out.ok.len hj40
              have m3 := HF1.out.box.to HF1.out.ok.len hj40
              rw [Hx.out] at m1 m2 m3
              have Hb := Lib.hid hb; clear hb
              go_wp2_with fail
              go_roundg (n - j - 1)
              case measure => have := Hk.out; omega
              case rel => exact ⟨j + 1, f', by have := Hk.out; omega, by go_num, hF.out.below Hb.out, hU.out.then Hb.out, by unfold Hid; rw [← Hd.out, Hs.out]⟩
          · have Hs := Lib.hid hs; clear hs Way
            refine Key.out _ (fun qx => ?_) (fun qx qy => ?_) <;> clear Key
            · clear hk2
              go_wp2_with fail
              refine HK.out.mono ?_
              rintro en w1 ⟨rfl, hb⟩
              have HF1 := Lib.hid (hF.out.below hb)
              have fz := HF1.out.box.frozen
              have hbl := HF1.out.box.lt
              have m1 := HF1.out.box.left HF1.out.ok.len hj40
              have m2 := HF1.out.box.lie HF1.out.ok.len hj40
              have m3 := HF1.out.box.to HF1.out.ok.len hj40
              rw [Hx.out] at m1 m2 m3
              have Hb := Lib.hid hb; clear hb
              go_wp2_with fail
              go_roundg (n - j - 1)
              case measure => have := Hk.out; omega
              case rel =>
                have hU1 : Only b w w1 := hU.out.then Hb.out
                refine ⟨j + 1, f'.cmd1 p j t, by have := Hk.out; omega, by go_num, ⟨?_, hF.out.ok.cmd1 Hc.out j t⟩, Upd.setCell (S := fun k => k = b) (a := ⟨b, _, none⟩) (Upd.setCell (S := fun k => k = b) (a := ⟨b, _, none⟩) hU1 rfl _) rfl _, Hd.out⟩
                rw [← Hs.out]
                exact HF1.out.box.setPt2 HF1.out.ok.len (k1 := 1) (k2 := 2) hj40 (by omega) (by omega) (y1 := { x with to := t }) (by rw [Hx.out]; rfl) rfl
            · clear hk2
              go_wp2_with fail
              refine HK.out.mono ?_
              rintro en w1 ⟨rfl, hb⟩
              have HF1 := Lib.hid (hF.out.below hb)
              have fz := HF1.out.box.frozen
              have hbl := HF1.out.box.lt
              have m1 := HF1.out.box.left HF1.out.ok.len hj40
              have m2 := HF1.out.box.lie HF1.out.ok.len hj40
              have m3 := HF1.out.box.to HF1.out.ok.len hj40
              rw [Hx.out] at m1 m2 m3
              have Hb := Lib.hid hb; clear hb
              go_wp2_with fail
              go_roundg (n - j - 1)
              case measure => have := Hk.out; omega
              case rel =>
                have hU1 : Only b w w1 := hU.out.then Hb.out
                refine ⟨j + 1, f'.cmd1 p j t, by have := Hk.out; omega, by go_num, ⟨?_, hF.out.ok.cmd1 Hc.out j t⟩, Upd.setCell (S := fun k => k = b) (a := ⟨b, _, none⟩) (Upd.setCell (S := fun k => k = b) (a := ⟨b, _, none⟩) hU1 rfl _) rfl _, Hd.out⟩
                rw [← Hs.out]
                exact HF1.out.box.setPt2 HF1.out.ok.len (k1 := 1) (k2 := 2) hj40 (by omega) (by omega) (y1 := { x with to := t }) (by rw [Hx.out]; rfl) rfl
        · have Hs := Lib.hid (show f'.cmd1 p j t = f' from calls_not (by unfold calls; simp [hk2]; omega))
          have q3 : (t != 1) = true := by rw [bne_iff_ne]; omega
          have q4 : (t != 2) = true := by rw [bne_iff_ne]; omega
          clear ht
          clear hk2
          go_wp2_with fail
          refine HK.out.mono ?_
          rintro en w1 ⟨rfl, hb⟩
          go_wp2_with fail
          go_roundg (n - j - 1)
          case measure => have := Hk.out; omega
          case rel => exact ⟨j + 1, f', by have := Hk.out; omega, by go_num, hF.out.below hb, hU.out.then hb, by unfold Hid; rw [← Hd.out, Hs.out]⟩
      · have q2 : (p.kind (j : Int) != 2) = true := by simp [hk2]
        have Hs := Lib.hid (show f'.cmd1 p j t = f' from calls_not (by unfold calls; simp [hk2]))
        clear hk2
        go_wp2_with fail
        refine HK.out.mono ?_
        rintro en w1 ⟨rfl, hb⟩
        go_wp2_with fail
        go_roundg (n - j - 1)
        case measure => have := Hk.out; omega
        case rel => exact ⟨j + 1, f', by have := Hk.out; omega, by go_num, hF.out.below hb, hU.out.then hb, by unfold Hid; rw [← Hd.out, Hs.out]⟩
    · go_wp2_with fail
      exact bodyPost_end (v := .tuple #[]) (by simp [results, Try.results12]) rfl ⟨rfl, by rw [← hR.out, drop_end Ll.out (by omega)]; exact hF.out, hU.out⟩
end Go.Proofs.Ytlgekkffekagbaa
