/- What semaphorelaw13 knows of the small plan's field holds; acts among the arguments. No condition. -/
import Derived.Test.YtlgekkffekagbaaFieldL1
set_option maxRecDepth 1000000
namespace Go.Proofs.Ytlgekkffekagbaa
open Go.ChangeShapes Go.WideShapes Go.ChangeAt Go.RowKit Go.Sort

theorem Row.upd {α : Type} {sz : Nat} {enc : α → List Value} {w w' : World} {a : Option Addr} {n : Nat} {xs : List α} (h : Row sz enc w a n xs) {S : Nat → Prop} (hu : Upd S w w') (hs : ∀ ad, a = some ad → ¬ S ad.block) : Row sz enc w' a n xs :=
  ⟨h.len, h.bnd, fun i x hx => by
    obtain ⟨g, off, hag, hlt, hcell⟩ := h.at_ i x hx
    refine ⟨g, off, hag, Nat.lt_of_lt_of_le hlt hu.size, fun j v hv => ?_⟩
    have := hu.block g hlt (hs _ hag)
    unfold World.cell? at *
    rw [this]; exact hcell j v hv⟩
theorem Row.only {α : Type} {sz : Nat} {enc : α → List Value} {w w' : World} {g n b : Nat} {xs : List α} (h : Row sz enc w (some ⟨g, 0, none⟩) n xs) (hu : Only b w w') (hg : b < g) : Row sz enc w' (some ⟨g, 0, none⟩) n xs :=
  h.upd hu (fun ad he => by cases he; show ¬ g = b; omega)
theorem row_lit {w : World} {xs : List Int} {T : TypeId} {cs : Array Value} (hc : cs.toList = xs.map (Value.int .i64)) (hn : xs.length ≤ 1000) : Ints (w.alloc (.cells cs T)) (some ⟨w.heap.size, 0, none⟩) xs.length xs :=
  row_block (sz := 1) (enc := encInt) (fun _ => rfl) (by decide) xs (heap_alloc_new w _) (by rw [flat_ints]; exact hc) rfl (by omega)
theorem row_litB {w : World} {xs : List Bool} {T : TypeId} {cs : Array Value} (hc : cs.toList = xs.map Value.bool) (hn : xs.length ≤ 1000) : Bools (w.alloc (.cells cs T)) (some ⟨w.heap.size, 0, none⟩) xs.length xs :=
  row_block (sz := 1) (enc := encBool) (fun _ => rfl) (by decide) xs (heap_alloc_new w _) (by rw [flat_bools]; exact hc) rfl (by omega)
theorem samei_f {w : World} {a1 a2 : Option Addr} {n1 n2 c1 c2 : Nat} {xs ys : List Int} (h1 : Ints w a1 n1 xs) (h2 : Ints w a2 n2 ys) :
    Calls Try.prog 21 #[.slice a1 n1 c1, .slice a2 n2 c2] w fun e w' => e = .returned (.bool (decide (xs = ys))) ∧ Below w.heap.size w w' :=
  (refSameInts w a1 a2 n1 n2 c1 c2 xs ys h1 h2).mono fun _ _ ⟨h, q, hw⟩ => ⟨h, by rw [hw]; exact below_drewN (Below.refl _ _) q⟩
theorem sameb_f {w : World} {a1 a2 : Option Addr} {n1 n2 c1 c2 : Nat} {xs ys : List Bool} (h1 : Bools w a1 n1 xs) (h2 : Bools w a2 n2 ys) :
    Calls Try.prog 24 #[.slice a1 n1 c1, .slice a2 n2 c2] w fun e w' => e = .returned (.bool (decide (xs = ys))) ∧ Below w.heap.size w w' :=
  (refSameBools w a1 a2 n1 n2 c1 c2 xs ys h1 h2).mono fun _ _ ⟨h, q, hw⟩ => ⟨h, by rw [hw]; exact below_drewN (Below.refl _ _) q⟩
theorem make6 (w : World) : ∃ w', (Instr.makeSlice 28 (.int .i64 6) (.int .i64 6)).run Try.prog w = .ok (.slice (some ⟨w.heap.size, 0, none⟩) 6 6) w' ∧ Ints w' (some ⟨w.heap.size, 0, none⟩) 6 [0, 0, 0, 0, 0, 0] ∧ Below w.heap.size w w' := by
  obtain ⟨ii, hii, zi1, zi2, zi3⟩ := info_parts info_intF
  obtain ⟨w', h1, h2, h3⟩ := run_make_full w w.heap.size 28 3 ii (.int .i64 0) 1 Try.underlying28 hii zi1 zi2 .i64 .i64 6 (by rw [zi3]; omega) (by simp [maxLen]) (Nat.le_refl _)
  refine ⟨w', h1, ?_, (Below.refl _ _).grown h3 (Nat.le_refl _) (by intro k hk; cases hk)⟩
  rw [show (Value.int .i64 0).cells = #[Value.int .i64 0] from rfl, Nat.mul_one, toList_madeCells_one] at h2
  exact (own_ints (xs := [0, 0, 0, 0, 0, 0]) (by unfold OwnI; simpa using h2)).1
theorem small_fine13 : fine smallPlan = true := by decide +kernel
def kf1 : Fld := (newFld smallPlan).command smallPlan [0, 0, 2, 0, 0, 0]
def kf3 : Fld := kf1.tick.tick
def kf4 : Fld := kf3.blind smallPlan 2 true
def kf6 : Fld := (kf4.darken smallPlan 1 true).shorten smallPlan 3
theorem kf_pos1 : kf1.pos smallPlan = [0, 0, 0, 0, 0, 0] := by decide +kernel
theorem kf_left : kf1.left smallPlan 2 = 2 := by decide +kernel
theorem kf_pos3 : kf3.pos smallPlan = [0, 0, 2, 0, 0, 0] := by decide +kernel
theorem kf_told : kf4.told smallPlan = [0, 0, 0, 0, 0, 0] := by decide +kernel
theorem kf_lamps : kf6.lamps smallPlan [2, 2, 1, 7, 0] = [2, 0, 1, 0, 0] := by decide +kernel
theorem kf_occ : kf6.occ smallPlan [true, true] = [false, true, false, true, false, false] := by decide +kernel
set_option maxHeartbeats 4000000 in
theorem known13_any (w : World) : Calls Try.prog 8 #[] w fun e w' => e = .returned (.bool true) ∧ Below w.heap.size w w' := by
  have l6 : smallPlan.elems.length = 6 := rfl
  have l5 : smallPlan.sigs.length = 5 := rfl
  go_enter Try.func8, Try.ntmps8
  go_wp2_with fail
  refine (small_any _).mono ?_
  rintro e w1 ⟨pv, rfl, hp, hlv, hb1⟩
  have HP := Lib.hid hp; have Hb1 := Lib.hid hb1
  clear hp hlv hb1
  go_wp2_with fail
  refine (made_any _ pv smallPlan small_fine13 HP.out).mono ?_
  rintro e w2 ⟨nb, rfl, hbb, hn, hb2⟩
  have HK2 := Lib.hid (NetK.start hn (HP.out.below hb2))
  have HW2 := Lib.hid (below_step Hb1.out hb2 Hb1.out.size)
  clear hn hb2 hbb
  go_wp2_with fail
  refine (newf_any w2 nb smallPlan HK2.out.now).mono ?_
  rintro e w3 ⟨b, rfl, hb, hf, hb3⟩
  have HF3 := Lib.hid hf
  have HK3 := Lib.hid (HK2.out.calm hb3)
  have HB3 := Lib.hid hb3
  have Hbg := Lib.hid hb
  clear hf hb3 hb
  go_wp2_with fail
  refine name_calls fun w4 hw => ?_
  have hx : Below w3.heap.size w3 w4 := by rw [hw]; exact below_new _ _
  have HL4 := Lib.hid (show Ints w4 (some ⟨w3.heap.size, 0, none⟩) 6 [0, 0, 2, 0, 0, 0] by rw [hw]; exact row_lit (xs := [0, 0, 2, 0, 0, 0]) rfl (by decide))
  have HF4 := Lib.hid (HF3.out.below hx)
  have HK4 := Lib.hid (HK3.out.calm hx)
  have HB4 := Lib.hid (below_step HB3.out hx HB3.out.size)
  have hbl : b < w3.heap.size := HF3.out.box.lt
  clear hx hw
  refine (command_any w4 b nb smallPlan _ HK4.out.now HF4.out (fun u hu => HK4.out.net u (hu.below (fun k hk => by rw [hk]; exact Hbg.out) HK4.out.le)) _ 6 6 _ (fun u hu => HL4.out.only hu hbl)).mono ?_
  rintro e w5 ⟨rfl, hf, hu⟩
  have HF5 := Lib.hid (show FldAt w5 b nb smallPlan kf1 from hf)
  have HK5 := Lib.hid (HK4.out.only Hbg.out hu)
  have HB5 := Lib.hid (HB4.out.trans (hu.below (fun k hk => by rw [hk]; exact Hbg.out) HK4.out.le))
  clear hf hu hbl
  go_wp2_with fail
  refine (pos_any w5 b nb smallPlan _ HK5.out.now HF5.out).mono ?_
  rintro e w6 ⟨ga, rfl, ho, hx⟩
  have HF6 := Lib.hid (HF5.out.below hx)
  have HK6 := Lib.hid (HK5.out.calm hx)
  have HB6 := Lib.hid (below_step HB5.out hx HB5.out.size)
  have gab : b < ga := Nat.lt_of_lt_of_le HF5.out.box.lt (own_shape' ho).1
  have A6 := Lib.hid (show Ints w6 (some ⟨ga, 0, none⟩) 6 _ from (own_ints ho).1)
  rw [kf_pos1] at A6
  clear ho
  clear hx
  go_wp2_with fail
  refine (left_any w6 b nb smallPlan _ HK6.out.now HF6.out 2).mono ?_
  rw [kf_left]
  rintro e w7 ⟨rfl, hx⟩
  have HF7 := Lib.hid (HF6.out.below hx)
  have HK7 := Lib.hid (HK6.out.calm hx)
  have HB7 := Lib.hid (below_step HB6.out hx HB6.out.size)
  have A7 := Lib.hid (A6.out.below hx)
  clear hx
  go_wp2_with fail
  refine (tick_any w7 b nb smallPlan _ HF7.out).mono ?_
  rintro e w8 ⟨rfl, hf, hu⟩
  have HF8 := Lib.hid (show FldAt w8 b nb smallPlan kf1.tick from hf)
  have HK8 := Lib.hid (HK7.out.only Hbg.out hu)
  have HB8 := Lib.hid (HB7.out.trans (hu.below (fun k hk => by rw [hk]; exact Hbg.out) HK7.out.le))
  have A8 := Lib.hid (A7.out.only hu gab)
  clear hf hu
  go_wp2_with fail
  refine (tick_any w8 b nb smallPlan _ HF8.out).mono ?_
  rintro e w9 ⟨rfl, hf, hu⟩
  have HF9 := Lib.hid (show FldAt w9 b nb smallPlan kf3 from hf)
  have HK9 := Lib.hid (HK8.out.only Hbg.out hu)
  have HB9 := Lib.hid (HB8.out.trans (hu.below (fun k hk => by rw [hk]; exact Hbg.out) HK8.out.le))
  have A9 := Lib.hid (A8.out.only hu gab)
  clear hf hu
  go_wp2_with fail
  refine (pos_any w9 b nb smallPlan _ HK9.out.now HF9.out).mono ?_
  rintro e w10 ⟨gb, rfl, ho, hx⟩
  have HF10 := Lib.hid (HF9.out.below hx)
  have HK10 := Lib.hid (HK9.out.calm hx)
  have HB10 := Lib.hid (below_step HB9.out hx HB9.out.size)
  have gbb : b < gb := Nat.lt_of_lt_of_le HF9.out.box.lt (own_shape' ho).1
  have B10 := Lib.hid (show Ints w10 (some ⟨gb, 0, none⟩) 6 _ from (own_ints ho).1)
  rw [kf_pos3] at B10
  clear ho
  have A10 := Lib.hid (A9.out.below hx)
  clear hx
  go_wp2_with fail
  refine (blind_any w10 b nb smallPlan _ HK10.out.now HF10.out 2 true).mono ?_
  rintro e w11 ⟨rfl, hf, hu⟩
  have HF11 := Lib.hid (show FldAt w11 b nb smallPlan kf4 from hf)
  have HK11 := Lib.hid (HK10.out.only Hbg.out hu)
  have HB11 := Lib.hid (HB10.out.trans (hu.below (fun k hk => by rw [hk]; exact Hbg.out) HK10.out.le))
  have A11 := Lib.hid (A10.out.only hu gab)
  have B11 := Lib.hid (B10.out.only hu gbb)
  clear hf hu
  go_wp2_with fail
  refine (told_any w11 b nb smallPlan _ HK11.out.now HF11.out).mono ?_
  rintro e w12 ⟨gc, rfl, ho, hx⟩
  have HF12 := Lib.hid (HF11.out.below hx)
  have HK12 := Lib.hid (HK11.out.calm hx)
  have HB12 := Lib.hid (below_step HB11.out hx HB11.out.size)
  have gcb : b < gc := Nat.lt_of_lt_of_le HF11.out.box.lt (own_shape' ho).1
  have C12 := Lib.hid (show Ints w12 (some ⟨gc, 0, none⟩) 6 _ from (own_ints ho).1)
  rw [kf_told] at C12
  clear ho
  have A12 := Lib.hid (A11.out.below hx)
  have B12 := Lib.hid (B11.out.below hx)
  clear hx
  go_wp2_with fail
  refine (dark_any w12 b nb smallPlan _ HK12.out.now HF12.out 1 true).mono ?_
  rintro e w13 ⟨rfl, hf, hu⟩
  have HF13 := Lib.hid (show FldAt w13 b nb smallPlan (kf4.darken smallPlan 1 true) from hf)
  have HK13 := Lib.hid (HK12.out.only Hbg.out hu)
  have HB13 := Lib.hid (HB12.out.trans (hu.below (fun k hk => by rw [hk]; exact Hbg.out) HK12.out.le))
  have A13 := Lib.hid (A12.out.only hu gab)
  have B13 := Lib.hid (B12.out.only hu gbb)
  have C13 := Lib.hid (C12.out.only hu gcb)
  clear hf hu
  go_wp2_with fail
  refine (short_any w13 b nb smallPlan _ HK13.out.now HF13.out 3).mono ?_
  rintro e w14 ⟨rfl, hf, hu⟩
  have HF14 := Lib.hid (show FldAt w14 b nb smallPlan kf6 from hf)
  have HK14 := Lib.hid (HK13.out.only Hbg.out hu)
  have HB14 := Lib.hid (HB13.out.trans (hu.below (fun k hk => by rw [hk]; exact Hbg.out) HK13.out.le))
  have A14 := Lib.hid (A13.out.only hu gab)
  have B14 := Lib.hid (B13.out.only hu gbb)
  have C14 := Lib.hid (C13.out.only hu gcb)
  clear hf hu
  go_wp2_with fail
  refine name_calls fun w15 hw => ?_
  have hx : Below w14.heap.size w14 w15 := by rw [hw]; exact below_new _ _
  have L15 := Lib.hid (show Ints w15 (some ⟨w14.heap.size, 0, none⟩) 6 [0, 0, 0, 0, 0, 0] by rw [hw]; exact row_lit (xs := [0, 0, 0, 0, 0, 0]) rfl (by decide))
  have HF15 := Lib.hid (HF14.out.below hx)
  have HK15 := Lib.hid (HK14.out.calm hx)
  have HB15 := Lib.hid (below_step HB14.out hx HB14.out.size)
  have A15 := Lib.hid (A14.out.below hx)
  have B15 := Lib.hid (B14.out.below hx)
  have C15 := Lib.hid (C14.out.below hx)
  clear hx hw
  refine (samei_f A15.out L15.out).mono ?_
  rw [show decide (_ = _) = true from by decide]
  rintro e w16 ⟨rfl, hx⟩
  have HF16 := Lib.hid (HF15.out.below hx)
  have HK16 := Lib.hid (HK15.out.calm hx)
  have HB16 := Lib.hid (below_step HB15.out hx HB15.out.size)
  have B16 := Lib.hid (B15.out.below hx)
  have C16 := Lib.hid (C15.out.below hx)
  clear hx
  go_wp2_with fail
  refine name_calls fun w17 hw => ?_
  have hx : Below w16.heap.size w16 w17 := by rw [hw]; exact below_new _ _
  have L17 := Lib.hid (show Ints w17 (some ⟨w16.heap.size, 0, none⟩) 6 [0, 0, 2, 0, 0, 0] by rw [hw]; exact row_lit (xs := [0, 0, 2, 0, 0, 0]) rfl (by decide))
  have HF17 := Lib.hid (HF16.out.below hx)
  have HK17 := Lib.hid (HK16.out.calm hx)
  have HB17 := Lib.hid (below_step HB16.out hx HB16.out.size)
  have B17 := Lib.hid (B16.out.below hx)
  have C17 := Lib.hid (C16.out.below hx)
  clear hx hw
  refine (samei_f B17.out L17.out).mono ?_
  rw [show decide (_ = _) = true from by decide]
  rintro e w18 ⟨rfl, hx⟩
  have HF18 := Lib.hid (HF17.out.below hx)
  have HK18 := Lib.hid (HK17.out.calm hx)
  have HB18 := Lib.hid (below_step HB17.out hx HB17.out.size)
  have C18 := Lib.hid (C17.out.below hx)
  clear hx
  obtain ⟨w19, hm, hr, hx⟩ := make6 w18
  have L19 := Lib.hid hr
  have HF19 := Lib.hid (HF18.out.below hx)
  have HK19 := Lib.hid (HK18.out.calm hx)
  have HB19 := Lib.hid (below_step HB18.out hx HB18.out.size)
  have C19 := Lib.hid (C18.out.below hx)
  clear hr hx
  go_wp2_with fail
  clear hm
  refine (samei_f C19.out L19.out).mono ?_
  rw [show decide (_ = _) = true from by decide]
  rintro e w20 ⟨rfl, hx⟩
  have HF20 := Lib.hid (HF19.out.below hx)
  have HK20 := Lib.hid (HK19.out.calm hx)
  have HB20 := Lib.hid (below_step HB19.out hx HB19.out.size)
  clear hx
  go_wp2_with fail
  refine name_calls fun w21 hw => ?_
  have hx : Below w20.heap.size w20 w21 := by rw [hw]; exact below_new _ _
  have L21 := Lib.hid (show Ints w21 (some ⟨w20.heap.size, 0, none⟩) 5 [2, 2, 1, 7, 0] by rw [hw]; exact row_lit (xs := [2, 2, 1, 7, 0]) rfl (by decide))
  have HF21 := Lib.hid (HF20.out.below hx)
  have HK21 := Lib.hid (HK20.out.calm hx)
  have HB21 := Lib.hid (below_step HB20.out hx HB20.out.size)
  clear hx hw
  refine (lamps_any w21 b nb smallPlan _ HK21.out.now HF21.out _ 5 5 _ L21.out).mono ?_
  rw [kf_lamps]
  rintro e w22 ⟨gd, rfl, ho, hx⟩
  have D22 := Lib.hid (show Ints w22 (some ⟨gd, 0, none⟩) 5 _ from (own_ints ho).1)
  have HF22 := Lib.hid (HF21.out.below hx)
  have HK22 := Lib.hid (HK21.out.calm hx)
  have HB22 := Lib.hid (below_step HB21.out hx HB21.out.size)
  clear ho hx
  go_wp2_with fail
  refine name_calls fun w23 hw => ?_
  have hx : Below w22.heap.size w22 w23 := by rw [hw]; exact below_new _ _
  have L23 := Lib.hid (show Ints w23 (some ⟨w22.heap.size, 0, none⟩) 5 [2, 0, 1, 0, 0] by rw [hw]; exact row_lit (xs := [2, 0, 1, 0, 0]) rfl (by decide))
  have HF23 := Lib.hid (HF22.out.below hx)
  have HK23 := Lib.hid (HK22.out.calm hx)
  have HB23 := Lib.hid (below_step HB22.out hx HB22.out.size)
  have D23 := Lib.hid (D22.out.below hx)
  clear hx hw
  refine (samei_f D23.out L23.out).mono ?_
  rw [show decide (_ = _) = true from by decide]
  rintro e w24 ⟨rfl, hx⟩
  have HF24 := Lib.hid (HF23.out.below hx)
  have HK24 := Lib.hid (HK23.out.calm hx)
  have HB24 := Lib.hid (below_step HB23.out hx HB23.out.size)
  clear hx
  go_wp2_with fail
  refine name_calls fun w25 hw => ?_
  have hx : Below w24.heap.size w24 w25 := by rw [hw]; exact below_new _ _
  have L25 := Lib.hid (show Bools w25 (some ⟨w24.heap.size, 0, none⟩) 2 [true, true] by rw [hw]; exact row_litB (xs := [true, true]) rfl (by decide))
  have HF25 := Lib.hid (HF24.out.below hx)
  have HK25 := Lib.hid (HK24.out.calm hx)
  have HB25 := Lib.hid (below_step HB24.out hx HB24.out.size)
  clear hx hw
  refine (occ_any w25 b nb smallPlan _ HK25.out.now HF25.out _ 2 2 _ L25.out).mono ?_
  rw [kf_occ]
  rintro e w26 ⟨gq, rfl, ho, hx⟩
  have D26 := Lib.hid (show Bools w26 (some ⟨gq, 0, none⟩) 6 _ from (own_bools ho).1)
  have HF26 := Lib.hid (HF25.out.below hx)
  have HK26 := Lib.hid (HK25.out.calm hx)
  have HB26 := Lib.hid (below_step HB25.out hx HB25.out.size)
  clear ho hx
  go_wp2_with fail
  refine name_calls fun w27 hw => ?_
  have hx : Below w26.heap.size w26 w27 := by rw [hw]; exact below_new _ _
  have L27 := Lib.hid (show Bools w27 (some ⟨w26.heap.size, 0, none⟩) 6 [false, true, false, true, false, false] by rw [hw]; exact row_litB (xs := [false, true, false, true, false, false]) rfl (by decide))
  have HF27 := Lib.hid (HF26.out.below hx)
  have HK27 := Lib.hid (HK26.out.calm hx)
  have HB27 := Lib.hid (below_step HB26.out hx HB26.out.size)
  have D27 := Lib.hid (D26.out.below hx)
  clear hx hw
  refine (sameb_f D27.out L27.out).mono ?_
  rw [show decide (_ = _) = true from by decide]
  rintro e w28 ⟨rfl, hx⟩
  have HF28 := Lib.hid (HF27.out.below hx)
  have HK28 := Lib.hid (HK27.out.calm hx)
  have HB28 := Lib.hid (below_step HB27.out hx HB27.out.size)
  clear hx
  go_wp2_with fail
  go_ret
  exact ⟨rfl, below_step HW2.out HB28.out HW2.out.size⟩
end Go.Proofs.Ytlgekkffekagbaa
