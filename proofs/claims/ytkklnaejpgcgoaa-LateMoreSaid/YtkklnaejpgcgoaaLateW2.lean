/- Walks of late.check and what it calls. No condition beyond those on the slices that are read. -/
import Derived.Test.YtkklnaejpgcgoaaLateW1
namespace Go.Proofs.Ytkklnaejpgcgoaa
open Go.RowKit

theorem conInts (w : World) (a1 : Option Addr) (n1 c1 : Nat) (xs : List Int) (F : FuncId) (cap : Array Value) (p : Int → Bool) (h1 : Ints w a1 n1 xs) (hF : Fun F cap (Value.int .i64) w p xs) :
    Calls Try.prog 30 #[.slice a1 n1 c1, .func (.func F) #[] cap] w fun e w' => e = .returned (.bool (xs.any p)) ∧ Below w.heap.size w w' := by
  have H := Lib.hid (idxInts w a1 n1 c1 xs F cap p h1 hF)
  clear h1 hF
  go_enter Try.func30, Try.ntmps30
  go_wp2_with fail
  refine H.out.mono ?_
  rintro e w' ⟨rfl, hb⟩
  go_wp2_with fail
  go_ret
  exact ⟨ret_bool (idxFrom_ge p xs 0), hb⟩

set_option maxHeartbeats 400000 in
theorem idxWts (w : World) (a1 : Option Addr) (n1 c1 : Nat) (xs : List Wt) (F : FuncId) (cap : Array Value) (p : Wt → Bool) (h1 : Wts w a1 n1 xs) (hF : Fun F cap Wt.val w p xs) :
    Calls Try.prog 40 #[.slice a1 n1 c1, .func (.func F) #[] cap] w fun e w' => e = .returned (.int .i64 (idxFrom p 0 xs)) ∧ Below w.heap.size w w' := by
  have l1 := Lib.hid h1.len
  have b1 := h1.bnd
  have hrun := hF.run
  go_enter Try.func40, Try.ntmps40
  go_wp2
  go_loopg [8] n1 (fun k i wr => ∃ j : Nat, j + k = n1 ∧ i = .int .i64 j ∧ idxFrom p j (xs.drop j) = idxFrom p 0 xs ∧ Below w.heap.size w wr)
  case atStart => exact ⟨0, by omega, rfl, by simp, Below.refl _ _⟩
  case round =>
    obtain ⟨k, hk, rfl, he, hb⟩ := hrel
    have He := Lib.hid he; clear he
    have Hk := Lib.hid hk; clear hk
    by_cases hlt : k < n1
    · obtain ⟨x, hx⟩ := get_some l1.out hlt
      obtain ⟨p1, o1, rfl, hp1, g1, g2, g3⟩ := h1.wt hx
      have g1 := (hb.cell (p := ⟨p1, o1 + k * 3, none⟩) hp1).trans g1
      have g2 := (hb.cell (p := ⟨p1, o1 + k * 3 + 1, none⟩) hp1).trans g2
      have g3 := (hb.cell (p := ⟨p1, o1 + k * 3 + 2, none⟩) hp1).trans g3
      have Hx := Lib.hid hx; clear hx
      have hcall := hF.call x (List.mem_of_getElem? Hx.out) wr hb
      have HF := Lib.hid hF; clear hF
      go_wp2_with fail
      refine hcall.mono ?_
      rintro e w' ⟨rfl, hb'⟩
      have hd := drop_cons Hx.out
      cases hp : p x
      · have hp := Lib.hid hp
        have hd := Lib.hid hd
        go_wp2_with fail
        go_roundg (gk - 1)
        case measure => have := Hk.out; omega
        case rel => exact ⟨k + 1, by have := Hk.out; omega, by go_num, by rw [← He.out, hd.out]; simp [idxFrom, hp.out], below_step hb hb' (by have := hb.size; omega)⟩
      · have hp := Lib.hid hp
        have hd := Lib.hid hd
        go_wp2_with fail
        go_ret
        exact ⟨ret_int (by rw [← He.out, hd.out]; simp [idxFrom, hp.out]), below_step hb hb' hb.size⟩
    · go_wp2_with fail
      go_ret
      exact ⟨ret_int (by rw [← He.out, drop_end l1.out (by omega)]; rfl), hb⟩

theorem conWts (w : World) (a1 : Option Addr) (n1 c1 : Nat) (xs : List Wt) (F : FuncId) (cap : Array Value) (p : Wt → Bool) (h1 : Wts w a1 n1 xs) (hF : Fun F cap Wt.val w p xs) :
    Calls Try.prog 36 #[.slice a1 n1 c1, .func (.func F) #[] cap] w fun e w' => e = .returned (.bool (xs.any p)) ∧ Below w.heap.size w w' := by
  have H := Lib.hid (idxWts w a1 n1 c1 xs F cap p h1 hF)
  clear h1 hF
  go_enter Try.func36, Try.ntmps36
  go_wp2_with fail
  refine H.out.mono ?_
  rintro e w' ⟨rfl, hb⟩
  go_wp2_with fail
  go_ret
  exact ⟨ret_bool (idxFrom_ge p xs 0), hb⟩

theorem fun_check1 (w : World) (xs : List Int) : Fun 35 #[] (Value.int .i64) w (fun t => offB t 100000) xs :=
  ⟨fun args w => by kernel_rfl, fun x _ w _ => (check1_any x w).mono fun _ _ ⟨h1, h2⟩ => ⟨h1, h2 ▸ Below.refl _ _⟩⟩
theorem fun_slack1 (w : World) (xs : List Int) : Fun 31 #[] (Value.int .i64) w (fun t => offB t 1000000000) xs :=
  ⟨fun args w => by kernel_rfl, fun x _ w _ => (slack1_any x w).mono fun _ _ ⟨h1, h2⟩ => ⟨h1, h2 ▸ Below.refl _ _⟩⟩
theorem fun_check2 (w : World) (xs : List Wt) : Fun 37 #[] Wt.val w (fun x => offB x.gap 100000) xs :=
  ⟨fun args w => by kernel_rfl, fun x _ w _ => check2_any x w⟩
theorem fun_check3 (w : World) (xs : List Wt) (b o : Nat) (a : Option Addr) (n c : Nat) (hb : b < w.heap.size) (hc : w.cell? ⟨b, o, none⟩ = some (.slice a n c)) (hn : n ≤ 9223372036854775807) :
    Fun 38 #[.pointer (some ⟨b, o, none⟩)] Wt.val w (fun x => offB x.frm (n - 1) || offB x.to (n - 1)) xs :=
  ⟨fun args w => by kernel_rfl, fun x _ w1 h1 => check3_any x w1 b o a n c (Nat.lt_of_lt_of_le hb h1.size) ((h1.cell (p := ⟨b, o, none⟩) hb).trans hc) hn⟩
end Go.Proofs.Ytkklnaejpgcgoaa
