/- Walks of package late's small functions and of the library's functions over its closures. Each contract says what the call answers and that what lay in memory stays; slices read as lists. -/
import Derived.Test.YtkklnaejpgcgoaaBase
import Derived.Test.YtkklnaejpgcgoaaLateDef
namespace Go.Proofs.Ytkklnaejpgcgoaa
open Go.RowKit

def encWt (x : Wt) : List Value := [.int .i64 x.frm, .int .i64 x.to, .int .i64 x.gap]
def Wt.val (x : Wt) : Value := .agg #[.int .i64 x.frm, .int .i64 x.to, .int .i64 x.gap]
abbrev Wts (w : World) (a : Option Addr) (n : Nat) (xs : List Wt) : Prop := Row 3 encWt w a n xs
theorem Row.wt {w : World} {a : Option Addr} {n : Nat} {xs : List Wt} (h : Row 3 encWt w a n xs) {i : Nat} {x : Wt} (hx : xs[i]? = some x) :
    ∃ b off, a = some ⟨b, off, none⟩ ∧ b < w.heap.size ∧ w.cell? ⟨b, off + i * 3, none⟩ = some (.int .i64 x.frm) ∧ w.cell? ⟨b, off + i * 3 + 1, none⟩ = some (.int .i64 x.to) ∧ w.cell? ⟨b, off + i * 3 + 2, none⟩ = some (.int .i64 x.gap) := by
  obtain ⟨b, off, ha, hb, hc⟩ := h.at_ i x hx
  exact ⟨b, off, ha, hb, by simpa using hc 0 _ rfl, by simpa using hc 1 _ rfl, by simpa using hc 2 _ rfl⟩

theorem off_any (n m : Int) (w : World) : Calls Try.prog 26 #[.int .i64 n, .int .i64 m] w fun e w' => e = .returned (.bool (offB n m)) ∧ w = w' := by
  by_cases h1 : n < 0
  · have h2 := Lib.hid (show offB n m = true by simp [offB, h1])
    go_enter Try.func26, Try.ntmps26
    go_wp2
    go_ret
    exact ⟨ret_bool h2.out.symm, rfl⟩
  · have h2 := Lib.hid (show offB n m = decide (m < n) by simp [offB, h1])
    go_enter Try.func26, Try.ntmps26
    go_wp2
    go_ret
    exact ⟨ret_bool h2.out.symm, rfl⟩

theorem check1_any (t : Int) (w : World) : Calls Try.prog 35 #[.int .i64 t] w fun e w' => e = .returned (.bool (offB t 100000)) ∧ w = w' := by
  go_enter Try.func35, Try.ntmps35
  go_wp2_with (go_at_call 26; refine (off_any _ _ _).mono ?_; rintro e w' ⟨rfl, rfl⟩)
  go_ret
  exact ⟨rfl, rfl⟩
theorem slack1_any (t : Int) (w : World) : Calls Try.prog 31 #[.int .i64 t] w fun e w' => e = .returned (.bool (offB t 1000000000)) ∧ w = w' := by
  go_enter Try.func31, Try.ntmps31
  go_wp2_with (go_at_call 26; refine (off_any _ _ _).mono ?_; rintro e w' ⟨rfl, rfl⟩)
  go_ret
  exact ⟨rfl, rfl⟩
theorem check2_any (x : Wt) (w : World) : Calls Try.prog 37 #[x.val] w fun e w' => e = .returned (.bool (offB x.gap 100000)) ∧ Below w.heap.size w w' := by
  obtain ⟨fr, to, gap⟩ := x
  unfold Wt.val
  go_enter Try.func37, Try.ntmps37
  go_wp2_with (go_at_call 26; refine (off_any _ _ _).mono ?_; rintro e w' ⟨rfl, rfl⟩)
  go_ret
  exact ⟨rfl, (Below.refl _ _).alloc (Nat.le_refl _) _⟩
theorem check3_any (x : Wt) (w : World) (b o : Nat) (a : Option Addr) (n c : Nat) (hb : b < w.heap.size) (hc : w.cell? ⟨b, o, none⟩ = some (.slice a n c)) (hn : n ≤ 9223372036854775807) :
    Calls Try.prog 38 #[x.val, .pointer (some ⟨b, o, none⟩)] w fun e w' => e = .returned (.bool (offB x.frm (n - 1) || offB x.to (n - 1))) ∧ Below w.heap.size w w' := by
  obtain ⟨fr, to, gap⟩ := x
  unfold Wt.val
  cases h1 : offB fr (n - 1)
  · have h1 := Lib.hid h1
    go_enter Try.func38, Try.ntmps38
    go_wp2_with fail
    refine (off_any _ _ _).mono ?_; rintro e w' ⟨rfl, rfl⟩
    rw [h1.out]
    go_wp2_with (go_at_call 26; refine (off_any _ _ _).mono ?_; rintro e w' ⟨rfl, rfl⟩)
    go_ret
    exact ⟨by simp, (Below.refl _ _).alloc (Nat.le_refl _) _⟩
  · have h1 := Lib.hid h1
    go_enter Try.func38, Try.ntmps38
    go_wp2_with fail
    refine (off_any _ _ _).mono ?_; rintro e w' ⟨rfl, rfl⟩
    rw [h1.out]
    go_wp2_with fail
    go_ret
    exact ⟨by simp, (Below.refl _ _).alloc (Nat.le_refl _) _⟩

set_option maxHeartbeats 400000 in
theorem idxInts (w : World) (a1 : Option Addr) (n1 c1 : Nat) (xs : List Int) (F : FuncId) (cap : Array Value) (p : Int → Bool) (h1 : Ints w a1 n1 xs) (hF : Fun F cap (Value.int .i64) w p xs) :
    Calls Try.prog 34 #[.slice a1 n1 c1, .func (.func F) #[] cap] w fun e w' => e = .returned (.int .i64 (idxFrom p 0 xs)) ∧ Below w.heap.size w w' := by
  have l1 := Lib.hid h1.len
  have b1 := h1.bnd
  have hrun := hF.run
  go_enter Try.func34, Try.ntmps34
  go_wp2
  go_loopg [8] n1 (fun k i wr => ∃ j : Nat, j + k = n1 ∧ i = .int .i64 j ∧ idxFrom p j (xs.drop j) = idxFrom p 0 xs ∧ Below w.heap.size w wr)
  case atStart => exact ⟨0, by omega, rfl, by simp, Below.refl _ _⟩
  case round =>
    obtain ⟨k, hk, rfl, he, hb⟩ := hrel
    have He := Lib.hid he; clear he
    have Hk := Lib.hid hk; clear hk
    by_cases hlt : k < n1
    · obtain ⟨x, hx⟩ := get_some l1.out hlt
      obtain ⟨p1, o1, rfl, hp1, g1⟩ := h1.int hx
      have g1 := (hb.cell (p := ⟨p1, o1 + k, none⟩) hp1).trans g1
      have Hx := Lib.hid hx; clear hx
      have hcall := hF.call x (List.mem_of_getElem? Hx.out) wr hb
      have HF := Lib.hid hF; clear hF
      go_wp2_with fail
      refine hcall.mono ?_
      rintro e w' ⟨rfl, hb'⟩
      have hd := drop_cons Hx.out
      cases hp : p x
      · have hp := Lib.hid hp
        have hd := Lib.hid hd
        go_wp2_with fail
        go_roundg (gk - 1)
        case measure => have := Hk.out; omega
        case rel => exact ⟨k + 1, by have := Hk.out; omega, by go_num, by rw [← He.out, hd.out]; simp [idxFrom, hp.out], below_step hb hb' (by have := hb.size; omega)⟩
      · have hp := Lib.hid hp
        have hd := Lib.hid hd
        go_wp2_with fail
        go_ret
        exact ⟨ret_int (by rw [← He.out, hd.out]; simp [idxFrom, hp.out]), below_step hb hb' hb.size⟩
    · go_wp2_with fail
      go_ret
      exact ⟨ret_int (by rw [← He.out, drop_end l1.out (by omega)]; rfl), hb⟩
end Go.Proofs.Ytkklnaejpgcgoaa
