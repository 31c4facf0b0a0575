/- Walks of road.path.may and what it calls. Condition: the path's block is read. -/
import Derived.Test.YtcaeglnfflkabaaGreatTopAt
import Derived.Test.YtcaeglnfflkabaaGreatNetM1
import Derived.BigQuiet
set_option maxRecDepth 1000000
namespace Go.Proofs.YtcaeglnfflkabaaGreat
open Go.ChangeShapes Go.WideShapes Go.ChangeAt Go.RowKit Go.Sort

theorem may1_any (w : World) (b : Nat) (x : Stp) (e : Int) (hb : b < w.heap.size) (hc : w.cell? ⟨b, 0, none⟩ = some (.int .i64 e)) :
    Calls Tryz.prog 166 #[x.val, .pointer (some ⟨b, 0, none⟩)] w fun en w' => en = .returned (.bool (decide (x.e = e))) ∧ Below w.heap.size w w' := by
  unfold Stp.val
  go_enter Tryz.func166, Tryz.ntmps166
  go_wp2_with fail
  go_ret
  exact ⟨rfl, below_new _ _⟩
set_option maxHeartbeats 400000 in
theorem idxStps (w : World) (a1 : Option Addr) (n1 c1 : Nat) (xs : List Stp) (F : FuncId) (cap : Array Value) (p : Stp → Bool) (h1 : Stps w a1 n1 xs) (hF : Fun F cap Stp.val w p xs) :
    Calls Tryz.prog 168 #[.slice a1 n1 c1, .func (.func F) #[] cap] w fun e w' => e = .returned (.int .i64 (idxFrom p 0 xs)) ∧ Below w.heap.size w w' := by
  have l1 := Lib.hid h1.len
  have b1 := h1.bnd
  have hrun := hF.run
  go_enter Tryz.func168, Tryz.ntmps168
  go_wp2
  go_loopg [8] n1 (fun k i wr => ∃ j : Nat, j + k = n1 ∧ i = .int .i64 j ∧ idxFrom p j (xs.drop j) = idxFrom p 0 xs ∧ Below w.heap.size w wr)
  case atStart => exact ⟨0, by omega, rfl, by simp, Below.refl _ _⟩
  case round =>
    obtain ⟨k, hk, rfl, he, hb⟩ := hrel
    have He := Lib.hid he; clear he
    have Hk := Lib.hid hk; clear hk
    by_cases hlt : k < n1
    · obtain ⟨x, hx⟩ := get_some l1.out hlt
      obtain ⟨p1, o1, rfl, hp1, g1, g2, g3⟩ := h1.stp hx
      have g1 := (hb.cell (p := ⟨p1, o1 + k * 3, none⟩) hp1).trans g1
      have g2 := (hb.cell (p := ⟨p1, o1 + k * 3 + 1, none⟩) hp1).trans g2
      have g3 := (hb.cell (p := ⟨p1, o1 + k * 3 + 2, none⟩) hp1).trans g3
      have Hx := Lib.hid hx; clear hx
      have hcall := hF.call x (List.mem_of_getElem? Hx.out) wr hb
      have HF := Lib.hid hF; clear hF
      go_wp2_with fail
      refine hcall.mono ?_
      rintro e w' ⟨rfl, hb'⟩
      have hd := drop_cons Hx.out
      cases hp : p x
      · have hp := Lib.hid hp
        have hd := Lib.hid hd
        go_wp2_with fail
        go_roundg (gk - 1)
        case measure => have := Hk.out; omega
        case rel => exact ⟨k + 1, by have := Hk.out; omega, by go_num, by rw [← He.out, hd.out]; simp [idxFrom, hp.out], below_step hb hb' (by have := hb.size; omega)⟩
      · have hp := Lib.hid hp
        have hd := Lib.hid hd
        go_wp2_with fail
        go_ret
        exact ⟨ret_int (by rw [← He.out, hd.out]; simp [idxFrom, hp.out]), below_step hb hb' hb.size⟩
    · go_wp2_with fail
      go_ret
      exact ⟨ret_int (by rw [← He.out, drop_end l1.out (by omega)]; rfl), hb⟩
theorem conStps (w : World) (a1 : Option Addr) (n1 c1 : Nat) (xs : List Stp) (F : FuncId) (cap : Array Value) (p : Stp → Bool) (h1 : Stps w a1 n1 xs) (hF : Fun F cap Stp.val w p xs) :
    Calls Tryz.prog 131 #[.slice a1 n1 c1, .func (.func F) #[] cap] w fun e w' => e = .returned (.bool (xs.any p)) ∧ Below w.heap.size w w' := by
  have H := Lib.hid (idxStps w a1 n1 c1 xs F cap p h1 hF)
  clear h1 hF
  go_enter Tryz.func131, Tryz.ntmps131
  go_wp2_with fail
  refine H.out.mono ?_
  rintro e w' ⟨rfl, hb⟩
  go_wp2_with fail
  go_ret
  exact ⟨ret_bool (idxFrom_ge p xs 0), hb⟩
def mayB (berth e : Int) (xs : List Stp) : Bool := decide (xs.length < 12) && (decide (e ≠ berth) && !(xs.any fun x => decide (x.e = e)))
set_option maxHeartbeats 1000000 in
theorem may_any (w : World) (pb : Nat) (berth el : Int) (sa : Option Addr) (sn sc : Nat) (xs : List Stp) (h1 : w.cell? ⟨pb, 0, none⟩ = some (.int .i64 berth)) (h2 : w.cell? ⟨pb, 1, none⟩ = some (.slice sa sn sc)) (hp : pb < w.heap.size) (h3 : Stps w sa sn xs) :
    Calls Tryz.prog 127 #[.pointer (some ⟨pb, 0, none⟩), .int .i64 el] w fun en w' => en = .returned (.bool (mayB berth el xs)) ∧ Below w.heap.size w w' := by
  have hW := Lib.hid (below_new w (.cells #[.int .i64 el] 3))
  have l1 := Lib.hid h3.len
  have hc := fun (u : World) (hb : Below (w.alloc (.cells #[.int .i64 el] 3)).heap.size (w.alloc (.cells #[.int .i64 el] 3)) u) => conStps u sa sn sc xs 166 #[.pointer (some ⟨w.heap.size, 0, none⟩)] (fun x => decide (x.e = el)) (h3.below (below_step hW.out hb hW.out.size))
    ⟨fun args w => by kernel_rfl, fun x hx w1 hb1 => may1_any w1 w.heap.size x el (by have h1 := hb.size; have h2 := hb1.size; simp at h1; omega) ((hb1.cell (p := ⟨w.heap.size, 0, none⟩) (by have h1 := hb.size; simp at h1; show w.heap.size < u.heap.size; omega)).trans ((hb.cell (p := ⟨w.heap.size, 0, none⟩) (by simp)).trans (by go_simp)))⟩
  have Hcc := Lib.hid hc
  have m0 : (w.alloc (.cells #[.int .i64 el] 3)).cell? ⟨w.heap.size, 0, none⟩ = some (.int .i64 el) := by go_simp
  have k1 : (w.alloc (.cells #[.int .i64 el] 3)).cell? ⟨pb, 0, none⟩ = some (.int .i64 berth) := (hW.out.cell (p := ⟨pb, 0, none⟩) hp).trans h1
  have k2 : (w.alloc (.cells #[.int .i64 el] 3)).cell? ⟨pb, 1, none⟩ = some (.slice sa sn sc) := (hW.out.cell (p := ⟨pb, 1, none⟩) hp).trans h2
  have d1 : decide ((sn : Int) < 12) = decide (xs.length < 12) := by have := l1.out; simp; omega
  clear hc h3 h1 h2
  by_cases q1 : xs.length < 12
  · have d2 : decide ((sn : Int) < 12) = true := by rw [d1]; simpa using q1
    by_cases q2 : el = berth
    · have Hmb := Lib.hid (show mayB berth el xs = false by unfold mayB; simp [q2])
      have d3 : (el == berth) = true := by simpa using q2
      have d4 : (el != berth) = false := by simpa using q2
      clear q1 d1 q2
      go_enter Tryz.func127, Tryz.ntmps127
      go_wp2_with fail
      have m0q := fun d os => cell_regrown m0 d os
      have k1q := fun d os => cell_regrown k1 d os
      have k2q := fun d os => cell_regrown k2 d os
      refine wp_region_quiet_below (by kernel_rfl) (by kernel_rfl) ?_
      repeat (go_big_quiet_step (fail))
      refine wpQuiet_nil ?_
      intro w2 hw'
      have hb2 : Below (w.alloc (.cells #[.int .i64 el] 3)).heap.size (w.alloc (.cells #[.int .i64 el] 3)) w2 := by obtain ⟨⟨d, os⟩, rfl⟩ := hw'; exact below_regrown _ d os
      clear hw' m0q k1q k2q 
      go_wp2_with fail
      go_ret
      exact ⟨ret_bool Hmb.out.symm, below_step hW.out hb2 hW.out.size⟩
    · have Hmb := Lib.hid (show mayB berth el xs = !(xs.any fun x => decide (x.e = el)) by unfold mayB; simp [q2, q1])
      have d3 : (el == berth) = false := by simpa using q2
      have d4 : (el != berth) = true := by simpa using q2
      clear q1 d1 q2
      go_enter Tryz.func127, Tryz.ntmps127
      go_wp2_with fail
      have m0q := fun d os => cell_regrown m0 d os
      have k1q := fun d os => cell_regrown k1 d os
      have k2q := fun d os => cell_regrown k2 d os
      have cq0 : ∀ d os, Calls Tryz.prog 131 #[.slice sa sn sc, .func (.func 166) #[] #[.pointer (some ⟨w.heap.size, 0, none⟩)]] (grow (redrawn (w.alloc (.cells #[.int .i64 el] 3)) d) os) fun e w'' => e = .returned (.bool (xs.any fun x => decide (x.e = el))) ∧ ∃ rg : Regrown, w'' = grow (redrawn (w.alloc (.cells #[.int .i64 el] 3)) rg.d) rg.os := fun d os => Calls.regrown_of (Hcc.out _ (below_regrown _ d os))
      refine wp_region_quiet_below (by kernel_rfl) (by kernel_rfl) ?_
      repeat (go_big_quiet_step (first | with_reducible exact cq0 _ _))
      refine wpQuiet_nil ?_
      intro w2 hw'
      have hb2 : Below (w.alloc (.cells #[.int .i64 el] 3)).heap.size (w.alloc (.cells #[.int .i64 el] 3)) w2 := by obtain ⟨⟨d, os⟩, rfl⟩ := hw'; exact below_regrown _ d os
      clear hw' m0q k1q k2q cq0
      go_wp2_with fail
      go_ret
      exact ⟨ret_bool Hmb.out.symm, below_step hW.out hb2 hW.out.size⟩
  · have d2 : decide ((sn : Int) < 12) = false := by rw [d1]; simpa using q1
    have Hmb := Lib.hid (show mayB berth el xs = false by unfold mayB; simp [q1])
    clear q1 d1
    go_enter Tryz.func127, Tryz.ntmps127
    go_wp2_with fail
    have m0q := fun d os => cell_regrown m0 d os
    have k1q := fun d os => cell_regrown k1 d os
    have k2q := fun d os => cell_regrown k2 d os
    refine wp_region_quiet_below (by kernel_rfl) (by kernel_rfl) ?_
    repeat (go_big_quiet_step (fail))
    refine wpQuiet_nil ?_
    intro w2 hw'
    have hb2 : Below (w.alloc (.cells #[.int .i64 el] 3)).heap.size (w.alloc (.cells #[.int .i64 el] 3)) w2 := by obtain ⟨⟨d, os⟩, rfl⟩ := hw'; exact below_regrown _ d os
    clear hw' m0q k1q k2q 
    go_wp2_with fail
    go_ret
    exact ⟨ret_bool Hmb.out.symm, below_step hW.out hb2 hW.out.size⟩
end Go.Proofs.YtcaeglnfflkabaaGreat
