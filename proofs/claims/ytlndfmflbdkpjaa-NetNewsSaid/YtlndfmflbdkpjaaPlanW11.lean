/- Walks of plan.Find and plan.Same with the library's IndexFunc, Equal and EqualFunc. No condition beyond the plans that are read. -/
import Derived.Test.YtlndfmflbdkpjaaPlanW3
set_option maxRecDepth 1000000
namespace Go.Proofs.Ytlndfmflbdkpjaa
open Go.RowKit

theorem drop_eq_eqElems {xs ys : List Elem} {j : Nat} {x y : Elem} (hx : xs.drop j = x :: xs.drop (j + 1)) (hy : ys.drop j = y :: ys.drop (j + 1)) : decide (xs.drop j = ys.drop j) = (decide (x = y) && decide (xs.drop (j + 1) = ys.drop (j + 1))) := by
  rw [hx, hy, Bool.eq_iff_iff]; simp
set_option maxHeartbeats 400000 in
theorem eqElems (w : World) (a1 a2 : Option Addr) (n1 n2 c1 c2 : Nat) (xs ys : List Elem) (h1 : Row 3 encElem w a1 n1 xs) (h2 : Row 3 encElem w a2 n2 ys) :
    Calls Try.prog 77 #[.slice a1 n1 c1, .slice a2 n2 c2] w fun e w' => e = .returned (.bool (decide (xs = ys))) ∧ Below w.heap.size w w' := by
  have l1 := Lib.hid h1.len
  have l2 := Lib.hid h2.len
  have b1 := h1.bnd
  have b2 := h2.bnd
  by_cases hn : n1 = n2
  · subst hn
    go_enter Try.func77, Try.ntmps77
    go_wp2_with fail
    go_loopg [13] n1 (fun k i wr => ∃ (j q : Nat), j + k = n1 ∧ i = .int .i64 j ∧ Hid (decide (xs.drop j = ys.drop j) = decide (xs = ys)) ∧ wr = w.drewN q)
    case atStart => exact ⟨0, 0, by omega, rfl, rfl, rfl⟩
    case round =>
      obtain ⟨j, q, hk, rfl, hr, rfl⟩ := hrel
      have Hk := Lib.hid hk; clear hk
      by_cases hlt : j < n1
      · obtain ⟨x, hx⟩ := get_some l1.out hlt
        obtain ⟨y, hy⟩ := get_some l2.out hlt
        obtain ⟨p1, o1, rfl, hp1, g0, g1, g2⟩ := h1.elem hx
        obtain ⟨p2, o2, rfl, hp2, k0, k1, k2⟩ := h2.elem hy
        have Hd := Lib.hid (drop_eq_eqElems (drop_cons hx) (drop_cons hy)); clear hx hy
        by_cases hxy : x = y
        · have q1 := fun w => (eql_elem (x := x) (y := y) (b := true) (by simpa using hxy) w).2
          have Hf := Lib.hid (show decide (xs.drop (j + 1) = ys.drop (j + 1)) = decide (xs = ys) by rw [← hr.out, Hd.out]; simp [hxy])
          clear hxy
          go_wp2_with fail
          go_quiet (fail)
          go_wp2_with fail
          go_roundg (gk - 1)
          case measure => have := Hk.out; omega
          case rel => exact ⟨j + 1, _, by have := Hk.out; omega, by go_num, Hf.out, rfl⟩
        · have q1 := fun w => (eql_elem (x := x) (y := y) (b := false) (by simpa using hxy) w).2
          have Hf := Lib.hid (show decide (xs = ys) = false by rw [← hr.out, Hd.out]; simp [hxy])
          clear hxy
          go_wp2_with fail
          go_quiet (fail)
          go_wp2_with fail
          go_ret
          exact ⟨ret_bool Hf.out.symm, (by repeat (first | with_reducible exact Below.refl _ _ | with_reducible assumption | with_reducible apply below_drewN | with_reducible apply Below.drew | with_reducible refine Below.alloc ?_ (by simp <;> omega) _))⟩
      · have Hf := Lib.hid (show decide (xs = ys) = true by rw [← hr.out, drop_end l1.out (by omega), drop_end l2.out (by omega)]; rfl)
        go_wp2_with fail
        go_ret
        exact ⟨ret_bool Hf.out.symm, (by repeat (first | with_reducible exact Below.refl _ _ | with_reducible assumption | with_reducible apply below_drewN | with_reducible apply Below.drew | with_reducible refine Below.alloc ?_ (by simp <;> omega) _))⟩
  · have Hf := Lib.hid (show decide (xs = ys) = false by
      have := l1.out; have := l2.out
      simp only [decide_eq_false_iff_not]; intro h; subst h; omega)
    have q1 : ((n1 : Int) != (n2 : Int)) = true := by rw [bne_iff_ne]; omega
    go_enter Try.func77, Try.ntmps77
    go_wp2_with fail
    go_ret
    exact ⟨ret_bool Hf.out.symm, Below.refl _ _⟩
theorem drop_eq_eqJoins {xs ys : List Join} {j : Nat} {x y : Join} (hx : xs.drop j = x :: xs.drop (j + 1)) (hy : ys.drop j = y :: ys.drop (j + 1)) : decide (xs.drop j = ys.drop j) = (decide (x = y) && decide (xs.drop (j + 1) = ys.drop (j + 1))) := by
  rw [hx, hy, Bool.eq_iff_iff]; simp
set_option maxHeartbeats 400000 in
theorem eqJoins (w : World) (a1 a2 : Option Addr) (n1 n2 c1 c2 : Nat) (xs ys : List Join) (h1 : Row 4 encJoin w a1 n1 xs) (h2 : Row 4 encJoin w a2 n2 ys) :
    Calls Try.prog 78 #[.slice a1 n1 c1, .slice a2 n2 c2] w fun e w' => e = .returned (.bool (decide (xs = ys))) ∧ Below w.heap.size w w' := by
  have l1 := Lib.hid h1.len
  have l2 := Lib.hid h2.len
  have b1 := h1.bnd
  have b2 := h2.bnd
  by_cases hn : n1 = n2
  · subst hn
    go_enter Try.func78, Try.ntmps78
    go_wp2_with fail
    go_loopg [13] n1 (fun k i wr => ∃ (j q : Nat), j + k = n1 ∧ i = .int .i64 j ∧ Hid (decide (xs.drop j = ys.drop j) = decide (xs = ys)) ∧ wr = w.drewN q)
    case atStart => exact ⟨0, 0, by omega, rfl, rfl, rfl⟩
    case round =>
      obtain ⟨j, q, hk, rfl, hr, rfl⟩ := hrel
      have Hk := Lib.hid hk; clear hk
      by_cases hlt : j < n1
      · obtain ⟨x, hx⟩ := get_some l1.out hlt
        obtain ⟨y, hy⟩ := get_some l2.out hlt
        obtain ⟨p1, o1, rfl, hp1, g0, g1, g2, g3⟩ := h1.join hx
        obtain ⟨p2, o2, rfl, hp2, k0, k1, k2, k3⟩ := h2.join hy
        have Hd := Lib.hid (drop_eq_eqJoins (drop_cons hx) (drop_cons hy)); clear hx hy
        by_cases hxy : x = y
        · have q1 := fun w => (eql_join (x := x) (y := y) (b := true) (by simpa using hxy) w).2
          have Hf := Lib.hid (show decide (xs.drop (j + 1) = ys.drop (j + 1)) = decide (xs = ys) by rw [← hr.out, Hd.out]; simp [hxy])
          clear hxy
          go_wp2_with fail
          go_quiet (fail)
          go_wp2_with fail
          go_roundg (gk - 1)
          case measure => have := Hk.out; omega
          case rel => exact ⟨j + 1, _, by have := Hk.out; omega, by go_num, Hf.out, rfl⟩
        · have q1 := fun w => (eql_join (x := x) (y := y) (b := false) (by simpa using hxy) w).2
          have Hf := Lib.hid (show decide (xs = ys) = false by rw [← hr.out, Hd.out]; simp [hxy])
          clear hxy
          go_wp2_with fail
          go_quiet (fail)
          go_wp2_with fail
          go_ret
          exact ⟨ret_bool Hf.out.symm, (by repeat (first | with_reducible exact Below.refl _ _ | with_reducible assumption | with_reducible apply below_drewN | with_reducible apply Below.drew | with_reducible refine Below.alloc ?_ (by simp <;> omega) _))⟩
      · have Hf := Lib.hid (show decide (xs = ys) = true by rw [← hr.out, drop_end l1.out (by omega), drop_end l2.out (by omega)]; rfl)
        go_wp2_with fail
        go_ret
        exact ⟨ret_bool Hf.out.symm, (by repeat (first | with_reducible exact Below.refl _ _ | with_reducible assumption | with_reducible apply below_drewN | with_reducible apply Below.drew | with_reducible refine Below.alloc ?_ (by simp <;> omega) _))⟩
  · have Hf := Lib.hid (show decide (xs = ys) = false by
      have := l1.out; have := l2.out
      simp only [decide_eq_false_iff_not]; intro h; subst h; omega)
    have q1 : ((n1 : Int) != (n2 : Int)) = true := by rw [bne_iff_ne]; omega
    go_enter Try.func78, Try.ntmps78
    go_wp2_with fail
    go_ret
    exact ⟨ret_bool Hf.out.symm, Below.refl _ _⟩
theorem drop_eq_eqSigs {xs ys : List Sig} {j : Nat} {x y : Sig} (hx : xs.drop j = x :: xs.drop (j + 1)) (hy : ys.drop j = y :: ys.drop (j + 1)) : decide (xs.drop j = ys.drop j) = (decide (x = y) && decide (xs.drop (j + 1) = ys.drop (j + 1))) := by
  rw [hx, hy, Bool.eq_iff_iff]; simp
set_option maxHeartbeats 400000 in
theorem eqSigs (w : World) (a1 a2 : Option Addr) (n1 n2 c1 c2 : Nat) (xs ys : List Sig) (h1 : Row 4 encSig w a1 n1 xs) (h2 : Row 4 encSig w a2 n2 ys) :
    Calls Try.prog 79 #[.slice a1 n1 c1, .slice a2 n2 c2] w fun e w' => e = .returned (.bool (decide (xs = ys))) ∧ Below w.heap.size w w' := by
  have l1 := Lib.hid h1.len
  have l2 := Lib.hid h2.len
  have b1 := h1.bnd
  have b2 := h2.bnd
  by_cases hn : n1 = n2
  · subst hn
    go_enter Try.func79, Try.ntmps79
    go_wp2_with fail
    go_loopg [13] n1 (fun k i wr => ∃ (j q : Nat), j + k = n1 ∧ i = .int .i64 j ∧ Hid (decide (xs.drop j = ys.drop j) = decide (xs = ys)) ∧ wr = w.drewN q)
    case atStart => exact ⟨0, 0, by omega, rfl, rfl, rfl⟩
    case round =>
      obtain ⟨j, q, hk, rfl, hr, rfl⟩ := hrel
      have Hk := Lib.hid hk; clear hk
      by_cases hlt : j < n1
      · obtain ⟨x, hx⟩ := get_some l1.out hlt
        obtain ⟨y, hy⟩ := get_some l2.out hlt
        obtain ⟨p1, o1, rfl, hp1, g0, g1, g2, g3⟩ := h1.sig hx
        obtain ⟨p2, o2, rfl, hp2, k0, k1, k2, k3⟩ := h2.sig hy
        have Hd := Lib.hid (drop_eq_eqSigs (drop_cons hx) (drop_cons hy)); clear hx hy
        by_cases hxy : x = y
        · have q1 := fun w => (eql_sig (x := x) (y := y) (b := true) (by simpa using hxy) w).2
          have Hf := Lib.hid (show decide (xs.drop (j + 1) = ys.drop (j + 1)) = decide (xs = ys) by rw [← hr.out, Hd.out]; simp [hxy])
          clear hxy
          go_wp2_with fail
          go_quiet (fail)
          go_wp2_with fail
          go_roundg (gk - 1)
          case measure => have := Hk.out; omega
          case rel => exact ⟨j + 1, _, by have := Hk.out; omega, by go_num, Hf.out, rfl⟩
        · have q1 := fun w => (eql_sig (x := x) (y := y) (b := false) (by simpa using hxy) w).2
          have Hf := Lib.hid (show decide (xs = ys) = false by rw [← hr.out, Hd.out]; simp [hxy])
          clear hxy
          go_wp2_with fail
          go_quiet (fail)
          go_wp2_with fail
          go_ret
          exact ⟨ret_bool Hf.out.symm, (by repeat (first | with_reducible exact Below.refl _ _ | with_reducible assumption | with_reducible apply below_drewN | with_reducible apply Below.drew | with_reducible refine Below.alloc ?_ (by simp <;> omega) _))⟩
      · have Hf := Lib.hid (show decide (xs = ys) = true by rw [← hr.out, drop_end l1.out (by omega), drop_end l2.out (by omega)]; rfl)
        go_wp2_with fail
        go_ret
        exact ⟨ret_bool Hf.out.symm, (by repeat (first | with_reducible exact Below.refl _ _ | with_reducible assumption | with_reducible apply below_drewN | with_reducible apply Below.drew | with_reducible refine Below.alloc ?_ (by simp <;> omega) _))⟩
  · have Hf := Lib.hid (show decide (xs = ys) = false by
      have := l1.out; have := l2.out
      simp only [decide_eq_false_iff_not]; intro h; subst h; omega)
    have q1 : ((n1 : Int) != (n2 : Int)) = true := by rw [bne_iff_ne]; omega
    go_enter Try.func79, Try.ntmps79
    go_wp2_with fail
    go_ret
    exact ⟨ret_bool Hf.out.symm, Below.refl _ _⟩
theorem drop_eq_eqInts {xs ys : List Int} {j : Nat} {x y : Int} (hx : xs.drop j = x :: xs.drop (j + 1)) (hy : ys.drop j = y :: ys.drop (j + 1)) : decide (xs.drop j = ys.drop j) = (decide (x = y) && decide (xs.drop (j + 1) = ys.drop (j + 1))) := by
  rw [hx, hy, Bool.eq_iff_iff]; simp
set_option maxHeartbeats 400000 in
theorem eqInts (w : World) (a1 a2 : Option Addr) (n1 n2 c1 c2 : Nat) (xs ys : List Int) (h1 : Row 1 encInt w a1 n1 xs) (h2 : Row 1 encInt w a2 n2 ys) :
    Calls Try.prog 82 #[.slice a1 n1 c1, .slice a2 n2 c2] w fun e w' => e = .returned (.bool (decide (xs = ys))) ∧ Below w.heap.size w w' := by
  have l1 := Lib.hid h1.len
  have l2 := Lib.hid h2.len
  have b1 := h1.bnd
  have b2 := h2.bnd
  by_cases hn : n1 = n2
  · subst hn
    go_enter Try.func82, Try.ntmps82
    go_wp2_with fail
    go_loopg [13] n1 (fun k i wr => ∃ (j q : Nat), j + k = n1 ∧ i = .int .i64 j ∧ Hid (decide (xs.drop j = ys.drop j) = decide (xs = ys)) ∧ wr = w.drewN q)
    case atStart => exact ⟨0, 0, by omega, rfl, rfl, rfl⟩
    case round =>
      obtain ⟨j, q, hk, rfl, hr, rfl⟩ := hrel
      have Hk := Lib.hid hk; clear hk
      by_cases hlt : j < n1
      · obtain ⟨x, hx⟩ := get_some l1.out hlt
        obtain ⟨y, hy⟩ := get_some l2.out hlt
        obtain ⟨p1, o1, rfl, hp1, g0⟩ := h1.int hx
        obtain ⟨p2, o2, rfl, hp2, k0⟩ := h2.int hy
        have Hd := Lib.hid (drop_eq_eqInts (drop_cons hx) (drop_cons hy)); clear hx hy
        by_cases hxy : x = y
        · have q1 : (x != y) = false := by simpa using hxy
          have Hf := Lib.hid (show decide (xs.drop (j + 1) = ys.drop (j + 1)) = decide (xs = ys) by rw [← hr.out, Hd.out]; simp [hxy])
          clear hxy
          go_wp2_with fail
          go_quiet (fail)
          go_wp2_with fail
          go_roundg (gk - 1)
          case measure => have := Hk.out; omega
          case rel => exact ⟨j + 1, _, by have := Hk.out; omega, by go_num, Hf.out, rfl⟩
        · have q1 : (x != y) = true := by simpa using hxy
          have Hf := Lib.hid (show decide (xs = ys) = false by rw [← hr.out, Hd.out]; simp [hxy])
          clear hxy
          go_wp2_with fail
          go_quiet (fail)
          go_wp2_with fail
          go_ret
          exact ⟨ret_bool Hf.out.symm, (by repeat (first | with_reducible exact Below.refl _ _ | with_reducible assumption | with_reducible apply below_drewN | with_reducible apply Below.drew | with_reducible refine Below.alloc ?_ (by simp <;> omega) _))⟩
      · have Hf := Lib.hid (show decide (xs = ys) = true by rw [← hr.out, drop_end l1.out (by omega), drop_end l2.out (by omega)]; rfl)
        go_wp2_with fail
        go_ret
        exact ⟨ret_bool Hf.out.symm, (by repeat (first | with_reducible exact Below.refl _ _ | with_reducible assumption | with_reducible apply below_drewN | with_reducible apply Below.drew | with_reducible refine Below.alloc ?_ (by simp <;> omega) _))⟩
  · have Hf := Lib.hid (show decide (xs = ys) = false by
      have := l1.out; have := l2.out
      simp only [decide_eq_false_iff_not]; intro h; subst h; omega)
    have q1 : ((n1 : Int) != (n2 : Int)) = true := by rw [bne_iff_ne]; omega
    go_enter Try.func82, Try.ntmps82
    go_wp2_with fail
    go_ret
    exact ⟨ret_bool Hf.out.symm, Below.refl _ _⟩

theorem find1_any (w : World) (b : Nat) (x : Elem) (s : ByteArray) (hb : b < w.heap.size) (hc : w.cell? ⟨b, 0, none⟩ = some (.string s)) :
    Calls Try.prog 76 #[x.val, .pointer (some ⟨b, 0, none⟩)] w fun e w' => e = .returned (.bool (decide (x.name = s))) ∧ Below w.heap.size w w' := by
  have Hq := Lib.hid (str_beq x.name s)
  unfold Elem.val
  go_enter Try.func76, Try.ntmps76
  go_wp2_with fail
  go_ret
  exact ⟨ret_bool Hq.out, below_new _ _⟩

set_option maxHeartbeats 400000 in
theorem idxElems (w : World) (a1 : Option Addr) (n1 c1 : Nat) (xs : List Elem) (F : FuncId) (cap : Array Value) (p : Elem → Bool) (h1 : Elems w a1 n1 xs) (hF : Fun F cap Elem.val w p xs) :
    Calls Try.prog 75 #[.slice a1 n1 c1, .func (.func F) #[] cap] w fun e w' => e = .returned (.int .i64 (idxFrom p 0 xs)) ∧ Below w.heap.size w w' := by
  have l1 := Lib.hid h1.len
  have b1 := h1.bnd
  have hrun := hF.run
  go_enter Try.func75, Try.ntmps75
  go_wp2
  go_loopg [8] n1 (fun k i wr => ∃ j : Nat, j + k = n1 ∧ i = .int .i64 j ∧ idxFrom p j (xs.drop j) = idxFrom p 0 xs ∧ Below w.heap.size w wr)
  case atStart => exact ⟨0, by omega, rfl, by simp, Below.refl _ _⟩
  case round =>
    obtain ⟨k, hk, rfl, he, hb⟩ := hrel
    have He := Lib.hid he; clear he
    have Hk := Lib.hid hk; clear hk
    by_cases hlt : k < n1
    · obtain ⟨x, hx⟩ := get_some l1.out hlt
      obtain ⟨p1, o1, rfl, hp1, g1, g2, g3⟩ := h1.elemB hb hx
      have Hx := Lib.hid hx; clear hx
      have hcall := hF.call x (List.mem_of_getElem? Hx.out) wr hb
      have HF := Lib.hid hF; clear hF
      go_wp2_with fail
      refine hcall.mono ?_
      rintro e w' ⟨rfl, hb'⟩
      have hd := drop_cons Hx.out
      cases hp : p x
      · have hp := Lib.hid hp
        have hd := Lib.hid hd
        go_wp2_with fail
        go_roundg (gk - 1)
        case measure => have := Hk.out; omega
        case rel => exact ⟨k + 1, by have := Hk.out; omega, by go_num, by rw [← He.out, hd.out]; simp [idxFrom, hp.out], below_step hb hb' (by have := hb.size; omega)⟩
      · have hp := Lib.hid hp
        have hd := Lib.hid hd
        go_wp2_with fail
        go_ret
        exact ⟨ret_int (by rw [← He.out, hd.out]; simp [idxFrom, hp.out]), below_step hb hb' hb.size⟩
    · go_wp2_with fail
      go_ret
      exact ⟨ret_int (by rw [← He.out, drop_end l1.out (by omega)]; rfl), hb⟩
theorem find_any (w : World) (pv : PV) (p : Plan) (s : ByteArray) (h : PlanAt w pv p) :
    Calls Try.prog 26 #[pv.val p, .string s] w fun e w' => e = .returned (.int .i64 (findName p.elems s)) ∧ Below w.heap.size w w' := by
  obtain ⟨ae, ne, ce, aj, nj, cj, as_, ns, cs, al, nl, cl, lv⟩ := pv
  have he : Elems w ae ne p.elems := h.e
  have hW := Lib.hid (below_new2 w (.cells #[.slice ae ne ce, .slice aj nj cj, .slice as_ ns cs, .slice al nl cl, .int .i64 p.top, .int .i64 p.brake, .int .i64 p.margin, .int .i64 p.throw, .bool p.hard] 32) (.cells #[.string s] 9))
  have H := Lib.hid (idxElems ((w.alloc (.cells #[.slice ae ne ce, .slice aj nj cj, .slice as_ ns cs, .slice al nl cl, .int .i64 p.top, .int .i64 p.brake, .int .i64 p.margin, .int .i64 p.throw, .bool p.hard] 32)).alloc (.cells #[.string s] 9)) ae ne ce p.elems 76 #[.pointer (some ⟨w.heap.size + 1, 0, none⟩)] (fun e => decide (e.name = s)) (he.below hW.out)
    ⟨fun args w => by kernel_rfl, fun x hx w1 hb => find1_any w1 (w.heap.size + 1) x s (by have := hb.size; simp at this; omega) ((hb.cell (p := ⟨w.heap.size + 1, 0, none⟩) (by simp)).trans (by go_simp))⟩)
  clear h he
  dsimp only [PV.val]
  go_enter Try.func26, Try.ntmps26
  go_wp2_with fail
  refine H.out.mono ?_
  rintro e w1 ⟨rfl, hb⟩
  go_wp2_with fail
  go_ret
  exact ⟨rfl, below_step hW.out hb (by simp; omega)⟩

/-! lines -/
def LineV.val (x : LineV) : Value := .agg #[.string x.name, .slice x.a x.n x.c]
theorem same1_any (w : World) (x y : LineV) (hx : Ints w x.a x.n x.elems) (hy : Ints w y.a y.n y.elems) :
    Calls Try.prog 81 #[x.val, y.val] w fun e w' => e = .returned (.bool (decide (x.line = y.line))) ∧ Below w.heap.size w w' := by
  have hsp : decide (x.line = y.line) = (decide (x.name = y.name) && decide (x.elems = y.elems)) := by
    rw [Bool.eq_iff_iff]; simp [LineV.line]
  have Hs := Lib.hid hsp; clear hsp
  have hW := Lib.hid (below_new2 w (.cells #[.string x.name, .slice x.a x.n x.c] 79) (.cells #[.string y.name, .slice y.a y.n y.c] 79))
  have H := Lib.hid (eqInts ((w.alloc (.cells #[.string x.name, .slice x.a x.n x.c] 79)).alloc (.cells #[.string y.name, .slice y.a y.n y.c] 79)) x.a y.a x.n y.n x.c y.c x.elems y.elems (hx.below hW.out) (hy.below hW.out))
  clear hx hy
  unfold LineV.val
  by_cases hn : x.name = y.name
  · have q1 : (x.name.toList == y.name.toList) = true := by rw [str_beq]; simpa using hn
    have Hn := Lib.hid hn; clear hn
    go_enter Try.func81, Try.ntmps81
    go_wp2_with fail
    refine H.out.mono ?_
    rintro e w1 ⟨rfl, hb⟩
    go_wp2_with fail
    go_ret
    exact ⟨ret_bool (by rw [Hs.out]; simp [Hn.out]), below_step hW.out hb (by simp; omega)⟩
  · have q1 : (x.name.toList == y.name.toList) = false := by rw [str_beq]; simpa using hn
    have Hn := Lib.hid hn; clear hn
    go_enter Try.func81, Try.ntmps81
    go_wp2_with fail
    go_ret
    exact ⟨ret_bool (by rw [Hs.out]; simp [Hn.out]), hW.out⟩
theorem lines_eq_step {xs ys : List LineV} {j : Nat} {x y : LineV} (hx : xs.drop j = x :: xs.drop (j + 1)) (hy : ys.drop j = y :: ys.drop (j + 1)) :
    decide ((xs.drop j).map LineV.line = (ys.drop j).map LineV.line) = (decide (x.line = y.line) && decide ((xs.drop (j + 1)).map LineV.line = (ys.drop (j + 1)).map LineV.line)) := by
  rw [hx, hy, Bool.eq_iff_iff]; simp
set_option maxHeartbeats 400000 in
theorem eqLines (w : World) (a1 a2 : Option Addr) (n1 n2 c1 c2 : Nat) (xs ys : List LineV) (h1 : Lines w a1 n1 xs) (h2 : Lines w a2 n2 ys) :
    Calls Try.prog 80 #[.slice a1 n1 c1, .slice a2 n2 c2, .func (.func 81) #[] #[]] w fun e w' => e = .returned (.bool (decide (xs.map LineV.line = ys.map LineV.line))) ∧ Below w.heap.size w w' := by
  have l1 := Lib.hid h1.row.len
  have l2 := Lib.hid h2.row.len
  have b1 := h1.row.bnd
  have b2 := h2.row.bnd
  by_cases hn : n1 = n2
  · subst hn
    go_enter Try.func80, Try.ntmps80
    go_wp2_with fail
    go_loopg [17] n1 (fun k i wr => ∃ (j : Nat), j + k = n1 ∧ i = .int .i64 j ∧ Hid (decide ((xs.drop j).map LineV.line = (ys.drop j).map LineV.line) = decide (xs.map LineV.line = ys.map LineV.line)) ∧ Below w.heap.size w wr)
    case atStart => exact ⟨0, by omega, rfl, rfl, Below.refl _ _⟩
    case round =>
      obtain ⟨j, hk, rfl, hr, hb⟩ := hrel
      have Hk := Lib.hid hk; clear hk
      by_cases hlt : j < n1
      · obtain ⟨x, hx⟩ := get_some l1.out hlt
        obtain ⟨y, hy⟩ := get_some l2.out hlt
        obtain ⟨p1, o1, rfl, hp1, g0, g1⟩ := h1.row.lineB hb hx
        obtain ⟨p2, o2, rfl, hp2, k0, k1⟩ := h2.row.lineB hb hy
        have Hd := Lib.hid (lines_eq_step (drop_cons hx) (drop_cons hy))
        have Hb := Lib.hid hb; clear hb
        have hwz := Hb.out.size
        have hp1' : p1 < wr.heap.size := by omega
        have hp2' : p2 < wr.heap.size := by omega
        have k0' := ((below_new wr (.cells #[.string x.name, .slice x.a x.n x.c] 79)).cell (p := ⟨p2, o2 + j * 2, none⟩) hp2').trans k0
        have k1' := ((below_new wr (.cells #[.string x.name, .slice x.a x.n x.c] 79)).cell (p := ⟨p2, o2 + j * 2 + 1, none⟩) hp2').trans k1
        have hW := Lib.hid (below_new2 wr (.cells #[.string x.name, .slice x.a x.n x.c] 79) (.cells #[.string y.name, .slice y.a y.n y.c] 79))
        have Hs := Lib.hid (below_step Hb.out hW.out Hb.out.size)
        have H := Lib.hid (same1_any _ x y ((h1.ints x (List.mem_of_getElem? hx)).below Hs.out) ((h2.ints y (List.mem_of_getElem? hy)).below Hs.out))
        clear hx hy
        have e0 : ((wr.alloc (.cells #[.string x.name, .slice x.a x.n x.c] 79)).alloc (.cells #[.string y.name, .slice y.a y.n y.c] 79)).cell? ⟨wr.heap.size, 0, none⟩ = some (.string x.name) := by go_simp
        have e1 : ((wr.alloc (.cells #[.string x.name, .slice x.a x.n x.c] 79)).alloc (.cells #[.string y.name, .slice y.a y.n y.c] 79)).cell? ⟨wr.heap.size, 1, none⟩ = some (.slice x.a x.n x.c) := by go_simp
        go_wp2_with fail
        refine H.out.mono ?_
        rintro e w1 ⟨rfl, hb1⟩
        have Hb1 := Lib.hid (below_step Hs.out hb1 Hs.out.size); clear hb1
        cases hxy : decide (x.line = y.line)
        · have Hf := Lib.hid (show decide (xs.map LineV.line = ys.map LineV.line) = false by rw [← hr.out, Hd.out, hxy]; rfl)
          clear hxy
          go_wp2_with fail
          go_ret
          exact ⟨ret_bool Hf.out.symm, Hb1.out⟩
        · have Hf := Lib.hid (show decide ((xs.drop (j + 1)).map LineV.line = (ys.drop (j + 1)).map LineV.line) = decide (xs.map LineV.line = ys.map LineV.line) by rw [← hr.out, Hd.out, hxy]; simp)
          clear hxy
          go_wp2_with fail
          go_roundg (gk - 1)
          case measure => have := Hk.out; omega
          case rel => exact ⟨j + 1, by have := Hk.out; omega, by go_num, Hf.out, Hb1.out⟩
      · have Hf := Lib.hid (show decide (xs.map LineV.line = ys.map LineV.line) = true by rw [← hr.out, drop_end l1.out (by omega), drop_end l2.out (by omega)]; rfl)
        go_wp2_with fail
        go_ret
        exact ⟨ret_bool Hf.out.symm, hb⟩
  · have Hf := Lib.hid (show decide (xs.map LineV.line = ys.map LineV.line) = false by
      have h3 := l1.out; have h4 := l2.out
      simp only [decide_eq_false_iff_not]; intro h
      have := congrArg List.length h
      simp only [List.length_map] at this; omega)
    have q1 : ((n1 : Int) != (n2 : Int)) = true := by rw [bne_iff_ne]; omega
    go_enter Try.func80, Try.ntmps80
    go_wp2_with fail
    go_ret
    exact ⟨ret_bool Hf.out.symm, Below.refl _ _⟩
end Go.Proofs.Ytlndfmflbdkpjaa

/- Walks of plan.Same and of the small plan that the laws know. No condition beyond the plans that are read. -/
set_option maxRecDepth 1000000
namespace Go.Proofs.Ytlndfmflbdkpjaa
open Go.RowKit

theorem plan_eq (p q : Plan) : decide (p = q) = (decide (p.elems = q.elems) && (decide (p.joins = q.joins) && (decide (p.sigs = q.sigs) && (decide (p.lines = q.lines) && ((p.top == q.top) && ((p.brake == q.brake) && ((p.margin == q.margin) && ((p.throw == q.throw) && (p.hard == q.hard))))))))) := by
  obtain ⟨a, b, c, d, e, f, g, h, i⟩ := p
  obtain ⟨a', b', c', d', e', f', g', h', i'⟩ := q
  rw [Bool.eq_iff_iff]; simp

set_option maxHeartbeats 2000000 in
theorem same_any (w : World) (pv pv2 : PV) (p q : Plan) (h : PlanAt w pv p) (h2 : PlanAt w pv2 q) :
    Calls Try.prog 28 #[pv.val p, pv2.val q] w fun e w' => e = .returned (.bool (decide (p = q))) ∧ Below w.heap.size w w' := by
  have hP := Lib.hid h
  have hQ := Lib.hid h2
  have hW := Lib.hid (below_new2 w (pobj pv p) (pobj pv2 q))
  have HA0 := Lib.hid ((pbox_new w pv p).alloc (pobj pv2 q))
  have HB0 := Lib.hid (show PBox ((w.alloc (pobj pv p)).alloc (pobj pv2 q)) (w.heap.size + 1) pv2 q by have := pbox_new (w.alloc (pobj pv p)) pv2 q; simpa using this)
  have Hs := Lib.hid (plan_eq p q)
  obtain ⟨ae, ne, ce, aj, nj, cj, as_, ns, cs, al, nl, cl, lv⟩ := pv
  obtain ⟨ae2, ne2, ce2, aj2, nj2, cj2, as2, ns2, cs2, al2, nl2, cl2, lv2⟩ := pv2
  have HE := Lib.hid (show Elems w ae ne p.elems ∧ Elems w ae2 ne2 q.elems from ⟨h.e, h2.e⟩)
  have HJ := Lib.hid (show Joins w aj nj p.joins ∧ Joins w aj2 nj2 q.joins from ⟨h.j, h2.j⟩)
  have HS := Lib.hid (show Sigs w as_ ns p.sigs ∧ Sigs w as2 ns2 q.sigs from ⟨h.s, h2.s⟩)
  have HLi := Lib.hid (show Lines w al nl lv ∧ Lines w al2 nl2 lv2 from ⟨h.l, h2.l⟩)
  have HL := Lib.hid (show decide (p.lines = q.lines) = decide (lv.map LineV.line = lv2.map LineV.line) by rw [h.lp, h2.lp])
  clear h h2
  dsimp only [PV.val]
  go_enter Try.func28, Try.ntmps28
  go_wp2_with fail
  refine (eqElems _ _ _ _ _ _ _ _ _ (HE.out.1.below hW.out) (HE.out.2.below hW.out)).mono ?_
  rintro e w1 ⟨rfl, hbx⟩
  have Hb1 := Lib.hid (below_step hW.out hbx (by simp; omega))
  have HA1 := Lib.hid (HA0.out.below hbx)
  have HB1 := Lib.hid (HB0.out.below hbx)
  clear hbx
  obtain ⟨_, c0, c1, c2, c3, c4, c5, c6, c7, c8⟩ := HA1.out
  obtain ⟨_, d0, d1, d2, d3, d4, d5, d6, d7, d8⟩ := HB1.out
  dsimp only at c0 c1 c2 c3 d0 d1 d2 d3
  cases t1 : decide (p.elems = q.elems)
  · have Hf := Lib.hid (show decide (p = q) = false by rw [Hs.out, t1]; rfl)
    clear t1
    go_wp2_with fail
    go_ret
    exact ⟨ret_bool Hf.out.symm, Hb1.out⟩
  have T1 := Lib.hid t1; clear t1
  go_wp2_with fail
  refine (eqJoins _ _ _ _ _ _ _ _ _ (HJ.out.1.below Hb1.out) (HJ.out.2.below Hb1.out)).mono ?_
  rintro e w2 ⟨rfl, hbx⟩
  have Hb2 := Lib.hid (below_step Hb1.out hbx Hb1.out.size)
  have HA2 := Lib.hid (HA1.out.below hbx)
  have HB2 := Lib.hid (HB1.out.below hbx)
  clear hbx c0 c1 c2 c3 c4 c5 c6 c7 c8 d0 d1 d2 d3 d4 d5 d6 d7 d8
  obtain ⟨_, c0, c1, c2, c3, c4, c5, c6, c7, c8⟩ := HA2.out
  obtain ⟨_, d0, d1, d2, d3, d4, d5, d6, d7, d8⟩ := HB2.out
  dsimp only at c0 c1 c2 c3 d0 d1 d2 d3
  cases t1 : decide (p.joins = q.joins)
  · have Hf := Lib.hid (show decide (p = q) = false by rw [Hs.out, T1.out, t1]; rfl)
    clear t1
    go_wp2_with fail
    go_ret
    exact ⟨ret_bool Hf.out.symm, Hb2.out⟩
  have T2 := Lib.hid t1; clear t1
  go_wp2_with fail
  refine (eqSigs _ _ _ _ _ _ _ _ _ (HS.out.1.below Hb2.out) (HS.out.2.below Hb2.out)).mono ?_
  rintro e w3 ⟨rfl, hbx⟩
  have Hb3 := Lib.hid (below_step Hb2.out hbx Hb2.out.size)
  have HA3 := Lib.hid (HA2.out.below hbx)
  have HB3 := Lib.hid (HB2.out.below hbx)
  clear hbx c0 c1 c2 c3 c4 c5 c6 c7 c8 d0 d1 d2 d3 d4 d5 d6 d7 d8
  obtain ⟨_, c0, c1, c2, c3, c4, c5, c6, c7, c8⟩ := HA3.out
  obtain ⟨_, d0, d1, d2, d3, d4, d5, d6, d7, d8⟩ := HB3.out
  dsimp only at c0 c1 c2 c3 d0 d1 d2 d3
  cases t1 : decide (p.sigs = q.sigs)
  · have Hf := Lib.hid (show decide (p = q) = false by rw [Hs.out, T1.out, T2.out, t1]; rfl)
    clear t1
    go_wp2_with fail
    go_ret
    exact ⟨ret_bool Hf.out.symm, Hb3.out⟩
  have T3 := Lib.hid t1; clear t1
  go_wp2_with fail
  refine (eqLines _ _ _ _ _ _ _ _ _ (HLi.out.1.below Hb3.out) (HLi.out.2.below Hb3.out)).mono ?_
  rintro e w4 ⟨rfl, hbx⟩
  have Hb4 := Lib.hid (below_step Hb3.out hbx Hb3.out.size)
  have HA4 := Lib.hid (HA3.out.below hbx)
  have HB4 := Lib.hid (HB3.out.below hbx)
  clear hbx c0 c1 c2 c3 c4 c5 c6 c7 c8 d0 d1 d2 d3 d4 d5 d6 d7 d8
  obtain ⟨_, c0, c1, c2, c3, c4, c5, c6, c7, c8⟩ := HA4.out
  obtain ⟨_, d0, d1, d2, d3, d4, d5, d6, d7, d8⟩ := HB4.out
  dsimp only at c0 c1 c2 c3 d0 d1 d2 d3
  cases t1 : decide (lv.map LineV.line = lv2.map LineV.line)
  · have Hf := Lib.hid (show decide (p = q) = false by rw [Hs.out, T1.out, T2.out, T3.out, HL.out, t1]; rfl)
    clear t1
    go_wp2_with fail
    go_ret
    exact ⟨ret_bool Hf.out.symm, Hb4.out⟩
  have Hf := Lib.hid (show decide (p = q) = ((p.top == q.top) && ((p.brake == q.brake) && ((p.margin == q.margin) && ((p.throw == q.throw) && (p.hard == q.hard))))) by rw [Hs.out, T1.out, T2.out, T3.out, HL.out, t1]; rfl)
  clear t1
  cases s1 : (p.top == q.top)
  · go_wp2_with fail
    go_ret
    exact ⟨ret_bool (by rw [Hf.out, s1]; rfl), Hb4.out⟩
  cases s2 : (p.brake == q.brake)
  · go_wp2_with fail
    go_ret
    exact ⟨ret_bool (by rw [Hf.out, s1, s2]; rfl), Hb4.out⟩
  cases s3 : (p.margin == q.margin)
  · go_wp2_with fail
    go_ret
    exact ⟨ret_bool (by rw [Hf.out, s1, s2, s3]; rfl), Hb4.out⟩
  cases s4 : (p.throw == q.throw)
  · go_wp2_with fail
    go_ret
    exact ⟨ret_bool (by rw [Hf.out, s1, s2, s3, s4]; rfl), Hb4.out⟩
  · go_wp2_with fail
    go_ret
    exact ⟨ret_bool (by rw [Hf.out, s1, s2, s3, s4]; simp), Hb4.out⟩

/-! the small plan -/
def bytes1 (c : UInt8) : ByteArray := ⟨#[c]⟩
def smallPlan : Plan where
  elems := [⟨bytes1 87, 4, 0⟩, ⟨bytes1 65, 1, 20⟩, ⟨bytes1 80, 2, 10⟩, ⟨bytes1 66, 1, 20⟩, ⟨bytes1 67, 1, 30⟩, ⟨bytes1 69, 4, 0⟩]
  joins := [⟨⟨0, 0⟩, ⟨1, 0⟩⟩, ⟨⟨1, 1⟩, ⟨2, 0⟩⟩, ⟨⟨2, 1⟩, ⟨3, 0⟩⟩, ⟨⟨3, 1⟩, ⟨5, 0⟩⟩, ⟨⟨2, 2⟩, ⟨4, 0⟩⟩]
  sigs := [⟨bytes1 119, ⟨0, 0⟩, false⟩, ⟨bytes1 97, ⟨1, 1⟩, false⟩, ⟨bytes1 101, ⟨5, 0⟩, false⟩, ⟨bytes1 98, ⟨3, 0⟩, false⟩, ⟨bytes1 99, ⟨4, 0⟩, false⟩]
  lines := []
  top := 10
  brake := 5
  margin := 15
  throw := 2
  hard := false
theorem join_any (w : World) (a x b y : Int) : Calls Try.prog 89 #[.int .i64 a, .int .i64 x, .int .i64 b, .int .i64 y] w fun e w' => e = .returned (.agg #[.int .i64 a, .int .i64 x, .int .i64 b, .int .i64 y]) ∧ w' = w.alloc (.cells #[.int .i64 a, .int .i64 x, .int .i64 b, .int .i64 y] 48) := by
  go_enter Try.func89, Try.ntmps89
  go_wp2_with fail
  exact bodyPost_ret (v := .agg #[.int .i64 a, .int .i64 x, .int .i64 b, .int .i64 y]) (by simp [results, Try.results89, go_sem]) rfl ⟨rfl, rfl⟩
theorem heap_new_at {u : World} {o : Obj} {b : Nat} (h : u.heap.size = b) : (u.alloc o).heap[b]? = some o := by
  subst h; exact heap_alloc_new u o
theorem row_block {α : Type} {sz : Nat} {enc : α → List Value} (henc : ∀ x, (enc x).length = sz) (hsz : 0 < sz) {W : World} {b : Nat} {cs : Array Value} {T : TypeId} (xs : List α) {n : Nat}
    (hb : W.heap[b]? = some (.cells cs T)) (hcs : cs.toList = xs.flatMap enc) (hn : xs.length = n) (hm : n ≤ 100000) : Row sz enc W (some ⟨b, 0, none⟩) n xs := by
  have hl : (xs.flatMap enc).length = n * sz := by
    subst hn
    clear hcs hm
    induction xs with
    | nil => simp
    | cons x r ih => simp only [List.flatMap_cons, List.length_append, henc, ih, List.length_cons, Nat.succ_mul]; omega
  have hs : cs.size = n * sz := by rw [← Array.length_toList, hcs, hl]
  have h : W.ownsRow 0 T sz (.slice (some ⟨b, 0, none⟩) n n) n (xs.flatMap enc) :=
    ⟨hl, .inr ⟨b, n, cs, rfl, Nat.zero_le _, hb, Nat.le_refl _, by simp [maxLen]; omega, hs, by rw [hcs]; exact List.take_of_length_le (by omega)⟩⟩
  exact (owns_row henc h hsz).1
theorem small_fit : PlanFit ⟨some ⟨0, 0, none⟩, 6, 6, some ⟨0, 0, none⟩, 5, 5, some ⟨0, 0, none⟩, 5, 5, none, 0, 0, []⟩ smallPlan := by
  refine ⟨by simp, by simp, by simp, by simp, by simp, ?_, ?_, ?_, by simp [smallPlan], ?_, ?_, ?_, ?_⟩
  · intro x hx; simp [smallPlan] at hx; rcases hx with rfl | rfl | rfl | rfl | rfl | rfl <;> (refine ⟨⟨?_, ?_⟩, ⟨?_, ?_⟩, ?_⟩ <;> decide)
  · intro x hx; simp [smallPlan] at hx; rcases hx with rfl | rfl | rfl | rfl | rfl <;> (refine ⟨⟨⟨?_, ?_⟩, ⟨?_, ?_⟩⟩, ⟨⟨?_, ?_⟩, ⟨?_, ?_⟩⟩⟩ <;> decide)
  · intro x hx; simp [smallPlan] at hx; rcases hx with rfl | rfl | rfl | rfl | rfl <;> (refine ⟨⟨⟨?_, ?_⟩, ⟨?_, ?_⟩⟩, ?_⟩ <;> decide)
  all_goals (refine ⟨?_, ?_⟩ <;> decide)
def SmallPost (w : World) (e : Ending) (w' : World) : Prop := ∃ pv : PV, e = .returned (pv.val smallPlan) ∧ PlanAt w' pv smallPlan ∧ pv.lv = [] ∧ Below w.heap.size w w'
set_option maxHeartbeats 4000000 in
theorem small_any (w : World) : Calls Try.prog 58 #[] w (SmallPost w) := by
  go_enter Try.func58, Try.ntmps58
  go_wp2_with fail
  refine (join_any _ _ _ _ _).mono ?_; rintro e w' ⟨rfl, rfl⟩
  go_wp2_with fail
  refine (join_any _ _ _ _ _).mono ?_; rintro e w' ⟨rfl, rfl⟩
  go_wp2_with fail
  refine (join_any _ _ _ _ _).mono ?_; rintro e w' ⟨rfl, rfl⟩
  go_wp2_with fail
  refine (join_any _ _ _ _ _).mono ?_; rintro e w' ⟨rfl, rfl⟩
  go_wp2_with fail
  refine (join_any _ _ _ _ _).mono ?_; rintro e w' ⟨rfl, rfl⟩
  go_wp2_with fail
  refine bodyPost_ret (v := .agg #[.slice (some ⟨w.heap.size + 1 + 1, 0, none⟩) 6 6, .slice (some ⟨w.heap.size + 1 + 1 + 1 + 1 + 1 + 1 + 1 + 1, 0, none⟩) 5 5, .slice (some ⟨w.heap.size + 1 + 1 + 1 + 1 + 1 + 1 + 1 + 1 + 1, 0, none⟩) 5 5, .slice none 0 0, .int .i64 10, .int .i64 5, .int .i64 15, .int .i64 2, .bool false]) (by simp [results, Try.results58, go_sem]) rfl ?_
  refine ⟨⟨some ⟨w.heap.size + 1 + 1, 0, none⟩, 6, 6, some ⟨w.heap.size + 1 + 1 + 1 + 1 + 1 + 1 + 1 + 1, 0, none⟩, 5, 5, some ⟨w.heap.size + 1 + 1 + 1 + 1 + 1 + 1 + 1 + 1 + 1, 0, none⟩, 5, 5, none, 0, 0, []⟩, rfl, ⟨?_, ?_, ?_, ⟨Row.nil _ _, by simp⟩, rfl, ?_⟩, rfl, ?_⟩
  · refine row_block (sz := 3) (n := 6) (T := 42) (cs := #[.string (bytes1 87), .int .i64 4, .int .i64 0, .string (bytes1 65), .int .i64 1, .int .i64 20, .string (bytes1 80), .int .i64 2, .int .i64 10, .string (bytes1 66), .int .i64 1, .int .i64 20, .string (bytes1 67), .int .i64 1, .int .i64 30, .string (bytes1 69), .int .i64 4, .int .i64 0]) (fun _ => rfl) (by omega) smallPlan.elems ?_ ?_ rfl (by omega)
    · repeat (first | (refine heap_new_at ?_; (simp; done)) | (refine (Below.heap_alloc _ _ _ ?_).trans ?_; (simp <;> omega)))
    · rfl
  · refine row_block (sz := 4) (n := 5) (T := 48) (cs := #[.int .i64 0, .int .i64 0, .int .i64 1, .int .i64 0, .int .i64 1, .int .i64 1, .int .i64 2, .int .i64 0, .int .i64 2, .int .i64 1, .int .i64 3, .int .i64 0, .int .i64 3, .int .i64 1, .int .i64 5, .int .i64 0, .int .i64 2, .int .i64 2, .int .i64 4, .int .i64 0]) (fun _ => rfl) (by omega) smallPlan.joins ?_ ?_ rfl (by omega)
    · repeat (first | (refine heap_new_at ?_; (simp; done)) | (refine (Below.heap_alloc _ _ _ ?_).trans ?_; (simp <;> omega)))
    · rfl
  · refine row_block (sz := 4) (n := 5) (T := 46) (cs := #[.string (bytes1 119), .int .i64 0, .int .i64 0, .bool false, .string (bytes1 97), .int .i64 1, .int .i64 1, .bool false, .string (bytes1 101), .int .i64 5, .int .i64 0, .bool false, .string (bytes1 98), .int .i64 3, .int .i64 0, .bool false, .string (bytes1 99), .int .i64 4, .int .i64 0, .bool false]) (fun _ => rfl) (by omega) smallPlan.sigs ?_ ?_ rfl (by omega)
    · repeat (first | (refine heap_new_at ?_; (simp; done)) | (refine (Below.heap_alloc _ _ _ ?_).trans ?_; (simp <;> omega)))
    · rfl
  · exact ⟨by simp, by simp, by simp, by simp, by simp, small_fit.e, small_fit.j, small_fit.s, small_fit.l, small_fit.top, small_fit.brake, small_fit.margin, small_fit.throw⟩
  · exact (by repeat (first | with_reducible exact Below.refl _ _ | with_reducible assumption | with_reducible apply below_drewN | with_reducible apply Below.drew | with_reducible refine Below.alloc ?_ (by simp <;> omega) _))
end Go.Proofs.Ytlndfmflbdkpjaa

/- Walks of semaphoreref6.Few, Find and SameInts. No condition beyond the plan that is read. -/
set_option maxRecDepth 1000000
namespace Go.Proofs.Ytlndfmflbdkpjaa
open Go.RowKit

theorem drop_eq_refSameInts {xs ys : List Int} {j : Nat} {x y : Int} (hx : xs.drop j = x :: xs.drop (j + 1)) (hy : ys.drop j = y :: ys.drop (j + 1)) : decide (xs.drop j = ys.drop j) = (decide (x = y) && decide (xs.drop (j + 1) = ys.drop (j + 1))) := by
  rw [hx, hy, Bool.eq_iff_iff]; simp
set_option maxHeartbeats 400000 in
theorem refSameInts (w : World) (a1 a2 : Option Addr) (n1 n2 c1 c2 : Nat) (xs ys : List Int) (h1 : Row 1 encInt w a1 n1 xs) (h2 : Row 1 encInt w a2 n2 ys) :
    Calls Try.prog 83 #[.slice a1 n1 c1, .slice a2 n2 c2] w fun e w' => e = .returned (.bool (decide (xs = ys))) ∧ ∃ q : Nat, w' = w.drewN q := by
  have l1 := Lib.hid h1.len
  have l2 := Lib.hid h2.len
  have b1 := h1.bnd
  have b2 := h2.bnd
  by_cases hn : n1 = n2
  · subst hn
    go_enter Try.func83, Try.ntmps83
    go_wp2_with fail
    go_loopg [5] n1 (fun k i wr => ∃ (j q : Nat), j + k = n1 ∧ i = .int .i64 j ∧ Hid (decide (xs.drop j = ys.drop j) = decide (xs = ys)) ∧ wr = w.drewN q)
    case atStart => exact ⟨0, 0, by omega, rfl, rfl, rfl⟩
    case round =>
      obtain ⟨j, q, hk, rfl, hr, rfl⟩ := hrel
      have Hk := Lib.hid hk; clear hk
      by_cases hlt : j < n1
      · obtain ⟨x, hx⟩ := get_some l1.out hlt
        obtain ⟨y, hy⟩ := get_some l2.out hlt
        obtain ⟨p1, o1, rfl, hp1, g0⟩ := h1.int hx
        obtain ⟨p2, o2, rfl, hp2, k0⟩ := h2.int hy
        have Hd := Lib.hid (drop_eq_refSameInts (drop_cons hx) (drop_cons hy)); clear hx hy
        by_cases hxy : x = y
        · have q1 : (x != y) = false := by simpa using hxy
          have Hf := Lib.hid (show decide (xs.drop (j + 1) = ys.drop (j + 1)) = decide (xs = ys) by rw [← hr.out, Hd.out]; simp [hxy])
          clear hxy
          go_wp2_with fail
          go_quiet (fail)
          go_wp2_with fail
          go_roundg (gk - 1)
          case measure => have := Hk.out; omega
          case rel => exact ⟨j + 1, _, by have := Hk.out; omega, by go_num, Hf.out, rfl⟩
        · have q1 : (x != y) = true := by simpa using hxy
          have Hf := Lib.hid (show decide (xs = ys) = false by rw [← hr.out, Hd.out]; simp [hxy])
          clear hxy
          go_wp2_with fail
          go_quiet (fail)
          go_wp2_with fail
          go_ret
          exact ⟨ret_bool Hf.out.symm, _, by first | exact World.drewN_drewN .. | rfl⟩
      · have Hf := Lib.hid (show decide (xs = ys) = true by rw [← hr.out, drop_end l1.out (by omega), drop_end l2.out (by omega)]; rfl)
        go_wp2_with fail
        go_ret
        exact ⟨ret_bool Hf.out.symm, _, by first | exact World.drewN_drewN .. | rfl⟩
  · have Hf := Lib.hid (show decide (xs = ys) = false by
      have := l1.out; have := l2.out
      simp only [decide_eq_false_iff_not]; intro h; subst h; omega)
    have q1 : ((n1 : Int) != (n2 : Int)) = true := by rw [bne_iff_ne]; omega
    go_enter Try.func83, Try.ntmps83
    go_wp2_with fail
    go_ret
    exact ⟨ret_bool Hf.out.symm, 0, rfl⟩

theorem reffind_any (w : World) (pv : PV) (p : Plan) (s : ByteArray) (h : PlanAt w pv p) :
    Calls Try.prog 27 #[pv.val p, .string s] w fun e w' => e = .returned (.int .i64 (findName p.elems s)) ∧ Below w.heap.size w w' := by
  obtain ⟨ae, ne, ce, aj, nj, cj, as_, ns, cs, al, nl, cl, lv⟩ := pv
  have he : Elems w ae ne p.elems := h.e
  have l1 := Lib.hid he.len
  have b1 := he.bnd
  have hW := below_new w (.cells #[.slice ae ne ce, .slice aj nj cj, .slice as_ ns cs, .slice al nl cl, .int .i64 p.top, .int .i64 p.brake, .int .i64 p.margin, .int .i64 p.throw, .bool p.hard] 32)
  have HB := Lib.hid (pbox_new w ⟨ae, ne, ce, aj, nj, cj, as_, ns, cs, al, nl, cl, lv⟩ p)
  clear h
  dsimp only [PV.val]
  go_enter Try.func27, Try.ntmps27
  go_wp2_with fail
  go_loopg [5] ne (fun k i wr => ∃ j : Nat, j + k = ne ∧ i = .int .i64 j ∧ Hid (idxFrom (fun e => decide (e.name = s)) j (p.elems.drop j) = findName p.elems s) ∧ PBox wr w.heap.size ⟨ae, ne, ce, aj, nj, cj, as_, ns, cs, al, nl, cl, lv⟩ p ∧ Below w.heap.size w wr)
  case atStart => exact ⟨0, by omega, rfl, rfl, HB.out, hW⟩
  case round =>
    clear hW HB
    obtain ⟨j, hk, rfl, hr, hB, hb⟩ := hrel
    have Hk := Lib.hid hk; clear hk
    have HB := Lib.hid hB
    obtain ⟨_, c0, _⟩ := hB
    by_cases hlt : j < ne
    · obtain ⟨y, hy⟩ := get_some l1.out hlt
      obtain ⟨pb, off, rfl, hpb, g1, g2, g3⟩ := he.elemB hb hy
      have Hd := Lib.hid (drop_cons hy); clear hy
      have Hb := Lib.hid hb; clear hb
      by_cases hn : y.name = s
      · have q1 : (y.name.toList == s.toList) = true := by rw [str_beq]; simpa using hn
        have Hf := Lib.hid (show findName p.elems s = (j : Int) by rw [← hr.out, Hd.out]; simp [idxFrom, hn])
        clear hn
        go_wp2_with fail
        go_ret
        exact ⟨ret_int Hf.out.symm, Hb.out⟩
      · have q1 : (y.name.toList == s.toList) = false := by rw [str_beq]; simpa using hn
        have Hf := Lib.hid (show idxFrom (fun e => decide (e.name = s)) (j + 1) (p.elems.drop (j + 1)) = findName p.elems s by rw [← hr.out, Hd.out]; simp [idxFrom, hn])
        clear hn
        go_wp2_with fail
        go_roundg (gk - 1)
        case measure => have := Hk.out; omega
        case rel => exact ⟨j + 1, by have := Hk.out; omega, by go_num, Hf.out, HB.out, Hb.out⟩
    · have Hf := Lib.hid (show findName p.elems s = -1 by rw [← hr.out, drop_end l1.out (by omega)]; rfl)
      go_wp2_with fail
      go_ret
      exact ⟨ret_int Hf.out.symm, hb⟩

/-- what Few's yes tells -/
def FewOk (pv : PV) : Prop := pv.ne ≤ 60 ∧ pv.nj ≤ 120 ∧ pv.ns ≤ 60 ∧ pv.nl ≤ 20 ∧ ∀ x ∈ pv.lv, x.n ≤ 60
def FewPost (w : World) (pv : PV) (e : Ending) (w' : World) : Prop := ∃ b : Bool, e = .returned (.bool b) ∧ (b = true → FewOk pv) ∧ Below w.heap.size w w'
theorem take_small {lv : List LineV} {j : Nat} {y : LineV} (h : ∀ x ∈ lv.take j, x.n ≤ 60) (hy : lv[j]? = some y) (hn : y.n ≤ 60) : ∀ x ∈ lv.take (j + 1), x.n ≤ 60 := by
  intro x hx
  rw [List.take_add_one, hy] at hx
  simp at hx
  rcases hx with hx | rfl
  · exact h x hx
  · exact hn
set_option maxHeartbeats 1000000 in
theorem reffew_any (w : World) (pv : PV) (p : Plan) (h : PlanAt w pv p) :
    Calls Try.prog 23 #[pv.val p] w (FewPost w pv) := by
  obtain ⟨ae, ne, ce, aj, nj, cj, as_, ns, cs, al, nl, cl, lv⟩ := pv
  have he : Elems w ae ne p.elems := h.e
  have hs : Sigs w as_ ns p.sigs := h.s
  have hl : Lines w al nl lv := h.l
  have hfit := Lib.hid h.fit
  have Hl := Lib.hid h.lp
  have le := Lib.hid he.len
  have ls := Lib.hid hs.len
  have ll := Lib.hid hl.row.len
  have be := he.bnd
  have bs := hs.bnd
  have bl := hl.row.bnd
  have hW : Below w.heap.size w (w.alloc (.cells #[.slice ae ne ce, .slice aj nj cj, .slice as_ ns cs, .slice al nl cl, .int .i64 p.top, .int .i64 p.brake, .int .i64 p.margin, .int .i64 p.throw, .bool p.hard] 32)) := below_new _ _
  have HB := Lib.hid (pbox_new w ⟨ae, ne, ce, aj, nj, cj, as_, ns, cs, al, nl, cl, lv⟩ p)
  clear h
  dsimp only [PV.val]
  cases d1 : decide (60 < (ne : Int))
  case true =>
    go_enter Try.func23, Try.ntmps23
    go_wp2_with fail
    go_ret
    exact ⟨false, rfl, by simp, hW⟩
  cases d2 : decide (120 < (nj : Int))
  case true =>
    go_enter Try.func23, Try.ntmps23
    go_wp2_with fail
    go_ret
    exact ⟨false, rfl, by simp, hW⟩
  cases d3 : decide (60 < (ns : Int))
  case true =>
    go_enter Try.func23, Try.ntmps23
    go_wp2_with fail
    go_ret
    exact ⟨false, rfl, by simp, hW⟩
  cases d4 : decide (20 < (nl : Int))
  case true =>
    go_enter Try.func23, Try.ntmps23
    go_wp2_with fail
    go_ret
    exact ⟨false, rfl, by simp, hW⟩
  go_enter Try.func23, Try.ntmps23
  go_wp2_with fail
  go_loopg [3] nl (fun k i wr => ∃ j : Nat, j + k = nl ∧ i = .int .i64 j ∧ Hid (∀ x ∈ lv.take j, x.n ≤ 60) ∧ PBox wr w.heap.size ⟨ae, ne, ce, aj, nj, cj, as_, ns, cs, al, nl, cl, lv⟩ p ∧ Below w.heap.size w wr)
  case atStart => exact ⟨0, by omega, rfl, Lib.hid (by simp), HB.out, hW⟩
  case round =>
    clear HB hW
    obtain ⟨j, hk, rfl, Ht, hB, hb⟩ := hrel
    have Hk := Lib.hid hk; clear hk
    have HB := Lib.hid hB
    have Hb := Lib.hid hb; clear hb
    obtain ⟨_, c0, _, c2, c3, _⟩ := hB
    by_cases hlt : j < nl
    · obtain ⟨y, hy⟩ := get_some ll.out hlt
      obtain ⟨pb, off, rfl, hpb, g1, g2⟩ := hl.row.lineB Hb.out hy
      have hy0 := Lib.hid hy
      have hsz := (hfit.out.l y.line (by rw [Hl.out]; exact List.mem_map.2 ⟨y, List.mem_of_getElem? hy, rfl⟩)).2
      clear hy
      cases t1 : decide (60 < (y.n : Int))
      case true =>
        go_wp2_with fail
        go_ret
        exact ⟨false, rfl, by simp, Hb.out⟩
      cases t2 : decide (100 < (y.name.size : Int))
      · go_wp2_with fail
        go_roundg (gk - 1)
        case measure => have := Hk.out; omega
        case rel => exact ⟨j + 1, by have := Hk.out; omega, by go_num, Lib.hid (take_small Ht.out hy0.out (by simp at t1; omega)), HB.out, Hb.out⟩
      · go_wp2_with fail
        go_ret
        exact ⟨false, rfl, by simp, Hb.out⟩
    · have HSm := Lib.hid (show FewOk ⟨ae, ne, ce, aj, nj, cj, as_, ns, cs, al, nl, cl, lv⟩ from ⟨by simp at d1; show ne ≤ 60; omega, by simp at d2; show nj ≤ 120; omega, by simp at d3; show ns ≤ 60; omega, by simp at d4; show nl ≤ 20; omega, fun x hx => Ht.out x (by rw [List.take_of_length_le (by have := ll.out; omega)]; exact hx)⟩)
      go_wp2_with fail
      go_loopg [4] ne (fun k i wr => ∃ j : Nat, j + k = ne ∧ i = .int .i64 j ∧ PBox wr w.heap.size ⟨ae, ne, ce, aj, nj, cj, as_, ns, cs, al, nl, cl, lv⟩ p ∧ Below w.heap.size w wr)
      case atStart => exact ⟨0, by omega, rfl, HB.out, Hb.out⟩
      case round =>
        clear HB Hb c0 c2 c3 hlt
        obtain ⟨j, hk, rfl, hB, hb⟩ := hrel
        have Hk := Lib.hid hk; clear hk
        have HB := Lib.hid hB
        have Hb := Lib.hid hb; clear hb
        obtain ⟨_, c0, _, c2, c3, _⟩ := hB
        by_cases hlt : j < ne
        · obtain ⟨y, hy⟩ := get_some le.out hlt
          obtain ⟨pb, off, rfl, hpb, g1, g2, g3⟩ := he.elemB Hb.out hy
          have hsz := (hfit.out.e y (List.mem_of_getElem? hy)).2.2
          clear hy
          cases t2 : decide (100 < (y.name.size : Int))
          · go_wp2_with fail
            go_roundg (gk - 1)
            case measure => have := Hk.out; omega
            case rel => exact ⟨j + 1, by have := Hk.out; omega, by go_num, HB.out, Hb.out⟩
          · go_wp2_with fail
            go_ret
            exact ⟨false, rfl, by simp, Hb.out⟩
        · go_wp2_with fail
          go_loopg [5] ns (fun k i wr => ∃ j : Nat, j + k = ns ∧ i = .int .i64 j ∧ PBox wr w.heap.size ⟨ae, ne, ce, aj, nj, cj, as_, ns, cs, al, nl, cl, lv⟩ p ∧ Below w.heap.size w wr)
          case atStart => exact ⟨0, by omega, rfl, HB.out, Hb.out⟩
          case round =>
            clear HB Hb c0 c2 c3 hlt
            obtain ⟨j, hk, rfl, hB, hb⟩ := hrel
            have Hk := Lib.hid hk; clear hk
            have HB := Lib.hid hB
            have Hb := Lib.hid hb; clear hb
            obtain ⟨_, c0, _, c2, c3, _⟩ := hB
            by_cases hlt : j < ns
            · obtain ⟨y, hy⟩ := get_some ls.out hlt
              obtain ⟨pb, off, rfl, hpb, g1, g2, g3, g4⟩ := hs.sigB Hb.out hy
              have hsz := (hfit.out.s y (List.mem_of_getElem? hy)).2
              clear hy
              cases t2 : decide (100 < (y.name.size : Int))
              · go_wp2_with fail
                go_roundg (gk - 1)
                case measure => have := Hk.out; omega
                case rel => exact ⟨j + 1, by have := Hk.out; omega, by go_num, HB.out, Hb.out⟩
              · go_wp2_with fail
                go_ret
                exact ⟨false, rfl, by simp, Hb.out⟩
            · go_wp2_with fail
              go_ret
              exact ⟨true, rfl, fun _ => HSm.out, Hb.out⟩
end Go.Proofs.Ytlndfmflbdkpjaa

/- Walk of semaphoreref6.Same. No condition beyond the plans that are read. -/
set_option maxRecDepth 1000000
namespace Go.Proofs.Ytlndfmflbdkpjaa
open Go.RowKit

theorem drop_eq_lines {xs ys : List LineV} {j : Nat} {x y : LineV} (hx : xs.drop j = x :: xs.drop (j + 1)) (hy : ys.drop j = y :: ys.drop (j + 1)) :
    decide ((xs.drop j).map LineV.line = (ys.drop j).map LineV.line) = ((decide (x.name = y.name) && decide (x.elems = y.elems)) && decide ((xs.drop (j + 1)).map LineV.line = (ys.drop (j + 1)).map LineV.line)) := by
  rw [hx, hy, Bool.eq_iff_iff]; simp [LineV.line, and_assoc]
theorem plan_ne_len {p q : Plan} (h : p.elems.length ≠ q.elems.length ∨ p.joins.length ≠ q.joins.length ∨ p.sigs.length ≠ q.sigs.length ∨ p.lines.length ≠ q.lines.length) : decide (p = q) = false := by
  simp only [decide_eq_false_iff_not]; rintro rfl; simp at h

set_option maxHeartbeats 4000000 in
theorem refsame_any (w : World) (pv pv2 : PV) (p q : Plan) (h : PlanAt w pv p) (h2 : PlanAt w pv2 q) :
    Calls Try.prog 29 #[pv.val p, pv2.val q] w fun e w' => e = .returned (.bool (decide (p = q))) ∧ Below w.heap.size w w' := by
  have hW := Lib.hid (below_new2 w (pobj pv p) (pobj pv2 q))
  have HA0 := Lib.hid ((pbox_new w pv p).alloc (pobj pv2 q))
  have HB0 := Lib.hid (show PBox ((w.alloc (pobj pv p)).alloc (pobj pv2 q)) (w.heap.size + 1) pv2 q by have := pbox_new (w.alloc (pobj pv p)) pv2 q; simpa using this)
  have Hs := Lib.hid (plan_eq p q)
  obtain ⟨ae, ne, ce, aj, nj, cj, as_, ns, cs, al, nl, cl, lv⟩ := pv
  obtain ⟨ae2, ne2, ce2, aj2, nj2, cj2, as2, ns2, cs2, al2, nl2, cl2, lv2⟩ := pv2
  have HE := Lib.hid (show Elems w ae ne p.elems ∧ Elems w ae2 ne2 q.elems from ⟨h.e, h2.e⟩)
  have HJ := Lib.hid (show Joins w aj nj p.joins ∧ Joins w aj2 nj2 q.joins from ⟨h.j, h2.j⟩)
  have HS := Lib.hid (show Sigs w as_ ns p.sigs ∧ Sigs w as2 ns2 q.sigs from ⟨h.s, h2.s⟩)
  have HLi := Lib.hid (show Lines w al nl lv ∧ Lines w al2 nl2 lv2 from ⟨h.l, h2.l⟩)
  have HL := Lib.hid (show decide (p.lines = q.lines) = decide (lv.map LineV.line = lv2.map LineV.line) by rw [h.lp, h2.lp])
  have HN := Lib.hid (show p.lines.length = nl ∧ q.lines.length = nl2 by rw [h.lp, h2.lp, List.length_map, List.length_map]; exact ⟨h.l.row.len, h2.l.row.len⟩)
  have be := HE.out.1.bnd
  have bj := HJ.out.1.bnd
  have bs := HS.out.1.bnd
  have bl := HLi.out.1.row.bnd
  clear h h2
  dsimp only [PV.val]
  by_cases m0 : ne ≠ ne2
  · have Hf := Lib.hid (plan_ne_len (p := p) (q := q) (by have := HE.out.1.len; have := HE.out.2.len; omega))
    have t0 : ((ne : Int) != (ne2 : Int)) = true := by rw [bne_iff_ne]; omega
    go_enter Try.func29, Try.ntmps29
    go_wp2_with fail
    go_ret
    exact ⟨ret_bool Hf.out.symm, hW.out⟩
  have m0 : ne = ne2 := by omega
  subst m0
  by_cases m1 : nj ≠ nj2
  · have Hf := Lib.hid (plan_ne_len (p := p) (q := q) (by have := HJ.out.1.len; have := HJ.out.2.len; omega))
    have t1 : ((nj : Int) != (nj2 : Int)) = true := by rw [bne_iff_ne]; omega
    go_enter Try.func29, Try.ntmps29
    go_wp2_with fail
    go_ret
    exact ⟨ret_bool Hf.out.symm, hW.out⟩
  have m1 : nj = nj2 := by omega
  subst m1
  by_cases m2 : ns ≠ ns2
  · have Hf := Lib.hid (plan_ne_len (p := p) (q := q) (by have := HS.out.1.len; have := HS.out.2.len; omega))
    have t2 : ((ns : Int) != (ns2 : Int)) = true := by rw [bne_iff_ne]; omega
    go_enter Try.func29, Try.ntmps29
    go_wp2_with fail
    go_ret
    exact ⟨ret_bool Hf.out.symm, hW.out⟩
  have m2 : ns = ns2 := by omega
  subst m2
  by_cases m3 : nl ≠ nl2
  · have Hf := Lib.hid (plan_ne_len (p := p) (q := q) (by have := HN.out.1; have := HN.out.2; omega))
    have t3 : ((nl : Int) != (nl2 : Int)) = true := by rw [bne_iff_ne]; omega
    go_enter Try.func29, Try.ntmps29
    go_wp2_with fail
    go_ret
    exact ⟨ret_bool Hf.out.symm, hW.out⟩
  have m3 : nl = nl2 := by omega
  subst m3
  have Hk := Lib.hid Hs.out
  cases s0 : (p.top != q.top)
  case true =>
    have Hf := Lib.hid (show decide (p = q) = false by simp only [decide_eq_false_iff_not]; rintro rfl; simp at s0)
    go_enter Try.func29, Try.ntmps29
    go_wp2_with fail
    go_ret
    exact ⟨ret_bool Hf.out.symm, hW.out⟩
  cases s1 : (p.brake != q.brake)
  case true =>
    have Hf := Lib.hid (show decide (p = q) = false by simp only [decide_eq_false_iff_not]; rintro rfl; simp at s1)
    go_enter Try.func29, Try.ntmps29
    go_wp2_with fail
    go_ret
    exact ⟨ret_bool Hf.out.symm, hW.out⟩
  cases s2 : (p.margin != q.margin)
  case true =>
    have Hf := Lib.hid (show decide (p = q) = false by simp only [decide_eq_false_iff_not]; rintro rfl; simp at s2)
    go_enter Try.func29, Try.ntmps29
    go_wp2_with fail
    go_ret
    exact ⟨ret_bool Hf.out.symm, hW.out⟩
  cases s3 : (p.throw != q.throw)
  case true =>
    have Hf := Lib.hid (show decide (p = q) = false by simp only [decide_eq_false_iff_not]; rintro rfl; simp at s3)
    go_enter Try.func29, Try.ntmps29
    go_wp2_with fail
    go_ret
    exact ⟨ret_bool Hf.out.symm, hW.out⟩
  cases s4 : (p.hard == q.hard)
  case false =>
    have Hf := Lib.hid (show decide (p = q) = false by simp only [decide_eq_false_iff_not]; rintro rfl; simp at s4)
    go_enter Try.func29, Try.ntmps29
    go_wp2_with fail
    go_ret
    exact ⟨ret_bool Hf.out.symm, hW.out⟩
  have Hf := Lib.hid (show decide (p = q) = (decide (p.elems = q.elems) && (decide (p.joins = q.joins) && (decide (p.sigs = q.sigs) && decide (lv.map LineV.line = lv2.map LineV.line)))) by
    rw [Hs.out, HL.out]; simp at s0 s1 s2 s3 s4; simp [s0, s1, s2, s3, s4])
  clear Hs
  go_enter Try.func29, Try.ntmps29
  go_wp2_with fail
  clear s0 s1 s2 s3 s4
  go_loopg [5] ne (fun k i wr => ∃ j : Nat, j + k = ne ∧ i = .int .i64 j ∧ Hid (decide (p.elems.drop j = q.elems.drop j) = decide (p.elems = q.elems)) ∧ PBox wr w.heap.size ⟨ae, ne, ce, aj, nj, cj, as_, ns, cs, al, nl, cl, lv⟩ p ∧ PBox wr (w.heap.size + 1) ⟨ae2, ne, ce2, aj2, nj, cj2, as2, ns, cs2, al2, nl, cl2, lv2⟩ q ∧ Below w.heap.size w wr)
  case atStart => exact ⟨0, by omega, rfl, rfl, HA0.out, HB0.out, hW.out⟩
  case round =>
    clear HA0 HB0 hW
    obtain ⟨j, hk, rfl, hr, hA, hB, hb⟩ := hrel
    have Hk := Lib.hid hk; clear hk
    have HA := Lib.hid hA
    have HB := Lib.hid hB
    have Hb := Lib.hid hb; clear hb
    obtain ⟨_, c0, c1, c2, c3, _⟩ := hA
    obtain ⟨_, d0, d1, d2, d3, _⟩ := hB
    by_cases hlt : j < ne
    · obtain ⟨x, hx⟩ := get_some HE.out.1.len hlt
      obtain ⟨y, hy⟩ := get_some HE.out.2.len hlt
      obtain ⟨p1, o1, rfl, hp1, g0, g1, g2⟩ := HE.out.1.elemB Hb.out hx
      obtain ⟨p2, o2, rfl, hp2, k0, k1, k2⟩ := HE.out.2.elemB Hb.out hy
      have Hd := Lib.hid (drop_eq_eqElems (drop_cons hx) (drop_cons hy)); clear hx hy
      by_cases hxy : x = y
      · have q1 := fun w => (eql_elem (x := x) (y := y) (b := true) (by simpa using hxy) w).2
        have Hg := Lib.hid (show decide (p.elems.drop (j + 1) = q.elems.drop (j + 1)) = decide (p.elems = q.elems) by rw [← hr.out, Hd.out]; simp [hxy])
        clear hxy
        go_wp2_with fail
        go_quiet (fail)
        go_wp2_with fail
        go_roundg (gk - 1)
        case measure => have := Hk.out; omega
        case rel => exact ⟨j + 1, by have := Hk.out; omega, by go_num, Hg.out, HA.out.drewN _, HB.out.drewN _, below_drewN Hb.out _⟩
      · have q1 := fun w => (eql_elem (x := x) (y := y) (b := false) (by simpa using hxy) w).2
        have Hg := Lib.hid (show decide (p.elems = q.elems) = false by rw [← hr.out, Hd.out]; simp [hxy])
        clear hxy
        go_wp2_with fail
        go_quiet (fail)
        go_wp2_with fail
        go_ret
        exact ⟨ret_bool (by rw [Hf.out, Hg.out]; rfl), below_drewN Hb.out _⟩
    · have T0 := Lib.hid (show decide (p.elems = q.elems) = true by rw [← hr.out, drop_end HE.out.1.len (by omega), drop_end HE.out.2.len (by omega)]; rfl)
      clear hr
      go_wp2_with fail
      go_loopg [6] nj (fun k i wr => ∃ j : Nat, j + k = nj ∧ i = .int .i64 j ∧ Hid (decide (p.joins.drop j = q.joins.drop j) = decide (p.joins = q.joins)) ∧ PBox wr w.heap.size ⟨ae, ne, ce, aj, nj, cj, as_, ns, cs, al, nl, cl, lv⟩ p ∧ PBox wr (w.heap.size + 1) ⟨ae2, ne, ce2, aj2, nj, cj2, as2, ns, cs2, al2, nl, cl2, lv2⟩ q ∧ Below w.heap.size w wr)
      case atStart => exact ⟨0, by omega, rfl, rfl, HA.out, HB.out, Hb.out⟩
      case round =>
        clear HA HB Hb c0 c1 c2 c3 d0 d1 d2 d3 hlt
        obtain ⟨j, hk, rfl, hr, hA, hB, hb⟩ := hrel
        have Hk := Lib.hid hk; clear hk
        have HA := Lib.hid hA
        have HB := Lib.hid hB
        have Hb := Lib.hid hb; clear hb
        obtain ⟨_, c0, c1, c2, c3, _⟩ := hA
        obtain ⟨_, d0, d1, d2, d3, _⟩ := hB
        by_cases hlt : j < nj
        · obtain ⟨x, hx⟩ := get_some HJ.out.1.len hlt
          obtain ⟨y, hy⟩ := get_some HJ.out.2.len hlt
          obtain ⟨p1, o1, rfl, hp1, g0, g1, g2, g3⟩ := HJ.out.1.joinB Hb.out hx
          obtain ⟨p2, o2, rfl, hp2, k0, k1, k2, k3⟩ := HJ.out.2.joinB Hb.out hy
          have Hd := Lib.hid (drop_eq_eqJoins (drop_cons hx) (drop_cons hy)); clear hx hy
          by_cases hxy : x = y
          · have q1 := fun w => (eql_join (x := x) (y := y) (b := true) (by simpa using hxy) w).2
            have Hg := Lib.hid (show decide (p.joins.drop (j + 1) = q.joins.drop (j + 1)) = decide (p.joins = q.joins) by rw [← hr.out, Hd.out]; simp [hxy])
            clear hxy
            go_wp2_with fail
            go_quiet (fail)
            go_wp2_with fail
            go_roundg (gk - 1)
            case measure => have := Hk.out; omega
            case rel => exact ⟨j + 1, by have := Hk.out; omega, by go_num, Hg.out, HA.out.drewN _, HB.out.drewN _, below_drewN Hb.out _⟩
          · have q1 := fun w => (eql_join (x := x) (y := y) (b := false) (by simpa using hxy) w).2
            have Hg := Lib.hid (show decide (p.joins = q.joins) = false by rw [← hr.out, Hd.out]; simp [hxy])
            clear hxy
            go_wp2_with fail
            go_quiet (fail)
            go_wp2_with fail
            go_ret
            exact ⟨ret_bool (by rw [Hf.out, T0.out, Hg.out]; rfl), below_drewN Hb.out _⟩
        · have T1 := Lib.hid (show decide (p.joins = q.joins) = true by rw [← hr.out, drop_end HJ.out.1.len (by omega), drop_end HJ.out.2.len (by omega)]; rfl)
          clear hr
          go_wp2_with fail
          go_loopg [7] ns (fun k i wr => ∃ j : Nat, j + k = ns ∧ i = .int .i64 j ∧ Hid (decide (p.sigs.drop j = q.sigs.drop j) = decide (p.sigs = q.sigs)) ∧ PBox wr w.heap.size ⟨ae, ne, ce, aj, nj, cj, as_, ns, cs, al, nl, cl, lv⟩ p ∧ PBox wr (w.heap.size + 1) ⟨ae2, ne, ce2, aj2, nj, cj2, as2, ns, cs2, al2, nl, cl2, lv2⟩ q ∧ Below w.heap.size w wr)
          case atStart => exact ⟨0, by omega, rfl, rfl, HA.out, HB.out, Hb.out⟩
          case round =>
            clear HA HB Hb c0 c1 c2 c3 d0 d1 d2 d3 hlt
            obtain ⟨j, hk, rfl, hr, hA, hB, hb⟩ := hrel
            have Hk := Lib.hid hk; clear hk
            have HA := Lib.hid hA
            have HB := Lib.hid hB
            have Hb := Lib.hid hb; clear hb
            obtain ⟨_, c0, c1, c2, c3, _⟩ := hA
            obtain ⟨_, d0, d1, d2, d3, _⟩ := hB
            by_cases hlt : j < ns
            · obtain ⟨x, hx⟩ := get_some HS.out.1.len hlt
              obtain ⟨y, hy⟩ := get_some HS.out.2.len hlt
              obtain ⟨p1, o1, rfl, hp1, g0, g1, g2, g3⟩ := HS.out.1.sigB Hb.out hx
              obtain ⟨p2, o2, rfl, hp2, k0, k1, k2, k3⟩ := HS.out.2.sigB Hb.out hy
              have Hd := Lib.hid (drop_eq_eqSigs (drop_cons hx) (drop_cons hy)); clear hx hy
              by_cases hxy : x = y
              · have q1 := fun w => (eql_sig (x := x) (y := y) (b := true) (by simpa using hxy) w).2
                have Hg := Lib.hid (show decide (p.sigs.drop (j + 1) = q.sigs.drop (j + 1)) = decide (p.sigs = q.sigs) by rw [← hr.out, Hd.out]; simp [hxy])
                clear hxy
                go_wp2_with fail
                go_quiet (fail)
                go_wp2_with fail
                go_roundg (gk - 1)
                case measure => have := Hk.out; omega
                case rel => exact ⟨j + 1, by have := Hk.out; omega, by go_num, Hg.out, HA.out.drewN _, HB.out.drewN _, below_drewN Hb.out _⟩
              · have q1 := fun w => (eql_sig (x := x) (y := y) (b := false) (by simpa using hxy) w).2
                have Hg := Lib.hid (show decide (p.sigs = q.sigs) = false by rw [← hr.out, Hd.out]; simp [hxy])
                clear hxy
                go_wp2_with fail
                go_quiet (fail)
                go_wp2_with fail
                go_ret
                exact ⟨ret_bool (by rw [Hf.out, T0.out, T1.out, Hg.out]; rfl), below_drewN Hb.out _⟩
            · have T2 := Lib.hid (show decide (p.sigs = q.sigs) = true by rw [← hr.out, drop_end HS.out.1.len (by omega), drop_end HS.out.2.len (by omega)]; rfl)
              clear hr
              go_wp2_with fail
              go_loopg [8] nl (fun k i wr => ∃ j : Nat, j + k = nl ∧ i = .int .i64 j ∧ Hid (decide ((lv.drop j).map LineV.line = (lv2.drop j).map LineV.line) = decide (lv.map LineV.line = lv2.map LineV.line)) ∧ PBox wr w.heap.size ⟨ae, ne, ce, aj, nj, cj, as_, ns, cs, al, nl, cl, lv⟩ p ∧ PBox wr (w.heap.size + 1) ⟨ae2, ne, ce2, aj2, nj, cj2, as2, ns, cs2, al2, nl, cl2, lv2⟩ q ∧ Below w.heap.size w wr)
              case atStart => exact ⟨0, by omega, rfl, rfl, HA.out, HB.out, Hb.out⟩
              case round =>
                clear HA HB Hb c0 c1 c2 c3 d0 d1 d2 d3 hlt
                obtain ⟨j, hk, rfl, hr, hA, hB, hb⟩ := hrel
                have Hk := Lib.hid hk; clear hk
                have HA := Lib.hid hA
                have HB := Lib.hid hB
                have Hb := Lib.hid hb; clear hb
                obtain ⟨_, _, _, _, c3, _⟩ := hA
                obtain ⟨_, _, _, _, d3, _⟩ := hB
                by_cases hlt : j < nl
                · obtain ⟨x, hx⟩ := get_some HLi.out.1.row.len hlt
                  obtain ⟨y, hy⟩ := get_some HLi.out.2.row.len hlt
                  have HI := Lib.hid (show Ints wr x.a x.n x.elems ∧ Ints wr y.a y.n y.elems from ⟨(HLi.out.1.ints x (List.mem_of_getElem? hx)).below Hb.out, (HLi.out.2.ints y (List.mem_of_getElem? hy)).below Hb.out⟩)
                  obtain ⟨p1, o1, rfl, hp1, g0, g1⟩ := HLi.out.1.row.lineB Hb.out hx
                  obtain ⟨p2, o2, rfl, hp2, k0, k1⟩ := HLi.out.2.row.lineB Hb.out hy
                  have Hd := Lib.hid (drop_eq_lines (drop_cons hx) (drop_cons hy)); clear hx hy
                  by_cases hn : x.name = y.name
                  · have q1 : (x.name.toList == y.name.toList) = true := by rw [str_beq]; simpa using hn
                    have Hn := Lib.hid hn; clear hn
                    cases hi : decide (x.elems = y.elems)
                    · have Hg := Lib.hid (show decide (lv.map LineV.line = lv2.map LineV.line) = false by rw [← hr.out, Hd.out, hi]; simp)
                      go_wp2_with fail
                      go_quiet ((go_at_call 83; refine Calls.quiet_of (refSameInts _ _ _ _ _ _ _ _ _ (HI.out.1.below (by repeat (first | with_reducible exact Below.refl _ _ | with_reducible assumption | with_reducible apply below_drewN | with_reducible apply Below.drew | with_reducible refine Below.alloc ?_ (by simp <;> omega) _))) (HI.out.2.below (by repeat (first | with_reducible exact Below.refl _ _ | with_reducible assumption | with_reducible apply below_drewN | with_reducible apply Below.drew | with_reducible refine Below.alloc ?_ (by simp <;> omega) _))))))
                      go_wp2_with fail
                      go_ret
                      exact ⟨ret_bool (by rw [Hf.out, T0.out, T1.out, T2.out, Hg.out]; rfl), below_drewN Hb.out _⟩
                    · have Hg := Lib.hid (show decide ((lv.drop (j + 1)).map LineV.line = (lv2.drop (j + 1)).map LineV.line) = decide (lv.map LineV.line = lv2.map LineV.line) by rw [← hr.out, Hd.out, hi]; simp [Hn.out])
                      go_wp2_with fail
                      go_quiet ((go_at_call 83; refine Calls.quiet_of (refSameInts _ _ _ _ _ _ _ _ _ (HI.out.1.below (by repeat (first | with_reducible exact Below.refl _ _ | with_reducible assumption | with_reducible apply below_drewN | with_reducible apply Below.drew | with_reducible refine Below.alloc ?_ (by simp <;> omega) _))) (HI.out.2.below (by repeat (first | with_reducible exact Below.refl _ _ | with_reducible assumption | with_reducible apply below_drewN | with_reducible apply Below.drew | with_reducible refine Below.alloc ?_ (by simp <;> omega) _))))))
                      go_wp2_with fail
                      go_roundg (gk - 1)
                      case measure => have := Hk.out; omega
                      case rel => exact ⟨j + 1, by have := Hk.out; omega, by go_num, Hg.out, HA.out.drewN _, HB.out.drewN _, below_drewN Hb.out _⟩
                  · have q1 : (x.name.toList == y.name.toList) = false := by rw [str_beq]; simpa using hn
                    have Hg := Lib.hid (show decide (lv.map LineV.line = lv2.map LineV.line) = false by rw [← hr.out, Hd.out]; simp [hn])
                    clear hn
                    go_wp2_with fail
                    go_quiet (fail)
                    go_wp2_with fail
                    go_ret
                    exact ⟨ret_bool (by rw [Hf.out, T0.out, T1.out, T2.out, Hg.out]; rfl), below_drewN Hb.out _⟩
                · have T3 := Lib.hid (show decide (lv.map LineV.line = lv2.map LineV.line) = true by rw [← hr.out, drop_end HLi.out.1.row.len (by omega), drop_end HLi.out.2.row.len (by omega)]; rfl)
                  clear hr
                  go_wp2_with fail
                  go_ret
                  exact ⟨ret_bool (by rw [Hf.out, T0.out, T1.out, T2.out, T3.out]; rfl), Hb.out⟩
end Go.Proofs.Ytlndfmflbdkpjaa
