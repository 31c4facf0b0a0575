/- Walks of plan.Find and plan.Same with the library's IndexFunc, Equal and EqualFunc. No condition beyond the plans that are read. -/
import Derived.Test.YtlndfmflbdkpjaaPlanW3
set_option maxRecDepth 1000000
namespace Go.Proofs.Ytlndfmflbdkpjaa
open Go.RowKit

theorem drop_eq_eqElems {xs ys : List Elem} {j : Nat} {x y : Elem} (hx : xs.drop j = x :: xs.drop (j + 1)) (hy : ys.drop j = y :: ys.drop (j + 1)) : decide (xs.drop j = ys.drop j) = (decide (x = y) && decide (xs.drop (j + 1) = ys.drop (j + 1))) := by
  rw [hx, hy, Bool.eq_iff_iff]; simp
set_option maxHeartbeats 400000 in
theorem eqElems (w : World) (a1 a2 : Option Addr) (n1 n2 c1 c2 : Nat) (xs ys : List Elem) (h1 : Row 3 encElem w a1 n1 xs) (h2 : Row 3 encElem w a2 n2 ys) :
    Calls Try.prog 77 #[.slice a1 n1 c1, .slice a2 n2 c2] w fun e w' => e = .returned (.bool (decide (xs = ys))) ∧ Below w.heap.size w w' := by
  have l1 := Lib.hid h1.len
  have l2 := Lib.hid h2.len
  have b1 := h1.bnd
  have b2 := h2.bnd
  by_cases hn : n1 = n2
  · subst hn
    go_enter Try.func77, Try.ntmps77
    go_wp2_with fail
    go_loopg [13] n1 (fun k i wr => ∃ (j q : Nat), j + k = n1 ∧ i = .int .i64 j ∧ Hid (decide (xs.drop j = ys.drop j) = decide (xs = ys)) ∧ wr = w.drewN q)
    case atStart => exact ⟨0, 0, by omega, rfl, rfl, rfl⟩
    case round =>
      obtain ⟨j, q, hk, rfl, hr, rfl⟩ := hrel
      have Hk := Lib.hid hk; clear hk
      by_cases hlt : j < n1
      · obtain ⟨x, hx⟩ := get_some l1.out hlt
        obtain ⟨y, hy⟩ := get_some l2.out hlt
        obtain ⟨p1, o1, rfl, hp1, g0, g1, g2⟩ := h1.elem hx
        obtain ⟨p2, o2, rfl, hp2, k0, k1, k2⟩ := h2.elem hy
        have Hd := Lib.hid (drop_eq_eqElems (drop_cons hx) (drop_cons hy)); clear hx hy
        by_cases hxy : x = y
        · have q1 := fun w => (eql_elem (x := x) (y := y) (b := true) (by simpa using hxy) w).2
          have Hf := Lib.hid (show decide (xs.drop (j + 1) = ys.drop (j + 1)) = decide (xs = ys) by rw [← hr.out, Hd.out]; simp [hxy])
          clear hxy
          go_wp2_with fail
          go_quiet (fail)
          go_wp2_with fail
          go_roundg (gk - 1)
          case measure => have := Hk.out; omega
          case rel => exact ⟨j + 1, _, by have := Hk.out; omega, by go_num, Hf.out, rfl⟩
        · have q1 := fun w => (eql_elem (x := x) (y := y) (b := false) (by simpa using hxy) w).2
          have Hf := Lib.hid (show decide (xs = ys) = false by rw [← hr.out, Hd.out]; simp [hxy])
          clear hxy
          go_wp2_with fail
          go_quiet (fail)
          go_wp2_with fail
          go_ret
          exact ⟨ret_bool Hf.out.symm, (by repeat (first | with_reducible exact Below.refl _ _ | with_reducible assumption | with_reducible apply below_drewN | with_reducible apply Below.drew | with_reducible refine Below.alloc ?_ (by simp <;> omega) _))⟩
      · have Hf := Lib.hid (show decide (xs = ys) = true by rw [← hr.out, drop_end l1.out (by omega), drop_end l2.out (by omega)]; rfl)
        go_wp2_with fail
        go_ret
        exact ⟨ret_bool Hf.out.symm, (by repeat (first | with_reducible exact Below.refl _ _ | with_reducible assumption | with_reducible apply below_drewN | with_reducible apply Below.drew | with_reducible refine Below.alloc ?_ (by simp <;> omega) _))⟩
  · have Hf := Lib.hid (show decide (xs = ys) = false by
      have := l1.out; have := l2.out
      simp only [decide_eq_false_iff_not]; intro h; subst h; omega)
    have q1 : ((n1 : Int) != (n2 : Int)) = true := by rw [bne_iff_ne]; omega
    go_enter Try.func77, Try.ntmps77
    go_wp2_with fail
    go_ret
    exact ⟨ret_bool Hf.out.symm, Below.refl _ _⟩
theorem drop_eq_eqJoins {xs ys : List Join} {j : Nat} {x y : Join} (hx : xs.drop j = x :: xs.drop (j + 1)) (hy : ys.drop j = y :: ys.drop (j + 1)) : decide (xs.drop j = ys.drop j) = (decide (x = y) && decide (xs.drop (j + 1) = ys.drop (j + 1))) := by
  rw [hx, hy, Bool.eq_iff_iff]; simp
set_option maxHeartbeats 400000 in
theorem eqJoins (w : World) (a1 a2 : Option Addr) (n1 n2 c1 c2 : Nat) (xs ys : List Join) (h1 : Row 4 encJoin w a1 n1 xs) (h2 : Row 4 encJoin w a2 n2 ys) :
    Calls Try.prog 78 #[.slice a1 n1 c1, .slice a2 n2 c2] w fun e w' => e = .returned (.bool (decide (xs = ys))) ∧ Below w.heap.size w w' := by
  have l1 := Lib.hid h1.len
  have l2 := Lib.hid h2.len
  have b1 := h1.bnd
  have b2 := h2.bnd
  by_cases hn : n1 = n2
  · subst hn
    go_enter Try.func78, Try.ntmps78
    go_wp2_with fail
    go_loopg [13] n1 (fun k i wr => ∃ (j q : Nat), j + k = n1 ∧ i = .int .i64 j ∧ Hid (decide (xs.drop j = ys.drop j) = decide (xs = ys)) ∧ wr = w.drewN q)
    case atStart => exact ⟨0, 0, by omega, rfl, rfl, rfl⟩
    case round =>
      obtain ⟨j, q, hk, rfl, hr, rfl⟩ := hrel
      have Hk := Lib.hid hk; clear hk
      by_cases hlt : j < n1
      · obtain ⟨x, hx⟩ := get_some l1.out hlt
        obtain ⟨y, hy⟩ := get_some l2.out hlt
        obtain ⟨p1, o1, rfl, hp1, g0, g1, g2, g3⟩ := h1.join hx
        obtain ⟨p2, o2, rfl, hp2, k0, k1, k2, k3⟩ := h2.join hy
        have Hd := Lib.hid (drop_eq_eqJoins (drop_cons hx) (drop_cons hy)); clear hx hy
        by_cases hxy : x = y
        · have q1 := fun w => (eql_join (x := x) (y := y) (b := true) (by simpa using hxy) w).2
          have Hf := Lib.hid (show decide (xs.drop (j + 1) = ys.drop (j + 1)) = decide (xs = ys) by rw [← hr.out, Hd.out]; simp [hxy])
          clear hxy
          go_wp2_with fail
          go_quiet (fail)
          go_wp2_with fail
          go_roundg (gk - 1)
          case measure => have := Hk.out; omega
          case rel => exact ⟨j + 1, _, by have := Hk.out; omega, by go_num, Hf.out, rfl⟩
        · have q1 := fun w => (eql_join (x := x) (y := y) (b := false) (by simpa using hxy) w).2
          have Hf := Lib.hid (show decide (xs = ys) = false by rw [← hr.out, Hd.out]; simp [hxy])
          clear hxy
          go_wp2_with fail
          go_quiet (fail)
          go_wp2_with fail
          go_ret
          exact ⟨ret_bool Hf.out.symm, (by repeat (first | with_reducible exact Below.refl _ _ | with_reducible assumption | with_reducible apply below_drewN | with_reducible apply Below.drew | with_reducible refine Below.alloc ?_ (by simp <;> omega) _))⟩
      · have Hf := Lib.hid (show decide (xs = ys) = true by rw [← hr.out, drop_end l1.out (by omega), drop_end l2.out (by omega)]; rfl)
        go_wp2_with fail
        go_ret
        exact ⟨ret_bool Hf.out.symm, (by repeat (first | with_reducible exact Below.refl _ _ | with_reducible assumption | with_reducible apply below_drewN | with_reducible apply Below.drew | with_reducible refine Below.alloc ?_ (by simp <;> omega) _))⟩
  · have Hf := Lib.hid (show decide (xs = ys) = false by
      have := l1.out; have := l2.out
      simp only [decide_eq_false_iff_not]; intro h; subst h; omega)
    have q1 : ((n1 : Int) != (n2 : Int)) = true := by rw [bne_iff_ne]; omega
    go_enter Try.func78, Try.ntmps78
    go_wp2_with fail
    go_ret
    exact ⟨ret_bool Hf.out.symm, Below.refl _ _⟩
theorem drop_eq_eqSigs {xs ys : List Sig} {j : Nat} {x y : Sig} (hx : xs.drop j = x :: xs.drop (j + 1)) (hy : ys.drop j = y :: ys.drop (j + 1)) : decide (xs.drop j = ys.drop j) = (decide (x = y) && decide (xs.drop (j + 1) = ys.drop (j + 1))) := by
  rw [hx, hy, Bool.eq_iff_iff]; simp
set_option maxHeartbeats 400000 in
theorem eqSigs (w : World) (a1 a2 : Option Addr) (n1 n2 c1 c2 : Nat) (xs ys : List Sig) (h1 : Row 4 encSig w a1 n1 xs) (h2 : Row 4 encSig w a2 n2 ys) :
    Calls Try.prog 79 #[.slice a1 n1 c1, .slice a2 n2 c2] w fun e w' => e = .returned (.bool (decide (xs = ys))) ∧ Below w.heap.size w w' := by
  have l1 := Lib.hid h1.len
  have l2 := Lib.hid h2.len
  have b1 := h1.bnd
  have b2 := h2.bnd
  by_cases hn : n1 = n2
  · subst hn
    go_enter Try.func79, Try.ntmps79
    go_wp2_with fail
    go_loopg [13] n1 (fun k i wr => ∃ (j q : Nat), j + k = n1 ∧ i = .int .i64 j ∧ Hid (decide (xs.drop j = ys.drop j) = decide (xs = ys)) ∧ wr = w.drewN q)
    case atStart => exact ⟨0, 0, by omega, rfl, rfl, rfl⟩
    case round =>
      obtain ⟨j, q, hk, rfl, hr, rfl⟩ := hrel
      have Hk := Lib.hid hk; clear hk
      by_cases hlt : j < n1
      · obtain ⟨x, hx⟩ := get_some l1.out hlt
        obtain ⟨y, hy⟩ := get_some l2.out hlt
        obtain ⟨p1, o1, rfl, hp1, g0, g1, g2, g3⟩ := h1.sig hx
        obtain ⟨p2, o2, rfl, hp2, k0, k1, k2, k3⟩ := h2.sig hy
        have Hd := Lib.hid (drop_eq_eqSigs (drop_cons hx) (drop_cons hy)); clear hx hy
        by_cases hxy : x = y
        · have q1 := fun w => (eql_sig (x := x) (y := y) (b := true) (by simpa using hxy) w).2
          have Hf := Lib.hid (show decide (xs.drop (j + 1) = ys.drop (j + 1)) = decide (xs = ys) by rw [← hr.out, Hd.out]; simp [hxy])
          clear hxy
          go_wp2_with fail
          go_quiet (fail)
          go_wp2_with fail
          go_roundg (gk - 1)
          case measure => have := Hk.out; omega
          case rel => exact ⟨j + 1, _, by have := Hk.out; omega, by go_num, Hf.out, rfl⟩
        · have q1 := fun w => (eql_sig (x := x) (y := y) (b := false) (by simpa using hxy) w).2
          have Hf := Lib.hid (show decide (xs = ys) = false by rw [← hr.out, Hd.out]; simp [hxy])
          clear hxy
          go_wp2_with fail
          go_quiet (fail)
          go_wp2_with fail
          go_ret
          exact ⟨ret_bool Hf.out.symm, (by repeat (first | with_reducible exact Below.refl _ _ | with_reducible assumption | with_reducible apply below_drewN | with_reducible apply Below.drew | with_reducible refine Below.alloc ?_ (by simp <;> omega) _))⟩
      · have Hf := Lib.hid (show decide (xs = ys) = true by rw [← hr.out, drop_end l1.out (by omega), drop_end l2.out (by omega)]; rfl)
        go_wp2_with fail
        go_ret
        exact ⟨ret_bool Hf.out.symm, (by repeat (first | with_reducible exact Below.refl _ _ | with_reducible assumption | with_reducible apply below_drewN | with_reducible apply Below.drew | with_reducible refine Below.alloc ?_ (by simp <;> omega) _))⟩
  · have Hf := Lib.hid (show decide (xs = ys) = false by
      have := l1.out; have := l2.out
      simp only [decide_eq_false_iff_not]; intro h; subst h; omega)
    have q1 : ((n1 : Int) != (n2 : Int)) = true := by rw [bne_iff_ne]; omega
    go_enter Try.func79, Try.ntmps79
    go_wp2_with fail
    go_ret
    exact ⟨ret_bool Hf.out.symm, Below.refl _ _⟩
theorem drop_eq_eqInts {xs ys : List Int} {j : Nat} {x y : Int} (hx : xs.drop j = x :: xs.drop (j + 1)) (hy : ys.drop j = y :: ys.drop (j + 1)) : decide (xs.drop j = ys.drop j) = (decide (x = y) && decide (xs.drop (j + 1) = ys.drop (j + 1))) := by
  rw [hx, hy, Bool.eq_iff_iff]; simp
set_option maxHeartbeats 400000 in
theorem eqInts (w : World) (a1 a2 : Option Addr) (n1 n2 c1 c2 : Nat) (xs ys : List Int) (h1 : Row 1 encInt w a1 n1 xs) (h2 : Row 1 encInt w a2 n2 ys) :
    Calls Try.prog 82 #[.slice a1 n1 c1, .slice a2 n2 c2] w fun e w' => e = .returned (.bool (decide (xs = ys))) ∧ Below w.heap.size w w' := by
  have l1 := Lib.hid h1.len
  have l2 := Lib.hid h2.len
  have b1 := h1.bnd
  have b2 := h2.bnd
  by_cases hn : n1 = n2
  · subst hn
    go_enter Try.func82, Try.ntmps82
    go_wp2_with fail
    go_loopg [13] n1 (fun k i wr => ∃ (j q : Nat), j + k = n1 ∧ i = .int .i64 j ∧ Hid (decide (xs.drop j = ys.drop j) = decide (xs = ys)) ∧ wr = w.drewN q)
    case atStart => exact ⟨0, 0, by omega, rfl, rfl, rfl⟩
    case round =>
      obtain ⟨j, q, hk, rfl, hr, rfl⟩ := hrel
      have Hk := Lib.hid hk; clear hk
      by_cases hlt : j < n1
      · obtain ⟨x, hx⟩ := get_some l1.out hlt
        obtain ⟨y, hy⟩ := get_some l2.out hlt
        obtain ⟨p1, o1, rfl, hp1, g0⟩ := h1.int hx
        obtain ⟨p2, o2, rfl, hp2, k0⟩ := h2.int hy
        have Hd := Lib.hid (drop_eq_eqInts (drop_cons hx) (drop_cons hy)); clear hx hy
        by_cases hxy : x = y
        · have q1 : (x != y) = false := by simpa using hxy
          have Hf := Lib.hid (show decide (xs.drop (j + 1) = ys.drop (j + 1)) = decide (xs = ys) by rw [← hr.out, Hd.out]; simp [hxy])
          clear hxy
          go_wp2_with fail
          go_quiet (fail)
          go_wp2_with fail
          go_roundg (gk - 1)
          case measure => have := Hk.out; omega
          case rel => exact ⟨j + 1, _, by have := Hk.out; omega, by go_num, Hf.out, rfl⟩
        · have q1 : (x != y) = true := by simpa using hxy
          have Hf := Lib.hid (show decide (xs = ys) = false by rw [← hr.out, Hd.out]; simp [hxy])
          clear hxy
          go_wp2_with fail
          go_quiet (fail)
          go_wp2_with fail
          go_ret
          exact ⟨ret_bool Hf.out.symm, (by repeat (first | with_reducible exact Below.refl _ _ | with_reducible assumption | with_reducible apply below_drewN | with_reducible apply Below.drew | with_reducible refine Below.alloc ?_ (by simp <;> omega) _))⟩
      · have Hf := Lib.hid (show decide (xs = ys) = true by rw [← hr.out, drop_end l1.out (by omega), drop_end l2.out (by omega)]; rfl)
        go_wp2_with fail
        go_ret
        exact ⟨ret_bool Hf.out.symm, (by repeat (first | with_reducible exact Below.refl _ _ | with_reducible assumption | with_reducible apply below_drewN | with_reducible apply Below.drew | with_reducible refine Below.alloc ?_ (by simp <;> omega) _))⟩
  · have Hf := Lib.hid (show decide (xs = ys) = false by
      have := l1.out; have := l2.out
      simp only [decide_eq_false_iff_not]; intro h; subst h; omega)
    have q1 : ((n1 : Int) != (n2 : Int)) = true := by rw [bne_iff_ne]; omega
    go_enter Try.func82, Try.ntmps82
    go_wp2_with fail
    go_ret
    exact ⟨ret_bool Hf.out.symm, Below.refl _ _⟩

theorem find1_any (w : World) (b : Nat) (x : Elem) (s : ByteArray) (hb : b < w.heap.size) (hc : w.cell? ⟨b, 0, none⟩ = some (.string s)) :
    Calls Try.prog 76 #[x.val, .pointer (some ⟨b, 0, none⟩)] w fun e w' => e = .returned (.bool (decide (x.name = s))) ∧ Below w.heap.size w w' := by
  have Hq := Lib.hid (str_beq x.name s)
  unfold Elem.val
  go_enter Try.func76, Try.ntmps76
  go_wp2_with fail
  go_ret
  exact ⟨ret_bool Hq.out, below_new _ _⟩

set_option maxHeartbeats 400000 in
theorem idxElems (w : World) (a1 : Option Addr) (n1 c1 : Nat) (xs : List Elem) (F : FuncId) (cap : Array Value) (p : Elem → Bool) (h1 : Elems w a1 n1 xs) (hF : Fun F cap Elem.val w p xs) :
    Calls Try.prog 75 #[.slice a1 n1 c1, .func (.func F) #[] cap] w fun e w' => e = .returned (.int .i64 (idxFrom p 0 xs)) ∧ Below w.heap.size w w' := by
  have l1 := Lib.hid h1.len
  have b1 := h1.bnd
  have hrun := hF.run
  go_enter Try.func75, Try.ntmps75
  go_wp2
  go_loopg [8] n1 (fun k i wr => ∃ j : Nat, j + k = n1 ∧ i = .int .i64 j ∧ idxFrom p j (xs.drop j) = idxFrom p 0 xs ∧ Below w.heap.size w wr)
  case atStart => exact ⟨0, by omega, rfl, by simp, Below.refl _ _⟩
  case round =>
    obtain ⟨k, hk, rfl, he, hb⟩ := hrel
    have He := Lib.hid he; clear he
    have Hk := Lib.hid hk; clear hk
    by_cases hlt : k < n1
    · obtain ⟨x, hx⟩ := get_some l1.out hlt
      obtain ⟨p1, o1, rfl, hp1, g1, g2, g3⟩ := h1.elemB hb hx
      have Hx := Lib.hid hx; clear hx
      have hcall := hF.call x (List.mem_of_getElem? Hx.out) wr hb
      have HF := Lib.hid hF; clear hF
      go_wp2_with fail
      refine hcall.mono ?_
      rintro e w' ⟨rfl, hb'⟩
      have hd := drop_cons Hx.out
      cases hp : p x
      · have hp := Lib.hid hp
        have hd := Lib.hid hd
        go_wp2_with fail
        go_roundg (gk - 1)
        case measure => have := Hk.out; omega
        case rel => exact ⟨k + 1, by have := Hk.out; omega, by go_num, by rw [← He.out, hd.out]; simp [idxFrom, hp.out], below_step hb hb' (by have := hb.size; omega)⟩
      · have hp := Lib.hid hp
        have hd := Lib.hid hd
        go_wp2_with fail
        go_ret
        exact ⟨ret_int (by rw [← He.out, hd.out]; simp [idxFrom, hp.out]), below_step hb hb' hb.size⟩
    · go_wp2_with fail
      go_ret
      exact ⟨ret_int (by rw [← He.out, drop_end l1.out (by omega)]; rfl), hb⟩
theorem find_any (w : World) (pv : PV) (p : Plan) (s : ByteArray) (h : PlanAt w pv p) :
    Calls Try.prog 26 #[pv.val p, .string s] w fun e w' => e = .returned (.int .i64 (findName p.elems s)) ∧ Below w.heap.size w w' := by
  obtain ⟨ae, ne, ce, aj, nj, cj, as_, ns, cs, al, nl, cl, lv⟩ := pv
  have he : Elems w ae ne p.elems := h.e
  have hW := Lib.hid (below_new2 w (.cells #[.slice ae ne ce, .slice aj nj cj, .slice as_ ns cs, .slice al nl cl, .int .i64 p.top, .int .i64 p.brake, .int .i64 p.margin, .int .i64 p.throw, .bool p.hard] 32) (.cells #[.string s] 9))
  have H := Lib.hid (idxElems ((w.alloc (.cells #[.slice ae ne ce, .slice aj nj cj, .slice as_ ns cs, .slice al nl cl, .int .i64 p.top, .int .i64 p.brake, .int .i64 p.margin, .int .i64 p.throw, .bool p.hard] 32)).alloc (.cells #[.string s] 9)) ae ne ce p.elems 76 #[.pointer (some ⟨w.heap.size + 1, 0, none⟩)] (fun e => decide (e.name = s)) (he.below hW.out)
    ⟨fun args w => by kernel_rfl, fun x hx w1 hb => find1_any w1 (w.heap.size + 1) x s (by have := hb.size; simp at this; omega) ((hb.cell (p := ⟨w.heap.size + 1, 0, none⟩) (by simp)).trans (by go_simp))⟩)
  clear h he
  dsimp only [PV.val]
  go_enter Try.func26, Try.ntmps26
  go_wp2_with fail
  refine H.out.mono ?_
  rintro e w1 ⟨rfl, hb⟩
  go_wp2_with fail
  go_ret
  exact ⟨rfl, below_step hW.out hb (by simp; omega)⟩

/-! lines -/
def LineV.val (x : LineV) : Value := .agg #[.string x.name, .slice x.a x.n x.c]
theorem same1_any (w : World) (x y : LineV) (hx : Ints w x.a x.n x.elems) (hy : Ints w y.a y.n y.elems) :
    Calls Try.prog 81 #[x.val, y.val] w fun e w' => e = .returned (.bool (decide (x.line = y.line))) ∧ Below w.heap.size w w' := by
  have hsp : decide (x.line = y.line) = (decide (x.name = y.name) && decide (x.elems = y.elems)) := by
    rw [Bool.eq_iff_iff]; simp [LineV.line]
  have Hs := Lib.hid hsp; clear hsp
  have hW := Lib.hid (below_new2 w (.cells #[.string x.name, .slice x.a x.n x.c] 79) (.cells #[.string y.name, .slice y.a y.n y.c] 79))
  have H := Lib.hid (eqInts ((w.alloc (.cells #[.string x.name, .slice x.a x.n x.c] 79)).alloc (.cells #[.string y.name, .slice y.a y.n y.c] 79)) x.a y.a x.n y.n x.c y.c x.elems y.elems (hx.below hW.out) (hy.below hW.out))
  clear hx hy
  unfold LineV.val
  by_cases hn : x.name = y.name
  · have q1 : (x.name.toList == y.name.toList) = true := by rw [str_beq]; simpa using hn
    have Hn := Lib.hid hn; clear hn
    go_enter Try.func81, Try.ntmps81
    go_wp2_with fail
    refine H.out.mono ?_
    rintro e w1 ⟨rfl, hb⟩
    go_wp2_with fail
    go_ret
    exact ⟨ret_bool (by rw [Hs.out]; simp [Hn.out]), below_step hW.out hb (by simp; omega)⟩
  · have q1 : (x.name.toList == y.name.toList) = false := by rw [str_beq]; simpa using hn
    have Hn := Lib.hid hn; clear hn
    go_enter Try.func81, Try.ntmps81
    go_wp2_with fail
    go_ret
    exact ⟨ret_bool (by rw [Hs.out]; simp [Hn.out]), hW.out⟩
theorem lines_eq_step {xs ys : List LineV} {j : Nat} {x y : LineV} (hx : xs.drop j = x :: xs.drop (j + 1)) (hy : ys.drop j = y :: ys.drop (j + 1)) :
    decide ((xs.drop j).map LineV.line = (ys.drop j).map LineV.line) = (decide (x.line = y.line) && decide ((xs.drop (j + 1)).map LineV.line = (ys.drop (j + 1)).map LineV.line)) := by
  rw [hx, hy, Bool.eq_iff_iff]; simp
set_option maxHeartbeats 400000 in
theorem eqLines (w : World) (a1 a2 : Option Addr) (n1 n2 c1 c2 : Nat) (xs ys : List LineV) (h1 : Lines w a1 n1 xs) (h2 : Lines w a2 n2 ys) :
    Calls Try.prog 80 #[.slice a1 n1 c1, .slice a2 n2 c2, .func (.func 81) #[] #[]] w fun e w' => e = .returned (.bool (decide (xs.map LineV.line = ys.map LineV.line))) ∧ Below w.heap.size w w' := by
  have l1 := Lib.hid h1.row.len
  have l2 := Lib.hid h2.row.len
  have b1 := h1.row.bnd
  have b2 := h2.row.bnd
  by_cases hn : n1 = n2
  · subst hn
    go_enter Try.func80, Try.ntmps80
    go_wp2_with fail
    go_loopg [17] n1 (fun k i wr => ∃ (j : Nat), j + k = n1 ∧ i = .int .i64 j ∧ Hid (decide ((xs.drop j).map LineV.line = (ys.drop j).map LineV.line) = decide (xs.map LineV.line = ys.map LineV.line)) ∧ Below w.heap.size w wr)
    case atStart => exact ⟨0, by omega, rfl, rfl, Below.refl _ _⟩
    case round =>
      obtain ⟨j, hk, rfl, hr, hb⟩ := hrel
      have Hk := Lib.hid hk; clear hk
      by_cases hlt : j < n1
      · obtain ⟨x, hx⟩ := get_some l1.out hlt
        obtain ⟨y, hy⟩ := get_some l2.out hlt
        obtain ⟨p1, o1, rfl, hp1, g0, g1⟩ := h1.row.lineB hb hx
        obtain ⟨p2, o2, rfl, hp2, k0, k1⟩ := h2.row.lineB hb hy
        have Hd := Lib.hid (lines_eq_step (drop_cons hx) (drop_cons hy))
        have Hb := Lib.hid hb; clear hb
        have hwz := Hb.out.size
        have hp1' : p1 < wr.heap.size := by omega
        have hp2' : p2 < wr.heap.size := by omega
        have k0' := ((below_new wr (.cells #[.string x.name, .slice x.a x.n x.c] 79)).cell (p := ⟨p2, o2 + j * 2, none⟩) hp2').trans k0
        have k1' := ((below_new wr (.cells #[.string x.name, .slice x.a x.n x.c] 79)).cell (p := ⟨p2, o2 + j * 2 + 1, none⟩) hp2').trans k1
        have hW := Lib.hid (below_new2 wr (.cells #[.string x.name, .slice x.a x.n x.c] 79) (.cells #[.string y.name, .slice y.a y.n y.c] 79))
        have Hs := Lib.hid (below_step Hb.out hW.out Hb.out.size)
        have H := Lib.hid (same1_any _ x y ((h1.ints x (List.mem_of_getElem? hx)).below Hs.out) ((h2.ints y (List.mem_of_getElem? hy)).below Hs.out))
        clear hx hy
        have e0 : ((wr.alloc (.cells #[.string x.name, .slice x.a x.n x.c] 79)).alloc (.cells #[.string y.name, .slice y.a y.n y.c] 79)).cell? ⟨wr.heap.size, 0, none⟩ = some (.string x.name) := by go_simp
        have e1 : ((wr.alloc (.cells #[.string x.name, .slice x.a x.n x.c] 79)).alloc (.cells #[.string y.name, .slice y.a y.n y.c] 79)).cell? ⟨wr.heap.size, 1, none⟩ = some (.slice x.a x.n x.c) := by go_simp
        go_wp2_with fail
        refine H.out.mono ?_
        rintro e w1 ⟨rfl, hb1⟩
        have Hb1 := Lib.hid (below_step Hs.out hb1 Hs.out.size); clear hb1
        cases hxy : decide (x.line = y.line)
        · have Hf := Lib.hid (show decide (xs.map LineV.line = ys.map LineV.line) = false by rw [← hr.out, Hd.out, hxy]; rfl)
          clear hxy
          go_wp2_with fail
          go_ret
          exact ⟨ret_bool Hf.out.symm, Hb1.out⟩
        · have Hf := Lib.hid (show decide ((xs.drop (j + 1)).map LineV.line = (ys.drop (j + 1)).map LineV.line) = decide (xs.map LineV.line = ys.map LineV.line) by rw [← hr.out, Hd.out, hxy]; simp)
          clear hxy
          go_wp2_with fail
          go_roundg (gk - 1)
          case measure => have := Hk.out; omega
          case rel => exact ⟨j + 1, by have := Hk.out; omega, by go_num, Hf.out, Hb1.out⟩
      · have Hf := Lib.hid (show decide (xs.map LineV.line = ys.map LineV.line) = true by rw [← hr.out, drop_end l1.out (by omega), drop_end l2.out (by omega)]; rfl)
        go_wp2_with fail
        go_ret
        exact ⟨ret_bool Hf.out.symm, hb⟩
  · have Hf := Lib.hid (show decide (xs.map LineV.line = ys.map LineV.line) = false by
      have h3 := l1.out; have h4 := l2.out
      simp only [decide_eq_false_iff_not]; intro h
      have := congrArg List.length h
      simp only [List.length_map] at this; omega)
    have q1 : ((n1 : Int) != (n2 : Int)) = true := by rw [bne_iff_ne]; omega
    go_enter Try.func80, Try.ntmps80
    go_wp2_with fail
    go_ret
    exact ⟨ret_bool Hf.out.symm, Below.refl _ _⟩
end Go.Proofs.Ytlndfmflbdkpjaa
