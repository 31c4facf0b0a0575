/- Walks of plan.numbers and semaphoreref6.args. No condition beyond the plan that is read. -/
import Derived.Test.YtcaeglnfflkabaaGreatPlanW2
import Derived.WalkMore
set_option maxRecDepth 1000000
namespace Go.Proofs.YtcaeglnfflkabaaGreat
open Go.RowKit

theorem Row.elemB {w wr : World} {a : Option Addr} {n : Nat} {xs : List Elem} (h : Row 3 encElem w a n xs) (hbw : Below w.heap.size w wr) {i : Nat} {x : Elem} (hx : xs[i]? = some x) :
    ∃ b off, a = some ⟨b, off, none⟩ ∧ b < w.heap.size ∧ wr.cell? ⟨b, off + i * 3, none⟩ = some (.string x.name) ∧ wr.cell? ⟨b, off + i * 3 + 1, none⟩ = some (.int .i64 x.kind) ∧ wr.cell? ⟨b, off + i * 3 + 2, none⟩ = some (.int .i64 x.len) := by
  obtain ⟨b, off, ha, hb, g⟩ := (h.below hbw).elem hx
  obtain ⟨b', off', ha', hb', _⟩ := h.elem hx
  rw [ha] at ha'; cases ha'
  exact ⟨b, off, ha, hb', g⟩
theorem Row.sigB {w wr : World} {a : Option Addr} {n : Nat} {xs : List Sig} (h : Row 4 encSig w a n xs) (hbw : Below w.heap.size w wr) {i : Nat} {x : Sig} (hx : xs[i]? = some x) :
    ∃ b off, a = some ⟨b, off, none⟩ ∧ b < w.heap.size ∧ wr.cell? ⟨b, off + i * 4, none⟩ = some (.string x.name) ∧ wr.cell? ⟨b, off + i * 4 + 1, none⟩ = some (.int .i64 x.at_.e) ∧ wr.cell? ⟨b, off + i * 4 + 2, none⟩ = some (.int .i64 x.at_.n) ∧ wr.cell? ⟨b, off + i * 4 + 3, none⟩ = some (.bool x.auto) := by
  obtain ⟨b, off, ha, hb, g⟩ := (h.below hbw).sig hx
  obtain ⟨b', off', ha', hb', _⟩ := h.sig hx
  rw [ha] at ha'; cases ha'
  exact ⟨b, off, ha, hb', g⟩
theorem Row.lineB {w wr : World} {a : Option Addr} {n : Nat} {xs : List LineV} (h : Row 2 encLine w a n xs) (hbw : Below w.heap.size w wr) {i : Nat} {x : LineV} (hx : xs[i]? = some x) :
    ∃ b off, a = some ⟨b, off, none⟩ ∧ b < w.heap.size ∧ wr.cell? ⟨b, off + i * 2, none⟩ = some (.string x.name) ∧ wr.cell? ⟨b, off + i * 2 + 1, none⟩ = some (.slice x.a x.n x.c) := by
  obtain ⟨b, off, ha, hb, g⟩ := (h.below hbw).line hx
  obtain ⟨b', off', ha', hb', _⟩ := h.line hx
  rw [ha] at ha'; cases ha'
  exact ⟨b, off, ha, hb', g⟩
theorem Row.intB {w wr : World} {a : Option Addr} {n : Nat} {xs : List Int} (h : Row 1 encInt w a n xs) (hbw : Below w.heap.size w wr) {i : Nat} {x : Int} (hx : xs[i]? = some x) :
    ∃ b off, a = some ⟨b, off, none⟩ ∧ b < w.heap.size ∧ wr.cell? ⟨b, off + i, none⟩ = some (.int .i64 x) := by
  obtain ⟨b, off, ha, hb, g⟩ := (h.below hbw).int hx
  obtain ⟨b', off', ha', hb', _⟩ := h.int hx
  rw [ha] at ha'; cases ha'
  exact ⟨b, off, ha, hb', g⟩
theorem below_alloc {w wr : World} (h : Below w.heap.size w wr) (o : Obj) : Below w.heap.size w (wr.alloc o) := h.alloc h.size o
theorem PBox.alloc {w : World} {b : Nat} {v : PV} {p : Plan} (h : PBox w b v p) (o : Obj) : PBox (w.alloc o) b v p := h.below (below_new _ _)
theorem all_step {α : Type} {f : α → Bool} {xs : List α} {j : Nat} {x : α} {r : Bool} (hd : xs.drop j = x :: xs.drop (j + 1)) (hr : (xs.drop j).all f = r) (hx : f x = true) : (xs.drop (j + 1)).all f = r := by
  rw [hd, List.all_cons, hx] at hr; simpa using hr
theorem all_stop {α : Type} {f : α → Bool} {xs : List α} {j : Nat} {x : α} {r : Bool} (hd : xs.drop j = x :: xs.drop (j + 1)) (hr : (xs.drop j).all f = r) (hx : f x = false) : r = false := by
  rw [hd, List.all_cons, hx] at hr; simpa using hr.symm
theorem all_end {α : Type} {f : α → Bool} {xs : List α} {j n : Nat} {r : Bool} (hl : xs.length = n) (hr : (xs.drop j).all f = r) (hj : ¬ j < n) : r = true := by
  rw [drop_end hl (by omega)] at hr; simpa using hr.symm

theorem nums_iff {p : Plan} {n : Nat} (h : p.elems.length = n) : numsOk p = true ↔ 1 ≤ p.top ∧ p.top ≤ 60 ∧ 1 ≤ p.brake ∧ p.brake ≤ 10 ∧ 1 ≤ p.margin ∧ p.margin ≤ 4000 ∧ 1 ≤ p.throw ∧ p.throw ≤ 20 ∧ n ≠ 0 := by
  unfold numsOk; rw [h]; simp [and_assoc]
theorem args_no {p : Plan} (h : ¬ numsOk p = true) : argsOk p = false := by unfold argsOk; simp [h]
theorem args_yes {p : Plan} {lv : List LineV} (h : numsOk p = true) (hl : p.lines = lv.map LineV.line) : argsOk p = (p.elems.all elemOk && (p.sigs.all (fun s => nameOk s.name) && lv.all (fun l => nameOk l.name))) := by
  unfold argsOk; rw [h, hl, List.all_map]; rfl

theorem elem_cases (y : Elem) :
    (elemOk y = false ∧ nameOk y.name = false) ∨
    (elemOk y = false ∧ nameOk y.name = true ∧ (ends y.kind == 0) = true) ∨
    (elemOk y = false ∧ nameOk y.name = true ∧ (ends y.kind == 0) = false ∧ (y.kind == 4) = true ∧ (y.kind != 4) = false ∧ (y.len == 0) = false ∧ (y.len != 0) = true) ∨
    (elemOk y = true ∧ nameOk y.name = true ∧ (ends y.kind == 0) = false ∧ (y.kind == 4) = true ∧ (y.kind != 4) = false ∧ (y.len == 0) = true ∧ (y.len != 0) = false) ∨
    (elemOk y = false ∧ nameOk y.name = true ∧ (ends y.kind == 0) = false ∧ (y.kind == 4) = false ∧ (y.kind != 4) = true ∧ y.len < 1 ∧ True) ∨
    (elemOk y = false ∧ nameOk y.name = true ∧ (ends y.kind == 0) = false ∧ (y.kind == 4) = false ∧ (y.kind != 4) = true ∧ 1 ≤ y.len ∧ 4000 < y.len) ∨
    (elemOk y = true ∧ nameOk y.name = true ∧ (ends y.kind == 0) = false ∧ (y.kind == 4) = false ∧ (y.kind != 4) = true ∧ 1 ≤ y.len ∧ y.len ≤ 4000) := by
  unfold elemOk
  cases nameOk y.name
  · left; simp
  right
  by_cases h0 : ends y.kind = 0
  · left; simp [h0]
  right
  by_cases h4 : y.kind = 4
  · have e4 : ends 4 ≠ 0 := by decide
    by_cases hl : y.len = 0
    · right; left; simp [h4, hl, e4]
    · left; simp [h4, hl, e4]
  · right; right
    by_cases l1 : y.len < 1
    · left; simp [h0, h4, l1]; omega
    · right
      by_cases l2 : 4000 < y.len
      · left; simp [h0, h4, l2]; omega
      · right; simp [h0, h4]; omega

set_option maxHeartbeats 2000000 in
theorem numbers_any (w : World) (pv : PV) (p : Plan) (h : PlanAt w pv p) :
    Calls Tryz.prog 46 #[pv.val p] w fun e w' => e = .returned (.bool (argsOk p)) ∧ Below w.heap.size w w' := by
  obtain ⟨ae, ne, ce, aj, nj, cj, as_, ns, cs, al, nl, cl, lv⟩ := pv
  have he : Elems w ae ne p.elems := h.e
  have hs : Sigs w as_ ns p.sigs := h.s
  have hl : Lines w al nl lv := h.l
  have hfit := Lib.hid h.fit
  have HL := Lib.hid h.lp
  have le := Lib.hid he.len
  have ls := Lib.hid hs.len
  have ll := Lib.hid hl.row.len
  have be := he.bnd
  have bs := hs.bnd
  have bl := hl.row.bnd
  have hW : Below w.heap.size w (w.alloc (.cells #[.slice ae ne ce, .slice aj nj cj, .slice as_ ns cs, .slice al nl cl, .int .i64 p.top, .int .i64 p.brake, .int .i64 p.margin, .int .i64 p.throw, .bool p.hard] 27)) := below_new _ _
  have HB := Lib.hid (pbox_new w ⟨ae, ne, ce, aj, nj, cj, as_, ns, cs, al, nl, cl, lv⟩ p)
  clear h
  dsimp only [PV.val]
  by_cases hn : numsOk p = true
  · have Hs := Lib.hid (args_yes hn HL.out)
    obtain ⟨n1, n2, n3, n4, n5, n6, n7, n8, n9⟩ := (nums_iff le.out).1 hn
    have n9' : ((ne : Int) == 0) = false := by simp; omega
    clear hn
    go_enter Tryz.func46, Tryz.ntmps46
    go_wp2_with fail
    go_step3
    go_wp2_with fail
    go_step3
    go_wp2_with fail
    clear n1 n2 n3 n4 n5 n6 n7 n8 n9 n9'
    go_loopg [56] ne (fun k i wr => ∃ (j : Nat), j + k = ne ∧ i = .int .i64 j ∧ Hid ((p.elems.drop j).all elemOk = p.elems.all elemOk) ∧ PBox wr w.heap.size ⟨ae, ne, ce, aj, nj, cj, as_, ns, cs, al, nl, cl, lv⟩ p ∧ Below w.heap.size w wr)
    case atStart => exact ⟨0, by omega, rfl, rfl, HB.out, hW⟩
    case round =>
      clear hW HB
      obtain ⟨j, hk, rfl, hr, hB, hb⟩ := hrel
      have Hk := Lib.hid hk; clear hk
      have HB := Lib.hid hB
      obtain ⟨_, c0, _, c2, c3, _⟩ := hB
      by_cases hlt : j < ne
      · obtain ⟨y, hy⟩ := get_some le.out hlt
        obtain ⟨pb, off, rfl, hpb, g1, g2, g3⟩ := he.elemB hb hy
        have Hd := Lib.hid (drop_cons hy)
        have hf := hfit.out.e y (List.mem_of_getElem? hy)
        have hy3 := hf.2.2
        clear hf hy
        have Hb := Lib.hid hb; clear hb
        rcases elem_cases y with ⟨hok, f1⟩ | ⟨hok, f1, f2⟩ | ⟨hok, f1, f2, f3, f4, f5, f6⟩ | ⟨hok, f1, f2, f3, f4, f5, f6⟩ | ⟨hok, f1, f2, f3, f4, f5, f6⟩ | ⟨hok, f1, f2, f3, f4, f5, f6⟩ | ⟨hok, f1, f2, f3, f4, f5, f6⟩
        all_goals
          have Hok := Lib.hid hok
          clear hok
          go_wp2_with (first | (go_at_call 106; refine (name_any _ _ hy3).mono ?_; rintro e w' ⟨rfl, rfl⟩) | (go_at_call 111; refine (ends_any _ _).mono ?_; rintro e w' ⟨rfl, rfl⟩))
        all_goals first
          | (rw [Exit.noGoto_ret]
             go_ret
             exact ⟨ret_bool (by rw [Hs.out, all_stop Hd.out hr.out Hok.out]; rfl), below_alloc Hb.out _⟩)
          | (go_ret
             exact ⟨ret_bool (by rw [Hs.out, all_stop Hd.out hr.out Hok.out]; rfl), below_alloc Hb.out _⟩)
          | (go_roundg (gk - 1)
             case measure => have := Hk.out; omega
             case rel => exact ⟨j + 1, by have := Hk.out; omega, by go_num, all_step Hd.out hr.out Hok.out, HB.out.alloc _, below_alloc Hb.out _⟩)
      · have Hs2 := Lib.hid (show argsOk p = (p.sigs.all (fun s => nameOk s.name) && lv.all (fun l => nameOk l.name)) by rw [Hs.out, all_end le.out hr.out hlt]; rfl)
        clear hr
        go_wp2_with fail
        go_loopg [91] ns (fun k i wr => ∃ (j : Nat), j + k = ns ∧ i = .int .i64 j ∧ Hid ((p.sigs.drop j).all (fun s => nameOk s.name) = p.sigs.all (fun s => nameOk s.name)) ∧ PBox wr w.heap.size ⟨ae, ne, ce, aj, nj, cj, as_, ns, cs, al, nl, cl, lv⟩ p ∧ Below w.heap.size w wr)
        case atStart => exact ⟨0, by omega, rfl, rfl, HB.out, hb⟩
        case round =>
          clear hb HB hlt c0 c2 c3
          obtain ⟨j, hk, rfl, hr, hB, hb⟩ := hrel
          have Hk := Lib.hid hk; clear hk
          have HB := Lib.hid hB
          obtain ⟨_, c0, _, c2, c3, _⟩ := hB
          by_cases hlt : j < ns
          · obtain ⟨y, hy⟩ := get_some ls.out hlt
            obtain ⟨pb, off, rfl, hpb, g1, g2, g3, g4⟩ := hs.sigB hb hy
            have Hd := Lib.hid (drop_cons hy)
            have hy3 := (hfit.out.s y (List.mem_of_getElem? hy)).2
            clear hy
            have Hb := Lib.hid hb; clear hb
            cases hok : nameOk y.name
            all_goals go_wp2_with (go_at_call 106; refine (name_any _ _ hy3).mono ?_; rintro e w' ⟨rfl, rfl⟩)
            · rw [Exit.noGoto_ret]
              go_ret
              exact ⟨ret_bool (by rw [Hs2.out, all_stop Hd.out hr.out hok]; rfl), below_alloc Hb.out _⟩
            · go_roundg (gk - 1)
              case measure => have := Hk.out; omega
              case rel => exact ⟨j + 1, by have := Hk.out; omega, by go_num, all_step Hd.out hr.out hok, HB.out.alloc _, below_alloc Hb.out _⟩
          · have Hs3 := Lib.hid (show argsOk p = (lv.all (fun l => nameOk l.name)) by rw [Hs2.out, all_end ls.out hr.out hlt]; rfl)
            clear hr
            go_wp2_with fail
            go_loopg [103] nl (fun k i wr => ∃ (j : Nat), j + k = nl ∧ i = .int .i64 j ∧ Hid ((lv.drop j).all (fun s => nameOk s.name) = lv.all (fun s => nameOk s.name)) ∧ Below w.heap.size w wr)
            case atStart => exact ⟨0, by omega, rfl, rfl, hb⟩
            case round =>
              clear hb HB hlt c0 c2 c3
              obtain ⟨j, hk, rfl, hr, hb⟩ := hrel
              have Hk := Lib.hid hk; clear hk
              by_cases hlt : j < nl
              · obtain ⟨y, hy⟩ := get_some ll.out hlt
                obtain ⟨pb, off, rfl, hpb, g1, g2⟩ := hl.row.lineB hb hy
                have Hd := Lib.hid (drop_cons hy)
                have hy3 : y.name.size ≤ 9223372036854775807 := (hfit.out.l y.line (by rw [HL.out]; exact List.mem_map.2 ⟨y, List.mem_of_getElem? hy, rfl⟩)).2
                clear hy
                have Hb := Lib.hid hb; clear hb
                cases hok : nameOk y.name
                all_goals go_wp2_with (go_at_call 106; refine (name_any _ _ hy3).mono ?_; rintro e w' ⟨rfl, rfl⟩)
                · rw [Exit.noGoto_ret]
                  go_ret
                  exact ⟨ret_bool (by rw [Hs3.out, all_stop Hd.out hr.out hok]), below_alloc Hb.out _⟩
                · go_roundg (gk - 1)
                  case measure => have := Hk.out; omega
                  case rel => exact ⟨j + 1, by have := Hk.out; omega, by go_num, all_step Hd.out hr.out hok, below_alloc Hb.out _⟩
              · have Hs4 := Lib.hid (show argsOk p = true by rw [Hs3.out, all_end ll.out hr.out hlt])
                clear hr
                go_wp2_with fail
                rw [Exit.noGoto_ret]
                go_ret
                exact ⟨ret_bool Hs4.out.symm, hb⟩
  · have Hs := Lib.hid (args_no hn)
    have Hn := Lib.hid ((not_congr (nums_iff le.out)).1 hn)
    clear hn
    go_enter Tryz.func46, Tryz.ntmps46
    go_wp2_with fail
    go_step3
    go_wp2_with fail
    all_goals first
      | (rw [Exit.noGoto_ret]
         go_ret
         exact ⟨ret_bool Hs.out.symm, hW⟩)
      | (go_ret
         exact ⟨ret_bool Hs.out.symm, hW⟩)
      | (exfalso
         have := Hn.out
         simp only [beq_eq_false_iff_ne, ne_eq] at *
         omega)
set_option maxHeartbeats 2000000 in
theorem args_any (w : World) (pv : PV) (p : Plan) (h : PlanAt w pv p) :
    Calls Tryz.prog 63 #[pv.val p] w fun e w' => e = .returned (.bool (argsOk p)) ∧ Below w.heap.size w w' := by
  obtain ⟨ae, ne, ce, aj, nj, cj, as_, ns, cs, al, nl, cl, lv⟩ := pv
  have he : Elems w ae ne p.elems := h.e
  have hs : Sigs w as_ ns p.sigs := h.s
  have hl : Lines w al nl lv := h.l
  have hfit := Lib.hid h.fit
  have HL := Lib.hid h.lp
  have le := Lib.hid he.len
  have ls := Lib.hid hs.len
  have ll := Lib.hid hl.row.len
  have be := he.bnd
  have bs := hs.bnd
  have bl := hl.row.bnd
  have hW : Below w.heap.size w (w.alloc (.cells #[.slice ae ne ce, .slice aj nj cj, .slice as_ ns cs, .slice al nl cl, .int .i64 p.top, .int .i64 p.brake, .int .i64 p.margin, .int .i64 p.throw, .bool p.hard] 27)) := below_new _ _
  have HB := Lib.hid (pbox_new w ⟨ae, ne, ce, aj, nj, cj, as_, ns, cs, al, nl, cl, lv⟩ p)
  clear h
  dsimp only [PV.val]
  by_cases hn : numsOk p = true
  · have Hs := Lib.hid (args_yes hn HL.out)
    obtain ⟨n1, n2, n3, n4, n5, n6, n7, n8, n9⟩ := (nums_iff le.out).1 hn
    have n9' : ((ne : Int) == 0) = false := by simp; omega
    clear hn
    go_enter Tryz.func63, Tryz.ntmps63
    go_wp2_with (go_at_call 115; refine (within_any _ _ _ _).mono ?_; rintro e w' ⟨rfl, rfl⟩)
    clear n1 n2 n3 n4 n5 n6 n7 n8 n9 n9'
    go_loopg [3] ne (fun k i wr => ∃ (j : Nat), j + k = ne ∧ i = .int .i64 j ∧ Hid ((p.elems.drop j).all elemOk = p.elems.all elemOk) ∧ PBox wr w.heap.size ⟨ae, ne, ce, aj, nj, cj, as_, ns, cs, al, nl, cl, lv⟩ p ∧ Below w.heap.size w wr)
    case atStart => exact ⟨0, by omega, rfl, rfl, HB.out, hW⟩
    case round =>
      clear hW HB
      obtain ⟨j, hk, rfl, hr, hB, hb⟩ := hrel
      have Hk := Lib.hid hk; clear hk
      have HB := Lib.hid hB
      obtain ⟨_, c0, _, c2, c3, _⟩ := hB
      by_cases hlt : j < ne
      · obtain ⟨y, hy⟩ := get_some le.out hlt
        obtain ⟨pb, off, rfl, hpb, g1, g2, g3⟩ := he.elemB hb hy
        have Hd := Lib.hid (drop_cons hy)
        have hf := hfit.out.e y (List.mem_of_getElem? hy)
        have hy3 := hf.2.2
        clear hf hy
        have Hb := Lib.hid hb; clear hb
        rcases elem_cases y with ⟨hok, f1⟩ | ⟨hok, f1, f2⟩ | ⟨hok, f1, f2, f3, f4, f5, f6⟩ | ⟨hok, f1, f2, f3, f4, f5, f6⟩ | ⟨hok, f1, f2, f3, f4, f5, f6⟩ | ⟨hok, f1, f2, f3, f4, f5, f6⟩ | ⟨hok, f1, f2, f3, f4, f5, f6⟩
        all_goals
          have Hok := Lib.hid hok
          clear hok
          first
            | (have f7 : (decide (1 ≤ y.len) && decide (y.len ≤ 4000)) = false := by (simp; omega))
            | (have f7 : (decide (1 ≤ y.len) && decide (y.len ≤ 4000)) = true := by (simp; omega))
            | skip
          go_wp2_with (first | (go_at_call 116; refine (refname_any _ _ hy3).mono ?_; rintro e w' ⟨rfl, rfl⟩) | (go_at_call 117; refine (refends_any _ _).mono ?_; rintro e w' ⟨rfl, rfl⟩) | (go_at_call 115; refine (within_any _ _ _ _).mono ?_; rintro e w' ⟨rfl, rfl⟩))
        all_goals first
          | (rw [Exit.noGoto_ret]
             go_ret
             exact ⟨ret_bool (by rw [Hs.out, all_stop Hd.out hr.out Hok.out]; rfl), below_alloc Hb.out _⟩)
          | (go_ret
             exact ⟨ret_bool (by rw [Hs.out, all_stop Hd.out hr.out Hok.out]; rfl), below_alloc Hb.out _⟩)
          | (go_roundg (gk - 1)
             case measure => have := Hk.out; omega
             case rel => exact ⟨j + 1, by have := Hk.out; omega, by go_num, all_step Hd.out hr.out Hok.out, HB.out.alloc _, below_alloc Hb.out _⟩)
          | (exfalso
             simp only [Bool.not_eq_false', decide_eq_true_eq] at *
             omega)
      · have Hs2 := Lib.hid (show argsOk p = (p.sigs.all (fun s => nameOk s.name) && lv.all (fun l => nameOk l.name)) by rw [Hs.out, all_end le.out hr.out hlt]; rfl)
        clear hr
        go_wp2_with fail
        go_loopg [5] ns (fun k i wr => ∃ (j : Nat), j + k = ns ∧ i = .int .i64 j ∧ Hid ((p.sigs.drop j).all (fun s => nameOk s.name) = p.sigs.all (fun s => nameOk s.name)) ∧ PBox wr w.heap.size ⟨ae, ne, ce, aj, nj, cj, as_, ns, cs, al, nl, cl, lv⟩ p ∧ Below w.heap.size w wr)
        case atStart => exact ⟨0, by omega, rfl, rfl, HB.out, hb⟩
        case round =>
          clear hb HB hlt c0 c2 c3
          obtain ⟨j, hk, rfl, hr, hB, hb⟩ := hrel
          have Hk := Lib.hid hk; clear hk
          have HB := Lib.hid hB
          obtain ⟨_, c0, _, c2, c3, _⟩ := hB
          by_cases hlt : j < ns
          · obtain ⟨y, hy⟩ := get_some ls.out hlt
            obtain ⟨pb, off, rfl, hpb, g1, g2, g3, g4⟩ := hs.sigB hb hy
            have Hd := Lib.hid (drop_cons hy)
            have hy3 := (hfit.out.s y (List.mem_of_getElem? hy)).2
            clear hy
            have Hb := Lib.hid hb; clear hb
            cases hok : nameOk y.name
            all_goals go_wp2_with (go_at_call 116; refine (refname_any _ _ hy3).mono ?_; rintro e w' ⟨rfl, rfl⟩)
            · go_ret
              exact ⟨ret_bool (by rw [Hs2.out, all_stop Hd.out hr.out hok]; rfl), Hb.out⟩
            · go_roundg (gk - 1)
              case measure => have := Hk.out; omega
              case rel => exact ⟨j + 1, by have := Hk.out; omega, by go_num, all_step Hd.out hr.out hok, HB.out, Hb.out⟩
          · have Hs3 := Lib.hid (show argsOk p = (lv.all (fun l => nameOk l.name)) by rw [Hs2.out, all_end ls.out hr.out hlt]; rfl)
            clear hr
            go_wp2_with fail
            go_loopg [6] nl (fun k i wr => ∃ (j : Nat), j + k = nl ∧ i = .int .i64 j ∧ Hid ((lv.drop j).all (fun s => nameOk s.name) = lv.all (fun s => nameOk s.name)) ∧ PBox wr w.heap.size ⟨ae, ne, ce, aj, nj, cj, as_, ns, cs, al, nl, cl, lv⟩ p ∧ Below w.heap.size w wr)
            case atStart => exact ⟨0, by omega, rfl, rfl, HB.out, hb⟩
            case round =>
              clear hb HB hlt c0 c2 c3
              obtain ⟨j, hk, rfl, hr, hB, hb⟩ := hrel
              have Hk := Lib.hid hk; clear hk
              have HB := Lib.hid hB
              obtain ⟨_, c0, _, c2, c3, _⟩ := hB
              by_cases hlt : j < nl
              · obtain ⟨y, hy⟩ := get_some ll.out hlt
                obtain ⟨pb, off, rfl, hpb, g1, g2⟩ := hl.row.lineB hb hy
                have Hd := Lib.hid (drop_cons hy)
                have hy3 : y.name.size ≤ 9223372036854775807 := (hfit.out.l y.line (by rw [HL.out]; exact List.mem_map.2 ⟨y, List.mem_of_getElem? hy, rfl⟩)).2
                clear hy
                have Hb := Lib.hid hb; clear hb
                cases hok : nameOk y.name
                all_goals go_wp2_with (go_at_call 116; refine (refname_any _ _ hy3).mono ?_; rintro e w' ⟨rfl, rfl⟩)
                · go_ret
                  exact ⟨ret_bool (by rw [Hs3.out, all_stop Hd.out hr.out hok]), Hb.out⟩
                · go_roundg (gk - 1)
                  case measure => have := Hk.out; omega
                  case rel => exact ⟨j + 1, by have := Hk.out; omega, by go_num, all_step Hd.out hr.out hok, HB.out, Hb.out⟩
              · have Hs4 := Lib.hid (show argsOk p = true by rw [Hs3.out, all_end ll.out hr.out hlt])
                clear hr
                go_wp2_with fail
                go_ret
                exact ⟨ret_bool Hs4.out.symm, hb⟩
  · have Hs := Lib.hid (args_no hn)
    have Hn := Lib.hid ((not_congr (nums_iff le.out)).1 hn)
    clear hn
    go_enter Tryz.func63, Tryz.ntmps63
    go_wp2_with (go_at_call 115; refine (within_any _ _ _ _).mono ?_; rintro e w' ⟨rfl, rfl⟩)
    all_goals first
      | (rw [Exit.noGoto_ret]
         go_ret
         exact ⟨ret_bool Hs.out.symm, hW⟩)
      | (go_ret
         exact ⟨ret_bool Hs.out.symm, hW⟩)
      | (exfalso
         have := Hn.out
         simp only [beq_eq_false_iff_ne, ne_eq] at *
         omega)
end Go.Proofs.YtcaeglnfflkabaaGreat

/- Walks of plan.twice over its closures and of semaphoreref6.twice, names. No condition beyond what is read. -/
set_option maxRecDepth 1000000
namespace Go.Proofs.YtcaeglnfflkabaaGreat
open Go.RowKit

/-- a function value whose calls answer the names of a list, one by one -/
structure Names (F : FuncId) (cap : Array Value) (w0 : World) (l : List ByteArray) : Prop where
  run : ∀ args w, (callFunc F args).run Tryz.prog w = .ok (.enter F args) w
  call : ∀ (i : Nat) (s : ByteArray), l[i]? = some s → ∀ w, Below w0.heap.size w0 w → Calls Tryz.prog F (#[.int .i64 i] ++ cap) w fun e w' => e = .returned (.string s) ∧ Below w.heap.size w w'
theorem zero_bool (w : World) : (zeroValue 4).run Tryz.prog w = .ok (.bool false) w := by kernel_rfl
def memB {α : Type} [DecidableEq α] (x : α) (l : List α) : Bool := decide (x ∈ l)
def seenIn {α : Type} [DecidableEq α] (l : List α) (s : α) : Option Bool := if memB s l then some true else none
theorem memB_iff {α : Type} [DecidableEq α] {x : α} {l : List α} : memB x l = true ↔ x ∈ l := by unfold memB; simp
theorem seen_key {α : Type} [DecidableEq α] (l : List α) (s : α) : seenIn (l ++ [s]) s = some true := by unfold seenIn; rw [if_pos (memB_iff.2 (by simp))]
theorem seen_other {α : Type} [DecidableEq α] (l : List α) {s z : α} (h : z ≠ s) : seenIn (l ++ [s]) z = seenIn l z := by
  unfold seenIn
  have : memB z (l ++ [s]) = memB z l := by rw [Bool.eq_iff_iff, memB_iff, memB_iff]; simp [h]
  rw [this]
theorem seen_yes {α : Type} [DecidableEq α] {l : List α} {s : α} (h : s ∈ l) : seenIn l s = some true := by unfold seenIn; rw [if_pos (memB_iff.2 h)]
theorem seen_no {α : Type} [DecidableEq α] {l : List α} {s : α} (h : s ∉ l) : seenIn l s = none := by unfold seenIn; rw [if_neg (fun e => h (memB_iff.1 e))]
theorem dup_hit {α : Type} [DecidableEq α] {l : List α} {j : Nat} {s : α} (hs : l[j]? = some s) (hr : dupGo (l.take j) (l.drop j) = dup l) (hm : s ∈ l.take j) : dup l = true := by
  rw [← hr, drop_cons hs, dupGo]; simp [hm]
theorem dup_next {α : Type} [DecidableEq α] {l : List α} {j : Nat} {s : α} (hs : l[j]? = some s) (hr : dupGo (l.take j) (l.drop j) = dup l) (hm : s ∉ l.take j) : dupGo (l.take (j + 1)) (l.drop (j + 1)) = dup l := by
  rw [drop_cons hs, dupGo] at hr
  rw [List.take_add_one, hs]
  simpa [hm] using hr
theorem dup_end {α : Type} [DecidableEq α] {l : List α} {j : Nat} (hr : dupGo (l.take j) (l.drop j) = dup l) (hj : l.length ≤ j) : dup l = false := by
  rw [← hr, List.drop_eq_nil_of_le hj]; rfl
theorem take_next {α : Type} {l : List α} {j : Nat} {s : α} (hs : l[j]? = some s) : l.take (j + 1) = l.take j ++ [s] := by rw [List.take_add_one, hs]; rfl

set_option maxHeartbeats 1000000 in
theorem twice_any (w : World) (F : FuncId) (cap : Array Value) (l : List ByteArray) (hF : Names F cap w l) (hn : l.length ≤ 1000) (hfit : ∀ s ∈ l, s.size ≤ 9223372036854775807) :
    Calls Tryz.prog 47 #[.int .i64 l.length, .func (.func F) #[] cap] w fun e w' => e = .returned (.bool (dup l)) ∧ Below w.heap.size w w' := by
  have hrun := hF.run
  have HF := Lib.hid hF; clear hF
  have Hfit := Lib.hid hfit; clear hfit
  have Hm := Lib.hid (MapOf.made strCode Value.bool w 9)
  have hmm := @run_makeMap Tryz.prog
  go_enter Tryz.func47, Tryz.ntmps47
  go_wp2_with fail
  clear hmm
  go_loopg [9] l.length (fun k i wr => ∃ (j : Nat), j + k = l.length ∧ i = .int .i64 j ∧ Hid (dupGo (l.take j) (l.drop j) = dup l) ∧ MapOf strCode Value.bool wr 9 w.heap.size j (seenIn (l.take j)) ∧ Below w.heap.size w wr)
  case atStart => exact ⟨0, by omega, rfl, rfl, Hm.out, below_new _ _⟩
  case round =>
    obtain ⟨j, hk, rfl, hr, hm, hb⟩ := hrel
    have Hk := Lib.hid hk; clear hk
    have Hmm := Lib.hid hm; clear hm
    have hz := hb.size
    have hml := Hmm.out.lt
    have Hb := Lib.hid hb; clear hb
    by_cases hlt : j < l.length
    · obtain ⟨s, hs⟩ : ∃ s, l[j]? = some s := ⟨_, List.getElem?_eq_getElem hlt⟩
      have Hs := Lib.hid hs
      have hsz := Hfit.out s (List.mem_of_getElem? hs)
      clear hs
      have H1 := Lib.hid (HF.out.call j s Hs.out)
      go_wp2_with fail
      refine (H1.out wr Hb.out).mono ?_
      rintro e w1 ⟨rfl, hb1⟩
      have Hb1 := Lib.hid hb1; clear hb1
      by_cases hmem : s ∈ l.take j
      · have hl := (Hmm.out.below Hb1.out hml).look_hit (seen_yes hmem) keyed_str Tryz.underlying208 zero_bool (key_str hsz)
        have Hd := Lib.hid (dup_hit Hs.out hr.out hmem)
        clear hmem
        go_wp2_with (at_lookup; refine wpList_look _ rfl _ _ _ _ rfl rfl rfl hl.1 ?_)
        go_ret
        exact ⟨ret_bool Hd.out.symm, below_step Hb.out Hb1.out Hb.out.size⟩
      · have hl := (Hmm.out.below Hb1.out hml).look_miss (seen_no hmem) keyed_str Tryz.underlying208 zero_bool (key_str hsz)
        have Hd := Lib.hid (dup_next Hs.out hr.out hmem)
        clear hmem
        go_wp2_with (at_lookup; refine wpList_look _ rfl _ _ _ _ rfl rfl rfl hl.1 ?_)
        refine (H1.out w1 (below_step Hb.out Hb1.out Hb.out.size)).mono ?_
        rintro e w2 ⟨rfl, hb2⟩
        have Hb2 := Lib.hid hb2; clear hb2 hl
        have hz1 := Hb1.out.size
        have Hst := Lib.hid (((Hmm.out.below Hb1.out hml).below Hb2.out (by omega)).store (t := 208) (e := 4) (x := s) (y := true) (seenIn (l.take (j + 1))) (by rw [take_next Hs.out]; exact seen_key _ _) (fun z hz => by rw [take_next Hs.out]; exact seen_other _ hz) (by unfold maxLen; omega) keyed_str Tryz.underlying208 (key_str hsz))
        go_wp2_with (at_mapUpdate; refine wpList_put _ rfl _ _ _ _ rfl rfl rfl rfl Hst.out ?_; rintro w3 ⟨hm3, hg3⟩)
        have hb3 : Below w.heap.size w w3 := (below_step (below_step Hb.out Hb1.out Hb.out.size) Hb2.out (by omega)).grown hg3 (by have := Hb2.out.size; omega) (by intro k hk; simp only [Option.some.injEq] at hk; omega)
        go_roundg (gk - 1)
        case measure => have := Hk.out; omega
        case rel => exact ⟨j + 1, by have := Hk.out; omega, by go_num, Hd.out, hm3, hb3⟩
    · go_wp2_with fail
      go_ret
      exact ⟨ret_bool (dup_end hr.out (by omega)).symm, Hb.out⟩
end Go.Proofs.YtcaeglnfflkabaaGreat
