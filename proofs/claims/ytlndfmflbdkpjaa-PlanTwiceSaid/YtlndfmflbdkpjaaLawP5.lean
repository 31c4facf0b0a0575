/- PlanTwice: for every input the law returns true. No condition. -/
import Derived.Test.YtlndfmflbdkpjaaLawK2
import Derived.Test.YtlndfmflbdkpjaaCopy
import Derived.Deep.RegionHeld3
import Derived.StillTailTactics
set_option maxRecDepth 1000000
namespace Go.Proofs.Ytlndfmflbdkpjaa
open Go.ChangeShapes Go.WideShapes Go.ChangeAt Go.RowKit Go.Sort

theorem fit_rename {l : List Elem} (h : ∀ x ∈ l, inI x.kind ∧ inI x.len ∧ x.name.size ≤ 9223372036854775807) {a d : Nat} {x y : Elem} (hx : l[a]? = some x) (hy : l[d]? = some y) :
    ∀ z ∈ l.set a (rename x y.name), inI z.kind ∧ inI z.len ∧ z.name.size ≤ 9223372036854775807 := by
  intro z hz
  rcases List.mem_or_eq_of_mem_set hz with h1 | h1
  · exact h z h1
  · subst h1
    exact ⟨(h x (List.mem_of_getElem? hx)).1, (h x (List.mem_of_getElem? hx)).2.1, (h y (List.mem_of_getElem? hy)).2.2⟩
theorem fit_resign {l : List Sig} (h : ∀ x ∈ l, x.at_.wf ∧ x.name.size ≤ 9223372036854775807) {a d : Nat} {x y : Sig} (hx : l[a]? = some x) (hy : l[d]? = some y) :
    ∀ z ∈ l.set a (resign x y.name), z.at_.wf ∧ z.name.size ≤ 9223372036854775807 := by
  intro z hz
  rcases List.mem_or_eq_of_mem_set hz with h1 | h1
  · exact h z h1
  · subst h1
    exact ⟨(h x (List.mem_of_getElem? hx)).1, (h y (List.mem_of_getElem? hy)).2⟩

theorem fit_snoc {l : List Join} (h : ∀ x ∈ l, x.a.wf ∧ x.b.wf) {t : Nat} {z : Join} (hz : l[t]? = some z) : ∀ x ∈ l ++ [z], x.a.wf ∧ x.b.wf := by
  intro x hx
  rcases List.mem_append.1 hx with h1 | h1
  · exact h x h1
  · simp only [List.mem_singleton] at h1; subst h1; exact h x (List.mem_of_getElem? hz)

set_option maxHeartbeats 4000000 in
theorem lawTwice_any (w : World) (pv : PV) (p : Plan) (i k : Int) (i0 : 0 ≤ i) (i1 : i ≤ 255) (k0 : 0 ≤ k) (k1 : k ≤ 255) (h : PlanAt w pv p) :
    Calls Try.prog 8 #[pv.val p, .int .u8 i, .int .u8 k] w fun e w' => e = .returned (.bool true) ∧ Below w.heap.size w w' := by
  obtain ⟨ae, ne, ce, aj, nj, cj, as_, ns, cs, al, nl, cl, lv⟩ := pv
  have hP := Lib.hid h
  have HBa := Lib.hid (pbox_new w ⟨ae, ne, ce, aj, nj, cj, as_, ns, cs, al, nl, cl, lv⟩ p)
  have Hba := Lib.hid (below_new w (.cells #[.slice ae ne ce, .slice aj nj cj, .slice as_ ns cs, .slice al nl cl, .int .i64 p.top, .int .i64 p.brake, .int .i64 p.margin, .int .i64 p.throw, .bool p.hard] 32))
  have K := Lib.hid (known2_any (w.alloc (.cells #[.slice ae ne ce, .slice aj nj cj, .slice as_ ns cs, .slice al nl cl, .int .i64 p.top, .int .i64 p.brake, .int .i64 p.margin, .int .i64 p.throw, .bool p.hard] 32)))
  clear h
  dsimp only [PV.val]
  go_enter Try.func8, Try.ntmps8
  go_wp2_with fail
  refine K.out.mono ?_
  rintro e w1 ⟨rfl, hbx⟩
  have HB1 := Lib.hid (HBa.out.below hbx)
  have Hb1 := Lib.hid (below_step Hba.out hbx Hba.out.size)
  clear hbx K
  obtain ⟨_, c0, c1, c2, c3, c4, c5, c6, c7, c8⟩ := HB1.out
  dsimp only at c0 c1 c2 c3
  go_wp2_with fail
  refine (fine_l (hP.out.below Hb1.out)).mono ?_
  rintro e w2 ⟨b, rfl, hfine, hbx⟩
  have HB2 := Lib.hid (HB1.out.below hbx)
  have Hb2 := Lib.hid (below_step Hb1.out hbx Hb1.out.size)
  clear hbx c0 c1 c2 c3 c4 c5 c6 c7 c8
  obtain ⟨_, c0, c1, c2, c3, c4, c5, c6, c7, c8⟩ := HB2.out
  dsimp only at c0 c1 c2 c3
  cases b
  · clear hfine
    go_wp2_with fail
    go_ret
    exact ⟨rfl, Hb2.out⟩
  obtain ⟨hfew, hc⟩ := hfine rfl
  have Hfew := Lib.hid hfew
  have Hc := Lib.hid hc
  have Hn2 := Lib.hid (show ∀ x ∈ lv, x.n ≤ 1000 from fun x hx => by have := hfew.2.2.2.2 x hx; omega)
  clear hfine hfew hc
  have hsz := chk_sizes Hc.out
  rw [hP.out.e.len, hP.out.j.len, hP.out.s.len] at hsz
  obtain ⟨hne, hne40, hnj80, hns24⟩ := hsz
  dsimp only at hne hne40 hnj80 hns24
  obtain ⟨a, ha⟩ : ∃ a : Nat, Int.tmod i (ne : Int) = (a : Int) := ⟨(Int.tmod i ne).toNat, by have := Int.tmod_nonneg (ne : Int) i0; omega⟩
  obtain ⟨d, hd⟩ : ∃ d : Nat, Int.tmod k (ne : Int) = (d : Int) := ⟨(Int.tmod k ne).toNat, by have := Int.tmod_nonneg (ne : Int) k0; omega⟩
  have han : a < ne := by have := Int.tmod_lt_of_pos i (show (0 : Int) < ne by omega); omega
  have hdn : d < ne := by have := Int.tmod_lt_of_pos k (show (0 : Int) < ne by omega); omega
  have hne0 : (ne : Int) ≠ 0 := by omega
  go_wp2_with fail
  go_quiet (fail)
  refine name_world fun w3 hw3 => ?_
  have HB3 := Lib.hid (show PBox w3 w.heap.size ⟨ae, ne, ce, aj, nj, cj, as_, ns, cs, al, nl, cl, lv⟩ p by rw [hw3]; exact HB2.out.below (below_drewN (Below.refl _ _) _))
  have Hb3 := Lib.hid (show Below w.heap.size w w3 by rw [hw3]; exact below_drewN Hb2.out _)
  clear hw3 c0 c1 c2 c3 c4 c5 c6 c7 c8
  obtain ⟨_, c0, c1, c2, c3, c4, c5, c6, c7, c8⟩ := HB3.out
  dsimp only at c0 c1 c2 c3
  by_cases had : a = d
  · have q1 : ((a : Int) != (d : Int)) = false := by rw [had]; simp
    cases q2 : decide ((1 : Int) < (ns : Int))
    case false =>
      cases q3 : ((nj : Int) == 0)
      case true =>
        go_wp2_with fail
        go_ret
        exact ⟨rfl, Hb3.out⟩
      cases q4 : ((nj : Int) == 80)
      case true =>
        go_wp2_with fail
        go_ret
        exact ⟨rfl, Hb3.out⟩
      have hj0 : 0 < nj := by simp at q3; omega
      have hj8 : nj < 80 := by simp at q4; omega
      obtain ⟨t, ht⟩ : ∃ t : Nat, Int.tmod k (nj : Int) = (t : Int) := ⟨(Int.tmod k (nj : Int)).toNat, by have := Int.tmod_nonneg (nj : Int) k0; omega⟩
      have htn : t < nj := by have := Int.tmod_lt_of_pos k (show (0 : Int) < (nj : Int) by omega); omega
      have hj00 : (nj : Int) ≠ 0 := by omega
      have hwk : IntKind.i64.wrap k = k := IntWalk.i64_in _ (by omega)
      have hwt : IntKind.i64.wrap (t : Int) = (t : Int) := IntWalk.i64_in _ (by omega)
      have ht0 : (0 : Int) ≤ (t : Int) := by omega
      have hjn : nj ≠ 0 := by omega
      have htn2 : (t : Int) < (nj : Int) := by omega
      have hPw := Lib.hid (hP.out.below Hb3.out)
      obtain ⟨z, hz⟩ := get_some hPw.out.j.len htn
      obtain ⟨jb, jo, rfl, hjb, z0, z1, z2, z3⟩ := hPw.out.j.join hz
      have Hz := Lib.hid hz
      clear hz
      have hrow := Lib.hid (show Joins w3 (some ⟨jb, jo, none⟩) nj p.joins from hPw.out.j)
      have hbw := HB3.out.lt
      go_wp2_with fail
      have hT := Still.refl w3
      have hO : OBox (w3.alloc (.cells #[.slice ae ne ce, .slice (some ⟨jb, jo, none⟩) nj cj, .slice as_ ns cs, .slice al nl cl, .int .i64 p.top, .int .i64 p.brake, .int .i64 p.margin, .int .i64 p.throw, .bool p.hard] 32)) w3.heap.size ⟨ae, ne, ce, some ⟨jb, jo, none⟩, nj, cj, as_, ns, cs, al, nl, cl, lv⟩ p := obox_new w3 ⟨ae, ne, ce, some ⟨jb, jo, none⟩, nj, cj, as_, ns, cs, al, nl, cl, lv⟩ p
      go_region_held3 (fun w' => w'.cell? ⟨w.heap.size, 1, none⟩ = some (.slice (some ⟨jb, jo, none⟩) nj cj) ∧ w'.cell? ⟨jb, jo + t * 4, none⟩ = some (.int .i64 z.a.e) ∧ w'.cell? ⟨jb, jo + t * 4 + 1, none⟩ = some (.int .i64 z.a.n) ∧ w'.cell? ⟨jb, jo + t * 4 + 2, none⟩ = some (.int .i64 z.b.e) ∧ w'.cell? ⟨jb, jo + t * 4 + 3, none⟩ = some (.int .i64 z.b.n))
        (first | exact join_all hbw hjb c1 z0 z1 z2 z3 (Still.out (by repeat (first | with_reducible exact hT | with_reducible apply Still.drew | with_reducible apply Still.drewN | with_reducible apply Still.alloc | (with_reducible refine Still.set ?_ (by omega) _)))) | go_keep)
        (first
        | (refine step_join0 (base := w3.heap.size + 1) (b := w3.heap.size + 1) (s := .tmp 93) (x := .tmp 95) (nj := nj) (cj := cj) (ad := ⟨jb, jo, none⟩) (js := p.joins) ?zzg ?zzo ?zzs ?zzx ?zzn ?zzown ?zzrow ?zzbx ?_
           case zzs => exact rfl
           case zzx => exact rfl
           case zzg => exact rfl
           case zzo => exact rfl
           case zzown => (repeat (first | ((with_reducible refine lit_ownJ ?_ ?_); omega; simp; done) | with_reducible apply World.ownsRow.drew | with_reducible apply World.ownsRow.alloc))
           case zzn => omega
           case zzrow => (refine hrow.out.below (Still.out ?_); (repeat (first | with_reducible exact hT | with_reducible apply Still.drew | with_reducible apply Still.drewN | with_reducible apply Still.alloc)))
           case zzbx => (refine OBox.lt (b := w3.heap.size) (v := ⟨ae, ne, ce, some ⟨jb, jo, none⟩, nj, cj, as_, ns, cs, al, nl, cl, lv⟩) (p := p) ?_; exact (by repeat (first | with_reducible exact hO | with_reducible apply OBox.drew | with_reducible apply OBox.alloc)))
           intro v4 w4 hown4 hgrow4
           have hone := Row.grown (b := w3.heap.size + 1 + 1) (x := z) ?zzone hgrow4 (by simp)
           case zzone => (repeat (first | with_reducible exact hone | ((with_reducible refine lit_one ?_); simp; done) | with_reducible apply Row.drew | with_reducible apply Row.alloc))
           have hO := OBox.grown (b := w3.heap.size) (v := ⟨ae, ne, ce, some ⟨jb, jo, none⟩, nj, cj, as_, ns, cs, al, nl, cl, lv⟩) (p := p) ?zzbox hgrow4 (by intro k hk; cases hk; omega)
           case zzbox => (repeat (first | with_reducible exact hO | with_reducible apply OBox.drew | with_reducible apply OBox.alloc))
           have hT := Still.grown (w := w3) ?zzstill hgrow4 (by intro k hk; cases hk; omega)
           case zzstill => (repeat (first | with_reducible exact hT | with_reducible apply Still.drew | with_reducible apply Still.drewN | with_reducible apply Still.alloc)))
        | (refine step_join0 (base := w3.heap.size + 1) (b := w3.heap.size + 1 + 1) (s := .tmp 93) (x := .tmp 95) (nj := nj) (cj := cj) (ad := ⟨jb, jo, none⟩) (js := p.joins) ?zzg ?zzo ?zzs ?zzx ?zzn ?zzown ?zzrow ?zzbx ?_
           case zzs => exact rfl
           case zzx => exact rfl
           case zzg => exact rfl
           case zzo => exact rfl
           case zzown => (repeat (first | ((with_reducible refine lit_ownJ ?_ ?_); omega; simp; done) | with_reducible apply World.ownsRow.drew | with_reducible apply World.ownsRow.alloc))
           case zzn => omega
           case zzrow => (refine hrow.out.below (Still.out ?_); (repeat (first | with_reducible exact hT | with_reducible apply Still.drew | with_reducible apply Still.drewN | with_reducible apply Still.alloc)))
           case zzbx => (refine OBox.lt (b := w3.heap.size) (v := ⟨ae, ne, ce, some ⟨jb, jo, none⟩, nj, cj, as_, ns, cs, al, nl, cl, lv⟩) (p := p) ?_; exact (by repeat (first | with_reducible exact hO | with_reducible apply OBox.drew | with_reducible apply OBox.alloc)))
           intro v4 w4 hown4 hgrow4
           have hone := Row.grown (b := w3.heap.size + 1) (x := z) ?zzone hgrow4 (by simp)
           case zzone => (repeat (first | with_reducible exact hone | ((with_reducible refine lit_one ?_); simp; done) | with_reducible apply Row.drew | with_reducible apply Row.alloc))
           have hO := OBox.grown (b := w3.heap.size) (v := ⟨ae, ne, ce, some ⟨jb, jo, none⟩, nj, cj, as_, ns, cs, al, nl, cl, lv⟩) (p := p) ?zzbox hgrow4 (by intro k hk; cases hk; omega)
           case zzbox => (repeat (first | with_reducible exact hO | with_reducible apply OBox.drew | with_reducible apply OBox.alloc))
           have hT := Still.grown (w := w3) ?zzstill hgrow4 (by intro k hk; cases hk; omega)
           case zzstill => (repeat (first | with_reducible exact hT | with_reducible apply Still.drew | with_reducible apply Still.drewN | with_reducible apply Still.alloc)))
        | (refine step_join0 (base := w3.heap.size + 1) (b := w3.heap.size + 1) (s := .tmp 93) (x := .tmp 95) (nj := nj) (cj := cj) (ad := ⟨jb, jo, none⟩) (js := p.joins) ?zzg ?zzo ?zzs ?zzx ?zzn ?zzown ?zzrow ?zzbx ?_
           case zzs => exact rfl
           case zzx => exact rfl
           case zzg => exact rfl
           case zzo => exact rfl
           case zzown => (repeat (first | ((with_reducible refine lit_ownJ ?_ ?_); omega; simp; done) | with_reducible apply World.ownsRow.drew | with_reducible apply World.ownsRow.alloc))
           case zzn => omega
           case zzrow => (refine hrow.out.below (Still.out ?_); (repeat (first | with_reducible exact hT | with_reducible apply Still.drew | with_reducible apply Still.drewN | with_reducible apply Still.alloc)))
           case zzbx => (refine OBox.lt (b := w3.heap.size) (v := ⟨ae, ne, ce, some ⟨jb, jo, none⟩, nj, cj, as_, ns, cs, al, nl, cl, lv⟩) (p := p) ?_; exact (by repeat (first | with_reducible exact hO | with_reducible apply OBox.drew | with_reducible apply OBox.alloc)))
           intro v4 w4 hown4 hgrow4
           have hO := OBox.grown (b := w3.heap.size) (v := ⟨ae, ne, ce, some ⟨jb, jo, none⟩, nj, cj, as_, ns, cs, al, nl, cl, lv⟩) (p := p) ?zzbox hgrow4 (by intro k hk; cases hk; omega)
           case zzbox => (repeat (first | with_reducible exact hO | with_reducible apply OBox.drew | with_reducible apply OBox.alloc))
           have hT := Still.grown (w := w3) ?zzstill hgrow4 (by intro k hk; cases hk; omega)
           case zzstill => (repeat (first | with_reducible exact hT | with_reducible apply Still.drew | with_reducible apply Still.drewN | with_reducible apply Still.alloc)))
        | (refine step_join1 (base := w3.heap.size + 1) (v := v4) (nj := nj) (ad := ⟨w4.heap.size, 0, none⟩) (s := .tmp 96) (x := .tmp 107) (c := 1) (js := p.joins) (j := z) ?zzg ?zzo ?zzs ?zzx ?zzn ?zzown ?zzrow ?zzbx ?_
           case zzs => exact rfl
           case zzx => exact rfl
           case zzg => exact rfl
           case zzo => exact rfl
           case zzown => (repeat (first | with_reducible exact hown4 | with_reducible apply World.ownsRow.drew | with_reducible apply World.ownsRow.alloc))
           case zzrow => (repeat (first | with_reducible exact hone | ((with_reducible refine lit_one ?_); simp; done) | with_reducible apply Row.drew | with_reducible apply Row.alloc))
           case zzn => omega
           case zzbx => (refine OBox.lt (b := w3.heap.size) (v := ⟨ae, ne, ce, some ⟨jb, jo, none⟩, nj, cj, as_, ns, cs, al, nl, cl, lv⟩) (p := p) ?_; exact (by repeat (first | with_reducible exact hO | with_reducible apply OBox.drew | with_reducible apply OBox.alloc)))
           intro g5 c5 w5 hg5 hown5 hgrow5
           have hO := OBox.grown (b := w3.heap.size) (v := ⟨ae, ne, ce, some ⟨jb, jo, none⟩, nj, cj, as_, ns, cs, al, nl, cl, lv⟩) (p := p) ?zzbox hgrow5 (own_not hown4)
           case zzbox => (repeat (first | with_reducible exact hO | with_reducible apply OBox.drew | with_reducible apply OBox.alloc))
           have hT := Still.grown (w := w3) ?zzstill hgrow5 (own_from hown4)
           case zzstill => (repeat (first | with_reducible exact hT | with_reducible apply Still.drew | with_reducible apply Still.drewN | with_reducible apply Still.alloc))
           have d1 := hO.box.c1
           have f1 := hO.frozen 1)
        | (refine step_join1 (base := w3.heap.size + 1) (v := v4) (nj := nj) (ad := ⟨w3.heap.size + 1 + 1, 0, none⟩) (s := .tmp 96) (x := .tmp 107) (c := 1) (js := p.joins) (j := z) ?zzg ?zzo ?zzs ?zzx ?zzn ?zzown ?zzrow ?zzbx ?_
           case zzs => exact rfl
           case zzx => exact rfl
           case zzg => exact rfl
           case zzo => exact rfl
           case zzown => (repeat (first | with_reducible exact hown4 | with_reducible apply World.ownsRow.drew | with_reducible apply World.ownsRow.alloc))
           case zzrow => (repeat (first | with_reducible exact hone | ((with_reducible refine lit_one ?_); simp; done) | with_reducible apply Row.drew | with_reducible apply Row.alloc))
           case zzn => omega
           case zzbx => (refine OBox.lt (b := w3.heap.size) (v := ⟨ae, ne, ce, some ⟨jb, jo, none⟩, nj, cj, as_, ns, cs, al, nl, cl, lv⟩) (p := p) ?_; exact (by repeat (first | with_reducible exact hO | with_reducible apply OBox.drew | with_reducible apply OBox.alloc)))
           intro g5 c5 w5 hg5 hown5 hgrow5
           have hO := OBox.grown (b := w3.heap.size) (v := ⟨ae, ne, ce, some ⟨jb, jo, none⟩, nj, cj, as_, ns, cs, al, nl, cl, lv⟩) (p := p) ?zzbox hgrow5 (own_not hown4)
           case zzbox => (repeat (first | with_reducible exact hO | with_reducible apply OBox.drew | with_reducible apply OBox.alloc))
           have hT := Still.grown (w := w3) ?zzstill hgrow5 (own_from hown4)
           case zzstill => (repeat (first | with_reducible exact hT | with_reducible apply Still.drew | with_reducible apply Still.drewN | with_reducible apply Still.alloc))
           have d1 := hO.box.c1
           have f1 := hO.frozen 1)
        | (refine step_join1 (base := w3.heap.size + 1) (v := v4) (nj := nj) (ad := ⟨w3.heap.size + 1, 0, none⟩) (s := .tmp 96) (x := .tmp 107) (c := 1) (js := p.joins) (j := z) ?zzg ?zzo ?zzs ?zzx ?zzn ?zzown ?zzrow ?zzbx ?_
           case zzs => exact rfl
           case zzx => exact rfl
           case zzg => exact rfl
           case zzo => exact rfl
           case zzown => (repeat (first | with_reducible exact hown4 | with_reducible apply World.ownsRow.drew | with_reducible apply World.ownsRow.alloc))
           case zzrow => (repeat (first | with_reducible exact hone | ((with_reducible refine lit_one ?_); simp; done) | with_reducible apply Row.drew | with_reducible apply Row.alloc))
           case zzn => omega
           case zzbx => (refine OBox.lt (b := w3.heap.size) (v := ⟨ae, ne, ce, some ⟨jb, jo, none⟩, nj, cj, as_, ns, cs, al, nl, cl, lv⟩) (p := p) ?_; exact (by repeat (first | with_reducible exact hO | with_reducible apply OBox.drew | with_reducible apply OBox.alloc)))
           intro g5 c5 w5 hg5 hown5 hgrow5
           have hO := OBox.grown (b := w3.heap.size) (v := ⟨ae, ne, ce, some ⟨jb, jo, none⟩, nj, cj, as_, ns, cs, al, nl, cl, lv⟩) (p := p) ?zzbox hgrow5 (own_not hown4)
           case zzbox => (repeat (first | with_reducible exact hO | with_reducible apply OBox.drew | with_reducible apply OBox.alloc))
           have hT := Still.grown (w := w3) ?zzstill hgrow5 (own_from hown4)
           case zzstill => (repeat (first | with_reducible exact hT | with_reducible apply Still.drew | with_reducible apply Still.drewN | with_reducible apply Still.alloc))
           have d1 := hO.box.c1
           have f1 := hO.frozen 1))
      all_goals
        obtain ⟨_, d0, d1, d2, d3, d4, d5, d6, d7, d8⟩ := hO.box
        dsimp only at d0 d1 d2 d3
        go_wp2_with fail
        refine name_calls fun w11 hw11 => ?_
        have hx11 := Lib.hid (show Still w3 w11 by rw [hw11]; repeat (first | with_reducible exact hT | with_reducible apply Still.drew | with_reducible apply Still.drewN | with_reducible apply Still.alloc | ((with_reducible refine Still.set ?_ ?_ _); rotate_left; omega)))
        have Own11 : w11.ownsRow (w3.heap.size + 1) 48 4 (.slice (some ⟨g5, 0, none⟩) (nj + 1) c5) (nj + 1) ((p.joins ++ [z]).flatMap encJoin) := by rw [hw11]; exact ownsRow_setCell_below hown5 (a := ⟨w3.heap.size, 1, none⟩) (Nat.lt_succ_self _) _
        have HP11 := ((hP.out.below (below_step Hb3.out hx11.out.out Hb3.out.size)).setJ (c := c5) (owns_row encJoin_len Own11 (by omega)).1 (by intro h; cases h) (fit_snoc hP.out.fit.j Hz.out))
        refine (check_l Hn2.out HP11).mono ?_
        rintro e w12 ⟨rfl, hbx⟩
        rw [twice_join Hc.out (List.mem_of_getElem? Hz.out) (by have := hP.out.j.len; dsimp only at this; omega)]
        have Hb12 := Lib.hid (below_step (below_step Hb3.out hx11.out.out Hb3.out.size) hbx (Nat.le_trans Hb3.out.size hx11.out.out.size))
        clear hbx hw11 Own11 HP11 hx11 d0 d1 d2 d3 d4 d5 d6 d7 d8 f1
        go_wp2_with fail
        go_ret
        exact ⟨rfl, Hb12.out⟩
    have hs1 : 1 < ns := by simp at q2; omega
    obtain ⟨m0, hm0⟩ : ∃ m0 : Nat, Int.tmod i ((ns : Int) - 1) = (m0 : Int) := ⟨(Int.tmod i ((ns : Int) - 1)).toNat, by have := Int.tmod_nonneg ((ns : Int) - 1) i0; omega⟩
    obtain ⟨m, hm⟩ : ∃ m : Nat, (1 : Int) + (m0 : Int) = (m : Int) := ⟨1 + m0, by omega⟩
    have hmn : m < ns := by have := Int.tmod_lt_of_pos i (show (0 : Int) < (ns : Int) - 1 by omega); omega
    have hm1 : 1 ≤ m := by omega
    have hz1 : ((ns : Int) - 1) ≠ 0 := by omega
    have hwr : IntKind.i64.wrap ((ns : Int) - 1) = (ns : Int) - 1 := IntWalk.i64_in _ (by omega)
    have hwm : IntKind.i64.wrap (m : Int) = (m : Int) := IntWalk.i64_in _ (by omega)
    have hwi : IntKind.i64.wrap i = i := IntWalk.i64_in _ (by omega)
    have hs0 : 0 < ns := by omega
    have hs0' : (0 : Int) < (ns : Int) := by omega
    have hrow := Lib.hid ((hP.out.below Hb3.out).s.below (below_new2 w3 (.cells #[.slice ae ne ce, .slice aj nj cj, .slice as_ ns cs, .slice al nl cl, .int .i64 p.top, .int .i64 p.brake, .int .i64 p.margin, .int .i64 p.throw, .bool p.hard] 32) (.cells #[] 46)))
    have hown := Lib.hid (lit_own0 w3 46 4 (.cells #[.slice ae ne ce, .slice aj nj cj, .slice as_ ns cs, .slice al nl cl, .int .i64 p.top, .int .i64 p.brake, .int .i64 p.margin, .int .i64 p.throw, .bool p.hard] 32))
    go_wp2_with (at_builtin; refine wpList_app0 encSig_len encSig_one _ rfl _ _ 29 rfl (w3.heap.size + 1) 46 (.agg #[.string ByteArray.empty, .int .i64 0, .int .i64 0, .bool false]) 40 Try.underlying29 info_sig rfl (by decide) (w3.heap.size + 1) rfl hown.out as_ ns cs p.sigs rfl hrow.out hP.out.fit.sc (by simp [maxLen]; omega) (by omega) (by simp) ?_)
    intro v4 ws4 hown4 hgrow4
    obtain ⟨gs, cqs, rfl, hgs, hgs4⟩ := own_shape hown4 (by omega)
    have Own4 := Lib.hid hown4
    have hx4 : Below w3.heap.size w3 ws4 := (below_new2 w3 (.cells #[.slice ae ne ce, .slice aj nj cj, .slice as_ ns cs, .slice al nl cl, .int .i64 p.top, .int .i64 p.brake, .int .i64 p.margin, .int .i64 p.throw, .bool p.hard] 32) (.cells #[] 46)).grown hgrow4 (by simp; omega) (by intro k hk; simp at hk; omega)
    have OQ4 := Lib.hid (((obox_new w3 ⟨ae, ne, ce, aj, nj, cj, as_, ns, cs, al, nl, cl, lv⟩ p).alloc (.cells #[] 46)).grown hgrow4 (by intro k hk; simp at hk; omega))
    clear hown4 hgrow4 hrow hown hgs4 c0 c1 c2 c3 c4 c5 c6 c7 c8
    have d0 := OQ4.out.box.c2
    dsimp only at d0
    have f0 := OQ4.out.frozen 2
    go_wp2_with fail
    refine name_code fun ws5 hw5 => ?_
    have hxs5 := Lib.hid (show Below w3.heap.size w3 ws5 by rw [hw5]; exact hx4.setCell (p := ⟨w3.heap.size, 2, none⟩) (Nat.le_refl _) _)
    have OQs5 := Lib.hid (show OBox ws5 w3.heap.size ⟨ae, ne, ce, aj, nj, cj, some ⟨gs, 0, none⟩, ns, cqs, al, nl, cl, lv⟩ p by rw [hw5]; exact OQ4.out.put rfl)
    have Owns5 := Lib.hid (show ws5.ownsRow (w3.heap.size + 1) 46 4 (.slice (some ⟨gs, 0, none⟩) ns cqs) ns (p.sigs.flatMap encSig) by rw [hw5]; exact ownsRow_setCell_below Own4.out (a := ⟨w3.heap.size, 2, none⟩) (Nat.lt_succ_self _) _)
    have HBs5 := Lib.hid (HB3.out.below hxs5.out)
    clear hw5 d0 f0 hx4 Own4 OQ4
    obtain ⟨_, d0, d1, d2, d3, d4, d5, d6, d7, d8⟩ := OQs5.out.box
    dsimp only at d0 d1 d2 d3
    obtain ⟨x, hx⟩ := get_some hP.out.s.len (show 0 < ns by omega)
    obtain ⟨y, hy⟩ := get_some hP.out.s.len hmn
    have e1 : ws5.cell? ⟨gs, m * 4, none⟩ = some (.string y.name) := own_at encSig_len Owns5.out (k := 0) hy hmn rfl
    have e2 : ws5.cell? ⟨gs, 0, none⟩ = some (.string x.name) := by have := own_at encSig_len Owns5.out (k := 0) hx (show 0 < ns by omega) rfl; simpa using this
    have f1 := Owns5.out.frozenAt 0
    have Hx := Lib.hid hx
    have Hy := Lib.hid hy
    clear hx hy
    obtain ⟨_, c0, c1, c2, c3, c4, c5, c6, c7, c8⟩ := HBs5.out
    dsimp only at c0 c1 c2 c3
    refine wp_region_still_tail 17 (by kernel_rfl) (by kernel_rfl) ?_
    simp only [List.take_succ_cons, List.take_zero, List.drop_succ_cons, List.drop_zero]
    change wpStill _ _ (World.drew _) _ _ _
    repeat still_step
    refine wpStill_nil ?_
    change wpList _ _ _ _ _ (World.drew _)
    go_wp2_with fail
    refine name_calls fun w9 hw9 => ?_
    have hx9 := Lib.hid (show Below w3.heap.size w3 w9 by rw [hw9]; exact (hxs5.out.setCell (p := ⟨gs, 0, none⟩) (by show w3.heap.size ≤ gs; omega) _).drew)
    have Own9 : w9.ownsRow (w3.heap.size + 1) 46 4 (.slice (some ⟨gs, 0, none⟩) ns cqs) ns ((p.sigs.set 0 (resign x y.name)).flatMap encSig) := by rw [hw9]; exact (own_put encSig_len Owns5.out (i := 0) (k := 0) Hx.out (by omega) (x' := resign x y.name) rfl).1.drew
    have HP9 := ((hP.out.below (below_step Hb3.out hx9.out Hb3.out.size)).setS (c := cqs) (owns_row encSig_len Own9 (by omega)).1 (by intro h; cases h) (fit_resign hP.out.fit.s Hx.out Hy.out))
    refine (check_l Hn2.out HP9).mono ?_
    rintro e w10 ⟨rfl, hbx⟩
    rw [twice_sig Hc.out (by omega) Hx.out Hy.out]
    have hx10 := Lib.hid (below_step hx9.out hbx hx9.out.size)
    clear hbx hw9 Own9 HP9 hx9 c0 c1 c2 c3 c4 c5 c6 c7 c8 d0 d1 d2 d3 d4 d5 d6 d7 d8 e1 e2 f1 OQs5 Owns5 hxs5 HBs5 hwr hwm hwi hs0 hs0' hm hm0 hz1 hmn hm1
    have HB10 := Lib.hid (HB3.out.below hx10.out)
    have Hb10 := Lib.hid (below_step Hb3.out hx10.out Hb3.out.size)
    obtain ⟨_, c0, c1, c2, c3, c4, c5, c6, c7, c8⟩ := HB10.out
    dsimp only at c0 c1 c2 c3
    cases q3 : ((nj : Int) == 0)
    case true =>
      go_wp2_with fail
      go_ret
      exact ⟨rfl, Hb10.out⟩
    cases q4 : ((nj : Int) == 80)
    case true =>
      go_wp2_with fail
      go_ret
      exact ⟨rfl, Hb10.out⟩
    have hj0 : 0 < nj := by simp at q3; omega
    have hj8 : nj < 80 := by simp at q4; omega
    obtain ⟨t, ht⟩ : ∃ t : Nat, Int.tmod k (nj : Int) = (t : Int) := ⟨(Int.tmod k (nj : Int)).toNat, by have := Int.tmod_nonneg (nj : Int) k0; omega⟩
    have htn : t < nj := by have := Int.tmod_lt_of_pos k (show (0 : Int) < (nj : Int) by omega); omega
    have hj00 : (nj : Int) ≠ 0 := by omega
    have hwk : IntKind.i64.wrap k = k := IntWalk.i64_in _ (by omega)
    have hwt : IntKind.i64.wrap (t : Int) = (t : Int) := IntWalk.i64_in _ (by omega)
    have ht0 : (0 : Int) ≤ (t : Int) := by omega
    have hjn : nj ≠ 0 := by omega
    have htn2 : (t : Int) < (nj : Int) := by omega
    have hPw := Lib.hid (hP.out.below Hb10.out)
    obtain ⟨z, hz⟩ := get_some hPw.out.j.len htn
    obtain ⟨jb, jo, rfl, hjb, z0, z1, z2, z3⟩ := hPw.out.j.join hz
    have Hz := Lib.hid hz
    clear hz
    have hrow := Lib.hid (show Joins w10 (some ⟨jb, jo, none⟩) nj p.joins from hPw.out.j)
    have hbw := HB10.out.lt
    go_wp2_with fail
    have hT := Still.refl w10
    have hO : OBox (w10.alloc (.cells #[.slice ae ne ce, .slice (some ⟨jb, jo, none⟩) nj cj, .slice as_ ns cs, .slice al nl cl, .int .i64 p.top, .int .i64 p.brake, .int .i64 p.margin, .int .i64 p.throw, .bool p.hard] 32)) w10.heap.size ⟨ae, ne, ce, some ⟨jb, jo, none⟩, nj, cj, as_, ns, cs, al, nl, cl, lv⟩ p := obox_new w10 ⟨ae, ne, ce, some ⟨jb, jo, none⟩, nj, cj, as_, ns, cs, al, nl, cl, lv⟩ p
    go_region_held3 (fun w' => w'.cell? ⟨w.heap.size, 1, none⟩ = some (.slice (some ⟨jb, jo, none⟩) nj cj) ∧ w'.cell? ⟨jb, jo + t * 4, none⟩ = some (.int .i64 z.a.e) ∧ w'.cell? ⟨jb, jo + t * 4 + 1, none⟩ = some (.int .i64 z.a.n) ∧ w'.cell? ⟨jb, jo + t * 4 + 2, none⟩ = some (.int .i64 z.b.e) ∧ w'.cell? ⟨jb, jo + t * 4 + 3, none⟩ = some (.int .i64 z.b.n))
      (first | exact join_all hbw hjb c1 z0 z1 z2 z3 (Still.out (by repeat (first | with_reducible exact hT | with_reducible apply Still.drew | with_reducible apply Still.drewN | with_reducible apply Still.alloc | (with_reducible refine Still.set ?_ (by omega) _)))) | go_keep)
      (first
      | (refine step_join0 (base := w10.heap.size + 1) (b := w10.heap.size + 1) (s := .tmp 93) (x := .tmp 95) (nj := nj) (cj := cj) (ad := ⟨jb, jo, none⟩) (js := p.joins) ?zzg ?zzo ?zzs ?zzx ?zzn ?zzown ?zzrow ?zzbx ?_
         case zzs => exact rfl
         case zzx => exact rfl
         case zzg => exact rfl
         case zzo => exact rfl
         case zzown => (repeat (first | ((with_reducible refine lit_ownJ ?_ ?_); omega; simp; done) | with_reducible apply World.ownsRow.drew | with_reducible apply World.ownsRow.alloc))
         case zzn => omega
         case zzrow => (refine hrow.out.below (Still.out ?_); (repeat (first | with_reducible exact hT | with_reducible apply Still.drew | with_reducible apply Still.drewN | with_reducible apply Still.alloc)))
         case zzbx => (refine OBox.lt (b := w10.heap.size) (v := ⟨ae, ne, ce, some ⟨jb, jo, none⟩, nj, cj, as_, ns, cs, al, nl, cl, lv⟩) (p := p) ?_; exact (by repeat (first | with_reducible exact hO | with_reducible apply OBox.drew | with_reducible apply OBox.alloc)))
         intro v4 w4 hown4 hgrow4
         have hone := Row.grown (b := w10.heap.size + 1 + 1) (x := z) ?zzone hgrow4 (by simp)
         case zzone => (repeat (first | with_reducible exact hone | ((with_reducible refine lit_one ?_); simp; done) | with_reducible apply Row.drew | with_reducible apply Row.alloc))
         have hO := OBox.grown (b := w10.heap.size) (v := ⟨ae, ne, ce, some ⟨jb, jo, none⟩, nj, cj, as_, ns, cs, al, nl, cl, lv⟩) (p := p) ?zzbox hgrow4 (by intro k hk; cases hk; omega)
         case zzbox => (repeat (first | with_reducible exact hO | with_reducible apply OBox.drew | with_reducible apply OBox.alloc))
         have hT := Still.grown (w := w10) ?zzstill hgrow4 (by intro k hk; cases hk; omega)
         case zzstill => (repeat (first | with_reducible exact hT | with_reducible apply Still.drew | with_reducible apply Still.drewN | with_reducible apply Still.alloc)))
      | (refine step_join0 (base := w10.heap.size + 1) (b := w10.heap.size + 1 + 1) (s := .tmp 93) (x := .tmp 95) (nj := nj) (cj := cj) (ad := ⟨jb, jo, none⟩) (js := p.joins) ?zzg ?zzo ?zzs ?zzx ?zzn ?zzown ?zzrow ?zzbx ?_
         case zzs => exact rfl
         case zzx => exact rfl
         case zzg => exact rfl
         case zzo => exact rfl
         case zzown => (repeat (first | ((with_reducible refine lit_ownJ ?_ ?_); omega; simp; done) | with_reducible apply World.ownsRow.drew | with_reducible apply World.ownsRow.alloc))
         case zzn => omega
         case zzrow => (refine hrow.out.below (Still.out ?_); (repeat (first | with_reducible exact hT | with_reducible apply Still.drew | with_reducible apply Still.drewN | with_reducible apply Still.alloc)))
         case zzbx => (refine OBox.lt (b := w10.heap.size) (v := ⟨ae, ne, ce, some ⟨jb, jo, none⟩, nj, cj, as_, ns, cs, al, nl, cl, lv⟩) (p := p) ?_; exact (by repeat (first | with_reducible exact hO | with_reducible apply OBox.drew | with_reducible apply OBox.alloc)))
         intro v4 w4 hown4 hgrow4
         have hone := Row.grown (b := w10.heap.size + 1) (x := z) ?zzone hgrow4 (by simp)
         case zzone => (repeat (first | with_reducible exact hone | ((with_reducible refine lit_one ?_); simp; done) | with_reducible apply Row.drew | with_reducible apply Row.alloc))
         have hO := OBox.grown (b := w10.heap.size) (v := ⟨ae, ne, ce, some ⟨jb, jo, none⟩, nj, cj, as_, ns, cs, al, nl, cl, lv⟩) (p := p) ?zzbox hgrow4 (by intro k hk; cases hk; omega)
         case zzbox => (repeat (first | with_reducible exact hO | with_reducible apply OBox.drew | with_reducible apply OBox.alloc))
         have hT := Still.grown (w := w10) ?zzstill hgrow4 (by intro k hk; cases hk; omega)
         case zzstill => (repeat (first | with_reducible exact hT | with_reducible apply Still.drew | with_reducible apply Still.drewN | with_reducible apply Still.alloc)))
      | (refine step_join0 (base := w10.heap.size + 1) (b := w10.heap.size + 1) (s := .tmp 93) (x := .tmp 95) (nj := nj) (cj := cj) (ad := ⟨jb, jo, none⟩) (js := p.joins) ?zzg ?zzo ?zzs ?zzx ?zzn ?zzown ?zzrow ?zzbx ?_
         case zzs => exact rfl
         case zzx => exact rfl
         case zzg => exact rfl
         case zzo => exact rfl
         case zzown => (repeat (first | ((with_reducible refine lit_ownJ ?_ ?_); omega; simp; done) | with_reducible apply World.ownsRow.drew | with_reducible apply World.ownsRow.alloc))
         case zzn => omega
         case zzrow => (refine hrow.out.below (Still.out ?_); (repeat (first | with_reducible exact hT | with_reducible apply Still.drew | with_reducible apply Still.drewN | with_reducible apply Still.alloc)))
         case zzbx => (refine OBox.lt (b := w10.heap.size) (v := ⟨ae, ne, ce, some ⟨jb, jo, none⟩, nj, cj, as_, ns, cs, al, nl, cl, lv⟩) (p := p) ?_; exact (by repeat (first | with_reducible exact hO | with_reducible apply OBox.drew | with_reducible apply OBox.alloc)))
         intro v4 w4 hown4 hgrow4
         have hO := OBox.grown (b := w10.heap.size) (v := ⟨ae, ne, ce, some ⟨jb, jo, none⟩, nj, cj, as_, ns, cs, al, nl, cl, lv⟩) (p := p) ?zzbox hgrow4 (by intro k hk; cases hk; omega)
         case zzbox => (repeat (first | with_reducible exact hO | with_reducible apply OBox.drew | with_reducible apply OBox.alloc))
         have hT := Still.grown (w := w10) ?zzstill hgrow4 (by intro k hk; cases hk; omega)
         case zzstill => (repeat (first | with_reducible exact hT | with_reducible apply Still.drew | with_reducible apply Still.drewN | with_reducible apply Still.alloc)))
      | (refine step_join1 (base := w10.heap.size + 1) (v := v4) (nj := nj) (ad := ⟨w4.heap.size, 0, none⟩) (s := .tmp 96) (x := .tmp 107) (c := 1) (js := p.joins) (j := z) ?zzg ?zzo ?zzs ?zzx ?zzn ?zzown ?zzrow ?zzbx ?_
         case zzs => exact rfl
         case zzx => exact rfl
         case zzg => exact rfl
         case zzo => exact rfl
         case zzown => (repeat (first | with_reducible exact hown4 | with_reducible apply World.ownsRow.drew | with_reducible apply World.ownsRow.alloc))
         case zzrow => (repeat (first | with_reducible exact hone | ((with_reducible refine lit_one ?_); simp; done) | with_reducible apply Row.drew | with_reducible apply Row.alloc))
         case zzn => omega
         case zzbx => (refine OBox.lt (b := w10.heap.size) (v := ⟨ae, ne, ce, some ⟨jb, jo, none⟩, nj, cj, as_, ns, cs, al, nl, cl, lv⟩) (p := p) ?_; exact (by repeat (first | with_reducible exact hO | with_reducible apply OBox.drew | with_reducible apply OBox.alloc)))
         intro g5 c5 w5 hg5 hown5 hgrow5
         have hO := OBox.grown (b := w10.heap.size) (v := ⟨ae, ne, ce, some ⟨jb, jo, none⟩, nj, cj, as_, ns, cs, al, nl, cl, lv⟩) (p := p) ?zzbox hgrow5 (own_not hown4)
         case zzbox => (repeat (first | with_reducible exact hO | with_reducible apply OBox.drew | with_reducible apply OBox.alloc))
         have hT := Still.grown (w := w10) ?zzstill hgrow5 (own_from hown4)
         case zzstill => (repeat (first | with_reducible exact hT | with_reducible apply Still.drew | with_reducible apply Still.drewN | with_reducible apply Still.alloc))
         have d1 := hO.box.c1
         have f1 := hO.frozen 1)
      | (refine step_join1 (base := w10.heap.size + 1) (v := v4) (nj := nj) (ad := ⟨w10.heap.size + 1 + 1, 0, none⟩) (s := .tmp 96) (x := .tmp 107) (c := 1) (js := p.joins) (j := z) ?zzg ?zzo ?zzs ?zzx ?zzn ?zzown ?zzrow ?zzbx ?_
         case zzs => exact rfl
         case zzx => exact rfl
         case zzg => exact rfl
         case zzo => exact rfl
         case zzown => (repeat (first | with_reducible exact hown4 | with_reducible apply World.ownsRow.drew | with_reducible apply World.ownsRow.alloc))
         case zzrow => (repeat (first | with_reducible exact hone | ((with_reducible refine lit_one ?_); simp; done) | with_reducible apply Row.drew | with_reducible apply Row.alloc))
         case zzn => omega
         case zzbx => (refine OBox.lt (b := w10.heap.size) (v := ⟨ae, ne, ce, some ⟨jb, jo, none⟩, nj, cj, as_, ns, cs, al, nl, cl, lv⟩) (p := p) ?_; exact (by repeat (first | with_reducible exact hO | with_reducible apply OBox.drew | with_reducible apply OBox.alloc)))
         intro g5 c5 w5 hg5 hown5 hgrow5
         have hO := OBox.grown (b := w10.heap.size) (v := ⟨ae, ne, ce, some ⟨jb, jo, none⟩, nj, cj, as_, ns, cs, al, nl, cl, lv⟩) (p := p) ?zzbox hgrow5 (own_not hown4)
         case zzbox => (repeat (first | with_reducible exact hO | with_reducible apply OBox.drew | with_reducible apply OBox.alloc))
         have hT := Still.grown (w := w10) ?zzstill hgrow5 (own_from hown4)
         case zzstill => (repeat (first | with_reducible exact hT | with_reducible apply Still.drew | with_reducible apply Still.drewN | with_reducible apply Still.alloc))
         have d1 := hO.box.c1
         have f1 := hO.frozen 1)
      | (refine step_join1 (base := w10.heap.size + 1) (v := v4) (nj := nj) (ad := ⟨w10.heap.size + 1, 0, none⟩) (s := .tmp 96) (x := .tmp 107) (c := 1) (js := p.joins) (j := z) ?zzg ?zzo ?zzs ?zzx ?zzn ?zzown ?zzrow ?zzbx ?_
         case zzs => exact rfl
         case zzx => exact rfl
         case zzg => exact rfl
         case zzo => exact rfl
         case zzown => (repeat (first | with_reducible exact hown4 | with_reducible apply World.ownsRow.drew | with_reducible apply World.ownsRow.alloc))
         case zzrow => (repeat (first | with_reducible exact hone | ((with_reducible refine lit_one ?_); simp; done) | with_reducible apply Row.drew | with_reducible apply Row.alloc))
         case zzn => omega
         case zzbx => (refine OBox.lt (b := w10.heap.size) (v := ⟨ae, ne, ce, some ⟨jb, jo, none⟩, nj, cj, as_, ns, cs, al, nl, cl, lv⟩) (p := p) ?_; exact (by repeat (first | with_reducible exact hO | with_reducible apply OBox.drew | with_reducible apply OBox.alloc)))
         intro g5 c5 w5 hg5 hown5 hgrow5
         have hO := OBox.grown (b := w10.heap.size) (v := ⟨ae, ne, ce, some ⟨jb, jo, none⟩, nj, cj, as_, ns, cs, al, nl, cl, lv⟩) (p := p) ?zzbox hgrow5 (own_not hown4)
         case zzbox => (repeat (first | with_reducible exact hO | with_reducible apply OBox.drew | with_reducible apply OBox.alloc))
         have hT := Still.grown (w := w10) ?zzstill hgrow5 (own_from hown4)
         case zzstill => (repeat (first | with_reducible exact hT | with_reducible apply Still.drew | with_reducible apply Still.drewN | with_reducible apply Still.alloc))
         have d1 := hO.box.c1
         have f1 := hO.frozen 1))
    all_goals
      obtain ⟨_, d0, d1, d2, d3, d4, d5, d6, d7, d8⟩ := hO.box
      dsimp only at d0 d1 d2 d3
      go_wp2_with fail
      refine name_calls fun w11 hw11 => ?_
      have hx11 := Lib.hid (show Still w10 w11 by rw [hw11]; repeat (first | with_reducible exact hT | with_reducible apply Still.drew | with_reducible apply Still.drewN | with_reducible apply Still.alloc | ((with_reducible refine Still.set ?_ ?_ _); rotate_left; omega)))
      have Own11 : w11.ownsRow (w10.heap.size + 1) 48 4 (.slice (some ⟨g5, 0, none⟩) (nj + 1) c5) (nj + 1) ((p.joins ++ [z]).flatMap encJoin) := by rw [hw11]; exact ownsRow_setCell_below hown5 (a := ⟨w10.heap.size, 1, none⟩) (Nat.lt_succ_self _) _
      have HP11 := ((hP.out.below (below_step Hb10.out hx11.out.out Hb10.out.size)).setJ (c := c5) (owns_row encJoin_len Own11 (by omega)).1 (by intro h; cases h) (fit_snoc hP.out.fit.j Hz.out))
      refine (check_l Hn2.out HP11).mono ?_
      rintro e w12 ⟨rfl, hbx⟩
      rw [twice_join Hc.out (List.mem_of_getElem? Hz.out) (by have := hP.out.j.len; dsimp only at this; omega)]
      have Hb12 := Lib.hid (below_step (below_step Hb10.out hx11.out.out Hb10.out.size) hbx (Nat.le_trans Hb10.out.size hx11.out.out.size))
      clear hbx hw11 Own11 HP11 hx11 d0 d1 d2 d3 d4 d5 d6 d7 d8 f1
      go_wp2_with fail
      go_ret
      exact ⟨rfl, Hb12.out⟩
  have q1 : ((a : Int) != (d : Int)) = true := by rw [bne_iff_ne]; omega
  have hrow := Lib.hid ((hP.out.below Hb3.out).e.below (below_new2 w3 (.cells #[.slice ae ne ce, .slice aj nj cj, .slice as_ ns cs, .slice al nl cl, .int .i64 p.top, .int .i64 p.brake, .int .i64 p.margin, .int .i64 p.throw, .bool p.hard] 32) (.cells #[] 42)))
  have hown := Lib.hid (lit_own0 w3 42 3 (.cells #[.slice ae ne ce, .slice aj nj cj, .slice as_ ns cs, .slice al nl cl, .int .i64 p.top, .int .i64 p.brake, .int .i64 p.margin, .int .i64 p.throw, .bool p.hard] 32))
  go_wp2_with (at_builtin; refine wpList_app0 encElem_len encElem_one _ rfl _ _ 27 rfl (w3.heap.size + 1) 42 (.agg #[.string ByteArray.empty, .int .i64 0, .int .i64 0]) 32 Try.underlying27 info_elem rfl (by decide) (w3.heap.size + 1) rfl hown.out ae ne ce p.elems rfl hrow.out hP.out.fit.ec (by simp [maxLen]; omega) (by omega) (by simp) ?_)
  intro v4 we4 hown4 hgrow4
  obtain ⟨ge, cqe, rfl, hge, hgs4⟩ := own_shape hown4 (by omega)
  have Own4 := Lib.hid hown4
  have hx4 : Below w3.heap.size w3 we4 := (below_new2 w3 (.cells #[.slice ae ne ce, .slice aj nj cj, .slice as_ ns cs, .slice al nl cl, .int .i64 p.top, .int .i64 p.brake, .int .i64 p.margin, .int .i64 p.throw, .bool p.hard] 32) (.cells #[] 42)).grown hgrow4 (by simp; omega) (by intro k hk; simp at hk; omega)
  have OQ4 := Lib.hid (((obox_new w3 ⟨ae, ne, ce, aj, nj, cj, as_, ns, cs, al, nl, cl, lv⟩ p).alloc (.cells #[] 42)).grown hgrow4 (by intro k hk; simp at hk; omega))
  clear hown4 hgrow4 hrow hown hgs4 c0 c1 c2 c3 c4 c5 c6 c7 c8
  have d0 := OQ4.out.box.c0
  dsimp only at d0
  have f0 := OQ4.out.frozen 0
  go_wp2_with fail
  refine name_code fun we5 hw5 => ?_
  have hxe5 := Lib.hid (show Below w3.heap.size w3 we5 by rw [hw5]; exact hx4.setCell (p := ⟨w3.heap.size, 0, none⟩) (Nat.le_refl _) _)
  have OQe5 := Lib.hid (show OBox we5 w3.heap.size ⟨some ⟨ge, 0, none⟩, ne, cqe, aj, nj, cj, as_, ns, cs, al, nl, cl, lv⟩ p by rw [hw5]; exact OQ4.out.put rfl)
  have Owne5 := Lib.hid (show we5.ownsRow (w3.heap.size + 1) 42 3 (.slice (some ⟨ge, 0, none⟩) ne cqe) ne (p.elems.flatMap encElem) by rw [hw5]; exact ownsRow_setCell_below Own4.out (a := ⟨w3.heap.size, 0, none⟩) (Nat.lt_succ_self _) _)
  have HBe5 := Lib.hid (HB3.out.below hxe5.out)
  clear hw5 d0 f0 hx4 Own4 OQ4
  obtain ⟨_, d0, d1, d2, d3, d4, d5, d6, d7, d8⟩ := OQe5.out.box
  dsimp only at d0 d1 d2 d3
  obtain ⟨x, hx⟩ := get_some hP.out.e.len han
  obtain ⟨y, hy⟩ := get_some hP.out.e.len hdn
  have e1 : we5.cell? ⟨ge, d * 3, none⟩ = some (.string y.name) := own_at encElem_len Owne5.out (k := 0) hy hdn rfl
  have e2 : we5.cell? ⟨ge, a * 3, none⟩ = some (.string x.name) := own_at encElem_len Owne5.out (k := 0) hx han rfl
  have f1 := Owne5.out.frozenAt (a * 3)
  have Hx := Lib.hid hx
  have Hy := Lib.hid hy
  clear hx hy
  refine wp_region_still_tail 11 (by kernel_rfl) (by kernel_rfl) ?_
  simp only [List.take_succ_cons, List.take_zero, List.drop_succ_cons, List.drop_zero]
  change wpStill _ _ (World.drew _) _ _ _
  repeat still_step
  refine wpStill_nil ?_
  change wpList _ _ _ _ _ (World.drew _)
  go_wp2_with fail
  refine name_calls fun w6 hw6 => ?_
  have hx6 := Lib.hid (show Below w3.heap.size w3 w6 by rw [hw6]; exact (hxe5.out.setCell (p := ⟨ge, a * 3, none⟩) (by show w3.heap.size ≤ ge; omega) _).drew)
  have Own6 : w6.ownsRow (w3.heap.size + 1) 42 3 (.slice (some ⟨ge, 0, none⟩) ne cqe) ne ((p.elems.set a (rename x y.name)).flatMap encElem) := by rw [hw6]; exact (own_put encElem_len Owne5.out (k := 0) Hx.out (by omega) (x' := rename x y.name) rfl).1.drew
  have HP6 := ((hP.out.below (below_step Hb3.out hx6.out Hb3.out.size)).setE (c := cqe) (owns_row encElem_len Own6 (by omega)).1 (by intro h; cases h) (fit_rename hP.out.fit.e Hx.out Hy.out))
  refine (check_l Hn2.out HP6).mono ?_
  rintro e w7 ⟨rfl, hbx⟩
  rw [twice_elem Hc.out had Hx.out Hy.out]
  have hx7 := Lib.hid (below_step hx6.out hbx hx6.out.size)
  clear hbx hw6 Own6 HP6 hx6 d0 d1 d2 d3 d4 d5 d6 d7 d8 e1 e2 f1 OQe5 Owne5 hxe5 HBe5
  have HB7 := Lib.hid (HB3.out.below hx7.out)
  have Hb7 := Lib.hid (below_step Hb3.out hx7.out Hb3.out.size)
  obtain ⟨_, c0, c1, c2, c3, c4, c5, c6, c7, c8⟩ := HB7.out
  dsimp only at c0 c1 c2 c3
  cases q2 : decide ((1 : Int) < (ns : Int))
  case false =>
    cases q3 : ((nj : Int) == 0)
    case true =>
      go_wp2_with fail
      go_ret
      exact ⟨rfl, Hb7.out⟩
    cases q4 : ((nj : Int) == 80)
    case true =>
      go_wp2_with fail
      go_ret
      exact ⟨rfl, Hb7.out⟩
    have hj0 : 0 < nj := by simp at q3; omega
    have hj8 : nj < 80 := by simp at q4; omega
    obtain ⟨t, ht⟩ : ∃ t : Nat, Int.tmod k (nj : Int) = (t : Int) := ⟨(Int.tmod k (nj : Int)).toNat, by have := Int.tmod_nonneg (nj : Int) k0; omega⟩
    have htn : t < nj := by have := Int.tmod_lt_of_pos k (show (0 : Int) < (nj : Int) by omega); omega
    have hj00 : (nj : Int) ≠ 0 := by omega
    have hwk : IntKind.i64.wrap k = k := IntWalk.i64_in _ (by omega)
    have hwt : IntKind.i64.wrap (t : Int) = (t : Int) := IntWalk.i64_in _ (by omega)
    have ht0 : (0 : Int) ≤ (t : Int) := by omega
    have hjn : nj ≠ 0 := by omega
    have htn2 : (t : Int) < (nj : Int) := by omega
    have hPw := Lib.hid (hP.out.below Hb7.out)
    obtain ⟨z, hz⟩ := get_some hPw.out.j.len htn
    obtain ⟨jb, jo, rfl, hjb, z0, z1, z2, z3⟩ := hPw.out.j.join hz
    have Hz := Lib.hid hz
    clear hz
    have hrow := Lib.hid (show Joins w7 (some ⟨jb, jo, none⟩) nj p.joins from hPw.out.j)
    have hbw := HB7.out.lt
    go_wp2_with fail
    have hT := Still.refl w7
    have hO : OBox (w7.alloc (.cells #[.slice ae ne ce, .slice (some ⟨jb, jo, none⟩) nj cj, .slice as_ ns cs, .slice al nl cl, .int .i64 p.top, .int .i64 p.brake, .int .i64 p.margin, .int .i64 p.throw, .bool p.hard] 32)) w7.heap.size ⟨ae, ne, ce, some ⟨jb, jo, none⟩, nj, cj, as_, ns, cs, al, nl, cl, lv⟩ p := obox_new w7 ⟨ae, ne, ce, some ⟨jb, jo, none⟩, nj, cj, as_, ns, cs, al, nl, cl, lv⟩ p
    go_region_held3 (fun w' => w'.cell? ⟨w.heap.size, 1, none⟩ = some (.slice (some ⟨jb, jo, none⟩) nj cj) ∧ w'.cell? ⟨jb, jo + t * 4, none⟩ = some (.int .i64 z.a.e) ∧ w'.cell? ⟨jb, jo + t * 4 + 1, none⟩ = some (.int .i64 z.a.n) ∧ w'.cell? ⟨jb, jo + t * 4 + 2, none⟩ = some (.int .i64 z.b.e) ∧ w'.cell? ⟨jb, jo + t * 4 + 3, none⟩ = some (.int .i64 z.b.n))
      (first | exact join_all hbw hjb c1 z0 z1 z2 z3 (Still.out (by repeat (first | with_reducible exact hT | with_reducible apply Still.drew | with_reducible apply Still.drewN | with_reducible apply Still.alloc | (with_reducible refine Still.set ?_ (by omega) _)))) | go_keep)
      (first
      | (refine step_join0 (base := w7.heap.size + 1) (b := w7.heap.size + 1) (s := .tmp 93) (x := .tmp 95) (nj := nj) (cj := cj) (ad := ⟨jb, jo, none⟩) (js := p.joins) ?zzg ?zzo ?zzs ?zzx ?zzn ?zzown ?zzrow ?zzbx ?_
         case zzs => exact rfl
         case zzx => exact rfl
         case zzg => exact rfl
         case zzo => exact rfl
         case zzown => (repeat (first | ((with_reducible refine lit_ownJ ?_ ?_); omega; simp; done) | with_reducible apply World.ownsRow.drew | with_reducible apply World.ownsRow.alloc))
         case zzn => omega
         case zzrow => (refine hrow.out.below (Still.out ?_); (repeat (first | with_reducible exact hT | with_reducible apply Still.drew | with_reducible apply Still.drewN | with_reducible apply Still.alloc)))
         case zzbx => (refine OBox.lt (b := w7.heap.size) (v := ⟨ae, ne, ce, some ⟨jb, jo, none⟩, nj, cj, as_, ns, cs, al, nl, cl, lv⟩) (p := p) ?_; exact (by repeat (first | with_reducible exact hO | with_reducible apply OBox.drew | with_reducible apply OBox.alloc)))
         intro v4 w4 hown4 hgrow4
         have hone := Row.grown (b := w7.heap.size + 1 + 1) (x := z) ?zzone hgrow4 (by simp)
         case zzone => (repeat (first | with_reducible exact hone | ((with_reducible refine lit_one ?_); simp; done) | with_reducible apply Row.drew | with_reducible apply Row.alloc))
         have hO := OBox.grown (b := w7.heap.size) (v := ⟨ae, ne, ce, some ⟨jb, jo, none⟩, nj, cj, as_, ns, cs, al, nl, cl, lv⟩) (p := p) ?zzbox hgrow4 (by intro k hk; cases hk; omega)
         case zzbox => (repeat (first | with_reducible exact hO | with_reducible apply OBox.drew | with_reducible apply OBox.alloc))
         have hT := Still.grown (w := w7) ?zzstill hgrow4 (by intro k hk; cases hk; omega)
         case zzstill => (repeat (first | with_reducible exact hT | with_reducible apply Still.drew | with_reducible apply Still.drewN | with_reducible apply Still.alloc)))
      | (refine step_join0 (base := w7.heap.size + 1) (b := w7.heap.size + 1 + 1) (s := .tmp 93) (x := .tmp 95) (nj := nj) (cj := cj) (ad := ⟨jb, jo, none⟩) (js := p.joins) ?zzg ?zzo ?zzs ?zzx ?zzn ?zzown ?zzrow ?zzbx ?_
         case zzs => exact rfl
         case zzx => exact rfl
         case zzg => exact rfl
         case zzo => exact rfl
         case zzown => (repeat (first | ((with_reducible refine lit_ownJ ?_ ?_); omega; simp; done) | with_reducible apply World.ownsRow.drew | with_reducible apply World.ownsRow.alloc))
         case zzn => omega
         case zzrow => (refine hrow.out.below (Still.out ?_); (repeat (first | with_reducible exact hT | with_reducible apply Still.drew | with_reducible apply Still.drewN | with_reducible apply Still.alloc)))
         case zzbx => (refine OBox.lt (b := w7.heap.size) (v := ⟨ae, ne, ce, some ⟨jb, jo, none⟩, nj, cj, as_, ns, cs, al, nl, cl, lv⟩) (p := p) ?_; exact (by repeat (first | with_reducible exact hO | with_reducible apply OBox.drew | with_reducible apply OBox.alloc)))
         intro v4 w4 hown4 hgrow4
         have hone := Row.grown (b := w7.heap.size + 1) (x := z) ?zzone hgrow4 (by simp)
         case zzone => (repeat (first | with_reducible exact hone | ((with_reducible refine lit_one ?_); simp; done) | with_reducible apply Row.drew | with_reducible apply Row.alloc))
         have hO := OBox.grown (b := w7.heap.size) (v := ⟨ae, ne, ce, some ⟨jb, jo, none⟩, nj, cj, as_, ns, cs, al, nl, cl, lv⟩) (p := p) ?zzbox hgrow4 (by intro k hk; cases hk; omega)
         case zzbox => (repeat (first | with_reducible exact hO | with_reducible apply OBox.drew | with_reducible apply OBox.alloc))
         have hT := Still.grown (w := w7) ?zzstill hgrow4 (by intro k hk; cases hk; omega)
         case zzstill => (repeat (first | with_reducible exact hT | with_reducible apply Still.drew | with_reducible apply Still.drewN | with_reducible apply Still.alloc)))
      | (refine step_join0 (base := w7.heap.size + 1) (b := w7.heap.size + 1) (s := .tmp 93) (x := .tmp 95) (nj := nj) (cj := cj) (ad := ⟨jb, jo, none⟩) (js := p.joins) ?zzg ?zzo ?zzs ?zzx ?zzn ?zzown ?zzrow ?zzbx ?_
         case zzs => exact rfl
         case zzx => exact rfl
         case zzg => exact rfl
         case zzo => exact rfl
         case zzown => (repeat (first | ((with_reducible refine lit_ownJ ?_ ?_); omega; simp; done) | with_reducible apply World.ownsRow.drew | with_reducible apply World.ownsRow.alloc))
         case zzn => omega
         case zzrow => (refine hrow.out.below (Still.out ?_); (repeat (first | with_reducible exact hT | with_reducible apply Still.drew | with_reducible apply Still.drewN | with_reducible apply Still.alloc)))
         case zzbx => (refine OBox.lt (b := w7.heap.size) (v := ⟨ae, ne, ce, some ⟨jb, jo, none⟩, nj, cj, as_, ns, cs, al, nl, cl, lv⟩) (p := p) ?_; exact (by repeat (first | with_reducible exact hO | with_reducible apply OBox.drew | with_reducible apply OBox.alloc)))
         intro v4 w4 hown4 hgrow4
         have hO := OBox.grown (b := w7.heap.size) (v := ⟨ae, ne, ce, some ⟨jb, jo, none⟩, nj, cj, as_, ns, cs, al, nl, cl, lv⟩) (p := p) ?zzbox hgrow4 (by intro k hk; cases hk; omega)
         case zzbox => (repeat (first | with_reducible exact hO | with_reducible apply OBox.drew | with_reducible apply OBox.alloc))
         have hT := Still.grown (w := w7) ?zzstill hgrow4 (by intro k hk; cases hk; omega)
         case zzstill => (repeat (first | with_reducible exact hT | with_reducible apply Still.drew | with_reducible apply Still.drewN | with_reducible apply Still.alloc)))
      | (refine step_join1 (base := w7.heap.size + 1) (v := v4) (nj := nj) (ad := ⟨w4.heap.size, 0, none⟩) (s := .tmp 96) (x := .tmp 107) (c := 1) (js := p.joins) (j := z) ?zzg ?zzo ?zzs ?zzx ?zzn ?zzown ?zzrow ?zzbx ?_
         case zzs => exact rfl
         case zzx => exact rfl
         case zzg => exact rfl
         case zzo => exact rfl
         case zzown => (repeat (first | with_reducible exact hown4 | with_reducible apply World.ownsRow.drew | with_reducible apply World.ownsRow.alloc))
         case zzrow => (repeat (first | with_reducible exact hone | ((with_reducible refine lit_one ?_); simp; done) | with_reducible apply Row.drew | with_reducible apply Row.alloc))
         case zzn => omega
         case zzbx => (refine OBox.lt (b := w7.heap.size) (v := ⟨ae, ne, ce, some ⟨jb, jo, none⟩, nj, cj, as_, ns, cs, al, nl, cl, lv⟩) (p := p) ?_; exact (by repeat (first | with_reducible exact hO | with_reducible apply OBox.drew | with_reducible apply OBox.alloc)))
         intro g5 c5 w5 hg5 hown5 hgrow5
         have hO := OBox.grown (b := w7.heap.size) (v := ⟨ae, ne, ce, some ⟨jb, jo, none⟩, nj, cj, as_, ns, cs, al, nl, cl, lv⟩) (p := p) ?zzbox hgrow5 (own_not hown4)
         case zzbox => (repeat (first | with_reducible exact hO | with_reducible apply OBox.drew | with_reducible apply OBox.alloc))
         have hT := Still.grown (w := w7) ?zzstill hgrow5 (own_from hown4)
         case zzstill => (repeat (first | with_reducible exact hT | with_reducible apply Still.drew | with_reducible apply Still.drewN | with_reducible apply Still.alloc))
         have d1 := hO.box.c1
         have f1 := hO.frozen 1)
      | (refine step_join1 (base := w7.heap.size + 1) (v := v4) (nj := nj) (ad := ⟨w7.heap.size + 1 + 1, 0, none⟩) (s := .tmp 96) (x := .tmp 107) (c := 1) (js := p.joins) (j := z) ?zzg ?zzo ?zzs ?zzx ?zzn ?zzown ?zzrow ?zzbx ?_
         case zzs => exact rfl
         case zzx => exact rfl
         case zzg => exact rfl
         case zzo => exact rfl
         case zzown => (repeat (first | with_reducible exact hown4 | with_reducible apply World.ownsRow.drew | with_reducible apply World.ownsRow.alloc))
         case zzrow => (repeat (first | with_reducible exact hone | ((with_reducible refine lit_one ?_); simp; done) | with_reducible apply Row.drew | with_reducible apply Row.alloc))
         case zzn => omega
         case zzbx => (refine OBox.lt (b := w7.heap.size) (v := ⟨ae, ne, ce, some ⟨jb, jo, none⟩, nj, cj, as_, ns, cs, al, nl, cl, lv⟩) (p := p) ?_; exact (by repeat (first | with_reducible exact hO | with_reducible apply OBox.drew | with_reducible apply OBox.alloc)))
         intro g5 c5 w5 hg5 hown5 hgrow5
         have hO := OBox.grown (b := w7.heap.size) (v := ⟨ae, ne, ce, some ⟨jb, jo, none⟩, nj, cj, as_, ns, cs, al, nl, cl, lv⟩) (p := p) ?zzbox hgrow5 (own_not hown4)
         case zzbox => (repeat (first | with_reducible exact hO | with_reducible apply OBox.drew | with_reducible apply OBox.alloc))
         have hT := Still.grown (w := w7) ?zzstill hgrow5 (own_from hown4)
         case zzstill => (repeat (first | with_reducible exact hT | with_reducible apply Still.drew | with_reducible apply Still.drewN | with_reducible apply Still.alloc))
         have d1 := hO.box.c1
         have f1 := hO.frozen 1)
      | (refine step_join1 (base := w7.heap.size + 1) (v := v4) (nj := nj) (ad := ⟨w7.heap.size + 1, 0, none⟩) (s := .tmp 96) (x := .tmp 107) (c := 1) (js := p.joins) (j := z) ?zzg ?zzo ?zzs ?zzx ?zzn ?zzown ?zzrow ?zzbx ?_
         case zzs => exact rfl
         case zzx => exact rfl
         case zzg => exact rfl
         case zzo => exact rfl
         case zzown => (repeat (first | with_reducible exact hown4 | with_reducible apply World.ownsRow.drew | with_reducible apply World.ownsRow.alloc))
         case zzrow => (repeat (first | with_reducible exact hone | ((with_reducible refine lit_one ?_); simp; done) | with_reducible apply Row.drew | with_reducible apply Row.alloc))
         case zzn => omega
         case zzbx => (refine OBox.lt (b := w7.heap.size) (v := ⟨ae, ne, ce, some ⟨jb, jo, none⟩, nj, cj, as_, ns, cs, al, nl, cl, lv⟩) (p := p) ?_; exact (by repeat (first | with_reducible exact hO | with_reducible apply OBox.drew | with_reducible apply OBox.alloc)))
         intro g5 c5 w5 hg5 hown5 hgrow5
         have hO := OBox.grown (b := w7.heap.size) (v := ⟨ae, ne, ce, some ⟨jb, jo, none⟩, nj, cj, as_, ns, cs, al, nl, cl, lv⟩) (p := p) ?zzbox hgrow5 (own_not hown4)
         case zzbox => (repeat (first | with_reducible exact hO | with_reducible apply OBox.drew | with_reducible apply OBox.alloc))
         have hT := Still.grown (w := w7) ?zzstill hgrow5 (own_from hown4)
         case zzstill => (repeat (first | with_reducible exact hT | with_reducible apply Still.drew | with_reducible apply Still.drewN | with_reducible apply Still.alloc))
         have d1 := hO.box.c1
         have f1 := hO.frozen 1))
    all_goals
      obtain ⟨_, d0, d1, d2, d3, d4, d5, d6, d7, d8⟩ := hO.box
      dsimp only at d0 d1 d2 d3
      go_wp2_with fail
      refine name_calls fun w11 hw11 => ?_
      have hx11 := Lib.hid (show Still w7 w11 by rw [hw11]; repeat (first | with_reducible exact hT | with_reducible apply Still.drew | with_reducible apply Still.drewN | with_reducible apply Still.alloc | ((with_reducible refine Still.set ?_ ?_ _); rotate_left; omega)))
      have Own11 : w11.ownsRow (w7.heap.size + 1) 48 4 (.slice (some ⟨g5, 0, none⟩) (nj + 1) c5) (nj + 1) ((p.joins ++ [z]).flatMap encJoin) := by rw [hw11]; exact ownsRow_setCell_below hown5 (a := ⟨w7.heap.size, 1, none⟩) (Nat.lt_succ_self _) _
      have HP11 := ((hP.out.below (below_step Hb7.out hx11.out.out Hb7.out.size)).setJ (c := c5) (owns_row encJoin_len Own11 (by omega)).1 (by intro h; cases h) (fit_snoc hP.out.fit.j Hz.out))
      refine (check_l Hn2.out HP11).mono ?_
      rintro e w12 ⟨rfl, hbx⟩
      rw [twice_join Hc.out (List.mem_of_getElem? Hz.out) (by have := hP.out.j.len; dsimp only at this; omega)]
      have Hb12 := Lib.hid (below_step (below_step Hb7.out hx11.out.out Hb7.out.size) hbx (Nat.le_trans Hb7.out.size hx11.out.out.size))
      clear hbx hw11 Own11 HP11 hx11 d0 d1 d2 d3 d4 d5 d6 d7 d8 f1
      go_wp2_with fail
      go_ret
      exact ⟨rfl, Hb12.out⟩
  have hs1 : 1 < ns := by simp at q2; omega
  obtain ⟨m0, hm0⟩ : ∃ m0 : Nat, Int.tmod i ((ns : Int) - 1) = (m0 : Int) := ⟨(Int.tmod i ((ns : Int) - 1)).toNat, by have := Int.tmod_nonneg ((ns : Int) - 1) i0; omega⟩
  obtain ⟨m, hm⟩ : ∃ m : Nat, (1 : Int) + (m0 : Int) = (m : Int) := ⟨1 + m0, by omega⟩
  have hmn : m < ns := by have := Int.tmod_lt_of_pos i (show (0 : Int) < (ns : Int) - 1 by omega); omega
  have hm1 : 1 ≤ m := by omega
  have hz1 : ((ns : Int) - 1) ≠ 0 := by omega
  have hwr : IntKind.i64.wrap ((ns : Int) - 1) = (ns : Int) - 1 := IntWalk.i64_in _ (by omega)
  have hwm : IntKind.i64.wrap (m : Int) = (m : Int) := IntWalk.i64_in _ (by omega)
  have hwi : IntKind.i64.wrap i = i := IntWalk.i64_in _ (by omega)
  have hs0 : 0 < ns := by omega
  have hs0' : (0 : Int) < (ns : Int) := by omega
  have hrow := Lib.hid ((hP.out.below Hb7.out).s.below (below_new2 w7 (.cells #[.slice ae ne ce, .slice aj nj cj, .slice as_ ns cs, .slice al nl cl, .int .i64 p.top, .int .i64 p.brake, .int .i64 p.margin, .int .i64 p.throw, .bool p.hard] 32) (.cells #[] 46)))
  have hown := Lib.hid (lit_own0 w7 46 4 (.cells #[.slice ae ne ce, .slice aj nj cj, .slice as_ ns cs, .slice al nl cl, .int .i64 p.top, .int .i64 p.brake, .int .i64 p.margin, .int .i64 p.throw, .bool p.hard] 32))
  go_wp2_with (at_builtin; refine wpList_app0 encSig_len encSig_one _ rfl _ _ 29 rfl (w7.heap.size + 1) 46 (.agg #[.string ByteArray.empty, .int .i64 0, .int .i64 0, .bool false]) 40 Try.underlying29 info_sig rfl (by decide) (w7.heap.size + 1) rfl hown.out as_ ns cs p.sigs rfl hrow.out hP.out.fit.sc (by simp [maxLen]; omega) (by omega) (by simp) ?_)
  intro v4 ws4 hown4 hgrow4
  obtain ⟨gs, cqs, rfl, hgs, hgs4⟩ := own_shape hown4 (by omega)
  have Own4 := Lib.hid hown4
  have hx4 : Below w7.heap.size w7 ws4 := (below_new2 w7 (.cells #[.slice ae ne ce, .slice aj nj cj, .slice as_ ns cs, .slice al nl cl, .int .i64 p.top, .int .i64 p.brake, .int .i64 p.margin, .int .i64 p.throw, .bool p.hard] 32) (.cells #[] 46)).grown hgrow4 (by simp; omega) (by intro k hk; simp at hk; omega)
  have OQ4 := Lib.hid (((obox_new w7 ⟨ae, ne, ce, aj, nj, cj, as_, ns, cs, al, nl, cl, lv⟩ p).alloc (.cells #[] 46)).grown hgrow4 (by intro k hk; simp at hk; omega))
  clear hown4 hgrow4 hrow hown hgs4 c0 c1 c2 c3 c4 c5 c6 c7 c8
  have d0 := OQ4.out.box.c2
  dsimp only at d0
  have f0 := OQ4.out.frozen 2
  go_wp2_with fail
  refine name_code fun ws5 hw5 => ?_
  have hxs5 := Lib.hid (show Below w7.heap.size w7 ws5 by rw [hw5]; exact hx4.setCell (p := ⟨w7.heap.size, 2, none⟩) (Nat.le_refl _) _)
  have OQs5 := Lib.hid (show OBox ws5 w7.heap.size ⟨ae, ne, ce, aj, nj, cj, some ⟨gs, 0, none⟩, ns, cqs, al, nl, cl, lv⟩ p by rw [hw5]; exact OQ4.out.put rfl)
  have Owns5 := Lib.hid (show ws5.ownsRow (w7.heap.size + 1) 46 4 (.slice (some ⟨gs, 0, none⟩) ns cqs) ns (p.sigs.flatMap encSig) by rw [hw5]; exact ownsRow_setCell_below Own4.out (a := ⟨w7.heap.size, 2, none⟩) (Nat.lt_succ_self _) _)
  have HBs5 := Lib.hid (HB7.out.below hxs5.out)
  clear hw5 d0 f0 hx4 Own4 OQ4
  obtain ⟨_, d0, d1, d2, d3, d4, d5, d6, d7, d8⟩ := OQs5.out.box
  dsimp only at d0 d1 d2 d3
  obtain ⟨x, hx⟩ := get_some hP.out.s.len (show 0 < ns by omega)
  obtain ⟨y, hy⟩ := get_some hP.out.s.len hmn
  have e1 : ws5.cell? ⟨gs, m * 4, none⟩ = some (.string y.name) := own_at encSig_len Owns5.out (k := 0) hy hmn rfl
  have e2 : ws5.cell? ⟨gs, 0, none⟩ = some (.string x.name) := by have := own_at encSig_len Owns5.out (k := 0) hx (show 0 < ns by omega) rfl; simpa using this
  have f1 := Owns5.out.frozenAt 0
  have Hx := Lib.hid hx
  have Hy := Lib.hid hy
  clear hx hy
  obtain ⟨_, c0, c1, c2, c3, c4, c5, c6, c7, c8⟩ := HBs5.out
  dsimp only at c0 c1 c2 c3
  refine wp_region_still_tail 17 (by kernel_rfl) (by kernel_rfl) ?_
  simp only [List.take_succ_cons, List.take_zero, List.drop_succ_cons, List.drop_zero]
  change wpStill _ _ (World.drew _) _ _ _
  repeat still_step
  refine wpStill_nil ?_
  change wpList _ _ _ _ _ (World.drew _)
  go_wp2_with fail
  refine name_calls fun w9 hw9 => ?_
  have hx9 := Lib.hid (show Below w7.heap.size w7 w9 by rw [hw9]; exact (hxs5.out.setCell (p := ⟨gs, 0, none⟩) (by show w7.heap.size ≤ gs; omega) _).drew)
  have Own9 : w9.ownsRow (w7.heap.size + 1) 46 4 (.slice (some ⟨gs, 0, none⟩) ns cqs) ns ((p.sigs.set 0 (resign x y.name)).flatMap encSig) := by rw [hw9]; exact (own_put encSig_len Owns5.out (i := 0) (k := 0) Hx.out (by omega) (x' := resign x y.name) rfl).1.drew
  have HP9 := ((hP.out.below (below_step Hb7.out hx9.out Hb7.out.size)).setS (c := cqs) (owns_row encSig_len Own9 (by omega)).1 (by intro h; cases h) (fit_resign hP.out.fit.s Hx.out Hy.out))
  refine (check_l Hn2.out HP9).mono ?_
  rintro e w10 ⟨rfl, hbx⟩
  rw [twice_sig Hc.out (by omega) Hx.out Hy.out]
  have hx10 := Lib.hid (below_step hx9.out hbx hx9.out.size)
  clear hbx hw9 Own9 HP9 hx9 c0 c1 c2 c3 c4 c5 c6 c7 c8 d0 d1 d2 d3 d4 d5 d6 d7 d8 e1 e2 f1 OQs5 Owns5 hxs5 HBs5 hwr hwm hwi hs0 hs0' hm hm0 hz1 hmn hm1
  have HB10 := Lib.hid (HB7.out.below hx10.out)
  have Hb10 := Lib.hid (below_step Hb7.out hx10.out Hb7.out.size)
  obtain ⟨_, c0, c1, c2, c3, c4, c5, c6, c7, c8⟩ := HB10.out
  dsimp only at c0 c1 c2 c3
  cases q3 : ((nj : Int) == 0)
  case true =>
    go_wp2_with fail
    go_ret
    exact ⟨rfl, Hb10.out⟩
  cases q4 : ((nj : Int) == 80)
  case true =>
    go_wp2_with fail
    go_ret
    exact ⟨rfl, Hb10.out⟩
  have hj0 : 0 < nj := by simp at q3; omega
  have hj8 : nj < 80 := by simp at q4; omega
  obtain ⟨t, ht⟩ : ∃ t : Nat, Int.tmod k (nj : Int) = (t : Int) := ⟨(Int.tmod k (nj : Int)).toNat, by have := Int.tmod_nonneg (nj : Int) k0; omega⟩
  have htn : t < nj := by have := Int.tmod_lt_of_pos k (show (0 : Int) < (nj : Int) by omega); omega
  have hj00 : (nj : Int) ≠ 0 := by omega
  have hwk : IntKind.i64.wrap k = k := IntWalk.i64_in _ (by omega)
  have hwt : IntKind.i64.wrap (t : Int) = (t : Int) := IntWalk.i64_in _ (by omega)
  have ht0 : (0 : Int) ≤ (t : Int) := by omega
  have hjn : nj ≠ 0 := by omega
  have htn2 : (t : Int) < (nj : Int) := by omega
  have hPw := Lib.hid (hP.out.below Hb10.out)
  obtain ⟨z, hz⟩ := get_some hPw.out.j.len htn
  obtain ⟨jb, jo, rfl, hjb, z0, z1, z2, z3⟩ := hPw.out.j.join hz
  have Hz := Lib.hid hz
  clear hz
  have hrow := Lib.hid (show Joins w10 (some ⟨jb, jo, none⟩) nj p.joins from hPw.out.j)
  have hbw := HB10.out.lt
  go_wp2_with fail
  have hT := Still.refl w10
  have hO : OBox (w10.alloc (.cells #[.slice ae ne ce, .slice (some ⟨jb, jo, none⟩) nj cj, .slice as_ ns cs, .slice al nl cl, .int .i64 p.top, .int .i64 p.brake, .int .i64 p.margin, .int .i64 p.throw, .bool p.hard] 32)) w10.heap.size ⟨ae, ne, ce, some ⟨jb, jo, none⟩, nj, cj, as_, ns, cs, al, nl, cl, lv⟩ p := obox_new w10 ⟨ae, ne, ce, some ⟨jb, jo, none⟩, nj, cj, as_, ns, cs, al, nl, cl, lv⟩ p
  go_region_held3 (fun w' => w'.cell? ⟨w.heap.size, 1, none⟩ = some (.slice (some ⟨jb, jo, none⟩) nj cj) ∧ w'.cell? ⟨jb, jo + t * 4, none⟩ = some (.int .i64 z.a.e) ∧ w'.cell? ⟨jb, jo + t * 4 + 1, none⟩ = some (.int .i64 z.a.n) ∧ w'.cell? ⟨jb, jo + t * 4 + 2, none⟩ = some (.int .i64 z.b.e) ∧ w'.cell? ⟨jb, jo + t * 4 + 3, none⟩ = some (.int .i64 z.b.n))
    (first | exact join_all hbw hjb c1 z0 z1 z2 z3 (Still.out (by repeat (first | with_reducible exact hT | with_reducible apply Still.drew | with_reducible apply Still.drewN | with_reducible apply Still.alloc | (with_reducible refine Still.set ?_ (by omega) _)))) | go_keep)
    (first
    | (refine step_join0 (base := w10.heap.size + 1) (b := w10.heap.size + 1) (s := .tmp 93) (x := .tmp 95) (nj := nj) (cj := cj) (ad := ⟨jb, jo, none⟩) (js := p.joins) ?zzg ?zzo ?zzs ?zzx ?zzn ?zzown ?zzrow ?zzbx ?_
       case zzs => exact rfl
       case zzx => exact rfl
       case zzg => exact rfl
       case zzo => exact rfl
       case zzown => (repeat (first | ((with_reducible refine lit_ownJ ?_ ?_); omega; simp; done) | with_reducible apply World.ownsRow.drew | with_reducible apply World.ownsRow.alloc))
       case zzn => omega
       case zzrow => (refine hrow.out.below (Still.out ?_); (repeat (first | with_reducible exact hT | with_reducible apply Still.drew | with_reducible apply Still.drewN | with_reducible apply Still.alloc)))
       case zzbx => (refine OBox.lt (b := w10.heap.size) (v := ⟨ae, ne, ce, some ⟨jb, jo, none⟩, nj, cj, as_, ns, cs, al, nl, cl, lv⟩) (p := p) ?_; exact (by repeat (first | with_reducible exact hO | with_reducible apply OBox.drew | with_reducible apply OBox.alloc)))
       intro v4 w4 hown4 hgrow4
       have hone := Row.grown (b := w10.heap.size + 1 + 1) (x := z) ?zzone hgrow4 (by simp)
       case zzone => (repeat (first | with_reducible exact hone | ((with_reducible refine lit_one ?_); simp; done) | with_reducible apply Row.drew | with_reducible apply Row.alloc))
       have hO := OBox.grown (b := w10.heap.size) (v := ⟨ae, ne, ce, some ⟨jb, jo, none⟩, nj, cj, as_, ns, cs, al, nl, cl, lv⟩) (p := p) ?zzbox hgrow4 (by intro k hk; cases hk; omega)
       case zzbox => (repeat (first | with_reducible exact hO | with_reducible apply OBox.drew | with_reducible apply OBox.alloc))
       have hT := Still.grown (w := w10) ?zzstill hgrow4 (by intro k hk; cases hk; omega)
       case zzstill => (repeat (first | with_reducible exact hT | with_reducible apply Still.drew | with_reducible apply Still.drewN | with_reducible apply Still.alloc)))
    | (refine step_join0 (base := w10.heap.size + 1) (b := w10.heap.size + 1 + 1) (s := .tmp 93) (x := .tmp 95) (nj := nj) (cj := cj) (ad := ⟨jb, jo, none⟩) (js := p.joins) ?zzg ?zzo ?zzs ?zzx ?zzn ?zzown ?zzrow ?zzbx ?_
       case zzs => exact rfl
       case zzx => exact rfl
       case zzg => exact rfl
       case zzo => exact rfl
       case zzown => (repeat (first | ((with_reducible refine lit_ownJ ?_ ?_); omega; simp; done) | with_reducible apply World.ownsRow.drew | with_reducible apply World.ownsRow.alloc))
       case zzn => omega
       case zzrow => (refine hrow.out.below (Still.out ?_); (repeat (first | with_reducible exact hT | with_reducible apply Still.drew | with_reducible apply Still.drewN | with_reducible apply Still.alloc)))
       case zzbx => (refine OBox.lt (b := w10.heap.size) (v := ⟨ae, ne, ce, some ⟨jb, jo, none⟩, nj, cj, as_, ns, cs, al, nl, cl, lv⟩) (p := p) ?_; exact (by repeat (first | with_reducible exact hO | with_reducible apply OBox.drew | with_reducible apply OBox.alloc)))
       intro v4 w4 hown4 hgrow4
       have hone := Row.grown (b := w10.heap.size + 1) (x := z) ?zzone hgrow4 (by simp)
       case zzone => (repeat (first | with_reducible exact hone | ((with_reducible refine lit_one ?_); simp; done) | with_reducible apply Row.drew | with_reducible apply Row.alloc))
       have hO := OBox.grown (b := w10.heap.size) (v := ⟨ae, ne, ce, some ⟨jb, jo, none⟩, nj, cj, as_, ns, cs, al, nl, cl, lv⟩) (p := p) ?zzbox hgrow4 (by intro k hk; cases hk; omega)
       case zzbox => (repeat (first | with_reducible exact hO | with_reducible apply OBox.drew | with_reducible apply OBox.alloc))
       have hT := Still.grown (w := w10) ?zzstill hgrow4 (by intro k hk; cases hk; omega)
       case zzstill => (repeat (first | with_reducible exact hT | with_reducible apply Still.drew | with_reducible apply Still.drewN | with_reducible apply Still.alloc)))
    | (refine step_join0 (base := w10.heap.size + 1) (b := w10.heap.size + 1) (s := .tmp 93) (x := .tmp 95) (nj := nj) (cj := cj) (ad := ⟨jb, jo, none⟩) (js := p.joins) ?zzg ?zzo ?zzs ?zzx ?zzn ?zzown ?zzrow ?zzbx ?_
       case zzs => exact rfl
       case zzx => exact rfl
       case zzg => exact rfl
       case zzo => exact rfl
       case zzown => (repeat (first | ((with_reducible refine lit_ownJ ?_ ?_); omega; simp; done) | with_reducible apply World.ownsRow.drew | with_reducible apply World.ownsRow.alloc))
       case zzn => omega
       case zzrow => (refine hrow.out.below (Still.out ?_); (repeat (first | with_reducible exact hT | with_reducible apply Still.drew | with_reducible apply Still.drewN | with_reducible apply Still.alloc)))
       case zzbx => (refine OBox.lt (b := w10.heap.size) (v := ⟨ae, ne, ce, some ⟨jb, jo, none⟩, nj, cj, as_, ns, cs, al, nl, cl, lv⟩) (p := p) ?_; exact (by repeat (first | with_reducible exact hO | with_reducible apply OBox.drew | with_reducible apply OBox.alloc)))
       intro v4 w4 hown4 hgrow4
       have hO := OBox.grown (b := w10.heap.size) (v := ⟨ae, ne, ce, some ⟨jb, jo, none⟩, nj, cj, as_, ns, cs, al, nl, cl, lv⟩) (p := p) ?zzbox hgrow4 (by intro k hk; cases hk; omega)
       case zzbox => (repeat (first | with_reducible exact hO | with_reducible apply OBox.drew | with_reducible apply OBox.alloc))
       have hT := Still.grown (w := w10) ?zzstill hgrow4 (by intro k hk; cases hk; omega)
       case zzstill => (repeat (first | with_reducible exact hT | with_reducible apply Still.drew | with_reducible apply Still.drewN | with_reducible apply Still.alloc)))
    | (refine step_join1 (base := w10.heap.size + 1) (v := v4) (nj := nj) (ad := ⟨w4.heap.size, 0, none⟩) (s := .tmp 96) (x := .tmp 107) (c := 1) (js := p.joins) (j := z) ?zzg ?zzo ?zzs ?zzx ?zzn ?zzown ?zzrow ?zzbx ?_
       case zzs => exact rfl
       case zzx => exact rfl
       case zzg => exact rfl
       case zzo => exact rfl
       case zzown => (repeat (first | with_reducible exact hown4 | with_reducible apply World.ownsRow.drew | with_reducible apply World.ownsRow.alloc))
       case zzrow => (repeat (first | with_reducible exact hone | ((with_reducible refine lit_one ?_); simp; done) | with_reducible apply Row.drew | with_reducible apply Row.alloc))
       case zzn => omega
       case zzbx => (refine OBox.lt (b := w10.heap.size) (v := ⟨ae, ne, ce, some ⟨jb, jo, none⟩, nj, cj, as_, ns, cs, al, nl, cl, lv⟩) (p := p) ?_; exact (by repeat (first | with_reducible exact hO | with_reducible apply OBox.drew | with_reducible apply OBox.alloc)))
       intro g5 c5 w5 hg5 hown5 hgrow5
       have hO := OBox.grown (b := w10.heap.size) (v := ⟨ae, ne, ce, some ⟨jb, jo, none⟩, nj, cj, as_, ns, cs, al, nl, cl, lv⟩) (p := p) ?zzbox hgrow5 (own_not hown4)
       case zzbox => (repeat (first | with_reducible exact hO | with_reducible apply OBox.drew | with_reducible apply OBox.alloc))
       have hT := Still.grown (w := w10) ?zzstill hgrow5 (own_from hown4)
       case zzstill => (repeat (first | with_reducible exact hT | with_reducible apply Still.drew | with_reducible apply Still.drewN | with_reducible apply Still.alloc))
       have d1 := hO.box.c1
       have f1 := hO.frozen 1)
    | (refine step_join1 (base := w10.heap.size + 1) (v := v4) (nj := nj) (ad := ⟨w10.heap.size + 1 + 1, 0, none⟩) (s := .tmp 96) (x := .tmp 107) (c := 1) (js := p.joins) (j := z) ?zzg ?zzo ?zzs ?zzx ?zzn ?zzown ?zzrow ?zzbx ?_
       case zzs => exact rfl
       case zzx => exact rfl
       case zzg => exact rfl
       case zzo => exact rfl
       case zzown => (repeat (first | with_reducible exact hown4 | with_reducible apply World.ownsRow.drew | with_reducible apply World.ownsRow.alloc))
       case zzrow => (repeat (first | with_reducible exact hone | ((with_reducible refine lit_one ?_); simp; done) | with_reducible apply Row.drew | with_reducible apply Row.alloc))
       case zzn => omega
       case zzbx => (refine OBox.lt (b := w10.heap.size) (v := ⟨ae, ne, ce, some ⟨jb, jo, none⟩, nj, cj, as_, ns, cs, al, nl, cl, lv⟩) (p := p) ?_; exact (by repeat (first | with_reducible exact hO | with_reducible apply OBox.drew | with_reducible apply OBox.alloc)))
       intro g5 c5 w5 hg5 hown5 hgrow5
       have hO := OBox.grown (b := w10.heap.size) (v := ⟨ae, ne, ce, some ⟨jb, jo, none⟩, nj, cj, as_, ns, cs, al, nl, cl, lv⟩) (p := p) ?zzbox hgrow5 (own_not hown4)
       case zzbox => (repeat (first | with_reducible exact hO | with_reducible apply OBox.drew | with_reducible apply OBox.alloc))
       have hT := Still.grown (w := w10) ?zzstill hgrow5 (own_from hown4)
       case zzstill => (repeat (first | with_reducible exact hT | with_reducible apply Still.drew | with_reducible apply Still.drewN | with_reducible apply Still.alloc))
       have d1 := hO.box.c1
       have f1 := hO.frozen 1)
    | (refine step_join1 (base := w10.heap.size + 1) (v := v4) (nj := nj) (ad := ⟨w10.heap.size + 1, 0, none⟩) (s := .tmp 96) (x := .tmp 107) (c := 1) (js := p.joins) (j := z) ?zzg ?zzo ?zzs ?zzx ?zzn ?zzown ?zzrow ?zzbx ?_
       case zzs => exact rfl
       case zzx => exact rfl
       case zzg => exact rfl
       case zzo => exact rfl
       case zzown => (repeat (first | with_reducible exact hown4 | with_reducible apply World.ownsRow.drew | with_reducible apply World.ownsRow.alloc))
       case zzrow => (repeat (first | with_reducible exact hone | ((with_reducible refine lit_one ?_); simp; done) | with_reducible apply Row.drew | with_reducible apply Row.alloc))
       case zzn => omega
       case zzbx => (refine OBox.lt (b := w10.heap.size) (v := ⟨ae, ne, ce, some ⟨jb, jo, none⟩, nj, cj, as_, ns, cs, al, nl, cl, lv⟩) (p := p) ?_; exact (by repeat (first | with_reducible exact hO | with_reducible apply OBox.drew | with_reducible apply OBox.alloc)))
       intro g5 c5 w5 hg5 hown5 hgrow5
       have hO := OBox.grown (b := w10.heap.size) (v := ⟨ae, ne, ce, some ⟨jb, jo, none⟩, nj, cj, as_, ns, cs, al, nl, cl, lv⟩) (p := p) ?zzbox hgrow5 (own_not hown4)
       case zzbox => (repeat (first | with_reducible exact hO | with_reducible apply OBox.drew | with_reducible apply OBox.alloc))
       have hT := Still.grown (w := w10) ?zzstill hgrow5 (own_from hown4)
       case zzstill => (repeat (first | with_reducible exact hT | with_reducible apply Still.drew | with_reducible apply Still.drewN | with_reducible apply Still.alloc))
       have d1 := hO.box.c1
       have f1 := hO.frozen 1))
  all_goals
    obtain ⟨_, d0, d1, d2, d3, d4, d5, d6, d7, d8⟩ := hO.box
    dsimp only at d0 d1 d2 d3
    go_wp2_with fail
    refine name_calls fun w11 hw11 => ?_
    have hx11 := Lib.hid (show Still w10 w11 by rw [hw11]; repeat (first | with_reducible exact hT | with_reducible apply Still.drew | with_reducible apply Still.drewN | with_reducible apply Still.alloc | ((with_reducible refine Still.set ?_ ?_ _); rotate_left; omega)))
    have Own11 : w11.ownsRow (w10.heap.size + 1) 48 4 (.slice (some ⟨g5, 0, none⟩) (nj + 1) c5) (nj + 1) ((p.joins ++ [z]).flatMap encJoin) := by rw [hw11]; exact ownsRow_setCell_below hown5 (a := ⟨w10.heap.size, 1, none⟩) (Nat.lt_succ_self _) _
    have HP11 := ((hP.out.below (below_step Hb10.out hx11.out.out Hb10.out.size)).setJ (c := c5) (owns_row encJoin_len Own11 (by omega)).1 (by intro h; cases h) (fit_snoc hP.out.fit.j Hz.out))
    refine (check_l Hn2.out HP11).mono ?_
    rintro e w12 ⟨rfl, hbx⟩
    rw [twice_join Hc.out (List.mem_of_getElem? Hz.out) (by have := hP.out.j.len; dsimp only at this; omega)]
    have Hb12 := Lib.hid (below_step (below_step Hb10.out hx11.out.out Hb10.out.size) hbx (Nat.le_trans Hb10.out.size hx11.out.out.size))
    clear hbx hw11 Own11 HP11 hx11 d0 d1 d2 d3 d4 d5 d6 d7 d8 f1
    go_wp2_with fail
    go_ret
    exact ⟨rfl, Hb12.out⟩
set_option maxRecDepth 100000 in
theorem planTwice_lifted (os : Os) (started : os.Started) (H : Type) (enc : TypeId × Value → H) :
    ReturnsInHanded {} Try.checked os 8 .any (Rows.planTwiceSpec.pre6 enc Try.prog Try.f8 Rows.planTwiceRow.domain false) (Rows.planTwiceSpec.post enc Try.prog Try.f8 false true false false) := by
  refine returnsInHanded_of_change (C := Try.checked) own started (by kernel_rfl) Try.func8
    (ChangeSpec.witness6 (enc := enc) (C := Try.checked) false ⟨#[], #[.agg #[.slice none 0 0, .slice none 0 0, .slice none 0 0, .slice none 0 0, .int .i64 0, .int .i64 0, .int .i64 0, .int .i64 0, .bool false], .int .u8 0, .int .u8 0], []⟩ 8 (by kernel_rfl) (by kernel_rfl) (by kernel_rfl) (by kernel_rfl)) ?_
  intro W base args ds gs before hval0 hW hcnd _
  have hval : ∀ (j : Nat) t v, Try.f8.params[j]? = some t → args[j]? = some v → Value.okWide Try.prog W .any base t v := hval0
  have hW' := hW
  obtain ⟨p, q, hA0, hV, rfl, hfz, hnd⟩ := hW
  have hA : DataW.TrodAll enc Try.prog W 0 (fun _ => true) true Try.f8.params.toList args.toList ds p := hA0
  rw [Try.params8] at hA hval
  obtain ⟨v0, vs0, d0, ds0, p0, q0, hargs, rfl, rfl, k0, r0⟩ := trodAll_cons hA
  obtain ⟨v1, vs1, d1, ds1, p1, q1, rfl, rfl, rfl, k1, r1⟩ := trodAll_cons r0
  obtain ⟨v2, vs2, d2, ds2, p2, q2, rfl, rfl, rfl, k2, r2⟩ := trodAll_cons r1
  obtain ⟨rfl, rfl, rfl⟩ := trodAll_nil r2
  obtain rfl : args = #[v0, v1, v2] := by cases args; simp_all
  obtain ⟨rfl, rfl⟩ := trodVars_none hV
  have lt0 : ∀ x ∈ p0, x.block < W.heap.size := by obtain ⟨m, hm⟩ := k0; exact DataW.trod_lt m _ _ _ hm
  have hv0 := hval 0 32 v0 rfl rfl
  have lt1 : ∀ x ∈ p1, x.block < W.heap.size := by obtain ⟨m, hm⟩ := k1; exact DataW.trod_lt m _ _ _ hm
  have hv1 := hval 1 5 v1 rfl rfl
  have lt2 : ∀ x ∈ p2, x.block < W.heap.size := by obtain ⟨m, hm⟩ := k2; exact DataW.trod_lt m _ _ _ hm
  have hv2 := hval 2 5 v2 rfl rfl
  have fin : Calls Try.prog 8 #[v0, v1, v2] W (fun e W' => e = .returned (.bool true) ∧ Below W.heap.size W W') := by
    obtain ⟨pv, p, rfl, hp⟩ := open_plan hv0 k0
    obtain ⟨x0, rfl, a0, a1⟩ := open_u8 hv1 k1
    obtain ⟨x1, rfl, b0, b1⟩ := open_u8 hv2 k2
    exact lawTwice_any W pv p x0 x1 a0 a1 b0 b1 hp
  clear hA0 hval0
  refine fin.mono fun e W' ⟨he, bel⟩ => ?_
  subst he
  exact ⟨_, rfl, _, _, _, [], _, [], hW', trodAll_mk1 (shut_bool Try.underlying4 _), (trodAll_cons_mk (Below.trod laidOut (by kernel_rfl) (of_decide_eq_true (by kernel_rfl)) k0 bel lt0) (trodAll_cons_mk (Below.trod laidOut (by kernel_rfl) (of_decide_eq_true (by kernel_rfl)) k1 bel lt1) (trodAll_cons_mk (Below.trod laidOut (by kernel_rfl) (of_decide_eq_true (by kernel_rfl)) k2 bel lt2) trodAll_mk0))), rfl, bel.frame _, fun h => by cases h⟩

/-- THE STATEMENT -/
theorem planTwice_holds : Rows.PlanTwiceSaid :=
  OpenClaim.holds_of_wide 8 Try.f8 rfl rfl rfl rfl rfl rfl rfl ⟨rfl, rfl, rfl, rfl, rfl⟩ rfl rfl rfl rfl rfl (by kernel_rfl) Try.func8 (by kernel_rfl)
    (of_decide_eq_true (by kernel_rfl)) (by unfold Func.isWrapper; first | (rw [if_pos (by decide +kernel)]; kernel_rfl) | (rw [if_neg (by decide +kernel)]; exact ⟨rfl, rfl⟩))
    (fun os started H enc _ => planTwice_lifted os started H enc)
end Go.Proofs.Ytlndfmflbdkpjaa
