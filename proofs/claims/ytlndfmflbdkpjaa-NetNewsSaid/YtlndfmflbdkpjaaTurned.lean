/- Walk of semaphorelaw2.Turned: whatever it turns, it hands back a plan that reads well. No condition beyond the plan that is read. -/
import Derived.Test.YtlndfmflbdkpjaaCopy
import Derived.Test.YtlndfmflbdkpjaaTill
import Derived.StillTailTactics
import Derived.Deep.RegionHeld3
set_option maxRecDepth 1000000
namespace Go.Proofs.Ytlndfmflbdkpjaa
open Go.ChangeShapes Go.WideShapes Go.ChangeAt Go.RowKit Go.Sort

theorem name_list {P : Program} {ops : Array Oper} {Q : Exit → Act → World → Prop} {l : List Oper} {a : Act} {w : World} (h : ∀ W, W = w → wpList P ops Q l a W) : wpList P ops Q l a w := h w rfl
theorem name_at (n : Nat) {P : Program} {ops : Array Oper} {Q : Exit → Act → World → Prop} {o : Oper} {rest : List Oper} {a : Act} {w : World} (_ : o.dst = some n) (h : ∀ W, W = w → wpList P ops Q (o :: rest) a W) : wpList P ops Q (o :: rest) a w := h w rfl
def zPV : PV := ⟨none, 0, 0, none, 0, 0, none, 0, 0, none, 0, 0, []⟩
def zPlan : Plan := ⟨[], [], [], [], 0, 0, 0, 0, false⟩
theorem obox_filled {W : World} {b : Nat} {v v' : PV} {p p' : Plan} (h : OBox W b v p) :
    OBox (((((((((W.setCell ⟨b, 0, none⟩ (.slice v'.ae v'.ne v'.ce)).setCell ⟨b, 1, none⟩ (.slice v'.aj v'.nj v'.cj)).setCell ⟨b, 2, none⟩ (.slice v'.as_ v'.ns v'.cs)).setCell ⟨b, 3, none⟩ (.slice v'.al v'.nl v'.cl)).setCell ⟨b, 4, none⟩ (.int .i64 p'.top)).setCell ⟨b, 5, none⟩ (.int .i64 p'.brake)).setCell ⟨b, 6, none⟩ (.int .i64 p'.margin)).setCell ⟨b, 7, none⟩ (.int .i64 p'.throw)).setCell ⟨b, 8, none⟩ (.bool p'.hard)) b v' p' := by
  exact ((((((((h.put (v' := { v with ae := v'.ae, ne := v'.ne, ce := v'.ce }) (p' := p) rfl).put (v' := { v with ae := v'.ae, ne := v'.ne, ce := v'.ce, aj := v'.aj, nj := v'.nj, cj := v'.cj }) (p' := p) rfl).put (v' := { v with ae := v'.ae, ne := v'.ne, ce := v'.ce, aj := v'.aj, nj := v'.nj, cj := v'.cj, as_ := v'.as_, ns := v'.ns, cs := v'.cs }) (p' := p) rfl).put (v' := { v with ae := v'.ae, ne := v'.ne, ce := v'.ce, aj := v'.aj, nj := v'.nj, cj := v'.cj, as_ := v'.as_, ns := v'.ns, cs := v'.cs, al := v'.al, nl := v'.nl, cl := v'.cl }) (p' := p) rfl).put (v' := { v with ae := v'.ae, ne := v'.ne, ce := v'.ce, aj := v'.aj, nj := v'.nj, cj := v'.cj, as_ := v'.as_, ns := v'.ns, cs := v'.cs, al := v'.al, nl := v'.nl, cl := v'.cl }) (p' := { p with top := p'.top }) rfl).put (v' := { v with ae := v'.ae, ne := v'.ne, ce := v'.ce, aj := v'.aj, nj := v'.nj, cj := v'.cj, as_ := v'.as_, ns := v'.ns, cs := v'.cs, al := v'.al, nl := v'.nl, cl := v'.cl }) (p' := { p with top := p'.top, brake := p'.brake }) rfl).put (v' := { v with ae := v'.ae, ne := v'.ne, ce := v'.ce, aj := v'.aj, nj := v'.nj, cj := v'.cj, as_ := v'.as_, ns := v'.ns, cs := v'.cs, al := v'.al, nl := v'.nl, cl := v'.cl }) (p' := { p with top := p'.top, brake := p'.brake, margin := p'.margin }) rfl).put (v' := { v with ae := v'.ae, ne := v'.ne, ce := v'.ce, aj := v'.aj, nj := v'.nj, cj := v'.cj, as_ := v'.as_, ns := v'.ns, cs := v'.cs, al := v'.al, nl := v'.nl, cl := v'.cl }) (p' := { p with top := p'.top, brake := p'.brake, margin := p'.margin, throw := p'.throw }) rfl).put rfl
theorem fit_set {α : Type} {P : α → Prop} {l : List α} (h : ∀ x ∈ l, P x) {a : Nat} {x y : α} (hx : l[a]? = some x) (hy : P x → P y) : ∀ z ∈ l.set a y, P z := by
  intro z hz
  rcases List.mem_or_eq_of_mem_set hz with h1 | h1
  · exact h z h1
  · subst h1; exact hy (h x (List.mem_of_getElem? hx))
theorem fit_len {l : List Elem} (h : ∀ x ∈ l, inI x.kind ∧ inI x.len ∧ x.name.size ≤ 9223372036854775807) {a : Nat} {x : Elem} (hx : l[a]? = some x) {v : Int} (hv : inI v) :
    ∀ z ∈ l.set a { x with len := v }, inI z.kind ∧ inI z.len ∧ z.name.size ≤ 9223372036854775807 := fit_set h hx fun q => ⟨q.1, hv, q.2.2⟩
theorem fit_kind {l : List Elem} (h : ∀ x ∈ l, inI x.kind ∧ inI x.len ∧ x.name.size ≤ 9223372036854775807) {a : Nat} {x : Elem} (hx : l[a]? = some x) {v : Int} (hv : inI v) :
    ∀ z ∈ l.set a { x with kind := v }, inI z.kind ∧ inI z.len ∧ z.name.size ≤ 9223372036854775807 := fit_set h hx fun q => ⟨hv, q.2.1, q.2.2⟩
theorem fit_jae {l : List Join} (h : ∀ x ∈ l, x.a.wf ∧ x.b.wf) {a : Nat} {x : Join} (hx : l[a]? = some x) {v : Int} (hv : inI v) : ∀ z ∈ l.set a { x with a := { x.a with e := v } }, z.a.wf ∧ z.b.wf := fit_set h hx fun q => ⟨⟨hv, q.1.2⟩, q.2⟩
theorem fit_jbn {l : List Join} (h : ∀ x ∈ l, x.a.wf ∧ x.b.wf) {a : Nat} {x : Join} (hx : l[a]? = some x) {v : Int} (hv : inI v) : ∀ z ∈ l.set a { x with b := { x.b with n := v } }, z.a.wf ∧ z.b.wf := fit_set h hx fun q => ⟨q.1, ⟨q.2.1, hv⟩⟩
theorem fit_sae {l : List Sig} (h : ∀ x ∈ l, x.at_.wf ∧ x.name.size ≤ 9223372036854775807) {a : Nat} {x : Sig} (hx : l[a]? = some x) {v : Int} (hv : inI v) : ∀ z ∈ l.set a { x with at_ := { x.at_ with e := v } }, z.at_.wf ∧ z.name.size ≤ 9223372036854775807 := fit_set h hx fun q => ⟨⟨hv, q.1.2⟩, q.2⟩
theorem fit_san {l : List Sig} (h : ∀ x ∈ l, x.at_.wf ∧ x.name.size ≤ 9223372036854775807) {a : Nat} {x : Sig} (hx : l[a]? = some x) {v : Int} (hv : inI v) : ∀ z ∈ l.set a { x with at_ := { x.at_ with n := v } }, z.at_.wf ∧ z.name.size ≤ 9223372036854775807 := fit_set h hx fun q => ⟨⟨q.1.1, hv⟩, q.2⟩
/-- what holds of the three boxes of Turned (the parameter's, the result's, the copy's) -/
structure Trn (w W : World) (v0 v : PV) (p q : Plan) : Prop where
  still : Below w.heap.size w W
  ob : PBox W w.heap.size v0 p
  oz : OBox W (w.heap.size + 1) zPV zPlan
  oq : OBox W (w.heap.size + 2) v q
section
variable {w W W' : World} {v0 v : PV} {p q : Plan}
theorem trn_new (w : World) (v : PV) (p : Plan) : Trn w (((w.alloc (.cells (v.cells p) 32)).alloc (.cells (zPV.cells zPlan) 32)).alloc (.cells (v.cells p) 32)) v v p p := by
  refine ⟨((below_new w _).alloc (by simp) _).alloc (by simp; omega) _, ?_, ?_, ?_⟩
  · exact ((pbox_new w v p).alloc _).alloc _
  · have := (obox_new (w.alloc (.cells (v.cells p) 32)) zPV zPlan).alloc (.cells (v.cells p) 32)
    simpa using this
  · have := obox_new ((w.alloc (.cells (v.cells p) 32)).alloc (.cells (zPV.cells zPlan) 32)) v p
    simpa using this
theorem Trn.alloc (h : Trn w W v0 v p q) (o : Obj) : Trn w (W.alloc o) v0 v p q := ⟨h.still.alloc h.still.size o, h.ob.alloc o, h.oz.alloc o, h.oq.alloc o⟩
theorem Trn.drew (h : Trn w W v0 v p q) : Trn w W.drew v0 v p q := ⟨h.still.drew, h.ob.below (Below.refl _ _).drew, h.oz, h.oq⟩
theorem Trn.grown (h : Trn w W v0 v p q) {row : Option Nat} (hg : W.grownBy W' row) (hr : ∀ k, row = some k → w.heap.size + 3 ≤ k) : Trn w W' v0 v p q :=
  ⟨h.still.grown hg h.still.size (fun k hk => by have := hr k hk; omega), h.ob.kept hg (fun e => by have := hr _ e.symm; omega), h.oz.grown hg (fun k hk => by have := hr k hk; omega), h.oq.grown hg (fun k hk => by have := hr k hk; omega)⟩
theorem Trn.put (h : Trn w W v0 v p q) {o : Nat} {u : Value} {v' : PV} {q' : Plan} (hc : (v.cells q).setIfInBounds o u = v'.cells q') : Trn w (W.setCell ⟨w.heap.size + 2, o, none⟩ u) v0 v' p q' :=
  ⟨h.still.setCell (p := ⟨w.heap.size + 2, o, none⟩) (by show w.heap.size ≤ w.heap.size + 2; omega) u,
    by
      have key : ∀ o', (W.setCell ⟨w.heap.size + 2, o, none⟩ u).cell? ⟨w.heap.size, o', none⟩ = W.cell? ⟨w.heap.size, o', none⟩ := fun o' => World.cell?_of_block (Below.heap_setCell W ⟨w.heap.size + 2, o, none⟩ u w.heap.size (by show w.heap.size ≠ w.heap.size + 2; omega))
      obtain ⟨l, k0, k1, k2, k3, k4, k5, k6, k7, k8⟩ := h.ob
      exact ⟨by simpa [World.setCell] using l, (key _).trans k0, (key _).trans k1, (key _).trans k2, (key _).trans k3, (key _).trans k4, (key _).trans k5, (key _).trans k6, (key _).trans k7, (key _).trans k8⟩,
    h.oz.far (by omega) _ _, h.oq.put hc⟩
theorem plan_of (h : PlanAt w v0 p) (hb : Below w.heap.size w W) {E : List Elem} {J : List Join} {S : List Sig} {aE aJ aS : Option Addr} {nE cE nJ cJ nS cS : Nat} {t b m th : Int}
    (rE : Elems W aE nE E) (zE : aE = none → cE = 0) (fE : ∀ x ∈ E, inI x.kind ∧ inI x.len ∧ x.name.size ≤ 9223372036854775807)
    (rJ : Joins W aJ nJ J) (zJ : aJ = none → cJ = 0) (fJ : ∀ x ∈ J, x.a.wf ∧ x.b.wf)
    (rS : Sigs W aS nS S) (zS : aS = none → cS = 0) (fS : ∀ x ∈ S, x.at_.wf ∧ x.name.size ≤ 9223372036854775807)
    (h1 : inI t) (h2 : inI b) (h3 : inI m) (h4 : inI th) :
    PlanAt W ⟨aE, nE, cE, aJ, nJ, cJ, aS, nS, cS, v0.al, v0.nl, v0.cl, v0.lv⟩ ⟨E, J, S, p.lines, t, b, m, th, p.hard⟩ :=
  ((((h.below hb).setE rE zE fE).setJ rJ zJ fJ).setS rS zS fS).nums h1 h2 h3 h4
end

theorem name_body {P : Program} {f : Func} {Post : Ending → World → Prop} {e : Exit} {a : Act} {w : World} (h : ∀ W, W = w → bodyPost P f Post e a W) : bodyPost P f Post e a w := h w rfl
theorem own_other {w : World} {base n size g : Nat} {e : TypeId} {v : Value} {xs : List Value} (hne : ∀ k, v.ownBlock = some k → k ≠ g) (h : w.ownsRow base e size v n xs) (o : Nat) (u : Value) : (w.setCell ⟨g, o, none⟩ u).ownsRow base e size v n xs :=
  h.kept (row := some g) ⟨rfl, rfl, rfl, by simp [World.setCell], fun k _ hk => heap_setCell_other w ⟨g, o, none⟩ k u (fun e => hk (by simp [e]))⟩ (.inr fun e => hne g e rfl)
theorem own_low {w : World} {base n size b o : Nat} {e : TypeId} {v : Value} {xs : List Value} (hb : b < base) (h : w.ownsRow base e size v n xs) (u : Value) : (w.setCell ⟨b, o, none⟩ u).ownsRow base e size v n xs := ownsRow_setCell_below h (a := ⟨b, o, none⟩) hb u
theorem below_set {B b o : Nat} {w W : World} (hb : B ≤ b) (h : Below B w W) (u : Value) : Below B w (W.setCell ⟨b, o, none⟩ u) := h.setCell (p := ⟨b, o, none⟩) hb u
theorem obox_far {w : World} {b g : Nat} {v : PV} {p : Plan} (hg : b ≠ g) (h : OBox w b v p) (o : Nat) (u : Value) : OBox (w.setCell ⟨g, o, none⟩ u) b v p := h.far hg o u
theorem own_cap {w : World} {base n size c g : Nat} {e : TypeId} {xs : List Value} (h : w.ownsRow base e size (.slice (some ⟨g, 0, none⟩) n c) n xs) : n ≤ c := by
  rcases h.2 with ⟨h0, _⟩ | ⟨g', cap, cur, hv, hb, hg, hnc, _⟩
  · cases h0
  · cases hv; exact hnc
theorem step_sig0 {w : World} {ops : Array Oper} {o : Oper} {ac : Act} {K : Act → World → Prop} {Q : Exit → Act → World → Prop} {E : Prop} {s x : Operand} {base b m c : Nat} {ad : Addr} {ys : List Sig}
    (hgd : o.guard = none) (ho : o.op = .call { callee := .builtin .append, args := #[s, x], argTypes := #[29, 29] })
    (hs : ac.eval s = .slice (some ⟨b, 0, none⟩) 0 0) (hx : ac.eval x = .slice (some ad) m c) (h8 : m < 200)
    (hown : w.ownsRow base 46 4 (.slice (some ⟨b, 0, none⟩) 0 0) 0 []) (hrow : Sigs w (some ad) m ys) (hbase : base ≤ w.heap.size)
    (h : ∀ v' w', w'.ownsRow base 46 4 v' m (ys.flatMap encSig) → w.grownBy w' (some b) → K (ac.put o.dst v') w') :
    if Region.wanted o (yielded ops ac.tmps) = true then Oper.wp Try.prog o ac w K Q else E :=
  step_app0 encSig_len encSig_one w hgd s x 29 ho base 46 (.agg #[.string ByteArray.empty, .int .i64 0, .int .i64 0, .bool false]) 40 Try.underlying29 info_sig rfl (by decide) b hs hown (some ad) m c ys hx hrow (by intro h; cases h)
    (by simp only [maxLen]; omega) (by omega) hbase h
theorem step_sig1 {w : World} {ops : Array Oper} {o : Oper} {ac : Act} {K : Act → World → Prop} {Q : Exit → Act → World → Prop} {E : Prop} {s x : Operand} {base n m c : Nat} {v : Value} {ad : Addr} {xs ys : List Sig}
    (hgd : o.guard = none) (ho : o.op = .call { callee := .builtin .append, args := #[s, x], argTypes := #[29, 29] })
    (hs : ac.eval s = v) (hx : ac.eval x = .slice (some ad) m c) (h8 : n + m < 200)
    (hown : w.ownsRow base 46 4 v n (xs.flatMap encSig)) (hrow : Sigs w (some ad) m ys) (hbase : base ≤ w.heap.size)
    (h : ∀ v' w', w'.ownsRow base 46 4 v' (n + m) ((xs ++ ys).flatMap encSig) → w.grownBy w' v.ownBlock → K (ac.put o.dst v') w') :
    if Region.wanted o (yielded ops ac.tmps) = true then Oper.wp Try.prog o ac w K Q else E :=
  step_app encSig_len encSig_one w hgd s x 29 ho base 46 (.agg #[.string ByteArray.empty, .int .i64 0, .int .i64 0, .bool false]) 40 Try.underlying29 info_sig rfl (by decide) v n xs hs hown (some ad) m c ys hx hrow (by intro h; cases h)
    (by simp only [maxLen]; omega) (by omega) hbase (fun v' w' h1 h2 _ _ => h v' w' h1 h2)
theorem row_take {α : Type} {sz : Nat} {enc : α → List Value} {w : World} {a : Option Addr} {n t : Nat} {xs : List α} (h : Row sz enc w a n xs) (ht : t ≤ n) : Row sz enc w a t (xs.take t) := by
  have hl := h.len
  have hb := h.bnd
  refine ⟨by rw [List.length_take]; omega, by omega, fun i y hy => h.at_ i y ?_⟩
  rw [List.getElem?_take] at hy
  split at hy
  · exact hy
  · cases hy
theorem row_drop {α : Type} {sz : Nat} {enc : α → List Value} {w : World} {g n t : Nat} {xs : List α} (h : Row sz enc w (some ⟨g, 0, none⟩) n xs) (ht : t ≤ n) : Row sz enc w (some ⟨g, t * sz, none⟩) (n - t) (xs.drop t) := by
  have hl := h.len
  have hb := h.bnd
  refine ⟨by rw [List.length_drop]; omega, by omega, fun i y hy => ?_⟩
  rw [List.getElem?_drop] at hy
  obtain ⟨b, off, ha, hb, hc⟩ := h.at_ _ y hy
  cases ha
  exact ⟨g, t * sz, rfl, hb, fun k v hv => by have := hc k v hv; rw [Nat.add_mul] at this; rw [show t * sz + i * sz + k = 0 + (t * sz + i * sz) + k by omega]; exact this⟩
theorem row_none {α : Type} {sz : Nat} {enc : α → List Value} {w : World} {a : Option Addr} {n : Nat} {xs : List α} (h : xs.length = n) (h0 : n = 0) : Row sz enc w a n xs := by
  subst h0
  have : xs = [] := List.length_eq_zero_iff.1 h
  subst this
  exact ⟨rfl, by omega, fun i y hy => by simp at hy⟩
theorem row_grown4 {w w' : World} {g o n : Nat} {xs : List Sig} {row : Option Nat} (h : Row 4 encSig w (some ⟨g, o, none⟩) n xs) (hg : w.grownBy w' row) (hne : some g ≠ row) : Row 4 encSig w' (some ⟨g, o, none⟩) n xs := by
  refine ⟨h.len, h.bnd, fun i y hy => ?_⟩
  obtain ⟨b', off, ha, hb, hc⟩ := h.at_ i y hy
  cases ha
  exact ⟨g, o, rfl, Nat.lt_of_lt_of_le hb hg.size, fun k v hv => hg.cell (hc k v hv) hne⟩
theorem fit_cut {l : List Sig} (h : ∀ x ∈ l, x.at_.wf ∧ x.name.size ≤ 9223372036854775807) {t u : Nat} : ∀ x ∈ l.take t ++ l.drop u, x.at_.wf ∧ x.name.size ≤ 9223372036854775807 := by
  intro x hx
  rcases List.mem_append.1 hx with h1 | h1
  · exact h x (List.mem_of_mem_take h1)
  · exact h x (List.mem_of_mem_drop h1)
theorem own_apart2 {g n c : Nat} {v : Value} (h : ∀ k, v.ownBlock = some k → k ≠ g) : (Value.slice (some ⟨g, 0, none⟩) n c).ownBlock = none ∨ (Value.slice (some ⟨g, 0, none⟩) n c).ownBlock ≠ v.ownBlock :=
  .inr fun e => h g (by rw [← e]; rfl) rfl
theorem own_apart3 {v u : Value} {a b c d : Nat} (h : ∀ k, v.ownBlock = some k → a ≤ k ∧ k < b) (h2 : ∀ k, u.ownBlock = some k → c ≤ k ∧ k < d) (hbc : b ≤ c) : v.ownBlock = none ∨ v.ownBlock ≠ u.ownBlock := by
  cases hv : v.ownBlock with
  | none => exact .inl rfl
  | some k => exact .inr fun e => by have := h k hv; have := h2 k e.symm; omega
theorem line_one {w : World} {b : Nat} {T : TypeId} {x : LineV} (h : w.heap.size = b) : Row 2 encLine (w.alloc (.cells #[.string x.name, .slice x.a x.n x.c] T)) (some ⟨b, 0, none⟩) 1 [x] := by
  subst h
  refine ⟨rfl, by omega, fun i y hy => ⟨w.heap.size, 0, rfl, by simp, fun k v hv => ?_⟩⟩
  cases i with
  | succ i => simp at hy
  | zero =>
    simp only [List.getElem?_cons_zero, Option.some.injEq] at hy; subst hy
    rw [cell_of_row (w.alloc _) w.heap.size (0 + 0 * 2 + k) _ _ (0, 0) (heap_alloc_new w _)]
    unfold encLine at hv
    match k, hv with
    | 0, hv => simpa using hv
    | 1, hv => simpa using hv
    | k + 2, hv => simp at hv
theorem ints_snoc {W : World} {l : List LineV} {x : LineV} (h : ∀ y ∈ l, Ints W y.a y.n y.elems) (hx : Ints W x.a x.n x.elems) : ∀ y ∈ l ++ [x], Ints W y.a y.n y.elems := by
  intro y hy
  rcases List.mem_append.1 hy with h1 | h1
  · exact h y h1
  · simp only [List.mem_singleton] at h1; subst h1; exact hx
theorem cap_snoc {l : List LineV} {x : LineV} (h : ∀ y ∈ l, y.a = none → y.c = 0) (hx : x.a = none → x.c = 0) : ∀ y ∈ l ++ [x], y.a = none → y.c = 0 := by
  intro y hy
  rcases List.mem_append.1 hy with h1 | h1
  · exact h y h1
  · simp only [List.mem_singleton] at h1; subst h1; exact hx
theorem n2_snoc {l : List LineV} {x : LineV} (h : ∀ y ∈ l, y.n ≤ 1000) (hx : x.n ≤ 1000) : ∀ y ∈ l ++ [x], y.n ≤ 1000 := by
  intro y hy
  rcases List.mem_append.1 hy with h1 | h1
  · exact h y h1
  · simp only [List.mem_singleton] at h1; subst h1; exact hx
theorem fit_lsnoc {l : List LineV} {x : LineV} {L : List Line} (hl : L = l.map LineV.line) (h : ∀ y ∈ L, (∀ z ∈ y.elems, inI z) ∧ y.name.size ≤ 9223372036854775807) (hx : (∀ z ∈ x.elems, inI z) ∧ x.name.size ≤ 9223372036854775807) :
    ∀ y ∈ l ++ [x], (∀ z ∈ y.elems, inI z) ∧ y.name.size ≤ 9223372036854775807 := by
  intro y hy
  rcases List.mem_append.1 hy with h1 | h1
  · exact h y.line (by rw [hl]; exact List.mem_map.2 ⟨y, h1, rfl⟩)
  · simp only [List.mem_singleton] at h1; subst h1; exact hx
theorem own_apart {v : Value} {b : Nat} (h : ∀ k, v.ownBlock = some k → k ≠ b) : v.ownBlock = none ∨ v.ownBlock ≠ some b := .inr fun e => h _ e rfl
def TurnedPost (w : World) (e : Ending) (w' : World) : Prop := ∃ qv q, e = .returned (qv.val q) ∧ PlanAt w' qv q ∧ (∀ x ∈ qv.lv, x.n ≤ 1000) ∧ Below w.heap.size w w'

set_option maxHeartbeats 8000000 in
theorem turned_any (w : World) (pv : PV) (p : Plan) (wh i n : Int) (w0 : 0 ≤ wh) (w1 : wh ≤ 255) (i0 : 0 ≤ i) (i1 : i ≤ 255) (hn : inI n) (hf : FewOk pv) (hne0 : 0 < pv.ne) (h : PlanAt w pv p) :
    Calls Try.prog 31 #[pv.val p, .int .u8 wh, .int .u8 i, .int .i64 n] w (TurnedPost w) := by
  obtain ⟨ae, ne, ce, aj, nj, cj, as_, ns, cs, al, nl, cl, lv⟩ := pv
  have hP := Lib.hid h
  have Hn2 := Lib.hid (show ∀ x ∈ lv, x.n ≤ 1000 from fun x hx => by have := hf.2.2.2.2 x hx; omega)
  obtain ⟨hfe, hfj, hfs, hfl, _⟩ := hf
  dsimp only at hfe hfj hfs hfl hne0
  have Hn := Lib.hid hn
  clear h hn
  dsimp only [PV.val]
  go_enter Try.func31, Try.ntmps31
  go_wp2_with (at_builtin; refine name_list ?_)
  intro W1 hW1
  have T1 := Lib.hid (show Trn w W1 ⟨ae, ne, ce, aj, nj, cj, as_, ns, cs, al, nl, cl, lv⟩ ⟨ae, ne, ce, aj, nj, cj, as_, ns, cs, al, nl, cl, lv⟩ p p by rw [hW1]; exact (trn_new w ⟨ae, ne, ce, aj, nj, cj, as_, ns, cs, al, nl, cl, lv⟩ p).alloc _)
  have hlit : W1.ownsRow (w.heap.size + 3) 42 3 (.slice (some ⟨w.heap.size + 3, 0, none⟩) 0 0) 0 [] := by rw [hW1]; exact lit_ownJ (Nat.le_refl _) (by simp)
  have hW : w.heap.size + 3 ≤ W1.heap.size := by rw [hW1]; simp
  clear hW1
  refine wpList_app0 encElem_len encElem_one _ rfl _ _ 27 rfl (w.heap.size + 3) 42 (.agg #[.string ByteArray.empty, .int .i64 0, .int .i64 0]) 32 Try.underlying27 info_elem rfl (by decide) (w.heap.size + 3) rfl hlit ae ne ce p.elems rfl (hP.out.e.below T1.out.still) hP.out.fit.ec (by simp only [maxLen]; omega) (by omega) hW ?_
  intro v4 w4 hown4 hgrow4
  obtain ⟨ge, cqe, rfl, hge, hgs⟩ := own_shape hown4 hne0
  have OE4 := Lib.hid hown4
  have T4 := Lib.hid (T1.out.grown hgrow4 (by intro k hk; cases hk; exact Nat.le_refl _))
  clear hown4 hgrow4 hlit hW
  obtain ⟨_, c0, c1, c2, c3, c4, c5, c6, c7, c8⟩ := T4.out.ob
  have d0 := T4.out.oq.box.c0
  have f0 := T4.out.oq.frozen 0
  dsimp only at c0 c1 c2 c3 d0
  go_wp2_with (at_builtin; refine name_list ?_)
  intro W5 hW5
  have T5 := Lib.hid (show Trn w W5 ⟨ae, ne, ce, aj, nj, cj, as_, ns, cs, al, nl, cl, lv⟩ ⟨some ⟨ge, 0, none⟩, ne, cqe, aj, nj, cj, as_, ns, cs, al, nl, cl, lv⟩ p p by rw [hW5]; exact (T4.out.put rfl).alloc _)
  have OE5 := Lib.hid (show W5.ownsRow (w.heap.size + 3) 42 3 (.slice (some ⟨ge, 0, none⟩) ne cqe) ne (p.elems.flatMap encElem) by rw [hW5]; exact (ownsRow_setCell_below OE4.out (a := ⟨w.heap.size + 2, 0, none⟩) (Nat.lt_succ_self _) _).alloc _)
  have hlit : W5.ownsRow w4.heap.size 48 4 (.slice (some ⟨w4.heap.size, 0, none⟩) 0 0) 0 [] := by rw [hW5]; exact lit_ownJ (Nat.le_refl _) (by simp [World.setCell])
  have hW : w4.heap.size ≤ W5.heap.size := by rw [hW5]; simp [World.setCell]
  have hb4 : w.heap.size + 3 ≤ w4.heap.size := by omega
  clear hW5 c0 c1 c2 c3 c4 c5 c6 c7 c8 d0 f0 OE4 T4
  refine wpList_app0 encJoin_len encJoin_one _ rfl _ _ 28 rfl w4.heap.size 48 (.agg #[.int .i64 0, .int .i64 0, .int .i64 0, .int .i64 0]) 32 Try.underlying28 info_join rfl (by decide) w4.heap.size rfl hlit aj nj cj p.joins rfl (hP.out.j.below T5.out.still) hP.out.fit.jc (by simp only [maxLen]; omega) (by omega) hW ?_
  intro v6 w6 hown6 hgrow6
  have hj6 := hown6.lt
  obtain ⟨aqj, cqj, rfl, _, hqj⟩ := own_slice hown6
  have OJ6 := Lib.hid hown6
  have OE6 := Lib.hid (OE5.out.kept hgrow6 (.inr (by intro e; simp only [Value.ownBlock, Option.some.injEq] at e; omega)))
  have T6 := Lib.hid (T5.out.grown hgrow6 (by intro k hk; cases hk; exact hb4))
  have hs6 : w4.heap.size ≤ w6.heap.size := Nat.le_trans hW hgrow6.size
  clear hown6 hgrow6 hlit hW OE5 T5
  have hqj' := Lib.hid hqj
  clear hqj
  obtain ⟨_, c0, c1, c2, c3, c4, c5, c6, c7, c8⟩ := T6.out.ob
  have d0 := T6.out.oq.box.c1
  have f0 := T6.out.oq.frozen 1
  dsimp only at c0 c1 c2 c3 d0
  go_wp2_with (at_builtin; refine name_list ?_)
  intro W7 hW7
  have T7 := Lib.hid (show Trn w W7 ⟨ae, ne, ce, aj, nj, cj, as_, ns, cs, al, nl, cl, lv⟩ ⟨some ⟨ge, 0, none⟩, ne, cqe, aqj, nj, cqj, as_, ns, cs, al, nl, cl, lv⟩ p p by rw [hW7]; exact (T6.out.put rfl).alloc _)
  have OE7 := Lib.hid (show W7.ownsRow (w.heap.size + 3) 42 3 (.slice (some ⟨ge, 0, none⟩) ne cqe) ne (p.elems.flatMap encElem) by rw [hW7]; exact (ownsRow_setCell_below OE6.out (a := ⟨w.heap.size + 2, 1, none⟩) (Nat.lt_succ_self _) _).alloc _)
  have OJ7 := Lib.hid (show W7.ownsRow w4.heap.size 48 4 (.slice aqj nj cqj) nj (p.joins.flatMap encJoin) by rw [hW7]; exact (ownsRow_setCell_below OJ6.out (a := ⟨w.heap.size + 2, 1, none⟩) (Nat.lt_of_lt_of_le (Nat.lt_succ_self _) hb4) _).alloc _)
  have hlit : W7.ownsRow w6.heap.size 46 4 (.slice (some ⟨w6.heap.size, 0, none⟩) 0 0) 0 [] := by rw [hW7]; exact lit_ownJ (Nat.le_refl _) (by simp [World.setCell])
  have hW : w6.heap.size ≤ W7.heap.size := by rw [hW7]; simp [World.setCell]
  clear hW7 c0 c1 c2 c3 c4 c5 c6 c7 c8 d0 f0 OE6 OJ6 T6
  refine wpList_app0 encSig_len encSig_one _ rfl _ _ 29 rfl w6.heap.size 46 (.agg #[.string ByteArray.empty, .int .i64 0, .int .i64 0, .bool false]) 40 Try.underlying29 info_sig rfl (by decide) w6.heap.size rfl hlit as_ ns cs p.sigs rfl (hP.out.s.below T7.out.still) hP.out.fit.sc (by simp only [maxLen]; omega) (by omega) hW ?_
  intro v8 w8 hown8 hgrow8
  have hs8 := hown8.lt
  have hs68 : w6.heap.size ≤ w8.heap.size := Nat.le_trans hW hgrow8.size
  obtain ⟨aqs, cqs, rfl, _, hqs⟩ := own_slice hown8
  have OS8 := Lib.hid hown8
  have OE8 := Lib.hid (OE7.out.kept hgrow8 (.inr (by intro e; simp only [Value.ownBlock, Option.some.injEq] at e; omega)))
  have OJ8 := Lib.hid (OJ7.out.kept hgrow8 (own_apart (fun k hk => by have := (hj6 k hk).2; omega)))
  have T8 := Lib.hid (T7.out.grown hgrow8 (by intro k hk; cases hk; omega))
  clear hown8 hgrow8 hlit hW OE7 OJ7 T7
  have hqs' := Lib.hid hqs
  clear hqs
  obtain ⟨_, c0, c1, c2, c3, c4, c5, c6, c7, c8⟩ := T8.out.ob
  obtain ⟨_, d0, d1, d2, d3, d4, d5, d6, d7, d8⟩ := T8.out.oq.box
  obtain ⟨_, z0, z1, z2, z3, z4, z5, z6, z7, z8⟩ := T8.out.oz.box
  have fq := T8.out.oq.frozen
  have fz := T8.out.oz.frozen
  dsimp only at c0 c1 c2 c3 d0 d1 d2 d3
  dsimp only [zPV, zPlan] at z0 z1 z2 z3 z4 z5 z6 z7 z8
  have hwh : wh % 12 = 0 ∨ wh % 12 = 1 ∨ wh % 12 = 2 ∨ wh % 12 = 3 ∨ wh % 12 = 4 ∨ wh % 12 = 5 ∨ wh % 12 = 6 ∨ wh % 12 = 7 ∨ wh % 12 = 8 ∨ wh % 12 = 9 ∨ wh % 12 = 10 ∨ wh % 12 = 11 := by omega
  rcases hwh with hw | hw | hw | hw | hw | hw | hw | hw | hw | hw | hw | hw
  ·
    go_wp2_with fail
    refine name_body fun Wf hWf => ?_
    have OZf : OBox Wf (w.heap.size + 1) ⟨some ⟨ge, 0, none⟩, ne, cqe, aqj, nj, cqj, aqs, ns, cqs, al, nl, cl, lv⟩ ⟨p.elems, p.joins, p.sigs, p.lines, n, p.brake, p.margin, p.throw, p.hard⟩ := by rw [hWf]; (try (with_reducible refine OBox.drew ?_)); with_reducible refine obox_filled (v := zPV) (p := zPlan) (v' := ⟨some ⟨ge, 0, none⟩, ne, cqe, aqj, nj, cqj, aqs, ns, cqs, al, nl, cl, lv⟩) (p' := ⟨p.elems, p.joins, p.sigs, p.lines, n, p.brake, p.margin, p.throw, p.hard⟩) ?_; repeat (first | with_reducible exact T8.out.oz | ((with_reducible refine obox_far ?_ ?_ _ _); omega) | (with_reducible refine OBox.drew ?_))
    have sf : Below w.heap.size w Wf := by rw [hWf]; repeat (first | with_reducible exact T8.out.still | ((with_reducible refine below_set ?_ ?_ _); omega) | (with_reducible refine Below.drew ?_))
    have OEf : Wf.ownsRow (w.heap.size + 3) 42 3 (.slice (some ⟨ge, 0, none⟩) ne cqe) ne ((p.elems).flatMap encElem) := by rw [hWf]; repeat (first | with_reducible exact OE8.out | ((with_reducible refine own_low ?_ ?_ _); omega) | ((with_reducible refine own_other ?_ ?_ _ _); (intro k hk; simp only [Value.ownBlock, Option.some.injEq] at hk; omega)) | ((with_reducible refine own_other ?_ ?_ _ _); (intro k hk; have := hj6 k hk; omega)) | (with_reducible refine World.ownsRow.drew ?_))
    have OJf : Wf.ownsRow w4.heap.size 48 4 (.slice aqj nj cqj) nj ((p.joins).flatMap encJoin) := by rw [hWf]; repeat (first | with_reducible exact OJ8.out | ((with_reducible refine own_low ?_ ?_ _); omega) | ((with_reducible refine own_other ?_ ?_ _ _); (intro k hk; simp only [Value.ownBlock, Option.some.injEq] at hk; omega)) | ((with_reducible refine own_other ?_ ?_ _ _); (intro k hk; have := hj6 k hk; omega)) | (with_reducible refine World.ownsRow.drew ?_))
    have OSf : Wf.ownsRow w6.heap.size 46 4 (.slice aqs ns cqs) ns ((p.sigs).flatMap encSig) := by rw [hWf]; repeat (first | with_reducible exact OS8.out | ((with_reducible refine own_low ?_ ?_ _); omega) | ((with_reducible refine own_other ?_ ?_ _ _); (intro k hk; simp only [Value.ownBlock, Option.some.injEq] at hk; omega)) | ((with_reducible refine own_other ?_ ?_ _ _); (intro k hk; have := hj6 k hk; omega)) | (with_reducible refine World.ownsRow.drew ?_))
    clear hWf
    obtain ⟨_, x0, x1, x2, x3, x4, x5, x6, x7, x8⟩ := OZf.box
    dsimp only at x0 x1 x2 x3 x4 x5 x6 x7 x8
    exact bodyPost_ret (v := .agg #[.slice (some ⟨ge, 0, none⟩) ne cqe, .slice aqj nj cqj, .slice aqs ns cqs, .slice al nl cl, .int .i64 (n), .int .i64 (p.brake), .int .i64 (p.margin), .int .i64 (p.throw), .bool p.hard])
      (by simp [results, Try.results31, go_sem, x0, x1, x2, x3, x4, x5, x6, x7, x8]) rfl
      ⟨⟨some ⟨ge, 0, none⟩, ne, cqe, aqj, nj, cqj, aqs, ns, cqs, al, nl, cl, lv⟩, ⟨p.elems, p.joins, p.sigs, p.lines, n, p.brake, p.margin, p.throw, p.hard⟩, rfl, plan_of hP.out sf (owns_row encElem_len OEf (by omega)).1 (by intro h; cases h) hP.out.fit.e (owns_row encJoin_len OJf (by omega)).1 (fun h => (hqj'.out h).2) hP.out.fit.j (owns_row encSig_len OSf (by omega)).1 (fun h => (hqs'.out h).2) hP.out.fit.s Hn.out hP.out.fit.brake hP.out.fit.margin hP.out.fit.throw, Hn2.out, sf⟩
  ·
    go_wp2_with fail
    refine name_body fun Wf hWf => ?_
    have OZf : OBox Wf (w.heap.size + 1) ⟨some ⟨ge, 0, none⟩, ne, cqe, aqj, nj, cqj, aqs, ns, cqs, al, nl, cl, lv⟩ ⟨p.elems, p.joins, p.sigs, p.lines, p.top, n, p.margin, p.throw, p.hard⟩ := by rw [hWf]; (try (with_reducible refine OBox.drew ?_)); with_reducible refine obox_filled (v := zPV) (p := zPlan) (v' := ⟨some ⟨ge, 0, none⟩, ne, cqe, aqj, nj, cqj, aqs, ns, cqs, al, nl, cl, lv⟩) (p' := ⟨p.elems, p.joins, p.sigs, p.lines, p.top, n, p.margin, p.throw, p.hard⟩) ?_; repeat (first | with_reducible exact T8.out.oz | ((with_reducible refine obox_far ?_ ?_ _ _); omega) | (with_reducible refine OBox.drew ?_))
    have sf : Below w.heap.size w Wf := by rw [hWf]; repeat (first | with_reducible exact T8.out.still | ((with_reducible refine below_set ?_ ?_ _); omega) | (with_reducible refine Below.drew ?_))
    have OEf : Wf.ownsRow (w.heap.size + 3) 42 3 (.slice (some ⟨ge, 0, none⟩) ne cqe) ne ((p.elems).flatMap encElem) := by rw [hWf]; repeat (first | with_reducible exact OE8.out | ((with_reducible refine own_low ?_ ?_ _); omega) | ((with_reducible refine own_other ?_ ?_ _ _); (intro k hk; simp only [Value.ownBlock, Option.some.injEq] at hk; omega)) | ((with_reducible refine own_other ?_ ?_ _ _); (intro k hk; have := hj6 k hk; omega)) | (with_reducible refine World.ownsRow.drew ?_))
    have OJf : Wf.ownsRow w4.heap.size 48 4 (.slice aqj nj cqj) nj ((p.joins).flatMap encJoin) := by rw [hWf]; repeat (first | with_reducible exact OJ8.out | ((with_reducible refine own_low ?_ ?_ _); omega) | ((with_reducible refine own_other ?_ ?_ _ _); (intro k hk; simp only [Value.ownBlock, Option.some.injEq] at hk; omega)) | ((with_reducible refine own_other ?_ ?_ _ _); (intro k hk; have := hj6 k hk; omega)) | (with_reducible refine World.ownsRow.drew ?_))
    have OSf : Wf.ownsRow w6.heap.size 46 4 (.slice aqs ns cqs) ns ((p.sigs).flatMap encSig) := by rw [hWf]; repeat (first | with_reducible exact OS8.out | ((with_reducible refine own_low ?_ ?_ _); omega) | ((with_reducible refine own_other ?_ ?_ _ _); (intro k hk; simp only [Value.ownBlock, Option.some.injEq] at hk; omega)) | ((with_reducible refine own_other ?_ ?_ _ _); (intro k hk; have := hj6 k hk; omega)) | (with_reducible refine World.ownsRow.drew ?_))
    clear hWf
    obtain ⟨_, x0, x1, x2, x3, x4, x5, x6, x7, x8⟩ := OZf.box
    dsimp only at x0 x1 x2 x3 x4 x5 x6 x7 x8
    exact bodyPost_ret (v := .agg #[.slice (some ⟨ge, 0, none⟩) ne cqe, .slice aqj nj cqj, .slice aqs ns cqs, .slice al nl cl, .int .i64 (p.top), .int .i64 (n), .int .i64 (p.margin), .int .i64 (p.throw), .bool p.hard])
      (by simp [results, Try.results31, go_sem, x0, x1, x2, x3, x4, x5, x6, x7, x8]) rfl
      ⟨⟨some ⟨ge, 0, none⟩, ne, cqe, aqj, nj, cqj, aqs, ns, cqs, al, nl, cl, lv⟩, ⟨p.elems, p.joins, p.sigs, p.lines, p.top, n, p.margin, p.throw, p.hard⟩, rfl, plan_of hP.out sf (owns_row encElem_len OEf (by omega)).1 (by intro h; cases h) hP.out.fit.e (owns_row encJoin_len OJf (by omega)).1 (fun h => (hqj'.out h).2) hP.out.fit.j (owns_row encSig_len OSf (by omega)).1 (fun h => (hqs'.out h).2) hP.out.fit.s hP.out.fit.top Hn.out hP.out.fit.margin hP.out.fit.throw, Hn2.out, sf⟩
  ·
    go_wp2_with fail
    refine name_body fun Wf hWf => ?_
    have OZf : OBox Wf (w.heap.size + 1) ⟨some ⟨ge, 0, none⟩, ne, cqe, aqj, nj, cqj, aqs, ns, cqs, al, nl, cl, lv⟩ ⟨p.elems, p.joins, p.sigs, p.lines, p.top, p.brake, n, p.throw, p.hard⟩ := by rw [hWf]; (try (with_reducible refine OBox.drew ?_)); with_reducible refine obox_filled (v := zPV) (p := zPlan) (v' := ⟨some ⟨ge, 0, none⟩, ne, cqe, aqj, nj, cqj, aqs, ns, cqs, al, nl, cl, lv⟩) (p' := ⟨p.elems, p.joins, p.sigs, p.lines, p.top, p.brake, n, p.throw, p.hard⟩) ?_; repeat (first | with_reducible exact T8.out.oz | ((with_reducible refine obox_far ?_ ?_ _ _); omega) | (with_reducible refine OBox.drew ?_))
    have sf : Below w.heap.size w Wf := by rw [hWf]; repeat (first | with_reducible exact T8.out.still | ((with_reducible refine below_set ?_ ?_ _); omega) | (with_reducible refine Below.drew ?_))
    have OEf : Wf.ownsRow (w.heap.size + 3) 42 3 (.slice (some ⟨ge, 0, none⟩) ne cqe) ne ((p.elems).flatMap encElem) := by rw [hWf]; repeat (first | with_reducible exact OE8.out | ((with_reducible refine own_low ?_ ?_ _); omega) | ((with_reducible refine own_other ?_ ?_ _ _); (intro k hk; simp only [Value.ownBlock, Option.some.injEq] at hk; omega)) | ((with_reducible refine own_other ?_ ?_ _ _); (intro k hk; have := hj6 k hk; omega)) | (with_reducible refine World.ownsRow.drew ?_))
    have OJf : Wf.ownsRow w4.heap.size 48 4 (.slice aqj nj cqj) nj ((p.joins).flatMap encJoin) := by rw [hWf]; repeat (first | with_reducible exact OJ8.out | ((with_reducible refine own_low ?_ ?_ _); omega) | ((with_reducible refine own_other ?_ ?_ _ _); (intro k hk; simp only [Value.ownBlock, Option.some.injEq] at hk; omega)) | ((with_reducible refine own_other ?_ ?_ _ _); (intro k hk; have := hj6 k hk; omega)) | (with_reducible refine World.ownsRow.drew ?_))
    have OSf : Wf.ownsRow w6.heap.size 46 4 (.slice aqs ns cqs) ns ((p.sigs).flatMap encSig) := by rw [hWf]; repeat (first | with_reducible exact OS8.out | ((with_reducible refine own_low ?_ ?_ _); omega) | ((with_reducible refine own_other ?_ ?_ _ _); (intro k hk; simp only [Value.ownBlock, Option.some.injEq] at hk; omega)) | ((with_reducible refine own_other ?_ ?_ _ _); (intro k hk; have := hj6 k hk; omega)) | (with_reducible refine World.ownsRow.drew ?_))
    clear hWf
    obtain ⟨_, x0, x1, x2, x3, x4, x5, x6, x7, x8⟩ := OZf.box
    dsimp only at x0 x1 x2 x3 x4 x5 x6 x7 x8
    exact bodyPost_ret (v := .agg #[.slice (some ⟨ge, 0, none⟩) ne cqe, .slice aqj nj cqj, .slice aqs ns cqs, .slice al nl cl, .int .i64 (p.top), .int .i64 (p.brake), .int .i64 (n), .int .i64 (p.throw), .bool p.hard])
      (by simp [results, Try.results31, go_sem, x0, x1, x2, x3, x4, x5, x6, x7, x8]) rfl
      ⟨⟨some ⟨ge, 0, none⟩, ne, cqe, aqj, nj, cqj, aqs, ns, cqs, al, nl, cl, lv⟩, ⟨p.elems, p.joins, p.sigs, p.lines, p.top, p.brake, n, p.throw, p.hard⟩, rfl, plan_of hP.out sf (owns_row encElem_len OEf (by omega)).1 (by intro h; cases h) hP.out.fit.e (owns_row encJoin_len OJf (by omega)).1 (fun h => (hqj'.out h).2) hP.out.fit.j (owns_row encSig_len OSf (by omega)).1 (fun h => (hqs'.out h).2) hP.out.fit.s hP.out.fit.top hP.out.fit.brake Hn.out hP.out.fit.throw, Hn2.out, sf⟩
  ·
    go_wp2_with fail
    refine name_body fun Wf hWf => ?_
    have OZf : OBox Wf (w.heap.size + 1) ⟨some ⟨ge, 0, none⟩, ne, cqe, aqj, nj, cqj, aqs, ns, cqs, al, nl, cl, lv⟩ ⟨p.elems, p.joins, p.sigs, p.lines, p.top, p.brake, p.margin, n, p.hard⟩ := by rw [hWf]; (try (with_reducible refine OBox.drew ?_)); with_reducible refine obox_filled (v := zPV) (p := zPlan) (v' := ⟨some ⟨ge, 0, none⟩, ne, cqe, aqj, nj, cqj, aqs, ns, cqs, al, nl, cl, lv⟩) (p' := ⟨p.elems, p.joins, p.sigs, p.lines, p.top, p.brake, p.margin, n, p.hard⟩) ?_; repeat (first | with_reducible exact T8.out.oz | ((with_reducible refine obox_far ?_ ?_ _ _); omega) | (with_reducible refine OBox.drew ?_))
    have sf : Below w.heap.size w Wf := by rw [hWf]; repeat (first | with_reducible exact T8.out.still | ((with_reducible refine below_set ?_ ?_ _); omega) | (with_reducible refine Below.drew ?_))
    have OEf : Wf.ownsRow (w.heap.size + 3) 42 3 (.slice (some ⟨ge, 0, none⟩) ne cqe) ne ((p.elems).flatMap encElem) := by rw [hWf]; repeat (first | with_reducible exact OE8.out | ((with_reducible refine own_low ?_ ?_ _); omega) | ((with_reducible refine own_other ?_ ?_ _ _); (intro k hk; simp only [Value.ownBlock, Option.some.injEq] at hk; omega)) | ((with_reducible refine own_other ?_ ?_ _ _); (intro k hk; have := hj6 k hk; omega)) | (with_reducible refine World.ownsRow.drew ?_))
    have OJf : Wf.ownsRow w4.heap.size 48 4 (.slice aqj nj cqj) nj ((p.joins).flatMap encJoin) := by rw [hWf]; repeat (first | with_reducible exact OJ8.out | ((with_reducible refine own_low ?_ ?_ _); omega) | ((with_reducible refine own_other ?_ ?_ _ _); (intro k hk; simp only [Value.ownBlock, Option.some.injEq] at hk; omega)) | ((with_reducible refine own_other ?_ ?_ _ _); (intro k hk; have := hj6 k hk; omega)) | (with_reducible refine World.ownsRow.drew ?_))
    have OSf : Wf.ownsRow w6.heap.size 46 4 (.slice aqs ns cqs) ns ((p.sigs).flatMap encSig) := by rw [hWf]; repeat (first | with_reducible exact OS8.out | ((with_reducible refine own_low ?_ ?_ _); omega) | ((with_reducible refine own_other ?_ ?_ _ _); (intro k hk; simp only [Value.ownBlock, Option.some.injEq] at hk; omega)) | ((with_reducible refine own_other ?_ ?_ _ _); (intro k hk; have := hj6 k hk; omega)) | (with_reducible refine World.ownsRow.drew ?_))
    clear hWf
    obtain ⟨_, x0, x1, x2, x3, x4, x5, x6, x7, x8⟩ := OZf.box
    dsimp only at x0 x1 x2 x3 x4 x5 x6 x7 x8
    exact bodyPost_ret (v := .agg #[.slice (some ⟨ge, 0, none⟩) ne cqe, .slice aqj nj cqj, .slice aqs ns cqs, .slice al nl cl, .int .i64 (p.top), .int .i64 (p.brake), .int .i64 (p.margin), .int .i64 (n), .bool p.hard])
      (by simp [results, Try.results31, go_sem, x0, x1, x2, x3, x4, x5, x6, x7, x8]) rfl
      ⟨⟨some ⟨ge, 0, none⟩, ne, cqe, aqj, nj, cqj, aqs, ns, cqs, al, nl, cl, lv⟩, ⟨p.elems, p.joins, p.sigs, p.lines, p.top, p.brake, p.margin, n, p.hard⟩, rfl, plan_of hP.out sf (owns_row encElem_len OEf (by omega)).1 (by intro h; cases h) hP.out.fit.e (owns_row encJoin_len OJf (by omega)).1 (fun h => (hqj'.out h).2) hP.out.fit.j (owns_row encSig_len OSf (by omega)).1 (fun h => (hqs'.out h).2) hP.out.fit.s hP.out.fit.top hP.out.fit.brake hP.out.fit.margin Hn.out, Hn2.out, sf⟩
  ·
    obtain ⟨a, ha⟩ : ∃ a : Nat, Int.tmod i (ne : Int) = (a : Int) := ⟨(Int.tmod i ne).toNat, by have := Int.tmod_nonneg (ne : Int) i0; omega⟩
    have han : a < ne := by have := Int.tmod_lt_of_pos i (show (0 : Int) < ne by omega); omega
    have hn00 : (ne : Int) ≠ 0 := by omega
    have hnn : ne ≠ 0 := by omega
    have hwa : IntKind.i64.wrap (a : Int) = (a : Int) := IntWalk.i64_in _ (by omega)
    have hwi : IntKind.i64.wrap i = i := IntWalk.i64_in _ (by omega)
    obtain ⟨x, hx⟩ := get_some hP.out.e.len han
    have Hx := Lib.hid hx
    clear hx
    go_wp2_with fail
    refine name_code fun w9 hw9 => ?_
    have T9 := Lib.hid (show Trn w w9 ⟨ae, ne, ce, aj, nj, cj, as_, ns, cs, al, nl, cl, lv⟩ ⟨some ⟨ge, 0, none⟩, ne, cqe, aqj, nj, cqj, aqs, ns, cqs, al, nl, cl, lv⟩ p p by rw [hw9]; exact T8.out.put rfl)
    have OE9 := Lib.hid (show w9.ownsRow (w.heap.size + 3) 42 3 (.slice (some ⟨ge, 0, none⟩) ne cqe) ne (p.elems.flatMap encElem) by rw [hw9]; exact own_low (by omega) OE8.out _)
    have OJ9 := Lib.hid (show w9.ownsRow w4.heap.size 48 4 (.slice aqj nj cqj) nj (p.joins.flatMap encJoin) by rw [hw9]; exact own_low (by omega) OJ8.out _)
    have OS9 := Lib.hid (show w9.ownsRow w6.heap.size 46 4 (.slice aqs ns cqs) ns (p.sigs.flatMap encSig) by rw [hw9]; exact own_low (by omega) OS8.out _)
    clear hw9 c0 c1 c2 c3 c4 c5 c6 c7 c8 d0 d1 d2 d3 d4 d5 d6 d7 d8 z0 z1 z2 z3 z4 z5 z6 z7 z8 fq fz
    obtain ⟨_, c0, c1, c2, c3, c4, c5, c6, c7, c8⟩ := T9.out.ob
    obtain ⟨_, d0, d1, d2, d3, d4, d5, d6, d7, d8⟩ := T9.out.oq.box
    obtain ⟨_, z0, z1, z2, z3, z4, z5, z6, z7, z8⟩ := T9.out.oz.box
    have fq := T9.out.oq.frozen
    have fz := T9.out.oz.frozen
    dsimp only at c0 c1 c2 c3 d0 d1 d2 d3
    dsimp only [zPV, zPlan] at z0 z1 z2 z3 z4 z5 z6 z7 z8
    have e1 : w9.cell? ⟨ge, a * 3 + 2, none⟩ = some (.int .i64 x.len) := own_at encElem_len OE9.out (k := 2) Hx.out han rfl
    have f1 := OE9.out.frozenAt (a * 3 + 2)
    refine wp_region_still_tail 11 (by kernel_rfl) (by kernel_rfl) ?_
    simp only [List.take_succ_cons, List.take_zero, List.drop_succ_cons, List.drop_zero]
    change wpStill _ _ (World.drew _) _ _ _
    repeat still_step
    refine wpStill_nil ?_
    change wpList _ _ _ _ _ (World.drew _)
    go_wp2_with fail
    refine name_body fun Wf hWf => ?_
    have OZf : OBox Wf (w.heap.size + 1) ⟨some ⟨ge, 0, none⟩, ne, cqe, aqj, nj, cqj, aqs, ns, cqs, al, nl, cl, lv⟩ ⟨p.elems.set a { x with len := n }, p.joins, p.sigs, p.lines, p.top, p.brake, p.margin, p.throw, p.hard⟩ := by rw [hWf]; (try (with_reducible refine OBox.drew ?_)); with_reducible refine obox_filled (v := zPV) (p := zPlan) (v' := ⟨some ⟨ge, 0, none⟩, ne, cqe, aqj, nj, cqj, aqs, ns, cqs, al, nl, cl, lv⟩) (p' := ⟨p.elems.set a { x with len := n }, p.joins, p.sigs, p.lines, p.top, p.brake, p.margin, p.throw, p.hard⟩) ?_; repeat (first | with_reducible exact T9.out.oz | ((with_reducible refine obox_far ?_ ?_ _ _); omega) | (with_reducible refine OBox.drew ?_))
    have sf : Below w.heap.size w Wf := by rw [hWf]; repeat (first | with_reducible exact T9.out.still | ((with_reducible refine below_set ?_ ?_ _); omega) | (with_reducible refine Below.drew ?_))
    have OEf : Wf.ownsRow (w.heap.size + 3) 42 3 (.slice (some ⟨ge, 0, none⟩) ne cqe) ne ((p.elems.set a { x with len := n }).flatMap encElem) := by rw [hWf]; repeat (first | with_reducible exact OE9.out | ((with_reducible refine own_low ?_ ?_ _); omega) | ((with_reducible refine own_other ?_ ?_ _ _); (intro k hk; simp only [Value.ownBlock, Option.some.injEq] at hk; omega)) | ((with_reducible refine own_other ?_ ?_ _ _); (intro k hk; have := hj6 k hk; omega)) | (with_reducible refine World.ownsRow.drew ?_) | (refine (own_put encElem_len ?_ (k := 2) Hx.out (by omega) (x' := { x with len := n }) rfl).1))
    have OJf : Wf.ownsRow w4.heap.size 48 4 (.slice aqj nj cqj) nj ((p.joins).flatMap encJoin) := by rw [hWf]; repeat (first | with_reducible exact OJ9.out | ((with_reducible refine own_low ?_ ?_ _); omega) | ((with_reducible refine own_other ?_ ?_ _ _); (intro k hk; simp only [Value.ownBlock, Option.some.injEq] at hk; omega)) | ((with_reducible refine own_other ?_ ?_ _ _); (intro k hk; have := hj6 k hk; omega)) | (with_reducible refine World.ownsRow.drew ?_))
    have OSf : Wf.ownsRow w6.heap.size 46 4 (.slice aqs ns cqs) ns ((p.sigs).flatMap encSig) := by rw [hWf]; repeat (first | with_reducible exact OS9.out | ((with_reducible refine own_low ?_ ?_ _); omega) | ((with_reducible refine own_other ?_ ?_ _ _); (intro k hk; simp only [Value.ownBlock, Option.some.injEq] at hk; omega)) | ((with_reducible refine own_other ?_ ?_ _ _); (intro k hk; have := hj6 k hk; omega)) | (with_reducible refine World.ownsRow.drew ?_))
    clear hWf
    obtain ⟨_, x0, x1, x2, x3, x4, x5, x6, x7, x8⟩ := OZf.box
    dsimp only at x0 x1 x2 x3 x4 x5 x6 x7 x8
    exact bodyPost_ret (v := .agg #[.slice (some ⟨ge, 0, none⟩) ne cqe, .slice aqj nj cqj, .slice aqs ns cqs, .slice al nl cl, .int .i64 (p.top), .int .i64 (p.brake), .int .i64 (p.margin), .int .i64 (p.throw), .bool p.hard])
      (by simp [results, Try.results31, go_sem, x0, x1, x2, x3, x4, x5, x6, x7, x8]) rfl
      ⟨⟨some ⟨ge, 0, none⟩, ne, cqe, aqj, nj, cqj, aqs, ns, cqs, al, nl, cl, lv⟩, ⟨p.elems.set a { x with len := n }, p.joins, p.sigs, p.lines, p.top, p.brake, p.margin, p.throw, p.hard⟩, rfl, plan_of hP.out sf (owns_row encElem_len OEf (by omega)).1 (by intro h; cases h) (fit_len hP.out.fit.e Hx.out Hn.out) (owns_row encJoin_len OJf (by omega)).1 (fun h => (hqj'.out h).2) hP.out.fit.j (owns_row encSig_len OSf (by omega)).1 (fun h => (hqs'.out h).2) hP.out.fit.s hP.out.fit.top hP.out.fit.brake hP.out.fit.margin hP.out.fit.throw, Hn2.out, sf⟩
  ·
    obtain ⟨a, ha⟩ : ∃ a : Nat, Int.tmod i (ne : Int) = (a : Int) := ⟨(Int.tmod i ne).toNat, by have := Int.tmod_nonneg (ne : Int) i0; omega⟩
    have han : a < ne := by have := Int.tmod_lt_of_pos i (show (0 : Int) < ne by omega); omega
    have hn00 : (ne : Int) ≠ 0 := by omega
    have hnn : ne ≠ 0 := by omega
    have hwa : IntKind.i64.wrap (a : Int) = (a : Int) := IntWalk.i64_in _ (by omega)
    have hwi : IntKind.i64.wrap i = i := IntWalk.i64_in _ (by omega)
    obtain ⟨x, hx⟩ := get_some hP.out.e.len han
    have Hx := Lib.hid hx
    clear hx
    go_wp2_with fail
    refine name_code fun w9 hw9 => ?_
    have T9 := Lib.hid (show Trn w w9 ⟨ae, ne, ce, aj, nj, cj, as_, ns, cs, al, nl, cl, lv⟩ ⟨some ⟨ge, 0, none⟩, ne, cqe, aqj, nj, cqj, aqs, ns, cqs, al, nl, cl, lv⟩ p p by rw [hw9]; exact T8.out.put rfl)
    have OE9 := Lib.hid (show w9.ownsRow (w.heap.size + 3) 42 3 (.slice (some ⟨ge, 0, none⟩) ne cqe) ne (p.elems.flatMap encElem) by rw [hw9]; exact own_low (by omega) OE8.out _)
    have OJ9 := Lib.hid (show w9.ownsRow w4.heap.size 48 4 (.slice aqj nj cqj) nj (p.joins.flatMap encJoin) by rw [hw9]; exact own_low (by omega) OJ8.out _)
    have OS9 := Lib.hid (show w9.ownsRow w6.heap.size 46 4 (.slice aqs ns cqs) ns (p.sigs.flatMap encSig) by rw [hw9]; exact own_low (by omega) OS8.out _)
    clear hw9 c0 c1 c2 c3 c4 c5 c6 c7 c8 d0 d1 d2 d3 d4 d5 d6 d7 d8 z0 z1 z2 z3 z4 z5 z6 z7 z8 fq fz
    obtain ⟨_, c0, c1, c2, c3, c4, c5, c6, c7, c8⟩ := T9.out.ob
    obtain ⟨_, d0, d1, d2, d3, d4, d5, d6, d7, d8⟩ := T9.out.oq.box
    obtain ⟨_, z0, z1, z2, z3, z4, z5, z6, z7, z8⟩ := T9.out.oz.box
    have fq := T9.out.oq.frozen
    have fz := T9.out.oz.frozen
    dsimp only at c0 c1 c2 c3 d0 d1 d2 d3
    dsimp only [zPV, zPlan] at z0 z1 z2 z3 z4 z5 z6 z7 z8
    have e1 : w9.cell? ⟨ge, a * 3 + 1, none⟩ = some (.int .i64 x.kind) := own_at encElem_len OE9.out (k := 1) Hx.out han rfl
    have f1 := OE9.out.frozenAt (a * 3 + 1)
    refine wp_region_still_tail 11 (by kernel_rfl) (by kernel_rfl) ?_
    simp only [List.take_succ_cons, List.take_zero, List.drop_succ_cons, List.drop_zero]
    change wpStill _ _ (World.drew _) _ _ _
    repeat still_step
    refine wpStill_nil ?_
    change wpList _ _ _ _ _ (World.drew _)
    go_wp2_with fail
    refine name_body fun Wf hWf => ?_
    have OZf : OBox Wf (w.heap.size + 1) ⟨some ⟨ge, 0, none⟩, ne, cqe, aqj, nj, cqj, aqs, ns, cqs, al, nl, cl, lv⟩ ⟨p.elems.set a { x with kind := n }, p.joins, p.sigs, p.lines, p.top, p.brake, p.margin, p.throw, p.hard⟩ := by rw [hWf]; (try (with_reducible refine OBox.drew ?_)); with_reducible refine obox_filled (v := zPV) (p := zPlan) (v' := ⟨some ⟨ge, 0, none⟩, ne, cqe, aqj, nj, cqj, aqs, ns, cqs, al, nl, cl, lv⟩) (p' := ⟨p.elems.set a { x with kind := n }, p.joins, p.sigs, p.lines, p.top, p.brake, p.margin, p.throw, p.hard⟩) ?_; repeat (first | with_reducible exact T9.out.oz | ((with_reducible refine obox_far ?_ ?_ _ _); omega) | (with_reducible refine OBox.drew ?_))
    have sf : Below w.heap.size w Wf := by rw [hWf]; repeat (first | with_reducible exact T9.out.still | ((with_reducible refine below_set ?_ ?_ _); omega) | (with_reducible refine Below.drew ?_))
    have OEf : Wf.ownsRow (w.heap.size + 3) 42 3 (.slice (some ⟨ge, 0, none⟩) ne cqe) ne ((p.elems.set a { x with kind := n }).flatMap encElem) := by rw [hWf]; repeat (first | with_reducible exact OE9.out | ((with_reducible refine own_low ?_ ?_ _); omega) | ((with_reducible refine own_other ?_ ?_ _ _); (intro k hk; simp only [Value.ownBlock, Option.some.injEq] at hk; omega)) | ((with_reducible refine own_other ?_ ?_ _ _); (intro k hk; have := hj6 k hk; omega)) | (with_reducible refine World.ownsRow.drew ?_) | (refine (own_put encElem_len ?_ (k := 1) Hx.out (by omega) (x' := { x with kind := n }) rfl).1))
    have OJf : Wf.ownsRow w4.heap.size 48 4 (.slice aqj nj cqj) nj ((p.joins).flatMap encJoin) := by rw [hWf]; repeat (first | with_reducible exact OJ9.out | ((with_reducible refine own_low ?_ ?_ _); omega) | ((with_reducible refine own_other ?_ ?_ _ _); (intro k hk; simp only [Value.ownBlock, Option.some.injEq] at hk; omega)) | ((with_reducible refine own_other ?_ ?_ _ _); (intro k hk; have := hj6 k hk; omega)) | (with_reducible refine World.ownsRow.drew ?_))
    have OSf : Wf.ownsRow w6.heap.size 46 4 (.slice aqs ns cqs) ns ((p.sigs).flatMap encSig) := by rw [hWf]; repeat (first | with_reducible exact OS9.out | ((with_reducible refine own_low ?_ ?_ _); omega) | ((with_reducible refine own_other ?_ ?_ _ _); (intro k hk; simp only [Value.ownBlock, Option.some.injEq] at hk; omega)) | ((with_reducible refine own_other ?_ ?_ _ _); (intro k hk; have := hj6 k hk; omega)) | (with_reducible refine World.ownsRow.drew ?_))
    clear hWf
    obtain ⟨_, x0, x1, x2, x3, x4, x5, x6, x7, x8⟩ := OZf.box
    dsimp only at x0 x1 x2 x3 x4 x5 x6 x7 x8
    exact bodyPost_ret (v := .agg #[.slice (some ⟨ge, 0, none⟩) ne cqe, .slice aqj nj cqj, .slice aqs ns cqs, .slice al nl cl, .int .i64 (p.top), .int .i64 (p.brake), .int .i64 (p.margin), .int .i64 (p.throw), .bool p.hard])
      (by simp [results, Try.results31, go_sem, x0, x1, x2, x3, x4, x5, x6, x7, x8]) rfl
      ⟨⟨some ⟨ge, 0, none⟩, ne, cqe, aqj, nj, cqj, aqs, ns, cqs, al, nl, cl, lv⟩, ⟨p.elems.set a { x with kind := n }, p.joins, p.sigs, p.lines, p.top, p.brake, p.margin, p.throw, p.hard⟩, rfl, plan_of hP.out sf (owns_row encElem_len OEf (by omega)).1 (by intro h; cases h) (fit_kind hP.out.fit.e Hx.out Hn.out) (owns_row encJoin_len OJf (by omega)).1 (fun h => (hqj'.out h).2) hP.out.fit.j (owns_row encSig_len OSf (by omega)).1 (fun h => (hqs'.out h).2) hP.out.fit.s hP.out.fit.top hP.out.fit.brake hP.out.fit.margin hP.out.fit.throw, Hn2.out, sf⟩
  ·
    rcases Nat.eq_zero_or_pos nj with hz0 | hn0
    · have q2 : ¬ (0 < nj) := by omega
      have q3 : ¬ ((0 : Int) < (nj : Int)) := by omega
      clear hz0
      go_wp2_with fail
      refine name_body fun Wf hWf => ?_
      have OZf : OBox Wf (w.heap.size + 1) ⟨some ⟨ge, 0, none⟩, ne, cqe, aqj, nj, cqj, aqs, ns, cqs, al, nl, cl, lv⟩ ⟨p.elems, p.joins, p.sigs, p.lines, p.top, p.brake, p.margin, p.throw, p.hard⟩ := by rw [hWf]; (try (with_reducible refine OBox.drew ?_)); with_reducible refine obox_filled (v := zPV) (p := zPlan) (v' := ⟨some ⟨ge, 0, none⟩, ne, cqe, aqj, nj, cqj, aqs, ns, cqs, al, nl, cl, lv⟩) (p' := ⟨p.elems, p.joins, p.sigs, p.lines, p.top, p.brake, p.margin, p.throw, p.hard⟩) ?_; repeat (first | with_reducible exact T8.out.oz | ((with_reducible refine obox_far ?_ ?_ _ _); omega) | (with_reducible refine OBox.drew ?_))
      have sf : Below w.heap.size w Wf := by rw [hWf]; repeat (first | with_reducible exact T8.out.still | ((with_reducible refine below_set ?_ ?_ _); omega) | (with_reducible refine Below.drew ?_))
      have OEf : Wf.ownsRow (w.heap.size + 3) 42 3 (.slice (some ⟨ge, 0, none⟩) ne cqe) ne ((p.elems).flatMap encElem) := by rw [hWf]; repeat (first | with_reducible exact OE8.out | ((with_reducible refine own_low ?_ ?_ _); omega) | ((with_reducible refine own_other ?_ ?_ _ _); (intro k hk; simp only [Value.ownBlock, Option.some.injEq] at hk; omega)) | ((with_reducible refine own_other ?_ ?_ _ _); (intro k hk; have := hj6 k hk; omega)) | (with_reducible refine World.ownsRow.drew ?_))
      have OJf : Wf.ownsRow w4.heap.size 48 4 (.slice aqj nj cqj) nj ((p.joins).flatMap encJoin) := by rw [hWf]; repeat (first | with_reducible exact OJ8.out | ((with_reducible refine own_low ?_ ?_ _); omega) | ((with_reducible refine own_other ?_ ?_ _ _); (intro k hk; simp only [Value.ownBlock, Option.some.injEq] at hk; omega)) | ((with_reducible refine own_other ?_ ?_ _ _); (intro k hk; have := hj6 k hk; omega)) | (with_reducible refine World.ownsRow.drew ?_))
      have OSf : Wf.ownsRow w6.heap.size 46 4 (.slice aqs ns cqs) ns ((p.sigs).flatMap encSig) := by rw [hWf]; repeat (first | with_reducible exact OS8.out | ((with_reducible refine own_low ?_ ?_ _); omega) | ((with_reducible refine own_other ?_ ?_ _ _); (intro k hk; simp only [Value.ownBlock, Option.some.injEq] at hk; omega)) | ((with_reducible refine own_other ?_ ?_ _ _); (intro k hk; have := hj6 k hk; omega)) | (with_reducible refine World.ownsRow.drew ?_))
      clear hWf
      obtain ⟨_, x0, x1, x2, x3, x4, x5, x6, x7, x8⟩ := OZf.box
      dsimp only at x0 x1 x2 x3 x4 x5 x6 x7 x8
      exact bodyPost_ret (v := .agg #[.slice (some ⟨ge, 0, none⟩) ne cqe, .slice aqj nj cqj, .slice aqs ns cqs, .slice al nl cl, .int .i64 (p.top), .int .i64 (p.brake), .int .i64 (p.margin), .int .i64 (p.throw), .bool p.hard])
        (by simp [results, Try.results31, go_sem, x0, x1, x2, x3, x4, x5, x6, x7, x8]) rfl
        ⟨⟨some ⟨ge, 0, none⟩, ne, cqe, aqj, nj, cqj, aqs, ns, cqs, al, nl, cl, lv⟩, ⟨p.elems, p.joins, p.sigs, p.lines, p.top, p.brake, p.margin, p.throw, p.hard⟩, rfl, plan_of hP.out sf (owns_row encElem_len OEf (by omega)).1 (by intro h; cases h) hP.out.fit.e (owns_row encJoin_len OJf (by omega)).1 (fun h => (hqj'.out h).2) hP.out.fit.j (owns_row encSig_len OSf (by omega)).1 (fun h => (hqs'.out h).2) hP.out.fit.s hP.out.fit.top hP.out.fit.brake hP.out.fit.margin hP.out.fit.throw, Hn2.out, sf⟩
    have q3 : (0 : Int) < (nj : Int) := by omega
    obtain ⟨gj, cx, heq, hgx, hgx2⟩ := own_shape OJ8.out hn0
    simp only [Value.slice.injEq, true_and] at heq
    obtain ⟨rfl, rfl⟩ := heq
    have hgl := (hj6 gj rfl).2
    obtain ⟨t, ht⟩ : ∃ t : Nat, Int.tmod i (nj : Int) = (t : Int) := ⟨(Int.tmod i (nj : Int)).toNat, by have := Int.tmod_nonneg (nj : Int) i0; omega⟩
    have htn : t < nj := by have := Int.tmod_lt_of_pos i (show (0 : Int) < (nj : Int) by omega); omega
    have hn00 : (nj : Int) ≠ 0 := by omega
    have hwt : IntKind.i64.wrap (t : Int) = (t : Int) := IntWalk.i64_in _ (by omega)
    have hwi : IntKind.i64.wrap i = i := IntWalk.i64_in _ (by omega)
    obtain ⟨y, hy⟩ := get_some hP.out.j.len htn
    have Hy := Lib.hid hy
    have e1 : w8.cell? ⟨gj, t * 4, none⟩ = some (.int .i64 y.a.e) := own_at encJoin_len OJ8.out (k := 0) hy htn rfl
    have f1 := OJ8.out.frozenAt (t * 4)
    clear hy
    go_wp2_with fail
    refine name_body fun Wf hWf => ?_
    have OZf : OBox Wf (w.heap.size + 1) ⟨some ⟨ge, 0, none⟩, ne, cqe, (some ⟨gj, 0, none⟩), nj, cqj, aqs, ns, cqs, al, nl, cl, lv⟩ ⟨p.elems, p.joins.set t { y with a := { y.a with e := n } }, p.sigs, p.lines, p.top, p.brake, p.margin, p.throw, p.hard⟩ := by rw [hWf]; (try (with_reducible refine OBox.drew ?_)); with_reducible refine obox_filled (v := zPV) (p := zPlan) (v' := ⟨some ⟨ge, 0, none⟩, ne, cqe, (some ⟨gj, 0, none⟩), nj, cqj, aqs, ns, cqs, al, nl, cl, lv⟩) (p' := ⟨p.elems, p.joins.set t { y with a := { y.a with e := n } }, p.sigs, p.lines, p.top, p.brake, p.margin, p.throw, p.hard⟩) ?_; repeat (first | with_reducible exact T8.out.oz | ((with_reducible refine obox_far ?_ ?_ _ _); omega) | (with_reducible refine OBox.drew ?_))
    have sf : Below w.heap.size w Wf := by rw [hWf]; repeat (first | with_reducible exact T8.out.still | ((with_reducible refine below_set ?_ ?_ _); omega) | (with_reducible refine Below.drew ?_))
    have OEf : Wf.ownsRow (w.heap.size + 3) 42 3 (.slice (some ⟨ge, 0, none⟩) ne cqe) ne ((p.elems).flatMap encElem) := by rw [hWf]; repeat (first | with_reducible exact OE8.out | ((with_reducible refine own_low ?_ ?_ _); omega) | ((with_reducible refine own_other ?_ ?_ _ _); (intro k hk; simp only [Value.ownBlock, Option.some.injEq] at hk; omega)) | ((with_reducible refine own_other ?_ ?_ _ _); (intro k hk; have := hj6 k hk; omega)) | (with_reducible refine World.ownsRow.drew ?_))
    have OJf : Wf.ownsRow w4.heap.size 48 4 (.slice (some ⟨gj, 0, none⟩) nj cqj) nj ((p.joins.set t { y with a := { y.a with e := n } }).flatMap encJoin) := by rw [hWf]; repeat (first | with_reducible exact OJ8.out | ((with_reducible refine own_low ?_ ?_ _); omega) | ((with_reducible refine own_other ?_ ?_ _ _); (intro k hk; simp only [Value.ownBlock, Option.some.injEq] at hk; omega)) | ((with_reducible refine own_other ?_ ?_ _ _); (intro k hk; have := hj6 k hk; omega)) | (with_reducible refine World.ownsRow.drew ?_) | (refine (own_put encJoin_len ?_ (k := 0) Hy.out (by omega) (x' := { y with a := { y.a with e := n } }) rfl).1))
    have OSf : Wf.ownsRow w6.heap.size 46 4 (.slice aqs ns cqs) ns ((p.sigs).flatMap encSig) := by rw [hWf]; repeat (first | with_reducible exact OS8.out | ((with_reducible refine own_low ?_ ?_ _); omega) | ((with_reducible refine own_other ?_ ?_ _ _); (intro k hk; simp only [Value.ownBlock, Option.some.injEq] at hk; omega)) | ((with_reducible refine own_other ?_ ?_ _ _); (intro k hk; have := hj6 k hk; omega)) | (with_reducible refine World.ownsRow.drew ?_))
    clear hWf
    obtain ⟨_, x0, x1, x2, x3, x4, x5, x6, x7, x8⟩ := OZf.box
    dsimp only at x0 x1 x2 x3 x4 x5 x6 x7 x8
    exact bodyPost_ret (v := .agg #[.slice (some ⟨ge, 0, none⟩) ne cqe, .slice (some ⟨gj, 0, none⟩) nj cqj, .slice aqs ns cqs, .slice al nl cl, .int .i64 (p.top), .int .i64 (p.brake), .int .i64 (p.margin), .int .i64 (p.throw), .bool p.hard])
      (by simp [results, Try.results31, go_sem, x0, x1, x2, x3, x4, x5, x6, x7, x8]) rfl
      ⟨⟨some ⟨ge, 0, none⟩, ne, cqe, (some ⟨gj, 0, none⟩), nj, cqj, aqs, ns, cqs, al, nl, cl, lv⟩, ⟨p.elems, p.joins.set t { y with a := { y.a with e := n } }, p.sigs, p.lines, p.top, p.brake, p.margin, p.throw, p.hard⟩, rfl, plan_of hP.out sf (owns_row encElem_len OEf (by omega)).1 (by intro h; cases h) hP.out.fit.e (owns_row encJoin_len OJf (by omega)).1 (by intro h; cases h) (fit_jae hP.out.fit.j Hy.out Hn.out) (owns_row encSig_len OSf (by omega)).1 (fun h => (hqs'.out h).2) hP.out.fit.s hP.out.fit.top hP.out.fit.brake hP.out.fit.margin hP.out.fit.throw, Hn2.out, sf⟩
  ·
    rcases Nat.eq_zero_or_pos nj with hz0 | hn0
    · have q2 : ¬ (0 < nj) := by omega
      have q3 : ¬ ((0 : Int) < (nj : Int)) := by omega
      clear hz0
      go_wp2_with fail
      refine name_body fun Wf hWf => ?_
      have OZf : OBox Wf (w.heap.size + 1) ⟨some ⟨ge, 0, none⟩, ne, cqe, aqj, nj, cqj, aqs, ns, cqs, al, nl, cl, lv⟩ ⟨p.elems, p.joins, p.sigs, p.lines, p.top, p.brake, p.margin, p.throw, p.hard⟩ := by rw [hWf]; (try (with_reducible refine OBox.drew ?_)); with_reducible refine obox_filled (v := zPV) (p := zPlan) (v' := ⟨some ⟨ge, 0, none⟩, ne, cqe, aqj, nj, cqj, aqs, ns, cqs, al, nl, cl, lv⟩) (p' := ⟨p.elems, p.joins, p.sigs, p.lines, p.top, p.brake, p.margin, p.throw, p.hard⟩) ?_; repeat (first | with_reducible exact T8.out.oz | ((with_reducible refine obox_far ?_ ?_ _ _); omega) | (with_reducible refine OBox.drew ?_))
      have sf : Below w.heap.size w Wf := by rw [hWf]; repeat (first | with_reducible exact T8.out.still | ((with_reducible refine below_set ?_ ?_ _); omega) | (with_reducible refine Below.drew ?_))
      have OEf : Wf.ownsRow (w.heap.size + 3) 42 3 (.slice (some ⟨ge, 0, none⟩) ne cqe) ne ((p.elems).flatMap encElem) := by rw [hWf]; repeat (first | with_reducible exact OE8.out | ((with_reducible refine own_low ?_ ?_ _); omega) | ((with_reducible refine own_other ?_ ?_ _ _); (intro k hk; simp only [Value.ownBlock, Option.some.injEq] at hk; omega)) | ((with_reducible refine own_other ?_ ?_ _ _); (intro k hk; have := hj6 k hk; omega)) | (with_reducible refine World.ownsRow.drew ?_))
      have OJf : Wf.ownsRow w4.heap.size 48 4 (.slice aqj nj cqj) nj ((p.joins).flatMap encJoin) := by rw [hWf]; repeat (first | with_reducible exact OJ8.out | ((with_reducible refine own_low ?_ ?_ _); omega) | ((with_reducible refine own_other ?_ ?_ _ _); (intro k hk; simp only [Value.ownBlock, Option.some.injEq] at hk; omega)) | ((with_reducible refine own_other ?_ ?_ _ _); (intro k hk; have := hj6 k hk; omega)) | (with_reducible refine World.ownsRow.drew ?_))
      have OSf : Wf.ownsRow w6.heap.size 46 4 (.slice aqs ns cqs) ns ((p.sigs).flatMap encSig) := by rw [hWf]; repeat (first | with_reducible exact OS8.out | ((with_reducible refine own_low ?_ ?_ _); omega) | ((with_reducible refine own_other ?_ ?_ _ _); (intro k hk; simp only [Value.ownBlock, Option.some.injEq] at hk; omega)) | ((with_reducible refine own_other ?_ ?_ _ _); (intro k hk; have := hj6 k hk; omega)) | (with_reducible refine World.ownsRow.drew ?_))
      clear hWf
      obtain ⟨_, x0, x1, x2, x3, x4, x5, x6, x7, x8⟩ := OZf.box
      dsimp only at x0 x1 x2 x3 x4 x5 x6 x7 x8
      exact bodyPost_ret (v := .agg #[.slice (some ⟨ge, 0, none⟩) ne cqe, .slice aqj nj cqj, .slice aqs ns cqs, .slice al nl cl, .int .i64 (p.top), .int .i64 (p.brake), .int .i64 (p.margin), .int .i64 (p.throw), .bool p.hard])
        (by simp [results, Try.results31, go_sem, x0, x1, x2, x3, x4, x5, x6, x7, x8]) rfl
        ⟨⟨some ⟨ge, 0, none⟩, ne, cqe, aqj, nj, cqj, aqs, ns, cqs, al, nl, cl, lv⟩, ⟨p.elems, p.joins, p.sigs, p.lines, p.top, p.brake, p.margin, p.throw, p.hard⟩, rfl, plan_of hP.out sf (owns_row encElem_len OEf (by omega)).1 (by intro h; cases h) hP.out.fit.e (owns_row encJoin_len OJf (by omega)).1 (fun h => (hqj'.out h).2) hP.out.fit.j (owns_row encSig_len OSf (by omega)).1 (fun h => (hqs'.out h).2) hP.out.fit.s hP.out.fit.top hP.out.fit.brake hP.out.fit.margin hP.out.fit.throw, Hn2.out, sf⟩
    have q3 : (0 : Int) < (nj : Int) := by omega
    obtain ⟨gj, cx, heq, hgx, hgx2⟩ := own_shape OJ8.out hn0
    simp only [Value.slice.injEq, true_and] at heq
    obtain ⟨rfl, rfl⟩ := heq
    have hgl := (hj6 gj rfl).2
    obtain ⟨t, ht⟩ : ∃ t : Nat, Int.tmod i (nj : Int) = (t : Int) := ⟨(Int.tmod i (nj : Int)).toNat, by have := Int.tmod_nonneg (nj : Int) i0; omega⟩
    have htn : t < nj := by have := Int.tmod_lt_of_pos i (show (0 : Int) < (nj : Int) by omega); omega
    have hn00 : (nj : Int) ≠ 0 := by omega
    have hwt : IntKind.i64.wrap (t : Int) = (t : Int) := IntWalk.i64_in _ (by omega)
    have hwi : IntKind.i64.wrap i = i := IntWalk.i64_in _ (by omega)
    obtain ⟨y, hy⟩ := get_some hP.out.j.len htn
    have Hy := Lib.hid hy
    have e1 : w8.cell? ⟨gj, t * 4 + 3, none⟩ = some (.int .i64 y.b.n) := own_at encJoin_len OJ8.out (k := 3) hy htn rfl
    have f1 := OJ8.out.frozenAt (t * 4 + 3)
    clear hy
    go_wp2_with fail
    refine name_body fun Wf hWf => ?_
    have OZf : OBox Wf (w.heap.size + 1) ⟨some ⟨ge, 0, none⟩, ne, cqe, (some ⟨gj, 0, none⟩), nj, cqj, aqs, ns, cqs, al, nl, cl, lv⟩ ⟨p.elems, p.joins.set t { y with b := { y.b with n := n } }, p.sigs, p.lines, p.top, p.brake, p.margin, p.throw, p.hard⟩ := by rw [hWf]; (try (with_reducible refine OBox.drew ?_)); with_reducible refine obox_filled (v := zPV) (p := zPlan) (v' := ⟨some ⟨ge, 0, none⟩, ne, cqe, (some ⟨gj, 0, none⟩), nj, cqj, aqs, ns, cqs, al, nl, cl, lv⟩) (p' := ⟨p.elems, p.joins.set t { y with b := { y.b with n := n } }, p.sigs, p.lines, p.top, p.brake, p.margin, p.throw, p.hard⟩) ?_; repeat (first | with_reducible exact T8.out.oz | ((with_reducible refine obox_far ?_ ?_ _ _); omega) | (with_reducible refine OBox.drew ?_))
    have sf : Below w.heap.size w Wf := by rw [hWf]; repeat (first | with_reducible exact T8.out.still | ((with_reducible refine below_set ?_ ?_ _); omega) | (with_reducible refine Below.drew ?_))
    have OEf : Wf.ownsRow (w.heap.size + 3) 42 3 (.slice (some ⟨ge, 0, none⟩) ne cqe) ne ((p.elems).flatMap encElem) := by rw [hWf]; repeat (first | with_reducible exact OE8.out | ((with_reducible refine own_low ?_ ?_ _); omega) | ((with_reducible refine own_other ?_ ?_ _ _); (intro k hk; simp only [Value.ownBlock, Option.some.injEq] at hk; omega)) | ((with_reducible refine own_other ?_ ?_ _ _); (intro k hk; have := hj6 k hk; omega)) | (with_reducible refine World.ownsRow.drew ?_))
    have OJf : Wf.ownsRow w4.heap.size 48 4 (.slice (some ⟨gj, 0, none⟩) nj cqj) nj ((p.joins.set t { y with b := { y.b with n := n } }).flatMap encJoin) := by rw [hWf]; repeat (first | with_reducible exact OJ8.out | ((with_reducible refine own_low ?_ ?_ _); omega) | ((with_reducible refine own_other ?_ ?_ _ _); (intro k hk; simp only [Value.ownBlock, Option.some.injEq] at hk; omega)) | ((with_reducible refine own_other ?_ ?_ _ _); (intro k hk; have := hj6 k hk; omega)) | (with_reducible refine World.ownsRow.drew ?_) | (refine (own_put encJoin_len ?_ (k := 3) Hy.out (by omega) (x' := { y with b := { y.b with n := n } }) rfl).1))
    have OSf : Wf.ownsRow w6.heap.size 46 4 (.slice aqs ns cqs) ns ((p.sigs).flatMap encSig) := by rw [hWf]; repeat (first | with_reducible exact OS8.out | ((with_reducible refine own_low ?_ ?_ _); omega) | ((with_reducible refine own_other ?_ ?_ _ _); (intro k hk; simp only [Value.ownBlock, Option.some.injEq] at hk; omega)) | ((with_reducible refine own_other ?_ ?_ _ _); (intro k hk; have := hj6 k hk; omega)) | (with_reducible refine World.ownsRow.drew ?_))
    clear hWf
    obtain ⟨_, x0, x1, x2, x3, x4, x5, x6, x7, x8⟩ := OZf.box
    dsimp only at x0 x1 x2 x3 x4 x5 x6 x7 x8
    exact bodyPost_ret (v := .agg #[.slice (some ⟨ge, 0, none⟩) ne cqe, .slice (some ⟨gj, 0, none⟩) nj cqj, .slice aqs ns cqs, .slice al nl cl, .int .i64 (p.top), .int .i64 (p.brake), .int .i64 (p.margin), .int .i64 (p.throw), .bool p.hard])
      (by simp [results, Try.results31, go_sem, x0, x1, x2, x3, x4, x5, x6, x7, x8]) rfl
      ⟨⟨some ⟨ge, 0, none⟩, ne, cqe, (some ⟨gj, 0, none⟩), nj, cqj, aqs, ns, cqs, al, nl, cl, lv⟩, ⟨p.elems, p.joins.set t { y with b := { y.b with n := n } }, p.sigs, p.lines, p.top, p.brake, p.margin, p.throw, p.hard⟩, rfl, plan_of hP.out sf (owns_row encElem_len OEf (by omega)).1 (by intro h; cases h) hP.out.fit.e (owns_row encJoin_len OJf (by omega)).1 (by intro h; cases h) (fit_jbn hP.out.fit.j Hy.out Hn.out) (owns_row encSig_len OSf (by omega)).1 (fun h => (hqs'.out h).2) hP.out.fit.s hP.out.fit.top hP.out.fit.brake hP.out.fit.margin hP.out.fit.throw, Hn2.out, sf⟩
  ·
    rcases Nat.eq_zero_or_pos ns with hz0 | hn0
    · have q2 : ¬ (0 < ns) := by omega
      have q3 : ¬ ((0 : Int) < (ns : Int)) := by omega
      clear hz0
      go_wp2_with fail
      refine name_body fun Wf hWf => ?_
      have OZf : OBox Wf (w.heap.size + 1) ⟨some ⟨ge, 0, none⟩, ne, cqe, aqj, nj, cqj, aqs, ns, cqs, al, nl, cl, lv⟩ ⟨p.elems, p.joins, p.sigs, p.lines, p.top, p.brake, p.margin, p.throw, p.hard⟩ := by rw [hWf]; (try (with_reducible refine OBox.drew ?_)); with_reducible refine obox_filled (v := zPV) (p := zPlan) (v' := ⟨some ⟨ge, 0, none⟩, ne, cqe, aqj, nj, cqj, aqs, ns, cqs, al, nl, cl, lv⟩) (p' := ⟨p.elems, p.joins, p.sigs, p.lines, p.top, p.brake, p.margin, p.throw, p.hard⟩) ?_; repeat (first | with_reducible exact T8.out.oz | ((with_reducible refine obox_far ?_ ?_ _ _); omega) | (with_reducible refine OBox.drew ?_))
      have sf : Below w.heap.size w Wf := by rw [hWf]; repeat (first | with_reducible exact T8.out.still | ((with_reducible refine below_set ?_ ?_ _); omega) | (with_reducible refine Below.drew ?_))
      have OEf : Wf.ownsRow (w.heap.size + 3) 42 3 (.slice (some ⟨ge, 0, none⟩) ne cqe) ne ((p.elems).flatMap encElem) := by rw [hWf]; repeat (first | with_reducible exact OE8.out | ((with_reducible refine own_low ?_ ?_ _); omega) | ((with_reducible refine own_other ?_ ?_ _ _); (intro k hk; simp only [Value.ownBlock, Option.some.injEq] at hk; omega)) | ((with_reducible refine own_other ?_ ?_ _ _); (intro k hk; have := hj6 k hk; omega)) | (with_reducible refine World.ownsRow.drew ?_))
      have OJf : Wf.ownsRow w4.heap.size 48 4 (.slice aqj nj cqj) nj ((p.joins).flatMap encJoin) := by rw [hWf]; repeat (first | with_reducible exact OJ8.out | ((with_reducible refine own_low ?_ ?_ _); omega) | ((with_reducible refine own_other ?_ ?_ _ _); (intro k hk; simp only [Value.ownBlock, Option.some.injEq] at hk; omega)) | ((with_reducible refine own_other ?_ ?_ _ _); (intro k hk; have := hj6 k hk; omega)) | (with_reducible refine World.ownsRow.drew ?_))
      have OSf : Wf.ownsRow w6.heap.size 46 4 (.slice aqs ns cqs) ns ((p.sigs).flatMap encSig) := by rw [hWf]; repeat (first | with_reducible exact OS8.out | ((with_reducible refine own_low ?_ ?_ _); omega) | ((with_reducible refine own_other ?_ ?_ _ _); (intro k hk; simp only [Value.ownBlock, Option.some.injEq] at hk; omega)) | ((with_reducible refine own_other ?_ ?_ _ _); (intro k hk; have := hj6 k hk; omega)) | (with_reducible refine World.ownsRow.drew ?_))
      clear hWf
      obtain ⟨_, x0, x1, x2, x3, x4, x5, x6, x7, x8⟩ := OZf.box
      dsimp only at x0 x1 x2 x3 x4 x5 x6 x7 x8
      exact bodyPost_ret (v := .agg #[.slice (some ⟨ge, 0, none⟩) ne cqe, .slice aqj nj cqj, .slice aqs ns cqs, .slice al nl cl, .int .i64 (p.top), .int .i64 (p.brake), .int .i64 (p.margin), .int .i64 (p.throw), .bool p.hard])
        (by simp [results, Try.results31, go_sem, x0, x1, x2, x3, x4, x5, x6, x7, x8]) rfl
        ⟨⟨some ⟨ge, 0, none⟩, ne, cqe, aqj, nj, cqj, aqs, ns, cqs, al, nl, cl, lv⟩, ⟨p.elems, p.joins, p.sigs, p.lines, p.top, p.brake, p.margin, p.throw, p.hard⟩, rfl, plan_of hP.out sf (owns_row encElem_len OEf (by omega)).1 (by intro h; cases h) hP.out.fit.e (owns_row encJoin_len OJf (by omega)).1 (fun h => (hqj'.out h).2) hP.out.fit.j (owns_row encSig_len OSf (by omega)).1 (fun h => (hqs'.out h).2) hP.out.fit.s hP.out.fit.top hP.out.fit.brake hP.out.fit.margin hP.out.fit.throw, Hn2.out, sf⟩
    have q3 : (0 : Int) < (ns : Int) := by omega
    obtain ⟨gs, cx, heq, hgx, hgx2⟩ := own_shape OS8.out hn0
    simp only [Value.slice.injEq, true_and] at heq
    obtain ⟨rfl, rfl⟩ := heq
    obtain ⟨t, ht⟩ : ∃ t : Nat, Int.tmod i (ns : Int) = (t : Int) := ⟨(Int.tmod i (ns : Int)).toNat, by have := Int.tmod_nonneg (ns : Int) i0; omega⟩
    have htn : t < ns := by have := Int.tmod_lt_of_pos i (show (0 : Int) < (ns : Int) by omega); omega
    have hn00 : (ns : Int) ≠ 0 := by omega
    have hwt : IntKind.i64.wrap (t : Int) = (t : Int) := IntWalk.i64_in _ (by omega)
    have hwi : IntKind.i64.wrap i = i := IntWalk.i64_in _ (by omega)
    obtain ⟨y, hy⟩ := get_some hP.out.s.len htn
    have Hy := Lib.hid hy
    have e1 : w8.cell? ⟨gs, t * 4 + 1, none⟩ = some (.int .i64 y.at_.e) := own_at encSig_len OS8.out (k := 1) hy htn rfl
    have f1 := OS8.out.frozenAt (t * 4 + 1)
    clear hy
    go_wp2_with fail
    refine name_body fun Wf hWf => ?_
    have OZf : OBox Wf (w.heap.size + 1) ⟨some ⟨ge, 0, none⟩, ne, cqe, aqj, nj, cqj, (some ⟨gs, 0, none⟩), ns, cqs, al, nl, cl, lv⟩ ⟨p.elems, p.joins, p.sigs.set t { y with at_ := { y.at_ with e := n } }, p.lines, p.top, p.brake, p.margin, p.throw, p.hard⟩ := by rw [hWf]; (try (with_reducible refine OBox.drew ?_)); with_reducible refine obox_filled (v := zPV) (p := zPlan) (v' := ⟨some ⟨ge, 0, none⟩, ne, cqe, aqj, nj, cqj, (some ⟨gs, 0, none⟩), ns, cqs, al, nl, cl, lv⟩) (p' := ⟨p.elems, p.joins, p.sigs.set t { y with at_ := { y.at_ with e := n } }, p.lines, p.top, p.brake, p.margin, p.throw, p.hard⟩) ?_; repeat (first | with_reducible exact T8.out.oz | ((with_reducible refine obox_far ?_ ?_ _ _); omega) | (with_reducible refine OBox.drew ?_))
    have sf : Below w.heap.size w Wf := by rw [hWf]; repeat (first | with_reducible exact T8.out.still | ((with_reducible refine below_set ?_ ?_ _); omega) | (with_reducible refine Below.drew ?_))
    have OEf : Wf.ownsRow (w.heap.size + 3) 42 3 (.slice (some ⟨ge, 0, none⟩) ne cqe) ne ((p.elems).flatMap encElem) := by rw [hWf]; repeat (first | with_reducible exact OE8.out | ((with_reducible refine own_low ?_ ?_ _); omega) | ((with_reducible refine own_other ?_ ?_ _ _); (intro k hk; simp only [Value.ownBlock, Option.some.injEq] at hk; omega)) | ((with_reducible refine own_other ?_ ?_ _ _); (intro k hk; have := hj6 k hk; omega)) | (with_reducible refine World.ownsRow.drew ?_))
    have OJf : Wf.ownsRow w4.heap.size 48 4 (.slice aqj nj cqj) nj ((p.joins).flatMap encJoin) := by rw [hWf]; repeat (first | with_reducible exact OJ8.out | ((with_reducible refine own_low ?_ ?_ _); omega) | ((with_reducible refine own_other ?_ ?_ _ _); (intro k hk; simp only [Value.ownBlock] at hk; omega)) | ((with_reducible refine own_other ?_ ?_ _ _); (intro k hk; have := hj6 k hk; omega)) | (with_reducible refine World.ownsRow.drew ?_))
    have OSf : Wf.ownsRow w6.heap.size 46 4 (.slice (some ⟨gs, 0, none⟩) ns cqs) ns ((p.sigs.set t { y with at_ := { y.at_ with e := n } }).flatMap encSig) := by rw [hWf]; repeat (first | with_reducible exact OS8.out | ((with_reducible refine own_low ?_ ?_ _); omega) | ((with_reducible refine own_other ?_ ?_ _ _); (intro k hk; simp only [Value.ownBlock, Option.some.injEq] at hk; omega)) | ((with_reducible refine own_other ?_ ?_ _ _); (intro k hk; have := hj6 k hk; omega)) | (with_reducible refine World.ownsRow.drew ?_) | (refine (own_put encSig_len ?_ (k := 1) Hy.out (by omega) (x' := { y with at_ := { y.at_ with e := n } }) rfl).1))
    clear hWf
    obtain ⟨_, x0, x1, x2, x3, x4, x5, x6, x7, x8⟩ := OZf.box
    dsimp only at x0 x1 x2 x3 x4 x5 x6 x7 x8
    exact bodyPost_ret (v := .agg #[.slice (some ⟨ge, 0, none⟩) ne cqe, .slice aqj nj cqj, .slice (some ⟨gs, 0, none⟩) ns cqs, .slice al nl cl, .int .i64 (p.top), .int .i64 (p.brake), .int .i64 (p.margin), .int .i64 (p.throw), .bool p.hard])
      (by simp [results, Try.results31, go_sem, x0, x1, x2, x3, x4, x5, x6, x7, x8]) rfl
      ⟨⟨some ⟨ge, 0, none⟩, ne, cqe, aqj, nj, cqj, (some ⟨gs, 0, none⟩), ns, cqs, al, nl, cl, lv⟩, ⟨p.elems, p.joins, p.sigs.set t { y with at_ := { y.at_ with e := n } }, p.lines, p.top, p.brake, p.margin, p.throw, p.hard⟩, rfl, plan_of hP.out sf (owns_row encElem_len OEf (by omega)).1 (by intro h; cases h) hP.out.fit.e (owns_row encJoin_len OJf (by omega)).1 (fun h => (hqj'.out h).2) hP.out.fit.j (owns_row encSig_len OSf (by omega)).1 (by intro h; cases h) (fit_sae hP.out.fit.s Hy.out Hn.out) hP.out.fit.top hP.out.fit.brake hP.out.fit.margin hP.out.fit.throw, Hn2.out, sf⟩
  ·
    rcases Nat.eq_zero_or_pos ns with hz0 | hn0
    · have q2 : ¬ (0 < ns) := by omega
      have q3 : ¬ ((0 : Int) < (ns : Int)) := by omega
      clear hz0
      go_wp2_with fail
      refine name_body fun Wf hWf => ?_
      have OZf : OBox Wf (w.heap.size + 1) ⟨some ⟨ge, 0, none⟩, ne, cqe, aqj, nj, cqj, aqs, ns, cqs, al, nl, cl, lv⟩ ⟨p.elems, p.joins, p.sigs, p.lines, p.top, p.brake, p.margin, p.throw, p.hard⟩ := by rw [hWf]; (try (with_reducible refine OBox.drew ?_)); with_reducible refine obox_filled (v := zPV) (p := zPlan) (v' := ⟨some ⟨ge, 0, none⟩, ne, cqe, aqj, nj, cqj, aqs, ns, cqs, al, nl, cl, lv⟩) (p' := ⟨p.elems, p.joins, p.sigs, p.lines, p.top, p.brake, p.margin, p.throw, p.hard⟩) ?_; repeat (first | with_reducible exact T8.out.oz | ((with_reducible refine obox_far ?_ ?_ _ _); omega) | (with_reducible refine OBox.drew ?_))
      have sf : Below w.heap.size w Wf := by rw [hWf]; repeat (first | with_reducible exact T8.out.still | ((with_reducible refine below_set ?_ ?_ _); omega) | (with_reducible refine Below.drew ?_))
      have OEf : Wf.ownsRow (w.heap.size + 3) 42 3 (.slice (some ⟨ge, 0, none⟩) ne cqe) ne ((p.elems).flatMap encElem) := by rw [hWf]; repeat (first | with_reducible exact OE8.out | ((with_reducible refine own_low ?_ ?_ _); omega) | ((with_reducible refine own_other ?_ ?_ _ _); (intro k hk; simp only [Value.ownBlock, Option.some.injEq] at hk; omega)) | ((with_reducible refine own_other ?_ ?_ _ _); (intro k hk; have := hj6 k hk; omega)) | (with_reducible refine World.ownsRow.drew ?_))
      have OJf : Wf.ownsRow w4.heap.size 48 4 (.slice aqj nj cqj) nj ((p.joins).flatMap encJoin) := by rw [hWf]; repeat (first | with_reducible exact OJ8.out | ((with_reducible refine own_low ?_ ?_ _); omega) | ((with_reducible refine own_other ?_ ?_ _ _); (intro k hk; simp only [Value.ownBlock, Option.some.injEq] at hk; omega)) | ((with_reducible refine own_other ?_ ?_ _ _); (intro k hk; have := hj6 k hk; omega)) | (with_reducible refine World.ownsRow.drew ?_))
      have OSf : Wf.ownsRow w6.heap.size 46 4 (.slice aqs ns cqs) ns ((p.sigs).flatMap encSig) := by rw [hWf]; repeat (first | with_reducible exact OS8.out | ((with_reducible refine own_low ?_ ?_ _); omega) | ((with_reducible refine own_other ?_ ?_ _ _); (intro k hk; simp only [Value.ownBlock, Option.some.injEq] at hk; omega)) | ((with_reducible refine own_other ?_ ?_ _ _); (intro k hk; have := hj6 k hk; omega)) | (with_reducible refine World.ownsRow.drew ?_))
      clear hWf
      obtain ⟨_, x0, x1, x2, x3, x4, x5, x6, x7, x8⟩ := OZf.box
      dsimp only at x0 x1 x2 x3 x4 x5 x6 x7 x8
      exact bodyPost_ret (v := .agg #[.slice (some ⟨ge, 0, none⟩) ne cqe, .slice aqj nj cqj, .slice aqs ns cqs, .slice al nl cl, .int .i64 (p.top), .int .i64 (p.brake), .int .i64 (p.margin), .int .i64 (p.throw), .bool p.hard])
        (by simp [results, Try.results31, go_sem, x0, x1, x2, x3, x4, x5, x6, x7, x8]) rfl
        ⟨⟨some ⟨ge, 0, none⟩, ne, cqe, aqj, nj, cqj, aqs, ns, cqs, al, nl, cl, lv⟩, ⟨p.elems, p.joins, p.sigs, p.lines, p.top, p.brake, p.margin, p.throw, p.hard⟩, rfl, plan_of hP.out sf (owns_row encElem_len OEf (by omega)).1 (by intro h; cases h) hP.out.fit.e (owns_row encJoin_len OJf (by omega)).1 (fun h => (hqj'.out h).2) hP.out.fit.j (owns_row encSig_len OSf (by omega)).1 (fun h => (hqs'.out h).2) hP.out.fit.s hP.out.fit.top hP.out.fit.brake hP.out.fit.margin hP.out.fit.throw, Hn2.out, sf⟩
    have q3 : (0 : Int) < (ns : Int) := by omega
    obtain ⟨gs, cx, heq, hgx, hgx2⟩ := own_shape OS8.out hn0
    simp only [Value.slice.injEq, true_and] at heq
    obtain ⟨rfl, rfl⟩ := heq
    obtain ⟨t, ht⟩ : ∃ t : Nat, Int.tmod i (ns : Int) = (t : Int) := ⟨(Int.tmod i (ns : Int)).toNat, by have := Int.tmod_nonneg (ns : Int) i0; omega⟩
    have htn : t < ns := by have := Int.tmod_lt_of_pos i (show (0 : Int) < (ns : Int) by omega); omega
    have hn00 : (ns : Int) ≠ 0 := by omega
    have hwt : IntKind.i64.wrap (t : Int) = (t : Int) := IntWalk.i64_in _ (by omega)
    have hwi : IntKind.i64.wrap i = i := IntWalk.i64_in _ (by omega)
    obtain ⟨y, hy⟩ := get_some hP.out.s.len htn
    have Hy := Lib.hid hy
    have e1 : w8.cell? ⟨gs, t * 4 + 2, none⟩ = some (.int .i64 y.at_.n) := own_at encSig_len OS8.out (k := 2) hy htn rfl
    have f1 := OS8.out.frozenAt (t * 4 + 2)
    clear hy
    go_wp2_with fail
    refine name_body fun Wf hWf => ?_
    have OZf : OBox Wf (w.heap.size + 1) ⟨some ⟨ge, 0, none⟩, ne, cqe, aqj, nj, cqj, (some ⟨gs, 0, none⟩), ns, cqs, al, nl, cl, lv⟩ ⟨p.elems, p.joins, p.sigs.set t { y with at_ := { y.at_ with n := n } }, p.lines, p.top, p.brake, p.margin, p.throw, p.hard⟩ := by rw [hWf]; (try (with_reducible refine OBox.drew ?_)); with_reducible refine obox_filled (v := zPV) (p := zPlan) (v' := ⟨some ⟨ge, 0, none⟩, ne, cqe, aqj, nj, cqj, (some ⟨gs, 0, none⟩), ns, cqs, al, nl, cl, lv⟩) (p' := ⟨p.elems, p.joins, p.sigs.set t { y with at_ := { y.at_ with n := n } }, p.lines, p.top, p.brake, p.margin, p.throw, p.hard⟩) ?_; repeat (first | with_reducible exact T8.out.oz | ((with_reducible refine obox_far ?_ ?_ _ _); omega) | (with_reducible refine OBox.drew ?_))
    have sf : Below w.heap.size w Wf := by rw [hWf]; repeat (first | with_reducible exact T8.out.still | ((with_reducible refine below_set ?_ ?_ _); omega) | (with_reducible refine Below.drew ?_))
    have OEf : Wf.ownsRow (w.heap.size + 3) 42 3 (.slice (some ⟨ge, 0, none⟩) ne cqe) ne ((p.elems).flatMap encElem) := by rw [hWf]; repeat (first | with_reducible exact OE8.out | ((with_reducible refine own_low ?_ ?_ _); omega) | ((with_reducible refine own_other ?_ ?_ _ _); (intro k hk; simp only [Value.ownBlock, Option.some.injEq] at hk; omega)) | ((with_reducible refine own_other ?_ ?_ _ _); (intro k hk; have := hj6 k hk; omega)) | (with_reducible refine World.ownsRow.drew ?_))
    have OJf : Wf.ownsRow w4.heap.size 48 4 (.slice aqj nj cqj) nj ((p.joins).flatMap encJoin) := by rw [hWf]; repeat (first | with_reducible exact OJ8.out | ((with_reducible refine own_low ?_ ?_ _); omega) | ((with_reducible refine own_other ?_ ?_ _ _); (intro k hk; simp only [Value.ownBlock] at hk; omega)) | ((with_reducible refine own_other ?_ ?_ _ _); (intro k hk; have := hj6 k hk; omega)) | (with_reducible refine World.ownsRow.drew ?_))
    have OSf : Wf.ownsRow w6.heap.size 46 4 (.slice (some ⟨gs, 0, none⟩) ns cqs) ns ((p.sigs.set t { y with at_ := { y.at_ with n := n } }).flatMap encSig) := by rw [hWf]; repeat (first | with_reducible exact OS8.out | ((with_reducible refine own_low ?_ ?_ _); omega) | ((with_reducible refine own_other ?_ ?_ _ _); (intro k hk; simp only [Value.ownBlock, Option.some.injEq] at hk; omega)) | ((with_reducible refine own_other ?_ ?_ _ _); (intro k hk; have := hj6 k hk; omega)) | (with_reducible refine World.ownsRow.drew ?_) | (refine (own_put encSig_len ?_ (k := 2) Hy.out (by omega) (x' := { y with at_ := { y.at_ with n := n } }) rfl).1))
    clear hWf
    obtain ⟨_, x0, x1, x2, x3, x4, x5, x6, x7, x8⟩ := OZf.box
    dsimp only at x0 x1 x2 x3 x4 x5 x6 x7 x8
    exact bodyPost_ret (v := .agg #[.slice (some ⟨ge, 0, none⟩) ne cqe, .slice aqj nj cqj, .slice (some ⟨gs, 0, none⟩) ns cqs, .slice al nl cl, .int .i64 (p.top), .int .i64 (p.brake), .int .i64 (p.margin), .int .i64 (p.throw), .bool p.hard])
      (by simp [results, Try.results31, go_sem, x0, x1, x2, x3, x4, x5, x6, x7, x8]) rfl
      ⟨⟨some ⟨ge, 0, none⟩, ne, cqe, aqj, nj, cqj, (some ⟨gs, 0, none⟩), ns, cqs, al, nl, cl, lv⟩, ⟨p.elems, p.joins, p.sigs.set t { y with at_ := { y.at_ with n := n } }, p.lines, p.top, p.brake, p.margin, p.throw, p.hard⟩, rfl, plan_of hP.out sf (owns_row encElem_len OEf (by omega)).1 (by intro h; cases h) hP.out.fit.e (owns_row encJoin_len OJf (by omega)).1 (fun h => (hqj'.out h).2) hP.out.fit.j (owns_row encSig_len OSf (by omega)).1 (by intro h; cases h) (fit_san hP.out.fit.s Hy.out Hn.out) hP.out.fit.top hP.out.fit.brake hP.out.fit.margin hP.out.fit.throw, Hn2.out, sf⟩
  ·
    rcases Nat.eq_zero_or_pos ns with hz0 | hn0
    · have q2 : ¬ (0 < ns) := by omega
      have q3 : ¬ ((0 : Int) < (ns : Int)) := by omega
      clear hz0
      go_wp2_with fail
      refine name_body fun Wf hWf => ?_
      have OZf : OBox Wf (w.heap.size + 1) ⟨some ⟨ge, 0, none⟩, ne, cqe, aqj, nj, cqj, aqs, ns, cqs, al, nl, cl, lv⟩ ⟨p.elems, p.joins, p.sigs, p.lines, p.top, p.brake, p.margin, p.throw, p.hard⟩ := by rw [hWf]; (try (with_reducible refine OBox.drew ?_)); with_reducible refine obox_filled (v := zPV) (p := zPlan) (v' := ⟨some ⟨ge, 0, none⟩, ne, cqe, aqj, nj, cqj, aqs, ns, cqs, al, nl, cl, lv⟩) (p' := ⟨p.elems, p.joins, p.sigs, p.lines, p.top, p.brake, p.margin, p.throw, p.hard⟩) ?_; repeat (first | with_reducible exact T8.out.oz | ((with_reducible refine obox_far ?_ ?_ _ _); omega) | (with_reducible refine OBox.drew ?_))
      have sf : Below w.heap.size w Wf := by rw [hWf]; repeat (first | with_reducible exact T8.out.still | ((with_reducible refine below_set ?_ ?_ _); omega) | (with_reducible refine Below.drew ?_))
      have OEf : Wf.ownsRow (w.heap.size + 3) 42 3 (.slice (some ⟨ge, 0, none⟩) ne cqe) ne ((p.elems).flatMap encElem) := by rw [hWf]; repeat (first | with_reducible exact OE8.out | ((with_reducible refine own_low ?_ ?_ _); omega) | ((with_reducible refine own_other ?_ ?_ _ _); (intro k hk; simp only [Value.ownBlock, Option.some.injEq] at hk; omega)) | ((with_reducible refine own_other ?_ ?_ _ _); (intro k hk; have := hj6 k hk; omega)) | (with_reducible refine World.ownsRow.drew ?_))
      have OJf : Wf.ownsRow w4.heap.size 48 4 (.slice aqj nj cqj) nj ((p.joins).flatMap encJoin) := by rw [hWf]; repeat (first | with_reducible exact OJ8.out | ((with_reducible refine own_low ?_ ?_ _); omega) | ((with_reducible refine own_other ?_ ?_ _ _); (intro k hk; simp only [Value.ownBlock, Option.some.injEq] at hk; omega)) | ((with_reducible refine own_other ?_ ?_ _ _); (intro k hk; have := hj6 k hk; omega)) | (with_reducible refine World.ownsRow.drew ?_))
      have OSf : Wf.ownsRow w6.heap.size 46 4 (.slice aqs ns cqs) ns ((p.sigs).flatMap encSig) := by rw [hWf]; repeat (first | with_reducible exact OS8.out | ((with_reducible refine own_low ?_ ?_ _); omega) | ((with_reducible refine own_other ?_ ?_ _ _); (intro k hk; simp only [Value.ownBlock, Option.some.injEq] at hk; omega)) | ((with_reducible refine own_other ?_ ?_ _ _); (intro k hk; have := hj6 k hk; omega)) | (with_reducible refine World.ownsRow.drew ?_))
      clear hWf
      obtain ⟨_, x0, x1, x2, x3, x4, x5, x6, x7, x8⟩ := OZf.box
      dsimp only at x0 x1 x2 x3 x4 x5 x6 x7 x8
      exact bodyPost_ret (v := .agg #[.slice (some ⟨ge, 0, none⟩) ne cqe, .slice aqj nj cqj, .slice aqs ns cqs, .slice al nl cl, .int .i64 (p.top), .int .i64 (p.brake), .int .i64 (p.margin), .int .i64 (p.throw), .bool p.hard])
        (by simp [results, Try.results31, go_sem, x0, x1, x2, x3, x4, x5, x6, x7, x8]) rfl
        ⟨⟨some ⟨ge, 0, none⟩, ne, cqe, aqj, nj, cqj, aqs, ns, cqs, al, nl, cl, lv⟩, ⟨p.elems, p.joins, p.sigs, p.lines, p.top, p.brake, p.margin, p.throw, p.hard⟩, rfl, plan_of hP.out sf (owns_row encElem_len OEf (by omega)).1 (by intro h; cases h) hP.out.fit.e (owns_row encJoin_len OJf (by omega)).1 (fun h => (hqj'.out h).2) hP.out.fit.j (owns_row encSig_len OSf (by omega)).1 (fun h => (hqs'.out h).2) hP.out.fit.s hP.out.fit.top hP.out.fit.brake hP.out.fit.margin hP.out.fit.throw, Hn2.out, sf⟩
    have q3 : (0 : Int) < (ns : Int) := by omega
    obtain ⟨gs, cx, heq, hgx, hgx2⟩ := own_shape OS8.out hn0
    simp only [Value.slice.injEq, true_and] at heq
    obtain ⟨rfl, rfl⟩ := heq
    obtain ⟨t, ht⟩ : ∃ t : Nat, Int.tmod i (ns : Int) = (t : Int) := ⟨(Int.tmod i (ns : Int)).toNat, by have := Int.tmod_nonneg (ns : Int) i0; omega⟩
    have htn : t < ns := by have := Int.tmod_lt_of_pos i (show (0 : Int) < (ns : Int) by omega); omega
    have hn00 : (ns : Int) ≠ 0 := by omega
    have hwt : IntKind.i64.wrap (t : Int) = (t : Int) := IntWalk.i64_in _ (by omega)
    have hwi : IntKind.i64.wrap i = i := IntWalk.i64_in _ (by omega)
    go_wp2_with fail
    refine name_code fun w9 hw9 => ?_
    have T9 := Lib.hid (show Trn w w9 ⟨ae, ne, ce, aj, nj, cj, as_, ns, cs, al, nl, cl, lv⟩ ⟨some ⟨ge, 0, none⟩, ne, cqe, aqj, nj, cqj, (some ⟨gs, 0, none⟩), ns, cqs, al, nl, cl, lv⟩ p p by rw [hw9]; exact T8.out.put rfl)
    have OE9 := Lib.hid (show w9.ownsRow (w.heap.size + 3) 42 3 (.slice (some ⟨ge, 0, none⟩) ne cqe) ne (p.elems.flatMap encElem) by rw [hw9]; exact own_low (by omega) OE8.out _)
    have OJ9 := Lib.hid (show w9.ownsRow w4.heap.size 48 4 (.slice aqj nj cqj) nj (p.joins.flatMap encJoin) by rw [hw9]; exact own_low (by omega) OJ8.out _)
    have OS9 := Lib.hid (show w9.ownsRow w6.heap.size 46 4 (.slice (some ⟨gs, 0, none⟩) ns cqs) ns (p.sigs.flatMap encSig) by rw [hw9]; exact own_low (by omega) OS8.out _)
    clear hw9 c0 c1 c2 c3 c4 c5 c6 c7 c8 d0 d1 d2 d3 d4 d5 d6 d7 d8 z0 z1 z2 z3 z4 z5 z6 z7 z8 fq fz
    obtain ⟨_, c0, c1, c2, c3, c4, c5, c6, c7, c8⟩ := T9.out.ob
    obtain ⟨_, d0, d1, d2, d3, d4, d5, d6, d7, d8⟩ := T9.out.oq.box
    obtain ⟨_, z0, z1, z2, z3, z4, z5, z6, z7, z8⟩ := T9.out.oz.box
    have fq := T9.out.oq.frozen
    have fz := T9.out.oz.frozen
    dsimp only at c0 c1 c2 c3 d0 d1 d2 d3
    dsimp only [zPV, zPlan] at z0 z1 z2 z3 z4 z5 z6 z7 z8
    refine wp_region_noPanic ?_
    refine region_till (S := fun w' => w'.cell? ⟨w.heap.size + 2, 2, none⟩ = some (.slice (some ⟨gs, 0, none⟩) ns cqs)) (t := 13) (by kernel_rfl) ?_
    have hS0 : w9.drew.cell? ⟨w.heap.size + 2, 2, none⟩ = some (.slice (some ⟨gs, 0, none⟩) ns cqs) := d2
    have hw1 : IntKind.i64.wrap ((t : Int) + 1) = (t : Int) + 1 := IntWalk.i64_in _ (by omega)
    have ht1 : (t : Int) + 1 ≤ (ns : Int) := by omega
    have ht2 : (0 : Int) ≤ (t : Int) + 1 := by omega
    have ht3 : (t : Int) ≤ (ns : Int) := by omega
    have ht4 : (0 : Int) ≤ (t : Int) := by omega
    have hcap : ns ≤ cqs := own_cap OS9.out
    have hca1 : t ≤ cqs := by omega
    have hca2 : (t : Int) ≤ (cqs : Int) := by omega
    have hca3 : t + 1 ≤ ns := by omega
    have hca4 : ns ≤ cqs := by omega
    have hca5 : (ns : Int) ≤ (cqs : Int) := by omega
    refine till_take (i := 1) (v := .pointer (some ⟨w.heap.size + 1 + 1, 2, none⟩)) rfl (by kernel_rfl) (by kernel_rfl) (by kernel_rfl) (by decide) (by kernel_rfl) (fun _ _ _ h => h) (Or.inl ⟨by rfl, ?_⟩) hS0 ?_
    · intro w' hSw
      (try dsimp only at hSw)
      go_simp
    (try simp only [Act.put, List.setIfInBounds_toArray])
    refine till_take (i := 2) (v := .slice (some ⟨gs, 0, none⟩) ns cqs) rfl (by kernel_rfl) (by kernel_rfl) (by kernel_rfl) (by decide) (by kernel_rfl) (fun _ _ _ h => h) (Or.inl ⟨by rfl, ?_⟩) hS0 ?_
    · intro w' hSw
      (try dsimp only at hSw)
      go_simp
    (try simp only [Act.put])
    refine till_take (i := 3) (v := .int .i64 t) rfl (by kernel_rfl) (by kernel_rfl) (by kernel_rfl) (by decide) (by kernel_rfl) (fun _ _ _ h => h) (Or.inl ⟨by rfl, ?_⟩) hS0 ?_
    · intro w' hSw
      (try dsimp only at hSw)
      go_simp
    (try simp only [Act.put])
    refine till_take (i := 4) (v := .slice (some ⟨gs, 0, none⟩) t cqs) rfl (by kernel_rfl) (by kernel_rfl) (by kernel_rfl) (by decide) (by kernel_rfl) (fun _ _ _ h => h) (Or.inl ⟨by rfl, ?_⟩) hS0 ?_
    · intro w' hSw
      (try dsimp only at hSw)
      go_simp
    (try simp only [Act.put])
    refine till_take (i := 6) (v := .pointer (some ⟨w.heap.size + 1 + 1, 2, none⟩)) rfl (by kernel_rfl) (by kernel_rfl) (by kernel_rfl) (by decide) (by kernel_rfl) (fun _ _ _ h => h) (Or.inl ⟨by rfl, ?_⟩) hS0 ?_
    · intro w' hSw
      (try dsimp only at hSw)
      go_simp
    (try simp only [Act.put])
    refine till_take (i := 7) (v := .slice (some ⟨gs, 0, none⟩) ns cqs) rfl (by kernel_rfl) (by kernel_rfl) (by kernel_rfl) (by decide) (by kernel_rfl) (fun _ _ _ h => h) (Or.inl ⟨by rfl, ?_⟩) hS0 ?_
    · intro w' hSw
      (try dsimp only at hSw)
      go_simp
    (try simp only [Act.put])
    refine till_take (i := 8) (v := .int .i64 t) rfl (by kernel_rfl) (by kernel_rfl) (by kernel_rfl) (by decide) (by kernel_rfl) (fun _ _ _ h => h) (Or.inl ⟨by rfl, ?_⟩) hS0 ?_
    · intro w' hSw
      (try dsimp only at hSw)
      go_simp
    (try simp only [Act.put])
    refine till_take (i := 9) (v := .int .i64 (t + 1)) rfl (by kernel_rfl) (by kernel_rfl) (by kernel_rfl) (by decide) (by kernel_rfl) (fun _ _ _ h => h) (Or.inl ⟨by rfl, ?_⟩) hS0 ?_
    · intro w' hSw
      (try dsimp only at hSw)
      go_simp
    (try simp only [Act.put])
    have hrow1 := Lib.hid (((row_take (owns_row encSig_len OS9.out (by omega)).1 (t := t) (by omega)).alloc (.cells #[] 46)).drew)
    have hgs9 := own_shape' OS9.out
    have hsz69 : w6.heap.size ≤ w9.heap.size := by omega
    by_cases hcp : cqs = t + 1
    · have hrow2 := Lib.hid (row_none (w := (w9.alloc (.cells #[] 46)).drew) (a := some ⟨gs, 0, none⟩) (enc := encSig) (sz := 4) (xs := p.sigs.drop (t + 1)) (n := ns - (t + 1)) (by have := hP.out.s.len; dsimp only at this; rw [List.length_drop]; omega) (by omega))
      refine till_take (i := 10) (v := .slice (some ⟨gs, 0, none⟩) (ns - (t + 1)) (cqs - (t + 1))) rfl (by kernel_rfl) (by kernel_rfl) (by kernel_rfl) (by decide) (by kernel_rfl) (fun _ _ _ h => h) (Or.inl ⟨by rfl, ?_⟩) hS0 ?_
      · intro w' hSw
        (try dsimp only at hSw)
        go_simp
      (try simp only [Act.put])
      have Hcp := Lib.hid hcp
      clear hcp
      refine till_step (i := 0) (by kernel_rfl) rfl (fun K hK => ?_)
      go_simp
      refine hK _ _ (fun _ => (by go_simp)) ?_
      clear hK K
      (try simp only [Act.put, List.setIfInBounds_toArray, List.set_cons_zero, List.set_cons_succ])
      refine till_step (i := 5) (by kernel_rfl) rfl (fun K hK => ?_)
      refine step_sig0 (s := .tmp 157) (x := .tmp 161) (base := w9.heap.size) (b := w9.heap.size) (m := t) (c := cqs) (ad := ⟨gs, 0, none⟩) (ys := p.sigs.take t) rfl rfl rfl rfl (by omega) (lit_ownJ (Nat.le_refl _) rfl).drew hrow1.out (by simp [World.drew]) ?_
      intro v4 w10 hown4 hgrow4
      have T10 := Lib.hid ((T9.out.alloc (.cells #[] 46)).drew.grown hgrow4 (by intro k hk; cases hk; omega))
      have OE10 := Lib.hid ((OE9.out.alloc (.cells #[] 46)).drew.kept hgrow4 (.inr (by intro e; simp only [Value.ownBlock, Option.some.injEq] at e; omega)))
      have OJ10 := Lib.hid ((OJ9.out.alloc (.cells #[] 46)).drew.kept hgrow4 (own_apart (fun k hk => by have := (hj6 k hk).2; omega)))
      have hrow3 := Lib.hid (row_grown4 hrow2.out hgrow4 (by show some gs ≠ some w9.heap.size; intro e; cases e; omega))
      have Own4 := Lib.hid hown4
      have hs10 := hown4.lt
      have hsz10 : w9.heap.size < w10.heap.size := by have := hgrow4.size; simp at this; omega
      clear hown4 hgrow4
      have d10 := T10.out.oq.box.c2
      dsimp only at d10
      refine hK _ _ (fun _ => d10) ?_
      clear hK K
      (try simp only [Act.put, List.setIfInBounds_toArray])
      refine till_step (i := 11) (by kernel_rfl) rfl (fun K hK => ?_)
      refine step_sig1 (s := .tmp 162) (x := .tmp 167) (base := w9.heap.size) (n := t) (m := ns - (t + 1)) (c := cqs - (t + 1)) (ad := ⟨gs, 0, none⟩) (v := v4) (xs := p.sigs.take t) (ys := p.sigs.drop (t + 1)) rfl rfl rfl rfl (by omega) Own4.out hrow3.out (Nat.le_of_lt hsz10) ?_
      intro v5 w11 hown5 hgrow5
      have T11 := Lib.hid (T10.out.grown hgrow5 (by intro k hk; have := (hs10 k hk).1; omega))
      have OE11 := Lib.hid (OE10.out.kept hgrow5 (own_apart2 (by intro k hk; have := (hs10 k hk).1; simp only [Value.ownBlock, Option.some.injEq] at *; omega)))
      have OJ11 := Lib.hid (OJ10.out.kept hgrow5 (own_apart3 hj6 hs10 hsz69))
      obtain ⟨aq2, cq2, rfl, _, hq2⟩ := own_slice hown5
      have OS11 := Lib.hid (owns_base hown5 hsz69)
      have hd2 := T11.out.oq.box.c2
      dsimp only at hd2
      refine hK _ _ (fun _ => hd2) ?_
      clear hK K hgrow5 hown5
      (try simp only [Act.put])
      clear hS0 c0 c1 c2 c3 c4 c5 c6 c7 c8 d0 d1 d2 d3 d4 d5 d6 d7 d8 z0 z1 z2 z3 z4 z5 z6 z7 z8 fq fz
      have hS0 := hd2
      refine till_take (i := 12) (v := .pointer (some ⟨w.heap.size + 1 + 1, 2, none⟩)) rfl (by kernel_rfl) (by kernel_rfl) (by kernel_rfl) (by decide) (by kernel_rfl) (fun _ _ _ h => h) (Or.inl ⟨by rfl, ?_⟩) hS0 ?_
      · intro w' hSw
        (try dsimp only at hSw)
        go_simp
      (try simp only [Act.put])
      obtain ⟨_, c0, c1, c2, c3, c4, c5, c6, c7, c8⟩ := T11.out.ob
      obtain ⟨_, d0, d1, d2, d3, d4, d5, d6, d7, d8⟩ := T11.out.oq.box
      obtain ⟨_, z0, z1, z2, z3, z4, z5, z6, z7, z8⟩ := T11.out.oz.box
      have fq := T11.out.oq.frozen
      have fz := T11.out.oz.frozen
      dsimp only at c0 c1 c2 c3 d0 d1 d2 d3
      dsimp only [zPV, zPlan] at z0 z1 z2 z3 z4 z5 z6 z7 z8
      refine till_step (i := 13) (by kernel_rfl) rfl (fun K hK => ?_)
      go_simp
      refine hK _ _ (fun h => absurd rfl h) ?_
      clear hK K
      (try simp only [Act.put, List.setIfInBounds_toArray, List.set_cons_zero, List.set_cons_succ])
      refine till_done (by kernel_rfl) (NoPanic.normal ?_) _
      go_wp2_with fail
      refine name_body fun Wf hWf => ?_
      have OZf : OBox Wf (w.heap.size + 1) ⟨some ⟨ge, 0, none⟩, ne, cqe, aqj, nj, cqj, aq2, (t + (ns - (t + 1))), cq2, al, nl, cl, lv⟩ ⟨p.elems, p.joins, p.sigs.take t ++ p.sigs.drop (t + 1), p.lines, p.top, p.brake, p.margin, p.throw, p.hard⟩ := by rw [hWf]; (try (with_reducible refine OBox.drew ?_)); with_reducible refine obox_filled (v := zPV) (p := zPlan) (v' := ⟨some ⟨ge, 0, none⟩, ne, cqe, aqj, nj, cqj, aq2, (t + (ns - (t + 1))), cq2, al, nl, cl, lv⟩) (p' := ⟨p.elems, p.joins, p.sigs.take t ++ p.sigs.drop (t + 1), p.lines, p.top, p.brake, p.margin, p.throw, p.hard⟩) ?_; repeat (first | with_reducible exact T11.out.oz | ((with_reducible refine obox_far ?_ ?_ _ _); omega) | (with_reducible refine OBox.drew ?_))
      have sf : Below w.heap.size w Wf := by rw [hWf]; repeat (first | with_reducible exact T11.out.still | ((with_reducible refine below_set ?_ ?_ _); omega) | (with_reducible refine Below.drew ?_))
      have OEf : Wf.ownsRow (w.heap.size + 3) 42 3 (.slice (some ⟨ge, 0, none⟩) ne cqe) ne ((p.elems).flatMap encElem) := by rw [hWf]; repeat (first | with_reducible exact OE11.out | ((with_reducible refine own_low ?_ ?_ _); omega) | ((with_reducible refine own_other ?_ ?_ _ _); (intro k hk; simp only [Value.ownBlock, Option.some.injEq] at hk; omega)) | ((with_reducible refine own_other ?_ ?_ _ _); (intro k hk; have := hj6 k hk; omega)) | (with_reducible refine World.ownsRow.drew ?_))
      have OJf : Wf.ownsRow w4.heap.size 48 4 (.slice aqj nj cqj) nj ((p.joins).flatMap encJoin) := by rw [hWf]; repeat (first | with_reducible exact OJ11.out | ((with_reducible refine own_low ?_ ?_ _); omega) | ((with_reducible refine own_other ?_ ?_ _ _); (intro k hk; simp only [Value.ownBlock, Option.some.injEq] at hk; omega)) | ((with_reducible refine own_other ?_ ?_ _ _); (intro k hk; have := hj6 k hk; omega)) | (with_reducible refine World.ownsRow.drew ?_))
      have OSf : Wf.ownsRow w6.heap.size 46 4 (.slice aq2 (t + (ns - (t + 1))) cq2) (t + (ns - (t + 1))) ((p.sigs.take t ++ p.sigs.drop (t + 1)).flatMap encSig) := by rw [hWf]; repeat (first | with_reducible exact OS11.out | ((with_reducible refine own_low ?_ ?_ _); omega) | ((with_reducible refine own_other ?_ ?_ _ _); (intro k hk; simp only [Value.ownBlock, Option.some.injEq] at hk; omega)) | ((with_reducible refine own_other ?_ ?_ _ _); (intro k hk; have := hj6 k hk; omega)) | (with_reducible refine World.ownsRow.drew ?_))
      clear hWf
      obtain ⟨_, x0, x1, x2, x3, x4, x5, x6, x7, x8⟩ := OZf.box
      dsimp only at x0 x1 x2 x3 x4 x5 x6 x7 x8
      exact bodyPost_ret (v := .agg #[.slice (some ⟨ge, 0, none⟩) ne cqe, .slice aqj nj cqj, .slice aq2 (t + (ns - (t + 1))) cq2, .slice al nl cl, .int .i64 (p.top), .int .i64 (p.brake), .int .i64 (p.margin), .int .i64 (p.throw), .bool p.hard])
        (by simp [results, Try.results31, go_sem, x0, x1, x2, x3, x4, x5, x6, x7, x8]) rfl
        ⟨⟨some ⟨ge, 0, none⟩, ne, cqe, aqj, nj, cqj, aq2, (t + (ns - (t + 1))), cq2, al, nl, cl, lv⟩, ⟨p.elems, p.joins, p.sigs.take t ++ p.sigs.drop (t + 1), p.lines, p.top, p.brake, p.margin, p.throw, p.hard⟩, rfl, plan_of hP.out sf (owns_row encElem_len OEf (by omega)).1 (by intro h; cases h) hP.out.fit.e (owns_row encJoin_len OJf (by omega)).1 (fun h => (hqj'.out h).2) hP.out.fit.j (owns_row encSig_len OSf (by omega)).1 (fun h => (hq2 h).2) (fit_cut hP.out.fit.s) hP.out.fit.top hP.out.fit.brake hP.out.fit.margin hP.out.fit.throw, Hn2.out, sf⟩
    · have hrow2 := Lib.hid (((row_drop (owns_row encSig_len OS9.out (by omega)).1 (t := t + 1) (by omega)).alloc (.cells #[] 46)).drew)
      refine till_take (i := 10) (v := .slice (some ⟨gs, (t + 1) * 4, none⟩) (ns - (t + 1)) (cqs - (t + 1))) rfl (by kernel_rfl) (by kernel_rfl) (by kernel_rfl) (by decide) (by kernel_rfl) (fun _ _ _ h => h) (Or.inl ⟨by rfl, ?_⟩) hS0 ?_
      · intro w' hSw
        (try dsimp only at hSw)
        go_simp
      (try simp only [Act.put])
      have Hcp := Lib.hid hcp
      clear hcp
      refine till_step (i := 0) (by kernel_rfl) rfl (fun K hK => ?_)
      go_simp
      refine hK _ _ (fun _ => (by go_simp)) ?_
      clear hK K
      (try simp only [Act.put, List.setIfInBounds_toArray, List.set_cons_zero, List.set_cons_succ])
      refine till_step (i := 5) (by kernel_rfl) rfl (fun K hK => ?_)
      refine step_sig0 (s := .tmp 157) (x := .tmp 161) (base := w9.heap.size) (b := w9.heap.size) (m := t) (c := cqs) (ad := ⟨gs, 0, none⟩) (ys := p.sigs.take t) rfl rfl rfl rfl (by omega) (lit_ownJ (Nat.le_refl _) rfl).drew hrow1.out (by simp [World.drew]) ?_
      intro v4 w10 hown4 hgrow4
      have T10 := Lib.hid ((T9.out.alloc (.cells #[] 46)).drew.grown hgrow4 (by intro k hk; cases hk; omega))
      have OE10 := Lib.hid ((OE9.out.alloc (.cells #[] 46)).drew.kept hgrow4 (.inr (by intro e; simp only [Value.ownBlock, Option.some.injEq] at e; omega)))
      have OJ10 := Lib.hid ((OJ9.out.alloc (.cells #[] 46)).drew.kept hgrow4 (own_apart (fun k hk => by have := (hj6 k hk).2; omega)))
      have hrow3 := Lib.hid (row_grown4 hrow2.out hgrow4 (by show some gs ≠ some w9.heap.size; intro e; cases e; omega))
      have Own4 := Lib.hid hown4
      have hs10 := hown4.lt
      have hsz10 : w9.heap.size < w10.heap.size := by have := hgrow4.size; simp at this; omega
      clear hown4 hgrow4
      have d10 := T10.out.oq.box.c2
      dsimp only at d10
      refine hK _ _ (fun _ => d10) ?_
      clear hK K
      (try simp only [Act.put, List.setIfInBounds_toArray])
      refine till_step (i := 11) (by kernel_rfl) rfl (fun K hK => ?_)
      refine step_sig1 (s := .tmp 162) (x := .tmp 167) (base := w9.heap.size) (n := t) (m := ns - (t + 1)) (c := cqs - (t + 1)) (ad := ⟨gs, (t + 1) * 4, none⟩) (v := v4) (xs := p.sigs.take t) (ys := p.sigs.drop (t + 1)) rfl rfl rfl rfl (by omega) Own4.out hrow3.out (Nat.le_of_lt hsz10) ?_
      intro v5 w11 hown5 hgrow5
      have T11 := Lib.hid (T10.out.grown hgrow5 (by intro k hk; have := (hs10 k hk).1; omega))
      have OE11 := Lib.hid (OE10.out.kept hgrow5 (own_apart2 (by intro k hk; have := (hs10 k hk).1; simp only [Value.ownBlock, Option.some.injEq] at *; omega)))
      have OJ11 := Lib.hid (OJ10.out.kept hgrow5 (own_apart3 hj6 hs10 hsz69))
      obtain ⟨aq2, cq2, rfl, _, hq2⟩ := own_slice hown5
      have OS11 := Lib.hid (owns_base hown5 hsz69)
      have hd2 := T11.out.oq.box.c2
      dsimp only at hd2
      refine hK _ _ (fun _ => hd2) ?_
      clear hK K hgrow5 hown5
      (try simp only [Act.put])
      clear hS0 c0 c1 c2 c3 c4 c5 c6 c7 c8 d0 d1 d2 d3 d4 d5 d6 d7 d8 z0 z1 z2 z3 z4 z5 z6 z7 z8 fq fz
      have hS0 := hd2
      refine till_take (i := 12) (v := .pointer (some ⟨w.heap.size + 1 + 1, 2, none⟩)) rfl (by kernel_rfl) (by kernel_rfl) (by kernel_rfl) (by decide) (by kernel_rfl) (fun _ _ _ h => h) (Or.inl ⟨by rfl, ?_⟩) hS0 ?_
      · intro w' hSw
        (try dsimp only at hSw)
        go_simp
      (try simp only [Act.put])
      obtain ⟨_, c0, c1, c2, c3, c4, c5, c6, c7, c8⟩ := T11.out.ob
      obtain ⟨_, d0, d1, d2, d3, d4, d5, d6, d7, d8⟩ := T11.out.oq.box
      obtain ⟨_, z0, z1, z2, z3, z4, z5, z6, z7, z8⟩ := T11.out.oz.box
      have fq := T11.out.oq.frozen
      have fz := T11.out.oz.frozen
      dsimp only at c0 c1 c2 c3 d0 d1 d2 d3
      dsimp only [zPV, zPlan] at z0 z1 z2 z3 z4 z5 z6 z7 z8
      refine till_step (i := 13) (by kernel_rfl) rfl (fun K hK => ?_)
      go_simp
      refine hK _ _ (fun h => absurd rfl h) ?_
      clear hK K
      (try simp only [Act.put, List.setIfInBounds_toArray, List.set_cons_zero, List.set_cons_succ])
      refine till_done (by kernel_rfl) (NoPanic.normal ?_) _
      go_wp2_with fail
      refine name_body fun Wf hWf => ?_
      have OZf : OBox Wf (w.heap.size + 1) ⟨some ⟨ge, 0, none⟩, ne, cqe, aqj, nj, cqj, aq2, (t + (ns - (t + 1))), cq2, al, nl, cl, lv⟩ ⟨p.elems, p.joins, p.sigs.take t ++ p.sigs.drop (t + 1), p.lines, p.top, p.brake, p.margin, p.throw, p.hard⟩ := by rw [hWf]; (try (with_reducible refine OBox.drew ?_)); with_reducible refine obox_filled (v := zPV) (p := zPlan) (v' := ⟨some ⟨ge, 0, none⟩, ne, cqe, aqj, nj, cqj, aq2, (t + (ns - (t + 1))), cq2, al, nl, cl, lv⟩) (p' := ⟨p.elems, p.joins, p.sigs.take t ++ p.sigs.drop (t + 1), p.lines, p.top, p.brake, p.margin, p.throw, p.hard⟩) ?_; repeat (first | with_reducible exact T11.out.oz | ((with_reducible refine obox_far ?_ ?_ _ _); omega) | (with_reducible refine OBox.drew ?_))
      have sf : Below w.heap.size w Wf := by rw [hWf]; repeat (first | with_reducible exact T11.out.still | ((with_reducible refine below_set ?_ ?_ _); omega) | (with_reducible refine Below.drew ?_))
      have OEf : Wf.ownsRow (w.heap.size + 3) 42 3 (.slice (some ⟨ge, 0, none⟩) ne cqe) ne ((p.elems).flatMap encElem) := by rw [hWf]; repeat (first | with_reducible exact OE11.out | ((with_reducible refine own_low ?_ ?_ _); omega) | ((with_reducible refine own_other ?_ ?_ _ _); (intro k hk; simp only [Value.ownBlock, Option.some.injEq] at hk; omega)) | ((with_reducible refine own_other ?_ ?_ _ _); (intro k hk; have := hj6 k hk; omega)) | (with_reducible refine World.ownsRow.drew ?_))
      have OJf : Wf.ownsRow w4.heap.size 48 4 (.slice aqj nj cqj) nj ((p.joins).flatMap encJoin) := by rw [hWf]; repeat (first | with_reducible exact OJ11.out | ((with_reducible refine own_low ?_ ?_ _); omega) | ((with_reducible refine own_other ?_ ?_ _ _); (intro k hk; simp only [Value.ownBlock, Option.some.injEq] at hk; omega)) | ((with_reducible refine own_other ?_ ?_ _ _); (intro k hk; have := hj6 k hk; omega)) | (with_reducible refine World.ownsRow.drew ?_))
      have OSf : Wf.ownsRow w6.heap.size 46 4 (.slice aq2 (t + (ns - (t + 1))) cq2) (t + (ns - (t + 1))) ((p.sigs.take t ++ p.sigs.drop (t + 1)).flatMap encSig) := by rw [hWf]; repeat (first | with_reducible exact OS11.out | ((with_reducible refine own_low ?_ ?_ _); omega) | ((with_reducible refine own_other ?_ ?_ _ _); (intro k hk; simp only [Value.ownBlock, Option.some.injEq] at hk; omega)) | ((with_reducible refine own_other ?_ ?_ _ _); (intro k hk; have := hj6 k hk; omega)) | (with_reducible refine World.ownsRow.drew ?_))
      clear hWf
      obtain ⟨_, x0, x1, x2, x3, x4, x5, x6, x7, x8⟩ := OZf.box
      dsimp only at x0 x1 x2 x3 x4 x5 x6 x7 x8
      exact bodyPost_ret (v := .agg #[.slice (some ⟨ge, 0, none⟩) ne cqe, .slice aqj nj cqj, .slice aq2 (t + (ns - (t + 1))) cq2, .slice al nl cl, .int .i64 (p.top), .int .i64 (p.brake), .int .i64 (p.margin), .int .i64 (p.throw), .bool p.hard])
        (by simp [results, Try.results31, go_sem, x0, x1, x2, x3, x4, x5, x6, x7, x8]) rfl
        ⟨⟨some ⟨ge, 0, none⟩, ne, cqe, aqj, nj, cqj, aq2, (t + (ns - (t + 1))), cq2, al, nl, cl, lv⟩, ⟨p.elems, p.joins, p.sigs.take t ++ p.sigs.drop (t + 1), p.lines, p.top, p.brake, p.margin, p.throw, p.hard⟩, rfl, plan_of hP.out sf (owns_row encElem_len OEf (by omega)).1 (by intro h; cases h) hP.out.fit.e (owns_row encJoin_len OJf (by omega)).1 (fun h => (hqj'.out h).2) hP.out.fit.j (owns_row encSig_len OSf (by omega)).1 (fun h => (hq2 h).2) (fit_cut hP.out.fit.s) hP.out.fit.top hP.out.fit.brake hP.out.fit.margin hP.out.fit.throw, Hn2.out, sf⟩
  ·
    have hwi : IntKind.i64.wrap i = i := IntWalk.i64_in _ (by omega)
    go_wp2_with (at_builtin; refine name_list ?_)
    intro W9 hW9
    have T9 := Lib.hid (show Trn w W9 ⟨ae, ne, ce, aj, nj, cj, as_, ns, cs, al, nl, cl, lv⟩ ⟨some ⟨ge, 0, none⟩, ne, cqe, aqj, nj, cqj, aqs, ns, cqs, al, nl, cl, lv⟩ p p by rw [hW9]; exact (T8.out.put rfl).alloc _)
    have OE9 := Lib.hid (show W9.ownsRow (w.heap.size + 3) 42 3 (.slice (some ⟨ge, 0, none⟩) ne cqe) ne (p.elems.flatMap encElem) by rw [hW9]; exact (own_low (by omega) OE8.out _).alloc (.cells #[] 79))
    have OJ9 := Lib.hid (show W9.ownsRow w4.heap.size 48 4 (.slice aqj nj cqj) nj (p.joins.flatMap encJoin) by rw [hW9]; exact (own_low (by omega) OJ8.out _).alloc (.cells #[] 79))
    have OS9 := Lib.hid (show W9.ownsRow w6.heap.size 46 4 (.slice aqs ns cqs) ns (p.sigs.flatMap encSig) by rw [hW9]; exact (own_low (by omega) OS8.out _).alloc (.cells #[] 79))
    have hlit : W9.ownsRow w8.heap.size 79 2 (.slice (some ⟨w8.heap.size, 0, none⟩) 0 0) 0 [] := by rw [hW9]; exact lit_ownJ (Nat.le_refl _) (by simp [World.setCell])
    have hWs : w8.heap.size ≤ W9.heap.size := by rw [hW9]; simp [World.setCell]
    clear hW9
    refine wpList_app0 encLine_len encLine_one _ rfl _ _ 30 rfl w8.heap.size 79 (.agg #[.string ByteArray.empty, .slice none 0 0]) 40 Try.underlying30 info_line rfl (by decide) w8.heap.size rfl hlit al nl cl lv rfl (hP.out.l.row.below T9.out.still) hP.out.fit.lc (by simp only [maxLen]; omega) (by omega) hWs ?_
    intro v10 w10 hown10 hgrow10
    have hs10 := hown10.lt
    have T10 := Lib.hid (T9.out.grown hgrow10 (by intro k hk; cases hk; omega))
    have OE10 := Lib.hid (OE9.out.kept hgrow10 (.inr (by intro e; simp only [Value.ownBlock, Option.some.injEq] at e; omega)))
    have OJ10 := Lib.hid (OJ9.out.kept hgrow10 (own_apart (fun k hk => by have := (hj6 k hk).2; omega)))
    have OS10 := Lib.hid (OS9.out.kept hgrow10 (own_apart (fun k hk => by have := (hs8 k hk).2; omega)))
    have hsz10 : w8.heap.size ≤ w10.heap.size := Nat.le_trans hWs hgrow10.size
    obtain ⟨al2, cl2, rfl, _, _⟩ := own_slice hown10
    have OL10 := Lib.hid hown10
    clear hown10 hgrow10 hlit hWs c0 c1 c2 c3 c4 c5 c6 c7 c8 d0 d1 d2 d3 d4 d5 d6 d7 d8 z0 z1 z2 z3 z4 z5 z6 z7 z8 fq fz
    obtain ⟨_, c0, c1, c2, c3, c4, c5, c6, c7, c8⟩ := T10.out.ob
    dsimp only at c0 c1 c2 c3
    go_wp2_with (at_builtin; refine name_list ?_)
    intro W11 hW11
    have T11 := Lib.hid (show Trn w W11 ⟨ae, ne, ce, aj, nj, cj, as_, ns, cs, al, nl, cl, lv⟩ ⟨some ⟨ge, 0, none⟩, ne, cqe, aqj, nj, cqj, aqs, ns, cqs, al, nl, cl, lv⟩ p p by rw [hW11]; exact (T10.out.alloc _).alloc _)
    have OE11 := Lib.hid (show W11.ownsRow (w.heap.size + 3) 42 3 (.slice (some ⟨ge, 0, none⟩) ne cqe) ne (p.elems.flatMap encElem) by rw [hW11]; exact (OE10.out.alloc _).alloc _)
    have OJ11 := Lib.hid (show W11.ownsRow w4.heap.size 48 4 (.slice aqj nj cqj) nj (p.joins.flatMap encJoin) by rw [hW11]; exact (OJ10.out.alloc _).alloc _)
    have OS11 := Lib.hid (show W11.ownsRow w6.heap.size 46 4 (.slice aqs ns cqs) ns (p.sigs.flatMap encSig) by rw [hW11]; exact (OS10.out.alloc _).alloc _)
    have OL11 : W11.ownsRow w8.heap.size 79 2 (.slice al2 nl cl2) nl (lv.flatMap encLine) := by rw [hW11]; exact (OL10.out.alloc _).alloc _
    have OI11 : W11.ownsRow w10.heap.size 3 1 (.slice (some ⟨w10.heap.size, 0, none⟩) 2 2) 2 [.int .i64 n, .int .i64 i] := by rw [hW11]; exact (World.ownsRow_lit w10 #[.int .i64 n, .int .i64 i] 2 (Nat.le_refl _) (by simp [maxLen]) rfl).alloc _
    have hone : Row 2 encLine W11 (some ⟨w10.heap.size + 1, 0, none⟩) 1 [(⟨⟨#[108]⟩, some ⟨w10.heap.size, 0, none⟩, 2, 2, [n, i]⟩ : LineV)] := by rw [hW11]; exact line_one (w := w10.alloc (.cells #[.int .i64 n, .int .i64 i] 3)) (x := (⟨⟨#[108]⟩, some ⟨w10.heap.size, 0, none⟩, 2, 2, [n, i]⟩ : LineV)) (by simp)
    have hWs : w8.heap.size ≤ W11.heap.size := by rw [hW11]; simp; omega
    clear hW11
    refine wpList_app encLine_len encLine_one _ rfl _ _ 30 rfl w8.heap.size 79 (.agg #[.string ByteArray.empty, .slice none 0 0]) 40 Try.underlying30 info_line rfl (by decide) (.slice al2 nl cl2) nl lv rfl OL11 (some ⟨w10.heap.size + 1, 0, none⟩) 1 1 [(⟨⟨#[108]⟩, some ⟨w10.heap.size, 0, none⟩, 2, 2, [n, i]⟩ : LineV)] rfl hone (by intro h; cases h) (by simp only [maxLen]; omega) (by omega) hWs ?_
    intro v12 w12 hown12 hgrow12 _
    have T12 := Lib.hid (T11.out.grown hgrow12 (by intro k hk; have := (hs10 k hk).1; omega))
    have OE12 := Lib.hid (OE11.out.kept hgrow12 (own_apart2 (fun k hk => by have := (hs10 k hk).1; omega)))
    have OJ12 := Lib.hid (OJ11.out.kept hgrow12 (own_apart3 hj6 hs10 hs68))
    have OS12 := Lib.hid (OS11.out.kept hgrow12 (own_apart3 hs8 hs10 (Nat.le_refl _)))
    have OI12 := Lib.hid (OI11.kept hgrow12 (own_apart2 (by intro k hk; have := (hs10 k hk).2; omega)))
    obtain ⟨gl, cql, rfl, hgl, hgl2⟩ := own_shape hown12 (by omega)
    have OL12 := Lib.hid hown12
    clear hown12 hgrow12 hone hWs OL11 OI11 c0 c1 c2 c3 c4 c5 c6 c7 c8
    obtain ⟨_, d0, d1, d2, d3, d4, d5, d6, d7, d8⟩ := T12.out.oq.box
    obtain ⟨_, z0, z1, z2, z3, z4, z5, z6, z7, z8⟩ := T12.out.oz.box
    have fq := T12.out.oq.frozen
    have fz := T12.out.oz.frozen
    dsimp only at d0 d1 d2 d3
    dsimp only [zPV, zPlan] at z0 z1 z2 z3 z4 z5 z6 z7 z8
    go_wp2_with fail
    refine name_body fun Wf hWf => ?_
    have OZf : OBox Wf (w.heap.size + 1) ⟨some ⟨ge, 0, none⟩, ne, cqe, aqj, nj, cqj, aqs, ns, cqs, some ⟨gl, 0, none⟩, nl + 1, cql, lv ++ [(⟨⟨#[108]⟩, some ⟨w10.heap.size, 0, none⟩, 2, 2, [n, i]⟩ : LineV)]⟩ p := by rw [hWf]; (try (with_reducible refine OBox.drew ?_)); with_reducible refine obox_filled (v := zPV) (p := zPlan) (v' := ⟨some ⟨ge, 0, none⟩, ne, cqe, aqj, nj, cqj, aqs, ns, cqs, some ⟨gl, 0, none⟩, nl + 1, cql, lv ++ [(⟨⟨#[108]⟩, some ⟨w10.heap.size, 0, none⟩, 2, 2, [n, i]⟩ : LineV)]⟩) (p' := p) ?_; repeat (first | with_reducible exact T12.out.oz | ((with_reducible refine obox_far ?_ ?_ _ _); omega) | (with_reducible refine OBox.drew ?_))
    have sf : Below w.heap.size w Wf := by rw [hWf]; repeat (first | with_reducible exact T12.out.still | ((with_reducible refine below_set ?_ ?_ _); omega) | (with_reducible refine Below.drew ?_))
    have OEf : Wf.ownsRow (w.heap.size + 3) 42 3 (.slice (some ⟨ge, 0, none⟩) ne cqe) ne (p.elems.flatMap encElem) := by rw [hWf]; repeat (first | with_reducible exact OE12.out | ((with_reducible refine own_low ?_ ?_ _); omega) | (with_reducible refine World.ownsRow.drew ?_))
    have OJf : Wf.ownsRow w4.heap.size 48 4 (.slice aqj nj cqj) nj (p.joins.flatMap encJoin) := by rw [hWf]; repeat (first | with_reducible exact OJ12.out | ((with_reducible refine own_low ?_ ?_ _); omega) | (with_reducible refine World.ownsRow.drew ?_))
    have OSf : Wf.ownsRow w6.heap.size 46 4 (.slice aqs ns cqs) ns (p.sigs.flatMap encSig) := by rw [hWf]; repeat (first | with_reducible exact OS12.out | ((with_reducible refine own_low ?_ ?_ _); omega) | (with_reducible refine World.ownsRow.drew ?_))
    have OLf : Wf.ownsRow w8.heap.size 79 2 (.slice (some ⟨gl, 0, none⟩) (nl + 1) cql) (nl + 1) ((lv ++ [(⟨⟨#[108]⟩, some ⟨w10.heap.size, 0, none⟩, 2, 2, [n, i]⟩ : LineV)]).flatMap encLine) := by rw [hWf]; repeat (first | with_reducible exact OL12.out | ((with_reducible refine own_low ?_ ?_ _); omega) | (with_reducible refine World.ownsRow.drew ?_))
    have OIf : Wf.ownsRow w10.heap.size 3 1 (.slice (some ⟨w10.heap.size, 0, none⟩) 2 2) 2 [.int .i64 n, .int .i64 i] := by rw [hWf]; repeat (first | with_reducible exact OI12.out | ((with_reducible refine own_low ?_ ?_ _); omega) | (with_reducible refine World.ownsRow.drew ?_))
    clear hWf
    obtain ⟨_, x0, x1, x2, x3, x4, x5, x6, x7, x8⟩ := OZf.box
    dsimp only at x0 x1 x2 x3 x4 x5 x6 x7 x8
    have hPf := (plan_of (cE := cqe) (cJ := cqj) (cS := cqs) hP.out sf (owns_row encElem_len OEf (by omega)).1 (by intro h; cases h) hP.out.fit.e (owns_row encJoin_len OJf (by omega)).1 (fun h => (hqj'.out h).2) hP.out.fit.j (owns_row encSig_len OSf (by omega)).1 (fun h => (hqs'.out h).2) hP.out.fit.s hP.out.fit.top hP.out.fit.brake hP.out.fit.margin hP.out.fit.throw).setL (a := some ⟨gl, 0, none⟩) (n := nl + 1) (c := cql) (lv := lv ++ [(⟨⟨#[108]⟩, some ⟨w10.heap.size, 0, none⟩, 2, 2, [n, i]⟩ : LineV)])
      ⟨(owns_row encLine_len OLf (by omega)).1, ints_snoc (fun x hx => (hP.out.l.ints x hx).below sf) (own_ints OIf).1⟩ (by intro h; cases h) (cap_snoc hP.out.fit.ll (by intro h; cases h)) (fit_lsnoc hP.out.lp hP.out.fit.l ⟨by intro y hy; simp only [List.mem_cons, List.not_mem_nil, or_false] at hy; rcases hy with rfl | rfl; exact Hn.out; exact inI_mk (by omega) (by omega), (by show (1 : Nat) ≤ 9223372036854775807; omega)⟩)
    exact bodyPost_ret (v := .agg #[.slice (some ⟨ge, 0, none⟩) ne cqe, .slice aqj nj cqj, .slice aqs ns cqs, .slice (some ⟨gl, 0, none⟩) (nl + 1) cql, .int .i64 p.top, .int .i64 p.brake, .int .i64 p.margin, .int .i64 p.throw, .bool p.hard])
      (by simp [results, Try.results31, go_sem, x0, x1, x2, x3, x4, x5, x6, x7, x8]) rfl
      ⟨_, _, rfl, hPf, n2_snoc Hn2.out (by show (2 : Nat) ≤ 1000; omega), sf⟩
end Go.Proofs.Ytlndfmflbdkpjaa
