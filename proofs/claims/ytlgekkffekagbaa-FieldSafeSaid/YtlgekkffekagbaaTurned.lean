/- Walk of semaphorelaw2.Turned: whatever it turns, it hands back a plan that reads well. No condition beyond the plan that is read. -/
import Derived.Test.YtlgekkffekagbaaCopy
import Derived.Test.YtlgekkffekagbaaTill
import Derived.StillTailTactics
import Derived.Deep.RegionHeld3
set_option maxRecDepth 1000000
namespace Go.Proofs.Ytlgekkffekagbaa
open Go.ChangeShapes Go.WideShapes Go.ChangeAt Go.RowKit Go.Sort

theorem name_list {P : Program} {ops : Array Oper} {Q : Exit → Act → World → Prop} {l : List Oper} {a : Act} {w : World} (h : ∀ W, W = w → wpList P ops Q l a W) : wpList P ops Q l a w := h w rfl
theorem name_at (n : Nat) {P : Program} {ops : Array Oper} {Q : Exit → Act → World → Prop} {o : Oper} {rest : List Oper} {a : Act} {w : World} (_ : o.dst = some n) (h : ∀ W, W = w → wpList P ops Q (o :: rest) a W) : wpList P ops Q (o :: rest) a w := h w rfl
def zPV : PV := ⟨none, 0, 0, none, 0, 0, none, 0, 0, none, 0, 0, []⟩
def zPlan : Plan := ⟨[], [], [], [], 0, 0, 0, 0, false⟩
theorem obox_filled {W : World} {b : Nat} {v v' : PV} {p p' : Plan} (h : OBox W b v p) :
    OBox (((((((((W.setCell ⟨b, 0, none⟩ (.slice v'.ae v'.ne v'.ce)).setCell ⟨b, 1, none⟩ (.slice v'.aj v'.nj v'.cj)).setCell ⟨b, 2, none⟩ (.slice v'.as_ v'.ns v'.cs)).setCell ⟨b, 3, none⟩ (.slice v'.al v'.nl v'.cl)).setCell ⟨b, 4, none⟩ (.int .i64 p'.top)).setCell ⟨b, 5, none⟩ (.int .i64 p'.brake)).setCell ⟨b, 6, none⟩ (.int .i64 p'.margin)).setCell ⟨b, 7, none⟩ (.int .i64 p'.throw)).setCell ⟨b, 8, none⟩ (.bool p'.hard)) b v' p' := by
  exact ((((((((h.put (v' := { v with ae := v'.ae, ne := v'.ne, ce := v'.ce }) (p' := p) rfl).put (v' := { v with ae := v'.ae, ne := v'.ne, ce := v'.ce, aj := v'.aj, nj := v'.nj, cj := v'.cj }) (p' := p) rfl).put (v' := { v with ae := v'.ae, ne := v'.ne, ce := v'.ce, aj := v'.aj, nj := v'.nj, cj := v'.cj, as_ := v'.as_, ns := v'.ns, cs := v'.cs }) (p' := p) rfl).put (v' := { v with ae := v'.ae, ne := v'.ne, ce := v'.ce, aj := v'.aj, nj := v'.nj, cj := v'.cj, as_ := v'.as_, ns := v'.ns, cs := v'.cs, al := v'.al, nl := v'.nl, cl := v'.cl }) (p' := p) rfl).put (v' := { v with ae := v'.ae, ne := v'.ne, ce := v'.ce, aj := v'.aj, nj := v'.nj, cj := v'.cj, as_ := v'.as_, ns := v'.ns, cs := v'.cs, al := v'.al, nl := v'.nl, cl := v'.cl }) (p' := { p with top := p'.top }) rfl).put (v' := { v with ae := v'.ae, ne := v'.ne, ce := v'.ce, aj := v'.aj, nj := v'.nj, cj := v'.cj, as_ := v'.as_, ns := v'.ns, cs := v'.cs, al := v'.al, nl := v'.nl, cl := v'.cl }) (p' := { p with top := p'.top, brake := p'.brake }) rfl).put (v' := { v with ae := v'.ae, ne := v'.ne, ce := v'.ce, aj := v'.aj, nj := v'.nj, cj := v'.cj, as_ := v'.as_, ns := v'.ns, cs := v'.cs, al := v'.al, nl := v'.nl, cl := v'.cl }) (p' := { p with top := p'.top, brake := p'.brake, margin := p'.margin }) rfl).put (v' := { v with ae := v'.ae, ne := v'.ne, ce := v'.ce, aj := v'.aj, nj := v'.nj, cj := v'.cj, as_ := v'.as_, ns := v'.ns, cs := v'.cs, al := v'.al, nl := v'.nl, cl := v'.cl }) (p' := { p with top := p'.top, brake := p'.brake, margin := p'.margin, throw := p'.throw }) rfl).put rfl
theorem fit_set {α : Type} {P : α → Prop} {l : List α} (h : ∀ x ∈ l, P x) {a : Nat} {x y : α} (hx : l[a]? = some x) (hy : P x → P y) : ∀ z ∈ l.set a y, P z := by
  intro z hz
  rcases List.mem_or_eq_of_mem_set hz with h1 | h1
  · exact h z h1
  · subst h1; exact hy (h x (List.mem_of_getElem? hx))
theorem fit_len {l : List Elem} (h : ∀ x ∈ l, inI x.kind ∧ inI x.len ∧ x.name.size ≤ 9223372036854775807) {a : Nat} {x : Elem} (hx : l[a]? = some x) {v : Int} (hv : inI v) :
    ∀ z ∈ l.set a { x with len := v }, inI z.kind ∧ inI z.len ∧ z.name.size ≤ 9223372036854775807 := fit_set h hx fun q => ⟨q.1, hv, q.2.2⟩
theorem fit_kind {l : List Elem} (h : ∀ x ∈ l, inI x.kind ∧ inI x.len ∧ x.name.size ≤ 9223372036854775807) {a : Nat} {x : Elem} (hx : l[a]? = some x) {v : Int} (hv : inI v) :
    ∀ z ∈ l.set a { x with kind := v }, inI z.kind ∧ inI z.len ∧ z.name.size ≤ 9223372036854775807 := fit_set h hx fun q => ⟨hv, q.2.1, q.2.2⟩
theorem fit_jae {l : List Join} (h : ∀ x ∈ l, x.a.wf ∧ x.b.wf) {a : Nat} {x : Join} (hx : l[a]? = some x) {v : Int} (hv : inI v) : ∀ z ∈ l.set a { x with a := { x.a with e := v } }, z.a.wf ∧ z.b.wf := fit_set h hx fun q => ⟨⟨hv, q.1.2⟩, q.2⟩
theorem fit_jbn {l : List Join} (h : ∀ x ∈ l, x.a.wf ∧ x.b.wf) {a : Nat} {x : Join} (hx : l[a]? = some x) {v : Int} (hv : inI v) : ∀ z ∈ l.set a { x with b := { x.b with n := v } }, z.a.wf ∧ z.b.wf := fit_set h hx fun q => ⟨q.1, ⟨q.2.1, hv⟩⟩
theorem fit_sae {l : List Sig} (h : ∀ x ∈ l, x.at_.wf ∧ x.name.size ≤ 9223372036854775807) {a : Nat} {x : Sig} (hx : l[a]? = some x) {v : Int} (hv : inI v) : ∀ z ∈ l.set a { x with at_ := { x.at_ with e := v } }, z.at_.wf ∧ z.name.size ≤ 9223372036854775807 := fit_set h hx fun q => ⟨⟨hv, q.1.2⟩, q.2⟩
theorem fit_san {l : List Sig} (h : ∀ x ∈ l, x.at_.wf ∧ x.name.size ≤ 9223372036854775807) {a : Nat} {x : Sig} (hx : l[a]? = some x) {v : Int} (hv : inI v) : ∀ z ∈ l.set a { x with at_ := { x.at_ with n := v } }, z.at_.wf ∧ z.name.size ≤ 9223372036854775807 := fit_set h hx fun q => ⟨⟨q.1.1, hv⟩, q.2⟩
/-- what holds of the three boxes of Turned (the parameter's, the result's, the copy's) -/
structure Trn (w W : World) (v0 v : PV) (p q : Plan) : Prop where
  still : Below w.heap.size w W
  ob : PBox W w.heap.size v0 p
  oz : OBox W (w.heap.size + 1) zPV zPlan
  oq : OBox W (w.heap.size + 2) v q
section
variable {w W W' : World} {v0 v : PV} {p q : Plan}
theorem trn_new (w : World) (v : PV) (p : Plan) : Trn w (((w.alloc (.cells (v.cells p) 27)).alloc (.cells (zPV.cells zPlan) 27)).alloc (.cells (v.cells p) 27)) v v p p := by
  refine ⟨((below_new w _).alloc (by simp) _).alloc (by simp; omega) _, ?_, ?_, ?_⟩
  · exact ((pbox_new w v p).alloc _).alloc _
  · have := (obox_new (w.alloc (.cells (v.cells p) 27)) zPV zPlan).alloc (.cells (v.cells p) 27)
    simpa using this
  · have := obox_new ((w.alloc (.cells (v.cells p) 27)).alloc (.cells (zPV.cells zPlan) 27)) v p
    simpa using this
theorem Trn.alloc (h : Trn w W v0 v p q) (o : Obj) : Trn w (W.alloc o) v0 v p q := ⟨h.still.alloc h.still.size o, h.ob.alloc o, h.oz.alloc o, h.oq.alloc o⟩
theorem Trn.drew (h : Trn w W v0 v p q) : Trn w W.drew v0 v p q := ⟨h.still.drew, h.ob.below (Below.refl _ _).drew, h.oz, h.oq⟩
theorem Trn.grown (h : Trn w W v0 v p q) {row : Option Nat} (hg : W.grownBy W' row) (hr : ∀ k, row = some k → w.heap.size + 3 ≤ k) : Trn w W' v0 v p q :=
  ⟨h.still.grown hg h.still.size (fun k hk => by have := hr k hk; omega), h.ob.kept hg (fun e => by have := hr _ e.symm; omega), h.oz.grown hg (fun k hk => by have := hr k hk; omega), h.oq.grown hg (fun k hk => by have := hr k hk; omega)⟩
theorem Trn.put (h : Trn w W v0 v p q) {o : Nat} {u : Value} {v' : PV} {q' : Plan} (hc : (v.cells q).setIfInBounds o u = v'.cells q') : Trn w (W.setCell ⟨w.heap.size + 2, o, none⟩ u) v0 v' p q' :=
  ⟨h.still.setCell (p := ⟨w.heap.size + 2, o, none⟩) (by show w.heap.size ≤ w.heap.size + 2; omega) u,
    by
      have key : ∀ o', (W.setCell ⟨w.heap.size + 2, o, none⟩ u).cell? ⟨w.heap.size, o', none⟩ = W.cell? ⟨w.heap.size, o', none⟩ := fun o' => World.cell?_of_block (Below.heap_setCell W ⟨w.heap.size + 2, o, none⟩ u w.heap.size (by show w.heap.size ≠ w.heap.size + 2; omega))
      obtain ⟨l, k0, k1, k2, k3, k4, k5, k6, k7, k8⟩ := h.ob
      exact ⟨by simpa [World.setCell] using l, (key _).trans k0, (key _).trans k1, (key _).trans k2, (key _).trans k3, (key _).trans k4, (key _).trans k5, (key _).trans k6, (key _).trans k7, (key _).trans k8⟩,
    h.oz.far (by omega) _ _, h.oq.put hc⟩
theorem plan_of (h : PlanAt w v0 p) (hb : Below w.heap.size w W) {E : List Elem} {J : List Join} {S : List Sig} {aE aJ aS : Option Addr} {nE cE nJ cJ nS cS : Nat} {t b m th : Int}
    (rE : Elems W aE nE E) (zE : aE = none → cE = 0) (fE : ∀ x ∈ E, inI x.kind ∧ inI x.len ∧ x.name.size ≤ 9223372036854775807)
    (rJ : Joins W aJ nJ J) (zJ : aJ = none → cJ = 0) (fJ : ∀ x ∈ J, x.a.wf ∧ x.b.wf)
    (rS : Sigs W aS nS S) (zS : aS = none → cS = 0) (fS : ∀ x ∈ S, x.at_.wf ∧ x.name.size ≤ 9223372036854775807)
    (h1 : inI t) (h2 : inI b) (h3 : inI m) (h4 : inI th) :
    PlanAt W ⟨aE, nE, cE, aJ, nJ, cJ, aS, nS, cS, v0.al, v0.nl, v0.cl, v0.lv⟩ ⟨E, J, S, p.lines, t, b, m, th, p.hard⟩ :=
  ((((h.below hb).setE rE zE fE).setJ rJ zJ fJ).setS rS zS fS).nums h1 h2 h3 h4
end

theorem name_body {P : Program} {f : Func} {Post : Ending → World → Prop} {e : Exit} {a : Act} {w : World} (h : ∀ W, W = w → bodyPost P f Post e a W) : bodyPost P f Post e a w := h w rfl
theorem own_other {w : World} {base n size g : Nat} {e : TypeId} {v : Value} {xs : List Value} (hne : ∀ k, v.ownBlock = some k → k ≠ g) (h : w.ownsRow base e size v n xs) (o : Nat) (u : Value) : (w.setCell ⟨g, o, none⟩ u).ownsRow base e size v n xs :=
  h.kept (row := some g) ⟨rfl, rfl, rfl, by simp [World.setCell], fun k _ hk => heap_setCell_other w ⟨g, o, none⟩ k u (fun e => hk (by simp [e]))⟩ (.inr fun e => hne g e rfl)
theorem own_low {w : World} {base n size b o : Nat} {e : TypeId} {v : Value} {xs : List Value} (hb : b < base) (h : w.ownsRow base e size v n xs) (u : Value) : (w.setCell ⟨b, o, none⟩ u).ownsRow base e size v n xs := ownsRow_setCell_below h (a := ⟨b, o, none⟩) hb u
theorem below_set {B b o : Nat} {w W : World} (hb : B ≤ b) (h : Below B w W) (u : Value) : Below B w (W.setCell ⟨b, o, none⟩ u) := h.setCell (p := ⟨b, o, none⟩) hb u
theorem obox_far {w : World} {b g : Nat} {v : PV} {p : Plan} (hg : b ≠ g) (h : OBox w b v p) (o : Nat) (u : Value) : OBox (w.setCell ⟨g, o, none⟩ u) b v p := h.far hg o u
theorem own_cap {w : World} {base n size c g : Nat} {e : TypeId} {xs : List Value} (h : w.ownsRow base e size (.slice (some ⟨g, 0, none⟩) n c) n xs) : n ≤ c := by
  rcases h.2 with ⟨h0, _⟩ | ⟨g', cap, cur, hv, hb, hg, hnc, _⟩
  · cases h0
  · cases hv; exact hnc
theorem step_sig0 {w : World} {ops : Array Oper} {o : Oper} {ac : Act} {K : Act → World → Prop} {Q : Exit → Act → World → Prop} {E : Prop} {s x : Operand} {base b m c : Nat} {ad : Addr} {ys : List Sig}
    (hgd : o.guard = none) (ho : o.op = .call { callee := .builtin .append, args := #[s, x], argTypes := #[24, 24] })
    (hs : ac.eval s = .slice (some ⟨b, 0, none⟩) 0 0) (hx : ac.eval x = .slice (some ad) m c) (h8 : m < 200)
    (hown : w.ownsRow base 82 4 (.slice (some ⟨b, 0, none⟩) 0 0) 0 []) (hrow : Sigs w (some ad) m ys) (hbase : base ≤ w.heap.size)
    (h : ∀ v' w', w'.ownsRow base 82 4 v' m (ys.flatMap encSig) → w.grownBy w' (some b) → K (ac.put o.dst v') w') :
    if Region.wanted o (yielded ops ac.tmps) = true then Oper.wp Try.prog o ac w K Q else E :=
  step_app0 encSig_len encSig_one w hgd s x 24 ho base 82 (.agg #[.string ByteArray.empty, .int .i64 0, .int .i64 0, .bool false]) 40 Try.underlying24 info_sig rfl (by decide) b hs hown (some ad) m c ys hx hrow (by intro h; cases h)
    (by simp only [maxLen]; omega) (by omega) hbase h
theorem step_sig1 {w : World} {ops : Array Oper} {o : Oper} {ac : Act} {K : Act → World → Prop} {Q : Exit → Act → World → Prop} {E : Prop} {s x : Operand} {base n m c : Nat} {v : Value} {ad : Addr} {xs ys : List Sig}
    (hgd : o.guard = none) (ho : o.op = .call { callee := .builtin .append, args := #[s, x], argTypes := #[24, 24] })
    (hs : ac.eval s = v) (hx : ac.eval x = .slice (some ad) m c) (h8 : n + m < 200)
    (hown : w.ownsRow base 82 4 v n (xs.flatMap encSig)) (hrow : Sigs w (some ad) m ys) (hbase : base ≤ w.heap.size)
    (h : ∀ v' w', w'.ownsRow base 82 4 v' (n + m) ((xs ++ ys).flatMap encSig) → w.grownBy w' v.ownBlock → K (ac.put o.dst v') w') :
    if Region.wanted o (yielded ops ac.tmps) = true then Oper.wp Try.prog o ac w K Q else E :=
  step_app encSig_len encSig_one w hgd s x 24 ho base 82 (.agg #[.string ByteArray.empty, .int .i64 0, .int .i64 0, .bool false]) 40 Try.underlying24 info_sig rfl (by decide) v n xs hs hown (some ad) m c ys hx hrow (by intro h; cases h)
    (by simp only [maxLen]; omega) (by omega) hbase (fun v' w' h1 h2 _ _ => h v' w' h1 h2)
theorem row_take {α : Type} {sz : Nat} {enc : α → List Value} {w : World} {a : Option Addr} {n t : Nat} {xs : List α} (h : Row sz enc w a n xs) (ht : t ≤ n) : Row sz enc w a t (xs.take t) := by
  have hl := h.len
  have hb := h.bnd
  refine ⟨by rw [List.length_take]; omega, by omega, fun i y hy => h.at_ i y ?_⟩
  rw [List.getElem?_take] at hy
  split at hy
  · exact hy
  · cases hy
theorem row_drop {α : Type} {sz : Nat} {enc : α → List Value} {w : World} {g n t : Nat} {xs : List α} (h : Row sz enc w (some ⟨g, 0, none⟩) n xs) (ht : t ≤ n) : Row sz enc w (some ⟨g, t * sz, none⟩) (n - t) (xs.drop t) := by
  have hl := h.len
  have hb := h.bnd
  refine ⟨by rw [List.length_drop]; omega, by omega, fun i y hy => ?_⟩
  rw [List.getElem?_drop] at hy
  obtain ⟨b, off, ha, hb, hc⟩ := h.at_ _ y hy
  cases ha
  exact ⟨g, t * sz, rfl, hb, fun k v hv => by have := hc k v hv; rw [Nat.add_mul] at this; rw [show t * sz + i * sz + k = 0 + (t * sz + i * sz) + k by omega]; exact this⟩
theorem row_none {α : Type} {sz : Nat} {enc : α → List Value} {w : World} {a : Option Addr} {n : Nat} {xs : List α} (h : xs.length = n) (h0 : n = 0) : Row sz enc w a n xs := by
  subst h0
  have : xs = [] := List.length_eq_zero_iff.1 h
  subst this
  exact ⟨rfl, by omega, fun i y hy => by simp at hy⟩
theorem row_grown4 {w w' : World} {g o n : Nat} {xs : List Sig} {row : Option Nat} (h : Row 4 encSig w (some ⟨g, o, none⟩) n xs) (hg : w.grownBy w' row) (hne : some g ≠ row) : Row 4 encSig w' (some ⟨g, o, none⟩) n xs := by
  refine ⟨h.len, h.bnd, fun i y hy => ?_⟩
  obtain ⟨b', off, ha, hb, hc⟩ := h.at_ i y hy
  cases ha
  exact ⟨g, o, rfl, Nat.lt_of_lt_of_le hb hg.size, fun k v hv => hg.cell (hc k v hv) hne⟩
theorem fit_cut {l : List Sig} (h : ∀ x ∈ l, x.at_.wf ∧ x.name.size ≤ 9223372036854775807) {t u : Nat} : ∀ x ∈ l.take t ++ l.drop u, x.at_.wf ∧ x.name.size ≤ 9223372036854775807 := by
  intro x hx
  rcases List.mem_append.1 hx with h1 | h1
  · exact h x (List.mem_of_mem_take h1)
  · exact h x (List.mem_of_mem_drop h1)
theorem own_apart2 {g n c : Nat} {v : Value} (h : ∀ k, v.ownBlock = some k → k ≠ g) : (Value.slice (some ⟨g, 0, none⟩) n c).ownBlock = none ∨ (Value.slice (some ⟨g, 0, none⟩) n c).ownBlock ≠ v.ownBlock :=
  .inr fun e => h g (by rw [← e]; rfl) rfl
theorem own_apart3 {v u : Value} {a b c d : Nat} (h : ∀ k, v.ownBlock = some k → a ≤ k ∧ k < b) (h2 : ∀ k, u.ownBlock = some k → c ≤ k ∧ k < d) (hbc : b ≤ c) : v.ownBlock = none ∨ v.ownBlock ≠ u.ownBlock := by
  cases hv : v.ownBlock with
  | none => exact .inl rfl
  | some k => exact .inr fun e => by have := h k hv; have := h2 k e.symm; omega
theorem line_one {w : World} {b : Nat} {T : TypeId} {x : LineV} (h : w.heap.size = b) : Row 2 encLine (w.alloc (.cells #[.string x.name, .slice x.a x.n x.c] T)) (some ⟨b, 0, none⟩) 1 [x] := by
  subst h
  refine ⟨rfl, by omega, fun i y hy => ⟨w.heap.size, 0, rfl, by simp, fun k v hv => ?_⟩⟩
  cases i with
  | succ i => simp at hy
  | zero =>
    simp only [List.getElem?_cons_zero, Option.some.injEq] at hy; subst hy
    rw [cell_of_row (w.alloc _) w.heap.size (0 + 0 * 2 + k) _ _ (0, 0) (heap_alloc_new w _)]
    unfold encLine at hv
    match k, hv with
    | 0, hv => simpa using hv
    | 1, hv => simpa using hv
    | k + 2, hv => simp at hv
theorem ints_snoc {W : World} {l : List LineV} {x : LineV} (h : ∀ y ∈ l, Ints W y.a y.n y.elems) (hx : Ints W x.a x.n x.elems) : ∀ y ∈ l ++ [x], Ints W y.a y.n y.elems := by
  intro y hy
  rcases List.mem_append.1 hy with h1 | h1
  · exact h y h1
  · simp only [List.mem_singleton] at h1; subst h1; exact hx
theorem cap_snoc {l : List LineV} {x : LineV} (h : ∀ y ∈ l, y.a = none → y.c = 0) (hx : x.a = none → x.c = 0) : ∀ y ∈ l ++ [x], y.a = none → y.c = 0 := by
  intro y hy
  rcases List.mem_append.1 hy with h1 | h1
  · exact h y h1
  · simp only [List.mem_singleton] at h1; subst h1; exact hx
theorem n2_snoc {l : List LineV} {x : LineV} (h : ∀ y ∈ l, y.n ≤ 1000) (hx : x.n ≤ 1000) : ∀ y ∈ l ++ [x], y.n ≤ 1000 := by
  intro y hy
  rcases List.mem_append.1 hy with h1 | h1
  · exact h y h1
  · simp only [List.mem_singleton] at h1; subst h1; exact hx
theorem fit_lsnoc {l : List LineV} {x : LineV} {L : List Line} (hl : L = l.map LineV.line) (h : ∀ y ∈ L, (∀ z ∈ y.elems, inI z) ∧ y.name.size ≤ 9223372036854775807) (hx : (∀ z ∈ x.elems, inI z) ∧ x.name.size ≤ 9223372036854775807) :
    ∀ y ∈ l ++ [x], (∀ z ∈ y.elems, inI z) ∧ y.name.size ≤ 9223372036854775807 := by
  intro y hy
  rcases List.mem_append.1 hy with h1 | h1
  · exact h y.line (by rw [hl]; exact List.mem_map.2 ⟨y, h1, rfl⟩)
  · simp only [List.mem_singleton] at h1; subst h1; exact hx
theorem own_apart {v : Value} {b : Nat} (h : ∀ k, v.ownBlock = some k → k ≠ b) : v.ownBlock = none ∨ v.ownBlock ≠ some b := .inr fun e => h _ e rfl
def TurnedPost (w : World) (e : Ending) (w' : World) : Prop := ∃ qv q, e = .returned (qv.val q) ∧ PlanAt w' qv q ∧ (∀ x ∈ qv.lv, x.n ≤ 1000) ∧ Below w.heap.size w w'

end Go.Proofs.Ytlgekkffekagbaa
