/- A plan that the call itself has copied and changed: structures stored into rows of the call's own, slices put into a boxed plan. No condition. -/
import Derived.Test.YtcaeglnfflkabaaGreatRefC7
import Derived.Test.YtcaeglnfflkabaaGreatPure
import Derived.Test.YtcaeglnfflkabaaGreatBase
import Derived.OrdersHeld
import Derived.StillTail
import Derived.Deep.RegionHeld3
import Derived.StillTailTactics
namespace Go.Proofs.YtcaeglnfflkabaaGreat
open Go.ChangeShapes Go.WideShapes Go.RowKit

theorem name_code {P : Program} {c : Go.Code} {Q : Exit → Act → World → Prop} {a : Act} {w : World} (h : ∀ W, W = w → Go.Code.wp P c Q a W) : Go.Code.wp P c Q a w := h w rfl
theorem name_calls {P : Program} {f : FuncId} {args : Array Value} {w : World} {Q : Ending → World → Prop} (h : ∀ W, W = w → Calls P f args W Q) : Calls P f args w Q := h w rfl

/-! one cell of one structure of a row -/
theorem flatMap_set {α : Type} {sz : Nat} {enc : α → List Value} (henc : ∀ x, (enc x).length = sz) {k : Nat} {x x' : α} {u : Value} (hk : k < sz) (he : enc x' = (enc x).set k u) :
  ∀ (l : List α) (i : Nat), l[i]? = some x → (l.flatMap enc).set (i * sz + k) u = (l.set i x').flatMap enc
 | [], i, h => by simp at h
 | y :: r, 0, h => by
  simp only [List.getElem?_cons_zero, Option.some.injEq] at h; subst h
  simp only [List.flatMap_cons, List.set_cons_zero, Nat.zero_mul, Nat.zero_add]
  rw [List.set_append_left _ _ (by rw [henc]; exact hk), he]
 | y :: r, i + 1, h => by
  simp only [List.flatMap_cons, List.set_cons_succ]
  rw [List.set_append_right _ _ (by rw [henc, Nat.succ_mul]; omega), henc, show (i + 1) * sz + k - sz = i * sz + k from by rw [Nat.succ_mul]; omega,
   flatMap_set henc hk he r i (by simpa using h)]
theorem own_put {α : Type} {sz : Nat} {enc : α → List Value} (henc : ∀ x, (enc x).length = sz) {w : World} {base g n cap : Nat} {e : TypeId} {xs : List α} (h : w.ownsRow base e sz (.slice (some ⟨g, 0, none⟩) n cap) n (xs.flatMap enc))
  {i k : Nat} {x x' : α} {u : Value} (hx : xs[i]? = some x) (hk : k < sz) (he : enc x' = (enc x).set k u) :
  (w.setCell ⟨g, i * sz + k, none⟩ u).ownsRow base e sz (.slice (some ⟨g, 0, none⟩) n cap) n ((xs.set i x').flatMap enc) ∧ w.grownBy (w.setCell ⟨g, i * sz + k, none⟩ u) (some g) := by
 have := h.stored (i * sz + k) u
 rwa [flatMap_set henc hk he xs i hx] at this

theorem own_at {α : Type} {sz : Nat} {enc : α → List Value} (henc : ∀ x, (enc x).length = sz) {w : World} {base g n cap : Nat} {e : TypeId} {xs : List α} (h : w.ownsRow base e sz (.slice (some ⟨g, 0, none⟩) n cap) n (xs.flatMap enc))
  {i k : Nat} {x : α} {u : Value} (hx : xs[i]? = some x) (hi : i < n) (hu : (enc x)[k]? = some u) : w.cell? ⟨g, i * sz + k, none⟩ = some u := by
 have hk : k < sz := by rw [← henc x]; exact (List.getElem?_eq_some_iff.1 hu).1
 have h1 : i * sz + k < n * sz := by
  have : (i + 1) * sz ≤ n * sz := Nat.mul_le_mul_right _ hi
  rw [Nat.succ_mul] at this; omega
 rw [h.cellAt _ h1, flatMap_at henc xs i k x hx hk, hu]

/-! a block that holds exactly a plan -/
/-- Block b holds the plan p with the slices of v. -/
def OBox (w : World) (b : Nat) (v : PV) (p : Plan) : Prop := w.heap[b]? = some (.cells (v.cells p) 27)
section
variable {w w' : World} {b : Nat} {v : PV} {p : Plan}
theorem OBox.lt (h : OBox w b v p) : b < w.heap.size := (Array.getElem?_eq_some_iff.1 h).1
theorem OBox.same (h : OBox w b v p) (hb : w'.heap[b]? = w.heap[b]?) : OBox w' b v p := Eq.trans hb h
theorem OBox.box (h : OBox w b v p) : PBox w b v p := by
 have key : ∀ o, w.cell? ⟨b, o, none⟩ = (v.cells p)[o]? := fun o => cell_of_row w b o _ _ (0, 0) h
 refine ⟨h.lt, ?_, ?_, ?_, ?_, ?_, ?_, ?_, ?_, ?_⟩ <;> (rw [key]; rfl)
theorem OBox.frozen (h : OBox w b v p) (o : Nat) : w.frozen? ⟨b, o, none⟩ = false := frozen_of_row w b o _ _ h
theorem OBox.put {o : Nat} {u : Value} {v' : PV} {p' : Plan} (h : OBox w b v p) (hc : (v.cells p).setIfInBounds o u = v'.cells p') : OBox (w.setCell ⟨b, o, none⟩ u) b v' p' := by
 unfold OBox; rw [← hc]; exact heap_setCell_same w b o _ _ u h
theorem OBox.alloc (h : OBox w b v p) (o : Obj) : OBox (w.alloc o) b v p := h.same (Below.heap_alloc w o b h.lt)
theorem OBox.drew (h : OBox w b v p) : OBox w.drew b v p := h
theorem OBox.drewN (h : OBox w b v p) (n : Nat) : OBox (w.drewN n) b v p := h
theorem OBox.far (h : OBox w b v p) {g : Nat} (hg : b ≠ g) (o : Nat) (u : Value) : OBox (w.setCell ⟨g, o, none⟩ u) b v p := h.same (Below.heap_setCell w ⟨g, o, none⟩ u b hg)
theorem OBox.grown (h : OBox w b v p) {row : Option Nat} (hg : w.grownBy w' row) (hr : ∀ k, row = some k → b ≠ k) : OBox w' b v p :=
 h.same (hg.block b h.lt fun e => hr b e.symm rfl)
theorem OBox.below (h : OBox w b v p) (hb : Below w.heap.size w w') : OBox w' b v p := h.same (hb.block b h.lt)
theorem obox_new (w : World) (v : PV) (p : Plan) : OBox (w.alloc (.cells (v.cells p) 27)) w.heap.size v p := heap_alloc_new w _

/-! a plan with another row, with other numbers -/
theorem PlanAt.setE (h : PlanAt w v p) {a : Option Addr} {n c : Nat} {xs : List Elem} (hr : Elems w a n xs) (hc : a = none → c = 0) (hf : ∀ x ∈ xs, inI x.kind ∧ inI x.len ∧ x.name.size ≤ 9223372036854775807) :
  PlanAt w ⟨a, n, c, v.aj, v.nj, v.cj, v.as_, v.ns, v.cs, v.al, v.nl, v.cl, v.lv⟩ { p with elems := xs } := by
 obtain ⟨h1, h2, h3, h4, h5, g1, g2, g3, g4, g5, g6, g7, g8, g9, g10, g11, g12, g13⟩ := h
 exact ⟨hr, h2, h3, h4, h5, ⟨hc, g2, g3, g4, g5, hf, g7, g8, g9, g10, g11, g12, g13⟩⟩
theorem PlanAt.setS (h : PlanAt w v p) {a : Option Addr} {n c : Nat} {xs : List Sig} (hr : Sigs w a n xs) (hc : a = none → c = 0) (hf : ∀ x ∈ xs, x.at_.wf ∧ x.name.size ≤ 9223372036854775807) :
  PlanAt w ⟨v.ae, v.ne, v.ce, v.aj, v.nj, v.cj, a, n, c, v.al, v.nl, v.cl, v.lv⟩ { p with sigs := xs } := by
 obtain ⟨h1, h2, h3, h4, h5, g1, g2, g3, g4, g5, g6, g7, g8, g9, g10, g11, g12, g13⟩ := h
 exact ⟨h1, h2, hr, h4, h5, ⟨g1, g2, hc, g4, g5, g6, g7, hf, g9, g10, g11, g12, g13⟩⟩
theorem PlanAt.setL (h : PlanAt w v p) {a : Option Addr} {n c : Nat} {lv : List LineV} (hr : Lines w a n lv) (hc : a = none → c = 0) (hl : ∀ x ∈ lv, x.a = none → x.c = 0)
  (hf : ∀ x ∈ lv, (∀ y ∈ x.elems, inI y) ∧ x.name.size ≤ 9223372036854775807) :
  PlanAt w ⟨v.ae, v.ne, v.ce, v.aj, v.nj, v.cj, v.as_, v.ns, v.cs, a, n, c, lv⟩ { p with lines := lv.map LineV.line } := by
 obtain ⟨h1, h2, h3, h4, h5, g1, g2, g3, g4, g5, g6, g7, g8, g9, g10, g11, g12, g13⟩ := h
 refine ⟨h1, h2, h3, hr, rfl, ⟨g1, g2, g3, hc, hl, g6, g7, g8, ?_, g10, g11, g12, g13⟩⟩
 intro x hx
 obtain ⟨y, hy, rfl⟩ := List.mem_map.1 hx
 exact hf y hy
end

/-- append of a whole row onto a literal that holds nothing, as a block that the call made last -/
theorem wpList_app0 {α : Type} {sz : Nat} {enc : α → List Value} (henc : ∀ x, (enc x).length = sz) (hone : ∀ x, ∀ u ∈ enc x, u.oneCell' = true)
  {P : Program} (w : World) {ops : Array Oper} {rest : List Oper} {o : Oper} {ac : Act} {Q : Exit → Act → World → Prop} (hgd : o.guard = none) (s x : Operand) (t : TypeId)
  (ho : o.op = .call { callee := .builtin .append, args := #[s, x], argTypes := #[t, t] })
  (base : Nat) (e : TypeId) (z : Value) (bytes : Nat) (ht : P.underlying t = some (.slice e)) (hinfo : (P.info? e).map (fun i => (i.zero, i.size, i.bytes)) = some (some z, sz, bytes))
  (hzs : z.cells.size = sz) (hsz : 0 < sz) (b : Nat) (hs : ac.eval s = .slice (some ⟨b, 0, none⟩) 0 0) (hown : w.ownsRow base e sz (.slice (some ⟨b, 0, none⟩) 0 0) 0 [])
  (a : Option Addr) (m c : Nat) (ys : List α) (hx : ac.eval x = .slice a m c) (hrow : Row sz enc w a m ys) (hc : a = none → c = 0)
  (h63 : m ≤ maxLen) (hbytes : m * bytes ≤ 140737488355328) (hbase : base ≤ w.heap.size)
  (h : ∀ v' w', w'.ownsRow base e sz v' m (ys.flatMap enc) → w.grownBy w' (some b) → wpList P ops Q rest (ac.put o.dst v') w') : wpList P ops Q (o :: rest) ac w :=
 wpList_app henc hone w hgd s x t ho base e z bytes ht hinfo hzs hsz _ 0 [] hs hown a m c ys hx hrow hc (by omega) (by simpa using hbytes) hbase
  (fun v' w' h1 h2 _ => h v' w' (by simpa using h1) h2)
theorem lit_own0 (w : World) (e : TypeId) (sz : Nat) (o : Obj) : ((w.alloc o).alloc (.cells #[] e)).ownsRow (w.heap.size + 1) e sz (.slice (some ⟨w.heap.size + 1, 0, none⟩) 0 0) 0 [] := by
 have := World.ownsRow_made (base := w.heap.size + 1) (e := e) (size := sz) (w.alloc o) #[] 0 (by simp) (by simp [maxLen]) (by simp)
 simpa using this
theorem chk_sizes {p : Plan} (h : chk p = 0) : 0 < p.elems.length ∧ p.elems.length ≤ 40 ∧ p.joins.length ≤ 80 ∧ p.sigs.length ≤ 24 := by
 obtain ⟨h1, h2, _⟩ := chk_zero h
 unfold argsOk numsOk at h2
 unfold tooMuch at h1
 simp only [Bool.and_eq_true, decide_eq_true_eq, Bool.or_eq_false_iff, decide_eq_false_iff_not] at h1 h2
 omega

theorem lit_ownJ {w : World} {base b : Nat} {e : TypeId} {sz : Nat} (h : base ≤ b) (hz : w.heap.size = b) : (w.alloc (.cells #[] e)).ownsRow base e sz (.slice (some ⟨b, 0, none⟩) 0 0) 0 [] := by
 subst hz; exact World.ownsRow_made w #[] 0 h (by simp [maxLen]) (by simp)
theorem lit_one {w : World} {b : Nat} {T : TypeId} {x : Join} (h : w.heap.size = b) : Row 4 encJoin (w.alloc (.cells #[.int .i64 x.a.e, .int .i64 x.a.n, .int .i64 x.b.e, .int .i64 x.b.n] T)) (some ⟨b, 0, none⟩) 1 [x] := by
 subst h
 refine ⟨rfl, by omega, fun i y hy => ⟨w.heap.size, 0, rfl, by simp, fun k v hv => ?_⟩⟩
 cases i with
 | succ i => simp at hy
 | zero =>
  simp only [List.getElem?_cons_zero, Option.some.injEq] at hy; subst hy
  rw [cell_of_row (w.alloc _) w.heap.size (0 + 0 * 4 + k) _ _ (0, 0) (heap_alloc_new w _)]
  unfold encJoin at hv
  match k, hv with
  | 0, hv => simpa using hv
  | 1, hv => simpa using hv
  | 2, hv => simpa using hv
  | 3, hv => simpa using hv
  | k + 4, hv => simp at hv
theorem Row.grown {w w' : World} {b : Nat} {x : Join} {row : Option Nat} (h : Row 4 encJoin w (some ⟨b, 0, none⟩) 1 [x]) (hg : w.grownBy w' row) (hne : some b ≠ row) : Row 4 encJoin w' (some ⟨b, 0, none⟩) 1 [x] := by
 refine ⟨h.len, h.bnd, fun i y hy => ?_⟩
 obtain ⟨b', off, ha, hb, hc⟩ := h.at_ i y hy
 cases ha
 exact ⟨b, 0, rfl, Nat.lt_of_lt_of_le hb hg.size, fun k v hv => hg.cell (hc k v hv) hne⟩
theorem Row.drew {α : Type} {sz : Nat} {enc : α → List Value} {w : World} {a : Option Addr} {n : Nat} {xs : List α} (h : Row sz enc w a n xs) : Row sz enc w.drew a n xs := h.below (Below.refl _ _).drew
theorem Row.alloc {α : Type} {sz : Nat} {enc : α → List Value} {w : World} {a : Option Addr} {n : Nat} {xs : List α} (h : Row sz enc w a n xs) (o : Obj) : Row sz enc (w.alloc o) a n xs := h.below (below_new w o)
theorem Still.grown {w w1 w2 : World} {row : Option Nat} (h : Still w w1) (hg : w1.grownBy w2 row) (hr : ∀ k, row = some k → w.heap.size ≤ k) : Still w w2 := ⟨h.out.grown hg h.out.size hr⟩
theorem own_not {w : World} {b n size : Nat} {e : TypeId} {v : Value} {xs : List Value} (h : w.ownsRow (b + 1) e size v n xs) : ∀ k, v.ownBlock = some k → b ≠ k := fun k hk => by have := (h.lt k hk).1; omega
theorem own_from {w : World} {b n size : Nat} {e : TypeId} {v : Value} {xs : List Value} (h : w.ownsRow (b + 1) e size v n xs) : ∀ k, v.ownBlock = some k → b ≤ k := fun k hk => by have := (h.lt k hk).1; omega
theorem join_all {w w' : World} {b jb jo t : Nat} {u u0 u1 u2 u3 : Value} (hb : b < w.heap.size) (hj : jb < w.heap.size) (c1 : w.cell? ⟨b, 1, none⟩ = some u) (z0 : w.cell? ⟨jb, jo + t * 4, none⟩ = some u0) (z1 : w.cell? ⟨jb, jo + t * 4 + 1, none⟩ = some u1)
  (z2 : w.cell? ⟨jb, jo + t * 4 + 2, none⟩ = some u2) (z3 : w.cell? ⟨jb, jo + t * 4 + 3, none⟩ = some u3) (h : Below w.heap.size w w') :
  w'.cell? ⟨b, 1, none⟩ = some u ∧ w'.cell? ⟨jb, jo + t * 4, none⟩ = some u0 ∧ w'.cell? ⟨jb, jo + t * 4 + 1, none⟩ = some u1 ∧ w'.cell? ⟨jb, jo + t * 4 + 2, none⟩ = some u2 ∧ w'.cell? ⟨jb, jo + t * 4 + 3, none⟩ = some u3 :=
 ⟨(h.cell (p := ⟨b, 1, none⟩) hb).trans c1, (h.cell (p := ⟨jb, jo + t * 4, none⟩) hj).trans z0, (h.cell (p := ⟨jb, jo + t * 4 + 1, none⟩) hj).trans z1, (h.cell (p := ⟨jb, jo + t * 4 + 2, none⟩) hj).trans z2, (h.cell (p := ⟨jb, jo + t * 4 + 3, none⟩) hj).trans z3⟩

theorem fine_l {w : World} {ae aj as_ al : Option Addr} {ne ce nj cj ns cs nl cl : Nat} {lv : List LineV} {p : Plan} (h : PlanAt w ⟨ae, ne, ce, aj, nj, cj, as_, ns, cs, al, nl, cl, lv⟩ p) : Calls Tryz.prog 14 #[.agg #[.slice ae ne ce, .slice aj nj cj, .slice as_ ns cs, .slice al nl cl, .int .i64 p.top, .int .i64 p.brake, .int .i64 p.margin, .int .i64 p.throw, .bool p.hard]] w (FinePost w ⟨ae, ne, ce, aj, nj, cj, as_, ns, cs, al, nl, cl, lv⟩ p) := fine_any w ⟨ae, ne, ce, aj, nj, cj, as_, ns, cs, al, nl, cl, lv⟩ p h

theorem encElem_len : ∀ x, (encElem x).length = 3 := fun _ => rfl
theorem encElem_one : ∀ x, ∀ u ∈ encElem x, u.oneCell' = true := by
 intro x u hu; simp only [encElem, List.mem_cons, List.not_mem_nil, or_false] at hu; rcases hu with rfl | rfl | rfl <;> rfl
theorem encJoin_len : ∀ x, (encJoin x).length = 4 := fun _ => rfl
theorem encJoin_one : ∀ x, ∀ u ∈ encJoin x, u.oneCell' = true := by
 intro x u hu; simp only [encJoin, List.mem_cons, List.not_mem_nil, or_false] at hu; rcases hu with rfl | rfl | rfl | rfl <;> rfl
theorem encSig_len : ∀ x, (encSig x).length = 4 := fun _ => rfl
theorem encSig_one : ∀ x, ∀ u ∈ encSig x, u.oneCell' = true := by
 intro x u hu; simp only [encSig, List.mem_cons, List.not_mem_nil, or_false] at hu; rcases hu with rfl | rfl | rfl | rfl <;> rfl
theorem encLine_len : ∀ x, (encLine x).length = 2 := fun _ => rfl
theorem encLine_one : ∀ x, ∀ u ∈ encLine x, u.oneCell' = true := by
 intro x u hu; simp only [encLine, List.mem_cons, List.not_mem_nil, or_false] at hu; rcases hu with rfl | rfl <;> rfl
theorem info_elem : (Tryz.prog.info? 65).map (fun i => (i.zero, i.size, i.bytes)) = some (some (.agg #[.string ByteArray.empty, .int .i64 0, .int .i64 0]), 3, 32) := by kernel_rfl
theorem info_join : (Tryz.prog.info? 94).map (fun i => (i.zero, i.size, i.bytes)) = some (some (.agg #[.int .i64 0, .int .i64 0, .int .i64 0, .int .i64 0]), 4, 32) := by kernel_rfl
theorem info_sig : (Tryz.prog.info? 45).map (fun i => (i.zero, i.size, i.bytes)) = some (some (.agg #[.string ByteArray.empty, .int .i64 0, .int .i64 0, .bool false]), 4, 40) := by kernel_rfl
theorem info_line : (Tryz.prog.info? 96).map (fun i => (i.zero, i.size, i.bytes)) = some (some (.agg #[.string ByteArray.empty, .slice none 0 0]), 2, 40) := by kernel_rfl
/-- the two appends of 'append(append([]Join{}, p.Joins...), j)' at a step of a region that draws its order -/
theorem step_join0 {w : World} {ops : Array Oper} {o : Oper} {ac : Act} {K : Act → World → Prop} {Q : Exit → Act → World → Prop} {E : Prop} {s x : Operand} {base b nj cj : Nat} {ad : Addr} {js : List Join}
  (hgd : o.guard = none) (ho : o.op = .call { callee := .builtin .append, args := #[s, x], argTypes := #[23, 23] })
  (hs : ac.eval s = .slice (some ⟨b, 0, none⟩) 0 0) (hx : ac.eval x = .slice (some ad) nj cj) (h8 : nj < 200)
  (hown : w.ownsRow base 94 4 (.slice (some ⟨b, 0, none⟩) 0 0) 0 []) (hrow : Joins w (some ad) nj js) (hbase : base ≤ w.heap.size)
  (h : ∀ v' w', w'.ownsRow base 94 4 v' nj (js.flatMap encJoin) → w.grownBy w' (some b) → K (ac.put o.dst v') w') :
  if Region.wanted o (yielded ops ac.tmps) = true then Oper.wp Tryz.prog o ac w K Q else E :=
 step_app0 encJoin_len encJoin_one w hgd s x 23 ho base 94 (.agg #[.int .i64 0, .int .i64 0, .int .i64 0, .int .i64 0]) 32 Tryz.underlying23 info_join rfl (by decide) b hs hown (some ad) nj cj js hx hrow (by intro h; cases h)
  (by simp only [maxLen]; omega) (by omega) hbase h
theorem step_join1 {w : World} {ops : Array Oper} {o : Oper} {ac : Act} {K : Act → World → Prop} {Q : Exit → Act → World → Prop} {E : Prop} {s x : Operand} {base nj c : Nat} {v : Value} {ad : Addr} {js : List Join} {j : Join}
  (hgd : o.guard = none) (ho : o.op = .call { callee := .builtin .append, args := #[s, x], argTypes := #[23, 23] })
  (hs : ac.eval s = v) (hx : ac.eval x = .slice (some ad) 1 c) (h8 : nj < 200)
  (hown : w.ownsRow base 94 4 v nj (js.flatMap encJoin)) (hrow : Row 4 encJoin w (some ad) 1 [j]) (hbase : base ≤ w.heap.size)
  (h : ∀ g c w', base ≤ g → w'.ownsRow base 94 4 (.slice (some ⟨g, 0, none⟩) (nj + 1) c) (nj + 1) ((js ++ [j]).flatMap encJoin) → w.grownBy w' v.ownBlock → K (ac.put o.dst (.slice (some ⟨g, 0, none⟩) (nj + 1) c)) w') :
  if Region.wanted o (yielded ops ac.tmps) = true then Oper.wp Tryz.prog o ac w K Q else E :=
 step_app encJoin_len encJoin_one w hgd s x 23 ho base 94 (.agg #[.int .i64 0, .int .i64 0, .int .i64 0, .int .i64 0]) 32 Tryz.underlying23 info_join rfl (by decide) v nj js hs hown (some ad) 1 c [j] hx hrow (by intro h; cases h)
  (by simp only [maxLen]; omega) (by omega) hbase (fun v' w' h1 h2 _ _ => by
   obtain ⟨g, cp, rfl, h3, h4⟩ := own_shape h1 (by omega)
   exact h g cp w' h3 h1 h2)
end Go.Proofs.YtcaeglnfflkabaaGreat

/- A region that draws its order and whose last operation writes what the others read: a condition on the world is held up to that operation alone. No condition. -/
namespace Go.Proofs.YtcaeglnfflkabaaGreat

section
variable {P : Program} {ops : Array Oper} {Q : Exit → Act → World → Prop} {md : Region.Mode} {S : World → Prop} {t : Nat}

end
end Go.Proofs.YtcaeglnfflkabaaGreat

/- Walk of semaphorelaw2.Turned: whatever it turns, it hands back a plan that reads well. No condition beyond the plan that is read. -/
set_option maxRecDepth 1000000
namespace Go.Proofs.YtcaeglnfflkabaaGreat
open Go.ChangeShapes Go.WideShapes Go.ChangeAt Go.RowKit Go.Sort

def zPV : PV := ⟨none, 0, 0, none, 0, 0, none, 0, 0, none, 0, 0, []⟩
def zPlan : Plan := ⟨[], [], [], [], 0, 0, 0, 0, false⟩
theorem obox_filled {W : World} {b : Nat} {v v' : PV} {p p' : Plan} (h : OBox W b v p) :
  OBox (((((((((W.setCell ⟨b, 0, none⟩ (.slice v'.ae v'.ne v'.ce)).setCell ⟨b, 1, none⟩ (.slice v'.aj v'.nj v'.cj)).setCell ⟨b, 2, none⟩ (.slice v'.as_ v'.ns v'.cs)).setCell ⟨b, 3, none⟩ (.slice v'.al v'.nl v'.cl)).setCell ⟨b, 4, none⟩ (.int .i64 p'.top)).setCell ⟨b, 5, none⟩ (.int .i64 p'.brake)).setCell ⟨b, 6, none⟩ (.int .i64 p'.margin)).setCell ⟨b, 7, none⟩ (.int .i64 p'.throw)).setCell ⟨b, 8, none⟩ (.bool p'.hard)) b v' p' := by
 exact ((((((((h.put (v' := { v with ae := v'.ae, ne := v'.ne, ce := v'.ce }) (p' := p) rfl).put (v' := { v with ae := v'.ae, ne := v'.ne, ce := v'.ce, aj := v'.aj, nj := v'.nj, cj := v'.cj }) (p' := p) rfl).put (v' := { v with ae := v'.ae, ne := v'.ne, ce := v'.ce, aj := v'.aj, nj := v'.nj, cj := v'.cj, as_ := v'.as_, ns := v'.ns, cs := v'.cs }) (p' := p) rfl).put (v' := { v with ae := v'.ae, ne := v'.ne, ce := v'.ce, aj := v'.aj, nj := v'.nj, cj := v'.cj, as_ := v'.as_, ns := v'.ns, cs := v'.cs, al := v'.al, nl := v'.nl, cl := v'.cl }) (p' := p) rfl).put (v' := { v with ae := v'.ae, ne := v'.ne, ce := v'.ce, aj := v'.aj, nj := v'.nj, cj := v'.cj, as_ := v'.as_, ns := v'.ns, cs := v'.cs, al := v'.al, nl := v'.nl, cl := v'.cl }) (p' := { p with top := p'.top }) rfl).put (v' := { v with ae := v'.ae, ne := v'.ne, ce := v'.ce, aj := v'.aj, nj := v'.nj, cj := v'.cj, as_ := v'.as_, ns := v'.ns, cs := v'.cs, al := v'.al, nl := v'.nl, cl := v'.cl }) (p' := { p with top := p'.top, brake := p'.brake }) rfl).put (v' := { v with ae := v'.ae, ne := v'.ne, ce := v'.ce, aj := v'.aj, nj := v'.nj, cj := v'.cj, as_ := v'.as_, ns := v'.ns, cs := v'.cs, al := v'.al, nl := v'.nl, cl := v'.cl }) (p' := { p with top := p'.top, brake := p'.brake, margin := p'.margin }) rfl).put (v' := { v with ae := v'.ae, ne := v'.ne, ce := v'.ce, aj := v'.aj, nj := v'.nj, cj := v'.cj, as_ := v'.as_, ns := v'.ns, cs := v'.cs, al := v'.al, nl := v'.nl, cl := v'.cl }) (p' := { p with top := p'.top, brake := p'.brake, margin := p'.margin, throw := p'.throw }) rfl).put rfl
theorem fit_set {α : Type} {P : α → Prop} {l : List α} (h : ∀ x ∈ l, P x) {a : Nat} {x y : α} (hx : l[a]? = some x) (hy : P x → P y) : ∀ z ∈ l.set a y, P z := by
 intro z hz
 rcases List.mem_or_eq_of_mem_set hz with h1 | h1
 ·exact h z h1
 ·subst h1; exact hy (h x (List.mem_of_getElem? hx))
/-- what holds of the three boxes of Turned (the parameter's, the result's, the copy's) -/
structure Trn (w W : World) (v0 v : PV) (p q : Plan) : Prop where
 still : Below w.heap.size w W
 ob : PBox W w.heap.size v0 p
 oz : OBox W (w.heap.size + 1) zPV zPlan
 oq : OBox W (w.heap.size + 2) v q
section
variable {w W W' : World} {v0 v : PV} {p q : Plan}
theorem Trn.alloc (h : Trn w W v0 v p q) (o : Obj) : Trn w (W.alloc o) v0 v p q := ⟨h.still.alloc h.still.size o, h.ob.alloc o, h.oz.alloc o, h.oq.alloc o⟩
theorem Trn.drew (h : Trn w W v0 v p q) : Trn w W.drew v0 v p q := ⟨h.still.drew, h.ob.below (Below.refl _ _).drew, h.oz, h.oq⟩
theorem Trn.grown (h : Trn w W v0 v p q) {row : Option Nat} (hg : W.grownBy W' row) (hr : ∀ k, row = some k → w.heap.size + 3 ≤ k) : Trn w W' v0 v p q :=
 ⟨h.still.grown hg h.still.size (fun k hk => by have := hr k hk; omega), h.ob.kept hg (fun e => by have := hr _ e.symm; omega), h.oz.grown hg (fun k hk => by have := hr k hk; omega), h.oq.grown hg (fun k hk => by have := hr k hk; omega)⟩
theorem Trn.put (h : Trn w W v0 v p q) {o : Nat} {u : Value} {v' : PV} {q' : Plan} (hc : (v.cells q).setIfInBounds o u = v'.cells q') : Trn w (W.setCell ⟨w.heap.size + 2, o, none⟩ u) v0 v' p q' :=
 ⟨h.still.setCell (p := ⟨w.heap.size + 2, o, none⟩) (by show w.heap.size ≤ w.heap.size + 2; omega) u,
  by
   have key : ∀ o', (W.setCell ⟨w.heap.size + 2, o, none⟩ u).cell? ⟨w.heap.size, o', none⟩ = W.cell? ⟨w.heap.size, o', none⟩ := fun o' => World.cell?_of_block (Below.heap_setCell W ⟨w.heap.size + 2, o, none⟩ u w.heap.size (by show w.heap.size ≠ w.heap.size + 2; omega))
   obtain ⟨l, k0, k1, k2, k3, k4, k5, k6, k7, k8⟩ := h.ob
   exact ⟨by simpa [World.setCell] using l, (key _).trans k0, (key _).trans k1, (key _).trans k2, (key _).trans k3, (key _).trans k4, (key _).trans k5, (key _).trans k6, (key _).trans k7, (key _).trans k8⟩,
  h.oz.far (by omega) _ _, h.oq.put hc⟩
end

theorem name_body {P : Program} {f : Func} {Post : Ending → World → Prop} {e : Exit} {a : Act} {w : World} (h : ∀ W, W = w → bodyPost P f Post e a W) : bodyPost P f Post e a w := h w rfl
theorem own_other {w : World} {base n size g : Nat} {e : TypeId} {v : Value} {xs : List Value} (hne : ∀ k, v.ownBlock = some k → k ≠ g) (h : w.ownsRow base e size v n xs) (o : Nat) (u : Value) : (w.setCell ⟨g, o, none⟩ u).ownsRow base e size v n xs :=
 h.kept (row := some g) ⟨rfl, rfl, rfl, by simp [World.setCell], fun k _ hk => heap_setCell_other w ⟨g, o, none⟩ k u (fun e => hk (by simp [e]))⟩ (.inr fun e => hne g e rfl)
theorem own_low {w : World} {base n size b o : Nat} {e : TypeId} {v : Value} {xs : List Value} (hb : b < base) (h : w.ownsRow base e size v n xs) (u : Value) : (w.setCell ⟨b, o, none⟩ u).ownsRow base e size v n xs := ownsRow_setCell_below h (a := ⟨b, o, none⟩) hb u
theorem below_set {B b o : Nat} {w W : World} (hb : B ≤ b) (h : Below B w W) (u : Value) : Below B w (W.setCell ⟨b, o, none⟩ u) := h.setCell (p := ⟨b, o, none⟩) hb u
theorem obox_far {w : World} {b g : Nat} {v : PV} {p : Plan} (hg : b ≠ g) (h : OBox w b v p) (o : Nat) (u : Value) : OBox (w.setCell ⟨g, o, none⟩ u) b v p := h.far hg o u
theorem row_take {α : Type} {sz : Nat} {enc : α → List Value} {w : World} {a : Option Addr} {n t : Nat} {xs : List α} (h : Row sz enc w a n xs) (ht : t ≤ n) : Row sz enc w a t (xs.take t) := by
 have hl := h.len
 have hb := h.bnd
 refine ⟨by rw [List.length_take]; omega, by omega, fun i y hy => h.at_ i y ?_⟩
 rw [List.getElem?_take] at hy
 split at hy
 ·exact hy
 ·cases hy
theorem row_drop {α : Type} {sz : Nat} {enc : α → List Value} {w : World} {g n t : Nat} {xs : List α} (h : Row sz enc w (some ⟨g, 0, none⟩) n xs) (ht : t ≤ n) : Row sz enc w (some ⟨g, t * sz, none⟩) (n - t) (xs.drop t) := by
 have hl := h.len
 have hb := h.bnd
 refine ⟨by rw [List.length_drop]; omega, by omega, fun i y hy => ?_⟩
 rw [List.getElem?_drop] at hy
 obtain ⟨b, off, ha, hb, hc⟩ := h.at_ _ y hy
 cases ha
 exact ⟨g, t * sz, rfl, hb, fun k v hv => by have := hc k v hv; rw [Nat.add_mul] at this; rw [show t * sz + i * sz + k = 0 + (t * sz + i * sz) + k by omega]; exact this⟩
theorem row_none {α : Type} {sz : Nat} {enc : α → List Value} {w : World} {a : Option Addr} {n : Nat} {xs : List α} (h : xs.length = n) (h0 : n = 0) : Row sz enc w a n xs := by
 subst h0
 have : xs = [] := List.length_eq_zero_iff.1 h
 subst this
 exact ⟨rfl, by omega, fun i y hy => by simp at hy⟩
end Go.Proofs.YtcaeglnfflkabaaGreat
