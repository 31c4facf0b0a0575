/- The search of semaphoreref12.Flank in memory: its box and its four rows, and what a step on them leaves. No condition. -/
import Derived.Test.YtnkpiijljfjmkaaClashW9
import Derived.Test.YtnkpiijljfjmkaaClashW8
import Derived.Test.YtnkpiijljfjmkaaClashDef
set_option maxRecDepth 1000000
namespace Go.Proofs.Ytnkpiijljfjmkaa
open Go.ChangeShapes Go.WideShapes Go.ChangeAt Go.RowKit Go.Sort

/-- a row that the search owns: its value, its elements' type and size, how many, the cells -/
structure RowM where
 v : Value
 e : TypeId
 sz : Nat
 n : Nat
 xs : List Value
def ApartM (a b : RowM) : Prop := ∀ k, a.v.ownBlock = some k → b.v.ownBlock ≠ some k
theorem apm_symm {a b : RowM} (h : ApartM a b) : ApartM b a := fun k hb ha => h k ha hb
structure RowsM (w : World) (base : Nat) (l : List RowM) : Prop where
 own : ∀ q ∈ l, w.ownsRow base q.e q.sz q.v q.n q.xs
 apart : l.Pairwise ApartM
section
variable {w w' : World} {base b : Nat} {l : List RowM}
theorem RowsM.below (h : RowsM w base l) (hb : Below w.heap.size w w') : RowsM w' base l := ⟨fun q hq => owns_below (h.own q hq) hb, h.apart⟩
theorem RowsM.alloc (h : RowsM w base l) (o : Obj) : RowsM (w.alloc o) base l := ⟨fun q hq => (h.own q hq).alloc o, h.apart⟩
theorem RowsM.low (h : RowsM w base l) {g : Nat} (hg : g < base) (o : Nat) (u : Value) : RowsM (w.setCell ⟨g, o, none⟩ u) base l := ⟨fun q hq => ownsRow_setCell_below (h.own q hq) (a := ⟨g, o, none⟩) hg u, h.apart⟩
theorem pairset {r : RowM → RowM → Prop} : ∀ (l : List RowM) (i : Nat) (q z : RowM), l[i]? = some q → l.Pairwise r → (∀ (j : Nat) x, l[j]? = some x → j ≠ i → r x z ∧ r z x) → (l.set i z).Pairwise r
 | [], _, _, _, h, _, _ => by simp at h
 | a :: t, 0, q, z, h, hp, hy => by
  simp only [List.set_cons_zero, List.pairwise_cons] at *
  refine ⟨fun c hc => ?_, hp.2⟩
  obtain ⟨j, hj⟩ := List.getElem?_of_mem hc
  exact (hy (j + 1) c (by simpa using hj) (by omega)).2
 | a :: t, i + 1, q, z, h, hp, hy => by
  simp only [List.set_cons_succ, List.pairwise_cons] at *
  refine ⟨fun c hc => ?_, ?_⟩
  ·rcases List.mem_or_eq_of_mem_set hc with hc | rfl
   ·exact hp.1 c hc
   ·exact (hy 0 a rfl (by omega)).1
  ·exact pairset t i q z (by simpa using h) hp.2 fun j x hj hne => hy (j + 1) x (by simpa using hj) (by omega)
theorem pairget {r : RowM → RowM → Prop} {i j : Nat} {x y : RowM} (hp : l.Pairwise r) (hs : ∀ a b, r a b → r b a) (hx : l[i]? = some x) (hy : l[j]? = some y) (hne : i ≠ j) : r x y := by
 rw [List.pairwise_iff_getElem] at hp
 obtain ⟨h1, rfl⟩ := List.getElem?_eq_some_iff.1 hx
 obtain ⟨h2, rfl⟩ := List.getElem?_eq_some_iff.1 hy
 rcases Nat.lt_or_gt_of_ne hne with h | h
 ·exact hp i j h1 h2 h
 ·exact hs _ _ (hp j i h2 h1 h)
/-- an append to one of the rows -/
theorem RowsM.app (h : RowsM w base l) {k : Nat} {q : RowM} (hk : l[k]? = some q) {z : Value} {n : Nat} {xs : List Value} (hz : w'.ownsRow base q.e q.sz z n xs) (hg : w.grownBy w' q.v.ownBlock)
  (hb : z.ownBlock = q.v.ownBlock ∨ z.ownBlock = some w.heap.size) : RowsM w' base (l.set k ⟨z, q.e, q.sz, n, xs⟩) := by
 have hap : ∀ (j : Nat) x, l[j]? = some x → j ≠ k → ApartM x q := fun j x hj hne => pairget h.apart (fun _ _ => apm_symm) hj hk hne
 refine ⟨fun x hx => ?_, pairset l k q _ hk h.apart fun j x hj hne => ?_⟩
 ·obtain ⟨j, hj⟩ := List.getElem?_of_mem hx
  by_cases hjk : j = k
  ·subst hjk
   have hlt : j < l.length := (List.getElem?_eq_some_iff.1 hk).1
   rw [List.getElem?_set_self hlt] at hj
   cases hj
   exact hz
  ·rw [List.getElem?_set_ne (fun e => hjk e.symm)] at hj
   have ho := h.own x (List.mem_of_getElem? hj)
   have hx2 := hap j x hj hjk
   obtain ⟨h1, h2⟩ := ho
   refine ⟨h1, h2.imp id fun ⟨g, cap, cur, hv, hgb, hh, r⟩ => ⟨g, cap, cur, hv, hgb, ?_, r⟩⟩
   rw [hg.block g (Array.getElem?_eq_some_iff.1 hh).1 (fun hc => hx2 g (by rw [hv]; rfl) hc.symm)]
   exact hh
 ·have hx2 := hap j x hj hne
  have ho := h.own x (List.mem_of_getElem? hj)
  have key : ApartM x ⟨z, q.e, q.sz, n, xs⟩ := fun g hgx hgz => by
   rcases hb with hb | hb
   ·rw [hb] at hgz; exact hx2 g hgx hgz
   ·rw [hb] at hgz; cases hgz; exact absurd (ho.lt _ hgx).2 (Nat.lt_irrefl _)
  exact ⟨key, apm_symm key⟩
end
def rowG (v : Value) (l : List Need) : RowM := ⟨v, 72, 2, l.length, l.flatMap encNeed⟩
def rowZ (v : Value) (l : List Int) : RowM := ⟨v, 3, 1, l.length, l.flatMap encInt⟩
def rowP (v : Value) (l : List Port) : RowM := ⟨v, 86, 2, l.length, l.flatMap encPort⟩
/-- what a search never changes: its plan, and the road's steps and needs -/
structure Fix where
 pv : PV
 p : Plan
 sa : Option Addr
 sn : Nat
 sc : Nat
 na : Option Addr
 nn : Nat
 nc : Nat
def sbox (F : Fix) (r : Road) (vg vz vh vm : Value) : Array Value :=
 #[.slice F.pv.ae F.pv.ne F.pv.ce, .slice F.pv.aj F.pv.nj F.pv.cj, .slice F.pv.as_ F.pv.ns F.pv.cs, .slice F.pv.al F.pv.nl F.pv.cl, .int .i64 F.p.top, .int .i64 F.p.brake, .int .i64 F.p.margin, .int .i64 F.p.throw, .bool F.p.hard,
  .int .i64 r.frm, .int .i64 r.to, .int .i64 r.fin, .slice F.sa F.sn F.sc, .slice F.na F.nn F.nc, vg, vz, vh, .bool r.bare, vm]
/-- Block b of w is a search in the state s; whatever it grows lies from base on. -/
structure SrchAt (w : World) (b base : Nat) (F : Fix) (vg vz vh vm : Value) (s : Srch) : Prop where
 box : w.heap[b]? = some (.cells (sbox F s.r vg vz vh vm) 117)
 lt : b < base
 le : base ≤ w.heap.size
 rows : RowsM w base [rowG vg s.r.guards, rowZ vz s.r.zone, rowZ vh s.r.holds, rowP vm s.met]
/-- nothing has changed below base but block b -/
structure Near (b base : Nat) (w w' : World) : Prop where
 os : w'.os = w.os
 tape : w'.tape = w.tape
 output : w'.output = w.output
 size : w.heap.size ≤ w'.heap.size
 block : ∀ k, k < base → k ≠ b → w'.heap[k]? = w.heap[k]?
/-- of what was there, only block b and the own blocks of l may have changed; l' lie there or in new blocks -/
structure NearR (b : Nat) (l l' : List Value) (w w' : World) : Prop where
 os : w'.os = w.os
 tape : w'.tape = w.tape
 output : w'.output = w.output
 size : w.heap.size ≤ w'.heap.size
 block : ∀ k, k < w.heap.size → k ≠ b → (∀ v ∈ l, v.ownBlock ≠ some k) → w'.heap[k]? = w.heap[k]?
 own : ∀ v ∈ l', ∀ k, v.ownBlock = some k → k < w.heap.size → ∃ u ∈ l, u.ownBlock = some k
section
variable {w w' w2 : World} {b base : Nat} {F : Fix} {vg vz vh vm : Value} {s : Srch}
theorem NearR.refl (b : Nat) (l : List Value) (w : World) : NearR b l l w w := ⟨rfl, rfl, rfl, Nat.le_refl _, fun _ _ _ _ => rfl, fun v hv _ hk _ => ⟨v, hv, hk⟩⟩
theorem NearR.trans {l l' l'' : List Value} (h : NearR b l l' w w') (h2 : NearR b l' l'' w' w2) : NearR b l l'' w w2 :=
 ⟨h2.os.trans h.os, h2.tape.trans h.tape, h2.output.trans h.output, Nat.le_trans h.size h2.size,
  fun k hk hb hl => (h2.block k (Nat.lt_of_lt_of_le hk h.size) hb (fun v hv hc => by obtain ⟨u, hu, hu2⟩ := h.own v hv k hc hk; exact hl u hu hu2)).trans (h.block k hk hb hl),
  fun v hv k hk hlt => by obtain ⟨u, hu, hu2⟩ := h2.own v hv k hk (Nat.lt_of_lt_of_le hlt h.size); exact h.own u hu k hu2 hlt⟩
theorem NearR.of_below {l : List Value} (h : Below w.heap.size w w') : NearR b l l w w' := ⟨h.os, h.tape, h.output, h.size, fun k hk _ _ => h.block k hk, fun v hv _ hk _ => ⟨v, hv, hk⟩⟩
theorem NearR.near {l l' : List Value} (h : NearR b l l' w w') (hl : ∀ v ∈ l, ∀ k, v.ownBlock = some k → base ≤ k) (hb : base ≤ w.heap.size) : Near b base w w' :=
 ⟨h.os, h.tape, h.output, h.size, fun k hk hkb => h.block k (by omega) hkb (fun v hv hc => by have := hl v hv k hc; omega)⟩
theorem SrchAt.lows (h : SrchAt w b base F vg vz vh vm s) : ∀ v ∈ [vg, vz, vh, vm], ∀ k, v.ownBlock = some k → base ≤ k := by
 intro v hv k hk
 simp only [List.mem_cons, List.not_mem_nil, or_false] at hv
 rcases hv with rfl | rfl | rfl | rfl
 ·exact ((h.rows.own (rowG v s.r.guards) (by simp)).lt k hk).1
 ·exact ((h.rows.own (rowZ v s.r.zone) (by simp)).lt k hk).1
 ·exact ((h.rows.own (rowZ v s.r.holds) (by simp)).lt k hk).1
 ·exact ((h.rows.own (rowP v s.met) (by simp)).lt k hk).1
theorem SrchAt.below (h : SrchAt w b base F vg vz vh vm s) (hb : Below w.heap.size w w') : SrchAt w' b base F vg vz vh vm s :=
 ⟨(hb.block b (Array.getElem?_eq_some_iff.1 h.box).1).trans h.box, h.lt, Nat.le_trans h.le hb.size, h.rows.below hb⟩
theorem grown_R {l l' : List Value} {u v : Value} (h : w.grownBy w' u.ownBlock) (hu : u ∈ l) (hb : v.ownBlock = u.ownBlock ∨ v.ownBlock = some w.heap.size) (hl : ∀ x ∈ l', x = v ∨ x ∈ l) : NearR b l l' w w' :=
 ⟨h.os, h.tape, h.output, h.size, fun k hk _ hn => h.block k hk (fun hc => hn u hu hc.symm), fun x hx k hk hlt => by
  rcases hl x hx with rfl | hx
  ·rcases hb with hb | hb
   ·exact ⟨u, hu, by rw [← hb]; exact hk⟩
   ·rw [hb] at hk; cases hk; omega
  ·exact ⟨x, hx, hk⟩⟩
theorem set_R (l : List Value) (w : World) (o : Nat) (v : Value) : NearR b l l w (w.setCell ⟨b, o, none⟩ v) := ⟨rfl, rfl, rfl, by simp [World.setCell], fun k _ hb _ => Below.heap_setCell w ⟨b, o, none⟩ v k hb, fun v hv _ hk _ => ⟨v, hv, hk⟩⟩
/-- the search after an append to its zone (row 1), its holds (row 2), its guards (row 0), its ports met (row 3), and the store of the new slice -/
theorem SrchAt.zone (h : SrchAt w b base F vg vz vh vm s) {e : Int} {v : Value} (ho : w'.ownsRow base 3 1 v (s.r.zone.length + 1) ((s.r.zone ++ [e]).flatMap encInt)) (hg : w.grownBy w' vz.ownBlock) (hb : v.ownBlock = vz.ownBlock ∨ v.ownBlock = some w.heap.size) :
  SrchAt (w'.setCell ⟨b, 15, none⟩ v) b base F vg v vh vm { s with r := { s.r with zone := s.r.zone ++ [e] } } ∧ NearR b [vg, vz, vh, vm] [vg, v, vh, vm] w (w'.setCell ⟨b, 15, none⟩ v) := by
 have hq := h.rows.own (rowZ vz s.r.zone) (by simp)
 have hr := h.rows.app (k := 1) rfl (z := v) (n := s.r.zone.length + 1) (xs := (s.r.zone ++ [e]).flatMap encInt) ho hg hb
 have hlow : ∀ k, vz.ownBlock = some k → base ≤ k := fun k hk => (hq.lt k hk).1
 have hbb : w'.heap[b]? = w.heap[b]? := hg.block b (Array.getElem?_eq_some_iff.1 h.box).1 (fun hc => by have := hlow b hc.symm; have := h.lt; omega)
 refine ⟨⟨heap_setCell_same w' b 15 _ _ v (hbb.trans h.box), h.lt, by have := h.le; have := hg.size; simp [World.setCell]; omega, ?_⟩, (grown_R hg (by simp) hb (fun x hx => by simp only [List.mem_cons, List.not_mem_nil, or_false] at hx ⊢; rcases hx with rfl | rfl | rfl | rfl <;> simp)).trans (set_R _ w' 15 v)⟩
 have := hr.low h.lt 15 v
 simpa [rowZ] using this
theorem SrchAt.holds (h : SrchAt w b base F vg vz vh vm s) {e : Int} {v : Value} (ho : w'.ownsRow base 3 1 v (s.r.holds.length + 1) ((s.r.holds ++ [e]).flatMap encInt)) (hg : w.grownBy w' vh.ownBlock) (hb : v.ownBlock = vh.ownBlock ∨ v.ownBlock = some w.heap.size) :
  SrchAt (w'.setCell ⟨b, 16, none⟩ v) b base F vg vz v vm { s with r := { s.r with holds := s.r.holds ++ [e] } } ∧ NearR b [vg, vz, vh, vm] [vg, vz, v, vm] w (w'.setCell ⟨b, 16, none⟩ v) := by
 have hq := h.rows.own (rowZ vh s.r.holds) (by simp)
 have hr := h.rows.app (k := 2) rfl (z := v) (n := s.r.holds.length + 1) (xs := (s.r.holds ++ [e]).flatMap encInt) ho hg hb
 have hlow : ∀ k, vh.ownBlock = some k → base ≤ k := fun k hk => (hq.lt k hk).1
 have hbb : w'.heap[b]? = w.heap[b]? := hg.block b (Array.getElem?_eq_some_iff.1 h.box).1 (fun hc => by have := hlow b hc.symm; have := h.lt; omega)
 refine ⟨⟨heap_setCell_same w' b 16 _ _ v (hbb.trans h.box), h.lt, by have := h.le; have := hg.size; simp [World.setCell]; omega, ?_⟩, (grown_R hg (by simp) hb (fun x hx => by simp only [List.mem_cons, List.not_mem_nil, or_false] at hx ⊢; rcases hx with rfl | rfl | rfl | rfl <;> simp)).trans (set_R _ w' 16 v)⟩
 have := hr.low h.lt 16 v
 simpa [rowZ] using this
theorem SrchAt.guard (h : SrchAt w b base F vg vz vh vm s) {m : Need} {v : Value} (ho : w'.ownsRow base 72 2 v (s.r.guards.length + 1) ((s.r.guards ++ [m]).flatMap encNeed)) (hg : w.grownBy w' vg.ownBlock) (hb : v.ownBlock = vg.ownBlock ∨ v.ownBlock = some w.heap.size) :
  SrchAt (w'.setCell ⟨b, 14, none⟩ v) b base F v vz vh vm { s with r := { s.r with guards := s.r.guards ++ [m] } } ∧ NearR b [vg, vz, vh, vm] [v, vz, vh, vm] w (w'.setCell ⟨b, 14, none⟩ v) := by
 have hq := h.rows.own (rowG vg s.r.guards) (by simp)
 have hr := h.rows.app (k := 0) rfl (z := v) (n := s.r.guards.length + 1) (xs := (s.r.guards ++ [m]).flatMap encNeed) ho hg hb
 have hlow : ∀ k, vg.ownBlock = some k → base ≤ k := fun k hk => (hq.lt k hk).1
 have hbb : w'.heap[b]? = w.heap[b]? := hg.block b (Array.getElem?_eq_some_iff.1 h.box).1 (fun hc => by have := hlow b hc.symm; have := h.lt; omega)
 refine ⟨⟨heap_setCell_same w' b 14 _ _ v (hbb.trans h.box), h.lt, by have := h.le; have := hg.size; simp [World.setCell]; omega, ?_⟩, (grown_R hg (by simp) hb (fun x hx => by simp only [List.mem_cons, List.not_mem_nil, or_false] at hx ⊢; rcases hx with rfl | rfl | rfl | rfl <;> simp)).trans (set_R _ w' 14 v)⟩
 have := hr.low h.lt 14 v
 simpa [rowG] using this
theorem SrchAt.meet (h : SrchAt w b base F vg vz vh vm s) {y : Port} {v : Value} (ho : w'.ownsRow base 86 2 v (s.met.length + 1) ((s.met ++ [y]).flatMap encPort)) (hg : w.grownBy w' vm.ownBlock) (hb : v.ownBlock = vm.ownBlock ∨ v.ownBlock = some w.heap.size) :
  SrchAt (w'.setCell ⟨b, 18, none⟩ v) b base F vg vz vh v (s.mark y) ∧ NearR b [vg, vz, vh, vm] [vg, vz, vh, v] w (w'.setCell ⟨b, 18, none⟩ v) := by
 have hq := h.rows.own (rowP vm s.met) (by simp)
 have hr := h.rows.app (k := 3) rfl (z := v) (n := s.met.length + 1) (xs := (s.met ++ [y]).flatMap encPort) ho hg hb
 have hlow : ∀ k, vm.ownBlock = some k → base ≤ k := fun k hk => (hq.lt k hk).1
 have hbb : w'.heap[b]? = w.heap[b]? := hg.block b (Array.getElem?_eq_some_iff.1 h.box).1 (fun hc => by have := hlow b hc.symm; have := h.lt; omega)
 refine ⟨⟨heap_setCell_same w' b 18 _ _ v (hbb.trans h.box), h.lt, by have := h.le; have := hg.size; simp [World.setCell]; omega, ?_⟩, (grown_R hg (by simp) hb (fun x hx => by simp only [List.mem_cons, List.not_mem_nil, or_false] at hx ⊢; rcases hx with rfl | rfl | rfl | rfl <;> simp)).trans (set_R _ w' 18 v)⟩
 have := hr.low h.lt 18 v
 simpa [rowP, Srch.mark] using this
theorem SrchAt.bare (h : SrchAt w b base F vg vz vh vm s) : SrchAt (w.setCell ⟨b, 17, none⟩ (.bool true)) b base F vg vz vh vm s.strip ∧ NearR b [vg, vz, vh, vm] [vg, vz, vh, vm] w (w.setCell ⟨b, 17, none⟩ (.bool true)) :=
 ⟨⟨heap_setCell_same w b 17 _ _ (.bool true) h.box, h.lt, by have := h.le; simpa [World.setCell] using this, h.rows.low h.lt 17 _⟩, set_R _ w 17 _⟩
end
end Go.Proofs.Ytnkpiijljfjmkaa

/- Walk of semaphoreref12's search.zone. Condition: the search is in memory. -/
set_option maxRecDepth 1000000
namespace Go.Proofs.Ytnkpiijljfjmkaa
open Go.ChangeShapes Go.WideShapes Go.ChangeAt Go.RowKit Go.Sort

/-- what a step of the search leaves -/
def SrchPost (w : World) (b base : Nat) (F : Fix) (l : List Value) (s : Srch) (v : Value) (e : Ending) (w' : World) : Prop := ∃ vg vz vh vm : Value, e = .returned v ∧ SrchAt w' b base F vg vz vh vm s ∧ NearR b l [vg, vz, vh, vm] w w'
theorem SrchAt.cell {w : World} {b base : Nat} {F : Fix} {vg vz vh vm : Value} {s : Srch} (h : SrchAt w b base F vg vz vh vm s) (o : Nat) : w.cell? ⟨b, o, none⟩ = (sbox F s.r vg vz vh vm)[o]? := cell_of_row w b o _ _ (0, 0) h.box
theorem SrchAt.frozen {w : World} {b base : Nat} {F : Fix} {vg vz vh vm : Value} {s : Srch} (h : SrchAt w b base F vg vz vh vm s) (o : Nat) : w.frozen? ⟨b, o, none⟩ = false := frozen_of_row w b o _ _ h.box
theorem SrchAt.bl {w : World} {b base : Nat} {F : Fix} {vg vz vh vm : Value} {s : Srch} (h : SrchAt w b base F vg vz vh vm s) : b < w.heap.size := (Array.getElem?_eq_some_iff.1 h.box).1
theorem SrchAt.oz {w : World} {b base : Nat} {F : Fix} {vg vz vh vm : Value} {s : Srch} (h : SrchAt w b base F vg vz vh vm s) : w.ownsRow base 3 1 vz s.r.zone.length (s.r.zone.flatMap encInt) := h.rows.own (rowZ vz s.r.zone) (by simp)
theorem SrchAt.oh {w : World} {b base : Nat} {F : Fix} {vg vz vh vm : Value} {s : Srch} (h : SrchAt w b base F vg vz vh vm s) : w.ownsRow base 3 1 vh s.r.holds.length (s.r.holds.flatMap encInt) := h.rows.own (rowZ vh s.r.holds) (by simp)
theorem SrchAt.og {w : World} {b base : Nat} {F : Fix} {vg vz vh vm : Value} {s : Srch} (h : SrchAt w b base F vg vz vh vm s) : w.ownsRow base 72 2 vg s.r.guards.length (s.r.guards.flatMap encNeed) := h.rows.own (rowG vg s.r.guards) (by simp)
theorem SrchAt.om {w : World} {b base : Nat} {F : Fix} {vg vz vh vm : Value} {s : Srch} (h : SrchAt w b base F vg vz vh vm s) : w.ownsRow base 86 2 vm s.met.length (s.met.flatMap encPort) := h.rows.own (rowP vm s.met) (by simp)
set_option maxHeartbeats 4000000 in
theorem zone_any (w : World) (b base : Nat) (F : Fix) (vg vz vh vm : Value) (s : Srch) (h : SrchAt w b base F vg vz vh vm s) (e : Int) (hl : s.r.zone.length ≤ 12) :
  Calls Try.prog 96 #[.pointer (some ⟨b, 0, none⟩), .int .i64 e] w (SrchPost w b base F [vg, vz, vh, vm] (s.put e) (.bool (s.puts e))) := by
 obtain ⟨az, cz, rfl, _, hcz⟩ := own_slice h.oz
 have HZ := Lib.hid h
 have hbl := h.bl
 have hlt := h.lt
 have hle := h.le
 have z15 : w.cell? ⟨b, 15, none⟩ = some (.slice az s.r.zone.length cz) := h.cell 15
 have z17 : w.cell? ⟨b, 17, none⟩ = some (.bool s.r.bare) := h.cell 17
 have f15 := h.frozen 15
 have f17 := h.frozen 17
 have HI := Lib.hid (refin_any w az s.r.zone.length cz s.r.zone (owns_row (sz := 1) (enc := encInt) (fun _ => rfl) h.oz (by decide)).1 e)
 clear h
 cases hm : memB e s.r.zone with
 | true =>
  have hme := memB_iff.1 hm
  have hp : s.put e = s := by unfold Srch.put; rw [if_pos hme]
  have hq : s.puts e = true := by unfold Srch.puts; simp [hme]
  rw [hm] at HI
  rw [hp, hq]
  clear hm hme hp hq
  go_enter Try.func96, Try.ntmps96
  go_wp2_with fail
  refine HI.out.mono ?_
  rintro en w1 ⟨rfl, rfl⟩
  go_wp2_with fail
  go_ret
  exact ⟨vg, _, vh, vm, rfl, HZ.out, NearR.refl _ _ _⟩
 | false =>
  have hme : e ∉ s.r.zone := fun hc => by rw [memB_iff.2 hc] at hm; cases hm
  rw [hm] at HI
  by_cases h12 : 12 ≤ s.r.zone.length
  ·have hp : s.put e = s.strip := by unfold Srch.put Srch.strip; rw [if_neg hme, if_pos h12]
   have hq : s.puts e = false := by unfold Srch.puts; simp [hme]; omega
   have d1 : decide ((12 : Int) ≤ (s.r.zone.length : Int)) = true := by simp; omega
   rw [hp, hq]
   have hbz := HZ.out.bare
   clear hm hme hp hq
   go_enter Try.func96, Try.ntmps96
   go_wp2_with fail
   refine HI.out.mono ?_
   rintro en w1 ⟨rfl, rfl⟩
   go_wp2_with fail
   go_ret
   exact ⟨vg, _, vh, vm, rfl, hbz.1, hbz.2⟩
  ·have hp : s.put e = { s with r := { s.r with zone := s.r.zone ++ [e] } } := by unfold Srch.put; rw [if_neg hme, if_neg h12]
   have hq : s.puts e = true := by unfold Srch.puts; simp; exact .inr (by omega)
   have d1 : decide ((12 : Int) ≤ (s.r.zone.length : Int)) = false := by simp; omega
   rw [hp, hq]
   clear hm hme hp hq
   go_enter Try.func96, Try.ntmps96
   go_wp2_with fail
   refine HI.out.mono ?_
   rintro en w1 ⟨rfl, rfl⟩
   go_wp2_with (at_builtin; refine wpList_appB (enc := encInt) (fun _ => rfl) encInt_oneC _ rfl _ _ 36 rfl base 3 (.int .i64 0) 8 Try.underlying36 info_intC rfl (by decide) _ _ s.r.zone rfl (HZ.out.oz.alloc _) (some ⟨w.heap.size, 0, none⟩) 1 1 [e] rfl (row_int1 (heap_alloc_new w _)) (by intro h; cases h) (by simp [maxLen]; omega) (by omega) (by simp; omega) ?_)
   intro v2 w2 ho2 hg2 hb2
   have hA := (HZ.out.below (below_new1 w (.cells #[.int .i64 e] 3))).zone (e := e) (by simpa using ho2) hg2 (by simpa using hb2)
   have h2b : w2.heap[b]? = w.heap[b]? := (hg2.block b (by simp; omega) (fun hc => by have := (HZ.out.oz.lt b hc.symm).1; omega)).trans (Below.heap_alloc w _ b hbl)
   have k15 : w2.cell? ⟨b, 15, none⟩ = some (.slice az s.r.zone.length cz) := (cell_of_same h2b 15).trans z15
   have kf : w2.frozen? ⟨b, 15, none⟩ = false := frozen_of_row w2 b 15 _ _ (h2b.trans HZ.out.box)
   have hbl2 : b < w2.heap.size := by have := hg2.size; simp at this; omega
   obtain ⟨a2, c2, rfl, _, _⟩ := own_slice ho2
   clear ho2 hg2 hb2 h2b z15 f15
   go_wp2_with fail
   go_ret
   exact ⟨vg, _, vh, vm, rfl, hA.1, (NearR.of_below (below_new1 w _)).trans hA.2⟩
end Go.Proofs.Ytnkpiijljfjmkaa

/- The search's surroundings in memory, and the walk of semaphoreref12's search.on. Condition: the search is in memory; come does what comeS says. -/
set_option maxRecDepth 1000000
namespace Go.Proofs.Ytnkpiijljfjmkaa
open Go.ChangeShapes Go.WideShapes Go.ChangeAt Go.RowKit Go.Sort

theorem Row.at_keep {α : Type} {sz : Nat} {enc : α → List Value} {w w' : World} {a : Option Addr} {n : Nat} {xs : List α} (h : Row sz enc w a n xs) (hk : ∀ k, k < w.heap.size → w'.heap[k]? = w.heap[k]?) : Row sz enc w' a n xs := h.kept fun b _ hb => hk b hb
theorem PlanAt.kept {w w' : World} {v : PV} {p : Plan} (h : PlanAt w v p) (hk : ∀ k, k < w.heap.size → w'.heap[k]? = w.heap[k]?) : PlanAt w' v p :=
 ⟨Row.at_keep h.e hk, Row.at_keep h.j hk, Row.at_keep h.s hk, ⟨Row.at_keep h.l.row hk, fun x hx => Row.at_keep (h.l.ints x hx) hk⟩, h.lp, h.fit⟩
/-- what lies about a search: the plan (older than b), the road's steps and needs (below base) -/
structure Ctx (b base : Nat) (F : Fix) (w0 : World) (steps : List Stp) (needs : List Need) (w : World) : Prop where
 old : PlanAt w0 F.pv F.p
 w0b : w0.heap.size ≤ b
 keep : ∀ k, k < w0.heap.size → w.heap[k]? = w0.heap[k]?
 bb : b < base
 ok : chk F.p = 0
 st : Stps w F.sa F.sn steps
 stb : ∀ k, F.sa.map (·.block) = some k → k < base ∧ k ≠ b
 sn : F.sn ≤ 100
 nd : Needs w F.na F.nn needs
 ndb : ∀ k, F.na.map (·.block) = some k → k < base ∧ k ≠ b
section
variable {b base : Nat} {F : Fix} {w0 w w' : World} {steps : List Stp} {needs : List Need}
theorem Ctx.near (h : Ctx b base F w0 steps needs w) (hn : Near b base w w') : Ctx b base F w0 steps needs w' :=
 ⟨h.old, h.w0b, fun k hk => by have := h.w0b; have := h.bb; exact (hn.block k (by omega) (by omega)).trans (h.keep k hk), h.bb, h.ok, h.st.kept fun k hk _ => hn.block k (h.stb k hk).1 (h.stb k hk).2, h.stb, h.sn, h.nd.kept fun k hk _ => hn.block k (h.ndb k hk).1 (h.ndb k hk).2, h.ndb⟩
theorem Ctx.below (h : Ctx b base F w0 steps needs w) (hn : Below w.heap.size w w') (hb : base ≤ w.heap.size) : Ctx b base F w0 steps needs w' := h.near ((NearR.of_below (l := []) hn).near (fun v hv => by cases hv) hb)
theorem Ctx.plan (h : Ctx b base F w0 steps needs w) : PlanAt w F.pv F.p := h.old.kept h.keep
end
/-- the call of come does what comeS says, with f steps to go -/
def ComeOk (F : Fix) (f : Nat) : Prop := ∀ (w w0 : World) (b base : Nat) (vg vz vh vm : Value) (s : Srch) (y : Port), Ctx b base F w0 s.r.steps s.r.needs w → SrchAt w b base F vg vz vh vm s → SOk F.p s → isPort F.p y = true → unmet F.p s.met ≤ f →
 Calls Try.prog 85 #[.pointer (some ⟨b, 0, none⟩), .agg #[.int .i64 y.e, .int .i64 y.n]] w (SrchPost w b base F [vg, vz, vh, vm] (comeS F.p f s y) (.tuple #[]))
theorem next_isPort {p : Plan} (hc : chk p = 0) {x y : Port} (h : nextOf p x = some y) : isPort p y = true := (good_of hc).ports h |>.2
set_option maxHeartbeats 4000000 in
theorem son_any (F : Fix) (f : Nat) (H : ComeOk F f) (w w0 : World) (b base : Nat) (vg vz vh vm : Value) (s : Srch) (hx : Ctx b base F w0 s.r.steps s.r.needs w) (hs : SrchAt w b base F vg vz vh vm s) (ho : SOk F.p s) (hf : unmet F.p s.met ≤ f) (e n : Int) :
  Calls Try.prog 57 #[.pointer (some ⟨b, 0, none⟩), .int .i64 e, .int .i64 n] w (SrchPost w b base F [vg, vz, vh, vm] (goS F.p (comeS F.p f) s e n) (.tuple #[])) := by
 have Hx := Lib.hid hx
 have Hs := Lib.hid hs
 have Ho := Lib.hid ho
 have Hf := Lib.hid hf
 have HH := Lib.hid H
 have hbl := hs.bl
 have hle := hs.le
 obtain ⟨⟨ae, ne, ce, aj, nj, cj, as_, ns, cs, al, nl, cl, lv⟩, p, sa, sn, sc, na, nn, nc⟩ := F
 have c0 : w.cell? ⟨b, 0, none⟩ = some (.slice ae ne ce) := hs.cell 0
 have c1 : w.cell? ⟨b, 1, none⟩ = some (.slice aj nj cj) := hs.cell 1
 have c2 : w.cell? ⟨b, 2, none⟩ = some (.slice as_ ns cs) := hs.cell 2
 have c3 : w.cell? ⟨b, 3, none⟩ = some (.slice al nl cl) := hs.cell 3
 have c4 : w.cell? ⟨b, 4, none⟩ = some (.int .i64 p.top) := hs.cell 4
 have c5 : w.cell? ⟨b, 5, none⟩ = some (.int .i64 p.brake) := hs.cell 5
 have c6 : w.cell? ⟨b, 6, none⟩ = some (.int .i64 p.margin) := hs.cell 6
 have c7 : w.cell? ⟨b, 7, none⟩ = some (.int .i64 p.throw) := hs.cell 7
 have c8 : w.cell? ⟨b, 8, none⟩ = some (.bool p.hard) := hs.cell 8
 have HN := Lib.hid (refnext_l (w := w) (a := e) (b := n) hx.plan)
 have Hck := Lib.hid hx.ok
 clear hx hs ho hf H
 cases hnx : nextOf p ⟨e, n⟩ with
 | none =>
  have hg : goS p (comeS p f) s e n = s := by unfold goS; rw [hnx]
  rw [hnx] at HN
  dsimp only [Option.getD_none, Option.isSome_none, zeroPort] at HN ⊢
  rw [hg]
  clear hnx hg
  go_enter Try.func57, Try.ntmps57
  go_wp2_with fail
  refine HN.out.mono ?_
  rintro en w1 ⟨rfl, hb1⟩
  have Hb1 := Lib.hid (hb1.alloc hb1.size (.cells #[.int .i64 0, .int .i64 0] 86))
  clear hb1 c0 c1 c2 c3 c4 c5 c6 c7 c8
  go_wp2_with fail
  try rw [Exit.noGoto_ret]
  refine bodyPost_ret (v := .tuple #[]) (by simp [results, Try.results57, go_sem]) rfl ?_
  exact ⟨vg, vz, vh, vm, rfl, Hs.out.below Hb1.out, NearR.of_below Hb1.out⟩
 | some y =>
  have hg : goS p (comeS p f) s e n = comeS p f s y := by unfold goS; rw [hnx]
  have hyp := next_isPort Hck.out hnx
  rw [hnx] at HN
  dsimp only [Option.getD_some, Option.isSome_some] at HN ⊢
  rw [hg]
  clear hnx hg
  go_enter Try.func57, Try.ntmps57
  go_wp2_with fail
  refine HN.out.mono ?_
  rintro en w1 ⟨rfl, hb1⟩
  have Hb1 := Lib.hid (hb1.alloc hb1.size (.cells #[.int .i64 y.e, .int .i64 y.n] 86))
  have HC := Lib.hid (HH.out _ w0 b base vg vz vh vm s y (Hx.out.below Hb1.out hle) (Hs.out.below Hb1.out) Ho.out hyp Hf.out)
  clear hb1 c0 c1 c2 c3 c4 c5 c6 c7 c8 HN
  go_wp2_with fail
  refine HC.out.mono ?_
  rintro en w2 ⟨vg2, vz2, vh2, vm2, rfl, hS2, hN2⟩
  go_wp2_with fail
  try rw [Exit.noGoto_ret]
  refine bodyPost_ret (v := .tuple #[]) (by simp [results, Try.results57, go_sem]) rfl ?_
  exact ⟨vg2, vz2, vh2, vm2, rfl, hS2, (NearR.of_below Hb1.out).trans hN2⟩
end Go.Proofs.Ytnkpiijljfjmkaa
