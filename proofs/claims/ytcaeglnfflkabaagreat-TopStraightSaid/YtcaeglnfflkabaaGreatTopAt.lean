/- Roads in memory: how a road's value and a row of roads read. No condition. -/
import Derived.Test.YtcaeglnfflkabaaGreatTopDef
import Derived.Test.YtcaeglnfflkabaaGreatPlanRow
import Derived.Test.YtcaeglnfflkabaaGreatCopy
namespace Go.Proofs.YtcaeglnfflkabaaGreat
open Go.RowKit

def encStp (x : Stp) : List Value := [.int .i64 x.e, .int .i64 x.i, .int .i64 x.o]
def encNeed (x : Need) : List Value := [.int .i64 x.e, .int .i64 x.pos]
abbrev Stps (w : World) (a : Option Addr) (n : Nat) (xs : List Stp) : Prop := Row 3 encStp w a n xs
abbrev Needs (w : World) (a : Option Addr) (n : Nat) (xs : List Need) : Prop := Row 2 encNeed w a n xs
theorem Row.stp {w : World} {a : Option Addr} {n : Nat} {xs : List Stp} (h : Row 3 encStp w a n xs) {i : Nat} {x : Stp} (hx : xs[i]? = some x) :
    ∃ b off, a = some ⟨b, off, none⟩ ∧ b < w.heap.size ∧ w.cell? ⟨b, off + i * 3, none⟩ = some (.int .i64 x.e) ∧ w.cell? ⟨b, off + i * 3 + 1, none⟩ = some (.int .i64 x.i) ∧ w.cell? ⟨b, off + i * 3 + 2, none⟩ = some (.int .i64 x.o) := by
  obtain ⟨b, off, ha, hb, hc⟩ := h.at_ i x hx
  exact ⟨b, off, ha, hb, by simpa using hc 0 _ rfl, by simpa using hc 1 _ rfl, by simpa using hc 2 _ rfl⟩
theorem Row.need {w : World} {a : Option Addr} {n : Nat} {xs : List Need} (h : Row 2 encNeed w a n xs) {i : Nat} {x : Need} (hx : xs[i]? = some x) :
    ∃ b off, a = some ⟨b, off, none⟩ ∧ b < w.heap.size ∧ w.cell? ⟨b, off + i * 2, none⟩ = some (.int .i64 x.e) ∧ w.cell? ⟨b, off + i * 2 + 1, none⟩ = some (.int .i64 x.pos) := by
  obtain ⟨b, off, ha, hb, hc⟩ := h.at_ i x hx
  exact ⟨b, off, ha, hb, by simpa using hc 0 _ rfl, by simpa using hc 1 _ rfl⟩
theorem cell_of_same {w w' : World} {b : Nat} (h : w'.heap[b]? = w.heap[b]?) (o : Nat) : w'.cell? ⟨b, o, none⟩ = w.cell? ⟨b, o, none⟩ := by simp [World.cell?, h]
/-- a row whose block is the same -/
theorem Row.kept {α : Type} {sz : Nat} {enc : α → List Value} {w w' : World} {a : Option Addr} {n : Nat} {xs : List α} (h : Row sz enc w a n xs) (hk : ∀ b, a.map (·.block) = some b → b < w.heap.size → w'.heap[b]? = w.heap[b]?) : Row sz enc w' a n xs := by
  refine ⟨h.len, h.bnd, fun i x hx => ?_⟩
  obtain ⟨b, off, ha, hlt, hc⟩ := h.at_ i x hx
  have hb := hk b (by rw [ha]; rfl) hlt
  have hlt' : b < w'.heap.size := by
    have h1 : w.heap[b]? = some w.heap[b] := Array.getElem?_eq_getElem hlt
    rw [h1] at hb
    exact (Array.getElem?_eq_some_iff.1 hb).1
  exact ⟨b, off, ha, hlt', fun j v hv => (cell_of_same hb _).trans (hc j v hv)⟩

/-- the cells of a block -/
theorem nine_of {w : World} {b : Nat} {T : TypeId} {v0 v1 v2 v3 v4 v5 v6 v7 v8 : Value} (h : w.heap[b]? = some (.cells #[v0, v1, v2, v3, v4, v5, v6, v7, v8] T)) : w.cell? ⟨b, 0, none⟩ = some v0 ∧ w.cell? ⟨b, 1, none⟩ = some v1 ∧ w.cell? ⟨b, 2, none⟩ = some v2 ∧ w.cell? ⟨b, 3, none⟩ = some v3 ∧ w.cell? ⟨b, 4, none⟩ = some v4 ∧ w.cell? ⟨b, 5, none⟩ = some v5 ∧ w.cell? ⟨b, 6, none⟩ = some v6 ∧ w.cell? ⟨b, 7, none⟩ = some v7 ∧ w.cell? ⟨b, 8, none⟩ = some v8 :=
  ⟨cell_of_row w b 0 _ _ (0, 0) h, cell_of_row w b 1 _ _ (0, 0) h, cell_of_row w b 2 _ _ (0, 0) h, cell_of_row w b 3 _ _ (0, 0) h, cell_of_row w b 4 _ _ (0, 0) h, cell_of_row w b 5 _ _ (0, 0) h, cell_of_row w b 6 _ _ (0, 0) h, cell_of_row w b 7 _ _ (0, 0) h, cell_of_row w b 8 _ _ (0, 0) h⟩
theorem ten_of {w : World} {b : Nat} {T : TypeId} {v0 v1 v2 v3 v4 v5 v6 v7 v8 v9 : Value} (h : w.heap[b]? = some (.cells #[v0, v1, v2, v3, v4, v5, v6, v7, v8, v9] T)) : w.cell? ⟨b, 0, none⟩ = some v0 ∧ w.cell? ⟨b, 1, none⟩ = some v1 ∧ w.cell? ⟨b, 2, none⟩ = some v2 ∧ w.cell? ⟨b, 3, none⟩ = some v3 ∧ w.cell? ⟨b, 4, none⟩ = some v4 ∧ w.cell? ⟨b, 5, none⟩ = some v5 ∧ w.cell? ⟨b, 6, none⟩ = some v6 ∧ w.cell? ⟨b, 7, none⟩ = some v7 ∧ w.cell? ⟨b, 8, none⟩ = some v8 ∧ w.cell? ⟨b, 9, none⟩ = some v9 :=
  ⟨cell_of_row w b 0 _ _ (0, 0) h, cell_of_row w b 1 _ _ (0, 0) h, cell_of_row w b 2 _ _ (0, 0) h, cell_of_row w b 3 _ _ (0, 0) h, cell_of_row w b 4 _ _ (0, 0) h, cell_of_row w b 5 _ _ (0, 0) h, cell_of_row w b 6 _ _ (0, 0) h, cell_of_row w b 7 _ _ (0, 0) h, cell_of_row w b 8 _ _ (0, 0) h, cell_of_row w b 9 _ _ (0, 0) h⟩
/-- the slices of a road's value -/
structure RV where
  sa : Option Addr
  sn : Nat
  sc : Nat
  na : Option Addr
  nn : Nat
  nc : Nat
  ga : Option Addr
  gn : Nat
  gc : Nat
  za : Option Addr
  zn : Nat
  zc : Nat
  ha : Option Addr
  hn : Nat
  hc : Nat
def RV.cells (v : RV) (r : Road) : Array Value := #[.int .i64 r.frm, .int .i64 r.to, .int .i64 r.fin, .slice v.sa v.sn v.sc, .slice v.na v.nn v.nc, .slice v.ga v.gn v.gc, .slice v.za v.zn v.zc, .slice v.ha v.hn v.hc, .bool r.bare]
def RV.val (v : RV) (r : Road) : Value := .agg #[.int .i64 r.frm, .int .i64 r.to, .int .i64 r.fin, .slice v.sa v.sn v.sc, .slice v.na v.nn v.nc, .slice v.ga v.gn v.gc, .slice v.za v.zn v.zc, .slice v.ha v.hn v.hc, .bool r.bare]
def RV.addrs (v : RV) : List (Option Addr) := [v.sa, v.na, v.ga, v.za, v.ha]
/-- the capacities are 0 where nothing lies -/
structure RoadFit (v : RV) : Prop where
  sc : v.sa = none → v.sc = 0
  nc : v.na = none → v.nc = 0
  gc : v.ga = none → v.gc = 0
  zc : v.za = none → v.zc = 0
  hc : v.ha = none → v.hc = 0
structure RoadAt (w : World) (v : RV) (r : Road) : Prop where
  s : Stps w v.sa v.sn r.steps
  n : Needs w v.na v.nn r.needs
  g : Needs w v.ga v.gn r.guards
  z : Ints w v.za v.zn r.zone
  h : Ints w v.ha v.hn r.holds
  fit : RoadFit v
theorem RoadAt.below {w w' : World} {v : RV} {r : Road} (h : RoadAt w v r) (hb : Below w.heap.size w w') : RoadAt w' v r :=
  ⟨h.s.below hb, h.n.below hb, h.g.below hb, h.z.below hb, h.h.below hb, h.fit⟩
theorem RoadAt.kept {w w' : World} {v : RV} {r : Road} (h : RoadAt w v r) (hk : ∀ a ∈ v.addrs, ∀ b, a.map (·.block) = some b → b < w.heap.size → w'.heap[b]? = w.heap[b]?) : RoadAt w' v r :=
  ⟨h.s.kept (hk _ (by simp [RV.addrs])), h.n.kept (hk _ (by simp [RV.addrs])), h.g.kept (hk _ (by simp [RV.addrs])), h.z.kept (hk _ (by simp [RV.addrs])), h.h.kept (hk _ (by simp [RV.addrs])), h.fit⟩

/-- a road with its slices -/
structure RoadV where
  v : RV
  r : Road
def encRoad (x : RoadV) : List Value := [.int .i64 x.r.frm, .int .i64 x.r.to, .int .i64 x.r.fin, .slice x.v.sa x.v.sn x.v.sc, .slice x.v.na x.v.nn x.v.nc, .slice x.v.ga x.v.gn x.v.gc, .slice x.v.za x.v.zn x.v.zc, .slice x.v.ha x.v.hn x.v.hc, .bool x.r.bare]
theorem encRoad_len (x : RoadV) : (encRoad x).length = 9 := rfl
theorem encRoad_one (x : RoadV) : ∀ u ∈ encRoad x, u.oneCell' = true := by
  intro u hu
  simp only [encRoad, List.mem_cons, List.not_mem_nil, or_false] at hu
  rcases hu with rfl | rfl | rfl | rfl | rfl | rfl | rfl | rfl | rfl <;> rfl
theorem encStp_one (x : Stp) : ∀ u ∈ encStp x, u.oneCell' = true := by
  intro u hu
  simp only [encStp, List.mem_cons, List.not_mem_nil, or_false] at hu
  rcases hu with rfl | rfl | rfl <;> rfl
structure Roads (w : World) (a : Option Addr) (n : Nat) (xs : List RoadV) : Prop where
  row : Row 9 encRoad w a n xs
  each : ∀ x ∈ xs, RoadAt w x.v x.r
theorem Roads.below {w w' : World} {a : Option Addr} {n : Nat} {xs : List RoadV} (h : Roads w a n xs) (hb : Below w.heap.size w w') : Roads w' a n xs :=
  ⟨h.row.below hb, fun x hx => (h.each x hx).below hb⟩
theorem Row.road {w : World} {a : Option Addr} {n : Nat} {xs : List RoadV} (h : Row 9 encRoad w a n xs) {i : Nat} {x : RoadV} (hx : xs[i]? = some x) :
    ∃ b off, a = some ⟨b, off, none⟩ ∧ b < w.heap.size ∧ ∀ k v, (encRoad x)[k]? = some v → w.cell? ⟨b, off + i * 9 + k, none⟩ = some v := h.at_ i x hx

/-- Block b of w holds a road. -/
structure RBox (w : World) (b : Nat) (v : RV) (r : Road) : Prop where
  lt : b < w.heap.size
  c0 : w.cell? ⟨b, 0, none⟩ = some (.int .i64 r.frm)
  c1 : w.cell? ⟨b, 1, none⟩ = some (.int .i64 r.to)
  c2 : w.cell? ⟨b, 2, none⟩ = some (.int .i64 r.fin)
  c3 : w.cell? ⟨b, 3, none⟩ = some (.slice v.sa v.sn v.sc)
  c4 : w.cell? ⟨b, 4, none⟩ = some (.slice v.na v.nn v.nc)
  c5 : w.cell? ⟨b, 5, none⟩ = some (.slice v.ga v.gn v.gc)
  c6 : w.cell? ⟨b, 6, none⟩ = some (.slice v.za v.zn v.zc)
  c7 : w.cell? ⟨b, 7, none⟩ = some (.slice v.ha v.hn v.hc)
  c8 : w.cell? ⟨b, 8, none⟩ = some (.bool r.bare)
theorem RBox.below {w w' : World} {b : Nat} {v : RV} {r : Road} (h : RBox w b v r) (hb : Below w.heap.size w w') : RBox w' b v r := by
  have key : ∀ o, w'.cell? ⟨b, o, none⟩ = w.cell? ⟨b, o, none⟩ := fun o => hb.cell (p := ⟨b, o, none⟩) h.lt
  exact ⟨Nat.lt_of_lt_of_le h.lt hb.size, (key _).trans h.c0, (key _).trans h.c1, (key _).trans h.c2, (key _).trans h.c3, (key _).trans h.c4, (key _).trans h.c5, (key _).trans h.c6, (key _).trans h.c7, (key _).trans h.c8⟩
theorem RBox.mk' (w : World) (v : RV) (r : Road) (T : TypeId) : RBox (w.alloc (.cells (v.cells r) T)) w.heap.size v r := by
  unfold RV.cells
  refine ⟨by simp, ?_, ?_, ?_, ?_, ?_, ?_, ?_, ?_, ?_⟩ <;> go_simp

/-- A row of roads that the call itself owns; what its roads hold lies elsewhere, and above base. -/
structure OwnR (w : World) (base : Nat) (v : Value) (xs : List RoadV) : Prop where
  own : w.ownsRow base 74 9 v xs.length (xs.flatMap encRoad)
  each : ∀ x ∈ xs, RoadAt w x.v x.r
  off : ∀ x ∈ xs, ∀ a ∈ x.v.addrs, ∀ b, a.map (·.block) = some b → base ≤ b ∧ b < w.heap.size ∧ v.ownBlock ≠ some b
theorem OwnR.below {w w' : World} {base : Nat} {v : Value} {xs : List RoadV} (h : OwnR w base v xs) (hb : Below w.heap.size w w') : OwnR w' base v xs :=
  ⟨owns_below h.own hb, fun x hx => (h.each x hx).below hb, fun x hx a ha b e => by have h1 := h.off x hx a ha b e; exact ⟨h1.1, Nat.lt_of_lt_of_le h1.2.1 hb.size, h1.2.2⟩⟩
theorem OwnR.nil (w : World) (base : Nat) : OwnR w base (.slice none 0 0) [] := ⟨World.ownsRow_nil _ _ _ _, by simp, by simp⟩
theorem OwnR.base {w : World} {base base' : Nat} {v : Value} {xs : List RoadV} (h : OwnR w base v xs) (hb : base' ≤ base) : OwnR w base' v xs :=
  ⟨owns_base h.own hb, h.each, fun x hx a ha b e => by have h1 := h.off x hx a ha b e; exact ⟨Nat.le_trans hb h1.1, h1.2⟩⟩
theorem OwnR.roads {w : World} {base : Nat} {a : Option Addr} {n c : Nat} {xs : List RoadV} (h : OwnR w base (.slice a n c) xs) : Roads w a n xs ∧ xs.length = n := by
  have h1 := owns_row (sz := 9) (enc := encRoad) encRoad_len h.own (by omega)
  exact ⟨⟨h1.1, h.each⟩, h1.2⟩
/-- an append of roads that lie in memory younger than the row -/
theorem OwnR.app {w w' : World} {base n : Nat} {v v' : Value} {xs ys : List RoadV} (h : OwnR w base v xs) (hy : ∀ y ∈ ys, RoadAt w y.v y.r ∧ ∀ a ∈ y.v.addrs, ∀ b, a.map (·.block) = some b → base ≤ b ∧ b < w.heap.size ∧ v.ownBlock ≠ some b)
    (hn : n = (xs ++ ys).length) (ho : w'.ownsRow base 74 9 v' n ((xs ++ ys).flatMap encRoad)) (hg : w.grownBy w' v.ownBlock) (hb : v'.ownBlock = v.ownBlock ∨ v'.ownBlock = some w.heap.size) : OwnR w' base v' (xs ++ ys) := by
  subst hn
  have key : ∀ y ∈ xs ++ ys, RoadAt w y.v y.r ∧ ∀ a ∈ y.v.addrs, ∀ b, a.map (·.block) = some b → base ≤ b ∧ b < w.heap.size ∧ v.ownBlock ≠ some b := by
    intro y hm
    rcases List.mem_append.1 hm with hm | hm
    · exact ⟨h.each y hm, h.off y hm⟩
    · exact hy y hm
  refine ⟨ho, fun y hm => (key y hm).1.kept fun a ha b e hlt => hg.block b hlt (fun hc => ((key y hm).2 a ha b e).2.2 hc.symm), fun y hm a ha b e => ?_⟩
  obtain ⟨h1, h2, h3⟩ := (key y hm).2 a ha b e
  refine ⟨h1, Nat.lt_of_lt_of_le h2 hg.size, ?_⟩
  rcases hb with hb | hb
  · rw [hb]; exact h3
  · rw [hb]; intro hc; cases hc; exact absurd h2 (Nat.lt_irrefl _)
end Go.Proofs.YtcaeglnfflkabaaGreat
