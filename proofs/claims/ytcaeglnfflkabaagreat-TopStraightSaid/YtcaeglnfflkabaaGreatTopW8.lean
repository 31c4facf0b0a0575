/- Walk of chart.Build. Condition: the plan is read; it is one that may be, and has no points and no crossings. -/
import Derived.Test.YtcaeglnfflkabaaGreatTopW7
import Derived.Test.YtcaeglnfflkabaaGreatNetW3
set_option maxRecDepth 1000000
namespace Go.Proofs.YtcaeglnfflkabaaGreat
open Go.ChangeShapes Go.WideShapes Go.ChangeAt Go.RowKit Go.Sort

theorem grown_refl (w : World) (b : Nat) : w.grownBy w (some b) := ⟨rfl, rfl, rfl, Nat.le_refl _, fun _ _ _ => rfl⟩
theorem grown_set {w w' : World} {b : Nat} (h : w.grownBy w' (some b)) (o : Nat) (v : Value) : w.grownBy (w'.setCell ⟨b, o, none⟩ v) (some b) :=
  ⟨h.os, h.tape, h.output, by have := h.size; simpa [World.setCell] using this, fun k hk hn => (Below.heap_setCell w' ⟨b, o, none⟩ v k (fun e => hn (by rw [e]))).trans (h.block k hk hn)⟩
theorem own_blocks {w : World} {base B n m c size : Nat} {e : TypeId} {a : Option Addr} {xs : List Value} (h : w.ownsRow base e size (.slice a n c) m xs) (hb : B ≤ base) : ∀ k, a.map (·.block) = some k → B ≤ k ∧ k < w.heap.size := by
  intro k hk
  cases a with
  | none => cases hk
  | some d =>
    have h1 : d.block = k := by simpa using hk
    have := h.lt d.block rfl
    omega
theorem own_put9 {w : World} {base g n cap : Nat} {xs : List RoadV} (h : w.ownsRow base 74 9 (.slice (some ⟨g, 0, none⟩) n cap) n (xs.flatMap encRoad)) {i : Nat} {x : RoadV} (hx : xs[i]? = some x) (y : RoadV) :
    (((((((((w.setCell ⟨g, i * 9, none⟩ (.int .i64 y.r.frm)).setCell ⟨g, i * 9 + 1, none⟩ (.int .i64 y.r.to)).setCell ⟨g, i * 9 + 2, none⟩ (.int .i64 y.r.fin)).setCell ⟨g, i * 9 + 3, none⟩ (.slice y.v.sa y.v.sn y.v.sc)).setCell ⟨g, i * 9 + 4, none⟩ (.slice y.v.na y.v.nn y.v.nc)).setCell ⟨g, i * 9 + 5, none⟩ (.slice y.v.ga y.v.gn y.v.gc)).setCell ⟨g, i * 9 + 6, none⟩ (.slice y.v.za y.v.zn y.v.zc)).setCell ⟨g, i * 9 + 7, none⟩ (.slice y.v.ha y.v.hn y.v.hc)).setCell ⟨g, i * 9 + 8, none⟩ (.bool y.r.bare)).ownsRow base 74 9 (.slice (some ⟨g, 0, none⟩) n cap) n ((xs.set i y).flatMap encRoad) ∧ w.grownBy (((((((((w.setCell ⟨g, i * 9, none⟩ (.int .i64 y.r.frm)).setCell ⟨g, i * 9 + 1, none⟩ (.int .i64 y.r.to)).setCell ⟨g, i * 9 + 2, none⟩ (.int .i64 y.r.fin)).setCell ⟨g, i * 9 + 3, none⟩ (.slice y.v.sa y.v.sn y.v.sc)).setCell ⟨g, i * 9 + 4, none⟩ (.slice y.v.na y.v.nn y.v.nc)).setCell ⟨g, i * 9 + 5, none⟩ (.slice y.v.ga y.v.gn y.v.gc)).setCell ⟨g, i * 9 + 6, none⟩ (.slice y.v.za y.v.zn y.v.zc)).setCell ⟨g, i * 9 + 7, none⟩ (.slice y.v.ha y.v.hn y.v.hc)).setCell ⟨g, i * 9 + 8, none⟩ (.bool y.r.bare)) (some g) := by
  have hl : i < xs.length := (List.getElem?_eq_some_iff.1 hx).1
  have hs : ∀ (z' : RoadV), (xs.set i z')[i]? = some z' := fun z' => List.getElem?_set_self hl
  have h0 := (own_put encRoad_len h (i := i) (k := 0) (x := x) hx (by decide) (x' := ⟨⟨x.v.sa, x.v.sn, x.v.sc, x.v.na, x.v.nn, x.v.nc, x.v.ga, x.v.gn, x.v.gc, x.v.za, x.v.zn, x.v.zc, x.v.ha, x.v.hn, x.v.hc⟩, ⟨y.r.frm, x.r.to, x.r.fin, x.r.steps, x.r.needs, x.r.guards, x.r.zone, x.r.holds, x.r.bare⟩⟩) (u := .int .i64 y.r.frm) rfl).1
  have h1 := (own_put encRoad_len h0 (i := i) (k := 1) (x := ⟨⟨x.v.sa, x.v.sn, x.v.sc, x.v.na, x.v.nn, x.v.nc, x.v.ga, x.v.gn, x.v.gc, x.v.za, x.v.zn, x.v.zc, x.v.ha, x.v.hn, x.v.hc⟩, ⟨y.r.frm, x.r.to, x.r.fin, x.r.steps, x.r.needs, x.r.guards, x.r.zone, x.r.holds, x.r.bare⟩⟩) (hs _) (by decide) (x' := ⟨⟨x.v.sa, x.v.sn, x.v.sc, x.v.na, x.v.nn, x.v.nc, x.v.ga, x.v.gn, x.v.gc, x.v.za, x.v.zn, x.v.zc, x.v.ha, x.v.hn, x.v.hc⟩, ⟨y.r.frm, y.r.to, x.r.fin, x.r.steps, x.r.needs, x.r.guards, x.r.zone, x.r.holds, x.r.bare⟩⟩) (u := .int .i64 y.r.to) rfl).1
  rw [List.set_set] at h1
  have h2 := (own_put encRoad_len h1 (i := i) (k := 2) (x := ⟨⟨x.v.sa, x.v.sn, x.v.sc, x.v.na, x.v.nn, x.v.nc, x.v.ga, x.v.gn, x.v.gc, x.v.za, x.v.zn, x.v.zc, x.v.ha, x.v.hn, x.v.hc⟩, ⟨y.r.frm, y.r.to, x.r.fin, x.r.steps, x.r.needs, x.r.guards, x.r.zone, x.r.holds, x.r.bare⟩⟩) (hs _) (by decide) (x' := ⟨⟨x.v.sa, x.v.sn, x.v.sc, x.v.na, x.v.nn, x.v.nc, x.v.ga, x.v.gn, x.v.gc, x.v.za, x.v.zn, x.v.zc, x.v.ha, x.v.hn, x.v.hc⟩, ⟨y.r.frm, y.r.to, y.r.fin, x.r.steps, x.r.needs, x.r.guards, x.r.zone, x.r.holds, x.r.bare⟩⟩) (u := .int .i64 y.r.fin) rfl).1
  rw [List.set_set] at h2
  have h3 := (own_put encRoad_len h2 (i := i) (k := 3) (x := ⟨⟨x.v.sa, x.v.sn, x.v.sc, x.v.na, x.v.nn, x.v.nc, x.v.ga, x.v.gn, x.v.gc, x.v.za, x.v.zn, x.v.zc, x.v.ha, x.v.hn, x.v.hc⟩, ⟨y.r.frm, y.r.to, y.r.fin, x.r.steps, x.r.needs, x.r.guards, x.r.zone, x.r.holds, x.r.bare⟩⟩) (hs _) (by decide) (x' := ⟨⟨y.v.sa, y.v.sn, y.v.sc, x.v.na, x.v.nn, x.v.nc, x.v.ga, x.v.gn, x.v.gc, x.v.za, x.v.zn, x.v.zc, x.v.ha, x.v.hn, x.v.hc⟩, ⟨y.r.frm, y.r.to, y.r.fin, x.r.steps, x.r.needs, x.r.guards, x.r.zone, x.r.holds, x.r.bare⟩⟩) (u := .slice y.v.sa y.v.sn y.v.sc) rfl).1
  rw [List.set_set] at h3
  have h4 := (own_put encRoad_len h3 (i := i) (k := 4) (x := ⟨⟨y.v.sa, y.v.sn, y.v.sc, x.v.na, x.v.nn, x.v.nc, x.v.ga, x.v.gn, x.v.gc, x.v.za, x.v.zn, x.v.zc, x.v.ha, x.v.hn, x.v.hc⟩, ⟨y.r.frm, y.r.to, y.r.fin, x.r.steps, x.r.needs, x.r.guards, x.r.zone, x.r.holds, x.r.bare⟩⟩) (hs _) (by decide) (x' := ⟨⟨y.v.sa, y.v.sn, y.v.sc, y.v.na, y.v.nn, y.v.nc, x.v.ga, x.v.gn, x.v.gc, x.v.za, x.v.zn, x.v.zc, x.v.ha, x.v.hn, x.v.hc⟩, ⟨y.r.frm, y.r.to, y.r.fin, x.r.steps, x.r.needs, x.r.guards, x.r.zone, x.r.holds, x.r.bare⟩⟩) (u := .slice y.v.na y.v.nn y.v.nc) rfl).1
  rw [List.set_set] at h4
  have h5 := (own_put encRoad_len h4 (i := i) (k := 5) (x := ⟨⟨y.v.sa, y.v.sn, y.v.sc, y.v.na, y.v.nn, y.v.nc, x.v.ga, x.v.gn, x.v.gc, x.v.za, x.v.zn, x.v.zc, x.v.ha, x.v.hn, x.v.hc⟩, ⟨y.r.frm, y.r.to, y.r.fin, x.r.steps, x.r.needs, x.r.guards, x.r.zone, x.r.holds, x.r.bare⟩⟩) (hs _) (by decide) (x' := ⟨⟨y.v.sa, y.v.sn, y.v.sc, y.v.na, y.v.nn, y.v.nc, y.v.ga, y.v.gn, y.v.gc, x.v.za, x.v.zn, x.v.zc, x.v.ha, x.v.hn, x.v.hc⟩, ⟨y.r.frm, y.r.to, y.r.fin, x.r.steps, x.r.needs, x.r.guards, x.r.zone, x.r.holds, x.r.bare⟩⟩) (u := .slice y.v.ga y.v.gn y.v.gc) rfl).1
  rw [List.set_set] at h5
  have h6 := (own_put encRoad_len h5 (i := i) (k := 6) (x := ⟨⟨y.v.sa, y.v.sn, y.v.sc, y.v.na, y.v.nn, y.v.nc, y.v.ga, y.v.gn, y.v.gc, x.v.za, x.v.zn, x.v.zc, x.v.ha, x.v.hn, x.v.hc⟩, ⟨y.r.frm, y.r.to, y.r.fin, x.r.steps, x.r.needs, x.r.guards, x.r.zone, x.r.holds, x.r.bare⟩⟩) (hs _) (by decide) (x' := ⟨⟨y.v.sa, y.v.sn, y.v.sc, y.v.na, y.v.nn, y.v.nc, y.v.ga, y.v.gn, y.v.gc, y.v.za, y.v.zn, y.v.zc, x.v.ha, x.v.hn, x.v.hc⟩, ⟨y.r.frm, y.r.to, y.r.fin, x.r.steps, x.r.needs, x.r.guards, x.r.zone, x.r.holds, x.r.bare⟩⟩) (u := .slice y.v.za y.v.zn y.v.zc) rfl).1
  rw [List.set_set] at h6
  have h7 := (own_put encRoad_len h6 (i := i) (k := 7) (x := ⟨⟨y.v.sa, y.v.sn, y.v.sc, y.v.na, y.v.nn, y.v.nc, y.v.ga, y.v.gn, y.v.gc, y.v.za, y.v.zn, y.v.zc, x.v.ha, x.v.hn, x.v.hc⟩, ⟨y.r.frm, y.r.to, y.r.fin, x.r.steps, x.r.needs, x.r.guards, x.r.zone, x.r.holds, x.r.bare⟩⟩) (hs _) (by decide) (x' := ⟨⟨y.v.sa, y.v.sn, y.v.sc, y.v.na, y.v.nn, y.v.nc, y.v.ga, y.v.gn, y.v.gc, y.v.za, y.v.zn, y.v.zc, y.v.ha, y.v.hn, y.v.hc⟩, ⟨y.r.frm, y.r.to, y.r.fin, x.r.steps, x.r.needs, x.r.guards, x.r.zone, x.r.holds, x.r.bare⟩⟩) (u := .slice y.v.ha y.v.hn y.v.hc) rfl).1
  rw [List.set_set] at h7
  have h8 := (own_put encRoad_len h7 (i := i) (k := 8) (x := ⟨⟨y.v.sa, y.v.sn, y.v.sc, y.v.na, y.v.nn, y.v.nc, y.v.ga, y.v.gn, y.v.gc, y.v.za, y.v.zn, y.v.zc, y.v.ha, y.v.hn, y.v.hc⟩, ⟨y.r.frm, y.r.to, y.r.fin, x.r.steps, x.r.needs, x.r.guards, x.r.zone, x.r.holds, x.r.bare⟩⟩) (hs _) (by decide) (x' := y) (u := .bool y.r.bare) rfl).1
  rw [List.set_set] at h8
  exact ⟨h8, grown_set (grown_set (grown_set (grown_set (grown_set (grown_set (grown_set (grown_set (grown_set (grown_refl w g) _ _) _ _) _ _) _ _) _ _) _ _) _ _) _ _) _ _⟩
theorem OwnR.put {w : World} {base g n cap : Nat} {xs : List RoadV} (h : OwnR w base (.slice (some ⟨g, 0, none⟩) n cap) xs) {i : Nat} {x : RoadV} (hx : xs[i]? = some x) (y : RoadV) (hy : RoadAt w y.v y.r)
    (hyb : ∀ a ∈ y.v.addrs, ∀ b, a.map (·.block) = some b → base ≤ b ∧ b < w.heap.size ∧ b ≠ g) : OwnR (((((((((w.setCell ⟨g, i * 9, none⟩ (.int .i64 y.r.frm)).setCell ⟨g, i * 9 + 1, none⟩ (.int .i64 y.r.to)).setCell ⟨g, i * 9 + 2, none⟩ (.int .i64 y.r.fin)).setCell ⟨g, i * 9 + 3, none⟩ (.slice y.v.sa y.v.sn y.v.sc)).setCell ⟨g, i * 9 + 4, none⟩ (.slice y.v.na y.v.nn y.v.nc)).setCell ⟨g, i * 9 + 5, none⟩ (.slice y.v.ga y.v.gn y.v.gc)).setCell ⟨g, i * 9 + 6, none⟩ (.slice y.v.za y.v.zn y.v.zc)).setCell ⟨g, i * 9 + 7, none⟩ (.slice y.v.ha y.v.hn y.v.hc)).setCell ⟨g, i * 9 + 8, none⟩ (.bool y.r.bare)) base (.slice (some ⟨g, 0, none⟩) n cap) (xs.set i y) ∧ w.grownBy (((((((((w.setCell ⟨g, i * 9, none⟩ (.int .i64 y.r.frm)).setCell ⟨g, i * 9 + 1, none⟩ (.int .i64 y.r.to)).setCell ⟨g, i * 9 + 2, none⟩ (.int .i64 y.r.fin)).setCell ⟨g, i * 9 + 3, none⟩ (.slice y.v.sa y.v.sn y.v.sc)).setCell ⟨g, i * 9 + 4, none⟩ (.slice y.v.na y.v.nn y.v.nc)).setCell ⟨g, i * 9 + 5, none⟩ (.slice y.v.ga y.v.gn y.v.gc)).setCell ⟨g, i * 9 + 6, none⟩ (.slice y.v.za y.v.zn y.v.zc)).setCell ⟨g, i * 9 + 7, none⟩ (.slice y.v.ha y.v.hn y.v.hc)).setCell ⟨g, i * 9 + 8, none⟩ (.bool y.r.bare)) (some g) := by
  have hn : xs.length = n := h.roads.2
  obtain ⟨ho, hg⟩ := own_put9 (by have := h.own; rwa [hn] at this) hx y
  have key : ∀ z ∈ xs.set i y, RoadAt w z.v z.r ∧ ∀ a ∈ z.v.addrs, ∀ b, a.map (·.block) = some b → base ≤ b ∧ b < w.heap.size ∧ b ≠ g := by
    intro z hz
    rcases List.mem_or_eq_of_mem_set hz with hz | rfl
    · refine ⟨h.each z hz, fun a ha b hb => ?_⟩
      have := h.off z hz a ha b hb
      exact ⟨this.1, this.2.1, fun hc => this.2.2 (by rw [hc]; rfl)⟩
    · exact ⟨hy, hyb⟩
  refine ⟨⟨by rw [List.length_set, hn]; exact ho, fun z hz => ?_, fun z hz a ha b hb => ?_⟩, hg⟩
  · exact (key z hz).1.kept fun a ha b hb hlt => hg.block b hlt (fun hc => ((key z hz).2 a ha b hb).2.2 (by cases hc; rfl))
  · obtain ⟨h1, h2, h3⟩ := (key z hz).2 a ha b hb
    exact ⟨h1, Nat.lt_of_lt_of_le h2 hg.size, fun hc => h3 (by cases hc; rfl)⟩
theorem OwnR.some {w : World} {base : Nat} {v : Value} {xs : List RoadV} (h : OwnR w base v xs) (hx : xs ≠ []) : ∃ g cap, v = .slice (some ⟨g, 0, none⟩) xs.length cap ∧ base ≤ g ∧ g < w.heap.size ∧ ∃ cur, w.heap[g]? = some (.cells cur 74) := by
  rcases h.own.2 with ⟨_, h0⟩ | ⟨g, cap, cur, hv, hb, hg, _⟩
  · exact absurd (List.length_eq_zero_iff.1 h0) hx
  · exact ⟨g, cap, hv, hb, (Array.getElem?_eq_some_iff.1 hg).1, cur, hg⟩
theorem box10 {w : World} {b : Nat} {T : TypeId} {a0 a1 a2 a3 a4 a5 a6 a7 a8 a9 : Value} (h : w.heap[b]? = some (.cells #[a0, a1, a2, a3, a4, a5, a6, a7, a8, a9] T)) (v0 v1 v2 v3 v4 v5 v6 v7 v8 v9 : Value) :
    ((((((((((w.setCell ⟨b, 0, none⟩ v0).setCell ⟨b, 1, none⟩ v1).setCell ⟨b, 2, none⟩ v2).setCell ⟨b, 3, none⟩ v3).setCell ⟨b, 4, none⟩ v4).setCell ⟨b, 5, none⟩ v5).setCell ⟨b, 6, none⟩ v6).setCell ⟨b, 7, none⟩ v7).setCell ⟨b, 8, none⟩ v8).setCell ⟨b, 9, none⟩ v9).heap[b]? = some (.cells #[v0, v1, v2, v3, v4, v5, v6, v7, v8, v9] T) ∧ w.grownBy ((((((((((w.setCell ⟨b, 0, none⟩ v0).setCell ⟨b, 1, none⟩ v1).setCell ⟨b, 2, none⟩ v2).setCell ⟨b, 3, none⟩ v3).setCell ⟨b, 4, none⟩ v4).setCell ⟨b, 5, none⟩ v5).setCell ⟨b, 6, none⟩ v6).setCell ⟨b, 7, none⟩ v7).setCell ⟨b, 8, none⟩ v8).setCell ⟨b, 9, none⟩ v9) (some b) := by
  refine ⟨?_, grown_set (grown_set (grown_set (grown_set (grown_set (grown_set (grown_set (grown_set (grown_set (grown_set (grown_refl w b) _ _) _ _) _ _) _ _) _ _) _ _) _ _) _ _) _ _) _ _⟩
  have h0 : (w.setCell ⟨b, 0, none⟩ v0).heap[b]? = some (.cells #[v0, a1, a2, a3, a4, a5, a6, a7, a8, a9] T) := heap_setCell_same w b 0 _ _ _ h
  generalize w.setCell ⟨b, 0, none⟩ v0 = w0 at h0 ⊢
  have h1 : (w0.setCell ⟨b, 1, none⟩ v1).heap[b]? = some (.cells #[v0, v1, a2, a3, a4, a5, a6, a7, a8, a9] T) := heap_setCell_same w0 b 1 _ _ _ h0
  generalize w0.setCell ⟨b, 1, none⟩ v1 = w1 at h1 ⊢
  have h2 : (w1.setCell ⟨b, 2, none⟩ v2).heap[b]? = some (.cells #[v0, v1, v2, a3, a4, a5, a6, a7, a8, a9] T) := heap_setCell_same w1 b 2 _ _ _ h1
  generalize w1.setCell ⟨b, 2, none⟩ v2 = w2 at h2 ⊢
  have h3 : (w2.setCell ⟨b, 3, none⟩ v3).heap[b]? = some (.cells #[v0, v1, v2, v3, a4, a5, a6, a7, a8, a9] T) := heap_setCell_same w2 b 3 _ _ _ h2
  generalize w2.setCell ⟨b, 3, none⟩ v3 = w3 at h3 ⊢
  have h4 : (w3.setCell ⟨b, 4, none⟩ v4).heap[b]? = some (.cells #[v0, v1, v2, v3, v4, a5, a6, a7, a8, a9] T) := heap_setCell_same w3 b 4 _ _ _ h3
  generalize w3.setCell ⟨b, 4, none⟩ v4 = w4 at h4 ⊢
  have h5 : (w4.setCell ⟨b, 5, none⟩ v5).heap[b]? = some (.cells #[v0, v1, v2, v3, v4, v5, a6, a7, a8, a9] T) := heap_setCell_same w4 b 5 _ _ _ h4
  generalize w4.setCell ⟨b, 5, none⟩ v5 = w5 at h5 ⊢
  have h6 : (w5.setCell ⟨b, 6, none⟩ v6).heap[b]? = some (.cells #[v0, v1, v2, v3, v4, v5, v6, a7, a8, a9] T) := heap_setCell_same w5 b 6 _ _ _ h5
  generalize w5.setCell ⟨b, 6, none⟩ v6 = w6 at h6 ⊢
  have h7 : (w6.setCell ⟨b, 7, none⟩ v7).heap[b]? = some (.cells #[v0, v1, v2, v3, v4, v5, v6, v7, a8, a9] T) := heap_setCell_same w6 b 7 _ _ _ h6
  generalize w6.setCell ⟨b, 7, none⟩ v7 = w7 at h7 ⊢
  have h8 : (w7.setCell ⟨b, 8, none⟩ v8).heap[b]? = some (.cells #[v0, v1, v2, v3, v4, v5, v6, v7, v8, a9] T) := heap_setCell_same w7 b 8 _ _ _ h7
  generalize w7.setCell ⟨b, 8, none⟩ v8 = w8 at h8 ⊢
  have h9 : (w8.setCell ⟨b, 9, none⟩ v9).heap[b]? = some (.cells #[v0, v1, v2, v3, v4, v5, v6, v7, v8, v9] T) := heap_setCell_same w8 b 9 _ _ _ h8
  exact h9
theorem two_of {w W : World} {A B : Obj} (h : W = (w.alloc A).alloc B) : W.heap[w.heap.size]? = some A ∧ W.heap[w.heap.size + 1]? = some B ∧ W.heap.size = w.heap.size + 2 ∧ Below w.heap.size w W := by
  subst h
  have b := heap_alloc_new (w.alloc A) B
  rw [show (w.alloc A).heap.size = w.heap.size + 1 by simp] at b
  exact ⟨(Below.heap_alloc _ _ _ (by simp)).trans (heap_alloc_new w A), b, by simp, ((Below.refl _ _).alloc (Nat.le_refl _) _).alloc (by simp) _⟩
theorem Plain.form {w : World} {s : Int} {x : RoadV} (h : Plain s x) (hr : RoadAt w x.v x.r) :
    ∃ (sa : Option Addr) (sc : Nat) (t2 fin : Int) (steps : List Stp), x = ⟨⟨sa, steps.length, sc, none, 0, 0, none, 0, 0, none, 0, 0, none, 0, 0⟩, ⟨s, t2, fin, steps, [], [], [], [], false⟩⟩ ∧ steps.length ≤ 12 := by
  obtain ⟨⟨sa, sn, sc, na, nn, nc, ga, gn, gc, za, zn, zc, ha, hn, hc⟩, ⟨frm, t2, fin, steps, needs, guards, zone, holds, bare⟩⟩ := x
  obtain ⟨h1, h2, h3, h4, h5, h6, ⟨e1, e2, e3⟩, ⟨e4, e5, e6⟩, ⟨e7, e8, e9⟩, ⟨e10, e11, e12⟩, hl⟩ := h
  dsimp only at *
  subst h1 h2 h3 h4 h5 h6 e1 e2 e3 e4 e5 e6 e7 e8 e9 e10 e11 e12
  have hs := hr.s.len
  dsimp only at hs
  subst hs
  exact ⟨sa, sc, t2, fin, steps, rfl, hl⟩
theorem Firsts.put {n i : Nat} {xs : List RoadV} {x y : RoadV} {s : Int} (h : Firsts n xs) (hx : xs[i]? = some x) (hxs : x.r.frm = s) (hy : Plain s y) : Firsts n (xs.set i y) := by
  refine ⟨fun z hz => ?_, by rw [List.length_set]; exact h.len, ?_⟩
  · rcases List.mem_or_eq_of_mem_set hz with hz | rfl
    · exact h.frm z hz
    · obtain ⟨q, hq, hp⟩ := h.frm x (List.mem_of_getElem? hx)
      have := hp.frm
      exact ⟨q, hq, by rw [← this, hxs]; exact hy⟩
  · have he : (xs.set i y).map (·.r.frm) = xs.map (·.r.frm) := by
      rw [List.map_set]
      refine List.ext_getElem? fun j => ?_
      by_cases hj : i = j
      · subst hj
        have hl : i < xs.length := (List.getElem?_eq_some_iff.1 hx).1
        rw [List.getElem?_set_self (by simpa using hl), List.getElem?_map, hx, hy.frm]
        simp [hxs]
      · rw [List.getElem?_set_ne hj]
    rw [he]
    exact h.one
/-- the chart of a plan, or that there are too many roads -/
def BuildPost (w : World) (p : Plan) (e : Ending) (w' : World) : Prop := Below w.heap.size w w' ∧
  ((e = .returned (.tuple #[.agg #[.slice none 0 0, .slice none 0 0, .slice none 0 0, .slice none 0 0, .int .i64 0, .int .i64 0, .int .i64 0, .int .i64 0, .bool false, .slice none 0 0], .int .i64 3])) ∨
  ∃ (qe : Option Addr) (me de : Nat) (qj : Option Addr) (mj dj : Nat) (qs : Option Addr) (ms ds : Nat) (ql : Option Addr) (ml dl : Nat) (a : Option Addr) (c : Nat) (xs : List RoadV),
    e = .returned (.tuple #[.agg #[.slice qe me de, .slice qj mj dj, .slice qs ms ds, .slice ql ml dl, .int .i64 p.top, .int .i64 p.brake, .int .i64 p.margin, .int .i64 p.throw, .bool p.hard, .slice a xs.length c], .int .i64 0]) ∧ Row 9 encRoad w' a xs.length xs ∧ Firsts p.sigs.length xs)
set_option maxHeartbeats 16000000 in
theorem build_any (w : World) (pv : PV) (p : Plan) (h : PlanAt w pv p) (hf : FewOk pv) (hck : chk p = 0) (he : Even p) : Calls Tryz.prog 15 #[pv.val p] w (BuildPost w p) := by
  have Hf := Lib.hid hf
  obtain ⟨ae, ne, ce, aj, nj, cj, as_, ns, cs, al, nl, cl, lv⟩ := pv
  have HP := Lib.hid h
  have Hck := Lib.hid hck
  have He := Lib.hid he
  clear h hf hck he
  dsimp only [PV.val, BuildPost]
  go_enter Tryz.func15, Tryz.ntmps15
  go_wp2_with fail
  refine name_calls fun W1 hW1 => ?_
  obtain ⟨hp0, hch, hz1, hw1⟩ := two_of hW1
  clear hW1
  have Hch := Lib.hid hch
  have Hw1 := Lib.hid hw1
  have HNw := Lib.hid (new_any W1 ⟨ae, ne, ce, aj, nj, cj, as_, ns, cs, al, nl, cl, lv⟩ p Hf.out (HP.out.below hw1))
  dsimp only [PV.val] at HNw
  clear hp0 hch hw1
  refine HNw.out.mono ?_
  rintro en w2 (⟨hno, _, _⟩ | ⟨_, nb, rfl, hnbl, hn2, hb2⟩)
  · exact absurd Hck.out hno
  have hb2s := hb2.size
  have Hw2 := Lib.hid (below_step Hw1.out hb2 Hw1.out.size)
  have Hch2 := Lib.hid ((hb2.block (w.heap.size + 1) (by omega)).trans Hch.out)
  have hl2 : w.heap.size + 1 < w2.heap.size := by omega
  have HN2 := Lib.hid hn2
  have Hnbl := Lib.hid hnbl
  clear hb2 hn2 hnbl Hch HNw
  have HA := Lib.hid (nall_any w2 nb p HN2.out He.out)
  go_wp2_with fail
  refine HA.out.mono ?_
  rintro en w3 ⟨hb3, rfl | ⟨v, xs, rfl, hX, hF⟩⟩
  · have Hw3 := Lib.hid (below_step Hw2.out hb3 Hw2.out.size)
    have hch3 := (hb3.block (w.heap.size + 1) hl2).trans Hch2.out
    have hb3s := hb3.size
    clear hb3 HA
    have fr : ∀ o, w3.frozen? ⟨w.heap.size + 1, o, none⟩ = false := fun o => frozen_of_row w3 (w.heap.size + 1) o _ _ hch3
    have hrl : w.heap.size + 1 < w3.heap.size := (Array.getElem?_eq_some_iff.1 hch3).1
    obtain ⟨z0, z1, z2, z3, z4, z5, z6, z7, z8, z9⟩ := ten_of hch3
    have Hch := Lib.hid hch3
    clear hch3
    go_wp2_with fail
    refine name_world fun W8 hW8 => ?_
    have hbx : W8.heap[w.heap.size + 1]? = some (.cells #[.slice none 0 0, .slice none 0 0, .slice none 0 0, .slice none 0 0, .int .i64 0, .int .i64 0, .int .i64 0, .int .i64 0, .bool false, .slice none 0 0] 68) ∧ w3.grownBy W8 (some (w.heap.size + 1)) := by
      rw [hW8]; exact box10 Hch.out _ _ _ _ _ _ _ _ _ _
    obtain ⟨hbx, hg8⟩ := hbx
    obtain ⟨y0, y1, y2, y3, y4, y5, y6, y7, y8, y9⟩ := ten_of hbx
    try rw [Exit.noGoto_ret]
    refine bodyPost_ret (v := .tuple #[.agg #[.slice none 0 0, .slice none 0 0, .slice none 0 0, .slice none 0 0, .int .i64 0, .int .i64 0, .int .i64 0, .int .i64 0, .bool false, .slice none 0 0], .int .i64 3]) (by simp [results, Tryz.results15, go_sem, y0, y1, y2, y3, y4, y5, y6, y7, y8, y9]) rfl ?_
    have hz8 := hg8.size
    have Hb8 : Below w.heap.size w W8 := Below.grown Hw3.out hg8 (by omega) (fun k hk => by
      simp only [Option.some.injEq] at hk
      omega)
    clear hW8 hbx y0 y1 y2 y3 y4 y5 y6 y7 y8 y9
    exact ⟨Hb8, .inl rfl⟩
  · obtain ⟨ao, co, rfl, _, _⟩ := own_slice hX.own
    have HX := Lib.hid hX
    have HF := Lib.hid hF
    have Hb3 := Lib.hid hb3
    have hx60 : xs.length ≤ 60 := by have := hF.len; have := (net_at HN2.out).2.2; omega
    clear hX hF hb3 HA
    go_wp2_with fail
    go_loopg [28] xs.length (fun k s28 wr => ∃ (i : Nat) (ys : List RoadV), i + k = xs.length ∧ s28 = .int .i64 i ∧ Hid (OwnR wr w2.heap.size (.slice ao xs.length co) ys) ∧ Hid (ys.length = xs.length) ∧ Hid (Firsts p.sigs.length ys) ∧ Hid (Below w2.heap.size w2 wr))
    case atStart => exact ⟨0, xs, by omega, rfl, HX.out, rfl, HF.out, Hb3.out⟩
    case round =>
      obtain ⟨i, ys, hk, rfl, HX, HL, HF, HB⟩ := hrel
      obtain ⟨wo, rfl⟩ : ∃ wo : World, wo = wr := ⟨_, rfl⟩
      have Hk := Lib.hid hk
      clear hk
      have hch4 := (HB.out.block (w.heap.size + 1) hl2).trans Hch2.out
      by_cases hlt : i < xs.length
      · have Hch4 := Lib.hid hch4
        clear hch4
        have hyl := HL.out
        have hne : ys ≠ [] := fun h => by rw [h] at hyl; simp at hyl; omega
        obtain ⟨g, cg, hv, hgb, hgl, cur, hcur⟩ := HX.out.some hne
        simp only [Value.slice.injEq] at hv
        obtain ⟨rfl, hvl, rfl⟩ := hv
        clear hvl
        obtain ⟨x, hx⟩ := get_some (n := xs.length) hyl hlt
        have hRx := HX.out.each x (List.mem_of_getElem? hx)
        have hlx : i < ys.length := by omega
        obtain ⟨sn, hsn, hpx⟩ := HF.out.frm x (List.mem_of_getElem? hx)
        obtain ⟨s, hss⟩ : ∃ s : Int, s = (sn : Int) := ⟨_, rfl⟩
        rw [← hss] at hpx
        obtain ⟨sa, sc, t2, fin, steps, rfl, hsl⟩ := hpx.form hRx
        have hst1 : Stps wo sa steps.length steps := hRx.s
        have HFl := Lib.hid (nflank_any wo nb p (HN2.out.below HB.out) He.out s t2 fin sa steps.length sc steps hst1 hRx.fit.sc (by omega))
        dsimp only [stepsV] at HFl
        have hO := HX.out.own
        rw [hyl] at hO
        have f0 : wo.cell? ⟨g, i * 9, none⟩ = some (.int .i64 s) := own_at encRoad_len hO (k := 0) hx hlt rfl
        have f1 : wo.cell? ⟨g, i * 9 + 1, none⟩ = some (.int .i64 t2) := own_at encRoad_len hO (k := 1) hx hlt rfl
        have f2 : wo.cell? ⟨g, i * 9 + 2, none⟩ = some (.int .i64 fin) := own_at encRoad_len hO (k := 2) hx hlt rfl
        have f3 : wo.cell? ⟨g, i * 9 + 3, none⟩ = some (.slice sa steps.length sc) := own_at encRoad_len hO (k := 3) hx hlt rfl
        have f4 : wo.cell? ⟨g, i * 9 + 4, none⟩ = some (.slice none 0 0) := own_at encRoad_len hO (k := 4) hx hlt rfl
        have f5 : wo.cell? ⟨g, i * 9 + 5, none⟩ = some (.slice none 0 0) := own_at encRoad_len hO (k := 5) hx hlt rfl
        have f6 : wo.cell? ⟨g, i * 9 + 6, none⟩ = some (.slice none 0 0) := own_at encRoad_len hO (k := 6) hx hlt rfl
        have f7 : wo.cell? ⟨g, i * 9 + 7, none⟩ = some (.slice none 0 0) := own_at encRoad_len hO (k := 7) hx hlt rfl
        have f8 : wo.cell? ⟨g, i * 9 + 8, none⟩ = some (.bool false) := own_at encRoad_len hO (k := 8) hx hlt rfl
        have Hx := Lib.hid hx
        have Hgb := Lib.hid hgb
        have Hlx := Lib.hid hlx
        have Hcur := Lib.hid hcur
        have Hsl := Lib.hid hsl
        clear hRx hst1 hO hne hyl hx hlx hcur hgb hpx hsn hss hsl
        go_wp2_with fail
        refine HFl.out.mono ?_
        rintro en w8 ⟨a8, c8, rfl, hst8, hfr8, hac8, hb8⟩
        have hX8 := HX.out.below hb8
        have cur8 := (hb8.block g hgl).trans Hcur.out
        have fz : ∀ o, w8.frozen? ⟨g, o, none⟩ = false := fun o => frozen_of_row w8 g o _ _ cur8
        have hgl8 : g < w8.heap.size := Nat.lt_of_lt_of_le hgl hb8.size
        have hO8 := hX8.own
        rw [hX8.roads.2] at hO8
        have f0 : w8.cell? ⟨g, i * 9, none⟩ = some (.int .i64 s) := own_at encRoad_len hO8 (k := 0) Hx.out (by rw [← hX8.roads.2]; exact Hlx.out) rfl
        have f1 : w8.cell? ⟨g, i * 9 + 1, none⟩ = some (.int .i64 t2) := own_at encRoad_len hO8 (k := 1) Hx.out (by rw [← hX8.roads.2]; exact Hlx.out) rfl
        have f2 : w8.cell? ⟨g, i * 9 + 2, none⟩ = some (.int .i64 fin) := own_at encRoad_len hO8 (k := 2) Hx.out (by rw [← hX8.roads.2]; exact Hlx.out) rfl
        have f3 : w8.cell? ⟨g, i * 9 + 3, none⟩ = some (.slice sa steps.length sc) := own_at encRoad_len hO8 (k := 3) Hx.out (by rw [← hX8.roads.2]; exact Hlx.out) rfl
        have f4 : w8.cell? ⟨g, i * 9 + 4, none⟩ = some (.slice none 0 0) := own_at encRoad_len hO8 (k := 4) Hx.out (by rw [← hX8.roads.2]; exact Hlx.out) rfl
        have f5 : w8.cell? ⟨g, i * 9 + 5, none⟩ = some (.slice none 0 0) := own_at encRoad_len hO8 (k := 5) Hx.out (by rw [← hX8.roads.2]; exact Hlx.out) rfl
        have f6 : w8.cell? ⟨g, i * 9 + 6, none⟩ = some (.slice none 0 0) := own_at encRoad_len hO8 (k := 6) Hx.out (by rw [← hX8.roads.2]; exact Hlx.out) rfl
        have f7 : w8.cell? ⟨g, i * 9 + 7, none⟩ = some (.slice none 0 0) := own_at encRoad_len hO8 (k := 7) Hx.out (by rw [← hX8.roads.2]; exact Hlx.out) rfl
        have f8 : w8.cell? ⟨g, i * 9 + 8, none⟩ = some (.bool false) := own_at encRoad_len hO8 (k := 8) Hx.out (by rw [← hX8.roads.2]; exact Hlx.out) rfl
        go_upto_region 11 with fail
        refine name_code fun w9 hw9 => ?_
        have hb89 := below_step HB.out hb8 HB.out.size
        have hput := OwnR.put hX8 Hx.out (road1 s t2 fin a8 c8 steps) (road1_at hst8 hac8) (fun a ha k hk => by
          simp only [RV.addrs, road1, List.mem_cons, List.not_mem_nil, or_false] at ha
          have h2 := HB.out.size
          rcases ha with rfl | rfl | rfl | rfl | rfl
          · have h1 := hfr8 k hk
            have h3 : wo.heap.size ≤ k := h1.1
            exact ⟨by omega, h1.2, by omega⟩
          all_goals cases hk)
        dsimp only [road1] at hput
        rw [← hw9] at hput
        obtain ⟨hX9, hg9⟩ := hput
        have hB9 : Below w2.heap.size w2 w9 := hb89.grown hg9 hb89.size (fun k hk => by
          simp only [Option.some.injEq] at hk
          have := Hgb.out
          omega)
        have HX9 := Lib.hid hX9
        have HF9 := Lib.hid (HF.out.put (y := road1 s t2 fin a8 c8 steps) Hx.out rfl (road1_plain s t2 fin a8 c8 steps Hsl.out))
        dsimp only [road1] at HF9
        have HB9 := Lib.hid hB9
        clear hw9 hX9 hg9 hB9 hb89 hX8 hb8 hO8 cur8 fz f0 f1 f2 f3 f4 f5 f6 f7 f8 hgl hgl8 hst8 hfr8 hac8
        go_wp2_with fail
        go_roundg (gk - 1)
        case measure => have := Hk.out; omega
        case rel => exact ⟨i + 1, _, by have := Hk.out; omega, by go_num, HX9.out, by rw [List.length_set]; exact HL.out, HF9.out, HB9.out⟩
      · have Hlt := Lib.hid hlt
        have d1 : decide ((i : Int) < (xs.length : Nat)) = false := by simp; omega
        have HPl := Lib.hid (nplan_any wo nb p (HN2.out.below HB.out))
        go_wp2_with fail
        refine HPl.out.mono ?_
        rintro en w7 ⟨⟨qe, me, de, qj, mj, dj, qs, ms, ds, ql, ml, dl, lq⟩, rfl, _, _, hb7⟩
        dsimp only [PV.val]
        have hlch : w.heap.size + 1 < wo.heap.size := Nat.lt_of_lt_of_le hl2 HB.out.size
        have hch7 := (hb7.block (w.heap.size + 1) hlch).trans hch4
        have HX7 := Lib.hid (HX.out.below hb7)
        have Hw7 := Lib.hid (below_step Hw2.out (below_step HB.out hb7 HB.out.size) Hw2.out.size)
        clear hb7 hch4 HPl
        have fr : ∀ o, w7.frozen? ⟨w.heap.size + 1, o, none⟩ = false := fun o => frozen_of_row w7 (w.heap.size + 1) o _ _ hch7
        have hrl : w.heap.size + 1 < w7.heap.size := (Array.getElem?_eq_some_iff.1 hch7).1
        obtain ⟨z0, z1, z2, z3, z4, z5, z6, z7, z8, z9⟩ := ten_of hch7
        have Hch := Lib.hid hch7
        clear hch7
        go_wp2_with fail
        refine name_world fun W8 hW8 => ?_
        have hbx : W8.heap[w.heap.size + 1]? = some (.cells #[.slice qe me de, .slice qj mj dj, .slice qs ms ds, .slice ql ml dl, .int .i64 p.top, .int .i64 p.brake, .int .i64 p.margin, .int .i64 p.throw, .bool p.hard, .slice ao xs.length co] 68) ∧ w7.grownBy W8 (some (w.heap.size + 1)) := by
          rw [hW8]; exact box10 Hch.out _ _ _ _ _ _ _ _ _ _
        obtain ⟨hbx, hg8⟩ := hbx
        obtain ⟨y0, y1, y2, y3, y4, y5, y6, y7, y8, y9⟩ := ten_of hbx
        try rw [Exit.noGoto_ret]
        refine bodyPost_ret (v := .tuple #[.agg #[.slice qe me de, .slice qj mj dj, .slice qs ms ds, .slice ql ml dl, .int .i64 p.top, .int .i64 p.brake, .int .i64 p.margin, .int .i64 p.throw, .bool p.hard, .slice ao xs.length co], .int .i64 0]) (by simp [results, Tryz.results15, go_sem, y0, y1, y2, y3, y4, y5, y6, y7, y8, y9]) rfl ?_
        have hz8 := hg8.size
        have Hb8 : Below w.heap.size w W8 := Below.grown Hw7.out hg8 (by omega) (fun k hk => by
          simp only [Option.some.injEq] at hk
          omega)
        clear hW8 hbx y0 y1 y2 y3 y4 y5 y6 y7 y8 y9
        refine ⟨Hb8, .inr ⟨qe, me, de, qj, mj, dj, qs, ms, ds, ql, ml, dl, ao, co, ys, ?_, ?_, ?_⟩⟩
        · rw [HL.out]
        · rw [HL.out]
          refine ((HX7.out.roads.1.row)).kept fun k hk hlt => hg8.block k hlt (fun hc => ?_)
          have h1 := own_blocks HX7.out.own (Nat.le_refl _) k hk
          simp only [Option.some.injEq] at hc
          omega
        · exact HF.out
end Go.Proofs.YtcaeglnfflkabaaGreat
