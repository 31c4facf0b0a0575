/- Walk of semaphoreref12.Build. Condition: the plan is read; it is one that may be. -/
import Derived.Test.YtnkpiijljfjmkaaClashS7
import Derived.Test.YtnkpiijljfjmkaaClashDef
import Derived.Test.YtnkpiijljfjmkaaClashW11
import Derived.Test.YtnkpiijljfjmkaaClashW4
import Derived.Test.YtnkpiijljfjmkaaClashW7
set_option maxRecDepth 1000000
namespace Go.Proofs.Ytnkpiijljfjmkaa
open Go.ChangeShapes Go.WideShapes Go.ChangeAt Go.RowKit Go.Sort

theorem own_put9 {w : World} {base g n cap : Nat} {xs : List RoadV} (h : w.ownsRow base 38 9 (.slice (some ⟨g, 0, none⟩) n cap) n (xs.flatMap encRoad)) {i : Nat} {x : RoadV} (hx : xs[i]? = some x) (y : RoadV) :
  (((((((((w.setCell ⟨g, i * 9, none⟩ (.int .i64 y.r.frm)).setCell ⟨g, i * 9 + 1, none⟩ (.int .i64 y.r.to)).setCell ⟨g, i * 9 + 2, none⟩ (.int .i64 y.r.fin)).setCell ⟨g, i * 9 + 3, none⟩ (.slice y.v.sa y.v.sn y.v.sc)).setCell ⟨g, i * 9 + 4, none⟩ (.slice y.v.na y.v.nn y.v.nc)).setCell ⟨g, i * 9 + 5, none⟩ (.slice y.v.ga y.v.gn y.v.gc)).setCell ⟨g, i * 9 + 6, none⟩ (.slice y.v.za y.v.zn y.v.zc)).setCell ⟨g, i * 9 + 7, none⟩ (.slice y.v.ha y.v.hn y.v.hc)).setCell ⟨g, i * 9 + 8, none⟩ (.bool y.r.bare)).ownsRow base 38 9 (.slice (some ⟨g, 0, none⟩) n cap) n ((xs.set i y).flatMap encRoad) ∧ w.grownBy (((((((((w.setCell ⟨g, i * 9, none⟩ (.int .i64 y.r.frm)).setCell ⟨g, i * 9 + 1, none⟩ (.int .i64 y.r.to)).setCell ⟨g, i * 9 + 2, none⟩ (.int .i64 y.r.fin)).setCell ⟨g, i * 9 + 3, none⟩ (.slice y.v.sa y.v.sn y.v.sc)).setCell ⟨g, i * 9 + 4, none⟩ (.slice y.v.na y.v.nn y.v.nc)).setCell ⟨g, i * 9 + 5, none⟩ (.slice y.v.ga y.v.gn y.v.gc)).setCell ⟨g, i * 9 + 6, none⟩ (.slice y.v.za y.v.zn y.v.zc)).setCell ⟨g, i * 9 + 7, none⟩ (.slice y.v.ha y.v.hn y.v.hc)).setCell ⟨g, i * 9 + 8, none⟩ (.bool y.r.bare)) (some g) := by
 have hl : i < xs.length := (List.getElem?_eq_some_iff.1 hx).1
 have hs : ∀ (z' : RoadV), (xs.set i z')[i]? = some z' := fun z' => List.getElem?_set_self hl
 have h0 := (own_put encRoad_len h (i := i) (k := 0) (x := x) hx (by decide) (x' := ⟨⟨x.v.sa, x.v.sn, x.v.sc, x.v.na, x.v.nn, x.v.nc, x.v.ga, x.v.gn, x.v.gc, x.v.za, x.v.zn, x.v.zc, x.v.ha, x.v.hn, x.v.hc⟩, ⟨y.r.frm, x.r.to, x.r.fin, x.r.steps, x.r.needs, x.r.guards, x.r.zone, x.r.holds, x.r.bare⟩⟩) (u := .int .i64 y.r.frm) rfl).1
 have h1 := (own_put encRoad_len h0 (i := i) (k := 1) (x := ⟨⟨x.v.sa, x.v.sn, x.v.sc, x.v.na, x.v.nn, x.v.nc, x.v.ga, x.v.gn, x.v.gc, x.v.za, x.v.zn, x.v.zc, x.v.ha, x.v.hn, x.v.hc⟩, ⟨y.r.frm, x.r.to, x.r.fin, x.r.steps, x.r.needs, x.r.guards, x.r.zone, x.r.holds, x.r.bare⟩⟩) (hs _) (by decide) (x' := ⟨⟨x.v.sa, x.v.sn, x.v.sc, x.v.na, x.v.nn, x.v.nc, x.v.ga, x.v.gn, x.v.gc, x.v.za, x.v.zn, x.v.zc, x.v.ha, x.v.hn, x.v.hc⟩, ⟨y.r.frm, y.r.to, x.r.fin, x.r.steps, x.r.needs, x.r.guards, x.r.zone, x.r.holds, x.r.bare⟩⟩) (u := .int .i64 y.r.to) rfl).1
 rw [List.set_set] at h1
 have h2 := (own_put encRoad_len h1 (i := i) (k := 2) (x := ⟨⟨x.v.sa, x.v.sn, x.v.sc, x.v.na, x.v.nn, x.v.nc, x.v.ga, x.v.gn, x.v.gc, x.v.za, x.v.zn, x.v.zc, x.v.ha, x.v.hn, x.v.hc⟩, ⟨y.r.frm, y.r.to, x.r.fin, x.r.steps, x.r.needs, x.r.guards, x.r.zone, x.r.holds, x.r.bare⟩⟩) (hs _) (by decide) (x' := ⟨⟨x.v.sa, x.v.sn, x.v.sc, x.v.na, x.v.nn, x.v.nc, x.v.ga, x.v.gn, x.v.gc, x.v.za, x.v.zn, x.v.zc, x.v.ha, x.v.hn, x.v.hc⟩, ⟨y.r.frm, y.r.to, y.r.fin, x.r.steps, x.r.needs, x.r.guards, x.r.zone, x.r.holds, x.r.bare⟩⟩) (u := .int .i64 y.r.fin) rfl).1
 rw [List.set_set] at h2
 have h3 := (own_put encRoad_len h2 (i := i) (k := 3) (x := ⟨⟨x.v.sa, x.v.sn, x.v.sc, x.v.na, x.v.nn, x.v.nc, x.v.ga, x.v.gn, x.v.gc, x.v.za, x.v.zn, x.v.zc, x.v.ha, x.v.hn, x.v.hc⟩, ⟨y.r.frm, y.r.to, y.r.fin, x.r.steps, x.r.needs, x.r.guards, x.r.zone, x.r.holds, x.r.bare⟩⟩) (hs _) (by decide) (x' := ⟨⟨y.v.sa, y.v.sn, y.v.sc, x.v.na, x.v.nn, x.v.nc, x.v.ga, x.v.gn, x.v.gc, x.v.za, x.v.zn, x.v.zc, x.v.ha, x.v.hn, x.v.hc⟩, ⟨y.r.frm, y.r.to, y.r.fin, x.r.steps, x.r.needs, x.r.guards, x.r.zone, x.r.holds, x.r.bare⟩⟩) (u := .slice y.v.sa y.v.sn y.v.sc) rfl).1
 rw [List.set_set] at h3
 have h4 := (own_put encRoad_len h3 (i := i) (k := 4) (x := ⟨⟨y.v.sa, y.v.sn, y.v.sc, x.v.na, x.v.nn, x.v.nc, x.v.ga, x.v.gn, x.v.gc, x.v.za, x.v.zn, x.v.zc, x.v.ha, x.v.hn, x.v.hc⟩, ⟨y.r.frm, y.r.to, y.r.fin, x.r.steps, x.r.needs, x.r.guards, x.r.zone, x.r.holds, x.r.bare⟩⟩) (hs _) (by decide) (x' := ⟨⟨y.v.sa, y.v.sn, y.v.sc, y.v.na, y.v.nn, y.v.nc, x.v.ga, x.v.gn, x.v.gc, x.v.za, x.v.zn, x.v.zc, x.v.ha, x.v.hn, x.v.hc⟩, ⟨y.r.frm, y.r.to, y.r.fin, x.r.steps, x.r.needs, x.r.guards, x.r.zone, x.r.holds, x.r.bare⟩⟩) (u := .slice y.v.na y.v.nn y.v.nc) rfl).1
 rw [List.set_set] at h4
 have h5 := (own_put encRoad_len h4 (i := i) (k := 5) (x := ⟨⟨y.v.sa, y.v.sn, y.v.sc, y.v.na, y.v.nn, y.v.nc, x.v.ga, x.v.gn, x.v.gc, x.v.za, x.v.zn, x.v.zc, x.v.ha, x.v.hn, x.v.hc⟩, ⟨y.r.frm, y.r.to, y.r.fin, x.r.steps, x.r.needs, x.r.guards, x.r.zone, x.r.holds, x.r.bare⟩⟩) (hs _) (by decide) (x' := ⟨⟨y.v.sa, y.v.sn, y.v.sc, y.v.na, y.v.nn, y.v.nc, y.v.ga, y.v.gn, y.v.gc, x.v.za, x.v.zn, x.v.zc, x.v.ha, x.v.hn, x.v.hc⟩, ⟨y.r.frm, y.r.to, y.r.fin, x.r.steps, x.r.needs, x.r.guards, x.r.zone, x.r.holds, x.r.bare⟩⟩) (u := .slice y.v.ga y.v.gn y.v.gc) rfl).1
 rw [List.set_set] at h5
 have h6 := (own_put encRoad_len h5 (i := i) (k := 6) (x := ⟨⟨y.v.sa, y.v.sn, y.v.sc, y.v.na, y.v.nn, y.v.nc, y.v.ga, y.v.gn, y.v.gc, x.v.za, x.v.zn, x.v.zc, x.v.ha, x.v.hn, x.v.hc⟩, ⟨y.r.frm, y.r.to, y.r.fin, x.r.steps, x.r.needs, x.r.guards, x.r.zone, x.r.holds, x.r.bare⟩⟩) (hs _) (by decide) (x' := ⟨⟨y.v.sa, y.v.sn, y.v.sc, y.v.na, y.v.nn, y.v.nc, y.v.ga, y.v.gn, y.v.gc, y.v.za, y.v.zn, y.v.zc, x.v.ha, x.v.hn, x.v.hc⟩, ⟨y.r.frm, y.r.to, y.r.fin, x.r.steps, x.r.needs, x.r.guards, x.r.zone, x.r.holds, x.r.bare⟩⟩) (u := .slice y.v.za y.v.zn y.v.zc) rfl).1
 rw [List.set_set] at h6
 have h7 := (own_put encRoad_len h6 (i := i) (k := 7) (x := ⟨⟨y.v.sa, y.v.sn, y.v.sc, y.v.na, y.v.nn, y.v.nc, y.v.ga, y.v.gn, y.v.gc, y.v.za, y.v.zn, y.v.zc, x.v.ha, x.v.hn, x.v.hc⟩, ⟨y.r.frm, y.r.to, y.r.fin, x.r.steps, x.r.needs, x.r.guards, x.r.zone, x.r.holds, x.r.bare⟩⟩) (hs _) (by decide) (x' := ⟨⟨y.v.sa, y.v.sn, y.v.sc, y.v.na, y.v.nn, y.v.nc, y.v.ga, y.v.gn, y.v.gc, y.v.za, y.v.zn, y.v.zc, y.v.ha, y.v.hn, y.v.hc⟩, ⟨y.r.frm, y.r.to, y.r.fin, x.r.steps, x.r.needs, x.r.guards, x.r.zone, x.r.holds, x.r.bare⟩⟩) (u := .slice y.v.ha y.v.hn y.v.hc) rfl).1
 rw [List.set_set] at h7
 have h8 := (own_put encRoad_len h7 (i := i) (k := 8) (x := ⟨⟨y.v.sa, y.v.sn, y.v.sc, y.v.na, y.v.nn, y.v.nc, y.v.ga, y.v.gn, y.v.gc, y.v.za, y.v.zn, y.v.zc, y.v.ha, y.v.hn, y.v.hc⟩, ⟨y.r.frm, y.r.to, y.r.fin, x.r.steps, x.r.needs, x.r.guards, x.r.zone, x.r.holds, x.r.bare⟩⟩) (hs _) (by decide) (x' := y) (u := .bool y.r.bare) rfl).1
 rw [List.set_set] at h8
 exact ⟨h8, grown_set (grown_set (grown_set (grown_set (grown_set (grown_set (grown_set (grown_set (grown_set (grown_refl w g) _ _) _ _) _ _) _ _) _ _) _ _) _ _) _ _) _ _⟩
theorem OwnR.put {w : World} {base g n cap : Nat} {xs : List RoadV} (h : OwnR w base (.slice (some ⟨g, 0, none⟩) n cap) xs) {i : Nat} {x : RoadV} (hx : xs[i]? = some x) (y : RoadV) (hy : RoadAt w y.v y.r)
  (hyb : ∀ a ∈ y.v.addrs, ∀ b, a.map (·.block) = some b → base ≤ b ∧ b < w.heap.size ∧ b ≠ g) : OwnR (((((((((w.setCell ⟨g, i * 9, none⟩ (.int .i64 y.r.frm)).setCell ⟨g, i * 9 + 1, none⟩ (.int .i64 y.r.to)).setCell ⟨g, i * 9 + 2, none⟩ (.int .i64 y.r.fin)).setCell ⟨g, i * 9 + 3, none⟩ (.slice y.v.sa y.v.sn y.v.sc)).setCell ⟨g, i * 9 + 4, none⟩ (.slice y.v.na y.v.nn y.v.nc)).setCell ⟨g, i * 9 + 5, none⟩ (.slice y.v.ga y.v.gn y.v.gc)).setCell ⟨g, i * 9 + 6, none⟩ (.slice y.v.za y.v.zn y.v.zc)).setCell ⟨g, i * 9 + 7, none⟩ (.slice y.v.ha y.v.hn y.v.hc)).setCell ⟨g, i * 9 + 8, none⟩ (.bool y.r.bare)) base (.slice (some ⟨g, 0, none⟩) n cap) (xs.set i y) ∧ w.grownBy (((((((((w.setCell ⟨g, i * 9, none⟩ (.int .i64 y.r.frm)).setCell ⟨g, i * 9 + 1, none⟩ (.int .i64 y.r.to)).setCell ⟨g, i * 9 + 2, none⟩ (.int .i64 y.r.fin)).setCell ⟨g, i * 9 + 3, none⟩ (.slice y.v.sa y.v.sn y.v.sc)).setCell ⟨g, i * 9 + 4, none⟩ (.slice y.v.na y.v.nn y.v.nc)).setCell ⟨g, i * 9 + 5, none⟩ (.slice y.v.ga y.v.gn y.v.gc)).setCell ⟨g, i * 9 + 6, none⟩ (.slice y.v.za y.v.zn y.v.zc)).setCell ⟨g, i * 9 + 7, none⟩ (.slice y.v.ha y.v.hn y.v.hc)).setCell ⟨g, i * 9 + 8, none⟩ (.bool y.r.bare)) (some g) := by
 have hn : xs.length = n := h.roads.2
 obtain ⟨ho, hg⟩ := own_put9 (by have := h.own; rwa [hn] at this) hx y
 have key : ∀ z ∈ xs.set i y, RoadAt w z.v z.r ∧ ∀ a ∈ z.v.addrs, ∀ b, a.map (·.block) = some b → base ≤ b ∧ b < w.heap.size ∧ b ≠ g := by
  intro z hz
  rcases List.mem_or_eq_of_mem_set hz with hz | rfl
  ·refine ⟨h.each z hz, fun a ha b hb => ?_⟩
   have := h.off z hz a ha b hb
   exact ⟨this.1, this.2.1, fun hc => this.2.2 (by rw [hc]; rfl)⟩
  ·exact ⟨hy, hyb⟩
 refine ⟨⟨by rw [List.length_set, hn]; exact ho, fun z hz => ?_, fun z hz a ha b hb => ?_⟩, hg⟩
 ·exact (key z hz).1.kept fun a ha b hb hlt => hg.block b hlt (fun hc => ((key z hz).2 a ha b hb).2.2 (by cases hc; rfl))
 ·obtain ⟨h1, h2, h3⟩ := (key z hz).2 a ha b hb
  exact ⟨h1, Nat.lt_of_lt_of_le h2 hg.size, fun hc => h3 (by cases hc; rfl)⟩
theorem OwnR.some {w : World} {base : Nat} {v : Value} {xs : List RoadV} (h : OwnR w base v xs) (hx : xs ≠ []) : ∃ g cap, v = .slice (some ⟨g, 0, none⟩) xs.length cap ∧ base ≤ g ∧ g < w.heap.size ∧ ∃ cur, w.heap[g]? = some (.cells cur 38) := by
 rcases h.own.2 with ⟨_, h0⟩ | ⟨g, cap, cur, hv, hb, hg, _⟩
 ·exact absurd (List.length_eq_zero_iff.1 h0) hx
 ·exact ⟨g, cap, hv, hb, (Array.getElem?_eq_some_iff.1 hg).1, cur, hg⟩
theorem box10 {w : World} {b : Nat} {T : TypeId} {a0 a1 a2 a3 a4 a5 a6 a7 a8 a9 : Value} (h : w.heap[b]? = some (.cells #[a0, a1, a2, a3, a4, a5, a6, a7, a8, a9] T)) (v0 v1 v2 v3 v4 v5 v6 v7 v8 v9 : Value) :
  ((((((((((w.setCell ⟨b, 0, none⟩ v0).setCell ⟨b, 1, none⟩ v1).setCell ⟨b, 2, none⟩ v2).setCell ⟨b, 3, none⟩ v3).setCell ⟨b, 4, none⟩ v4).setCell ⟨b, 5, none⟩ v5).setCell ⟨b, 6, none⟩ v6).setCell ⟨b, 7, none⟩ v7).setCell ⟨b, 8, none⟩ v8).setCell ⟨b, 9, none⟩ v9).heap[b]? = some (.cells #[v0, v1, v2, v3, v4, v5, v6, v7, v8, v9] T) ∧ w.grownBy ((((((((((w.setCell ⟨b, 0, none⟩ v0).setCell ⟨b, 1, none⟩ v1).setCell ⟨b, 2, none⟩ v2).setCell ⟨b, 3, none⟩ v3).setCell ⟨b, 4, none⟩ v4).setCell ⟨b, 5, none⟩ v5).setCell ⟨b, 6, none⟩ v6).setCell ⟨b, 7, none⟩ v7).setCell ⟨b, 8, none⟩ v8).setCell ⟨b, 9, none⟩ v9) (some b) := by
 refine ⟨?_, grown_set (grown_set (grown_set (grown_set (grown_set (grown_set (grown_set (grown_set (grown_set (grown_set (grown_refl w b) _ _) _ _) _ _) _ _) _ _) _ _) _ _) _ _) _ _) _ _⟩
 have h0 : (w.setCell ⟨b, 0, none⟩ v0).heap[b]? = some (.cells #[v0, a1, a2, a3, a4, a5, a6, a7, a8, a9] T) := heap_setCell_same w b 0 _ _ _ h
 generalize w.setCell ⟨b, 0, none⟩ v0 = w0 at h0 ⊢
 have h1 : (w0.setCell ⟨b, 1, none⟩ v1).heap[b]? = some (.cells #[v0, v1, a2, a3, a4, a5, a6, a7, a8, a9] T) := heap_setCell_same w0 b 1 _ _ _ h0
 generalize w0.setCell ⟨b, 1, none⟩ v1 = w1 at h1 ⊢
 have h2 : (w1.setCell ⟨b, 2, none⟩ v2).heap[b]? = some (.cells #[v0, v1, v2, a3, a4, a5, a6, a7, a8, a9] T) := heap_setCell_same w1 b 2 _ _ _ h1
 generalize w1.setCell ⟨b, 2, none⟩ v2 = w2 at h2 ⊢
 have h3 : (w2.setCell ⟨b, 3, none⟩ v3).heap[b]? = some (.cells #[v0, v1, v2, v3, a4, a5, a6, a7, a8, a9] T) := heap_setCell_same w2 b 3 _ _ _ h2
 generalize w2.setCell ⟨b, 3, none⟩ v3 = w3 at h3 ⊢
 have h4 : (w3.setCell ⟨b, 4, none⟩ v4).heap[b]? = some (.cells #[v0, v1, v2, v3, v4, a5, a6, a7, a8, a9] T) := heap_setCell_same w3 b 4 _ _ _ h3
 generalize w3.setCell ⟨b, 4, none⟩ v4 = w4 at h4 ⊢
 have h5 : (w4.setCell ⟨b, 5, none⟩ v5).heap[b]? = some (.cells #[v0, v1, v2, v3, v4, v5, a6, a7, a8, a9] T) := heap_setCell_same w4 b 5 _ _ _ h4
 generalize w4.setCell ⟨b, 5, none⟩ v5 = w5 at h5 ⊢
 have h6 : (w5.setCell ⟨b, 6, none⟩ v6).heap[b]? = some (.cells #[v0, v1, v2, v3, v4, v5, v6, a7, a8, a9] T) := heap_setCell_same w5 b 6 _ _ _ h5
 generalize w5.setCell ⟨b, 6, none⟩ v6 = w6 at h6 ⊢
 have h7 : (w6.setCell ⟨b, 7, none⟩ v7).heap[b]? = some (.cells #[v0, v1, v2, v3, v4, v5, v6, v7, a8, a9] T) := heap_setCell_same w6 b 7 _ _ _ h6
 generalize w6.setCell ⟨b, 7, none⟩ v7 = w7 at h7 ⊢
 have h8 : (w7.setCell ⟨b, 8, none⟩ v8).heap[b]? = some (.cells #[v0, v1, v2, v3, v4, v5, v6, v7, v8, a9] T) := heap_setCell_same w7 b 8 _ _ _ h7
 generalize w7.setCell ⟨b, 8, none⟩ v8 = w8 at h8 ⊢
 have h9 : (w8.setCell ⟨b, 9, none⟩ v9).heap[b]? = some (.cells #[v0, v1, v2, v3, v4, v5, v6, v7, v8, v9] T) := heap_setCell_same w8 b 9 _ _ _ h8
 exact h9
theorem set_step {f : Road → Road} : ∀ {L : List Road} {i : Nat} {a : Road}, L[i]? = some a → ((L.take i).map f ++ L.drop i).set i (f a) = (L.take (i + 1)).map f ++ L.drop (i + 1)
 | [], _, _, h => by simp at h
 | b :: l, 0, a, h => by
  simp only [List.getElem?_cons_zero, Option.some.injEq] at h
  subst h
  simp
 | b :: l, i + 1, a, h => by
  have ih := set_step (f := f) (L := l) (i := i) (a := a) (by simpa using h)
  simpa using ih
theorem get_step {f : Road → Road} : ∀ {L : List Road} {i : Nat}, ((L.take i).map f ++ L.drop i)[i]? = L[i]?
 | [], _ => by simp
 | b :: l, 0 => by simp
 | b :: l, i + 1 => by
  have ih := get_step (f := f) (L := l) (i := i)
  simpa using ih
theorem two_of {w W : World} {A B : Obj} (h : W = (w.alloc A).alloc B) : W.heap[w.heap.size]? = some A ∧ W.heap[w.heap.size + 1]? = some B ∧ W.heap.size = w.heap.size + 2 ∧ Below w.heap.size w W := by
 subst h
 have b := heap_alloc_new (w.alloc A) B
 rw [show (w.alloc A).heap.size = w.heap.size + 1 by simp] at b
 exact ⟨alloc_oldC (heap_alloc_new w A) _, b, by simp, ((Below.refl _ _).alloc (Nat.le_refl _) _).alloc (by simp) _⟩
theorem own_le {w : World} {base n c size : Nat} {e : TypeId} {a : Option Addr} {xs : List Value} (h : w.ownsRow base e size (.slice a n c) n xs) : n ≤ c := by
 rcases h.2 with ⟨h1, h2⟩ | ⟨g, cap, cur, h1, h2⟩
 ·simp only [Value.slice.injEq] at h1; omega
 ·simp only [Value.slice.injEq] at h1
  obtain ⟨rfl, _, rfl⟩ := h1
  exact own_cap h
/-- the chart of a plan: its roads, each with its flank; or that there are too many -/
def BuildPost (w : World) (pv : PV) (p : Plan) (e : Ending) (w' : World) : Prop := Below w.heap.size w w' ∧
 ((roadsOf p = none ∧ e = .returned (.tuple #[.agg #[.slice none 0 0, .slice none 0 0, .slice none 0 0, .slice none 0 0, .int .i64 0, .int .i64 0, .int .i64 0, .int .i64 0, .bool false, .slice none 0 0], .int .i64 3])) ∨
 ∃ (a : Option Addr) (n c : Nat) (xs : List RoadV), roadsOf p = some (xs.map (·.r)) ∧ n ≤ 64 ∧ n ≤ c ∧ Roads w' a n xs ∧ (a = none → c = 0) ∧
  e = .returned (.tuple #[.agg #[.slice pv.ae pv.ne pv.ce, .slice pv.aj pv.nj pv.cj, .slice pv.as_ pv.ns pv.cs, .slice pv.al pv.nl pv.cl, .int .i64 p.top, .int .i64 p.brake, .int .i64 p.margin, .int .i64 p.throw, .bool p.hard, .slice a n c], .int .i64 0]))
theorem all_l {w : World} {ae aj as_ al : Option Addr} {ne ce nj cj ns cs nl cl : Nat} {lv : List LineV} {p : Plan} (h : PlanAt w ⟨ae, ne, ce, aj, nj, cj, as_, ns, cs, al, nl, cl, lv⟩ p) (hck : chk p = 0) : Calls Try.prog 42 #[.agg #[.slice ae ne ce, .slice aj nj cj, .slice as_ ns cs, .slice al nl cl, .int .i64 p.top, .int .i64 p.brake, .int .i64 p.margin, .int .i64 p.throw, .bool p.hard]] w (AllPost w (allR p)) := all_any w ⟨ae, ne, ce, aj, nj, cj, as_, ns, cs, al, nl, cl, lv⟩ p h hck
set_option maxHeartbeats 16000000 in
theorem build_any (w : World) (pv : PV) (p : Plan) (h : PlanAt w pv p) (hf : few p = true) (hck : chk p = 0) : Calls Try.prog 24 #[pv.val p] w (BuildPost w pv p) := by
 have Hn2 := Lib.hid (show ∀ x ∈ pv.lv, x.n ≤ 1000 from fun x hx => by have := (few_ok h hf).2.2.2.2 x hx; omega)
 obtain ⟨ae, ne, ce, aj, nj, cj, as_, ns, cs, al, nl, cl, lv⟩ := pv
 have HP := Lib.hid h
 have Hck := Lib.hid hck
 clear h hf hck
 dsimp only [PV.val, BuildPost] at Hn2 ⊢
 go_enter Try.func24, Try.ntmps24
 go_wp2_with fail
 refine name_calls fun W1 hW1 => ?_
 obtain ⟨hp0, hch, hz1, hw1⟩ := two_of hW1
 clear hW1
 have Hp0 := Lib.hid hp0
 have Hch := Lib.hid hch
 have hl1 : w.heap.size < W1.heap.size := by omega
 have Hw1 := Lib.hid hw1
 have HC := Lib.hid (refcheck_l2 Hn2.out (HP.out.below hw1))
 rw [Hck.out] at HC
 obtain ⟨c0, c1, c2, c3, c4, c5, c6, c7, c8⟩ := nine_of hp0
 clear hp0 hch hw1
 refine HC.out.mono ?_
 rintro en w2 ⟨rfl, hb2⟩
 have hb2s := hb2.size
 have Hw2 := Lib.hid (below_step Hw1.out hb2 Hw1.out.size)
 have Hp2 := Lib.hid ((hb2.block w.heap.size hl1).trans Hp0.out)
 have Hch2 := Lib.hid ((hb2.block (w.heap.size + 1) (by omega)).trans Hch.out)
 have hl2 : w.heap.size + 1 < w2.heap.size := by omega
 have hl20 : w.heap.size < w2.heap.size := by omega
 clear hb2 Hp0 Hch c0 c1 c2 c3 c4 c5 c6 c7 c8 HC
 obtain ⟨c0, c1, c2, c3, c4, c5, c6, c7, c8⟩ := nine_of Hp2.out
 have HA := Lib.hid (all_l (HP.out.below Hw2.out) Hck.out)
 go_wp2_with fail
 refine HA.out.mono ?_
 rintro en w3 ⟨hb3, ⟨hn, rfl⟩ | ⟨v, xs, hs, rfl, hX, hxl⟩⟩
 ·have hro := Lib.hid (show roadsOf p = none by unfold roadsOf; rw [hn]; rfl)
  have Hw3 := Lib.hid (below_step Hw2.out hb3 Hw2.out.size)
  have hch3 := (hb3.block (w.heap.size + 1) hl2).trans Hch2.out
  have hb3s := hb3.size
  clear hn hb3 c0 c1 c2 c3 c4 c5 c6 c7 c8 HA
  have fr : ∀ o, w3.frozen? ⟨w.heap.size + 1, o, none⟩ = false := fun o => frozen_of_row w3 (w.heap.size + 1) o _ _ hch3
  have hrl : w.heap.size + 1 < w3.heap.size := (Array.getElem?_eq_some_iff.1 hch3).1
  obtain ⟨z0, z1, z2, z3, z4, z5, z6, z7, z8, z9⟩ := ten_of hch3
  have Hch := Lib.hid hch3
  clear hch3
  go_wp2_with fail
  refine name_world fun W8 hW8 => ?_
  have hbx : W8.heap[w.heap.size + 1]? = some (.cells #[.slice none 0 0, .slice none 0 0, .slice none 0 0, .slice none 0 0, .int .i64 0, .int .i64 0, .int .i64 0, .int .i64 0, .bool false, .slice none 0 0] 59) ∧ w3.grownBy W8 (some (w.heap.size + 1)) := by
   rw [hW8]; exact box10 Hch.out _ _ _ _ _ _ _ _ _ _
  obtain ⟨hbx, hg8⟩ := hbx
  obtain ⟨y0, y1, y2, y3, y4, y5, y6, y7, y8, y9⟩ := ten_of hbx
  try rw [Exit.noGoto_ret]
  refine bodyPost_ret (v := .tuple #[.agg #[.slice none 0 0, .slice none 0 0, .slice none 0 0, .slice none 0 0, .int .i64 0, .int .i64 0, .int .i64 0, .int .i64 0, .bool false, .slice none 0 0], .int .i64 3]) (by simp [results, Try.results24, go_sem, y0, y1, y2, y3, y4, y5, y6, y7, y8, y9]) rfl ?_
  have hz8 := hg8.size
  have Hb8 : Below w.heap.size w W8 := Below.grown Hw3.out hg8 (by omega) (fun k hk => by
   simp only [Option.some.injEq] at hk
   omega)
  clear hW8 hbx y0 y1 y2 y3 y4 y5 y6 y7 y8 y9
  exact ⟨Hb8, .inl ⟨hro.out, rfl⟩⟩
 ·obtain ⟨ao, co, rfl, _, hoc⟩ := own_slice hX.own
  have Hs := Lib.hid hs
  have HX := Lib.hid hX
  have Hb3 := Lib.hid hb3
  have Hoc := Lib.hid (show ao = none → co = 0 from fun h => (hoc h).2)
  clear hs hX hb3 hoc c0 c1 c2 c3 c4 c5 c6 c7 c8 HA
  go_wp2_with fail
  go_loopg [7] xs.length (fun k s7 wr => ∃ (i : Nat) (ys : List RoadV), i + k = xs.length ∧ s7 = .int .i64 i ∧ Hid (OwnR wr w2.heap.size (.slice ao xs.length co) ys) ∧ Hid (ys.length = xs.length) ∧ Hid (ys.map (·.r) = ((xs.map (·.r)).take i).map (flank p) ++ (xs.map (·.r)).drop i) ∧ Hid (Below w2.heap.size w2 wr))
  case atStart => exact ⟨0, xs, by omega, rfl, HX.out, rfl, Lib.hid (by simp), Hb3.out⟩
  case round =>
   obtain ⟨i, ys, hk, rfl, HX, HL, HR, HB⟩ := hrel
   obtain ⟨wo, rfl⟩ : ∃ wo : World, wo = wr := ⟨_, rfl⟩
   have Hk := Lib.hid hk
   clear hk
   have hp4 := (HB.out.block w.heap.size hl20).trans Hp2.out
   have hch4 := (HB.out.block (w.heap.size + 1) hl2).trans Hch2.out
   have hpl : w.heap.size < wo.heap.size := Nat.lt_of_lt_of_le hl20 HB.out.size
   obtain ⟨c0, c1, c2, c3, c4, c5, c6, c7, c8⟩ := nine_of hp4
   by_cases hlt : i < xs.length
   ·have Hch4 := Lib.hid hch4
    clear hp4 hch4
    have hyl := HL.out
    have hne : ys ≠ [] := fun h => by rw [h] at hyl; simp at hyl; omega
    obtain ⟨g, cg, hv, hgb, hgl, cur, hcur⟩ := HX.out.some hne
    simp only [Value.slice.injEq] at hv
    obtain ⟨rfl, hvl, rfl⟩ := hv
    clear hvl
    obtain ⟨x, hx⟩ := get_some (n := xs.length) hyl hlt
    have hL : (xs.map (·.r))[i]? = some x.r := by
     rw [← get_step (f := flank p), ← HR.out, List.getElem?_map, hx]; rfl
    obtain ⟨q1, q2, hq⟩ := allR_ok Hck.out Hs.out (List.mem_of_getElem? hL)
    have hRx := HX.out.each x (List.mem_of_getElem? hx)
    have hlx : i < ys.length := by omega
    have hst := set_step (f := flank p) hL
    rw [← HR.out] at hst
    obtain ⟨⟨sa6, sn6, sc6, na6, nn6, nc6, ga6, gn6, gc6, za6, zn6, zc6, ha6, hn6, hc6⟩, r6⟩ := x
    have HFl := Lib.hid (flank_any wo.drew ⟨ae, ne, ce, aj, nj, cj, as_, ns, cs, al, nl, cl, lv⟩ p (HP.out.below (below_step Hw2.out (below_step (HB.out) (Below.refl _ _).drew HB.out.size) Hw2.out.size)) Hck.out ⟨sa6, sn6, sc6, na6, nn6, nc6, ga6, gn6, gc6, za6, zn6, zc6, ha6, hn6, hc6⟩ r6 (hRx.below (Below.refl _ _).drew) (by have := hRx.s.len; have := hq.len; dsimp only at *; omega) (by have := hRx.n.len; have := hq.needs_le; dsimp only at *; omega) hq.ends)
    dsimp only [PV.val, RV.val] at HFl
    have hO := HX.out.own
    rw [hyl] at hO
    have f0 : wo.cell? ⟨g, i * 9, none⟩ = some (.int .i64 r6.frm) := own_at encRoad_len hO (k := 0) hx hlt rfl
    have f1 : wo.cell? ⟨g, i * 9 + 1, none⟩ = some (.int .i64 r6.to) := own_at encRoad_len hO (k := 1) hx hlt rfl
    have f2 : wo.cell? ⟨g, i * 9 + 2, none⟩ = some (.int .i64 r6.fin) := own_at encRoad_len hO (k := 2) hx hlt rfl
    have f3 : wo.cell? ⟨g, i * 9 + 3, none⟩ = some (.slice sa6 sn6 sc6) := own_at encRoad_len hO (k := 3) hx hlt rfl
    have f4 : wo.cell? ⟨g, i * 9 + 4, none⟩ = some (.slice na6 nn6 nc6) := own_at encRoad_len hO (k := 4) hx hlt rfl
    have f5 : wo.cell? ⟨g, i * 9 + 5, none⟩ = some (.slice ga6 gn6 gc6) := own_at encRoad_len hO (k := 5) hx hlt rfl
    have f6 : wo.cell? ⟨g, i * 9 + 6, none⟩ = some (.slice za6 zn6 zc6) := own_at encRoad_len hO (k := 6) hx hlt rfl
    have f7 : wo.cell? ⟨g, i * 9 + 7, none⟩ = some (.slice ha6 hn6 hc6) := own_at encRoad_len hO (k := 7) hx hlt rfl
    have f8 : wo.cell? ⟨g, i * 9 + 8, none⟩ = some (.bool r6.bare) := own_at encRoad_len hO (k := 8) hx hlt rfl
    have Hst := Lib.hid hst
    have Hx := Lib.hid hx
    have Hgb := Lib.hid hgb
    have Hlx := Lib.hid hlx
    have Hcur := Lib.hid hcur
    clear hL hq hRx hst hO hne hyl hx hlx hcur hgb
    go_wp2_with fail
    have hSall : ∀ w' : World, Below (wo).heap.size (wo) w' → (w'.cell? ⟨w.heap.size, 0, none⟩ = some (.slice ae ne ce) ∧ w'.cell? ⟨w.heap.size, 1, none⟩ = some (.slice aj nj cj) ∧ w'.cell? ⟨w.heap.size, 2, none⟩ = some (.slice as_ ns cs) ∧ w'.cell? ⟨w.heap.size, 3, none⟩ = some (.slice al nl cl) ∧ w'.cell? ⟨w.heap.size, 4, none⟩ = some (.int .i64 p.top) ∧ w'.cell? ⟨w.heap.size, 5, none⟩ = some (.int .i64 p.brake) ∧ w'.cell? ⟨w.heap.size, 6, none⟩ = some (.int .i64 p.margin) ∧ w'.cell? ⟨w.heap.size, 7, none⟩ = some (.int .i64 p.throw) ∧ w'.cell? ⟨w.heap.size, 8, none⟩ = some (.bool p.hard) ∧ w'.cell? ⟨g, i * 9, none⟩ = some (.int .i64 r6.frm) ∧ w'.cell? ⟨g, i * 9 + 1, none⟩ = some (.int .i64 r6.to) ∧ w'.cell? ⟨g, i * 9 + 2, none⟩ = some (.int .i64 r6.fin) ∧ w'.cell? ⟨g, i * 9 + 3, none⟩ = some (.slice sa6 sn6 sc6) ∧ w'.cell? ⟨g, i * 9 + 4, none⟩ = some (.slice na6 nn6 nc6) ∧ w'.cell? ⟨g, i * 9 + 5, none⟩ = some (.slice ga6 gn6 gc6) ∧ w'.cell? ⟨g, i * 9 + 6, none⟩ = some (.slice za6 zn6 zc6) ∧ w'.cell? ⟨g, i * 9 + 7, none⟩ = some (.slice ha6 hn6 hc6) ∧ w'.cell? ⟨g, i * 9 + 8, none⟩ = some (.bool r6.bare)) := fun w' hb => ⟨(hb.cell (p := ⟨w.heap.size, 0, none⟩) hpl).trans c0, (hb.cell (p := ⟨w.heap.size, 1, none⟩) hpl).trans c1, (hb.cell (p := ⟨w.heap.size, 2, none⟩) hpl).trans c2, (hb.cell (p := ⟨w.heap.size, 3, none⟩) hpl).trans c3, (hb.cell (p := ⟨w.heap.size, 4, none⟩) hpl).trans c4, (hb.cell (p := ⟨w.heap.size, 5, none⟩) hpl).trans c5, (hb.cell (p := ⟨w.heap.size, 6, none⟩) hpl).trans c6, (hb.cell (p := ⟨w.heap.size, 7, none⟩) hpl).trans c7, (hb.cell (p := ⟨w.heap.size, 8, none⟩) hpl).trans c8, (hb.cell (p := ⟨g, i * 9, none⟩) hgl).trans f0, (hb.cell (p := ⟨g, i * 9 + 1, none⟩) hgl).trans f1, (hb.cell (p := ⟨g, i * 9 + 2, none⟩) hgl).trans f2, (hb.cell (p := ⟨g, i * 9 + 3, none⟩) hgl).trans f3, (hb.cell (p := ⟨g, i * 9 + 4, none⟩) hgl).trans f4, (hb.cell (p := ⟨g, i * 9 + 5, none⟩) hgl).trans f5, (hb.cell (p := ⟨g, i * 9 + 6, none⟩) hgl).trans f6, (hb.cell (p := ⟨g, i * 9 + 7, none⟩) hgl).trans f7, (hb.cell (p := ⟨g, i * 9 + 8, none⟩) hgl).trans f8⟩
    refine wp_region_noPanic ?_
    refine region_ob (S := fun w' => w'.cell? ⟨w.heap.size, 0, none⟩ = some (.slice ae ne ce) ∧ w'.cell? ⟨w.heap.size, 1, none⟩ = some (.slice aj nj cj) ∧ w'.cell? ⟨w.heap.size, 2, none⟩ = some (.slice as_ ns cs) ∧ w'.cell? ⟨w.heap.size, 3, none⟩ = some (.slice al nl cl) ∧ w'.cell? ⟨w.heap.size, 4, none⟩ = some (.int .i64 p.top) ∧ w'.cell? ⟨w.heap.size, 5, none⟩ = some (.int .i64 p.brake) ∧ w'.cell? ⟨w.heap.size, 6, none⟩ = some (.int .i64 p.margin) ∧ w'.cell? ⟨w.heap.size, 7, none⟩ = some (.int .i64 p.throw) ∧ w'.cell? ⟨w.heap.size, 8, none⟩ = some (.bool p.hard) ∧ w'.cell? ⟨g, i * 9, none⟩ = some (.int .i64 r6.frm) ∧ w'.cell? ⟨g, i * 9 + 1, none⟩ = some (.int .i64 r6.to) ∧ w'.cell? ⟨g, i * 9 + 2, none⟩ = some (.int .i64 r6.fin) ∧ w'.cell? ⟨g, i * 9 + 3, none⟩ = some (.slice sa6 sn6 sc6) ∧ w'.cell? ⟨g, i * 9 + 4, none⟩ = some (.slice na6 nn6 nc6) ∧ w'.cell? ⟨g, i * 9 + 5, none⟩ = some (.slice ga6 gn6 gc6) ∧ w'.cell? ⟨g, i * 9 + 6, none⟩ = some (.slice za6 zn6 zc6) ∧ w'.cell? ⟨g, i * 9 + 7, none⟩ = some (.slice ha6 hn6 hc6) ∧ w'.cell? ⟨g, i * 9 + 8, none⟩ = some (.bool r6.bare)) (ob := fun t => decide (t < 8)) (by kernel_rfl) ?_
    refine tk 0 (.slice (some ⟨g, 0, none⟩) xs.length co) ?_ (hSall _ (Below.refl _ _).drew) ?_
    ·intro w' hSw
     (try dsimp only at hSw)
     go_simp
    (try simp only [zA, zC, Act.put, zD, zE, zF])
    refine tk 1 (.int .i64 i) ?_ (hSall _ (Below.refl _ _).drew) ?_
    ·intro w' hSw
     (try dsimp only at hSw)
     go_simp
    (try simp only [zA, zB, zC, Act.put, zD, zE, zF])
    refine tk 2 (.agg #[.slice ae ne ce, .slice aj nj cj, .slice as_ ns cs, .slice al nl cl, .int .i64 p.top, .int .i64 p.brake, .int .i64 p.margin, .int .i64 p.throw, .bool p.hard]) ?_ (hSall _ (Below.refl _ _).drew) ?_
    ·intro w' hSw
     (try dsimp only at hSw)
     go_simp
    (try simp only [zA, zB, zC, Act.put, zD, zE, zF])
    refine tk 3 (.slice (some ⟨g, 0, none⟩) xs.length co) ?_ (hSall _ (Below.refl _ _).drew) ?_
    ·intro w' hSw
     (try dsimp only at hSw)
     go_simp
    (try simp only [zA, zB, zC, Act.put, zD, zE, zF])
    refine tk 4 (.int .i64 i) ?_ (hSall _ (Below.refl _ _).drew) ?_
    ·intro w' hSw
     (try dsimp only at hSw)
     go_simp
    (try simp only [zA, zB, zC, Act.put, zD, zE, zF])
    refine tk 5 (.pointer (some ⟨g, i * 9, none⟩)) ?_ (hSall _ (Below.refl _ _).drew) ?_
    ·intro w' hSw
     (try dsimp only at hSw)
     go_simp
    (try simp only [zA, zB, zC, Act.put, zD, zE, zF])
    refine tk 6 (.agg #[.int .i64 r6.frm, .int .i64 r6.to, .int .i64 r6.fin, .slice sa6 sn6 sc6, .slice na6 nn6 nc6, .slice ga6 gn6 gc6, .slice za6 zn6 zc6, .slice ha6 hn6 hc6, .bool r6.bare]) ?_ (hSall _ (Below.refl _ _).drew) ?_
    ·intro w' hSw
     (try dsimp only at hSw)
     go_simp
    (try simp only [zA, zB, zC, Act.put, zD, zE, zF])
    refine ob_step (i := 7) (by kernel_rfl) rfl (fun K hK => ?_)
    go_simp
    refine HFl.out.mono ?_
    rintro en w8 ⟨⟨sa8, sn8, sc8, na8, nn8, nc8, ga8, gn8, gc8, za8, zn8, zc8, ha8, hn8, hc8⟩, rfl, hR8, had8, hb8⟩
    dsimp only [RV.val]
    have hX8 := HX.out.below (below_step (Below.refl _ _).drew hb8 (Nat.le_refl _))
    have cur8 := (hb8.block g hgl).trans Hcur.out
    have fz : ∀ o, w8.frozen? ⟨g, o, none⟩ = false := fun o => frozen_of_row w8 g o _ _ cur8
    have hgl8 : g < w8.heap.size := Nat.lt_of_lt_of_le hgl hb8.size
    have hO8 := hX8.own
    rw [hX8.roads.2] at hO8
    have f0 : w8.cell? ⟨g, i * 9, none⟩ = some (.int .i64 r6.frm) := own_at encRoad_len hO8 (k := 0) Hx.out (by rw [← hX8.roads.2]; exact Hlx.out) rfl
    have f1 : w8.cell? ⟨g, i * 9 + 1, none⟩ = some (.int .i64 r6.to) := own_at encRoad_len hO8 (k := 1) Hx.out (by rw [← hX8.roads.2]; exact Hlx.out) rfl
    have f2 : w8.cell? ⟨g, i * 9 + 2, none⟩ = some (.int .i64 r6.fin) := own_at encRoad_len hO8 (k := 2) Hx.out (by rw [← hX8.roads.2]; exact Hlx.out) rfl
    have f3 : w8.cell? ⟨g, i * 9 + 3, none⟩ = some (.slice sa6 sn6 sc6) := own_at encRoad_len hO8 (k := 3) Hx.out (by rw [← hX8.roads.2]; exact Hlx.out) rfl
    have f4 : w8.cell? ⟨g, i * 9 + 4, none⟩ = some (.slice na6 nn6 nc6) := own_at encRoad_len hO8 (k := 4) Hx.out (by rw [← hX8.roads.2]; exact Hlx.out) rfl
    have f5 : w8.cell? ⟨g, i * 9 + 5, none⟩ = some (.slice ga6 gn6 gc6) := own_at encRoad_len hO8 (k := 5) Hx.out (by rw [← hX8.roads.2]; exact Hlx.out) rfl
    have f6 : w8.cell? ⟨g, i * 9 + 6, none⟩ = some (.slice za6 zn6 zc6) := own_at encRoad_len hO8 (k := 6) Hx.out (by rw [← hX8.roads.2]; exact Hlx.out) rfl
    have f7 : w8.cell? ⟨g, i * 9 + 7, none⟩ = some (.slice ha6 hn6 hc6) := own_at encRoad_len hO8 (k := 7) Hx.out (by rw [← hX8.roads.2]; exact Hlx.out) rfl
    have f8 : w8.cell? ⟨g, i * 9 + 8, none⟩ = some (.bool r6.bare) := own_at encRoad_len hO8 (k := 8) Hx.out (by rw [← hX8.roads.2]; exact Hlx.out) rfl
    refine hK _ _ (fun _ => (hSall _ (below_step (Below.refl _ _).drew hb8 (Nat.le_refl _)))) ?_
    clear hK K
    (try simp only [zA, zB, zC, Act.put, zD, zE, zF])
    refine ob_step (i := 8) (by kernel_rfl) rfl (fun K hK => ?_)
    go_simp
    refine hK _ _ (fun h => absurd h (by decide)) ?_
    clear hK K
    (try simp only [zA, zB, zC, Act.put, zD, zE, zF])
    refine ob_step (i := 9) (by kernel_rfl) rfl (fun K hK => ?_)
    go_simp
    refine hK _ _ (fun h => absurd h (by decide)) ?_
    clear hK K
    (try simp only [zA, zB, zC, Act.put, zD, zE, zF])
    refine ob_done (by kernel_rfl) (NoPanic.normal ?_) _
    clear hSall

    refine name_world fun w9 hw9 => ?_
    have hb89 := below_step HB.out (below_step (Below.refl _ _).drew hb8 (Nat.le_refl _)) HB.out.size
    have hput := OwnR.put hX8 Hx.out ⟨⟨sa8, sn8, sc8, na8, nn8, nc8, ga8, gn8, gc8, za8, zn8, zc8, ha8, hn8, hc8⟩, flank p r6⟩ hR8 (fun a ha k hk => by
     have h1 := had8 a ha k hk
     have h2 := HB.out.size
     have h3 : wo.heap.size ≤ k := h1.1
     exact ⟨by omega, h1.2, by omega⟩)
    dsimp only at hput
    rw [← hw9] at hput
    obtain ⟨hX9, hg9⟩ := hput
    have hB9 : Below w2.heap.size w2 w9 := hb89.grown hg9 hb89.size (fun k hk => by
     simp only [Option.some.injEq] at hk
     have := Hgb.out
     omega)
    have HX9 := Lib.hid hX9
    have HR9 := Lib.hid (show (ys.set i ⟨⟨sa8, sn8, sc8, na8, nn8, nc8, ga8, gn8, gc8, za8, zn8, zc8, ha8, hn8, hc8⟩, flank p r6⟩).map (·.r) = ((xs.map (·.r)).take (i + 1)).map (flank p) ++ (xs.map (·.r)).drop (i + 1) by rw [List.map_set]; exact Hst.out)
    have HB9 := Lib.hid hB9
    clear hw9 hX9 hg9 hB9 hb89 hX8 hR8 had8 hb8 hO8 cur8 fz f0 f1 f2 f3 f4 f5 f6 f7 f8 hgl hgl8
    go_wp2_with fail
    go_roundg (gk - 1)
    case measure => have := Hk.out; omega
    case rel => exact ⟨i + 1, _, by have := Hk.out; omega, by go_num, HX9.out, by rw [List.length_set]; exact HL.out, HR9.out, HB9.out⟩
   ·have hin : i = xs.length := by have := Hk.out; omega
    have hro := Lib.hid (show roadsOf p = some (ys.map (·.r)) by
     have h2 : (xs.map (·.r)).length = xs.length := List.length_map ..
     have h1 := HR.out
     rw [hin, ← h2, List.take_length, List.drop_length, List.append_nil] at h1
     rw [h1]; unfold roadsOf; rw [Hs.out]; rfl)
    have Hlt := Lib.hid hlt
    have d1 : decide ((i : Int) < (xs.length : Nat)) = false := by simp; omega
    clear hin hp4
    have fr : ∀ o, wo.frozen? ⟨w.heap.size + 1, o, none⟩ = false := fun o => frozen_of_row wo (w.heap.size + 1) o _ _ hch4
    have hrl : w.heap.size + 1 < wo.heap.size := (Array.getElem?_eq_some_iff.1 hch4).1
    obtain ⟨z0, z1, z2, z3, z4, z5, z6, z7, z8, z9⟩ := ten_of hch4
    have Hch := Lib.hid hch4
    clear hch4
    go_wp2_with fail
    refine name_world fun W8 hW8 => ?_
    have hbx : W8.heap[w.heap.size + 1]? = some (.cells #[.slice ae ne ce, .slice aj nj cj, .slice as_ ns cs, .slice al nl cl, .int .i64 p.top, .int .i64 p.brake, .int .i64 p.margin, .int .i64 p.throw, .bool p.hard, .slice ao xs.length co] 59) ∧ wo.grownBy W8 (some (w.heap.size + 1)) := by
     rw [hW8]; exact box10 Hch.out _ _ _ _ _ _ _ _ _ _
    obtain ⟨hbx, hg8⟩ := hbx
    obtain ⟨y0, y1, y2, y3, y4, y5, y6, y7, y8, y9⟩ := ten_of hbx
    try rw [Exit.noGoto_ret]
    refine bodyPost_ret (v := .tuple #[.agg #[.slice ae ne ce, .slice aj nj cj, .slice as_ ns cs, .slice al nl cl, .int .i64 p.top, .int .i64 p.brake, .int .i64 p.margin, .int .i64 p.throw, .bool p.hard, .slice ao xs.length co], .int .i64 0]) (by simp [results, Try.results24, go_sem, y0, y1, y2, y3, y4, y5, y6, y7, y8, y9]) rfl ?_
    have hz8 := hg8.size
    have Hb8 : Below w.heap.size w W8 := Below.grown (below_step Hw2.out HB.out Hw2.out.size) hg8 (by omega) (fun k hk => by
     simp only [Option.some.injEq] at hk
     omega)
    clear hW8 hbx y0 y1 y2 y3 y4 y5 y6 y7 y8 y9
    refine ⟨Hb8, .inr ⟨ao, xs.length, co, ys, hro.out, hxl, own_le (by have := HX.out.own; rw [HL.out] at this; exact this), ⟨?_, fun x hx => ?_⟩, Hoc.out, rfl⟩⟩
    ·refine (HX.out.roads.1.row).kept fun k hk hlt => hg8.block k hlt (fun hc => ?_)
     have h1 := own_blocks HX.out.own (Nat.le_refl _) k hk
     simp only [Option.some.injEq] at hc
     omega
    ·refine (HX.out.each x hx).kept fun a ha k hk hlt => hg8.block k hlt (fun hc => ?_)
     have h1 := HX.out.off x hx a ha k hk
     simp only [Option.some.injEq] at hc
     omega
end Go.Proofs.Ytnkpiijljfjmkaa

/- Walk of clash.Free. Condition: the net and the roads are read. -/
set_option maxRecDepth 1000000
namespace Go.Proofs.Ytnkpiijljfjmkaa
open Go.ChangeShapes Go.WideShapes Go.ChangeAt Go.RowKit Go.Sort

def freeGo (p : Plan) : List Road → List Road → Bool
 | _, [] => true
 | met, a :: r => met.all (fun b => decide (why p a b = 0)) && freeGo p (met ++ [a]) r
def freeR (p : Plan) (l : List Road) : Bool := freeGo p [] l
theorem all_drop {α : Type} {l : List α} {f : α → Bool} {j : Nat} {y : α} (h : l[j]? = some y) : (l.drop j).all f = (f y && (l.drop (j + 1)).all f) := by rw [drop_cons h]; rfl
/-- block b holds a road, whatever comes -/
theorem rbox_keep {w w' : World} {b : Nat} {o : Obj} (h : w.heap[b]? = some o) (hb : Below w.heap.size w w') : w'.heap[b]? = some o := (hb.block b (Array.getElem?_eq_some_iff.1 h).1).trans h
set_option maxHeartbeats 2000000 in
theorem free_any (w : World) (nb : Nat) (p : Plan) (h : NetAt w nb p) (a : Option Addr) (n c : Nat) (xs : List RoadV) (hr : Roads w a n xs) (hn : n ≤ c) (hn2 : n ≤ 1000) (hl : ∀ x ∈ xs, Lite x.v) :
  Calls Try.prog 22 #[.pointer (some ⟨nb, 0, none⟩), .slice a n c] w fun en w' => en = .returned (.bool (freeR p (xs.map (·.r)))) ∧ Below w.heap.size w w' := by
 have HN := Lib.hid h
 have Hr := Lib.hid hr
 have Hl := Lib.hid hl
 have Hlen := Lib.hid hr.row.len
 clear h hr hl
 go_enter Try.func22, Try.ntmps22
 go_wp2_with fail
 go_loopg [11] n (fun k s wr => ∃ (i : Nat), i + k = n ∧ s = .int .i64 i ∧ Hid (freeGo p ((xs.map (·.r)).take i) ((xs.map (·.r)).drop i) = freeR p (xs.map (·.r))) ∧ Hid (Below w.heap.size w wr))
 case atStart => exact ⟨0, by omega, rfl, rfl, Below.refl _ _⟩
 case round =>
  obtain ⟨i, hk, rfl, HR, HB⟩ := hrel
  obtain ⟨wo, rfl⟩ : ∃ wo : World, wo = wr := ⟨_, rfl⟩
  obtain ⟨ko, rfl⟩ : ∃ ko : Nat, ko = gk := ⟨_, rfl⟩
  have Hk := Lib.hid hk
  clear hk
  by_cases hlt : i < n
  ·obtain ⟨x, hx⟩ := get_some Hlen.out hlt
   have Hlx := Lib.hid (Hl.out x (List.mem_of_getElem? hx))
   have HAx := Lib.hid (Hr.out.each x (List.mem_of_getElem? hx))
   have hxr : (xs.map (·.r))[i]? = some x.r := by rw [List.getElem?_map, hx]; rfl
   have hdr := drop_cons hxr
   have htk := take_snoc_get hxr
   obtain ⟨b, off, rfl, hb, hcell⟩ := (Hr.out.row.below HB.out).road hx
   obtain ⟨⟨sa1, sn1, sc1, na1, nn1, nc1, ga1, gn1, gc1, za1, zn1, zc1, ha1, hn1, hc1⟩, r1⟩ := x
   have f0 : wo.cell? ⟨b, off + i * 9, none⟩ = some (.int .i64 r1.frm) := hcell 0 _ rfl
   have f1 : wo.cell? ⟨b, off + i * 9 + 1, none⟩ = some (.int .i64 r1.to) := hcell 1 _ rfl
   have f2 : wo.cell? ⟨b, off + i * 9 + 2, none⟩ = some (.int .i64 r1.fin) := hcell 2 _ rfl
   have f3 : wo.cell? ⟨b, off + i * 9 + 3, none⟩ = some (.slice sa1 sn1 sc1) := hcell 3 _ rfl
   have f4 : wo.cell? ⟨b, off + i * 9 + 4, none⟩ = some (.slice na1 nn1 nc1) := hcell 4 _ rfl
   have f5 : wo.cell? ⟨b, off + i * 9 + 5, none⟩ = some (.slice ga1 gn1 gc1) := hcell 5 _ rfl
   have f6 : wo.cell? ⟨b, off + i * 9 + 6, none⟩ = some (.slice za1 zn1 zc1) := hcell 6 _ rfl
   have f7 : wo.cell? ⟨b, off + i * 9 + 7, none⟩ = some (.slice ha1 hn1 hc1) := hcell 7 _ rfl
   have f8 : wo.cell? ⟨b, off + i * 9 + 8, none⟩ = some (.bool r1.bare) := hcell 8 _ rfl
   dsimp only at hdr htk Hlx HAx
   have Hdr := Lib.hid hdr
   have Htk := Lib.hid htk
   clear hcell hxr hdr htk hx
   go_wp2_with fail
   refine name_code fun w4 hw4 => ?_
   have hx4 : w4.heap[wo.heap.size]? = some (.cells #[.int .i64 r1.frm, .int .i64 r1.to, .int .i64 r1.fin, .slice sa1 sn1 sc1, .slice na1 nn1 nc1, .slice ga1 gn1 gc1, .slice za1 zn1 zc1, .slice ha1 hn1 hc1, .bool r1.bare] 38) := by rw [hw4]; exact heap_alloc_new wo _
   have hb4 : Below wo.heap.size wo w4 := by rw [hw4]; exact below_new1 wo _
   have Hx4 := Lib.hid hx4
   have Hb4 := Lib.hid (below_step HB.out hb4 HB.out.size)
   clear hw4 hx4 hb4 f0 f1 f2 f3 f4 f5 f6 f7 f8
   go_loopg [20] i (fun k s wr => ∃ (j : Nat), j + k = i ∧ s = .int .i64 j ∧ Hid ((((xs.map (·.r)).take i).drop j).all (fun b => decide (why p r1 b = 0)) = ((xs.map (·.r)).take i).all (fun b => decide (why p r1 b = 0))) ∧ Hid (Below w4.heap.size w4 wr))
   case atStart => exact ⟨0, by omega, rfl, rfl, Below.refl _ _⟩
   case round =>
    obtain ⟨j, hk, rfl, HJ, HD⟩ := hrel
    obtain ⟨w5, rfl⟩ : ∃ w5 : World, w5 = wr := ⟨_, rfl⟩
    have Hk2 := Lib.hid hk
    clear hk
    have HBd := Lib.hid (below_step Hb4.out HD.out Hb4.out.size)
    by_cases hjt : j < i
    ·obtain ⟨y, hy⟩ := get_some Hlen.out (show j < n by omega)
     have Hly := Lib.hid (Hl.out y (List.mem_of_getElem? hy))
     have HAy := Lib.hid (Hr.out.each y (List.mem_of_getElem? hy))
     have hyr : ((xs.map (·.r)).take i)[j]? = some y.r := by rw [List.getElem?_take_of_lt hjt, List.getElem?_map, hy]; rfl
     have had := all_drop (f := fun b => decide (why p r1 b = 0)) hyr
     rw [HJ.out] at had
     obtain ⟨b', off', hba, hb5, hcell⟩ := (Hr.out.row.below HBd.out).road hy
     cases hba
     obtain ⟨⟨sa2, sn2, sc2, na2, nn2, nc2, ga2, gn2, gc2, za2, zn2, zc2, ha2, hn2, hc2⟩, r2⟩ := y
     have g0 : w5.cell? ⟨b, off + j * 9, none⟩ = some (.int .i64 r2.frm) := hcell 0 _ rfl
     have g1 : w5.cell? ⟨b, off + j * 9 + 1, none⟩ = some (.int .i64 r2.to) := hcell 1 _ rfl
     have g2 : w5.cell? ⟨b, off + j * 9 + 2, none⟩ = some (.int .i64 r2.fin) := hcell 2 _ rfl
     have g3 : w5.cell? ⟨b, off + j * 9 + 3, none⟩ = some (.slice sa2 sn2 sc2) := hcell 3 _ rfl
     have g4 : w5.cell? ⟨b, off + j * 9 + 4, none⟩ = some (.slice na2 nn2 nc2) := hcell 4 _ rfl
     have g5 : w5.cell? ⟨b, off + j * 9 + 5, none⟩ = some (.slice ga2 gn2 gc2) := hcell 5 _ rfl
     have g6 : w5.cell? ⟨b, off + j * 9 + 6, none⟩ = some (.slice za2 zn2 zc2) := hcell 6 _ rfl
     have g7 : w5.cell? ⟨b, off + j * 9 + 7, none⟩ = some (.slice ha2 hn2 hc2) := hcell 7 _ rfl
     have g8 : w5.cell? ⟨b, off + j * 9 + 8, none⟩ = some (.bool r2.bare) := hcell 8 _ rfl
     dsimp only at had Hly HAy
     have Had := Lib.hid had
     clear hcell hyr had hy
     have hxl : wo.heap.size < w5.heap.size := Nat.lt_of_lt_of_le (Array.getElem?_eq_some_iff.1 Hx4.out).1 HD.out.size
     have hx5 := rbox_keep Hx4.out HD.out
     obtain ⟨f0, f1, f2, f3, f4, f5, f6, f7, f8⟩ := nine_of hx5
     have HW := Lib.hid (fun (u : World) (hu : Below w5.heap.size w5 u) => why_any u nb p (HN.out.below (below_step HBd.out hu HBd.out.size)) ⟨sa1, sn1, sc1, na1, nn1, nc1, ga1, gn1, gc1, za1, zn1, zc1, ha1, hn1, hc1⟩ ⟨sa2, sn2, sc2, na2, nn2, nc2, ga2, gn2, gc2, za2, zn2, zc2, ha2, hn2, hc2⟩ r1 r2 (HAx.out.below (below_step HBd.out hu HBd.out.size)) (HAy.out.below (below_step HBd.out hu HBd.out.size)) Hlx.out Hly.out)
     dsimp only [RV.val] at HW
     clear hx5
     go_wp2_with fail
     refine (HW.out _ (below_new1 w5 _)).mono ?_
     rintro en w7 ⟨rfl, hb7⟩
     have HD7 := Lib.hid (below_step (below_step HD.out (below_new1 w5 (.cells #[.int .i64 r2.frm, .int .i64 r2.to, .int .i64 r2.fin, .slice sa2 sn2 sc2, .slice na2 nn2 nc2, .slice ga2 gn2 gc2, .slice za2 zn2 zc2, .slice ha2 hn2 hc2, .bool r2.bare] 38)) HD.out.size) hb7 (by have := HD.out.size; simp; omega))
     clear hb7 f0 f1 f2 f3 f4 f5 f6 f7 f8 g0 g1 g2 g3 g4 g5 g6 g7 g8
     by_cases hwy : why p r1 r2 = 0
     ·have d3 : (why p r1 r2 != 0) = false := by simp [hwy]
      have Hd := Lib.hid (show (((xs.map (·.r)).take i).drop (j + 1)).all (fun b => decide (why p r1 b = 0)) = ((xs.map (·.r)).take i).all (fun b => decide (why p r1 b = 0)) by rw [Had.out, decide_eq_true hwy, Bool.true_and])
      clear hwy
      go_wp2_with fail
      go_roundg (gk - 1)
      case measure => have := Hk2.out; omega
      case rel => exact ⟨j + 1, by have := Hk2.out; omega, by go_num, Hd.out, HD7.out⟩
     ·have d3 : (why p r1 r2 != 0) = true := by simpa using hwy
      have Hn := Lib.hid (show freeR p (xs.map (·.r)) = false by
       rw [← HR.out, Hdr.out, freeGo, Had.out, decide_eq_false hwy]; rfl)
      clear hwy
      go_wp2_with fail
      go_ret
      exact ⟨by rw [Hn.out]; rfl, below_step Hb4.out HD7.out Hb4.out.size⟩
    ·have hin : j = i := by have := Hk2.out; omega
     have Hall := Lib.hid (show ((xs.map (·.r)).take i).all (fun b => decide (why p r1 b = 0)) = true by
      rw [← HJ.out, hin, List.drop_eq_nil_of_le (by rw [List.length_take]; exact Nat.min_le_left _ _)]; rfl)
     have Hjt := Lib.hid hjt
     have d2 : decide ((j : Int) < (i : Int)) = false := by simp; omega
     have Hnx := Lib.hid (show freeGo p ((xs.map (·.r)).take (i + 1)) ((xs.map (·.r)).drop (i + 1)) = freeR p (xs.map (·.r)) by
      rw [← HR.out, Hdr.out, freeGo, Hall.out, Htk.out]; rfl)
     clear hin hjt
     go_wp2_with fail
     go_roundg (ko - 1)
     case measure => have := Hk.out; omega
     case rel => exact ⟨i + 1, by have := Hk.out; omega, by go_num, Hnx.out, HBd.out⟩
  ·have hin : i = n := by have := Hk.out; omega
   have Hn := Lib.hid (show freeR p (xs.map (·.r)) = true by
    rw [← HR.out, hin, ← Hlen.out, ← List.length_map (f := fun x : RoadV => x.r), List.drop_length]; rfl)
   have Hlt := Lib.hid hlt
   have d1 : decide ((i : Int) < (n : Int)) = false := by simp; omega
   clear hin hlt
   go_wp2_with fail
   go_ret
   exact ⟨by rw [Hn.out]; rfl, HB.out⟩
end Go.Proofs.Ytnkpiijljfjmkaa
