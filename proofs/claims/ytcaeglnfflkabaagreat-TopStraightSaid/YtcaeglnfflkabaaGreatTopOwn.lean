/- What a store in a path's rows, or an append of one road, leaves in memory. No condition. -/
import Derived.Test.YtcaeglnfflkabaaGreatTopW4
set_option maxRecDepth 1000000
namespace Go.Proofs.YtcaeglnfflkabaaGreat
open Go.ChangeShapes Go.WideShapes Go.ChangeAt Go.RowKit Go.Sort

theorem info_road : (Tryz.prog.info? 74).map (fun i => (i.zero, i.size, i.bytes)) = some (some (.agg #[.int .i64 0, .int .i64 0, .int .i64 0, .slice none 0 0, .slice none 0 0, .slice none 0 0, .slice none 0 0, .slice none 0 0, .bool false]), 9, 152) := by kernel_rfl
theorem owns_kept {w w' : World} {base size n : Nat} {e : TypeId} {v : Value} {xs : List Value} (h : w.ownsRow base e size v n xs) (hk : ∀ q, v.ownBlock = some q → w'.heap[q]? = w.heap[q]?) : w'.ownsRow base e size v n xs := by
  obtain ⟨q1, q2⟩ := h
  refine ⟨q1, q2.imp id fun ⟨g', cap, cur, hv, hgb, hh, r⟩ => ⟨g', cap, cur, hv, hgb, ?_, r⟩⟩
  rw [hk g' (by rw [hv]; rfl)]
  exact hh
/-- roads of one's own lie as before if only a lower block has changed -/
theorem OwnR.near {w w' : World} {base b : Nat} {v : Value} {xs : List RoadV} (h : OwnR w base v xs) (hb : b < base) (hk : ∀ q, q ≠ b → w'.heap[q]? = w.heap[q]?) (hs : w'.heap.size = w.heap.size) : OwnR w' base v xs :=
  ⟨owns_kept h.own fun q hq => hk q (by have := (h.own.lt q hq).1; omega), fun x hx => (h.each x hx).kept fun a ha q e _ => hk q (by have := (h.off x hx a ha q e).1; omega),
    fun x hx a ha q e => by have h1 := h.off x hx a ha q e; exact ⟨h1.1, by rw [hs]; exact h1.2.1, h1.2.2⟩⟩
/-- a road without needs, guards, zone and holds, that is not bare and begins at s -/
structure Plain (s : Int) (x : RoadV) : Prop where
  frm : x.r.frm = s
  needs : x.r.needs = []
  guards : x.r.guards = []
  zone : x.r.zone = []
  holds : x.r.holds = []
  bare : x.r.bare = false
  na : x.v.na = none ∧ x.v.nn = 0 ∧ x.v.nc = 0
  ga : x.v.ga = none ∧ x.v.gn = 0 ∧ x.v.gc = 0
  za : x.v.za = none ∧ x.v.zn = 0 ∧ x.v.zc = 0
  ha : x.v.ha = none ∧ x.v.hn = 0 ∧ x.v.hc = 0
  len : x.r.steps.length ≤ 12
/-- a road of steps alone -/
def road1 (s to fin : Int) (a : Option Addr) (c : Nat) (xs : List Stp) : RoadV := ⟨⟨a, xs.length, c, none, 0, 0, none, 0, 0, none, 0, 0, none, 0, 0⟩, ⟨s, to, fin, xs, [], [], [], [], false⟩⟩
theorem road1_at {w : World} {s to fin : Int} {a : Option Addr} {c : Nat} {xs : List Stp} (h : Stps w a xs.length xs) (hc : a = none → c = 0) : RoadAt w (road1 s to fin a c xs).v (road1 s to fin a c xs).r :=
  ⟨h, Row.nil _ _, Row.nil _ _, Row.nil _ _, Row.nil _ _, ⟨hc, fun _ => rfl, fun _ => rfl, fun _ => rfl, fun _ => rfl⟩⟩
theorem road1_plain (s to fin : Int) (a : Option Addr) (c : Nat) (xs : List Stp) (h : xs.length ≤ 12) : Plain s (road1 s to fin a c xs) := ⟨rfl, rfl, rfl, rfl, rfl, rfl, ⟨rfl, rfl, rfl⟩, ⟨rfl, rfl, rfl⟩, ⟨rfl, rfl, rfl⟩, ⟨rfl, rfl, rfl⟩, h⟩
theorem row_road1 {w : World} {g : Nat} (x : RoadV) (h : w.heap[g]? = some (.cells (encRoad x).toArray 74)) : Row 9 encRoad w (some ⟨g, 0, none⟩) 1 [x] :=
  row_block (sz := 9) (enc := encRoad) encRoad_len (by decide) [x] (show w.heap[g]? = some (.cells ([x].flatMap encRoad).toArray 74) from h) rfl rfl (by omega)
/-- an append of one road to nothing -/
theorem own_road1 {w w' : World} {base : Nat} {s to fin : Int} {a : Option Addr} {c : Nat} {xs : List Stp} {v : Value} (hst : Stps w a xs.length xs) (hfr : ∀ k, a.map (·.block) = some k → base ≤ k ∧ k < w.heap.size) (hac : a = none → c = 0)
    (ho : w'.ownsRow base 74 9 v (0 + 1) (([] ++ [road1 s to fin a c xs]).flatMap encRoad)) (hg : w.grownBy w' none) (hb : v.ownBlock = none ∨ v.ownBlock = some w.heap.size) : OwnR w' base v [road1 s to fin a c xs] := by
  refine (OwnR.nil w base).app (ys := [road1 s to fin a c xs]) (n := 0 + 1) (fun y hy => ?_) rfl ho hg hb
  obtain rfl := List.mem_singleton.1 hy
  refine ⟨road1_at hst hac, fun q hq k hk => ?_⟩
  simp only [RV.addrs, road1, List.mem_cons, List.not_mem_nil, or_false] at hq
  rcases hq with rfl | rfl | rfl | rfl | rfl
  · exact ⟨(hfr k hk).1, (hfr k hk).2, by intro h; cases h⟩
  all_goals cases hk
theorem road_any2 (w : World) (b base : Nat) (berth frm to fin : Int) (sv pv lv : Value) (xs : List Stp) (ps : List Int) (ls : List WS) (h : PathIs w b base berth sv pv lv xs ps ls) (h2 : ps.length = xs.length) (hz : ∀ q ∈ ps, q = 0) (hn : xs.length ≤ 12) :
    Calls Tryz.prog 129 #[.pointer (some ⟨b, 0, none⟩), .int .i64 frm, .int .i64 to, .int .i64 fin] w (RoadPost w frm to fin xs) := by
  obtain ⟨sa, sc, rfl, _, _⟩ := own_slice h.os
  obtain ⟨pa, pc, hp, _, _⟩ := own_slice h.oi
  rw [h2] at hp
  subst hp
  exact road_any w b base berth frm to fin sa pa xs.length sc pc lv xs ps ls h rfl h2 hz hn
theorem Below.one {w0 w w' : World} {b : Nat} (h : Below w0.heap.size w0 w) (hk : ∀ q, q ≠ b → w'.heap[q]? = w.heap[q]?) (hs : w'.heap.size = w.heap.size) (ho : w'.os = w.os ∧ w'.tape = w.tape ∧ w'.output = w.output) (hb : w0.heap.size ≤ b) : Below w0.heap.size w0 w' :=
  ⟨ho.1.trans h.os, ho.2.1.trans h.tape, ho.2.2.trans h.output, by rw [hs]; exact h.size, fun k hk2 => (hk k (by omega)).trans (h.block k hk2)⟩
section
variable {w : World} {b base g n c : Nat} {berth : Int} {sv pv lv : Value} {xs : List Stp} {ps : List Int} {ls : List WS}
/-- a store into one of the path's rows -/
theorem PathIs.setS (h : PathIs w b base berth (.slice (some ⟨g, 0, none⟩) n c) pv lv xs ps ls) (hn : xs.length = n) {i k : Nat} {x x' : Stp} {u : Value} (hx : xs[i]? = some x) (hk : k < 3) (he : encStp x' = (encStp x).set k u) :
    PathIs (w.setCell ⟨g, i * 3 + k, none⟩ u) b base berth (.slice (some ⟨g, 0, none⟩) n c) pv lv (xs.set i x') ps ls := by
  subst hn
  obtain ⟨ho, hg⟩ := own_put encStp_len h.os hx hk he
  have hr := h.rows.app (k := 0) rfl ho hg (.inl rfl)
  refine ⟨(hg.block b h.bl (fun hc => by have := (h.os.lt b hc.symm).1; have := h.lt; omega)).trans h.box, h.lt, Nat.le_trans h.le hg.size, ?_⟩
  simpa [rowS] using hr
theorem PathIs.setP (h : PathIs w b base berth sv (.slice (some ⟨g, 0, none⟩) n c) lv xs ps ls) (hn : ps.length = n) {i : Nat} {x x' : Int} (hx : ps[i]? = some x) :
    PathIs (w.setCell ⟨g, i, none⟩ (.int .i64 x')) b base berth sv (.slice (some ⟨g, 0, none⟩) n c) lv xs (ps.set i x') ls := by
  subst hn
  obtain ⟨ho, hg⟩ := own_put (k := 0) (u := .int .i64 x') (x' := x') encInt_lenT h.oi hx (by decide) rfl
  rw [show i * 1 + 0 = i by omega] at ho hg
  have hr := h.rows.app (k := 1) rfl ho hg (.inl rfl)
  refine ⟨(hg.block b h.bl (fun hc => by have := (h.oi.lt b hc.symm).1; have := h.lt; omega)).trans h.box, h.lt, Nat.le_trans h.le hg.size, ?_⟩
  simpa [rowI] using hr
theorem PathIs.setL (h : PathIs w b base berth sv pv (.slice (some ⟨g, 0, none⟩) n c) xs ps ls) (hn : ls.length = n) {i : Nat} {x x' : WS} (hx : ls[i]? = some x) :
    PathIs (w.setCell ⟨g, i, none⟩ (.slice x'.a x'.n x'.c)) b base berth sv pv (.slice (some ⟨g, 0, none⟩) n c) xs ps (ls.set i x') := by
  subst hn
  obtain ⟨ho, hg⟩ := own_put (k := 0) (u := .slice x'.a x'.n x'.c) (x' := x') encWS_len h.ol hx (by decide) rfl
  rw [show i * 1 + 0 = i by omega] at ho hg
  have hr := h.rows.app (k := 2) rfl ho hg (.inl rfl)
  refine ⟨(hg.block b h.bl (fun hc => by have := (h.ol.lt b hc.symm).1; have := h.lt; omega)).trans h.box, h.lt, Nat.le_trans h.le hg.size, ?_⟩
  simpa [rowL] using hr
theorem PathIs.somes (h : PathIs w b base berth sv pv lv xs ps ls) (hn : xs.length = n + 1) (hp : ps.length = xs.length) (hl : ls.length = xs.length) :
    ∃ sg sc pg pc lg lc, sv = .slice (some ⟨sg, 0, none⟩) (n + 1) sc ∧ pv = .slice (some ⟨pg, 0, none⟩) (n + 1) pc ∧ lv = .slice (some ⟨lg, 0, none⟩) (n + 1) lc ∧ n + 1 ≤ sc ∧ n + 1 ≤ pc ∧ n + 1 ≤ lc ∧ (base ≤ sg ∧ sg < w.heap.size) ∧ (base ≤ pg ∧ pg < w.heap.size) ∧ (base ≤ lg ∧ lg < w.heap.size) := by
  have h1 := h.os
  have h2 := h.oi
  have h3 := h.ol
  rw [hn] at h1
  rw [hp, hn] at h2
  rw [hl, hn] at h3
  obtain ⟨sa, sc, rfl, _, _⟩ := own_slice h1
  obtain ⟨pa, pc, rfl, _, _⟩ := own_slice h2
  obtain ⟨la, lc, rfl, _, _⟩ := own_slice h3
  obtain ⟨sg, rfl, q1⟩ := own_some h1 (by omega)
  obtain ⟨pg, rfl, q2⟩ := own_some h2 (by omega)
  obtain ⟨lg, rfl, q3⟩ := own_some h3 (by omega)
  exact ⟨sg, sc, pg, pc, lg, lc, rfl, rfl, rfl, q1, q2, q3, h1.lt sg rfl, h2.lt pg rfl, h3.lt lg rfl⟩
end
theorem own_frozen {w : World} {base g n c size : Nat} {e : TypeId} {xs : List Value} (h : w.ownsRow base e size (.slice (some ⟨g, 0, none⟩) n c) n xs) (o : Nat) : w.frozen? ⟨g, o, none⟩ = false := by
  rcases h.2 with ⟨h1, _⟩ | ⟨g', cap, cur, hv, _, hh, _⟩
  · cases h1
  · simp only [Value.slice.injEq, Option.some.injEq, Addr.mk.injEq] at hv
    obtain ⟨⟨rfl, _, _⟩, _, _⟩ := hv
    exact frozen_of_row w g o _ _ hh
/-- block b holds some port -/
def XBox (w : World) (b : Nat) : Prop := ∃ x y : Int, w.heap[b]? = some (.cells #[.int .i64 x, .int .i64 y] 43)
theorem XBox.same {w w' : World} {b : Nat} (h : XBox w b) (hb : w'.heap[b]? = w.heap[b]?) : XBox w' b := by
  obtain ⟨x, y, h⟩ := h
  exact ⟨x, y, hb.trans h⟩
theorem XBox.below {w w' : World} {b : Nat} (h : XBox w b) (hb : Below w.heap.size w w') : XBox w' b := by
  obtain ⟨x, y, h⟩ := h
  exact ⟨x, y, (hb.block b (Array.getElem?_eq_some_iff.1 h).1).trans h⟩
theorem PathIs.lowset {w : World} {b base : Nat} {berth : Int} {sv pv lv : Value} {xs : List Stp} {ps : List Int} {ls : List WS} (h : PathIs w b base berth sv pv lv xs ps ls) {g : Nat} (hg : g < base) (hgb : b ≠ g) (o : Nat) (u : Value) :
    PathIs (w.setCell ⟨g, o, none⟩ u) b base berth sv pv lv xs ps ls :=
  ⟨(Below.heap_setCell w ⟨g, o, none⟩ u b hgb).trans h.box, h.lt, by have := h.le; simpa [World.setCell] using this, h.rows.low hg o u⟩
end Go.Proofs.YtcaeglnfflkabaaGreat
