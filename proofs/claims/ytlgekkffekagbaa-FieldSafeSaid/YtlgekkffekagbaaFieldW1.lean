/- Walks of package field: Stick, Blind, Dark, Short, Left. Condition: the receiver is a field over a net. -/
import Derived.Test.YtlgekkffekagbaaFieldAt
set_option maxRecDepth 1000000
namespace Go.Proofs.Ytlgekkffekagbaa
open Go.ChangeShapes Go.WideShapes Go.ChangeAt Go.RowKit Go.Sort

theorem Upd.one {b : Nat} {w w1 : World} (h : Below w.heap.size w w1) (o : Nat) (v : Value) : Only b w (w1.setCell ⟨b, o, none⟩ v) := Upd.setCell (S := fun k => k = b) (a := ⟨b, o, none⟩) (Upd.of_below h) rfl v

theorem stick_any (w : World) (b nb : Nat) (p : Plan) (f : Fld) (hn : NetAt w nb p) (hf : FldAt w b nb p f) (e : Int) (on : Bool) :
    Calls Try.prog 16 #[.pointer (some ⟨b, 0, none⟩), .int .i64 e, .bool on] w fun en w' => en = .returned (.tuple #[]) ∧ FldAt w' b nb p (f.stick p e on) ∧ Only b w w' := by
  have c0 := hf.box.net
  have HK := Lib.hid (nkind_any w nb p hn e)
  have HF := Lib.hid hf
  have Hc := Lib.hid hn.ok
  have hlt := hf.box.lt
  clear hn hf
  by_cases hk : p.kind e = 2
  · have q1 : (p.kind e == 2) = true := by simp [hk]
    have he := kind_lt (p := p) (i := e) (by omega)
    have h40 := (elems_le Hc.out).1
    have Hs := Lib.hid (show f.stick p e on = { f with pts := f.pts.set e.toNat { f.pt e.toNat with stick := on } } by unfold Fld.stick; rw [if_pos hk])
    clear hk
    go_enter Try.func16, Try.ntmps16
    go_wp2_with fail
    refine HK.out.mono ?_
    rintro en w1 ⟨rfl, hb⟩
    have HF1 := Lib.hid (HF.out.below hb)
    have Hb := Lib.hid hb
    have fz := HF1.out.box.frozen
    have c1 := HF1.out.box.stick HF1.out.ok.len (i := e.toNat) (by omega)
    clear hb c0
    go_wp2_with fail
    refine bodyPost_end (v := .tuple #[]) (by simp [results, Try.results16]) rfl ⟨rfl, ⟨?_, HF.out.ok.stick Hc.out e on⟩, Upd.one Hb.out _ _⟩
    rw [Hs.out]
    exact HF1.out.box.setPt HF1.out.ok.len (by omega) (by omega) rfl
  · have q1 : (p.kind e == 2) = false := by simp [hk]
    have Hs := Lib.hid (show f.stick p e on = f by unfold Fld.stick; rw [if_neg hk])
    clear hk
    go_enter Try.func16, Try.ntmps16
    go_wp2_with fail
    refine HK.out.mono ?_
    rintro en w1 ⟨rfl, hb⟩
    go_wp2_with fail
    exact bodyPost_end (v := .tuple #[]) (by simp [results, Try.results16]) rfl ⟨rfl, by rw [Hs.out]; exact HF.out.below hb, Upd.of_below hb⟩

theorem blind_any (w : World) (b nb : Nat) (p : Plan) (f : Fld) (hn : NetAt w nb p) (hf : FldAt w b nb p f) (e : Int) (on : Bool) :
    Calls Try.prog 31 #[.pointer (some ⟨b, 0, none⟩), .int .i64 e, .bool on] w fun en w' => en = .returned (.tuple #[]) ∧ FldAt w' b nb p (f.blind p e on) ∧ Only b w w' := by
  have c0 := hf.box.net
  have HK := Lib.hid (nkind_any w nb p hn e)
  have HF := Lib.hid hf
  have Hc := Lib.hid hn.ok
  have hlt := hf.box.lt
  clear hn hf
  by_cases hk : p.kind e = 2
  · have q1 : (p.kind e == 2) = true := by simp [hk]
    have he := kind_lt (p := p) (i := e) (by omega)
    have h40 := (elems_le Hc.out).1
    have Hs := Lib.hid (show f.blind p e on = { f with pts := f.pts.set e.toNat { f.pt e.toNat with blind := on } } by unfold Fld.blind; rw [if_pos hk])
    clear hk
    go_enter Try.func31, Try.ntmps31
    go_wp2_with fail
    refine HK.out.mono ?_
    rintro en w1 ⟨rfl, hb⟩
    have HF1 := Lib.hid (HF.out.below hb)
    have Hb := Lib.hid hb
    have fz := HF1.out.box.frozen
    have c1 := HF1.out.box.blind HF1.out.ok.len (i := e.toNat) (by omega)
    clear hb c0
    go_wp2_with fail
    refine bodyPost_end (v := .tuple #[]) (by simp [results, Try.results31]) rfl ⟨rfl, ⟨?_, HF.out.ok.blind Hc.out e on⟩, Upd.one Hb.out _ _⟩
    rw [Hs.out]
    exact HF1.out.box.setPt HF1.out.ok.len (by omega) (by omega) rfl
  · have q1 : (p.kind e == 2) = false := by simp [hk]
    have Hs := Lib.hid (show f.blind p e on = f by unfold Fld.blind; rw [if_neg hk])
    clear hk
    go_enter Try.func31, Try.ntmps31
    go_wp2_with fail
    refine HK.out.mono ?_
    rintro en w1 ⟨rfl, hb⟩
    go_wp2_with fail
    exact bodyPost_end (v := .tuple #[]) (by simp [results, Try.results31]) rfl ⟨rfl, by rw [Hs.out]; exact HF.out.below hb, Upd.of_below hb⟩

theorem dark_any (w : World) (b nb : Nat) (p : Plan) (f : Fld) (hn : NetAt w nb p) (hf : FldAt w b nb p f) (e : Int) (on : Bool) :
    Calls Try.prog 32 #[.pointer (some ⟨b, 0, none⟩), .int .i64 e, .bool on] w fun en w' => en = .returned (.tuple #[]) ∧ FldAt w' b nb p (f.darken p e on) ∧ Only b w w' := by
  have c0 := hf.box.net
  have HK := Lib.hid (nsignals_any w nb p hn)
  have HF := Lib.hid hf
  have Hc := Lib.hid hn.ok
  have hlt := hf.box.lt
  have h24 := (elems_le Hc.out).2.1
  have fz := hf.box.frozen
  clear hn hf
  by_cases h0 : e < 0
  · have q0 : decide (0 ≤ e) = false := by simpa using h0
    have Hs := Lib.hid (show f.darken p e on = f by unfold Fld.darken; rw [if_neg (by omega)])
    go_enter Try.func32, Try.ntmps32
    go_wp2_with fail
    exact bodyPost_end (v := .tuple #[]) (by simp [results, Try.results32]) rfl ⟨rfl, by rw [Hs.out]; exact HF.out, Upd.refl _ _⟩
  · have q0 : decide (0 ≤ e) = true := by simp; omega
    by_cases h1 : e < p.sigs.length
    · have q1 : decide (e < (p.sigs.length : Int)) = true := by simpa using h1
      have Hs := Lib.hid (show f.darken p e on = { f with dark := f.dark.set e.toNat on } by unfold Fld.darken; rw [if_pos (by omega)])
      have c1 := HF.out.box.dark HF.out.ok.len (i := e.toNat) (by omega)
      go_enter Try.func32, Try.ntmps32
      go_wp2_with fail
      refine HK.out.mono ?_
      rintro en w1 ⟨rfl, rfl⟩
      go_wp2_with fail
      refine bodyPost_end (v := .tuple #[]) (by simp [results, Try.results32]) rfl ⟨rfl, ⟨?_, HF.out.ok.darken e on⟩, Upd.one (Below.refl _ _) _ _⟩
      rw [Hs.out]
      exact HF.out.box.setDark HF.out.ok.len (by omega) on
    · have q1 : decide (e < (p.sigs.length : Int)) = false := by simpa using h1
      have Hs := Lib.hid (show f.darken p e on = f by unfold Fld.darken; rw [if_neg (by omega)])
      go_enter Try.func32, Try.ntmps32
      go_wp2_with fail
      refine HK.out.mono ?_
      rintro en w1 ⟨rfl, rfl⟩
      go_wp2_with fail
      exact bodyPost_end (v := .tuple #[]) (by simp [results, Try.results32]) rfl ⟨rfl, by rw [Hs.out]; exact HF.out, Upd.refl _ _⟩

theorem short_any (w : World) (b nb : Nat) (p : Plan) (f : Fld) (hn : NetAt w nb p) (hf : FldAt w b nb p f) (e : Int) :
    Calls Try.prog 33 #[.pointer (some ⟨b, 0, none⟩), .int .i64 e] w fun en w' => en = .returned (.tuple #[]) ∧ FldAt w' b nb p (f.shorten p e) ∧ Only b w w' := by
  have c0 := hf.box.net
  have HK := Lib.hid (nkind_any w nb p hn e)
  have HF := Lib.hid hf
  have Hc := Lib.hid hn.ok
  have hlt := hf.box.lt
  have h40 := (elems_le Hc.out).1
  clear hn hf
  by_cases h0 : p.kind e = 0
  · have q0 : (p.kind e != 0) = false := by simp [h0]
    have Hs := Lib.hid (show f.shorten p e = f by unfold Fld.shorten; rw [if_neg (by omega)])
    clear h0
    go_enter Try.func33, Try.ntmps33
    go_wp2_with fail
    refine HK.out.mono ?_
    rintro en w1 ⟨rfl, hb⟩
    go_wp2_with fail
    exact bodyPost_end (v := .tuple #[]) (by simp [results, Try.results33]) rfl ⟨rfl, by rw [Hs.out]; exact HF.out.below hb, Upd.of_below hb⟩
  · have q0 : (p.kind e != 0) = true := by simp [h0]
    have he := kind_lt h0
    by_cases h1 : p.kind e = 4
    · have q1 : (p.kind e != 4) = false := by simp [h1]
      have Hs := Lib.hid (show f.shorten p e = f by unfold Fld.shorten; rw [if_neg (by omega)])
      clear h0 h1
      go_enter Try.func33, Try.ntmps33
      go_wp2_with fail
      refine HK.out.mono ?_
      rintro en w1 ⟨rfl, hb⟩
      go_wp2_with fail
      exact bodyPost_end (v := .tuple #[]) (by simp [results, Try.results33]) rfl ⟨rfl, by rw [Hs.out]; exact HF.out.below hb, Upd.of_below hb⟩
    · have q1 : (p.kind e != 4) = true := by simp [h1]
      have Hs := Lib.hid (show f.shorten p e = { f with short := f.short.set e.toNat true } by unfold Fld.shorten; rw [if_pos ⟨h0, h1⟩])
      clear h0 h1
      go_enter Try.func33, Try.ntmps33
      go_wp2_with fail
      refine HK.out.mono ?_
      rintro en w1 ⟨rfl, hb⟩
      have HF1 := Lib.hid (HF.out.below hb)
      have Hb := Lib.hid hb
      have fz := HF1.out.box.frozen
      have c1 := HF1.out.box.short HF1.out.ok.len (i := e.toNat) (by omega)
      clear hb c0
      go_wp2_with fail
      refine bodyPost_end (v := .tuple #[]) (by simp [results, Try.results33]) rfl ⟨rfl, ⟨?_, HF.out.ok.shorten e⟩, Upd.one Hb.out _ _⟩
      rw [Hs.out]
      exact HF1.out.box.setShort HF1.out.ok.len (by omega) true

theorem left_any (w : World) (b nb : Nat) (p : Plan) (f : Fld) (hn : NetAt w nb p) (hf : FldAt w b nb p f) (e : Int) :
    Calls Try.prog 17 #[.pointer (some ⟨b, 0, none⟩), .int .i64 e] w fun en w' => en = .returned (.int .i64 (f.left p e)) ∧ Below w.heap.size w w' := by
  have c0 := hf.box.net
  have HK := Lib.hid (nkind_any w nb p hn e)
  have HF := Lib.hid hf
  have Hc := Lib.hid hn.ok
  have hlt := hf.box.lt
  have h40 := (elems_le Hc.out).1
  clear hn hf
  by_cases hk : p.kind e = 2
  · have q1 : (p.kind e != 2) = false := by simp [hk]
    have he := kind_lt (p := p) (i := e) (by omega)
    have Hs := Lib.hid (show (f.pt e.toNat).left = f.left p e by unfold Fld.left; rw [if_pos hk])
    clear hk
    go_enter Try.func17, Try.ntmps17
    go_wp2_with fail
    refine HK.out.mono ?_
    rintro en w1 ⟨rfl, hb⟩
    have c1 := (HF.out.below hb).box.left HF.out.ok.len (i := e.toNat) (by omega)
    have Hb := Lib.hid hb
    clear hb c0
    go_wp2_with fail
    go_ret
    exact ⟨ret_int Hs.out, Hb.out⟩
  · have q1 : (p.kind e != 2) = true := by simp [hk]
    have Hs := Lib.hid (show (0 : Int) = f.left p e by unfold Fld.left; rw [if_neg hk])
    clear hk
    go_enter Try.func17, Try.ntmps17
    go_wp2_with fail
    refine HK.out.mono ?_
    rintro en w1 ⟨rfl, hb⟩
    go_wp2_with fail
    go_ret
    exact ⟨ret_int Hs.out, hb⟩
end Go.Proofs.Ytlgekkffekagbaa
