/- Two roads that are free of each other: their points can all lie as both need them. Pure facts. Condition: the plan may be. -/
import Derived.Test.YtnkpiijljfjmkaaClashDef
namespace Go.Proofs.Ytnkpiijljfjmkaa

def lyingBase (n : Nat) (pos : List Int) : List Int := (List.range n).map fun i => pos.getD i 0
def layOne (s : List Int) (m : Need) : List Int := if 0 ≤ m.e ∧ m.e < s.length then s.set m.e.toNat m.pos else s
/-- semaphorelaw7.Lying -/
def lyingL (n : Nat) (l : List Need) (pos : List Int) : List Int := l.foldl layOne (lyingBase n pos)
theorem layOne_length (s : List Int) (m : Need) : (layOne s m).length = s.length := by unfold layOne; split <;> simp
theorem layAll_length : ∀ (l : List Need) (s : List Int), (l.foldl layOne s).length = s.length
 | [], _ => rfl
 | m :: l, s => by rw [List.foldl_cons, layAll_length l, layOne_length]
theorem lyingBase_length (n : Nat) (pos : List Int) : (lyingBase n pos).length = n := by unfold lyingBase; simp
theorem lyingL_length (n : Nat) (l : List Need) (pos : List Int) : (lyingL n l pos).length = n := by unfold lyingL; rw [layAll_length, lyingBase_length]
theorem lyingBase_self (pos : List Int) : lyingBase pos.length pos = pos := by
 unfold lyingBase
 refine List.ext_getElem (by simp) fun i h1 h2 => ?_
 simp [h2]
/-- the points lie as the needs of D say -/
def LaysAs (s : List Int) (D : List Need) : Prop := ∀ m ∈ D, s[m.e.toNat]? = some m.pos
def Agree (D : List Need) : Prop := ∀ m ∈ D, ∀ k ∈ D, m.e = k.e → m.pos = k.pos
theorem layAll_as : ∀ (l : List Need) (s : List Int) (D : List Need), (∀ m ∈ D ++ l, 0 ≤ m.e ∧ m.e < s.length) → Agree (D ++ l) → LaysAs s D → LaysAs (l.foldl layOne s) (D ++ l)
 | [], s, D, _, _, h => by simpa using h
 | x :: l, s, D, hb, ha, h => by
  have e1 : D ++ x :: l = (D ++ [x]) ++ l := by simp
  have hx := hb x (by simp)
  rw [e1] at ha hb ⊢
  rw [List.foldl_cons]
  refine layAll_as l (layOne s x) (D ++ [x]) (fun m hm => by rw [layOne_length]; exact hb m hm) ha fun m hm => ?_
  unfold layOne
  rw [if_pos hx]
  by_cases he : m.e = x.e
  ·rw [he, List.getElem?_set_self (by omega), ha m (List.mem_append_left _ hm) x (by simp) he]
  ·rcases List.mem_append.1 hm with hm | hm
   ·have hm2 := hb m (by simp [hm])
    rw [List.getElem?_set_ne (by omega)]
    exact h m hm
   ·simp only [List.mem_singleton] at hm
    exact absurd (by rw [hm]) he
theorem lying_as {n : Nat} {a b : List Need} (hb : ∀ m ∈ a ++ b, 0 ≤ m.e ∧ m.e < n) (ha : Agree (a ++ b)) : LaysAs (lyingL n b (lyingL n a [])) (a ++ b) := by
 have h1 : LaysAs (lyingL n a []) a := by
  have := layAll_as a (lyingBase n []) [] (fun m hm => by rw [lyingBase_length]; exact hb m (List.mem_append_left _ (by simpa using hm))) (fun m hm k hk => ha m (List.mem_append_left _ (by simpa using hm)) k (List.mem_append_left _ (by simpa using hk))) (by intro m hm; cases hm)
  show LaysAs (a.foldl layOne (lyingBase n [])) a
  simpa using this
 unfold lyingL
 rw [show lyingBase n (a.foldl layOne (lyingBase n [])) = a.foldl layOne (lyingBase n []) by
  have := lyingBase_self (a.foldl layOne (lyingBase n []))
  rwa [layAll_length, lyingBase_length] at this]
 exact layAll_as b _ a (fun m hm => by rw [layAll_length, lyingBase_length]; exact hb m hm) ha h1
section
variable {p : Plan}
theorem nodup_inj {α β : Type} {f : α → β} : ∀ {l : List α}, (l.map f).Nodup → ∀ a ∈ l, ∀ b ∈ l, f a = f b → a = b
 | [], _, a, ha, _, _, _ => by cases ha
 | x :: l, h, a, ha, b, hb, he => by
  rw [List.map_cons, List.nodup_cons] at h
  rcases List.mem_cons.1 ha with h1 | h1
  ·rcases List.mem_cons.1 hb with h2 | h2
   ·rw [h1, h2]
   ·exact absurd (by rw [← h1, he]; exact List.mem_map.2 ⟨b, h2, rfl⟩) h.1
  ·rcases List.mem_cons.1 hb with h2 | h2
   ·exact absurd (by rw [← h2, ← he]; exact List.mem_map.2 ⟨a, h1, rfl⟩) h.1
   ·exact nodup_inj h.2 a h1 b h2 he
/-- a road's needs and guards agree, lie in the plan, and are of points -/
theorem all_agree {at_ x0 : Port} {q : Road} (h : RoadOk p at_ x0 q) (hf : Found p ⟨q, []⟩) : Agree q.all ∧ ∀ m ∈ q.all, 0 ≤ m.e ∧ m.e < p.elems.length ∧ (m.pos = 1 ∨ m.pos = 2) := by
 have hnd : (q.needs.map (·.e)).Nodup := h.pre.nd.nodup (List.nodup_cons.1 h.pre.nod).2
 have hin : ∀ m ∈ q.needs, m.e ∈ q.elems := fun m hm => h.pre.nd.subset (List.mem_map.2 ⟨m, hm, rfl⟩)
 refine ⟨fun m hm k hk he => ?_, fun m hm => ?_⟩
 ·rcases List.mem_append.1 hm with hm | hm
  ·rcases List.mem_append.1 hk with hk | hk
   ·rw [nodup_inj hnd m hm k hk he]
   ·exact absurd (he ▸ hin m hm) (hf.gb k hk).2.2.2.2
  ·rcases List.mem_append.1 hk with hk | hk
   ·exact absurd (he ▸ hin k hk) (hf.gb m hm).2.2.2.2
   ·rw [nodup_inj hf.gnd m hm k hk he]
 ·rcases List.mem_append.1 hm with hm | hm
  ·obtain ⟨t, ht, he⟩ := List.mem_map.1 (hin m hm)
   have h1 := h.pre.stp t ht
   have h2 := h.pre.ndk m hm
   exact ⟨by omega, by omega, h2.2⟩
  ·have h1 := hf.gb m hm
   exact ⟨h1.1, h1.2.1, h1.2.2.2.1⟩
theorem why_zero {a b : Road} (h : why p a b = 0) : a.frm ≠ b.frm ∧ meets a.elems b.elems = false ∧ meets a.elems b.zone = false ∧ meets a.zone b.elems = false ∧ against a.all b.all = false := by
 unfold why at h
 split at h
 ·cases h
 ·rename_i h1
  split at h
  ·cases h
  ·rename_i h2
   split at h
   ·cases h
   ·rename_i h3
    split at h
    ·cases h
    ·rename_i h4
     simp only [Bool.or_eq_true, not_or, Bool.not_eq_true] at h2 h3 h4
     exact ⟨h1, h2, h3.1, h3.2, h4⟩
theorem meets_ready (hc : chk p = 0) {l : List Road} (hl : roadsOf p = some l) {a b : Road} (ha : a ∈ l) (hb : b ∈ l) (h : why p a b = 0) {pos : List Int} (hpos : pos = lyingL p.elems.length b.all (lyingL p.elems.length a.all [])) :
  (∀ m ∈ a.all, refLies pos m.e = m.pos) ∧ ∀ m ∈ b.all, refLies pos m.e = m.pos := by
 obtain ⟨_, fa, at1, x1, ra⟩ := roads_sizes hc hl ha
 obtain ⟨_, fb, at2, x2, rb⟩ := roads_sizes hc hl hb
 obtain ⟨ag1, bd1⟩ := all_agree ra fa
 obtain ⟨ag2, bd2⟩ := all_agree rb fb
 have hag := (why_zero h).2.2.2.2
 have hcross : ∀ m ∈ a.all, ∀ k ∈ b.all, m.e = k.e → m.pos = k.pos := by
  intro m hm k hk he
  by_cases hp : m.pos = k.pos
  ·exact hp
  ·have : against a.all b.all = true := by
    simp only [against, List.any_eq_true, clashes, Bool.and_eq_true, decide_eq_true_eq]
    exact ⟨m, hm, k, hk, he, hp⟩
   rw [hag] at this
   cases this
 have hA : Agree (a.all ++ b.all) := by
  intro m hm k hk he
  rcases List.mem_append.1 hm with hm | hm
  ·rcases List.mem_append.1 hk with hk | hk
   ·exact ag1 m hm k hk he
   ·exact hcross m hm k hk he
  ·rcases List.mem_append.1 hk with hk | hk
   ·exact (hcross k hk m hm he.symm).symm
   ·exact ag2 m hm k hk he
 have hbd : ∀ m ∈ a.all ++ b.all, 0 ≤ m.e ∧ m.e < p.elems.length ∧ (m.pos = 1 ∨ m.pos = 2) := fun m hm => (List.mem_append.1 hm).elim (bd1 m) (bd2 m)
 have hls := lying_as (n := p.elems.length) (fun m hm => ⟨(hbd m hm).1, (hbd m hm).2.1⟩) hA
 rw [← hpos] at hls
 have key : ∀ m ∈ a.all ++ b.all, refLies pos m.e = m.pos := by
  intro m hm
  have h1 := hls m hm
  obtain ⟨h2, _, h3⟩ := hbd m hm
  have h4 : lies pos m.e = m.pos := by
   unfold lies
   rw [if_pos h2, List.getD_eq_getElem?_getD, h1]; rfl
  unfold refLies
  rw [h4]
  split
  ·rfl
  ·omega
 exact ⟨fun m hm => key m (List.mem_append_left _ hm), fun m hm => key m (List.mem_append_right _ hm)⟩
end
end Go.Proofs.Ytnkpiijljfjmkaa
