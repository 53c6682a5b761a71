/-
  A disk in memory: its word, and what becomes of it.
-/
import Derived.Test.YthieeidbfdhaaaaDiskPlain
import Derived.Test.YthieeidbfdhaaaaMore
namespace Go.Proofs.Ythieeidbfdhaaaa
open Go Go.RowKit

/-- The cells of one sector: 64 bytes and the slice of its versions. -/
def sctCells (s : Sct) (v : Option Addr × Nat) : List Value := s.there.map B8 ++ [.slice v.1 s.vers.length v.2]
theorem sctCells_length {s : Sct} (h : s.there.length = 64) (v : Option Addr × Nat) : (sctCells s v).length = 65 := by simp [sctCells, h]
/-- Sector i of the row cs. -/
def SctAt (cs : List Value) (i : Nat) (l : List Value) : Prop := ∀ j, j < 65 → cs[i * 65 + j]? = l[j]?

/-- THE DISK: gd: the variable of the disk, gs: the row of its sectors; V: where each sector's versions lie. -/
structure DiskAt (w : World) (base gd gs : Nat) (D : List Sct) (V : List (Option Addr × Nat)) : Prop where
  head : RowAt w gd 88 [.slice (some ⟨gs, 0, none⟩) D.length D.length]
  bgd : base ≤ gd
  bgs : base ≤ gs
  row : ∃ cs, RowAt w gs 92 cs ∧ cs.length = D.length * 65 ∧ ∀ i (h : i < D.length), ∃ v, V[i]? = some v ∧ SctAt cs i (sctCells D[i] v)
  wf : ∀ s ∈ D, s.wf
  len : V.length = D.length
  own : ∀ i (h : i < D.length), ∃ v, V[i]? = some v ∧ OwnA w base 37 64 v.1 v.2 D[i].vers
  apart : ∀ (i j : Nat) (u v : Option Addr × Nat), i ≠ j → V[i]? = some u → V[j]? = some v → ∀ k, u.1.map (·.block) = some k → v.1.map (·.block) ≠ some k

/-- A block that is the disk's own. -/
def DiskOwns (gs : Nat) (V : List (Option Addr × Nat)) (k : Nat) : Prop := k = gs ∨ ∃ v ∈ V, v.1.map (·.block) = some k

theorem SctAt.cell {cs : List Value} {i : Nat} {s : Sct} {v : Option Addr × Nat} (h : SctAt cs i (sctCells s v)) (hs : s.there.length = 64) : cs[i * 65 + 64]? = some (.slice v.1 s.vers.length v.2) := by
  rw [h 64 (by omega)]
  unfold sctCells
  rw [List.getElem?_append_right (by rw [List.length_map, hs]; exact Nat.le_refl _), List.length_map, hs]
  rfl
theorem SctAt.there {cs : List Value} {i : Nat} {s : Sct} {v : Option Addr × Nat} (h : SctAt cs i (sctCells s v)) (hs : s.there.length = 64) : (cs.drop (i * 65)).take 64 = s.there.map B8 := by
  apply List.ext_getElem?
  intro j
  by_cases hj : j < 64
  · rw [List.getElem?_take, if_pos hj, List.getElem?_drop, h j (by omega)]
    unfold sctCells
    rw [List.getElem?_append_left (by rw [List.length_map, hs]; exact hj)]
  · rw [List.getElem?_eq_none (by simp; omega), List.getElem?_eq_none (by rw [List.length_map, hs]; omega)]

theorem splice_get {α : Type} (L vs : List α) (off k : Nat) (h : off + vs.length ≤ L.length) : (splice L off vs)[k]? = if off ≤ k ∧ k < off + vs.length then vs[k - off]? else L[k]? := by
  unfold splice
  by_cases h1 : k < off
  · rw [if_neg (by omega), List.getElem?_append_left (by simp; omega), List.getElem?_take, if_pos h1]
  · by_cases h2 : k < off + vs.length
    · rw [if_pos ⟨by omega, h2⟩, List.getElem?_append_right (by simp; omega), List.length_take, Nat.min_eq_left (by omega), List.getElem?_append_left (by omega)]
    · rw [if_neg (by omega), List.getElem?_append_right (by simp; omega), List.length_take, Nat.min_eq_left (by omega), List.getElem?_append_right (by omega), List.getElem?_drop]
      congr 1
      omega

/-- The 64 bytes of sector i are written. -/
theorem SctAt.put {cs : List Value} {i j n : Nat} {s : Sct} {v : Option Addr × Nat} (b : List UInt8) (hb : b.length = 64) (hn : cs.length = n * 65) (hi : i < n) (_hj : j < n) (h : SctAt cs j (sctCells s v)) (hs : s.there.length = 64) :
    SctAt (splice cs (i * 65) (b.map B8)) j (sctCells (if j = i then ⟨b, s.vers⟩ else s) v) := by
  intro k hk
  rw [splice_get _ _ _ _ (by rw [List.length_map, hb]; omega), List.length_map, hb]
  by_cases hji : j = i
  · subst hji
    rw [if_pos rfl]
    by_cases h64 : k < 64
    · rw [if_pos ⟨by omega, by omega⟩]
      unfold sctCells
      rw [List.getElem?_append_left (by rw [List.length_map, hb]; exact h64)]
      congr 1
      omega
    · obtain rfl : k = 64 := by omega
      rw [if_neg (by omega), h.cell hs]
      unfold sctCells
      rw [List.getElem?_append_right (by rw [List.length_map, hb]; exact Nat.le_refl _), List.length_map, hb]
      rfl
  · rw [if_neg hji, if_neg (by omega)]
    exact h k hk

/-- The slice of the versions of sector i is written. -/
theorem SctAt.turn {cs : List Value} {i j n : Nat} {s t : Sct} {v u : Option Addr × Nat} (hn : cs.length = n * 65) (hi : i < n) (h : SctAt cs j (sctCells s v)) (hs : s.there.length = 64) (ht : t.there = s.there) (hj : j = i) :
    SctAt (cs.set (i * 65 + 64) (.slice u.1 t.vers.length u.2)) j (sctCells t u) := by
  subst hj
  intro k hk
  by_cases h64 : k = 64
  · subst h64
    rw [List.getElem?_set_self (by omega)]
    unfold sctCells
    rw [List.getElem?_append_right (by rw [List.length_map, ht, hs]; exact Nat.le_refl _), List.length_map, ht, hs]
    rfl
  · rw [List.getElem?_set_ne (by omega), h k hk]
    unfold sctCells
    rw [ht, List.getElem?_append_left (by rw [List.length_map, hs]; omega), List.getElem?_append_left (by rw [List.length_map, hs]; omega)]
theorem SctAt.turn_other {cs : List Value} {i j : Nat} {l : List Value} (x : Value) (h : SctAt cs j l) (hj : j ≠ i) : SctAt (cs.set (i * 65 + 64) x) j l := by
  intro k hk
  rw [List.getElem?_set_ne (by omega)]
  exact h k hk

/-- What keeps the disk's blocks keeps the disk. -/
theorem DiskAt.kept {w w' : World} {base gd gs : Nat} {D : List Sct} {V : List (Option Addr × Nat)} (h : DiskAt w base gd gs D V) (hk : ∀ k, k < w.heap.size → (k = gd ∨ DiskOwns gs V k) → w'.heap[k]? = w.heap[k]?) : DiskAt w' base gd gs D V := by
  obtain ⟨cs, hr, hl, hs⟩ := h.row
  refine ⟨(hk gd h.head.lt (.inl rfl)).trans h.head, h.bgd, h.bgs, ⟨cs, (hk gs hr.lt (.inr (.inl rfl))).trans hr, hl, hs⟩, h.wf, h.len, fun i hi => ?_, h.apart⟩
  obtain ⟨v, hv, ho⟩ := h.own i hi
  refine ⟨v, hv, ho.1, ?_⟩
  rcases ho.2 with hn | ⟨g, cap, cur, hvs, hbg, hg, rest⟩
  · exact .inl hn
  · refine .inr ⟨g, cap, cur, hvs, hbg, ?_, rest⟩
    rw [hk g (Array.getElem?_eq_some_iff.1 hg).1 (.inr (.inr ⟨v, List.mem_of_getElem? hv, by injection hvs with e _ _; rw [e]; rfl⟩))]
    exact hg
theorem DiskAt.step {w w' : World} {base gd gs : Nat} {D : List Sct} {V : List (Option Addr × Nat)} (h : DiskAt w base gd gs D V) (hb : Below w.heap.size w w') : DiskAt w' base gd gs D V := h.kept fun k hk _ => hb.block k hk
theorem DiskAt.lt {w : World} {base gd gs : Nat} {D : List Sct} {V : List (Option Addr × Nat)} (h : DiskAt w base gd gs D V) : gd < w.heap.size ∧ ∀ k, DiskOwns gs V k → base ≤ k ∧ k < w.heap.size := by
  obtain ⟨cs, hr, _, _⟩ := h.row
  refine ⟨h.head.lt, fun k hk => ?_⟩
  rcases hk with rfl | ⟨v, hv, hvk⟩
  · exact ⟨h.bgs, hr.lt⟩
  · obtain ⟨i, hi, rfl⟩ := List.getElem_of_mem hv
    obtain ⟨u, hu, ho⟩ := h.own i (by rw [← h.len]; exact hi)
    rw [List.getElem?_eq_getElem hi] at hu
    cases hu
    exact ho.lt k hvk

end Go.Proofs.Ythieeidbfdhaaaa
