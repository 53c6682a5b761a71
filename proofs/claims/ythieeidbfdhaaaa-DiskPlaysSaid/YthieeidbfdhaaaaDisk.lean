/-
  Package disk: New, Len, sector, last, Read.
-/
import Derived.Test.YthieeidbfdhaaaaDiskMem
import Derived.Test.YthieeidbfdhaaaaWakes05
import Derived.BigCall
import Derived.BigGuard
namespace Go.Proofs.Ythieeidbfdhaaaa
open Go Go.RowKit Go.Shelf

theorem info_sct : (Try.prog.info? 92).map (fun i => (i.zero, i.size, i.bytes)) = some (some (.agg (sctCells Sct.zero (none, 0)).toArray), 65, 88) := by kernel_rfl
theorem zsct_length : (sctCells Sct.zero (none, 0)).length = 65 := rfl

theorem made_sct (n : Nat) (i : Nat) (hi : i < n) : SctAt (madeCells (sctCells Sct.zero (none, 0)).toArray (n * 65)).toList i (sctCells Sct.zero (none, 0)) := by
  intro j hj
  have h1 : i * 65 + j < n * 65 := by omega
  rw [List.getElem?_eq_getElem (by simp [madeCells]; omega)]
  simp only [madeCells, Array.toList_map, Array.toList_range, List.getElem_map, List.getElem_range]
  have e : (sctCells Sct.zero (none, 0)).toArray.size = 65 := rfl
  rw [e, show (i * 65 + j) % 65 = j by omega]
  rw [List.getElem?_eq_getElem (by rw [zsct_length]; exact hj)]
  simp [zsct_length, hj]

/-- A slice that owns its row to the brim: the row is known whole. -/
theorem full_row {w : World} {base : Nat} {e : TypeId} {size g n : Nat} {xs : List Value} (h : w.ownsRow base e size (.slice (some ⟨g, 0, none⟩) n n) n xs) : RowAt w g e xs := by
  rcases h.2 with ⟨hv, _⟩ | ⟨g', cap, cur, hv, _, hg, _, _, hs, ht⟩
  · cases hv
  · injection hv with hA _ hc
    injection hA with hA
    injection hA with hA _ _
    subst hA hc
    unfold RowAt
    rw [List.take_of_length_le (by simp [hs])] at ht
    rw [hg, ← ht, Array.toArray_toList]
theorem newDisk_no (n : Int) (h : n < 1 ∨ 4096 < n) (w : World) :
    Calls Try.prog 16 #[.int .i64 n] w fun e w' => e = .returned (.tuple #[.pointer none, .int .i64 1]) ∧ w = w' := by
  rcases h with h | h
  · have hd1 : decide (n < 1) = true := decide_eq_true h
    go_enter Try.func16, Try.ntmps16
    go_wp2
    go_ret2
    exact ⟨rfl, rfl⟩
  · have hd1 : decide (n < 1) = false := decide_eq_false (by omega)
    have hd2 : decide (4096 < n) = true := decide_eq_true h
    go_enter Try.func16, Try.ntmps16
    go_wp2
    go_ret2
    exact ⟨rfl, rfl⟩

theorem newDisk_calls (n : Nat) (h1 : 1 ≤ n) (h2 : n ≤ 4096) (w : World) :
    Calls Try.prog 16 #[.int .i64 (n : Int)] w fun e w' => (∃ gd gs, e = .returned (.tuple #[.pointer (some ⟨gd, 0, none⟩), .int .i64 0]) ∧ DiskAt w' w.heap.size gd gs (List.replicate n Sct.zero) (List.replicate n (none, 0))) ∧ Below w.heap.size w w' := by
  have hd1 : decide ((n : Int) < 1) = false := decide_eq_false (by omega)
  have hd2 : decide ((4096 : Int) < (n : Int)) = false := decide_eq_false (by omega)
  obtain ⟨i, hi, hz0, hz1, hz2⟩ := info_parts info_sct
  obtain ⟨w1, hrun, hown, hgr⟩ := run_make_full (P := Try.prog) w w.heap.size 86 92 i _ 65 Try.underlying86 hi hz0 hz1 .i64 .i64 n (by rw [hz2]; omega) (by simp [maxLen]; omega) (Nat.le_refl _)
  have hB1 : Below w.heap.size w w1 := (Below.refl _ w).grown hgr (Nat.le_refl _) (fun k e => by cases e)
  have hrow := full_row hown
  clear hown hgr hi hz0 hz1 hz2
  have Hrun := Lib.hid hrun
  go_enter Try.func16, Try.ntmps16
  go_wp2
  clear hrun
  go_ret2
  refine ⟨⟨w1.heap.size, w.heap.size, rfl, ?_⟩, hB1.alloc hB1.size _⟩
  have hB2 : Below w1.heap.size w1 (w1.alloc (.cells #[.slice (some ⟨w.heap.size, 0, none⟩) n n] 88)) := (Below.refl _ w1).alloc (Nat.le_refl _) _
  refine ⟨?_, hB1.size, Nat.le_refl _, ⟨_, hrow.step hB2, by simp [madeCells], fun j hj => ?_⟩, ?_, by simp, fun j hj => ?_, ?_⟩
  · rw [List.length_replicate]
    exact alloc_row w1 88 [.slice (some ⟨w.heap.size, 0, none⟩) n n]
  · rw [List.length_replicate] at hj
    exact ⟨(none, 0), by rw [List.getElem?_replicate, if_pos hj], by rw [List.getElem_replicate]; exact made_sct n j hj⟩
  · intro s hs
    rw [List.mem_replicate] at hs
    rw [hs.2]
    exact Sct.zero_wf
  · rw [List.length_replicate] at hj
    exact ⟨(none, 0), by rw [List.getElem?_replicate, if_pos hj], by rw [List.getElem_replicate]; exact OwnA.nil _ _ _ _⟩
  · intro a b u v _ hu _ k hk
    rw [List.getElem?_replicate] at hu
    split at hu
    · cases hu; cases hk
    · cases hu

theorem diskLen_calls {w : World} {base gd gs : Nat} {D : List Sct} {V : List (Option Addr × Nat)} (h : DiskAt w base gd gs D V) :
    Calls Try.prog 31 #[.pointer (some ⟨gd, 0, none⟩)] w fun e w' => e = .returned (.int .i64 (D.length : Int)) ∧ w = w' := by
  have hc := h.head.cellD 0 _ rfl
  go_enter Try.func31, Try.ntmps31
  go_wp2
  go_ret
  exact ⟨rfl, rfl⟩
theorem diskLen_nil (w : World) :
    Calls Try.prog 31 #[.pointer none] w fun e w' => e = .returned (.int .i64 0) ∧ w = w' := by
  go_enter Try.func31, Try.ntmps31
  go_wp2
  go_ret
  exact ⟨rfl, rfl⟩

theorem diskSector_calls {w : World} {base gd gs : Nat} {D : List Sct} {V : List (Option Addr × Nat)} (h : DiskAt w base gd gs D V) (i : Nat) (hi : i < D.length) :
    Calls Try.prog 43 #[.pointer (some ⟨gd, 0, none⟩), .int .i64 (i : Int)] w fun e w' => e = .returned (.pointer (some ⟨gs, i * 65, none⟩)) ∧ w = w' := by
  have hc := h.head.cellD 0 _ rfl
  have hd1 : decide ((i : Int) < 0) = false := decide_eq_false (by omega)
  have hd2 : decide ((D.length : Int) ≤ (i : Int)) = false := decide_eq_false (by omega)
  have hi0 : (0 : Int) ≤ (i : Int) := by omega
  have hi1 : (i : Int) < (D.length : Int) := by omega
  go_enter Try.func43, Try.ntmps43
  go_wp2_with fail
  refine (diskLen_calls h).mono ?_
  rintro e w' ⟨rfl, rfl⟩
  go_wp2_with fail
  go_ret
  exact ⟨rfl, rfl⟩
theorem diskSector_no {w : World} {base gd gs : Nat} {D : List Sct} {V : List (Option Addr × Nat)} (h : DiskAt w base gd gs D V) (i : Int) (hi : i < 0 ∨ (D.length : Int) ≤ i) :
    Calls Try.prog 43 #[.pointer (some ⟨gd, 0, none⟩), .int .i64 i] w fun e w' => e = .returned (.pointer none) ∧ w = w' := by
  rcases hi with hi | hi
  · have hd1 : decide (i < 0) = true := decide_eq_true hi
    go_enter Try.func43, Try.ntmps43
    go_wp2_with fail
    go_ret
    exact ⟨rfl, rfl⟩
  · have hd1 : decide (i < 0) = false := decide_eq_false (by omega)
    have hd2 : decide ((D.length : Int) ≤ i) = true := decide_eq_true hi
    go_enter Try.func43, Try.ntmps43
    go_wp2_with fail
    refine (diskLen_calls h).mono ?_
    rintro e w' ⟨rfl, rfl⟩
    go_wp2_with fail
    go_ret
    exact ⟨rfl, rfl⟩
theorem diskSector_nil (i : Int) (w : World) :
    Calls Try.prog 43 #[.pointer none, .int .i64 i] w fun e w' => e = .returned (.pointer none) ∧ w = w' := by
  by_cases hi : i < 0
  · have hd1 : decide (i < 0) = true := decide_eq_true hi
    go_enter Try.func43, Try.ntmps43
    go_wp2_with fail
    go_ret
    exact ⟨rfl, rfl⟩
  · have hd1 : decide (i < 0) = false := decide_eq_false (by omega)
    have hd2 : decide ((0 : Int) ≤ i) = true := decide_eq_true (by omega)
    go_enter Try.func43, Try.ntmps43
    go_wp2_with fail
    refine (diskLen_nil w).mono ?_
    rintro e w' ⟨rfl, rfl⟩
    go_wp2_with fail
    go_ret
    exact ⟨rfl, rfl⟩
end Go.Proofs.Ythieeidbfdhaaaa
