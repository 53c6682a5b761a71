/-
  revetmentkeep.Fill: a block of one byte.
-/
import Derived.Test.YtdglkjpdhnnpnaaLeGet
import Derived.Test.YtdglkjpdhnnpnaaBlocks
namespace Go.Proofs.Ytdglkjpdhnnpnaa
open Go Go.RowKit Go.Shelf

/-- A block's (a page's) value. -/
def vb (l : List UInt8) : Value := .agg (l.map B8).toArray
def zeros (n : Nat) : List UInt8 := List.replicate n 0

theorem zero_block (w : World) : (zeroValue 41).run Try.prog w = .ok (.agg ((zeros 64).map B8).toArray) w := Try.zeroValue41 w

theorem zeros_set (n k : Nat) (v : UInt8) (h : k < n) : (List.replicate k v ++ zeros (n - k)).set k v = List.replicate (k + 1) v ++ zeros (n - (k + 1)) := by
  unfold zeros
  rw [List.set_append_right _ _ (by simp)]
  simp only [List.length_replicate, Nat.sub_self]
  rw [show n - k = (n - (k + 1)) + 1 by omega, List.replicate_succ, List.set_cons_zero, List.replicate_succ', List.append_assoc]
  rfl

theorem map_set' (l : List UInt8) (k : Nat) (v : UInt8) : (l.map B8).set k (B8 v) = (l.set k v).map B8 := by rw [List.map_set]

set_option maxHeartbeats 1000000 in
theorem fill_calls (v : UInt8) (w : World) :
    Calls Try.prog 22 #[B8 v] w fun e w' => e = .returned (vb (List.replicate 64 v)) ∧ Below w.heap.size w w' := by
  go_enter Try.func22, Try.ntmps22
  go_wp2_with (first
    | (refine wpList_alloc_row 2 rfl 41 rfl _ rfl zero_block ?_; intro wa hra hsa hBa)
    | (refine wpList_alloc_row 3 rfl 41 rfl _ rfl zero_block ?_; intro w1 hr1 hs1 hB1))
  have hra1 := hra.step hB1
  have hB2 := bthen hBa hB1
  rw [hsa] at hr1 hs1
  go_loopw [4] (fun i wr => ∃ k : Nat, k ≤ 64 ∧ i = .int .i64 k ∧ RowAt wr (w.heap.size + 1) 41 ((List.replicate k v ++ zeros (64 - k)).map B8) ∧ RowAt wr w.heap.size 41 ((zeros 64).map B8) ∧ Below w.heap.size w wr) (fun i _ => 64 - (intOf i).toNat)
  case atStart => exact ⟨0, by omega, rfl, hr1, hra1, hB2⟩
  case round =>
    obtain ⟨k, hk, rfl, hr, hz, hB⟩ := hrel
    by_cases hlt : k < 64
    · have hk0 : (0 : Int) ≤ (k : Int) := by omega
      have hk1 : (k : Int) < 64 := by omega
      have hset := hr.set k (B8 v)
      rw [map_set', zeros_set _ _ _ hlt] at hset
      have hc := hr.cell k
      rw [List.getElem?_eq_getElem (by simp [zeros]; omega)] at hc
      have hf := hr.free k
      have hg := setCell_grown wr (w.heap.size + 1) k (B8 v)
      have hBs := hB.grown hg hB.size (fun j e => by cases e; omega)
      have hzs := hz.kept hg (fun e => by injection e; omega)
      clear hr hz
      generalize ((List.replicate k v ++ zeros (64 - k)).map B8)[k]'_ = x at hc
      go_wp2_with fail
      go_roundw
      case rel => exact ⟨k + 1, by omega, by go_num, hset, hzs, hBs⟩
      case measure => simp [intOf]; omega
    · obtain rfl : k = 64 := by omega
      have hfull : List.replicate 64 v ++ zeros (64 - 64) = List.replicate 64 v := by simp [zeros]
      rw [hfull] at hr
      generalize hL : List.replicate 64 v = L at hr
      have hl : (L.map B8).length = 64 := by rw [← hL]; simp
      go_wp2_with (first
        | (refine wpList_load_part 12 rfl 41 (.tmp 3) rfl hr 0 64 (L.map B8) rfl rfl (List.take_of_length_le (Nat.le_of_eq hl)) hl Try.isAgg41 Try.sizeOf41 ?_)
        | (refine wpList_store_part 41 (.tmp 2) (.tmp 12) rfl hz 0 (L.map B8) rfl rfl rfl (by rw [hl]; exact Try.sizeOf41) (by rw [hl]; decide) (bytes_oneCell L) ?_; intro w5 hr5 hs5 hg5))
      rw [splice_all _ _ (by rw [hl]; decide)] at hr5
      refine bodyPost_ret (results_cell_row rfl _ _ _ _ _ _ _ rfl hr5 Try.underlying41 rfl (by rw [List.size_toArray, hl]; kernel_rfl)) rfl ?_
      rw [hL]
      exact ⟨rfl, hB.grown hg5 hB.size (fun j e => by cases e; omega)⟩
end Go.Proofs.Ytdglkjpdhnnpnaa
