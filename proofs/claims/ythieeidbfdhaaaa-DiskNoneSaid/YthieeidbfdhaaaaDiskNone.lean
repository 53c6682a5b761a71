/-
  revetmentlaw03.DiskNone returns true: the walk.
-/
import Derived.Test.YthieeidbfdhaaaaFair
namespace Go.Proofs.Ythieeidbfdhaaaa
open Go Go.RowKit

theorem fair_n (A : Option Addr) (c n : Nat) (l : List DStep) (hn : l.length = n) (w : World) (h : DStepsAt w w.heap.size A l) (hl : n ≤ 140737488355328) (b : Bool) (hb : fairB l = b) :
    Calls Try.prog 14 #[.slice A n c] w fun e w' => e = .returned (.bool b) ∧ w = w' := by
  subst hn hb
  exact fair_calls A c l w _ h hl
theorem read_nil (i : Int) (w : World) (L : List Value) (hL : Hid (L = (zeros 64).map B8)) :
    Calls Try.prog 22 #[.pointer none, .int .i64 i] w fun e w' => e = .returned (.tuple #[.agg L.toArray, .int .i64 1]) ∧ Below w.heap.size w w' := by
  rw [hL.out]
  exact diskRead_out fun w' _ => diskSector_nil i w'
theorem write_nil_L (i : Int) (b : List UInt8) (L : List Value) (hL : Hid (L = b.map B8)) (w : World) :
    Calls Try.prog 18 #[.pointer none, .int .i64 i, .agg L.toArray] w fun e w' => e = .returned (.int .i64 1) ∧ Below w.heap.size w w' := by
  rw [hL.out]
  exact diskWrite_nil i b w

attribute [local go_sem ↓ high] exec_lblock
attribute [local go_sem ↓] Go.wp_at_zero Go.wp_at_succ

set_option maxRecDepth 100000 in
set_option maxHeartbeats 2000000 in
theorem diskNone_walk (x : DStep) (w : World) (hx : x.Ok w w.heap.size) :
    Calls Try.prog 5 #[.agg x.val.toArray] w fun e w' => e = .returned (.bool true) ∧ Below w.heap.size w w' := by
  obtain ⟨L, hL⟩ : ∃ L, L = (fillB x.v).map B8 := ⟨_, rfl⟩
  obtain ⟨LZ, hLZ⟩ : ∃ L, L = (zeros 64).map B8 := ⟨_, rfl⟩
  have HL := Lib.hid hL
  have HZ := Lib.hid hLZ
  have HLZ := Lib.hid (show LZ.length = 64 by rw [hLZ]; rfl)
  have HOZ := Lib.hid (show ∀ v ∈ LZ, v.oneCell' = true by rw [hLZ]; exact bytes_oneCell _)
  clear hL hLZ
  obtain ⟨W1, hW1⟩ : ∃ W1, W1 = (w.alloc (.cells x.val.toArray 34)).alloc (.cells x.val.toArray 34) := ⟨_, rfl⟩
  have hB1 : Below w.heap.size w W1 := by rw [hW1]; exact balloc (balloc (brefl w) _) _
  have hr1 : RowAt W1 w.heap.size 34 x.val := by rw [hW1]; exact (alloc_row w _ _).step (alloc_below _ _)
  have hst : DStepsAt W1 W1.heap.size (some ⟨w.heap.size + 1, 0, none⟩) [x] := by
    have hr := alloc_row (w.alloc (.cells x.val.toArray 34)) 34 x.val
    rw [← hW1, World.size_alloc] at hr
    refine ⟨.inr ⟨_, 0, rfl, hr.lt, fun j hj i v hv => ?_⟩, fun y hy => ?_⟩
    · obtain rfl : j = 0 := by simp at hj; exact hj
      rw [Nat.zero_mul, Nat.zero_add]
      exact hr.cellD i v hv
    · obtain rfl : y = x := by simpa using hy
      exact ⟨(hx.below hB1).bytes.more hB1.size, hx.len, hx.most, hx.k1, hx.k2, hx.p1, hx.p2⟩
  have hc3 : W1.cell? ⟨w.heap.size, 3, none⟩ = some (.slice x.A x.pick.length x.cap) := hr1.cellD 3 _ rfl
  clear hx
  unfold DStep.val at hW1
  go_enter Try.func5, Try.ntmps5
  unfold DStep.val
  cases hf : fairB [x]
  · go_wp2_with fail
    rw [← hW1]
    refine (fair_n _ 1 1 [x] rfl W1 hst (by omega) false hf).mono ?_
    rintro e w2 ⟨rfl, rfl⟩
    clear hW1 hc3 hr1 hst
    go_wp2_with fail
    refine (wakes03_calls _).mono ?_
    rintro e w2 ⟨rfl, hB2⟩
    go_wp2_with fail
    go_ret
    exact ⟨rfl, bthen hB1 hB2⟩
  go_wp2_with fail
  rw [← hW1]
  refine (fair_n _ 1 1 [x] rfl W1 hst (by omega) true hf).mono ?_
  rintro e w2 ⟨rfl, rfl⟩
  clear hW1 hf hst
  go_wp2_with fail
  refine (diskCrash_nil _ _ _ _).mono ?_
  rintro e w2 ⟨⟨v, rfl⟩, hB2⟩
  clear hc3
  have hr2 := hr1.step hB2
  have hc1 : w2.cell? ⟨w.heap.size, 1, none⟩ = some (.int .i64 x.place) := hr2.cellD 1 _ rfl
  go_wp2_with fail
  refine (read_nil _ _ LZ HZ).mono ?_
  rintro e w3 ⟨rfl, hB3⟩
  clear hc1
  go_wp2_with (first
    | (refine wpList_alloc_row 4 rfl 37 rfl _ rfl zero_block ?_; intro w4 hr4 hs4 hB4)
    | (refine wpList_store_part 37 (.tmp 4) (.tmp 20) rfl hr4 0 LZ rfl rfl rfl (by rw [HLZ.out]; exact Try.sizeOf37) (by rw [HLZ.out]; decide) HOZ.out ?_
       intro w5 hr5b hs5 hg5
       rw [splice_all _ _ (by rw [HLZ.out]; rfl)] at hr5b))
  have hB5 : Below w3.heap.size w3 w5 := hB4.grown hg5 hB4.size (fun j e => by cases e; exact Nat.le_refl _)
  have hr5 := (hr2.step hB3).step hB5
  have hBw : Below w.heap.size w w5 := bthen (bthen (bthen hB1 hB2) hB3) hB5
  have HTLZ := Lib.hid (show (LZ.drop 0).take 64 = LZ from List.take_of_length_le (Nat.le_of_eq HLZ.out))
  have Hgb := Lib.hid guard_block
  have QLZ := Lib.hid (show ∀ w, (Op.equalIn 10000 37 (.agg LZ.toArray) (.agg LZ.toArray)).run Try.prog w = .ok true w from fun w => by rw [HZ.out, neq_block (zeros 64) (zeros 64) rfl rfl, beq_self_eq_true])
  have Hbz := Lib.hid (show Try.prog.built 37 [] = some LZ.toArray by rw [HZ.out]; kernel_rfl)
  have d0 : Since w5 w5.drew := (Since.refl _).drew
  clear hr1 hr2 hr4 hs4 hs5 
  refine wp_region_H (Since w5) 37 rfl (by kernel_rfl) ?_
  -- <held
  refine wh_take 0 (.agg LZ.toArray) rfl (by kernel_rfl) (by kernel_rfl) (fun _ _ _ h => h) (by kernel_rfl) (fun W h => exec_load_part 37 (.tmp 4) rfl (hr5b.step h) 0 64 LZ (by kernel_rfl) HTLZ.out HLZ.out Try.isAgg37 Try.sizeOf37) ?_
  refine wh_take 1 (.agg LZ.toArray) rfl (by kernel_rfl) (by kernel_rfl) (fun _ _ _ h => h) (by kernel_rfl) (fun W _ => exec_build0 37 rfl LZ Hbz.out) ?_
  refine wh_take 2 (.bool true) rfl (by kernel_rfl) (by kernel_rfl) (fun _ _ _ h => h) (by kernel_rfl) (fun W _ => exec_eql 37 37 (.tmp 22) (.tmp 23) rfl LZ.toArray LZ.toArray (by kernel_rfl) (by kernel_rfl) true Hgb.out (QLZ.out W)) ?_
  refine wh_take 3 (.bool true) rfl (by kernel_rfl) (by kernel_rfl) (fun _ _ _ h => h) (by kernel_rfl) (fun _ _ => by kernel_rfl) ?_
  refine wh_take 4 (.int .i64 1) rfl (by kernel_rfl) (by kernel_rfl) (fun _ _ _ h => h) (by kernel_rfl) (fun _ _ => by kernel_rfl) ?_
  refine wh_take 5 (.bool true) rfl (by kernel_rfl) (by kernel_rfl) (fun _ _ _ h => h) (by kernel_rfl) (fun _ _ => by kernel_rfl) ?_
  refine wh_take 6 (.bool true) rfl (by kernel_rfl) (by kernel_rfl) (fun _ _ _ h => h) (by kernel_rfl) (fun _ _ => by kernel_rfl) ?_
  refine wh_take 7 (.bool true) rfl (by kernel_rfl) (by kernel_rfl) (fun _ _ _ h => h) (by kernel_rfl) (fun _ _ => by kernel_rfl) ?_
  refine wh_take 8 (.pointer none) rfl (by kernel_rfl) (by kernel_rfl) (fun _ _ _ h => h) (by kernel_rfl) (fun _ _ => by kernel_rfl) ?_
  refine wh_take 9 (.pointer (some ⟨w.heap.size, 1, none⟩)) rfl (by kernel_rfl) (by kernel_rfl) (fun _ _ _ h => h) (by kernel_rfl) (fun _ _ => by kernel_rfl) ?_
  refine wh_take 10 (.int .i64 x.place) rfl (by kernel_rfl) (by kernel_rfl) (fun _ _ _ h => h) (by kernel_rfl) (fun W h => exec_load_cell 3 (.tmp 31) rfl ⟨w.heap.size, 1, none⟩ (.int .i64 x.place) (by kernel_rfl) ((hr5.step h).cellD 1 _ rfl) Try.isAgg3) ?_
  refine wh_take 11 (.pointer (some ⟨w.heap.size, 2, none⟩)) rfl (by kernel_rfl) (by kernel_rfl) (fun _ _ _ h => h) (by kernel_rfl) (fun _ _ => by kernel_rfl) ?_
  refine wh_take 12 (B8 x.v) rfl (by kernel_rfl) (by kernel_rfl) (fun _ _ _ h => h) (by kernel_rfl) (fun W h => exec_load_cell 5 (.tmp 33) rfl ⟨w.heap.size, 2, none⟩ (B8 x.v) (by kernel_rfl) ((hr5.step h).cellD 2 _ rfl) Try.isAgg5) ?_
  refine wh_call 13 19 #[B8 x.v] rfl (by kernel_rfl) (by kernel_rfl) d0 (fun _ => by kernel_rfl) ?_
  refine (fill_L x.v L HL _).mono ?_
  rintro e x1 ⟨rfl, hx1⟩
  have s1 : Since w5 x1 := d0.then_ hx1
  refine ⟨_, rfl, ?_⟩
  refine wh_call 14 18 #[.pointer none, .int .i64 x.place, .agg L.toArray] rfl (by kernel_rfl) (by kernel_rfl) s1 (fun _ => by kernel_rfl) ?_
  refine (write_nil_L x.place (fillB x.v) L HL _).mono ?_
  rintro e x2 ⟨rfl, hx2⟩
  have s2 : Since w5 x2 := s1.then_ hx2
  refine ⟨_, rfl, ?_⟩
  refine wh_take 15 (.bool true) rfl (by kernel_rfl) (by kernel_rfl) (fun _ _ _ h => h) (by kernel_rfl) (fun _ _ => by kernel_rfl) ?_
  refine wh_take 16 (.bool true) rfl (by kernel_rfl) (by kernel_rfl) (fun _ _ _ h => h) (by kernel_rfl) (fun _ _ => by kernel_rfl) ?_
  refine wh_take 17 (.bool true) rfl (by kernel_rfl) (by kernel_rfl) (fun _ _ _ h => h) (by kernel_rfl) (fun _ _ => by kernel_rfl) ?_
  refine wh_take 18 (.pointer none) rfl (by kernel_rfl) (by kernel_rfl) (fun _ _ _ h => h) (by kernel_rfl) (fun _ _ => by kernel_rfl) ?_
  refine wh_call 19 24 #[.pointer none] rfl (by kernel_rfl) (by kernel_rfl) s2 (fun _ => by kernel_rfl) ?_
  refine (diskFlush_nil _).mono ?_
  rintro e x3 ⟨rfl, rfl⟩
  refine ⟨_, rfl, ?_⟩
  refine wh_take 20 (.bool true) rfl (by kernel_rfl) (by kernel_rfl) (fun _ _ _ h => h) (by kernel_rfl) (fun _ _ => by kernel_rfl) ?_
  refine wh_take 21 (.bool true) rfl (by kernel_rfl) (by kernel_rfl) (fun _ _ _ h => h) (by kernel_rfl) (fun _ _ => by kernel_rfl) ?_
  refine wh_take 22 (.bool true) rfl (by kernel_rfl) (by kernel_rfl) (fun _ _ _ h => h) (by kernel_rfl) (fun _ _ => by kernel_rfl) ?_
  refine wh_take 23 (.pointer none) rfl (by kernel_rfl) (by kernel_rfl) (fun _ _ _ h => h) (by kernel_rfl) (fun _ _ => by kernel_rfl) ?_
  refine wh_call 24 29 #[.pointer none] rfl (by kernel_rfl) (by kernel_rfl) s2 (fun _ => by kernel_rfl) ?_
  refine (diskLoose_nil _).mono ?_
  rintro e x4 ⟨rfl, hx4⟩
  have s4 : Since w5 x4 := s2.then_ hx4
  refine ⟨_, rfl, ?_⟩
  refine wh_take 25 (.int .i64 0) rfl (by kernel_rfl) (by kernel_rfl) (fun _ _ _ h => h) (by kernel_rfl) (fun _ _ => by kernel_rfl) ?_
  refine wh_take 26 (.bool true) rfl (by kernel_rfl) (by kernel_rfl) (fun _ _ _ h => h) (by kernel_rfl) (fun _ _ => by kernel_rfl) ?_
  refine wh_take 27 (.bool true) rfl (by kernel_rfl) (by kernel_rfl) (fun _ _ _ h => h) (by kernel_rfl) (fun _ _ => by kernel_rfl) ?_
  refine wh_take 28 (.bool true) rfl (by kernel_rfl) (by kernel_rfl) (fun _ _ _ h => h) (by kernel_rfl) (fun _ _ => by kernel_rfl) ?_
  refine wh_take 29 (.pointer none) rfl (by kernel_rfl) (by kernel_rfl) (fun _ _ _ h => h) (by kernel_rfl) (fun _ _ => by kernel_rfl) ?_
  refine wh_call 30 31 #[.pointer none] rfl (by kernel_rfl) (by kernel_rfl) s4 (fun _ => by kernel_rfl) ?_
  refine (diskLen_nil _).mono ?_
  rintro e x5 ⟨rfl, rfl⟩
  refine ⟨_, rfl, ?_⟩
  refine wh_take 31 (.bool true) rfl (by kernel_rfl) (by kernel_rfl) (fun _ _ _ h => h) (by kernel_rfl) (fun _ _ => by kernel_rfl) ?_
  refine wh_take 32 (.bool true) rfl (by kernel_rfl) (by kernel_rfl) (fun _ _ _ h => h) (by kernel_rfl) (fun _ _ => by kernel_rfl) ?_
  refine wh_take 33 (.bool true) rfl (by kernel_rfl) (by kernel_rfl) (fun _ _ _ h => h) (by kernel_rfl) (fun _ _ => by kernel_rfl) ?_
  refine wh_call 34 15 #[] rfl (by kernel_rfl) (by kernel_rfl) s4 (fun _ => by kernel_rfl) ?_
  refine (wakes03_calls _).mono ?_
  rintro e x6 ⟨rfl, hx6⟩
  have s6 : Since w5 x6 := s4.then_ hx6
  refine ⟨_, rfl, ?_⟩
  refine wh_take 35 (.bool true) rfl (by kernel_rfl) (by kernel_rfl) (fun _ _ _ h => h) (by kernel_rfl) (fun _ _ => by kernel_rfl) ?_
  refine wh_take 36 (.bool true) rfl (by kernel_rfl) (by kernel_rfl) (fun _ _ _ h => h) (by kernel_rfl) (fun _ _ => by kernel_rfl) ?_
  -- held>
  refine wh_done (by kernel_rfl) s6 ?_
  simp only [Act.put, List.setIfInBounds_toArray, List.set_cons_zero, List.set_cons_succ]
  go_wp2_with fail
  go_ret
  exact ⟨rfl, bthen hBw s6⟩
end Go.Proofs.Ythieeidbfdhaaaa
