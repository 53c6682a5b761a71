/-
  revetmentlaw03.wakes returns true.
-/
import Derived.Test.YthieeidbfdhaaaaDiskLive
import Derived.Test.YthieeidbfdhaaaaDiskLooseN
import Derived.Test.YthieeidbfdhaaaaBlockEq
import Derived.Test.YthieeidbfdhaaaaHeld
import Derived.BigCall
import Derived.BigGuard
namespace Go.Proofs.Ythieeidbfdhaaaa
open Go Go.RowKit Go.Shelf

/-- A block of one byte, as the statements write it. -/
def fillB (v : UInt8) : List UInt8 := List.replicate 64 v
theorem fillB_length (v : UInt8) : (fillB v).length = 64 := List.length_replicate
theorem fill_L (v : UInt8) (L : List Value) (hL : Hid (L = (fillB v).map B8)) (w : World) :
    Calls Try.prog 19 #[B8 v] w fun e w' => e = .returned (.agg L.toArray) ∧ Below w.heap.size w w' := by
  rw [hL.out]
  exact fill_calls v w
theorem live_write_L {w0 w : World} {gd : Nat} {D : List Sct} {F : List Nat} (h : Live w0 w gd D F) (i : Nat) (hi : i < D.length) (hm : D[i].vers.length ≤ 100000) (b : List UInt8) (hb : b.length = 64) (D' : List Sct) (hD : D' = D.set i ⟨D[i].there, D[i].vers ++ [b]⟩) (L : List Value) (hL : Hid (L = b.map B8)) :
    Calls Try.prog 18 #[.pointer (some ⟨gd, 0, none⟩), .int .i64 (i : Int), .agg L.toArray] w fun e w' => e = .returned (.int .i64 0) ∧ Live w0 w' gd D' F ∧ Kept F w w' := by
  rw [hL.out, hD]
  exact live_write h i hi hm b hb
theorem live_write_no_L {w0 w : World} {gd : Nat} {D : List Sct} {F : List Nat} (h : Live w0 w gd D F) (i : Int) (hi : i < 0 ∨ (D.length : Int) ≤ i) (b : List UInt8) (L : List Value) (hL : Hid (L = b.map B8)) :
    Calls Try.prog 18 #[.pointer (some ⟨gd, 0, none⟩), .int .i64 i, .agg L.toArray] w fun e w' => e = .returned (.int .i64 1) ∧ Below w.heap.size w w' := by
  rw [hL.out]
  exact live_write_no h i hi b
theorem live_read_L {w0 w : World} {gd : Nat} {D : List Sct} {F : List Nat} (h : Live w0 w gd D F) (i : Nat) (hi : i < D.length) (hm : D[i].vers.length ≤ 100000) (L : List Value) (hL : Hid (L = D[i].last.map B8)) :
    Calls Try.prog 22 #[.pointer (some ⟨gd, 0, none⟩), .int .i64 (i : Int)] w fun e w' => e = .returned (.tuple #[.agg L.toArray, .int .i64 0]) ∧ Below w.heap.size w w' := by
  rw [hL.out]
  exact live_read h i hi hm

/-- Ints of what a disk said and a literal of the same two. -/
theorem ints_two {w x : World} {A : Option Addr} {c : Nat} {ys : List Nat} (h : IntsAt w w.heap.size A ys) (hb : Below w.heap.size w (x.alloc (.cells #[.int .i64 2, .int .i64 3] 3))) (hy : Hid (ys = [2, 3])) :
    Calls Try.prog 28 #[.slice A ys.length c, .slice (some ⟨x.heap.size, 0, none⟩) 2 2] (x.alloc (.cells #[.int .i64 2, .int .i64 3] 3)) fun e w' => e = .returned (.bool true) ∧ Below (x.alloc (.cells #[.int .i64 2, .int .i64 3] 3)).heap.size (x.alloc (.cells #[.int .i64 2, .int .i64 3] 3)) w' := by
  have h2 : IntsAt (x.alloc (.cells #[.int .i64 2, .int .i64 3] 3)) (x.alloc (.cells #[.int .i64 2, .int .i64 3] 3)).heap.size (some ⟨x.heap.size, 0, none⟩) [2, 3] := by
    have hr := alloc_row x 3 [.int .i64 2, .int .i64 3]
    refine .inr ⟨x.heap.size, 0, rfl, by simp, fun j hj => ?_⟩
    rcases j with _ | _ | j
    · exact hr.cellD 0 _ rfl
    · exact hr.cellD 1 _ rfl
    · have : j + 1 + 1 < 2 := hj
      omega
  have h1 : IntsAt (x.alloc (.cells #[.int .i64 2, .int .i64 3] 3)) (x.alloc (.cells #[.int .i64 2, .int .i64 3] 3)).heap.size A ys := by
    rcases h.below hb with h | ⟨b, o, hA, hlt, hc⟩
    · exact .inl h
    · exact .inr ⟨b, o, hA, Nat.lt_of_lt_of_le hlt hb.size, hc⟩
  refine (ints_calls A (some ⟨x.heap.size, 0, none⟩) c 2 ys [2, 3] _ h1 h2 (by rw [hy.out]; decide)).mono ?_
  rintro e w' ⟨rfl, hB⟩
  rw [hy.out]
  exact ⟨rfl, hB⟩

def wd0 : List Sct := List.replicate 4 Sct.zero
def wd1 : List Sct := [Sct.zero, Sct.zero, ⟨zeros 64, [fillB 7]⟩, Sct.zero]
def wd2 : List Sct := [Sct.zero, Sct.zero, ⟨zeros 64, [fillB 7, fillB 8]⟩, Sct.zero]
def wd3 : List Sct := [Sct.zero, Sct.zero, ⟨zeros 64, [fillB 7, fillB 8]⟩, ⟨zeros 64, [fillB 9]⟩]
def wd4 : List Sct := [Sct.zero, Sct.zero, ⟨fillB 7, []⟩, ⟨zeros 64, []⟩]
theorem wd3_loose : looseN wd3 = [2, 3] := rfl
theorem wd3_crash : crashN wd3 [4, 2] = wd4 := rfl

attribute [local go_sem ↓ high] exec_lblock
attribute [local go_sem ↓] Go.wp_at_zero Go.wp_at_succ

set_option maxRecDepth 100000 in
set_option maxHeartbeats 8000000 in
theorem wakes03_calls (w : World) :
    Calls Try.prog 15 #[] w fun e w' => e = .returned (.bool true) ∧ Below w.heap.size w w' := by
  obtain ⟨L7, hL7⟩ : ∃ L, L = (fillB 7).map B8 := ⟨_, rfl⟩
  obtain ⟨L8, hL8⟩ : ∃ L, L = (fillB 8).map B8 := ⟨_, rfl⟩
  obtain ⟨L9, hL9⟩ : ∃ L, L = (fillB 9).map B8 := ⟨_, rfl⟩
  have H7 := Lib.hid hL7
  have H8 := Lib.hid hL8
  have H9 := Lib.hid hL9
  obtain ⟨LZ, hLZ⟩ : ∃ L, L = (zeros 64).map B8 := ⟨_, rfl⟩
  have HZ := Lib.hid hLZ
  have HLZ := Lib.hid (show LZ.length = 64 by rw [hLZ]; rfl)
  have HOZ := Lib.hid (show ∀ v ∈ LZ, v.oneCell' = true by rw [hLZ]; exact bytes_oneCell _)
  have HL7 := Lib.hid (show L7.length = 64 by rw [hL7]; rfl)
  have HL8 := Lib.hid (show L8.length = 64 by rw [hL8]; rfl)
  have HO7 := Lib.hid (show ∀ v ∈ L7, v.oneCell' = true by rw [hL7]; exact bytes_oneCell _)
  have HO8 := Lib.hid (show ∀ v ∈ L8, v.oneCell' = true by rw [hL8]; exact bytes_oneCell _)
  clear hL7 hL8 hL9 hLZ
  go_enter Try.func15, Try.ntmps15
  go_wp2_with fail
  refine (live_new (brefl w) 4 (by decide) (by decide) (F := []) (by simp)).mono ?_
  rintro e w1 ⟨⟨gd, rfl, hl1⟩, hB1⟩
  go_wp2_with fail
  refine (fill_L 7 L7 H7 _).mono ?_
  rintro e w2 ⟨rfl, hB2⟩
  go_wp2_with fail
  refine (live_write_L (hl1.step hB2) 2 (by decide) (by decide) (fillB 7) (fillB_length 7) wd1 rfl L7 H7).mono ?_
  rintro e w3 ⟨rfl, hl3, _⟩
  go_wp2_with fail
  refine (fill_L 8 L8 H8 _).mono ?_
  rintro e w4 ⟨rfl, hB4⟩
  go_wp2_with fail
  refine (live_write_L (hl3.step hB4) 2 (by decide) (by decide) (fillB 8) (fillB_length 8) wd2 rfl L8 H8).mono ?_
  rintro e w5 ⟨rfl, hl5, _⟩
  go_wp2_with fail
  refine (fill_L 9 L9 H9 _).mono ?_
  rintro e w6 ⟨rfl, hB6⟩
  go_wp2_with fail
  refine (live_write_L (hl5.step hB6) 3 (by decide) (by decide) (fillB 9) (fillB_length 9) wd3 rfl L9 H9).mono ?_
  rintro e w7 ⟨rfl, hl7, _⟩
  go_wp2_with fail
  refine (fill_L 9 L9 H9 _).mono ?_
  rintro e w8 ⟨rfl, hB8⟩
  go_wp2_with fail
  refine (live_write_no_L (hl7.step hB8) 4 (.inr (by decide)) (fillB 9) L9 H9).mono ?_
  rintro e w9 ⟨rfl, hB9⟩
  have hl9 := (hl7.step hB8).step hB9
  go_wp2_with fail
  refine (live_read_L hl9 2 (by decide) (by decide) L8 H8).mono ?_
  rintro e w10 ⟨rfl, hB10⟩
  have hl10 := hl9.step hB10
  go_wp2_with (first
    | (refine wpList_alloc_row 3 rfl 37 rfl _ rfl zero_block ?_; intro w11 hr11 hs11 hB11)
    | (refine wpList_store_part 37 (.tmp 3) (.tmp 47) rfl hr11 0 L8 rfl rfl rfl (by rw [HL8.out]; exact Try.sizeOf37) (by rw [HL8.out]; decide) HO8.out ?_
       intro w12 hr12 hs12 hg12
       rw [splice_all _ _ (by rw [HL8.out]; rfl)] at hr12))
  have hB12 : Below w10.heap.size w10 w12 := hB11.grown hg12 hB11.size (fun j e => by cases e; exact Nat.le_refl _)
  have hl12 := hl10.add hB12 w10.heap.size (Nat.le_refl _) hr12.lt
  refine (live_loose hl12 (by decide)).mono ?_
  rintro e w13 ⟨⟨ys, A, c, rfl, hys, hown⟩, hB13⟩
  rw [looseAll_val, wd3_loose] at hys
  obtain ⟨g, rfl, hg1, hg2, hdr⟩ := hown.cells 0 (by rw [hys]; decide)
  have hl13 := hl12.add hB13 g hg1 hg2
  have hr13 := hr12.step hB13
  have Hys := Lib.hid hys
  clear hdr hys
  go_wp2_with fail
  have hl14 := hl13.add (alloc_below w13 (.cells #[.int .u8 4, .int .u8 2] 5)) w13.heap.size (Nat.le_refl _) (by simp)
  have hp14 := lit_bytes w13 5 (0, 0) [4, 2] #[.int .u8 4, .int .u8 2] rfl
  refine (live_crash hl14 (by decide) (by decide) (some ⟨w13.heap.size, 0, none⟩) 2 [4, 2] hp14 (by decide) (by decide) (fun b hb => by cases hb; simp)).mono ?_
  rintro e w15 ⟨⟨v, rfl⟩, hl15, hk15⟩
  rw [wd3_crash] at hl15
  have hr15 := hk15.row (g := w10.heap.size) (by simp) (hr13.step (alloc_below w13 (.cells #[.int .u8 4, .int .u8 2] 5)))
  have hown15 : OwnI w15 w12.heap.size (some ⟨g, 0, none⟩) c ys := (hown.alloc (.cells #[.int .u8 4, .int .u8 2] 5)).block (fun k hk => by injection hk with hk; subst hk; exact hk15 _ (by simp))
  go_wp2_with fail
  refine (live_read_L hl15 2 (by decide) (by decide) L7 H7).mono ?_
  rintro e w16 ⟨rfl, hB16⟩
  have hl16 := hl15.step hB16
  go_wp2_with (first
    | (refine wpList_alloc_row 6 rfl 37 rfl _ rfl zero_block ?_; intro w17 hr17 hs17 hB17)
    | (refine wpList_store_part 37 (.tmp 6) (.tmp 57) rfl hr17 0 L7 rfl rfl rfl (by rw [HL7.out]; exact Try.sizeOf37) (by rw [HL7.out]; decide) HO7.out ?_
       intro w18 hr18 hs18 hg18
       rw [splice_all _ _ (by rw [HL7.out]; rfl)] at hr18))
  have hB18 : Below w16.heap.size w16 w18 := hB17.grown hg18 hB17.size (fun j e => by cases e; exact Nat.le_refl _)
  have hl18 := hl16.add hB18 w16.heap.size (Nat.le_refl _) hr18.lt
  refine (live_read_L hl18 3 (by decide) (by decide) LZ HZ).mono ?_
  rintro e w19 ⟨rfl, hB19⟩
  have hl19 := hl18.step hB19
  go_wp2_with (first
    | (refine wpList_alloc_row 8 rfl 37 rfl _ rfl zero_block ?_; intro w20 hr20 hs20 hB20)
    | (refine wpList_store_part 37 (.tmp 8) (.tmp 62) rfl hr20 0 LZ rfl rfl rfl (by rw [HLZ.out]; exact Try.sizeOf37) (by rw [HLZ.out]; decide) HOZ.out ?_
       intro w21 hr21 hs21 hg21
       rw [splice_all _ _ (by rw [HLZ.out]; rfl)] at hr21))
  have hB21 : Below w19.heap.size w19 w21 := hB20.grown hg21 hB20.size (fun j e => by cases e; exact Nat.le_refl _)
  have hl21 := hl19.add hB21 w19.heap.size (Nat.le_refl _) hr21.lt
  have hB1521 : Below w15.heap.size w15 w21 := bthen (bthen (bthen hB16 hB18) hB19) hB21
  have hnow := hr15.step hB1521
  have ha := (hr18.step hB19).step hB21
  have hown21 := OwnI.below hown15 hB1521 (Nat.le_refl _)
  have hli := hown21.ints
  have hBw := hl21.below
  have HTL8 := Lib.hid (show (L8.drop 0).take 64 = L8 from List.take_of_length_le (Nat.le_of_eq HL8.out))
  have HTL7 := Lib.hid (show (L7.drop 0).take 64 = L7 from List.take_of_length_le (Nat.le_of_eq HL7.out))
  have HTLZ := Lib.hid (show (LZ.drop 0).take 64 = LZ from List.take_of_length_le (Nat.le_of_eq HLZ.out))
  have HL8L := HL8
  have HL7L := HL7
  have HLZL := HLZ
  have Hgb := Lib.hid guard_block
  have QL8 := Lib.hid (show ∀ w, (Op.equalIn 10000 37 (.agg L8.toArray) (.agg L8.toArray)).run Try.prog w = .ok true w from fun w => by rw [H8.out, neq_block _ _ (fillB_length 8) (fillB_length 8), beq_self_eq_true])
  have QL7 := Lib.hid (show ∀ w, (Op.equalIn 10000 37 (.agg L7.toArray) (.agg L7.toArray)).run Try.prog w = .ok true w from fun w => by rw [H7.out, neq_block _ _ (fillB_length 7) (fillB_length 7), beq_self_eq_true])
  have QLZ := Lib.hid (show ∀ w, (Op.equalIn 10000 37 (.agg LZ.toArray) (.agg LZ.toArray)).run Try.prog w = .ok true w from fun w => by rw [HZ.out, neq_block (zeros 64) (zeros 64) rfl rfl, beq_self_eq_true])
  have Hbz := Lib.hid (show Try.prog.built 37 [] = some LZ.toArray by rw [HZ.out]; kernel_rfl)
  have d0 : Since w21 w21.drew := (Since.refl _).drew
  have Hli := Lib.hid hli
  have Hl := Lib.hid hl21
  clear hli hl21 hl1 hl3 hl5 hl7 hl9 hl10 hl12 hl13 hl14 hl15 hl16 hl18 hl19 hr12 hr13 hr15 hr18 hown hown15 hown21 hp14 hk15
  refine wp_region_H (Since w21) 36 rfl (by kernel_rfl) ?_
  -- <held
  refine wh_take 0 (.int .i64 0) rfl (by kernel_rfl) (by kernel_rfl) (fun _ _ _ h => h) (by kernel_rfl) (fun _ _ => by kernel_rfl) ?_
  refine wh_take 1 (.bool true) rfl (by kernel_rfl) (by kernel_rfl) (fun _ _ _ h => h) (by kernel_rfl) (fun _ _ => by kernel_rfl) ?_
  refine wh_take 2 (.bool true) rfl (by kernel_rfl) (by kernel_rfl) (fun _ _ _ h => h) (by kernel_rfl) (fun _ _ => by kernel_rfl) ?_
  refine wh_take 3 (.int .i64 0) rfl (by kernel_rfl) (by kernel_rfl) (fun _ _ _ h => h) (by kernel_rfl) (fun _ _ => by kernel_rfl) ?_
  refine wh_take 4 (.bool true) rfl (by kernel_rfl) (by kernel_rfl) (fun _ _ _ h => h) (by kernel_rfl) (fun _ _ => by kernel_rfl) ?_
  refine wh_take 5 (.bool true) rfl (by kernel_rfl) (by kernel_rfl) (fun _ _ _ h => h) (by kernel_rfl) (fun _ _ => by kernel_rfl) ?_
  refine wh_take 6 (.bool true) rfl (by kernel_rfl) (by kernel_rfl) (fun _ _ _ h => h) (by kernel_rfl) (fun _ _ => by kernel_rfl) ?_
  refine wh_take 7 (.int .i64 0) rfl (by kernel_rfl) (by kernel_rfl) (fun _ _ _ h => h) (by kernel_rfl) (fun _ _ => by kernel_rfl) ?_
  refine wh_take 8 (.bool true) rfl (by kernel_rfl) (by kernel_rfl) (fun _ _ _ h => h) (by kernel_rfl) (fun _ _ => by kernel_rfl) ?_
  refine wh_take 9 (.bool true) rfl (by kernel_rfl) (by kernel_rfl) (fun _ _ _ h => h) (by kernel_rfl) (fun _ _ => by kernel_rfl) ?_
  refine wh_take 10 (.bool true) rfl (by kernel_rfl) (by kernel_rfl) (fun _ _ _ h => h) (by kernel_rfl) (fun _ _ => by kernel_rfl) ?_
  refine wh_take 11 (.agg L8.toArray) rfl (by kernel_rfl) (by kernel_rfl) (fun _ _ _ h => h) (by kernel_rfl) (fun W h => exec_load_part 37 (.tmp 3) rfl (hnow.step h) 0 64 L8 (by kernel_rfl) HTL8.out HL8L.out Try.isAgg37 Try.sizeOf37) ?_
  refine wh_call 12 19 #[.int .u8 8] rfl (by kernel_rfl) (by kernel_rfl) d0 (fun _ => by kernel_rfl) ?_
  refine (fill_L 8 L8 H8 _).mono ?_
  rintro e x1 ⟨rfl, hx1⟩
  have s1 : Since w21 x1 := d0.then_ hx1
  refine ⟨_, rfl, ?_⟩
  refine wh_take 13 (.bool true) rfl (by kernel_rfl) (by kernel_rfl) (fun _ _ _ h => h) (by kernel_rfl) (fun W _ => exec_eql 37 37 (.tmp 75) (.tmp 76) rfl L8.toArray L8.toArray (by kernel_rfl) (by kernel_rfl) true Hgb.out (QL8.out W)) ?_
  refine wh_take 14 (.bool true) rfl (by kernel_rfl) (by kernel_rfl) (fun _ _ _ h => h) (by kernel_rfl) (fun _ _ => by kernel_rfl) ?_
  refine wh_take 15 (.bool true) rfl (by kernel_rfl) (by kernel_rfl) (fun _ _ _ h => h) (by kernel_rfl) (fun _ _ => by kernel_rfl) ?_
  refine wh_take 16 (.slice (some ⟨g, 0, none⟩) ys.length c) rfl (by kernel_rfl) (by kernel_rfl) (fun _ _ _ h => h) (by kernel_rfl) (fun _ _ => by kernel_rfl) ?_
  refine wh_run 17 (v := .slice (some ⟨x1.heap.size, 0, none⟩) 2 2) (w' := x1.alloc (.cells #[.int .i64 2, .int .i64 3] 3)) rfl (by kernel_rfl) (by kernel_rfl) s1 (by kernel_rfl) ?_
  have s2 : Since w21 (x1.alloc (.cells #[.int .i64 2, .int .i64 3] 3)) := s1.alloc _
  refine wh_call 18 28 #[.slice (some ⟨g, 0, none⟩) ys.length c, .slice (some ⟨x1.heap.size, 0, none⟩) 2 2] rfl (by kernel_rfl) (by kernel_rfl) s2 (fun _ => by kernel_rfl) ?_
  refine (ints_two Hli.out s2 Hys).mono ?_
  rintro e x2 ⟨rfl, hx2⟩
  have s3 : Since w21 x2 := s2.then_ hx2
  refine ⟨_, rfl, ?_⟩
  refine wh_take 19 (.bool true) rfl (by kernel_rfl) (by kernel_rfl) (fun _ _ _ h => h) (by kernel_rfl) (fun _ _ => by kernel_rfl) ?_
  refine wh_take 20 (.bool true) rfl (by kernel_rfl) (by kernel_rfl) (fun _ _ _ h => h) (by kernel_rfl) (fun _ _ => by kernel_rfl) ?_
  refine wh_take 21 (.agg L7.toArray) rfl (by kernel_rfl) (by kernel_rfl) (fun _ _ _ h => h) (by kernel_rfl) (fun W h => exec_load_part 37 (.tmp 6) rfl (ha.step h) 0 64 L7 (by kernel_rfl) HTL7.out HL7L.out Try.isAgg37 Try.sizeOf37) ?_
  refine wh_call 22 19 #[.int .u8 7] rfl (by kernel_rfl) (by kernel_rfl) s3 (fun _ => by kernel_rfl) ?_
  refine (fill_L 7 L7 H7 _).mono ?_
  rintro e x3 ⟨rfl, hx3⟩
  have s4 : Since w21 x3 := s3.then_ hx3
  refine ⟨_, rfl, ?_⟩
  refine wh_take 23 (.bool true) rfl (by kernel_rfl) (by kernel_rfl) (fun _ _ _ h => h) (by kernel_rfl) (fun W _ => exec_eql 37 37 (.tmp 85) (.tmp 86) rfl L7.toArray L7.toArray (by kernel_rfl) (by kernel_rfl) true Hgb.out (QL7.out W)) ?_
  refine wh_take 24 (.bool true) rfl (by kernel_rfl) (by kernel_rfl) (fun _ _ _ h => h) (by kernel_rfl) (fun _ _ => by kernel_rfl) ?_
  refine wh_take 25 (.bool true) rfl (by kernel_rfl) (by kernel_rfl) (fun _ _ _ h => h) (by kernel_rfl) (fun _ _ => by kernel_rfl) ?_
  refine wh_take 26 (.agg LZ.toArray) rfl (by kernel_rfl) (by kernel_rfl) (fun _ _ _ h => h) (by kernel_rfl) (fun W h => exec_load_part 37 (.tmp 8) rfl (hr21.step h) 0 64 LZ (by kernel_rfl) HTLZ.out HLZL.out Try.isAgg37 Try.sizeOf37) ?_
  refine wh_take 27 (.agg LZ.toArray) rfl (by kernel_rfl) (by kernel_rfl) (fun _ _ _ h => h) (by kernel_rfl) (fun W _ => exec_build0 37 rfl LZ Hbz.out) ?_
  refine wh_take 28 (.bool true) rfl (by kernel_rfl) (by kernel_rfl) (fun _ _ _ h => h) (by kernel_rfl) (fun W _ => exec_eql 37 37 (.tmp 90) (.tmp 91) rfl LZ.toArray LZ.toArray (by kernel_rfl) (by kernel_rfl) true Hgb.out (QLZ.out W)) ?_
  refine wh_take 29 (.bool true) rfl (by kernel_rfl) (by kernel_rfl) (fun _ _ _ h => h) (by kernel_rfl) (fun _ _ => by kernel_rfl) ?_
  refine wh_take 30 (.bool true) rfl (by kernel_rfl) (by kernel_rfl) (fun _ _ _ h => h) (by kernel_rfl) (fun _ _ => by kernel_rfl) ?_
  refine wh_take 31 (.pointer (some ⟨gd, 0, none⟩)) rfl (by kernel_rfl) (by kernel_rfl) (fun _ _ _ h => h) (by kernel_rfl) (fun _ _ => by kernel_rfl) ?_
  refine wh_call 32 31 #[.pointer (some ⟨gd, 0, none⟩)] rfl (by kernel_rfl) (by kernel_rfl) s4 (fun _ => by kernel_rfl) ?_
  refine (live_len (Hl.out.step s4)).mono ?_
  rintro e x4 ⟨rfl, rfl⟩
  refine ⟨.int .i64 4, rfl, ?_⟩
  refine wh_take 33 (.bool true) rfl (by kernel_rfl) (by kernel_rfl) (fun _ _ _ h => h) (by kernel_rfl) (fun _ _ => by kernel_rfl) ?_
  refine wh_take 34 (.bool true) rfl (by kernel_rfl) (by kernel_rfl) (fun _ _ _ h => h) (by kernel_rfl) (fun _ _ => by kernel_rfl) ?_
  refine wh_take 35 (.bool true) rfl (by kernel_rfl) (by kernel_rfl) (fun _ _ _ h => h) (by kernel_rfl) (fun _ _ => by kernel_rfl) ?_
  -- held>
  refine wh_done (by kernel_rfl) s4 ?_
  simp only [Act.put, List.setIfInBounds_toArray, List.set_cons_zero, List.set_cons_succ]
  go_wp2_with fail
  go_ret
  exact ⟨rfl, bthen hBw s4⟩
end Go.Proofs.Ythieeidbfdhaaaa
