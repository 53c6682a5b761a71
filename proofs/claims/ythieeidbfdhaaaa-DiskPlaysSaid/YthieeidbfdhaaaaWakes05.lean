/-
  revetmentlaw05.wakes returns true.
-/
import Derived.Test.YthieeidbfdhaaaaPageEq
import Derived.Test.YthieeidbfdhaaaaMore
import Derived.BigCall
import Derived.BigGuard
namespace Go.Proofs.Ythieeidbfdhaaaa
open Go Go.RowKit Go.Shelf

def wp5 : Sec := ⟨9, 258, 3, 77 :: zeros 47⟩
theorem wp5_body : wp5.body.length = 48 := rfl
theorem wp5_ok : wp5.ok = true := by decide
theorem wp5_cells : (Sec.mk 9 258 3 (zeros 48)).cells.set 3 (B8 77) = wp5.cells := rfl

theorem decode_E (b : List UInt8) (hb : b.length = 64) (E : List Value) (hE : Hid (E = b.map B8)) (p : Sec) (c : Int) (hp : Hid (decode b = (p, c))) (S : List Value) (hS : Hid (S = p.cells)) (w : World) :
    Calls Try.prog 35 #[.agg E.toArray] w fun e w' => e = .returned (.tuple #[.agg S.toArray, .int .i64 c]) ∧ Below w.heap.size w w' := by
  have h := decode_calls b hb w
  rw [hp.out] at h
  rw [hE.out, hS.out]
  exact h

theorem decode_zeros : decode (zeros 64) = (Sec.none, 11) := by
  unfold decode
  rw [if_neg (by decide)]

/-- Blocks read from the row that the encoded sector lies in. -/
theorem wp5_at (E : List Value) (hE : E = wp5.enc.map B8) : E[0]? = some (B8 9) ∧ E[1]? = some (B8 2) ∧ E[2]? = some (B8 1) ∧ E[5]? = some (B8 3) ∧ E[7]? = some (B8 77) ∧ E[63]? = some (B8 0) := by
  subst hE
  exact ⟨rfl, rfl, rfl, rfl, rfl, rfl⟩

set_option maxHeartbeats 600000 in
theorem cut_n (A : Option Addr) (cap n : Nat) (bs : List UInt8) (hn : bs.length = n) (hl : n ≤ cap) (hl48 : n ≤ 100000) (w : World) (hb : BytesAt w w.heap.size A bs) :
    Calls Try.prog 39 #[.slice A n cap] w fun e w' => (∃ zs A' c, e = .returned (.slice A' zs.length c) ∧ zs = cutN bs ∧ OwnA w' w.heap.size 63 48 A' c zs) ∧ Below w.heap.size w w' := by
  subst hn
  exact cut_calls A cap bs hl hl48 w hb

set_option maxRecDepth 100000 in
set_option maxHeartbeats 600000 in
theorem wakes05_calls (w : World) :
    Calls Try.prog 38 #[] w fun e w' => e = .returned (.bool true) ∧ Below w.heap.size w w' := by
  obtain ⟨E, hE⟩ : ∃ E, E = wp5.enc.map B8 := ⟨_, rfl⟩
  obtain ⟨e0, e1, e2, e5, e7, e63⟩ := wp5_at E hE
  have hel : E.length = 64 := by rw [hE, List.length_map, wp5.enc_length wp5_body]
  have hone : ∀ v ∈ E, v.oneCell' = true := by rw [hE]; exact bytes_oneCell wp5.enc
  have HE := Lib.hid hE
  have HEL := Lib.hid hel
  have HET := Lib.hid (List.take_of_length_le (Nat.le_of_eq hel))
  have HP := Lib.hid (decode_enc wp5 wp5_body wp5_ok)
  obtain ⟨Z, hZ⟩ : ∃ Z, Z = (zeros 64).map B8 := ⟨_, rfl⟩
  have HZ := Lib.hid hZ
  have HZ0 := Lib.hid decode_zeros
  have hz : Try.prog.built 37 [] = some Z.toArray := by rw [hZ]; kernel_rfl
  have Hz := Lib.hid hz
  obtain ⟨S0, hS0⟩ : ∃ S, S = (Sec.mk 9 258 3 (zeros 48)).cells := ⟨_, rfl⟩
  have HS0 := Lib.hid hS0
  have HS0L := Lib.hid (show S0.length = 51 by rw [hS0]; rfl)
  have HS01 := Lib.hid (show ∀ v ∈ S0, v.oneCell' = true by rw [hS0]; exact sec_one _)
  have HS03 := Lib.hid (show S0[3]? = some (B8 0) by rw [hS0]; rfl)
  clear hS0
  obtain ⟨N, hN⟩ : ∃ N, N = Sec.none.cells := ⟨_, rfl⟩
  have HN := Lib.hid hN
  have HNL := Lib.hid (show N.length = 51 by rw [hN]; rfl)
  have HN1 := Lib.hid (show ∀ v ∈ N, v.oneCell' = true by rw [hN]; exact sec_one _)
  clear hN
  obtain ⟨S, hS⟩ : ∃ S, S = wp5.cells := ⟨_, rfl⟩
  have HSL := Lib.hid (show S.length = 51 by rw [hS]; rfl)
  have HST := Lib.hid (show S.take 51 = S by rw [hS]; rfl)
  have hs1 : ∀ v ∈ S, v.oneCell' = true := by rw [hS]; exact sec_one wp5
  have HS := Lib.hid hS
  have heq : ∀ w, (Op.equalIn 10000 65 (.agg S.toArray) (.agg S.toArray)).run Try.prog w = .ok true w := fun w => by
    rw [hS, eq_sec wp5 wp5 wp5_body wp5_body w]
    rfl
  have hgs := guard_sec
  have Hgs := Lib.hid hgs
  have Hhq := Lib.hid heq
  have Hone := Lib.hid hone
  have Hs1 := Lib.hid hs1
  clear hE hel hZ hz hS hgs heq hone hs1
  have He0 := Lib.hid e0
  have He1 := Lib.hid e1
  have He2 := Lib.hid e2
  have He5 := Lib.hid e5
  have He7 := Lib.hid e7
  have He63 := Lib.hid e63
  clear e0 e1 e2 e5 e7 e63
  go_enter Try.func38, Try.ntmps38
  go_wp2_with (first
    | (refine wpList_build 8 rfl 65 _ rfl S0 rfl (by rw [HS0.out]; kernel_rfl) ?_)
    | (refine wpList_alloc_row 1 rfl 65 rfl _ rfl zero_sec ?_; intro w1 hr1 hs1 hB1)
    | (refine wpList_store_part 65 (.tmp 1) (.tmp 8) rfl hr1 0 S0 rfl rfl rfl (by rw [HS0L.out]; exact Try.sizeOf65) (by rw [HS0L.out]; decide) HS01.out ?_
       intro w2 hr2 hs2 hg2
       rw [splice_all _ _ (by rw [HS0L.out]; rfl)] at hr2
       have hc3 := hr2.cellD 3 (B8 0) HS03.out
       have hf3 := hr2.free 3
       have hr3 : RowAt (w2.setCell ⟨w.heap.size, 3, none⟩ (.int .u8 77)) w.heap.size 65 (S0.set 3 (B8 77)) := hr2.set 3 (B8 77)
       rw [HS0.out, wp5_cells, ← HS.out] at hr3
       have hB3 := (hB1.grown hg2 hB1.size (fun j e => by cases e; exact Nat.le_refl _)).setCell (p := ⟨w.heap.size, 3, none⟩) (Nat.le_refl _) (.int .u8 77))
    | (refine wpList_load_part 12 rfl 65 (.tmp 1) rfl hr3 0 51 S rfl rfl HST.out HSL.out Try.isAgg65 Try.sizeOf65 ?_
       rw [HS.out])
    | (go_at_call_of 33 (Value.agg wp5.cells.toArray); refine (encode_ok wp5 wp5_body wp5_ok E HE _).mono ?_; rintro e w4 ⟨rfl, hB4⟩)
    | (refine wpList_alloc_row 2 rfl 37 rfl _ rfl zero_block ?_; intro w5 hr5 hs5 hB5)
    | (refine wpList_store_part 37 (.tmp 2) (.tmp 14) rfl hr5 0 E rfl rfl rfl (by rw [HEL.out]; exact Try.sizeOf37) (by rw [HEL.out]; decide) Hone.out ?_; intro w6 hr6 hs6 hg6; rw [splice_all _ _ (by rw [HEL.out]; rfl)] at hr6)
    | (refine wpList_load_part 17 rfl 37 (.tmp 2) rfl hr6 0 64 E rfl rfl HET.out HEL.out Try.isAgg37 Try.sizeOf37 ?_)
    | (go_at_call_of 35 (Value.agg E.toArray); refine (decode_E wp5.enc (wp5.enc_length wp5_body) E HE wp5 0 HP S HS _).mono ?_; rintro e w7 ⟨rfl, hB7⟩)
    | (refine wpList_alloc_row 4 rfl 65 rfl _ rfl zero_sec ?_; intro w8 hr8 hs8 hB8)
    | (refine wpList_store_part 65 (.tmp 4) (.tmp 19) rfl hr8 0 S rfl rfl rfl (by rw [HSL.out]; exact Try.sizeOf65) (by rw [HSL.out]; decide) Hs1.out ?_; intro w9 hr9 hs9 hg9; rw [splice_all _ _ (by rw [HSL.out]; rfl)] at hr9)
    | (refine wpList_build0 22 rfl 37 rfl Z rfl Hz.out ?_)
    | (go_at_call_of 35 (Value.agg Z.toArray); refine (decode_E (zeros 64) rfl Z HZ Sec.none 11 HZ0 N HN _).mono ?_; rintro e w10 ⟨rfl, hB10⟩)
    | (refine wpList_alloc_row 6 rfl 65 rfl _ rfl zero_sec ?_; intro w11 hr11 hs11 hB11)
    | (refine wpList_store_part 65 (.tmp 6) (.tmp 24) rfl hr11 0 N rfl rfl rfl (by rw [HNL.out]; exact Try.sizeOf65) (by rw [HNL.out]; decide) HN1.out ?_
       intro w12 hr12 hs12 hg12
       have hz3 := hr3.lt
       have hz4 := hB4.size
       have hz5 := hB5.size
       have hz6 := hg6.size
       have hz7 := hB7.size
       have hz8 := hB8.size
       have hz9 := hg9.size
       have hz10 := hB10.size
       have hz11 := hB11.size
       have ht4 : RowAt w12 w7.heap.size 65 S := ((hr9.step hB10).step hB11).kept hg12 (fun e => by injection e with e; omega)
       have ht2 : RowAt w12 w4.heap.size 37 E := ((((hr6.step hB7).step hB8).kept hg9 (fun e => by injection e with e; omega)).step hB10 |>.step hB11).kept hg12 (fun e => by injection e with e; omega)
       have ht1 : RowAt w12 w.heap.size 65 S := (((((((hr3.step hB4).step hB5).kept hg6 (fun e => by injection e with e; omega)).step hB7).step hB8).kept hg9 (fun e => by injection e with e; omega)).step hB10 |>.step hB11).kept hg12 (fun e => by injection e with e; omega)
       have hBa := bthen (bthen hB3 hB4) hB5
       have hBb := bthen (bthen (hBa.grown hg6 hBa.size (fun j e => by cases e; omega)) hB7) hB8
       have hBc := bthen (bthen (hBb.grown hg9 hBb.size (fun j e => by cases e; omega)) hB10) hB11
       have hBB : Below w.heap.size w w12 := hBc.grown hg12 hBc.size (fun j e => by cases e; omega)
       have hc0 := ht2.cellD 0 _ He0.out
       have hc1 := ht2.cellD 1 _ He1.out
       have hc2 := ht2.cellD 2 _ He2.out
       have hc5 := ht2.cellD 5 _ He5.out
       have hc7 := ht2.cellD 7 _ He7.out
       have hc63 := ht2.cellD 63 _ He63.out
       clear hz3 hz4 hz5 hz6 hz7 hz8 hz9 hz10 hz11 hr3 hr6 hr9 hr12 hBa hBb hBc hc3 hf3 hs1 hs2 hs5 hs6 hs8 hs9 hs11 hs12)
    | (refine wpList_load_part 63 rfl 65 (.tmp 4) rfl ht4 0 51 S rfl rfl HST.out HSL.out Try.isAgg65 Try.sizeOf65 ?_)
    | (refine wpList_load_part 64 rfl 65 (.tmp 1) rfl ht1 0 51 S rfl rfl HST.out HSL.out Try.isAgg65 Try.sizeOf65 ?_)
    | (refine wpList_eql 65 rfl 65 65 (.tmp 63) (.tmp 64) rfl S.toArray S.toArray rfl rfl rfl true Hgs.out (Hhq.out _) ?_))
  refine (count_calls 49 (by decide) (by decide) _).mono ?_
  rintro e w13 ⟨rfl, rfl⟩
  rw [show countN 49 = 2 from rfl]
  go_wp2_with (first
    | (refine wpList_make_bytes_b hBB rfl _ _ 32 rfl Try.underlying32 Try.info_byte .i64 .i64 97 rfl rfl (by omega) ?_
       intro bs w14 hbs hbl hown14 hB14 hB14'))
  have hcl : Hid ((cutN bs).length = 3) := Lib.hid (by rw [cutN_length, hbl.out]; rfl)
  have hb14 := hown14.bytes
  refine (cut_n _ 97 97 bs hbl.out (by omega) (by omega) _ hb14).mono ?_
  rintro e w15 ⟨⟨zs, A15, c15, rfl, hzs, _⟩, hB15⟩
  rw [hzs, hcl.out]
  clear hzs hcl hbs hbl hown14 hB14' hb14
  go_wp2_with fail
  go_ret
  exact ⟨rfl, bthen hB14 hB15⟩
end Go.Proofs.Ythieeidbfdhaaaa
