/-
  PageTurns returns true, whatever the sector, the place and the byte, and writes nothing that was there.
-/
import Derived.Test.YthieeidbfdhaaaaPageCodes
namespace Go.Proofs.Ythieeidbfdhaaaa
open Go Go.RowKit Go.Shelf
attribute [local go_sem] xor_u8

set_option maxRecDepth 100000 in
set_option maxHeartbeats 1000000 in
theorem pageTurns_no (s : Sec) (at_ : Int) (by_ : UInt8) (w : World) (hb : s.body.length = 48) (h1 : -9223372036854775808 ≤ s.idx) (h2 : s.idx ≤ 9223372036854775807) (hok : s.ok = false) :
    Calls Try.prog 10 #[s.val, .int .i64 at_, B8 by_] w fun e w' => e = .returned (.bool true) ∧ Below w.heap.size w w' := by
  obtain ⟨C, hC⟩ : ∃ C, C = s.cells := ⟨_, rfl⟩
  obtain ⟨E, hE⟩ : ∃ E, E = (encode s).1.map B8 := ⟨_, rfl⟩
  have hen : encode s = (zeros 64, 11) := by unfold encode; rw [if_neg (by rw [hok]; decide)]
  have Hc : Hid ((11 : Int) = (encode s).2) := Lib.hid (by rw [hen])
  have hEz : E = (zeros 64).map B8 := by rw [hE, hen]
  have HCL := Lib.hid (show C.length = 51 by rw [hC]; exact Sec.cells_length s hb)
  have HCT := Lib.hid (List.take_of_length_le (Nat.le_of_eq HCL.out))
  have HEL := Lib.hid (show E.length = 64 by rw [hEz]; rfl)
  have HET := Lib.hid (List.take_of_length_le (Nat.le_of_eq HEL.out))
  have HE1 := Lib.hid (show ∀ v ∈ E, v.oneCell' = true by rw [hE]; exact bytes_oneCell _)
  have HEq := Lib.hid (show ∀ w, (Op.equalIn 10000 37 (.agg E.toArray) (.agg E.toArray)).run Try.prog w = .ok true w from fun w => by
    rw [hEz, neq_block _ _ (by simp [zeros]) (by simp [zeros]), beq_self_eq_true])
  have HEB := Lib.hid (show Try.prog.built 37 [] = some E.toArray by rw [hEz]; kernel_rfl)
  have Hg := Lib.hid guard_block
  have HC := Lib.hid hC
  have HE := Lib.hid hE
  have hsv : s.val = .agg C.toArray := by rw [hC]; rfl
  rw [hsv]
  clear hC hE hsv hen hEz
  go_enter Try.func10, Try.ntmps10
  go_wp2_with (first
    | (go_at_call 33; refine (encode_any s hb h1 h2 C E 11 HC HE Hc _).mono ?_; rintro e w3 ⟨rfl, hB3⟩)
    | (go_at_call 38; refine (wakes05_calls _).mono ?_; rintro e w16 ⟨rfl, hB16⟩)
    | (refine wpList_box_row 3 rfl 65 _ rfl C rfl rfl ?_; intro w1 hr1 hs1 hB1; clear hs1)
    | (refine wpList_load_part 14 rfl 65 (.tmp 3) rfl hr1 0 51 C rfl rfl HCT.out HCL.out Try.isAgg65 Try.sizeOf65 ?_)
    | (refine wpList_alloc_row 7 rfl 37 rfl _ rfl zero_block ?_; intro w4 hr4 hs4 hB4; clear hs4)
    | (refine wpList_store_part 37 (.tmp 7) (.tmp 16) rfl hr4 0 E rfl rfl rfl (by rw [HEL.out]; exact Try.sizeOf37) (by rw [HEL.out]; decide) HE1.out ?_
       intro w5 hr5 hs5 hg5
       rw [splice_all _ _ (by rw [HEL.out]; rfl)] at hr5
       have hBx := bthen (bthen hB1 hB3) hB4
       have hB5 : Below w.heap.size w w5 := hBx.grown hg5 hBx.size (fun j e => by cases e; have := (bthen hB1 hB3).size; omega)
       clear hs5 hBx)
    | (refine wpList_load_part 23 rfl 37 (.tmp 7) rfl hr5 0 64 E rfl rfl HET.out HEL.out Try.isAgg37 Try.sizeOf37 ?_)
    | (refine wpList_build0 24 rfl 37 rfl E rfl HEB.out ?_)
    | (refine wpList_eql 25 rfl 37 37 (.tmp 23) (.tmp 24) rfl E.toArray E.toArray rfl rfl rfl true Hg.out (HEq.out _) ?_))
  go_ret
  exact ⟨rfl, bthen hB5 hB16⟩

set_option maxRecDepth 100000 in
set_option maxHeartbeats 2000000 in
theorem pageTurns_ok (s : Sec) (at_ : Int) (by_ : UInt8) (w : World) (hb : s.body.length = 48) (h1 : -9223372036854775808 ≤ s.idx) (h2 : s.idx ≤ 9223372036854775807) (hok : s.ok = true) :
    Calls Try.prog 10 #[s.val, .int .i64 at_, B8 by_] w fun e w' => e = .returned (.bool true) ∧ Below w.heap.size w w' := by
  obtain ⟨k, hk, hk64⟩ := modN_nat at_ (show 0 < 64 by omega)
  have hek : k < s.enc.length := by rw [s.enc_length hb]; exact hk64
  obtain ⟨C, hC⟩ : ∃ C, C = s.cells := ⟨_, rfl⟩
  obtain ⟨E, hE⟩ : ∃ E, E = s.enc.map B8 := ⟨_, rfl⟩
  obtain ⟨x, hx⟩ : ∃ x, x = s.enc[k] := ⟨_, rfl⟩
  obtain ⟨E2, hE2⟩ : ∃ E2, E2 = (s.enc.set k (x ^^^ by_)).map B8 := ⟨_, rfl⟩
  obtain ⟨D, hD⟩ : ∃ D, D = (decode (s.enc.set k (x ^^^ by_))).1.cells := ⟨_, rfl⟩
  obtain ⟨N, hN⟩ : ∃ N, N = Sec.none.cells := ⟨_, rfl⟩
  have hl2 : (s.enc.set k (x ^^^ by_)).length = 64 := by rw [List.length_set, s.enc_length hb]
  have hdb := decode_body _ hl2
  have hturn := decode_turned s hb hok k hek by_
  rw [← hx] at hturn
  have HCL := Lib.hid (show C.length = 51 by rw [hC]; exact Sec.cells_length s hb)
  have HCT := Lib.hid (List.take_of_length_le (Nat.le_of_eq HCL.out))
  have HC1 := Lib.hid (show ∀ v ∈ C, v.oneCell' = true by rw [hC]; exact sec_one _)
  have HCq := Lib.hid (show ∀ w, (Op.equalIn 10000 65 (.agg C.toArray) (.agg C.toArray)).run Try.prog w = .ok true w from fun w => by
    rw [hC, eq_sec s s hb hb, (secEq_iff s s).2 rfl])
  have HEL := Lib.hid (show E.length = 64 by rw [hE, List.length_map, s.enc_length hb])
  have HET := Lib.hid (List.take_of_length_le (Nat.le_of_eq HEL.out))
  have HE1 := Lib.hid (show ∀ v ∈ E, v.oneCell' = true by rw [hE]; exact bytes_oneCell _)
  have HEk := Lib.hid (show E[k]? = some (B8 x) by rw [hE, List.getElem?_map, List.getElem?_eq_getElem hek, hx]; rfl)
  have HES := Lib.hid (show E.set k (B8 (x ^^^ by_)) = E2 by rw [hE, hE2, map_set'])
  have HE2L := Lib.hid (show E2.length = 64 by rw [hE2, List.length_map, hl2])
  have HE2T := Lib.hid (List.take_of_length_le (Nat.le_of_eq HE2L.out))
  have HDL := Lib.hid (show D.length = 51 by rw [hD]; exact Sec.cells_length _ hdb)
  have HDT := Lib.hid (List.take_of_length_le (Nat.le_of_eq HDL.out))
  have HD1 := Lib.hid (show ∀ v ∈ D, v.oneCell' = true by rw [hD]; exact sec_one _)
  have HNB := Lib.hid (show Try.prog.built 65 [] = some N.toArray by rw [hN]; kernel_rfl)
  have HC := Lib.hid hC
  have HE : Hid (E = (encode s).1.map B8) := Lib.hid (by rw [hE]; unfold encode; rw [if_pos hok])
  have Hc : Hid ((0 : Int) = (encode s).2) := Lib.hid (by unfold encode; rw [if_pos hok])
  have HEe := Lib.hid hE
  have HE2e := Lib.hid hE2
  have HD := Lib.hid hD
  have Hdec : Hid (decode s.enc = (s, 0)) := Lib.hid (decode_enc s hb hok)
  have Hd0 : Hid ((0 : Int) = (decode s.enc).2) := Lib.hid (by rw [Hdec.out])
  have HCd : Hid (C = (decode s.enc).1.cells) := Lib.hid (by rw [Hdec.out]; exact hC)
  have Hgs := Lib.hid guard_sec
  have Hk : Hid (modN at_ 64 = (k : Int)) := hk
  have hsv : s.val = .agg C.toArray := by rw [hC]; rfl
  have hk0 : (0 : Int) ≤ (k : Int) := by omega
  have hk1 : (k : Int) < 64 := by omega
  have hsum : (by_ = 0 ∧ Hid ((0 : Int) = (decode (s.enc.set k (x ^^^ by_))).2)) ∨ (by_ ≠ 0 ∧ Hid ((11 : Int) = (decode (s.enc.set k (x ^^^ by_))).2) ∧ Hid (∀ w, (Op.equalIn 10000 65 (.agg D.toArray) (.agg N.toArray)).run Try.prog w = .ok true w)) := by
    by_cases h : by_ = 0
    · exact .inl ⟨h, (hturn.2 h).symm⟩
    · refine .inr ⟨h, ?_⟩
      have hb2 := decode_bad (fun e => h (hturn.1 e))
      refine ⟨(by rw [hb2]; rfl), fun w => ?_⟩
      rw [hD, hN, hb2, eq_sec Sec.none Sec.none rfl rfl, (secEq_iff _ _).2 rfl]
  rw [hsv]
  clear hC hE hx hE2 hD hN hsv hk hturn hek
  rcases hsum with ⟨hby, Hd2⟩ | ⟨hby, Hd2, HDq⟩
  · have hb0 : ((by_.toNat : Int) == 0) = true := by rw [hby]; rfl
    clear hby
    go_enter Try.func10, Try.ntmps10
    go_wp2_with (first
      | (go_at_call 33; refine (encode_any s hb h1 h2 C E 0 HC HE Hc _).mono ?_; rintro e w3 ⟨rfl, hB3⟩)
      | (go_at_call_of 35 (Value.agg E.toArray); refine (decode_any s.enc (s.enc_length hb) E C 0 HEe HCd Hd0 _).mono ?_; rintro e w6 ⟨rfl, hB6⟩)
      | (go_at_call_of 35 (Value.agg E2.toArray); refine (decode_any _ hl2 E2 D 0 HE2e HD Hd2 _).mono ?_; rintro e w12 ⟨rfl, hB12⟩)
      | (go_at_call 32; refine (mod_calls at_ 64 _ (by decide) (by decide)).mono ?_; rintro e w' ⟨rfl, rfl⟩; rw [Hk.out])
      | (go_at_call 38; refine (wakes05_calls _).mono ?_; rintro e w16 ⟨rfl, hB16⟩)
      | (refine wpList_box_row 3 rfl 65 _ rfl C rfl rfl ?_; intro w1 hr1 hs1 hB1; clear hs1)
      | (refine wpList_load_part 14 rfl 65 (.tmp 3) rfl hr1 0 51 C rfl rfl HCT.out HCL.out Try.isAgg65 Try.sizeOf65 ?_)
      | (refine wpList_alloc_row 7 rfl 37 rfl _ rfl zero_block ?_; intro w4 hr4 hs4 hB4; clear hs4)
      | (refine wpList_store_part 37 (.tmp 7) (.tmp 16) rfl hr4 0 E rfl rfl rfl (by rw [HEL.out]; exact Try.sizeOf37) (by rw [HEL.out]; decide) HE1.out ?_
         intro w5 hr5 hs5 hg5
         rw [splice_all _ _ (by rw [HEL.out]; rfl)] at hr5
         have hz1 := hr1.lt
         have hz3 := hB3.size
         have hBx := bthen (bthen hB1 hB3) hB4
         have hB5 : Below w.heap.size w w5 := hBx.grown hg5 hBx.size (fun j e => by cases e; have := (bthen hB1 hB3).size; omega)
         have hp5 := ((hr1.step hB3).step hB4).kept hg5 (fun e => by injection e with e; omega)
         clear hs5 hBx hz1 hz3)
      | (refine wpList_load_part 31 rfl 37 (.tmp 7) rfl hr5 0 64 E rfl rfl HET.out HEL.out Try.isAgg37 Try.sizeOf37 ?_)
      | (refine wpList_alloc_row 9 rfl 65 rfl _ rfl zero_sec ?_; intro w7 hr7 hs7 hB7; clear hs7)
      | (refine wpList_store_part 65 (.tmp 9) (.tmp 33) rfl hr7 0 C rfl rfl rfl (by rw [HCL.out]; exact Try.sizeOf65) (by rw [HCL.out]; decide) HC1.out ?_
         intro w8 hr8 hs8 hg8
         rw [splice_all _ _ (by rw [HCL.out]; rfl)] at hr8
         have hz1 := hp5.lt
         have hz2 := hr5.lt
         have hz3 := hB6.size
         have hw3 := (bthen (bthen hB1 hB3) hB4).size
         have hBx := bthen (bthen hB5 hB6) hB7
         have hB8 : Below w.heap.size w w8 := hBx.grown hg8 hBx.size (fun j e => by cases e; have := (bthen hB5 hB6).size; omega)
         have hp8 := ((hp5.step hB6).step hB7).kept hg8 (fun e => by injection e with e; omega)
         have hq8 := ((hr5.step hB6).step hB7).kept hg8 (fun e => by injection e with e; omega)
         have hck := hq8.cellD k _ HEk.out
         have hfk := hq8.free k
         have hq9 := hq8.set k (B8 (x ^^^ by_))
         have hg3 := (bthen hB1 hB3).size
         have hB9 := hB8.setCell (p := ⟨w3.heap.size, k, none⟩) hg3 (B8 (x ^^^ by_))
         rw [HES.out] at hq9
         clear hs8 hBx hz1 hz2 hz3 hw3 hg3)
      | (refine wpList_load_part 38 rfl 65 (.tmp 9) rfl hr8 0 51 C rfl rfl HCT.out HCL.out Try.isAgg65 Try.sizeOf65 ?_)
      | (refine wpList_load_part 39 rfl 65 (.tmp 3) rfl hp8 0 51 C rfl rfl HCT.out HCL.out Try.isAgg65 Try.sizeOf65 ?_)
      | (refine wpList_neq 40 rfl 65 65 (.tmp 38) (.tmp 39) rfl C.toArray C.toArray rfl rfl rfl true Hgs.out (HCq.out _) ?_)
      | (refine wpList_load_part 50 rfl 37 (.tmp 7) rfl hq9 0 64 E2 rfl rfl HE2T.out HE2L.out Try.isAgg37 Try.sizeOf37 ?_; clear hck hfk)
      | (refine wpList_alloc_row 11 rfl 65 rfl _ rfl zero_sec ?_; intro w13 hr13 hs13 hB13; clear hs13)
      | (refine wpList_store_part 65 (.tmp 11) (.tmp 52) rfl hr13 0 D rfl rfl rfl (by rw [HDL.out]; exact Try.sizeOf65) (by rw [HDL.out]; decide) HD1.out ?_
         intro w15 hr15 hs15 hg15
         rw [splice_all _ _ (by rw [HDL.out]; rfl)] at hr15
         have hBx := bthen (bthen hB9 hB12) hB13
         have hB15 : Below w.heap.size w w15 := hBx.grown hg15 hBx.size (fun j e => by cases e; have := (bthen hB9 hB12).size; omega)
         clear hs15 hBx))
    go_ret
    exact ⟨rfl, bthen hB15 hB16⟩
  · have hb0 : ((by_.toNat : Int) == 0) = false := ne_u8_0 hby
    clear hby
    go_enter Try.func10, Try.ntmps10
    go_wp2_with (first
      | (go_at_call 33; refine (encode_any s hb h1 h2 C E 0 HC HE Hc _).mono ?_; rintro e w3 ⟨rfl, hB3⟩)
      | (go_at_call_of 35 (Value.agg E.toArray); refine (decode_any s.enc (s.enc_length hb) E C 0 HEe HCd Hd0 _).mono ?_; rintro e w6 ⟨rfl, hB6⟩)
      | (go_at_call_of 35 (Value.agg E2.toArray); refine (decode_any _ hl2 E2 D 11 HE2e HD Hd2 _).mono ?_; rintro e w12 ⟨rfl, hB12⟩)
      | (go_at_call 32; refine (mod_calls at_ 64 _ (by decide) (by decide)).mono ?_; rintro e w' ⟨rfl, rfl⟩; rw [Hk.out])
      | (go_at_call 38; refine (wakes05_calls _).mono ?_; rintro e w16 ⟨rfl, hB16⟩)
      | (refine wpList_box_row 3 rfl 65 _ rfl C rfl rfl ?_; intro w1 hr1 hs1 hB1; clear hs1)
      | (refine wpList_load_part 14 rfl 65 (.tmp 3) rfl hr1 0 51 C rfl rfl HCT.out HCL.out Try.isAgg65 Try.sizeOf65 ?_)
      | (refine wpList_alloc_row 7 rfl 37 rfl _ rfl zero_block ?_; intro w4 hr4 hs4 hB4; clear hs4)
      | (refine wpList_store_part 37 (.tmp 7) (.tmp 16) rfl hr4 0 E rfl rfl rfl (by rw [HEL.out]; exact Try.sizeOf37) (by rw [HEL.out]; decide) HE1.out ?_
         intro w5 hr5 hs5 hg5
         rw [splice_all _ _ (by rw [HEL.out]; rfl)] at hr5
         have hz1 := hr1.lt
         have hz3 := hB3.size
         have hBx := bthen (bthen hB1 hB3) hB4
         have hB5 : Below w.heap.size w w5 := hBx.grown hg5 hBx.size (fun j e => by cases e; have := (bthen hB1 hB3).size; omega)
         have hp5 := ((hr1.step hB3).step hB4).kept hg5 (fun e => by injection e with e; omega)
         clear hs5 hBx hz1 hz3)
      | (refine wpList_load_part 31 rfl 37 (.tmp 7) rfl hr5 0 64 E rfl rfl HET.out HEL.out Try.isAgg37 Try.sizeOf37 ?_)
      | (refine wpList_alloc_row 9 rfl 65 rfl _ rfl zero_sec ?_; intro w7 hr7 hs7 hB7; clear hs7)
      | (refine wpList_store_part 65 (.tmp 9) (.tmp 33) rfl hr7 0 C rfl rfl rfl (by rw [HCL.out]; exact Try.sizeOf65) (by rw [HCL.out]; decide) HC1.out ?_
         intro w8 hr8 hs8 hg8
         rw [splice_all _ _ (by rw [HCL.out]; rfl)] at hr8
         have hz1 := hp5.lt
         have hz2 := hr5.lt
         have hz3 := hB6.size
         have hw3 := (bthen (bthen hB1 hB3) hB4).size
         have hBx := bthen (bthen hB5 hB6) hB7
         have hB8 : Below w.heap.size w w8 := hBx.grown hg8 hBx.size (fun j e => by cases e; have := (bthen hB5 hB6).size; omega)
         have hp8 := ((hp5.step hB6).step hB7).kept hg8 (fun e => by injection e with e; omega)
         have hq8 := ((hr5.step hB6).step hB7).kept hg8 (fun e => by injection e with e; omega)
         have hck := hq8.cellD k _ HEk.out
         have hfk := hq8.free k
         have hq9 := hq8.set k (B8 (x ^^^ by_))
         have hg3 := (bthen hB1 hB3).size
         have hB9 := hB8.setCell (p := ⟨w3.heap.size, k, none⟩) hg3 (B8 (x ^^^ by_))
         rw [HES.out] at hq9
         clear hs8 hBx hz1 hz2 hz3 hw3 hg3)
      | (refine wpList_load_part 38 rfl 65 (.tmp 9) rfl hr8 0 51 C rfl rfl HCT.out HCL.out Try.isAgg65 Try.sizeOf65 ?_)
      | (refine wpList_load_part 39 rfl 65 (.tmp 3) rfl hp8 0 51 C rfl rfl HCT.out HCL.out Try.isAgg65 Try.sizeOf65 ?_)
      | (refine wpList_neq 40 rfl 65 65 (.tmp 38) (.tmp 39) rfl C.toArray C.toArray rfl rfl rfl true Hgs.out (HCq.out _) ?_)
      | (refine wpList_load_part 50 rfl 37 (.tmp 7) rfl hq9 0 64 E2 rfl rfl HE2T.out HE2L.out Try.isAgg37 Try.sizeOf37 ?_; clear hck hfk)
      | (refine wpList_alloc_row 11 rfl 65 rfl _ rfl zero_sec ?_; intro w13 hr13 hs13 hB13; clear hs13)
      | (refine wpList_store_part 65 (.tmp 11) (.tmp 52) rfl hr13 0 D rfl rfl rfl (by rw [HDL.out]; exact Try.sizeOf65) (by rw [HDL.out]; decide) HD1.out ?_
         intro w15 hr15 hs15 hg15
         rw [splice_all _ _ (by rw [HDL.out]; rfl)] at hr15
         have hBx := bthen (bthen hB9 hB12) hB13
         have hB15 : Below w.heap.size w w15 := hBx.grown hg15 hBx.size (fun j e => by cases e; have := (bthen hB9 hB12).size; omega)
         clear hs15 hBx)
      | (refine wpList_load_part 63 rfl 65 (.tmp 11) rfl hr15 0 51 D rfl rfl HDT.out HDL.out Try.isAgg65 Try.sizeOf65 ?_)
      | (refine wpList_build0 64 rfl 65 rfl N rfl HNB.out ?_)
      | (refine wpList_eql 65 rfl 65 65 (.tmp 63) (.tmp 64) rfl D.toArray N.toArray rfl rfl rfl true Hgs.out (HDq.out _) ?_))
    go_ret
    exact ⟨rfl, bthen hB15 hB16⟩

theorem pageTurns_walk (s : Sec) (at_ : Int) (by_ : UInt8) (w : World) (hb : s.body.length = 48) (h1 : -9223372036854775808 ≤ s.idx) (h2 : s.idx ≤ 9223372036854775807) (_h3 : -9223372036854775808 ≤ at_) (_h4 : at_ ≤ 9223372036854775807) :
    Calls Try.prog 10 #[s.val, .int .i64 at_, B8 by_] w fun e w' => e = .returned (.bool true) ∧ Below w.heap.size w w' := by
  cases hok : s.ok
  · exact pageTurns_no s at_ by_ w hb h1 h2 hok
  · exact pageTurns_ok s at_ by_ w hb h1 h2 hok
end Go.Proofs.Ythieeidbfdhaaaa
