/-
  PagePlaces returns true, whatever the two sectors, and writes nothing that was there.
-/
import Derived.Test.YthieeidbfdhaaaaPageCodes
import Derived.Test.YthieeidbfdhaaaaSince
namespace Go.Proofs.Ythieeidbfdhaaaa
open Go Go.RowKit Go.Shelf

/-- The places of a marked sector's bytes. -/
theorem enc_places (s : Sec) (hb : s.body.length = 48) (hok : s.ok = true) : ∃ a b c d y z : UInt8, s.enc[0]? = some s.mark ∧ s.enc[1]? = some a ∧ s.enc[2]? = some b ∧ s.enc[3]? = some c ∧ s.enc[4]? = some d ∧ s.enc[5]? = some y ∧ s.enc[6]? = some z ∧ s.enc[63]? = some 0 ∧
    (∀ i, i < 48 → s.enc[7 + i]? = some (s.body[i]?.getD 0)) ∧ a.toNat + 256 * b.toNat + 65536 * c.toNat + 16777216 * d.toNat = s.seq.toNat ∧ (y.toNat : Int) + 256 * (z.toNat : Int) = s.idx := by
  obtain ⟨_, h0, h1⟩ := (ok_iff s).1 hok
  obtain ⟨a, b, c, d, h4⟩ := four_of (bytesN_length s.seq.toUInt64 4)
  obtain ⟨y, z, h2⟩ := two_of' (bytesN_length (UInt64.ofNat s.idx.toNat) 2)
  have hc8 := bytesN_length (check s.head) 8
  have e : s.enc = s.mark :: a :: b :: c :: d :: y :: z :: (s.body ++ (bytesN (check s.head) 8 ++ [0])) := by
    show s.head ++ bytesN (check s.head) 8 ++ [0] = _
    generalize bytesN (check s.head) 8 = x
    unfold Sec.head
    rw [h4, h2]
    simp
  refine ⟨a, b, c, d, y, z, ?_, ?_, ?_, ?_, ?_, ?_, ?_, ?_, ?_, ?_, ?_⟩
  · rw [e]; rfl
  · rw [e]; rfl
  · rw [e]; rfl
  · rw [e]; rfl
  · rw [e]; rfl
  · rw [e]; rfl
  · rw [e]; rfl
  · rw [e]
    show (s.body ++ (bytesN (check s.head) 8 ++ [0]))[56]? = some 0
    rw [List.getElem?_append_right (by omega), hb, List.getElem?_append_right (by omega), hc8]
    rfl
  · intro i hi
    rw [e]
    have : 7 + i = (i + 6) + 1 := by omega
    show (s.mark :: a :: b :: c :: d :: y :: z :: (s.body ++ (bytesN (check s.head) 8 ++ [0])))[7 + i]? = _
    rw [show 7 + i = i + 1 + 1 + 1 + 1 + 1 + 1 + 1 by omega]
    simp only [List.getElem?_cons_succ]
    rw [List.getElem?_append_left (by omega), List.getElem?_eq_getElem (by omega)]
    rfl
  · have h := bytesN_val s.seq.toUInt64 4
    have hl := s.seq.toNat_lt
    rw [h4, UInt32.toNat_toUInt64, Nat.mod_eq_of_lt (show s.seq.toNat < 256 ^ 4 by omega)] at h
    simp only [leVal] at h
    omega
  · have h := bytesN_val (UInt64.ofNat s.idx.toNat) 2
    rw [h2, UInt64.toNat_ofNat', Nat.mod_eq_of_lt (show s.idx.toNat < 2 ^ 64 by omega), Nat.mod_eq_of_lt (show s.idx.toNat < 256 ^ 2 by omega)] at h
    simp only [leVal] at h
    omega

/-- Four bytes laid one above the other. -/
theorem or4 (a b c d : UInt8) (n : Nat) (h : a.toNat + 256 * b.toNat + 65536 * c.toNat + 16777216 * d.toNat = n) :
    bits .or .u32 (bits .or .u32 (bits .or .u32 ((a.toNat : Int) % 4294967296) ((b.toNat : Int) % 4294967296 * 256 % 4294967296)) ((c.toNat : Int) % 4294967296 * 65536 % 4294967296)) ((d.toNat : Int) % 4294967296 * 16777216 % 4294967296) = (n : Int) := by
  have ha := a.toNat_lt
  have hb := b.toNat_lt
  have hc := c.toNat_lt
  have hd := d.toNat_lt
  have e1 : (a.toNat : Int) % 4294967296 = ((a.toNat : Nat) : Int) := by omega
  have e2 : (b.toNat : Int) % 4294967296 * 256 % 4294967296 = ((256 * b.toNat : Nat) : Int) := by omega
  have e3 : (c.toNat : Int) % 4294967296 * 65536 % 4294967296 = ((65536 * c.toNat : Nat) : Int) := by omega
  have e4 : (d.toNat : Int) % 4294967296 * 16777216 % 4294967296 = ((16777216 * d.toNat : Nat) : Int) := by omega
  have o1 : a.toNat ||| 256 * b.toNat = a.toNat + 256 * b.toNat := by
    rw [Nat.or_comm, show (256 : Nat) = 2 ^ 8 from rfl, ← Nat.two_pow_add_eq_or_of_lt (by omega), Nat.add_comm]
  have o2 : (a.toNat + 256 * b.toNat) ||| 65536 * c.toNat = a.toNat + 256 * b.toNat + 65536 * c.toNat := by
    rw [Nat.or_comm, show (65536 : Nat) = 2 ^ 16 from rfl, ← Nat.two_pow_add_eq_or_of_lt (by omega), Nat.add_comm]
  have o3 : (a.toNat + 256 * b.toNat + 65536 * c.toNat) ||| 16777216 * d.toNat = n := by
    rw [Nat.or_comm, show (16777216 : Nat) = 2 ^ 24 from rfl, ← Nat.two_pow_add_eq_or_of_lt (by omega)]
    omega
  rw [e1, e2, e3, e4, u32_or_nat _ _ (by omega) (by omega), o1, u32_or_nat _ _ (by omega) (by omega), o2, u32_or_nat _ _ (by omega) (by omega), o3]

set_option maxRecDepth 100000 in
set_option maxHeartbeats 1000000 in
theorem pagePlaces_no (s t : Sec) (w : World) (hb : s.body.length = 48) (hb' : t.body.length = 48) (h1 : -9223372036854775808 ≤ s.idx) (h2 : s.idx ≤ 9223372036854775807) (h1' : -9223372036854775808 ≤ t.idx) (h2' : t.idx ≤ 9223372036854775807) (hok : s.ok = false) :
    Calls Try.prog 12 #[s.val, t.val] w fun e w' => e = .returned (.bool true) ∧ Below w.heap.size w w' := by
  obtain ⟨C, hC⟩ : ∃ C, C = s.cells := ⟨_, rfl⟩
  obtain ⟨C2, hC2⟩ : ∃ C, C = t.cells := ⟨_, rfl⟩
  obtain ⟨E, hE⟩ : ∃ E, E = (encode s).1.map B8 := ⟨_, rfl⟩
  obtain ⟨E2, hE2⟩ : ∃ E, E = (encode t).1.map B8 := ⟨_, rfl⟩
  obtain ⟨c2, hc2⟩ : ∃ c, c = (encode t).2 := ⟨_, rfl⟩
  have HCL := Lib.hid (show C.length = 51 by rw [hC]; exact Sec.cells_length s hb)
  have HCT := Lib.hid (List.take_of_length_le (Nat.le_of_eq HCL.out))
  have HC2L := Lib.hid (show C2.length = 51 by rw [hC2]; exact Sec.cells_length t hb')
  have HC2T := Lib.hid (List.take_of_length_le (Nat.le_of_eq HC2L.out))
  have HEL := Lib.hid (show E.length = 64 by rw [hE, List.length_map]; exact encode_length s hb)
  have HE1 := Lib.hid (show ∀ v ∈ E, v.oneCell' = true by rw [hE]; exact bytes_oneCell _)
  have HE2L := Lib.hid (show E2.length = 64 by rw [hE2, List.length_map]; exact encode_length t hb')
  have HE21 := Lib.hid (show ∀ v ∈ E2, v.oneCell' = true by rw [hE2]; exact bytes_oneCell _)
  have H0 := Lib.hid (show C[0]? = some (B8 s.mark) by rw [hC]; rfl)
  have H1 := Lib.hid (show C[1]? = some (.int .u32 (s.seq.toNat : Int)) by rw [hC]; rfl)
  have H2 := Lib.hid (show C[2]? = some (.int .i64 s.idx) by rw [hC]; rfl)
  have HC := Lib.hid hC
  have HC2 := Lib.hid hC2
  have HE := Lib.hid hE
  have HE2 := Lib.hid hE2
  have Hc2 := Lib.hid hc2
  have Hc : Hid ((11 : Int) = (encode s).2) := Lib.hid (by unfold encode; rw [if_neg (by rw [hok]; decide)])
  have hsv : s.val = .agg C.toArray := by rw [hC]; rfl
  have htv : t.val = .agg C2.toArray := by rw [hC2]; rfl
  rw [hsv, htv]
  have hno : s.mark = 0 ∨ (s.mark ≠ 0 ∧ s.idx < 0) ∨ (s.mark ≠ 0 ∧ 0 ≤ s.idx ∧ 65535 < s.idx) := by
    by_cases h0 : s.mark = 0
    · exact .inl h0
    · simp [Sec.ok, h0] at hok
      by_cases h3 : s.idx < 0
      · exact .inr (.inl ⟨h0, h3⟩)
      · exact .inr (.inr ⟨h0, by omega, hok (by omega)⟩)
  clear hC hC2 hE hE2 hc2 hsv htv hok
  rcases hno with h0 | ⟨h0, h3⟩ | ⟨h0, h3, h4⟩
  all_goals
    first
      | (have hd0 : ((s.mark.toNat : Int) == 0) = true := by simp [h0])
      | (have hd0 : ((s.mark.toNat : Int) == 0) = false := ne_u8_0 h0)
    first
      | (have hd1 : decide (s.idx < 0) = true := decide_eq_true h3)
      | (have hd1 : decide (s.idx < 0) = false := decide_eq_false (by omega))
      | skip
    first
      | (have hd2 : decide (65535 < s.idx) = true := decide_eq_true h4)
      | skip
    clear h0
    go_enter Try.func12, Try.ntmps12
    go_wp2_with (first
      | (go_at_call_of 33 (Value.agg C.toArray); refine (encode_any s hb h1 h2 C E 11 HC HE Hc _).mono ?_; rintro e w3 ⟨rfl, hB3⟩)
      | (go_at_call_of 33 (Value.agg C2.toArray); refine (encode_any t hb' h1' h2' C2 E2 c2 HC2 HE2 Hc2 _).mono ?_; rintro e w6 ⟨rfl, hB6⟩)
      | (go_at_call 38; refine (wakes05_calls _).mono ?_; rintro e w16 ⟨rfl, hB16⟩)
      | (refine wpList_box_row 2 rfl 65 _ rfl C rfl rfl ?_; intro w1 hr1 hs1 hB1; clear hs1)
      | (refine wpList_box_row 3 rfl 65 _ rfl C2 rfl rfl ?_; intro w2 hr2 hs2 hB2; have hr12 := hr1.step hB2; clear hs2)
      | (refine wpList_load_part 11 rfl 65 (.tmp 2) rfl hr12 0 51 C rfl rfl HCT.out HCL.out Try.isAgg65 Try.sizeOf65 ?_)
      | (refine wpList_alloc_row 5 rfl 37 rfl _ rfl zero_block ?_; intro w4 hr4 hs4 hB4; clear hs4)
      | (refine wpList_store_part 37 (.tmp 5) (.tmp 13) rfl hr4 0 E rfl rfl rfl (by rw [HEL.out]; exact Try.sizeOf37) (by rw [HEL.out]; decide) HE1.out ?_
         intro w5 hr5 hs5 hg5
         rw [splice_all _ _ (by rw [HEL.out]; rfl)] at hr5
         have hz1 := hr12.lt
         have hz2 := hr2.lt
         have hz3 := hB3.size
         have hBx := bthen (bthen (bthen hB1 hB2) hB3) hB4
         have hB5 : Below w.heap.size w w5 := hBx.grown hg5 hBx.size (fun j e => by cases e; have := (bthen (bthen hB1 hB2) hB3).size; omega)
         have hp5 := ((hr12.step hB3).step hB4).kept hg5 (fun e => by injection e with e; omega)
         have hq5 := ((hr2.step hB3).step hB4).kept hg5 (fun e => by injection e with e; omega)
         clear hs5 hBx hz1 hz2 hz3)
      | (refine wpList_load_part 16 rfl 65 (.tmp 3) rfl hq5 0 51 C2 rfl rfl HC2T.out HC2L.out Try.isAgg65 Try.sizeOf65 ?_)
      | (refine wpList_alloc_row 7 rfl 37 rfl _ rfl zero_block ?_; intro w7 hr7 hs7 hB7; clear hs7)
      | (refine wpList_store_part 37 (.tmp 7) (.tmp 18) rfl hr7 0 E2 rfl rfl rfl (by rw [HE2L.out]; exact Try.sizeOf37) (by rw [HE2L.out]; decide) HE21.out ?_
         intro w8 hr8 hs8 hg8
         rw [splice_all _ _ (by rw [HE2L.out]; rfl)] at hr8
         have hz1 := hp5.lt
         have hz2 := hq5.lt
         have hz4 := hr5.lt
         have hz3 := hB6.size
         have hBx := bthen (bthen hB5 hB6) hB7
         have hB8 : Below w.heap.size w w8 := hBx.grown hg8 hBx.size (fun j e => by cases e; have := (bthen hB5 hB6).size; omega)
         have hp8 := ((hp5.step hB6).step hB7).kept hg8 (fun e => by injection e with e; omega)
         have hq8 := ((hq5.step hB6).step hB7).kept hg8 (fun e => by injection e with e; omega)
         have hx8 := ((hr5.step hB6).step hB7).kept hg8 (fun e => by injection e with e; omega)
         have hc0 := hp8.cellD 0 _ H0.out
         have hc1 := hp8.cellD 1 _ H1.out
         have hc2 := hp8.cellD 2 _ H2.out
         clear hs8 hBx hz1 hz2 hz3 hz4))
    go_ret
    exact ⟨rfl, bthen hB8 hB16⟩

set_option maxRecDepth 100000 in
set_option maxHeartbeats 2000000 in
theorem pagePlaces_ok (s t : Sec) (w : World) (hb : s.body.length = 48) (hb' : t.body.length = 48) (h1 : -9223372036854775808 ≤ s.idx) (h2 : s.idx ≤ 9223372036854775807) (h1' : -9223372036854775808 ≤ t.idx) (h2' : t.idx ≤ 9223372036854775807) (hok : s.ok = true) :
    Calls Try.prog 12 #[s.val, t.val] w fun e w' => e = .returned (.bool true) ∧ Below w.heap.size w w' := by
  have hen : encode s = (s.enc, 0) := by unfold encode; rw [if_pos hok]
  obtain ⟨C, hC⟩ : ∃ C, C = s.cells := ⟨_, rfl⟩
  obtain ⟨C2, hC2⟩ : ∃ C, C = t.cells := ⟨_, rfl⟩
  obtain ⟨E, hE⟩ : ∃ E, E = (encode s).1.map B8 := ⟨_, rfl⟩
  obtain ⟨E2, hE2⟩ : ∃ E, E = (encode t).1.map B8 := ⟨_, rfl⟩
  obtain ⟨c2, hc2⟩ : ∃ c, c = (encode t).2 := ⟨_, rfl⟩
  have HCL := Lib.hid (show C.length = 51 by rw [hC]; exact Sec.cells_length s hb)
  have HCT := Lib.hid (List.take_of_length_le (Nat.le_of_eq HCL.out))
  have HC2L := Lib.hid (show C2.length = 51 by rw [hC2]; exact Sec.cells_length t hb')
  have HC2T := Lib.hid (List.take_of_length_le (Nat.le_of_eq HC2L.out))
  have HEL := Lib.hid (show E.length = 64 by rw [hE, List.length_map]; exact encode_length s hb)
  have HE1 := Lib.hid (show ∀ v ∈ E, v.oneCell' = true by rw [hE]; exact bytes_oneCell _)
  have HE2L := Lib.hid (show E2.length = 64 by rw [hE2, List.length_map]; exact encode_length t hb')
  have HE21 := Lib.hid (show ∀ v ∈ E2, v.oneCell' = true by rw [hE2]; exact bytes_oneCell _)
  have H0 := Lib.hid (show C[0]? = some (B8 s.mark) by rw [hC]; rfl)
  have H1 := Lib.hid (show C[1]? = some (.int .u32 (s.seq.toNat : Int)) by rw [hC]; rfl)
  have H2 := Lib.hid (show C[2]? = some (.int .i64 s.idx) by rw [hC]; rfl)
  have HC := Lib.hid hC
  have HC2 := Lib.hid hC2
  have HE := Lib.hid hE
  have HE2 := Lib.hid hE2
  have Hc2 := Lib.hid hc2
  have Hc : Hid ((0 : Int) = (encode s).2) := Lib.hid (by rw [hen])
  have hsv : s.val = .agg C.toArray := by rw [hC]; rfl
  have htv : t.val = .agg C2.toArray := by rw [hC2]; rfl
  rw [hsv, htv]
  obtain ⟨a, b, c, d, y, z, k0, k1, k2, k3, k4, k5, k6, k63, kb, hseq, hidx⟩ := enc_places s hb hok
  have hEk : ∀ i x, s.enc[i]? = some x → E[i]? = some (B8 x) := fun i x h => by rw [hE, hen, List.getElem?_map, h]; rfl
  have K0 := Lib.hid (hEk _ _ k0)
  have K1 := Lib.hid (hEk _ _ k1)
  have K2 := Lib.hid (hEk _ _ k2)
  have K3 := Lib.hid (hEk _ _ k3)
  have K4 := Lib.hid (hEk _ _ k4)
  have K5 := Lib.hid (hEk _ _ k5)
  have K6 := Lib.hid (hEk _ _ k6)
  have K63 := Lib.hid (hEk _ _ k63)
  have KB := Lib.hid (fun i (hi : i < 48) => hEk _ _ (kb i hi))
  have HS := Lib.hid hseq
  have HI := Lib.hid hidx
  have y1 := y.toNat_lt
  have z1 := z.toNat_lt
  have y2 : (y.toNat : Int) ≤ 255 := by omega
  have z2 : (z.toNat : Int) ≤ 255 := by omega
  have y3 : (0 : Int) ≤ (y.toNat : Int) := by omega
  have z3 : (0 : Int) ≤ (z.toNat : Int) := by omega
  have hor := or4 a b c d _ hseq
  have HOK := Lib.hid hok
  clear hC hC2 hE hE2 hc2 hsv htv hok k0 k1 k2 k3 k4 k5 k6 k63 kb hEk hseq hen y1 z1
  go_enter Try.func12, Try.ntmps12
  go_wp2_with (first
    | (go_at_call_of 33 (Value.agg C.toArray); refine (encode_any s hb h1 h2 C E 0 HC HE Hc _).mono ?_; rintro e w3 ⟨rfl, hB3⟩)
    | (go_at_call_of 33 (Value.agg C2.toArray); refine (encode_any t hb' h1' h2' C2 E2 c2 HC2 HE2 Hc2 _).mono ?_; rintro e w6 ⟨rfl, hB6⟩)
    | (go_at_call 38; refine (wakes05_calls _).mono ?_; rintro e w16 ⟨rfl, hB16⟩)
    | (refine wpList_box_row 2 rfl 65 _ rfl C rfl rfl ?_; intro w1 hr1 hs1 hB1; clear hs1)
    | (refine wpList_box_row 3 rfl 65 _ rfl C2 rfl rfl ?_; intro w2 hr2 hs2 hB2; have hr12 := hr1.step hB2; clear hs2)
    | (refine wpList_load_part 11 rfl 65 (.tmp 2) rfl hr12 0 51 C rfl rfl HCT.out HCL.out Try.isAgg65 Try.sizeOf65 ?_)
    | (refine wpList_alloc_row 5 rfl 37 rfl _ rfl zero_block ?_; intro w4 hr4 hs4 hB4; clear hs4)
    | (refine wpList_store_part 37 (.tmp 5) (.tmp 13) rfl hr4 0 E rfl rfl rfl (by rw [HEL.out]; exact Try.sizeOf37) (by rw [HEL.out]; decide) HE1.out ?_
       intro w5 hr5 hs5 hg5
       rw [splice_all _ _ (by rw [HEL.out]; rfl)] at hr5
       have hz1 := hr12.lt
       have hz2 := hr2.lt
       have hz3 := hB3.size
       have hBx := bthen (bthen (bthen hB1 hB2) hB3) hB4
       have hB5 : Below w.heap.size w w5 := hBx.grown hg5 hBx.size (fun j e => by cases e; have := (bthen (bthen hB1 hB2) hB3).size; omega)
       have hp5 := ((hr12.step hB3).step hB4).kept hg5 (fun e => by injection e with e; omega)
       have hq5 := ((hr2.step hB3).step hB4).kept hg5 (fun e => by injection e with e; omega)
       clear hs5 hBx hz1 hz2 hz3)
    | (refine wpList_load_part 16 rfl 65 (.tmp 3) rfl hq5 0 51 C2 rfl rfl HC2T.out HC2L.out Try.isAgg65 Try.sizeOf65 ?_)
    | (refine wpList_alloc_row 7 rfl 37 rfl _ rfl zero_block ?_; intro w7 hr7 hs7 hB7; clear hs7)
    | (refine wpList_store_part 37 (.tmp 7) (.tmp 18) rfl hr7 0 E2 rfl rfl rfl (by rw [HE2L.out]; exact Try.sizeOf37) (by rw [HE2L.out]; decide) HE21.out ?_
       intro w8 hr8 hs8 hg8
       rw [splice_all _ _ (by rw [HE2L.out]; rfl)] at hr8
       have hz1 := hp5.lt
       have hz2 := hq5.lt
       have hz4 := hr5.lt
       have hz3 := hB6.size
       have hBx := bthen (bthen hB5 hB6) hB7
       have hB8 : Below w.heap.size w w8 := hBx.grown hg8 hBx.size (fun j e => by cases e; have := (bthen hB5 hB6).size; omega)
       have hp8 := ((hp5.step hB6).step hB7).kept hg8 (fun e => by injection e with e; omega)
       have hq8 := ((hq5.step hB6).step hB7).kept hg8 (fun e => by injection e with e; omega)
       have hx8 := ((hr5.step hB6).step hB7).kept hg8 (fun e => by injection e with e; omega)
       have hc0 := hp8.cellD 0 _ H0.out
       have hc1 := hp8.cellD 1 _ H1.out
       have hc2 := hp8.cellD 2 _ H2.out
       have hx0 := hx8.cellD 0 _ K0.out
       have hx1 := hx8.cellD 1 _ K1.out
       have hx2 := hx8.cellD 2 _ K2.out
       have hx3 := hx8.cellD 3 _ K3.out
       have hx4 := hx8.cellD 4 _ K4.out
       have hx5 := hx8.cellD 5 _ K5.out
       have hx6 := hx8.cellD 6 _ K6.out
       have hx63 := hx8.cellD 63 _ K63.out
       clear hs8 hBx hz1 hz2 hz3 hz4))
  clear hor hidx hx0 hx1 hx2 hx3 hx4 hx5 hx6 hx63 hc0 hc1 hc2
  have hz1 := hx8.lt
  have hz2 := hp8.lt
  have H3 := Lib.hid (show ∀ k, k < 48 → C[3 + k]? = some (B8 (s.body[k]?.getD 0)) from fun k hk => by
    rw [HC.out, Nat.add_comm]
    show (s.body.map B8)[k]? = _
    rw [List.getElem?_map, List.getElem?_eq_getElem (by omega)]
    rfl)
  go_loopw [9] (fun i wr => ∃ k : Nat, k ≤ 48 ∧ i = .int .i64 (k : Int) ∧ Below w8.heap.size w8 wr) (fun i _ => 48 - (intOf i).toNat)
  case atStart => exact ⟨0, Nat.zero_le _, rfl, Below.refl _ _⟩
  case round =>
    obtain ⟨k, hk, rfl, hBr⟩ := hrel
    have hx9 := hx8.below hBr hz1
    have hp9 := hp8.below hBr hz2
    by_cases hlt : k < 48
    · have hk0 : (0 : Int) ≤ (k : Int) := by omega
      have hk1 : (k : Int) < 48 := by omega
      have hw1 : IntKind.i64.wrap (7 + (k : Int)) = ((7 + k : Nat) : Int) := by rw [IntWalk.i64_in _ (by omega)]; omega
      have hk2 : (0 : Int) ≤ ((7 + k : Nat) : Int) := by omega
      have hk3 : ((7 + k : Nat) : Int) < 64 := by omega
      have hcE := hx9.cellD (7 + k) _ (KB.out k hlt)
      have hcC := hp9.cellD (3 + k) _ (H3.out k hlt)
      generalize s.body[k]?.getD 0 = x at hcE hcC
      go_wp2_with fail
      go_region
      clear hw1 hcE hcC
      go_wp2_with fail
      go_roundw
      case rel => exact ⟨k + 1, by omega, by go_num, hBr.drew⟩
      case measure => simp [intOf]; omega
    · obtain rfl : k = 48 := by omega
      have hy9 := hr8.below hBr hr8.lt
      have hq9 := hq8.below hBr hq8.lt
      have HET := Lib.hid (List.take_of_length_le (Nat.le_of_eq HEL.out))
      have HE2T := Lib.hid (List.take_of_length_le (Nat.le_of_eq HE2L.out))
      have Hgb := Lib.hid guard_block
      have Hgs := Lib.hid guard_sec
      clear hx8 hr8 hp8 hq8 H3 hr1 hr2 hr12 hr4 hr5 hp5 hq5 hr7
      cases ht : t.ok
      · obtain rfl : c2 = 11 := by
          rw [Hc2.out]
          unfold encode
          rw [if_neg (by rw [ht]; decide)]
        clear hx9 hy9 hp9 hq9 ht
        go_wp2_with fail
        refine wp_region_class (Since wr) (Since.refl wr).drew (by kernel_rfl) (by kernel_rfl) ?_
        refine wq_v (v := .int .i64 11) (by kernel_rfl) (fun w' _ => by kernel_rfl) ?_
        refine wq_v (v := .bool true) (by kernel_rfl) (fun w' _ => by kernel_rfl) ?_
        refine wq_v (v := .bool true) (by kernel_rfl) (fun w' _ => by kernel_rfl) ?_
        refine wq_no (by kernel_rfl) ?_
        refine wq_no (by kernel_rfl) ?_
        refine wq_no (by kernel_rfl) ?_
        refine wq_no (by kernel_rfl) ?_
        refine wq_no (by kernel_rfl) ?_
        refine wq_no (by kernel_rfl) ?_
        refine wq_no (by kernel_rfl) ?_
        refine wq_v (v := .bool true) (by kernel_rfl) (fun w' _ => by kernel_rfl) ?_
        refine wq_v (v := .bool true) (by kernel_rfl) (fun w' _ => by kernel_rfl) ?_
        refine wq_call (v := .bool true) (f := 38) (args := #[]) (by kernel_rfl) (fun w' => by kernel_rfl) (fun w' hw' => (wakes05_calls w').mono fun e w'' hh => ⟨hh.1, Since.then_ hw' hh.2⟩) ?_
        refine wq_v (v := .bool true) (by kernel_rfl) (fun w' _ => by kernel_rfl) ?_
        refine wq_v (v := .bool true) (by kernel_rfl) (fun w' _ => by kernel_rfl) ?_
        refine wq_nil fun w9 hS9 => ?_
        simp only [Act.put, List.setIfInBounds_toArray, List.set_cons_zero, List.set_cons_succ]
        go_wp2_with fail
        go_ret
        exact ⟨rfl, bthen (bthen hB8 hBr) hS9⟩
      · obtain rfl : c2 = 0 := by
          rw [Hc2.out]
          unfold encode
          rw [if_pos ht]
        have e1 : E = s.enc.map B8 := by rw [HE.out]; unfold encode; rw [if_pos HOK.out]
        have e2 : E2 = t.enc.map B8 := by rw [HE2.out]; unfold encode; rw [if_pos ht]
        obtain ⟨u, hu⟩ : ∃ u, u = secEq s t := ⟨_, rfl⟩
        have hqq : (s.enc == t.enc) = u := by
          rw [hu, Bool.eq_iff_iff, secEq_iff, beq_iff_eq]
          exact enc_inj hb hb' HOK.out ht
        have Q1 := Lib.hid (show ∀ w, (Op.equalIn 10000 37 (.agg E.toArray) (.agg E2.toArray)).run Try.prog w = .ok u w from fun w => by rw [e1, e2, neq_block _ _ (s.enc_length hb) (t.enc_length hb'), hqq])
        have Q2 := Lib.hid (show ∀ w, (Op.equalIn 10000 65 (.agg C.toArray) (.agg C2.toArray)).run Try.prog w = .ok u w from fun w => by rw [HC.out, HC2.out, eq_sec s t hb hb', hu])
        clear hqq e1 e2 ht hu
        go_wp2_with fail
        refine wp_region_class (Since wr) (Since.refl wr).drew (by kernel_rfl) (by kernel_rfl) ?_
        refine wq_v (v := .int .i64 0) (by kernel_rfl) (fun w' _ => by kernel_rfl) ?_
        refine wq_v (v := .bool false) (by kernel_rfl) (fun w' _ => by kernel_rfl) ?_
        refine wq_v (v := .bool false) (by kernel_rfl) (fun w' _ => by kernel_rfl) ?_
        refine wq_v (v := .agg E.toArray) (by kernel_rfl) (fun w' hw' => exec_load_part 37 (.tmp 5) rfl (hx9.step hw') 0 64 E (by kernel_rfl) HET.out HEL.out Try.isAgg37 Try.sizeOf37) ?_
        refine wq_v (v := .agg E2.toArray) (by kernel_rfl) (fun w' hw' => exec_load_part 37 (.tmp 7) rfl (hy9.step hw') 0 64 E2 (by kernel_rfl) HE2T.out HE2L.out Try.isAgg37 Try.sizeOf37) ?_
        refine wq_v (v := .bool u) (by kernel_rfl) (fun w' _ => exec_eql 37 37 (.tmp 100) (.tmp 101) rfl E.toArray E2.toArray (by kernel_rfl) (by kernel_rfl) u Hgb.out (Q1.out w')) ?_
        refine wq_v (v := .agg C.toArray) (by kernel_rfl) (fun w' hw' => exec_load_part 65 (.tmp 2) rfl (hp9.step hw') 0 51 C (by kernel_rfl) HCT.out HCL.out Try.isAgg65 Try.sizeOf65) ?_
        refine wq_v (v := .agg C2.toArray) (by kernel_rfl) (fun w' hw' => exec_load_part 65 (.tmp 3) rfl (hq9.step hw') 0 51 C2 (by kernel_rfl) HC2T.out HC2L.out Try.isAgg65 Try.sizeOf65) ?_
        refine wq_v (v := .bool u) (by kernel_rfl) (fun w' _ => exec_eql 65 65 (.tmp 103) (.tmp 104) rfl C.toArray C2.toArray (by kernel_rfl) (by kernel_rfl) u Hgs.out (Q2.out w')) ?_
        have hbb : (u == u) = true := by cases u <;> rfl
        refine wq_v (v := .bool true) (by kernel_rfl) (fun w' _ => by rw [← hbb]; kernel_rfl) ?_
        clear hbb
        refine wq_v (v := .bool true) (by kernel_rfl) (fun w' _ => by kernel_rfl) ?_
        refine wq_v (v := .bool true) (by kernel_rfl) (fun w' _ => by kernel_rfl) ?_
        refine wq_call (v := .bool true) (f := 38) (args := #[]) (by kernel_rfl) (fun w' => by kernel_rfl) (fun w' hw' => (wakes05_calls w').mono fun e w'' hh => ⟨hh.1, Since.then_ hw' hh.2⟩) ?_
        refine wq_v (v := .bool true) (by kernel_rfl) (fun w' _ => by kernel_rfl) ?_
        refine wq_v (v := .bool true) (by kernel_rfl) (fun w' _ => by kernel_rfl) ?_
        refine wq_nil fun w9 hS9 => ?_
        simp only [Act.put, List.setIfInBounds_toArray, List.set_cons_zero, List.set_cons_succ]
        go_wp2_with fail
        go_ret
        exact ⟨rfl, bthen (bthen hB8 hBr) hS9⟩

theorem pagePlaces_walk (s t : Sec) (w : World) (hb : s.body.length = 48) (h1 : -9223372036854775808 ≤ s.idx) (h2 : s.idx ≤ 9223372036854775807) (hb' : t.body.length = 48) (h1' : -9223372036854775808 ≤ t.idx) (h2' : t.idx ≤ 9223372036854775807) :
    Calls Try.prog 12 #[s.val, t.val] w fun e w' => e = .returned (.bool true) ∧ Below w.heap.size w w' := by
  cases hok : s.ok
  · exact pagePlaces_no s t w hb hb' h1 h2 h1' h2' hok
  · exact pagePlaces_ok s t w hb hb' h1 h2 h1' h2' hok
end Go.Proofs.Ythieeidbfdhaaaa
