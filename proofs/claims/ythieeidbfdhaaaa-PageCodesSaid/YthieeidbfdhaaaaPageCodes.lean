/-
  PageCodes returns true, whatever the sector and the bytes, and writes nothing that was there.
-/
import Derived.Test.YthieeidbfdhaaaaWakes05
import Derived.BigCall
import Derived.BigGuard
namespace Go.Proofs.Ythieeidbfdhaaaa
open Go Go.RowKit Go.Shelf

theorem same_calls (s : Sec) (hb : s.body.length = 48) (w : World) :
    Calls Try.prog 37 #[.agg s.cells.toArray, .agg s.cells.toArray] w fun e w' => e = .returned (.bool true) ∧ Below w.heap.size w w' := by
  have hcl := Sec.cells_length s hb
  have e0 : s.cells[0]? = some (B8 s.mark) := rfl
  have e1 : s.cells[1]? = some (.int .u32 (s.seq.toNat : Int)) := rfl
  have e2 : s.cells[2]? = some (.int .i64 s.idx) := rfl
  have e3 : (s.cells.drop 3).take 48 = s.body.map B8 := by
    show (s.body.map B8).take 48 = _
    exact List.take_of_length_le (by rw [List.length_map, hb]; decide)
  have heq := fun w => eq_piece s.body s.body hb hb 9998 w
  simp only [beq_self_eq_true] at heq
  have hbl : (s.body.map B8).length = 48 := by rw [List.length_map, hb]
  have hg : Try.prog.eqGuardType Try.prog.depth 63 = false := by kernel_rfl
  generalize s.body.map B8 = Bd at *
  generalize s.cells = C at *
  have H0 := Lib.hid e0
  have H1 := Lib.hid e1
  have H2 := Lib.hid e2
  have H3 := Lib.hid e3
  have Heq := Lib.hid heq
  have Hbl := Lib.hid hbl
  have Hg := Lib.hid hg
  clear e0 e1 e2 e3 heq hbl hcl hg hb
  go_enter Try.func37, Try.ntmps37
  go_wp2_with (first
    | (refine wpList_box_row 2 rfl 65 _ rfl C rfl rfl ?_; intro w1 hr1 hs1 hB1)
    | (refine wpList_box_row 3 rfl 69 _ rfl C rfl rfl ?_
       intro w2 hr2 hs2 hB2
       have hr12 := hr1.step hB2
       have hc10 := hr12.cellD 0 _ H0.out
       have hc11 := hr12.cellD 1 _ H1.out
       have hc12 := hr12.cellD 2 _ H2.out
       have hc20 := hr2.cellD 0 _ H0.out
       have hc21 := hr2.cellD 1 _ H1.out
       have hc22 := hr2.cellD 2 _ H2.out
       clear hs1 hs2)
    | (refine wpList_load_part 26 rfl 63 (.tmp 25) rfl hr12 3 48 Bd rfl rfl H3.out Hbl.out Try.isAgg63 Try.sizeOf63 ?_)
    | (refine wpList_load_part 28 rfl 63 (.tmp 27) rfl hr2 3 48 Bd rfl rfl H3.out Hbl.out Try.isAgg63 Try.sizeOf63 ?_)
    | (refine wpList_eql 29 rfl 63 63 (.tmp 26) (.tmp 28) rfl Bd.toArray Bd.toArray rfl rfl rfl true Hg.out (Heq.out _) ?_))
  go_ret
  exact ⟨rfl, bthen hB1 hB2⟩
theorem built48 (m q i : Int) (x0 x1 x2 x3 x4 x5 x6 x7 x8 x9 x10 x11 x12 x13 x14 x15 x16 x17 x18 x19 x20 x21 x22 x23 x24 x25 x26 x27 x28 x29 x30 x31 x32 x33 x34 x35 x36 x37 x38 x39 x40 x41 x42 x43 x44 x45 x46 x47 : UInt8) : Try.prog.built 69 [(0, .int .u8 m), (1, .int .u32 q), (2, .int .i64 i), (3, .agg ([x0, x1, x2, x3, x4, x5, x6, x7, x8, x9, x10, x11, x12, x13, x14, x15, x16, x17, x18, x19, x20, x21, x22, x23, x24, x25, x26, x27, x28, x29, x30, x31, x32, x33, x34, x35, x36, x37, x38, x39, x40, x41, x42, x43, x44, x45, x46, x47].map B8).toArray)] = some (.int .u8 m :: .int .u32 q :: .int .i64 i :: [x0, x1, x2, x3, x4, x5, x6, x7, x8, x9, x10, x11, x12, x13, x14, x15, x16, x17, x18, x19, x20, x21, x22, x23, x24, x25, x26, x27, x28, x29, x30, x31, x32, x33, x34, x35, x36, x37, x38, x39, x40, x41, x42, x43, x44, x45, x46, x47].map B8).toArray := by kernel_rfl
theorem built_rsec (s : Sec) (hb : s.body.length = 48) : Try.prog.built 69 [(0, B8 s.mark), (1, .int .u32 (s.seq.toNat : Int)), (2, .int .i64 s.idx), (3, .agg (s.body.map B8).toArray)] = some s.cells.toArray := by
  obtain ⟨m, q, i, body⟩ := s
  obtain ⟨x0, body, rfl⟩ := List.exists_cons_of_length_eq_add_one hb
  replace hb : body.length = 47 := Nat.succ.inj hb
  obtain ⟨x1, body, rfl⟩ := List.exists_cons_of_length_eq_add_one hb
  replace hb : body.length = 46 := Nat.succ.inj hb
  obtain ⟨x2, body, rfl⟩ := List.exists_cons_of_length_eq_add_one hb
  replace hb : body.length = 45 := Nat.succ.inj hb
  obtain ⟨x3, body, rfl⟩ := List.exists_cons_of_length_eq_add_one hb
  replace hb : body.length = 44 := Nat.succ.inj hb
  obtain ⟨x4, body, rfl⟩ := List.exists_cons_of_length_eq_add_one hb
  replace hb : body.length = 43 := Nat.succ.inj hb
  obtain ⟨x5, body, rfl⟩ := List.exists_cons_of_length_eq_add_one hb
  replace hb : body.length = 42 := Nat.succ.inj hb
  obtain ⟨x6, body, rfl⟩ := List.exists_cons_of_length_eq_add_one hb
  replace hb : body.length = 41 := Nat.succ.inj hb
  obtain ⟨x7, body, rfl⟩ := List.exists_cons_of_length_eq_add_one hb
  replace hb : body.length = 40 := Nat.succ.inj hb
  obtain ⟨x8, body, rfl⟩ := List.exists_cons_of_length_eq_add_one hb
  replace hb : body.length = 39 := Nat.succ.inj hb
  obtain ⟨x9, body, rfl⟩ := List.exists_cons_of_length_eq_add_one hb
  replace hb : body.length = 38 := Nat.succ.inj hb
  obtain ⟨x10, body, rfl⟩ := List.exists_cons_of_length_eq_add_one hb
  replace hb : body.length = 37 := Nat.succ.inj hb
  obtain ⟨x11, body, rfl⟩ := List.exists_cons_of_length_eq_add_one hb
  replace hb : body.length = 36 := Nat.succ.inj hb
  obtain ⟨x12, body, rfl⟩ := List.exists_cons_of_length_eq_add_one hb
  replace hb : body.length = 35 := Nat.succ.inj hb
  obtain ⟨x13, body, rfl⟩ := List.exists_cons_of_length_eq_add_one hb
  replace hb : body.length = 34 := Nat.succ.inj hb
  obtain ⟨x14, body, rfl⟩ := List.exists_cons_of_length_eq_add_one hb
  replace hb : body.length = 33 := Nat.succ.inj hb
  obtain ⟨x15, body, rfl⟩ := List.exists_cons_of_length_eq_add_one hb
  replace hb : body.length = 32 := Nat.succ.inj hb
  obtain ⟨x16, body, rfl⟩ := List.exists_cons_of_length_eq_add_one hb
  replace hb : body.length = 31 := Nat.succ.inj hb
  obtain ⟨x17, body, rfl⟩ := List.exists_cons_of_length_eq_add_one hb
  replace hb : body.length = 30 := Nat.succ.inj hb
  obtain ⟨x18, body, rfl⟩ := List.exists_cons_of_length_eq_add_one hb
  replace hb : body.length = 29 := Nat.succ.inj hb
  obtain ⟨x19, body, rfl⟩ := List.exists_cons_of_length_eq_add_one hb
  replace hb : body.length = 28 := Nat.succ.inj hb
  obtain ⟨x20, body, rfl⟩ := List.exists_cons_of_length_eq_add_one hb
  replace hb : body.length = 27 := Nat.succ.inj hb
  obtain ⟨x21, body, rfl⟩ := List.exists_cons_of_length_eq_add_one hb
  replace hb : body.length = 26 := Nat.succ.inj hb
  obtain ⟨x22, body, rfl⟩ := List.exists_cons_of_length_eq_add_one hb
  replace hb : body.length = 25 := Nat.succ.inj hb
  obtain ⟨x23, body, rfl⟩ := List.exists_cons_of_length_eq_add_one hb
  replace hb : body.length = 24 := Nat.succ.inj hb
  obtain ⟨x24, body, rfl⟩ := List.exists_cons_of_length_eq_add_one hb
  replace hb : body.length = 23 := Nat.succ.inj hb
  obtain ⟨x25, body, rfl⟩ := List.exists_cons_of_length_eq_add_one hb
  replace hb : body.length = 22 := Nat.succ.inj hb
  obtain ⟨x26, body, rfl⟩ := List.exists_cons_of_length_eq_add_one hb
  replace hb : body.length = 21 := Nat.succ.inj hb
  obtain ⟨x27, body, rfl⟩ := List.exists_cons_of_length_eq_add_one hb
  replace hb : body.length = 20 := Nat.succ.inj hb
  obtain ⟨x28, body, rfl⟩ := List.exists_cons_of_length_eq_add_one hb
  replace hb : body.length = 19 := Nat.succ.inj hb
  obtain ⟨x29, body, rfl⟩ := List.exists_cons_of_length_eq_add_one hb
  replace hb : body.length = 18 := Nat.succ.inj hb
  obtain ⟨x30, body, rfl⟩ := List.exists_cons_of_length_eq_add_one hb
  replace hb : body.length = 17 := Nat.succ.inj hb
  obtain ⟨x31, body, rfl⟩ := List.exists_cons_of_length_eq_add_one hb
  replace hb : body.length = 16 := Nat.succ.inj hb
  obtain ⟨x32, body, rfl⟩ := List.exists_cons_of_length_eq_add_one hb
  replace hb : body.length = 15 := Nat.succ.inj hb
  obtain ⟨x33, body, rfl⟩ := List.exists_cons_of_length_eq_add_one hb
  replace hb : body.length = 14 := Nat.succ.inj hb
  obtain ⟨x34, body, rfl⟩ := List.exists_cons_of_length_eq_add_one hb
  replace hb : body.length = 13 := Nat.succ.inj hb
  obtain ⟨x35, body, rfl⟩ := List.exists_cons_of_length_eq_add_one hb
  replace hb : body.length = 12 := Nat.succ.inj hb
  obtain ⟨x36, body, rfl⟩ := List.exists_cons_of_length_eq_add_one hb
  replace hb : body.length = 11 := Nat.succ.inj hb
  obtain ⟨x37, body, rfl⟩ := List.exists_cons_of_length_eq_add_one hb
  replace hb : body.length = 10 := Nat.succ.inj hb
  obtain ⟨x38, body, rfl⟩ := List.exists_cons_of_length_eq_add_one hb
  replace hb : body.length = 9 := Nat.succ.inj hb
  obtain ⟨x39, body, rfl⟩ := List.exists_cons_of_length_eq_add_one hb
  replace hb : body.length = 8 := Nat.succ.inj hb
  obtain ⟨x40, body, rfl⟩ := List.exists_cons_of_length_eq_add_one hb
  replace hb : body.length = 7 := Nat.succ.inj hb
  obtain ⟨x41, body, rfl⟩ := List.exists_cons_of_length_eq_add_one hb
  replace hb : body.length = 6 := Nat.succ.inj hb
  obtain ⟨x42, body, rfl⟩ := List.exists_cons_of_length_eq_add_one hb
  replace hb : body.length = 5 := Nat.succ.inj hb
  obtain ⟨x43, body, rfl⟩ := List.exists_cons_of_length_eq_add_one hb
  replace hb : body.length = 4 := Nat.succ.inj hb
  obtain ⟨x44, body, rfl⟩ := List.exists_cons_of_length_eq_add_one hb
  replace hb : body.length = 3 := Nat.succ.inj hb
  obtain ⟨x45, body, rfl⟩ := List.exists_cons_of_length_eq_add_one hb
  replace hb : body.length = 2 := Nat.succ.inj hb
  obtain ⟨x46, body, rfl⟩ := List.exists_cons_of_length_eq_add_one hb
  replace hb : body.length = 1 := Nat.succ.inj hb
  obtain ⟨x47, body, rfl⟩ := List.exists_cons_of_length_eq_add_one hb
  replace hb : body.length = 0 := Nat.succ.inj hb
  obtain rfl := List.eq_nil_of_length_eq_zero hb
  exact built48 _ _ _ _ _ _ _ _ _ _ _ _ _ _ _ _ _ _ _ _ _ _ _ _ _ _ _ _ _ _ _ _ _ _ _ _ _ _ _ _ _ _ _ _ _ _ _ _ _ _ _

theorem encode_any (s : Sec) (hb : s.body.length = 48) (h1 : -9223372036854775808 ≤ s.idx) (h2 : s.idx ≤ 9223372036854775807) (C E : List Value) (c : Int) (hC : Hid (C = s.cells)) (hE : Hid (E = (encode s).1.map B8)) (hc : Hid (c = (encode s).2)) (w : World) :
    Calls Try.prog 33 #[.agg C.toArray] w fun e w' => e = .returned (.tuple #[.agg E.toArray, .int .i64 c]) ∧ Below w.heap.size w w' := by
  rw [hC.out, hE.out, hc.out]
  exact encode_calls s hb h1 h2 w
theorem rencode_any (s : Sec) (hb : s.body.length = 48) (h1 : -9223372036854775808 ≤ s.idx) (h2 : s.idx ≤ 9223372036854775807) (C E : List Value) (c : Int) (hC : Hid (C = s.cells)) (hE : Hid (E = (encode s).1.map B8)) (hc : Hid (c = (encode s).2)) (w : World) :
    Calls Try.prog 34 #[.agg C.toArray] w fun e w' => e = .returned (.tuple #[.agg E.toArray, .int .i64 c]) ∧ Below w.heap.size w w' := by
  rw [hC.out, hE.out, hc.out]
  exact rencode_calls s hb h1 h2 w
theorem decode_any (b : List UInt8) (hb : b.length = 64) (E D : List Value) (d : Int) (hE : Hid (E = b.map B8)) (hD : Hid (D = (decode b).1.cells)) (hd : Hid (d = (decode b).2)) (w : World) :
    Calls Try.prog 35 #[.agg E.toArray] w fun e w' => e = .returned (.tuple #[.agg D.toArray, .int .i64 d]) ∧ Below w.heap.size w w' := by
  rw [hE.out, hD.out, hd.out]
  exact decode_calls b hb w
theorem rdecode_any (b : List UInt8) (hb : b.length = 64) (E D : List Value) (d : Int) (hE : Hid (E = b.map B8)) (hD : Hid (D = (decode b).1.cells)) (hd : Hid (d = (decode b).2)) (w : World) :
    Calls Try.prog 36 #[.agg E.toArray] w fun e w' => e = .returned (.tuple #[.agg D.toArray, .int .i64 d]) ∧ Below w.heap.size w w' := by
  rw [hE.out, hD.out, hd.out]
  exact rdecode_calls b hb w
theorem same_any (s : Sec) (hb : s.body.length = 48) (D : List Value) (hD : Hid (D = s.cells)) (w : World) :
    Calls Try.prog 37 #[.agg D.toArray, .agg D.toArray] w fun e w' => e = .returned (.bool true) ∧ Below w.heap.size w w' := by
  rw [hD.out]
  exact same_calls s hb w

set_option maxRecDepth 100000 in
set_option maxHeartbeats 1000000 in
theorem pageCodes_walk (s : Sec) (b : List UInt8) (w : World) (hb : s.body.length = 48) (h1 : -9223372036854775808 ≤ s.idx) (h2 : s.idx ≤ 9223372036854775807) (hbl : b.length = 64) :
    Calls Try.prog 8 #[s.val, vb b] w fun e w' => e = .returned (.bool true) ∧ Below w.heap.size w w' := by
  obtain ⟨C, hC⟩ : ∃ C, C = s.cells := ⟨_, rfl⟩
  obtain ⟨Bd, hBd⟩ : ∃ Bd, Bd = s.body.map B8 := ⟨_, rfl⟩
  obtain ⟨E, hE⟩ : ∃ E, E = (encode s).1.map B8 := ⟨_, rfl⟩
  obtain ⟨c, hc⟩ : ∃ c, c = (encode s).2 := ⟨_, rfl⟩
  obtain ⟨L, hL⟩ : ∃ L, L = b.map B8 := ⟨_, rfl⟩
  obtain ⟨D, hD⟩ : ∃ D, D = (decode b).1.cells := ⟨_, rfl⟩
  obtain ⟨d, hd⟩ : ∃ d, d = (decode b).2 := ⟨_, rfl⟩
  have hdb := decode_body b hbl
  have HCL := Lib.hid (show C.length = 51 by rw [hC]; exact Sec.cells_length s hb)
  have HCT := Lib.hid (List.take_of_length_le (Nat.le_of_eq HCL.out))
  have H0 := Lib.hid (show C[0]? = some (B8 s.mark) by rw [hC]; rfl)
  have H1 := Lib.hid (show C[1]? = some (.int .u32 (s.seq.toNat : Int)) by rw [hC]; rfl)
  have H2 := Lib.hid (show C[2]? = some (.int .i64 s.idx) by rw [hC]; rfl)
  have H3 := Lib.hid (show (C.drop 3).take 48 = Bd by
    rw [hC, hBd]
    show (s.body.map B8).take 48 = _
    exact List.take_of_length_le (by rw [List.length_map, hb]; decide))
  have HBl := Lib.hid (show Bd.length = 48 by rw [hBd, List.length_map, hb])
  have HBu := Lib.hid (show Try.prog.built 69 [(0, B8 s.mark), (1, .int .u32 (s.seq.toNat : Int)), (2, .int .i64 s.idx), (3, .agg Bd.toArray)] = some C.toArray by rw [hBd, hC]; exact built_rsec s hb)
  have HEL := Lib.hid (show E.length = 64 by rw [hE, List.length_map]; exact encode_length s hb)
  have HET := Lib.hid (List.take_of_length_le (Nat.le_of_eq HEL.out))
  have HE1 := Lib.hid (show ∀ v ∈ E, v.oneCell' = true by rw [hE]; exact bytes_oneCell _)
  have HEq := Lib.hid (show ∀ w, (Op.equalIn 10000 37 (.agg E.toArray) (.agg E.toArray)).run Try.prog w = .ok true w from fun w => by
    rw [hE, neq_block _ _ (encode_length s hb) (encode_length s hb), beq_self_eq_true])
  have HLL := Lib.hid (show L.length = 64 by rw [hL, List.length_map, hbl])
  have HLT := Lib.hid (List.take_of_length_le (Nat.le_of_eq HLL.out))
  have HDL := Lib.hid (show D.length = 51 by rw [hD]; exact Sec.cells_length _ hdb)
  have HDT := Lib.hid (List.take_of_length_le (Nat.le_of_eq HDL.out))
  have HD1 := Lib.hid (show ∀ v ∈ D, v.oneCell' = true by rw [hD]; exact sec_one _)
  have Hg := Lib.hid guard_block
  have HC := Lib.hid hC
  have HE := Lib.hid hE
  have Hc := Lib.hid hc
  have HL := Lib.hid hL
  have HD := Lib.hid hD
  have Hd := Lib.hid hd
  have hsv : s.val = .agg C.toArray := by rw [hC]; rfl
  have hbv : vb b = .agg L.toArray := by rw [hL]; rfl
  rw [hsv, hbv]
  clear hC hBd hE hc hL hD hd hsv hbv
  go_enter Try.func8, Try.ntmps8
  go_wp2_with (first
    | (go_at_call 33; refine (encode_any s hb h1 h2 C E c HC HE Hc _).mono ?_; rintro e w3 ⟨rfl, hB3⟩)
    | (go_at_call 34; refine (rencode_any s hb h1 h2 C E c HC HE Hc _).mono ?_; rintro e w6 ⟨rfl, hB6⟩; clear hc0 hc1 hc2)
    | (go_at_call 35; refine (decode_any b hbl L D d HL HD Hd _).mono ?_; rintro e w9 ⟨rfl, hB9⟩)
    | (go_at_call 36; refine (rdecode_any b hbl L D d HL HD Hd _).mono ?_; rintro e w12 ⟨rfl, hB12⟩)
    | (go_at_call 37; refine (same_any (decode b).1 hdb D HD _).mono ?_; rintro e w15 ⟨rfl, hB15⟩)
    | (go_at_call 38; refine (wakes05_calls _).mono ?_; rintro e w16 ⟨rfl, hB16⟩)
    | (refine wpList_box_row 2 rfl 65 _ rfl C rfl rfl ?_; intro w1 hr1 hs1 hB1)
    | (refine wpList_box_row 3 rfl 37 _ rfl L rfl rfl ?_; intro w2 hr2 hs2 hB2; have hr12 := hr1.step hB2; clear hs1 hs2)
    | (refine wpList_load_part 14 rfl 65 (.tmp 2) rfl hr12 0 51 C rfl rfl HCT.out HCL.out Try.isAgg65 Try.sizeOf65 ?_)
    | (refine wpList_alloc_row 5 rfl 37 rfl _ rfl zero_block ?_; intro w4 hr4 hs4 hB4)
    | (refine wpList_store_part 37 (.tmp 5) (.tmp 16) rfl hr4 0 E rfl rfl rfl (by rw [HEL.out]; exact Try.sizeOf37) (by rw [HEL.out]; decide) HE1.out ?_
       intro w5 hr5 hs5 hg5
       rw [splice_all _ _ (by rw [HEL.out]; rfl)] at hr5
       have hz1 := hr12.lt
       have hz2 := hr2.lt
       have hz3 := hB3.size
       have hz4 := hB4.size
       have hz5 := hr5.lt
       have hp5 := ((hr12.step hB3).step hB4).kept hg5 (fun e => by injection e with e; omega)
       have hq5 := ((hr2.step hB3).step hB4).kept hg5 (fun e => by injection e with e; omega)
       have hBx := bthen (bthen (bthen hB1 hB2) hB3) hB4
       have hB5 : Below w.heap.size w w5 := hBx.grown hg5 hBx.size (fun j e => by cases e; have := hBx.size; have := (bthen (bthen hB1 hB2) hB3).size; omega)
       have hc0 := hp5.cellD 0 _ H0.out
       have hc1 := hp5.cellD 1 _ H1.out
       have hc2 := hp5.cellD 2 _ H2.out
       clear hs4 hs5 hBx hz1 hz2 hz3 hz4 hz5)
    | (refine wpList_load_part 26 rfl 63 (.tmp 25) rfl hp5 3 48 Bd rfl rfl H3.out HBl.out Try.isAgg63 Try.sizeOf63 ?_)
    | (refine wpList_build4 27 rfl 69 (.tmp 20) (.tmp 22) (.tmp 24) (.tmp 26) rfl C (B8 s.mark) (.int .u32 (s.seq.toNat : Int)) (.int .i64 s.idx) (.agg Bd.toArray) HBu.out rfl rfl rfl rfl rfl ?_)
    | (refine wpList_alloc_row 7 rfl 37 rfl _ rfl zero_block ?_; intro w7 hr7 hs7 hB7)
    | (refine wpList_store_part 37 (.tmp 7) (.tmp 29) rfl hr7 0 E rfl rfl rfl (by rw [HEL.out]; exact Try.sizeOf37) (by rw [HEL.out]; decide) HE1.out ?_
       intro w8 hr8 hs8 hg8
       rw [splice_all _ _ (by rw [HEL.out]; rfl)] at hr8
       have hz1 := hr5.lt
       have hz2 := hq5.lt
       have hz6 := hB6.size
       have hz7 := hB7.size
       have hx8 := ((hr5.step hB6).step hB7).kept hg8 (fun e => by injection e with e; omega)
       have hq8 := ((hq5.step hB6).step hB7).kept hg8 (fun e => by injection e with e; omega)
       have hBx := bthen (bthen hB5 hB6) hB7
       have hB8 : Below w.heap.size w w8 := hBx.grown hg8 hBx.size (fun j e => by cases e; have := (bthen hB5 hB6).size; omega)
       clear hs7 hs8 hBx hz1 hz2 hz6 hz7)
    | (refine wpList_load_part 32 rfl 37 (.tmp 3) rfl hq8 0 64 L rfl rfl HLT.out HLL.out Try.isAgg37 Try.sizeOf37 ?_)
    | (refine wpList_alloc_row 9 rfl 65 rfl _ rfl zero_sec ?_; intro w10 hr10 hs10 hB10)
    | (refine wpList_store_part 65 (.tmp 9) (.tmp 34) rfl hr10 0 D rfl rfl rfl (by rw [HDL.out]; exact Try.sizeOf65) (by rw [HDL.out]; decide) HD1.out ?_
       intro w11 hr11 hs11 hg11
       rw [splice_all _ _ (by rw [HDL.out]; rfl)] at hr11
       have hz1 := hx8.lt
       have hz2 := hq8.lt
       have hz3 := hr8.lt
       have hz9 := hB9.size
       have hz10 := hB10.size
       have hx11 := ((hx8.step hB9).step hB10).kept hg11 (fun e => by injection e with e; omega)
       have hq11 := ((hq8.step hB9).step hB10).kept hg11 (fun e => by injection e with e; omega)
       have hy11 := ((hr8.step hB9).step hB10).kept hg11 (fun e => by injection e with e; omega)
       have hBx := bthen (bthen hB8 hB9) hB10
       have hB11 : Below w.heap.size w w11 := hBx.grown hg11 hBx.size (fun j e => by cases e; have := (bthen hB8 hB9).size; omega)
       clear hs10 hs11 hBx hz1 hz2 hz3 hz9 hz10)
    | (refine wpList_load_part 37 rfl 37 (.tmp 3) rfl hq11 0 64 L rfl rfl HLT.out HLL.out Try.isAgg37 Try.sizeOf37 ?_)
    | (refine wpList_alloc_row 11 rfl 69 rfl _ rfl rzero_sec ?_; intro w13 hr13 hs13 hB13)
    | (refine wpList_store_part 69 (.tmp 11) (.tmp 39) rfl hr13 0 D rfl rfl rfl (by rw [HDL.out]; exact Try.sizeOf69) (by rw [HDL.out]; decide) HD1.out ?_
       intro w14 hr14 hs14 hg14
       rw [splice_all _ _ (by rw [HDL.out]; rfl)] at hr14
       have hz1 := hx11.lt
       have hz2 := hy11.lt
       have hz3 := hr11.lt
       have hz12 := hB12.size
       have hz13 := hB13.size
       have hx14 := ((hx11.step hB12).step hB13).kept hg14 (fun e => by injection e with e; omega)
       have hy14 := ((hy11.step hB12).step hB13).kept hg14 (fun e => by injection e with e; omega)
       have hd14 := ((hr11.step hB12).step hB13).kept hg14 (fun e => by injection e with e; omega)
       have hBx := bthen (bthen hB11 hB12) hB13
       have hB14 : Below w.heap.size w w14 := hBx.grown hg14 hBx.size (fun j e => by cases e; have := (bthen hB11 hB12).size; omega)
       clear hs13 hs14 hBx hz1 hz2 hz3 hz12 hz13)
    | (refine wpList_load_part 41 rfl 37 (.tmp 5) rfl hx14 0 64 E rfl rfl HET.out HEL.out Try.isAgg37 Try.sizeOf37 ?_)
    | (refine wpList_load_part 42 rfl 37 (.tmp 7) rfl hy14 0 64 E rfl rfl HET.out HEL.out Try.isAgg37 Try.sizeOf37 ?_)
    | (refine wpList_eql 43 rfl 37 37 (.tmp 41) (.tmp 42) rfl E.toArray E.toArray rfl rfl rfl true Hg.out (HEq.out _) ?_)
    | (refine wpList_load_part 50 rfl 65 (.tmp 9) rfl hd14 0 51 D rfl rfl HDT.out HDL.out Try.isAgg65 Try.sizeOf65 ?_)
    | (refine wpList_load_part 51 rfl 69 (.tmp 11) rfl hr14 0 51 D rfl rfl HDT.out HDL.out Try.isAgg69 Try.sizeOf69 ?_))
  go_ret
  exact ⟨rfl, bthen (bthen hB14 hB15) hB16⟩
end Go.Proofs.Ythieeidbfdhaaaa
