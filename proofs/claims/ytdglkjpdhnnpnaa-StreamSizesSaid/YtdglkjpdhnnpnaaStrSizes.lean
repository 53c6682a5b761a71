/-
  StreamSizes's walk.
-/
import Derived.Test.YtdglkjpdhnnpnaaWakes16
import Derived.Test.YtdglkjpdhnnpnaaOps
namespace Go.Proofs.Ytdglkjpdhnnpnaa
open Go Go.RowKit Go.Shelf

theorem szwrap_u8 (a : UInt8) : wrap64 (a.toNat : Int) = (a.toNat : Int) := by
  have := a.toNat_lt
  unfold wrap64
  omega
theorem szwrap_id {x : Int} (h1 : -9223372036854775808 ≤ x) (h2 : x ≤ 9223372036854775807) : wrap64 x = x := by
  unfold wrap64
  omega
theorem sz_n (a : UInt8) : ∃ n : Nat, wrap64 (1 + (wrap64 (a.toNat : Int)).tmod 64) = (n : Int) ∧ 1 ≤ n ∧ n ≤ 64 := by
  refine ⟨1 + a.toNat % 64, ?_, by omega, by omega⟩
  rw [szwrap_u8, Int.tmod_eq_emod_of_nonneg (by omega), szwrap_id (by omega) (by omega)]
  omega
theorem sz_f (a : UInt8) (n : Nat) (h : 1 ≤ n) : ∃ f : Nat, (wrap64 (a.toNat : Int)).tmod (n : Int) = (f : Int) ∧ f < n := by
  refine ⟨a.toNat % n, ?_, Nat.mod_lt _ (by omega)⟩
  rw [szwrap_u8, Int.tmod_eq_emod_of_nonneg (by omega)]
  rfl
theorem sz_c (a : UInt8) (m : Nat) (h : 1 ≤ m) (h2 : m ≤ 64) : ∃ c : Nat, wrap64 (1 + (wrap64 (a.toNat : Int)).tmod (m : Int)) = (c : Int) ∧ 1 ≤ c ∧ c ≤ m := by
  have hl := Nat.mod_lt a.toNat (show 0 < m by omega)
  refine ⟨1 + a.toNat % m, ?_, by omega, by omega⟩
  have e : ((a.toNat : Int)).tmod (m : Int) = ((a.toNat % m : Nat) : Int) := by
    rw [Int.tmod_eq_emod_of_nonneg (by omega)]
    rfl
  rw [szwrap_u8, e, szwrap_id (by omega) (by omega)]
  omega

theorem piece_rep (k x : Nat) (h : x < k) : zeroB (pieceB (List.replicate (64 * k) (3 : UInt8)) 64 x) = false := by
  have e : pieceB (List.replicate (64 * k) (3 : UInt8)) 64 x = List.replicate 64 3 := by
    unfold pieceB
    rw [List.drop_replicate, List.take_replicate]
    congr 1
    omega
  rw [e]
  rfl
theorem sz_head {n : Nat} (h1 : 1 ≤ n) (h2 : n ≤ 64) (a : Int) (ha : a = 1 ∨ a = -1) (A : Option Addr) (cap : Nat) (l : List Rec) : headB ⟨n, a, 2, A, cap, l⟩ = true := by
  have e1 : decide ((1 : Int) ≤ (n : Int)) = true := decide_eq_true (by omega)
  have e2 : decide ((n : Int) ≤ (64 : Int)) = true := decide_eq_true (by omega)
  unfold headB
  simp only [e1, e2]
  rcases ha with rfl | rfl <;> rfl
theorem sz_good {n f c : Nat} (h1 : 1 ≤ n) (h2 : n ≤ 64) (hf : f < n) (hc : 1 ≤ c) (hcn : c ≤ n - f) (a : Int) (ha : a = 1 ∨ a = -1) (A A' : Option Addr) (cap cap' : Nat) (z : Bool) (d : List UInt8) (hz : (a == -1 && z) = false) :
    goodB ⟨n, a, 2, A, cap, [⟨f, c, z, A', cap', d⟩]⟩ = dataB ⟨f, c, z, A', cap', d⟩ := by
  unfold goodB
  rw [sz_head h1 h2 a ha]
  show (true && (recB n a ⟨f, c, z, A', cap', d⟩ && true && true)) = _
  have e1 : decide ((1 : Int) ≤ (c : Int)) = true := decide_eq_true (by omega)
  have e2 : decide ((0 : Int) ≤ (f : Int)) = true := decide_eq_true (by omega)
  have e3 : decide ((f : Int) < (n : Int)) = true := decide_eq_true (by omega)
  have e4 : decide ((c : Int) ≤ (n : Int) - (f : Int)) = true := decide_eq_true (by omega)
  unfold recB
  simp only [e1, e2, e3, e4, hz]
  simp
theorem sz_zeros (f c : Int) (A : Option Addr) (cap : Nat) : dataB ⟨f, c, true, A, cap, []⟩ = true := rfl
theorem sz_full (f : Int) (c : Nat) (A : Option Addr) (cap : Nat) : dataB ⟨f, c, false, A, cap, List.replicate (64 * c) 3⟩ = true := by
  show ((((List.replicate (64 * c) (3 : UInt8)).length : Int) == (c : Int) * 64) && (List.finRange (chunksN (List.replicate (64 * c) (3 : UInt8)).length 64)).all fun x => !zeroB (pieceB (List.replicate (64 * c) 3) 64 x.val)) = true
  rw [Bool.and_eq_true]
  refine ⟨?_, ?_⟩
  · rw [List.length_replicate, beq_iff_eq]
    omega
  · rw [List.all_eq_true]
    intro x _
    have hx : x.val < c := by
      have := x.isLt
      simp only [List.length_replicate, chunksN] at this
      omega
    rw [piece_rep c x.val hx]
    rfl
theorem sz_short (f : Int) (c : Nat) (A : Option Addr) (cap : Nat) (d : List UInt8) (h : (d.length : Int) ≠ (c : Int) * 64) : dataB ⟨f, c, false, A, cap, d⟩ = false := by
  show ((((d.length : Int) == (c : Int) * 64)) && _) = false
  rw [beq_eq_false_iff_ne.2 h]
  rfl
theorem sz_many {n f : Nat} (h1 : 1 ≤ n) (h2 : n ≤ 64) (c : Int) (hc : (n : Int) - (f : Int) < c) (A A' : Option Addr) (cap cap' : Nat) : goodB ⟨n, 1, 2, A, cap, [⟨f, c, true, A', cap', []⟩]⟩ = false := by
  unfold goodB
  rw [sz_head h1 h2 1 (.inl rfl)]
  show (true && (recB n 1 ⟨f, c, true, A', cap', []⟩ && true && true)) = _
  have e4 : decide (c ≤ (n : Int) - (f : Int)) = false := decide_eq_false (by omega)
  unfold recB
  simp only [e4]
  simp
theorem rep_snoc (k : Nat) : List.replicate (64 * k) (3 : UInt8) ++ List.replicate 64 3 = List.replicate (64 * (k + 1)) 3 := by
  rw [List.replicate_append_replicate]
  congr 1

set_option maxRecDepth 100000 in
set_option maxHeartbeats 8000000 in
theorem streamSizes_walk (x0 x1 x2 : UInt8) (w : World) :
    Calls Try.prog 5 #[B8 x0, B8 x1, B8 x2] w fun e w' => e = .returned (.bool true) ∧ Below w.heap.size w w' := by
  obtain ⟨L3, hL3⟩ : ∃ L, L = (fillB 3).map B8 := ⟨_, rfl⟩
  have H3 := Lib.hid hL3
  have HL3 := Lib.hid (show L3.length = 64 by rw [hL3]; rfl)
  have HO3 := Lib.hid (show ∀ v ∈ L3, v.oneCell' = true by rw [hL3]; exact bytes_oneCell _)
  clear hL3
  obtain ⟨n, e1, n1, n2⟩ := sz_n x0
  obtain ⟨f, e2, f1⟩ := sz_f x1 n n1
  obtain ⟨m, hm⟩ : ∃ m, m = n - f := ⟨_, rfl⟩
  have e3 : ((n : Int) - (f : Int)) = (m : Int) := by omega
  obtain ⟨c, e4, c1, c2⟩ := sz_c x2 m (by omega) (by omega)
  rw [← e3] at e4
  have e8 : ((n : Int) == 0) = false := beq_eq_false_iff_ne.2 (by omega)
  have e9 : ((n : Int) - (f : Int) == 0) = false := beq_eq_false_iff_ne.2 (by omega)
  have ea : ¬ (n : Int) = 0 := by omega
  have eb : ¬ (n : Int) - (f : Int) = 0 := by omega
  have ok1 : ∀ W B, (⟨(f : Int), (c : Int), true, none, 0, []⟩ : Rec).Ok W B := fun W B => Rec.ok_none _ _ _ _ _ (by omega) (by omega) (by omega) (by omega)
  have ok4 : ∀ W B, (⟨(f : Int), (n : Int) - (f : Int) + 1, true, none, 0, []⟩ : Rec).Ok W B := fun W B => Rec.ok_none _ _ _ _ _ (by omega) (by omega) (by omega) (by omega)
  have sok : ∀ (W : World) (g : Nat) (a : Int) (r : Rec), (a = 1 ∨ a = -1) → RecsAt W W.heap.size (some ⟨g, 0, none⟩) [r] → (⟨(n : Int), a, 2, some ⟨g, 0, none⟩, 1, [r]⟩ : Str).Ok W W.heap.size := fun W g a r ha h => Str.ok_small 1 rfl h (by decide) (by decide) (by omega) (by omega) (by omega) (by omega) (by decide) (by decide)
  have g1 : ∀ g, goodB ⟨(n : Int), 1, 2, some ⟨g, 0, none⟩, 1, [⟨(f : Int), (c : Int), true, none, 0, []⟩]⟩ = true := fun g => by rw [sz_good n1 n2 f1 c1 (by omega) 1 (.inl rfl) _ _ _ _ _ _ rfl]; rfl
  have g2 : ∀ g A cap, goodB ⟨(n : Int), -1, 2, some ⟨g, 0, none⟩, 1, [⟨(f : Int), (c : Int), false, A, cap, List.replicate (64 * c) 3⟩]⟩ = true := fun g A cap => by rw [sz_good n1 n2 f1 c1 (by omega) (-1) (.inr rfl) _ _ _ _ _ _ rfl]; exact sz_full _ _ _ _
  have g3 : ∀ g A cap, goodB ⟨(n : Int), -1, 2, some ⟨g, 0, none⟩, 1, [⟨(f : Int), (c : Int), false, A, cap, (List.replicate (64 * c) 3).drop 64⟩]⟩ = false := fun g A cap => by
    rw [sz_good n1 n2 f1 c1 (by omega) (-1) (.inr rfl) _ _ _ _ _ _ rfl]
    refine sz_short _ _ _ _ _ ?_
    rw [List.length_drop, List.length_replicate]
    omega
  have g4 : ∀ g, goodB ⟨(n : Int), 1, 2, some ⟨g, 0, none⟩, 1, [⟨(f : Int), (n : Int) - (f : Int) + 1, true, none, 0, []⟩]⟩ = false := fun g => sz_many n1 n2 _ (by omega) _ _ _ _
  replace sok := Lib.hid sok
  replace g1 := Lib.hid g1
  replace g2 := Lib.hid g2
  replace g3 := Lib.hid g3
  replace g4 := Lib.hid g4
  have cn : (c : Int) ≤ (n : Int) - (f : Int) := by omega
  clear hm e3 c2
  go_enter Try.func5, Try.ntmps5
  go_wp2_with (refine wpList_lit1 (.tmp 40) rfl ⟨(f : Int), (c : Int), true, none, 0, []⟩ (ok1 _ _) rfl rfl ?_; intro w1 hl1 hB1)
  refine (encode_S _ w1 (sok.out _ _ _ _ (.inl rfl) hl1) _ rfl true (g1.out _)).mono ?_
  rintro e w2 ⟨zs1, A1, k1, rfl, hz1, _, hB2⟩
  have hl1' : zs1.length = 46 := by rw [show zs1 = encE _ from hz1.out, encE_len]; rfl
  rw [hl1']
  have hW2 := bthen hB1 hB2
  clear hz1 hl1' hl1 hB1 hB2 ok1 g1
  go_wp2_with fail
  refine (fill_L 3 L3 H3 _).mono ?_
  rintro e w3 ⟨rfl, hB3⟩
  have hW3 := bthen hW2 hB3
  clear hW2 hB3
  go_wp2_with (first
    | (refine wpList_alloc_row 12 rfl 41 rfl _ rfl zero_block ?_; intro w4 hr4 hs4 hB4; clear hs4)
    | (refine wpList_store_part 41 (.tmp 12) (.tmp 46) rfl hr4 0 L3 rfl rfl rfl (by rw [HL3.out]; exact Try.sizeOf41) (by rw [HL3.out]; decide) HO3.out ?_
       intro w5 hr5 hs5 hg5
       clear hs5
       rw [splice_all _ _ (by rw [HL3.out]; rfl)] at hr5))
  have hB5 : Below w3.heap.size w3 w5 := hB4.grown hg5 hB4.size (fun j e => by cases e; exact Nat.le_refl _)
  have hW5 := bthen hW3 hB5
  clear hr4 hB4 hg5 hW3 hB5
  have hlt5 := hr5.lt
  have hcI : (c : Int) ≤ 64 := by omega
  go_loopw [13, 14] (fun dv i wr => ∃ (k : Nat) (A : Option Addr) (cp : Nat) (zs : List UInt8), k ≤ c ∧ i = .int .i64 (k : Int) ∧ dv = .slice A zs.length cp ∧ Hid (zs = List.replicate (64 * k) 3) ∧ OwnB wr w5.heap.size 5 A cp zs ∧ RowAt wr w3.heap.size 41 L3 ∧ Below w5.heap.size w5 wr) (fun _ i _ => c - (intOf i).toNat)
  case atStart => exact ⟨0, none, 0, [], Nat.zero_le _, rfl, rfl, Lib.hid rfl, OwnB.nil _ _ _, hr5, brefl w5⟩
  case round =>
    obtain ⟨k, A, cp, zs, hk, rfl, rfl, hz, hown, hr, hB⟩ := hrel
    by_cases hlt : k < c
    · have hd1 : decide ((k : Int) < (c : Int)) = true := decide_eq_true (by omega)
      have hb3 : BytesAt wr wr.heap.size (some ⟨w3.heap.size, 0, none⟩) (fillB 3) := hr.bytes 0 (fillB 3) (fun j hj => by rw [H3.out, Nat.zero_add]; simp [hj])
      have hzl : zs.length = 64 * k := by rw [hz.out, List.length_replicate]
      have hzz : zs.length ≤ 4096 := by omega
      have hkI : (k : Int) ≤ 64 := by omega
      have hsn := Lib.hid (rep_snoc k)
      clear hzl
      go_wp2_with (at_builtin; refine wpList_app_b hB.size rfl _ _ 25 rfl Try.underlying25 Try.info_byte _ rfl hown 64 64 (fillB_length 3) hb3 (by rfl) (by rfl) (by omega) ?_)
      intro zs' A' c' w6 hz' hown' hg' _
      have hr6 : RowAt w6 w3.heap.size 41 L3 := hr.kept hg' (fun e => by have := (hown.lt _ e).1; omega)
      have hB6 : Below w5.heap.size w5 w6 := hB.grown hg' hB.size (fun j e => (hown.lt j e).1)
      clear hb3
      go_wp2_with fail
      go_roundw
      case rel => exact ⟨k + 1, A', c', zs', by omega, by go_num, rfl, Lib.hid (by rw [hz'.out, hz.out]; exact hsn.out), hown', hr6, hB6⟩
      case measure => simp [intOf]; omega
    · obtain rfl : k = c := by omega
      have hd1 : decide ((k : Int) < (k : Int)) = false := decide_eq_false (by omega)
      have hlz : zs.length = 64 * k := by rw [hz.out, List.length_replicate]
      have hzb := hown.bytes
      have hzc := hown.cap
      have hzm := hown.capMax
      obtain ⟨g, rfl, _, _, _, _⟩ := hown.form (by omega)
      have hWr := bthen hW5 hB
      obtain ⟨A2, hA2, hzb2⟩ : ∃ A2, A2 = (if cp = 64 then some (⟨g, 0, none⟩ : Addr) else some ⟨g, 64, none⟩) ∧ BytesAt wr wr.heap.size A2 (zs.drop 64) := by
        have h := hzb.drop (k := 64) hzc
        refine ⟨_, rfl, ?_⟩
        by_cases hc : cp = 64
        · rw [if_pos hc] at h ⊢
          exact h
        · rw [if_neg hc] at h ⊢
          simpa [add_at] using h
      have ok2 : Rec.Ok wr wr.heap.size ⟨(f : Int), (k : Int), false, some ⟨g, 0, none⟩, cp, zs⟩ := ⟨hzb, hzc, hzm, by show _ ≤ (f : Int); omega, by show (f : Int) ≤ _; omega, by show _ ≤ (k : Int); omega, by show (k : Int) ≤ _; omega⟩
      have ok3 : Rec.Ok wr wr.heap.size ⟨(f : Int), (k : Int), false, A2, cp - 64, zs.drop 64⟩ := ⟨hzb2, by show (zs.drop 64).length ≤ cp - 64; rw [List.length_drop]; omega, by show cp - 64 ≤ maxLen; omega, by show _ ≤ (f : Int); omega, by show (f : Int) ≤ _; omega, by show _ ≤ (k : Int); omega, by show (k : Int) ≤ _; omega⟩
      have hz64 : 64 ≤ zs.length := by omega
      have hzcI : (zs.length : Int) ≤ (cp : Int) := by omega
      have hzmI : (cp : Int) ≤ 9223372036854775807 := by unfold maxLen at hzm; omega
      replace hlz := Lib.hid hlz
      clear hzb hzb2 hown hr hB hr5 hlt hW5 hlt5 hzm hzc
      go_wp2_with (refine wpList_lit1 (.tmp 60) rfl ⟨(f : Int), (k : Int), false, some ⟨g, 0, none⟩, cp, zs⟩ ok2 rfl rfl ?_; intro w7 hl7 hB7)
      refine (encode_S _ w7 (sok.out _ _ _ _ (.inr rfl) hl7) _ rfl true (by rw [hz.out]; exact g2.out _ _ _)).mono ?_
      rintro e w8 ⟨zs2, A8, k8, rfl, hz2, _, hB8⟩
      have hq : ((zs2.length : Int) == 46 + (k : Int) * 64) = true := by
        rw [show zs2 = encE _ from hz2.out, encE_len, beq_iff_eq]
        show (((33 + (13 + zs.length + 0) : Nat)) : Int) = _
        rw [hlz.out]
        omega
      have hB78 := bthen hB7 hB8
      have ok38 := ok3.step hB78
      have hW8 := bthen hWr hB78
      clear hz2 hl7 hB7 hB8 ok2 ok3 g2 hB78 hWr
      by_cases hc64 : cp = 64
      · rw [if_pos hc64] at hA2
        subst hA2
        go_wp2_with (refine wpList_lit1 (.tmp 72) rfl ⟨(f : Int), (k : Int), false, some ⟨g, 0, none⟩, cp - 64, zs.drop 64⟩ ok38 rfl (by first | (simp [Rec.val]; done) | (simp [Rec.val]; rfl) | (simp [Rec.val, hc64]; done) | (simp [Rec.val, hc64]; rfl)) ?_; intro w9 hl9 hB9)
        refine (encode_S _ w9 (sok.out _ _ _ _ (.inr rfl) hl9) _ rfl false (by rw [show zs.drop 64 = (List.replicate (64 * k) 3).drop 64 by rw [hz.out]]; exact g3.out _ _ _)).mono ?_
        rintro e wa ⟨zs3, Aa, ka, rfl, _, _, hBa⟩
        have hWa := bthen (bthen hW8 hB9) hBa
        clear hl9 hB9 hBa ok38 g3 hW8
        go_wp2_with (refine wpList_lit1 (.tmp 85) rfl ⟨(f : Int), (n : Int) - (f : Int) + 1, true, none, 0, []⟩ (ok4 _ _) rfl rfl ?_; intro wb hlb hBb)
        refine (encode_S _ wb (sok.out _ _ _ _ (.inl rfl) hlb) _ rfl false (g4.out _)).mono ?_
        rintro e wc ⟨zs4, Ac, kc, rfl, _, _, hBc⟩
        have hWc := bthen (bthen hWa hBb) hBc
        clear hlb hBb hBc ok4 g4 hWa sok
        go_wp2_with fail
        refine (wakes16_calls wc).mono ?_
        rintro e wd ⟨rfl, hBd⟩
        go_wp2_with fail
        go_ret
        exact ⟨rfl, bthen hWc hBd⟩
      · rw [if_neg hc64] at hA2
        subst hA2
        go_wp2_with (refine wpList_lit1 (.tmp 72) rfl ⟨(f : Int), (k : Int), false, some ⟨g, 64, none⟩, cp - 64, zs.drop 64⟩ ok38 rfl (by simp [Rec.val]; rfl) ?_; intro w9 hl9 hB9)
        refine (encode_S _ w9 (sok.out _ _ _ _ (.inr rfl) hl9) _ rfl false (by rw [show zs.drop 64 = (List.replicate (64 * k) 3).drop 64 by rw [hz.out]]; exact g3.out _ _ _)).mono ?_
        rintro e wa ⟨zs3, Aa, ka, rfl, _, _, hBa⟩
        have hWa := bthen (bthen hW8 hB9) hBa
        clear hl9 hB9 hBa ok38 g3 hW8
        go_wp2_with (refine wpList_lit1 (.tmp 85) rfl ⟨(f : Int), (n : Int) - (f : Int) + 1, true, none, 0, []⟩ (ok4 _ _) rfl rfl ?_; intro wb hlb hBb)
        refine (encode_S _ wb (sok.out _ _ _ _ (.inl rfl) hlb) _ rfl false (g4.out _)).mono ?_
        rintro e wc ⟨zs4, Ac, kc, rfl, _, _, hBc⟩
        have hWc := bthen (bthen hWa hBb) hBc
        clear hlb hBb hBc ok4 g4 hWa sok
        go_wp2_with fail
        refine (wakes16_calls wc).mono ?_
        rintro e wd ⟨rfl, hBd⟩
        go_wp2_with fail
        go_ret
        exact ⟨rfl, bthen hWc hBd⟩
end Go.Proofs.Ytdglkjpdhnnpnaa
