/-
  le.Get and the reference's Put and Get.
-/
import Derived.Test.YtdglkjpdhnnpnaaLePut
import Derived.WalkLawsBesides
namespace Go.Proofs.Ytdglkjpdhnnpnaa
open Go Go.RowKit Go.Shelf

attribute [local go_sem] wrap_u64_u8

set_option maxHeartbeats 1000000 in
theorem get_calls (A : Option Addr) (cap : Nat) (bs : List UInt8) (hl : bs.length ≤ cap) (w : World) (B : Nat) (hb : BytesAt w B A bs) :
    Calls Try.prog 66 #[.slice A bs.length cap] w fun e w' => e = .returned (B64 (getN bs)) ∧ w = w' := by
  have h0 : (0 : Int) ≤ (bs.length : Int) := by omega
  have hlc : (bs.length : Int) ≤ (cap : Int) := by omega
  have hthree : bs.length < 8 ∨ (bs.length ≤ 8 ∧ 8 ≤ bs.length) ∨ 8 < bs.length := by omega
  rcases hthree with h8 | ⟨h8, h8'⟩ | h8
  all_goals
    go_enter Try.func66, Try.ntmps66
    go_wp2
    go_loop [3, 12] (fun t i => ∃ k : Nat, k ≤ bs.length ∧ k ≤ 8 ∧ i = .int .i64 k ∧ t = .int .u64 ((leVal (bs.take k) : Nat) : Int)) (fun _ i => 8 - (intOf i).toNat)
    case atStart => exact ⟨0, Nat.zero_le _, Nat.zero_le _, rfl, rfl⟩
    case round =>
      obtain ⟨k, hk, hk8, rfl, rfl⟩ := hrel
      by_cases hlt : k < bs.length ∧ k < 8
      · obtain ⟨hlt, hlt8⟩ := hlt
        rcases hb with rfl | ⟨b, off, rfl, _, hc⟩
        · simp at hlt
        have hcx := hc k hlt
        clear hc
        have HS := Lib.hid (leVal_step hlt)
        have HT := Lib.hid (leVal_take_pow bs hlt)
        generalize bs[k]?.getD 0 = x at hcx HS
        generalize leVal (bs.take k) = v at *
        go_wp2
        go_round
        case rel => exact ⟨k + 1, by omega, by omega, by go_num, by rw [HS.out, or_shl x hlt8 HT.out]⟩
        case measure => simp [intOf]; omega
      · have HV : Hid (leVal (bs.take k) = (getN bs).toNat) := by
          show leVal (bs.take k) = (getN bs).toNat
          rw [getN_nat]
          by_cases hk2 : k = 8
          · rw [hk2]
          · rw [List.take_of_length_le (show bs.length ≤ k by omega), List.take_of_length_le (show bs.length ≤ 8 by omega)]
        generalize leVal (bs.take k) = v at *
        have hge : 8 ≤ k ∨ bs.length ≤ k := by omega
        rcases hge with hge | hge
        all_goals first
          | (exfalso; omega)
          | (go_wp2
             go_ret
             exact ⟨by rw [HV.out]; rfl, rfl⟩)

set_option maxHeartbeats 1000000 in
theorem rget_calls (A : Option Addr) (cap : Nat) (bs : List UInt8) (hm : bs.length ≤ maxLen) (w : World) (B : Nat) (hb : BytesAt w B A bs) :
    Calls Try.prog 45 #[.slice A bs.length cap] w fun e w' => e = .returned (B64 (getN bs)) ∧ w = w' := by
  unfold maxLen at hm
  go_enter Try.func45, Try.ntmps45
  go_wp2
  go_loop [3, 4] (fun t i => ∃ k : Nat, k ≤ bs.length ∧ k ≤ 8 ∧ i = .int .i64 k ∧ t = .int .u64 ((leVal (bs.take k) : Nat) : Int)) (fun _ i => 8 - (intOf i).toNat)
  case atStart => exact ⟨0, Nat.zero_le _, Nat.zero_le _, rfl, rfl⟩
  case round =>
    obtain ⟨k, hk, hk8, rfl, rfl⟩ := hrel
    by_cases hlt : k < bs.length ∧ k < 8
    · obtain ⟨hlt, hlt8⟩ := hlt
      have hd1 : decide ((k : Int) < (bs.length : Int)) = true := decide_eq_true (by omega)
      have hd2 : decide ((k : Int) < 8) = true := decide_eq_true (by omega)
      rcases hb with rfl | ⟨b, off, rfl, _, hc⟩
      · simp at hlt
      have hcx := hc k hlt
      clear hc
      have HS := Lib.hid (leVal_step hlt)
      have HT := Lib.hid (leVal_take_pow bs hlt)
      generalize bs[k]?.getD 0 = x at hcx HS
      generalize leVal (bs.take k) = v at *
      go_wp2
      go_round
      case rel => exact ⟨k + 1, by omega, by omega, by go_num, by rw [HS.out, add_shl x hlt8 HT.out]⟩
      case measure => simp [intOf]; omega
    · have HV : Hid (leVal (bs.take k) = (getN bs).toNat) := by
        show leVal (bs.take k) = (getN bs).toNat
        rw [getN_nat]
        by_cases hk2 : k = 8
        · rw [hk2]
        · rw [List.take_of_length_le (show bs.length ≤ k by omega), List.take_of_length_le (show bs.length ≤ 8 by omega)]
      generalize leVal (bs.take k) = v at *
      by_cases hge : k < bs.length
      · have hd1 : decide ((k : Int) < (bs.length : Int)) = true := decide_eq_true (by omega)
        have hd2 : decide ((k : Int) < 8) = false := decide_eq_false (by omega)
        go_wp2
        go_ret
        exact ⟨by rw [HV.out]; rfl, rfl⟩
      · have hd1 : decide ((k : Int) < (bs.length : Int)) = false := decide_eq_false (by omega)
        go_wp2
        go_ret
        exact ⟨by rw [HV.out]; rfl, rfl⟩

theorem rget_calls_n (A : Option Addr) (cap n : Nat) (bs : List UInt8) (hn : bs.length = n) (hm : n ≤ maxLen) (w : World) (B : Nat) (hb : BytesAt w B A bs) :
    Calls Try.prog 45 #[.slice A n cap] w fun e w' => e = .returned (B64 (getN bs)) ∧ w = w' := by
  subst hn
  exact rget_calls A cap bs hm w B hb

theorem rput_none (n : UInt64) (size : Int) (h : size < 1 ∨ 16 < size) (w : World) :
    Calls Try.prog 27 #[B64 n, .int .i64 size] w fun e w' => e = .returned (.slice none 0 0) ∧ Below w.heap.size w w' := by
  rcases h with h | h
  · have hd1 : decide (size < 1) = true := decide_eq_true h
    go_enter Try.func27, Try.ntmps27
    go_wp2
    go_ret
    exact ⟨rfl, brefl w⟩
  · have hd1 : decide (size < 1) = false := decide_eq_false (by omega)
    have hd2 : decide (16 < size) = true := decide_eq_true h
    go_enter Try.func27, Try.ntmps27
    go_wp2
    go_ret
    exact ⟨rfl, brefl w⟩

set_option maxHeartbeats 1000000 in
theorem rput_some (n : UInt64) (size : Nat) (h1 : 1 ≤ size) (h2 : size ≤ 16) (w : World) :
    Calls Try.prog 27 #[B64 n, .int .i64 (size : Int)] w fun e w' => (∃ A c, e = .returned (.slice A (bytesN n size).length c) ∧ OwnB w' w.heap.size 5 A c (bytesN n size)) ∧ Below w.heap.size w w' := by
  have hd1 : decide ((size : Int) < 1) = false := decide_eq_false (by omega)
  have hd2 : decide ((16 : Int) < (size : Int)) = false := decide_eq_false (by omega)
  go_enter Try.func27, Try.ntmps27
  go_wp2_with (at_make; refine wpList_make_bytes (brefl w) rfl _ _ 25 rfl Try.underlying25 Try.info_byte .i64 .i64 size rfl rfl (by omega) ?_)
  intro bs w1 hbs hbl hown1 hB1
  have hg0 : w.heap.size ≤ w.heap.size := Nat.le_refl _
  go_wp2
  go_loopw [6] (fun i wr => ∃ (k : Nat) (bs : List UInt8), k ≤ size ∧ k ≤ 8 ∧ i = .int .i64 k ∧ Hid (bs = putAt n size k) ∧ Hid (bs.length = size) ∧ OwnB wr w.heap.size 5 (some ⟨w.heap.size, 0, none⟩) size bs ∧ Below w.heap.size w wr) (fun i _ => 8 - (intOf i).toNat)
  case atStart => exact ⟨0, bs, Nat.zero_le _, Nat.zero_le _, rfl, by rw [putAt_zero]; exact hbs, hbl, hown1, hB1⟩
  case round =>
    obtain ⟨k, cs, hk, hk8, rfl, hcs, hcl, hown, hB⟩ := hrel
    by_cases hlt : k < size ∧ k < 8
    · obtain ⟨hlt, hlt8⟩ := hlt
      have hd3 : decide ((k : Int) < (size : Int)) = true := decide_eq_true (by omega)
      have hd4 : decide ((k : Int) < 8) = true := decide_eq_true (by omega)
      obtain ⟨g, hg, _, hg1, hgc, hgf⟩ := hown.form (by rw [hcl.out]; omega)
      obtain rfl : g = w.heap.size := by injection hg with hg; injection hg with hg; exact hg.symm
      have hck := hgc k (by rw [hcl.out]; exact hlt)
      have hfk := hgf k
      generalize cs[k]?.getD 0 = x at hck
      clear hgc hgf hg
      go_wp2
      go_roundw
      case rel =>
        rw [shr_byte]
        refine ⟨k + 1, cs.set k (shiftN n k).toUInt8, by omega, by omega, by go_num, ?_, ?_, hown.set k _ (by rw [hcl.out]; exact hlt), hB.setCell (p := ⟨w.heap.size, k, none⟩) (Nat.le_refl _) _⟩
        · show cs.set k (shiftN n k).toUInt8 = putAt n size (k + 1)
          rw [← putAt_step n hlt, ← hcs.out]
        · show (cs.set k (shiftN n k).toUInt8).length = size
          rw [List.length_set, hcl.out]
      case measure => simp [intOf]; omega
    · have hend : cs = bytesN n size := by
        rw [hcs.out]
        exact putAt_done n size k (by omega)
      have HE := Lib.hid hend
      clear hend hcs
      by_cases hge : k < size
      · have hd3 : decide ((k : Int) < (size : Int)) = true := decide_eq_true (by omega)
        have hd4 : decide ((k : Int) < 8) = false := decide_eq_false (by omega)
        clear hlt
        go_wp2
        go_ret
        exact ⟨⟨_, _, by rw [← HE.out, hcl.out]; rfl, by rw [← HE.out]; exact hown⟩, hB⟩
      · have hd3 : decide ((k : Int) < (size : Int)) = false := decide_eq_false (by omega)
        clear hlt
        go_wp2
        go_ret
        exact ⟨⟨_, _, by rw [← HE.out, hcl.out]; rfl, by rw [← HE.out]; exact hown⟩, hB⟩

/-- The reference's Put, whatever the size. -/
theorem rput_calls (n : UInt64) (size : Int) (w : World) :
    Calls Try.prog 27 #[B64 n, .int .i64 size] w fun e w' => (∃ A c, e = .returned (.slice A (putN n size).length c) ∧ OwnB w' w.heap.size 5 A c (putN n size)) ∧ Below w.heap.size w w' := by
  by_cases h : size < 1 ∨ 16 < size
  · have e0 : putN n size = [] := if_pos h
    rw [e0]
    exact (rput_none n size h w).mono fun e w' ⟨he, hB⟩ => ⟨⟨none, 0, he, OwnB.nil _ _ _⟩, hB⟩
  · have e0 : putN n size = bytesN n size.toNat := if_neg h
    rw [e0]
    have h1 : size = (size.toNat : Int) := by omega
    rw [h1]
    exact rput_some n size.toNat (by omega) (by omega) w

end Go.Proofs.Ytdglkjpdhnnpnaa
