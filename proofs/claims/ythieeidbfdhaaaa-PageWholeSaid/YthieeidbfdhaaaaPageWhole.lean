/-
  PageWhole returns true, whatever the bytes, and writes nothing that was there.
-/
import Derived.Test.YthieeidbfdhaaaaWakes05
import Derived.BigCall
import Derived.BigGuard
namespace Go.Proofs.Ythieeidbfdhaaaa
open Go Go.RowKit Go.Shelf

set_option maxHeartbeats 1000000 in
theorem pageWhole_walk (A : Option Addr) (cap : Nat) (bs : List UInt8) (w : World) (hl : bs.length ≤ cap) (_hm : cap ≤ maxLen) (hb : BytesAt w w.heap.size A bs) :
    Calls Try.prog 11 #[.slice A bs.length cap] w fun e w' => e = .returned (.bool true) ∧ Below w.heap.size w w' := by
  by_cases hbig : 5000 < bs.length
  · have hd : decide ((5000 : Int) < (bs.length : Int)) = true := decide_eq_true (by omega)
    go_enter Try.func11, Try.ntmps11
    go_wp2_with (go_at_call 38; refine (wakes05_calls _).mono ?_; rintro e w1 ⟨rfl, hB1⟩)
    go_ret
    exact ⟨rfl, hB1⟩
  · have hd : decide ((5000 : Int) < (bs.length : Int)) = false := decide_eq_false (by omega)
    have hl5 : bs.length ≤ 5000 := by omega
    have hl5' : (bs.length : Int) ≤ 5000 := by omega
    have hl0 : (0 : Int) ≤ (bs.length : Int) := by omega
    go_enter Try.func11, Try.ntmps11
    go_wp2_with fail
    refine (cut_calls A cap bs hl (by omega) _ hb).mono ?_
    rintro e w1 ⟨⟨zs, A2, c2, rfl, hzs, hown⟩, hB1⟩
    have hzl : zs.length = cutLen bs.length := by rw [hzs, cutN_length]
    have hat : ∀ i, i < 48 * cutLen bs.length → zs.flatten[i]? = some (bs[i]?.getD 0) := fun i hi => by rw [hzs]; exact cutN_at bs i hi
    obtain ⟨L, hL⟩ : ∃ L, L = cutLen bs.length := ⟨_, rfl⟩
    rw [← hL] at hzl hat
    have hLv : ((bs.length : Int) + 48 - 1) / 48 = (L : Int) := by rw [hL]; unfold cutLen; omega
    have hLb : L ≤ 200 := by rw [hL]; unfold cutLen; omega
    have hLb' : (L : Int) ≤ 200 := by omega
    have hL0 : (0 : Int) ≤ (L : Int) := by omega
    have Hat := Lib.hid hat
    have hb1 := hb.below hB1
    rw [hzl]
    have hcell : ∀ k, k < 48 * L → ∃ g, A2 = some ⟨g, 0, none⟩ ∧ w1.cell? ⟨g, k, none⟩ = some (B8 (bs[k]?.getD 0)) := by
      intro k hk
      obtain ⟨g, hA, _, _, hc⟩ := hown.cell (by omega)
      refine ⟨g, hA, ?_⟩
      rcases hc k with h | h
      · rw [h, List.getElem?_map, hat k hk]; rfl
      · rw [hzl] at h; omega
    have Hcell := Lib.hid hcell
    clear hat hzs hL hown hcell hzl
    have hle : decide ((L : Int) = (L : Int)) = true := decide_eq_true rfl
    go_wp2_with fail
    go_loop [4] (fun i => ∃ k : Nat, k ≤ 48 * L ∧ i = .int .i64 (k : Int)) (fun i => 48 * L - (intOf i).toNat)
    case atStart => exact ⟨0, Nat.zero_le _, rfl⟩
    case round =>
      obtain ⟨k, hk, rfl⟩ := hrel
      by_cases hlt : k < 48 * L
      · have hd1 : decide ((k : Int) < (L : Int) * 48) = true := decide_eq_true (by omega)
        obtain ⟨g, rfl, hc⟩ := Hcell.out k hlt
        obtain ⟨q, hq⟩ : ∃ q, q = k / 48 := ⟨_, rfl⟩
        obtain ⟨r, hr⟩ : ∃ r, r = k % 48 := ⟨_, rfl⟩
        have hq1 : (k : Int) / 48 = (q : Int) := by omega
        have hr1 : (k : Int) % 48 = (r : Int) := by omega
        have hq2 : (q : Int) < (L : Int) := by omega
        have hr2 : (r : Int) < 48 := by omega
        have hq0 : (0 : Int) ≤ (q : Int) := by omega
        have hr0 : (0 : Int) ≤ (r : Int) := by omega
        have hk0 : (0 : Int) ≤ (k : Int) := by omega
        have hk1 : (k : Int) ≤ 10000 := by omega
        have hkq : k = q * 48 + r := by omega
        have hc' : w1.cell? ⟨g, q * 48 + r, none⟩ = some (B8 (bs[k]?.getD 0)) := by rw [← hkq]; exact hc
        clear hc hq hr hkq
        by_cases hin : k < bs.length
        · have hd2 : decide ((k : Int) < (bs.length : Int)) = true := decide_eq_true (by omega)
          rcases hb1 with h | ⟨b, off, rfl, _, hcb⟩
          · rw [h] at hin; cases hin
          · have hcb' := hcb k hin
            clear hcb
            generalize bs[k]?.getD 0 = x at hc' hcb'
            go_wp2_with fail
            go_round
            case rel => exact ⟨k + 1, by omega, by go_num⟩
            case measure => simp [intOf]; omega
        · have hd2 : decide ((k : Int) < (bs.length : Int)) = false := decide_eq_false (by omega)
          rw [List.getElem?_eq_none (by omega)] at hc'
          simp only [Option.getD_none] at hc'
          go_wp2_with fail
          go_round
          case rel => exact ⟨k + 1, by omega, by go_num⟩
          case measure => simp [intOf]; omega
      · obtain rfl : k = 48 * L := by omega
        have hd1 : decide (((48 * L : Nat) : Int) < (L : Int) * 48) = false := decide_eq_false (by omega)
        go_wp2_with fail
        refine (wakes05_calls _).mono ?_
        rintro e w9 ⟨rfl, hB9⟩
        go_wp2_with fail
        go_ret
        exact ⟨rfl, bthen hB1 hB9⟩
end Go.Proofs.Ythieeidbfdhaaaa
