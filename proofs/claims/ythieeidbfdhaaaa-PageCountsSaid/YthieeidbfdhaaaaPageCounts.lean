/-
  PageCounts, PageWhole and PageCuts return true, whatever their inputs, and write nothing that was there.
-/
import Derived.Test.YthieeidbfdhaaaaWakes05
import Derived.BigCall
import Derived.BigGuard
import Derived.Deep.QuietTactic
import Derived.BigQuiet
namespace Go.Proofs.Ythieeidbfdhaaaa
open Go Go.RowKit Go.Shelf

theorem countN_neg (k : Nat) : countN (-(k : Int)) = 0 := by unfold countN; rw [if_pos (by omega)]
theorem cutLen_facts (k : Nat) : (k = 0 ∧ cutLen k = 0 ∧ cutLen (k + 1) = 1) ∨ (0 < k ∧ 1 ≤ cutLen k ∧ (cutLen k - 1) * 48 < k ∧ k ≤ cutLen k * 48 ∧ ((k % 48 = 0 ∧ cutLen (k + 1) = cutLen k + 1) ∨ (k % 48 ≠ 0 ∧ cutLen (k + 1) = cutLen k))) := by
  unfold cutLen
  omega

set_option maxRecDepth 100000 in
set_option maxHeartbeats 1000000 in
theorem pageCounts_walk (n : UInt16) (w : World) :
    Calls Try.prog 13 #[.int .u16 (n.toNat : Int)] w fun e w' => e = .returned (.bool true) ∧ Below w.heap.size w w' := by
  have hn := n.toNat_lt
  obtain ⟨k, hk⟩ : ∃ k, k = n.toNat % 3000 := ⟨_, rfl⟩
  have hk3 : k < 3000 := by omega
  have hki : ((n.toNat : Int) % 3000) = (k : Int) := by omega
  have hw : IntKind.i64.wrap (n.toNat : Int) = (n.toNat : Int) := by rw [IntKind.wrap_i64]; omega
  have hc0 : countN (k : Int) = (cutLen k : Int) := countN_len k
  have hc1 : countN ((k : Int) + 1) = (cutLen (k + 1) : Int) := by rw [← countN_len]; congr 1
  have hcl := cutLen_facts k
  have hm := countN_neg k
  have Hc0 := Lib.hid hc0
  have Hc1 := Lib.hid hc1
  have Hm := Lib.hid hm
  have h0 : (0 : Int) ≤ (n.toNat : Int) := by omega
  have h1 : (n.toNat : Int) ≤ 65535 := by omega
  clear hk hc0 hc1 hm hn
  go_enter Try.func13, Try.ntmps13
  go_wp2_with fail
  refine (count_calls (k : Int) (by omega) (by omega) _).mono ?_
  rintro e w' ⟨rfl, rfl⟩
  rw [Hc0.out, hki]
  clear hki hw
  go_wp2_with fail
  refine (count_calls ((k : Int) + 1) (by omega) (by omega) _).mono ?_
  rintro e w' ⟨rfl, rfl⟩
  rw [Hc1.out]
  go_wp2_with (first
    | (refine wpList_make_bytes_b (brefl w) rfl (.tmp 14) (.tmp 14) 32 rfl Try.underlying32 Try.info_byte .i64 .i64 k rfl rfl (by omega) ?_
       intro bs w1 hbs hbl hown1 hB1 hB1'))
  have hcut : Hid ((cutN bs).length = cutLen k) := Lib.hid (by rw [cutN_length, hbl.out])
  have hb1 := hown1.bytes
  refine (cut_n _ k k bs hbl.out (by omega) (by omega) _ hb1).mono ?_
  rintro e w2 ⟨⟨zs, A2, c2, rfl, hzs, _⟩, hB2⟩
  rw [hzs, hcut.out]
  clear hzs hcut hbs hbl hown1 hB1' hb1
  have hB12 := bthen hB1 hB2
  have hck : cutLen k ≤ 3000 := by unfold cutLen; omega
  have hck1 : cutLen (k + 1) ≤ 3000 := by unfold cutLen; omega
  generalize cutLen k = a at *
  generalize cutLen (k + 1) = b at *
  rcases hcl with ⟨hk0, ha, hb⟩ | ⟨hk0, ha, hlt, hle, hm⟩
  · subst hk0 ha hb
    go_wp2_with fail
    refine (count_calls 0 (by omega) (by omega) _).mono ?_
    rintro e w' ⟨rfl, rfl⟩
    rw [show countN 0 = 0 from rfl]
    go_wp2_with fail
    refine (wakes05_calls _).mono ?_
    rintro e w9 ⟨rfl, hB9⟩
    go_wp2_with fail
    go_ret
    exact ⟨rfl, bthen hB12 hB9⟩
  · have e1 : ((a : Int) == 0) = false := by simp; omega
    have e2 : decide ((k : Int) ≤ (a : Int) * 48) = true := decide_eq_true (by omega)
    have e3 : decide (((a : Int) - 1) * 48 < (k : Int)) = true := decide_eq_true (by omega)
    have b1 : (0 : Int) ≤ (a : Int) := by omega
    have b2 : (a : Int) ≤ 3000 := by omega
    have b3 : (1 : Int) ≤ (a : Int) := by omega
    rcases hm with ⟨hm, hb⟩ | ⟨hm, hb⟩
    · subst hb
      have e4 : (((a + 1 : Nat) : Int) == (a : Int)) = false := by simp; omega
      have e5 : (((a + 1 : Nat) : Int) == (a : Int) + 1) = true := by simp
      have e6 : ((k : Int) % 48 == 0) = true := by simp; omega
      clear hlt hle hm
      go_wp2_with fail
      refine (count_calls (-(k : Int)) (by omega) (by omega) _).mono ?_
      rintro e w' ⟨rfl, rfl⟩
      rw [Hm.out]
      go_wp2_with fail
      refine (wakes05_calls _).mono ?_
      rintro e w9 ⟨rfl, hB9⟩
      go_wp2_with fail
      go_ret
      exact ⟨rfl, bthen hB12 hB9⟩
    · subst hb
      clear hlt hle hm
      go_wp2_with fail
      refine (count_calls (-(k : Int)) (by omega) (by omega) _).mono ?_
      rintro e w' ⟨rfl, rfl⟩
      rw [Hm.out]
      go_wp2_with fail
      refine (wakes05_calls _).mono ?_
      rintro e w9 ⟨rfl, hB9⟩
      go_wp2_with fail
      go_ret
      exact ⟨rfl, bthen hB12 hB9⟩
end Go.Proofs.Ythieeidbfdhaaaa
