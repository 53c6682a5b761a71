/-
  Which streams may be: stream.Good; the reference's Head.
-/
import Derived.Test.YtdglkjpdhnnpnaaStrRecs
namespace Go.Proofs.Ytdglkjpdhnnpnaa
open Go Go.RowKit

/-- What is wrong with a head. -/
theorem headB_no {s : Str} (h : headB s = false) : s.blocks < 1 ∨ (1 ≤ s.blocks ∧ 64 < s.blocks) ∨ (1 ≤ s.blocks ∧ s.blocks ≤ 64 ∧ s.id < 1) ∨ (1 ≤ s.blocks ∧ s.blocks ≤ 64 ∧ 1 ≤ s.id ∧ 1000000 < s.id) ∨
    (1 ≤ s.blocks ∧ s.blocks ≤ 64 ∧ 1 ≤ s.id ∧ s.id ≤ 1000000 ∧ s.base ≠ -1 ∧ s.base < 1) ∨ (1 ≤ s.blocks ∧ s.blocks ≤ 64 ∧ 1 ≤ s.id ∧ s.id ≤ 1000000 ∧ s.base ≠ -1 ∧ 1 ≤ s.base ∧ s.id ≤ s.base) := by
  unfold headB at h
  by_cases h1 : 1 ≤ s.blocks
  · by_cases h2 : s.blocks ≤ 64
    · by_cases h3 : 1 ≤ s.id
      · by_cases h4 : s.id ≤ 1000000
        · rw [decide_eq_true h1, decide_eq_true h2, decide_eq_true h3, decide_eq_true h4, Bool.true_and, Bool.true_and, Bool.true_and, Bool.true_and, Bool.or_eq_false_iff, beq_eq_false_iff_ne] at h
          obtain ⟨h5, h6⟩ := h
          by_cases h7 : 1 ≤ s.base
          · rw [decide_eq_true h7, Bool.true_and, decide_eq_false_iff_not] at h6
            omega
          · omega
        · omega
      · omega
    · omega
  · omega
theorem headB_yes {s : Str} (h : headB s = true) : 1 ≤ s.blocks ∧ s.blocks ≤ 64 ∧ 1 ≤ s.id ∧ s.id ≤ 1000000 ∧ (s.base = -1 ∨ (s.base ≠ -1 ∧ 1 ≤ s.base ∧ s.base < s.id)) := by
  unfold headB at h
  simp only [Bool.and_eq_true, decide_eq_true_eq, Bool.or_eq_true, beq_iff_eq] at h
  omega

set_option maxHeartbeats 2000000 in
theorem good_calls (s : Str) (w : World) (hok : s.Ok w w.heap.size) :
    Calls Try.prog 16 #[.agg s.val.toArray] w fun e w' => e = .returned (.bool (goodB s)) ∧ Below w.heap.size w w' := by
  have hB0 := balloc (brefl w) (.cells s.val.toArray 24)
  have hok1 := hok.step hB0
  cases hh : headB s
  · have hres : goodB s = false := by
      unfold goodB
      rw [hh]
      rfl
    replace hres := Lib.hid hres
    have hno := headB_no hh
    clear hh hok hok1
    obtain ⟨sb, sa, si, sA, scap, sr⟩ := s
    simp only [Str.val] at *
    rcases hno with h | ⟨h, h'⟩ | ⟨h, h', h2⟩ | ⟨h, h', h2, h3⟩ | ⟨h, h', h2, h3, h4, h5⟩ | ⟨h, h', h2, h3, h4, h5, h6⟩
    all_goals
      (try have hd : (sa != -1) = true := by simpa using h4)
      (try clear h4)
      go_enter Try.func16, Try.ntmps16
      go_wp2_with fail
      go_ret
      exact ⟨ret_bool hres.out.symm, hB0⟩
  · have hres : goodB s = recsB s.blocks s.base none s.recs := by
      unfold goodB
      rw [hh]
      rfl
    replace hres := Lib.hid hres
    obtain ⟨h1, h2, h3, h4, h5⟩ := headB_yes hh
    have hrc := recs_calls s _ hok1 h1 h2
    clear hh hok hok1
    obtain ⟨sb, sa, si, sA, scap, sr⟩ := s
    simp only [Str.val] at *
    replace hrc := Lib.hid hrc
    rcases h5 with h5 | ⟨h5, h6, h7⟩
    · have hd : (sa != -1) = false := by rw [h5]; rfl
      replace h5 := Lib.hid h5
      go_enter Try.func16, Try.ntmps16
      go_wp2_with fail
      refine hrc.out.mono ?_
      rintro e w2 ⟨rfl, hB2⟩
      go_wp2_with fail
      go_ret
      exact ⟨ret_bool hres.out.symm, bthen hB0 hB2⟩
    · have hd : (sa != -1) = true := by simpa using h5
      clear h5
      go_enter Try.func16, Try.ntmps16
      go_wp2_with fail
      refine hrc.out.mono ?_
      rintro e w2 ⟨rfl, hB2⟩
      go_wp2_with fail
      go_ret
      exact ⟨ret_bool hres.out.symm, bthen hB0 hB2⟩

set_option maxHeartbeats 2000000 in
theorem rhead_calls (s : Str) (w : World) :
    Calls Try.prog 35 #[.agg s.val.toArray] w fun e w' => e = .returned (.bool (headB s)) ∧ Below w.heap.size w w' := by
  have hB0 := balloc (brefl w) (.cells s.val.toArray 24)
  cases hh : headB s
  · have hres := Lib.hid hh
    have hno := headB_no hh
    clear hh
    obtain ⟨sb, sa, si, sA, scap, sr⟩ := s
    simp only [Str.val] at *
    rcases hno with h | ⟨h, h'⟩ | ⟨h, h', h2⟩ | ⟨h, h', h2, h3⟩ | ⟨h, h', h2, h3, h4, h5⟩ | ⟨h, h', h2, h3, h4, h5, h6⟩
    all_goals
      (try have hd : (sa == -1) = false := by simpa using h4)
      (try clear h4)
      go_enter Try.func35, Try.ntmps35
      go_wp2_with fail
      go_ret
      exact ⟨ret_bool (by first | rfl | exact decide_eq_false (by omega) | exact decide_eq_true (by omega)), hB0⟩
  · obtain ⟨h1, h2, h3, h4, h5⟩ := headB_yes hh
    clear hh
    obtain ⟨sb, sa, si, sA, scap, sr⟩ := s
    simp only [Str.val] at *
    rcases h5 with h5 | ⟨h5, h6, h7⟩
    · have hd : (sa == -1) = true := by rw [h5]; rfl
      replace h5 := Lib.hid h5
      go_enter Try.func35, Try.ntmps35
      go_wp2_with fail
      go_ret
      exact ⟨ret_bool (by first | rfl | exact decide_eq_false (by omega) | exact decide_eq_true (by omega)), hB0⟩
    · have hd : (sa == -1) = false := by simpa using h5
      clear h5
      go_enter Try.func35, Try.ntmps35
      go_wp2_with fail
      go_ret
      exact ⟨ret_bool (by first | rfl | exact decide_eq_false (by omega) | exact decide_eq_true (by omega)), hB0⟩
end Go.Proofs.Ytdglkjpdhnnpnaa
