/-
  revetmentlaw03.fair.
-/
import Derived.Test.YthieeidbfdhaaaaDSteps
import Derived.Test.YthieeidbfdhaaaaWakes03
namespace Go.Proofs.Ythieeidbfdhaaaa
open Go Go.RowKit

/-- The picks are not too long. -/
def fairP (l : List DStep) : Bool := l.all fun x => decide (x.pick.length ≤ 300)
def fairB (l : List DStep) : Bool := fairP l && decide (l.length ≤ 200)
theorem fairP_snoc {l : List DStep} {k : Nat} (h : k < l.length) (h1 : fairP (l.take k) = true) (h2 : l[k].pick.length ≤ 300) : fairP (l.take (k + 1)) = true := by
  unfold fairP at *
  rw [List.take_succ_eq_append_getElem h, List.all_append, h1]
  simp [h2]
theorem fairP_no {l : List DStep} {k : Nat} (h : k < l.length) (h2 : ¬ l[k].pick.length ≤ 300) : fairB l = false := by
  have : fairP l = false := by
    unfold fairP
    rw [List.all_eq_false]
    exact ⟨_, List.getElem_mem h, by simpa using h2⟩
  unfold fairB
  rw [this]
  rfl
theorem fairB_pick {l : List DStep} (h : fairB l = true) : ∀ x ∈ l, x.pick.length ≤ 300 := by
  intro x hx
  unfold fairB fairP at h
  rw [Bool.and_eq_true, List.all_eq_true] at h
  simpa using h.1 x hx
theorem fairB_len {l : List DStep} (h : fairB l = true) : l.length ≤ 200 := by
  unfold fairB at h
  rw [Bool.and_eq_true] at h
  simpa using h.2

theorem fair_calls (A : Option Addr) (c : Nat) (l : List DStep) (w : World) (B : Nat) (h : DStepsAt w B A l) (hl : l.length ≤ 9223372036854775807) :
    Calls Try.prog 14 #[.slice A l.length c] w fun e w' => e = .returned (.bool (fairB l)) ∧ w = w' := by
  go_enter Try.func14, Try.ntmps14
  go_wp2_with fail
  go_loop [3] (fun i => ∃ k : Nat, k ≤ l.length ∧ i = .int .i64 (k : Int) ∧ Hid (fairP (l.take k) = true)) (fun i => l.length - (intOf i).toNat)
  case atStart => exact ⟨0, Nat.zero_le _, rfl, Lib.hid rfl⟩
  case round =>
    obtain ⟨k, hk, rfl, hpre⟩ := hrel
    by_cases hlt : k < l.length
    · obtain ⟨b, o, rfl, hb, hc⟩ := h.1.resolve_left (fun e => by rw [e] at hlt; simp at hlt)
      have h1 := hc k hlt 3 _ rfl
      have hm : l[k].pick.length ≤ 9223372036854775807 := by
        have h1 := (h.2 l[k] (List.getElem_mem hlt)).len
        have h2 := (h.2 l[k] (List.getElem_mem hlt)).most
        unfold maxLen at h2
        omega
      have hsn := Lib.hid (fairP_snoc hlt hpre.out)
      have hno := Lib.hid (fairP_no hlt)
      have hk0 : (0 : Int) ≤ (k : Int) := by omega
      have hk1 : (k : Int) < (l.length : Int) := by omega
      have hd1 : decide (k < l.length) = true := decide_eq_true hlt
      clear hc h
      generalize l[k] = x at *
      by_cases he : x.pick.length ≤ 300
      · have hd2 : decide (300 < (x.pick.length : Int)) = false := by simp; omega
        have hr := Lib.hid (hsn.out he)
        clear hsn hno
        go_wp2_with fail
        go_round
        case rel => exact ⟨k + 1, by omega, by go_num, hr⟩
        case measure => simp [intOf]; omega
      · have hd2 : decide (300 < (x.pick.length : Int)) = true := by simp; omega
        have hr := Lib.hid (hno.out he)
        clear hsn hno
        go_wp2_with fail
        go_ret
        exact ⟨ret_bool hr.out.symm, rfl⟩
    · obtain rfl : k = l.length := by omega
      have hp : fairB l = decide (l.length ≤ 200) := by
        have := hpre.out
        rw [List.take_length] at this
        unfold fairB
        rw [this]
        rfl
      replace hp := Lib.hid hp
      go_wp2_with fail
      go_ret
      refine ⟨ret_bool ?_, rfl⟩
      rw [hp.out]
      by_cases hh : l.length ≤ 200
      · rw [decide_eq_true hh, decide_eq_true (by omega)]
      · rw [decide_eq_false hh, decide_eq_false (by omega)]
end Go.Proofs.Ythieeidbfdhaaaa
