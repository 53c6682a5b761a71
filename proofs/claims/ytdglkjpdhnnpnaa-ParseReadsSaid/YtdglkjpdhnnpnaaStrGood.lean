/-
  Package stream: which streams may be.
-/
import Derived.Test.YtdglkjpdhnnpnaaStrMem
namespace Go.Proofs.Ytdglkjpdhnnpnaa
open Go Go.RowKit

theorem behind_calls (r p : Rec) (w : World) (h1 : 0 ≤ p.fr) (h2 : p.fr ≤ 1000000) (h3 : 0 ≤ p.ct) (h4 : p.ct ≤ 1000000) :
    Calls Try.prog 54 #[.agg r.val.toArray, .agg p.val.toArray] w fun e w' => e = .returned (.bool (behindB r p)) ∧ Below w.heap.size w w' := by
  have hB := balloc (balloc (brefl w) (.cells r.val.toArray 39)) (.cells p.val.toArray 39)
  unfold Rec.val at *
  by_cases ha : p.fr + p.ct < r.fr
  · have hr : behindB r p = true := by unfold behindB; rw [decide_eq_true ha]; rfl
    have hd : decide (p.fr + p.ct < r.fr) = true := decide_eq_true ha
    replace hr := Lib.hid hr
    go_enter Try.func54, Try.ntmps54
    go_wp2_with fail
    go_ret
    exact ⟨ret_bool (by rw [hr.out]), hB⟩
  · have hd : decide (p.fr + p.ct < r.fr) = false := decide_eq_false ha
    by_cases hb : r.fr = p.fr + p.ct
    · have he : (r.fr == p.fr + p.ct) = true := by rw [hb, beq_self_eq_true]
      have hr : behindB r p = (r.zs != p.zs) := by unfold behindB; rw [hd, he]; simp
      replace hr := Lib.hid hr
      clear hb ha
      obtain ⟨rf, rc, rz, rA, rcap, rd⟩ := r
      obtain ⟨pf, pc, pz, pA, pcap, pd⟩ := p
      simp only at *
      cases rz <;> cases pz
      all_goals
        go_enter Try.func54, Try.ntmps54
        go_wp2_with fail
        go_ret
        exact ⟨ret_bool (by rw [hr.out]; rfl), hB⟩
    · have he : (r.fr == p.fr + p.ct) = false := beq_eq_false_iff_ne.2 hb
      have hr : behindB r p = false := by unfold behindB; rw [hd, he]; rfl
      replace hr := Lib.hid hr
      go_enter Try.func54, Try.ntmps54
      go_wp2_with fail
      go_ret
      exact ⟨ret_bool (by rw [hr.out]), hB⟩
end Go.Proofs.Ytdglkjpdhnnpnaa
