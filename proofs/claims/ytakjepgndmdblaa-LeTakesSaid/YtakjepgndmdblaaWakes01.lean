/-
  revetmentlaw01.wakes returns true.
-/
import Derived.Test.YtakjepgndmdblaaLeReader
namespace Go.Proofs.Ytakjepgndmdblaa
open Go Go.RowKit Go.Shelf

set_option maxHeartbeats 1000000 in
theorem wakes01_calls (w : World) :
    Calls Try.prog 19 #[] w fun e w' => e = .returned (.bool true) ∧ Below w.heap.size w w' := by
  go_enter Try.func19, Try.ntmps19
  go_wp2_with fail
  refine (newReader_calls _ 4 [2, 1, 9, 9] (by simp) _ (by exact lit_bytes _ _ _ _ _ rfl)).mono ?_
  rintro e w1 ⟨⟨R, rfl, hR, hr1⟩, hB1⟩
  have hB1' := bthen (balloc (brefl w) _) hB1
  clear hB1
  have hR0 : w.heap.size ≤ R := by simp at hR; omega
  clear hR
  go_wp2_with fail
  refine (num_fits R _ 2 (by simp) _ hr1).mono ?_
  rintro e w2 ⟨rfl, hr2, hg2⟩
  have hB2 := bgrown hB1' hg2 (fun k e => by simp at e; omega)
  clear hg2 hr1
  go_wp2_with fail
  refine (take_fits R _ 1 (by simp) _ hr2).mono ?_
  rintro e w3 ⟨⟨A3, c3, rfl, hown3⟩, hr3, hg3⟩
  have hB3 := bgrown hB2 hg3 (fun k e => by simp at e; omega)
  clear hr2
  go_wp2_with fail
  refine (take_not R _ 2 (.inr (by simp)) _ hr3).mono ?_
  rintro e w' ⟨rfl, rfl⟩
  go_wp2_with fail
  refine (put_calls 258 3 _).mono ?_
  rintro e w4 ⟨⟨A4, c4, rfl, hown4⟩, hB4⟩
  go_wp2_with fail
  obtain ⟨g, rfl, _, hg3, hgc, _⟩ := hown3.form (by simp)
  have hc9 : w3.cell? ⟨g, 0, none⟩ = some (.int .u8 9) := hgc 0 (by simp)
  clear hgc hown3
  refine (bytes_calls _ _ _ 3 _ [2, 1, 0] _ _ _ (hown4.bytes.alloc _) (by exact lit_bytes _ _ _ _ _ rfl)).mono ?_
  rintro e w' ⟨rfl, rfl⟩
  have hp : (putN 258 3 == [2, 1, 0]) = true := by decide
  have hn2 : ((getN [2, 1]).toNat : Int) = 258 := by decide
  have hn1 : ((getN [0, 1]).toNat : Int) = 256 := by decide
  go_wp2_with fail
  refine (get_calls _ 2 [0, 1] (by simp) _ _ (by exact lit_bytes_at _ _ _ _ _ rfl (w4.heap.size + 1) (by simp))).mono ?_
  rintro e w' ⟨rfl, rfl⟩
  have hS := (Since.alloc (Since.alloc (show Since w3 w4 from hB4) (.cells #[.int .u8 2, .int .u8 1, .int .u8 0] 5)) (.cells #[.int .u8 0, .int .u8 1] 5))
  have hc9' := hS.cell hc9
  have hr4 := hr3.below hS
  go_wp2_with fail
  refine (left_calls R _ _ hr4).mono ?_
  rintro e w' ⟨rfl, rfl⟩
  go_wp2_with fail
  go_ret
  exact ⟨rfl, bthen hB3 hS⟩

end Go.Proofs.Ytakjepgndmdblaa
