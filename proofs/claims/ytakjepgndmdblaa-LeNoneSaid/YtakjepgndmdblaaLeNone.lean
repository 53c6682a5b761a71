/-
  LeNone returns true, whatever the step, and writes nothing that was there.
-/
import Derived.Test.YtakjepgndmdblaaWakes01
namespace Go.Proofs.Ytakjepgndmdblaa
open Go Go.RowKit Go.Shelf

set_option maxHeartbeats 1000000 in
theorem leNone_walk (t : Bool) (size : Int) (w : World) (_h1 : -9223372036854775808 ≤ size) (_h2 : size ≤ 9223372036854775807) :
    Calls Try.prog 10 #[.agg #[.bool t, .int .i64 size]] w fun e w' => e = .returned (.bool true) ∧ Below w.heap.size w w' := by
  go_enter Try.func10, Try.ntmps10
  go_wp2_with fail
  refine (num_none size _).mono ?_
  rintro e w' ⟨rfl, rfl⟩
  go_wp2_with fail
  refine (take_none size _).mono ?_
  rintro e w' ⟨rfl, rfl⟩
  go_wp2_with fail
  refine (left_none _).mono ?_
  rintro e w' ⟨rfl, rfl⟩
  go_wp2_with fail
  refine (wakes01_calls _).mono ?_
  rintro e w1 ⟨rfl, hB1⟩
  go_wp2_with fail
  go_ret
  exact ⟨rfl, bthen (balloc (brefl w) _) hB1⟩

end Go.Proofs.Ytakjepgndmdblaa
