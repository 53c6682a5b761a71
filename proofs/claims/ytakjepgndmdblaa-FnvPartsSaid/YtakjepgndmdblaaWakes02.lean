/-
  revetmentlaw02.wakes returns true.
-/
import Derived.Test.YtakjepgndmdblaaFnv
import Derived.Lib.SlBytesConst
namespace Go.Proofs.Ytakjepgndmdblaa
open Go Go.RowKit Go.Shelf

theorem check_a : ((check [97]).toNat : Int) = 12638187200555641996 := by decide
theorem check_0 : ((check []).toNat : Int) = 14695981039346656037 := by decide

theorem A_bytes (w : World) (m : Nat × Nat) : BytesAt (w.alloc (.cells #[.int .u8 97] 5 m)) (w.alloc (.cells #[.int .u8 97] 5 m)).heap.size (some ⟨w.heap.size, 0, none⟩) [97] := by
  refine .inr ⟨w.heap.size, 0, rfl, by simp, fun j hj => ?_⟩
  obtain rfl : j = 0 := by simpa using hj
  rw [World.cell?_alloc_mark]
  rfl

theorem wakes02_calls (w : World) :
    Calls Try.prog 12 #[] w fun e w' => e = .returned (.bool true) ∧ Below w.heap.size w w' := by
  have kc := fun (w : World) (C : Array Value) (n c : Nat) => Lib.run_convert_bytes_const (P := Try.prog) w 23 5 C n c Try.underlying23 Try.underlying5
  go_enter Try.func12, Try.ntmps12
  go_wp2_with fail
  refine (check_calls none 0 [] (by simp) _ (BytesAt.nil _ _ _)).mono ?_
  rintro e w1 ⟨rfl, hB1⟩
  go_wp2_with fail
  refine (check_calls _ 1 [97] (by simp) _ (A_bytes _ _)).mono ?_
  rintro e w2 ⟨rfl, hB2⟩
  go_wp2_with fail
  refine (check_calls none 0 [] (by simp) _ (BytesAt.nil _ _ _)).mono ?_
  rintro e w3 ⟨rfl, hB3⟩
  go_wp2_with fail
  refine (more_calls (check []) _ 1 [97] (by simp) _ (A_bytes _ _)).mono ?_
  rintro e w4 ⟨rfl, hB4⟩
  go_wp2_with fail
  refine (check_calls _ 1 [97] (by simp) _ (A_bytes _ _)).mono ?_
  rintro e w5 ⟨rfl, hB5⟩
  go_wp2_with fail
  go_ret
  exact ⟨ret_bool (by decide), bthen (balloc (bthen (balloc (bthen (bthen (balloc (bthen (brefl w) hB1) _) hB2) hB3) _) hB4) _) hB5⟩
end Go.Proofs.Ytakjepgndmdblaa
