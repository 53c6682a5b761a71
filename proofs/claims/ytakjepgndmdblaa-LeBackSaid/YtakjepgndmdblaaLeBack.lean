/-
  LeBack returns true, whatever the number, the size and the bytes, and writes nothing that was there.
-/
import Derived.Test.YtakjepgndmdblaaWakes01
namespace Go.Proofs.Ytakjepgndmdblaa
open Go Go.RowKit Go.Shelf

set_option maxHeartbeats 8000000 in
theorem leBack_walk (n : UInt64) (size : UInt8) (A : Option Addr) (cap : Nat) (bs : List UInt8) (w : World) (hl : bs.length ≤ cap) (_hm : cap ≤ maxLen) (hb : BytesAt w w.heap.size A bs) :
    Calls Try.prog 9 #[B64 n, B8 size, .slice A bs.length cap] w fun e w' => e = .returned (.bool true) ∧ Below w.heap.size w w' := by
  obtain ⟨k, hk, hk1, hk2⟩ : ∃ k : Nat, (1 + (size.toNat : Int) % 16) = (k : Int) ∧ 1 ≤ k ∧ k ≤ 16 := ⟨1 + size.toNat % 16, by omega, by omega, by omega⟩
  have hput := put_some n k hk1 hk2
  have hbl := bytesN_length n k
  have hval := getN_bytesN n k
  generalize bytesN n k = ps at hput hbl hval
  replace hput := Lib.hid hput
  replace hval := Lib.hid hval
  have hs0 : (0 : Int) ≤ (size.toNat : Int) := by omega
  have hs1 : (size.toNat : Int) ≤ 255 := by have := size.toNat_lt; omega
  have hcases : k = 1 ∨ k = 2 ∨ k = 3 ∨ k = 4 ∨ k = 5 ∨ k = 6 ∨ k = 7 ∨ 8 ≤ k := by omega
  have hv : Hid (k < 8 → ((getN ps).toNat : Int) = (n.toNat : Int) % ((256 ^ k : Nat) : Int)) := fun h => by
    rw [hval.out, Nat.min_eq_left (by omega)]
    omega
  have hv8 : Hid (8 ≤ k → ((getN ps).toNat : Int) = (n.toNat : Int)) := fun h => by
    have h1 := n.toNat_lt
    rw [hval.out, Nat.min_eq_right (by omega), Nat.mod_eq_of_lt (by omega)]
  clear hval
  replace hbl := Lib.hid hbl
  have hbc : (bs.length < 1 ∨ 8 < bs.length) ∨ (1 ≤ bs.length ∧ bs.length ≤ 8) := by omega
  have hback : Hid (bs.length ≤ 8 → bytesN (getN bs) bs.length = bs) := bytesN_getN bs
  rcases hbc with (hbc | hbc) | ⟨hb1, hb8⟩
  all_goals
    rcases hcases with rfl | rfl | rfl | rfl | rfl | rfl | rfl | h8
    all_goals
      first
        | (have hvv : ((getN ps).toNat : Int) = (n.toNat : Int) % 256 := hv.out (by omega))
        | (have hvv : ((getN ps).toNat : Int) = (n.toNat : Int) % 65536 := hv.out (by omega))
        | (have hvv : ((getN ps).toNat : Int) = (n.toNat : Int) % 16777216 := hv.out (by omega))
        | (have hvv : ((getN ps).toNat : Int) = (n.toNat : Int) % 4294967296 := hv.out (by omega))
        | (have hvv : ((getN ps).toNat : Int) = (n.toNat : Int) % 1099511627776 := hv.out (by omega))
        | (have hvv : ((getN ps).toNat : Int) = (n.toNat : Int) % 281474976710656 := hv.out (by omega))
        | (have hvv : ((getN ps).toNat : Int) = (n.toNat : Int) % 72057594037927936 := hv.out (by omega))
        | (have hvv : ((getN ps).toNat : Int) = (n.toNat : Int) := hv8.out h8)
      clear hv hv8
      go_enter Try.func9, Try.ntmps9
      go_wp2_with fail
      refine Calls.mono (hput.out _) ?_
      rintro e w1 ⟨⟨A1, c1, rfl, hown1⟩, hB1⟩
      rw [hbl.out]
      go_wp2_with fail
      refine (get_calls_n _ _ _ ps hbl.out (by have := hown1.cap; rw [hbl.out] at this; exact this) _ _ hown1.bytes).mono ?_
      rintro e w' ⟨rfl, rfl⟩
      go_wp2_with fail
      first
        | (go_at_call 19
           refine (wakes01_calls _).mono ?_
           rintro e w2 ⟨rfl, hB2⟩
           go_wp2_with fail
           go_ret
           exact ⟨rfl, bthen hB1 hB2⟩)
        | (go_at_call 22
           refine (get_calls _ _ _ hl _ _ (hb.step hB1)).mono ?_
           rintro e w' ⟨rfl, rfl⟩
           go_wp2_with fail
           refine (put_some (getN bs) bs.length hb1 (by omega) _).mono ?_
           rintro e w2 ⟨⟨A2, c2, rfl, hown2⟩, hB2⟩
           go_wp2_with fail
           refine (bytes_calls _ _ _ _ _ _ _ _ _ hown2.bytes ((hb.step hB1).step hB2)).mono ?_
           rintro e w' ⟨rfl, rfl⟩
           rw [hback.out hb8, beq_self_eq_true]
           go_wp2_with fail
           refine (wakes01_calls _).mono ?_
           rintro e w3 ⟨rfl, hB3⟩
           go_wp2_with fail
           go_ret
           exact ⟨rfl, bthen (bthen hB1 hB2) hB3⟩)

end Go.Proofs.Ytakjepgndmdblaa
