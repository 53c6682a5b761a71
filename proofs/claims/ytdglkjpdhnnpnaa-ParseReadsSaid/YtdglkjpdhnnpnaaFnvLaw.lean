/-
  Plain laws on the check of bytes: no program in sight.
-/
import Derived.Test.YtdglkjpdhnnpnaaBase
namespace Go.Proofs.Ytdglkjpdhnnpnaa
open Go

theorem mul_prime_inj {a b : UInt64} (h : a * 1099511628211 = b * 1099511628211) : a = b := by
  have h2 : a * 1099511628211 * 14886173955864302971 = b * 1099511628211 * 14886173955864302971 := by rw [h]
  have e : (1099511628211 : UInt64) * 14886173955864302971 = 1 := by decide
  rw [UInt64.mul_assoc, UInt64.mul_assoc, e, UInt64.mul_one, UInt64.mul_one] at h2
  exact h2
theorem turn_inj {a b : UInt64} {c : UInt8} : turn a c = turn b c ↔ a = b := by
  constructor
  · intro h
    have h1 := mul_prime_inj h
    simpa using h1
  · rintro rfl; rfl
theorem turn_inj_byte {a : UInt64} {c d : UInt8} : turn a c = turn a d ↔ c = d := by
  constructor
  · intro h
    have h1 : c.toUInt64 = d.toUInt64 := by simpa using mul_prime_inj h
    have h2 := congrArg UInt64.toNat h1
    exact UInt8.toNat_inj.1 (by simpa using h2)
  · rintro rfl; rfl
theorem more_inj {a b : UInt64} (bs : List UInt8) : more a bs = more b bs ↔ a = b := by
  induction bs generalizing a b with
  | nil => exact Iff.rfl
  | cons x bs ih => exact (ih (a := turn a x) (b := turn b x)).trans turn_inj

/-- One byte turned: the check is the same just if nothing was turned. -/
theorem more_set (h : UInt64) (bs : List UInt8) (k : Nat) (hk : k < bs.length) (v : UInt8) : more h (bs.set k v) = more h bs ↔ v = bs[k] := by
  have e1 : bs = bs.take k ++ bs[k] :: bs.drop (k + 1) := by rw [← List.drop_eq_getElem_cons hk, List.take_append_drop]
  have e2 : bs.set k v = bs.take k ++ v :: bs.drop (k + 1) := by
    rw [List.set_eq_take_append_cons_drop, if_pos hk]
  rw [e2]
  conv => lhs; rhs; rw [e1]
  rw [more_append, more_append]
  show more (turn (more h (bs.take k)) v) (bs.drop (k + 1)) = more (turn (more h (bs.take k)) bs[k]) (bs.drop (k + 1)) ↔ _
  rw [more_inj, turn_inj_byte]
theorem xor_eq_self {a b : UInt8} : a ^^^ b = a ↔ b = 0 := by
  constructor
  · intro h
    have h2 : a ^^^ (a ^^^ b) = a ^^^ a := by rw [h]
    rw [← UInt8.xor_assoc, UInt8.xor_self, UInt8.zero_xor] at h2
    exact h2
  · rintro rfl; simp
theorem check_turned (bs : List UInt8) (k : Nat) (hk : k < bs.length) (v : UInt8) : check (bs.set k (bs[k] ^^^ v)) = check bs ↔ v = 0 := by
  unfold check
  rw [more_set _ _ _ hk, xor_eq_self]
theorem check_one {v w : UInt8} : check [v] = check [w] ↔ v = w := turn_inj_byte

end Go.Proofs.Ytdglkjpdhnnpnaa
