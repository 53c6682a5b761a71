/-
  Numbers as bytes, the lowest first: plain functions and their laws, no program in sight.
-/
import Derived.Test.YtdglkjpdhnnpnaaBase
namespace Go.Proofs.Ytdglkjpdhnnpnaa
open Go

/-- n shifted down by k bytes. -/
def shiftN (n : UInt64) : Nat → UInt64
  | 0 => n
  | k + 1 => shiftN n k >>> 8
/-- The lowest k bytes of n. -/
def bytesN (n : UInt64) : Nat → List UInt8
  | 0 => []
  | k + 1 => bytesN n k ++ [(shiftN n k).toUInt8]
theorem bytesN_length (n : UInt64) : ∀ k, (bytesN n k).length = k
  | 0 => rfl
  | k + 1 => by simp [bytesN, bytesN_length n k]
/-- Put: none below 1 or above 16. -/
def putN (n : UInt64) (size : Int) : List UInt8 := if size < 1 ∨ 16 < size then [] else bytesN n size.toNat
theorem shiftN_nat (n : UInt64) : ∀ k, (shiftN n k).toNat = n.toNat / 256 ^ k
  | 0 => by simp [shiftN]
  | k + 1 => by
    have h : (shiftN n k >>> 8).toNat = (shiftN n k).toNat >>> 8 := by
      rw [UInt64.toNat_shiftRight]; rfl
    rw [shiftN, h, shiftN_nat n k, Nat.shiftRight_eq_div_pow, Nat.div_div_eq_div_mul, ← Nat.pow_succ]

/-- The number of bytes, the lowest first. -/
def leVal : List UInt8 → Nat
  | [] => 0
  | x :: xs => x.toNat + 256 * leVal xs
theorem leVal_lt : ∀ bs : List UInt8, leVal bs < 256 ^ bs.length
  | [] => by simp [leVal]
  | x :: xs => by
    have h1 := x.toNat_lt
    have h2 := leVal_lt xs
    rw [leVal, List.length_cons, Nat.pow_succ]
    omega
theorem leVal_append : ∀ (xs ys : List UInt8), leVal (xs ++ ys) = leVal xs + 256 ^ xs.length * leVal ys
  | [], ys => by simp [leVal]
  | x :: xs, ys => by
    rw [List.cons_append, leVal, leVal_append xs ys, leVal, List.length_cons, Nat.pow_succ, Nat.mul_add, Nat.mul_comm (256 ^ xs.length) 256, Nat.mul_assoc]
    omega
theorem leVal_snoc (xs : List UInt8) (y : UInt8) : leVal (xs ++ [y]) = leVal xs + 256 ^ xs.length * y.toNat := by
  rw [leVal_append]; simp [leVal]
/-- Get: of the first eight. -/
def getN (bs : List UInt8) : UInt64 := UInt64.ofNat (leVal (bs.take 8))
theorem leVal_take_lt (bs : List UInt8) (k : Nat) (h : k ≤ 8) : leVal (bs.take k) < 18446744073709551616 := by
  have h1 := leVal_lt (bs.take k)
  have h2 : (bs.take k).length ≤ 8 := by rw [List.length_take]; omega
  have h3 : 256 ^ (bs.take k).length ≤ 256 ^ 8 := Nat.pow_le_pow_right (by omega) h2
  omega
theorem getN_nat (bs : List UInt8) : (getN bs).toNat = leVal (bs.take 8) := by
  have := leVal_take_lt bs 8 (by omega)
  unfold getN
  rw [UInt64.toNat_ofNat']
  exact Nat.mod_eq_of_lt (by omega)
theorem bytesN_val (n : UInt64) : ∀ k, leVal (bytesN n k) = n.toNat % 256 ^ k
  | 0 => by simp [bytesN, leVal, Nat.mod_one]
  | k + 1 => by
    have e : ((shiftN n k).toUInt8).toNat = n.toNat / 256 ^ k % 256 := by
      rw [UInt64.toNat_toUInt8, shiftN_nat]
    rw [bytesN, leVal_snoc, bytesN_val n k, bytesN_length, e, Nat.pow_succ, Nat.mod_mul]

/-- A byte list of at most eight is what its number is written as. -/
theorem leVal_inj : ∀ {xs ys : List UInt8}, xs.length = ys.length → leVal xs = leVal ys → xs = ys
  | [], [], _, _ => rfl
  | x :: xs, y :: ys, hl, h => by
    have h1 := x.toNat_lt
    have h2 := y.toNat_lt
    simp only [leVal] at h
    have hx : x.toNat = y.toNat := by omega
    have hv : leVal xs = leVal ys := by omega
    rw [UInt8.toNat_inj.1 hx, leVal_inj (by simpa using hl) hv]
theorem bytesN_getN (bs : List UInt8) (h : bs.length ≤ 8) : bytesN (getN bs) bs.length = bs := by
  refine leVal_inj (bytesN_length _ _) ?_
  rw [bytesN_val, getN_nat, List.take_of_length_le h]
  exact Nat.mod_eq_of_lt (leVal_lt bs)
theorem getN_bytesN (n : UInt64) (k : Nat) : (getN (bytesN n k)).toNat = n.toNat % 256 ^ min k 8 := by
  rw [getN_nat]
  have e : (bytesN n k).take 8 = bytesN n (min k 8) := by
    by_cases hk : k ≤ 8
    · rw [List.take_of_length_le (by rw [bytesN_length]; exact hk), Nat.min_eq_left hk]
    · rw [Nat.min_eq_right (by omega)]
      have h8 : ∀ j, (bytesN n (8 + j)).take 8 = bytesN n 8 := by
        intro j
        induction j with
        | zero => rw [Nat.add_zero, List.take_of_length_le (by rw [bytesN_length]; exact Nat.le_refl _)]
        | succ j ih =>
          rw [← Nat.add_assoc, bytesN, List.take_append_of_le_length (by rw [bytesN_length]; omega), ih]
      have := h8 (k - 8)
      rwa [show 8 + (k - 8) = k by omega] at this
  rw [e, bytesN_val]

theorem leVal_take_pow (bs : List UInt8) {k : Nat} (h : k < bs.length) : leVal (bs.take k) < 256 ^ k := by
  have h1 := leVal_lt (bs.take k)
  rwa [List.length_take, Nat.min_eq_left (by omega)] at h1
theorem pow_8 (k : Nat) : (2 : Nat) ^ (8 * k) = 256 ^ k := by rw [Nat.pow_mul]
theorem shl_lt {k : Nat} (x : UInt8) (h : k < 8) : 256 ^ k * x.toNat < 18446744073709551616 := by
  have h1 := x.toNat_lt
  have h2 : 256 ^ k ≤ 256 ^ 7 := Nat.pow_le_pow_right (by omega) (by omega)
  have h3 : 256 ^ k * x.toNat ≤ 256 ^ 7 * 255 := Nat.mul_le_mul h2 (by omega)
  omega
/-- A byte shifted up. -/
theorem wrap_shl {k : Nat} (x : UInt8) (h : k < 8) : IntKind.u64.wrap ((x.toNat : Int) * 2 ^ (8 * k)) = ((256 ^ k * x.toNat : Nat) : Int) := by
  have h1 := shl_lt x h
  have e : (x.toNat : Int) * 2 ^ (8 * k) = ((256 ^ k * x.toNat : Nat) : Int) := by
    rw [← pow_8, Int.natCast_mul, Int.natCast_pow, Int.mul_comm]; rfl
  rw [e, IntKind.wrap_u64]
  omega
/-- A byte laid above k bytes. -/
theorem or_shl {k v : Nat} (x : UInt8) (h : k < 8) (hv : v < 256 ^ k) : bits .or .u64 (v : Int) (IntKind.u64.wrap ((x.toNat : Int) * 2 ^ (8 * k))) = ((v + 256 ^ k * x.toNat : Nat) : Int) := by
  have h1 := shl_lt x h
  have h2 : 256 ^ k ≤ 256 ^ 8 := Nat.pow_le_pow_right (by omega) (by omega)
  rw [wrap_shl x h, u64_or_nat _ _ (by omega) h1, Nat.or_comm, ← pow_8, ← Nat.two_pow_add_eq_or_of_lt (by rw [pow_8]; exact hv), Nat.add_comm]
/-- A byte added above k bytes. -/
theorem add_shl {k v : Nat} (x : UInt8) (h : k < 8) (hv : v < 256 ^ k) : IntKind.u64.wrap ((v : Int) + IntKind.u64.wrap ((x.toNat : Int) * 2 ^ (8 * k))) = ((v + 256 ^ k * x.toNat : Nat) : Int) := by
  have h1 := shl_lt x h
  have h3 := x.toNat_lt
  have h4 : 256 ^ k ≤ 256 ^ 7 := Nat.pow_le_pow_right (by omega) (by omega)
  have h5 : 256 ^ k * x.toNat ≤ 256 ^ 7 * 255 := Nat.mul_le_mul h4 (by omega)
  rw [wrap_shl x h, IntKind.wrap_u64]
  omega

theorem shiftN_big (n : UInt64) (k : Nat) (h : 8 ≤ k) : (shiftN n k).toUInt8 = 0 := by
  have h1 := n.toNat_lt
  have h2 : 256 ^ 8 ≤ 256 ^ k := Nat.pow_le_pow_right (by omega) h
  apply UInt8.toNat_inj.1
  rw [UInt64.toNat_toUInt8, shiftN_nat, Nat.div_eq_of_lt (by omega)]
  rfl
/-- What the reference's Put has made behind k rounds. -/
def putAt (n : UInt64) (size k : Nat) : List UInt8 := bytesN n k ++ List.replicate (size - k) 0
theorem putAt_zero (n : UInt64) (size : Nat) : putAt n size 0 = List.replicate size 0 := by simp [putAt, bytesN]
theorem putAt_step (n : UInt64) {size k : Nat} (h : k < size) : (putAt n size k).set k (shiftN n k).toUInt8 = putAt n size (k + 1) := by
  unfold putAt
  rw [List.set_append_right _ _ (by rw [bytesN_length]; exact Nat.le_refl _), bytesN_length, Nat.sub_self, bytesN, List.append_assoc]
  congr 1
  rw [show size - k = (size - (k + 1)) + 1 by omega, List.replicate_succ]
  rfl
theorem putAt_end (n : UInt64) (size : Nat) : ∀ j, 8 + j ≤ size → putAt n size (8 + j) = putAt n size 8
  | 0, _ => rfl
  | j + 1, h => by
    rw [← putAt_end n size j (by omega), ← Nat.add_assoc, ← putAt_step n (show 8 + j < size by omega), shiftN_big n _ (by omega)]
    unfold putAt
    rw [List.set_append_right _ _ (by rw [bytesN_length]; exact Nat.le_refl _), bytesN_length, Nat.sub_self]
    congr 1
    rw [show size - (8 + j) = (size - (8 + j) - 1) + 1 by omega, List.replicate_succ]
    rfl
theorem putAt_done (n : UInt64) (size k : Nat) (hk : k = min size 8) : putAt n size k = bytesN n size := by
  by_cases h : size ≤ 8
  · rw [hk, Nat.min_eq_left h]
    simp [putAt]
  · rw [hk, Nat.min_eq_right (by omega), ← putAt_end n size (size - 8) (by omega), show 8 + (size - 8) = size by omega]
    simp [putAt]

theorem shr_byte (n : UInt64) (k : Nat) : (n.toNat : Int) / 2 ^ (8 * k) % 256 = (((shiftN n k).toUInt8).toNat : Int) := by
  have e : ((shiftN n k).toUInt8).toNat = n.toNat / 2 ^ (8 * k) % 256 := by
    rw [UInt64.toNat_toUInt8, shiftN_nat, pow_8]
  rw [e]
  simp only [Int.natCast_emod, Int.natCast_ediv, Int.natCast_pow]
  rfl

/-- One round of Get, in numbers. -/
theorem leVal_step {bs : List UInt8} {k : Nat} (h : k < bs.length) : leVal (bs.take (k + 1)) = leVal (bs.take k) + 256 ^ k * (bs[k]?.getD 0).toNat := by
  rw [take_snoc h, leVal_snoc, List.length_take, Nat.min_eq_left (by omega)]

end Go.Proofs.Ytdglkjpdhnnpnaa
