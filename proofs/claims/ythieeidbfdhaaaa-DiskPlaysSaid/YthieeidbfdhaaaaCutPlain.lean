/-
  Bytes by pieces of 48: plain, no program in sight.
-/
import Derived.Test.YthieeidbfdhaaaaFill
namespace Go.Proofs.Ythieeidbfdhaaaa
open Go

def countN (n : Int) : Int := if n < 1 then 0 else (n - 1) / 48 + 1
def padN (l : List UInt8) : List UInt8 := l ++ zeros (48 - l.length)
/-- The first k pieces. -/
def cutTo (bs : List UInt8) : Nat → List (List UInt8)
  | 0 => []
  | k + 1 => cutTo bs k ++ [padN ((bs.drop (48 * k)).take 48)]
def cutLen (n : Nat) : Nat := (n + 47) / 48
def cutN (bs : List UInt8) : List (List UInt8) := cutTo bs (cutLen bs.length)

theorem zeros_add (a b : Nat) : zeros a ++ zeros b = zeros (a + b) := by simp [zeros]
theorem cutTo_length (bs : List UInt8) : ∀ k, (cutTo bs k).length = k
  | 0 => rfl
  | k + 1 => by simp [cutTo, cutTo_length bs k]
theorem padN_length (l : List UInt8) (h : l.length ≤ 48) : (padN l).length = 48 := by
  simp [padN, zeros]; omega
theorem cutTo_rows (bs : List UInt8) : ∀ k, ∀ l ∈ cutTo bs k, l.length = 48
  | 0, l, h => by simp [cutTo] at h
  | k + 1, l, h => by
    rw [cutTo, List.mem_append] at h
    rcases h with h | h
    · exact cutTo_rows bs k l h
    · simp at h
      subst h
      exact padN_length _ (by simp; omega)
theorem cutN_length (bs : List UInt8) : (cutN bs).length = cutLen bs.length := cutTo_length _ _
/-- The pieces one behind the other. -/
theorem cutTo_flat (bs : List UInt8) : ∀ k, (cutTo bs k).flatten = bs.take (48 * k) ++ zeros (48 * k - bs.length)
  | 0 => by simp [cutTo, zeros]
  | k + 1 => by
    rw [cutTo, List.flatten_append, cutTo_flat bs k]
    simp only [List.flatten_cons, List.flatten_nil, List.append_nil, padN]
    by_cases h : 48 * k ≤ bs.length
    · have e : 48 * k - bs.length = 0 := by omega
      rw [e]
      have e2 : bs.take (48 * (k + 1)) = bs.take (48 * k) ++ (bs.drop (48 * k)).take 48 := by
        rw [show 48 * (k + 1) = 48 * k + 48 by omega, List.take_add]
      rw [e2]
      simp only [zeros, List.replicate_zero, List.append_nil, List.append_assoc]
      congr 3
      simp
      omega
    · have e : (bs.drop (48 * k)) = [] := List.drop_eq_nil_of_le (by omega)
      rw [e, List.take_of_length_le (show bs.length ≤ 48 * k by omega), List.take_of_length_le (show bs.length ≤ 48 * (k + 1) by omega)]
      simp only [List.take_nil, List.nil_append, List.length_nil, Nat.sub_zero, List.append_assoc, zeros_add]
      congr 2
      omega
theorem cutTo_flat_length (bs : List UInt8) (k : Nat) : (cutTo bs k).flatten.length = 48 * k := by
  rw [cutTo_flat]
  simp [zeros]
  omega
/-- Byte i of the pieces. -/
theorem cutN_at (bs : List UInt8) (i : Nat) (hi : i < 48 * cutLen bs.length) : (cutN bs).flatten[i]? = some (bs[i]?.getD 0) := by
  unfold cutN
  rw [cutTo_flat]
  unfold cutLen at *
  rw [List.take_of_length_le (by omega)]
  by_cases h : i < bs.length
  · rw [List.getElem?_append_left h, List.getElem?_eq_getElem h]
    rfl
  · rw [List.getElem?_append_right (by omega), List.getElem?_eq_none (by omega : bs.length ≤ i)]
    simp only [zeros, Option.getD_none]
    rw [List.getElem?_replicate, if_pos (by omega)]
theorem countN_len (n : Nat) : countN (n : Int) = (cutLen n : Int) := by
  unfold countN cutLen
  split <;> omega

end Go.Proofs.Ythieeidbfdhaaaa
