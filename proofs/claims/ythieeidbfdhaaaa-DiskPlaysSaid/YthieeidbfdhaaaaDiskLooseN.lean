/-
  Which sectors are loose, by numbers.
-/
import Derived.Test.YthieeidbfdhaaaaDiskLoose
namespace Go.Proofs.Ythieeidbfdhaaaa
open Go

theorem looseFrom_snoc (D : List Sct) (s : Sct) (r : Nat) : looseFrom r (D ++ [s]) = looseFrom r D ++ if s.vers = [] then [] else [r + D.length] := by
  induction D generalizing r with
  | nil => simp [looseFrom]
  | cons t D ih =>
    rw [List.cons_append]
    unfold looseFrom
    rw [ih]
    have e : r + 1 + D.length = r + (t :: D).length := by rw [List.length_cons]; omega
    rw [e]
    split <;> simp
theorem looseTo_val (D : List Sct) (k : Nat) (hk : k ≤ D.length) : (looseTo D k).map (fun x => x.val) = looseFrom 0 (D.take k) := by
  induction k with
  | zero => simp [looseTo, looseFrom]
  | succ k ih =>
    rw [looseTo_step D hk, List.take_succ_eq_append_getElem hk, looseFrom_snoc, ← ih (by omega)]
    have e : 0 + (D.take k).length = k := by rw [List.length_take]; omega
    rw [e]
    split
    · simp
    · simp
theorem looseAll_val (D : List Sct) : (looseAll D).map (fun x => x.val) = looseN D := by
  unfold looseAll looseN
  rw [looseTo_val D D.length (Nat.le_refl _), List.take_length]
end Go.Proofs.Ythieeidbfdhaaaa
