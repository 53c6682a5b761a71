/-
  All loose sectors settled, one behind the other: what comes of it. No program in sight.
-/
import Derived.Test.YthieeidbfdhaaaaDiskLoose
namespace Go.Proofs.Ythieeidbfdhaaaa
open Go

/-- Each loose sector becomes what g says: g is told how many loose ones came ahead. -/
def passFrom (g : Nat → Sct → Sct) : Nat → List Sct → List Sct
  | _, [] => []
  | r, s :: D => if s.vers = [] then s :: passFrom g r D else g r s :: passFrom g (r + 1) D
def passN (g : Nat → Sct → Sct) (D : List Sct) : List Sct := passFrom g 0 D
theorem flushN_pass (D : List Sct) : flushN D = passN (fun _ s => s.flushed) D := by
  unfold passN flushN
  generalize 0 = r
  induction D generalizing r with
  | nil => rfl
  | cons s D ih =>
    unfold passFrom
    split
    · rename_i h
      rw [List.map_cons, ← ih]
      congr 1
      obtain ⟨t, v⟩ := s
      simp only at h
      subst h
      rfl
    · rw [List.map_cons, ← ih]
theorem crashN_pass (D : List Sct) (pick : List UInt8) : crashN D pick = passN (fun r s => s.pick (pick.drop r)) D := by
  suffices h : ∀ r, crashN D (pick.drop r) = passFrom (fun r s => s.pick (pick.drop r)) r D from by simpa [passN] using h 0
  induction D with
  | nil => intro r; rfl
  | cons s D ih =>
    intro r
    unfold crashN passFrom
    split
    · rw [ih]
    · rw [List.drop_drop, ih]
def looseCount (D : List Sct) : Nat := (D.filter fun s => s.vers ≠ []).length
theorem passFrom_snoc (g : Nat → Sct → Sct) (D : List Sct) (s : Sct) (r : Nat) : passFrom g r (D ++ [s]) = passFrom g r D ++ [if s.vers = [] then s else g (r + looseCount D) s] := by
  induction D generalizing r with
  | nil =>
    simp only [List.nil_append, passFrom, looseCount, List.filter_nil, List.length_nil, Nat.add_zero]
    split <;> rfl
  | cons t D ih =>
    rw [List.cons_append]
    unfold passFrom
    by_cases h : t.vers = []
    · rw [if_pos h, if_pos h, ih, List.cons_append]
      simp [looseCount, h]
    · rw [if_neg h, if_neg h, ih, List.cons_append]
      simp [looseCount, h]
      congr 2
      omega
theorem looseTo_count (D : List Sct) (k : Nat) (hk : k ≤ D.length) : (looseTo D k).length = looseCount (D.take k) := by
  induction k with
  | zero => simp [looseTo, looseCount]
  | succ k ih =>
    rw [looseTo_step D hk, List.take_succ_eq_append_getElem hk]
    unfold looseCount at *
    rw [List.filter_append]
    split
    · rename_i h
      simp [h, ih (by omega)]
    · rename_i h
      simp [h, ih (by omega)]
/-- The sectors of pre set, one behind the other. -/
def setAll (D : List Sct) (pre : List (Fin D.length)) (f : Nat → Fin D.length → Sct) : List Sct := pre.zipIdx.foldl (fun E xk => E.set xk.1.val (f xk.2 xk.1)) D
theorem setAll_nil (D : List Sct) (f : Nat → Fin D.length → Sct) : setAll D [] f = D := rfl
theorem setAll_snoc (D : List Sct) (pre : List (Fin D.length)) (x : Fin D.length) (f : Nat → Fin D.length → Sct) : setAll D (pre ++ [x]) f = (setAll D pre f).set x.val (f pre.length x) := by
  unfold setAll
  rw [List.zipIdx_append, List.foldl_append]
  simp
theorem setAll_length (D : List Sct) (pre : List (Fin D.length)) (f : Nat → Fin D.length → Sct) : (setAll D pre f).length = D.length := by
  unfold setAll
  suffices h : ∀ (l : List (Fin D.length × Nat)) (E : List Sct), (l.foldl (fun E xk => E.set xk.1.val (f xk.2 xk.1)) E).length = E.length from h _ _
  intro l
  induction l with
  | nil => intro E; rfl
  | cons a l ih => intro E; rw [List.foldl_cons, ih, List.length_set]
theorem setAll_other (D : List Sct) (pre : List (Fin D.length)) (f : Nat → Fin D.length → Sct) (j : Nat) (hj : ∀ x ∈ pre, x.val ≠ j) : (setAll D pre f)[j]? = D[j]? := by
  unfold setAll
  suffices h : ∀ (l : List (Fin D.length × Nat)) (E : List Sct), (∀ a ∈ l, a.1.val ≠ j) → (l.foldl (fun E xk => E.set xk.1.val (f xk.2 xk.1)) E)[j]? = E[j]? from h _ _ (fun a ha => hj a.1 (by
    obtain ⟨y, k⟩ := a
    have := List.mem_zipIdx ha
    rw [this.2.2]
    exact List.getElem_mem _))
  intro l
  induction l with
  | nil => intro E _; rfl
  | cons a l ih =>
    intro E hE
    rw [List.foldl_cons, ih _ (fun b hb => hE b (List.mem_cons_of_mem _ hb)), List.getElem?_set_ne (hE a (List.mem_cons_self))]
theorem setAll_to (D : List Sct) (g : Nat → Sct → Sct) (k : Nat) (hk : k ≤ D.length) : setAll D (looseTo D k) (fun r x => g r D[x]) = passN g (D.take k) ++ D.drop k := by
  induction k with
  | zero => simp [looseTo, setAll, passN, passFrom]
  | succ k ih =>
    have hlen : (passN g (D.take k)).length = k := by
      have h1 := congrArg List.length (ih (by omega))
      rw [setAll_length, List.length_append, List.length_drop] at h1
      omega
    have hs : passN g (D.take (k + 1)) = passN g (D.take k) ++ [if D[k].vers = [] then D[k] else g (looseTo D k).length D[k]] := by
      unfold passN
      rw [List.take_succ_eq_append_getElem hk, passFrom_snoc, Nat.zero_add, looseTo_count D k (by omega)]
    have hd : D.drop k = D[k] :: D.drop (k + 1) := List.drop_eq_getElem_cons hk
    rw [looseTo_step D hk, hs]
    by_cases h : D[k].vers = []
    · rw [if_pos h, if_pos h, ih (by omega), hd, List.append_assoc]
      rfl
    · rw [if_neg h, if_neg h, setAll_snoc, ih (by omega), hd]
      simp only [Fin.getElem_fin]
      rw [List.set_append_right _ _ (by omega), hlen, Nat.sub_self, List.set_cons_zero, List.append_assoc]
      rfl
theorem setAll_all (D : List Sct) (g : Nat → Sct → Sct) : setAll D (looseAll D) (fun r x => g r D[x]) = passN g D := by
  unfold looseAll
  rw [setAll_to D g D.length (Nat.le_refl _), List.take_length, List.drop_length, List.append_nil]
end Go.Proofs.Ythieeidbfdhaaaa
