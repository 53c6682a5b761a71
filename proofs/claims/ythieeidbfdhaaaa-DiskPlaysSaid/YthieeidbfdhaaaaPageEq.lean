/-
  Equality of marked sectors, of blocks and of pieces, as the program asks it.
-/
import Derived.Test.YthieeidbfdhaaaaPageRDec
import Derived.Test.YthieeidbfdhaaaaPageLaw
import Derived.Test.YthieeidbfdhaaaaCut
namespace Go.Proofs.Ythieeidbfdhaaaa
open Go Go.RowKit Go.Shelf

theorem eq_piece (x y : List UInt8) (hx : x.length = 48) (hy : y.length = 48) (d : Nat) (w : World) : (Op.equalIn (d + 2) 63 (.agg (x.map B8).toArray) (.agg (y.map B8).toArray)).run Try.prog w = .ok (x == y) w :=
  run_equalIn_bytes w d 63 5 48 Try.underlying63 Try.underlying5 Try.sizeOf5 x y hx hy

/-- Are two sectors alike? -/
def secEq (s t : Sec) : Bool := s.mark == t.mark && (s.seq == t.seq && (s.idx == t.idx && s.body == t.body))
theorem secEq_iff (s t : Sec) : secEq s t = true ↔ s = t := by
  cases s; cases t
  simp [secEq]

theorem part_cell (t : TypeId) (ht : ∀ w, (isAgg t).run Try.prog w = .ok false w) (cs : Array Value) (off : Nat) (v : Value) (h : cs[off]? = some v) (w : World) : (part t cs off).run Try.prog w = .ok v w := by
  simp only [part, Sem.run_bind, ht, Result.andThen_ok, Bool.false_eq_true, if_false, h, Sem.run_pure]
theorem part_rest (t : TypeId) (n : Nat) (ht : ∀ w, (isAgg t).run Try.prog w = .ok true w) (hs : ∀ w, (sizeOf t).run Try.prog w = .ok n w) (cs : Array Value) (off : Nat) (vs : List Value) (h : (cs.extract off (off + n)) = vs.toArray) (w : World) : (part t cs off).run Try.prog w = .ok (.agg vs.toArray) w := by
  simp only [part, Sem.run_bind, ht, hs, Result.andThen_ok, if_true, h, Sem.run_pure]
theorem agg_u8 (w : World) : (isAgg 5).run Try.prog w = .ok false w := by simp [isAgg, run_underlying Try.underlying5]
theorem agg_u32 (w : World) : (isAgg 62).run Try.prog w = .ok false w := by simp [isAgg, run_underlying Try.underlying62]
theorem agg_int (w : World) : (isAgg 3).run Try.prog w = .ok false w := by simp [isAgg, run_underlying Try.underlying3]
theorem sec_extract (s : Sec) (hb : s.body.length = 48) : s.cells.toArray.extract 3 (3 + 48) = (s.body.map B8).toArray := by
  apply Array.ext'
  simp [Sec.cells]
  rw [List.take_of_length_le (by rw [List.length_map, hb]; decide)]

theorem eq_sec (s t : Sec) (hs : s.body.length = 48) (ht : t.body.length = 48) (w : World) : (Op.equalIn 10000 65 (.agg s.cells.toArray) (.agg t.cells.toArray)).run Try.prog w = .ok (secEq s t) w := by
  rw [run_equalIn_struct w 9999 65 _ _ (by kernel_rfl) (by kernel_rfl)]
  obtain ⟨f0, hf0⟩ : ∃ f, f = (Try.prog.fieldsOf 65)[0]! := ⟨_, rfl⟩
  obtain ⟨f1, hf1⟩ : ∃ f, f = (Try.prog.fieldsOf 65)[1]! := ⟨_, rfl⟩
  obtain ⟨f2, hf2⟩ : ∃ f, f = (Try.prog.fieldsOf 65)[2]! := ⟨_, rfl⟩
  obtain ⟨f3, hf3⟩ : ∃ f, f = (Try.prog.fieldsOf 65)[3]! := ⟨_, rfl⟩
  have hl : (Try.prog.fieldsOf 65).toList = [f0, f1, f2, f3] := by
    rw [hf0, hf1, hf2, hf3]
    kernel_rfl
  have n0 : ¬ f0.name = "_" := by rw [hf0]; exact of_decide_eq_true (by kernel_rfl)
  have n1 : ¬ f1.name = "_" := by rw [hf1]; exact of_decide_eq_true (by kernel_rfl)
  have n2 : ¬ f2.name = "_" := by rw [hf2]; exact of_decide_eq_true (by kernel_rfl)
  have n3 : ¬ f3.name = "_" := by rw [hf3]; exact of_decide_eq_true (by kernel_rfl)
  have t0 : f0.type = 5 := by rw [hf0]; kernel_rfl
  have t1 : f1.type = 62 := by rw [hf1]; kernel_rfl
  have t2 : f2.type = 3 := by rw [hf2]; kernel_rfl
  have t3 : f3.type = 63 := by rw [hf3]; kernel_rfl
  have o0 : f0.offset = 0 := by rw [hf0]; kernel_rfl
  have o1 : f1.offset = 1 := by rw [hf1]; kernel_rfl
  have o2 : f2.offset = 2 := by rw [hf2]; kernel_rfl
  have o3 : f3.offset = 3 := by rw [hf3]; kernel_rfl
  rw [hl]
  have e0 : ((s.mark.toNat : Int) == (t.mark.toNat : Int)) = (s.mark == t.mark) := by
    rw [Bool.eq_iff_iff]; simp [← UInt8.toNat_inj]; omega
  have e1 : ((s.seq.toNat : Int) == (t.seq.toNat : Int)) = (s.seq == t.seq) := by
    rw [Bool.eq_iff_iff]; simp [← UInt32.toNat_inj]; omega
  have a0 := part_cell _ agg_u8 s.cells.toArray 0 (B8 s.mark) rfl
  have b0 := part_cell _ agg_u8 t.cells.toArray 0 (B8 t.mark) rfl
  have a1 := part_cell _ agg_u32 s.cells.toArray 1 (.int .u32 (s.seq.toNat : Int)) rfl
  have b1 := part_cell _ agg_u32 t.cells.toArray 1 (.int .u32 (t.seq.toNat : Int)) rfl
  have a2 := part_cell _ agg_int s.cells.toArray 2 (.int .i64 s.idx) rfl
  have b2 := part_cell _ agg_int t.cells.toArray 2 (.int .i64 t.idx) rfl
  have a3 := part_rest _ 48 Try.isAgg63 Try.sizeOf63 s.cells.toArray 3 _ (sec_extract s hs)
  have b3 := part_rest _ 48 Try.isAgg63 Try.sizeOf63 t.cells.toArray 3 _ (sec_extract t ht)
  have q0 : ∀ (x y : Int) (w : World), (Op.equalIn 9999 5 (.int .u8 x) (.int .u8 y)).run Try.prog w = .ok (x == y) w := fun x y w => run_equalIn_int w 9998 _ _ _ x y Try.underlying5
  have q1 : ∀ (x y : Int) (w : World), (Op.equalIn 9999 62 (.int .u32 x) (.int .u32 y)).run Try.prog w = .ok (x == y) w := fun x y w => run_equalIn_int w 9998 _ _ _ x y Try.underlying62
  have q2 : ∀ (x y : Int) (w : World), (Op.equalIn 9999 3 (.int .i64 x) (.int .i64 y)).run Try.prog w = .ok (x == y) w := fun x y w => run_equalIn_int w 9998 _ _ _ x y Try.underlying3
  have q3 : ∀ (w : World), (Op.equalIn 9999 63 (.agg (s.body.map B8).toArray) (.agg (t.body.map B8).toArray)).run Try.prog w = .ok (s.body == t.body) w := fun w => eq_piece s.body t.body hs ht 9997 w
  simp only [Op.eqFields, n0, n1, n2, n3, ne_eq, not_false_eq_true, if_true, t0, t1, t2, t3, o0, o1, o2, o3, Sem.run_bind, a0, b0, Result.andThen_ok, q0, e0, secEq]
  cases (s.mark == t.mark)
  · simp
  simp only [Bool.not_true, Bool.false_eq_true, if_false, Sem.run_bind, a1, b1, Result.andThen_ok, q1, e1, Bool.true_and]
  cases (s.seq == t.seq)
  · simp
  simp only [Bool.not_true, Bool.false_eq_true, if_false, Sem.run_bind, a2, b2, Result.andThen_ok, q2, Bool.true_and]
  cases (s.idx == t.idx)
  · simp
  simp only [Bool.not_true, Bool.false_eq_true, if_false, Sem.run_bind, a3, b3, Result.andThen_ok, q3, Bool.true_and]
  cases (s.body == t.body) <;> simp
theorem guard_sec : Try.prog.eqGuardType Try.prog.depth 65 = false := by kernel_rfl
end Go.Proofs.Ythieeidbfdhaaaa
