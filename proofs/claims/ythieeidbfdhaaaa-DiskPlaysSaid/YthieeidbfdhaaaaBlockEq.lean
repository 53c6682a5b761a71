/-
  Comparing blocks, and a block of zeros, behind words that the walk does not open.
-/
import Derived.Test.YthieeidbfdhaaaaDiskWrite
namespace Go.Proofs.Ythieeidbfdhaaaa
open Go Go.RowKit

@[irreducible] def eblock (x y : Operand) (a b : Value) : Sem Value := do eqGuard .eql 37 x y a b; binOp .eql 37 a b
@[irreducible] def nblock (x y : Operand) (a b : Value) : Sem Value := do eqGuard .neq 37 x y a b; binOp .neq 37 a b
@[irreducible] def zblock : Sem Value := Instr.build 37 #[]
theorem run_eblock (l m : List UInt8) (hl : l.length = 64) (hm : m.length = 64) (x y : Operand) (w : World) : (eblock x y (.agg (l.map B8).toArray) (.agg (m.map B8).toArray)).run Try.prog w = .ok (.bool (l == m)) w := by
  unfold eblock
  simp only [Sem.run_bind, run_eqGuard_agg w .eql 37 x y _ _ guard_block, Result.andThen_ok, run_eql_struct, neq_block l m hl hm]
theorem run_nblock (l m : List UInt8) (hl : l.length = 64) (hm : m.length = 64) (x y : Operand) (w : World) : (nblock x y (.agg (l.map B8).toArray) (.agg (m.map B8).toArray)).run Try.prog w = .ok (.bool (!(l == m))) w := by
  unfold nblock
  simp only [Sem.run_bind, run_eqGuard_agg w .neq 37 x y _ _ guard_block, Result.andThen_ok, run_neq_struct, neq_block l m hl hm]
theorem run_zblock (w : World) : zblock.run Try.prog w = .ok (.agg ((zeros 64).map B8).toArray) w := by
  unfold zblock
  exact run_build w _ _ _ (by kernel_rfl)
section
variable (ρ : Operand → Value) (dst : Option Tmp) (ty ty' : TypeId) (pos : String) (after : Array Edge) (guard : Option (Nat × Bool))
theorem exec_eblock (x y : Operand) : execOp ρ { dst, op := .binOp .eql 37 x y ty', type := ty, pos, after, guard } = (do pure (.value (← eblock x y (ρ x) (ρ y)))) := by unfold eblock; rfl
theorem exec_nblock (x y : Operand) : execOp ρ { dst, op := .binOp .neq 37 x y ty', type := ty, pos, after, guard } = (do pure (.value (← nblock x y (ρ x) (ρ y)))) := by unfold nblock; rfl
theorem exec_zblock : execOp ρ { dst, op := .build 37 #[], type := ty, pos, after, guard } = (do pure (.value (← zblock))) := by unfold zblock; simp [execOp]
end
theorem exec_build0 {P : Program} {w : World} {o : Oper} {a : Act} (t : TypeId) (ho : o.op = .build t #[]) (cs : List Value) (h : P.built t [] = some cs.toArray) : (execOp a.eval o).run P w = .ok (.value (.agg cs.toArray)) w :=
  exec_build t #[] ho cs (by simpa using h)
/-- One cell is read. -/
theorem exec_load_cell {P : Program} {w : World} {o : Oper} {a : Act} (t : TypeId) (x : Operand) (ho : o.op = .load t x) (ad : Addr) (v : Value) (hx : a.eval x = .pointer (some ad)) (hc : w.cell? ad = some v) (ha : ∀ w, (isAgg t).run P w = .ok false w) :
    (execOp a.eval o).run P w = .ok (.value v) w := by
  simp only [execOp, ho, hx, Instr.loadAt, Instr.sureAddr, loadVar, Sem.run_bind, Sem.run_pure, Result.andThen_ok, ha, Bool.false_eq_true, if_false, run_load, hc]
/-- The same for lists of cells that are variables. -/
theorem eblock_L {l m : List UInt8} (hl : l.length = 64) (hm : m.length = 64) {L M : List Value} (hL : Hid (L = l.map B8)) (hM : Hid (M = m.map B8)) (b : Bool) (hb : (l == m) = b) (x y : Operand) (w : World) : (eblock x y (.agg L.toArray) (.agg M.toArray)).run Try.prog w = .ok (.bool b) w := by
  rw [hL.out, hM.out, run_eblock l m hl hm, hb]
theorem nblock_L {l m : List UInt8} (hl : l.length = 64) (hm : m.length = 64) {L M : List Value} (hL : Hid (L = l.map B8)) (hM : Hid (M = m.map B8)) (b : Bool) (hb : (!(l == m)) = b) (x y : Operand) (w : World) : (nblock x y (.agg L.toArray) (.agg M.toArray)).run Try.prog w = .ok (.bool b) w := by
  rw [hL.out, hM.out, run_nblock l m hl hm, hb]
theorem zblock_L {L : List Value} (hL : Hid (L = (zeros 64).map B8)) (w : World) : zblock.run Try.prog w = .ok (.agg L.toArray) w := by
  rw [hL.out, run_zblock]
theorem block_under : Try.prog.underlying 37 = some (.array 64 5) := Try.underlying37
theorem block_info {L : List Value} (hL : L.length = 64) : (Try.prog.info? 37).map (·.size) = some L.length := by rw [hL]; kernel_rfl
theorem RowAt.range {w : World} {g : Nat} {t : TypeId} {cs : List Value} (h : RowAt w g t cs) : w.rangeAt g 0 cs := fun j v hj => by rw [Nat.zero_add]; exact h.cellD j v hj
theorem range_below {w w' : World} {g o : Nat} {cs : List Value} (h : w.rangeAt g o cs) (hb : Below w.heap.size w w') (h0 : 0 < cs.length) : w'.rangeAt g o cs := fun j v hj => by
  have h1 := h 0 _ (List.getElem?_eq_getElem h0)
  have h2 := World.block_lt_of_cell? w _ h1
  rw [hb.cell (p := ⟨g, o + j, none⟩) h2]
  exact h j v hj
end Go.Proofs.Ythieeidbfdhaaaa
