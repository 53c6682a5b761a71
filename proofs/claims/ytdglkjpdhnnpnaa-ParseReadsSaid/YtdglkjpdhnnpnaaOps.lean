/-
  Single operations: what they yield.
-/
import Derived.Test.YtdglkjpdhnnpnaaHeld
namespace Go.Proofs.Ytdglkjpdhnnpnaa
open Go Go.RowKit

theorem exec_load_cell {P : Program} {w : World} {o : Oper} {a : Act} (t : TypeId) (x : Operand) (ho : o.op = .load t x) (ad : Addr) (v : Value) (hx : a.eval x = .pointer (some ad)) (hc : w.cell? ad = some v) (ha : ∀ w, (isAgg t).run P w = .ok false w) :
    (execOp a.eval o).run P w = .ok (.value v) w := by
  simp only [execOp, ho, hx, Instr.loadAt, Instr.sureAddr, loadVar, Sem.run_bind, Sem.run_pure, Result.andThen_ok, ha, Bool.false_eq_true, if_false, run_load, hc]
theorem exec_eql_int {P : Program} {w : World} {o : Oper} {a : Act} (t t' : TypeId) (x y : Operand) (ho : o.op = .binOp .eql t x y t') (i j : Int) (hx : a.eval x = .int .i64 i) (hy : a.eval y = .int .i64 j) (b : Bool) (hb : (i == j) = b) :
    (execOp a.eval o).run P w = .ok (.value (.bool b)) w := by
  subst hb
  simp only [execOp, ho, hx, hy]
  rfl
theorem exec_index_slice {P : Program} {w : World} {o : Oper} {a : Act} (t e : TypeId) (x ix : Operand) (ho : o.op = .indexAddr t x ix) (g off k n c sz : Nat) (hu : P.underlying t = some (.slice e)) (hs : ∀ w, (sizeOf e).run P w = .ok sz w)
    (hx : a.eval x = .slice (some ⟨g, off, none⟩) n c) (hi : a.eval ix = .int .i64 (k : Int)) (hk : k < n) : (execOp a.eval o).run P w = .ok (.value (.pointer (some ⟨g, off + k * sz, none⟩))) w := by
  have h1 : (0 : Int) ≤ (k : Int) ∧ (k : Int) < (n : Int) := by omega
  simp [execOp, ho, hx, hi, Instr.indexAt, asIntOf, run_underlying hu, hs, h1, add_at, hk]
theorem exec_sub1 {P : Program} {w : World} {o : Oper} {a : Act} (t t' : TypeId) (x : Operand) (ho : o.op = .binOp .sub t x (.const (.int .i64 1)) t') (m : Nat) (hx : a.eval x = .int .i64 ((m : Int) + 1)) (hm : m ≤ 1000000) :
    (execOp a.eval o).run P w = .ok (.value (.int .i64 (m : Int))) w := by
  have h1 : IntKind.i64.wrap ((m : Int) + 1 - 1) = (m : Int) := by
    rw [IntKind.wrap_i64]
    omega
  simp only [execOp, ho, hx]
  show Result.ok (Next.value (.int .i64 (IntKind.i64.wrap ((m : Int) + 1 - 1)))) w = _
  rw [h1]
theorem exec_store_cell {P : Program} {w : World} {o : Oper} {a : Act} (t : TypeId) (x y : Operand) (ho : o.op = .store t x y) (g j : Nat) (v u : Value) (hx : a.eval x = .pointer (some ⟨g, j, none⟩)) (hy : a.eval y = v) (hv : v.cells = #[v]) (h1 : v.oneCell' = true) (hs : ∀ w, (sizeOf t).run P w = .ok 1 w) (hc : w.cell? ⟨g, j, none⟩ = some u) (hf : w.frozen? ⟨g, j, none⟩ = false) :
    (execOp a.eval o).run P w = .ok .skip (w.setCell ⟨g, j, none⟩ v) := by
  simp [execOp, ho, hx, hy, Instr.storeAt, Instr.sureAddr, storeVar, hv, hs, storeCells, add_at, run_store _ _ _ _ _ h1, hc, hf]
theorem exec_app {P : Program} {w w1 : World} {o : Oper} {a : Act} (s x : Operand) (t ty : TypeId) (ho : o.op = .call { callee := .builtin .append, args := #[s, x], argTypes := #[t, t] }) (hty : o.type = ty) {v u r : Value} (hs : a.eval s = v) (hx : a.eval x = u)
    (hr : (Builtin.append_ #[t, t] ty #[v, u]).run P w = .ok r w1) : (execOp a.eval o).run P w = .ok (.value r) w1 := by
  subst hty hs hx
  simp only [execOp, ho, resolve, invoke, builtin, Sem.run_bind, Sem.run_pure, Result.andThen_ok, List.map_toArray, List.map_cons, List.map_nil, hr]
theorem exec_empty {P : Program} {w w1 : World} {o : Oper} {a : Act} (t : TypeId) (ho : o.op = .buildSlice t 0 #[]) {v : Value} (hr : (Instr.buildSlice t 0 #[]).run P w = .ok v w1) : (execOp a.eval o).run P w = .ok (.value v) w1 := by
  simp only [execOp, ho, List.map_toArray, List.map_nil, Sem.run_bind, hr, Result.andThen_ok, Sem.run_pure]
end Go.Proofs.Ytdglkjpdhnnpnaa
