/-
  A disk beside variables of the call's own that are written; arrays of blocks among cells.
-/
import Derived.Test.YthieeidbfdhaaaaFair
namespace Go.Proofs.Ythieeidbfdhaaaa
open Go Go.RowKit

theorem Live.grown {w0 w w' : World} {gd : Nat} {D : List Sct} {F : List Nat} (h : Live w0 w gd D F) {g : Nat} (hg : w.grownBy w' (some g)) (hF : g ∈ F) (h0 : w0.heap.size ≤ g) : Live w0 w' gd D F := by
  obtain ⟨base, gs, V, h1, h2, h3, h4⟩ := h
  have hlt := hg.size
  refine ⟨base, gs, V, h1, h2.kept fun k hk ho => hg.block k hk (fun e => ?_), h3.grown hg h3.size (fun k e => by cases e; exact h0), fun b hb => ⟨Nat.lt_of_lt_of_le (h4 b hb).1 hlt, (h4 b hb).2⟩⟩
  cases e
  rcases ho with rfl | ho
  · exact (h4 _ hF).2.1 rfl
  · exact (h4 _ hF).2.2 ho
theorem fair_b (A : Option Addr) (c : Nat) (l : List DStep) (w : World) (B : Nat) (h : DStepsAt w B A l) (hl : l.length ≤ 9223372036854775807) (b : Bool) (hb : fairB l = b) :
    Calls Try.prog 14 #[.slice A l.length c] w fun e w' => e = .returned (.bool b) ∧ w = w' := by
  subst hb
  exact fair_calls A c l w B h hl
/-- &x[i] of an array. -/
theorem exec_index {P : Program} {w : World} {o : Oper} {a : Act} (t e : TypeId) (x ix : Operand) (ho : o.op = .indexAddr t x ix) (g off k n sz : Nat) (hu : P.underlying t = some (.array n e)) (hs : ∀ w, (sizeOf e).run P w = .ok sz w)
    (hx : a.eval x = .pointer (some ⟨g, off, none⟩)) (hi : a.eval ix = .int .i64 (k : Int)) (hk : k < n) : (execOp a.eval o).run P w = .ok (.value (.pointer (some ⟨g, off + k * sz, none⟩))) w := by
  have h1 : (0 : Int) ≤ (k : Int) ∧ (k : Int) < (n : Int) := by omega
  simp [execOp, ho, hx, hi, Instr.indexAt, asIntOf, run_underlying hu, Instr.sureAddr, hs, h1, add_at, hk]
theorem live_own {w0 w w' : World} {gd : Nat} {D : List Sct} {F : List Nat} (h : Live w0 w gd D F) (hB : Below w.heap.size w w') {e : TypeId} {A : Option Addr} {c : Nat} {bs : List UInt8} (hown : OwnB w' w.heap.size e A c bs) :
    ∃ F', Live w0 w' gd D F' ∧ (∀ b, A.map (·.block) = some b → b ∈ F') ∧ ∀ b ∈ F, b ∈ F' := by
  have hlt := hown.lt
  cases A with
  | none => exact ⟨F, h.step hB, fun b e => (by cases e), fun _ hb => hb⟩
  | some ad =>
    obtain ⟨h1, h2⟩ := hlt ad.block rfl
    exact ⟨ad.block :: F, h.add hB ad.block h1 h2, fun b e => by cases e; exact List.mem_cons_self .., fun b hb => List.mem_cons_of_mem _ hb⟩
theorem exec_eql_int {P : Program} {w : World} {o : Oper} {a : Act} (t t' : TypeId) (x y : Operand) (ho : o.op = .binOp .eql t x y t') (i j : Int) (hx : a.eval x = .int .i64 i) (hy : a.eval y = .int .i64 j) (b : Bool) (hb : (i == j) = b) :
    (execOp a.eval o).run P w = .ok (.value (.bool b)) w := by
  subst hb
  simp only [execOp, ho, hx, hy]
  rfl
theorem exec_index_slice {P : Program} {w : World} {o : Oper} {a : Act} (t e : TypeId) (x ix : Operand) (ho : o.op = .indexAddr t x ix) (g off k n c sz : Nat) (hu : P.underlying t = some (.slice e)) (hs : ∀ w, (sizeOf e).run P w = .ok sz w)
    (hx : a.eval x = .slice (some ⟨g, off, none⟩) n c) (hi : a.eval ix = .int .i64 (k : Int)) (hk : k < n) : (execOp a.eval o).run P w = .ok (.value (.pointer (some ⟨g, off + k * sz, none⟩))) w := by
  have h1 : (0 : Int) ≤ (k : Int) ∧ (k : Int) < (n : Int) := by omega
  simp [execOp, ho, hx, hi, Instr.indexAt, asIntOf, run_underlying hu, hs, h1, add_at, hk]
/-- Blocks of N bytes, one behind the other. -/
theorem flat_length {N : Nat} (ws : List (List UInt8)) (h : ∀ x ∈ ws, x.length = N) : ws.flatten.length = ws.length * N := rows_flat ws h
theorem flat_part {N : Nat} (ws : List (List UInt8)) (h : ∀ x ∈ ws, x.length = N) (k : Nat) (hk : k < ws.length) : (ws.flatten.drop (k * N)).take N = ws[k] := by
  have e : ws.flatten = (ws.take k).flatten ++ (ws[k] ++ (ws.drop (k + 1)).flatten) := by
    conv => lhs; rw [← List.take_append_drop k ws, List.drop_eq_getElem_cons hk]
    rw [List.flatten_append, List.flatten_cons]
  have hl : (ws.take k).flatten.length = k * N := by
    rw [flat_length (ws.take k) (fun x hx => h x (List.mem_of_mem_take hx)), List.length_take, Nat.min_eq_left (by omega)]
  have h1 : ws[k].length = N := h _ (List.getElem_mem hk)
  rw [e, List.drop_append_of_le_length (by omega), List.drop_of_length_le (by omega), List.nil_append, List.take_append_of_le_length (by omega), List.take_of_length_le (by omega)]
theorem flat_set {N : Nat} (ws : List (List UInt8)) (h : ∀ x ∈ ws, x.length = N) (k : Nat) (hk : k < ws.length) (b : List UInt8) (hb : b.length = N) : splice ws.flatten (k * N) b = (ws.set k b).flatten := by
  have e : ws.flatten = (ws.take k).flatten ++ (ws[k] ++ (ws.drop (k + 1)).flatten) := by
    conv => lhs; rw [← List.take_append_drop k ws, List.drop_eq_getElem_cons hk]
    rw [List.flatten_append, List.flatten_cons]
  have hl : (ws.take k).flatten.length = k * N := by
    rw [flat_length (ws.take k) (fun x hx => h x (List.mem_of_mem_take hx)), List.length_take, Nat.min_eq_left (by omega)]
  have h1 : ws[k].length = N := h _ (List.getElem_mem hk)
  have e2 : ws.set k b = ws.take k ++ b :: ws.drop (k + 1) := List.set_eq_take_append_cons_drop.trans (by rw [if_pos hk])
  unfold splice
  rw [e2, List.flatten_append, List.flatten_cons, e, List.take_append_of_le_length (by omega), List.take_of_length_le (by omega), hb]
  congr 2
  rw [List.drop_append, hl, List.drop_of_length_le (by omega), List.nil_append, show k * N + N - k * N = N by omega, List.drop_append, h1, List.drop_of_length_le (by omega), List.nil_append, Nat.sub_self, List.drop_zero]
theorem cells_part (ws : List (List UInt8)) (h : ∀ x ∈ ws, x.length = 64) (k : Nat) (hk : k < ws.length) : ((ws.flatten.map B8).drop (k * 64)).take 64 = ws[k].map B8 := by
  rw [← List.map_drop, ← List.map_take, flat_part ws h k hk]
theorem cells_set (ws : List (List UInt8)) (h : ∀ x ∈ ws, x.length = 64) (k : Nat) (hk : k < ws.length) (b : List UInt8) (hb : b.length = 64) : splice (ws.flatten.map B8) (k * 64) (b.map B8) = (ws.set k b).flatten.map B8 := by
  rw [← flat_set ws h k hk b hb]
  unfold splice
  rw [List.map_append, List.map_append, List.map_take, List.map_drop, List.length_map]
end Go.Proofs.Ythieeidbfdhaaaa
