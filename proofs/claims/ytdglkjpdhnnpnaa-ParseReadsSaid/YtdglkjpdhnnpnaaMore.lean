/-
  More laws at an operation: a struct that is built, make of bytes under a guard.
-/
import Derived.Test.YtdglkjpdhnnpnaaArrays
namespace Go.Proofs.Ytdglkjpdhnnpnaa
open Go Go.RowKit

section
variable {F : Fence} {n : Nat} {P : Program} {w : World} {ops : Array Oper} {rest : List Oper} {o : Oper} {a : Act} {Q : Exit → Act → World → Prop}
/-- T{..}: by the table's own word. -/
theorem exec_build (t : TypeId) (parts : Array (Nat × Operand)) (ho : o.op = .build t parts) (cs : List Value) (h : P.built t (parts.map fun (i, x) => (i, a.eval x)).toList = some cs.toArray) :
    (execOp a.eval o).run P w = .ok (.value (.agg cs.toArray)) w := by
  simp only [execOp, ho, Sem.run_bind, run_build w t _ _ h, Result.andThen_ok, Sem.run_pure]
theorem wpList_build (d : Tmp) (hd : o.dst = some d) (t : TypeId) (parts : Array (Nat × Operand)) (ho : o.op = .build t parts) (cs : List Value) (hgd : Region.wanted o (yielded ops a.tmps) = true) (h : P.built t (parts.map fun (i, x) => (i, a.eval x)).toList = some cs.toArray)
    (hK : wpList P ops Q rest (a.put (some d) (.agg cs.toArray)) w) : wpList P ops Q (o :: rest) a w := by
  rw [← hd] at hK
  exact wpList_run hgd _ _ (exec_build t parts ho cs h) hK
/-- T{x, y, z, u}. -/
theorem wpList_build4 (d : Tmp) (hd : o.dst = some d) (t : TypeId) (x0 x1 x2 x3 : Operand) (ho : o.op = .build t #[(0, x0), (1, x1), (2, x2), (3, x3)]) (cs : List Value) (v0 v1 v2 v3 : Value) (h : P.built t [(0, v0), (1, v1), (2, v2), (3, v3)] = some cs.toArray)
    (hgd : Region.wanted o (yielded ops a.tmps) = true) (h0 : a.eval x0 = v0) (h1 : a.eval x1 = v1) (h2 : a.eval x2 = v2) (h3 : a.eval x3 = v3) (hK : wpList P ops Q rest (a.put (some d) (.agg cs.toArray)) w) : wpList P ops Q (o :: rest) a w :=
  wpList_build d hd t _ ho cs hgd (by simpa [h0, h1, h2, h3] using h) hK
/-- T{}. -/
theorem wpList_build0 (d : Tmp) (hd : o.dst = some d) (t : TypeId) (ho : o.op = .build t #[]) (cs : List Value) (hgd : Region.wanted o (yielded ops a.tmps) = true) (h : P.built t [] = some cs.toArray)
    (hK : wpList P ops Q rest (a.put (some d) (.agg cs.toArray)) w) : wpList P ops Q (o :: rest) a w :=
  wpList_build d hd t #[] ho cs hgd (by simpa using h) hK
/-- x == y, x != y of two aggregates. -/
theorem exec_eql (t t' : TypeId) (x y : Operand) (ho : o.op = .binOp .eql t x y t') (cx cy : Array Value) (hx : a.eval x = .agg cx) (hy : a.eval y = .agg cy) (b : Bool) (hg : P.eqGuardType P.depth t = false)
    (hr : (Op.equalIn 10000 t (.agg cx) (.agg cy)).run P w = .ok b w) : (execOp a.eval o).run P w = .ok (.value (.bool b)) w := by
  simp only [execOp, ho, hx, hy, Sem.run_bind, run_eqGuard_agg w .eql t x y cx cy hg, Result.andThen_ok, run_eql_struct, hr, Sem.run_pure]
theorem exec_neq (t t' : TypeId) (x y : Operand) (ho : o.op = .binOp .neq t x y t') (cx cy : Array Value) (hx : a.eval x = .agg cx) (hy : a.eval y = .agg cy) (b : Bool) (hg : P.eqGuardType P.depth t = false)
    (hr : (Op.equalIn 10000 t (.agg cx) (.agg cy)).run P w = .ok b w) : (execOp a.eval o).run P w = .ok (.value (.bool (!b))) w := by
  simp only [execOp, ho, hx, hy, Sem.run_bind, run_eqGuard_agg w .neq t x y cx cy hg, Result.andThen_ok, run_neq_struct, hr, Sem.run_pure]
theorem wpList_eql (d : Tmp) (hd : o.dst = some d) (t t' : TypeId) (x y : Operand) (ho : o.op = .binOp .eql t x y t') (cx cy : Array Value) (hgd : Region.wanted o (yielded ops a.tmps) = true) (hx : a.eval x = .agg cx) (hy : a.eval y = .agg cy) (b : Bool) (hg : P.eqGuardType P.depth t = false)
    (hr : (Op.equalIn 10000 t (.agg cx) (.agg cy)).run P w = .ok b w) (hK : wpList P ops Q rest (a.put (some d) (.bool b)) w) : wpList P ops Q (o :: rest) a w := by
  rw [← hd] at hK
  exact wpList_run hgd _ _ (exec_eql t t' x y ho cx cy hx hy b hg hr) hK
theorem wpList_neq (d : Tmp) (hd : o.dst = some d) (t t' : TypeId) (x y : Operand) (ho : o.op = .binOp .neq t x y t') (cx cy : Array Value) (hgd : Region.wanted o (yielded ops a.tmps) = true) (hx : a.eval x = .agg cx) (hy : a.eval y = .agg cy) (b : Bool) (hg : P.eqGuardType P.depth t = false)
    (hr : (Op.equalIn 10000 t (.agg cx) (.agg cy)).run P w = .ok b w) (hK : wpList P ops Q rest (a.put (some d) (.bool (!b))) w) : wpList P ops Q (o :: rest) a w := by
  rw [← hd] at hK
  exact wpList_run hgd _ _ (exec_neq t t' x y ho cx cy hx hy b hg hr) hK
/-- make([]byte, n), under a guard too. -/
theorem wpList_make_bytes_b {a0 : World} (hB0 : Below a0.heap.size a0 w) (hgd : Region.wanted o (yielded ops a.tmps) = true) (l c : Operand) (t : TypeId) (hop : o.op = Op.makeSlice t l c)
    {e : TypeId} (ht : P.underlying t = some (.slice e)) (hinfo : (P.info? e).map (fun i => (i.zero, i.size, i.bytes)) = some (some (.int .u8 0), 1, 1))
    (kl kc : IntKind) (m : Nat) (hl : a.eval l = .int kl (m : Int)) (hc : a.eval c = .int kc (m : Int)) (hn : m ≤ 140737488355328)
    (h : ∀ (bs : List UInt8) (w' : World), Hid (bs = List.replicate m 0) → Hid (bs.length = m) → OwnB w' a0.heap.size e (some ⟨w.heap.size, 0, none⟩) m bs → Below a0.heap.size a0 w' → Below w.heap.size w w' → wpList P ops Q rest (a.put o.dst (.slice (some ⟨w.heap.size, 0, none⟩) m m)) w') :
    wpList P ops Q (o :: rest) a w := by
  obtain ⟨i, hi, hz0, hz1, hz2⟩ := info_parts hinfo
  obtain ⟨w', hrun, h1, h2⟩ := run_make_full (P := P) w a0.heap.size t e i _ 1 ht hi hz0 hz1 kl kc m (by rw [hz2]; omega) (by simp [maxLen]; omega) hB0.size
  refine wpList_want hgd fun K hK' => ?_
  unfold Oper.wp
  simp [execOp, hop, hl, hc, hrun, Result.andThen]
  rw [made_bytes] at h1
  refine hK' _ _ (h (List.replicate m 0) w' rfl List.length_replicate ?_ (bgrown hB0 h2 (fun k e => by cases e)) ((Below.refl _ w).grown h2 (Nat.le_refl _) (fun k e => by cases e)))
  unfold OwnB
  rw [List.length_replicate]
  exact h1
end

end Go.Proofs.Ytdglkjpdhnnpnaa
