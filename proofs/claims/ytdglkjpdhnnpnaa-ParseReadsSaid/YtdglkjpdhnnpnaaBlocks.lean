/-
  Whole rows of cells: a variable of an array's or a struct's type in a block of its own; it is made, read and written whole or in part. The world behind is a variable.
-/
import Derived.Test.YtdglkjpdhnnpnaaBase
import Derived.Below
import Derived.WalkKit
import Derived.Deep.WholeRow
import Derived.Laws.CopyRow
import Derived.Laws.CopyOwn
import Derived.Laws.Cells
import Derived.Laws.Rows
import Derived.Laws.World
namespace Go.Proofs.Ytdglkjpdhnnpnaa
open Go Go.RowKit

/-- The block g is a row of these cells. -/
def RowAt (w : World) (g : Nat) (t : TypeId) (cs : List Value) : Prop := w.heap[g]? = some (.cells cs.toArray t (0, 0))

theorem RowAt.lt {w : World} {g : Nat} {t : TypeId} {cs : List Value} (h : RowAt w g t cs) : g < w.heap.size := (Array.getElem?_eq_some_iff.1 h).1
theorem RowAt.cell {w : World} {g : Nat} {t : TypeId} {cs : List Value} (h : RowAt w g t cs) (j : Nat) : w.cell? ⟨g, j, none⟩ = cs[j]? := by
  rw [cell_of_row w g j cs.toArray t (0, 0) h]
  simp
theorem RowAt.cellD {w : World} {g : Nat} {t : TypeId} {cs : List Value} (h : RowAt w g t cs) (j : Nat) (v : Value) (hv : cs[j]? = some v) : w.cell? ⟨g, j, none⟩ = some v := by rw [h.cell, hv]
theorem RowAt.free {w : World} {g : Nat} {t : TypeId} {cs : List Value} (h : RowAt w g t cs) (j : Nat) : w.frozen? ⟨g, j, none⟩ = false := by
  unfold RowAt at h
  simp [World.frozen?, h]
theorem RowAt.below {w w' : World} {B g : Nat} {t : TypeId} {cs : List Value} (h : RowAt w g t cs) (hb : Below B w w') (hg : g < B) : RowAt w' g t cs := (hb.block g hg).trans h
theorem RowAt.step {w w' : World} {g : Nat} {t : TypeId} {cs : List Value} (h : RowAt w g t cs) (hb : Below w.heap.size w w') : RowAt w' g t cs := h.below hb h.lt
theorem RowAt.kept {w w' : World} {g : Nat} {t : TypeId} {cs : List Value} {r : Option Nat} (h : RowAt w g t cs) (hg : w.grownBy w' r) (hr : r ≠ some g) : RowAt w' g t cs := (hg.block g h.lt (fun e => hr e.symm)).trans h

theorem RowAt.load {P : Program} {w : World} {g : Nat} {t : TypeId} {cs : List Value} (h : RowAt w g t cs) (off n : Nat) (vs : List Value) (hvs : (cs.drop off).take n = vs) (hn : vs.length = n) :
    (loadCellsFrom ⟨g, off, none⟩ 0 n #[]).run P w = .ok vs.toArray w := by
  subst hn
  refine run_loadCells_list (P := P) w ⟨g, off, none⟩ vs fun j v hj => ?_
  rw [add_at, h.cell]
  have hj' : j < vs.length := (List.getElem?_eq_some_iff.1 hj).1
  rw [← hvs, List.getElem?_take, if_pos hj', List.getElem?_drop] at hj
  exact hj

theorem setRow_row {w : World} {g : Nat} {t : TypeId} {cs : List Value} (h : RowAt w g t cs) (cs' : List Value) : RowAt (w.setRow g cs'.toArray) g t cs' := setRow_heap w g _ _ t _ h
theorem setRow_grown (w : World) (g : Nat) (cs : Array Value) : w.grownBy (w.setRow g cs) (some g) :=
  ⟨rfl, rfl, rfl, by simp [World.setRow], fun k _ hne => setRow_other w g k cs (fun e => hne (by rw [e]))⟩
theorem setRow_size (w : World) (g : Nat) (cs : Array Value) : (w.setRow g cs).heap.size = w.heap.size := by simp [World.setRow]

/-- One cell of a row turned. -/
theorem RowAt.set {w : World} {g : Nat} {t : TypeId} {cs : List Value} (h : RowAt w g t cs) (j : Nat) (v : Value) : RowAt (w.setCell ⟨g, j, none⟩ v) g t (cs.set j v) := by
  rw [setCell_eq_setRow w g j _ t (0, 0) v h]
  have := setRow_row h (cs.set j v)
  simpa using this
theorem setCell_grown (w : World) (g j : Nat) (v : Value) : w.grownBy (w.setCell ⟨g, j, none⟩ v) (some g) :=
  ⟨rfl, rfl, rfl, by simp, fun _ _ hne => Below.heap_setCell _ _ _ _ (fun e => hne (by rw [e]))⟩

theorem run_alloc_row {P : Program} {t : TypeId} {zs : List Value} (hz : ∀ w, (zeroValue t).run P w = .ok (.agg zs.toArray) w) (w : World) (b : Bool) :
    (Instr.alloc t true (.tuple #[])).run P w = .ok (.pointer (some ⟨w.heap.size, 0, none⟩)) (w.alloc (.cells zs.toArray t)) ∧ b = b := by
  refine ⟨?_, rfl⟩
  simp [Instr.alloc, hz, newVar, newRow, Sem.run_bind, Value.cells, go_sem]

theorem alloc_row (w : World) (t : TypeId) (zs : List Value) : RowAt (w.alloc (.cells zs.toArray t)) w.heap.size t zs := heap_alloc_last w _
theorem alloc_below (w : World) (o : Obj) : Below w.heap.size w (w.alloc o) := (Below.refl _ w).alloc (Nat.le_refl _) o

section
variable {P : Program} {w : World} {ops : Array Oper} {rest : List Oper} {o : Oper} {a : Act} {Q : Exit → Act → World → Prop}

theorem wpList_run (hgd : Region.wanted o (yielded ops a.tmps) = true) (v : Value) (w' : World) (hr : (execOp a.eval o).run P w = .ok (.value v) w') (h : wpList P ops Q rest (a.put o.dst v) w') : wpList P ops Q (o :: rest) a w := by
  refine wpList_want hgd fun K hK => ?_
  unfold Oper.wp
  simp only [hr]
  exact hK _ _ h

theorem wpList_skip (hgd : Region.wanted o (yielded ops a.tmps) = true) (w' : World) (hr : (execOp a.eval o).run P w = .ok .skip w') (h : wpList P ops Q rest (a.put o.dst undef) w') : wpList P ops Q (o :: rest) a w := by
  refine wpList_want hgd fun K hK => ?_
  unfold Oper.wp
  simp only [hr]
  exact hK _ _ h

/-- A variable is made. -/
theorem wpList_alloc_row (d : Tmp) (hd : o.dst = some d) (t : TypeId) (ho : o.op = .alloc t) (zs : List Value) (hgd : Region.wanted o (yielded ops a.tmps) = true) (hz : ∀ w, (zeroValue t).run P w = .ok (.agg zs.toArray) w)
    (h : ∀ w1, RowAt w1 w.heap.size t zs → w1.heap.size = w.heap.size + 1 → Below w.heap.size w w1 → wpList P ops Q rest (a.put (some d) (.pointer (some ⟨w.heap.size, 0, none⟩))) w1) : wpList P ops Q (o :: rest) a w := by
  rw [← hd] at h
  refine wpList_run hgd _ (w.alloc (.cells zs.toArray t)) ?_ (h _ (alloc_row w t zs) (by simp) (alloc_below w _))
  simp only [execOp, ho, Sem.run_bind, (run_alloc_row hz w true).1, Result.andThen_ok, Sem.run_pure]

/-- A value is laid into a variable of its own. -/
theorem wpList_box_row (d : Tmp) (hd : o.dst = some d) (t : TypeId) (x : Operand) (ho : o.op = .box t x) (cs : List Value) (hgd : Region.wanted o (yielded ops a.tmps) = true) (hx : a.eval x = .agg cs.toArray) 
    (h : ∀ w1, RowAt w1 w.heap.size t cs → w1.heap.size = w.heap.size + 1 → Below w.heap.size w w1 → wpList P ops Q rest (a.put (some d) (.pointer (some ⟨w.heap.size, 0, none⟩))) w1) : wpList P ops Q (o :: rest) a w := by
  rw [← hd] at h
  refine wpList_run hgd _ (w.alloc (.cells cs.toArray t)) ?_ (h _ (alloc_row w t cs) (by simp) (alloc_below w _))
  simp only [execOp, ho, hx]
  simp [Instr.box, newVar, newRow, Value.cells, go_sem]

/-- A part of a row is read. -/
theorem wpList_load_part (d : Tmp) (hd : o.dst = some d) (t : TypeId) (x : Operand) (ho : o.op = .load t x) {g : Nat} {tr : TypeId} {cs : List Value} (hrow : RowAt w g tr cs) (off n : Nat) (vs : List Value) (hgd : Region.wanted o (yielded ops a.tmps) = true)
    (hx : a.eval x = .pointer (some ⟨g, off, none⟩)) (hvs : (cs.drop off).take n = vs) (hl : vs.length = n) (ha : ∀ w, (isAgg t).run P w = .ok true w) (hs : ∀ w, (sizeOf t).run P w = .ok n w)
    (h : wpList P ops Q rest (a.put (some d) (.agg vs.toArray)) w) : wpList P ops Q (o :: rest) a w := by
  rw [← hd] at h
  refine wpList_run hgd _ w ?_ h
  have hl' := hrow.load (P := P) off n vs hvs hl
  simp only [execOp, ho, hx, Instr.loadAt, Instr.sureAddr, loadVar, loadCells, Sem.run_bind, Sem.run_pure, Result.andThen_ok, ha, hs, hl', if_true]

/-- A part of a row is written. -/
theorem wpList_store_part (t : TypeId) (x y : Operand) (ho : o.op = .store t x y) {g : Nat} {tr : TypeId} {cs : List Value} (hrow : RowAt w g tr cs) (off : Nat) (vs : List Value) (hgd : Region.wanted o (yielded ops a.tmps) = true)
    (hx : a.eval x = .pointer (some ⟨g, off, none⟩)) (hy : a.eval y = .agg vs.toArray) (hs : ∀ w, (sizeOf t).run P w = .ok vs.length w) (hfit : off + vs.length ≤ cs.length) (h1 : ∀ v ∈ vs, v.oneCell' = true)
    (h : ∀ w1, RowAt w1 g tr (splice cs off vs) → w1.heap.size = w.heap.size → w.grownBy w1 (some g) → wpList P ops Q rest (a.put o.dst undef) w1) : wpList P ops Q (o :: rest) a w := by
  have hst := run_storeCells_at P g off tr vs 0 cs.toArray w hrow (by simpa using hfit) h1
  refine wpList_skip hgd _ ?_ (h _ (setRow_row hrow (splice cs off vs)) (setRow_size _ _ _) (setRow_grown _ _ _))
  simp only [execOp, ho, hx, hy, Instr.storeAt, Instr.sureAddr, storeVar, Value.cells, Sem.run_bind, Sem.run_pure, Result.andThen_ok, hs]
  simp only [List.size_toArray, ne_eq, not_true_eq_false, if_false, hst, Result.andThen_ok]
  simp [splice]
end

theorem splice_all {α : Type} (L vs : List α) (h : vs.length = L.length) : splice L 0 vs = vs := by
  unfold splice
  simp [h]

theorem bytes_oneCell (bs : List UInt8) : ∀ v ∈ bs.map B8, v.oneCell' = true := by
  intro v hv
  obtain ⟨x, _, rfl⟩ := List.mem_map.1 hv
  rfl

/-- A row's bytes, from a place on. -/
theorem RowAt.bytes {w : World} {g : Nat} {t : TypeId} {cs : List Value} (h : RowAt w g t cs) (off : Nat) (bs : List UInt8) (hb : ∀ j, j < bs.length → cs[off + j]? = some (B8 (bs[j]?.getD 0))) :
    BytesAt w w.heap.size (some ⟨g, off, none⟩) bs := .inr ⟨g, off, rfl, h.lt, fun j hj => by rw [h.cell, hb j hj]⟩

end Go.Proofs.Ytdglkjpdhnnpnaa
