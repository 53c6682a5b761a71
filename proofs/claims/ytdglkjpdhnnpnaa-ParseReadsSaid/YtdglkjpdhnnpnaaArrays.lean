/-
  Rows of arrays of bytes: a slice literal of one array, append of it; the laws of whole rows, in a fence too.
-/
import Derived.Test.YtdglkjpdhnnpnaaSteps
import Derived.Great.BuildSlice
namespace Go.Proofs.Ytdglkjpdhnnpnaa
open Go Go.RowKit

/-! ### from an operation's run to the walk -/
section
variable {F : Fence} {n : Nat} {P : Program} {w : World} {ops : Array Oper} {rest : List Oper} {o : Oper} {a : Act} {Q : Exit → Act → World → Prop}
theorem wpListIn_run (hF : ∀ f, F.fn f) (hgd : Region.wanted o (yielded ops a.tmps) = true) (hnd : ∀ c, o.op ≠ .defer c) (v : Value) (w' : World) (hr : (execOp a.eval o).run P w = .ok (.value v) w')
    (h : wpListIn F n P ops Q rest (a.put o.dst v) w') : wpListIn F n P ops Q (o :: rest) a w := by
  refine wpListIn_want hgd fun K hK => ?_
  unfold Oper.wpIn
  refine ⟨fun f _ => hF f, ?_⟩
  rw [Oper.semAt_plain F _ _ hnd, hr]
  exact hK _ _ h
theorem wpListIn_skip_run (hF : ∀ f, F.fn f) (hgd : Region.wanted o (yielded ops a.tmps) = true) (hnd : ∀ c, o.op ≠ .defer c) (w' : World) (hr : (execOp a.eval o).run P w = .ok .skip w')
    (h : wpListIn F n P ops Q rest (a.put o.dst undef) w') : wpListIn F n P ops Q (o :: rest) a w := by
  refine wpListIn_want hgd fun K hK => ?_
  unfold Oper.wpIn
  refine ⟨fun f _ => hF f, ?_⟩
  rw [Oper.semAt_plain F _ _ hnd, hr]
  exact hK _ _ h
theorem wp_run {K : Act → World → Prop} (v : Value) (w' : World) (hr : (execOp a.eval o).run P w = .ok (.value v) w') (h : K (a.put o.dst v) w') : o.wp P a w K Q := by
  unfold Oper.wp
  simp only [hr]
  exact h

/-! ### the runs -/
theorem exec_alloc_row (t : TypeId) (ho : o.op = .alloc t) (zs : List Value) (hz : ∀ w, (zeroValue t).run P w = .ok (.agg zs.toArray) w) :
    (execOp a.eval o).run P w = .ok (.value (.pointer (some ⟨w.heap.size, 0, none⟩))) (w.alloc (.cells zs.toArray t)) := by
  simp only [execOp, ho, Sem.run_bind, (run_alloc_row hz w true).1, Result.andThen_ok, Sem.run_pure]
theorem exec_load_part (t : TypeId) (x : Operand) (ho : o.op = .load t x) {g : Nat} {tr : TypeId} {cs : List Value} (hrow : RowAt w g tr cs) (off k : Nat) (vs : List Value)
    (hx : a.eval x = .pointer (some ⟨g, off, none⟩)) (hvs : (cs.drop off).take k = vs) (hl : vs.length = k) (ha : ∀ w, (isAgg t).run P w = .ok true w) (hs : ∀ w, (sizeOf t).run P w = .ok k w) :
    (execOp a.eval o).run P w = .ok (.value (.agg vs.toArray)) w := by
  have hl' := hrow.load (P := P) off k vs hvs hl
  simp only [execOp, ho, hx, Instr.loadAt, Instr.sureAddr, loadVar, loadCells, Sem.run_bind, Sem.run_pure, Result.andThen_ok, ha, hs, hl', if_true]
/-- A whole aggregate out of cells that are known one by one. -/
theorem exec_load_cells (t : TypeId) (x : Operand) (ho : o.op = .load t x) (ad : Addr) (vs : List Value) (hc : ∀ j v, vs[j]? = some v → w.cell? (ad.add j) = some v)
    (hx : a.eval x = .pointer (some ad)) (k : Nat) (hl : vs.length = k) (ha : ∀ w, (isAgg t).run P w = .ok true w) (hs : ∀ w, (sizeOf t).run P w = .ok k w) :
    (execOp a.eval o).run P w = .ok (.value (.agg vs.toArray)) w := by
  subst hl
  have hl' : (loadCellsFrom ad 0 vs.length #[]).run P w = .ok vs.toArray w := run_loadCells_list (P := P) w ad vs hc
  simp only [execOp, ho, hx, Instr.loadAt, Instr.sureAddr, loadVar, loadCells, Sem.run_bind, Sem.run_pure, Result.andThen_ok, ha, hs, hl', if_true]
theorem exec_store_part (t : TypeId) (x y : Operand) (ho : o.op = .store t x y) {g : Nat} {tr : TypeId} {cs : List Value} (hrow : RowAt w g tr cs) (off : Nat) (vs : List Value)
    (hx : a.eval x = .pointer (some ⟨g, off, none⟩)) (hy : a.eval y = .agg vs.toArray) (hs : ∀ w, (sizeOf t).run P w = .ok vs.length w) (hfit : off + vs.length ≤ cs.length) (h1 : ∀ v ∈ vs, v.oneCell' = true) :
    (execOp a.eval o).run P w = .ok .skip (w.setRow g (splice cs off vs).toArray) := by
  have hst := run_storeCells_at P g off tr vs 0 cs.toArray w hrow (by simpa using hfit) h1
  simp only [execOp, ho, hx, hy, Instr.storeAt, Instr.sureAddr, storeVar, Value.cells, Sem.run_bind, Sem.run_pure, Result.andThen_ok, hs]
  simp only [List.size_toArray, ne_eq, not_true_eq_false, if_false, hst, Result.andThen_ok]
  simp [splice]
/-- copy of at least one byte into a row. -/
theorem exec_copy (d s : Operand) (dT sT : TypeId) (ho : o.op = .call { callee := .builtin .copy, args := #[d, s], argTypes := #[dT, sT] }) (elem : TypeId) (hu : P.underlying dT = some (.slice elem)) (hsz : (P.info? elem).map (·.size) = some 1)
    (g off : Nat) (ad : Addr) (dLen dCap sLen sCap : Nat) (hd : a.eval d = .slice (some ⟨g, off, none⟩) dLen dCap) (hs : a.eval s = .slice (some ad) sLen sCap)
    (cur : List Value) (t : TypeId) (hg : RowAt w g t cur) (cs : List Value) (hn : cs.length = Nat.min sLen dLen) (hc : ∀ j v, cs[j]? = some v → w.cell? (ad.add j) = some v)
    (hfit : off + cs.length ≤ cur.length) (h1 : ∀ v ∈ cs, v.oneCell' = true) :
    (execOp a.eval o).run P w = .ok (.value (goInt cs.length)) (w.setRow g (splice cur off cs).toArray) := by
  have hr := run_copy_row (P := P) w dT sT o.type elem g off dLen dCap ad sLen sCap cur.toArray t cs hu hsz hg hn hc (by simpa using hfit) h1
  simp only [execOp, ho, resolve, invoke, builtin, Sem.run_bind, Sem.run_pure, Result.andThen_ok, List.map_toArray, List.map_cons, List.map_nil, hd, hs, hr]
  simp [splice]
/-- min of two. -/
theorem wp_min {K : Act → World → Prop} (x y : Operand) (t : TypeId) (ho : o.op = .call { callee := .builtin .min, args := #[x, y], argTypes := #[t, t] }) (i j m : Int) (hx : a.eval x = .int .i64 i) (hy : a.eval y = .int .i64 j) (hm : (if j < i then j else i) = m)
    (h : K (a.put o.dst (.int .i64 m)) w) : o.wp P a w K Q := by
  subst hm
  refine wp_run _ w ?_ h
  simp only [execOp, ho, resolve, invoke, builtin, Sem.run_bind, Sem.run_pure, Result.andThen_ok, List.map_toArray, List.map_cons, List.map_nil, hx, hy, run_min_int2]
/-- T{x}: a slice literal of one aggregate. -/
theorem exec_lit_row (t e : TypeId) (x : Operand) (ho : o.op = .buildSlice t 1 #[(0, x)]) (cs : List Value) (hx : a.eval x = .agg cs.toArray) (N : Nat) (hN : cs.length = N) {z : Value} {b : Nat}
    (hu : P.underlying t = some (.slice e)) (hinfo : (P.info? e).map (fun i => (i.zero, i.size, i.bytes)) = some (some z, N, b)) (h0 : 0 < N) (hm : N ≤ 16777216) :
    (execOp a.eval o).run P w = .ok (.value (.slice (some ⟨w.heap.size, 0, none⟩) 1 1)) (w.alloc (.cells cs.toArray e)) := by
  obtain ⟨i, hi, hz0, hz1, _⟩ := info_parts hinfo
  subst hN
  have hf := Great.fill_whole (s := cs.length) h0 [.agg cs.toArray] ((Array.range (1 * cs.length)).map (z.cells[· % z.cells.size]!)) (by simp [Value.cells]) (by simp)
  have hr := run_buildSlice (P := P) w t e 1 #[(0, .agg cs.toArray)] cs.toArray i z hu hi hz0 (by rw [hz1]; omega) (by rw [hz1]; omega) (by
    rw [hz1]
    simpa [Value.cells] using hf)
  simp only [execOp, ho, List.map_toArray, List.map_cons, List.map_nil, hx, Sem.run_bind, hr, Result.andThen_ok, Sem.run_pure]
end

/-! ### a slice of arrays of bytes that the call owns -/
/-- The slice that begins at A, of capacity c, owns the arrays ls of N bytes each. -/
def OwnA (w : World) (base : Nat) (e : TypeId) (N : Nat) (A : Option Addr) (c : Nat) (ls : List (List UInt8)) : Prop := w.ownsRow base e N (.slice A ls.length c) ls.length (ls.flatten.map B8)
theorem OwnA.nil (w : World) (base : Nat) (e : TypeId) (N : Nat) : OwnA w base e N none 0 [] := World.ownsRow_nil w base e N
theorem OwnA.kept {w w' : World} {base : Nat} {e : TypeId} {N : Nat} {A : Option Addr} {c : Nat} {ls : List (List UInt8)} {row : Option Nat} (h : OwnA w base e N A c ls) (hg : w.grownBy w' row) (hne : A.map (·.block) = none ∨ A.map (·.block) ≠ row) : OwnA w' base e N A c ls :=
  World.ownsRow.kept h hg (by rw [own_of]; exact hne)
theorem OwnA.lt {w : World} {base : Nat} {e : TypeId} {N : Nat} {A : Option Addr} {c : Nat} {ls : List (List UInt8)} (h : OwnA w base e N A c ls) : ∀ k, A.map (·.block) = some k → base ≤ k ∧ k < w.heap.size := by
  intro k hk
  exact World.ownsRow.lt h k (by rw [own_of]; exact hk)
theorem OwnA.below {w w' : World} {base B : Nat} {e : TypeId} {N : Nat} {A : Option Addr} {c : Nat} {ls : List (List UInt8)} (h : OwnA w base e N A c ls) (hb : Below B w w') (hB : w.heap.size ≤ B) : OwnA w' base e N A c ls := by
  refine ⟨h.1, ?_⟩
  rcases h.2 with hn | ⟨g, cap, cur, hv, hbg, hg, rest⟩
  · exact .inl hn
  · refine .inr ⟨g, cap, cur, hv, hbg, ?_, rest⟩
    rw [hb.block g (by have := (Array.getElem?_eq_some_iff.1 hg).1; omega)]
    exact hg
theorem OwnA.mono {w : World} {base base' : Nat} {e : TypeId} {N : Nat} {A : Option Addr} {c : Nat} {ls : List (List UInt8)} (h : OwnA w base e N A c ls) (hb : base' ≤ base) : OwnA w base' e N A c ls := by
  refine ⟨h.1, ?_⟩
  rcases h.2 with hn | ⟨g, cap, cur, hv, hbg, hg, rest⟩
  · exact .inl hn
  · exact .inr ⟨g, cap, cur, hv, by omega, hg, rest⟩
theorem OwnA.alloc {w : World} {base : Nat} {e : TypeId} {N : Nat} {A : Option Addr} {c : Nat} {ls : List (List UInt8)} (h : OwnA w base e N A c ls) (o : Obj) : OwnA (w.alloc o) base e N A c ls := World.ownsRow.alloc h o
/-- Its cells, one by one. -/
theorem OwnA.cell {w : World} {base : Nat} {e : TypeId} {N : Nat} {A : Option Addr} {c : Nat} {ls : List (List UInt8)} (h : OwnA w base e N A c ls) (h0 : 0 < ls.length) :
    ∃ g, A = some ⟨g, 0, none⟩ ∧ base ≤ g ∧ g < w.heap.size ∧ ∀ j, w.cell? ⟨g, j, none⟩ = (ls.flatten.map B8)[j]? ∨ ls.length * N ≤ j := by
  rcases h.2 with ⟨_, h0'⟩ | ⟨g, cap, cur, hv, hbg, hg, _⟩
  · omega
  · injection hv with hA _ hc
    refine ⟨g, hA, hbg, (Array.getElem?_eq_some_iff.1 hg).1, fun j => ?_⟩
    by_cases hj : j < ls.length * N
    · refine .inl ?_
      have h' : w.ownsRow base e N (.slice (some ⟨g, 0, none⟩) ls.length c) ls.length (ls.flatten.map B8) := by rw [← hA]; exact h
      exact h'.cellAt j hj
    · exact .inr (by omega)
/-- append(v, x) of one array: the literal of one element lies in the block h. -/
theorem exec_app_row {P : Program} {w : World} {o : Oper} {a : Act} (s x : Operand) (t : TypeId) (ho : o.op = .call { callee := .builtin .append, args := #[s, x], argTypes := #[t, t] }) {e : TypeId} {z : Value} {N : Nat} (ht : P.underlying t = some (.slice e))
    (hinfo : (P.info? e).map (fun i => (i.zero, i.size, i.bytes)) = some (some z, N, N)) (hz : z.cells.size = N) (h0 : 0 < N) (base : Nat) (hbase : base ≤ w.heap.size) {A : Option Addr} {c : Nat} {ls : List (List UInt8)} (hown : OwnA w base e N A c ls)
    {h : Nat} {l : List UInt8} (hl : l.length = N) {tr : TypeId} (hrow : RowAt w h tr (l.map B8)) (c2 : Nat) (hs : a.eval s = .slice A ls.length c) (hx : a.eval x = .slice (some ⟨h, 0, none⟩) 1 c2) (hlen : (ls.length + 1) * N ≤ 140737488355328) (hlen2 : ls.length ≤ 140737488355328) :
    ∃ (zs : List (List UInt8)) (A' : Option Addr) (c' : Nat) (w' : World), Hid (zs = ls ++ [l]) ∧ (execOp a.eval o).run P w = .ok (.value (.slice A' zs.length c')) w' ∧ OwnA w' base e N A' c' zs ∧ w.grownBy w' (A.map (·.block)) ∧ LiesAt A' A w.heap.size := by
  obtain ⟨i, hi, hz0, hz1, hz2⟩ := info_parts hinfo
  obtain ⟨g, cap, w', hr, h2, h3, h4, _⟩ := run_append_lies (P := P) w t o.type base e i z N N ht hi hz0 hz1 hz2 hz h0 (.slice A ls.length c) ls.length (ls.flatten.map B8) hown ⟨h, 0, none⟩ 1 c2 (l.map B8) (by simp [hl])
    (fun j u hj => by rw [add_at, Nat.zero_add, hrow.cell]; exact hj) (bytes_oneCell l) (by decide) (by simp [maxLen]; omega) hlen hbase w.heap.size rfl
  refine ⟨ls ++ [l], some ⟨g, 0, none⟩, cap, w', rfl, ?_, ?_, by rw [← own_of A ls.length c]; exact h3, ?_⟩
  · rw [List.length_append, List.length_singleton]
    simp only [execOp, ho, resolve, invoke, builtin, Sem.run_bind, Sem.run_pure, Result.andThen_ok, List.map_toArray, List.map_cons, List.map_nil, hs, hx, hr]
  · unfold OwnA
    rw [List.length_append, List.length_singleton, List.flatten_append, List.map_append]
    simpa using h2
  · rw [own_of] at h4
    rcases h4 with h4 | h4
    · exact .inl (by rw [h4]; rfl)
    · exact .inr (by rw [h4]; rfl)


/-! ### the laws at the list of operations, plain and in a fence -/
section
variable {F : Fence} {n : Nat} {P : Program} {w : World} {ops : Array Oper} {rest : List Oper} {o : Oper} {a : Act} {Q : Exit → Act → World → Prop}
theorem wpListIn_alloc_row (hF : ∀ f, F.fn f) (d : Tmp) (hd : o.dst = some d) (t : TypeId) (ho : o.op = .alloc t) (zs : List Value) (hgd : Region.wanted o (yielded ops a.tmps) = true) (hz : ∀ w, (zeroValue t).run P w = .ok (.agg zs.toArray) w) (h : ∀ w1, RowAt w1 w.heap.size t zs → w1.heap.size = w.heap.size + 1 → Below w.heap.size w w1 → wpListIn F n P ops Q rest (a.put (some d) (.pointer (some ⟨w.heap.size, 0, none⟩))) w1) : wpListIn F n P ops Q (o :: rest) a w := by
  rw [← hd] at h
  exact wpListIn_run hF hgd (by rw [ho]; intro c hc; cases hc) _ _ (exec_alloc_row t ho zs hz) (h _ (alloc_row w t zs) (by simp) (alloc_below w _))
theorem wpListIn_load_part (hF : ∀ f, F.fn f) (d : Tmp) (hd : o.dst = some d) (t : TypeId) (x : Operand) (ho : o.op = .load t x) {g : Nat} {tr : TypeId} {cs : List Value} (hrow : RowAt w g tr cs) (off k : Nat) (vs : List Value) (hgd : Region.wanted o (yielded ops a.tmps) = true) (hx : a.eval x = .pointer (some ⟨g, off, none⟩)) (hvs : (cs.drop off).take k = vs) (hl : vs.length = k) (ha : ∀ w, (isAgg t).run P w = .ok true w) (hs : ∀ w, (sizeOf t).run P w = .ok k w) (h : wpListIn F n P ops Q rest (a.put (some d) (.agg vs.toArray)) w) : wpListIn F n P ops Q (o :: rest) a w := by
  rw [← hd] at h
  exact wpListIn_run hF hgd (by rw [ho]; intro c hc; cases hc) _ _ (exec_load_part t x ho hrow off k vs hx hvs hl ha hs) h
theorem wpList_load_cells (d : Tmp) (hd : o.dst = some d) (t : TypeId) (x : Operand) (ho : o.op = .load t x) (ad : Addr) (vs : List Value) (hgd : Region.wanted o (yielded ops a.tmps) = true) (hx : a.eval x = .pointer (some ad)) (hc : ∀ j v, vs[j]? = some v → w.cell? (ad.add j) = some v) (k : Nat) (hl : vs.length = k) (ha : ∀ w, (isAgg t).run P w = .ok true w) (hs : ∀ w, (sizeOf t).run P w = .ok k w) (h : wpList P ops Q rest (a.put (some d) (.agg vs.toArray)) w) : wpList P ops Q (o :: rest) a w := by
  rw [← hd] at h
  exact wpList_run hgd _ _ (exec_load_cells t x ho ad vs hc hx k hl ha hs) h
theorem wpListIn_load_cells (hF : ∀ f, F.fn f) (d : Tmp) (hd : o.dst = some d) (t : TypeId) (x : Operand) (ho : o.op = .load t x) (ad : Addr) (vs : List Value) (hgd : Region.wanted o (yielded ops a.tmps) = true) (hx : a.eval x = .pointer (some ad)) (hc : ∀ j v, vs[j]? = some v → w.cell? (ad.add j) = some v) (k : Nat) (hl : vs.length = k) (ha : ∀ w, (isAgg t).run P w = .ok true w) (hs : ∀ w, (sizeOf t).run P w = .ok k w) (h : wpListIn F n P ops Q rest (a.put (some d) (.agg vs.toArray)) w) : wpListIn F n P ops Q (o :: rest) a w := by
  rw [← hd] at h
  exact wpListIn_run hF hgd (by rw [ho]; intro c hc; cases hc) _ _ (exec_load_cells t x ho ad vs hc hx k hl ha hs) h
theorem wpList_lit_row (d : Tmp) (hd : o.dst = some d) (t e : TypeId) (x : Operand) (ho : o.op = .buildSlice t 1 #[(0, x)]) (cs : List Value) (hgd : Region.wanted o (yielded ops a.tmps) = true) (hx : a.eval x = .agg cs.toArray) (N : Nat) (hN : cs.length = N) {z : Value} {b : Nat} (hu : P.underlying t = some (.slice e)) (hinfo : (P.info? e).map (fun i => (i.zero, i.size, i.bytes)) = some (some z, N, b)) (h0 : 0 < N) (hm : N ≤ 16777216) (h : ∀ w1, w1 = w.alloc (.cells cs.toArray e) → RowAt w1 w.heap.size e cs → wpList P ops Q rest (a.put (some d) (.slice (some ⟨w.heap.size, 0, none⟩) 1 1)) w1) : wpList P ops Q (o :: rest) a w := by
  rw [← hd] at h
  exact wpList_run hgd _ _ (exec_lit_row t e x ho cs hx N hN hu hinfo h0 hm) (h _ rfl (alloc_row w e cs))
theorem wpListIn_lit_row (hF : ∀ f, F.fn f) (d : Tmp) (hd : o.dst = some d) (t e : TypeId) (x : Operand) (ho : o.op = .buildSlice t 1 #[(0, x)]) (cs : List Value) (hgd : Region.wanted o (yielded ops a.tmps) = true) (hx : a.eval x = .agg cs.toArray) (N : Nat) (hN : cs.length = N) {z : Value} {b : Nat} (hu : P.underlying t = some (.slice e)) (hinfo : (P.info? e).map (fun i => (i.zero, i.size, i.bytes)) = some (some z, N, b)) (h0 : 0 < N) (hm : N ≤ 16777216) (h : ∀ w1, w1 = w.alloc (.cells cs.toArray e) → RowAt w1 w.heap.size e cs → wpListIn F n P ops Q rest (a.put (some d) (.slice (some ⟨w.heap.size, 0, none⟩) 1 1)) w1) : wpListIn F n P ops Q (o :: rest) a w := by
  rw [← hd] at h
  exact wpListIn_run hF hgd (by rw [ho]; intro c hc; cases hc) _ _ (exec_lit_row t e x ho cs hx N hN hu hinfo h0 hm) (h _ rfl (alloc_row w e cs))
theorem wpList_copy_to (d s : Operand) (dT sT : TypeId) (ho : o.op = .call { callee := .builtin .copy, args := #[d, s], argTypes := #[dT, sT] }) (hgd : Region.wanted o (yielded ops a.tmps) = true) (elem : TypeId) (hu : P.underlying dT = some (.slice elem)) (hsz : (P.info? elem).map (·.size) = some 1) (g off : Nat) (ad : Addr) (dLen dCap sLen sCap : Nat) (hd : a.eval d = .slice (some ⟨g, off, none⟩) dLen dCap) (hs : a.eval s = .slice (some ad) sLen sCap) (cur : List Value) (t : TypeId) (hg : RowAt w g t cur) (cs : List Value) (hn : cs.length = Nat.min sLen dLen) (hc : ∀ j v, cs[j]? = some v → w.cell? (ad.add j) = some v) (hfit : off + cs.length ≤ cur.length) (h1 : ∀ v ∈ cs, v.oneCell' = true) (h : ∀ w1, RowAt w1 g t (splice cur off cs) → w1.heap.size = w.heap.size → w.grownBy w1 (some g) → wpList P ops Q rest (a.put o.dst (goInt cs.length)) w1) : wpList P ops Q (o :: rest) a w := by
  skip
  exact wpList_run hgd _ _ (exec_copy d s dT sT ho elem hu hsz g off ad dLen dCap sLen sCap hd hs cur t hg cs hn hc hfit h1) (h _ (setRow_row hg _) (setRow_size _ _ _) (setRow_grown _ _ _))
theorem wpListIn_copy_to (hF : ∀ f, F.fn f) (d s : Operand) (dT sT : TypeId) (ho : o.op = .call { callee := .builtin .copy, args := #[d, s], argTypes := #[dT, sT] }) (hgd : Region.wanted o (yielded ops a.tmps) = true) (elem : TypeId) (hu : P.underlying dT = some (.slice elem)) (hsz : (P.info? elem).map (·.size) = some 1) (g off : Nat) (ad : Addr) (dLen dCap sLen sCap : Nat) (hd : a.eval d = .slice (some ⟨g, off, none⟩) dLen dCap) (hs : a.eval s = .slice (some ad) sLen sCap) (cur : List Value) (t : TypeId) (hg : RowAt w g t cur) (cs : List Value) (hn : cs.length = Nat.min sLen dLen) (hc : ∀ j v, cs[j]? = some v → w.cell? (ad.add j) = some v) (hfit : off + cs.length ≤ cur.length) (h1 : ∀ v ∈ cs, v.oneCell' = true) (h : ∀ w1, RowAt w1 g t (splice cur off cs) → w1.heap.size = w.heap.size → w.grownBy w1 (some g) → wpListIn F n P ops Q rest (a.put o.dst (goInt cs.length)) w1) : wpListIn F n P ops Q (o :: rest) a w := by
  skip
  exact wpListIn_run hF hgd (by rw [ho]; intro c hc; cases hc) _ _ (exec_copy d s dT sT ho elem hu hsz g off ad dLen dCap sLen sCap hd hs cur t hg cs hn hc hfit h1) (h _ (setRow_row hg _) (setRow_size _ _ _) (setRow_grown _ _ _))
theorem wpList_app_row (s x : Operand) (t : TypeId) (ho : o.op = .call { callee := .builtin .append, args := #[s, x], argTypes := #[t, t] }) (hgd : Region.wanted o (yielded ops a.tmps) = true) {e : TypeId} {z : Value} {N : Nat} (ht : P.underlying t = some (.slice e)) (hinfo : (P.info? e).map (fun i => (i.zero, i.size, i.bytes)) = some (some z, N, N)) (hz : z.cells.size = N) (h0 : 0 < N) (base : Nat) (hbase : base ≤ w.heap.size) {A : Option Addr} {c : Nat} {ls : List (List UInt8)} (hown : OwnA w base e N A c ls) {g : Nat} {l : List UInt8} (hl : l.length = N) {tr : TypeId} (hrow : RowAt w g tr (l.map B8)) (c2 : Nat) (hs : a.eval s = .slice A ls.length c) (hx : a.eval x = .slice (some ⟨g, 0, none⟩) 1 c2) (hlen : (ls.length + 1) * N ≤ 140737488355328) (hlen2 : ls.length ≤ 140737488355328) (h : ∀ (zs : List (List UInt8)) (A' : Option Addr) (c' : Nat) (w' : World), Hid (zs = ls ++ [l]) → OwnA w' base e N A' c' zs → w.grownBy w' (A.map (·.block)) → LiesAt A' A w.heap.size → wpList P ops Q rest (a.put o.dst (.slice A' zs.length c')) w') : wpList P ops Q (o :: rest) a w := by
  obtain ⟨zs, A', c', w', hzs, hr, h2, h3, h4⟩ := exec_app_row (P := P) s x t ho ht hinfo hz h0 base hbase hown hl hrow c2 hs hx hlen hlen2
  exact wpList_run hgd _ _ hr (h zs A' c' w' hzs h2 h3 h4)
theorem wpListIn_app_row (hF : ∀ f, F.fn f) (s x : Operand) (t : TypeId) (ho : o.op = .call { callee := .builtin .append, args := #[s, x], argTypes := #[t, t] }) (hgd : Region.wanted o (yielded ops a.tmps) = true) {e : TypeId} {z : Value} {N : Nat} (ht : P.underlying t = some (.slice e)) (hinfo : (P.info? e).map (fun i => (i.zero, i.size, i.bytes)) = some (some z, N, N)) (hz : z.cells.size = N) (h0 : 0 < N) (base : Nat) (hbase : base ≤ w.heap.size) {A : Option Addr} {c : Nat} {ls : List (List UInt8)} (hown : OwnA w base e N A c ls) {g : Nat} {l : List UInt8} (hl : l.length = N) {tr : TypeId} (hrow : RowAt w g tr (l.map B8)) (c2 : Nat) (hs : a.eval s = .slice A ls.length c) (hx : a.eval x = .slice (some ⟨g, 0, none⟩) 1 c2) (hlen : (ls.length + 1) * N ≤ 140737488355328) (hlen2 : ls.length ≤ 140737488355328) (h : ∀ (zs : List (List UInt8)) (A' : Option Addr) (c' : Nat) (w' : World), Hid (zs = ls ++ [l]) → OwnA w' base e N A' c' zs → w.grownBy w' (A.map (·.block)) → LiesAt A' A w.heap.size → wpListIn F n P ops Q rest (a.put o.dst (.slice A' zs.length c')) w') : wpListIn F n P ops Q (o :: rest) a w := by
  obtain ⟨zs, A', c', w', hzs, hr, h2, h3, h4⟩ := exec_app_row (P := P) s x t ho ht hinfo hz h0 base hbase hown hl hrow c2 hs hx hlen hlen2
  exact wpListIn_run hF hgd (by rw [ho]; intro c hc; cases hc) _ _ hr (h zs A' c' w' hzs h2 h3 h4)
end

end Go.Proofs.Ytdglkjpdhnnpnaa
