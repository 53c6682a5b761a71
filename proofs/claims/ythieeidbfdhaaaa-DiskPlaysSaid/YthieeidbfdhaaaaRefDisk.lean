/-
  The reference's disk: New, Has, Read, Write, Flush, Loose, Crash; and the program's disk beside it.
-/
import Derived.Test.YthieeidbfdhaaaaLiveMore
import Derived.Deep.QuietTactic
import Derived.BigQuiet
namespace Go.Proofs.Ythieeidbfdhaaaa
open Go Go.RowKit

/-- The cells of the versions' slices. -/
def vcells (D : List Sct) (V : List (Option Addr × Nat)) : List Value := List.zipWith (fun s v => .slice v.1 s.vers.length v.2) D V
theorem vcells_get {D : List Sct} {V : List (Option Addr × Nat)} {i : Nat} (h : i < D.length) {v : Option Addr × Nat} (hv : V[i]? = some v) : (vcells D V)[i]? = some (.slice v.1 D[i].vers.length v.2) := by
  unfold vcells
  rw [List.getElem?_zipWith, hv, List.getElem?_eq_getElem h]
theorem vcells_set (D : List Sct) (V : List (Option Addr × Nat)) (i : Nat) (s : Sct) (v : Option Addr × Nat) (x : Value) (hx : x = .slice v.1 s.vers.length v.2) (h1 : i < D.length) (h2 : i < V.length) : (vcells D V).set i x = vcells (D.set i s) (V.set i v) := by
  subst hx
  unfold vcells
  apply List.ext_getElem?
  intro j
  rw [List.getElem?_zipWith, List.getElem?_set, List.getElem?_zipWith, List.getElem?_set, List.getElem?_set]
  by_cases hj : i = j
  · subst hj
    simp [h1, h2]
    omega
  · simp [hj]
theorem vcells_length (D : List Sct) (V : List (Option Addr × Nat)) (h : V.length = D.length) : (vcells D V).length = D.length := by
  unfold vcells
  rw [List.length_zipWith, h, Nat.min_self]

/-- Where versions lie. -/
def VAt (w : World) (lo gq gS gV : Nat) (A : Option Addr) (vs : List (List UInt8)) : Prop :=
  (vs = [] ∧ A = none) ∨ (vs ≠ [] ∧ ∃ b, A = some ⟨b, 0, none⟩ ∧ lo ≤ b ∧ b < w.heap.size ∧ b ≠ gq ∧ b ≠ gS ∧ b ≠ gV ∧ w.rangeAt b 0 (vs.flatten.map B8))
/-- THE REFERENCE'S DISK: gq its variable, gS the row of its sectors, gV the row of the slices of their versions. -/
structure RAt (w : World) (lo gq gS gV : Nat) (D : List Sct) (V : List (Option Addr × Nat)) : Prop where
  head : RowAt w gq 53 [.slice (some ⟨gS, 0, none⟩) D.length D.length, .slice (some ⟨gV, 0, none⟩) D.length D.length]
  rowS : RowAt w gS 37 ((D.map Sct.there).flatten.map B8)
  rowV : RowAt w gV 50 (vcells D V)
  wf : ∀ s ∈ D, s.wf
  len : V.length = D.length
  low : lo ≤ gq ∧ lo ≤ gS ∧ lo ≤ gV
  ne : gq ≠ gS ∧ gq ≠ gV ∧ gS ≠ gV
  vers : ∀ i (h : i < D.length), ∃ v, V[i]? = some v ∧ VAt w lo gq gS gV v.1 D[i].vers
/-- Its blocks. -/
def rb (gq gS gV : Nat) (V : List (Option Addr × Nat)) : List Nat := gq :: gS :: gV :: V.filterMap fun v => v.1.map (·.block)
theorem rb_vers {gq gS gV : Nat} {V : List (Option Addr × Nat)} {i : Nat} {v : Option Addr × Nat} (hv : V[i]? = some v) {b : Nat} (hb : v.1.map (·.block) = some b) : b ∈ rb gq gS gV V := by
  unfold rb
  simp only [List.mem_cons, List.mem_filterMap]
  exact .inr (.inr (.inr ⟨v, List.mem_of_getElem? hv, hb⟩))
theorem RAt.kept {w w' : World} {lo gq gS gV : Nat} {D : List Sct} {V : List (Option Addr × Nat)} (h : RAt w lo gq gS gV D V) (hs : w.heap.size ≤ w'.heap.size) (hk : ∀ b ∈ rb gq gS gV V, w'.heap[b]? = w.heap[b]?) : RAt w' lo gq gS gV D V := by
  refine ⟨(hk gq (by simp [rb])).trans h.head, (hk gS (by simp [rb])).trans h.rowS, (hk gV (by simp [rb])).trans h.rowV, h.wf, h.len, h.low, h.ne, fun i hi => ?_⟩
  obtain ⟨v, hv, hat⟩ := h.vers i hi
  refine ⟨v, hv, ?_⟩
  rcases hat with hn | ⟨hn0, b, hA, h1, h2, h3, h4, h5, hr⟩
  · exact .inl hn
  · refine .inr ⟨hn0, b, hA, h1, Nat.lt_of_lt_of_le h2 hs, h3, h4, h5, fun j x hj => ?_⟩
    have hb := hk b (rb_vers hv (by rw [hA]; rfl))
    have := hr j x hj
    unfold World.cell? at this ⊢
    simp only at this ⊢
    rw [hb]
    exact this
theorem RAt.step {w w' : World} {lo gq gS gV : Nat} {D : List Sct} {V : List (Option Addr × Nat)} (h : RAt w lo gq gS gV D V) (hb : Below w.heap.size w w') : RAt w' lo gq gS gV D V := by
  refine ⟨h.head.step hb, h.rowS.step hb, h.rowV.step hb, h.wf, h.len, h.low, h.ne, fun i hi => ?_⟩
  obtain ⟨v, hv, hat⟩ := h.vers i hi
  refine ⟨v, hv, ?_⟩
  rcases hat with hn | ⟨hn0, b, hA, h1, h2, h3, h4, h5, hr⟩
  · exact .inl hn
  · exact .inr ⟨hn0, b, hA, h1, Nat.lt_of_lt_of_le h2 hb.size, h3, h4, h5, fun j x hj => (hb.cell (p := ⟨b, 0 + j, none⟩) h2).trans (hr j x hj)⟩

/-- make([]T, n). -/
theorem make_run {P : Program} (w : World) (t e : TypeId) (ht : P.underlying t = some (.slice e)) {z : Value} {N bb : Nat} (hinfo : (P.info? e).map (fun i => (i.zero, i.size, i.bytes)) = some (some z, N, bb)) (n : Nat) (h1 : n * bb ≤ 140737488355328) (h2 : n ≤ maxLen) :
    ∃ w1, (Instr.makeSlice t (.int .i64 (n : Int)) (.int .i64 (n : Int))).run P w = .ok (.slice (some ⟨w.heap.size, 0, none⟩) n n) w1 ∧ RowAt w1 w.heap.size e (madeCells z.cells (n * N)).toList ∧ Below w.heap.size w w1 := by
  obtain ⟨i, hi, hz0, hz1, hz2⟩ := info_parts hinfo
  obtain ⟨w1, hrun, hown, hgr⟩ := run_make_full (P := P) w w.heap.size t e i z N ht hi hz0 hz1 .i64 .i64 n (by rw [hz2, Nat.mul_comm]; omega) h2 (Nat.le_refl _)
  exact ⟨w1, hrun, full_row hown, (Below.refl _ w).grown hgr (Nat.le_refl _) (fun k e => by cases e)⟩
theorem exec_make {P : Program} {w w1 : World} {o : Oper} {a : Act} (t : TypeId) (l c : Operand) (hop : o.op = Op.makeSlice t l c) (n : Nat) (hl : a.eval l = .int .i64 (n : Int)) (hc : a.eval c = .int .i64 (n : Int)) {v : Value}
    (hr : (Instr.makeSlice t (.int .i64 (n : Int)) (.int .i64 (n : Int))).run P w = .ok v w1) : (execOp a.eval o).run P w = .ok (.value v) w1 := by
  simp only [execOp, hop, hl, hc, Sem.run_bind, hr, Result.andThen_ok, Sem.run_pure]

theorem info_slice : (Try.prog.info? 50).map (fun i => (i.zero, i.size, i.bytes)) = some (some (.slice none 0 0), 1, 24) := by kernel_rfl
theorem made_all (Z : List Value) (c : Value) (hZ : ∀ z ∈ Z, z = c) (h0 : 0 < Z.length) (m : Nat) : (madeCells Z.toArray m).toList = List.replicate m c := by
  rw [List.eq_replicate_iff]
  refine ⟨by simp [madeCells], fun z hz => ?_⟩
  simp only [madeCells, Array.toList_map, List.mem_map] at hz
  obtain ⟨j, _, rfl⟩ := hz
  have hj : j % Z.length < Z.length := Nat.mod_lt _ h0
  have : (Z.toArray[j % Z.toArray.size]!) = Z[j % Z.length] := by
    rw [List.size_toArray, getElem!_pos _ _ (by simpa using hj)]
    simp
  rw [this]
  exact hZ _ (List.getElem_mem hj)
theorem made_blocks (n : Nat) : (madeCells (Value.agg ((zeros 64).map B8).toArray).cells (n * 64)).toList = ((List.replicate n (zeros 64)).flatten).map B8 := by
  have e : (Value.agg ((zeros 64).map B8).toArray).cells = ((zeros 64).map B8).toArray := rfl
  have hf : (List.replicate n (zeros 64)).flatten = List.replicate (n * 64) 0 := by
    show (List.replicate n (List.replicate 64 (0 : UInt8))).flatten = _
    rw [List.flatten_replicate_replicate]
  rw [e, hf, List.map_replicate, made_all _ (B8 0) (fun z hz => ?_) (by rw [List.length_map]; decide)]
  obtain ⟨x, hx, rfl⟩ := List.mem_map.1 hz
  rw [List.eq_of_mem_replicate hx]
theorem made_slices (n : Nat) : (madeCells (Value.slice none 0 0).cells (n * 1)).toList = vcells (List.replicate n Sct.zero) (List.replicate n (none, 0)) := by
  rw [Nat.mul_one]
  apply List.ext_getElem
  · simp [madeCells, vcells]
  · intro i h1 h2
    simp [madeCells, vcells, Value.cells, Nat.mod_one, Sct.zero]

theorem rnew_no (n : Int) (h : n < 1 ∨ 4096 < n) (w : World) :
    Calls Try.prog 17 #[.int .i64 n] w fun e w' => e = .returned (.tuple #[.pointer none, .int .i64 1]) ∧ w = w' := by
  rcases h with h | h
  · have hd1 : decide (n < 1) = true := decide_eq_true h
    go_enter Try.func17, Try.ntmps17
    go_wp2
    go_ret2
    exact ⟨rfl, rfl⟩
  · have hd1 : decide (n < 1) = false := decide_eq_false (by omega)
    have hd2 : decide (4096 < n) = true := decide_eq_true h
    go_enter Try.func17, Try.ntmps17
    go_wp2
    go_ret2
    exact ⟨rfl, rfl⟩

/-- A disk that was made: its rows in either order. -/
theorem made_at {w w1 w2 : World} {lo gS gV n : Nat} (hS : RowAt w2 gS 37 ((List.replicate n (zeros 64)).flatten.map B8)) (hV : RowAt w2 gV 50 (vcells (List.replicate n Sct.zero) (List.replicate n (none, 0)))) (hlo : lo ≤ gS ∧ lo ≤ gV) (hne : gS ≠ gV) (hB : Below lo w w1) (hl : lo ≤ w1.heap.size) (hB2 : Below w1.heap.size w1 w2) (hlt : gS < w2.heap.size ∧ gV < w2.heap.size) :
    RAt (w2.alloc (.cells #[.slice (some ⟨gS, 0, none⟩) n n, .slice (some ⟨gV, 0, none⟩) n n] 53)) lo w2.heap.size gS gV (List.replicate n Sct.zero) (List.replicate n (none, 0)) ∧ Below lo w (w2.alloc (.cells #[.slice (some ⟨gS, 0, none⟩) n n, .slice (some ⟨gV, 0, none⟩) n n] 53)) := by
  have hb := alloc_below w2 (.cells #[.slice (some ⟨gS, 0, none⟩) n n, .slice (some ⟨gV, 0, none⟩) n n] 53)
  have hl2 := hB2.size
  refine ⟨⟨?_, ?_, hV.step hb, ?_, by simp, ⟨by omega, hlo.1, hlo.2⟩, ⟨by omega, by omega, hne⟩, fun i hi => ?_⟩, (hB.trans (hB2.mono hl)).trans (hb.mono (by omega))⟩
  · rw [List.length_replicate]
    exact alloc_row w2 _ [.slice (some ⟨gS, 0, none⟩) n n, .slice (some ⟨gV, 0, none⟩) n n]
  · rw [List.map_replicate]
    exact hS.step hb
  · intro s hs
    rw [(List.mem_replicate.1 hs).2]
    exact Sct.zero_wf
  · rw [List.length_replicate] at hi
    refine ⟨(none, 0), by rw [List.getElem?_replicate, if_pos hi], .inl ⟨?_, rfl⟩⟩
    rw [List.getElem_replicate]
    rfl

set_option maxHeartbeats 1000000 in
theorem rnew_calls (n : Nat) (h1 : 1 ≤ n) (h2 : n ≤ 4096) (w : World) :
    Calls Try.prog 17 #[.int .i64 (n : Int)] w fun e w' => (∃ gq gS gV, e = .returned (.tuple #[.pointer (some ⟨gq, 0, none⟩), .int .i64 0]) ∧ RAt w' w.heap.size gq gS gV (List.replicate n Sct.zero) (List.replicate n (none, 0))) ∧ Below w.heap.size w w' := by
  have hd1 : decide ((n : Int) < 1) = false := decide_eq_false (by omega)
  have hd2 : decide ((4096 : Int) < (n : Int)) = false := decide_eq_false (by omega)
  have m1 := Lib.hid (fun w => make_run (P := Try.prog) w 50 37 Try.underlying50 info_block n (by omega) (by unfold maxLen; omega))
  have m2 := Lib.hid (fun w => make_run (P := Try.prog) w 51 50 Try.underlying51 info_slice n (by omega) (by unfold maxLen; omega))
  rw [made_blocks] at m1
  rw [made_slices] at m2
  clear h1 h2
  go_enter Try.func17, Try.ntmps17
  go_wp2_with fail
  refine wp_region_H (fun _ => True) 8 rfl (by kernel_rfl) ?_
  -- <held1
  refine wh_take 0 (.int .i64 (n : Nat)) rfl (by kernel_rfl) (by kernel_rfl) (fun _ _ _ h => h) (by kernel_rfl) (fun _ _ => by kernel_rfl) ?_
  refine wh_take 2 (.int .i64 (n : Nat)) rfl (by kernel_rfl) (by kernel_rfl) (fun _ _ _ h => h) (by kernel_rfl) (fun _ _ => by kernel_rfl) ?_
  refine wh_two 1 3 (by kernel_rfl) trivial ?_ ?_
  · obtain ⟨w1, hm1, hrS, hB1⟩ := m1.out w.drew
    refine wo_run 1 (v := .slice (some ⟨w.drew.heap.size, 0, none⟩) n n) (w' := w1) rfl (by kernel_rfl) (exec_make 50 (.tmp 10) (.tmp 10) rfl n (by kernel_rfl) (by kernel_rfl) hm1) ?_
    obtain ⟨w2, hm2, hrV, hB2⟩ := m2.out w1
    refine wh_run 3 (v := .slice (some ⟨w1.heap.size, 0, none⟩) n n) (w' := w2) rfl (by kernel_rfl) (by kernel_rfl) trivial (exec_make 51 (.tmp 12) (.tmp 12) rfl n (by kernel_rfl) (by kernel_rfl) hm2) ?_
    refine wh_take 4 (.agg #[.slice (some ⟨w.drew.heap.size, 0, none⟩) n n, .slice (some ⟨w1.heap.size, 0, none⟩) n n]) rfl (by kernel_rfl) (by kernel_rfl) (fun _ _ _ h => h) (by kernel_rfl) (fun _ _ => by kernel_rfl) ?_
    refine wh_run 5 (v := .pointer (some ⟨w2.heap.size, 0, none⟩)) (w' := w2.alloc (.cells #[.slice (some ⟨w.drew.heap.size, 0, none⟩) n n, .slice (some ⟨w1.heap.size, 0, none⟩) n n] 53)) rfl (by kernel_rfl) (by kernel_rfl) trivial (by kernel_rfl) ?_
    refine wh_take 6 (.pointer (some ⟨w2.heap.size, 0, none⟩)) rfl (by kernel_rfl) (by kernel_rfl) (fun _ _ _ h => h) (by kernel_rfl) (fun _ _ => by kernel_rfl) ?_
    refine wh_take 7 (.int .i64 0) rfl (by kernel_rfl) (by kernel_rfl) (fun _ _ _ h => h) (by kernel_rfl) (fun _ _ => by kernel_rfl) ?_
    have hrS' := hrS.step hB2
    have hs1 := hB1.size
    have hs2 := hB2.size
    have hl1 := hrS.lt
    have hl2 := hrV.lt
    have hfin := made_at (w := w) (w1 := w1) (w2 := w2) (lo := w.heap.size) (gS := w.drew.heap.size) (gV := w1.heap.size) (n := n) hrS' hrV ⟨Nat.le_refl _, hs1⟩ (by show w.heap.size ≠ w1.heap.size; have : w.heap.size < w1.heap.size := hl1; omega) ((brefl w).drew.trans (show Below w.heap.size w.drew w1 from hB1)) hs1 hB2 ⟨by omega, by omega⟩
    clear hrS hrV hrS' hs1 hs2 hl1 hl2
    refine wh_done (by kernel_rfl) trivial ?_
    simp only [Act.put, List.setIfInBounds_toArray, List.set_cons_zero, List.set_cons_succ]
    go_wp2_with fail
    go_ret2
    exact ⟨⟨_, _, _, rfl, hfin.1⟩, hfin.2⟩
  · obtain ⟨w1, hm1, hrV, hB1⟩ := m2.out w.drew
    refine wo_run 3 (v := .slice (some ⟨w.drew.heap.size, 0, none⟩) n n) (w' := w1) rfl (by kernel_rfl) (exec_make 51 (.tmp 12) (.tmp 12) rfl n (by kernel_rfl) (by kernel_rfl) hm1) ?_
    obtain ⟨w2, hm2, hrS, hB2⟩ := m1.out w1
    refine wh_run 1 (v := .slice (some ⟨w1.heap.size, 0, none⟩) n n) (w' := w2) rfl (by kernel_rfl) (by kernel_rfl) trivial (exec_make 50 (.tmp 10) (.tmp 10) rfl n (by kernel_rfl) (by kernel_rfl) hm2) ?_
    refine wh_take 4 (.agg #[.slice (some ⟨w1.heap.size, 0, none⟩) n n, .slice (some ⟨w.drew.heap.size, 0, none⟩) n n]) rfl (by kernel_rfl) (by kernel_rfl) (fun _ _ _ h => h) (by kernel_rfl) (fun _ _ => by kernel_rfl) ?_
    refine wh_run 5 (v := .pointer (some ⟨w2.heap.size, 0, none⟩)) (w' := w2.alloc (.cells #[.slice (some ⟨w1.heap.size, 0, none⟩) n n, .slice (some ⟨w.drew.heap.size, 0, none⟩) n n] 53)) rfl (by kernel_rfl) (by kernel_rfl) trivial (by kernel_rfl) ?_
    refine wh_take 6 (.pointer (some ⟨w2.heap.size, 0, none⟩)) rfl (by kernel_rfl) (by kernel_rfl) (fun _ _ _ h => h) (by kernel_rfl) (fun _ _ => by kernel_rfl) ?_
    refine wh_take 7 (.int .i64 0) rfl (by kernel_rfl) (by kernel_rfl) (fun _ _ _ h => h) (by kernel_rfl) (fun _ _ => by kernel_rfl) ?_
    have hrV' := hrV.step hB2
    have hs1 := hB1.size
    have hs2 := hB2.size
    have hl1 := hrV.lt
    have hl2 := hrS.lt
    have hfin := made_at (w := w) (w1 := w1) (w2 := w2) (lo := w.heap.size) (gS := w1.heap.size) (gV := w.drew.heap.size) (n := n) hrS hrV' ⟨hs1, Nat.le_refl _⟩ (by show w1.heap.size ≠ w.heap.size; have : w.heap.size < w1.heap.size := hl1; omega) ((brefl w).drew.trans (show Below w.heap.size w.drew w1 from hB1)) hs1 hB2 ⟨by omega, by omega⟩
    clear hrV hrS hrV' hs1 hs2 hl1 hl2
    refine wh_done (by kernel_rfl) trivial ?_
    simp only [Act.put, List.setIfInBounds_toArray, List.set_cons_zero, List.set_cons_succ]
    go_wp2_with fail
    go_ret2
    exact ⟨⟨_, _, _, rfl, hfin.1⟩, hfin.2⟩
  -- held1>

theorem rhas_yes {w : World} {lo gq gS gV : Nat} {D : List Sct} {V : List (Option Addr × Nat)} (h : RAt w lo gq gS gV D V) (i : Nat) (hi : i < D.length) :
    Calls Try.prog 20 #[.pointer (some ⟨gq, 0, none⟩), .int .i64 (i : Int)] w fun e w' => e = .returned (.bool true) ∧ w = w' := by
  have hc := h.head.cellD 0 _ rfl
  have h1 : (0 : Int) ≤ (i : Int) := by omega
  have h2 : (i : Int) < (D.length : Int) := by omega
  have hd : decide (i < D.length) = true := decide_eq_true hi
  clear h
  go_enter Try.func20, Try.ntmps20
  go_wp2_with fail
  go_ret
  exact ⟨rfl, rfl⟩
theorem rhas_no {w : World} {lo gq gS gV : Nat} {D : List Sct} {V : List (Option Addr × Nat)} (h : RAt w lo gq gS gV D V) (i : Int) (hi : i < 0 ∨ (D.length : Int) ≤ i) :
    Calls Try.prog 20 #[.pointer (some ⟨gq, 0, none⟩), .int .i64 i] w fun e w' => e = .returned (.bool false) ∧ w = w' := by
  have hc := h.head.cellD 0 _ rfl
  clear h
  rcases hi with hi | hi
  · have hd : decide (0 ≤ i) = false := decide_eq_false (by omega)
    go_enter Try.func20, Try.ntmps20
    go_wp2_with fail
    go_ret
    exact ⟨rfl, rfl⟩
  · have hd : decide (0 ≤ i) = true := decide_eq_true (by omega)
    have hd2 : decide (i < (D.length : Int)) = false := decide_eq_false (by omega)
    go_enter Try.func20, Try.ntmps20
    go_wp2_with fail
    go_ret
    exact ⟨rfl, rfl⟩

theorem RAt.there {w : World} {lo gq gS gV : Nat} {D : List Sct} {V : List (Option Addr × Nat)} (h : RAt w lo gq gS gV D V) (i : Nat) (hi : i < D.length) : (((D.map Sct.there).flatten.map B8).drop (i * 64)).take 64 = D[i].there.map B8 := by
  have h64 : ∀ x ∈ D.map Sct.there, x.length = 64 := by
    intro x hx
    obtain ⟨s, hs, rfl⟩ := List.mem_map.1 hx
    exact (h.wf s hs).1
  rw [cells_part _ h64 i (by rw [List.length_map]; exact hi), List.getElem_map]
/-- The version k among the cells. -/
theorem vers_range {w : World} {b : Nat} {vs : List (List UInt8)} (h : w.rangeAt b 0 (vs.flatten.map B8)) (h64 : ∀ x ∈ vs, x.length = 64) (k : Nat) (hk : k < vs.length) : w.rangeAt b (k * 64) (vs[k].map B8) := by
  intro j v hj
  have hj' : j < 64 := by
    have := (List.getElem?_eq_some_iff.1 hj).1
    rw [List.length_map, h64 _ (List.getElem_mem hk)] at this
    exact this
  have := h (k * 64 + j) v (by
    rw [← cells_part vs h64 k hk, List.getElem?_take, if_pos hj', List.getElem?_drop] at hj
    exact hj)
  rwa [Nat.zero_add] at this

attribute [local go_sem ↓] Go.wp_at_zero Go.wp_at_succ
set_option maxHeartbeats 1000000 in
theorem rread_calls {w : World} {lo gq gS gV : Nat} {D : List Sct} {V : List (Option Addr × Nat)} (h : RAt w lo gq gS gV D V) (i : Nat) (hi : i < D.length) (hm : D[i].vers.length ≤ 100000) (L : List Value) (hL : Hid (L = D[i].last.map B8)) :
    Calls Try.prog 23 #[.pointer (some ⟨gq, 0, none⟩), .int .i64 (i : Int)] w fun e w' => e = .returned (.agg L.toArray) ∧ Below w.heap.size w w' := by
  have hwf := h.wf _ (List.getElem_mem hi)
  have HLl := Lib.hid (show L.length = 64 by rw [hL.out, List.length_map]; exact Sct.last_wf hwf)
  have HLo := Lib.hid (show ∀ v ∈ L, v.oneCell' = true by rw [hL.out]; exact bytes_oneCell _)
  have h1 : (0 : Int) ≤ (i : Int) := by omega
  have h2 : (i : Int) < (D.length : Int) := by omega
  obtain ⟨⟨A, c⟩, hv, hat⟩ := h.vers i hi
  have hvc := vcells_get hi hv
  go_enter Try.func23, Try.ntmps23
  go_upto_region 1 with (refine wpList_alloc_row 4 rfl 37 rfl _ rfl zero_block ?_; intro w1 hr1 hs1 hB1; clear hs1)
  have h' := h.step hB1
  have hc0 := h'.head.cellD 0 _ rfl
  have hc1 := h'.head.cellD 1 _ rfl
  have hcv := h'.rowV.cellD i _ hvc
  by_cases hn : D[i].vers = []
  · have HPT := Lib.hid (show (((D.map Sct.there).flatten.map B8).drop (i * 64)).take 64 = L by
      rw [h.there i hi, hL.out]
      unfold Sct.last
      rw [hn]
      rfl)
    rw [hn] at hcv
    simp only [List.length_nil] at hcv
    have hrS := h'.rowS
    clear h h' hat hvc hv hn hwf hm hL
    go_wp2_with (first
      | (refine wpList_load_part 33 rfl 37 (.tmp 32) rfl hrS (i * 64) 64 L rfl rfl HPT.out HLl.out Try.isAgg37 Try.sizeOf37 ?_)
      | (refine wpList_store_part 37 (.tmp 4) (.tmp 33) rfl hr1 0 L rfl rfl rfl (by rw [HLl.out]; exact Try.sizeOf37) (by rw [HLl.out]; decide) HLo.out ?_; intro w5 hr5 hs5 hg5; clear hs5))
    rw [splice_all _ _ (by rw [HLl.out]; rfl)] at hr5
    refine bodyPost_ret (results_cell_row rfl _ _ _ _ _ _ _ rfl hr5 Try.underlying37 rfl (by rw [List.size_toArray, HLl.out]; kernel_rfl)) rfl ?_
    exact ⟨rfl, hB1.grown hg5 hB1.size (fun j e => by cases e; exact Nat.le_refl _)⟩
  · rcases hat with hat | ⟨_, b, rfl, _, hb, _, _, _, hrange⟩
    · exact absurd hat.1 hn
    obtain ⟨m, hm9⟩ : ∃ m, D[i].vers.length = m + 1 := ⟨D[i].vers.length - 1, by have := List.length_pos_iff.2 hn; omega⟩
    have hlast : L = D[i].vers[m].map B8 := by
      rw [hL.out]
      unfold Sct.last
      rw [List.getLast?_eq_getElem?, List.getElem?_eq_getElem (by omega)]
      simp [hm9]
    have hrg : w1.rangeAt b (m * 64) L := by
      rw [hlast]
      have := vers_range hrange hwf.2 m (by omega)
      exact fun j v hj => (hB1.cell (p := ⟨b, m * 64 + j, none⟩) hb).trans (this j v hj)
    have hrg := Lib.hid (show ∀ j v, L[j]? = some v → w1.cell? ((⟨b, m * 64, none⟩ : Addr).add j) = some v from fun j v hj => by rw [add_at]; exact hrg j v hj)
    rw [hm9] at hcv
    have hm0 : (m : Int) + 1 ≤ 100000 := by omega
    have hm1 : (0 : Int) ≤ (m : Int) := by omega
    clear h h' hvc hv hn hwf hm hL hrange hlast hm9
    go_wp2_with (first
      | (refine wpList_load_cells 26 rfl 37 (.tmp 25) rfl ⟨b, m * 64, none⟩ L rfl rfl hrg.out 64 HLl.out Try.isAgg37 Try.sizeOf37 ?_)
      | (refine wpList_store_part 37 (.tmp 4) (.tmp 26) rfl hr1 0 L rfl rfl rfl (by rw [HLl.out]; exact Try.sizeOf37) (by rw [HLl.out]; decide) HLo.out ?_; intro w5 hr5 hs5 hg5; clear hs5))
    rw [splice_all _ _ (by rw [HLl.out]; rfl)] at hr5
    refine bodyPost_ret (results_cell_row rfl _ _ _ _ _ _ _ rfl hr5 Try.underlying37 rfl (by rw [List.size_toArray, HLl.out]; kernel_rfl)) rfl ?_
    exact ⟨rfl, hB1.grown hg5 hB1.size (fun j e => by cases e; exact Nat.le_refl _)⟩


/-- What an operation of the reference's disk leaves as it was. -/
structure RStep (w w' : World) (gS gV : Nat) : Prop where
  os : w'.os = w.os
  tape : w'.tape = w.tape
  output : w'.output = w.output
  size : w.heap.size ≤ w'.heap.size
  block : ∀ k, k < w.heap.size → k ≠ gS → k ≠ gV → w'.heap[k]? = w.heap[k]?
theorem RStep.of {w w' : World} {gS gV : Nat} (h : Below w.heap.size w w') : RStep w w' gS gV := ⟨h.os, h.tape, h.output, h.size, fun k hk _ _ => h.block k hk⟩
theorem RStep.trans {w w' w'' : World} {gS gV : Nat} (h : RStep w w' gS gV) (h' : RStep w' w'' gS gV) : RStep w w'' gS gV :=
  ⟨h'.os.trans h.os, h'.tape.trans h.tape, h'.output.trans h.output, Nat.le_trans h.size h'.size, fun k hk h1 h2 => (h'.block k (Nat.lt_of_lt_of_le hk h.size) h1 h2).trans (h.block k hk h1 h2)⟩
theorem RStep.grown {w w' : World} {gS gV g : Nat} (h : w.grownBy w' (some g)) (hg : g = gS ∨ g = gV) : RStep w w' gS gV :=
  ⟨h.os, h.tape, h.output, h.size, fun k hk h1 h2 => h.block k hk (fun e => by cases e; rcases hg with rfl | rfl <;> contradiction)⟩

theorem OwnA.cap {w : World} {base : Nat} {e : TypeId} {N : Nat} {A : Option Addr} {c : Nat} {ls : List (List UInt8)} (h : OwnA w base e N A c ls) : A = none → ls = [] := by
  intro hA
  rcases h.2 with ⟨hv, h0⟩ | ⟨g, cap, cur, hv, _⟩
  · exact List.eq_nil_of_length_eq_zero h0
  · injection hv with hv _ _
    rw [hA] at hv
    cases hv
/-- T{}: nothing. -/
theorem empty_run {P : Program} (w : World) (base : Nat) (hb : base ≤ w.heap.size) (t e : TypeId) (ht : P.underlying t = some (.slice e)) {z : Value} {N bb : Nat} (hinfo : (P.info? e).map (fun i => (i.zero, i.size, i.bytes)) = some (some z, N, bb)) :
    ∃ w1, (Instr.buildSlice t 0 #[]).run P w = .ok (.slice (some ⟨w.heap.size, 0, none⟩) 0 0) w1 ∧ OwnA w1 base e N (some ⟨w.heap.size, 0, none⟩) 0 [] ∧ Below w.heap.size w w1 := by
  obtain ⟨i, hi, hz0, hz1, _⟩ := info_parts hinfo
  refine ⟨w.alloc (.cells #[] e), ?_, World.ownsRow_made w #[] 0 hb (by simp [maxLen]) (by simp), alloc_below w _⟩
  simp [Instr.buildSlice, run_underlying ht, sizeOf, typeInfo, hi, newRow, Instr.fill]
  rw [show (Array.range 0) = #[] from Array.eq_empty_of_size_eq_zero (by simp), Array.map_empty]
theorem exec_empty {P : Program} {w w1 : World} {o : Oper} {a : Act} (t : TypeId) (ho : o.op = .buildSlice t 0 #[]) {v : Value} (hr : (Instr.buildSlice t 0 #[]).run P w = .ok v w1) : (execOp a.eval o).run P w = .ok (.value v) w1 := by
  simp only [execOp, ho, List.map_toArray, List.map_nil, Sem.run_bind, hr, Result.andThen_ok, Sem.run_pure]
/-- T{x}. -/
theorem lit_run {P : Program} (w : World) (t e : TypeId) (cs : List Value) (N : Nat) (hN : cs.length = N) {z : Value} {b : Nat} (hu : P.underlying t = some (.slice e)) (hinfo : (P.info? e).map (fun i => (i.zero, i.size, i.bytes)) = some (some z, N, b)) (h0 : 0 < N) (hm : N ≤ 16777216) :
    ∃ w1, (∀ (o : Oper) (a : Act) (x : Operand), o.op = .buildSlice t 1 #[(0, x)] → a.eval x = .agg cs.toArray → (execOp a.eval o).run P w = .ok (.value (.slice (some ⟨w.heap.size, 0, none⟩) 1 1)) w1) ∧ RowAt w1 w.heap.size e cs ∧ Below w.heap.size w w1 :=
  ⟨w.alloc (.cells cs.toArray e), fun _ _ x ho hx => exec_lit_row t e x ho cs hx N hN hu hinfo h0 hm, alloc_row w e cs, alloc_below w _⟩
/-- append(v, m...) of rows, none too. -/
theorem rows_run {P : Program} (w : World) (t ty e : TypeId) {z : Value} {N : Nat} (ht : P.underlying t = some (.slice e)) (hinfo : (P.info? e).map (fun i => (i.zero, i.size, i.bytes)) = some (some z, N, N)) (hz : z.cells.size = N) (h0 : 0 < N) (base : Nat) (hbase : base ≤ w.heap.size)
    {A : Option Addr} {c : Nat} {ls : List (List UInt8)} (hown : OwnA w base e N A c ls) {A2 : Option Addr} {ms : List (List UInt8)} (hms : (ms = [] ∧ A2 = none) ∨ ∃ b off, A2 = some ⟨b, off, none⟩ ∧ w.rangeAt b off (ms.flatten.map B8)) (hl : ∀ r ∈ ms, r.length = N) (c2 : Nat) (hlen : (ls.length + ms.length) * N ≤ 140737488355328) (hne : ms = [] → A2 = none) :
    ∃ (zs : List (List UInt8)) (A' : Option Addr) (c' : Nat) (w' : World), Hid (zs = ls ++ ms) ∧ (Builtin.append_ #[t, t] ty #[.slice A ls.length c, .slice A2 ms.length c2]).run P w = .ok (.slice A' zs.length c') w' ∧ OwnA w' base e N A' c' zs ∧ w.grownBy w' (A.map (·.block)) := by
  obtain ⟨i, hi, hz0, hz1, hz2⟩ := info_parts hinfo
  by_cases hm0 : ms = []
  · obtain rfl := hne hm0
    subst hm0
    refine ⟨ls, A, c, w, by simp [Hid], ?_, hown, World.grownBy.refl w _⟩
    rcases hown.2 with ⟨hv, h0⟩ | ⟨g, cap, cur, hv, _, _, hnc, _⟩
    · injection hv with h1 h2 h3
      subst h1 h3
      simp [Builtin.append_, run_underlying ht, sizeOf, typeInfo, hi, Builtin.lenOf, Builtin.firstCells, h2]
    · injection hv with h1 h2 h3
      subst h1 h3
      simp [Builtin.append_, run_underlying ht, sizeOf, typeInfo, hi, Builtin.lenOf, Builtin.firstCells, hnc, storeCells]
  · rcases hms with ⟨hms, _⟩ | ⟨b, off, rfl, hr⟩
    · exact absurd hms hm0
    have hmp : 0 < ms.length := List.length_pos_iff.2 hm0
    have hlen2 : ls.length + ms.length ≤ 140737488355328 := by
      have h1 : ls.length + ms.length ≤ (ls.length + ms.length) * N := Nat.le_mul_of_pos_right _ h0
      omega
    obtain ⟨g, cap, w', hrun, h2, h3, _, _⟩ := run_append_lies (P := P) w t ty base e i z N N ht hi hz0 hz1 hz2 hz h0 (.slice A ls.length c) ls.length (ls.flatten.map B8) hown ⟨b, off, none⟩ ms.length c2 (ms.flatten.map B8) (by rw [List.length_map, rows_flat ms hl])
      (fun j u hj => by rw [add_at]; exact hr j u hj) (bytes_oneCell _) hmp (by simp [maxLen]; omega) hlen hbase w.heap.size rfl
    refine ⟨ls ++ ms, some ⟨g, 0, none⟩, cap, w', rfl, by rw [List.length_append]; exact hrun, ?_, by rw [← own_of A ls.length c]; exact h3⟩
    unfold OwnA
    rw [List.length_append, List.flatten_append, List.map_append]
    exact h2
theorem exec_app {P : Program} {w w1 : World} {o : Oper} {a : Act} (s x : Operand) (t ty : TypeId) (ho : o.op = .call { callee := .builtin .append, args := #[s, x], argTypes := #[t, t] }) (hty : o.type = ty) {v u r : Value} (hs : a.eval s = v) (hx : a.eval x = u)
    (hr : (Builtin.append_ #[t, t] ty #[v, u]).run P w = .ok r w1) : (execOp a.eval o).run P w = .ok (.value r) w1 := by
  subst hty hs hx
  simp only [execOp, ho, resolve, invoke, builtin, Sem.run_bind, Sem.run_pure, Result.andThen_ok, List.map_toArray, List.map_cons, List.map_nil, hr]
theorem exec_store_cell {P : Program} {w : World} {o : Oper} {a : Act} (t : TypeId) (x y : Operand) (ho : o.op = .store t x y) (g j : Nat) (v u : Value) (hx : a.eval x = .pointer (some ⟨g, j, none⟩)) (hy : a.eval y = v) (hv : v.cells = #[v]) (h1 : v.oneCell' = true) (hs : ∀ w, (sizeOf t).run P w = .ok 1 w) (hc : w.cell? ⟨g, j, none⟩ = some u) (hf : w.frozen? ⟨g, j, none⟩ = false) :
    (execOp a.eval o).run P w = .ok .skip (w.setCell ⟨g, j, none⟩ v) := by
  simp [execOp, ho, hx, hy, Instr.storeAt, Instr.sureAddr, storeVar, hv, hs, storeCells, add_at, run_store _ _ _ _ _ h1, hc, hf]

theorem row_run {P : Program} (w : World) (t ty e : TypeId) {z : Value} {N : Nat} (ht : P.underlying t = some (.slice e)) (hinfo : (P.info? e).map (fun i => (i.zero, i.size, i.bytes)) = some (some z, N, N)) (hz : z.cells.size = N) (h0 : 0 < N) (base : Nat) (hbase : base ≤ w.heap.size)
    {A : Option Addr} {c : Nat} {ls : List (List UInt8)} (hown : OwnA w base e N A c ls) {l : List UInt8} (hl : l.length = N) {g : Nat} {tr : TypeId} (hrow : RowAt w g tr (l.map B8)) (c2 : Nat) (hlen : (ls.length + 1) * N ≤ 140737488355328) :
    ∃ (zs : List (List UInt8)) (A' : Option Addr) (c' : Nat) (w' : World), Hid (zs = ls ++ [l]) ∧ (Builtin.append_ #[t, t] ty #[.slice A ls.length c, .slice (some ⟨g, 0, none⟩) 1 c2]).run P w = .ok (.slice A' zs.length c') w' ∧ OwnA w' base e N A' c' zs ∧ w.grownBy w' (A.map (·.block)) :=
  rows_run w t ty e ht hinfo hz h0 base hbase hown (ms := [l]) (.inr ⟨g, 0, rfl, by
    rw [List.flatten_cons, List.flatten_nil, List.append_nil]
    exact hrow.range⟩) (fun r hr => by rw [List.mem_singleton.1 hr]; exact hl) c2 hlen (fun e => by cases e)
theorem rowKept {W W' : World} {base g : Nat} {e tr : TypeId} {A : Option Addr} {L : List Value} (h : RowAt W g tr L) (hL : 0 < L.length) (hown : OwnA W base e 64 A 0 []) (hg : W.grownBy W' (A.map (·.block))) : RowAt W' g tr L := by
  refine h.kept hg fun e' => ?_
  rcases hown.2 with ⟨hv, _⟩ | ⟨g', cap, cur, hv, _, hgb, hc, _, hs, _⟩
  · injection hv with hA _ _
    rw [hA] at e'
    cases e'
  · injection hv with hA _ hcap
    subst hA
    obtain rfl : g' = g := by simpa using e'
    unfold RowAt at h
    rw [hgb] at h
    injection h with h
    injection h with h _ _
    subst h hcap
    rw [List.size_toArray, Nat.zero_mul] at hs
    omega
theorem setRows {W : World} {gV g1 g2 : Nat} {t1 t2 : TypeId} {L1 L2 : List Value} (v : Value) (h : RowAt W g1 t1 L1 ∧ RowAt W g2 t2 L2) (h1 : gV ≠ g1) (h2 : gV ≠ g2) (i : Nat) : RowAt (W.setCell ⟨gV, i, none⟩ v) g1 t1 L1 ∧ RowAt (W.setCell ⟨gV, i, none⟩ v) g2 t2 L2 :=
  ⟨h.1.kept (setCell_grown W gV i v) (fun e => h1 (by injection e)), h.2.kept (setCell_grown W gV i v) (fun e => h2 (by injection e))⟩
/-- Write: what is behind the store. -/
theorem rwrite_done {w w1 W : World} {lo gq gS gV : Nat} {D : List Sct} {V : List (Option Addr × Nat)} (h : RAt w lo gq gS gV D V) (hB1 : Below w.heap.size w w1) (i : Nat) (hi : i < D.length) (b : List UInt8) (hb : b.length = 64) (hB : Since w1 W)
    {A : Option Addr} {c : Nat} {zs : List (List UInt8)} (hown : OwnA W w1.heap.size 37 64 A c zs) (hzs : zs = D[i].vers ++ [b]) :
    (∃ v, RAt (W.setCell ⟨gV, i, none⟩ (.slice A zs.length c)) lo gq gS gV (D.set i ⟨D[i].there, D[i].vers ++ [b]⟩) (V.set i v) ∧ ∀ k, v.1.map (·.block) = some k → w.heap.size ≤ k) ∧ RStep w (W.setCell ⟨gV, i, none⟩ (.slice A zs.length c)) gS gV := by
  have h1 := (h.step hB1).step hB
  have hiV : i < V.length := by rw [h.len]; exact hi
  have hs1 := hB1.size
  have hgr := setCell_grown W gV i (.slice A zs.length c)
  have hwlt := h.head.lt
  have hwS := h.rowS.lt
  have hwV := h.rowV.lt
  have hlt := hown.lt
  refine ⟨⟨(A, c), ?_, fun k hk => Nat.le_trans hs1 (hlt k hk).1⟩, (RStep.of (bthen hB1 hB)).trans (.grown hgr (.inr rfl))⟩
  have hth : (D.set i ⟨D[i].there, D[i].vers ++ [b]⟩).map Sct.there = D.map Sct.there := by
    rw [List.map_set]
    apply List.ext_getElem?
    intro j
    rw [List.getElem?_set]
    split
    · rename_i e
      subst e
      rw [if_pos (by rw [List.length_map]; exact hi), List.getElem?_map, List.getElem?_eq_getElem hi]
      rfl
    · rfl
  have hne := h.ne
  refine ⟨?_, ?_, ?_, ?_, by rw [List.length_set, List.length_set, h.len], h.low, h.ne, fun j hj => ?_⟩
  · rw [List.length_set]
    exact h1.head.kept hgr (fun e => by injection e with e; omega)
  · rw [hth]
    exact h1.rowS.kept hgr (fun e => by injection e with e; omega)
  · have hr := h1.rowV.set i (.slice A zs.length c)
    rw [vcells_set D V i ⟨D[i].there, D[i].vers ++ [b]⟩ (A, c) (.slice A zs.length c) (by rw [hzs]) hi hiV] at hr
    exact hr
  · intro s hs
    rcases List.mem_or_eq_of_mem_set hs with hs | rfl
    · exact h.wf s hs
    · have hw := h.wf _ (List.getElem_mem hi)
      refine ⟨hw.1, fun x hx => ?_⟩
      rcases List.mem_append.1 hx with hx | hx
      · exact hw.2 x hx
      · rw [List.mem_singleton.1 hx]
        exact hb
  · rw [List.length_set] at hj
    by_cases hij : i = j
    · subst hij
      refine ⟨(A, c), by rw [List.getElem?_set_self hiV], ?_⟩
      rw [List.getElem_set_self]
      right
      obtain ⟨g, hA, hg0, hg1, hcell⟩ := hown.cell (by rw [hzs, List.length_append, List.length_singleton]; omega)
      have hlo := h.low
      have hloB : lo ≤ w1.heap.size := by omega
      refine ⟨by simp, g, hA, by omega, by rw [World.size_setCell]; exact hg1, by omega, by omega, by omega, fun j x hj => ?_⟩
      have hz64 : ∀ r ∈ zs, r.length = 64 := by
        intro r hr
        rw [hzs] at hr
        rcases List.mem_append.1 hr with hr | hr
        · exact (h.wf _ (List.getElem_mem hi)).2 r hr
        · rw [List.mem_singleton.1 hr]
          exact hb
      rw [World.cell?_setCell_other _ _ _ _ (fun e => by have e := congrArg Addr.block e; simp only at e; omega), Nat.zero_add]
      rw [← hzs] at hj
      rcases hcell j with hc | hc
      · rw [hc]
        exact hj
      · have := (List.getElem?_eq_some_iff.1 hj).1
        rw [List.length_map, rows_flat zs hz64] at this
        omega
    · obtain ⟨v, hv, hat⟩ := h1.vers j hj
      refine ⟨v, by rw [List.getElem?_set_ne hij]; exact hv, ?_⟩
      rw [List.getElem_set_ne hij]
      rcases hat with hn | ⟨hn0, g, hA, e1, e2, e3, e4, e5, hr⟩
      · exact .inl hn
      · refine .inr ⟨hn0, g, hA, e1, by rw [World.size_setCell]; exact e2, e3, e4, e5, fun m x hm => ?_⟩
        rw [World.cell?_setCell_other _ _ _ _ (fun e => by have e := congrArg Addr.block e; simp only at e; omega)]
        exact hr m x hm

theorem OwnA.sinceW {w W W' : World} {e : TypeId} {N : Nat} {A : Option Addr} {c : Nat} {ls : List (List UInt8)} (h : OwnA W w.heap.size e N A c ls) (hb : Below W.heap.size W W') : OwnA W' w.heap.size e N A c ls := h.below hb (Nat.le_refl _)
theorem since_grown {w W W' : World} {e : TypeId} {N : Nat} {A : Option Addr} {c : Nat} {ls : List (List UInt8)} (h : Since w W) (hown : OwnA W w.heap.size e N A c ls) (hg : W.grownBy W' (A.map (·.block))) : Since w W' := bgrown h hg (fun k e => (hown.lt k e).1)

set_option maxHeartbeats 4000000 in
theorem rwrite_calls {w : World} {lo gq gS gV : Nat} {D : List Sct} {V : List (Option Addr × Nat)} (h : RAt w lo gq gS gV D V) (i : Nat) (hi : i < D.length) (hm : D[i].vers.length ≤ 100000) (b : List UInt8) (hb : b.length = 64) (L : List Value) (hL : Hid (L = b.map B8)) :
    Calls Try.prog 21 #[.pointer (some ⟨gq, 0, none⟩), .int .i64 (i : Int), .agg L.toArray] w fun e w' => (∃ v, e = .returned v) ∧
      (∃ v, RAt w' lo gq gS gV (D.set i ⟨D[i].there, D[i].vers ++ [b]⟩) (V.set i v) ∧ ∀ k, v.1.map (·.block) = some k → w.heap.size ≤ k) ∧ RStep w w' gS gV := by
  have HLl := Lib.hid (show L.length = 64 by rw [hL.out, List.length_map, hb])
  have hgq := h.head.lt
  have hgV := h.rowV.lt
  obtain ⟨⟨A, c⟩, hv, hat⟩ := h.vers i hi
  have hvc := vcells_get hi hv
  go_enter Try.func21, Try.ntmps21
  go_wp2_with (refine wpList_box_row 5 rfl 37 _ rfl L rfl rfl ?_; intro w1 hr1 hs1 hB1; clear hs1)
  have h1 := h.step hB1
  have hcV : w1.cell? ⟨gV, i, none⟩ = some (.slice A D[i].vers.length c) := h1.rowV.cellD i _ hvc
  have hV1 : gV < w1.heap.size := h1.rowV.lt
  have hD64 := (h.wf _ (List.getElem_mem hi)).2
  have hms : (D[i].vers = [] ∧ A = none) ∨ ∃ g, A = some ⟨g, 0, none⟩ ∧ g < w1.heap.size ∧ w1.rangeAt g 0 (D[i].vers.flatten.map B8) := by
    rcases hat with hat | ⟨_, g, hA, _, h2, _, _, _, hr⟩
    · exact .inl hat
    · exact .inr ⟨g, hA, Nat.lt_of_lt_of_le h2 hB1.size, fun j x hj => (hB1.cell (p := ⟨g, 0 + j, none⟩) h2).trans (hr j x hj)⟩
  have hmn : D[i].vers = [] → A = none := by
    intro e
    rcases hat with hat | ⟨hn0, _⟩
    · exact hat.2
    · exact absurd e hn0
  have hms' : (D[i].vers = [] ∧ A = none) ∨ ∃ b off, A = some ⟨b, off, none⟩ ∧ b < w1.heap.size ∧ w1.rangeAt b off (D[i].vers.flatten.map B8) := by
    rcases hms with hms | ⟨g, hA, hlt, hr⟩
    · exact .inl hms
    · exact .inr ⟨g, 0, hA, hlt, hr⟩
  have Happ := Lib.hid (fun W (hB : Since w1 W) (A0 : Option Addr) (c0 : Nat) (hown : OwnA W w1.heap.size 37 64 A0 c0 []) => rows_run (P := Try.prog) W 50 50 37 Try.underlying50 info_block (by rfl) (by decide) w1.heap.size hB.size hown
    (hms'.imp id (fun ⟨b, off, hA, hlt, hr⟩ => ⟨b, off, hA, fun j x hj => (hB.cell (p := ⟨b, off + j, none⟩) (hr j x hj))⟩)) hD64 c (by simp; omega) hmn)
  have Hlit := Lib.hid (fun W => lit_run (P := Try.prog) W 50 37 L 64 HLl.out Try.underlying50 info_block (by decide) (by decide))
  have Hemp := Lib.hid (fun W (hB : Since w1 W) => empty_run (P := Try.prog) W w1.heap.size hB.size 50 37 Try.underlying50 info_block)
  have Hh := h1.head
  have HTL := Lib.hid (show (L.drop 0).take 64 = L from List.take_of_length_le (Nat.le_of_eq HLl.out))
  obtain ⟨n, hn⟩ : ∃ n, n = D[i].vers.length := ⟨_, rfl⟩
  rw [← hn] at hcV
  have HiD := Lib.hid hi
  have hne := h.ne
  have rowV1 := h1.rowV
  have HL0 := Lib.hid (show 0 < L.length by rw [HLl.out]; decide)
  have d0 : Since w1 w1.drew := (Since.refl _).drew
  have z0 : RowAt w1.drew gq 53 [.slice (some ⟨gS, 0, none⟩) D.length D.length, .slice (some ⟨gV, 0, none⟩) D.length D.length] ∧ RowAt w1.drew w.heap.size 37 L := ⟨Hh, hr1⟩
  go_wp2_with fail
  refine wp_region_H (fun W => RowAt W gq 53 [.slice (some ⟨gS, 0, none⟩) D.length D.length, .slice (some ⟨gV, 0, none⟩) D.length D.length] ∧ RowAt W w.heap.size 37 L) 19 rfl (by kernel_rfl) ?_
  -- <held1
  refine wh_take 0 (.pointer (some ⟨gq, 0, none⟩)) rfl (by kernel_rfl) (by kernel_rfl) (fun _ _ _ h => h) (by kernel_rfl) (fun _ _ => by kernel_rfl) ?_
  refine wh_take 1 (.pointer (some ⟨gq, 0, none⟩)) rfl (by kernel_rfl) (by kernel_rfl) (fun _ _ _ h => h) (by kernel_rfl) (fun _ _ => by kernel_rfl) ?_
  refine wh_take 2 (.pointer (some ⟨gq, 1, none⟩)) rfl (by kernel_rfl) (by kernel_rfl) (fun _ _ _ h => h) (by kernel_rfl) (fun _ _ => by kernel_rfl) ?_
  refine wh_take 3 (.slice (some ⟨gV, 0, none⟩) D.length D.length) rfl (by kernel_rfl) (by kernel_rfl) (fun _ _ _ h => h) (by kernel_rfl) (fun W h => exec_load_cell 51 (.tmp 8) rfl ⟨gq, 1, none⟩ _ (by kernel_rfl) (h.1.cellD 1 _ rfl) Try.isAgg51) ?_
  refine wh_take 4 (.int .i64 (i : Nat)) rfl (by kernel_rfl) (by kernel_rfl) (fun _ _ _ h => h) (by kernel_rfl) (fun _ _ => by kernel_rfl) ?_
  refine wh_take 6 (.pointer (some ⟨gq, 0, none⟩)) rfl (by kernel_rfl) (by kernel_rfl) (fun _ _ _ h => h) (by kernel_rfl) (fun _ _ => by kernel_rfl) ?_
  refine wh_take 7 (.pointer (some ⟨gq, 0, none⟩)) rfl (by kernel_rfl) (by kernel_rfl) (fun _ _ _ h => h) (by kernel_rfl) (fun _ _ => by kernel_rfl) ?_
  refine wh_take 8 (.pointer (some ⟨gq, 1, none⟩)) rfl (by kernel_rfl) (by kernel_rfl) (fun _ _ _ h => h) (by kernel_rfl) (fun _ _ => by kernel_rfl) ?_
  refine wh_take 9 (.slice (some ⟨gV, 0, none⟩) D.length D.length) rfl (by kernel_rfl) (by kernel_rfl) (fun _ _ _ h => h) (by kernel_rfl) (fun W h => exec_load_cell 51 (.tmp 14) rfl ⟨gq, 1, none⟩ _ (by kernel_rfl) (h.1.cellD 1 _ rfl) Try.isAgg51) ?_
  refine wh_take 10 (.int .i64 (i : Nat)) rfl (by kernel_rfl) (by kernel_rfl) (fun _ _ _ h => h) (by kernel_rfl) (fun _ _ => by kernel_rfl) ?_
  refine wh_take 11 (.pointer (some ⟨gV, i, none⟩)) rfl (by kernel_rfl) (by kernel_rfl) (fun _ _ _ h => h) (by kernel_rfl) (fun _ _ => by rw [exec_index_slice 51 50 (.tmp 15) (.tmp 16) rfl gV 0 i D.length D.length 1 Try.underlying51 Try.sizeOf50 (by kernel_rfl) (by kernel_rfl) HiD.out, Nat.zero_add, Nat.mul_one]) ?_
  refine wh_take 14 (.agg L.toArray) rfl (by kernel_rfl) (by kernel_rfl) (fun _ _ _ h => h) (by kernel_rfl) (fun W h => exec_load_part 37 (.tmp 5) rfl h.2 0 64 L (by kernel_rfl) HTL.out HLl.out Try.isAgg37 Try.sizeOf37) ?_
  refine wh_three 5 12 15 (by kernel_rfl) z0 ?_ ?_ ?_
  · obtain ⟨W1, hq1, o1, hb1⟩ := Hemp.out w1.drew d0
    refine wo_run 5 (v := .slice (some ⟨w1.drew.heap.size, 0, none⟩) 0 0) (w' := W1) rfl (by kernel_rfl) (exec_empty 50 rfl hq1) ?_
    have z1 : _ ∧ _ := ⟨z0.1.step hb1, z0.2.step hb1⟩
    have d1 := d0.then_ hb1
    refine wh_two 12 15 (by kernel_rfl) z1 ?_ ?_
    · refine wo_run 12 (v := .slice A n c) (w' := W1) rfl (by kernel_rfl) (exec_load_cell 50 (.tmp 17) rfl ⟨gV, i, none⟩ (.slice A n c) (by kernel_rfl) (d1.cell (p := ⟨gV, i, none⟩) hcV) Try.isAgg50) ?_
      refine wh_two 13 15 (by kernel_rfl) z1 ?_ ?_
      · obtain ⟨zs2, A2, c2, W2, he2, hq2, o2, hg2⟩ := Happ.out W1 d1 _ _ o1
        rw [← hn] at hq2
        refine wo_run 13 (v := .slice A2 zs2.length c2) (w' := W2) rfl (by kernel_rfl) (exec_app (.tmp 11) (.tmp 18) 50 50 rfl rfl (by kernel_rfl) (by kernel_rfl) hq2) ?_
        have g2 : Below w1.heap.size W1 W2 := (Below.refl _ _).grown hg2 d1.size (fun k e => (o1.lt k e).1)
        have d2 := since_grown d1 o1 hg2
        have z2 : _ ∧ _ := ⟨z1.1.below g2 Hh.lt, z1.2.below g2 hr1.lt⟩
        obtain ⟨W3, hq3, l3, hb3⟩ := Hlit.out W2
        refine wh_run 15 (v := .slice (some ⟨W2.heap.size, 0, none⟩) 1 1) (w' := W3) rfl (by kernel_rfl) (by kernel_rfl) z2 (hq3 _ _ (.tmp 20) rfl (by kernel_rfl)) ?_
        have z3 : _ ∧ _ := ⟨z2.1.step hb3, z2.2.step hb3⟩
        have d3 := d2.then_ hb3
        have o3 := o2.sinceW hb3
        obtain ⟨zs4, A4, c4, W4, he4, hq4, o4, hg4⟩ := row_run (P := Try.prog) W3 50 50 37 Try.underlying50 info_block (by rfl) (by decide) w1.heap.size d3.size o3 hb (hL.out ▸ l3) 1 (by have := congrArg List.length he2.out; simp at this; omega)
        refine wh_run 16 (v := .slice A4 zs4.length c4) (w' := W4) rfl (by kernel_rfl) (by kernel_rfl) z3 (exec_app (.tmp 19) (.tmp 21) 50 50 rfl rfl (by kernel_rfl) (by kernel_rfl) hq4) ?_
        have g4 : Below w1.heap.size W3 W4 := (Below.refl _ _).grown hg4 d3.size (fun k e => (o3.lt k e).1)
        have d4 := since_grown d3 o3 hg4
        have z4 : _ ∧ _ := ⟨z3.1.below g4 Hh.lt, z3.2.below g4 hr1.lt⟩
        refine wh_take 17 (.pointer (some ⟨gV, i, none⟩)) rfl (by kernel_rfl) (by kernel_rfl) (fun _ _ _ h => h) (by kernel_rfl) (fun _ _ => by rw [exec_index_slice 51 50 (.tmp 9) (.tmp 10) rfl gV 0 i D.length D.length 1 Try.underlying51 Try.sizeOf50 (by kernel_rfl) (by kernel_rfl) HiD.out, Nat.zero_add, Nat.mul_one]) ?_
        have hfin := rwrite_done h hB1 i HiD.out b hb d4 o4 (by rw [he4.out, he2.out, List.nil_append])
        have zf := setRows (.slice A4 zs4.length c4) z4 (show gV ≠ gq from fun e => hne.2.1 e.symm) (show gV ≠ w.heap.size by omega) i
        refine wh_skip 18 (w' := W4.setCell ⟨gV, i, none⟩ (.slice A4 zs4.length c4)) rfl (by kernel_rfl) (by kernel_rfl) z4 (exec_store_cell 50 (.tmp 23) (.tmp 22) rfl gV i (.slice A4 zs4.length c4) (.slice A n c) (by kernel_rfl) (by kernel_rfl) rfl rfl Try.sizeOf50 (d4.cell (p := ⟨gV, i, none⟩) hcV) ((rowV1.step d4).free i)) ?_
        refine wh_done (by kernel_rfl) zf ?_
        simp only [Act.put, List.setIfInBounds_toArray, List.set_cons_zero, List.set_cons_succ]
        go_wp2_with fail
        go_end0
        exact ⟨⟨_, rfl⟩, hfin⟩
      · obtain ⟨W2, hq2, l2, hb2⟩ := Hlit.out W1
        refine wo_run 15 (v := .slice (some ⟨W1.heap.size, 0, none⟩) 1 1) (w' := W2) rfl (by kernel_rfl) (hq2 _ _ (.tmp 20) rfl (by kernel_rfl)) ?_
        have z2 : _ ∧ _ := ⟨z1.1.step hb2, z1.2.step hb2⟩
        have d2 := d1.then_ hb2
        have o2 := o1.sinceW hb2
        obtain ⟨zs3, A3, c3, W3, he3, hq3, o3, hg3⟩ := Happ.out W2 d2 _ _ o2
        rw [← hn] at hq3
        refine wh_run 13 (v := .slice A3 zs3.length c3) (w' := W3) rfl (by kernel_rfl) (by kernel_rfl) z2 (exec_app (.tmp 11) (.tmp 18) 50 50 rfl rfl (by kernel_rfl) (by kernel_rfl) hq3) ?_
        have g3 : Below w1.heap.size W2 W3 := (Below.refl _ _).grown hg3 d2.size (fun k e => (o2.lt k e).1)
        have d3 := since_grown d2 o2 hg3
        have z3 : _ ∧ _ := ⟨z2.1.below g3 Hh.lt, z2.2.below g3 hr1.lt⟩
        have l3 := rowKept l2 HL0.out o2 hg3
        obtain ⟨zs4, A4, c4, W4, he4, hq4, o4, hg4⟩ := row_run (P := Try.prog) W3 50 50 37 Try.underlying50 info_block (by rfl) (by decide) w1.heap.size d3.size o3 hb (hL.out ▸ l3) 1 (by have := congrArg List.length he3.out; simp at this; omega)
        refine wh_run 16 (v := .slice A4 zs4.length c4) (w' := W4) rfl (by kernel_rfl) (by kernel_rfl) z3 (exec_app (.tmp 19) (.tmp 21) 50 50 rfl rfl (by kernel_rfl) (by kernel_rfl) hq4) ?_
        have g4 : Below w1.heap.size W3 W4 := (Below.refl _ _).grown hg4 d3.size (fun k e => (o3.lt k e).1)
        have d4 := since_grown d3 o3 hg4
        have z4 : _ ∧ _ := ⟨z3.1.below g4 Hh.lt, z3.2.below g4 hr1.lt⟩
        refine wh_take 17 (.pointer (some ⟨gV, i, none⟩)) rfl (by kernel_rfl) (by kernel_rfl) (fun _ _ _ h => h) (by kernel_rfl) (fun _ _ => by rw [exec_index_slice 51 50 (.tmp 9) (.tmp 10) rfl gV 0 i D.length D.length 1 Try.underlying51 Try.sizeOf50 (by kernel_rfl) (by kernel_rfl) HiD.out, Nat.zero_add, Nat.mul_one]) ?_
        have hfin := rwrite_done h hB1 i HiD.out b hb d4 o4 (by rw [he4.out, he3.out, List.nil_append])
        have zf := setRows (.slice A4 zs4.length c4) z4 (show gV ≠ gq from fun e => hne.2.1 e.symm) (show gV ≠ w.heap.size by omega) i
        refine wh_skip 18 (w' := W4.setCell ⟨gV, i, none⟩ (.slice A4 zs4.length c4)) rfl (by kernel_rfl) (by kernel_rfl) z4 (exec_store_cell 50 (.tmp 23) (.tmp 22) rfl gV i (.slice A4 zs4.length c4) (.slice A n c) (by kernel_rfl) (by kernel_rfl) rfl rfl Try.sizeOf50 (d4.cell (p := ⟨gV, i, none⟩) hcV) ((rowV1.step d4).free i)) ?_
        refine wh_done (by kernel_rfl) zf ?_
        simp only [Act.put, List.setIfInBounds_toArray, List.set_cons_zero, List.set_cons_succ]
        go_wp2_with fail
        go_end0
        exact ⟨⟨_, rfl⟩, hfin⟩
    · obtain ⟨W2, hq2, l2, hb2⟩ := Hlit.out W1
      refine wo_run 15 (v := .slice (some ⟨W1.heap.size, 0, none⟩) 1 1) (w' := W2) rfl (by kernel_rfl) (hq2 _ _ (.tmp 20) rfl (by kernel_rfl)) ?_
      have z2 : _ ∧ _ := ⟨z1.1.step hb2, z1.2.step hb2⟩
      have d2 := d1.then_ hb2
      have o2 := o1.sinceW hb2
      refine wh_run 12 (v := .slice A n c) (w' := W2) rfl (by kernel_rfl) (by kernel_rfl) z2 (exec_load_cell 50 (.tmp 17) rfl ⟨gV, i, none⟩ (.slice A n c) (by kernel_rfl) (d2.cell (p := ⟨gV, i, none⟩) hcV) Try.isAgg50) ?_
      obtain ⟨zs3, A3, c3, W3, he3, hq3, o3, hg3⟩ := Happ.out W2 d2 _ _ o2
      rw [← hn] at hq3
      refine wh_run 13 (v := .slice A3 zs3.length c3) (w' := W3) rfl (by kernel_rfl) (by kernel_rfl) z2 (exec_app (.tmp 11) (.tmp 18) 50 50 rfl rfl (by kernel_rfl) (by kernel_rfl) hq3) ?_
      have g3 : Below w1.heap.size W2 W3 := (Below.refl _ _).grown hg3 d2.size (fun k e => (o2.lt k e).1)
      have d3 := since_grown d2 o2 hg3
      have z3 : _ ∧ _ := ⟨z2.1.below g3 Hh.lt, z2.2.below g3 hr1.lt⟩
      have l3 := rowKept l2 HL0.out o2 hg3
      obtain ⟨zs4, A4, c4, W4, he4, hq4, o4, hg4⟩ := row_run (P := Try.prog) W3 50 50 37 Try.underlying50 info_block (by rfl) (by decide) w1.heap.size d3.size o3 hb (hL.out ▸ l3) 1 (by have := congrArg List.length he3.out; simp at this; omega)
      refine wh_run 16 (v := .slice A4 zs4.length c4) (w' := W4) rfl (by kernel_rfl) (by kernel_rfl) z3 (exec_app (.tmp 19) (.tmp 21) 50 50 rfl rfl (by kernel_rfl) (by kernel_rfl) hq4) ?_
      have g4 : Below w1.heap.size W3 W4 := (Below.refl _ _).grown hg4 d3.size (fun k e => (o3.lt k e).1)
      have d4 := since_grown d3 o3 hg4
      have z4 : _ ∧ _ := ⟨z3.1.below g4 Hh.lt, z3.2.below g4 hr1.lt⟩
      refine wh_take 17 (.pointer (some ⟨gV, i, none⟩)) rfl (by kernel_rfl) (by kernel_rfl) (fun _ _ _ h => h) (by kernel_rfl) (fun _ _ => by rw [exec_index_slice 51 50 (.tmp 9) (.tmp 10) rfl gV 0 i D.length D.length 1 Try.underlying51 Try.sizeOf50 (by kernel_rfl) (by kernel_rfl) HiD.out, Nat.zero_add, Nat.mul_one]) ?_
      have hfin := rwrite_done h hB1 i HiD.out b hb d4 o4 (by rw [he4.out, he3.out, List.nil_append])
      have zf := setRows (.slice A4 zs4.length c4) z4 (show gV ≠ gq from fun e => hne.2.1 e.symm) (show gV ≠ w.heap.size by omega) i
      refine wh_skip 18 (w' := W4.setCell ⟨gV, i, none⟩ (.slice A4 zs4.length c4)) rfl (by kernel_rfl) (by kernel_rfl) z4 (exec_store_cell 50 (.tmp 23) (.tmp 22) rfl gV i (.slice A4 zs4.length c4) (.slice A n c) (by kernel_rfl) (by kernel_rfl) rfl rfl Try.sizeOf50 (d4.cell (p := ⟨gV, i, none⟩) hcV) ((rowV1.step d4).free i)) ?_
      refine wh_done (by kernel_rfl) zf ?_
      simp only [Act.put, List.setIfInBounds_toArray, List.set_cons_zero, List.set_cons_succ]
      go_wp2_with fail
      go_end0
      exact ⟨⟨_, rfl⟩, hfin⟩
  · refine wo_run 12 (v := .slice A n c) (w' := w1.drew) rfl (by kernel_rfl) (exec_load_cell 50 (.tmp 17) rfl ⟨gV, i, none⟩ (.slice A n c) (by kernel_rfl) (d0.cell (p := ⟨gV, i, none⟩) hcV) Try.isAgg50) ?_
    refine wh_two 5 15 (by kernel_rfl) z0 ?_ ?_
    · obtain ⟨W1, hq1, o1, hb1⟩ := Hemp.out w1.drew d0
      refine wo_run 5 (v := .slice (some ⟨w1.drew.heap.size, 0, none⟩) 0 0) (w' := W1) rfl (by kernel_rfl) (exec_empty 50 rfl hq1) ?_
      have z1 : _ ∧ _ := ⟨z0.1.step hb1, z0.2.step hb1⟩
      have d1 := d0.then_ hb1
      refine wh_two 13 15 (by kernel_rfl) z1 ?_ ?_
      · obtain ⟨zs2, A2, c2, W2, he2, hq2, o2, hg2⟩ := Happ.out W1 d1 _ _ o1
        rw [← hn] at hq2
        refine wo_run 13 (v := .slice A2 zs2.length c2) (w' := W2) rfl (by kernel_rfl) (exec_app (.tmp 11) (.tmp 18) 50 50 rfl rfl (by kernel_rfl) (by kernel_rfl) hq2) ?_
        have g2 : Below w1.heap.size W1 W2 := (Below.refl _ _).grown hg2 d1.size (fun k e => (o1.lt k e).1)
        have d2 := since_grown d1 o1 hg2
        have z2 : _ ∧ _ := ⟨z1.1.below g2 Hh.lt, z1.2.below g2 hr1.lt⟩
        obtain ⟨W3, hq3, l3, hb3⟩ := Hlit.out W2
        refine wh_run 15 (v := .slice (some ⟨W2.heap.size, 0, none⟩) 1 1) (w' := W3) rfl (by kernel_rfl) (by kernel_rfl) z2 (hq3 _ _ (.tmp 20) rfl (by kernel_rfl)) ?_
        have z3 : _ ∧ _ := ⟨z2.1.step hb3, z2.2.step hb3⟩
        have d3 := d2.then_ hb3
        have o3 := o2.sinceW hb3
        obtain ⟨zs4, A4, c4, W4, he4, hq4, o4, hg4⟩ := row_run (P := Try.prog) W3 50 50 37 Try.underlying50 info_block (by rfl) (by decide) w1.heap.size d3.size o3 hb (hL.out ▸ l3) 1 (by have := congrArg List.length he2.out; simp at this; omega)
        refine wh_run 16 (v := .slice A4 zs4.length c4) (w' := W4) rfl (by kernel_rfl) (by kernel_rfl) z3 (exec_app (.tmp 19) (.tmp 21) 50 50 rfl rfl (by kernel_rfl) (by kernel_rfl) hq4) ?_
        have g4 : Below w1.heap.size W3 W4 := (Below.refl _ _).grown hg4 d3.size (fun k e => (o3.lt k e).1)
        have d4 := since_grown d3 o3 hg4
        have z4 : _ ∧ _ := ⟨z3.1.below g4 Hh.lt, z3.2.below g4 hr1.lt⟩
        refine wh_take 17 (.pointer (some ⟨gV, i, none⟩)) rfl (by kernel_rfl) (by kernel_rfl) (fun _ _ _ h => h) (by kernel_rfl) (fun _ _ => by rw [exec_index_slice 51 50 (.tmp 9) (.tmp 10) rfl gV 0 i D.length D.length 1 Try.underlying51 Try.sizeOf50 (by kernel_rfl) (by kernel_rfl) HiD.out, Nat.zero_add, Nat.mul_one]) ?_
        have hfin := rwrite_done h hB1 i HiD.out b hb d4 o4 (by rw [he4.out, he2.out, List.nil_append])
        have zf := setRows (.slice A4 zs4.length c4) z4 (show gV ≠ gq from fun e => hne.2.1 e.symm) (show gV ≠ w.heap.size by omega) i
        refine wh_skip 18 (w' := W4.setCell ⟨gV, i, none⟩ (.slice A4 zs4.length c4)) rfl (by kernel_rfl) (by kernel_rfl) z4 (exec_store_cell 50 (.tmp 23) (.tmp 22) rfl gV i (.slice A4 zs4.length c4) (.slice A n c) (by kernel_rfl) (by kernel_rfl) rfl rfl Try.sizeOf50 (d4.cell (p := ⟨gV, i, none⟩) hcV) ((rowV1.step d4).free i)) ?_
        refine wh_done (by kernel_rfl) zf ?_
        simp only [Act.put, List.setIfInBounds_toArray, List.set_cons_zero, List.set_cons_succ]
        go_wp2_with fail
        go_end0
        exact ⟨⟨_, rfl⟩, hfin⟩
      · obtain ⟨W2, hq2, l2, hb2⟩ := Hlit.out W1
        refine wo_run 15 (v := .slice (some ⟨W1.heap.size, 0, none⟩) 1 1) (w' := W2) rfl (by kernel_rfl) (hq2 _ _ (.tmp 20) rfl (by kernel_rfl)) ?_
        have z2 : _ ∧ _ := ⟨z1.1.step hb2, z1.2.step hb2⟩
        have d2 := d1.then_ hb2
        have o2 := o1.sinceW hb2
        obtain ⟨zs3, A3, c3, W3, he3, hq3, o3, hg3⟩ := Happ.out W2 d2 _ _ o2
        rw [← hn] at hq3
        refine wh_run 13 (v := .slice A3 zs3.length c3) (w' := W3) rfl (by kernel_rfl) (by kernel_rfl) z2 (exec_app (.tmp 11) (.tmp 18) 50 50 rfl rfl (by kernel_rfl) (by kernel_rfl) hq3) ?_
        have g3 : Below w1.heap.size W2 W3 := (Below.refl _ _).grown hg3 d2.size (fun k e => (o2.lt k e).1)
        have d3 := since_grown d2 o2 hg3
        have z3 : _ ∧ _ := ⟨z2.1.below g3 Hh.lt, z2.2.below g3 hr1.lt⟩
        have l3 := rowKept l2 HL0.out o2 hg3
        obtain ⟨zs4, A4, c4, W4, he4, hq4, o4, hg4⟩ := row_run (P := Try.prog) W3 50 50 37 Try.underlying50 info_block (by rfl) (by decide) w1.heap.size d3.size o3 hb (hL.out ▸ l3) 1 (by have := congrArg List.length he3.out; simp at this; omega)
        refine wh_run 16 (v := .slice A4 zs4.length c4) (w' := W4) rfl (by kernel_rfl) (by kernel_rfl) z3 (exec_app (.tmp 19) (.tmp 21) 50 50 rfl rfl (by kernel_rfl) (by kernel_rfl) hq4) ?_
        have g4 : Below w1.heap.size W3 W4 := (Below.refl _ _).grown hg4 d3.size (fun k e => (o3.lt k e).1)
        have d4 := since_grown d3 o3 hg4
        have z4 : _ ∧ _ := ⟨z3.1.below g4 Hh.lt, z3.2.below g4 hr1.lt⟩
        refine wh_take 17 (.pointer (some ⟨gV, i, none⟩)) rfl (by kernel_rfl) (by kernel_rfl) (fun _ _ _ h => h) (by kernel_rfl) (fun _ _ => by rw [exec_index_slice 51 50 (.tmp 9) (.tmp 10) rfl gV 0 i D.length D.length 1 Try.underlying51 Try.sizeOf50 (by kernel_rfl) (by kernel_rfl) HiD.out, Nat.zero_add, Nat.mul_one]) ?_
        have hfin := rwrite_done h hB1 i HiD.out b hb d4 o4 (by rw [he4.out, he3.out, List.nil_append])
        have zf := setRows (.slice A4 zs4.length c4) z4 (show gV ≠ gq from fun e => hne.2.1 e.symm) (show gV ≠ w.heap.size by omega) i
        refine wh_skip 18 (w' := W4.setCell ⟨gV, i, none⟩ (.slice A4 zs4.length c4)) rfl (by kernel_rfl) (by kernel_rfl) z4 (exec_store_cell 50 (.tmp 23) (.tmp 22) rfl gV i (.slice A4 zs4.length c4) (.slice A n c) (by kernel_rfl) (by kernel_rfl) rfl rfl Try.sizeOf50 (d4.cell (p := ⟨gV, i, none⟩) hcV) ((rowV1.step d4).free i)) ?_
        refine wh_done (by kernel_rfl) zf ?_
        simp only [Act.put, List.setIfInBounds_toArray, List.set_cons_zero, List.set_cons_succ]
        go_wp2_with fail
        go_end0
        exact ⟨⟨_, rfl⟩, hfin⟩
    · obtain ⟨W1, hq1, l1, hb1⟩ := Hlit.out w1.drew
      refine wo_run 15 (v := .slice (some ⟨w1.drew.heap.size, 0, none⟩) 1 1) (w' := W1) rfl (by kernel_rfl) (hq1 _ _ (.tmp 20) rfl (by kernel_rfl)) ?_
      have z1 : _ ∧ _ := ⟨z0.1.step hb1, z0.2.step hb1⟩
      have d1 := d0.then_ hb1
      obtain ⟨W2, hq2, o2, hb2⟩ := Hemp.out W1 d1
      refine wh_run 5 (v := .slice (some ⟨W1.heap.size, 0, none⟩) 0 0) (w' := W2) rfl (by kernel_rfl) (by kernel_rfl) z1 (exec_empty 50 rfl hq2) ?_
      have z2 : _ ∧ _ := ⟨z1.1.step hb2, z1.2.step hb2⟩
      have d2 := d1.then_ hb2
      have l2 := l1.step hb2
      obtain ⟨zs3, A3, c3, W3, he3, hq3, o3, hg3⟩ := Happ.out W2 d2 _ _ o2
      rw [← hn] at hq3
      refine wh_run 13 (v := .slice A3 zs3.length c3) (w' := W3) rfl (by kernel_rfl) (by kernel_rfl) z2 (exec_app (.tmp 11) (.tmp 18) 50 50 rfl rfl (by kernel_rfl) (by kernel_rfl) hq3) ?_
      have g3 : Below w1.heap.size W2 W3 := (Below.refl _ _).grown hg3 d2.size (fun k e => (o2.lt k e).1)
      have d3 := since_grown d2 o2 hg3
      have z3 : _ ∧ _ := ⟨z2.1.below g3 Hh.lt, z2.2.below g3 hr1.lt⟩
      have l3 := rowKept l2 HL0.out o2 hg3
      obtain ⟨zs4, A4, c4, W4, he4, hq4, o4, hg4⟩ := row_run (P := Try.prog) W3 50 50 37 Try.underlying50 info_block (by rfl) (by decide) w1.heap.size d3.size o3 hb (hL.out ▸ l3) 1 (by have := congrArg List.length he3.out; simp at this; omega)
      refine wh_run 16 (v := .slice A4 zs4.length c4) (w' := W4) rfl (by kernel_rfl) (by kernel_rfl) z3 (exec_app (.tmp 19) (.tmp 21) 50 50 rfl rfl (by kernel_rfl) (by kernel_rfl) hq4) ?_
      have g4 : Below w1.heap.size W3 W4 := (Below.refl _ _).grown hg4 d3.size (fun k e => (o3.lt k e).1)
      have d4 := since_grown d3 o3 hg4
      have z4 : _ ∧ _ := ⟨z3.1.below g4 Hh.lt, z3.2.below g4 hr1.lt⟩
      refine wh_take 17 (.pointer (some ⟨gV, i, none⟩)) rfl (by kernel_rfl) (by kernel_rfl) (fun _ _ _ h => h) (by kernel_rfl) (fun _ _ => by rw [exec_index_slice 51 50 (.tmp 9) (.tmp 10) rfl gV 0 i D.length D.length 1 Try.underlying51 Try.sizeOf50 (by kernel_rfl) (by kernel_rfl) HiD.out, Nat.zero_add, Nat.mul_one]) ?_
      have hfin := rwrite_done h hB1 i HiD.out b hb d4 o4 (by rw [he4.out, he3.out, List.nil_append])
      have zf := setRows (.slice A4 zs4.length c4) z4 (show gV ≠ gq from fun e => hne.2.1 e.symm) (show gV ≠ w.heap.size by omega) i
      refine wh_skip 18 (w' := W4.setCell ⟨gV, i, none⟩ (.slice A4 zs4.length c4)) rfl (by kernel_rfl) (by kernel_rfl) z4 (exec_store_cell 50 (.tmp 23) (.tmp 22) rfl gV i (.slice A4 zs4.length c4) (.slice A n c) (by kernel_rfl) (by kernel_rfl) rfl rfl Try.sizeOf50 (d4.cell (p := ⟨gV, i, none⟩) hcV) ((rowV1.step d4).free i)) ?_
      refine wh_done (by kernel_rfl) zf ?_
      simp only [Act.put, List.setIfInBounds_toArray, List.set_cons_zero, List.set_cons_succ]
      go_wp2_with fail
      go_end0
      exact ⟨⟨_, rfl⟩, hfin⟩
  · obtain ⟨W1, hq1, l1, hb1⟩ := Hlit.out w1.drew
    refine wo_run 15 (v := .slice (some ⟨w1.drew.heap.size, 0, none⟩) 1 1) (w' := W1) rfl (by kernel_rfl) (hq1 _ _ (.tmp 20) rfl (by kernel_rfl)) ?_
    have z1 : _ ∧ _ := ⟨z0.1.step hb1, z0.2.step hb1⟩
    have d1 := d0.then_ hb1
    refine wh_two 5 12 (by kernel_rfl) z1 ?_ ?_
    · obtain ⟨W2, hq2, o2, hb2⟩ := Hemp.out W1 d1
      refine wo_run 5 (v := .slice (some ⟨W1.heap.size, 0, none⟩) 0 0) (w' := W2) rfl (by kernel_rfl) (exec_empty 50 rfl hq2) ?_
      have z2 : _ ∧ _ := ⟨z1.1.step hb2, z1.2.step hb2⟩
      have d2 := d1.then_ hb2
      have l2 := l1.step hb2
      refine wh_run 12 (v := .slice A n c) (w' := W2) rfl (by kernel_rfl) (by kernel_rfl) z2 (exec_load_cell 50 (.tmp 17) rfl ⟨gV, i, none⟩ (.slice A n c) (by kernel_rfl) (d2.cell (p := ⟨gV, i, none⟩) hcV) Try.isAgg50) ?_
      obtain ⟨zs3, A3, c3, W3, he3, hq3, o3, hg3⟩ := Happ.out W2 d2 _ _ o2
      rw [← hn] at hq3
      refine wh_run 13 (v := .slice A3 zs3.length c3) (w' := W3) rfl (by kernel_rfl) (by kernel_rfl) z2 (exec_app (.tmp 11) (.tmp 18) 50 50 rfl rfl (by kernel_rfl) (by kernel_rfl) hq3) ?_
      have g3 : Below w1.heap.size W2 W3 := (Below.refl _ _).grown hg3 d2.size (fun k e => (o2.lt k e).1)
      have d3 := since_grown d2 o2 hg3
      have z3 : _ ∧ _ := ⟨z2.1.below g3 Hh.lt, z2.2.below g3 hr1.lt⟩
      have l3 := rowKept l2 HL0.out o2 hg3
      obtain ⟨zs4, A4, c4, W4, he4, hq4, o4, hg4⟩ := row_run (P := Try.prog) W3 50 50 37 Try.underlying50 info_block (by rfl) (by decide) w1.heap.size d3.size o3 hb (hL.out ▸ l3) 1 (by have := congrArg List.length he3.out; simp at this; omega)
      refine wh_run 16 (v := .slice A4 zs4.length c4) (w' := W4) rfl (by kernel_rfl) (by kernel_rfl) z3 (exec_app (.tmp 19) (.tmp 21) 50 50 rfl rfl (by kernel_rfl) (by kernel_rfl) hq4) ?_
      have g4 : Below w1.heap.size W3 W4 := (Below.refl _ _).grown hg4 d3.size (fun k e => (o3.lt k e).1)
      have d4 := since_grown d3 o3 hg4
      have z4 : _ ∧ _ := ⟨z3.1.below g4 Hh.lt, z3.2.below g4 hr1.lt⟩
      refine wh_take 17 (.pointer (some ⟨gV, i, none⟩)) rfl (by kernel_rfl) (by kernel_rfl) (fun _ _ _ h => h) (by kernel_rfl) (fun _ _ => by rw [exec_index_slice 51 50 (.tmp 9) (.tmp 10) rfl gV 0 i D.length D.length 1 Try.underlying51 Try.sizeOf50 (by kernel_rfl) (by kernel_rfl) HiD.out, Nat.zero_add, Nat.mul_one]) ?_
      have hfin := rwrite_done h hB1 i HiD.out b hb d4 o4 (by rw [he4.out, he3.out, List.nil_append])
      have zf := setRows (.slice A4 zs4.length c4) z4 (show gV ≠ gq from fun e => hne.2.1 e.symm) (show gV ≠ w.heap.size by omega) i
      refine wh_skip 18 (w' := W4.setCell ⟨gV, i, none⟩ (.slice A4 zs4.length c4)) rfl (by kernel_rfl) (by kernel_rfl) z4 (exec_store_cell 50 (.tmp 23) (.tmp 22) rfl gV i (.slice A4 zs4.length c4) (.slice A n c) (by kernel_rfl) (by kernel_rfl) rfl rfl Try.sizeOf50 (d4.cell (p := ⟨gV, i, none⟩) hcV) ((rowV1.step d4).free i)) ?_
      refine wh_done (by kernel_rfl) zf ?_
      simp only [Act.put, List.setIfInBounds_toArray, List.set_cons_zero, List.set_cons_succ]
      go_wp2_with fail
      go_end0
      exact ⟨⟨_, rfl⟩, hfin⟩
    · refine wo_run 12 (v := .slice A n c) (w' := W1) rfl (by kernel_rfl) (exec_load_cell 50 (.tmp 17) rfl ⟨gV, i, none⟩ (.slice A n c) (by kernel_rfl) (d1.cell (p := ⟨gV, i, none⟩) hcV) Try.isAgg50) ?_
      obtain ⟨W2, hq2, o2, hb2⟩ := Hemp.out W1 d1
      refine wh_run 5 (v := .slice (some ⟨W1.heap.size, 0, none⟩) 0 0) (w' := W2) rfl (by kernel_rfl) (by kernel_rfl) z1 (exec_empty 50 rfl hq2) ?_
      have z2 : _ ∧ _ := ⟨z1.1.step hb2, z1.2.step hb2⟩
      have d2 := d1.then_ hb2
      have l2 := l1.step hb2
      obtain ⟨zs3, A3, c3, W3, he3, hq3, o3, hg3⟩ := Happ.out W2 d2 _ _ o2
      rw [← hn] at hq3
      refine wh_run 13 (v := .slice A3 zs3.length c3) (w' := W3) rfl (by kernel_rfl) (by kernel_rfl) z2 (exec_app (.tmp 11) (.tmp 18) 50 50 rfl rfl (by kernel_rfl) (by kernel_rfl) hq3) ?_
      have g3 : Below w1.heap.size W2 W3 := (Below.refl _ _).grown hg3 d2.size (fun k e => (o2.lt k e).1)
      have d3 := since_grown d2 o2 hg3
      have z3 : _ ∧ _ := ⟨z2.1.below g3 Hh.lt, z2.2.below g3 hr1.lt⟩
      have l3 := rowKept l2 HL0.out o2 hg3
      obtain ⟨zs4, A4, c4, W4, he4, hq4, o4, hg4⟩ := row_run (P := Try.prog) W3 50 50 37 Try.underlying50 info_block (by rfl) (by decide) w1.heap.size d3.size o3 hb (hL.out ▸ l3) 1 (by have := congrArg List.length he3.out; simp at this; omega)
      refine wh_run 16 (v := .slice A4 zs4.length c4) (w' := W4) rfl (by kernel_rfl) (by kernel_rfl) z3 (exec_app (.tmp 19) (.tmp 21) 50 50 rfl rfl (by kernel_rfl) (by kernel_rfl) hq4) ?_
      have g4 : Below w1.heap.size W3 W4 := (Below.refl _ _).grown hg4 d3.size (fun k e => (o3.lt k e).1)
      have d4 := since_grown d3 o3 hg4
      have z4 : _ ∧ _ := ⟨z3.1.below g4 Hh.lt, z3.2.below g4 hr1.lt⟩
      refine wh_take 17 (.pointer (some ⟨gV, i, none⟩)) rfl (by kernel_rfl) (by kernel_rfl) (fun _ _ _ h => h) (by kernel_rfl) (fun _ _ => by rw [exec_index_slice 51 50 (.tmp 9) (.tmp 10) rfl gV 0 i D.length D.length 1 Try.underlying51 Try.sizeOf50 (by kernel_rfl) (by kernel_rfl) HiD.out, Nat.zero_add, Nat.mul_one]) ?_
      have hfin := rwrite_done h hB1 i HiD.out b hb d4 o4 (by rw [he4.out, he3.out, List.nil_append])
      have zf := setRows (.slice A4 zs4.length c4) z4 (show gV ≠ gq from fun e => hne.2.1 e.symm) (show gV ≠ w.heap.size by omega) i
      refine wh_skip 18 (w' := W4.setCell ⟨gV, i, none⟩ (.slice A4 zs4.length c4)) rfl (by kernel_rfl) (by kernel_rfl) z4 (exec_store_cell 50 (.tmp 23) (.tmp 22) rfl gV i (.slice A4 zs4.length c4) (.slice A n c) (by kernel_rfl) (by kernel_rfl) rfl rfl Try.sizeOf50 (d4.cell (p := ⟨gV, i, none⟩) hcV) ((rowV1.step d4).free i)) ?_
      refine wh_done (by kernel_rfl) zf ?_
      simp only [Act.put, List.setIfInBounds_toArray, List.set_cons_zero, List.set_cons_succ]
      go_wp2_with fail
      go_end0
      exact ⟨⟨_, rfl⟩, hfin⟩
  -- held1>


/-- Where versions lie behind an operation: where they lay, or in a new block. -/
def RNew (w : World) (V V' : List (Option Addr × Nat)) : Prop := ∀ v ∈ V', ∀ k, v.1.map (·.block) = some k → (∃ u ∈ V, u.1.map (·.block) = some k) ∨ w.heap.size ≤ k
theorem RNew.refl (w : World) (V : List (Option Addr × Nat)) : RNew w V V := fun v hv _ hk => .inl ⟨v, hv, hk⟩
theorem RNew.nil {w : World} {V V' : List (Option Addr × Nat)} (h : RNew w V V') (i : Nat) : RNew w V (V'.set i (none, 0)) := by
  intro v hv k hk
  rcases List.mem_or_eq_of_mem_set hv with hv | rfl
  · exact h v hv k hk
  · cases hk
theorem RNew.set {w : World} {V : List (Option Addr × Nat)} (i : Nat) (u : Option Addr × Nat) (hu : ∀ k, u.1.map (·.block) = some k → w.heap.size ≤ k) : RNew w V (V.set i u) := by
  intro v hv k hk
  rcases List.mem_or_eq_of_mem_set hv with hv | rfl
  · exact .inl ⟨v, hv, hk⟩
  · exact .inr (hu k hk)

/-- S[i] is written. -/
theorem rS_done {W : World} {lo gq gS gV : Nat} {D : List Sct} {V : List (Option Addr × Nat)} (h : RAt W lo gq gS gV D V) (i : Nat) (hi : i < D.length) (b : List UInt8) (hb : b.length = 64) :
    RAt (W.setRow gS (splice ((D.map Sct.there).flatten.map B8) (i * 64) (b.map B8)).toArray) lo gq gS gV (D.set i ⟨b, D[i].vers⟩) V ∧ RStep W (W.setRow gS (splice ((D.map Sct.there).flatten.map B8) (i * 64) (b.map B8)).toArray) gS gV := by
  have hgr := setRow_grown W gS (splice ((D.map Sct.there).flatten.map B8) (i * 64) (b.map B8)).toArray
  have hne := h.ne
  have h64 : ∀ x ∈ D.map Sct.there, x.length = 64 := by
    intro x hx
    obtain ⟨s, hs, rfl⟩ := List.mem_map.1 hx
    exact (h.wf s hs).1
  refine ⟨⟨?_, ?_, ?_, ?_, by rw [List.length_set, h.len], h.low, h.ne, fun j hj => ?_⟩, .grown hgr (.inl rfl)⟩
  · rw [List.length_set]
    exact h.head.kept hgr (fun e => by injection e with e; omega)
  · have := setRow_row h.rowS (splice ((D.map Sct.there).flatten.map B8) (i * 64) (b.map B8))
    rw [cells_set _ h64 i (by rw [List.length_map]; exact hi) b hb] at this
    rw [List.map_set, cells_set _ h64 i (by rw [List.length_map]; exact hi) b hb]
    exact this
  · have e : vcells (D.set i ⟨b, D[i].vers⟩) V = vcells D V := by
      unfold vcells
      apply List.ext_getElem?
      intro j
      rw [List.getElem?_zipWith, List.getElem?_zipWith, List.getElem?_set]
      by_cases hij : i = j
      · subst hij
        rw [if_pos rfl, if_pos hi, List.getElem?_eq_getElem hi]
        cases V[i]? <;> rfl
      · rw [if_neg hij]
    rw [e]
    exact h.rowV.kept hgr (fun e => by injection e with e; omega)
  · intro s hs
    rcases List.mem_or_eq_of_mem_set hs with hs | rfl
    · exact h.wf s hs
    · exact ⟨hb, (h.wf _ (List.getElem_mem hi)).2⟩
  · rw [List.length_set] at hj
    obtain ⟨v, hv, hat⟩ := h.vers j hj
    refine ⟨v, hv, ?_⟩
    have e : ((D.set i ⟨b, D[i].vers⟩)[j]'(by rw [List.length_set]; exact hj)).vers = D[j].vers := by
      rw [List.getElem_set]
      split
      · rename_i e
        subst e
        rfl
      · rfl
    rw [e]
    rcases hat with hn | ⟨hn0, g, hA, e1, e2, e3, e4, e5, hr⟩
    · exact .inl hn
    · refine .inr ⟨hn0, g, hA, e1, by rw [setRow_size]; exact e2, e3, e4, e5, fun m x hm => ?_⟩
      have h1 := hgr.block g e2 (fun e => by injection e with e; omega)
      have h2 := hr m x hm
      unfold World.cell? at h2 ⊢
      simp only at h2 ⊢
      rw [h1]
      exact h2
/-- V[i] = nil. -/
theorem rV_done {W : World} {lo gq gS gV : Nat} {D : List Sct} {V : List (Option Addr × Nat)} (h : RAt W lo gq gS gV D V) (i : Nat) (hi : i < D.length) :
    RAt (W.setCell ⟨gV, i, none⟩ (.slice none 0 0)) lo gq gS gV (D.set i ⟨D[i].there, []⟩) (V.set i (none, 0)) ∧ RStep W (W.setCell ⟨gV, i, none⟩ (.slice none 0 0)) gS gV := by
  have hgr := setCell_grown W gV i (.slice none 0 0)
  have hne := h.ne
  have hiV : i < V.length := by rw [h.len]; exact hi
  have hth : (D.set i ⟨D[i].there, []⟩).map Sct.there = D.map Sct.there := by
    rw [List.map_set]
    apply List.ext_getElem?
    intro j
    rw [List.getElem?_set]
    split
    · rename_i e
      subst e
      rw [if_pos (by rw [List.length_map]; exact hi), List.getElem?_map, List.getElem?_eq_getElem hi]
      rfl
    · rfl
  refine ⟨⟨?_, ?_, ?_, ?_, by rw [List.length_set, List.length_set, h.len], h.low, h.ne, fun j hj => ?_⟩, .grown hgr (.inr rfl)⟩
  · rw [List.length_set]
    exact h.head.kept hgr (fun e => by injection e with e; omega)
  · rw [hth]
    exact h.rowS.kept hgr (fun e => by injection e with e; omega)
  · have hr := h.rowV.set i (.slice none 0 0)
    rw [vcells_set D V i ⟨D[i].there, []⟩ (none, 0) (.slice none 0 0) rfl hi hiV] at hr
    exact hr
  · intro s hs
    rcases List.mem_or_eq_of_mem_set hs with hs | rfl
    · exact h.wf s hs
    · exact ⟨(h.wf _ (List.getElem_mem hi)).1, by simp⟩
  · rw [List.length_set] at hj
    by_cases hij : i = j
    · subst hij
      refine ⟨(none, 0), by rw [List.getElem?_set_self hiV], .inl ⟨?_, rfl⟩⟩
      rw [List.getElem_set_self]
    · obtain ⟨v, hv, hat⟩ := h.vers j hj
      refine ⟨v, by rw [List.getElem?_set_ne hij]; exact hv, ?_⟩
      rw [List.getElem_set_ne hij]
      rcases hat with hn | ⟨hn0, g, hA, e1, e2, e3, e4, e5, hr⟩
      · exact .inl hn
      · refine .inr ⟨hn0, g, hA, e1, by rw [World.size_setCell]; exact e2, e3, e4, e5, fun m x hm => ?_⟩
        rw [World.cell?_setCell_other _ _ _ _ (fun e => by have e := congrArg Addr.block e; simp only at e; omega)]
        exact hr m x hm

/-- The first k sectors flushed. -/
def flushTo (D : List Sct) (k : Nat) : List Sct := (D.take k).map Sct.flushed ++ D.drop k
theorem flushTo_length (D : List Sct) (k : Nat) (hk : k ≤ D.length) : (flushTo D k).length = D.length := by
  unfold flushTo
  rw [List.length_append, List.length_map, List.length_take, List.length_drop]
  omega
theorem flushTo_get (D : List Sct) (k : Nat) (hk : k < D.length) (h : k < (flushTo D k).length) : (flushTo D k)[k] = D[k] := by
  have hl : ((D.take k).map Sct.flushed).length = k := by rw [List.length_map, List.length_take]; omega
  simp only [flushTo]
  rw [List.getElem_append_right (by omega), List.getElem_drop]
  congr 1
  omega
theorem flushTo_step (D : List Sct) (k : Nat) (hk : k < D.length) : (flushTo D k).set k D[k].flushed = flushTo D (k + 1) := by
  have hl : ((D.take k).map Sct.flushed).length = k := by rw [List.length_map, List.length_take]; omega
  unfold flushTo
  rw [List.set_append_right _ _ (by omega), hl, Nat.sub_self, List.drop_eq_getElem_cons hk, List.set_cons_zero, List.take_succ_eq_append_getElem hk, List.map_append, List.append_assoc]
  rfl
theorem flushTo_all (D : List Sct) : flushTo D D.length = flushN D := by
  unfold flushTo flushN
  rw [List.take_length, List.drop_length, List.append_nil]

attribute [local go_sem ↓] Go.wp_at_zero Go.wp_at_succ
set_option maxHeartbeats 2000000 in
theorem rflush_calls {w : World} {lo gq gS gV : Nat} {D : List Sct} {V : List (Option Addr × Nat)} (h : RAt w lo gq gS gV D V) (hD : D.length ≤ 4096) (hm : ∀ i (h : i < D.length), D[i].vers.length ≤ 100000) :
    Calls Try.prog 25 #[.pointer (some ⟨gq, 0, none⟩)] w fun e w' => (∃ v, e = .returned v) ∧ (∃ V', RAt w' lo gq gS gV (flushN D) V' ∧ RNew w V V') ∧ RStep w w' gS gV := by
  go_enter Try.func25, Try.ntmps25
  go_wp2_with fail
  go_loopw [2] (fun i wr => ∃ (k : Nat) (V' : List (Option Addr × Nat)), k ≤ D.length ∧ i = .int .i64 (k : Int) ∧ RAt wr lo gq gS gV (flushTo D k) V' ∧ RNew w V V' ∧ RStep w wr gS gV) (fun i _ => D.length - (intOf i).toNat)
  case atStart => exact ⟨0, V, Nat.zero_le _, rfl, by rw [show flushTo D 0 = D by simp [flushTo]]; exact h, .refl w V, .of (brefl w)⟩
  clear h
  case round =>
  obtain ⟨k, V', hk, rfl, hr, hn, hs⟩ := hrel
  have hlen := flushTo_length D k hk
  have hc0 := hr.head.cellD 0 _ rfl
  have hc1 := hr.head.cellD 1 _ rfl
  rw [hlen] at hc0 hc1
  by_cases hlt : k < D.length
  · have hkF : k < (flushTo D k).length := by rw [hlen]; exact hlt
    have hget := flushTo_get D k hlt hkF
    have hmk := hm k hlt
    have hwf := hr.wf _ (List.getElem_mem hkF)
    rw [hget] at hwf
    obtain ⟨bb, hbb⟩ : ∃ bb, bb = D[k].last := ⟨_, rfl⟩
    have hb64 : bb.length = 64 := by rw [hbb]; exact Sct.last_wf hwf
    obtain ⟨L, hL⟩ : ∃ L, L = bb.map B8 := ⟨_, rfl⟩
    have HL := Lib.hid (show L = (flushTo D k)[k].last.map B8 by rw [hget, hL, hbb])
    have HL2 := Lib.hid hL
    have HLl := Lib.hid (show L.length = 64 by rw [hL, List.length_map]; exact hb64)
    have HLo := Lib.hid (show ∀ v ∈ L, v.oneCell' = true by rw [hL]; exact bytes_oneCell _)
    have hk0 : (0 : Int) ≤ (k : Int) := by omega
    have hk1 : (k : Int) < (D.length : Int) := by omega
    have hd1 : decide (k < D.length) = true := decide_eq_true hlt
    have HK := Lib.hid hlt
    have Hh := hr.head
    rw [hlen] at Hh
    have hne := hr.ne
    have h64 : ∀ x ∈ (flushTo D k).map Sct.there, x.length = 64 := by
      intro x hx
      obtain ⟨s, hs, rfl⟩ := List.mem_map.1 hx
      exact (hr.wf s hs).1
    have hrd := rread_calls (w := wr.drew) (hr.step (brefl wr).drew) k hkF (by rw [hget]; exact hmk) L HL
    have hst1 := flushTo_step D k hlt
    clear hL hc0 hc1
    have hrS := hr.rowS
    have hcS : wr.cell? ⟨gq, 0, none⟩ = some (.slice (some ⟨gS, 0, none⟩) D.length D.length) := Hh.cellD 0 _ rfl
    go_wp2_with fail
    have z0 : RowAt wr.drew gq 53 [.slice (some ⟨gS, 0, none⟩) D.length D.length, .slice (some ⟨gV, 0, none⟩) D.length D.length] := Hh
    refine wp_region_H (fun W => RowAt W gq 53 [.slice (some ⟨gS, 0, none⟩) D.length D.length, .slice (some ⟨gV, 0, none⟩) D.length D.length]) 10 rfl (by kernel_rfl) ?_
    -- <held1
    refine wh_take 0 (.pointer (some ⟨gq, 0, none⟩)) rfl (by kernel_rfl) (by kernel_rfl) (fun _ _ _ h => h) (by kernel_rfl) (fun _ _ => by kernel_rfl) ?_
    refine wh_take 1 (.pointer (some ⟨gq, 0, none⟩)) rfl (by kernel_rfl) (by kernel_rfl) (fun _ _ _ h => h) (by kernel_rfl) (fun _ _ => by kernel_rfl) ?_
    refine wh_take 2 (.pointer (some ⟨gq, 0, none⟩)) rfl (by kernel_rfl) (by kernel_rfl) (fun _ _ _ h => h) (by kernel_rfl) (fun _ _ => by kernel_rfl) ?_
    refine wh_take 3 (.slice (some ⟨gS, 0, none⟩) D.length D.length) rfl (by kernel_rfl) (by kernel_rfl) (fun _ _ _ h => h) (by kernel_rfl) (fun W h => exec_load_cell 50 (.tmp 14) rfl ⟨gq, 0, none⟩ _ (by kernel_rfl) (h.cellD 0 _ rfl) Try.isAgg50) ?_
    refine wh_take 4 (.int .i64 (k : Nat)) rfl (by kernel_rfl) (by kernel_rfl) (fun _ _ _ h => h) (by kernel_rfl) (fun _ _ => by kernel_rfl) ?_
    refine wh_take 5 (.pointer (some ⟨gq, 0, none⟩)) rfl (by kernel_rfl) (by kernel_rfl) (fun _ _ _ h => h) (by kernel_rfl) (fun _ _ => by kernel_rfl) ?_
    refine wh_take 6 (.int .i64 (k : Nat)) rfl (by kernel_rfl) (by kernel_rfl) (fun _ _ _ h => h) (by kernel_rfl) (fun _ _ => by kernel_rfl) ?_
    refine wh_call 7 23 #[.pointer (some ⟨gq, 0, none⟩), .int .i64 (k : Nat)] rfl (by kernel_rfl) (by kernel_rfl) z0 (fun _ => by kernel_rfl) ?_
    refine hrd.mono ?_
    rintro e x1 ⟨rfl, hx1⟩
    have z1 := RowAt.step (w := wr.drew) z0 hx1
    have hr1 := (hr.step (brefl wr).drew).step hx1
    refine ⟨_, rfl, ?_⟩
    refine wh_take 8 (.pointer (some ⟨gS, k * 64, none⟩)) rfl (by kernel_rfl) (by kernel_rfl) (fun _ _ _ h => h) (by kernel_rfl) (fun _ _ => by rw [exec_index_slice 50 37 (.tmp 15) (.tmp 16) rfl gS 0 k D.length D.length 64 Try.underlying50 Try.sizeOf37 (by kernel_rfl) (by kernel_rfl) HK.out, Nat.zero_add]) ?_
    have hS1 := rS_done hr1 k hkF bb hb64
    rw [← HL2.out] at hS1
    have zf := hS1.1.head
    rw [List.length_set, hlen] at zf
    refine wh_skip 9 (w' := x1.setRow gS (splice (((flushTo D k).map Sct.there).flatten.map B8) (k * 64) L).toArray) rfl (by kernel_rfl) (by kernel_rfl) z1 (exec_store_part 37 (.tmp 20) (.tmp 19) rfl hr1.rowS (k * 64) L (by kernel_rfl) (by kernel_rfl) (by rw [HLl.out]; exact Try.sizeOf37) (by rw [List.length_map, flat_length _ h64, List.length_map, HLl.out, hlen]; have := HK.out; omega) HLo.out) ?_
    -- held1>
    refine wh_done (by kernel_rfl) zf ?_
    simp only [Act.put, List.setIfInBounds_toArray, List.set_cons_zero, List.set_cons_succ]
    obtain ⟨W2, hW2⟩ : ∃ W2, W2 = x1.setRow gS (splice (((flushTo D k).map Sct.there).flatten.map B8) (k * 64) L).toArray := ⟨_, rfl⟩
    rw [← hW2] at hS1
    rw [← hW2] at zf ⊢
    obtain ⟨hr2, hs2⟩ := hS1
    have hk2 : k < ((flushTo D k).set k ⟨bb, (flushTo D k)[k].vers⟩).length := by rw [List.length_set]; exact hkF
    have hV2 := rV_done hr2 k hk2
    have hset : ((flushTo D k).set k ⟨bb, (flushTo D k)[k].vers⟩).set k ⟨(((flushTo D k).set k ⟨bb, (flushTo D k)[k].vers⟩)[k]).there, []⟩ = flushTo D (k + 1) := by
      rw [List.getElem_set_self, List.set_set, ← hst1, hbb]
      rfl
    rw [hset] at hV2
    have hstep := (hs.trans (.of (bthen (brefl wr).drew hx1))).trans (hs2.trans hV2.2)
    have hn2 := hn.nil k
    have hr3 := hV2.1
    have hc1 : W2.cell? ⟨gq, 1, none⟩ = some (.slice (some ⟨gV, 0, none⟩) D.length D.length) := zf.cellD 1 _ rfl
    have hcV : ∃ u, W2.cell? ⟨gV, k, none⟩ = some u := by
      obtain ⟨v, hv, _⟩ := hr2.vers k hk2
      exact ⟨_, hr2.rowV.cellD k _ (vcells_get hk2 hv)⟩
    obtain ⟨u, hcV⟩ := hcV
    have hfV := hr2.rowV.free k
    clear hW2 hr hr1 hr2 hs hs2 hV2 zf z0 z1 hset hst1 hrS hcS Hh hrd hx1 hget hmk hwf hlen hbb h64
    go_wp2_with fail
    go_roundw
    case rel => exact ⟨k + 1, _, by omega, by go_num, hr3, hn2, hstep⟩
    case measure => simp [intOf]; omega
  · obtain rfl : k = D.length := by omega
    have hd1 : decide (D.length < D.length) = false := decide_eq_false (by omega)
    rw [flushTo_all] at hr
    go_wp2_with fail
    go_end0
    exact ⟨⟨_, rfl⟩, ⟨V', hr, hn⟩, hs⟩

theorem looseFrom_le (D : List Sct) : ∀ r, (looseFrom r D).length ≤ D.length := by
  induction D with
  | nil => intro r; exact Nat.le_refl _
  | cons s D ih =>
    intro r
    have := ih (r + 1)
    unfold looseFrom
    split <;> simp only [List.length_cons] <;> omega

set_option maxHeartbeats 2000000 in
theorem rloose_calls {w : World} {lo gq gS gV : Nat} {D : List Sct} {V : List (Option Addr × Nat)} (h : RAt w lo gq gS gV D V) (hD : D.length ≤ 4096) (hm : ∀ i (h : i < D.length), D[i].vers.length ≤ 100000) :
    Calls Try.prog 30 #[.pointer (some ⟨gq, 0, none⟩)] w fun e w' => (∃ ys A c, e = .returned (.slice A ys.length c) ∧ ys = looseN D ∧ OwnI w' w.heap.size A c ys) ∧ Below w.heap.size w w' := by
  go_enter Try.func30, Try.ntmps30
  go_wp2_with fail
  go_loopw [3, 4] (fun v i wr => ∃ (k : Nat) (ys : List Nat) (A : Option Addr) (c : Nat), k ≤ D.length ∧ i = .int .i64 (k : Int) ∧ v = .slice A ys.length c ∧ Hid (ys = looseFrom 0 (D.take k)) ∧ OwnI wr w.heap.size A c ys ∧ Below w.heap.size w wr) (fun _ i _ => D.length - (intOf i).toNat)
  case atStart => exact ⟨0, [], none, 0, Nat.zero_le _, rfl, rfl, Lib.hid rfl, OwnI.nil _ _, brefl w⟩
  case round =>
  obtain ⟨k, ys, A, c, hk, rfl, rfl, hys, hown, hB⟩ := hrel
  have hr := h.step hB
  have hc0 := hr.head.cellD 0 _ rfl
  have hc1 := hr.head.cellD 1 _ rfl
  by_cases hlt : k < D.length
  · obtain ⟨v, hv, _⟩ := hr.vers k hlt
    have hcv := hr.rowV.cellD k _ (vcells_get hlt hv)
    have hmk := hm k hlt
    have hk0 : (0 : Int) ≤ (k : Int) := by omega
    have hk1 : (k : Int) < (D.length : Int) := by omega
    have hd1 : decide (k < D.length) = true := decide_eq_true hlt
    have hsn := looseFrom_snoc (D.take k) D[k] 0
    rw [← List.take_succ_eq_append_getElem hlt, List.length_take, Nat.min_eq_left (by omega), Nat.zero_add, ← hys.out] at hsn
    have hyl : ys.length ≤ k := by
      rw [hys.out]
      have := looseFrom_le (D.take k) 0
      rw [List.length_take] at this
      omega
    by_cases hn : D[k].vers = []
    · rw [if_pos hn, List.append_nil] at hsn
      rw [hn] at hcv
      simp only [List.length_nil] at hcv
      replace hsn := Lib.hid hsn.symm
      clear hn hv hr hmk h hys
      go_wp2_with fail
      go_roundw
      case rel => exact ⟨k + 1, ys, A, c, by omega, by go_num, rfl, hsn, hown, hB⟩
      case measure => simp [intOf]; omega
    · rw [if_neg hn] at hsn
      have hnp := List.length_pos_iff.2 hn
      generalize D[k].vers.length = n at hcv hmk hnp
      have hd2 : decide ((0 : Int) < (n : Int)) = true := decide_eq_true (by omega)
      have hd3 : decide (0 < n) = true := decide_eq_true hnp
      replace hsn := Lib.hid hsn
      have hown1 := hown.alloc (.cells #[.int .i64 (k : Int)] 3)
      have hrow1 := alloc_row wr 3 [I64 k]
      have hB1 := balloc hB (.cells #[.int .i64 (k : Int)] 3)
      have hsz1 := hB1.size
      clear hn hv hr h hys hown
      go_wp2_with (at_builtin; refine wpList_app_int hsz1 rfl _ _ 47 rfl Try.underlying47 info_int hown1 wr.heap.size 1 k 3 hrow1 rfl rfl (by omega) ?_; intro zs A2 c2 w2 hz hown2 hg2 _)
      have hB2 : Below w.heap.size w w2 := hB1.grown hg2 hsz1 (fun k e => (OwnI.lt hown1 k e).1)
      have hzs := Lib.hid (hz.out.trans hsn.out.symm)
      clear hrow1 hown1 hB1
      go_wp2_with fail
      go_roundw
      case rel => exact ⟨k + 1, zs, A2, c2, by omega, by go_num, rfl, hzs, hown2, hB2⟩
      case measure => simp [intOf]; omega
  · obtain rfl : k = D.length := by omega
    have hd1 : decide (D.length < D.length) = false := decide_eq_false (by omega)
    go_wp2_with fail
    go_ret
    refine ⟨⟨ys, A, c, rfl, ?_, hown⟩, hB⟩
    have := hys.out
    rw [List.take_length] at this
    exact this

/-- The disk when the first k loose sectors were settled. -/
def crashTo (D : List Sct) (pick : List UInt8) (k : Nat) : List Sct := setAll D ((looseAll D).take k) (fun r x => D[x].pick (pick.drop r))
theorem crashTo_length (D : List Sct) (pick : List UInt8) (k : Nat) : (crashTo D pick k).length = D.length := setAll_length _ _ _
theorem crashTo_zero (D : List Sct) (pick : List UInt8) : crashTo D pick 0 = D := rfl
theorem crashTo_all (D : List Sct) (pick : List UInt8) : crashTo D pick (looseAll D).length = crashN D pick := by
  unfold crashTo
  rw [List.take_length, setAll_all D (fun r s => s.pick (pick.drop r)), crashN_pass]
theorem loose_nodup (D : List Sct) : (looseAll D).Nodup := by
  unfold looseAll looseTo
  exact ((List.nodup_finRange _).sublist (List.take_sublist _ _)).filter _
theorem loose_vers (D : List Sct) {k : Nat} (hk : k < (looseAll D).length) : D[(looseAll D)[k]].vers ≠ [] := by
  suffices H : ∀ x ∈ looseAll D, D[x].vers ≠ [] from H _ (List.getElem_mem hk)
  intro x h
  unfold looseAll looseTo at h
  simpa using (List.mem_filter.1 h).2
theorem crashTo_get (D : List Sct) (pick : List UInt8) {k : Nat} (hk : k < (looseAll D).length) (h : (looseAll D)[k].val < (crashTo D pick k).length) : (crashTo D pick k)[(looseAll D)[k].val] = D[(looseAll D)[k]] := by
  have h1 : (crashTo D pick k)[(looseAll D)[k].val]? = D[(looseAll D)[k].val]? := by
    refine setAll_other _ _ _ _ fun x hx e => ?_
    obtain ⟨j, hj, rfl⟩ := List.getElem_of_mem hx
    rw [List.length_take] at hj
    rw [List.getElem_take] at e
    have hp := loose_nodup D
    rw [List.nodup_iff_pairwise_ne, List.pairwise_iff_getElem] at hp
    exact hp j k (by omega) hk (by omega) (Fin.ext e)
  rw [List.getElem?_eq_getElem h, List.getElem?_eq_getElem (looseAll D)[k].isLt] at h1
  exact Option.some.inj h1
theorem crashTo_step (D : List Sct) (pick : List UInt8) {k : Nat} (hk : k < (looseAll D).length) : crashTo D pick (k + 1) = (crashTo D pick k).set (looseAll D)[k].val (D[(looseAll D)[k]].pick (pick.drop k)) := by
  unfold crashTo
  rw [List.take_succ_eq_append_getElem hk, setAll_snoc, List.length_take, Nat.min_eq_left (by omega)]

theorem BytesAt.rstep {w w' : World} {B gS gV : Nat} {A : Option Addr} {bs : List UInt8} (h : BytesAt w B A bs) (hs : RStep w w' gS gV) (hB : B ≤ w.heap.size) (h1 : bs = [] ∨ (A.map (·.block) ≠ some gS ∧ A.map (·.block) ≠ some gV)) : BytesAt w' B A bs := by
  rcases h with h | ⟨b, off, rfl, hb, hc⟩
  · exact .inl h
  rcases h1 with h1 | ⟨h1, h2⟩
  · exact .inl h1
  · refine .inr ⟨b, off, rfl, hb, fun j hj => ?_⟩
    have := hs.block b (by omega) (fun e => h1 (by rw [e]; rfl)) (fun e => h2 (by rw [e]; rfl))
    have h3 := hc j hj
    unfold World.cell? at h3 ⊢
    simp only at h3 ⊢
    rw [this]
    exact h3

theorem exec_sub1 {P : Program} {w : World} {o : Oper} {a : Act} (t t' : TypeId) (x : Operand) (ho : o.op = .binOp .sub t x (.const (.int .i64 1)) t') (m : Nat) (hx : a.eval x = .int .i64 ((m : Int) + 1)) (hm : m ≤ 1000000) :
    (execOp a.eval o).run P w = .ok (.value (.int .i64 (m : Int))) w := by
  have h1 : IntKind.i64.wrap ((m : Int) + 1 - 1) = (m : Int) := by
    rw [IntKind.wrap_i64]
    omega
  simp only [execOp, ho, hx]
  show Result.ok (Next.value (.int .i64 (IntKind.i64.wrap ((m : Int) + 1 - 1)))) w = _
  rw [h1]
theorem keepRow {W W' : World} {gS g1 gV i b o : Nat} {t1 : TypeId} {L1 : List Value} {v : Value} (L : List Value) (h : RowAt W g1 t1 L1 ∧ W.cell? ⟨gV, i, none⟩ = some v ∧ W.rangeAt b o L) (h1 : gS ≠ g1) (h2 : gS ≠ gV) (h3 : b ≠ gS) (hg : W.grownBy W' (some gS)) :
    RowAt W' g1 t1 L1 ∧ W'.cell? ⟨gV, i, none⟩ = some v ∧ W'.rangeAt b o L := by
  have hcell : ∀ (k j : Nat) (u : Value), k ≠ gS → W.cell? ⟨k, j, none⟩ = some u → W'.cell? ⟨k, j, none⟩ = some u := by
    intro k j u hk hc
    have hlt := World.block_lt_of_cell? W _ hc
    have := hg.block k hlt (fun e => hk (by injection e))
    unfold World.cell? at hc ⊢
    simp only at hc ⊢
    rw [this]
    exact hc
  exact ⟨h.1.kept hg (fun e => h1 (by injection e)), hcell _ _ _ (Ne.symm h2) h.2.1, fun j u hj => hcell _ _ _ h3 (h.2.2 j u hj)⟩
/-- One round's end: V[i] = nil. -/
theorem rcrash_end {w w1 W : World} {lo gq gS gV : Nat} {E E' : List Sct} {V V' : List (Option Addr × Nat)} (hr : RAt W lo gq gS gV E V') (hn : RNew w V V') (hs : RStep w1 W gS gV) (i : Nat) (hi : i < E.length) (hE : E.set i ⟨E[i].there, []⟩ = E') :
    RAt (W.setCell ⟨gV, i, none⟩ (.slice none 0 0)) lo gq gS gV E' (V'.set i (none, 0)) ∧ RNew w V (V'.set i (none, 0)) ∧ RStep w1 (W.setCell ⟨gV, i, none⟩ (.slice none 0 0)) gS gV := by
  have h := rV_done hr i hi
  rw [hE] at h
  exact ⟨h.1, hn.nil i, hs.trans h.2⟩
theorem RAt.gV {w : World} {lo gq gS gV : Nat} {D : List Sct} {V : List (Option Addr × Nat)} (h : RAt w lo gq gS gV D V) (i : Nat) (hi : i < D.length) : ∃ u, w.cell? ⟨gV, i, none⟩ = some u := by
  obtain ⟨v, hv, _⟩ := h.vers i hi
  exact ⟨_, h.rowV.cellD i _ (vcells_get hi hv)⟩

set_option maxHeartbeats 4000000 in
theorem rcrash_calls {w : World} {lo gq gS gV : Nat} {D : List Sct} {V : List (Option Addr × Nat)} (h : RAt w lo gq gS gV D V) (hD : D.length ≤ 4096) (hm : ∀ i (h : i < D.length), D[i].vers.length ≤ 100000)
    (A : Option Addr) (cap : Nat) (pick : List UInt8) (hp : BytesAt w w.heap.size A pick) (hpc : pick.length ≤ cap) (hcm : cap ≤ maxLen) (hp1 : pick = [] ∨ (A.map (·.block) ≠ some gS ∧ A.map (·.block) ≠ some gV)) :
    Calls Try.prog 27 #[.pointer (some ⟨gq, 0, none⟩), .slice A pick.length cap] w fun e w' => (∃ v, e = .returned v) ∧ (∃ V', RAt w' lo gq gS gV (crashN D pick) V' ∧ RNew w V V') ∧ RStep w w' gS gV := by
  unfold maxLen at hcm
  go_enter Try.func27, Try.ntmps27
  go_wp2_with fail
  refine (rloose_calls h hD hm).mono ?_
  rintro e w1 ⟨⟨ys, Ay, cy, rfl, hys, hown⟩, hB1⟩
  rw [← looseAll_val] at hys
  have hyl : ys.length = (looseAll D).length := by rw [hys, List.length_map]
  have hSlt := h.rowS.lt
  have hVlt := h.rowV.lt
  have h1 := h.step hB1
  have hp' := hp.below hB1
  have hsz := hB1.size
  have hyb : ys.length ≤ 4096 := by
    rw [hyl]
    have := looseTo_length D D.length
    unfold looseAll
    omega
  replace hys := Lib.hid hys
  clear h hp
  go_wp2_with fail
  go_loopw [5] (fun i wr => ∃ (k : Nat) (V' : List (Option Addr × Nat)), k ≤ ys.length ∧ i = .int .i64 (k : Int) ∧ RAt wr lo gq gS gV (crashTo D pick k) V' ∧ RNew w V V' ∧ RStep w1 wr gS gV) (fun i _ => ys.length - (intOf i).toNat)
  case atStart => exact ⟨0, V, Nat.zero_le _, rfl, by rw [crashTo_zero]; exact h1, .refl w V, .of (brefl w1)⟩
  clear h1
  case round =>
  obtain ⟨k, V', hk, rfl, hr, hn, hs⟩ := hrel
  by_cases hlt : k < ys.length
  · have hkL : k < (looseAll D).length := by rw [← hyl]; exact hlt
    obtain ⟨g, rfl, hg0, hg1, hgc⟩ := hown.cells k hlt
    have hyk : ys[k] = (looseAll D)[k].val := by
      have := hys.out
      subst this
      rw [List.getElem_map]
    rw [hyk] at hgc
    have hgb := hs.block g hg1 (by omega) (by omega)
    have hgc' : wr.cell? ⟨g, k, none⟩ = some (.int .i64 ((looseAll D)[k].val : Int)) := by
      unfold World.cell? at hgc ⊢
      simp only at hgc ⊢
      rw [hgb]
      exact hgc
    have hpr := hp'.rstep hs hsz hp1
    have hlenE := crashTo_length D pick k
    have hiD := (looseAll D)[k].isLt
    have hiE : (looseAll D)[k].val < (crashTo D pick k).length := by rw [hlenE]; exact hiD
    have hEi := crashTo_get D pick hkL hiE
    have hstep := crashTo_step D pick hkL
    have hver := loose_vers D hkL
    have hmx := hm _ hiD
    have hsE : D[(looseAll D)[k]] = D[(looseAll D)[k].val] := rfl
    rw [hsE] at hEi hstep hver
    clear hsE
    generalize D[(looseAll D)[k].val] = s at hEi hstep hver hmx
    generalize (looseAll D)[k].val = i at hgc' hiE hEi hstep hiD
    generalize hE9 : crashTo D pick (k + 1) = E' at hstep
    replace hE9 := Lib.hid hE9
    generalize hEE : crashTo D pick k = E at hr hlenE hiE hEi hstep
    obtain ⟨⟨Av, cv⟩, hv, hat⟩ := hr.vers i hiE
    rw [hEi] at hat
    obtain ⟨_, b, hAv, _, hb1, hb2, hb3, hb4, hrange⟩ := hat.resolve_left (fun e => hver e.1)
    simp only at hAv
    subst hAv
    have hcV := hr.rowV.cellD i _ (vcells_get hiE hv)
    rw [hEi] at hcV
    simp only at hcV
    have hnp := List.length_pos_iff.2 hver
    have hwf := hr.wf _ (List.getElem_mem hiE)
    rw [hEi] at hwf
    have hc0 := hr.head.cellD 0 _ rfl
    have hc1 := hr.head.cellD 1 _ rfl
    have hfV := hr.rowV.free i
    rw [hlenE] at hc0 hc1
    have hk0 : (0 : Int) ≤ (k : Int) := by omega
    have hk1 : (k : Int) < (ys.length : Int) := by omega
    have hd1 : decide (k < ys.length) = true := decide_eq_true hlt
    have hi0 : (0 : Int) ≤ (i : Int) := by omega
    have hi1 : (i : Int) < (D.length : Int) := by omega
    clear hgc hgb hyk hown
    by_cases hpk : k < pick.length
    · have hd2 : decide (k < pick.length) = true := decide_eq_true hpk
      obtain ⟨pb, po, rfl, hpb, hpcs⟩ := hpr.resolve_left (fun e => by rw [e] at hpk; simp at hpk)
      have hpcell := hpcs k hpk
      have hdrop : pick.drop k = pick[k]?.getD 0 :: pick.drop (k + 1) := by
        rw [List.drop_eq_getElem_cons hpk, List.getElem?_eq_getElem hpk]
        rfl
      rw [hdrop] at hstep
      generalize pick[k]?.getD 0 = pk at hpcell hstep
      obtain ⟨n, hn9⟩ : ∃ n, n = s.vers.length := ⟨_, rfl⟩
      have hstep' : E' = E.set i ⟨((s.there :: s.vers)[pk.toNat % (n + 1)]?).getD [], []⟩ := by rw [hstep, hn9]; rfl
      rw [← hn9] at hcV hnp hmx
      have hkl := Nat.mod_lt pk.toNat (show 0 < n + 1 by omega)
      obtain ⟨q, hq9⟩ : ∃ q, q = pk.toNat % (n + 1) := ⟨_, rfl⟩
      rw [← hq9] at hkl hstep'
      have hpi := Lib.hid (show (pk.toNat : Int) % ((n : Int) + 1) = (q : Int) by rw [hq9, Int.natCast_emod, Int.natCast_add]; rfl)
      have hp0 := pk.toNat_lt
      have hk2 : (k : Int) < (pick.length : Int) := by omega
      have hn0 : (0 : Int) ≤ (n : Int) := by omega
      have hn1 : (n : Int) ≤ 100000 := by omega
      replace hn9 := Lib.hid hn9
      replace hstep' := Lib.hid hstep'
      replace hdrop := Lib.hid hdrop
      replace hEi := Lib.hid hEi
      replace hEE := Lib.hid hEE
      replace hlenE := Lib.hid hlenE
      clear hpcs hstep hq9
      rcases q with _ | q
      · have hdp : decide ((0 : Int) < (pk.toNat : Int) % ((n : Int) + 1)) = false := decide_eq_false (by rw [hpi.out]; decide)
        go_wp2_with fail
        go_quiet (fail)
        rename_i nq
        have hfin := rcrash_end (W := wr.drewN nq) (hr.step ((Since.refl wr).drewN nq)) hn (hs.trans (.of ((Since.refl wr).drewN nq))) i hiE (E' := E') (by rw [hstep'.out, hEi.out]; rfl)
        clear hr hn hs hrange hpcell hwf
        go_wp2_with fail
        go_roundw
        case rel => exact ⟨k + 1, _, by omega, by go_num, by rw [hE9.out]; exact hfin.1, hfin.2.1, hfin.2.2⟩
        case measure => simp [intOf]; omega
      · have hdp : decide ((0 : Int) < (pk.toNat : Int) % ((n : Int) + 1)) = true := decide_eq_true (by rw [hpi.out]; omega)
        go_wp2_with fail
        go_quiet (fail)
        go_wp2_with fail
        rw [hpi.out, Int.natCast_add]
        rename_i nq
        have hqn : q < s.vers.length := by rw [← hn9.out]; omega
        obtain ⟨bb, hbb⟩ : ∃ bb, bb = s.vers[q] := ⟨_, rfl⟩
        have hb64 : bb.length = 64 := by rw [hbb]; exact hwf.2 _ (List.getElem_mem hqn)
        obtain ⟨L, hL⟩ : ∃ L, L = bb.map B8 := ⟨_, rfl⟩
        have HL2 := Lib.hid hL
        have HLl := Lib.hid (show L.length = 64 by rw [hL, List.length_map]; exact hb64)
        have HLo := Lib.hid (show ∀ v ∈ L, v.oneCell' = true by rw [hL]; exact bytes_oneCell _)
        have hrgL : wr.rangeAt b (q * 64) L := by
          rw [hL, hbb]
          exact vers_range hrange hwf.2 q hqn
        have hst9 : E' = E.set i ⟨bb, []⟩ := by
          rw [hstep'.out, hbb, List.getElem?_cons_succ, List.getElem?_eq_getElem hqn]
          rfl
        have Hh := hr.head
        rw [hlenE.out] at Hh
        have hne := hr.ne
        have h64 : ∀ x ∈ E.map Sct.there, x.length = 64 := by
          intro x hx
          obtain ⟨s, hs, rfl⟩ := List.mem_map.1 hx
          exact (hr.wf s hs).1
        have HID := Lib.hid hiD
        have HQ := Lib.hid (show q < n by omega)
        have hr1 := hr.step ((Since.refl wr).drewN nq)
        have hrS := (hr1.step (brefl (wr.drewN nq)).drew).rowS
        have z0 : RowAt ((wr.drewN nq).drew) gq 53 [.slice (some ⟨gS, 0, none⟩) D.length D.length, .slice (some ⟨gV, 0, none⟩) D.length D.length] ∧ ((wr.drewN nq).drew).cell? ⟨gV, i, none⟩ = some (.slice (some ⟨b, 0, none⟩) n cv) ∧ ((wr.drewN nq).drew).rangeAt b (q * 64) L := ⟨Hh, hcV, hrgL⟩
        clear hL hcV hc0 hc1 hpcell hfV hgc' hrgL
        refine wp_region_H (fun W => RowAt W gq 53 [.slice (some ⟨gS, 0, none⟩) D.length D.length, .slice (some ⟨gV, 0, none⟩) D.length D.length] ∧ W.cell? ⟨gV, i, none⟩ = some (.slice (some ⟨b, 0, none⟩) n cv) ∧ W.rangeAt b (q * 64) L) 18 rfl (by kernel_rfl) ?_
        -- <held2
        refine wh_take 0 (.pointer (some ⟨gq, 0, none⟩)) rfl (by kernel_rfl) (by kernel_rfl) (fun _ _ _ h => h) (by kernel_rfl) (fun _ _ => by kernel_rfl) ?_
        refine wh_take 1 (.pointer (some ⟨gq, 0, none⟩)) rfl (by kernel_rfl) (by kernel_rfl) (fun _ _ _ h => h) (by kernel_rfl) (fun _ _ => by kernel_rfl) ?_
        refine wh_take 2 (.pointer (some ⟨gq, 0, none⟩)) rfl (by kernel_rfl) (by kernel_rfl) (fun _ _ _ h => h) (by kernel_rfl) (fun _ _ => by kernel_rfl) ?_
        refine wh_take 3 (.slice (some ⟨gS, 0, none⟩) D.length D.length) rfl (by kernel_rfl) (by kernel_rfl) (fun _ _ _ h => h) (by kernel_rfl) (fun W h => exec_load_cell 50 (.tmp 43) rfl ⟨gq, 0, none⟩ _ (by kernel_rfl) (h.1.cellD 0 _ rfl) Try.isAgg50) ?_
        refine wh_take 4 (.int .i64 (i : Nat)) rfl (by kernel_rfl) (by kernel_rfl) (fun _ _ _ h => h) (by kernel_rfl) (fun _ _ => by kernel_rfl) ?_
        refine wh_take 5 (.pointer (some ⟨gq, 0, none⟩)) rfl (by kernel_rfl) (by kernel_rfl) (fun _ _ _ h => h) (by kernel_rfl) (fun _ _ => by kernel_rfl) ?_
        refine wh_take 6 (.pointer (some ⟨gq, 0, none⟩)) rfl (by kernel_rfl) (by kernel_rfl) (fun _ _ _ h => h) (by kernel_rfl) (fun _ _ => by kernel_rfl) ?_
        refine wh_take 7 (.pointer (some ⟨gq, 1, none⟩)) rfl (by kernel_rfl) (by kernel_rfl) (fun _ _ _ h => h) (by kernel_rfl) (fun _ _ => by kernel_rfl) ?_
        refine wh_take 8 (.slice (some ⟨gV, 0, none⟩) D.length D.length) rfl (by kernel_rfl) (by kernel_rfl) (fun _ _ _ h => h) (by kernel_rfl) (fun W h => exec_load_cell 51 (.tmp 48) rfl ⟨gq, 1, none⟩ _ (by kernel_rfl) (h.1.cellD 1 _ rfl) Try.isAgg51) ?_
        refine wh_take 9 (.int .i64 (i : Nat)) rfl (by kernel_rfl) (by kernel_rfl) (fun _ _ _ h => h) (by kernel_rfl) (fun _ _ => by kernel_rfl) ?_
        refine wh_take 10 (.pointer (some ⟨gV, i, none⟩)) rfl (by kernel_rfl) (by kernel_rfl) (fun _ _ _ h => h) (by kernel_rfl) (fun _ _ => by rw [exec_index_slice 51 50 (.tmp 49) (.tmp 50) rfl gV 0 i D.length D.length 1 Try.underlying51 Try.sizeOf50 (by kernel_rfl) (by kernel_rfl) HID.out, Nat.zero_add, Nat.mul_one]) ?_
        refine wh_take 11 (.slice (some ⟨b, 0, none⟩) n cv) rfl (by kernel_rfl) (by kernel_rfl) (fun _ _ _ h => h) (by kernel_rfl) (fun W h => exec_load_cell 50 (.tmp 51) rfl ⟨gV, i, none⟩ _ (by kernel_rfl) h.2.1 Try.isAgg50) ?_
        refine wh_take 12 (.int .i64 ((q : Int) + 1)) rfl (by kernel_rfl) (by kernel_rfl) (fun _ _ _ h => h) (by kernel_rfl) (fun _ _ => by kernel_rfl) ?_
        refine wh_take 13 (.int .i64 (q : Nat)) rfl (by kernel_rfl) (by kernel_rfl) (fun _ _ _ h => h) (by kernel_rfl) (fun _ _ => exec_sub1 3 3 (.tmp 53) rfl q (by kernel_rfl) (by omega)) ?_
        refine wh_take 14 (.pointer (some ⟨b, q * 64, none⟩)) rfl (by kernel_rfl) (by kernel_rfl) (fun _ _ _ h => h) (by kernel_rfl) (fun _ _ => by rw [exec_index_slice 50 37 (.tmp 52) (.tmp 54) rfl b 0 q n cv 64 Try.underlying50 Try.sizeOf37 (by kernel_rfl) (by kernel_rfl) HQ.out, Nat.zero_add]) ?_
        refine wh_take 15 (.agg L.toArray) rfl (by kernel_rfl) (by kernel_rfl) (fun _ _ _ h => h) (by kernel_rfl) (fun W h => exec_load_cells 37 (.tmp 55) rfl ⟨b, q * 64, none⟩ L (fun j v hj => by rw [add_at]; exact h.2.2 j v hj) (by kernel_rfl) 64 HLl.out Try.isAgg37 Try.sizeOf37) ?_
        refine wh_take 16 (.pointer (some ⟨gS, i * 64, none⟩)) rfl (by kernel_rfl) (by kernel_rfl) (fun _ _ _ h => h) (by kernel_rfl) (fun _ _ => by rw [exec_index_slice 50 37 (.tmp 44) (.tmp 45) rfl gS 0 i D.length D.length 64 Try.underlying50 Try.sizeOf37 (by kernel_rfl) (by kernel_rfl) HID.out, Nat.zero_add]) ?_
        have hS1 := rS_done (hr1.step (brefl (wr.drewN nq)).drew) i hiE bb hb64
        rw [← HL2.out] at hS1
        have zf := keepRow L z0 (show gS ≠ gq from fun e => hne.1 e.symm) hne.2.2 hb3 (setRow_grown (wr.drewN nq).drew gS (splice ((E.map Sct.there).flatten.map B8) (i * 64) L).toArray)
        refine wh_skip 17 (w' := (wr.drewN nq).drew.setRow gS (splice ((E.map Sct.there).flatten.map B8) (i * 64) L).toArray) rfl (by kernel_rfl) (by kernel_rfl) z0 (exec_store_part 37 (.tmp 57) (.tmp 56) rfl hrS (i * 64) L (by kernel_rfl) (by kernel_rfl) (by rw [HLl.out]; exact Try.sizeOf37) (by rw [List.length_map, flat_length _ h64, List.length_map, HLl.out, hlenE.out]; have := HID.out; omega) HLo.out) ?_
        -- held2>
        refine wh_done (by kernel_rfl) zf ?_
        simp only [Act.put, List.setIfInBounds_toArray, List.set_cons_zero, List.set_cons_succ]
        obtain ⟨W2, hW2⟩ : ∃ W2, W2 = (wr.drewN nq).drew.setRow gS (splice ((E.map Sct.there).flatten.map B8) (i * 64) L).toArray := ⟨_, rfl⟩
        rw [← hW2] at hS1
        rw [← hW2] at zf ⊢
        obtain ⟨hr2, hs2⟩ := hS1
        have hk2 : i < (E.set i ⟨bb, E[i].vers⟩).length := by rw [List.length_set]; exact hiE
        have hfin := rcrash_end hr2 hn ((hs.trans (.of ((Since.refl wr).drewN nq).drew)).trans hs2) i hk2 (E' := E') (by rw [List.getElem_set_self, List.set_set, hst9])
        have hc1 : W2.cell? ⟨gq, 1, none⟩ = some (.slice (some ⟨gV, 0, none⟩) D.length D.length) := zf.1.cellD 1 _ rfl
        have hcV := zf.2.1
        have hfV := hr2.rowV.free i
        clear hW2 hr hr1 hr2 hs hs2 zf z0 hst9 hrS Hh hwf hbb h64 hrange hb64
        go_wp2_with fail
        go_roundw
        case rel => exact ⟨k + 1, _, by omega, by go_num, by rw [hE9.out]; exact hfin.1, hfin.2.1, hfin.2.2⟩
        case measure => simp [intOf]; omega
    · have hd2 : decide (k < pick.length) = false := decide_eq_false hpk
      have hfin := rcrash_end hr hn hs i hiE (E' := E') (by rw [hstep, List.drop_eq_nil_of_le (by omega), hEi]; rfl)
      clear hstep hEi hr hn hs hEE hrange hpr hwf hver hlenE
      go_wp2_with fail
      go_roundw
      case rel => exact ⟨k + 1, _, by omega, by go_num, by rw [hE9.out]; exact hfin.1, hfin.2.1, hfin.2.2⟩
      case measure => simp [intOf]; omega
  · obtain rfl : k = ys.length := by omega
    have hd1 : decide (ys.length < ys.length) = false := decide_eq_false (by omega)
    rw [hyl, crashTo_all] at hr
    clear hys
    go_wp2_with fail
    go_end0
    exact ⟨⟨_, rfl⟩, ⟨V', hr, hn⟩, (RStep.of hB1).trans hs⟩


theorem RAt.kept_all {w w' : World} {lo gq gS gV : Nat} {D : List Sct} {V : List (Option Addr × Nat)} (h : RAt w lo gq gS gV D V) (hk : ∀ b ∈ rb gq gS gV V, w'.heap[b]? = w.heap[b]?) : RAt w' lo gq gS gV D V := by
  refine ⟨(hk gq (by simp [rb])).trans h.head, (hk gS (by simp [rb])).trans h.rowS, (hk gV (by simp [rb])).trans h.rowV, h.wf, h.len, h.low, h.ne, fun i hi => ?_⟩
  obtain ⟨v, hv, hat⟩ := h.vers i hi
  refine ⟨v, hv, ?_⟩
  rcases hat with hn | ⟨hn0, b, hA, h1, h2, h3, h4, h5, hr⟩
  · exact .inl hn
  · have hb := hk b (rb_vers hv (by rw [hA]; rfl))
    have hlt : b < w'.heap.size := by
      rw [Array.getElem?_eq_getElem h2] at hb
      exact (Array.getElem?_eq_some_iff.1 hb).1
    refine .inr ⟨hn0, b, hA, h1, hlt, h3, h4, h5, fun j x hj => ?_⟩
    have := hr j x hj
    unfold World.cell? at this ⊢
    simp only at this ⊢
    rw [hb]
    exact this
theorem live_ref {w W W' : World} {gd : Nat} {D : List Sct} {F F' : List Nat} (h : Live w W gd D F) {gS gV : Nat} (hs : RStep W W' gS gV) (hS : gS ∈ F) (hV : gV ∈ F) (hS0 : w.heap.size ≤ gS) (hV0 : w.heap.size ≤ gV) (hF : ∀ b ∈ F', b ∈ F ∨ (W.heap.size ≤ b ∧ b < W'.heap.size)) : Live w W' gd D F' := by
  obtain ⟨base, gs, V, h1, h2, h3, h4⟩ := h
  have hno : ∀ k, (k = gd ∨ DiskOwns gs V k) → k ≠ gS ∧ k ≠ gV := by
    intro k hk
    refine ⟨fun e => ?_, fun e => ?_⟩
    · subst e
      rcases hk with hk | hk
      · exact (h4 _ hS).2.1 hk
      · exact (h4 _ hS).2.2 hk
    · subst e
      rcases hk with hk | hk
      · exact (h4 _ hV).2.1 hk
      · exact (h4 _ hV).2.2 hk
  have hlt := h2.lt
  refine ⟨base, gs, V, h1, h2.kept fun k hk ho => hs.block k hk (hno k ho).1 (hno k ho).2, ⟨hs.os.trans h3.os, hs.tape.trans h3.tape, hs.output.trans h3.output, Nat.le_trans h3.size hs.size, fun k hk => ?_⟩, fun b hb => ?_⟩
  · have := h3.size
    rw [hs.block k (by omega) (by omega) (by omega)]
    exact h3.block k hk
  · rcases hF b hb with hb | ⟨hb1, hb2⟩
    · exact ⟨Nat.lt_of_lt_of_le (h4 b hb).1 hs.size, (h4 b hb).2⟩
    · exact ⟨hb2, by omega, fun ho => by have := (hlt.2 b ho).2; omega⟩
theorem rb_new {W W' : World} {lo gq gS gV : Nat} {D' : List Sct} {V V' : List (Option Addr × Nat)} (h' : RAt W' lo gq gS gV D' V') (hn : RNew W V V') : ∀ b ∈ rb gq gS gV V', b ∈ rb gq gS gV V ∨ (W.heap.size ≤ b ∧ b < W'.heap.size) := by
  intro b hb
  unfold rb at hb ⊢
  simp only [List.mem_cons, List.mem_filterMap] at hb ⊢
  rcases hb with hb | hb | hb | ⟨v, hv, hk⟩
  · exact .inl (.inl hb)
  · exact .inl (.inr (.inl hb))
  · exact .inl (.inr (.inr (.inl hb)))
  · rcases hn v hv b hk with ⟨u, hu, huk⟩ | hge
    · exact .inl (.inr (.inr (.inr ⟨u, hu, huk⟩)))
    · right
      refine ⟨hge, ?_⟩
      obtain ⟨i, hi, rfl⟩ := List.getElem_of_mem hv
      obtain ⟨u, hu, hat⟩ := h'.vers i (by rw [← h'.len]; exact hi)
      rw [List.getElem?_eq_getElem hi] at hu
      obtain rfl := Option.some.inj hu
      rcases hat with hn | ⟨_, g, hA, _, hlt, _⟩
      · rw [hn.2] at hk
        cases hk
      · rw [hA] at hk
        cases hk
        exact hlt

/-- BOTH DISKS; X: blocks of the walk's own. -/
structure Two (w W : World) (gd gq gS gV : Nat) (Dp Dr : List Sct) (V : List (Option Addr × Nat)) (X : List Nat) : Prop where
  live : Live w W gd Dp (X ++ rb gq gS gV V)
  ref : RAt W w.heap.size gq gS gV Dr V
theorem Two.step {w W W' : World} {gd gq gS gV : Nat} {Dp Dr : List Sct} {V : List (Option Addr × Nat)} {X : List Nat} (h : Two w W gd gq gS gV Dp Dr V X) (hb : Below W.heap.size W W') : Two w W' gd gq gS gV Dp Dr V X := ⟨h.live.step hb, h.ref.step hb⟩
theorem Two.add {w W W' : World} {gd gq gS gV : Nat} {Dp Dr : List Sct} {V : List (Option Addr × Nat)} {X : List Nat} (h : Two w W gd gq gS gV Dp Dr V X) (hb : Below W.heap.size W W') (b : Nat) (h1 : W.heap.size ≤ b) (h2 : b < W'.heap.size) : Two w W' gd gq gS gV Dp Dr V (b :: X) :=
  ⟨h.live.add hb b h1 h2, h.ref.step hb⟩
theorem Two.drop {w W : World} {gd gq gS gV : Nat} {Dp Dr : List Sct} {V : List (Option Addr × Nat)} {X : List Nat} (h : Two w W gd gq gS gV Dp Dr V X) : Two w W gd gq gS gV Dp Dr V [] := ⟨h.live.drop (fun _ hb => List.mem_append_right _ hb), h.ref⟩
theorem Two.prog {w W W' : World} {gd gq gS gV : Nat} {Dp Dp' Dr : List Sct} {V : List (Option Addr × Nat)} {X : List Nat} (h : Two w W gd gq gS gV Dp Dr V X) (hl : Live w W' gd Dp' (X ++ rb gq gS gV V)) (hk : Kept (X ++ rb gq gS gV V) W W') : Two w W' gd gq gS gV Dp' Dr V X :=
  ⟨hl, h.ref.kept_all fun b hb => hk b (List.mem_append_right _ hb)⟩
theorem Two.refs {w W W' : World} {gd gq gS gV : Nat} {Dp Dr Dr' : List Sct} {V V' : List (Option Addr × Nat)} {X : List Nat} (h : Two w W gd gq gS gV Dp Dr V X) (hr : RAt W' w.heap.size gq gS gV Dr' V') (hn : RNew W V V') (hs : RStep W W' gS gV) : Two w W' gd gq gS gV Dp Dr' V' X := by
  refine ⟨live_ref h.live hs (List.mem_append_right _ (by simp [rb])) (List.mem_append_right _ (by simp [rb])) h.ref.low.2.1 h.ref.low.2.2 fun b hb => ?_, hr⟩
  rcases List.mem_append.1 hb with hb | hb
  · exact .inl (List.mem_append_left _ hb)
  · rcases rb_new hr hn b hb with hb | hb
    · exact .inl (List.mem_append_right _ hb)
    · exact .inr hb
theorem Two.ne {w W : World} {gd gq gS gV : Nat} {Dp Dr : List Sct} {V : List (Option Addr × Nat)} {X : List Nat} (h : Two w W gd gq gS gV Dp Dr V X) : gS < W.heap.size ∧ gV < W.heap.size := ⟨h.ref.rowS.lt, h.ref.rowV.lt⟩
theorem RowAt.rstep {W W' : World} {gS gV g : Nat} {t : TypeId} {cs : List Value} (h : RowAt W g t cs) (hs : RStep W W' gS gV) (h1 : g ≠ gS) (h2 : g ≠ gV) : RowAt W' g t cs := (hs.block g h.lt h1 h2).trans h
theorem two_own {w W W' : World} {gd gq gS gV : Nat} {Dp Dr : List Sct} {V : List (Option Addr × Nat)} {X : List Nat} (h : Two w W gd gq gS gV Dp Dr V X) (hB : Below W.heap.size W W') {e : TypeId} {A : Option Addr} {c : Nat} {bs : List UInt8} (hown : OwnB W' W.heap.size e A c bs) :
    ∃ X', Two w W' gd gq gS gV Dp Dr V X' ∧ (∀ b, A.map (·.block) = some b → b ∈ X') ∧ ∀ b ∈ X, b ∈ X' := by
  have hlt := hown.lt
  cases A with
  | none => exact ⟨X, h.step hB, fun b e => (by cases e), fun _ hb => hb⟩
  | some ad =>
    obtain ⟨h1, h2⟩ := hlt ad.block rfl
    exact ⟨ad.block :: X, h.add hB ad.block h1 h2, fun b e => by cases e; exact List.mem_cons_self .., fun b hb => List.mem_cons_of_mem _ hb⟩
theorem crashN_len (D : List Sct) : ∀ pick, (crashN D pick).length = D.length := by
  induction D with
  | nil => intro pick; rfl
  | cons s D ih =>
    intro pick
    unfold crashN
    split <;> rw [List.length_cons, List.length_cons, ih]
theorem crashN_vers (D : List Sct) : ∀ pick, ∀ s ∈ crashN D pick, s.vers = [] := by
  induction D with
  | nil =>
    intro pick s hs
    cases hs
  | cons t D ih =>
    intro pick s hs
    unfold crashN at hs
    split at hs
    · rename_i hv
      rcases List.mem_cons.1 hs with rfl | hs
      · exact hv
      · exact ih _ s hs
    · rcases List.mem_cons.1 hs with rfl | hs
      · cases pick <;> rfl
      · exact ih _ s hs
theorem apart_low {w : World} {lo gS gV : Nat} {A : Option Addr} {bs : List UInt8} (h : BytesAt w lo A bs) (h1 : lo ≤ gS) (h2 : lo ≤ gV) : bs = [] ∨ (A.map (·.block) ≠ some gS ∧ A.map (·.block) ≠ some gV) := by
  rcases h with h | ⟨b, off, rfl, hb, _⟩
  · exact .inl h
  · exact .inr ⟨fun e => by injection e with e; simp only at e; omega, fun e => by injection e with e; simp only at e; omega⟩
end Go.Proofs.Ythieeidbfdhaaaa
