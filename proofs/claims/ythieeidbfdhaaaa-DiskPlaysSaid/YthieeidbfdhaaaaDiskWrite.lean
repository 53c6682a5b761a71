/-
  Package disk: settle, Write, Read.
-/
import Derived.Test.YthieeidbfdhaaaaDiskOps
namespace Go.Proofs.Ythieeidbfdhaaaa
open Go Go.RowKit Go.Shelf

/-- What an operation on a disk leaves alone. -/
def DiskKeeps (w w' : World) (gs : Nat) (V : List (Option Addr × Nat)) : Prop := w.heap.size ≤ w'.heap.size ∧ w'.os = w.os ∧ w'.tape = w.tape ∧ w'.output = w.output ∧ ∀ k, k < w.heap.size → ¬ DiskOwns gs V k → w'.heap[k]? = w.heap[k]?
/-- Where the versions lie behind: where they lay, or in new blocks. -/
def DiskNew (w : World) (V V' : List (Option Addr × Nat)) : Prop := ∀ v ∈ V', ∀ k, v.1.map (·.block) = some k → (∃ u ∈ V, u.1.map (·.block) = some k) ∨ w.heap.size ≤ k

theorem grown_then {a b c : World} {r : Option Nat} (h : a.grownBy b r) (k : b.grownBy c r) : a.grownBy c r :=
  ⟨k.os.trans h.os, k.tape.trans h.tape, k.output.trans h.output, Nat.le_trans h.size k.size, fun i hi hne => (k.block i (Nat.lt_of_lt_of_le hi h.size) hne).trans (h.block i hi hne)⟩
theorem grown_below {a b : World} (h : Below a.heap.size a b) (r : Option Nat) : a.grownBy b r := ⟨h.os, h.tape, h.output, h.size, fun k hk _ => h.block k hk⟩

theorem settle_calls {w : World} {base gd gs : Nat} {D : List Sct} {V : List (Option Addr × Nat)} (h : DiskAt w base gd gs D V) (i : Nat) (hi : i < D.length) (b : List UInt8) (hb : b.length = 64) :
    Calls Try.prog 46 #[.pointer (some ⟨gs, i * 65, none⟩), vb b] w fun e w' => (∃ v, e = .returned v) ∧ DiskAt w' base gd gs (D.set i ⟨b, []⟩) (V.set i (none, 0)) ∧ w.grownBy w' (some gs) := by
  obtain ⟨cs, hr, hl, hs⟩ := h.row
  have hlt := h.lt
  have hgs := hr.lt
  obtain ⟨v, hv, hsi⟩ := hs i hi
  have hwf := h.wf D[i] (List.getElem_mem hi)
  have HL := Lib.hid (show (b.map B8).length = 64 by rw [List.length_map, hb])
  have HT := Lib.hid (List.take_of_length_le (Nat.le_of_eq HL.out))
  have hone := bytes_oneCell b
  have hfit : i * 65 + 64 ≤ cs.length := by omega
  have hspl : ∀ j u, (hj : j < D.length) → V[j]? = some u → SctAt (splice cs (i * 65) (b.map B8)) j (sctCells (if j = i then ⟨b, D[j].vers⟩ else D[j]) u) := fun j u hj hu => by
    obtain ⟨u', hu', hc⟩ := hs j hj
    rw [hu] at hu'
    cases hu'
    exact hc.put b hb hl hi hj (h.wf _ (List.getElem_mem hj)).1
  have hsl : (splice cs (i * 65) (b.map B8)).length = D.length * 65 := by rw [length_splice _ _ _ (by rw [HL.out]; exact hfit), hl]
  have hci := hspl i v hi hv
  rw [if_pos rfl] at hci
  have Hci := Lib.hid (hci.cell hb)
  have Hfit := Lib.hid (show i * 65 + (b.map B8).length ≤ cs.length by rw [HL.out]; exact hfit)
  obtain ⟨L, hL⟩ : ∃ L, L = b.map B8 := ⟨_, rfl⟩
  unfold vb
  rw [← hL] at HL HT hone hspl hsl hci Hci Hfit ⊢
  have Hspl := Lib.hid hspl
  have Hsl := Lib.hid hsl
  have HLe := Lib.hid hL
  clear hspl hsl hL hs hci
  go_enter Try.func46, Try.ntmps46
  go_wp2_with (first
    | (refine wpList_box_row 3 rfl 37 _ rfl L rfl rfl ?_
       intro w1 hr1 hs1 hB1
       have hr2 := hr.step hB1
       clear hs1)
    | (refine wpList_load_part 6 rfl 37 (.tmp 3) rfl hr1 0 64 L rfl rfl HT.out HL.out Try.isAgg37 Try.sizeOf37 ?_)
    | (refine wpList_store_part 37 (.tmp 8) (.tmp 6) rfl hr2 (i * 65) L rfl rfl rfl (by rw [HL.out]; exact Try.sizeOf37) Hfit.out hone ?_
       intro w5 hr5 hs5 hg5
       have hc := hr5.cellD _ _ Hci.out
       have hf := hr5.free (i * 65 + 64)
       clear hs5))
  go_end0
  have hg15 : w.grownBy (w5.setCell ⟨gs, i * 65 + 64, none⟩ (.slice none 0 0)) (some gs) :=
    (grown_then (grown_then (grown_below hB1 (some gs)) hg5) (setCell_grown _ _ _ _))
  refine ⟨⟨_, rfl⟩, ?_, hg15⟩
  have hci := Hspl.out i v hi hv
  rw [if_pos rfl] at hci
  refine h.turned i hi ⟨b, []⟩ (none, 0) ⟨hb, by simp⟩ _ (hr5.set (i * 65 + 64) (.slice none 0 0)) (by rw [List.length_set, Hsl.out]) ?_ (fun j u hji hj hu => ?_) (OwnA.nil _ _ _ _) (fun k hk hne _ => hg15.block k hk (fun e => hne (by injection e))) (fun k hk => by cases hk)
  · exact SctAt.turn (t := ⟨b, []⟩) (u := (none, 0)) Hsl.out hi hci hb rfl rfl
  · have hcj := Hspl.out j u hj hu
    rw [if_neg hji] at hcj
    exact hcj.turn_other _ hji

/-- []Block{b} behind a word that the walk does not open. -/
@[irreducible] def lit1 (v : Value) : Sem Value := Instr.buildSlice 50 1 #[(0, v)]
theorem info_block : (Try.prog.info? 37).map (fun i => (i.zero, i.size, i.bytes)) = some (some (.agg ((zeros 64).map B8).toArray), 64, 64) := by kernel_rfl
theorem run_lit1 {w : World} {cs : List Value} (h : cs.length = 64) : (lit1 (.agg cs.toArray)).run Try.prog w = .ok (.slice (some ⟨w.heap.size, 0, none⟩) 1 1) (w.alloc (.cells cs.toArray 37)) := by
  have h1 := exec_lit_row (P := Try.prog) (w := w) (a := { tmps := #[.agg cs.toArray], defers := [] }) (o := { dst := some 0, op := .buildSlice 50 1 #[(0, .tmp 0)], type := 0, pos := default, after := #[], guard := none }) 50 37 (.tmp 0) rfl cs rfl 64 h Try.underlying50 info_block (by decide) (by decide)
  unfold lit1
  simp only [execOp, List.map_toArray, List.map_cons, List.map_nil, Sem.run_bind, Sem.run_pure] at h1
  revert h1
  generalize hr : (Instr.buildSlice 50 1 #[(0, .agg cs.toArray)]).run Try.prog w = r
  intro h1
  have e : Act.eval { tmps := #[.agg cs.toArray], defers := [] } (Operand.tmp 0) = .agg cs.toArray := rfl
  rw [e, hr] at h1
  cases r with
  | ok v w1 =>
    simp only [Result.andThen_ok, Result.ok.injEq, Next.value.injEq] at h1
    rw [h1.1, h1.2]
  | halt x w1 => cases h1
theorem exec_lit1 (ρ : Operand → Value) (dst : Option Tmp) (ty : TypeId) (pos : String) (after : Array Edge) (guard : Option (Nat × Bool)) (x : Operand) :
    execOp ρ { dst, op := .buildSlice 50 1 #[(0, x)], type := ty, pos, after, guard } = (do pure (.value (← lit1 (ρ x)))) := by unfold lit1; simp [execOp]

/-- append of one array, at one operation. -/
theorem wp_app_row {P : Program} {w : World} {o : Oper} {a : Act} {K : Act → World → Prop} {Q : Exit → Act → World → Prop} (s x : Operand) (t : TypeId) (ho : o.op = .call { callee := .builtin .append, args := #[s, x], argTypes := #[t, t] }) {e : TypeId} {z : Value} {N : Nat} (ht : P.underlying t = some (.slice e))
    (hinfo : (P.info? e).map (fun i => (i.zero, i.size, i.bytes)) = some (some z, N, N)) (hz : z.cells.size = N) (h0 : 0 < N) (base : Nat) (hbase : base ≤ w.heap.size) {A : Option Addr} {c : Nat} {ls : List (List UInt8)} (hown : OwnA w base e N A c ls)
    {g : Nat} {l : List UInt8} (hl : l.length = N) {tr : TypeId} (hrow : RowAt w g tr (l.map B8)) (c2 : Nat) (hs : a.eval s = .slice A ls.length c) (hx : a.eval x = .slice (some ⟨g, 0, none⟩) 1 c2) (hlen : (ls.length + 1) * N ≤ 140737488355328) (hlen2 : ls.length ≤ 140737488355328)
    (h : ∀ (zs : List (List UInt8)) (A' : Option Addr) (c' : Nat) (w' : World), Hid (zs = ls ++ [l]) → OwnA w' base e N A' c' zs → w.grownBy w' (A.map (·.block)) → LiesAt A' A w.heap.size → K (a.put o.dst (.slice A' zs.length c')) w') : o.wp P a w K Q := by
  obtain ⟨zs, A', c', w', hzs, hr, h2, h3, h4⟩ := exec_app_row (P := P) s x t ho ht hinfo hz h0 base hbase hown hl hrow c2 hs hx hlen hlen2
  exact wp_run _ _ hr (h zs A' c' w' hzs h2 h3 h4)

/-- A load of a block behind a word that the walk does not open. -/
@[irreducible] def lblock (p : Value) : Sem Value := Instr.loadAt 37 p
theorem run_lblock {w : World} {g o : Nat} {cs : List Value} (h : w.rangeAt g o cs) (hl : cs.length = 64) : (lblock (.pointer (some ⟨g, o, none⟩))).run Try.prog w = .ok (.agg cs.toArray) w := by
  unfold lblock
  exact run_loadAt_mid w g o 37 cs _ h Try.underlying37 rfl (by rw [hl]; kernel_rfl)
theorem exec_lblock (ρ : Operand → Value) (dst : Option Tmp) (ty : TypeId) (pos : String) (after : Array Edge) (guard : Option (Nat × Bool)) (x : Operand) :
    execOp ρ { dst, op := .load 37 x, type := ty, pos, after, guard } = (do pure (.value (← lblock (ρ x)))) := by unfold lblock; rfl
attribute [local go_sem ↓ high] exec_lit1 exec_lblock
attribute [local go_sem ↓] Go.wp_at_zero Go.wp_at_succ

/-- Write: what is behind the store. -/
theorem write_done {w w1 w2 w8 : World} {base gd gs : Nat} {D : List Sct} {V : List (Option Addr × Nat)} (h : DiskAt w base gd gs D V) (i : Nat) (hi : i < D.length) (b : List UInt8) (hb : b.length = 64) {cs : List Value} {A A8 : Option Addr} {c c8 : Nat} {zs : List (List UInt8)}
    (hB1 : Below w.heap.size w w1) (h1 : DiskAt w1 base gd gs D V) (hB2 : Below w1.heap.size w1 w2) (hs2 : w1.heap.size ≤ w2.heap.size) (hr : RowAt w1 gs 92 cs) (hv : V[i]? = some (A, c)) (hr8 : RowAt w8 gs 92 cs) (hzs : zs = D[i].vers ++ [b]) (hown8 : OwnA w8 base 37 64 A8 c8 zs) (hg8 : w2.grownBy w8 (A.map (·.block))) (hat : LiesAt A8 A w2.heap.size) :
    (∃ v, DiskAt (w8.setCell ⟨gs, i * 65 + 64, none⟩ (.slice A8 zs.length c8)) base gd gs (D.set i ⟨D[i].there, D[i].vers ++ [b]⟩) (V.set i v) ∧ DiskNew w V (V.set i v)) ∧ DiskKeeps w (w8.setCell ⟨gs, i * 65 + 64, none⟩ (.slice A8 zs.length c8)) gs V := by
  obtain ⟨cs1, hr1, hl1, hs1⟩ := h1.row
  have hcs : cs1 = cs := by
    unfold RowAt at hr hr1
    rw [hr] at hr1
    have e : cs.toArray = cs1.toArray := by
      injection hr1 with e
      injection e
    simpa using e.symm
  subst hcs
  have hwf := h.wf D[i] (List.getElem_mem hi)
  have hw1 := hB1.size
  have hlt := h.lt
  have hkeep : ∀ k, k < w.heap.size → k ≠ gs → A.map (·.block) ≠ some k → (w8.setCell ⟨gs, i * 65 + 64, none⟩ (.slice A8 zs.length c8)).heap[k]? = w.heap[k]? := by
    intro k hk hne hA
    rw [(setCell_grown w8 gs _ _).block k (by have := hg8.size; omega) (fun e => hne (by injection e)), hg8.block k (by omega) (fun e => hA e.symm), hB2.block k (by omega), hB1.block k hk]
  have hnew : ∀ k, A8.map (·.block) = some k → (∃ u, V[i]? = some u ∧ u.1.map (·.block) = some k) ∨ w.heap.size ≤ k := by
    intro k hk
    rcases hat with e | e
    · exact .inl ⟨_, hv, by rw [← e]; exact hk⟩
    · right
      rw [e] at hk
      injection hk with hk
      omega
  obtain ⟨u, hu, hsc⟩ := hs1 i hi
  rw [hv] at hu
  cases hu
  have hown9 : OwnA (w8.setCell ⟨gs, i * 65 + 64, none⟩ (.slice A8 zs.length c8)) base 37 64 A8 c8 (D[i].vers ++ [b]) := by
    rw [← hzs]
    refine hown8.kept (setCell_grown w8 gs _ _) ?_
    rcases hown8.2 with ⟨hA, _⟩ | ⟨g, cap, cur, hA, _, hg, _⟩
    · left
      injection hA with hA _ _
      rw [show A8 = none from hA]
      rfl
    · right
      injection hA with hA _ _
      rw [show A8 = some ⟨g, 0, none⟩ from hA]
      intro e
      obtain rfl : g = gs := by simpa using e
      unfold RowAt at hr8
      rw [hg] at hr8
      simp at hr8
  refine ⟨⟨(A8, c8), ?_, ?_⟩, ?_, ?_, ?_, ?_, ?_⟩
  · refine h.turned i hi ⟨D[i].there, D[i].vers ++ [b]⟩ (A8, c8) ⟨hwf.1, fun l hl => ?_⟩ _ (hr8.set (i * 65 + 64) (.slice A8 zs.length c8)) (by rw [List.length_set, hl1]) ?_ (fun j u hji hj hu => ?_) hown9 (fun k hk hne hA => hkeep k hk hne (hA A c hv)) hnew
    · rcases List.mem_append.1 hl with hl | hl
      · exact hwf.2 l hl
      · simp at hl
        rw [hl]
        exact hb
    · rw [hzs]
      exact SctAt.turn (t := ⟨D[i].there, D[i].vers ++ [b]⟩) (u := (A8, c8)) hl1 hi hsc hwf.1 rfl rfl
    · obtain ⟨u', hu', hcj⟩ := hs1 j hj
      rw [hu] at hu'
      cases hu'
      exact hcj.turn_other _ hji
  · intro v hvm k hk
    rcases List.mem_or_eq_of_mem_set hvm with hm | rfl
    · exact .inl ⟨v, hm, hk⟩
    · rcases hnew k hk with ⟨u, hu, huk⟩ | hge
      · exact .inl ⟨u, List.mem_of_getElem? hu, huk⟩
      · exact .inr hge
  · have := hg8.size
    simp
    omega
  · exact hg8.os.trans (hB2.os.trans hB1.os)
  · exact hg8.tape.trans (hB2.tape.trans hB1.tape)
  · exact hg8.output.trans (hB2.output.trans hB1.output)
  · intro k hk hno
    exact hkeep k hk (fun e => hno (.inl e)) (fun e => hno (.inr ⟨_, List.mem_of_getElem? hv, e⟩))

set_option maxHeartbeats 1000000 in
theorem diskWrite_calls {w : World} {base gd gs : Nat} {D : List Sct} {V : List (Option Addr × Nat)} (h : DiskAt w base gd gs D V) (i : Nat) (hi : i < D.length) (hm : D[i].vers.length ≤ 100000) (b : List UInt8) (hb : b.length = 64) :
    Calls Try.prog 18 #[.pointer (some ⟨gd, 0, none⟩), .int .i64 (i : Int), vb b] w fun e w' => e = .returned (.int .i64 0) ∧ (∃ v, DiskAt w' base gd gs (D.set i ⟨D[i].there, D[i].vers ++ [b]⟩) (V.set i v) ∧ DiskNew w V (V.set i v)) ∧ DiskKeeps w w' gs V := by
  have HL := Lib.hid (show (b.map B8).length = 64 by rw [List.length_map, hb])
  obtain ⟨L, hL⟩ : ∃ L, L = b.map B8 := ⟨_, rfl⟩
  unfold vb
  rw [← hL] at HL ⊢
  have HLe := Lib.hid hL
  clear hL
  obtain ⟨cs0, hr0, _⟩ := h.row
  have hgs0 := hr0.lt
  go_enter Try.func18, Try.ntmps18
  go_wp2_with (refine wpList_box_row 5 rfl 37 _ rfl L rfl rfl ?_; intro w1 hr1 hs1 hB1; clear hs1)
  have h1 := h.step hB1
  refine (diskSector_calls h1 i hi).mono ?_
  rintro e w' ⟨rfl, rfl⟩
  obtain ⟨cs, A, c, hr, hl, hv, hth, hce, hown, hwf⟩ := h1.sector i hi
  have hc := hr.cellD _ _ hce
  have hgsb := hr.lt
  have hng : A.map (·.block) ≠ some gs := by
    intro e
    rcases hown.2 with ⟨hA, _⟩ | ⟨g, cap, cur, hA, _, hg, _⟩
    · injection hA with hA _ _
      rw [show A = none from hA] at e
      cases e
    · injection hA with hA _ _
      rw [show A = some ⟨g, 0, none⟩ from hA] at e
      obtain rfl : g = gs := by simpa using e
      unfold RowAt at hr
      rw [hg] at hr
      simp at hr
  have hr1' : w1.rangeAt w.heap.size 0 L := fun j x hj => by rw [Nat.zero_add]; rw [hr1.cell]; exact hj
  have hlit := fun w => run_lit1 (w := w) HL.out
  have hl1 : (lblock (.pointer (some ⟨w.heap.size, 0, none⟩))).run Try.prog w1.drew = .ok (.agg L.toArray) w1.drew := run_lblock hr1' HL.out
  have hl2 : (lblock (.pointer (some ⟨w.heap.size, 0, none⟩))).run Try.prog (w1.drew.alloc (.cells L.toArray 37)) = .ok (.agg L.toArray) (w1.drew.alloc (.cells L.toArray 37)) := run_lblock (fun j x hj => (World.cell?_alloc_some _ _ _ (by rw [show w1.drew.cell? _ = _ from hr1' j x hj]; rfl)).trans (hr1' j x hj)) HL.out
  go_wp2_with fail
  have hrow := alloc_row w1.drew 37 L
  rw [HLe.out] at hrow
  have hownD : OwnA (w1.drew.alloc (.cells (b.map B8).toArray 37)) base 37 64 A c D[i].vers := OwnA.alloc (w := w1.drew) hown _
  have hbs : base ≤ (w1.drew.alloc (.cells (b.map B8).toArray 37)).heap.size := by
    have := h.bgs
    simp
    omega
  rw [← HLe.out] at hownD hbs
  rw [← HLe.out] at hrow
  have hBd : Below w1.heap.size w1 (w1.drew.alloc (.cells L.toArray 37)) := (Below.refl _ w1).drew.alloc (Nat.le_refl _) _
  go_region_law (first
    | (with_reducible refine wanted_step ?_ ?_
       · rfl
       refine wp_app_row (.tmp 17) (.tmp 19) 50 rfl Try.underlying50 info_block (by rfl) (by decide) base hbs hownD hb (by rw [← HLe.out]; exact hrow) 1 (by rfl) (by rfl) (by omega) (by omega) ?_
       intro zs A8 c8 w8 hzs hown8 hg8 hat8
       have hr8 : RowAt w8 gs 92 cs := (RowAt.step (w := w1.drew) hr (alloc_below _ _)).kept hg8 hng
       have hc8 := hr8.cellD _ _ hce
       have hf8 := hr8.free (i * 65 + 64)))
  all_goals
    have hfin := write_done h i hi b hb hB1 h1 hBd hBd.size hr hv hr8 hzs.out hown8 hg8 hat8
    clear hl1 hl2 hlit hc hc8 hf8
    go_wp2_with fail
    go_ret
    exact ⟨rfl, hfin⟩

theorem diskWrite_no {w : World} {base gd gs : Nat} {D : List Sct} {V : List (Option Addr × Nat)} (h : DiskAt w base gd gs D V) (i : Int) (hi : i < 0 ∨ (D.length : Int) ≤ i) (b : List UInt8) :
    Calls Try.prog 18 #[.pointer (some ⟨gd, 0, none⟩), .int .i64 i, vb b] w fun e w' => e = .returned (.int .i64 1) ∧ Below w.heap.size w w' := by
  unfold vb
  generalize b.map B8 = L
  go_enter Try.func18, Try.ntmps18
  go_wp2_with (refine wpList_box_row 5 rfl 37 _ rfl L rfl rfl ?_; intro w1 hr1 hs1 hB1; clear hs1)
  refine (diskSector_no (h.step hB1) i hi).mono ?_
  rintro e w' ⟨rfl, rfl⟩
  go_wp2_with fail
  go_ret
  exact ⟨rfl, hB1⟩
theorem diskWrite_nil (i : Int) (b : List UInt8) (w : World) :
    Calls Try.prog 18 #[.pointer none, .int .i64 i, vb b] w fun e w' => e = .returned (.int .i64 1) ∧ Below w.heap.size w w' := by
  unfold vb
  generalize b.map B8 = L
  go_enter Try.func18, Try.ntmps18
  go_wp2_with (refine wpList_box_row 5 rfl 37 _ rfl L rfl rfl ?_; intro w1 hr1 hs1 hB1; clear hs1)
  refine (diskSector_nil i w1).mono ?_
  rintro e w' ⟨rfl, rfl⟩
  go_wp2_with fail
  go_ret
  exact ⟨rfl, hB1⟩

theorem diskRead_calls {w : World} {base gd gs : Nat} {D : List Sct} {V : List (Option Addr × Nat)} (h : DiskAt w base gd gs D V) (i : Nat) (hi : i < D.length) (hm : D[i].vers.length ≤ 100000) :
    Calls Try.prog 22 #[.pointer (some ⟨gd, 0, none⟩), .int .i64 (i : Int)] w fun e w' => e = .returned (.tuple #[vb D[i].last, .int .i64 0]) ∧ Below w.heap.size w w' := by
  have hwf := h.wf D[i] (List.getElem_mem hi)
  have HL := Lib.hid (show (D[i].last.map B8).length = 64 by rw [List.length_map, Sct.last_wf hwf])
  have hone := bytes_oneCell D[i].last
  have hlast := fun w' (hb : Below w.heap.size w w') => diskLast_calls (h.step hb) i hi hm
  unfold vb at hlast ⊢
  generalize D[i].last.map B8 = L at *
  have Hlast := Lib.hid hlast
  clear hlast hm
  go_enter Try.func22, Try.ntmps22
  go_wp2_with (refine wpList_alloc_row 4 rfl 37 rfl _ rfl zero_block ?_; intro w1 hr1 hs1 hB1; clear hs1)
  refine (diskSector_calls (h.step hB1) i hi).mono ?_
  rintro e w' ⟨rfl, rfl⟩
  go_wp2_with fail
  refine (Hlast.out _ hB1).mono ?_
  rintro e w2 ⟨rfl, hB2⟩
  have hr2 := hr1.step hB2
  go_wp2_with (refine wpList_store_part 37 (.tmp 4) (.tmp 14) rfl hr2 0 L rfl rfl rfl (by rw [HL.out]; exact Try.sizeOf37) (by rw [HL.out]; decide) hone ?_
               intro w5 hr5 hs5 hg5
               rw [splice_all _ _ (by rw [HL.out]; rfl)] at hr5
               clear hs5)
  refine bodyPost_ret (results_row_tmp rfl _ hr5 rfl Try.underlying37 rfl (by rw [HL.out]; kernel_rfl)) rfl ?_
  have hB := bthen hB1 hB2
  exact ⟨rfl, hB.grown hg5 hB.size (fun j e => by cases e; exact Nat.le_refl _)⟩
theorem diskRead_out {w : World} {d : Value} {i : Int} (hsec : ∀ w', Below w.heap.size w w' → Calls Try.prog 43 #[d, .int .i64 i] w' fun e w'' => e = .returned (.pointer none) ∧ w' = w'') :
    Calls Try.prog 22 #[d, .int .i64 i] w fun e w' => e = .returned (.tuple #[vb (zeros 64), .int .i64 1]) ∧ Below w.heap.size w w' := by
  obtain ⟨Z, hZ⟩ : ∃ Z, Z = (zeros 64).map B8 := ⟨_, rfl⟩
  have HZ := Lib.hid (show Z.length = 64 by rw [hZ]; rfl)
  have HB := Lib.hid (show Try.prog.built 37 [] = some Z.toArray by rw [hZ]; kernel_rfl)
  have hone : ∀ v ∈ Z, v.oneCell' = true := by rw [hZ]; exact bytes_oneCell _
  unfold vb
  rw [← hZ]
  have Hsec := Lib.hid hsec
  clear hZ hsec
  go_enter Try.func22, Try.ntmps22
  go_wp2_with (refine wpList_alloc_row 4 rfl 37 rfl _ rfl zero_block ?_; intro w1 hr1 hs1 hB1; clear hs1)
  refine (Hsec.out _ hB1).mono ?_
  rintro e w' ⟨rfl, rfl⟩
  go_wp2_with (first
    | (refine wpList_build0 12 rfl 37 rfl Z rfl HB.out ?_)
    | (refine wpList_store_part 37 (.tmp 4) (.tmp 12) rfl hr1 0 Z rfl rfl rfl (by rw [HZ.out]; exact Try.sizeOf37) (by rw [HZ.out]; decide) hone ?_
       intro w5 hr5 hs5 hg5
       rw [splice_all _ _ (by rw [HZ.out]; rfl)] at hr5
       clear hs5))
  refine bodyPost_ret (results_row_tmp rfl _ hr5 rfl Try.underlying37 rfl (by rw [HZ.out]; kernel_rfl)) rfl ?_
  exact ⟨rfl, hB1.grown hg5 hB1.size (fun j e => by cases e; exact Nat.le_refl _)⟩
end Go.Proofs.Ythieeidbfdhaaaa
