/-
  Package disk: last, Read, settle, Write.
-/
import Derived.Test.YthieeidbfdhaaaaDisk
import Derived.Test.YthieeidbfdhaaaaPageCuts
namespace Go.Proofs.Ythieeidbfdhaaaa
open Go Go.RowKit Go.Shelf

/-- What lies at one sector of a disk. -/
theorem DiskAt.sector {w : World} {base gd gs : Nat} {D : List Sct} {V : List (Option Addr × Nat)} (h : DiskAt w base gd gs D V) (i : Nat) (hi : i < D.length) :
    ∃ cs A c, RowAt w gs 92 cs ∧ cs.length = D.length * 65 ∧ V[i]? = some (A, c) ∧ (cs.drop (i * 65)).take 64 = D[i].there.map B8 ∧ cs[i * 65 + 64]? = some (.slice A D[i].vers.length c) ∧ OwnA w base 37 64 A c D[i].vers ∧ D[i].wf := by
  obtain ⟨cs, hr, hl, hs⟩ := h.row
  obtain ⟨⟨A, c⟩, hv, hsc⟩ := hs i hi
  obtain ⟨v, hv', ho⟩ := h.own i hi
  rw [hv] at hv'
  cases hv'
  have hwf := h.wf D[i] (List.getElem_mem hi)
  exact ⟨cs, A, c, hr, hl, hv, hsc.there hwf.1, hsc.cell hwf.1, ho, hwf⟩

set_option maxHeartbeats 1000000 in
theorem diskLast_calls {w : World} {base gd gs : Nat} {D : List Sct} {V : List (Option Addr × Nat)} (h : DiskAt w base gd gs D V) (i : Nat) (hi : i < D.length) (hm : D[i].vers.length ≤ 100000) :
    Calls Try.prog 44 #[.pointer (some ⟨gs, i * 65, none⟩)] w fun e w' => e = .returned (vb D[i].last) ∧ Below w.heap.size w w' := by
  obtain ⟨cs, A, c, hr, _, _, hth, hce, hown, hwf⟩ := h.sector i hi
  generalize D[i] = s at *
  have hgs := hr.lt
  have Hth := Lib.hid hth
  have Hce := Lib.hid hce
  clear hth hce h
  rcases Nat.eq_zero_or_pos s.vers.length with h0 | h0
  · have hla : s.last = s.there := by
      unfold Sct.last
      rw [List.eq_nil_of_length_eq_zero h0]
      rfl
    have HL := Lib.hid (show (s.there.map B8).length = 64 by rw [List.length_map, hwf.1])
    have hone := bytes_oneCell s.there
    rw [hla]
    unfold vb
    generalize s.there.map B8 = L at *
    rw [h0] at Hce
    clear h0 hla hown
    go_enter Try.func44, Try.ntmps44
    go_wp2_with (first
      | (refine wpList_alloc_row 2 rfl 37 rfl _ rfl zero_block ?_
         intro w1 hr1 hs1 hB1
         have hr2 := hr.step hB1
         have hc := hr2.cellD _ _ Hce.out
         clear hs1)
      | (refine wpList_load_part 22 rfl 37 (.tmp 21) rfl hr2 (i * 65) 64 L rfl rfl Hth.out HL.out Try.isAgg37 Try.sizeOf37 ?_)
      | (refine wpList_store_part 37 (.tmp 2) (.tmp 22) rfl hr1 0 L rfl rfl rfl (by rw [HL.out]; exact Try.sizeOf37) (by rw [HL.out]; decide) hone ?_
         intro w5 hr5 hs5 hg5
         rw [splice_all _ _ (by rw [HL.out]; rfl)] at hr5
         clear hs5))
    refine bodyPost_ret (results_cell_row rfl _ _ _ _ _ _ _ rfl hr5 Try.underlying37 rfl (by rw [List.size_toArray, HL.out]; kernel_rfl)) rfl ?_
    exact ⟨rfl, hB1.grown hg5 hB1.size (fun j e => by cases e; exact Nat.le_refl _)⟩
  · obtain ⟨k, hk⟩ : ∃ k, s.vers.length = k + 1 := ⟨s.vers.length - 1, by omega⟩
    have hkl : k < s.vers.length := by omega
    have hla : s.last = s.vers[k] := by
      unfold Sct.last
      rw [List.getLast?_eq_getElem?, hk, Nat.add_sub_cancel, List.getElem?_eq_getElem hkl]
      rfl
    obtain ⟨ga, rfl, hga, hra⟩ := hown.range hwf.2 k hkl
    have hvl : s.vers[k].length = 64 := hwf.2 _ (List.getElem_mem hkl)
    have HL := Lib.hid (show (s.vers[k].map B8).length = 64 by rw [List.length_map, hvl])
    have hone := bytes_oneCell s.vers[k]
    rw [hla]
    unfold vb
    generalize s.vers[k].map B8 = L at *
    rw [hk] at Hce
    have Hra := Lib.hid hra
    clear hla hown hvl h0 hra
    have hkb : (k : Int) < 100000 := by omega
    have hk0 : (0 : Int) ≤ (k : Int) := by omega
    have hk1 : (k : Int) < (k : Int) + 1 := by omega
    go_enter Try.func44, Try.ntmps44
    go_wp2_with (first
      | (refine wpList_alloc_row 2 rfl 37 rfl _ rfl zero_block ?_
         intro w1 hr1 hs1 hB1
         have hr2 := hr.step hB1
         have hc := hr2.cellD _ _ Hce.out
         clear hs1)
      | (refine wpList_load_cells 18 rfl 37 (.tmp 17) rfl ⟨ga, k * 64, none⟩ L rfl rfl (fun j v hj => by rw [add_at]; exact (hB1.cell (p := ⟨ga, k * 64 + j, none⟩) hga).trans (Hra.out j v hj)) 64 HL.out Try.isAgg37 Try.sizeOf37 ?_)
      | (refine wpList_store_part 37 (.tmp 2) (.tmp 18) rfl hr1 0 L rfl rfl rfl (by rw [HL.out]; exact Try.sizeOf37) (by rw [HL.out]; decide) hone ?_
         intro w5 hr5 hs5 hg5
         rw [splice_all _ _ (by rw [HL.out]; rfl)] at hr5
         clear hs5))
    refine bodyPost_ret (results_cell_row rfl _ _ _ _ _ _ _ rfl hr5 Try.underlying37 rfl (by rw [List.size_toArray, HL.out]; kernel_rfl)) rfl ?_
    exact ⟨rfl, hB1.grown hg5 hB1.size (fun j e => by cases e; exact Nat.le_refl _)⟩

/-- A sector's there and versions are written: the disk behind. -/
theorem DiskAt.turned {w w' : World} {base gd gs : Nat} {D : List Sct} {V : List (Option Addr × Nat)} (h : DiskAt w base gd gs D V) (i : Nat) (hi : i < D.length) (s : Sct) (v : Option Addr × Nat) (hs : s.wf) (cs' : List Value) (hr' : RowAt w' gs 92 cs') (hl' : cs'.length = D.length * 65)
    (hat : SctAt cs' i (sctCells s v)) (hother : ∀ j u, j ≠ i → (hj : j < D.length) → V[j]? = some u → SctAt cs' j (sctCells D[j] u))
    (hown : OwnA w' base 37 64 v.1 v.2 s.vers) (hkeep : ∀ k, k < w.heap.size → k ≠ gs → (∀ A c, V[i]? = some (A, c) → A.map (·.block) ≠ some k) → w'.heap[k]? = w.heap[k]?)
    (hnew : ∀ k, v.1.map (·.block) = some k → (∃ u, V[i]? = some u ∧ u.1.map (·.block) = some k) ∨ w.heap.size ≤ k) : DiskAt w' base gd gs (D.set i s) (V.set i v) := by
  have hlt := h.lt
  have hgd : w'.heap[gd]? = w.heap[gd]? := by
    refine hkeep gd hlt.1 (fun e => ?_) (fun A c hV e => ?_)
    · obtain ⟨cs, hr, _⟩ := h.row
      have h1 := h.head
      rw [← e] at hr
      unfold RowAt at hr h1
      rw [hr] at h1
      simp at h1
    · obtain ⟨u, hu, ho⟩ := h.own i hi
      rw [hV] at hu
      cases hu
      rcases ho.2 with ⟨hv, _⟩ | ⟨g, cap, cur, hv, _, hg, _⟩
      · injection hv with hA _ _
        rw [show A = none from hA] at e
        cases e
      · injection hv with hA _ _
        rw [show A = some ⟨g, 0, none⟩ from hA] at e
        obtain rfl : g = gd := by simpa using e
        have h1 := h.head
        unfold RowAt at h1
        rw [hg] at h1
        simp at h1
  refine ⟨?_, h.bgd, h.bgs, ⟨cs', hr', by rw [List.length_set]; exact hl', fun j hj => ?_⟩, ?_, by rw [List.length_set, List.length_set, h.len], fun j hj => ?_, ?_⟩
  · rw [List.length_set]
    exact hgd.trans h.head
  · rw [List.length_set] at hj
    by_cases hji : j = i
    · subst hji
      exact ⟨v, by rw [List.getElem?_set_self (by rw [h.len]; exact hi)], by rw [List.getElem_set_self]; exact hat⟩
    · obtain ⟨cs, _, _, hall⟩ := h.row
      obtain ⟨u, hu, _⟩ := hall j hj
      exact ⟨u, by rw [List.getElem?_set_ne (fun e => hji e.symm)]; exact hu, by rw [List.getElem_set_ne (fun e => hji e.symm)]; exact hother j u hji hj hu⟩
  · intro t ht
    rcases List.mem_or_eq_of_mem_set ht with ht | rfl
    · exact h.wf t ht
    · exact hs
  · rw [List.length_set] at hj
    by_cases hji : j = i
    · subst hji
      exact ⟨v, by rw [List.getElem?_set_self (by rw [h.len]; exact hi)], by rw [List.getElem_set_self]; exact hown⟩
    · obtain ⟨u, hu, ho⟩ := h.own j hj
      refine ⟨u, by rw [List.getElem?_set_ne (fun e => hji e.symm)]; exact hu, ?_⟩
      rw [List.getElem_set_ne (fun e => hji e.symm)]
      refine ⟨ho.1, ?_⟩
      rcases ho.2 with hn | ⟨g, cap, cur, hv, hbg, hg, rest⟩
      · exact .inl hn
      · refine .inr ⟨g, cap, cur, hv, hbg, ?_, rest⟩
        have hA : u.1 = some ⟨g, 0, none⟩ := by injection hv
        rw [hkeep g (Array.getElem?_eq_some_iff.1 hg).1 (fun e => ?_) (fun A c hV e => ?_)]
        · exact hg
        · obtain ⟨cs, hr, _⟩ := h.row
          rw [← e] at hr
          unfold RowAt at hr
          rw [hg] at hr
          simp at hr
        · exact h.apart i j (A, c) u (fun e => hji e.symm) hV hu g e (by rw [hA]; rfl)
  · intro a b u x hab hu hx k hk
    by_cases ha : a = i
    · subst ha
      rw [List.getElem?_set_self (by rw [h.len]; exact hi)] at hu
      cases hu
      rw [List.getElem?_set_ne hab] at hx
      intro e
      rcases hnew k hk with ⟨u, hu, huk⟩ | hge
      · exact h.apart a b u x hab hu hx k huk e
      · have := (hlt.2 k (.inr ⟨x, List.mem_of_getElem? hx, e⟩)).2
        omega
    · rw [List.getElem?_set_ne (fun e => ha e.symm)] at hu
      by_cases hb : b = i
      · subst hb
        rw [List.getElem?_set_self (by rw [h.len]; exact hi)] at hx
        cases hx
        intro e
        rcases hnew k e with ⟨x, hx, hxk⟩ | hge
        · exact h.apart a b u x hab hu hx k hk hxk
        · have := (hlt.2 k (.inr ⟨u, List.mem_of_getElem? hu, hk⟩)).2
          omega
      · rw [List.getElem?_set_ne (fun e => hb e.symm)] at hx
        exact h.apart a b u x hab hu hx k hk

end Go.Proofs.Ythieeidbfdhaaaa
