/-
  revetmentlaw03.DiskPlays returns true: the walk.
-/
import Derived.Test.YthieeidbfdhaaaaRefDisk
namespace Go.Proofs.Ythieeidbfdhaaaa
open Go Go.RowKit

theorem exec_neq_int {P : Program} {w : World} {o : Oper} {a : Act} (t t' : TypeId) (x y : Operand) (ho : o.op = .binOp .neq t x y t') (i : Nat) (hx : a.eval x = .int .i64 (i : Int)) (hy : a.eval y = .int .i64 (i : Int)) :
    (execOp a.eval o).run P w = .ok (.value (.bool false)) w := by
  have h : (!((i : Int) == (i : Int))) = false := by rw [beq_self_eq_true]; rfl
  simp only [execOp, ho, hx, hy]
  show Result.ok (Next.value (.bool (!((i : Int) == (i : Int))))) w = _
  rw [h]
theorem zero_step (w : World) : (zeroValue 34).run Try.prog w = .ok (.agg ([.int .i64 0, .int .i64 0, .int .u8 0, .slice none 0 0] : List Value).toArray) w := by kernel_rfl
theorem step_one (x : DStep) : ∀ v ∈ x.val, v.oneCell' = true := by
  intro v hv
  simp only [DStep.val, List.mem_cons, List.not_mem_nil, or_false] at hv
  rcases hv with rfl | rfl | rfl | rfl <;> rfl

attribute [local go_sem ↓ high] exec_lblock
attribute [local go_sem ↓] Go.wp_at_zero Go.wp_at_succ

set_option maxRecDepth 100000 in
set_option maxHeartbeats 16000000 in
theorem diskPlays_main (n : Nat) (A : Option Addr) (cap : Nat) (l : List DStep) (w : World) (hn1 : 1 ≤ n) (hn2 : n ≤ 100) (hst : DStepsAt w w.heap.size A l) (hf : fairB l = true) :
    Calls Try.prog 3 #[.int .i64 (n : Int), .slice A l.length cap] w fun e w' => e = .returned (.bool true) ∧ Below w.heap.size w w' := by
  have hlen := fairB_len hf
  have hpk := fairB_pick hf
  have hd1 : decide ((100 : Int) < (n : Int)) = false := decide_eq_false (by omega)
  have hd2 : decide (100 < n) = false := decide_eq_false (by omega)
  go_enter Try.func3, Try.ntmps3
  go_wp2_with fail
  refine (fair_b A cap l _ _ hst (by omega) true hf).mono ?_
  rintro e w2 ⟨rfl, rfl⟩
  clear hf
  go_wp2_with fail
  refine (live_new (brefl w) n hn1 (by omega) (F := []) (by simp)).mono ?_
  rintro e w1 ⟨⟨gd, rfl, hv1⟩, hB1⟩
  go_wp2_with fail
  refine (rnew_calls n hn1 (by omega) w1).mono ?_
  rintro e w2 ⟨⟨gq, gS, gV, rfl, hr2⟩, hB2⟩
  have hT0 : Two w w2 gd gq gS gV (List.replicate n Sct.zero) (List.replicate n Sct.zero) (List.replicate n (none, 0)) [] := by
    have hlo := hr2.low
    have hb1 := hB1.size
    refine ⟨?_, ⟨hr2.head, hr2.rowS, hr2.rowV, hr2.wf, hr2.len, ⟨by omega, by omega, by omega⟩, hr2.ne, fun i hi => ?_⟩⟩
    · have h1 := hv1.step hB2
      obtain ⟨base, gs, V, h2, h3, h4, h5⟩ := hv1
      have hlt := h3.lt
      refine ⟨base, gs, V, h2, h3.step hB2, bthen h4 hB2, fun b hb => ?_⟩
      have hb' : w1.heap.size ≤ b ∧ b < w2.heap.size := by
        simp only [List.nil_append, rb, List.mem_cons, List.mem_filterMap] at hb
        rcases hb with rfl | rfl | rfl | ⟨v, hv, hk⟩
        · exact ⟨hlo.1, hr2.head.lt⟩
        · exact ⟨hlo.2.1, hr2.rowS.lt⟩
        · exact ⟨hlo.2.2, hr2.rowV.lt⟩
        · rw [(List.mem_replicate.1 hv).2] at hk
          cases hk
      exact ⟨hb'.2, by omega, fun ho => by have := (hlt.2 b ho).2; omega⟩
    · obtain ⟨v, hv, hat⟩ := hr2.vers i hi
      refine ⟨v, hv, hat.imp id ?_⟩
      rintro ⟨h0, b, hA, h1, h2⟩
      exact ⟨h0, b, hA, by omega, h2⟩
  clear hv1 hr2 hB1 hB2 hd1 hd2
  go_wp2_with fail
  go_loopw [9] (fun i wr => ∃ (j : Nat) (D : List Sct) (V : List (Option Addr × Nat)), j ≤ l.length ∧ i = .int .i64 (j : Int) ∧ D.length = n ∧ (∀ k (h : k < D.length), D[k].vers.length ≤ j) ∧ Two w wr gd gq gS gV D D V []) (fun i _ => l.length - (intOf i).toNat)
  case atStart => exact ⟨0, _, _, Nat.zero_le _, rfl, List.length_replicate, fun k h => by rw [List.getElem_replicate]; exact Nat.zero_le _, hT0⟩
  clear hT0
  case round =>
  obtain ⟨j, D, V, hj, rfl, hDn, hvs, hT⟩ := hrel
  have hD1 : D.length ≤ 4096 := by omega
  have hD2 : ∀ i (h : i < D.length), D[i].vers.length ≤ 100000 := fun i h => by have := hvs i h; omega
  by_cases hlt : j < l.length
  · obtain ⟨b, o, rfl, hb1, hc⟩ := hst.1.resolve_left (fun e => by rw [e] at hlt; simp at hlt)
    have hok := hst.2 l[j] (List.getElem_mem hlt)
    have hpx := hpk l[j] (List.getElem_mem hlt)
    have hcx := fun i v (h : l[j].val[i]? = some v) => hc j hlt i v h
    generalize l[j] = x at hok hpx hcx
    have hpA := hok.bytes
    have hpl := hok.len
    have hpm := hok.most
    have hp1 := hok.p1
    have hp2 := hok.p2
    obtain ⟨X4, hX4⟩ : ∃ X4, X4 = x.val := ⟨_, rfl⟩
    have HX := Lib.hid hX4
    have HX4 := Lib.hid (show X4.length = 4 by rw [hX4]; rfl)
    have HXo := Lib.hid (show ∀ v ∈ X4, v.oneCell' = true by rw [hX4]; exact step_one x)
    have HXc := Lib.hid (show ∀ i v, X4[i]? = some v → wr.cell? ((⟨b, o + j * 4, none⟩ : Addr).add i) = some v from fun i v h => by
      rw [add_at, hT.live.below.cell (p := ⟨b, o + j * 4 + i, none⟩) hb1]
      rw [hX4] at h
      exact hcx i v h)
    have hk0 : (0 : Int) ≤ (j : Int) := by omega
    have hk1 : (j : Int) < (l.length : Int) := by omega
    have hd1 : decide (j < l.length) = true := decide_eq_true hlt
    replace hDn := Lib.hid hDn
    have hwsz := hT.live.below.size
    have hTne := hT.ne
    clear hc hcx hst hok hX4 hpk
    go_upto_region 11 with (first
      | (refine wpList_load_cells 62 rfl 34 (.tmp 61) rfl ⟨b, o + j * 4, none⟩ X4 rfl rfl HXc.out 4 HX4.out Try.isAgg34 Try.sizeOf34 ?_)
      | (refine wpList_alloc_row 10 rfl 34 rfl _ rfl zero_step ?_; intro w3 hr3 hs3 hB3; clear hs3)
      | (refine wpList_store_part 34 (.tmp 10) (.tmp 62) rfl hr3 0 X4 rfl rfl rfl (by rw [HX4.out]; exact Try.sizeOf34) (by rw [HX4.out]; decide) HXo.out ?_
         intro w4 hrx hs4 hg4
         clear hs4
         rw [splice_all _ _ (by rw [HX4.out]; rfl)] at hrx))
    have hB4 : Below wr.heap.size wr w4 := hB3.grown hg4 hB3.size (fun j e => by cases e; exact Nat.le_refl _)
    have hT4 := hT.add hB4 wr.heap.size (Nat.le_refl _) hrx.lt
    obtain ⟨bx, hbx⟩ : ∃ bx, bx = wr.heap.size := ⟨_, rfl⟩
    rw [← hbx] at hrx hT4 ⊢
    have hbS : bx ≠ gS := by omega
    have hbV : bx ≠ gV := by omega
    have Hc0 := Lib.hid (show ∀ W, RowAt W bx 34 X4 → W.cell? ⟨bx, 0, none⟩ = some (.int .i64 x.kind) from fun W h => h.cellD 0 _ (by rw [HX.out]; rfl))
    have Hc1 := Lib.hid (show ∀ W, RowAt W bx 34 X4 → W.cell? ⟨bx, 1, none⟩ = some (.int .i64 x.place) from fun W h => h.cellD 1 _ (by rw [HX.out]; rfl))
    have Hc2 := Lib.hid (show ∀ W, RowAt W bx 34 X4 → W.cell? ⟨bx, 2, none⟩ = some (B8 x.v) from fun W h => h.cellD 2 _ (by rw [HX.out]; rfl))
    have Hc3 := Lib.hid (show ∀ W, RowAt W bx 34 X4 → W.cell? ⟨bx, 3, none⟩ = some (.slice x.A x.pick.length x.cap) from fun W h => h.cellD 3 _ (by rw [HX.out]; rfl))
    have hc0 := Hc0.out w4 hrx
    clear hr3 hB3 hg4 hT hbx
    by_cases h0 : x.kind = 0
    · have hd2 : (x.kind == 0) = true := by simpa using h0
      rw [h0] at hc0
      clear h0
      obtain ⟨L, hL⟩ : ∃ L, L = (fillB x.v).map B8 := ⟨_, rfl⟩
      have HL := Lib.hid hL
      clear hL
      by_cases hin : 0 ≤ x.place ∧ x.place < (D.length : Int)
      · obtain ⟨i, hi⟩ : ∃ i : Nat, x.place = (i : Int) := ⟨x.place.toNat, by omega⟩
        have hiD : i < D.length := by omega
        have hpi := Lib.hid hi
        obtain ⟨D', hD'⟩ : ∃ D', D' = D.set i ⟨D[i].there, D[i].vers ++ [fillB x.v]⟩ := ⟨_, rfl⟩
        have hDl9 : D'.length = n := by rw [hD', List.length_set, hDn.out]
        have hvs9 : ∀ k (h : k < D'.length), D'[k].vers.length ≤ j + 1 := by
          intro k h
          have hs := List.getElem_mem h
          generalize D'[k] = s at hs
          rw [hD'] at hs
          rcases List.mem_or_eq_of_mem_set hs with hs | rfl
          · obtain ⟨m, hm, rfl⟩ := List.getElem_of_mem hs
            exact Nat.le_succ_of_le (hvs m hm)
          · have := hvs i hiD
            simp only [List.length_append, List.length_singleton]
            omega
        replace hD' := Lib.hid hD'
        clear hin hi
        go_wp2_with fail
        clear hc0
        -- <heldA
        have z0 : RowAt w4.drew bx 34 X4 := hrx
        refine wp_region_H (fun W => RowAt W bx 34 X4) 8 rfl (by kernel_rfl) ?_
        refine wh_take 0 (.pointer (some ⟨gd, 0, none⟩)) rfl (by kernel_rfl) (by kernel_rfl) (fun _ _ _ h => h) (by kernel_rfl) (fun _ _ => by kernel_rfl) ?_
        refine wh_take 1 (.pointer (some ⟨bx, 1, none⟩)) rfl (by kernel_rfl) (by kernel_rfl) (fun _ _ _ h => h) (by kernel_rfl) (fun _ _ => by kernel_rfl) ?_
        refine wh_take 2 (.int .i64 x.place) rfl (by kernel_rfl) (by kernel_rfl) (fun _ _ _ h => h) (by kernel_rfl) (fun W h => exec_load_cell 3 (.tmp 68) rfl ⟨bx, 1, none⟩ _ (by kernel_rfl) (Hc1.out W h) Try.isAgg3) ?_
        refine wh_take 3 (.pointer (some ⟨bx, 2, none⟩)) rfl (by kernel_rfl) (by kernel_rfl) (fun _ _ _ h => h) (by kernel_rfl) (fun _ _ => by kernel_rfl) ?_
        refine wh_take 4 (B8 x.v) rfl (by kernel_rfl) (by kernel_rfl) (fun _ _ _ h => h) (by kernel_rfl) (fun W h => exec_load_cell 5 (.tmp 70) rfl ⟨bx, 2, none⟩ _ (by kernel_rfl) (Hc2.out W h) Try.isAgg5) ?_
        refine wh_call 5 19 #[B8 x.v] rfl (by kernel_rfl) (by kernel_rfl) z0 (fun _ => by kernel_rfl) ?_
        refine (fill_L x.v L HL _).mono ?_
        rintro e x1 ⟨rfl, hx1⟩
        have z1 := RowAt.step (w := w4.drew) z0 hx1
        refine ⟨_, rfl, ?_⟩
        refine wh_call 6 18 #[.pointer (some ⟨gd, 0, none⟩), .int .i64 x.place, .agg L.toArray] rfl (by kernel_rfl) (by kernel_rfl) z1 (fun _ => by kernel_rfl) ?_
        rw [hpi.out]
        refine (live_write_L ((hT4.step (brefl w4).drew).step hx1).live i hiD (hD2 i hiD) (fillB x.v) (fillB_length _) D' hD'.out L HL).mono ?_
        rintro e w5 ⟨rfl, hv5, hk5⟩
        have hT5 := ((hT4.step (brefl w4).drew).step hx1).prog hv5 hk5
        have z2 := hk5.row (List.mem_append_left _ (by simp)) z1
        refine ⟨.int .i64 0, rfl, ?_⟩
        refine wh_take 7 (.int .i64 0) rfl (by kernel_rfl) (by kernel_rfl) (fun _ _ _ h => h) (by kernel_rfl) (fun _ _ => by kernel_rfl) ?_
        refine wh_done (by kernel_rfl) z2 ?_
        simp only [Act.put, List.setIfInBounds_toArray, List.set_cons_zero, List.set_cons_succ]
        -- heldA>
        have hc1 := Hc1.out w5 z2
        rw [hpi.out] at hc1
        clear hx1 z0 z1 hv5 hk5 hT4 hrx
        go_wp2_with fail
        refine (rhas_yes hT5.ref i hiD).mono ?_
        rintro e y1 ⟨rfl, rfl⟩
        go_wp2_with fail
        refine (rhas_yes hT5.ref i hiD).mono ?_
        rintro e y1 ⟨rfl, rfl⟩
        go_wp2_with fail
        clear hc1
        -- <heldC
        have y0 : RowAt w5.drew bx 34 X4 := z2
        refine wp_region_H (fun W => RowAt W bx 34 X4) 7 rfl (by kernel_rfl) ?_
        refine wh_take 0 (.pointer (some ⟨gq, 0, none⟩)) rfl (by kernel_rfl) (by kernel_rfl) (fun _ _ _ h => h) (by kernel_rfl) (fun _ _ => by kernel_rfl) ?_
        refine wh_take 1 (.pointer (some ⟨bx, 1, none⟩)) rfl (by kernel_rfl) (by kernel_rfl) (fun _ _ _ h => h) (by kernel_rfl) (fun _ _ => by kernel_rfl) ?_
        refine wh_take 2 (.int .i64 x.place) rfl (by kernel_rfl) (by kernel_rfl) (fun _ _ _ h => h) (by kernel_rfl) (fun W h => exec_load_cell 3 (.tmp 94) rfl ⟨bx, 1, none⟩ _ (by kernel_rfl) (Hc1.out W h) Try.isAgg3) ?_
        refine wh_take 3 (.pointer (some ⟨bx, 2, none⟩)) rfl (by kernel_rfl) (by kernel_rfl) (fun _ _ _ h => h) (by kernel_rfl) (fun _ _ => by kernel_rfl) ?_
        refine wh_take 4 (B8 x.v) rfl (by kernel_rfl) (by kernel_rfl) (fun _ _ _ h => h) (by kernel_rfl) (fun W h => exec_load_cell 5 (.tmp 96) rfl ⟨bx, 2, none⟩ _ (by kernel_rfl) (Hc2.out W h) Try.isAgg5) ?_
        refine wh_call 5 19 #[B8 x.v] rfl (by kernel_rfl) (by kernel_rfl) y0 (fun _ => by kernel_rfl) ?_
        refine (fill_L x.v L HL _).mono ?_
        rintro e x2 ⟨rfl, hx2⟩
        have y1 := RowAt.step (w := w5.drew) y0 hx2
        have hT6 := (hT5.step (brefl w5).drew).step hx2
        refine ⟨_, rfl, ?_⟩
        refine wh_call 6 21 #[.pointer (some ⟨gq, 0, none⟩), .int .i64 x.place, .agg L.toArray] rfl (by kernel_rfl) (by kernel_rfl) y1 (fun _ => by kernel_rfl) ?_
        rw [hpi.out]
        refine (rwrite_calls hT6.ref i hiD (hD2 i hiD) (fillB x.v) (fillB_length _) L HL).mono ?_
        rintro e W9 ⟨⟨v9, rfl⟩, ⟨u9, hr6, hu9⟩, hs6⟩
        rw [← hD'.out] at hr6
        have hT9 := hT6.refs hr6 (RNew.set i u9 hu9) hs6
        have y2 := y1.rstep hs6 hbS hbV
        refine ⟨v9, rfl, ?_⟩
        refine wh_done (by kernel_rfl) y2 ?_
        simp only [Act.put, List.setIfInBounds_toArray, List.set_cons_zero, List.set_cons_succ]
        -- heldC>
        obtain ⟨D9, hD9⟩ : ∃ D9, D9 = D' := ⟨_, rfl⟩
        obtain ⟨V9, hV9⟩ : ∃ V9, V9 = V.set i u9 := ⟨_, rfl⟩
        rw [← hD9, ← hV9] at hT9
        subst hD9
        clear hV9 hr6 hu9 hs6 hT5 hT6 y0 y1 y2 z2 hx2 hD1 hD2 hvs
        go_wp2_with fail
        -- <tail4
        have hD91 : D9.length ≤ 4096 := by omega
        have hD92 : ∀ i (h : i < D9.length), D9[i].vers.length ≤ 100000 := fun i h => by have := hvs9 i h; omega
        have hH9 := hT9.ref.head
        have d9 : Since W9 W9.drew := (Since.refl _).drew
        refine wp_region_H (Since W9) 16 rfl (by kernel_rfl) ?_
        refine wh_take 0 (.pointer (some ⟨gd, 0, none⟩)) rfl (by kernel_rfl) (by kernel_rfl) (fun _ _ _ h => h) (by kernel_rfl) (fun _ _ => by kernel_rfl) ?_
        refine wh_take 2 (.pointer (some ⟨gq, 0, none⟩)) rfl (by kernel_rfl) (by kernel_rfl) (fun _ _ _ h => h) (by kernel_rfl) (fun _ _ => by kernel_rfl) ?_
        refine wh_call 1 29 #[.pointer (some ⟨gd, 0, none⟩)] rfl (by kernel_rfl) (by kernel_rfl) d9 (fun _ => by kernel_rfl) ?_
        refine (live_loose ((hT9.step d9).live) hD91).mono ?_
        rintro e x7 ⟨⟨ys7, A7, c7, rfl, hys7, own7⟩, hx7⟩
        rw [looseAll_val] at hys7
        have s7 : Since W9 x7 := d9.then_ hx7
        refine ⟨_, rfl, ?_⟩
        refine wh_call 3 30 #[.pointer (some ⟨gq, 0, none⟩)] rfl (by kernel_rfl) (by kernel_rfl) s7 (fun _ => by kernel_rfl) ?_
        refine (rloose_calls ((hT9.step s7).ref) hD91 hD92).mono ?_
        rintro e x8 ⟨⟨ys8, A8, c8, rfl, hys8, own8⟩, hx8⟩
        have s8 : Since W9 x8 := s7.then_ hx8
        have hyy : ys7 = ys8 := hys7.trans hys8.symm
        refine ⟨_, rfl, ?_⟩
        refine wh_call 4 28 #[.slice A7 ys7.length c7, .slice A8 ys8.length c8] rfl (by kernel_rfl) (by kernel_rfl) s8 (fun _ => by kernel_rfl) ?_
        refine (ints_calls A7 A8 c7 c8 ys7 ys8 x8 (own7.below hx8 (Nat.le_refl _)).ints own8.ints (by rw [hys7]; have := looseFrom_le D9 0; unfold looseN; omega)).mono ?_
        rintro e x9 ⟨rfl, hx9⟩
        have hyt : (ys7 == ys8) = true := by rw [hyy, beq_self_eq_true]
        have s9 : Since W9 x9 := s8.then_ hx9
        refine ⟨.bool true, by rw [hyt], ?_⟩
        refine wh_take 5 (.bool false) rfl (by kernel_rfl) (by kernel_rfl) (fun _ _ _ h => h) (by kernel_rfl) (fun _ _ => by kernel_rfl) ?_
        refine wh_take 6 (.bool false) rfl (by kernel_rfl) (by kernel_rfl) (fun _ _ _ h => h) (by kernel_rfl) (fun _ _ => by kernel_rfl) ?_
        refine wh_take 7 (.pointer (some ⟨gd, 0, none⟩)) rfl (by kernel_rfl) (by kernel_rfl) (fun _ _ _ h => h) (by kernel_rfl) (fun _ _ => by kernel_rfl) ?_
        refine wh_take 9 (.pointer (some ⟨gq, 0, none⟩)) rfl (by kernel_rfl) (by kernel_rfl) (fun _ _ _ h => h) (by kernel_rfl) (fun _ _ => by kernel_rfl) ?_
        refine wh_take 10 (.pointer (some ⟨gq, 0, none⟩)) rfl (by kernel_rfl) (by kernel_rfl) (fun _ _ _ h => h) (by kernel_rfl) (fun _ _ => by kernel_rfl) ?_
        refine wh_take 11 (.pointer (some ⟨gq, 0, none⟩)) rfl (by kernel_rfl) (by kernel_rfl) (fun _ _ _ h => h) (by kernel_rfl) (fun _ _ => by kernel_rfl) ?_
        refine wh_take 12 (.slice (some ⟨gS, 0, none⟩) D9.length D9.length) rfl (by kernel_rfl) (by kernel_rfl) (fun _ _ _ h => h) (by kernel_rfl) (fun W h => exec_load_cell 50 (.tmp 171) rfl ⟨gq, 0, none⟩ _ (by kernel_rfl) ((hH9.step h).cellD 0 _ rfl) Try.isAgg50) ?_
        refine wh_take 13 (.int .i64 (D9.length : Nat)) rfl (by kernel_rfl) (by kernel_rfl) (fun _ _ _ h => h) (by kernel_rfl) (fun _ _ => by kernel_rfl) ?_
        refine wh_call 8 31 #[.pointer (some ⟨gd, 0, none⟩)] rfl (by kernel_rfl) (by kernel_rfl) s9 (fun _ => by kernel_rfl) ?_
        refine (live_len ((hT9.step s9).live)).mono ?_
        rintro e x10 ⟨rfl, rfl⟩
        refine ⟨_, rfl, ?_⟩
        refine wh_take 14 (.bool false) rfl (by kernel_rfl) (by kernel_rfl) (fun _ _ _ h => h) (by kernel_rfl) (fun _ _ => exec_neq_int 3 3 (.tmp 168) (.tmp 173) rfl D9.length (by kernel_rfl) (by kernel_rfl)) ?_
        refine wh_take 15 (.bool false) rfl (by kernel_rfl) (by kernel_rfl) (fun _ _ _ h => h) (by kernel_rfl) (fun _ _ => by kernel_rfl) ?_
        refine wh_done (by kernel_rfl) s9 ?_
        simp only [Act.put, List.setIfInBounds_toArray, List.set_cons_zero, List.set_cons_succ]
        have hT10 := (hT9.step s9).drop
        clear hT9 hH9 own7 own8 d9 s7 s8 hD91 hD92
        go_wp2_with fail
        go_roundw
        case rel => exact ⟨j + 1, D9, V9, by omega, by go_num, hDl9, hvs9, hT10⟩
        case measure => simp [intOf]; omega
        -- tail4>
      · have hout : x.place < 0 ∨ (D.length : Int) ≤ x.place := by omega
        have hout' := Lib.hid hout
        clear hin
        go_wp2_with fail
        clear hc0
        -- <heldB
        have z0 : RowAt w4.drew bx 34 X4 := hrx
        refine wp_region_H (fun W => RowAt W bx 34 X4) 8 rfl (by kernel_rfl) ?_
        refine wh_take 0 (.pointer (some ⟨gd, 0, none⟩)) rfl (by kernel_rfl) (by kernel_rfl) (fun _ _ _ h => h) (by kernel_rfl) (fun _ _ => by kernel_rfl) ?_
        refine wh_take 1 (.pointer (some ⟨bx, 1, none⟩)) rfl (by kernel_rfl) (by kernel_rfl) (fun _ _ _ h => h) (by kernel_rfl) (fun _ _ => by kernel_rfl) ?_
        refine wh_take 2 (.int .i64 x.place) rfl (by kernel_rfl) (by kernel_rfl) (fun _ _ _ h => h) (by kernel_rfl) (fun W h => exec_load_cell 3 (.tmp 68) rfl ⟨bx, 1, none⟩ _ (by kernel_rfl) (Hc1.out W h) Try.isAgg3) ?_
        refine wh_take 3 (.pointer (some ⟨bx, 2, none⟩)) rfl (by kernel_rfl) (by kernel_rfl) (fun _ _ _ h => h) (by kernel_rfl) (fun _ _ => by kernel_rfl) ?_
        refine wh_take 4 (B8 x.v) rfl (by kernel_rfl) (by kernel_rfl) (fun _ _ _ h => h) (by kernel_rfl) (fun W h => exec_load_cell 5 (.tmp 70) rfl ⟨bx, 2, none⟩ _ (by kernel_rfl) (Hc2.out W h) Try.isAgg5) ?_
        refine wh_call 5 19 #[B8 x.v] rfl (by kernel_rfl) (by kernel_rfl) z0 (fun _ => by kernel_rfl) ?_
        refine (fill_L x.v L HL _).mono ?_
        rintro e x1 ⟨rfl, hx1⟩
        have z1 := RowAt.step (w := w4.drew) z0 hx1
        refine ⟨_, rfl, ?_⟩
        refine wh_call 6 18 #[.pointer (some ⟨gd, 0, none⟩), .int .i64 x.place, .agg L.toArray] rfl (by kernel_rfl) (by kernel_rfl) z1 (fun _ => by kernel_rfl) ?_
        rw [HL.out]
        refine (live_write_no ((hT4.step (brefl w4).drew).step hx1).live x.place hout (fillB x.v)).mono ?_
        rintro e w5 ⟨rfl, hx2⟩
        have hT5 := ((hT4.step (brefl w4).drew).step hx1).step hx2
        have z2 := z1.step hx2
        refine ⟨.int .i64 1, rfl, ?_⟩
        refine wh_take 7 (.int .i64 1) rfl (by kernel_rfl) (by kernel_rfl) (fun _ _ _ h => h) (by kernel_rfl) (fun _ _ => by kernel_rfl) ?_
        refine wh_done (by kernel_rfl) z2 ?_
        simp only [Act.put, List.setIfInBounds_toArray, List.set_cons_zero, List.set_cons_succ]
        -- heldB>
        have hc1 := Hc1.out w5 z2
        clear hx1 z0 z1 hx2 hT4 hrx hout
        go_wp2_with fail
        refine (rhas_no hT5.ref x.place hout'.out).mono ?_
        rintro e y1 ⟨rfl, rfl⟩
        go_wp2_with fail
        refine (rhas_no hT5.ref x.place hout'.out).mono ?_
        rintro e y1 ⟨rfl, rfl⟩
        go_wp2_with fail
        obtain ⟨W9, hW9⟩ : ∃ W9, W9 = w5 := ⟨_, rfl⟩
        rw [← hW9] at hT5 ⊢
        have hT9 := hT5
        have hDl9 := hDn.out
        have hvs9 : ∀ k (h : k < D.length), D[k].vers.length ≤ j + 1 := fun k h => Nat.le_succ_of_le (hvs k h)
        clear hW9 hT5 hc1 z2 hD1 hD2 hvs
        obtain ⟨D9, hD9⟩ : ∃ D9, D9 = D := ⟨_, rfl⟩
        obtain ⟨V9, hV9⟩ : ∃ V9, V9 = V := ⟨_, rfl⟩
        subst hD9 hV9
        -- <tail5
        have hD91 : D9.length ≤ 4096 := by omega
        have hD92 : ∀ i (h : i < D9.length), D9[i].vers.length ≤ 100000 := fun i h => by have := hvs9 i h; omega
        have hH9 := hT9.ref.head
        have d9 : Since W9 W9.drew := (Since.refl _).drew
        refine wp_region_H (Since W9) 16 rfl (by kernel_rfl) ?_
        refine wh_take 0 (.pointer (some ⟨gd, 0, none⟩)) rfl (by kernel_rfl) (by kernel_rfl) (fun _ _ _ h => h) (by kernel_rfl) (fun _ _ => by kernel_rfl) ?_
        refine wh_take 2 (.pointer (some ⟨gq, 0, none⟩)) rfl (by kernel_rfl) (by kernel_rfl) (fun _ _ _ h => h) (by kernel_rfl) (fun _ _ => by kernel_rfl) ?_
        refine wh_call 1 29 #[.pointer (some ⟨gd, 0, none⟩)] rfl (by kernel_rfl) (by kernel_rfl) d9 (fun _ => by kernel_rfl) ?_
        refine (live_loose ((hT9.step d9).live) hD91).mono ?_
        rintro e x7 ⟨⟨ys7, A7, c7, rfl, hys7, own7⟩, hx7⟩
        rw [looseAll_val] at hys7
        have s7 : Since W9 x7 := d9.then_ hx7
        refine ⟨_, rfl, ?_⟩
        refine wh_call 3 30 #[.pointer (some ⟨gq, 0, none⟩)] rfl (by kernel_rfl) (by kernel_rfl) s7 (fun _ => by kernel_rfl) ?_
        refine (rloose_calls ((hT9.step s7).ref) hD91 hD92).mono ?_
        rintro e x8 ⟨⟨ys8, A8, c8, rfl, hys8, own8⟩, hx8⟩
        have s8 : Since W9 x8 := s7.then_ hx8
        have hyy : ys7 = ys8 := hys7.trans hys8.symm
        refine ⟨_, rfl, ?_⟩
        refine wh_call 4 28 #[.slice A7 ys7.length c7, .slice A8 ys8.length c8] rfl (by kernel_rfl) (by kernel_rfl) s8 (fun _ => by kernel_rfl) ?_
        refine (ints_calls A7 A8 c7 c8 ys7 ys8 x8 (own7.below hx8 (Nat.le_refl _)).ints own8.ints (by rw [hys7]; have := looseFrom_le D9 0; unfold looseN; omega)).mono ?_
        rintro e x9 ⟨rfl, hx9⟩
        have hyt : (ys7 == ys8) = true := by rw [hyy, beq_self_eq_true]
        have s9 : Since W9 x9 := s8.then_ hx9
        refine ⟨.bool true, by rw [hyt], ?_⟩
        refine wh_take 5 (.bool false) rfl (by kernel_rfl) (by kernel_rfl) (fun _ _ _ h => h) (by kernel_rfl) (fun _ _ => by kernel_rfl) ?_
        refine wh_take 6 (.bool false) rfl (by kernel_rfl) (by kernel_rfl) (fun _ _ _ h => h) (by kernel_rfl) (fun _ _ => by kernel_rfl) ?_
        refine wh_take 7 (.pointer (some ⟨gd, 0, none⟩)) rfl (by kernel_rfl) (by kernel_rfl) (fun _ _ _ h => h) (by kernel_rfl) (fun _ _ => by kernel_rfl) ?_
        refine wh_take 9 (.pointer (some ⟨gq, 0, none⟩)) rfl (by kernel_rfl) (by kernel_rfl) (fun _ _ _ h => h) (by kernel_rfl) (fun _ _ => by kernel_rfl) ?_
        refine wh_take 10 (.pointer (some ⟨gq, 0, none⟩)) rfl (by kernel_rfl) (by kernel_rfl) (fun _ _ _ h => h) (by kernel_rfl) (fun _ _ => by kernel_rfl) ?_
        refine wh_take 11 (.pointer (some ⟨gq, 0, none⟩)) rfl (by kernel_rfl) (by kernel_rfl) (fun _ _ _ h => h) (by kernel_rfl) (fun _ _ => by kernel_rfl) ?_
        refine wh_take 12 (.slice (some ⟨gS, 0, none⟩) D9.length D9.length) rfl (by kernel_rfl) (by kernel_rfl) (fun _ _ _ h => h) (by kernel_rfl) (fun W h => exec_load_cell 50 (.tmp 171) rfl ⟨gq, 0, none⟩ _ (by kernel_rfl) ((hH9.step h).cellD 0 _ rfl) Try.isAgg50) ?_
        refine wh_take 13 (.int .i64 (D9.length : Nat)) rfl (by kernel_rfl) (by kernel_rfl) (fun _ _ _ h => h) (by kernel_rfl) (fun _ _ => by kernel_rfl) ?_
        refine wh_call 8 31 #[.pointer (some ⟨gd, 0, none⟩)] rfl (by kernel_rfl) (by kernel_rfl) s9 (fun _ => by kernel_rfl) ?_
        refine (live_len ((hT9.step s9).live)).mono ?_
        rintro e x10 ⟨rfl, rfl⟩
        refine ⟨_, rfl, ?_⟩
        refine wh_take 14 (.bool false) rfl (by kernel_rfl) (by kernel_rfl) (fun _ _ _ h => h) (by kernel_rfl) (fun _ _ => exec_neq_int 3 3 (.tmp 168) (.tmp 173) rfl D9.length (by kernel_rfl) (by kernel_rfl)) ?_
        refine wh_take 15 (.bool false) rfl (by kernel_rfl) (by kernel_rfl) (fun _ _ _ h => h) (by kernel_rfl) (fun _ _ => by kernel_rfl) ?_
        refine wh_done (by kernel_rfl) s9 ?_
        simp only [Act.put, List.setIfInBounds_toArray, List.set_cons_zero, List.set_cons_succ]
        have hT10 := (hT9.step s9).drop
        clear hT9 hH9 own7 own8 d9 s7 s8 hD91 hD92
        go_wp2_with fail
        go_roundw
        case rel => exact ⟨j + 1, D9, V9, by omega, by go_num, hDl9, hvs9, hT10⟩
        case measure => simp [intOf]; omega
        -- tail5>
    · have hd20 : (x.kind == 0) = false := by simpa using h0
      by_cases h1 : x.kind = 1
      · have hd21 : (x.kind == 1) = true := by simpa using h1
        clear h0
        rw [h1] at hc0
        clear h1
        have hc1 := Hc1.out w4 hrx
        by_cases hin : 0 ≤ x.place ∧ x.place < (D.length : Int)
        · obtain ⟨i, hi⟩ : ∃ i : Nat, x.place = (i : Int) := ⟨x.place.toNat, by omega⟩
          have hiD : i < D.length := by omega
          have hpi := Lib.hid hi
          obtain ⟨bb, hbb⟩ : ∃ bb, bb = D[i].last := ⟨_, rfl⟩
          have hb64 : bb.length = 64 := by
            rw [hbb]
            exact Sct.last_wf (hT4.ref.wf _ (List.getElem_mem hiD))
          obtain ⟨L, hL⟩ : ∃ L, L = bb.map B8 := ⟨_, rfl⟩
          have HL := Lib.hid (show L = D[i].last.map B8 by rw [hL, hbb])
          have HLl := Lib.hid (show L.length = 64 by rw [hL, List.length_map]; exact hb64)
          have HLo := Lib.hid (show ∀ v ∈ L, v.oneCell' = true by rw [hL]; exact bytes_oneCell _)
          have QL := Lib.hid (show ∀ w, (Op.equalIn 10000 37 (.agg L.toArray) (.agg L.toArray)).run Try.prog w = .ok true w from fun w => by rw [hL, neq_block _ _ hb64 hb64, beq_self_eq_true])
          have HTL := Lib.hid (show (L.drop 0).take 64 = L from List.take_of_length_le (Nat.le_of_eq HLl.out))
          have Hgb := Lib.hid guard_block
          rw [hi] at hc1
          clear hin hi hbb hb64 hL
          go_wp2_with fail
          refine (live_read_L hT4.live i hiD (hD2 i hiD) L HL).mono ?_
          rintro e w6 ⟨rfl, hB6⟩
          clear hc0 hc1
          go_wp2_with (first
            | (refine wpList_alloc_row 12 rfl 37 rfl _ rfl zero_block ?_; intro w8 hr8 hs8 hB8; clear hs8)
            | (refine wpList_store_part 37 (.tmp 12) (.tmp 107) rfl hr8 0 L rfl rfl rfl (by rw [HLl.out]; exact Try.sizeOf37) (by rw [HLl.out]; decide) HLo.out ?_
               intro w7 hb7 hs7 hg7
               clear hs7
               rw [splice_all _ _ (by rw [HLl.out]; rfl)] at hb7))
          have hB7 : Below w6.heap.size w6 w7 := hB8.grown hg7 hB8.size (fun j e => by cases e; exact Nat.le_refl _)
          have hT7 := (hT4.step hB6).step hB7
          have hrx7 := (hrx.step hB6).step hB7
          clear hr8 hB8 hg7 hT4 hrx
          -- <heldD
          have e0 : Since w7 w7.drew := (Since.refl _).drew
          refine wp_region_H (Since w7) 32 rfl (by kernel_rfl) ?_
          refine wh_take 0 (.int .i64 0) rfl (by kernel_rfl) (by kernel_rfl) (fun _ _ _ h => h) (by kernel_rfl) (fun _ _ => by kernel_rfl) ?_
          refine wh_take 1 (.bool true) rfl (by kernel_rfl) (by kernel_rfl) (fun _ _ _ h => h) (by kernel_rfl) (fun _ _ => by kernel_rfl) ?_
          refine wh_take 2 (.pointer (some ⟨gq, 0, none⟩)) rfl (by kernel_rfl) (by kernel_rfl) (fun _ _ _ h => h) (by kernel_rfl) (fun _ _ => by kernel_rfl) ?_
          refine wh_take 3 (.pointer (some ⟨bx, 1, none⟩)) rfl (by kernel_rfl) (by kernel_rfl) (fun _ _ _ h => h) (by kernel_rfl) (fun _ _ => by kernel_rfl) ?_
          refine wh_take 4 (.int .i64 x.place) rfl (by kernel_rfl) (by kernel_rfl) (fun _ _ _ h => h) (by kernel_rfl) (fun W h => exec_load_cell 3 (.tmp 112) rfl ⟨bx, 1, none⟩ _ (by kernel_rfl) (Hc1.out W (hrx7.step h)) Try.isAgg3) ?_
          refine wh_call 5 20 #[.pointer (some ⟨gq, 0, none⟩), .int .i64 x.place] rfl (by kernel_rfl) (by kernel_rfl) e0 (fun _ => by kernel_rfl) ?_
          rw [hpi.out]
          refine (rhas_yes ((hT7.step e0).ref) i hiD).mono ?_
          rintro e y1 ⟨rfl, rfl⟩
          refine ⟨_, rfl, ?_⟩
          refine wh_take 6 (.bool false) rfl (by kernel_rfl) (by kernel_rfl) (fun _ _ _ h => h) (by kernel_rfl) (fun _ _ => by kernel_rfl) ?_
          refine wh_take 7 (.bool false) rfl (by kernel_rfl) (by kernel_rfl) (fun _ _ _ h => h) (by kernel_rfl) (fun _ _ => by kernel_rfl) ?_
          refine wh_take 8 (.int .i64 0) rfl (by kernel_rfl) (by kernel_rfl) (fun _ _ _ h => h) (by kernel_rfl) (fun _ _ => by kernel_rfl) ?_
          refine wh_take 9 (.bool false) rfl (by kernel_rfl) (by kernel_rfl) (fun _ _ _ h => h) (by kernel_rfl) (fun _ _ => by kernel_rfl) ?_
          refine wh_take 10 (.bool false) rfl (by kernel_rfl) (by kernel_rfl) (fun _ _ _ h => h) (by kernel_rfl) (fun _ _ => by kernel_rfl) ?_
          refine wh_no 11 rfl (by kernel_rfl) (by kernel_rfl) (fun _ _ _ h => h) (by kernel_rfl) ?_
          refine wh_no 12 rfl (by kernel_rfl) (by kernel_rfl) (fun _ _ _ h => h) (by kernel_rfl) ?_
          refine wh_no 13 rfl (by kernel_rfl) (by kernel_rfl) (fun _ _ _ h => h) (by kernel_rfl) ?_
          refine wh_no 14 rfl (by kernel_rfl) (by kernel_rfl) (fun _ _ _ h => h) (by kernel_rfl) ?_
          refine wh_no 15 rfl (by kernel_rfl) (by kernel_rfl) (fun _ _ _ h => h) (by kernel_rfl) ?_
          refine wh_no 16 rfl (by kernel_rfl) (by kernel_rfl) (fun _ _ _ h => h) (by kernel_rfl) ?_
          refine wh_no 17 rfl (by kernel_rfl) (by kernel_rfl) (fun _ _ _ h => h) (by kernel_rfl) ?_
          refine wh_take 18 (.bool false) rfl (by kernel_rfl) (by kernel_rfl) (fun _ _ _ h => h) (by kernel_rfl) (fun _ _ => by kernel_rfl) ?_
          refine wh_take 19 (.bool false) rfl (by kernel_rfl) (by kernel_rfl) (fun _ _ _ h => h) (by kernel_rfl) (fun _ _ => by kernel_rfl) ?_
          refine wh_take 20 (.bool false) rfl (by kernel_rfl) (by kernel_rfl) (fun _ _ _ h => h) (by kernel_rfl) (fun _ _ => by kernel_rfl) ?_
          refine wh_take 21 (.int .i64 0) rfl (by kernel_rfl) (by kernel_rfl) (fun _ _ _ h => h) (by kernel_rfl) (fun _ _ => by kernel_rfl) ?_
          refine wh_take 22 (.bool true) rfl (by kernel_rfl) (by kernel_rfl) (fun _ _ _ h => h) (by kernel_rfl) (fun _ _ => by kernel_rfl) ?_
          refine wh_take 23 (.bool true) rfl (by kernel_rfl) (by kernel_rfl) (fun _ _ _ h => h) (by kernel_rfl) (fun _ _ => by kernel_rfl) ?_
          refine wh_take 24 (.agg L.toArray) rfl (by kernel_rfl) (by kernel_rfl) (fun _ _ _ h => h) (by kernel_rfl) (fun W h => exec_load_part 37 (.tmp 12) rfl (hb7.step h) 0 64 L (by kernel_rfl) HTL.out HLl.out Try.isAgg37 Try.sizeOf37) ?_
          refine wh_take 25 (.pointer (some ⟨gq, 0, none⟩)) rfl (by kernel_rfl) (by kernel_rfl) (fun _ _ _ h => h) (by kernel_rfl) (fun _ _ => by kernel_rfl) ?_
          refine wh_take 26 (.pointer (some ⟨bx, 1, none⟩)) rfl (by kernel_rfl) (by kernel_rfl) (fun _ _ _ h => h) (by kernel_rfl) (fun _ _ => by kernel_rfl) ?_
          refine wh_take 27 (.int .i64 x.place) rfl (by kernel_rfl) (by kernel_rfl) (fun _ _ _ h => h) (by kernel_rfl) (fun W h => exec_load_cell 3 (.tmp 135) rfl ⟨bx, 1, none⟩ _ (by kernel_rfl) (Hc1.out W (hrx7.step h)) Try.isAgg3) ?_
          refine wh_call 28 23 #[.pointer (some ⟨gq, 0, none⟩), .int .i64 x.place] rfl (by kernel_rfl) (by kernel_rfl) e0 (fun _ => by kernel_rfl) ?_
          rw [hpi.out]
          refine (rread_calls ((hT7.step e0).ref) i hiD (hD2 i hiD) L HL).mono ?_
          rintro e y2 ⟨rfl, hy2⟩
          have e1 : Since w7 y2 := e0.then_ hy2
          refine ⟨_, rfl, ?_⟩
          refine wh_take 29 (.bool false) rfl (by kernel_rfl) (by kernel_rfl) (fun _ _ _ h => h) (by kernel_rfl) (fun W _ => exec_neq 37 37 (.tmp 133) (.tmp 137) rfl L.toArray L.toArray (by kernel_rfl) (by kernel_rfl) true Hgb.out (QL.out W)) ?_
          refine wh_take 30 (.bool false) rfl (by kernel_rfl) (by kernel_rfl) (fun _ _ _ h => h) (by kernel_rfl) (fun _ _ => by kernel_rfl) ?_
          refine wh_take 31 (.bool false) rfl (by kernel_rfl) (by kernel_rfl) (fun _ _ _ h => h) (by kernel_rfl) (fun _ _ => by kernel_rfl) ?_
          refine wh_done (by kernel_rfl) e1 ?_
          simp only [Act.put, List.setIfInBounds_toArray, List.set_cons_zero, List.set_cons_succ]
          have hT9 := hT7.step e1
          -- heldD>
          obtain ⟨W9, hW9⟩ : ∃ W9, W9 = y2 := ⟨_, rfl⟩
          rw [← hW9] at hT9 ⊢
          have hDl9 := hDn.out
          have hvs9 : ∀ k (h : k < D.length), D[k].vers.length ≤ j + 1 := fun k h => Nat.le_succ_of_le (hvs k h)
          clear hW9 hT7 hrx7 hb7 e0 e1 hD1 hD2 hvs
          obtain ⟨D9, hD9⟩ : ∃ D9, D9 = D := ⟨_, rfl⟩
          obtain ⟨V9, hV9⟩ : ∃ V9, V9 = V := ⟨_, rfl⟩
          subst hD9 hV9
          go_wp2_with fail
          -- <tail6
          have hD91 : D9.length ≤ 4096 := by omega
          have hD92 : ∀ i (h : i < D9.length), D9[i].vers.length ≤ 100000 := fun i h => by have := hvs9 i h; omega
          have hH9 := hT9.ref.head
          have d9 : Since W9 W9.drew := (Since.refl _).drew
          refine wp_region_H (Since W9) 16 rfl (by kernel_rfl) ?_
          refine wh_take 0 (.pointer (some ⟨gd, 0, none⟩)) rfl (by kernel_rfl) (by kernel_rfl) (fun _ _ _ h => h) (by kernel_rfl) (fun _ _ => by kernel_rfl) ?_
          refine wh_take 2 (.pointer (some ⟨gq, 0, none⟩)) rfl (by kernel_rfl) (by kernel_rfl) (fun _ _ _ h => h) (by kernel_rfl) (fun _ _ => by kernel_rfl) ?_
          refine wh_call 1 29 #[.pointer (some ⟨gd, 0, none⟩)] rfl (by kernel_rfl) (by kernel_rfl) d9 (fun _ => by kernel_rfl) ?_
          refine (live_loose ((hT9.step d9).live) hD91).mono ?_
          rintro e x7 ⟨⟨ys7, A7, c7, rfl, hys7, own7⟩, hx7⟩
          rw [looseAll_val] at hys7
          have s7 : Since W9 x7 := d9.then_ hx7
          refine ⟨_, rfl, ?_⟩
          refine wh_call 3 30 #[.pointer (some ⟨gq, 0, none⟩)] rfl (by kernel_rfl) (by kernel_rfl) s7 (fun _ => by kernel_rfl) ?_
          refine (rloose_calls ((hT9.step s7).ref) hD91 hD92).mono ?_
          rintro e x8 ⟨⟨ys8, A8, c8, rfl, hys8, own8⟩, hx8⟩
          have s8 : Since W9 x8 := s7.then_ hx8
          have hyy : ys7 = ys8 := hys7.trans hys8.symm
          refine ⟨_, rfl, ?_⟩
          refine wh_call 4 28 #[.slice A7 ys7.length c7, .slice A8 ys8.length c8] rfl (by kernel_rfl) (by kernel_rfl) s8 (fun _ => by kernel_rfl) ?_
          refine (ints_calls A7 A8 c7 c8 ys7 ys8 x8 (own7.below hx8 (Nat.le_refl _)).ints own8.ints (by rw [hys7]; have := looseFrom_le D9 0; unfold looseN; omega)).mono ?_
          rintro e x9 ⟨rfl, hx9⟩
          have hyt : (ys7 == ys8) = true := by rw [hyy, beq_self_eq_true]
          have s9 : Since W9 x9 := s8.then_ hx9
          refine ⟨.bool true, by rw [hyt], ?_⟩
          refine wh_take 5 (.bool false) rfl (by kernel_rfl) (by kernel_rfl) (fun _ _ _ h => h) (by kernel_rfl) (fun _ _ => by kernel_rfl) ?_
          refine wh_take 6 (.bool false) rfl (by kernel_rfl) (by kernel_rfl) (fun _ _ _ h => h) (by kernel_rfl) (fun _ _ => by kernel_rfl) ?_
          refine wh_take 7 (.pointer (some ⟨gd, 0, none⟩)) rfl (by kernel_rfl) (by kernel_rfl) (fun _ _ _ h => h) (by kernel_rfl) (fun _ _ => by kernel_rfl) ?_
          refine wh_take 9 (.pointer (some ⟨gq, 0, none⟩)) rfl (by kernel_rfl) (by kernel_rfl) (fun _ _ _ h => h) (by kernel_rfl) (fun _ _ => by kernel_rfl) ?_
          refine wh_take 10 (.pointer (some ⟨gq, 0, none⟩)) rfl (by kernel_rfl) (by kernel_rfl) (fun _ _ _ h => h) (by kernel_rfl) (fun _ _ => by kernel_rfl) ?_
          refine wh_take 11 (.pointer (some ⟨gq, 0, none⟩)) rfl (by kernel_rfl) (by kernel_rfl) (fun _ _ _ h => h) (by kernel_rfl) (fun _ _ => by kernel_rfl) ?_
          refine wh_take 12 (.slice (some ⟨gS, 0, none⟩) D9.length D9.length) rfl (by kernel_rfl) (by kernel_rfl) (fun _ _ _ h => h) (by kernel_rfl) (fun W h => exec_load_cell 50 (.tmp 171) rfl ⟨gq, 0, none⟩ _ (by kernel_rfl) ((hH9.step h).cellD 0 _ rfl) Try.isAgg50) ?_
          refine wh_take 13 (.int .i64 (D9.length : Nat)) rfl (by kernel_rfl) (by kernel_rfl) (fun _ _ _ h => h) (by kernel_rfl) (fun _ _ => by kernel_rfl) ?_
          refine wh_call 8 31 #[.pointer (some ⟨gd, 0, none⟩)] rfl (by kernel_rfl) (by kernel_rfl) s9 (fun _ => by kernel_rfl) ?_
          refine (live_len ((hT9.step s9).live)).mono ?_
          rintro e x10 ⟨rfl, rfl⟩
          refine ⟨_, rfl, ?_⟩
          refine wh_take 14 (.bool false) rfl (by kernel_rfl) (by kernel_rfl) (fun _ _ _ h => h) (by kernel_rfl) (fun _ _ => exec_neq_int 3 3 (.tmp 168) (.tmp 173) rfl D9.length (by kernel_rfl) (by kernel_rfl)) ?_
          refine wh_take 15 (.bool false) rfl (by kernel_rfl) (by kernel_rfl) (fun _ _ _ h => h) (by kernel_rfl) (fun _ _ => by kernel_rfl) ?_
          refine wh_done (by kernel_rfl) s9 ?_
          simp only [Act.put, List.setIfInBounds_toArray, List.set_cons_zero, List.set_cons_succ]
          have hT10 := (hT9.step s9).drop
          clear hT9 hH9 own7 own8 d9 s7 s8 hD91 hD92
          go_wp2_with fail
          go_roundw
          case rel => exact ⟨j + 1, D9, V9, by omega, by go_num, hDl9, hvs9, hT10⟩
          case measure => simp [intOf]; omega
          -- tail6>
        · have hout : x.place < 0 ∨ (D.length : Int) ≤ x.place := by omega
          obtain ⟨L, hL⟩ : ∃ L, L = (zeros 64).map B8 := ⟨_, rfl⟩
          have HLl := Lib.hid (show L.length = 64 by rw [hL]; rfl)
          have HLo := Lib.hid (show ∀ v ∈ L, v.oneCell' = true by rw [hL]; exact bytes_oneCell _)
          have QL := Lib.hid (show ∀ w, (Op.equalIn 10000 37 (.agg L.toArray) (.agg L.toArray)).run Try.prog w = .ok true w from fun w => by rw [hL, neq_block (zeros 64) (zeros 64) rfl rfl, beq_self_eq_true])
          have HTL := Lib.hid (show (L.drop 0).take 64 = L from List.take_of_length_le (Nat.le_of_eq HLl.out))
          have Hgb := Lib.hid guard_block
          have Hbz := Lib.hid (show Try.prog.built 37 [] = some L.toArray by rw [hL]; kernel_rfl)
          have hrd := live_read_no hT4.live x.place hout
          rw [show vb (zeros 64) = .agg L.toArray from by rw [hL]; rfl] at hrd
          replace hout := Lib.hid hout
          clear hin hL
          go_wp2_with fail
          refine hrd.mono ?_
          rintro e w6 ⟨rfl, hB6⟩
          clear hc0 hc1 hrd
          go_wp2_with (first
            | (refine wpList_alloc_row 12 rfl 37 rfl _ rfl zero_block ?_; intro w8 hr8 hs8 hB8; clear hs8)
            | (refine wpList_store_part 37 (.tmp 12) (.tmp 107) rfl hr8 0 L rfl rfl rfl (by rw [HLl.out]; exact Try.sizeOf37) (by rw [HLl.out]; decide) HLo.out ?_
               intro w7 hb7 hs7 hg7
               clear hs7
               rw [splice_all _ _ (by rw [HLl.out]; rfl)] at hb7))
          have hB7 : Below w6.heap.size w6 w7 := hB8.grown hg7 hB8.size (fun j e => by cases e; exact Nat.le_refl _)
          have hT7 := (hT4.step hB6).step hB7
          have hrx7 := (hrx.step hB6).step hB7
          clear hr8 hB8 hg7 hT4 hrx
          -- <heldE
          have e0 : Since w7 w7.drew := (Since.refl _).drew
          refine wp_region_H (Since w7) 32 rfl (by kernel_rfl) ?_
          refine wh_take 0 (.int .i64 1) rfl (by kernel_rfl) (by kernel_rfl) (fun _ _ _ h => h) (by kernel_rfl) (fun _ _ => by kernel_rfl) ?_
          refine wh_take 1 (.bool false) rfl (by kernel_rfl) (by kernel_rfl) (fun _ _ _ h => h) (by kernel_rfl) (fun _ _ => by kernel_rfl) ?_
          refine wh_take 2 (.pointer (some ⟨gq, 0, none⟩)) rfl (by kernel_rfl) (by kernel_rfl) (fun _ _ _ h => h) (by kernel_rfl) (fun _ _ => by kernel_rfl) ?_
          refine wh_take 3 (.pointer (some ⟨bx, 1, none⟩)) rfl (by kernel_rfl) (by kernel_rfl) (fun _ _ _ h => h) (by kernel_rfl) (fun _ _ => by kernel_rfl) ?_
          refine wh_take 4 (.int .i64 x.place) rfl (by kernel_rfl) (by kernel_rfl) (fun _ _ _ h => h) (by kernel_rfl) (fun W h => exec_load_cell 3 (.tmp 112) rfl ⟨bx, 1, none⟩ _ (by kernel_rfl) (Hc1.out W (hrx7.step h)) Try.isAgg3) ?_
          refine wh_call 5 20 #[.pointer (some ⟨gq, 0, none⟩), .int .i64 x.place] rfl (by kernel_rfl) (by kernel_rfl) e0 (fun _ => by kernel_rfl) ?_
          refine (rhas_no ((hT7.step e0).ref) x.place hout.out).mono ?_
          rintro e y1 ⟨rfl, rfl⟩
          refine ⟨_, rfl, ?_⟩
          refine wh_take 6 (.bool false) rfl (by kernel_rfl) (by kernel_rfl) (fun _ _ _ h => h) (by kernel_rfl) (fun _ _ => by kernel_rfl) ?_
          refine wh_take 7 (.bool false) rfl (by kernel_rfl) (by kernel_rfl) (fun _ _ _ h => h) (by kernel_rfl) (fun _ _ => by kernel_rfl) ?_
          refine wh_take 8 (.int .i64 1) rfl (by kernel_rfl) (by kernel_rfl) (fun _ _ _ h => h) (by kernel_rfl) (fun _ _ => by kernel_rfl) ?_
          refine wh_take 9 (.bool true) rfl (by kernel_rfl) (by kernel_rfl) (fun _ _ _ h => h) (by kernel_rfl) (fun _ _ => by kernel_rfl) ?_
          refine wh_take 10 (.bool true) rfl (by kernel_rfl) (by kernel_rfl) (fun _ _ _ h => h) (by kernel_rfl) (fun _ _ => by kernel_rfl) ?_
          refine wh_take 11 (.int .i64 1) rfl (by kernel_rfl) (by kernel_rfl) (fun _ _ _ h => h) (by kernel_rfl) (fun _ _ => by kernel_rfl) ?_
          refine wh_take 12 (.bool false) rfl (by kernel_rfl) (by kernel_rfl) (fun _ _ _ h => h) (by kernel_rfl) (fun _ _ => by kernel_rfl) ?_
          refine wh_take 13 (.bool false) rfl (by kernel_rfl) (by kernel_rfl) (fun _ _ _ h => h) (by kernel_rfl) (fun _ _ => by kernel_rfl) ?_
          refine wh_take 14 (.agg L.toArray) rfl (by kernel_rfl) (by kernel_rfl) (fun _ _ _ h => h) (by kernel_rfl) (fun W h => exec_load_part 37 (.tmp 12) rfl (hb7.step h) 0 64 L (by kernel_rfl) HTL.out HLl.out Try.isAgg37 Try.sizeOf37) ?_
          refine wh_take 15 (.agg L.toArray) rfl (by kernel_rfl) (by kernel_rfl) (fun _ _ _ h => h) (by kernel_rfl) (fun W _ => exec_build0 37 rfl L Hbz.out) ?_
          refine wh_take 16 (.bool false) rfl (by kernel_rfl) (by kernel_rfl) (fun _ _ _ h => h) (by kernel_rfl) (fun W _ => exec_neq 37 37 (.tmp 123) (.tmp 124) rfl L.toArray L.toArray (by kernel_rfl) (by kernel_rfl) true Hgb.out (QL.out W)) ?_
          refine wh_take 17 (.bool false) rfl (by kernel_rfl) (by kernel_rfl) (fun _ _ _ h => h) (by kernel_rfl) (fun _ _ => by kernel_rfl) ?_
          refine wh_take 18 (.bool false) rfl (by kernel_rfl) (by kernel_rfl) (fun _ _ _ h => h) (by kernel_rfl) (fun _ _ => by kernel_rfl) ?_
          refine wh_take 19 (.bool false) rfl (by kernel_rfl) (by kernel_rfl) (fun _ _ _ h => h) (by kernel_rfl) (fun _ _ => by kernel_rfl) ?_
          refine wh_take 20 (.bool false) rfl (by kernel_rfl) (by kernel_rfl) (fun _ _ _ h => h) (by kernel_rfl) (fun _ _ => by kernel_rfl) ?_
          refine wh_take 21 (.int .i64 1) rfl (by kernel_rfl) (by kernel_rfl) (fun _ _ _ h => h) (by kernel_rfl) (fun _ _ => by kernel_rfl) ?_
          refine wh_take 22 (.bool false) rfl (by kernel_rfl) (by kernel_rfl) (fun _ _ _ h => h) (by kernel_rfl) (fun _ _ => by kernel_rfl) ?_
          refine wh_take 23 (.bool false) rfl (by kernel_rfl) (by kernel_rfl) (fun _ _ _ h => h) (by kernel_rfl) (fun _ _ => by kernel_rfl) ?_
          refine wh_no 24 rfl (by kernel_rfl) (by kernel_rfl) (fun _ _ _ h => h) (by kernel_rfl) ?_
          refine wh_no 25 rfl (by kernel_rfl) (by kernel_rfl) (fun _ _ _ h => h) (by kernel_rfl) ?_
          refine wh_no 26 rfl (by kernel_rfl) (by kernel_rfl) (fun _ _ _ h => h) (by kernel_rfl) ?_
          refine wh_no 27 rfl (by kernel_rfl) (by kernel_rfl) (fun _ _ _ h => h) (by kernel_rfl) ?_
          refine wh_no 28 rfl (by kernel_rfl) (by kernel_rfl) (fun _ _ _ h => h) (by kernel_rfl) ?_
          refine wh_no 29 rfl (by kernel_rfl) (by kernel_rfl) (fun _ _ _ h => h) (by kernel_rfl) ?_
          refine wh_take 30 (.bool false) rfl (by kernel_rfl) (by kernel_rfl) (fun _ _ _ h => h) (by kernel_rfl) (fun _ _ => by kernel_rfl) ?_
          refine wh_take 31 (.bool false) rfl (by kernel_rfl) (by kernel_rfl) (fun _ _ _ h => h) (by kernel_rfl) (fun _ _ => by kernel_rfl) ?_
          refine wh_done (by kernel_rfl) e0 ?_
          simp only [Act.put, List.setIfInBounds_toArray, List.set_cons_zero, List.set_cons_succ]
          have hT9 := hT7.step e0
          -- heldE>
          obtain ⟨W9, hW9⟩ : ∃ W9, W9 = w7.drew := ⟨_, rfl⟩
          rw [← hW9] at hT9 ⊢
          have hDl9 := hDn.out
          have hvs9 : ∀ k (h : k < D.length), D[k].vers.length ≤ j + 1 := fun k h => Nat.le_succ_of_le (hvs k h)
          clear hW9 hT7 hrx7 hb7 e0 hD1 hD2 hvs
          obtain ⟨D9, hD9⟩ : ∃ D9, D9 = D := ⟨_, rfl⟩
          obtain ⟨V9, hV9⟩ : ∃ V9, V9 = V := ⟨_, rfl⟩
          subst hD9 hV9
          go_wp2_with fail
          -- <tail7
          have hD91 : D9.length ≤ 4096 := by omega
          have hD92 : ∀ i (h : i < D9.length), D9[i].vers.length ≤ 100000 := fun i h => by have := hvs9 i h; omega
          have hH9 := hT9.ref.head
          have d9 : Since W9 W9.drew := (Since.refl _).drew
          refine wp_region_H (Since W9) 16 rfl (by kernel_rfl) ?_
          refine wh_take 0 (.pointer (some ⟨gd, 0, none⟩)) rfl (by kernel_rfl) (by kernel_rfl) (fun _ _ _ h => h) (by kernel_rfl) (fun _ _ => by kernel_rfl) ?_
          refine wh_take 2 (.pointer (some ⟨gq, 0, none⟩)) rfl (by kernel_rfl) (by kernel_rfl) (fun _ _ _ h => h) (by kernel_rfl) (fun _ _ => by kernel_rfl) ?_
          refine wh_call 1 29 #[.pointer (some ⟨gd, 0, none⟩)] rfl (by kernel_rfl) (by kernel_rfl) d9 (fun _ => by kernel_rfl) ?_
          refine (live_loose ((hT9.step d9).live) hD91).mono ?_
          rintro e x7 ⟨⟨ys7, A7, c7, rfl, hys7, own7⟩, hx7⟩
          rw [looseAll_val] at hys7
          have s7 : Since W9 x7 := d9.then_ hx7
          refine ⟨_, rfl, ?_⟩
          refine wh_call 3 30 #[.pointer (some ⟨gq, 0, none⟩)] rfl (by kernel_rfl) (by kernel_rfl) s7 (fun _ => by kernel_rfl) ?_
          refine (rloose_calls ((hT9.step s7).ref) hD91 hD92).mono ?_
          rintro e x8 ⟨⟨ys8, A8, c8, rfl, hys8, own8⟩, hx8⟩
          have s8 : Since W9 x8 := s7.then_ hx8
          have hyy : ys7 = ys8 := hys7.trans hys8.symm
          refine ⟨_, rfl, ?_⟩
          refine wh_call 4 28 #[.slice A7 ys7.length c7, .slice A8 ys8.length c8] rfl (by kernel_rfl) (by kernel_rfl) s8 (fun _ => by kernel_rfl) ?_
          refine (ints_calls A7 A8 c7 c8 ys7 ys8 x8 (own7.below hx8 (Nat.le_refl _)).ints own8.ints (by rw [hys7]; have := looseFrom_le D9 0; unfold looseN; omega)).mono ?_
          rintro e x9 ⟨rfl, hx9⟩
          have hyt : (ys7 == ys8) = true := by rw [hyy, beq_self_eq_true]
          have s9 : Since W9 x9 := s8.then_ hx9
          refine ⟨.bool true, by rw [hyt], ?_⟩
          refine wh_take 5 (.bool false) rfl (by kernel_rfl) (by kernel_rfl) (fun _ _ _ h => h) (by kernel_rfl) (fun _ _ => by kernel_rfl) ?_
          refine wh_take 6 (.bool false) rfl (by kernel_rfl) (by kernel_rfl) (fun _ _ _ h => h) (by kernel_rfl) (fun _ _ => by kernel_rfl) ?_
          refine wh_take 7 (.pointer (some ⟨gd, 0, none⟩)) rfl (by kernel_rfl) (by kernel_rfl) (fun _ _ _ h => h) (by kernel_rfl) (fun _ _ => by kernel_rfl) ?_
          refine wh_take 9 (.pointer (some ⟨gq, 0, none⟩)) rfl (by kernel_rfl) (by kernel_rfl) (fun _ _ _ h => h) (by kernel_rfl) (fun _ _ => by kernel_rfl) ?_
          refine wh_take 10 (.pointer (some ⟨gq, 0, none⟩)) rfl (by kernel_rfl) (by kernel_rfl) (fun _ _ _ h => h) (by kernel_rfl) (fun _ _ => by kernel_rfl) ?_
          refine wh_take 11 (.pointer (some ⟨gq, 0, none⟩)) rfl (by kernel_rfl) (by kernel_rfl) (fun _ _ _ h => h) (by kernel_rfl) (fun _ _ => by kernel_rfl) ?_
          refine wh_take 12 (.slice (some ⟨gS, 0, none⟩) D9.length D9.length) rfl (by kernel_rfl) (by kernel_rfl) (fun _ _ _ h => h) (by kernel_rfl) (fun W h => exec_load_cell 50 (.tmp 171) rfl ⟨gq, 0, none⟩ _ (by kernel_rfl) ((hH9.step h).cellD 0 _ rfl) Try.isAgg50) ?_
          refine wh_take 13 (.int .i64 (D9.length : Nat)) rfl (by kernel_rfl) (by kernel_rfl) (fun _ _ _ h => h) (by kernel_rfl) (fun _ _ => by kernel_rfl) ?_
          refine wh_call 8 31 #[.pointer (some ⟨gd, 0, none⟩)] rfl (by kernel_rfl) (by kernel_rfl) s9 (fun _ => by kernel_rfl) ?_
          refine (live_len ((hT9.step s9).live)).mono ?_
          rintro e x10 ⟨rfl, rfl⟩
          refine ⟨_, rfl, ?_⟩
          refine wh_take 14 (.bool false) rfl (by kernel_rfl) (by kernel_rfl) (fun _ _ _ h => h) (by kernel_rfl) (fun _ _ => exec_neq_int 3 3 (.tmp 168) (.tmp 173) rfl D9.length (by kernel_rfl) (by kernel_rfl)) ?_
          refine wh_take 15 (.bool false) rfl (by kernel_rfl) (by kernel_rfl) (fun _ _ _ h => h) (by kernel_rfl) (fun _ _ => by kernel_rfl) ?_
          refine wh_done (by kernel_rfl) s9 ?_
          simp only [Act.put, List.setIfInBounds_toArray, List.set_cons_zero, List.set_cons_succ]
          have hT10 := (hT9.step s9).drop
          clear hT9 hH9 own7 own8 d9 s7 s8 hD91 hD92
          go_wp2_with fail
          go_roundw
          case rel => exact ⟨j + 1, D9, V9, by omega, by go_num, hDl9, hvs9, hT10⟩
          case measure => simp [intOf]; omega
          -- tail7>
      · have hd21 : (x.kind == 1) = false := by simpa using h1
        by_cases h2 : x.kind = 2
        · have hd22 : (x.kind == 2) = true := by simpa using h2
          clear h0 h1
          rw [h2] at hc0
          clear h2
          go_wp2_with fail
          refine (live_flush hT4.live hD1 hD2).mono ?_
          rintro e w5 ⟨rfl, hv5, hk5⟩
          have hT5 := hT4.prog hv5 hk5
          clear hc0 hv5 hk5
          go_wp2_with fail
          refine (rflush_calls hT5.ref hD1 hD2).mono ?_
          rintro e W9 ⟨⟨v9, rfl⟩, ⟨V9, hr6, hn6⟩, hs6⟩
          have hT9 := hT5.refs hr6 hn6 hs6
          obtain ⟨D9, hD9⟩ : ∃ D9, D9 = flushN D := ⟨_, rfl⟩
          rw [← hD9] at hT9
          have hDl9 : D9.length = n := by rw [← hDn.out, hD9]; exact List.length_map _
          have hvs9 : ∀ k (h : k < D9.length), D9[k].vers.length ≤ j + 1 := by
            intro k h
            have := List.getElem_mem h
            generalize D9[k] = s at this
            rw [hD9] at this
            obtain ⟨t, _, rfl⟩ := List.mem_map.1 this
            exact Nat.zero_le _
          clear hD9 hT4 hT5 hD1 hD2 hvs hrx hB4 hr6 hn6 hs6
          go_wp2_with fail
          -- <tail2
          have hD91 : D9.length ≤ 4096 := by omega
          have hD92 : ∀ i (h : i < D9.length), D9[i].vers.length ≤ 100000 := fun i h => by have := hvs9 i h; omega
          have hH9 := hT9.ref.head
          have d9 : Since W9 W9.drew := (Since.refl _).drew
          refine wp_region_H (Since W9) 16 rfl (by kernel_rfl) ?_
          refine wh_take 0 (.pointer (some ⟨gd, 0, none⟩)) rfl (by kernel_rfl) (by kernel_rfl) (fun _ _ _ h => h) (by kernel_rfl) (fun _ _ => by kernel_rfl) ?_
          refine wh_take 2 (.pointer (some ⟨gq, 0, none⟩)) rfl (by kernel_rfl) (by kernel_rfl) (fun _ _ _ h => h) (by kernel_rfl) (fun _ _ => by kernel_rfl) ?_
          refine wh_call 1 29 #[.pointer (some ⟨gd, 0, none⟩)] rfl (by kernel_rfl) (by kernel_rfl) d9 (fun _ => by kernel_rfl) ?_
          refine (live_loose ((hT9.step d9).live) hD91).mono ?_
          rintro e x7 ⟨⟨ys7, A7, c7, rfl, hys7, own7⟩, hx7⟩
          rw [looseAll_val] at hys7
          have s7 : Since W9 x7 := d9.then_ hx7
          refine ⟨_, rfl, ?_⟩
          refine wh_call 3 30 #[.pointer (some ⟨gq, 0, none⟩)] rfl (by kernel_rfl) (by kernel_rfl) s7 (fun _ => by kernel_rfl) ?_
          refine (rloose_calls ((hT9.step s7).ref) hD91 hD92).mono ?_
          rintro e x8 ⟨⟨ys8, A8, c8, rfl, hys8, own8⟩, hx8⟩
          have s8 : Since W9 x8 := s7.then_ hx8
          have hyy : ys7 = ys8 := hys7.trans hys8.symm
          refine ⟨_, rfl, ?_⟩
          refine wh_call 4 28 #[.slice A7 ys7.length c7, .slice A8 ys8.length c8] rfl (by kernel_rfl) (by kernel_rfl) s8 (fun _ => by kernel_rfl) ?_
          refine (ints_calls A7 A8 c7 c8 ys7 ys8 x8 (own7.below hx8 (Nat.le_refl _)).ints own8.ints (by rw [hys7]; have := looseFrom_le D9 0; unfold looseN; omega)).mono ?_
          rintro e x9 ⟨rfl, hx9⟩
          have hyt : (ys7 == ys8) = true := by rw [hyy, beq_self_eq_true]
          have s9 : Since W9 x9 := s8.then_ hx9
          refine ⟨.bool true, by rw [hyt], ?_⟩
          refine wh_take 5 (.bool false) rfl (by kernel_rfl) (by kernel_rfl) (fun _ _ _ h => h) (by kernel_rfl) (fun _ _ => by kernel_rfl) ?_
          refine wh_take 6 (.bool false) rfl (by kernel_rfl) (by kernel_rfl) (fun _ _ _ h => h) (by kernel_rfl) (fun _ _ => by kernel_rfl) ?_
          refine wh_take 7 (.pointer (some ⟨gd, 0, none⟩)) rfl (by kernel_rfl) (by kernel_rfl) (fun _ _ _ h => h) (by kernel_rfl) (fun _ _ => by kernel_rfl) ?_
          refine wh_take 9 (.pointer (some ⟨gq, 0, none⟩)) rfl (by kernel_rfl) (by kernel_rfl) (fun _ _ _ h => h) (by kernel_rfl) (fun _ _ => by kernel_rfl) ?_
          refine wh_take 10 (.pointer (some ⟨gq, 0, none⟩)) rfl (by kernel_rfl) (by kernel_rfl) (fun _ _ _ h => h) (by kernel_rfl) (fun _ _ => by kernel_rfl) ?_
          refine wh_take 11 (.pointer (some ⟨gq, 0, none⟩)) rfl (by kernel_rfl) (by kernel_rfl) (fun _ _ _ h => h) (by kernel_rfl) (fun _ _ => by kernel_rfl) ?_
          refine wh_take 12 (.slice (some ⟨gS, 0, none⟩) D9.length D9.length) rfl (by kernel_rfl) (by kernel_rfl) (fun _ _ _ h => h) (by kernel_rfl) (fun W h => exec_load_cell 50 (.tmp 171) rfl ⟨gq, 0, none⟩ _ (by kernel_rfl) ((hH9.step h).cellD 0 _ rfl) Try.isAgg50) ?_
          refine wh_take 13 (.int .i64 (D9.length : Nat)) rfl (by kernel_rfl) (by kernel_rfl) (fun _ _ _ h => h) (by kernel_rfl) (fun _ _ => by kernel_rfl) ?_
          refine wh_call 8 31 #[.pointer (some ⟨gd, 0, none⟩)] rfl (by kernel_rfl) (by kernel_rfl) s9 (fun _ => by kernel_rfl) ?_
          refine (live_len ((hT9.step s9).live)).mono ?_
          rintro e x10 ⟨rfl, rfl⟩
          refine ⟨_, rfl, ?_⟩
          refine wh_take 14 (.bool false) rfl (by kernel_rfl) (by kernel_rfl) (fun _ _ _ h => h) (by kernel_rfl) (fun _ _ => exec_neq_int 3 3 (.tmp 168) (.tmp 173) rfl D9.length (by kernel_rfl) (by kernel_rfl)) ?_
          refine wh_take 15 (.bool false) rfl (by kernel_rfl) (by kernel_rfl) (fun _ _ _ h => h) (by kernel_rfl) (fun _ _ => by kernel_rfl) ?_
          refine wh_done (by kernel_rfl) s9 ?_
          simp only [Act.put, List.setIfInBounds_toArray, List.set_cons_zero, List.set_cons_succ]
          have hT10 := (hT9.step s9).drop
          clear hT9 hH9 own7 own8 d9 s7 s8 hD91 hD92
          go_wp2_with fail
          go_roundw
          case rel => exact ⟨j + 1, D9, V9, by omega, by go_num, hDl9, hvs9, hT10⟩
          case measure => simp [intOf]; omega
          -- tail2>
        · have hd22 : (x.kind == 2) = false := by simpa using h2
          by_cases h3 : x.kind = 3
          · have hd23 : (x.kind == 3) = true := by simpa using h3
            clear h0 h1 h2
            rw [h3] at hc0
            clear h3
            have hc3 := Hc3.out _ (hrx.step (alloc_below w4 (.cells #[] 5)))
            have hown := OwnB.made w4 w4.heap.size 5 (Nat.le_refl _)
            have hBo := balloc (brefl w4) (.cells #[] 5)
            have hpr := (hpA.below hT4.live.below).below (hBo.mono hT4.live.below.size)
            have hpl2 : x.pick.length ≤ 140737488355328 := by omega
            go_wp2_with (at_builtin; refine wpList_app hBo rfl _ _ 32 rfl Try.underlying32 Try.info_byte hown x.cap hpr (by rfl) (by rfl) (by simp; omega) ?_)
            intro zs A5 c5 w5 hz hown5 hB5 hg5 _
            have hzs : zs = x.pick := by simpa using hz.out
            replace hzs := Lib.hid hzs
            clear hz hpr hBo hown hg5 hc3
            obtain ⟨X5, hT5, hA5, hF5⟩ := two_own hT4 hB5 hown5
            have hrx5 := hrx.step hB5
            have hc5 := hown5.cap
            have hcm5 := hown5.capMax
            have hb5 := hown5.bytes
            go_wp2_with fail
            refine (live_crash hT5.live hD1 hD2 A5 c5 zs hb5 hc5 hcm5 (fun b hb => List.mem_append_left _ (hA5 b hb))).mono ?_
            rintro e w6 ⟨⟨v6, rfl⟩, hv6, hk6⟩
            have hT6 := hT5.prog hv6 hk6
            rw [hzs.out] at hT6
            have hrx6 := hk6.row (List.mem_append_left _ (hF5 bx (by simp))) hrx5
            have hc3 := Hc3.out w6 hrx6
            clear hc0 hv6 hk6 hrx5 hc5 hcm5 hb5 hown5 hA5 hF5
            go_wp2_with fail
            refine (rcrash_calls hT6.ref hD1 hD2 x.A x.cap x.pick ((hpA.below hT6.live.below).more hT6.live.below.size) hpl hpm (apart_low hpA hT6.ref.low.2.1 hT6.ref.low.2.2)).mono ?_
            rintro e W9 ⟨⟨v9, rfl⟩, ⟨V9, hr6, hn6⟩, hs6⟩
            have hT9 := hT6.refs hr6 hn6 hs6
            obtain ⟨D9, hD9⟩ : ∃ D9, D9 = crashN D x.pick := ⟨_, rfl⟩
            rw [← hD9] at hT9
            have hDl9 : D9.length = n := by rw [← hDn.out, hD9]; exact crashN_len D _
            have hvs9 : ∀ k (h : k < D9.length), D9[k].vers.length ≤ j + 1 := by
              intro k h
              have := List.getElem_mem h
              generalize D9[k] = s at this
              rw [hD9] at this
              rw [crashN_vers D x.pick _ this]
              exact Nat.zero_le _
            clear hD9 hT4 hT5 hT6 hD1 hD2 hvs hrx hB4 hr6 hn6 hs6 hc3 hrx6
            go_wp2_with fail
            -- <tail3
            have hD91 : D9.length ≤ 4096 := by omega
            have hD92 : ∀ i (h : i < D9.length), D9[i].vers.length ≤ 100000 := fun i h => by have := hvs9 i h; omega
            have hH9 := hT9.ref.head
            have d9 : Since W9 W9.drew := (Since.refl _).drew
            refine wp_region_H (Since W9) 16 rfl (by kernel_rfl) ?_
            refine wh_take 0 (.pointer (some ⟨gd, 0, none⟩)) rfl (by kernel_rfl) (by kernel_rfl) (fun _ _ _ h => h) (by kernel_rfl) (fun _ _ => by kernel_rfl) ?_
            refine wh_take 2 (.pointer (some ⟨gq, 0, none⟩)) rfl (by kernel_rfl) (by kernel_rfl) (fun _ _ _ h => h) (by kernel_rfl) (fun _ _ => by kernel_rfl) ?_
            refine wh_call 1 29 #[.pointer (some ⟨gd, 0, none⟩)] rfl (by kernel_rfl) (by kernel_rfl) d9 (fun _ => by kernel_rfl) ?_
            refine (live_loose ((hT9.step d9).live) hD91).mono ?_
            rintro e x7 ⟨⟨ys7, A7, c7, rfl, hys7, own7⟩, hx7⟩
            rw [looseAll_val] at hys7
            have s7 : Since W9 x7 := d9.then_ hx7
            refine ⟨_, rfl, ?_⟩
            refine wh_call 3 30 #[.pointer (some ⟨gq, 0, none⟩)] rfl (by kernel_rfl) (by kernel_rfl) s7 (fun _ => by kernel_rfl) ?_
            refine (rloose_calls ((hT9.step s7).ref) hD91 hD92).mono ?_
            rintro e x8 ⟨⟨ys8, A8, c8, rfl, hys8, own8⟩, hx8⟩
            have s8 : Since W9 x8 := s7.then_ hx8
            have hyy : ys7 = ys8 := hys7.trans hys8.symm
            refine ⟨_, rfl, ?_⟩
            refine wh_call 4 28 #[.slice A7 ys7.length c7, .slice A8 ys8.length c8] rfl (by kernel_rfl) (by kernel_rfl) s8 (fun _ => by kernel_rfl) ?_
            refine (ints_calls A7 A8 c7 c8 ys7 ys8 x8 (own7.below hx8 (Nat.le_refl _)).ints own8.ints (by rw [hys7]; have := looseFrom_le D9 0; unfold looseN; omega)).mono ?_
            rintro e x9 ⟨rfl, hx9⟩
            have hyt : (ys7 == ys8) = true := by rw [hyy, beq_self_eq_true]
            have s9 : Since W9 x9 := s8.then_ hx9
            refine ⟨.bool true, by rw [hyt], ?_⟩
            refine wh_take 5 (.bool false) rfl (by kernel_rfl) (by kernel_rfl) (fun _ _ _ h => h) (by kernel_rfl) (fun _ _ => by kernel_rfl) ?_
            refine wh_take 6 (.bool false) rfl (by kernel_rfl) (by kernel_rfl) (fun _ _ _ h => h) (by kernel_rfl) (fun _ _ => by kernel_rfl) ?_
            refine wh_take 7 (.pointer (some ⟨gd, 0, none⟩)) rfl (by kernel_rfl) (by kernel_rfl) (fun _ _ _ h => h) (by kernel_rfl) (fun _ _ => by kernel_rfl) ?_
            refine wh_take 9 (.pointer (some ⟨gq, 0, none⟩)) rfl (by kernel_rfl) (by kernel_rfl) (fun _ _ _ h => h) (by kernel_rfl) (fun _ _ => by kernel_rfl) ?_
            refine wh_take 10 (.pointer (some ⟨gq, 0, none⟩)) rfl (by kernel_rfl) (by kernel_rfl) (fun _ _ _ h => h) (by kernel_rfl) (fun _ _ => by kernel_rfl) ?_
            refine wh_take 11 (.pointer (some ⟨gq, 0, none⟩)) rfl (by kernel_rfl) (by kernel_rfl) (fun _ _ _ h => h) (by kernel_rfl) (fun _ _ => by kernel_rfl) ?_
            refine wh_take 12 (.slice (some ⟨gS, 0, none⟩) D9.length D9.length) rfl (by kernel_rfl) (by kernel_rfl) (fun _ _ _ h => h) (by kernel_rfl) (fun W h => exec_load_cell 50 (.tmp 171) rfl ⟨gq, 0, none⟩ _ (by kernel_rfl) ((hH9.step h).cellD 0 _ rfl) Try.isAgg50) ?_
            refine wh_take 13 (.int .i64 (D9.length : Nat)) rfl (by kernel_rfl) (by kernel_rfl) (fun _ _ _ h => h) (by kernel_rfl) (fun _ _ => by kernel_rfl) ?_
            refine wh_call 8 31 #[.pointer (some ⟨gd, 0, none⟩)] rfl (by kernel_rfl) (by kernel_rfl) s9 (fun _ => by kernel_rfl) ?_
            refine (live_len ((hT9.step s9).live)).mono ?_
            rintro e x10 ⟨rfl, rfl⟩
            refine ⟨_, rfl, ?_⟩
            refine wh_take 14 (.bool false) rfl (by kernel_rfl) (by kernel_rfl) (fun _ _ _ h => h) (by kernel_rfl) (fun _ _ => exec_neq_int 3 3 (.tmp 168) (.tmp 173) rfl D9.length (by kernel_rfl) (by kernel_rfl)) ?_
            refine wh_take 15 (.bool false) rfl (by kernel_rfl) (by kernel_rfl) (fun _ _ _ h => h) (by kernel_rfl) (fun _ _ => by kernel_rfl) ?_
            refine wh_done (by kernel_rfl) s9 ?_
            simp only [Act.put, List.setIfInBounds_toArray, List.set_cons_zero, List.set_cons_succ]
            have hT10 := (hT9.step s9).drop
            clear hT9 hH9 own7 own8 d9 s7 s8 hD91 hD92
            go_wp2_with fail
            go_roundw
            case rel => exact ⟨j + 1, D9, V9, by omega, by go_num, hDl9, hvs9, hT10⟩
            case measure => simp [intOf]; omega
            -- tail3>
          · have hd23 : (x.kind == 3) = false := by simpa using h3
            clear h0 h1 h2 h3
            go_wp2_with fail
            clear hc0
            obtain ⟨W9, hW9⟩ : ∃ W9, W9 = w4 := ⟨_, rfl⟩
            rw [← hW9] at hT4 ⊢
            have hT9 := hT4
            have hDl9 := hDn.out
            have hvs9 : ∀ k (h : k < D.length), D[k].vers.length ≤ j + 1 := fun k h => Nat.le_succ_of_le (hvs k h)
            clear hT4 hW9 hD1 hD2 hvs hrx hB4
            obtain ⟨D9, hD9⟩ : ∃ D9, D9 = D := ⟨_, rfl⟩
            obtain ⟨V9, hV9⟩ : ∃ V9, V9 = V := ⟨_, rfl⟩
            subst hD9 hV9
            -- <tail1
            have hD91 : D9.length ≤ 4096 := by omega
            have hD92 : ∀ i (h : i < D9.length), D9[i].vers.length ≤ 100000 := fun i h => by have := hvs9 i h; omega
            have hH9 := hT9.ref.head
            have d9 : Since W9 W9.drew := (Since.refl _).drew
            refine wp_region_H (Since W9) 16 rfl (by kernel_rfl) ?_
            refine wh_take 0 (.pointer (some ⟨gd, 0, none⟩)) rfl (by kernel_rfl) (by kernel_rfl) (fun _ _ _ h => h) (by kernel_rfl) (fun _ _ => by kernel_rfl) ?_
            refine wh_take 2 (.pointer (some ⟨gq, 0, none⟩)) rfl (by kernel_rfl) (by kernel_rfl) (fun _ _ _ h => h) (by kernel_rfl) (fun _ _ => by kernel_rfl) ?_
            refine wh_call 1 29 #[.pointer (some ⟨gd, 0, none⟩)] rfl (by kernel_rfl) (by kernel_rfl) d9 (fun _ => by kernel_rfl) ?_
            refine (live_loose ((hT9.step d9).live) hD91).mono ?_
            rintro e x7 ⟨⟨ys7, A7, c7, rfl, hys7, own7⟩, hx7⟩
            rw [looseAll_val] at hys7
            have s7 : Since W9 x7 := d9.then_ hx7
            refine ⟨_, rfl, ?_⟩
            refine wh_call 3 30 #[.pointer (some ⟨gq, 0, none⟩)] rfl (by kernel_rfl) (by kernel_rfl) s7 (fun _ => by kernel_rfl) ?_
            refine (rloose_calls ((hT9.step s7).ref) hD91 hD92).mono ?_
            rintro e x8 ⟨⟨ys8, A8, c8, rfl, hys8, own8⟩, hx8⟩
            have s8 : Since W9 x8 := s7.then_ hx8
            have hyy : ys7 = ys8 := hys7.trans hys8.symm
            refine ⟨_, rfl, ?_⟩
            refine wh_call 4 28 #[.slice A7 ys7.length c7, .slice A8 ys8.length c8] rfl (by kernel_rfl) (by kernel_rfl) s8 (fun _ => by kernel_rfl) ?_
            refine (ints_calls A7 A8 c7 c8 ys7 ys8 x8 (own7.below hx8 (Nat.le_refl _)).ints own8.ints (by rw [hys7]; have := looseFrom_le D9 0; unfold looseN; omega)).mono ?_
            rintro e x9 ⟨rfl, hx9⟩
            have hyt : (ys7 == ys8) = true := by rw [hyy, beq_self_eq_true]
            have s9 : Since W9 x9 := s8.then_ hx9
            refine ⟨.bool true, by rw [hyt], ?_⟩
            refine wh_take 5 (.bool false) rfl (by kernel_rfl) (by kernel_rfl) (fun _ _ _ h => h) (by kernel_rfl) (fun _ _ => by kernel_rfl) ?_
            refine wh_take 6 (.bool false) rfl (by kernel_rfl) (by kernel_rfl) (fun _ _ _ h => h) (by kernel_rfl) (fun _ _ => by kernel_rfl) ?_
            refine wh_take 7 (.pointer (some ⟨gd, 0, none⟩)) rfl (by kernel_rfl) (by kernel_rfl) (fun _ _ _ h => h) (by kernel_rfl) (fun _ _ => by kernel_rfl) ?_
            refine wh_take 9 (.pointer (some ⟨gq, 0, none⟩)) rfl (by kernel_rfl) (by kernel_rfl) (fun _ _ _ h => h) (by kernel_rfl) (fun _ _ => by kernel_rfl) ?_
            refine wh_take 10 (.pointer (some ⟨gq, 0, none⟩)) rfl (by kernel_rfl) (by kernel_rfl) (fun _ _ _ h => h) (by kernel_rfl) (fun _ _ => by kernel_rfl) ?_
            refine wh_take 11 (.pointer (some ⟨gq, 0, none⟩)) rfl (by kernel_rfl) (by kernel_rfl) (fun _ _ _ h => h) (by kernel_rfl) (fun _ _ => by kernel_rfl) ?_
            refine wh_take 12 (.slice (some ⟨gS, 0, none⟩) D9.length D9.length) rfl (by kernel_rfl) (by kernel_rfl) (fun _ _ _ h => h) (by kernel_rfl) (fun W h => exec_load_cell 50 (.tmp 171) rfl ⟨gq, 0, none⟩ _ (by kernel_rfl) ((hH9.step h).cellD 0 _ rfl) Try.isAgg50) ?_
            refine wh_take 13 (.int .i64 (D9.length : Nat)) rfl (by kernel_rfl) (by kernel_rfl) (fun _ _ _ h => h) (by kernel_rfl) (fun _ _ => by kernel_rfl) ?_
            refine wh_call 8 31 #[.pointer (some ⟨gd, 0, none⟩)] rfl (by kernel_rfl) (by kernel_rfl) s9 (fun _ => by kernel_rfl) ?_
            refine (live_len ((hT9.step s9).live)).mono ?_
            rintro e x10 ⟨rfl, rfl⟩
            refine ⟨_, rfl, ?_⟩
            refine wh_take 14 (.bool false) rfl (by kernel_rfl) (by kernel_rfl) (fun _ _ _ h => h) (by kernel_rfl) (fun _ _ => exec_neq_int 3 3 (.tmp 168) (.tmp 173) rfl D9.length (by kernel_rfl) (by kernel_rfl)) ?_
            refine wh_take 15 (.bool false) rfl (by kernel_rfl) (by kernel_rfl) (fun _ _ _ h => h) (by kernel_rfl) (fun _ _ => by kernel_rfl) ?_
            refine wh_done (by kernel_rfl) s9 ?_
            simp only [Act.put, List.setIfInBounds_toArray, List.set_cons_zero, List.set_cons_succ]
            have hT10 := (hT9.step s9).drop
            clear hT9 hH9 own7 own8 d9 s7 s8 hD91 hD92
            go_wp2_with fail
            go_roundw
            case rel => exact ⟨j + 1, D9, V9, by omega, by go_num, hDl9, hvs9, hT10⟩
            case measure => simp [intOf]; omega
            -- tail1>
  · obtain rfl : j = l.length := by omega
    have hd1 : decide (l.length < l.length) = false := decide_eq_false (by omega)
    replace hDn := Lib.hid hDn
    clear hst hpk hvs hlt hj
    go_wp2_with fail
    clear hd1
    go_loopw [14] (fun i wx => ∃ k : Nat, k ≤ D.length ∧ i = .int .i64 (k : Int) ∧ Two w wx gd gq gS gV D D V []) (fun i _ => D.length - (intOf i).toNat)
    case atStart => exact ⟨0, Nat.zero_le _, rfl, hT⟩
    clear hT
    case round =>
    obtain ⟨k, hk, rfl, hT⟩ := hrel
    have hc0 := hT.ref.head.cellD 0 _ rfl
    by_cases hkD : k < D.length
    · obtain ⟨bb, hbb⟩ : ∃ bb, bb = D[k].last := ⟨_, rfl⟩
      have hb64 : bb.length = 64 := by
        rw [hbb]
        exact Sct.last_wf (hT.ref.wf _ (List.getElem_mem hkD))
      obtain ⟨L, hL⟩ : ∃ L, L = bb.map B8 := ⟨_, rfl⟩
      have HL := Lib.hid (show L = D[k].last.map B8 by rw [hL, hbb])
      have HLl := Lib.hid (show L.length = 64 by rw [hL, List.length_map]; exact hb64)
      have HLo := Lib.hid (show ∀ v ∈ L, v.oneCell' = true by rw [hL]; exact bytes_oneCell _)
      have QL := Lib.hid (show ∀ w, (Op.equalIn 10000 37 (.agg L.toArray) (.agg L.toArray)).run Try.prog w = .ok true w from fun w => by rw [hL, neq_block _ _ hb64 hb64, beq_self_eq_true])
      have HTL := Lib.hid (show (L.drop 0).take 64 = L from List.take_of_length_le (Nat.le_of_eq HLl.out))
      have Hgb := Lib.hid guard_block
      have hk0 : (0 : Int) ≤ (k : Int) := by omega
      have hk1 : (k : Int) < (D.length : Int) := by omega
      have hk2 : (D.length : Int) ≤ 4096 := by omega
      have hd2 : decide (k < D.length) = true := decide_eq_true hkD
      clear hbb hb64 hL
      go_wp2_with fail
      refine (live_read_L hT.live k hkD (hD2 k hkD) L HL).mono ?_
      rintro e w6 ⟨rfl, hB6⟩
      clear hc0
      go_wp2_with (first
        | (refine wpList_alloc_row 15 rfl 37 rfl _ rfl zero_block ?_; intro w8 hr8 hs8 hB8; clear hs8)
        | (refine wpList_store_part 37 (.tmp 15) (.tmp 193) rfl hr8 0 L rfl rfl rfl (by rw [HLl.out]; exact Try.sizeOf37) (by rw [HLl.out]; decide) HLo.out ?_
           intro w7 hb7 hs7 hg7
           clear hs7
           rw [splice_all _ _ (by rw [HLl.out]; rfl)] at hb7))
      have hB7 : Below w6.heap.size w6 w7 := hB8.grown hg7 hB8.size (fun j e => by cases e; exact Nat.le_refl _)
      have hT7 := (hT.step hB6).step hB7
      clear hr8 hB8 hg7 hT
      -- <heldF
      have e0 : Since w7 w7.drew := (Since.refl _).drew
      refine wp_region_H (Since w7) 9 rfl (by kernel_rfl) ?_
      refine wh_take 0 (.int .i64 0) rfl (by kernel_rfl) (by kernel_rfl) (fun _ _ _ h => h) (by kernel_rfl) (fun _ _ => by kernel_rfl) ?_
      refine wh_take 1 (.bool false) rfl (by kernel_rfl) (by kernel_rfl) (fun _ _ _ h => h) (by kernel_rfl) (fun _ _ => by kernel_rfl) ?_
      refine wh_take 2 (.bool false) rfl (by kernel_rfl) (by kernel_rfl) (fun _ _ _ h => h) (by kernel_rfl) (fun _ _ => by kernel_rfl) ?_
      refine wh_take 3 (.agg L.toArray) rfl (by kernel_rfl) (by kernel_rfl) (fun _ _ _ h => h) (by kernel_rfl) (fun W h => exec_load_part 37 (.tmp 15) rfl (hb7.step h) 0 64 L (by kernel_rfl) HTL.out HLl.out Try.isAgg37 Try.sizeOf37) ?_
      refine wh_take 4 (.pointer (some ⟨gq, 0, none⟩)) rfl (by kernel_rfl) (by kernel_rfl) (fun _ _ _ h => h) (by kernel_rfl) (fun _ _ => by kernel_rfl) ?_
      refine wh_take 5 (.int .i64 (k : Nat)) rfl (by kernel_rfl) (by kernel_rfl) (fun _ _ _ h => h) (by kernel_rfl) (fun _ _ => by kernel_rfl) ?_
      refine wh_call 6 23 #[.pointer (some ⟨gq, 0, none⟩), .int .i64 (k : Nat)] rfl (by kernel_rfl) (by kernel_rfl) e0 (fun _ => by kernel_rfl) ?_
      refine (rread_calls ((hT7.step e0).ref) k hkD (hD2 k hkD) L HL).mono ?_
      rintro e y2 ⟨rfl, hy2⟩
      have e1 : Since w7 y2 := e0.then_ hy2
      refine ⟨_, rfl, ?_⟩
      refine wh_take 7 (.bool false) rfl (by kernel_rfl) (by kernel_rfl) (fun _ _ _ h => h) (by kernel_rfl) (fun W _ => exec_neq 37 37 (.tmp 198) (.tmp 201) rfl L.toArray L.toArray (by kernel_rfl) (by kernel_rfl) true Hgb.out (QL.out W)) ?_
      refine wh_take 8 (.bool false) rfl (by kernel_rfl) (by kernel_rfl) (fun _ _ _ h => h) (by kernel_rfl) (fun _ _ => by kernel_rfl) ?_
      refine wh_done (by kernel_rfl) e1 ?_
      simp only [Act.put, List.setIfInBounds_toArray, List.set_cons_zero, List.set_cons_succ]
      have hT9 := hT7.step e1
      -- heldF>
      clear hT7 hb7 e0 e1
      go_wp2_with fail
      go_roundw
      case rel => exact ⟨k + 1, by omega, by go_num, hT9⟩
      case measure => simp [intOf]; omega
    · obtain rfl : k = D.length := by omega
      have hd2 : decide (D.length < D.length) = false := decide_eq_false (by omega)
      have hB9 := hT.live.below
      clear hT hDn
      go_wp2_with fail
      refine (wakes03_calls _).mono ?_
      rintro e w9 ⟨rfl, hB10⟩
      go_wp2_with fail
      go_ret
      exact ⟨rfl, bthen hB9 hB10⟩

set_option maxRecDepth 100000 in
set_option maxHeartbeats 16000000 in
theorem diskPlays_walk (n : Int) (A : Option Addr) (cap : Nat) (l : List DStep) (w : World) (hn1 : -9223372036854775808 ≤ n) (hn2 : n ≤ 9223372036854775807) (hlc : l.length ≤ cap) (hm : cap ≤ maxLen) (hst : DStepsAt w w.heap.size A l) :
    Calls Try.prog 3 #[.int .i64 n, .slice A l.length cap] w fun e w' => e = .returned (.bool true) ∧ Below w.heap.size w w' := by
  unfold maxLen at hm
  cases hf : fairB l
  · go_enter Try.func3, Try.ntmps3
    go_wp2_with fail
    refine (fair_b A cap l _ _ hst (by omega) false hf).mono ?_
    rintro e w2 ⟨rfl, rfl⟩
    clear hf hst
    go_wp2_with fail
    refine (wakes03_calls _).mono ?_
    rintro e w2 ⟨rfl, hB2⟩
    go_wp2_with fail
    go_ret
    exact ⟨rfl, hB2⟩
  have hlen := fairB_len hf
  by_cases hbig : 100 < n ∧ n ≤ 4096
  · have hd1 : decide (100 < n) = true := decide_eq_true hbig.1
    have hd2 : decide (n ≤ 4096) = true := decide_eq_true hbig.2
    clear hbig
    go_enter Try.func3, Try.ntmps3
    go_wp2_with fail
    refine (fair_b A cap l _ _ hst (by omega) true hf).mono ?_
    rintro e w2 ⟨rfl, rfl⟩
    clear hf hst
    go_wp2_with fail
    refine (wakes03_calls _).mono ?_
    rintro e w2 ⟨rfl, hB2⟩
    go_wp2_with fail
    go_ret
    exact ⟨rfl, hB2⟩
  have hpk := fairB_pick hf
  by_cases hno : n < 1 ∨ 4096 < n
  · go_enter Try.func3, Try.ntmps3
    go_wp2_with fail
    refine (fair_b A cap l _ _ hst (by omega) true hf).mono ?_
    rintro e w2 ⟨rfl, rfl⟩
    have hd1 : decide (100 < n) = true ∧ decide (n ≤ 4096) = false ∨ decide (100 < n) = false := by
      rcases hno with h | h
      · exact .inr (decide_eq_false (by omega))
      · exact .inl ⟨decide_eq_true (by omega), decide_eq_false (by omega)⟩
    clear hf hst hbig hpk hn1 hn2
    have hno' := Lib.hid hno
    clear hno
    have hk0 : (0 : Int) ≤ (l.length : Int) := by omega
    obtain ⟨t, ht⟩ : ∃ t, decide ((0 : Int) < (l.length : Int)) = t := ⟨_, rfl⟩
    have ht2 : decide (0 < l.length) = t := by
      rw [← ht]
      by_cases h : 0 < l.length
      · rw [decide_eq_true h, decide_eq_true (by omega)]
      · rw [decide_eq_false h, decide_eq_false (by omega)]
    rcases hd1 with ⟨hd1, hd2⟩ | hd1
    all_goals
      go_wp2_with fail
      refine (newDisk_no n hno'.out _).mono ?_
      rintro e w2 ⟨rfl, rfl⟩
      go_wp2_with fail
      refine (rnew_no n hno'.out _).mono ?_
      rintro e w2 ⟨rfl, rfl⟩
      go_wp2_with fail
      go_loop [9] (fun i => i = .int .i64 0) (fun _ => 0)
      case atStart => exact rfl
      case round =>
        subst hrel
        cases t
        all_goals
          go_wp2_with fail
          go_loop [14] (fun i => i = .int .i64 0) (fun _ => 0)
          case atStart => exact rfl
          case round =>
            subst hrel
            go_wp2_with fail
            refine (wakes03_calls _).mono ?_
            rintro e w2 ⟨rfl, hB2⟩
            go_wp2_with fail
            go_ret
            exact ⟨rfl, hB2⟩
  obtain ⟨m, rfl⟩ : ∃ m : Nat, n = (m : Int) := ⟨n.toNat, by omega⟩
  exact diskPlays_main m A cap l w (by omega) (by omega) hst hf
end Go.Proofs.Ythieeidbfdhaaaa
