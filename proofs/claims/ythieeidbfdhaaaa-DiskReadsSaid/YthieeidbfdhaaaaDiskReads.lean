/-
  revetmentlaw03.DiskReads returns true: the walk.
-/
import Derived.Test.YthieeidbfdhaaaaLiveMore
namespace Go.Proofs.Ythieeidbfdhaaaa
open Go Go.RowKit

/-- The disk D reads as the blocks ws say; each sector has at most i versions. -/
structure DW (size : Nat) (D : List Sct) (ws : List (List UInt8)) (i : Nat) : Prop where
  len : D.length = size
  wl : ws.length = 20
  w64 : ∀ x ∈ ws, x.length = 64
  same : ∀ k (h : k < D.length) (h2 : k < ws.length), D[k].last = ws[k]
  vers : ∀ k (h : k < D.length), D[k].vers.length ≤ i
theorem DW.zero (size : Nat) : DW size (List.replicate size Sct.zero) (List.replicate 20 (zeros 64)) 0 := by
  refine ⟨List.length_replicate, List.length_replicate, fun x hx => ?_, fun k h h2 => ?_, fun k h => ?_⟩
  · rw [(List.mem_replicate.1 hx).2]
    exact List.length_replicate
  · rw [List.getElem_replicate, List.getElem_replicate]
    rfl
  · rw [List.getElem_replicate]
    exact Nat.zero_le _
theorem DW.flush {size i : Nat} {D : List Sct} {ws : List (List UInt8)} (h : DW size D ws i) : DW size (flushN D) ws (i + 1) := by
  have hl : (flushN D).length = D.length := List.length_map _
  refine ⟨hl.trans h.len, h.wl, h.w64, fun k h1 h2 => ?_, fun k h1 => ?_⟩
  · rw [← h.same k (hl ▸ h1) h2]
    simp only [flushN, List.getElem_map]
    rfl
  · simp only [flushN, List.getElem_map]
    exact Nat.zero_le _
theorem DW.write {size i : Nat} {D : List Sct} {ws : List (List UInt8)} (h : DW size D ws i) (k : Nat) (hk : k < D.length) (b : List UInt8) (hb : b.length = 64) : DW size (D.set k ⟨D[k].there, D[k].vers ++ [b]⟩) (ws.set k b) (i + 1) := by
  refine ⟨by rw [List.length_set, h.len], by rw [List.length_set, h.wl], fun x hx => ?_, fun j h1 h2 => ?_, fun j h1 => ?_⟩
  · rcases List.mem_or_eq_of_mem_set hx with hx | rfl
    · exact h.w64 x hx
    · exact hb
  · rw [List.length_set] at h1 h2
    rw [List.getElem_set, List.getElem_set]
    split
    · simp [Sct.last]
    · exact h.same j h1 h2
  · rw [List.length_set] at h1
    rw [List.getElem_set]
    split
    · have := h.vers k hk
      simp only [List.length_append, List.length_singleton]
      omega
    · have := h.vers j h1
      omega
theorem DW.get {size i : Nat} {D : List Sct} {ws : List (List UInt8)} (_h : DW size D ws i) (k : Nat) (hk : k < ws.length) (b : List UInt8) : (ws.set k b)[k]'(by rw [List.length_set]; exact hk) = b := by
  rw [List.getElem_set_self]

theorem zero_want (w : World) : (zeroValue 60).run Try.prog w = .ok (.agg (((List.replicate 20 (zeros 64)).flatten).map B8).toArray) w := by kernel_rfl
theorem size_n (n : UInt8) : (1 : Int) + (n.toNat : Int) % 20 = ((1 + n.toNat % 20 : Nat) : Int) := by omega

attribute [local go_sem ↓ high] exec_lblock
attribute [local go_sem ↓] Go.wp_at_zero Go.wp_at_succ

set_option maxRecDepth 100000 in
set_option maxHeartbeats 4000000 in
theorem diskReads_walk (A : Option Addr) (cap : Nat) (l : List DStep) (n : UInt8) (w : World) (hlc : l.length ≤ cap) (hm : cap ≤ maxLen) (hst : DStepsAt w w.heap.size A l) :
    Calls Try.prog 7 #[.slice A l.length cap, B8 n] w fun e w' => e = .returned (.bool true) ∧ Below w.heap.size w w' := by
  unfold maxLen at hm
  have hp0 := n.toNat_lt
  obtain ⟨sz, hsz⟩ : ∃ sz, sz = 1 + n.toNat % 20 := ⟨_, rfl⟩
  have hs := Lib.hid (size_n n)
  rw [← hsz] at hs
  have hs1 : 1 ≤ sz := by omega
  have hs2 : sz ≤ 20 := by omega
  go_enter Try.func7, Try.ntmps7
  go_wp2_with fail
  rw [hs.out]
  clear hsz hs hp0
  refine (live_new (brefl w) sz hs1 (by omega) (F := []) (by simp)).mono ?_
  rintro e w1 ⟨⟨gd, rfl, hv1⟩, hB1⟩
  cases hf : fairB l
  · have hst1 := hst.below hB1
    go_wp2_with fail
    refine (fair_b A cap l _ _ hst1 (by omega) false hf).mono ?_
    rintro e w2 ⟨rfl, rfl⟩
    go_wp2_with fail
    refine (wakes03_calls _).mono ?_
    rintro e w2 ⟨rfl, hB2⟩
    go_wp2_with fail
    go_ret
    exact ⟨rfl, bthen hB1 hB2⟩
  have hlen := fairB_len hf
  go_wp2_with fail
  refine (fair_b A cap l _ _ (hst.below hB1) (by omega) true hf).mono ?_
  rintro e w2 ⟨rfl, rfl⟩
  clear hf hlc hm
  go_wp2_with (refine wpList_alloc_row 8 rfl 60 rfl _ rfl zero_want ?_; intro w2 hr2 hs2 hB2; clear hs2)
  have hv2 := hv1.add hB2 w1.heap.size (Nat.le_refl _) hr2.lt
  have hg0 := hB1.size
  clear hv1
  go_loopw [9] (fun i wr => ∃ (j : Nat) (D : List Sct) (ws : List (List UInt8)), j ≤ l.length ∧ i = .int .i64 (j : Int) ∧ DW sz D ws j ∧ Live w wr gd D [w1.heap.size] ∧ RowAt wr w1.heap.size 60 (ws.flatten.map B8)) (fun i _ => l.length - (intOf i).toNat)
  case atStart => exact ⟨0, _, _, Nat.zero_le _, rfl, DW.zero sz, hv2, hr2⟩
  case round =>
    obtain ⟨j, D, ws, hj, rfl, hdw, hv, hr⟩ := hrel
    clear hv2 hr2
    have hD := hdw.len
    have hD1 : D.length ≤ 4096 := by omega
    have hD2 : ∀ i (h : i < D.length), D[i].vers.length ≤ 100000 := fun i h => by have := hdw.vers i h; omega
    by_cases hlt : j < l.length
    · obtain ⟨b, o, rfl, hb1, hc⟩ := (hst.below hv.below).1.resolve_left (fun e => by rw [e] at hlt; simp at hlt)
      have hc0 : wr.cell? ⟨b, o + j * 4, none⟩ = some (.int .i64 l[j].kind) := hc j hlt 0 _ rfl
      have hc1 : wr.cell? ⟨b, o + j * 4 + 1, none⟩ = some (.int .i64 l[j].place) := hc j hlt 1 _ rfl
      have hc2 : wr.cell? ⟨b, o + j * 4 + 2, none⟩ = some (B8 l[j].v) := hc j hlt 2 _ rfl
      obtain ⟨k, hk, hks⟩ := modN_nat l[j].place (show 0 < sz by omega)
      have hok := hst.2 l[j] (List.getElem_mem hlt)
      have hp1 := hok.p1
      have hp2 := hok.p2
      generalize l[j] = x at hc0 hc1 hc2 hk hp1 hp2
      replace hk := Lib.hid hk
      replace hD := Lib.hid hD
      have hk0 : (0 : Int) ≤ (j : Int) := by omega
      have hk1 : (j : Int) < (l.length : Int) := by omega
      have hd1 : decide (j < l.length) = true := decide_eq_true hlt
      clear hc hok hst
      by_cases hkd : x.kind = 2
      · have hd2 : (x.kind == 2) = true := by simpa using hkd
        clear hkd
        go_wp2_with fail
        refine (mod_calls _ _ _ (by omega) (by omega)).mono ?_
        rintro e w' ⟨rfl, rfl⟩
        rw [hk.out]
        go_wp2_with fail
        refine (live_flush hv hD1 hD2).mono ?_
        rintro e w3 ⟨rfl, hv3, hk3⟩
        have hr3 := hk3.row (g := w1.heap.size) (by simp) hr
        go_wp2_with fail
        go_roundw
        case rel => exact ⟨j + 1, _, _, by omega, by go_num, hdw.flush, hv3, hr3⟩
        case measure => simp [intOf]; omega
      · have hd2 : (x.kind == 2) = false := by simpa using hkd
        have hka : (0 : Int) ≤ (k : Int) := by omega
        have hkb : (k : Int) < 20 := by omega
        have hkD : k < D.length := by rw [hD.out]; exact hks
        have hkw : k < ws.length := by rw [hdw.wl]; omega
        obtain ⟨L, hL⟩ : ∃ L, L = (fillB x.v).map B8 := ⟨_, rfl⟩
        have HL := Lib.hid hL
        have HLl := Lib.hid (show L.length = 64 by rw [hL, List.length_map]; exact fillB_length _)
        have HLo := Lib.hid (show ∀ v ∈ L, v.oneCell' = true by rw [hL]; exact bytes_oneCell _)
        clear hkd hL
        go_wp2_with fail
        refine (mod_calls _ _ _ (by omega) (by omega)).mono ?_
        rintro e w' ⟨rfl, rfl⟩
        rw [hk.out]
        go_wp2_with fail
        refine (fill_L x.v L HL _).mono ?_
        rintro e w3 ⟨rfl, hB3⟩
        have hv3 := hv.step hB3
        have hr3 := hr.step hB3
        clear hc0 hc1 hc2
        have hdw' := hdw.write k hkD (fillB x.v) (fillB_length _)
        have Hsp := Lib.hid (show splice (ws.flatten.map B8) (k * 64) L = (ws.set k (fillB x.v)).flatten.map B8 by rw [HL.out]; exact cells_set ws hdw.w64 k hkw _ (fillB_length _))
        have HPT := Lib.hid (show (((ws.set k (fillB x.v)).flatten.map B8).drop (k * 64)).take 64 = L by
          rw [cells_part _ hdw'.w64 k (by rw [List.length_set]; exact hkw), List.getElem_set_self, HL.out])
        have Hfit := Lib.hid (show k * 64 + L.length ≤ (ws.flatten.map B8).length by rw [List.length_map, flat_length ws hdw.w64, hdw.wl, HLl.out]; omega)
        have hk' : k < (D.set k ⟨D[k].there, D[k].vers ++ [fillB x.v]⟩).length := by rw [List.length_set]; exact hkD
        have hlast := Lib.hid (show L = ((D.set k ⟨D[k].there, D[k].vers ++ [fillB x.v]⟩)[k]'hk').last.map B8 by rw [List.getElem_set_self, HL.out]; simp [Sct.last])
        have hD3 := hdw'.vers k hk'
        obtain ⟨D', hD'⟩ : ∃ D', D' = D.set k ⟨D[k].there, D[k].vers ++ [fillB x.v]⟩ := ⟨_, rfl⟩
        obtain ⟨ws', hws'⟩ : ∃ ws', ws' = ws.set k (fillB x.v) := ⟨_, rfl⟩
        simp only [← hD', ← hws'] at hdw' HPT Hsp hlast hk' hD3
        replace hD' := Lib.hid hD'
        clear hws'
        go_wp2_with (first
          | (refine wpList_store_part 37 (.tmp 74) (.tmp 73) rfl hr3 (k * 64) L rfl rfl rfl (by rw [HLl.out]; exact Try.sizeOf37) Hfit.out HLo.out ?_; intro w4 hr4 hs4 hg4; clear hs4; rw [Hsp.out] at hr4)
          | (refine wpList_load_part 79 rfl 37 (.tmp 78) rfl hr4 (k * 64) 64 L rfl rfl HPT.out HLl.out Try.isAgg37 Try.sizeOf37 ?_))
        have hv4 := hv3.grown hg4 (by simp) hg0
        refine (live_write_L hv4 k hkD (hD2 k hkD) (fillB x.v) (fillB_length _) D' hD'.out L HL).mono ?_
        rintro e w5 ⟨rfl, hv5, hk5⟩
        have hr5 := hk5.row (g := w1.heap.size) (by simp) hr4
        go_wp2_with fail
        refine (live_read_L hv5 k hk' (by omega) L hlast).mono ?_
        rintro e wb ⟨rfl, hB6⟩
        have hv6 := hv5.step hB6
        have hr6 := hr5.step hB6
        clear hr hr3 hr4 hv hv3 hv4 hv5 hr5
        go_wp2_with (first
          | (refine wpList_alloc_row 11 rfl 37 rfl _ rfl zero_block ?_; intro w7 hr7 hs7 hB7; clear hs7)
          | (refine wpList_store_part 37 (.tmp 11) (.tmp 86) rfl hr7 0 L rfl rfl rfl (by rw [HLl.out]; exact Try.sizeOf37) (by rw [HLl.out]; decide) HLo.out ?_
             intro w8 hb9 hs8 hg8
             clear hs8
             rw [splice_all _ _ (by rw [HLl.out]; rfl)] at hb9))
        have hB8 : Below wb.heap.size wb w8 := hB7.grown hg8 hB7.size (fun j e => by cases e; exact Nat.le_refl _)
        have hv8 := hv6.step hB8
        have hr9 := hr6.step hB8
        have HTL := Lib.hid (show (L.drop 0).take 64 = L from List.take_of_length_le (Nat.le_of_eq HLl.out))
        have Hgb := Lib.hid guard_block
        have HKB := Lib.hid (show k < 20 by omega)
        have QL := Lib.hid (show ∀ w, (Op.equalIn 10000 37 (.agg L.toArray) (.agg L.toArray)).run Try.prog w = .ok true w from fun w => by rw [HL.out, neq_block _ _ (fillB_length _) (fillB_length _), beq_self_eq_true])
        have d0 : Since w8 w8.drew := (Since.refl _).drew
        clear hr6 hr7 hv6
        refine wp_region_H (Since w8) 9 rfl (by kernel_rfl) ?_
        -- <held1
        refine wh_take 0 (.int .i64 0) rfl (by kernel_rfl) (by kernel_rfl) (fun _ _ _ h => h) (by kernel_rfl) (fun _ _ => by kernel_rfl) ?_
        refine wh_take 1 (.bool false) rfl (by kernel_rfl) (by kernel_rfl) (fun _ _ _ h => h) (by kernel_rfl) (fun _ _ => by kernel_rfl) ?_
        refine wh_take 2 (.bool false) rfl (by kernel_rfl) (by kernel_rfl) (fun _ _ _ h => h) (by kernel_rfl) (fun _ _ => by kernel_rfl) ?_
        refine wh_take 3 (.agg L.toArray) rfl (by kernel_rfl) (by kernel_rfl) (fun _ _ _ h => h) (by kernel_rfl) (fun W h => exec_load_part 37 (.tmp 11) rfl (hb9.step h) 0 64 L (by kernel_rfl) HTL.out HLl.out Try.isAgg37 Try.sizeOf37) ?_
        refine wh_take 4 (.int .i64 (k : Nat)) rfl (by kernel_rfl) (by kernel_rfl) (fun _ _ _ h => h) (by kernel_rfl) (fun _ _ => by kernel_rfl) ?_
        refine wh_take 5 (.pointer (some ⟨w1.heap.size, k * 64, none⟩)) rfl (by kernel_rfl) (by kernel_rfl) (fun _ _ _ h => h) (by kernel_rfl) (fun _ _ => by rw [exec_index 60 37 (.tmp 8) (.tmp 92) rfl w1.heap.size 0 k 20 64 Try.underlying60 Try.sizeOf37 (by kernel_rfl) (by kernel_rfl) HKB.out, Nat.zero_add]) ?_
        refine wh_take 6 (.agg L.toArray) rfl (by kernel_rfl) (by kernel_rfl) (fun _ _ _ h => h) (by kernel_rfl) (fun W h => exec_load_part 37 (.tmp 93) rfl (hr9.step h) (k * 64) 64 L (by kernel_rfl) HPT.out HLl.out Try.isAgg37 Try.sizeOf37) ?_
        refine wh_take 7 (.bool false) rfl (by kernel_rfl) (by kernel_rfl) (fun _ _ _ h => h) (by kernel_rfl) (fun W _ => exec_neq 37 37 (.tmp 91) (.tmp 94) rfl L.toArray L.toArray (by kernel_rfl) (by kernel_rfl) true Hgb.out (QL.out W)) ?_
        refine wh_take 8 (.bool false) rfl (by kernel_rfl) (by kernel_rfl) (fun _ _ _ h => h) (by kernel_rfl) (fun _ _ => by kernel_rfl) ?_
        -- held1>
        refine wh_done (by kernel_rfl) d0 ?_
        simp only [Act.put, List.setIfInBounds_toArray, List.set_cons_zero, List.set_cons_succ]
        go_wp2_with fail
        go_roundw
        case rel => exact ⟨j + 1, _, _, by omega, by go_num, hdw', hv8.step d0, hr9.step d0⟩
        case measure => simp [intOf]; omega
    · obtain rfl : j = l.length := by omega
      have hd0 : decide (l.length < l.length) = false := decide_eq_false (by omega)
      replace hD := Lib.hid hD
      go_wp2_with fail
      clear hd0
      go_loopw [13] (fun i wx => ∃ k : Nat, k ≤ sz ∧ i = .int .i64 (k : Int) ∧ Live w wx gd D [w1.heap.size] ∧ RowAt wx w1.heap.size 60 (ws.flatten.map B8)) (fun i _ => sz - (intOf i).toNat)
      case atStart => exact ⟨0, Nat.zero_le _, rfl, hv, hr⟩
      case round =>
        obtain ⟨k, hk, rfl, hv, hr⟩ := hrel
        by_cases hks : k < sz
        · have hka : (0 : Int) ≤ (k : Int) := by omega
          have hkb : (k : Int) < 20 := by omega
          have hkD : k < D.length := by rw [hD.out]; exact hks
          have hkw : k < ws.length := by rw [hdw.wl]; omega
          have hd1 : decide ((k : Int) < (sz : Int)) = true := decide_eq_true (by omega)
          have hd2 : decide (k < sz) = true := decide_eq_true hks
          have hx64 := hdw.w64 ws[k] (List.getElem_mem hkw)
          obtain ⟨L, hL⟩ : ∃ L, L = ws[k].map B8 := ⟨_, rfl⟩
          have HL := Lib.hid hL
          have HLl := Lib.hid (show L.length = 64 by rw [hL, List.length_map]; exact hx64)
          have HLo := Lib.hid (show ∀ v ∈ L, v.oneCell' = true by rw [hL]; exact bytes_oneCell _)
          have HPT := Lib.hid (show ((ws.flatten.map B8).drop (k * 64)).take 64 = L by rw [cells_part _ hdw.w64 k hkw, HL.out])
          have hlast := Lib.hid (show L = D[k].last.map B8 by rw [hdw.same k hkD hkw, HL.out])
          clear hL
          go_wp2_with fail
          refine (live_read_L hv k hkD (hD2 k hkD) L hlast).mono ?_
          rintro e wb ⟨rfl, hB6⟩
          have hv6 := hv.step hB6
          have hr6 := hr.step hB6
          clear hv hr
          go_wp2_with (first
            | (refine wpList_alloc_row 14 rfl 37 rfl _ rfl zero_block ?_; intro w7 hr7 hs7 hB7; clear hs7)
            | (refine wpList_store_part 37 (.tmp 14) (.tmp 106) rfl hr7 0 L rfl rfl rfl (by rw [HLl.out]; exact Try.sizeOf37) (by rw [HLl.out]; decide) HLo.out ?_
               intro w8 hb9 hs8 hg8
               clear hs8
               rw [splice_all _ _ (by rw [HLl.out]; rfl)] at hb9))
          have hB8 : Below wb.heap.size wb w8 := hB7.grown hg8 hB7.size (fun j e => by cases e; exact Nat.le_refl _)
          have hv8 := hv6.step hB8
          have hr9 := hr6.step hB8
          have HTL := Lib.hid (show (L.drop 0).take 64 = L from List.take_of_length_le (Nat.le_of_eq HLl.out))
          have Hgb := Lib.hid guard_block
          have HKB := Lib.hid (show k < 20 by omega)
          have QL := Lib.hid (show ∀ w, (Op.equalIn 10000 37 (.agg L.toArray) (.agg L.toArray)).run Try.prog w = .ok true w from fun w => by rw [HL.out, neq_block _ _ hx64 hx64, beq_self_eq_true])
          have d0 : Since w8 w8.drew := (Since.refl _).drew
          clear hr6 hr7 hv6 hx64
          refine wp_region_H (Since w8) 9 rfl (by kernel_rfl) ?_
          -- <held2
          refine wh_take 0 (.int .i64 0) rfl (by kernel_rfl) (by kernel_rfl) (fun _ _ _ h => h) (by kernel_rfl) (fun _ _ => by kernel_rfl) ?_
          refine wh_take 1 (.bool false) rfl (by kernel_rfl) (by kernel_rfl) (fun _ _ _ h => h) (by kernel_rfl) (fun _ _ => by kernel_rfl) ?_
          refine wh_take 2 (.bool false) rfl (by kernel_rfl) (by kernel_rfl) (fun _ _ _ h => h) (by kernel_rfl) (fun _ _ => by kernel_rfl) ?_
          refine wh_take 3 (.agg L.toArray) rfl (by kernel_rfl) (by kernel_rfl) (fun _ _ _ h => h) (by kernel_rfl) (fun W h => exec_load_part 37 (.tmp 14) rfl (hb9.step h) 0 64 L (by kernel_rfl) HTL.out HLl.out Try.isAgg37 Try.sizeOf37) ?_
          refine wh_take 4 (.int .i64 (k : Nat)) rfl (by kernel_rfl) (by kernel_rfl) (fun _ _ _ h => h) (by kernel_rfl) (fun _ _ => by kernel_rfl) ?_
          refine wh_take 5 (.pointer (some ⟨w1.heap.size, k * 64, none⟩)) rfl (by kernel_rfl) (by kernel_rfl) (fun _ _ _ h => h) (by kernel_rfl) (fun _ _ => by rw [exec_index 60 37 (.tmp 8) (.tmp 112) rfl w1.heap.size 0 k 20 64 Try.underlying60 Try.sizeOf37 (by kernel_rfl) (by kernel_rfl) HKB.out, Nat.zero_add]) ?_
          refine wh_take 6 (.agg L.toArray) rfl (by kernel_rfl) (by kernel_rfl) (fun _ _ _ h => h) (by kernel_rfl) (fun W h => exec_load_part 37 (.tmp 113) rfl (hr9.step h) (k * 64) 64 L (by kernel_rfl) HPT.out HLl.out Try.isAgg37 Try.sizeOf37) ?_
          refine wh_take 7 (.bool false) rfl (by kernel_rfl) (by kernel_rfl) (fun _ _ _ h => h) (by kernel_rfl) (fun W _ => exec_neq 37 37 (.tmp 111) (.tmp 114) rfl L.toArray L.toArray (by kernel_rfl) (by kernel_rfl) true Hgb.out (QL.out W)) ?_
          refine wh_take 8 (.bool false) rfl (by kernel_rfl) (by kernel_rfl) (fun _ _ _ h => h) (by kernel_rfl) (fun _ _ => by kernel_rfl) ?_
          -- held2>
          refine wh_done (by kernel_rfl) d0 ?_
          simp only [Act.put, List.setIfInBounds_toArray, List.set_cons_zero, List.set_cons_succ]
          go_wp2_with fail
          go_roundw
          case rel => exact ⟨k + 1, by omega, by go_num, hv8.step d0, hr9.step d0⟩
          case measure => simp [intOf]; omega
        · obtain rfl : k = sz := by omega
          have hd1 : decide ((k : Int) < (k : Int)) = false := decide_eq_false (by omega)
          have hd2 : decide (k < k) = false := decide_eq_false (by omega)
          go_wp2_with fail
          refine (wakes03_calls _).mono ?_
          rintro e w2 ⟨rfl, hB2⟩
          go_wp2_with fail
          go_ret
          exact ⟨rfl, bthen hv.below hB2⟩
end Go.Proofs.Ythieeidbfdhaaaa
