/-
  revetmentlaw03.DiskPicks returns true: the walk.
-/
import Derived.Test.YthieeidbfdhaaaaFair
namespace Go.Proofs.Ythieeidbfdhaaaa
open Go Go.RowKit

/-- The disk of the statement, k versions written. -/
def dpk (l : List UInt8) (k : Nat) : List Sct := [Sct.zero, ⟨fillB 200, (l.take k).map fillB⟩, Sct.zero]
theorem dpk_len (l : List UInt8) (k : Nat) : (dpk l k).length = 3 := rfl
theorem dpk_vers (l : List UInt8) (k : Nat) (hl : l.length ≤ 100) : ∀ i (h : i < (dpk l k).length), (dpk l k)[i].vers.length ≤ 100000 := by
  intro i h
  have h3 : i < 3 := h
  rcases (by omega : i = 0 ∨ i = 1 ∨ i = 2) with rfl | rfl | rfl
  · exact Nat.zero_le _
  · show ((l.take k).map fillB).length ≤ 100000
    rw [List.length_map, List.length_take]
    omega
  · exact Nat.zero_le _
theorem dpk_succ (l : List UInt8) (k : Nat) (hk : k < l.length) : dpk l (k + 1) = (dpk l k).set 1 ⟨((dpk l k)[1]'(by rw [dpk_len]; decide)).there, ((dpk l k)[1]'(by rw [dpk_len]; decide)).vers ++ [fillB l[k]]⟩ := by
  show [Sct.zero, ⟨fillB 200, (l.take (k + 1)).map fillB⟩, Sct.zero] = [Sct.zero, ⟨fillB 200, (l.take k).map fillB ++ [fillB l[k]]⟩, Sct.zero]
  rw [List.take_succ_eq_append_getElem hk, List.map_append]
  rfl
theorem dpk_loose (l : List UInt8) (k : Nat) (hk : k < l.length) : looseN (dpk l (k + 1)) = [1] := by
  have h : (l.take (k + 1)).map fillB ≠ [] := by
    intro e
    have := congrArg List.length e
    simp only [List.length_map, List.length_take, List.length_nil] at this
    omega
  show looseFrom 0 [Sct.zero, ⟨fillB 200, (l.take (k + 1)).map fillB⟩, Sct.zero] = [1]
  generalize (l.take (k + 1)).map fillB = M at h
  simp [looseFrom, h, Sct.zero]
/-- The disk behind the crash. -/
def dpw (v : UInt8) : List Sct := [Sct.zero, ⟨fillB v, []⟩, Sct.zero]
theorem dpk_crash (l : List UInt8) (hl : 0 < l.length) (p v : UInt8) (hv : (200 :: l)[p.toNat % (l.length + 1)]? = some v) : crashN (dpk l l.length) [p] = dpw v := by
  have h : l.map fillB ≠ [] := by
    intro e
    have := congrArg List.length e
    simp only [List.length_map, List.length_nil] at this
    omega
  have hm : (fillB 200 :: l.map fillB)[p.toNat % ((l.map fillB).length + 1)]? = some (fillB v) := by
    have e : fillB 200 :: l.map fillB = (200 :: l).map fillB := rfl
    rw [e, List.length_map, List.getElem?_map, hv]
    rfl
  show crashN [Sct.zero, ⟨fillB 200, (l.take l.length).map fillB⟩, Sct.zero] [p] = _
  rw [List.take_length]
  simp only [crashN, Sct.zero, if_pos, h, if_false, List.drop_one, List.tail_cons, Sct.pick]
  rw [hm]
  rfl

theorem dpw_vers (v : UInt8) : ∀ i (h : i < (dpw v).length), (dpw v)[i].vers.length ≤ 100000 := by
  intro i h
  have h3 : i < 3 := h
  rcases (by omega : i = 0 ∨ i = 1 ∨ i = 2) with rfl | rfl | rfl <;> exact Nat.zero_le _
theorem ints_one {w x : World} {A : Option Addr} {c : Nat} {ys : List Nat} (h : IntsAt w w.heap.size A ys) (hb : Below w.heap.size w (x.alloc (.cells #[.int .i64 1] 3))) (hy : Hid (ys = [1])) :
    Calls Try.prog 28 #[.slice A ys.length c, .slice (some ⟨x.heap.size, 0, none⟩) 1 1] (x.alloc (.cells #[.int .i64 1] 3)) fun e w' => e = .returned (.bool true) ∧ Below (x.alloc (.cells #[.int .i64 1] 3)).heap.size (x.alloc (.cells #[.int .i64 1] 3)) w' := by
  have h2 : IntsAt (x.alloc (.cells #[.int .i64 1] 3)) (x.alloc (.cells #[.int .i64 1] 3)).heap.size (some ⟨x.heap.size, 0, none⟩) [1] := by
    have hr := alloc_row x 3 [.int .i64 1]
    refine .inr ⟨x.heap.size, 0, rfl, by simp, fun j hj => ?_⟩
    rcases j with _ | j
    · exact hr.cellD 0 _ rfl
    · have : j + 1 < 1 := hj
      omega
  have h1 : IntsAt (x.alloc (.cells #[.int .i64 1] 3)) (x.alloc (.cells #[.int .i64 1] 3)).heap.size A ys := by
    rcases h.below hb with h | ⟨b, o, hA, hlt, hc⟩
    · exact .inl h
    · exact .inr ⟨b, o, hA, Nat.lt_of_lt_of_le hlt hb.size, hc⟩
  refine (ints_calls A (some ⟨x.heap.size, 0, none⟩) c 1 ys [1] _ h1 h2 (by rw [hy.out]; decide)).mono ?_
  rintro e w' ⟨rfl, hB⟩
  rw [hy.out]
  exact ⟨rfl, hB⟩

attribute [local go_sem ↓ high] exec_lblock
attribute [local go_sem ↓] Go.wp_at_zero Go.wp_at_succ

set_option maxRecDepth 100000 in
set_option maxHeartbeats 4000000 in
theorem diskPicks_walk (A : Option Addr) (cap : Nat) (l : List UInt8) (pick : UInt8) (w : World) (hlc : l.length ≤ cap) (hm : cap ≤ maxLen) (hb : BytesAt w w.heap.size A l) :
    Calls Try.prog 6 #[.slice A l.length cap, B8 pick] w fun e w' => e = .returned (.bool true) ∧ Below w.heap.size w w' := by
  unfold maxLen at hm
  by_cases hno : l.length = 0 ∨ 100 < l.length
  · have hl9 : l.length ≤ 9223372036854775807 := by omega
    rcases hno with hno | hno
    · go_enter Try.func6, Try.ntmps6
      rw [hno]
      clear hno hb
      go_wp2_with fail
      refine (wakes03_calls _).mono ?_
      rintro e w2 ⟨rfl, hB2⟩
      go_wp2_with fail
      go_ret
      exact ⟨rfl, hB2⟩
    · have h1 : ((l.length : Int) == 0) = false := beq_eq_false_iff_ne.2 (by omega)
      have h2 : (100 : Int) < (l.length : Int) := by omega
      have h3 : decide ((100 : Int) < (l.length : Int)) = true := decide_eq_true h2
      go_enter Try.func6, Try.ntmps6
      clear hno hb
      go_wp2_with fail
      refine (wakes03_calls _).mono ?_
      rintro e w2 ⟨rfl, hB2⟩
      go_wp2_with fail
      go_ret
      exact ⟨rfl, hB2⟩
  have hl0 : 0 < l.length := by omega
  have hl1 : l.length ≤ 100 := by omega
  have h1 : ((l.length : Int) == 0) = false := beq_eq_false_iff_ne.2 (by omega)
  have h2 : (l.length : Int) ≤ 100 := by omega
  have h3 : decide ((100 : Int) < (l.length : Int)) = false := decide_eq_false (by omega)
  clear hno
  obtain ⟨L2, hL2⟩ : ∃ L, L = (fillB 200).map B8 := ⟨_, rfl⟩
  have HL2 := Lib.hid hL2
  clear hL2
  go_enter Try.func6, Try.ntmps6
  go_wp2_with fail
  refine (live_new (brefl w) 3 (by decide) (by decide) (F := []) (by simp)).mono ?_
  rintro e w1 ⟨⟨gd, rfl, hv1⟩, hB1⟩
  go_wp2_with fail
  refine (fill_L 200 L2 HL2 _).mono ?_
  rintro e w2 ⟨rfl, hB2⟩
  go_wp2_with fail
  refine (live_write_L (hv1.step hB2) 1 (by decide) (by decide) (fillB 200) (fillB_length 200) [Sct.zero, ⟨zeros 64, [fillB 200]⟩, Sct.zero] rfl L2 HL2).mono ?_
  rintro e w3 ⟨rfl, hv3, _⟩
  go_wp2_with fail
  refine (live_flush hv3 (by decide) (by decide)).mono ?_
  rintro e w4 ⟨rfl, hv4, _⟩
  rw [show flushN [Sct.zero, ⟨zeros 64, [fillB 200]⟩, Sct.zero] = dpk l 0 from rfl] at hv4
  clear hv1 hv3 h1 h3
  go_wp2_with fail
  go_loopw [7] (fun i wr => ∃ k : Nat, k ≤ l.length ∧ i = .int .i64 (k : Int) ∧ Live w wr gd (dpk l k) []) (fun i _ => l.length - (intOf i).toNat)
  case atStart => exact ⟨0, Nat.zero_le _, rfl, hv4⟩
  case round =>
    obtain ⟨k, hk, rfl, hv⟩ := hrel
    by_cases hlt : k < l.length
    · obtain ⟨b, o, rfl, hb1, hc⟩ := (hb.below hv.below).resolve_left (fun e => by rw [e] at hlt; simp at hlt)
      have hcell := hc k hlt
      have hsucc := Lib.hid (dpk_succ l k hlt)
      have hloose := Lib.hid (dpk_loose l k hlt)
      have hvl := dpk_vers l k hl1 1 (by rw [dpk_len]; decide)
      have hget : l[k]?.getD 0 = l[k] := by rw [List.getElem?_eq_getElem hlt]; rfl
      rw [hget] at hcell
      have hk0 : (0 : Int) ≤ (k : Int) := by omega
      have hk1 : (k : Int) < (l.length : Int) := by omega
      have hd1 : decide (k < l.length) = true := decide_eq_true hlt
      obtain ⟨L, hL⟩ : ∃ L, L = (fillB l[k]).map B8 := ⟨_, rfl⟩
      have HL := Lib.hid hL
      clear hc hget hL hb hvl
      go_wp2_with fail
      refine (fill_L _ L HL _).mono ?_
      rintro e w5 ⟨rfl, hB5⟩
      clear hcell
      go_wp2_with fail
      refine (live_write_L (hv.step hB5) 1 (by rw [dpk_len]; decide) (dpk_vers l k hl1 1 (by rw [dpk_len]; decide)) (fillB l[k]) (fillB_length _) (dpk l (k + 1)) hsucc.out L HL).mono ?_
      rintro e w6 ⟨rfl, hv6, _⟩
      go_wp2_with fail
      refine (live_loose hv6 (by rw [dpk_len]; decide)).mono ?_
      rintro e w7 ⟨⟨ys, A7, c7, rfl, hys, hown⟩, hB7⟩
      rw [looseAll_val, hloose.out] at hys
      replace hys := Lib.hid hys
      have hv7 := hv6.step hB7
      have hli := Lib.hid hown.ints
      clear hown
      go_wp2_with fail
      refine (ints_one hli.out (balloc (brefl w7) _) hys).mono ?_
      rintro e w8 ⟨rfl, hB8⟩
      have hv8 := hv7.step (bthen (balloc (brefl w7) _) hB8)
      go_wp2_with fail
      go_roundw
      case rel => exact ⟨k + 1, by omega, by go_num, hv8⟩
      case measure => simp [intOf]; omega
    · obtain rfl : k = l.length := by omega
      have hkl := Nat.mod_lt pick.toNat (show 0 < l.length + 1 by omega)
      obtain ⟨k, hk9⟩ : ∃ k, k = pick.toNat % (l.length + 1) := ⟨_, rfl⟩
      rw [← hk9] at hkl
      obtain ⟨v, hval⟩ : ∃ v, (200 :: l)[pick.toNat % (l.length + 1)]? = some v := ⟨_, List.getElem?_eq_getElem (by rw [List.length_cons, ← hk9]; exact hkl)⟩
      have hcr := Lib.hid (dpk_crash l hl0 pick v hval)
      have hp0 := pick.toNat_lt
      have hpi : (pick.toNat : Int) % ((l.length : Int) + 1) = (k : Int) := by rw [hk9, Int.natCast_emod, Int.natCast_add]; rfl
      have hw5 := hv.add (alloc_below wr (.cells #[B8 pick] 5)) wr.heap.size (Nat.le_refl _) (by simp)
      have hp5 := lit_bytes wr 5 (0, 0) [pick] #[B8 pick] rfl
      have hd0 : decide (l.length < l.length) = false := decide_eq_false (by omega)
      replace hpi := Lib.hid hpi
      go_wp2_with fail
      refine (live_crash hw5 (by rw [dpk_len]; decide) (dpk_vers l l.length hl1) (some ⟨wr.heap.size, 0, none⟩) 1 [pick] hp5 (Nat.le_refl _) (by decide) (fun b hb => by cases hb; simp)).mono ?_
      rintro e w6 ⟨⟨v6, rfl⟩, hv6, _⟩
      rw [hcr.out] at hv6
      replace hpi := hpi.out
      have hv7 := hv6.drop (F' := []) (by simp)
      clear hv hw5 hv6 hp5 hcr hd0
      have hq0 : (0 : Int) ≤ (k : Int) := by omega
      have hq1 : (k : Int) ≤ (l.length : Int) := by omega
      clear hk hlt hlc hv4 HL2
      replace hval := Lib.hid hval
      go_wp2_with fail
      rw [hpi]
      rw [← hk9] at hval
      clear hpi hp0 hk9
      rcases k with _ | j
      · obtain rfl : v = 200 := by
          have := hval.out
          simp at this
          exact this.symm
        clear hval
        obtain ⟨L, hL⟩ : ∃ L, L = (fillB 200).map B8 := ⟨_, rfl⟩
        have HL := Lib.hid hL
        have HLl := Lib.hid (show L.length = 64 by rw [hL]; rfl)
        have HLo := Lib.hid (show ∀ v ∈ L, v.oneCell' = true by rw [hL]; exact bytes_oneCell _)
        clear hL
        go_wp2_with fail
        -- <held1
        refine (live_read_L hv7 1 (by simp [dpw]) (by simp [dpw]) L HL).mono ?_
        rintro e w7 ⟨rfl, hB7⟩
        replace hv7 := hv7.step hB7
        go_wp2_with (first
          | (refine wpList_alloc_row 10 rfl 37 rfl _ rfl zero_block ?_; intro w8 hr8 hs8 hB8; clear hs8)
          | (refine wpList_store_part 37 (.tmp 10) (.tmp 85) rfl hr8 0 L rfl rfl rfl (by rw [HLl.out]; exact Try.sizeOf37) (by rw [HLl.out]; decide) HLo.out ?_
             intro w9 hr9 hs9 hg9
             clear hs9
             rw [splice_all _ _ (by rw [HLl.out]; rfl)] at hr9))
        have hB9 : Below w7.heap.size w7 w9 := hB8.grown hg9 hB8.size (fun j e => by cases e; exact Nat.le_refl _)
        have hv9 := hv7.add hB9 w7.heap.size (Nat.le_refl _) hr9.lt
        have hv10 := hv9.add (alloc_below w9 (.cells #[.int .u8 9, .int .u8 9] 5)) w9.heap.size (Nat.le_refl _) (by simp)
        have hp10 := lit_bytes w9 5 (0, 0) [9, 9] #[.int .u8 9, .int .u8 9] rfl
        refine (live_crash hv10 (by simp [dpw]) (dpw_vers _) (some ⟨w9.heap.size, 0, none⟩) 2 [9, 9] hp10 (Nat.le_refl _) (by decide) (fun b hb => by cases hb; simp)).mono ?_
        rintro e w10 ⟨⟨v10, rfl⟩, hv11, hk11⟩
        rw [show crashN (dpw (200)) [9, 9] = dpw (200) from rfl] at hv11
        have ha11 := hk11.row (g := w7.heap.size) (by simp) (hr9.step (alloc_below w9 (.cells #[.int .u8 9, .int .u8 9] 5)))
        replace hv11 := hv11.drop (F' := []) (by simp)
        clear hr8 hp10 hv9 hv10
        go_wp2_with fail
        refine (live_read_L hv11 1 (by simp [dpw]) (by simp [dpw]) L HL).mono ?_
        rintro e w11 ⟨rfl, hB11⟩
        go_wp2_with (first
          | (refine wpList_alloc_row 12 rfl 37 rfl _ rfl zero_block ?_; intro w12 hr12 hs12 hB12; clear hs12)
          | (refine wpList_store_part 37 (.tmp 12) (.tmp 93) rfl hr12 0 L rfl rfl rfl (by rw [HLl.out]; exact Try.sizeOf37) (by rw [HLl.out]; decide) HLo.out ?_
             intro w13 hr13 hs13 hg13
             clear hs13
             rw [splice_all _ _ (by rw [HLl.out]; rfl)] at hr13))
        have hB13 : Below w11.heap.size w11 w13 := hB12.grown hg13 hB12.size (fun j e => by cases e; exact Nat.le_refl _)
        have ha := (ha11.step hB11).step hB13
        have hv13 := (hv11.step hB11).step hB13
        have hBw := hv13.below
        have HTL := Lib.hid (show (L.drop 0).take 64 = L from List.take_of_length_le (Nat.le_of_eq HLl.out))
        have Hgb := Lib.hid guard_block
        have QL := Lib.hid (show ∀ w, (Op.equalIn 10000 37 (.agg L.toArray) (.agg L.toArray)).run Try.prog w = .ok true w from fun w => by rw [HL.out, neq_block _ _ (fillB_length _) (fillB_length _), beq_self_eq_true])
        have d0 : Since w13 w13.drew := (Since.refl _).drew
        clear ha11 hr9 hr12 hv11
        refine wp_region_H (Since w13) 27 rfl (by kernel_rfl) ?_
        refine wh_take 0 (.int .i64 0) rfl (by kernel_rfl) (by kernel_rfl) (fun _ _ _ h => h) (by kernel_rfl) (fun _ _ => by kernel_rfl) ?_
        refine wh_take 1 (.bool true) rfl (by kernel_rfl) (by kernel_rfl) (fun _ _ _ h => h) (by kernel_rfl) (fun _ _ => by kernel_rfl) ?_
        refine wh_take 2 (.bool true) rfl (by kernel_rfl) (by kernel_rfl) (fun _ _ _ h => h) (by kernel_rfl) (fun _ _ => by kernel_rfl) ?_
        refine wh_take 3 (.int .i64 0) rfl (by kernel_rfl) (by kernel_rfl) (fun _ _ _ h => h) (by kernel_rfl) (fun _ _ => by kernel_rfl) ?_
        refine wh_take 4 (.bool true) rfl (by kernel_rfl) (by kernel_rfl) (fun _ _ _ h => h) (by kernel_rfl) (fun _ _ => by kernel_rfl) ?_
        refine wh_take 5 (.bool true) rfl (by kernel_rfl) (by kernel_rfl) (fun _ _ _ h => h) (by kernel_rfl) (fun _ _ => by kernel_rfl) ?_
        refine wh_take 6 (.bool true) rfl (by kernel_rfl) (by kernel_rfl) (fun _ _ _ h => h) (by kernel_rfl) (fun _ _ => by kernel_rfl) ?_
        refine wh_take 7 (.agg L.toArray) rfl (by kernel_rfl) (by kernel_rfl) (fun _ _ _ h => h) (by kernel_rfl) (fun W h => exec_load_part 37 (.tmp 10) rfl (ha.step h) 0 64 L (by kernel_rfl) HTL.out HLl.out Try.isAgg37 Try.sizeOf37) ?_
        refine wh_take 8 (B8 (200)) rfl (by kernel_rfl) (by kernel_rfl) (fun _ _ _ h => h) (by kernel_rfl) (fun _ _ => by kernel_rfl) ?_
        refine wh_call 9 19 #[B8 (200)] rfl (by kernel_rfl) (by kernel_rfl) d0 (fun _ => by kernel_rfl) ?_
        refine (fill_L (200) L HL _).mono ?_
        rintro e x1 ⟨rfl, hx1⟩
        have s1 : Since w13 x1 := d0.then_ hx1
        refine ⟨_, rfl, ?_⟩
        refine wh_take 10 (.bool true) rfl (by kernel_rfl) (by kernel_rfl) (fun _ _ _ h => h) (by kernel_rfl) (fun W _ => exec_eql 37 37 (.tmp 102) (.tmp 104) rfl L.toArray L.toArray (by kernel_rfl) (by kernel_rfl) true Hgb.out (QL.out W)) ?_
        refine wh_take 11 (.bool true) rfl (by kernel_rfl) (by kernel_rfl) (fun _ _ _ h => h) (by kernel_rfl) (fun _ _ => by kernel_rfl) ?_
        refine wh_take 12 (.bool true) rfl (by kernel_rfl) (by kernel_rfl) (fun _ _ _ h => h) (by kernel_rfl) (fun _ _ => by kernel_rfl) ?_
        refine wh_take 13 (.agg L.toArray) rfl (by kernel_rfl) (by kernel_rfl) (fun _ _ _ h => h) (by kernel_rfl) (fun W h => exec_load_part 37 (.tmp 12) rfl (hr13.step h) 0 64 L (by kernel_rfl) HTL.out HLl.out Try.isAgg37 Try.sizeOf37) ?_
        refine wh_take 14 (.agg L.toArray) rfl (by kernel_rfl) (by kernel_rfl) (fun _ _ _ h => h) (by kernel_rfl) (fun W h => exec_load_part 37 (.tmp 10) rfl (ha.step h) 0 64 L (by kernel_rfl) HTL.out HLl.out Try.isAgg37 Try.sizeOf37) ?_
        refine wh_take 15 (.bool true) rfl (by kernel_rfl) (by kernel_rfl) (fun _ _ _ h => h) (by kernel_rfl) (fun W _ => exec_eql 37 37 (.tmp 108) (.tmp 109) rfl L.toArray L.toArray (by kernel_rfl) (by kernel_rfl) true Hgb.out (QL.out W)) ?_
        refine wh_take 16 (.bool true) rfl (by kernel_rfl) (by kernel_rfl) (fun _ _ _ h => h) (by kernel_rfl) (fun _ _ => by kernel_rfl) ?_
        refine wh_take 17 (.bool true) rfl (by kernel_rfl) (by kernel_rfl) (fun _ _ _ h => h) (by kernel_rfl) (fun _ _ => by kernel_rfl) ?_
        refine wh_take 18 (.pointer (some ⟨gd, 0, none⟩)) rfl (by kernel_rfl) (by kernel_rfl) (fun _ _ _ h => h) (by kernel_rfl) (fun _ _ => by kernel_rfl) ?_
        refine wh_call 19 29 #[.pointer (some ⟨gd, 0, none⟩)] rfl (by kernel_rfl) (by kernel_rfl) s1 (fun _ => by kernel_rfl) ?_
        refine (live_loose (hv13.step s1) (by simp [dpw])).mono ?_
        rintro e x2 ⟨⟨ys, A9, c9, rfl, hys9, _⟩, hx2⟩
        obtain rfl : ys = [] := hys9
        have s2 : Since w13 x2 := s1.then_ hx2
        refine ⟨.slice A9 0 c9, rfl, ?_⟩
        refine wh_take 20 (.int .i64 0) rfl (by kernel_rfl) (by kernel_rfl) (fun _ _ _ h => h) (by kernel_rfl) (fun _ _ => by kernel_rfl) ?_
        refine wh_take 21 (.bool true) rfl (by kernel_rfl) (by kernel_rfl) (fun _ _ _ h => h) (by kernel_rfl) (fun _ _ => by kernel_rfl) ?_
        refine wh_take 22 (.bool true) rfl (by kernel_rfl) (by kernel_rfl) (fun _ _ _ h => h) (by kernel_rfl) (fun _ _ => by kernel_rfl) ?_
        refine wh_take 23 (.bool true) rfl (by kernel_rfl) (by kernel_rfl) (fun _ _ _ h => h) (by kernel_rfl) (fun _ _ => by kernel_rfl) ?_
        refine wh_call 24 15 #[] rfl (by kernel_rfl) (by kernel_rfl) s2 (fun _ => by kernel_rfl) ?_
        refine (wakes03_calls _).mono ?_
        rintro e x3 ⟨rfl, hx3⟩
        have s3 : Since w13 x3 := s2.then_ hx3
        refine ⟨_, rfl, ?_⟩
        refine wh_take 25 (.bool true) rfl (by kernel_rfl) (by kernel_rfl) (fun _ _ _ h => h) (by kernel_rfl) (fun _ _ => by kernel_rfl) ?_
        refine wh_take 26 (.bool true) rfl (by kernel_rfl) (by kernel_rfl) (fun _ _ _ h => h) (by kernel_rfl) (fun _ _ => by kernel_rfl) ?_
        refine wh_done (by kernel_rfl) s3 ?_
        simp only [Act.put, List.setIfInBounds_toArray, List.set_cons_zero, List.set_cons_succ]
        go_wp2_with fail
        go_ret
        exact ⟨rfl, bthen hBw s3⟩
        -- held1>
      · have hjl : j < l.length := by omega
        obtain ⟨b, o, rfl, hb1, hc⟩ := (hb.below hv7.below).resolve_left (fun e => by rw [e] at hl0; simp at hl0)
        have hcell := hc j hjl
        have hget : l[j]?.getD 0 = v := by
          have := hval.out
          rw [List.getElem?_cons_succ] at this
          rw [this]
          rfl
        rw [hget] at hcell
        rw [Int.natCast_add]
        have hj1 : (0 : Int) ≤ (j : Int) := by omega
        have hj2 : (j : Int) < (l.length : Int) := by omega
        obtain ⟨L, hL⟩ : ∃ L, L = (fillB v).map B8 := ⟨_, rfl⟩
        have HL := Lib.hid hL
        have HLl := Lib.hid (show L.length = 64 by rw [hL]; rfl)
        have HLo := Lib.hid (show ∀ v ∈ L, v.oneCell' = true by rw [hL]; exact bytes_oneCell _)
        clear hL hc hget hval hb hq0 hq1
        go_wp2_with fail
        clear hcell
        -- <held2
        refine (live_read_L hv7 1 (by simp [dpw]) (by simp [dpw]) L HL).mono ?_
        rintro e w7 ⟨rfl, hB7⟩
        replace hv7 := hv7.step hB7
        go_wp2_with (first
          | (refine wpList_alloc_row 10 rfl 37 rfl _ rfl zero_block ?_; intro w8 hr8 hs8 hB8; clear hs8)
          | (refine wpList_store_part 37 (.tmp 10) (.tmp 85) rfl hr8 0 L rfl rfl rfl (by rw [HLl.out]; exact Try.sizeOf37) (by rw [HLl.out]; decide) HLo.out ?_
             intro w9 hr9 hs9 hg9
             clear hs9
             rw [splice_all _ _ (by rw [HLl.out]; rfl)] at hr9))
        have hB9 : Below w7.heap.size w7 w9 := hB8.grown hg9 hB8.size (fun j e => by cases e; exact Nat.le_refl _)
        have hv9 := hv7.add hB9 w7.heap.size (Nat.le_refl _) hr9.lt
        have hv10 := hv9.add (alloc_below w9 (.cells #[.int .u8 9, .int .u8 9] 5)) w9.heap.size (Nat.le_refl _) (by simp)
        have hp10 := lit_bytes w9 5 (0, 0) [9, 9] #[.int .u8 9, .int .u8 9] rfl
        refine (live_crash hv10 (by simp [dpw]) (dpw_vers _) (some ⟨w9.heap.size, 0, none⟩) 2 [9, 9] hp10 (Nat.le_refl _) (by decide) (fun b hb => by cases hb; simp)).mono ?_
        rintro e w10 ⟨⟨v10, rfl⟩, hv11, hk11⟩
        rw [show crashN (dpw (v)) [9, 9] = dpw (v) from rfl] at hv11
        have ha11 := hk11.row (g := w7.heap.size) (by simp) (hr9.step (alloc_below w9 (.cells #[.int .u8 9, .int .u8 9] 5)))
        replace hv11 := hv11.drop (F' := []) (by simp)
        clear hr8 hp10 hv9 hv10
        go_wp2_with fail
        refine (live_read_L hv11 1 (by simp [dpw]) (by simp [dpw]) L HL).mono ?_
        rintro e w11 ⟨rfl, hB11⟩
        go_wp2_with (first
          | (refine wpList_alloc_row 12 rfl 37 rfl _ rfl zero_block ?_; intro w12 hr12 hs12 hB12; clear hs12)
          | (refine wpList_store_part 37 (.tmp 12) (.tmp 93) rfl hr12 0 L rfl rfl rfl (by rw [HLl.out]; exact Try.sizeOf37) (by rw [HLl.out]; decide) HLo.out ?_
             intro w13 hr13 hs13 hg13
             clear hs13
             rw [splice_all _ _ (by rw [HLl.out]; rfl)] at hr13))
        have hB13 : Below w11.heap.size w11 w13 := hB12.grown hg13 hB12.size (fun j e => by cases e; exact Nat.le_refl _)
        have ha := (ha11.step hB11).step hB13
        have hv13 := (hv11.step hB11).step hB13
        have hBw := hv13.below
        have HTL := Lib.hid (show (L.drop 0).take 64 = L from List.take_of_length_le (Nat.le_of_eq HLl.out))
        have Hgb := Lib.hid guard_block
        have QL := Lib.hid (show ∀ w, (Op.equalIn 10000 37 (.agg L.toArray) (.agg L.toArray)).run Try.prog w = .ok true w from fun w => by rw [HL.out, neq_block _ _ (fillB_length _) (fillB_length _), beq_self_eq_true])
        have d0 : Since w13 w13.drew := (Since.refl _).drew
        clear ha11 hr9 hr12 hv11
        refine wp_region_H (Since w13) 27 rfl (by kernel_rfl) ?_
        refine wh_take 0 (.int .i64 0) rfl (by kernel_rfl) (by kernel_rfl) (fun _ _ _ h => h) (by kernel_rfl) (fun _ _ => by kernel_rfl) ?_
        refine wh_take 1 (.bool true) rfl (by kernel_rfl) (by kernel_rfl) (fun _ _ _ h => h) (by kernel_rfl) (fun _ _ => by kernel_rfl) ?_
        refine wh_take 2 (.bool true) rfl (by kernel_rfl) (by kernel_rfl) (fun _ _ _ h => h) (by kernel_rfl) (fun _ _ => by kernel_rfl) ?_
        refine wh_take 3 (.int .i64 0) rfl (by kernel_rfl) (by kernel_rfl) (fun _ _ _ h => h) (by kernel_rfl) (fun _ _ => by kernel_rfl) ?_
        refine wh_take 4 (.bool true) rfl (by kernel_rfl) (by kernel_rfl) (fun _ _ _ h => h) (by kernel_rfl) (fun _ _ => by kernel_rfl) ?_
        refine wh_take 5 (.bool true) rfl (by kernel_rfl) (by kernel_rfl) (fun _ _ _ h => h) (by kernel_rfl) (fun _ _ => by kernel_rfl) ?_
        refine wh_take 6 (.bool true) rfl (by kernel_rfl) (by kernel_rfl) (fun _ _ _ h => h) (by kernel_rfl) (fun _ _ => by kernel_rfl) ?_
        refine wh_take 7 (.agg L.toArray) rfl (by kernel_rfl) (by kernel_rfl) (fun _ _ _ h => h) (by kernel_rfl) (fun W h => exec_load_part 37 (.tmp 10) rfl (ha.step h) 0 64 L (by kernel_rfl) HTL.out HLl.out Try.isAgg37 Try.sizeOf37) ?_
        refine wh_take 8 (B8 (v)) rfl (by kernel_rfl) (by kernel_rfl) (fun _ _ _ h => h) (by kernel_rfl) (fun _ _ => by kernel_rfl) ?_
        refine wh_call 9 19 #[B8 (v)] rfl (by kernel_rfl) (by kernel_rfl) d0 (fun _ => by kernel_rfl) ?_
        refine (fill_L (v) L HL _).mono ?_
        rintro e x1 ⟨rfl, hx1⟩
        have s1 : Since w13 x1 := d0.then_ hx1
        refine ⟨_, rfl, ?_⟩
        refine wh_take 10 (.bool true) rfl (by kernel_rfl) (by kernel_rfl) (fun _ _ _ h => h) (by kernel_rfl) (fun W _ => exec_eql 37 37 (.tmp 102) (.tmp 104) rfl L.toArray L.toArray (by kernel_rfl) (by kernel_rfl) true Hgb.out (QL.out W)) ?_
        refine wh_take 11 (.bool true) rfl (by kernel_rfl) (by kernel_rfl) (fun _ _ _ h => h) (by kernel_rfl) (fun _ _ => by kernel_rfl) ?_
        refine wh_take 12 (.bool true) rfl (by kernel_rfl) (by kernel_rfl) (fun _ _ _ h => h) (by kernel_rfl) (fun _ _ => by kernel_rfl) ?_
        refine wh_take 13 (.agg L.toArray) rfl (by kernel_rfl) (by kernel_rfl) (fun _ _ _ h => h) (by kernel_rfl) (fun W h => exec_load_part 37 (.tmp 12) rfl (hr13.step h) 0 64 L (by kernel_rfl) HTL.out HLl.out Try.isAgg37 Try.sizeOf37) ?_
        refine wh_take 14 (.agg L.toArray) rfl (by kernel_rfl) (by kernel_rfl) (fun _ _ _ h => h) (by kernel_rfl) (fun W h => exec_load_part 37 (.tmp 10) rfl (ha.step h) 0 64 L (by kernel_rfl) HTL.out HLl.out Try.isAgg37 Try.sizeOf37) ?_
        refine wh_take 15 (.bool true) rfl (by kernel_rfl) (by kernel_rfl) (fun _ _ _ h => h) (by kernel_rfl) (fun W _ => exec_eql 37 37 (.tmp 108) (.tmp 109) rfl L.toArray L.toArray (by kernel_rfl) (by kernel_rfl) true Hgb.out (QL.out W)) ?_
        refine wh_take 16 (.bool true) rfl (by kernel_rfl) (by kernel_rfl) (fun _ _ _ h => h) (by kernel_rfl) (fun _ _ => by kernel_rfl) ?_
        refine wh_take 17 (.bool true) rfl (by kernel_rfl) (by kernel_rfl) (fun _ _ _ h => h) (by kernel_rfl) (fun _ _ => by kernel_rfl) ?_
        refine wh_take 18 (.pointer (some ⟨gd, 0, none⟩)) rfl (by kernel_rfl) (by kernel_rfl) (fun _ _ _ h => h) (by kernel_rfl) (fun _ _ => by kernel_rfl) ?_
        refine wh_call 19 29 #[.pointer (some ⟨gd, 0, none⟩)] rfl (by kernel_rfl) (by kernel_rfl) s1 (fun _ => by kernel_rfl) ?_
        refine (live_loose (hv13.step s1) (by simp [dpw])).mono ?_
        rintro e x2 ⟨⟨ys, A9, c9, rfl, hys9, _⟩, hx2⟩
        obtain rfl : ys = [] := hys9
        have s2 : Since w13 x2 := s1.then_ hx2
        refine ⟨.slice A9 0 c9, rfl, ?_⟩
        refine wh_take 20 (.int .i64 0) rfl (by kernel_rfl) (by kernel_rfl) (fun _ _ _ h => h) (by kernel_rfl) (fun _ _ => by kernel_rfl) ?_
        refine wh_take 21 (.bool true) rfl (by kernel_rfl) (by kernel_rfl) (fun _ _ _ h => h) (by kernel_rfl) (fun _ _ => by kernel_rfl) ?_
        refine wh_take 22 (.bool true) rfl (by kernel_rfl) (by kernel_rfl) (fun _ _ _ h => h) (by kernel_rfl) (fun _ _ => by kernel_rfl) ?_
        refine wh_take 23 (.bool true) rfl (by kernel_rfl) (by kernel_rfl) (fun _ _ _ h => h) (by kernel_rfl) (fun _ _ => by kernel_rfl) ?_
        refine wh_call 24 15 #[] rfl (by kernel_rfl) (by kernel_rfl) s2 (fun _ => by kernel_rfl) ?_
        refine (wakes03_calls _).mono ?_
        rintro e x3 ⟨rfl, hx3⟩
        have s3 : Since w13 x3 := s2.then_ hx3
        refine ⟨_, rfl, ?_⟩
        refine wh_take 25 (.bool true) rfl (by kernel_rfl) (by kernel_rfl) (fun _ _ _ h => h) (by kernel_rfl) (fun _ _ => by kernel_rfl) ?_
        refine wh_take 26 (.bool true) rfl (by kernel_rfl) (by kernel_rfl) (fun _ _ _ h => h) (by kernel_rfl) (fun _ _ => by kernel_rfl) ?_
        refine wh_done (by kernel_rfl) s3 ?_
        simp only [Act.put, List.setIfInBounds_toArray, List.set_cons_zero, List.set_cons_succ]
        go_wp2_with fail
        go_ret
        exact ⟨rfl, bthen hBw s3⟩
        -- held2>
end Go.Proofs.Ythieeidbfdhaaaa
