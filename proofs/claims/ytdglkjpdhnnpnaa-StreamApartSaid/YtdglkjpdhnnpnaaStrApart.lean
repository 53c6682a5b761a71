/-
  StreamApart's walk.
-/
import Derived.Test.YtdglkjpdhnnpnaaWakes16
import Derived.Test.YtdglkjpdhnnpnaaStrKeep
namespace Go.Proofs.Ytdglkjpdhnnpnaa
open Go Go.RowKit Go.Shelf

def endO : Option Rec → Int
  | none => 0
  | some p => p.fr + p.ct
def endK (s : Str) (k : Nat) : Int := endO (lastOf none (s.recs.take k))
theorem endK_0 (s : Str) : endK s 0 = 0 := by unfold endK; rw [List.take_zero]; rfl
theorem endK_next {s : Str} {k : Nat} (h : k < s.recs.length) : endK s (k + 1) = s.recs[k].fr + s.recs[k].ct := by
  unfold endK
  rw [lastOf_take h]
  rfl
theorem good_next {s : Str} (hg : goodB s = true) {k : Nat} (h : k < s.recs.length) : endK s k ≤ s.recs[k].fr ∧ 1 ≤ s.recs[k].ct ∧ s.recs[k].fr + s.recs[k].ct ≤ s.blocks ∧ 0 ≤ s.recs[k].fr := by
  have h2 : recsB s.blocks s.base none s.recs = true := by
    unfold goodB at hg
    rw [Bool.and_eq_true] at hg
    exact hg.2
  have hpre : ∀ j, recsB s.blocks s.base none (s.recs.take j) = true := by
    intro j
    cases hj : recsB s.blocks s.base none (s.recs.take j)
    · rw [recsB_no hj] at h2
      cases h2
    · rfl
  have hst := recsB_step h (hpre k)
  rw [hpre (k + 1)] at hst
  have hst := hst.symm
  rw [Bool.and_eq_true] at hst
  obtain ⟨hr, ha⟩ := hst
  have hb := recB_bounds hr
  refine ⟨?_, hb.1, by omega, hb.2.1⟩
  unfold endK
  generalize lastOf none (s.recs.take k) = p at ha
  cases p with
  | none => exact hb.2.1
  | some p =>
    have ha' : behindB s.recs[k] p = true := ha
    simp only [behindB, Bool.or_eq_true, decide_eq_true_eq, Bool.and_eq_true, beq_iff_eq] at ha'
    show p.fr + p.ct ≤ _
    omega
theorem endK_all {s : Str} (hg : goodB s = true) (k : Nat) (hk : k ≤ s.recs.length) : 0 ≤ endK s k ∧ endK s k ≤ s.blocks := by
  have hh := good_head hg
  rcases k with _ | k
  · rw [endK_0]
    omega
  · have h := good_next hg (show k < s.recs.length by omega)
    rw [endK_next (by omega)]
    omega
theorem sumB_app (l m : List Rec) : sumB (l ++ m) = sumB l + sumB m := by simp [sumB]
theorem sumB_take {l : List Rec} {k : Nat} (h : k < l.length) : sumB (l.take (k + 1)) = sumB (l.take k) + (13 + l[k].data.length) := by
  rw [List.take_succ_eq_append_getElem h, sumB_snoc]
theorem sumB_le (l : List Rec) (k : Nat) : sumB (l.take k) ≤ sumB l := by
  conv => rhs; rw [← List.take_append_drop k l, sumB_app]
  omega
theorem encode_V (s : Str) (w : World) (hok : s.Ok w w.heap.size) (V : List Value) (hV : V = s.val) (es : Int) (hes : codeE s = es) :
    Calls Try.prog 14 #[.agg V.toArray] w fun e w' => ∃ zs A c, e = .returned (.tuple #[.slice A zs.length c, .int .i64 es]) ∧ Hid (zs = encR s) ∧ OwnB w' w.heap.size 5 A c zs ∧ Below w.heap.size w w' := by
  subst hV hes
  exact encode_calls s w hok
theorem good_V (s : Str) (w : World) (hok : s.Ok w w.heap.size) (V : List Value) (hV : V = s.val) (b : Bool) (hg : goodB s = b) :
    Calls Try.prog 16 #[.agg V.toArray] w fun e w' => e = .returned (.bool b) ∧ Below w.heap.size w w' := by
  subst hV hg
  exact good_calls s w hok

set_option maxRecDepth 100000 in
set_option maxHeartbeats 8000000 in
theorem streamApart_walk (s t : Str) (w : World) (hs : s.Ok w w.heap.size) (ht : t.Ok w w.heap.size) :
    Calls Try.prog 4 #[.agg s.val.toArray, .agg t.val.toArray] w fun e w' => e = .returned (.bool true) ∧ Below w.heap.size w w' := by
  have hs0 := Lib.hid (fun W (hB : Below w.heap.size w W) => hs.step hB)
  have ht0 := Lib.hid (fun W (hB : Below w.heap.size w W) => ht.step hB)
  have hfs := Lib.hid (fun W (hB : Below w.heap.size w W) => fair16_calls s W (hs.step hB))
  have hft := Lib.hid (fun W (hB : Below w.heap.size w W) => fair16_calls t W (ht.step hB))
  have hsv : s.val = [.int .i64 s.blocks, .int .i64 s.base, .int .i64 s.id, .slice s.A s.recs.length s.cap] := rfl
  obtain ⟨SV, hSV⟩ : ∃ SV, SV = s.val := ⟨_, rfl⟩
  obtain ⟨TV, hTV⟩ : ∃ TV, TV = t.val := ⟨_, rfl⟩
  have HS4 := Lib.hid (show SV.length = 4 by rw [hSV]; rfl)
  have HT4 := Lib.hid (show TV.length = 4 by rw [hTV]; rfl)
  have HST := Lib.hid (show (SV.drop 0).take 4 = SV from List.take_of_length_le (Nat.le_of_eq HS4.out))
  have HTT := Lib.hid (show (TV.drop 0).take 4 = TV from List.take_of_length_le (Nat.le_of_eq HT4.out))
  have HSV := Lib.hid hSV
  have HTV := Lib.hid hTV
  rw [← hSV, ← hTV]
  clear hSV hTV hsv
  obtain ⟨es, hes⟩ : ∃ es, codeE s = es := ⟨_, rfl⟩
  obtain ⟨et, het⟩ : ∃ et, codeE t = et := ⟨_, rfl⟩
  go_enter Try.func4, Try.ntmps4
  go_wp2_with (first
    | (refine wpList_box_row 2 rfl 24 _ rfl SV rfl rfl ?_; intro w1 hr1 hz1 hB1; clear hz1)
    | (refine wpList_box_row 3 rfl 24 _ rfl TV rfl rfl ?_; intro w2 hrt hz2 hB2; clear hz2; have hrs := hr1.step hB2; have hW2 := bthen hB1 hB2)
    | (refine wpList_load_part 13 rfl 24 (.tmp 2) rfl hrs 0 4 SV rfl rfl HST.out HS4.out Try.isAgg24 Try.sizeOf24 ?_))
  rw [HSV.out]
  refine (hfs.out w2 hW2).mono ?_
  rw [← HSV.out]
  rintro e w3 ⟨rfl, hB3⟩
  have hs3 := hrs.step hB3
  have ht3 := hrt.step hB3
  have hW3 := bthen hW2 hB3
  clear hr1 hB1 hrt hB2 hrs hW2 hB3 hfs
  cases hf1 : fairS s
  · go_wp2_with fail
    refine (wakes16_calls w3).mono ?_
    rintro e w4 ⟨rfl, hB4⟩
    go_wp2_with fail
    go_ret
    exact ⟨rfl, bthen hW3 hB4⟩
  go_wp2_with (refine wpList_load_part 17 rfl 24 (.tmp 3) rfl ht3 0 4 TV rfl rfl HTT.out HT4.out Try.isAgg24 Try.sizeOf24 ?_)
  rw [HTV.out]
  refine (hft.out w3 hW3).mono ?_
  rw [← HTV.out]
  rintro e w4 ⟨rfl, hB4⟩
  have hs4 := hs3.step hB4
  have ht4 := ht3.step hB4
  have hW4 := bthen hW3 hB4
  clear hs3 ht3 hW3 hB4 hft
  cases hf2 : fairS t
  · go_wp2_with fail
    refine (wakes16_calls w4).mono ?_
    rintro e w5 ⟨rfl, hB5⟩
    go_wp2_with fail
    go_ret
    exact ⟨rfl, bthen hW4 hB5⟩
  go_wp2_with (refine wpList_load_part 23 rfl 24 (.tmp 2) rfl hs4 0 4 SV rfl rfl HST.out HS4.out Try.isAgg24 Try.sizeOf24 ?_)
  refine (encode_V s w4 (hs0.out w4 hW4) SV HSV.out es hes).mono ?_
  rintro e w5 ⟨zs, A, c, rfl, hz, hown, hB5⟩
  have hs5 := hs4.step hB5
  have ht5 := ht4.step hB5
  have hW5 := bthen hW4 hB5
  have hb5 := hown.bytes
  clear hs4 ht4 hW4 hB5 hown hf1 hf2
  go_wp2_with (refine wpList_load_part 28 rfl 24 (.tmp 3) rfl ht5 0 4 TV rfl rfl HTT.out HT4.out Try.isAgg24 Try.sizeOf24 ?_)
  refine (encode_V t w5 (ht0.out w5 hW5) TV HTV.out et het).mono ?_
  rintro e w6 ⟨ys, A', c', rfl, hy, hown', hB6⟩
  have hs6 := hs5.step hB6
  have ht6 := ht5.step hB6
  have hb6 := hb5.step hB6
  have hW6 := bthen hW5 hB6
  have hc6 := hown'.bytes
  clear hs5 ht5 hb5 hW5 hB6 hown'
  have hgs := Lib.hid (good_V s · · SV HSV.out (goodB s) rfl)
  have hgt := Lib.hid (good_V t · · TV HTV.out (goodB t) rfl)
  have hbt : goodB s = true → goodB t = true → (zs == ys) = sameS s t := by
    intro g1 g2
    have h1 := hz.out
    have h2 := hy.out
    unfold encR at h1 h2
    rw [if_pos g1] at h1
    rw [if_pos g2] at h2
    rw [h1, h2, same_enc g1 g2]
  have hzn : goodB s = false → zs.length = 0 := by
    intro g1
    have h1 := hz.out
    unfold encR at h1
    rw [if_neg (by rw [g1]; decide)] at h1
    rw [h1]
    rfl
  have hze : goodB s = true → zs.length = 33 + sumB s.recs ∧ zs.length ≤ 300009 := by
    intro g1
    have h1 := hz.out
    unfold encR at h1
    rw [if_pos g1] at h1
    have h2 := body_len g1
    rw [h1]
    exact ⟨encE_len s, by rw [encE_length]; omega⟩
  clear hz hy
  replace hbt := Lib.hid hbt
  replace hzn := Lib.hid hzn
  replace hze := Lib.hid hze
  unfold codeE at hes het
  cases hg1 : goodB s
  · rw [hg1] at hgs hes
    obtain rfl : es = 11 := hes.symm
    have hz0 := hzn.out hg1
    rw [hz0]
    cases hg2 : goodB t
    all_goals
      rw [hg2] at hgt het
      first | obtain rfl : et = 11 := het.symm | obtain rfl : et = 0 := het.symm
      go_wp2_with (refine wpList_load_part 34 rfl 24 (.tmp 2) rfl hs6 0 4 SV rfl rfl HST.out HS4.out Try.isAgg24 Try.sizeOf24 ?_)
      refine (hgs.out w6 (hs0.out w6 hW6)).mono ?_
      rintro e w7 ⟨rfl, hB7⟩
      have hs7 := hs6.step hB7
      have ht7 := ht6.step hB7
      have hW7 := bthen hW6 hB7
      go_wp2_with (refine wpList_load_part 40 rfl 24 (.tmp 3) rfl ht7 0 4 TV rfl rfl HTT.out HT4.out Try.isAgg24 Try.sizeOf24 ?_)
      refine (hgt.out w7 (ht0.out w7 hW7)).mono ?_
      rintro e w8 ⟨rfl, hB8⟩
      have hW8 := bthen hW7 hB8
      clear hs7 ht7 hs6 ht6 hb6 hc6 hgs hgt
      go_upto_region 7 with fail
      have d0 : Since w8 w8.drew := (Since.refl w8).drew
      refine wp_region_H (Since w8) 15 rfl (by kernel_rfl) ?_
      -- <held3
      refine wh_take 0 (.int .i64 11) rfl (by kernel_rfl) (by kernel_rfl) (fun _ _ _ h => h) (by kernel_rfl) (fun _ _ => by kernel_rfl) ?_
      refine wh_take 1 (.bool false) rfl (by kernel_rfl) (by kernel_rfl) (fun _ _ _ h => h) (by kernel_rfl) (fun _ _ => by kernel_rfl) ?_
      refine wh_take 2 (.bool false) rfl (by kernel_rfl) (by kernel_rfl) (fun _ _ _ h => h) (by kernel_rfl) (fun _ _ => by kernel_rfl) ?_
      refine wh_no 3 rfl (by kernel_rfl) (by kernel_rfl) (fun _ _ _ h => h) (by kernel_rfl) ?_
      refine wh_no 4 rfl (by kernel_rfl) (by kernel_rfl) (fun _ _ _ h => h) (by kernel_rfl) ?_
      refine wh_take 5 (.bool false) rfl (by kernel_rfl) (by kernel_rfl) (fun _ _ _ h => h) (by kernel_rfl) (fun _ _ => by kernel_rfl) ?_
      refine wh_take 6 (.bool false) rfl (by kernel_rfl) (by kernel_rfl) (fun _ _ _ h => h) (by kernel_rfl) (fun _ _ => by kernel_rfl) ?_
      refine wh_no 7 rfl (by kernel_rfl) (by kernel_rfl) (fun _ _ _ h => h) (by kernel_rfl) ?_
      refine wh_no 8 rfl (by kernel_rfl) (by kernel_rfl) (fun _ _ _ h => h) (by kernel_rfl) ?_
      refine wh_no 9 rfl (by kernel_rfl) (by kernel_rfl) (fun _ _ _ h => h) (by kernel_rfl) ?_
      refine wh_no 10 rfl (by kernel_rfl) (by kernel_rfl) (fun _ _ _ h => h) (by kernel_rfl) ?_
      refine wh_no 11 rfl (by kernel_rfl) (by kernel_rfl) (fun _ _ _ h => h) (by kernel_rfl) ?_
      refine wh_no 12 rfl (by kernel_rfl) (by kernel_rfl) (fun _ _ _ h => h) (by kernel_rfl) ?_
      refine wh_no 13 rfl (by kernel_rfl) (by kernel_rfl) (fun _ _ _ h => h) (by kernel_rfl) ?_
      refine wh_take 14 (.bool false) rfl (by kernel_rfl) (by kernel_rfl) (fun _ _ _ h => h) (by kernel_rfl) (fun _ _ => by kernel_rfl) ?_
      refine wh_done (by kernel_rfl) d0 ?_
      simp only [Act.put, List.setIfInBounds_toArray, List.set_cons_zero, List.set_cons_succ]
      -- held3>
      go_wp2_with fail
      refine (wakes16_calls w8.drew).mono ?_
      rintro e w9 ⟨rfl, hB9⟩
      go_wp2_with fail
      go_ret
      exact ⟨rfl, bthen (hW8.drew) hB9⟩
  rw [hg1] at hgs hes
  obtain rfl : es = 0 := hes.symm
  have hlz := Lib.hid (hze.out hg1)
  clear hze hzn
  cases hg2 : goodB t
  focus
    rw [hg2] at hgt het
    obtain rfl : et = 11 := het.symm
    go_wp2_with (refine wpList_load_part 34 rfl 24 (.tmp 2) rfl hs6 0 4 SV rfl rfl HST.out HS4.out Try.isAgg24 Try.sizeOf24 ?_)
    refine (hgs.out w6 (hs0.out w6 hW6)).mono ?_
    rintro e w7 ⟨rfl, hB7⟩
    have hs7 := hs6.step hB7
    have ht7 := ht6.step hB7
    have hW7 := bthen hW6 hB7
    go_wp2_with (refine wpList_load_part 40 rfl 24 (.tmp 3) rfl ht7 0 4 TV rfl rfl HTT.out HT4.out Try.isAgg24 Try.sizeOf24 ?_)
    refine (hgt.out w7 (ht0.out w7 hW7)).mono ?_
    rintro e w8 ⟨rfl, hB8⟩
    have hs8 := hs7.step hB8
    have hW8 := bthen hW7 hB8
    clear hs7 ht7 hs6 ht6 hb6 hc6 hgs hgt
    go_upto_region 7 with fail
    have d0 : Since w8 w8.drew := (Since.refl w8).drew
    refine wp_region_H (Since w8) 15 rfl (by kernel_rfl) ?_
    -- <held4
    refine wh_take 0 (.int .i64 0) rfl (by kernel_rfl) (by kernel_rfl) (fun _ _ _ h => h) (by kernel_rfl) (fun _ _ => by kernel_rfl) ?_
    refine wh_take 1 (.bool true) rfl (by kernel_rfl) (by kernel_rfl) (fun _ _ _ h => h) (by kernel_rfl) (fun _ _ => by kernel_rfl) ?_
    refine wh_take 2 (.bool true) rfl (by kernel_rfl) (by kernel_rfl) (fun _ _ _ h => h) (by kernel_rfl) (fun _ _ => by kernel_rfl) ?_
    refine wh_take 3 (.int .i64 11) rfl (by kernel_rfl) (by kernel_rfl) (fun _ _ _ h => h) (by kernel_rfl) (fun _ _ => by kernel_rfl) ?_
    refine wh_take 4 (.bool false) rfl (by kernel_rfl) (by kernel_rfl) (fun _ _ _ h => h) (by kernel_rfl) (fun _ _ => by kernel_rfl) ?_
    refine wh_take 5 (.bool false) rfl (by kernel_rfl) (by kernel_rfl) (fun _ _ _ h => h) (by kernel_rfl) (fun _ _ => by kernel_rfl) ?_
    refine wh_take 6 (.bool false) rfl (by kernel_rfl) (by kernel_rfl) (fun _ _ _ h => h) (by kernel_rfl) (fun _ _ => by kernel_rfl) ?_
    refine wh_no 7 rfl (by kernel_rfl) (by kernel_rfl) (fun _ _ _ h => h) (by kernel_rfl) ?_
    refine wh_no 8 rfl (by kernel_rfl) (by kernel_rfl) (fun _ _ _ h => h) (by kernel_rfl) ?_
    refine wh_no 9 rfl (by kernel_rfl) (by kernel_rfl) (fun _ _ _ h => h) (by kernel_rfl) ?_
    refine wh_no 10 rfl (by kernel_rfl) (by kernel_rfl) (fun _ _ _ h => h) (by kernel_rfl) ?_
    refine wh_no 11 rfl (by kernel_rfl) (by kernel_rfl) (fun _ _ _ h => h) (by kernel_rfl) ?_
    refine wh_no 12 rfl (by kernel_rfl) (by kernel_rfl) (fun _ _ _ h => h) (by kernel_rfl) ?_
    refine wh_no 13 rfl (by kernel_rfl) (by kernel_rfl) (fun _ _ _ h => h) (by kernel_rfl) ?_
    refine wh_take 14 (.bool false) rfl (by kernel_rfl) (by kernel_rfl) (fun _ _ _ h => h) (by kernel_rfl) (fun _ _ => by kernel_rfl) ?_
    refine wh_done (by kernel_rfl) d0 ?_
    simp only [Act.put, List.setIfInBounds_toArray, List.set_cons_zero, List.set_cons_succ]
    -- held4>
    have hsz := hs8.step d0
    have hWz := bthen hW8 d0
    clear hs8 hW8 d0 hB7 hB8 hbt
    generalize w8.drew = wz at hsz hWz ⊢
  rotate_left
  focus
    rw [hg2] at hgt het
    obtain rfl : et = 0 := het.symm
    go_wp2_with (refine wpList_load_part 34 rfl 24 (.tmp 2) rfl hs6 0 4 SV rfl rfl HST.out HS4.out Try.isAgg24 Try.sizeOf24 ?_)
    refine (hgs.out w6 (hs0.out w6 hW6)).mono ?_
    rintro e w7 ⟨rfl, hB7⟩
    have hs7 := hs6.step hB7
    have ht7 := ht6.step hB7
    have hW7 := bthen hW6 hB7
    go_wp2_with (refine wpList_load_part 40 rfl 24 (.tmp 3) rfl ht7 0 4 TV rfl rfl HTT.out HT4.out Try.isAgg24 Try.sizeOf24 ?_)
    refine (hgt.out w7 (ht0.out w7 hW7)).mono ?_
    rintro e w9 ⟨rfl, hB8⟩
    have hs9 := hs7.step hB8
    have ht9 := ht7.step hB8
    have hb9 := (hb6.step hB7).step hB8
    have hc9 := (hc6.step hB7).step hB8
    have hW9 := bthen hW7 hB8
    clear hs7 ht7 hs6 ht6 hb6 hc6 hgs hgt
    obtain ⟨b, hb⟩ : ∃ b, sameS s t = b := ⟨_, rfl⟩
    have hbytes := Lib.hid (fun W (d : Since w9 W) => bytes_calls A A' c c' zs ys W _ _ (hb9.step d) (hc9.step d))
    rw [hbt.out hg1 hg2, hb] at hbytes
    have hstr := Lib.hid (fun W (d : Since w9 W) => streams_calls s t W (hs0.out W (bthen hW9 d)) (ht0.out W (bthen hW9 d)))
    rw [hb, ← HSV.out, ← HTV.out] at hstr
    clear hb9 hc9 hb hbt
    go_upto_region 7 with fail
    have d0 : Since w9 w9.drew := (Since.refl w9).drew
    refine wp_region_H (Since w9) 15 rfl (by kernel_rfl) ?_
    cases b
    focus
      -- <held2
      refine wh_take 0 (.int .i64 0) rfl (by kernel_rfl) (by kernel_rfl) (fun _ _ _ h => h) (by kernel_rfl) (fun _ _ => by kernel_rfl) ?_
      refine wh_take 1 (.bool true) rfl (by kernel_rfl) (by kernel_rfl) (fun _ _ _ h => h) (by kernel_rfl) (fun _ _ => by kernel_rfl) ?_
      refine wh_take 2 (.bool true) rfl (by kernel_rfl) (by kernel_rfl) (fun _ _ _ h => h) (by kernel_rfl) (fun _ _ => by kernel_rfl) ?_
      refine wh_take 3 (.int .i64 0) rfl (by kernel_rfl) (by kernel_rfl) (fun _ _ _ h => h) (by kernel_rfl) (fun _ _ => by kernel_rfl) ?_
      refine wh_take 4 (.bool true) rfl (by kernel_rfl) (by kernel_rfl) (fun _ _ _ h => h) (by kernel_rfl) (fun _ _ => by kernel_rfl) ?_
      refine wh_take 5 (.bool true) rfl (by kernel_rfl) (by kernel_rfl) (fun _ _ _ h => h) (by kernel_rfl) (fun _ _ => by kernel_rfl) ?_
      refine wh_take 6 (.bool true) rfl (by kernel_rfl) (by kernel_rfl) (fun _ _ _ h => h) (by kernel_rfl) (fun _ _ => by kernel_rfl) ?_
      refine wh_take 7 (.slice A zs.length c) rfl (by kernel_rfl) (by kernel_rfl) (fun _ _ _ h => h) (by kernel_rfl) (fun _ _ => by kernel_rfl) ?_
      refine wh_take 8 (.slice A' ys.length c') rfl (by kernel_rfl) (by kernel_rfl) (fun _ _ _ h => h) (by kernel_rfl) (fun _ _ => by kernel_rfl) ?_
      refine wh_take 10 (.agg SV.toArray) rfl (by kernel_rfl) (by kernel_rfl) (fun _ _ _ h => h) (by kernel_rfl) (fun W h => exec_load_part 24 (.tmp 2) rfl (hs9.step h) 0 4 SV (by kernel_rfl) HST.out HS4.out Try.isAgg24 Try.sizeOf24) ?_
      refine wh_take 11 (.agg TV.toArray) rfl (by kernel_rfl) (by kernel_rfl) (fun _ _ _ h => h) (by kernel_rfl) (fun W h => exec_load_part 24 (.tmp 3) rfl (ht9.step h) 0 4 TV (by kernel_rfl) HTT.out HT4.out Try.isAgg24 Try.sizeOf24) ?_
      refine wh_call 9 18 #[.slice A zs.length c, .slice A' ys.length c'] rfl (by kernel_rfl) (by kernel_rfl) d0 (fun _ => by kernel_rfl) ?_
      refine (hbytes.out _ d0).mono ?_
      rintro e x1 ⟨rfl, rfl⟩
      refine ⟨_, rfl, ?_⟩
      refine wh_call 12 21 #[.agg SV.toArray, .agg TV.toArray] rfl (by kernel_rfl) (by kernel_rfl) d0 (fun _ => by kernel_rfl) ?_
      refine (hstr.out _ d0).mono ?_
      rintro e x2 ⟨rfl, hx2⟩
      have d2 : Since w9 x2 := d0.then_ hx2
      refine ⟨_, rfl, ?_⟩
      refine wh_take 13 (.bool false) rfl (by kernel_rfl) (by kernel_rfl) (fun _ _ _ h => h) (by kernel_rfl) (fun _ _ => by kernel_rfl) ?_
      refine wh_take 14 (.bool false) rfl (by kernel_rfl) (by kernel_rfl) (fun _ _ _ h => h) (by kernel_rfl) (fun _ _ => by kernel_rfl) ?_
      refine wh_done (by kernel_rfl) d2 ?_
      simp only [Act.put, List.setIfInBounds_toArray, List.set_cons_zero, List.set_cons_succ]
      -- held2>
      have hsz := hs9.step d2
      have hWz := bthen hW9 d2
      clear hs9 ht9 hW9 d0 d2 hB7 hB8 hbytes hstr hx2
      generalize x2 = wz at hsz hWz ⊢
    rotate_left
    focus
      -- <held1
      refine wh_take 0 (.int .i64 0) rfl (by kernel_rfl) (by kernel_rfl) (fun _ _ _ h => h) (by kernel_rfl) (fun _ _ => by kernel_rfl) ?_
      refine wh_take 1 (.bool true) rfl (by kernel_rfl) (by kernel_rfl) (fun _ _ _ h => h) (by kernel_rfl) (fun _ _ => by kernel_rfl) ?_
      refine wh_take 2 (.bool true) rfl (by kernel_rfl) (by kernel_rfl) (fun _ _ _ h => h) (by kernel_rfl) (fun _ _ => by kernel_rfl) ?_
      refine wh_take 3 (.int .i64 0) rfl (by kernel_rfl) (by kernel_rfl) (fun _ _ _ h => h) (by kernel_rfl) (fun _ _ => by kernel_rfl) ?_
      refine wh_take 4 (.bool true) rfl (by kernel_rfl) (by kernel_rfl) (fun _ _ _ h => h) (by kernel_rfl) (fun _ _ => by kernel_rfl) ?_
      refine wh_take 5 (.bool true) rfl (by kernel_rfl) (by kernel_rfl) (fun _ _ _ h => h) (by kernel_rfl) (fun _ _ => by kernel_rfl) ?_
      refine wh_take 6 (.bool true) rfl (by kernel_rfl) (by kernel_rfl) (fun _ _ _ h => h) (by kernel_rfl) (fun _ _ => by kernel_rfl) ?_
      refine wh_take 7 (.slice A zs.length c) rfl (by kernel_rfl) (by kernel_rfl) (fun _ _ _ h => h) (by kernel_rfl) (fun _ _ => by kernel_rfl) ?_
      refine wh_take 8 (.slice A' ys.length c') rfl (by kernel_rfl) (by kernel_rfl) (fun _ _ _ h => h) (by kernel_rfl) (fun _ _ => by kernel_rfl) ?_
      refine wh_take 10 (.agg SV.toArray) rfl (by kernel_rfl) (by kernel_rfl) (fun _ _ _ h => h) (by kernel_rfl) (fun W h => exec_load_part 24 (.tmp 2) rfl (hs9.step h) 0 4 SV (by kernel_rfl) HST.out HS4.out Try.isAgg24 Try.sizeOf24) ?_
      refine wh_take 11 (.agg TV.toArray) rfl (by kernel_rfl) (by kernel_rfl) (fun _ _ _ h => h) (by kernel_rfl) (fun W h => exec_load_part 24 (.tmp 3) rfl (ht9.step h) 0 4 TV (by kernel_rfl) HTT.out HT4.out Try.isAgg24 Try.sizeOf24) ?_
      refine wh_call 9 18 #[.slice A zs.length c, .slice A' ys.length c'] rfl (by kernel_rfl) (by kernel_rfl) d0 (fun _ => by kernel_rfl) ?_
      refine (hbytes.out _ d0).mono ?_
      rintro e x1 ⟨rfl, rfl⟩
      refine ⟨_, rfl, ?_⟩
      refine wh_call 12 21 #[.agg SV.toArray, .agg TV.toArray] rfl (by kernel_rfl) (by kernel_rfl) d0 (fun _ => by kernel_rfl) ?_
      refine (hstr.out _ d0).mono ?_
      rintro e x2 ⟨rfl, hx2⟩
      have d2 : Since w9 x2 := d0.then_ hx2
      refine ⟨_, rfl, ?_⟩
      refine wh_take 13 (.bool false) rfl (by kernel_rfl) (by kernel_rfl) (fun _ _ _ h => h) (by kernel_rfl) (fun _ _ => by kernel_rfl) ?_
      refine wh_take 14 (.bool false) rfl (by kernel_rfl) (by kernel_rfl) (fun _ _ _ h => h) (by kernel_rfl) (fun _ _ => by kernel_rfl) ?_
      refine wh_done (by kernel_rfl) d2 ?_
      simp only [Act.put, List.setIfInBounds_toArray, List.set_cons_zero, List.set_cons_succ]
      -- held1>
      have hsz := hs9.step d2
      have hWz := bthen hW9 d2
      clear hs9 ht9 hW9 d0 d2 hB7 hB8 hbytes hstr hx2
      generalize x2 = wz at hsz hWz ⊢
  all_goals
    have c0 : wz.cell? ⟨w.heap.size, 0, none⟩ = some (.int .i64 s.blocks) := hsz.cellD 0 _ (by rw [HSV.out]; rfl)
    have hgood := Lib.hid (fun k (h : k < s.recs.length) => good_next hg1 h)
    have hend := Lib.hid (endK_all hg1)
    have hh := good_head hg1
    have hm := good_many hg1
    have hmI : (s.recs.length : Int) ≤ 64 := by omega
    have hb1 := hh.1
    have hb2 := hh.2.1
    have hrecs := hs.recs
    clear hh c0 hes het hs0 ht0
    go_wp2_with fail
    go_loopw [9, 10, 11] (fun en mn i wr => ∃ k : Nat, k ≤ s.recs.length ∧ i = .int .i64 (k : Int) ∧ en = .int .i64 (endK s k) ∧ mn = .int .i64 ((33 + sumB (s.recs.take k) : Nat) : Int) ∧ Below wz.heap.size wz wr) (fun _ _ i _ => s.recs.length - (intOf i).toNat)
    case atStart => exact ⟨0, Nat.zero_le _, rfl, by rw [endK_0], rfl, brefl wz⟩
    case round =>
      obtain ⟨k, hk, rfl, rfl, rfl, hB⟩ := hrel
      have hsr := hsz.step hB
      have c3 : wr.cell? ⟨w.heap.size, 3, none⟩ = some (.slice s.A s.recs.length s.cap) := hsr.cellD 3 _ (by rw [HSV.out]; rfl)
      by_cases hlt : k < s.recs.length
      · obtain ⟨b, o, hA, hbl, hcs⟩ := hrecs.1.resolve_left (fun e => by rw [e] at hlt; simp at hlt)
        obtain ⟨g1, g2, g3, g4⟩ := hgood.out k hlt
        have hnext := endK_next hlt
        have hsum := sumB_take hlt
        have hsle := sumB_le s.recs (k + 1)
        have hrm := (hrecs.2 _ (List.getElem_mem hlt)).most
        have hrl := (hrecs.2 _ (List.getElem_mem hlt)).len
        have HXc := Lib.hid (rec_cells hcs hbl k hlt (bthen hWz hB))
        obtain ⟨X4, hX4⟩ : ∃ X4, X4 = s.recs[k].val := ⟨_, rfl⟩
        have HX4 := Lib.hid (show X4.length = 4 by rw [hX4]; rfl)
        have HXo := Lib.hid (show ∀ v ∈ X4, v.oneCell' = true by rw [hX4]; exact rec_one _)
        rw [← hX4] at HXc
        have hxr := Lib.hid (show X4 = [.int .i64 s.recs[k].fr, .int .i64 s.recs[k].ct, .bool s.recs[k].zs, .slice s.recs[k].A s.recs[k].data.length s.recs[k].cap] from hX4)
        have hk0 : (0 : Int) ≤ (k : Int) := by omega
        have hk1 : (k : Int) < (s.recs.length : Int) := by omega
        have hd1 : decide ((k : Int) < (s.recs.length : Int)) = true := decide_eq_true hk1
        have hz9 := hlz.out
        have he0 := (hend.out k hk).1
        clear hX4 hcs
        generalize s.recs[k] = r at g1 g2 g3 g4 hnext hsum hxr hrm hrl
        have hd2 : decide (r.fr < endK s k) = false := decide_eq_false (by omega)
        have hd3 : decide (r.ct < 1) = false := decide_eq_false (by omega)
        generalize endK s k = en at g1 he0 hd2 ⊢
        obtain ⟨m0, hm0⟩ : ∃ m0, m0 = sumB (s.recs.take k) := ⟨_, rfl⟩
        rw [← hm0] at hsum ⊢
        have hm9 : (33 : Int) + (m0 : Int) ≤ 400000 := by omega
        have hl9 : (r.data.length : Int) ≤ 400000 := by omega
        have hf9 : r.fr ≤ 64 := by omega
        have hc9 : r.ct ≤ 64 := by omega
        have hnx := Lib.hid hnext
        have hsm := Lib.hid hsum
        rw [hA] at c3
        clear hnext hsum hsle hz9 hm0 hrm hrl
        go_upto_region 16 with (first
          | (refine wpList_load_cells 78 rfl 39 (.tmp 77) rfl ⟨b, o + k * 4, none⟩ X4 rfl rfl HXc.out 4 HX4.out Try.isAgg39 Try.sizeOf39 ?_)
          | (refine wpList_alloc_row 12 rfl 39 rfl _ rfl zero_rec ?_; intro wa hra hsa hBa; clear hsa)
          | (refine wpList_store_part 39 (.tmp 12) (.tmp 78) rfl hra 0 X4 rfl rfl rfl (by rw [HX4.out]; exact Try.sizeOf39) (by rw [HX4.out]; decide) HXo.out ?_
             intro wb hrb hsb hgb
             clear hsb
             rw [splice_all _ _ (by rw [HX4.out]; rfl)] at hrb))
        have hBb := bthen hB (hBa.grown hgb hBa.size (fun j e => by cases e; exact Nat.le_refl _))
        have e0 : wb.cell? ⟨wr.heap.size, 0, none⟩ = some (.int .i64 r.fr) := hrb.cellD 0 _ (by rw [hxr.out]; rfl)
        have e1 : wb.cell? ⟨wr.heap.size, 1, none⟩ = some (.int .i64 r.ct) := hrb.cellD 1 _ (by rw [hxr.out]; rfl)
        have e3 : wb.cell? ⟨wr.heap.size, 3, none⟩ = some (.slice r.A r.data.length r.cap) := hrb.cellD 3 _ (by rw [hxr.out]; rfl)
        clear hra hBa hgb hsr c3 hrb
        go_wp2_with fail
        go_roundw
        case rel => exact ⟨k + 1, by omega, by go_num, by rw [hnx.out], by rw [hsm.out]; go_num, hBb⟩
        case measure => simp [intOf]; omega
      · obtain rfl : k = s.recs.length := by omega
        rw [List.take_length]
        have c0 : wr.cell? ⟨w.heap.size, 0, none⟩ = some (.int .i64 s.blocks) := hsr.cellD 0 _ (by rw [HSV.out]; rfl)
        have hd1 : decide ((s.recs.length : Int) < (s.recs.length : Int)) = false := decide_eq_false (by omega)
        have hd2 : decide (endK s s.recs.length ≤ s.blocks) = true := decide_eq_true (hend.out _ (Nat.le_refl _)).2
        have hq : ((zs.length : Int) == ((33 + sumB s.recs : Nat) : Int)) = true := by rw [hlz.out.1, beq_self_eq_true]
        clear hsr
        generalize endK s s.recs.length = en at hd2 ⊢
        generalize 33 + sumB s.recs = mm at hq ⊢
        have hWr := bthen hWz hB
        go_wp2_with fail
        refine (wakes16_calls wr).mono ?_
        rintro e wy ⟨rfl, hBy⟩
        go_wp2_with fail
        go_ret
        exact ⟨rfl, bthen hWr hBy⟩
end Go.Proofs.Ytdglkjpdhnnpnaa
