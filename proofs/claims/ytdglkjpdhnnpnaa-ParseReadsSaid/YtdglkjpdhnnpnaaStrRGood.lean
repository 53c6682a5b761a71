/-
  The reference's Next, whole, and Good.
-/
import Derived.Test.YtdglkjpdhnnpnaaStrNext
import Derived.Test.YtdglkjpdhnnpnaaStrKeep
import Derived.Test.YtdglkjpdhnnpnaaWakes16
namespace Go.Proofs.Ytdglkjpdhnnpnaa
open Go Go.RowKit

theorem rnext_calls (s : Str) (x : Rec) (w : World) (hmany : s.recs.length ≤ 100000) (hok : s.Ok w w.heap.size) (hx : x.Ok w w.heap.size) (hb1 : 1 ≤ s.blocks) (hb2 : s.blocks ≤ 64) (hp : ∀ p, lastOf none s.recs = some p → 0 ≤ p.fr ∧ p.fr ≤ 1000000 ∧ 0 ≤ p.ct ∧ p.ct ≤ 1000000) :
    Calls Try.prog 36 #[.agg s.val.toArray, .agg x.val.toArray] w fun e w' => e = .returned (.bool (nextB s x)) ∧ Below w.heap.size w w' := by
  by_cases hgo : 1 ≤ x.ct ∧ 0 ≤ x.fr ∧ x.fr < s.blocks ∧ x.ct ≤ s.blocks - x.fr
  · obtain ⟨g1, g2, g3, g4⟩ := hgo
    by_cases h5 : x.zs = true ∧ (s.base = -1 ∨ x.data.length ≠ 0)
    · exact rnext_zs s x w hx hb1 hb2 g1 g2 g3 g4 h5.1 h5.2
    · refine rnext_go s x w hmany hok hx hb1 hb2 hp g1 g2 g3 g4 fun hz => ⟨fun e => h5 ⟨hz, .inl e⟩, ?_⟩
      by_cases h6 : x.data.length = 0
      · exact h6
      · exact absurd ⟨hz, .inr h6⟩ h5
  · exact rnext_bad s x w hx hb1 hb2 (by omega)
theorem rnext_L (s : Str) (x : Rec) (w : World) (hmany : s.recs.length ≤ 100000) (hok : s.Ok w w.heap.size) (hx : x.Ok w w.heap.size) (hb1 : 1 ≤ s.blocks) (hb2 : s.blocks ≤ 64) (hp : ∀ p, lastOf none s.recs = some p → 0 ≤ p.fr ∧ p.fr ≤ 1000000 ∧ 0 ≤ p.ct ∧ p.ct ≤ 1000000) (S X : List Value) (hS : Hid (S = s.val)) (hX : Hid (X = x.val)) (b : Bool) (hb : nextB s x = b) :
    Calls Try.prog 36 #[.agg S.toArray, .agg X.toArray] w fun e w' => e = .returned (.bool b) ∧ Below w.heap.size w w' := by
  rw [hS.out, hX.out, ← hb]
  exact rnext_calls s x w hmany hok hx hb1 hb2 hp
theorem rhead_L (s : Str) (w : World) (S : List Value) (hS : Hid (S = s.val)) (b : Bool) (hb : headB s = b) :
    Calls Try.prog 35 #[.agg S.toArray] w fun e w' => e = .returned (.bool b) ∧ Below w.heap.size w w' := by
  rw [hS.out, ← hb]
  exact rhead_calls s w
/-- The records so far, of a stream. -/
theorem RecsAt.take {w : World} {B : Nat} {A : Option Addr} {l : List Rec} (h : RecsAt w B A l) (k : Nat) : RecsAt w B A (l.take k) := by
  refine ⟨?_, fun x hx => h.2 x (List.mem_of_mem_take hx)⟩
  rcases h.1 with h | ⟨b, off, hA, hlt, hc⟩
  · exact .inl (by rw [h, List.take_nil])
  · refine .inr ⟨b, off, hA, hlt, fun j hj i v hv => ?_⟩
    rw [List.length_take] at hj
    rw [List.getElem_take] at hv
    exact hc j (by omega) i v hv
theorem take_prev {sb sa : Int} {sr : List Rec} {k : Nat} (hb2 : sb ≤ 64) (hpre : recsB sb sa none (sr.take k) = true) : ∀ p, lastOf none (sr.take k) = some p → 0 ≤ p.fr ∧ p.fr ≤ 1000000 ∧ 0 ≤ p.ct ∧ p.ct ≤ 1000000 := by
  intro p hp
  unfold lastOf at hp
  cases hl : (sr.take k).getLast? with
  | none => rw [hl] at hp; cases hp
  | some q =>
    rw [hl] at hp
    cases hp
    obtain ⟨j, hj, rfl⟩ := List.getElem_of_mem (List.mem_of_getLast? hl)
    have h := recB_bounds (recsB_rise (sr.take k) none 0 hpre (fun q e => by cases e) (fun _ => Int.le_refl _) j hj).2
    omega

theorem rt_of {w : World} {g k : Nat} {TV : List Value} {T s : Str} {A : Option Addr} (h : RowAt w g 24 (TV.set 3 (.slice A (k + 1) s.cap))) (hT : Hid (TV = T.val)) (hk : k < s.recs.length) :
    RowAt w g 24 (⟨T.blocks, T.base, T.id, A, s.cap, s.recs.take (k + 1)⟩ : Str).val := by
  have e : (s.recs.take (k + 1)).length = k + 1 := by rw [List.length_take]; omega
  rw [hT.out] at h
  show RowAt w g _ [.int .i64 T.blocks, .int .i64 T.base, .int .i64 T.id, .slice A (s.recs.take (k + 1)).length s.cap]
  rw [e]
  exact h
set_option maxRecDepth 100000 in
set_option maxHeartbeats 8000000 in
theorem rgood_calls (s : Str) (w : World) (hmany : s.recs.length ≤ 100000) (hok : s.Ok w w.heap.size) :
    Calls Try.prog 17 #[.agg s.val.toArray] w fun e w' => e = .returned (.bool (goodB s)) ∧ Below w.heap.size w w' := by
  obtain ⟨SV, hSV⟩ : ∃ SV, SV = s.val := ⟨_, rfl⟩
  have HS4 := Lib.hid (show SV.length = 4 by rw [hSV]; rfl)
  have HST := Lib.hid (show (SV.drop 0).take 4 = SV from List.take_of_length_le (Nat.le_of_eq HS4.out))
  have HSO := Lib.hid (show ∀ v ∈ SV, v.oneCell' = true by rw [hSV]; exact str_one s)
  have HSV := Lib.hid hSV
  rw [← hSV]
  clear hSV
  have hgood : goodB s = (headB s && recsB s.blocks s.base none s.recs) := rfl
  go_enter Try.func17, Try.ntmps17
  cases hh : headB s
  · have hres := Lib.hid (show goodB s = false by rw [hgood, hh]; rfl)
    clear hgood
    go_wp2_with (first
      | (refine wpList_box_row 1 rfl 24 _ rfl SV rfl rfl ?_; intro w1 hrs hz1 hB1; clear hz1)
      | (refine wpList_load_part 5 rfl 24 (.tmp 1) rfl hrs 0 4 SV rfl rfl HST.out HS4.out Try.isAgg24 Try.sizeOf24 ?_))
    refine (rhead_L s w1 SV HSV false hh).mono ?_
    rintro e w2 ⟨rfl, hB2⟩
    go_wp2_with fail
    go_ret
    exact ⟨ret_bool hres.out.symm, bthen hB1 hB2⟩
  have hres := Lib.hid (show goodB s = recsB s.blocks s.base none s.recs by rw [hgood, hh]; rfl)
  obtain ⟨h1, h2, _, _, _⟩ := headB_yes hh
  have hl9 : s.recs.length ≤ 100000 := hmany
  have hcl := hok.len
  have hcm := hok.most
  unfold maxLen at hcm
  clear hgood
  go_wp2_with (first
    | (refine wpList_box_row 1 rfl 24 _ rfl SV rfl rfl ?_; intro w1 hrs hz1 hB1; clear hz1)
    | (refine wpList_load_part 5 rfl 24 (.tmp 1) rfl hrs 0 4 SV rfl rfl HST.out HS4.out Try.isAgg24 Try.sizeOf24 ?_))
  refine (rhead_L s w1 SV HSV true hh).mono ?_
  rintro e w2 ⟨rfl, hB2⟩
  have hrs2 := hrs.step hB2
  have hW2 := bthen hB1 hB2
  clear hh hrs hB1 hB2
  go_upto_region 4 with (first
    | (refine wpList_load_part 8 rfl 24 (.tmp 1) rfl hrs2 0 4 SV rfl rfl HST.out HS4.out Try.isAgg24 Try.sizeOf24 ?_)
    | (refine wpList_alloc_row 3 rfl 24 rfl _ rfl zero_str ?_; intro w3 hr3 hs3 hB3; clear hs3)
    | (refine wpList_store_part 24 (.tmp 3) (.tmp 8) rfl hr3 0 SV rfl rfl rfl (by rw [HS4.out]; exact Try.sizeOf24) (by rw [HS4.out]; decide) HSO.out ?_
       intro w4 hrt hs4 hg4
       clear hs4
       rw [splice_all _ _ (by rw [HS4.out]; rfl)] at hrt))
  have hB4 : Below w2.heap.size w2 w4 := hB3.grown hg4 hB3.size (fun j e => by cases e; exact Nat.le_refl _)
  have hrs4 := hrs2.step hB4
  have hW4 := bthen hW2 hB4
  have c3 := hrt.cellD 3 (.slice s.A s.recs.length s.cap) (by rw [HSV.out]; rfl)
  have f3 := hrt.free 3
  have hrt' := hrt.set 3 (.slice none 0 0)
  have hset := setCell_grown w4 w2.heap.size 3 (.slice none 0 0)
  have hB5 : Below w2.heap.size w2 (w4.setCell ⟨w2.heap.size, 3, none⟩ (.slice none 0 0)) := hB4.grown hset hB4.size (fun j e => by cases e; exact Nat.le_refl _)
  have hrs5 := hrs2.step hB5
  have hW5 := bthen hW2 hB5
  have hg0 : w.heap.size ≠ w2.heap.size := by have := hrs2.lt; omega
  clear hrs2 hrs4 hB4 hW4 hB3 hg4 hr3 hrt hset hB5
  go_wp2_with fail
  clear c3 f3
  generalize w4.setCell ⟨w2.heap.size, 3, none⟩ (.slice none 0 0) = w5 at *
  obtain ⟨g, hg⟩ : ∃ g, g = w2.heap.size := ⟨_, rfl⟩
  have hwg : w.heap.size ≤ g := by rw [hg]; exact hW2.size
  rw [← hg] at hrt' hg0 ⊢
  clear hW2 hg
  have hT0 : (⟨s.blocks, s.base, s.id, none, 0, s.recs.take 0⟩ : Str).val = SV.set 3 (.slice none 0 0) := by rw [HSV.out]; rfl
  go_loopw [4] (fun i wr => ∃ (k : Nat) (T : Str), k ≤ s.recs.length ∧ i = .int .i64 (k : Int) ∧ Hid (recsB s.blocks s.base none (s.recs.take k) = true) ∧ RowAt wr w.heap.size 24 SV ∧ RowAt wr g 24 T.val ∧ Below w.heap.size w wr ∧ Hid (T.blocks = s.blocks ∧ T.base = s.base ∧ T.id = s.id ∧ T.recs = s.recs.take k ∧ T.recs.length ≤ T.cap ∧ T.cap ≤ maxLen ∧ (k = 0 ∨ T.A = s.A))) (fun i _ => s.recs.length - (intOf i).toNat)
  case atStart => exact ⟨0, ⟨s.blocks, s.base, s.id, none, 0, s.recs.take 0⟩, Nat.zero_le _, rfl, Lib.hid rfl, hrs5, by rw [hT0]; exact hrt', hW5, Lib.hid ⟨rfl, rfl, rfl, rfl, Nat.le_refl _, Nat.zero_le _, .inl rfl⟩⟩
  clear hrt' hrs5 hW5 hT0
  case round =>
  obtain ⟨k, T, hk, rfl, hpre, hrsk, hrtk, hB, hT⟩ := hrel
  have a3 := hrsk.cellD 3 (.slice s.A s.recs.length s.cap) (by rw [HSV.out]; rfl)
  by_cases hlt : k < s.recs.length
  · obtain ⟨b, o, hA, hbl, hc⟩ := hok.recs.1.resolve_left (fun e => by rw [e] at hlt; simp at hlt)
    have hrok := hok.recs.2 s.recs[k] (List.getElem_mem hlt)
    have hstep := recsB_step hlt hpre.out
    have hno : recsB s.blocks s.base none (s.recs.take (k + 1)) = false → recsB s.blocks s.base none s.recs = false := recsB_no
    have HXc := Lib.hid (rec_cells hc hbl k hlt hB)
    obtain ⟨X4, hX4⟩ : ∃ X4, X4 = s.recs[k].val := ⟨_, rfl⟩
    obtain ⟨tb, ta, ti, tr, tc, tm, tA⟩ := hT.out
    have hTok : ∀ W, Below w.heap.size w W → T.Ok W W.heap.size := by
      intro W hW
      have hrc := (hok.recs.step hW).take k
      refine ⟨?_, tc, tm, by rw [tb]; omega, by rw [tb]; omega, by rw [ta]; exact hok.a1, by rw [ta]; exact hok.a2, by rw [ti]; exact hok.i1, by rw [ti]; exact hok.i2⟩
      rw [tr]
      rcases tA with rfl | tA
      · exact ⟨.inl rfl, fun x hx => by simp at hx⟩
      · rw [tA]
        exact hrc
    have hnx : nextB T s.recs[k] = recsB s.blocks s.base none (s.recs.take (k + 1)) := by
      unfold nextB
      rw [tb, ta, tr, hstep]
    have hpv : ∀ p, lastOf none T.recs = some p → 0 ≤ p.fr ∧ p.fr ≤ 1000000 ∧ 0 ≤ p.ct ∧ p.ct ≤ 1000000 := by
      rw [tr]
      exact take_prev h2 hpre.out
    have hml : T.recs.length ≤ 100000 := by rw [tr, List.length_take]; omega
    have hxs : ∀ W, Below w.heap.size w W → s.recs[k].Ok W W.heap.size := fun W hW => hrok.step hW
    obtain ⟨TV, hTV⟩ : ∃ TV, TV = T.val := ⟨_, rfl⟩
    have HT4 := Lib.hid (show TV.length = 4 by rw [hTV]; rfl)
    have HTT := Lib.hid (show (TV.drop 0).take 4 = TV from List.take_of_length_le (Nat.le_of_eq HT4.out))
    have HX4 := Lib.hid (show X4.length = 4 by rw [hX4]; rfl)
    rw [← hX4] at HXc
    rw [← hTV] at hrtk
    have hcall := Lib.hid (fun W (hW : Below w.heap.size w W) (b : Bool) (hb : nextB T (s.recs[k]'hlt) = b) => rnext_L T s.recs[k] W hml (hTok W hW) (hxs W hW) (by rw [tb]; exact h1) (by rw [tb]; exact h2) hpv TV X4 (Lib.hid hTV) (Lib.hid hX4) b hb)
    have hk0 : (0 : Int) ≤ (k : Int) := by omega
    have hk1 : (k : Int) < (s.recs.length : Int) := by omega
    have hd1 : decide ((k : Int) < (s.recs.length : Int)) = true := decide_eq_true hk1
    have Hlt := Lib.hid hlt
    rw [hA] at a3
    have HA := Lib.hid hA
    have HH := Lib.hid (show T.blocks = s.blocks ∧ T.base = s.base ∧ T.id = s.id ∧ s.recs.take (k + 1) = s.recs.take (k + 1) ∧ (s.recs.take (k + 1)).length ≤ s.cap ∧ s.cap ≤ maxLen ∧ (k + 1 = 0 ∨ some (⟨b, o, none⟩ : Addr) = s.A) from ⟨tb, ta, ti, rfl, by rw [List.length_take]; omega, hok.most, .inr hA.symm⟩)
    have HTV := Lib.hid hTV
    replace hno := Lib.hid hno
    replace hnx := Lib.hid hnx
    clear hX4 hc hrok hstep hTok hpv hxs hTV hA tb ta ti tr tc tm tA hT
    go_upto_region 8 with fail
    have d0 : Since wr wr.drew := (Since.refl _).drew
    cases hb : recsB s.blocks s.base none (s.recs.take (k + 1))
    · have hr := Lib.hid (hres.out.trans (hno.out hb))
      have hcl2 := Lib.hid (fun W hW => hcall.out W hW false (hnx.out.trans hb))
      refine wp_region_H (Since wr) 8 rfl (by kernel_rfl) ?_
      -- <held0
      refine wh_take 0 (.agg TV.toArray) rfl (by kernel_rfl) (by kernel_rfl) (fun _ _ _ h => h) (by kernel_rfl) (fun W h => exec_load_part 24 (.tmp 3) rfl (hrtk.step h) 0 4 TV (by kernel_rfl) HTT.out HT4.out Try.isAgg24 Try.sizeOf24) ?_
      refine wh_take 1 (.pointer (some ⟨w.heap.size, 3, none⟩)) rfl (by kernel_rfl) (by kernel_rfl) (fun _ _ _ h => h) (by kernel_rfl) (fun _ _ => by kernel_rfl) ?_
      refine wh_take 2 (.slice (some ⟨b, o, none⟩) s.recs.length s.cap) rfl (by kernel_rfl) (by kernel_rfl) (fun _ _ _ h => h) (by kernel_rfl) (fun W h => exec_load_cell 22 (.tmp 18) rfl ⟨w.heap.size, 3, none⟩ _ (by kernel_rfl) (h.cell a3) Try.isAgg22) ?_
      refine wh_take 3 (.int .i64 (k : Nat)) rfl (by kernel_rfl) (by kernel_rfl) (fun _ _ _ h => h) (by kernel_rfl) (fun _ _ => by kernel_rfl) ?_
      refine wh_take 4 (.pointer (some ⟨b, o + k * 4, none⟩)) rfl (by kernel_rfl) (by kernel_rfl) (fun _ _ _ h => h) (by kernel_rfl) (fun _ _ => exec_index_slice 22 39 (.tmp 19) (.tmp 20) rfl b o k s.recs.length s.cap 4 Try.underlying22 Try.sizeOf39 (by kernel_rfl) (by kernel_rfl) Hlt.out) ?_
      refine wh_take 5 (.agg X4.toArray) rfl (by kernel_rfl) (by kernel_rfl) (fun _ _ _ h => h) (by kernel_rfl) (fun W h => exec_load_cells 39 (.tmp 21) rfl ⟨b, o + k * 4, none⟩ X4 (fun j v hv => h.cell (HXc.out j v hv)) (by kernel_rfl) 4 HX4.out Try.isAgg39 Try.sizeOf39) ?_
      refine wh_call 6 36 #[.agg TV.toArray, .agg X4.toArray] rfl (by kernel_rfl) (by kernel_rfl) d0 (fun _ => by kernel_rfl) ?_
      refine (hcl2.out _ (bthen hB d0)).mono ?_
      rintro e x1 ⟨rfl, hx1⟩
      have s1 : Since wr x1 := d0.then_ hx1
      refine ⟨_, rfl, ?_⟩
      refine wh_take 7 (.bool true) rfl (by kernel_rfl) (by kernel_rfl) (fun _ _ _ h => h) (by kernel_rfl) (fun _ _ => by kernel_rfl) ?_
      refine wh_done (by kernel_rfl) s1 ?_
      simp only [Act.put, List.setIfInBounds_toArray, List.set_cons_zero, List.set_cons_succ]
      -- held0>
      go_wp2_with fail
      go_ret
      exact ⟨ret_bool hr.out.symm, bthen hB s1⟩
    · have hcl2 := Lib.hid (fun W hW => hcall.out W hW true (hnx.out.trans hb))
      replace hb := Lib.hid hb
      refine wp_region_H (Since wr) 8 rfl (by kernel_rfl) ?_
      -- <held1
      refine wh_take 0 (.agg TV.toArray) rfl (by kernel_rfl) (by kernel_rfl) (fun _ _ _ h => h) (by kernel_rfl) (fun W h => exec_load_part 24 (.tmp 3) rfl (hrtk.step h) 0 4 TV (by kernel_rfl) HTT.out HT4.out Try.isAgg24 Try.sizeOf24) ?_
      refine wh_take 1 (.pointer (some ⟨w.heap.size, 3, none⟩)) rfl (by kernel_rfl) (by kernel_rfl) (fun _ _ _ h => h) (by kernel_rfl) (fun _ _ => by kernel_rfl) ?_
      refine wh_take 2 (.slice (some ⟨b, o, none⟩) s.recs.length s.cap) rfl (by kernel_rfl) (by kernel_rfl) (fun _ _ _ h => h) (by kernel_rfl) (fun W h => exec_load_cell 22 (.tmp 18) rfl ⟨w.heap.size, 3, none⟩ _ (by kernel_rfl) (h.cell a3) Try.isAgg22) ?_
      refine wh_take 3 (.int .i64 (k : Nat)) rfl (by kernel_rfl) (by kernel_rfl) (fun _ _ _ h => h) (by kernel_rfl) (fun _ _ => by kernel_rfl) ?_
      refine wh_take 4 (.pointer (some ⟨b, o + k * 4, none⟩)) rfl (by kernel_rfl) (by kernel_rfl) (fun _ _ _ h => h) (by kernel_rfl) (fun _ _ => exec_index_slice 22 39 (.tmp 19) (.tmp 20) rfl b o k s.recs.length s.cap 4 Try.underlying22 Try.sizeOf39 (by kernel_rfl) (by kernel_rfl) Hlt.out) ?_
      refine wh_take 5 (.agg X4.toArray) rfl (by kernel_rfl) (by kernel_rfl) (fun _ _ _ h => h) (by kernel_rfl) (fun W h => exec_load_cells 39 (.tmp 21) rfl ⟨b, o + k * 4, none⟩ X4 (fun j v hv => h.cell (HXc.out j v hv)) (by kernel_rfl) 4 HX4.out Try.isAgg39 Try.sizeOf39) ?_
      refine wh_call 6 36 #[.agg TV.toArray, .agg X4.toArray] rfl (by kernel_rfl) (by kernel_rfl) d0 (fun _ => by kernel_rfl) ?_
      refine (hcl2.out _ (bthen hB d0)).mono ?_
      rintro e x1 ⟨rfl, hx1⟩
      have s1 : Since wr x1 := d0.then_ hx1
      refine ⟨_, rfl, ?_⟩
      refine wh_take 7 (.bool false) rfl (by kernel_rfl) (by kernel_rfl) (fun _ _ _ h => h) (by kernel_rfl) (fun _ _ => by kernel_rfl) ?_
      refine wh_done (by kernel_rfl) s1 ?_
      simp only [Act.put, List.setIfInBounds_toArray, List.set_cons_zero, List.set_cons_succ]
      -- held1>
      have hrs6 := hrsk.step s1
      have hrt6 := hrtk.step s1
      have hB6 := bthen hB s1
      have z3 := hrs6.cellD 3 (.slice (some ⟨b, o, none⟩) s.recs.length s.cap) (by rw [HSV.out, ← HA.out]; rfl)
      have y3 := hrt6.cellD 3 (.slice T.A T.recs.length T.cap) (by rw [HTV.out]; rfl)
      have fr3 := hrt6.free 3
      have hset := setCell_grown x1 g 3 (.slice (some ⟨b, o, none⟩) (k + 1) s.cap)
      have hrt7 := hrt6.set 3 (.slice (some ⟨b, o, none⟩) (k + 1) s.cap)
      have hrs7 := hrs6.kept hset (fun e => by injection e with e; exact hg0 e.symm)
      have hB7 : Below w.heap.size w (x1.setCell ⟨g, 3, none⟩ (.slice (some ⟨b, o, none⟩) (k + 1) s.cap)) := hB6.grown hset hB6.size (fun j e => by cases e; exact hwg)
      have hkc : (k : Int) + 1 ≤ (s.cap : Int) := by omega
      clear hrsk hrtk s1 d0 hrs6 hrt6 hcl2 hcall hset a3 HXc hx1
      go_wp2_with fail
      go_roundw
      case rel => exact ⟨k + 1, ⟨T.blocks, T.base, T.id, some ⟨b, o, none⟩, s.cap, s.recs.take (k + 1)⟩, by omega, by go_num, hb, hrs7, rt_of hrt7 HTV Hlt.out, hB7, HH⟩
      case measure => simp [intOf]; omega
  · obtain rfl : k = s.recs.length := by omega
    have hd1 : decide ((s.recs.length : Int) < (s.recs.length : Int)) = false := decide_eq_false (by omega)
    have hr : goodB s = true := by
      have := hpre.out
      rw [List.take_length] at this
      rw [hres.out, this]
    replace hr := Lib.hid hr
    go_wp2_with fail
    go_ret
    exact ⟨ret_bool hr.out.symm, hB⟩
end Go.Proofs.Ytdglkjpdhnnpnaa
