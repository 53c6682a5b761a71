/-
  revetmentlaw03.DiskSafe returns true: the walk.
-/
import Derived.Test.YthieeidbfdhaaaaLiveMore
namespace Go.Proofs.Ythieeidbfdhaaaa
open Go Go.RowKit

/-- The number of a step's sector. -/
def DStep.sec (x : DStep) : Nat := (modN x.place 6).toNat
theorem DStep.sec_lt (x : DStep) : x.sec < 6 := by
  have h2 := Int.emod_lt_of_pos x.place (show (0 : Int) < 6 by omega)
  unfold DStep.sec modN
  omega
theorem DStep.sec_eq (x : DStep) : modN x.place 6 = (x.sec : Int) := by
  have h1 := Int.emod_nonneg x.place (show (6 : Int) ≠ 0 by omega)
  unfold DStep.sec modN
  omega

/-- Behind the writes ahead: each sector's last version. -/
structure DA (D : List Sct) (ws : List UInt8) (i : Nat) : Prop where
  len : D.length = 6
  wl : ws.length = 6
  same : ∀ k (h : k < D.length) (h2 : k < ws.length), D[k].last = fillB ws[k]
  vers : ∀ k (h : k < D.length), D[k].vers.length ≤ i
theorem DA.zero : DA (List.replicate 6 Sct.zero) (List.replicate 6 0) 0 := by
  refine ⟨rfl, rfl, fun k h h2 => ?_, fun k h => ?_⟩
  · rw [List.getElem_replicate, List.getElem_replicate]
    rfl
  · rw [List.getElem_replicate]
    exact Nat.zero_le _
theorem DA.write {D : List Sct} {ws : List UInt8} {i : Nat} (h : DA D ws i) (k : Nat) (hk : k < D.length) (v : UInt8) : DA (D.set k ⟨D[k].there, D[k].vers ++ [fillB v]⟩) (ws.set k v) (i + 1) := by
  refine ⟨by rw [List.length_set, h.len], by rw [List.length_set, h.wl], fun j h1 h2 => ?_, fun j h1 => ?_⟩
  · rw [List.length_set] at h1 h2
    rw [List.getElem_set, List.getElem_set]
    split
    · simp [Sct.last]
    · exact h.same j h1 h2
  · rw [List.length_set] at h1
    rw [List.getElem_set]
    split
    · have := h.vers k hk
      simp only [List.length_append, List.length_singleton]
      omega
    · have := h.vers j h1
      omega

/-- Behind the flush, and the steps l. -/
structure DS (D : List Sct) (ws : List UInt8) (l : List DStep) : Prop where
  len : D.length = 6
  wl : ws.length = 6
  there : ∀ k (h : k < D.length) (h2 : k < ws.length), D[k].there = fillB ws[k]
  vers : ∀ k (h : k < D.length), ∀ b ∈ D[k].vers, ∃ x ∈ l, x.sec = k ∧ b = fillB x.v
  many : ∀ k (h : k < D.length), D[k].vers.length ≤ l.length
theorem DA.flush {D : List Sct} {ws : List UInt8} {i : Nat} (h : DA D ws i) : DS (flushN D) ws [] := by
  have hl : (flushN D).length = D.length := List.length_map _
  refine ⟨hl.trans h.len, h.wl, fun k h1 h2 => ?_, fun k h1 b hb => ?_, fun k h1 => ?_⟩
  · rw [← h.same k (hl ▸ h1) h2]
    simp only [flushN, List.getElem_map]
    rfl
  · simp only [flushN, List.getElem_map, Sct.flushed] at hb
    cases hb
  · simp only [flushN, List.getElem_map]
    exact Nat.zero_le _
theorem flush_loose (D : List Sct) : looseN (flushN D) = [] := by
  have : ∀ k, looseFrom k (flushN D) = [] := by
    unfold flushN
    induction D with
    | nil => intro k; rfl
    | cons s D ih =>
      intro k
      simp only [List.map_cons, looseFrom, Sct.flushed, if_pos]
      exact ih (k + 1)
  exact this 0
theorem DS.write {D : List Sct} {ws : List UInt8} {l : List DStep} (h : DS D ws l) (x : DStep) (hk : x.sec < D.length) : DS (D.set x.sec ⟨D[x.sec].there, D[x.sec].vers ++ [fillB x.v]⟩) ws (l ++ [x]) := by
  refine ⟨by rw [List.length_set, h.len], h.wl, fun j h1 h2 => ?_, fun j h1 b hb => ?_, fun j h1 => ?_⟩
  · rw [List.length_set] at h1
    rw [List.getElem_set]
    split
    · rename_i e
      subst e
      exact h.there _ h1 h2
    · exact h.there j h1 h2
  · rw [List.length_set] at h1
    rw [List.getElem_set] at hb
    split at hb
    · rename_i e
      subst e
      rcases List.mem_append.1 hb with hb | hb
      · obtain ⟨y, hy, h3⟩ := h.vers _ h1 b hb
        exact ⟨y, List.mem_append_left _ hy, h3⟩
      · exact ⟨x, by simp, rfl, by simpa using hb⟩
    · obtain ⟨y, hy, h3⟩ := h.vers j h1 b hb
      exact ⟨y, List.mem_append_left _ hy, h3⟩
  · rw [List.length_set] at h1
    rw [List.getElem_set, List.length_append]
    split
    · have := h.many _ hk
      simp only [List.length_append, List.length_singleton]
      omega
    · have := h.many j h1
      omega

/-- What a crash leaves. -/
theorem crash_len (D : List Sct) : ∀ pick, (crashN D pick).length = D.length := by
  induction D with
  | nil => intro pick; rfl
  | cons s D ih =>
    intro pick
    unfold crashN
    split <;> rw [List.length_cons, List.length_cons, ih]
theorem pick_in (s : Sct) (pick : List UInt8) : (s.pick pick).vers = [] ∧ (s.pick pick).there ∈ s.there :: s.vers := by
  unfold Sct.pick
  cases pick with
  | nil => exact ⟨rfl, List.mem_cons_self ..⟩
  | cons p pick =>
    refine ⟨rfl, ?_⟩
    have h : p.toNat % (s.vers.length + 1) < (s.there :: s.vers).length := by
      rw [List.length_cons]
      exact Nat.mod_lt _ (by omega)
    show ((s.there :: s.vers)[p.toNat % (s.vers.length + 1)]?).getD [] ∈ _
    rw [List.getElem?_eq_getElem h]
    exact List.getElem_mem h
theorem crash_in (D : List Sct) : ∀ pick k (h : k < (crashN D pick).length) (h2 : k < D.length), (crashN D pick)[k].vers = [] ∧ (crashN D pick)[k].there ∈ D[k].there :: D[k].vers := by
  induction D with
  | nil => intro pick k h h2; cases h2
  | cons s D ih =>
    intro pick k h h2
    by_cases hv : s.vers = []
    · have e : crashN (s :: D) pick = s :: crashN D pick := by rw [crashN, if_pos hv]
      rcases k with _ | k
      · simp only [e, List.getElem_cons_zero]
        exact ⟨hv, List.mem_cons_self ..⟩
      · simp only [e, List.getElem_cons_succ]
        exact ih pick k _ _
    · have e : crashN (s :: D) pick = s.pick pick :: crashN D (pick.drop 1) := by rw [crashN, if_neg hv]
      rcases k with _ | k
      · simp only [e, List.getElem_cons_zero]
        exact pick_in s pick
      · simp only [e, List.getElem_cons_succ]
        exact ih _ k _ _
theorem crash_loose (D : List Sct) (pick : List UInt8) : looseN (crashN D pick) = [] := by
  have : ∀ k pick, looseFrom k (crashN D pick) = [] := by
    induction D with
    | nil => intro k pick; rfl
    | cons s D ih =>
      intro k pick
      unfold crashN
      split
      · rename_i hv
        rw [looseFrom, if_pos hv]
        exact ih _ _
      · rw [looseFrom, if_pos (pick_in s pick).1]
        exact ih _ _
  exact this 0 pick

/-- The statement's test of a sector. -/
def okB (b : List UInt8) (v : UInt8) (k : Nat) (l : List DStep) : Bool := (b == fillB v) || l.any fun x => x.sec == k && b == fillB x.v
theorem okB_snoc (b : List UInt8) (v : UInt8) (k : Nat) (l : List DStep) (x : DStep) : okB b v k (l ++ [x]) = (okB b v k l || (x.sec == k && b == fillB x.v)) := by
  unfold okB
  rw [List.any_append]
  simp [Bool.or_assoc]
theorem DS.ok {D : List Sct} {ws : List UInt8} {l : List DStep} (h : DS D ws l) (pick : List UInt8) (k : Nat) (h1 : k < (crashN D pick).length) (h2 : k < ws.length) : okB (crashN D pick)[k].last ws[k] k l = true := by
  have hk : k < D.length := by rw [← crash_len D pick]; exact h1
  obtain ⟨c1, c2⟩ := crash_in D pick k h1 hk
  have hl : (crashN D pick)[k].last = (crashN D pick)[k].there := by
    unfold Sct.last
    rw [c1]
    rfl
  rw [hl]
  unfold okB
  rw [Bool.or_eq_true, List.any_eq_true]
  rcases List.mem_cons.1 c2 with e | hm
  · left
    rw [e, h.there k hk h2, beq_self_eq_true]
  · right
    obtain ⟨x, hx, hs, hb⟩ := h.vers k hk _ hm
    exact ⟨x, hx, by rw [hs, hb, beq_self_eq_true, beq_self_eq_true]; rfl⟩

theorem mod_sec (x : DStep) (w : World) :
    Calls Try.prog 32 #[.int .i64 x.place, .int .i64 6] w fun e w' => e = .returned (.int .i64 (x.sec : Int)) ∧ w = w' := by
  refine (mod_calls _ _ _ (by omega) (by omega)).mono ?_
  rintro e w' ⟨rfl, rfl⟩
  rw [x.sec_eq]
  exact ⟨rfl, rfl⟩
theorem zero_was (w : World) : (zeroValue 55).run Try.prog w = .ok (.agg ((List.replicate 6 (0 : UInt8)).map B8).toArray) w := by kernel_rfl

attribute [local go_sem ↓ high] exec_lblock
attribute [local go_sem ↓] Go.wp_at_zero Go.wp_at_succ

set_option maxRecDepth 100000 in
set_option maxHeartbeats 8000000 in
theorem diskSafe_walk (A1 : Option Addr) (cap1 : Nat) (l1 : List DStep) (A2 : Option Addr) (cap2 : Nat) (l2 : List DStep) (A3 : Option Addr) (cap3 : Nat) (pick : List UInt8) (w : World)
    (hlc1 : l1.length ≤ cap1) (hm1 : cap1 ≤ maxLen) (hst1 : DStepsAt w w.heap.size A1 l1) (hlc2 : l2.length ≤ cap2) (hm2 : cap2 ≤ maxLen) (hst2 : DStepsAt w w.heap.size A2 l2) (hlc3 : pick.length ≤ cap3) (_hm3 : cap3 ≤ maxLen) (hpk : BytesAt w w.heap.size A3 pick) :
    Calls Try.prog 4 #[.slice A1 l1.length cap1, .slice A2 l2.length cap2, .slice A3 pick.length cap3] w fun e w' => e = .returned (.bool true) ∧ Below w.heap.size w w' := by
  unfold maxLen at hm1 hm2
  go_enter Try.func4, Try.ntmps4
  go_wp2_with fail
  refine (live_new (brefl w) 6 (by decide) (by decide) (F := []) (by simp)).mono ?_
  rintro e w1 ⟨⟨gd, rfl, hv1⟩, hB1⟩
  cases hf1 : fairB l1
  · go_wp2_with fail
    refine (fair_b A1 cap1 l1 _ _ (hst1.below hB1) (by omega) false hf1).mono ?_
    rintro e w2 ⟨rfl, rfl⟩
    clear hf1 hst1 hst2 hpk
    go_wp2_with fail
    refine (wakes03_calls _).mono ?_
    rintro e w2 ⟨rfl, hB2⟩
    go_wp2_with fail
    go_ret
    exact ⟨rfl, bthen hB1 hB2⟩
  have hn1 := fairB_len hf1
  go_wp2_with fail
  refine (fair_b A1 cap1 l1 _ _ (hst1.below hB1) (by omega) true hf1).mono ?_
  rintro e w2 ⟨rfl, rfl⟩
  clear hf1
  cases hf2 : fairB l2
  · go_wp2_with fail
    refine (fair_b A2 cap2 l2 _ _ (hst2.below hB1) (by omega) false hf2).mono ?_
    rintro e w2 ⟨rfl, rfl⟩
    clear hf2 hst1 hst2 hpk
    go_wp2_with fail
    refine (wakes03_calls _).mono ?_
    rintro e w2 ⟨rfl, hB2⟩
    go_wp2_with fail
    go_ret
    exact ⟨rfl, bthen hB1 hB2⟩
  have hn2 := fairB_len hf2
  go_wp2_with fail
  refine (fair_b A2 cap2 l2 _ _ (hst2.below hB1) (by omega) true hf2).mono ?_
  rintro e w2 ⟨rfl, rfl⟩
  clear hf2
  by_cases hp : 300 < pick.length
  · have hd : decide ((300 : Int) < (pick.length : Int)) = true := decide_eq_true (by omega)
    clear hst1 hst2 hpk
    go_wp2_with fail
    refine (wakes03_calls _).mono ?_
    rintro e w2 ⟨rfl, hB2⟩
    go_wp2_with fail
    go_ret
    exact ⟨rfl, bthen hB1 hB2⟩
  have hd : decide ((300 : Int) < (pick.length : Int)) = false := decide_eq_false (by omega)
  have hp : pick.length ≤ 300 := by omega
  go_wp2_with (refine wpList_alloc_row 9 rfl 55 rfl _ rfl zero_was ?_; intro w2 hr2 hs2 hB2; clear hs2)
  have hv2 := hv1.add hB2 w1.heap.size (Nat.le_refl _) hr2.lt
  have hg0 := hB1.size
  clear hv1 hd
  go_loopw [10] (fun i wr => ∃ (j : Nat) (D : List Sct) (ws : List UInt8), j ≤ l1.length ∧ i = .int .i64 (j : Int) ∧ DA D ws j ∧ Live w wr gd D [w1.heap.size] ∧ RowAt wr w1.heap.size 55 (ws.map B8)) (fun i _ => l1.length - (intOf i).toNat)
  case atStart => exact ⟨0, _, _, Nat.zero_le _, rfl, DA.zero, hv2, hr2⟩
  case round =>
    obtain ⟨j, D, ws, hj, rfl, hdw, hv, hr⟩ := hrel
    clear hv2 hr2
    have hD := hdw.len
    have hD2 : ∀ i (h : i < D.length), D[i].vers.length ≤ 100000 := fun i h => by have := hdw.vers i h; omega
    by_cases hlt : j < l1.length
    · obtain ⟨b, o, rfl, hb1, hc⟩ := hst1.1.resolve_left (fun e => by rw [e] at hlt; simp at hlt)
      have hw1 : w.cell? ⟨b, o + j * 4 + 1, none⟩ = some (.int .i64 l1[j].place) := hc j hlt 1 _ rfl
      have hw2 : w.cell? ⟨b, o + j * 4 + 2, none⟩ = some (B8 l1[j].v) := hc j hlt 2 _ rfl
      generalize l1[j] = x at hw1 hw2
      have hc1 : wr.cell? ⟨b, o + j * 4 + 1, none⟩ = some (.int .i64 x.place) := (hv.below.cell (p := ⟨b, o + j * 4 + 1, none⟩) hb1).trans hw1
      have hc2 : wr.cell? ⟨b, o + j * 4 + 2, none⟩ = some (B8 x.v) := (hv.below.cell (p := ⟨b, o + j * 4 + 2, none⟩) hb1).trans hw2
      replace hw2 := Lib.hid hw2
      have hkD : x.sec < D.length := by rw [hD]; exact x.sec_lt
      have hkw : x.sec < ws.length := by rw [hdw.wl]; exact x.sec_lt
      have hks := x.sec_lt
      replace hD := Lib.hid hD
      have hk0 : (0 : Int) ≤ (j : Int) := by omega
      have hk1 : (j : Int) < (l1.length : Int) := by omega
      have hka : (0 : Int) ≤ (x.sec : Int) := by omega
      have hkb : (x.sec : Int) < 6 := by omega
      have hd1 : decide (j < l1.length) = true := decide_eq_true hlt
      obtain ⟨L, hL⟩ : ∃ L, L = (fillB x.v).map B8 := ⟨_, rfl⟩
      have HL := Lib.hid hL
      have hdw' := hdw.write x.sec hkD x.v
      obtain ⟨D', hD'⟩ : ∃ D', D' = D.set x.sec ⟨D[x.sec].there, D[x.sec].vers ++ [fillB x.v]⟩ := ⟨_, rfl⟩
      rw [← hD'] at hdw'
      replace hD' := Lib.hid hD'
      clear hc hst1 hL hw1
      go_wp2_with fail
      refine (mod_sec x _).mono ?_
      rintro e w' ⟨rfl, rfl⟩
      clear hc1
      go_wp2_with fail
      refine (fill_L x.v L HL _).mono ?_
      rintro e w3 ⟨rfl, hB3⟩
      clear hc2
      have hv3 := hv.step hB3
      have hr3 := hr.step hB3
      go_wp2_with fail
      refine (live_write_L hv3 x.sec hkD (hD2 x.sec hkD) (fillB x.v) (fillB_length _) D' hD'.out L HL).mono ?_
      rintro e w4 ⟨rfl, hv4, hk4⟩
      have hr4 := hk4.row (g := w1.heap.size) (by simp) hr3
      have hc2 : w4.cell? ⟨b, o + j * 4 + 2, none⟩ = some (B8 x.v) := (hv4.below.cell (p := ⟨b, o + j * 4 + 2, none⟩) hb1).trans hw2.out
      have hcw : w4.cell? ⟨w1.heap.size, x.sec, none⟩ = some (B8 ws[x.sec]) := hr4.cellD _ _ (by rw [List.getElem?_map, List.getElem?_eq_getElem hkw]; rfl)
      have hfw := hr4.free x.sec
      have hr5 := hr4.set x.sec (B8 x.v)
      have hmap : (ws.map B8).set x.sec (B8 x.v) = (ws.set x.sec x.v).map B8 := by rw [List.map_set]
      rw [hmap] at hr5
      have hv5 := hv4.grown (setCell_grown w4 w1.heap.size x.sec (B8 x.v)) (by simp) hg0
      clear hmap hv hv3 hr hr3 hr4 hv4
      go_wp2_with fail
      go_roundw
      case rel => exact ⟨j + 1, _, _, by omega, by go_num, hdw', hv5, hr5⟩
      case measure => simp [intOf]; omega
    · obtain rfl : j = l1.length := by omega
      have hd0 : decide (l1.length < l1.length) = false := decide_eq_false (by omega)
      have hds := hdw.flush
      replace hD := Lib.hid hD
      go_wp2_with fail
      clear hd0
      refine (live_flush hv (by rw [hD.out]; decide) hD2).mono ?_
      rintro e w3 ⟨rfl, hv3, hk3⟩
      have hr3 := hk3.row (g := w1.heap.size) (by simp) hr
      clear hv hr hst1
      go_wp2_with fail
      refine (live_loose hv3 (by rw [hds.len]; decide)).mono ?_
      rintro e w4 ⟨⟨ys, A4, c4, rfl, hys, _⟩, hB4⟩
      rw [looseAll_val, flush_loose] at hys
      subst hys
      have hv4 := hv3.step hB4
      have hr4 := hr3.step hB4
      generalize flushN D = D1 at hds hv3 hv4
      clear hv3 hr3 hdw hD hD2
      go_wp2_with fail
      go_loopw [12] (fun i wx => ∃ (j : Nat) (D : List Sct), j ≤ l2.length ∧ i = .int .i64 (j : Int) ∧ DS D ws (l2.take j) ∧ Live w wx gd D [w1.heap.size] ∧ RowAt wx w1.heap.size 55 (ws.map B8)) (fun i _ => l2.length - (intOf i).toNat)
      case atStart => exact ⟨0, _, Nat.zero_le _, rfl, hds, hv4, hr4⟩
      clear hds hv4 hr4 D
      case round =>
      obtain ⟨j, D, hj, rfl, hds, hv, hr⟩ := hrel
      have hD := hds.len
      have hD2 : ∀ i (h : i < D.length), D[i].vers.length ≤ 100000 := fun i h => by have := hds.many i h; rw [List.length_take] at this; omega
      by_cases hlt : j < l2.length
      · obtain ⟨b, o, rfl, hb1, hc⟩ := hst2.1.resolve_left (fun e => by rw [e] at hlt; simp at hlt)
        have hw1 : w.cell? ⟨b, o + j * 4 + 1, none⟩ = some (.int .i64 l2[j].place) := hc j hlt 1 _ rfl
        have hw2 : w.cell? ⟨b, o + j * 4 + 2, none⟩ = some (B8 l2[j].v) := hc j hlt 2 _ rfl
        have hts := List.take_succ_eq_append_getElem hlt
        generalize l2[j] = x at hw1 hw2 hts
        have Hc1 := Lib.hid (show ∀ W, Since w W → W.cell? ⟨b, o + j * 4 + 1, none⟩ = some (.int .i64 x.place) from fun W h => (h.cell (p := ⟨b, o + j * 4 + 1, none⟩) hw1))
        have Hc2 := Lib.hid (show ∀ W, Since w W → W.cell? ⟨b, o + j * 4 + 2, none⟩ = some (B8 x.v) from fun W h => (h.cell (p := ⟨b, o + j * 4 + 2, none⟩) hw2))
        have hkD : x.sec < D.length := by rw [hD]; exact x.sec_lt
        replace hD := Lib.hid hD
        have hk0 : (0 : Int) ≤ (j : Int) := by omega
        have hk1 : (j : Int) < (l2.length : Int) := by omega
        have hd1 : decide (j < l2.length) = true := decide_eq_true hlt
        have HJ := Lib.hid hlt
        obtain ⟨L, hL⟩ : ∃ L, L = (fillB x.v).map B8 := ⟨_, rfl⟩
        have HL := Lib.hid hL
        have hds' := hds.write x hkD
        rw [← hts] at hds'
        obtain ⟨D', hD'⟩ : ∃ D', D' = D.set x.sec ⟨D[x.sec].there, D[x.sec].vers ++ [fillB x.v]⟩ := ⟨_, rfl⟩
        rw [← hD'] at hds'
        replace hD' := Lib.hid hD'
        clear hc hst2 hL hw1 hw2 hts
        go_wp2_with fail
        have d0 : Since w wr.drew := (show Since w wr from hv.below).drew
        refine wp_region_H (Since w) 15 rfl (by kernel_rfl) ?_
        -- <held1
        refine wh_take 0 (.pointer (some ⟨gd, 0, none⟩)) rfl (by kernel_rfl) (by kernel_rfl) (fun _ _ _ h => h) (by kernel_rfl) (fun _ _ => by kernel_rfl) ?_
        refine wh_take 1 (.slice (some ⟨b, o, none⟩) l2.length cap2) rfl (by kernel_rfl) (by kernel_rfl) (fun _ _ _ h => h) (by kernel_rfl) (fun _ _ => by kernel_rfl) ?_
        refine wh_take 2 (.int .i64 (j : Nat)) rfl (by kernel_rfl) (by kernel_rfl) (fun _ _ _ h => h) (by kernel_rfl) (fun _ _ => by kernel_rfl) ?_
        refine wh_take 3 (.pointer (some ⟨b, o + j * 4, none⟩)) rfl (by kernel_rfl) (by kernel_rfl) (fun _ _ _ h => h) (by kernel_rfl) (fun _ _ => exec_index_slice 22 34 (.tmp 97) (.tmp 98) rfl b o j l2.length cap2 4 Try.underlying22 Try.sizeOf34 (by kernel_rfl) (by kernel_rfl) HJ.out) ?_
        refine wh_take 4 (.pointer (some ⟨b, o + j * 4 + 1, none⟩)) rfl (by kernel_rfl) (by kernel_rfl) (fun _ _ _ h => h) (by kernel_rfl) (fun _ _ => by kernel_rfl) ?_
        refine wh_take 5 (.int .i64 x.place) rfl (by kernel_rfl) (by kernel_rfl) (fun _ _ _ h => h) (by kernel_rfl) (fun W h => exec_load_cell 3 (.tmp 100) rfl ⟨b, o + j * 4 + 1, none⟩ (.int .i64 x.place) (by kernel_rfl) (Hc1.out W h) Try.isAgg3) ?_
        refine wh_take 7 (.slice (some ⟨b, o, none⟩) l2.length cap2) rfl (by kernel_rfl) (by kernel_rfl) (fun _ _ _ h => h) (by kernel_rfl) (fun _ _ => by kernel_rfl) ?_
        refine wh_take 8 (.int .i64 (j : Nat)) rfl (by kernel_rfl) (by kernel_rfl) (fun _ _ _ h => h) (by kernel_rfl) (fun _ _ => by kernel_rfl) ?_
        refine wh_take 9 (.pointer (some ⟨b, o + j * 4, none⟩)) rfl (by kernel_rfl) (by kernel_rfl) (fun _ _ _ h => h) (by kernel_rfl) (fun _ _ => exec_index_slice 22 34 (.tmp 103) (.tmp 104) rfl b o j l2.length cap2 4 Try.underlying22 Try.sizeOf34 (by kernel_rfl) (by kernel_rfl) HJ.out) ?_
        refine wh_take 10 (.pointer (some ⟨b, o + j * 4 + 2, none⟩)) rfl (by kernel_rfl) (by kernel_rfl) (fun _ _ _ h => h) (by kernel_rfl) (fun _ _ => by kernel_rfl) ?_
        refine wh_take 11 (B8 x.v) rfl (by kernel_rfl) (by kernel_rfl) (fun _ _ _ h => h) (by kernel_rfl) (fun W h => exec_load_cell 5 (.tmp 106) rfl ⟨b, o + j * 4 + 2, none⟩ (B8 x.v) (by kernel_rfl) (Hc2.out W h) Try.isAgg5) ?_
        refine wh_call 6 32 #[.int .i64 x.place, .int .i64 6] rfl (by kernel_rfl) (by kernel_rfl) d0 (fun _ => by kernel_rfl) ?_
        refine (mod_sec x _).mono ?_
        rintro e x1 ⟨rfl, rfl⟩
        refine ⟨_, rfl, ?_⟩
        refine wh_call 12 19 #[B8 x.v] rfl (by kernel_rfl) (by kernel_rfl) d0 (fun _ => by kernel_rfl) ?_
        refine (fill_L x.v L HL _).mono ?_
        rintro e x2 ⟨rfl, hx2⟩
        have v2 := (hv.step (brefl wr).drew).step hx2
        refine ⟨_, rfl, ?_⟩
        refine wh_call 13 18 #[.pointer (some ⟨gd, 0, none⟩), .int .i64 (x.sec : Nat), .agg L.toArray] rfl (by kernel_rfl) (by kernel_rfl) v2.below (fun _ => by kernel_rfl) ?_
        refine (live_write_L v2 x.sec hkD (hD2 x.sec hkD) (fillB x.v) (fillB_length _) D' hD'.out L HL).mono ?_
        rintro e x3 ⟨rfl, hv3, hk3⟩
        refine ⟨.int .i64 0, rfl, ?_⟩
        refine wh_take 14 (.bool false) rfl (by kernel_rfl) (by kernel_rfl) (fun _ _ _ h => h) (by kernel_rfl) (fun _ _ => by kernel_rfl) ?_
        -- held1>
        refine wh_done (by kernel_rfl) hv3.below ?_
        simp only [Act.put, List.setIfInBounds_toArray, List.set_cons_zero, List.set_cons_succ]
        have hr3 := hk3.row (g := w1.heap.size) (by simp) ((hr.step (brefl wr).drew).step hx2)
        clear v2 hv hr
        go_wp2_with fail
        go_roundw
        case rel => exact ⟨j + 1, D', by omega, by go_num, hds', hv3, hr3⟩
        case measure => simp [intOf]; omega
      · obtain rfl : j = l2.length := by omega
        rw [List.take_length] at hds
        have hd0 : decide (l2.length < l2.length) = false := decide_eq_false (by omega)
        replace hD := Lib.hid hD
        have hown := OwnB.made wr wr.heap.size 5 (Nat.le_refl _)
        have hBo := balloc (brefl wr) (.cells #[] 5)
        have hpr := (hpk.below hv.below).below (hBo.mono hv.below.size)
        have hpl : pick.length ≤ 140737488355328 := by omega
        clear hpk
        go_wp2_with (at_builtin; refine wpList_app hBo rfl _ _ 32 rfl Try.underlying32 Try.info_byte hown cap3 hpr (by rfl) (by rfl) (by simp; omega) ?_)
        intro zs A5 c5 w5 hz hown5 hB5 hg5 _
        have hzs : zs = pick := by simpa using hz.out
        subst hzs
        clear hz hd0 hpr hBo hown hg5
        obtain ⟨F', hv5, hA5, hF⟩ := live_own hv hB5 hown5
        have hgF := hF w1.heap.size (by simp)
        have hr5 := hr.step hB5
        have hc5 := hown5.cap
        have hcm5 := hown5.capMax
        have hb5 := hown5.bytes
        go_wp2_with fail
        refine (live_crash hv5 (by rw [hD.out]; decide) hD2 A5 c5 zs hb5 hc5 hcm5 hA5).mono ?_
        rintro e w6 ⟨⟨v6, rfl⟩, hv6, hk6⟩
        have hr6 := hk6.row hgF hr5
        have hcl := crash_len D zs
        have hcn := crash_in D zs
        have hcz := Lib.hid (crash_loose D zs)
        have hok9 := Lib.hid (hds.ok zs)
        obtain ⟨D3, hD3⟩ : ∃ D3, D3 = crashN D zs := ⟨_, rfl⟩
        rw [← hD3] at hv6 hcl hcz hok9 hcn
        have h36 : D3.length = 6 := by rw [hcl, hD.out]
        have hv36 : ∀ i (h : i < D3.length), D3[i].vers.length ≤ 100000 := fun i h => by rw [(hcn i h (by rw [← hcl]; exact h)).1]; exact Nat.zero_le _
        have hws := hds.wl
        replace hv6 := hv6.drop (F' := [w1.heap.size]) (by simpa using hgF)
        replace h36 := Lib.hid h36
        replace hws := Lib.hid hws
        clear hD3 hv hr hv5 hr5 hown5 hb5 hc5 hcm5 hA5 hF hgF hds hcn hcl hD hD2
        go_wp2_with fail
        go_loopw [13] (fun i wx => ∃ k : Nat, k ≤ 6 ∧ i = .int .i64 (k : Int) ∧ Live w wx gd D3 [w1.heap.size] ∧ RowAt wx w1.heap.size 55 (ws.map B8)) (fun i _ => 6 - (intOf i).toNat)
        case atStart => exact ⟨0, Nat.zero_le _, rfl, hv6, hr6⟩
        clear hv6 hr6
        case round =>
        obtain ⟨k, hk6', rfl, hv, hr⟩ := hrel
        by_cases hk : k < 6
        · have hka : (0 : Int) ≤ (k : Int) := by omega
          have hkb : (k : Int) < 6 := by omega
          have hkD : k < D3.length := by rw [h36.out]; exact hk
          have hkw : k < ws.length := by rw [hws.out]; exact hk
          have hd1 : decide ((k : Int) < 6) = true := decide_eq_true hkb
          have HKB := Lib.hid hk
          obtain ⟨B, hB⟩ : ∃ B, B = D3[k].last := ⟨_, rfl⟩
          have hB64 : B.length = 64 := by
            obtain ⟨_, _, _, _, h2, _⟩ := hv
            rw [hB]
            exact Sct.last_wf (h2.wf _ (List.getElem_mem hkD))
          obtain ⟨v, hv9⟩ : ∃ v, v = ws[k] := ⟨_, rfl⟩
          have Hok := Lib.hid (hok9.out k hkD hkw)
          rw [← hB, ← hv9] at Hok
          have Hwv := Lib.hid (show (ws.map B8)[k]? = some (B8 v) by rw [List.getElem?_map, List.getElem?_eq_getElem hkw, hv9]; rfl)
          obtain ⟨L, hL⟩ : ∃ L, L = B.map B8 := ⟨_, rfl⟩
          have HL := Lib.hid hL
          have hlast := Lib.hid (show L = D3[k].last.map B8 by rw [hL, hB])
          have HLl := Lib.hid (show L.length = 64 by rw [hL, List.length_map]; exact hB64)
          have HLo := Lib.hid (show ∀ v ∈ L, v.oneCell' = true by rw [hL]; exact bytes_oneCell _)
          obtain ⟨LV, hLV⟩ : ∃ L, L = (fillB v).map B8 := ⟨_, rfl⟩
          have HLV := Lib.hid hLV
          obtain ⟨q, hq⟩ : ∃ q, (B == fillB v) = q := ⟨_, rfl⟩
          have Q := Lib.hid (show ∀ w, (Op.equalIn 10000 37 (.agg L.toArray) (.agg LV.toArray)).run Try.prog w = .ok q w from fun w => by rw [hL, hLV, neq_block _ _ hB64 (fillB_length _), hq])
          replace hB64 := Lib.hid hB64
          replace hq := Lib.hid hq
          have hkd3 := hv36 k hkD
          clear hL hLV hB hv9
          go_wp2_with fail
          refine (live_read_L hv k hkD hkd3 L hlast).mono ?_
          rintro e wb ⟨rfl, hB6⟩
          have hv6 := hv.step hB6
          have hr6 := hr.step hB6
          clear hv hr
          go_wp2_with (first
            | (refine wpList_alloc_row 14 rfl 37 rfl _ rfl zero_block ?_; intro w7 hr7 hs7 hB7; clear hs7)
            | (refine wpList_store_part 37 (.tmp 14) (.tmp 124) rfl hr7 0 L rfl rfl rfl (by rw [HLl.out]; exact Try.sizeOf37) (by rw [HLl.out]; decide) HLo.out ?_
               intro w8 hb9 hs8 hg8
               clear hs8
               rw [splice_all _ _ (by rw [HLl.out]; rfl)] at hb9))
          have hB8 : Below wb.heap.size wb w8 := hB7.grown hg8 hB7.size (fun j e => by cases e; exact Nat.le_refl _)
          have hv8 := hv6.add hB8 wb.heap.size (Nat.le_refl _) hb9.lt
          have hr9 := hr6.step hB8
          have HTL := Lib.hid (show (L.drop 0).take 64 = L from List.take_of_length_le (Nat.le_of_eq HLl.out))
          have Hgb := Lib.hid guard_block
          have d0 : Since w8 w8.drew := (Since.refl _).drew
          clear hr6 hr7 hv6
          refine wp_region_H (Since w8) 7 rfl (by kernel_rfl) ?_
          -- <held2
          refine wh_take 0 (.agg L.toArray) rfl (by kernel_rfl) (by kernel_rfl) (fun _ _ _ h => h) (by kernel_rfl) (fun W h => exec_load_part 37 (.tmp 14) rfl (hb9.step h) 0 64 L (by kernel_rfl) HTL.out HLl.out Try.isAgg37 Try.sizeOf37) ?_
          refine wh_take 1 (.int .i64 (k : Nat)) rfl (by kernel_rfl) (by kernel_rfl) (fun _ _ _ h => h) (by kernel_rfl) (fun _ _ => by kernel_rfl) ?_
          refine wh_take 2 (.pointer (some ⟨w1.heap.size, k, none⟩)) rfl (by kernel_rfl) (by kernel_rfl) (fun _ _ _ h => h) (by kernel_rfl) (fun _ _ => by rw [exec_index 55 5 (.tmp 9) (.tmp 127) rfl w1.heap.size 0 k 6 1 Try.underlying55 Try.sizeOf5 (by kernel_rfl) (by kernel_rfl) HKB.out, Nat.zero_add, Nat.mul_one]) ?_
          refine wh_take 3 (B8 v) rfl (by kernel_rfl) (by kernel_rfl) (fun _ _ _ h => h) (by kernel_rfl) (fun W h => exec_load_cell 5 (.tmp 128) rfl ⟨w1.heap.size, k, none⟩ (B8 v) (by kernel_rfl) ((hr9.step h).cellD k _ Hwv.out) Try.isAgg5) ?_
          refine wh_call 4 19 #[B8 v] rfl (by kernel_rfl) (by kernel_rfl) d0 (fun _ => by kernel_rfl) ?_
          refine (fill_L v LV HLV _).mono ?_
          rintro e x1 ⟨rfl, hx1⟩
          have s1 : Since w8 x1 := d0.then_ hx1
          refine ⟨_, rfl, ?_⟩
          refine wh_take 5 (.bool q) rfl (by kernel_rfl) (by kernel_rfl) (fun _ _ _ h => h) (by kernel_rfl) (fun W _ => exec_eql 37 37 (.tmp 126) (.tmp 130) rfl L.toArray LV.toArray (by kernel_rfl) (by kernel_rfl) q Hgb.out (Q.out W)) ?_
          refine wh_take 6 (.bool q) rfl (by kernel_rfl) (by kernel_rfl) (fun _ _ _ h => h) (by kernel_rfl) (fun _ _ => by kernel_rfl) ?_
          -- held2>
          refine wh_done (by kernel_rfl) s1 ?_
          simp only [Act.put, List.setIfInBounds_toArray, List.set_cons_zero, List.set_cons_succ]
          have hv9 := hv8.step s1
          have hr10 := hr9.step s1
          have hb10 := hb9.step s1
          have hok0 : q = okB B v k (l2.take 0) := by
            rw [← hq.out]
            simp [okB]
          clear hv8 hr9 hb9
          go_wp2_with fail
          go_loopw [16, 17] (fun t i wy => ∃ j : Nat, j ≤ l2.length ∧ i = .int .i64 (j : Int) ∧ t = .bool (okB B v k (l2.take j)) ∧ Live w wy gd D3 [wb.heap.size, w1.heap.size] ∧ RowAt wy w1.heap.size 55 (ws.map B8) ∧ RowAt wy wb.heap.size 37 L) (fun _ i _ => l2.length - (intOf i).toNat)
          case atStart => exact ⟨0, Nat.zero_le _, rfl, by rw [hok0], hv9, hr10, hb10⟩
          clear hv9 hr10 hb10 hok0 Q HLV hq
          case round =>
          obtain ⟨j, hj, rfl, rfl, hv, hr, hb2⟩ := hrel
          by_cases hlt : j < l2.length
          · obtain ⟨b, o, rfl, hb1, hc⟩ := hst2.1.resolve_left (fun e => by rw [e] at hlt; simp at hlt)
            have hw1 : w.cell? ⟨b, o + j * 4 + 1, none⟩ = some (.int .i64 l2[j].place) := hc j hlt 1 _ rfl
            have hw2 : w.cell? ⟨b, o + j * 4 + 2, none⟩ = some (B8 l2[j].v) := hc j hlt 2 _ rfl
            have hsn := okB_snoc B v k (l2.take j) l2[j]
            rw [← List.take_succ_eq_append_getElem hlt] at hsn
            generalize l2[j] = x at hw1 hw2 hsn
            have hws9 : Since w wr := hv.below
            have Hc1 := Lib.hid (show ∀ W, Since wr W → W.cell? ⟨b, o + j * 4 + 1, none⟩ = some (.int .i64 x.place) from fun W h => (hws9.then_ h).cell (p := ⟨b, o + j * 4 + 1, none⟩) hw1)
            have Hc2 := Lib.hid (show ∀ W, Since wr W → W.cell? ⟨b, o + j * 4 + 2, none⟩ = some (B8 x.v) from fun W h => (hws9.then_ h).cell (p := ⟨b, o + j * 4 + 2, none⟩) hw2)
            have hk0 : (0 : Int) ≤ (j : Int) := by omega
            have hk1 : (j : Int) < (l2.length : Int) := by omega
            have hd2 : decide (j < l2.length) = true := decide_eq_true hlt
            have HJ := Lib.hid hlt
            clear hc hst2 hw1 hw2 hws9
            generalize okB B v k (l2.take j) = t at hsn ⊢
            replace hsn := Lib.hid hsn
            cases t
            · by_cases hsk : x.sec = k
              · have Hsk := Lib.hid (show ((x.sec : Int) == (k : Int)) = true by rw [hsk, beq_self_eq_true])
                have hsk' := Lib.hid (show (x.sec == k) = true by rw [hsk, beq_self_eq_true])
                obtain ⟨LX, hLX⟩ : ∃ L, L = (fillB x.v).map B8 := ⟨_, rfl⟩
                have HLX := Lib.hid hLX
                obtain ⟨q2, hq2⟩ : ∃ q, (B == fillB x.v) = q := ⟨_, rfl⟩
                have Q2 := Lib.hid (show ∀ w, (Op.equalIn 10000 37 (.agg L.toArray) (.agg LX.toArray)).run Try.prog w = .ok q2 w from fun w => by rw [HL.out, hLX, neq_block _ _ hB64.out (fillB_length _), hq2])
                replace hq2 := Lib.hid hq2
                clear hLX hsk
                go_wp2_with fail
                have d0 : Since wr wr.drew := (Since.refl _).drew
                refine wp_region_H (Since wr) 22 rfl (by kernel_rfl) ?_
                -- <held5
                refine wh_take 0 (.bool false) rfl (by kernel_rfl) (by kernel_rfl) (fun _ _ _ h => h) (by kernel_rfl) (fun _ _ => by kernel_rfl) ?_
                refine wh_take 1 (.bool false) rfl (by kernel_rfl) (by kernel_rfl) (fun _ _ _ h => h) (by kernel_rfl) (fun _ _ => by kernel_rfl) ?_
                refine wh_take 2 (.slice (some ⟨b, o, none⟩) l2.length cap2) rfl (by kernel_rfl) (by kernel_rfl) (fun _ _ _ h => h) (by kernel_rfl) (fun _ _ => by kernel_rfl) ?_
                refine wh_take 3 (.int .i64 (j : Nat)) rfl (by kernel_rfl) (by kernel_rfl) (fun _ _ _ h => h) (by kernel_rfl) (fun _ _ => by kernel_rfl) ?_
                refine wh_take 4 (.pointer (some ⟨b, o + j * 4, none⟩)) rfl (by kernel_rfl) (by kernel_rfl) (fun _ _ _ h => h) (by kernel_rfl) (fun _ _ => exec_index_slice 22 34 (.tmp 140) (.tmp 141) rfl b o j l2.length cap2 4 Try.underlying22 Try.sizeOf34 (by kernel_rfl) (by kernel_rfl) HJ.out) ?_
                refine wh_take 5 (.pointer (some ⟨b, o + j * 4 + 1, none⟩)) rfl (by kernel_rfl) (by kernel_rfl) (fun _ _ _ h => h) (by kernel_rfl) (fun _ _ => by kernel_rfl) ?_
                refine wh_take 6 (.int .i64 x.place) rfl (by kernel_rfl) (by kernel_rfl) (fun _ _ _ h => h) (by kernel_rfl) (fun W h => exec_load_cell 3 (.tmp 143) rfl ⟨b, o + j * 4 + 1, none⟩ (.int .i64 x.place) (by kernel_rfl) (Hc1.out W h) Try.isAgg3) ?_
                refine wh_take 8 (.int .i64 (k : Nat)) rfl (by kernel_rfl) (by kernel_rfl) (fun _ _ _ h => h) (by kernel_rfl) (fun _ _ => by kernel_rfl) ?_
                refine wh_call 7 32 #[.int .i64 x.place, .int .i64 6] rfl (by kernel_rfl) (by kernel_rfl) d0 (fun _ => by kernel_rfl) ?_
                refine (mod_sec x _).mono ?_
                rintro e x1 ⟨rfl, rfl⟩
                refine ⟨_, rfl, ?_⟩
                refine wh_take 9 (.bool true) rfl (by kernel_rfl) (by kernel_rfl) (fun _ _ _ h => h) (by kernel_rfl) (fun _ _ => exec_eql_int _ _ (.tmp 145) (.tmp 146) rfl x.sec k (by kernel_rfl) (by kernel_rfl) _ Hsk.out) ?_
                refine wh_take 10 (.bool true) rfl (by kernel_rfl) (by kernel_rfl) (fun _ _ _ h => h) (by kernel_rfl) (fun _ _ => by kernel_rfl) ?_
                refine wh_take 11 (.agg L.toArray) rfl (by kernel_rfl) (by kernel_rfl) (fun _ _ _ h => h) (by kernel_rfl) (fun W h => exec_load_part 37 (.tmp 14) rfl (hb2.step h) 0 64 L (by kernel_rfl) HTL.out HLl.out Try.isAgg37 Try.sizeOf37) ?_
                refine wh_take 12 (.slice (some ⟨b, o, none⟩) l2.length cap2) rfl (by kernel_rfl) (by kernel_rfl) (fun _ _ _ h => h) (by kernel_rfl) (fun _ _ => by kernel_rfl) ?_
                refine wh_take 13 (.int .i64 (j : Nat)) rfl (by kernel_rfl) (by kernel_rfl) (fun _ _ _ h => h) (by kernel_rfl) (fun _ _ => by kernel_rfl) ?_
                refine wh_take 14 (.pointer (some ⟨b, o + j * 4, none⟩)) rfl (by kernel_rfl) (by kernel_rfl) (fun _ _ _ h => h) (by kernel_rfl) (fun _ _ => exec_index_slice 22 34 (.tmp 150) (.tmp 151) rfl b o j l2.length cap2 4 Try.underlying22 Try.sizeOf34 (by kernel_rfl) (by kernel_rfl) HJ.out) ?_
                refine wh_take 15 (.pointer (some ⟨b, o + j * 4 + 2, none⟩)) rfl (by kernel_rfl) (by kernel_rfl) (fun _ _ _ h => h) (by kernel_rfl) (fun _ _ => by kernel_rfl) ?_
                refine wh_take 16 (B8 x.v) rfl (by kernel_rfl) (by kernel_rfl) (fun _ _ _ h => h) (by kernel_rfl) (fun W h => exec_load_cell 5 (.tmp 153) rfl ⟨b, o + j * 4 + 2, none⟩ (B8 x.v) (by kernel_rfl) (Hc2.out W h) Try.isAgg5) ?_
                refine wh_call 17 19 #[B8 x.v] rfl (by kernel_rfl) (by kernel_rfl) d0 (fun _ => by kernel_rfl) ?_
                refine (fill_L x.v LX HLX _).mono ?_
                rintro e x2 ⟨rfl, hx2⟩
                have s1 : Since wr x2 := d0.then_ hx2
                refine ⟨_, rfl, ?_⟩
                refine wh_take 18 (.bool q2) rfl (by kernel_rfl) (by kernel_rfl) (fun _ _ _ h => h) (by kernel_rfl) (fun W _ => exec_eql 37 37 (.tmp 149) (.tmp 155) rfl L.toArray LX.toArray (by kernel_rfl) (by kernel_rfl) q2 Hgb.out (Q2.out W)) ?_
                refine wh_take 19 (.bool q2) rfl (by kernel_rfl) (by kernel_rfl) (fun _ _ _ h => h) (by kernel_rfl) (fun _ _ => by kernel_rfl) ?_
                refine wh_take 20 (.bool q2) rfl (by kernel_rfl) (by kernel_rfl) (fun _ _ _ h => h) (by kernel_rfl) (fun _ _ => by kernel_rfl) ?_
                refine wh_take 21 (.bool q2) rfl (by kernel_rfl) (by kernel_rfl) (fun _ _ _ h => h) (by kernel_rfl) (fun _ _ => by kernel_rfl) ?_
                -- held5>
                refine wh_done (by kernel_rfl) s1 ?_
                simp only [Act.put, List.setIfInBounds_toArray, List.set_cons_zero, List.set_cons_succ]
                have hv2 := hv.step s1
                have hr2 := hr.step s1
                have hb3 := hb2.step s1
                clear hv hr hb2 s1 d0
                go_wp2_with fail
                go_roundw
                case rel => exact ⟨j + 1, by omega, by go_num, by rw [hsn.out, hsk'.out, hq2.out]; cases q2 <;> rfl, hv2, hr2, hb3⟩
                case measure => simp [intOf]; omega
              · have Hsk := Lib.hid (show ((x.sec : Int) == (k : Int)) = false from beq_eq_false_iff_ne.2 (by omega))
                have hsk' := Lib.hid (show (x.sec == k) = false from beq_eq_false_iff_ne.2 hsk)
                clear hsk
                go_wp2_with fail
                have d0 : Since wr wr.drew := (Since.refl _).drew
                refine wp_region_H (Since wr) 22 rfl (by kernel_rfl) ?_
                -- <held4
                refine wh_take 0 (.bool false) rfl (by kernel_rfl) (by kernel_rfl) (fun _ _ _ h => h) (by kernel_rfl) (fun _ _ => by kernel_rfl) ?_
                refine wh_take 1 (.bool false) rfl (by kernel_rfl) (by kernel_rfl) (fun _ _ _ h => h) (by kernel_rfl) (fun _ _ => by kernel_rfl) ?_
                refine wh_take 2 (.slice (some ⟨b, o, none⟩) l2.length cap2) rfl (by kernel_rfl) (by kernel_rfl) (fun _ _ _ h => h) (by kernel_rfl) (fun _ _ => by kernel_rfl) ?_
                refine wh_take 3 (.int .i64 (j : Nat)) rfl (by kernel_rfl) (by kernel_rfl) (fun _ _ _ h => h) (by kernel_rfl) (fun _ _ => by kernel_rfl) ?_
                refine wh_take 4 (.pointer (some ⟨b, o + j * 4, none⟩)) rfl (by kernel_rfl) (by kernel_rfl) (fun _ _ _ h => h) (by kernel_rfl) (fun _ _ => exec_index_slice 22 34 (.tmp 140) (.tmp 141) rfl b o j l2.length cap2 4 Try.underlying22 Try.sizeOf34 (by kernel_rfl) (by kernel_rfl) HJ.out) ?_
                refine wh_take 5 (.pointer (some ⟨b, o + j * 4 + 1, none⟩)) rfl (by kernel_rfl) (by kernel_rfl) (fun _ _ _ h => h) (by kernel_rfl) (fun _ _ => by kernel_rfl) ?_
                refine wh_take 6 (.int .i64 x.place) rfl (by kernel_rfl) (by kernel_rfl) (fun _ _ _ h => h) (by kernel_rfl) (fun W h => exec_load_cell 3 (.tmp 143) rfl ⟨b, o + j * 4 + 1, none⟩ (.int .i64 x.place) (by kernel_rfl) (Hc1.out W h) Try.isAgg3) ?_
                refine wh_take 8 (.int .i64 (k : Nat)) rfl (by kernel_rfl) (by kernel_rfl) (fun _ _ _ h => h) (by kernel_rfl) (fun _ _ => by kernel_rfl) ?_
                refine wh_call 7 32 #[.int .i64 x.place, .int .i64 6] rfl (by kernel_rfl) (by kernel_rfl) d0 (fun _ => by kernel_rfl) ?_
                refine (mod_sec x _).mono ?_
                rintro e x1 ⟨rfl, rfl⟩
                refine ⟨_, rfl, ?_⟩
                refine wh_take 9 (.bool false) rfl (by kernel_rfl) (by kernel_rfl) (fun _ _ _ h => h) (by kernel_rfl) (fun _ _ => exec_eql_int _ _ (.tmp 145) (.tmp 146) rfl x.sec k (by kernel_rfl) (by kernel_rfl) _ Hsk.out) ?_
                refine wh_take 10 (.bool false) rfl (by kernel_rfl) (by kernel_rfl) (fun _ _ _ h => h) (by kernel_rfl) (fun _ _ => by kernel_rfl) ?_
                refine wh_no 11 rfl (by kernel_rfl) (by kernel_rfl) (fun _ _ _ h => h) (by kernel_rfl) ?_
                refine wh_no 12 rfl (by kernel_rfl) (by kernel_rfl) (fun _ _ _ h => h) (by kernel_rfl) ?_
                refine wh_no 13 rfl (by kernel_rfl) (by kernel_rfl) (fun _ _ _ h => h) (by kernel_rfl) ?_
                refine wh_no 14 rfl (by kernel_rfl) (by kernel_rfl) (fun _ _ _ h => h) (by kernel_rfl) ?_
                refine wh_no 15 rfl (by kernel_rfl) (by kernel_rfl) (fun _ _ _ h => h) (by kernel_rfl) ?_
                refine wh_no 16 rfl (by kernel_rfl) (by kernel_rfl) (fun _ _ _ h => h) (by kernel_rfl) ?_
                refine wh_no 17 rfl (by kernel_rfl) (by kernel_rfl) (fun _ _ _ h => h) (by kernel_rfl) ?_
                refine wh_no 18 rfl (by kernel_rfl) (by kernel_rfl) (fun _ _ _ h => h) (by kernel_rfl) ?_
                refine wh_take 19 (.bool false) rfl (by kernel_rfl) (by kernel_rfl) (fun _ _ _ h => h) (by kernel_rfl) (fun _ _ => by kernel_rfl) ?_
                refine wh_take 20 (.bool false) rfl (by kernel_rfl) (by kernel_rfl) (fun _ _ _ h => h) (by kernel_rfl) (fun _ _ => by kernel_rfl) ?_
                refine wh_take 21 (.bool false) rfl (by kernel_rfl) (by kernel_rfl) (fun _ _ _ h => h) (by kernel_rfl) (fun _ _ => by kernel_rfl) ?_
                -- held4>
                refine wh_done (by kernel_rfl) d0 ?_
                simp only [Act.put, List.setIfInBounds_toArray, List.set_cons_zero, List.set_cons_succ]
                have hv2 := hv.step d0
                have hr2 := hr.step d0
                have hb3 := hb2.step d0
                clear hv hr hb2 d0
                go_wp2_with fail
                go_roundw
                case rel => exact ⟨j + 1, by omega, by go_num, by rw [hsn.out, hsk'.out]; rfl, hv2, hr2, hb3⟩
                case measure => simp [intOf]; omega
            · go_wp2_with fail
              have d0 : Since wr wr.drew := (Since.refl _).drew
              refine wp_region_H (Since wr) 22 rfl (by kernel_rfl) ?_
              -- <held3
              refine wh_take 0 (.bool true) rfl (by kernel_rfl) (by kernel_rfl) (fun _ _ _ h => h) (by kernel_rfl) (fun _ _ => by kernel_rfl) ?_
              refine wh_take 1 (.bool true) rfl (by kernel_rfl) (by kernel_rfl) (fun _ _ _ h => h) (by kernel_rfl) (fun _ _ => by kernel_rfl) ?_
              refine wh_no 2 rfl (by kernel_rfl) (by kernel_rfl) (fun _ _ _ h => h) (by kernel_rfl) ?_
              refine wh_no 3 rfl (by kernel_rfl) (by kernel_rfl) (fun _ _ _ h => h) (by kernel_rfl) ?_
              refine wh_no 4 rfl (by kernel_rfl) (by kernel_rfl) (fun _ _ _ h => h) (by kernel_rfl) ?_
              refine wh_no 5 rfl (by kernel_rfl) (by kernel_rfl) (fun _ _ _ h => h) (by kernel_rfl) ?_
              refine wh_no 6 rfl (by kernel_rfl) (by kernel_rfl) (fun _ _ _ h => h) (by kernel_rfl) ?_
              refine wh_no 7 rfl (by kernel_rfl) (by kernel_rfl) (fun _ _ _ h => h) (by kernel_rfl) ?_
              refine wh_no 8 rfl (by kernel_rfl) (by kernel_rfl) (fun _ _ _ h => h) (by kernel_rfl) ?_
              refine wh_no 9 rfl (by kernel_rfl) (by kernel_rfl) (fun _ _ _ h => h) (by kernel_rfl) ?_
              refine wh_no 10 rfl (by kernel_rfl) (by kernel_rfl) (fun _ _ _ h => h) (by kernel_rfl) ?_
              refine wh_no 11 rfl (by kernel_rfl) (by kernel_rfl) (fun _ _ _ h => h) (by kernel_rfl) ?_
              refine wh_no 12 rfl (by kernel_rfl) (by kernel_rfl) (fun _ _ _ h => h) (by kernel_rfl) ?_
              refine wh_no 13 rfl (by kernel_rfl) (by kernel_rfl) (fun _ _ _ h => h) (by kernel_rfl) ?_
              refine wh_no 14 rfl (by kernel_rfl) (by kernel_rfl) (fun _ _ _ h => h) (by kernel_rfl) ?_
              refine wh_no 15 rfl (by kernel_rfl) (by kernel_rfl) (fun _ _ _ h => h) (by kernel_rfl) ?_
              refine wh_no 16 rfl (by kernel_rfl) (by kernel_rfl) (fun _ _ _ h => h) (by kernel_rfl) ?_
              refine wh_no 17 rfl (by kernel_rfl) (by kernel_rfl) (fun _ _ _ h => h) (by kernel_rfl) ?_
              refine wh_no 18 rfl (by kernel_rfl) (by kernel_rfl) (fun _ _ _ h => h) (by kernel_rfl) ?_
              refine wh_no 19 rfl (by kernel_rfl) (by kernel_rfl) (fun _ _ _ h => h) (by kernel_rfl) ?_
              refine wh_take 20 (.bool true) rfl (by kernel_rfl) (by kernel_rfl) (fun _ _ _ h => h) (by kernel_rfl) (fun _ _ => by kernel_rfl) ?_
              refine wh_take 21 (.bool true) rfl (by kernel_rfl) (by kernel_rfl) (fun _ _ _ h => h) (by kernel_rfl) (fun _ _ => by kernel_rfl) ?_
              -- held3>
              refine wh_done (by kernel_rfl) d0 ?_
              simp only [Act.put, List.setIfInBounds_toArray, List.set_cons_zero, List.set_cons_succ]
              have hv2 := hv.step d0
              have hr2 := hr.step d0
              have hb3 := hb2.step d0
              clear hv hr hb2 d0
              go_wp2_with fail
              go_roundw
              case rel => exact ⟨j + 1, by omega, by go_num, by rw [hsn.out]; rfl, hv2, hr2, hb3⟩
              case measure => simp [intOf]; omega
          · obtain rfl : j = l2.length := by omega
            have hd2 : decide (l2.length < l2.length) = false := decide_eq_false (by omega)
            rw [List.take_length, Hok.out]
            go_wp2_with fail
            go_roundw
            case rel => exact ⟨k + 1, by omega, by go_num, hv.drop (by simp), hr⟩
            case measure => simp [intOf]; omega
        · obtain rfl : k = 6 := by omega
          go_wp2_with fail
          refine (live_loose hv (by rw [h36.out]; decide)).mono ?_
          rintro e w7 ⟨⟨ys, A7, c7, rfl, hys, _⟩, hB7⟩
          rw [looseAll_val, hcz.out] at hys
          subst hys
          have hB8 := hv.below
          clear hr
          go_wp2_with fail
          refine (wakes03_calls _).mono ?_
          rintro e w8 ⟨rfl, hB9⟩
          go_wp2_with fail
          go_ret
          exact ⟨rfl, bthen (bthen hB8 hB7) hB9⟩
end Go.Proofs.Ythieeidbfdhaaaa
