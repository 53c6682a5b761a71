/-
  revetmentlaw16.Fair and revetmentkeep.Streams.
-/
import Derived.Test.YtdglkjpdhnnpnaaParTrip
import Derived.Test.YtdglkjpdhnnpnaaOps
import Derived.Deep.Cut
import Derived.Deep.CutRange
namespace Go.Proofs.Ytdglkjpdhnnpnaa
open Go Go.RowKit Go.Shelf

def sumM (l : List Rec) : Nat := (l.map fun r => min r.data.length 10000).sum
theorem sumM_app (l m : List Rec) : sumM (l ++ m) = sumM l + sumM m := by simp [sumM]
theorem sumM_take {l : List Rec} {k : Nat} (h : k < l.length) : sumM (l.take (k + 1)) = sumM (l.take k) + min l[k].data.length 10000 := by
  rw [List.take_succ_eq_append_getElem h, sumM_app]
  rfl
theorem sumM_le (l : List Rec) (k : Nat) : sumM (l.take k) ≤ sumM l := by
  conv => rhs; rw [← List.take_append_drop k l, sumM_app]
  omega
def fairS (s : Str) : Bool := decide (sumM s.recs ≤ 8000) && decide (s.recs.length ≤ 70)
theorem sumM_data {l : List Rec} (h : sumM l ≤ 8000) : ∀ r ∈ l, r.data.length ≤ 8000 := by
  intro r hr
  obtain ⟨k, hk, rfl⟩ := List.getElem_of_mem hr
  have h1 := sumM_take hk
  have h2 := sumM_le l (k + 1)
  omega

set_option maxHeartbeats 4000000 in
theorem fair16_calls (s : Str) (w : World) (hok : s.Ok w w.heap.size) :
    Calls Try.prog 11 #[.agg s.val.toArray] w fun e w' => e = .returned (.bool (fairS s)) ∧ Below w.heap.size w w' := by
  obtain ⟨w1, hw1⟩ : ∃ w1, w1 = w.alloc (.cells s.val.toArray 24) := ⟨_, rfl⟩
  have hrs : RowAt w1 w.heap.size 24 s.val := by rw [hw1]; exact alloc_row w _ _
  have hB1 : Below w.heap.size w w1 := by rw [hw1]; exact alloc_below w _
  have c3 := hrs.cellD 3 _ rfl
  have hrecs := hok.recs.below hB1
  have hm := hok.most
  have hl := hok.len
  unfold maxLen at hm
  have hI : (s.recs.length : Int) ≤ 9223372036854775807 := by omega
  unfold Str.val at *
  subst hw1
  go_enter Try.func11, Try.ntmps11
  go_wp2_with fail
  generalize w.alloc (.cells #[.int .i64 s.blocks, .int .i64 s.base, .int .i64 s.id, .slice s.A s.recs.length s.cap] 24) = w1 at *
  go_loop [3, 4] (fun n i => ∃ k : Nat, k ≤ s.recs.length ∧ i = .int .i64 (k : Int) ∧ n = .int .i64 (sumM (s.recs.take k) : Nat) ∧ sumM (s.recs.take k) ≤ 8000) (fun _ i => s.recs.length - (intOf i).toNat)
  case atStart => exact ⟨0, Nat.zero_le _, rfl, rfl, Nat.zero_le _⟩
  case round =>
    obtain ⟨k, hk, rfl, rfl, hsum⟩ := hrel
    by_cases hlt : k < s.recs.length
    · obtain ⟨b, o, hA, hbl, hc⟩ := hrecs.1.resolve_left (fun e => by rw [e] at hlt; simp at hlt)
      have hd : w1.cell? ⟨b, o + k * 4 + 3, none⟩ = some (.slice s.recs[k].A s.recs[k].data.length s.recs[k].cap) := hc k hlt 3 _ rfl
      have hst := sumM_take hlt
      have hle := sumM_le s.recs (k + 1)
      have hk0 : (0 : Int) ≤ (k : Int) := by omega
      have hk1 : (k : Int) < (s.recs.length : Int) := by omega
      have hd1 : decide ((k : Int) < (s.recs.length : Int)) = true := decide_eq_true hk1
      have hrl := (hrecs.2 _ (List.getElem_mem hlt)).len
      have hrm := (hrecs.2 _ (List.getElem_mem hlt)).most
      unfold maxLen at hrm
      generalize s.recs[k].A = A2 at *
      generalize s.recs[k].cap = cap2 at *
      generalize s.recs[k].data.length = dl at *
      have hst0 := Lib.hid hst
      obtain ⟨n0, hn0⟩ : ∃ n0, n0 = sumM (s.recs.take k) := ⟨_, rfl⟩
      obtain ⟨n1, hn1⟩ : ∃ n1, n1 = sumM (s.recs.take (k + 1)) := ⟨_, rfl⟩
      rw [← hn0] at hsum hst hst0 ⊢
      rw [← hn1] at hle hst hst0
      replace hn1 := Lib.hid hn1
      clear hn0
      rw [hA]
      clear hc
      have hmin : (if (10000 : Int) < (dl : Int) then (10000 : Int) else (dl : Int)) = ((min dl 10000 : Nat) : Int) := by split <;> omega
      have hmn : min dl 10000 ≤ 10000 := by omega
      generalize min dl 10000 = mn at *
      by_cases hgt : n1 ≤ 8000
      · have hd2 : decide ((8000 : Int) < (n0 : Int) + (mn : Int)) = false := decide_eq_false (by omega)
        clear hle
        go_wp2_with fail
        go_round
        case rel => exact ⟨k + 1, by omega, by go_num, by rw [← hn1.out, hst0.out]; go_num, by rw [← hn1.out]; exact hgt⟩
        case measure => simp [intOf]; omega
      · have hd2 : decide ((8000 : Int) < (n0 : Int) + (mn : Int)) = true := decide_eq_true (by omega)
        have hres := Lib.hid (show fairS s = false by unfold fairS; rw [decide_eq_false (by omega)]; rfl)
        go_wp2_with fail
        go_ret
        exact ⟨ret_bool hres.out.symm, hB1⟩
    · obtain rfl : k = s.recs.length := by omega
      rw [List.take_length] at hsum ⊢
      have hd1 : decide ((s.recs.length : Int) < (s.recs.length : Int)) = false := decide_eq_false (by omega)
      have hres := Lib.hid (show fairS s = decide (s.recs.length ≤ 70) by unfold fairS; rw [decide_eq_true hsum]; rfl)
      by_cases h70 : s.recs.length ≤ 70
      · have hd2 : decide ((s.recs.length : Int) ≤ 70) = true := decide_eq_true (by omega)
        go_wp2_with fail
        go_ret
        exact ⟨ret_bool (by rw [hres.out]; exact (decide_eq_true h70).symm), hB1⟩
      · have hd2 : decide ((s.recs.length : Int) ≤ 70) = false := decide_eq_false (by omega)
        go_wp2_with fail
        go_ret
        exact ⟨ret_bool (by rw [hres.out]; exact (decide_eq_false h70).symm), hB1⟩

theorem exec_load_rec {w : World} {o : Oper} {a : Act} (x : Operand) (ho : o.op = .load 39 x) (ad : Addr) (X : List Value) (hX : X.length = 4) (hc : ∀ j v, X[j]? = some v → w.cell? (ad.add j) = some v) (hx : a.eval x = .pointer (some ad)) :
    (execOp a.eval o).run Try.prog w = .ok (.value (.agg X.toArray)) w :=
  exec_load_cells 39 x ho ad X hc hx 4 hX Try.isAgg39 Try.sizeOf39
/-- A record's variable is made. -/
theorem new_rec (w : World) : ∃ W, W = w.alloc (.cells #[.int .i64 0, .int .i64 0, .bool false, .slice none 0 0] 39) ∧ RowAt W w.heap.size 39 [.int .i64 0, .int .i64 0, .bool false, .slice none 0 0] ∧ Below w.heap.size w W :=
  ⟨_, rfl, alloc_row w _ [.int .i64 0, .int .i64 0, .bool false, .slice none 0 0], alloc_below w _⟩
/-- A record is laid into its variable. -/
theorem put_rec {w0 w : World} {g : Nat} {Z : List Value} (h : RowAt w g 39 Z) (hZ : Z.length = 4) (hg : w0.heap.size ≤ g) (d : Since w0 w) (X : List Value) (hX : X.length = 4) (h1 : ∀ v ∈ X, v.oneCell' = true) :
    ∃ W, (∀ (o : Oper) (a : Act) (x y : Operand), o.op = .store 39 x y → a.eval x = .pointer (some ⟨g, 0, none⟩) → a.eval y = .agg X.toArray → (execOp a.eval o).run Try.prog w = .ok .skip W) ∧ RowAt W g 39 X ∧ Since w0 W ∧ w.grownBy W (some g) := by
  refine ⟨w.setRow g (splice Z 0 X).toArray, fun o a x y ho hx hy => exec_store_part 39 x y ho h 0 X hx hy (by rw [hX]; exact Try.sizeOf39) (by rw [hX, hZ]; decide) h1, ?_, Below.grown d (setRow_grown _ _ _) d.size (fun k e => by cases e; exact hg), setRow_grown _ _ _⟩
  have := setRow_row h (splice Z 0 X)
  rwa [splice_all Z X (by rw [hX, hZ])] at this ⊢

set_option maxRecDepth 100000 in
set_option maxHeartbeats 8000000 in
theorem streams_calls (s t : Str) (w : World) (hs : s.Ok w w.heap.size) (ht : t.Ok w w.heap.size) :
    Calls Try.prog 21 #[.agg s.val.toArray, .agg t.val.toArray] w fun e w' => e = .returned (.bool (sameS s t)) ∧ Below w.heap.size w w' := by
  obtain ⟨w1, hw1⟩ : ∃ w1, w1 = (w.alloc (.cells s.val.toArray 24)).alloc (.cells t.val.toArray 24) := ⟨_, rfl⟩
  have hB1 : Below w.heap.size w w1 := by rw [hw1]; exact balloc (alloc_below w _) _
  have hrs : RowAt w1 w.heap.size 24 s.val := by rw [hw1]; exact (alloc_row w _ _).step (alloc_below _ _)
  have hrt : RowAt w1 (w.heap.size + 1) 24 t.val := by
    have := alloc_row (w.alloc (.cells s.val.toArray 24)) 24 t.val
    rw [← hw1, World.size_alloc] at this
    exact this
  have hsr := hs.recs.below hB1
  have htr := ht.recs.below hB1
  have hsm := hs.most
  have hsl := hs.len
  have htm := ht.most
  have htl := ht.len
  unfold maxLen at hsm htm
  have hsI : (s.recs.length : Int) ≤ 9223372036854775807 := by omega
  have htI : (t.recs.length : Int) ≤ 9223372036854775807 := by omega
  have a0 := hrs.cellD 0 _ rfl
  have a1 := hrs.cellD 1 _ rfl
  have a2 := hrs.cellD 2 _ rfl
  have a3 := hrs.cellD 3 _ rfl
  have b0 := hrt.cellD 0 _ rfl
  have b1 := hrt.cellD 1 _ rfl
  have b2 := hrt.cellD 2 _ rfl
  have b3 := hrt.cellD 3 _ rfl
  have hres : sameS s t = (s.blocks == t.blocks && (s.base == t.base && (s.id == t.id && sameL s.recs t.recs))) := rfl
  unfold Str.val at *
  clear hs ht
  by_cases n0 : s.blocks = t.blocks
  rotate_left
  · have d0 : (s.blocks != t.blocks) = true := by simpa using n0
    have hr := Lib.hid (show sameS s t = false by rw [hres, beq_eq_false_iff_ne.2 n0]; rfl)
    clear n0 hres
    subst hw1
    go_enter Try.func21, Try.ntmps21
    go_wp2_with fail
    go_ret
    exact ⟨ret_bool hr.out.symm, hB1⟩
  have d0 : (s.blocks != t.blocks) = false := by rw [n0]; simp
  rw [beq_iff_eq.2 n0, Bool.true_and] at hres
  clear n0
  by_cases n1 : s.base = t.base
  rotate_left
  · have d1 : (s.base != t.base) = true := by simpa using n1
    have hr := Lib.hid (show sameS s t = false by rw [hres, beq_eq_false_iff_ne.2 n1]; rfl)
    clear n1 hres
    subst hw1
    go_enter Try.func21, Try.ntmps21
    go_wp2_with fail
    go_ret
    exact ⟨ret_bool hr.out.symm, hB1⟩
  have d1 : (s.base != t.base) = false := by rw [n1]; simp
  rw [beq_iff_eq.2 n1, Bool.true_and] at hres
  clear n1
  by_cases n2 : s.id = t.id
  rotate_left
  · have d2 : (s.id != t.id) = true := by simpa using n2
    have hr := Lib.hid (show sameS s t = false by rw [hres, beq_eq_false_iff_ne.2 n2]; rfl)
    clear n2 hres
    subst hw1
    go_enter Try.func21, Try.ntmps21
    go_wp2_with fail
    go_ret
    exact ⟨ret_bool hr.out.symm, hB1⟩
  have d2 : (s.id != t.id) = false := by rw [n2]; simp
  rw [beq_iff_eq.2 n2, Bool.true_and] at hres
  clear n2
  by_cases n3 : s.recs.length = t.recs.length
  rotate_left
  · have d3 : ((s.recs.length : Int) != (t.recs.length : Int)) = true := by rw [bne_iff_ne]; omega
    have hr := Lib.hid (show sameS s t = false by rw [hres]; exact sameL_len n3)
    clear n3 hres
    subst hw1
    go_enter Try.func21, Try.ntmps21
    go_wp2_with fail
    go_ret
    exact ⟨ret_bool hr.out.symm, hB1⟩
  have d3 : ((s.recs.length : Int) != (t.recs.length : Int)) = false := by rw [n3]; simp
  replace hres := Lib.hid hres
  replace n3 := Lib.hid n3
  subst hw1
  go_enter Try.func21, Try.ntmps21
  go_wp2_with fail
  generalize (w.alloc (.cells #[.int .i64 s.blocks, .int .i64 s.base, .int .i64 s.id, .slice s.A s.recs.length s.cap] 24)).alloc (.cells #[.int .i64 t.blocks, .int .i64 t.base, .int .i64 t.id, .slice t.A t.recs.length t.cap] 24) = w1 at *
  clear a0 a1 a2 a3 b0 b1 b2 b3 d0 d1 d2 d3
  go_loopw [5] (fun i wr => ∃ k : Nat, k ≤ s.recs.length ∧ i = .int .i64 (k : Int) ∧ Hid (sameL (s.recs.take k) (t.recs.take k) = true) ∧ Below w1.heap.size w1 wr) (fun i _ => s.recs.length - (intOf i).toNat)
  case atStart => exact ⟨0, Nat.zero_le _, rfl, Lib.hid rfl, brefl w1⟩
  case round =>
    obtain ⟨k, hk, rfl, hsame, hB⟩ := hrel
    have hrsW := hrs.step hB
    have hrtW := hrt.step hB
    have a3 := hrsW.cellD 3 _ rfl
    have b3 := hrtW.cellD 3 _ rfl
    by_cases hlt : k < s.recs.length
    · have hlt2 : k < t.recs.length := by have := n3.out; omega
      obtain ⟨bs, os, hA, hbl, hcs⟩ := hsr.1.resolve_left (fun e => by rw [e] at hlt; simp at hlt)
      obtain ⟨bt, ot, hA', hbl', hct⟩ := htr.1.resolve_left (fun e => by rw [e] at hlt2; simp at hlt2)
      have hw1s : w.heap.size ≤ w1.heap.size := hB1.size
      have HXc := rec_cells hcs hbl k hlt (hB.mono hw1s)
      have HYc := rec_cells hct hbl' k hlt2 (hB.mono hw1s)
      have hst := sameL_take hlt hlt2
      rw [hsame.out, Bool.true_and] at hst
      have hno := sameL_no hlt hlt2
      have hdx := (hsr.2 _ (List.getElem_mem hlt)).bytes
      have hdy := (htr.2 _ (List.getElem_mem hlt2)).bytes
      have hk0 : (0 : Int) ≤ (k : Int) := by omega
      have hk1 : (k : Int) < (s.recs.length : Int) := by omega
      have hk2 : (k : Int) < (t.recs.length : Int) := by omega
      have hd1 : decide ((k : Int) < (s.recs.length : Int)) = true := decide_eq_true hk1
      clear hcs hct
      generalize s.recs[k] = x at HXc hst hno hdx
      generalize t.recs[k] = y at HYc hst hno hdy
      obtain ⟨X, hX⟩ : ∃ X, X = x.val := ⟨_, rfl⟩
      obtain ⟨Y, hY⟩ : ∃ Y, Y = y.val := ⟨_, rfl⟩
      rw [← hX] at HXc
      rw [← hY] at HYc
      have HX4 := Lib.hid (show X.length = 4 by rw [hX]; rfl)
      have HY4 := Lib.hid (show Y.length = 4 by rw [hY]; rfl)
      have HXo := Lib.hid (show ∀ v ∈ X, v.oneCell' = true by rw [hX]; exact rec_one _)
      have HYo := Lib.hid (show ∀ v ∈ Y, v.oneCell' = true by rw [hY]; exact rec_one _)
      have HX := Lib.hid (show X = [.int .i64 x.fr, .int .i64 x.ct, .bool x.zs, .slice x.A x.data.length x.cap] from hX)
      have HY := Lib.hid (show Y = [.int .i64 y.fr, .int .i64 y.ct, .bool y.zs, .slice y.A y.data.length y.cap] from hY)
      replace HXc := Lib.hid HXc
      replace HYc := Lib.hid HYc
      replace hst := Lib.hid hst
      replace hno := Lib.hid hno
      clear hX hY
      rw [hA] at a3
      rw [hA'] at b3
      rw [hA, hA']
      go_upto_region 6 with fail
      go_cut [6, 7] from 43 to 52 (fun vx vy wx => ∃ gx gy, vx = .pointer (some ⟨gx, 0, none⟩) ∧ vy = .pointer (some ⟨gy, 0, none⟩) ∧ RowAt wx gx 39 X ∧ RowAt wx gy 39 Y ∧ Since wr wx)
      case first =>
        have d0 : Since wr wr.drew := (Since.refl wr).drew
        refine wp_region_H (Since wr) 14 rfl (by kernel_rfl) ?_
        -- <held1
        refine wh_take 0 (.pointer (some ⟨w.heap.size, 3, none⟩)) rfl (by kernel_rfl) (by kernel_rfl) (fun _ _ _ h => h) (by kernel_rfl) (fun _ _ => by kernel_rfl) ?_
        refine wh_take 1 (.slice (some ⟨bs, os, none⟩) s.recs.length s.cap) rfl (by kernel_rfl) (by kernel_rfl) (fun _ _ _ h => h) (by kernel_rfl) (fun W h => exec_load_cell 22 (.tmp 43) rfl ⟨w.heap.size, 3, none⟩ _ (by kernel_rfl) (h.cell a3) Try.isAgg22) ?_
        refine wh_take 2 (.int .i64 (k : Nat)) rfl (by kernel_rfl) (by kernel_rfl) (fun _ _ _ h => h) (by kernel_rfl) (fun _ _ => by kernel_rfl) ?_
        refine wh_take 3 (.pointer (some ⟨bs, os + k * 4, none⟩)) rfl (by kernel_rfl) (by kernel_rfl) (fun _ _ _ h => h) (by kernel_rfl) (fun _ _ => exec_index_slice 22 39 (.tmp 44) (.tmp 45) rfl bs os k s.recs.length s.cap 4 Try.underlying22 Try.sizeOf39 (by kernel_rfl) (by kernel_rfl) hlt) ?_
        refine wh_take 4 (.agg X.toArray) rfl (by kernel_rfl) (by kernel_rfl) (fun _ _ _ h => h) (by kernel_rfl) (fun W h => exec_load_rec (.tmp 46) rfl ⟨bs, os + k * 4, none⟩ X HX4.out (fun j v hv => h.cell (HXc.out j v hv)) (by kernel_rfl)) ?_
        refine wh_take 5 (.pointer (some ⟨w.heap.size + 1, 3, none⟩)) rfl (by kernel_rfl) (by kernel_rfl) (fun _ _ _ h => h) (by kernel_rfl) (fun _ _ => by kernel_rfl) ?_
        refine wh_take 6 (.slice (some ⟨bt, ot, none⟩) t.recs.length t.cap) rfl (by kernel_rfl) (by kernel_rfl) (fun _ _ _ h => h) (by kernel_rfl) (fun W h => exec_load_cell 22 (.tmp 48) rfl ⟨w.heap.size + 1, 3, none⟩ _ (by kernel_rfl) (h.cell b3) Try.isAgg22) ?_
        refine wh_take 7 (.int .i64 (k : Nat)) rfl (by kernel_rfl) (by kernel_rfl) (fun _ _ _ h => h) (by kernel_rfl) (fun _ _ => by kernel_rfl) ?_
        refine wh_take 8 (.pointer (some ⟨bt, ot + k * 4, none⟩)) rfl (by kernel_rfl) (by kernel_rfl) (fun _ _ _ h => h) (by kernel_rfl) (fun _ _ => exec_index_slice 22 39 (.tmp 49) (.tmp 50) rfl bt ot k t.recs.length t.cap 4 Try.underlying22 Try.sizeOf39 (by kernel_rfl) (by kernel_rfl) hlt2) ?_
        refine wh_take 9 (.agg Y.toArray) rfl (by kernel_rfl) (by kernel_rfl) (fun _ _ _ h => h) (by kernel_rfl) (fun W h => exec_load_rec (.tmp 51) rfl ⟨bt, ot + k * 4, none⟩ Y HY4.out (fun j v hv => h.cell (HYc.out j v hv)) (by kernel_rfl)) ?_
        refine wh_two 10 11 (by kernel_rfl) d0 ?_ ?_
        · obtain ⟨W1, hw1, zx, hb1⟩ := new_rec wr.drew
          refine wo_run 10 (v := .pointer (some ⟨wr.drew.heap.size, 0, none⟩)) (w' := W1) rfl (by kernel_rfl) (by rw [hw1]; kernel_rfl) ?_
          have d1 := d0.then_ hb1
          have gx : wr.heap.size ≤ wr.drew.heap.size := d0.size
          obtain ⟨W2, hw2, zy, hb2⟩ := new_rec W1
          refine wh_run 11 (v := .pointer (some ⟨W1.heap.size, 0, none⟩)) (w' := W2) rfl (by kernel_rfl) (by kernel_rfl) d1 (by rw [hw2]; kernel_rfl) ?_
          have d2 := d1.then_ hb2
          have gy : wr.heap.size ≤ W1.heap.size := d1.size
          have hne := zx.lt
          have zx2 := zx.step hb2
          obtain ⟨W3, hw3, zx3, d3, hq3⟩ := put_rec (w0 := wr) zx2 rfl gx d2 X HX4.out HXo.out
          refine wh_skip 12 (w' := W3) rfl (by kernel_rfl) (by kernel_rfl) d2 (hw3 _ _ (.tmp 6) (.tmp 47) rfl (by kernel_rfl) (by kernel_rfl)) ?_
          have qy3 : RowAt W3 (W1.heap.size) 39 _ := zy.kept hq3 (fun e => by injection e with e; omega)
          obtain ⟨W4, hw4, zy4, d4, hq4⟩ := put_rec (w0 := wr) qy3 rfl gy d3 Y HY4.out HYo.out
          refine wh_skip 13 (w' := W4) rfl (by kernel_rfl) (by kernel_rfl) d3 (hw4 _ _ (.tmp 7) (.tmp 52) rfl (by kernel_rfl) (by kernel_rfl)) ?_
          have qx4 : RowAt W4 (wr.drew.heap.size) 39 _ := zx3.kept hq4 (fun e => by injection e with e; omega)
          refine wh_done (by kernel_rfl) d4 ?_
          simp only [Act.put, List.setIfInBounds_toArray, List.set_cons_zero, List.set_cons_succ]
          go_wp2_with fail
          go_meet
          exact ⟨wr.drew.heap.size, W1.heap.size, rfl, rfl, qx4, zy4, d4⟩
        · obtain ⟨W1, hw1, zy, hb1⟩ := new_rec wr.drew
          refine wo_run 11 (v := .pointer (some ⟨wr.drew.heap.size, 0, none⟩)) (w' := W1) rfl (by kernel_rfl) (by rw [hw1]; kernel_rfl) ?_
          have d1 := d0.then_ hb1
          have gy : wr.heap.size ≤ wr.drew.heap.size := d0.size
          obtain ⟨W2, hw2, zx, hb2⟩ := new_rec W1
          refine wh_run 10 (v := .pointer (some ⟨W1.heap.size, 0, none⟩)) (w' := W2) rfl (by kernel_rfl) (by kernel_rfl) d1 (by rw [hw2]; kernel_rfl) ?_
          have d2 := d1.then_ hb2
          have gx : wr.heap.size ≤ W1.heap.size := d1.size
          have hne := zy.lt
          have zy2 := zy.step hb2
          obtain ⟨W3, hw3, zx3, d3, hq3⟩ := put_rec (w0 := wr) zx rfl gx d2 X HX4.out HXo.out
          refine wh_skip 12 (w' := W3) rfl (by kernel_rfl) (by kernel_rfl) d2 (hw3 _ _ (.tmp 6) (.tmp 47) rfl (by kernel_rfl) (by kernel_rfl)) ?_
          have qy3 : RowAt W3 (wr.drew.heap.size) 39 _ := zy2.kept hq3 (fun e => by injection e with e; omega)
          obtain ⟨W4, hw4, zy4, d4, hq4⟩ := put_rec (w0 := wr) qy3 rfl gy d3 Y HY4.out HYo.out
          refine wh_skip 13 (w' := W4) rfl (by kernel_rfl) (by kernel_rfl) d3 (hw4 _ _ (.tmp 7) (.tmp 52) rfl (by kernel_rfl) (by kernel_rfl)) ?_
          have qx4 : RowAt W4 (W1.heap.size) 39 _ := zx3.kept hq4 (fun e => by injection e with e; omega)
          refine wh_done (by kernel_rfl) d4 ?_
          simp only [Act.put, List.setIfInBounds_toArray, List.set_cons_zero, List.set_cons_succ]
          go_wp2_with fail
          go_meet
          exact ⟨W1.heap.size, wr.drew.heap.size, rfl, rfl, qx4, zy4, d4⟩
        -- held1>
      case rest =>
        obtain ⟨gx, gy, rfl, rfl, hx, hy, hBx⟩ := hcut
        have hBw := bthen hB hBx
        have x0 := hx.cellD 0 _ (by rw [HX.out]; rfl)
        have x1 := hx.cellD 1 _ (by rw [HX.out]; rfl)
        have x2 := hx.cellD 2 _ (by rw [HX.out]; rfl)
        have x3 := hx.cellD 3 _ (by rw [HX.out]; rfl)
        have y0 := hy.cellD 0 _ (by rw [HY.out]; rfl)
        have y1 := hy.cellD 1 _ (by rw [HY.out]; rfl)
        have y2 := hy.cellD 2 _ (by rw [HY.out]; rfl)
        have y3 := hy.cellD 3 _ (by rw [HY.out]; rfl)
        have hdx' := hdx.below (hBw.mono hw1s)
        have hdy' := hdy.below (hBw.mono hw1s)
        clear hx hy hdx hdy HXc HYc
        have hsr' : sameR x y = (x.fr == y.fr && (x.ct == y.ct && (x.zs == y.zs && x.data == y.data))) := rfl
        by_cases m0 : x.fr = y.fr
        rotate_left
        · have d0 : (x.fr != y.fr) = true := by simpa using m0
          have hr := Lib.hid (show sameS s t = false by rw [hres.out]; exact hno.out (by rw [hsr', beq_eq_false_iff_ne.2 m0]; rfl))
          clear m0 hsr'
          go_wp2_with fail
          go_ret
          exact ⟨ret_bool hr.out.symm, bthen hB1 hBw⟩
        have d0 : (x.fr != y.fr) = false := by rw [m0]; simp
        rw [beq_iff_eq.2 m0, Bool.true_and] at hsr'
        clear m0
        by_cases m1 : x.ct = y.ct
        rotate_left
        · have d1 : (x.ct != y.ct) = true := by simpa using m1
          have hr := Lib.hid (show sameS s t = false by rw [hres.out]; exact hno.out (by rw [hsr', beq_eq_false_iff_ne.2 m1]; rfl))
          clear m1 hsr'
          go_wp2_with fail
          go_ret
          exact ⟨ret_bool hr.out.symm, bthen hB1 hBw⟩
        have d1 : (x.ct != y.ct) = false := by rw [m1]; simp
        rw [beq_iff_eq.2 m1, Bool.true_and] at hsr'
        clear m1
        by_cases m2 : x.zs = y.zs
        rotate_left
        · have hr := Lib.hid (show sameS s t = false by rw [hres.out]; exact hno.out (by rw [hsr', beq_eq_false_iff_ne.2 m2]; rfl))
          have hzz : (x.zs = true ∧ y.zs = false) ∨ (x.zs = false ∧ y.zs = true) := by revert m2; cases x.zs <;> cases y.zs <;> simp
          clear m2 hsr'
          rcases hzz with ⟨e1, e2⟩ | ⟨e1, e2⟩
          all_goals
            rw [e1] at x2
            rw [e2] at y2
            go_wp2_with fail
            go_ret
            exact ⟨ret_bool hr.out.symm, bthen hB1 hBw⟩
        rw [beq_iff_eq.2 m2, Bool.true_and] at hsr'
        rw [m2] at x2
        clear m2
        have hbc := Lib.hid (bytes_calls x.A y.A x.cap y.cap x.data y.data _ _ _ hdx' hdy')
        cases hz : y.zs
        all_goals
          rw [hz] at x2 y2
          cases hdd : (x.data == y.data)
          · rw [hdd] at hbc hsr'
            have hr := Lib.hid (show sameS s t = false by rw [hres.out]; exact hno.out hsr')
            clear hsr' hdd
            go_wp2_with fail
            refine hbc.out.mono ?_
            rintro e w9 ⟨rfl, rfl⟩
            go_wp2_with fail
            go_ret
            exact ⟨ret_bool hr.out.symm, bthen hB1 hBw⟩
          · rw [hdd] at hbc hsr'
            have hst2 := Lib.hid (hst.out.trans hsr')
            clear hsr' hdd
            go_wp2_with fail
            refine hbc.out.mono ?_
            rintro e w9 ⟨rfl, rfl⟩
            go_wp2_with fail
            go_roundw
            case rel => exact ⟨k + 1, by omega, by go_num, hst2, hBw⟩
            case measure => simp [intOf]; omega
    · obtain rfl : k = s.recs.length := by omega
      have hd1 : decide ((s.recs.length : Int) < (s.recs.length : Int)) = false := decide_eq_false (by omega)
      have hall := hsame.out
      rw [List.take_length, n3.out, List.take_length] at hall
      have hr := Lib.hid (hres.out.trans hall)
      go_wp2_with fail
      go_ret
      exact ⟨ret_bool hr.out.symm, bthen hB1 hB⟩
end Go.Proofs.Ytdglkjpdhnnpnaa
