/-
  The reference's Next and Good.
-/
import Derived.Test.YtdglkjpdhnnpnaaStrWell
import Derived.Deep.Cut
import Derived.Deep.CutRange
namespace Go.Proofs.Ytdglkjpdhnnpnaa
open Go Go.RowKit

/-- None of the first k blocks is zeros. -/
def blocksB (data : List UInt8) (k : Nat) : Bool := (List.range k).all fun i => !zeroB (pieceB data 64 i)
theorem blocksB_succ (data : List UInt8) (k : Nat) : blocksB data (k + 1) = (blocksB data k && !zeroB (pieceB data 64 k)) := by
  unfold blocksB
  rw [List.range_succ, List.all_append]
  simp
theorem blocksB_no {data : List UInt8} {k n : Nat} (hk : k < n) (h : zeroB (pieceB data 64 k) = true) : blocksB data n = false := by
  unfold blocksB
  rw [List.all_eq_false]
  exact ⟨k, List.mem_range.2 hk, by rw [h]; decide⟩
theorem dataB_blocks (r : Rec) (n : Nat) (hz : r.zs = false) (hn : r.ct = (n : Int)) (hl : r.data.length = n * 64) : dataB r = blocksB r.data n := by
  have hc : chunksN r.data.length 64 = n := by
    unfold chunksN
    omega
  unfold dataB blocksB
  rw [if_neg (by rw [hz]; decide), beq_iff_eq.2 (by rw [hl, hn, Int.natCast_mul]; rfl), Bool.true_and, hc, Bool.eq_iff_iff, List.all_eq_true, List.all_eq_true]
  refine ⟨fun h i hi => h ⟨i, List.mem_range.1 hi⟩ (List.mem_finRange _), fun h x _ => h x.val (List.mem_range.2 x.isLt)⟩
/-- May x stand behind the records of s? -/
def nextB (s : Str) (x : Rec) : Bool := recB s.blocks s.base x && afterB (lastOf none s.recs) x
/-- What is wrong with a record by itself, but for its blocks. -/
theorem recB_no {blocks base : Int} {r : Rec} (h : r.ct < 1 ∨ (1 ≤ r.ct ∧ r.fr < 0) ∨ (1 ≤ r.ct ∧ 0 ≤ r.fr ∧ blocks ≤ r.fr) ∨ (1 ≤ r.ct ∧ 0 ≤ r.fr ∧ r.fr < blocks ∧ blocks - r.fr < r.ct)) : recB blocks base r = false := by
  cases h' : recB blocks base r
  · rfl
  · have := recB_bounds h'
    omega
theorem recB_zs {blocks base : Int} {r : Rec} (hz : r.zs = true) (h : base = -1 ∨ r.data.length ≠ 0) : recB blocks base r = false := by
  cases h' : recB blocks base r
  · rfl
  · unfold recB dataB at h'
    simp only [Bool.and_eq_true, hz, if_true, Bool.not_eq_true', Bool.and_true, beq_iff_eq, beq_eq_false_iff_ne] at h'
    rcases h with h | h
    · exact absurd h h'.2.2.2.2.2
    · exact absurd h'.2.2.2.2.1 h
theorem recB_is {blocks base : Int} {r : Rec} (g1 : 1 ≤ r.ct) (g2 : 0 ≤ r.fr) (g3 : r.fr < blocks) (g4 : r.ct ≤ blocks - r.fr) : recB blocks base r = (dataB r && !(base == -1 && r.zs)) := by
  unfold recB
  rw [decide_eq_true g1, decide_eq_true g2, decide_eq_true g3, decide_eq_true g4]
  simp only [Bool.true_and]

set_option maxRecDepth 100000 in
set_option maxHeartbeats 4000000 in
theorem rnext_bad (s : Str) (x : Rec) (w : World) (hx : x.Ok w w.heap.size) (hb1 : 1 ≤ s.blocks) (hb2 : s.blocks ≤ 64)
    (h : x.ct < 1 ∨ (1 ≤ x.ct ∧ x.fr < 0) ∨ (1 ≤ x.ct ∧ 0 ≤ x.fr ∧ s.blocks ≤ x.fr) ∨ (1 ≤ x.ct ∧ 0 ≤ x.fr ∧ x.fr < s.blocks ∧ s.blocks - x.fr < x.ct)) :
    Calls Try.prog 36 #[.agg s.val.toArray, .agg x.val.toArray] w fun e w' => e = .returned (.bool (nextB s x)) ∧ Below w.heap.size w w' := by
  have hB0 := balloc (balloc (brefl w) (.cells s.val.toArray 24)) (.cells x.val.toArray 39)
  have hres : nextB s x = false := by
    unfold nextB
    rw [recB_no h]
    rfl
  have f1 := hx.f1
  have f2 := hx.f2
  have c1 := hx.c1
  have c2 := hx.c2
  replace hres := Lib.hid hres
  clear hx
  obtain ⟨sb, sa, si, sA, scap, sr⟩ := s
  obtain ⟨xf, xc, xz, xA, xcap, xd⟩ := x
  simp only [Str.val, Rec.val] at *
  rcases h with h | ⟨h, h'⟩ | ⟨h, h', h''⟩ | ⟨h, h', h'', h3⟩
  all_goals
    go_enter Try.func36, Try.ntmps36
    go_wp2_with fail
    go_ret
    exact ⟨ret_bool hres.out.symm, hB0⟩
set_option maxRecDepth 100000 in
set_option maxHeartbeats 4000000 in
theorem rnext_zs (s : Str) (x : Rec) (w : World) (hx : x.Ok w w.heap.size) (hb1 : 1 ≤ s.blocks) (hb2 : s.blocks ≤ 64) (g1 : 1 ≤ x.ct) (g2 : 0 ≤ x.fr) (g3 : x.fr < s.blocks) (g4 : x.ct ≤ s.blocks - x.fr) (hz : x.zs = true) (h : s.base = -1 ∨ x.data.length ≠ 0) :
    Calls Try.prog 36 #[.agg s.val.toArray, .agg x.val.toArray] w fun e w' => e = .returned (.bool (nextB s x)) ∧ Below w.heap.size w w' := by
  have hB0 := balloc (balloc (brefl w) (.cells s.val.toArray 24)) (.cells x.val.toArray 39)
  have hres : nextB s x = false := by
    unfold nextB
    rw [recB_zs hz h]
    rfl
  have hl := hx.len
  have hm := hx.most
  unfold maxLen at hm
  replace hres := Lib.hid hres
  clear hx
  obtain ⟨sb, sa, si, sA, scap, sr⟩ := s
  obtain ⟨xf, xc, xz, xA, xcap, xd⟩ := x
  simp only [Str.val, Rec.val] at *
  subst hz
  have hd : (sa == -1) = true ∨ ((sa == -1) = false ∧ ((xd.length : Int) != 0) = true) := by
    cases h1 : sa == -1
    · refine .inr ⟨rfl, ?_⟩
      rcases h with h | h
      · rw [h] at h1
        cases h1
      · simpa using h
    · exact .inl rfl
  clear h
  rcases hd with hd | ⟨hd, hd2⟩
  all_goals
    go_enter Try.func36, Try.ntmps36
    go_wp2_with fail
    go_ret
    exact ⟨ret_bool hres.out.symm, hB0⟩

/-- How Next goes on behind the record ahead. -/
theorem after_cases (s : Str) (x : Rec) (hp : ∀ p, lastOf none s.recs = some p → 0 ≤ p.fr ∧ p.fr ≤ 1000000 ∧ 0 ≤ p.ct ∧ p.ct ≤ 1000000) :
    s.recs = [] ∨ ∃ m p, s.recs.length = m + 1 ∧ s.recs[m]? = some p ∧ lastOf none s.recs = some p ∧ (0 ≤ p.fr ∧ p.fr ≤ 1000000 ∧ 0 ≤ p.ct ∧ p.ct ≤ 1000000) ∧ afterB (lastOf none s.recs) x = behindB x p := by
  rcases List.eq_nil_or_concat s.recs with h | ⟨l, p, h⟩
  · exact .inl h
  · right
    have hl : lastOf none s.recs = some p := by
      unfold lastOf
      rw [h, List.concat_eq_append, List.getLast?_concat]
    refine ⟨l.length, p, by rw [h]; simp, by rw [h]; simp, hl, hp p hl, by rw [hl]; rfl⟩

theorem behind_not (x p : Rec) : (decide (x.fr < p.fr + p.ct) || (x.fr == p.fr + p.ct && x.zs == p.zs)) = !behindB x p := by
  unfold behindB
  cases x.zs <;> cases p.zs <;> simp <;> (rw [Bool.eq_iff_iff]; simp; omega)
set_option maxRecDepth 100000 in
set_option maxHeartbeats 8000000 in
theorem rnext_go (s : Str) (x : Rec) (w : World) (hmany : s.recs.length ≤ 100000) (hok : s.Ok w w.heap.size) (hx : x.Ok w w.heap.size) (hb1 : 1 ≤ s.blocks) (hb2 : s.blocks ≤ 64) (hp : ∀ p, lastOf none s.recs = some p → 0 ≤ p.fr ∧ p.fr ≤ 1000000 ∧ 0 ≤ p.ct ∧ p.ct ≤ 1000000)
    (g1 : 1 ≤ x.ct) (g2 : 0 ≤ x.fr) (g3 : x.fr < s.blocks) (g4 : x.ct ≤ s.blocks - x.fr) (h : x.zs = true → s.base ≠ -1 ∧ x.data.length = 0) :
    Calls Try.prog 36 #[.agg s.val.toArray, .agg x.val.toArray] w fun e w' => e = .returned (.bool (nextB s x)) ∧ Below w.heap.size w w' := by
  have hB0 := balloc (balloc (brefl w) (.cells s.val.toArray 24)) (.cells x.val.toArray 39)
  have hrs := (alloc_row w 24 s.val).step (alloc_below _ (.cells x.val.toArray 39))
  have hrx := alloc_row (w.alloc (.cells s.val.toArray 24)) 39 x.val
  rw [World.size_alloc] at hrx
  have hsr := (hok.recs.below hB0)
  have hxb := hx.bytes
  have hac := Lib.hid (after_cases s x hp)
  have hn : nextB s x = ((dataB x && !(s.base == -1 && x.zs)) && afterB (lastOf none s.recs) x) := by
    unfold nextB
    rw [recB_is g1 g2 g3 g4]
  have hxl := hx.len
  have hxm := hx.most
  have hsl := hok.len
  have hsm := hok.most
  unfold maxLen at hxm hsm
  have hdb := dataB_blocks x
  have hn' : x.zs = true → nextB s x = afterB (lastOf none s.recs) x := fun hz => by
    rw [hn]
    unfold dataB
    rw [if_pos hz, (h hz).2, beq_eq_false_iff_ne.2 (h hz).1]
    simp
  have hn2 : x.zs = false → nextB s x = (dataB x && afterB (lastOf none s.recs) x) := fun hz => by
    rw [hn, hz]
    simp
  replace hn' := Lib.hid hn'
  replace hn2 := Lib.hid hn2
  have hdb' := Lib.hid hdb
  have hres : ∀ b, b = nextB s x → Hid (Value.bool b = .bool (nextB s x)) := fun b e => by rw [e]; exact Lib.hid rfl
  replace hres := Lib.hid hres
  obtain ⟨nx, hnx⟩ : ∃ nx, nx = nextB s x := ⟨_, rfl⟩
  rw [← hnx] at hn' hn2 ⊢
  clear hok hx hp hn hdb hnx hres
  have hs3 : s.val[3]? = some (.slice s.A s.recs.length s.cap) := rfl
  obtain ⟨sv, hsv⟩ : ∃ sv, sv = s.val := ⟨_, rfl⟩
  obtain ⟨xv, hxv⟩ : ∃ xv, xv = x.val := ⟨_, rfl⟩
  rw [← hsv] at hB0 hrs hrx hsr hs3 ⊢
  rw [← hxv] at hB0 hrs hrx hsr ⊢
  have s0 := hrs.cellD 0 (.int .i64 s.blocks) (by rw [hsv]; rfl)
  have s1 := hrs.cellD 1 (.int .i64 s.base) (by rw [hsv]; rfl)
  have s3 := hrs.cellD 3 _ hs3
  have x0 := hrx.cellD 0 (.int .i64 x.fr) (by rw [hxv]; rfl)
  have x1 := hrx.cellD 1 (.int .i64 x.ct) (by rw [hxv]; rfl)
  have x2 := hrx.cellD 2 (.bool x.zs) (by rw [hxv]; rfl)
  have x3 := hrx.cellD 3 (.slice x.A x.data.length x.cap) (by rw [hxv]; rfl)
  have hz : (x.zs = false) ∨ (x.zs = true ∧ (s.base == -1) = false ∧ ((x.data.length : Int) != 0) = false) := by
    cases hzx : x.zs
    · exact .inl rfl
    · obtain ⟨a, b⟩ := h hzx
      refine .inr ⟨rfl, beq_eq_false_iff_ne.2 a, by rw [b]; rfl⟩
  replace hxv := Lib.hid hxv
  obtain ⟨nr, hnr⟩ : ∃ nr, nr = s.recs.length := ⟨_, rfl⟩
  rw [← hnr] at s3 hmany hsl
  replace hnr := Lib.hid hnr
  clear h hsv hs3
  replace hz := Lib.hid hz
  go_enter Try.func36, Try.ntmps36
  go_upto_region 1 with fail
  generalize (w.alloc (.cells sv.toArray 24)).alloc (.cells xv.toArray 39) = W0 at *
  go_cut [47] from 8 to 47 (fun v wx => v = .bool false ∧ wx = W0)
  case first =>
    rcases hz.out with hz1 | ⟨hz1, hz2, hz3⟩
    all_goals
      go_wp2_with fail
      go_meet
      case rel => exact ⟨congrArg Value.bool (by simp; omega), rfl⟩
  case rest =>
  obtain ⟨rfl, rfl⟩ := hcut
  go_upto_if 52 with fail
  go_cut [3, 4, 7] from 5 to 83 (fun v v4 v7 wx => v = .pointer (some ⟨w.heap.size + 1, 0, none⟩) ∧ v4 = .bool false ∧ v7 = undef ∧ RowAt wx (w.heap.size + 1) 39 xv ∧ Below w.heap.size w wx ∧ Hid (afterB (lastOf none s.recs) x = true))
  case first =>
    rcases hac.out with hnil | ⟨m, p, hml, hpm, hlo, ⟨q1, q2, q3, q4⟩, haf⟩
    · obtain rfl : nr = 0 := by rw [hnr.out, hnil]; rfl
      have haf := Lib.hid (show afterB (lastOf none s.recs) x = true by rw [hnil]; rfl)
      clear hnil
      go_wp2_with fail
      go_meet
      case rel => exact ⟨rfl, rfl, rfl, hrx, hB0, haf⟩
    · obtain rfl : nr = m + 1 := by rw [hnr.out, hml]
      obtain ⟨b, o, hA, hbl, hc⟩ := hsr.1.resolve_left (fun e => by rw [e] at hml; simp at hml)
      have hmlt : m < s.recs.length := by omega
      have hpe : s.recs[m] = p := by rw [List.getElem?_eq_getElem hmlt] at hpm; exact Option.some.inj hpm
      obtain ⟨P4, hP4⟩ : ∃ P4, P4 = p.val := ⟨_, rfl⟩
      have HPc := hc m hmlt
      rw [hpe, ← hP4] at HPc
      have HP4 := Lib.hid (show P4.length = 4 by rw [hP4]; rfl)
      have HPo := Lib.hid (show ∀ v ∈ P4, v.oneCell' = true by rw [hP4]; exact rec_one _)
      have HPv := Lib.hid (show P4 = [.int .i64 p.fr, .int .i64 p.ct, .bool p.zs, .slice p.A p.data.length p.cap] from hP4)
      replace HPc := Lib.hid (fun i v hv => (congrArg (World.cell? _) (add_at b (o + m * 4) i)).trans (HPc i v hv))
      have hm9 : m + 1 ≤ 100000 := by omega
      have haf' := Lib.hid haf
      rw [hA] at s3
      clear hml
      clear hP4 hpe hpm hlo hc hmlt hsr hsl hrs haf hA hmany hnr
      go_upto_region 6 with (first
        | (refine wpList_load_cells 58 rfl 39 (.tmp 57) rfl ⟨b, o + m * 4, none⟩ P4 rfl rfl HPc.out 4 HP4.out Try.isAgg39 Try.sizeOf39 ?_)
        | (refine wpList_alloc_row 6 rfl 39 rfl _ rfl zero_rec ?_; intro w3 hr3 hs3 hB3; clear hs3)
        | (refine wpList_store_part 39 (.tmp 6) (.tmp 58) rfl hr3 0 P4 rfl rfl rfl (by rw [HP4.out]; exact Try.sizeOf39) (by rw [HP4.out]; decide) HPo.out ?_
           intro w4 hrp hs4 hg4
           clear hs4
           rw [splice_all _ _ (by rw [HP4.out]; rfl)] at hrp
           have hB4 := hB3.grown hg4 hB3.size (fun j e => by cases e; exact Nat.le_refl _)
           have hrx4 := hrx.step hB4
           have x40 := hrx4.cellD 0 (.int .i64 x.fr) (by rw [hxv.out]; rfl)
           have x42 := hrx4.cellD 2 (.bool x.zs) (by rw [hxv.out]; rfl)
           have p0 := hrp.cellD 0 _ (by rw [HPv.out]; rfl)
           have p1 := hrp.cellD 1 _ (by rw [HPv.out]; rfl)
           have p2 := hrp.cellD 2 _ (by rw [HPv.out]; rfl)))
      clear hr3 hB3 hg4
      (try simp only [Act.put, List.setIfInBounds_toArray, List.set_cons_zero, List.set_cons_succ])
      go_cut [83] from 53 to 83 (fun v wx => v = .bool (!behindB x p) ∧ wx = w4)
      case first =>
        go_wp2_with fail
        all_goals
          go_meet
          case rel =>
            refine ⟨congrArg Value.bool ?_, rfl⟩
            rw [← behind_not x p]
            first
              | (rw [decide_eq_true (by omega)]; rfl)
              | (rw [decide_eq_false (by omega), show (x.fr == p.fr + p.ct) = true from beq_iff_eq.2 (by omega)]; rfl)
              | (rw [decide_eq_false (by omega), show (x.fr == p.fr + p.ct) = false from beq_eq_false_iff_ne.2 (by omega)]; rfl)
      case rest =>
      obtain ⟨rfl, rfl⟩ := hcut
      cases hbp : behindB x p
      · have hnx : nx = false := by
          cases hzx : x.zs
          · rw [hn2.out hzx, haf'.out, hbp, Bool.and_false]
          · rw [hn'.out hzx, haf'.out, hbp]
        go_wp2_with fail
        go_ret
        exact ⟨ret_bool hnx.symm, bthen hB0 hB4⟩
      · go_wp2_with fail
        go_meet
        case rel => exact ⟨rfl, rfl, rfl, hrx4, bthen hB0 hB4, Lib.hid (by rw [haf'.out, hbp])⟩
  case rest =>
  obtain ⟨rfl, rfl, rfl, hrx', hB', haf⟩ := hcut
  have hres : ∀ b, nx = b → Hid (Value.bool b = .bool nx) := fun b e => by rw [e]; exact Lib.hid rfl
  have y1 := hrx'.cellD 1 (.int .i64 x.ct) (by rw [hxv.out]; rfl)
  have y2 := hrx'.cellD 2 (.bool x.zs) (by rw [hxv.out]; rfl)
  have y3 := hrx'.cellD 3 (.slice x.A x.data.length x.cap) (by rw [hxv.out]; rfl)
  have hxb' := hxb.below hB'
  clear hrx' hxv hrx hrs hac hz hsr
  cases hzx : x.zs
  rotate_left
  · have hnx : nx = true := by rw [hn'.out hzx, haf.out]
    rw [hzx] at y2
    clear hzx hres
    go_wp2_with fail
    go_ret
    exact ⟨ret_bool hnx.symm, hB'⟩
  have hnx := hn2.out hzx
  rw [haf.out, Bool.and_true] at hnx
  have hdb2 := fun n h1 h2 => hdb'.out n hzx h1 h2
  rw [hzx] at y2
  by_cases hcl : (x.data.length : Int) = x.ct * 64
  rotate_left
  · have hde : ((x.data.length : Int) != x.ct * 64) = true := by simpa using hcl
    have hnx' : nx = false := by
      rw [hnx]
      unfold dataB
      rw [if_neg (by rw [hzx]; decide), beq_eq_false_iff_ne.2 hcl]
      rfl
    clear hcl hzx hnx hdb2 hdb' hn' hn2 haf hres
    go_wp2_with fail
    go_ret
    exact ⟨ret_bool hnx'.symm, hB'⟩
  have hde : ((x.data.length : Int) != x.ct * 64) = false := by rw [hcl]; simp
  obtain ⟨n, hnc⟩ : ∃ n, n = x.ct.toNat := ⟨_, rfl⟩
  have hct : x.ct = (n : Int) := by omega
  have hnn : x.data.length = n * 64 := by omega
  rw [hdb2 n hct hnn] at hnx
  have hn1 : 1 ≤ n := by omega
  have hn2' : n ≤ 64 := by omega
  replace hct := Lib.hid hct
  replace hnn := Lib.hid hnn
  replace hnx := Lib.hid hnx
  clear hnc hcl hzx hdb2 hdb' hn' hn2 haf hres
  have hc64 : x.ct ≤ 64 := by omega
  obtain ⟨b', o', hA', hbl', hcx⟩ := hxb'.resolve_left (fun e => by have := hnn.out; rw [e] at this; simp at this; omega)
  clear hcx
  rw [hA'] at y3
  replace hA' := Lib.hid hA'
  clear g2 g3 g4 hb1 hb2
  go_wp2_with fail
  clear hde
  go_loop [7] (fun i => ∃ k : Nat, k ≤ n ∧ i = .int .i64 (k : Int) ∧ Hid (blocksB x.data k = true)) (fun i => n - (intOf i).toNat)
  case atStart => exact ⟨0, Nat.zero_le _, rfl, Lib.hid rfl⟩
  case round =>
    obtain ⟨k, hk, rfl, hbk⟩ := hrel
    by_cases hlt : k < n
    · have hke : k * 64 + 64 ≤ x.data.length := by rw [hnn.out]; omega
      have hpb := piece_bytes hxb' 64 k
      have hpl := pieceB_length x.data 64 k
      have hpl2 : (pieceB x.data 64 k).length = 64 := by omega
      have hsc := blocksB_succ x.data k
      rw [hbk.out, Bool.true_and] at hsc
      have hno := Lib.hid (fun h => blocksB_no (data := x.data) hlt h)
      have hd1 : decide ((k : Int) < x.ct) = true := decide_eq_true (by rw [hct.out]; omega)
      have hk0 : (0 : Int) ≤ (k : Int) := by omega
      have hk1 : (k : Int) ≤ 64 := by omega
      have hk2 : ((k : Int) + 1) * 64 ≤ (x.cap : Int) := by omega
      have hne : ¬ x.cap = k * 64 := by omega
      have hpA : x.A.map (·.add (64 * k)) = some ⟨b', o' + k * 64, none⟩ := by rw [hA'.out, Nat.mul_comm]; simp [add_at]
      rw [hpA] at hpb
      have hpb' := Lib.hid hpb
      replace hpl2 := Lib.hid hpl2
      have hpn : (k + 1) * 64 - k * 64 = 64 := by omega
      clear hpb hpA hpl
      cases hzz : zeroB (pieceB x.data 64 k)
      · rw [hzz] at hsc
        replace hsc := Lib.hid hsc
        go_wp2_with fail
        refine (rzero_calls _ _ 64 _ hpl2.out (by unfold maxLen; omega) _ _ hpb'.out).mono ?_
        rintro e w7 ⟨rfl, rfl⟩
        rw [hzz]
        go_wp2_with fail
        go_round
        case rel => exact ⟨k + 1, by omega, by go_num, Lib.hid (by rw [hsc.out]; rfl)⟩
        case measure => simp [intOf]; omega
      · have hrf := Lib.hid (hnx.out.trans (hno.out hzz))
        clear hsc
        go_wp2_with fail
        refine (rzero_calls _ _ 64 _ hpl2.out (by unfold maxLen; omega) _ _ hpb'.out).mono ?_
        rintro e w7 ⟨rfl, rfl⟩
        rw [hzz]
        go_wp2_with fail
        go_ret
        exact ⟨ret_bool hrf.out.symm, hB'⟩
    · obtain rfl : k = n := by omega
      have hd1 : decide ((k : Int) < x.ct) = false := decide_eq_false (by rw [hct.out]; omega)
      have hrt := Lib.hid (hnx.out.trans hbk.out)
      clear hnx
      go_wp2_with fail
      go_ret
      exact ⟨ret_bool hrt.out.symm, hB'⟩
end Go.Proofs.Ytdglkjpdhnnpnaa
