/-
  Package stream: records, Good.
-/
import Derived.Test.YtdglkjpdhnnpnaaStrData
import Derived.Test.YtdglkjpdhnnpnaaOps
import Derived.Deep.Cut
namespace Go.Proofs.Ytdglkjpdhnnpnaa
open Go Go.RowKit

theorem exec_gtr0 {P : Program} {w : World} {o : Oper} {a : Act} (t t' : TypeId) (x : Operand) (ho : o.op = .binOp .gtr t x (.const (.int .i64 0)) t') (m : Nat) (hx : a.eval x = .int .i64 ((m : Int) + 1)) :
    (execOp a.eval o).run P w = .ok (.value (.bool true)) w := by
  have h : decide ((0 : Int) < (m : Int) + 1) = true := decide_eq_true (by omega)
  simp only [execOp, ho, hx]
  show Result.ok (Next.value (.bool (decide ((0 : Int) < (m : Int) + 1)))) w = _
  rw [h]
theorem data_R (r : Rec) (w : World) (h1 : 1 ≤ r.ct) (h2 : r.ct ≤ 64) (hok : r.Ok w w.heap.size) (b : Bool) (hb : dataB r = b) :
    Calls Try.prog 53 #[.agg #[.int .i64 r.fr, .int .i64 r.ct, .bool r.zs, .slice r.A r.data.length r.cap]] w fun e w' => e = .returned (.bool b) ∧ Below w.heap.size w w' := by
  rw [← hb]
  exact data_calls r w h1 h2 hok
theorem behind_L (r p : Rec) (w : World) (h1 : 0 ≤ p.fr) (h2 : p.fr ≤ 1000000) (h3 : 0 ≤ p.ct) (h4 : p.ct ≤ 1000000) (X Y : List Value) (hX : Hid (X = r.val)) (hY : Hid (Y = p.val)) (b : Bool) (hb : behindB r p = b) :
    Calls Try.prog 54 #[.agg X.toArray, .agg Y.toArray] w fun e w' => e = .returned (.bool b) ∧ Below w.heap.size w w' := by
  rw [hX.out, hY.out, ← hb]
  exact behind_calls r p w h1 h2 h3 h4
theorem zero_rec (w : World) : (zeroValue 39).run Try.prog w = .ok (.agg ([.int .i64 0, .int .i64 0, .bool false, .slice none 0 0] : List Value).toArray) w := by kernel_rfl
theorem rec_one (x : Rec) : ∀ v ∈ x.val, v.oneCell' = true := by
  intro v hv
  simp only [Rec.val, List.mem_cons, List.not_mem_nil, or_false] at hv
  rcases hv with rfl | rfl | rfl | rfl <;> rfl
theorem rec_cells {w : World} {B b off : Nat} {l : List Rec} (hc : ∀ j (h : j < l.length), ∀ i v, l[j].val[i]? = some v → w.cell? ⟨b, off + j * 4 + i, none⟩ = some v) (hb : b < B) (k : Nat) (hk : k < l.length) {W : World} (hB : Below B w W) :
    ∀ i v, l[k].val[i]? = some v → W.cell? ((⟨b, off + k * 4, none⟩ : Addr).add i) = some v := by
  intro i v h
  rw [add_at, hB.cell (p := ⟨b, off + k * 4 + i, none⟩) hb]
  exact hc k hk i v h

set_option maxRecDepth 100000 in
set_option maxHeartbeats 4000000 in
theorem recs_calls (s : Str) (w : World) (hok : s.Ok w w.heap.size) (hb1 : 1 ≤ s.blocks) (hb2 : s.blocks ≤ 64) :
    Calls Try.prog 34 #[.agg s.val.toArray] w fun e w' => e = .returned (.bool (recsB s.blocks s.base none s.recs)) ∧ Below w.heap.size w w' := by
  have hr0 := alloc_row w 24 s.val
  have hB0 := balloc (brefl w) (.cells s.val.toArray 24)
  have hrecs := hok.recs
  have hl9 : s.recs.length ≤ 9223372036854775807 := by
    have h1 := hok.len
    have h2 := hok.most
    unfold maxLen at h2
    omega
  obtain ⟨sb, sa, si, sA, scap, sr⟩ := s
  simp only [Str.val] at *
  have ha1 := hok.a1
  have ha2 := hok.a2
  simp only at ha1 ha2
  clear hok
  go_enter Try.func34, Try.ntmps34
  go_wp2_with fail
  go_loopw [8] (fun i wr => ∃ k : Nat, k ≤ sr.length ∧ i = .int .i64 (k : Int) ∧ Hid (recsB sb sa none (sr.take k) = true) ∧ RowAt wr w.heap.size 24 [.int .i64 sb, .int .i64 sa, .int .i64 si, .slice sA sr.length scap] ∧ Below w.heap.size w wr) (fun i _ => sr.length - (intOf i).toNat)
  case atStart => exact ⟨0, Nat.zero_le _, rfl, Lib.hid rfl, hr0, hB0⟩
  clear hr0 hB0
  case round =>
  obtain ⟨k, hk, rfl, hpre, hrs, hB⟩ := hrel
  by_cases hlt : k < sr.length
  · obtain ⟨b, o, rfl, hbl, hc⟩ := hrecs.1.resolve_left (fun e => by rw [e] at hlt; simp at hlt)
    have hrok := hrecs.2 sr[k] (List.getElem_mem hlt)
    have hstep := recsB_step hlt hpre.out
    have hlast : ∀ m (hm : k = m + 1), lastOf none (sr.take k) = some (sr[m]'(by omega)) := by
      intro m hm
      subst hm
      exact lastOf_take (by omega)
    have hno : recsB sb sa none (sr.take (k + 1)) = false → recsB sb sa none sr = false := recsB_no
    have hprev : ∀ m (hm : m < k), recB sb sa (sr[m]'(by omega)) = true ∧ (m : Int) ≤ (sr[m]'(by omega)).fr := by
      intro m hm
      have h := recsB_rise (sr.take k) none 0 hpre.out (fun q e => by cases e) (fun _ => Int.le_refl _) m (by rw [List.length_take]; omega)
      rw [List.getElem_take] at h
      exact ⟨h.2, by have := h.1; omega⟩
    have HXc := Lib.hid (rec_cells hc hbl k hlt hB)
    obtain ⟨X4, hX4⟩ : ∃ X4, X4 = sr[k].val := ⟨_, rfl⟩
    have HX := Lib.hid hX4
    have HX4 := Lib.hid (show X4.length = 4 by rw [hX4]; rfl)
    have HXo := Lib.hid (show ∀ v ∈ X4, v.oneCell' = true by rw [hX4]; exact rec_one _)
    rw [← hX4] at HXc
    have hxr : X4 = [.int .i64 sr[k].fr, .int .i64 sr[k].ct, .bool sr[k].zs, .slice sr[k].A sr[k].data.length sr[k].cap] := hX4
    have hk0 : (0 : Int) ≤ (k : Int) := by omega
    have hk1 : (k : Int) < (sr.length : Int) := by omega
    have hd1 : decide (k < sr.length) = true := decide_eq_true hlt
    have Hlt := Lib.hid hlt
    clear hX4
    generalize sr[k] = r at hrok hstep hxr HX
    replace hxr := Lib.hid hxr
    replace hno := Lib.hid hno
    replace hstep := Lib.hid hstep
    replace hlast := Lib.hid hlast
    replace hprev := Lib.hid hprev
    replace hpre := Lib.hid hpre
    go_upto_region 4 with (first
      | (refine wpList_load_cells 12 rfl 39 (.tmp 11) rfl ⟨b, o + k * 4, none⟩ X4 rfl rfl HXc.out 4 HX4.out Try.isAgg39 Try.sizeOf39 ?_)
      | (refine wpList_alloc_row 4 rfl 39 rfl _ rfl zero_rec ?_; intro w3 hr3 hs3 hB3; clear hs3)
      | (refine wpList_store_part 39 (.tmp 4) (.tmp 12) rfl hr3 0 X4 rfl rfl rfl (by rw [HX4.out]; exact Try.sizeOf39) (by rw [HX4.out]; decide) HXo.out ?_
         intro w4 hrx hs4 hg4
         clear hs4
         rw [splice_all _ _ (by rw [HX4.out]; rfl)] at hrx))
    have hB4 : Below wr.heap.size wr w4 := hB3.grown hg4 hB3.size (fun j e => by cases e; exact Nat.le_refl _)
    have hrs4 := hrs.step hB4
    have hB9 := bthen hB hB4
    have hX9 := hxr.out
    have hf1 := hrok.f1
    have hf2 := hrok.f2
    have hc1 := hrok.c1
    have hc2 := hrok.c2
    have e0 : w4.cell? ⟨wr.heap.size, 0, none⟩ = some (.int .i64 r.fr) := hrx.cellD 0 _ (by rw [hX9]; rfl)
    have e1 : w4.cell? ⟨wr.heap.size, 1, none⟩ = some (.int .i64 r.ct) := hrx.cellD 1 _ (by rw [hX9]; rfl)
    have e2 : w4.cell? ⟨wr.heap.size, 2, none⟩ = some (.bool r.zs) := hrx.cellD 2 _ (by rw [hX9]; rfl)
    have e3 : w4.cell? ⟨wr.heap.size, 3, none⟩ = some (.slice r.A r.data.length r.cap) := hrx.cellD 3 _ (by rw [hX9]; rfl)
    have f0 : w4.cell? ⟨w.heap.size, 0, none⟩ = some (.int .i64 sb) := hrs4.cellD 0 _ rfl
    have f1 : w4.cell? ⟨w.heap.size, 1, none⟩ = some (.int .i64 sa) := hrs4.cellD 1 _ rfl
    have HX4t := Lib.hid (show (X4.drop 0).take 4 = X4 from List.take_of_length_le (Nat.le_of_eq HX4.out))
    have hrok4 := Lib.hid (Rec.Ok.more (hrok.below hB9) hB9.size)
    clear hX9 hr3 hg4 hB3 hrok
    by_cases hgo : 1 ≤ r.ct ∧ 0 ≤ r.fr ∧ r.fr < sb ∧ r.ct ≤ sb - r.fr
    · obtain ⟨g1, g2, g3, g4⟩ := hgo
      cases hdb : dataB r
      · have hfalse : recB sb sa r = false := by
          cases h : recB sb sa r
          · rfl
          · rw [(recB_bounds h).2.2.2.2] at hdb
            cases hdb
        have hres := Lib.hid (hno.out (by rw [hstep.out, hfalse]; rfl))
        clear hfalse hrs hrs4
        go_wp2_with fail
        refine (data_R r w4 g1 (by omega) hrok4.out false hdb).mono ?_
        rintro e w5 ⟨rfl, hB5⟩
        go_wp2_with fail
        go_ret
        exact ⟨ret_bool hres.out.symm, bthen hB9 hB5⟩
      · go_wp2_with fail
        refine (data_R r w4 g1 (by omega) hrok4.out true hdb).mono ?_
        rintro e w5 ⟨rfl, hB5⟩
        have hrx5 := hrx.step hB5
        have hrs5 := hrs4.step hB5
        have hB95 := bthen hB9 hB5
        have p1 : w5.cell? ⟨w.heap.size, 1, none⟩ = some (.int .i64 sa) := hrs5.cellD 1 _ rfl
        have p2 : w5.cell? ⟨wr.heap.size, 2, none⟩ = some (.bool r.zs) := hrx5.cellD 2 _ (by rw [hxr.out]; rfl)
        have hrv : recB sb sa r = !(sa == -1 && r.zs) := by
          unfold recB
          rw [decide_eq_true g1, decide_eq_true g2, decide_eq_true g3, decide_eq_true g4, hdb]
          rfl
        clear e0 e1 e2 e3 f0 f1 hrx hrs4 hrs
        by_cases hbz : sa = -1 ∧ r.zs = true
        · obtain ⟨hb1', hb2'⟩ := hbz
          have hres := Lib.hid (hno.out (by rw [hstep.out, hrv, hb1', hb2']; rfl))
          have hd : (sa == -1) = true := by rw [hb1']; rfl
          rw [hb2'] at p2
          clear hrv hb1' hb2'
          go_wp2_with fail
          go_ret
          exact ⟨ret_bool hres.out.symm, hB95⟩
        · have hrt : recB sb sa r = true := by
            rw [hrv]
            cases hzz : r.zs
            · cases sa == -1 <;> rfl
            · have : (sa == -1) = false := beq_eq_false_iff_ne.2 (fun e => hbz ⟨e, hzz⟩)
              rw [this]
              rfl
          have hgo2 : (sa == -1) = false ∨ ((sa == -1) = true ∧ r.zs = false) := by
            cases h : sa == -1
            · exact .inl rfl
            · refine .inr ⟨rfl, ?_⟩
              cases hzz : r.zs
              · rfl
              · exact absurd ⟨beq_iff_eq.1 h, hzz⟩ hbz
          replace hrt := Lib.hid hrt
          clear hrv hbz
          rcases hgo2 with hd | ⟨hd, hzz⟩
          all_goals
            (try rw [hzz] at p2)
            (try clear hzz)
            go_wp2_with fail
            rcases k with _ | m
            · have hres := Lib.hid (show recsB sb sa none (sr.take (0 + 1)) = true by rw [hstep.out, hrt.out]; rfl)
              -- <held0
              have d0 : Since w5 w5.drew := (Since.refl _).drew
              refine wp_region_H (Since w5) 13 rfl (by kernel_rfl) ?_
              refine wh_take 0 (.int .i64 (0)) rfl (by kernel_rfl) (by kernel_rfl) (fun _ _ _ h => h) (by kernel_rfl) (fun _ _ => by kernel_rfl) ?_
              refine wh_take 1 (.bool false) rfl (by kernel_rfl) (by kernel_rfl) (fun _ _ _ h => h) (by kernel_rfl) (fun _ _ => by kernel_rfl) ?_
              refine wh_take 2 (.bool false) rfl (by kernel_rfl) (by kernel_rfl) (fun _ _ _ h => h) (by kernel_rfl) (fun _ _ => by kernel_rfl) ?_
              refine wh_no 3 rfl (by kernel_rfl) (by kernel_rfl) (fun _ _ _ h => h) (by kernel_rfl) ?_
              refine wh_no 4 rfl (by kernel_rfl) (by kernel_rfl) (fun _ _ _ h => h) (by kernel_rfl) ?_
              refine wh_no 5 rfl (by kernel_rfl) (by kernel_rfl) (fun _ _ _ h => h) (by kernel_rfl) ?_
              refine wh_no 6 rfl (by kernel_rfl) (by kernel_rfl) (fun _ _ _ h => h) (by kernel_rfl) ?_
              refine wh_no 7 rfl (by kernel_rfl) (by kernel_rfl) (fun _ _ _ h => h) (by kernel_rfl) ?_
              refine wh_no 8 rfl (by kernel_rfl) (by kernel_rfl) (fun _ _ _ h => h) (by kernel_rfl) ?_
              refine wh_no 9 rfl (by kernel_rfl) (by kernel_rfl) (fun _ _ _ h => h) (by kernel_rfl) ?_
              refine wh_no 10 rfl (by kernel_rfl) (by kernel_rfl) (fun _ _ _ h => h) (by kernel_rfl) ?_
              refine wh_no 11 rfl (by kernel_rfl) (by kernel_rfl) (fun _ _ _ h => h) (by kernel_rfl) ?_
              refine wh_take 12 (.bool false) rfl (by kernel_rfl) (by kernel_rfl) (fun _ _ _ h => h) (by kernel_rfl) (fun _ _ => by kernel_rfl) ?_
              refine wh_done (by kernel_rfl) d0 ?_
              simp only [Act.put, List.setIfInBounds_toArray, List.set_cons_zero, List.set_cons_succ]
              -- held0>
              have hrs6 := hrs5.step d0
              have hB6 := bthen hB95 d0
              clear hrs5 hrx5 d0 p1 p2 hrecs hc
              go_wp2_with fail
              go_roundw
              case rel => exact ⟨0 + 1, by omega, by go_num, hres, hrs6, hB6⟩
              case measure => simp [intOf]; omega
            · have hml : m < sr.length := by omega
              have hpm := (hprev.out m (by omega)).2
              have hpb := recB_bounds (hprev.out m (by omega)).1
              have hls := hlast.out m rfl
              have HPc := Lib.hid (show ∀ W, Since w5 W → ∀ i v, sr[m].val[i]? = some v → W.cell? ((⟨b, o + m * 4, none⟩ : Addr).add i) = some v from fun W h => rec_cells hc hbl m hml (bthen hB95 h))
              obtain ⟨P4, hP4⟩ : ∃ P4, P4 = sr[m].val := ⟨_, rfl⟩
              have HP := Lib.hid hP4
              have HP4 := Lib.hid (show P4.length = 4 by rw [hP4]; rfl)
              rw [← hP4] at HPc
              clear hP4
              have hse : recsB sb sa none (sr.take (m + 1 + 1)) = behindB r sr[m] := by
                rw [hstep.out, hrt.out, hls]
                rfl
              generalize sr[m] = pr at hpb HP hse hpm
              have Hm := Lib.hid (show m ≤ 1000000 by omega)
              have Hml := Lib.hid hml
              cases hbb : behindB r pr
              · have hbh := Lib.hid (fun W => behind_L r pr W hpb.2.1 (by omega) (by omega) (by omega) X4 P4 HX HP false hbb)
                have hres := Lib.hid (hno.out (by rw [hse, hbb]))
                clear hls hpb hse hbb
                -- <held2
                have d0 : Since w5 w5.drew := (Since.refl _).drew
                refine wp_region_H (Since w5) 13 rfl (by kernel_rfl) ?_
                refine wh_take 0 (.int .i64 ((m : Int) + 1)) rfl (by kernel_rfl) (by kernel_rfl) (fun _ _ _ h => h) (by kernel_rfl) (fun _ _ => by kernel_rfl) ?_
                refine wh_take 1 (.bool true) rfl (by kernel_rfl) (by kernel_rfl) (fun _ _ _ h => h) (by kernel_rfl) (fun _ _ => exec_gtr0 3 3 (.tmp 52) rfl m (by kernel_rfl)) ?_
                refine wh_take 2 (.bool true) rfl (by kernel_rfl) (by kernel_rfl) (fun _ _ _ h => h) (by kernel_rfl) (fun _ _ => by kernel_rfl) ?_
                refine wh_take 3 (.agg X4.toArray) rfl (by kernel_rfl) (by kernel_rfl) (fun _ _ _ h => h) (by kernel_rfl) (fun W h => exec_load_part 39 (.tmp 4) rfl (hrx5.step h) 0 4 X4 (by kernel_rfl) HX4t.out HX4.out Try.isAgg39 Try.sizeOf39) ?_
                refine wh_take 4 (.pointer (some ⟨w.heap.size, 3, none⟩)) rfl (by kernel_rfl) (by kernel_rfl) (fun _ _ _ h => h) (by kernel_rfl) (fun _ _ => by kernel_rfl) ?_
                refine wh_take 5 (.slice (some ⟨b, o, none⟩) sr.length scap) rfl (by kernel_rfl) (by kernel_rfl) (fun _ _ _ h => h) (by kernel_rfl) (fun W h => exec_load_cell 22 (.tmp 56) rfl ⟨w.heap.size, 3, none⟩ _ (by kernel_rfl) ((hrs5.step h).cellD 3 _ rfl) Try.isAgg22) ?_
                refine wh_take 6 (.int .i64 ((m : Int) + 1)) rfl (by kernel_rfl) (by kernel_rfl) (fun _ _ _ h => h) (by kernel_rfl) (fun _ _ => by kernel_rfl) ?_
                refine wh_take 7 (.int .i64 (m : Nat)) rfl (by kernel_rfl) (by kernel_rfl) (fun _ _ _ h => h) (by kernel_rfl) (fun _ _ => exec_sub1 3 3 (.tmp 58) rfl m (by kernel_rfl) Hm.out) ?_
                refine wh_take 8 (.pointer (some ⟨b, o + m * 4, none⟩)) rfl (by kernel_rfl) (by kernel_rfl) (fun _ _ _ h => h) (by kernel_rfl) (fun _ _ => exec_index_slice 22 39 (.tmp 57) (.tmp 59) rfl b o m sr.length scap 4 Try.underlying22 Try.sizeOf39 (by kernel_rfl) (by kernel_rfl) Hml.out) ?_
                refine wh_take 9 (.agg P4.toArray) rfl (by kernel_rfl) (by kernel_rfl) (fun _ _ _ h => h) (by kernel_rfl) (fun W h => exec_load_cells 39 (.tmp 60) rfl ⟨b, o + m * 4, none⟩ P4 (HPc.out W h) (by kernel_rfl) 4 HP4.out Try.isAgg39 Try.sizeOf39) ?_
                refine wh_call 10 54 #[.agg X4.toArray, .agg P4.toArray] rfl (by kernel_rfl) (by kernel_rfl) d0 (fun _ => by kernel_rfl) ?_
                refine (hbh.out _).mono ?_
                rintro e x1 ⟨rfl, hx1⟩
                have s1 : Since w5 x1 := d0.then_ hx1
                refine ⟨_, rfl, ?_⟩
                refine wh_take 11 (.bool true) rfl (by kernel_rfl) (by kernel_rfl) (fun _ _ _ h => h) (by kernel_rfl) (fun _ _ => by kernel_rfl) ?_
                refine wh_take 12 (.bool true) rfl (by kernel_rfl) (by kernel_rfl) (fun _ _ _ h => h) (by kernel_rfl) (fun _ _ => by kernel_rfl) ?_
                refine wh_done (by kernel_rfl) s1 ?_
                simp only [Act.put, List.setIfInBounds_toArray, List.set_cons_zero, List.set_cons_succ]
                -- held2>
                clear hrs5 hrx5 p1 p2 hrecs hc
                go_wp2_with fail
                go_ret
                exact ⟨ret_bool hres.out.symm, bthen hB95 s1⟩
              · have hbh := Lib.hid (fun W => behind_L r pr W hpb.2.1 (by omega) (by omega) (by omega) X4 P4 HX HP true hbb)
                have hres := Lib.hid (hse.trans hbb)
                clear hls hpb hse hbb
                -- <held1
                have d0 : Since w5 w5.drew := (Since.refl _).drew
                refine wp_region_H (Since w5) 13 rfl (by kernel_rfl) ?_
                refine wh_take 0 (.int .i64 ((m : Int) + 1)) rfl (by kernel_rfl) (by kernel_rfl) (fun _ _ _ h => h) (by kernel_rfl) (fun _ _ => by kernel_rfl) ?_
                refine wh_take 1 (.bool true) rfl (by kernel_rfl) (by kernel_rfl) (fun _ _ _ h => h) (by kernel_rfl) (fun _ _ => exec_gtr0 3 3 (.tmp 52) rfl m (by kernel_rfl)) ?_
                refine wh_take 2 (.bool true) rfl (by kernel_rfl) (by kernel_rfl) (fun _ _ _ h => h) (by kernel_rfl) (fun _ _ => by kernel_rfl) ?_
                refine wh_take 3 (.agg X4.toArray) rfl (by kernel_rfl) (by kernel_rfl) (fun _ _ _ h => h) (by kernel_rfl) (fun W h => exec_load_part 39 (.tmp 4) rfl (hrx5.step h) 0 4 X4 (by kernel_rfl) HX4t.out HX4.out Try.isAgg39 Try.sizeOf39) ?_
                refine wh_take 4 (.pointer (some ⟨w.heap.size, 3, none⟩)) rfl (by kernel_rfl) (by kernel_rfl) (fun _ _ _ h => h) (by kernel_rfl) (fun _ _ => by kernel_rfl) ?_
                refine wh_take 5 (.slice (some ⟨b, o, none⟩) sr.length scap) rfl (by kernel_rfl) (by kernel_rfl) (fun _ _ _ h => h) (by kernel_rfl) (fun W h => exec_load_cell 22 (.tmp 56) rfl ⟨w.heap.size, 3, none⟩ _ (by kernel_rfl) ((hrs5.step h).cellD 3 _ rfl) Try.isAgg22) ?_
                refine wh_take 6 (.int .i64 ((m : Int) + 1)) rfl (by kernel_rfl) (by kernel_rfl) (fun _ _ _ h => h) (by kernel_rfl) (fun _ _ => by kernel_rfl) ?_
                refine wh_take 7 (.int .i64 (m : Nat)) rfl (by kernel_rfl) (by kernel_rfl) (fun _ _ _ h => h) (by kernel_rfl) (fun _ _ => exec_sub1 3 3 (.tmp 58) rfl m (by kernel_rfl) Hm.out) ?_
                refine wh_take 8 (.pointer (some ⟨b, o + m * 4, none⟩)) rfl (by kernel_rfl) (by kernel_rfl) (fun _ _ _ h => h) (by kernel_rfl) (fun _ _ => exec_index_slice 22 39 (.tmp 57) (.tmp 59) rfl b o m sr.length scap 4 Try.underlying22 Try.sizeOf39 (by kernel_rfl) (by kernel_rfl) Hml.out) ?_
                refine wh_take 9 (.agg P4.toArray) rfl (by kernel_rfl) (by kernel_rfl) (fun _ _ _ h => h) (by kernel_rfl) (fun W h => exec_load_cells 39 (.tmp 60) rfl ⟨b, o + m * 4, none⟩ P4 (HPc.out W h) (by kernel_rfl) 4 HP4.out Try.isAgg39 Try.sizeOf39) ?_
                refine wh_call 10 54 #[.agg X4.toArray, .agg P4.toArray] rfl (by kernel_rfl) (by kernel_rfl) d0 (fun _ => by kernel_rfl) ?_
                refine (hbh.out _).mono ?_
                rintro e x1 ⟨rfl, hx1⟩
                have s1 : Since w5 x1 := d0.then_ hx1
                refine ⟨_, rfl, ?_⟩
                refine wh_take 11 (.bool false) rfl (by kernel_rfl) (by kernel_rfl) (fun _ _ _ h => h) (by kernel_rfl) (fun _ _ => by kernel_rfl) ?_
                refine wh_take 12 (.bool false) rfl (by kernel_rfl) (by kernel_rfl) (fun _ _ _ h => h) (by kernel_rfl) (fun _ _ => by kernel_rfl) ?_
                refine wh_done (by kernel_rfl) s1 ?_
                simp only [Act.put, List.setIfInBounds_toArray, List.set_cons_zero, List.set_cons_succ]
                -- held1>
                have hrs6 := hrs5.step s1
                have hB6 := bthen hB95 s1
                clear hrs5 hrx5 d0 s1 p1 p2 hrecs hc
                go_wp2_with fail
                go_roundw
                case rel => exact ⟨m + 1 + 1, by omega, by go_num, hres, hrs6, hB6⟩
                case measure => simp [intOf]; omega
    · have hfalse : recB sb sa r = false := by
        cases h : recB sb sa r
        · rfl
        · have := recB_bounds h
          omega
      have hres := Lib.hid (hno.out (by rw [hstep.out, hfalse]; rfl))
      have hcase : r.ct < 1 ∨ (1 ≤ r.ct ∧ r.fr < 0) ∨ (1 ≤ r.ct ∧ 0 ≤ r.fr ∧ sb ≤ r.fr) ∨ (1 ≤ r.ct ∧ 0 ≤ r.fr ∧ r.fr < sb ∧ sb - r.fr < r.ct) := by omega
      clear hgo hfalse hrx hrs hrs4
      rcases hcase with h | ⟨h, h'⟩ | ⟨h, h', h''⟩ | ⟨h, h', h'', h3⟩
      all_goals
        go_wp2_with fail
        go_ret
        exact ⟨ret_bool hres.out.symm, hB9⟩
  · obtain rfl : k = sr.length := by omega
    have hd1 : decide (sr.length < sr.length) = false := decide_eq_false (by omega)
    have hres : recsB sb sa none sr = true := by
      have := hpre.out
      rwa [List.take_length] at this
    replace hres := Lib.hid hres
    clear hrecs
    go_wp2_with fail
    go_ret
    exact ⟨ret_bool hres.out.symm, hB⟩
end Go.Proofs.Ytdglkjpdhnnpnaa
