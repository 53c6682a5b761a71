/-
  stream.head: how a stream begins.
-/
import Derived.Test.YtdglkjpdhnnpnaaStrEnc
namespace Go.Proofs.Ytdglkjpdhnnpnaa
open Go Go.RowKit

theorem exec_add1 {P : Program} {w : World} {o : Oper} {a : Act} (t t' : TypeId) (x : Operand) (ho : o.op = .binOp .add t x (.const (.int .i64 1)) t') (m : Int) (hx : a.eval x = .int .i64 m) (h1 : -9223372036854775808 ≤ m + 1) (h2 : m + 1 ≤ 9223372036854775807) :
    (execOp a.eval o).run P w = .ok (.value (.int .i64 (m + 1))) w := by
  have hw : IntKind.i64.wrap (m + 1) = m + 1 := by
    rw [IntKind.wrap_i64]
    omega
  simp only [execOp, ho, hx]
  show Result.ok (Next.value (.int .i64 (IntKind.i64.wrap (m + 1)))) w = _
  rw [hw]
theorem wrap_u {x : Int} (h1 : 0 ≤ x) (h2 : x ≤ 18446744073709551615) : IntKind.u64.wrap x = ((u x).toNat : Int) := by
  unfold u
  rw [IntKind.wrap_u64, UInt64.toNat_ofNat']
  omega
theorem concat_b {w w1 : World} (A : Option Addr) (cap n : Nat) (l : List (List UInt8)) (hn : l.length = n) (hlen : l.flatten.length ≤ 1000000) (hll : n ≤ 1000000) (h1 : Below w.heap.size w w1) (hp : PartsAt w1 w1.heap.size A l) :
    Calls Try.prog 30 #[.slice A n cap] w1 fun e w' => ∃ zs A' c, e = .returned (.slice A' zs.length c) ∧ Hid (zs = l.flatten) ∧ OwnB w' w.heap.size 5 A' c zs ∧ Below w.heap.size w w' := by
  subst hn
  refine (concat_calls A cap l (by omega) w1 hp (by omega)).mono ?_
  rintro e w' ⟨⟨zs, A', c, rfl, hz, hown⟩, hB⟩
  exact ⟨zs, A', c, rfl, Lib.hid hz, hown.mono h1.size, bthen h1 hB⟩

theorem exec_conv {P : Program} {w w1 : World} {o : Oper} {a : Act} (t t' : TypeId) (x : Operand) (ho : o.op = .convert t t' x) (v u : Value) (hx : a.eval x = v) (hr : (convert t t' v).run P w = .ok u w1) :
    (execOp a.eval o).run P w = .ok (.value u) w1 := by
  simp [execOp, ho, hx, hr]
/-- A literal's row that is marked as read only: no cell turns. -/
theorem mark_row {P : Program} {W0 w : World} {t e : TypeId} {g : Nat} {cs : List Value} (h : RowAt w g e cs) (n c : Nat) (ht : P.underlying t = some (.slice e)) (he : P.underlying e = some (.int .u8)) (d : Since W0 w) (hg : W0.heap.size ≤ g) :
    ∃ w', (convert t t (.slice (some ⟨g, 0, none⟩) n c)).run P w = .ok (.slice (some ⟨g, 0, none⟩) n c) w' ∧ (∀ p : Addr, w'.cell? p = w.cell? p) ∧ w'.heap.size = w.heap.size ∧ Since W0 w' := by
  have hh : w.heap[g]? = some (.cells cs.toArray e (0, 0)) := h
  have hsh : w.shape? g = some (e, cs.length) := by
    unfold World.shape?
    rw [hh]
    simp
  refine ⟨w.freeze ⟨g, cs.length, none⟩ 1, ?_, ?_, ?_, ?_⟩
  · simp [convert, run_underlying ht, run_underlying he, markStringish, hsh]
  · intro p
    unfold World.freeze World.cell?
    rw [if_neg (by decide)]
    by_cases hp : p.block = g
    · subst hp
      obtain ⟨hl, hv⟩ := Array.getElem?_eq_some_iff.1 hh
      rw [hh]
      simp [Array.getElem?_modify, hh]
    · simp [Array.getElem?_modify, Ne.symm hp]
  · unfold World.freeze
    rw [if_neg (by decide)]
    simp
  · refine Below.grown (row := some g) d ⟨?_, ?_, ?_, ?_, ?_⟩ d.size (fun k e => by cases e; exact hg)
    · unfold World.freeze; rw [if_neg (by decide)]
    · unfold World.freeze; rw [if_neg (by decide)]
    · unfold World.freeze; rw [if_neg (by decide)]
    · unfold World.freeze
      rw [if_neg (by decide)]
      simp
    · intro k _ hk
      unfold World.freeze
      rw [if_neg (by decide)]
      simp [Array.getElem?_modify, show g ≠ k from fun e => hk (by rw [e])]
theorem BytesAt.marked {w w' : World} {A : Option Addr} {bs : List UInt8} (h : BytesAt w w.heap.size A bs) (hk : ∀ p : Addr, w'.cell? p = w.cell? p) (hz : w'.heap.size = w.heap.size) : BytesAt w' w'.heap.size A bs :=
  (h.keep fun p _ => hk p).more (by rw [hz]; exact Nat.le_refl _)

/-- The parts of a head. -/
def headP (s : Str) : List (List UInt8) := [[0x52, 0x56, 0x53, 0x31], bytesN (u s.blocks) 2, bytesN (u (s.base + 1)) 4, bytesN (u s.id) 4, bytesN (u s.recs.length) 2]
theorem headP_flat (s : Str) : (headP s).flatten = headL s := by simp [headP, headL]
theorem headP_len (s : Str) : (headP s).flatten.length = 16 := by rw [headP_flat, headL_length]
theorem headP_at (s : Str) (W : World) (A0 A1 A2 A3 A4 : Option Addr) (k0 k1 k2 k3 k4 : Nat) (h0 : BytesAt W W.heap.size A0 [0x52, 0x56, 0x53, 0x31]) (h1 : BytesAt W W.heap.size A1 (bytesN (u s.blocks) 2)) (h2 : BytesAt W W.heap.size A2 (bytesN (u (s.base + 1)) 4))
    (h3 : BytesAt W W.heap.size A3 (bytesN (u s.id) 4)) (h4 : BytesAt W W.heap.size A4 (bytesN (u s.recs.length) 2)) :
    ∃ W', W' = W.alloc (.cells #[.slice A0 4 k0, .slice A1 2 k1, .slice A2 4 k2, .slice A3 4 k3, .slice A4 2 k4] 25) ∧ PartsAt W' W'.heap.size (some ⟨W.heap.size, 0, none⟩) (headP s) ∧ Below W.heap.size W W' := by
  refine ⟨_, rfl, lit_parts W 25 [(A0, 4, k0, [0x52, 0x56, 0x53, 0x31]), (A1, 2, k1, bytesN (u s.blocks) 2), (A2, 4, k2, bytesN (u (s.base + 1)) 4), (A3, 4, k3, bytesN (u s.id) 4), (A4, 2, k4, bytesN (u s.recs.length) 2)] ?_, alloc_below W _⟩
  intro x hx
  simp only [List.mem_cons, List.not_mem_nil, or_false] at hx
  rcases hx with rfl | rfl | rfl | rfl | rfl
  · exact ⟨h0, rfl⟩
  · exact ⟨h1, bytesN_length _ _⟩
  · exact ⟨h2, bytesN_length _ _⟩
  · exact ⟨h3, bytesN_length _ _⟩
  · exact ⟨h4, bytesN_length _ _⟩

set_option maxRecDepth 100000 in
set_option maxHeartbeats 4000000 in
theorem head_calls (s : Str) (w : World) (hb1 : 1 ≤ s.blocks) (hb2 : s.blocks ≤ 64) (ha1 : -1 ≤ s.base) (ha2 : s.base ≤ 1000000) (hi1 : 1 ≤ s.id) (hi2 : s.id ≤ 1000000) (hr : s.recs.length ≤ 64) :
    Calls Try.prog 48 #[.agg s.val.toArray] w fun e w' => ∃ zs A c, e = .returned (.slice A zs.length c) ∧ Hid (zs = headE s) ∧ OwnB w' w.heap.size 5 A c zs ∧ Below w.heap.size w w' := by
  have c1 := Lib.hid (put_b (IntKind.u64.wrap s.blocks) (u s.blocks) 2 (wrap_u (by omega) (by omega)) (by omega) (by omega))
  have c2 := Lib.hid (put_b (IntKind.u64.wrap (s.base + 1)) (u (s.base + 1)) 4 (wrap_u (by omega) (by omega)) (by omega) (by omega))
  have c3 := Lib.hid (put_b (IntKind.u64.wrap s.id) (u s.id) 4 (wrap_u (by omega) (by omega)) (by omega) (by omega))
  have c4 := Lib.hid (put_b (IntKind.u64.wrap (s.recs.length : Nat)) (u (s.recs.length : Nat)) 2 (wrap_u (by omega) (by omega)) (by omega) (by omega))
  have ha3 : -9223372036854775808 ≤ s.base + 1 := by omega
  have ha4 : s.base + 1 ≤ 9223372036854775807 := by omega
  have hhp := Lib.hid (headP_at s)
  have hlf := Lib.hid (headP_len s)
  have hfl := Lib.hid (headP_flat s)
  clear hb1 hb2 ha1 ha2 hi1 hi2 hr
  unfold Str.val at *
  go_enter Try.func48, Try.ntmps48
  go_upto_region 1 with (refine wpList_box_row 1 rfl 24 _ rfl [.int .i64 s.blocks, .int .i64 s.base, .int .i64 s.id, .slice s.A s.recs.length s.cap] rfl rfl ?_; intro w1 hrs hs1 hB1; clear hs1)
  have d0 : Since w1 w1.drew := (Since.refl w1).drew
  refine wp_region_H (Since w1) 24 rfl (by kernel_rfl) ?_
  -- <held1
  refine wh_take 2 (.pointer (some ⟨w.heap.size, 0, none⟩)) rfl (by kernel_rfl) (by kernel_rfl) (fun _ _ _ h => h) (by kernel_rfl) (fun _ _ => by kernel_rfl) ?_
  refine wh_take 3 (.int .i64 s.blocks) rfl (by kernel_rfl) (by kernel_rfl) (fun _ _ _ h => h) (by kernel_rfl) (fun W h => exec_load_cell 3 (.tmp 5) rfl ⟨w.heap.size, 0, none⟩ _ (by kernel_rfl) ((hrs.step h).cellD 0 _ rfl) Try.isAgg3) ?_
  refine wh_take 4 (.int .u64 (IntKind.u64.wrap s.blocks)) rfl (by kernel_rfl) (by kernel_rfl) (fun _ _ _ h => h) (by kernel_rfl) (fun _ _ => by kernel_rfl) ?_
  refine wh_take 6 (.pointer (some ⟨w.heap.size, 1, none⟩)) rfl (by kernel_rfl) (by kernel_rfl) (fun _ _ _ h => h) (by kernel_rfl) (fun _ _ => by kernel_rfl) ?_
  refine wh_take 7 (.int .i64 s.base) rfl (by kernel_rfl) (by kernel_rfl) (fun _ _ _ h => h) (by kernel_rfl) (fun W h => exec_load_cell 3 (.tmp 9) rfl ⟨w.heap.size, 1, none⟩ _ (by kernel_rfl) ((hrs.step h).cellD 1 _ rfl) Try.isAgg3) ?_
  refine wh_take 8 (.int .i64 (s.base + 1)) rfl (by kernel_rfl) (by kernel_rfl) (fun _ _ _ h => h) (by kernel_rfl) (fun _ _ => exec_add1 3 3 (.tmp 10) rfl s.base (by kernel_rfl) ha3 ha4) ?_
  refine wh_take 9 (.int .u64 (IntKind.u64.wrap (s.base + 1))) rfl (by kernel_rfl) (by kernel_rfl) (fun _ _ _ h => h) (by kernel_rfl) (fun _ _ => by kernel_rfl) ?_
  refine wh_take 11 (.pointer (some ⟨w.heap.size, 2, none⟩)) rfl (by kernel_rfl) (by kernel_rfl) (fun _ _ _ h => h) (by kernel_rfl) (fun _ _ => by kernel_rfl) ?_
  refine wh_take 12 (.int .i64 s.id) rfl (by kernel_rfl) (by kernel_rfl) (fun _ _ _ h => h) (by kernel_rfl) (fun W h => exec_load_cell 3 (.tmp 14) rfl ⟨w.heap.size, 2, none⟩ _ (by kernel_rfl) ((hrs.step h).cellD 2 _ rfl) Try.isAgg3) ?_
  refine wh_take 13 (.int .u64 (IntKind.u64.wrap s.id)) rfl (by kernel_rfl) (by kernel_rfl) (fun _ _ _ h => h) (by kernel_rfl) (fun _ _ => by kernel_rfl) ?_
  refine wh_take 15 (.pointer (some ⟨w.heap.size, 3, none⟩)) rfl (by kernel_rfl) (by kernel_rfl) (fun _ _ _ h => h) (by kernel_rfl) (fun _ _ => by kernel_rfl) ?_
  refine wh_take 16 (.slice s.A s.recs.length s.cap) rfl (by kernel_rfl) (by kernel_rfl) (fun _ _ _ h => h) (by kernel_rfl) (fun W h => exec_load_cell 22 (.tmp 18) rfl ⟨w.heap.size, 3, none⟩ _ (by kernel_rfl) ((hrs.step h).cellD 3 _ rfl) Try.isAgg22) ?_
  refine wh_take 17 (.int .i64 (s.recs.length : Nat)) rfl (by kernel_rfl) (by kernel_rfl) (fun _ _ _ h => h) (by kernel_rfl) (fun _ _ => by kernel_rfl) ?_
  refine wh_take 18 (.int .u64 (IntKind.u64.wrap (s.recs.length : Nat))) rfl (by kernel_rfl) (by kernel_rfl) (fun _ _ _ h => h) (by kernel_rfl) (fun _ _ => by kernel_rfl) ?_
  refine wh_two 0 5 (by kernel_rfl) d0 ?_ ?_
  · obtain ⟨W1, hw1, gz, gl, hb1⟩ := lit_row w1.drew 5 [.int .u8 82, .int .u8 86, .int .u8 83, .int .u8 49] [0x52, 0x56, 0x53, 0x31] rfl
    refine wo_run 0 (v := .slice (some ⟨w1.drew.heap.size, 0, none⟩) 4 4) (w' := W1) rfl (by kernel_rfl) (by rw [hw1]; kernel_rfl) ?_
    have d1 := d0.then_ hb1
    refine wh_two 1 5 (by kernel_rfl) d1 ?_ ?_
    · obtain ⟨W2, hw2, hk2, hz2, d2⟩ := mark_row (P := Try.prog) (W0 := w1) gz 4 4 Try.underlying25 Try.underlying5 d1 d0.size
      refine wo_run 1 (v := .slice (some ⟨w1.drew.heap.size, 0, none⟩) 4 4) (w' := W2) rfl (by kernel_rfl) (exec_conv 25 25 (.tmp 3) rfl _ _ (by kernel_rfl) hw2) ?_
      have fl_2 := gl.marked hk2 hz2
      refine wh_call 5 31 #[.int .u64 (IntKind.u64.wrap s.blocks), .int .i64 2] rfl (by kernel_rfl) (by kernel_rfl) d2 (fun _ => by kernel_rfl) ?_
      refine (c1.out _).mono ?_
      rintro e W3 ⟨Ap, cp, rfl, gp, hb3⟩
      have d3 := d2.then_ hb3
      have fl_3 := fl_2.step hb3
      refine ⟨_, rfl, ?_⟩
      refine wh_call 10 31 #[.int .u64 (IntKind.u64.wrap (s.base + 1)), .int .i64 4] rfl (by kernel_rfl) (by kernel_rfl) d3 (fun _ => by kernel_rfl) ?_
      refine (c2.out _).mono ?_
      rintro e W4 ⟨Aq, cq, rfl, gq, hb4⟩
      have d4 := d3.then_ hb4
      have fl_4 := fl_3.step hb4
      have fp_4 := gp.step hb4
      refine ⟨_, rfl, ?_⟩
      refine wh_call 14 31 #[.int .u64 (IntKind.u64.wrap s.id), .int .i64 4] rfl (by kernel_rfl) (by kernel_rfl) d4 (fun _ => by kernel_rfl) ?_
      refine (c3.out _).mono ?_
      rintro e W5 ⟨Ar, cr, rfl, gr, hb5⟩
      have d5 := d4.then_ hb5
      have fl_5 := fl_4.step hb5
      have fp_5 := fp_4.step hb5
      have fq_5 := gq.step hb5
      refine ⟨_, rfl, ?_⟩
      refine wh_call 19 31 #[.int .u64 (IntKind.u64.wrap (s.recs.length : Nat)), .int .i64 2] rfl (by kernel_rfl) (by kernel_rfl) d5 (fun _ => by kernel_rfl) ?_
      refine (c4.out _).mono ?_
      rintro e W6 ⟨At, ct, rfl, gt, hb6⟩
      have d6 := d5.then_ hb6
      have fl_6 := fl_5.step hb6
      have fp_6 := fp_5.step hb6
      have fq_6 := fq_5.step hb6
      have fr_6 := gr.step hb6
      refine ⟨_, rfl, ?_⟩
      obtain ⟨W7, hw7, hpt, hb7⟩ := hhp.out W6 _ _ _ _ _ 4 cp cq cr ct fl_6 fp_6 fq_6 fr_6 gt
      refine wh_run 20 (v := .slice (some ⟨W6.heap.size, 0, none⟩) 5 5) (w' := W7) rfl (by kernel_rfl) (by kernel_rfl) d6 (by rw [hw7]; kernel_rfl) ?_
      have d7 := d6.then_ hb7
      refine wh_call 21 30 #[.slice (some ⟨W6.heap.size, 0, none⟩) 5 5] rfl (by kernel_rfl) (by kernel_rfl) d7 (fun _ => by kernel_rfl) ?_
      refine (concat_b (w := w1) _ 5 5 (headP s) rfl (by rw [hlf.out]; decide) (by decide) d7 hpt).mono ?_
      rintro e W8 ⟨zs, Az, cz, rfl, hzs, hown, hbz⟩
      have d8 : Since w1 W8 := hbz
      rw [hfl.out] at hzs
      refine ⟨_, rfl, ?_⟩
      refine wh_call 22 49 #[.slice Az zs.length cz] rfl (by kernel_rfl) (by kernel_rfl) d8 (fun _ => by kernel_rfl) ?_
      refine (checked_calls Az cz zs.length zs rfl (by rw [hzs.out, headL_length]; decide) w1.heap.size _ hbz.size hown).mono ?_
      rintro e W9 ⟨ys, Ay, cy, rfl, hys, howny, hby⟩
      rw [hzs.out] at hys
      have d9 : Since w1 W9 := hbz.trans hby
      refine ⟨_, rfl, ?_⟩
      refine wh_take 23 (.slice Ay ys.length cy) rfl (by kernel_rfl) (by kernel_rfl) (fun _ _ _ h => h) (by kernel_rfl) (fun _ _ => by kernel_rfl) ?_
      refine wh_done (by kernel_rfl) d9 ?_
      simp only [Act.put, List.setIfInBounds_toArray, List.set_cons_zero, List.set_cons_succ]
      go_wp2_with fail
      go_ret
      exact ⟨ys, Ay, cy, rfl, hys, howny.mono hB1.size, bthen hB1 d9⟩
    · refine wo_call 5 31 #[.int .u64 (IntKind.u64.wrap s.blocks), .int .i64 2] rfl (by kernel_rfl) (fun _ => by kernel_rfl) ?_
      refine (c1.out _).mono ?_
      rintro e W2 ⟨Ap, cp, rfl, gp, hb2⟩
      have d2 := d1.then_ hb2
      have fl_2 := gl.step hb2
      have fz_2 := gz.step hb2
      refine ⟨_, rfl, ?_⟩
      refine wh_two 1 10 (by kernel_rfl) d2 ?_ ?_
      · obtain ⟨W3, hw3, hk3, hz3, d3⟩ := mark_row (P := Try.prog) (W0 := w1) fz_2 4 4 Try.underlying25 Try.underlying5 d2 d0.size
        refine wo_run 1 (v := .slice (some ⟨w1.drew.heap.size, 0, none⟩) 4 4) (w' := W3) rfl (by kernel_rfl) (exec_conv 25 25 (.tmp 3) rfl _ _ (by kernel_rfl) hw3) ?_
        have fl_3 := fl_2.marked hk3 hz3
        have fp_3 := gp.marked hk3 hz3
        refine wh_call 10 31 #[.int .u64 (IntKind.u64.wrap (s.base + 1)), .int .i64 4] rfl (by kernel_rfl) (by kernel_rfl) d3 (fun _ => by kernel_rfl) ?_
        refine (c2.out _).mono ?_
        rintro e W4 ⟨Aq, cq, rfl, gq, hb4⟩
        have d4 := d3.then_ hb4
        have fl_4 := fl_3.step hb4
        have fp_4 := fp_3.step hb4
        refine ⟨_, rfl, ?_⟩
        refine wh_call 14 31 #[.int .u64 (IntKind.u64.wrap s.id), .int .i64 4] rfl (by kernel_rfl) (by kernel_rfl) d4 (fun _ => by kernel_rfl) ?_
        refine (c3.out _).mono ?_
        rintro e W5 ⟨Ar, cr, rfl, gr, hb5⟩
        have d5 := d4.then_ hb5
        have fl_5 := fl_4.step hb5
        have fp_5 := fp_4.step hb5
        have fq_5 := gq.step hb5
        refine ⟨_, rfl, ?_⟩
        refine wh_call 19 31 #[.int .u64 (IntKind.u64.wrap (s.recs.length : Nat)), .int .i64 2] rfl (by kernel_rfl) (by kernel_rfl) d5 (fun _ => by kernel_rfl) ?_
        refine (c4.out _).mono ?_
        rintro e W6 ⟨At, ct, rfl, gt, hb6⟩
        have d6 := d5.then_ hb6
        have fl_6 := fl_5.step hb6
        have fp_6 := fp_5.step hb6
        have fq_6 := fq_5.step hb6
        have fr_6 := gr.step hb6
        refine ⟨_, rfl, ?_⟩
        obtain ⟨W7, hw7, hpt, hb7⟩ := hhp.out W6 _ _ _ _ _ 4 cp cq cr ct fl_6 fp_6 fq_6 fr_6 gt
        refine wh_run 20 (v := .slice (some ⟨W6.heap.size, 0, none⟩) 5 5) (w' := W7) rfl (by kernel_rfl) (by kernel_rfl) d6 (by rw [hw7]; kernel_rfl) ?_
        have d7 := d6.then_ hb7
        refine wh_call 21 30 #[.slice (some ⟨W6.heap.size, 0, none⟩) 5 5] rfl (by kernel_rfl) (by kernel_rfl) d7 (fun _ => by kernel_rfl) ?_
        refine (concat_b (w := w1) _ 5 5 (headP s) rfl (by rw [hlf.out]; decide) (by decide) d7 hpt).mono ?_
        rintro e W8 ⟨zs, Az, cz, rfl, hzs, hown, hbz⟩
        have d8 : Since w1 W8 := hbz
        rw [hfl.out] at hzs
        refine ⟨_, rfl, ?_⟩
        refine wh_call 22 49 #[.slice Az zs.length cz] rfl (by kernel_rfl) (by kernel_rfl) d8 (fun _ => by kernel_rfl) ?_
        refine (checked_calls Az cz zs.length zs rfl (by rw [hzs.out, headL_length]; decide) w1.heap.size _ hbz.size hown).mono ?_
        rintro e W9 ⟨ys, Ay, cy, rfl, hys, howny, hby⟩
        rw [hzs.out] at hys
        have d9 : Since w1 W9 := hbz.trans hby
        refine ⟨_, rfl, ?_⟩
        refine wh_take 23 (.slice Ay ys.length cy) rfl (by kernel_rfl) (by kernel_rfl) (fun _ _ _ h => h) (by kernel_rfl) (fun _ _ => by kernel_rfl) ?_
        refine wh_done (by kernel_rfl) d9 ?_
        simp only [Act.put, List.setIfInBounds_toArray, List.set_cons_zero, List.set_cons_succ]
        go_wp2_with fail
        go_ret
        exact ⟨ys, Ay, cy, rfl, hys, howny.mono hB1.size, bthen hB1 d9⟩
      · refine wo_call 10 31 #[.int .u64 (IntKind.u64.wrap (s.base + 1)), .int .i64 4] rfl (by kernel_rfl) (fun _ => by kernel_rfl) ?_
        refine (c2.out _).mono ?_
        rintro e W3 ⟨Aq, cq, rfl, gq, hb3⟩
        have d3 := d2.then_ hb3
        have fl_3 := fl_2.step hb3
        have fz_3 := fz_2.step hb3
        have fp_3 := gp.step hb3
        refine ⟨_, rfl, ?_⟩
        refine wh_two 1 14 (by kernel_rfl) d3 ?_ ?_
        · obtain ⟨W4, hw4, hk4, hz4, d4⟩ := mark_row (P := Try.prog) (W0 := w1) fz_3 4 4 Try.underlying25 Try.underlying5 d3 d0.size
          refine wo_run 1 (v := .slice (some ⟨w1.drew.heap.size, 0, none⟩) 4 4) (w' := W4) rfl (by kernel_rfl) (exec_conv 25 25 (.tmp 3) rfl _ _ (by kernel_rfl) hw4) ?_
          have fl_4 := fl_3.marked hk4 hz4
          have fp_4 := fp_3.marked hk4 hz4
          have fq_4 := gq.marked hk4 hz4
          refine wh_call 14 31 #[.int .u64 (IntKind.u64.wrap s.id), .int .i64 4] rfl (by kernel_rfl) (by kernel_rfl) d4 (fun _ => by kernel_rfl) ?_
          refine (c3.out _).mono ?_
          rintro e W5 ⟨Ar, cr, rfl, gr, hb5⟩
          have d5 := d4.then_ hb5
          have fl_5 := fl_4.step hb5
          have fp_5 := fp_4.step hb5
          have fq_5 := fq_4.step hb5
          refine ⟨_, rfl, ?_⟩
          refine wh_call 19 31 #[.int .u64 (IntKind.u64.wrap (s.recs.length : Nat)), .int .i64 2] rfl (by kernel_rfl) (by kernel_rfl) d5 (fun _ => by kernel_rfl) ?_
          refine (c4.out _).mono ?_
          rintro e W6 ⟨At, ct, rfl, gt, hb6⟩
          have d6 := d5.then_ hb6
          have fl_6 := fl_5.step hb6
          have fp_6 := fp_5.step hb6
          have fq_6 := fq_5.step hb6
          have fr_6 := gr.step hb6
          refine ⟨_, rfl, ?_⟩
          obtain ⟨W7, hw7, hpt, hb7⟩ := hhp.out W6 _ _ _ _ _ 4 cp cq cr ct fl_6 fp_6 fq_6 fr_6 gt
          refine wh_run 20 (v := .slice (some ⟨W6.heap.size, 0, none⟩) 5 5) (w' := W7) rfl (by kernel_rfl) (by kernel_rfl) d6 (by rw [hw7]; kernel_rfl) ?_
          have d7 := d6.then_ hb7
          refine wh_call 21 30 #[.slice (some ⟨W6.heap.size, 0, none⟩) 5 5] rfl (by kernel_rfl) (by kernel_rfl) d7 (fun _ => by kernel_rfl) ?_
          refine (concat_b (w := w1) _ 5 5 (headP s) rfl (by rw [hlf.out]; decide) (by decide) d7 hpt).mono ?_
          rintro e W8 ⟨zs, Az, cz, rfl, hzs, hown, hbz⟩
          have d8 : Since w1 W8 := hbz
          rw [hfl.out] at hzs
          refine ⟨_, rfl, ?_⟩
          refine wh_call 22 49 #[.slice Az zs.length cz] rfl (by kernel_rfl) (by kernel_rfl) d8 (fun _ => by kernel_rfl) ?_
          refine (checked_calls Az cz zs.length zs rfl (by rw [hzs.out, headL_length]; decide) w1.heap.size _ hbz.size hown).mono ?_
          rintro e W9 ⟨ys, Ay, cy, rfl, hys, howny, hby⟩
          rw [hzs.out] at hys
          have d9 : Since w1 W9 := hbz.trans hby
          refine ⟨_, rfl, ?_⟩
          refine wh_take 23 (.slice Ay ys.length cy) rfl (by kernel_rfl) (by kernel_rfl) (fun _ _ _ h => h) (by kernel_rfl) (fun _ _ => by kernel_rfl) ?_
          refine wh_done (by kernel_rfl) d9 ?_
          simp only [Act.put, List.setIfInBounds_toArray, List.set_cons_zero, List.set_cons_succ]
          go_wp2_with fail
          go_ret
          exact ⟨ys, Ay, cy, rfl, hys, howny.mono hB1.size, bthen hB1 d9⟩
        · refine wo_call 14 31 #[.int .u64 (IntKind.u64.wrap s.id), .int .i64 4] rfl (by kernel_rfl) (fun _ => by kernel_rfl) ?_
          refine (c3.out _).mono ?_
          rintro e W4 ⟨Ar, cr, rfl, gr, hb4⟩
          have d4 := d3.then_ hb4
          have fl_4 := fl_3.step hb4
          have fz_4 := fz_3.step hb4
          have fp_4 := fp_3.step hb4
          have fq_4 := gq.step hb4
          refine ⟨_, rfl, ?_⟩
          refine wh_two 1 19 (by kernel_rfl) d4 ?_ ?_
          · obtain ⟨W5, hw5, hk5, hz5, d5⟩ := mark_row (P := Try.prog) (W0 := w1) fz_4 4 4 Try.underlying25 Try.underlying5 d4 d0.size
            refine wo_run 1 (v := .slice (some ⟨w1.drew.heap.size, 0, none⟩) 4 4) (w' := W5) rfl (by kernel_rfl) (exec_conv 25 25 (.tmp 3) rfl _ _ (by kernel_rfl) hw5) ?_
            have fl_5 := fl_4.marked hk5 hz5
            have fp_5 := fp_4.marked hk5 hz5
            have fq_5 := fq_4.marked hk5 hz5
            have fr_5 := gr.marked hk5 hz5
            refine wh_call 19 31 #[.int .u64 (IntKind.u64.wrap (s.recs.length : Nat)), .int .i64 2] rfl (by kernel_rfl) (by kernel_rfl) d5 (fun _ => by kernel_rfl) ?_
            refine (c4.out _).mono ?_
            rintro e W6 ⟨At, ct, rfl, gt, hb6⟩
            have d6 := d5.then_ hb6
            have fl_6 := fl_5.step hb6
            have fp_6 := fp_5.step hb6
            have fq_6 := fq_5.step hb6
            have fr_6 := fr_5.step hb6
            refine ⟨_, rfl, ?_⟩
            obtain ⟨W7, hw7, hpt, hb7⟩ := hhp.out W6 _ _ _ _ _ 4 cp cq cr ct fl_6 fp_6 fq_6 fr_6 gt
            refine wh_run 20 (v := .slice (some ⟨W6.heap.size, 0, none⟩) 5 5) (w' := W7) rfl (by kernel_rfl) (by kernel_rfl) d6 (by rw [hw7]; kernel_rfl) ?_
            have d7 := d6.then_ hb7
            refine wh_call 21 30 #[.slice (some ⟨W6.heap.size, 0, none⟩) 5 5] rfl (by kernel_rfl) (by kernel_rfl) d7 (fun _ => by kernel_rfl) ?_
            refine (concat_b (w := w1) _ 5 5 (headP s) rfl (by rw [hlf.out]; decide) (by decide) d7 hpt).mono ?_
            rintro e W8 ⟨zs, Az, cz, rfl, hzs, hown, hbz⟩
            have d8 : Since w1 W8 := hbz
            rw [hfl.out] at hzs
            refine ⟨_, rfl, ?_⟩
            refine wh_call 22 49 #[.slice Az zs.length cz] rfl (by kernel_rfl) (by kernel_rfl) d8 (fun _ => by kernel_rfl) ?_
            refine (checked_calls Az cz zs.length zs rfl (by rw [hzs.out, headL_length]; decide) w1.heap.size _ hbz.size hown).mono ?_
            rintro e W9 ⟨ys, Ay, cy, rfl, hys, howny, hby⟩
            rw [hzs.out] at hys
            have d9 : Since w1 W9 := hbz.trans hby
            refine ⟨_, rfl, ?_⟩
            refine wh_take 23 (.slice Ay ys.length cy) rfl (by kernel_rfl) (by kernel_rfl) (fun _ _ _ h => h) (by kernel_rfl) (fun _ _ => by kernel_rfl) ?_
            refine wh_done (by kernel_rfl) d9 ?_
            simp only [Act.put, List.setIfInBounds_toArray, List.set_cons_zero, List.set_cons_succ]
            go_wp2_with fail
            go_ret
            exact ⟨ys, Ay, cy, rfl, hys, howny.mono hB1.size, bthen hB1 d9⟩
          · refine wo_call 19 31 #[.int .u64 (IntKind.u64.wrap (s.recs.length : Nat)), .int .i64 2] rfl (by kernel_rfl) (fun _ => by kernel_rfl) ?_
            refine (c4.out _).mono ?_
            rintro e W5 ⟨At, ct, rfl, gt, hb5⟩
            have d5 := d4.then_ hb5
            have fl_5 := fl_4.step hb5
            have fz_5 := fz_4.step hb5
            have fp_5 := fp_4.step hb5
            have fq_5 := fq_4.step hb5
            have fr_5 := gr.step hb5
            refine ⟨_, rfl, ?_⟩
            obtain ⟨W6, hw6, hk6, hz6, d6⟩ := mark_row (P := Try.prog) (W0 := w1) fz_5 4 4 Try.underlying25 Try.underlying5 d5 d0.size
            refine wh_run 1 (v := .slice (some ⟨w1.drew.heap.size, 0, none⟩) 4 4) (w' := W6) rfl (by kernel_rfl) (by kernel_rfl) d5 (exec_conv 25 25 (.tmp 3) rfl _ _ (by kernel_rfl) hw6) ?_
            have fl_6 := fl_5.marked hk6 hz6
            have fp_6 := fp_5.marked hk6 hz6
            have fq_6 := fq_5.marked hk6 hz6
            have fr_6 := fr_5.marked hk6 hz6
            have ft_6 := gt.marked hk6 hz6
            obtain ⟨W7, hw7, hpt, hb7⟩ := hhp.out W6 _ _ _ _ _ 4 cp cq cr ct fl_6 fp_6 fq_6 fr_6 ft_6
            refine wh_run 20 (v := .slice (some ⟨W6.heap.size, 0, none⟩) 5 5) (w' := W7) rfl (by kernel_rfl) (by kernel_rfl) d6 (by rw [hw7]; kernel_rfl) ?_
            have d7 := d6.then_ hb7
            refine wh_call 21 30 #[.slice (some ⟨W6.heap.size, 0, none⟩) 5 5] rfl (by kernel_rfl) (by kernel_rfl) d7 (fun _ => by kernel_rfl) ?_
            refine (concat_b (w := w1) _ 5 5 (headP s) rfl (by rw [hlf.out]; decide) (by decide) d7 hpt).mono ?_
            rintro e W8 ⟨zs, Az, cz, rfl, hzs, hown, hbz⟩
            have d8 : Since w1 W8 := hbz
            rw [hfl.out] at hzs
            refine ⟨_, rfl, ?_⟩
            refine wh_call 22 49 #[.slice Az zs.length cz] rfl (by kernel_rfl) (by kernel_rfl) d8 (fun _ => by kernel_rfl) ?_
            refine (checked_calls Az cz zs.length zs rfl (by rw [hzs.out, headL_length]; decide) w1.heap.size _ hbz.size hown).mono ?_
            rintro e W9 ⟨ys, Ay, cy, rfl, hys, howny, hby⟩
            rw [hzs.out] at hys
            have d9 : Since w1 W9 := hbz.trans hby
            refine ⟨_, rfl, ?_⟩
            refine wh_take 23 (.slice Ay ys.length cy) rfl (by kernel_rfl) (by kernel_rfl) (fun _ _ _ h => h) (by kernel_rfl) (fun _ _ => by kernel_rfl) ?_
            refine wh_done (by kernel_rfl) d9 ?_
            simp only [Act.put, List.setIfInBounds_toArray, List.set_cons_zero, List.set_cons_succ]
            go_wp2_with fail
            go_ret
            exact ⟨ys, Ay, cy, rfl, hys, howny.mono hB1.size, bthen hB1 d9⟩
  · refine wo_call 5 31 #[.int .u64 (IntKind.u64.wrap s.blocks), .int .i64 2] rfl (by kernel_rfl) (fun _ => by kernel_rfl) ?_
    refine (c1.out _).mono ?_
    rintro e W1 ⟨Ap, cp, rfl, gp, hb1⟩
    have d1 := d0.then_ hb1
    refine ⟨_, rfl, ?_⟩
    refine wh_two 0 10 (by kernel_rfl) d1 ?_ ?_
    · obtain ⟨W2, hw2, gz, gl, hb2⟩ := lit_row W1 5 [.int .u8 82, .int .u8 86, .int .u8 83, .int .u8 49] [0x52, 0x56, 0x53, 0x31] rfl
      refine wo_run 0 (v := .slice (some ⟨W1.heap.size, 0, none⟩) 4 4) (w' := W2) rfl (by kernel_rfl) (by rw [hw2]; kernel_rfl) ?_
      have d2 := d1.then_ hb2
      have fp_2 := gp.step hb2
      refine wh_two 1 10 (by kernel_rfl) d2 ?_ ?_
      · obtain ⟨W3, hw3, hk3, hz3, d3⟩ := mark_row (P := Try.prog) (W0 := w1) gz 4 4 Try.underlying25 Try.underlying5 d2 d1.size
        refine wo_run 1 (v := .slice (some ⟨W1.heap.size, 0, none⟩) 4 4) (w' := W3) rfl (by kernel_rfl) (exec_conv 25 25 (.tmp 3) rfl _ _ (by kernel_rfl) hw3) ?_
        have fp_3 := fp_2.marked hk3 hz3
        have fl_3 := gl.marked hk3 hz3
        refine wh_call 10 31 #[.int .u64 (IntKind.u64.wrap (s.base + 1)), .int .i64 4] rfl (by kernel_rfl) (by kernel_rfl) d3 (fun _ => by kernel_rfl) ?_
        refine (c2.out _).mono ?_
        rintro e W4 ⟨Aq, cq, rfl, gq, hb4⟩
        have d4 := d3.then_ hb4
        have fp_4 := fp_3.step hb4
        have fl_4 := fl_3.step hb4
        refine ⟨_, rfl, ?_⟩
        refine wh_call 14 31 #[.int .u64 (IntKind.u64.wrap s.id), .int .i64 4] rfl (by kernel_rfl) (by kernel_rfl) d4 (fun _ => by kernel_rfl) ?_
        refine (c3.out _).mono ?_
        rintro e W5 ⟨Ar, cr, rfl, gr, hb5⟩
        have d5 := d4.then_ hb5
        have fp_5 := fp_4.step hb5
        have fl_5 := fl_4.step hb5
        have fq_5 := gq.step hb5
        refine ⟨_, rfl, ?_⟩
        refine wh_call 19 31 #[.int .u64 (IntKind.u64.wrap (s.recs.length : Nat)), .int .i64 2] rfl (by kernel_rfl) (by kernel_rfl) d5 (fun _ => by kernel_rfl) ?_
        refine (c4.out _).mono ?_
        rintro e W6 ⟨At, ct, rfl, gt, hb6⟩
        have d6 := d5.then_ hb6
        have fp_6 := fp_5.step hb6
        have fl_6 := fl_5.step hb6
        have fq_6 := fq_5.step hb6
        have fr_6 := gr.step hb6
        refine ⟨_, rfl, ?_⟩
        obtain ⟨W7, hw7, hpt, hb7⟩ := hhp.out W6 _ _ _ _ _ 4 cp cq cr ct fl_6 fp_6 fq_6 fr_6 gt
        refine wh_run 20 (v := .slice (some ⟨W6.heap.size, 0, none⟩) 5 5) (w' := W7) rfl (by kernel_rfl) (by kernel_rfl) d6 (by rw [hw7]; kernel_rfl) ?_
        have d7 := d6.then_ hb7
        refine wh_call 21 30 #[.slice (some ⟨W6.heap.size, 0, none⟩) 5 5] rfl (by kernel_rfl) (by kernel_rfl) d7 (fun _ => by kernel_rfl) ?_
        refine (concat_b (w := w1) _ 5 5 (headP s) rfl (by rw [hlf.out]; decide) (by decide) d7 hpt).mono ?_
        rintro e W8 ⟨zs, Az, cz, rfl, hzs, hown, hbz⟩
        have d8 : Since w1 W8 := hbz
        rw [hfl.out] at hzs
        refine ⟨_, rfl, ?_⟩
        refine wh_call 22 49 #[.slice Az zs.length cz] rfl (by kernel_rfl) (by kernel_rfl) d8 (fun _ => by kernel_rfl) ?_
        refine (checked_calls Az cz zs.length zs rfl (by rw [hzs.out, headL_length]; decide) w1.heap.size _ hbz.size hown).mono ?_
        rintro e W9 ⟨ys, Ay, cy, rfl, hys, howny, hby⟩
        rw [hzs.out] at hys
        have d9 : Since w1 W9 := hbz.trans hby
        refine ⟨_, rfl, ?_⟩
        refine wh_take 23 (.slice Ay ys.length cy) rfl (by kernel_rfl) (by kernel_rfl) (fun _ _ _ h => h) (by kernel_rfl) (fun _ _ => by kernel_rfl) ?_
        refine wh_done (by kernel_rfl) d9 ?_
        simp only [Act.put, List.setIfInBounds_toArray, List.set_cons_zero, List.set_cons_succ]
        go_wp2_with fail
        go_ret
        exact ⟨ys, Ay, cy, rfl, hys, howny.mono hB1.size, bthen hB1 d9⟩
      · refine wo_call 10 31 #[.int .u64 (IntKind.u64.wrap (s.base + 1)), .int .i64 4] rfl (by kernel_rfl) (fun _ => by kernel_rfl) ?_
        refine (c2.out _).mono ?_
        rintro e W3 ⟨Aq, cq, rfl, gq, hb3⟩
        have d3 := d2.then_ hb3
        have fp_3 := fp_2.step hb3
        have fl_3 := gl.step hb3
        have fz_3 := gz.step hb3
        refine ⟨_, rfl, ?_⟩
        refine wh_two 1 14 (by kernel_rfl) d3 ?_ ?_
        · obtain ⟨W4, hw4, hk4, hz4, d4⟩ := mark_row (P := Try.prog) (W0 := w1) fz_3 4 4 Try.underlying25 Try.underlying5 d3 d1.size
          refine wo_run 1 (v := .slice (some ⟨W1.heap.size, 0, none⟩) 4 4) (w' := W4) rfl (by kernel_rfl) (exec_conv 25 25 (.tmp 3) rfl _ _ (by kernel_rfl) hw4) ?_
          have fp_4 := fp_3.marked hk4 hz4
          have fl_4 := fl_3.marked hk4 hz4
          have fq_4 := gq.marked hk4 hz4
          refine wh_call 14 31 #[.int .u64 (IntKind.u64.wrap s.id), .int .i64 4] rfl (by kernel_rfl) (by kernel_rfl) d4 (fun _ => by kernel_rfl) ?_
          refine (c3.out _).mono ?_
          rintro e W5 ⟨Ar, cr, rfl, gr, hb5⟩
          have d5 := d4.then_ hb5
          have fp_5 := fp_4.step hb5
          have fl_5 := fl_4.step hb5
          have fq_5 := fq_4.step hb5
          refine ⟨_, rfl, ?_⟩
          refine wh_call 19 31 #[.int .u64 (IntKind.u64.wrap (s.recs.length : Nat)), .int .i64 2] rfl (by kernel_rfl) (by kernel_rfl) d5 (fun _ => by kernel_rfl) ?_
          refine (c4.out _).mono ?_
          rintro e W6 ⟨At, ct, rfl, gt, hb6⟩
          have d6 := d5.then_ hb6
          have fp_6 := fp_5.step hb6
          have fl_6 := fl_5.step hb6
          have fq_6 := fq_5.step hb6
          have fr_6 := gr.step hb6
          refine ⟨_, rfl, ?_⟩
          obtain ⟨W7, hw7, hpt, hb7⟩ := hhp.out W6 _ _ _ _ _ 4 cp cq cr ct fl_6 fp_6 fq_6 fr_6 gt
          refine wh_run 20 (v := .slice (some ⟨W6.heap.size, 0, none⟩) 5 5) (w' := W7) rfl (by kernel_rfl) (by kernel_rfl) d6 (by rw [hw7]; kernel_rfl) ?_
          have d7 := d6.then_ hb7
          refine wh_call 21 30 #[.slice (some ⟨W6.heap.size, 0, none⟩) 5 5] rfl (by kernel_rfl) (by kernel_rfl) d7 (fun _ => by kernel_rfl) ?_
          refine (concat_b (w := w1) _ 5 5 (headP s) rfl (by rw [hlf.out]; decide) (by decide) d7 hpt).mono ?_
          rintro e W8 ⟨zs, Az, cz, rfl, hzs, hown, hbz⟩
          have d8 : Since w1 W8 := hbz
          rw [hfl.out] at hzs
          refine ⟨_, rfl, ?_⟩
          refine wh_call 22 49 #[.slice Az zs.length cz] rfl (by kernel_rfl) (by kernel_rfl) d8 (fun _ => by kernel_rfl) ?_
          refine (checked_calls Az cz zs.length zs rfl (by rw [hzs.out, headL_length]; decide) w1.heap.size _ hbz.size hown).mono ?_
          rintro e W9 ⟨ys, Ay, cy, rfl, hys, howny, hby⟩
          rw [hzs.out] at hys
          have d9 : Since w1 W9 := hbz.trans hby
          refine ⟨_, rfl, ?_⟩
          refine wh_take 23 (.slice Ay ys.length cy) rfl (by kernel_rfl) (by kernel_rfl) (fun _ _ _ h => h) (by kernel_rfl) (fun _ _ => by kernel_rfl) ?_
          refine wh_done (by kernel_rfl) d9 ?_
          simp only [Act.put, List.setIfInBounds_toArray, List.set_cons_zero, List.set_cons_succ]
          go_wp2_with fail
          go_ret
          exact ⟨ys, Ay, cy, rfl, hys, howny.mono hB1.size, bthen hB1 d9⟩
        · refine wo_call 14 31 #[.int .u64 (IntKind.u64.wrap s.id), .int .i64 4] rfl (by kernel_rfl) (fun _ => by kernel_rfl) ?_
          refine (c3.out _).mono ?_
          rintro e W4 ⟨Ar, cr, rfl, gr, hb4⟩
          have d4 := d3.then_ hb4
          have fp_4 := fp_3.step hb4
          have fl_4 := fl_3.step hb4
          have fz_4 := fz_3.step hb4
          have fq_4 := gq.step hb4
          refine ⟨_, rfl, ?_⟩
          refine wh_two 1 19 (by kernel_rfl) d4 ?_ ?_
          · obtain ⟨W5, hw5, hk5, hz5, d5⟩ := mark_row (P := Try.prog) (W0 := w1) fz_4 4 4 Try.underlying25 Try.underlying5 d4 d1.size
            refine wo_run 1 (v := .slice (some ⟨W1.heap.size, 0, none⟩) 4 4) (w' := W5) rfl (by kernel_rfl) (exec_conv 25 25 (.tmp 3) rfl _ _ (by kernel_rfl) hw5) ?_
            have fp_5 := fp_4.marked hk5 hz5
            have fl_5 := fl_4.marked hk5 hz5
            have fq_5 := fq_4.marked hk5 hz5
            have fr_5 := gr.marked hk5 hz5
            refine wh_call 19 31 #[.int .u64 (IntKind.u64.wrap (s.recs.length : Nat)), .int .i64 2] rfl (by kernel_rfl) (by kernel_rfl) d5 (fun _ => by kernel_rfl) ?_
            refine (c4.out _).mono ?_
            rintro e W6 ⟨At, ct, rfl, gt, hb6⟩
            have d6 := d5.then_ hb6
            have fp_6 := fp_5.step hb6
            have fl_6 := fl_5.step hb6
            have fq_6 := fq_5.step hb6
            have fr_6 := fr_5.step hb6
            refine ⟨_, rfl, ?_⟩
            obtain ⟨W7, hw7, hpt, hb7⟩ := hhp.out W6 _ _ _ _ _ 4 cp cq cr ct fl_6 fp_6 fq_6 fr_6 gt
            refine wh_run 20 (v := .slice (some ⟨W6.heap.size, 0, none⟩) 5 5) (w' := W7) rfl (by kernel_rfl) (by kernel_rfl) d6 (by rw [hw7]; kernel_rfl) ?_
            have d7 := d6.then_ hb7
            refine wh_call 21 30 #[.slice (some ⟨W6.heap.size, 0, none⟩) 5 5] rfl (by kernel_rfl) (by kernel_rfl) d7 (fun _ => by kernel_rfl) ?_
            refine (concat_b (w := w1) _ 5 5 (headP s) rfl (by rw [hlf.out]; decide) (by decide) d7 hpt).mono ?_
            rintro e W8 ⟨zs, Az, cz, rfl, hzs, hown, hbz⟩
            have d8 : Since w1 W8 := hbz
            rw [hfl.out] at hzs
            refine ⟨_, rfl, ?_⟩
            refine wh_call 22 49 #[.slice Az zs.length cz] rfl (by kernel_rfl) (by kernel_rfl) d8 (fun _ => by kernel_rfl) ?_
            refine (checked_calls Az cz zs.length zs rfl (by rw [hzs.out, headL_length]; decide) w1.heap.size _ hbz.size hown).mono ?_
            rintro e W9 ⟨ys, Ay, cy, rfl, hys, howny, hby⟩
            rw [hzs.out] at hys
            have d9 : Since w1 W9 := hbz.trans hby
            refine ⟨_, rfl, ?_⟩
            refine wh_take 23 (.slice Ay ys.length cy) rfl (by kernel_rfl) (by kernel_rfl) (fun _ _ _ h => h) (by kernel_rfl) (fun _ _ => by kernel_rfl) ?_
            refine wh_done (by kernel_rfl) d9 ?_
            simp only [Act.put, List.setIfInBounds_toArray, List.set_cons_zero, List.set_cons_succ]
            go_wp2_with fail
            go_ret
            exact ⟨ys, Ay, cy, rfl, hys, howny.mono hB1.size, bthen hB1 d9⟩
          · refine wo_call 19 31 #[.int .u64 (IntKind.u64.wrap (s.recs.length : Nat)), .int .i64 2] rfl (by kernel_rfl) (fun _ => by kernel_rfl) ?_
            refine (c4.out _).mono ?_
            rintro e W5 ⟨At, ct, rfl, gt, hb5⟩
            have d5 := d4.then_ hb5
            have fp_5 := fp_4.step hb5
            have fl_5 := fl_4.step hb5
            have fz_5 := fz_4.step hb5
            have fq_5 := fq_4.step hb5
            have fr_5 := gr.step hb5
            refine ⟨_, rfl, ?_⟩
            obtain ⟨W6, hw6, hk6, hz6, d6⟩ := mark_row (P := Try.prog) (W0 := w1) fz_5 4 4 Try.underlying25 Try.underlying5 d5 d1.size
            refine wh_run 1 (v := .slice (some ⟨W1.heap.size, 0, none⟩) 4 4) (w' := W6) rfl (by kernel_rfl) (by kernel_rfl) d5 (exec_conv 25 25 (.tmp 3) rfl _ _ (by kernel_rfl) hw6) ?_
            have fp_6 := fp_5.marked hk6 hz6
            have fl_6 := fl_5.marked hk6 hz6
            have fq_6 := fq_5.marked hk6 hz6
            have fr_6 := fr_5.marked hk6 hz6
            have ft_6 := gt.marked hk6 hz6
            obtain ⟨W7, hw7, hpt, hb7⟩ := hhp.out W6 _ _ _ _ _ 4 cp cq cr ct fl_6 fp_6 fq_6 fr_6 ft_6
            refine wh_run 20 (v := .slice (some ⟨W6.heap.size, 0, none⟩) 5 5) (w' := W7) rfl (by kernel_rfl) (by kernel_rfl) d6 (by rw [hw7]; kernel_rfl) ?_
            have d7 := d6.then_ hb7
            refine wh_call 21 30 #[.slice (some ⟨W6.heap.size, 0, none⟩) 5 5] rfl (by kernel_rfl) (by kernel_rfl) d7 (fun _ => by kernel_rfl) ?_
            refine (concat_b (w := w1) _ 5 5 (headP s) rfl (by rw [hlf.out]; decide) (by decide) d7 hpt).mono ?_
            rintro e W8 ⟨zs, Az, cz, rfl, hzs, hown, hbz⟩
            have d8 : Since w1 W8 := hbz
            rw [hfl.out] at hzs
            refine ⟨_, rfl, ?_⟩
            refine wh_call 22 49 #[.slice Az zs.length cz] rfl (by kernel_rfl) (by kernel_rfl) d8 (fun _ => by kernel_rfl) ?_
            refine (checked_calls Az cz zs.length zs rfl (by rw [hzs.out, headL_length]; decide) w1.heap.size _ hbz.size hown).mono ?_
            rintro e W9 ⟨ys, Ay, cy, rfl, hys, howny, hby⟩
            rw [hzs.out] at hys
            have d9 : Since w1 W9 := hbz.trans hby
            refine ⟨_, rfl, ?_⟩
            refine wh_take 23 (.slice Ay ys.length cy) rfl (by kernel_rfl) (by kernel_rfl) (fun _ _ _ h => h) (by kernel_rfl) (fun _ _ => by kernel_rfl) ?_
            refine wh_done (by kernel_rfl) d9 ?_
            simp only [Act.put, List.setIfInBounds_toArray, List.set_cons_zero, List.set_cons_succ]
            go_wp2_with fail
            go_ret
            exact ⟨ys, Ay, cy, rfl, hys, howny.mono hB1.size, bthen hB1 d9⟩
    · refine wo_call 10 31 #[.int .u64 (IntKind.u64.wrap (s.base + 1)), .int .i64 4] rfl (by kernel_rfl) (fun _ => by kernel_rfl) ?_
      refine (c2.out _).mono ?_
      rintro e W2 ⟨Aq, cq, rfl, gq, hb2⟩
      have d2 := d1.then_ hb2
      have fp_2 := gp.step hb2
      refine ⟨_, rfl, ?_⟩
      refine wh_two 0 14 (by kernel_rfl) d2 ?_ ?_
      · obtain ⟨W3, hw3, gz, gl, hb3⟩ := lit_row W2 5 [.int .u8 82, .int .u8 86, .int .u8 83, .int .u8 49] [0x52, 0x56, 0x53, 0x31] rfl
        refine wo_run 0 (v := .slice (some ⟨W2.heap.size, 0, none⟩) 4 4) (w' := W3) rfl (by kernel_rfl) (by rw [hw3]; kernel_rfl) ?_
        have d3 := d2.then_ hb3
        have fp_3 := fp_2.step hb3
        have fq_3 := gq.step hb3
        refine wh_two 1 14 (by kernel_rfl) d3 ?_ ?_
        · obtain ⟨W4, hw4, hk4, hz4, d4⟩ := mark_row (P := Try.prog) (W0 := w1) gz 4 4 Try.underlying25 Try.underlying5 d3 d2.size
          refine wo_run 1 (v := .slice (some ⟨W2.heap.size, 0, none⟩) 4 4) (w' := W4) rfl (by kernel_rfl) (exec_conv 25 25 (.tmp 3) rfl _ _ (by kernel_rfl) hw4) ?_
          have fp_4 := fp_3.marked hk4 hz4
          have fq_4 := fq_3.marked hk4 hz4
          have fl_4 := gl.marked hk4 hz4
          refine wh_call 14 31 #[.int .u64 (IntKind.u64.wrap s.id), .int .i64 4] rfl (by kernel_rfl) (by kernel_rfl) d4 (fun _ => by kernel_rfl) ?_
          refine (c3.out _).mono ?_
          rintro e W5 ⟨Ar, cr, rfl, gr, hb5⟩
          have d5 := d4.then_ hb5
          have fp_5 := fp_4.step hb5
          have fq_5 := fq_4.step hb5
          have fl_5 := fl_4.step hb5
          refine ⟨_, rfl, ?_⟩
          refine wh_call 19 31 #[.int .u64 (IntKind.u64.wrap (s.recs.length : Nat)), .int .i64 2] rfl (by kernel_rfl) (by kernel_rfl) d5 (fun _ => by kernel_rfl) ?_
          refine (c4.out _).mono ?_
          rintro e W6 ⟨At, ct, rfl, gt, hb6⟩
          have d6 := d5.then_ hb6
          have fp_6 := fp_5.step hb6
          have fq_6 := fq_5.step hb6
          have fl_6 := fl_5.step hb6
          have fr_6 := gr.step hb6
          refine ⟨_, rfl, ?_⟩
          obtain ⟨W7, hw7, hpt, hb7⟩ := hhp.out W6 _ _ _ _ _ 4 cp cq cr ct fl_6 fp_6 fq_6 fr_6 gt
          refine wh_run 20 (v := .slice (some ⟨W6.heap.size, 0, none⟩) 5 5) (w' := W7) rfl (by kernel_rfl) (by kernel_rfl) d6 (by rw [hw7]; kernel_rfl) ?_
          have d7 := d6.then_ hb7
          refine wh_call 21 30 #[.slice (some ⟨W6.heap.size, 0, none⟩) 5 5] rfl (by kernel_rfl) (by kernel_rfl) d7 (fun _ => by kernel_rfl) ?_
          refine (concat_b (w := w1) _ 5 5 (headP s) rfl (by rw [hlf.out]; decide) (by decide) d7 hpt).mono ?_
          rintro e W8 ⟨zs, Az, cz, rfl, hzs, hown, hbz⟩
          have d8 : Since w1 W8 := hbz
          rw [hfl.out] at hzs
          refine ⟨_, rfl, ?_⟩
          refine wh_call 22 49 #[.slice Az zs.length cz] rfl (by kernel_rfl) (by kernel_rfl) d8 (fun _ => by kernel_rfl) ?_
          refine (checked_calls Az cz zs.length zs rfl (by rw [hzs.out, headL_length]; decide) w1.heap.size _ hbz.size hown).mono ?_
          rintro e W9 ⟨ys, Ay, cy, rfl, hys, howny, hby⟩
          rw [hzs.out] at hys
          have d9 : Since w1 W9 := hbz.trans hby
          refine ⟨_, rfl, ?_⟩
          refine wh_take 23 (.slice Ay ys.length cy) rfl (by kernel_rfl) (by kernel_rfl) (fun _ _ _ h => h) (by kernel_rfl) (fun _ _ => by kernel_rfl) ?_
          refine wh_done (by kernel_rfl) d9 ?_
          simp only [Act.put, List.setIfInBounds_toArray, List.set_cons_zero, List.set_cons_succ]
          go_wp2_with fail
          go_ret
          exact ⟨ys, Ay, cy, rfl, hys, howny.mono hB1.size, bthen hB1 d9⟩
        · refine wo_call 14 31 #[.int .u64 (IntKind.u64.wrap s.id), .int .i64 4] rfl (by kernel_rfl) (fun _ => by kernel_rfl) ?_
          refine (c3.out _).mono ?_
          rintro e W4 ⟨Ar, cr, rfl, gr, hb4⟩
          have d4 := d3.then_ hb4
          have fp_4 := fp_3.step hb4
          have fq_4 := fq_3.step hb4
          have fl_4 := gl.step hb4
          have fz_4 := gz.step hb4
          refine ⟨_, rfl, ?_⟩
          refine wh_two 1 19 (by kernel_rfl) d4 ?_ ?_
          · obtain ⟨W5, hw5, hk5, hz5, d5⟩ := mark_row (P := Try.prog) (W0 := w1) fz_4 4 4 Try.underlying25 Try.underlying5 d4 d2.size
            refine wo_run 1 (v := .slice (some ⟨W2.heap.size, 0, none⟩) 4 4) (w' := W5) rfl (by kernel_rfl) (exec_conv 25 25 (.tmp 3) rfl _ _ (by kernel_rfl) hw5) ?_
            have fp_5 := fp_4.marked hk5 hz5
            have fq_5 := fq_4.marked hk5 hz5
            have fl_5 := fl_4.marked hk5 hz5
            have fr_5 := gr.marked hk5 hz5
            refine wh_call 19 31 #[.int .u64 (IntKind.u64.wrap (s.recs.length : Nat)), .int .i64 2] rfl (by kernel_rfl) (by kernel_rfl) d5 (fun _ => by kernel_rfl) ?_
            refine (c4.out _).mono ?_
            rintro e W6 ⟨At, ct, rfl, gt, hb6⟩
            have d6 := d5.then_ hb6
            have fp_6 := fp_5.step hb6
            have fq_6 := fq_5.step hb6
            have fl_6 := fl_5.step hb6
            have fr_6 := fr_5.step hb6
            refine ⟨_, rfl, ?_⟩
            obtain ⟨W7, hw7, hpt, hb7⟩ := hhp.out W6 _ _ _ _ _ 4 cp cq cr ct fl_6 fp_6 fq_6 fr_6 gt
            refine wh_run 20 (v := .slice (some ⟨W6.heap.size, 0, none⟩) 5 5) (w' := W7) rfl (by kernel_rfl) (by kernel_rfl) d6 (by rw [hw7]; kernel_rfl) ?_
            have d7 := d6.then_ hb7
            refine wh_call 21 30 #[.slice (some ⟨W6.heap.size, 0, none⟩) 5 5] rfl (by kernel_rfl) (by kernel_rfl) d7 (fun _ => by kernel_rfl) ?_
            refine (concat_b (w := w1) _ 5 5 (headP s) rfl (by rw [hlf.out]; decide) (by decide) d7 hpt).mono ?_
            rintro e W8 ⟨zs, Az, cz, rfl, hzs, hown, hbz⟩
            have d8 : Since w1 W8 := hbz
            rw [hfl.out] at hzs
            refine ⟨_, rfl, ?_⟩
            refine wh_call 22 49 #[.slice Az zs.length cz] rfl (by kernel_rfl) (by kernel_rfl) d8 (fun _ => by kernel_rfl) ?_
            refine (checked_calls Az cz zs.length zs rfl (by rw [hzs.out, headL_length]; decide) w1.heap.size _ hbz.size hown).mono ?_
            rintro e W9 ⟨ys, Ay, cy, rfl, hys, howny, hby⟩
            rw [hzs.out] at hys
            have d9 : Since w1 W9 := hbz.trans hby
            refine ⟨_, rfl, ?_⟩
            refine wh_take 23 (.slice Ay ys.length cy) rfl (by kernel_rfl) (by kernel_rfl) (fun _ _ _ h => h) (by kernel_rfl) (fun _ _ => by kernel_rfl) ?_
            refine wh_done (by kernel_rfl) d9 ?_
            simp only [Act.put, List.setIfInBounds_toArray, List.set_cons_zero, List.set_cons_succ]
            go_wp2_with fail
            go_ret
            exact ⟨ys, Ay, cy, rfl, hys, howny.mono hB1.size, bthen hB1 d9⟩
          · refine wo_call 19 31 #[.int .u64 (IntKind.u64.wrap (s.recs.length : Nat)), .int .i64 2] rfl (by kernel_rfl) (fun _ => by kernel_rfl) ?_
            refine (c4.out _).mono ?_
            rintro e W5 ⟨At, ct, rfl, gt, hb5⟩
            have d5 := d4.then_ hb5
            have fp_5 := fp_4.step hb5
            have fq_5 := fq_4.step hb5
            have fl_5 := fl_4.step hb5
            have fz_5 := fz_4.step hb5
            have fr_5 := gr.step hb5
            refine ⟨_, rfl, ?_⟩
            obtain ⟨W6, hw6, hk6, hz6, d6⟩ := mark_row (P := Try.prog) (W0 := w1) fz_5 4 4 Try.underlying25 Try.underlying5 d5 d2.size
            refine wh_run 1 (v := .slice (some ⟨W2.heap.size, 0, none⟩) 4 4) (w' := W6) rfl (by kernel_rfl) (by kernel_rfl) d5 (exec_conv 25 25 (.tmp 3) rfl _ _ (by kernel_rfl) hw6) ?_
            have fp_6 := fp_5.marked hk6 hz6
            have fq_6 := fq_5.marked hk6 hz6
            have fl_6 := fl_5.marked hk6 hz6
            have fr_6 := fr_5.marked hk6 hz6
            have ft_6 := gt.marked hk6 hz6
            obtain ⟨W7, hw7, hpt, hb7⟩ := hhp.out W6 _ _ _ _ _ 4 cp cq cr ct fl_6 fp_6 fq_6 fr_6 ft_6
            refine wh_run 20 (v := .slice (some ⟨W6.heap.size, 0, none⟩) 5 5) (w' := W7) rfl (by kernel_rfl) (by kernel_rfl) d6 (by rw [hw7]; kernel_rfl) ?_
            have d7 := d6.then_ hb7
            refine wh_call 21 30 #[.slice (some ⟨W6.heap.size, 0, none⟩) 5 5] rfl (by kernel_rfl) (by kernel_rfl) d7 (fun _ => by kernel_rfl) ?_
            refine (concat_b (w := w1) _ 5 5 (headP s) rfl (by rw [hlf.out]; decide) (by decide) d7 hpt).mono ?_
            rintro e W8 ⟨zs, Az, cz, rfl, hzs, hown, hbz⟩
            have d8 : Since w1 W8 := hbz
            rw [hfl.out] at hzs
            refine ⟨_, rfl, ?_⟩
            refine wh_call 22 49 #[.slice Az zs.length cz] rfl (by kernel_rfl) (by kernel_rfl) d8 (fun _ => by kernel_rfl) ?_
            refine (checked_calls Az cz zs.length zs rfl (by rw [hzs.out, headL_length]; decide) w1.heap.size _ hbz.size hown).mono ?_
            rintro e W9 ⟨ys, Ay, cy, rfl, hys, howny, hby⟩
            rw [hzs.out] at hys
            have d9 : Since w1 W9 := hbz.trans hby
            refine ⟨_, rfl, ?_⟩
            refine wh_take 23 (.slice Ay ys.length cy) rfl (by kernel_rfl) (by kernel_rfl) (fun _ _ _ h => h) (by kernel_rfl) (fun _ _ => by kernel_rfl) ?_
            refine wh_done (by kernel_rfl) d9 ?_
            simp only [Act.put, List.setIfInBounds_toArray, List.set_cons_zero, List.set_cons_succ]
            go_wp2_with fail
            go_ret
            exact ⟨ys, Ay, cy, rfl, hys, howny.mono hB1.size, bthen hB1 d9⟩
      · refine wo_call 14 31 #[.int .u64 (IntKind.u64.wrap s.id), .int .i64 4] rfl (by kernel_rfl) (fun _ => by kernel_rfl) ?_
        refine (c3.out _).mono ?_
        rintro e W3 ⟨Ar, cr, rfl, gr, hb3⟩
        have d3 := d2.then_ hb3
        have fp_3 := fp_2.step hb3
        have fq_3 := gq.step hb3
        refine ⟨_, rfl, ?_⟩
        refine wh_two 0 19 (by kernel_rfl) d3 ?_ ?_
        · obtain ⟨W4, hw4, gz, gl, hb4⟩ := lit_row W3 5 [.int .u8 82, .int .u8 86, .int .u8 83, .int .u8 49] [0x52, 0x56, 0x53, 0x31] rfl
          refine wo_run 0 (v := .slice (some ⟨W3.heap.size, 0, none⟩) 4 4) (w' := W4) rfl (by kernel_rfl) (by rw [hw4]; kernel_rfl) ?_
          have d4 := d3.then_ hb4
          have fp_4 := fp_3.step hb4
          have fq_4 := fq_3.step hb4
          have fr_4 := gr.step hb4
          refine wh_two 1 19 (by kernel_rfl) d4 ?_ ?_
          · obtain ⟨W5, hw5, hk5, hz5, d5⟩ := mark_row (P := Try.prog) (W0 := w1) gz 4 4 Try.underlying25 Try.underlying5 d4 d3.size
            refine wo_run 1 (v := .slice (some ⟨W3.heap.size, 0, none⟩) 4 4) (w' := W5) rfl (by kernel_rfl) (exec_conv 25 25 (.tmp 3) rfl _ _ (by kernel_rfl) hw5) ?_
            have fp_5 := fp_4.marked hk5 hz5
            have fq_5 := fq_4.marked hk5 hz5
            have fr_5 := fr_4.marked hk5 hz5
            have fl_5 := gl.marked hk5 hz5
            refine wh_call 19 31 #[.int .u64 (IntKind.u64.wrap (s.recs.length : Nat)), .int .i64 2] rfl (by kernel_rfl) (by kernel_rfl) d5 (fun _ => by kernel_rfl) ?_
            refine (c4.out _).mono ?_
            rintro e W6 ⟨At, ct, rfl, gt, hb6⟩
            have d6 := d5.then_ hb6
            have fp_6 := fp_5.step hb6
            have fq_6 := fq_5.step hb6
            have fr_6 := fr_5.step hb6
            have fl_6 := fl_5.step hb6
            refine ⟨_, rfl, ?_⟩
            obtain ⟨W7, hw7, hpt, hb7⟩ := hhp.out W6 _ _ _ _ _ 4 cp cq cr ct fl_6 fp_6 fq_6 fr_6 gt
            refine wh_run 20 (v := .slice (some ⟨W6.heap.size, 0, none⟩) 5 5) (w' := W7) rfl (by kernel_rfl) (by kernel_rfl) d6 (by rw [hw7]; kernel_rfl) ?_
            have d7 := d6.then_ hb7
            refine wh_call 21 30 #[.slice (some ⟨W6.heap.size, 0, none⟩) 5 5] rfl (by kernel_rfl) (by kernel_rfl) d7 (fun _ => by kernel_rfl) ?_
            refine (concat_b (w := w1) _ 5 5 (headP s) rfl (by rw [hlf.out]; decide) (by decide) d7 hpt).mono ?_
            rintro e W8 ⟨zs, Az, cz, rfl, hzs, hown, hbz⟩
            have d8 : Since w1 W8 := hbz
            rw [hfl.out] at hzs
            refine ⟨_, rfl, ?_⟩
            refine wh_call 22 49 #[.slice Az zs.length cz] rfl (by kernel_rfl) (by kernel_rfl) d8 (fun _ => by kernel_rfl) ?_
            refine (checked_calls Az cz zs.length zs rfl (by rw [hzs.out, headL_length]; decide) w1.heap.size _ hbz.size hown).mono ?_
            rintro e W9 ⟨ys, Ay, cy, rfl, hys, howny, hby⟩
            rw [hzs.out] at hys
            have d9 : Since w1 W9 := hbz.trans hby
            refine ⟨_, rfl, ?_⟩
            refine wh_take 23 (.slice Ay ys.length cy) rfl (by kernel_rfl) (by kernel_rfl) (fun _ _ _ h => h) (by kernel_rfl) (fun _ _ => by kernel_rfl) ?_
            refine wh_done (by kernel_rfl) d9 ?_
            simp only [Act.put, List.setIfInBounds_toArray, List.set_cons_zero, List.set_cons_succ]
            go_wp2_with fail
            go_ret
            exact ⟨ys, Ay, cy, rfl, hys, howny.mono hB1.size, bthen hB1 d9⟩
          · refine wo_call 19 31 #[.int .u64 (IntKind.u64.wrap (s.recs.length : Nat)), .int .i64 2] rfl (by kernel_rfl) (fun _ => by kernel_rfl) ?_
            refine (c4.out _).mono ?_
            rintro e W5 ⟨At, ct, rfl, gt, hb5⟩
            have d5 := d4.then_ hb5
            have fp_5 := fp_4.step hb5
            have fq_5 := fq_4.step hb5
            have fr_5 := fr_4.step hb5
            have fl_5 := gl.step hb5
            have fz_5 := gz.step hb5
            refine ⟨_, rfl, ?_⟩
            obtain ⟨W6, hw6, hk6, hz6, d6⟩ := mark_row (P := Try.prog) (W0 := w1) fz_5 4 4 Try.underlying25 Try.underlying5 d5 d3.size
            refine wh_run 1 (v := .slice (some ⟨W3.heap.size, 0, none⟩) 4 4) (w' := W6) rfl (by kernel_rfl) (by kernel_rfl) d5 (exec_conv 25 25 (.tmp 3) rfl _ _ (by kernel_rfl) hw6) ?_
            have fp_6 := fp_5.marked hk6 hz6
            have fq_6 := fq_5.marked hk6 hz6
            have fr_6 := fr_5.marked hk6 hz6
            have fl_6 := fl_5.marked hk6 hz6
            have ft_6 := gt.marked hk6 hz6
            obtain ⟨W7, hw7, hpt, hb7⟩ := hhp.out W6 _ _ _ _ _ 4 cp cq cr ct fl_6 fp_6 fq_6 fr_6 ft_6
            refine wh_run 20 (v := .slice (some ⟨W6.heap.size, 0, none⟩) 5 5) (w' := W7) rfl (by kernel_rfl) (by kernel_rfl) d6 (by rw [hw7]; kernel_rfl) ?_
            have d7 := d6.then_ hb7
            refine wh_call 21 30 #[.slice (some ⟨W6.heap.size, 0, none⟩) 5 5] rfl (by kernel_rfl) (by kernel_rfl) d7 (fun _ => by kernel_rfl) ?_
            refine (concat_b (w := w1) _ 5 5 (headP s) rfl (by rw [hlf.out]; decide) (by decide) d7 hpt).mono ?_
            rintro e W8 ⟨zs, Az, cz, rfl, hzs, hown, hbz⟩
            have d8 : Since w1 W8 := hbz
            rw [hfl.out] at hzs
            refine ⟨_, rfl, ?_⟩
            refine wh_call 22 49 #[.slice Az zs.length cz] rfl (by kernel_rfl) (by kernel_rfl) d8 (fun _ => by kernel_rfl) ?_
            refine (checked_calls Az cz zs.length zs rfl (by rw [hzs.out, headL_length]; decide) w1.heap.size _ hbz.size hown).mono ?_
            rintro e W9 ⟨ys, Ay, cy, rfl, hys, howny, hby⟩
            rw [hzs.out] at hys
            have d9 : Since w1 W9 := hbz.trans hby
            refine ⟨_, rfl, ?_⟩
            refine wh_take 23 (.slice Ay ys.length cy) rfl (by kernel_rfl) (by kernel_rfl) (fun _ _ _ h => h) (by kernel_rfl) (fun _ _ => by kernel_rfl) ?_
            refine wh_done (by kernel_rfl) d9 ?_
            simp only [Act.put, List.setIfInBounds_toArray, List.set_cons_zero, List.set_cons_succ]
            go_wp2_with fail
            go_ret
            exact ⟨ys, Ay, cy, rfl, hys, howny.mono hB1.size, bthen hB1 d9⟩
        · refine wo_call 19 31 #[.int .u64 (IntKind.u64.wrap (s.recs.length : Nat)), .int .i64 2] rfl (by kernel_rfl) (fun _ => by kernel_rfl) ?_
          refine (c4.out _).mono ?_
          rintro e W4 ⟨At, ct, rfl, gt, hb4⟩
          have d4 := d3.then_ hb4
          have fp_4 := fp_3.step hb4
          have fq_4 := fq_3.step hb4
          have fr_4 := gr.step hb4
          refine ⟨_, rfl, ?_⟩
          obtain ⟨W5, hw5, gz, gl, hb5⟩ := lit_row W4 5 [.int .u8 82, .int .u8 86, .int .u8 83, .int .u8 49] [0x52, 0x56, 0x53, 0x31] rfl
          refine wh_run 0 (v := .slice (some ⟨W4.heap.size, 0, none⟩) 4 4) (w' := W5) rfl (by kernel_rfl) (by kernel_rfl) d4 (by rw [hw5]; kernel_rfl) ?_
          have d5 := d4.then_ hb5
          have fp_5 := fp_4.step hb5
          have fq_5 := fq_4.step hb5
          have fr_5 := fr_4.step hb5
          have ft_5 := gt.step hb5
          obtain ⟨W6, hw6, hk6, hz6, d6⟩ := mark_row (P := Try.prog) (W0 := w1) gz 4 4 Try.underlying25 Try.underlying5 d5 d4.size
          refine wh_run 1 (v := .slice (some ⟨W4.heap.size, 0, none⟩) 4 4) (w' := W6) rfl (by kernel_rfl) (by kernel_rfl) d5 (exec_conv 25 25 (.tmp 3) rfl _ _ (by kernel_rfl) hw6) ?_
          have fp_6 := fp_5.marked hk6 hz6
          have fq_6 := fq_5.marked hk6 hz6
          have fr_6 := fr_5.marked hk6 hz6
          have ft_6 := ft_5.marked hk6 hz6
          have fl_6 := gl.marked hk6 hz6
          obtain ⟨W7, hw7, hpt, hb7⟩ := hhp.out W6 _ _ _ _ _ 4 cp cq cr ct fl_6 fp_6 fq_6 fr_6 ft_6
          refine wh_run 20 (v := .slice (some ⟨W6.heap.size, 0, none⟩) 5 5) (w' := W7) rfl (by kernel_rfl) (by kernel_rfl) d6 (by rw [hw7]; kernel_rfl) ?_
          have d7 := d6.then_ hb7
          refine wh_call 21 30 #[.slice (some ⟨W6.heap.size, 0, none⟩) 5 5] rfl (by kernel_rfl) (by kernel_rfl) d7 (fun _ => by kernel_rfl) ?_
          refine (concat_b (w := w1) _ 5 5 (headP s) rfl (by rw [hlf.out]; decide) (by decide) d7 hpt).mono ?_
          rintro e W8 ⟨zs, Az, cz, rfl, hzs, hown, hbz⟩
          have d8 : Since w1 W8 := hbz
          rw [hfl.out] at hzs
          refine ⟨_, rfl, ?_⟩
          refine wh_call 22 49 #[.slice Az zs.length cz] rfl (by kernel_rfl) (by kernel_rfl) d8 (fun _ => by kernel_rfl) ?_
          refine (checked_calls Az cz zs.length zs rfl (by rw [hzs.out, headL_length]; decide) w1.heap.size _ hbz.size hown).mono ?_
          rintro e W9 ⟨ys, Ay, cy, rfl, hys, howny, hby⟩
          rw [hzs.out] at hys
          have d9 : Since w1 W9 := hbz.trans hby
          refine ⟨_, rfl, ?_⟩
          refine wh_take 23 (.slice Ay ys.length cy) rfl (by kernel_rfl) (by kernel_rfl) (fun _ _ _ h => h) (by kernel_rfl) (fun _ _ => by kernel_rfl) ?_
          refine wh_done (by kernel_rfl) d9 ?_
          simp only [Act.put, List.setIfInBounds_toArray, List.set_cons_zero, List.set_cons_succ]
          go_wp2_with fail
          go_ret
          exact ⟨ys, Ay, cy, rfl, hys, howny.mono hB1.size, bthen hB1 d9⟩
  -- held1>
end Go.Proofs.Ytdglkjpdhnnpnaa
