/-
  stream.parts: the iterator over a stream's parts.
-/
import Derived.Test.YtdglkjpdhnnpnaaStrHead
import Derived.Test.YtdglkjpdhnnpnaaRangeM
import Derived.Test.YtdglkjpdhnnpnaaHeldIn
import Derived.Test.YtdglkjpdhnnpnaaArrays
import Derived.Sort.CutIn
namespace Go.Proofs.Ytdglkjpdhnnpnaa
open Go Go.RowKit Go.Shelf
attribute [local go_sem] Oper.semAt_some wide_fn

/-- A piece that is handed over: where it lies, its capacity, its bytes. -/
abbrev Piece := Option Addr × Nat × List UInt8
def encP (x : Piece) : Array Value := #[.slice x.1 x.2.2.length x.2.1]
def PieceAt (x : Piece) (W : World) : Prop := BytesAt W W.heap.size x.1 x.2.2 ∧ x.2.2.length ≤ 5000
def bytesOf (l : List Piece) : List (List UInt8) := l.map fun x => x.2.2
theorem bytesOf_snoc (l : List Piece) (x : Piece) : bytesOf (l ++ [x]) = bytesOf l ++ [x.2.2] := by simp [bytesOf]
/-- A stream's parts, but for its end. -/
def partsB (s : Str) : List (List UInt8) := headE s :: s.recs.map recE
def partsK (s : Str) (k : Nat) : List (List UInt8) := headE s :: (s.recs.take k).map recE
theorem partsK_snoc (s : Str) (k : Nat) (h : k < s.recs.length) : partsK s (k + 1) = partsK s k ++ [recE s.recs[k]] := by
  unfold partsK
  rw [List.take_succ_eq_append_getElem h, List.map_append]
  rfl
theorem partsK_all (s : Str) : partsK s s.recs.length = partsB s := by unfold partsK partsB; rw [List.take_length]
theorem partsK_len (s : Str) (k : Nat) (h : k ≤ s.recs.length) : (partsK s k).length = k + 1 := by simp [partsK, h]

theorem exec_yield {P : Program} {w : World} {o : Oper} {a : Act} {l : Nat} {x : Next} (f y : Operand) (t : TypeId) (ho : o.op = .call { callee := .value f, args := #[y], argTypes := #[t] }) (hf : a.eval f = .func (.yield l) #[] #[]) (v : Value) (hv : a.eval y = v)
    (h : (Instr.yield l #[v]).run P w = .ok x w) : (execOp a.eval o).run P w = .ok x w := by
  simp [execOp, ho, resolve, invoke, hf, hv, Deferred.ofValue, h]

/-- What a round keeps: what lies below B0, the stream's box, rows of records. -/
def KpP (B0 Bs : Nat) (A B : World) : Prop := Below B0 A B ∧ B.heap[Bs]? = A.heap[Bs]? ∧ ∀ g cs, RowAt A g 39 cs → RowAt B g 39 cs
/-- The parts of a record. -/
def recP (r : Rec) : List (List UInt8) := [[kindOf r], bytesN (u r.fr) 2, bytesN (u r.ct) 2, r.data]
theorem recP_flat (r : Rec) : (recP r).flatten = recL r := by simp [recP, recL]
theorem recP_len (r : Rec) : (recP r).flatten.length = 5 + r.data.length := by rw [recP_flat, recL_length]
theorem recP_at (r : Rec) (W : World) (A0 A1 A2 : Option Addr) (k0 k1 k2 : Nat) (h0 : BytesAt W W.heap.size A0 [kindOf r]) (h1 : BytesAt W W.heap.size A1 (bytesN (u r.fr) 2)) (h2 : BytesAt W W.heap.size A2 (bytesN (u r.ct) 2)) (h3 : BytesAt W W.heap.size r.A r.data) :
    ∃ W', W' = W.alloc (.cells #[.slice A0 1 k0, .slice A1 2 k1, .slice A2 2 k2, .slice r.A r.data.length r.cap] 25) ∧ PartsAt W' W'.heap.size (some ⟨W.heap.size, 0, none⟩) (recP r) ∧ Below W.heap.size W W' := by
  refine ⟨_, rfl, lit_parts W 25 [(A0, 1, k0, [kindOf r]), (A1, 2, k1, bytesN (u r.fr) 2), (A2, 2, k2, bytesN (u r.ct) 2), (r.A, r.data.length, r.cap, r.data)] ?_, alloc_below W _⟩
  intro x hx
  simp only [List.mem_cons, List.not_mem_nil, or_false] at hx
  rcases hx with rfl | rfl | rfl | rfl
  · exact ⟨h0, rfl⟩
  · exact ⟨h1, bytesN_length _ _⟩
  · exact ⟨h2, bytesN_length _ _⟩
  · exact ⟨h3, rfl⟩

theorem wpListIn_store_part {F : Fence} {n : Nat} {P : Program} {w : World} {ops : Array Oper} {rest : List Oper} {o : Oper} {a : Act} {Q : Exit → Act → World → Prop} (hF : ∀ f, F.fn f) (t : TypeId) (x y : Operand) (ho : o.op = .store t x y) {g : Nat} {tr : TypeId} {cs : List Value} (hrow : RowAt w g tr cs) (off : Nat) (vs : List Value) (hgd : Region.wanted o (yielded ops a.tmps) = true)
    (hx : a.eval x = .pointer (some ⟨g, off, none⟩)) (hy : a.eval y = .agg vs.toArray) (hs : ∀ w, (sizeOf t).run P w = .ok vs.length w) (hfit : off + vs.length ≤ cs.length) (h1 : ∀ v ∈ vs, v.oneCell' = true)
    (h : ∀ w1, RowAt w1 g tr (splice cs off vs) → w1.heap.size = w.heap.size → w.grownBy w1 (some g) → wpListIn F n P ops Q rest (a.put o.dst undef) w1) : wpListIn F n P ops Q (o :: rest) a w :=
  wpListIn_skip_run hF hgd (by rw [ho]; intro c hc; cases hc) _ (exec_store_part t x y ho hrow off vs hx hy hs hfit h1) (h _ (setRow_row hrow _) (setRow_size _ _ _) (setRow_grown _ _ _))

theorem parts_calls (s : Str) (w : World) :
    Calls Try.prog 29 #[.agg s.val.toArray] w fun e w' => e = .returned (.func (.func 47) #[] #[.pointer (some ⟨w.heap.size, 0, none⟩)]) ∧ w' = w.alloc (.cells s.val.toArray 24) := by
  go_enter Try.func29, Try.ntmps29
  unfold Str.val
  go_wp2_with fail
  go_ret
  exact ⟨rfl, rfl⟩

set_option maxRecDepth 100000 in
set_option maxHeartbeats 8000000 in
theorem parts1 (m : Nat) (hm : 1 ≤ m) (l B0 Bs : Nat) (s : Str) (hg : goodB s = true) (hBs : B0 ≤ Bs) (J Jx : List Piece → World → Prop) (hJ : ∀ q A B, J q A → Below A.heap.size A B → J q B) (hJx : ∀ q A, Jx q A → False)
    (hY : ∀ pre x W, J pre W → PieceAt x W → pre.length < s.recs.length + 1 → YieldAt Fence.wide (m - 1) Try.prog l (encP x) W fun e W' =>
      (e = .returned (.bool true) ∧ J (pre ++ [x]) W' ∧ KpP B0 Bs W W') ∨ (e = .returned (.bool false) ∧ Jx (pre ++ [x]) W'))
    (W : World) (hrow : RowAt W Bs 24 s.val) (hrecs : RecsAt W B0 s.A s.recs) (h0 : J [] W) :
    CallsIn Fence.wide m Try.prog 47 #[.func (.yield l) #[] #[], .pointer (some ⟨Bs, 0, none⟩)] W fun e W' => (∃ v, e = .returned v) ∧ ((∃ xs, bytesOf xs = partsB s ∧ J xs W') ∨ (∃ pre, True ∧ Jx pre W')) := by
  obtain ⟨b1, b2, i1, i2, ab⟩ := good_head hg
  have hmany := good_many hg
  have hdat := good_data hg
  have hhd := Lib.hid (head_calls s W b1 b2 (by omega) (by omega) i1 i2 hmany)
  clear b1 b2 i1 i2 ab hg
  refine callsIn_of_wp Try.func47 rfl trivial ?_ rfl
  simp only [Try.ntmps47, List.size_toArray, List.length_cons, List.length_nil, Nat.reduceAdd, Nat.reduceSub, Array.replicate_succ, Array.replicate_zero, List.push_toArray, List.append_toArray, List.nil_append, List.cons_append]
  gi_wp2_with (first
    | (refine wpListIn_load_part (fun _ => trivial) 7 rfl 24 (.tmp 1) rfl hrow 0 4 s.val rfl rfl rfl rfl Try.isAgg24 Try.sizeOf24 ?_)
    | (gi_at_call 48
       refine (callsIn_wide.2 hhd.out).mono ?_
       rintro e w1 ⟨zs, A1, c1, rfl, hz1, hown1, hB1⟩
       have hlz : zs.length ≤ 5000 := by rw [hz1.out, headE_length]; decide
       obtain ⟨fn, tmps, assign, body, hy, hR⟩ := hY [] (A1, c1, zs) w1 (hJ _ _ _ h0 hB1) ⟨hown1.bytes, hlz⟩ (by simp)
       simp only [encP] at hy))
  refine hR.mono ?_
  clear hR hy
  rintro e W3 (⟨rfl, hJ3, hB3, hk3, _⟩ | ⟨rfl, hJx3⟩)
  · have hrow3 : RowAt W3 Bs 24 s.val := hk3.trans (hrow.step hB1)
    have x3 := hrow3.cellD 3 _ rfl
    have hBz3 : B0 ≤ W3.heap.size := by have := hrow.lt; have := hB1.size; have := hB3.size; omega
    have hrecs3 : RecsAt W3 B0 s.A s.recs := (hrecs.below (hB1.mono (by have := hrow.lt; omega))).below hB3
    have hq3 : bytesOf ([] ++ [(A1, c1, zs)]) = partsK s 0 := by
      show [zs] = _
      rw [hz1.out]
      rfl
    replace hq3 := Lib.hid hq3
    generalize ([] ++ [(A1, c1, zs)] : List Piece) = q3 at hJ3 hq3
    have hmI : (s.recs.length : Int) ≤ 64 := by omega
    clear hhd hrecs hB1 hB3 hown1 hz1 hlz hk3 h0 hrow hrow3
    gi_wp2
    gi_loopw [14] (fun i wr => ∃ (k : Nat) (q : List Piece), k ≤ s.recs.length ∧ i = .int .i64 (k : Int) ∧ Hid (bytesOf q = partsK s k) ∧ J q wr ∧ RecsAt wr B0 s.A s.recs ∧ B0 ≤ wr.heap.size) (fun i _ => s.recs.length - (intOf i).toNat)
    case atStart => exact ⟨0, q3, Nat.zero_le _, rfl, hq3, hJ3, hrecs3, hBz3⟩
    case round =>
      obtain ⟨k, q, hk, rfl, hq, hJs, hrs, hBz⟩ := hrel
      by_cases hlt : k < s.recs.length
      · obtain ⟨b, o, hA, hbl, hc⟩ := hrs.1.resolve_left (fun e => by rw [e] at hlt; simp at hlt)
        have hrok := (hrs.2 _ (List.getElem_mem hlt)).bytes
        have hcap := (hrs.2 _ (List.getElem_mem hlt)).len
        have hmx := (hrs.2 _ (List.getElem_mem hlt)).most
        obtain ⟨hd1', hd2', hd3', hd4', hd5'⟩ := hdat _ (List.getElem_mem hlt)
        have hsn := Lib.hid (partsK_snoc s k hlt)
        have HXc := Lib.hid (rec_cells hc hbl k hlt (Below.refl B0 wr))
        obtain ⟨X4, hX4⟩ : ∃ X4, X4 = s.recs[k].val := ⟨_, rfl⟩
        have HX4 := Lib.hid (show X4.length = 4 by rw [hX4]; rfl)
        have HXo := Lib.hid (show ∀ v ∈ X4, v.oneCell' = true by rw [hX4]; exact rec_one _)
        rw [← hX4] at HXc
        have hxr : X4 = [.int .i64 s.recs[k].fr, .int .i64 s.recs[k].ct, .bool s.recs[k].zs, .slice s.recs[k].A s.recs[k].data.length s.recs[k].cap] := hX4
        have hk0 : (0 : Int) ≤ (k : Int) := by omega
        have hk1 : (k : Int) < (s.recs.length : Int) := by omega
        have hd1 : decide ((k : Int) < (s.recs.length : Int)) = true := decide_eq_true hk1
        have hql : q.length < s.recs.length + 1 := by
          have h := congrArg List.length hq.out
          rw [partsK_len s k hk, bytesOf, List.length_map] at h
          omega
        clear hX4 hc
        generalize s.recs[k] = r at hrok hcap hmx hsn hxr hd1' hd2' hd3' hd4' hd5'
        have c1 := Lib.hid (put_b (IntKind.u64.wrap r.fr) (u r.fr) 2 (wrap_u (by omega) (by omega)) (by omega) (by omega))
        have c2 := Lib.hid (put_b (IntKind.u64.wrap r.ct) (u r.ct) 2 (wrap_u (by omega) (by omega)) (by omega) (by omega))
        have hrp := Lib.hid (recP_at r)
        have hrl := Lib.hid (recP_len r)
        have hrf := Lib.hid (recP_flat r)
        have hrL := Lib.hid (recL_length r)
        have hrE := Lib.hid (recE_length r)
        have hdl := Lib.hid hd1'
        have hko : kindOf r = if r.zs then 2 else 1 := rfl
        clear hd1' hd2' hd3' hd4' hd5' hmx
        rw [hA]
        cases hzz : r.zs
        · rw [hzz] at hxr hko
          replace hxr := Lib.hid hxr
          gi_upto_region 7 with (first
            | (refine wpListIn_load_cells (fun _ => trivial) 17 rfl 39 (.tmp 16) rfl ⟨b, o + k * 4, none⟩ X4 rfl rfl HXc.out 4 HX4.out Try.isAgg39 Try.sizeOf39 ?_)
            | (refine wpListIn_alloc_row (fun _ => trivial) 4 rfl 39 rfl _ rfl zero_rec ?_; intro w3 hr3 hs3 hB3; clear hs3)
            | (refine wpListIn_store_part (fun _ => trivial) 39 (.tmp 4) (.tmp 17) rfl hr3 0 X4 rfl rfl rfl (by rw [HX4.out]; exact Try.sizeOf39) (by rw [HX4.out]; decide) HXo.out ?_
               intro w4 hrx hs4 hg4
               clear hs4
               rw [splice_all _ _ (by rw [HX4.out]; rfl)] at hrx
               have e2 := hrx.cellD 2 _ (by rw [hxr.out]; rfl)))
          have hB4 : Below wr.heap.size wr w4 := hB3.grown hg4 hB3.size (fun j e => by cases e; exact Nat.le_refl _)
          have d0 : Since w4 w4.drew := (Since.refl w4).drew
          have hb0 : BytesAt w4 w4.heap.size r.A r.data := (hrok.below (hB4.mono hBz)).more (Nat.le_trans hBz hB4.size)
          replace hb0 := hb0.step d0
          have r0 := hrx.step d0
          clear hr3 hB3 hg4 e2
          refine wpIn_region_H (fun W => RowAt W wr.heap.size 39 X4) 18 rfl (by kernel_rfl) ?_
          -- <held1
          refine whi_take 0 (.func (.yield l) #[] #[]) rfl (by kernel_rfl) (by kernel_rfl) (fun _ _ _ h => h) (by kernel_rfl) (fun _ _ => by kernel_rfl) ?_
          refine whi_take 1 (.int .u8 1) rfl (by kernel_rfl) (by kernel_rfl) (fun _ _ _ h => h) (by kernel_rfl) (fun _ _ => by kernel_rfl) ?_
          refine whi_take 3 (.pointer (some ⟨wr.heap.size, 0, none⟩)) rfl (by kernel_rfl) (by kernel_rfl) (fun _ _ _ h => h) (by kernel_rfl) (fun _ _ => by kernel_rfl) ?_
          refine whi_take 4 (.int .i64 r.fr) rfl (by kernel_rfl) (by kernel_rfl) (fun _ _ _ h => h) (by kernel_rfl) (fun W h => exec_load_cell 3 (.tmp 23) rfl ⟨wr.heap.size, 0, none⟩ _ (by kernel_rfl) (h.cellD 0 _ (by rw [hxr.out]; rfl)) Try.isAgg3) ?_
          refine whi_take 5 (.int .u64 (IntKind.u64.wrap r.fr)) rfl (by kernel_rfl) (by kernel_rfl) (fun _ _ _ h => h) (by kernel_rfl) (fun _ _ => by kernel_rfl) ?_
          refine whi_take 7 (.pointer (some ⟨wr.heap.size, 1, none⟩)) rfl (by kernel_rfl) (by kernel_rfl) (fun _ _ _ h => h) (by kernel_rfl) (fun _ _ => by kernel_rfl) ?_
          refine whi_take 8 (.int .i64 r.ct) rfl (by kernel_rfl) (by kernel_rfl) (fun _ _ _ h => h) (by kernel_rfl) (fun W h => exec_load_cell 3 (.tmp 27) rfl ⟨wr.heap.size, 1, none⟩ _ (by kernel_rfl) (h.cellD 1 _ (by rw [hxr.out]; rfl)) Try.isAgg3) ?_
          refine whi_take 9 (.int .u64 (IntKind.u64.wrap r.ct)) rfl (by kernel_rfl) (by kernel_rfl) (fun _ _ _ h => h) (by kernel_rfl) (fun _ _ => by kernel_rfl) ?_
          refine whi_take 11 (.pointer (some ⟨wr.heap.size, 3, none⟩)) rfl (by kernel_rfl) (by kernel_rfl) (fun _ _ _ h => h) (by kernel_rfl) (fun _ _ => by kernel_rfl) ?_
          refine whi_take 12 (.slice r.A r.data.length r.cap) rfl (by kernel_rfl) (by kernel_rfl) (fun _ _ _ h => h) (by kernel_rfl) (fun W h => exec_load_cell 25 (.tmp 31) rfl ⟨wr.heap.size, 3, none⟩ _ (by kernel_rfl) (h.cellD 3 _ (by rw [hxr.out]; rfl)) Try.isAgg25) ?_
          refine whi_two 2 6 (by kernel_rfl) r0 ?_ ?_
          · obtain ⟨W1, hw1, gl, hb1⟩ := lit_run w4.drew 5 #[.int .u8 1] [1] rfl
            refine woi_run 2 (v := .slice (some ⟨w4.drew.heap.size, 0, none⟩) 1 1) (w' := W1) rfl (by kernel_rfl) (by rw [hw1]; kernel_rfl) ?_
            have d1 := d0.then_ hb1
            have r1 := r0.step hb1
            have fdt_1 := hb0.step hb1
            refine whi_one 6 (by kernel_rfl) r1 ?_
            refine woi_call 6 31 #[.int .u64 (IntKind.u64.wrap r.fr), .int .i64 2] rfl (by kernel_rfl) (fun _ => by kernel_rfl) ?_
            refine (c1.out _).mono ?_
            rintro e W2 ⟨Ap, cp, rfl, gp, hb2⟩
            have d2 := d1.then_ hb2
            have r2 := r1.step hb2
            have fdt_2 := fdt_1.step hb2
            have fl_2 := gl.step hb2
            refine ⟨_, rfl, ?_⟩
            refine whi_one 10 (by kernel_rfl) r2 ?_
            refine woi_call 10 31 #[.int .u64 (IntKind.u64.wrap r.ct), .int .i64 2] rfl (by kernel_rfl) (fun _ => by kernel_rfl) ?_
            refine (c2.out _).mono ?_
            rintro e W3 ⟨Aq, cq, rfl, gq, hb3⟩
            have d3 := d2.then_ hb3
            have r3 := r2.step hb3
            have fdt_3 := fdt_2.step hb3
            have fl_3 := fl_2.step hb3
            have fp_3 := gp.step hb3
            refine ⟨_, rfl, ?_⟩
            obtain ⟨W4, hw4, hpt, hb4⟩ := hrp.out W3 _ _ _ 1 cp cq (by rw [hko]; exact fl_3) fp_3 gq fdt_3
            refine whi_one 13 (by kernel_rfl) r3 ?_
            refine woi_run 13 (v := .slice (some ⟨W3.heap.size, 0, none⟩) 4 4) (w' := W4) rfl (by kernel_rfl) (by rw [hw4]; kernel_rfl) ?_
            have d4 := d3.then_ hb4
            have r4 := r3.step hb4
            refine whi_one 14 (by kernel_rfl) r4 ?_
            refine woi_call 14 30 #[.slice (some ⟨W3.heap.size, 0, none⟩) 4 4] rfl (by kernel_rfl) (fun _ => by kernel_rfl) ?_
            refine (concat_b (w := w4) _ 4 4 (recP r) rfl (by rw [hrl.out]; have := hdl.out; omega) (by decide) d4 hpt).mono ?_
            rintro e W5 ⟨zs, Az, cz, rfl, hzs, hown, hbz⟩
            have d5 : Since w4 W5 := hbz
            have r5 := hrx.step hbz
            rw [hrf.out] at hzs
            refine ⟨_, rfl, ?_⟩
            refine whi_one 15 (by kernel_rfl) r5 ?_
            refine woi_call 15 49 #[.slice Az zs.length cz] rfl (by kernel_rfl) (fun _ => by kernel_rfl) ?_
            refine (checked_calls Az cz zs.length zs rfl (by rw [hzs.out, hrL.out]; have := hdl.out; omega) w4.heap.size _ hbz.size hown).mono ?_
            rintro e W6 ⟨ys, Ay, cy, rfl, hys, howny, hby⟩
            rw [hzs.out] at hys
            have d6 : Since w4 W6 := hbz.trans hby
            have r6 := hrx.step d6
            refine ⟨_, rfl, ?_⟩
            refine whi_one 16 (by kernel_rfl) r6 ?_
            have hyl : ys.length ≤ 5000 := by rw [show ys = recE r from hys.out, hrE.out]; have := hdl.out; omega
            refine woi_yield 16 l #[.slice Ay ys.length cy] rfl (by kernel_rfl) (hY q (Ay, cy, ys) W6 (hJ _ _ _ hJs (bthen hB4 d6)) ⟨howny.bytes, hyl⟩ hql) (fun x h => exec_yield (.tmp 20) (.tmp 35) 25 rfl (by kernel_rfl) _ (by kernel_rfl) h) ?_
            rintro e Wy (⟨rfl, hJy, hBy, hky, hRy⟩ | ⟨rfl, hJxy⟩)
            rotate_left
            · exact (hJx _ _ hJxy).elim
            have ry := hRy _ _ r6
            have hBz2 : B0 ≤ Wy.heap.size := Nat.le_trans (Nat.le_trans hBz (bthen hB4 d6).size) hBy.size
            have hrs2 := (hrs.below ((bthen hB4 d6).mono hBz)).below hBy
            refine ⟨_, rfl, ?_⟩
            refine whi_take 17 (.bool false) rfl (by kernel_rfl) (by kernel_rfl) (fun _ _ _ h => h) (by kernel_rfl) (fun _ _ => by kernel_rfl) ?_
            refine whi_done (by kernel_rfl) ry ?_
            simp only [Act.put, List.setIfInBounds_toArray, List.set_cons_zero, List.set_cons_succ]
            gi_wp2
            go_roundw
            case rel => exact ⟨k + 1, q ++ [(Ay, cy, ys)], by omega, by go_num, Lib.hid (by rw [bytesOf_snoc, hq.out, hsn.out]; exact congrArg (fun y => partsK s k ++ [y]) hys.out), hJy, hA ▸ hrs2, hBz2⟩
            case measure => simp [intOf]; omega
          · refine woi_call 6 31 #[.int .u64 (IntKind.u64.wrap r.fr), .int .i64 2] rfl (by kernel_rfl) (fun _ => by kernel_rfl) ?_
            refine (c1.out _).mono ?_
            rintro e W1 ⟨Ap, cp, rfl, gp, hb1⟩
            have d1 := d0.then_ hb1
            have r1 := r0.step hb1
            have fdt_1 := hb0.step hb1
            refine ⟨_, rfl, ?_⟩
            refine whi_two 2 10 (by kernel_rfl) r1 ?_ ?_
            · obtain ⟨W2, hw2, gl, hb2⟩ := lit_run W1 5 #[.int .u8 1] [1] rfl
              refine woi_run 2 (v := .slice (some ⟨W1.heap.size, 0, none⟩) 1 1) (w' := W2) rfl (by kernel_rfl) (by rw [hw2]; kernel_rfl) ?_
              have d2 := d1.then_ hb2
              have r2 := r1.step hb2
              have fdt_2 := fdt_1.step hb2
              have fp_2 := gp.step hb2
              refine whi_one 10 (by kernel_rfl) r2 ?_
              refine woi_call 10 31 #[.int .u64 (IntKind.u64.wrap r.ct), .int .i64 2] rfl (by kernel_rfl) (fun _ => by kernel_rfl) ?_
              refine (c2.out _).mono ?_
              rintro e W3 ⟨Aq, cq, rfl, gq, hb3⟩
              have d3 := d2.then_ hb3
              have r3 := r2.step hb3
              have fdt_3 := fdt_2.step hb3
              have fp_3 := fp_2.step hb3
              have fl_3 := gl.step hb3
              refine ⟨_, rfl, ?_⟩
              obtain ⟨W4, hw4, hpt, hb4⟩ := hrp.out W3 _ _ _ 1 cp cq (by rw [hko]; exact fl_3) fp_3 gq fdt_3
              refine whi_one 13 (by kernel_rfl) r3 ?_
              refine woi_run 13 (v := .slice (some ⟨W3.heap.size, 0, none⟩) 4 4) (w' := W4) rfl (by kernel_rfl) (by rw [hw4]; kernel_rfl) ?_
              have d4 := d3.then_ hb4
              have r4 := r3.step hb4
              refine whi_one 14 (by kernel_rfl) r4 ?_
              refine woi_call 14 30 #[.slice (some ⟨W3.heap.size, 0, none⟩) 4 4] rfl (by kernel_rfl) (fun _ => by kernel_rfl) ?_
              refine (concat_b (w := w4) _ 4 4 (recP r) rfl (by rw [hrl.out]; have := hdl.out; omega) (by decide) d4 hpt).mono ?_
              rintro e W5 ⟨zs, Az, cz, rfl, hzs, hown, hbz⟩
              have d5 : Since w4 W5 := hbz
              have r5 := hrx.step hbz
              rw [hrf.out] at hzs
              refine ⟨_, rfl, ?_⟩
              refine whi_one 15 (by kernel_rfl) r5 ?_
              refine woi_call 15 49 #[.slice Az zs.length cz] rfl (by kernel_rfl) (fun _ => by kernel_rfl) ?_
              refine (checked_calls Az cz zs.length zs rfl (by rw [hzs.out, hrL.out]; have := hdl.out; omega) w4.heap.size _ hbz.size hown).mono ?_
              rintro e W6 ⟨ys, Ay, cy, rfl, hys, howny, hby⟩
              rw [hzs.out] at hys
              have d6 : Since w4 W6 := hbz.trans hby
              have r6 := hrx.step d6
              refine ⟨_, rfl, ?_⟩
              refine whi_one 16 (by kernel_rfl) r6 ?_
              have hyl : ys.length ≤ 5000 := by rw [show ys = recE r from hys.out, hrE.out]; have := hdl.out; omega
              refine woi_yield 16 l #[.slice Ay ys.length cy] rfl (by kernel_rfl) (hY q (Ay, cy, ys) W6 (hJ _ _ _ hJs (bthen hB4 d6)) ⟨howny.bytes, hyl⟩ hql) (fun x h => exec_yield (.tmp 20) (.tmp 35) 25 rfl (by kernel_rfl) _ (by kernel_rfl) h) ?_
              rintro e Wy (⟨rfl, hJy, hBy, hky, hRy⟩ | ⟨rfl, hJxy⟩)
              rotate_left
              · exact (hJx _ _ hJxy).elim
              have ry := hRy _ _ r6
              have hBz2 : B0 ≤ Wy.heap.size := Nat.le_trans (Nat.le_trans hBz (bthen hB4 d6).size) hBy.size
              have hrs2 := (hrs.below ((bthen hB4 d6).mono hBz)).below hBy
              refine ⟨_, rfl, ?_⟩
              refine whi_take 17 (.bool false) rfl (by kernel_rfl) (by kernel_rfl) (fun _ _ _ h => h) (by kernel_rfl) (fun _ _ => by kernel_rfl) ?_
              refine whi_done (by kernel_rfl) ry ?_
              simp only [Act.put, List.setIfInBounds_toArray, List.set_cons_zero, List.set_cons_succ]
              gi_wp2
              go_roundw
              case rel => exact ⟨k + 1, q ++ [(Ay, cy, ys)], by omega, by go_num, Lib.hid (by rw [bytesOf_snoc, hq.out, hsn.out]; exact congrArg (fun y => partsK s k ++ [y]) hys.out), hJy, hA ▸ hrs2, hBz2⟩
              case measure => simp [intOf]; omega
            · refine woi_call 10 31 #[.int .u64 (IntKind.u64.wrap r.ct), .int .i64 2] rfl (by kernel_rfl) (fun _ => by kernel_rfl) ?_
              refine (c2.out _).mono ?_
              rintro e W2 ⟨Aq, cq, rfl, gq, hb2⟩
              have d2 := d1.then_ hb2
              have r2 := r1.step hb2
              have fdt_2 := fdt_1.step hb2
              have fp_2 := gp.step hb2
              refine ⟨_, rfl, ?_⟩
              obtain ⟨W3, hw3, gl, hb3⟩ := lit_run W2 5 #[.int .u8 1] [1] rfl
              refine whi_one 2 (by kernel_rfl) r2 ?_
              refine woi_run 2 (v := .slice (some ⟨W2.heap.size, 0, none⟩) 1 1) (w' := W3) rfl (by kernel_rfl) (by rw [hw3]; kernel_rfl) ?_
              have d3 := d2.then_ hb3
              have r3 := r2.step hb3
              have fdt_3 := fdt_2.step hb3
              have fp_3 := fp_2.step hb3
              have fq_3 := gq.step hb3
              obtain ⟨W4, hw4, hpt, hb4⟩ := hrp.out W3 _ _ _ 1 cp cq (by rw [hko]; exact gl) fp_3 fq_3 fdt_3
              refine whi_one 13 (by kernel_rfl) r3 ?_
              refine woi_run 13 (v := .slice (some ⟨W3.heap.size, 0, none⟩) 4 4) (w' := W4) rfl (by kernel_rfl) (by rw [hw4]; kernel_rfl) ?_
              have d4 := d3.then_ hb4
              have r4 := r3.step hb4
              refine whi_one 14 (by kernel_rfl) r4 ?_
              refine woi_call 14 30 #[.slice (some ⟨W3.heap.size, 0, none⟩) 4 4] rfl (by kernel_rfl) (fun _ => by kernel_rfl) ?_
              refine (concat_b (w := w4) _ 4 4 (recP r) rfl (by rw [hrl.out]; have := hdl.out; omega) (by decide) d4 hpt).mono ?_
              rintro e W5 ⟨zs, Az, cz, rfl, hzs, hown, hbz⟩
              have d5 : Since w4 W5 := hbz
              have r5 := hrx.step hbz
              rw [hrf.out] at hzs
              refine ⟨_, rfl, ?_⟩
              refine whi_one 15 (by kernel_rfl) r5 ?_
              refine woi_call 15 49 #[.slice Az zs.length cz] rfl (by kernel_rfl) (fun _ => by kernel_rfl) ?_
              refine (checked_calls Az cz zs.length zs rfl (by rw [hzs.out, hrL.out]; have := hdl.out; omega) w4.heap.size _ hbz.size hown).mono ?_
              rintro e W6 ⟨ys, Ay, cy, rfl, hys, howny, hby⟩
              rw [hzs.out] at hys
              have d6 : Since w4 W6 := hbz.trans hby
              have r6 := hrx.step d6
              refine ⟨_, rfl, ?_⟩
              refine whi_one 16 (by kernel_rfl) r6 ?_
              have hyl : ys.length ≤ 5000 := by rw [show ys = recE r from hys.out, hrE.out]; have := hdl.out; omega
              refine woi_yield 16 l #[.slice Ay ys.length cy] rfl (by kernel_rfl) (hY q (Ay, cy, ys) W6 (hJ _ _ _ hJs (bthen hB4 d6)) ⟨howny.bytes, hyl⟩ hql) (fun x h => exec_yield (.tmp 20) (.tmp 35) 25 rfl (by kernel_rfl) _ (by kernel_rfl) h) ?_
              rintro e Wy (⟨rfl, hJy, hBy, hky, hRy⟩ | ⟨rfl, hJxy⟩)
              rotate_left
              · exact (hJx _ _ hJxy).elim
              have ry := hRy _ _ r6
              have hBz2 : B0 ≤ Wy.heap.size := Nat.le_trans (Nat.le_trans hBz (bthen hB4 d6).size) hBy.size
              have hrs2 := (hrs.below ((bthen hB4 d6).mono hBz)).below hBy
              refine ⟨_, rfl, ?_⟩
              refine whi_take 17 (.bool false) rfl (by kernel_rfl) (by kernel_rfl) (fun _ _ _ h => h) (by kernel_rfl) (fun _ _ => by kernel_rfl) ?_
              refine whi_done (by kernel_rfl) ry ?_
              simp only [Act.put, List.setIfInBounds_toArray, List.set_cons_zero, List.set_cons_succ]
              gi_wp2
              go_roundw
              case rel => exact ⟨k + 1, q ++ [(Ay, cy, ys)], by omega, by go_num, Lib.hid (by rw [bytesOf_snoc, hq.out, hsn.out]; exact congrArg (fun y => partsK s k ++ [y]) hys.out), hJy, hA ▸ hrs2, hBz2⟩
              case measure => simp [intOf]; omega
          -- held1>
        · rw [hzz] at hxr hko
          replace hxr := Lib.hid hxr
          gi_upto_region 7 with (first
            | (refine wpListIn_load_cells (fun _ => trivial) 17 rfl 39 (.tmp 16) rfl ⟨b, o + k * 4, none⟩ X4 rfl rfl HXc.out 4 HX4.out Try.isAgg39 Try.sizeOf39 ?_)
            | (refine wpListIn_alloc_row (fun _ => trivial) 4 rfl 39 rfl _ rfl zero_rec ?_; intro w3 hr3 hs3 hB3; clear hs3)
            | (refine wpListIn_store_part (fun _ => trivial) 39 (.tmp 4) (.tmp 17) rfl hr3 0 X4 rfl rfl rfl (by rw [HX4.out]; exact Try.sizeOf39) (by rw [HX4.out]; decide) HXo.out ?_
               intro w4 hrx hs4 hg4
               clear hs4
               rw [splice_all _ _ (by rw [HX4.out]; rfl)] at hrx
               have e2 := hrx.cellD 2 _ (by rw [hxr.out]; rfl)))
          have hB4 : Below wr.heap.size wr w4 := hB3.grown hg4 hB3.size (fun j e => by cases e; exact Nat.le_refl _)
          have d0 : Since w4 w4.drew := (Since.refl w4).drew
          have hb0 : BytesAt w4 w4.heap.size r.A r.data := (hrok.below (hB4.mono hBz)).more (Nat.le_trans hBz hB4.size)
          replace hb0 := hb0.step d0
          have r0 := hrx.step d0
          clear hr3 hB3 hg4 e2
          refine wpIn_region_H (fun W => RowAt W wr.heap.size 39 X4) 18 rfl (by kernel_rfl) ?_
          -- <held2
          refine whi_take 0 (.func (.yield l) #[] #[]) rfl (by kernel_rfl) (by kernel_rfl) (fun _ _ _ h => h) (by kernel_rfl) (fun _ _ => by kernel_rfl) ?_
          refine whi_take 1 (.int .u8 2) rfl (by kernel_rfl) (by kernel_rfl) (fun _ _ _ h => h) (by kernel_rfl) (fun _ _ => by kernel_rfl) ?_
          refine whi_take 3 (.pointer (some ⟨wr.heap.size, 0, none⟩)) rfl (by kernel_rfl) (by kernel_rfl) (fun _ _ _ h => h) (by kernel_rfl) (fun _ _ => by kernel_rfl) ?_
          refine whi_take 4 (.int .i64 r.fr) rfl (by kernel_rfl) (by kernel_rfl) (fun _ _ _ h => h) (by kernel_rfl) (fun W h => exec_load_cell 3 (.tmp 23) rfl ⟨wr.heap.size, 0, none⟩ _ (by kernel_rfl) (h.cellD 0 _ (by rw [hxr.out]; rfl)) Try.isAgg3) ?_
          refine whi_take 5 (.int .u64 (IntKind.u64.wrap r.fr)) rfl (by kernel_rfl) (by kernel_rfl) (fun _ _ _ h => h) (by kernel_rfl) (fun _ _ => by kernel_rfl) ?_
          refine whi_take 7 (.pointer (some ⟨wr.heap.size, 1, none⟩)) rfl (by kernel_rfl) (by kernel_rfl) (fun _ _ _ h => h) (by kernel_rfl) (fun _ _ => by kernel_rfl) ?_
          refine whi_take 8 (.int .i64 r.ct) rfl (by kernel_rfl) (by kernel_rfl) (fun _ _ _ h => h) (by kernel_rfl) (fun W h => exec_load_cell 3 (.tmp 27) rfl ⟨wr.heap.size, 1, none⟩ _ (by kernel_rfl) (h.cellD 1 _ (by rw [hxr.out]; rfl)) Try.isAgg3) ?_
          refine whi_take 9 (.int .u64 (IntKind.u64.wrap r.ct)) rfl (by kernel_rfl) (by kernel_rfl) (fun _ _ _ h => h) (by kernel_rfl) (fun _ _ => by kernel_rfl) ?_
          refine whi_take 11 (.pointer (some ⟨wr.heap.size, 3, none⟩)) rfl (by kernel_rfl) (by kernel_rfl) (fun _ _ _ h => h) (by kernel_rfl) (fun _ _ => by kernel_rfl) ?_
          refine whi_take 12 (.slice r.A r.data.length r.cap) rfl (by kernel_rfl) (by kernel_rfl) (fun _ _ _ h => h) (by kernel_rfl) (fun W h => exec_load_cell 25 (.tmp 31) rfl ⟨wr.heap.size, 3, none⟩ _ (by kernel_rfl) (h.cellD 3 _ (by rw [hxr.out]; rfl)) Try.isAgg25) ?_
          refine whi_two 2 6 (by kernel_rfl) r0 ?_ ?_
          · obtain ⟨W1, hw1, gl, hb1⟩ := lit_run w4.drew 5 #[.int .u8 2] [2] rfl
            refine woi_run 2 (v := .slice (some ⟨w4.drew.heap.size, 0, none⟩) 1 1) (w' := W1) rfl (by kernel_rfl) (by rw [hw1]; kernel_rfl) ?_
            have d1 := d0.then_ hb1
            have r1 := r0.step hb1
            have fdt_1 := hb0.step hb1
            refine whi_one 6 (by kernel_rfl) r1 ?_
            refine woi_call 6 31 #[.int .u64 (IntKind.u64.wrap r.fr), .int .i64 2] rfl (by kernel_rfl) (fun _ => by kernel_rfl) ?_
            refine (c1.out _).mono ?_
            rintro e W2 ⟨Ap, cp, rfl, gp, hb2⟩
            have d2 := d1.then_ hb2
            have r2 := r1.step hb2
            have fdt_2 := fdt_1.step hb2
            have fl_2 := gl.step hb2
            refine ⟨_, rfl, ?_⟩
            refine whi_one 10 (by kernel_rfl) r2 ?_
            refine woi_call 10 31 #[.int .u64 (IntKind.u64.wrap r.ct), .int .i64 2] rfl (by kernel_rfl) (fun _ => by kernel_rfl) ?_
            refine (c2.out _).mono ?_
            rintro e W3 ⟨Aq, cq, rfl, gq, hb3⟩
            have d3 := d2.then_ hb3
            have r3 := r2.step hb3
            have fdt_3 := fdt_2.step hb3
            have fl_3 := fl_2.step hb3
            have fp_3 := gp.step hb3
            refine ⟨_, rfl, ?_⟩
            obtain ⟨W4, hw4, hpt, hb4⟩ := hrp.out W3 _ _ _ 1 cp cq (by rw [hko]; exact fl_3) fp_3 gq fdt_3
            refine whi_one 13 (by kernel_rfl) r3 ?_
            refine woi_run 13 (v := .slice (some ⟨W3.heap.size, 0, none⟩) 4 4) (w' := W4) rfl (by kernel_rfl) (by rw [hw4]; kernel_rfl) ?_
            have d4 := d3.then_ hb4
            have r4 := r3.step hb4
            refine whi_one 14 (by kernel_rfl) r4 ?_
            refine woi_call 14 30 #[.slice (some ⟨W3.heap.size, 0, none⟩) 4 4] rfl (by kernel_rfl) (fun _ => by kernel_rfl) ?_
            refine (concat_b (w := w4) _ 4 4 (recP r) rfl (by rw [hrl.out]; have := hdl.out; omega) (by decide) d4 hpt).mono ?_
            rintro e W5 ⟨zs, Az, cz, rfl, hzs, hown, hbz⟩
            have d5 : Since w4 W5 := hbz
            have r5 := hrx.step hbz
            rw [hrf.out] at hzs
            refine ⟨_, rfl, ?_⟩
            refine whi_one 15 (by kernel_rfl) r5 ?_
            refine woi_call 15 49 #[.slice Az zs.length cz] rfl (by kernel_rfl) (fun _ => by kernel_rfl) ?_
            refine (checked_calls Az cz zs.length zs rfl (by rw [hzs.out, hrL.out]; have := hdl.out; omega) w4.heap.size _ hbz.size hown).mono ?_
            rintro e W6 ⟨ys, Ay, cy, rfl, hys, howny, hby⟩
            rw [hzs.out] at hys
            have d6 : Since w4 W6 := hbz.trans hby
            have r6 := hrx.step d6
            refine ⟨_, rfl, ?_⟩
            refine whi_one 16 (by kernel_rfl) r6 ?_
            have hyl : ys.length ≤ 5000 := by rw [show ys = recE r from hys.out, hrE.out]; have := hdl.out; omega
            refine woi_yield 16 l #[.slice Ay ys.length cy] rfl (by kernel_rfl) (hY q (Ay, cy, ys) W6 (hJ _ _ _ hJs (bthen hB4 d6)) ⟨howny.bytes, hyl⟩ hql) (fun x h => exec_yield (.tmp 20) (.tmp 35) 25 rfl (by kernel_rfl) _ (by kernel_rfl) h) ?_
            rintro e Wy (⟨rfl, hJy, hBy, hky, hRy⟩ | ⟨rfl, hJxy⟩)
            rotate_left
            · exact (hJx _ _ hJxy).elim
            have ry := hRy _ _ r6
            have hBz2 : B0 ≤ Wy.heap.size := Nat.le_trans (Nat.le_trans hBz (bthen hB4 d6).size) hBy.size
            have hrs2 := (hrs.below ((bthen hB4 d6).mono hBz)).below hBy
            refine ⟨_, rfl, ?_⟩
            refine whi_take 17 (.bool false) rfl (by kernel_rfl) (by kernel_rfl) (fun _ _ _ h => h) (by kernel_rfl) (fun _ _ => by kernel_rfl) ?_
            refine whi_done (by kernel_rfl) ry ?_
            simp only [Act.put, List.setIfInBounds_toArray, List.set_cons_zero, List.set_cons_succ]
            gi_wp2
            go_roundw
            case rel => exact ⟨k + 1, q ++ [(Ay, cy, ys)], by omega, by go_num, Lib.hid (by rw [bytesOf_snoc, hq.out, hsn.out]; exact congrArg (fun y => partsK s k ++ [y]) hys.out), hJy, hA ▸ hrs2, hBz2⟩
            case measure => simp [intOf]; omega
          · refine woi_call 6 31 #[.int .u64 (IntKind.u64.wrap r.fr), .int .i64 2] rfl (by kernel_rfl) (fun _ => by kernel_rfl) ?_
            refine (c1.out _).mono ?_
            rintro e W1 ⟨Ap, cp, rfl, gp, hb1⟩
            have d1 := d0.then_ hb1
            have r1 := r0.step hb1
            have fdt_1 := hb0.step hb1
            refine ⟨_, rfl, ?_⟩
            refine whi_two 2 10 (by kernel_rfl) r1 ?_ ?_
            · obtain ⟨W2, hw2, gl, hb2⟩ := lit_run W1 5 #[.int .u8 2] [2] rfl
              refine woi_run 2 (v := .slice (some ⟨W1.heap.size, 0, none⟩) 1 1) (w' := W2) rfl (by kernel_rfl) (by rw [hw2]; kernel_rfl) ?_
              have d2 := d1.then_ hb2
              have r2 := r1.step hb2
              have fdt_2 := fdt_1.step hb2
              have fp_2 := gp.step hb2
              refine whi_one 10 (by kernel_rfl) r2 ?_
              refine woi_call 10 31 #[.int .u64 (IntKind.u64.wrap r.ct), .int .i64 2] rfl (by kernel_rfl) (fun _ => by kernel_rfl) ?_
              refine (c2.out _).mono ?_
              rintro e W3 ⟨Aq, cq, rfl, gq, hb3⟩
              have d3 := d2.then_ hb3
              have r3 := r2.step hb3
              have fdt_3 := fdt_2.step hb3
              have fp_3 := fp_2.step hb3
              have fl_3 := gl.step hb3
              refine ⟨_, rfl, ?_⟩
              obtain ⟨W4, hw4, hpt, hb4⟩ := hrp.out W3 _ _ _ 1 cp cq (by rw [hko]; exact fl_3) fp_3 gq fdt_3
              refine whi_one 13 (by kernel_rfl) r3 ?_
              refine woi_run 13 (v := .slice (some ⟨W3.heap.size, 0, none⟩) 4 4) (w' := W4) rfl (by kernel_rfl) (by rw [hw4]; kernel_rfl) ?_
              have d4 := d3.then_ hb4
              have r4 := r3.step hb4
              refine whi_one 14 (by kernel_rfl) r4 ?_
              refine woi_call 14 30 #[.slice (some ⟨W3.heap.size, 0, none⟩) 4 4] rfl (by kernel_rfl) (fun _ => by kernel_rfl) ?_
              refine (concat_b (w := w4) _ 4 4 (recP r) rfl (by rw [hrl.out]; have := hdl.out; omega) (by decide) d4 hpt).mono ?_
              rintro e W5 ⟨zs, Az, cz, rfl, hzs, hown, hbz⟩
              have d5 : Since w4 W5 := hbz
              have r5 := hrx.step hbz
              rw [hrf.out] at hzs
              refine ⟨_, rfl, ?_⟩
              refine whi_one 15 (by kernel_rfl) r5 ?_
              refine woi_call 15 49 #[.slice Az zs.length cz] rfl (by kernel_rfl) (fun _ => by kernel_rfl) ?_
              refine (checked_calls Az cz zs.length zs rfl (by rw [hzs.out, hrL.out]; have := hdl.out; omega) w4.heap.size _ hbz.size hown).mono ?_
              rintro e W6 ⟨ys, Ay, cy, rfl, hys, howny, hby⟩
              rw [hzs.out] at hys
              have d6 : Since w4 W6 := hbz.trans hby
              have r6 := hrx.step d6
              refine ⟨_, rfl, ?_⟩
              refine whi_one 16 (by kernel_rfl) r6 ?_
              have hyl : ys.length ≤ 5000 := by rw [show ys = recE r from hys.out, hrE.out]; have := hdl.out; omega
              refine woi_yield 16 l #[.slice Ay ys.length cy] rfl (by kernel_rfl) (hY q (Ay, cy, ys) W6 (hJ _ _ _ hJs (bthen hB4 d6)) ⟨howny.bytes, hyl⟩ hql) (fun x h => exec_yield (.tmp 20) (.tmp 35) 25 rfl (by kernel_rfl) _ (by kernel_rfl) h) ?_
              rintro e Wy (⟨rfl, hJy, hBy, hky, hRy⟩ | ⟨rfl, hJxy⟩)
              rotate_left
              · exact (hJx _ _ hJxy).elim
              have ry := hRy _ _ r6
              have hBz2 : B0 ≤ Wy.heap.size := Nat.le_trans (Nat.le_trans hBz (bthen hB4 d6).size) hBy.size
              have hrs2 := (hrs.below ((bthen hB4 d6).mono hBz)).below hBy
              refine ⟨_, rfl, ?_⟩
              refine whi_take 17 (.bool false) rfl (by kernel_rfl) (by kernel_rfl) (fun _ _ _ h => h) (by kernel_rfl) (fun _ _ => by kernel_rfl) ?_
              refine whi_done (by kernel_rfl) ry ?_
              simp only [Act.put, List.setIfInBounds_toArray, List.set_cons_zero, List.set_cons_succ]
              gi_wp2
              go_roundw
              case rel => exact ⟨k + 1, q ++ [(Ay, cy, ys)], by omega, by go_num, Lib.hid (by rw [bytesOf_snoc, hq.out, hsn.out]; exact congrArg (fun y => partsK s k ++ [y]) hys.out), hJy, hA ▸ hrs2, hBz2⟩
              case measure => simp [intOf]; omega
            · refine woi_call 10 31 #[.int .u64 (IntKind.u64.wrap r.ct), .int .i64 2] rfl (by kernel_rfl) (fun _ => by kernel_rfl) ?_
              refine (c2.out _).mono ?_
              rintro e W2 ⟨Aq, cq, rfl, gq, hb2⟩
              have d2 := d1.then_ hb2
              have r2 := r1.step hb2
              have fdt_2 := fdt_1.step hb2
              have fp_2 := gp.step hb2
              refine ⟨_, rfl, ?_⟩
              obtain ⟨W3, hw3, gl, hb3⟩ := lit_run W2 5 #[.int .u8 2] [2] rfl
              refine whi_one 2 (by kernel_rfl) r2 ?_
              refine woi_run 2 (v := .slice (some ⟨W2.heap.size, 0, none⟩) 1 1) (w' := W3) rfl (by kernel_rfl) (by rw [hw3]; kernel_rfl) ?_
              have d3 := d2.then_ hb3
              have r3 := r2.step hb3
              have fdt_3 := fdt_2.step hb3
              have fp_3 := fp_2.step hb3
              have fq_3 := gq.step hb3
              obtain ⟨W4, hw4, hpt, hb4⟩ := hrp.out W3 _ _ _ 1 cp cq (by rw [hko]; exact gl) fp_3 fq_3 fdt_3
              refine whi_one 13 (by kernel_rfl) r3 ?_
              refine woi_run 13 (v := .slice (some ⟨W3.heap.size, 0, none⟩) 4 4) (w' := W4) rfl (by kernel_rfl) (by rw [hw4]; kernel_rfl) ?_
              have d4 := d3.then_ hb4
              have r4 := r3.step hb4
              refine whi_one 14 (by kernel_rfl) r4 ?_
              refine woi_call 14 30 #[.slice (some ⟨W3.heap.size, 0, none⟩) 4 4] rfl (by kernel_rfl) (fun _ => by kernel_rfl) ?_
              refine (concat_b (w := w4) _ 4 4 (recP r) rfl (by rw [hrl.out]; have := hdl.out; omega) (by decide) d4 hpt).mono ?_
              rintro e W5 ⟨zs, Az, cz, rfl, hzs, hown, hbz⟩
              have d5 : Since w4 W5 := hbz
              have r5 := hrx.step hbz
              rw [hrf.out] at hzs
              refine ⟨_, rfl, ?_⟩
              refine whi_one 15 (by kernel_rfl) r5 ?_
              refine woi_call 15 49 #[.slice Az zs.length cz] rfl (by kernel_rfl) (fun _ => by kernel_rfl) ?_
              refine (checked_calls Az cz zs.length zs rfl (by rw [hzs.out, hrL.out]; have := hdl.out; omega) w4.heap.size _ hbz.size hown).mono ?_
              rintro e W6 ⟨ys, Ay, cy, rfl, hys, howny, hby⟩
              rw [hzs.out] at hys
              have d6 : Since w4 W6 := hbz.trans hby
              have r6 := hrx.step d6
              refine ⟨_, rfl, ?_⟩
              refine whi_one 16 (by kernel_rfl) r6 ?_
              have hyl : ys.length ≤ 5000 := by rw [show ys = recE r from hys.out, hrE.out]; have := hdl.out; omega
              refine woi_yield 16 l #[.slice Ay ys.length cy] rfl (by kernel_rfl) (hY q (Ay, cy, ys) W6 (hJ _ _ _ hJs (bthen hB4 d6)) ⟨howny.bytes, hyl⟩ hql) (fun x h => exec_yield (.tmp 20) (.tmp 35) 25 rfl (by kernel_rfl) _ (by kernel_rfl) h) ?_
              rintro e Wy (⟨rfl, hJy, hBy, hky, hRy⟩ | ⟨rfl, hJxy⟩)
              rotate_left
              · exact (hJx _ _ hJxy).elim
              have ry := hRy _ _ r6
              have hBz2 : B0 ≤ Wy.heap.size := Nat.le_trans (Nat.le_trans hBz (bthen hB4 d6).size) hBy.size
              have hrs2 := (hrs.below ((bthen hB4 d6).mono hBz)).below hBy
              refine ⟨_, rfl, ?_⟩
              refine whi_take 17 (.bool false) rfl (by kernel_rfl) (by kernel_rfl) (fun _ _ _ h => h) (by kernel_rfl) (fun _ _ => by kernel_rfl) ?_
              refine whi_done (by kernel_rfl) ry ?_
              simp only [Act.put, List.setIfInBounds_toArray, List.set_cons_zero, List.set_cons_succ]
              gi_wp2
              go_roundw
              case rel => exact ⟨k + 1, q ++ [(Ay, cy, ys)], by omega, by go_num, Lib.hid (by rw [bytesOf_snoc, hq.out, hsn.out]; exact congrArg (fun y => partsK s k ++ [y]) hys.out), hJy, hA ▸ hrs2, hBz2⟩
              case measure => simp [intOf]; omega
          -- held2>
      · obtain rfl : k = s.recs.length := by omega
        have hd1 : decide ((s.recs.length : Int) < (s.recs.length : Int)) = false := decide_eq_false (by omega)
        gi_wp2
        go_end0
        exact ⟨⟨_, rfl⟩, .inl ⟨q, hq.out.trans (partsK_all s), hJs⟩⟩
  · exact (hJx _ _ hJx3).elim
end Go.Proofs.Ytdglkjpdhnnpnaa
