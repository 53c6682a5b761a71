/-
  ParseHeads's walk.
-/
import Derived.Test.YtdglkjpdhnnpnaaHeadTurn
namespace Go.Proofs.Ytdglkjpdhnnpnaa
open Go Go.RowKit Go.Shelf

abbrev B32 (x : UInt32) : Value := .int .u32 (x.toNat : Int)

theorem w64_sub (b : UInt32) : wrap64 (wrap64 (b.toNat : Int) - 1) = (b.toNat : Int) - 1 := by
  have := b.toNat_lt
  unfold wrap64
  omega
theorem w64_u32 (b : UInt32) : wrap64 (b.toNat : Int) = (b.toNat : Int) := by
  have := b.toNat_lt
  unfold wrap64
  omega
theorem mod70 (a : UInt32) : ((a.toNat % 70 : Nat) : Int) = (a.toNat : Int) % 70 ∧ 0 ≤ (a.toNat : Int) % 70 ∧ (a.toNat : Int) % 70 ≤ 69 := by omega
theorem u32_bd (b : UInt32) : 0 ≤ (b.toNat : Int) ∧ (b.toNat : Int) ≤ 4294967295 := by
  have := b.toNat_lt
  omega
theorem rput_z (z : Int) (n : UInt64) (k : Nat) (hz : z = (n.toNat : Int)) (h1 : 1 ≤ k) (h2 : k ≤ 16) (w : World) :
    Calls Try.prog 27 #[.int .u64 z, .int .i64 (k : Int)] w fun e w' => (∃ A c, e = .returned (.slice A k c) ∧ OwnB w' w.heap.size 5 A c (bytesN n k)) ∧ Below w.heap.size w w' := by
  subst hz
  refine (rput_some n k h1 h2 w).mono ?_
  rintro e w' ⟨⟨A, c, rfl, hown⟩, hB⟩
  exact ⟨⟨A, c, by rw [bytesN_length], hown⟩, hB⟩
theorem app_b (w : World) (base : Nat) (hbase : base ≤ w.heap.size) {A : Option Addr} {c : Nat} {xs : List UInt8} (hown : OwnB w base 5 A c xs) {B : Nat} {A2 : Option Addr} {ys : List UInt8} (c2 n2 : Nat) (hn2 : ys.length = n2) (hy : BytesAt w B A2 ys) (hlen : xs.length + n2 ≤ 140737488355328) :
    ∃ (zs : List UInt8) (A' : Option Addr) (c' : Nat) (w' : World), Hid (zs = xs ++ ys) ∧ (∀ (o : Oper) (a : Act) (s x : Operand), o.op = .call { callee := .builtin .append, args := #[s, x], argTypes := #[25, 25] } → o.type = 25 → a.eval s = .slice A xs.length c → a.eval x = .slice A2 n2 c2 →
      (execOp a.eval o).run Try.prog w = .ok (.value (.slice A' zs.length c')) w') ∧ OwnB w' base 5 A' c' zs ∧ w.grownBy w' (A.map (·.block)) := by
  subst hn2
  obtain ⟨zs, A', c', w', hz, hr, h2, h3, _⟩ := run_append_bytes (P := Try.prog) w base 25 25 5 Try.underlying25 Try.info_byte A c xs hown B A2 c2 ys hy hlen hbase
  refine ⟨zs, A', c', w', hz, ?_, h2, h3⟩
  intro o a s x ho hty hs hx
  simp only [execOp, ho, resolve, invoke, builtin, Sem.run_bind, Sem.run_pure, Result.andThen_ok, List.map_toArray, List.map_cons, List.map_nil, hs, hx, hty, hr]
/-- A row of another type lies as it lay behind an append. -/
theorem rowNot {w w' : World} {g : Nat} {t : TypeId} {cs : List Value} (h : RowAt w g t cs) {base : Nat} {A : Option Addr} {c : Nat} {xs : List UInt8} (hown : OwnB w base 5 A c xs) (hg : w.grownBy w' (A.map (·.block))) (ht : t ≠ 5) : RowAt w' g t cs :=
  h.kept hg (fun e => by
    obtain ⟨cs', hk⟩ := hown.row _ e
    have h' : w.heap[g]? = some (.cells cs.toArray t (0, 0)) := h
    exact ne_of_type hk h' (Ne.symm ht) rfl)
theorem own_lit (w : World) (base : Nat) (hb : base ≤ w.heap.size) (bs : List UInt8) (cs : Array Value) (hcs : cs = (bs.map B8).toArray) (hl : bs.length ≤ 1000) : OwnB (w.alloc (.cells cs 5)) base 5 (some ⟨w.heap.size, 0, none⟩) bs.length bs := by
  subst hcs
  exact ⟨by simp, .inr ⟨w.heap.size, bs.length, (bs.map B8).toArray, rfl, hb, heap_alloc_new w _, Nat.le_refl _, by simp [maxLen]; omega, by simp, by rw [Nat.mul_one]; exact List.take_of_length_le (by simp)⟩⟩

attribute [local go_sem] xor_1
set_option maxRecDepth 100000 in
set_option maxHeartbeats 8000000 in
theorem parseHeads_walk (a0 b0 c0 : UInt32) (A : Option Addr) (cap : Nat) (bs : List UInt8) (w : World) (_hl : bs.length ≤ cap) (_hm : cap ≤ maxLen) (hb : BytesAt w w.heap.size A bs) :
    Calls Try.prog 10 #[.agg #[B32 a0, B32 b0, B32 c0], .slice A bs.length cap] w fun e w' => e = .returned (.bool true) ∧ Below w.heap.size w w' := by
  by_cases h5 : 500 < bs.length
  · have hd : decide ((500 : Int) < (bs.length : Int)) = true := decide_eq_true (by omega)
    go_enter Try.func10, Try.ntmps10
    go_wp2_with (refine wpList_box_row 2 rfl 54 _ rfl [B32 a0, B32 b0, B32 c0] rfl rfl ?_; intro w1 hr1 hz1 hB1; clear hz1)
    refine (wakes17_calls w1).mono ?_
    rintro e w4 ⟨rfl, hB4⟩
    go_wp2_with fail
    go_ret
    exact ⟨rfl, bthen hB1 hB4⟩
  have hd : decide ((500 : Int) < (bs.length : Int)) = false := decide_eq_false (by omega)
  have hl5 : bs.length ≤ 500 := by omega
  clear h5
  go_enter Try.func10, Try.ntmps10
  go_wp2_with (refine wpList_box_row 2 rfl 54 _ rfl [B32 a0, B32 b0, B32 c0] rfl rfl ?_; intro w1 hr1 hz1 hB1; clear hz1; have hr2 := hr1.step (alloc_below w1 (.cells #[.int .u8 82, .int .u8 86, .int .u8 83, .int .u8 49] 5)); have k0 := hr2.cellD 0 _ rfl)
  have hown2 := own_lit w1 w1.heap.size (Nat.le_refl _) [0x52, 0x56, 0x53, 0x31] #[.int .u8 82, .int .u8 86, .int .u8 83, .int .u8 49] rfl (by decide)
  have hBl := alloc_below w1 (.cells #[.int .u8 82, .int .u8 86, .int .u8 83, .int .u8 49] 5)
  have hn0 : (((a0.toNat : Int)) % 70) = ((u ((a0.toNat % 70 : Nat) : Int)).toNat : Int) := by
    have h := @wrap_u ((a0.toNat % 70 : Nat) : Int) (by omega) (by omega)
    rw [← h, IntKind.wrap_u64]
    omega
  refine (rput_z _ (u ((a0.toNat % 70 : Nat) : Int)) 2 hn0 (by omega) (by omega) _).mono ?_
  rintro e w2 ⟨⟨A2, c2, rfl, hp2⟩, hB2⟩
  have hown2' := hown2.below hB2 (Nat.le_refl _)
  have hr3 := hr2.step hB2
  have hBl2 := hBl.trans (hB2.mono hBl.size)
  clear hown2 hBl hr2 hB2 hn0 k0
  go_wp2_with (at_builtin; refine wpList_app_b hBl2.size rfl _ _ 25 rfl Try.underlying25 Try.info_byte 4 (by rfl) hown2' c2 2 (bytesN_length _ _) hp2.bytes (by rfl) (by rfl) (by omega) ?_; intro z3 A3 c3 w3 hz3 hown3 hg3 _)
  have s3' := rowNot hr3 hown2' hg3 (by decide)
  have d3' := hBl2.grown hg3 hBl2.size (fun k e => (hown2'.lt k e).1)
  have hl3 : z3.length = 6 := by rw [hz3.out, List.length_append, bytesN_length]; rfl
  clear hr3 hg3 hBl2 hown2' hp2
  go_upto_region 4 with fail
  have dd : Since w3 w3.drew := (Since.refl w3).drew
  have s3 := s3'.step dd
  have o3 := hown3.below dd (Nat.le_refl _)
  have d3 : Below w1.heap.size w1 w3.drew := d3'.trans (dd.mono d3'.size)
  clear s3' d3' hown3 dd
  refine wp_region_H (fun W => RowAt W w.heap.size 54 [B32 a0, B32 b0, B32 c0]) 12 rfl (by kernel_rfl) ?_
  -- <held1
  refine wh_take 0 (.slice A3 z3.length c3) rfl (by kernel_rfl) (by kernel_rfl) (fun _ _ _ h => h) (by kernel_rfl) (fun _ _ => by kernel_rfl) ?_
  refine wh_take 1 (.pointer (some ⟨w.heap.size, 1, none⟩)) rfl (by kernel_rfl) (by kernel_rfl) (fun _ _ _ h => h) (by kernel_rfl) (fun _ _ => by kernel_rfl) ?_
  refine wh_take 2 (B32 b0) rfl (by kernel_rfl) (by kernel_rfl) (fun _ _ _ h => h) (by kernel_rfl) (fun W h => exec_load_cell 53 (.tmp 28) rfl ⟨w.heap.size, 1, none⟩ _ (by kernel_rfl) (h.cellD 1 _ rfl) Try.isAgg53) ?_
  refine wh_take 3 (.int .u64 (IntKind.u64.wrap (b0.toNat : Int))) rfl (by kernel_rfl) (by kernel_rfl) (fun _ _ _ h => h) (by kernel_rfl) (fun _ _ => by kernel_rfl) ?_
  refine wh_take 6 (.pointer (some ⟨w.heap.size, 2, none⟩)) rfl (by kernel_rfl) (by kernel_rfl) (fun _ _ _ h => h) (by kernel_rfl) (fun _ _ => by kernel_rfl) ?_
  refine wh_take 7 (B32 c0) rfl (by kernel_rfl) (by kernel_rfl) (fun _ _ _ h => h) (by kernel_rfl) (fun W h => exec_load_cell 53 (.tmp 33) rfl ⟨w.heap.size, 2, none⟩ _ (by kernel_rfl) (h.cellD 2 _ rfl) Try.isAgg53) ?_
  refine wh_take 8 (.int .u64 (IntKind.u64.wrap (c0.toNat : Int))) rfl (by kernel_rfl) (by kernel_rfl) (fun _ _ _ h => h) (by kernel_rfl) (fun _ _ => by kernel_rfl) ?_
  refine wh_call 4 27 #[.int .u64 (IntKind.u64.wrap (b0.toNat : Int)), .int .i64 4] rfl (by kernel_rfl) (by kernel_rfl) s3 (fun _ => by kernel_rfl) ?_
  refine (rput_z _ (u (b0.toNat : Nat)) 4 (wrap_u (by omega) (by have := b0.toNat_lt; omega)) (by omega) (by omega) _).mono ?_
  rintro e W4 ⟨⟨Px, qx, rfl, hpx⟩, hb4⟩
  have s4 := s3.step hb4
  have o4 := o3.below hb4 (Nat.le_refl _)
  have d4 := d3.trans (hb4.mono (d3.size))
  refine ⟨_, rfl, ?_⟩
  obtain ⟨yx, Qx, rx, W5, hyx, hw5, o5, hg5⟩ := app_b W4 w1.heap.size d4.size o4 qx 4 (bytesN_length _ _) hpx.bytes (by omega)
  have s5 := rowNot s4 o4 hg5 (by decide)
  have d5 := d4.grown hg5 d4.size (fun k e => (o4.lt k e).1)
  refine wh_run 5 (v := .slice Qx yx.length rx) (w' := W5) rfl (by kernel_rfl) (by kernel_rfl) s4 (hw5 _ _ (.tmp 27) (.tmp 31) rfl rfl (by kernel_rfl) (by kernel_rfl)) ?_
  refine wh_call 9 27 #[.int .u64 (IntKind.u64.wrap (c0.toNat : Int)), .int .i64 4] rfl (by kernel_rfl) (by kernel_rfl) s5 (fun _ => by kernel_rfl) ?_
  refine (rput_z _ (u (c0.toNat : Nat)) 4 (wrap_u (by omega) (by have := c0.toNat_lt; omega)) (by omega) (by omega) _).mono ?_
  rintro e W6 ⟨⟨Py, qy, rfl, hpy⟩, hb6⟩
  have s6 := s5.step hb6
  have o6 := o5.below hb6 (Nat.le_refl _)
  have d6 := d5.trans (hb6.mono (d5.size))
  refine ⟨_, rfl, ?_⟩
  obtain ⟨yy, Qy, ry, W7, hyy, hw7, o7, hg7⟩ := app_b W6 w1.heap.size d6.size o6 qy 4 (bytesN_length _ _) hpy.bytes (by have := congrArg List.length hyx.out; rw [List.length_append, bytesN_length] at this; omega)
  have s7 := rowNot s6 o6 hg7 (by decide)
  have d7 := d6.grown hg7 d6.size (fun k e => (o6.lt k e).1)
  refine wh_run 10 (v := .slice Qy yy.length ry) (w' := W7) rfl (by kernel_rfl) (by kernel_rfl) s6 (hw7 _ _ (.tmp 32) (.tmp 36) rfl rfl (by kernel_rfl) (by kernel_rfl)) ?_
  refine wh_take 11 (.slice Qy yy.length ry) rfl (by kernel_rfl) (by kernel_rfl) (fun _ _ _ h => h) (by kernel_rfl) (fun _ _ => by kernel_rfl) ?_
  refine wh_done (by kernel_rfl) s7 ?_
  simp only [Act.put, List.setIfInBounds_toArray, List.set_cons_zero, List.set_cons_succ]
  -- held1>
  have hyl : yy.length = 14 := by
    have h1 := congrArg List.length hyx.out
    have h2 := congrArg List.length hyy.out
    rw [List.length_append, bytesN_length] at h1 h2
    omega
  have o7a : OwnB (W7.alloc (.cells #[.int .u8 1, .int .u8 0] 5)) w1.heap.size 5 Qy ry yy := World.ownsRow.alloc o7 _
  have d7a : Below w1.heap.size w1 (W7.alloc (.cells #[.int .u8 1, .int .u8 0] 5)) := d7.alloc d7.size _
  have hlit := lit_bytes W7 5 (0, 0) [1, 0] #[.int .u8 1, .int .u8 0] rfl
  have s7a := s7.step (alloc_below W7 (.cells #[.int .u8 1, .int .u8 0] 5))
  clear s3 s4 s5 s6 o3 o4 o5 o6 d3 d4 d5 d6 hg5 hg7 hb4 hb6 hw5 hw7
  go_wp2_with (at_builtin; refine wpList_app_b d7a.size rfl _ _ 25 rfl Try.underlying25 Try.info_byte _ rfl o7a 2 2 (by rfl) hlit (by rfl) (by rfl) (by omega) ?_; intro z5 A5 c5 w5 hz5 hown5 hg5 _)
  have s5 := rowNot s7a o7a hg5 (by decide)
  have d5 := d7a.grown hg5 d7a.size (fun k e => (o7a.lt k e).1)
  have hl5' : z5.length = 16 := by rw [hz5.out, List.length_append, hyl]; rfl
  have hL : z5 = headL ⟨((a0.toNat % 70 : Nat) : Int), (b0.toNat : Int) - 1, (c0.toNat : Int), none, 0, [default]⟩ := by
    rw [hz5.out, hyy.out, hyx.out, hz3.out]
    unfold headL
    show _ = _ ++ (_ ++ (bytesN (u ((b0.toNat : Int) - 1 + 1)) 4 ++ (_ ++ bytesN (u ((1 : Nat) : Int)) 2)))
    rw [show (b0.toNat : Int) - 1 + 1 = ((b0.toNat : Nat) : Int) by omega, show bytesN (u ((1 : Nat) : Int)) 2 = [1, 0] from rfl]
    simp only [List.append_assoc]
  clear s7a d7a o7a hlit hg5 o7 d7 s7 hz3 hyx hyy hz5
  replace hL := Lib.hid hL
  refine (rcheck_calls A5 c5 z5 (by omega) w5 _ hown5.bytes).mono ?_
  rintro e w5' ⟨rfl, rfl⟩
  go_wp2_with fail
  refine (rput_z _ (check z5) 8 rfl (by omega) (by omega) w5).mono ?_
  rintro e w6 ⟨⟨A6, c6, rfl, hp6⟩, hB6⟩
  have o6 := hown5.below hB6 (Nat.le_refl _)
  have s6 := s5.step hB6
  have d6 := d5.trans (hB6.mono d5.size)
  clear hown5 s5 d5 hB6
  obtain ⟨s1, hs1⟩ : ∃ s1 : Str, s1 = ⟨((a0.toNat % 70 : Nat) : Int), (b0.toNat : Int) - 1, (c0.toNat : Int), none, 0, [default]⟩ := ⟨_, rfl⟩
  replace hL := Lib.hid (show z5 = headL s1 by rw [hs1]; exact hL.out)
  replace hs1 := Lib.hid hs1
  have hbw : BytesAt w6 w6.heap.size A bs := hb.step (bthen hB1 d6)
  go_wp2_with (first
    | (at_builtin
       refine wpList_app_b d6.size rfl _ _ 25 rfl Try.underlying25 Try.info_byte 16 hl5' o6 c6 8 (bytesN_length _ _) hp6.bytes (by rfl) (by rfl) (by omega) ?_
       intro z6 A7 c7 w7 hz6 hown7 hg7 _
       have s7 := rowNot s6 o6 hg7 (by decide)
       have d7 := d6.grown hg7 d6.size (fun k e => (o6.lt k e).1)
       have hl6 : z6.length = 24 := by rw [hz6.out, List.length_append, bytesN_length, hl5']
       have hH : z6 = headE s1 := by rw [hz6.out, hL.out]; rfl
       have hb7 := hb.step (bthen hB1 d7)
       have he := OwnB.made w7 w7.heap.size 5 (Nat.le_refl _)
       have dBe := alloc_below w7 (.cells #[] 5)
       have o7e : OwnB (w7.alloc (.cells #[] 5)) w1.heap.size 5 A7 c7 z6 := World.ownsRow.alloc hown7 _
       clear hg7 o6 s6 d6 hp6 hz6 hL hbw
       replace hH := Lib.hid hH)
    | (at_builtin
       refine wpList_app_b dBe.size rfl _ _ 25 rfl Try.underlying25 Try.info_byte 0 (by rfl) he c7 24 hl6 o7e.bytes (by rfl) (by rfl) (by omega) ?_
       intro z8 A8 c8 w8 hz8 hown8 hg8 _
       have dB8 : Below w7.heap.size w7 w8 := dBe.grown hg8 dBe.size (fun k e => (he.lt k e).1)
       have hb8 := hb7.step dB8
       have hl8 : z8.length = 24 := by rw [hz8.out, List.nil_append, hl6]
       clear he dBe hg8 o7e)
    | (at_builtin
       refine wpList_app_b dB8.size rfl _ _ 25 rfl Try.underlying25 Try.info_byte 24 hl8 hown8 cap bs.length rfl hb8 (by rfl) (by rfl) (by omega) ?_
       intro z9 A9 c9 w9 hz9 hown9 hg9 _
       have dB9 : Below w7.heap.size w7 w9 := dB8.grown hg9 dB8.size (fun k e => (hown8.lt k e).1)
       have hl9 : z9.length ≤ 600 := by rw [hz9.out, List.length_append]; omega
       have hW9 : Hid (z9 = headE s1 ++ bs) := Lib.hid (by rw [hz9.out, hz8.out, List.nil_append, hH.out])
       clear hg9 hown8 hz9 hz8))
  refine (parse_calls A9 c9 z9 w9 hown9.bytes hown9.cap hown9.capMax (by omega)).mono ?_
  rintro e wp ⟨hBp, t, ec, rfl, _, hcode⟩
  have dBp := dB9.trans (hBp.mono dB9.size)
  have sp := s7.step dBp
  have op := hown7.below dBp (Nat.le_refl _)
  have dp := d7.trans (dBp.mono d7.size)
  replace hcode := Lib.hid hcode
  clear s7 hown7 d7 dB8 dB9 hown9 hBp dBp hl8 hl9 hb7 hb8
  go_upto_region 8 with (
    refine wpList_var_s 6 rfl rfl (.tmp 6) (.tmp 53) rfl t rfl rfl rfl rfl ?_
    intro wv hrt hBv
    have sv := sp.step hBv
    have ov := op.below hBv (Nat.le_refl _)
    have dv := dp.trans (hBv.mono dp.size)
    have k0 := sv.cellD 0 _ rfl
    have k1 := sv.cellD 1 _ rfl
    have k2 := sv.cellD 2 _ rfl
    clear hrt sp op dp hBv)
  go_region
  rw [w64_sub, w64_u32]
  obtain ⟨m1, q1, q2⟩ := mod70 a0
  obtain ⟨q3, q4⟩ := u32_bd b0
  obtain ⟨q5, q6⟩ := u32_bd c0
  have hs1' := hs1.out
  rw [m1] at hs1'
  clear m1 k0 k1 k2 hs1
  generalize (a0.toNat : Int) % 70 = bl at q1 q2 hs1' ⊢
  generalize hba : (b0.toNat : Int) - 1 = ba at hs1' ⊢
  replace q3 : -1 ≤ ba := by omega
  replace q4 : ba ≤ 4294967294 := by omega
  clear hba
  generalize (c0.toNat : Int) = id at q5 q6 hs1' ⊢
  have hHR := headR_gen s1 (by rw [hs1']; exact q1) (by rw [hs1']; show bl ≤ 65535; omega) (by rw [hs1']; show 0 ≤ ba + 1; omega) (by rw [hs1']; show ba + 1 ≤ 4294967295; omega) (by rw [hs1']; exact q5) (by rw [hs1']; exact q6) (by rw [hs1']; show 1 ≤ 65535; decide) bs
  rw [← hW9.out] at hHR
  have hsb : s1.blocks = bl := by rw [hs1']
  have hsr : s1.recs.length = 1 := by rw [hs1']; rfl
  rw [hsb, hsr] at hHR
  have hWd : Below w.heap.size w wv.drew := (bthen hB1 dv).drew
  clear hsb hsr
  have hec : ∀ c, parseR z9 = .error c → ec = c := by
    intro c h
    rcases hcode.out with ⟨_, h'⟩ | ⟨_, h', _⟩
    · rw [h] at h'
      cases h'
    · rw [h] at h'
      cases h'
      rfl
  by_cases hA : bl < 1 ∨ 64 < bl
  · rw [if_pos hA] at hHR
    obtain rfl := hec 23 (parse_head hHR)
    have hA' : bl < 1 ∨ (1 ≤ bl ∧ 64 < bl) := by omega
    clear hA hHR hcode hW9 hec hH hs1' sv ov dv
    rcases hA' with hA | ⟨hA, hA'⟩
    all_goals
      go_wp2_with fail
      refine (wakes17_calls wv.drew).mono ?_
      rintro e wq ⟨rfl, hBq⟩
      go_wp2_with fail
      go_ret
      exact ⟨rfl, bthen hWd hBq⟩
  rw [if_neg hA] at hHR
  have hA1 : 1 ≤ bl := by omega
  have hA2 : bl ≤ 64 := by omega
  clear hA
  cases hhb : headB s1
  · rw [if_pos hhb] at hHR
    obtain rfl := hec 25 (parse_head hHR)
    rw [hs1'] at hhb
    have hno := headB_no hhb
    simp only at hno
    have hno2 : id < 1 ∨ (1 ≤ id ∧ 1000000 < id) ∨ (1 ≤ id ∧ id ≤ 1000000 ∧ ba = 0) ∨ (1 ≤ id ∧ id ≤ 1000000 ∧ ba ≠ 0 ∧ id ≤ ba) := by omega
    clear hno hhb hHR hcode hW9 hec hH hs1' sv ov dv
    rcases hno2 with h | ⟨h, h'⟩ | ⟨h, h', rfl⟩ | ⟨h, h', h2, h3⟩
    all_goals
      (try have hdd : (ba == 0) = false := beq_eq_false_iff_ne.2 h2)
      (try clear h2)
      go_wp2_with fail
      refine (wakes17_calls wv.drew).mono ?_
      rintro e wq ⟨rfl, hBq⟩
      go_wp2_with fail
      go_ret
      exact ⟨rfl, bthen hWd hBq⟩
  rw [if_neg (by rw [hhb]; decide)] at hHR
  rw [hs1'] at hhb
  obtain ⟨_, _, g1, g2, g3⟩ := headB_yes hhb
  simp only at g1 g2 g3
  have hdd : (ba == 0) = false := beq_eq_false_iff_ne.2 (by omega)
  have hdg : decide (id ≤ ba) = false := decide_eq_false (by omega)
  have hz9d : z9.drop 24 = bs := by rw [hW9.out]; exact drop_app (headE_length s1)
  have hone := parse_one hz9d hHR
  have hcf : (ec != 23) = true ∧ (ec != 20) = true ∧ (5 ≤ bs.length ∨ ec = 21) := by
    rcases hone with ⟨p, hp, h5⟩ | ⟨c, hp, h1, h2, h3⟩
    · rcases hcode.out with ⟨rfl, _⟩ | ⟨_, h', _⟩
      · exact ⟨rfl, rfl, .inl h5⟩
      · rw [hp] at h'
        cases h'
    · obtain rfl := hec c hp
      exact ⟨by simpa using h1, by simpa using h2, by by_cases h : bs.length < 5; exact .inr (h3 h); exact .inl (by omega)⟩
  obtain ⟨hf1, hf2, hf3⟩ := hcf
  clear hone hz9d hHR hec hcode hhb g3 hW9
  go_upto_region 13 with fail
  have dd : Since wv wv.drew := (Since.refl wv).drew
  have oc := ov.below dd (Nat.le_refl _)
  have dc : Below w1.heap.size w1 wv.drew := dv.trans (dd.mono dv.size)
  clear dd ov dv sv
  generalize wv.drew = W at oc dc hWd ⊢
  have he := OwnB.made W W.heap.size 5 (Nat.le_refl _)
  have dBe := alloc_below W (.cells #[] 5)
  have oce : OwnB (W.alloc (.cells #[] 5)) w1.heap.size 5 A7 c7 z6 := World.ownsRow.alloc oc _
  have hbW : BytesAt W W.heap.size A bs := hb.step hWd
  go_wp2_with (first
    | (at_builtin
       refine wpList_app_b dBe.size rfl _ _ 25 rfl Try.underlying25 Try.info_byte 0 (by rfl) he c7 24 hl6 oce.bytes (by rfl) (by rfl) (by omega) ?_
       intro za Aa ca wa hza howna hga _
       have dBa : Below W.heap.size W wa := dBe.grown hga dBe.size (fun k e => (he.lt k e).1)
       have hba := hbW.step dBa
       have hla : za.length = 24 := by rw [hza.out, List.nil_append, hl6]
       clear he dBe hga oce)
    | (at_builtin
       refine wpList_app_b dBa.size rfl _ _ 25 rfl Try.underlying25 Try.info_byte 24 hla howna cap bs.length rfl hba (by rfl) (by rfl) (by omega) ?_
       intro zb Ab cb wb hzb hownb hgb _
       have dBb : Below W.heap.size W wb := dBa.grown hgb dBa.size (fun k e => (howna.lt k e).1)
       have hlb : zb.length = 24 + bs.length := by rw [hzb.out, List.length_append, hla]
       have hZ : Hid (zb = headE s1 ++ bs) := Lib.hid (by rw [hzb.out, hza.out, List.nil_append, hH.out])
       obtain ⟨g, rfl, hg0, hg1, hgc, hgf⟩ := hownb.form (by omega)
       have hck := hgc 2 (by omega)
       have hfk := hgf 2
       obtain ⟨x, hx⟩ : ∃ x, x = zb[2]?.getD 0 := ⟨_, rfl⟩
       rw [← hx] at hck
       have hx' := Lib.hid hx
       clear hgb howna hba hgc hgf hx hza hzb))
  have hset := hownb.set 2 (x ^^^ 1) (by omega)
  rw [b8_xor1] at hset
  have d3 : Below W.heap.size W (wb.setCell ⟨g, 2, none⟩ (.int .u8 ((x.toNat ^^^ 1 : Nat) : Int))) := dBb.setCell (p := ⟨g, 2, none⟩) hg0 _
  have hno := turn_magic s1 bs x (by rw [hx'.out, hZ.out])
  rw [← hZ.out] at hno
  obtain ⟨y, hy, hbk⟩ := turn_back zb x hx'.out.symm (by omega)
  have hls : (zb.set 2 (x ^^^ 1)).length = 24 + bs.length := by rw [List.length_set]; exact hlb
  clear hck hfk hownb dBb hx'
  generalize wb.setCell ⟨g, 2, none⟩ (.int .u8 ((x.toNat ^^^ 1 : Nat) : Int)) = wc at hset d3 ⊢
  generalize zb.set 2 (x ^^^ 1) = zc at hset hno hy hbk hls
  have hbkH := Lib.hid hbk
  clear hbk
  have hcap := hset.cap
  have hcm := hset.capMax
  refine (parse_no (some ⟨g, 0, none⟩) cb (24 + bs.length) zc hls 20 hno wc hset.bytes (by omega) hcm (by omega)).mono ?_
  rintro e wd ⟨rfl, hBd⟩
  have od := hset.below hBd (Nat.le_refl _)
  have d4 := d3.trans (hBd.mono d3.size)
  clear hset d3 hBd hno
  go_upto_region 16 with (
    refine wpList_var_s 12 rfl rfl (.tmp 12) (.tmp 112) rfl Str0 rfl rfl rfl rfl ?_
    intro we hrt hBe
    have oe := od.below hBe (Nat.le_refl _)
    have d5 := d4.trans (hBe.mono d4.size)
    have hoc := oe.cell 2 (by omega)
    rw [hy] at hoc
    obtain ⟨hck, hfk, hg2⟩ := hoc
    clear hrt od d4 hBe)
  go_upto_region 17 with fail
  have hset := oe.set 2 (y ^^^ 1) (by omega)
  rw [b8_xor1, hbkH.out] at hset
  have d6 : Below W.heap.size W (we.setCell ⟨g, 2, none⟩ (.int .u8 ((y.toNat ^^^ 1 : Nat) : Int))) := d5.setCell (p := ⟨g, 2, none⟩) hg0 _
  clear hck hfk oe d5 hy hbkH
  generalize we.setCell ⟨g, 2, none⟩ (.int .u8 ((y.toNat ^^^ 1 : Nat) : Int)) = wf at hset d6 ⊢
  obtain ⟨x2, hx2⟩ : ∃ x, x = zb[20]?.getD 0 := ⟨_, rfl⟩
  have hoc := hset.cell 20 (by omega)
  rw [← hx2] at hoc
  replace hx2 := Lib.hid hx2
  obtain ⟨hck, hfk, hg3⟩ := hoc
  go_upto_region 18 with fail
  have hs2 := hset.set 20 (x2 ^^^ 1) (by omega)
  rw [b8_xor1] at hs2
  have d7 : Below W.heap.size W (wf.setCell ⟨g, 20, none⟩ (.int .u8 ((x2.toNat ^^^ 1 : Nat) : Int))) := d6.setCell (p := ⟨g, 20, none⟩) hg0 _
  have hno := turn_check s1 bs x2 (by rw [hx2.out, hZ.out])
  rw [← hZ.out] at hno
  have hls2 : (zb.set 20 (x2 ^^^ 1)).length = 24 + bs.length := by rw [List.length_set]; exact hlb
  clear hck hfk hset d6 hx2
  generalize wf.setCell ⟨g, 20, none⟩ (.int .u8 ((x2.toNat ^^^ 1 : Nat) : Int)) = wg at hs2 d7 ⊢
  generalize zb.set 20 (x2 ^^^ 1) = zd at hs2 hno hls2
  go_wp2_with fail
  refine (parse_no (some ⟨g, 0, none⟩) cb (24 + bs.length) zd hls2 22 hno wg hs2.bytes (by omega) hcm (by omega)).mono ?_
  rintro e wh ⟨rfl, hBh⟩
  have d8 := d7.trans (hBh.mono d7.size)
  clear hs2 d7 hBh hno
  go_upto_region 19 with (
    refine wpList_var_s 14 rfl rfl (.tmp 14) (.tmp 127) rfl Str0 rfl rfl rfl rfl ?_
    intro wi hrt hBi
    have d9 := d8.trans (hBi.mono d8.size)
    clear hrt d8 hBi)
  by_cases hg5 : 5 ≤ bs.length
  · have hd5 : decide ((5 : Int) ≤ (bs.length : Int)) = true := decide_eq_true (by omega)
    clear hf3
    go_wp2_with fail
    refine (wakes17_calls _).mono ?_
    rintro e wj ⟨rfl, hBj⟩
    go_wp2_with fail
    go_ret
    exact ⟨rfl, bthen (bthen hWd d9) hBj⟩
  · obtain rfl := hf3.resolve_left hg5
    have hd5 : decide ((5 : Int) ≤ (bs.length : Int)) = false := decide_eq_false (by omega)
    clear hf3
    go_wp2_with fail
    refine (wakes17_calls _).mono ?_
    rintro e wj ⟨rfl, hBj⟩
    go_wp2_with fail
    go_ret
    exact ⟨rfl, bthen (bthen hWd d9) hBj⟩
end Go.Proofs.Ytdglkjpdhnnpnaa
