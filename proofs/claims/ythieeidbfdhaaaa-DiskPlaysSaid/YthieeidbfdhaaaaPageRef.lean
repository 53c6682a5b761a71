/-
  revetmentref05.Encode: a marked sector's bytes, by definition.
-/
import Derived.Test.YthieeidbfdhaaaaPageEnc
namespace Go.Proofs.Ythieeidbfdhaaaa
open Go Go.RowKit Go.Shelf

theorem rput_n (z kz : Int) (n : UInt64) (k : Nat) (hz : z = (n.toNat : Int)) (hk : kz = (k : Int)) (h1 : 1 ≤ k) (h2 : k ≤ 16) (w : World) :
    Calls Try.prog 51 #[.int .u64 z, .int .i64 kz] w fun e w' => (∃ A c, e = .returned (.slice A k c) ∧ OwnB w' w.heap.size 5 A c (bytesN n k)) ∧ Below w.heap.size w w' := by
  subst hz hk
  have hp : putN n (k : Int) = bytesN n k := by
    unfold putN
    rw [if_neg (by omega)]
    simp
  have h := rput_calls n k w
  rw [hp] at h
  refine h.mono ?_
  rintro e w' ⟨⟨A, c, rfl, hown⟩, hB⟩
  exact ⟨⟨A, c, by rw [bytesN_length], hown⟩, hB⟩

theorem keep1 {w0 w w' : World} {p : Addr} {u : Value} (h : Since w0 w ∧ w.cell? p = some u) (hb : Below w.heap.size w w') : Since w0 w' ∧ w'.cell? p = some u :=
  ⟨h.1.then_ hb, (hb.cell (World.block_lt_of_cell? w _ h.2)).trans h.2⟩

set_option maxHeartbeats 4000000 in
theorem rencode_calls (s : Sec) (hb : s.body.length = 48) (h1 : -9223372036854775808 ≤ s.idx) (h2 : s.idx ≤ 9223372036854775807) (w : World) :
    Calls Try.prog 34 #[s.val] w fun e w' => e = .returned (.tuple #[vb (encode s).1, .int .i64 (encode s).2]) ∧ Below w.heap.size w w' := by
  by_cases hok : s.ok = true
  · have he : encode s = (s.enc, 0) := by unfold encode; rw [if_pos hok]
    rw [he]
    have hh : s.mark ≠ 0 ∧ 0 ≤ s.idx ∧ s.idx ≤ 65535 := by simpa [Sec.ok] using hok
    clear hok he
    obtain ⟨h0, hi0, hi1⟩ := hh
    have hd0 : ((s.mark.toNat : Int) == 0) = false := by
      have := eq_u8_0 (a := s.mark)
      cases hx : ((s.mark.toNat : Int) == 0)
      · rfl
      · exact absurd (this.1 hx) h0
    have hd1 : decide (s.idx < 0) = false := decide_eq_false (by omega)
    have hd2 : decide (65535 < s.idx) = false := decide_eq_false (by omega)
    have hz4 : IntKind.u64.wrap (s.seq.toNat : Int) = (s.seq.toUInt64.toNat : Int) := by
      have := s.seq.toNat_lt
      rw [IntKind.wrap_u64, UInt32.toNat_toUInt64]
      omega
    have hz2 : IntKind.u64.wrap s.idx = ((UInt64.ofNat s.idx.toNat).toNat : Int) := by rw [IntKind.wrap_u64, UInt64.toNat_ofNat']; omega
    replace hz4 := Lib.hid hz4
    replace hz2 := Lib.hid hz2
    go_enter Try.func34, Try.ntmps34
    go_upto_region 3 with (first
        | (with_reducible show wpList _ _ _ (_ :: _) _ _; refine wpList_box_row 1 rfl 69 _ rfl s.cells rfl rfl ?_; intro wa hra hsa hBa)
        | (with_reducible show wpList _ _ _ (_ :: _) _ _; refine wpList_alloc_row 2 rfl 37 rfl _ rfl zero_block ?_; intro wb hrb hsb hBb; rw [hsa] at hrb hsb; have hrB := hra.step hBb; have hc0 := hrB.cellD 0 _ rfl; have hc2 := hrB.cellD 2 _ rfl))
    go_cut [4] from 20 to 27 (fun v wx => ∃ zs A c, v = .slice A zs.length c ∧ Hid (zs = [s.mark] ++ bytesN s.seq.toUInt64 4) ∧ OwnB wx wb.heap.size 5 A c zs ∧ Below wb.heap.size wb wx)
    case first =>
      have hS0 : Since wb wb.drew ∧ wb.drew.cell? ⟨w.heap.size, 0, none⟩ = some (B8 s.mark) ∧ wb.drew.cell? ⟨w.heap.size, 1, none⟩ = some (.int .u32 (s.seq.toNat : Int)) ∧ wb.drew.cell? ⟨w.heap.size, 2, none⟩ = some (.int .i64 s.idx) :=
        ⟨(Since.refl wb).drew, hc0, hrB.cellD 1 _ rfl, hc2⟩
      have hSb : Since wb wb ∧ wb.cell? ⟨w.heap.size, 0, none⟩ = some (B8 s.mark) ∧ wb.cell? ⟨w.heap.size, 1, none⟩ = some (.int .u32 (s.seq.toNat : Int)) ∧ wb.cell? ⟨w.heap.size, 2, none⟩ = some (.int .i64 s.idx) :=
        ⟨Since.refl wb, hc0, hrB.cellD 1 _ rfl, hc2⟩
      clear hc0 hc2
      go_region_held3 (fun w' => Since wb w' ∧ w'.cell? ⟨w.heap.size, 0, none⟩ = some (B8 s.mark) ∧ w'.cell? ⟨w.heap.size, 1, none⟩ = some (.int .u32 (s.seq.toNat : Int)) ∧ w'.cell? ⟨w.heap.size, 2, none⟩ = some (.int .i64 s.idx))
        (first | exact hS0 | with_reducible exact drew3 (keep3 hSb (alloc_below _ _)) | with_reducible exact keep3 (by assumption) (alloc_below _ _) | with_reducible exact keep3 (by assumption) (by assumption) | exact keep3 hSb hb27)
        (first
          | (go_at_call_of 51 (Value.int .u64 (IntKind.u64.wrap (s.seq.toNat : Int))); refine (rput_n _ 4 s.seq.toUInt64 4 hz4.out rfl (by omega) (by omega) _).mono ?_; rintro e w26 ⟨⟨A26, c26, rfl, hown26⟩, hB26⟩; replace hown26 := Lib.hid hown26)
          | (with_reducible refine wanted_step ?_ ?_
             · rfl
             first
               | (have hA : OwnB w26 wb.heap.size 5 (some ⟨w.heap.size + 1 + 1, 0, none⟩) 1 [s.mark] := OwnB.below (w := (wb.alloc (.cells #[B8 s.mark] 5)).drew) (own_one wb hsb.symm wb.heap.size 5 s.mark (Nat.le_refl _)) hB26 (Nat.le_refl _)
                  have hb26 : Below wb.heap.size wb w26 := bthen (w := (wb.alloc (.cells #[B8 s.mark] 5)).drew) (balloc (brefl wb) (.cells #[B8 s.mark] 5)).drew hB26
                  refine wp_app hb26.size (.tmp 22) (.tmp 26) 32 rfl Try.underlying32 Try.info_byte 1 rfl hA c26 4 (bytesN_length _ _) hown26.out.bytes (by rfl) (by rfl) (by omega) ?_)
               | (have hb26 : Below wb.heap.size wb (w26.alloc (.cells #[B8 s.mark] 5)) := balloc (bthen (w := wb.drew) (brefl wb).drew hB26) (.cells #[B8 s.mark] 5)
                  have hA := own_one w26 rfl wb.heap.size 5 s.mark (bthen (w := wb.drew) (brefl wb).drew hB26).size
                  refine wp_app hb26.size (.tmp 22) (.tmp 26) 32 rfl Try.underlying32 Try.info_byte 1 rfl hA c26 4 (bytesN_length _ _) (hown26.out.bytes.alloc _) (by rfl) (by rfl) (by omega) ?_)
             intro zs27 A27 c27 w27 hz27 hown27 hg27 _
             have hb27 : Below wb.heap.size wb w27 := hb26.grown hg27 hb26.size (fun j e => (hA.lt j e).1)))
      all_goals
        go_wp2_with fail
        go_meet
        exact ⟨zs27, A27, c27, rfl, hz27, hown27, hb27⟩
    case rest =>
      obtain ⟨zs, A, c, rfl, hzs, hown, hBc⟩ := hcut
      have hzl : Hid (zs.length = 5) := Lib.hid (by rw [hzs.out, List.length_append, bytesN_length]; rfl)
      have hbody : BytesAt wb wb.heap.size (some ⟨w.heap.size, 3, none⟩) s.body := hrB.bytes 3 s.body (fun j hj => by
        rw [Nat.add_comm]
        show (s.body.map B8)[j]? = _
        simp [hj])
      have hS0 : Since wb wc.drew ∧ wc.drew.cell? ⟨w.heap.size, 2, none⟩ = some (.int .i64 s.idx) := by
        have h : Since wb wc ∧ wc.cell? ⟨w.heap.size, 2, none⟩ = some (.int .i64 s.idx) := ⟨hBc, ((hBc.cell (p := ⟨w.heap.size, 2, none⟩) (show w.heap.size < wb.heap.size by omega)).trans hc2)⟩
        exact ⟨h.1.drew, h.2⟩
      have hSb : Since wb wb ∧ wb.cell? ⟨w.heap.size, 2, none⟩ = some (.int .i64 s.idx) := ⟨Since.refl wb, hc2⟩
      clear hc0 hc2
      have hownd : OwnB wc.drew wb.heap.size 5 A c zs := hown
      have hBd : Below wb.heap.size wb wc.drew := hBc.drew
      clear hown
      go_wp2_with fail
      go_region_held3 (fun w' => Since wb w' ∧ w'.cell? ⟨w.heap.size, 2, none⟩ = some (.int .i64 s.idx))
        (first | exact hS0 | exact keep1 hSb hb36 | exact keep1 hSb hb33 | exact keep1 hSb hb32)
        (first
          | (go_at_call 51
             refine (rput_n _ 2 (UInt64.ofNat s.idx.toNat) 2 hz2.out rfl (by omega) (by omega) wc.drew).mono ?_
             rintro e w32 ⟨⟨A32, c32, rfl, hown32⟩, hB32⟩
             replace hown32 := Lib.hid hown32
             have hb32 : Below wb.heap.size wb w32 := bthen hBd hB32)
          | (with_reducible refine wanted_step ?_ ?_
             · rfl
             first
               | (have hA33 := hownd.below hB32 (Nat.le_refl _)
                  refine wp_app hb32.size (.tmp 28) (.tmp 32) 32 rfl Try.underlying32 Try.info_byte zs.length rfl hA33 c32 2 (bytesN_length _ _) hown32.out.bytes (by rfl) (by rfl) (by rw [hzl.out]; omega) ?_
                  intro zs33 A33 c33 w33 hz33 hown33 hg33 _
                  replace hown33 := Lib.hid hown33
                  have hz33l : Hid (zs33.length = 7) := Lib.hid (by rw [hz33.out, List.length_append, hzl.out, bytesN_length])
                  have hb33 : Below wb.heap.size wb w33 := hb32.grown hg33 hb32.size (fun j e => (hA33.lt j e).1))
               | (have hA36 := hown33.out
                  refine wp_app hb33.size (.tmp 33) (.tmp 35) 32 rfl Try.underlying32 Try.info_byte zs33.length rfl hA36 48 48 hb (hbody.below hb33) (by rfl) (by rfl) (by rw [hz33l.out]; omega) ?_
                  intro zs36 A36 c36 w36 hz36 hown36 hg36 _
                  replace hown36 := Lib.hid hown36
                  have hb36 : Below wb.heap.size wb w36 := hb33.grown hg36 hb33.size (fun j e => (hA36.lt j e).1))))
      have hz36h : Hid (zs36 = s.head) := Lib.hid (by
        rw [hz36.out, hz33.out, hzs.out]
        simp [Sec.head])
      have hz36l : Hid (zs36.length = 55) := Lib.hid (by rw [hz36h.out, s.head_length hb])
      have hrb36 := hrb.below hb36 (by omega)
      have ho36 := hown36.out
      clear hown36 hown33 hown32 hB32 hg33 hg36 hz36 hz33 hz33l hzs hzl hownd hA33 hA36 hb33 hb32
      go_wp2_with fail
      refine (rcheck_calls A36 c36 zs36 (by rw [hz36l.out]; omega) _ _ ho36.bytes).mono ?_
      rintro e w' ⟨rfl, rfl⟩
      go_wp2_with fail
      refine (rput_n _ 8 (check zs36) 8 rfl rfl (by omega) (by omega) _).mono ?_
      rintro e w40 ⟨⟨A40, c40, rfl, hown40⟩, hB40⟩
      have hb40 : Below wb.heap.size wb w40 := bthen hb36 hB40
      have ho40 := ho36.below hB40 (Nat.le_refl _)
      go_wp2_with (at_builtin; refine wpList_app_b hb40.size rfl (.tmp 37) (.tmp 40) 32 rfl Try.underlying32 Try.info_byte zs36.length rfl ho40 c40 8 (bytesN_length _ _) hown40.bytes (by rfl) (by rfl) (by rw [hz36l.out]; omega) ?_)
      intro zs41 A41 c41 w41 hz41 hown41 hg41 _
      have hb41 : Below wb.heap.size wb w41 := hb40.grown hg41 hb40.size (fun j e => (ho40.lt j e).1)
      have hz41l : Hid (zs41.length = 63) := Lib.hid (by rw [hz41.out, List.length_append, hz36l.out, bytesN_length])
      have he : Hid (zs41 ++ [0] = s.enc) := Lib.hid (by rw [hz41.out, hz36h.out]; rfl)
      have hrb41 := hrb.below hb41 (by omega)
      have hby41 := hown41.bytes
      clear hown40 hB40 ho40 hg41 hz41 hown41
      go_wp2_with (first
        | (refine wpList_alloc_row 5 rfl 37 rfl _ rfl zero_block ?_; intro w5 hr5 hs5 hB5)
        | (refine wpList_copy rfl (.tmp 42) (.tmp 43) 32 32 rfl 5 Try.underlying32 (by kernel_rfl) (some ⟨w41.heap.size, 0, none⟩) A41 64 64 zs41.length c41 (by rfl) (by rfl) w41.heap.size 0 ((zeros 64).map B8) 37 hr5 (zs41.map B8)
               (by rw [List.length_map, hz41l.out]; rfl) (fun _ => ⟨rfl, (hby41.step hB5).cells (by rw [hz41l.out]; decide)⟩) (by rw [List.length_map, hz41l.out]; decide) (bytes_oneCell _) ?_
           intro w44 hr44 hB44 hs44
           have hfin : splice ((zeros 64).map B8) 0 (zs41.map B8) = s.enc.map B8 := by
             have h1 : ((zeros 64).map B8).drop (0 + (zs41.map B8).length) = [B8 0] := by rw [List.length_map, hz41l.out]; rfl
             unfold splice
             rw [h1, ← he.out]
             simp
           rw [hfin] at hr44
           have hel : (s.enc.map B8).length = 64 := by rw [List.length_map, s.enc_length hb]
           have hrb44 : RowAt w44 (w.heap.size + 1) 37 ((zeros 64).map B8) := (hrb41.step hB5).below hB44 (by have := hrb41.lt; omega)
           have hBw : Below w.heap.size w w44 := (bthen (bthen (bthen hBa hBb) hb41) hB5).trans (hB44.mono (by have := hrb41.lt; omega))
           have h1E := bytes_oneCell s.enc
           obtain ⟨E, hE⟩ : ∃ E, E = s.enc.map B8 := ⟨_, rfl⟩
           rw [← hE] at hr44 hel h1E
           replace hE := Lib.hid hE
           clear hfin)
        | (refine wpList_load_part 45 rfl 37 (.tmp 5) rfl hr44 0 64 E rfl rfl (List.take_of_length_le (Nat.le_of_eq hel)) hel Try.isAgg37 Try.sizeOf37 ?_)
        | (refine wpList_store_part 37 (.tmp 2) (.tmp 45) rfl hrb44 0 E rfl rfl rfl (by rw [hel]; exact Try.sizeOf37) (by rw [hel]; decide) h1E ?_; intro w6 hr6 hs6 hg6))
      rw [splice_all _ _ (by rw [hel]; rfl)] at hr6
      refine bodyPost_ret (results_row_tmp rfl _ hr6 rfl Try.underlying37 rfl (by rw [hel]; kernel_rfl)) rfl ?_
      exact ⟨by rw [hE.out]; rfl, hBw.grown hg6 hBw.size (fun j e => by cases e; omega)⟩
  · have hno : s.mark = 0 ∨ (s.mark ≠ 0 ∧ s.idx < 0) ∨ (s.mark ≠ 0 ∧ 0 ≤ s.idx ∧ 65535 < s.idx) := by
      by_cases h0 : s.mark = 0
      · exact .inl h0
      · simp [Sec.ok, h0] at hok
        by_cases h3 : s.idx < 0
        · exact .inr (.inl ⟨h0, h3⟩)
        · exact .inr (.inr ⟨h0, by omega, hok (by omega)⟩)
    have he : encode s = (zeros 64, 11) := by unfold encode; rw [if_neg hok]
    rw [he]
    clear hok he
    rcases hno with h0 | ⟨h0, h3⟩ | ⟨h0, h3, h4⟩
    all_goals
      go_enter Try.func34, Try.ntmps34
      first
        | (have hd0 : ((s.mark.toNat : Int) == 0) = true := by simp [h0])
        | (have hd0 : ((s.mark.toNat : Int) == 0) = false := by
             have := eq_u8_0 (a := s.mark)
             cases hx : ((s.mark.toNat : Int) == 0)
             · rfl
             · exact absurd (this.1 hx) h0)
      first
        | (have hd1 : decide (s.idx < 0) = true := decide_eq_true h3)
        | (have hd1 : decide (s.idx < 0) = false := decide_eq_false (by omega))
        | skip
      first
        | (have hd2 : decide (65535 < s.idx) = true := decide_eq_true h4)
        | skip
      go_wp2_with (first
        | (refine wpList_box_row 1 rfl 69 _ rfl s.cells rfl rfl ?_; intro wa hra hsa hBa)
        | (refine wpList_alloc_row 2 rfl 37 rfl _ rfl zero_block ?_; intro wb hrb hsb hBb; rw [hsa] at hrb hsb; have hrB := hra.step hBb; have hc0 := hrB.cellD 0 _ rfl; have hc2 := hrB.cellD 2 _ rfl)
        | (refine wpList_store_part 37 (.tmp 2) (.tmp 19) rfl hrb 0 ((zeros 64).map B8) rfl rfl rfl Try.sizeOf37 (by decide) (bytes_oneCell _) ?_; intro w5 hr5 hs5 hg5))
      rw [splice_all _ _ rfl] at hr5
      refine bodyPost_ret (results_row_tmp rfl _ hr5 rfl Try.underlying37 rfl (by kernel_rfl)) rfl ?_
      exact ⟨rfl, (bthen hBa hBb).grown hg5 (bthen hBa hBb).size (fun j e => by cases e; omega)⟩

end Go.Proofs.Ythieeidbfdhaaaa
