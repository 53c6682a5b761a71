/-
  page.Encode: a marked sector's bytes.
-/
import Derived.Test.YthieeidbfdhaaaaPagePlain
import Derived.Test.YthieeidbfdhaaaaConcat
import Derived.Test.YthieeidbfdhaaaaSteps
import Derived.Deep.Cut
import Derived.Deep.CutRange
namespace Go.Proofs.Ythieeidbfdhaaaa
open Go Go.RowKit Go.Shelf

theorem put_n (z kz : Int) (n : UInt64) (k : Nat) (hz : z = (n.toNat : Int)) (hk : kz = (k : Int)) (h1 : 1 ≤ k) (h2 : k ≤ 16) (w : World) :
    Calls Try.prog 49 #[.int .u64 z, .int .i64 kz] w fun e w' => (∃ A c, e = .returned (.slice A k c) ∧ OwnB w' w.heap.size 5 A c (bytesN n k)) ∧ Below w.heap.size w w' := by
  subst hz hk
  refine (put_some n k h1 h2 w).mono ?_
  rintro e w' ⟨⟨A, c, rfl, hown⟩, hB⟩
  exact ⟨⟨A, c, by rw [bytesN_length], hown⟩, hB⟩

theorem Sec.cells_length (s : Sec) (h : s.body.length = 48) : s.cells.length = 51 := by simp [Sec.cells, h]

theorem keep3 {w0 w w' : World} {p q r : Addr} {u v x : Value} (h : Since w0 w ∧ w.cell? p = some u ∧ w.cell? q = some v ∧ w.cell? r = some x) (hb : Below w.heap.size w w') :
    Since w0 w' ∧ w'.cell? p = some u ∧ w'.cell? q = some v ∧ w'.cell? r = some x :=
  ⟨h.1.then_ hb, (hb.cell (World.block_lt_of_cell? w _ h.2.1)).trans h.2.1, (hb.cell (World.block_lt_of_cell? w _ h.2.2.1)).trans h.2.2.1, (hb.cell (World.block_lt_of_cell? w _ h.2.2.2)).trans h.2.2.2⟩

theorem drew3 {w0 w : World} {p q r : Addr} {u v x : Value} (h : Since w0 w ∧ w.cell? p = some u ∧ w.cell? q = some v ∧ w.cell? r = some x) :
    Since w0 w.drew ∧ w.drew.cell? p = some u ∧ w.drew.cell? q = some v ∧ w.drew.cell? r = some x := ⟨h.1.drew, h.2⟩

theorem parts4 {w : World} {g : Nat} (hg : g = w.heap.size) {A1 A2 A3 A4 : Option Addr} {n1 n2 n3 n4 c1 c2 c3 c4 : Nat} {x1 x2 x3 x4 : List UInt8} (h1 : BytesAt w w.heap.size A1 x1) (h2 : BytesAt w w.heap.size A2 x2) (h3 : BytesAt w w.heap.size A3 x3) (h4 : BytesAt w w.heap.size A4 x4)
    (l1 : x1.length = n1) (l2 : x2.length = n2) (l3 : x3.length = n3) (l4 : x4.length = n4) (t : TypeId) :
    PartsAt (w.alloc (.cells #[.slice A1 n1 c1, .slice A2 n2 c2, .slice A3 n3 c3, .slice A4 n4 c4] t)) (w.alloc (.cells #[.slice A1 n1 c1, .slice A2 n2 c2, .slice A3 n3 c3, .slice A4 n4 c4] t)).heap.size (some ⟨g, 0, none⟩) [x1, x2, x3, x4] := by
  subst l1 l2 l3 l4 hg
  refine .inr ⟨w.heap.size, 0, rfl, by simp, fun j hj => ?_⟩
  have hj' : j < 4 := hj
  rcases (show j = 0 ∨ j = 1 ∨ j = 2 ∨ j = 3 by omega) with rfl | rfl | rfl | rfl
  · exact ⟨A1, c1, by rw [World.cell?_alloc_mark]; rfl, h1.alloc _⟩
  · exact ⟨A2, c2, by rw [World.cell?_alloc_mark]; rfl, h2.alloc _⟩
  · exact ⟨A3, c3, by rw [World.cell?_alloc_mark]; rfl, h3.alloc _⟩
  · exact ⟨A4, c4, by rw [World.cell?_alloc_mark]; rfl, h4.alloc _⟩

set_option maxHeartbeats 2000000 in
theorem encode_calls (s : Sec) (hb : s.body.length = 48) (h1 : -9223372036854775808 ≤ s.idx) (h2 : s.idx ≤ 9223372036854775807) (w : World) :
    Calls Try.prog 33 #[s.val] w fun e w' => e = .returned (.tuple #[vb (encode s).1, .int .i64 (encode s).2]) ∧ Below w.heap.size w w' := by
  by_cases hok : s.ok = true
  · have he : encode s = (s.enc, 0) := by unfold encode; rw [if_pos hok]
    rw [he]
    have hh : s.mark ≠ 0 ∧ 0 ≤ s.idx ∧ s.idx ≤ 65535 := by simpa [Sec.ok] using hok
    clear hok he
    obtain ⟨h0, hi0, hi1⟩ := hh
    have hd0 : ((s.mark.toNat : Int) == 0) = false := by
      have := eq_u8_0 (a := s.mark)
      cases hx : ((s.mark.toNat : Int) == 0)
      · rfl
      · exact absurd (this.1 hx) h0
    have hd1 : decide (s.idx < 0) = false := decide_eq_false (by omega)
    have hd2 : decide (65535 < s.idx) = false := decide_eq_false (by omega)
    go_enter Try.func33, Try.ntmps33
    go_upto_region 3 with (first
        | (with_reducible show wpList _ _ _ (_ :: _) _ _; refine wpList_box_row 1 rfl 65 _ rfl s.cells rfl rfl ?_; intro wa hra hsa hBa)
        | (with_reducible show wpList _ _ _ (_ :: _) _ _; refine wpList_alloc_row 2 rfl 37 rfl _ rfl zero_block ?_; intro wb hrb hsb hBb; rw [hsa] at hrb hsb; have hrB := hra.step hBb; have hc0 := hrB.cellD 0 _ rfl; have hc2 := hrB.cellD 2 _ rfl))
    go_cut [4] from 20 to 34 (fun v wx => ∃ zs A c, v = .slice A zs.length c ∧ Hid (zs = s.head) ∧ OwnB wx wb.heap.size 5 A c zs ∧ Below wb.heap.size wb wx)
    case first =>
      have hS0 : Since wb wb.drew ∧ wb.drew.cell? ⟨w.heap.size, 0, none⟩ = some (B8 s.mark) ∧ wb.drew.cell? ⟨w.heap.size, 1, none⟩ = some (.int .u32 (s.seq.toNat : Int)) ∧ wb.drew.cell? ⟨w.heap.size, 2, none⟩ = some (.int .i64 s.idx) :=
        ⟨(Since.refl wb).drew, hc0, hrB.cellD 1 _ rfl, hc2⟩
      have hSb : Since wb wb ∧ wb.cell? ⟨w.heap.size, 0, none⟩ = some (B8 s.mark) ∧ wb.cell? ⟨w.heap.size, 1, none⟩ = some (.int .u32 (s.seq.toNat : Int)) ∧ wb.cell? ⟨w.heap.size, 2, none⟩ = some (.int .i64 s.idx) :=
        ⟨Since.refl wb, hc0, hrB.cellD 1 _ rfl, hc2⟩
      clear hc0 hc2
      have hz4 : IntKind.u64.wrap (s.seq.toNat : Int) = (s.seq.toUInt64.toNat : Int) := by
        have := s.seq.toNat_lt
        rw [IntKind.wrap_u64, UInt32.toNat_toUInt64]
        omega
      have hz2 : IntKind.u64.wrap s.idx = ((UInt64.ofNat s.idx.toNat).toNat : Int) := by rw [IntKind.wrap_u64, UInt64.toNat_ofNat']; omega
      replace hz4 := Lib.hid hz4
      replace hz2 := Lib.hid hz2
      have hbody : BytesAt wb wb.heap.size (some ⟨w.heap.size, 3, none⟩) s.body := hrB.bytes 3 s.body (fun j hj => by
        rw [Nat.add_comm]
        show (s.body.map B8)[j]? = _
        simp [hj])
      have hflat : s.head = List.flatten [[s.mark], bytesN s.seq.toUInt64 4, bytesN (UInt64.ofNat s.idx.toNat) 2, s.body] := by simp [Sec.head]
      go_region_held3 (fun w' => Since wb w' ∧ w'.cell? ⟨w.heap.size, 0, none⟩ = some (B8 s.mark) ∧ w'.cell? ⟨w.heap.size, 1, none⟩ = some (.int .u32 (s.seq.toNat : Int)) ∧ w'.cell? ⟨w.heap.size, 2, none⟩ = some (.int .i64 s.idx))
        (first | exact hS0 | with_reducible exact drew3 (keep3 hSb (alloc_below _ _)) | with_reducible exact keep3 (by assumption) (alloc_below _ _) | with_reducible exact keep3 (by assumption) (by assumption))
        (first
          | (go_at_call_of 49 (Value.int .u64 (IntKind.u64.wrap (s.seq.toNat : Int))); refine (put_n _ 4 s.seq.toUInt64 4 hz4.out rfl (by omega) (by omega) _).mono ?_; rintro e w26 ⟨⟨A26, c26, rfl, hown26⟩, hB26⟩; replace hown26 := Lib.hid hown26)
          | (go_at_call_of 49 (Value.int .u64 (IntKind.u64.wrap s.idx)); refine (put_n _ 2 (UInt64.ofNat s.idx.toNat) 2 hz2.out rfl (by omega) (by omega) _).mono ?_; rintro e w30 ⟨⟨A30, c30, rfl, hown30⟩, hB30⟩; replace hown30 := Lib.hid hown30)
          | (go_at_call 48
             first
               | (have b26 := hown26.out.bytes.step hB30
                  have b30 := hown30.out.bytes
                  have b22 : BytesAt w30 w30.heap.size (some ⟨w.heap.size + 1 + 1, 0, none⟩) [s.mark] := by
                    have h1 := one_bytes wb s.mark
                    rw [hsb] at h1
                    exact (BytesAt.step (w := (wb.alloc (.cells #[B8 s.mark] 5)).drew) h1 hB26).step hB30
                  have b32 : BytesAt w30 w30.heap.size (some ⟨w.heap.size, 3, none⟩) s.body := (((hbody.alloc (.cells #[B8 s.mark] 5)).step (w := (wb.alloc (.cells #[B8 s.mark] 5)).drew) hB26)).step hB30
                  refine (concat_calls _ _ _ (by rw [← hflat, s.head_length hb]; omega) _ (parts4 (n1 := 1) rfl b22 b26 b30 b32 rfl (bytesN_length _ _) (bytesN_length _ _) hb _) (by simp)).mono ?_)
               | (have b26 := (hown26.out.bytes.alloc (.cells #[B8 s.mark] 5)).step hB30
                  have b30 := hown30.out.bytes
                  have b22 : BytesAt w30 w30.heap.size (some ⟨w26.heap.size, 0, none⟩) [s.mark] := (one_bytes w26 s.mark).step hB30
                  have b32 : BytesAt w30 w30.heap.size (some ⟨w.heap.size, 3, none⟩) s.body := ((hbody.step (w := wb.drew) hB26).alloc (.cells #[B8 s.mark] 5)).step hB30
                  refine (concat_calls _ _ _ (by rw [← hflat, s.head_length hb]; omega) _ (parts4 (n1 := 1) rfl b22 b26 b30 b32 rfl (bytesN_length _ _) (bytesN_length _ _) hb _) (by simp)).mono ?_)
               | (have b26 := (hown26.out.bytes.step hB30).alloc (.cells #[B8 s.mark] 5)
                  have b30 := hown30.out.bytes.alloc (.cells #[B8 s.mark] 5)
                  have b22 := one_bytes w30 s.mark
                  have b32 := ((hbody.step (w := wb.drew) hB26).step hB30).alloc (.cells #[B8 s.mark] 5)
                  refine (concat_calls _ _ _ (by rw [← hflat, s.head_length hb]; omega) _ (parts4 (g := w30.heap.size + 1) (n1 := 1) (by simp) b22 b26 b30 b32 rfl (bytesN_length _ _) (bytesN_length _ _) hb _) (by simp)).mono ?_)
             rintro e w34 ⟨⟨zs, A34, c34, rfl, hzs, hown34⟩, hB34⟩
             replace hzs := Lib.hid (hzs.trans hflat.symm)
             replace hown34 := Lib.hid (hown34.mono (base' := wb.heap.size) (by have := hB26.size; have := hB30.size; simp at *; omega))))
      all_goals
        go_wp2_with fail
        go_meet
        exact ⟨zs, A34, c34, rfl, hzs, hown34.out, And.left (show Since wb w34 ∧ w34.cell? ⟨w.heap.size, 0, none⟩ = some (B8 s.mark) ∧ w34.cell? ⟨w.heap.size, 1, none⟩ = some (.int .u32 (s.seq.toNat : Int)) ∧ w34.cell? ⟨w.heap.size, 2, none⟩ = some (.int .i64 s.idx) by assumption)⟩
    case rest =>
      obtain ⟨zs, A, c, rfl, hzs, hown, hBc⟩ := hcut
      have hzl : Hid (zs.length = 55) := Lib.hid (by rw [hzs.out, s.head_length hb])
      have hrb4 := hrb.below hBc (by omega)
      go_wp2_with (refine wpList_alloc_row 5 rfl 37 rfl _ rfl zero_block ?_; intro w5 hr5 hs5 hB5)
      have hb5 := hown.bytes.step hB5
      have hlt5 := hown.lt
      have hown5' := hown.below hB5 (Nat.le_refl _)
      have hown5 : OwnB w5.drew wb.heap.size 5 A c zs := hown5'
      clear hown5'
      go_region_held3 (fun _ => True) (trivial)
        (first
          | (go_at_call 50; refine (check_calls A c zs (by rw [hzl.out]; omega) w5.drew hb5).mono ?_; rintro e w38 ⟨rfl, hB38⟩)
          | (go_at_call 49; refine (put_n _ 8 (check zs) 8 rfl rfl (by omega) (by omega) _).mono ?_; rintro e w39 ⟨⟨A39, c39, rfl, hown39⟩, hB39⟩)
          | (with_reducible refine wanted_step ?_ ?_
             · rfl
             refine wp_app (base := wb.heap.size) ?_ (.tmp 36) (.tmp 39) 32 rfl Try.underlying32 Try.info_byte zs.length rfl ((hown5.below hB38 (Nat.le_refl _)).below hB39 (Nat.le_refl _)) c39 8 (bytesN_length _ _) hown39.bytes (by rfl) (by rfl) (by rw [hzl.out]; omega) ?_
             · have := hBc.size
               have := hB5.size
               have : w5.heap.size ≤ w38.heap.size := hB38.size
               have := hB39.size
               omega
             intro zs40 A40 c40 w40 hz40 hown40 hg40 _)
          | (with_reducible refine wanted_step ?_ ?_
             · rfl
             have hrow40 : RowAt w40 wc.heap.size 37 ((zeros 64).map B8) :=
               ((RowAt.step (w := w5.drew) hr5 hB38).step hB39).kept hg40 (fun e => by
                 have h1 := (hlt5 _ e).2
                 omega)
             have hz63 : Hid (zs40.length = 63) := Lib.hid (by rw [hz40.out, List.length_append, hzl.out, bytesN_length])
             refine wp_copy rfl (.tmp 35) (.tmp 40) 32 32 rfl 5 Try.underlying32 (by kernel_rfl) (some ⟨wc.heap.size, 0, none⟩) A40 64 64 zs40.length c40 (by rfl) (by rfl) wc.heap.size 0 ((zeros 64).map B8) 37 hrow40 (zs40.map B8)
               (by rw [List.length_map, hz63.out]; rfl) ?_ (by rw [List.length_map, hz63.out]; decide) (bytes_oneCell _) ?_
             · intro _
               refine ⟨rfl, ?_⟩
               rcases hown40.bytes with h | ⟨b, off, rfl, _, hc⟩
               · rw [h] at hz63
                 cases hz63
               · refine ⟨_, rfl, fun j v hj => ?_⟩
                 have hjl : j < zs40.length := by simpa using (List.getElem?_eq_some_iff.1 hj).1
                 rw [add_at, hc j hjl, ← hj]
                 simp [hjl]
             intro w41 hr41 hB41 hs41))
      have hfin : splice ((zeros 64).map B8) 0 (zs40.map B8) = s.enc.map B8 := by
        have he : zs40 ++ [0] = s.enc := by rw [hz40.out, hzs.out]; rfl
        have h1 : ((zeros 64).map B8).drop (0 + (zs40.map B8).length) = [B8 0] := by rw [List.length_map, hz63.out]; rfl
        unfold splice
        rw [h1, ← he]
        simp
      rw [hfin] at hr41
      have hel : (s.enc.map B8).length = 64 := by rw [List.length_map, s.enc_length hb]
      have hrb41 : RowAt w41 (w.heap.size + 1) 37 ((zeros 64).map B8) := (((((hrb4.step hB5).step (w := w5.drew) hB38)).step hB39).kept hg40 (fun e => by have := (hlt5 _ e).1; omega)).below hB41 (by have := hBc.size; omega)
      have hBw : Below w.heap.size w w41 := by
        have hA1 := bthen (bthen (bthen hBa hBb) hBc) hB5
        have hA2 : Below w.heap.size w w39 := bthen (bthen (w := w5.drew) hA1.drew hB38) hB39
        have hA3 := hA2.grown hg40 hA2.size (fun k e => by have := (hlt5 _ e).1; omega)
        exact hA3.trans (hB41.mono (by have := hBc.size; omega))
      have h1E := bytes_oneCell s.enc
      obtain ⟨E, hE⟩ : ∃ E, E = s.enc.map B8 := ⟨_, rfl⟩
      rw [← hE] at hr41 hel h1E
      replace hE := Lib.hid hE
      clear hfin
      clear hg40 hown40 hB39 hB38 hown39
      go_wp2_with (first
        | (refine wpList_load_part 42 rfl 37 (.tmp 5) rfl hr41 0 64 E rfl rfl (List.take_of_length_le (Nat.le_of_eq hel)) hel Try.isAgg37 Try.sizeOf37 ?_)
        | (refine wpList_store_part 37 (.tmp 2) (.tmp 42) rfl hrb41 0 E rfl rfl rfl (by rw [hel]; exact Try.sizeOf37) (by rw [hel]; decide) h1E ?_; intro w6 hr6 hs6 hg6))
      rw [splice_all _ _ (by rw [hel]; rfl)] at hr6
      refine bodyPost_ret (results_row_tmp rfl _ hr6 rfl Try.underlying37 rfl (by rw [hel]; kernel_rfl)) rfl ?_
      exact ⟨by rw [hE.out]; rfl, hBw.grown hg6 hBw.size (fun j e => by cases e; omega)⟩
  · have hno : s.mark = 0 ∨ (s.mark ≠ 0 ∧ s.idx < 0) ∨ (s.mark ≠ 0 ∧ 0 ≤ s.idx ∧ 65535 < s.idx) := by
      by_cases h0 : s.mark = 0
      · exact .inl h0
      · simp [Sec.ok, h0] at hok
        by_cases h3 : s.idx < 0
        · exact .inr (.inl ⟨h0, h3⟩)
        · exact .inr (.inr ⟨h0, by omega, hok (by omega)⟩)
    have he : encode s = (zeros 64, 11) := by unfold encode; rw [if_neg hok]
    rw [he]
    clear hok he
    rcases hno with h0 | ⟨h0, h3⟩ | ⟨h0, h3, h4⟩
    all_goals
      go_enter Try.func33, Try.ntmps33
      first
        | (have hd0 : ((s.mark.toNat : Int) == 0) = true := by simp [h0])
        | (have hd0 : ((s.mark.toNat : Int) == 0) = false := by
             have := eq_u8_0 (a := s.mark)
             cases hx : ((s.mark.toNat : Int) == 0)
             · rfl
             · exact absurd (this.1 hx) h0)
      first
        | (have hd1 : decide (s.idx < 0) = true := decide_eq_true h3)
        | (have hd1 : decide (s.idx < 0) = false := decide_eq_false (by omega))
        | skip
      first
        | (have hd2 : decide (65535 < s.idx) = true := decide_eq_true h4)
        | skip
      go_wp2_with (first
        | (refine wpList_box_row 1 rfl 65 _ rfl s.cells rfl rfl ?_; intro wa hra hsa hBa)
        | (refine wpList_alloc_row 2 rfl 37 rfl _ rfl zero_block ?_; intro wb hrb hsb hBb; rw [hsa] at hrb hsb; have hrB := hra.step hBb; have hc0 := hrB.cellD 0 _ rfl; have hc2 := hrB.cellD 2 _ rfl)
        | (refine wpList_store_part 37 (.tmp 2) (.tmp 19) rfl hrb 0 ((zeros 64).map B8) rfl rfl rfl Try.sizeOf37 (by decide) (bytes_oneCell _) ?_; intro w5 hr5 hs5 hg5))
      rw [splice_all _ _ rfl] at hr5
      refine bodyPost_ret (results_row_tmp rfl _ hr5 rfl Try.underlying37 rfl (by kernel_rfl)) rfl ?_
      exact ⟨rfl, (bthen hBa hBb).grown hg5 (bthen hBa hBb).size (fun j e => by cases e; omega)⟩

end Go.Proofs.Ythieeidbfdhaaaa
