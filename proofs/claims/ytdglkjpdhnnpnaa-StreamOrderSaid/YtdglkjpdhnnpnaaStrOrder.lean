/-
  StreamOrder's walk.
-/
import Derived.Test.YtdglkjpdhnnpnaaWakes16
import Derived.Test.YtdglkjpdhnnpnaaOps
namespace Go.Proofs.Ytdglkjpdhnnpnaa
open Go Go.RowKit Go.Shelf

theorem wrap64_u8 (a : UInt8) : wrap64 (a.toNat : Int) = (a.toNat : Int) := by
  have := a.toNat_lt
  unfold wrap64
  omega
theorem wrap64_id {x : Int} (h1 : -9223372036854775808 ≤ x) (h2 : x ≤ 9223372036854775807) : wrap64 x = x := by
  unfold wrap64
  omega
/-- A record's place out of a byte. -/
theorem from_of (a : UInt8) : ∃ f : Int, (wrap64 (a.toNat : Int)).tmod 40 = f ∧ 0 ≤ f ∧ f < 40 := by
  refine ⟨_, rfl, ?_⟩
  rw [wrap64_u8, Int.tmod_eq_emod_of_nonneg (by omega)]
  omega
theorem count_of (a : UInt8) : ∃ c : Int, wrap64 (1 + (wrap64 (a.toNat : Int)).tmod 8) = c ∧ 1 ≤ c ∧ c ≤ 8 := by
  refine ⟨_, rfl, ?_⟩
  rw [wrap64_u8, Int.tmod_eq_emod_of_nonneg (by omega), wrap64_id (by omega) (by omega)]
  omega

def zrec (f c : Int) : Rec := ⟨f, c, true, none, 0, []⟩
def strL (g : Nat) (l : List Rec) : Str := ⟨64, 1, 2, some ⟨g, 0, none⟩, l.length, l⟩
theorem zrec_ok {f c : Int} (h1 : 0 ≤ f) (h2 : f < 40) (h3 : 1 ≤ c) (h4 : c ≤ 8) : recB 64 1 (zrec f c) = true := by
  have e1 : decide ((1 : Int) ≤ c) = true := decide_eq_true h3
  have e2 : decide ((0 : Int) ≤ f) = true := decide_eq_true h1
  have e3 : decide (f < (64 : Int)) = true := decide_eq_true (by omega)
  have e4 : decide (c ≤ (64 : Int) - f) = true := decide_eq_true (by omega)
  unfold recB zrec
  simp only [e1, e2, e3, e4]
  rfl
theorem zrec_behind (f c f2 c2 : Int) : behindB (zrec f2 c2) (zrec f c) = decide (f + c < f2) := by
  unfold behindB zrec
  simp
theorem strL_two {g : Nat} {f c f2 c2 : Int} (h1 : 0 ≤ f) (h2 : f < 40) (h3 : 1 ≤ c) (h4 : c ≤ 8) (k1 : 0 ≤ f2) (k2 : f2 < 40) (k3 : 1 ≤ c2) (k4 : c2 ≤ 8) : goodB (strL g [zrec f c, zrec f2 c2]) = decide (f + c < f2) := by
  unfold goodB
  show (true && recsB 64 1 none [zrec f c, zrec f2 c2]) = _
  rw [recsB_cons, recsB_cons, zrec_ok h1 h2 h3 h4, zrec_ok k1 k2 k3 k4]
  show (true && (true && true && (true && behindB (zrec f2 c2) (zrec f c) && true))) = _
  rw [zrec_behind]
  simp
theorem strL_one {g : Nat} {f c : Int} (h1 : 0 ≤ f) (h2 : f < 40) (h3 : 1 ≤ c) (h4 : c ≤ 8) : goodB (strL g [zrec f c]) = true := by
  unfold goodB
  show (true && recsB 64 1 none [zrec f c]) = _
  rw [recsB_cons, zrec_ok h1 h2 h3 h4]
  rfl

/-- A record's, a stream's variable: made and written. -/
theorem wpList_var_rec {w : World} {ops : Array Oper} {rest : List Oper} {o1 o2 : Oper} {a : Act} {Q : Exit → Act → World → Prop} (d : Tmp) (hd : o1.dst = some d) (ho1 : o1.op = .alloc 39) (x y : Operand) (ho2 : o2.op = .store 39 x y) (r : Rec)
    (hg1 : Region.wanted o1 (yielded ops a.tmps) = true) (hg2 : Region.wanted o2 (yielded ops (a.put (some d) (.pointer (some ⟨w.heap.size, 0, none⟩))).tmps) = true) (hx : (a.put (some d) (.pointer (some ⟨w.heap.size, 0, none⟩))).eval x = .pointer (some ⟨w.heap.size, 0, none⟩)) (hy : (a.put (some d) (.pointer (some ⟨w.heap.size, 0, none⟩))).eval y = .agg r.val.toArray)
    (h : ∀ w1, RowAt w1 w.heap.size 39 r.val → Below w.heap.size w w1 → wpList Try.prog ops Q rest ((a.put (some d) (.pointer (some ⟨w.heap.size, 0, none⟩))).put o2.dst undef) w1) : wpList Try.prog ops Q (o1 :: o2 :: rest) a w := by
  refine wpList_alloc_row d hd 39 ho1 _ hg1 zero_rec ?_
  intro w1 h1 _ hB1
  refine wpList_store_part 39 x y ho2 h1 0 r.val hg2 hx hy Try.sizeOf39 (Nat.le_refl 4) (rec_one r) ?_
  intro w2 h2 _ hg
  rw [splice_all [.int .i64 0, .int .i64 0, .bool false, .slice none 0 0] r.val rfl] at h2
  exact h w2 h2 (hB1.grown hg hB1.size (fun k e => by cases e; exact Nat.le_refl _))
theorem wpList_var_str {w : World} {ops : Array Oper} {rest : List Oper} {o1 o2 : Oper} {a : Act} {Q : Exit → Act → World → Prop} (d : Tmp) (hd : o1.dst = some d) (ho1 : o1.op = .alloc 24) (x y : Operand) (ho2 : o2.op = .store 24 x y) (r : Str)
    (hg1 : Region.wanted o1 (yielded ops a.tmps) = true) (hg2 : Region.wanted o2 (yielded ops (a.put (some d) (.pointer (some ⟨w.heap.size, 0, none⟩))).tmps) = true) (hx : (a.put (some d) (.pointer (some ⟨w.heap.size, 0, none⟩))).eval x = .pointer (some ⟨w.heap.size, 0, none⟩)) (hy : (a.put (some d) (.pointer (some ⟨w.heap.size, 0, none⟩))).eval y = .agg r.val.toArray)
    (h : ∀ w1, RowAt w1 w.heap.size 24 r.val → Below w.heap.size w w1 → wpList Try.prog ops Q rest ((a.put (some d) (.pointer (some ⟨w.heap.size, 0, none⟩))).put o2.dst undef) w1) : wpList Try.prog ops Q (o1 :: o2 :: rest) a w := by
  refine wpList_alloc_row d hd 24 ho1 _ hg1 zero_str ?_
  intro w1 h1 _ hB1
  refine wpList_store_str x y ho2 r hg2 rfl h1 hB1 hx hy ?_
  intro w2 h2 hB2
  exact h w2 h2 hB2

set_option maxRecDepth 100000 in
set_option maxHeartbeats 8000000 in
theorem streamOrder_walk (a0 b0 a1 b1 : UInt8) (w : World) :
    Calls Try.prog 6 #[.agg #[B8 a0, B8 b0], .agg #[B8 a1, B8 b1]] w fun e w' => e = .returned (.bool true) ∧ Below w.heap.size w w' := by
  obtain ⟨fx, e0, f1, f2⟩ := from_of a0
  obtain ⟨cx, e1, c1, c2⟩ := count_of b0
  obtain ⟨fy, e2, g1, g2⟩ := from_of a1
  obtain ⟨cy, e3, d1, d2⟩ := count_of b1
  have okx : ∀ W B, (⟨fx, cx, true, none, 0, []⟩ : Rec).Ok W B := fun W B => Rec.ok_none _ _ _ _ _ (by omega) (by omega) (by omega) (by omega)
  have oky : ∀ W B, (⟨fy, cy, true, none, 0, []⟩ : Rec).Ok W B := fun W B => Rec.ok_none _ _ _ _ _ (by omega) (by omega) (by omega) (by omega)
  obtain ⟨p, e4⟩ : ∃ p, decide (fx + cx < fy) = p := ⟨_, rfl⟩
  obtain ⟨q, e5⟩ : ∃ q, decide (fy + cy < fx) = q := ⟨_, rfl⟩
  have gs : ∀ g, goodB (strL g [zrec fx cx, zrec fy cy]) = p := fun g => by rw [strL_two f1 f2 c1 c2 g1 g2 d1 d2, e4]
  have gt : ∀ g, goodB (strL g [zrec fy cy, zrec fx cx]) = q := fun g => by rw [strL_two g1 g2 d1 d2 f1 f2 c1 c2, e5]
  have gu : ∀ g, goodB (strL g [zrec fx cx, zrec fx cx]) = false := fun g => by rw [strL_two f1 f2 c1 c2 f1 f2 c1 c2]; exact decide_eq_false (by omega)
  have go : ∀ g, goodB (strL g [zrec fx cx]) = true := fun g => strL_one f1 f2 c1 c2
  replace gs := Lib.hid gs
  replace gt := Lib.hid gt
  replace gu := Lib.hid gu
  replace go := Lib.hid go
  have sok : ∀ (W : World) (g : Nat) (l : List Rec), l.length ≤ 2 → RecsAt W W.heap.size (some ⟨g, 0, none⟩) l → (strL g l).Ok W W.heap.size := fun W g l hl h => Str.ok_small l.length rfl h (Nat.le_refl _) (by omega) (by decide) (by decide) (by decide) (by decide) (by decide) (by decide)
  go_enter Try.func6, Try.ntmps6
  go_upto_region 3 with (first
    | (refine wpList_box_row 2 rfl 44 _ rfl [B8 a0, B8 b0] rfl rfl ?_; intro u1 hra hsa hBa; clear hsa)
    | (refine wpList_box_row 3 rfl 44 _ rfl [B8 a1, B8 b1] rfl rfl ?_; intro u2 hrb hsb hBb; clear hsb; have ca := hra.step hBb; have ca0 := ca.cellD 0 _ rfl; have ca1 := ca.cellD 1 _ rfl)
    | (refine wpList_var_rec 5 rfl rfl (.tmp 5) (.tmp 21) rfl ⟨fx, cx, true, none, 0, []⟩ rfl rfl rfl rfl ?_; intro w1 hx1 hB1; have cb := hrb.step hB1; have cb0 := cb.cellD 0 _ rfl; have cb1 := cb.cellD 1 _ rfl)
    | (refine wpList_var_rec 6 rfl rfl (.tmp 6) (.tmp 31) rfl ⟨fy, cy, true, none, 0, []⟩ rfl rfl rfl rfl ?_; intro w2 hy2 hB2))
  have hx2 := hx1.step hB2
  have hW2 := bthen (bthen (bthen hBa hBb) hB1) hB2
  clear ca ca0 ca1 cb cb0 cb1 hra hrb hBa hBb hx1 hB1 hB2 e0 e1 e2 e3
  go_upto_region 5 with (first
    | (refine wpList_load_part 32 rfl 39 (.tmp 5) rfl hx2 0 4 (⟨fx, cx, true, none, 0, []⟩ : Rec).val rfl rfl rfl rfl Try.isAgg39 Try.sizeOf39 ?_)
    | (refine wpList_load_part 33 rfl 39 (.tmp 6) rfl hy2 0 4 (⟨fy, cy, true, none, 0, []⟩ : Rec).val rfl rfl rfl rfl Try.isAgg39 Try.sizeOf39 ?_)
    | (refine wpList_lit2 (.tmp 32) (.tmp 33) rfl ⟨fx, cx, true, none, 0, []⟩ ⟨fy, cy, true, none, 0, []⟩ (okx _ _) (oky _ _) rfl rfl rfl ?_; intro w3 hl3 hB3)
    | (refine wpList_var_str 7 rfl rfl (.tmp 7) (.tmp 35) rfl (strL w2.heap.size [zrec fx cx, zrec fy cy]) rfl rfl rfl rfl ?_; intro w4 hs4 hB4; have hx4 := (hx2.step hB3).step hB4; have hy4 := (hy2.step hB3).step hB4; have x0 := hx4.cellD 0 _ rfl; have x1 := hx4.cellD 1 _ rfl; have y0 := hy4.cellD 0 _ rfl; have y1 := hy4.cellD 1 _ rfl))
  have hl4 := hl3.step hB4
  have hW4 := bthen (bthen hW2 hB3) hB4
  clear hx2 hy2 hl3 hB3 hB4 x0 x1 y0 y1 hW2
  go_upto_region 7 with (first
    | (refine wpList_load_part 44 rfl 39 (.tmp 6) rfl hy4 0 4 (⟨fy, cy, true, none, 0, []⟩ : Rec).val rfl rfl rfl rfl Try.isAgg39 Try.sizeOf39 ?_)
    | (refine wpList_load_part 45 rfl 39 (.tmp 5) rfl hx4 0 4 (⟨fx, cx, true, none, 0, []⟩ : Rec).val rfl rfl rfl rfl Try.isAgg39 Try.sizeOf39 ?_)
    | (refine wpList_lit2 (.tmp 44) (.tmp 45) rfl ⟨fy, cy, true, none, 0, []⟩ ⟨fx, cx, true, none, 0, []⟩ (oky _ _) (okx _ _) rfl rfl rfl ?_; intro w5 hl5 hB5)
    | (refine wpList_var_str 9 rfl rfl (.tmp 9) (.tmp 47) rfl (strL w4.heap.size [zrec fy cy, zrec fx cx]) rfl rfl rfl rfl ?_; intro w6 ht6 hB6; have hx6 := (hx4.step hB5).step hB6; have hy6 := (hy4.step hB5).step hB6; have x0 := hx6.cellD 0 _ rfl; have x1 := hx6.cellD 1 _ rfl; have y0 := hy6.cellD 0 _ rfl; have y1 := hy6.cellD 1 _ rfl))
  have hl46 := (hl4.step hB5).step hB6
  have hs6 := (hs4.step hB5).step hB6
  have hl6 := hl5.step hB6
  have hW6 := bthen (bthen hW4 hB5) hB6
  clear hx4 hy4 hl4 hs4 hl5 hB5 hB6 x0 x1 y0 y1 hW4 hy6
  go_upto_region 8 with (first
    | (refine wpList_load_part 56 rfl 39 (.tmp 5) rfl hx6 0 4 (⟨fx, cx, true, none, 0, []⟩ : Rec).val rfl rfl rfl rfl Try.isAgg39 Try.sizeOf39 ?_)
    | (refine wpList_load_part 57 rfl 39 (.tmp 5) rfl hx6 0 4 (⟨fx, cx, true, none, 0, []⟩ : Rec).val rfl rfl rfl rfl Try.isAgg39 Try.sizeOf39 ?_)
    | (refine wpList_lit2 (.tmp 56) (.tmp 57) rfl ⟨fx, cx, true, none, 0, []⟩ ⟨fx, cx, true, none, 0, []⟩ (okx _ _) (okx _ _) rfl rfl rfl ?_; intro w7 hl7 hB7)
    | (refine wpList_var_str 11 rfl rfl (.tmp 11) (.tmp 59) rfl (strL w6.heap.size [zrec fx cx, zrec fx cx]) rfl rfl rfl rfl ?_; intro w8 hu8 hB8))
  have hx8 := (hx6.step hB7).step hB8
  have hs8 := (hs6.step hB7).step hB8
  have ht8 := (ht6.step hB7).step hB8
  have hl48 := (hl46.step hB7).step hB8
  have hl68 := (hl6.step hB7).step hB8
  have hl8 := hl7.step hB8
  have hW8 := bthen (bthen hW6 hB7) hB8
  clear hx6 hs6 ht6 hl46 hl6 hl7 hB7 hB8 hW6 e4 e5 f1 f2 c1 c2 g1 g2 d1 d2
  go_wp2_with (refine wpList_load_part 60 rfl 24 (.tmp 7) rfl hs8 0 4 (strL w2.heap.size [zrec fx cx, zrec fy cy]).val rfl rfl rfl rfl Try.isAgg24 Try.sizeOf24 ?_)
  refine (good_S (strL w2.heap.size [zrec fx cx, zrec fy cy]) w8 (sok _ _ _ (Nat.le_refl 2) hl48) _ rfl p (gs.out _)).mono ?_
  rintro e w9 ⟨rfl, hB9⟩
  have ht9 := ht8.step hB9
  have hu9 := hu8.step hB9
  have hx9 := hx8.step hB9
  have hl69 := hl68.step hB9
  have hl9 := hl8.step hB9
  have hW9 := bthen hW8 hB9
  clear hx8 hs8 ht8 hu8 hl48 hl68 hl8 hW8 hB9 gs
  go_wp2_with (refine wpList_load_part 65 rfl 24 (.tmp 9) rfl ht9 0 4 (strL w4.heap.size [zrec fy cy, zrec fx cx]).val rfl rfl rfl rfl Try.isAgg24 Try.sizeOf24 ?_)
  refine (good_S (strL w4.heap.size [zrec fy cy, zrec fx cx]) w9 (sok _ _ _ (Nat.le_refl 2) hl69) _ rfl q (gt.out _)).mono ?_
  rintro e wa ⟨rfl, hBa⟩
  have hua := hu9.step hBa
  have hxa := hx9.step hBa
  have hla := hl9.step hBa
  have hWa := bthen hW9 hBa
  clear hx9 ht9 hu9 hl69 hl9 hW9 hBa gt
  go_wp2_with (refine wpList_load_part 71 rfl 24 (.tmp 11) rfl hua 0 4 (strL w6.heap.size [zrec fx cx, zrec fx cx]).val rfl rfl rfl rfl Try.isAgg24 Try.sizeOf24 ?_)
  refine (good_S (strL w6.heap.size [zrec fx cx, zrec fx cx]) wa (sok _ _ _ (Nat.le_refl 2) hla) _ rfl false (gu.out _)).mono ?_
  rintro e wb ⟨rfl, hBb⟩
  have hxb := hxa.step hBb
  have hWb := bthen hWa hBb
  clear hua hxa hla hWa hBb gu
  go_wp2_with (first
    | (refine wpList_load_part 76 rfl 39 (.tmp 5) rfl hxb 0 4 (⟨fx, cx, true, none, 0, []⟩ : Rec).val rfl rfl rfl rfl Try.isAgg39 Try.sizeOf39 ?_)
    | (refine wpList_lit1 (.tmp 76) rfl ⟨fx, cx, true, none, 0, []⟩ (okx _ _) rfl rfl ?_; intro wc hlc hBc))
  refine (good_S (strL wb.heap.size [zrec fx cx]) wc (sok _ _ _ (Nat.le_succ 1) hlc) _ rfl true (go.out _)).mono ?_
  rintro e wd ⟨rfl, hBd⟩
  have hWd := bthen (bthen hWb hBc) hBd
  clear hxb hWb hBc hlc hBd go
  go_wp2_with fail
  refine (wakes16_calls wd).mono ?_
  rintro e we ⟨rfl, hBe⟩
  go_wp2_with fail
  go_ret
  exact ⟨rfl, bthen hWd hBe⟩
end Go.Proofs.Ytdglkjpdhnnpnaa
