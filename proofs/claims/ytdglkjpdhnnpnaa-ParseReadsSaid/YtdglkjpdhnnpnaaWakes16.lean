/-
  revetmentlaw16.wakes returns true.
-/
import Derived.Test.YtdglkjpdhnnpnaaStrLit
namespace Go.Proofs.Ytdglkjpdhnnpnaa
open Go Go.RowKit Go.Shelf

/-- A block of one byte, as the statements write it. -/
def fillB (v : UInt8) : List UInt8 := List.replicate 64 v
theorem fillB_length (v : UInt8) : (fillB v).length = 64 := List.length_replicate
theorem fill_L (v : UInt8) (L : List Value) (hL : Hid (L = (fillB v).map B8)) (w : World) :
    Calls Try.prog 22 #[B8 v] w fun e w' => e = .returned (.agg L.toArray) ∧ Below w.heap.size w w' := by
  rw [hL.out]
  exact fill_calls v w
theorem zero_str (w : World) : (zeroValue 24).run Try.prog w = .ok (.agg ([.int .i64 0, .int .i64 0, .int .i64 0, .slice none 0 0] : List Value).toArray) w := by kernel_rfl
/-- Encode and Good of a stream of which all is known. -/
theorem encode_S (s : Str) (w : World) (hok : s.Ok w w.heap.size) (V : Array Value) (hV : V = s.val.toArray) (b : Bool) (hg : goodB s = b) :
    Calls Try.prog 14 #[.agg V] w fun e w' => ∃ zs A c, e = .returned (.tuple #[.slice A zs.length c, .int .i64 (if b then 0 else 11)]) ∧ Hid (zs = if b then encE s else []) ∧ OwnB w' w.heap.size 5 A c zs ∧ Below w.heap.size w w' := by
  subst hV hg
  exact encode_calls s w hok
theorem good_S (s : Str) (w : World) (hok : s.Ok w w.heap.size) (V : Array Value) (hV : V = s.val.toArray) (b : Bool) (hg : goodB s = b) :
    Calls Try.prog 16 #[.agg V] w fun e w' => e = .returned (.bool b) ∧ Below w.heap.size w w' := by
  subst hV hg
  exact good_calls s w hok
theorem Str.ok_small {w : World} {B : Nat} {b a i : Int} {A : Option Addr} {cap : Nat} {l : List Rec} (n : Nat) (hn : l.length = n) (h : RecsAt w B A l) (h1 : n ≤ cap) (h2 : cap ≤ 1000) (h3 : -1000000000 ≤ b) (h4 : b ≤ 1000000000) (h5 : -1000000000 ≤ a) (h6 : a ≤ 1000000000) (h7 : -1000000000 ≤ i) (h8 : i ≤ 1000000000) : (⟨b, a, i, A, cap, l⟩ : Str).Ok w B :=
  ⟨h, by show l.length ≤ cap; omega, by show cap ≤ maxLen; unfold maxLen; omega, by show _ ≤ b; omega, by show b ≤ _; omega, by show _ ≤ a; omega, by show a ≤ _; omega, by show _ ≤ i; omega, by show i ≤ _; omega⟩
theorem Rec.ok_small {w : World} {B : Nat} {f c : Int} {z : Bool} {A : Option Addr} {cap : Nat} {d : List UInt8} (n : Nat) (hn : d.length = n) (h : BytesAt w B A d) (h1 : n ≤ cap) (h2 : cap ≤ 1000000) (h3 : -1000000000 ≤ f) (h4 : f ≤ 1000000000) (h5 : -1000000000 ≤ c) (h6 : c ≤ 1000000000) : (⟨f, c, z, A, cap, d⟩ : Rec).Ok w B :=
  ⟨h, by show d.length ≤ cap; omega, by show cap ≤ maxLen; unfold maxLen; omega, by show _ ≤ f; omega, by show f ≤ _; omega, by show _ ≤ c; omega, by show c ≤ _; omega⟩
theorem str_one (s : Str) : ∀ v ∈ s.val, v.oneCell' = true := by
  intro v hv
  simp only [Str.val, List.mem_cons, List.not_mem_nil, or_false] at hv
  rcases hv with rfl | rfl | rfl | rfl <;> rfl
/-- A stream is laid into its variable, which was made at w0. -/
theorem wpList_store_str {w0 w : World} {ops : Array Oper} {rest : List Oper} {o : Oper} {a : Act} {Q : Exit → Act → World → Prop} (x y : Operand) (ho : o.op = .store 24 x y) (s : Str) (hgd : Region.wanted o (yielded ops a.tmps) = true)
    {zs : List Value} (hz : zs.length = 4) (hr : RowAt w w0.heap.size 24 zs) (hB : Below w0.heap.size w0 w) (hx : a.eval x = .pointer (some ⟨w0.heap.size, 0, none⟩)) (hy : a.eval y = .agg s.val.toArray)
    (h : ∀ w1, RowAt w1 w0.heap.size 24 s.val → Below w0.heap.size w0 w1 → wpList Try.prog ops Q rest (a.put o.dst undef) w1) : wpList Try.prog ops Q (o :: rest) a w := by
  refine wpList_store_part 24 x y ho hr 0 s.val hgd hx hy Try.sizeOf24 (by rw [hz]; exact Nat.le_refl 4) (str_one s) ?_
  intro w1 h1 _ hg
  rw [splice_all _ _ (by rw [hz]; rfl)] at h1
  exact h w1 h1 (hB.grown hg hB.size (fun k e => by cases e; exact Nat.le_refl _))
theorem RecsAt.nil (w : World) (B : Nat) (A : Option Addr) : RecsAt w B A [] := ⟨.inl rfl, fun x hx => by cases hx⟩

/-- The streams of wakes. -/
def wkR (gd : Nat) : List Rec := [⟨0, 1, true, none, 0, []⟩, ⟨1, 1, false, some ⟨gd, 0, none⟩, 64, fillB 7⟩]
def wkS (gl gd : Nat) : Str := ⟨8, 1, 2, some ⟨gl, 0, none⟩, 2, wkR gd⟩
def wkT (gl gd : Nat) : Str := ⟨8, -1, 1, some ⟨gl, 0, none⟩, 2, wkR gd⟩
def wkU : Str := ⟨8, -1, 1, none, 0, []⟩
theorem wkS_good (gl gd : Nat) : goodB (wkS gl gd) = true := by kernel_rfl
theorem wkT_good (gl gd : Nat) : goodB (wkT gl gd) = false := rfl
theorem wkU_good : goodB wkU = true := rfl
theorem wkS_len (gl gd : Nat) : (encE (wkS gl gd)).length = 123 := by rw [encE_len]; rfl
theorem wkU_len : (encE wkU).length = 33 := by rw [encE_len]; rfl
theorem wkS_0 (gl gd : Nat) : (encE (wkS gl gd))[0]? = some 0x52 := by rw [encE_head _ 0 (by decide)]; rfl
theorem wkS_6 (gl gd : Nat) : (encE (wkS gl gd))[6]? = some 2 := by rw [encE_head _ 6 (by decide)]; rfl

set_option maxRecDepth 100000 in
set_option maxHeartbeats 8000000 in
theorem wakes16_calls (w : World) :
    Calls Try.prog 12 #[] w fun e w' => e = .returned (.bool true) ∧ Below w.heap.size w w' := by
  obtain ⟨L7, hL7⟩ : ∃ L, L = (fillB 7).map B8 := ⟨_, rfl⟩
  have H7 := Lib.hid hL7
  have HL7 := Lib.hid (show L7.length = 64 by rw [hL7]; rfl)
  have HO7 := Lib.hid (show ∀ v ∈ L7, v.oneCell' = true by rw [hL7]; exact bytes_oneCell _)
  clear hL7
  go_enter Try.func12, Try.ntmps12
  go_wp2_with fail
  refine (fill_L 7 L7 H7 _).mono ?_
  rintro e w1 ⟨rfl, hB1⟩
  go_wp2_with (first
    | (refine wpList_alloc_row 1 rfl 41 rfl _ rfl zero_block ?_; intro w2 hr2 hs2 hB2; clear hs2)
    | (refine wpList_store_part 41 (.tmp 1) (.tmp 7) rfl hr2 0 L7 rfl rfl rfl (by rw [HL7.out]; exact Try.sizeOf41) (by rw [HL7.out]; decide) HO7.out ?_
       intro w3 hr3 hs3 hg3
       clear hs3
       rw [splice_all _ _ (by rw [HL7.out]; rfl)] at hr3
       have hB3 : Below w.heap.size w w3 := bthen hB1 (hB2.grown hg3 hB2.size (fun j e => by cases e; exact Nat.le_refl _))
       have hd3 : BytesAt w3 w3.heap.size (some ⟨w1.heap.size, 0, none⟩) (fillB 7) := hr3.bytes 0 (fillB 7) (fun j hj => by rw [H7.out, Nat.zero_add]; simp [hj])
       have hq3 : Rec.Ok w3 w3.heap.size ⟨1, 1, false, some ⟨w1.heap.size, 0, none⟩, 64, fillB 7⟩ := Rec.ok_small 64 (fillB_length 7) hd3 (by decide) (by decide) (by decide) (by decide) (by decide) (by decide)
       clear hr2 hB2 hg3 hr3 hd3)
    | (refine wpList_lit2 (.tmp 8) (.tmp 10) rfl ⟨0, 1, true, none, 0, []⟩ ⟨1, 1, false, some ⟨w1.heap.size, 0, none⟩, 64, fillB 7⟩ (Rec.ok_none _ _ _ _ _ (by decide) (by decide) (by decide) (by decide)) hq3 rfl rfl rfl ?_
       intro w4 hrec4 hB4)
    | (refine wpList_alloc_row 2 rfl 24 rfl _ rfl zero_str ?_; intro w5 hr5 hs5 hB5; clear hs5)
    | (refine wpList_store_str (.tmp 2) (.tmp 12) rfl (wkS w3.heap.size w1.heap.size) rfl rfl hr5 hB5 rfl rfl ?_
       intro w6 hr6 hB6')
    | (refine wpList_load_part 14 rfl 24 (.tmp 2) rfl hr6 0 4 (wkS w3.heap.size w1.heap.size).val rfl rfl rfl rfl Try.isAgg24 Try.sizeOf24 ?_))
  have hB6 : Below w.heap.size w w6 := bthen (bthen hB3 hB4) hB6'
  have hS6 : Str.Ok w6 w6.heap.size (wkS w3.heap.size w1.heap.size) := Str.ok_small 2 rfl (hrec4.step hB6') (by decide) (by decide) (by decide) (by decide) (by decide) (by decide) (by decide) (by decide)
  have c3 := hr6.cellD 3 _ rfl
  clear hr5 hB5 hB6' hrec4 hq3
  refine (encode_S (wkS w3.heap.size w1.heap.size) w6 hS6 _ rfl true (wkS_good _ _)).mono ?_
  rintro e w7 ⟨zs, A, c, rfl, hz, hown, hB7⟩
  have hz' : zs = encE (wkS w3.heap.size w1.heap.size) := hz.out
  have hl : zs.length = 123 := by rw [hz', wkS_len]
  obtain ⟨g, rfl, hg1, hg2, hcs, _⟩ := hown.form (by omega)
  have z0 : w7.cell? ⟨g, 0, none⟩ = some (.int .u8 82) := by
    have := hcs 0 (by omega)
    rw [hz', wkS_0] at this
    exact this
  have z6 : w7.cell? ⟨g, 6, none⟩ = some (.int .u8 2) := by
    have := hcs 6 (by omega)
    rw [hz', wkS_6] at this
    exact this
  rw [hl]
  have hr7 := hr6.step hB7
  have hS7 := hS6.step hB7
  clear hz hz' hl hcs hown hg1 hr6 hS6 c3
  go_wp2_with fail
  refine (encode_S wkU w7 (Str.ok_small 0 rfl (RecsAt.nil _ _ _) (by decide) (by decide) (by decide) (by decide) (by decide) (by decide) (by decide) (by decide)) _ rfl true wkU_good).mono ?_
  rintro e w8 ⟨ys, A8, c8, rfl, hy, _, hB8⟩
  have hy' : ys = encE wkU := hy.out
  have hly : ys.length = 33 := by rw [hy', wkU_len]
  rw [hly]
  clear hy hy' hly
  have hr8 := hr7.step hB8
  have hS8 := hS7.step hB8
  replace z0 := (hB8.cell (p := ⟨g, 0, none⟩) hg2).trans z0
  replace z6 := (hB8.cell (p := ⟨g, 6, none⟩) hg2).trans z6
  have hB80 := bthen (bthen hB6 hB7) hB8
  clear hr7 hS7 hg2 hB7 hB8
  go_wp2_with (refine wpList_load_part 52 rfl 24 (.tmp 2) rfl hr8 0 4 (wkS w3.heap.size w1.heap.size).val rfl rfl rfl rfl Try.isAgg24 Try.sizeOf24 ?_)
  refine (good_S (wkS w3.heap.size w1.heap.size) w8 hS8 _ rfl true (wkS_good _ _)).mono ?_
  rintro e w9 ⟨rfl, hB9⟩
  have hr9 := hr8.step hB9
  have hS9 := hS8.step hB9
  have c3 := hr9.cellD 3 (.slice (some ⟨w3.heap.size, 0, none⟩) 2 2) rfl
  have hB90 := bthen hB80 hB9
  clear z0 z6 hr8 hS8 hB9
  go_wp2_with fail
  refine (good_S (wkT w3.heap.size w1.heap.size) w9 (Str.ok_small 2 rfl hS9.recs (by decide) (by decide) (by decide) (by decide) (by decide) (by decide) (by decide) (by decide)) _ rfl false (wkT_good _ _)).mono ?_
  rintro e w10 ⟨rfl, hB10⟩
  have hB100 := bthen hB90 hB10
  clear hr9 hS9 c3 hB10
  go_wp2_with (refine wpList_make_bytes_b hB100 rfl _ _ 25 rfl Try.underlying25 Try.info_byte .i64 .i64 5 (by rfl) (by rfl) (by omega) ?_; intro bs w11 hbs hbl hown11 hB11 _)
  have hzz : zeroB bs = true := by rw [hbs.out]; rfl
  refine (zero_calls _ 5 5 bs hbl.out (by unfold maxLen; decide) w11 _ hown11.bytes).mono ?_
  rintro e w12 ⟨rfl, rfl⟩
  rw [hzz]
  clear hbs hbl hown11 hzz
  go_wp2_with fail
  refine (zero_calls _ 2 2 [0, 1] rfl (by unfold maxLen; decide) _ _ (by exact lit_bytes w11 _ _ _ _ rfl)).mono ?_
  rintro e w13 ⟨rfl, rfl⟩
  rw [show zeroB [0, 1] = false from rfl]
  go_wp2_with fail
  go_ret
  exact ⟨rfl, balloc hB11 _⟩
end Go.Proofs.Ytdglkjpdhnnpnaa
