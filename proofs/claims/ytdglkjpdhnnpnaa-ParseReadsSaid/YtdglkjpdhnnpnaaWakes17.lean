/-
  revetmentlaw17.wakes returns true.
-/
import Derived.Test.YtdglkjpdhnnpnaaParse
import Derived.Test.YtdglkjpdhnnpnaaParBack
import Derived.Lib.SlBytesConst
namespace Go.Proofs.Ytdglkjpdhnnpnaa
open Go Go.RowKit Go.Shelf

theorem parse_ok (A : Option Addr) (cap n : Nat) (b : List UInt8) (hn : b.length = n) (p : Str) (hp : parseR b = .ok p) (w : World) (hb : BytesAt w w.heap.size A b) (hc : n ≤ cap) (hm : cap ≤ maxLen) (hl : n ≤ 1000000) :
    Calls Try.prog 24 #[.slice A n cap] w fun e w' => ∃ s : Str, e = .returned (.tuple #[.agg s.val.toArray, .int .i64 0]) ∧ s.Ok w' w'.heap.size ∧ s.pl = p ∧ Below w.heap.size w w' := by
  subst hn
  refine (parse_calls A cap b w hb hc hm hl).mono ?_
  rintro e w' ⟨hB, s, c, rfl, hok, ⟨rfl, h⟩ | ⟨_, h, _⟩⟩
  · rw [hp] at h
    exact ⟨s, rfl, hok, (Except.ok.inj h).symm, hB⟩
  · rw [hp] at h
    cases h
theorem parse_no (A : Option Addr) (cap n : Nat) (b : List UInt8) (hn : b.length = n) (c : Int) (hp : parseR b = .error c) (w : World) (hb : BytesAt w w.heap.size A b) (hc : n ≤ cap) (hm : cap ≤ maxLen) (hl : n ≤ 1000000) :
    Calls Try.prog 24 #[.slice A n cap] w fun e w' => e = .returned (.tuple #[.agg Str0.val.toArray, .int .i64 c]) ∧ Below w.heap.size w w' := by
  subst hn
  refine (parse_calls A cap b w hb hc hm hl).mono ?_
  rintro e w' ⟨hB, s, c', rfl, hok, ⟨rfl, h⟩ | ⟨_, h, rfl⟩⟩
  · rw [hp] at h
    cases h
  · rw [hp] at h
    cases h
    exact ⟨rfl, hB⟩

/-- A stream's variable: made and written. -/
theorem wpList_var_s {w : World} {ops : Array Oper} {rest : List Oper} {o1 o2 : Oper} {a : Act} {Q : Exit → Act → World → Prop} (d : Tmp) (hd : o1.dst = some d) (ho1 : o1.op = .alloc 24) (x y : Operand) (ho2 : o2.op = .store 24 x y) (r : Str)
    (hg1 : Region.wanted o1 (yielded ops a.tmps) = true) (hg2 : Region.wanted o2 (yielded ops (a.put (some d) (.pointer (some ⟨w.heap.size, 0, none⟩))).tmps) = true) (hx : (a.put (some d) (.pointer (some ⟨w.heap.size, 0, none⟩))).eval x = .pointer (some ⟨w.heap.size, 0, none⟩)) (hy : (a.put (some d) (.pointer (some ⟨w.heap.size, 0, none⟩))).eval y = .agg r.val.toArray)
    (h : ∀ w1, RowAt w1 w.heap.size 24 r.val → Below w.heap.size w w1 → wpList Try.prog ops Q rest ((a.put (some d) (.pointer (some ⟨w.heap.size, 0, none⟩))).put o2.dst undef) w1) : wpList Try.prog ops Q (o1 :: o2 :: rest) a w := by
  refine wpList_alloc_row d hd 24 ho1 _ hg1 zero_str ?_
  intro w1 h1 _ hB1
  refine wpList_store_str x y ho2 r hg2 rfl h1 hB1 hx hy ?_
  intro w2 h2 hB2
  exact h w2 h2 hB2

def w17 (g : Nat) : Str := ⟨8, 1, 2, some ⟨g, 0, none⟩, 1, [⟨3, 2, true, none, 0, []⟩]⟩
theorem w17_good (g : Nat) : goodB (w17 g) = true := rfl
theorem w17_len (g : Nat) : (encE (w17 g)).length = 46 := by rw [encE_len]; rfl
theorem w17_pl {s : Str} {g : Nat} (h : s.pl = (w17 g).pl) : s.base = 1 ∧ ∃ r, s.recs = [r] ∧ r.ct = 2 := by
  refine ⟨congrArg Str.base h, ?_⟩
  have hr : s.recs.map Rec.pl = [⟨3, 2, true, none, 0, []⟩] := congrArg Str.recs h
  have hl : s.recs.length = 1 := by simpa using congrArg List.length hr
  obtain ⟨r, hr1⟩ := List.length_eq_one_iff.1 hl
  rw [hr1] at hr
  have h1 : r.pl = ⟨3, 2, true, none, 0, []⟩ := by simpa using hr
  exact ⟨r, hr1, congrArg Rec.ct h1⟩
theorem rvs_no : parseR [82, 86, 83] = .error 21 := by kernel_rfl
theorem rvx_no : parseR [82, 86, 88, 49] = .error 20 := by kernel_rfl

set_option maxRecDepth 100000 in
set_option maxHeartbeats 8000000 in
theorem wakes17_calls (w : World) :
    Calls Try.prog 23 #[] w fun e w' => e = .returned (.bool true) ∧ Below w.heap.size w w' := by
  have kc := fun (w : World) (C : Array Value) (n c : Nat) => Lib.run_convert_bytes_const (P := Try.prog) w 25 5 C n c Try.underlying25 Try.underlying5
  go_enter Try.func23, Try.ntmps23
  go_wp2_with (refine wpList_lit1 (.tmp 12) rfl ⟨3, 2, true, none, 0, []⟩ (Rec.ok_none _ _ _ _ _ (by decide) (by decide) (by decide) (by decide)) rfl rfl ?_; intro w1 hl1 hB1)
  refine (encode_S (w17 w.heap.size) w1 (Str.ok_small 1 rfl hl1 (by decide) (by decide) (by decide) (by decide) (by decide) (by decide) (by decide) (by decide)) _ rfl true (w17_good _)).mono ?_
  rintro e w2 ⟨zs, A, c, rfl, hz, hown, hB2⟩
  have hz' : zs = encE (w17 w.heap.size) := hz.out
  have hl : zs.length = 46 := by rw [hz', w17_len]
  have hp1 : parseR zs = .ok (w17 w.heap.size).pl := by rw [hz']; exact parse_enc _ (w17_good _)
  have hp2 : parseR (zs ++ [0]) = .error 2 := by rw [hz']; exact parse_long _ (w17_good _) [0] (by simp)
  have hcap := hown.cap
  have hcm := hown.capMax
  have hb2 := hown.bytes
  have hW2 := bthen hB1 hB2
  rw [hl] at hcap
  rw [hl]
  replace hl := Lib.hid hl
  replace hp2 := Lib.hid hp2
  clear hz hz' hown hB1 hB2 hl1
  go_wp2_with fail
  refine (parse_ok A c 46 zs hl.out _ hp1 w2 hb2 hcap hcm (by decide)).mono ?_
  rintro e w3 ⟨s, rfl, hok, hpl, hB3⟩
  have hb3 := hb2.step hB3
  have hW3 := bthen hW2 hB3
  obtain ⟨hbase, r, hr, hct⟩ := w17_pl hpl
  have hRc := hok.recs
  clear hb2 hW2 hB3 hp1 hpl hok
  go_wp2_with (refine wpList_var_s 3 rfl rfl (.tmp 3) (.tmp 21) rfl s rfl rfl rfl rfl ?_; intro w4 hr4 hB4)
  have hb4 := hb3.step hB4
  have hR4 := hRc.step hB4
  have hW4 := bthen hW3 hB4
  clear hb3 hRc hW3 hB4
  refine (parse_no _ 3 3 [82, 86, 83] rfl 21 rvs_no _ (by exact lit_bytes w4 _ _ _ _ rfl) (by decide) (by decide) (by decide)).mono ?_
  rintro e w5 ⟨rfl, hB5⟩
  go_wp2_with (refine wpList_var_s 5 rfl rfl (.tmp 5) (.tmp 27) rfl Str0 rfl rfl rfl rfl ?_; intro w6 hr6 hB6)
  have hB46 := bthen (bthen (alloc_below w4 (.cells #[.int .u8 82, .int .u8 86, .int .u8 83] 5 (3, 4))) hB5) hB6
  have hb6 := hb4.step hB46
  have hR6 := hR4.step hB46
  have hr46 := hr4.step hB46
  have hW6 := bthen hW4 hB46
  clear hb4 hR4 hr4 hW4 hB46 hB5 hB6 hr6
  refine (parse_no _ 4 4 [82, 86, 88, 49] rfl 20 rvx_no _ (by exact lit_bytes w6 _ _ _ _ rfl) (by decide) (by decide) (by decide)).mono ?_
  rintro e w7 ⟨rfl, hB7⟩
  go_wp2_with (first
    | (refine wpList_var_s 7 rfl rfl (.tmp 7) (.tmp 33) rfl Str0 rfl rfl rfl rfl ?_
       intro w8 hr8 hB8
       have hB68 := bthen (bthen (alloc_below w6 (.cells #[.int .u8 82, .int .u8 86, .int .u8 88, .int .u8 49] 5 (4, 5))) hB7) hB8
       have hb8 := hb6.step hB68
       have hR8 := hR6.step hB68
       have hr48 := hr46.step hB68
       have hW8 := bthen hW6 hB68
       have hown := OwnB.made w8 w8.heap.size 5 (Nat.le_refl _)
       have hBe := alloc_below w8 (.cells #[] 5)
       clear hb6 hR6 hr46 hW6 hB68 hB7 hB8 hr8)
    | (at_builtin
       refine wpList_app_b hBe.size rfl _ _ 25 rfl Try.underlying25 Try.info_byte 0 (by rfl) hown c 46 hl.out (hb8.step hBe) (by rfl) (by rfl) (by omega) ?_
       intro z1 A1 c1 w9 hz1 hown1 hg1 _
       have hB9 : Below w8.heap.size w8 w9 := hBe.grown hg1 hBe.size (fun k e => (hown.lt k e).1)
       have hl1 : z1.length = 46 := by rw [hz1.out, List.nil_append]; exact hl.out
       have hown1' : OwnB (w9.alloc (.cells #[.int .u8 0] 5)) w8.heap.size 5 A1 c1 z1 := World.ownsRow.alloc hown1 _
       have hBf := balloc hB9 (.cells #[.int .u8 0] 5)
       have hlit := lit_bytes w9 5 (0, 0) [0] #[.int .u8 0] rfl
       rw [hl1]
       replace hl1 := Lib.hid hl1
       clear hown hg1 hBe)
    | (at_builtin
       refine wpList_app_b hBf.size rfl _ _ 25 rfl Try.underlying25 Try.info_byte 46 hl1.out hown1' 1 1 (by rfl) hlit (by rfl) (by rfl) (by omega) ?_
       intro z2 A2 c2 w10 hz2 hown2 hg2 _))
  have hB10 : Below w8.heap.size w8 w10 := hBf.grown hg2 hBf.size (fun k e => (hown1'.lt k e).1)
  have hl2 : z2.length = 47 := by rw [hz2.out, List.length_append, hl1.out]; rfl
  have hp3 : parseR z2 = .error 2 := by rw [hz2.out, hz1.out, List.nil_append]; exact hp2.out
  have hcap2 := hown2.cap
  have hcm2 := hown2.capMax
  have hb10 := hown2.bytes
  replace hp3 := Lib.hid hp3
  clear hown2 hg2 hown1 hown1' hB9 hBf hlit
  refine (parse_no A2 c2 z2.length z2 rfl 2 hp3.out w10 hb10 hcap2 hcm2 (by omega)).mono ?_
  rintro e w11 ⟨rfl, hB11⟩
  go_wp2_with (
    refine wpList_var_s 9 rfl rfl (.tmp 9) (.tmp 42) rfl Str0 rfl rfl rfl rfl ?_
    intro w12 hr12 hB12
    have hB812 := bthen (bthen hB10 hB11) hB12
    have hR12 := hR8.step hB812
    have hr412 := hr48.step hB812
    have hW12 := bthen hW8 hB812
    have s1 : w12.cell? ⟨w3.heap.size, 1, none⟩ = some (.int .i64 1) := by
      have := hr412.cellD 1 _ rfl
      rw [hbase] at this
      exact this
    have s3 : w12.cell? ⟨w3.heap.size, 3, none⟩ = some (.slice s.A 1 s.cap) := by
      have := hr412.cellD 3 _ rfl
      rw [hr] at this
      exact this
    rw [hr] at hR12
    obtain ⟨b, o, hA, _, hcs⟩ := hR12.1.resolve_left (by simp)
    have s4 : w12.cell? ⟨b, o + 1, none⟩ = some (.int .i64 2) := by
      have := hcs 0 (Nat.zero_lt_one) 1 (.int .i64 r.ct) rfl
      rw [hct] at this
      simpa using this
    rw [hA] at s3
    clear hcs hR12 hr412 hB812 hr48 hR8 hB10 hB11 hB12 hr12 hb8 hb10 hr hct hbase hl2 hcap2 hcm2)
  go_ret
  exact ⟨rfl, hW12⟩
end Go.Proofs.Ytdglkjpdhnnpnaa
