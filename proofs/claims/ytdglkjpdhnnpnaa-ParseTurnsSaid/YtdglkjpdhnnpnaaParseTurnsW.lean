/-
  ParseTurns's walk.
-/
import Derived.Test.YtdglkjpdhnnpnaaParseBackW
import Derived.Test.YtdglkjpdhnnpnaaParTurn
import Derived.Test.YtdglkjpdhnnpnaaStrRGood
namespace Go.Proofs.Ytdglkjpdhnnpnaa
open Go Go.RowKit Go.Shelf

attribute [local go_sem] xor_u8
/-- Reading, where it is known whether it is taken. -/
theorem parse_any (A : Option Addr) (cap n : Nat) (b : List UInt8) (hn : b.length = n) (w : World) (hb : BytesAt w w.heap.size A b) (hc : n ≤ cap) (hm : cap ≤ maxLen) (hl : n ≤ 1000000) (t : Bool) (ht : t = true ↔ ∃ p, parseR b = .ok p) :
    Calls Try.prog 24 #[.slice A n cap] w fun e w' => ∃ (s : Str) (c : Int), e = .returned (.tuple #[.agg s.val.toArray, .int .i64 c]) ∧ (c == 0) = t ∧ Below w.heap.size w w' := by
  subst hn
  refine (parse_calls A cap b w hb hc hm hl).mono ?_
  rintro e w' ⟨hB, s, c, rfl, hok, ⟨rfl, h⟩ | ⟨h0, h, _⟩⟩
  · exact ⟨s, 0, rfl, by rw [ht.2 ⟨_, h⟩]; rfl, hB⟩
  · refine ⟨s, c, rfl, ?_, hB⟩
    cases t
    · simpa using h0
    · obtain ⟨p, hp⟩ := ht.1 rfl
      rw [h] at hp
      cases hp
theorem rgood_W (s : Str) (w : World) (hmany : s.recs.length ≤ 100000) (hok : s.Ok w w.heap.size) (S : List Value) (hS : S = s.val) (b : Bool) (hb : goodB s = b) :
    Calls Try.prog 17 #[.agg S.toArray] w fun e w' => e = .returned (.bool b) ∧ Below w.heap.size w w' := by
  subst hS hb
  exact rgood_calls s w hmany hok
theorem turned_iff (s : Str) (hg : goodB s = true) (k : Nat) (hk : k < (encE s).length) (v x : UInt8) (hx : x = (encE s)[k]) : decide (v = 0) = true ↔ ∃ p, parseR ((encE s).set k (x ^^^ v)) = .ok p := by
  subst hx
  rw [decide_eq_true_eq]
  constructor
  · rintro rfl
    rw [UInt8.xor_zero, List.set_getElem_self hk]
    exact ⟨_, parse_enc s hg⟩
  · rintro ⟨p, hp⟩
    false_or_by_contra
    rename_i hv
    obtain ⟨c, hc⟩ := parse_turned s k hk ((encE s)[k] ^^^ v) (fun e => hv (xor_eq_self.1 e))
    rw [hc] at hp
    cases hp

set_option maxRecDepth 100000 in
set_option maxHeartbeats 8000000 in
theorem parseTurns_walk (s : Str) (at_ : Int) (by_ : UInt8) (w : World) (hok : s.Ok w w.heap.size) (_h1 : -9223372036854775808 ≤ at_) (_h2 : at_ ≤ 9223372036854775807) :
    Calls Try.prog 9 #[.agg s.val.toArray, .int .i64 at_, B8 by_] w fun e w' => e = .returned (.bool true) ∧ Below w.heap.size w w' := by
  have hs0 := Lib.hid (fun W (hB : Below w.heap.size w W) => hok.step hB)
  have hfs := Lib.hid (fun W (hB : Below w.heap.size w W) => fair16_calls s W (hok.step hB))
  obtain ⟨SV, hSV⟩ : ∃ SV, SV = s.val := ⟨_, rfl⟩
  have HS4 := Lib.hid (show SV.length = 4 by rw [hSV]; rfl)
  have HST := Lib.hid (show (SV.drop 0).take 4 = SV from List.take_of_length_le (Nat.le_of_eq HS4.out))
  have HSV := Lib.hid hSV
  rw [← hSV]
  clear hSV hok
  go_enter Try.func9, Try.ntmps9
  go_wp2_with (first
    | (refine wpList_box_row 3 rfl 24 _ rfl SV rfl rfl ?_; intro w1 hrs hz1 hB1; clear hz1)
    | (refine wpList_load_part 17 rfl 24 (.tmp 3) rfl hrs 0 4 SV rfl rfl HST.out HS4.out Try.isAgg24 Try.sizeOf24 ?_))
  rw [HSV.out]
  refine (hfs.out w1 hB1).mono ?_
  rw [← HSV.out]
  rintro e w2 ⟨rfl, hB2⟩
  have hs2 := hrs.step hB2
  have hW2 := bthen hB1 hB2
  clear hrs hB1 hB2 hfs
  cases hf : fairS s
  · go_wp2_with fail
    refine (wakes17_calls w2).mono ?_
    rintro e w4 ⟨rfl, hB4⟩
    go_wp2_with fail
    go_ret
    exact ⟨rfl, bthen hW2 hB4⟩
  have hmany : s.recs.length ≤ 100000 := by
    unfold fairS at hf
    rw [Bool.and_eq_true, decide_eq_true_eq, decide_eq_true_eq] at hf
    omega
  replace hmany := Lib.hid hmany
  clear hf
  go_wp2_with (refine wpList_load_part 21 rfl 24 (.tmp 3) rfl hs2 0 4 SV rfl rfl HST.out HS4.out Try.isAgg24 Try.sizeOf24 ?_)
  refine (rgood_W s w2 hmany.out (hs0.out w2 hW2) SV HSV.out (goodB s) rfl).mono ?_
  rintro e w3 ⟨rfl, hB3⟩
  have hs3 := hs2.step hB3
  have hW3 := bthen hW2 hB3
  clear hs2 hW2 hB3
  cases hg : goodB s
  · go_wp2_with fail
    refine (wakes17_calls w3).mono ?_
    rintro e w4 ⟨rfl, hB4⟩
    go_wp2_with fail
    go_ret
    exact ⟨rfl, bthen hW3 hB4⟩
  have hbl := body_len hg
  have hel := encE_length s
  have hce := Lib.hid (show codeE s = 0 by unfold codeE; rw [if_pos hg])
  have hre := Lib.hid (show encR s = encE s by unfold encR; rw [if_pos hg])
  have hsh := Lib.hid (fun k hk => parse_short s hg k hk)
  have hti := Lib.hid (fun k hk v x hx => turned_iff s hg k hk v x hx)
  have hlo := Lib.hid (parse_long s hg [by_] (by simp))
  clear hg
  go_wp2_with (refine wpList_load_part 27 rfl 24 (.tmp 3) rfl hs3 0 4 SV rfl rfl HST.out HS4.out Try.isAgg24 Try.sizeOf24 ?_)
  refine (encode_W s w3 (hs0.out w3 hW3) SV HSV.out 0 hce.out).mono ?_
  rintro e w4 ⟨zs, A, c, rfl, hz, hown, hB4⟩
  have hW4 := bthen hW3 hB4
  have hb4 := hown.bytes
  have hcap := hown.cap
  have hcm := hown.capMax
  have hz' : zs = encE s := by rw [hz.out, hre.out]
  have hlz : zs.length = (bodyE s).length + 9 := by rw [hz', hel]
  have hl6 : zs.length ≤ 300009 := by omega
  have hpos : 0 < zs.length := by omega
  have hz0 : ((zs.length : Int) == 0) = false := by rw [beq_eq_false_iff_ne]; omega
  rw [← hz'] at hsh hti hlo
  clear hs3 hW3 hB4 hown hz hz' hlz hel hbl hs0 HSV HST HS4 hmany hre hce
  go_wp2_with fail
  obtain ⟨k, hk, hkl⟩ := modN_nat at_ hpos
  refine (mod_calls at_ _ _ (by omega) (by omega)).mono ?_
  rintro e w' ⟨rfl, rfl⟩
  rw [hk]
  clear hk hz0
  have hkc : k ≤ c := by omega
  have hbk := hb4.take k
  have hlk : (zs.take k).length = k := by rw [List.length_take]; omega
  go_wp2_with fail
  refine (parse_no2 A c k (zs.take k) hlk 21 (hsh.out k hkl) w4 hbk hkc hcm (by omega)).mono ?_
  rintro e w5 ⟨rfl, _, hB5⟩
  have hW5 := bthen hW4 hB5
  have hb5 := hb4.step hB5
  clear hW4 hB5 hb4 hbk hlk
  go_wp2_with (first
    | (refine wpList_var_s 10 rfl rfl (.tmp 10) (.tmp 47) rfl Str0 rfl rfl rfl rfl ?_
       intro w6 hr6 hB6
       have hb6 := hb5.step hB6
       have hW6 := bthen hW5 hB6
       have hown6 := OwnB.made w6 w6.heap.size 5 (Nat.le_refl _)
       have hBe := alloc_below w6 (.cells #[] 5)
       clear hb5 hW5 hB6 hr6)
    | (at_builtin
       refine wpList_app_b hBe.size rfl _ _ 25 rfl Try.underlying25 Try.info_byte 0 (by rfl) hown6 c _ rfl (hb6.step hBe) (by rfl) (by rfl) (by omega) ?_))
  intro z1 A1 c1 w7 hz1 hown1 hg1 _
  have hB7 : Below w6.heap.size w6 w7 := hBe.grown hg1 hBe.size (fun k e => (hown6.lt k e).1)
  obtain rfl : z1 = zs := by simpa using hz1.out
  have hb7 := hb6.step hB7
  have hW7 := bthen hW6 hB7
  obtain ⟨g, rfl, hg0, _, hgc, hgf⟩ := hown1.form hpos
  have hck := hgc k hkl
  have hfk := hgf k
  have hx : z1[k]?.getD 0 = z1[k] := by rw [List.getElem?_eq_getElem hkl]; rfl
  rw [hx] at hck
  have hc1 := hown1.cap
  have hm1 := hown1.capMax
  clear hx hgc hgf hz1 hg1 hBe hown6
  have hset := hown1.set k (z1[k] ^^^ by_) hkl
  have hT := hti.out k hkl by_ z1[k] rfl
  have hsl : (z1.set k (z1[k] ^^^ by_)).length = z1.length := List.length_set
  have hB8 : Below w6.heap.size w6 (w7.setCell ⟨g, k, none⟩ (B8 (z1[k] ^^^ by_))) := hB7.setCell (p := ⟨g, k, none⟩) hg0 _
  have hb8 := (hb6.below hB8).more hB8.size
  have hW8 := bthen hW6 hB8
  clear hb6 hb7 hW6 hW7 hB7 hown1 hB8 hg0
  generalize z1[k] = x at hck hset hT hsl hb8 hW8
  generalize z1.set k (x ^^^ by_) = ys at hset hT hsl
  have hT' := Lib.hid hT
  obtain ⟨T, hTd⟩ : ∃ T, T = decide (by_ = 0) := ⟨_, rfl⟩
  rw [← hTd] at hT'
  have hby : ((by_.toNat : Int) == 0) = T := by
    rw [hTd, Bool.eq_iff_iff, decide_eq_true_eq]
    exact eq_u8_0
  replace hsl := Lib.hid hsl
  clear hT hTd
  have hk0 : (0 : Int) ≤ (k : Int) := by omega
  have hk1 : (k : Int) < (z1.length : Int) := by omega
  go_wp2_with fail
  refine (parse_any _ c1 _ ys hsl.out _ hset.bytes hc1 hm1 (by omega) T hT'.out).mono ?_
  rintro e w9 ⟨t, cc, rfl, hcc, hB9⟩
  have hb9 := hb8.step hB9
  have hW9 := bthen hW8 hB9
  clear hb8 hW8 hB9 hset hck hfk hT' hsl hc1 hm1
  go_wp2_with (first
    | (refine wpList_var_s 13 rfl rfl (.tmp 13) (.tmp 62) rfl t rfl rfl rfl rfl ?_
       intro w10 hr10 hB10
       have hb10 := hb9.step hB10
       have hW10 := bthen hW9 hB10
       have hown10 := OwnB.made w10 w10.heap.size 5 (Nat.le_refl _)
       have hBe := alloc_below w10 (.cells #[] 5)
       clear hb9 hW9 hB10 hr10)
    | (at_builtin
       refine wpList_app_b hBe.size rfl _ _ 25 rfl Try.underlying25 Try.info_byte 0 (by rfl) hown10 c _ rfl (hb10.step hBe) (by rfl) (by rfl) (by omega) ?_
       intro z2 A2 c2 w11 hz2 hown2 hg2 _
       have hB11 : Below w10.heap.size w10 w11 := hBe.grown hg2 hBe.size (fun k e => (hown10.lt k e).1)
       have hW11 := bthen hW10 hB11
       have hown3 : OwnB (w11.alloc (.cells #[B8 by_] 5)) w10.heap.size 5 A2 c2 z2 := World.ownsRow.alloc hown2 _
       have hBf := balloc hB11 (.cells #[B8 by_] 5)
       have hlit := lit_bytes w11 5 (0, 0) [by_] #[B8 by_] rfl
       have hl2 := Lib.hid (show z2.length = z1.length by rw [hz2.out, List.nil_append])
       clear hown10 hg2 hBe hb10 hB11 hown2)
    | (at_builtin
       refine wpList_app_b hBf.size rfl _ _ 25 rfl Try.underlying25 Try.info_byte _ rfl hown3 1 1 (by rfl) hlit (by rfl) (by rfl) (by rw [hl2.out]; omega) ?_
       intro z3 A3 c3 w12 hz3 hown4 hg3 _))
  have hB12 : Below w10.heap.size w10 w12 := hBf.grown hg3 hBf.size (fun k e => (hown3.lt k e).1)
  have hW12 := bthen hW10 hB12
  have hz3' : z3 = z1 ++ [by_] := by rw [hz3.out, hz2.out, List.nil_append]
  have hp3 := Lib.hid (show parseR z3 = .error 2 by rw [hz3']; exact hlo.out)
  have hl3 : z3.length ≤ 1000000 := by rw [hz3', List.length_append, List.length_singleton]; omega
  have hc3 := hown4.cap
  have hm3 := hown4.capMax
  have hb12 := hown4.bytes
  clear hz3' hz3 hz2 hown4 hg3 hBf hlit hown3 hB12 hW10 hW11
  refine (parse_no2 A3 c3 _ z3 rfl 2 hp3.out w12 hb12 hc3 hm3 hl3).mono ?_
  rintro e w13 ⟨rfl, _, hB13⟩
  have hW13 := bthen hW12 hB13
  clear hW12 hB13 hb12 hc3 hm3
  go_wp2_with (
    refine wpList_var_s 15 rfl rfl (.tmp 15) (.tmp 72) rfl Str0 rfl rfl rfl rfl ?_
    intro w14 hr14 hB14
    have hW14 := bthen hW13 hB14)
  refine (wakes17_calls w14).mono ?_
  rintro e w15 ⟨rfl, hB15⟩
  go_wp2_with fail
  go_ret
  exact ⟨rfl, bthen hW14 hB15⟩
end Go.Proofs.Ytdglkjpdhnnpnaa
