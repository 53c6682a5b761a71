/-
  ParseBack's walk.
-/
import Derived.Test.YtdglkjpdhnnpnaaWakes17
namespace Go.Proofs.Ytdglkjpdhnnpnaa
open Go Go.RowKit Go.Shelf

theorem encode_W (s : Str) (w : World) (hok : s.Ok w w.heap.size) (V : List Value) (hV : V = s.val) (es : Int) (hes : codeE s = es) :
    Calls Try.prog 14 #[.agg V.toArray] w fun e w' => ∃ zs A c, e = .returned (.tuple #[.slice A zs.length c, .int .i64 es]) ∧ Hid (zs = encR s) ∧ OwnB w' w.heap.size 5 A c zs ∧ Below w.heap.size w w' := by
  subst hV hes
  exact encode_calls s w hok
theorem good_W (s : Str) (w : World) (hok : s.Ok w w.heap.size) (V : List Value) (hV : V = s.val) (b : Bool) (hg : goodB s = b) :
    Calls Try.prog 16 #[.agg V.toArray] w fun e w' => e = .returned (.bool b) ∧ Below w.heap.size w w' := by
  subst hV hg
  exact good_calls s w hok
theorem parse_good {b : List UInt8} {s : Str} (h : parseR b = .ok s.pl) : goodB s = true ∧ encE s = b := by
  obtain ⟨h1, h2⟩ := parse_back h
  rw [goodB_pl] at h2
  rw [encE_pl] at h1
  exact ⟨h2, h1⟩

theorem parse_no2 (A : Option Addr) (cap n : Nat) (b : List UInt8) (hn : b.length = n) (c : Int) (hp : parseR b = .error c) (w : World) (hb : BytesAt w w.heap.size A b) (hc : n ≤ cap) (hm : cap ≤ maxLen) (hl : n ≤ 1000000) :
    Calls Try.prog 24 #[.slice A n cap] w fun e w' => e = .returned (.tuple #[.agg Str0.val.toArray, .int .i64 c]) ∧ c ≠ 0 ∧ Below w.heap.size w w' := by
  subst hn
  refine (parse_calls A cap b w hb hc hm hl).mono ?_
  rintro e w' ⟨hB, s, c', rfl, hok, ⟨rfl, h⟩ | ⟨h0, h, rfl⟩⟩
  · rw [hp] at h
    cases h
  · rw [hp] at h
    cases h
    exact ⟨rfl, h0, hB⟩

set_option maxRecDepth 100000 in
set_option maxHeartbeats 8000000 in
theorem parseBack_walk (s : Str) (A : Option Addr) (cap : Nat) (bs : List UInt8) (w : World) (hok : s.Ok w w.heap.size) (hl : bs.length ≤ cap) (hm : cap ≤ maxLen) (hb : BytesAt w w.heap.size A bs) :
    Calls Try.prog 8 #[.agg s.val.toArray, .slice A bs.length cap] w fun e w' => e = .returned (.bool true) ∧ Below w.heap.size w w' := by
  have hs0 := Lib.hid (fun W (hB : Below w.heap.size w W) => hok.step hB)
  have hfs := Lib.hid (fun W (hB : Below w.heap.size w W) => fair16_calls s W (hok.step hB))
  obtain ⟨SV, hSV⟩ : ∃ SV, SV = s.val := ⟨_, rfl⟩
  have HS4 := Lib.hid (show SV.length = 4 by rw [hSV]; rfl)
  have HST := Lib.hid (show (SV.drop 0).take 4 = SV from List.take_of_length_le (Nat.le_of_eq HS4.out))
  have HSV := Lib.hid hSV
  rw [← hSV]
  clear hSV hok
  go_enter Try.func8, Try.ntmps8
  go_wp2_with (first
    | (refine wpList_box_row 2 rfl 24 _ rfl SV rfl rfl ?_; intro w1 hrs hz1 hB1; clear hz1)
    | (refine wpList_load_part 13 rfl 24 (.tmp 2) rfl hrs 0 4 SV rfl rfl HST.out HS4.out Try.isAgg24 Try.sizeOf24 ?_))
  rw [HSV.out]
  refine (hfs.out w1 hB1).mono ?_
  rw [← HSV.out]
  rintro e w2 ⟨rfl, hB2⟩
  have hs2 := hrs.step hB2
  have hW2 := bthen hB1 hB2
  clear hrs hB1 hB2 hfs
  cases hf : fairS s
  · go_wp2_with fail
    refine (wakes17_calls w2).mono ?_
    rintro e w4 ⟨rfl, hB4⟩
    go_wp2_with fail
    go_ret
    exact ⟨rfl, bthen hW2 hB4⟩
  clear hf
  by_cases h8 : 8000 < bs.length
  · have hd : decide ((8000 : Int) < (bs.length : Int)) = true := decide_eq_true (by omega)
    go_wp2_with fail
    refine (wakes17_calls w2).mono ?_
    rintro e w4 ⟨rfl, hB4⟩
    go_wp2_with fail
    go_ret
    exact ⟨rfl, bthen hW2 hB4⟩
  have hd : decide ((8000 : Int) < (bs.length : Int)) = false := decide_eq_false (by omega)
  have hl6 : bs.length ≤ 1000000 := by omega
  clear h8
  obtain ⟨es, hes⟩ : ∃ es, codeE s = es := ⟨_, rfl⟩
  go_wp2_with (refine wpList_load_part 23 rfl 24 (.tmp 2) rfl hs2 0 4 SV rfl rfl HST.out HS4.out Try.isAgg24 Try.sizeOf24 ?_)
  refine (encode_W s w2 (hs0.out w2 hW2) SV HSV.out es hes).mono ?_
  rintro e w3 ⟨zs, A3, c3, rfl, hz, hown, hB3⟩
  have hs3 := hs2.step hB3
  have hW3 := bthen hW2 hB3
  have hb3 := hown.bytes
  have hcap3 := hown.cap
  have hcm3 := hown.capMax
  clear hs2 hW2 hB3 hown hd
  unfold codeE at hes
  cases hg : goodB s
  focus
    rw [hg] at hes
    obtain rfl : es = 11 := hes.symm
    clear hz hcap3 hcm3 hs3 hb3 hg hes
    go_wp2_with fail
    have hWz := hW3
    clear hW3
    generalize w3 = wz at hWz ⊢
  rotate_left
  focus
    rw [hg] at hes
    obtain rfl : es = 0 := hes.symm
    have hz' : zs = encE s := by
      have h := hz.out
      unfold encR at h
      rwa [if_pos hg] at h
    have hzl : zs.length ≤ 1000000 := by
      have := body_len hg
      rw [hz', encE_length]
      omega
    have hp : parseR zs = .ok s.pl := by rw [hz']; exact parse_enc s hg
    replace hp := Lib.hid hp
    clear hz hz' hg hes
    go_wp2_with fail
    refine (parse_ok A3 c3 zs.length zs rfl s.pl hp.out w3 hb3 hcap3 hcm3 hzl).mono ?_
    rintro e w4 ⟨t, rfl, hokt, hpl, hB4⟩
    have hs4 := hs3.step hB4
    have hW4 := bthen hW3 hB4
    have hst := Lib.hid (sameS_pl.2 hpl)
    obtain ⟨TV, hTV'⟩ : ∃ TV, TV = t.val := ⟨_, rfl⟩
    have hTV := Lib.hid hTV'
    clear hTV'
    have HT4 := Lib.hid (show TV.length = 4 by rw [hTV.out]; rfl)
    have HTT := Lib.hid (show (TV.drop 0).take 4 = TV from List.take_of_length_le (Nat.le_of_eq HT4.out))
    clear hs3 hW3 hB4 hb3 hcap3 hcm3 hzl hp hpl
    go_wp2_with (first
      | (refine wpList_var_s 7 rfl rfl (.tmp 7) (.tmp 32) rfl t rfl rfl rfl rfl ?_
         intro w5 hrt hB5
         rw [← hTV.out] at hrt
         have hs5 := hs4.step hB5
         have hokt5 := hokt.step hB5
         have hW5 := bthen hW4 hB5)
      | (refine wpList_load_part 37 rfl 24 (.tmp 7) rfl hrt 0 4 TV rfl rfl HTT.out HT4.out Try.isAgg24 Try.sizeOf24 ?_)
      | (refine wpList_load_part 38 rfl 24 (.tmp 2) rfl hs5 0 4 SV rfl rfl HST.out HS4.out Try.isAgg24 Try.sizeOf24 ?_))
    have hstr := streams_calls t s w5 hokt5 (hs0.out w5 hW5)
    rw [hst.out, ← hTV.out, ← HSV.out] at hstr
    replace hstr := Lib.hid hstr
    clear hst hTV hs4 hW4 hokt hrt hB5 hs5 hokt5
    refine hstr.out.mono ?_
    rintro e w6 ⟨rfl, hB6⟩
    go_wp2_with fail
    have hWz := bthen hW5 hB6
    clear hW5 hB6 hstr
    generalize w6 = wz at hWz ⊢
  all_goals
    have hbz := hb.step hWz
    cases hp : parseR bs with
    | error c =>
      refine (parse_no2 A cap bs.length bs rfl c hp wz hbz hl hm hl6).mono ?_
      rintro e w7 ⟨rfl, hc0, hB7⟩
      have hW7 := bthen hWz hB7
      have hcc : (c != 0) = true := by simpa using hc0
      clear hp hc0 hbz hWz hB7 hb hs0
      go_wp2_with (
        refine wpList_var_s 9 rfl rfl (.tmp 9) (.tmp 45) rfl Str0 rfl rfl rfl rfl ?_
        intro w8 hr8 hB8
        have q0 := hr8.cellD 0 _ rfl
        have q3 := hr8.cellD 3 _ rfl
        have hW8 := bthen hW7 hB8)
      refine (wakes17_calls w8).mono ?_
      rintro e w9 ⟨rfl, hB9⟩
      go_wp2_with fail
      go_ret
      exact ⟨rfl, bthen hW8 hB9⟩
    | ok p =>
      refine (parse_ok A cap bs.length bs rfl p hp wz hbz hl hm hl6).mono ?_
      rintro e w7 ⟨t, rfl, hokt, hpl, hB7⟩
      rw [← hpl] at hp
      obtain ⟨hgt, hen⟩ := parse_good hp
      have hW7 := bthen hWz hB7
      have hb7 := hbz.step hB7
      obtain ⟨TV, hTV'⟩ : ∃ TV, TV = t.val := ⟨_, rfl⟩
      have hTV := Lib.hid hTV'
      have HT4 := Lib.hid (show TV.length = 4 by rw [hTV']; rfl)
      have HTT := Lib.hid (show (TV.drop 0).take 4 = TV from List.take_of_length_le (Nat.le_of_eq HT4.out))
      have hce := Lib.hid (show codeE t = 0 by unfold codeE; rw [if_pos hgt])
      have hre := Lib.hid (show encR t = bs by unfold encR; rw [if_pos hgt]; exact hen)
      replace hgt := Lib.hid hgt
      clear hp hpl hen hbz hWz hB7 hb hs0 hTV'
      go_wp2_with (first
        | (refine wpList_var_s 9 rfl rfl (.tmp 9) (.tmp 45) rfl t rfl rfl rfl rfl ?_
           intro w8 hrt hB8
           rw [← hTV.out] at hrt
           have hokt8 := hokt.step hB8
           have hb8 := hb7.step hB8
           have hW8 := bthen hW7 hB8)
        | (refine wpList_load_part 62 rfl 24 (.tmp 9) rfl hrt 0 4 TV rfl rfl HTT.out HT4.out Try.isAgg24 Try.sizeOf24 ?_))
      refine (encode_W t w8 hokt8 TV hTV.out 0 hce.out).mono ?_
      rintro e w9 ⟨xs, A6, c6, rfl, hx, hown, hB9⟩
      have hrt9 := hrt.step hB9
      have hokt9 := hokt8.step hB9
      have hb9 := hb8.step hB9
      have hW9 := bthen hW8 hB9
      have hbc := bytes_calls A6 A c6 cap xs bs w9 _ _ hown.bytes hb9
      rw [show xs = bs from hx.out.trans hre.out, beq_self_eq_true] at hbc
      have hxl : xs.length = bs.length := by rw [hx.out, hre.out]
      rw [hxl]
      replace hbc := Lib.hid hbc
      clear hx hre hown hB9 hrt hokt8 hb8 hW8 hxl hb9 hb7 hokt hB8
      go_wp2_with fail
      refine hbc.out.mono ?_
      rintro e w10 ⟨rfl, rfl⟩
      go_wp2_with (refine wpList_load_part 74 rfl 24 (.tmp 9) rfl hrt9 0 4 TV rfl rfl HTT.out HT4.out Try.isAgg24 Try.sizeOf24 ?_)
      refine (good_W t w9 hokt9 TV hTV.out true hgt.out).mono ?_
      rintro e w11 ⟨rfl, hB11⟩
      have hW11 := bthen hW9 hB11
      go_wp2_with fail
      refine (wakes17_calls w11).mono ?_
      rintro e w12 ⟨rfl, hB12⟩
      go_wp2_with fail
      go_ret
      exact ⟨rfl, bthen hW11 hB12⟩
end Go.Proofs.Ytdglkjpdhnnpnaa
