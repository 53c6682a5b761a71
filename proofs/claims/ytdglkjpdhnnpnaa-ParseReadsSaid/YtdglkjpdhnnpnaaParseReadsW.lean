/-
  ParseReads's walk.
-/
import Derived.Test.YtdglkjpdhnnpnaaRefParB
import Derived.Test.YtdglkjpdhnnpnaaWakes17
namespace Go.Proofs.Ytdglkjpdhnnpnaa
open Go Go.RowKit Go.Shelf

theorem streams_R (s t : Str) (w : World) (hs : s.Ok w w.heap.size) (ht : t.Ok w w.heap.size) (V U : List Value) (hV : V = s.val) (hU : U = t.val) (h : sameS s t = true) :
    Calls Try.prog 21 #[.agg V.toArray, .agg U.toArray] w fun e w' => e = .returned (.bool true) ∧ Below w.heap.size w w' := by
  subst hV hU
  rw [← h]
  exact streams_calls s t w hs ht
theorem both_same {b : List UInt8} {s t : Str} {c d : Int} (h1 : (c = 0 ∧ parseR b = .ok s.pl) ∨ (c ≠ 0 ∧ parseR b = .error c ∧ s = ⟨0, 0, 0, none, 0, []⟩)) (h2 : (d = 0 ∧ parseR b = .ok t.pl) ∨ (d ≠ 0 ∧ parseR b = .error d ∧ t = Str0)) : c = d ∧ sameS s t = true := by
  rcases h1 with ⟨rfl, h1⟩ | ⟨h0, h1, rfl⟩
  · rcases h2 with ⟨rfl, h2⟩ | ⟨_, h2, _⟩
    · rw [h1] at h2
      exact ⟨rfl, sameS_pl.2 (Except.ok.inj h2)⟩
    · rw [h1] at h2
      cases h2
  · rcases h2 with ⟨rfl, h2⟩ | ⟨_, h2, rfl⟩
    · rw [h1] at h2
      cases h2
    · rw [h1] at h2
      exact ⟨Except.error.inj h2, rfl⟩

theorem wpList_var_r {w : World} {ops : Array Oper} {rest : List Oper} {o1 o2 : Oper} {a : Act} {Q : Exit → Act → World → Prop} (d : Tmp) (hd : o1.dst = some d) (ho1 : o1.op = .alloc 24) (x y : Operand) (ho2 : o2.op = .store 24 x y) (r : Str) (V : List Value) (hV : Hid (V = r.val))
    (hg1 : Region.wanted o1 (yielded ops a.tmps) = true) (hg2 : Region.wanted o2 (yielded ops (a.put (some d) (.pointer (some ⟨w.heap.size, 0, none⟩))).tmps) = true) (hx : (a.put (some d) (.pointer (some ⟨w.heap.size, 0, none⟩))).eval x = .pointer (some ⟨w.heap.size, 0, none⟩)) (hy : (a.put (some d) (.pointer (some ⟨w.heap.size, 0, none⟩))).eval y = .agg V.toArray)
    (h : ∀ w1, RowAt w1 w.heap.size 24 V → Below w.heap.size w w1 → wpList Try.prog ops Q rest ((a.put (some d) (.pointer (some ⟨w.heap.size, 0, none⟩))).put o2.dst undef) w1) : wpList Try.prog ops Q (o1 :: o2 :: rest) a w := by
  obtain rfl := hV.out
  refine wpList_alloc_row d hd 24 ho1 _ hg1 zero_str ?_
  intro w1 h1 _ hB1
  refine wpList_store_str x y ho2 r hg2 rfl h1 hB1 hx hy ?_
  intro w2 h2 hB2
  exact h w2 h2 hB2

set_option maxRecDepth 100000 in
set_option maxHeartbeats 8000000 in
theorem parseReads_walk (A : Option Addr) (cap : Nat) (bs : List UInt8) (w : World) (hl : bs.length ≤ cap) (hm : cap ≤ maxLen) (hb : BytesAt w w.heap.size A bs) :
    Calls Try.prog 7 #[.slice A bs.length cap] w fun e w' => e = .returned (.bool true) ∧ Below w.heap.size w w' := by
  by_cases h8 : 8000 < bs.length
  · have hd : decide ((8000 : Int) < (bs.length : Int)) = true := decide_eq_true (by omega)
    go_enter Try.func7, Try.ntmps7
    go_wp2_with fail
    refine (wakes17_calls w).mono ?_
    rintro e w4 ⟨rfl, hB4⟩
    go_wp2_with fail
    go_ret
    exact ⟨rfl, hB4⟩
  have hd : decide ((8000 : Int) < (bs.length : Int)) = false := decide_eq_false (by omega)
  have hl6 : bs.length ≤ 8000 := by omega
  clear h8
  have hown := OwnB.made w w.heap.size 5 (Nat.le_refl _)
  have hBe := alloc_below w (.cells #[] 5)
  go_enter Try.func7, Try.ntmps7
  go_wp2_with (at_builtin; refine wpList_app_b hBe.size rfl _ _ 25 rfl Try.underlying25 Try.info_byte 0 (by rfl) hown cap _ rfl (hb.step hBe) (by rfl) (by rfl) (by omega) ?_)
  intro z1 A1 c1 w1 hz1 hown1 hg1 _
  have hB1 : Below w.heap.size w w1 := hBe.grown hg1 hBe.size (fun k e => (hown.lt k e).1)
  obtain rfl : z1 = bs := by simpa using hz1.out
  have hb1 := hb.step hB1
  have ho1 := hown1.bytes
  have hc1 := hown1.cap
  have hm1 := hown1.capMax
  clear hz1 hg1 hBe hown hown1 hb
  go_wp2_with fail
  refine (parse_calls A1 c1 z1 w1 ho1 hc1 hm1 (by omega)).mono ?_
  rintro e w2 ⟨hB2, s, c, rfl, hok, hp⟩
  have hb2 := hb1.step hB2
  have hW2 := bthen hB1 hB2
  clear hb1 hB1 hB2 ho1 hc1 hm1
  obtain ⟨SV, hSV'⟩ : ∃ SV, SV = s.val := ⟨_, rfl⟩
  rw [← hSV']
  have hSV := Lib.hid hSV'
  clear hSV'
  have HS4 := Lib.hid (show SV.length = 4 by rw [hSV.out]; rfl)
  have HST := Lib.hid (show (SV.drop 0).take 4 = SV from List.take_of_length_le (Nat.le_of_eq HS4.out))
  go_wp2_with (
    refine wpList_var_r 3 rfl rfl (.tmp 3) (.tmp 15) rfl s SV hSV rfl rfl rfl rfl ?_
    intro w3 hrs hB3
    have hb3 := hb2.step hB3
    have hok3 := hok.step hB3
    have hW3 := bthen hW2 hB3)
  refine (rparse_calls A cap z1 w3 hb3 hl hm (by omega)).mono ?_
  rintro e w4 ⟨hB4, t, d, rfl, hokt, hq⟩
  obtain ⟨rfl, hsm⟩ := both_same hp hq
  have hrs4 := hrs.step hB4
  have hok4 := hok3.step hB4
  have hW4 := bthen hW3 hB4
  clear hp hq hb2 hok hW2 hB3 hb3 hok3 hW3 hB4 hrs
  obtain ⟨GV, hGV'⟩ : ∃ GV, GV = gotV t c := ⟨_, rfl⟩
  obtain ⟨TV, hTV'⟩ : ∃ TV, TV = t.val := ⟨_, rfl⟩
  rw [← hGV']
  have hGV := Lib.hid hGV'
  have hTV := Lib.hid hTV'
  have HG5 := Lib.hid (show GV.length = 5 by rw [hGV']; rfl)
  have HGT := Lib.hid (show (GV.drop 0).take 4 = TV by rw [hGV', hTV']; rfl)
  have HGO := Lib.hid (show ∀ v ∈ GV, v.oneCell' = true by rw [hGV']; exact gotV_one _ _)
  have HT4 := Lib.hid (show TV.length = 4 by rw [hTV']; rfl)
  replace hsm := Lib.hid hsm
  clear hGV' hTV'
  go_wp2_with (first
    | (refine wpList_alloc_row 5 rfl 49 rfl _ rfl zero_got ?_
       intro w5 hrg hz5 hB5
       clear hz5)
    | (refine wpList_store_part 49 (.tmp 5) (.tmp 18) rfl hrg 0 GV rfl rfl rfl (by rw [HG5.out]; exact Try.sizeOf49) (by rw [HG5.out]; exact Nat.le_refl 5) HGO.out ?_
       intro w6 hrg6 _ hg6
       rw [splice_all _ _ (by rw [HG5.out]; rfl)] at hrg6
       have hB6 : Below w4.heap.size w4 w6 := hB5.grown hg6 hB5.size (fun j e => by cases e; exact Nat.le_refl _)
       have hrs6 := hrs4.step hB6
       have hok6 := hok4.step hB6
       have hokt6 := hokt.step hB6
       have hW6 := bthen hW4 hB6
       have c4 := hrg6.cellD 4 (.int .i64 c) (by rw [hGV.out]; rfl)
       clear hg6 hB5 hrg hrs4 hok4 hokt hW4 hB6)
    | (refine wpList_load_part 19 rfl 24 (.tmp 3) rfl hrs6 0 4 SV rfl rfl HST.out HS4.out Try.isAgg24 Try.sizeOf24 ?_)
    | (refine wpList_load_part 21 rfl 24 (.tmp 20) rfl hrg6 0 4 TV rfl rfl HGT.out HT4.out Try.isAgg24 Try.sizeOf24 ?_))
  refine (streams_R s t w6 hok6 hokt6 SV TV hSV.out hTV.out hsm.out).mono ?_
  rintro e w7 ⟨rfl, hB7⟩
  have c47 : w7.cell? ⟨w4.heap.size, 4, none⟩ = some (.int .i64 c) := (hrg6.step hB7).cellD 4 _ (by rw [hGV.out]; rfl)
  have hW7 := bthen hW6 hB7
  have hcc : (c == c) = true := by simp
  clear hW6 hB7 hrg6 hrs6 hok6 hokt6 c4
  go_wp2_with fail
  refine (wakes17_calls w7).mono ?_
  rintro e w8 ⟨rfl, hB8⟩
  go_wp2_with fail
  go_ret
  exact ⟨rfl, bthen hW7 hB8⟩
end Go.Proofs.Ytdglkjpdhnnpnaa
