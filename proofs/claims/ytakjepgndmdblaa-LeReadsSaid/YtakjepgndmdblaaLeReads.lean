/-
  LeReads returns true, whatever the bytes and the steps, and writes nothing that was there.
-/
import Derived.Test.YtakjepgndmdblaaWakes01
import Derived.Test.YtakjepgndmdblaaOpen
namespace Go.Proofs.Ytakjepgndmdblaa
open Go Go.RowKit Go.Shelf

set_option maxRecDepth 100000 in
set_option maxHeartbeats 4000000 in
theorem leReads_walk (A : Option Addr) (cap : Nat) (bs : List UInt8) (L : Option Addr) (lcap : Nat) (l : List (Bool × Int)) (w : World) (hl : bs.length ≤ cap) (hm : cap ≤ maxLen) (hb : BytesAt w w.heap.size A bs)
    (hll : l.length ≤ lcap) (_hlm : lcap ≤ maxLen) (hs : StepsAt w w.heap.size L l) (hw : ∀ x ∈ l, -9223372036854775808 ≤ x.2 ∧ x.2 ≤ 9223372036854775807) :
    Calls Try.prog 8 #[.slice A bs.length cap, .slice L l.length lcap] w fun e w' => e = .returned (.bool true) ∧ Below w.heap.size w w' := by
  by_cases hbig : 5000 < bs.length
  · have hd : decide ((5000 : Int) < (bs.length : Int)) = true := decide_eq_true (by omega)
    go_enter Try.func8, Try.ntmps8
    go_wp2_with (go_at_call 19; refine (wakes01_calls _).mono ?_; rintro e w1 ⟨rfl, hB1⟩)
    go_ret
    exact ⟨rfl, hB1⟩
  have hd : decide ((5000 : Int) < (bs.length : Int)) = false := decide_eq_false (by omega)
  by_cases hbig2 : 300 < l.length
  · have hd2 : decide ((300 : Int) < (l.length : Int)) = true := decide_eq_true (by omega)
    go_enter Try.func8, Try.ntmps8
    go_wp2_with (go_at_call 19; refine (wakes01_calls _).mono ?_; rintro e w1 ⟨rfl, hB1⟩)
    go_ret
    exact ⟨rfl, hB1⟩
  have hd2 : decide ((300 : Int) < (l.length : Int)) = false := decide_eq_false (by omega)
  have hlen : bs.length ≤ 140737488351232 := by omega
  have hown := OwnB.made w w.heap.size 5 (Nat.le_refl _)
  have hB0 := balloc (brefl w) (.cells #[] 5)
  go_enter Try.func8, Try.ntmps8
  go_wp2_with (at_builtin; refine wpList_app hB0 rfl _ _ 23 rfl Try.underlying23 Try.info_byte hown cap (hb.alloc _) (by rfl) (by rfl) (by simp; omega) ?_)
  clear hB0 hown
  intro zs A1 c1 w1 hz hown1 hB1 _ _
  have hzs : zs = bs := by simpa using hz.out
  subst hzs
  clear hz
  go_wp2_with fail
  refine (newReader_calls _ _ _ hlen _ hown1.bytes).mono ?_
  rintro e w2 ⟨⟨R, rfl, hR, hr2⟩, hB2⟩
  have hin := hown1.bytes
  clear hown1
  go_wp2_with fail
  go_loopw [7, 8] (fun rs i wr => ∃ (k : Nat) (rest : List UInt8) (A2 : Option Addr) (c2 : Nat), k ≤ l.length ∧ i = .int .i64 k ∧ rs = .slice A2 rest.length c2 ∧ rest.length ≤ c2 ∧ c2 ≤ maxLen ∧ rest.length ≤ 5000 ∧
      BytesAt w1 w1.heap.size A2 rest ∧ ReaderAt wr R rest ∧ Below w1.heap.size w1 wr) (fun _ i _ => l.length - (intOf i).toNat)
  case atStart => exact ⟨0, zs, A, cap, Nat.zero_le _, rfl, rfl, hl, hm, by omega, hb.step hB1, hr2, hB2⟩
  case round =>
    unfold maxLen at *
    obtain ⟨k, rest, A2, c2, hk, rfl, rfl, hl2, hm2, hl5, hb2, hr, hB⟩ := hrel
    by_cases hlt : k < l.length
    · rcases hs with rfl | ⟨b, off, rfl, hbw, hc⟩
      · simp at hlt
      obtain ⟨hc0, hc1⟩ := hc k hlt
      have hwk := hw (l[k]) (List.getElem_mem hlt)
      have hx : l[k]?.getD (false, 0) = l[k] := by rw [List.getElem?_eq_getElem hlt]; rfl
      rw [hx] at hc0 hc1
      generalize l[k] = x at hc0 hc1 hwk
      obtain ⟨t, s⟩ := x
      clear hc hx
      simp only at hc0 hc1 hwk
      have hBw : Below w.heap.size w wr := bthen hB1 hB
      have hc0' : wr.cell? ⟨b, off + k * 2, none⟩ = some (.bool t) := (hBw.cell hbw).trans hc0
      have hc1' : wr.cell? ⟨b, off + k * 2 + 1, none⟩ = some (.int .i64 s) := (hBw.cell hbw).trans hc1
      clear hc0 hc1
      by_cases hfit : 0 ≤ s ∧ s ≤ (rest.length : Int)
      · obtain ⟨hf0, hf1⟩ := hfit
        have hd3 : decide (0 ≤ s) = true := decide_eq_true hf0
        have hd4 : decide (s ≤ (rest.length : Int)) = true := decide_eq_true hf1
        obtain ⟨m, rfl⟩ := Int.eq_ofNat_of_zero_le hf0
        have hmr : m ≤ rest.length := by omega
        have hm1 : (m : Int) ≤ (c2 : Int) := by omega
        have hm2' : (rest.length : Int) ≤ (c2 : Int) := by omega
        have hxl : (rest.take m).length = m := by rw [List.length_take]; omega
        have hyl : (rest.drop m).length = rest.length - m := List.length_drop
        have hxs := hb2.take m
        have hys := hb2.drop (k := m) hl2
        obtain ⟨A3, hA3⟩ : ∃ A3, (if c2 = m then A2 else A2.map (fun x => x.add m)) = A3 := ⟨_, rfl⟩
        rw [hA3] at hys
        have hrW := hr.below ((Below.refl _ wr).alloc (Nat.le_refl _) (.cells #[.bool t, .int .i64 (m : Int)] 40))
        have hnum := num_fits R rest m hmr _ hrW
        have htake := take_fits R rest m hmr _ hrW
        have hRlt := hr.lt
        clear hrW
        generalize rest.take m = xs at hxl hxs hnum htake
        generalize rest.drop m = ys at hyl hys hnum htake
        replace hxl := Lib.hid hxl
        replace hyl := Lib.hid hyl
        replace hnum := Lib.hid hnum
        replace htake := Lib.hid htake
        cases t
        · clear htake
          go_wp2_with fail
          refine Calls.mono hnum.out ?_
          rintro e w3 ⟨rfl, hr3, hg3⟩
          have hB3 : Below w1.heap.size w1 w3 := (hB.alloc hB.size _).grown hg3 (by have := hB.size; simp; omega) (fun j e => by cases e; omega)
          have hx3 := (hg3.block wr.heap.size (by simp) (fun e => by cases e; omega)).trans (World.alloc_heap_new wr _)
          have hx0 : w3.cell? ⟨wr.heap.size, 0, none⟩ = some (.bool false) := cell_of_row w3 _ 0 _ _ _ hx3
          have hx1 : w3.cell? ⟨wr.heap.size, 1, none⟩ = some (.int .i64 (m : Int)) := cell_of_row w3 _ 1 _ _ _ hx3
          have hxs3 := hxs.below hB3
          go_wp2_with fail
          refine (rget_calls_n _ _ _ xs hxl.out (by unfold maxLen; omega) _ _ hxs3).mono ?_
          rintro e w' ⟨rfl, rfl⟩
          go_wp2_with fail
          refine (left_calls R ys _ hr3).mono ?_
          rintro e w' ⟨rfl, rfl⟩
          rw [hyl.out]
          go_wp2_with fail
          go_roundw
          case rel => exact ⟨k + 1, ys, A3, c2 - m, by omega, by go_num, by rw [hyl.out], by rw [hyl.out]; omega, by omega, by rw [hyl.out]; omega, hys, hr3, hB3⟩
          case measure => simp [intOf]; omega
        · clear hnum
          go_wp2_with fail
          refine Calls.mono htake.out ?_
          rintro e w3 ⟨⟨A4, c4, rfl, hown4⟩, hr3, hg3⟩
          have hB3 : Below w1.heap.size w1 w3 := (hB.alloc hB.size _).grown hg3 (by have := hB.size; simp; omega) (fun j e => by cases e; omega)
          have hx3 := (hg3.block wr.heap.size (by simp) (fun e => by cases e; omega)).trans (World.alloc_heap_new wr _)
          have hx0 : w3.cell? ⟨wr.heap.size, 0, none⟩ = some (.bool true) := cell_of_row w3 _ 0 _ _ _ hx3
          have hx1 : w3.cell? ⟨wr.heap.size, 1, none⟩ = some (.int .i64 (m : Int)) := cell_of_row w3 _ 1 _ _ _ hx3
          have hxs3 := hxs.below hB3
          go_wp2_with fail
          refine (bytes_calls_n _ _ _ _ _ _ xs xs hxl.out hxl.out _ _ _ hown4.bytes hxs3).mono ?_
          rintro e w' ⟨rfl, rfl⟩
          rw [beq_self_eq_true]
          go_wp2_with fail
          refine (left_calls R ys _ hr3).mono ?_
          rintro e w' ⟨rfl, rfl⟩
          rw [hyl.out]
          go_wp2_with fail
          go_roundw
          case rel => exact ⟨k + 1, ys, A3, c2 - m, by omega, by go_num, by rw [hyl.out], by rw [hyl.out]; omega, by omega, by rw [hyl.out]; omega, hys, hr3, hB3⟩
          case measure => simp [intOf]; omega
      · have hno : s < 0 ∨ (rest.length : Int) < s := by omega
        have hrW := hr.below ((Below.refl _ wr).alloc (Nat.le_refl _) (.cells #[.bool t, .int .i64 s] 40))
        have hnum := Lib.hid (num_not R rest s hno _ hrW)
        have htake := Lib.hid (take_not R rest s hno _ hrW)
        have hBn : Below w1.heap.size w1 (wr.alloc (.cells #[.bool t, .int .i64 s] 40)) := hB.alloc hB.size _
        clear hfit
        rcases hno with hn | hn
        · have hd3 : decide (0 ≤ s) = false := decide_eq_false (by omega)
          cases t
          · go_wp2_with fail
            refine Calls.mono hnum.out ?_
            rintro e w' ⟨rfl, rfl⟩
            go_wp2_with fail
            refine (left_calls R rest _ hrW).mono ?_
            rintro e w' ⟨rfl, rfl⟩
            go_wp2_with fail
            go_roundw
            case rel => exact ⟨k + 1, rest, A2, c2, by omega, by go_num, rfl, hl2, hm2, hl5, hb2, hrW, hBn⟩
            case measure => simp [intOf]; omega
          · go_wp2_with fail
            refine Calls.mono htake.out ?_
            rintro e w' ⟨rfl, rfl⟩
            go_wp2_with fail
            refine (left_calls R rest _ hrW).mono ?_
            rintro e w' ⟨rfl, rfl⟩
            go_wp2_with fail
            go_roundw
            case rel => exact ⟨k + 1, rest, A2, c2, by omega, by go_num, rfl, hl2, hm2, hl5, hb2, hrW, hBn⟩
            case measure => simp [intOf]; omega
        · have hd3 : decide (0 ≤ s) = true := decide_eq_true (by omega)
          have hd4 : decide (s ≤ (rest.length : Int)) = false := decide_eq_false (by omega)
          cases t
          · go_wp2_with fail
            refine Calls.mono hnum.out ?_
            rintro e w' ⟨rfl, rfl⟩
            go_wp2_with fail
            refine (left_calls R rest _ hrW).mono ?_
            rintro e w' ⟨rfl, rfl⟩
            go_wp2_with fail
            go_roundw
            case rel => exact ⟨k + 1, rest, A2, c2, by omega, by go_num, rfl, hl2, hm2, hl5, hb2, hrW, hBn⟩
            case measure => simp [intOf]; omega
          · go_wp2_with fail
            refine Calls.mono htake.out ?_
            rintro e w' ⟨rfl, rfl⟩
            go_wp2_with fail
            refine (left_calls R rest _ hrW).mono ?_
            rintro e w' ⟨rfl, rfl⟩
            go_wp2_with fail
            go_roundw
            case rel => exact ⟨k + 1, rest, A2, c2, by omega, by go_num, rfl, hl2, hm2, hl5, hb2, hrW, hBn⟩
            case measure => simp [intOf]; omega
    · obtain rfl : k = l.length := by omega
      go_wp2_with fail
      refine (bytes_calls _ _ _ _ _ _ _ _ _ (hin.below hB) ((hb.step hB1).below hB)).mono ?_
      rintro e w' ⟨rfl, rfl⟩
      rw [beq_self_eq_true]
      go_wp2_with fail
      refine (wakes01_calls _).mono ?_
      rintro e w4 ⟨rfl, hB4⟩
      go_wp2_with fail
      go_ret
      exact ⟨rfl, bthen (bthen hB1 hB) hB4⟩

end Go.Proofs.Ytakjepgndmdblaa
