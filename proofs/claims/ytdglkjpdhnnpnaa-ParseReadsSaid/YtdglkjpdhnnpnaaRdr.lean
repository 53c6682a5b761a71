/-
  le.Reader, told where its bytes lie: in blocks below its own.
-/
import Derived.Test.YtdglkjpdhnnpnaaLeReader
import Derived.Test.YtdglkjpdhnnpnaaBlocks
namespace Go.Proofs.Ytdglkjpdhnnpnaa
open Go Go.RowKit Go.Shelf

/-- The reader at block R has the bytes bs left; they lie in blocks below R. -/
def ReaderL (w : World) (R : Nat) (bs : List UInt8) : Prop :=
  ∃ A c, Boxed w R 88 (.slice A bs.length c) ∧ bs.length ≤ c ∧ c ≤ maxLen ∧ bs.length ≤ 140737488351232 ∧ BytesAt w R A bs
theorem ReaderL.at {w : World} {R : Nat} {bs : List UInt8} (h : ReaderL w R bs) : ReaderAt w R bs := by
  obtain ⟨A, c, hb, h1, h2, h3, h4⟩ := h
  exact ⟨A, c, hb, h1, h2, h3, h4.more (Nat.le_of_lt hb.lt)⟩
theorem ReaderL.lt {w : World} {R : Nat} {bs : List UInt8} (h : ReaderL w R bs) : R < w.heap.size := h.at.lt
theorem ReaderL.box {w : World} {R : Nat} {bs : List UInt8} (h : ReaderL w R bs) : ∃ v, Boxed w R 88 v := by
  obtain ⟨A, c, hb, _⟩ := h
  exact ⟨_, hb⟩
theorem ReaderL.upto {w w' : World} {R : Nat} {bs : List UInt8} (h : ReaderL w R bs) (hb : Below (R + 1) w w') : ReaderL w' R bs := by
  obtain ⟨A, c, hbx, h1, h2, h3, h4⟩ := h
  exact ⟨A, c, (hb.block R (Nat.lt_succ_self R)).trans hbx, h1, h2, h3, h4.below (hb.mono (Nat.le_succ R))⟩

theorem newReaderL (A : Option Addr) (cap : Nat) (bs : List UInt8) (hlen : bs.length ≤ 140737488351232) (w : World) (hb : BytesAt w w.heap.size A bs) :
    Calls Try.prog 39 #[.slice A bs.length cap] w fun e w' => (∃ R, e = .returned (.pointer (some ⟨R, 0, none⟩)) ∧ w.heap.size ≤ R ∧ ReaderL w' R bs) ∧ Below w.heap.size w w' := by
  go_enter Try.func39, Try.ntmps39
  go_wp2_with fail
  refine (clone_calls _ _ _ hlen _ hb).mono ?_
  rintro e w1 ⟨⟨A1, c1, rfl, hown⟩, hB1⟩
  go_wp2_with fail
  go_ret
  exact ⟨⟨w1.heap.size, rfl, hB1.size, A1, c1, Boxed.new _ _ _, hown.cap, hown.capMax, hlen, (hown.bytes.below (alloc_below w1 _))⟩, balloc hB1 _⟩

set_option maxHeartbeats 1000000 in
theorem takeL (R : Nat) (bs : List UInt8) (k : Nat) (hk : k ≤ bs.length) (w : World) (hr : ReaderL w R bs) :
    Calls Try.prog 57 #[.pointer (some ⟨R, 0, none⟩), .int .i64 (k : Int)] w fun e w' =>
      (∃ A c, e = .returned (.tuple #[.slice A k c, .bool true]) ∧ OwnB w' w.heap.size 5 A c (bs.take k)) ∧ ReaderL w' R (bs.drop k) ∧ w.grownBy w' (some R) := by
  have hr0 := hr.at
  obtain ⟨A, c, hbx, hlc, hcm, hlen, hb⟩ := hr
  have hc := hbx.cell
  have hd1 : decide ((k : Int) < 0) = false := decide_eq_false (by omega)
  have hd2 : decide ((bs.length : Int) < (k : Int)) = false := decide_eq_false (by omega)
  have hk0 : (0 : Int) ≤ (k : Int) := by omega
  have hk1 : (k : Int) ≤ (bs.length : Int) := by omega
  have hk2 : (k : Int) ≤ (c : Int) := by omega
  have hk3 : (bs.length : Int) ≤ (c : Int) := by omega
  obtain ⟨A2, hA2⟩ : ∃ A2, (if c = k then A else A.map (fun x => x.add k)) = A2 := ⟨_, rfl⟩
  have hys := hb.drop (k := k) hlc
  rw [hA2] at hys
  have hxl : (bs.take k).length = k := by rw [List.length_take]; omega
  have hyl : (bs.drop k).length = bs.length - k := List.length_drop
  have hxs := hb.take k
  generalize bs.take k = xs at hxs hxl ⊢
  generalize bs.drop k = ys at hys hyl ⊢
  replace hxl := Lib.hid hxl
  replace hyl := Lib.hid hyl
  go_enter Try.func57, Try.ntmps57
  go_wp2_with (go_at_call 58; refine (left_calls _ _ _ hr0).mono ?_; rintro e w' ⟨rfl, rfl⟩)
  refine (clone_calls_n _ _ _ _ hxl.out (by omega) _ (hxs.more (Nat.le_of_lt hbx.lt))).mono ?_
  rintro e w1 ⟨⟨A1, c1, rfl, hown⟩, hB1⟩
  have hbx1 : Boxed w1 R 88 (.slice A bs.length c) := (hB1.block R hbx.lt).trans hbx
  have hc1 := hbx1.cell
  have hf1 := hbx1.frozen
  go_wp2_with fail
  go_ret2
  refine ⟨⟨A1, c1, rfl, hown.kept (grownBy_setCell' _ _ _) (.inr fun e => ?_)⟩, ⟨A2, c - k, ?_, ?_, ?_, ?_, ?_⟩, ?_⟩
  · have := (hown.lt _ e).1
    have := hbx.lt
    omega
  · rw [hyl.out]; exact hbx1.set _
  · rw [hyl.out]; omega
  · omega
  · rw [hyl.out]; omega
  · have := (hys.below (hB1.mono (Nat.le_of_lt hbx.lt))).box hbx1 (fun x e => by cases e) (.slice A2 (bs.length - k) (c - k))
    exact this
  · exact ⟨hB1.os, hB1.tape, hB1.output, by simpa using hB1.size, fun j hj hne => (Below.heap_setCell _ _ _ j (fun e => hne (by rw [e]))).trans (hB1.block j hj)⟩

theorem numL (R : Nat) (bs : List UInt8) (k : Nat) (hk : k ≤ bs.length) (w : World) (hr : ReaderL w R bs) :
    Calls Try.prog 62 #[.pointer (some ⟨R, 0, none⟩), .int .i64 (k : Int)] w fun e w' =>
      e = .returned (.tuple #[B64 (getN (bs.take k)), .bool true]) ∧ ReaderL w' R (bs.drop k) ∧ w.grownBy w' (some R) := by
  have hxl : (bs.take k).length = k := by rw [List.length_take]; omega
  have ht := takeL R bs k hk w hr
  generalize bs.take k = xs at hxl ht ⊢
  generalize bs.drop k = ys at ht ⊢
  replace hxl := Lib.hid hxl
  have HT := Lib.hid ht
  clear ht
  go_enter Try.func62, Try.ntmps62
  go_wp2_with fail
  refine Calls.mono HT.out ?_
  rintro e w1 ⟨⟨A, c, rfl, hown⟩, hr1, hg1⟩
  have hcap : k ≤ c := by have := hown.cap; rw [hxl.out] at this; exact this
  go_wp2_with fail
  refine (get_calls_n A c k xs hxl.out hcap _ _ hown.bytes).mono ?_
  rintro e w' ⟨rfl, rfl⟩
  go_wp2_with fail
  go_ret2
  exact ⟨rfl, hr1, hg1⟩

end Go.Proofs.Ytdglkjpdhnnpnaa
