/-
  slices.Clone over bytes, and le.Reader: NewReader, Left, Take, Num.
-/
import Derived.Test.YtdglkjpdhnnpnaaLeGet
import Derived.WalkSpells
namespace Go.Proofs.Ytdglkjpdhnnpnaa
open Go Go.RowKit Go.Shelf

set_option maxHeartbeats 1000000 in
/-- slices.Clone of bytes: new bytes. -/
theorem clone_calls (A : Option Addr) (cap : Nat) (bs : List UInt8) (hlen : bs.length ≤ 140737488351232) (w : World) (hb : BytesAt w w.heap.size A bs) :
    Calls Try.prog 56 #[.slice A bs.length cap] w fun e w' => (∃ A' c, e = .returned (.slice A' bs.length c) ∧ OwnB w' w.heap.size 5 A' c bs) ∧ Below w.heap.size w w' := by
  have h1 := fun (wx : World) (a : Option Addr) (n c : Nat) => Lib.run_eql_slice_nil (P := Try.prog) wx 25 5 a n c 0 0 Try.underlying25
  rcases A with _ | a
  · have hn : bs = [] := by
      rcases hb with h | ⟨b, off, hA, _⟩
      · exact h
      · cases hA
    subst hn
    go_enter Try.func56, Try.ntmps56
    go_wp2
    go_ret
    exact ⟨⟨none, 0, rfl, OwnB.nil _ _ _⟩, brefl w⟩
  · have hown := OwnB.made w w.heap.size 5 (Nat.le_refl _)
    have hB0 := balloc (brefl w) (.cells #[] 5)
    go_enter Try.func56, Try.ntmps56
    go_wp2_with (at_builtin; refine wpList_app hB0 rfl _ _ 25 rfl Try.underlying25 Try.info_byte hown cap (hb.below hB0) (by rfl) (by rfl) (by simp; omega) ?_)
    intro zs A1 c1 w1 hz hown1 hB1 _ _
    have hzs : zs = bs := by simpa using hz.out
    subst hzs
    clear hz
    go_wp2
    go_ret
    exact ⟨⟨A1, c1, rfl, hown1⟩, hB1⟩

/-- THE READER at block R has the bytes bs left. -/
def ReaderAt (w : World) (R : Nat) (bs : List UInt8) : Prop :=
  ∃ A c, Boxed w R 88 (.slice A bs.length c) ∧ bs.length ≤ c ∧ c ≤ maxLen ∧ bs.length ≤ 140737488351232 ∧ BytesAt w w.heap.size A bs

theorem ReaderAt.lt {w : World} {R : Nat} {bs : List UInt8} (h : ReaderAt w R bs) : R < w.heap.size := by
  obtain ⟨A, c, hb, _⟩ := h
  exact hb.lt
theorem ReaderAt.below {w w' : World} {R : Nat} {bs : List UInt8} (h : ReaderAt w R bs) (hb : Below w.heap.size w w') : ReaderAt w' R bs := by
  obtain ⟨A, c, hbx, h1, h2, h3, h4⟩ := h
  exact ⟨A, c, (hb.block R hbx.lt).trans hbx, h1, h2, h3, h4.step hb⟩

theorem newReader_calls (A : Option Addr) (cap : Nat) (bs : List UInt8) (hlen : bs.length ≤ 140737488351232) (w : World) (hb : BytesAt w w.heap.size A bs) :
    Calls Try.prog 39 #[.slice A bs.length cap] w fun e w' => (∃ R, e = .returned (.pointer (some ⟨R, 0, none⟩)) ∧ w.heap.size ≤ R ∧ ReaderAt w' R bs) ∧ Below w.heap.size w w' := by
  go_enter Try.func39, Try.ntmps39
  go_wp2_with fail
  refine (clone_calls _ _ _ hlen _ hb).mono ?_
  rintro e w1 ⟨⟨A1, c1, rfl, hown⟩, hB1⟩
  go_wp2_with fail
  go_ret
  exact ⟨⟨w1.heap.size, rfl, hB1.size, A1, c1, Boxed.new _ _ _, hown.cap, hown.capMax, hlen, hown.bytes.alloc _⟩, balloc hB1 _⟩

theorem left_calls (R : Nat) (bs : List UInt8) (w : World) (hr : ReaderAt w R bs) :
    Calls Try.prog 58 #[.pointer (some ⟨R, 0, none⟩)] w fun e w' => e = .returned (.int .i64 (bs.length : Int)) ∧ w = w' := by
  obtain ⟨A, c, hbx, _⟩ := hr
  have hc := hbx.cell
  go_enter Try.func58, Try.ntmps58
  go_wp2
  go_ret
  exact ⟨rfl, rfl⟩

theorem left_none (w : World) : Calls Try.prog 58 #[.pointer none] w fun e w' => e = .returned (.int .i64 0) ∧ w = w' := by
  go_enter Try.func58, Try.ntmps58
  go_wp2
  go_ret
  exact ⟨rfl, rfl⟩

theorem take_none (size : Int) (w : World) : Calls Try.prog 57 #[.pointer none, .int .i64 size] w fun e w' => e = .returned (.tuple #[.slice none 0 0, .bool false]) ∧ w = w' := by
  go_enter Try.func57, Try.ntmps57
  go_wp2
  go_ret2
  exact ⟨rfl, rfl⟩

theorem take_not (R : Nat) (bs : List UInt8) (size : Int) (h : size < 0 ∨ (bs.length : Int) < size) (w : World) (hr : ReaderAt w R bs) :
    Calls Try.prog 57 #[.pointer (some ⟨R, 0, none⟩), .int .i64 size] w fun e w' => e = .returned (.tuple #[.slice none 0 0, .bool false]) ∧ w = w' := by
  rcases h with h | h
  · have hd1 : decide (size < 0) = true := decide_eq_true h
    go_enter Try.func57, Try.ntmps57
    go_wp2
    go_ret2
    exact ⟨rfl, rfl⟩
  · have hd1 : decide (size < 0) = false := decide_eq_false (by omega)
    have hd2 : decide ((bs.length : Int) < size) = true := decide_eq_true h
    go_enter Try.func57, Try.ntmps57
    go_wp2_with (go_at_call 58; refine (left_calls _ _ _ hr).mono ?_; rintro e w' ⟨rfl, rfl⟩)
    go_ret2
    exact ⟨rfl, rfl⟩

theorem clone_calls_n (A : Option Addr) (cap n : Nat) (bs : List UInt8) (hn : bs.length = n) (hlen : n ≤ 140737488351232) (w : World) (hb : BytesAt w w.heap.size A bs) :
    Calls Try.prog 56 #[.slice A n cap] w fun e w' => (∃ A' c, e = .returned (.slice A' n c) ∧ OwnB w' w.heap.size 5 A' c bs) ∧ Below w.heap.size w w' := by
  subst hn
  exact clone_calls A cap bs hlen w hb

set_option maxHeartbeats 1000000 in
theorem take_fits (R : Nat) (bs : List UInt8) (k : Nat) (hk : k ≤ bs.length) (w : World) (hr : ReaderAt w R bs) :
    Calls Try.prog 57 #[.pointer (some ⟨R, 0, none⟩), .int .i64 (k : Int)] w fun e w' =>
      (∃ A c, e = .returned (.tuple #[.slice A k c, .bool true]) ∧ OwnB w' w.heap.size 5 A c (bs.take k)) ∧ ReaderAt w' R (bs.drop k) ∧ w.grownBy w' (some R) := by
  have hr0 := hr
  obtain ⟨A, c, hbx, hlc, hcm, hlen, hb⟩ := hr
  have hc := hbx.cell
  have hd1 : decide ((k : Int) < 0) = false := decide_eq_false (by omega)
  have hd2 : decide ((bs.length : Int) < (k : Int)) = false := decide_eq_false (by omega)
  have hk0 : (0 : Int) ≤ (k : Int) := by omega
  have hk1 : (k : Int) ≤ (bs.length : Int) := by omega
  have hk2 : (k : Int) ≤ (c : Int) := by omega
  have hk3 : (bs.length : Int) ≤ (c : Int) := by omega
  obtain ⟨A2, hA2⟩ : ∃ A2, (if c = k then A else A.map (fun x => x.add k)) = A2 := ⟨_, rfl⟩
  have hys := hb.drop (k := k) hlc
  rw [hA2] at hys
  have hxl : (bs.take k).length = k := by rw [List.length_take]; omega
  have hyl : (bs.drop k).length = bs.length - k := List.length_drop
  have hxs := hb.take k
  generalize bs.take k = xs at hxs hxl ⊢
  generalize bs.drop k = ys at hys hyl ⊢
  replace hxl := Lib.hid hxl
  replace hyl := Lib.hid hyl
  go_enter Try.func57, Try.ntmps57
  go_wp2_with (go_at_call 58; refine (left_calls _ _ _ hr0).mono ?_; rintro e w' ⟨rfl, rfl⟩)
  refine (clone_calls_n _ _ _ _ hxl.out (by omega) _ hxs).mono ?_
  rintro e w1 ⟨⟨A1, c1, rfl, hown⟩, hB1⟩
  have hbx1 : Boxed w1 R 88 (.slice A bs.length c) := (hB1.block R hbx.lt).trans hbx
  have hc1 := hbx1.cell
  have hf1 := hbx1.frozen
  go_wp2_with fail
  go_ret2
  refine ⟨⟨A1, c1, rfl, hown.kept (grownBy_setCell' _ _ _) (.inr fun e => ?_)⟩, ⟨A2, c - k, ?_, ?_, ?_, ?_, ?_⟩, ?_⟩
  · have := (hown.lt _ e).1
    have := hbx.lt
    omega
  · rw [hyl.out]; exact hbx1.set _
  · rw [hyl.out]; omega
  · omega
  · rw [hyl.out]; omega
  · have := (hys.step hB1).box hbx1 (fun x e => by cases e) (.slice A2 (bs.length - k) (c - k))
    exact this.more (by simp)
  · exact ⟨hB1.os, hB1.tape, hB1.output, by simpa using hB1.size, fun j hj hne => (Below.heap_setCell _ _ _ j (fun e => hne (by rw [e]))).trans (hB1.block j hj)⟩

theorem num_none (size : Int) (w : World) : Calls Try.prog 62 #[.pointer none, .int .i64 size] w fun e w' => e = .returned (.tuple #[.int .u64 0, .bool false]) ∧ w = w' := by
  go_enter Try.func62, Try.ntmps62
  go_wp2_with fail
  refine (take_none _ _).mono ?_
  rintro e w' ⟨rfl, rfl⟩
  go_wp2_with fail
  refine (get_calls none 0 [] (by simp) w 0 (BytesAt.nil _ _ _)).mono ?_
  rintro e w' ⟨rfl, rfl⟩
  go_wp2_with fail
  go_ret2
  exact ⟨rfl, rfl⟩

theorem num_not (R : Nat) (bs : List UInt8) (size : Int) (h : size < 0 ∨ (bs.length : Int) < size) (w : World) (hr : ReaderAt w R bs) :
    Calls Try.prog 62 #[.pointer (some ⟨R, 0, none⟩), .int .i64 size] w fun e w' => e = .returned (.tuple #[.int .u64 0, .bool false]) ∧ w = w' := by
  go_enter Try.func62, Try.ntmps62
  go_wp2_with fail
  refine (take_not R bs size h _ hr).mono ?_
  rintro e w' ⟨rfl, rfl⟩
  go_wp2_with fail
  refine (get_calls none 0 [] (by simp) w 0 (BytesAt.nil _ _ _)).mono ?_
  rintro e w' ⟨rfl, rfl⟩
  go_wp2_with fail
  go_ret2
  exact ⟨rfl, rfl⟩

theorem get_calls_n (A : Option Addr) (cap n : Nat) (bs : List UInt8) (hn : bs.length = n) (hl : n ≤ cap) (w : World) (B : Nat) (hb : BytesAt w B A bs) :
    Calls Try.prog 66 #[.slice A n cap] w fun e w' => e = .returned (B64 (getN bs)) ∧ w = w' := by
  subst hn
  exact get_calls A cap bs hl w B hb

theorem num_fits (R : Nat) (bs : List UInt8) (k : Nat) (hk : k ≤ bs.length) (w : World) (hr : ReaderAt w R bs) :
    Calls Try.prog 62 #[.pointer (some ⟨R, 0, none⟩), .int .i64 (k : Int)] w fun e w' =>
      e = .returned (.tuple #[B64 (getN (bs.take k)), .bool true]) ∧ ReaderAt w' R (bs.drop k) ∧ w.grownBy w' (some R) := by
  have hxl : (bs.take k).length = k := by rw [List.length_take]; omega
  have ht := take_fits R bs k hk w hr
  generalize bs.take k = xs at hxl ht ⊢
  generalize bs.drop k = ys at ht ⊢
  replace hxl := Lib.hid hxl
  have HT := Lib.hid ht
  clear ht
  go_enter Try.func62, Try.ntmps62
  go_wp2_with fail
  refine Calls.mono HT.out ?_
  rintro e w1 ⟨⟨A, c, rfl, hown⟩, hr1, hg1⟩
  have hcap : k ≤ c := by have := hown.cap; rw [hxl.out] at this; exact this
  go_wp2_with fail
  refine (get_calls_n A c k xs hxl.out hcap _ _ hown.bytes).mono ?_
  rintro e w' ⟨rfl, rfl⟩
  go_wp2_with fail
  go_ret2
  exact ⟨rfl, hr1, hg1⟩

end Go.Proofs.Ytdglkjpdhnnpnaa
