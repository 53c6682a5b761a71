/-
  LePuts returns true, whatever the number, the size and the bytes, and writes nothing that was there.
-/
import Derived.Test.YtakjepgndmdblaaWakes01
namespace Go.Proofs.Ytakjepgndmdblaa
open Go Go.RowKit Go.Shelf

set_option maxHeartbeats 1000000 in
theorem lePuts_walk (n : UInt64) (size : Int) (A : Option Addr) (cap : Nat) (bs : List UInt8) (w : World) (_h1 : -9223372036854775808 ≤ size) (_h2 : size ≤ 9223372036854775807) (hl : bs.length ≤ cap) (hm : cap ≤ maxLen) (hb : BytesAt w w.heap.size A bs) :
    Calls Try.prog 7 #[B64 n, .int .i64 size, .slice A bs.length cap] w fun e w' => e = .returned (.bool true) ∧ Below w.heap.size w w' := by
  by_cases hbig : 5000 < bs.length
  · go_enter Try.func7, Try.ntmps7
    go_wp2_with (go_at_call 19; refine (wakes01_calls _).mono ?_; rintro e w1 ⟨rfl, hB1⟩)
    go_ret
    exact ⟨rfl, hB1⟩
  · go_enter Try.func7, Try.ntmps7
    go_wp2_with fail
    refine (put_calls n size _).mono ?_
    rintro e w1 ⟨⟨A1, c1, rfl, hown1⟩, hB1⟩
    go_wp2_with fail
    refine (rput_calls n size _).mono ?_
    rintro e w2 ⟨⟨A2, c2, rfl, hown2⟩, hB2⟩
    go_wp2_with fail
    refine (bytes_calls _ _ _ _ _ _ _ _ _ (hown1.bytes.step hB2) hown2.bytes).mono ?_
    rintro e w' ⟨rfl, rfl⟩
    rw [beq_self_eq_true]
    have hB3 := bthen hB1 hB2
    have hb3 := hb.step hB3
    clear hB1 hB2 hown1 hown2
    have hown := OwnB.made w2 w.heap.size 5 hB3.size
    have hB4 := balloc hB3 (.cells #[] 5)
    generalize putN n size = ps at *
    go_wp2_with (at_builtin; refine wpList_app hB4 rfl _ _ 23 rfl Try.underlying23 Try.info_byte hown cap (hb3.alloc _) (by rfl) (by rfl) (by simp; omega) ?_)
    clear hB4 hown
    intro zs A3 c3 w3 hz hown3 hB4 hg3 _
    have hzs : zs = bs := by simpa using hz.out
    subst hzs
    clear hz
    have hb4 := hb.step hB4
    go_wp2_with fail
    refine (get_calls _ _ _ hown3.cap _ _ hown3.bytes).mono ?_
    rintro e w' ⟨rfl, rfl⟩
    go_wp2_with fail
    refine (rget_calls _ _ _ (by omega) _ _ hb4).mono ?_
    rintro e w' ⟨rfl, rfl⟩
    go_wp2_with fail
    refine (wakes01_calls _).mono ?_
    rintro e w4 ⟨rfl, hB5⟩
    go_wp2_with fail
    go_ret
    exact ⟨rfl, bthen hB4 hB5⟩

end Go.Proofs.Ytakjepgndmdblaa
