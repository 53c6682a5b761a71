/-
  FnvTurns returns true, whatever the bytes, the place and the byte, and writes nothing that was there.
-/
import Derived.Test.YtakjepgndmdblaaWakes02
import Derived.Test.YtakjepgndmdblaaFnvLaw
namespace Go.Proofs.Ytakjepgndmdblaa
open Go Go.RowKit Go.Shelf

attribute [local go_sem] xor_u8

set_option maxHeartbeats 1000000 in
theorem fnvTurns_walk (A : Option Addr) (cap : Nat) (bs : List UInt8) (at_ : Int) (by_ : UInt8) (w : World) (_hl : bs.length ≤ cap) (_hm : cap ≤ maxLen) (hb : BytesAt w w.heap.size A bs) (_h1 : -9223372036854775808 ≤ at_) (_h2 : at_ ≤ 9223372036854775807) :
    Calls Try.prog 4 #[.slice A bs.length cap, .int .i64 at_, B8 by_] w fun e w' => e = .returned (.bool true) ∧ Below w.heap.size w w' := by
  by_cases hl : 20000 < bs.length
  · have hd : decide ((20000 : Int) < (bs.length : Int)) = true := decide_eq_true (by omega)
    go_enter Try.func4, Try.ntmps4
    go_wp2_with (go_at_call 12; refine (wakes02_calls _).mono ?_; rintro e w1 ⟨rfl, hB1⟩)
    go_ret
    exact ⟨rfl, hB1⟩
  have hd : decide ((20000 : Int) < (bs.length : Int)) = false := decide_eq_false (by omega)
  by_cases h0 : bs.length = 0
  · obtain rfl : bs = [] := List.eq_nil_of_length_eq_zero h0
    go_enter Try.func4, Try.ntmps4
    go_wp2_with (go_at_call 12; refine (wakes02_calls _).mono ?_; rintro e w1 ⟨rfl, hB1⟩)
    go_ret
    exact ⟨rfl, hB1⟩
  · have hlen : bs.length ≤ 140737488351232 := by omega
    have hz0 : ((bs.length : Int) == 0) = false := by simpa using h0
    have hpos : 0 < bs.length := by omega
    have hpos' : (1 : Int) ≤ (bs.length : Int) := by omega
    obtain ⟨k, hk, hkl⟩ := modN_nat at_ hpos
    have Hk := Lib.hid hk
    clear hk h0
    have hown := OwnB.made w w.heap.size 5 (Nat.le_refl _)
    have hB0 := balloc (brefl w) (.cells #[] 5)
    go_enter Try.func4, Try.ntmps4
    go_wp2_with (at_builtin; refine wpList_app hB0 rfl _ _ 23 rfl Try.underlying23 Try.info_byte hown cap (hb.below hB0) (by rfl) (by rfl) (by simp; omega) ?_)
    clear hB0 hown
    intro zs A1 c1 w1 hz hown1 hB1 _ _
    have hzs : zs = bs := by simpa using hz.out
    subst hzs
    clear hz
    go_wp2_with fail
    refine (mod_calls _ _ _ hpos' (by omega)).mono ?_
    rintro e w' ⟨rfl, rfl⟩
    rw [Hk.out]
    obtain ⟨g, rfl, hg0, hg1, hgc, hgf⟩ := hown1.form hpos
    have hck := hgc k hkl
    have hfk := hgf k
    have HX := Lib.hid (List.getElem?_eq_getElem hkl)
    have hset := hown1.set k (zs[k] ^^^ by_) hkl
    clear hgc hgf
    have hx : zs[k]?.getD 0 = zs[k] := by rw [HX.out]; rfl
    rw [hx] at hck
    clear hx HX
    have HC := Lib.hid (check_turned zs k hkl by_)
    have hsl : (zs.set k (zs[k] ^^^ by_)).length = zs.length := List.length_set
    generalize zs[k] = x at hck hset HC hsl
    generalize zs.set k (x ^^^ by_) = ys at hset HC hsl
    have hb1 := hb.below hB1
    replace hsl := Lib.hid hsl
    obtain ⟨t, n1, n2⟩ := same_test HC.out eq_u64 eq_u8_0
    clear HC
    have hB2 : Below w.heap.size w (w1.setCell ⟨g, k, none⟩ (B8 (x ^^^ by_))) := hB1.setCell (p := ⟨g, k, none⟩) hg0 _
    go_wp2_with fail
    refine (check_calls_n _ _ _ ys hsl.out hlen _ hset.bytes).mono ?_
    rintro e w2 ⟨rfl, hB3⟩
    have hB4 := bthen hB2 hB3
    have hb2 := hb.below hB4
    clear hset hB3 hB2 hown1 hb hb1
    go_wp2_with fail
    refine (check_calls _ _ _ hlen _ (hb2.more hB4.size)).mono ?_
    rintro e w3 ⟨rfl, hB5⟩
    go_wp2_with fail
    refine (wakes02_calls _).mono ?_
    rintro e w4 ⟨rfl, hB6⟩
    go_wp2_with fail
    go_ret
    exact ⟨rfl, bthen (bthen hB4 hB5) hB6⟩
end Go.Proofs.Ytakjepgndmdblaa
