/-
  FnvSteps returns true, whatever the bytes and the two bytes, and writes nothing that was there.
-/
import Derived.Test.YtakjepgndmdblaaWakes02
import Derived.Test.YtakjepgndmdblaaFnvLaw
namespace Go.Proofs.Ytakjepgndmdblaa
open Go Go.RowKit Go.Shelf

/-- A slice literal of one byte. -/
theorem one_bytes (w : World) (x : UInt8) : BytesAt (w.alloc (.cells #[B8 x] 5)) (w.alloc (.cells #[B8 x] 5)).heap.size (some ⟨w.heap.size, 0, none⟩) [x] := by
  refine .inr ⟨w.heap.size, 0, rfl, by simp, fun j hj => ?_⟩
  obtain rfl : j = 0 := by simpa using hj
  rw [World.cell?_alloc_mark]
  rfl

attribute [local go_sem] turn_walk wrap_u64_u8

set_option maxHeartbeats 1000000 in
theorem fnvSteps_walk (A : Option Addr) (cap : Nat) (bs : List UInt8) (v x : UInt8) (w : World) (_hl : bs.length ≤ cap) (_hm : cap ≤ maxLen) (hb : BytesAt w w.heap.size A bs) :
    Calls Try.prog 6 #[.slice A bs.length cap, B8 v, B8 x] w fun e w' => e = .returned (.bool true) ∧ Below w.heap.size w w' := by
  by_cases hl : 20000 < bs.length
  · go_enter Try.func6, Try.ntmps6
    go_wp2_with (go_at_call 12; refine (wakes02_calls _).mono ?_; rintro e w1 ⟨rfl, hB1⟩)
    go_ret
    exact ⟨rfl, hB1⟩
  · have hlen : bs.length ≤ 140737488351232 := by omega
    go_enter Try.func6, Try.ntmps6
    go_wp2_with fail
    refine (check_calls _ _ _ hlen _ hb).mono ?_
    rintro e w1 ⟨rfl, hB1⟩
    have hb1 := hb.below hB1
    have hown := OwnB.made w1 w.heap.size 5 hB1.size
    have hB2 := balloc hB1 (.cells #[] 5)
    go_wp2_with (at_builtin; refine wpList_app hB2 rfl _ _ 23 rfl Try.underlying23 Try.info_byte hown cap (hb.below hB2) (by rfl) (by rfl) (by simp; omega) ?_)
    intro zs A1 c1 w2 hz hown2 hB3 _ _
    have hzs : zs = bs := by simpa using hz.out
    subst hzs
    clear hz hown hB2
    have hB4 := balloc hB3 (.cells #[B8 v] 5)
    have hown3 : OwnB (w2.alloc (.cells #[B8 v] 5)) w.heap.size 5 A1 c1 zs := World.ownsRow.alloc hown2 _
    go_wp2_with (at_builtin; refine wpList_app hB4 rfl _ _ 23 rfl Try.underlying23 Try.info_byte hown3 1 (one_bytes w2 v) (by rfl) (by rfl) (by simp; omega) ?_)
    intro ys A2 c2 w3 hy hown4 hB5 _ _
    have hy' := hy.out
    have hyl : ys.length ≤ 140737488351232 := by rw [hy']; simp; omega
    have hfin : check ys = turn (check zs) v := by rw [hy']; exact more_snoc _ _ _
    clear hy hy' hown2 hown3 hB4
    generalize check zs = cz at *
    have Hf := Lib.hid hfin
    clear hfin
    go_wp2_with fail
    refine (check_calls _ _ _ hyl _ hown4.bytes).mono ?_
    rintro e w4 ⟨rfl, hB6⟩
    rw [Hf.out]
    go_wp2_with fail
    refine (more_calls cz _ _ _ (by simp) _ (one_bytes w4 v)).mono ?_
    rintro e w5 ⟨rfl, hB7⟩
    rw [show more cz [v] = turn cz v from rfl]
    go_wp2_with fail
    refine (check_calls _ _ _ hyl _ (((hown4.bytes.step hB6).alloc _).step hB7)).mono ?_
    rintro e w6 ⟨rfl, hB8⟩
    rw [Hf.out]
    go_wp2_with fail
    refine (check_calls _ 1 [v] (by simp) _ (one_bytes w6 v)).mono ?_
    rintro e w7 ⟨rfl, hB9⟩
    have hBf := bthen (balloc (bthen (bthen (balloc (bthen hB5 hB6) _) hB7) hB8) _) hB9
    clear hB5 hB6 hB7 hB8 hB9 hB1 hB3
    by_cases hvx : v = x
    · subst hvx
      go_wp2_with fail
      refine (check_calls _ 1 [v] (by simp) _ (one_bytes w7 v)).mono ?_
      rintro e w8 ⟨rfl, hB8⟩
      go_wp2_with fail
      refine (wakes02_calls _).mono ?_
      rintro e w9 ⟨rfl, hB9⟩
      go_wp2_with fail
      go_ret
      exact ⟨rfl, bthen (bthen (balloc hBf _) hB8) hB9⟩
    · have n1 : (((check [v]).toNat : Int) == ((check [x]).toNat : Int)) = false := by
        rw [beq_eq_false_iff_ne]
        intro h
        exact hvx (check_one.1 (UInt64.toNat_inj.1 (Int.ofNat.inj h)))
      have n2 : ((v.toNat : Int) == (x.toNat : Int)) = false := by
        rw [beq_eq_false_iff_ne]
        intro h
        exact hvx (UInt8.toNat_inj.1 (Int.ofNat.inj h))
      clear hvx
      go_wp2_with fail
      refine (check_calls _ 1 [x] (by simp) _ (one_bytes w7 x)).mono ?_
      rintro e w8 ⟨rfl, hB8⟩
      go_wp2_with fail
      refine (wakes02_calls _).mono ?_
      rintro e w9 ⟨rfl, hB9⟩
      go_wp2_with fail
      go_ret
      exact ⟨rfl, bthen (bthen (balloc hBf _) hB8) hB9⟩
end Go.Proofs.Ytakjepgndmdblaa
