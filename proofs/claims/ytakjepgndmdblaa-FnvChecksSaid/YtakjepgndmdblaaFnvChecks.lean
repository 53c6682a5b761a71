/-
  FnvChecks returns true, whatever the number and the bytes, and writes nothing that was there.
-/
import Derived.Test.YtakjepgndmdblaaWakes02
namespace Go.Proofs.Ytakjepgndmdblaa
open Go Go.RowKit Go.Shelf

theorem Try.info_byte : (Try.prog.info? 5).map (fun i => (i.zero, i.size, i.bytes)) = some (some (.int .u8 0), 1, 1) := by kernel_rfl

set_option maxHeartbeats 1000000 in
theorem fnvChecks_walk (h : UInt64) (A : Option Addr) (cap : Nat) (bs : List UInt8) (w : World) (_hl : bs.length ≤ cap) (_hm : cap ≤ maxLen) (hb : BytesAt w w.heap.size A bs) :
    Calls Try.prog 3 #[B64 h, .slice A bs.length cap] w fun e w' => e = .returned (.bool true) ∧ Below w.heap.size w w' := by
  by_cases hl : 20000 < bs.length
  · go_enter Try.func3, Try.ntmps3
    go_wp2_with (go_at_call 12; refine (wakes02_calls _).mono ?_; rintro e w1 ⟨rfl, hB1⟩)
    go_ret
    exact ⟨rfl, hB1⟩
  · have hlen : bs.length ≤ 140737488351232 := by omega
    have hown := OwnB.made w w.heap.size 5 (Nat.le_refl _)
    go_enter Try.func3, Try.ntmps3
    go_wp2_with (at_builtin; refine wpList_append_bytes _ rfl _ _ 23 rfl w.heap.size 5 Try.underlying23 Try.info_byte (some ⟨w.heap.size, 0, none⟩) 0 [] rfl hown w.heap.size A cap bs rfl (hb.below ((Below.refl _ w).alloc (Nat.le_refl _) _)) (by simp; omega) (by simp) ?_)
    intro zs A1 c1 w1 hz hown1 hg1 _
    have hzs : zs = bs := by simpa using hz.out
    subst hzs
    clear hz
    have hB0 : Below w.heap.size w w1 := bgrown (balloc (brefl w) _) hg1 (fun k e => by simp at e; omega)
    have hb1 := hb.below hB0
    have hr1 := hown1.bytes
    go_wp2_with fail
    refine (check_calls _ _ _ hlen _ hr1).mono ?_
    rintro e w2 ⟨rfl, hB2⟩
    have hb2 := hb1.below (hB2.mono hB0.size)
    have hr2 := hr1.below hB2
    go_wp2_with fail
    refine (rcheck_calls _ _ _ hlen _ _ hb2).mono ?_
    rintro e w' ⟨rfl, rfl⟩
    go_wp2_with fail
    refine (more_calls h _ _ _ hlen _ (hr2.more hB2.size)).mono ?_
    rintro e w3 ⟨rfl, hB3⟩
    have hb3 := hb2.below (hB3.mono (Nat.le_trans hB0.size hB2.size))
    have hr3 := hr2.below (hB3.mono hB2.size)
    go_wp2_with fail
    refine (rmore_calls h _ _ _ hlen _ _ hb3).mono ?_
    rintro e w' ⟨rfl, rfl⟩
    go_wp2_with fail
    refine (bytes_calls _ _ _ _ _ _ _ _ _ hr3 hb3).mono ?_
    rintro e w' ⟨rfl, rfl⟩
    go_wp2_with fail
    refine (wakes02_calls _).mono ?_
    rintro e w4 ⟨rfl, hB4⟩
    go_wp2_with fail
    go_ret
    exact ⟨rfl, bthen (bthen (bthen hB0 hB2) hB3) hB4⟩
end Go.Proofs.Ytakjepgndmdblaa
