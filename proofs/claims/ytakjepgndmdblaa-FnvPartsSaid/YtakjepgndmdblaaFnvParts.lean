/-
  FnvParts returns true, whatever the bytes, the place of the cut and the two numbers, and writes nothing that was there.
-/
import Derived.Test.YtakjepgndmdblaaWakes02
import Derived.Test.YtakjepgndmdblaaFnvLaw
import Derived.Deep.RegionHeld3
namespace Go.Proofs.Ytakjepgndmdblaa
open Go Go.RowKit Go.Shelf

theorem keepP {w0 w w' : World} {p q : Addr} {u v : Value} (h : Since w0 w ∧ w.cell? p = some u ∧ w.cell? q = some v) (hb : Below w.heap.size w w') : Since w0 w' ∧ w'.cell? p = some u ∧ w'.cell? q = some v :=
  ⟨h.1.then_ hb, (hb.cell (World.block_lt_of_cell? w _ h.2.1)).trans h.2.1, (hb.cell (World.block_lt_of_cell? w _ h.2.2)).trans h.2.2⟩

set_option maxHeartbeats 4000000 in
theorem fnvParts_walk (A : Option Addr) (cap : Nat) (bs : List UInt8) (cut : Int) (h0 h1 : UInt64) (w : World) (hl : bs.length ≤ cap) (_hm : cap ≤ maxLen) (hb : BytesAt w w.heap.size A bs) (_h1 : -9223372036854775808 ≤ cut) (_h2 : cut ≤ 9223372036854775807) :
    Calls Try.prog 5 #[.slice A bs.length cap, .int .i64 cut, .agg #[B64 h0, B64 h1]] w fun e w' => e = .returned (.bool true) ∧ Below w.heap.size w w' := by
  by_cases hbig : 20000 < bs.length
  · go_enter Try.func5, Try.ntmps5
    go_wp2_with (go_at_call 12; refine (wakes02_calls _).mono ?_; rintro e w1 ⟨rfl, hB1⟩)
    go_ret
    exact ⟨rfl, bthen (balloc (brefl w) _) hB1⟩
  have hlen : bs.length ≤ 140737488351232 := by omega
  have hpos' : (1 : Int) ≤ (bs.length : Int) + 1 := by omega
  obtain ⟨k, hk, hkl⟩ := modN_nat cut (show 0 < bs.length + 1 by omega)
  have Hk : Hid (modN cut ((bs.length : Int) + 1) = (k : Int)) := hk
  clear hk
  obtain ⟨W0, hW0⟩ : ∃ W0, W0 = w.alloc (.cells #[B64 h0, B64 h1] 31) := ⟨_, rfl⟩
  have hBW : Below w.heap.size w W0 := by rw [hW0]; exact balloc (brefl w) _
  have hbW := hb.step hBW
  have hc0 : W0.cell? ⟨w.heap.size, 0, none⟩ = some (B64 h0) := by rw [hW0, World.cell?_alloc_mark]; rfl
  have hc1 : W0.cell? ⟨w.heap.size, 1, none⟩ = some (B64 h1) := by rw [hW0, World.cell?_alloc_mark]; rfl
  go_enter Try.func5, Try.ntmps5
  go_wp2_with fail
  refine (mod_calls _ _ _ hpos' (by omega)).mono ?_
  rintro e w' ⟨rfl, rfl⟩
  rw [Hk.out]
  go_wp2_with fail
  rw [← hW0]
  have hS0 : Since W0 W0.drew ∧ W0.drew.cell? ⟨w.heap.size, 0, none⟩ = some (B64 h0) ∧ W0.drew.cell? ⟨w.heap.size, 1, none⟩ = some (B64 h1) := ⟨(Since.refl W0).drew, hc0, hc1⟩
  clear hc0 hc1 hW0
  have hk0 : (0 : Int) ≤ (k : Int) := by omega
  have hk1 : (k : Int) ≤ (bs.length : Int) := by omega
  have hk2 : (k : Int) ≤ (cap : Int) := by omega
  have hk3 : (bs.length : Int) ≤ (cap : Int) := by omega
  have hxs := hbW.take k
  have hxl : (bs.take k).length = k := by rw [List.length_take]; omega
  have hyl : (bs.drop k).length = bs.length - k := List.length_drop
  have hq : check bs = more (check (bs.take k)) (bs.drop k) := by
    unfold check
    rw [← more_append, List.take_append_drop]
  have hys := hbW.drop (k := k) hl
  obtain ⟨A2, hA2⟩ : ∃ A2, (if cap = k then A else A.map (fun x => x.add k)) = A2 := ⟨_, rfl⟩
  rw [hA2] at hys
  generalize bs.take k = xs at hxs hxl hq
  generalize bs.drop k = ys at hys hyl hq
  replace hxl := Lib.hid hxl
  replace hyl := Lib.hid hyl
  replace hq := Lib.hid hq
  obtain ⟨t, n1, n2⟩ := same_test (more_inj (a := h0) (b := h1) bs) eq_u64 eq_u64
  go_region_held3 (fun w' => Since W0 w' ∧ w'.cell? ⟨w.heap.size, 0, none⟩ = some (B64 h0) ∧ w'.cell? ⟨w.heap.size, 1, none⟩ = some (B64 h1)) (first | exact hS0 | exact keepP (by assumption) (by assumption))
    (first
      | (go_at_call_of 13 (Value.slice A k cap); refine (check_calls_n A cap k xs hxl.out (by omega) _ ?_).mono ?_; exact Since.bytes (And.left (by assumption)) hxs; rintro e w1 ⟨rfl, hB⟩)
      | (go_at_call_of 15 (Value.slice A2 (bs.length - k) (cap - k)); refine (more_calls_n (check xs) A2 (cap - k) (bs.length - k) ys hyl.out (by omega) _ ?_).mono ?_; exact Since.bytes (And.left (by assumption)) hys; rw [← hq.out]; rintro e w1 ⟨rfl, hB⟩)
      | (go_at_call_of 13 (Value.slice A bs.length cap); refine (check_calls A cap bs hlen _ ?_).mono ?_; exact Since.bytes (And.left (by assumption)) hbW; rintro e w1 ⟨rfl, hB⟩)
      | (go_at_call_of 15 (B64 h0); refine (more_calls h0 A cap bs hlen _ ?_).mono ?_; exact Since.bytes (And.left (by assumption)) hbW; rintro e w1 ⟨rfl, hB⟩)
      | (go_at_call_of 15 (B64 h1); refine (more_calls h1 A cap bs hlen _ ?_).mono ?_; exact Since.bytes (And.left (by assumption)) hbW; rintro e w1 ⟨rfl, hB⟩)
      | (go_at_call 12; refine (wakes02_calls _).mono ?_; rintro e w1 ⟨rfl, hB⟩))
  go_wp2
  go_ret
  have hfin := And.left (show Since W0 w1 ∧ w1.cell? ⟨w.heap.size, 0, none⟩ = some (B64 h0) ∧ w1.cell? ⟨w.heap.size, 1, none⟩ = some (B64 h1) by assumption)
  exact ⟨rfl, bthen hBW hfin⟩
end Go.Proofs.Ytakjepgndmdblaa
