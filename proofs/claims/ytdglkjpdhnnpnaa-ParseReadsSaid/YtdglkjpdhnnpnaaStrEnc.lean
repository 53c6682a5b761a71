/-
  stream's parts as bytes: checked, head.
-/
import Derived.Test.YtdglkjpdhnnpnaaStrWell
import Derived.Test.YtdglkjpdhnnpnaaLePut
import Derived.Test.YtdglkjpdhnnpnaaSteps
namespace Go.Proofs.Ytdglkjpdhnnpnaa
open Go Go.RowKit

theorem put_n (z kz : Int) (n : UInt64) (k : Nat) (hz : z = (n.toNat : Int)) (hk : kz = (k : Int)) (h1 : 1 ≤ k) (h2 : k ≤ 16) (w : World) :
    Calls Try.prog 31 #[.int .u64 z, .int .i64 kz] w fun e w' => (∃ A c, e = .returned (.slice A k c) ∧ OwnB w' w.heap.size 5 A c (bytesN n k)) ∧ Below w.heap.size w w' := by
  subst hz hk
  refine (put_some n k h1 h2 w).mono ?_
  rintro e w' ⟨⟨A, c, rfl, hown⟩, hB⟩
  exact ⟨⟨A, c, by rw [bytesN_length], hown⟩, hB⟩
theorem put_b (z : Int) (n : UInt64) (k : Nat) (hz : z = (n.toNat : Int)) (h1 : 1 ≤ k) (h2 : k ≤ 16) (w : World) :
    Calls Try.prog 31 #[.int .u64 z, .int .i64 (k : Int)] w fun e w' => ∃ A c, e = .returned (.slice A k c) ∧ BytesAt w' w'.heap.size A (bytesN n k) ∧ Below w.heap.size w w' := by
  refine (put_n z k n k hz rfl h1 h2 w).mono ?_
  rintro e w' ⟨⟨A, c, rfl, hown⟩, hB⟩
  exact ⟨A, c, rfl, hown.bytes, hB⟩

/-- A slice literal of slices of bytes. -/
theorem lit_parts (w : World) (t : TypeId) (l : List (Option Addr × Nat × Nat × List UInt8)) (h : ∀ x ∈ l, BytesAt w w.heap.size x.1 x.2.2.2 ∧ x.2.2.2.length = x.2.1) :
    PartsAt (w.alloc (.cells (l.map fun x => Value.slice x.1 x.2.1 x.2.2.1).toArray t)) (w.alloc (.cells (l.map fun x => Value.slice x.1 x.2.1 x.2.2.1).toArray t)).heap.size (some ⟨w.heap.size, 0, none⟩) (l.map fun x => x.2.2.2) := by
  refine .inr ⟨w.heap.size, 0, rfl, by simp, fun j hj => ?_⟩
  have hj' : j < l.length := by simpa using hj
  obtain ⟨h1, h2⟩ := h l[j] (List.getElem_mem hj')
  refine ⟨l[j].1, l[j].2.2.1, ?_, ?_⟩
  · rw [World.cell?_alloc_mark]
    simp [hj', h2]
  · rw [List.getElem?_map, List.getElem?_eq_getElem hj']
    exact h1.alloc _

/-- Bytes of a literal: the world behind is a variable. -/
theorem lit_run (w : World) (e : TypeId) (cs : Array Value) (bs : List UInt8) (hcs : cs = (bs.map B8).toArray) : ∃ W, W = w.alloc (.cells cs e) ∧ BytesAt W W.heap.size (some ⟨w.heap.size, 0, none⟩) bs ∧ Below w.heap.size w W :=
  ⟨_, rfl, lit_bytes w e (0, 0) bs cs hcs, alloc_below w _⟩

theorem lit_row (w : World) (e : TypeId) (cs : List Value) (bs : List UInt8) (hcs : cs = bs.map B8) : ∃ W, W = w.alloc (.cells cs.toArray e) ∧ RowAt W w.heap.size e cs ∧ BytesAt W W.heap.size (some ⟨w.heap.size, 0, none⟩) bs ∧ Below w.heap.size w W :=
  ⟨_, rfl, alloc_row w e cs, lit_bytes w e (0, 0) bs cs.toArray (by rw [hcs]), alloc_below w _⟩

set_option maxHeartbeats 1000000 in
theorem checked_calls (A : Option Addr) (c n : Nat) (bs : List UInt8) (hn : bs.length = n) (hlen : n ≤ 1000000) (base : Nat) (w : World) (hb : base ≤ w.heap.size) (hown : OwnB w base 5 A c bs) :
    Calls Try.prog 49 #[.slice A n c] w fun e w' => ∃ zs A' c', e = .returned (.slice A' zs.length c') ∧ Hid (zs = sealB bs) ∧ OwnB w' base 5 A' c' zs ∧ Below base w w' := by
  subst hn
  have hbs := hown.bytes
  go_enter Try.func49, Try.ntmps49
  go_wp2_with fail
  refine (check_calls A c bs (by omega) w hbs).mono ?_
  rintro e w1 ⟨rfl, hB1⟩
  go_wp2_with fail
  refine (put_n _ 8 (check bs) 8 rfl rfl (by omega) (by omega) w1).mono ?_
  rintro e w2 ⟨⟨A2, c2, rfl, hown2⟩, hB2⟩
  have hB := bthen hB1 hB2
  have hown' := hown.below hB (Nat.le_refl _)
  have hb2 : base ≤ w2.heap.size := Nat.le_trans hb hB.size
  go_wp2_with (at_builtin; refine wpList_app_b hb2 rfl _ _ 25 rfl Try.underlying25 Try.info_byte _ rfl hown' c2 8 (bytesN_length _ _) hown2.bytes (by rfl) (by rfl) (by omega) ?_)
  intro zs A3 c3 w3 hz hown3 hg3 _
  go_wp2_with fail
  go_ret
  exact ⟨zs, A3, c3, rfl, hz, hown3, (hB.mono hb).grown hg3 hb2 (fun k e => (hown'.lt k e).1)⟩
end Go.Proofs.Ytdglkjpdhnnpnaa
