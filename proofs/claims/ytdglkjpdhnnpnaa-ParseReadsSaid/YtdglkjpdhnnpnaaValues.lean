/-
  slices.Values over bytes: its promise, whatever loop body it is given.
-/
import Derived.Test.YtdglkjpdhnnpnaaProg
import Derived.Test.YtdglkjpdhnnpnaaRange
import Derived.Test.YtdglkjpdhnnpnaaBase
import Derived.RangeFuncLeaves
import Derived.Shelf.Abstract
import Derived.OwnWalkIn
import Derived.TacticsInMore
import Derived.LoopNIn
import Derived.LoopIn
namespace Go.Proofs.Ytdglkjpdhnnpnaa
open Go Go.RowKit Go.Shelf
attribute [local go_sem] Oper.semAt_some

set_option maxRecDepth 100000 in
set_option maxHeartbeats 1000000 in
theorem values1 (n : Nat) (hn : 1 ≤ n) (l Bs n₀ b off cap : Nat) (bs : List UInt8) (hlen : bs.length ≤ 140737488351232) (hb : b < n₀) (J Jx : List UInt8 → World → Prop)
    (hY : ∀ pre x W, J pre W → pre.length < bs.length → YieldAt Fence.wide (n - 1) Try.prog l #[B8 x] W fun e W' =>
      (e = .returned (.bool true) ∧ J (pre ++ [x]) W' ∧ Below n₀ W W') ∨ (e = .returned (.bool false) ∧ Jx (pre ++ [x]) W'))
    (W : World) (hBs : W.cell? ⟨Bs, 0, none⟩ = some (.slice (some ⟨b, off, none⟩) bs.length cap)) (hc : ∀ j, j < bs.length → W.cell? ⟨b, off + j, none⟩ = some (B8 (bs[j]?.getD 0))) (h0 : J [] W) :
    CallsIn Fence.wide n Try.prog 67 #[.func (.yield l) #[] #[], .pointer (some ⟨Bs, 0, none⟩)] W fun e W' => (∃ v, e = .returned v) ∧
      ((∃ ys, ys = bs ∧ J ys W') ∨ (∃ pre, pre <+: bs ∧ Jx pre W')) := by
  refine callsIn_of_wp Try.func67 rfl trivial ?_ rfl
  simp only [Try.ntmps67, List.size_toArray, List.length_cons, List.length_nil, Nat.reduceAdd, Nat.reduceSub, Array.replicate_succ, Array.replicate_zero, List.push_toArray, List.append_toArray, List.nil_append, List.cons_append]
  gi_wp2
  gi_loopw [7] (fun i wr => ∃ k : Nat, k ≤ bs.length ∧ i = .int .i64 k ∧ J (bs.take k) wr ∧ Below n₀ W wr)
    (fun i _ => bs.length - (intOf i).toNat)
  case atStart => exact ⟨0, Nat.zero_le _, rfl, h0, Below.refl _ _⟩
  case round =>
    obtain ⟨k, hk, rfl, hJs, hnx⟩ := hrel
    by_cases hlt : k < bs.length
    · have hcx' : wr.cell? ⟨b, off + k, none⟩ = some (.int .u8 ((bs[k]?.getD 0).toNat : Int)) := (hnx.cell (p := ⟨b, off + k, none⟩) hb).trans (hc k hlt)
      have HS := Lib.hid (take_snoc hlt)
      generalize bs[k]?.getD 0 = x at hcx' HS
      obtain ⟨fn, tmps, assign, body, hy, hR⟩ := hY _ x wr hJs (by rw [List.length_take]; omega)
      gi_wp2
      refine hR.mono ?_
      rintro e W3 (⟨rfl, hJ3, hk3⟩ | ⟨rfl, hJx3⟩)
      · gi_wp2
        go_roundw
        case rel => exact ⟨k + 1, by omega, by simp, by rw [HS.out]; exact hJ3, hnx.trans hk3⟩
        case measure => simp [intOf]; omega
      · gi_wp2
        refine bodyPost_ret (results_none rfl _ _ _) rfl ?_
        exact ⟨⟨_, rfl⟩, .inr ⟨_, by rw [← HS.out]; exact List.take_prefix _ _, hJx3⟩⟩
    · obtain rfl : k = bs.length := by omega
      gi_wp2
      go_end0
      exact ⟨⟨_, rfl⟩, .inl ⟨_, List.take_length, hJs⟩⟩

set_option maxRecDepth 100000 in
set_option maxHeartbeats 1000000 in
theorem values1_nil (n : Nat) (l Bs cap : Nat) (A : Option Addr) (J : List UInt8 → World → Prop) (W : World) (hBs : W.cell? ⟨Bs, 0, none⟩ = some (.slice A 0 cap)) (h0 : J [] W) :
    CallsIn Fence.wide n Try.prog 67 #[.func (.yield l) #[] #[], .pointer (some ⟨Bs, 0, none⟩)] W fun e W' => (∃ v, e = .returned v) ∧ J [] W' := by
  refine callsIn_of_wp Try.func67 rfl trivial ?_ rfl
  simp only [Try.ntmps67, List.size_toArray, List.length_cons, List.length_nil, Nat.reduceAdd, Nat.reduceSub, Array.replicate_succ, Array.replicate_zero, List.push_toArray, List.append_toArray, List.nil_append, List.cons_append]
  gi_wp2
  gi_loopw [7] (fun i wr => i = .int .i64 0 ∧ J [] wr) (fun _ _ => 0)
  case atStart => exact ⟨rfl, h0⟩
  case round =>
    obtain ⟨rfl, hJs⟩ := hrel
    gi_wp2
    go_end0
    exact ⟨⟨_, rfl⟩, hJs⟩

/-- slices.Values(s): the slice value is boxed; the function value captures the box. -/
theorem values_calls (A : Option Addr) (len cap : Nat) (w : World) :
    Calls Try.prog 64 #[.slice A len cap] w fun e w' => e = .returned (.func (.func 67) #[] #[.pointer (some ⟨w.heap.size, 0, none⟩)]) ∧ w' = w.alloc (.cells #[.slice A len cap] 25) := by
  go_enter Try.func64, Try.ntmps64
  go_wp2
  go_ret
  exact ⟨rfl, rfl⟩

/-- slices.Values(s) keeps its promise: all of bs, in order; or a beginning of it. -/
theorem values_seq (n : Nat) (hn : 1 ≤ n) (Bs n₀ cap : Nat) (A : Option Addr) (bs : List UInt8) (hlen : bs.length ≤ 140737488351232) (w : World) (hBs : Bs < w.heap.size) (hn₀ : n₀ ≤ w.heap.size)
    (hc : w.cell? ⟨Bs, 0, none⟩ = some (.slice A bs.length cap)) (hI : BytesAt w n₀ A bs) :
    SeqR Fence.wide n Try.prog 67 #[.pointer (some ⟨Bs, 0, none⟩)] (fun x : UInt8 => #[B8 x]) (Below n₀) (fun _ _ => False) (fun ys => ys = bs) (fun pre => pre <+: bs) bs.length w := fun l J Jx W hW _ _ hY h0 => by
  have hc' := (hW.cell (p := ⟨Bs, 0, none⟩) hBs).trans hc
  rcases hI.below (hW.mono hn₀) with rfl | ⟨b, off, rfl, hb, hcs⟩
  · exact (values1_nil n l Bs cap A J W hc' h0).mono fun e W' ⟨he, hj⟩ => ⟨he, .inl ⟨_, rfl, hj⟩⟩
  · exact values1 n hn l Bs n₀ b off cap bs hlen hb J Jx hY W hc' hcs h0

end Go.Proofs.Ytdglkjpdhnnpnaa
