/-
  slices.Chunk over bytes: its promise, whatever loop body it is given.
-/
import Derived.Test.YtdglkjpdhnnpnaaLePut
import Derived.RegionIn
import Derived.WalkLawsBesides
namespace Go.Proofs.Ytdglkjpdhnnpnaa
open Go Go.RowKit Go.Shelf
attribute [local go_sem] Oper.semAt_some wide_fn

/-- How many pieces of c. -/
def chunksN (len c : Nat) : Nat := (len + c - 1) / c
theorem lt_chunks {len c k : Nat} (hc : 1 ≤ c) : k < chunksN len c ↔ c * k < len := by
  unfold chunksN
  rw [Nat.lt_iff_add_one_le, Nat.le_div_iff_mul_le (by omega), Nat.add_mul, Nat.one_mul, Nat.mul_comm k c]
  omega
/-- What piece x is, as a slice. -/
def pieceW (A : Option Addr) (len c : Nat) (x : Fin (chunksN len c)) : Value :=
  .slice (A.map (·.add (c * x.val))) (min c (len - c * x.val)) (min c (len - c * x.val))
def pieceV (A : Option Addr) (len c : Nat) (x : Fin (chunksN len c)) : Array Value := #[pieceW A len c x]

theorem piece_full {b off len c k i0 : Nat} (h : k < chunksN len c) (hi : i0 = c * k) (hc : c ≤ len - i0) : pieceV (some ⟨b, off, none⟩) len c ⟨k, h⟩ = #[.slice (some ⟨b, off + i0, none⟩) c c] := by
  subst hi
  unfold pieceV pieceW
  simp only [Option.map_some, add_at]
  rw [Nat.min_eq_left hc]
theorem piece_last {b off len c k i0 : Nat} (h : k < chunksN len c) (hi : i0 = c * k) (hc : len - i0 ≤ c) : pieceV (some ⟨b, off, none⟩) len c ⟨k, h⟩ = #[.slice (some ⟨b, off + i0, none⟩) (len - i0) (len - i0)] := by
  subst hi
  unfold pieceV pieceW
  simp only [Option.map_some, add_at]
  rw [Nat.min_eq_right hc]
theorem fin_take {m k : Nat} (h : k < m) : (List.finRange m).take (k + 1) = (List.finRange m).take k ++ [⟨k, h⟩] := by
  rw [List.take_succ_eq_append_getElem (by simpa using h)]
  simp

theorem chunk_calls (A : Option Addr) (len cap : Nat) (c : Int) (hc : 1 ≤ c) (w : World) :
    Calls Try.prog 65 #[.slice A len cap, .int .i64 c] w fun e w' => e = .returned (.func (.func 68) #[] #[.pointer (some ⟨w.heap.size, 0, none⟩), .pointer (some ⟨w.heap.size + 1, 0, none⟩)]) ∧
      w' = (w.alloc (.cells #[.slice A len cap] 25)).alloc (.cells #[.int .i64 c] 3) := by
  have hd : decide (c < 1) = false := decide_eq_false (by omega)
  go_enter Try.func65, Try.ntmps65
  go_wp2
  go_ret
  exact ⟨rfl, rfl⟩

set_option maxRecDepth 100000 in
set_option maxHeartbeats 1000000 in
theorem chunk1 (n : Nat) (hn : 1 ≤ n) (l Bs Bc b off len cap c : Nat) (hc1 : 1 ≤ c) (hc2 : c ≤ 1000) (hlen : len ≤ cap) (hl48 : len ≤ 140737488351232) (J Jx : List (Fin (chunksN len c)) → World → Prop)
    (hJ : ∀ s A, J s A → J s A.drew)
    (hY : ∀ pre x W, J pre W → pre.length < chunksN len c → YieldAt Fence.wide (n - 1) Try.prog l (pieceV (some ⟨b, off, none⟩) len c x) W fun e W' =>
      (e = .returned (.bool true) ∧ J (pre ++ [x]) W' ∧ KeepsTwo Bs Bc W W') ∨ (e = .returned (.bool false) ∧ Jx (pre ++ [x]) W'))
    (W : World) (hBs : Boxed W Bs 25 (.slice (some ⟨b, off, none⟩) len cap)) (hBc : Boxed W Bc 3 (.int .i64 (c : Int))) (h0 : J [] W) :
    CallsIn Fence.wide n Try.prog 68 #[.func (.yield l) #[] #[], .pointer (some ⟨Bs, 0, none⟩), .pointer (some ⟨Bc, 0, none⟩)] W fun e W' => (∃ v, e = .returned v) ∧
      ((∃ ys, ys = List.finRange (chunksN len c) ∧ J ys W') ∨ (∃ pre, pre <+: List.finRange (chunksN len c) ∧ Jx pre W')) := by
  refine callsIn_of_wp Try.func68 rfl trivial ?_ rfl
  simp only [Try.ntmps68, List.size_toArray, List.length_cons, List.length_nil, Nat.reduceAdd, Nat.reduceSub, Array.replicate_succ, Array.replicate_zero, List.push_toArray, List.append_toArray, List.nil_append, List.cons_append]
  gi_wp2
  gi_loopw [4] (fun i wr => ∃ k i0 : Nat, k ≤ chunksN len c ∧ Hid (i0 = c * k) ∧ i = .int .i64 (i0 : Int) ∧ i0 < len + c ∧ J ((List.finRange (chunksN len c)).take k) wr ∧ KeepsTwo Bs Bc W wr)
    (fun i _ => len + c - (intOf i).toNat)
  case atStart => exact ⟨0, 0, Nat.zero_le _, by simp [Hid], rfl, by omega, h0, KeepsTwo.refl _ _ _⟩
  case round =>
    obtain ⟨k, i0, hk, Hi0, rfl, hi0, hJs, hnx⟩ := hrel
    have hBs' := Boxed.cell (show Boxed wr Bs 25 _ from hnx.1.trans hBs)
    have hBc' := Boxed.cell (show Boxed wr Bc 3 _ from hnx.2.trans hBc)
    by_cases hlt : i0 < len
    · have hkm : k < chunksN len c := by rw [lt_chunks hc1, ← Hi0.out]; exact hlt
      have HS := Lib.hid (fin_take hkm)
      have hd1 : decide ((i0 : Int) < (len : Int)) = true := decide_eq_true (by omega)
      have hi1 : (0 : Int) ≤ (i0 : Int) := by omega
      have hi2 : (i0 : Int) ≤ (len : Int) := by omega
      have hcc : c ≤ len - i0 ∨ len - i0 < c := by omega
      rcases hcc with hcc | hcc
      · have hy0 := hY _ ⟨k, hkm⟩ wr.drew (hJ _ _ hJs) (by rw [List.length_take, List.length_finRange]; omega)
        rw [piece_full hkm Hi0.out hcc] at hy0
        obtain ⟨fn, tmps, assign, body, hy, hR⟩ := hy0
        gi_wp2
        gi_region
        gi_wp2
        refine hR.mono ?_
        rintro e W3 (⟨rfl, hJ3, hk3⟩ | ⟨rfl, hJx3⟩)
        · have hBc3 := Boxed.cell (show Boxed W3 Bc 3 _ from hk3.2.trans (hnx.2.trans hBc))
          gi_wp2
          go_roundw
          case rel => exact ⟨k + 1, i0 + c, by omega, Lib.hid (by rw [Hi0.out, Nat.mul_add, Nat.mul_one]), by go_num, by omega, by rw [HS.out]; exact hJ3, KeepsTwo.trans (B := wr.drew) hnx hk3⟩
          case measure => simp [intOf]; omega
        · gi_wp2
          refine bodyPost_ret (results_none rfl _ _ _) rfl ?_
          exact ⟨⟨_, rfl⟩, .inr ⟨_, by rw [← HS.out]; exact List.take_prefix _ _, hJx3⟩⟩
      · have hy0 := hY _ ⟨k, hkm⟩ wr.drew (hJ _ _ hJs) (by rw [List.length_take, List.length_finRange]; omega)
        rw [piece_last hkm Hi0.out (Nat.le_of_lt hcc)] at hy0
        obtain ⟨fn, tmps, assign, body, hy, hR⟩ := hy0
        gi_wp2
        gi_region
        gi_wp2
        refine hR.mono ?_
        rintro e W3 (⟨rfl, hJ3, hk3⟩ | ⟨rfl, hJx3⟩)
        · have hBc3 := Boxed.cell (show Boxed W3 Bc 3 _ from hk3.2.trans (hnx.2.trans hBc))
          gi_wp2
          go_roundw
          case rel => exact ⟨k + 1, i0 + c, by omega, Lib.hid (by rw [Hi0.out, Nat.mul_add, Nat.mul_one]), by go_num, by omega, by rw [HS.out]; exact hJ3, KeepsTwo.trans (B := wr.drew) hnx hk3⟩
          case measure => simp [intOf]; omega
        · gi_wp2
          refine bodyPost_ret (results_none rfl _ _ _) rfl ?_
          exact ⟨⟨_, rfl⟩, .inr ⟨_, by rw [← HS.out]; exact List.take_prefix _ _, hJx3⟩⟩
    · have hke : k = chunksN len c := by
        have h1 : ¬ k < chunksN len c := by rw [lt_chunks hc1, ← Hi0.out]; exact hlt
        omega
      have hd1 : decide ((i0 : Int) < (len : Int)) = false := decide_eq_false (by omega)
      have HE := Lib.hid (show (List.finRange (chunksN len c)).take k = List.finRange (chunksN len c) from List.take_of_length_le (by rw [List.length_finRange]; omega))
      clear hke
      gi_wp2
      go_end0
      exact ⟨⟨_, rfl⟩, .inl ⟨_, HE.out, hJs⟩⟩

set_option maxRecDepth 100000 in
set_option maxHeartbeats 1000000 in
theorem chunk1_nil (n : Nat) (l Bs Bc cap c : Nat) (_hc1 : 1 ≤ c) (A : Option Addr) (J : List (Fin (chunksN 0 c)) → World → Prop) (W : World) (hBs0 : Boxed W Bs 25 (.slice A 0 cap)) (h0 : J [] W) :
    CallsIn Fence.wide n Try.prog 68 #[.func (.yield l) #[] #[], .pointer (some ⟨Bs, 0, none⟩), .pointer (some ⟨Bc, 0, none⟩)] W fun e W' => (∃ v, e = .returned v) ∧ J [] W' := by
  have hBs := hBs0.cell
  refine callsIn_of_wp Try.func68 rfl trivial ?_ rfl
  simp only [Try.ntmps68, List.size_toArray, List.length_cons, List.length_nil, Nat.reduceAdd, Nat.reduceSub, Array.replicate_succ, Array.replicate_zero, List.push_toArray, List.append_toArray, List.nil_append, List.cons_append]
  gi_wp2
  gi_loopw [4] (fun i wr => i = .int .i64 0 ∧ J [] wr ∧ wr.cell? ⟨Bs, 0, none⟩ = some (.slice A 0 cap)) (fun _ _ => 0)
  case atStart => exact ⟨rfl, h0, hBs⟩
  case round =>
    obtain ⟨rfl, hJs, hBs'⟩ := hrel
    gi_wp2
    go_end0
    exact ⟨⟨_, rfl⟩, hJs⟩

/-- slices.Chunk(s, c) keeps its promise: all pieces, in order; or a beginning of them. -/
theorem chunk_seq (n : Nat) (hn : 1 ≤ n) (Bs Bc cap c : Nat) (hc1 : 1 ≤ c) (hc2 : c ≤ 1000) (A : Option Addr) (len : Nat) (hA : len = 0 ∨ ∃ b off, A = some ⟨b, off, none⟩) (hlen : len ≤ cap) (hl48 : len ≤ 140737488351232) (w : World)
    (hBs : Boxed w Bs 25 (.slice A len cap)) (hBc : Boxed w Bc 3 (.int .i64 (c : Int))) :
    SeqR Fence.wide n Try.prog 68 #[.pointer (some ⟨Bs, 0, none⟩), .pointer (some ⟨Bc, 0, none⟩)] (pieceV A len c) (KeepsTwo Bs Bc) (fun A B => B = A.drew) (fun ys => ys = List.finRange (chunksN len c)) (fun pre => pre <+: List.finRange (chunksN len c)) (chunksN len c) w := fun l J Jx W hW hJ _ hY h0 => by
  have hcs : Boxed W Bs 25 (.slice A len cap) := (hW.block Bs hBs.lt).trans hBs
  have hcc : Boxed W Bc 3 (.int .i64 (c : Int)) := (hW.block Bc hBc.lt).trans hBc
  rcases hA with rfl | ⟨b, off, rfl⟩
  · refine (chunk1_nil n l Bs Bc cap c hc1 A J W hcs h0).mono fun e W' ⟨he, hj⟩ => ⟨he, .inl ⟨_, ?_, hj⟩⟩
    have h1 : chunksN 0 c = 0 := by
      unfold chunksN
      exact Nat.div_eq_of_lt (by omega)
    exact (List.eq_nil_of_length_eq_zero (by rw [List.length_finRange]; exact h1)).symm
  · exact chunk1 n hn l Bs Bc b off len cap c hc1 hc2 hlen hl48 J Jx (fun s A h => hJ s A _ h rfl) hY W hcs hcc h0

theorem BytesAt.shape {w : World} {B : Nat} {A : Option Addr} {bs : List UInt8} (h : BytesAt w B A bs) : bs.length = 0 ∨ ∃ b off, A = some ⟨b, off, none⟩ := by
  rcases h with h | ⟨b, off, hA, _⟩
  · exact .inl (by rw [h]; rfl)
  · exact .inr ⟨b, off, hA⟩
/-- Piece x of bytes. -/
def pieceB (bs : List UInt8) (c : Nat) (x : Nat) : List UInt8 := (bs.drop (c * x)).take c
theorem pieceB_length (bs : List UInt8) (c x : Nat) : (pieceB bs c x).length = min c (bs.length - c * x) := by simp [pieceB]
theorem piece_bytes {w : World} {B : Nat} {A : Option Addr} {bs : List UInt8} (h : BytesAt w B A bs) (c : Nat) (x : Nat) : BytesAt w B (A.map (·.add (c * x))) (pieceB bs c x) := by
  have h1 := (h.drop (k := c * x) (cap := bs.length + c * x + 1) (by omega)).take c
  rwa [if_neg (by omega)] at h1

end Go.Proofs.Ytdglkjpdhnnpnaa
