/-
  Package fnv and its reference: More and Check are the plain functions 'more', 'check' of the bytes.
-/
import Derived.Test.YtdglkjpdhnnpnaaValues
namespace Go.Proofs.Ytdglkjpdhnnpnaa
open Go Go.RowKit Go.Shelf
attribute [local go_sem] Oper.semAt_some wide_fn wrap_u64_u8 turn_walk

theorem Try.info_byte : (Try.prog.info? 5).map (fun i => (i.zero, i.size, i.bytes)) = some (some (.int .u8 0), 1, 1) := by kernel_rfl

set_option maxRecDepth 100000 in
set_option maxHeartbeats 1000000 in
theorem more_calls (h : UInt64) (A : Option Addr) (cap : Nat) (bs : List UInt8) (hlen : bs.length ≤ 140737488351232) (w : World) (hb : BytesAt w w.heap.size A bs) :
    Calls Try.prog 52 #[B64 h, .slice A bs.length cap] w fun e w' => e = .returned (B64 (more h bs)) ∧ Below w.heap.size w w' := by
  rw [← callsIn_wide (n := 5)]
  refine callsIn_of_wp_marks Try.func52 rfl trivial ?_ rfl
  simp only [Try.ntmps52, List.size_toArray, List.length_cons, List.length_nil, Nat.reduceAdd, Nat.reduceSub, Array.replicate_succ, Array.replicate_zero, List.push_toArray, List.append_toArray, List.nil_append, List.cons_append]
  gi_wp2_with (gi_at_call 64; refine (callsIn_wide.2 (values_calls _ _ _ _)).mono ?_; rintro e w' ⟨rfl, rfl⟩)
  have bS := Boxed.new w 56 (B64 h)
  have bN := Boxed.new (w.alloc (.cells #[B64 h] 56)) 25 (.slice A bs.length cap)
  rw [World.size_alloc] at bN
  have hB0 : Below w.heap.size w ((w.alloc (.cells #[B64 h] 56)).alloc (.cells #[.slice A bs.length cap] 25)) := ((Below.refl _ w).alloc (Nat.le_refl _) _).alloc (by simp) _
  refine rangeG rfl (by omega) (gf := 67) (lb := #[.pointer (some ⟨w.heap.size + 1, 0, none⟩)]) rfl trivial (enters_of Try.func67 (by kernel_rfl) rfl)
    (values_seq _ (by omega) (w.heap.size + 1) w.heap.size cap A bs hlen _ (by simp) (by simp; omega) bN.cell (hb.below hB0)) (fun _ => Below.refl _ _) belowK_t (belowK_b (by simp; omega)) (fun _ _ h => h.elim) (Below.refl _ _) (fun _ => rfl)
    (fun pre W => Boxed W w.heap.size 56 (B64 (more h pre)) ∧ Below w.heap.size w W)
    (fun _ _ _ => False)
    (OwnFrom.and (Own.from (boxed_own _ _ _) _) (ownFrom_below (Nat.le_refl _) (by simp; omega)))
    (fun _ _ _ _ _ hs _ _ => hs) (fun _ _ _ _ h => h.elim) (fun _ _ _ _ h _ => h)
    ⟨bS.alloc _, hB0⟩
    (fun x => { tmps := #[B64 h, .slice A bs.length cap, .pointer (some ⟨w.heap.size, 0, none⟩), undef, .int .u64 0, B8 x, .slice A bs.length cap, .func (.func 67) #[] #[.pointer (some ⟨w.heap.size + 1, 0, none⟩)], B8 x, undef, undef, undef, undef, undef, undef], defers := [] }) ?assign ?body ?done ?stop
  case assign =>
    intro l x W K hK
    gi_wp2
    exact hK
  case body =>
    rintro l pre x W _ _ ⟨hbx, hB⟩ _
    have hc := hbx.cell
    have hf := hbx.frozen
    gi_wp2
    refine ⟨(KeepsOthers.setCell _ _ _).from _, (Below.refl _ W).setCell (p := ⟨w.heap.size, 0, none⟩) (Nat.le_refl _) _, ?_, hB.setCell (p := ⟨w.heap.size, 0, none⟩) (Nat.le_refl _) _⟩
    rw [more_snoc]
    exact hbx.set _
  case done =>
    rintro D ys W hD rfl ⟨hbx, hB⟩ hK
    have hc := hbx.cell
    gi_wp2
    exact endM hK (results_tmp rfl _ _ _) ⟨rfl, below_shut hB (by simp at hD; omega) hK⟩
  case stop =>
    rintro D c pre W _ _ h _
    exact h.elim

theorem more_basis (A : Option Addr) (cap : Nat) (bs : List UInt8) (hlen : bs.length ≤ 140737488351232) (w : World) (hb : BytesAt w w.heap.size A bs) :
    Calls Try.prog 52 #[.int .u64 14695981039346656037, .slice A bs.length cap] w fun e w' => e = .returned (B64 (check bs)) ∧ Below w.heap.size w w' :=
  more_calls basis A cap bs hlen w hb

theorem check_calls (A : Option Addr) (cap : Nat) (bs : List UInt8) (hlen : bs.length ≤ 140737488351232) (w : World) (hb : BytesAt w w.heap.size A bs) :
    Calls Try.prog 32 #[.slice A bs.length cap] w fun e w' => e = .returned (B64 (check bs)) ∧ Below w.heap.size w w' := by
  go_enter Try.func32, Try.ntmps32
  go_wp2_with (go_at_call 52; refine (more_basis _ _ _ hlen _ hb).mono ?_; rintro e w' ⟨rfl, hB⟩)
  go_ret
  exact ⟨rfl, hB⟩

set_option maxHeartbeats 1000000 in
theorem rmore_calls (h : UInt64) (A : Option Addr) (cap : Nat) (bs : List UInt8) (hlen : bs.length ≤ 140737488351232) (w : World) (B : Nat) (hb : BytesAt w B A bs) :
    Calls Try.prog 46 #[B64 h, .slice A bs.length cap] w fun e w' => e = .returned (B64 (more h bs)) ∧ w = w' := by
  go_enter Try.func46, Try.ntmps46
  go_wp2
  go_loop [0, 5] (fun t i => ∃ k : Nat, k ≤ bs.length ∧ i = .int .i64 k ∧ t = B64 (more h (bs.take k))) (fun _ i => bs.length - (intOf i).toNat)
  case atStart => exact ⟨0, Nat.zero_le _, rfl, rfl⟩
  case round =>
    obtain ⟨k, hk, rfl, rfl⟩ := hrel
    by_cases hlt : k < bs.length
    · rcases hb with rfl | ⟨b, off, rfl, _, hc⟩
      · simp at hlt
      have hcx := hc k hlt
      clear hc
      have HS := Lib.hid (take_snoc hlt)
      generalize bs[k]?.getD 0 = x at hcx HS
      go_wp2
      go_round
      case rel => exact ⟨k + 1, by omega, by go_num, by rw [HS.out, more_snoc]⟩
      case measure => simp [intOf]; omega
    · obtain rfl : k = bs.length := by omega
      go_wp2
      go_ret
      exact ⟨rfl, rfl⟩

theorem rcheck_calls (A : Option Addr) (cap : Nat) (bs : List UInt8) (hlen : bs.length ≤ 140737488351232) (w : World) (B : Nat) (hb : BytesAt w B A bs) :
    Calls Try.prog 28 #[.slice A bs.length cap] w fun e w' => e = .returned (B64 (check bs)) ∧ w = w' := by
  have h1 := Lib.hid (rmore_calls basis A cap bs hlen w B hb)
  go_enter Try.func28, Try.ntmps28
  go_wp2_with (go_at_call 46; refine Calls.mono h1.out ?_; rintro e w' ⟨rfl, rfl⟩)
  go_ret
  exact ⟨rfl, rfl⟩

theorem check_calls_n (A : Option Addr) (cap n : Nat) (bs : List UInt8) (hn : bs.length = n) (hlen : n ≤ 140737488351232) (w : World) (hb : BytesAt w w.heap.size A bs) :
    Calls Try.prog 32 #[.slice A n cap] w fun e w' => e = .returned (B64 (check bs)) ∧ Below w.heap.size w w' := by
  subst hn
  exact check_calls A cap bs hlen w hb

theorem more_calls_n (h : UInt64) (A : Option Addr) (cap n : Nat) (bs : List UInt8) (hn : bs.length = n) (hlen : n ≤ 140737488351232) (w : World) (hb : BytesAt w w.heap.size A bs) :
    Calls Try.prog 52 #[B64 h, .slice A n cap] w fun e w' => e = .returned (B64 (more h bs)) ∧ Below w.heap.size w w' := by
  subst hn
  exact more_calls h A cap bs hlen w hb

/-- A slice literal of one byte. -/
theorem one_bytes (w : World) (x : UInt8) : BytesAt (w.alloc (.cells #[B8 x] 5)) (w.alloc (.cells #[B8 x] 5)).heap.size (some ⟨w.heap.size, 0, none⟩) [x] := by
  refine .inr ⟨w.heap.size, 0, rfl, by simp, fun j hj => ?_⟩
  obtain rfl : j = 0 := by simpa using hj
  rw [World.cell?_alloc_mark]
  rfl

/-- string(a) == string(b). -/
theorem bytes_calls (A A' : Option Addr) (c c' : Nat) (xs bs : List UInt8) (w : World) (B B' : Nat) (ha : BytesAt w B A xs) (hb : BytesAt w B' A' bs) :
    Calls Try.prog 18 #[.slice A xs.length c, .slice A' bs.length c'] w fun e w' => e = .returned (.bool (xs == bs)) ∧ w = w' := by
  have h1 := run_str (P := Try.prog) ha 25 9 5 Try.underlying25 Try.underlying5 Try.underlying9 c
  have h2 := run_str (P := Try.prog) hb 25 9 5 Try.underlying25 Try.underlying5 Try.underlying9 c'
  go_enter Try.func18, Try.ntmps18
  go_wp2
  go_ret
  exact ⟨ret_bool (by simp only [strOf_toList]), rfl⟩

theorem bytes_calls_n (A A' : Option Addr) (c c' n m : Nat) (xs bs : List UInt8) (hn : xs.length = n) (hm : bs.length = m) (w : World) (B B' : Nat) (ha : BytesAt w B A xs) (hb : BytesAt w B' A' bs) :
    Calls Try.prog 18 #[.slice A n c, .slice A' m c'] w fun e w' => e = .returned (.bool (xs == bs)) ∧ w = w' := by
  subst hn
  subst hm
  exact bytes_calls A A' c c' xs bs w B B' ha hb

theorem mod_calls (k n : Int) (w : World) (h1 : 1 ≤ n) (h2 : n ≤ 4611686018427387904) :
    Calls Try.prog 26 #[.int .i64 k, .int .i64 n] w fun e w' => e = .returned (.int .i64 (modN k n)) ∧ w = w' := by
  have hn : ¬ n < 1 := by omega
  have hz : (n == 0) = false := by simp; omega
  have e1 : (k.tmod n + n).tmod n = modN k n := by
    unfold modN
    have h3 := Int.tmod_lt_of_pos k (show 0 < n by omega)
    have h4 : 0 ≤ k.tmod n + n := by
      have := Int.lt_tmod_of_pos k (show 0 < n by omega)
      omega
    rw [Int.tmod_eq_emod_of_nonneg h4, Int.add_emod_right, Int.tmod_eq_emod]
    split
    · simp
    · simp [show ((n.natAbs : Int)) = n by omega]
  have hb : -9223372036854775808 ≤ k.tmod n + n ∧ k.tmod n + n ≤ 9223372036854775807 := by
    have h3 := Int.tmod_lt_of_pos k (show 0 < n by omega)
    have h4 := Int.lt_tmod_of_pos k (show 0 < n by omega)
    omega
  replace hb := Lib.hid hb
  replace e1 := Lib.hid e1
  go_enter Try.func26, Try.ntmps26
  go_wp2
  go_ret
  refine ⟨ret_int ?_, rfl⟩
  rw [IntWalk.wrap64_in _ hb.out]
  exact e1.out

end Go.Proofs.Ytdglkjpdhnnpnaa
