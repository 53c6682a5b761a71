/-
  Streams in memory; the small functions on them: Zero, behind, Head.
-/
import Derived.Test.YtdglkjpdhnnpnaaStrPlain
import Derived.Test.YtdglkjpdhnnpnaaHeld
import Derived.Test.YtdglkjpdhnnpnaaConcat
import Derived.Deep.QuietTactic
import Derived.BigQuiet
import Derived.BigCall
import Derived.BigGuard
namespace Go.Proofs.Ytdglkjpdhnnpnaa
open Go Go.RowKit

def Rec.val (r : Rec) : List Value := [.int .i64 r.fr, .int .i64 r.ct, .bool r.zs, .slice r.A r.data.length r.cap]
def Str.val (s : Str) : List Value := [.int .i64 s.blocks, .int .i64 s.base, .int .i64 s.id, .slice s.A s.recs.length s.cap]
structure Rec.Ok (w : World) (B : Nat) (r : Rec) : Prop where
  bytes : BytesAt w B r.A r.data
  len : r.data.length ≤ r.cap
  most : r.cap ≤ maxLen
  f1 : -9223372036854775808 ≤ r.fr
  f2 : r.fr ≤ 9223372036854775807
  c1 : -9223372036854775808 ≤ r.ct
  c2 : r.ct ≤ 9223372036854775807
theorem Rec.Ok.below {w w' : World} {B : Nat} {r : Rec} (h : r.Ok w B) (hb : Below B w w') : r.Ok w' B := ⟨h.bytes.below hb, h.len, h.most, h.f1, h.f2, h.c1, h.c2⟩
theorem Rec.Ok.more {w : World} {B B' : Nat} {r : Rec} (h : r.Ok w B) (hB : B ≤ B') : r.Ok w B' := ⟨h.bytes.more hB, h.len, h.most, h.f1, h.f2, h.c1, h.c2⟩
/-- A slice of records in memory. -/
def RecsAt (w : World) (B : Nat) (A : Option Addr) (l : List Rec) : Prop :=
  (l = [] ∨ ∃ b off, A = some ⟨b, off, none⟩ ∧ b < B ∧ ∀ j (h : j < l.length), ∀ i v, l[j].val[i]? = some v → w.cell? ⟨b, off + j * 4 + i, none⟩ = some v) ∧ ∀ x ∈ l, x.Ok w B
theorem RecsAt.below {w w' : World} {B : Nat} {A : Option Addr} {l : List Rec} (h : RecsAt w B A l) (hb : Below B w w') : RecsAt w' B A l := by
  refine ⟨?_, fun x hx => (h.2 x hx).below hb⟩
  rcases h.1 with h | ⟨b, off, hA, hlt, hc⟩
  · exact .inl h
  · exact .inr ⟨b, off, hA, hlt, fun j hj i v hv => (hb.cell (p := ⟨b, off + j * 4 + i, none⟩) hlt).trans (hc j hj i v hv)⟩
theorem RecsAt.more {w : World} {B B' : Nat} {A : Option Addr} {l : List Rec} (h : RecsAt w B A l) (hB : B ≤ B') : RecsAt w B' A l := by
  refine ⟨?_, fun x hx => (h.2 x hx).more hB⟩
  rcases h.1 with h | ⟨b, off, hA, hlt, hc⟩
  · exact .inl h
  · exact .inr ⟨b, off, hA, by omega, hc⟩
theorem RecsAt.step {w w' : World} {A : Option Addr} {l : List Rec} (h : RecsAt w w.heap.size A l) (hb : Below w.heap.size w w') : RecsAt w' w'.heap.size A l := (h.below hb).more hb.size
structure Str.Ok (w : World) (B : Nat) (s : Str) : Prop where
  recs : RecsAt w B s.A s.recs
  len : s.recs.length ≤ s.cap
  most : s.cap ≤ maxLen
  b1 : -9223372036854775808 ≤ s.blocks
  b2 : s.blocks ≤ 9223372036854775807
  a1 : -9223372036854775808 ≤ s.base
  a2 : s.base ≤ 9223372036854775807
  i1 : -9223372036854775808 ≤ s.id
  i2 : s.id ≤ 9223372036854775807
theorem Str.Ok.step {w w' : World} {s : Str} (h : s.Ok w w.heap.size) (hb : Below w.heap.size w w') : s.Ok w' w'.heap.size := ⟨h.recs.step hb, h.len, h.most, h.b1, h.b2, h.a1, h.a2, h.i1, h.i2⟩

/-! ### Zero -/
theorem zeroB_take {bs : List UInt8} {k : Nat} (hk : k < bs.length) (h : zeroB (bs.take k) = true) : zeroB (bs.take (k + 1)) = (bs[k] == 0) := by
  unfold zeroB at *
  rw [List.take_succ_eq_append_getElem hk, List.all_append, h]
  simp
theorem zeroB_no {bs : List UInt8} {k : Nat} (hk : k < bs.length) (h : bs[k] ≠ 0) : zeroB bs = false := by
  unfold zeroB
  rw [List.all_eq_false]
  exact ⟨_, List.getElem_mem hk, by simpa using h⟩
theorem zero1_calls (x : UInt8) (w : World) : Calls Try.prog 38 #[B8 x] w fun e w' => e = .returned (.bool (!(x == 0))) ∧ w = w' := by
  by_cases h : x = 0
  · subst h
    go_enter Try.func38, Try.ntmps38
    go_wp2_with fail
    go_ret
    exact ⟨rfl, rfl⟩
  · have h1 : ((x.toNat : Int) == 0) = false := ne_u8_0 h
    have h2 : (!(x == 0)) = true := by simpa using h
    rw [h2]
    have h3 : ((x.toNat : Int) != 0) = true := by rw [bne, h1]; rfl
    go_enter Try.func38, Try.ntmps38
    go_wp2_with fail
    go_ret
    exact ⟨rfl, rfl⟩
/-- Where the first byte is that is not 0. -/
def idxPost (bs : List UInt8) (w : World) (e : Ending) (w' : World) : Prop := ∃ i : Int, e = .returned (.int .i64 i) ∧ (0 ≤ i ↔ zeroB bs = false) ∧ -1 ≤ i ∧ w = w'
theorem idx_calls (A : Option Addr) (cap : Nat) (bs : List UInt8) (hm : bs.length ≤ maxLen) (w : World) (B : Nat) (hb : BytesAt w B A bs) :
    Calls Try.prog 55 #[.slice A bs.length cap, .func (.func 38) #[] #[]] w (idxPost bs w) := by
  unfold maxLen at hm
  go_enter Try.func55, Try.ntmps55
  go_wp2_with fail
  go_loop [8] (fun i => ∃ k : Nat, k ≤ bs.length ∧ i = .int .i64 (k : Int) ∧ Hid (zeroB (bs.take k) = true)) (fun i => bs.length - (intOf i).toNat)
  case atStart => exact ⟨0, Nat.zero_le _, rfl, Lib.hid rfl⟩
  case round =>
    obtain ⟨k, hk, rfl, hz⟩ := hrel
    by_cases hlt : k < bs.length
    · obtain ⟨b, o, rfl, _, hc⟩ := hb.resolve_left (fun e => by rw [e] at hlt; simp at hlt)
      have hcell := hc k hlt
      rw [List.getElem?_eq_getElem hlt] at hcell
      simp only [Option.getD_some] at hcell
      have hst := Lib.hid (zeroB_take hlt hz.out)
      have hno := Lib.hid (zeroB_no hlt)
      have hk0 : (0 : Int) ≤ (k : Int) := by omega
      have hk1 : (k : Int) < (bs.length : Int) := by omega
      have hd1 : decide (k < bs.length) = true := decide_eq_true hlt
      clear hc hb
      generalize bs[k] = x at hcell hst hno
      go_wp2_with fail
      refine (zero1_calls x _).mono ?_
      rintro e w' ⟨rfl, rfl⟩
      by_cases hx : x = 0
      · subst hx
        go_wp2_with fail
        go_round
        case rel => exact ⟨k + 1, by omega, by go_num, Lib.hid (by rw [hst.out]; rfl)⟩
        case measure => simp [intOf]; omega
      · have h2 : (!(x == 0)) = true := by simpa using hx
        rw [h2]
        have hz9 := Lib.hid (hno.out hx)
        go_wp2_with fail
        go_ret
        exact ⟨(k : Int), rfl, ⟨fun _ => hz9.out, fun _ => hk0⟩, by omega, rfl⟩
    · obtain rfl : k = bs.length := by omega
      have hd1 : decide (bs.length < bs.length) = false := decide_eq_false (by omega)
      go_wp2_with fail
      go_ret
      refine ⟨-1, rfl, ⟨fun h => by omega, fun h => ?_⟩, by omega, rfl⟩
      have := hz.out
      rw [List.take_length, h] at this
      cases this
theorem zero_calls (A : Option Addr) (cap n : Nat) (bs : List UInt8) (hn : bs.length = n) (hm : n ≤ maxLen) (w : World) (B : Nat) (hb : BytesAt w B A bs) :
    Calls Try.prog 19 #[.slice A n cap] w fun e w' => e = .returned (.bool (zeroB bs)) ∧ w = w' := by
  subst hn
  have hC : Calls Try.prog 37 #[.slice A bs.length cap, .func (.func 38) #[] #[]] w fun e w' => e = .returned (.bool (!zeroB bs)) ∧ w = w' := by
    go_enter Try.func37, Try.ntmps37
    go_wp2_with fail
    refine (idx_calls A cap bs hm w B hb).mono ?_
    rintro e w' ⟨i, rfl, hi, hi1, rfl⟩
    cases hz : zeroB bs
    · have h0 : 0 ≤ i := hi.2 hz
      replace hz := Lib.hid hz
      clear hi
      go_wp2_with fail
      go_ret
      exact ⟨ret_bool (by rw [hz.out]; rfl), rfl⟩
    · have h0 : i < 0 := by
        by_cases h : 0 ≤ i
        · have := hi.1 h
          rw [hz] at this
          cases this
        · omega
      have hd0 : decide (0 ≤ i) = false := decide_eq_false (by omega)
      replace hz := Lib.hid hz
      clear hi
      go_wp2_with fail
      go_ret
      exact ⟨ret_bool (by rw [hz.out]; rfl), rfl⟩
  go_enter Try.func19, Try.ntmps19
  go_wp2_with fail
  refine hC.mono ?_
  rintro e w' ⟨rfl, rfl⟩
  cases hz : zeroB bs
  · replace hz := Lib.hid hz
    go_wp2_with fail
    go_ret
    exact ⟨ret_bool (by rw [hz.out]), rfl⟩
  · replace hz := Lib.hid hz
    go_wp2_with fail
    go_ret
    exact ⟨ret_bool (by rw [hz.out]), rfl⟩
theorem rzero_calls (A : Option Addr) (cap n : Nat) (bs : List UInt8) (hn : bs.length = n) (hm : n ≤ maxLen) (w : World) (B : Nat) (hb : BytesAt w B A bs) :
    Calls Try.prog 20 #[.slice A n cap] w fun e w' => e = .returned (.bool (zeroB bs)) ∧ w = w' := by
  subst hn
  unfold maxLen at hm
  go_enter Try.func20, Try.ntmps20
  go_wp2_with fail
  go_loop [3] (fun i => ∃ k : Nat, k ≤ bs.length ∧ i = .int .i64 (k : Int) ∧ Hid (zeroB (bs.take k) = true)) (fun i => bs.length - (intOf i).toNat)
  case atStart => exact ⟨0, Nat.zero_le _, rfl, Lib.hid rfl⟩
  case round =>
    obtain ⟨k, hk, rfl, hz⟩ := hrel
    by_cases hlt : k < bs.length
    · obtain ⟨b, o, rfl, _, hc⟩ := hb.resolve_left (fun e => by rw [e] at hlt; simp at hlt)
      have hcell := hc k hlt
      rw [List.getElem?_eq_getElem hlt] at hcell
      simp only [Option.getD_some] at hcell
      have hst := Lib.hid (zeroB_take hlt hz.out)
      have hno := Lib.hid (zeroB_no hlt)
      have hk0 : (0 : Int) ≤ (k : Int) := by omega
      have hk1 : (k : Int) < (bs.length : Int) := by omega
      have hd1 : decide (k < bs.length) = true := decide_eq_true hlt
      clear hc hb
      generalize bs[k] = x at hcell hst hno
      by_cases hx : x = 0
      · subst hx
        go_wp2_with fail
        go_round
        case rel => exact ⟨k + 1, by omega, by go_num, Lib.hid (by rw [hst.out]; rfl)⟩
        case measure => simp [intOf]; omega
      · have h1 : ((x.toNat : Int) == 0) = false := ne_u8_0 hx
        have hz9 := Lib.hid (hno.out hx)
        clear hno hst
        go_wp2_with fail
        go_ret
        exact ⟨ret_bool hz9.out.symm, rfl⟩
    · obtain rfl : k = bs.length := by omega
      have hd1 : decide (bs.length < bs.length) = false := decide_eq_false (by omega)
      go_wp2_with fail
      go_ret
      have := hz.out
      rw [List.take_length] at this
      exact ⟨ret_bool this.symm, rfl⟩
end Go.Proofs.Ytdglkjpdhnnpnaa
