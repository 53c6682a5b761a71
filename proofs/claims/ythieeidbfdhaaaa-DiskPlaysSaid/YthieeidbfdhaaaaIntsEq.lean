/-
  revetmentkeep.Ints.
-/
import Derived.Test.YthieeidbfdhaaaaWakes05
import Derived.Test.YthieeidbfdhaaaaInts
namespace Go.Proofs.Ythieeidbfdhaaaa
open Go Go.RowKit Go.Shelf

/-- THE SLICE THAT BEGINS AT A READS AS xs. -/
def IntsAt (w : World) (B : Nat) (A : Option Addr) (xs : List Nat) : Prop :=
  xs = [] ∨ ∃ b off, A = some ⟨b, off, none⟩ ∧ b < B ∧ ∀ j (h : j < xs.length), w.cell? ⟨b, off + j, none⟩ = some (I64 xs[j])
theorem IntsAt.below {w w' : World} {B : Nat} {A : Option Addr} {xs : List Nat} (h : IntsAt w B A xs) (hb : Below B w w') : IntsAt w' B A xs := by
  rcases h with h | ⟨b, off, hA, hlt, hc⟩
  · exact .inl h
  · exact .inr ⟨b, off, hA, hlt, fun j hj => (hb.cell (p := ⟨b, off + j, none⟩) hlt).trans (hc j hj)⟩
theorem OwnI.ints {w : World} {base : Nat} {A : Option Addr} {c : Nat} {xs : List Nat} (h : OwnI w base A c xs) : IntsAt w w.heap.size A xs := by
  rcases Nat.eq_zero_or_pos xs.length with h0 | h0
  · exact .inl (List.eq_nil_of_length_eq_zero h0)
  · obtain ⟨g, hA, _, hg, _⟩ := h.cells 0 h0
    refine .inr ⟨g, 0, hA, hg, fun j hj => ?_⟩
    obtain ⟨g', hA', _, _, hc⟩ := h.cells j hj
    rw [hA] at hA'
    obtain rfl : g = g' := by simpa using hA'
    rw [Nat.zero_add]
    exact hc

theorem take_eq_snoc {xs ys : List Nat} {k : Nat} (hx : k < xs.length) (hy : k < ys.length) (h : xs.take k = ys.take k) (he : xs[k] = ys[k]) : xs.take (k + 1) = ys.take (k + 1) := by
  rw [List.take_succ_eq_append_getElem hx, List.take_succ_eq_append_getElem hy, h, he]

theorem ints_calls (A A2 : Option Addr) (c c2 : Nat) (xs ys : List Nat) (w : World) (hx : IntsAt w w.heap.size A xs) (hy : IntsAt w w.heap.size A2 ys) (hl : xs.length ≤ 100000) :
    Calls Try.prog 28 #[.slice A xs.length c, .slice A2 ys.length c2] w fun e w' => e = .returned (.bool (xs == ys)) ∧ Below w.heap.size w w' := by
  by_cases hlen : xs.length = ys.length
  · go_enter Try.func28, Try.ntmps28
    rw [← hlen]
    replace hlen := Lib.hid hlen
    go_wp2_with fail
    go_loopw [5] (fun i wr => ∃ k : Nat, k ≤ xs.length ∧ i = .int .i64 (k : Int) ∧ Hid (xs.take k = ys.take k) ∧ Below w.heap.size w wr) (fun i _ => xs.length - (intOf i).toNat)
    case atStart => exact ⟨0, Nat.zero_le _, rfl, rfl, brefl w⟩
    case round =>
      obtain ⟨k, hk, rfl, hpre, hB⟩ := hrel
      by_cases hlt : k < xs.length
      · have hlt2 : k < ys.length := by rw [← hlen.out]; exact hlt
        obtain ⟨b, o, rfl, hb, hc⟩ := (hx.below hB).resolve_left (fun e => by rw [e] at hlt; simp at hlt)
        obtain ⟨b2, o2, rfl, hb2, hc2⟩ := (hy.below hB).resolve_left (fun e => by rw [e] at hlt2; simp at hlt2)
        have h1 := hc k hlt
        have h2 := hc2 k hlt2
        have hsn := Lib.hid (fun e => take_eq_snoc hlt hlt2 hpre.out e)
        have hne : Hid (xs[k] ≠ ys[k] → (xs == ys) = false) := Lib.hid (fun hn => by
          rw [beq_eq_false_iff_ne]
          intro e
          subst e
          exact hn rfl)
        have hk0 : (0 : Int) ≤ (k : Int) := by omega
        have hk1 : (k : Int) < (xs.length : Int) := by omega
        have hd1 : decide (k < xs.length) = true := decide_eq_true hlt
        clear hc hc2 hx hy
        generalize xs[k] = x at *
        generalize ys[k] = y at *
        by_cases he : x = y
        · subst he
          go_wp2_with fail
          go_region
          go_wp2_with fail
          go_roundw
          case rel => exact ⟨k + 1, by omega, by go_num, Lib.hid (hsn.out (by first | rfl | trivial)), hB.drew⟩
          case measure => simp [intOf]; omega
        · have hd2 : ((x : Int) == (y : Int)) = false := by simp; omega
          have hres := hne.out he
          clear hne hsn he
          go_wp2_with fail
          go_region
          go_wp2_with fail
          go_ret
          rw [hres]
          exact ⟨rfl, hB.drew⟩
      · obtain rfl : k = xs.length := by omega
        have hres : (xs == ys) = true := by
          have h := hpre.out
          rw [List.take_length, hlen.out, List.take_length] at h
          rw [h]
          simp
        replace hres := Lib.hid hres
        go_wp2_with fail
        go_ret
        rw [hres.out]
        exact ⟨rfl, hB⟩
  · have hd0 : ((xs.length : Int) == (ys.length : Int)) = false := by simp; omega
    have he : (xs == ys) = false := by
      rw [beq_eq_false_iff_ne]
      exact fun e => hlen (by rw [e])
    rw [he]
    go_enter Try.func28, Try.ntmps28
    go_wp2_with fail
    go_ret
    exact ⟨rfl, brefl w⟩
end Go.Proofs.Ythieeidbfdhaaaa
