/-
  slices.Grow and slices.Concat over bytes.
-/
import Derived.Test.YtdglkjpdhnnpnaaLeGet
import Derived.Lib.AppendZeros
namespace Go.Proofs.Ytdglkjpdhnnpnaa
open Go Go.RowKit Go.Shelf

/-- append(nil, make([]T, n)...): a row with room for n. -/
theorem wpList_append_zeros {P : Program} {w : World} {ops : Array Oper} {rest : List Oper} {o : Oper} {a : Act} {Q : Exit → Act → World → Prop} (hgd : o.guard = none) (s x : Operand) (t tn : TypeId)
    (ho : o.op = .call { callee := .builtin .append, args := #[s, x], argTypes := #[t, tn] }) {e : TypeId} {z : Value} {size bytes : Nat} (ht : P.underlying t = some (.slice e)) (htn : P.underlying tn = some (.int .i64))
    (hinfo : (P.info? e).map (fun i => (i.zero, i.size, i.bytes)) = some (some z, size, bytes)) (hzs : z.cells.size = size) (hsz : 0 < size)
    (n : Nat) (hs : a.eval s = .slice none 0 0) (hx : a.eval x = .int .i64 n) (h0 : 0 < n) (hn : n * bytes ≤ 140737488355328) (hn2 : n ≤ 140737488355328)
    (h : ∀ (c : Nat) (w1 : World), n ≤ c → c ≤ maxLen → w1.ownsRow w.heap.size e size (.slice (some ⟨w.heap.size, 0, none⟩) 0 c) 0 [] → Below w.heap.size w w1 → wpList P ops Q rest (a.put o.dst (.slice (some ⟨w.heap.size, 0, none⟩) n c)) w1) :
    wpList P ops Q (o :: rest) a w := by
  cases hi : P.info? e with
  | none => simp [hi] at hinfo
  | some i =>
    simp only [hi, Option.map_some, Option.some.injEq, Prod.mk.injEq] at hinfo
    obtain ⟨hz0, hz1, hz2⟩ := hinfo
    have hrun := Lib.run_append_nil_zeros (P := P) w t tn o.type e i z .i64 .i64 ht htn hi hz0 n h0 (by omega) (by omega) (by rw [hz2]; omega)
    have hcm : grownCap w n 0 e ≤ maxLen := grownCap_le_maxLen w n 0 e (by simp [maxLen]; omega)
    have hge := grownCap_ge w n 0 e
    refine Lib.wpList_append_run w hgd s x t tn ho _ _ hs hx _ _ hrun (h _ _ hge hcm ?_ ?_)
    · exact World.ownsRow_made w.drew _ _ (Nat.le_refl _) hcm (by
        rw [Array.size_append, size_zeroCells, size_zeroCells, hzs, ← Nat.add_mul]
        congr 1
        omega)
    · exact ((Below.refl _ w).drew).alloc (Nat.le_refl _) _

/-- A slice of slices of bytes in memory. -/
def PartsAt (w : World) (B : Nat) (A : Option Addr) (l : List (List UInt8)) : Prop :=
  l = [] ∨ ∃ b off, A = some ⟨b, off, none⟩ ∧ b < B ∧ ∀ j, j < l.length → ∃ A' c', w.cell? ⟨b, off + j, none⟩ = some (.slice A' (l[j]?.getD []).length c') ∧ BytesAt w B A' (l[j]?.getD [])

theorem grow_calls (n : Nat) (hn : n ≤ 140737488355328) (w : World) :
    Calls Try.prog 50 #[.slice none 0 0, .int .i64 n] w fun e w' => (∃ A c, e = .returned (.slice A 0 c) ∧ OwnB w' w.heap.size 5 A c []) ∧ Below w.heap.size w w' := by
  by_cases h0 : n = 0
  · subst h0
    go_enter Try.func50, Try.ntmps50
    go_wp2
    go_ret
    exact ⟨⟨none, 0, rfl, OwnB.nil _ _ _⟩, brefl w⟩
  · have hd1 : decide ((n : Int) < 0) = false := decide_eq_false (by omega)
    have hd2 : decide ((0 : Int) < (n : Int)) = true := decide_eq_true (by omega)
    have hi0 : (0 : Int) ≤ (n : Int) := by omega
    have hi1 : (n : Int) ≤ 140737488355328 := by omega
    go_enter Try.func50, Try.ntmps50
    go_wp2_with (at_builtin; refine wpList_append_zeros rfl _ _ 25 3 rfl Try.underlying25 Try.underlying3 Try.info_byte rfl (by decide) n (by rfl) (by rfl) (by omega) (by omega) hn ?_; intro c w1 hc hcm hown hB)
    have hc0 : (0 : Int) ≤ (c : Int) := by omega
    go_wp2
    go_ret
    exact ⟨⟨some ⟨w.heap.size, 0, none⟩, c, rfl, hown⟩, hB⟩

theorem flat_snoc (l : List (List UInt8)) (k : Nat) (h : k < l.length) : (l.take (k + 1)).flatten = (l.take k).flatten ++ l[k]?.getD [] := by
  rw [List.take_add_one, List.flatten_append, List.getElem?_eq_getElem h]
  simp only [Option.toList_some, List.flatten_cons, List.flatten_nil, List.append_nil, Option.getD_some]
theorem flat_le (l : List (List UInt8)) (k : Nat) : (l.take k).flatten.length ≤ l.flatten.length := by
  conv => rhs; rw [← List.take_append_drop k l, List.flatten_append, List.length_append]
  omega

set_option maxHeartbeats 4000000 in
theorem concat_calls (A : Option Addr) (cap : Nat) (l : List (List UInt8)) (hlen : l.flatten.length ≤ 140737488351232) (w : World) (hp : PartsAt w w.heap.size A l) (hll : l.length ≤ 1000000) :
    Calls Try.prog 30 #[.slice A l.length cap] w fun e w' => (∃ zs A' c, e = .returned (.slice A' zs.length c) ∧ zs = l.flatten ∧ OwnB w' w.heap.size 5 A' c zs) ∧ Below w.heap.size w w' := by
  obtain ⟨total, htot⟩ : ∃ n, n = l.flatten.length := ⟨_, rfl⟩
  have hfl : ∀ k, (l.take k).flatten.length ≤ total := fun k => by rw [htot]; exact flat_le l k
  rw [← htot] at hlen
  have Htot := Lib.hid htot
  clear htot
  go_enter Try.func30, Try.ntmps30
  go_wp2_with fail
  go_loopw [3, 11] (fun sz i wr => ∃ k : Nat, k ≤ l.length ∧ i = .int .i64 k ∧ sz = .int .i64 ((l.take k).flatten.length : Int) ∧ w = wr) (fun _ i _ => l.length - (intOf i).toNat)
  case atStart => exact ⟨0, Nat.zero_le _, rfl, rfl, rfl⟩
  case round =>
    obtain ⟨k, hk, rfl, rfl, rfl⟩ := hrel
    by_cases hlt : k < l.length
    · rcases hp with rfl | ⟨b, off, rfl, hbw, hc⟩
      · simp at hlt
      obtain ⟨A1, c1, hcell, hb1⟩ := hc k hlt
      have hs := congrArg List.length (flat_snoc l k hlt)
      rw [List.length_append] at hs
      have hsI : (((l.take (k + 1)).flatten.length : Nat) : Int) = ((l.take k).flatten.length : Int) + ((l[k]?.getD []).length : Int) := by omega
      have hle1 := hfl (k + 1)
      have hle0 := hfl k
      clear hc hfl
      generalize hn1 : (l.take (k + 1)).flatten.length = n1 at hs hsI hle1
      have Hn1 := Lib.hid hn1
      clear hn1
      generalize (l.take k).flatten.length = n0 at hs hsI hle0 ⊢
      generalize l[k]?.getD [] = x at hs hsI hcell hb1
      have hd1 : decide ((n0 : Int) + (x.length : Int) < 0) = false := decide_eq_false (by omega)
      have hb2 : (n0 : Int) + (x.length : Int) ≤ 140737488351232 := by omega
      have Hs := Lib.hid hsI
      clear hs hsI
      go_wp2_with fail
      go_roundw
      case rel => exact ⟨k + 1, by omega, by go_num, by rw [Hn1.out, Hs.out], trivial⟩
      case measure => simp [intOf]; omega
    · obtain rfl : k = l.length := by omega
      rw [List.take_length, ← Htot.out]
      go_wp2_with fail
      refine (grow_calls total (by omega) _).mono ?_
      rintro e w1 ⟨⟨A1, c1, rfl, hown1⟩, hB1⟩
      go_wp2_with fail
      go_loopw [6, 27] (fun nw i wr => ∃ (k : Nat) (acc : List UInt8) (A2 : Option Addr) (c2 : Nat), k ≤ l.length ∧ i = .int .i64 k ∧ nw = .slice A2 acc.length c2 ∧ Hid (acc = (l.take k).flatten) ∧ OwnB wr w.heap.size 5 A2 c2 acc ∧ Below w.heap.size w wr) (fun _ i _ => l.length - (intOf i).toNat)
      case atStart => exact ⟨0, [], A1, c1, Nat.zero_le _, rfl, rfl, (by simp [Hid]), hown1, hB1⟩
      case round =>
        obtain ⟨k, acc, A2, c2, hk, rfl, rfl, hacc, hown, hB⟩ := hrel
        by_cases hlt : k < l.length
        · rcases hp with rfl | ⟨b, off, rfl, hbw, hc⟩
          · simp at hlt
          obtain ⟨A3, c3, hcell, hb3⟩ := hc k hlt
          have hcell' := (hB.cell (p := ⟨b, off + k, none⟩) hbw).trans hcell
          have hs := flat_snoc l k hlt
          have hle1 := hfl (k + 1)
          rw [hs, List.length_append, ← hacc.out] at hle1
          clear hc hfl hcell
          generalize l[k]?.getD [] = x at hs hle1 hcell' hb3
          have Hs := Lib.hid hs
          clear hs
          have hb4 := hb3.below hB
          go_wp2_with (at_builtin; refine wpList_app hB rfl _ _ 25 rfl Try.underlying25 Try.info_byte hown c3 hb4 (by rfl) (by rfl) (by omega) ?_)
          intro zs A5 c5 w5 hz hown5 hB5 _ _
          go_wp2_with fail
          go_roundw
          case rel => exact ⟨k + 1, zs, A5, c5, by omega, by go_num, rfl, Lib.hid (by rw [hz.out, hacc.out, Hs.out]), hown5, hB5⟩
          case measure => simp [intOf]; omega
        · obtain rfl : k = l.length := by omega
          have hfin : acc = l.flatten := by rw [hacc.out, List.take_length]
          clear hacc
          go_wp2_with fail
          go_ret
          exact ⟨⟨acc, A2, c2, rfl, hfin, hown⟩, hB⟩

end Go.Proofs.Ytdglkjpdhnnpnaa
