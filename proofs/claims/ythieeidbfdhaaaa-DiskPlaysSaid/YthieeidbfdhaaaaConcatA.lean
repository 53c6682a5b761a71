/-
  slices.Grow and slices.Concat over blocks.
-/
import Derived.Test.YthieeidbfdhaaaaDiskFlush
import Derived.Test.YthieeidbfdhaaaaConcat
namespace Go.Proofs.Ythieeidbfdhaaaa
open Go Go.RowKit Go.Shelf

/-- Rows of bytes in memory, one behind the other. -/
def RowsAt (w : World) (B : Nat) (A : Option Addr) (ls : List (List UInt8)) : Prop := ls = [] ∨ ∃ b off, A = some ⟨b, off, none⟩ ∧ b < B ∧ w.rangeAt b off (ls.flatten.map B8)
theorem RowsAt.below {w w' : World} {B : Nat} {A : Option Addr} {ls : List (List UInt8)} (h : RowsAt w B A ls) (hb : Below B w w') : RowsAt w' B A ls := by
  rcases h with h | ⟨b, off, hA, hlt, hr⟩
  · exact .inl h
  · exact .inr ⟨b, off, hA, hlt, fun j v hj => (hb.cell (p := ⟨b, off + j, none⟩) hlt).trans (hr j v hj)⟩
/-- A slice of slices of rows of bytes in memory. -/
def PartsA (w : World) (B : Nat) (A : Option Addr) (l : List (List (List UInt8))) : Prop :=
  l = [] ∨ ∃ b off, A = some ⟨b, off, none⟩ ∧ b < B ∧ ∀ j, j < l.length → ∃ A' c', w.cell? ⟨b, off + j, none⟩ = some (.slice A' (l[j]?.getD []).length c') ∧ RowsAt w B A' (l[j]?.getD [])
theorem rows_flat {N : Nat} (ls : List (List UInt8)) (h : ∀ l ∈ ls, l.length = N) : ls.flatten.length = ls.length * N := by
  induction ls with
  | nil => simp
  | cons a t ih =>
    rw [List.flatten_cons, List.length_append, ih (fun l hl => h l (List.mem_cons_of_mem _ hl)), h a List.mem_cons_self, List.length_cons, Nat.add_mul]
    omega

/-- append(v, m...) of rows. -/
theorem wpList_app_rows {P : Program} {w : World} {ops : Array Oper} {rest : List Oper} {o : Oper} {a : Act} {Q : Exit → Act → World → Prop} (hgd : Region.wanted o (yielded ops a.tmps) = true) (s x : Operand) (t : TypeId) (ho : o.op = .call { callee := .builtin .append, args := #[s, x], argTypes := #[t, t] }) {e : TypeId} {z : Value} {N : Nat} (ht : P.underlying t = some (.slice e))
    (hinfo : (P.info? e).map (fun i => (i.zero, i.size, i.bytes)) = some (some z, N, N)) (hz : z.cells.size = N) (h0 : 0 < N) (base : Nat) (hbase : base ≤ w.heap.size) {A : Option Addr} {c : Nat} {ls : List (List UInt8)} (hown : OwnA w base e N A c ls)
    {B : Nat} {A2 : Option Addr} {ms : List (List UInt8)} (hms : RowsAt w B A2 ms) (hne : ms ≠ []) (hl : ∀ r ∈ ms, r.length = N) (c2 : Nat) (hs : a.eval s = .slice A ls.length c) (hx : a.eval x = .slice A2 ms.length c2) (hlen : (ls.length + ms.length) * N ≤ 140737488355328)
    (hK : ∀ (zs : List (List UInt8)) (A' : Option Addr) (c' : Nat) (w' : World), Hid (zs = ls ++ ms) → OwnA w' base e N A' c' zs → w.grownBy w' (A.map (·.block)) → wpList P ops Q rest (a.put o.dst (.slice A' zs.length c')) w') :
    wpList P ops Q (o :: rest) a w := by
  obtain ⟨i, hi, hz0, hz1, hz2⟩ := info_parts hinfo
  rcases hms with rfl | ⟨b, off, rfl, _, hr⟩
  · exact absurd rfl hne
  have hmp : 0 < ms.length := List.length_pos_iff.2 hne
  have hlen2 : ls.length + ms.length ≤ 140737488355328 := by
    have h1 : ls.length + ms.length ≤ (ls.length + ms.length) * N := Nat.le_mul_of_pos_right _ h0
    omega
  obtain ⟨g, cap, w', hr, h2, h3, _, _⟩ := run_append_lies (P := P) w t o.type base e i z N N ht hi hz0 hz1 hz2 hz h0 (.slice A ls.length c) ls.length (ls.flatten.map B8) hown ⟨b, off, none⟩ ms.length c2 (ms.flatten.map B8) (by rw [List.length_map, rows_flat ms hl])
    (fun j u hj => by rw [add_at]; exact hr j u hj) (bytes_oneCell _) hmp (by simp [maxLen]; omega) hlen hbase w.heap.size rfl
  refine wpList_run hgd _ w' ?_ (hK (ls ++ ms) (some ⟨g, 0, none⟩) cap w' rfl ?_ (by rw [← own_of A ls.length c]; exact h3))
  · rw [List.length_append]
    simp only [execOp, ho, resolve, invoke, builtin, Sem.run_bind, Sem.run_pure, Result.andThen_ok, List.map_toArray, List.map_cons, List.map_nil, hs, hx, hr]
  · unfold OwnA
    rw [List.length_append, List.flatten_append, List.map_append]
    exact h2

theorem flatA_snoc (l : List (List (List UInt8))) (k : Nat) (h : k < l.length) : (l.take (k + 1)).flatten = (l.take k).flatten ++ l[k]?.getD [] := by
  rw [List.take_add_one, List.flatten_append, List.getElem?_eq_getElem h]
  simp only [Option.toList_some, List.flatten_cons, List.flatten_nil, List.append_nil, Option.getD_some]
theorem flatA_le (l : List (List (List UInt8))) (k : Nat) : (l.take k).flatten.length ≤ l.flatten.length := by
  conv => rhs; rw [← List.take_append_drop k l, List.flatten_append, List.length_append]
  omega

theorem growA_calls (n : Nat) (hn : n ≤ 1000000) (w : World) :
    Calls Try.prog 57 #[.slice none 0 0, .int .i64 n] w fun e w' => (∃ A c, e = .returned (.slice A 0 c) ∧ OwnA w' w.heap.size 37 64 A c []) ∧ Below w.heap.size w w' := by
  by_cases h0 : n = 0
  · subst h0
    go_enter Try.func57, Try.ntmps57
    go_wp2
    go_ret
    exact ⟨⟨none, 0, rfl, OwnA.nil _ _ _ _⟩, brefl w⟩
  · have hd1 : decide ((n : Int) < 0) = false := decide_eq_false (by omega)
    have hd2 : decide ((0 : Int) < (n : Int)) = true := decide_eq_true (by omega)
    have hi0 : (0 : Int) ≤ (n : Int) := by omega
    have hi1 : (n : Int) ≤ 1000000 := by omega
    go_enter Try.func57, Try.ntmps57
    go_wp2_with (at_builtin; refine wpList_append_zeros rfl _ _ 50 3 rfl Try.underlying50 Try.underlying3 info_block (by rfl) (by decide) n (by rfl) (by rfl) (by omega) (by omega) (by omega) ?_; intro c w1 hc hcm hown hB)
    have hc0 : (0 : Int) ≤ (c : Int) := by omega
    go_wp2
    go_ret
    exact ⟨⟨some ⟨w.heap.size, 0, none⟩, c, rfl, hown⟩, hB⟩

set_option maxHeartbeats 4000000 in
theorem concatA_calls (A : Option Addr) (cap : Nat) (l : List (List (List UInt8))) (hlen : l.flatten.length ≤ 900000) (hrows : ∀ x ∈ l, x ≠ [] ∧ ∀ r ∈ x, r.length = 64) (w : World) (hp : PartsA w w.heap.size A l) (hll : l.length ≤ 1000000) :
    Calls Try.prog 47 #[.slice A l.length cap] w fun e w' => (∃ zs A' c, e = .returned (.slice A' zs.length c) ∧ zs = l.flatten ∧ OwnA w' w.heap.size 37 64 A' c zs) ∧ Below w.heap.size w w' := by
  obtain ⟨total, htot⟩ : ∃ n, n = l.flatten.length := ⟨_, rfl⟩
  have hfl : ∀ k, (l.take k).flatten.length ≤ total := fun k => by rw [htot]; exact flatA_le l k
  rw [← htot] at hlen
  have Htot := Lib.hid htot
  clear htot
  go_enter Try.func47, Try.ntmps47
  go_wp2_with fail
  go_loopw [3, 11] (fun sz i wr => ∃ k : Nat, k ≤ l.length ∧ i = .int .i64 k ∧ sz = .int .i64 ((l.take k).flatten.length : Int) ∧ w = wr) (fun _ i _ => l.length - (intOf i).toNat)
  case atStart => exact ⟨0, Nat.zero_le _, rfl, rfl, rfl⟩
  case round =>
    obtain ⟨k, hk, rfl, rfl, rfl⟩ := hrel
    by_cases hlt : k < l.length
    · rcases hp with rfl | ⟨b, off, rfl, hbw, hc⟩
      · simp at hlt
      obtain ⟨A1, c1, hcell, hb1⟩ := hc k hlt
      have hs := congrArg List.length (flatA_snoc l k hlt)
      rw [List.length_append] at hs
      have hsI : (((l.take (k + 1)).flatten.length : Nat) : Int) = ((l.take k).flatten.length : Int) + ((l[k]?.getD []).length : Int) := by omega
      have hle1 := hfl (k + 1)
      have hle0 := hfl k
      clear hc hfl
      generalize hn1 : (l.take (k + 1)).flatten.length = n1 at hs hsI hle1
      have Hn1 := Lib.hid hn1
      clear hn1
      generalize (l.take k).flatten.length = n0 at hs hsI hle0 ⊢
      generalize l[k]?.getD [] = x at hs hsI hcell hb1
      have hd1 : decide ((n0 : Int) + (x.length : Int) < 0) = false := decide_eq_false (by omega)
      have hb2 : (n0 : Int) + (x.length : Int) ≤ 900000 := by omega
      have Hs := Lib.hid hsI
      clear hs hsI
      go_wp2_with fail
      go_roundw
      case rel => exact ⟨k + 1, by omega, by go_num, by rw [Hn1.out, Hs.out], trivial⟩
      case measure => simp [intOf]; omega
    · obtain rfl : k = l.length := by omega
      rw [List.take_length, ← Htot.out]
      go_wp2_with fail
      refine (growA_calls total (by omega) _).mono ?_
      rintro e w1 ⟨⟨A1, c1, rfl, hown1⟩, hB1⟩
      go_wp2_with fail
      go_loopw [6, 27] (fun nw i wr => ∃ (k : Nat) (acc : List (List UInt8)) (A2 : Option Addr) (c2 : Nat), k ≤ l.length ∧ i = .int .i64 k ∧ nw = .slice A2 acc.length c2 ∧ Hid (acc = (l.take k).flatten) ∧ OwnA wr w.heap.size 37 64 A2 c2 acc ∧ Below w.heap.size w wr) (fun _ i _ => l.length - (intOf i).toNat)
      case atStart => exact ⟨0, [], A1, c1, Nat.zero_le _, rfl, rfl, (by simp [Hid]), hown1, hB1⟩
      case round =>
        obtain ⟨k, acc, A2, c2, hk, rfl, rfl, hacc, hown, hB⟩ := hrel
        by_cases hlt : k < l.length
        · rcases hp with rfl | ⟨b, off, rfl, hbw, hc⟩
          · simp at hlt
          obtain ⟨A3, c3, hcell, hb3⟩ := hc k hlt
          have hcell' := (hB.cell (p := ⟨b, off + k, none⟩) hbw).trans hcell
          have hs := flatA_snoc l k hlt
          have hle1 := hfl (k + 1)
          rw [hs, List.length_append, ← hacc.out] at hle1
          have hx : l[k]?.getD [] ≠ [] ∧ ∀ r ∈ l[k]?.getD [], r.length = 64 := by rw [List.getElem?_eq_getElem hlt]; exact hrows _ (List.getElem_mem hlt)
          clear hc hfl hcell
          generalize l[k]?.getD [] = x at hs hle1 hcell' hb3 hx
          have Hs := Lib.hid hs
          clear hs
          have hb4 := hb3.below hB
          go_wp2_with (at_builtin; refine wpList_app_rows rfl (.tmp 31) (.tmp 32) 50 rfl Try.underlying50 info_block (by rfl) (by decide) w.heap.size hB.size hown hb4 hx.1 hx.2 c3 (by rfl) (by rfl) (by omega) ?_)
          intro zs A5 c5 w5 hz hown5 hg5
          have hB5 := bgrown hB hg5 (fun k e => (hown.lt k e).1)
          go_wp2_with fail
          go_roundw
          case rel => exact ⟨k + 1, zs, A5, c5, by omega, by go_num, rfl, Lib.hid (by rw [hz.out, hacc.out, Hs.out]), hown5, hB5⟩
          case measure => simp [intOf]; omega
        · obtain rfl : k = l.length := by omega
          have hfin : acc = l.flatten := by rw [hacc.out, List.take_length]
          clear hacc
          go_wp2_with fail
          go_ret
          exact ⟨⟨acc, A2, c2, rfl, hfin, hown⟩, hB⟩

end Go.Proofs.Ythieeidbfdhaaaa
