/-
  PageCuts returns true, whatever the bytes and the number, and writes nothing that was there.
-/
import Derived.Test.YthieeidbfdhaaaaWakes05
import Derived.BigCall
import Derived.BigGuard
import Derived.Deep.DrawnRows
namespace Go.Proofs.Ythieeidbfdhaaaa
open Go Go.RowKit Go.Shelf

/-- Piece k of pieces that the call owns. -/
theorem OwnA.range {w : World} {base : Nat} {e : TypeId} {N : Nat} {A : Option Addr} {c : Nat} {ls : List (List UInt8)} (h : OwnA w base e N A c ls) (hr : ∀ l ∈ ls, l.length = N) (k : Nat) (hk : k < ls.length) :
    ∃ g, A = some ⟨g, 0, none⟩ ∧ g < w.heap.size ∧ w.rangeAt g (k * N) (ls[k].map B8) := by
  obtain ⟨g, hA, _, hg, hc⟩ := h.cell (by omega)
  refine ⟨g, hA, hg, fun j v hj => ?_⟩
  have hjl : j < ls[k].length := by simpa using (List.getElem?_eq_some_iff.1 hj).1
  have hkN : ls[k].length = N := hr _ (List.getElem_mem hk)
  have hlt : k * N + j < ls.length * N := by
    have : (k + 1) * N ≤ ls.length * N := Nat.mul_le_mul_right N (by omega)
    rw [Nat.add_mul, Nat.one_mul] at this
    omega
  rcases hc (k * N + j) with h1 | h1
  · rw [h1, ← hj]
    have hflat : ∀ (ls : List (List UInt8)) (k : Nat), (∀ l ∈ ls, l.length = N) → (hk : k < ls.length) → ls.flatten[k * N + j]? = ls[k][j]? := by
      intro ls
      induction ls with
      | nil => intro k _ hk; simp at hk
      | cons a ls ih =>
        intro k hr hk
        have ha := hr a List.mem_cons_self
        cases k with
        | zero =>
          have haj : j < a.length := by omega
          simp [List.getElem?_append_left haj]
        | succ k =>
          rw [List.flatten_cons, List.getElem?_append_right (by rw [ha, Nat.add_mul, Nat.one_mul]; omega), ha]
          have e : (k + 1) * N + j - N = k * N + j := by rw [Nat.add_mul, Nat.one_mul]; omega
          rw [e, ih k (fun l hl => hr l (List.mem_cons_of_mem _ hl)) (by simpa using hk)]
          rfl
    rw [List.getElem?_map, List.getElem?_map, hflat ls k hr hk]
  · omega

/-- A load of a piece behind a word that the walk does not open. -/
@[irreducible] def lpiece (p : Value) : Sem Value := Instr.loadAt 63 p
theorem run_lpiece {w : World} {g o : Nat} {cs : List Value} (h : w.rangeAt g o cs) (hl : cs.length = 48) : (lpiece (.pointer (some ⟨g, o, none⟩))).run Try.prog w = .ok (.agg cs.toArray) w := by
  unfold lpiece
  exact run_loadAt_mid w g o 63 cs _ h Try.underlying63 rfl (by rw [hl]; kernel_rfl)
theorem exec_lpiece (ρ : Operand → Value) (dst : Option Tmp) (ty : TypeId) (pos : String) (after : Array Edge) (guard : Option (Nat × Bool)) (x : Operand) :
    execOp ρ { dst, op := .load 63 x, type := ty, pos, after, guard } = (do pure (.value (← lpiece (ρ x)))) := by unfold lpiece; rfl
attribute [local go_sem ↓ high] exec_lpiece
attribute [local go_sem ↓] Go.wp_at_zero Go.wp_at_succ

set_option maxRecDepth 100000 in
set_option maxHeartbeats 1000000 in
theorem pageCuts_walk (A : Option Addr) (cap : Nat) (bs : List UInt8) (n : Int) (w : World) (hl : bs.length ≤ cap) (_hm : cap ≤ maxLen) (hb : BytesAt w w.heap.size A bs) (h1 : -9223372036854775808 ≤ n) (h2 : n ≤ 9223372036854775807) :
    Calls Try.prog 9 #[.slice A bs.length cap, .int .i64 n] w fun e w' => e = .returned (.bool true) ∧ Below w.heap.size w w' := by
  by_cases hbig : 5000 < bs.length
  · have hd : decide ((5000 : Int) < (bs.length : Int)) = true := decide_eq_true (by omega)
    go_enter Try.func9, Try.ntmps9
    go_wp2_with (go_at_call 38; refine (wakes05_calls _).mono ?_; rintro e w1 ⟨rfl, hB1⟩)
    go_ret
    exact ⟨rfl, hB1⟩
  · have hd : decide ((5000 : Int) < (bs.length : Int)) = false := decide_eq_false (by omega)
    have hl5 : bs.length ≤ 5000 := by omega
    have hown := OwnB.made w w.heap.size 5 (Nat.le_refl _)
    have hB0 := balloc (brefl w) (.cells #[] 5)
    have hcn : countN (bs.length : Int) = (cutLen bs.length : Int) := countN_len _
    go_enter Try.func9, Try.ntmps9
    go_wp2_with (at_builtin; refine wpList_app hB0 rfl _ _ 32 rfl Try.underlying32 Try.info_byte hown cap (hb.below hB0) (by rfl) (by rfl) (by simp; omega) ?_)
    clear hB0 hown
    intro ys A1 c1 w1 hy hown1 hB1 _ _
    have hys : ys = bs := by simpa using hy.out
    clear hy
    subst hys
    go_wp2_with fail
    refine (cut_calls A1 c1 ys hown1.cap (by omega) _ hown1.bytes).mono ?_
    rintro e w2 ⟨⟨zs, A2, c2, rfl, hzs, hown2⟩, hB2⟩
    replace hzs := Lib.hid hzs
    have hB12 := bthen hB1 hB2
    have hb2 := (hb.below hB12).more hB12.size
    go_wp2_with fail
    refine (rcut_calls A cap ys hl (by omega) _ hb2).mono ?_
    rintro e w3 ⟨⟨us, A3, c3, rfl, hus, hown3⟩, hB3⟩
    have hB13 := bthen hB12 hB3
    obtain rfl : zs = us := hzs.out.trans hus.symm
    replace hzs := hzs.out
    have hrows : ∀ l ∈ zs, l.length = 48 := by rw [hzs]; exact cutTo_rows _ _
    have hzl : zs.length = cutLen ys.length := by rw [hzs, cutN_length]
    have hown23 := hown2.below hB3 (Nat.le_refl _)
    have hLb : cutLen ys.length ≤ 200 := by unfold cutLen; omega
    rw [← hzl] at hcn hLb
    have Hcn := Lib.hid hcn
    have Hr2 := Lib.hid (fun k hk => hown23.range hrows k hk)
    have Hr3 := Lib.hid (fun k hk => hown3.range hrows k hk)
    have Hrows := Lib.hid hrows
    clear hcn hzl hown1 hb2 hus hzs hown2 hown3 hown23 hrows hB1 hB2 hB3 hB12
    have hLb' : (zs.length : Int) ≤ 200 := by omega
    have hL0 : (0 : Int) ≤ (zs.length : Int) := by omega
    go_wp2_with fail
    refine (count_calls n h1 h2 _).mono ?_
    rintro e w' ⟨rfl, rfl⟩
    go_wp2_with fail
    refine (rcount_calls n h1 h2 _).mono ?_
    rintro e w' ⟨rfl, rfl⟩
    go_wp2_with fail
    refine (count_calls (ys.length : Int) (by omega) (by omega) _).mono ?_
    rintro e w' ⟨rfl, rfl⟩
    rw [Hcn.out]
    go_wp2_with fail
    go_loopw [7] (fun i wr => ∃ k : Nat, k ≤ zs.length ∧ i = .int .i64 (k : Int) ∧ Below w3.heap.size w3 wr) (fun i _ => zs.length - (intOf i).toNat)
    case atStart => exact ⟨0, Nat.zero_le _, rfl, Below.refl _ _⟩
    case round =>
      obtain ⟨k, hk, rfl, hBr⟩ := hrel
      by_cases hlt : k < zs.length
      · have hd1 : decide (k < zs.length) = true := decide_eq_true hlt
        obtain ⟨g2, rfl, hg2, hr2⟩ := Hr2.out k hlt
        obtain ⟨g3, rfl, hg3, hr3⟩ := Hr3.out k hlt
        have hpl : zs[k].length = 48 := Hrows.out _ (List.getElem_mem hlt)
        have heq := fun w => eq_piece zs[k] zs[k] hpl hpl 9998 w
        simp only [beq_self_eq_true] at heq
        have hk0 : (0 : Int) ≤ (k : Int) := by omega
        have hk1 : (k : Int) < (zs.length : Int) := by omega
        have hcl : (zs[k].map B8).length = 48 := by rw [List.length_map, hpl]
        generalize zs[k].map B8 = P at *
        have hr2' : wr.rangeAt g2 (k * 48) P := fun j v hj => (hBr.cell (p := ⟨g2, k * 48 + j, none⟩) hg2).trans (hr2 j v hj)
        have hr3' : wr.rangeAt g3 (k * 48) P := fun j v hj => (hBr.cell (p := ⟨g3, k * 48 + j, none⟩) hg3).trans (hr3 j v hj)
        have hl2 : (lpiece (.pointer (some ⟨g2, k * 48, none⟩))).run Try.prog wr.drew = .ok (.agg P.toArray) wr.drew := run_lpiece hr2' hcl
        have hl3 : (lpiece (.pointer (some ⟨g3, k * 48, none⟩))).run Try.prog wr.drew = .ok (.agg P.toArray) wr.drew := run_lpiece hr3' hcl
        have hgd : Try.prog.eqGuardType Try.prog.depth 63 = false := by kernel_rfl
        clear hr2 hr3 hpl hcl hr2' hr3'
        go_wp2_with fail
        go_region_with (fail)
        all_goals
          clear hl2 hl3 heq hgd
          go_wp2_with fail
          go_roundw
          case rel => exact ⟨k + 1, by omega, by go_num, hBr.drew⟩
          case measure => simp [intOf]; omega
      · obtain rfl : k = zs.length := by omega
        go_wp2_with fail
        refine (wakes05_calls _).mono ?_
        rintro e w9 ⟨rfl, hB9⟩
        go_wp2_with fail
        go_ret
        exact ⟨rfl, bthen (bthen hB13 hBr) hB9⟩
end Go.Proofs.Ythieeidbfdhaaaa
