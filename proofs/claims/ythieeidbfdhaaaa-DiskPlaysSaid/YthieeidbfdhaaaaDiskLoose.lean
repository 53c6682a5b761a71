/-
  Package disk: loose, whatever loop body it is given.
-/
import Derived.Test.YthieeidbfdhaaaaDiskWrite
import Derived.Test.YthieeidbfdhaaaaRangeV
namespace Go.Proofs.Ythieeidbfdhaaaa
open Go Go.RowKit Go.Shelf
attribute [local go_sem] Oper.semAt_some wide_fn

/-- The loose sectors of the first k. -/
def looseTo (D : List Sct) (k : Nat) : List (Fin D.length) := ((List.finRange D.length).take k).filter fun i => D[i].vers ≠ []
theorem looseTo_step (D : List Sct) {k : Nat} (hk : k < D.length) : looseTo D (k + 1) = if D[k].vers = [] then looseTo D k else looseTo D k ++ [⟨k, hk⟩] := by
  unfold looseTo
  rw [List.take_succ_eq_append_getElem (by simpa using hk), List.filter_append]
  by_cases h : D[k].vers = []
  · rw [if_pos h]
    simp [h]
  · rw [if_neg h]
    simp [h]
theorem looseTo_lt (D : List Sct) (k : Nat) : ∀ x ∈ looseTo D k, x.val < k := by
  intro x hx
  unfold looseTo at hx
  have h1 := (List.mem_filter.1 hx).1
  obtain ⟨i, hi, he⟩ := List.getElem_of_mem h1
  rw [List.getElem_take, List.getElem_finRange] at he
  rw [← he]
  simp at hi
  simp
  omega
def looseAll (D : List Sct) : List (Fin D.length) := looseTo D D.length
def looseArgs (gs : Nat) (D : List Sct) (x : Fin D.length) : Array Value := #[.int .i64 (x.val : Int), .pointer (some ⟨gs, x.val * 65, none⟩)]
/-- What a round may count on. -/
def LooseNext (D : List Sct) (pre : List (Fin D.length)) (x : Fin D.length) : Prop := pre = looseTo D x.val ∧ D[x].vers ≠ []
theorem looseTo_length (D : List Sct) (k : Nat) : (looseTo D k).length ≤ k := by
  have h1 : (looseTo D k).length ≤ ((List.finRange D.length).take k).length := List.length_filter_le _ _
  rw [List.length_take, List.length_finRange] at h1
  omega
/-- What the iterator may count on: the disk is there, and what did not come yet is as loose as it was. -/
def LooseView (Bd base gd gs : Nat) (D : List Sct) (pre : List (Fin D.length)) (W : World) : Prop :=
  Boxed W Bd 25 (.pointer (some ⟨gd, 0, none⟩)) ∧ ∃ D' V', DiskAt W base gd gs D' V' ∧ D'.length = D.length ∧ ∀ j (h : j < D'.length) (h' : j < D.length), (∀ x ∈ pre, x.val < j) → D'[j].vers.length = D[j].vers.length

theorem loose_calls (d : Option Addr) (w : World) :
    Calls Try.prog 45 #[.pointer d] w fun e w' => e = .returned (.func (.func 56) #[] #[.pointer (some ⟨w.heap.size, 0, none⟩)]) ∧ w' = w.alloc (.cells #[.pointer d] 25) := by
  go_enter Try.func45, Try.ntmps45
  go_wp2
  go_ret
  exact ⟨rfl, rfl⟩

set_option maxRecDepth 100000 in
set_option maxHeartbeats 1000000 in
theorem loose1 (n : Nat) (hn : 1 ≤ n) (l Bd base gd gs : Nat) (D : List Sct) (hD : D.length ≤ 4096) (J Jx : List (Fin D.length) → World → Prop)
    (hView : ∀ s A, J s A → LooseView Bd base gd gs D s A)
    (hY : ∀ pre x W, J pre W → LooseNext D pre x → YieldAt Fence.wide (n - 1) Try.prog l (looseArgs gs D x) W fun e W' =>
      (e = .returned (.bool true) ∧ J (pre ++ [x]) W' ∧ True) ∨ (e = .returned (.bool false) ∧ Jx (pre ++ [x]) W'))
    (W : World) (h0 : J [] W) :
    CallsIn Fence.wide n Try.prog 56 #[.func (.yield l) #[] #[], .pointer (some ⟨Bd, 0, none⟩)] W fun e W' => (∃ v, e = .returned v) ∧
      ((∃ ys, ys = looseAll D ∧ J ys W') ∨ (∃ pre, True ∧ Jx pre W')) := by
  refine callsIn_of_wp Try.func56 rfl trivial ?_ rfl
  simp only [Try.ntmps56, List.size_toArray, List.length_cons, List.length_nil, Nat.reduceAdd, Nat.reduceSub, Array.replicate_succ, Array.replicate_zero, List.push_toArray, List.append_toArray, List.nil_append, List.cons_append]
  obtain ⟨hBd, D', V', hd, hl, _⟩ := hView _ _ h0
  have hc := hBd.cell
  have Hl := Lib.hid hl
  clear hl
  gi_wp2_with (gi_at_call 31; refine (callsIn_wide.2 (diskLen_calls hd)).mono ?_; rintro e w' ⟨rfl, rfl⟩)
  rw [Hl.out]
  clear hc hd Hl hBd
  have hD0 : (D.length : Int) ≤ 4096 := by omega
  gi_loopw [7] (fun i wr => ∃ k : Nat, k ≤ D.length ∧ i = .int .i64 (k : Int) ∧ J (looseTo D k) wr)
    (fun i _ => D.length - (intOf i).toNat)
  case atStart => exact ⟨0, Nat.zero_le _, rfl, by simpa [looseTo] using h0⟩
  case round =>
    obtain ⟨k, hk, rfl, hJs⟩ := hrel
    by_cases hlt : k < D.length
    · obtain ⟨hBd, D', V', hd, hl, hsame⟩ := hView _ _ hJs
      have hc := hBd.cell
      have hlk : k < D'.length := by omega
      obtain ⟨cs, A, c, hr, _, _, _, hce, _, _⟩ := hd.sector k hlk
      have hc2 := hr.cellD _ _ hce
      rw [hsame k hlk hlt (looseTo_lt D k)] at hc2
      have hi1 : (0 : Int) ≤ (k : Int) := by omega
      have hd1 : decide (k < D.length) = true := decide_eq_true hlt
      have HS := Lib.hid (looseTo_step D hlt)
      have Hsec := Lib.hid (diskSector_calls hd k hlk)
      clear hsame hce hr hd hBd
      by_cases h0 : D[k].vers = []
      · have hlen : D[k].vers.length = 0 := by rw [h0]; rfl
        rw [hlen] at hc2
        rw [if_pos h0] at HS
        clear hlen
        gi_wp2_with (gi_at_call 43; refine (callsIn_wide.2 Hsec.out).mono ?_; rintro e w' ⟨rfl, rfl⟩)
        go_roundw
        case rel => exact ⟨k + 1, by omega, by simp, by rw [HS.out]; exact hJs⟩
        case measure => simp [intOf]; omega
      · obtain ⟨m, hm⟩ : ∃ m, D[k].vers.length = m + 1 := by
          cases hv : D[k].vers with
          | nil => exact absurd hv h0
          | cons a t => exact ⟨t.length, rfl⟩
        rw [hm] at hc2
        rw [if_neg h0] at HS
        clear hm
        have hpl : LooseNext D (looseTo D k) ⟨k, hlt⟩ := ⟨rfl, h0⟩
        obtain ⟨fn, tmps, assign, body, hy, hR⟩ := hY _ ⟨k, hlt⟩ wr hJs hpl
        clear hpl
        unfold looseArgs at hy
        simp only at hy
        gi_wp2_with (gi_at_call 43; refine (callsIn_wide.2 Hsec.out).mono ?_; rintro e w' ⟨rfl, rfl⟩)
        refine hR.mono ?_
        rintro e W3 (⟨rfl, hJ3, _⟩ | ⟨rfl, hJx3⟩)
        · gi_wp2
          go_roundw
          case rel => exact ⟨k + 1, by omega, by simp, by rw [HS.out]; exact hJ3⟩
          case measure => simp [intOf]; omega
        · gi_wp2
          refine bodyPost_ret (results_none rfl _ _ _) rfl ?_
          exact ⟨⟨_, rfl⟩, .inr ⟨_, trivial, hJx3⟩⟩
    · obtain rfl : k = D.length := by omega
      gi_wp2_with fail
      go_end0
      exact ⟨⟨_, rfl⟩, .inl ⟨_, rfl, hJs⟩⟩

/-- loose keeps its promise: all loose sectors, in order. -/
theorem loose_seq (n : Nat) (hn : 1 ≤ n) (Bd base gd gs : Nat) (D : List Sct) (hD : D.length ≤ 4096) (w : World) :
    SeqV Fence.wide n Try.prog 56 #[.pointer (some ⟨Bd, 0, none⟩)] (looseArgs gs D) (fun _ _ => True) (fun _ _ => False) (LooseView Bd base gd gs D) (fun ys => ys = looseAll D) (fun _ => True) (LooseNext D) w := fun l J Jx W _ _ _ hView hY h0 =>
  loose1 n hn l Bd base gd gs D hD J Jx hView hY W h0

/-- A disk that nobody made: nothing comes. -/
theorem loose1_nil (n : Nat) (hn : 1 ≤ n) (l Bd : Nat) (J : World → Prop) (W : World) (hBd : Boxed W Bd 25 (.pointer none)) (h0 : J W) :
    CallsIn Fence.wide n Try.prog 56 #[.func (.yield l) #[] #[], .pointer (some ⟨Bd, 0, none⟩)] W fun e W' => (∃ v, e = .returned v) ∧ J W' := by
  refine callsIn_of_wp Try.func56 rfl trivial ?_ rfl
  simp only [Try.ntmps56, List.size_toArray, List.length_cons, List.length_nil, Nat.reduceAdd, Nat.reduceSub, Array.replicate_succ, Array.replicate_zero, List.push_toArray, List.append_toArray, List.nil_append, List.cons_append]
  have hc := hBd.cell
  gi_wp2_with (gi_at_call 31; refine (callsIn_wide.2 (diskLen_nil _)).mono ?_; rintro e w' ⟨rfl, rfl⟩)
  gi_loopw [7] (fun i wr => i = .int .i64 0 ∧ J wr) (fun _ _ => 0)
  case atStart => exact ⟨rfl, h0⟩
  case round =>
    obtain ⟨rfl, hJs⟩ := hrel
    gi_wp2_with fail
    go_end0
    exact ⟨⟨_, rfl⟩, hJs⟩
end Go.Proofs.Ythieeidbfdhaaaa
