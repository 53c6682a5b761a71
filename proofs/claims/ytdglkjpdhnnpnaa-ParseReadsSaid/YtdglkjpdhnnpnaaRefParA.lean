/-
  revetmentref17: num, sealed; what Parse answers.
-/
import Derived.Test.YtdglkjpdhnnpnaaStrCopy
import Derived.Test.YtdglkjpdhnnpnaaParse
namespace Go.Proofs.Ytdglkjpdhnnpnaa
open Go Go.RowKit Go.Shelf

theorem rnum_calls (A : Option Addr) (cap n : Nat) (bs : List UInt8) (hn : bs.length = n) (h4 : n ≤ 4) (w : World) (B : Nat) (hb : BytesAt w B A bs) (v : Int) (hv : numP bs = v) :
    Calls Try.prog 44 #[.slice A n cap] w fun e w' => e = .returned (.int .i64 v) ∧ w = w' := by
  have h1 := numP_lt bs (by omega)
  have h2 := numP_nonneg bs
  have hg := Lib.hid (rget_calls_n A cap n bs hn (by unfold maxLen; omega) w B hb)
  have hx : ((getN bs).toNat : Int) = v := hv
  rw [hv] at h1 h2
  clear hb hv hn
  go_enter Try.func44, Try.ntmps44
  go_wp2_with fail
  refine hg.out.mono ?_
  rintro e w' ⟨rfl, rfl⟩
  rw [show B64 (getN bs) = .int .u64 v from congrArg (Value.int .u64) hx]
  clear hx hg
  go_wp2_with fail
  go_ret
  exact ⟨rfl, rfl⟩

/-- Is what stands ahead of the last eight bytes checked by them? -/
def sealedB (b : List UInt8) : Bool := decide (check (b.take (b.length - 8)) = getN (b.drop (b.length - 8)))
theorem exec_eql_u64 {P : Program} {w : World} {o : Oper} {a : Act} (t t' : TypeId) (x y : Operand) (ho : o.op = .binOp .eql t x y t') (i j : Int) (hx : a.eval x = .int .u64 i) (hy : a.eval y = .int .u64 j) (b : Bool) (hb : (i == j) = b) :
    (execOp a.eval o).run P w = .ok (.value (.bool b)) w := by
  subst hb
  simp only [execOp, ho, hx, hy]
  rfl
theorem exec_neq_u64 {P : Program} {w : World} {o : Oper} {a : Act} (t t' : TypeId) (x y : Operand) (ho : o.op = .binOp .neq t x y t') (i j : Int) (hx : a.eval x = .int .u64 i) (hy : a.eval y = .int .u64 j) (b : Bool) (hb : (i != j) = b) :
    (execOp a.eval o).run P w = .ok (.value (.bool b)) w := by
  subst hb
  simp only [execOp, ho, hx, hy]
  rfl
/-- A piece of bytes from a place on. -/
theorem piece_lh {w : World} {B : Nat} {b0 o0 : Nat} {bs : List UInt8} (h : BytesAt w B (some ⟨b0, o0, none⟩) bs) (i k : Nat) (hi : i < bs.length) : BytesAt w B (some ⟨b0, o0 + i, none⟩) ((bs.drop i).take k) := by
  rcases h with h | ⟨b, off, hA, hb, hc⟩
  · rw [h] at hi
    cases hi
  · injection hA with hA
    injection hA with e1 e2 _
    subst e1 e2
    refine .inr ⟨b0, o0 + i, rfl, hb, fun j hj => ?_⟩
    rw [List.length_take, List.length_drop] at hj
    rw [List.getElem?_take, if_pos (by omega), List.getElem?_drop, Nat.add_assoc]
    exact hc (i + j) (by omega)
theorem exec_slice_lh0 {w : World} {o : Oper} {a : Act} (x l h : Operand) (ho : o.op = .slice 25 x (some l) (some h) none) (b0 o0 n c i j k : Nat) (hx : a.eval x = .slice (some ⟨b0, o0, none⟩) n c) (hl : a.eval l = .int .i64 (i : Int)) (hh : a.eval h = .int .i64 (j : Int)) (h1 : i ≤ j) (h2 : j ≤ c) (h3 : i < c) (hk : j - i = k) :
    (execOp a.eval o).run Try.prog w = .ok (.value (.slice (some ⟨b0, o0 + i, none⟩) k (c - i))) w := by
  subst hk
  have h := exec_slice_lh (w := w) x l h ho (some ⟨b0, o0, none⟩) n c i j hx hl hh h1 h2
  rw [if_neg (by omega)] at h
  simpa [add_at] using h

theorem exec_slice_l0 {w : World} {o : Oper} {a : Act} (x l : Operand) (ho : o.op = .slice 25 x (some l) none none) (b0 o0 n c i k : Nat) (hx : a.eval x = .slice (some ⟨b0, o0, none⟩) n c) (hl : a.eval l = .int .i64 (i : Int)) (h1 : i ≤ n) (h3 : i < c) (hk : n - i = k) :
    (execOp a.eval o).run Try.prog w = .ok (.value (.slice (some ⟨b0, o0 + i, none⟩) k (c - i))) w := by
  subst hk
  have hr := run_slice_l (P := Try.prog) w 25 (some ⟨b0, o0, none⟩) n c u8s_elem .i64 (i : Int) (by omega) (by omega)
  rw [u8s_size] at hr
  have hne : ¬ c = i := by omega
  simp [execOp, ho, hx, hl, run_sliceAt_slice _ _ _ _ _ _ u8s_elem, hr, sliced, hne, add_at]
set_option maxHeartbeats 4000000 in
theorem sealed17_calls (b0 o0 cap n : Nat) (bs : List UInt8) (hn : bs.length = n) (h8 : 8 ≤ n) (hl : n ≤ 1000000) (hc : n ≤ cap) (w : World) (B : Nat) (hb : BytesAt w B (some ⟨b0, o0, none⟩) bs) (t : Bool) (ht : sealedB bs = t) :
    Calls Try.prog 43 #[.slice (some ⟨b0, o0, none⟩) n cap] w fun e w' => e = .returned (.bool t) ∧ Below w.heap.size w w' := by
  subst hn ht
  obtain ⟨m, hmm⟩ : ∃ m, bs.length = m + 8 := ⟨bs.length - 8, by omega⟩
  have hm8 : bs.length - 8 = m := by omega
  have hlt : m < bs.length := by omega
  have hb1 := hb.take m
  have hb2 := piece_lh hb m 8 hlt
  have hl1 : (bs.take m).length = m := by rw [List.length_take]; omega
  have hl2 : ((bs.drop m).take 8).length = 8 := by rw [List.length_take, List.length_drop]; omega
  have he : (bs.drop m).take 8 = bs.drop m := List.take_of_length_le (by rw [List.length_drop]; omega)
  have hres : sealedB bs = decide (check (bs.take m) = getN (bs.drop m)) := by unfold sealedB; rw [hm8]
  rw [he] at hb2 hl2
  rw [hres, hmm]
  have hk := Lib.hid (rcheck_calls (some ⟨b0, o0, none⟩) cap (bs.take m) (by omega) w.drew B hb1)
  have hg := Lib.hid (rget_calls_n (some ⟨b0, o0 + m, none⟩) (cap - m) 8 (bs.drop m) hl2 (by unfold maxLen; omega) w.drew B hb2)
  rw [hl1] at hk
  generalize bs.take m = x1 at hk
  generalize bs.drop m = x2 at hg
  clear hb hb1 hb2 hl1 hl2 he hres hlt hm8
  have hbb : ((((check x1).toNat : Nat) : Int) == ((getN x2).toNat : Int)) = decide (check x1 = getN x2) := by
    rw [Bool.eq_iff_iff, eq_u64, decide_eq_true_eq]
  obtain ⟨bb, hbd⟩ : ∃ bb, bb = decide (check x1 = getN x2) := ⟨_, rfl⟩
  rw [← hbd] at hbb ⊢
  replace hbb := Lib.hid hbb
  clear hbd
  have hM : (m : Int) ≤ 1000000 := by omega
  go_enter Try.func43, Try.ntmps43
  go_upto_region 2 with fail
  refine wp_region_H (fun W => W = w.drew) 10 rfl (by kernel_rfl) ?_
  -- <held2
  refine wh_take 0 (.slice (some ⟨b0, o0, none⟩) (m + 8) cap) rfl (by kernel_rfl) (by kernel_rfl) (fun _ _ _ h => h) (by kernel_rfl) (fun _ _ => by kernel_rfl) ?_
  refine wh_take 1 (.int .i64 (m : Nat)) rfl (by kernel_rfl) (by kernel_rfl) (fun _ _ _ h => h) (by kernel_rfl) (fun _ _ => by kernel_rfl) ?_
  refine wh_take 2 (.slice (some ⟨b0, o0, none⟩) m cap) rfl (by kernel_rfl) (by kernel_rfl) (fun _ _ _ h => h) (by kernel_rfl) (fun _ _ => exec_slice_h (.tmp 7) (.tmp 8) rfl _ (m + 8) cap m (by kernel_rfl) (by kernel_rfl) (by omega)) ?_
  refine wh_take 4 (.slice (some ⟨b0, o0, none⟩) (m + 8) cap) rfl (by kernel_rfl) (by kernel_rfl) (fun _ _ _ h => h) (by kernel_rfl) (fun _ _ => by kernel_rfl) ?_
  refine wh_take 5 (.int .i64 (m : Nat)) rfl (by kernel_rfl) (by kernel_rfl) (fun _ _ _ h => h) (by kernel_rfl) (fun _ _ => by kernel_rfl) ?_
  refine wh_take 6 (.slice (some ⟨b0, o0 + m, none⟩) 8 (cap - m)) rfl (by kernel_rfl) (by kernel_rfl) (fun _ _ _ h => h) (by kernel_rfl) (fun _ _ => exec_slice_l0 (.tmp 11) (.tmp 12) rfl b0 o0 (m + 8) cap m 8 (by kernel_rfl) (by kernel_rfl) (by omega) (by omega) (by omega)) ?_
  refine wh_call 3 28 #[.slice (some ⟨b0, o0, none⟩) m cap] rfl (by kernel_rfl) (by kernel_rfl) rfl (fun _ => by kernel_rfl) ?_
  refine hk.out.mono ?_
  rintro e W1 ⟨rfl, rfl⟩
  refine ⟨_, rfl, ?_⟩
  refine wh_call 7 45 #[.slice (some ⟨b0, o0 + m, none⟩) 8 (cap - m)] rfl (by kernel_rfl) (by kernel_rfl) rfl (fun _ => by kernel_rfl) ?_
  refine hg.out.mono ?_
  rintro e W2 ⟨rfl, rfl⟩
  refine ⟨_, rfl, ?_⟩
  refine wh_take 8 (.bool bb) rfl (by kernel_rfl) (by kernel_rfl) (fun _ _ _ h => h) (by kernel_rfl) (fun _ _ => exec_eql_u64 56 56 (.tmp 10) (.tmp 14) rfl _ _ (by kernel_rfl) (by kernel_rfl) bb hbb.out) ?_
  refine wh_take 9 (.bool bb) rfl (by kernel_rfl) (by kernel_rfl) (fun _ _ _ h => h) (by kernel_rfl) (fun _ _ => by kernel_rfl) ?_
  refine wh_done (by kernel_rfl) rfl ?_
  simp only [Act.put, List.setIfInBounds_toArray, List.set_cons_zero, List.set_cons_succ]
  -- held2>
  go_wp2_with fail
  go_ret
  exact ⟨rfl, (Since.refl w).drew⟩
theorem exec_index_b {w : World} {o : Oper} {a : Act} (x ix : Operand) (ho : o.op = .indexAddr 25 x ix) (g off k n c : Nat) (hx : a.eval x = .slice (some ⟨g, off, none⟩) n c) (hi : a.eval ix = .int .i64 (k : Int)) (hk : k < n) : (execOp a.eval o).run Try.prog w = .ok (.value (.pointer (some ⟨g, off + k, none⟩))) w := by
  have h := exec_index_slice (P := Try.prog) (w := w) 25 5 x ix ho g off k n c 1 Try.underlying25 Try.sizeOf5 hx hi hk
  rwa [Nat.mul_one] at h
/-- A variable of any struct is made; is written. -/
theorem new_row (w : World) (t : TypeId) (zs : List Value) : ∃ W, W = w.alloc (.cells zs.toArray t) ∧ RowAt W w.heap.size t zs ∧ Below w.heap.size w W := ⟨_, rfl, alloc_row w t zs, alloc_below w _⟩
theorem put_row (t : TypeId) (n : Nat) (hs : ∀ w, (sizeOf t).run Try.prog w = .ok n w) {w0 w : World} {g : Nat} {Z : List Value} (h : RowAt w g t Z) (hZ : Z.length = n) (hg : w0.heap.size ≤ g) (d : Since w0 w) (X : List Value) (hX : X.length = n) (h1 : ∀ v ∈ X, v.oneCell' = true) :
    ∃ W, (∀ (o : Oper) (a : Act) (x y : Operand), o.op = .store t x y → a.eval x = .pointer (some ⟨g, 0, none⟩) → a.eval y = .agg X.toArray → (execOp a.eval o).run Try.prog w = .ok .skip W) ∧ RowAt W g t X ∧ Since w0 W ∧ w.grownBy W (some g) := by
  refine ⟨w.setRow g (splice Z 0 X).toArray, fun o a x y ho hx hy => exec_store_part t x y ho h 0 X hx hy (by rw [hX]; exact hs) (by rw [hX, hZ, Nat.zero_add]; exact Nat.le_refl _) h1, ?_, Below.grown d (setRow_grown _ _ _) d.size (fun k e => by cases e; exact hg), setRow_grown _ _ _⟩
  have := setRow_row h (splice Z 0 X)
  rwa [splice_all Z X (by rw [hX, hZ])] at this ⊢
end Go.Proofs.Ytdglkjpdhnnpnaa
