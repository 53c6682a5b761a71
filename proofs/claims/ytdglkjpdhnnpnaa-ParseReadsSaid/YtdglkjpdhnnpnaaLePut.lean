/-
  le.bytes and le.Put: a number's bytes, the lowest first.
-/
import Derived.Test.YtdglkjpdhnnpnaaValues
import Derived.Test.YtdglkjpdhnnpnaaLePlain
import Derived.Test.YtdglkjpdhnnpnaaFnv
namespace Go.Proofs.Ytdglkjpdhnnpnaa
open Go Go.RowKit Go.Shelf
attribute [local go_sem] Oper.semAt_some wide_fn

/-- Two blocks lie as they lay. -/
def KeepsTwo (b c : Nat) (A B : World) : Prop := B.heap[b]? = A.heap[b]? ∧ B.heap[c]? = A.heap[c]?
theorem KeepsTwo.refl (b c : Nat) (A : World) : KeepsTwo b c A A := ⟨rfl, rfl⟩
theorem KeepsTwo.trans {b c : Nat} {A B C : World} (h : KeepsTwo b c A B) (k : KeepsTwo b c B C) : KeepsTwo b c A C := ⟨k.1.trans h.1, k.2.trans h.2⟩

theorem shr8 (x : UInt64) : ((x >>> 8).toNat : Int) = (x.toNat : Int) / 256 := by
  have h : (x >>> 8).toNat = x.toNat >>> 8 := by
    rw [UInt64.toNat_shiftRight]; rfl
  rw [h, Nat.shiftRight_eq_div_pow]
  omega

theorem leBytes_calls (n : UInt64) (size : Int) (w : World) :
    Calls Try.prog 51 #[B64 n, .int .i64 size] w fun e w' => e = .returned (.func (.func 63) #[] #[.pointer (some ⟨w.heap.size + 1, 0, none⟩), .pointer (some ⟨w.heap.size, 0, none⟩)]) ∧
      w' = (w.alloc (.cells #[B64 n] 56)).alloc (.cells #[.int .i64 size] 3) := by
  go_enter Try.func51, Try.ntmps51
  go_wp2
  go_ret
  exact ⟨rfl, rfl⟩

set_option maxRecDepth 100000 in
set_option maxHeartbeats 1000000 in
theorem leBytes1 (m : Nat) (hm : 1 ≤ m) (l Bs Bn : Nat) (n : UInt64) (size : Nat) (hsize : size ≤ 16) (J Jx : List UInt8 → World → Prop)
    (hJ : ∀ s A B, J s A → (∃ v : UInt64, B = A.setCell ⟨Bn, 0, none⟩ (B64 v)) → J s B)
    (hY : ∀ pre x W, J pre W → pre.length < size → YieldAt Fence.wide (m - 1) Try.prog l #[B8 x] W fun e W' =>
      (e = .returned (.bool true) ∧ J (pre ++ [x]) W' ∧ KeepsTwo Bs Bn W W') ∨ (e = .returned (.bool false) ∧ Jx (pre ++ [x]) W'))
    (W : World) (hBs : Boxed W Bs 3 (.int .i64 (size : Int))) (hBn : Boxed W Bn 56 (B64 n)) (h0 : J [] W) :
    CallsIn Fence.wide m Try.prog 63 #[.func (.yield l) #[] #[], .pointer (some ⟨Bs, 0, none⟩), .pointer (some ⟨Bn, 0, none⟩)] W fun e W' => (∃ v, e = .returned v) ∧
      ((∃ ys, ys = bytesN n size ∧ J ys W') ∨ (∃ pre, (∃ k, k ≤ size ∧ pre = bytesN n k) ∧ Jx pre W')) := by
  have hc := hBs.cell
  refine callsIn_of_wp Try.func63 rfl trivial ?_ rfl
  simp only [Try.ntmps63, List.size_toArray, List.length_cons, List.length_nil, Nat.reduceAdd, Nat.reduceSub, Array.replicate_succ, Array.replicate_zero, List.push_toArray, List.append_toArray, List.nil_append, List.cons_append]
  gi_wp2
  clear hc
  gi_loopw [5] (fun i wr => ∃ k : Nat, k ≤ size ∧ i = .int .i64 k ∧ J (bytesN n k) wr ∧ Boxed wr Bn 56 (B64 (shiftN n k)))
    (fun i _ => size - (intOf i).toNat)
  case atStart => exact ⟨0, Nat.zero_le _, rfl, h0, hBn⟩
  case round =>
    obtain ⟨k, hk, rfl, hJs, hbn⟩ := hrel
    by_cases hlt : k < size
    · have hcn := hbn.cell
      have hk1 : bytesN n (k + 1) = bytesN n k ++ [(shiftN n k).toUInt8] := rfl
      have hk2 : shiftN n (k + 1) = shiftN n k >>> 8 := rfl
      replace hk1 := Lib.hid hk1
      replace hk2 := Lib.hid hk2
      have hxy : (((shiftN n k).toNat : Int) % 256) = (((shiftN n k).toUInt8).toNat : Int) := by simp
      generalize shiftN n k = x at *
      generalize x.toUInt8 = y at *
      obtain ⟨fn, tmps, assign, body, hy, hR⟩ := hY _ y wr hJs (by rw [bytesN_length]; exact hlt)
      gi_wp2
      refine hR.mono ?_
      rintro e W3 (⟨rfl, hJ3, hk3⟩ | ⟨rfl, hJx3⟩)
      · have hbn3 : Boxed W3 Bn 56 (B64 x) := hk3.2.trans hbn
        have hcn3 := hbn3.cell
        have hfn3 := hbn3.frozen
        gi_wp2
        go_roundw
        case rel =>
          refine ⟨k + 1, by omega, by simp, ?_, ?_⟩
          · rw [hk1.out, show Value.int .u64 ((x.toNat : Int) / 256) = B64 (x >>> 8) by rw [B64, shr8]]
            exact hJ _ _ _ hJ3 ⟨_, rfl⟩
          · rw [hk2.out, show Value.int .u64 ((x.toNat : Int) / 256) = B64 (x >>> 8) by rw [B64, shr8]]
            exact hbn3.set _
        case measure => simp [intOf]; omega
      · gi_wp2
        refine bodyPost_ret (results_none rfl _ _ _) rfl ?_
        exact ⟨⟨_, rfl⟩, .inr ⟨_, ⟨k + 1, by omega, hk1.out.symm⟩, hJx3⟩⟩
    · obtain rfl : k = size := by omega
      gi_wp2
      go_end0
      exact ⟨⟨_, rfl⟩, .inl ⟨_, rfl, hJs⟩⟩

/-- le.bytes keeps its promise: the bytes of n, the lowest first; or a beginning of them. Its own step: the captured number is turned. -/
theorem leBytes_seq (m : Nat) (hm : 1 ≤ m) (Bs Bn : Nat) (n : UInt64) (size : Nat) (hsize : size ≤ 16) (w : World) (hBs : Boxed w Bs 3 (.int .i64 (size : Int))) (hBn : Boxed w Bn 56 (B64 n)) :
    SeqR Fence.wide m Try.prog 63 #[.pointer (some ⟨Bs, 0, none⟩), .pointer (some ⟨Bn, 0, none⟩)] (fun x : UInt8 => #[B8 x]) (KeepsTwo Bs Bn) (fun A B => ∃ v : UInt64, B = A.setCell ⟨Bn, 0, none⟩ (B64 v))
      (fun ys => ys = bytesN n size) (fun pre => ∃ k, k ≤ size ∧ pre = bytesN n k) size w := fun l J Jx W hW hJ _ hY h0 =>
  leBytes1 m hm l Bs Bn n size hsize J Jx hJ hY W ((hW.block Bs hBs.lt).trans hBs) ((hW.block Bn hBn.lt).trans hBn) h0

/-- A byte that the call owns is no cell of another type. -/
theorem OwnB.apart {w : World} {base : Nat} {e t : TypeId} {A : Option Addr} {c B : Nat} {bs : List UInt8} {v : Value} (h : OwnB w base e A c bs) (hb : Boxed w B t v) (hte : t ≠ e) : A.map (·.block) ≠ some B := by
  have := hb.not_row hte h
  rw [own_of] at this
  exact fun e => this e.symm

set_option maxRecDepth 100000 in
set_option maxHeartbeats 1000000 in
theorem put_some (n : UInt64) (size : Nat) (h1 : 1 ≤ size) (h2 : size ≤ 16) (w : World) :
    Calls Try.prog 31 #[B64 n, .int .i64 (size : Int)] w fun e w' => (∃ A c, e = .returned (.slice A (bytesN n size).length c) ∧ OwnB w' w.heap.size 5 A c (bytesN n size)) ∧ Below w.heap.size w w' := by
  rw [← callsIn_wide (n := 5)]
  refine callsIn_of_wp_marks Try.func31 rfl trivial ?_ rfl
  simp only [Try.ntmps31, List.size_toArray, List.length_cons, List.length_nil, Nat.reduceAdd, Nat.reduceSub, Array.replicate_succ, Array.replicate_zero, List.push_toArray, List.append_toArray, List.nil_append, List.cons_append]
  have hd1 : decide ((size : Int) < 1) = false := decide_eq_false (by omega)
  have hd2 : decide ((16 : Int) < (size : Int)) = false := decide_eq_false (by omega)
  gi_wp2_with (gi_at_call 51; refine (callsIn_wide.2 (leBytes_calls _ _ _)).mono ?_; rintro e w' ⟨rfl, rfl⟩)
  have bO := Boxed.new w 25 (.slice none 0 0)
  have bN := Boxed.new (w.alloc (.cells #[.slice none 0 0] 25)) 56 (B64 n)
  have bS := Boxed.new ((w.alloc (.cells #[.slice none 0 0] 25)).alloc (.cells #[B64 n] 56)) 3 (.int .i64 (size : Int))
  replace bO := (bO.alloc (.cells #[B64 n] 56)).alloc (.cells #[.int .i64 (size : Int)] 3)
  replace bN := bN.alloc (.cells #[.int .i64 (size : Int)] 3)
  have hB0 := balloc (balloc (balloc (brefl w) (.cells #[.slice none 0 0] 25)) (.cells #[B64 n] 56)) (.cells #[.int .i64 (size : Int)] 3)
  simp only [World.size_alloc] at bN bS
  have hsz : (((w.alloc (.cells #[.slice none 0 0] 25)).alloc (.cells #[B64 n] 56)).alloc (.cells #[.int .i64 (size : Int)] 3)).heap.size = w.heap.size + 3 := by simp
  refine rangeG rfl (by omega) (gf := 63) (lb := #[.pointer (some ⟨w.heap.size + 1 + 1, 0, none⟩), .pointer (some ⟨w.heap.size + 1, 0, none⟩)]) rfl trivial (enters_of Try.func63 (by kernel_rfl) rfl)
    (leBytes_seq _ (by omega) (w.heap.size + 1 + 1) (w.heap.size + 1) n size h2 _ bS bN) (KeepsTwo.refl _ _) KeepsTwo.trans
    (fun W l o o' hl _ _ _ => ⟨World.putObj_heap_other (by rw [hsz] at hl; omega), World.putObj_heap_other (by rw [hsz] at hl; omega)⟩)
    (fun A B ⟨v, hv⟩ => by rw [hv]; exact (KeepsOthers.setCell _ _ _).from _) (Below.refl _ _) (fun _ => rfl)
    (fun pre W => ((∃ A c, Boxed W w.heap.size 25 (.slice A pre.length c) ∧ OwnB W w.heap.size 5 A c pre) ∧ ∃ v : UInt64, Boxed W (w.heap.size + 1) 56 (B64 v)) ∧ (∃ v : Value, Boxed W (w.heap.size + 1 + 1) 3 v) ∧ Below w.heap.size w W)
    (fun _ _ _ => False)
    ?own (fun _ _ _ _ _ hs _ _ => hs) ?rel (fun _ _ _ _ h _ => h)
    ⟨⟨⟨none, 0, bO, OwnB.nil _ _ _⟩, n, bN⟩, ⟨_, bS⟩, hB0⟩
    (fun x => { tmps := #[B64 n, .int .i64 (size : Int), undef, undef, .slice none 0 0, .pointer (some ⟨w.heap.size, 0, none⟩), B8 x, .int .i64 (size : Int), .bool false, .bool false, .int .i64 (size : Int), .bool false, .bool false, B64 n, .int .i64 (size : Int), .func (.func 63) #[] #[.pointer (some ⟨w.heap.size + 1 + 1, 0, none⟩), .pointer (some ⟨w.heap.size + 1, 0, none⟩)], B8 x, undef, undef, undef, undef, undef], defers := [] }) ?assign ?body ?done ?stop
  case own =>
    rintro pre X Y row ⟨⟨⟨A, c, hbx, hown⟩, v, hbv⟩, ⟨u, hbu⟩, hB⟩ hg hr
    have hr' : ∀ r, row = some r → ∃ o : Obj, X.heap[r]? = some o ∧ o.isCells = false := fun r e => (hr r e).2
    exact ⟨⟨⟨A, c, hbx.kept hg (boxed_ne hbx hr'), hown.other hg hr'⟩, v, hbv.kept hg (boxed_ne hbv hr')⟩, ⟨u, hbu.kept hg (boxed_ne hbu hr')⟩, hB.grown hg hB.size (fun k e => by have := (hr k e).1; rw [hsz] at this; omega)⟩
  case rel =>
    rintro pre X Y ⟨⟨⟨A, c, hbx, hown⟩, v, hbv⟩, ⟨u, hbu⟩, hB⟩ ⟨v', rfl⟩
    exact ⟨⟨⟨A, c, hbx.other (by omega) _, hown.kept (grownBy_setCell' _ _ _) (.inr (hown.apart hbv (by decide)))⟩, v', hbv.set _⟩, ⟨u, hbu.other (by omega) _⟩, hB.setCell (p := ⟨w.heap.size + 1, 0, none⟩) (by simp) _⟩
  case assign =>
    intro l x W K hK
    gi_wp2
    exact hK
  case body =>
    rintro l pre x W _ _ ⟨⟨⟨A, c, hbx, hown⟩, v, hbv⟩, ⟨u, hbu⟩, hB⟩ hlen
    have hc := hbx.cell
    have hownA : OwnB (W.alloc (.cells #[B8 x] 5)) w.heap.size 5 A c pre := World.ownsRow.alloc hown _
    have hbW : w.heap.size ≤ (W.alloc (.cells #[B8 x] 5)).heap.size := by have := hB.size; simp; omega
    gi_wp2_with (gi_at_builtin; refine wpListIn_app hbW rfl _ _ 25 rfl Try.underlying25 Try.info_byte hownA 1 (one_bytes W x) (by rfl) (by rfl) (by simp; omega) ?_)
    intro zs A' c' w1 hz hown1 hg1 _
    have hg1' : (W.alloc (.cells #[B8 x] 5)).grownBy w1 (Value.slice A pre.length c).ownBlock := by rw [own_of]; exact hg1
    obtain ⟨hb1, hb2, hr2, hk2, hB2⟩ := hbx.appended (by decide) hown hB.size (Nat.le_refl _) hown1 hg1'
    have hc1 := hb1.cell
    have hf1 := hb1.frozen
    have hbu1 := ((hbu.alloc (.cells #[B8 x] 5)).kept hg1 (fun e => hown.apart hbu (by decide) e.symm)).other (show w.heap.size + 1 + 1 ≠ w.heap.size by omega) (.slice A' zs.length c')
    have hbv1 := ((hbv.alloc (.cells #[B8 x] 5)).kept hg1 (fun e => hown.apart hbv (by decide) e.symm)).other (show w.heap.size + 1 ≠ w.heap.size by omega) (.slice A' zs.length c')
    gi_wp2
    refine ⟨hk2.from _, ⟨Eq.trans hbu1 (Eq.symm hbu), Eq.trans hbv1 (Eq.symm hbv)⟩, ?_⟩
    rw [← hz.out]
    exact ⟨⟨⟨A', c', hb2, hr2⟩, v, hbv1⟩, ⟨u, hbu1⟩, hB.trans hB2⟩
  case done =>
    rintro D ys W hD rfl ⟨⟨⟨A, c, hbx, hown⟩, v, hbv⟩, ⟨u, hbu⟩, hB⟩ hK
    have hc := hbx.cell
    gi_wp2
    refine endM hK (results_tmp rfl _ _ _) ⟨⟨A, c, rfl, hown.other shut_grown (fun r e => by cases e; exact ⟨_, hK, rfl⟩)⟩, below_shut hB (by rw [hsz] at hD; omega) hK⟩
  case stop =>
    rintro D c pre W _ _ h _
    exact h.elim

theorem put_none (n : UInt64) (size : Int) (h : size < 1 ∨ 16 < size) (w : World) :
    Calls Try.prog 31 #[B64 n, .int .i64 size] w fun e w' => e = .returned (.slice none 0 0) ∧ Below w.heap.size w w' := by
  rcases h with h | h
  · have hd1 : decide (size < 1) = true := decide_eq_true h
    go_enter Try.func31, Try.ntmps31
    go_wp2
    go_ret
    exact ⟨rfl, brefl w⟩
  · have hd1 : decide (size < 1) = false := decide_eq_false (by omega)
    have hd2 : decide (16 < size) = true := decide_eq_true h
    go_enter Try.func31, Try.ntmps31
    go_wp2
    go_ret
    exact ⟨rfl, brefl w⟩

/-- le.Put, whatever the size. -/
theorem put_calls (n : UInt64) (size : Int) (w : World) :
    Calls Try.prog 31 #[B64 n, .int .i64 size] w fun e w' => (∃ A c, e = .returned (.slice A (putN n size).length c) ∧ OwnB w' w.heap.size 5 A c (putN n size)) ∧ Below w.heap.size w w' := by
  by_cases h : size < 1 ∨ 16 < size
  · have e0 : putN n size = [] := if_pos h
    rw [e0]
    exact (put_none n size h w).mono fun e w' ⟨he, hB⟩ => ⟨⟨none, 0, he, OwnB.nil _ _ _⟩, hB⟩
  · have e0 : putN n size = bytesN n size.toNat := if_neg h
    rw [e0]
    have h1 : size = (size.toNat : Int) := by omega
    rw [h1]
    exact put_some n size.toNat (by omega) (by omega) w

end Go.Proofs.Ytdglkjpdhnnpnaa
