/-
  page.Cut, page.Count and the reference's: bytes by pieces.
-/
import Derived.Test.YthieeidbfdhaaaaCutPlain
import Derived.Test.YthieeidbfdhaaaaChunk
import Derived.Test.YthieeidbfdhaaaaArrays
namespace Go.Proofs.Ythieeidbfdhaaaa
open Go Go.RowKit Go.Shelf
attribute [local go_sem] Oper.semAt_some wide_fn

theorem count_calls (n : Int) (h1 : -9223372036854775808 ≤ n) (h2 : n ≤ 9223372036854775807) (w : World) :
    Calls Try.prog 41 #[.int .i64 n] w fun e w' => e = .returned (.int .i64 (countN n)) ∧ w = w' := by
  unfold countN
  by_cases h : n < 1
  · have hd : decide (n < 1) = true := decide_eq_true h
    rw [if_pos h]
    go_enter Try.func41, Try.ntmps41
    go_wp2
    go_ret
    exact ⟨rfl, rfl⟩
  · have hd : decide (n < 1) = false := decide_eq_false h
    rw [if_neg h]
    have h3 : 1 ≤ n := by omega
    go_enter Try.func41, Try.ntmps41
    go_wp2
    go_ret
    exact ⟨rfl, rfl⟩
theorem rcount_calls (n : Int) (h1 : -9223372036854775808 ≤ n) (h2 : n ≤ 9223372036854775807) (w : World) :
    Calls Try.prog 42 #[.int .i64 n] w fun e w' => e = .returned (.int .i64 (countN n)) ∧ w = w' := by
  unfold countN
  by_cases h : n < 1
  · have hd : decide (n < 1) = true := decide_eq_true h
    rw [if_pos h]
    go_enter Try.func42, Try.ntmps42
    go_wp2
    go_ret
    exact ⟨rfl, rfl⟩
  · have hd : decide (n < 1) = false := decide_eq_false h
    rw [if_neg h]
    have h3 : 1 ≤ n := by omega
    go_enter Try.func42, Try.ntmps42
    go_wp2
    go_ret
    exact ⟨rfl, rfl⟩

theorem zero_piece (w : World) : (zeroValue 63).run Try.prog w = .ok (.agg ((zeros 48).map B8).toArray) w := Try.zeroValue63 w
theorem info_piece : (Try.prog.info? 63).map (fun i => (i.zero, i.size, i.bytes)) = some (some (.agg ((zeros 48).map B8).toArray), 48, 48) := by kernel_rfl

theorem keeps_of_below {W W' : World} (h : Below W.heap.size W W') : KeepsOthers W W' := ⟨h.size, fun k _ hk _ => (h.block k (Array.getElem?_eq_some_iff.1 hk).1).trans hk⟩
theorem OwnA.other {X Y : World} {base : Nat} {e : TypeId} {N : Nat} {A : Option Addr} {c : Nat} {ls : List (List UInt8)} {row : Option Nat} (h : OwnA X base e N A c ls) (hg : X.grownBy Y row) (hr : ∀ r, row = some r → ∃ o : Obj, X.heap[r]? = some o ∧ o.isCells = false) : OwnA Y base e N A c ls := by
  refine h.kept hg ?_
  rcases h.2 with ⟨hv, _⟩ | ⟨g, cap, cur, hv, _, hgb, _⟩
  · injection hv with hA _ _
    exact .inl (by rw [hA]; rfl)
  · injection hv with hA _ _
    subst hA
    refine .inr fun e' => ?_
    obtain ⟨o, ho, hc⟩ := hr g e'.symm
    rw [hgb] at ho
    cases ho
    cases hc
/-- A piece laid into 48 zeros. -/
theorem splice_piece (l : List UInt8) : splice ((zeros 48).map B8) 0 (l.map B8) = (padN l).map B8 := by
  unfold splice padN zeros
  rw [List.map_append, List.map_replicate, List.map_replicate, List.drop_replicate, List.take_zero, List.length_map, Nat.zero_add, List.nil_append]
/-- The pieces that have come. -/
def piecesOf (bs : List UInt8) (pre : List (Fin (chunksN bs.length 48))) : List (List UInt8) := pre.map fun x => padN (pieceB bs 48 x.val)
theorem piecesOf_snoc (bs : List UInt8) (pre : List (Fin (chunksN bs.length 48))) (x : Fin (chunksN bs.length 48)) : piecesOf bs (pre ++ [x]) = piecesOf bs pre ++ [padN (pieceB bs 48 x.val)] := by simp [piecesOf]
theorem piecesOf_length (bs : List UInt8) (pre : List (Fin (chunksN bs.length 48))) : (piecesOf bs pre).length = pre.length := by simp [piecesOf]
theorem cutTo_map (bs : List UInt8) : ∀ k, cutTo bs k = (List.range k).map fun x => padN (pieceB bs 48 x)
  | 0 => rfl
  | k + 1 => by rw [cutTo, cutTo_map bs k, List.range_succ, List.map_append]; rfl
theorem piecesOf_all (bs : List UInt8) : piecesOf bs (List.finRange (chunksN bs.length 48)) = cutN bs := by
  have h1 : chunksN bs.length 48 = cutLen bs.length := rfl
  unfold piecesOf cutN
  rw [← h1, cutTo_map]
  generalize chunksN bs.length 48 = m
  apply List.ext_getElem
  · simp
  · intro i h1 h2
    simp

set_option maxRecDepth 100000 in
set_option maxHeartbeats 1000000 in
theorem cut_calls (A : Option Addr) (cap : Nat) (bs : List UInt8) (hl : bs.length ≤ cap) (hl48 : bs.length ≤ 100000) (w : World) (hb : BytesAt w w.heap.size A bs) :
    Calls Try.prog 39 #[.slice A bs.length cap] w fun e w' => (∃ zs A' c, e = .returned (.slice A' zs.length c) ∧ zs = cutN bs ∧ OwnA w' w.heap.size 63 48 A' c zs) ∧ Below w.heap.size w w' := by
  rw [← callsIn_wide (n := 5)]
  refine callsIn_of_wp_marks Try.func39 rfl trivial ?_ rfl
  simp only [Try.ntmps39, List.size_toArray, List.length_cons, List.length_nil, Nat.reduceAdd, Nat.reduceSub, Array.replicate_succ, Array.replicate_zero, List.push_toArray, List.append_toArray, List.nil_append, List.cons_append]
  gi_wp2_with (gi_at_call 55; refine (callsIn_wide.2 (chunk_calls _ _ _ _ (by decide) _)).mono ?_; rintro e w' ⟨rfl, rfl⟩)
  have bO := Boxed.new w 76 (.slice none 0 0)
  have bS := Boxed.new (w.alloc (.cells #[.slice none 0 0] 76)) 32 (.slice A bs.length cap)
  have bC := Boxed.new ((w.alloc (.cells #[.slice none 0 0] 76)).alloc (.cells #[.slice A bs.length cap] 32)) 3 (.int .i64 48)
  replace bO := (bO.alloc (.cells #[.slice A bs.length cap] 32)).alloc (.cells #[.int .i64 48] 3)
  replace bS := bS.alloc (.cells #[.int .i64 48] 3)
  have hB0 := balloc (balloc (balloc (brefl w) (.cells #[.slice none 0 0] 76)) (.cells #[.slice A bs.length cap] 32)) (.cells #[.int .i64 48] 3)
  simp only [World.size_alloc] at bS bC
  have hsz : (((w.alloc (.cells #[.slice none 0 0] 76)).alloc (.cells #[.slice A bs.length cap] 32)).alloc (.cells #[.int .i64 48] 3)).heap.size = w.heap.size + 3 := by simp
  refine rangeG rfl (by omega) (gf := 62) (lb := #[.pointer (some ⟨w.heap.size + 1, 0, none⟩), .pointer (some ⟨w.heap.size + 1 + 1, 0, none⟩)]) rfl trivial (enters_of Try.func62 (by kernel_rfl) rfl)
    (chunk_seq _ (by omega) (w.heap.size + 1) (w.heap.size + 1 + 1) cap 48 (by omega) (by omega) A bs.length hb.shape hl (by omega) _ bS bC) (KeepsTwo.refl _ _) KeepsTwo.trans
    (fun W l o o' hl _ _ _ => ⟨World.putObj_heap_other (by rw [hsz] at hl; omega), World.putObj_heap_other (by rw [hsz] at hl; omega)⟩)
    (fun A B hv => by subst hv; exact ⟨Nat.le_refl _, fun _ _ _ h _ => h⟩) (Below.refl _ _) (fun _ => rfl)
    (fun pre W => (∃ A c, Boxed W w.heap.size 76 (.slice A (piecesOf bs pre).length c) ∧ OwnA W w.heap.size 63 48 A c (piecesOf bs pre)) ∧ (∃ v : Value, Boxed W (w.heap.size + 1) 32 v) ∧ (∃ v : Value, Boxed W (w.heap.size + 1 + 1) 3 v) ∧ Below w.heap.size w W)
    (fun _ _ _ => False)
    ?own (fun _ _ _ _ _ hs _ _ => hs) ?rel (fun _ _ _ _ h _ => h)
    ⟨⟨none, 0, bO, OwnA.nil _ _ _ _⟩, ⟨_, bS⟩, ⟨_, bC⟩, hB0⟩
    (fun x => { tmps := #[.slice A bs.length cap, undef, .slice none 0 0, .pointer (some ⟨w.heap.size, 0, none⟩), pieceW A bs.length 48 x, undef, .slice A bs.length cap, .func (.func 62) #[] #[.pointer (some ⟨w.heap.size + 1, 0, none⟩), .pointer (some ⟨w.heap.size + 1 + 1, 0, none⟩)], pieceW A bs.length 48 x, undef, undef, undef, undef, undef, undef, undef, undef], defers := [] }) ?assign ?body ?done ?stop
  case own =>
    rintro pre X Y row ⟨⟨A1, c1, hbx, hown⟩, ⟨v, hbv⟩, ⟨u, hbu⟩, hB⟩ hg hr
    have hr' : ∀ r, row = some r → ∃ o : Obj, X.heap[r]? = some o ∧ o.isCells = false := fun r e => (hr r e).2
    exact ⟨⟨A1, c1, hbx.kept hg (boxed_ne hbx hr'), hown.other hg hr'⟩, ⟨v, hbv.kept hg (boxed_ne hbv hr')⟩, ⟨u, hbu.kept hg (boxed_ne hbu hr')⟩, hB.grown hg hB.size (fun k e => by have := (hr k e).1; rw [hsz] at this; omega)⟩
  case rel =>
    rintro pre X Y ⟨⟨A1, c1, hbx, hown⟩, ⟨v, hbv⟩, ⟨u, hbu⟩, hB⟩ rfl
    exact ⟨⟨A1, c1, hbx, hown⟩, ⟨v, hbv⟩, ⟨u, hbu⟩, hB.drew⟩
  case assign =>
    intro l x W K hK
    unfold pieceV
    gi_wp2
    exact hK
  case body =>
    rintro l pre x W _ _ ⟨⟨A1, c1, hbx, hown⟩, ⟨v, hbv⟩, ⟨u, hbu⟩, hB⟩ hlen
    have hxl : 48 * x.val < bs.length := (lt_chunks (by omega)).1 x.isLt
    have hpb := (piece_bytes hb 48 x.val).below hB
    have hpl := pieceB_length bs 48 x.val
    have hmin : 0 < min 48 (bs.length - 48 * x.val) ∧ min 48 (bs.length - 48 * x.val) ≤ 48 := by omega
    have hpw : pieceW A bs.length 48 x = .slice (A.map (·.add (48 * x.val))) (min 48 (bs.length - 48 * x.val)) (min 48 (bs.length - 48 * x.val)) := rfl
    rw [hpw]
    have hsn := Lib.hid (piecesOf_snoc bs pre x)
    have hpo := piecesOf_length bs pre
    have hpr : pre.length ≤ 100000 := by
      have h1 : chunksN bs.length 48 = (bs.length + 47) / 48 := rfl
      omega
    have hpd : (padN (pieceB bs 48 x.val)).length = 48 := padN_length _ (by omega)
    clear hpw hlen
    generalize min 48 (bs.length - 48 * x.val) = k at hpl hmin ⊢
    generalize A.map (·.add (48 * x.val)) = A2 at hpb ⊢
    generalize pieceB bs 48 x.val = pc at hpl hpb hsn hpd
    generalize piecesOf bs pre = acc at hbx hown hsn hpo
    obtain ⟨ad, rfl, hpc⟩ := hpb.cells (by omega)
    have hc := hbx.cell
    have Hpl := Lib.hid hpl
    have Hpo := Lib.hid hpo
    have Hpd := Lib.hid hpd
    have Hpt := Lib.hid (show ((padN pc).map B8).take 48 = (padN pc).map B8 from List.take_of_length_le (by rw [List.length_map, hpd]; decide))
    clear hpl hpo hpd
    have hbase := hB.size
    have hlt1 := hbx.lt
    have hlt2 := hbv.lt
    have hlt3 := hbu.lt
    gi_wp2_with (first
      | (refine wpListIn_alloc_row (fun _ => trivial) 5 rfl 63 rfl _ rfl zero_piece ?_; intro w5 hr5 hs5 hB5)
      | (refine wpListIn_copy_to (fun _ => trivial) (.tmp 9) (.tmp 10) 32 32 rfl rfl 5 Try.underlying32 (by kernel_rfl) W.heap.size 0 ad 48 48 k k (by rfl) (by rfl) ((zeros 48).map B8) 63 hr5 (pc.map B8) (by rw [List.length_map, Hpl.out]; exact (Nat.min_eq_left hmin.2).symm) (fun j v hj => (hB5.cell (World.block_lt_of_cell? _ _ (hpc j v hj))).trans (hpc j v hj)) (by rw [List.length_map, Hpl.out]; simp [zeros]; omega) (bytes_oneCell _) ?_
         intro w6 hr6 hs6 hg6
         rw [splice_piece] at hr6
         have hbx6 := Boxed.kept (show Boxed w5 w.heap.size 76 (.slice A1 acc.length c1) from (hB5.block _ hbx.lt).trans hbx) hg6 (fun e => by injection e with e; omega)
         have hbv6 := Boxed.kept (show Boxed w5 (w.heap.size + 1) 32 v from (hB5.block _ hbv.lt).trans hbv) hg6 (fun e => by injection e with e; omega)
         have hbu6 := Boxed.kept (show Boxed w5 (w.heap.size + 1 + 1) 3 u from (hB5.block _ hbu.lt).trans hbu) hg6 (fun e => by injection e with e; omega)
         have hown6 := (hown.below hB5 (Nat.le_refl _)).kept hg6 (.inr (fun e => by have := (hown.lt _ e).2; omega))
         have hBW6 : Below W.heap.size W w6 := hB5.grown hg6 hB5.size (fun j e => by cases e; omega)
         have hc6 := hbx6.cell)
      | (refine wpListIn_load_part (fun _ => trivial) 13 rfl 63 (.tmp 5) rfl hr6 0 48 ((padN pc).map B8) rfl rfl Hpt.out (by rw [List.length_map, Hpd.out]) Try.isAgg63 Try.sizeOf63 ?_)
      | (refine wpListIn_lit_row (fun _ => trivial) 14 rfl 76 63 (.tmp 13) rfl ((padN pc).map B8) rfl rfl 48 (by rw [List.length_map, Hpd.out]) Try.underlying76 info_piece (by decide) (by decide) ?_
         intro w7 hw7 hr7
         have hown7 : OwnA w7 w.heap.size 63 48 A1 c1 acc := by rw [hw7]; exact hown6.alloc _
         have hs7 : w.heap.size ≤ w7.heap.size := by rw [hw7, World.size_alloc]; omega
         replace hw7 := Lib.hid hw7)
      | (gi_at_builtin; refine wpListIn_app_row (fun _ => trivial) (.tmp 12) (.tmp 14) 76 rfl rfl Try.underlying76 info_piece (by rfl) (by decide) w.heap.size hs7 hown7 Hpd.out hr7 1 (by rfl) (by rfl) (by rw [Hpo.out]; omega) (by rw [Hpo.out]; omega) ?_
         intro zs A8 c8 w8 hzs hown8 hg8 _
         have hg8' : (w6.alloc (.cells ((padN pc).map B8).toArray 63)).grownBy w8 (Value.slice A1 acc.length c1).ownBlock := by rw [own_of, ← hw7.out]; exact hg8
         obtain ⟨hb1, hb2, hr2, hk2, hB2⟩ := hbx6.appended (by decide) hown6 (Nat.le_trans hbase hBW6.size) (Nat.le_refl _) hown8 hg8'
         have hc8 := hb1.cell
         have hf8 := hb1.frozen
         have hbv8 := ((hbv6.alloc (.cells ((padN pc).map B8).toArray 63)).kept hg8' (hbv6.not_row (by decide) hown6)).other (show w.heap.size + 1 ≠ w.heap.size by omega) (.slice A8 zs.length c8)
         have hbu8 := ((hbu6.alloc (.cells ((padN pc).map B8).toArray 63)).kept hg8' (hbu6.not_row (by decide) hown6)).other (show w.heap.size + 1 + 1 ≠ w.heap.size by omega) (.slice A8 zs.length c8)
         clear hg8' hg8 hb1 hown8 hown7 hr7 hw7 hs7))
    have hfin : KeepsOthers W (w8.setCell ⟨w.heap.size, 0, none⟩ (.slice A8 zs.length c8)) := (keeps_of_below hBW6).trans hk2
    refine ⟨hfin.from _, ⟨Eq.trans hbv8 (Eq.symm hbv), Eq.trans hbu8 (Eq.symm hbu)⟩, ?_⟩
    dsimp only
    rw [hsn.out, ← hzs.out]
    exact ⟨⟨A8, c8, hb2, hr2⟩, ⟨v, hbv8⟩, ⟨u, hbu8⟩, hB.trans ((hBW6.mono hbase).trans hB2)⟩
  case done =>
    rintro D ys W hD rfl ⟨⟨A1, c1, hbx, hown⟩, ⟨v, hbv⟩, ⟨u, hbu⟩, hB⟩ hK
    rw [piecesOf_all] at hbx hown
    have hc := hbx.cell
    gi_wp2
    refine endM hK (results_tmp rfl _ _ _) ⟨⟨cutN bs, A1, c1, rfl, rfl, hown.other shut_grown (fun r e => by cases e; exact ⟨_, hK, rfl⟩)⟩, below_shut hB (by rw [hsz] at hD; omega) hK⟩
  case stop =>
    rintro D c pre W _ _ h _
    exact h.elim

set_option maxHeartbeats 1000000 in
theorem rcut_calls (A : Option Addr) (cap : Nat) (bs : List UInt8) (hl : bs.length ≤ cap) (hl48 : bs.length ≤ 100000) (w : World) (hb : BytesAt w w.heap.size A bs) :
    Calls Try.prog 40 #[.slice A bs.length cap] w fun e w' => (∃ zs A' c, e = .returned (.slice A' zs.length c) ∧ zs = cutN bs ∧ OwnA w' w.heap.size 63 48 A' c zs) ∧ Below w.heap.size w w' := by
  have hi0 : (0 : Int) ≤ (bs.length : Int) := by omega
  have hi1 : (bs.length : Int) ≤ 100000 := by omega
  have hi2 : (bs.length : Int) ≤ (cap : Int) := by omega
  go_enter Try.func40, Try.ntmps40
  go_wp2_with fail
  go_loopw [3, 4] (fun v i wr => ∃ (k i0 : Nat) (acc : List (List UInt8)) (A1 : Option Addr) (c1 : Nat), Hid (i0 = 48 * k) ∧ i0 < bs.length + 48 ∧ i = .int .i64 (i0 : Int) ∧ v = .slice A1 acc.length c1 ∧ Hid (acc = cutTo bs k) ∧ OwnA wr w.heap.size 63 48 A1 c1 acc ∧ Below w.heap.size w wr)
    (fun _ i _ => bs.length + 48 - (intOf i).toNat)
  case atStart => exact ⟨0, 0, [], none, 0, rfl, by omega, rfl, rfl, rfl, OwnA.nil _ _ _ _, brefl w⟩
  case round =>
    obtain ⟨k, i0, acc, A1, c1, Hi0, hi0, rfl, rfl, hacc, hown, hB⟩ := hrel
    have hbase := hB.size
    by_cases hlt : i0 < bs.length
    · have hd1 : decide ((i0 : Int) < (bs.length : Int)) = true := decide_eq_true (by omega)
      have hi3 : (0 : Int) ≤ (i0 : Int) := by omega
      have hi4 : (i0 : Int) ≤ (bs.length : Int) := by omega
      have hpb : BytesAt wr w.heap.size (A.map (·.add i0)) (pieceB bs 48 k) := by rw [Hi0.out]; exact (piece_bytes hb 48 k).below hB
      have hpl : (pieceB bs 48 k).length = min 48 (bs.length - i0) := by rw [pieceB_length, Hi0.out]
      have hacl : acc.length = k := by rw [hacc.out, cutTo_length]
      have hk : k ≤ 100000 := by have := Hi0.out; omega
      have hpd : (padN (pieceB bs 48 k)).length = 48 := padN_length _ (by omega)
      have hsn : cutTo bs (k + 1) = cutTo bs k ++ [padN (pieceB bs 48 k)] := rfl
      generalize pieceB bs 48 k = pc at hpl hpb hsn hpd
      rw [← hacc.out] at hsn
      obtain ⟨b, off, rfl⟩ : ∃ b off, A = some ⟨b, off, none⟩ := by
        rcases hb with h | ⟨b, off, h, _⟩
        · rw [h] at hlt; cases hlt
        · exact ⟨b, off, h⟩
      obtain ⟨ad, had, hpc⟩ := hpb.cells (by omega)
      rw [Option.map_some, add_at] at had
      obtain rfl : (⟨b, off + i0, none⟩ : Addr) = ad := by injection had
      have Hsn := Lib.hid hsn
      have Hpl := Lib.hid hpl
      have Hacl := Lib.hid hacl
      have Hpd := Lib.hid hpd
      have Hpt := Lib.hid (show ((padN pc).map B8).take 48 = (padN pc).map B8 from List.take_of_length_le (by rw [List.length_map, hpd]; decide))
      clear hpl hacl hpd hsn had
      have hcc : i0 + 48 ≤ bs.length ∨ bs.length < i0 + 48 := by omega
      rcases hcc with hcc | hcc
      · obtain ⟨j, hj⟩ : ∃ j, j = i0 + 48 := ⟨_, rfl⟩
        have hw1 : IntKind.i64.wrap ((i0 : Int) + 48) = (j : Int) := by rw [IntWalk.i64_in _ (by omega)]; omega
        have hne : ¬ cap = i0 := by omega
        have hw2 : (0 : Int) ≤ (j : Int) := by omega
        have hw3 : (j : Int) ≤ (bs.length : Int) := by omega
        have hw4 : (j : Int) ≤ (cap : Int) := by omega
        have hw5 : ¬ bs.length < j := by omega
        have hw6 : (i0 : Int) ≤ (j : Int) := by omega
        have hj1 : j ≤ i0 + 48 := by omega
        have hj2 : i0 + 48 ≤ j := by omega
        clear hj
        go_wp2_with (first
          | (refine wpList_alloc_row 5 rfl 63 rfl _ rfl zero_piece ?_; intro w5 hr5 hs5 hB5))
        go_region_held3 (fun _ => True) (trivial)
          (first
            | (with_reducible refine wanted_step ?_ ?_
               · rfl
               refine wp_copy rfl (.tmp 12) (.tmp 20) 32 32 rfl 5 Try.underlying32 (by kernel_rfl) (some ⟨wr.heap.size, 0, none⟩) (some ⟨b, off + i0, none⟩) 48 48 (j - i0) (cap - i0) (by rfl) (by rfl) wr.heap.size 0 ((zeros 48).map B8) 63 hr5 (pc.map B8)
                 (by rw [List.length_map, Hpl.out]; show min 48 (bs.length - i0) = min (j - i0) 48; omega) (fun _ => ⟨rfl, _, rfl, fun j v hj => (hB5.cell (World.block_lt_of_cell? _ _ (hpc j v hj))).trans (hpc j v hj)⟩) (by rw [List.length_map, Hpl.out]; simp [zeros]; omega) (bytes_oneCell _) ?_
               intro w6 hr6 hB6 hs6))
        rw [splice_piece] at hr6
        have hB56 : Below wr.heap.size wr w6 := hB5.drew.trans hB6
        have hown6 := hown.below hB56 (Nat.le_refl _)
        have hBw6 := bthen hB hB56
        clear hw1
        go_wp2_with (first
          | (refine wpList_load_part 23 rfl 63 (.tmp 5) rfl hr6 0 48 ((padN pc).map B8) rfl rfl Hpt.out (by rw [List.length_map, Hpd.out]) Try.isAgg63 Try.sizeOf63 ?_)
          | (refine wpList_lit_row 24 rfl 76 63 (.tmp 23) rfl ((padN pc).map B8) rfl rfl 48 (by rw [List.length_map, Hpd.out]) Try.underlying76 info_piece (by decide) (by decide) ?_
             intro w7 hw7 hr7
             have hown7 : OwnA w7 w.heap.size 63 48 A1 c1 acc := by rw [hw7]; exact hown6.alloc _
             have hBw7 : Below w.heap.size w w7 := by rw [hw7]; exact balloc hBw6 _
             replace hw7 := Lib.hid hw7)
          | (at_builtin; refine wpList_app_row (.tmp 22) (.tmp 24) 76 rfl rfl Try.underlying76 info_piece (by rfl) (by decide) w.heap.size hBw7.size hown7 Hpd.out hr7 1 (by rfl) (by rfl) (by rw [Hacl.out]; omega) (by rw [Hacl.out]; omega) ?_
             intro zs A8 c8 w8 hzs hown8 hg8 _
             have hBw8 := hBw7.grown hg8 hBw7.size (fun j e => (hown7.lt j e).1)))
        go_roundw
        case rel => exact ⟨k + 1, i0 + 48, zs, A8, c8, Lib.hid (by rw [Hi0.out]; omega), by omega, by go_num, rfl, Lib.hid (by rw [hzs.out, Hsn.out]), hown8, hBw8⟩
        case measure => simp [intOf]; omega
      · have hw1 : IntKind.i64.wrap ((i0 : Int) + 48) = (i0 : Int) + 48 := IntWalk.i64_in _ (by omega)
        have hw2 : (0 : Int) ≤ (i0 : Int) + 48 := by omega
        have hne : ¬ cap = i0 := by omega
        have hw3 : (bs.length : Int) < (i0 : Int) + 48 := by omega
        go_wp2_with (first
          | (refine wpList_alloc_row 5 rfl 63 rfl _ rfl zero_piece ?_; intro w5 hr5 hs5 hB5))
        go_region_held3 (fun _ => True) (trivial)
          (first
            | (with_reducible refine wanted_step ?_ ?_
               · rfl
               refine wp_copy rfl (.tmp 12) (.tmp 20) 32 32 rfl 5 Try.underlying32 (by kernel_rfl) (some ⟨wr.heap.size, 0, none⟩) (some ⟨b, off + i0, none⟩) 48 48 (bs.length - i0) (cap - i0) (by rfl) (by rfl) wr.heap.size 0 ((zeros 48).map B8) 63 hr5 (pc.map B8)
                 (by rw [List.length_map, Hpl.out]; show min 48 (bs.length - i0) = min ((bs.length - i0)) 48; omega) (fun _ => ⟨rfl, _, rfl, fun j v hj => (hB5.cell (World.block_lt_of_cell? _ _ (hpc j v hj))).trans (hpc j v hj)⟩) (by rw [List.length_map, Hpl.out]; simp [zeros]; omega) (bytes_oneCell _) ?_
               intro w6 hr6 hB6 hs6))
        rw [splice_piece] at hr6
        have hB56 : Below wr.heap.size wr w6 := hB5.drew.trans hB6
        have hown6 := hown.below hB56 (Nat.le_refl _)
        have hBw6 := bthen hB hB56
        clear hw1
        go_wp2_with (first
          | (refine wpList_load_part 23 rfl 63 (.tmp 5) rfl hr6 0 48 ((padN pc).map B8) rfl rfl Hpt.out (by rw [List.length_map, Hpd.out]) Try.isAgg63 Try.sizeOf63 ?_)
          | (refine wpList_lit_row 24 rfl 76 63 (.tmp 23) rfl ((padN pc).map B8) rfl rfl 48 (by rw [List.length_map, Hpd.out]) Try.underlying76 info_piece (by decide) (by decide) ?_
             intro w7 hw7 hr7
             have hown7 : OwnA w7 w.heap.size 63 48 A1 c1 acc := by rw [hw7]; exact hown6.alloc _
             have hBw7 : Below w.heap.size w w7 := by rw [hw7]; exact balloc hBw6 _
             replace hw7 := Lib.hid hw7)
          | (at_builtin; refine wpList_app_row (.tmp 22) (.tmp 24) 76 rfl rfl Try.underlying76 info_piece (by rfl) (by decide) w.heap.size hBw7.size hown7 Hpd.out hr7 1 (by rfl) (by rfl) (by rw [Hacl.out]; omega) (by rw [Hacl.out]; omega) ?_
             intro zs A8 c8 w8 hzs hown8 hg8 _
             have hBw8 := hBw7.grown hg8 hBw7.size (fun j e => (hown7.lt j e).1)))
        go_roundw
        case rel => exact ⟨k + 1, i0 + 48, zs, A8, c8, Lib.hid (by rw [Hi0.out]; omega), by omega, by go_num, rfl, Lib.hid (by rw [hzs.out, Hsn.out]), hown8, hBw8⟩
        case measure => simp [intOf]; omega
    · have hke : cutTo bs k = cutN bs := by
        have h := Hi0.out
        unfold cutN cutLen
        congr 1
        omega
      have hd1 : decide ((i0 : Int) < (bs.length : Int)) = false := decide_eq_false (by omega)
      have HE := Lib.hid (hacc.out.trans hke)
      clear hke
      go_wp2_with fail
      go_ret
      exact ⟨⟨acc, A1, c1, rfl, HE.out, hown⟩, hB⟩

end Go.Proofs.Ythieeidbfdhaaaa
