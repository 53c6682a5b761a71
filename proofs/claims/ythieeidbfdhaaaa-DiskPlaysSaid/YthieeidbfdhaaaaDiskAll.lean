/-
  Package disk: Loose, Flush.
-/
import Derived.Test.YthieeidbfdhaaaaDiskLoose
import Derived.Test.YthieeidbfdhaaaaInts
namespace Go.Proofs.Ythieeidbfdhaaaa
open Go Go.RowKit Go.Shelf
attribute [local go_sem] Oper.semAt_some wide_fn

theorem info_int : (Try.prog.info? 3).map (fun i => (i.zero, i.size, i.bytes)) = some (some (.int .i64 0), 1, 8) := by kernel_rfl

set_option maxRecDepth 100000 in
set_option maxHeartbeats 1000000 in
theorem diskLoose_calls {w : World} {base gd gs : Nat} {D : List Sct} {V : List (Option Addr × Nat)} (h : DiskAt w base gd gs D V) (hD : D.length ≤ 4096) :
    Calls Try.prog 29 #[.pointer (some ⟨gd, 0, none⟩)] w fun e w' => (∃ ys A c, e = .returned (.slice A ys.length c) ∧ ys = (looseAll D).map (fun x => x.val) ∧ OwnI w' w.heap.size A c ys) ∧ Below w.heap.size w w' := by
  rw [← callsIn_wide (n := 5)]
  refine callsIn_of_wp_marks Try.func29 rfl trivial ?_ rfl
  simp only [Try.ntmps29, List.size_toArray, List.length_cons, List.length_nil, Nat.reduceAdd, Nat.reduceSub, Array.replicate_succ, Array.replicate_zero, List.push_toArray, List.append_toArray, List.nil_append, List.cons_append]
  gi_wp2_with (gi_at_call 45; refine (callsIn_wide.2 (loose_calls _ _)).mono ?_; rintro e w' ⟨rfl, rfl⟩)
  have bO := Boxed.new w 47 (.slice none 0 0)
  have bD := Boxed.new (w.alloc (.cells #[.slice none 0 0] 47)) 25 (.pointer (some ⟨gd, 0, none⟩))
  replace bO := bO.alloc (.cells #[.pointer (some ⟨gd, 0, none⟩)] 25)
  have hB0 := balloc (balloc (brefl w) (.cells #[.slice none 0 0] 47)) (.cells #[.pointer (some ⟨gd, 0, none⟩)] 25)
  simp only [World.size_alloc] at bD
  have hsz : ((w.alloc (.cells #[.slice none 0 0] 47)).alloc (.cells #[.pointer (some ⟨gd, 0, none⟩)] 25)).heap.size = w.heap.size + 2 := by simp
  refine rangeW rfl (by omega) (gf := 56) (lb := #[.pointer (some ⟨w.heap.size + 1, 0, none⟩)]) rfl trivial (enters_of Try.func56 (by kernel_rfl) rfl)
    (loose_seq _ (by omega) (w.heap.size + 1) base gd gs D hD _) (fun _ => trivial) (fun _ _ => trivial)
    (fun W l o o' hl _ _ _ => trivial)
    (fun A B hv => hv.elim) (Below.refl _ _) (fun _ => rfl)
    (fun pre W => (∃ A c xs, Hid (xs = pre.map fun x => x.val) ∧ Boxed W w.heap.size 47 (.slice A xs.length c) ∧ OwnI W w.heap.size A c xs) ∧ Boxed W (w.heap.size + 1) 25 (.pointer (some ⟨gd, 0, none⟩)) ∧ Below w.heap.size w W)
    (fun _ _ _ => False)
    ?own (fun _ _ _ _ _ hs _ _ => hs) (fun _ _ _ _ hv => hv.elim) (fun _ _ _ _ h _ => h)
    ⟨⟨none, 0, [], rfl, bO, OwnI.nil _ _⟩, bD, hB0⟩
    (fun pre W ⟨_, hb, hB⟩ => ⟨hb, D, V, h.step hB, rfl, fun _ _ _ _ => rfl⟩)
    (fun x => { tmps := #[.pointer (some ⟨gd, 0, none⟩), undef, .slice none 0 0, .pointer (some ⟨w.heap.size, 0, none⟩), .int .i64 (x.val : Int), .pointer (some ⟨gd, 0, none⟩), .func (.func 56) #[] #[.pointer (some ⟨w.heap.size + 1, 0, none⟩)], .int .i64 (x.val : Int), .pointer (some ⟨gs, x.val * 65, none⟩), undef, undef, undef, undef, undef], defers := [] }) ?assign ?body ?done ?stop
  case own =>
    rintro pre X Y row ⟨⟨A, c, xs, hxs, hbx, hown⟩, hbd, hB⟩ hg hr
    have hr' : ∀ r, row = some r → ∃ o : Obj, X.heap[r]? = some o ∧ o.isCells = false := fun r e => (hr r e).2
    exact ⟨⟨A, c, xs, hxs, hbx.kept hg (boxed_ne hbx hr'), hown.other hg hr'⟩, hbd.kept hg (boxed_ne hbd hr'), hB.grown hg hB.size (fun k e => by have := (hr k e).1; rw [hsz] at this; omega)⟩
  case assign =>
    intro l x W K hK
    unfold looseArgs
    gi_wp2
    exact hK
  case body =>
    rintro l pre x W _ _ ⟨⟨A, c, xs, hxs, hbx, hown⟩, hbd, hB⟩ hlen
    have hc := hbx.cell
    have hownA : OwnI (W.alloc (.cells #[I64 x.val] 3)) w.heap.size A c xs := hown.alloc _
    have hbW : w.heap.size ≤ (W.alloc (.cells #[I64 x.val] 3)).heap.size := by have := hB.size; simp; omega
    have hxl : xs.length ≤ 5000 := by
      rw [hxs.out, List.length_map, hlen.1]
      have := looseTo_length D x.val
      omega
    have hrow : RowAt (W.alloc (.cells #[I64 x.val] 3)) W.heap.size 3 [I64 x.val] := alloc_row W 3 [I64 x.val]
    clear hlen
    gi_wp2_with (gi_at_builtin; refine wpListIn_app_int (fun _ => trivial) hbW rfl (.tmp 9) (.tmp 11) 47 rfl Try.underlying47 info_int hownA W.heap.size 1 x.val 3 hrow (by rfl) (by rfl) (by omega) ?_)
    intro zs A' c' w1 hz hown1 hg1 _
    have hg1' : (W.alloc (.cells #[I64 x.val] 3)).grownBy w1 (Value.slice A xs.length c).ownBlock := by rw [own_of]; exact hg1
    obtain ⟨hb1, hb2, hr2, hk2, hB2⟩ := hbx.appended (by decide) hown hB.size (Nat.le_refl _) hown1 hg1'
    have hc1 := hb1.cell
    have hf1 := hb1.frozen
    have hbd1 := ((hbd.alloc (.cells #[I64 x.val] 3)).kept hg1' (hbd.not_row (by decide) hown)).other (show w.heap.size + 1 ≠ w.heap.size by omega) (.slice A' zs.length c')
    gi_wp2
    refine ⟨hk2.from _, trivial, ⟨A', c', zs, Lib.hid (by rw [hz.out, hxs.out]; simp), hb2, hr2⟩, hbd1, hB.trans hB2⟩
  case done =>
    rintro D' ys W hD' rfl ⟨⟨A, c, xs, hxs, hbx, hown⟩, hbd, hB⟩ hK
    have hc := hbx.cell
    gi_wp2
    refine endM hK (results_tmp rfl _ _ _) ⟨⟨xs, A, c, rfl, hxs.out, hown.other shut_grown (fun r e => by cases e; exact ⟨_, hK, rfl⟩)⟩, below_shut hB (by rw [hsz] at hD'; omega) hK⟩
  case stop =>
    rintro D' c pre W _ _ h _
    exact h.elim
end Go.Proofs.Ythieeidbfdhaaaa
