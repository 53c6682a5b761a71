/-
  Package disk: a disk that nobody made.
-/
import Derived.Test.YthieeidbfdhaaaaDiskCrash
namespace Go.Proofs.Ythieeidbfdhaaaa
open Go Go.RowKit Go.Shelf
attribute [local go_sem] Oper.semAt_some wide_fn

theorem loose_seq_nil (n : Nat) (hn : 1 ≤ n) (Bd m : Nat) (w : World) :
    SeqV Fence.wide n Try.prog 56 #[.pointer (some ⟨Bd, 0, none⟩)] (fun _ : Empty => Array.replicate m undef) (fun _ _ => True) (fun _ _ => False) (fun _ W => Boxed W Bd 25 (.pointer none)) (fun ys => ys = []) (fun _ => True) (fun _ _ => True) w := fun l J _ W _ _ _ hView _ h0 =>
  (loose1_nil n hn l Bd (J []) W (hView _ _ h0) h0).mono fun _ _ ⟨hv, hJ⟩ => ⟨hv, .inl ⟨[], rfl, hJ⟩⟩

set_option maxRecDepth 100000 in
set_option maxHeartbeats 1000000 in
theorem diskLoose_nil (w : World) : Calls Try.prog 29 #[.pointer none] w fun e w' => e = .returned (.slice none 0 0) ∧ Below w.heap.size w w' := by
  rw [← callsIn_wide (n := 5)]
  refine callsIn_of_wp_marks Try.func29 rfl trivial ?_ rfl
  simp only [Try.ntmps29, List.size_toArray, List.length_cons, List.length_nil, Nat.reduceAdd, Nat.reduceSub, Array.replicate_succ, Array.replicate_zero, List.push_toArray, List.append_toArray, List.nil_append, List.cons_append]
  gi_wp2_with (gi_at_call 45; refine (callsIn_wide.2 (loose_calls _ _)).mono ?_; rintro e w' ⟨rfl, rfl⟩)
  have bO := Boxed.new w 47 (.slice none 0 0)
  have bD := Boxed.new (w.alloc (.cells #[.slice none 0 0] 47)) 25 (.pointer none)
  replace bO := bO.alloc (.cells #[.pointer none] 25)
  have hB0 := balloc (balloc (brefl w) (.cells #[.slice none 0 0] 47)) (.cells #[.pointer none] 25)
  simp only [World.size_alloc] at bD
  have hsz : ((w.alloc (.cells #[.slice none 0 0] 47)).alloc (.cells #[.pointer none] 25)).heap.size = w.heap.size + 2 := by simp
  refine rangeV rfl (by omega) (gf := 56) (lb := #[.pointer (some ⟨w.heap.size + 1, 0, none⟩)]) rfl trivial (enters_of Try.func56 (by kernel_rfl) rfl)
    (loose_seq_nil _ (by omega) (w.heap.size + 1) 2 _) (fun _ _ => trivial)
    (fun W l o o' hl _ _ _ => trivial)
    (fun A B hv => hv.elim) (Below.refl _ _) (fun _ => rfl)
    (fun _ W => Boxed W w.heap.size 47 (.slice none 0 0) ∧ Boxed W (w.heap.size + 1) 25 (.pointer none) ∧ Below w.heap.size w W)
    (fun _ _ _ => False)
    ?own (fun _ _ _ _ _ hs _ _ => hs) (fun _ _ _ _ hv => hv.elim) (fun _ _ _ _ h _ => h)
    ⟨bO, bD, hB0⟩
    (fun pre W ⟨_, hb, _⟩ => hb)
    (fun _ _ _ => True) (fun _ _ _ _ _ _ hs _ _ => hs) (fun _ _ x => x.elim) (fun _ _ x => x.elim) ?done ?stop
  case own =>
    rintro pre X Y row ⟨hbx, hbd, hB⟩ hg hr
    have hr' : ∀ r, row = some r → ∃ o : Obj, X.heap[r]? = some o ∧ o.isCells = false := fun r e => (hr r e).2
    exact ⟨hbx.kept hg (boxed_ne hbx hr'), hbd.kept hg (boxed_ne hbd hr'), hB.grown hg hB.size (fun k e => by have := (hr k e).1; rw [hsz] at this; omega)⟩
  case done =>
    rintro D' ys W hD' rfl ⟨hbx, hbd, hB⟩ hK
    have hc := hbx.cell
    gi_wp2
    refine endM hK (results_tmp rfl _ _ _) ⟨rfl, below_shut hB (by rw [hsz] at hD'; omega) hK⟩
  case stop =>
    rintro D' c pre W _ _ h _
    exact h.elim

set_option maxRecDepth 100000 in
set_option maxHeartbeats 1000000 in
theorem diskCrash_nil (A : Option Addr) (n cap : Nat) (w : World) : Calls Try.prog 26 #[.pointer none, .slice A n cap] w fun e w' => (∃ v, e = .returned v) ∧ Below w.heap.size w w' := by
  rw [← callsIn_wide (n := 5)]
  refine callsIn_of_wp_marks Try.func26 rfl trivial ?_ rfl
  simp only [Try.ntmps26, List.size_toArray, List.length_cons, List.length_nil, Nat.reduceAdd, Nat.reduceSub, Array.replicate_succ, Array.replicate_zero, List.push_toArray, List.append_toArray, List.nil_append, List.cons_append]
  gi_wp2_with (gi_at_call 45; refine (callsIn_wide.2 (loose_calls _ _)).mono ?_; rintro e w' ⟨rfl, rfl⟩)
  have bD := Boxed.new (w.alloc (.cells #[.slice A n cap] 32)) 25 (.pointer none)
  have hB0 := balloc (balloc (brefl w) (.cells #[.slice A n cap] 32)) (.cells #[.pointer none] 25)
  simp only [World.size_alloc] at bD
  have hsz : ((w.alloc (.cells #[.slice A n cap] 32)).alloc (.cells #[.pointer none] 25)).heap.size = w.heap.size + 2 := by simp
  refine rangeV rfl (by omega) (gf := 56) (lb := #[.pointer (some ⟨w.heap.size + 1, 0, none⟩)]) rfl trivial (enters_of Try.func56 (by kernel_rfl) rfl)
    (loose_seq_nil _ (by omega) (w.heap.size + 1) 2 _) (fun _ _ => trivial)
    (fun W l o o' hl _ _ _ => trivial)
    (fun A B hv => hv.elim) (Below.refl _ _) (fun _ => rfl)
    (fun _ W => Boxed W (w.heap.size + 1) 25 (.pointer none) ∧ Below w.heap.size w W)
    (fun _ _ _ => False)
    ?own (fun _ _ _ _ _ hs _ _ => hs) (fun _ _ _ _ hv => hv.elim) (fun _ _ _ _ h _ => h)
    ⟨bD, hB0⟩
    (fun pre W ⟨hb, _⟩ => hb)
    (fun _ _ _ => True) (fun _ _ _ _ _ _ hs _ _ => hs) (fun _ _ x => x.elim) (fun _ _ x => x.elim) ?done ?stop
  case own =>
    rintro pre X Y row ⟨hbd, hB⟩ hg hr
    have hr' : ∀ r, row = some r → ∃ o : Obj, X.heap[r]? = some o ∧ o.isCells = false := fun r e => (hr r e).2
    exact ⟨hbd.kept hg (boxed_ne hbd hr'), hB.grown hg hB.size (fun k e => by have := (hr k e).1; rw [hsz] at this; omega)⟩
  case done =>
    rintro D' ys W hD' rfl ⟨hbd, hB⟩ hK
    refine endM_n hK (results_none rfl _ _ _) ⟨⟨_, rfl⟩, below_shut hB (by rw [hsz] at hD'; omega) hK⟩
  case stop =>
    rintro D' c pre W _ _ h _
    exact h.elim
end Go.Proofs.Ythieeidbfdhaaaa
