/-
  Package disk: Flush.
-/
import Derived.Test.YthieeidbfdhaaaaDiskAll
import Derived.Test.YthieeidbfdhaaaaDiskPass
import Derived.RangeFuncCalls
namespace Go.Proofs.Ythieeidbfdhaaaa
open Go Go.RowKit Go.Shelf
attribute [local go_sem] Oper.semAt_some wide_fn

theorem grown_far {a b c : World} {r row : Option Nat} (h : a.grownBy b r) (k : b.grownBy c row) (hr : ∀ x, row = some x → a.heap.size ≤ x) : a.grownBy c r :=
  ⟨k.os.trans h.os, k.tape.trans h.tape, k.output.trans h.output, Nat.le_trans h.size k.size, fun i hi hne => (k.block i (Nat.lt_of_lt_of_le hi h.size) (fun e => by have := hr i e.symm; omega)).trans (h.block i hi hne)⟩
/-- V' is what is left of V. -/
def VIn (V V' : List (Option Addr × Nat)) : Prop := ∀ v ∈ V', v ∈ V ∨ v.1 = none
theorem VIn.refl (V : List (Option Addr × Nat)) : VIn V V := fun _ h => .inl h
theorem VIn.set {V V' : List (Option Addr × Nat)} (h : VIn V V') (i c : Nat) : VIn V (V'.set i (none, c)) := by
  intro v hv
  rcases List.mem_or_eq_of_mem_set hv with hm | rfl
  · exact h v hm
  · exact .inr rfl
theorem VIn.owns {V V' : List (Option Addr × Nat)} {gs k : Nat} (h : VIn V V') (hk : DiskOwns gs V' k) : DiskOwns gs V k := by
  rcases hk with rfl | ⟨v, hv, hvk⟩
  · exact .inl rfl
  · rcases h v hv with hm | hn
    · exact .inr ⟨v, hm, hvk⟩
    · rw [hn] at hvk
      cases hvk
theorem VIn.new {w : World} {V V' : List (Option Addr × Nat)} (h : VIn V V') : DiskNew w V V' := by
  intro v hv k hk
  rcases h v hv with hm | hn
  · exact .inl ⟨v, hm, hk⟩
  · rw [hn] at hk
    cases hk
theorem DiskAt.other {X Y : World} {base gd gs B : Nat} {D : List Sct} {V V' : List (Option Addr × Nat)} {row : Option Nat} (h : DiskAt X base gd gs D V') (hV : VIn V V') (hg : X.grownBy Y row) (hgd : gd < B) (hB : ∀ k, DiskOwns gs V k → k < B) (hr : ∀ r, row = some r → B ≤ r) : DiskAt Y base gd gs D V' := by
  refine h.kept fun k hk hko => hg.block k hk fun e => ?_
  have h1 := hr k e.symm
  rcases hko with rfl | ho
  · omega
  · have := hB k (hV.owns ho)
    omega

/-- What the rounds of a crash or a flush keep: f: what comes of a sector. -/
def Settling (w : World) (base gd gs : Nat) (D : List Sct) (V : List (Option Addr × Nat)) (f : Nat → Fin D.length → Sct) (pre : List (Fin D.length)) (W : World) : Prop :=
  w.grownBy W (some gs) ∧ ∃ V', DiskAt W base gd gs (setAll D pre f) V' ∧ VIn V V'
theorem Settling.view {w : World} {base gd gs B : Nat} {D : List Sct} {V : List (Option Addr × Nat)} {f : Nat → Fin D.length → Sct} {pre : List (Fin D.length)} {W : World} (h : Settling w base gd gs D V f pre W) (hb : Boxed W B 25 (.pointer (some ⟨gd, 0, none⟩))) : LooseView B base gd gs D pre W := by
  obtain ⟨_, V', hd, _⟩ := h
  refine ⟨hb, _, V', hd, setAll_length _ _ _, fun j hj hj' hp => ?_⟩
  have h1 := setAll_other D pre f j (fun x hx e => by have := hp x hx; omega)
  rw [List.getElem?_eq_getElem hj, List.getElem?_eq_getElem hj'] at h1
  injection h1 with h1
  rw [h1]
theorem Settling.at {D : List Sct} {f : Nat → Fin D.length → Sct} {pre : List (Fin D.length)} {x : Fin D.length} (hn : LooseNext D pre x) (hx : x.val < (setAll D pre f).length) : (setAll D pre f)[x.val] = D[x.val] := by
  have h1 := setAll_other D pre f x.val (fun y hy e => by rw [hn.1] at hy; have := looseTo_lt D x.val y hy; omega)
  rw [List.getElem?_eq_getElem hx, List.getElem?_eq_getElem x.isLt] at h1
  injection h1

set_option maxRecDepth 100000 in
set_option maxHeartbeats 1000000 in
theorem diskFlush_calls {w : World} {base gd gs : Nat} {D : List Sct} {V : List (Option Addr × Nat)} (h : DiskAt w base gd gs D V) (hD : D.length ≤ 4096) (hm : ∀ i (h : i < D.length), D[i].vers.length ≤ 100000) :
    Calls Try.prog 24 #[.pointer (some ⟨gd, 0, none⟩)] w fun e w' => e = .returned (.int .i64 0) ∧ (∃ V', DiskAt w' base gd gs (flushN D) V' ∧ DiskNew w V V') ∧ DiskKeeps w w' gs V := by
  rw [← callsIn_wide (n := 5)]
  refine callsIn_of_wp_marks Try.func24 rfl trivial ?_ rfl
  simp only [Try.ntmps24, List.size_toArray, List.length_cons, List.length_nil, Nat.reduceAdd, Nat.reduceSub, Array.replicate_succ, Array.replicate_zero, List.push_toArray, List.append_toArray, List.nil_append, List.cons_append]
  have hlt := h.lt
  gi_wp2_with (gi_at_call 45; refine (callsIn_wide.2 (loose_calls _ _)).mono ?_; rintro e w' ⟨rfl, rfl⟩)
  have bD := Boxed.new w 25 (.pointer (some ⟨gd, 0, none⟩))
  have hB0 := balloc (brefl w) (.cells #[.pointer (some ⟨gd, 0, none⟩)] 25)
  have hsz : (w.alloc (.cells #[.pointer (some ⟨gd, 0, none⟩)] 25)).heap.size = w.heap.size + 1 := by simp
  refine rangeW rfl (by omega) (gf := 56) (lb := #[.pointer (some ⟨w.heap.size, 0, none⟩)]) rfl trivial (enters_of Try.func56 (by kernel_rfl) rfl)
    (loose_seq _ (by omega) w.heap.size base gd gs D hD _) (fun _ => trivial) (fun _ _ => trivial)
    (fun W l o o' hl _ _ _ => trivial)
    (fun A B hv => hv.elim) (Below.refl _ _) (fun _ => rfl)
    (fun pre W => Settling w base gd gs D V (fun _ x => D[x].flushed) pre W ∧ Boxed W w.heap.size 25 (.pointer (some ⟨gd, 0, none⟩)))
    (fun _ _ _ => False)
    ?own (fun _ _ _ _ _ hs _ _ => hs) (fun _ _ _ _ hv => hv.elim) (fun _ _ _ _ h _ => h)
    ⟨⟨grown_below hB0 _, V, h.step hB0, VIn.refl V⟩, bD⟩
    (fun pre W ⟨hs, hb⟩ => hs.view hb)
    (fun x => { tmps := #[.pointer (some ⟨gd, 0, none⟩), undef, .int .i64 0, undef, .pointer (some ⟨gs, x.val * 65, none⟩), .pointer (some ⟨gd, 0, none⟩), .bool false, .pointer (some ⟨gd, 0, none⟩), .func (.func 56) #[] #[.pointer (some ⟨w.heap.size, 0, none⟩)], .int .i64 (x.val : Int), .pointer (some ⟨gs, x.val * 65, none⟩), undef, undef, undef, undef], defers := [] }) ?assign ?body ?done ?stop
  case own =>
    rintro pre X Y row ⟨⟨hgr, V', hd, hV⟩, hbd⟩ hg hr
    have hr' : ∀ r, row = some r → ∃ o : Obj, X.heap[r]? = some o ∧ o.isCells = false := fun r e => (hr r e).2
    have hr1 : ∀ r, row = some r → w.heap.size ≤ r := fun r e => by have := (hr r e).1; rw [hsz] at this; omega
    exact ⟨⟨grown_far hgr hg hr1, V', hd.other hV hg hlt.1 (fun k hk => (hlt.2 k hk).2) hr1, hV⟩, hbd.kept hg (boxed_ne hbd hr')⟩
  case assign =>
    intro l x W K hK
    unfold looseArgs
    gi_wp2
    exact hK
  case body =>
    rintro l pre x W _ _ ⟨⟨hgr, V', hd, hV⟩, hbd⟩ hlen
    have hxl : x.val < (setAll D pre (fun _ x => D[x].flushed)).length := by rw [setAll_length]; exact x.isLt
    have hat := Settling.at (f := fun _ x => D[x].flushed) hlen hxl
    have hvl := hm x.val x.isLt
    rw [← hat] at hvl
    have hlast := diskLast_calls hd x.val hxl hvl
    rw [hat] at hlast
    have hset := fun w' (hb : Below W.heap.size W w') => settle_calls (hd.step hb) x.val hxl D[x.val].last (Sct.last_wf (h.wf _ (List.getElem_mem x.isLt)))
    have hsn := setAll_snoc D pre x (fun _ x => D[x].flushed)
    have hgsW := (hd.lt.2 gs (.inl rfl)).2
    clear hvl hat hd hlen
    have Hlast := Lib.hid hlast
    have Hset := Lib.hid hset
    clear hlast hset
    gi_wp2_with (first
      | (gi_at_call 44; refine ((callsIn_wide.2 Hlast.out).inRound l).mono ?_; rintro e w2 ⟨rfl, hB2⟩)
      | (gi_at_call 46; refine ((callsIn_wide.2 (Hset.out w2 hB2)).inRound l).mono ?_; rintro e w3 ⟨⟨v3, rfl⟩, hd3, hg3⟩))
    have hgW : W.grownBy w3 (some gs) := grown_then (grown_below hB2 _) hg3
    have hgsw := (hlt.2 gs (.inl rfl)).2
    refine ⟨KeepsFrom.of_grownBy hgW (fun j e => by cases e; rw [hsz]; omega), trivial, ⟨grown_then hgr hgW, _, ?_, hV.set x.val 0⟩, hbd.kept hgW (fun e => by injection e with e; omega)⟩
    rw [hsn]
    exact hd3
  case done =>
    rintro D' ys W hD' rfl ⟨⟨hgr, V', hd, hV⟩, hbd⟩ hK
    have hD1 : w.heap.size ≤ D' := by rw [hsz] at hD'; omega
    rw [setAll_all D (fun _ s => s.flushed), ← flushN_pass] at hd
    gi_wp2
    have hgr2 := grown_far hgr (shut_grown (o := .deferred none)) (fun r e => by cases e; exact hD1)
    refine endM hK (results_tmp rfl _ _ _) ⟨rfl, ⟨V', hd.other hV shut_grown hlt.1 (fun k hk => (hlt.2 k hk).2) (fun r e => by cases e; exact hD1), hV.new⟩, hgr2.size, hgr2.os, hgr2.tape, hgr2.output, fun k hk hno => hgr2.block k hk (fun e => hno (.inl (by injection e)))⟩
  case stop =>
    rintro D' c pre W _ _ h _
    exact h.elim
theorem diskFlush_nil (w : World) : Calls Try.prog 24 #[.pointer none] w fun e w' => e = .returned (.int .i64 1) ∧ w = w' := by
  go_enter Try.func24, Try.ntmps24
  go_wp2
  go_ret
  exact ⟨rfl, rfl⟩
end Go.Proofs.Ythieeidbfdhaaaa
