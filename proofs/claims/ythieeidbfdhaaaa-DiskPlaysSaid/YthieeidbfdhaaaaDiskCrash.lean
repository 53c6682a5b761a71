/-
  Package disk: Crash.
-/
import Derived.Test.YthieeidbfdhaaaaConcatA
import Derived.Stop.RegionWithIn
import Derived.Test.YthieeidbfdhaaaaRound
namespace Go.Proofs.Ythieeidbfdhaaaa
open Go Go.RowKit Go.Shelf
attribute [local go_sem] Oper.semAt_some wide_fn

/-- Bytes that do not lie in block gs. -/
theorem BytesAt.far {w w' : World} {B gs : Nat} {A : Option Addr} {bs : List UInt8} (h : BytesAt w B A bs) (hA : A.map (·.block) ≠ some gs) (hg : w.grownBy w' (some gs)) (hB : B ≤ w.heap.size) : BytesAt w' B A bs := by
  rcases h with h | ⟨b, off, rfl, hb, hc⟩
  · exact .inl h
  · refine .inr ⟨b, off, rfl, hb, fun j hj => ?_⟩
    rw [← hc j hj]
    unfold World.cell?
    rw [hg.block b (by omega) (fun e => hA (by rw [Option.map_some]; exact e.symm ▸ rfl))]

theorem grown_drew {a b : World} {r : Option Nat} (h : a.grownBy b r) : a.grownBy b.drew r := ⟨h.os, h.tape, h.output, h.size, h.block⟩

/-- The two parts of a crash: what was there, and the versions. -/
theorem parts_two {w : World} {base : Nat} {A : Option Addr} {c : Nat} {t : List UInt8} {vs : List (List UInt8)} {L : List Value} (hL : L = t.map B8) (hown : OwnA w base 37 64 A c vs) (hv : 0 < vs.length) (hvl : ∀ l ∈ vs, l.length = 64) :
    PartsA ((w.drew.alloc (.cells L.toArray 37)).alloc (.cells #[.slice (some ⟨w.heap.size, 0, none⟩) 1 1, .slice A vs.length c] 50)) ((w.drew.alloc (.cells L.toArray 37)).alloc (.cells #[.slice (some ⟨w.heap.size, 0, none⟩) 1 1, .slice A vs.length c] 50)).heap.size (some ⟨w.heap.size + 1, 0, none⟩) [[t], vs] := by
  have hB : Below w.heap.size w ((w.drew.alloc (.cells L.toArray 37)).alloc (.cells #[.slice (some ⟨w.heap.size, 0, none⟩) 1 1, .slice A vs.length c] 50)) := balloc (balloc (brefl w).drew _) _
  refine .inr ⟨w.heap.size + 1, 0, rfl, by simp, fun j hj => ?_⟩
  have h2 := alloc_row (w.drew.alloc (.cells L.toArray 37)) 50 [.slice (some ⟨w.heap.size, 0, none⟩) 1 1, .slice A vs.length c]
  have hs : (w.drew.alloc (.cells L.toArray 37)).heap.size = w.heap.size + 1 := by simp
  rw [hs] at h2
  rw [Nat.zero_add]
  rcases j with _ | _ | j
  · refine ⟨_, _, h2.cellD 0 _ rfl, .inr ⟨w.heap.size, 0, rfl, by simp; omega, ?_⟩⟩
    have h1 := alloc_row w.drew 37 L
    have h3 : RowAt ((w.drew.alloc (.cells L.toArray 37)).alloc (.cells #[.slice (some ⟨w.heap.size, 0, none⟩) 1 1, .slice A vs.length c] 50)) w.heap.size 37 L := RowAt.step h1 (alloc_below _ _)
    intro j v hj
    rw [Nat.zero_add, h3.cell]
    simpa [hL] using hj
  · refine ⟨_, _, h2.cellD 1 _ rfl, ?_⟩
    obtain ⟨g, hA, hbg, hgl, hcell⟩ := hown.cell hv
    refine .inr ⟨g, 0, hA, by simp; omega, fun j v hj => ?_⟩
    have hjl : j < vs.length * 64 := by
      have := (List.getElem?_eq_some_iff.1 hj).1
      simp only [List.getElem?_cons_succ, List.getElem?_cons_zero, Option.getD_some, List.length_map] at this
      rwa [rows_flat vs hvl] at this
    rw [Nat.zero_add, hB.cell hgl, (hcell j).resolve_right (by omega)]
    simpa using hj
  · have : j + 1 + 1 < 2 := hj
    omega

attribute [local go_sem ↓ high] exec_lit1 exec_lblock
attribute [local go_sem ↓] Go.wp_at_zero Go.wp_at_succ

set_option maxRecDepth 100000 in
set_option maxHeartbeats 1000000 in
theorem diskCrash_calls {w : World} {base gd gs : Nat} {D : List Sct} {V : List (Option Addr × Nat)} (h : DiskAt w base gd gs D V) (hD : D.length ≤ 4096) (hm : ∀ i (h : i < D.length), D[i].vers.length ≤ 100000)
    (A : Option Addr) (cap : Nat) (pick : List UInt8) (hp : BytesAt w w.heap.size A pick) (hpc : pick.length ≤ cap) (hcm : cap ≤ maxLen) (hpA : A.map (·.block) ≠ some gs) :
    Calls Try.prog 26 #[.pointer (some ⟨gd, 0, none⟩), .slice A pick.length cap] w fun e w' => (∃ v, e = .returned v) ∧ (∃ V', DiskAt w' base gd gs (crashN D pick) V' ∧ DiskNew w V V') ∧ DiskKeeps w w' gs V := by
  rw [← callsIn_wide (n := 5)]
  refine callsIn_of_wp_marks Try.func26 rfl trivial ?_ rfl
  simp only [Try.ntmps26, List.size_toArray, List.length_cons, List.length_nil, Nat.reduceAdd, Nat.reduceSub, Array.replicate_succ, Array.replicate_zero, List.push_toArray, List.append_toArray, List.nil_append, List.cons_append]
  have hlt := h.lt
  gi_wp2_with (gi_at_call 45; refine (callsIn_wide.2 (loose_calls _ _)).mono ?_; rintro e w' ⟨rfl, rfl⟩)
  have bP := Boxed.new w 32 (.slice A pick.length cap)
  have bD := Boxed.new (w.alloc (.cells #[.slice A pick.length cap] 32)) 25 (.pointer (some ⟨gd, 0, none⟩))
  replace bP := bP.alloc (.cells #[.pointer (some ⟨gd, 0, none⟩)] 25)
  have hB0 := balloc (balloc (brefl w) (.cells #[.slice A pick.length cap] 32)) (.cells #[.pointer (some ⟨gd, 0, none⟩)] 25)
  simp only [World.size_alloc] at bD
  have hsz : ((w.alloc (.cells #[.slice A pick.length cap] 32)).alloc (.cells #[.pointer (some ⟨gd, 0, none⟩)] 25)).heap.size = w.heap.size + 2 := by simp
  refine rangeV rfl (by omega) (gf := 56) (lb := #[.pointer (some ⟨w.heap.size + 1, 0, none⟩)]) rfl trivial (enters_of Try.func56 (by kernel_rfl) rfl)
    (loose_seq _ (by omega) (w.heap.size + 1) base gd gs D hD _) (fun _ _ => trivial)
    (fun W l o o' hl _ _ _ => trivial)
    (fun A B hv => hv.elim) (Below.refl _ _) (fun _ => rfl)
    (fun pre W => Settling w base gd gs D V (fun r x => D[x].pick (pick.drop r)) pre W ∧ Boxed W (w.heap.size + 1) 25 (.pointer (some ⟨gd, 0, none⟩)) ∧
      ∃ A' c' q, Hid (q = pick.drop pre.length) ∧ Boxed W w.heap.size 32 (.slice A' q.length c') ∧ q.length ≤ c' ∧ c' ≤ maxLen ∧ BytesAt w w.heap.size A' q ∧ A'.map (·.block) ≠ some gs)
    (fun _ _ _ => False)
    ?own (fun _ _ _ _ _ hs _ _ => hs) (fun _ _ _ _ hv => hv.elim) (fun _ _ _ _ h _ => h)
    ⟨⟨grown_below hB0 _, V, h.step hB0, VIn.refl V⟩, bD, A, cap, pick, rfl, bP, hpc, hcm, hp, hpA⟩
    (fun pre W ⟨hs, hb, _⟩ => hs.view hb)
    (fun x a _ => a = { tmps := #[.pointer (some ⟨gd, 0, none⟩), .slice A pick.length cap, undef, .pointer (some ⟨w.heap.size, 0, none⟩), undef, .pointer (some ⟨gs, x.val * 65, none⟩), undef, .pointer (some ⟨gd, 0, none⟩), .func (.func 56) #[] #[.pointer (some ⟨w.heap.size + 1, 0, none⟩)], .int .i64 (x.val : Int), .pointer (some ⟨gs, x.val * 65, none⟩), undef, undef, undef, undef, undef, undef, undef, undef, undef, undef, undef, undef, undef, undef, undef, undef, undef, undef, undef, undef, undef, undef, undef, undef, undef, undef, undef, undef, undef, undef, undef, undef], defers := [] }) (fun _ _ _ _ _ _ hs _ _ => hs) ?assign ?body ?done ?stop
  case own =>
    rintro pre X Y row ⟨⟨hgr, V', hd, hV⟩, hbd, A', c', q, hq, hbp, hrest⟩ hg hr
    have hr' : ∀ r, row = some r → ∃ o : Obj, X.heap[r]? = some o ∧ o.isCells = false := fun r e => (hr r e).2
    have hr1 : ∀ r, row = some r → w.heap.size ≤ r := fun r e => by have := (hr r e).1; rw [hsz] at this; omega
    exact ⟨⟨grown_far hgr hg hr1, V', hd.other hV hg hlt.1 (fun k hk => (hlt.2 k hk).2) hr1, hV⟩, hbd.kept hg (boxed_ne hbd hr'), A', c', q, hq, hbp.kept hg (boxed_ne hbp hr'), hrest⟩
  case assign =>
    intro l pre x W K hI hK
    unfold looseArgs
    gi_wp2
    exact hK _ _ (KeepsFrom.refl _ _) trivial hI rfl
  case body =>
    rintro l pre x a' W _ _ ⟨⟨hgr, V', hd, hV⟩, hbd, A', c', q, hq, hbp, hqc, hcm', hqb, hqA⟩ rfl hlen
    have hxl : x.val < (setAll D pre (fun r x => D[x].pick (pick.drop r))).length := by rw [setAll_length]; exact x.isLt
    have hat := Settling.at (f := fun r x => D[x].pick (pick.drop r)) hlen hxl
    obtain ⟨cs, A1, c1, hr, _, hv', hth, hce, hown, hwf⟩ := hd.sector x.val hxl
    rw [hat] at hth hce hown hwf
    have hm1 := hm x.val x.isLt
    have Hxl := Lib.hid hxl
    have Hd := Lib.hid hd
    have hsn := setAll_snoc D pre x (fun r x => D[x].pick (pick.drop r))
    have hgsW := (hd.lt.2 gs (.inl rfl)).2
    have hv0 : 0 < D[x.val].vers.length := List.length_pos_iff.2 hlen.2
    generalize D[x.val] = s at *
    have hc := hbp.cell
    have hf := hbp.frozen
    have hcv := hr.cellD _ _ hce
    have Hth := Lib.hid hth
    have Hce := Lib.hid hce
    have hsnk := Lib.hid hsn
    clear hth hce hat hxl hd hlen hsn
    rcases q with _ | ⟨p, t⟩
    focus
      gi_wp2_with fail
      obtain ⟨W2, hW2, hg2, hbp2⟩ : ∃ W2, W2 = W ∧ W.grownBy W2 (some w.heap.size) ∧ Boxed W2 w.heap.size 32 (.slice A' ([] : List UInt8).length c') := ⟨W, rfl, World.grownBy.refl W _, hbp⟩
      obtain ⟨k, hk0, hk1⟩ : ∃ k : Nat, (0 : Int) = (k : Int) ∧ Hid (s.pick [] = ⟨((s.there :: s.vers)[k]?).getD [], []⟩) := ⟨0, rfl, rfl⟩
      have hk2 : k ≤ s.vers.length := by omega
      have hq3 : Hid (([] : List UInt8) = pick.drop (pre ++ [x]).length) := Lib.hid (by rw [List.length_append, ← List.drop_drop, ← hq.out]; rfl)
      have hpk : Hid (s.pick (pick.drop pre.length) = ⟨((s.there :: s.vers)[k]?).getD [], []⟩) := Lib.hid (by rw [← hq.out]; exact hk1.out)
      rw [← hW2]
      rw [hk0]
      clear hk0 hk1
      obtain ⟨q3, A3, c3, hq4, hbp3, hqc3, hcm3, hqb3, hqA3⟩ : ∃ (q3 : List UInt8) (A3 : Option Addr) (c3 : Nat), Hid (q3 = pick.drop (pre ++ [x]).length) ∧ Boxed W2 w.heap.size 32 (.slice A3 q3.length c3) ∧ q3.length ≤ c3 ∧ c3 ≤ maxLen ∧ BytesAt w w.heap.size A3 q3 ∧ A3.map (·.block) ≠ some gs :=
        ⟨[], A', c', hq3, hbp2, Nat.zero_le _, hcm', .inl rfl, hqA⟩
      clear hq3 hbp2 hqc hqb hbp hc hq hqA hcm'
      have hcv2 : W2.cell? ⟨gs, x.val * 65 + 64, none⟩ = some (.slice A1 s.vers.length c1) := by rw [hW2]; exact hcv
      clear hW2
    rotate_left
    focus
      obtain ⟨ab, hab⟩ : ∃ ab, A' = some ab := by
        rcases hqb with h | ⟨b, off, hA, _⟩
        · cases h
        · exact ⟨_, hA⟩
      subst hab
      obtain ⟨b, off, hA, hbl, hcb⟩ := hqb.resolve_left (by simp)
      injection hA with hA
      subst hA
      have hc0 := hcb 0 (by simp)
      simp only [Nat.add_zero, List.getElem?_cons_zero, Option.getD_some] at hc0
      have hbg : b ≠ gs := fun e => hqA (by rw [e]; rfl)
      have hc1 : W.cell? ⟨b, off, none⟩ = some (B8 p) := by
        rw [← hc0]
        unfold World.cell?
        rw [hgr.block b (by omega) (fun e => hbg (by injection e))]
      have hl0 : (0 : Int) < (t.length : Int) + 1 := by omega
      have hl1 : (t.length : Int) + 1 ≤ (c' : Int) := by simp at hqc; omega
      have hl2 : (1 : Int) ≤ (t.length : Int) + 1 := by omega
      have hl3 : (1 : Int) ≤ (c' : Int) := by omega
      have hp0 : (0 : Int) ≤ (p.toNat : Int) := by omega
      have hz : ((s.vers.length : Int) + 1 == 0) = false := by simp; omega
      obtain ⟨k, hk⟩ : ∃ k, k = p.toNat % (s.vers.length + 1) := ⟨_, rfl⟩
      have hmod : (p.toNat : Int).tmod ((s.vers.length : Int) + 1) = (k : Int) := by
        rw [Int.tmod_eq_emod_of_nonneg hp0, hk]
        exact (Int.natCast_emod p.toNat (s.vers.length + 1)).symm
      have hz2 : ¬ (s.vers.length : Int) + 1 = 0 := by omega
      have hmod2 : (p.toNat : Int) % ((s.vers.length : Int) + 1) = (k : Int) := by
        rw [hk]
        exact (Int.natCast_emod p.toNat (s.vers.length + 1)).symm
      have hwr : IntKind.i64.wrap ((s.vers.length : Int) + 1) = (s.vers.length : Int) + 1 := by rw [IntKind.wrap_i64]; omega
      have hwp : IntKind.i64.wrap (p.toNat : Int) = (p.toNat : Int) := by have := p.toNat_lt; rw [IntKind.wrap_i64]; omega
      have hmb : (s.vers.length : Int) ≤ 100000 := by omega
      replace hk := Lib.hid hk
      gi_wp2_with fail
      refine wpIn_region_still_tail 14 (by kernel_rfl) (by kernel_rfl) (by kernel_rfl) ?_ ?_
      · rintro ⟨a, w, h⟩
        exact h
      simp only [List.take_succ_cons, List.take_zero, List.drop_succ_cons, List.drop_zero]
      repeat still_step
      refine wpStill_nil ?_
      obtain ⟨A2, hA2⟩ : ∃ A2 : Option Addr, A2 = if c' = 1 then some ⟨b, off, none⟩ else some ⟨b, off + 1, none⟩ := ⟨_, rfl⟩
      rw [← hA2]
      have hqA2 : A2.map (·.block) ≠ some gs := by
        rw [hA2]
        split <;> exact hqA
      have hqb2 : BytesAt w w.heap.size A2 t := by
        have h1 := BytesAt.drop (k := 1) (cap := c') (show BytesAt w w.heap.size (some ⟨b, off, none⟩) (p :: t) from .inr ⟨b, off, rfl, hbl, hcb⟩) hqc
        rw [hA2]
        simpa [Addr.add] using h1
      replace hA2 := Lib.hid hA2
      go_wp2_with fail
      obtain ⟨W2, hW2, hg2, hbp2⟩ : ∃ W2, W2 = (W.setCell ⟨w.heap.size, 0, none⟩ (.slice A2 t.length (c' - 1))).drew ∧ W.grownBy W2 (some w.heap.size) ∧ Boxed W2 w.heap.size 32 (.slice A2 t.length (c' - 1)) :=
        ⟨_, rfl, grown_drew (setCell_grown W w.heap.size 0 (.slice A2 t.length (c' - 1))), hbp.set (.slice A2 t.length (c' - 1))⟩
      have hk2 : k ≤ s.vers.length := by
        rw [hk.out]
        exact Nat.lt_succ_iff.1 (Nat.mod_lt _ (by omega))
      have hpk : Hid (s.pick (pick.drop pre.length) = ⟨((s.there :: s.vers)[k]?).getD [], []⟩) := Lib.hid (by rw [← hq.out, hk.out]; rfl)
      rw [← hW2]
      obtain ⟨q3, A3, c3, hq4, hbp3, hqc3, hcm3, hqb3, hqA3⟩ : ∃ (q3 : List UInt8) (A3 : Option Addr) (c3 : Nat), Hid (q3 = pick.drop (pre ++ [x]).length) ∧ Boxed W2 w.heap.size 32 (.slice A3 q3.length c3) ∧ q3.length ≤ c3 ∧ c3 ≤ maxLen ∧ BytesAt w w.heap.size A3 q3 ∧ A3.map (·.block) ≠ some gs :=
        ⟨t, A2, c' - 1, Lib.hid (by rw [List.length_append, ← List.drop_drop, ← hq.out]; rfl), hbp2, by simp at hqc; omega, by omega, hqb2, hqA2⟩
      have hcv2 : W2.cell? ⟨gs, x.val * 65 + 64, none⟩ = some (.slice A1 s.vers.length c1) := by
        rw [hW2]
        show (W.setCell _ _).cell? _ = _
        rw [World.cell?_setCell_other W ⟨w.heap.size, 0, none⟩ ⟨gs, x.val * 65 + 64, none⟩ _ (fun e => by
          have h1 : w.heap.size = gs := by injection e
          have h2 := (hlt.2 gs (.inl rfl)).2
          omega)]
        exact hcv
      clear hW2 hbp2 hqc hqb2 hqA2 hbp hc hq hqA hcm' hA2 hz hmod hz2 hmod2 hwr hwp hmb hk hl0 hl1 hl2 hl3 hp0 hc1 hc0 hbg hcb hbl
    all_goals
      have hgsw := (hlt.2 gs (.inl rfl)).2
      have hr2 : RowAt W2 gs 92 cs := (hg2.block gs hgsW (fun e => by injection e with e; omega)).trans hr
      have hown2 : OwnA W2 base 37 64 A1 c1 s.vers := hown.kept hg2 (.inr (fun e => by
        have := (hlt.2 w.heap.size (hV.owns (.inr ⟨_, List.mem_of_getElem? hv', e⟩))).2
        omega))
      obtain ⟨L, hL⟩ : ∃ L, L = s.there.map B8 := ⟨_, rfl⟩
      have HL := Lib.hid (show L.length = 64 by rw [hL, List.length_map, hwf.1])
      have hl31 : (lblock (.pointer (some ⟨gs, x.val * 65, none⟩))).run Try.prog W2.drew = .ok (.agg L.toArray) W2.drew := run_lblock (fun j v hj => by
        show W2.cell? _ = _
        rw [hr2.cell]
        rw [hL, ← Hth.out, List.getElem?_take] at hj
        split at hj
        · rw [List.getElem?_drop] at hj
          exact hj
        · cases hj) HL.out
      have hlit := fun w => run_lit1 (w := w) HL.out
      have hpt := parts_two hL hown2 hv0 hwf.2
      replace hL := Lib.hid hL
      have hd2 := Hd.out.other hV hg2 hlt.1 (fun k hk => (hlt.2 k hk).2) (fun r e => by cases e; exact Nat.le_refl _)
      have hset : ∀ w' (hb : Below W2.heap.size W2 w') b hb64, _ := fun w' hb b hb64 => settle_calls (hd2.step hb) x.val Hxl.out b hb64
      have Hset := Lib.hid hset
      have Hpt := Lib.hid hpt
      have hwfv := Lib.hid hwf
      have Hown2 := Lib.hid hown2
      have Hr2 := Lib.hid hr2
      have hgs2 := hr2.lt
      have hk3 : (0 : Int) ≤ (k : Int) := by omega
      have hm2 := Lib.hid hm1
      have Hbp3 := Lib.hid hbp3
      clear hset hd2 hpt hr hown hcv hwf hr2 hown2 hL hm1 hbp3 hm hD
      refine wpIn_region_any (by kernel_rfl) (wpAny_round (noDefer_spec (by kernel_rfl)) (by rintro ⟨a, w, h⟩; exact h) _ _ _ _ ?_)
      change wpAny _ _ _ _ _ _ _ (World.drew _)
      refine wpAny_take (i := 0) (v := .pointer (some ⟨gs, x.val * 65, none⟩)) rfl (by kernel_rfl) (by kernel_rfl) (by kernel_rfl) (fun _ _ _ h => h) (Or.inl ⟨by rfl, fun w => by go_simp⟩) ?_
      refine wpAny_take (i := 1) (v := .pointer (some ⟨gs, x.val * 65, none⟩)) rfl (by kernel_rfl) (by kernel_rfl) (by kernel_rfl) (fun _ _ _ h => h) (Or.inl ⟨by rfl, fun w => by go_simp⟩) ?_
      refine wpAny_take (i := 2) (v := .pointer (some ⟨gs, x.val * 65, none⟩)) rfl (by kernel_rfl) (by kernel_rfl) (by kernel_rfl) (fun _ _ _ h => h) (Or.inl ⟨by rfl, fun w => by go_simp⟩) ?_
      refine wpAny_take (i := 3) (v := .pointer (some ⟨gs, x.val * 65, none⟩)) rfl (by kernel_rfl) (by kernel_rfl) (by kernel_rfl) (fun _ _ _ h => h) (Or.inl ⟨by rfl, fun w => by go_simp⟩) ?_
      refine wpAny_take (i := 6) (v := .pointer (some ⟨gs, x.val * 65, none⟩)) rfl (by kernel_rfl) (by kernel_rfl) (by kernel_rfl) (fun _ _ _ h => h) (Or.inl ⟨by rfl, fun w => by go_simp⟩) ?_
      refine wpAny_take (i := 7) (v := .pointer (some ⟨gs, x.val * 65, none⟩)) rfl (by kernel_rfl) (by kernel_rfl) (by kernel_rfl) (fun _ _ _ h => h) (Or.inl ⟨by rfl, fun w => by go_simp⟩) ?_
      refine wpAny_take (i := 8) (v := .pointer (some ⟨gs, x.val * 65 + 64, none⟩)) rfl (by kernel_rfl) (by kernel_rfl) (by kernel_rfl) (fun _ _ _ h => h) (Or.inl ⟨by rfl, fun w => by go_simp⟩) ?_
      refine wpAny_take (i := 12) (v := .int .i64 (k : Int)) rfl (by kernel_rfl) (by kernel_rfl) (by kernel_rfl) (fun _ _ _ h => h) (Or.inl ⟨by rfl, fun w => by go_simp⟩) ?_
      refine wpAny_ready (rs := [4, 9]) (by kernel_rfl) (by simp) (AllReady.cons rfl (fun K hK => ?_) (AllReady.cons rfl (fun K hK => ?_) AllReady.nil))
      focus
        go_simp
        refine hK _ _ ?_
        clear hK K
        refine wpAny_ready (rs := [5, 9]) (by kernel_rfl) (by simp) (AllReady.cons rfl (fun K hK => ?_) (AllReady.cons rfl (fun K hK => ?_) AllReady.nil))
        focus
          go_simp
          refine hK _ _ ?_
          clear hK K
          refine wpAny_ready (rs := [9]) (by kernel_rfl) (by simp) (AllReady.cons rfl (fun K hK => ?_) AllReady.nil)
          go_simp
          refine hK _ _ ?_
          clear hK K
        rotate_left
        focus
          go_simp
          refine hK _ _ ?_
          clear hK K
          refine wpAny_ready (rs := [5]) (by kernel_rfl) (by simp) (AllReady.cons rfl (fun K hK => ?_) AllReady.nil)
          go_simp
          refine hK _ _ ?_
          clear hK K
      rotate_left 2
      focus
        go_simp
        refine hK _ _ ?_
        clear hK K
        refine wpAny_ready (rs := [4]) (by kernel_rfl) (by simp) (AllReady.cons rfl (fun K hK => ?_) AllReady.nil)
        go_simp
        refine hK _ _ ?_
        clear hK K
        refine wpAny_ready (rs := [5]) (by kernel_rfl) (by simp) (AllReady.cons rfl (fun K hK => ?_) AllReady.nil)
        go_simp
        refine hK _ _ ?_
        clear hK K
      all_goals
        refine wpAny_ready (rs := [10]) (by kernel_rfl) (by simp) (AllReady.cons rfl (fun K hK => ?_) AllReady.nil)
        go_simp
        refine hK _ _ ?_
        clear hK K
        refine wpAny_ready (rs := [11]) (by kernel_rfl) (by simp) (AllReady.cons rfl (fun K hK => ?_) AllReady.nil)
        go_simp
        go_wp2_with (go_at_call 47
                     refine (concatA_calls (some ⟨W2.heap.size + 1, 0, none⟩) 2 [[s.there], s.vers] (by simp; have := hm2.out; omega) (by simp; exact ⟨hwfv.out.1, fun e => by rw [e] at hv0; simp at hv0, hwfv.out.2⟩) _ Hpt.out (by simp)).mono ?_
                     rintro e w2 ⟨⟨zs, A9, c9, rfl, hzs, hown9⟩, hB9⟩
                     have hzl : zs = s.there :: s.vers := by rw [hzs]; simp
                     have hkz : k < zs.length := by rw [hzl, List.length_cons]; omega
                     have hz64 : ∀ y ∈ zs, y.length = 64 := by
                       rw [hzl]
                       intro y hy
                       rcases List.mem_cons.1 hy with rfl | hy
                       · exact hwfv.out.1
                       · exact hwfv.out.2 y hy
                     obtain ⟨g9, rfl, hg9, hr9⟩ := hown9.range hz64 k hkz
                     have hzk : s.pick (pick.drop pre.length) = ⟨zs[k], []⟩ := by
                       rw [hpk.out, ← hzl, List.getElem?_eq_getElem hkz]
                       rfl
                     have hb64 : zs[k].length = 64 := hz64 _ (List.getElem_mem hkz)
                     have hkzi : (k : Int) < (zs.length : Int) := by omega
                     have hBx : Below W2.heap.size W2 w2 := bthen (balloc (balloc (brefl W2).drew (.cells L.toArray 37)) (.cells #[.slice (some ⟨W2.heap.size, 0, none⟩) 1 1, .slice A1 s.vers.length c1] 50)) hB9
                     obtain ⟨bb, hbb⟩ : ∃ bb, bb = zs[k] := ⟨_, rfl⟩
                     rw [← hbb] at hr9 hzk hb64
                     have hse := Hset.out w2 hBx bb hb64
                     obtain ⟨L9, hL9⟩ : ∃ L9, L9 = bb.map B8 := ⟨_, rfl⟩
                     have HL9 := Lib.hid (show L9.length = 64 by rw [hL9, List.length_map, hb64])
                     unfold vb at hse
                     rw [← hL9] at hr9 hse
                     have Hse := Lib.hid hse
                     have hl41 : (lblock (.pointer (some ⟨g9, k * 64, none⟩))).run Try.prog w2 = .ok (.agg L9.toArray) w2 := run_lblock hr9 HL9.out
                     have Hzk := Lib.hid hzk
                     clear hzs hzl hkz hz64 hown9 hB9 hr9 hzk hb64 hbb hse hL9)
        refine wpAny_ready (rs := [13]) (by kernel_rfl) (by simp) (AllReady.cons rfl (fun K hK => ?_) AllReady.nil)
        go_simp
        refine hK _ _ ?_
        clear hK K
        refine wpAny_ready (rs := [14]) (by kernel_rfl) (by simp) (AllReady.cons rfl (fun K hK => ?_) AllReady.nil)
        go_simp
        refine hK _ _ ?_
        clear hK K
        refine wpAny_ready (rs := [15]) (by kernel_rfl) (by simp) (AllReady.cons rfl (fun K hK => ?_) AllReady.nil)
        go_simp
        go_wp2_with (go_at_call 46; refine Hse.out.mono ?_; rintro e w3 ⟨⟨v3, rfl⟩, hd3, hg3⟩)
        refine wpAny_done (by kernel_rfl) ?_ _
        have hgW2 : W2.grownBy w3 (some gs) := grown_then (grown_below hBx _) hg3
        refine ⟨(KeepsFrom.of_grownBy hg2 (fun j e => by cases e; rw [hsz]; omega)).trans (KeepsFrom.of_grownBy hgW2 (fun j e => by cases e; rw [hsz]; omega)), trivial, ⟨grown_then (grown_far hgr hg2 (fun r e => by cases e; exact Nat.le_refl _)) hgW2, _, ?_, hV.set x.val 0⟩,
          (hbd.kept hg2 (fun e => by injection e with e; omega)).kept hgW2 (fun e => by injection e with e; omega), A3, c3, q3, hq4, Hbp3.out.kept hgW2 (fun e => by injection e with e; omega), hqc3, hcm3, hqb3, hqA3⟩
        rw [hsnk.out, Hzk.out]
        exact hd3
  case done =>
    rintro D' ys W hD' rfl ⟨⟨hgr, V', hd, hV⟩, _⟩ hK
    have hD1 : w.heap.size ≤ D' := by rw [hsz] at hD'; omega
    rw [setAll_all D (fun r s => s.pick (pick.drop r)), ← crashN_pass] at hd
    have hgr2 := grown_far hgr (shut_grown (o := .deferred none)) (fun r e => by cases e; exact hD1)
    refine endM_n hK (results_none rfl _ _ _) ⟨⟨_, rfl⟩, ⟨V', hd.other hV shut_grown hlt.1 (fun k hk => (hlt.2 k hk).2) (fun r e => by cases e; exact hD1), hV.new⟩, hgr2.size, hgr2.os, hgr2.tape, hgr2.output, fun k hk hno => hgr2.block k hk (fun e => hno (.inl (by injection e)))⟩
  case stop =>
    rintro D' c pre W _ _ h _
    exact h.elim
end Go.Proofs.Ythieeidbfdhaaaa
