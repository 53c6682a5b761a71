/-
  stream.Encode.
-/
import Derived.Test.YtdglkjpdhnnpnaaStrParts
namespace Go.Proofs.Ytdglkjpdhnnpnaa
open Go Go.RowKit Go.Shelf
attribute [local go_sem] Oper.semAt_some wide_fn

/-- What Encode answers. -/
def encR (s : Str) : List UInt8 := if goodB s then encE s else []
def codeE (s : Str) : Int := if goodB s then 0 else 11

theorem parts_seq (m : Nat) (hm : 1 ≤ m) (B0 Bs : Nat) (s : Str) (hg : goodB s = true) (hBs : B0 ≤ Bs) (wp : World) (hrow : RowAt wp Bs 24 s.val) (hrecs : RecsAt wp B0 s.A s.recs) :
    SeqM Fence.wide m Try.prog 47 #[.pointer (some ⟨Bs, 0, none⟩)] encP PieceAt (KpP B0 Bs) (fun A B => Below A.heap.size A B) (fun xs => bytesOf xs = partsB s) (fun _ => True) (s.recs.length + 1) wp := fun l J Jx W hW hJ hJx hY h0 =>
  parts1 m hm l B0 Bs s hg hBs J Jx hJ hJx hY W ((hW.block Bs hrow.lt).trans hrow) (hrecs.below (hW.mono (by have := hrow.lt; omega))) h0

/-- Bytes appended onto what the call owns, and laid into its box. -/
theorem app_own {W w1 : World} {base B : Nat} {A A' : Option Addr} {c c' : Nat} {bs zs : List UInt8} {v : Value} (hbx : Boxed W B 25 v) (hown : OwnB W base 5 A c bs) (hg : W.grownBy w1 (A.map (·.block))) (hown1 : OwnB w1 base 5 A' c' zs) (hB : base ≤ B) (hbase : base ≤ W.heap.size) :
    Boxed w1 B 25 v ∧ Boxed (w1.setCell ⟨B, 0, none⟩ (.slice A' zs.length c')) B 25 (.slice A' zs.length c') ∧ OwnB (w1.setCell ⟨B, 0, none⟩ (.slice A' zs.length c')) base 5 A' c' zs ∧ KeepsOthers W (w1.setCell ⟨B, 0, none⟩ (.slice A' zs.length c')) ∧
      Below base W (w1.setCell ⟨B, 0, none⟩ (.slice A' zs.length c')) ∧ ∀ g t cs, t ≠ 5 → t ≠ 25 → RowAt W g t cs → RowAt (w1.setCell ⟨B, 0, none⟩ (.slice A' zs.length c')) g t cs := by
  have hne := hown.apart hbx (by decide)
  have hv1 := hbx.kept hg (fun e => hne e.symm)
  have hrow : ∀ j, A.map (·.block) = some j → ∃ cs, W.heap[j]? = some (.cells cs 5 (0, 0)) := by
    intro j hj
    rcases hown.2 with ⟨hv, _⟩ | ⟨g, cap, cur, hv, _, hgb, _⟩
    · injection hv with hA _ _
      rw [hA] at hj
      cases hj
    · injection hv with hA _ _
      rw [hA] at hj
      cases hj
      exact ⟨_, hgb⟩
  refine ⟨hv1, hv1.set _, hown1.kept (grownBy_setCell' _ _ _) (.inr (hown1.apart hv1 (by decide))), ?_, ?_, ?_⟩
  · refine (KeepsOthers.of_grownBy hg fun j o ej hj => ?_).trans (KeepsOthers.setCell _ _ _)
    obtain ⟨cs, h⟩ := hrow j ej
    rw [h] at hj
    cases hj
    rfl
  · exact ((Below.refl base W).grown hg hbase fun j ej => (hown.lt j ej).1).setCell (p := ⟨B, 0, none⟩) hB _
  · intro g t cs h1 h2 hr
    have hr1 : RowAt w1 g t cs := hr.kept hg (fun e => by
      obtain ⟨cs', h⟩ := hrow g e
      have h3 : W.heap[g]? = some (.cells cs.toArray t (0, 0)) := hr
      rw [h3] at h
      injection h with h
      injection h with _ h _
      exact h1 h)
    refine hr1.kept (grownBy_setCell' _ _ _) (fun e => ?_)
    injection e with e
    subst e
    have h3 : w1.heap[B]? = some (.cells cs.toArray t (0, 0)) := hr1
    rw [show w1.heap[B]? = _ from hv1] at h3
    injection h3 with h3
    injection h3 with _ h3 _
    exact h2 h3.symm

theorem encode_no (s : Str) (w : World) (hok : s.Ok w w.heap.size) (hg : goodB s = false) :
    Calls Try.prog 14 #[.agg s.val.toArray] w fun e w' => e = .returned (.tuple #[.slice none 0 0, .int .i64 11]) ∧ Below w.heap.size w w' := by
  have hgc := fun w1 (hB : Below w.heap.size w w1) => good_calls s w1 (hok.step hB)
  rw [hg] at hgc
  replace hgc := Lib.hid hgc
  clear hg hok
  go_enter Try.func14, Try.ntmps14
  unfold Str.val at *
  go_wp2_with (first
    | (refine wpList_box_row 1 rfl 24 _ rfl [.int .i64 s.blocks, .int .i64 s.base, .int .i64 s.id, .slice s.A s.recs.length s.cap] rfl rfl ?_; intro w1 hrs hs1 hB1; clear hs1)
    | (refine wpList_load_part 6 rfl 24 (.tmp 1) rfl hrs 0 4 [.int .i64 s.blocks, .int .i64 s.base, .int .i64 s.id, .slice s.A s.recs.length s.cap] rfl rfl rfl rfl Try.isAgg24 Try.sizeOf24 ?_)
    | (go_at_call 16; refine (hgc.out w1 hB1).mono ?_; rintro e w2 ⟨rfl, hB2⟩))
  go_ret2
  exact ⟨rfl, bthen hB1 hB2⟩

/-- The ends other than the normal one left out. -/
def onlyN (Q : Exit → Act → World → Prop) : Exit → Act → World → Prop
  | .normal, a, w => Q .normal a w
  | _, _, _ => False
theorem wpIn_onlyN {F : Fence} {n : Nat} {P : Program} {Q : Exit → Act → World → Prop} {c : Code} {a : Act} {w : World} (h : c.wpIn F n P (onlyN Q) a w) : c.wpIn F n P Q a w :=
  wpIn_mono h fun e a w h => by cases e <;> first | exact h | exact h.elim
/-- The parts of the whole. -/
def encP3 (s : Str) : List (List UInt8) := [bodyE s, [0x45], bytesN (check (bodyE s)) 8]
theorem encP3_flat (s : Str) : (encP3 s).flatten = encE s := by simp [encP3, encE]
theorem partsB_flat (s : Str) : (partsB s).flatten = bodyE s := by simp [partsB, bodyE]
theorem encP3_at (s : Str) (W : World) (A0 A1 A2 : Option Addr) (n k0 k1 k2 : Nat) (bs : List UInt8) (hb : bs = bodyE s) (hn : bs.length = n) (h0 : BytesAt W W.heap.size A0 bs) (h1 : BytesAt W W.heap.size A1 [0x45]) (h2 : BytesAt W W.heap.size A2 (bytesN (check bs) 8)) :
    ∃ W', W' = W.alloc (.cells #[.slice A0 n k0, .slice A1 1 k1, .slice A2 8 k2] 25) ∧ PartsAt W' W'.heap.size (some ⟨W.heap.size, 0, none⟩) (encP3 s) ∧ Below W.heap.size W W' := by
  subst hb hn
  refine ⟨_, rfl, lit_parts W 25 [(A0, _, k0, bodyE s), (A1, 1, k1, [0x45]), (A2, 8, k2, bytesN (check (bodyE s)) 8)] ?_, alloc_below W _⟩
  intro x hx
  simp only [List.mem_cons, List.not_mem_nil, or_false] at hx
  rcases hx with rfl | rfl | rfl
  · exact ⟨h0, rfl⟩
  · exact ⟨h1, rfl⟩
  · exact ⟨h2, bytesN_length _ _⟩
theorem bytesOf_len (l : List Piece) (h : ∀ x ∈ l, x.2.2.length ≤ 5000) : (bytesOf l).flatten.length ≤ 5000 * l.length := by
  induction l with
  | nil => exact Nat.zero_le _
  | cons x l ih =>
    have h1 := h x (by simp)
    have h2 := ih (fun y hy => h y (by simp [hy]))
    simp only [bytesOf, List.map_cons, List.flatten_cons, List.length_append, List.length_cons] at *
    omega

theorem flat_most (k : Nat) : ∀ l : List (List UInt8), (∀ x ∈ l, x.length ≤ k) → l.flatten.length ≤ k * l.length
  | [], _ => Nat.zero_le _
  | x :: l, h => by
    have h1 := h x (by simp)
    have h2 := flat_most k l (fun y hy => h y (by simp [hy]))
    rw [List.flatten_cons, List.length_append, List.length_cons, Nat.mul_add]
    omega
theorem body_len {s : Str} (hg : goodB s = true) : (bodyE s).length ≤ 300000 := by
  have h1 := good_many hg
  have h2 := flat_most 4109 (s.recs.map recE) (fun x hx => by
    obtain ⟨r, hr, rfl⟩ := List.mem_map.1 hx
    have := (good_data hg r hr).1
    rw [recE_length]
    omega)
  rw [List.length_map] at h2
  unfold bodyE
  rw [List.length_append, headE_length]
  omega

set_option maxRecDepth 100000 in
set_option maxHeartbeats 8000000 in
theorem encode_yes (s : Str) (w : World) (hok : s.Ok w w.heap.size) (hg : goodB s = true) :
    Calls Try.prog 14 #[.agg s.val.toArray] w fun e w' => ∃ zs A c, e = .returned (.tuple #[.slice A zs.length c, .int .i64 0]) ∧ Hid (zs = encE s) ∧ OwnB w' w.heap.size 5 A c zs ∧ Below w.heap.size w w' := by
  have hgc := fun w1 (hB : Below w.heap.size w w1) => good_calls s w1 (hok.step hB)
  rw [hg] at hgc
  replace hgc := Lib.hid hgc
  have hrecs := hok.recs
  have hmany := good_many hg
  clear hok
  rw [← callsIn_wide (n := 5)]
  refine callsIn_of_wp_marks Try.func14 rfl trivial ?_ rfl
  simp only [Try.ntmps14, List.size_toArray, List.length_cons, List.length_nil, Nat.reduceAdd, Nat.reduceSub, Array.replicate_succ, Array.replicate_zero, List.push_toArray, List.append_toArray, List.nil_append, List.cons_append]
  have hr1 := alloc_row w 24 s.val
  have hB1 := alloc_below w (.cells s.val.toArray 24)
  have hpc := fun W => parts_calls s W
  unfold Str.val at *
  gi_wp2_with (first
    | (refine wpListIn_load_part (fun _ => trivial) 6 rfl 24 (.tmp 1) rfl hr1 0 4 [.int .i64 s.blocks, .int .i64 s.base, .int .i64 s.id, .slice s.A s.recs.length s.cap] rfl rfl rfl rfl Try.isAgg24 Try.sizeOf24 ?_)
    | (gi_at_call 16
       refine (callsIn_wide.2 (hgc.out _ hB1)).mono ?_
       rintro e w2 ⟨rfl, hB2⟩
       have hr2 := (hr1.step hB2).step (alloc_below w2 (.cells #[.slice none 0 0] 25)))
    | (refine wpListIn_load_part (fun _ => trivial) 9 rfl 24 (.tmp 1) rfl hr2 0 4 [.int .i64 s.blocks, .int .i64 s.base, .int .i64 s.id, .slice s.A s.recs.length s.cap] rfl rfl rfl rfl Try.isAgg24 Try.sizeOf24 ?_)
    | (gi_at_call 29
       refine (callsIn_wide.2 (hpc _)).mono ?_
       rintro e w3 ⟨rfl, rfl⟩))
  have hB3 := bthen hB1 hB2
  clear hgc hr1 hr2 hpc
  have bO := (Boxed.new w2 25 (.slice none 0 0)).alloc (.cells #[.int .i64 s.blocks, .int .i64 s.base, .int .i64 s.id, .slice s.A s.recs.length s.cap] 24)
  have hB4 := balloc (balloc hB3 (.cells #[.slice none 0 0] 25)) (.cells #[.int .i64 s.blocks, .int .i64 s.base, .int .i64 s.id, .slice s.A s.recs.length s.cap] 24)
  have hrS := alloc_row (w2.alloc (.cells #[.slice none 0 0] 25)) 24 [.int .i64 s.blocks, .int .i64 s.base, .int .i64 s.id, .slice s.A s.recs.length s.cap]
  have hsz : ((w2.alloc (.cells #[.slice none 0 0] 25)).alloc (.cells #[.int .i64 s.blocks, .int .i64 s.base, .int .i64 s.id, .slice s.A s.recs.length s.cap] 24)).heap.size = w2.heap.size + 2 := by simp
  have hw2 : w.heap.size ≤ w2.heap.size := hB3.size
  simp only [World.size_alloc] at hrS ⊢
  refine rangeM rfl (by omega) (gf := 47) (lb := #[.pointer (some ⟨w2.heap.size + 1, 0, none⟩)]) rfl trivial (enters_of Try.func47 (by kernel_rfl) rfl)
    (parts_seq _ (by omega) w.heap.size (w2.heap.size + 1) s hg (by omega) _ hrS (hrecs.below hB4)) (fun h k => ⟨h.1.trans k.1, k.2.1.trans h.2.1, fun g cs hr => k.2.2 g cs (h.2.2 g cs hr)⟩)
    (fun W l o o' hl hlo hoc _ => ⟨(Below.refl _ _).grown (grownBy_putObj' W l o') (by have := (Array.getElem?_eq_some_iff.1 hlo).1; omega) (fun k e => by cases e; omega), World.putObj_heap_other (by omega), fun g cs hr => hr.kept (grownBy_putObj' W l o') (fun e => by cases e; rw [show W.heap[l]? = _ from hr] at hlo; cases hlo; cases hoc)⟩)
    (fun A B h => ⟨h.size, fun k o _ hk _ => (h.block k (Array.getElem?_eq_some_iff.1 hk).1).trans hk⟩) (Below.refl _ _) (fun _ => rfl)
    (fun pre W => ∃ A c zs, Boxed W w2.heap.size 25 (.slice A zs.length c) ∧ Hid (zs = (bytesOf pre).flatten) ∧ zs.length ≤ 5000 * pre.length ∧ OwnB W w.heap.size 5 A c zs ∧ Below w.heap.size w W ∧ w2.heap.size + 2 ≤ W.heap.size ∧ RowAt W (w2.heap.size + 1) 24 [.int .i64 s.blocks, .int .i64 s.base, .int .i64 s.id, .slice s.A s.recs.length s.cap])
    (fun _ _ _ => False)
    ?own (fun _ _ _ _ _ hs _ _ => hs) ?rel (fun _ _ _ h => h)
    ⟨none, 0, [], bO, Lib.hid rfl, Nat.zero_le _, OwnB.nil _ _ _, hB4, by omega, hrS⟩
    (fun x a' W => a' = { tmps := #[.agg #[.int .i64 s.blocks, .int .i64 s.base, .int .i64 s.id, .slice s.A s.recs.length s.cap], .pointer (some ⟨w.heap.size, 0, none⟩), .slice none 0 0, .int .i64 0, .pointer (some ⟨w2.heap.size, 0, none⟩), .slice x.1 x.2.2.length x.2.1, .agg #[.int .i64 s.blocks, .int .i64 s.base, .int .i64 s.id, .slice s.A s.recs.length s.cap], .bool true, .bool false, .agg #[.int .i64 s.blocks, .int .i64 s.base, .int .i64 s.id, .slice s.A s.recs.length s.cap], .func (.func 47) #[] #[.pointer (some ⟨w2.heap.size + 1, 0, none⟩)], .slice x.1 x.2.2.length x.2.1, undef, undef, undef, undef, undef, undef, undef, undef, undef, undef], defers := [] } ∧ PieceAt x W) ?ownA ?assign ?body ?done ?stop
  case own =>
    rintro pre X Y row ⟨A, c, zs, hbx, hz, hl, hown, hB, hs, hrS⟩ hg hr
    have hr' : ∀ r, row = some r → ∃ o : Obj, X.heap[r]? = some o ∧ o.isCells = false := fun r e => (hr r e).2
    exact ⟨A, c, zs, hbx.kept hg (boxed_ne hbx hr'), hz, hl, hown.other hg hr', hB.grown hg hB.size (fun k e => by have := (hr k e).1; rw [hsz] at this; omega), Nat.le_trans hs hg.size,
      hrS.kept hg (fun e => by obtain ⟨o, ho, hc⟩ := hr' _ e; rw [show X.heap[_]? = _ from hrS] at ho; cases ho; cases hc)⟩
  case rel =>
    rintro pre X Y ⟨A, c, zs, hbx, hz, hl, hown, hB, hs, hrS⟩ h
    exact ⟨A, c, zs, (h.block _ hbx.lt).trans hbx, hz, hl, hown.below h (Nat.le_refl _), bthen hB h, Nat.le_trans hs h.size, hrS.step h⟩
  case ownA =>
    rintro x a' _ X Y row ⟨ha, hb, hl⟩ hg hr
    refine ⟨ha, ?_, hl⟩
    rcases hb with hb | ⟨b, o, hA, hlt, hc⟩
    · exact .inl hb
    · refine .inr ⟨b, o, hA, by have := hg.size; omega, fun j hj => ?_⟩
      rw [World.cell?_of_block (a := ⟨b, o + j, none⟩) (hg.block b hlt (fun e => ?_))]
      · exact hc j hj
      · obtain ⟨ob, ho, hoc⟩ := (hr b e.symm).2
        have hcj := hc j hj
        unfold World.cell? at hcj
        rw [ho] at hcj
        cases ob <;> simp [Obj.isCells] at hoc hcj
  case assign =>
    intro l pre x W K hI hM hK
    have hfin := hK _ W (KeepsFrom.refl _ _) ⟨Below.refl _ _, rfl, fun _ _ h => h⟩ hI ⟨rfl, hM⟩
    unfold encP
    gi_wp2
    exact hfin
  case body =>
    rintro l pre x a' W _ _ ⟨A, c, zs, hbx, hz, hl, hown, hB, hs, hrS⟩ ⟨rfl, hxb, hxl⟩ hlen
    have hcell := hbx.cell
    have hbW : w.heap.size ≤ W.heap.size := hB.size
    have hlz : zs.length ≤ 400000 := by omega
    gi_wp2_with (gi_at_builtin; refine wpListIn_app hbW rfl _ _ 25 rfl Try.underlying25 Try.info_byte hown x.2.1 hxb (by rfl) (by rfl) (by omega) ?_)
    intro zs' A' c' w1 hz1 hown1 hg1 _
    obtain ⟨hb1, hb2, hr2, hk2, hB2, hrows⟩ := app_own hbx hown hg1 hown1 hw2 hbW
    have hc1 := hb1.cell
    have hf1 := hb1.frozen
    gi_wp2
    refine ⟨hk2.from _, ⟨hB2, (hrows _ _ _ (by decide) (by decide) hrS).trans hrS.symm, fun g cs hr => hrows g _ cs (by decide) (by decide) hr⟩, A', c', zs', hb2, ?_, ?_, hr2, hB.trans hB2, Nat.le_trans hs hk2.size, hrows _ _ _ (by decide) (by decide) hrS⟩
    · exact Lib.hid (by rw [hz1.out, hz.out, bytesOf_snoc]; simp)
    · rw [hz1.out, List.length_append, List.length_append, List.length_singleton]
      omega
  case done =>
    rintro D xs W hD hxs ⟨A, c, zs, hbx, hz, hl, hown, hB, hs, hrS⟩ hK
    have hzb := Lib.hid (show zs = bodyE s by rw [hz.out, hxs, partsB_flat])
    have hcb := hbx.cell
    have hzl := Lib.hid (show zs.length ≤ 140737488351232 by rw [hzb.out]; have := body_len hg; omega)
    have hel := Lib.hid (show (encP3 s).flatten.length ≤ 1000000 by rw [encP3_flat, encE_length]; have := body_len hg; omega)
    clear hz hl hg hrecs hmany hrS hbx
    gi_upto_region 7 with fail
    have d0 : Since W W.drew := (Since.refl W).drew
    have hzb0 := hown.bytes.step d0
    refine wpIn_onlyN ?_
    refine wpIn_region_H (fun X => X.cell? ⟨w2.heap.size, 0, none⟩ = some (.slice A zs.length c)) 9 rfl (by kernel_rfl) ?_
    -- <held1
    refine whi_take 0 (.slice A zs.length c) rfl (by kernel_rfl) (by kernel_rfl) (fun _ _ _ h => h) (by kernel_rfl) (fun _ h => exec_load_cell 25 (.tmp 4) rfl ⟨w2.heap.size, 0, none⟩ _ (by kernel_rfl) h Try.isAgg25) ?_
    refine whi_take 2 (.slice A zs.length c) rfl (by kernel_rfl) (by kernel_rfl) (fun _ _ _ h => h) (by kernel_rfl) (fun _ h => exec_load_cell 25 (.tmp 4) rfl ⟨w2.heap.size, 0, none⟩ _ (by kernel_rfl) h Try.isAgg25) ?_
    refine whi_two 1 3 (by kernel_rfl) (d0.cell hcb) ?_ ?_
    · obtain ⟨W1, hw1, gl, hb1⟩ := lit_run W.drew 5 #[.int .u8 69] [0x45] rfl
      refine woi_run 1 (v := .slice (some ⟨W.drew.heap.size, 0, none⟩) 1 1) (w' := W1) rfl (by kernel_rfl) (by rw [hw1]; kernel_rfl) ?_
      have d1 := d0.then_ hb1
      have fb_1 := hzb0.step hb1
      refine whi_one 3 (by kernel_rfl) (d1.cell hcb) ?_
      refine woi_call 3 32 #[.slice A zs.length c] rfl (by kernel_rfl) (fun _ => by kernel_rfl) ?_
      refine (check_calls A c zs hzl.out _ fb_1).mono ?_
      rintro e W2 ⟨rfl, hb2⟩
      have d2 := d1.then_ hb2
      have fb_2 := fb_1.step hb2
      have fl_2 := gl.step hb2
      refine ⟨_, rfl, ?_⟩
      refine whi_one 4 (by kernel_rfl) (d2.cell hcb) ?_
      refine woi_call 4 31 #[.int .u64 ((check zs).toNat : Int), .int .i64 8] rfl (by kernel_rfl) (fun _ => by kernel_rfl) ?_
      refine (put_b _ (check zs) 8 rfl (by omega) (by omega) _).mono ?_
      rintro e W3 ⟨Ap, cp, rfl, gp, hb3⟩
      have d3 := d2.then_ hb3
      have fb_3 := fb_2.step hb3
      have fl_3 := fl_2.step hb3
      refine ⟨_, rfl, ?_⟩
      obtain ⟨W4, hw4, hpt, hb4⟩ := encP3_at s W3 A _ _ zs.length c 1 cp zs hzb.out rfl fb_3 fl_3 gp
      refine whi_one 5 (by kernel_rfl) (d3.cell hcb) ?_
      refine woi_run 5 (v := .slice (some ⟨W3.heap.size, 0, none⟩) 3 3) (w' := W4) rfl (by kernel_rfl) (by rw [hw4]; kernel_rfl) ?_
      have d4 := d3.then_ hb4
      refine whi_one 6 (by kernel_rfl) (d4.cell hcb) ?_
      refine woi_call 6 30 #[.slice (some ⟨W3.heap.size, 0, none⟩) 3 3] rfl (by kernel_rfl) (fun _ => by kernel_rfl) ?_
      refine (concat_b (w := W) _ 3 3 (encP3 s) rfl hel.out (by decide) d4 hpt).mono ?_
      rintro e W5 ⟨ys, Az, cz, rfl, hys, hownz, hbz⟩
      have d5 : Since W W5 := hbz
      rw [encP3_flat] at hys
      refine ⟨_, rfl, ?_⟩
      refine whi_take 7 (.slice Az ys.length cz) rfl (by kernel_rfl) (by kernel_rfl) (fun _ _ _ h => h) (by kernel_rfl) (fun _ _ => by kernel_rfl) ?_
      refine whi_take 8 (.int .i64 0) rfl (by kernel_rfl) (by kernel_rfl) (fun _ _ _ h => h) (by kernel_rfl) (fun _ _ => by kernel_rfl) ?_
      refine whi_done (by kernel_rfl) (d5.cell hcb) ?_
      simp only [onlyN, Act.put, List.setIfInBounds_toArray, List.set_cons_zero, List.set_cons_succ]
      gi_wp2
      have hKz := (hbz.block D (Array.getElem?_eq_some_iff.1 hK).1).trans hK
      exact endM hKz (results_tmp2 rfl _ _ _) ⟨ys, Az, cz, rfl, hys, (hownz.mono hB.size).other shut_grown (fun r e => by cases e; exact ⟨_, hKz, rfl⟩), below_shut (bthen hB hbz) (by omega) hKz⟩
    · refine woi_call 3 32 #[.slice A zs.length c] rfl (by kernel_rfl) (fun _ => by kernel_rfl) ?_
      refine (check_calls A c zs hzl.out _ hzb0).mono ?_
      rintro e W1 ⟨rfl, hb1⟩
      have d1 := d0.then_ hb1
      have fb_1 := hzb0.step hb1
      refine ⟨_, rfl, ?_⟩
      refine whi_two 1 4 (by kernel_rfl) (d1.cell hcb) ?_ ?_
      · obtain ⟨W2, hw2, gl, hb2⟩ := lit_run W1 5 #[.int .u8 69] [0x45] rfl
        refine woi_run 1 (v := .slice (some ⟨W1.heap.size, 0, none⟩) 1 1) (w' := W2) rfl (by kernel_rfl) (by rw [hw2]; kernel_rfl) ?_
        have d2 := d1.then_ hb2
        have fb_2 := fb_1.step hb2
        refine whi_one 4 (by kernel_rfl) (d2.cell hcb) ?_
        refine woi_call 4 31 #[.int .u64 ((check zs).toNat : Int), .int .i64 8] rfl (by kernel_rfl) (fun _ => by kernel_rfl) ?_
        refine (put_b _ (check zs) 8 rfl (by omega) (by omega) _).mono ?_
        rintro e W3 ⟨Ap, cp, rfl, gp, hb3⟩
        have d3 := d2.then_ hb3
        have fb_3 := fb_2.step hb3
        have fl_3 := gl.step hb3
        refine ⟨_, rfl, ?_⟩
        obtain ⟨W4, hw4, hpt, hb4⟩ := encP3_at s W3 A _ _ zs.length c 1 cp zs hzb.out rfl fb_3 fl_3 gp
        refine whi_one 5 (by kernel_rfl) (d3.cell hcb) ?_
        refine woi_run 5 (v := .slice (some ⟨W3.heap.size, 0, none⟩) 3 3) (w' := W4) rfl (by kernel_rfl) (by rw [hw4]; kernel_rfl) ?_
        have d4 := d3.then_ hb4
        refine whi_one 6 (by kernel_rfl) (d4.cell hcb) ?_
        refine woi_call 6 30 #[.slice (some ⟨W3.heap.size, 0, none⟩) 3 3] rfl (by kernel_rfl) (fun _ => by kernel_rfl) ?_
        refine (concat_b (w := W) _ 3 3 (encP3 s) rfl hel.out (by decide) d4 hpt).mono ?_
        rintro e W5 ⟨ys, Az, cz, rfl, hys, hownz, hbz⟩
        have d5 : Since W W5 := hbz
        rw [encP3_flat] at hys
        refine ⟨_, rfl, ?_⟩
        refine whi_take 7 (.slice Az ys.length cz) rfl (by kernel_rfl) (by kernel_rfl) (fun _ _ _ h => h) (by kernel_rfl) (fun _ _ => by kernel_rfl) ?_
        refine whi_take 8 (.int .i64 0) rfl (by kernel_rfl) (by kernel_rfl) (fun _ _ _ h => h) (by kernel_rfl) (fun _ _ => by kernel_rfl) ?_
        refine whi_done (by kernel_rfl) (d5.cell hcb) ?_
        simp only [onlyN, Act.put, List.setIfInBounds_toArray, List.set_cons_zero, List.set_cons_succ]
        gi_wp2
        have hKz := (hbz.block D (Array.getElem?_eq_some_iff.1 hK).1).trans hK
        exact endM hKz (results_tmp2 rfl _ _ _) ⟨ys, Az, cz, rfl, hys, (hownz.mono hB.size).other shut_grown (fun r e => by cases e; exact ⟨_, hKz, rfl⟩), below_shut (bthen hB hbz) (by omega) hKz⟩
      · refine woi_call 4 31 #[.int .u64 ((check zs).toNat : Int), .int .i64 8] rfl (by kernel_rfl) (fun _ => by kernel_rfl) ?_
        refine (put_b _ (check zs) 8 rfl (by omega) (by omega) _).mono ?_
        rintro e W2 ⟨Ap, cp, rfl, gp, hb2⟩
        have d2 := d1.then_ hb2
        have fb_2 := fb_1.step hb2
        refine ⟨_, rfl, ?_⟩
        obtain ⟨W3, hw3, gl, hb3⟩ := lit_run W2 5 #[.int .u8 69] [0x45] rfl
        refine whi_one 1 (by kernel_rfl) (d2.cell hcb) ?_
        refine woi_run 1 (v := .slice (some ⟨W2.heap.size, 0, none⟩) 1 1) (w' := W3) rfl (by kernel_rfl) (by rw [hw3]; kernel_rfl) ?_
        have d3 := d2.then_ hb3
        have fb_3 := fb_2.step hb3
        have fp_3 := gp.step hb3
        obtain ⟨W4, hw4, hpt, hb4⟩ := encP3_at s W3 A _ _ zs.length c 1 cp zs hzb.out rfl fb_3 gl fp_3
        refine whi_one 5 (by kernel_rfl) (d3.cell hcb) ?_
        refine woi_run 5 (v := .slice (some ⟨W3.heap.size, 0, none⟩) 3 3) (w' := W4) rfl (by kernel_rfl) (by rw [hw4]; kernel_rfl) ?_
        have d4 := d3.then_ hb4
        refine whi_one 6 (by kernel_rfl) (d4.cell hcb) ?_
        refine woi_call 6 30 #[.slice (some ⟨W3.heap.size, 0, none⟩) 3 3] rfl (by kernel_rfl) (fun _ => by kernel_rfl) ?_
        refine (concat_b (w := W) _ 3 3 (encP3 s) rfl hel.out (by decide) d4 hpt).mono ?_
        rintro e W5 ⟨ys, Az, cz, rfl, hys, hownz, hbz⟩
        have d5 : Since W W5 := hbz
        rw [encP3_flat] at hys
        refine ⟨_, rfl, ?_⟩
        refine whi_take 7 (.slice Az ys.length cz) rfl (by kernel_rfl) (by kernel_rfl) (fun _ _ _ h => h) (by kernel_rfl) (fun _ _ => by kernel_rfl) ?_
        refine whi_take 8 (.int .i64 0) rfl (by kernel_rfl) (by kernel_rfl) (fun _ _ _ h => h) (by kernel_rfl) (fun _ _ => by kernel_rfl) ?_
        refine whi_done (by kernel_rfl) (d5.cell hcb) ?_
        simp only [onlyN, Act.put, List.setIfInBounds_toArray, List.set_cons_zero, List.set_cons_succ]
        gi_wp2
        have hKz := (hbz.block D (Array.getElem?_eq_some_iff.1 hK).1).trans hK
        exact endM hKz (results_tmp2 rfl _ _ _) ⟨ys, Az, cz, rfl, hys, (hownz.mono hB.size).other shut_grown (fun r e => by cases e; exact ⟨_, hKz, rfl⟩), below_shut (bthen hB hbz) (by omega) hKz⟩
    -- held1>
  case stop =>
    rintro D c pre W _ _ h
    exact h.elim

theorem encode_calls (s : Str) (w : World) (hok : s.Ok w w.heap.size) :
    Calls Try.prog 14 #[.agg s.val.toArray] w fun e w' => ∃ zs A c, e = .returned (.tuple #[.slice A zs.length c, .int .i64 (codeE s)]) ∧ Hid (zs = encR s) ∧ OwnB w' w.heap.size 5 A c zs ∧ Below w.heap.size w w' := by
  unfold codeE encR
  cases hg : goodB s
  · refine (encode_no s w hok hg).mono ?_
    rintro e w' ⟨rfl, hB⟩
    exact ⟨[], none, 0, rfl, Lib.hid rfl, OwnB.nil _ _ _, hB⟩
  · exact encode_yes s w hok hg
end Go.Proofs.Ytdglkjpdhnnpnaa
