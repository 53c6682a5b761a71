/-
  Package stream: data.
-/
import Derived.Test.YtdglkjpdhnnpnaaStrGood
import Derived.Test.YtdglkjpdhnnpnaaChunk
namespace Go.Proofs.Ytdglkjpdhnnpnaa
open Go Go.RowKit Go.Shelf
attribute [local go_sem] Oper.semAt_some wide_fn

theorem results_one {P : Program} {fn : Func} {p : Tmp} {ty : TypeId} (h : fn.results = #[.cell p ty]) (tmps : Array Value) (w : World) (g : Nat) (v : Value) (hp : tmps.getD p undef = .pointer (some ⟨g, 0, none⟩)) (hc : w.cell? ⟨g, 0, none⟩ = some v) (ha : ∀ w, (isAgg ty).run P w = .ok false w) :
    (results fn tmps).run P w = .ok v w := by
  have hp' : tmps[p]?.getD undef = .pointer (some ⟨g, 0, none⟩) := by simpa using hp
  simp [results, h, hp', asAddr, loadVar, ha, hc]

theorem data_short (r : Rec) (w : World) (h1 : 1 ≤ r.ct) (h2 : r.ct ≤ 64) (hl : r.data.length ≤ r.cap) (hm : r.cap ≤ maxLen) (hz : r.zs = true ∨ (r.data.length : Int) ≠ r.ct * 64) :
    Calls Try.prog 53 #[.agg r.val.toArray] w fun e w' => e = .returned (.bool (dataB r)) ∧ Below w.heap.size w w' := by
  have hcell := fun b => alloc_row (w.alloc (.cells r.val.toArray 39)) 4 [.bool b]
  have hB := fun b => balloc (balloc (brefl w) (.cells r.val.toArray 39)) (.cells #[.bool b] 4)
  unfold Rec.val at *
  unfold maxLen at hm
  obtain ⟨rf, rc, rz, rA, rcap, rd⟩ := r
  simp only at *
  have hl9 : rd.length ≤ 9223372036854775807 := by omega
  cases rz
  · have hne := hz.resolve_left (by decide)
    have hd : ((rd.length : Int) == rc * 64) = false := beq_eq_false_iff_ne.2 hne
    have hr : dataB ⟨rf, rc, false, rA, rcap, rd⟩ = false := by
      show (((rd.length : Int) == rc * 64) && _) = false
      rw [hd]
      rfl
    replace hr := Lib.hid hr
    have hcb := hcell false
    have hBb := hB false
    clear hz hne hcell hB
    go_enter Try.func53, Try.ntmps53
    go_wp2_with fail
    refine bodyPost_ret (v := .bool false) (results_one rfl _ _ (w.heap.size + 1) _ rfl ?_ Try.isAgg4) rfl ⟨ret_bool hr.out.symm, hBb⟩
    have := hcb.cellD 0 _ rfl
    rw [World.size_alloc] at this
    exact this
  · have hr : dataB ⟨rf, rc, true, rA, rcap, rd⟩ = (rd.length == 0) := rfl
    by_cases h0 : rd.length = 0
    · have hr0 := Lib.hid (show dataB ⟨rf, rc, true, rA, rcap, rd⟩ = true by rw [hr, h0]; rfl)
      have hcb := hcell true
      have hBb := hB true
      clear hz hcell hB hr
      rw [h0] at hcb hBb ⊢
      go_enter Try.func53, Try.ntmps53
      go_wp2_with fail
      refine bodyPost_ret (v := .bool true) (results_one rfl _ _ (w.heap.size + 1) _ rfl ?_ Try.isAgg4) rfl ⟨ret_bool hr0.out.symm, hBb⟩
      have := hcb.cellD 0 _ rfl
      rw [World.size_alloc] at this
      exact this
    · have hr0 := Lib.hid (show dataB ⟨rf, rc, true, rA, rcap, rd⟩ = false by rw [hr]; exact beq_eq_false_iff_ne.2 h0)
      have hd : ((rd.length : Int) == 0) = false := beq_eq_false_iff_ne.2 (by omega)
      have hcb := hcell false
      have hBb := hB false
      clear hz hcell hB hr
      go_enter Try.func53, Try.ntmps53
      go_wp2_with fail
      refine bodyPost_ret (v := .bool false) (results_one rfl _ _ (w.heap.size + 1) _ rfl ?_ Try.isAgg4) rfl ⟨ret_bool hr0.out.symm, hBb⟩
      have := hcb.cellD 0 _ rfl
      rw [World.size_alloc] at this
      exact this

/-- No piece that has come is zeros. -/
def noZeros (bs : List UInt8) (pre : List (Fin (chunksN bs.length 64))) : Bool := pre.all fun x => !zeroB (pieceB bs 64 x.val)
theorem noZeros_snoc (bs : List UInt8) (pre : List (Fin (chunksN bs.length 64))) (x : Fin (chunksN bs.length 64)) : noZeros bs (pre ++ [x]) = (noZeros bs pre && !zeroB (pieceB bs 64 x.val)) := by
  simp [noZeros]

set_option maxRecDepth 100000 in
set_option maxHeartbeats 1000000 in
theorem data_full (r : Rec) (w : World) (h1 : 1 ≤ r.ct) (h2 : r.ct ≤ 64) (hok : r.Ok w w.heap.size) (hz : r.zs = false) (hlen : (r.data.length : Int) = r.ct * 64) :
    Calls Try.prog 53 #[.agg r.val.toArray] w fun e w' => e = .returned (.bool (dataB r)) ∧ Below w.heap.size w w' := by
  have hres : dataB r = noZeros r.data (List.finRange (chunksN r.data.length 64)) := by
    unfold dataB
    rw [if_neg (by rw [hz]; decide), beq_iff_eq.2 hlen, Bool.true_and]
    rfl
  have hb := hok.bytes
  have hl := hok.len
  have hr0 := alloc_row w 39 r.val
  unfold Rec.val at *
  obtain ⟨rf, rc, rz, rA, rcap, rd⟩ := r
  simp only at *
  subst hz
  have hd : ((rd.length : Int) == rc * 64) = true := beq_iff_eq.2 hlen
  have hl2 : rd.length ≤ 4096 := by omega
  replace hres := Lib.hid hres
  clear hlen
  rw [← callsIn_wide (n := 5)]
  refine callsIn_of_wp_marks Try.func53 rfl trivial ?_ rfl
  simp only [Try.ntmps53, List.size_toArray, List.length_cons, List.length_nil, Nat.reduceAdd, Nat.reduceSub, Array.replicate_succ, Array.replicate_zero, List.push_toArray, List.append_toArray, List.nil_append, List.cons_append]
  gi_wp2_with (gi_at_call 65; refine (callsIn_wide.2 (chunk_calls _ _ _ _ (by decide) _)).mono ?_; rintro e w' ⟨rfl, rfl⟩)
  have bR := Boxed.new (w.alloc (.cells #[.int .i64 rf, .int .i64 rc, .bool false, .slice rA rd.length rcap] 39)) 4 (.bool false)
  have bS := Boxed.new ((w.alloc (.cells #[.int .i64 rf, .int .i64 rc, .bool false, .slice rA rd.length rcap] 39)).alloc (.cells #[.bool false] 4)) 25 (.slice rA rd.length rcap)
  have bC := Boxed.new (((w.alloc (.cells #[.int .i64 rf, .int .i64 rc, .bool false, .slice rA rd.length rcap] 39)).alloc (.cells #[.bool false] 4)).alloc (.cells #[.slice rA rd.length rcap] 25)) 3 (.int .i64 64)
  replace bR := (bR.alloc (.cells #[.slice rA rd.length rcap] 25)).alloc (.cells #[.int .i64 64] 3)
  replace bS := bS.alloc (.cells #[.int .i64 64] 3)
  have hB0 := balloc (balloc (balloc (balloc (brefl w) (.cells #[.int .i64 rf, .int .i64 rc, .bool false, .slice rA rd.length rcap] 39)) (.cells #[.bool false] 4)) (.cells #[.slice rA rd.length rcap] 25)) (.cells #[.int .i64 64] 3)
  simp only [World.size_alloc] at bR bS bC
  have hsz : ((((w.alloc (.cells #[.int .i64 rf, .int .i64 rc, .bool false, .slice rA rd.length rcap] 39)).alloc (.cells #[.bool false] 4)).alloc (.cells #[.slice rA rd.length rcap] 25)).alloc (.cells #[.int .i64 64] 3)).heap.size = w.heap.size + 4 := by simp
  refine rangeG rfl (by omega) (gf := 68) (lb := #[.pointer (some ⟨w.heap.size + 1 + 1, 0, none⟩), .pointer (some ⟨w.heap.size + 1 + 1 + 1, 0, none⟩)]) rfl trivial (enters_of Try.func68 (by kernel_rfl) rfl)
    (chunk_seq _ (by omega) (w.heap.size + 1 + 1) (w.heap.size + 1 + 1 + 1) rcap 64 (by omega) (by omega) rA rd.length hb.shape hl (by omega) _ bS bC) (KeepsTwo.refl _ _) KeepsTwo.trans
    (fun W l o o' hl _ _ _ => ⟨World.putObj_heap_other (by rw [hsz] at hl; omega), World.putObj_heap_other (by rw [hsz] at hl; omega)⟩)
    (fun A B hv => by subst hv; exact ⟨Nat.le_refl _, fun _ _ _ h _ => h⟩) (Below.refl _ _) (fun _ => rfl)
    (fun pre W => Boxed W (w.heap.size + 1) 4 (.bool false) ∧ Hid (noZeros rd pre = true) ∧ (∃ v : Value, Boxed W (w.heap.size + 1 + 1) 25 v) ∧ (∃ v : Value, Boxed W (w.heap.size + 1 + 1 + 1) 3 v) ∧ Below w.heap.size w W)
    (fun c _ W => c = .ret ∧ Boxed W (w.heap.size + 1) 4 (.bool false) ∧ Hid (noZeros rd (List.finRange (chunksN rd.length 64)) = false) ∧ Below w.heap.size w W)
    ?own ?ownx ?rel ?relx
    ⟨bR, Lib.hid rfl, ⟨_, bS⟩, ⟨_, bC⟩, hB0⟩
    (fun x => { tmps := #[.agg #[.int .i64 rf, .int .i64 rc, .bool false, .slice rA rd.length rcap], .pointer (some ⟨w.heap.size, 0, none⟩), .pointer (some ⟨w.heap.size + 1, 0, none⟩), pieceW rA rd.length 64 x, .pointer (some ⟨w.heap.size, 2, none⟩), .bool false, undef, undef, undef, undef,
      .pointer (some ⟨w.heap.size, 3, none⟩), .slice rA rd.length rcap, .int .i64 (rd.length : Int), .pointer (some ⟨w.heap.size, 1, none⟩), .int .i64 rc, .int .i64 (rc * 64), .bool false, .pointer (some ⟨w.heap.size, 3, none⟩), .slice rA rd.length rcap,
      .func (.func 68) #[] #[.pointer (some ⟨w.heap.size + 1 + 1, 0, none⟩), .pointer (some ⟨w.heap.size + 1 + 1 + 1, 0, none⟩)], pieceW rA rd.length 64 x, undef, undef], defers := [] }) ?assign ?body ?done ?stop
  case own =>
    rintro pre X Y row ⟨hbx, hn, ⟨v, hbv⟩, ⟨u, hbu⟩, hB⟩ hg hr
    have hr' : ∀ r, row = some r → ∃ o : Obj, X.heap[r]? = some o ∧ o.isCells = false := fun r e => (hr r e).2
    exact ⟨hbx.kept hg (boxed_ne hbx hr'), hn, ⟨v, hbv.kept hg (boxed_ne hbv hr')⟩, ⟨u, hbu.kept hg (boxed_ne hbu hr')⟩, hB.grown hg hB.size (fun k e => by have := (hr k e).1; rw [hsz] at this; omega)⟩
  case ownx =>
    rintro c pre X Y row ⟨hc, hbx, hn, hB⟩ hg hr
    have hr' : ∀ r, row = some r → ∃ o : Obj, X.heap[r]? = some o ∧ o.isCells = false := fun r e => (hr r e).2
    exact ⟨hc, hbx.kept hg (boxed_ne hbx hr'), hn, hB.grown hg hB.size (fun k e => by have := (hr k e).1; rw [hsz] at this; omega)⟩
  case rel =>
    rintro pre X Y ⟨hbx, hn, ⟨v, hbv⟩, ⟨u, hbu⟩, hB⟩ rfl
    exact ⟨hbx, hn, ⟨v, hbv⟩, ⟨u, hbu⟩, hB.drew⟩
  case relx =>
    rintro c pre X Y ⟨hc, hbx, hn, hB⟩ rfl
    exact ⟨hc, hbx, hn, hB.drew⟩
  case assign =>
    intro l x W K hK
    unfold pieceV
    gi_wp2
    exact hK
  case body =>
    rintro l pre x W _ _ ⟨hbx, hn, ⟨v, hbv⟩, ⟨u, hbu⟩, hB⟩ _
    have hpb := (piece_bytes hb 64 x.val).below hB
    have hpl := pieceB_length rd 64 x.val
    have hsn := noZeros_snoc rd pre x
    rw [hn.out, Bool.true_and] at hsn
    have hno : zeroB (pieceB rd 64 x.val) = true → noZeros rd (List.finRange (chunksN rd.length 64)) = false := by
      intro h
      unfold noZeros
      rw [List.all_eq_false]
      exact ⟨x, List.mem_finRange x, by rw [h]; decide⟩
    have hpw : pieceW rA rd.length 64 x = .slice (rA.map (·.add (64 * x.val))) (min 64 (rd.length - 64 * x.val)) (min 64 (rd.length - 64 * x.val)) := rfl
    rw [hpw]
    have hk64 : min 64 (rd.length - 64 * x.val) ≤ 64 := by omega
    generalize min 64 (rd.length - 64 * x.val) = k at hpl hk64 ⊢
    generalize rA.map (·.add (64 * x.val)) = A2 at hpb ⊢
    generalize pieceB rd 64 x.val = pc at hpl hpb hsn hno
    have hzc := Lib.hid (zero_calls A2 k k pc hpl (by unfold maxLen; omega) W _ hpb)
    have hcb := hbx.cell
    have hfb := hbx.frozen
    clear hpl hpb hpw
    cases hzz : zeroB pc
    · rw [hzz] at hzc hsn
      replace hsn := Lib.hid hsn
      clear hno hzz
      gi_wp2_with (gi_at_call 19; refine ((callsIn_wide.2 hzc.out).inRound l).mono ?_; rintro e w2 ⟨rfl, rfl⟩)
      exact ⟨KeepsFrom.refl _ _, KeepsTwo.refl _ _ _, hbx, Lib.hid (by rw [hsn.out]; rfl), ⟨v, hbv⟩, ⟨u, hbu⟩, hB⟩
    · rw [hzz] at hzc
      have hno' := Lib.hid (hno hzz)
      clear hno hzz hsn
      have hs := hbx.set (.bool false)
      have hg := grownBy_setCell' W (w.heap.size + 1) (.bool false)
      gi_wp2_with (gi_at_call 19; refine ((callsIn_wide.2 hzc.out).inRound l).mono ?_; rintro e w2 ⟨rfl, rfl⟩)
      exact ⟨KeepsFrom.of_grownBy hg (fun j e => by cases e; rw [hsz]; omega), rfl, hs, hno', hB.grown hg hB.size (fun j e => by cases e; omega)⟩
  case done =>
    rintro D ys W hD rfl ⟨hbx, hn, _, _, hB⟩ hK
    have hcb := hbx.cell
    have hfb := hbx.frozen
    have hrr := Lib.hid (hres.out.trans hn.out)
    have hs := hbx.set (.bool true)
    have hg := grownBy_setCell' W (w.heap.size + 1) (.bool true)
    have hB1 := hB.grown hg hB.size (fun j e => by cases e; omega)
    have hD1 : w.heap.size + 4 ≤ D := by rw [hsz] at hD; exact hD
    have hK1 : (W.setCell ⟨w.heap.size + 1, 0, none⟩ (.bool true)).heap[D]? = some (.deferred (some [])) := by
      rw [hg.block D (Array.getElem?_eq_some_iff.1 hK).1 (fun e => by injection e with e; omega)]
      exact hK
    gi_wp2
    refine endM hK1 (results_one rfl _ _ (w.heap.size + 1) (.bool true) rfl ((hs.kept shut_grown (fun e => by injection e with e; omega)).cell) Try.isAgg4) ⟨ret_bool hrr.out.symm, below_shut hB1 (by omega) hK1⟩
  case stop =>
    rintro D c pre W hD _ ⟨rfl, hbx, hn, hB⟩ hK
    have hrr := Lib.hid (hres.out.trans hn.out)
    have hD1 : w.heap.size + 4 ≤ D := by rw [hsz] at hD; exact hD
    gi_wp2
    refine endM hK (results_one rfl _ _ (w.heap.size + 1) (.bool false) rfl ((hbx.kept shut_grown (fun e => by injection e with e; omega)).cell) Try.isAgg4) ⟨ret_bool hrr.out.symm, below_shut hB (by omega) hK⟩
theorem data_calls (r : Rec) (w : World) (h1 : 1 ≤ r.ct) (h2 : r.ct ≤ 64) (hok : r.Ok w w.heap.size) :
    Calls Try.prog 53 #[.agg r.val.toArray] w fun e w' => e = .returned (.bool (dataB r)) ∧ Below w.heap.size w w' := by
  by_cases hz : r.zs = true ∨ (r.data.length : Int) ≠ r.ct * 64
  · exact data_short r w h1 h2 hok.len hok.most hz
  · have hz1 : r.zs = false := by
      cases h : r.zs
      · rfl
      · exact absurd (.inl h) hz
    have hz2 : (r.data.length : Int) = r.ct * 64 := by
      by_cases h : (r.data.length : Int) = r.ct * 64
      · exact h
      · exact absurd (.inr h) hz
    exact data_full r w h1 h2 hok hz1 hz2
end Go.Proofs.Ytdglkjpdhnnpnaa
