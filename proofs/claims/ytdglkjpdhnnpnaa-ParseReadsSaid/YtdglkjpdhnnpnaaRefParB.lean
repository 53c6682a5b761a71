/-
  revetmentref17.Parse.
-/
import Derived.Test.YtdglkjpdhnnpnaaRefParA
import Derived.Deep.Cut
import Derived.Deep.CutRange
import Derived.BigCall
import Derived.BigGuard
namespace Go.Proofs.Ytdglkjpdhnnpnaa
open Go Go.RowKit Go.Shelf

/-- What was got, as cells. -/
def gotV (t : Str) (c : Int) : List Value := [.int .i64 t.blocks, .int .i64 t.base, .int .i64 t.id, .slice t.A t.recs.length t.cap, .int .i64 c]
theorem gotV_one (t : Str) (c : Int) : ∀ v ∈ gotV t c, v.oneCell' = true := by
  intro v hv
  simp only [gotV, List.mem_cons, List.not_mem_nil, or_false] at hv
  rcases hv with rfl | rfl | rfl | rfl | rfl <;> rfl
theorem zero_got (w : World) : (zeroValue 49).run Try.prog w = .ok (.agg (gotV Str0 0).toArray) w := by kernel_rfl
def refQ (b : List UInt8) (w : World) (e : Ending) (w' : World) : Prop :=
  Below w.heap.size w w' ∧ ∃ (t : Str) (c : Int), e = .returned (.agg (gotV t c).toArray) ∧ t.Ok w' w'.heap.size ∧ ((c = 0 ∧ parseR b = .ok t.pl) ∨ (c ≠ 0 ∧ parseR b = .error c ∧ t = Str0))
theorem got_end {w w6 : World} {b : List UInt8} {tmps : Array Value} {g : Nat} {t : Str} {c : Int} (hr6 : RowAt w6 g 49 (gotV t c)) (hp : tmps.getD 2 undef = .pointer (some ⟨g, 0, none⟩)) (hB : Below w.heap.size w w6) (hok : t.Ok w6 w6.heap.size)
    (h : (c = 0 ∧ parseR b = .ok t.pl) ∨ (c ≠ 0 ∧ parseR b = .error c ∧ t = Str0)) : bodyPost Try.prog Try.f25 (refQ b w) .ret { tmps := tmps, defers := [] } w6 := by
  refine bodyPost_ret (results_cell_row rfl _ _ _ _ _ _ _ hp hr6 Try.underlying49 rfl (by kernel_rfl)) rfl ⟨hB, t, c, rfl, hok, h⟩
theorem got_err {w w5 w6 : World} {b : List UInt8} {tmps : Array Value} {g : Nat} {c : Int} (hr6 : RowAt w6 g 49 (gotV Str0 c)) (hp : tmps.getD 2 undef = .pointer (some ⟨g, 0, none⟩)) (hB : Below w.heap.size w w5) (hg : w5.grownBy w6 (some g)) (hgw : w.heap.size ≤ g) (hc : c ≠ 0) (h : parseR b = .error c) :
    bodyPost Try.prog Try.f25 (refQ b w) .ret { tmps := tmps, defers := [] } w6 :=
  got_end hr6 hp (hB.grown hg hB.size (fun k e => by cases e; exact hgw)) (str0_ok _ _) (.inr ⟨hc, h, rfl⟩)
theorem wpList_got {w : World} {ops : Array Oper} {rest : List Oper} {o1 o2 : Oper} {a : Act} {Q : Exit → Act → World → Prop} (d : Tmp) (hd : o1.dst = some d) (c : Int) (ho1 : o1.op = .build 49 #[(1, .const (.int .i64 c))]) (x y : Operand) (ho2 : o2.op = .store 49 x y) {g : Nat} {cs : List Value} (hl : cs.length = 5) (hr : RowAt w g 49 cs)
    (hg1 : Region.wanted o1 (yielded ops a.tmps) = true) (hg2 : Region.wanted o2 (yielded ops (a.put (some d) (.agg (gotV Str0 c).toArray)).tmps) = true) (hx : (a.put (some d) (.agg (gotV Str0 c).toArray)).eval x = .pointer (some ⟨g, 0, none⟩)) (hy : (a.put (some d) (.agg (gotV Str0 c).toArray)).eval y = .agg (gotV Str0 c).toArray)
    (h : ∀ w1, RowAt w1 g 49 (gotV Str0 c) → w.grownBy w1 (some g) → wpList Try.prog ops Q rest ((a.put (some d) (.agg (gotV Str0 c).toArray)).put o2.dst undef) w1) : wpList Try.prog ops Q (o1 :: o2 :: rest) a w := by
  refine wpList_build d hd 49 _ ho1 (gotV Str0 c) hg1 (by kernel_rfl) ?_
  refine wpList_store_part 49 x y ho2 hr 0 (gotV Str0 c) hg2 hx hy Try.sizeOf49 (by rw [hl]; exact Nat.le_refl 5) (gotV_one _ _) ?_
  intro w1 h1 _ hg
  rw [splice_all _ _ (by rw [hl]; rfl)] at h1
  exact h w1 h1 hg

theorem wpList_gotS {w : World} {ops : Array Oper} {rest : List Oper} {o1 o2 : Oper} {a : Act} {Q : Exit → Act → World → Prop} (d : Tmp) (hd : o1.dst = some d) (x0 : Operand) (ho1 : o1.op = .build 49 #[(0, x0)]) (x y : Operand) (ho2 : o2.op = .store 49 x y) (s : Str) (SV : List Value) (hSV : Hid (SV = s.val)) {g : Nat} {cs : List Value} (hl : cs.length = 5) (hr : RowAt w g 49 cs)
    (h0 : a.eval x0 = .agg SV.toArray) (hg1 : Region.wanted o1 (yielded ops a.tmps) = true) (hg2 : Region.wanted o2 (yielded ops (a.put (some d) (.agg (gotV s 0).toArray)).tmps) = true) (hx : (a.put (some d) (.agg (gotV s 0).toArray)).eval x = .pointer (some ⟨g, 0, none⟩)) (hy : (a.put (some d) (.agg (gotV s 0).toArray)).eval y = .agg (gotV s 0).toArray)
    (h : ∀ w1, RowAt w1 g 49 (gotV s 0) → w.grownBy w1 (some g) → wpList Try.prog ops Q rest ((a.put (some d) (.agg (gotV s 0).toArray)).put o2.dst undef) w1) : wpList Try.prog ops Q (o1 :: o2 :: rest) a w := by
  obtain rfl := hSV.out
  refine wpList_build d hd 49 _ ho1 (gotV s 0) hg1 ?_ ?_
  · simp only [List.map_toArray, List.map_cons, List.map_nil, h0]
    kernel_rfl
  refine wpList_store_part 49 x y ho2 hr 0 (gotV s 0) hg2 hx hy Try.sizeOf49 (by rw [hl]; exact Nat.le_refl 5) (gotV_one _ _) ?_
  intro w1 h1 _ hg
  rw [splice_all _ _ (by rw [hl]; rfl)] at h1
  exact h w1 h1 hg
theorem seal_take {b : List UInt8} {m : Nat} (h : m + 8 ≤ b.length) : sealedB (b.take (m + 8)) = decide (check (b.take m) = getN ((b.drop m).take 8)) := by
  have hl : (b.take (m + 8)).length - 8 = m := by rw [List.length_take]; omega
  unfold sealedB
  rw [hl, List.take_take, Nat.min_eq_left (by omega), List.drop_take, Nat.add_sub_cancel_left]
theorem take_head {b : List UInt8} {c : Int} (h : headR b = .error c) : parseR b = .error c := by
  unfold parseR
  rw [h]
theorem numP_two (b : List UInt8) : numP (b.take 2) ≤ 65535 := by
  have hlt := leVal_lt ((b.take 2).take 8)
  rw [← getN_nat] at hlt
  have hl : ((b.take 2).take 8).length ≤ 2 := by rw [List.length_take, List.length_take]; omega
  have hp : (256 ^ ((b.take 2).take 8).length : Nat) ≤ 256 ^ 2 := Nat.pow_le_pow_right (by omega) hl
  have h4 : (256 ^ 2 : Nat) = 65536 := by simp
  unfold numP
  omega

theorem recs_err {b : List UInt8} {s : Str} {n : Nat} {rest : List UInt8} {c : Int} (hP : parseP b = recsR (n + 1) s rest) (h : recR s rest = .error c) : parseR b = .error c := by
  rw [parseR_P, hP, recsR, h]
theorem exec_eql_u8 {P : Program} {w : World} {o : Oper} {a : Act} (t t' : TypeId) (x y : Operand) (ho : o.op = .binOp .eql t x y t') (i j : Int) (hx : a.eval x = .int .u8 i) (hy : a.eval y = .int .u8 j) (b : Bool) (hb : (i == j) = b) :
    (execOp a.eval o).run P w = .ok (.value (.bool b)) w := by
  subst hb
  simp only [execOp, ho, hx, hy]
  rfl
theorem exec_add_nat {P : Program} {w : World} {o : Oper} {a : Act} (t t' : TypeId) (x y : Operand) (ho : o.op = .binOp .add t x y t') (i j : Nat) (hx : a.eval x = .int .i64 (i : Int)) (hy : a.eval y = .int .i64 (j : Int)) (h : i + j ≤ 4611686018427387904) :
    (execOp a.eval o).run P w = .ok (.value (.int .i64 ((i + j : Nat) : Int))) w := by
  have h3 : IntKind.i64.wrap ((i : Int) + (j : Int)) = ((i + j : Nat) : Int) := by
    rw [IntKind.wrap_i64]
    omega
  simp only [execOp, ho, hx, hy]
  show Result.ok (Next.value (.int .i64 (IntKind.i64.wrap ((i : Int) + (j : Int))))) w = _
  rw [h3]

theorem next_good {s : Str} (hg : goodB s = true) (A' : Option Addr) (c' : Nat) (r : Rec) : goodB ⟨s.blocks, s.base, s.id, A', c', s.recs ++ [r]⟩ = nextB s r := by
  have h : headB s = true ∧ recsB s.blocks s.base none s.recs = true := by
    unfold goodB at hg
    rwa [Bool.and_eq_true] at hg
  show (headB s && recsB s.blocks s.base none (s.recs ++ [r])) = _
  rw [h.1, recsB_snoc, h.2, Bool.true_and, Bool.true_and]
  rfl
theorem good_prev {s : Str} (hg : goodB s = true) : ∀ p, lastOf none s.recs = some p → 0 ≤ p.fr ∧ p.fr ≤ 1000000 ∧ 0 ≤ p.ct ∧ p.ct ≤ 1000000 := by
  intro p hp
  unfold lastOf at hp
  cases hl : s.recs.getLast? with
  | none => rw [hl] at hp; cases hp
  | some q =>
    rw [hl] at hp
    cases hp
    have := good_data hg p (List.mem_of_getLast? hl)
    omega
theorem got_ok {w : World} {base : Nat} {s : Str} (hown : OwnR w base s.A s.cap s.recs) (hx : ∀ r ∈ s.recs, r.Ok w w.heap.size) (hg : goodB s = true) : s.Ok w w.heap.size := by
  obtain ⟨h1, h2, h3, h4, h5⟩ := good_head hg
  exact ⟨hown.recs hx, hown.cap.1, hown.cap.2, by omega, by omega, by omega, by omega, by omega, by omega⟩

set_option maxRecDepth 100000 in
set_option maxHeartbeats 16000000 in
theorem rparse_calls (A : Option Addr) (cap : Nat) (b : List UInt8) (w : World) (hb : BytesAt w w.heap.size A b) (hc : b.length ≤ cap) (hm : cap ≤ maxLen) (hl : b.length ≤ 100000) :
    Calls Try.prog 25 #[.slice A b.length cap] w (refQ b w) := by
  go_enter Try.func25, Try.ntmps25
  go_upto_region 1 with (refine wpList_alloc_row 2 rfl 49 rfl _ rfl zero_got ?_; intro w1 hrr hz1 hB1)
  have hb1 := hb.step hB1
  clear hb
  unfold maxLen at hm
  by_cases h4 : b.length < 4
  · have hr := take_head (show headR b = .error 21 by unfold headR; rw [if_pos h4])
    have hd : decide ((b.length : Int) < 4) = true := decide_eq_true (by omega)
    go_wp2_with (refine wpList_got 12 rfl 21 rfl (.tmp 2) (.tmp 12) rfl rfl hrr rfl rfl rfl rfl ?_; intro w9 hr9 hg9)
    exact got_err hr9 rfl hB1 hg9 (Nat.le_refl _) (by decide) hr
  have hd4 : decide ((b.length : Int) < 4) = false := decide_eq_false (by omega)
  obtain ⟨b0, o0, rfl, hb0, _⟩ := hb1.resolve_left (fun e => by rw [e] at h4; simp at h4)
  have hst := run_str (P := Try.prog) (hb1.take 4) 25 9 5 Try.underlying25 Try.underlying5 Try.underlying9 cap
  have hxl : (b.take 4).length = 4 := by rw [List.length_take]; omega
  rw [hxl] at hst
  by_cases hmg : b.take 4 = [0x52, 0x56, 0x53, 0x31]
  rotate_left
  · have hr := take_head (show headR b = .error 20 by unfold headR; rw [if_neg h4, if_pos hmg])
    have hmag := magic_str (b.take 4)
    rw [beq_eq_false_iff_ne.2 hmg] at hmag
    generalize b.take 4 = b4 at hst hmag
    clear hmg hxl
    go_wp2_with (refine wpList_got 17 rfl 20 rfl (.tmp 2) (.tmp 17) rfl rfl hrr rfl rfl rfl rfl ?_; intro w9 hr9 hg9)
    exact got_err hr9 rfl hB1 hg9 (Nat.le_refl _) (by decide) hr
  have hmag : ((strOf (b.take 4)).toList == [82, 86, 83, 49]) = true := by rw [magic_str, hmg]; rfl
  have hmg' := Lib.hid hmg
  generalize b.take 4 = b4 at hst hmag
  clear hxl hmg
  by_cases h24 : b.length < 24
  · have hr := take_head (show headR b = .error 21 by unfold headR; rw [if_neg h4, if_neg (fun h => h hmg'.out), if_pos h24])
    have hd : decide ((b.length : Int) < 24) = true := decide_eq_true (by omega)
    go_wp2_with (refine wpList_got 21 rfl 21 rfl (.tmp 2) (.tmp 21) rfl rfl hrr rfl rfl rfl rfl ?_; intro w9 hr9 hg9)
    exact got_err hr9 rfl hB1 hg9 (Nat.le_refl _) (by decide) hr
  have hd24 : decide ((b.length : Int) < 24) = false := decide_eq_false (by omega)
  have hc24 : (24 : Int) ≤ (cap : Int) := by omega
  have hseal := seal_take (b := b) (m := 16) (by omega)
  obtain ⟨t1, ht1⟩ : ∃ t1, t1 = sealedB (b.take (16 + 8)) := ⟨_, rfl⟩
  have hsc := Lib.hid (sealed17_calls b0 o0 cap 24 (b.take 24) (by rw [List.length_take]; omega) (by omega) (by omega) (by omega) w1 _ (hb1.take 24) t1 ht1.symm)
  rw [hseal] at ht1
  have hhead : headR b = (if check (b.take 16) ≠ getN ((b.drop 16).take 8) then .error 22
      else if numP ((b.drop 4).take 2) < 1 ∨ 64 < numP ((b.drop 4).take 2) then .error 23
      else if headB ⟨numP ((b.drop 4).take 2), numP ((b.drop 6).take 4) - 1, numP ((b.drop 10).take 4), none, 0, []⟩ = false then .error 25
      else .ok (⟨numP ((b.drop 4).take 2), numP ((b.drop 6).take 4) - 1, numP ((b.drop 10).take 4), none, 0, []⟩, (numP ((b.drop 14).take 2)).toNat)) := by
    unfold headR
    rw [if_neg h4, if_neg (fun h => h hmg'.out), if_neg h24]
  clear hseal
  cases t1
  · have hne : check (b.take 16) ≠ getN ((b.drop 16).take 8) := by
      intro e
      rw [e] at ht1
      simp at ht1
    have hr := take_head (show headR b = .error 22 by rw [hhead, if_pos hne])
    clear hhead hne ht1
    go_wp2_with fail
    refine hsc.out.mono ?_
    rintro e w2 ⟨rfl, hB2⟩
    have hrr2 := hrr.step hB2
    have hW2 := bthen hB1 hB2
    go_wp2_with (refine wpList_got 26 rfl 22 rfl (.tmp 2) (.tmp 26) rfl rfl hrr2 rfl rfl rfl rfl ?_; intro w9 hr9 hg9)
    exact got_err hr9 rfl hW2 hg9 (Nat.le_refl _) (by decide) hr
  have heq : check (b.take 16) = getN ((b.drop 16).take 8) := by simpa using ht1.symm
  rw [if_neg (fun h => h heq)] at hhead
  clear ht1 heq
  have p0 : 0 ≤ numP ((b.drop 4).take 2) := numP_nonneg _
  have p1 : numP ((b.drop 4).take 2) ≤ 65535 := numP_two _
  have p2 : 0 ≤ numP ((b.drop 6).take 4) := numP_nonneg _
  have p3 : numP ((b.drop 6).take 4) ≤ 4294967295 := numP_lt _ (by rw [List.length_take]; omega)
  have p4 : 0 ≤ numP ((b.drop 10).take 4) := numP_nonneg _
  have p5 : numP ((b.drop 10).take 4) ≤ 4294967295 := numP_lt _ (by rw [List.length_take]; omega)
  have p6 : 0 ≤ numP ((b.drop 14).take 2) := numP_nonneg _
  have p7 : numP ((b.drop 14).take 2) ≤ 65535 := numP_two _
  obtain ⟨bl, hbl⟩ : ∃ bl, numP ((b.drop 4).take 2) = bl := ⟨_, rfl⟩
  obtain ⟨ba, hba⟩ : ∃ ba, numP ((b.drop 6).take 4) = ba := ⟨_, rfl⟩
  obtain ⟨id, hid⟩ : ∃ id, numP ((b.drop 10).take 4) = id := ⟨_, rfl⟩
  obtain ⟨nn, hnn⟩ : ∃ nn, numP ((b.drop 14).take 2) = nn := ⟨_, rfl⟩
  rw [hbl] at p0 p1
  rw [hba] at p2 p3
  rw [hid] at p4 p5
  rw [hnn] at p6 p7
  rw [hbl, hba, hid, hnn] at hhead
  have hn4 := Lib.hid (fun W (hW : Since w1 W) => rnum_calls (some ⟨b0, o0 + 4, none⟩) (cap - 4) 2 ((b.drop 4).take 2) (by rw [List.length_take, List.length_drop]; omega) (by omega) W _ ((piece_lh hb1 4 2 (by omega)).step hW) bl hbl)
  have hn6 := Lib.hid (fun W (hW : Since w1 W) => rnum_calls (some ⟨b0, o0 + 6, none⟩) (cap - 6) 4 ((b.drop 6).take 4) (by rw [List.length_take, List.length_drop]; omega) (by omega) W _ ((piece_lh hb1 6 4 (by omega)).step hW) ba hba)
  have hn10 := Lib.hid (fun W (hW : Since w1 W) => rnum_calls (some ⟨b0, o0 + 10, none⟩) (cap - 10) 4 ((b.drop 10).take 4) (by rw [List.length_take, List.length_drop]; omega) (by omega) W _ ((piece_lh hb1 10 4 (by omega)).step hW) id hid)
  have hn14 := Lib.hid (fun W (hW : Since w1 W) => rnum_calls (some ⟨b0, o0 + 14, none⟩) (cap - 14) 2 ((b.drop 14).take 2) (by rw [List.length_take, List.length_drop]; omega) (by omega) W _ ((piece_lh hb1 14 2 (by omega)).step hW) nn hnn)
  clear hbl hba hid hnn
  go_wp2_with fail
  refine hsc.out.mono ?_
  rintro e w2 ⟨rfl, hB2⟩
  have hS2 : Since w1 w2 := hB2
  clear hsc hB2 hmg' hmag hst
  go_upto_region 9 with fail
  go_cut [3] from 27 to 37 (fun v wx => ∃ gx, v = .pointer (some ⟨gx, 0, none⟩) ∧ RowAt wx gx 24 (⟨bl, ba - 1, id, none, 0, []⟩ : Str).val ∧ Since w1 wx ∧ w1.heap.size ≤ gx)
  case first =>
    have d0 : Since w1 w2.drew := hS2.drew
    have hSo := Lib.hid (str_one (⟨bl, ba - 1, id, none, 0, []⟩ : Str))
    refine wp_region_H (Since w1) 13 rfl (by kernel_rfl) ?_
    -- <held9
    refine wh_take 0 (.slice (some ⟨b0, o0, none⟩) b.length cap) rfl (by kernel_rfl) (by kernel_rfl) (fun _ _ _ h => h) (by kernel_rfl) (fun _ _ => by kernel_rfl) ?_
    refine wh_take 1 (.slice (some ⟨b0, o0 + 4, none⟩) 2 (cap - 4)) rfl (by kernel_rfl) (by kernel_rfl) (fun _ _ _ h => h) (by kernel_rfl) (fun _ _ => exec_slice_lh0 (.tmp 27) _ _ rfl b0 o0 b.length cap (4) (6) 2 (by kernel_rfl) (by kernel_rfl) (by kernel_rfl) (by omega) (by omega) (by omega) (by omega)) ?_
    refine wh_take 3 (.slice (some ⟨b0, o0, none⟩) b.length cap) rfl (by kernel_rfl) (by kernel_rfl) (fun _ _ _ h => h) (by kernel_rfl) (fun _ _ => by kernel_rfl) ?_
    refine wh_take 4 (.slice (some ⟨b0, o0 + 6, none⟩) 4 (cap - 6)) rfl (by kernel_rfl) (by kernel_rfl) (fun _ _ _ h => h) (by kernel_rfl) (fun _ _ => exec_slice_lh0 (.tmp 30) _ _ rfl b0 o0 b.length cap (6) (10) 4 (by kernel_rfl) (by kernel_rfl) (by kernel_rfl) (by omega) (by omega) (by omega) (by omega)) ?_
    refine wh_take 7 (.slice (some ⟨b0, o0, none⟩) b.length cap) rfl (by kernel_rfl) (by kernel_rfl) (fun _ _ _ h => h) (by kernel_rfl) (fun _ _ => by kernel_rfl) ?_
    refine wh_take 8 (.slice (some ⟨b0, o0 + 10, none⟩) 4 (cap - 10)) rfl (by kernel_rfl) (by kernel_rfl) (fun _ _ _ h => h) (by kernel_rfl) (fun _ _ => exec_slice_lh0 (.tmp 34) _ _ rfl b0 o0 b.length cap (10) (14) 4 (by kernel_rfl) (by kernel_rfl) (by kernel_rfl) (by omega) (by omega) (by omega) (by omega)) ?_
    refine wh_two 2 11 (by kernel_rfl) d0 ?_ ?_
    · refine wo_call 2 44 #[.slice (some ⟨b0, o0 + 4, none⟩) 2 (cap - 4)] rfl (by kernel_rfl) (fun _ => by kernel_rfl) ?_
      refine (hn4.out _ d0).mono ?_
      rintro e W1 ⟨rfl, rfl⟩
      refine ⟨_, rfl, ?_⟩
      refine wh_two 5 11 (by kernel_rfl) d0 ?_ ?_
      · refine wo_call 5 44 #[.slice (some ⟨b0, o0 + 6, none⟩) 4 (cap - 6)] rfl (by kernel_rfl) (fun _ => by kernel_rfl) ?_
        refine (hn6.out _ d0).mono ?_
        rintro e W1 ⟨rfl, rfl⟩
        refine ⟨_, rfl, ?_⟩
        refine wh_take 6 (.int .i64 (ba - 1)) rfl (by kernel_rfl) (by kernel_rfl) (fun _ _ _ h => h) (by kernel_rfl) (fun _ _ => exec_sub_int 3 3 (.tmp 32) _ rfl ba 1 (by kernel_rfl) (by kernel_rfl) (by omega) (by omega)) ?_
        refine wh_two 9 11 (by kernel_rfl) d0 ?_ ?_
        · refine wo_call 9 44 #[.slice (some ⟨b0, o0 + 10, none⟩) 4 (cap - 10)] rfl (by kernel_rfl) (fun _ => by kernel_rfl) ?_
          refine (hn10.out _ d0).mono ?_
          rintro e W1 ⟨rfl, rfl⟩
          refine ⟨_, rfl, ?_⟩
          refine wh_take 10 (.agg (⟨bl, ba - 1, id, none, 0, []⟩ : Str).val.toArray) rfl (by kernel_rfl) (by kernel_rfl) (fun _ _ _ h => h) (by kernel_rfl) (fun _ _ => exec_build 24 _ rfl (⟨bl, ba - 1, id, none, 0, []⟩ : Str).val (by kernel_rfl)) ?_
          obtain ⟨W1, hw1, z1, hb1⟩ := new_row w2.drew 24 ([.int .i64 0, .int .i64 0, .int .i64 0, .slice none 0 0])
          refine wh_run 11 (v := .pointer (some ⟨w2.drew.heap.size, 0, none⟩)) (w' := W1) rfl (by kernel_rfl) (by kernel_rfl) d0 (by rw [hw1]; exact exec_alloc_row 24 rfl _ zero_str) ?_
          have d1 := d0.then_ hb1
          have hga : w1.heap.size ≤ w2.drew.heap.size := d0.size
          obtain ⟨W2, hw2, z2, d2, _⟩ := put_row (w0 := w1) 24 4 Try.sizeOf24 z1 rfl hga d1 ((⟨bl, ba - 1, id, none, 0, []⟩ : Str).val) rfl hSo.out
          refine wh_skip 12 (w' := W2) rfl (by kernel_rfl) (by kernel_rfl) d1 (hw2 _ _ (.tmp 3) (.tmp 37) rfl (by kernel_rfl) (by kernel_rfl)) ?_
          refine wh_done (by kernel_rfl) d2 ?_
          simp only [Act.put, List.setIfInBounds_toArray, List.set_cons_zero, List.set_cons_succ]
          go_wp2_with fail
          go_meet
          exact ⟨w2.drew.heap.size, rfl, z2, d2, hga⟩
        · obtain ⟨W1, hw1, z1, hb1⟩ := new_row w2.drew 24 ([.int .i64 0, .int .i64 0, .int .i64 0, .slice none 0 0])
          refine wo_run 11 (v := .pointer (some ⟨w2.drew.heap.size, 0, none⟩)) (w' := W1) rfl (by kernel_rfl) (by rw [hw1]; exact exec_alloc_row 24 rfl _ zero_str) ?_
          have d1 := d0.then_ hb1
          have hga : w1.heap.size ≤ w2.drew.heap.size := d0.size
          refine wh_call 9 44 #[.slice (some ⟨b0, o0 + 10, none⟩) 4 (cap - 10)] rfl (by kernel_rfl) (by kernel_rfl) d1 (fun _ => by kernel_rfl) ?_
          refine (hn10.out _ d1).mono ?_
          rintro e W2 ⟨rfl, rfl⟩
          refine ⟨_, rfl, ?_⟩
          refine wh_take 10 (.agg (⟨bl, ba - 1, id, none, 0, []⟩ : Str).val.toArray) rfl (by kernel_rfl) (by kernel_rfl) (fun _ _ _ h => h) (by kernel_rfl) (fun _ _ => exec_build 24 _ rfl (⟨bl, ba - 1, id, none, 0, []⟩ : Str).val (by kernel_rfl)) ?_
          obtain ⟨W2, hw2, z2, d2, _⟩ := put_row (w0 := w1) 24 4 Try.sizeOf24 z1 rfl hga d1 ((⟨bl, ba - 1, id, none, 0, []⟩ : Str).val) rfl hSo.out
          refine wh_skip 12 (w' := W2) rfl (by kernel_rfl) (by kernel_rfl) d1 (hw2 _ _ (.tmp 3) (.tmp 37) rfl (by kernel_rfl) (by kernel_rfl)) ?_
          refine wh_done (by kernel_rfl) d2 ?_
          simp only [Act.put, List.setIfInBounds_toArray, List.set_cons_zero, List.set_cons_succ]
          go_wp2_with fail
          go_meet
          exact ⟨w2.drew.heap.size, rfl, z2, d2, hga⟩
      · obtain ⟨W1, hw1, z1, hb1⟩ := new_row w2.drew 24 ([.int .i64 0, .int .i64 0, .int .i64 0, .slice none 0 0])
        refine wo_run 11 (v := .pointer (some ⟨w2.drew.heap.size, 0, none⟩)) (w' := W1) rfl (by kernel_rfl) (by rw [hw1]; exact exec_alloc_row 24 rfl _ zero_str) ?_
        have d1 := d0.then_ hb1
        have hga : w1.heap.size ≤ w2.drew.heap.size := d0.size
        refine wh_call 5 44 #[.slice (some ⟨b0, o0 + 6, none⟩) 4 (cap - 6)] rfl (by kernel_rfl) (by kernel_rfl) d1 (fun _ => by kernel_rfl) ?_
        refine (hn6.out _ d1).mono ?_
        rintro e W2 ⟨rfl, rfl⟩
        refine ⟨_, rfl, ?_⟩
        refine wh_take 6 (.int .i64 (ba - 1)) rfl (by kernel_rfl) (by kernel_rfl) (fun _ _ _ h => h) (by kernel_rfl) (fun _ _ => exec_sub_int 3 3 (.tmp 32) _ rfl ba 1 (by kernel_rfl) (by kernel_rfl) (by omega) (by omega)) ?_
        refine wh_call 9 44 #[.slice (some ⟨b0, o0 + 10, none⟩) 4 (cap - 10)] rfl (by kernel_rfl) (by kernel_rfl) d1 (fun _ => by kernel_rfl) ?_
        refine (hn10.out _ d1).mono ?_
        rintro e W2 ⟨rfl, rfl⟩
        refine ⟨_, rfl, ?_⟩
        refine wh_take 10 (.agg (⟨bl, ba - 1, id, none, 0, []⟩ : Str).val.toArray) rfl (by kernel_rfl) (by kernel_rfl) (fun _ _ _ h => h) (by kernel_rfl) (fun _ _ => exec_build 24 _ rfl (⟨bl, ba - 1, id, none, 0, []⟩ : Str).val (by kernel_rfl)) ?_
        obtain ⟨W2, hw2, z2, d2, _⟩ := put_row (w0 := w1) 24 4 Try.sizeOf24 z1 rfl hga d1 ((⟨bl, ba - 1, id, none, 0, []⟩ : Str).val) rfl hSo.out
        refine wh_skip 12 (w' := W2) rfl (by kernel_rfl) (by kernel_rfl) d1 (hw2 _ _ (.tmp 3) (.tmp 37) rfl (by kernel_rfl) (by kernel_rfl)) ?_
        refine wh_done (by kernel_rfl) d2 ?_
        simp only [Act.put, List.setIfInBounds_toArray, List.set_cons_zero, List.set_cons_succ]
        go_wp2_with fail
        go_meet
        exact ⟨w2.drew.heap.size, rfl, z2, d2, hga⟩
    · obtain ⟨W1, hw1, z1, hb1⟩ := new_row w2.drew 24 ([.int .i64 0, .int .i64 0, .int .i64 0, .slice none 0 0])
      refine wo_run 11 (v := .pointer (some ⟨w2.drew.heap.size, 0, none⟩)) (w' := W1) rfl (by kernel_rfl) (by rw [hw1]; exact exec_alloc_row 24 rfl _ zero_str) ?_
      have d1 := d0.then_ hb1
      have hga : w1.heap.size ≤ w2.drew.heap.size := d0.size
      refine wh_call 2 44 #[.slice (some ⟨b0, o0 + 4, none⟩) 2 (cap - 4)] rfl (by kernel_rfl) (by kernel_rfl) d1 (fun _ => by kernel_rfl) ?_
      refine (hn4.out _ d1).mono ?_
      rintro e W2 ⟨rfl, rfl⟩
      refine ⟨_, rfl, ?_⟩
      refine wh_call 5 44 #[.slice (some ⟨b0, o0 + 6, none⟩) 4 (cap - 6)] rfl (by kernel_rfl) (by kernel_rfl) d1 (fun _ => by kernel_rfl) ?_
      refine (hn6.out _ d1).mono ?_
      rintro e W2 ⟨rfl, rfl⟩
      refine ⟨_, rfl, ?_⟩
      refine wh_take 6 (.int .i64 (ba - 1)) rfl (by kernel_rfl) (by kernel_rfl) (fun _ _ _ h => h) (by kernel_rfl) (fun _ _ => exec_sub_int 3 3 (.tmp 32) _ rfl ba 1 (by kernel_rfl) (by kernel_rfl) (by omega) (by omega)) ?_
      refine wh_call 9 44 #[.slice (some ⟨b0, o0 + 10, none⟩) 4 (cap - 10)] rfl (by kernel_rfl) (by kernel_rfl) d1 (fun _ => by kernel_rfl) ?_
      refine (hn10.out _ d1).mono ?_
      rintro e W2 ⟨rfl, rfl⟩
      refine ⟨_, rfl, ?_⟩
      refine wh_take 10 (.agg (⟨bl, ba - 1, id, none, 0, []⟩ : Str).val.toArray) rfl (by kernel_rfl) (by kernel_rfl) (fun _ _ _ h => h) (by kernel_rfl) (fun _ _ => exec_build 24 _ rfl (⟨bl, ba - 1, id, none, 0, []⟩ : Str).val (by kernel_rfl)) ?_
      obtain ⟨W2, hw2, z2, d2, _⟩ := put_row (w0 := w1) 24 4 Try.sizeOf24 z1 rfl hga d1 ((⟨bl, ba - 1, id, none, 0, []⟩ : Str).val) rfl hSo.out
      refine wh_skip 12 (w' := W2) rfl (by kernel_rfl) (by kernel_rfl) d1 (hw2 _ _ (.tmp 3) (.tmp 37) rfl (by kernel_rfl) (by kernel_rfl)) ?_
      refine wh_done (by kernel_rfl) d2 ?_
      simp only [Act.put, List.setIfInBounds_toArray, List.set_cons_zero, List.set_cons_succ]
      go_wp2_with fail
      go_meet
      exact ⟨w2.drew.heap.size, rfl, z2, d2, hga⟩
    -- held9>
  case rest =>
  obtain ⟨gs, rfl, hrs, hS3, hgs⟩ := hcut
  have hc14 : (16 : Int) ≤ (cap : Int) := by omega
  have hc15 : ¬ cap = 14 := by omega
  go_wp2_with fail
  refine (hn14.out wc hS3).mono ?_
  rintro e w' ⟨rfl, rfl⟩
  have hrr1 := hrr
  have hrr3 := hrr.step hS3
  have hW3 := bthen hB1 hS3
  clear hn4 hn6 hn10 hn14 hS2 hrr hc15
  have f0 := hrs.cellD 0 (.int .i64 bl) rfl
  have f1 := hrs.cellD 1 (.int .i64 (ba - 1)) rfl
  by_cases hbr : bl < 1 ∨ 64 < bl
  · have hr := Lib.hid (take_head (show headR b = .error 23 by rw [hhead, if_pos hbr]))
    have hbr' : bl < 1 ∨ (1 ≤ bl ∧ 64 < bl) := by omega
    clear hhead hbr
    rcases hbr' with hbr | ⟨hbr, hbr'⟩
    all_goals
      go_wp2_with (refine wpList_got 49 rfl 23 rfl (.tmp 2) (.tmp 49) rfl rfl hrr3 rfl rfl rfl rfl ?_; intro w9 hr9 hg9)
      exact got_err hr9 rfl hW3 hg9 (Nat.le_refl _) (by decide) hr.out
  rw [if_neg hbr] at hhead
  have hbl1 : 1 ≤ bl := by omega
  have hbl2 : bl ≤ 64 := by omega
  clear hbr p0 p1
  obtain ⟨S0, hS0⟩ : ∃ S0 : Str, S0 = ⟨bl, ba - 1, id, none, 0, []⟩ := ⟨_, rfl⟩
  rw [← hS0] at hhead hrs
  obtain ⟨SV, hSV⟩ : ∃ SV, SV = S0.val := ⟨_, rfl⟩
  rw [← hSV] at hrs
  have HS4 := Lib.hid (show SV.length = 4 by rw [hSV]; rfl)
  have HST := Lib.hid (show (SV.drop 0).take 4 = SV from List.take_of_length_le (Nat.le_of_eq HS4.out))
  have HSV := Lib.hid hSV
  clear hSV
  by_cases hba : ba - 1 = 0
  · have hhb : headB S0 = false := by
      cases h : headB S0
      · rfl
      · have := headB_yes h
        rw [hS0] at this
        simp only at this
        omega
    have hr := Lib.hid (take_head (show headR b = .error 25 by rw [hhead, if_pos hhb]))
    have hd : (ba - 1 == 0) = true := by simpa using hba
    clear hhead hhb hba
    go_wp2_with (refine wpList_got 58 rfl 25 rfl (.tmp 2) (.tmp 58) rfl rfl hrr3 rfl rfl rfl rfl ?_; intro w9 hr9 hg9)
    exact got_err hr9 rfl hW3 hg9 (Nat.le_refl _) (by decide) hr.out
  have hd : (ba - 1 == 0) = false := by simpa using hba
  clear hba
  cases hhb : headB S0
  · have hr := Lib.hid (take_head (show headR b = .error 25 by rw [hhead, if_pos hhb]))
    clear hhead
    go_wp2_with (refine wpList_load_part 54 rfl 24 (.tmp 3) rfl hrs 0 4 SV rfl rfl HST.out HS4.out Try.isAgg24 Try.sizeOf24 ?_)
    refine (rhead_L S0 wc SV HSV false hhb).mono ?_
    rintro e w4 ⟨rfl, hB4⟩
    have hrr4 := hrr3.step hB4
    have hW4 := bthen hW3 hB4
    go_wp2_with (refine wpList_got 58 rfl 25 rfl (.tmp 2) (.tmp 58) rfl rfl hrr4 rfl rfl rfl rfl ?_; intro w9 hr9 hg9)
    exact got_err hr9 rfl hW4 hg9 (Nat.le_refl _) (by decide) hr.out
  rw [if_neg (by rw [hhb]; decide)] at hhead
  obtain ⟨m, hm⟩ : ∃ m : Nat, nn = (m : Int) := ⟨nn.toNat, by omega⟩
  subst hm
  rw [Int.toNat_natCast] at hhead
  have hm16 : m ≤ 65535 := by omega
  have hP0 := Lib.hid (show parseP b = recsR (m - 0) S0.pl (b.drop 24) by unfold parseP; rw [hhead, hS0]; rfl)
  have hg0 := Lib.hid (show goodB S0 = true by unfold goodB; rw [hhb, hS0]; rfl)
  have hk0 := Lib.hid (show S0.recs.length = 0 by rw [hS0]; rfl)
  clear hhead
  go_wp2_with (refine wpList_load_part 54 rfl 24 (.tmp 3) rfl hrs 0 4 SV rfl rfl HST.out HS4.out Try.isAgg24 Try.sizeOf24 ?_)
  refine (rhead_L S0 wc SV HSV true hhb).mono ?_
  rintro e w4 ⟨rfl, hB4⟩
  have hrs4 := hrs.step hB4
  have hS4 := hS3.then_ hB4
  rw [HSV.out] at hrs4
  have hrr0 := Lib.hid (fun W (h : Since w1 W) => hrr1.step h)
  have hown0 : OwnR w4 w1.heap.size S0.A S0.cap S0.recs := by rw [hS0]; exact OwnR.nil _ _
  have hcr0 := Lib.hid (show ∀ r ∈ S0.recs, CRec w4 w1.heap.size r by rw [hS0]; exact fun r hr => absurd hr (by simp))
  clear f0 f1 hrs hS3 hB4 hhb hrr3 hrr1 hW3 hS0 hd hd4 hd24 hc24 hc14 p2 p3 p4 p5 p6 p7 hbl1 hbl2 HSV HST HS4
  go_wp2_with fail
  go_loopw [5, 6] (fun va vi wr => ∃ (k a : Nat) (s : Str), k ≤ m ∧ vi = .int .i64 (k : Int) ∧ va = .int .i64 (a : Int) ∧ a ≤ b.length ∧ Hid (parseP b = recsR (m - k) s.pl (b.drop a)) ∧ Hid (goodB s = true) ∧ Hid (s.recs.length = k) ∧ RowAt wr gs 24 s.val ∧ OwnR wr w1.heap.size s.A s.cap s.recs ∧ Hid (∀ r ∈ s.recs, CRec wr w1.heap.size r) ∧ Since w1 wr) (fun _ vi _ => m - (intOf vi).toNat)
  case atStart => exact ⟨0, 24, S0, Nat.zero_le _, rfl, rfl, by omega, hP0, hg0, hk0, hrs4, hown0, hcr0, hS4⟩
  clear hP0 hg0 hk0 hrs4 hown0 hcr0 hS4
  case round =>
  obtain ⟨k, a, s, hk, rfl, rfl, ha, hP, hg, hsl, hrs, hown, hcr, hS⟩ := hrel
  have hrrk := hrr0.out _ hS
  have hWk := bthen hB1 hS
  have hA0 : (0 : Int) ≤ (a : Int) := by omega
  have hA1 : (a : Int) ≤ (b.length : Int) := by omega
  have hN : (b.length : Int) ≤ 100000 := by omega
  by_cases hlt : k < m
  · have hd1 : decide ((k : Int) < (m : Int)) = true := decide_eq_true (by omega)
    have hnk : m - k = (m - (k + 1)) + 1 := by omega
    have hPk := hP.out
    rw [hnk] at hPk
    have herr := Lib.hid (fun c (h : recR s.pl (b.drop a) = .error c) => recs_err hPk h)
    have hrl : (b.drop a).length = b.length - a := List.length_drop
    have hrec : recR s.pl (b.drop a) = _ := recR.eq_1 s.pl (b.drop a)
    clear hP hnk
    by_cases h5 : b.length - a < 5
    · have hr := Lib.hid (herr.out 21 (by rw [hrec, if_pos (by omega)]))
      have hd5 : decide ((b.length : Int) - (a : Int) < 5) = true := decide_eq_true (by omega)
      clear hrec hcr hown hPk herr
      go_wp2_with (refine wpList_got 69 rfl 21 rfl (.tmp 2) (.tmp 69) rfl rfl hrrk rfl rfl rfl rfl ?_; intro w9 hr9 hg9)
      exact got_err hr9 rfl hWk hg9 (Nat.le_refl _) (by decide) hr.out
    have hd5 : decide ((b.length : Int) - (a : Int) < 5) = false := decide_eq_false (by omega)
    rw [if_neg (by omega)] at hrec
    have hA2 : (a : Int) + 5 ≤ (b.length : Int) := by omega
    have hA4 : (a : Int) < (b.length : Int) := by omega
    clear h5
    obtain ⟨k0, hk0⟩ : ∃ k0, (b.drop a)[0]?.getD 0 = k0 := ⟨_, rfl⟩
    obtain ⟨fr, hfr⟩ : ∃ fr, numP (((b.drop a).drop 1).take 2) = fr := ⟨_, rfl⟩
    obtain ⟨ct, hct⟩ : ∃ ct, numP (((b.drop a).drop 3).take 2) = ct := ⟨_, rfl⟩
    have q0 : 0 ≤ fr := by rw [← hfr]; exact numP_nonneg _
    have q1 : fr ≤ 65535 := by rw [← hfr]; exact numP_two _
    have q2 : 0 ≤ ct := by rw [← hct]; exact numP_nonneg _
    have q3 : ct ≤ 65535 := by rw [← hct]; exact numP_two _
    have hofr : (recOfB (b.drop a)).fr = fr := hfr
    have hoct : (recOfB (b.drop a)).ct = ct := hct
    have hcell : ∀ W, Since w1 W → W.cell? ⟨b0, o0 + a, none⟩ = some (B8 k0) := by
      intro W hW
      obtain ⟨b', o', hA', _, hcc⟩ := hb1.resolve_left (fun e => by rw [e] at hA2; simp at hA2; omega)
      injection hA' with hA'
      injection hA' with e1 e2 _
      subst e1 e2
      have := hW.cell (hcc a (by omega))
      rw [List.getElem?_drop] at hk0
      rw [this, ← hk0]
      rfl
    have hn1 := Lib.hid (fun W (hW : Since w1 W) => rnum_calls (some ⟨b0, o0 + (a + 1), none⟩) (cap - (a + 1)) 2 ((b.drop (a + 1)).take 2) (by rw [List.length_take, List.length_drop]; omega) (by omega) W _ ((piece_lh hb1 (a + 1) 2 (by omega)).step hW) fr (by rw [← hfr, List.drop_drop]))
    have hn3 := Lib.hid (fun W (hW : Since w1 W) => rnum_calls (some ⟨b0, o0 + (a + 3), none⟩) (cap - (a + 3)) 2 ((b.drop (a + 3)).take 2) (by rw [List.length_take, List.length_drop]; omega) (by omega) W _ ((piece_lh hb1 (a + 3) 2 (by omega)).step hW) ct (by rw [← hct, List.drop_drop]))
    replace hcell := Lib.hid hcell
    obtain ⟨z2, hz2⟩ : ∃ z2, z2 = (k0 == 2) := ⟨_, rfl⟩
    have hz2i := Lib.hid (show ((k0.toNat : Int) == 2) = z2 by rw [hz2]; exact Bool.eq_iff_iff.2 ((eq_u8 (a := k0) (b := 2)).trans beq_iff_eq.symm))
    have hrec' := Lib.hid hrec
    have hofr' := Lib.hid hofr
    have hoct' := Lib.hid hoct
    have hk0' := Lib.hid hk0
    have hPk' := Lib.hid hPk
    clear hrec hofr hoct hfr hct hk0 hPk hrl
    go_upto_region 21 with fail
    go_cut [7] from 59 to 176 (fun v wx => ∃ gx, v = .pointer (some ⟨gx, 0, none⟩) ∧ RowAt wx gx 39 (⟨fr, ct, z2, none, 0, []⟩ : Rec).val ∧ Since wr wx ∧ wr.heap.size ≤ gx)
    case first =>
      have d0 : Since wr wr.drew := (Since.refl wr).drew
      have hSo := Lib.hid (rec_one (⟨fr, ct, z2, none, 0, []⟩ : Rec))
      refine wp_region_H (Since wr) 22 rfl (by kernel_rfl) ?_
      -- <held21
      refine wh_take 0 (.slice (some ⟨b0, o0, none⟩) b.length cap) rfl (by kernel_rfl) (by kernel_rfl) (fun _ _ _ h => h) (by kernel_rfl) (fun _ _ => by kernel_rfl) ?_
      refine wh_take 1 (.int .i64 (a : Nat)) rfl (by kernel_rfl) (by kernel_rfl) (fun _ _ _ h => h) (by kernel_rfl) (fun _ _ => by kernel_rfl) ?_
      refine wh_take 2 (.int .i64 ((a + 1 : Nat) : Int)) rfl (by kernel_rfl) (by kernel_rfl) (fun _ _ _ h => h) (by kernel_rfl) (fun _ _ => exec_add_nat 3 3 (.tmp 71) _ rfl a 1 (by kernel_rfl) (by kernel_rfl) (by omega)) ?_
      refine wh_take 3 (.int .i64 (a : Nat)) rfl (by kernel_rfl) (by kernel_rfl) (fun _ _ _ h => h) (by kernel_rfl) (fun _ _ => by kernel_rfl) ?_
      refine wh_take 4 (.int .i64 ((a + 3 : Nat) : Int)) rfl (by kernel_rfl) (by kernel_rfl) (fun _ _ _ h => h) (by kernel_rfl) (fun _ _ => exec_add_nat 3 3 (.tmp 73) _ rfl a 3 (by kernel_rfl) (by kernel_rfl) (by omega)) ?_
      refine wh_take 5 (.slice (some ⟨b0, o0 + (a + 1), none⟩) 2 (cap - (a + 1))) rfl (by kernel_rfl) (by kernel_rfl) (fun _ _ _ h => h) (by kernel_rfl) (fun _ _ => exec_slice_lh0 (.tmp 70) _ _ rfl b0 o0 b.length cap ((a + 1)) ((a + 3)) 2 (by kernel_rfl) (by kernel_rfl) (by kernel_rfl) (by omega) (by omega) (by omega) (by omega)) ?_
      refine wh_take 7 (.slice (some ⟨b0, o0, none⟩) b.length cap) rfl (by kernel_rfl) (by kernel_rfl) (fun _ _ _ h => h) (by kernel_rfl) (fun _ _ => by kernel_rfl) ?_
      refine wh_take 8 (.int .i64 (a : Nat)) rfl (by kernel_rfl) (by kernel_rfl) (fun _ _ _ h => h) (by kernel_rfl) (fun _ _ => by kernel_rfl) ?_
      refine wh_take 9 (.int .i64 ((a + 3 : Nat) : Int)) rfl (by kernel_rfl) (by kernel_rfl) (fun _ _ _ h => h) (by kernel_rfl) (fun _ _ => exec_add_nat 3 3 (.tmp 78) _ rfl a 3 (by kernel_rfl) (by kernel_rfl) (by omega)) ?_
      refine wh_take 10 (.int .i64 (a : Nat)) rfl (by kernel_rfl) (by kernel_rfl) (fun _ _ _ h => h) (by kernel_rfl) (fun _ _ => by kernel_rfl) ?_
      refine wh_take 11 (.int .i64 ((a + 5 : Nat) : Int)) rfl (by kernel_rfl) (by kernel_rfl) (fun _ _ _ h => h) (by kernel_rfl) (fun _ _ => exec_add_nat 3 3 (.tmp 80) _ rfl a 5 (by kernel_rfl) (by kernel_rfl) (by omega)) ?_
      refine wh_take 12 (.slice (some ⟨b0, o0 + (a + 3), none⟩) 2 (cap - (a + 3))) rfl (by kernel_rfl) (by kernel_rfl) (fun _ _ _ h => h) (by kernel_rfl) (fun _ _ => exec_slice_lh0 (.tmp 77) _ _ rfl b0 o0 b.length cap ((a + 3)) ((a + 5)) 2 (by kernel_rfl) (by kernel_rfl) (by kernel_rfl) (by omega) (by omega) (by omega) (by omega)) ?_
      refine wh_take 14 (.slice (some ⟨b0, o0, none⟩) b.length cap) rfl (by kernel_rfl) (by kernel_rfl) (fun _ _ _ h => h) (by kernel_rfl) (fun _ _ => by kernel_rfl) ?_
      refine wh_take 15 (.int .i64 (a : Nat)) rfl (by kernel_rfl) (by kernel_rfl) (fun _ _ _ h => h) (by kernel_rfl) (fun _ _ => by kernel_rfl) ?_
      refine wh_take 16 (.pointer (some ⟨b0, o0 + a, none⟩)) rfl (by kernel_rfl) (by kernel_rfl) (fun _ _ _ h => h) (by kernel_rfl) (fun _ _ => exec_index_b (.tmp 84) (.tmp 85) rfl b0 o0 a b.length cap (by kernel_rfl) (by kernel_rfl) (by omega)) ?_
      refine wh_take 17 (B8 k0) rfl (by kernel_rfl) (by kernel_rfl) (fun _ _ _ h => h) (by kernel_rfl) (fun W h => exec_load_cell 5 (.tmp 86) rfl ⟨b0, o0 + a, none⟩ _ (by kernel_rfl) (hcell.out W (hS.then_ h)) Try.isAgg5) ?_
      refine wh_take 18 (.bool z2) rfl (by kernel_rfl) (by kernel_rfl) (fun _ _ _ h => h) (by kernel_rfl) (fun _ _ => exec_eql_u8 5 5 (.tmp 87) _ rfl _ 2 (by kernel_rfl) (by kernel_rfl) z2 hz2i.out) ?_
      refine wh_two 6 20 (by kernel_rfl) d0 ?_ ?_
      · refine wo_call 6 44 #[.slice (some ⟨b0, o0 + (a + 1), none⟩) 2 (cap - (a + 1))] rfl (by kernel_rfl) (fun _ => by kernel_rfl) ?_
        refine (hn1.out _ (hS.then_ d0)).mono ?_
        rintro e W1 ⟨rfl, rfl⟩
        refine ⟨_, rfl, ?_⟩
        refine wh_two 13 20 (by kernel_rfl) d0 ?_ ?_
        · refine wo_call 13 44 #[.slice (some ⟨b0, o0 + (a + 3), none⟩) 2 (cap - (a + 3))] rfl (by kernel_rfl) (fun _ => by kernel_rfl) ?_
          refine (hn3.out _ (hS.then_ d0)).mono ?_
          rintro e W1 ⟨rfl, rfl⟩
          refine ⟨_, rfl, ?_⟩
          refine wh_take 19 (.agg (⟨fr, ct, z2, none, 0, []⟩ : Rec).val.toArray) rfl (by kernel_rfl) (by kernel_rfl) (fun _ _ _ h => h) (by kernel_rfl) (fun _ _ => exec_build 39 _ rfl (⟨fr, ct, z2, none, 0, []⟩ : Rec).val (by kernel_rfl)) ?_
          obtain ⟨W1, hw1, z1, hb1⟩ := new_row wr.drew 39 ([.int .i64 0, .int .i64 0, .bool false, .slice none 0 0])
          refine wh_run 20 (v := .pointer (some ⟨wr.drew.heap.size, 0, none⟩)) (w' := W1) rfl (by kernel_rfl) (by kernel_rfl) d0 (by rw [hw1]; exact exec_alloc_row 39 rfl _ zero_rec) ?_
          have d1 := d0.then_ hb1
          have hga : wr.heap.size ≤ wr.drew.heap.size := d0.size
          obtain ⟨W2, hw2, z2, d2, _⟩ := put_row (w0 := wr) 39 4 Try.sizeOf39 z1 rfl hga d1 ((⟨fr, ct, z2, none, 0, []⟩ : Rec).val) rfl hSo.out
          refine wh_skip 21 (w' := W2) rfl (by kernel_rfl) (by kernel_rfl) d1 (hw2 _ _ (.tmp 7) (.tmp 89) rfl (by kernel_rfl) (by kernel_rfl)) ?_
          refine wh_done (by kernel_rfl) d2 ?_
          simp only [Act.put, List.setIfInBounds_toArray, List.set_cons_zero, List.set_cons_succ]
          go_wp2_with fail
          go_meet
          exact ⟨wr.drew.heap.size, rfl, z2, d2, hga⟩
        · obtain ⟨W1, hw1, z1, hb1⟩ := new_row wr.drew 39 ([.int .i64 0, .int .i64 0, .bool false, .slice none 0 0])
          refine wo_run 20 (v := .pointer (some ⟨wr.drew.heap.size, 0, none⟩)) (w' := W1) rfl (by kernel_rfl) (by rw [hw1]; exact exec_alloc_row 39 rfl _ zero_rec) ?_
          have d1 := d0.then_ hb1
          have hga : wr.heap.size ≤ wr.drew.heap.size := d0.size
          refine wh_call 13 44 #[.slice (some ⟨b0, o0 + (a + 3), none⟩) 2 (cap - (a + 3))] rfl (by kernel_rfl) (by kernel_rfl) d1 (fun _ => by kernel_rfl) ?_
          refine (hn3.out _ (hS.then_ d1)).mono ?_
          rintro e W2 ⟨rfl, rfl⟩
          refine ⟨_, rfl, ?_⟩
          refine wh_take 19 (.agg (⟨fr, ct, z2, none, 0, []⟩ : Rec).val.toArray) rfl (by kernel_rfl) (by kernel_rfl) (fun _ _ _ h => h) (by kernel_rfl) (fun _ _ => exec_build 39 _ rfl (⟨fr, ct, z2, none, 0, []⟩ : Rec).val (by kernel_rfl)) ?_
          obtain ⟨W2, hw2, z2, d2, _⟩ := put_row (w0 := wr) 39 4 Try.sizeOf39 z1 rfl hga d1 ((⟨fr, ct, z2, none, 0, []⟩ : Rec).val) rfl hSo.out
          refine wh_skip 21 (w' := W2) rfl (by kernel_rfl) (by kernel_rfl) d1 (hw2 _ _ (.tmp 7) (.tmp 89) rfl (by kernel_rfl) (by kernel_rfl)) ?_
          refine wh_done (by kernel_rfl) d2 ?_
          simp only [Act.put, List.setIfInBounds_toArray, List.set_cons_zero, List.set_cons_succ]
          go_wp2_with fail
          go_meet
          exact ⟨wr.drew.heap.size, rfl, z2, d2, hga⟩
      · obtain ⟨W1, hw1, z1, hb1⟩ := new_row wr.drew 39 ([.int .i64 0, .int .i64 0, .bool false, .slice none 0 0])
        refine wo_run 20 (v := .pointer (some ⟨wr.drew.heap.size, 0, none⟩)) (w' := W1) rfl (by kernel_rfl) (by rw [hw1]; exact exec_alloc_row 39 rfl _ zero_rec) ?_
        have d1 := d0.then_ hb1
        have hga : wr.heap.size ≤ wr.drew.heap.size := d0.size
        refine wh_call 6 44 #[.slice (some ⟨b0, o0 + (a + 1), none⟩) 2 (cap - (a + 1))] rfl (by kernel_rfl) (by kernel_rfl) d1 (fun _ => by kernel_rfl) ?_
        refine (hn1.out _ (hS.then_ d1)).mono ?_
        rintro e W2 ⟨rfl, rfl⟩
        refine ⟨_, rfl, ?_⟩
        refine wh_call 13 44 #[.slice (some ⟨b0, o0 + (a + 3), none⟩) 2 (cap - (a + 3))] rfl (by kernel_rfl) (by kernel_rfl) d1 (fun _ => by kernel_rfl) ?_
        refine (hn3.out _ (hS.then_ d1)).mono ?_
        rintro e W2 ⟨rfl, rfl⟩
        refine ⟨_, rfl, ?_⟩
        refine wh_take 19 (.agg (⟨fr, ct, z2, none, 0, []⟩ : Rec).val.toArray) rfl (by kernel_rfl) (by kernel_rfl) (fun _ _ _ h => h) (by kernel_rfl) (fun _ _ => exec_build 39 _ rfl (⟨fr, ct, z2, none, 0, []⟩ : Rec).val (by kernel_rfl)) ?_
        obtain ⟨W2, hw2, z2, d2, _⟩ := put_row (w0 := wr) 39 4 Try.sizeOf39 z1 rfl hga d1 ((⟨fr, ct, z2, none, 0, []⟩ : Rec).val) rfl hSo.out
        refine wh_skip 21 (w' := W2) rfl (by kernel_rfl) (by kernel_rfl) d1 (hw2 _ _ (.tmp 7) (.tmp 89) rfl (by kernel_rfl) (by kernel_rfl)) ?_
        refine wh_done (by kernel_rfl) d2 ?_
        simp only [Act.put, List.setIfInBounds_toArray, List.set_cons_zero, List.set_cons_succ]
        go_wp2_with fail
        go_meet
        exact ⟨wr.drew.heap.size, rfl, z2, d2, hga⟩
      -- held21>
    case rest =>
    obtain ⟨gx, rfl, hrx, hSx, hgx⟩ := hcut
    have hcl := hcell.out wc (hS.then_ hSx)
    have hrs5 := hrs.step hSx
    have hown5 := hown.below hSx (Nat.le_refl _)
    have hcr5 := Lib.hid (fun r hr => (hcr.out r hr).below hSx)
    have hrr5 := hrrk.step hSx
    have hW5 := bthen hWk hSx
    have hS5 := hS.then_ hSx
    have hgxl := hrx.lt
    have hgx1 : w1.heap.size ≤ gx := Nat.le_trans hS.size hgx
    have hgsx : gs ≠ gx := by have := hrs.lt; omega
    have hlo := Lib.hid (fun j (e : s.A.map (·.block) = some j) => Nat.lt_of_lt_of_le (hown.lt j e).2 hgx)
    have e0 := hrx.cellD 0 (.int .i64 fr) rfl
    have e1 := hrx.cellD 1 (.int .i64 ct) rfl
    have e2 := hrx.cellD 2 (.bool z2) rfl
    have f0 := hrs5.cellD 0 (.int .i64 s.blocks) rfl
    clear hrs hown hcr hrrk hWk hSx hn1 hn3 hcell hz2i hgx
    go_upto_region 22 with fail
    by_cases hkb : k0 ≠ 1 ∧ k0 ≠ 2
    · have hr := Lib.hid (herr.out 11 (by rw [hrec'.out, hk0'.out, if_pos hkb]))
      have hq1 : ((k0.toNat : Int) != 1) = true := by have h := ne_u8 (b := 1) hkb.1; rw [bne]; exact congrArg not h
      have hq2 : ((k0.toNat : Int) != 2) = true := by have h := ne_u8 (b := 2) hkb.2; rw [bne]; exact congrArg not h
      clear hkb hrec' herr hcr5 hown5 e0 e1 e2 f0
      go_wp2_with (refine wpList_got 102 rfl 11 rfl (.tmp 2) (.tmp 102) rfl rfl hrr5 rfl rfl rfl rfl ?_; intro w9 hr9 hg9)
      exact got_err hr9 rfl hW5 hg9 (Nat.le_refl _) (by decide) hr.out
    have hrc2 := hrec'.out
    rw [hk0'.out, if_neg hkb, hofr'.out, hoct'.out] at hrc2
    have hkz : (k0 = 1 ∧ z2 = false) ∨ (k0 = 2 ∧ z2 = true) := by
      rw [hz2]
      by_cases h1 : k0 = 1
      · exact .inl ⟨h1, by rw [h1]; rfl⟩
      · by_cases h2 : k0 = 2
        · exact .inr ⟨h2, by rw [h2]; rfl⟩
        · exact absurd ⟨h1, h2⟩ hkb
    replace hkz := Lib.hid hkz
    have hz2' := Lib.hid hz2
    clear hkb hrec' hz2
    go_cut [101] from 59 to 176 (fun v wx => v = .bool false ∧ wx = wc)
    case first =>
      rcases hkz.out with ⟨h1, _⟩ | ⟨h1, _⟩
      all_goals
        rw [h1] at hcl
        clear h1 e0 e1 e2 f0
        go_wp2_with fail
        go_meet
        exact ⟨rfl, rfl⟩
    case rest =>
    obtain ⟨rfl, rfl⟩ := hcut
    clear hcl
    obtain ⟨g1, g2, _, _, _⟩ := good_head hg.out
    by_cases hrg : ct < 1 ∨ s.blocks ≤ fr ∨ s.blocks - fr < ct
    · have hr := Lib.hid (herr.out 25 (by rw [hrc2]; exact if_pos hrg))
      have hrg' : ct < 1 ∨ (1 ≤ ct ∧ s.blocks ≤ fr) ∨ (1 ≤ ct ∧ fr < s.blocks ∧ s.blocks - fr < ct) := by omega
      clear hrg hrc2 herr hcr5 hown5
      rcases hrg' with h | ⟨h, h'⟩ | ⟨h, h', h''⟩
      all_goals
        go_upto_region 25 with fail
        go_wp2_with (refine wpList_got 123 rfl 25 rfl (.tmp 2) (.tmp 123) rfl rfl hrr5 rfl rfl rfl rfl ?_; intro w9 hr9 hg9)
        exact got_err hr9 rfl hW5 hg9 (Nat.le_refl _) (by decide) hr.out
    have r1 : 1 ≤ ct := by omega
    have r2 : fr < s.blocks := by omega
    have r3 : ct ≤ s.blocks - fr := by omega
    have r4 : ct ≤ 64 := by omega
    have hrc3 := hrc2.trans (if_neg hrg)
    clear hrg hrc2
    obtain ⟨sz, hsz⟩ : ∃ sz, sizeR (b.drop a) = sz := ⟨_, rfl⟩
    have hszc := Lib.hid (show (k0 = 1 → (sz : Int) = ct * 64) ∧ (k0 = 2 → sz = 0) by
      rw [← hsz]
      unfold sizeR
      rw [hk0'.out]
      refine ⟨fun h => ?_, fun h => by rw [h]; rfl⟩
      rw [if_pos h]
      have : numP (((b.drop a).drop 3).take 2) = ct := hoct'.out
      rw [this]
      omega)
    have hszb : sz ≤ 4096 := by
      rcases hkz.out with ⟨h1, _⟩ | ⟨h1, _⟩
      · have := hszc.out.1 h1
        omega
      · have := hszc.out.2 h1
        omega
    rw [hsz] at hrc3
    replace hrc3 := Lib.hid hrc3
    go_upto_if 126 with fail
    go_cut [8] from 59 to 176 (fun v wx => v = .int .i64 (sz : Int) ∧ wx = wc)
    case first =>
      rcases hkz.out with ⟨h1, h2⟩ | ⟨h1, h2⟩
      · have h3 := Lib.hid (hszc.out.1 h1)
        subst h2
        clear h1
        go_wp2_with fail
        go_meet
        exact ⟨by rw [h3.out], rfl⟩
      · have h3 := Lib.hid (hszc.out.2 h1)
        subst h2
        clear h1
        go_wp2_with fail
        go_meet
        exact ⟨by rw [h3.out]; rfl, rfl⟩
    case rest =>
    obtain ⟨rfl, rfl⟩ := hcut
    clear e0 e1 e2 f0
    by_cases h6 : b.length - a < 5 + sz + 8
    · have hr := Lib.hid (herr.out 21 (by rw [hrc3.out]; exact if_pos (by rw [List.length_drop]; omega)))
      have hd6 : decide ((b.length : Int) - (a : Int) < 5 + (sz : Int) + 8) = true := decide_eq_true (by omega)
      clear herr hcr5 hown5
      go_upto_region 30 with fail
      go_wp2_with (refine wpList_got 138 rfl 21 rfl (.tmp 2) (.tmp 138) rfl rfl hrr5 rfl rfl rfl rfl ?_; intro w9 hr9 hg9)
      exact got_err hr9 rfl hW5 hg9 (Nat.le_refl _) (by decide) hr.out
    have hd6 : decide ((b.length : Int) - (a : Int) < 5 + (sz : Int) + 8) = false := decide_eq_false (by omega)
    have hA3 : (a : Int) + 5 + (sz : Int) + 8 ≤ (b.length : Int) := by omega
    have hrc4 := Lib.hid (hrc3.out.trans (if_neg (by rw [List.length_drop]; omega)))
    clear h6 hrc3
    have hse := seal_take (b := b.drop a) (m := 5 + sz) (by rw [List.length_drop]; omega)
    obtain ⟨t1, ht1⟩ : ∃ t1, t1 = sealedB ((b.drop a).take (5 + sz + 8)) := ⟨_, rfl⟩
    have hsc := Lib.hid (fun W (hW : Since w1 W) => sealed17_calls b0 (o0 + a) (cap - a) (a + 5 + sz + 8 - a) ((b.drop a).take (5 + sz + 8)) (by rw [List.length_take, List.length_drop]; omega) (by omega) (by omega) (by omega) W _ ((piece_lh hb1 a (5 + sz + 8) (by omega)).step hW) t1 ht1.symm)
    rw [hse] at ht1
    clear hse
    cases t1
    · have hne : check ((b.drop a).take (5 + sz)) ≠ getN (((b.drop a).drop (5 + sz)).take 8) := by
        intro e
        rw [e] at ht1
        simp at ht1
      have hr := Lib.hid (herr.out 22 (by rw [hrc4.out]; exact if_pos hne))
      clear hne ht1 herr hrc4 hcr5 hown5
      go_wp2_with fail
      refine (hsc.out wc hS5).mono ?_
      rintro e w6 ⟨rfl, hB6⟩
      have hrr6 := hrr5.step hB6
      have hW6 := bthen hW5 hB6
      go_upto_region 32 with fail
      go_wp2_with (refine wpList_got 149 rfl 22 rfl (.tmp 2) (.tmp 149) rfl rfl hrr6 rfl rfl rfl rfl ?_; intro w9 hr9 hg9)
      exact got_err hr9 rfl hW6 hg9 (Nat.le_refl _) (by decide) hr.out
    have heq : check ((b.drop a).take (5 + sz)) = getN (((b.drop a).drop (5 + sz)).take 8) := by simpa using ht1.symm
    have hrc5 := Lib.hid (hrc4.out.trans (if_neg (fun h => h heq)))
    clear heq ht1 hrc4
    go_wp2_with fail
    refine (hsc.out wc hS5).mono ?_
    rintro e w6 ⟨rfl, hB6⟩
    have hrs6 := hrs5.step hB6
    have hrx6 := hrx.step hB6
    have hown6 := hown5.below hB6 (Nat.le_refl _)
    have hcr6 := Lib.hid (fun r hr => (hcr5.out r hr).below hB6)
    have hrr6 := hrr5.step hB6
    have hW6 := bthen hW5 hB6
    have hS6 := hS5.then_ hB6
    clear hrs5 hrx hown5 hcr5 hrr5 hW5 hS5 hB6 hsc
    have hdb := (piece_lh hb1 (a + 5) sz (by omega)).step hS6
    have hdl : ((b.drop (a + 5)).take sz).length = sz := by rw [List.length_take, List.length_drop]; omega
    obtain ⟨dt, hdt⟩ : ∃ dt, dt = (b.drop (a + 5)).take sz := ⟨_, rfl⟩
    rw [← hdt] at hdb hdl
    have hown7 := OwnB.made w6 w6.heap.size 5 (Nat.le_refl _)
    have hBe := alloc_below w6 (.cells #[] 5)
    have hdb7 := hdb.step hBe
    have hca : ¬ cap = a + 5 := by omega
    go_wp2_with (at_builtin; first | (refine wpList_app_b hBe.size rfl _ _ 25 rfl Try.underlying25 Try.info_byte 0 (by rfl) hown7 (cap - (a + 5)) sz hdl hdb7 (by rfl) (by rfl) (by omega) ?_) | go_loud (refine wpList_app_b hBe.size rfl _ _ 25 rfl Try.underlying25 Try.info_byte 0 (by rfl) hown7 (cap - (a + 5)) (a + 5 + sz - (a + 5)) (by omega) hdb7 (by rfl) (by rfl) (by omega) ?_))
    intro z8 A8 c8 w8 hz8 o8 hg8 _
    have s8 : Since w6 w8 := grown_b hBe (Nat.le_refl _) hown7 hg8
    have hbs : w1.heap.size ≤ w6.heap.size := hS6.size
    have hgx6 := hrx6.lt
    have hrx8 := hrx6.step s8
    have hrs8 := hrs6.step s8
    have e3 := hrx8.cellD 3 (.slice none 0 0) rfl
    have g3 := hrx8.free 3
    have hrx9 := hrx8.set 3 (.slice A8 z8.length c8)
    have hset := setCell_grown w8 gx 3 (.slice A8 z8.length c8)
    have hS8 := hS6.then_ s8
    have hW8 := bthen hW6 s8
    have hS9 : Since w1 (w8.setCell ⟨gx, 3, none⟩ (.slice A8 z8.length c8)) := hS8.grown hset hS8.size (fun j e => by cases e; exact hgx1)
    have hW9 : Below w.heap.size w (w8.setCell ⟨gx, 3, none⟩ (.slice A8 z8.length c8)) := hW8.grown hset hW8.size (fun j e => by cases e; omega)
    have hrs9 := hrs8.kept hset (fun e => by injection e with e; exact hgsx e.symm)
    have hrr9 := hrr0.out _ hS9
    have hown9 : OwnR (w8.setCell ⟨gx, 3, none⟩ (.slice A8 z8.length c8)) w1.heap.size s.A s.cap s.recs := by
      refine (hown6.below s8 (Nat.le_refl _)).kept hset ?_
      cases hk : s.A.map (·.block) with
      | none => exact .inl rfl
      | some j => exact .inr (fun e => by injection e with e; have := hlo.out j hk; omega)
    have hcr9 := Lib.hid (fun r hr => ((hcr6.out r hr).below s8).kept hset (fun j e => by cases e; exact ⟨_, _, _, hrx8, by decide⟩))
    have o9 := apart_own o8 hset (fun j e => by cases e; exact hgx6)
    have hX9 : List.set (⟨fr, ct, z2, none, 0, []⟩ : Rec).val 3 (.slice A8 z8.length c8) = (⟨fr, ct, z2, A8, c8, z8⟩ : Rec).val := rfl
    rw [hX9] at hrx9
    obtain ⟨X, hX⟩ : ∃ X : Rec, X = ⟨fr, ct, z2, A8, c8, z8⟩ := ⟨_, rfl⟩
    rw [← hX] at hrx9
    have hXo : CRec (w8.setCell ⟨gx, 3, none⟩ (.slice A8 z8.length c8)) w6.heap.size X := by rw [hX]; exact ⟨o9, by show _ ≤ fr; omega, by show fr ≤ _; omega, by show _ ≤ ct; omega, by show ct ≤ _; omega⟩
    have hXp : recOfB (b.drop a) = X.pl := by
      have h1 : (b.drop a).drop 5 = b.drop (a + 5) := List.drop_drop
      have h2 : z8 = dt := by
        have h := hz8.out
        first | exact h | exact h.trans hdt.symm | exact h.trans (List.nil_append _)
      unfold recOfB
      rw [hX]
      show (⟨(recOfB (b.drop a)).fr, (recOfB (b.drop a)).ct, _, none, 0, _⟩ : Rec) = ⟨fr, ct, z2, none, 0, z8⟩
      rw [hofr'.out, hoct'.out, hk0'.out, hz2'.out, hsz, h1, h2, hdt]
    have hrc6 := hrc5.out
    rw [hXp] at hrc6
    have hgd : goodB (s.pl.add X.pl) = nextB s X := by
      rw [← add_pl s none 0 X, goodB_pl]
      exact next_good hg.out none 0 X
    rw [hgd] at hrc6
    have hsok : s.Ok (w8.setCell ⟨gx, 3, none⟩ (.slice A8 z8.length c8)) (w8.setCell ⟨gx, 3, none⟩ (.slice A8 z8.length c8)).heap.size := got_ok hown9 (fun r hr => (hcr9.out r hr).ok) hg.out
    have hcl9 := Lib.hid (fun v (hv : nextB s X = v) SV XV (hSV : Hid (SV = s.val)) (hXV : Hid (XV = X.val)) => rnext_L s X _ (by rw [hsl.out]; omega) hsok hXo.ok g1 g2 (good_prev hg.out) SV XV hSV hXV v hv)
    replace hXo := Lib.hid hXo
    obtain ⟨SV, hSV⟩ : ∃ SV, SV = s.val := ⟨_, rfl⟩
    obtain ⟨XV, hXV⟩ : ∃ XV, XV = X.val := ⟨_, rfl⟩
    rw [← hSV] at hrs9
    rw [← hXV] at hrx9
    have HS4 := Lib.hid (show SV.length = 4 by rw [hSV]; rfl)
    have HST := Lib.hid (show (SV.drop 0).take 4 = SV from List.take_of_length_le (Nat.le_of_eq HS4.out))
    have HSV := Lib.hid hSV
    have HX4 := Lib.hid (show XV.length = 4 by rw [hXV]; rfl)
    have HXT := Lib.hid (show (XV.drop 0).take 4 = XV from List.take_of_length_le (Nat.le_of_eq HX4.out))
    have HXV := Lib.hid hXV
    have hrc6' := Lib.hid hrc6
    clear hSV hXV hgd hrc6 hXp hX hX9 o9 hset hrx8 hrs8 hS8 hW8 s8 o8 hg8 hz8 hdb7 hBe hown7 hdb hdl hown6 hcr6 hrr6 hW6 hS6 hrs6 hrx6 hsok hofr' hoct' hk0' hz2' hrc5 hkz hszc
    go_upto_region 34 with fail
    clear e3 g3
    generalize w8.setCell ⟨gx, 3, none⟩ (.slice A8 z8.length c8) = w9 at *
    cases hnx : nextB s X
    · have hr := Lib.hid (herr.out 26 (by rw [hrc6'.out]; exact if_pos hnx))
      have hcl9' := hcl9.out false hnx SV XV HSV HXV
      replace hcl9' := Lib.hid hcl9'
      clear hnx hrc6' herr hcl9 hown9 hcr9
      go_wp2_with (first
        | (refine wpList_load_part 161 rfl 24 (.tmp 3) rfl hrs9 0 4 SV rfl rfl HST.out HS4.out Try.isAgg24 Try.sizeOf24 ?_)
        | (refine wpList_load_part 162 rfl 39 (.tmp 7) rfl hrx9 0 4 XV rfl rfl HXT.out HX4.out Try.isAgg39 Try.sizeOf39 ?_))
      refine hcl9'.out.mono ?_
      rintro e w10 ⟨rfl, hB10⟩
      have hrr10 := hrr9.step hB10
      have hW10 := bthen hW9 hB10
      go_upto_region 35 with fail
      go_wp2_with (refine wpList_got 165 rfl 26 rfl (.tmp 2) (.tmp 165) rfl rfl hrr10 rfl rfl rfl rfl ?_; intro w11 hr9 hg9)
      exact got_err hr9 rfl hW10 hg9 (Nat.le_refl _) (by decide) hr.out
    have hrc7 := Lib.hid (hrc6'.out.trans (if_neg (by rw [hnx]; decide)))
    have hcl9' := hcl9.out true hnx SV XV HSV HXV
    replace hcl9' := Lib.hid hcl9'
    have hgn := Lib.hid (fun A' c' => (next_good hg.out A' c' X).trans hnx)
    clear hnx hrc6' hcl9
    go_wp2_with (first
      | (refine wpList_load_part 161 rfl 24 (.tmp 3) rfl hrs9 0 4 SV rfl rfl HST.out HS4.out Try.isAgg24 Try.sizeOf24 ?_)
      | (refine wpList_load_part 162 rfl 39 (.tmp 7) rfl hrx9 0 4 XV rfl rfl HXT.out HX4.out Try.isAgg39 Try.sizeOf39 ?_))
    refine hcl9'.out.mono ?_
    rintro e w10 ⟨rfl, hB10⟩
    have hrs10 := hrs9.step hB10
    have hrx10 := hrx9.step hB10
    have hown10 := hown9.below hB10 (Nat.le_refl _)
    have hcr10 := Lib.hid (fun r hr => (hcr9.out r hr).below hB10)
    have hXo10 := Lib.hid ((hXo.out.below hB10))
    have hS10 := hS9.then_ hB10
    have z3 := hrs10.cellD 3 (.slice s.A s.recs.length s.cap) (by rw [HSV.out]; rfl)
    have y3 := hrs10.free 3
    clear hrs9 hrx9 hown9 hcr9 hXo hS9 hW9 hrr9 hB10 hcl9' HST HS4 herr
    go_upto_region 36 with fail
    go_wp2_with (first
      | (refine wpList_load_part 168 rfl 39 (.tmp 7) rfl hrx10 0 4 XV rfl rfl HXT.out HX4.out Try.isAgg39 Try.sizeOf39 ?_)
      | (refine wpList_lit_row 169 rfl 22 39 (.tmp 168) rfl XV rfl rfl 4 HX4.out (z := .agg #[.int .i64 0, .int .i64 0, .bool false, .slice none 0 0]) (b := 48) Try.underlying22 (by kernel_rfl) (by decide) (by decide) ?_))
    intro w11 hw11 hlr
    have hb11 := alloc_below w10 (.cells XV.toArray 39)
    rw [← hw11] at hb11
    clear hw11
    have own11 := hown10.below hb11 (Nat.le_refl _)
    have sS11 := hS10.then_ hb11
    obtain ⟨zs9, A9, c9, w12, hz9, hex, own12, hg12⟩ := app_rec_n w11 w1.heap.size sS11.size s.recs.length rfl own11 (by rw [hsl.out]; omega) XV X HXV.out hlr
    refine wpList_run rfl _ w12 (hex _ _ (.tmp 167) (.tmp 169) rfl rfl rfl rfl) ?_
    have hty : ∀ j, s.A.map (·.block) = some j → ∃ cs, w11.heap[j]? = some (.cells cs 39) := fun j e => own11.row j e
    have hne : s.A.map (·.block) ≠ some gs := fun e => by
      obtain ⟨cs, h⟩ := hty gs e
      have h2 : w11.heap[gs]? = some (.cells SV.toArray 24 (0, 0)) := hrs10.step hb11
      exact ne_of_type h h2 (by decide) rfl
    have hrs12 := (hrs10.step hb11).kept hg12 hne
    have sS12 : Since w1 w12 := sS11.grown hg12 sS11.size (fun j e => (own11.lt j e).1)
    have x3 := hrs12.cellD 3 (.slice s.A s.recs.length s.cap) (by rw [HSV.out]; rfl)
    have v3 := hrs12.free 3
    have hty8 : ∀ j, s.A.map (·.block) = some j → ∃ cs t f, w11.heap[j]? = some (.cells cs t f) ∧ t ≠ 5 := fun j e => by
      obtain ⟨cs, h⟩ := hty j e
      exact ⟨cs, _, _, h, by decide⟩
    have hcr12 : ∀ r ∈ zs9, CRec w12 w1.heap.size r := by
      intro r hr
      rw [hz9.out] at hr
      rcases List.mem_append.1 hr with hr | hr
      · exact ((hcr10.out r hr).below hb11).kept hg12 hty8
      · rw [List.mem_singleton.1 hr]
        exact ((hXo10.out.below hb11).kept hg12 hty8).mono hbs
    have hset12 := setCell_grown w12 gs 3 (.slice A9 zs9.length c9)
    have hst12 : ∀ j, some gs = some j → ∃ cs t f, w12.heap[j]? = some (.cells cs t f) ∧ t = 24 := fun j e => by
      cases e
      exact ⟨_, _, _, hrs12, rfl⟩
    have hcr13 := Lib.hid (fun r hr => (hcr12 r hr).kept hset12 (fun j e => by obtain ⟨cs, t, f, h1, h2⟩ := hst12 j e; exact ⟨cs, t, f, h1, by rw [h2]; decide⟩))
    have own13 := own12.kept_type hset12 (fun j e => by obtain ⟨cs, t, f, h1, h2⟩ := hst12 j e; exact ⟨cs, t, f, h1, by rw [h2]; decide⟩)
    have sS13 : Since w1 (w12.setCell ⟨gs, 3, none⟩ (.slice A9 zs9.length c9)) := sS12.grown hset12 sS12.size (fun j e => by cases e; exact hgs)
    have hrs13 := hrs12.set 3 (.slice A9 zs9.length c9)
    have hS13 : SV.set 3 (.slice A9 zs9.length c9) = (⟨s.blocks, s.base, s.id, A9, c9, zs9⟩ : Str).val := by rw [HSV.out]; rfl
    rw [hS13] at hrs13
    have hgn9 := Lib.hid (show goodB ⟨s.blocks, s.base, s.id, A9, c9, zs9⟩ = true by rw [hz9.out]; exact hgn.out A9 c9)
    have hln9 := Lib.hid (show zs9.length = k + 1 by rw [hz9.out, List.length_append, hsl.out]; rfl)
    have hPn := Lib.hid (show parseP b = recsR (m - (k + 1)) (⟨s.blocks, s.base, s.id, A9, c9, zs9⟩ : Str).pl (b.drop (a + (5 + sz + 8))) by
      rw [hz9.out, add_pl, hPk'.out, recsR, hrc7.out]
      show recsR _ (s.pl.add X.pl) _ = _
      rw [List.drop_drop])
    clear hcr12 hst12 hty8 hty hne hcr10 hXo10 own11 own12 hex hg12 hlr hb11 hrs10 hrx10 hown10 hS10 sS11 sS12 z3 y3 hset12 hS13 hrs12 hgn hrc7 hsl hg HSV HXV HXT HX4 hz9
    go_wp2_with fail
    go_roundw
    case rel => exact ⟨k + 1, a + (5 + sz + 8), ⟨s.blocks, s.base, s.id, A9, c9, zs9⟩, by omega, by go_num, by go_num, by omega, hPn, hgn9, hln9, hrs13, own13, hcr13, sS13⟩
    case measure => simp [intOf]; omega
  · obtain rfl : k = m := by omega
    have hd1 : decide ((k : Int) < (k : Int)) = false := decide_eq_false (by omega)
    have hPk := hP.out
    rw [Nat.sub_self] at hPk
    have hRR := parseR_P b
    rw [hPk] at hRR
    simp only [recsR] at hRR
    have hend : endR b (b.drop a) = _ := endR.eq_1 b (b.drop a)
    have hrl : (b.drop a).length = b.length - a := List.length_drop
    have hbl : b.length - (b.drop a).length = a := by omega
    rw [hbl] at hend
    have herr := Lib.hid (fun c (hc : c ≠ 0) (h : endR b (b.drop a) = c) => show parseR b = .error c by rw [hRR, if_neg (by rw [h]; exact hc), h])
    have hfin := Lib.hid (fun (h : endR b (b.drop a) = 0) => show parseR b = .ok s.pl by rw [hRR, if_pos h])
    clear hP hPk hRR hbl
    by_cases h9 : b.length - a < 9
    · have hr := Lib.hid (herr.out 21 (by decide) (by rw [hend, if_pos (by omega)]))
      have hd9 : decide ((b.length : Int) - (a : Int) < 9) = true := decide_eq_true (by omega)
      clear hend hcr hown herr hfin
      go_upto_region 39 with fail
      go_wp2_with (refine wpList_got 182 rfl 21 rfl (.tmp 2) (.tmp 182) rfl rfl hrrk rfl rfl rfl rfl ?_; intro w9 hr9 hg9)
      exact got_err hr9 rfl hWk hg9 (Nat.le_refl _) (by decide) hr.out
    have hd9 : decide ((b.length : Int) - (a : Int) < 9) = false := decide_eq_false (by omega)
    rw [if_neg (by omega)] at hend
    have hA2 : (a : Int) + 9 ≤ (b.length : Int) := by omega
    have hA4 : (a : Int) < (b.length : Int) := by omega
    clear h9
    obtain ⟨k0, hk0⟩ : ∃ k0, (b.drop a)[0]?.getD 0 = k0 := ⟨_, rfl⟩
    have hcl : wr.cell? ⟨b0, o0 + a, none⟩ = some (B8 k0) := by
      obtain ⟨b', o', hA', _, hcc⟩ := hb1.resolve_left (fun e => by rw [e] at hA2; simp at hA2; omega)
      injection hA' with hA'
      injection hA' with e1 e2 _
      subst e1 e2
      have := hS.cell (hcc a (by omega))
      rw [List.getElem?_drop] at hk0
      rw [this, ← hk0]
      rfl
    rw [hk0] at hend
    by_cases hk9 : k0 ≠ 0x45
    · have hr := Lib.hid (herr.out 11 (by decide) (by rw [hend, if_pos hk9]))
      have hq : ((k0.toNat : Int) != 69) = true := by have h := ne_u8 (b := 0x45) hk9; rw [bne]; exact congrArg not h
      clear hend hcr hown herr hfin hk9 hk0
      go_upto_region 41 with fail
      go_wp2_with (refine wpList_got 188 rfl 11 rfl (.tmp 2) (.tmp 188) rfl rfl hrrk rfl rfl rfl rfl ?_; intro w9 hr9 hg9)
      exact got_err hr9 rfl hWk hg9 (Nat.le_refl _) (by decide) hr.out
    rw [if_neg hk9] at hend
    obtain rfl : k0 = 0x45 := Decidable.byContradiction hk9
    clear hk9 hk0
    have hl1 : (b.take a).length = a := by rw [List.length_take]; omega
    have hl2 : ((b.drop (a + 1)).take 8).length = 8 := by rw [List.length_take, List.length_drop]; omega
    have hby1 := (hb1.take a).step hS
    have hby2 := (piece_lh hb1 (a + 1) 8 (by omega)).step hS
    rw [show (b.drop a).drop 1 = b.drop (a + 1) from List.drop_drop] at hend
    obtain ⟨x1, hx1⟩ : ∃ x1, x1 = b.take a := ⟨_, rfl⟩
    obtain ⟨x2, hx2⟩ : ∃ x2, x2 = (b.drop (a + 1)).take 8 := ⟨_, rfl⟩
    rw [← hx1] at hl1 hby1 hend
    rw [← hx2] at hl2 hby2 hend
    clear hx1 hx2
    have hkc := Lib.hid (fun W (d : Since wr W) => rcheck_calls (some ⟨b0, o0, none⟩) cap x1 (by omega) W _ (hby1.step d))
    have hkg := Lib.hid (fun W (d : Since wr W) => rget_calls_n (some ⟨b0, o0 + (a + 1), none⟩) (cap - (a + 1)) 8 x2 hl2 (by unfold maxLen; omega) W _ (hby2.step d))
    rw [hl1] at hkc
    clear hby1 hby2 hl1 hl2
    obtain ⟨q, hq⟩ : ∃ q, (((check x1).toNat : Int) != ((getN x2).toNat : Int)) = q := ⟨_, rfl⟩
    have hqc : q = true ↔ check x1 ≠ getN x2 := by
      rw [← hq, bne, Bool.not_eq_true', ne_eq]
      constructor
      · intro h e
        rw [e] at h
        simp at h
      · intro h
        exact ne_u64 h
    replace hq := Lib.hid hq
    replace hqc := Lib.hid hqc
    go_upto_region 42 with fail
    go_cut [200] from 177 to 200 (fun v wx => v = .bool q ∧ Since wr wx)
    case first =>
      have d0 : Since wr wr.drew := (Since.refl wr).drew
      refine wp_region_H (Since wr) 12 rfl (by kernel_rfl) ?_
      -- <held42
      refine wh_take 0 (.slice (some ⟨b0, o0, none⟩) b.length cap) rfl (by kernel_rfl) (by kernel_rfl) (fun _ _ _ h => h) (by kernel_rfl) (fun _ _ => by kernel_rfl) ?_
      refine wh_take 1 (.int .i64 (a : Nat)) rfl (by kernel_rfl) (by kernel_rfl) (fun _ _ _ h => h) (by kernel_rfl) (fun _ _ => by kernel_rfl) ?_
      refine wh_take 2 (.slice (some ⟨b0, o0, none⟩) a cap) rfl (by kernel_rfl) (by kernel_rfl) (fun _ _ _ h => h) (by kernel_rfl) (fun _ _ => exec_slice_h (.tmp 189) (.tmp 190) rfl _ b.length cap a (by kernel_rfl) (by kernel_rfl) (by omega)) ?_
      refine wh_take 4 (.slice (some ⟨b0, o0, none⟩) b.length cap) rfl (by kernel_rfl) (by kernel_rfl) (fun _ _ _ h => h) (by kernel_rfl) (fun _ _ => by kernel_rfl) ?_
      refine wh_take 5 (.int .i64 (a : Nat)) rfl (by kernel_rfl) (by kernel_rfl) (fun _ _ _ h => h) (by kernel_rfl) (fun _ _ => by kernel_rfl) ?_
      refine wh_take 6 (.int .i64 ((a + 1 : Nat) : Int)) rfl (by kernel_rfl) (by kernel_rfl) (fun _ _ _ h => h) (by kernel_rfl) (fun _ _ => exec_add_nat 3 3 (.tmp 194) _ rfl a 1 (by kernel_rfl) (by kernel_rfl) (by omega)) ?_
      refine wh_take 7 (.int .i64 (a : Nat)) rfl (by kernel_rfl) (by kernel_rfl) (fun _ _ _ h => h) (by kernel_rfl) (fun _ _ => by kernel_rfl) ?_
      refine wh_take 8 (.int .i64 ((a + 9 : Nat) : Int)) rfl (by kernel_rfl) (by kernel_rfl) (fun _ _ _ h => h) (by kernel_rfl) (fun _ _ => exec_add_nat 3 3 (.tmp 196) _ rfl a 9 (by kernel_rfl) (by kernel_rfl) (by omega)) ?_
      refine wh_take 9 (.slice (some ⟨b0, o0 + (a + 1), none⟩) 8 (cap - (a + 1))) rfl (by kernel_rfl) (by kernel_rfl) (fun _ _ _ h => h) (by kernel_rfl) (fun _ _ => exec_slice_lh0 (.tmp 193) _ _ rfl b0 o0 b.length cap ((a + 1)) ((a + 9)) 8 (by kernel_rfl) (by kernel_rfl) (by kernel_rfl) (by omega) (by omega) (by omega) (by omega)) ?_
      refine wh_call 3 28 #[.slice (some ⟨b0, o0, none⟩) a cap] rfl (by kernel_rfl) (by kernel_rfl) d0 (fun _ => by kernel_rfl) ?_
      refine (hkc.out _ d0).mono ?_
      rintro e W1 ⟨rfl, rfl⟩
      refine ⟨_, rfl, ?_⟩
      refine wh_call 10 45 #[.slice (some ⟨b0, o0 + (a + 1), none⟩) 8 (cap - (a + 1))] rfl (by kernel_rfl) (by kernel_rfl) d0 (fun _ => by kernel_rfl) ?_
      refine (hkg.out _ d0).mono ?_
      rintro e W1 ⟨rfl, rfl⟩
      refine ⟨_, rfl, ?_⟩
      refine wh_take 11 (.bool q) rfl (by kernel_rfl) (by kernel_rfl) (fun _ _ _ h => h) (by kernel_rfl) (fun _ _ => exec_neq_u64 56 56 (.tmp 192) (.tmp 199) rfl _ _ (by kernel_rfl) (by kernel_rfl) q hq.out) ?_
      refine wh_done (by kernel_rfl) d0 ?_
      simp only [Act.put, List.setIfInBounds_toArray, List.set_cons_zero, List.set_cons_succ]
      go_wp2_with fail
      go_meet
      exact ⟨rfl, d0⟩
      -- held42>
    case rest =>
    obtain ⟨rfl, hSx⟩ := hcut
    have hrr5 := hrrk.step hSx
    have hW5 := bthen hWk hSx
    have hrs5 := hrs.step hSx
    have hown5 := hown.below hSx (Nat.le_refl _)
    have hcr5 := Lib.hid (fun r hr => (hcr.out r hr).below hSx)
    clear hrrk hWk hrs hown hcr hcl hkc hkg
    cases q
    rotate_left
    · have hr := Lib.hid (herr.out 22 (by decide) (by rw [hend, if_pos (hqc.out.1 rfl)]))
      clear hend herr hfin hown5 hcr5
      go_upto_region 43 with fail
      go_wp2_with (refine wpList_got 201 rfl 22 rfl (.tmp 2) (.tmp 201) rfl rfl hrr5 rfl rfl rfl rfl ?_; intro w9 hr9 hg9)
      exact got_err hr9 rfl hW5 hg9 (Nat.le_refl _) (by decide) hr.out
    rw [if_neg (fun h => by cases hqc.out.2 h)] at hend
    by_cases h10 : a + 9 < b.length
    · have hr := Lib.hid (herr.out 2 (by decide) (by rw [hend, if_pos (by omega)]))
      have hd10 : decide ((a : Int) + 9 < (b.length : Int)) = true := decide_eq_true (by omega)
      clear hend herr hfin hown5 hcr5
      go_upto_region 45 with fail
      go_wp2_with (refine wpList_got 207 rfl 2 rfl (.tmp 2) (.tmp 207) rfl rfl hrr5 rfl rfl rfl rfl ?_; intro w9 hr9 hg9)
      exact got_err hr9 rfl hW5 hg9 (Nat.le_refl _) (by decide) hr.out
    have hd10 : decide ((a : Int) + 9 < (b.length : Int)) = false := decide_eq_false (by omega)
    have hr := Lib.hid (hfin.out (by rw [hend, if_neg (by omega)]))
    clear hend herr hfin h10
    obtain ⟨SV, hSV⟩ : ∃ SV, SV = s.val := ⟨_, rfl⟩
    rw [← hSV] at hrs5
    have HS4 := Lib.hid (show SV.length = 4 by rw [hSV]; rfl)
    have HST := Lib.hid (show (SV.drop 0).take 4 = SV from List.take_of_length_le (Nat.le_of_eq HS4.out))
    have HSV := Lib.hid hSV
    clear hSV
    go_upto_region 46 with fail
    go_wp2_with (first
      | (refine wpList_load_part 208 rfl 24 (.tmp 3) rfl hrs5 0 4 SV rfl rfl HST.out HS4.out Try.isAgg24 Try.sizeOf24 ?_)
      | (refine wpList_gotS 209 rfl (.tmp 208) rfl (.tmp 2) (.tmp 209) rfl s SV HSV rfl hrr5 rfl rfl rfl rfl rfl ?_; intro w9 hr9 hg9))
    have hty : ∀ j, some w.heap.size = some j → ∃ cs t f, wc.heap[j]? = some (.cells cs t f) ∧ t = 49 := fun j e => by
      cases e
      exact ⟨_, _, _, hrr5, rfl⟩
    have own9 := hown5.kept_type hg9 (fun j e => by obtain ⟨cs, t, f, h1, h2⟩ := hty j e; exact ⟨cs, t, f, h1, by rw [h2]; decide⟩)
    have hcr9 : ∀ r ∈ s.recs, CRec w9 w1.heap.size r := fun r hr => (hcr5.out r hr).kept hg9 (fun j e => by obtain ⟨cs, t, f, h1, h2⟩ := hty j e; exact ⟨cs, t, f, h1, by rw [h2]; decide⟩)
    exact got_end hr9 rfl (hW5.grown hg9 hW5.size (fun j e => by cases e; exact Nat.le_refl _)) (got_ok own9 (fun r hr => (hcr9 r hr).ok) hg.out) (.inl ⟨rfl, hr.out⟩)
end Go.Proofs.Ytdglkjpdhnnpnaa
