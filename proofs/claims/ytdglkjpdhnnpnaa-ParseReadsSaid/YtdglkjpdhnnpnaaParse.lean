/-
  parse.Parse.
-/
import Derived.Test.YtdglkjpdhnnpnaaParRec
import Derived.WalkMore
namespace Go.Proofs.Ytdglkjpdhnnpnaa
open Go Go.RowKit Go.Shelf

/-- All but the end. -/
def parseP (b : List UInt8) : Except Int (Str × List UInt8) :=
  match headR b with
  | .error e => .error e
  | .ok (s, n) => recsR n s (b.drop 24)
theorem parseR_P (b : List UInt8) : parseR b = match parseP b with | .error e => .error e | .ok (s', rest) => if endR b rest = 0 then .ok s' else .error (endR b rest) := by
  unfold parseR parseP
  cases headR b with
  | error e => rfl
  | ok x => rfl
theorem headR_ok {b : List UInt8} {s : Str} {n : Nat} (h : headR b = .ok (s, n)) : headB s = true ∧ s.pl = s ∧ s.recs = [] := by
  unfold headR at h
  split at h
  · cases h
  split at h
  · cases h
  split at h
  · cases h
  split at h
  · cases h
  split at h
  · cases h
  split at h
  · cases h
  rename_i hh
  cases h
  refine ⟨?_, rfl, rfl⟩
  cases hb : headB _
  · exact absurd hb hh
  · rfl
def parSt (base gr R : Nat) (A : Option Addr) (cap : Nat) (whole : List UInt8) (n k : Nat) (c : Int) (W : World) : Prop :=
  (c = 0 ∧ ∃ s rest, PS base W gr R A cap whole rest s ∧ parseP whole = recsR (n - k) s.pl rest ∧ headB s = true ∧ s.recs.length = k) ∨ (c ≠ 0 ∧ parseP whole = .error c)
/-- What Parse leaves. -/
def parseQ (whole : List UInt8) (w : World) (e : Ending) (w' : World) : Prop :=
  Below w.heap.size w w' ∧ ∃ (s : Str) (c : Int), e = .returned (.tuple #[.agg s.val.toArray, .int .i64 c]) ∧ s.Ok w' w'.heap.size ∧ ((c = 0 ∧ parseR whole = .ok s.pl) ∨ (c ≠ 0 ∧ parseR whole = .error c ∧ s = ⟨0, 0, 0, none, 0, []⟩))
def Str0 : Str := ⟨0, 0, 0, none, 0, []⟩
theorem str0_ok (w : World) (B : Nat) : Str0.Ok w B := ⟨⟨.inl rfl, fun x hx => by cases hx⟩, Nat.le_refl _, by show (0 : Nat) ≤ maxLen; exact Nat.zero_le _, by decide, by decide, by decide, by decide, by decide, by decide⟩
theorem str_of {w : World} {base : Nat} {s : Str} (hown : OwnR w base s.A s.cap s.recs) (hdat : ∀ r ∈ s.recs, r.Own w) (hh : headB s = true) : s.Ok w w.heap.size := by
  obtain ⟨h1, h2, h3, h4, h5⟩ := headB_yes hh
  exact ⟨hown.recs (fun x hx => (hdat x hx).ok), hown.cap.1, hown.cap.2, by omega, by omega, by omega, by omega, by omega, by omega⟩
/-- The stream behind the turn of the result's variable. -/
theorem PS.out_ {base : Nat} {w w' : World} {gr R : Nat} {A : Option Addr} {cap : Nat} {whole rest : List UInt8} {s : Str} (h : PS base w gr R A cap whole rest s) (hh : headB s = true) {g : Nat} {cs : List Value} (hr : RowAt w g 24 cs) (hgb : g < base) (hg : w.grownBy w' (some g)) : s.Ok w' w'.heap.size := by
  refine str_of (h.own.kept hg ?_) (fun r hr' => (h.dat r hr').kept hg (fun k e => by cases e; exact ⟨_, _, _, hr, by decide⟩)) hh
  cases hk : s.A.map (·.block) with
  | none => exact .inl rfl
  | some k =>
    refine .inr fun e => ?_
    injection e with e
    have := (h.own.lt k hk).1
    have := h.hR
    omega
theorem parse_end {w w6 : World} {whole : List UInt8} {tmps : Array Value} {g : Nat} {s : Str} {c : Int} (hr6 : RowAt w6 g 24 s.val) (hp : tmps.getD 2 undef = .pointer (some ⟨g, 0, none⟩)) (hc : tmps.getD 3 undef = .int .i64 c) (hB : Below w.heap.size w w6) (hok : s.Ok w6 w6.heap.size)
    (h : (c = 0 ∧ parseR whole = .ok s.pl) ∨ (c ≠ 0 ∧ parseR whole = .error c ∧ s = ⟨0, 0, 0, none, 0, []⟩)) : bodyPost Try.prog Try.f24 (parseQ whole w) .ret { tmps := tmps, defers := [] } w6 := by
  refine bodyPost_ret (results_row_tmp rfl _ hr6 hp Try.underlying24 rfl (by kernel_rfl)) rfl ⟨hB, s, c, by rw [hc], hok, h⟩

set_option maxRecDepth 100000 in
set_option maxHeartbeats 8000000 in
theorem parse_calls (A : Option Addr) (cap : Nat) (whole : List UInt8) (w : World) (hb : BytesAt w w.heap.size A whole) (hc : whole.length ≤ cap) (hm : cap ≤ maxLen) (hl : whole.length ≤ 1000000) :
    Calls Try.prog 24 #[.slice A whole.length cap] w (parseQ whole w) := by
  go_enter Try.func24, Try.ntmps24
  go_wp2_with (refine wpList_alloc_row 2 rfl 24 rfl _ rfl zero_str ?_; intro w1 hr1 hs1' hB1; have hs1 := Lib.hid hs1'; clear hs1')
  obtain ⟨base, hbase'⟩ : ∃ base, base = w1.heap.size := ⟨_, rfl⟩
  have hbase := Lib.hid hbase'
  clear hbase'
  have hb1 := hb.step hB1
  have hg2 : w.heap.size < base := by rw [hbase.out, hs1.out]; exact Nat.lt_succ_self _
  go_step3
  go_wp2_with fail
  refine (newReaderL A cap whole (by omega) w1 hb1).mono ?_
  rintro e w2 ⟨⟨R, rfl, hR, hrd⟩, hB2⟩
  have hr2 := hr1.step hB2
  go_wp2_with (refine wpList_box_row 11 rfl 71 _ rfl (.pointer (some ⟨R, 0, none⟩) :: .slice A whole.length cap :: Str0.val) rfl rfl ?_; intro w3 hr3 hs3 hB3; clear hs3)
  have hgr : R < w2.heap.size := hrd.lt
  have hB13 : Below base w1 w3 := by rw [hbase.out]; exact bthen hB2 hB3
  have hps : PS base w3 w2.heap.size R A cap whole whole Str0 := by
    refine ⟨hrd.upto (hB3.mono hgr), hr3, by rw [hbase.out]; exact hR, hgr, by rw [hbase.out]; exact (hb1.below hB2).below (hB3.mono hB2.size), hc, hm, hl, by rw [Nat.sub_self]; rfl, Nat.le_refl _, OwnR.nil _ _, fun r hr => by cases hr⟩
  have hrz := hr1.below hB13 hg2
  have hh := Lib.hid (head17_calls hps)
  have hr1 := Lib.hid hr1
  clear hr2 hrd hb1 hB2 hB3 hr3 hps
  generalize w2.heap.size = gr at hh hgr ⊢
  go_wp2_with fail
  refine hh.out.mono ?_
  rintro e w4 ⟨hB4, hq⟩
  have hq2 : ∃ (n : Nat) (c : Int), e = .returned (.tuple #[.int .i64 (n : Int), .int .i64 c]) ∧ n ≤ 65535 ∧ parSt base gr R A cap whole n 0 c w4 := by
    rcases hq with ⟨c, he, hp, hc⟩ | ⟨s, n, he, hp, hn, hps⟩
    · exact ⟨0, c, he, by omega, .inr ⟨hc, by unfold parseP; rw [hp]⟩⟩
    · obtain ⟨h1, h2, h3⟩ := headR_ok hp
      exact ⟨n, 0, he, hn, .inl ⟨rfl, s, _, hps, by unfold parseP; rw [hp, h2]; rfl, h1, by rw [h3]; rfl⟩⟩
  obtain ⟨n, c, rfl, hn, hst⟩ := hq2
  have hr4 := hrz.below hB4 hg2
  have hB14 := hB13.trans hB4
  clear hq hB4 hB13 hrz hh
  go_wp2_with fail
  go_step3
  go_wp2_with fail
  go_loopw [6, 18] (fun er i wr => ∃ (k : Nat) (c : Int), k ≤ n ∧ i = .int .i64 (k : Int) ∧ er = .int .i64 c ∧ parSt base gr R A cap whole n k c wr ∧ Below base w1 wr) (fun _ i _ => n - (intOf i).toNat)
  case atStart => exact ⟨0, c, Nat.zero_le _, rfl, rfl, hst, hB14⟩
  case round =>
    obtain ⟨k, c, hk, rfl, rfl, hst, hB⟩ := hrel
    have hrw := hr1.out.below hB hg2
    have hBw : Below w.heap.size w wr := hB1.trans (hB.mono (Nat.le_of_lt hg2))
    have hbw : base ≤ wr.heap.size := by have := hB.size; rw [hbase.out]; exact this
    rcases hst with ⟨rfl, s, rest, hps, hP, hh, hsl⟩ | ⟨hc0, hP⟩
    · obtain ⟨b1, b2, i1, i2, ab⟩ := headB_yes hh
      by_cases hlt : k < n
      · have hd1 : decide ((k : Int) < (n : Int)) = true := decide_eq_true (by omega)
        have hrc := Lib.hid (record_calls hps b1 b2 (by omega) (by omega) (by omega) (by omega) (by omega))
        have hnk : n - k = (n - (k + 1)) + 1 := by omega
        rw [hnk] at hP
        replace hP := Lib.hid hP
        clear hnk hps
        go_wp2_with fail
        refine hrc.out.mono ?_
        rintro e w5 ⟨hB5, hq⟩
        have hB6 := hB.trans hB5
        rcases hq with ⟨c, rfl, hr, hc⟩ | ⟨r, A', c', rest', rfl, hr, hps'⟩
        · have hP2 : parseP whole = .error c := by rw [hP.out, recsR, hr]
          replace hP2 := Lib.hid hP2
          clear hP hr hrc
          go_wp2_with fail
          go_roundw
          case rel => exact ⟨k + 1, c, by omega, by go_num, rfl, .inr ⟨hc, hP2.out⟩, hB6⟩
          case measure => simp [intOf]; omega
        · have hP2 : parseP whole = recsR (n - (k + 1)) (⟨s.blocks, s.base, s.id, A', c', s.recs ++ [r]⟩ : Str).pl rest' := by rw [hP.out, recsR, hr, add_pl]
          have hh2 : headB ⟨s.blocks, s.base, s.id, A', c', s.recs ++ [r]⟩ = true := hh
          replace hP2 := Lib.hid hP2
          clear hP hr hrc
          go_wp2_with fail
          go_roundw
          case rel => exact ⟨k + 1, 0, by omega, by go_num, rfl, .inl ⟨rfl, _, rest', hps', hP2.out, hh2, by simp [hsl]⟩, hB6⟩
          case measure => simp [intOf]; omega
      · obtain rfl : k = n := by omega
        have hd1 : decide ((k : Int) < (k : Int)) = false := decide_eq_false (by omega)
        have hP2 : parseP whole = .ok (s.pl, rest) := by rw [hP, Nat.sub_self]; rfl
        have hRR := parseR_P whole
        rw [hP2] at hRR
        simp only at hRR
        have hen := Lib.hid (ends_calls hps)
        have hR9 := hps.rd.lt
        have hR8 := hps.hR
        clear hP hP2 hps
        go_wp2_with fail
        refine hen.out.mono ?_
        rintro e w5 ⟨rfl, ⟨rest', hps'⟩, hg5⟩
        have hB5 := below_read hB hg5 hR8 hR9
        have hrw5 := hr1.out.below hB5 hg2
        by_cases he : endR whole rest = 0
        · rw [if_pos he] at hRR
          rw [he]
          have hrow5 := hps'.row
          have hB5w := hB1.trans (hB5.mono (Nat.le_of_lt hg2))
          clear hrw hen hB hR9 hR8 hg5
          go_wp2_with (first
            | (refine wpList_load_part 36 rfl 24 (.tmp 35) rfl hrow5 2 4 s.val rfl rfl rfl rfl Try.isAgg24 Try.sizeOf24 ?_)
            | (refine wpList_store_part 24 (.tmp 2) (.tmp 36) rfl hrw5 0 s.val rfl rfl rfl Try.sizeOf24 (Nat.le_refl 4) (str_one s) ?_
               intro w6 hr6 hs6 hg6
               clear hs6))
          rw [splice_all [.int .i64 0, .int .i64 0, .int .i64 0, .slice none 0 0] s.val rfl] at hr6
          exact parse_end hr6 rfl rfl (hB5w.grown hg6 hB5w.size (fun k e => by cases e; exact Nat.le_refl _)) (hps'.out_ hh hrw5 hg2 hg6) (.inl ⟨rfl, hRR⟩)
        · rw [if_neg he] at hRR
          have hen0 : (endR whole rest == 0) = false := beq_eq_false_iff_ne.2 he
          have hen1 : (endR whole rest != 0) = true := by rw [bne, hen0]; rfl
          have hB5w := hB1.trans (hB5.mono (Nat.le_of_lt hg2))
          clear hrw hen hB hR9 hR8 hg5 hps' hh
          generalize endR whole rest = ec at *
          go_wp2_with (refine wpList_store_part 24 (.tmp 2) (.tmp 31) rfl hrw5 0 Str0.val rfl rfl rfl Try.sizeOf24 (Nat.le_refl 4) (str_one Str0) ?_
                       intro w6 hr6 hs6 hg6
                       clear hs6)
          rw [splice_all [.int .i64 0, .int .i64 0, .int .i64 0, .slice none 0 0] Str0.val rfl] at hr6
          exact parse_end hr6 rfl rfl (hB5w.grown hg6 hB5w.size (fun k e => by cases e; exact Nat.le_refl _)) (str0_ok _ _) (.inr ⟨he, hRR, rfl⟩)
    · have hcc0 : (c == 0) = false := beq_eq_false_iff_ne.2 hc0
      have hcc1 : (c != 0) = true := by rw [bne, hcc0]; rfl
      have hRR := parseR_P whole
      rw [hP] at hRR
      simp only at hRR
      clear hP
      by_cases hlt : k < n
      · have hd1 : decide ((k : Int) < (n : Int)) = true := decide_eq_true (by omega)
        go_wp2_with (refine wpList_store_part 24 (.tmp 2) (.tmp 31) rfl hrw 0 Str0.val rfl rfl rfl Try.sizeOf24 (Nat.le_refl 4) (str_one Str0) ?_
                     intro w6 hr6 hs6 hg6
                     clear hs6)
        rw [splice_all [.int .i64 0, .int .i64 0, .int .i64 0, .slice none 0 0] Str0.val rfl] at hr6
        exact parse_end hr6 rfl rfl (hBw.grown hg6 hBw.size (fun k e => by cases e; exact Nat.le_refl _)) (str0_ok _ _) (.inr ⟨hc0, hRR, rfl⟩)
      · have hd1 : decide ((k : Int) < (n : Int)) = false := decide_eq_false (by omega)
        go_wp2_with (refine wpList_store_part 24 (.tmp 2) (.tmp 31) rfl hrw 0 Str0.val rfl rfl rfl Try.sizeOf24 (Nat.le_refl 4) (str_one Str0) ?_
                     intro w6 hr6 hs6 hg6
                     clear hs6)
        rw [splice_all [.int .i64 0, .int .i64 0, .int .i64 0, .slice none 0 0] Str0.val rfl] at hr6
        exact parse_end hr6 rfl rfl (hBw.grown hg6 hBw.size (fun k e => by cases e; exact Nat.le_refl _)) (str0_ok _ _) (.inr ⟨hc0, hRR, rfl⟩)
end Go.Proofs.Ytdglkjpdhnnpnaa
