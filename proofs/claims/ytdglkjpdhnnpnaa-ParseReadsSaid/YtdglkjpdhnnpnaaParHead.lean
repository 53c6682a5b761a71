/-
  parse's reader: head.
-/
import Derived.Test.YtdglkjpdhnnpnaaParAt
import Derived.Test.YtdglkjpdhnnpnaaWakes16
namespace Go.Proofs.Ytdglkjpdhnnpnaa
open Go Go.RowKit Go.Shelf

theorem numP_lt (b : List UInt8) (h : b.length ≤ 4) : numP b ≤ 4294967295 := by
  have hlt := leVal_lt (b.take 8)
  rw [← getN_nat] at hlt
  have hl : (b.take 8).length ≤ 4 := by rw [List.length_take]; omega
  have hp : (256 ^ (b.take 8).length : Nat) ≤ 256 ^ 4 := Nat.pow_le_pow_right (by omega) hl
  have h4 : (256 ^ 4 : Nat) = 4294967296 := by simp
  unfold numP
  omega
/-- A word of the reader's row is turned. -/
theorem PS.turn {base : Nat} {w : World} {gr R : Nat} {A : Option Addr} {cap : Nat} {whole rest : List UInt8} {s : Str} (h : PS base w gr R A cap whole rest s) (j : Nat) (v : Value) (s' : Str)
    (hrow : ((.pointer (some ⟨R, 0, none⟩) :: .slice A whole.length cap :: s.val : List Value)).set j v = .pointer (some ⟨R, 0, none⟩) :: .slice A whole.length cap :: s'.val) (hA : s'.A = s.A) (hc : s'.cap = s.cap) (hr : s'.recs = s.recs) :
    PS base (w.setCell ⟨gr, j, none⟩ v) gr R A cap whole rest s' := by
  have hg := setCell_grown w gr j v
  have hlt := h.row.lt
  have hBR : Below (R + 1) w (w.setCell ⟨gr, j, none⟩ v) := (Below.refl (R + 1) w).grown hg (by have := h.hg; omega) (fun k e => by cases e; exact h.hg)
  refine ⟨h.rd.upto hBR, by have := h.row.set j v; rwa [hrow] at this, h.hR, h.hg, h.whl.below (hBR.mono (by have := h.hR; omega)), h.wcap, h.wmost, h.wlen, h.at', h.rl, ?_, ?_⟩
  · rw [hA, hc, hr]
    refine h.own.kept hg ?_
    cases hk : s.A.map (·.block) with
    | none => exact .inl rfl
    | some k =>
      refine .inr fun e => ?_
      obtain ⟨cs, hb⟩ := h.own.row k hk
      have hb' : w.heap[gr]? = some (.cells _ 71 (0, 0)) := h.row
      injection e with e
      exact ne_of_type hb hb' (by decide) e
  · rw [hr]
    exact fun r hr' => (h.dat r hr').kept hg (fun k e => by cases e; exact ⟨_, _, _, h.row, by decide⟩)

/-- What head leaves. -/
def headQ (base gr R : Nat) (A : Option Addr) (cap : Nat) (whole : List UInt8) (w : World) (e : Ending) (w' : World) : Prop :=
  Below base w w' ∧ ((∃ c, e = .returned (.tuple #[.int .i64 0, .int .i64 c]) ∧ headR whole = .error c ∧ c ≠ 0) ∨
    (∃ s n, e = .returned (.tuple #[.int .i64 (n : Nat), .int .i64 0]) ∧ headR whole = .ok (s, n) ∧ n ≤ 65535 ∧ PS base w' gr R A cap whole (whole.drop 24) s))
theorem headQ_err {base gr R : Nat} {A : Option Addr} {cap : Nat} {whole : List UInt8} {w w' : World} {c : Int} (hB : Below base w w') (h : headR whole = .error c) (hc : c ≠ 0) : headQ base gr R A cap whole w (.returned (.tuple #[.int .i64 0, .int .i64 c])) w' :=
  ⟨hB, .inl ⟨c, rfl, h, hc⟩⟩

/-- The first four bytes as a string. -/
theorem magic_str (b : List UInt8) : ((strOf b).toList == [82, 86, 83, 49]) = (b == [0x52, 0x56, 0x53, 0x31]) := by rw [strOf_toList]

theorem below_read {base R : Nat} {w x w' : World} (h : Below base w x) (hg : x.grownBy w' (some R)) (hb : base ≤ R) (hx : R < x.heap.size) : Below base w w' :=
  h.grown hg (by omega) (fun k e => by cases e; exact hb)

set_option maxRecDepth 100000 in
set_option maxHeartbeats 8000000 in
theorem head17_calls {base : Nat} {w : World} {gr R : Nat} {A : Option Addr} {cap : Nat} {whole : List UInt8} (h : PS base w gr R A cap whole whole ⟨0, 0, 0, none, 0, []⟩) :
    Calls Try.prog 40 #[.pointer (some ⟨gr, 0, none⟩)] w (headQ base gr R A cap whole w) := by
  have hbase := h.hR
  have hRlt := h.rd.lt
  have hwl := h.wlen
  have c0 := h.cells.1
  by_cases h4 : whole.length < 4
  · have hr : headR whole = .error 21 := by unfold headR; rw [if_pos h4]
    have ht := Lib.hid (take_not R whole 4 (.inr (by omega)) w h.rd.at)
    clear h
    go_enter Try.func40, Try.ntmps40
    go_wp2_with fail
    refine ht.out.mono ?_
    rintro e w1 ⟨rfl, rfl⟩
    go_wp2_with fail
    go_ret2
    exact headQ_err (Below.refl _ _) hr (by decide)
  have ht := Lib.hid (takeL R whole 4 (by omega) w h.rd)
  have hp4 := Lib.hid (fun w' (h1 : ReaderL w' R (whole.drop 4)) (hg : w.grownBy w' (some R)) => h.read (by omega : 4 ≤ whole.length) h1 hg)
  have hB4 : ∀ w', w.grownBy w' (some R) → Below base w w' := fun w' hg => (Below.refl base w).grown hg (by omega) (fun k e => by cases e; exact hbase)
  have hxl : (whole.take 4).length = 4 := by rw [List.length_take]; omega
  by_cases hm : whole.take 4 = [0x52, 0x56, 0x53, 0x31]
  rotate_left
  · have hr : headR whole = .error 20 := by unfold headR; rw [if_neg h4, if_pos hm]
    have hmag := magic_str (whole.take 4)
    rw [beq_eq_false_iff_ne.2 hm] at hmag
    generalize whole.take 4 = b4 at ht hxl hmag
    clear h hm hp4
    go_enter Try.func40, Try.ntmps40
    go_wp2_with fail
    refine ht.out.mono ?_
    rintro e w1 ⟨⟨A1, k1, rfl, hown⟩, hr1, hg1⟩
    have hst := run_str (P := Try.prog) hown.bytes 25 9 5 Try.underlying25 Try.underlying5 Try.underlying9 k1
    rw [hxl] at hst
    go_wp2_with fail
    go_ret2
    exact headQ_err (hB4 _ hg1) hr (by decide)
  have hmag : ((strOf (whole.take 4)).toList == [82, 86, 83, 49]) = true := by rw [magic_str, hm]; rfl
  have hl4 : (whole.drop 4).length = whole.length - 4 := List.length_drop
  by_cases h24 : whole.length < 24
  · have hr : headR whole = .error 21 := by unfold headR; rw [if_neg h4, if_neg (fun h => h hm), if_pos h24]
    have hd : decide ((((whole.drop 4).length : Nat) : Int) < 20) = true := decide_eq_true (by omega)
    generalize whole.take 4 = b4 at ht hxl hmag
    clear h hm
    go_enter Try.func40, Try.ntmps40
    go_wp2_with fail
    refine ht.out.mono ?_
    rintro e w1 ⟨⟨A1, k1, rfl, hown⟩, hr1, hg1⟩
    have hst := run_str (P := Try.prog) hown.bytes 25 9 5 Try.underlying25 Try.underlying5 Try.underlying9 k1
    rw [hxl] at hst
    have hps := hp4.out _ hr1 hg1
    have c01 := hps.cells.1
    have hLl := Lib.hid (left_calls R (whole.drop 4) w1 hps.rd.at)
    clear hps hr1 hp4 ht hown
    go_wp2_with fail
    refine hLl.out.mono ?_
    rintro e w2 ⟨rfl, rfl⟩
    go_wp2_with fail
    go_ret2
    exact headQ_err (hB4 _ hg1) hr (by decide)
  have hd : decide ((((whole.drop 4).length : Nat) : Int) < 20) = false := decide_eq_false (by omega)
  have hhead : headR whole = (if check (whole.take 16) ≠ getN ((whole.drop 16).take 8) then .error 22
      else if numP ((whole.drop 4).take 2) < 1 ∨ 64 < numP ((whole.drop 4).take 2) then .error 23
      else if headB ⟨numP ((whole.drop 4).take 2), numP ((whole.drop 6).take 4) - 1, numP ((whole.drop 10).take 4), none, 0, []⟩ = false then .error 25
      else .ok (⟨numP ((whole.drop 4).take 2), numP ((whole.drop 6).take 4) - 1, numP ((whole.drop 10).take 4), none, 0, []⟩, (numP ((whole.drop 14).take 2)).toNat)) := by
    unfold headR
    rw [if_neg h4, if_neg (fun h => h hm), if_neg h24]
  have q6 : (whole.drop 4).drop 2 = whole.drop 6 := List.drop_drop
  have q10 : (whole.drop 6).drop 4 = whole.drop 10 := List.drop_drop
  have q14 : (whole.drop 10).drop 4 = whole.drop 14 := List.drop_drop
  have q16 : (whole.drop 14).drop 2 = whole.drop 16 := List.drop_drop
  have q24 : (whole.drop 16).drop 8 = whole.drop 24 := List.drop_drop
  have p0 : 0 ≤ numP ((whole.drop 4).take 2) := numP_nonneg _
  have p1 : numP ((whole.drop 4).take 2) ≤ 4294967295 := numP_lt _ (by rw [List.length_take]; omega)
  have p2 : 0 ≤ numP ((whole.drop 6).take 4) := numP_nonneg _
  have p3 : numP ((whole.drop 6).take 4) ≤ 4294967295 := numP_lt _ (by rw [List.length_take]; omega)
  have p4 : 0 ≤ numP ((whole.drop 10).take 4) := numP_nonneg _
  have p5 : numP ((whole.drop 10).take 4) ≤ 4294967295 := numP_lt _ (by rw [List.length_take]; omega)
  have p6 : 0 ≤ numP ((whole.drop 14).take 2) := numP_nonneg _
  have p7 : numP ((whole.drop 14).take 2) ≤ 65535 := by
    have hlt := leVal_lt (((whole.drop 14).take 2).take 8)
    rw [← getN_nat] at hlt
    have hl : (((whole.drop 14).take 2).take 8).length ≤ 2 := by rw [List.length_take, List.length_take]; omega
    have hp : (256 ^ (((whole.drop 14).take 2).take 8).length : Nat) ≤ 256 ^ 2 := Nat.pow_le_pow_right (by omega) hl
    have h4 : (256 ^ 2 : Nat) = 65536 := by simp
    unfold numP
    omega
  generalize whole.take 4 = b4 at ht hxl hmag
  clear h hm
  go_enter Try.func40, Try.ntmps40
  go_wp2_with fail
  refine ht.out.mono ?_
  rintro e w1 ⟨⟨A1, k1, rfl, hown⟩, hr1, hg1⟩
  have hst := run_str (P := Try.prog) hown.bytes 25 9 5 Try.underlying25 Try.underlying5 Try.underlying9 k1
  rw [hxl] at hst
  have hps := hp4.out _ hr1 hg1
  have hB1 := hB4 _ hg1
  have hR1 := hps.rd.lt
  have c01 := hps.cells.1
  have hLl := Lib.hid (left_calls R (whole.drop 4) w1 hps.rd.at)
  have hn1 := Lib.hid (num_calls hps 2 (by omega) (by omega))
  clear hr1 hp4 ht hown hg1 hps hB4
  go_wp2_with fail
  refine hLl.out.mono ?_
  rintro e w2 ⟨rfl, rfl⟩
  go_wp2_with fail
  refine hn1.out.mono ?_
  rintro e w2 ⟨rfl, hps, hg2⟩
  rw [q6] at hps
  have hgb : base ≤ gr := by have := hps.hg; omega
  have hB2 := below_read hB1 hg2 hbase hR1
  obtain ⟨bl, hbl⟩ : ∃ bl, bl = numP ((whole.drop 4).take 2) := ⟨_, rfl⟩
  obtain ⟨ba, hba⟩ : ∃ ba, ba = numP ((whole.drop 6).take 4) := ⟨_, rfl⟩
  obtain ⟨id, hid⟩ : ∃ id, id = numP ((whole.drop 10).take 4) := ⟨_, rfl⟩
  obtain ⟨nn, hnn⟩ : ∃ nn, nn = numP ((whole.drop 14).take 2) := ⟨_, rfl⟩
  rw [← hbl] at p0 p1
  rw [← hba] at p2 p3
  rw [← hid] at p4 p5
  rw [← hnn] at p6 p7
  rw [← hbl, ← hba, ← hid, ← hnn] at hhead
  replace hbl := Lib.hid hbl
  replace hba := Lib.hid hba
  replace hid := Lib.hid hid
  replace hnn := Lib.hid hnn
  rw [← hbl.out]
  have x2 := hps.row.cellD 2 _ rfl
  have y2 := hps.row.free 2
  have hps2 := hps.turn 2 (.int .i64 bl) ⟨bl, 0, 0, none, 0, []⟩ rfl rfl rfl rfl
  have hB2' : Below base w (w2.setCell ⟨gr, 2, none⟩ (.int .i64 bl)) := hB2.setCell (p := ⟨gr, 2, none⟩) hgb _
  have hR2 := hps2.rd.lt
  have hn2 := Lib.hid (num_calls hps2 4 (by rw [List.length_drop]; omega) (by omega))
  clear hps hps2 hg2 hB1 hB2 hn1 hR1 hLl
  go_wp2_with fail
  refine hn2.out.mono ?_
  rintro e w3 ⟨rfl, hps, hg3⟩
  rw [q10] at hps
  rw [← hba.out]
  have hB3 := below_read hB2' hg3 hbase hR2
  have x3 := hps.row.cellD 3 _ rfl
  have y3 := hps.row.free 3
  have hps3 := hps.turn 3 (.int .i64 (ba - 1)) ⟨bl, ba - 1, 0, none, 0, []⟩ rfl rfl rfl rfl
  have hB3' : Below base w (w3.setCell ⟨gr, 3, none⟩ (.int .i64 (ba - 1))) := hB3.setCell (p := ⟨gr, 3, none⟩) hgb _
  have hR3 := hps3.rd.lt
  have hn3 := Lib.hid (num_calls hps3 4 (by rw [List.length_drop]; omega) (by omega))
  clear hps hps3 hg3 hB2' hB3 hn2 hR2 x2 y2
  go_wp2_with fail
  refine hn3.out.mono ?_
  rintro e w4 ⟨rfl, hps, hg4⟩
  rw [q14] at hps
  rw [← hid.out]
  have hB4 := below_read hB3' hg4 hbase hR3
  have x4 := hps.row.cellD 4 _ rfl
  have y4 := hps.row.free 4
  have hps4 := hps.turn 4 (.int .i64 id) ⟨bl, ba - 1, id, none, 0, []⟩ rfl rfl rfl rfl
  have hB4' : Below base w (w4.setCell ⟨gr, 4, none⟩ (.int .i64 id)) := hB4.setCell (p := ⟨gr, 4, none⟩) hgb _
  have hR4 := hps4.rd.lt
  have hn4 := Lib.hid (num_calls hps4 2 (by rw [List.length_drop]; omega) (by omega))
  clear hps hps4 hg4 hB3' hB4 hn3 hR3 x3 y3
  go_wp2_with fail
  refine hn4.out.mono ?_
  rintro e w5 ⟨rfl, hps, hg5⟩
  rw [q16] at hps
  rw [← hnn.out]
  have hB5 := below_read hB4' hg5 hbase hR4
  have hR5 := hps.rd.lt
  have hck := checks_calls hps 0 (Nat.zero_le _) (by rw [List.length_drop]; omega)
  have hl16 : whole.length - (whole.drop 16).length = 16 := by rw [List.length_drop]; omega
  rw [hl16, List.drop_zero, Nat.sub_zero, q24] at hck
  replace hck := Lib.hid hck
  clear hps hg5 hB4' hn4 hR4 x4 y4 q6 q10 q14 q16 q24 hl16 hl4 hba hbl hid hnn
  by_cases hchk : check (whole.take 16) = getN ((whole.drop 16).take 8)
  rotate_left
  · rw [if_neg hchk] at hck
    rw [if_pos hchk] at hhead
    clear hchk
    go_wp2_with fail
    refine hck.out.mono ?_
    rintro e w6 ⟨rfl, _, hg6⟩
    go_wp2_with fail
    go_ret2
    exact headQ_err (below_read hB5 hg6 hbase hR5) hhead (by decide)
  rw [if_pos hchk] at hck
  rw [if_neg (fun h => h hchk)] at hhead
  clear hchk
  go_wp2_with fail
  refine hck.out.mono ?_
  rintro e w6 ⟨rfl, hps, hg6⟩
  have hB6 := below_read hB5 hg6 hbase hR5
  have hrow := hps.row
  have hps' := Lib.hid hps
  clear hps hck hB5 hg6 hR5
  go_upto_region 16 with (first
    | (refine wpList_load_part 60 rfl 24 (.tmp 59) rfl hrow 2 4 (⟨bl, ba - 1, id, none, 0, []⟩ : Str).val rfl rfl rfl rfl Try.isAgg24 Try.sizeOf24 ?_)
    | (refine wpList_alloc_row 8 rfl 24 rfl _ rfl zero_str ?_; intro w7 hr7 hs7 hB7; clear hs7)
    | (refine wpList_store_str (.tmp 8) (.tmp 60) rfl (⟨bl, ba - 1, id, none, 0, []⟩ : Str) rfl rfl hr7 hB7 rfl rfl ?_
       intro w8 hr8 hB8))
  have f0 := hr8.cellD 0 _ rfl
  have f1 := hr8.cellD 1 _ rfl
  have f2 := hr8.cellD 2 _ rfl
  have hB9 : Below base w w8 := hB6.trans (hB8.mono (Nat.le_trans (by omega : base ≤ w.heap.size) hB6.size))
  have hps8 := Lib.hid (hps'.out.step hB8)
  clear hr8 hr7 hB7 hB8 hrow hB6 hps'
  by_cases hb : bl < 1 ∨ 64 < bl
  · rw [if_pos hb] at hhead
    have hb' : bl < 1 ∨ (1 ≤ bl ∧ 64 < bl) := by omega
    clear hb
    replace hhead := Lib.hid hhead
    rcases hb' with hb | ⟨hb, hb'⟩
    all_goals
      go_wp2_with fail
      go_ret2
      exact headQ_err hB9 hhead.out (by decide)
  rw [if_neg hb] at hhead
  cases hh : headB ⟨bl, ba - 1, id, none, 0, []⟩
  · rw [if_pos hh] at hhead
    have hno := headB_no hh
    simp only at hno
    replace hhead := Lib.hid hhead
    have hno2 : id < 1 ∨ (1 ≤ id ∧ 1000000 < id) ∨ (1 ≤ id ∧ id ≤ 1000000 ∧ ba - 1 ≠ -1 ∧ ba - 1 < 1) ∨ (1 ≤ id ∧ id ≤ 1000000 ∧ ba - 1 ≠ -1 ∧ 1 ≤ ba - 1 ∧ id ≤ ba - 1) := by omega
    have hb1 : 1 ≤ bl := by omega
    have hb2 : bl ≤ 64 := by omega
    clear hno hh hb
    rcases hno2 with h | ⟨h, h'⟩ | ⟨h, h', h2, h3⟩ | ⟨h, h', h2, h3, h4⟩
    all_goals
      (try have hdd : (ba - 1 != -1) = true := by simpa using h2)
      (try clear h2)
      go_wp2_with fail
      go_ret2
      exact headQ_err hB9 hhead.out (by decide)
  · rw [if_neg (by rw [hh]; decide)] at hhead
    obtain ⟨h1, h2, h3, h4', h5⟩ := headB_yes hh
    simp only at h1 h2 h3 h4' h5
    clear hh hb
    obtain ⟨m, hm⟩ : ∃ m : Nat, nn = (m : Int) := ⟨nn.toNat, by omega⟩
    subst hm
    rw [Int.toNat_natCast] at hhead
    have hm16 : m ≤ 65535 := by omega
    replace hhead := Lib.hid hhead
    rcases h5 with h5 | ⟨h5, h6, h7⟩
    · have hdd : (ba - 1 != -1) = false := by rw [h5]; rfl
      replace h5 := Lib.hid h5
      go_wp2_with fail
      go_ret2
      exact ⟨hB9, .inr ⟨_, m, rfl, hhead.out, hm16, hps8.out⟩⟩
    · have hdd : (ba - 1 != -1) = true := by simpa using h5
      clear h5
      go_wp2_with fail
      go_ret2
      exact ⟨hB9, .inr ⟨_, m, rfl, hhead.out, hm16, hps8.out⟩⟩
end Go.Proofs.Ytdglkjpdhnnpnaa
