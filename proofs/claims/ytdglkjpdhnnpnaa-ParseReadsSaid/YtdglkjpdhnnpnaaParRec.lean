/-
  parse's reader: record.
-/
import Derived.Test.YtdglkjpdhnnpnaaParHead
import Derived.Test.YtdglkjpdhnnpnaaStrKeep
namespace Go.Proofs.Ytdglkjpdhnnpnaa
open Go Go.RowKit Go.Shelf

section
variable {P : Program} {w : World} {o : Oper} {a : Act}
theorem exec_lss_int (t t' : TypeId) (x y : Operand) (ho : o.op = .binOp .lss t x y t') (i j : Int) (hx : a.eval x = .int .i64 i) (hy : a.eval y = .int .i64 j) (b : Bool) (hb : decide (i < j) = b) :
    (execOp a.eval o).run P w = .ok (.value (.bool b)) w := by
  subst hb
  simp only [execOp, ho, hx, hy]
  rfl
theorem exec_gtr_int (t t' : TypeId) (x y : Operand) (ho : o.op = .binOp .gtr t x y t') (i j : Int) (hx : a.eval x = .int .i64 i) (hy : a.eval y = .int .i64 j) (b : Bool) (hb : decide (j < i) = b) :
    (execOp a.eval o).run P w = .ok (.value (.bool b)) w := by
  subst hb
  simp only [execOp, ho, hx, hy]
  rfl
theorem exec_geq_int (t t' : TypeId) (x y : Operand) (ho : o.op = .binOp .geq t x y t') (i j : Int) (hx : a.eval x = .int .i64 i) (hy : a.eval y = .int .i64 j) (b : Bool) (hb : decide (j ≤ i) = b) :
    (execOp a.eval o).run P w = .ok (.value (.bool b)) w := by
  subst hb
  simp only [execOp, ho, hx, hy]
  rfl
theorem exec_sub_int (t t' : TypeId) (x y : Operand) (ho : o.op = .binOp .sub t x y t') (i j : Int) (hx : a.eval x = .int .i64 i) (hy : a.eval y = .int .i64 j) (h1 : -9223372036854775808 ≤ i - j) (h2 : i - j ≤ 9223372036854775807) :
    (execOp a.eval o).run P w = .ok (.value (.int .i64 (i - j))) w := by
  have h3 : IntKind.i64.wrap (i - j) = i - j := by
    rw [IntKind.wrap_i64]
    omega
  simp only [execOp, ho, hx, hy]
  show Result.ok (Next.value (.int .i64 (IntKind.i64.wrap (i - j)))) w = _
  rw [h3]
end
theorem OwnR.below {w w' : World} {base B : Nat} {A : Option Addr} {c : Nat} {l : List Rec} (h : OwnR w base A c l) (hb : Below B w w') (hB : w.heap.size ≤ B) : OwnR w' base A c l := by
  refine ⟨h.1, ?_⟩
  rcases h.2 with hn | ⟨g, cap, cur, hv, hbg, hg, rest⟩
  · exact .inl hn
  · refine .inr ⟨g, cap, cur, hv, hbg, ?_, rest⟩
    rw [hb.block g (by have := (Array.getElem?_eq_some_iff.1 hg).1; omega)]
    exact hg
/-- A literal of one record. -/
theorem lit_rec (w : World) (X : List Value) (hX : X.length = 4) : ∃ W, (∀ (o : Oper) (a : Act) (x : Operand), o.op = .buildSlice 22 1 #[(0, x)] → a.eval x = .agg X.toArray → (execOp a.eval o).run Try.prog w = .ok (.value (.slice (some ⟨w.heap.size, 0, none⟩) 1 1)) W) ∧
    RowAt W w.heap.size 39 X ∧ Below w.heap.size w W :=
  ⟨w.alloc (.cells X.toArray 39), fun o a x ho hx => exec_lit_row (z := .agg #[.int .i64 0, .int .i64 0, .bool false, .slice none 0 0]) (b := 48) 22 39 x ho X hx 4 hX Try.underlying22 (by kernel_rfl) (by decide) (by decide), alloc_row w _ X, alloc_below w _⟩
/-- append of one record onto what the call owns. -/
theorem app_rec (w : World) (base : Nat) (hbase : base ≤ w.heap.size) {A : Option Addr} {c : Nat} {l : List Rec} (hown : OwnR w base A c l) (hl : l.length ≤ 1000000) (X : List Value) (r : Rec) (hX : X = r.val) {h : Nat} (hrow : RowAt w h 39 X) :
    ∃ (zs : List Rec) (A' : Option Addr) (c' : Nat) (w' : World), Hid (zs = l ++ [r]) ∧ (∀ (o : Oper) (a : Act) (s x : Operand), o.op = .call { callee := .builtin .append, args := #[s, x], argTypes := #[22, 22] } → o.type = 22 → a.eval s = .slice A l.length c → a.eval x = .slice (some ⟨h, 0, none⟩) 1 1 →
      (execOp a.eval o).run Try.prog w = .ok (.value (.slice A' zs.length c')) w') ∧ OwnR w' base A' c' zs ∧ w.grownBy w' (A.map (·.block)) := by
  subst hX
  have hinfo : (Try.prog.info? 39).map (fun i => (i.zero, i.size, i.bytes)) = some (some (.agg #[.int .i64 0, .int .i64 0, .bool false, .slice none 0 0]), 4, 48) := by kernel_rfl
  obtain ⟨i, hi, hz0, hz1, hz2⟩ := info_parts hinfo
  obtain ⟨g, cap, w', hr, h2, h3, _, _⟩ := run_append_lies (P := Try.prog) w 22 22 base 39 i _ 4 48 Try.underlying22 hi hz0 hz1 hz2 rfl (by decide) (.slice A l.length c) l.length ((l.map Rec.val).flatten) hown ⟨h, 0, none⟩ 1 1 r.val rfl
    (fun j u hj => by rw [add_at, Nat.zero_add, hrow.cell]; exact hj) (rec_one r) (by decide) (by simp [maxLen]; omega) (by omega) hbase w.heap.size rfl
  refine ⟨l ++ [r], some ⟨g, 0, none⟩, cap, w', Lib.hid rfl, ?_, ?_, by rw [← own_of A l.length c]; exact h3⟩
  · intro o a s x ho hty hs hx
    rw [List.length_append, List.length_singleton]
    simp only [execOp, ho, resolve, invoke, builtin, Sem.run_bind, Sem.run_pure, Result.andThen_ok, List.map_toArray, List.map_cons, List.map_nil, hs, hx, hty, hr]
  · unfold OwnR
    rw [List.length_append, List.length_singleton, List.map_append, List.flatten_append]
    simpa using h2

/-- A variable of the function's own is turned. -/
theorem PS.local {base : Nat} {w w' : World} {gr R : Nat} {A : Option Addr} {cap : Nat} {whole rest : List UInt8} {s : Str} (h : PS base w gr R A cap whole rest s) {gx : Nat} {t : TypeId} {cs : List Value} (hx : RowAt w gx t cs) (ht : t ≠ 5) (hgx : gr < gx) (hso : ∀ k, s.A.map (·.block) = some k → k ≠ gx) (hg : w.grownBy w' (some gx)) :
    PS base w' gr R A cap whole rest s := by
  have hlt := hx.lt
  have hBR : Below (R + 1) w w' := (Below.refl (R + 1) w).grown hg (by have := h.hg; omega) (fun k e => by cases e; have := h.hg; omega)
  refine ⟨h.rd.upto hBR, h.row.kept hg (fun e => by injection e with e; omega), h.hR, h.hg, h.whl.below (hBR.mono (by have := h.hR; omega)), h.wcap, h.wmost, h.wlen, h.at', h.rl, ?_, ?_⟩
  · refine h.own.kept hg ?_
    cases hk : s.A.map (·.block) with
    | none => exact .inl rfl
    | some k => exact .inr (fun e => by injection e with e; exact hso k hk e)
  · exact fun r hr' => (h.dat r hr').kept hg (fun k e => by cases e; exact ⟨_, _, _, hx, ht⟩)

/-- What record leaves. -/
def recQ (base gr R : Nat) (A : Option Addr) (cap : Nat) (whole rest : List UInt8) (s : Str) (w : World) (e : Ending) (w' : World) : Prop :=
  Below base w w' ∧ ((∃ c, e = .returned (.int .i64 c) ∧ recR s.pl rest = .error c ∧ c ≠ 0) ∨
    (∃ r A' c' rest', e = .returned (.int .i64 0) ∧ recR s.pl rest = .ok (r.pl, rest') ∧ PS base w' gr R A cap whole rest' ⟨s.blocks, s.base, s.id, A', c', s.recs ++ [r]⟩))
theorem recQ_err {base gr R : Nat} {A : Option Addr} {cap : Nat} {whole rest : List UInt8} {s : Str} {w w' : World} {c : Int} (hB : Below base w w') (h : recR s.pl rest = .error c) (hc : c ≠ 0) : recQ base gr R A cap whole rest s w (.returned (.int .i64 c)) w' :=
  ⟨hB, .inl ⟨c, rfl, h, hc⟩⟩
-- <record
theorem PS.own_ne {base : Nat} {w : World} {gr R : Nat} {A : Option Addr} {cap : Nat} {whole rest : List UInt8} {s : Str} (h : PS base w gr R A cap whole rest s) : s.A.map (·.block) ≠ some gr := by
  intro e
  obtain ⟨cs, hb⟩ := h.own.row _ e
  have hb' : w.heap[gr]? = some (.cells _ 71 (0, 0)) := h.row
  exact ne_of_type hb hb' (by decide) rfl
/-- Behind the append and the store. -/
theorem PS.grow {base : Nat} {w w2 : World} {gr R : Nat} {A : Option Addr} {cap : Nat} {whole rest : List UInt8} {s : Str} (h : PS base w gr R A cap whole rest s) (hg : w.grownBy w2 (s.A.map (·.block))) {A9 : Option Addr} {c9 : Nat} {r : Rec} (hown : OwnR w2 (R + 1) A9 c9 (s.recs ++ [r])) (hr : r.Own w) {n : Nat} (hn : n = (s.recs ++ [r]).length) :
    PS base (w2.setCell ⟨gr, 5, none⟩ (.slice A9 n c9)) gr R A cap whole rest ⟨s.blocks, s.base, s.id, A9, c9, s.recs ++ [r]⟩ ∧ Below base w (w2.setCell ⟨gr, 5, none⟩ (.slice A9 n c9)) := by
  subst hn
  have hgr := h.hg
  have hRb := h.hR
  have hlt := h.row.lt
  have hB2 : Below (R + 1) w w2 := (Below.refl (R + 1) w).grown hg (by omega) (fun k e => (h.own.lt k e).1)
  have hrow2 : RowAt w2 gr 71 _ := h.row.kept hg (fun e => by
    obtain ⟨cs, hb⟩ := h.own.row _ e
    have hb' : w.heap[gr]? = some (.cells _ 71 (0, 0)) := h.row
    exact ne_of_type hb hb' (by decide) rfl)
  have kp : ∀ q : Rec, q.Own w → q.Own w2 := fun q hq => hq.kept hg (fun k e => by
    obtain ⟨cs, hb⟩ := h.own.row k e
    exact ⟨cs, _, _, hb, by decide⟩)
  have hg3 := setCell_grown w2 gr 5 (.slice A9 (s.recs ++ [r]).length c9)
  have hB3 : Below (R + 1) w2 (w2.setCell ⟨gr, 5, none⟩ (.slice A9 (s.recs ++ [r]).length c9)) := (Below.refl (R + 1) w2).grown hg3 (by have := hB2.size; omega) (fun k e => by cases e; exact hgr)
  have hB := hB2.trans hB3
  refine ⟨⟨h.rd.upto hB, ?_, h.hR, h.hg, h.whl.below (hB.mono (by omega)), h.wcap, h.wmost, h.wlen, h.at', h.rl, ?_, ?_⟩, hB.mono (by omega)⟩
  · have := hrow2.set 5 (.slice A9 (s.recs ++ [r]).length c9)
    simpa [Str.val] using this
  · refine hown.kept hg3 ?_
    cases hk : A9.map (·.block) with
    | none => exact .inl rfl
    | some k =>
      refine .inr fun e => ?_
      obtain ⟨cs, hb⟩ := hown.row k hk
      have hb' : w2.heap[gr]? = some (.cells _ 71 (0, 0)) := hrow2
      injection e with e
      exact ne_of_type hb hb' (by decide) e
  · intro q hq
    have hq2 : q.Own w2 := by
      rcases List.mem_append.1 hq with hq | hq
      · exact kp q (h.dat q hq)
      · rw [List.mem_singleton.1 hq]
        exact kp r hr
    exact hq2.kept hg3 (fun k e => by cases e; exact ⟨_, _, _, hrow2, by decide⟩)
theorem take_z {R : Nat} {bs : List UInt8} (k : Nat) (z : Int) (hz : z = (k : Int)) (hk : k ≤ bs.length) (w : World) (hr : ReaderL w R bs) :
    Calls Try.prog 57 #[.pointer (some ⟨R, 0, none⟩), .int .i64 z] w fun e w' =>
      (∃ A c, e = .returned (.tuple #[.slice A k c, .bool true]) ∧ OwnB w' w.heap.size 5 A c (bs.take k)) ∧ ReaderL w' R (bs.drop k) ∧ w.grownBy w' (some R) := by
  subst hz
  exact takeL R bs k hk w hr
theorem add_pl (s : Str) (A' : Option Addr) (c' : Nat) (r : Rec) : (⟨s.blocks, s.base, s.id, A', c', s.recs ++ [r]⟩ : Str).pl = s.pl.add r.pl := by simp [Str.pl, Str.add]

set_option maxRecDepth 100000 in
set_option maxHeartbeats 16000000 in
theorem record_calls {base : Nat} {w : World} {gr R : Nat} {A : Option Addr} {cap : Nat} {whole rest : List UInt8} {s : Str} (h : PS base w gr R A cap whole rest s) (hb1 : 1 ≤ s.blocks) (hb2 : s.blocks ≤ 64) (ha1 : -1000000000 ≤ s.base) (ha2 : s.base ≤ 1000000000) (hi1 : -1000000000 ≤ s.id) (hi2 : s.id ≤ 1000000000) (hn : s.recs.length ≤ 100000) :
    Calls Try.prog 41 #[.pointer (some ⟨gr, 0, none⟩)] w (recQ base gr R A cap whole rest s w) := by
  have hbase := h.hR
  have hgr := h.hg
  have hwl := h.wlen
  have hrl := h.rl
  have hatp := h.at'
  have hat := Lib.hid (at_calls h)
  have hrec : recR s.pl rest = (if rest.length < 5 then .error 21
    else if rest[0]?.getD 0 ≠ 1 ∧ rest[0]?.getD 0 ≠ 2 then .error 11
    else if (recOfB rest).ct < 1 ∨ s.blocks ≤ (recOfB rest).fr ∨ s.blocks - (recOfB rest).fr < (recOfB rest).ct then .error 25
    else if rest.length < 5 + sizeR rest + 8 then .error 21
    else if check (rest.take (5 + sizeR rest)) ≠ getN ((rest.drop (5 + sizeR rest)).take 8) then .error 22
    else if goodB (s.pl.add (recOfB rest)) = false then .error 26
    else .ok (recOfB rest, rest.drop (5 + sizeR rest + 8))) := rfl
  have hb0 : base ≤ w.heap.size := by have := h.rd.lt; omega
  obtain ⟨fm, hfm⟩ : ∃ fm, fm = whole.length - rest.length := ⟨_, rfl⟩
  rw [← hfm] at hat
  go_enter Try.func41, Try.ntmps41
  go_wp2_with fail
  refine hat.out.mono ?_
  rintro e w1 ⟨rfl, hB1⟩
  have h1 := h.step hB1
  have c01 := h1.cells.1
  have hLl := Lib.hid (left_calls R rest w1 h1.rd.at)
  have hW1 : Below base w w1 := hB1.mono hb0
  clear hat h hB1
  by_cases h5 : rest.length < 5
  · rw [if_pos h5] at hrec
    have hd : decide ((rest.length : Int) < 5) = true := decide_eq_true (by omega)
    clear h1
    replace hfm := Lib.hid hfm
    go_wp2_with fail
    refine hLl.out.mono ?_
    rintro e w2 ⟨rfl, rfl⟩
    go_wp2_with fail
    go_ret
    exact recQ_err hW1 hrec (by decide)
  rw [if_neg h5] at hrec
  have hd : decide ((rest.length : Int) < 5) = false := decide_eq_false (by omega)
  have hn1 := num_calls h1 1 (by omega) (by omega)
  rw [numP_one (by omega)] at hn1
  replace hn1 := Lib.hid hn1
  have hR1 := h1.rd.lt
  obtain ⟨k0, hk0⟩ : ∃ k0, k0 = rest[0]?.getD 0 := ⟨_, rfl⟩
  obtain ⟨fr, hfr⟩ : ∃ fr, fr = numP ((rest.drop 1).take 2) := ⟨_, rfl⟩
  obtain ⟨ct, hct⟩ : ∃ ct, ct = numP ((rest.drop 3).take 2) := ⟨_, rfl⟩
  obtain ⟨sz, hsz⟩ : ∃ sz, sz = sizeR rest := ⟨_, rfl⟩
  obtain ⟨ro, hro⟩ : ∃ ro, ro = recOfB rest := ⟨_, rfl⟩
  have hro2 : ro = ⟨fr, ct, k0 == 2, none, 0, (rest.drop 5).take sz⟩ := by rw [hro, hfr, hct, hk0, hsz]; rfl
  have hsz2 : sz = if k0 = 1 then ct.toNat * 64 else 0 := by rw [hsz, hk0, hct]; rfl
  have hbd : ∀ b : List UInt8, numP (b.take 2) ≤ 65535 := by
    intro b
    have hlt := leVal_lt ((b.take 2).take 8)
    rw [← getN_nat] at hlt
    have hl : ((b.take 2).take 8).length ≤ 2 := by rw [List.length_take, List.length_take]; omega
    have hp : (256 ^ ((b.take 2).take 8).length : Nat) ≤ 256 ^ 2 := Nat.pow_le_pow_right (by omega) hl
    have h4 : (256 ^ 2 : Nat) = 65536 := by simp
    unfold numP
    omega
  have f1 : 0 ≤ fr := by rw [hfr]; exact numP_nonneg _
  have f2 : fr ≤ 65535 := by rw [hfr]; exact hbd _
  have t1 : 0 ≤ ct := by rw [hct]; exact numP_nonneg _
  have t2 : ct ≤ 65535 := by rw [hct]; exact hbd _
  rw [← hk0, ← hsz, ← hro] at hrec
  rw [← hk0] at hn1
  replace hk0 := Lib.hid hk0
  replace hfr := Lib.hid hfr
  replace hct := Lib.hid hct
  replace hsz := Lib.hid hsz
  replace hro := Lib.hid hro
  replace hro2 := Lib.hid hro2
  replace hsz2 := Lib.hid hsz2
  replace hatp := Lib.hid hatp
  replace hfm := Lib.hid hfm
  clear hbd
  go_wp2_with fail
  refine hLl.out.mono ?_
  rintro e w2 ⟨rfl, rfl⟩
  go_wp2_with fail
  refine hn1.out.mono ?_
  rintro e w2 ⟨rfl, h2, hg2⟩
  have hW2 := below_read hW1 hg2 hbase hR1
  have hR2 := h2.rd.lt
  have hn2 := num_calls h2 2 (by rw [List.length_drop]; omega) (by omega)
  rw [← hfr.out, List.drop_drop] at hn2
  replace hn2 := Lib.hid hn2
  clear h1 h2 hg2 hW1 hR1 hn1 hLl c01
  go_wp2_with fail
  refine hn2.out.mono ?_
  rintro e w3 ⟨rfl, h3, hg3⟩
  have hW3 := below_read hW2 hg3 hbase hR2
  clear hg3 hW2 hR2 hn2
  go_wp2_with (first
    | (refine wpList_alloc_row 5 rfl 39 rfl _ rfl zero_rec ?_; intro w4 hr4 hs4 hB4; clear hs4)
    | (refine wpList_store_part 39 (.tmp 5) (.tmp 22) rfl hr4 0 (⟨fr, 0, false, none, 0, []⟩ : Rec).val rfl rfl rfl Try.sizeOf39 (Nat.le_refl 4) (rec_one _) ?_
       intro w5 hx5 hs5 hg5
       clear hs5))
  rw [splice_all [.int .i64 0, .int .i64 0, .bool false, .slice none 0 0] (⟨fr, 0, false, none, 0, []⟩ : Rec).val rfl] at hx5
  have hB5 : Below w3.heap.size w3 w5 := hB4.grown hg5 hB4.size (fun j e => by cases e; exact Nat.le_refl _)
  have h5' := h3.step hB5
  have hW5 := hW3.trans (hB5.mono (Nat.le_trans hb0 hW3.size))
  have hgx : gr < w3.heap.size := h3.row.lt
  have hso : ∀ k, s.A.map (·.block) = some k → k ≠ w3.heap.size := fun k hk => by have := (h3.own.lt k hk).2; omega
  have hR5 := h5'.rd.lt
  have hn3 := num_calls h5' 2 (by rw [List.length_drop]; omega) (by omega)
  rw [← hct.out, List.drop_drop] at hn3
  replace hn3 := Lib.hid hn3
  clear hr4 hB4 hg5 hB5 h3 hW3 h5'
  generalize w3.heap.size = gx at hx5 hgx hso ⊢
  refine hn3.out.mono ?_
  rintro e w6 ⟨rfl, h6, hg6⟩
  have hW6 := below_read hW5 hg6 hbase hR5
  have hx6 := hx5.kept hg6 (fun e => by injection e with e; omega)
  have y0 := hx6.cellD 0 _ rfl
  have y1 := hx6.cellD 1 _ rfl
  have y2 := hx6.cellD 2 _ rfl
  have z1 := hx6.free 1
  have z2 := hx6.free 2
  have hgb : base ≤ gx := by omega
  clear hx5 hg6 hW5 hR5 hn3
  obtain ⟨zz, hzz⟩ : ∃ zz, ((k0.toNat : Int) == 2) = zz := ⟨_, rfl⟩
  obtain ⟨w7, hw7⟩ : ∃ w7, w7 = (w6.setCell ⟨gx, 1, none⟩ (.int .i64 ct)).setCell ⟨gx, 2, none⟩ (.bool zz) := ⟨_, rfl⟩
  have hx7 : RowAt w7 gx 39 [.int .i64 fr, .int .i64 ct, .bool zz, .slice none 0 0] := by rw [hw7]; exact (hx6.set 1 _).set 2 _
  have h7 := (h6.local hx6 (by decide) hgx hso (setCell_grown w6 gx 1 (.int .i64 ct))).local (hx6.set 1 (.int .i64 ct)) (by decide) hgx hso (setCell_grown _ gx 2 (.bool zz))
  rw [← hw7] at h7
  have hW7 : Below base w w7 := by rw [hw7]; exact (hW6.setCell (p := ⟨gx, 1, none⟩) hgb _).setCell (p := ⟨gx, 2, none⟩) hgb _
  clear h6 hx6 hW6
  by_cases hk12 : k0 ≠ 1 ∧ k0 ≠ 2
  · rw [if_pos hk12] at hrec
    have n1 : ((k0.toNat : Int) != 1) = true := by have h := ne_u8 (b := 1) hk12.1; rw [bne]; exact congrArg not h
    have n2 : ((k0.toNat : Int) != 2) = true := by have h := ne_u8 (b := 2) hk12.2; rw [bne]; exact congrArg not h
    replace hrec := Lib.hid hrec
    clear h7 hx7 hk12
    go_wp2_with fail
    go_ret
    rw [← hw7]
    exact recQ_err hW7 hrec.out (by decide)
  rw [if_neg hk12] at hrec
  have hk : k0 = 1 ∨ k0 = 2 := by
    by_cases h1 : k0 = 1
    · exact .inl h1
    · by_cases h2 : k0 = 2
      · exact .inr h2
      · exact absurd ⟨h1, h2⟩ hk12
  clear hk12
  have hroc : ro.ct = ct ∧ ro.fr = fr := by rw [hro2.out]; exact ⟨rfl, rfl⟩
  rw [hroc.1, hroc.2] at hrec
  clear hroc
  have hWd : Below base w w7.drew := hW7.trans (((Since.refl w7).drew : Since w7 w7.drew).mono (Nat.le_trans hb0 hW7.size))
  rcases hk with rfl | rfl
  · obtain rfl : zz = false := hzz.symm
    clear hzz
    go_upto_region 10 with fail
    rw [← hw7]
    replace hw7 := Lib.hid hw7
    have x0 := hx7.cellD 0 _ rfl
    have x1 := hx7.cellD 1 _ rfl
    have b2 : w7.cell? ⟨gr, 2, none⟩ = some (.int .i64 s.blocks) := h7.row.cellD 2 _ rfl
    by_cases ka : ct < 1
    · rw [if_pos (.inl ka)] at hrec
      have k1 := decide_eq_true ka
      replace hrec := Lib.hid hrec
      -- <held1
      have d0 : Since w7 w7.drew := (Since.refl w7).drew
      refine wp_region_H (Since w7) 27 rfl (by kernel_rfl) ?_
      refine wh_take 0 (.pointer (some ⟨gx, 1, none⟩)) rfl (by kernel_rfl) (by kernel_rfl) (fun _ _ _ h => h) (by kernel_rfl) (fun _ _ => by kernel_rfl) ?_
      refine wh_take 1 (.int .i64 ct) rfl (by kernel_rfl) (by kernel_rfl) (fun _ _ _ h => h) (by kernel_rfl) (fun W h => exec_load_cell 3 (.tmp 37) rfl ⟨gx, 1, none⟩ _ (by kernel_rfl) (h.cell x1) Try.isAgg3) ?_
      refine wh_take 2 (.bool true) rfl (by kernel_rfl) (by kernel_rfl) (fun _ _ _ h => h) (by kernel_rfl) (fun _ _ => exec_lss_int 3 3 (.tmp 38) (.const (.int .i64 1)) rfl ct 1 (by kernel_rfl) (by kernel_rfl) true k1) ?_
      refine wh_take 3 (.bool true) rfl (by kernel_rfl) (by kernel_rfl) (fun _ _ _ h => h) (by kernel_rfl) (fun _ _ => by kernel_rfl) ?_
      refine wh_no 4 rfl (by kernel_rfl) (by kernel_rfl) (fun _ _ _ h => h) (by kernel_rfl) ?_
      refine wh_no 5 rfl (by kernel_rfl) (by kernel_rfl) (fun _ _ _ h => h) (by kernel_rfl) ?_
      refine wh_no 6 rfl (by kernel_rfl) (by kernel_rfl) (fun _ _ _ h => h) (by kernel_rfl) ?_
      refine wh_no 7 rfl (by kernel_rfl) (by kernel_rfl) (fun _ _ _ h => h) (by kernel_rfl) ?_
      refine wh_no 8 rfl (by kernel_rfl) (by kernel_rfl) (fun _ _ _ h => h) (by kernel_rfl) ?_
      refine wh_no 9 rfl (by kernel_rfl) (by kernel_rfl) (fun _ _ _ h => h) (by kernel_rfl) ?_
      refine wh_no 10 rfl (by kernel_rfl) (by kernel_rfl) (fun _ _ _ h => h) (by kernel_rfl) ?_
      refine wh_no 11 rfl (by kernel_rfl) (by kernel_rfl) (fun _ _ _ h => h) (by kernel_rfl) ?_
      refine wh_take 12 (.bool true) rfl (by kernel_rfl) (by kernel_rfl) (fun _ _ _ h => h) (by kernel_rfl) (fun _ _ => by kernel_rfl) ?_
      refine wh_take 13 (.bool true) rfl (by kernel_rfl) (by kernel_rfl) (fun _ _ _ h => h) (by kernel_rfl) (fun _ _ => by kernel_rfl) ?_
      refine wh_no 14 rfl (by kernel_rfl) (by kernel_rfl) (fun _ _ _ h => h) (by kernel_rfl) ?_
      refine wh_no 15 rfl (by kernel_rfl) (by kernel_rfl) (fun _ _ _ h => h) (by kernel_rfl) ?_
      refine wh_no 16 rfl (by kernel_rfl) (by kernel_rfl) (fun _ _ _ h => h) (by kernel_rfl) ?_
      refine wh_no 17 rfl (by kernel_rfl) (by kernel_rfl) (fun _ _ _ h => h) (by kernel_rfl) ?_
      refine wh_no 18 rfl (by kernel_rfl) (by kernel_rfl) (fun _ _ _ h => h) (by kernel_rfl) ?_
      refine wh_no 19 rfl (by kernel_rfl) (by kernel_rfl) (fun _ _ _ h => h) (by kernel_rfl) ?_
      refine wh_no 20 rfl (by kernel_rfl) (by kernel_rfl) (fun _ _ _ h => h) (by kernel_rfl) ?_
      refine wh_no 21 rfl (by kernel_rfl) (by kernel_rfl) (fun _ _ _ h => h) (by kernel_rfl) ?_
      refine wh_no 22 rfl (by kernel_rfl) (by kernel_rfl) (fun _ _ _ h => h) (by kernel_rfl) ?_
      refine wh_no 23 rfl (by kernel_rfl) (by kernel_rfl) (fun _ _ _ h => h) (by kernel_rfl) ?_
      refine wh_no 24 rfl (by kernel_rfl) (by kernel_rfl) (fun _ _ _ h => h) (by kernel_rfl) ?_
      refine wh_take 25 (.bool true) rfl (by kernel_rfl) (by kernel_rfl) (fun _ _ _ h => h) (by kernel_rfl) (fun _ _ => by kernel_rfl) ?_
      refine wh_take 26 (.bool true) rfl (by kernel_rfl) (by kernel_rfl) (fun _ _ _ h => h) (by kernel_rfl) (fun _ _ => by kernel_rfl) ?_
      refine wh_done (by kernel_rfl) d0 ?_
      simp only [Act.put, List.setIfInBounds_toArray, List.set_cons_zero, List.set_cons_succ]
      -- held1>
      go_wp2_with fail
      go_ret
      exact recQ_err hWd hrec.out (by decide)
    have k1 := decide_eq_false ka
    by_cases kb : s.blocks ≤ fr
    · rw [if_pos (.inr (.inl kb))] at hrec
      have k2 := decide_eq_true kb
      replace hrec := Lib.hid hrec
      -- <held2
      have d0 : Since w7 w7.drew := (Since.refl w7).drew
      refine wp_region_H (Since w7) 27 rfl (by kernel_rfl) ?_
      refine wh_take 0 (.pointer (some ⟨gx, 1, none⟩)) rfl (by kernel_rfl) (by kernel_rfl) (fun _ _ _ h => h) (by kernel_rfl) (fun _ _ => by kernel_rfl) ?_
      refine wh_take 1 (.int .i64 ct) rfl (by kernel_rfl) (by kernel_rfl) (fun _ _ _ h => h) (by kernel_rfl) (fun W h => exec_load_cell 3 (.tmp 37) rfl ⟨gx, 1, none⟩ _ (by kernel_rfl) (h.cell x1) Try.isAgg3) ?_
      refine wh_take 2 (.bool false) rfl (by kernel_rfl) (by kernel_rfl) (fun _ _ _ h => h) (by kernel_rfl) (fun _ _ => exec_lss_int 3 3 (.tmp 38) (.const (.int .i64 1)) rfl ct 1 (by kernel_rfl) (by kernel_rfl) false k1) ?_
      refine wh_take 3 (.bool false) rfl (by kernel_rfl) (by kernel_rfl) (fun _ _ _ h => h) (by kernel_rfl) (fun _ _ => by kernel_rfl) ?_
      refine wh_take 4 (.pointer (some ⟨gx, 0, none⟩)) rfl (by kernel_rfl) (by kernel_rfl) (fun _ _ _ h => h) (by kernel_rfl) (fun _ _ => by kernel_rfl) ?_
      refine wh_take 5 (.int .i64 fr) rfl (by kernel_rfl) (by kernel_rfl) (fun _ _ _ h => h) (by kernel_rfl) (fun W h => exec_load_cell 3 (.tmp 41) rfl ⟨gx, 0, none⟩ _ (by kernel_rfl) (h.cell x0) Try.isAgg3) ?_
      refine wh_take 6 (.pointer (some ⟨gr, 0, none⟩)) rfl (by kernel_rfl) (by kernel_rfl) (fun _ _ _ h => h) (by kernel_rfl) (fun _ _ => by kernel_rfl) ?_
      refine wh_take 7 (.pointer (some ⟨gr, 0, none⟩)) rfl (by kernel_rfl) (by kernel_rfl) (fun _ _ _ h => h) (by kernel_rfl) (fun _ _ => by kernel_rfl) ?_
      refine wh_take 8 (.pointer (some ⟨gr, 2, none⟩)) rfl (by kernel_rfl) (by kernel_rfl) (fun _ _ _ h => h) (by kernel_rfl) (fun _ _ => by kernel_rfl) ?_
      refine wh_take 9 (.pointer (some ⟨gr, 2, none⟩)) rfl (by kernel_rfl) (by kernel_rfl) (fun _ _ _ h => h) (by kernel_rfl) (fun _ _ => by kernel_rfl) ?_
      refine wh_take 10 (.int .i64 s.blocks) rfl (by kernel_rfl) (by kernel_rfl) (fun _ _ _ h => h) (by kernel_rfl) (fun W h => exec_load_cell 3 (.tmp 46) rfl ⟨gr, 2, none⟩ _ (by kernel_rfl) (h.cell b2) Try.isAgg3) ?_
      refine wh_take 11 (.bool true) rfl (by kernel_rfl) (by kernel_rfl) (fun _ _ _ h => h) (by kernel_rfl) (fun _ _ => exec_geq_int 3 3 (.tmp 42) (.tmp 47) rfl fr s.blocks (by kernel_rfl) (by kernel_rfl) true k2) ?_
      refine wh_take 12 (.bool true) rfl (by kernel_rfl) (by kernel_rfl) (fun _ _ _ h => h) (by kernel_rfl) (fun _ _ => by kernel_rfl) ?_
      refine wh_take 13 (.bool true) rfl (by kernel_rfl) (by kernel_rfl) (fun _ _ _ h => h) (by kernel_rfl) (fun _ _ => by kernel_rfl) ?_
      refine wh_no 14 rfl (by kernel_rfl) (by kernel_rfl) (fun _ _ _ h => h) (by kernel_rfl) ?_
      refine wh_no 15 rfl (by kernel_rfl) (by kernel_rfl) (fun _ _ _ h => h) (by kernel_rfl) ?_
      refine wh_no 16 rfl (by kernel_rfl) (by kernel_rfl) (fun _ _ _ h => h) (by kernel_rfl) ?_
      refine wh_no 17 rfl (by kernel_rfl) (by kernel_rfl) (fun _ _ _ h => h) (by kernel_rfl) ?_
      refine wh_no 18 rfl (by kernel_rfl) (by kernel_rfl) (fun _ _ _ h => h) (by kernel_rfl) ?_
      refine wh_no 19 rfl (by kernel_rfl) (by kernel_rfl) (fun _ _ _ h => h) (by kernel_rfl) ?_
      refine wh_no 20 rfl (by kernel_rfl) (by kernel_rfl) (fun _ _ _ h => h) (by kernel_rfl) ?_
      refine wh_no 21 rfl (by kernel_rfl) (by kernel_rfl) (fun _ _ _ h => h) (by kernel_rfl) ?_
      refine wh_no 22 rfl (by kernel_rfl) (by kernel_rfl) (fun _ _ _ h => h) (by kernel_rfl) ?_
      refine wh_no 23 rfl (by kernel_rfl) (by kernel_rfl) (fun _ _ _ h => h) (by kernel_rfl) ?_
      refine wh_no 24 rfl (by kernel_rfl) (by kernel_rfl) (fun _ _ _ h => h) (by kernel_rfl) ?_
      refine wh_take 25 (.bool true) rfl (by kernel_rfl) (by kernel_rfl) (fun _ _ _ h => h) (by kernel_rfl) (fun _ _ => by kernel_rfl) ?_
      refine wh_take 26 (.bool true) rfl (by kernel_rfl) (by kernel_rfl) (fun _ _ _ h => h) (by kernel_rfl) (fun _ _ => by kernel_rfl) ?_
      refine wh_done (by kernel_rfl) d0 ?_
      simp only [Act.put, List.setIfInBounds_toArray, List.set_cons_zero, List.set_cons_succ]
      -- held2>
      go_wp2_with fail
      go_ret
      exact recQ_err hWd hrec.out (by decide)
    have k2 := decide_eq_false kb
    have k4 : -9223372036854775808 ≤ s.blocks - fr := by omega
    have k5 : s.blocks - fr ≤ 9223372036854775807 := by omega
    by_cases kc : s.blocks - fr < ct
    · rw [if_pos (.inr (.inr kc))] at hrec
      have k3 := decide_eq_true kc
      replace hrec := Lib.hid hrec
      -- <held3
      have d0 : Since w7 w7.drew := (Since.refl w7).drew
      refine wp_region_H (Since w7) 27 rfl (by kernel_rfl) ?_
      refine wh_take 0 (.pointer (some ⟨gx, 1, none⟩)) rfl (by kernel_rfl) (by kernel_rfl) (fun _ _ _ h => h) (by kernel_rfl) (fun _ _ => by kernel_rfl) ?_
      refine wh_take 1 (.int .i64 ct) rfl (by kernel_rfl) (by kernel_rfl) (fun _ _ _ h => h) (by kernel_rfl) (fun W h => exec_load_cell 3 (.tmp 37) rfl ⟨gx, 1, none⟩ _ (by kernel_rfl) (h.cell x1) Try.isAgg3) ?_
      refine wh_take 2 (.bool false) rfl (by kernel_rfl) (by kernel_rfl) (fun _ _ _ h => h) (by kernel_rfl) (fun _ _ => exec_lss_int 3 3 (.tmp 38) (.const (.int .i64 1)) rfl ct 1 (by kernel_rfl) (by kernel_rfl) false k1) ?_
      refine wh_take 3 (.bool false) rfl (by kernel_rfl) (by kernel_rfl) (fun _ _ _ h => h) (by kernel_rfl) (fun _ _ => by kernel_rfl) ?_
      refine wh_take 4 (.pointer (some ⟨gx, 0, none⟩)) rfl (by kernel_rfl) (by kernel_rfl) (fun _ _ _ h => h) (by kernel_rfl) (fun _ _ => by kernel_rfl) ?_
      refine wh_take 5 (.int .i64 fr) rfl (by kernel_rfl) (by kernel_rfl) (fun _ _ _ h => h) (by kernel_rfl) (fun W h => exec_load_cell 3 (.tmp 41) rfl ⟨gx, 0, none⟩ _ (by kernel_rfl) (h.cell x0) Try.isAgg3) ?_
      refine wh_take 6 (.pointer (some ⟨gr, 0, none⟩)) rfl (by kernel_rfl) (by kernel_rfl) (fun _ _ _ h => h) (by kernel_rfl) (fun _ _ => by kernel_rfl) ?_
      refine wh_take 7 (.pointer (some ⟨gr, 0, none⟩)) rfl (by kernel_rfl) (by kernel_rfl) (fun _ _ _ h => h) (by kernel_rfl) (fun _ _ => by kernel_rfl) ?_
      refine wh_take 8 (.pointer (some ⟨gr, 2, none⟩)) rfl (by kernel_rfl) (by kernel_rfl) (fun _ _ _ h => h) (by kernel_rfl) (fun _ _ => by kernel_rfl) ?_
      refine wh_take 9 (.pointer (some ⟨gr, 2, none⟩)) rfl (by kernel_rfl) (by kernel_rfl) (fun _ _ _ h => h) (by kernel_rfl) (fun _ _ => by kernel_rfl) ?_
      refine wh_take 10 (.int .i64 s.blocks) rfl (by kernel_rfl) (by kernel_rfl) (fun _ _ _ h => h) (by kernel_rfl) (fun W h => exec_load_cell 3 (.tmp 46) rfl ⟨gr, 2, none⟩ _ (by kernel_rfl) (h.cell b2) Try.isAgg3) ?_
      refine wh_take 11 (.bool false) rfl (by kernel_rfl) (by kernel_rfl) (fun _ _ _ h => h) (by kernel_rfl) (fun _ _ => exec_geq_int 3 3 (.tmp 42) (.tmp 47) rfl fr s.blocks (by kernel_rfl) (by kernel_rfl) false k2) ?_
      refine wh_take 12 (.bool false) rfl (by kernel_rfl) (by kernel_rfl) (fun _ _ _ h => h) (by kernel_rfl) (fun _ _ => by kernel_rfl) ?_
      refine wh_take 13 (.bool false) rfl (by kernel_rfl) (by kernel_rfl) (fun _ _ _ h => h) (by kernel_rfl) (fun _ _ => by kernel_rfl) ?_
      refine wh_take 14 (.pointer (some ⟨gx, 1, none⟩)) rfl (by kernel_rfl) (by kernel_rfl) (fun _ _ _ h => h) (by kernel_rfl) (fun _ _ => by kernel_rfl) ?_
      refine wh_take 15 (.int .i64 ct) rfl (by kernel_rfl) (by kernel_rfl) (fun _ _ _ h => h) (by kernel_rfl) (fun W h => exec_load_cell 3 (.tmp 51) rfl ⟨gx, 1, none⟩ _ (by kernel_rfl) (h.cell x1) Try.isAgg3) ?_
      refine wh_take 16 (.pointer (some ⟨gr, 0, none⟩)) rfl (by kernel_rfl) (by kernel_rfl) (fun _ _ _ h => h) (by kernel_rfl) (fun _ _ => by kernel_rfl) ?_
      refine wh_take 17 (.pointer (some ⟨gr, 0, none⟩)) rfl (by kernel_rfl) (by kernel_rfl) (fun _ _ _ h => h) (by kernel_rfl) (fun _ _ => by kernel_rfl) ?_
      refine wh_take 18 (.pointer (some ⟨gr, 2, none⟩)) rfl (by kernel_rfl) (by kernel_rfl) (fun _ _ _ h => h) (by kernel_rfl) (fun _ _ => by kernel_rfl) ?_
      refine wh_take 19 (.pointer (some ⟨gr, 2, none⟩)) rfl (by kernel_rfl) (by kernel_rfl) (fun _ _ _ h => h) (by kernel_rfl) (fun _ _ => by kernel_rfl) ?_
      refine wh_take 20 (.int .i64 s.blocks) rfl (by kernel_rfl) (by kernel_rfl) (fun _ _ _ h => h) (by kernel_rfl) (fun W h => exec_load_cell 3 (.tmp 56) rfl ⟨gr, 2, none⟩ _ (by kernel_rfl) (h.cell b2) Try.isAgg3) ?_
      refine wh_take 21 (.pointer (some ⟨gx, 0, none⟩)) rfl (by kernel_rfl) (by kernel_rfl) (fun _ _ _ h => h) (by kernel_rfl) (fun _ _ => by kernel_rfl) ?_
      refine wh_take 22 (.int .i64 fr) rfl (by kernel_rfl) (by kernel_rfl) (fun _ _ _ h => h) (by kernel_rfl) (fun W h => exec_load_cell 3 (.tmp 58) rfl ⟨gx, 0, none⟩ _ (by kernel_rfl) (h.cell x0) Try.isAgg3) ?_
      refine wh_take 23 (.int .i64 (s.blocks - fr)) rfl (by kernel_rfl) (by kernel_rfl) (fun _ _ _ h => h) (by kernel_rfl) (fun _ _ => exec_sub_int 3 3 (.tmp 57) (.tmp 59) rfl s.blocks fr (by kernel_rfl) (by kernel_rfl) k4 k5) ?_
      refine wh_take 24 (.bool true) rfl (by kernel_rfl) (by kernel_rfl) (fun _ _ _ h => h) (by kernel_rfl) (fun _ _ => exec_gtr_int 3 3 (.tmp 52) (.tmp 60) rfl ct (s.blocks - fr) (by kernel_rfl) (by kernel_rfl) true k3) ?_
      refine wh_take 25 (.bool true) rfl (by kernel_rfl) (by kernel_rfl) (fun _ _ _ h => h) (by kernel_rfl) (fun _ _ => by kernel_rfl) ?_
      refine wh_take 26 (.bool true) rfl (by kernel_rfl) (by kernel_rfl) (fun _ _ _ h => h) (by kernel_rfl) (fun _ _ => by kernel_rfl) ?_
      refine wh_done (by kernel_rfl) d0 ?_
      simp only [Act.put, List.setIfInBounds_toArray, List.set_cons_zero, List.set_cons_succ]
      -- held3>
      go_wp2_with fail
      go_ret
      exact recQ_err hWd hrec.out (by decide)
    have k3 := decide_eq_false kc
    rw [if_neg (by omega)] at hrec
    -- <held4
    have d0 : Since w7 w7.drew := (Since.refl w7).drew
    refine wp_region_H (Since w7) 27 rfl (by kernel_rfl) ?_
    refine wh_take 0 (.pointer (some ⟨gx, 1, none⟩)) rfl (by kernel_rfl) (by kernel_rfl) (fun _ _ _ h => h) (by kernel_rfl) (fun _ _ => by kernel_rfl) ?_
    refine wh_take 1 (.int .i64 ct) rfl (by kernel_rfl) (by kernel_rfl) (fun _ _ _ h => h) (by kernel_rfl) (fun W h => exec_load_cell 3 (.tmp 37) rfl ⟨gx, 1, none⟩ _ (by kernel_rfl) (h.cell x1) Try.isAgg3) ?_
    refine wh_take 2 (.bool false) rfl (by kernel_rfl) (by kernel_rfl) (fun _ _ _ h => h) (by kernel_rfl) (fun _ _ => exec_lss_int 3 3 (.tmp 38) (.const (.int .i64 1)) rfl ct 1 (by kernel_rfl) (by kernel_rfl) false k1) ?_
    refine wh_take 3 (.bool false) rfl (by kernel_rfl) (by kernel_rfl) (fun _ _ _ h => h) (by kernel_rfl) (fun _ _ => by kernel_rfl) ?_
    refine wh_take 4 (.pointer (some ⟨gx, 0, none⟩)) rfl (by kernel_rfl) (by kernel_rfl) (fun _ _ _ h => h) (by kernel_rfl) (fun _ _ => by kernel_rfl) ?_
    refine wh_take 5 (.int .i64 fr) rfl (by kernel_rfl) (by kernel_rfl) (fun _ _ _ h => h) (by kernel_rfl) (fun W h => exec_load_cell 3 (.tmp 41) rfl ⟨gx, 0, none⟩ _ (by kernel_rfl) (h.cell x0) Try.isAgg3) ?_
    refine wh_take 6 (.pointer (some ⟨gr, 0, none⟩)) rfl (by kernel_rfl) (by kernel_rfl) (fun _ _ _ h => h) (by kernel_rfl) (fun _ _ => by kernel_rfl) ?_
    refine wh_take 7 (.pointer (some ⟨gr, 0, none⟩)) rfl (by kernel_rfl) (by kernel_rfl) (fun _ _ _ h => h) (by kernel_rfl) (fun _ _ => by kernel_rfl) ?_
    refine wh_take 8 (.pointer (some ⟨gr, 2, none⟩)) rfl (by kernel_rfl) (by kernel_rfl) (fun _ _ _ h => h) (by kernel_rfl) (fun _ _ => by kernel_rfl) ?_
    refine wh_take 9 (.pointer (some ⟨gr, 2, none⟩)) rfl (by kernel_rfl) (by kernel_rfl) (fun _ _ _ h => h) (by kernel_rfl) (fun _ _ => by kernel_rfl) ?_
    refine wh_take 10 (.int .i64 s.blocks) rfl (by kernel_rfl) (by kernel_rfl) (fun _ _ _ h => h) (by kernel_rfl) (fun W h => exec_load_cell 3 (.tmp 46) rfl ⟨gr, 2, none⟩ _ (by kernel_rfl) (h.cell b2) Try.isAgg3) ?_
    refine wh_take 11 (.bool false) rfl (by kernel_rfl) (by kernel_rfl) (fun _ _ _ h => h) (by kernel_rfl) (fun _ _ => exec_geq_int 3 3 (.tmp 42) (.tmp 47) rfl fr s.blocks (by kernel_rfl) (by kernel_rfl) false k2) ?_
    refine wh_take 12 (.bool false) rfl (by kernel_rfl) (by kernel_rfl) (fun _ _ _ h => h) (by kernel_rfl) (fun _ _ => by kernel_rfl) ?_
    refine wh_take 13 (.bool false) rfl (by kernel_rfl) (by kernel_rfl) (fun _ _ _ h => h) (by kernel_rfl) (fun _ _ => by kernel_rfl) ?_
    refine wh_take 14 (.pointer (some ⟨gx, 1, none⟩)) rfl (by kernel_rfl) (by kernel_rfl) (fun _ _ _ h => h) (by kernel_rfl) (fun _ _ => by kernel_rfl) ?_
    refine wh_take 15 (.int .i64 ct) rfl (by kernel_rfl) (by kernel_rfl) (fun _ _ _ h => h) (by kernel_rfl) (fun W h => exec_load_cell 3 (.tmp 51) rfl ⟨gx, 1, none⟩ _ (by kernel_rfl) (h.cell x1) Try.isAgg3) ?_
    refine wh_take 16 (.pointer (some ⟨gr, 0, none⟩)) rfl (by kernel_rfl) (by kernel_rfl) (fun _ _ _ h => h) (by kernel_rfl) (fun _ _ => by kernel_rfl) ?_
    refine wh_take 17 (.pointer (some ⟨gr, 0, none⟩)) rfl (by kernel_rfl) (by kernel_rfl) (fun _ _ _ h => h) (by kernel_rfl) (fun _ _ => by kernel_rfl) ?_
    refine wh_take 18 (.pointer (some ⟨gr, 2, none⟩)) rfl (by kernel_rfl) (by kernel_rfl) (fun _ _ _ h => h) (by kernel_rfl) (fun _ _ => by kernel_rfl) ?_
    refine wh_take 19 (.pointer (some ⟨gr, 2, none⟩)) rfl (by kernel_rfl) (by kernel_rfl) (fun _ _ _ h => h) (by kernel_rfl) (fun _ _ => by kernel_rfl) ?_
    refine wh_take 20 (.int .i64 s.blocks) rfl (by kernel_rfl) (by kernel_rfl) (fun _ _ _ h => h) (by kernel_rfl) (fun W h => exec_load_cell 3 (.tmp 56) rfl ⟨gr, 2, none⟩ _ (by kernel_rfl) (h.cell b2) Try.isAgg3) ?_
    refine wh_take 21 (.pointer (some ⟨gx, 0, none⟩)) rfl (by kernel_rfl) (by kernel_rfl) (fun _ _ _ h => h) (by kernel_rfl) (fun _ _ => by kernel_rfl) ?_
    refine wh_take 22 (.int .i64 fr) rfl (by kernel_rfl) (by kernel_rfl) (fun _ _ _ h => h) (by kernel_rfl) (fun W h => exec_load_cell 3 (.tmp 58) rfl ⟨gx, 0, none⟩ _ (by kernel_rfl) (h.cell x0) Try.isAgg3) ?_
    refine wh_take 23 (.int .i64 (s.blocks - fr)) rfl (by kernel_rfl) (by kernel_rfl) (fun _ _ _ h => h) (by kernel_rfl) (fun _ _ => exec_sub_int 3 3 (.tmp 57) (.tmp 59) rfl s.blocks fr (by kernel_rfl) (by kernel_rfl) k4 k5) ?_
    refine wh_take 24 (.bool false) rfl (by kernel_rfl) (by kernel_rfl) (fun _ _ _ h => h) (by kernel_rfl) (fun _ _ => exec_gtr_int 3 3 (.tmp 52) (.tmp 60) rfl ct (s.blocks - fr) (by kernel_rfl) (by kernel_rfl) false k3) ?_
    refine wh_take 25 (.bool false) rfl (by kernel_rfl) (by kernel_rfl) (fun _ _ _ h => h) (by kernel_rfl) (fun _ _ => by kernel_rfl) ?_
    refine wh_take 26 (.bool false) rfl (by kernel_rfl) (by kernel_rfl) (fun _ _ _ h => h) (by kernel_rfl) (fun _ _ => by kernel_rfl) ?_
    refine wh_done (by kernel_rfl) d0 ?_
    simp only [Act.put, List.setIfInBounds_toArray, List.set_cons_zero, List.set_cons_succ]
    -- held4>
    obtain ⟨cN, rfl⟩ : ∃ cN : Nat, ct = (cN : Int) := ⟨ct.toNat, by omega⟩
    have hzs : sz = cN * 64 := by rw [hsz2.out]; simp
    have d0 : Since w7 w7.drew := (Since.refl w7).drew
    have h8 := h7.step d0
    have hx8 := hx7.step d0
    have e1 := hx8.cellD 1 _ rfl
    have c8 := h8.cells.1
    have hR8 := h8.rd.lt
    have hl5 : (rest.drop (1 + 2 + 2)).length = rest.length - 5 := List.length_drop
    have hLl := Lib.hid (left_calls R (rest.drop (1 + 2 + 2)) w7.drew h8.rd.at)
    have hc64 : (cN : Int) ≤ 64 := by omega
    have hc1 : (1 : Int) ≤ (cN : Int) := by omega
    clear x0 x1 b2 k1 k2 k3 k4 k5 ka kb kc d0 h7 hx7 hW7 hw7
    by_cases hs : rest.length < 5 + sz + 8
    · rw [if_pos hs] at hrec
      have hd8 : decide (((rest.drop (1 + 2 + 2)).length : Int) < (cN : Int) * 64 + 8) = true := decide_eq_true (by omega)
      replace hrec := Lib.hid hrec
      replace hzs := Lib.hid hzs
      clear h8 hx8
      generalize rest.drop (1 + 2 + 2) = r5 at hLl hd8
      go_wp2_with fail
      refine hLl.out.mono ?_
      rintro e w8 ⟨rfl, rfl⟩
      go_wp2_with fail
      go_ret
      exact recQ_err hWd hrec.out (by decide)
    rw [if_neg hs] at hrec
    have hd8 : decide (((rest.drop (1 + 2 + 2)).length : Int) < (cN : Int) * 64 + 8) = false := decide_eq_false (by omega)
    have htk := Lib.hid (take_z sz ((cN : Int) * 64) (by rw [hzs]; omega) (by omega) w7.drew h8.rd)
    have hsm : sz ≤ 4096 := by omega
    have hsl : sz ≤ (rest.drop (1 + 2 + 2)).length := by omega
    have hq9 : (rest.drop (1 + 2 + 2)).drop sz = rest.drop (5 + sz) := List.drop_drop
    have hdl : ((rest.drop (1 + 2 + 2)).take sz).length = sz := by rw [List.length_take]; omega
    have hro3 : ro = ⟨fr, (cN : Int), false, none, 0, (rest.drop (1 + 2 + 2)).take sz⟩ := hro2.out
    have hzs' := Lib.hid hzs
    replace hs := Lib.hid hs
    generalize rest.drop (1 + 2 + 2) = r5 at hLl hd8 htk hsl hq9 hdl hro3 h8
    generalize r5.take sz = dd at htk hdl hro3
    replace hdl := Lib.hid hdl
    replace hro3 := Lib.hid hro3
    replace hq9 := Lib.hid hq9
    clear hl5 hro2
    have hp64 : decide ((0 : Int) < (cN : Int) * 64) = true := decide_eq_true (by omega)
    clear hzs
    go_wp2_with fail
    refine hLl.out.mono ?_
    rintro e w8 ⟨rfl, rfl⟩
    go_wp2_with fail
    refine htk.out.mono ?_
    rintro e w9 ⟨⟨Ab, cb, rfl, hownb⟩, hrd9, hg9⟩
    have h9 := h8.read hsl hrd9 hg9
    rw [hq9.out] at h9
    have hx9 := hx8.kept hg9 (fun e => by injection e with e; omega)
    have hW9 := below_read hWd hg9 hbase hR8
    clear h8 hx8 hWd hR8 hLl htk hrd9 hg9 e1 c8 hd8 hsl
    have e3 := hx9.cellD 3 _ rfl
    have ee := hx9.free 3
    obtain ⟨wz, hwz⟩ : ∃ wz, wz = w9.setCell ⟨gx, 3, none⟩ (.slice Ab sz cb) := ⟨_, rfl⟩
    have hg10 : w9.grownBy wz (some gx) := by rw [hwz]; exact setCell_grown w9 gx 3 _
    have hps := h9.local hx9 (by decide) hgx hso hg10
    have hxz : RowAt wz gx 39 [.int .i64 fr, .int .i64 (cN : Int), .bool false, .slice Ab sz cb] := by rw [hwz]; exact hx9.set 3 _
    have hWz : Below base w wz := by rw [hwz]; exact hW9.setCell (p := ⟨gx, 3, none⟩) hgb _
    obtain ⟨r, hr⟩ : ∃ r : Rec, r = ⟨fr, (cN : Int), false, Ab, cb, dd⟩ := ⟨_, rfl⟩
    have hrO : r.Own wz := by
      have h0 : Rec.Own w9 ⟨fr, (cN : Int), false, Ab, cb, dd⟩ := ⟨hownb.mono (Nat.zero_le _), f1, f2, t1, t2⟩
      rw [hr]
      exact h0.kept hg10 (fun k e => by cases e; exact ⟨_, _, _, hx9, by decide⟩)
    obtain ⟨X, hX⟩ : ∃ X, X = r.val := ⟨_, rfl⟩
    have hX2 : X = [.int .i64 fr, .int .i64 (cN : Int), .bool false, .slice Ab sz cb] := by rw [hX, hr]; show [_, _, _, Value.slice Ab dd.length cb] = _; rw [hdl.out]
    have hrp : r.pl = ro := by rw [hr, hro3.out]; rfl
    rw [← hX2] at hxz
    clear hr hX2 hx9 h9 hW9 hg10 hownb hdl hro3
    replace hwz := Lib.hid hwz
    have HX := Lib.hid hX
    have hl8 : (rest.drop (5 + sz)).length = rest.length - (5 + sz) := List.length_drop
    have hck := checks_calls hps fm (by rw [hl8, hfm.out]; omega) (by rw [hl8]; have := hs.out; omega)
    rw [hfm.out, hatp.out, show whole.length - (rest.drop (5 + sz)).length - (whole.length - rest.length) = 5 + sz by rw [hl8]; have := hs.out; omega, List.drop_drop] at hck
    rw [← hfm.out] at hck
    replace hck := Lib.hid hck
    have hRz := hps.rd.lt
    have hbz := hps.rd.box
    clear hX hl8 hps
    by_cases hchk : check (rest.take (5 + sz)) = getN ((rest.drop (5 + sz)).take 8)
    rotate_left
    · rw [if_neg hchk] at hck
      rw [if_pos hchk] at hrec
      replace hrec := Lib.hid hrec
      clear hchk
      go_wp2_with fail
      rw [← hwz.out]
      clear e3 ee hwz hp64
      refine hck.out.mono ?_
      rintro e wy ⟨rfl, _, hgy⟩
      go_wp2_with fail
      go_ret
      exact recQ_err (below_read hWz hgy hbase hRz) hrec.out (by decide)
    rw [if_pos hchk] at hck
    rw [if_neg (fun h => h hchk)] at hrec
    clear hchk
    go_wp2_with fail
    rw [← hwz.out]
    clear e3 ee hwz hp64
    refine hck.out.mono ?_
    rintro e wy ⟨rfl, hps, hgy⟩
    have hxy := hxz.kept hgy (fun e => by injection e with e; omega)
    have hrOy := hrO.kept hgy (fun k e => by
      cases e
      obtain ⟨v, hv⟩ := hbz
      exact ⟨_, _, _, hv, by decide⟩)
    have hWy := below_read hWz hgy hbase hRz
    clear hxz hrO hWz hRz hgy hck
    go_upto_region 22 with fail
    -- <held5
    have d0 : Since wy wy.drew := (Since.refl wy).drew
    refine wp_region_H (fun W => RowAt W gx 39 X) 13 rfl (by kernel_rfl) ?_
    refine wh_take 0 (.pointer (some ⟨gr, 0, none⟩)) rfl (by kernel_rfl) (by kernel_rfl) (fun _ _ _ h => h) (by kernel_rfl) (fun _ _ => by kernel_rfl) ?_
    refine wh_take 1 (.pointer (some ⟨gr, 0, none⟩)) rfl (by kernel_rfl) (by kernel_rfl) (fun _ _ _ h => h) (by kernel_rfl) (fun _ _ => by kernel_rfl) ?_
    refine wh_take 2 (.pointer (some ⟨gr, 0, none⟩)) rfl (by kernel_rfl) (by kernel_rfl) (fun _ _ _ h => h) (by kernel_rfl) (fun _ _ => by kernel_rfl) ?_
    refine wh_take 3 (.pointer (some ⟨gr, 2, none⟩)) rfl (by kernel_rfl) (by kernel_rfl) (fun _ _ _ h => h) (by kernel_rfl) (fun _ _ => by kernel_rfl) ?_
    refine wh_take 4 (.pointer (some ⟨gr, 5, none⟩)) rfl (by kernel_rfl) (by kernel_rfl) (fun _ _ _ h => h) (by kernel_rfl) (fun _ _ => by kernel_rfl) ?_
    refine wh_take 6 (.agg X.toArray) rfl (by kernel_rfl) (by kernel_rfl) (fun _ _ _ h => h) (by kernel_rfl) (fun W h => exec_load_rec (.tmp 5) rfl ⟨gx, 0, none⟩ X (by rw [HX.out]; rfl) (fun j v hv => by rw [add_at, Nat.zero_add]; exact h.cellD j v hv) (by kernel_rfl)) ?_
    refine wh_two 5 7 (by kernel_rfl) (hxy.step d0) ?_ ?_
    · refine wo_run 5 (v := .slice s.A s.recs.length s.cap) (w' := wy.drew) rfl (by kernel_rfl) (exec_load_cell 22 (.tmp 100) rfl ⟨gr, 5, none⟩ _ (by kernel_rfl) ((hps.row.step d0).cellD 5 _ rfl) Try.isAgg22) ?_
      obtain ⟨W1, hw1, hl1, hb1'⟩ := lit_rec wy.drew X (by rw [HX.out]; rfl)
      have d1 := d0.then_ hb1'
      have s1 := (hxy.step d0).step hb1'
      refine wh_run 7 (v := .slice (some ⟨wy.drew.heap.size, 0, none⟩) 1 1) (w' := W1) rfl (by kernel_rfl) (by kernel_rfl) (hxy.step d0) (hw1 _ _ (.tmp 102) rfl (by kernel_rfl)) ?_
      obtain ⟨zs9, A9, c9, W2, hz9, hw2, hown9, hg9⟩ := app_rec W1 (R + 1) (by have := d1.size; have := hps.rd.lt; omega) (hps.own.below d1 (Nat.le_refl _)) (by omega) X r HX.out hl1
      have s2 := s1.kept hg9 (fun e => hso _ e rfl)
      have hps1 := hps.step d1
      have hrow2 := hps1.row.kept hg9 hps1.own_ne
      have hfin := hps1.grow hg9 (by rw [← hz9.out]; exact hown9) (hrOy.kept (grown_of d1 none) (fun k e => by cases e)) (congrArg List.length hz9.out)
      refine wh_run 8 (v := .slice A9 zs9.length c9) (w' := W2) rfl (by kernel_rfl) (by kernel_rfl) s1 (hw2 _ _ (.tmp 101) (.tmp 103) rfl rfl (by kernel_rfl) (by kernel_rfl)) ?_
      refine wh_take 9 (.pointer (some ⟨gr, 0, none⟩)) rfl (by kernel_rfl) (by kernel_rfl) (fun _ _ _ h => h) (by kernel_rfl) (fun _ _ => by kernel_rfl) ?_
      refine wh_take 10 (.pointer (some ⟨gr, 2, none⟩)) rfl (by kernel_rfl) (by kernel_rfl) (fun _ _ _ h => h) (by kernel_rfl) (fun _ _ => by kernel_rfl) ?_
      refine wh_take 11 (.pointer (some ⟨gr, 5, none⟩)) rfl (by kernel_rfl) (by kernel_rfl) (fun _ _ _ h => h) (by kernel_rfl) (fun _ _ => by kernel_rfl) ?_
      have s3 := s2.kept (setCell_grown W2 gr 5 (.slice A9 zs9.length c9)) (fun e => by injection e with e; omega)
      refine wh_skip 12 (w' := W2.setCell ⟨gr, 5, none⟩ (.slice A9 zs9.length c9)) rfl (by kernel_rfl) (by kernel_rfl) s2 (exec_store_cell 22 (.tmp 107) (.tmp 104) rfl gr 5 _ _ (by kernel_rfl) (by kernel_rfl) rfl rfl Try.sizeOf22 (hrow2.cellD 5 _ rfl) (hrow2.free 5)) ?_
      refine wh_done (by kernel_rfl) s3 ?_
      simp only [Act.put, List.setIfInBounds_toArray, List.set_cons_zero, List.set_cons_succ]
      have hWf := (hWy.trans ((show Below wy.heap.size wy W1 from d1).mono (Nat.le_trans hb0 hWy.size))).trans hfin.2
      have hpsf := hfin.1
      generalize W2.setCell ⟨gr, 5, none⟩ (.slice A9 zs9.length c9) = wf at hWf hpsf ⊢
      clear hfin hps1 hrow2 s1 s2 s3 hown9 hg9 hw2 hw1 hl1 hb1' d1 d0 hps hrOy hxy hWy hz9
      have hrowf := hpsf.row
      go_wp2_with (refine wpList_load_part 111 rfl 24 (.tmp 110) rfl hrowf 2 4 (⟨s.blocks, s.base, s.id, A9, c9, s.recs ++ [r]⟩ : Str).val rfl rfl rfl rfl Try.isAgg24 Try.sizeOf24 ?_)
      have hgc := good_calls ⟨s.blocks, s.base, s.id, A9, c9, s.recs ++ [r]⟩ wf ⟨hpsf.own.recs (fun x hx => (hpsf.dat x hx).ok), hpsf.own.cap.1, hpsf.own.cap.2, by show _ ≤ s.blocks; omega, by show s.blocks ≤ _; omega, by show _ ≤ s.base; omega, by show s.base ≤ _; omega, by show _ ≤ s.id; omega, by show s.id ≤ _; omega⟩
      rw [← goodB_pl, add_pl, hrp] at hgc
      replace hgc := Lib.hid hgc
      clear hrowf
      cases hgg : goodB (s.pl.add ro)
      · rw [hgg] at hgc
        rw [if_pos hgg] at hrec
        replace hrec := Lib.hid hrec
        refine hgc.out.mono ?_
        rintro e wk ⟨rfl, hBk⟩
        go_wp2_with fail
        go_ret
        exact recQ_err (hWf.trans (hBk.mono (Nat.le_trans hb0 hWf.size))) hrec.out (by decide)
      · rw [hgg] at hgc
        rw [if_neg (by rw [hgg]; decide)] at hrec
        replace hrec := Lib.hid hrec
        refine hgc.out.mono ?_
        rintro e wk ⟨rfl, hBk⟩
        go_wp2_with fail
        go_ret
        exact ⟨hWf.trans (hBk.mono (Nat.le_trans hb0 hWf.size)), .inr ⟨r, A9, c9, _, rfl, by rw [hrp]; exact hrec.out, hpsf.step hBk⟩⟩
    · obtain ⟨W1, hw1, hl1, hb1'⟩ := lit_rec wy.drew X (by rw [HX.out]; rfl)
      have d1 := d0.then_ hb1'
      have s1 := (hxy.step d0).step hb1'
      refine wo_run 7 (v := .slice (some ⟨wy.drew.heap.size, 0, none⟩) 1 1) (w' := W1) rfl (by kernel_rfl) (hw1 _ _ (.tmp 102) rfl (by kernel_rfl)) ?_
      refine wh_run 5 (v := .slice s.A s.recs.length s.cap) (w' := W1) rfl (by kernel_rfl) (by kernel_rfl) s1 (exec_load_cell 22 (.tmp 100) rfl ⟨gr, 5, none⟩ _ (by kernel_rfl) ((hps.row.step d1).cellD 5 _ rfl) Try.isAgg22) ?_
      obtain ⟨zs9, A9, c9, W2, hz9, hw2, hown9, hg9⟩ := app_rec W1 (R + 1) (by have := d1.size; have := hps.rd.lt; omega) (hps.own.below d1 (Nat.le_refl _)) (by omega) X r HX.out hl1
      have s2 := s1.kept hg9 (fun e => hso _ e rfl)
      have hps1 := hps.step d1
      have hrow2 := hps1.row.kept hg9 hps1.own_ne
      have hfin := hps1.grow hg9 (by rw [← hz9.out]; exact hown9) (hrOy.kept (grown_of d1 none) (fun k e => by cases e)) (congrArg List.length hz9.out)
      refine wh_run 8 (v := .slice A9 zs9.length c9) (w' := W2) rfl (by kernel_rfl) (by kernel_rfl) s1 (hw2 _ _ (.tmp 101) (.tmp 103) rfl rfl (by kernel_rfl) (by kernel_rfl)) ?_
      refine wh_take 9 (.pointer (some ⟨gr, 0, none⟩)) rfl (by kernel_rfl) (by kernel_rfl) (fun _ _ _ h => h) (by kernel_rfl) (fun _ _ => by kernel_rfl) ?_
      refine wh_take 10 (.pointer (some ⟨gr, 2, none⟩)) rfl (by kernel_rfl) (by kernel_rfl) (fun _ _ _ h => h) (by kernel_rfl) (fun _ _ => by kernel_rfl) ?_
      refine wh_take 11 (.pointer (some ⟨gr, 5, none⟩)) rfl (by kernel_rfl) (by kernel_rfl) (fun _ _ _ h => h) (by kernel_rfl) (fun _ _ => by kernel_rfl) ?_
      have s3 := s2.kept (setCell_grown W2 gr 5 (.slice A9 zs9.length c9)) (fun e => by injection e with e; omega)
      refine wh_skip 12 (w' := W2.setCell ⟨gr, 5, none⟩ (.slice A9 zs9.length c9)) rfl (by kernel_rfl) (by kernel_rfl) s2 (exec_store_cell 22 (.tmp 107) (.tmp 104) rfl gr 5 _ _ (by kernel_rfl) (by kernel_rfl) rfl rfl Try.sizeOf22 (hrow2.cellD 5 _ rfl) (hrow2.free 5)) ?_
      refine wh_done (by kernel_rfl) s3 ?_
      simp only [Act.put, List.setIfInBounds_toArray, List.set_cons_zero, List.set_cons_succ]
      have hWf := (hWy.trans ((show Below wy.heap.size wy W1 from d1).mono (Nat.le_trans hb0 hWy.size))).trans hfin.2
      have hpsf := hfin.1
      generalize W2.setCell ⟨gr, 5, none⟩ (.slice A9 zs9.length c9) = wf at hWf hpsf ⊢
      clear hfin hps1 hrow2 s1 s2 s3 hown9 hg9 hw2 hw1 hl1 hb1' d1 d0 hps hrOy hxy hWy hz9
      have hrowf := hpsf.row
      go_wp2_with (refine wpList_load_part 111 rfl 24 (.tmp 110) rfl hrowf 2 4 (⟨s.blocks, s.base, s.id, A9, c9, s.recs ++ [r]⟩ : Str).val rfl rfl rfl rfl Try.isAgg24 Try.sizeOf24 ?_)
      have hgc := good_calls ⟨s.blocks, s.base, s.id, A9, c9, s.recs ++ [r]⟩ wf ⟨hpsf.own.recs (fun x hx => (hpsf.dat x hx).ok), hpsf.own.cap.1, hpsf.own.cap.2, by show _ ≤ s.blocks; omega, by show s.blocks ≤ _; omega, by show _ ≤ s.base; omega, by show s.base ≤ _; omega, by show _ ≤ s.id; omega, by show s.id ≤ _; omega⟩
      rw [← goodB_pl, add_pl, hrp] at hgc
      replace hgc := Lib.hid hgc
      clear hrowf
      cases hgg : goodB (s.pl.add ro)
      · rw [hgg] at hgc
        rw [if_pos hgg] at hrec
        replace hrec := Lib.hid hrec
        refine hgc.out.mono ?_
        rintro e wk ⟨rfl, hBk⟩
        go_wp2_with fail
        go_ret
        exact recQ_err (hWf.trans (hBk.mono (Nat.le_trans hb0 hWf.size))) hrec.out (by decide)
      · rw [hgg] at hgc
        rw [if_neg (by rw [hgg]; decide)] at hrec
        replace hrec := Lib.hid hrec
        refine hgc.out.mono ?_
        rintro e wk ⟨rfl, hBk⟩
        go_wp2_with fail
        go_ret
        exact ⟨hWf.trans (hBk.mono (Nat.le_trans hb0 hWf.size)), .inr ⟨r, A9, c9, _, rfl, by rw [hrp]; exact hrec.out, hpsf.step hBk⟩⟩
    -- held5>
  · obtain rfl : zz = true := hzz.symm
    clear hzz
    go_upto_region 10 with fail
    rw [← hw7]
    replace hw7 := Lib.hid hw7
    have x0 := hx7.cellD 0 _ rfl
    have x1 := hx7.cellD 1 _ rfl
    have b2 : w7.cell? ⟨gr, 2, none⟩ = some (.int .i64 s.blocks) := h7.row.cellD 2 _ rfl
    by_cases ka : ct < 1
    · rw [if_pos (.inl ka)] at hrec
      have k1 := decide_eq_true ka
      replace hrec := Lib.hid hrec
      -- <held1
      have d0 : Since w7 w7.drew := (Since.refl w7).drew
      refine wp_region_H (Since w7) 27 rfl (by kernel_rfl) ?_
      refine wh_take 0 (.pointer (some ⟨gx, 1, none⟩)) rfl (by kernel_rfl) (by kernel_rfl) (fun _ _ _ h => h) (by kernel_rfl) (fun _ _ => by kernel_rfl) ?_
      refine wh_take 1 (.int .i64 ct) rfl (by kernel_rfl) (by kernel_rfl) (fun _ _ _ h => h) (by kernel_rfl) (fun W h => exec_load_cell 3 (.tmp 37) rfl ⟨gx, 1, none⟩ _ (by kernel_rfl) (h.cell x1) Try.isAgg3) ?_
      refine wh_take 2 (.bool true) rfl (by kernel_rfl) (by kernel_rfl) (fun _ _ _ h => h) (by kernel_rfl) (fun _ _ => exec_lss_int 3 3 (.tmp 38) (.const (.int .i64 1)) rfl ct 1 (by kernel_rfl) (by kernel_rfl) true k1) ?_
      refine wh_take 3 (.bool true) rfl (by kernel_rfl) (by kernel_rfl) (fun _ _ _ h => h) (by kernel_rfl) (fun _ _ => by kernel_rfl) ?_
      refine wh_no 4 rfl (by kernel_rfl) (by kernel_rfl) (fun _ _ _ h => h) (by kernel_rfl) ?_
      refine wh_no 5 rfl (by kernel_rfl) (by kernel_rfl) (fun _ _ _ h => h) (by kernel_rfl) ?_
      refine wh_no 6 rfl (by kernel_rfl) (by kernel_rfl) (fun _ _ _ h => h) (by kernel_rfl) ?_
      refine wh_no 7 rfl (by kernel_rfl) (by kernel_rfl) (fun _ _ _ h => h) (by kernel_rfl) ?_
      refine wh_no 8 rfl (by kernel_rfl) (by kernel_rfl) (fun _ _ _ h => h) (by kernel_rfl) ?_
      refine wh_no 9 rfl (by kernel_rfl) (by kernel_rfl) (fun _ _ _ h => h) (by kernel_rfl) ?_
      refine wh_no 10 rfl (by kernel_rfl) (by kernel_rfl) (fun _ _ _ h => h) (by kernel_rfl) ?_
      refine wh_no 11 rfl (by kernel_rfl) (by kernel_rfl) (fun _ _ _ h => h) (by kernel_rfl) ?_
      refine wh_take 12 (.bool true) rfl (by kernel_rfl) (by kernel_rfl) (fun _ _ _ h => h) (by kernel_rfl) (fun _ _ => by kernel_rfl) ?_
      refine wh_take 13 (.bool true) rfl (by kernel_rfl) (by kernel_rfl) (fun _ _ _ h => h) (by kernel_rfl) (fun _ _ => by kernel_rfl) ?_
      refine wh_no 14 rfl (by kernel_rfl) (by kernel_rfl) (fun _ _ _ h => h) (by kernel_rfl) ?_
      refine wh_no 15 rfl (by kernel_rfl) (by kernel_rfl) (fun _ _ _ h => h) (by kernel_rfl) ?_
      refine wh_no 16 rfl (by kernel_rfl) (by kernel_rfl) (fun _ _ _ h => h) (by kernel_rfl) ?_
      refine wh_no 17 rfl (by kernel_rfl) (by kernel_rfl) (fun _ _ _ h => h) (by kernel_rfl) ?_
      refine wh_no 18 rfl (by kernel_rfl) (by kernel_rfl) (fun _ _ _ h => h) (by kernel_rfl) ?_
      refine wh_no 19 rfl (by kernel_rfl) (by kernel_rfl) (fun _ _ _ h => h) (by kernel_rfl) ?_
      refine wh_no 20 rfl (by kernel_rfl) (by kernel_rfl) (fun _ _ _ h => h) (by kernel_rfl) ?_
      refine wh_no 21 rfl (by kernel_rfl) (by kernel_rfl) (fun _ _ _ h => h) (by kernel_rfl) ?_
      refine wh_no 22 rfl (by kernel_rfl) (by kernel_rfl) (fun _ _ _ h => h) (by kernel_rfl) ?_
      refine wh_no 23 rfl (by kernel_rfl) (by kernel_rfl) (fun _ _ _ h => h) (by kernel_rfl) ?_
      refine wh_no 24 rfl (by kernel_rfl) (by kernel_rfl) (fun _ _ _ h => h) (by kernel_rfl) ?_
      refine wh_take 25 (.bool true) rfl (by kernel_rfl) (by kernel_rfl) (fun _ _ _ h => h) (by kernel_rfl) (fun _ _ => by kernel_rfl) ?_
      refine wh_take 26 (.bool true) rfl (by kernel_rfl) (by kernel_rfl) (fun _ _ _ h => h) (by kernel_rfl) (fun _ _ => by kernel_rfl) ?_
      refine wh_done (by kernel_rfl) d0 ?_
      simp only [Act.put, List.setIfInBounds_toArray, List.set_cons_zero, List.set_cons_succ]
      -- held1>
      go_wp2_with fail
      go_ret
      exact recQ_err hWd hrec.out (by decide)
    have k1 := decide_eq_false ka
    by_cases kb : s.blocks ≤ fr
    · rw [if_pos (.inr (.inl kb))] at hrec
      have k2 := decide_eq_true kb
      replace hrec := Lib.hid hrec
      -- <held2
      have d0 : Since w7 w7.drew := (Since.refl w7).drew
      refine wp_region_H (Since w7) 27 rfl (by kernel_rfl) ?_
      refine wh_take 0 (.pointer (some ⟨gx, 1, none⟩)) rfl (by kernel_rfl) (by kernel_rfl) (fun _ _ _ h => h) (by kernel_rfl) (fun _ _ => by kernel_rfl) ?_
      refine wh_take 1 (.int .i64 ct) rfl (by kernel_rfl) (by kernel_rfl) (fun _ _ _ h => h) (by kernel_rfl) (fun W h => exec_load_cell 3 (.tmp 37) rfl ⟨gx, 1, none⟩ _ (by kernel_rfl) (h.cell x1) Try.isAgg3) ?_
      refine wh_take 2 (.bool false) rfl (by kernel_rfl) (by kernel_rfl) (fun _ _ _ h => h) (by kernel_rfl) (fun _ _ => exec_lss_int 3 3 (.tmp 38) (.const (.int .i64 1)) rfl ct 1 (by kernel_rfl) (by kernel_rfl) false k1) ?_
      refine wh_take 3 (.bool false) rfl (by kernel_rfl) (by kernel_rfl) (fun _ _ _ h => h) (by kernel_rfl) (fun _ _ => by kernel_rfl) ?_
      refine wh_take 4 (.pointer (some ⟨gx, 0, none⟩)) rfl (by kernel_rfl) (by kernel_rfl) (fun _ _ _ h => h) (by kernel_rfl) (fun _ _ => by kernel_rfl) ?_
      refine wh_take 5 (.int .i64 fr) rfl (by kernel_rfl) (by kernel_rfl) (fun _ _ _ h => h) (by kernel_rfl) (fun W h => exec_load_cell 3 (.tmp 41) rfl ⟨gx, 0, none⟩ _ (by kernel_rfl) (h.cell x0) Try.isAgg3) ?_
      refine wh_take 6 (.pointer (some ⟨gr, 0, none⟩)) rfl (by kernel_rfl) (by kernel_rfl) (fun _ _ _ h => h) (by kernel_rfl) (fun _ _ => by kernel_rfl) ?_
      refine wh_take 7 (.pointer (some ⟨gr, 0, none⟩)) rfl (by kernel_rfl) (by kernel_rfl) (fun _ _ _ h => h) (by kernel_rfl) (fun _ _ => by kernel_rfl) ?_
      refine wh_take 8 (.pointer (some ⟨gr, 2, none⟩)) rfl (by kernel_rfl) (by kernel_rfl) (fun _ _ _ h => h) (by kernel_rfl) (fun _ _ => by kernel_rfl) ?_
      refine wh_take 9 (.pointer (some ⟨gr, 2, none⟩)) rfl (by kernel_rfl) (by kernel_rfl) (fun _ _ _ h => h) (by kernel_rfl) (fun _ _ => by kernel_rfl) ?_
      refine wh_take 10 (.int .i64 s.blocks) rfl (by kernel_rfl) (by kernel_rfl) (fun _ _ _ h => h) (by kernel_rfl) (fun W h => exec_load_cell 3 (.tmp 46) rfl ⟨gr, 2, none⟩ _ (by kernel_rfl) (h.cell b2) Try.isAgg3) ?_
      refine wh_take 11 (.bool true) rfl (by kernel_rfl) (by kernel_rfl) (fun _ _ _ h => h) (by kernel_rfl) (fun _ _ => exec_geq_int 3 3 (.tmp 42) (.tmp 47) rfl fr s.blocks (by kernel_rfl) (by kernel_rfl) true k2) ?_
      refine wh_take 12 (.bool true) rfl (by kernel_rfl) (by kernel_rfl) (fun _ _ _ h => h) (by kernel_rfl) (fun _ _ => by kernel_rfl) ?_
      refine wh_take 13 (.bool true) rfl (by kernel_rfl) (by kernel_rfl) (fun _ _ _ h => h) (by kernel_rfl) (fun _ _ => by kernel_rfl) ?_
      refine wh_no 14 rfl (by kernel_rfl) (by kernel_rfl) (fun _ _ _ h => h) (by kernel_rfl) ?_
      refine wh_no 15 rfl (by kernel_rfl) (by kernel_rfl) (fun _ _ _ h => h) (by kernel_rfl) ?_
      refine wh_no 16 rfl (by kernel_rfl) (by kernel_rfl) (fun _ _ _ h => h) (by kernel_rfl) ?_
      refine wh_no 17 rfl (by kernel_rfl) (by kernel_rfl) (fun _ _ _ h => h) (by kernel_rfl) ?_
      refine wh_no 18 rfl (by kernel_rfl) (by kernel_rfl) (fun _ _ _ h => h) (by kernel_rfl) ?_
      refine wh_no 19 rfl (by kernel_rfl) (by kernel_rfl) (fun _ _ _ h => h) (by kernel_rfl) ?_
      refine wh_no 20 rfl (by kernel_rfl) (by kernel_rfl) (fun _ _ _ h => h) (by kernel_rfl) ?_
      refine wh_no 21 rfl (by kernel_rfl) (by kernel_rfl) (fun _ _ _ h => h) (by kernel_rfl) ?_
      refine wh_no 22 rfl (by kernel_rfl) (by kernel_rfl) (fun _ _ _ h => h) (by kernel_rfl) ?_
      refine wh_no 23 rfl (by kernel_rfl) (by kernel_rfl) (fun _ _ _ h => h) (by kernel_rfl) ?_
      refine wh_no 24 rfl (by kernel_rfl) (by kernel_rfl) (fun _ _ _ h => h) (by kernel_rfl) ?_
      refine wh_take 25 (.bool true) rfl (by kernel_rfl) (by kernel_rfl) (fun _ _ _ h => h) (by kernel_rfl) (fun _ _ => by kernel_rfl) ?_
      refine wh_take 26 (.bool true) rfl (by kernel_rfl) (by kernel_rfl) (fun _ _ _ h => h) (by kernel_rfl) (fun _ _ => by kernel_rfl) ?_
      refine wh_done (by kernel_rfl) d0 ?_
      simp only [Act.put, List.setIfInBounds_toArray, List.set_cons_zero, List.set_cons_succ]
      -- held2>
      go_wp2_with fail
      go_ret
      exact recQ_err hWd hrec.out (by decide)
    have k2 := decide_eq_false kb
    have k4 : -9223372036854775808 ≤ s.blocks - fr := by omega
    have k5 : s.blocks - fr ≤ 9223372036854775807 := by omega
    by_cases kc : s.blocks - fr < ct
    · rw [if_pos (.inr (.inr kc))] at hrec
      have k3 := decide_eq_true kc
      replace hrec := Lib.hid hrec
      -- <held3
      have d0 : Since w7 w7.drew := (Since.refl w7).drew
      refine wp_region_H (Since w7) 27 rfl (by kernel_rfl) ?_
      refine wh_take 0 (.pointer (some ⟨gx, 1, none⟩)) rfl (by kernel_rfl) (by kernel_rfl) (fun _ _ _ h => h) (by kernel_rfl) (fun _ _ => by kernel_rfl) ?_
      refine wh_take 1 (.int .i64 ct) rfl (by kernel_rfl) (by kernel_rfl) (fun _ _ _ h => h) (by kernel_rfl) (fun W h => exec_load_cell 3 (.tmp 37) rfl ⟨gx, 1, none⟩ _ (by kernel_rfl) (h.cell x1) Try.isAgg3) ?_
      refine wh_take 2 (.bool false) rfl (by kernel_rfl) (by kernel_rfl) (fun _ _ _ h => h) (by kernel_rfl) (fun _ _ => exec_lss_int 3 3 (.tmp 38) (.const (.int .i64 1)) rfl ct 1 (by kernel_rfl) (by kernel_rfl) false k1) ?_
      refine wh_take 3 (.bool false) rfl (by kernel_rfl) (by kernel_rfl) (fun _ _ _ h => h) (by kernel_rfl) (fun _ _ => by kernel_rfl) ?_
      refine wh_take 4 (.pointer (some ⟨gx, 0, none⟩)) rfl (by kernel_rfl) (by kernel_rfl) (fun _ _ _ h => h) (by kernel_rfl) (fun _ _ => by kernel_rfl) ?_
      refine wh_take 5 (.int .i64 fr) rfl (by kernel_rfl) (by kernel_rfl) (fun _ _ _ h => h) (by kernel_rfl) (fun W h => exec_load_cell 3 (.tmp 41) rfl ⟨gx, 0, none⟩ _ (by kernel_rfl) (h.cell x0) Try.isAgg3) ?_
      refine wh_take 6 (.pointer (some ⟨gr, 0, none⟩)) rfl (by kernel_rfl) (by kernel_rfl) (fun _ _ _ h => h) (by kernel_rfl) (fun _ _ => by kernel_rfl) ?_
      refine wh_take 7 (.pointer (some ⟨gr, 0, none⟩)) rfl (by kernel_rfl) (by kernel_rfl) (fun _ _ _ h => h) (by kernel_rfl) (fun _ _ => by kernel_rfl) ?_
      refine wh_take 8 (.pointer (some ⟨gr, 2, none⟩)) rfl (by kernel_rfl) (by kernel_rfl) (fun _ _ _ h => h) (by kernel_rfl) (fun _ _ => by kernel_rfl) ?_
      refine wh_take 9 (.pointer (some ⟨gr, 2, none⟩)) rfl (by kernel_rfl) (by kernel_rfl) (fun _ _ _ h => h) (by kernel_rfl) (fun _ _ => by kernel_rfl) ?_
      refine wh_take 10 (.int .i64 s.blocks) rfl (by kernel_rfl) (by kernel_rfl) (fun _ _ _ h => h) (by kernel_rfl) (fun W h => exec_load_cell 3 (.tmp 46) rfl ⟨gr, 2, none⟩ _ (by kernel_rfl) (h.cell b2) Try.isAgg3) ?_
      refine wh_take 11 (.bool false) rfl (by kernel_rfl) (by kernel_rfl) (fun _ _ _ h => h) (by kernel_rfl) (fun _ _ => exec_geq_int 3 3 (.tmp 42) (.tmp 47) rfl fr s.blocks (by kernel_rfl) (by kernel_rfl) false k2) ?_
      refine wh_take 12 (.bool false) rfl (by kernel_rfl) (by kernel_rfl) (fun _ _ _ h => h) (by kernel_rfl) (fun _ _ => by kernel_rfl) ?_
      refine wh_take 13 (.bool false) rfl (by kernel_rfl) (by kernel_rfl) (fun _ _ _ h => h) (by kernel_rfl) (fun _ _ => by kernel_rfl) ?_
      refine wh_take 14 (.pointer (some ⟨gx, 1, none⟩)) rfl (by kernel_rfl) (by kernel_rfl) (fun _ _ _ h => h) (by kernel_rfl) (fun _ _ => by kernel_rfl) ?_
      refine wh_take 15 (.int .i64 ct) rfl (by kernel_rfl) (by kernel_rfl) (fun _ _ _ h => h) (by kernel_rfl) (fun W h => exec_load_cell 3 (.tmp 51) rfl ⟨gx, 1, none⟩ _ (by kernel_rfl) (h.cell x1) Try.isAgg3) ?_
      refine wh_take 16 (.pointer (some ⟨gr, 0, none⟩)) rfl (by kernel_rfl) (by kernel_rfl) (fun _ _ _ h => h) (by kernel_rfl) (fun _ _ => by kernel_rfl) ?_
      refine wh_take 17 (.pointer (some ⟨gr, 0, none⟩)) rfl (by kernel_rfl) (by kernel_rfl) (fun _ _ _ h => h) (by kernel_rfl) (fun _ _ => by kernel_rfl) ?_
      refine wh_take 18 (.pointer (some ⟨gr, 2, none⟩)) rfl (by kernel_rfl) (by kernel_rfl) (fun _ _ _ h => h) (by kernel_rfl) (fun _ _ => by kernel_rfl) ?_
      refine wh_take 19 (.pointer (some ⟨gr, 2, none⟩)) rfl (by kernel_rfl) (by kernel_rfl) (fun _ _ _ h => h) (by kernel_rfl) (fun _ _ => by kernel_rfl) ?_
      refine wh_take 20 (.int .i64 s.blocks) rfl (by kernel_rfl) (by kernel_rfl) (fun _ _ _ h => h) (by kernel_rfl) (fun W h => exec_load_cell 3 (.tmp 56) rfl ⟨gr, 2, none⟩ _ (by kernel_rfl) (h.cell b2) Try.isAgg3) ?_
      refine wh_take 21 (.pointer (some ⟨gx, 0, none⟩)) rfl (by kernel_rfl) (by kernel_rfl) (fun _ _ _ h => h) (by kernel_rfl) (fun _ _ => by kernel_rfl) ?_
      refine wh_take 22 (.int .i64 fr) rfl (by kernel_rfl) (by kernel_rfl) (fun _ _ _ h => h) (by kernel_rfl) (fun W h => exec_load_cell 3 (.tmp 58) rfl ⟨gx, 0, none⟩ _ (by kernel_rfl) (h.cell x0) Try.isAgg3) ?_
      refine wh_take 23 (.int .i64 (s.blocks - fr)) rfl (by kernel_rfl) (by kernel_rfl) (fun _ _ _ h => h) (by kernel_rfl) (fun _ _ => exec_sub_int 3 3 (.tmp 57) (.tmp 59) rfl s.blocks fr (by kernel_rfl) (by kernel_rfl) k4 k5) ?_
      refine wh_take 24 (.bool true) rfl (by kernel_rfl) (by kernel_rfl) (fun _ _ _ h => h) (by kernel_rfl) (fun _ _ => exec_gtr_int 3 3 (.tmp 52) (.tmp 60) rfl ct (s.blocks - fr) (by kernel_rfl) (by kernel_rfl) true k3) ?_
      refine wh_take 25 (.bool true) rfl (by kernel_rfl) (by kernel_rfl) (fun _ _ _ h => h) (by kernel_rfl) (fun _ _ => by kernel_rfl) ?_
      refine wh_take 26 (.bool true) rfl (by kernel_rfl) (by kernel_rfl) (fun _ _ _ h => h) (by kernel_rfl) (fun _ _ => by kernel_rfl) ?_
      refine wh_done (by kernel_rfl) d0 ?_
      simp only [Act.put, List.setIfInBounds_toArray, List.set_cons_zero, List.set_cons_succ]
      -- held3>
      go_wp2_with fail
      go_ret
      exact recQ_err hWd hrec.out (by decide)
    have k3 := decide_eq_false kc
    rw [if_neg (by omega)] at hrec
    -- <held4
    have d0 : Since w7 w7.drew := (Since.refl w7).drew
    refine wp_region_H (Since w7) 27 rfl (by kernel_rfl) ?_
    refine wh_take 0 (.pointer (some ⟨gx, 1, none⟩)) rfl (by kernel_rfl) (by kernel_rfl) (fun _ _ _ h => h) (by kernel_rfl) (fun _ _ => by kernel_rfl) ?_
    refine wh_take 1 (.int .i64 ct) rfl (by kernel_rfl) (by kernel_rfl) (fun _ _ _ h => h) (by kernel_rfl) (fun W h => exec_load_cell 3 (.tmp 37) rfl ⟨gx, 1, none⟩ _ (by kernel_rfl) (h.cell x1) Try.isAgg3) ?_
    refine wh_take 2 (.bool false) rfl (by kernel_rfl) (by kernel_rfl) (fun _ _ _ h => h) (by kernel_rfl) (fun _ _ => exec_lss_int 3 3 (.tmp 38) (.const (.int .i64 1)) rfl ct 1 (by kernel_rfl) (by kernel_rfl) false k1) ?_
    refine wh_take 3 (.bool false) rfl (by kernel_rfl) (by kernel_rfl) (fun _ _ _ h => h) (by kernel_rfl) (fun _ _ => by kernel_rfl) ?_
    refine wh_take 4 (.pointer (some ⟨gx, 0, none⟩)) rfl (by kernel_rfl) (by kernel_rfl) (fun _ _ _ h => h) (by kernel_rfl) (fun _ _ => by kernel_rfl) ?_
    refine wh_take 5 (.int .i64 fr) rfl (by kernel_rfl) (by kernel_rfl) (fun _ _ _ h => h) (by kernel_rfl) (fun W h => exec_load_cell 3 (.tmp 41) rfl ⟨gx, 0, none⟩ _ (by kernel_rfl) (h.cell x0) Try.isAgg3) ?_
    refine wh_take 6 (.pointer (some ⟨gr, 0, none⟩)) rfl (by kernel_rfl) (by kernel_rfl) (fun _ _ _ h => h) (by kernel_rfl) (fun _ _ => by kernel_rfl) ?_
    refine wh_take 7 (.pointer (some ⟨gr, 0, none⟩)) rfl (by kernel_rfl) (by kernel_rfl) (fun _ _ _ h => h) (by kernel_rfl) (fun _ _ => by kernel_rfl) ?_
    refine wh_take 8 (.pointer (some ⟨gr, 2, none⟩)) rfl (by kernel_rfl) (by kernel_rfl) (fun _ _ _ h => h) (by kernel_rfl) (fun _ _ => by kernel_rfl) ?_
    refine wh_take 9 (.pointer (some ⟨gr, 2, none⟩)) rfl (by kernel_rfl) (by kernel_rfl) (fun _ _ _ h => h) (by kernel_rfl) (fun _ _ => by kernel_rfl) ?_
    refine wh_take 10 (.int .i64 s.blocks) rfl (by kernel_rfl) (by kernel_rfl) (fun _ _ _ h => h) (by kernel_rfl) (fun W h => exec_load_cell 3 (.tmp 46) rfl ⟨gr, 2, none⟩ _ (by kernel_rfl) (h.cell b2) Try.isAgg3) ?_
    refine wh_take 11 (.bool false) rfl (by kernel_rfl) (by kernel_rfl) (fun _ _ _ h => h) (by kernel_rfl) (fun _ _ => exec_geq_int 3 3 (.tmp 42) (.tmp 47) rfl fr s.blocks (by kernel_rfl) (by kernel_rfl) false k2) ?_
    refine wh_take 12 (.bool false) rfl (by kernel_rfl) (by kernel_rfl) (fun _ _ _ h => h) (by kernel_rfl) (fun _ _ => by kernel_rfl) ?_
    refine wh_take 13 (.bool false) rfl (by kernel_rfl) (by kernel_rfl) (fun _ _ _ h => h) (by kernel_rfl) (fun _ _ => by kernel_rfl) ?_
    refine wh_take 14 (.pointer (some ⟨gx, 1, none⟩)) rfl (by kernel_rfl) (by kernel_rfl) (fun _ _ _ h => h) (by kernel_rfl) (fun _ _ => by kernel_rfl) ?_
    refine wh_take 15 (.int .i64 ct) rfl (by kernel_rfl) (by kernel_rfl) (fun _ _ _ h => h) (by kernel_rfl) (fun W h => exec_load_cell 3 (.tmp 51) rfl ⟨gx, 1, none⟩ _ (by kernel_rfl) (h.cell x1) Try.isAgg3) ?_
    refine wh_take 16 (.pointer (some ⟨gr, 0, none⟩)) rfl (by kernel_rfl) (by kernel_rfl) (fun _ _ _ h => h) (by kernel_rfl) (fun _ _ => by kernel_rfl) ?_
    refine wh_take 17 (.pointer (some ⟨gr, 0, none⟩)) rfl (by kernel_rfl) (by kernel_rfl) (fun _ _ _ h => h) (by kernel_rfl) (fun _ _ => by kernel_rfl) ?_
    refine wh_take 18 (.pointer (some ⟨gr, 2, none⟩)) rfl (by kernel_rfl) (by kernel_rfl) (fun _ _ _ h => h) (by kernel_rfl) (fun _ _ => by kernel_rfl) ?_
    refine wh_take 19 (.pointer (some ⟨gr, 2, none⟩)) rfl (by kernel_rfl) (by kernel_rfl) (fun _ _ _ h => h) (by kernel_rfl) (fun _ _ => by kernel_rfl) ?_
    refine wh_take 20 (.int .i64 s.blocks) rfl (by kernel_rfl) (by kernel_rfl) (fun _ _ _ h => h) (by kernel_rfl) (fun W h => exec_load_cell 3 (.tmp 56) rfl ⟨gr, 2, none⟩ _ (by kernel_rfl) (h.cell b2) Try.isAgg3) ?_
    refine wh_take 21 (.pointer (some ⟨gx, 0, none⟩)) rfl (by kernel_rfl) (by kernel_rfl) (fun _ _ _ h => h) (by kernel_rfl) (fun _ _ => by kernel_rfl) ?_
    refine wh_take 22 (.int .i64 fr) rfl (by kernel_rfl) (by kernel_rfl) (fun _ _ _ h => h) (by kernel_rfl) (fun W h => exec_load_cell 3 (.tmp 58) rfl ⟨gx, 0, none⟩ _ (by kernel_rfl) (h.cell x0) Try.isAgg3) ?_
    refine wh_take 23 (.int .i64 (s.blocks - fr)) rfl (by kernel_rfl) (by kernel_rfl) (fun _ _ _ h => h) (by kernel_rfl) (fun _ _ => exec_sub_int 3 3 (.tmp 57) (.tmp 59) rfl s.blocks fr (by kernel_rfl) (by kernel_rfl) k4 k5) ?_
    refine wh_take 24 (.bool false) rfl (by kernel_rfl) (by kernel_rfl) (fun _ _ _ h => h) (by kernel_rfl) (fun _ _ => exec_gtr_int 3 3 (.tmp 52) (.tmp 60) rfl ct (s.blocks - fr) (by kernel_rfl) (by kernel_rfl) false k3) ?_
    refine wh_take 25 (.bool false) rfl (by kernel_rfl) (by kernel_rfl) (fun _ _ _ h => h) (by kernel_rfl) (fun _ _ => by kernel_rfl) ?_
    refine wh_take 26 (.bool false) rfl (by kernel_rfl) (by kernel_rfl) (fun _ _ _ h => h) (by kernel_rfl) (fun _ _ => by kernel_rfl) ?_
    refine wh_done (by kernel_rfl) d0 ?_
    simp only [Act.put, List.setIfInBounds_toArray, List.set_cons_zero, List.set_cons_succ]
    -- held4>
    obtain ⟨cN, rfl⟩ : ∃ cN : Nat, ct = (cN : Int) := ⟨ct.toNat, by omega⟩
    have hzs : sz = 0 := by rw [hsz2.out]; simp
    have d0 : Since w7 w7.drew := (Since.refl w7).drew
    have h8 := h7.step d0
    have hx8 := hx7.step d0
    have e1 := hx8.cellD 1 _ rfl
    have c8 := h8.cells.1
    have hR8 := h8.rd.lt
    have hl5 : (rest.drop (1 + 2 + 2)).length = rest.length - 5 := List.length_drop
    have hLl := Lib.hid (left_calls R (rest.drop (1 + 2 + 2)) w7.drew h8.rd.at)
    have hc64 : (cN : Int) ≤ 64 := by omega
    have hc1 : (1 : Int) ≤ (cN : Int) := by omega
    clear x0 x1 b2 k1 k2 k3 k4 k5 ka kb kc d0 h7 hx7 hW7 hw7
    by_cases hs : rest.length < 5 + sz + 8
    · rw [if_pos hs] at hrec
      have hd8 : decide (((rest.drop (1 + 2 + 2)).length : Int) < 8) = true := decide_eq_true (by omega)
      replace hrec := Lib.hid hrec
      replace hzs := Lib.hid hzs
      clear h8 hx8
      generalize rest.drop (1 + 2 + 2) = r5 at hLl hd8
      go_wp2_with fail
      refine hLl.out.mono ?_
      rintro e w8 ⟨rfl, rfl⟩
      go_wp2_with fail
      go_ret
      exact recQ_err hWd hrec.out (by decide)
    rw [if_neg hs] at hrec
    have hd8 : decide (((rest.drop (1 + 2 + 2)).length : Int) < 8) = false := decide_eq_false (by omega)
    have htk := Lib.hid (take_z sz (0) (by rw [hzs]; rfl) (by omega) w7.drew h8.rd)
    have hsm : sz ≤ 4096 := by omega
    have hsl : sz ≤ (rest.drop (1 + 2 + 2)).length := by omega
    have hq9 : (rest.drop (1 + 2 + 2)).drop sz = rest.drop (5 + sz) := List.drop_drop
    have hdl : ((rest.drop (1 + 2 + 2)).take sz).length = sz := by rw [List.length_take]; omega
    have hro3 : ro = ⟨fr, (cN : Int), true, none, 0, (rest.drop (1 + 2 + 2)).take sz⟩ := hro2.out
    have hzs' := Lib.hid hzs
    replace hs := Lib.hid hs
    generalize rest.drop (1 + 2 + 2) = r5 at hLl hd8 htk hsl hq9 hdl hro3 h8
    generalize r5.take sz = dd at htk hdl hro3
    replace hdl := Lib.hid hdl
    replace hro3 := Lib.hid hro3
    replace hq9 := Lib.hid hq9
    clear hl5 hro2
    clear hzs
    go_wp2_with fail
    refine hLl.out.mono ?_
    rintro e w8 ⟨rfl, rfl⟩
    go_wp2_with fail
    refine htk.out.mono ?_
    rintro e w9 ⟨⟨Ab, cb, rfl, hownb⟩, hrd9, hg9⟩
    have h9 := h8.read hsl hrd9 hg9
    rw [hq9.out] at h9
    have hx9 := hx8.kept hg9 (fun e => by injection e with e; omega)
    have hW9 := below_read hWd hg9 hbase hR8
    clear h8 hx8 hWd hR8 hLl htk hrd9 hg9 e1 c8 hd8 hsl
    obtain ⟨wz, hwz⟩ : ∃ wz, wz = w9 := ⟨_, rfl⟩
    rw [← hwz] at h9 hx9 hW9 ⊢
    have hps := h9
    have hWz := hW9
    have hd0 : dd = [] := List.eq_nil_of_length_eq_zero (hdl.out.trans hzs'.out)
    obtain ⟨r, hr⟩ : ∃ r : Rec, r = ⟨fr, (cN : Int), true, none, 0, []⟩ := ⟨_, rfl⟩
    have hrO : r.Own wz := by rw [hr]; exact ⟨OwnB.nil _ _ _, f1, f2, t1, t2⟩
    obtain ⟨X, hX⟩ : ∃ X, X = r.val := ⟨_, rfl⟩
    have hX2 : X = [.int .i64 fr, .int .i64 (cN : Int), .bool true, .slice none 0 0] := by rw [hX, hr]; rfl
    have hrp : r.pl = ro := by rw [hr, hro3.out, hd0]; rfl
    have hxz := hx9
    rw [← hX2] at hxz
    clear hr hX2 hx9 h9 hW9 hownb hdl hro3 hwz hd0
    have HX := Lib.hid hX
    have hl8 : (rest.drop (5 + sz)).length = rest.length - (5 + sz) := List.length_drop
    have hck := checks_calls hps fm (by rw [hl8, hfm.out]; omega) (by rw [hl8]; have := hs.out; omega)
    rw [hfm.out, hatp.out, show whole.length - (rest.drop (5 + sz)).length - (whole.length - rest.length) = 5 + sz by rw [hl8]; have := hs.out; omega, List.drop_drop] at hck
    rw [← hfm.out] at hck
    replace hck := Lib.hid hck
    have hRz := hps.rd.lt
    have hbz := hps.rd.box
    clear hX hl8 hps
    by_cases hchk : check (rest.take (5 + sz)) = getN ((rest.drop (5 + sz)).take 8)
    rotate_left
    · rw [if_neg hchk] at hck
      rw [if_pos hchk] at hrec
      replace hrec := Lib.hid hrec
      clear hchk
      go_wp2_with fail
      refine hck.out.mono ?_
      rintro e wy ⟨rfl, _, hgy⟩
      go_wp2_with fail
      go_ret
      exact recQ_err (below_read hWz hgy hbase hRz) hrec.out (by decide)
    rw [if_pos hchk] at hck
    rw [if_neg (fun h => h hchk)] at hrec
    clear hchk
    go_wp2_with fail
    refine hck.out.mono ?_
    rintro e wy ⟨rfl, hps, hgy⟩
    have hxy := hxz.kept hgy (fun e => by injection e with e; omega)
    have hrOy := hrO.kept hgy (fun k e => by
      cases e
      obtain ⟨v, hv⟩ := hbz
      exact ⟨_, _, _, hv, by decide⟩)
    have hWy := below_read hWz hgy hbase hRz
    clear hxz hrO hWz hRz hgy hck
    go_upto_region 22 with fail
    -- <held5
    have d0 : Since wy wy.drew := (Since.refl wy).drew
    refine wp_region_H (fun W => RowAt W gx 39 X) 13 rfl (by kernel_rfl) ?_
    refine wh_take 0 (.pointer (some ⟨gr, 0, none⟩)) rfl (by kernel_rfl) (by kernel_rfl) (fun _ _ _ h => h) (by kernel_rfl) (fun _ _ => by kernel_rfl) ?_
    refine wh_take 1 (.pointer (some ⟨gr, 0, none⟩)) rfl (by kernel_rfl) (by kernel_rfl) (fun _ _ _ h => h) (by kernel_rfl) (fun _ _ => by kernel_rfl) ?_
    refine wh_take 2 (.pointer (some ⟨gr, 0, none⟩)) rfl (by kernel_rfl) (by kernel_rfl) (fun _ _ _ h => h) (by kernel_rfl) (fun _ _ => by kernel_rfl) ?_
    refine wh_take 3 (.pointer (some ⟨gr, 2, none⟩)) rfl (by kernel_rfl) (by kernel_rfl) (fun _ _ _ h => h) (by kernel_rfl) (fun _ _ => by kernel_rfl) ?_
    refine wh_take 4 (.pointer (some ⟨gr, 5, none⟩)) rfl (by kernel_rfl) (by kernel_rfl) (fun _ _ _ h => h) (by kernel_rfl) (fun _ _ => by kernel_rfl) ?_
    refine wh_take 6 (.agg X.toArray) rfl (by kernel_rfl) (by kernel_rfl) (fun _ _ _ h => h) (by kernel_rfl) (fun W h => exec_load_rec (.tmp 5) rfl ⟨gx, 0, none⟩ X (by rw [HX.out]; rfl) (fun j v hv => by rw [add_at, Nat.zero_add]; exact h.cellD j v hv) (by kernel_rfl)) ?_
    refine wh_two 5 7 (by kernel_rfl) (hxy.step d0) ?_ ?_
    · refine wo_run 5 (v := .slice s.A s.recs.length s.cap) (w' := wy.drew) rfl (by kernel_rfl) (exec_load_cell 22 (.tmp 100) rfl ⟨gr, 5, none⟩ _ (by kernel_rfl) ((hps.row.step d0).cellD 5 _ rfl) Try.isAgg22) ?_
      obtain ⟨W1, hw1, hl1, hb1'⟩ := lit_rec wy.drew X (by rw [HX.out]; rfl)
      have d1 := d0.then_ hb1'
      have s1 := (hxy.step d0).step hb1'
      refine wh_run 7 (v := .slice (some ⟨wy.drew.heap.size, 0, none⟩) 1 1) (w' := W1) rfl (by kernel_rfl) (by kernel_rfl) (hxy.step d0) (hw1 _ _ (.tmp 102) rfl (by kernel_rfl)) ?_
      obtain ⟨zs9, A9, c9, W2, hz9, hw2, hown9, hg9⟩ := app_rec W1 (R + 1) (by have := d1.size; have := hps.rd.lt; omega) (hps.own.below d1 (Nat.le_refl _)) (by omega) X r HX.out hl1
      have s2 := s1.kept hg9 (fun e => hso _ e rfl)
      have hps1 := hps.step d1
      have hrow2 := hps1.row.kept hg9 hps1.own_ne
      have hfin := hps1.grow hg9 (by rw [← hz9.out]; exact hown9) (hrOy.kept (grown_of d1 none) (fun k e => by cases e)) (congrArg List.length hz9.out)
      refine wh_run 8 (v := .slice A9 zs9.length c9) (w' := W2) rfl (by kernel_rfl) (by kernel_rfl) s1 (hw2 _ _ (.tmp 101) (.tmp 103) rfl rfl (by kernel_rfl) (by kernel_rfl)) ?_
      refine wh_take 9 (.pointer (some ⟨gr, 0, none⟩)) rfl (by kernel_rfl) (by kernel_rfl) (fun _ _ _ h => h) (by kernel_rfl) (fun _ _ => by kernel_rfl) ?_
      refine wh_take 10 (.pointer (some ⟨gr, 2, none⟩)) rfl (by kernel_rfl) (by kernel_rfl) (fun _ _ _ h => h) (by kernel_rfl) (fun _ _ => by kernel_rfl) ?_
      refine wh_take 11 (.pointer (some ⟨gr, 5, none⟩)) rfl (by kernel_rfl) (by kernel_rfl) (fun _ _ _ h => h) (by kernel_rfl) (fun _ _ => by kernel_rfl) ?_
      have s3 := s2.kept (setCell_grown W2 gr 5 (.slice A9 zs9.length c9)) (fun e => by injection e with e; omega)
      refine wh_skip 12 (w' := W2.setCell ⟨gr, 5, none⟩ (.slice A9 zs9.length c9)) rfl (by kernel_rfl) (by kernel_rfl) s2 (exec_store_cell 22 (.tmp 107) (.tmp 104) rfl gr 5 _ _ (by kernel_rfl) (by kernel_rfl) rfl rfl Try.sizeOf22 (hrow2.cellD 5 _ rfl) (hrow2.free 5)) ?_
      refine wh_done (by kernel_rfl) s3 ?_
      simp only [Act.put, List.setIfInBounds_toArray, List.set_cons_zero, List.set_cons_succ]
      have hWf := (hWy.trans ((show Below wy.heap.size wy W1 from d1).mono (Nat.le_trans hb0 hWy.size))).trans hfin.2
      have hpsf := hfin.1
      generalize W2.setCell ⟨gr, 5, none⟩ (.slice A9 zs9.length c9) = wf at hWf hpsf ⊢
      clear hfin hps1 hrow2 s1 s2 s3 hown9 hg9 hw2 hw1 hl1 hb1' d1 d0 hps hrOy hxy hWy hz9
      have hrowf := hpsf.row
      go_wp2_with (refine wpList_load_part 111 rfl 24 (.tmp 110) rfl hrowf 2 4 (⟨s.blocks, s.base, s.id, A9, c9, s.recs ++ [r]⟩ : Str).val rfl rfl rfl rfl Try.isAgg24 Try.sizeOf24 ?_)
      have hgc := good_calls ⟨s.blocks, s.base, s.id, A9, c9, s.recs ++ [r]⟩ wf ⟨hpsf.own.recs (fun x hx => (hpsf.dat x hx).ok), hpsf.own.cap.1, hpsf.own.cap.2, by show _ ≤ s.blocks; omega, by show s.blocks ≤ _; omega, by show _ ≤ s.base; omega, by show s.base ≤ _; omega, by show _ ≤ s.id; omega, by show s.id ≤ _; omega⟩
      rw [← goodB_pl, add_pl, hrp] at hgc
      replace hgc := Lib.hid hgc
      clear hrowf
      cases hgg : goodB (s.pl.add ro)
      · rw [hgg] at hgc
        rw [if_pos hgg] at hrec
        replace hrec := Lib.hid hrec
        refine hgc.out.mono ?_
        rintro e wk ⟨rfl, hBk⟩
        go_wp2_with fail
        go_ret
        exact recQ_err (hWf.trans (hBk.mono (Nat.le_trans hb0 hWf.size))) hrec.out (by decide)
      · rw [hgg] at hgc
        rw [if_neg (by rw [hgg]; decide)] at hrec
        replace hrec := Lib.hid hrec
        refine hgc.out.mono ?_
        rintro e wk ⟨rfl, hBk⟩
        go_wp2_with fail
        go_ret
        exact ⟨hWf.trans (hBk.mono (Nat.le_trans hb0 hWf.size)), .inr ⟨r, A9, c9, _, rfl, by rw [hrp]; exact hrec.out, hpsf.step hBk⟩⟩
    · obtain ⟨W1, hw1, hl1, hb1'⟩ := lit_rec wy.drew X (by rw [HX.out]; rfl)
      have d1 := d0.then_ hb1'
      have s1 := (hxy.step d0).step hb1'
      refine wo_run 7 (v := .slice (some ⟨wy.drew.heap.size, 0, none⟩) 1 1) (w' := W1) rfl (by kernel_rfl) (hw1 _ _ (.tmp 102) rfl (by kernel_rfl)) ?_
      refine wh_run 5 (v := .slice s.A s.recs.length s.cap) (w' := W1) rfl (by kernel_rfl) (by kernel_rfl) s1 (exec_load_cell 22 (.tmp 100) rfl ⟨gr, 5, none⟩ _ (by kernel_rfl) ((hps.row.step d1).cellD 5 _ rfl) Try.isAgg22) ?_
      obtain ⟨zs9, A9, c9, W2, hz9, hw2, hown9, hg9⟩ := app_rec W1 (R + 1) (by have := d1.size; have := hps.rd.lt; omega) (hps.own.below d1 (Nat.le_refl _)) (by omega) X r HX.out hl1
      have s2 := s1.kept hg9 (fun e => hso _ e rfl)
      have hps1 := hps.step d1
      have hrow2 := hps1.row.kept hg9 hps1.own_ne
      have hfin := hps1.grow hg9 (by rw [← hz9.out]; exact hown9) (hrOy.kept (grown_of d1 none) (fun k e => by cases e)) (congrArg List.length hz9.out)
      refine wh_run 8 (v := .slice A9 zs9.length c9) (w' := W2) rfl (by kernel_rfl) (by kernel_rfl) s1 (hw2 _ _ (.tmp 101) (.tmp 103) rfl rfl (by kernel_rfl) (by kernel_rfl)) ?_
      refine wh_take 9 (.pointer (some ⟨gr, 0, none⟩)) rfl (by kernel_rfl) (by kernel_rfl) (fun _ _ _ h => h) (by kernel_rfl) (fun _ _ => by kernel_rfl) ?_
      refine wh_take 10 (.pointer (some ⟨gr, 2, none⟩)) rfl (by kernel_rfl) (by kernel_rfl) (fun _ _ _ h => h) (by kernel_rfl) (fun _ _ => by kernel_rfl) ?_
      refine wh_take 11 (.pointer (some ⟨gr, 5, none⟩)) rfl (by kernel_rfl) (by kernel_rfl) (fun _ _ _ h => h) (by kernel_rfl) (fun _ _ => by kernel_rfl) ?_
      have s3 := s2.kept (setCell_grown W2 gr 5 (.slice A9 zs9.length c9)) (fun e => by injection e with e; omega)
      refine wh_skip 12 (w' := W2.setCell ⟨gr, 5, none⟩ (.slice A9 zs9.length c9)) rfl (by kernel_rfl) (by kernel_rfl) s2 (exec_store_cell 22 (.tmp 107) (.tmp 104) rfl gr 5 _ _ (by kernel_rfl) (by kernel_rfl) rfl rfl Try.sizeOf22 (hrow2.cellD 5 _ rfl) (hrow2.free 5)) ?_
      refine wh_done (by kernel_rfl) s3 ?_
      simp only [Act.put, List.setIfInBounds_toArray, List.set_cons_zero, List.set_cons_succ]
      have hWf := (hWy.trans ((show Below wy.heap.size wy W1 from d1).mono (Nat.le_trans hb0 hWy.size))).trans hfin.2
      have hpsf := hfin.1
      generalize W2.setCell ⟨gr, 5, none⟩ (.slice A9 zs9.length c9) = wf at hWf hpsf ⊢
      clear hfin hps1 hrow2 s1 s2 s3 hown9 hg9 hw2 hw1 hl1 hb1' d1 d0 hps hrOy hxy hWy hz9
      have hrowf := hpsf.row
      go_wp2_with (refine wpList_load_part 111 rfl 24 (.tmp 110) rfl hrowf 2 4 (⟨s.blocks, s.base, s.id, A9, c9, s.recs ++ [r]⟩ : Str).val rfl rfl rfl rfl Try.isAgg24 Try.sizeOf24 ?_)
      have hgc := good_calls ⟨s.blocks, s.base, s.id, A9, c9, s.recs ++ [r]⟩ wf ⟨hpsf.own.recs (fun x hx => (hpsf.dat x hx).ok), hpsf.own.cap.1, hpsf.own.cap.2, by show _ ≤ s.blocks; omega, by show s.blocks ≤ _; omega, by show _ ≤ s.base; omega, by show s.base ≤ _; omega, by show _ ≤ s.id; omega, by show s.id ≤ _; omega⟩
      rw [← goodB_pl, add_pl, hrp] at hgc
      replace hgc := Lib.hid hgc
      clear hrowf
      cases hgg : goodB (s.pl.add ro)
      · rw [hgg] at hgc
        rw [if_pos hgg] at hrec
        replace hrec := Lib.hid hrec
        refine hgc.out.mono ?_
        rintro e wk ⟨rfl, hBk⟩
        go_wp2_with fail
        go_ret
        exact recQ_err (hWf.trans (hBk.mono (Nat.le_trans hb0 hWf.size))) hrec.out (by decide)
      · rw [hgg] at hgc
        rw [if_neg (by rw [hgg]; decide)] at hrec
        replace hrec := Lib.hid hrec
        refine hgc.out.mono ?_
        rintro e wk ⟨rfl, hBk⟩
        go_wp2_with fail
        go_ret
        exact ⟨hWf.trans (hBk.mono (Nat.le_trans hb0 hWf.size)), .inr ⟨r, A9, c9, _, rfl, by rw [hrp]; exact hrec.out, hpsf.step hBk⟩⟩
    -- held5>
end Go.Proofs.Ytdglkjpdhnnpnaa
