/-
  revetmentref05.Decode: the marked sector of bytes, by definition (the walk of page.Decode under other names).
-/
import Derived.Test.YthieeidbfdhaaaaPageDec
namespace Go.Proofs.Ythieeidbfdhaaaa
open Go Go.RowKit Go.Shelf

theorem rzero_sec (w : World) : (zeroValue 69).run Try.prog w = .ok (.agg Sec.none.cells.toArray) w := Try.zeroValue69 w

@[irreducible] def rbsec (a b c : Value) : Sem Value := Instr.build 69 #[(0, a), (1, b), (2, c)]
theorem run_rbsec (a b c : Int) (w : World) : (rbsec (.int .u8 a) (.int .u32 b) (.int .i64 c)).run Try.prog w = .ok (.agg (secRow a b c)) w := by
  unfold rbsec
  rw [secRow_def]
  exact run_build _ _ _ _ (by kernel_rfl)
@[irreducible] def rzsec : Sem Value := Instr.alloc 69 true (.tuple #[])
theorem run_rzsec (w : World) : rzsec.run Try.prog w = .ok (.pointer (some ⟨w.heap.size, 0, none⟩)) (w.alloc (.cells (secRow 0 0 0) 69)) := by
  unfold rzsec
  rw [secRow_def]
  exact (run_alloc_row rzero_sec w true).1
@[irreducible] def rssec (p v : Value) : Sem Unit := Instr.storeAt 69 p v
theorem run_rssec (w : World) (g : Nat) (hg : g = w.heap.size) (a b c x y z : Int) : (rssec (.pointer (some ⟨g, 0, none⟩)) (.agg (secRow a b c))).run Try.prog (w.alloc (.cells (secRow x y z) 69)) =
    .ok () (w.alloc (.cells (secRow a b c) 69)) := by
  subst hg
  unfold rssec
  exact run_storeAt_new (P := Try.prog) w 69 _ _ (by rw [secRow_size]; kernel_rfl) (by rw [secRow_size, secRow_size]) (secRow_one _ _ _)
theorem run_rssec_drew (w : World) (g : Nat) (hg : g = w.heap.size) (a b c x y z : Int) : (rssec (.pointer (some ⟨g, 0, none⟩)) (.agg (secRow a b c))).run Try.prog (w.alloc (.cells (secRow x y z) 69)).drew =
    .ok () (w.alloc (.cells (secRow a b c) 69)).drew := run_rssec w.drew g hg a b c x y z
section
variable (ρ : Operand → Value) (dst : Option Tmp) (ty : TypeId) (pos : String) (after : Array Edge) (guard : Option (Nat × Bool))
theorem exec_rbsec (x y z : Operand) : execOp ρ { dst, op := .build 69 #[(0, x), (1, y), (2, z)], type := ty, pos, after, guard } = (do pure (.value (← rbsec (ρ x) (ρ y) (ρ z)))) := by unfold rbsec; simp [execOp]
theorem exec_rzsec : execOp ρ { dst, op := .alloc 69, type := ty, pos, after, guard } = (do pure (.value (← rzsec))) := by unfold rzsec; rfl
theorem exec_rssec (x y : Operand) : execOp ρ { dst, op := .store 69 x y, type := ty, pos, after, guard } = (do rssec (ρ x) (ρ y); pure .skip) := by unfold rssec; rfl
end

theorem rget_n (A : Option Addr) (cap n : Nat) (bs : List UInt8) (hn : bs.length = n) (hl : n ≤ maxLen) (w : World) (B : Nat) (hb : BytesAt w B A bs) :
    Calls Try.prog 54 #[.slice A n cap] w fun e w' => e = .returned (B64 (getN bs)) ∧ w = w' := by
  subst hn
  exact rget_calls A cap bs hl w B hb

theorem rencode_ok (s : Sec) (hb : s.body.length = 48) (hok : s.ok = true) (E : List Value) (hE : Hid (E = s.enc.map B8)) (w : World) :
    Calls Try.prog 34 #[.agg s.cells.toArray] w fun e w' => e = .returned (.tuple #[.agg E.toArray, .int .i64 0]) ∧ Below w.heap.size w w' := by
  have h : 0 ≤ s.idx ∧ s.idx ≤ 65535 := by simp [Sec.ok] at hok; exact hok.2
  refine (rencode_calls s hb (by omega) (by omega) w).mono ?_
  rintro e w' ⟨he, hB⟩
  refine ⟨?_, hB⟩
  rw [he, encode, if_pos hok, hE.out]
  rfl
theorem rencode_no (s : Sec) (hb : s.body.length = 48) (h1 : -9223372036854775808 ≤ s.idx) (h2 : s.idx ≤ 9223372036854775807) (hok : s.ok = false) (E : List Value) (hE : Hid (E = (zeros 64).map B8)) (w : World) :
    Calls Try.prog 34 #[.agg s.cells.toArray] w fun e w' => e = .returned (.tuple #[.agg E.toArray, .int .i64 11]) ∧ Below w.heap.size w w' := by
  refine (rencode_calls s hb h1 h2 w).mono ?_
  rintro e w' ⟨he, hB⟩
  refine ⟨?_, hB⟩
  rw [he, encode, if_neg (by rw [hok]; decide), hE.out]
  rfl

section
attribute [local go_sem ↓ high] exec_rbsec exec_rzsec exec_rssec
attribute [local go_sem] run_rbsec run_rzsec run_rssec run_rssec_drew

set_option maxHeartbeats 2000000 in
theorem rdecode_calls (b : List UInt8) (hb : b.length = 64) (w : World) :
    Calls Try.prog 36 #[vb b] w fun e w' => e = .returned (.tuple #[(decode b).1.val, .int .i64 (decode b).2]) ∧ Below w.heap.size w w' := by
  have hbl : (b.map B8).length = 64 := by rw [List.length_map, hb]
  go_enter Try.func36, Try.ntmps36
  go_upto_region 1 with (first
      | (with_reducible show wpList _ _ _ (_ :: _) _ _; refine wpList_box_row 1 rfl 37 _ rfl (b.map B8) rfl rfl ?_; intro wa hra hsa hBa)
      | (with_reducible show wpList _ _ _ (_ :: _) _ _; refine wpList_alloc_row 2 rfl 69 rfl _ rfl rzero_sec ?_; intro wb hrb hsb hBb; rw [hsa] at hrb hsb; have hrB := hra.step hBb))
  go_cut [4] from 7 to 15 (fun v wx => ∃ g, v = .pointer (some ⟨g, 0, none⟩) ∧ wb.heap.size ≤ g ∧ RowAt wx g 69 (B8 (Sec.of b).mark :: .int .u32 ((Sec.of b).seq.toNat : Int) :: .int .i64 (Sec.of b).idx :: (zeros 48).map B8) ∧ Below wb.heap.size wb wx)
  case first =>
    have hb0 : b[0]?.getD 0 = (Sec.of b).mark := rfl
    have hc0 : wb.cell? ⟨w.heap.size, 0, none⟩ = some (B8 (Sec.of b).mark) := by
      rw [hrB.cell, ← hb0]
      simp [List.getElem?_eq_getElem (show 0 < b.length by omega)]
    have hby : BytesAt wb wb.heap.size (some ⟨w.heap.size, 0, none⟩) b := hrB.bytes 0 b (fun j hj => by
      rw [Nat.zero_add]
      simp [hj])
    have hs1 : BytesAt wb wb.heap.size (some ⟨w.heap.size, 1, none⟩) ((b.drop 1).take 4) := by
      have := (hby.drop (k := 1) (cap := 64) (by omega)).take 4
      simpa [Addr.add] using this
    have hs5 : BytesAt wb wb.heap.size (some ⟨w.heap.size, 5, none⟩) ((b.drop 5).take 2) := by
      have := (hby.drop (k := 5) (cap := 64) (by omega)).take 2
      simpa [Addr.add] using this
    have hl1 : ((b.drop 1).take 4).length = 4 := by simp; omega
    have hl5 : ((b.drop 5).take 2).length = 2 := by simp; omega
    have hseq : IntKind.u32.wrap ((getN ((b.drop 1).take 4)).toNat : Int) = ((Sec.of b).seq.toNat : Int) := by
      rw [IntKind.wrap_u32]
      show _ = (((getN ((b.drop 1).take 4)).toUInt32.toNat : Nat) : Int)
      rw [UInt64.toNat_toUInt32]
      omega
    have hidx : IntKind.i64.wrap ((getN ((b.drop 5).take 2)).toNat : Int) = (Sec.of b).idx := by
      have h1 : (getN ((b.drop 5).take 2)).toNat < 65536 := by
        rw [getN_nat, List.take_take]
        have := leVal_lt ((b.drop 5).take (min 8 2))
        have h2 : ((b.drop 5).take (min 8 2)).length = 2 := by simp; omega
        rw [h2] at this
        exact this
      rw [IntKind.wrap_i64]
      show _ = ((getN ((b.drop 5).take 2)).toNat : Int)
      omega
    generalize hp : Sec.of b = p at hc0 hseq hidx ⊢
    have HP := Lib.hid hp
    clear hp
    generalize (b.drop 1).take 4 = x1 at hs1 hl1 hseq
    generalize (b.drop 5).take 2 = x5 at hs5 hl5 hidx
    clear hb0
    have hS0 : Since wb wb.drew ∧ wb.drew.cell? ⟨w.heap.size, 0, none⟩ = some (B8 p.mark) := ⟨(Since.refl wb).drew, hc0⟩
    have hSb : Since wb wb ∧ wb.cell? ⟨w.heap.size, 0, none⟩ = some (B8 p.mark) := ⟨Since.refl wb, hc0⟩
    have hl1 := Lib.hid hl1
    have hl5 := Lib.hid hl5
    clear hc0
    go_region_held3 (fun w' => Since wb w' ∧ w'.cell? ⟨w.heap.size, 0, none⟩ = some (B8 p.mark))
      (first | exact hS0 | with_reducible exact keepA hSb (alloc_below _ _))
      (first
        | (go_at_call_of 54 (Value.slice (some ⟨w.heap.size, 1, none⟩) 4 63); refine (rget_n _ 63 4 x1 hl1.out (by decide) _ wb.heap.size ?_).mono ?_; exact hs1.below (And.left (by assumption)); rintro e w' ⟨rfl, rfl⟩)
        | (go_at_call_of 54 (Value.slice (some ⟨w.heap.size, 5, none⟩) 2 59); refine (rget_n _ 59 2 x5 hl5.out (by decide) _ wb.heap.size ?_).mono ?_; exact hs5.below (And.left (by assumption)); rintro e w' ⟨rfl, rfl⟩)
        | (go_at_call 54; trace_state; fail))
    all_goals
      go_wp2_with fail
      go_meet
      refine ⟨w.heap.size + 1 + 1, rfl, Nat.le_of_eq hsb, ?_, (balloc (brefl wb) _).drew⟩
      have h := alloc_row wb 69 (B8 p.mark :: .int .u32 (p.seq.toNat : Int) :: .int .i64 p.idx :: (zeros 48).map B8)
      rw [hsb, ← secRow_def] at h
      rw [HP.out]
      exact h
  case rest =>
    obtain ⟨g, rfl, hg, hrg, hBc⟩ := hcut
    have hbl48 : ((b.drop 7).take 48).length = 48 := by simp; omega
    have hrb2 := hrB.below hBc (by omega)
    have hby : BytesAt wc wc.heap.size (some ⟨w.heap.size, 7, none⟩) ((b.drop 7).take 48) := by
      have h1 := ((hrb2.bytes 0 b (fun j hj => by rw [Nat.zero_add]; simp [hj])).drop (k := 7) (cap := 64) (by omega)).take 48
      simpa [Addr.add] using h1
    have hspl : splice (B8 (Sec.of b).mark :: .int .u32 ((Sec.of b).seq.toNat : Int) :: .int .i64 (Sec.of b).idx :: (zeros 48).map B8) 3 (((b.drop 7).take 48).map B8) = (Sec.of b).cells := by
      unfold splice
      rw [List.length_map, hbl48]
      simp [Sec.cells, Sec.of, zeros]
    have hl51 : (B8 (Sec.of b).mark :: .int .u32 ((Sec.of b).seq.toNat : Int) :: .int .i64 (Sec.of b).idx :: (zeros 48).map B8).length = 51 := by simp [zeros]
    generalize (B8 (Sec.of b).mark :: .int .u32 ((Sec.of b).seq.toNat : Int) :: .int .i64 (Sec.of b).idx :: (zeros 48).map B8 : List Value) = row0 at *
    generalize (b.drop 7).take 48 = body at *
    have HS := Lib.hid hspl
    have HL := Lib.hid hl51
    have HB := Lib.hid hbl48
    clear hspl hl51 hbl48
    go_wp2_with fail
    go_region_held3 (fun _ => True) (trivial)
      (first
        | (with_reducible refine wanted_step ?_ ?_
           · rfl
           refine wp_copy rfl (.tmp 17) (.tmp 18) 32 32 rfl 5 Try.underlying32 (by kernel_rfl) (some ⟨g, 3, none⟩) (some ⟨w.heap.size, 7, none⟩) 48 48 48 57 (by rfl) (by rfl) g 3 row0 69 hrg (body.map B8)
               (by rw [List.length_map, HB.out]; rfl) (fun _ => ⟨rfl, BytesAt.cells (w := wc.drew) hby (by rw [HB.out]; decide)⟩) (by rw [List.length_map, HB.out, HL.out]; decide) (bytes_oneCell _) ?_
           intro w3 hr3 hB3 hs3))
    rw [HS.out] at hr3
    have hrb3 : RowAt w3 w.heap.size 37 (b.map B8) := RowAt.below (w := wc.drew) hrb2 hB3 (by omega)
    have hrz3 : RowAt w3 (w.heap.size + 1) 69 Sec.none.cells := by
      have h1 : RowAt wc (w.heap.size + 1) 69 Sec.none.cells := hrb.below hBc (by omega)
      exact RowAt.below (w := wc.drew) h1 hB3 (by omega)
    have hidx := of_idx b
    have hpb : (Sec.of b).body.length = 48 := by simp [Sec.of]; omega
    have hcl := Sec.cells_length _ hpb
    have hBw : Below w.heap.size w w3 := ((bthen (bthen hBa hBb) hBc).drew).trans (hB3.mono (by omega))
    have hdec : decode b = if (Sec.of b).ok && (Sec.of b).enc == b then (Sec.of b, 0) else (Sec.none, 11) := rfl
    generalize Sec.of b = p at *
    have HD := Lib.hid hdec
    have HC := Lib.hid hcl
    clear hdec hcl HS HL HB hrb2 hrB hBc hra hrb hsa hsb hBa hBb
    have hl51 := List.take_of_length_le (Nat.le_of_eq HC.out)
    replace hl51 := Lib.hid hl51
    have hg4 := guard_block
    replace hg4 := Lib.hid hg4
    by_cases hok : p.ok = true
    · have hneq := neq_block p.enc b (p.enc_length hpb) hb
      have HD2 : Hid (decode b = if (p.enc == b) = true then (p, 0) else (Sec.none, 11)) := Lib.hid (by rw [HD.out, hok, Bool.true_and])
      clear HD
      generalize (p.enc == b) = t at *
      obtain ⟨E, hE⟩ : ∃ E, E = p.enc.map B8 := ⟨_, rfl⟩
      have hel : E.length = 64 := by rw [hE, List.length_map, p.enc_length hpb]
      have hone : ∀ v ∈ E, v.oneCell' = true := by rw [hE]; exact bytes_oneCell p.enc
      rw [← hE] at hneq
      have HE := Lib.hid hE
      have hel2 := Lib.hid (List.take_of_length_le (Nat.le_of_eq hel))
      have HEL := Lib.hid hel
      have hbl2 := Lib.hid (List.take_of_length_le (Nat.le_of_eq hbl))
      have HBL := Lib.hid hbl
      clear hE hel hbl
      have HZ : Hid (Sec.none.cells.length = 51) := rfl
      have hgs := hrz3.lt
      have hgg := hr3.lt
      have hgb := hrb3.lt
      have hpo := sec_one p
      cases t
      · go_wp2_with (first
          | (refine wpList_load_part 21 rfl 69 (.tmp 4) rfl hr3 0 51 p.cells rfl rfl hl51.out HC.out Try.isAgg69 Try.sizeOf69 ?_)
          | (go_at_call 34; refine (rencode_ok p hpb hok E HE w3).mono ?_; rintro e w4 ⟨rfl, hB4⟩)
          | (refine wpList_alloc_row 5 rfl 37 rfl _ rfl zero_block ?_; intro w5 hr5 hs5 hB5; have hs4 := hB4.size)
          | (refine wpList_store_part 37 (.tmp 5) (.tmp 23) rfl hr5 0 E rfl rfl rfl (by rw [HEL.out]; exact Try.sizeOf37) (by rw [HEL.out]; decide) hone ?_; intro w6 hr6 hs6 hg6; rw [splice_all _ _ (by rw [HEL.out]; rfl)] at hr6; have hrb6 := ((hrb3.step hB4).step hB5).kept hg6 (fun e => by injection e with e; omega); have hrz6 := ((hrz3.step hB4).step hB5).kept hg6 (fun e => by injection e with e; omega); have hB6 := (bthen (bthen hBw hB4) hB5).grown hg6 (bthen (bthen hBw hB4) hB5).size (fun j e => by cases e; omega))
          | (refine wpList_load_part 28 rfl 37 (.tmp 5) rfl hr6 0 64 E rfl rfl hel2.out HEL.out Try.isAgg37 Try.sizeOf37 ?_)
          | (refine wpList_load_part 29 rfl 37 (.tmp 1) rfl hrb6 0 64 (b.map B8) rfl rfl hbl2.out HBL.out Try.isAgg37 Try.sizeOf37 ?_)
          | (refine wpList_store_part 69 (.tmp 2) (.tmp 32) rfl hrz6 0 Sec.none.cells rfl rfl rfl Try.sizeOf69 (by decide) (sec_one Sec.none) ?_; intro w7 hr7 hs7 hg7; rw [splice_all _ _ rfl] at hr7))
        refine bodyPost_ret (results_row_tmp rfl _ hr7 rfl Try.underlying69 rfl (by kernel_rfl)) rfl ?_
        refine ⟨?_, hB6.grown hg7 hB6.size (fun j e => by cases e; omega)⟩
        rw [HD2.out]
        rfl
      · go_wp2_with (first
          | (refine wpList_load_part 21 rfl 69 (.tmp 4) rfl hr3 0 51 p.cells rfl rfl hl51.out HC.out Try.isAgg69 Try.sizeOf69 ?_)
          | (go_at_call 34; refine (rencode_ok p hpb hok E HE w3).mono ?_; rintro e w4 ⟨rfl, hB4⟩)
          | (refine wpList_alloc_row 5 rfl 37 rfl _ rfl zero_block ?_; intro w5 hr5 hs5 hB5; have hs4 := hB4.size)
          | (refine wpList_store_part 37 (.tmp 5) (.tmp 23) rfl hr5 0 E rfl rfl rfl (by rw [HEL.out]; exact Try.sizeOf37) (by rw [HEL.out]; decide) hone ?_; intro w6 hr6 hs6 hg6; rw [splice_all _ _ (by rw [HEL.out]; rfl)] at hr6; have hrb6 := ((hrb3.step hB4).step hB5).kept hg6 (fun e => by injection e with e; omega); have hrz6 := ((hrz3.step hB4).step hB5).kept hg6 (fun e => by injection e with e; omega); have hrs6 := ((hr3.step hB4).step hB5).kept hg6 (fun e => by injection e with e; omega); have hB6 := (bthen (bthen hBw hB4) hB5).grown hg6 (bthen (bthen hBw hB4) hB5).size (fun j e => by cases e; omega))
          | (refine wpList_load_part 28 rfl 37 (.tmp 5) rfl hr6 0 64 E rfl rfl hel2.out HEL.out Try.isAgg37 Try.sizeOf37 ?_)
          | (refine wpList_load_part 29 rfl 37 (.tmp 1) rfl hrb6 0 64 (b.map B8) rfl rfl hbl2.out HBL.out Try.isAgg37 Try.sizeOf37 ?_)
          | (refine wpList_load_part 33 rfl 69 (.tmp 4) rfl hrs6 0 51 p.cells rfl rfl hl51.out HC.out Try.isAgg69 Try.sizeOf69 ?_)
          | (refine wpList_store_part 69 (.tmp 2) (.tmp 33) rfl hrz6 0 p.cells rfl rfl rfl (by rw [HC.out]; exact Try.sizeOf69) (by rw [HC.out]; decide) hpo ?_; intro w7 hr7 hs7 hg7; rw [splice_all _ _ (by rw [HC.out]; rfl)] at hr7))
        refine bodyPost_ret (results_row_tmp rfl _ hr7 rfl Try.underlying69 rfl (by rw [HC.out]; kernel_rfl)) rfl ?_
        refine ⟨?_, hB6.grown hg7 hB6.size (fun j e => by cases e; omega)⟩
        rw [HD2.out]
        rfl
    · have hok2 : p.ok = false := by simpa using hok
      clear hok
      have HD2 : Hid (decode b = (Sec.none, 11)) := Lib.hid (by rw [HD.out, hok2]; rfl)
      clear HD
      obtain ⟨E, hE⟩ : ∃ E, E = (zeros 64).map B8 := ⟨_, rfl⟩
      have hel : E.length = 64 := by rw [hE]; rfl
      have hone : ∀ v ∈ E, v.oneCell' = true := by rw [hE]; exact bytes_oneCell _
      have HE := Lib.hid hE
      have HEL := Lib.hid hel
      clear hE hel
      have hgs := hrz3.lt
      go_wp2_with (first
          | (refine wpList_load_part 21 rfl 69 (.tmp 4) rfl hr3 0 51 p.cells rfl rfl hl51.out HC.out Try.isAgg69 Try.sizeOf69 ?_)
          | (go_at_call 34; refine (rencode_no p hpb (by omega) (by omega) hok2 E HE w3).mono ?_; rintro e w4 ⟨rfl, hB4⟩)
          | (refine wpList_alloc_row 5 rfl 37 rfl _ rfl zero_block ?_; intro w5 hr5 hs5 hB5; have hs4 := hB4.size)
          | (refine wpList_store_part 37 (.tmp 5) (.tmp 23) rfl hr5 0 E rfl rfl rfl (by rw [HEL.out]; exact Try.sizeOf37) (by rw [HEL.out]; decide) hone ?_; intro w6 hr6 hs6 hg6; rw [splice_all _ _ (by rw [HEL.out]; rfl)] at hr6; have hrz6 := ((hrz3.step hB4).step hB5).kept hg6 (fun e => by injection e with e; omega); have hB6 := (bthen (bthen hBw hB4) hB5).grown hg6 (bthen (bthen hBw hB4) hB5).size (fun j e => by cases e; omega))
          | (refine wpList_store_part 69 (.tmp 2) (.tmp 32) rfl hrz6 0 Sec.none.cells rfl rfl rfl Try.sizeOf69 (by decide) (sec_one Sec.none) ?_; intro w7 hr7 hs7 hg7; rw [splice_all _ _ rfl] at hr7))
      refine bodyPost_ret (results_row_tmp rfl _ hr7 rfl Try.underlying69 rfl (by kernel_rfl)) rfl ?_
      refine ⟨?_, hB6.grown hg7 hB6.size (fun j e => by cases e; omega)⟩
      rw [HD2.out]
      rfl

end
end Go.Proofs.Ythieeidbfdhaaaa
