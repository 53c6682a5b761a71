/-
  StreamCodes's walk.
-/
import Derived.Test.YtdglkjpdhnnpnaaStrCopy
namespace Go.Proofs.Ytdglkjpdhnnpnaa
open Go Go.RowKit Go.Shelf

theorem exec_eqb {w : World} {o : Oper} {a : Act} (x y : Operand) (ho : o.op = .binOp .eql 4 x y 4) (b : Bool) (hx : a.eval x = .bool b) (hy : a.eval y = .bool b) :
    (execOp a.eval o).run Try.prog w = .ok (.value (.bool true)) w := by
  simp only [execOp, ho, hx, hy]
  clear hx hy ho
  cases b <;> kernel_rfl
theorem encode_Q (s : Str) (w : World) (hok : s.Ok w w.heap.size) (V : List Value) (hV : V = s.val) (zs : List UInt8) (hz : encR s = zs) (es : Int) (hes : codeE s = es) :
    Calls Try.prog 14 #[.agg V.toArray] w fun e w' => ∃ A c, e = .returned (.tuple #[.slice A zs.length c, .int .i64 es]) ∧ OwnB w' w.heap.size 5 A c zs ∧ Below w.heap.size w w' := by
  subst hV hz hes
  refine (encode_calls s w hok).mono ?_
  rintro e w' ⟨zs, A, c, rfl, hz, hown, hB⟩
  obtain rfl := hz.out
  exact ⟨A, c, rfl, hown, hB⟩
theorem rencode_Q (s : Str) (w : World) (hmany : s.recs.length ≤ 100000) (hok : s.Ok w w.heap.size) (V : List Value) (hV : V = s.val) (zs : List UInt8) (hz : encR s = zs) (es : Int) (hes : codeE s = es) :
    Calls Try.prog 15 #[.agg V.toArray] w fun e w' => ∃ A c, e = .returned (.tuple #[.slice A zs.length c, .int .i64 es]) ∧ OwnB w' w.heap.size 5 A c zs ∧ Below w.heap.size w w' := by
  subst hV hz hes
  refine (rencode16_calls s w hmany hok).mono ?_
  rintro e w' ⟨zs, A, c, rfl, hz, hown, hB⟩
  obtain rfl := hz.out
  exact ⟨A, c, rfl, hown, hB⟩
theorem good_Q (s : Str) (w : World) (hok : s.Ok w w.heap.size) (V : List Value) (hV : V = s.val) (b : Bool) (hg : goodB s = b) :
    Calls Try.prog 16 #[.agg V.toArray] w fun e w' => e = .returned (.bool b) ∧ Below w.heap.size w w' := by
  subst hV hg
  exact good_calls s w hok
theorem streams_Q (s t : Str) (w : World) (hs : s.Ok w w.heap.size) (ht : t.Ok w w.heap.size) (V U : List Value) (hV : V = s.val) (hU : U = t.val) (h : sameS s t = true) :
    Calls Try.prog 21 #[.agg V.toArray, .agg U.toArray] w fun e w' => e = .returned (.bool true) ∧ Below w.heap.size w w' := by
  subst hV hU
  rw [← h]
  exact streams_calls s t w hs ht
theorem encR_pl {s t : Str} (h : t.pl = s.pl) : encR t = encR s ∧ codeE t = codeE s ∧ goodB t = goodB s := by
  have h1 : goodB t = goodB s := by rw [← goodB_pl t, h, goodB_pl]
  have h2 : encE t = encE s := by rw [← encE_pl t, h, encE_pl]
  unfold encR codeE
  rw [h1, h2]
  exact ⟨rfl, rfl, rfl⟩

theorem wpList_var_q {w : World} {ops : Array Oper} {rest : List Oper} {o1 o2 : Oper} {a : Act} {Q : Exit → Act → World → Prop} (d : Tmp) (hd : o1.dst = some d) (ho1 : o1.op = .alloc 24) (x y : Operand) (ho2 : o2.op = .store 24 x y) (r : Str) (V : List Value) (hV : Hid (V = r.val))
    (hg1 : Region.wanted o1 (yielded ops a.tmps) = true) (hg2 : Region.wanted o2 (yielded ops (a.put (some d) (.pointer (some ⟨w.heap.size, 0, none⟩))).tmps) = true) (hx : (a.put (some d) (.pointer (some ⟨w.heap.size, 0, none⟩))).eval x = .pointer (some ⟨w.heap.size, 0, none⟩)) (hy : (a.put (some d) (.pointer (some ⟨w.heap.size, 0, none⟩))).eval y = .agg V.toArray)
    (h : ∀ w1, RowAt w1 w.heap.size 24 V → Below w.heap.size w w1 → wpList Try.prog ops Q rest ((a.put (some d) (.pointer (some ⟨w.heap.size, 0, none⟩))).put o2.dst undef) w1) : wpList Try.prog ops Q (o1 :: o2 :: rest) a w := by
  obtain rfl := hV.out
  refine wpList_alloc_row d hd 24 ho1 _ hg1 zero_str ?_
  intro w1 h1 _ hB1
  refine wpList_store_str x y ho2 r hg2 rfl h1 hB1 hx hy ?_
  intro w2 h2 hB2
  exact h w2 h2 hB2

set_option maxRecDepth 100000 in
set_option maxHeartbeats 8000000 in
theorem streamCodes_walk (s : Str) (A : Option Addr) (cap : Nat) (bs : List UInt8) (w : World) (hok : s.Ok w w.heap.size) (hl : bs.length ≤ cap) (hm : cap ≤ maxLen) (hb : BytesAt w w.heap.size A bs) :
    Calls Try.prog 3 #[.agg s.val.toArray, .slice A bs.length cap] w fun e w' => e = .returned (.bool true) ∧ Below w.heap.size w w' := by
  have hs0 := Lib.hid (fun W (hB : Below w.heap.size w W) => hok.step hB)
  have hfs := Lib.hid (fun W (hB : Below w.heap.size w W) => fair16_calls s W (hok.step hB))
  obtain ⟨SV, hSV⟩ : ∃ SV, SV = s.val := ⟨_, rfl⟩
  have HS4 := Lib.hid (show SV.length = 4 by rw [hSV]; rfl)
  have HST := Lib.hid (show (SV.drop 0).take 4 = SV from List.take_of_length_le (Nat.le_of_eq HS4.out))
  have HSV := Lib.hid hSV
  rw [← hSV]
  clear hSV hok
  go_enter Try.func3, Try.ntmps3
  go_wp2_with (first
    | (refine wpList_box_row 2 rfl 24 _ rfl SV rfl rfl ?_; intro w1 hrs hz1 hB1; clear hz1)
    | (refine wpList_load_part 10 rfl 24 (.tmp 2) rfl hrs 0 4 SV rfl rfl HST.out HS4.out Try.isAgg24 Try.sizeOf24 ?_))
  rw [HSV.out]
  refine (hfs.out w1 hB1).mono ?_
  rw [← HSV.out]
  rintro e w2 ⟨rfl, hB2⟩
  have hs2 := hrs.step hB2
  have hW2 := bthen hB1 hB2
  clear hrs hB1 hB2 hfs
  cases hf : fairS s
  · go_wp2_with fail
    refine (wakes16_calls w2).mono ?_
    rintro e w4 ⟨rfl, hB4⟩
    go_wp2_with fail
    go_ret
    exact ⟨rfl, bthen hW2 hB4⟩
  unfold fairS at hf
  rw [Bool.and_eq_true, decide_eq_true_eq, decide_eq_true_eq] at hf
  have hmany := Lib.hid (show s.recs.length ≤ 100000 by omega)
  have hdat := Lib.hid (show ∀ r ∈ s.recs, r.data.length ≤ 100000 from fun r hr => by have := sumM_data hf.1 r hr; omega)
  clear hf
  by_cases h8 : 3000 < bs.length
  · have hd : decide ((3000 : Int) < (bs.length : Int)) = true := decide_eq_true (by omega)
    go_wp2_with fail
    refine (wakes16_calls w2).mono ?_
    rintro e w4 ⟨rfl, hB4⟩
    go_wp2_with fail
    go_ret
    exact ⟨rfl, bthen hW2 hB4⟩
  have hd : decide ((3000 : Int) < (bs.length : Int)) = false := decide_eq_false (by omega)
  have hl6 : bs.length ≤ 3000 := by omega
  clear h8
  go_wp2_with (refine wpList_load_part 19 rfl 24 (.tmp 2) rfl hs2 0 4 SV rfl rfl HST.out HS4.out Try.isAgg24 Try.sizeOf24 ?_)
  rw [HSV.out]
  refine (copy16_calls s w2 hmany.out hdat.out (hs0.out w2 hW2)).mono ?_
  rw [← HSV.out]
  rintro e w3 ⟨t, rfl, hokt, hpl, hB3⟩
  have hs3 := hs2.step hB3
  have hW3 := bthen hW2 hB3
  obtain ⟨hen, hco, hgo⟩ := encR_pl hpl
  have hsm := Lib.hid (sameS_pl.2 hpl)
  obtain ⟨TV, hTV'⟩ : ∃ TV, TV = t.val := ⟨_, rfl⟩
  have hTV := Lib.hid hTV'
  clear hTV'
  have HT4 := Lib.hid (show TV.length = 4 by rw [hTV.out]; rfl)
  have HTT := Lib.hid (show (TV.drop 0).take 4 = TV from List.take_of_length_le (Nat.le_of_eq HT4.out))
  obtain ⟨zs, hzs⟩ : ∃ zs, encR s = zs := ⟨_, rfl⟩
  obtain ⟨es, hes⟩ : ∃ es, codeE s = es := ⟨_, rfl⟩
  obtain ⟨g, hg⟩ : ∃ g, goodB s = g := ⟨_, rfl⟩
  rw [hzs] at hen
  rw [hes] at hco
  rw [hg] at hgo
  replace hen := Lib.hid hen
  replace hco := Lib.hid hco
  replace hgo := Lib.hid hgo
  replace hzs := Lib.hid hzs
  replace hes := Lib.hid hes
  replace hg := Lib.hid hg
  clear hs2 hW2 hB3 hd hpl hdat
  rw [← hTV.out]
  go_upto_region 4 with (
    refine wpList_var_q 5 rfl rfl (.tmp 5) (.tmp 20) rfl t TV hTV rfl rfl rfl rfl ?_
    intro w4 hrt hB4
    have hs4 := hs3.step hB4
    have hokt4 := hokt.step hB4
    have hW4 := bthen hW3 hB4)
  clear hs3 hW3 hB4 hokt
  go_wp2_with (refine wpList_load_part 22 rfl 24 (.tmp 5) rfl hrt 0 4 TV rfl rfl HTT.out HT4.out Try.isAgg24 Try.sizeOf24 ?_)
  refine (encode_Q t w4 hokt4 TV hTV.out zs hen.out es hco.out).mono ?_
  rintro e w5 ⟨A5, c5, rfl, hown5, hB5⟩
  have hs5 := hs4.step hB5
  have hrt5 := hrt.step hB5
  have hokt5 := hokt4.step hB5
  have hW5 := bthen hW4 hB5
  have hb5 := hown5.bytes
  clear hs4 hrt hokt4 hW4 hB5 hown5
  go_wp2_with (refine wpList_load_part 27 rfl 24 (.tmp 2) rfl hs5 0 4 SV rfl rfl HST.out HS4.out Try.isAgg24 Try.sizeOf24 ?_)
  refine (rencode_Q s w5 hmany.out (hs0.out w5 hW5) SV HSV.out zs hzs.out es hes.out).mono ?_
  rintro e w6 ⟨A6, c6, rfl, hown6, hB6⟩
  have hs6 := hs5.step hB6
  have hrt6 := hrt5.step hB6
  have hokt6 := Lib.hid (hokt5.step hB6)
  have hW6 := bthen hW5 hB6
  have hb6 := hb5.step hB6
  have hc6 := hown6.bytes
  clear hs5 hrt5 hokt5 hW5 hB6 hown6 hb5
  go_upto_region 6 with fail
  have d0 : Since w6 w6.drew := (Since.refl _).drew
  have hgt := Lib.hid (fun W (d : Since w6 W) => good_Q t W (hokt6.out.step d) TV hTV.out g hgo.out)
  have hgs := Lib.hid (fun W (d : Since w6 W) => rgood_L s W hmany.out (hs0.out W (bthen hW6 d)) SV HSV g hg.out)
  have hby := Lib.hid (fun W (d : Since w6 W) => bytes_calls A5 A6 c5 c6 zs zs W _ _ (hb6.step d) (hc6.step d))
  have hst := Lib.hid (fun W (d : Since w6 W) => streams_Q t s W (hokt6.out.step d) (hs0.out W (bthen hW6 d)) TV SV hTV.out HSV.out hsm.out)
  have hrz := Lib.hid (fun W (d : Since w6 W) => rzero_calls A cap _ bs rfl (by omega) W _ (hb.step (bthen hW6 d)))
  rw [beq_self_eq_true] at hby
  have hbm := Lib.hid (fun W (d : Since w6 W) => hb.step (bthen hW6 d))
  refine wp_region_H (Since w6) 33 rfl (by kernel_rfl) ?_
  -- <held6
  refine wh_take 0 (.agg TV.toArray) rfl (by kernel_rfl) (by kernel_rfl) (fun _ _ _ h => h) (by kernel_rfl) (fun W h => exec_load_part 24 (.tmp 5) rfl (hrt6.step h) 0 4 TV (by kernel_rfl) HTT.out HT4.out Try.isAgg24 Try.sizeOf24) ?_
  refine wh_take 2 (.agg SV.toArray) rfl (by kernel_rfl) (by kernel_rfl) (fun _ _ _ h => h) (by kernel_rfl) (fun W h => exec_load_part 24 (.tmp 2) rfl (hs6.step h) 0 4 SV (by kernel_rfl) HST.out HS4.out Try.isAgg24 Try.sizeOf24) ?_
  refine wh_call 1 16 #[.agg TV.toArray] rfl (by kernel_rfl) (by kernel_rfl) d0 (fun _ => by kernel_rfl) ?_
  refine (hgt.out _ d0).mono ?_
  rintro e W1 ⟨rfl, hb1⟩
  have d1 := d0.then_ hb1
  refine ⟨_, rfl, ?_⟩
  refine wh_call 3 17 #[.agg SV.toArray] rfl (by kernel_rfl) (by kernel_rfl) d1 (fun _ => by kernel_rfl) ?_
  refine (hgs.out _ d1).mono ?_
  rintro e W2 ⟨rfl, hb2⟩
  have d2 := d1.then_ hb2
  refine ⟨_, rfl, ?_⟩
  refine wh_take 4 (.bool true) rfl (by kernel_rfl) (by kernel_rfl) (fun _ _ _ h => h) (by kernel_rfl) (fun _ _ => exec_eqb (.tmp 32) (.tmp 34) rfl g (by kernel_rfl) (by kernel_rfl)) ?_
  refine wh_take 5 (.bool true) rfl (by kernel_rfl) (by kernel_rfl) (fun _ _ _ h => h) (by kernel_rfl) (fun _ _ => by kernel_rfl) ?_
  refine wh_take 6 (.slice A5 zs.length c5) rfl (by kernel_rfl) (by kernel_rfl) (fun _ _ _ h => h) (by kernel_rfl) (fun _ _ => by kernel_rfl) ?_
  refine wh_take 7 (.slice A6 zs.length c6) rfl (by kernel_rfl) (by kernel_rfl) (fun _ _ _ h => h) (by kernel_rfl) (fun _ _ => by kernel_rfl) ?_
  refine wh_call 8 18 #[.slice A5 zs.length c5, .slice A6 zs.length c6] rfl (by kernel_rfl) (by kernel_rfl) d2 (fun _ => by kernel_rfl) ?_
  refine (hby.out _ d2).mono ?_
  rintro e W3 ⟨rfl, rfl⟩
  refine ⟨_, rfl, ?_⟩
  refine wh_take 9 (.bool true) rfl (by kernel_rfl) (by kernel_rfl) (fun _ _ _ h => h) (by kernel_rfl) (fun _ _ => by kernel_rfl) ?_
  refine wh_take 10 (.bool true) rfl (by kernel_rfl) (by kernel_rfl) (fun _ _ _ h => h) (by kernel_rfl) (fun _ _ => by kernel_rfl) ?_
  refine wh_take 11 (.int .i64 es) rfl (by kernel_rfl) (by kernel_rfl) (fun _ _ _ h => h) (by kernel_rfl) (fun _ _ => by kernel_rfl) ?_
  refine wh_take 12 (.int .i64 es) rfl (by kernel_rfl) (by kernel_rfl) (fun _ _ _ h => h) (by kernel_rfl) (fun _ _ => by kernel_rfl) ?_
  refine wh_take 13 (.bool true) rfl (by kernel_rfl) (by kernel_rfl) (fun _ _ _ h => h) (by kernel_rfl) (fun _ _ => exec_eql_int 3 3 (.tmp 42) (.tmp 43) rfl es es (by kernel_rfl) (by kernel_rfl) true (beq_self_eq_true es)) ?_
  refine wh_take 14 (.bool true) rfl (by kernel_rfl) (by kernel_rfl) (fun _ _ _ h => h) (by kernel_rfl) (fun _ _ => by kernel_rfl) ?_
  refine wh_take 15 (.bool true) rfl (by kernel_rfl) (by kernel_rfl) (fun _ _ _ h => h) (by kernel_rfl) (fun _ _ => by kernel_rfl) ?_
  refine wh_take 17 (.slice A bs.length cap) rfl (by kernel_rfl) (by kernel_rfl) (fun _ _ _ h => h) (by kernel_rfl) (fun _ _ => by kernel_rfl) ?_
  refine wh_take 20 (.slice A bs.length cap) rfl (by kernel_rfl) (by kernel_rfl) (fun _ _ _ h => h) (by kernel_rfl) (fun _ _ => by kernel_rfl) ?_
  refine wh_run 16 (v := .slice (some ⟨W2.heap.size, 0, none⟩) 0 0) (w' := W2.alloc (.cells #[] 5)) rfl (by kernel_rfl) (by kernel_rfl) d2 (by kernel_rfl) ?_
  have d3 := d2.then_ (alloc_below W2 (.cells #[] 5))
  have om := OwnB.made W2 w6.heap.size 5 d2.size
  obtain ⟨yx, Qx, rx, W4, hyx, hw4, oa, hg4⟩ := q_app _ w6.heap.size d3.size om cap 0 _ rfl rfl (hbm.out _ d3) (by omega)
  have d4 : Since w6 W4 := grown_b d3 (Nat.le_refl _) om hg4
  have hyb := Lib.hid (show zeroB yx = zeroB bs by rw [hyx.out, List.nil_append])
  have hyl := Lib.hid (show yx.length ≤ maxLen by rw [hyx.out, List.nil_append]; unfold maxLen; omega)
  refine wh_run 18 (v := .slice Qx yx.length rx) (w' := W4) rfl (by kernel_rfl) (by kernel_rfl) d3 (hw4 _ _ (.tmp 47) (.tmp 48) rfl rfl (by kernel_rfl) (by kernel_rfl)) ?_
  refine wh_call 19 19 #[.slice Qx yx.length rx] rfl (by kernel_rfl) (by kernel_rfl) d4 (fun _ => by kernel_rfl) ?_
  refine (zero_calls Qx rx _ yx rfl hyl.out _ _ oa.bytes).mono ?_
  rintro e W5 ⟨rfl, rfl⟩
  rw [hyb.out]
  refine ⟨_, rfl, ?_⟩
  refine wh_call 21 20 #[.slice A bs.length cap] rfl (by kernel_rfl) (by kernel_rfl) d4 (fun _ => by kernel_rfl) ?_
  refine (hrz.out _ d4).mono ?_
  rintro e W5 ⟨rfl, rfl⟩
  refine ⟨_, rfl, ?_⟩
  refine wh_take 22 (.bool true) rfl (by kernel_rfl) (by kernel_rfl) (fun _ _ _ h => h) (by kernel_rfl) (fun _ _ => exec_eqb (.tmp 50) (.tmp 52) rfl (zeroB bs) (by kernel_rfl) (by kernel_rfl)) ?_
  refine wh_take 23 (.bool true) rfl (by kernel_rfl) (by kernel_rfl) (fun _ _ _ h => h) (by kernel_rfl) (fun _ _ => by kernel_rfl) ?_
  refine wh_take 24 (.bool true) rfl (by kernel_rfl) (by kernel_rfl) (fun _ _ _ h => h) (by kernel_rfl) (fun _ _ => by kernel_rfl) ?_
  refine wh_take 25 (.agg TV.toArray) rfl (by kernel_rfl) (by kernel_rfl) (fun _ _ _ h => h) (by kernel_rfl) (fun W h => exec_load_part 24 (.tmp 5) rfl (hrt6.step h) 0 4 TV (by kernel_rfl) HTT.out HT4.out Try.isAgg24 Try.sizeOf24) ?_
  refine wh_take 26 (.agg SV.toArray) rfl (by kernel_rfl) (by kernel_rfl) (fun _ _ _ h => h) (by kernel_rfl) (fun W h => exec_load_part 24 (.tmp 2) rfl (hs6.step h) 0 4 SV (by kernel_rfl) HST.out HS4.out Try.isAgg24 Try.sizeOf24) ?_
  refine wh_call 27 21 #[.agg TV.toArray, .agg SV.toArray] rfl (by kernel_rfl) (by kernel_rfl) d4 (fun _ => by kernel_rfl) ?_
  refine (hst.out _ d4).mono ?_
  rintro e W5 ⟨rfl, hb5⟩
  have d5 := d4.then_ hb5
  refine ⟨_, rfl, ?_⟩
  refine wh_take 28 (.bool true) rfl (by kernel_rfl) (by kernel_rfl) (fun _ _ _ h => h) (by kernel_rfl) (fun _ _ => by kernel_rfl) ?_
  refine wh_take 29 (.bool true) rfl (by kernel_rfl) (by kernel_rfl) (fun _ _ _ h => h) (by kernel_rfl) (fun _ _ => by kernel_rfl) ?_
  refine wh_call 30 12 #[] rfl (by kernel_rfl) (by kernel_rfl) d5 (fun _ => by kernel_rfl) ?_
  refine (wakes16_calls _).mono ?_
  rintro e W6 ⟨rfl, hb6⟩
  have d6 := d5.then_ hb6
  refine ⟨_, rfl, ?_⟩
  refine wh_take 31 (.bool true) rfl (by kernel_rfl) (by kernel_rfl) (fun _ _ _ h => h) (by kernel_rfl) (fun _ _ => by kernel_rfl) ?_
  refine wh_take 32 (.bool true) rfl (by kernel_rfl) (by kernel_rfl) (fun _ _ _ h => h) (by kernel_rfl) (fun _ _ => by kernel_rfl) ?_
  refine wh_done (by kernel_rfl) d6 ?_
  simp only [Act.put, List.setIfInBounds_toArray, List.set_cons_zero, List.set_cons_succ]
  go_wp2_with fail
  go_ret
  exact ⟨rfl, bthen hW6 d6⟩
  -- held6>
end Go.Proofs.Ytdglkjpdhnnpnaa
