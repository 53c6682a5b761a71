/-
  The reference's sealed and Encode.
-/
import Derived.Test.YtdglkjpdhnnpnaaStrRGood
import Derived.Test.YtdglkjpdhnnpnaaParBack
namespace Go.Proofs.Ytdglkjpdhnnpnaa
open Go Go.RowKit Go.Shelf

theorem u_of {x : Int} (h1 : 0 ≤ x) (h2 : x ≤ 18446744073709551615) : x = ((u x).toNat : Int) := by
  unfold u
  rw [UInt64.toNat_ofNat']
  omega
theorem q_put (z : Int) (n : UInt64) (k : Nat) (hz : z = (n.toNat : Int)) (h1 : 1 ≤ k) (h2 : k ≤ 16) (w : World) :
    Calls Try.prog 27 #[.int .u64 z, .int .i64 (k : Int)] w fun e w' => (∃ A c, e = .returned (.slice A k c) ∧ OwnB w' w.heap.size 5 A c (bytesN n k)) ∧ Below w.heap.size w w' := by
  subst hz
  refine (rput_some n k h1 h2 w).mono ?_
  rintro e w' ⟨⟨A, c, rfl, hown⟩, hB⟩
  exact ⟨⟨A, c, by rw [bytesN_length], hown⟩, hB⟩
theorem q_app (w : World) (base : Nat) (hbase : base ≤ w.heap.size) {A : Option Addr} {c : Nat} {xs : List UInt8} (hown : OwnB w base 5 A c xs) {B : Nat} {A2 : Option Addr} {ys : List UInt8} (c2 n n2 : Nat) (hn : xs.length = n) (hn2 : ys.length = n2) (hy : BytesAt w B A2 ys) (hlen : n + n2 ≤ 140737488355328) :
    ∃ (zs : List UInt8) (A' : Option Addr) (c' : Nat) (w' : World), Hid (zs = xs ++ ys) ∧ (∀ (o : Oper) (a : Act) (s x : Operand), o.op = .call { callee := .builtin .append, args := #[s, x], argTypes := #[25, 25] } → o.type = 25 → a.eval s = .slice A n c → a.eval x = .slice A2 n2 c2 →
      (execOp a.eval o).run Try.prog w = .ok (.value (.slice A' zs.length c')) w') ∧ OwnB w' base 5 A' c' zs ∧ w.grownBy w' (A.map (·.block)) := by
  subst hn hn2
  obtain ⟨zs, A', c', w', hz, hr, h2, h3, _⟩ := run_append_bytes (P := Try.prog) w base 25 25 5 Try.underlying25 Try.info_byte A c xs hown B A2 c2 ys hy hlen hbase
  refine ⟨zs, A', c', w', hz, ?_, h2, h3⟩
  intro o a s x ho hty hs hx
  simp only [execOp, ho, resolve, invoke, builtin, Sem.run_bind, Sem.run_pure, Result.andThen_ok, List.map_toArray, List.map_cons, List.map_nil, hs, hx, hty, hr]
theorem q_lit (w : World) (base : Nat) (hb : base ≤ w.heap.size) (bs : List UInt8) (cs : Array Value) (hcs : cs = (bs.map B8).toArray) (hl : bs.length ≤ 1000) : OwnB (w.alloc (.cells cs 5)) base 5 (some ⟨w.heap.size, 0, none⟩) bs.length bs := by
  subst hcs
  exact ⟨by simp, .inr ⟨w.heap.size, bs.length, (bs.map B8).toArray, rfl, hb, heap_alloc_new w _, Nat.le_refl _, by simp [maxLen]; omega, by simp, by rw [Nat.mul_one]; exact List.take_of_length_le (by simp)⟩⟩
/-- A row of one byte is owned. -/
theorem own_row1 {w : World} {base g : Nat} {x : UInt8} (h : RowAt w g 5 [B8 x]) (hb : base ≤ g) : OwnB w base 5 (some ⟨g, 0, none⟩) 1 [x] :=
  ⟨by simp, .inr ⟨g, 1, #[B8 x], rfl, hb, h, Nat.le_refl _, by simp [maxLen], by simp, by simp⟩⟩
theorem apart_own {w w' : World} {base : Nat} {A : Option Addr} {c : Nat} {xs : List UInt8} {row : Option Nat} (h : OwnB w base 5 A c xs) (hg : w.grownBy w' row) (hne : ∀ k, row = some k → k < base) : OwnB w' base 5 A c xs := by
  refine h.kept hg ?_
  cases hk : A.map (·.block) with
  | none => exact .inl rfl
  | some k =>
    refine .inr fun e => ?_
    have h1 := hne k e.symm
    have h2 := (h.lt k hk).1
    omega
theorem grown_b {base : Nat} {w0 w w' : World} (h : Below base w0 w) (hb : base ≤ w0.heap.size) {A : Option Addr} {c : Nat} {xs : List UInt8} (hown : OwnB w base 5 A c xs) (hg : w.grownBy w' (A.map (·.block))) : Below base w0 w' :=
  h.grown hg (Nat.le_trans hb h.size) (fun k e => (hown.lt k e).1)

set_option maxHeartbeats 4000000 in
theorem sealed16_calls (w : World) (base : Nat) (hbase : base ≤ w.heap.size) (A : Option Addr) (c n : Nat) (bs : List UInt8) (hn : bs.length = n) (hl : n ≤ 1000000) (hown : OwnB w base 5 A c bs) :
    Calls Try.prog 33 #[.slice A n c] w fun e w' => ∃ zs A' c', e = .returned (.slice A' zs.length c') ∧ Hid (zs = sealB bs) ∧ OwnB w' base 5 A' c' zs ∧ Below base w w' := by
  subst hn
  have hby := hown.bytes
  go_enter Try.func33, Try.ntmps33
  go_wp2_with fail
  refine (rcheck_calls A c bs (by omega) w _ hby).mono ?_
  rintro e w' ⟨rfl, rfl⟩
  go_wp2_with fail
  refine (q_put _ (check bs) 8 rfl (by omega) (by omega) w).mono ?_
  rintro e w1 ⟨⟨A1, c1, rfl, hp⟩, hB1⟩
  have hown1 := hown.below hB1 (Nat.le_refl _)
  have hb1 : Below base w w1 := hB1.mono hbase
  go_wp2_with (at_builtin; refine wpList_app_b (Nat.le_trans hbase hB1.size) rfl _ _ 25 rfl Try.underlying25 Try.info_byte bs.length rfl hown1 c1 8 (bytesN_length _ _) hp.bytes (by rfl) (by rfl) (by omega) ?_; intro zs A2 c2 w2 hz hown2 hg2 _)
  go_ret
  exact ⟨zs, A2, c2, rfl, hz, hown2, grown_b hb1 hbase hown1 hg2⟩

/-- The bytes of the first records. -/
def upE (s : Str) (k : Nat) : List UInt8 := headE s ++ ((s.recs.take k).map recE).flatten
theorem upE_zero (s : Str) : upE s 0 = headE s := by simp [upE]
theorem upE_all (s : Str) : upE s s.recs.length = bodyE s := by simp [upE, bodyE]
theorem upE_succ {s : Str} {k : Nat} (hk : k < s.recs.length) : upE s (k + 1) = upE s k ++ recE s.recs[k] := by
  unfold upE
  rw [List.take_succ_eq_append_getElem hk, List.map_append, List.flatten_append, List.map_cons, List.map_nil, List.flatten_cons, List.flatten_nil, List.append_nil, List.append_assoc]
theorem upE_len {s : Str} (hg : goodB s = true) (k : Nat) : (upE s k).length ≤ 300000 := by
  have h1 := good_many hg
  have h2 := flat_most 4109 ((s.recs.take k).map recE) (fun x hx => by
    obtain ⟨r, hr, rfl⟩ := List.mem_map.1 hx
    have := (good_data hg r (List.mem_of_mem_take hr)).1
    rw [recE_length]
    omega)
  rw [List.length_map, List.length_take] at h2
  unfold upE
  rw [List.length_append, headE_length]
  omega

theorem rgood_L (s : Str) (w : World) (hmany : s.recs.length ≤ 100000) (hok : s.Ok w w.heap.size) (S : List Value) (hS : Hid (S = s.val)) (b : Bool) (hb : goodB s = b) :
    Calls Try.prog 17 #[.agg S.toArray] w fun e w' => e = .returned (.bool b) ∧ Below w.heap.size w w' := by
  rw [hS.out, ← hb]
  exact rgood_calls s w hmany hok
def headL0 (s : Str) : List UInt8 := [0x52, 0x56, 0x53, 0x31] ++ bytesN (u s.blocks) 2 ++ bytesN (u (s.base + 1)) 4
/-- What Encode leaves. -/
def encQ (s : Str) (w : World) (e : Ending) (w' : World) : Prop := ∃ zs A c, e = .returned (.tuple #[.slice A zs.length c, .int .i64 (codeE s)]) ∧ Hid (zs = encR s) ∧ OwnB w' w.heap.size 5 A c zs ∧ Below w.heap.size w w'

set_option maxRecDepth 100000 in
set_option maxHeartbeats 8000000 in
theorem rencode16_calls (s : Str) (w : World) (hmany : s.recs.length ≤ 100000) (hok : s.Ok w w.heap.size) :
    Calls Try.prog 15 #[.agg s.val.toArray] w (encQ s w) := by
  obtain ⟨SV, hSV⟩ : ∃ SV, SV = s.val := ⟨_, rfl⟩
  have HS4 := Lib.hid (show SV.length = 4 by rw [hSV]; rfl)
  have HST := Lib.hid (show (SV.drop 0).take 4 = SV from List.take_of_length_le (Nat.le_of_eq HS4.out))
  have HSV := Lib.hid hSV
  rw [← hSV]
  clear hSV
  go_enter Try.func15, Try.ntmps15
  cases hg : goodB s
  · have hcl := Lib.hid (fun W (hB : Below w.heap.size w W) => rgood_L s W hmany (hok.step hB) SV HSV false hg)
    have hc := Lib.hid (show codeE s = 11 by unfold codeE; rw [hg]; rfl)
    have hr := Lib.hid (show encR s = [] by unfold encR; rw [hg]; rfl)
    clear hg hok
    go_wp2_with (first
      | (refine wpList_box_row 1 rfl 24 _ rfl SV rfl rfl ?_; intro w1 hrs hz1 hB1; clear hz1)
      | (refine wpList_load_part 9 rfl 24 (.tmp 1) rfl hrs 0 4 SV rfl rfl HST.out HS4.out Try.isAgg24 Try.sizeOf24 ?_))
    refine (hcl.out w1 hB1).mono ?_
    rintro e w2 ⟨rfl, hB2⟩
    go_wp2_with fail
    go_ret2
    exact ⟨[], none, 0, by rw [hc.out]; rfl, Lib.hid hr.out.symm, OwnB.nil _ _ _, bthen hB1 hB2⟩
  have hcl := Lib.hid (fun W (hB : Below w.heap.size w W) => rgood_L s W hmany (hok.step hB) SV HSV true hg)
  have hc := Lib.hid (show codeE s = 0 by unfold codeE; rw [hg]; rfl)
  have hr := Lib.hid (show encR s = encE s by unfold encR; rw [hg]; rfl)
  obtain ⟨b1, b2, i1, i2, a9⟩ := good_head hg
  have hmany2 := good_many hg
  have hdat := Lib.hid (fun r hr => good_data hg r hr)
  have hup := Lib.hid (fun k => upE_len hg k)
  have hrecs := Lib.hid hok.recs
  have ha1 : -1 ≤ s.base := by omega
  have ha2 : s.base ≤ 1000000 := by omega
  clear hg hok hmany a9
  go_wp2_with (first
    | (refine wpList_box_row 1 rfl 24 _ rfl SV rfl rfl ?_; intro w1 hrs hz1 hB1)
    | (refine wpList_load_part 9 rfl 24 (.tmp 1) rfl hrs 0 4 SV rfl rfl HST.out HS4.out Try.isAgg24 Try.sizeOf24 ?_))
  refine (hcl.out w1 hB1).mono ?_
  rintro e w2 ⟨rfl, hB2⟩
  have hlt0 : w.heap.size < w2.heap.size := by have := hB2.size; omega
  have hrs2 := hrs.step hB2
  have hW2 := bthen hB1 hB2
  clear hz1 hrs hB1 hB2 hcl
  have hrl := hrs2.step (alloc_below w2 (.cells #[.int .u8 82, .int .u8 86, .int .u8 83, .int .u8 49] 5))
  have k0 := hrl.cellD 0 (.int .i64 s.blocks) (by rw [HSV.out]; rfl)
  have hown2 := q_lit w2 w2.heap.size (Nat.le_refl _) [0x52, 0x56, 0x53, 0x31] #[.int .u8 82, .int .u8 86, .int .u8 83, .int .u8 49] rfl (by decide)
  have hBl := alloc_below w2 (.cells #[.int .u8 82, .int .u8 86, .int .u8 83, .int .u8 49] 5)
  go_wp2_with fail
  refine (q_put _ (u s.blocks) 2 (u_of (by omega) (by omega)) (by omega) (by omega) _).mono ?_
  rintro e w3 ⟨⟨A3, c3, rfl, hp3⟩, hB3⟩
  have hown3 := hown2.below hB3 (Nat.le_refl _)
  have hBl3 := hBl.trans (hB3.mono hBl.size)
  clear hown2 hBl hrl hB3 k0
  go_wp2_with (at_builtin; refine wpList_app_b hBl3.size rfl _ _ 25 rfl Try.underlying25 Try.info_byte 4 (by rfl) hown3 c3 2 (bytesN_length _ _) hp3.bytes (by rfl) (by rfl) (by omega) ?_; intro z4 A4 c4 w4 hz4 hown4 hg4 _)
  have hB4 := grown_b hBl3 (Nat.le_refl _) hown3 hg4
  have hl4 : z4.length = 6 := by rw [hz4.out, List.length_append, bytesN_length]; rfl
  clear hg4 hBl3 hown3 hp3
  go_upto_region 4 with fail
  have d4 : Since w2 w4.drew := hB4.trans ((Since.refl w4).drew.mono hB4.size)
  have o4 := hown4.below (Since.refl w4).drew (Nat.le_refl _)
  clear hB4 hown4
  refine wp_region_H (Since w2) 13 rfl (by kernel_rfl) ?_
  -- <held4
  refine wh_take 0 (.slice A4 z4.length c4) rfl (by kernel_rfl) (by kernel_rfl) (fun _ _ _ h => h) (by kernel_rfl) (fun _ _ => by kernel_rfl) ?_
  refine wh_take 1 (.pointer (some ⟨w.heap.size, 1, none⟩)) rfl (by kernel_rfl) (by kernel_rfl) (fun _ _ _ h => h) (by kernel_rfl) (fun _ _ => by kernel_rfl) ?_
  refine wh_take 2 (.int .i64 (s.base)) rfl (by kernel_rfl) (by kernel_rfl) (fun _ _ _ h => h) (by kernel_rfl) (fun W h => exec_load_cell 3 (.tmp 19) rfl ⟨w.heap.size, 1, none⟩ _ (by kernel_rfl) ((hrs2.step h).cellD 1 _ (by rw [HSV.out]; rfl)) Try.isAgg3) ?_
  refine wh_take 3 (.int .i64 (s.base + 1)) rfl (by kernel_rfl) (by kernel_rfl) (fun _ _ _ h => h) (by kernel_rfl) (fun _ _ => exec_add1 3 3 (.tmp 20) rfl s.base (by kernel_rfl) (by omega) (by omega)) ?_
  refine wh_take 4 (.int .u64 (IntKind.u64.wrap (s.base + 1))) rfl (by kernel_rfl) (by kernel_rfl) (fun _ _ _ h => h) (by kernel_rfl) (fun _ _ => by kernel_rfl) ?_
  refine wh_take 7 (.pointer (some ⟨w.heap.size, 2, none⟩)) rfl (by kernel_rfl) (by kernel_rfl) (fun _ _ _ h => h) (by kernel_rfl) (fun _ _ => by kernel_rfl) ?_
  refine wh_take 8 (.int .i64 (s.id)) rfl (by kernel_rfl) (by kernel_rfl) (fun _ _ _ h => h) (by kernel_rfl) (fun W h => exec_load_cell 3 (.tmp 25) rfl ⟨w.heap.size, 2, none⟩ _ (by kernel_rfl) ((hrs2.step h).cellD 2 _ (by rw [HSV.out]; rfl)) Try.isAgg3) ?_
  refine wh_take 9 (.int .u64 (IntKind.u64.wrap (s.id))) rfl (by kernel_rfl) (by kernel_rfl) (fun _ _ _ h => h) (by kernel_rfl) (fun _ _ => by kernel_rfl) ?_
  refine wh_call 5 27 #[.int .u64 (IntKind.u64.wrap (s.base + 1)), .int .i64 4] rfl (by kernel_rfl) (by kernel_rfl) d4 (fun _ => by kernel_rfl) ?_
  refine (q_put _ (u (s.base + 1)) 4 (wrap_u (by omega) (by omega)) (by omega) (by omega) _).mono ?_
  rintro e W5 ⟨⟨Px, qx, rfl, hpx⟩, hb5⟩
  have s5 := d4.then_ hb5
  have o5 := o4.below hb5 (Nat.le_refl _)
  refine ⟨_, rfl, ?_⟩
  obtain ⟨yx, Qx, rx, W6, hyx, hw6, o6, hg6⟩ := q_app W5 w2.heap.size s5.size o5 qx _ 4 rfl (bytesN_length _ _) hpx.bytes (by omega)
  have s6 : Since w2 W6 := grown_b s5 (Nat.le_refl _) o5 hg6
  have hlx : yx.length = 10 := by rw [hyx.out, List.length_append, bytesN_length, hl4]
  refine wh_run 6 (v := .slice Qx yx.length rx) (w' := W6) rfl (by kernel_rfl) (by kernel_rfl) s5 (hw6 _ _ (.tmp 18) (.tmp 23) rfl rfl (by kernel_rfl) (by kernel_rfl)) ?_
  refine wh_call 10 27 #[.int .u64 (IntKind.u64.wrap (s.id)), .int .i64 4] rfl (by kernel_rfl) (by kernel_rfl) s6 (fun _ => by kernel_rfl) ?_
  refine (q_put _ (u (s.id)) 4 (wrap_u (by omega) (by omega)) (by omega) (by omega) _).mono ?_
  rintro e W7 ⟨⟨Py, qy, rfl, hpy⟩, hb7⟩
  have s7 := s6.then_ hb7
  have o7 := o6.below hb7 (Nat.le_refl _)
  refine ⟨_, rfl, ?_⟩
  obtain ⟨yy, Qy, ry, W8, hyy, hw8, o8, hg8⟩ := q_app W7 w2.heap.size s7.size o7 qy _ 4 rfl (bytesN_length _ _) hpy.bytes (by omega)
  have s8 : Since w2 W8 := grown_b s7 (Nat.le_refl _) o7 hg8
  have hly : yy.length = 14 := by rw [hyy.out, List.length_append, bytesN_length, hlx]
  refine wh_run 11 (v := .slice Qy yy.length ry) (w' := W8) rfl (by kernel_rfl) (by kernel_rfl) s7 (hw8 _ _ (.tmp 24) (.tmp 28) rfl rfl (by kernel_rfl) (by kernel_rfl)) ?_
  refine wh_take 12 (.slice Qy yy.length ry) rfl (by kernel_rfl) (by kernel_rfl) (fun _ _ _ h => h) (by kernel_rfl) (fun _ _ => by kernel_rfl) ?_
  refine wh_done (by kernel_rfl) s8 ?_
  simp only [Act.put, List.setIfInBounds_toArray, List.set_cons_zero, List.set_cons_succ]
  -- held4>
  replace hly := Lib.hid hly
  clear s5 s7 o5 o7 hg6 hg8 hb5 hb7 hw6 hw8 d4 o4
  have hyy' : yy = headL0 s ++ bytesN (u s.id) 4 := by
    rw [hyy.out, hyx.out, hz4.out]
    unfold headL0
    simp only [List.append_assoc]
  have hmz := Lib.hid (show (s.recs.length : Int) = ((u (s.recs.length : Nat)).toNat : Int) from u_of (by omega) (by omega))
  have hrs8 := hrs2.step s8
  have k3 := hrs8.cellD 3 (.slice s.A s.recs.length s.cap) (by rw [HSV.out]; rfl)
  replace hyy' := Lib.hid hyy'
  clear hyx hyy hz4 hl4 hlx
  go_wp2_with fail
  refine (q_put _ (u (s.recs.length : Nat)) 2 hmz.out (by omega) (by omega) _).mono ?_
  rintro e w9 ⟨⟨A9, c9, rfl, hp9⟩, hB9⟩
  have s9 := s8.then_ hB9
  have o9 := o8.below hB9 (Nat.le_refl _)
  clear hB9 s8 o8 hrs8 k3
  go_wp2_with (at_builtin; refine wpList_app_b s9.size rfl _ _ 25 rfl Try.underlying25 Try.info_byte _ rfl o9 c9 2 (bytesN_length _ _) hp9.bytes (by rfl) (by rfl) (by rw [hly.out]; omega) ?_; intro z10 A10 c10 w10 hz10 o10 hg10 _)
  have s10 : Since w2 w10 := grown_b s9 (Nat.le_refl _) o9 hg10
  have hz10' : z10 = headL s := by
    rw [hz10.out, hyy'.out]
    unfold headL0 headL
    simp only [List.append_assoc]
  have hl10 : z10.length = 16 := by rw [hz10', headL_length]
  clear hg10 s9 o9 hp9 hz10 hyy'
  refine (sealed16_calls w10 w2.heap.size s10.size A10 c10 _ z10 rfl (by omega) o10).mono ?_
  rintro e w11 ⟨z11, A11, c11, rfl, hz11, o11, hB11⟩
  have s11 : Since w2 w11 := s10.trans hB11
  have hz11' := Lib.hid (show z11 = upE s 0 by rw [hz11.out, hz10', upE_zero]; rfl)
  clear hz11 hz10' hl10 s10 o10 hB11
  go_wp2_with fail
  go_loopw [4, 5] (fun v i wr => ∃ (k : Nat) (zs : List UInt8) (A : Option Addr) (c : Nat), k ≤ s.recs.length ∧ i = .int .i64 (k : Int) ∧ v = .slice A zs.length c ∧ Hid (zs = upE s k) ∧ OwnB wr w2.heap.size 5 A c zs ∧ Since w2 wr) (fun _ i _ => s.recs.length - (intOf i).toNat)
  case atStart => exact ⟨0, z11, A11, c11, Nat.zero_le _, rfl, rfl, hz11', o11, s11⟩
  clear o11 s11 hz11' hmz
  case round =>
  obtain ⟨k, zs, A, c, hk, rfl, rfl, hzs, hown, hS⟩ := hrel
  have hrsk := hrs2.step hS
  have a3 := hrsk.cellD 3 (.slice s.A s.recs.length s.cap) (by rw [HSV.out]; rfl)
  have hWk := bthen hW2 hS
  have hzl : zs.length ≤ 300000 := by rw [hzs.out]; exact hup.out k
  by_cases hlt : k < s.recs.length
  · obtain ⟨b, o, hA, hbl, hcs⟩ := hrecs.out.1.resolve_left (fun e => by rw [e] at hlt; simp at hlt)
    have hrok := hrecs.out.2 s.recs[k] (List.getElem_mem hlt)
    have hsucc := upE_succ hlt
    have hdx := hdat.out s.recs[k] (List.getElem_mem hlt)
    have HXc := Lib.hid (rec_cells hcs hbl k hlt hWk)
    have hup1 := hup.out (k + 1)
    obtain ⟨XV, hXV⟩ : ∃ XV, XV = s.recs[k].val := ⟨_, rfl⟩
    rw [← hXV] at HXc
    have hk0 : (0 : Int) ≤ (k : Int) := by omega
    have hk1 : (k : Int) < (s.recs.length : Int) := by omega
    have hd1 : decide ((k : Int) < (s.recs.length : Int)) = true := decide_eq_true hk1
    rw [hsucc] at hup1
    generalize s.recs[k] = x at hrok hsucc hdx hXV hup1
    rw [List.length_append, recE_length] at hup1
    obtain ⟨x1, x2, x3, x4, x5⟩ := hdx
    have HXV := Lib.hid hXV
    have HX4 := Lib.hid (show XV.length = 4 by rw [hXV]; rfl)
    have HXo := Lib.hid (show ∀ v ∈ XV, v.oneCell' = true by rw [hXV]; exact rec_one _)
    have hdat2 := hrok.bytes.step hWk
    have hdc := hrok.len
    have hdm := hrok.most
    unfold maxLen at hdm
    replace hsucc := Lib.hid hsucc
    clear hXV hrok hcs
    rw [hA] at a3
    clear hA
    go_upto_region 10 with (first
      | (refine wpList_load_cells 49 rfl 39 (.tmp 48) rfl ⟨b, o + k * 4, none⟩ XV rfl rfl HXc.out 4 HX4.out Try.isAgg39 Try.sizeOf39 ?_)
      | (refine wpList_alloc_row 6 rfl 39 rfl _ rfl zero_rec ?_; intro v3 hr3 hs3 hB3)
      | (refine wpList_store_part 39 (.tmp 6) (.tmp 49) rfl hr3 0 XV rfl rfl rfl (by rw [HX4.out]; exact Try.sizeOf39) (by rw [HX4.out]; decide) HXo.out ?_
         intro v4 hrx hs4 hg4
         rw [splice_all _ _ (by rw [HX4.out]; rfl)] at hrx))
    have hB4 : Below wr.heap.size wr v4 := hB3.grown hg4 hB3.size (fun j e => by cases e; exact Nat.le_refl _)
    obtain ⟨gx, hgx0⟩ : ∃ gx, gx = wr.heap.size := ⟨_, rfl⟩
    have hgx : gx < v4.heap.size := by rw [hgx0]; exact hrx.lt
    rw [← hgx0] at hrx ⊢
    have hown4 := hown.below hB4 (Nat.le_refl _)
    have hS4 := hS.then_ hB4
    have hda4 := hdat2.step hB4
    clear hs3 hs4 hr3 hg4 hB3 hB4 hown hS hdat2 a3 HXc hrsk hWk hgx0
    have hx5 := hrx.step (alloc_below v4 (.cells #[.int .u8 1] 5))
    have e2 := hx5.cellD 2 (.bool x.zs) (by rw [HXV.out]; rfl)
    have hlit := alloc_row v4 5 [B8 1]
    have hlb := alloc_below v4 (.cells #[.int .u8 1] 5)
    have hlit2 := alloc_row v4 5 [B8 2]
    have hlf := hlit.free 0
    have hlc := hlit.cellD 0 _ rfl
    have hlb2 := alloc_below v4 (.cells #[.int .u8 2] 5)
    go_upto_if 52 with fail
    go_cut [7] from 38 to 72 (fun v wx => v = .slice (some ⟨v4.heap.size, 0, none⟩) 1 1 ∧ OwnB wx v4.heap.size 5 (some ⟨v4.heap.size, 0, none⟩) 1 [kindOf x] ∧ Since v4 wx)
    case first =>
      cases hz : x.zs
      · rw [hz] at e2
        have hkd := Lib.hid (show kindOf x = 1 by unfold kindOf; rw [hz]; rfl)
        go_wp2_with fail
        go_meet
        case rel => exact ⟨rfl, by rw [hkd.out]; exact own_row1 hlit (Nat.le_refl _), hlb⟩
      · rw [hz] at e2
        have hkd := Lib.hid (show kindOf x = 2 by unfold kindOf; rw [hz]; rfl)
        go_wp2_with fail
        go_meet
        case rel => exact ⟨rfl, by rw [hkd.out]; exact own_row1 hlit2 (Nat.le_refl _), hlb2⟩
    case rest =>
    obtain ⟨rfl, o5, d5⟩ := hcut
    clear hx5 e2 hlit hlb hlit2 hlf hlc hlb2
    go_upto_region 13 with fail
    have d6 : Since v4 wc.drew := d5.drew
    have o6 := o5.below (Since.refl wc).drew (Nat.le_refl _)
    clear d5 o5
    have hK : [kindOf x].length = 1 := rfl
    refine wp_region_H (Since v4) 12 rfl (by kernel_rfl) ?_
    -- <held13
    refine wh_take 0 (.slice (some ⟨v4.heap.size, 0, none⟩) 1 1) rfl (by kernel_rfl) (by kernel_rfl) (fun _ _ _ h => h) (by kernel_rfl) (fun _ _ => by kernel_rfl) ?_
    refine wh_take 1 (.pointer (some ⟨gx, 0, none⟩)) rfl (by kernel_rfl) (by kernel_rfl) (fun _ _ _ h => h) (by kernel_rfl) (fun _ _ => by kernel_rfl) ?_
    refine wh_take 2 (.int .i64 (x.fr)) rfl (by kernel_rfl) (by kernel_rfl) (fun _ _ _ h => h) (by kernel_rfl) (fun W h => exec_load_cell 3 (.tmp 56) rfl ⟨gx, 0, none⟩ _ (by kernel_rfl) ((hrx.below h hgx).cellD 0 _ (by rw [HXV.out]; rfl)) Try.isAgg3) ?_
    refine wh_take 3 (.int .u64 (IntKind.u64.wrap (x.fr))) rfl (by kernel_rfl) (by kernel_rfl) (fun _ _ _ h => h) (by kernel_rfl) (fun _ _ => by kernel_rfl) ?_
    refine wh_take 6 (.pointer (some ⟨gx, 1, none⟩)) rfl (by kernel_rfl) (by kernel_rfl) (fun _ _ _ h => h) (by kernel_rfl) (fun _ _ => by kernel_rfl) ?_
    refine wh_take 7 (.int .i64 (x.ct)) rfl (by kernel_rfl) (by kernel_rfl) (fun _ _ _ h => h) (by kernel_rfl) (fun W h => exec_load_cell 3 (.tmp 61) rfl ⟨gx, 1, none⟩ _ (by kernel_rfl) ((hrx.below h hgx).cellD 1 _ (by rw [HXV.out]; rfl)) Try.isAgg3) ?_
    refine wh_take 8 (.int .u64 (IntKind.u64.wrap (x.ct))) rfl (by kernel_rfl) (by kernel_rfl) (fun _ _ _ h => h) (by kernel_rfl) (fun _ _ => by kernel_rfl) ?_
    refine wh_call 4 27 #[.int .u64 (IntKind.u64.wrap (x.fr)), .int .i64 2] rfl (by kernel_rfl) (by kernel_rfl) d6 (fun _ => by kernel_rfl) ?_
    refine (q_put _ (u (x.fr)) 2 (wrap_u (by omega) (by omega)) (by omega) (by omega) _).mono ?_
    rintro e W7 ⟨⟨Px, qx, rfl, hpx⟩, hb7⟩
    have s7 := d6.then_ hb7
    have o7 := o6.below hb7 (Nat.le_refl _)
    refine ⟨_, rfl, ?_⟩
    obtain ⟨yx, Qx, rx, W8, hyx, hw8, o8, hg8⟩ := q_app W7 v4.heap.size s7.size o7 qx _ 2 hK (bytesN_length _ _) hpx.bytes (by omega)
    have s8 : Since v4 W8 := grown_b s7 (Nat.le_refl _) o7 hg8
    have hlx : yx.length = 3 := by rw [hyx.out, List.length_append, bytesN_length, hK]
    refine wh_run 5 (v := .slice Qx yx.length rx) (w' := W8) rfl (by kernel_rfl) (by kernel_rfl) s7 (hw8 _ _ (.tmp 55) (.tmp 59) rfl rfl (by kernel_rfl) (by kernel_rfl)) ?_
    refine wh_call 9 27 #[.int .u64 (IntKind.u64.wrap (x.ct)), .int .i64 2] rfl (by kernel_rfl) (by kernel_rfl) s8 (fun _ => by kernel_rfl) ?_
    refine (q_put _ (u (x.ct)) 2 (wrap_u (by omega) (by omega)) (by omega) (by omega) _).mono ?_
    rintro e W9 ⟨⟨Py, qy, rfl, hpy⟩, hb9⟩
    have s9 := s8.then_ hb9
    have o9 := o8.below hb9 (Nat.le_refl _)
    refine ⟨_, rfl, ?_⟩
    obtain ⟨yy, Qy, ry, W10, hyy, hw10, o10, hg10⟩ := q_app W9 v4.heap.size s9.size o9 qy _ 2 rfl (bytesN_length _ _) hpy.bytes (by omega)
    have s10 : Since v4 W10 := grown_b s9 (Nat.le_refl _) o9 hg10
    have hly : yy.length = 5 := by rw [hyy.out, List.length_append, bytesN_length, hlx]
    refine wh_run 10 (v := .slice Qy yy.length ry) (w' := W10) rfl (by kernel_rfl) (by kernel_rfl) s9 (hw10 _ _ (.tmp 60) (.tmp 64) rfl rfl (by kernel_rfl) (by kernel_rfl)) ?_
    refine wh_take 11 (.slice Qy yy.length ry) rfl (by kernel_rfl) (by kernel_rfl) (fun _ _ _ h => h) (by kernel_rfl) (fun _ _ => by kernel_rfl) ?_
    refine wh_done (by kernel_rfl) s10 ?_
    simp only [Act.put, List.setIfInBounds_toArray, List.set_cons_zero, List.set_cons_succ]
    -- held13>
    replace hly := Lib.hid hly
    clear d6 o6 hg8 hg10 hb7 hb9 hw8 hw10 s7 s8 s9 o7 o8 o9
    have hyy' := Lib.hid (show yy = [kindOf x] ++ bytesN (u x.fr) 2 ++ bytesN (u x.ct) 2 by rw [hyy.out, hyx.out])
    have hrx8 := hrx.below s10 hgx
    have e3 := hrx8.cellD 3 (.slice x.A x.data.length x.cap) (by rw [HXV.out]; rfl)
    have hda8 := hda4.step s10
    clear hrx hda4 hrx8 hyx hyy hlx
    go_wp2_with (at_builtin; refine wpList_app_b s10.size rfl _ _ 25 rfl Try.underlying25 Try.info_byte _ rfl o10 x.cap _ rfl hda8 (by rfl) (by rfl) (by rw [hly.out]; omega) ?_; intro z11 A13 c13 w13 hz13 o13 hg13 _)
    have s13 : Since v4 w13 := grown_b s10 (Nat.le_refl _) o10 hg13
    have hz13' : z11 = recL x := by rw [hz13.out, hyy'.out]; unfold recL; simp only [List.append_assoc]
    have hl13 : z11.length = 5 + x.data.length := by rw [hz13', recL_length]
    have s14 : Since v4 w13 := s13
    clear hg13 s10 o10 hda8 hz13 e3 hyy'
    refine (sealed16_calls w13 v4.heap.size s14.size A13 c13 _ z11 rfl (by omega) o13).mono ?_
    rintro e w14 ⟨z14, A14, c14, rfl, hz14, o14, hB14⟩
    have s15 : Since v4 w14 := s14.trans hB14
    have hz14' := Lib.hid (show z14 = recE x by rw [hz14.out, hz13']; rfl)
    have hl14 : z14.length = 13 + x.data.length := by rw [hz14'.out, recE_length]
    have hown15 := hown4.below s15 (Nat.le_refl _)
    have hS15 := hS4.then_ s15
    have hby14 := o14.bytes
    have hz16 : zs ++ z14 = upE s (k + 1) := by rw [hzs.out, hz14'.out, hsucc.out]
    replace hz16 := Lib.hid hz16
    replace hl14 := Lib.hid hl14
    clear hown4 hS4 s14 s15 o14 hB14 hz14 hz13' hl13 o13 s13
    go_wp2_with (at_builtin; refine wpList_app_b hS15.size rfl _ _ 25 rfl Try.underlying25 Try.info_byte _ rfl hown15 c14 _ rfl hby14 (by rfl) (by rfl) (by rw [hl14.out]; omega) ?_; intro z17 A17 c17 w17 hz17 o17 hg17 _)
    have s17 : Since w2 w17 := grown_b hS15 (Nat.le_refl _) hown15 hg17
    clear hg17 hown15 hS15 hby14
    go_roundw
    case rel => exact ⟨k + 1, z17, A17, c17, by omega, by go_num, rfl, Lib.hid (hz17.out.trans hz16.out), o17, s17⟩
    case measure => simp [intOf]; omega
  · obtain rfl : k = s.recs.length := by omega
    have hd1 : decide ((s.recs.length : Int) < (s.recs.length : Int)) = false := decide_eq_false (by omega)
    have hz' := Lib.hid (show zs = bodyE s by rw [hzs.out, upE_all])
    have hby := hown.bytes
    clear hzs hrsk hup
    go_wp2_with fail
    clear a3
    refine (rcheck_calls A c zs (by omega) wr _ hby).mono ?_
    rintro e w5 ⟨rfl, rfl⟩
    go_wp2_with fail
    refine (q_put _ (check zs) 8 rfl (by omega) (by omega) wr).mono ?_
    rintro e w5 ⟨⟨A5, c5, rfl, hp5⟩, hB5⟩
    have hBl := balloc hB5 (.cells #[.int .u8 69] 5)
    have hown5 := hown.below hBl (Nat.le_refl _)
    have hS5 := hS.then_ hBl
    have hlit := lit_bytes w5 5 (0, 0) [69] #[.int .u8 69] rfl
    have hp5a : OwnB (w5.alloc (.cells #[.int .u8 69] 5)) wr.heap.size 5 A5 c5 (bytesN (check zs) 8) := World.ownsRow.alloc hp5 _
    have hlo := fun k e => (hown.lt k e).2
    clear hS hBl hown hby hp5
    go_wp2_with (first
      | (at_builtin
         refine wpList_app_b hS5.size rfl _ _ 25 rfl Try.underlying25 Try.info_byte _ rfl hown5 1 1 (by rfl) hlit (by rfl) (by rfl) (by omega) ?_
         intro z6 A6 c6 w6 hz6 o6 hg6 _
         have s6 : Since w2 w6 := grown_b hS5 (Nat.le_refl _) hown5 hg6
         have hl6 := Lib.hid (show z6.length = zs.length + 1 by rw [hz6.out, List.length_append]; rfl)
         have hp6 := (apart_own hp5a hg6 hlo).bytes)
      | (at_builtin
         refine wpList_app_b s6.size rfl _ _ 25 rfl Try.underlying25 Try.info_byte _ rfl o6 c5 8 (bytesN_length _ _) hp6 (by rfl) (by rfl) (by rw [hl6.out]; omega) ?_
         intro z7 A7 c7 w7 hz7 o7 hg7 _))
    have s7 : Since w2 w7 := grown_b s6 (Nat.le_refl _) o6 hg7
    go_ret2
    refine ⟨z7, A7, c7, by rw [hc.out]; rfl, Lib.hid ?_, o7.mono hW2.size, bthen hW2 s7⟩
    rw [hr.out, hz7.out, hz6.out, hz'.out]
    unfold encE
    simp only [List.append_assoc]
end Go.Proofs.Ytdglkjpdhnnpnaa
