/-
  parse's reader: at, checks, ends.
-/
import Derived.Test.YtdglkjpdhnnpnaaParMem
import Derived.Test.YtdglkjpdhnnpnaaHeld
namespace Go.Proofs.Ytdglkjpdhnnpnaa
open Go Go.RowKit Go.Shelf

theorem exec_sub_nat {P : Program} {w : World} {o : Oper} {a : Act} (t t' : TypeId) (x y : Operand) (ho : o.op = .binOp .sub t x y t') (m n : Nat) (hx : a.eval x = .int .i64 (m : Int)) (hy : a.eval y = .int .i64 (n : Int)) (h : n ≤ m) (hm : m ≤ 1000000) :
    (execOp a.eval o).run P w = .ok (.value (.int .i64 ((m - n : Nat) : Int))) w := by
  have h1 : IntKind.i64.wrap ((m : Int) - (n : Int)) = ((m - n : Nat) : Int) := by
    rw [IntKind.wrap_i64]
    omega
  simp only [execOp, ho, hx, hy]
  show Result.ok (Next.value (.int .i64 (IntKind.i64.wrap ((m : Int) - (n : Int))))) w = _
  rw [h1]
theorem u8s_elem : Try.prog.underlying 25 = some (.slice (Try.prog.elem 25)) := by kernel_rfl
theorem u8s_size (w : World) : (sizeOf (Try.prog.elem 25)).run Try.prog w = .ok 1 w := by kernel_rfl
theorem exec_slice_lh {w : World} {o : Oper} {a : Act} (x l h : Operand) (ho : o.op = .slice 25 x (some l) (some h) none) (A : Option Addr) (n c i j : Nat) (hx : a.eval x = .slice A n c) (hl : a.eval l = .int .i64 (i : Int)) (hh : a.eval h = .int .i64 (j : Int)) (h1 : i ≤ j) (h2 : j ≤ c) :
    (execOp a.eval o).run Try.prog w = .ok (.value (.slice (if c = i then A else A.map (·.add i)) (j - i) (c - i))) w := by
  have hr := run_slice_lh (P := Try.prog) w 25 A n c u8s_elem .i64 .i64 (i : Int) (j : Int) (by omega) (by omega) (by omega)
  rw [u8s_size] at hr
  simp [execOp, ho, hx, hl, hh, run_sliceAt_slice _ _ _ _ _ _ u8s_elem, hr, sliced]
theorem exec_slice_h {w : World} {o : Oper} {a : Act} (x h : Operand) (ho : o.op = .slice 25 x none (some h) none) (A : Option Addr) (n c j : Nat) (hx : a.eval x = .slice A n c) (hh : a.eval h = .int .i64 (j : Int)) (h2 : j ≤ c) :
    (execOp a.eval o).run Try.prog w = .ok (.value (.slice A j c)) w := by
  have hr := run_slice_h (P := Try.prog) w 25 A n c u8s_elem .i64 (j : Int) (by omega) (by omega)
  rw [u8s_size] at hr
  have e : ∀ x : Addr, x.add 0 = x := fun x => by
    obtain ⟨b, o, sp⟩ := x
    unfold Addr.add
    cases sp <;> simp
  cases A <;> simp [execOp, ho, hx, hh, run_sliceAt_slice _ _ _ _ _ _ u8s_elem, hr, sliced, e]

section
variable {base : Nat} {w : World} {gr R : Nat} {A : Option Addr} {cap : Nat} {whole rest : List UInt8} {s : Str}
theorem at_calls (h : PS base w gr R A cap whole rest s) :
    Calls Try.prog 61 #[.pointer (some ⟨gr, 0, none⟩)] w fun e w' => e = .returned (.int .i64 ((whole.length - rest.length : Nat) : Int)) ∧ Below w.heap.size w w' := by
  obtain ⟨c0, c1⟩ := h.cells
  have hrl := h.rl
  have hwl := h.wlen
  have d0 : Since w w.drew := (Since.refl w).drew
  have hrd : ReaderAt w.drew R rest := h.rd.at.below d0
  go_enter Try.func61, Try.ntmps61
  go_upto_region 1 with fail
  refine wp_region_H (Since w) 12 rfl (by kernel_rfl) ?_
  -- <held1
  refine wh_take 0 (.pointer (some ⟨gr, 0, none⟩)) rfl (by kernel_rfl) (by kernel_rfl) (fun _ _ _ h => h) (by kernel_rfl) (fun _ _ => by kernel_rfl) ?_
  refine wh_take 1 (.pointer (some ⟨gr, 0, none⟩)) rfl (by kernel_rfl) (by kernel_rfl) (fun _ _ _ h => h) (by kernel_rfl) (fun _ _ => by kernel_rfl) ?_
  refine wh_take 2 (.pointer (some ⟨gr, 1, none⟩)) rfl (by kernel_rfl) (by kernel_rfl) (fun _ _ _ h => h) (by kernel_rfl) (fun _ _ => by kernel_rfl) ?_
  refine wh_take 3 (.slice A whole.length cap) rfl (by kernel_rfl) (by kernel_rfl) (fun _ _ _ h => h) (by kernel_rfl) (fun W h => exec_load_cell 25 (.tmp 5) rfl ⟨gr, 1, none⟩ _ (by kernel_rfl) (h.cell c1) Try.isAgg25) ?_
  refine wh_take 4 (.int .i64 (whole.length : Nat)) rfl (by kernel_rfl) (by kernel_rfl) (fun _ _ _ h => h) (by kernel_rfl) (fun _ _ => by kernel_rfl) ?_
  refine wh_take 5 (.pointer (some ⟨gr, 0, none⟩)) rfl (by kernel_rfl) (by kernel_rfl) (fun _ _ _ h => h) (by kernel_rfl) (fun _ _ => by kernel_rfl) ?_
  refine wh_take 6 (.pointer (some ⟨gr, 0, none⟩)) rfl (by kernel_rfl) (by kernel_rfl) (fun _ _ _ h => h) (by kernel_rfl) (fun _ _ => by kernel_rfl) ?_
  refine wh_take 7 (.pointer (some ⟨gr, 0, none⟩)) rfl (by kernel_rfl) (by kernel_rfl) (fun _ _ _ h => h) (by kernel_rfl) (fun _ _ => by kernel_rfl) ?_
  refine wh_take 8 (.pointer (some ⟨R, 0, none⟩)) rfl (by kernel_rfl) (by kernel_rfl) (fun _ _ _ h => h) (by kernel_rfl) (fun W h => exec_load_cell 68 (.tmp 10) rfl ⟨gr, 0, none⟩ _ (by kernel_rfl) (h.cell c0) Try.isAgg68) ?_
  refine wh_call 9 58 #[.pointer (some ⟨R, 0, none⟩)] rfl (by kernel_rfl) (by kernel_rfl) d0 (fun _ => by kernel_rfl) ?_
  refine (left_calls R rest w.drew hrd).mono ?_
  rintro e x1 ⟨rfl, rfl⟩
  refine ⟨_, rfl, ?_⟩
  refine wh_take 10 (.int .i64 ((whole.length - rest.length : Nat) : Int)) rfl (by kernel_rfl) (by kernel_rfl) (fun _ _ _ h => h) (by kernel_rfl) (fun _ _ => exec_sub_nat 3 3 (.tmp 7) (.tmp 12) rfl whole.length rest.length (by kernel_rfl) (by kernel_rfl) hrl hwl) ?_
  refine wh_take 11 (.int .i64 ((whole.length - rest.length : Nat) : Int)) rfl (by kernel_rfl) (by kernel_rfl) (fun _ _ _ h => h) (by kernel_rfl) (fun _ _ => by kernel_rfl) ?_
  refine wh_done (by kernel_rfl) d0 ?_
  simp only [Act.put, List.setIfInBounds_toArray, List.set_cons_zero, List.set_cons_succ]
  -- held1>
  go_wp2_with fail
  go_ret
  exact ⟨rfl, d0⟩

theorem checks_calls (h : PS base w gr R A cap whole rest s) (fr : Nat) (hfr : fr ≤ whole.length - rest.length) (h8 : 8 ≤ rest.length) :
    Calls Try.prog 60 #[.pointer (some ⟨gr, 0, none⟩), .int .i64 (fr : Int)] w fun e w' => e = .returned (.int .i64 (if check ((whole.drop fr).take (whole.length - rest.length - fr)) = getN (rest.take 8) then 0 else 22)) ∧ PQ base gr R A cap whole (rest.drop 8) s w w' := by
  obtain ⟨c0, c1⟩ := h.cells
  have hrl := h.rl
  have hwl := h.wlen
  have hwc := h.wcap
  have hcp : whole.length - rest.length ≤ cap := by omega
  have d0 : Since w w.drew := (Since.refl w).drew
  obtain ⟨A2, hA2⟩ : ∃ A2, (if cap = fr then A else A.map (·.add fr)) = A2 := ⟨_, rfl⟩
  have hpb : BytesAt w w.heap.size A2 ((whole.drop fr).take (whole.length - rest.length - fr)) := by
    rw [← hA2]
    exact ((h.whl.more (by have := h.hR; have := h.rd.lt; omega)).drop hwc).take _
  have hpl : ((whole.drop fr).take (whole.length - rest.length - fr)).length = whole.length - rest.length - fr := by rw [List.length_take, List.length_drop]; omega
  have hpm : whole.length - rest.length - fr ≤ 140737488351232 := by omega
  obtain ⟨code, hcode⟩ : ∃ code : Int, code = if check ((whole.drop fr).take (whole.length - rest.length - fr)) = getN (rest.take 8) then 0 else 22 := ⟨_, rfl⟩
  rw [← hcode]
  generalize (whole.drop fr).take (whole.length - rest.length - fr) = pc at hpb hpl hcode
  go_enter Try.func60, Try.ntmps60
  go_upto_region 1 with fail
  refine wp_region_H (Since w) 10 rfl (by kernel_rfl) ?_
  -- <held2
  refine wh_take 0 (.pointer (some ⟨gr, 0, none⟩)) rfl (by kernel_rfl) (by kernel_rfl) (fun _ _ _ h => h) (by kernel_rfl) (fun _ _ => by kernel_rfl) ?_
  refine wh_take 1 (.pointer (some ⟨gr, 0, none⟩)) rfl (by kernel_rfl) (by kernel_rfl) (fun _ _ _ h => h) (by kernel_rfl) (fun _ _ => by kernel_rfl) ?_
  refine wh_take 2 (.pointer (some ⟨gr, 1, none⟩)) rfl (by kernel_rfl) (by kernel_rfl) (fun _ _ _ h => h) (by kernel_rfl) (fun _ _ => by kernel_rfl) ?_
  refine wh_take 3 (.slice A whole.length cap) rfl (by kernel_rfl) (by kernel_rfl) (fun _ _ _ h => h) (by kernel_rfl) (fun W h => exec_load_cell 25 (.tmp 10) rfl ⟨gr, 1, none⟩ _ (by kernel_rfl) (h.cell c1) Try.isAgg25) ?_
  refine wh_take 4 (.int .i64 (fr : Nat)) rfl (by kernel_rfl) (by kernel_rfl) (fun _ _ _ h => h) (by kernel_rfl) (fun _ _ => by kernel_rfl) ?_
  refine wh_take 5 (.pointer (some ⟨gr, 0, none⟩)) rfl (by kernel_rfl) (by kernel_rfl) (fun _ _ _ h => h) (by kernel_rfl) (fun _ _ => by kernel_rfl) ?_
  refine wh_call 6 61 #[.pointer (some ⟨gr, 0, none⟩)] rfl (by kernel_rfl) (by kernel_rfl) d0 (fun _ => by kernel_rfl) ?_
  refine (at_calls (h.step d0)).mono ?_
  rintro e x1 ⟨rfl, hx1⟩
  have d1 : Since w x1 := d0.then_ hx1
  refine ⟨_, rfl, ?_⟩
  refine wh_take 7 (.slice A2 (whole.length - rest.length - fr) (cap - fr)) rfl (by kernel_rfl) (by kernel_rfl) (fun _ _ _ h => h) (by kernel_rfl) (fun _ _ => by rw [← hA2]; exact exec_slice_lh (.tmp 11) (.tmp 12) (.tmp 14) rfl A whole.length cap fr (whole.length - rest.length) (by kernel_rfl) (by kernel_rfl) (by kernel_rfl) hfr hcp) ?_
  refine wh_call 8 32 #[.slice A2 (whole.length - rest.length - fr) (cap - fr)] rfl (by kernel_rfl) (by kernel_rfl) d1 (fun _ => by kernel_rfl) ?_
  refine (check_calls_n A2 _ _ pc hpl hpm x1 (hpb.step d1)).mono ?_
  rintro e x2 ⟨rfl, hx2⟩
  have d2 : Since w x2 := d1.then_ hx2
  refine ⟨_, rfl, ?_⟩
  refine wh_take 9 (.int .u64 ((check pc).toNat : Int)) rfl (by kernel_rfl) (by kernel_rfl) (fun _ _ _ h => h) (by kernel_rfl) (fun _ _ => by kernel_rfl) ?_
  refine wh_done (by kernel_rfl) d2 ?_
  simp only [Act.put, List.setIfInBounds_toArray, List.set_cons_zero, List.set_cons_succ]
  -- held2>
  have h2 := h.step d2
  have c02 := h2.cells.1
  have hn := Lib.hid (numL R rest 8 h8 x2 h2.rd)
  have hp := Lib.hid (fun w' (h1 : ReaderL w' R (rest.drop 8)) (hg : x2.grownBy w' (some R)) => h2.read h8 h1 hg)
  have hd2 := Lib.hid d2
  clear hpb hpl hpm hA2 c0 c1 hrl hwl hwc hcp hfr h8 d0 hx1 d1 hx2 d2 h2 h
  generalize getN (rest.take 8) = v at hn hcode
  generalize check pc = u0 at *
  by_cases he : u0 = v
  · have hq : (((v.toNat : Int)) != (u0.toNat : Int)) = false := by rw [he]; simp
    have hc := Lib.hid (show code = 0 by rw [hcode, if_pos he])
    clear he hcode
    go_wp2_with fail
    refine hn.out.mono ?_
    rintro e w1 ⟨rfl, hr1, hg1⟩
    go_wp2_with fail
    go_ret
    exact ⟨ret_int hc.out.symm, hp.out _ hr1 hg1, grown_then (grown_of hd2.out _) hg1⟩
  · have hq : (((v.toNat : Int)) != (u0.toNat : Int)) = true := by rw [bne, ne_u64 (Ne.symm he)]; rfl
    have hc := Lib.hid (show code = 22 by rw [hcode, if_neg he])
    clear he hcode
    go_wp2_with fail
    refine hn.out.mono ?_
    rintro e w1 ⟨rfl, hr1, hg1⟩
    go_wp2_with fail
    go_ret
    exact ⟨ret_int hc.out.symm, hp.out _ hr1 hg1, grown_then (grown_of hd2.out _) hg1⟩
theorem numP_one {rest : List UInt8} (h : 1 ≤ rest.length) : numP (rest.take 1) = ((rest[0]?.getD 0).toNat : Int) := by
  match rest, h with
  | x :: l, _ =>
    unfold numP
    rw [getN_nat]
    simp [leVal]
theorem ends_calls (h : PS base w gr R A cap whole rest s) :
    Calls Try.prog 42 #[.pointer (some ⟨gr, 0, none⟩)] w fun e w' => e = .returned (.int .i64 (endR whole rest)) ∧ (∃ rest', PS base w' gr R A cap whole rest' s) ∧ w.grownBy w' (some R) := by
  obtain ⟨c0, c1⟩ := h.cells
  have hrl := h.rl
  have hwl := h.wlen
  have hwc := h.wcap
  have hLl := Lib.hid (left_calls R rest w h.rd.at)
  obtain ⟨code, hcode⟩ : ∃ code : Int, code = endR whole rest := ⟨_, rfl⟩
  rw [← hcode]
  unfold endR at hcode
  by_cases h9 : rest.length < 9
  · have hc := Lib.hid (show code = 21 by rw [hcode, if_pos h9])
    have hd : decide ((rest.length : Int) < 9) = true := decide_eq_true (by omega)
    have hps := Lib.hid h
    clear hcode c1 hrl hwl hwc h
    go_enter Try.func42, Try.ntmps42
    go_wp2_with fail
    refine hLl.out.mono ?_
    rintro e w1 ⟨rfl, rfl⟩
    go_wp2_with fail
    go_ret
    exact ⟨ret_int hc.out.symm, ⟨rest, hps.out⟩, grown_of (brefl _) _⟩
  rw [if_neg h9] at hcode
  have hd : decide ((rest.length : Int) < 9) = false := decide_eq_false (by omega)
  have hcp : whole.length - rest.length ≤ cap := by omega
  have d0 : Since w w.drew := (Since.refl w).drew
  have hpb : BytesAt w w.heap.size A (whole.take (whole.length - rest.length)) := (h.whl.more (by have := h.hR; have := h.rd.lt; omega)).take _
  have hpl : (whole.take (whole.length - rest.length)).length = whole.length - rest.length := by rw [List.length_take]; omega
  have hpm : whole.length - rest.length ≤ 140737488351232 := by omega
  generalize whole.take (whole.length - rest.length) = pc at hpb hpl hcode
  go_enter Try.func42, Try.ntmps42
  go_wp2_with fail
  refine hLl.out.mono ?_
  rintro e w0 ⟨rfl, rfl⟩
  go_upto_region 3 with fail
  refine wp_region_H (Since w) 9 rfl (by kernel_rfl) ?_
  -- <held3
  refine wh_take 0 (.pointer (some ⟨gr, 0, none⟩)) rfl (by kernel_rfl) (by kernel_rfl) (fun _ _ _ h => h) (by kernel_rfl) (fun _ _ => by kernel_rfl) ?_
  refine wh_take 1 (.pointer (some ⟨gr, 0, none⟩)) rfl (by kernel_rfl) (by kernel_rfl) (fun _ _ _ h => h) (by kernel_rfl) (fun _ _ => by kernel_rfl) ?_
  refine wh_take 2 (.pointer (some ⟨gr, 1, none⟩)) rfl (by kernel_rfl) (by kernel_rfl) (fun _ _ _ h => h) (by kernel_rfl) (fun _ _ => by kernel_rfl) ?_
  refine wh_take 3 (.slice A whole.length cap) rfl (by kernel_rfl) (by kernel_rfl) (fun _ _ _ h => h) (by kernel_rfl) (fun W h => exec_load_cell 25 (.tmp 14) rfl ⟨gr, 1, none⟩ _ (by kernel_rfl) (h.cell c1) Try.isAgg25) ?_
  refine wh_take 4 (.pointer (some ⟨gr, 0, none⟩)) rfl (by kernel_rfl) (by kernel_rfl) (fun _ _ _ h => h) (by kernel_rfl) (fun _ _ => by kernel_rfl) ?_
  refine wh_call 5 61 #[.pointer (some ⟨gr, 0, none⟩)] rfl (by kernel_rfl) (by kernel_rfl) d0 (fun _ => by kernel_rfl) ?_
  refine (at_calls (h.step d0)).mono ?_
  rintro e x1 ⟨rfl, hx1⟩
  have d1 : Since w x1 := d0.then_ hx1
  refine ⟨_, rfl, ?_⟩
  refine wh_take 6 (.slice A (whole.length - rest.length) cap) rfl (by kernel_rfl) (by kernel_rfl) (fun _ _ _ h => h) (by kernel_rfl) (fun _ _ => exec_slice_h (.tmp 15) (.tmp 17) rfl A whole.length cap (whole.length - rest.length) (by kernel_rfl) (by kernel_rfl) hcp) ?_
  refine wh_call 7 32 #[.slice A (whole.length - rest.length) cap] rfl (by kernel_rfl) (by kernel_rfl) d1 (fun _ => by kernel_rfl) ?_
  refine (check_calls_n A _ _ pc hpl hpm x1 (hpb.step d1)).mono ?_
  rintro e x2 ⟨rfl, hx2⟩
  have d2 : Since w x2 := d1.then_ hx2
  refine ⟨_, rfl, ?_⟩
  refine wh_take 8 (.int .u64 ((check pc).toNat : Int)) rfl (by kernel_rfl) (by kernel_rfl) (fun _ _ _ h => h) (by kernel_rfl) (fun _ _ => by kernel_rfl) ?_
  refine wh_done (by kernel_rfl) d2 ?_
  simp only [Act.put, List.setIfInBounds_toArray, List.set_cons_zero, List.set_cons_succ]
  -- held3>
  have h2 := h.step d2
  have hn1 := Lib.hid (num_calls h2 1 (by omega) (by omega))
  rw [numP_one (by omega)] at hn1
  have hd2 := Lib.hid d2
  have h8 : 8 ≤ (rest.drop 1).length := by rw [List.length_drop]; omega
  have hL9 : ((rest.drop 1).drop 8).length = rest.length - 9 := by rw [List.length_drop, List.length_drop]; omega
  clear hpb hpl hpm c0 c1 hrl hwl hwc hcp d0 hx1 d1 hx2 d2 h2 h hLl
  by_cases h45 : rest[0]?.getD 0 = 0x45
  rotate_left
  · have hq : (((rest[0]?.getD 0).toNat : Int) != 69) = true := by have h := ne_u8 (b := 0x45) h45; rw [bne]; exact congrArg not h
    have hc := Lib.hid (show code = 11 by rw [hcode, if_pos h45])
    clear hcode
    generalize rest[0]?.getD 0 = k0 at hn1 hq
    go_wp2_with fail
    refine hn1.out.mono ?_
    rintro e w3 ⟨rfl, hps, hg3⟩
    go_wp2_with fail
    go_ret
    exact ⟨ret_int hc.out.symm, ⟨_, hps⟩, grown_then (grown_of hd2.out _) hg3⟩
  rw [if_neg (by rw [h45]; exact fun h => h rfl)] at hcode
  rw [h45] at hn1
  clear h45
  go_wp2_with fail
  refine hn1.out.mono ?_
  rintro e w3 ⟨rfl, hps, hg3⟩
  have c03 := hps.cells.1
  have hn := Lib.hid (numL R (rest.drop 1) 8 h8 w3 hps.rd)
  have hp := Lib.hid (fun w' (h1 : ReaderL w' R ((rest.drop 1).drop 8)) (hg : w3.grownBy w' (some R)) => hps.read h8 h1 hg)
  have hg3' := Lib.hid (grown_then (grown_of hd2.out _) hg3)
  clear hps hg3 hd2 hn1
  generalize (rest.drop 1).drop 8 = r9 at hn hp hL9
  generalize getN ((rest.drop 1).take 8) = v at hn hcode
  generalize check pc = u0 at *
  by_cases he : u0 = v
  rotate_left
  · have hq : (((v.toNat : Int)) != (u0.toNat : Int)) = true := by rw [bne, ne_u64 (Ne.symm he)]; rfl
    have hc := Lib.hid (show code = 22 by rw [hcode, if_pos he])
    clear he hcode
    go_wp2_with fail
    refine hn.out.mono ?_
    rintro e w4 ⟨rfl, hr4, hg4⟩
    go_wp2_with fail
    go_ret
    exact ⟨ret_int hc.out.symm, ⟨_, hp.out _ hr4 hg4⟩, grown_then hg3'.out hg4⟩
  have hq : (((v.toNat : Int)) != (u0.toNat : Int)) = false := by rw [he]; simp
  rw [if_neg (by rw [he]; exact fun h => h rfl)] at hcode
  clear he
  go_wp2_with fail
  refine hn.out.mono ?_
  rintro e w4 ⟨rfl, hr4, hg4⟩
  have hps4 := hp.out _ hr4 hg4
  have c04 := hps4.cells.1
  have hLl := Lib.hid (left_calls R r9 w4 hps4.rd.at)
  have hps4' := Lib.hid hps4
  clear hps4 hr4 c03
  by_cases hl : 9 < rest.length
  · have hc := Lib.hid (show code = 2 by rw [hcode, if_pos hl])
    have hdl : decide ((0 : Int) < (r9.length : Int)) = true := decide_eq_true (by omega)
    clear hcode
    go_wp2_with fail
    refine hLl.out.mono ?_
    rintro e w5 ⟨rfl, rfl⟩
    go_wp2_with fail
    go_ret
    exact ⟨ret_int hc.out.symm, ⟨_, hps4'.out⟩, grown_then hg3'.out hg4⟩
  · have hc := Lib.hid (show code = 0 by rw [hcode, if_neg hl])
    have hdl : decide ((0 : Int) < (r9.length : Int)) = false := decide_eq_false (by omega)
    clear hcode
    go_wp2_with fail
    refine hLl.out.mono ?_
    rintro e w5 ⟨rfl, rfl⟩
    go_wp2_with fail
    go_ret
    exact ⟨ret_int hc.out.symm, ⟨_, hps4'.out⟩, grown_then hg3'.out hg4⟩
end
end Go.Proofs.Ytdglkjpdhnnpnaa
