/-
  LeTakes returns true, whatever the bytes and the sizes, and writes nothing that was there.
-/
import Derived.Test.YtakjepgndmdblaaWakes01
import Derived.Test.YtakjepgndmdblaaOpen
namespace Go.Proofs.Ytakjepgndmdblaa
open Go Go.RowKit Go.Shelf

theorem wpList_app_b {P : Program} {w : World} {base : Nat} (hB0 : base ≤ w.heap.size) {ops : Array Oper} {rest : List Oper} {o : Oper} {a : Act} {Q : Exit → Act → World → Prop} (hgd : Region.wanted o (yielded ops a.tmps) = true) (s x : Operand) (t : TypeId)
    (ho : o.op = .call { callee := .builtin .append, args := #[s, x], argTypes := #[t, t] })
    {e : TypeId} (ht : P.underlying t = some (.slice e)) (hinfo : (P.info? e).map (fun i => (i.zero, i.size, i.bytes)) = some (some (.int .u8 0), 1, 1))
    {A : Option Addr} {c : Nat} {xs : List UInt8} (hown : OwnB w base e A c xs) {B : Nat} {A2 : Option Addr} {ys : List UInt8} (c2 n2 : Nat) (hn2 : ys.length = n2) (hy : BytesAt w B A2 ys) (hs : a.eval s = .slice A xs.length c) (hx : a.eval x = .slice A2 n2 c2)
    (hlen : xs.length + ys.length ≤ 140737488355328)
    (h : ∀ (zs : List UInt8) (A' : Option Addr) (c' : Nat) (w' : World), Hid (zs = xs ++ ys) → OwnB w' base e A' c' zs → w.grownBy w' (A.map (·.block)) → LiesAt A' A w.heap.size →
      wpList P ops Q rest (a.put o.dst (.slice A' zs.length c')) w') :
    wpList P ops Q (o :: rest) a w := by
  subst hn2
  refine wpList_want hgd fun K hK => ?_
  obtain ⟨zs, A', c', w', hz, hr, h2, h3, h4⟩ := run_append_bytes (P := P) w base t o.type e ht hinfo A c xs hown B A2 c2 ys hy hlen hB0
  unfold Oper.wp execOp
  simp only [ho, resolve, invoke, builtin, Sem.run_bind, Sem.run_pure, Result.andThen_ok, List.map_toArray, List.map_cons, List.map_nil, hs, hx, hr]
  exact hK _ _ (h zs A' c' w' hz h2 h3 h4)

/-- THE READER at block R has the bytes bs left; they lie below B. -/
def ReaderIn (w : World) (R B : Nat) (bs : List UInt8) : Prop :=
  ∃ A c, Boxed w R 56 (.slice A bs.length c) ∧ bs.length ≤ c ∧ c ≤ maxLen ∧ bs.length ≤ 140737488351232 ∧ BytesAt w B A bs

theorem ReaderIn.at {w : World} {R B : Nat} {bs : List UInt8} (h : ReaderIn w R B bs) (hB : B ≤ w.heap.size) : ReaderAt w R bs := by
  obtain ⟨A, c, hbx, h1, h2, h3, h4⟩ := h
  exact ⟨A, c, hbx, h1, h2, h3, h4.more hB⟩
theorem ReaderIn.below {w w' : World} {R B : Nat} {bs : List UInt8} (h : ReaderIn w R B bs) (hR : R < B) (hb : Below B w w') : ReaderIn w' R B bs := by
  obtain ⟨A, c, hbx, h1, h2, h3, h4⟩ := h
  exact ⟨A, c, (hb.block R hR).trans hbx, h1, h2, h3, h4.below hb⟩

set_option maxHeartbeats 1000000 in
theorem take_fits_in (R B : Nat) (bs : List UInt8) (k : Nat) (hk : k ≤ bs.length) (w : World) (hB : B ≤ w.heap.size) (hr : ReaderIn w R B bs) :
    Calls Try.prog 25 #[.pointer (some ⟨R, 0, none⟩), .int .i64 (k : Int)] w fun e w' =>
      (∃ A c, e = .returned (.tuple #[.slice A k c, .bool true]) ∧ OwnB w' w.heap.size 5 A c (bs.take k)) ∧ ReaderIn w' R B (bs.drop k) ∧ w.grownBy w' (some R) := by
  have hr0 := hr.at hB
  obtain ⟨A, c, hbx, hlc, hcm, hlen, hb⟩ := hr
  have hc := hbx.cell
  have hd1 : decide ((k : Int) < 0) = false := decide_eq_false (by omega)
  have hd2 : decide ((bs.length : Int) < (k : Int)) = false := decide_eq_false (by omega)
  have hk0 : (0 : Int) ≤ (k : Int) := by omega
  have hk1 : (k : Int) ≤ (bs.length : Int) := by omega
  have hk2 : (k : Int) ≤ (c : Int) := by omega
  have hk3 : (bs.length : Int) ≤ (c : Int) := by omega
  obtain ⟨A2, hA2⟩ : ∃ A2, (if c = k then A else A.map (fun x => x.add k)) = A2 := ⟨_, rfl⟩
  have hys := hb.drop (k := k) hlc
  rw [hA2] at hys
  have hxl : (bs.take k).length = k := by rw [List.length_take]; omega
  have hyl : (bs.drop k).length = bs.length - k := List.length_drop
  have hxs := (hb.more hB).take k
  generalize bs.take k = xs at hxs hxl ⊢
  generalize bs.drop k = ys at hys hyl ⊢
  replace hxl := Lib.hid hxl
  replace hyl := Lib.hid hyl
  go_enter Try.func25, Try.ntmps25
  go_wp2_with (go_at_call 27; refine (left_calls _ _ _ hr0).mono ?_; rintro e w' ⟨rfl, rfl⟩)
  refine (clone_calls_n _ _ _ _ hxl.out (by omega) _ hxs).mono ?_
  rintro e w1 ⟨⟨A1, c1, rfl, hown⟩, hB1⟩
  have hbx1 : Boxed w1 R 56 (.slice A bs.length c) := (hB1.block R hbx.lt).trans hbx
  have hc1 := hbx1.cell
  have hf1 := hbx1.frozen
  go_wp2_with fail
  go_ret2
  refine ⟨⟨A1, c1, rfl, hown.kept (grownBy_setCell' _ _ _) (.inr fun e => ?_)⟩, ⟨A2, c - k, ?_, ?_, ?_, ?_, ?_⟩, ?_⟩
  · have := (hown.lt _ e).1
    have := hbx.lt
    omega
  · rw [hyl.out]; exact hbx1.set _
  · rw [hyl.out]; omega
  · omega
  · rw [hyl.out]; omega
  · exact (hys.below (hB1.mono hB)).box hbx1 (fun x e => by cases e) (.slice A2 (bs.length - k) (c - k))
  · exact ⟨hB1.os, hB1.tape, hB1.output, by simpa using hB1.size, fun j hj hne => (Below.heap_setCell _ _ _ j (fun e => hne (by rw [e]))).trans (hB1.block j hj)⟩

set_option maxRecDepth 100000 in
set_option maxHeartbeats 4000000 in
theorem leTakes_walk (A : Option Addr) (cap : Nat) (bs : List UInt8) (S : Option Addr) (scap : Nat) (ss : List UInt8) (w : World) (_hl : bs.length ≤ cap) (_hm : cap ≤ maxLen) (hb : BytesAt w w.heap.size A bs)
    (_hsl : ss.length ≤ scap) (_hsm : scap ≤ maxLen) (hs : BytesAt w w.heap.size S ss) :
    Calls Try.prog 11 #[.slice A bs.length cap, .slice S ss.length scap] w fun e w' => e = .returned (.bool true) ∧ Below w.heap.size w w' := by
  by_cases hbig : 5000 < bs.length
  · have hd : decide ((5000 : Int) < (bs.length : Int)) = true := decide_eq_true (by omega)
    go_enter Try.func11, Try.ntmps11
    go_wp2_with (go_at_call 19; refine (wakes01_calls _).mono ?_; rintro e w1 ⟨rfl, hB1⟩)
    go_ret
    exact ⟨rfl, hB1⟩
  have hd : decide ((5000 : Int) < (bs.length : Int)) = false := decide_eq_false (by omega)
  by_cases hbig2 : 100 < ss.length
  · have hd2 : decide ((100 : Int) < (ss.length : Int)) = true := decide_eq_true (by omega)
    go_enter Try.func11, Try.ntmps11
    go_wp2_with (go_at_call 19; refine (wakes01_calls _).mono ?_; rintro e w1 ⟨rfl, hB1⟩)
    go_ret
    exact ⟨rfl, hB1⟩
  have hd2 : decide ((100 : Int) < (ss.length : Int)) = false := decide_eq_false (by omega)
  have hlen : bs.length ≤ 140737488351232 := by omega
  go_enter Try.func11, Try.ntmps11
  go_wp2_with fail
  refine (newReader_calls _ _ _ hlen _ hb).mono ?_
  rintro e w1 ⟨⟨R, rfl, hR, hr1⟩, hB1⟩
  have hRlt := hr1.lt
  go_wp2_with fail
  go_loopw [6, 7] (fun al i wr => ∃ (k : Nat) (acc rest : List UInt8) (A2 : Option Addr) (c2 : Nat), k ≤ ss.length ∧ i = .int .i64 k ∧ al = .slice A2 acc.length c2 ∧ Hid (acc ++ rest = bs) ∧ acc.length + rest.length = bs.length ∧
      OwnB wr w1.heap.size 5 A2 c2 acc ∧ ReaderIn wr R w1.heap.size rest ∧ Below w.heap.size w wr ∧ w1.heap.size ≤ wr.heap.size) (fun _ i _ => ss.length - (intOf i).toNat)
  case atStart => exact ⟨0, [], bs, none, 0, Nat.zero_le _, rfl, rfl, Lib.hid rfl, by simp, OwnB.nil _ _ _, hr1, hB1, Nat.le_refl _⟩
  case round =>
    unfold maxLen at *
    obtain ⟨k, acc, rest, A2, c2, hk, rfl, rfl, hcat, hcl, hown, hr, hB, hsz⟩ := hrel
    have hra := hr.at hsz
    by_cases hlt : k < ss.length
    · obtain ⟨b, off, rfl, hbw, hc⟩ : ∃ b off, S = some ⟨b, off, none⟩ ∧ b < w.heap.size ∧ ∀ j, j < ss.length → w.cell? ⟨b, off + j, none⟩ = some (B8 (ss[j]?.getD 0)) := by
        rcases hs with h0 | h
        · simp [h0] at hlt
        · exact h
      have hc0 := hc k hlt
      generalize ss[k]?.getD 0 = u at hc0
      clear hc
      have hc1 : wr.cell? ⟨b, off + k, none⟩ = some (B8 u) := (hB.cell hbw).trans hc0
      clear hc0
      have hu0 : (0 : Int) ≤ (u.toNat : Int) := by omega
      have hu1 : (u.toNat : Int) ≤ 255 := by have := u.toNat_lt; omega
      obtain ⟨m, hm9, hm8⟩ : ∃ m : Nat, ((u.toNat : Int) % 9) = (m : Int) ∧ m ≤ 8 := ⟨u.toNat % 9, by omega, by omega⟩
      by_cases hfit : m ≤ rest.length
      · have hd3 : decide ((m : Int) ≤ (rest.length : Int)) = true := decide_eq_true (by omega)
        have hxl : (rest.take m).length = m := by rw [List.length_take]; omega
        have hyI : ((rest.drop m).length : Int) = (rest.length : Int) - (m : Int) := by rw [List.length_drop]; omega
        have hyl : (rest.drop m).length = rest.length - m := List.length_drop
        have hcat2 : acc ++ rest.take m ++ rest.drop m = bs := by rw [List.append_assoc, List.take_append_drop]; exact hcat.out
        have htake := take_fits_in R w1.heap.size rest m hfit _ hsz hr
        generalize rest.take m = xs at hxl htake hcat2
        generalize rest.drop m = ys at hyl hyI htake hcat2
        replace hxl := Lib.hid hxl
        replace hyl := Lib.hid hyl
        replace hyI := Lib.hid hyI
        replace hcat2 := Lib.hid hcat2
        replace htake := Lib.hid htake
        go_wp2_with fail
        refine (left_calls R rest _ hra).mono ?_
        rintro e w' ⟨rfl, rfl⟩
        go_wp2_with fail
        refine Calls.mono htake.out ?_
        rintro e w3 ⟨⟨A4, c4, rfl, hown4⟩, hr3, hg3⟩
        have hsz3 : w1.heap.size ≤ w3.heap.size := by have := hg3.size; omega
        have hB3 : Below w.heap.size w w3 := hB.grown hg3 hB.size (fun j e => by cases e; omega)
        have hown3 : OwnB w3 w1.heap.size 5 A2 c2 acc := hown.kept hg3 (.inr fun e => by have := (hown.lt _ e).1; omega)
        go_wp2_with fail
        refine (left_calls R ys _ (hr3.at hsz3)).mono ?_
        rintro e w' ⟨rfl, rfl⟩
        rw [hyI.out]
        go_wp2_with (at_builtin; refine wpList_app_b hsz3 rfl _ _ 23 rfl Try.underlying23 Try.info_byte hown3 c4 m hxl.out hown4.bytes (by rfl) (by rfl) (by rw [hxl.out]; omega) ?_)
        intro zs A5 c5 w5 hz hown5 hg5 _
        have hB5 : Below w1.heap.size w3 w5 := (Below.refl _ w3).grown hg5 hsz3 (fun j e => (hown3.lt j e).1)
        have hzl : zs.length = acc.length + m := by rw [hz.out, List.length_append, hxl.out]
        go_wp2_with fail
        go_roundw
        case rel =>
          refine ⟨k + 1, zs, ys, A5, c5, by omega, by go_num, rfl, Lib.hid (by rw [hz.out]; exact hcat2.out), by rw [hzl, hyl.out]; omega, hown5, hr3.below hRlt hB5, ?_, Nat.le_trans hsz3 hB5.size⟩
          exact hB3.grown hg5 hB3.size (fun j e => by have := (hown3.lt j e).1; have := hB1.size; omega)
        case measure => simp [intOf]; omega
      · have hd3 : decide ((m : Int) ≤ (rest.length : Int)) = false := decide_eq_false (by omega)
        have htake := Lib.hid (take_not R rest m (.inr (by omega)) _ hra)
        go_wp2_with fail
        refine (left_calls R rest _ hra).mono ?_
        rintro e w' ⟨rfl, rfl⟩
        go_wp2_with fail
        refine Calls.mono htake.out ?_
        rintro e w' ⟨rfl, rfl⟩
        go_wp2_with fail
        refine (left_calls R rest _ hra).mono ?_
        rintro e w' ⟨rfl, rfl⟩
        go_wp2_with (at_builtin; refine wpList_app_b hsz rfl _ _ 23 rfl Try.underlying23 Try.info_byte hown 0 0 (ys := []) rfl (BytesAt.nil _ 0 none) (by rfl) (by rfl) (by simp; omega) ?_)
        intro zs A5 c5 w5 hz hown5 hg5 _
        have hzz : zs = acc := by simpa using hz.out
        subst hzz
        have hB5 : Below w1.heap.size wr w5 := (Below.refl _ wr).grown hg5 hsz (fun j e => (hown.lt j e).1)
        go_wp2_with fail
        go_roundw
        case rel =>
          refine ⟨k + 1, zs, rest, A5, c5, by omega, by go_num, rfl, hcat, hcl, hown5, hr.below hRlt hB5, ?_, Nat.le_trans hsz hB5.size⟩
          exact hB.grown hg5 hB.size (fun j e => by have := (hown.lt j e).1; have := hB1.size; omega)
        case measure => simp [intOf]; omega
    · obtain rfl : k = ss.length := by omega
      have htake := take_fits_in R w1.heap.size rest rest.length (Nat.le_refl _) _ hsz hr
      rw [List.take_length, List.drop_length] at htake
      replace htake := Lib.hid htake
      go_wp2_with fail
      refine (left_calls R rest _ hra).mono ?_
      rintro e w' ⟨rfl, rfl⟩
      go_wp2_with fail
      refine Calls.mono htake.out ?_
      rintro e w3 ⟨⟨A4, c4, rfl, hown4⟩, hr3, hg3⟩
      have hsz3 : w1.heap.size ≤ w3.heap.size := by have := hg3.size; omega
      have hB3 : Below w.heap.size w w3 := hB.grown hg3 hB.size (fun j e => by cases e; omega)
      have hown3 : OwnB w3 w1.heap.size 5 A2 c2 acc := hown.kept hg3 (.inr fun e => by have := (hown.lt _ e).1; omega)
      go_wp2_with (at_builtin; refine wpList_app_b hsz3 rfl _ _ 23 rfl Try.underlying23 Try.info_byte hown3 c4 rest.length rfl hown4.bytes (by rfl) (by rfl) (by omega) ?_)
      intro zs A5 c5 w5 hz hown5 hg5 _
      have hB5 : Below w1.heap.size w3 w5 := (Below.refl _ w3).grown hg5 hsz3 (fun j e => (hown3.lt j e).1)
      have hB5' : Below w.heap.size w w5 := hB3.grown hg5 hB3.size (fun j e => by have := (hown3.lt j e).1; have := hB1.size; omega)
      have hr5 := (hr3.below hRlt hB5).at (Nat.le_trans hsz3 hB5.size)
      obtain rfl : zs = bs := hz.out.trans hcat.out
      go_wp2_with fail
      refine (bytes_calls _ _ _ _ _ _ _ _ _ hown5.bytes (hb.below hB5')).mono ?_
      rintro e w' ⟨rfl, rfl⟩
      rw [beq_self_eq_true]
      go_wp2_with fail
      refine (left_calls R [] _ hr5).mono ?_
      rintro e w' ⟨rfl, rfl⟩
      go_wp2_with fail
      refine (wakes01_calls _).mono ?_
      rintro e w6 ⟨rfl, hB6⟩
      go_wp2_with fail
      go_ret
      exact ⟨rfl, bthen hB5' hB6⟩

end Go.Proofs.Ytakjepgndmdblaa
