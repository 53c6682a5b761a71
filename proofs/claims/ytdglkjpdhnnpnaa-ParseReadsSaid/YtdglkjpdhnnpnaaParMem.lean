/-
  The reader of package parse, in memory; at, num, checks.
-/
import Derived.Test.YtdglkjpdhnnpnaaRdr
import Derived.Test.YtdglkjpdhnnpnaaParPlain
import Derived.Test.YtdglkjpdhnnpnaaOps
namespace Go.Proofs.Ytdglkjpdhnnpnaa
open Go Go.RowKit Go.Shelf

/-- Records that the call owns: one row of them. -/
def OwnR (w : World) (base : Nat) (A : Option Addr) (c : Nat) (l : List Rec) : Prop := w.ownsRow base 39 4 (.slice A l.length c) l.length ((l.map Rec.val).flatten)
theorem recs_len : ∀ l : List Rec, ((l.map Rec.val).flatten).length = l.length * 4
  | [] => rfl
  | r :: l => by
    rw [List.map_cons, List.flatten_cons, List.length_append, recs_len l]
    simp [Rec.val]
    omega
theorem OwnR.nil (w : World) (base : Nat) : OwnR w base none 0 [] := World.ownsRow_nil w base 39 4
theorem OwnR.kept {w w' : World} {base : Nat} {A : Option Addr} {c : Nat} {l : List Rec} {row : Option Nat} (h : OwnR w base A c l) (hg : w.grownBy w' row) (hne : A.map (·.block) = none ∨ A.map (·.block) ≠ row) : OwnR w' base A c l :=
  World.ownsRow.kept h hg (by rw [own_of]; exact hne)
theorem OwnR.lt {w : World} {base : Nat} {A : Option Addr} {c : Nat} {l : List Rec} (h : OwnR w base A c l) : ∀ k, A.map (·.block) = some k → base ≤ k ∧ k < w.heap.size := by
  intro k hk
  exact World.ownsRow.lt h k (by rw [own_of]; exact hk)
/-- The row's block holds records. -/
theorem OwnR.row {w : World} {base : Nat} {A : Option Addr} {c : Nat} {l : List Rec} (h : OwnR w base A c l) : ∀ k, A.map (·.block) = some k → ∃ cs, w.heap[k]? = some (.cells cs 39) := by
  intro k hk
  rcases h.2 with ⟨hv, _⟩ | ⟨g, cap, cur, hv, _, hgb, _⟩
  · injection hv with hA _ _
    rw [hA] at hk
    cases hk
  · injection hv with hA _ _
    rw [hA] at hk
    cases hk
    exact ⟨_, hgb⟩
theorem OwnB.row {w : World} {base : Nat} {e : TypeId} {A : Option Addr} {c : Nat} {bs : List UInt8} (h : OwnB w base e A c bs) : ∀ k, A.map (·.block) = some k → ∃ cs, w.heap[k]? = some (.cells cs e) := by
  intro k hk
  rcases h.2 with ⟨hv, _⟩ | ⟨g, cap, cur, hv, _, hgb, _⟩
  · injection hv with hA _ _
    rw [hA] at hk
    cases hk
  · injection hv with hA _ _
    rw [hA] at hk
    cases hk
    exact ⟨_, hgb⟩
/-- Blocks of other types are other blocks. -/
theorem ne_of_type {w : World} {k g : Nat} {cs cs' : Array Value} {t t' : TypeId} {f f' : Nat × Nat} (h : w.heap[k]? = some (.cells cs t f)) (h' : w.heap[g]? = some (.cells cs' t' f')) (ht : t ≠ t') : k ≠ g := by
  rintro rfl
  rw [h] at h'
  injection h' with h'
  injection h' with _ h' _
  exact ht h'
theorem OwnR.recs {w : World} {base : Nat} {A : Option Addr} {c : Nat} {l : List Rec} (h : OwnR w base A c l) (hok : ∀ x ∈ l, x.Ok w w.heap.size) : RecsAt w w.heap.size A l := by
  refine ⟨?_, hok⟩
  rcases h.2 with ⟨_, h0⟩ | ⟨g, cap, cur, hv, _, hg, _⟩
  · exact .inl (List.eq_nil_of_length_eq_zero h0)
  · injection hv with hA _ _
    refine .inr ⟨g, 0, hA, (Array.getElem?_eq_some_iff.1 hg).1, fun j hj i v hi => ?_⟩
    have hi4 : i < 4 := (List.getElem?_eq_some_iff.1 hi).1
    have h' : w.ownsRow base 39 4 (.slice (some ⟨g, 0, none⟩) l.length c) l.length ((l.map Rec.val).flatten) := by rw [← hA]; exact h
    have := h'.cellAt (j * 4 + i) (by omega)
    rw [Nat.zero_add, this, recs_flat l j i hj hi4]
    exact hi
theorem OwnR.cap {w : World} {base : Nat} {A : Option Addr} {c : Nat} {l : List Rec} (h : OwnR w base A c l) : l.length ≤ c ∧ c ≤ maxLen := by
  rcases h.2 with ⟨hv, h0⟩ | ⟨g, cap, cur, hv, _, _, hc, hm, _⟩
  · injection hv with _ _ hc
    rw [hc]
    exact ⟨by omega, Nat.zero_le _⟩
  · injection hv with _ _ hv
    rw [hv]
    exact ⟨hc, hm⟩

/-- What a record that was read has. -/
structure Rec.Own (w : World) (r : Rec) : Prop where
  own : OwnB w 0 5 r.A r.cap r.data
  f1 : 0 ≤ r.fr
  f2 : r.fr ≤ 65535
  c1 : 0 ≤ r.ct
  c2 : r.ct ≤ 65535
theorem Rec.Own.ok {w : World} {r : Rec} (h : r.Own w) : r.Ok w w.heap.size := ⟨h.own.bytes, h.own.cap, h.own.capMax, by have := h.f1; omega, by have := h.f2; omega, by have := h.c1; omega, by have := h.c2; omega⟩
theorem Rec.Own.kept {w w' : World} {r : Rec} {row : Option Nat} (h : r.Own w) (hg : w.grownBy w' row) (hne : ∀ k, row = some k → ∃ cs t f, w.heap[k]? = some (.cells cs t f) ∧ t ≠ 5) : r.Own w' := by
  refine ⟨h.own.kept hg ?_, h.f1, h.f2, h.c1, h.c2⟩
  cases hA : r.A.map (·.block) with
  | none => exact .inl rfl
  | some k =>
    refine .inr fun e => ?_
    obtain ⟨cs, hk⟩ := h.own.row k hA
    obtain ⟨cs', t, f, hk', ht⟩ := hne k e.symm
    exact ne_of_type hk hk' (Ne.symm ht) rfl

/-- THE READER of package parse at block gr: the whole bytes, what is left of them, what was read. -/
structure PS (base : Nat) (w : World) (gr R : Nat) (A : Option Addr) (cap : Nat) (whole rest : List UInt8) (s : Str) : Prop where
  rd : ReaderL w R rest
  row : RowAt w gr 71 (.pointer (some ⟨R, 0, none⟩) :: .slice A whole.length cap :: s.val)
  hR : base ≤ R
  hg : R < gr
  whl : BytesAt w base A whole
  wcap : whole.length ≤ cap
  wmost : cap ≤ maxLen
  wlen : whole.length ≤ 1000000
  at' : whole.drop (whole.length - rest.length) = rest
  rl : rest.length ≤ whole.length
  own : OwnR w (R + 1) s.A s.cap s.recs
  dat : ∀ r ∈ s.recs, r.Own w
section
variable {base : Nat} {w w' : World} {gr R : Nat} {A : Option Addr} {cap : Nat} {whole rest : List UInt8} {s : Str}
theorem PS.step (h : PS base w gr R A cap whole rest s) (hb : Below w.heap.size w w') : PS base w' gr R A cap whole rest s := by
  have hlt := h.rd.lt
  have hg : w.grownBy w' none := ⟨hb.os, hb.tape, hb.output, hb.size, fun k hk _ => hb.block k hk⟩
  refine ⟨h.rd.upto (hb.mono hlt), h.row.step hb, h.hR, h.hg, h.whl.below (hb.mono (by have := h.hR; omega)), h.wcap, h.wmost, h.wlen, h.at', h.rl, h.own.kept hg ?_, fun r hr => (h.dat r hr).kept hg (fun k e => by cases e)⟩
  cases s.A.map (·.block) with
  | none => exact .inl rfl
  | some k => exact .inr (by simp)
/-- Behind a step of le.Reader alone. -/
theorem PS.read (h : PS base w gr R A cap whole rest s) {k : Nat} (hk : k ≤ rest.length) (hr : ReaderL w' R (rest.drop k)) (hg : w.grownBy w' (some R)) : PS base w' gr R A cap whole (rest.drop k) s := by
  have hlt := h.rd.lt
  obtain ⟨v, hbox⟩ := h.rd.box
  have hBR : Below R w w' := (Below.refl R w).grown hg (Nat.le_of_lt hlt) (fun k e => by cases e; exact Nat.le_refl _)
  refine ⟨hr, h.row.kept hg (fun e => by cases e; have := h.hg; omega), h.hR, h.hg, h.whl.below (hBR.mono h.hR), h.wcap, h.wmost, h.wlen, ?_, ?_, h.own.kept hg ?_, fun r hr' => (h.dat r hr').kept hg (fun k e => by cases e; exact ⟨_, _, _, hbox, by decide⟩)⟩
  · have h1 := h.at'
    have h2 := h.rl
    rw [List.length_drop, show whole.length - (rest.length - k) = (whole.length - rest.length) + k by omega, ← List.drop_drop, h1]
  · rw [List.length_drop]
    have := h.rl
    omega
  · cases hA : s.A.map (·.block) with
    | none => exact .inl rfl
    | some k =>
      refine .inr fun e => ?_
      injection e with e
      have := (h.own.lt k hA).1
      omega
/-- How far the whole was read. -/
theorem PS.piece (h : PS base w gr R A cap whole rest s) : whole.take (whole.length - rest.length) ++ rest = whole := by
  conv => rhs; rw [← List.take_append_drop (whole.length - rest.length) whole, h.at']
end

theorem PS.cells {base : Nat} {w : World} {gr R : Nat} {A : Option Addr} {cap : Nat} {whole rest : List UInt8} {s : Str} (h : PS base w gr R A cap whole rest s) :
    w.cell? ⟨gr, 0, none⟩ = some (.pointer (some ⟨R, 0, none⟩)) ∧ w.cell? ⟨gr, 1, none⟩ = some (.slice A whole.length cap) := ⟨h.row.cellD 0 _ rfl, h.row.cellD 1 _ rfl⟩

/-- What the walks of the reader's functions keep. -/
def PQ (base gr R : Nat) (A : Option Addr) (cap : Nat) (whole rest : List UInt8) (s : Str) (w w' : World) : Prop := PS base w' gr R A cap whole rest s ∧ w.grownBy w' (some R)
theorem grown_of {w w' : World} (hb : Below w.heap.size w w') (row : Option Nat) : w.grownBy w' row := ⟨hb.os, hb.tape, hb.output, hb.size, fun k hk _ => hb.block k hk⟩
theorem grown_then {w x w' : World} {row : Option Nat} (h : w.grownBy x row) (h' : x.grownBy w' row) : w.grownBy w' row :=
  ⟨h'.os.trans h.os, h'.tape.trans h.tape, h'.output.trans h.output, Nat.le_trans h.size h'.size, fun k hk hne => (h'.block k (Nat.lt_of_lt_of_le hk h.size) hne).trans (h.block k hk hne)⟩

theorem num_calls {base : Nat} {w : World} {gr R : Nat} {A : Option Addr} {cap : Nat} {whole rest : List UInt8} {s : Str} (h : PS base w gr R A cap whole rest s) (k : Nat) (hk : k ≤ rest.length) (hk4 : k ≤ 4) :
    Calls Try.prog 59 #[.pointer (some ⟨gr, 0, none⟩), .int .i64 (k : Int)] w fun e w' => e = .returned (.int .i64 (numP (rest.take k))) ∧ PQ base gr R A cap whole (rest.drop k) s w w' := by
  have c0 := h.cells.1
  have hn := Lib.hid (numL R rest k hk w h.rd)
  have hv : IntKind.i64.wrap ((getN (rest.take k)).toNat : Int) = numP (rest.take k) := by
    have hlt := leVal_lt ((rest.take k).take 8)
    rw [← getN_nat] at hlt
    have hl : ((rest.take k).take 8).length ≤ 4 := by rw [List.length_take, List.length_take]; omega
    have hp : (256 ^ ((rest.take k).take 8).length : Nat) ≤ 256 ^ 4 := Nat.pow_le_pow_right (by omega) hl
    have h4 : (256 ^ 4 : Nat) = 4294967296 := by simp
    unfold numP
    rw [IntKind.wrap_i64]
    omega
  have hv2 : wrap64 ((getN (rest.take k)).toNat : Int) = numP (rest.take k) := by
    rw [← hv]
    unfold wrap64
    rw [IntKind.wrap_i64]
  have hp := Lib.hid (fun w' (h1 : ReaderL w' R (rest.drop k)) (h2 : w.grownBy w' (some R)) => h.read hk h1 h2)
  clear h
  generalize getN (rest.take k) = v at hn hv hv2
  generalize numP (rest.take k) = m at hv hv2 ⊢
  go_enter Try.func59, Try.ntmps59
  go_wp2_with fail
  refine hn.out.mono ?_
  rintro e w1 ⟨rfl, hr1, hg1⟩
  go_wp2_with fail
  go_ret
  exact ⟨by first | rfl | exact ret_int hv | exact ret_int hv2, hp.out _ hr1 hg1, hg1⟩
end Go.Proofs.Ytdglkjpdhnnpnaa
