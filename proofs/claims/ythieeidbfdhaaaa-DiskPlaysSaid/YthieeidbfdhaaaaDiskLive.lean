/-
  A disk that a call has made for itself, and blocks that are not the disk's.
-/
import Derived.Test.YthieeidbfdhaaaaDiskNil
import Derived.Test.YthieeidbfdhaaaaIntsEq
namespace Go.Proofs.Ythieeidbfdhaaaa
open Go Go.RowKit Go.Shelf

/-- THE DISK gd, MADE SINCE w0; F: blocks that are not its own. -/
def Live (w0 w : World) (gd : Nat) (D : List Sct) (F : List Nat) : Prop :=
  ∃ base gs V, w0.heap.size ≤ base ∧ DiskAt w base gd gs D V ∧ Below w0.heap.size w0 w ∧ ∀ b ∈ F, b < w.heap.size ∧ b ≠ gd ∧ ¬ DiskOwns gs V b
/-- These blocks lie as they lay. -/
def Kept (F : List Nat) (w w' : World) : Prop := ∀ b ∈ F, w'.heap[b]? = w.heap[b]?
theorem Kept.row {F : List Nat} {w w' : World} (h : Kept F w w') {g : Nat} (hg : g ∈ F) {t : TypeId} {cs : List Value} (hr : RowAt w g t cs) : RowAt w' g t cs := (h g hg).trans hr
theorem Live.below {w0 w : World} {gd : Nat} {D : List Sct} {F : List Nat} (h : Live w0 w gd D F) : Below w0.heap.size w0 w := by
  obtain ⟨_, _, _, _, _, hB, _⟩ := h
  exact hB
theorem Live.step {w0 w w' : World} {gd : Nat} {D : List Sct} {F : List Nat} (h : Live w0 w gd D F) (hb : Below w.heap.size w w') : Live w0 w' gd D F := by
  obtain ⟨base, gs, V, h1, h2, h3, h4⟩ := h
  exact ⟨base, gs, V, h1, h2.step hb, bthen h3 hb, fun b hbF => ⟨Nat.lt_of_lt_of_le (h4 b hbF).1 hb.size, (h4 b hbF).2⟩⟩
theorem kept_below {w w' : World} {F : List Nat} (hF : ∀ b ∈ F, b < w.heap.size) (hb : Below w.heap.size w w') : Kept F w w' := fun b h => hb.block b (hF b h)
theorem Live.lt {w0 w : World} {gd : Nat} {D : List Sct} {F : List Nat} (h : Live w0 w gd D F) : ∀ b ∈ F, b < w.heap.size := by
  obtain ⟨_, _, _, _, _, _, h4⟩ := h
  exact fun b hb => (h4 b hb).1
/-- A new block is not the disk's. -/
theorem Live.add {w0 w w' : World} {gd : Nat} {D : List Sct} {F : List Nat} (h : Live w0 w gd D F) (hb : Below w.heap.size w w') (b : Nat) (h1 : w.heap.size ≤ b) (h2 : b < w'.heap.size) : Live w0 w' gd D (b :: F) := by
  obtain ⟨base, gs, V, h3, h4, h5, h6⟩ := h
  refine ⟨base, gs, V, h3, h4.step hb, bthen h5 hb, fun x hx => ?_⟩
  rcases List.mem_cons.1 hx with rfl | hx
  · exact ⟨h2, by have := h4.lt.1; omega, fun ho => by have := (h4.lt.2 x ho).2; omega⟩
  · exact ⟨Nat.lt_of_lt_of_le (h6 x hx).1 hb.size, (h6 x hx).2⟩
theorem Live.drop {w0 w : World} {gd : Nat} {D : List Sct} {F F' : List Nat} (h : Live w0 w gd D F) (hF : ∀ b ∈ F', b ∈ F) : Live w0 w gd D F' := by
  obtain ⟨base, gs, V, h3, h4, h5, h6⟩ := h
  exact ⟨base, gs, V, h3, h4, h5, fun b hb => h6 b (hF b hb)⟩
/-- Blocks of before the call are not the disk's. -/
theorem Live.old {w0 w : World} {gd : Nat} {D : List Sct} {F : List Nat} (h : Live w0 w gd D F) (b : Nat) (hb : b < w0.heap.size) : Live w0 w gd D (b :: F) := by
  obtain ⟨base, gs, V, h3, h4, h5, h6⟩ := h
  refine ⟨base, gs, V, h3, h4, h5, fun x hx => ?_⟩
  rcases List.mem_cons.1 hx with rfl | hx
  · exact ⟨Nat.lt_of_lt_of_le hb h5.size, by have := h4.bgd; omega, fun ho => by have := (h4.lt.2 x ho).1; omega⟩
  · exact h6 x hx

theorem DiskNew.apart {w : World} {gs b : Nat} {V V' : List (Option Addr × Nat)} (h : DiskNew w V V') (hb : b < w.heap.size) (hno : ¬ DiskOwns gs V b) : ¬ DiskOwns gs V' b := by
  intro ho
  rcases ho with rfl | ⟨v, hv, hvb⟩
  · exact hno (.inl rfl)
  · rcases h v hv b hvb with ⟨u, hu, hub⟩ | hge
    · exact hno (.inr ⟨u, hu, hub⟩)
    · omega
/-- What an operation leaves. -/
theorem live_done {w0 w w' : World} {base gd gs : Nat} {D D' : List Sct} {V V' : List (Option Addr × Nat)} {F : List Nat} (h1 : w0.heap.size ≤ base) (h2 : DiskAt w base gd gs D V) (h3 : Below w0.heap.size w0 w) (h4 : ∀ b ∈ F, b < w.heap.size ∧ b ≠ gd ∧ ¬ DiskOwns gs V b)
    (hd : DiskAt w' base gd gs D' V') (hn : DiskNew w V V') (hk : DiskKeeps w w' gs V) : Live w0 w' gd D' F ∧ Kept F w w' := by
  obtain ⟨k1, k2, k3, k4, k5⟩ := hk
  have hlt := h2.lt
  have hsz := h3.size
  refine ⟨⟨base, gs, V', h1, hd, ⟨k2.trans h3.os, k3.trans h3.tape, k4.trans h3.output, Nat.le_trans hsz k1, fun k hk => ?_⟩, fun b hb => ⟨Nat.lt_of_lt_of_le (h4 b hb).1 k1, (h4 b hb).2.1, hn.apart (h4 b hb).1 (h4 b hb).2.2⟩⟩, fun b hb => k5 b (h4 b hb).1 (h4 b hb).2.2⟩
  rw [k5 k (by omega) (fun ho => by have := (hlt.2 k ho).1; omega)]
  exact h3.block k hk

theorem live_new {w0 w : World} (hB : Below w0.heap.size w0 w) (n : Nat) (h1 : 1 ≤ n) (h2 : n ≤ 4096) {F : List Nat} (hF : ∀ b ∈ F, b < w.heap.size) :
    Calls Try.prog 16 #[.int .i64 (n : Int)] w fun e w' => (∃ gd, e = .returned (.tuple #[.pointer (some ⟨gd, 0, none⟩), .int .i64 0]) ∧ Live w0 w' gd (List.replicate n Sct.zero) F) ∧ Below w.heap.size w w' :=
  (newDisk_calls n h1 h2 w).mono fun e w' ⟨⟨gd, gs, he, hd⟩, hb⟩ => ⟨⟨gd, he, w.heap.size, gs, _, hB.size, hd, bthen hB hb, fun b hbF => ⟨Nat.lt_of_lt_of_le (hF b hbF) hb.size, by have := hd.bgd; have := hF b hbF; omega, fun ho => by have := (hd.lt.2 b ho).1; have := hF b hbF; omega⟩⟩, hb⟩
theorem live_write {w0 w : World} {gd : Nat} {D : List Sct} {F : List Nat} (h : Live w0 w gd D F) (i : Nat) (hi : i < D.length) (hm : D[i].vers.length ≤ 100000) (b : List UInt8) (hb : b.length = 64) :
    Calls Try.prog 18 #[.pointer (some ⟨gd, 0, none⟩), .int .i64 (i : Int), vb b] w fun e w' => e = .returned (.int .i64 0) ∧ Live w0 w' gd (D.set i ⟨D[i].there, D[i].vers ++ [b]⟩) F ∧ Kept F w w' := by
  obtain ⟨base, gs, V, h1, h2, h3, h4⟩ := h
  exact (diskWrite_calls h2 i hi hm b hb).mono fun e w' ⟨he, ⟨v, hd, hn⟩, hk⟩ => ⟨he, live_done h1 h2 h3 h4 hd hn hk⟩
theorem live_write_no {w0 w : World} {gd : Nat} {D : List Sct} {F : List Nat} (h : Live w0 w gd D F) (i : Int) (hi : i < 0 ∨ (D.length : Int) ≤ i) (b : List UInt8) :
    Calls Try.prog 18 #[.pointer (some ⟨gd, 0, none⟩), .int .i64 i, vb b] w fun e w' => e = .returned (.int .i64 1) ∧ Below w.heap.size w w' := by
  obtain ⟨base, gs, V, h1, h2, h3, h4⟩ := h
  exact diskWrite_no h2 i hi b
theorem live_read {w0 w : World} {gd : Nat} {D : List Sct} {F : List Nat} (h : Live w0 w gd D F) (i : Nat) (hi : i < D.length) (hm : D[i].vers.length ≤ 100000) :
    Calls Try.prog 22 #[.pointer (some ⟨gd, 0, none⟩), .int .i64 (i : Int)] w fun e w' => e = .returned (.tuple #[vb D[i].last, .int .i64 0]) ∧ Below w.heap.size w w' := by
  obtain ⟨base, gs, V, h1, h2, h3, h4⟩ := h
  exact diskRead_calls h2 i hi hm
theorem live_read_no {w0 w : World} {gd : Nat} {D : List Sct} {F : List Nat} (h : Live w0 w gd D F) (i : Int) (hi : i < 0 ∨ (D.length : Int) ≤ i) :
    Calls Try.prog 22 #[.pointer (some ⟨gd, 0, none⟩), .int .i64 i] w fun e w' => e = .returned (.tuple #[vb (zeros 64), .int .i64 1]) ∧ Below w.heap.size w w' := by
  obtain ⟨base, gs, V, h1, h2, h3, h4⟩ := h
  exact diskRead_out fun w' hb => diskSector_no (h2.step hb) i hi
theorem live_flush {w0 w : World} {gd : Nat} {D : List Sct} {F : List Nat} (h : Live w0 w gd D F) (hD : D.length ≤ 4096) (hm : ∀ i (h : i < D.length), D[i].vers.length ≤ 100000) :
    Calls Try.prog 24 #[.pointer (some ⟨gd, 0, none⟩)] w fun e w' => e = .returned (.int .i64 0) ∧ Live w0 w' gd (flushN D) F ∧ Kept F w w' := by
  obtain ⟨base, gs, V, h1, h2, h3, h4⟩ := h
  exact (diskFlush_calls h2 hD hm).mono fun e w' ⟨he, ⟨V', hd, hn⟩, hk⟩ => ⟨he, live_done h1 h2 h3 h4 hd hn hk⟩
theorem live_loose {w0 w : World} {gd : Nat} {D : List Sct} {F : List Nat} (h : Live w0 w gd D F) (hD : D.length ≤ 4096) :
    Calls Try.prog 29 #[.pointer (some ⟨gd, 0, none⟩)] w fun e w' => (∃ ys A c, e = .returned (.slice A ys.length c) ∧ ys = (looseAll D).map (fun x => x.val) ∧ OwnI w' w.heap.size A c ys) ∧ Below w.heap.size w w' := by
  obtain ⟨base, gs, V, h1, h2, h3, h4⟩ := h
  exact diskLoose_calls h2 hD
theorem live_len {w0 w : World} {gd : Nat} {D : List Sct} {F : List Nat} (h : Live w0 w gd D F) :
    Calls Try.prog 31 #[.pointer (some ⟨gd, 0, none⟩)] w fun e w' => e = .returned (.int .i64 (D.length : Int)) ∧ w = w' := by
  obtain ⟨base, gs, V, h1, h2, h3, h4⟩ := h
  exact diskLen_calls h2
theorem live_crash {w0 w : World} {gd : Nat} {D : List Sct} {F : List Nat} (h : Live w0 w gd D F) (hD : D.length ≤ 4096) (hm : ∀ i (h : i < D.length), D[i].vers.length ≤ 100000)
    (A : Option Addr) (cap : Nat) (pick : List UInt8) (hp : BytesAt w w.heap.size A pick) (hpc : pick.length ≤ cap) (hcm : cap ≤ maxLen) (hpA : ∀ b, A.map (·.block) = some b → b ∈ F) :
    Calls Try.prog 26 #[.pointer (some ⟨gd, 0, none⟩), .slice A pick.length cap] w fun e w' => (∃ v, e = .returned v) ∧ Live w0 w' gd (crashN D pick) F ∧ Kept F w w' := by
  obtain ⟨base, gs, V, h1, h2, h3, h4⟩ := h
  exact (diskCrash_calls h2 hD hm A cap pick hp hpc hcm (fun e => (h4 gs (hpA gs e)).2.2 (.inl rfl))).mono fun e w' ⟨he, ⟨V', hd, hn⟩, hk⟩ => ⟨he, live_done h1 h2 h3 h4 hd hn hk⟩
end Go.Proofs.Ythieeidbfdhaaaa
