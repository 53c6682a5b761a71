/-
  Words of this claim's own: a byte as a value, a slice value that reads as bytes, and the small laws on them. No walk.
-/
import Derived.WalkKit
import Derived.Lib.Hide
import Derived.Lib.Strings
import Derived.Deep.AppendLies
import Derived.Deep.Draws
import Derived.Maps.AppendAt
import Derived.OwnWalk
import Derived.OwnWalkIn
import Derived.RangeFuncBox
namespace Go.Proofs.Ytdglkjpdhnnpnaa
open Go Go.RowKit

/-- A byte as a value. -/
abbrev B8 (x : UInt8) : Value := .int .u8 (x.toNat : Int)
/-- A uint64 as a value. -/
abbrev B64 (x : UInt64) : Value := .int .u64 (x.toNat : Int)

/-- THE SLICE THAT BEGINS AT A READS AS bs, in a block below B. -/
def BytesAt (w : World) (B : Nat) (A : Option Addr) (bs : List UInt8) : Prop :=
  bs = [] ∨ ∃ b off, A = some ⟨b, off, none⟩ ∧ b < B ∧ ∀ j, j < bs.length → w.cell? ⟨b, off + j, none⟩ = some (B8 (bs[j]?.getD 0))

theorem BytesAt.nil (w : World) (B : Nat) (A : Option Addr) : BytesAt w B A [] := .inl rfl
theorem BytesAt.keep {w w' : World} {B : Nat} {A : Option Addr} {bs : List UInt8} (h : BytesAt w B A bs) (hk : ∀ p : Addr, p.block < B → w'.cell? p = w.cell? p) : BytesAt w' B A bs := by
  rcases h with h | ⟨b, off, hA, hb, hc⟩
  · exact .inl h
  · exact .inr ⟨b, off, hA, hb, fun j hj => (hk _ hb).trans (hc j hj)⟩
theorem BytesAt.below {w w' : World} {B : Nat} {A : Option Addr} {bs : List UInt8} (h : BytesAt w B A bs) (hb : Below B w w') : BytesAt w' B A bs := h.keep fun _ hp => hb.cell hp
theorem BytesAt.more {w : World} {B B' : Nat} {A : Option Addr} {bs : List UInt8} (h : BytesAt w B A bs) (hB : B ≤ B') : BytesAt w B' A bs := by
  rcases h with h | ⟨b, off, hA, hb, hc⟩
  · exact .inl h
  · exact .inr ⟨b, off, hA, by omega, hc⟩
theorem BytesAt.step {w w' : World} {A : Option Addr} {bs : List UInt8} (h : BytesAt w w.heap.size A bs) (hb : Below w.heap.size w w') : BytesAt w' w'.heap.size A bs := (h.below hb).more hb.size
theorem BytesAt.alloc {w : World} {A : Option Addr} {bs : List UInt8} (h : BytesAt w w.heap.size A bs) (o : Obj) : BytesAt (w.alloc o) (w.alloc o).heap.size A bs := h.step ((Below.refl _ w).alloc (Nat.le_refl _) o)
theorem BytesAt.take {w : World} {B : Nat} {A : Option Addr} {bs : List UInt8} (h : BytesAt w B A bs) (k : Nat) : BytesAt w B A (bs.take k) := by
  rcases h with rfl | ⟨b, off, hA, hb, hc⟩
  · exact .inl (by simp)
  · refine .inr ⟨b, off, hA, hb, fun j hj => ?_⟩
    rw [List.length_take] at hj
    rw [List.getElem?_take, if_pos (by omega)]
    exact hc j (by omega)
/-- s[k:] as the model writes its address. -/
theorem BytesAt.drop {w : World} {B : Nat} {A : Option Addr} {bs : List UInt8} (h : BytesAt w B A bs) {k cap : Nat} (hc : bs.length ≤ cap) :
    BytesAt w B (if cap = k then A else A.map (·.add k)) (bs.drop k) := by
  rcases h with rfl | ⟨b, off, hA, hb, hcell⟩
  · exact .inl (by simp)
  · by_cases hk : bs.length ≤ k
    · exact .inl (List.drop_eq_nil_of_le hk)
    · refine .inr ⟨b, off + k, ?_, hb, fun j hj => ?_⟩
      · rw [if_neg (by omega), hA]
        simp [Addr.add]
      · rw [List.length_drop] at hj
        rw [List.getElem?_drop, Nat.add_assoc]
        exact hcell (k + j) (by omega)

theorem ne_u64 {a b : UInt64} (h : a ≠ b) : ((a.toNat : Int) == (b.toNat : Int)) = false := by
  rw [beq_eq_false_iff_ne]
  exact fun e => h (UInt64.toNat_inj.1 (Int.ofNat.inj e))
theorem ne_u8 {a b : UInt8} (h : a ≠ b) : ((a.toNat : Int) == (b.toNat : Int)) = false := by
  rw [beq_eq_false_iff_ne]
  exact fun e => h (UInt8.toNat_inj.1 (Int.ofNat.inj e))
theorem ne_u8_0 {a : UInt8} (h : a ≠ 0) : ((a.toNat : Int) == 0) = false := ne_u8 h
/-- k modulo n, never below 0. -/
def modN (k n : Int) : Int := k % n
theorem modN_nat (k : Int) {n : Nat} (h : 0 < n) : ∃ m : Nat, modN k n = (m : Int) ∧ m < n := by
  have h1 := Int.emod_nonneg k (show (n : Int) ≠ 0 by omega)
  have h2 := Int.emod_lt_of_pos k (show (0 : Int) < n by omega)
  exact ⟨(k % n).toNat, by unfold modN; omega, by omega⟩
/-- Two tests that say the same, under one name. -/
theorem same_test {p q : Prop} {a b : Bool} (h : p ↔ q) (ha : a = true ↔ p) (hb : b = true ↔ q) : ∃ v, a = v ∧ b = v :=
  ⟨a, rfl, Bool.eq_iff_iff.2 (hb.trans (h.symm.trans ha.symm))⟩
theorem eq_u64 {a b : UInt64} : ((a.toNat : Int) == (b.toNat : Int)) = true ↔ a = b := by
  rw [beq_iff_eq]
  exact ⟨fun e => UInt64.toNat_inj.1 (Int.ofNat.inj e), fun e => by rw [e]⟩
theorem eq_u8 {a b : UInt8} : ((a.toNat : Int) == (b.toNat : Int)) = true ↔ a = b := by
  rw [beq_iff_eq]
  exact ⟨fun e => UInt8.toNat_inj.1 (Int.ofNat.inj e), fun e => by rw [e]⟩
theorem eq_u8_0 {a : UInt8} : ((a.toNat : Int) == 0) = true ↔ a = 0 := eq_u8 (b := 0)
theorem ret_int {k : IntKind} {a b : Int} (h : a = b) : Ending.returned (.int k a) = .returned (.int k b) := by rw [h]
theorem ret_bool {a b : Bool} (h : a = b) : Ending.returned (.bool a) = .returned (.bool b) := by rw [h]

/-! ### what lay when the call began lies as it lay -/
theorem bthen {a w w' : World} (h : Below a.heap.size a w) (h' : Below w.heap.size w w') : Below a.heap.size a w' := h.trans (h'.mono h.size)
theorem balloc {a w : World} (h : Below a.heap.size a w) (o : Obj) : Below a.heap.size a (w.alloc o) := h.alloc h.size o
theorem bgrown {a w w' : World} {row : Option Nat} (h : Below a.heap.size a w) (hg : w.grownBy w' row) (hr : ∀ k, row = some k → a.heap.size ≤ k) : Below a.heap.size a w' := h.grown hg h.size hr
theorem brefl (a : World) : Below a.heap.size a a := Below.refl _ _

/-- What lay at w0 lies as it lay (for a region that draws its order: one limb of what is held). -/
def Since (w0 w : World) : Prop := Below w0.heap.size w0 w
theorem Since.refl (w : World) : Since w w := Below.refl _ _
theorem Since.drew {w0 w : World} (h : Since w0 w) : Since w0 w.drew := Below.drew h
theorem Since.drewN {w0 w : World} (h : Since w0 w) (k : Nat) : Since w0 (w.drewN k) := ⟨h.os, h.tape, h.output, h.size, h.block⟩
theorem Since.then_ {w0 w w' : World} (h : Since w0 w) (hb : Below w.heap.size w w') : Since w0 w' := bthen h hb
theorem Since.alloc {w0 w : World} (h : Since w0 w) (o : Obj) : Since w0 (w.alloc o) := balloc h o
theorem Since.bytes {w0 w : World} {A : Option Addr} {bs : List UInt8} (h : Since w0 w) (hb : BytesAt w0 w0.heap.size A bs) : BytesAt w w.heap.size A bs := (hb.below h).more h.size
theorem Since.cell {w0 w : World} {p : Addr} {v : Value} (h : Since w0 w) (hc : w0.cell? p = some v) : w.cell? p = some v := by
  rw [Below.cell h (World.block_lt_of_cell? w0 _ hc)]; exact hc

/-- A slice literal's bytes. -/
theorem lit_bytes (w : World) (e : TypeId) (m : Nat × Nat) (bs : List UInt8) (cs : Array Value) (hcs : cs = (bs.map B8).toArray) : BytesAt (w.alloc (.cells cs e m)) (w.alloc (.cells cs e m)).heap.size (some ⟨w.heap.size, 0, none⟩) bs := by
  subst hcs
  refine .inr ⟨w.heap.size, 0, rfl, by simp, fun j hj => ?_⟩
  rw [World.cell?_alloc_mark, Nat.zero_add]
  simp [hj]

theorem lit_bytes_at (w : World) (e : TypeId) (m : Nat × Nat) (bs : List UInt8) (cs : Array Value) (hcs : cs = (bs.map B8).toArray) (H : Nat) (hH : w.heap.size = H) : BytesAt (w.alloc (.cells cs e m)) (w.alloc (.cells cs e m)).heap.size (some ⟨H, 0, none⟩) bs := by
  subst hH
  exact lit_bytes w e m bs cs hcs

/-! ### numbers as UInt64, UInt8 -/
theorem wrap_u64_mul (a : UInt64) (c : Nat) : IntKind.u64.wrap ((a.toNat : Int) * (c : Int)) = ((a * UInt64.ofNat c).toNat : Int) := by
  have h : (a * UInt64.ofNat c).toNat = (a.toNat * c) % 18446744073709551616 := by
    rw [UInt64.toNat_mul, UInt64.toNat_ofNat', Nat.mul_mod_mod]
  rw [h, IntKind.wrap_u64]
  omega
theorem xor_u64 (a b : UInt64) : bits .xor .u64 (a.toNat : Int) (b.toNat : Int) = ((a ^^^ b).toNat : Int) := by
  rw [u64_xor_nat _ _ a.toNat_lt b.toNat_lt, UInt64.toNat_xor]

theorem xor_u8 (a b : UInt8) : bits .xor .u8 (a.toNat : Int) (b.toNat : Int) = ((a ^^^ b).toNat : Int) := by
  rw [u8_xor_nat _ _ a.toNat_lt b.toNat_lt, UInt8.toNat_xor]

/-- One turn of the check. -/
def turn (h : UInt64) (c : UInt8) : UInt64 := (h ^^^ c.toUInt64) * 1099511628211
def more (h : UInt64) (bs : List UInt8) : UInt64 := bs.foldl turn h
def basis : UInt64 := 14695981039346656037
def check (bs : List UInt8) : UInt64 := more basis bs

theorem more_nil (h : UInt64) : more h [] = h := rfl
theorem more_snoc (h : UInt64) (bs : List UInt8) (c : UInt8) : more h (bs ++ [c]) = turn (more h bs) c := by simp [more]
theorem more_append (h : UInt64) (as bs : List UInt8) : more h (as ++ bs) = more (more h as) bs := by simp [more]

theorem wrap_u64_u8 (c : UInt8) : IntKind.u64.wrap (c.toNat : Int) = (c.toNat : Int) := by
  have := c.toNat_lt
  rw [IntKind.wrap_u64]; omega
theorem turn_walk (h : UInt64) (c : UInt8) : IntKind.u64.wrap (bits .xor .u64 (h.toNat : Int) (c.toNat : Int) * 1099511628211) = ((turn h c).toNat : Int) := by
  have e : (c.toNat : Int) = ((c.toUInt64).toNat : Int) := by simp
  rw [e, xor_u64]
  exact wrap_u64_mul _ 1099511628211

theorem take_snoc {bs : List UInt8} {k : Nat} (h : k < bs.length) : bs.take (k + 1) = bs.take k ++ [bs[k]?.getD 0] := by
  rw [List.take_succ_eq_append_getElem h, List.getElem?_eq_getElem h]; rfl

/-! ### bytes that the call owns -/
/-- The slice value that begins at A, of capacity c, owns the bytes bs, in a block from base on; e: the element's type. -/
def OwnB (w : World) (base : Nat) (e : TypeId) (A : Option Addr) (c : Nat) (bs : List UInt8) : Prop := w.ownsRow base e 1 (.slice A bs.length c) bs.length (bs.map B8)

theorem own_of (A : Option Addr) (n c : Nat) : (Value.slice A n c).ownBlock = A.map (·.block) := by cases A <;> rfl
theorem add_at (g o j : Nat) : (⟨g, o, none⟩ : Addr).add j = ⟨g, o + j, none⟩ := by
  unfold Addr.add
  split <;> simp_all
theorem OwnB.bytes {w : World} {base : Nat} {e : TypeId} {A : Option Addr} {c : Nat} {bs : List UInt8} (h : OwnB w base e A c bs) : BytesAt w w.heap.size A bs := by
  rcases h.2 with ⟨_, h0⟩ | ⟨g, cap, cur, hv, _, hg, _⟩
  · exact .inl (List.eq_nil_of_length_eq_zero h0)
  · injection hv with hA _ _
    refine .inr ⟨g, 0, hA, (Array.getElem?_eq_some_iff.1 hg).1, fun j hj => ?_⟩
    have := World.ownsRow.cells h (g := g) (by rw [hA]; rfl) j (B8 (bs[j]?.getD 0)) (by simp [hj])
    rwa [add_at] at this
theorem OwnB.cap {w : World} {base : Nat} {e : TypeId} {A : Option Addr} {c : Nat} {bs : List UInt8} (h : OwnB w base e A c bs) : bs.length ≤ c := by
  rcases h.2 with ⟨hv, h0⟩ | ⟨g, cap, cur, hv, _, hg, hc, _⟩
  · omega
  · injection hv with _ _ hv
    omega
theorem OwnB.capMax {w : World} {base : Nat} {e : TypeId} {A : Option Addr} {c : Nat} {bs : List UInt8} (h : OwnB w base e A c bs) : c ≤ maxLen := by
  rcases h.2 with ⟨hv, _⟩ | ⟨g, cap, cur, hv, _, hg, _, hm, _⟩
  · injection hv with _ _ hv
    rw [hv]; simp [maxLen]
  · injection hv with _ _ hv
    omega
/-- Bytes lie in no variable's box that holds something else. -/
theorem BytesAt.box {w : World} {B R : Nat} {t : TypeId} {v : Value} {A : Option Addr} {bs : List UInt8} (h : BytesAt w B A bs) (hb : Boxed w R t v) (hv : ∀ x, v ≠ B8 x) (u : Value) : BytesAt (w.setCell ⟨R, 0, none⟩ u) B A bs := by
  rcases h with h | ⟨b, off, hA, hlt, hc⟩
  · exact .inl h
  · refine .inr ⟨b, off, hA, hlt, fun j hj => ?_⟩
    have h1 := hc j hj
    have hne : b ≠ R := by
      rintro rfl
      have h2 : w.cell? ⟨b, off + j, none⟩ = (#[v] : Array Value)[off + j]? := cell_of_row w b (off + j) #[v] t (0, 0) hb
      rw [h2] at h1
      rcases Nat.eq_zero_or_pos (off + j) with h0 | h0
      · rw [h0] at h1
        exact hv _ (by simpa using h1)
      · rw [Array.getElem?_eq_none (show (#[v] : Array Value).size ≤ off + j by simp; omega)] at h1
        cases h1
    rw [World.cell?_setCell_other w ⟨R, 0, none⟩ ⟨b, off + j, none⟩ u (fun e => hne (by injection e with e; exact e.symm))]
    exact h1
theorem OwnB.kept {w w' : World} {base : Nat} {e : TypeId} {A : Option Addr} {c : Nat} {bs : List UInt8} {row : Option Nat} (h : OwnB w base e A c bs) (hg : w.grownBy w' row) (hne : (A.map (·.block)) = none ∨ (A.map (·.block)) ≠ row) : OwnB w' base e A c bs :=
  World.ownsRow.kept h hg (by rw [own_of]; exact hne)
theorem OwnB.below {w w' : World} {base B : Nat} {e : TypeId} {A : Option Addr} {c : Nat} {bs : List UInt8} (h : OwnB w base e A c bs) (hb : Below B w w') (hB : w.heap.size ≤ B) : OwnB w' base e A c bs := by
  refine ⟨h.1, ?_⟩
  rcases h.2 with hn | ⟨g, cap, cur, hv, hbg, hg, rest⟩
  · exact .inl hn
  · refine .inr ⟨g, cap, cur, hv, hbg, ?_, rest⟩
    rw [hb.block g (by have := (Array.getElem?_eq_some_iff.1 hg).1; omega)]
    exact hg
theorem OwnB.mono {w : World} {base base' : Nat} {e : TypeId} {A : Option Addr} {c : Nat} {bs : List UInt8} (h : OwnB w base e A c bs) (hb : base' ≤ base) : OwnB w base' e A c bs := by
  refine ⟨h.1, ?_⟩
  rcases h.2 with hn | ⟨g, cap, cur, hv, hbg, hg, rest⟩
  · exact .inl hn
  · exact .inr ⟨g, cap, cur, hv, by omega, hg, rest⟩
theorem OwnB.lt {w : World} {base : Nat} {e : TypeId} {A : Option Addr} {c : Nat} {bs : List UInt8} (h : OwnB w base e A c bs) : ∀ k, A.map (·.block) = some k → base ≤ k ∧ k < w.heap.size := by
  intro k hk
  exact World.ownsRow.lt h k (by rw [own_of]; exact hk)
theorem OwnB.nil (w : World) (base : Nat) (e : TypeId) : OwnB w base e none 0 [] := World.ownsRow_nil w base e 1
theorem OwnB.made (w : World) (base : Nat) (e : TypeId) (hb : base ≤ w.heap.size) : OwnB (w.alloc (.cells #[] e)) base e (some ⟨w.heap.size, 0, none⟩) 0 [] :=
  World.ownsRow_made w #[] 0 hb (by simp [maxLen]) (by simp)

theorem OwnB.form {w : World} {base : Nat} {e : TypeId} {A : Option Addr} {c : Nat} {bs : List UInt8} (h : OwnB w base e A c bs) (h0 : 0 < bs.length) :
    ∃ g, A = some ⟨g, 0, none⟩ ∧ base ≤ g ∧ g < w.heap.size ∧ (∀ j, j < bs.length → w.cell? ⟨g, j, none⟩ = some (B8 (bs[j]?.getD 0))) ∧ ∀ j, w.frozen? ⟨g, j, none⟩ = false := by
  rcases h.2 with ⟨_, h0'⟩ | ⟨g, cap, cur, hv, hbg, hg, _⟩
  · omega
  · injection hv with hA _ _
    refine ⟨g, hA, hbg, (Array.getElem?_eq_some_iff.1 hg).1, fun j hj => ?_, fun j => by simp [World.frozen?, hg]⟩
    have := World.ownsRow.cells h (g := g) (by rw [hA]; rfl) j (B8 (bs[j]?.getD 0)) (by simp [hj])
    rw [add_at] at this
    simpa using this
/-- One byte of the call's own turned. -/
theorem OwnB.set {w : World} {base : Nat} {e : TypeId} {g c : Nat} {bs : List UInt8} (h : OwnB w base e (some ⟨g, 0, none⟩) c bs) (k : Nat) (v : UInt8) (hk : k < bs.length) :
    OwnB (w.setCell ⟨g, k, none⟩ (B8 v)) base e (some ⟨g, 0, none⟩) c (bs.set k v) := by
  have hl := List.length_set (as := bs) (i := k) (a := v)
  refine ⟨by simp, ?_⟩
  rcases h.2 with ⟨hv, _⟩ | ⟨g', cap, cur, hv, hbg, hg, hc, hm, hs, ht⟩
  · cases hv
  · injection hv with hA _ hcap
    injection hA with hA
    injection hA with hA _ _
    subst hA hcap
    have hcs : k < cur.size := by omega
    refine .inr ⟨g, c, cur.setIfInBounds k (B8 v), by rw [hl], hbg, ?_, by omega, hm, by simpa using hs, ?_⟩
    · obtain ⟨hlt, he⟩ := Array.getElem?_eq_some_iff.1 hg
      show (w.heap.modify g _)[g]? = _
      rw [Array.getElem?_eq_getElem (by rw [Array.size_modify]; exact hlt), Array.getElem_modify_self, he]
      rfl
    · rw [hl, Array.toList_setIfInBounds, List.map_set, ← ht, List.take_set]

/-- Where a slice lies behind an append: in the old row, or in the block that was made. -/
def LiesAt (A' A : Option Addr) (H : Nat) : Prop := A'.map (·.block) = A.map (·.block) ∨ A'.map (·.block) = some H

/-- append(v, s...) onto bytes that the call owns. -/
theorem run_append_bytes {P : Program} (w : World) (base : Nat) (t ty e : TypeId) (ht : P.underlying t = some (.slice e)) (hinfo : (P.info? e).map (fun i => (i.zero, i.size, i.bytes)) = some (some (.int .u8 0), 1, 1))
    (A : Option Addr) (c : Nat) (xs : List UInt8) (hown : OwnB w base e A c xs) (B : Nat) (A2 : Option Addr) (c2 : Nat) (ys : List UInt8) (hy : BytesAt w B A2 ys)
    (hlen : xs.length + ys.length ≤ 140737488355328) (hbase : base ≤ w.heap.size) :
    ∃ (zs : List UInt8) (A' : Option Addr) (c' : Nat) (w' : World), Hid (zs = xs ++ ys) ∧ (Builtin.append_ #[t, t] ty #[.slice A xs.length c, .slice A2 ys.length c2]).run P w = .ok (.slice A' zs.length c') w' ∧
      OwnB w' base e A' c' zs ∧ w.grownBy w' (A.map (·.block)) ∧ LiesAt A' A w.heap.size := by
  obtain ⟨i, hi, hz0, hz1, hz2⟩ := info_parts hinfo
  rcases A2 with _ | ad
  · have hn : ys = [] := by
      rcases hy with h | ⟨b, off, hA, _⟩
      · exact h
      · cases hA
    subst hn
    refine ⟨xs, A, c, w, by simp [Hid], ?_, hown, World.grownBy.refl w _, .inl rfl⟩
    rcases hown.2 with ⟨hv, h0⟩ | ⟨g, cap, cur, hv, _, _, hnc, _⟩
    · injection hv with h1 h2 h3
      subst h1 h3
      simp [Builtin.append_, run_underlying ht, sizeOf, typeInfo, hi, Builtin.lenOf, Builtin.firstCells, h2]
    · injection hv with h1 h2 h3
      subst h1 h3
      simp [Builtin.append_, run_underlying ht, sizeOf, typeInfo, hi, Builtin.lenOf, Builtin.firstCells, hnc, storeCells]
  · have hcells : ∀ j u, (ys.map B8)[j]? = some u → w.cell? (ad.add j) = some u := by
      intro j u hj
      rcases hy with rfl | ⟨b, off, hA, _, hc⟩
      · simp at hj
      · cases hA
        have hjl : j < ys.length := by simpa using (List.getElem?_eq_some_iff.1 hj).1
        have e1 : (⟨b, off, none⟩ : Addr).add j = ⟨b, off + j, none⟩ := by simp [Addr.add]
        rw [e1, hc j hjl, ← hj]
        simp [hjl]
    have h1c : ∀ u ∈ ys.map B8, u.oneCell' = true := by
      intro u hu
      obtain ⟨x, _, rfl⟩ := List.mem_map.1 hu
      rfl
    obtain ⟨v', w', hrun, h2, h3, _, h5⟩ := run_append_own_at (P := P) w base t ty e i (.int .u8 0) 1 1 ht hi hz0 hz1 hz2 rfl (by decide) (.slice A xs.length c) xs.length (xs.map B8) hown ad ys.length c2 (ys.map B8) (by simp) hcells h1c
      (by simp [maxLen]; omega) (by omega) hbase
    have hform : ∃ A' c', v' = .slice A' (xs.length + ys.length) c' := by
      rcases h2.2 with ⟨rfl, h0⟩ | ⟨g, cap, cur, rfl, _⟩
      · exact ⟨none, 0, by rw [h0]⟩
      · exact ⟨_, _, rfl⟩
    obtain ⟨A', c', rfl⟩ := hform
    refine ⟨xs ++ ys, A', c', w', rfl, by rw [List.length_append]; exact hrun, ?_, ?_, ?_⟩
    · unfold OwnB
      rw [List.length_append, List.map_append]
      exact h2
    · rw [← own_of A xs.length c]; exact h3
    · rw [own_of, own_of] at h5; exact h5

theorem wpList_want {P : Program} {ops : Array Oper} {rest : List Oper} {o : Oper} {a : Act} {Q : Exit → Act → World → Prop} {w : World} (hw : Region.wanted o (yielded ops a.tmps) = true)
    (h : ∀ K : Act → World → Prop, (∀ a w, wpList P ops Q rest a w → K a w) → o.wp P a w K Q) : wpList P ops Q (o :: rest) a w :=
  wpList_step fun K hK => by rw [if_pos hw]; exact h K hK
theorem wpListIn_want {F : Fence} {n : Nat} {P : Program} {ops : Array Oper} {rest : List Oper} {o : Oper} {a : Act} {Q : Exit → Act → World → Prop} {w : World} (hw : Region.wanted o (yielded ops a.tmps) = true)
    (h : ∀ K : Act → World → Prop, (∀ a w, wpListIn F n P ops Q rest a w → K a w) → o.wpIn F n P a w K Q) : wpListIn F n P ops Q (o :: rest) a w :=
  wpListIn_step fun K hK => by rw [if_pos hw]; exact h K hK

/-- At the list of a plain region's operations, for the walk: a0: the world in which the call began. (A guarded operation too, where it is wanted.) -/
theorem wpList_app {P : Program} {a0 w : World} (hB0 : Below a0.heap.size a0 w) {ops : Array Oper} {rest : List Oper} {o : Oper} {a : Act} {Q : Exit → Act → World → Prop} (hgd : Region.wanted o (yielded ops a.tmps) = true) (s x : Operand) (t : TypeId)
    (ho : o.op = .call { callee := .builtin .append, args := #[s, x], argTypes := #[t, t] })
    {e : TypeId} (ht : P.underlying t = some (.slice e)) (hinfo : (P.info? e).map (fun i => (i.zero, i.size, i.bytes)) = some (some (.int .u8 0), 1, 1))
    {A : Option Addr} {c : Nat} {xs : List UInt8} (hown : OwnB w a0.heap.size e A c xs) {B : Nat} {A2 : Option Addr} {ys : List UInt8} (c2 : Nat) (hy : BytesAt w B A2 ys) (hs : a.eval s = .slice A xs.length c) (hx : a.eval x = .slice A2 ys.length c2)
    (hlen : xs.length + ys.length ≤ 140737488355328)
    (h : ∀ (zs : List UInt8) (A' : Option Addr) (c' : Nat) (w' : World), Hid (zs = xs ++ ys) → OwnB w' a0.heap.size e A' c' zs → Below a0.heap.size a0 w' → w.grownBy w' (A.map (·.block)) → LiesAt A' A w.heap.size →
      wpList P ops Q rest (a.put o.dst (.slice A' zs.length c')) w') :
    wpList P ops Q (o :: rest) a w := by
  refine wpList_want hgd fun K hK => ?_
  obtain ⟨zs, A', c', w', hz, hr, h2, h3, h4⟩ := run_append_bytes (P := P) w a0.heap.size t o.type e ht hinfo A c xs hown B A2 c2 ys hy hlen hB0.size
  unfold Oper.wp execOp
  simp only [ho, resolve, invoke, builtin, Sem.run_bind, Sem.run_pure, Result.andThen_ok, List.map_toArray, List.map_cons, List.map_nil, hs, hx, hr]
  exact hK _ _ (h zs A' c' w' hz h2 (bgrown hB0 h3 fun k e => (hown.lt k e).1) h3 h4)

theorem made_bytes (n : Nat) : (madeCells (Value.int .u8 0).cells (n * 1)).toList = (List.replicate n (0 : UInt8)).map B8 := by
  rw [Nat.mul_one]
  apply List.ext_getElem
  · simp [madeCells]
  · intro i h1 h2
    simp [madeCells, Value.cells, Nat.mod_one]
/-- make([]byte, n). -/
theorem wpList_make_bytes {P : Program} {a0 w : World} (hB0 : Below a0.heap.size a0 w) {ops : Array Oper} {rest : List Oper} {o : Oper} {a : Act} {Q : Exit → Act → World → Prop} (hg : o.guard = none) (l c : Operand) (t : TypeId) (hop : o.op = Op.makeSlice t l c)
    {e : TypeId} (ht : P.underlying t = some (.slice e)) (hinfo : (P.info? e).map (fun i => (i.zero, i.size, i.bytes)) = some (some (.int .u8 0), 1, 1))
    (kl kc : IntKind) (n : Nat) (hl : a.eval l = .int kl (n : Int)) (hc : a.eval c = .int kc (n : Int)) (hn : n ≤ 140737488355328)
    (h : ∀ (bs : List UInt8) (w' : World), Hid (bs = List.replicate n 0) → Hid (bs.length = n) → OwnB w' a0.heap.size e (some ⟨w.heap.size, 0, none⟩) n bs → Below a0.heap.size a0 w' → Below w.heap.size w w' → wpList P ops Q rest (a.put o.dst (.slice (some ⟨w.heap.size, 0, none⟩) n n)) w') :
    wpList P ops Q (o :: rest) a w := by
  obtain ⟨i, hi, hz0, hz1, hz2⟩ := info_parts hinfo
  refine wpList_make_full w hg l c t hop a0.heap.size e i _ 1 ht hi hz0 hz1 kl kc _ _ n hl hc rfl rfl (by rw [hz2]; omega) (by simp [maxLen]; omega) hB0.size ?_
  intro w' h1 h2
  rw [made_bytes] at h1
  refine h (List.replicate n 0) w' rfl List.length_replicate ?_ (bgrown hB0 h2 (fun k e => by cases e)) ((Below.refl _ w).grown h2 (Nat.le_refl _) (fun k e => by cases e))
  unfold OwnB
  rw [List.length_replicate]
  exact h1

/-- The same within a fence. -/
theorem wpListIn_app {F : Fence} {n : Nat} {P : Program} {w : World} {base : Nat} (hbase : base ≤ w.heap.size) {ops : Array Oper} {rest : List Oper} {o : Oper} {a : Act} {Q : Exit → Act → World → Prop} (hgd : Region.wanted o (yielded ops a.tmps) = true) (s x : Operand) (t : TypeId)
    (ho : o.op = .call { callee := .builtin .append, args := #[s, x], argTypes := #[t, t] })
    {e : TypeId} (ht : P.underlying t = some (.slice e)) (hinfo : (P.info? e).map (fun i => (i.zero, i.size, i.bytes)) = some (some (.int .u8 0), 1, 1))
    {A : Option Addr} {c : Nat} {xs : List UInt8} (hown : OwnB w base e A c xs) {B : Nat} {A2 : Option Addr} {ys : List UInt8} (c2 : Nat) (hy : BytesAt w B A2 ys) (hs : a.eval s = .slice A xs.length c) (hx : a.eval x = .slice A2 ys.length c2)
    (hlen : xs.length + ys.length ≤ 140737488355328)
    (h : ∀ (zs : List UInt8) (A' : Option Addr) (c' : Nat) (w' : World), Hid (zs = xs ++ ys) → OwnB w' base e A' c' zs → w.grownBy w' (A.map (·.block)) → LiesAt A' A w.heap.size →
      wpListIn F n P ops Q rest (a.put o.dst (.slice A' zs.length c')) w') :
    wpListIn F n P ops Q (o :: rest) a w := by
  refine wpListIn_want hgd fun K hK => ?_
  obtain ⟨zs, A', c', w', hz, hr, h2, h3, h4⟩ := run_append_bytes (P := P) w base t o.type e ht hinfo A c xs hown B A2 c2 ys hy hlen hbase
  unfold Oper.wpIn
  refine ⟨?_, ?_⟩
  · simp [Oper.about, ho, resolve, Target.leads, Sem.run_pure]
  · rw [Oper.semAt_plain F _ _ (by rw [ho]; intro c hc'; cases hc')]
    simp [execOp, ho, resolve, invoke, builtin, hs, hx, hr, Result.andThen]
    exact hK _ _ (h zs A' c' w' hz h2 h3 h4)

/-- A block of cells is not the turned block that is none. -/
theorem boxed_ne {X : World} {B : Nat} {t : TypeId} {v : Value} {row : Option Nat} (h : Boxed X B t v) (hr : ∀ r, row = some r → ∃ o : Obj, X.heap[r]? = some o ∧ o.isCells = false) : some B ≠ row := by
  intro e
  obtain ⟨o, ho, hc⟩ := hr B e.symm
  rw [show X.heap[B]? = _ from h] at ho
  cases ho
  cases hc
theorem OwnB.other {X Y : World} {base : Nat} {e : TypeId} {A : Option Addr} {c : Nat} {bs : List UInt8} {row : Option Nat} (h : OwnB X base e A c bs) (hg : X.grownBy Y row) (hr : ∀ r, row = some r → ∃ o : Obj, X.heap[r]? = some o ∧ o.isCells = false) : OwnB Y base e A c bs := by
  refine h.kept hg ?_
  rcases h.2 with ⟨hv, _⟩ | ⟨g, cap, cur, hv, _, hgb, _⟩
  · injection hv with hA _ _
    exact .inl (by rw [hA]; rfl)
  · injection hv with hA _ _
    subst hA
    refine .inr fun e' => ?_
    obtain ⟨o, ho, hc⟩ := hr g e'.symm
    rw [hgb] at ho
    cases ho
    cases hc

/-! ### bytes as a string -/
def strOf (bs : List UInt8) : ByteArray := ⟨bs.toArray⟩
theorem strOf_fold (bs : List UInt8) : ∀ s : ByteArray, (bs.map fun x => (x.toNat : Int)).foldl (fun r n => r.push (UInt8.ofNat n.toNat)) s = ⟨s.data ++ bs.toArray⟩ := by
  induction bs with
  | nil => intro s; simp
  | cons x bs ih =>
    intro s
    simp only [List.map_cons, List.foldl_cons, ih]
    congr 1
    simp [ByteArray.push]

theorem run_str {P : Program} {w : World} {B : Nat} {A : Option Addr} {bs : List UInt8} (h : BytesAt w B A bs) (src dst e : TypeId)
    (hs : P.underlying src = some (.slice e)) (he : P.underlying e = some (.int .u8)) (hd : P.underlying dst = some .string) (c : Nat) :
    (convert src dst (.slice A bs.length c)).run P w = .ok (.string (strOf bs)) w := by
  rw [run_convert_bytes_string w src dst e A bs.length c hs he hd]
  cases A with
  | none =>
    have hn : bs = [] := by
      rcases h with h | ⟨b, off, hA, _⟩
      · exact h
      · cases hA
    subst hn
    rfl
  | some a =>
    have hl : (loadCells a bs.length).run P w = .ok ((bs.map fun x => (x.toNat : Int)).map (Value.int .u8)).toArray w := by
      have h1 := run_loadCells_list (P := P) w a (bs.map B8) (fun j v hj => by
        rcases h with rfl | ⟨b, off, hA, _, hc⟩
        · simp at hj
        · cases hA
          have hjl : j < bs.length := by simpa using (List.getElem?_eq_some_iff.1 hj).1
          have e1 : (⟨b, off, none⟩ : Addr).add j = ⟨b, off + j, none⟩ := by simp [Addr.add]
          rw [e1, hc j hjl, ← hj]
          simp [hjl])
      rw [List.length_map] at h1
      rw [h1, List.map_map]
      rfl
    rw [run_bytesToString w a bs.length c _ hl, strOf_fold]
    congr 2
    simp [strOf]

theorem strOf_toList (bs : List UInt8) : (strOf bs).toList = bs := by
  rw [Lib.toList_data]
  simp [strOf]
theorem strOf_inj {a b : List UInt8} : (strOf a = strOf b) = (a = b) := by
  apply propext
  constructor
  · intro h
    have := congrArg ByteArray.data h
    simpa [strOf] using this
  · rintro rfl; rfl

end Go.Proofs.Ytdglkjpdhnnpnaa
