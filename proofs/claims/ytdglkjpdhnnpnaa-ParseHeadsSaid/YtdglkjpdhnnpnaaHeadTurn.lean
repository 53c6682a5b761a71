/-
  A head with one byte turned.
-/
import Derived.Test.YtdglkjpdhnnpnaaParseBackW
import Derived.Test.YtdglkjpdhnnpnaaHeadPlain
namespace Go.Proofs.Ytdglkjpdhnnpnaa
open Go Go.RowKit Go.Shelf

theorem three_of {zs : List Int} (h : zs.length = 3) : ∃ x y z, zs = [x, y, z] := by
  match zs, h with
  | [x, y, z], _ => exact ⟨x, y, z, rfl⟩
theorem xor_1 (a : UInt8) : bits .xor .u8 (a.toNat : Int) 1 = ((a ^^^ 1).toNat : Int) := xor_u8 a 1
theorem b8_xor1 (x : UInt8) : B8 (x ^^^ 1) = .int .u8 ((x.toNat ^^^ 1 : Nat) : Int) := by
  show Value.int .u8 ((x ^^^ 1).toNat : Int) = _
  rw [UInt8.toNat_xor]
  rfl
theorem xor_ne (a : UInt8) : a ^^^ 1 ≠ a := fun h => absurd (xor_eq_self.1 h) (by decide)
theorem xor_xor (a : UInt8) : (a ^^^ 1) ^^^ 1 = a := by rw [UInt8.xor_assoc, UInt8.xor_self, UInt8.xor_zero]
theorem turn_magic (s : Str) (bs : List UInt8) (x : UInt8) (hx : (headE s ++ bs)[2]?.getD 0 = x) : parseR ((headE s ++ bs).set 2 (x ^^^ 1)) = .error 20 := by
  obtain ⟨r, hr⟩ : ∃ r, headE s ++ bs = 0x52 :: 0x56 :: 0x53 :: 0x31 :: r := ⟨_, rfl⟩
  rw [hr] at hx ⊢
  obtain rfl : 0x53 = x := hx
  refine parse_magic (by simp) ?_
  show [0x52, 0x56, 0x53 ^^^ 1, 0x31] ≠ ([0x52, 0x56, 0x53, 0x31] : List UInt8)
  decide
theorem turn_back (Z : List UInt8) (x : UInt8) (hx : Z[2]?.getD 0 = x) (hl : 2 < Z.length) : ∃ y, (Z.set 2 (x ^^^ 1))[2]?.getD 0 = y ∧ (Z.set 2 (x ^^^ 1)).set 2 (y ^^^ 1) = Z := by
  refine ⟨x ^^^ 1, by rw [List.getElem?_set_self hl]; rfl, ?_⟩
  rw [List.set_set, xor_xor]
  rw [List.getElem?_eq_getElem hl] at hx
  subst hx
  exact List.set_getElem_self hl
theorem turn_check (s : Str) (bs : List UInt8) (y : UInt8) (hy : (headE s ++ bs)[20]?.getD 0 = y) : parseR ((headE s ++ bs).set 20 (y ^^^ 1)) = .error 22 := by
  have hl := headL_length s
  have h4 := headL_4 s
  obtain ⟨L, hL⟩ : ∃ L, L = headL s := ⟨_, rfl⟩
  have hK8 := bytesN_length (check L) 8
  have e : headE s ++ bs = L ++ (bytesN (check L) 8 ++ bs) := by rw [hL]; unfold headE sealB; rw [List.append_assoc]
  rw [← hL] at hl h4
  rw [e] at hy ⊢
  clear e hL
  generalize hK : bytesN (check L) 8 = K at hK8 hy ⊢
  have hs : (L ++ (K ++ bs)).set 20 (y ^^^ 1) = L ++ (K.set 4 (y ^^^ 1) ++ bs) := by
    rw [List.set_append_right _ _ (by omega), hl, List.set_append_left _ _ (by omega)]
  have hk : K[4]?.getD 0 = y := by
    rw [List.getElem?_append_right (by omega), hl, List.getElem?_append_left (by omega)] at hy
    exact hy
  rw [hs]
  have hl2 : (K.set 4 (y ^^^ 1)).length = 8 := by rw [List.length_set]; exact hK8
  have t16 : (L ++ (K.set 4 (y ^^^ 1) ++ bs)).take 16 = L := take_app hl
  refine parse_check (by simp; omega) ?_ ?_
  · rw [List.take_append_of_le_length (by omega), h4]
  · rw [t16, drop_app hl, take_app hl2, hK]
    intro h
    have h' := congrArg (fun (l : List UInt8) => l[4]?.getD 0) h
    simp only [hk] at h'
    rw [List.getElem?_set_self (by omega)] at h'
    exact xor_ne y h'
theorem OwnB.cell {w : World} {base : Nat} {e : TypeId} {g c : Nat} {bs : List UInt8} (h : OwnB w base e (some ⟨g, 0, none⟩) c bs) (k : Nat) (hk : k < bs.length) :
    w.cell? ⟨g, k, none⟩ = some (B8 (bs[k]?.getD 0)) ∧ w.frozen? ⟨g, k, none⟩ = false ∧ base ≤ g := by
  obtain ⟨g', hA, h1, _, h3, h4⟩ := h.form (by omega)
  injection hA with hA
  injection hA with hA _ _
  subst hA
  exact ⟨h3 k hk, h4 k, h1⟩
end Go.Proofs.Ytdglkjpdhnnpnaa
