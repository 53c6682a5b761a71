/-
  Plain laws on marked sectors: no program in sight.
-/
import Derived.Test.YthieeidbfdhaaaaPagePlain
import Derived.Test.YthieeidbfdhaaaaFnvLaw
namespace Go.Proofs.Ythieeidbfdhaaaa
open Go

theorem bytesN_inj8 {a b : UInt64} (h : bytesN a 8 = bytesN b 8) : a = b := by
  have h1 := congrArg leVal h
  rw [bytesN_val, bytesN_val] at h1
  have ha := a.toNat_lt
  have hb := b.toNat_lt
  apply UInt64.toNat_inj.1
  rw [Nat.mod_eq_of_lt (by omega), Nat.mod_eq_of_lt (by omega)] at h1
  exact h1

theorem seq_back (s : UInt32) : (getN (bytesN s.toUInt64 4)).toUInt32 = s := by
  apply UInt32.toNat_inj.1
  rw [UInt64.toNat_toUInt32, getN_bytesN, UInt32.toNat_toUInt64]
  have := s.toNat_lt
  rw [Nat.min_eq_left (by omega), Nat.mod_eq_of_lt (show s.toNat < 256 ^ 4 by omega), Nat.mod_eq_of_lt (by omega)]
theorem idx_back (i : Int) (h0 : 0 ≤ i) (h1 : i ≤ 65535) : ((getN (bytesN (UInt64.ofNat i.toNat) 2)).toNat : Int) = i := by
  rw [getN_bytesN, UInt64.toNat_ofNat', Nat.min_eq_left (by omega), Nat.mod_eq_of_lt (show i.toNat < 2 ^ 64 by omega), Nat.mod_eq_of_lt (show i.toNat < 256 ^ 2 by omega)]
  omega

/-- A sector's bytes, from the head on: what Decode looks at. -/
theorem Sec.of_parts (m x1 x2 x3 x4 y1 y2 : UInt8) (body rest : List UInt8) (hb : body.length = 48) :
    Sec.of (m :: x1 :: x2 :: x3 :: x4 :: y1 :: y2 :: (body ++ rest)) = ⟨m, (getN [x1, x2, x3, x4]).toUInt32, ((getN [y1, y2]).toNat : Int), body⟩ := by
  simp [Sec.of, hb]

theorem four_of {l : List UInt8} (h : l.length = 4) : ∃ a b c d, l = [a, b, c, d] := by
  match l, h with
  | [a, b, c, d], _ => exact ⟨a, b, c, d, rfl⟩
theorem two_of' {l : List UInt8} (h : l.length = 2) : ∃ a b, l = [a, b] := by
  match l, h with
  | [a, b], _ => exact ⟨a, b, rfl⟩

/-- 64 bytes by their parts. -/
theorem split64 {b : List UInt8} (h : b.length = 64) : ∃ m x1 x2 x3 x4 y1 y2, ∃ body rest : List UInt8, body.length = 48 ∧ rest.length = 9 ∧ b = m :: x1 :: x2 :: x3 :: x4 :: y1 :: y2 :: (body ++ rest) := by
  match b, h with
  | m :: x1 :: x2 :: x3 :: x4 :: y1 :: y2 :: t, h =>
    simp at h
    refine ⟨m, x1, x2, x3, x4, y1, y2, t.take 48, t.drop 48, by simp; omega, by simp; omega, by simp⟩

/-- The head that is written of the sector of bytes is these bytes' head. -/
theorem head_of {b : List UInt8} (h : b.length = 64) : (Sec.of b).head = b.take 55 := by
  obtain ⟨m, x1, x2, x3, x4, y1, y2, body, rest, hb, hr, rfl⟩ := split64 h
  rw [Sec.of_parts _ _ _ _ _ _ _ _ _ hb]
  have h4 : bytesN ((getN [x1, x2, x3, x4]).toUInt32.toUInt64) 4 = [x1, x2, x3, x4] := by
    have e : (getN [x1, x2, x3, x4]).toUInt32.toUInt64 = getN [x1, x2, x3, x4] := by
      apply UInt64.toNat_inj.1
      have hl : (getN [x1, x2, x3, x4]).toNat < 4294967296 := by
        rw [getN_nat]
        have := leVal_lt ([x1, x2, x3, x4].take 8)
        simpa using this
      rw [UInt32.toNat_toUInt64, UInt64.toNat_toUInt32, Nat.mod_eq_of_lt hl]
    rw [e]
    exact bytesN_getN [x1, x2, x3, x4] (by simp)
  have h2 : bytesN (UInt64.ofNat (((getN [y1, y2]).toNat : Int)).toNat) 2 = [y1, y2] := by
    have e : UInt64.ofNat (((getN [y1, y2]).toNat : Int)).toNat = getN [y1, y2] := by simp
    rw [e]
    exact bytesN_getN [y1, y2] (by simp)
  unfold Sec.head
  rw [h4, h2]
  simp [hb]

theorem enc_of {b : List UInt8} (h : b.length = 64) : (Sec.of b).enc = b.take 55 ++ bytesN (check (b.take 55)) 8 ++ [0] := by
  unfold Sec.enc
  rw [head_of h]

theorem of_enc (s : Sec) (hb : s.body.length = 48) (h0 : 0 ≤ s.idx) (h1 : s.idx ≤ 65535) : Sec.of s.enc = s := by
  obtain ⟨a, b, c, d, h4⟩ := four_of (bytesN_length s.seq.toUInt64 4)
  obtain ⟨y, z, h2⟩ := two_of' (bytesN_length (UInt64.ofNat s.idx.toNat) 2)
  have e : s.enc = s.mark :: a :: b :: c :: d :: y :: z :: (s.body ++ (bytesN (check s.head) 8 ++ [0])) := by
    show s.head ++ bytesN (check s.head) 8 ++ [0] = _
    generalize bytesN (check s.head) 8 = x
    unfold Sec.head
    rw [h4, h2]
    simp
  rw [e, Sec.of_parts _ _ _ _ _ _ _ _ _ hb, ← h4, ← h2, seq_back, idx_back _ h0 h1]

theorem ok_iff (s : Sec) : s.ok = true ↔ s.mark ≠ 0 ∧ 0 ≤ s.idx ∧ s.idx ≤ 65535 := by simp [Sec.ok]

theorem decode_enc (s : Sec) (hb : s.body.length = 48) (hok : s.ok = true) : decode s.enc = (s, 0) := by
  obtain ⟨_, h0, h1⟩ := (ok_iff s).1 hok
  unfold decode
  rw [of_enc s hb h0 h1, hok]
  simp
theorem decode_bad {b : List UInt8} (h : (decode b).2 ≠ 0) : decode b = (Sec.none, 11) := by
  unfold decode at h ⊢
  split
  · rename_i hc
    rw [if_pos hc] at h
    exact absurd rfl h
  · rfl
theorem decode_cases (b : List UInt8) : ((decode b).2 = 0 ∧ (Sec.of b).ok = true ∧ (Sec.of b).enc = b ∧ decode b = (Sec.of b, 0)) ∨ decode b = (Sec.none, 11) := by
  unfold decode
  split
  · rename_i hc
    simp at hc
    exact .inl ⟨rfl, hc.1, hc.2, rfl⟩
  · exact .inr rfl
theorem decode_body (b : List UInt8) (h : b.length = 64) : (decode b).1.body.length = 48 := by
  rcases decode_cases b with ⟨_, _, _, e⟩ | e
  · rw [e]
    simp [Sec.of]
    omega
  · rw [e]
    rfl

/-- Bytes that a sector is written as, one of them turned: they are a sector's bytes just if nothing was turned. -/
theorem of_set {b : List UInt8} (hl : b.length = 64) (he0 : (Sec.of b).enc = b) (k : Nat) (hk : k < b.length) (v : UInt8) (he : (Sec.of (b.set k v)).enc = b.set k v) : v = b[k] := by
  have hl' : (b.set k v).length = 64 := by rw [List.length_set, hl]
  rw [enc_of hl'] at he
  rw [enc_of hl] at he0
  by_cases hk5 : k < 55
  · have ht : (b.set k v).take 55 = (b.take 55).set k v := by rw [List.take_set]
    have hd : (b.set k v).drop 55 = b.drop 55 := by rw [List.drop_set_of_lt (by omega)]
    have e1 : (b.set k v).drop 55 = bytesN (check ((b.set k v).take 55)) 8 ++ [0] := by
      conv => lhs; rw [← he]
      rw [List.append_assoc, List.drop_left' (by simp; omega)]
    have e2 : b.drop 55 = bytesN (check (b.take 55)) 8 ++ [0] := by
      conv => lhs; rw [← he0]
      rw [List.append_assoc, List.drop_left' (by simp; omega)]
    rw [hd, e2, ht] at e1
    have e3 := bytesN_inj8 (List.append_cancel_right e1)
    have e4 := (more_set basis (b.take 55) k (by simp; omega) v).1 e3.symm
    rw [List.getElem_take] at e4
    exact e4
  · have ht : (b.set k v).take 55 = b.take 55 := by rw [List.take_set_of_le (by omega)]
    rw [ht, he0] at he
    have h2 : b[k]? = (b.set k v)[k]? := by rw [← he]
    rw [List.getElem?_set_self (by omega), List.getElem?_eq_getElem (by omega)] at h2
    exact (Option.some.inj h2).symm

/-- One byte turned: the sector of the bytes is there just if nothing was turned. -/
theorem decode_set (s : Sec) (hb : s.body.length = 48) (hok : s.ok = true) (k : Nat) (hk : k < s.enc.length) (v : UInt8) :
    (decode (s.enc.set k v)).2 = 0 ↔ v = s.enc[k] := by
  have hl := s.enc_length hb
  obtain ⟨_, h0, h1⟩ := (ok_iff s).1 hok
  constructor
  · intro h
    rcases decode_cases (s.enc.set k v) with ⟨_, _, he, _⟩ | e
    · exact of_set hl (by rw [of_enc s hb h0 h1]) k hk v he
    · rw [e] at h
      cases h
  · intro h
    rw [h, List.set_getElem_self, decode_enc s hb hok]

theorem decode_turned (s : Sec) (hb : s.body.length = 48) (hok : s.ok = true) (k : Nat) (hk : k < s.enc.length) (v : UInt8) :
    (decode (s.enc.set k (s.enc[k] ^^^ v))).2 = 0 ↔ v = 0 := by
  rw [decode_set s hb hok k hk, xor_eq_self]

/-- Two sectors that differ have different bytes. -/
theorem enc_inj {s t : Sec} (hs : s.body.length = 48) (ht : t.body.length = 48) (ks : s.ok = true) (kt : t.ok = true) : s.enc = t.enc ↔ s = t := by
  constructor
  · intro h
    obtain ⟨_, h0, h1⟩ := (ok_iff s).1 ks
    obtain ⟨_, k0, k1⟩ := (ok_iff t).1 kt
    rw [← of_enc s hs h0 h1, h, of_enc t ht k0 k1]
  · rintro rfl
    rfl

end Go.Proofs.Ythieeidbfdhaaaa
