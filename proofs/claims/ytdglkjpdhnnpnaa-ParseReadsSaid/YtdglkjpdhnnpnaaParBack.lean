/-
  Bytes that are read are just what the stream is written as; with more behind them they are too long. No program in sight.
-/
import Derived.Test.YtdglkjpdhnnpnaaParTrip
namespace Go.Proofs.Ytdglkjpdhnnpnaa
open Go

theorem endR_long (b : List UInt8) (tail : List UInt8) (ht : tail ≠ []) : endR (b ++ (endE (check b) ++ tail)) (endE (check b) ++ tail) = 2 := by
  have hl := endE_len (check b)
  have ht1 : 1 ≤ tail.length := by cases tail with | nil => exact absurd rfl ht | cons x l => simp
  have hl2 : (endE (check b) ++ tail).length = 9 + tail.length := by rw [List.length_append, hl]
  have hb : (b ++ (endE (check b) ++ tail)).length - (9 + tail.length) = b.length := by rw [List.length_append, hl2]; omega
  have e0 : (endE (check b) ++ tail)[0]?.getD 0 = 0x45 := rfl
  have e8 : ((endE (check b) ++ tail).drop 1).take 8 = ((endE (check b)).drop 1).take 8 := piece_app (by omega)
  unfold endR
  rw [hl2, hb, List.take_left, if_neg (by omega), if_neg (by rw [e0]; exact fun h => h rfl), if_neg (by rw [e8, endE_8]; exact fun h => h rfl), if_pos (by omega)]
theorem parseR_err {b : List UInt8} {s s' : Str} {n : Nat} {rest : List UInt8} {c : Int} (h1 : headR b = .ok (s, n)) (h2 : recsR n s (b.drop 24) = .ok (s', rest)) (h3 : endR b rest = c) (hc : c ≠ 0) : parseR b = .error c := by
  subst h3
  unfold parseR
  rw [h1]
  simp only []
  rw [h2]
  simp only []
  rw [if_neg hc]
theorem parse_long (s : Str) (hg : goodB s = true) (tail : List UInt8) (ht : tail ≠ []) : parseR (encE s ++ tail) = .error 2 := by
  have h0 := encE_end s
  have h5 := endR_long (bodyE s) tail ht
  generalize endE (check (bodyE s)) = E at h0 h5
  have hb0 : encE s ++ tail = bodyE s ++ (E ++ tail) := by rw [h0, List.append_assoc]
  rw [← hb0] at h5
  have h1 : encE s ++ tail = headE s ++ ((s.recs.map recE).flatten ++ (E ++ tail)) := by
    rw [hb0, show bodyE s = headE s ++ (s.recs.map recE).flatten from rfl, List.append_assoc]
  have h2 : (encE s ++ tail).drop 24 = (s.recs.map recE).flatten ++ (E ++ tail) := by rw [h1]; exact drop_app (headE_length s)
  have h3 : goodB ((⟨s.blocks, s.base, s.id, none, 0, []⟩ : Str).more (s.recs.map Rec.pl)) = true := by rw [pl_more, goodB_pl]; exact hg
  have h4 : headR (encE s ++ tail) = .ok (⟨s.blocks, s.base, s.id, none, 0, []⟩, s.recs.length) := by rw [h1]; exact headR_enc s hg _
  have h6 : recsR s.recs.length ⟨s.blocks, s.base, s.id, none, 0, []⟩ ((encE s ++ tail).drop 24) = .ok (s.pl, E ++ tail) := by
    rw [h2, recsR_enc s.recs _ h3, pl_more]
  exact parseR_err h4 h6 h5 (by decide)

/-! ### back -/
theorem bytes_numP (b : List UInt8) (k : Nat) (hb : b.length = k) (hk : k ≤ 8) : bytesN (u (numP b)) k = b := by
  subst hb
  rw [u_numP, bytesN_getN b hk]
theorem bytes_check {c : UInt64} {b : List UInt8} (h : c = getN b) (hb : b.length = 8) : bytesN c 8 = b := by
  rw [h, ← hb]
  exact bytesN_getN b (by omega)
theorem headR_back {b : List UInt8} {s : Str} {n : Nat} (h : headR b = .ok (s, n)) : 24 ≤ b.length ∧ headB s = true ∧ s.recs = [] ∧ ∀ l : List Rec, l.length = n → b.take 24 = headE (s.more l) := by
  unfold headR at h
  split at h
  · cases h
  rename_i h4
  split at h
  · cases h
  rename_i hm
  split at h
  · cases h
  rename_i h24
  split at h
  · cases h
  rename_i hc
  split at h
  · cases h
  split at h
  · cases h
  rename_i hh
  have hm' : b.take 4 = [0x52, 0x56, 0x53, 0x31] := Decidable.byContradiction hm
  have hc' : check (b.take 16) = getN ((b.drop 16).take 8) := Decidable.byContradiction hc
  cases h
  refine ⟨by omega, ?_, rfl, ?_⟩
  · cases hb : headB _
    · exact absurd hb hh
    · rfl
  · intro l hl
    have e16 : b.take 16 = b.take 4 ++ ((b.drop 4).take 2 ++ ((b.drop 6).take 4 ++ ((b.drop 10).take 4 ++ (b.drop 14).take 2))) := by
      have s1 : b.take (4 + 12) = b.take 4 ++ (b.drop 4).take 12 := List.take_add
      have s2 : (b.drop 4).take (2 + 10) = (b.drop 4).take 2 ++ ((b.drop 4).drop 2).take 10 := List.take_add
      have s3 : (b.drop 6).take (4 + 6) = (b.drop 6).take 4 ++ ((b.drop 6).drop 4).take 6 := List.take_add
      have s4 : (b.drop 10).take (4 + 2) = (b.drop 10).take 4 ++ ((b.drop 10).drop 4).take 2 := List.take_add
      rw [List.drop_drop] at s2 s3 s4
      rw [show (16 : Nat) = 4 + 12 from rfl, s1, show (12 : Nat) = 2 + 10 from rfl, s2, show (10 : Nat) = 4 + 6 from rfl, s3]
      rw [show (6 : Nat) = 4 + 2 from rfl, s4]
    have d2 : ((b.drop 4).take 2).length = 2 := by rw [List.length_take, List.length_drop]; omega
    have d4 : ((b.drop 6).take 4).length = 4 := by rw [List.length_take, List.length_drop]; omega
    have d5 : ((b.drop 10).take 4).length = 4 := by rw [List.length_take, List.length_drop]; omega
    have d6 : ((b.drop 14).take 2).length = 2 := by rw [List.length_take, List.length_drop]; omega
    have d8 : ((b.drop 16).take 8).length = 8 := by rw [List.length_take, List.length_drop]; omega
    have hn0 := numP_nonneg ((b.drop 14).take 2)
    have hL : headL ((⟨numP ((b.drop 4).take 2), numP ((b.drop 6).take 4) - 1, numP ((b.drop 10).take 4), none, 0, []⟩ : Str).more l) = b.take 16 := by
      unfold headL
      show _ ++ (bytesN (u (numP ((b.drop 4).take 2))) 2 ++ (bytesN (u (numP ((b.drop 6).take 4) - 1 + 1)) 4 ++ (bytesN (u (numP ((b.drop 10).take 4))) 4 ++ bytesN (u ((([] ++ l : List Rec).length : Nat) : Int)) 2))) = _
      rw [List.nil_append, hl, show numP ((b.drop 6).take 4) - 1 + 1 = numP ((b.drop 6).take 4) by omega, show (((numP ((b.drop 14).take 2)).toNat : Nat) : Int) = numP ((b.drop 14).take 2) by omega,
        bytes_numP _ 2 d2 (by decide), bytes_numP _ 4 d4 (by decide), bytes_numP _ 4 d5 (by decide), bytes_numP _ 2 d6 (by decide), e16, hm']
    unfold headE sealB
    rw [hL, bytes_check hc' d8]
    exact List.take_add (i := 16) (j := 8)
theorem recR_back {s : Str} {rest rest' : List UInt8} {r : Rec} (h : recR s rest = .ok (r, rest')) : rest = recE r ++ rest' ∧ goodB (s.add r) = true := by
  unfold recR at h
  split at h
  · cases h
  rename_i h5
  split at h
  · cases h
  rename_i hk
  split at h
  · cases h
  split at h
  · cases h
  rename_i hs
  split at h
  · cases h
  rename_i hc
  split at h
  · cases h
  rename_i hg
  have hc' : check (rest.take (5 + sizeR rest)) = getN ((rest.drop (5 + sizeR rest)).take 8) := Decidable.byContradiction hc
  cases h
  refine ⟨?_, ?_⟩
  · have d2 : ((rest.drop 1).take 2).length = 2 := by rw [List.length_take, List.length_drop]; omega
    have d3 : ((rest.drop 3).take 2).length = 2 := by rw [List.length_take, List.length_drop]; omega
    have d8 : ((rest.drop (5 + sizeR rest)).take 8).length = 8 := by rw [List.length_take, List.length_drop]; omega
    have hk0 : kindOf (recOfB rest) = rest[0]?.getD 0 := by
      unfold kindOf recOfB
      by_cases h1 : rest[0]?.getD 0 = 1
      · rw [h1]; rfl
      · have h2 : rest[0]?.getD 0 = 2 := by
          by_cases h2 : rest[0]?.getD 0 = 2
          · exact h2
          · exact absurd ⟨h1, h2⟩ hk
        rw [h2]; rfl
    have t1 : rest.take 1 = [rest[0]?.getD 0] := by
      match rest, h5 with
      | [], h => exact absurd (show ([] : List UInt8).length < 5 by decide) h
      | x :: l, _ => rfl
    have eL : rest.take (5 + sizeR rest) = recL (recOfB rest) := by
      have s1 : rest.take (1 + (4 + sizeR rest)) = rest.take 1 ++ (rest.drop 1).take (4 + sizeR rest) := List.take_add
      have s2 : (rest.drop 1).take (2 + (2 + sizeR rest)) = (rest.drop 1).take 2 ++ ((rest.drop 1).drop 2).take (2 + sizeR rest) := List.take_add
      have s3 : (rest.drop 3).take (2 + sizeR rest) = (rest.drop 3).take 2 ++ ((rest.drop 3).drop 2).take (sizeR rest) := List.take_add
      rw [List.drop_drop] at s2 s3
      unfold recL
      rw [hk0]
      show _ = _ ++ (bytesN (u (numP ((rest.drop 1).take 2))) 2 ++ (bytesN (u (numP ((rest.drop 3).take 2))) 2 ++ (rest.drop 5).take (sizeR rest)))
      rw [bytes_numP _ 2 d2 (by decide), bytes_numP _ 2 d3 (by decide), ← t1, show 5 + sizeR rest = 1 + (4 + sizeR rest) by omega, s1, show 4 + sizeR rest = 2 + (2 + sizeR rest) by omega, s2, s3]
    unfold recE sealB
    rw [← eL, bytes_check hc' d8]
    rw [← List.take_add, List.take_append_drop]
  · cases hb : goodB _
    · exact absurd hb hg
    · rfl
theorem recsR_back : ∀ (n : Nat) {s s' : Str} {rest rest' : List UInt8}, recsR n s rest = .ok (s', rest') → ∃ l, l.length = n ∧ s' = s.more l ∧ rest = (l.map recE).flatten ++ rest' ∧ (n = 0 ∨ goodB s' = true)
  | 0, s, s', rest, rest', h => by
    have h' : (Except.ok (s, rest) : Except Int (Str × List UInt8)) = .ok (s', rest') := h
    cases h'
    exact ⟨[], rfl, by simp [Str.more], rfl, .inl rfl⟩
  | n + 1, s, s', rest, rest', h => by
    rw [recsR] at h
    cases hr : recR s rest with
    | error e => rw [hr] at h; cases h
    | ok x =>
      obtain ⟨r, r1⟩ := x
      rw [hr] at h
      have h' : recsR n (s.add r) r1 = .ok (s', rest') := h
      obtain ⟨e1, g1⟩ := recR_back hr
      obtain ⟨l, hl, hs, he, hg⟩ := recsR_back n h'
      refine ⟨r :: l, by simp [hl], by rw [hs, more_add], by rw [e1, he]; simp, .inr ?_⟩
      rcases hg with hg | hg
      · subst hg
        obtain rfl := List.eq_nil_of_length_eq_zero hl
        rw [hs]
        have : (s.add r).more [] = s.add r := by simp [Str.more, Str.add]
        rw [this]
        exact g1
      · exact hg
theorem endR_back {b X rest : List UInt8} (hb : b = X ++ rest) (h : endR b rest = 0) : rest = endE (check X) := by
  have hX : b.take (b.length - rest.length) = X := by rw [hb, List.length_append, Nat.add_sub_cancel, List.take_left]
  unfold endR at h
  rw [hX] at h
  split at h
  · cases h
  rename_i h9
  split at h
  · cases h
  rename_i h0
  split at h
  · cases h
  rename_i hc
  split at h
  · cases h
  rename_i hl
  have h0' : rest[0]?.getD 0 = 0x45 := Decidable.byContradiction h0
  have hc' : check X = getN ((rest.drop 1).take 8) := Decidable.byContradiction hc
  have hlen : rest.length = 9 := by omega
  have t1 : rest.take 1 = [rest[0]?.getD 0] := by
    match rest, h9 with
    | [], h => exact absurd (show ([] : List UInt8).length < 9 by decide) h
    | x :: l, _ => rfl
  have d8 : ((rest.drop 1).take 8).length = 8 := by rw [List.length_take, List.length_drop]; omega
  have e8 : (rest.drop 1).take 8 = rest.drop 1 := List.take_of_length_le (by rw [List.length_drop]; omega)
  unfold endE
  rw [bytes_check hc' d8, e8, ← h0', ← t1, List.take_append_drop]
/-- P17.2: bytes that are read are just what the stream is written as. -/
theorem parse_back {b : List UInt8} {s : Str} (h : parseR b = .ok s) : encE s = b ∧ goodB s = true := by
  unfold parseR at h
  cases hh : headR b with
  | error e => rw [hh] at h; cases h
  | ok x =>
    obtain ⟨s0, n⟩ := x
    rw [hh] at h
    simp only [] at h
    cases hr : recsR n s0 (b.drop 24) with
    | error e => rw [hr] at h; cases h
    | ok y =>
      obtain ⟨s', rest⟩ := y
      rw [hr] at h
      simp only [] at h
      split at h
      · rename_i he
        cases h
        obtain ⟨h24, hhb, hrn, hhead⟩ := headR_back hh
        obtain ⟨l, hl, hs, hrest, hg⟩ := recsR_back n hr
        have hb1 : b = headE (s0.more l) ++ ((l.map recE).flatten ++ rest) := by
          rw [← hhead l hl, ← hrest, List.take_append_drop]
        have hrl : (s0.more l).recs = l := by simp [Str.more, hrn]
        have hbody : bodyE (s0.more l) = headE (s0.more l) ++ (l.map recE).flatten := by unfold bodyE; rw [hrl]
        have hb2 : b = bodyE (s0.more l) ++ rest := by rw [hbody, List.append_assoc]; exact hb1
        have he2 := endR_back hb2 he
        refine ⟨?_, ?_⟩
        · rw [hs, encE_end, ← he2]
          exact hb2.symm
        · rcases hg with hg | hg
          · subst hg
            obtain rfl := List.eq_nil_of_length_eq_zero hl
            rw [hs]
            unfold goodB
            rw [hrl]
            show (headB s0 && true) = true
            rw [hhb]
            rfl
          · exact hg
      · cases h
end Go.Proofs.Ytdglkjpdhnnpnaa
