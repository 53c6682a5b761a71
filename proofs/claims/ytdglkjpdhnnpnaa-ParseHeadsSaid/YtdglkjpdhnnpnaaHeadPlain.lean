/-
  A head that is wrong, plain. No program in sight.
-/
import Derived.Test.YtdglkjpdhnnpnaaParBack
namespace Go.Proofs.Ytdglkjpdhnnpnaa
open Go

theorem headR_gen (s : Str) (h1 : 0 ≤ s.blocks) (h2 : s.blocks ≤ 65535) (h3 : 0 ≤ s.base + 1) (h4 : s.base + 1 ≤ 4294967295) (h5 : 0 ≤ s.id) (h6 : s.id ≤ 4294967295) (hm : s.recs.length ≤ 65535) (tail : List UInt8) :
    headR (headE s ++ tail) = if s.blocks < 1 ∨ 64 < s.blocks then .error 23 else if headB s = false then .error 25 else .ok (⟨s.blocks, s.base, s.id, none, 0, []⟩, s.recs.length) := by
  have hl := headL_length s
  have hlen : (headE s ++ tail).length = 24 + tail.length := by rw [List.length_append, headE_length]
  have e : headE s ++ tail = headL s ++ (bytesN (check (headL s)) 8 ++ tail) := by unfold headE sealB; rw [List.append_assoc]
  obtain ⟨p1, p2, p3, p4⟩ := headL_f s
  have q4 : (headE s ++ tail).take 4 = [0x52, 0x56, 0x53, 0x31] := by rw [e, List.take_append_of_le_length (by omega), headL_4]
  have q16 : (headE s ++ tail).take 16 = headL s := by rw [e]; exact take_app hl
  have d16 : ((headE s ++ tail).drop 16).take 8 = bytesN (check (headL s)) 8 := by rw [e, drop_app hl]; exact take_app (bytesN_length _ _)
  have r1 : numP (((headE s ++ tail).drop 4).take 2) = s.blocks := by rw [e, piece_app (by omega), p1]; exact numP_bytes _ _ (by omega) (by decide) (by simp; omega)
  have r2 : numP (((headE s ++ tail).drop 6).take 4) = s.base + 1 := by rw [e, piece_app (by omega), p2]; exact numP_bytes _ _ (by omega) (by decide) (by simp; omega)
  have r3 : numP (((headE s ++ tail).drop 10).take 4) = s.id := by rw [e, piece_app (by omega), p3]; exact numP_bytes _ _ (by omega) (by decide) (by simp; omega)
  have r4 : numP (((headE s ++ tail).drop 14).take 2) = (s.recs.length : Int) := by rw [e, piece_app (by omega), p4]; exact numP_bytes _ _ (by omega) (by decide) (by simp; omega)
  unfold headR
  rw [if_neg (by omega), if_neg (by rw [q4]; exact fun h => h rfl), if_neg (by omega), if_neg (by rw [q16, d16, getN_bytes8]; exact fun h => h rfl), r1, r2, r3, r4]
  have hs : s.base + 1 - 1 = s.base := by omega
  rw [hs]
  rfl
/-- What a record's or the end's answer may be. -/
theorem recR_code {s : Str} {rest : List UInt8} {c : Int} (h : recR s rest = .error c) : c ≠ 23 ∧ c ≠ 20 ∧ (rest.length < 5 → c = 21) := by
  unfold recR at h
  split at h
  · cases h; exact ⟨by decide, by decide, fun _ => rfl⟩
  rename_i h5
  split at h
  · cases h; exact ⟨by decide, by decide, fun h => absurd h h5⟩
  split at h
  · cases h; exact ⟨by decide, by decide, fun h => absurd h h5⟩
  split at h
  · cases h; exact ⟨by decide, by decide, fun h => absurd h h5⟩
  split at h
  · cases h; exact ⟨by decide, by decide, fun h => absurd h h5⟩
  split at h
  · cases h; exact ⟨by decide, by decide, fun h => absurd h h5⟩
  · cases h
theorem endR_code (b rest : List UInt8) : endR b rest ≠ 23 ∧ endR b rest ≠ 20 := by
  unfold endR
  split
  · exact ⟨by decide, by decide⟩
  split
  · exact ⟨by decide, by decide⟩
  split
  · exact ⟨by decide, by decide⟩
  split
  · exact ⟨by decide, by decide⟩
  · exact ⟨by decide, by decide⟩
/-- One record is told: what is answered behind a head that may be. -/
theorem parse_one {s0 : Str} {rest b : List UInt8} (hb : b.drop 24 = rest) (h : headR b = .ok (s0, 1)) : (∃ p, parseR b = .ok p ∧ 5 ≤ rest.length) ∨ (∃ c, parseR b = .error c ∧ c ≠ 23 ∧ c ≠ 20 ∧ (rest.length < 5 → c = 21)) := by
  unfold parseR
  rw [h]
  simp only []
  rw [hb]
  cases hr : recR s0 rest with
  | error e =>
    right
    obtain ⟨h1, h2, h3⟩ := recR_code hr
    refine ⟨e, ?_, h1, h2, h3⟩
    rw [show recsR 1 s0 rest = .error e by rw [recsR, hr]]
  | ok x =>
    obtain ⟨r, r1⟩ := x
    have h5 : 5 ≤ rest.length := by
      unfold recR at hr
      split at hr
      · cases hr
      · omega
    rw [show recsR 1 s0 rest = .ok (s0.add r, r1) by rw [recsR, hr]; rfl]
    simp only []
    by_cases he : endR b r1 = 0
    · rw [if_pos he]
      exact .inl ⟨_, rfl, h5⟩
    · rw [if_neg he]
      right
      obtain ⟨h1, h2⟩ := endR_code b r1
      exact ⟨_, rfl, h1, h2, fun h => by omega⟩
theorem parse_head {b : List UInt8} {c : Int} (h : headR b = .error c) : parseR b = .error c := by
  unfold parseR
  rw [h]
/-- Other first bytes. -/
theorem parse_magic {b : List UInt8} (h4 : 4 ≤ b.length) (h : b.take 4 ≠ [0x52, 0x56, 0x53, 0x31]) : parseR b = .error 20 := by
  refine parse_head ?_
  unfold headR
  rw [if_neg (by omega), if_pos h]
/-- Another check. -/
theorem parse_check {b : List UInt8} (h24 : 24 ≤ b.length) (h4 : b.take 4 = [0x52, 0x56, 0x53, 0x31]) (h : (b.drop 16).take 8 ≠ bytesN (check (b.take 16)) 8) : parseR b = .error 22 := by
  refine parse_head ?_
  unfold headR
  rw [if_neg (by omega), if_neg (fun h => h h4), if_neg (by omega), if_pos]
  intro hc
  exact h (bytes_check hc (by rw [List.length_take, List.length_drop]; omega)).symm
end Go.Proofs.Ytdglkjpdhnnpnaa
