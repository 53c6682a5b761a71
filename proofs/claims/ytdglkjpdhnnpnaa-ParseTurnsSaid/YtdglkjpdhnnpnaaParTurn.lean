/-
  A stream's bytes cut short are too short; with a byte turned they are not taken. No program in sight.
-/
import Derived.Test.YtdglkjpdhnnpnaaParBack
namespace Go.Proofs.Ytdglkjpdhnnpnaa
open Go

theorem recR_short (s : Str) (r : Rec) (hg : goodB (s.add r.pl) = true) (j : Nat) (hj : j < (recE r).length) : recR s ((recE r).take j) = .error 21 := by
  obtain ⟨h1, h2, _⟩ := good_head hg
  have hb : recB s.blocks s.base r = true := by
    have h := (good_recs hg s.recs.length (by simp [Str.add])).2
    have e : (s.add r.pl).recs[s.recs.length]'(by simp [Str.add]) = r.pl := by simp [Str.add]
    rw [e] at h
    exact h
  obtain ⟨b1, b2, b3, b4, b5⟩ := recB_bounds hb
  have hL := recL_length r
  rw [recE_length] at hj
  have hlen : ((recE r).take j).length = j := by rw [List.length_take, recE_length]; omega
  unfold recR
  by_cases h5 : j < 5
  · rw [if_pos (by rw [hlen]; exact h5)]
  have e : recE r = recL r ++ bytesN (check (recL r)) 8 := rfl
  have ht5 : ((recE r).take j).take 5 = (recL r).take 5 := by rw [List.take_take, Nat.min_eq_left (by omega), e, List.take_append_of_le_length (by omega)]
  obtain ⟨k0, f1, f2, f3, f4⟩ := recOf_enc r s.blocks s.base hb h2 ((recE r).take j) ht5
  have hk : kindOf r = 1 ∨ kindOf r = 2 := by unfold kindOf; cases r.zs <;> simp
  have ho1 : (recOfB ((recE r).take j)).ct = r.ct := f2
  have ho2 : (recOfB ((recE r).take j)).fr = r.fr := f1
  rw [if_neg (by omega), if_neg (by rw [k0]; rcases hk with h | h <;> rw [h] <;> decide), ho1, ho2, if_neg (by omega), f3, if_pos (by omega)]
theorem recsR_short (E : List UInt8) (hE : E.length = 9) : ∀ (l : List Rec) (s : Str), goodB (s.more (l.map Rec.pl)) = true → ∀ j, j < ((l.map recE).flatten ++ E).length →
    recsR l.length s (((l.map recE).flatten ++ E).take j) = .error 21 ∨ ∃ s' rest, recsR l.length s (((l.map recE).flatten ++ E).take j) = .ok (s', rest) ∧ rest.length < 9
  | [], s, _, j, hj => by
    right
    refine ⟨s, E.take j, rfl, ?_⟩
    have hj' : j < E.length := hj
    rw [List.length_take]
    omega
  | r :: l, s, hg, j, hj => by
    have h1 : goodB (s.add r.pl) = true := by
      have : goodB { s with recs := (s.recs ++ [r.pl]) ++ l.map Rec.pl } = true := by
        have e : s.more ((r :: l).map Rec.pl) = { s with recs := (s.recs ++ [r.pl]) ++ l.map Rec.pl } := by simp [Str.more]
        rw [← e]
        exact hg
      exact good_prefix this
    have h2 : goodB ((s.add r.pl).more (l.map Rec.pl)) = true := by rw [more_add]; exact hg
    have e : ((r :: l).map recE).flatten ++ E = recE r ++ ((l.map recE).flatten ++ E) := by simp
    rw [e, List.length_append] at hj
    rw [e, List.length_cons]
    by_cases hjr : j < (recE r).length
    · left
      rw [List.take_append_of_le_length (by omega)]
      unfold recsR
      rw [recR_short s r h1 j hjr]
    · have e2 : (recE r ++ ((l.map recE).flatten ++ E)).take j = recE r ++ ((l.map recE).flatten ++ E).take (j - (recE r).length) := by
        rw [List.take_append, List.take_of_length_le (by omega)]
      rw [e2]
      unfold recsR
      rw [recR_enc s r h1]
      exact recsR_short E hE l (s.add r.pl) h2 _ (by omega)
/-- P17.1: cut short anywhere, too short. -/
theorem parse_short (s : Str) (hg : goodB s = true) (k : Nat) (hk : k < (encE s).length) : parseR ((encE s).take k) = .error 21 := by
  have hlen : ((encE s).take k).length = k := by rw [List.length_take]; omega
  have hl := headL_length s
  have h0 := encE_end s
  have hE := endE_len (check (bodyE s))
  generalize endE (check (bodyE s)) = E at h0 hE
  have h1 : encE s = headE s ++ ((s.recs.map recE).flatten ++ E) := by
    rw [h0, show bodyE s = headE s ++ (s.recs.map recE).flatten from rfl, List.append_assoc]
  have hH := headE_length s
  by_cases h24 : k < 24
  · have hh : headR ((encE s).take k) = .error 21 := by
      unfold headR
      by_cases h4 : k < 4
      · rw [if_pos (by omega)]
      · have ht : ((encE s).take k).take 4 = [0x52, 0x56, 0x53, 0x31] := by
          rw [List.take_take, Nat.min_eq_left (by omega), h1, List.take_append_of_le_length (by omega)]
          show ((headL s) ++ _).take 4 = _
          rw [List.take_append_of_le_length (by omega), headL_4]
        rw [if_neg (by omega), if_neg (by rw [ht]; exact fun h => h rfl), if_pos (by omega)]
    unfold parseR
    rw [hh]
  · rw [h1, List.length_append] at hk
    have e : (encE s).take k = headE s ++ ((s.recs.map recE).flatten ++ E).take (k - 24) := by
      rw [h1, List.take_append, List.take_of_length_le (by omega), hH]
    have h4 : headR ((encE s).take k) = .ok (⟨s.blocks, s.base, s.id, none, 0, []⟩, s.recs.length) := by rw [e]; exact headR_enc s hg _
    have h3 : goodB ((⟨s.blocks, s.base, s.id, none, 0, []⟩ : Str).more (s.recs.map Rec.pl)) = true := by rw [pl_more, goodB_pl]; exact hg
    have hd : ((encE s).take k).drop 24 = ((s.recs.map recE).flatten ++ E).take (k - 24) := by rw [e]; exact drop_app hH
    rcases recsR_short E hE s.recs ⟨s.blocks, s.base, s.id, none, 0, []⟩ h3 (k - 24) (by omega) with h | ⟨s', rest, h, h9⟩
    · unfold parseR
      rw [h4]
      simp only []
      rw [hd, h]
    · refine parseR_err h4 (by rw [hd]; exact h) ?_ (by decide)
      unfold endR
      rw [if_pos h9]

theorem endE_inj {c d : UInt64} (h : endE c = endE d) : c = d := by
  have h1 := endE_8 c
  rw [h, endE_8] at h1
  exact h1.symm
theorem set_left {α : Type} (a b : List α) (k : Nat) (v : α) (h : k < a.length) : (a ++ b).set k v = a.set k v ++ b := by
  rw [List.set_append, if_pos h]
theorem set_right {α : Type} (a b : List α) (k : Nat) (v : α) (h : a.length ≤ k) : (a ++ b).set k v = a ++ b.set (k - a.length) v := by
  rw [List.set_append, if_neg (by omega)]
/-- One byte turned: not taken. -/
theorem parse_turned (s : Str) (k : Nat) (hk : k < (encE s).length) (y : UInt8) (hy : y ≠ (encE s)[k]) : ∃ c, parseR ((encE s).set k y) = .error c := by
  cases hp : parseR ((encE s).set k y) with
  | error c => exact ⟨c, rfl⟩
  | ok t =>
    exfalso
    obtain ⟨h1, h2⟩ := parse_back hp
    have hne : (encE s).set k y ≠ encE s := by
      intro e
      have h3 : ((encE s).set k y)[k]? = (encE s)[k]? := by rw [e]
      rw [List.getElem?_set_self hk, List.getElem?_eq_getElem hk] at h3
      exact hy (Option.some.inj h3)
    have hl : (bodyE t).length = (bodyE s).length := by
      have h4 := congrArg List.length h1
      rw [List.length_set, encE_length, encE_length] at h4
      omega
    have es := encE_end s
    have et := encE_end t
    rw [et] at h1
    by_cases hkb : k < (bodyE s).length
    · rw [es, set_left _ _ _ _ hkb] at h1
      obtain ⟨e1, e2⟩ := List.append_inj h1 (by rw [List.length_set, hl])
      have e3 := endE_inj e2
      rw [e1] at e3
      have e4 : y = (bodyE s)[k] := (more_set _ _ _ hkb _).1 e3
      apply hy
      have e5 : (encE s)[k]? = (bodyE s)[k]? := by rw [es, List.getElem?_append_left hkb]
      rw [List.getElem?_eq_getElem hk, List.getElem?_eq_getElem hkb] at e5
      rw [e4]
      exact (Option.some.inj e5).symm
    · rw [es, set_right _ _ _ _ (by omega)] at h1
      obtain ⟨e1, e2⟩ := List.append_inj h1 hl
      apply hne
      rw [es, set_right _ _ _ _ (by omega), ← e2, e1]
end Go.Proofs.Ytdglkjpdhnnpnaa
