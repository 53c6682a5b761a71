/-
  Reading a stream's bytes, plain. No program in sight.
-/
import Derived.Test.YtdglkjpdhnnpnaaStrLit
namespace Go.Proofs.Ytdglkjpdhnnpnaa
open Go

def Rec.pl (r : Rec) : Rec := { r with A := none, cap := 0 }
def Str.pl (s : Str) : Str := { s with A := none, cap := 0, recs := s.recs.map Rec.pl }
theorem recB_pl (a b : Int) (r : Rec) : recB a b r.pl = recB a b r := rfl
theorem recE_pl (r : Rec) : recE r.pl = recE r := rfl
theorem recsB_pl (a b : Int) : ∀ (l : List Rec) (p : Option Rec), recsB a b (p.map Rec.pl) (l.map Rec.pl) = recsB a b p l
  | [], _ => rfl
  | r :: l, p => by
    rw [List.map_cons, recsB_cons, recsB_cons]
    have := recsB_pl a b l (some r)
    rw [Option.map_some] at this
    rw [this, recB_pl]
    cases p <;> rfl
theorem goodB_pl (s : Str) : goodB s.pl = goodB s := by
  unfold goodB
  have := recsB_pl s.blocks s.base s.recs none
  rw [Option.map_none] at this
  show (headB s.pl && recsB s.blocks s.base none (s.recs.map Rec.pl)) = _
  rw [this]
  rfl
theorem encE_pl (s : Str) : encE s.pl = encE s := by
  have h : headL s.pl = headL s := by
    unfold headL
    show _ ++ (bytesN (u s.blocks) 2 ++ (bytesN (u (s.base + 1)) 4 ++ (bytesN (u s.id) 4 ++ bytesN (u ((s.recs.map Rec.pl).length : Nat)) 2))) = _
    rw [List.length_map]
  have h2 : (s.recs.map Rec.pl).map recE = s.recs.map recE := by rw [List.map_map]; rfl
  have hb : bodyE s.pl = bodyE s := by
    unfold bodyE headE
    rw [h]
    exact congrArg (fun l => sealB (headL s) ++ l.flatten) h2
  unfold encE
  rw [hb]

/-- A number of up to four bytes. -/
def numP (b : List UInt8) : Int := ((getN b).toNat : Int)
theorem numP_bytes (x : Int) (k : Nat) (h0 : 0 ≤ x) (hk : k ≤ 4) (h : x < ((256 ^ k : Nat) : Int)) : numP (bytesN (u x) k) = x := by
  have h4 : (256 ^ k : Nat) ≤ 256 ^ 4 := Nat.pow_le_pow_right (by omega) hk
  have h5 : (256 ^ 4 : Nat) = 4294967296 := by simp
  rw [h5] at h4
  unfold numP
  rw [getN_bytesN, Nat.min_eq_left (by omega)]
  have e : (u x).toNat = x.toNat := by
    unfold u
    rw [UInt64.toNat_ofNat']
    exact Nat.mod_eq_of_lt (show x.toNat < 18446744073709551616 by omega)
  rw [e]
  generalize (256 ^ k : Nat) = q at h h4
  rw [Nat.mod_eq_of_lt (by omega)]
  omega
theorem numP_nonneg (b : List UInt8) : 0 ≤ numP b := by unfold numP; omega
theorem u_numP (b : List UInt8) : u (numP b) = getN b := by
  unfold u numP
  rw [Int.toNat_natCast, UInt64.ofNat_toNat]

/-- The head, and how many records there are. -/
def headR (b : List UInt8) : Except Int (Str × Nat) :=
  if b.length < 4 then .error 21
  else if b.take 4 ≠ [0x52, 0x56, 0x53, 0x31] then .error 20
  else if b.length < 24 then .error 21
  else if check (b.take 16) ≠ getN ((b.drop 16).take 8) then .error 22
  else if numP ((b.drop 4).take 2) < 1 ∨ 64 < numP ((b.drop 4).take 2) then .error 23
  else if headB ⟨numP ((b.drop 4).take 2), numP ((b.drop 6).take 4) - 1, numP ((b.drop 10).take 4), none, 0, []⟩ = false then .error 25
  else .ok (⟨numP ((b.drop 4).take 2), numP ((b.drop 6).take 4) - 1, numP ((b.drop 10).take 4), none, 0, []⟩, (numP ((b.drop 14).take 2)).toNat)
def Str.add (s : Str) (r : Rec) : Str := { s with recs := s.recs ++ [r] }
/-- How many bytes a record's blocks have. -/
def sizeR (rest : List UInt8) : Nat := if rest[0]?.getD 0 = 1 then (numP ((rest.drop 3).take 2)).toNat * 64 else 0
def recOfB (rest : List UInt8) : Rec := ⟨numP ((rest.drop 1).take 2), numP ((rest.drop 3).take 2), rest[0]?.getD 0 == 2, none, 0, (rest.drop 5).take (sizeR rest)⟩
def recR (s : Str) (rest : List UInt8) : Except Int (Rec × List UInt8) :=
  if rest.length < 5 then .error 21
  else if rest[0]?.getD 0 ≠ 1 ∧ rest[0]?.getD 0 ≠ 2 then .error 11
  else if (recOfB rest).ct < 1 ∨ s.blocks ≤ (recOfB rest).fr ∨ s.blocks - (recOfB rest).fr < (recOfB rest).ct then .error 25
  else if rest.length < 5 + sizeR rest + 8 then .error 21
  else if check (rest.take (5 + sizeR rest)) ≠ getN ((rest.drop (5 + sizeR rest)).take 8) then .error 22
  else if goodB (s.add (recOfB rest)) = false then .error 26
  else .ok (recOfB rest, rest.drop (5 + sizeR rest + 8))
def recsR : Nat → Str → List UInt8 → Except Int (Str × List UInt8)
  | 0, s, rest => .ok (s, rest)
  | n + 1, s, rest =>
    match recR s rest with
    | .error e => .error e
    | .ok (r, rest') => recsR n (s.add r) rest'
/-- The end's answer. -/
def endR (b rest : List UInt8) : Int :=
  if rest.length < 9 then 21
  else if rest[0]?.getD 0 ≠ 0x45 then 11
  else if check (b.take (b.length - rest.length)) ≠ getN ((rest.drop 1).take 8) then 22
  else if 9 < rest.length then 2
  else 0
def parseR (b : List UInt8) : Except Int Str :=
  match headR b with
  | .error e => .error e
  | .ok (s, n) =>
    match recsR n s (b.drop 24) with
    | .error e => .error e
    | .ok (s', rest) => if endR b rest = 0 then .ok s' else .error (endR b rest)

/-! ### what is written is read -/
theorem take_app {α : Type} {a b : List α} {n : Nat} (h : a.length = n) : (a ++ b).take n = a := by rw [← h, List.take_left]
theorem drop_app {α : Type} {a b : List α} {n : Nat} (h : a.length = n) : (a ++ b).drop n = b := by rw [← h, List.drop_left]
theorem getN_bytes8 (n : UInt64) : getN (bytesN n 8) = n := by
  apply UInt64.toNat_inj.1
  rw [getN_bytesN]
  have := n.toNat_lt
  exact Nat.mod_eq_of_lt this

theorem headL_4 (s : Str) : (headL s).take 4 = [0x52, 0x56, 0x53, 0x31] := by
  unfold headL
  exact take_app rfl
theorem headL_f (s : Str) : ((headL s).drop 4).take 2 = bytesN (u s.blocks) 2 ∧ ((headL s).drop 6).take 4 = bytesN (u (s.base + 1)) 4 ∧ ((headL s).drop 10).take 4 = bytesN (u s.id) 4 ∧ ((headL s).drop 14).take 2 = bytesN (u s.recs.length) 2 := by
  have e4 : (headL s).drop 4 = bytesN (u s.blocks) 2 ++ (bytesN (u (s.base + 1)) 4 ++ (bytesN (u s.id) 4 ++ bytesN (u s.recs.length) 2)) := by
    unfold headL
    exact drop_app rfl
  have e6 : (headL s).drop 6 = bytesN (u (s.base + 1)) 4 ++ (bytesN (u s.id) 4 ++ bytesN (u s.recs.length) 2) := by
    rw [show (6 : Nat) = 4 + 2 from rfl, ← List.drop_drop, e4]
    exact drop_app (bytesN_length _ _)
  have e10 : (headL s).drop 10 = bytesN (u s.id) 4 ++ bytesN (u s.recs.length) 2 := by
    rw [show (10 : Nat) = 6 + 4 from rfl, ← List.drop_drop, e6]
    exact drop_app (bytesN_length _ _)
  have e14 : (headL s).drop 14 = bytesN (u s.recs.length) 2 := by
    rw [show (14 : Nat) = 10 + 4 from rfl, ← List.drop_drop, e10]
    exact drop_app (bytesN_length _ _)
  rw [e4, e6, e10, e14]
  exact ⟨take_app (bytesN_length _ _), take_app (bytesN_length _ _), take_app (bytesN_length _ _), List.take_of_length_le (by rw [bytesN_length]; exact Nat.le_refl _)⟩
/-- A piece of what stands ahead. -/
theorem piece_app {α : Type} {a b : List α} {i k : Nat} (h : i + k ≤ a.length) : ((a ++ b).drop i).take k = (a.drop i).take k := by
  rw [List.drop_append_of_le_length (by omega), List.take_append_of_le_length (by rw [List.length_drop]; omega)]
theorem headR_enc (s : Str) (hg : goodB s = true) (tail : List UInt8) : headR (headE s ++ tail) = .ok (⟨s.blocks, s.base, s.id, none, 0, []⟩, s.recs.length) := by
  obtain ⟨h1, h2, h3, h4, h5⟩ := good_head hg
  have hm := good_many hg
  have hh : headB s = true := by
    unfold goodB at hg
    rw [Bool.and_eq_true] at hg
    exact hg.1
  have hl := headL_length s
  have hlen : (headE s ++ tail).length = 24 + tail.length := by rw [List.length_append, headE_length]
  have e : headE s ++ tail = headL s ++ (bytesN (check (headL s)) 8 ++ tail) := by unfold headE sealB; rw [List.append_assoc]
  obtain ⟨p1, p2, p3, p4⟩ := headL_f s
  have q4 : (headE s ++ tail).take 4 = [0x52, 0x56, 0x53, 0x31] := by rw [e, List.take_append_of_le_length (by omega), headL_4]
  have q16 : (headE s ++ tail).take 16 = headL s := by rw [e]; exact take_app hl
  have d16 : ((headE s ++ tail).drop 16).take 8 = bytesN (check (headL s)) 8 := by rw [e, drop_app hl]; exact take_app (bytesN_length _ _)
  have r1 : numP (((headE s ++ tail).drop 4).take 2) = s.blocks := by rw [e, piece_app (by omega), p1]; exact numP_bytes _ _ (by omega) (by decide) (by simp; omega)
  have r2 : numP (((headE s ++ tail).drop 6).take 4) = s.base + 1 := by rw [e, piece_app (by omega), p2]; exact numP_bytes _ _ (by omega) (by decide) (by simp; omega)
  have r3 : numP (((headE s ++ tail).drop 10).take 4) = s.id := by rw [e, piece_app (by omega), p3]; exact numP_bytes _ _ (by omega) (by decide) (by simp; omega)
  have r4 : numP (((headE s ++ tail).drop 14).take 2) = (s.recs.length : Int) := by rw [e, piece_app (by omega), p4]; exact numP_bytes _ _ (by omega) (by decide) (by simp; omega)
  unfold headR
  rw [if_neg (by omega), if_neg (by rw [q4]; exact fun h => h rfl), if_neg (by omega), if_neg (by rw [q16, d16, getN_bytes8]; exact fun h => h rfl), r1, r2, r3, r4, if_neg (by omega)]
  have hs : s.base + 1 - 1 = s.base := by omega
  rw [hs]
  have hh' : headB ⟨s.blocks, s.base, s.id, none, 0, []⟩ = true := hh
  rw [if_neg (by rw [hh']; decide)]
  rfl
theorem recL_k (r : Rec) : (recL r)[0]?.getD 0 = kindOf r := rfl
theorem recL_f (r : Rec) : ((recL r).drop 1).take 2 = bytesN (u r.fr) 2 ∧ ((recL r).drop 3).take 2 = bytesN (u r.ct) 2 ∧ (recL r).drop 5 = r.data := by
  have e1 : (recL r).drop 1 = bytesN (u r.fr) 2 ++ (bytesN (u r.ct) 2 ++ r.data) := by
    unfold recL
    exact drop_app rfl
  have e3 : (recL r).drop 3 = bytesN (u r.ct) 2 ++ r.data := by
    rw [show (3 : Nat) = 1 + 2 from rfl, ← List.drop_drop, e1]
    exact drop_app (bytesN_length _ _)
  have e5 : (recL r).drop 5 = r.data := by
    rw [show (5 : Nat) = 3 + 2 from rfl, ← List.drop_drop, e3]
    exact drop_app (bytesN_length _ _)
  rw [e1, e3, e5]
  exact ⟨take_app (bytesN_length _ _), take_app (bytesN_length _ _), rfl⟩
/-- What a record's bytes tell, whatever is cut off behind its first five bytes. -/
theorem recOf_enc (r : Rec) (blocks base : Int) (hb : recB blocks base r = true) (hB : blocks ≤ 64) (rest : List UInt8) (h5 : rest.take 5 = (recL r).take 5) :
    rest[0]?.getD 0 = kindOf r ∧ numP ((rest.drop 1).take 2) = r.fr ∧ numP ((rest.drop 3).take 2) = r.ct ∧ sizeR rest = r.data.length ∧ (rest[0]?.getD 0 == 2) = r.zs := by
  obtain ⟨b1, b2, b3, b4, b5⟩ := recB_bounds hb
  have hd := dataB_len b5
  have hL := recL_length r
  obtain ⟨p1, p2, _⟩ := recL_f r
  have k0 : rest[0]?.getD 0 = kindOf r := by
    have : (rest.take 5)[0]? = rest[0]? := by rw [List.getElem?_take, if_pos (by omega)]
    rw [← this, h5]
    rfl
  have sub : ∀ i k, i + k ≤ 5 → (rest.drop i).take k = ((recL r).drop i).take k := by
    intro i k hik
    have e1 : (rest.drop i).take k = ((rest.take 5).drop i).take k := by
      rw [List.drop_take, List.take_take]
      congr 1
      omega
    have e2 : ((recL r).drop i).take k = (((recL r).take 5).drop i).take k := by
      rw [List.drop_take, List.take_take]
      congr 1
      omega
    rw [e1, e2, h5]
  have f1 : numP ((rest.drop 1).take 2) = r.fr := by rw [sub 1 2 (by omega), p1]; exact numP_bytes _ _ (by omega) (by decide) (by simp; omega)
  have f2 : numP ((rest.drop 3).take 2) = r.ct := by rw [sub 3 2 (by omega), p2]; exact numP_bytes _ _ (by omega) (by decide) (by simp; omega)
  refine ⟨k0, f1, f2, ?_, ?_⟩
  · unfold sizeR
    rw [k0, f2]
    unfold kindOf
    cases hz : r.zs
    · rw [if_pos (by rfl)]
      rw [hz] at hd
      simp at hd
      omega
    · rw [if_neg (by simp)]
      rw [hz] at hd
      simp at hd
      rw [hd]
      rfl
  · rw [k0]
    unfold kindOf
    cases r.zs <;> rfl
theorem recR_enc (s : Str) (r : Rec) (hg : goodB (s.add r.pl) = true) (tail : List UInt8) : recR s (recE r ++ tail) = .ok (r.pl, tail) := by
  obtain ⟨h1, h2, _⟩ := good_head hg
  have hb : recB s.blocks s.base r = true := by
    have h := (good_recs hg s.recs.length (by simp [Str.add])).2
    have e : (s.add r.pl).recs[s.recs.length]'(by simp [Str.add]) = r.pl := by simp [Str.add]
    rw [e] at h
    exact h
  obtain ⟨b1, b2, b3, b4, b5⟩ := recB_bounds hb
  have hL := recL_length r
  have e : recE r ++ tail = recL r ++ (bytesN (check (recL r)) 8 ++ tail) := by unfold recE sealB; rw [List.append_assoc]
  have hlen : (recE r ++ tail).length = 13 + r.data.length + tail.length := by rw [List.length_append, recE_length]
  have h5 : (recE r ++ tail).take 5 = (recL r).take 5 := by rw [e, List.take_append_of_le_length (by omega)]
  obtain ⟨k0, f1, f2, f3, f4⟩ := recOf_enc r s.blocks s.base hb h2 (recE r ++ tail) h5
  have d5 : ((recE r ++ tail).drop 5).take r.data.length = r.data := by
    rw [e, List.drop_append_of_le_length (by omega), (recL_f r).2.2]
    exact take_app rfl
  have ho : recOfB (recE r ++ tail) = r.pl := by
    unfold recOfB
    rw [f1, f2, f3, f4, d5]
    rfl
  unfold recR
  have hk : kindOf r = 1 ∨ kindOf r = 2 := by unfold kindOf; cases r.zs <;> simp
  rw [if_neg (by omega), if_neg (by rw [k0]; rcases hk with h | h <;> rw [h] <;> decide), ho, if_neg (by show ¬ (r.ct < 1 ∨ s.blocks ≤ r.fr ∨ s.blocks - r.fr < r.ct); omega), f3, if_neg (by omega),
    if_neg (by rw [e, take_app (by omega), drop_app (by omega), take_app (bytesN_length _ _), getN_bytes8]; exact fun h => h rfl), if_neg (by rw [hg]; decide)]
  rw [show 5 + r.data.length + 8 = (recE r).length by rw [recE_length]; omega, List.drop_left]
end Go.Proofs.Ytdglkjpdhnnpnaa
