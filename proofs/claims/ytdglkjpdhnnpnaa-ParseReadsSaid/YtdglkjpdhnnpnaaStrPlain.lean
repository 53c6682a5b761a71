/-
  Streams, plain: which may be, and their bytes. No program in sight.
-/
import Derived.Test.YtdglkjpdhnnpnaaLePlain
import Derived.Test.YtdglkjpdhnnpnaaFnvLaw
import Derived.Test.YtdglkjpdhnnpnaaChunk
namespace Go.Proofs.Ytdglkjpdhnnpnaa
open Go

/-- A record: from, count, zeros, its bytes (where they lie; their capacity). -/
structure Rec where
  fr : Int
  ct : Int
  zs : Bool
  A : Option Addr
  cap : Nat
  data : List UInt8
instance : Inhabited Rec := ⟨⟨0, 0, false, none, 0, []⟩⟩
/-- A stream: blocks, base, id, its records. -/
structure Str where
  blocks : Int
  base : Int
  id : Int
  A : Option Addr
  cap : Nat
  recs : List Rec

def zeroB (b : List UInt8) : Bool := b.all fun x => x == 0
def dataB (r : Rec) : Bool := if r.zs then r.data.length == 0 else ((r.data.length : Int) == r.ct * 64) && (List.finRange (chunksN r.data.length 64)).all fun x => !zeroB (pieceB r.data 64 x.val)
/-- Whether a record may be by itself. -/
def recB (blocks base : Int) (r : Rec) : Bool := decide (1 ≤ r.ct) && (decide (0 ≤ r.fr) && (decide (r.fr < blocks) && (decide (r.ct ≤ blocks - r.fr) && (dataB r && !(base == -1 && r.zs)))))
def behindB (r p : Rec) : Bool := decide (p.fr + p.ct < r.fr) || (r.fr == p.fr + p.ct && r.zs != p.zs)
/-- Whether records may be, the last one that was being p. -/
def recsB (blocks base : Int) : Option Rec → List Rec → Bool
  | _, [] => true
  | p, r :: l => recB blocks base r && (match p with | none => true | some p => behindB r p) && recsB blocks base (some r) l
def headB (s : Str) : Bool := decide (1 ≤ s.blocks) && (decide (s.blocks ≤ 64) && (decide (1 ≤ s.id) && (decide (s.id ≤ 1000000) && (s.base == -1 || (decide (1 ≤ s.base) && decide (s.base < s.id))))))
def goodB (s : Str) : Bool := headB s && recsB s.blocks s.base none s.recs

/-- A number as the writers take it. -/
def u (x : Int) : UInt64 := UInt64.ofNat x.toNat
def sealB (b : List UInt8) : List UInt8 := b ++ bytesN (check b) 8
def headL (s : Str) : List UInt8 := [0x52, 0x56, 0x53, 0x31] ++ (bytesN (u s.blocks) 2 ++ (bytesN (u (s.base + 1)) 4 ++ (bytesN (u s.id) 4 ++ bytesN (u s.recs.length) 2)))
def headE (s : Str) : List UInt8 := sealB (headL s)
def kindOf (r : Rec) : UInt8 := if r.zs then 2 else 1
def recL (r : Rec) : List UInt8 := [kindOf r] ++ (bytesN (u r.fr) 2 ++ (bytesN (u r.ct) 2 ++ r.data))
def recE (r : Rec) : List UInt8 := sealB (recL r)
def bodyE (s : Str) : List UInt8 := headE s ++ (s.recs.map recE).flatten
def encE (s : Str) : List UInt8 := bodyE s ++ ([0x45] ++ bytesN (check (bodyE s)) 8)

theorem headL_length (s : Str) : (headL s).length = 16 := by simp [headL, bytesN_length]
theorem headE_length (s : Str) : (headE s).length = 24 := by simp [headE, sealB, headL_length, bytesN_length]
theorem recL_length (r : Rec) : (recL r).length = 5 + r.data.length := by simp [recL, bytesN_length]; omega
theorem recE_length (r : Rec) : (recE r).length = 13 + r.data.length := by simp [recE, sealB, recL_length, bytesN_length]; omega
theorem encE_length (s : Str) : (encE s).length = (bodyE s).length + 9 := by simp [encE, bytesN_length]

/-- Of records that may be. -/
theorem recB_bounds {blocks base : Int} {r : Rec} (h : recB blocks base r = true) : 1 ≤ r.ct ∧ 0 ≤ r.fr ∧ r.fr < blocks ∧ r.ct ≤ blocks - r.fr ∧ dataB r = true := by
  unfold recB at h
  simp only [Bool.and_eq_true, decide_eq_true_eq] at h
  exact ⟨h.1, h.2.1, h.2.2.1, h.2.2.2.1, h.2.2.2.2.1⟩
theorem dataB_len {r : Rec} (h : dataB r = true) : (r.data.length : Int) = if r.zs then 0 else r.ct * 64 := by
  unfold dataB at h
  split at h
  · rename_i hz
    rw [if_pos hz]
    have : r.data.length = 0 := by simpa using h
    omega
  · rename_i hz
    rw [if_neg hz]
    rw [Bool.and_eq_true] at h
    simpa using h.1
/-- Rising: the k-th record begins at k or behind. -/
theorem recsB_rise {blocks base : Int} : ∀ (l : List Rec) (p : Option Rec) (m : Int), recsB blocks base p l = true → (∀ q, p = some q → m ≤ q.fr + q.ct) → (p = none → m ≤ 0) → ∀ k (h : k < l.length), m + (k : Int) ≤ l[k].fr ∧ recB blocks base l[k] = true := by
  intro l
  induction l with
  | nil =>
    intro p m _ _ _ k h
    cases h
  | cons r l ih =>
    intro p m h hp hn k hk
    unfold recsB at h
    simp only [Bool.and_eq_true] at h
    obtain ⟨⟨h1, h2⟩, h3⟩ := h
    have hb := recB_bounds h1
    have hr : m ≤ r.fr := by
      cases p with
      | none =>
        have := hn rfl
        omega
      | some q =>
        have := hp q rfl
        simp only [behindB, Bool.or_eq_true, decide_eq_true_eq, Bool.and_eq_true, beq_iff_eq] at h2
        omega
    rcases k with _ | k
    · exact ⟨by simpa using hr, h1⟩
    · have := ih (some r) (m + 1) h3 (fun q hq => by cases hq; omega) (fun e => by cases e) k (by simpa using hk)
      rw [List.getElem_cons_succ]
      exact ⟨by have := this.1; omega, this.2⟩
theorem good_head {s : Str} (h : goodB s = true) : 1 ≤ s.blocks ∧ s.blocks ≤ 64 ∧ 1 ≤ s.id ∧ s.id ≤ 1000000 ∧ (s.base = -1 ∨ (1 ≤ s.base ∧ s.base < s.id)) := by
  unfold goodB headB at h
  simp only [Bool.and_eq_true, decide_eq_true_eq, Bool.or_eq_true, beq_iff_eq] at h
  exact ⟨h.1.1, h.1.2.1, h.1.2.2.1, h.1.2.2.2.1, h.1.2.2.2.2⟩
theorem good_recs {s : Str} (h : goodB s = true) : ∀ k (hk : k < s.recs.length), (k : Int) ≤ s.recs[k].fr ∧ recB s.blocks s.base s.recs[k] = true := by
  intro k hk
  have h2 : recsB s.blocks s.base none s.recs = true := by
    unfold goodB at h
    rw [Bool.and_eq_true] at h
    exact h.2
  have := recsB_rise s.recs none 0 h2 (fun q e => by cases e) (fun _ => Int.le_refl _) k hk
  exact ⟨by have := this.1; omega, this.2⟩
theorem good_many {s : Str} (h : goodB s = true) : s.recs.length ≤ 64 := by
  by_cases h0 : s.recs.length = 0
  · omega
  · have hh := good_head h
    have hr := good_recs h (s.recs.length - 1) (by omega)
    have hb := recB_bounds hr.2
    omega
theorem good_data {s : Str} (h : goodB s = true) : ∀ r ∈ s.recs, r.data.length ≤ 4096 ∧ 1 ≤ r.ct ∧ r.ct ≤ 64 ∧ 0 ≤ r.fr ∧ r.fr < 64 := by
  intro r hr
  obtain ⟨k, hk, rfl⟩ := List.getElem_of_mem hr
  have hh := good_head h
  have hb := recB_bounds (good_recs h k hk).2
  have hd := dataB_len hb.2.2.2.2
  refine ⟨?_, hb.1, by omega, hb.2.1, by omega⟩
  split at hd <;> omega

/-- The record ahead. -/
def lastOf (p : Option Rec) (l : List Rec) : Option Rec := match l.getLast? with | some r => some r | none => p
def afterB (p : Option Rec) (r : Rec) : Bool := match p with | none => true | some p => behindB r p
theorem recsB_cons (blocks base : Int) (p : Option Rec) (r : Rec) (l : List Rec) : recsB blocks base p (r :: l) = (recB blocks base r && afterB p r && recsB blocks base (some r) l) := rfl
theorem recsB_append (blocks base : Int) : ∀ (l1 l2 : List Rec) (p : Option Rec), recsB blocks base p (l1 ++ l2) = (recsB blocks base p l1 && recsB blocks base (lastOf p l1) l2) := by
  intro l1
  induction l1 with
  | nil =>
    intro l2 p
    rfl
  | cons r l ih =>
    intro l2 p
    have e : lastOf p (r :: l) = lastOf (some r) l := by
      unfold lastOf
      cases l with
      | nil => rfl
      | cons a l => rw [List.getLast?_cons_cons, List.getLast?_eq_some_getLast (List.cons_ne_nil a l)]
    rw [List.cons_append, recsB_cons, recsB_cons, ih, e]
    simp only [Bool.and_assoc]
theorem recsB_snoc (blocks base : Int) (l : List Rec) (r : Rec) : recsB blocks base none (l ++ [r]) = (recsB blocks base none l && (recB blocks base r && afterB (lastOf none l) r)) := by
  rw [recsB_append, recsB_cons]
  show _ = (recsB blocks base none l && (recB blocks base r && afterB (lastOf none l) r))
  rw [show recsB blocks base (some r) [] = true from rfl, Bool.and_true]
theorem recsB_no {blocks base : Int} {l : List Rec} {k : Nat} (h : recsB blocks base none (l.take k) = false) : recsB blocks base none l = false := by
  rw [← List.take_append_drop k l, recsB_append, h]
  rfl
theorem lastOf_take {l : List Rec} {k : Nat} (hk : k < l.length) : lastOf none (l.take (k + 1)) = some l[k] := by
  unfold lastOf
  rw [List.take_succ_eq_append_getElem hk, List.getLast?_concat]
theorem recsB_step {blocks base : Int} {l : List Rec} {k : Nat} (hk : k < l.length) (h : recsB blocks base none (l.take k) = true) : recsB blocks base none (l.take (k + 1)) = (recB blocks base l[k] && afterB (lastOf none (l.take k)) l[k]) := by
  rw [List.take_succ_eq_append_getElem hk, recsB_snoc, h, Bool.true_and]
end Go.Proofs.Ytdglkjpdhnnpnaa
