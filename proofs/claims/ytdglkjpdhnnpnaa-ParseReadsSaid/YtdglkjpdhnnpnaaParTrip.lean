/-
  What a stream is written as is read as that stream; so streams that are written alike are alike.
-/
import Derived.Test.YtdglkjpdhnnpnaaParPlain
namespace Go.Proofs.Ytdglkjpdhnnpnaa
open Go

def Str.more (s : Str) (l : List Rec) : Str := { s with recs := s.recs ++ l }
theorem more_add (s : Str) (r : Rec) (l : List Rec) : (s.add r).more l = s.more (r :: l) := by simp [Str.add, Str.more]
theorem good_prefix {s : Str} {a b : List Rec} (h : goodB { s with recs := a ++ b } = true) : goodB { s with recs := a } = true := by
  unfold goodB at h ⊢
  rw [Bool.and_eq_true] at h ⊢
  obtain ⟨h1, h2⟩ := h
  refine ⟨h1, ?_⟩
  have h2' : recsB s.blocks s.base none (a ++ b) = true := h2
  rw [recsB_append, Bool.and_eq_true] at h2'
  exact h2'.1
theorem recsR_enc : ∀ (l : List Rec) (s : Str), goodB (s.more (l.map Rec.pl)) = true → ∀ tail, recsR l.length s ((l.map recE).flatten ++ tail) = .ok (s.more (l.map Rec.pl), tail)
  | [], s, _, tail => by
    show Except.ok (s, tail) = .ok (s.more [], tail)
    simp [Str.more]
  | r :: l, s, hg, tail => by
    have h1 : goodB (s.add r.pl) = true := by
      have : goodB { s with recs := (s.recs ++ [r.pl]) ++ l.map Rec.pl } = true := by
        have e : s.more ((r :: l).map Rec.pl) = { s with recs := (s.recs ++ [r.pl]) ++ l.map Rec.pl } := by simp [Str.more]
        rw [← e]
        exact hg
      exact good_prefix this
    have h2 : goodB ((s.add r.pl).more (l.map Rec.pl)) = true := by rw [more_add]; exact hg
    have e : ((r :: l).map recE).flatten ++ tail = recE r ++ ((l.map recE).flatten ++ tail) := by simp
    rw [e, List.length_cons]
    unfold recsR
    rw [recR_enc s r h1]
    show recsR l.length (s.add r.pl) ((l.map recE).flatten ++ tail) = _
    rw [recsR_enc l (s.add r.pl) h2 tail, more_add]
    rfl
/-- A stream's end. -/
def endE (c : UInt64) : List UInt8 := [0x45] ++ bytesN c 8
theorem endE_len (c : UInt64) : (endE c).length = 9 := by simp [endE, bytesN_length]
theorem endE_0 (c : UInt64) : (endE c)[0]?.getD 0 = 0x45 := rfl
theorem endE_8 (c : UInt64) : getN (((endE c).drop 1).take 8) = c := by
  have e1 : (endE c).drop 1 = bytesN c 8 := rfl
  rw [e1, List.take_of_length_le (by rw [bytesN_length]; exact Nat.le_refl _), getN_bytes8]
theorem encE_end (s : Str) : encE s = bodyE s ++ endE (check (bodyE s)) := rfl
theorem endR_enc (b : List UInt8) (c : UInt64) (hc : c = check b) : endR (b ++ endE c) (endE c) = 0 := by
  have hl := endE_len c
  have hb : (b ++ endE c).length - 9 = b.length := by rw [List.length_append, hl]; omega
  unfold endR
  rw [hl, hb, List.take_left, if_neg (by decide), if_neg (by rw [endE_0]; exact fun h => h rfl), if_neg (by rw [endE_8, hc]; exact fun h => h rfl), if_neg (by decide)]
theorem parseR_ok {b : List UInt8} {s s' : Str} {n : Nat} {rest : List UInt8} (h1 : headR b = .ok (s, n)) (h2 : recsR n s (b.drop 24) = .ok (s', rest)) (h3 : endR b rest = 0) : parseR b = .ok s' := by
  unfold parseR
  rw [h1]
  simp only []
  rw [h2]
  simp only []
  rw [if_pos h3]
theorem pl_more (s : Str) : (⟨s.blocks, s.base, s.id, none, 0, []⟩ : Str).more (s.recs.map Rec.pl) = s.pl := by simp [Str.more, Str.pl]
/-- P17.2: the stream of a stream's bytes is it. -/
theorem parse_enc (s : Str) (hg : goodB s = true) : parseR (encE s) = .ok s.pl := by
  have h0 := encE_end s
  have h5 := endR_enc (bodyE s) (check (bodyE s)) rfl
  generalize endE (check (bodyE s)) = E at h0 h5
  rw [← h0] at h5
  have h1 : encE s = headE s ++ ((s.recs.map recE).flatten ++ E) := by
    rw [h0, show bodyE s = headE s ++ (s.recs.map recE).flatten from rfl, List.append_assoc]
  have h2 : (encE s).drop 24 = (s.recs.map recE).flatten ++ E := by rw [h1]; exact drop_app (headE_length s)
  have h3 : goodB ((⟨s.blocks, s.base, s.id, none, 0, []⟩ : Str).more (s.recs.map Rec.pl)) = true := by rw [pl_more, goodB_pl]; exact hg
  have h4 : headR (encE s) = .ok (⟨s.blocks, s.base, s.id, none, 0, []⟩, s.recs.length) := by rw [h1]; exact headR_enc s hg _
  have h6 : recsR s.recs.length ⟨s.blocks, s.base, s.id, none, 0, []⟩ ((encE s).drop 24) = .ok (s.pl, E) := by
    rw [h2, recsR_enc s.recs _ h3, pl_more]
  exact parseR_ok h4 h6 h5
theorem enc_inj {s t : Str} (hs : goodB s = true) (ht : goodB t = true) : encE s = encE t ↔ s.pl = t.pl := by
  constructor
  · intro h
    have h1 := parse_enc s hs
    rw [h, parse_enc t ht] at h1
    exact (Except.ok.inj h1).symm
  · intro h
    rw [← encE_pl s, h, encE_pl]

/-- Are two records, two streams alike? -/
def sameR (r q : Rec) : Bool := r.fr == q.fr && (r.ct == q.ct && (r.zs == q.zs && r.data == q.data))
def sameL : List Rec → List Rec → Bool
  | [], [] => true
  | r :: l, q :: m => sameR r q && sameL l m
  | _, _ => false
def sameS (s t : Str) : Bool := s.blocks == t.blocks && (s.base == t.base && (s.id == t.id && sameL s.recs t.recs))
theorem sameR_pl {r q : Rec} : sameR r q = true ↔ r.pl = q.pl := by
  obtain ⟨a, b, c, d, e, f⟩ := r
  obtain ⟨a', b', c', d', e', f'⟩ := q
  simp [sameR, Rec.pl]
theorem sameL_pl : ∀ {l m : List Rec}, sameL l m = true ↔ l.map Rec.pl = m.map Rec.pl
  | [], [] => by simp [sameL]
  | r :: l, q :: m => by
    rw [sameL, Bool.and_eq_true, sameR_pl, sameL_pl]
    simp
  | [], q :: m => by simp [sameL]
  | r :: l, [] => by simp [sameL]
theorem sameS_pl {s t : Str} : sameS s t = true ↔ s.pl = t.pl := by
  obtain ⟨a, b, c, d, e, f⟩ := s
  obtain ⟨a', b', c', d', e', f'⟩ := t
  simp only [sameS, Bool.and_eq_true, beq_iff_eq, sameL_pl, Str.pl, Str.mk.injEq, true_and]
theorem same_enc {s t : Str} (hs : goodB s = true) (ht : goodB t = true) : (encE s == encE t) = sameS s t := by
  rw [Bool.eq_iff_iff, beq_iff_eq, enc_inj hs ht, sameS_pl]
theorem sameL_len : ∀ {l m : List Rec}, l.length ≠ m.length → sameL l m = false
  | [], [], h => absurd rfl h
  | [], q :: m, _ => rfl
  | r :: l, [], _ => rfl
  | r :: l, q :: m, h => by
    rw [sameL, sameL_len (by simpa using h), Bool.and_false]
theorem sameL_take : ∀ {l m : List Rec} {k : Nat} (hl : k < l.length) (hm : k < m.length), sameL (l.take (k + 1)) (m.take (k + 1)) = (sameL (l.take k) (m.take k) && sameR l[k] m[k])
  | r :: l, q :: m, 0, _, _ => by simp [sameL]
  | r :: l, q :: m, k + 1, hl, hm => by
    rw [List.take_succ_cons, List.take_succ_cons, sameL, sameL_take (by simpa using hl) (by simpa using hm), List.take_succ_cons, List.take_succ_cons, sameL, Bool.and_assoc]
    rfl
theorem sameL_no : ∀ {l m : List Rec} {k : Nat} (hl : k < l.length) (hm : k < m.length), sameR l[k] m[k] = false → sameL l m = false
  | r :: l, q :: m, 0, _, _, h => by
    rw [sameL, show sameR r q = false from h, Bool.false_and]
  | r :: l, q :: m, k + 1, hl, hm, h => by
    rw [sameL, sameL_no (k := k) (by simpa using hl) (by simpa using hm) h, Bool.and_false]
end Go.Proofs.Ytdglkjpdhnnpnaa
