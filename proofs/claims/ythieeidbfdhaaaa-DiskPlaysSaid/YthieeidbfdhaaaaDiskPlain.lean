/-
  A disk of sectors, plain: what is there, and the versions since the last flush. No program in sight.
-/
import Derived.Test.YthieeidbfdhaaaaFill
namespace Go.Proofs.Ythieeidbfdhaaaa
open Go

structure Sct where
  there : List UInt8
  vers : List (List UInt8)
def Sct.zero : Sct := ⟨zeros 64, []⟩
/-- The last version. -/
def Sct.last (s : Sct) : List UInt8 := s.vers.getLast?.getD s.there
def Sct.flushed (s : Sct) : Sct := ⟨s.last, []⟩
/-- Which have versions, from number k on. -/
def looseFrom : Nat → List Sct → List Nat
  | _, [] => []
  | k, s :: D => if s.vers = [] then looseFrom (k + 1) D else k :: looseFrom (k + 1) D
def looseN (D : List Sct) : List Nat := looseFrom 0 D
def flushN (D : List Sct) : List Sct := D.map Sct.flushed
/-- What a crash leaves of a loose sector, and of the picks. -/
def Sct.pick (s : Sct) (pick : List UInt8) : Sct := match pick with
  | [] => ⟨s.there, []⟩
  | p :: _ => ⟨((s.there :: s.vers)[p.toNat % (s.vers.length + 1)]?).getD [], []⟩
def crashN : List Sct → List UInt8 → List Sct
  | [], _ => []
  | s :: D, pick => if s.vers = [] then s :: crashN D pick else s.pick pick :: crashN D (pick.drop 1)
def writeN (D : List Sct) (i : Nat) (b : List UInt8) : List Sct := D.modify i fun s => ⟨s.there, s.vers ++ [b]⟩
/-- All bytes of a sector are 64. -/
def Sct.wf (s : Sct) : Prop := s.there.length = 64 ∧ ∀ l ∈ s.vers, l.length = 64
theorem Sct.last_wf {s : Sct} (h : s.wf) : s.last.length = 64 := by
  unfold Sct.last
  cases hl : s.vers.getLast? with
  | none => exact h.1
  | some l => exact h.2 l (List.mem_of_getLast? hl)
theorem Sct.zero_wf : Sct.zero.wf := ⟨rfl, by simp [Sct.zero]⟩

end Go.Proofs.Ythieeidbfdhaaaa
