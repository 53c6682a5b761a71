/-
  page's sectors as plain bytes.
-/
import Derived.Test.YthieeidbfdhaaaaLePlain
import Derived.Test.YthieeidbfdhaaaaFill
namespace Go.Proofs.Ythieeidbfdhaaaa
open Go

/-- A sector with a mark. -/
structure Sec where
  mark : UInt8
  seq : UInt32
  idx : Int
  body : List UInt8

def Sec.cells (s : Sec) : List Value := B8 s.mark :: .int .u32 (s.seq.toNat : Int) :: .int .i64 s.idx :: s.body.map B8
def Sec.val (s : Sec) : Value := .agg s.cells.toArray
/-- It may be encoded. -/
def Sec.ok (s : Sec) : Bool := s.mark != 0 && (decide (0 ≤ s.idx) && decide (s.idx ≤ 65535))
def Sec.none : Sec := ⟨0, 0, 0, zeros 48⟩
def Sec.head (s : Sec) : List UInt8 := [s.mark] ++ bytesN s.seq.toUInt64 4 ++ bytesN (UInt64.ofNat s.idx.toNat) 2 ++ s.body
def Sec.enc (s : Sec) : List UInt8 := s.head ++ bytesN (check s.head) 8 ++ [0]
def encode (s : Sec) : List UInt8 × Int := if s.ok then (s.enc, 0) else (zeros 64, 11)
def Sec.of (b : List UInt8) : Sec := ⟨b[0]?.getD 0, (getN ((b.drop 1).take 4)).toUInt32, ((getN ((b.drop 5).take 2)).toNat : Int), (b.drop 7).take 48⟩
def decode (b : List UInt8) : Sec × Int := if (Sec.of b).ok && (Sec.of b).enc == b then (Sec.of b, 0) else (Sec.none, 11)

theorem Sec.head_length (s : Sec) (h : s.body.length = 48) : s.head.length = 55 := by
  unfold Sec.head
  simp [bytesN_length, h]
theorem Sec.enc_length (s : Sec) (h : s.body.length = 48) : s.enc.length = 64 := by
  unfold Sec.enc
  simp [bytesN_length, s.head_length h]
theorem encode_length (s : Sec) (h : s.body.length = 48) : (encode s).1.length = 64 := by
  unfold encode
  split
  · exact s.enc_length h
  · simp [zeros]

end Go.Proofs.Ythieeidbfdhaaaa
