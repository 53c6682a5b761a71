/-
  Marked sectors and blocks among a row's arguments, opened in this claim's words.
-/
import Derived.Test.YthieeidbfdhaaaaOpen
import Derived.Test.YthieeidbfdhaaaaPagePlain
import Derived.Lib.SmallJoins
namespace Go.Proofs.Ythieeidbfdhaaaa
open Go Go.ChangeShapes Go.WideShapes Go.ChangeAt Go.RowKit

section
variable {H : Type} {enc : TypeId × Value → H} {P : Program} {w : World} {base : Nat} {spare : Nat → Bool} {held : Bool}

/-- Cells of an array of bytes. -/
theorem open_byte_cells {t e : TypeId} {n fuel : Nat} {cs : List Value} {x : DataW H × List MemPlace} (ht : P.underlying t = some (.array n e)) (he : P.underlying e = some (.int .u8)) (hc : P.cellsOf e = 1) (hn : cs.length = n)
    (hf : DataW.trod enc P w base spare held fuel t cs = some x) : ∃ bs : List UInt8, bs.length = n ∧ cs = bs.map B8 := by
  obtain ⟨xs, m, _, _, hl, hxl, hg⟩ := DataW.trod_array ht hf
  have each : ∀ i, (hi : i < cs.length) → ∃ z : UInt8, cs[i] = B8 z := fun i hi => by
    have h1 := hg i (by omega)
    rw [hc, Nat.mul_one] at h1
    have h2 : (cs.drop i).take 1 = [cs[i]] := by
      rw [List.drop_eq_getElem_cons hi]
      rfl
    rw [h2, List.getElem?_eq_getElem (by omega)] at h1
    obtain ⟨z, e0, _, wz⟩ := DataW.trod_int he h1
    obtain ⟨u, hu⟩ := u8_of_wf wz
    refine ⟨u, ?_⟩
    have : cs[i] = .int .u8 z := by simpa using e0
    rw [this, hu]
  refine ⟨cs.map fun c => match c with | .int _ z => UInt8.ofNat z.toNat | _ => 0, by simpa using hn, ?_⟩
  apply List.ext_getElem
  · simp
  · intro i h1 h2
    obtain ⟨z, hz⟩ := each i h1
    simp [hz]

theorem open_block {t e : TypeId} {n : Nat} {r : Reach} {b0 : Nat} {v : Value} {d : DataW H} {p : List MemPlace} (ht : P.underlying t = some (.array n e)) (he : P.underlying e = some (.int .u8)) (hc : P.cellsOf e = 1) (hct : P.cellsOf t = n)
    (hv : Value.okWide P w r b0 t v) (h : DataW.Trod enc P w base spare held t v d p) : ∃ bs : List UInt8, bs.length = n ∧ v = vb bs := by
  have hv' : ∃ cs, v = .agg cs ∧ cs.size = P.cellsOf t := by
    simp only [Value.okWide, ht] at hv
    obtain ⟨cs, h1, h2, _⟩ := hv
    exact ⟨cs, h1, h2⟩
  obtain ⟨cs, rfl, hsz⟩ := hv'
  obtain ⟨fuel, hf⟩ := h
  obtain ⟨bs, hb, hcs⟩ := open_byte_cells ht he hc (cs := cs.toList) (by rw [Array.length_toList, hsz, hct]) hf
  exact ⟨bs, hb, by unfold vb; rw [← hcs]⟩

theorem open_sec {t t0 t1 t2 t3 te : TypeId} {f0 f1 f2 f3 : Field} {r : Reach} {b0 : Nat} {v : Value} {d : DataW H} {p : List MemPlace} (hs : P.underlying t = some (.struct #[f0, f1, f2, f3]))
    (h0 : f0.type = t0 ∧ f0.offset = 0) (h1 : f1.type = t1 ∧ f1.offset = 1) (h2 : f2.type = t2 ∧ f2.offset = 2) (h3 : f3.type = t3 ∧ f3.offset = 3)
    (u0 : P.underlying t0 = some (.int .u8)) (u1 : P.underlying t1 = some (.int .u32)) (u2 : P.underlying t2 = some (.int .i64)) (u3 : P.underlying t3 = some (.array 48 te)) (ue : P.underlying te = some (.int .u8))
    (k0 : P.cellsOf t0 = 1) (k1 : P.cellsOf t1 = 1) (k2 : P.cellsOf t2 = 1) (k3 : P.cellsOf t3 = 48) (ke : P.cellsOf te = 1) (hC : P.cellsOf t = 51)
    (hv : Value.okWide P w r b0 t v) (h : DataW.Trod enc P w base spare held t v d p) :
    ∃ s : Sec, v = s.val ∧ s.body.length = 48 ∧ -9223372036854775808 ≤ s.idx ∧ s.idx ≤ 9223372036854775807 := by
  obtain ⟨cs, rfl, hsz⟩ := okWide_struct hs hv
  have hlen : cs.toList.length = 51 := by rw [Array.length_toList, hsz, hC]
  obtain ⟨fuel, hf⟩ := h
  obtain ⟨y0, y1, y2, y3, n, _, _, g0, g1, g2, g3⟩ := Go.Joins.trod_struct4 hs hf
  obtain ⟨h0t, h0o⟩ := h0
  obtain ⟨h1t, h1o⟩ := h1
  obtain ⟨h2t, h2o⟩ := h2
  obtain ⟨h3t, h3o⟩ := h3
  rw [h0t, h0o, k0] at g0
  rw [h1t, h1o, k1] at g1
  rw [h2t, h2o, k2] at g2
  rw [h3t, h3o, k3] at g3
  simp only [Value.cells] at g0 g1 g2 g3
  match hcs : cs.toList, hlen with
  | a :: b :: c :: body, hlen =>
    rw [hcs] at g0 g1 g2 g3
    have hbl : body.length = 48 := by simpa using hlen
    simp only [List.drop_succ_cons, List.drop_zero, List.take_succ_cons, List.take_zero] at g0 g1 g2 g3
    rw [List.take_of_length_le (by omega)] at g3
    obtain ⟨z0, e0, _, w0⟩ := DataW.trod_int u0 g0
    obtain ⟨z1, e1, _, w1⟩ := DataW.trod_int u1 g1
    obtain ⟨z2, e2, _, w2⟩ := DataW.trod_int u2 g2
    obtain ⟨bs, hb, e3⟩ := open_byte_cells u3 ue ke hbl g3
    obtain ⟨m, rfl⟩ := u8_of_wf w0
    obtain ⟨q, rfl⟩ := u32_of_wf w1
    simp only [List.cons.injEq, and_true] at e0 e1 e2
    refine ⟨⟨m, q, z2, bs⟩, ?_, hb, (i64_of_wf w2).1, (i64_of_wf w2).2⟩
    unfold Sec.val
    have : cs = (a :: b :: c :: body).toArray := by rw [← hcs]
    rw [this, e0, e1, e2, e3]
    rfl
end

end Go.Proofs.Ythieeidbfdhaaaa
