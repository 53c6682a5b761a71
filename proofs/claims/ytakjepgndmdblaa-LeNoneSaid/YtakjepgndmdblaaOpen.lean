/-
  Arguments of a row opened in this claim's words.
-/
import Derived.Test.YtakjepgndmdblaaBase
import Derived.ProofKit
import Derived.OpenShut
import Derived.ShutString
import Derived.ChangeOld
namespace Go.Proofs.Ytakjepgndmdblaa
open Go Go.ChangeShapes Go.WideShapes Go.ChangeAt Go.RowKit

theorem u64_of_wf {a : Int} (h : (Lit.int .u64 a).wf = true) : ∃ x : UInt64, a = (x.toNat : Int) := by
  simp [Lit.wf, IntKind.min, IntKind.max, IntKind.signed, IntKind.bits] at h
  exact ⟨UInt64.ofNat a.toNat, by rw [UInt64.toNat_ofNat']; omega⟩
theorem two_of {zs : List Int} (h : zs.length = 2) : ∃ x y, zs = [x, y] := by
  match zs, h with
  | [x, y], _ => exact ⟨x, y, rfl⟩
theorem u8_of_wf {a : Int} (h : (Lit.int .u8 a).wf = true) : ∃ x : UInt8, a = (x.toNat : Int) := by
  simp [Lit.wf, IntKind.min, IntKind.max, IntKind.signed, IntKind.bits] at h
  exact ⟨UInt8.ofNat a.toNat, by rw [UInt8.toNat_ofNat']; omega⟩
theorem i64_of_wf {a : Int} (h : (Lit.int .i64 a).wf = true) : -9223372036854775808 ≤ a ∧ a ≤ 9223372036854775807 := by
  simp [Lit.wf, IntKind.min, IntKind.max, IntKind.signed, IntKind.bits] at h
  omega

section
variable {H : Type} {enc : TypeId × Value → H} {P : Program} {w : World} {base : Nat} {spare : Nat → Bool} {held : Bool}

/-- A slice of bytes among the cells: it reads as bytes. -/
theorem open_bytes {t e : TypeId} {fuel : Nat} {a : Option Addr} {len cap : Nat} {x : DataW H × List MemPlace} (ht : P.underlying t = some (.slice e)) (he : P.underlying e = some (.int .u8)) (hc : P.cellsOf e = 1)
    (h : DataW.trod enc P w base spare held fuel t [.slice a len cap] = some x) : ∃ bs : List UInt8, bs.length = len ∧ len ≤ cap ∧ cap ≤ maxLen ∧ BytesAt w w.heap.size a bs := by
  rcases open_ints ht he hc h with ⟨hcs, _⟩ | ⟨ad, l, c, zs, hcs, _, hl, hm, hz, _, hcell, hwz⟩
  · simp at hcs
    obtain ⟨rfl, rfl, rfl⟩ := hcs
    exact ⟨[], rfl, Nat.le_refl _, by simp [maxLen], .inl rfl⟩
  · simp at hcs
    obtain ⟨rfl, rfl, rfl⟩ := hcs
    have hzl : len ≤ zs.length := by rw [hz]; split <;> omega
    have hb : ∀ i, i < zs.length → ∃ u : UInt8, zs.getD i 0 = (u.toNat : Int) := fun i hi => u8_of_wf (hwz _ (by
      rw [List.getD_eq_getElem?_getD, List.getElem?_eq_getElem hi]
      exact List.getElem_mem hi))
    refine ⟨(zs.take len).map fun z => UInt8.ofNat z.toNat, by simp; omega, hl, hm, ?_⟩
    by_cases h0 : len = 0
    · exact .inl (by simp [h0])
    · obtain ⟨b, off, spot⟩ := ad
      have hc0 := hcell 0 (by omega)
      have hspot : spot = none := by simpa [Addr.add] using World.cell?_spot hc0
      subst hspot
      refine .inr ⟨b, off, rfl, ?_, fun j hj => ?_⟩
      · have h1 := World.block_lt_of_cell? w _ hc0
        rw [add_at] at h1
        exact h1
      · have hj' : j < len := by simp at hj; omega
        have h1 := hcell j (by omega)
        rw [add_at] at h1
        obtain ⟨u, hu⟩ := hb j (by omega)
        rw [h1, hu]
        have hg : zs[j]? = some (u.toNat : Int) := by
          rw [List.getElem?_eq_getElem (by omega)]
          rw [List.getD_eq_getElem?_getD, List.getElem?_eq_getElem (by omega)] at hu
          exact congrArg some hu
        simp [hj', hg]
/-- An array of integers by value. -/
theorem open_nums {t e : TypeId} {n : Nat} {k : IntKind} {r : Reach} {b0 : Nat} {v : Value} {d : DataW H} {p : List MemPlace} (ht : P.underlying t = some (.array n e)) (he : P.underlying e = some (.int k)) (hc : P.cellsOf e = 1) (hct : P.cellsOf t = n)
    (hv : Value.okWide P w r b0 t v) (h : DataW.Trod enc P w base spare held t v d p) : ∃ zs : List Int, zs.length = n ∧ v = .agg (zs.map (Value.int k)).toArray ∧ ∀ z ∈ zs, (Lit.int k z).wf = true := by
  have hv' : ∃ cs, v = .agg cs ∧ cs.size = P.cellsOf t := by
    simp only [Value.okWide, ht] at hv
    obtain ⟨cs, h1, h2, _⟩ := hv
    exact ⟨cs, h1, h2⟩
  obtain ⟨cs, rfl, hsz⟩ := hv'
  obtain ⟨fuel, hf⟩ := h
  obtain ⟨xs, m, _, _, hl, hxl, hg⟩ := DataW.trod_array ht hf
  simp only [Value.cells] at hl hg
  rw [hct] at hsz
  have each : ∀ i, (hi : i < cs.size) → ∃ z, cs[i] = .int k z ∧ (Lit.int k z).wf = true := fun i hi => by
    have h1 := hg i (by omega)
    rw [hc, Nat.mul_one] at h1
    have h2 : (cs.toList.drop i).take 1 = [cs[i]] := by
      rw [List.drop_eq_getElem_cons (by simpa using hi)]
      rfl
    rw [h2, List.getElem?_eq_getElem (by omega)] at h1
    obtain ⟨z, e0, _, wz⟩ := DataW.trod_int he h1
    exact ⟨z, by simpa using e0, wz⟩
  refine ⟨cs.toList.map fun c => match c with | .int _ z => z | _ => 0, by simpa using hsz, ?_, ?_⟩
  · congr 1
    apply Array.ext
    · simp
    · intro i h1 h2
      obtain ⟨z, hz, _⟩ := each i h1
      simp [hz]
  · intro z hz
    obtain ⟨c, hcm, rfl⟩ := List.mem_map.1 hz
    obtain ⟨i, hi, rfl⟩ := List.getElem_of_mem hcm
    obtain ⟨z, hz, wz⟩ := each i (by simpa using hi)
    have : cs.toList[i] = .int k z := by simpa using hz
    rw [this]
    exact wz
end

end Go.Proofs.Ytakjepgndmdblaa
