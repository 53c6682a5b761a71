/-
  Arguments of a row opened in this claim's words.
-/
import Derived.Test.YtdglkjpdhnnpnaaBase
import Derived.ProofKit
import Derived.OpenShut
import Derived.ShutString
import Derived.ChangeOld
import Derived.Deep.Slices
namespace Go.Proofs.Ytdglkjpdhnnpnaa
open Go Go.ChangeShapes Go.WideShapes Go.ChangeAt Go.RowKit

/-- A slice of steps (Take, Size) in memory. -/
def StepsAt (w : World) (B : Nat) (A : Option Addr) (l : List (Bool × Int)) : Prop :=
  l = [] ∨ ∃ b off, A = some ⟨b, off, none⟩ ∧ b < B ∧ ∀ j, j < l.length →
    w.cell? ⟨b, off + j * 2, none⟩ = some (.bool (l[j]?.getD (false, 0)).1) ∧ w.cell? ⟨b, off + j * 2 + 1, none⟩ = some (.int .i64 (l[j]?.getD (false, 0)).2)

theorem u64_of_wf {a : Int} (h : (Lit.int .u64 a).wf = true) : ∃ x : UInt64, a = (x.toNat : Int) := by
  simp [Lit.wf, IntKind.min, IntKind.max, IntKind.signed, IntKind.bits] at h
  exact ⟨UInt64.ofNat a.toNat, by rw [UInt64.toNat_ofNat']; omega⟩
theorem two_of {zs : List Int} (h : zs.length = 2) : ∃ x y, zs = [x, y] := by
  match zs, h with
  | [x, y], _ => exact ⟨x, y, rfl⟩
theorem u8_of_wf {a : Int} (h : (Lit.int .u8 a).wf = true) : ∃ x : UInt8, a = (x.toNat : Int) := by
  simp [Lit.wf, IntKind.min, IntKind.max, IntKind.signed, IntKind.bits] at h
  exact ⟨UInt8.ofNat a.toNat, by rw [UInt8.toNat_ofNat']; omega⟩
theorem u16_of_wf {a : Int} (h : (Lit.int .u16 a).wf = true) : ∃ x : UInt16, a = (x.toNat : Int) := by
  simp [Lit.wf, IntKind.min, IntKind.max, IntKind.signed, IntKind.bits] at h
  exact ⟨UInt16.ofNat a.toNat, by rw [UInt16.toNat_ofNat']; omega⟩
theorem u32_of_wf {a : Int} (h : (Lit.int .u32 a).wf = true) : ∃ x : UInt32, a = (x.toNat : Int) := by
  simp [Lit.wf, IntKind.min, IntKind.max, IntKind.signed, IntKind.bits] at h
  exact ⟨UInt32.ofNat a.toNat, by rw [UInt32.toNat_ofNat']; omega⟩
theorem i64_of_wf {a : Int} (h : (Lit.int .i64 a).wf = true) : -9223372036854775808 ≤ a ∧ a ≤ 9223372036854775807 := by
  simp [Lit.wf, IntKind.min, IntKind.max, IntKind.signed, IntKind.bits] at h
  omega

section
variable {H : Type} {enc : TypeId × Value → H} {P : Program} {w : World} {base : Nat} {spare : Nat → Bool} {held : Bool}

/-- A slice of bytes among the cells: it reads as bytes. -/
theorem open_bytes {t e : TypeId} {fuel : Nat} {a : Option Addr} {len cap : Nat} {x : DataW H × List MemPlace} (ht : P.underlying t = some (.slice e)) (he : P.underlying e = some (.int .u8)) (hc : P.cellsOf e = 1)
    (h : DataW.trod enc P w base spare held fuel t [.slice a len cap] = some x) : ∃ bs : List UInt8, bs.length = len ∧ len ≤ cap ∧ cap ≤ maxLen ∧ BytesAt w w.heap.size a bs := by
  rcases open_ints ht he hc h with ⟨hcs, _⟩ | ⟨ad, l, c, zs, hcs, _, hl, hm, hz, _, hcell, hwz⟩
  · simp at hcs
    obtain ⟨rfl, rfl, rfl⟩ := hcs
    exact ⟨[], rfl, Nat.le_refl _, by simp [maxLen], .inl rfl⟩
  · simp at hcs
    obtain ⟨rfl, rfl, rfl⟩ := hcs
    have hzl : len ≤ zs.length := by rw [hz]; split <;> omega
    have hb : ∀ i, i < zs.length → ∃ u : UInt8, zs.getD i 0 = (u.toNat : Int) := fun i hi => u8_of_wf (hwz _ (by
      rw [List.getD_eq_getElem?_getD, List.getElem?_eq_getElem hi]
      exact List.getElem_mem hi))
    refine ⟨(zs.take len).map fun z => UInt8.ofNat z.toNat, by simp; omega, hl, hm, ?_⟩
    by_cases h0 : len = 0
    · exact .inl (by simp [h0])
    · obtain ⟨b, off, spot⟩ := ad
      have hc0 := hcell 0 (by omega)
      have hspot : spot = none := by simpa [Addr.add] using World.cell?_spot hc0
      subst hspot
      refine .inr ⟨b, off, rfl, ?_, fun j hj => ?_⟩
      · have h1 := World.block_lt_of_cell? w _ hc0
        rw [add_at] at h1
        exact h1
      · have hj' : j < len := by simp at hj; omega
        have h1 := hcell j (by omega)
        rw [add_at] at h1
        obtain ⟨u, hu⟩ := hb j (by omega)
        rw [h1, hu]
        have hg : zs[j]? = some (u.toNat : Int) := by
          rw [List.getElem?_eq_getElem (by omega)]
          rw [List.getD_eq_getElem?_getD, List.getElem?_eq_getElem (by omega)] at hu
          exact congrArg some hu
        simp [hj', hg]
/-- An array of integers by value. -/
theorem open_nums {t e : TypeId} {n : Nat} {k : IntKind} {r : Reach} {b0 : Nat} {v : Value} {d : DataW H} {p : List MemPlace} (ht : P.underlying t = some (.array n e)) (he : P.underlying e = some (.int k)) (hc : P.cellsOf e = 1) (hct : P.cellsOf t = n)
    (hv : Value.okWide P w r b0 t v) (h : DataW.Trod enc P w base spare held t v d p) : ∃ zs : List Int, zs.length = n ∧ v = .agg (zs.map (Value.int k)).toArray ∧ ∀ z ∈ zs, (Lit.int k z).wf = true := by
  have hv' : ∃ cs, v = .agg cs ∧ cs.size = P.cellsOf t := by
    simp only [Value.okWide, ht] at hv
    obtain ⟨cs, h1, h2, _⟩ := hv
    exact ⟨cs, h1, h2⟩
  obtain ⟨cs, rfl, hsz⟩ := hv'
  obtain ⟨fuel, hf⟩ := h
  obtain ⟨xs, m, _, _, hl, hxl, hg⟩ := DataW.trod_array ht hf
  simp only [Value.cells] at hl hg
  rw [hct] at hsz
  have each : ∀ i, (hi : i < cs.size) → ∃ z, cs[i] = .int k z ∧ (Lit.int k z).wf = true := fun i hi => by
    have h1 := hg i (by omega)
    rw [hc, Nat.mul_one] at h1
    have h2 : (cs.toList.drop i).take 1 = [cs[i]] := by
      rw [List.drop_eq_getElem_cons (by simpa using hi)]
      rfl
    rw [h2, List.getElem?_eq_getElem (by omega)] at h1
    obtain ⟨z, e0, _, wz⟩ := DataW.trod_int he h1
    exact ⟨z, by simpa using e0, wz⟩
  refine ⟨cs.toList.map fun c => match c with | .int _ z => z | _ => 0, by simpa using hsz, ?_, ?_⟩
  · congr 1
    apply Array.ext
    · simp
    · intro i h1 h2
      obtain ⟨z, hz, _⟩ := each i h1
      simp [hz]
  · intro z hz
    obtain ⟨c, hcm, rfl⟩ := List.mem_map.1 hz
    obtain ⟨i, hi, rfl⟩ := List.getElem_of_mem hcm
    obtain ⟨z, hz, wz⟩ := each i (by simpa using hi)
    have : cs.toList[i] = .int k z := by simpa using hz
    rw [this]
    exact wz
/-- A slice of steps (Take, Size) among the cells. -/
theorem open_steps {t e tb ti : TypeId} {f0 f1 : Field} {fuel : Nat} {a : Option Addr} {len cap : Nat} {x : DataW H × List MemPlace} (ht : P.underlying t = some (.slice e)) (he : P.underlying e = some (.struct #[f0, f1]))
    (h0 : f0.type = tb ∧ f0.offset = 0) (h1 : f1.type = ti ∧ f1.offset = 1) (hb : P.underlying tb = some .bool) (hi : P.underlying ti = some (.int .i64)) (hc : P.cellsOf e = 2) (hcb : P.cellsOf tb = 1) (hci : P.cellsOf ti = 1)
    (h : DataW.trod enc P w base spare held fuel t [.slice a len cap] = some x) :
    ∃ l : List (Bool × Int), l.length = len ∧ len ≤ cap ∧ cap ≤ maxLen ∧ StepsAt w w.heap.size a l ∧ ∀ x ∈ l, -9223372036854775808 ≤ x.2 ∧ x.2 ≤ 9223372036854775807 := by
  obtain ⟨h0t, h0o⟩ := h0
  obtain ⟨h1t, h1o⟩ := h1
  rcases Go.Deep.open_slice ht h with ⟨hcs, _⟩ | ⟨ad, l, c, m, n, D, Pl, hcs, _, hl, hm, hmm, _, hx⟩
  · simp at hcs
    obtain ⟨rfl, rfl, rfl⟩ := hcs
    exact ⟨[], rfl, Nat.le_refl _, by simp [maxLen], .inl rfl, by simp⟩
  · simp at hcs
    obtain ⟨rfl, rfl, rfl⟩ := hcs
    have hlm : len ≤ m := by rw [hmm]; split <;> omega
    obtain ⟨F, hF⟩ := Go.Deep.choose_lt (α := Bool × Int) (n := len) (p := fun i y => w.cell? (ad.add (i * 2)) = some (.bool y.1) ∧ w.cell? (ad.add (i * 2 + 1)) = some (.int .i64 y.2) ∧ (Lit.int .i64 y.2).wf = true) (fun i hi' => by
      obtain ⟨cs', hc1, hc2⟩ := hx i (by omega)
      rw [hc] at hc1
      obtain ⟨_, hlen, hcell⟩ := World.cells?_some hc1
      obtain ⟨y0, y1, k, _, _, hy0, hy1⟩ := trod_struct2 he hc2
      rw [h0t, h0o, hcb] at hy0
      rw [h1t, h1o, hci] at hy1
      match cs', hlen with
      | [u, v], _ =>
        obtain ⟨b, e0, _⟩ := DataW.trod_bool hb hy0
        obtain ⟨z, e1, _, wz⟩ := DataW.trod_int hi hy1
        simp at e0 e1
        subst e0 e1
        have c0 := hcell 0 (by omega)
        have c1 := hcell 1 (by omega)
        refine ⟨(b, z), ?_, ?_, wz⟩
        · simpa [Addr.add] using c0
        · rw [Addr.add_add] at c1
          exact c1)
    refine ⟨(List.range len).map F, by simp, hl, hm, ?_, ?_⟩
    · by_cases hz : len = 0
      · exact .inl (by simp [hz])
      · obtain ⟨b, off, spot⟩ := ad
        obtain ⟨hc0, _⟩ := hF 0 (by omega)
        have hspot : spot = none := by simpa [Addr.add] using World.cell?_spot hc0
        subst hspot
        refine .inr ⟨b, off, rfl, ?_, fun j hj => ?_⟩
        · have h1 := World.block_lt_of_cell? w _ hc0
          exact h1
        · have hj' : j < len := by simpa using hj
          obtain ⟨g0, g1, _⟩ := hF j hj'
          rw [add_at] at g0 g1
          simp only [List.getElem?_map, List.getElem?_range hj', Option.map_some, Option.getD_some]
          exact ⟨g0, by rw [Nat.add_assoc]; exact g1⟩
    · intro y hy
      obtain ⟨i, hi', rfl⟩ := List.mem_map.1 hy
      exact i64_of_wf (hF i (by simpa using hi')).2.2
end

end Go.Proofs.Ytdglkjpdhnnpnaa
