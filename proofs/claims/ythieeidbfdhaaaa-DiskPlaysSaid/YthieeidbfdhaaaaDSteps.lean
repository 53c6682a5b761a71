/-
  The steps of a disk, as the statements have them: in memory, and opened among a row's arguments.
-/
import Derived.Test.YthieeidbfdhaaaaOpen
import Derived.Lib.SmallJoins
namespace Go.Proofs.Ythieeidbfdhaaaa
open Go Go.ChangeShapes Go.WideShapes Go.ChangeAt Go.RowKit

/-- A step: its kind, its place, its byte, its picks (where they begin, and their capacity). -/
structure DStep where
  kind : Int
  place : Int
  v : UInt8
  A : Option Addr
  cap : Nat
  pick : List UInt8
instance : Inhabited DStep := ⟨⟨0, 0, 0, none, 0, []⟩⟩
def DStep.val (x : DStep) : List Value := [.int .i64 x.kind, .int .i64 x.place, B8 x.v, .slice x.A x.pick.length x.cap]
structure DStep.Ok (w : World) (B : Nat) (x : DStep) : Prop where
  bytes : BytesAt w B x.A x.pick
  len : x.pick.length ≤ x.cap
  most : x.cap ≤ maxLen
  k1 : -9223372036854775808 ≤ x.kind
  k2 : x.kind ≤ 9223372036854775807
  p1 : -9223372036854775808 ≤ x.place
  p2 : x.place ≤ 9223372036854775807
theorem DStep.Ok.below {w w' : World} {B : Nat} {x : DStep} (h : x.Ok w B) (hb : Below B w w') : x.Ok w' B := ⟨h.bytes.below hb, h.len, h.most, h.k1, h.k2, h.p1, h.p2⟩

/-- A slice of steps in memory. -/
def DStepsAt (w : World) (B : Nat) (A : Option Addr) (l : List DStep) : Prop :=
  (l = [] ∨ ∃ b off, A = some ⟨b, off, none⟩ ∧ b < B ∧ ∀ j (h : j < l.length), ∀ i v, l[j].val[i]? = some v → w.cell? ⟨b, off + j * 4 + i, none⟩ = some v) ∧ ∀ x ∈ l, x.Ok w B
theorem DStepsAt.below {w w' : World} {B : Nat} {A : Option Addr} {l : List DStep} (h : DStepsAt w B A l) (hb : Below B w w') : DStepsAt w' B A l := by
  refine ⟨?_, fun x hx => (h.2 x hx).below hb⟩
  rcases h.1 with h | ⟨b, off, hA, hlt, hc⟩
  · exact .inl h
  · exact .inr ⟨b, off, hA, hlt, fun j hj i v hv => (hb.cell (p := ⟨b, off + j * 4 + i, none⟩) hlt).trans (hc j hj i v hv)⟩

section
variable {H : Type} {enc : TypeId × Value → H} {P : Program} {w : World} {base : Nat} {spare : Nat → Bool} {held : Bool}
theorem open_bytes_cs {t e : TypeId} {fuel : Nat} {cs : List Value} {x : DataW H × List MemPlace} (ht : P.underlying t = some (.slice e)) (he : P.underlying e = some (.int .u8)) (hc : P.cellsOf e = 1)
    (h : DataW.trod enc P w base spare held fuel t cs = some x) : ∃ (A : Option Addr) (bs : List UInt8) (cap : Nat), cs = [.slice A bs.length cap] ∧ bs.length ≤ cap ∧ cap ≤ maxLen ∧ BytesAt w w.heap.size A bs := by
  rcases open_ints ht he hc h with ⟨hcs, _⟩ | ⟨ad, l, c, zs, hcs, _⟩
  · exact ⟨none, [], 0, hcs, Nat.le_refl _, by simp [maxLen], .inl rfl⟩
  · subst hcs
    obtain ⟨bs, rfl, h1, h2, h3⟩ := open_bytes ht he hc h
    exact ⟨_, bs, c, rfl, h1, h2, h3⟩
/-- One step among the cells. -/
theorem open_dstep_cells {t ti tb ts te : TypeId} {f0 f1 f2 f3 : Field} {fuel : Nat} {cs : List Value} {x : DataW H × List MemPlace} (hs : P.underlying t = some (.struct #[f0, f1, f2, f3]))
    (h0 : f0.type = ti ∧ f0.offset = 0) (h1 : f1.type = ti ∧ f1.offset = 1) (h2 : f2.type = tb ∧ f2.offset = 2) (h3 : f3.type = ts ∧ f3.offset = 3)
    (ui : P.underlying ti = some (.int .i64)) (ub : P.underlying tb = some (.int .u8)) (us : P.underlying ts = some (.slice te)) (ue : P.underlying te = some (.int .u8))
    (ki : P.cellsOf ti = 1) (kb : P.cellsOf tb = 1) (ks : P.cellsOf ts = 1) (ke : P.cellsOf te = 1) (hlen : cs.length = 4)
    (h : DataW.trod enc P w base spare held fuel t cs = some x) : ∃ s : DStep, cs = s.val ∧ s.Ok w w.heap.size := by
  obtain ⟨y0, y1, y2, y3, n, _, _, g0, g1, g2, g3⟩ := Go.Joins.trod_struct4 hs h
  obtain ⟨h0t, h0o⟩ := h0
  obtain ⟨h1t, h1o⟩ := h1
  obtain ⟨h2t, h2o⟩ := h2
  obtain ⟨h3t, h3o⟩ := h3
  rw [h0t, h0o, ki] at g0
  rw [h1t, h1o, ki] at g1
  rw [h2t, h2o, kb] at g2
  rw [h3t, h3o, ks] at g3
  match cs, hlen with
  | [a, b, c, d], _ =>
    obtain ⟨z0, e0, _, w0⟩ := DataW.trod_int ui g0
    obtain ⟨z1, e1, _, w1⟩ := DataW.trod_int ui g1
    obtain ⟨z2, e2, _, w2⟩ := DataW.trod_int ub g2
    obtain ⟨A, bs, cap, e3, hl, hm, hb⟩ := open_bytes_cs us ue ke g3
    obtain ⟨u, rfl⟩ := u8_of_wf w2
    simp at e0 e1 e2 e3
    subst e0 e1 e2 e3
    have b0 := i64_of_wf w0
    have b1 := i64_of_wf w1
    exact ⟨⟨z0, z1, u, A, cap, bs⟩, rfl, hb, hl, hm, b0.1, b0.2, b1.1, b1.2⟩
theorem open_dstep {t ti tb ts te : TypeId} {f0 f1 f2 f3 : Field} {r : Reach} {b0 : Nat} {v : Value} {d : DataW H} {p : List MemPlace} (hs : P.underlying t = some (.struct #[f0, f1, f2, f3]))
    (h0 : f0.type = ti ∧ f0.offset = 0) (h1 : f1.type = ti ∧ f1.offset = 1) (h2 : f2.type = tb ∧ f2.offset = 2) (h3 : f3.type = ts ∧ f3.offset = 3)
    (ui : P.underlying ti = some (.int .i64)) (ub : P.underlying tb = some (.int .u8)) (us : P.underlying ts = some (.slice te)) (ue : P.underlying te = some (.int .u8))
    (ki : P.cellsOf ti = 1) (kb : P.cellsOf tb = 1) (ks : P.cellsOf ts = 1) (ke : P.cellsOf te = 1) (hC : P.cellsOf t = 4)
    (hv : Value.okWide P w r b0 t v) (h : DataW.Trod enc P w base spare held t v d p) : ∃ s : DStep, v = .agg s.val.toArray ∧ s.Ok w w.heap.size := by
  obtain ⟨cs, rfl, hsz⟩ := okWide_struct hs hv
  obtain ⟨fuel, hf⟩ := h
  obtain ⟨s, he, hok⟩ := open_dstep_cells hs h0 h1 h2 h3 ui ub us ue ki kb ks ke (cs := cs.toList) (by rw [Array.length_toList, hsz, hC]) hf
  exact ⟨s, by rw [← he], hok⟩
/-- A slice of steps. -/
theorem open_dsteps {tt t ti tb ts te : TypeId} {f0 f1 f2 f3 : Field} {fuel : Nat} {a : Option Addr} {len cap : Nat} {x : DataW H × List MemPlace} (ht : P.underlying tt = some (.slice t)) (hs : P.underlying t = some (.struct #[f0, f1, f2, f3]))
    (h0 : f0.type = ti ∧ f0.offset = 0) (h1 : f1.type = ti ∧ f1.offset = 1) (h2 : f2.type = tb ∧ f2.offset = 2) (h3 : f3.type = ts ∧ f3.offset = 3)
    (ui : P.underlying ti = some (.int .i64)) (ub : P.underlying tb = some (.int .u8)) (us : P.underlying ts = some (.slice te)) (ue : P.underlying te = some (.int .u8))
    (ki : P.cellsOf ti = 1) (kb : P.cellsOf tb = 1) (ks : P.cellsOf ts = 1) (ke : P.cellsOf te = 1) (hC : P.cellsOf t = 4)
    (h : DataW.trod enc P w base spare held fuel tt [.slice a len cap] = some x) :
    ∃ l : List DStep, l.length = len ∧ len ≤ cap ∧ cap ≤ maxLen ∧ DStepsAt w w.heap.size a l := by
  rcases Go.Deep.open_slice ht h with ⟨hcs, _⟩ | ⟨ad, l, c, m, n, D, Pl, hcs, _, hl, hm, hmm, _, hx⟩
  · simp at hcs
    obtain ⟨rfl, rfl, rfl⟩ := hcs
    exact ⟨[], rfl, Nat.le_refl _, by simp [maxLen], .inl rfl, by simp⟩
  · simp at hcs
    obtain ⟨rfl, rfl, rfl⟩ := hcs
    have hlm : len ≤ m := by rw [hmm]; split <;> omega
    by_cases hz : len = 0
    · exact ⟨[], by simp [hz], hl, hm, .inl rfl, by simp⟩
    obtain ⟨F, hF⟩ := Go.Deep.choose_lt (α := DStep) (n := len) (p := fun j (y : DStep) => (∀ i v, y.val[i]? = some v → w.cell? (ad.add (j * 4 + i)) = some v) ∧ y.Ok w w.heap.size) (fun j hj => by
      obtain ⟨cs', hc1, hc2⟩ := hx j (by omega)
      rw [hC] at hc1
      obtain ⟨_, hlen, hcell⟩ := World.cells?_some hc1
      obtain ⟨s, rfl, hok⟩ := open_dstep_cells hs h0 h1 h2 h3 ui ub us ue ki kb ks ke hlen hc2
      refine ⟨s, fun i v hi => ?_, hok⟩
      have hi4 : i < 4 := by
        have := (List.getElem?_eq_some_iff.1 hi).1
        simpa [DStep.val] using this
      have h1 := hcell i hi4
      rw [Addr.add_add] at h1
      rw [h1, ← hi, List.getElem?_eq_getElem (by simpa [DStep.val] using hi4)])
    refine ⟨(List.range len).map F, by simp, hl, hm, ?_, ?_⟩
    · obtain ⟨b, off, spot⟩ := ad
      have hc0 := (hF 0 (by omega)).1 0 _ rfl
      have hspot : spot = none := by simpa [Addr.add] using World.cell?_spot hc0
      subst hspot
      refine .inr ⟨b, off, rfl, World.block_lt_of_cell? w _ hc0, fun j hj i v hv => ?_⟩
      have hj' : j < len := by simpa using hj
      have := (hF j hj').1 i v (by simpa using hv)
      rw [add_at] at this
      rw [Nat.add_assoc]
      exact this
    · intro y hy
      obtain ⟨i, hi', rfl⟩ := List.mem_map.1 hy
      exact (hF i (by simpa using hi')).2
end
end Go.Proofs.Ythieeidbfdhaaaa
