/-
  Streams among a row's arguments.
-/
import Derived.Test.YtdglkjpdhnnpnaaOpen
import Derived.Test.YtdglkjpdhnnpnaaStrMem
import Derived.Lib.SmallJoins
namespace Go.Proofs.Ytdglkjpdhnnpnaa
open Go Go.ChangeShapes Go.WideShapes Go.ChangeAt Go.RowKit

section
variable {H : Type} {enc : TypeId × Value → H} {P : Program} {w : World} {base : Nat} {spare : Nat → Bool} {held : Bool}
theorem open_bytes_cs {t e : TypeId} {fuel : Nat} {cs : List Value} {x : DataW H × List MemPlace} (ht : P.underlying t = some (.slice e)) (he : P.underlying e = some (.int .u8)) (hc : P.cellsOf e = 1)
    (h : DataW.trod enc P w base spare held fuel t cs = some x) : ∃ (A : Option Addr) (bs : List UInt8) (cap : Nat), cs = [.slice A bs.length cap] ∧ bs.length ≤ cap ∧ cap ≤ maxLen ∧ BytesAt w w.heap.size A bs := by
  rcases open_ints ht he hc h with ⟨hcs, _⟩ | ⟨ad, l, c, zs, hcs, _⟩
  · exact ⟨none, [], 0, hcs, Nat.le_refl _, by simp [maxLen], .inl rfl⟩
  · subst hcs
    obtain ⟨bs, rfl, h1, h2, h3⟩ := open_bytes ht he hc h
    exact ⟨_, bs, c, rfl, h1, h2, h3⟩
/-- One step among the cells. -/
theorem open_rec_cells {t ti tb ts te : TypeId} {f0 f1 f2 f3 : Field} {fuel : Nat} {cs : List Value} {x : DataW H × List MemPlace} (hs : P.underlying t = some (.struct #[f0, f1, f2, f3]))
    (h0 : f0.type = ti ∧ f0.offset = 0) (h1 : f1.type = ti ∧ f1.offset = 1) (h2 : f2.type = tb ∧ f2.offset = 2) (h3 : f3.type = ts ∧ f3.offset = 3)
    (ui : P.underlying ti = some (.int .i64)) (ub : P.underlying tb = some .bool) (us : P.underlying ts = some (.slice te)) (ue : P.underlying te = some (.int .u8))
    (ki : P.cellsOf ti = 1) (kb : P.cellsOf tb = 1) (ks : P.cellsOf ts = 1) (ke : P.cellsOf te = 1) (hlen : cs.length = 4)
    (h : DataW.trod enc P w base spare held fuel t cs = some x) : ∃ s : Rec, cs = s.val ∧ s.Ok w w.heap.size := by
  obtain ⟨y0, y1, y2, y3, n, _, _, g0, g1, g2, g3⟩ := Go.Joins.trod_struct4 hs h
  obtain ⟨h0t, h0o⟩ := h0
  obtain ⟨h1t, h1o⟩ := h1
  obtain ⟨h2t, h2o⟩ := h2
  obtain ⟨h3t, h3o⟩ := h3
  rw [h0t, h0o, ki] at g0
  rw [h1t, h1o, ki] at g1
  rw [h2t, h2o, kb] at g2
  rw [h3t, h3o, ks] at g3
  match cs, hlen with
  | [a, b, c, d], _ =>
    obtain ⟨z0, e0, _, w0⟩ := DataW.trod_int ui g0
    obtain ⟨z1, e1, _, w1⟩ := DataW.trod_int ui g1
    obtain ⟨z2, e2, _⟩ := DataW.trod_bool ub g2
    obtain ⟨A, bs, cap, e3, hl, hm, hb⟩ := open_bytes_cs us ue ke g3
    simp at e0 e1 e2 e3
    subst e0 e1 e2 e3
    have b0 := i64_of_wf w0
    have b1 := i64_of_wf w1
    exact ⟨⟨z0, z1, z2, A, cap, bs⟩, rfl, hb, hl, hm, b0.1, b0.2, b1.1, b1.2⟩
/-- A slice of steps. -/
theorem open_recs {tt t ti tb ts te : TypeId} {f0 f1 f2 f3 : Field} {fuel : Nat} {a : Option Addr} {len cap : Nat} {x : DataW H × List MemPlace} (ht : P.underlying tt = some (.slice t)) (hs : P.underlying t = some (.struct #[f0, f1, f2, f3]))
    (h0 : f0.type = ti ∧ f0.offset = 0) (h1 : f1.type = ti ∧ f1.offset = 1) (h2 : f2.type = tb ∧ f2.offset = 2) (h3 : f3.type = ts ∧ f3.offset = 3)
    (ui : P.underlying ti = some (.int .i64)) (ub : P.underlying tb = some .bool) (us : P.underlying ts = some (.slice te)) (ue : P.underlying te = some (.int .u8))
    (ki : P.cellsOf ti = 1) (kb : P.cellsOf tb = 1) (ks : P.cellsOf ts = 1) (ke : P.cellsOf te = 1) (hC : P.cellsOf t = 4)
    (h : DataW.trod enc P w base spare held fuel tt [.slice a len cap] = some x) :
    ∃ l : List Rec, l.length = len ∧ len ≤ cap ∧ cap ≤ maxLen ∧ RecsAt w w.heap.size a l := by
  rcases Go.Deep.open_slice ht h with ⟨hcs, _⟩ | ⟨ad, l, c, m, n, D, Pl, hcs, _, hl, hm, hmm, _, hx⟩
  · simp at hcs
    obtain ⟨rfl, rfl, rfl⟩ := hcs
    exact ⟨[], rfl, Nat.le_refl _, by simp [maxLen], .inl rfl, by simp⟩
  · simp at hcs
    obtain ⟨rfl, rfl, rfl⟩ := hcs
    have hlm : len ≤ m := by rw [hmm]; split <;> omega
    by_cases hz : len = 0
    · exact ⟨[], by simp [hz], hl, hm, .inl rfl, by simp⟩
    obtain ⟨F, hF⟩ := Go.Deep.choose_lt (α := Rec) (n := len) (p := fun j (y : Rec) => (∀ i v, y.val[i]? = some v → w.cell? (ad.add (j * 4 + i)) = some v) ∧ y.Ok w w.heap.size) (fun j hj => by
      obtain ⟨cs', hc1, hc2⟩ := hx j (by omega)
      rw [hC] at hc1
      obtain ⟨_, hlen, hcell⟩ := World.cells?_some hc1
      obtain ⟨s, rfl, hok⟩ := open_rec_cells hs h0 h1 h2 h3 ui ub us ue ki kb ks ke hlen hc2
      refine ⟨s, fun i v hi => ?_, hok⟩
      have hi4 : i < 4 := by
        have := (List.getElem?_eq_some_iff.1 hi).1
        simpa [Rec.val] using this
      have h1 := hcell i hi4
      rw [Addr.add_add] at h1
      rw [h1, ← hi, List.getElem?_eq_getElem (by simpa [Rec.val] using hi4)])
    refine ⟨(List.range len).map F, by simp, hl, hm, ?_, ?_⟩
    · obtain ⟨b, off, spot⟩ := ad
      have hc0 := (hF 0 (by omega)).1 0 _ rfl
      have hspot : spot = none := by simpa [Addr.add] using World.cell?_spot hc0
      subst hspot
      refine .inr ⟨b, off, rfl, World.block_lt_of_cell? w _ hc0, fun j hj i v hv => ?_⟩
      have hj' : j < len := by simpa using hj
      have := (hF j hj').1 i v (by simpa using hv)
      rw [add_at] at this
      rw [Nat.add_assoc]
      exact this
    · intro y hy
      obtain ⟨i, hi', rfl⟩ := List.mem_map.1 hy
      exact (hF i (by simpa using hi')).2
theorem open_str {t ti tr tb ts te tt : TypeId} {f0 f1 f2 f3 g0 g1 g2 g3 : Field} {r : Reach} {b0 : Nat} {v : Value} {d : DataW H} {p : List MemPlace} (hs : P.underlying t = some (.struct #[f0, f1, f2, f3]))
    (h0 : f0.type = ti ∧ f0.offset = 0) (h1 : f1.type = ti ∧ f1.offset = 1) (h2 : f2.type = ti ∧ f2.offset = 2) (h3 : f3.type = tt ∧ f3.offset = 3) (ht : P.underlying tt = some (.slice tr)) (kt : P.cellsOf tt = 1)
    (hr : P.underlying tr = some (.struct #[g0, g1, g2, g3])) (k0 : g0.type = ti ∧ g0.offset = 0) (k1 : g1.type = ti ∧ g1.offset = 1) (k2 : g2.type = tb ∧ g2.offset = 2) (k3 : g3.type = ts ∧ g3.offset = 3)
    (ui : P.underlying ti = some (.int .i64)) (ub : P.underlying tb = some .bool) (us : P.underlying ts = some (.slice te)) (ue : P.underlying te = some (.int .u8))
    (ki : P.cellsOf ti = 1) (kb : P.cellsOf tb = 1) (ks : P.cellsOf ts = 1) (ke : P.cellsOf te = 1) (hC : P.cellsOf tr = 4) (hS : P.cellsOf t = 4)
    (hv : Value.okWide P w r b0 t v) (h : DataW.Trod enc P w base spare held t v d p) : ∃ s : Str, v = .agg s.val.toArray ∧ s.Ok w w.heap.size := by
  obtain ⟨cs, rfl, hsz⟩ := okWide_struct hs hv
  obtain ⟨fuel, hf⟩ := h
  obtain ⟨y0, y1, y2, y3, n, _, _, q0, q1, q2, q3⟩ := Go.Joins.trod_struct4 hs hf
  obtain ⟨h0t, h0o⟩ := h0
  obtain ⟨h1t, h1o⟩ := h1
  obtain ⟨h2t, h2o⟩ := h2
  obtain ⟨h3t, h3o⟩ := h3
  rw [h0t, h0o, ki] at q0
  rw [h1t, h1o, ki] at q1
  rw [h2t, h2o, ki] at q2
  rw [h3t, h3o, kt] at q3
  have hlen : cs.toList.length = 4 := by rw [Array.length_toList, hsz, hS]
  have hcs : (Value.agg cs).cells.toList = cs.toList := rfl
  rw [hcs] at q0 q1 q2 q3
  match hm : cs.toList, hlen with
  | [a, b, c, e], _ =>
    rw [hm] at q0 q1 q2 q3
    obtain ⟨z0, e0, _, w0⟩ := DataW.trod_int ui q0
    obtain ⟨z1, e1, _, w1⟩ := DataW.trod_int ui q1
    obtain ⟨z2, e2, _, w2⟩ := DataW.trod_int ui q2
    simp at e0 e1 e2
    subst e0 e1 e2
    have b0 := i64_of_wf w0
    have b1 := i64_of_wf w1
    have b2 := i64_of_wf w2
    have hq3 : DataW.trod enc P w base spare held n tt [e] = some y3 := q3
    have hsl : ∃ A len cap, e = .slice A len cap := by
      rcases Go.Deep.open_slice ht hq3 with ⟨hcs, _⟩ | ⟨ad, l, c, m, n, D, Pl, hcs, _⟩
      · exact ⟨none, 0, 0, by simpa using hcs⟩
      · exact ⟨_, _, _, by simpa using hcs⟩
    obtain ⟨A, len, cap, rfl⟩ := hsl
    obtain ⟨l, rfl, hl, hmx, hok⟩ := open_recs ht hr k0 k1 k2 k3 ui ub us ue ki kb ks ke hC hq3
    refine ⟨⟨z0, z1, z2, A, cap, l⟩, ?_, hok, hl, hmx, b0.1, b0.2, b1.1, b1.2, b2.1, b2.2⟩
    show Value.agg cs = .agg _
    congr 1
    rw [← Array.toArray_toList (xs := cs), hm]
    rfl
end
end Go.Proofs.Ytdglkjpdhnnpnaa
