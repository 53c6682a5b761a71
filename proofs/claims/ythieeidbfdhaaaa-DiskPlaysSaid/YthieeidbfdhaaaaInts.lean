/-
  Slices of numbers that the call owns: append of one.
-/
import Derived.Test.YthieeidbfdhaaaaArrays
namespace Go.Proofs.Ythieeidbfdhaaaa
open Go Go.RowKit

/-- A number as an int. -/
abbrev I64 (n : Nat) : Value := .int .i64 (n : Int)
/-- The slice that begins at A, of capacity c, owns the numbers xs. -/
def OwnI (w : World) (base : Nat) (A : Option Addr) (c : Nat) (xs : List Nat) : Prop := w.ownsRow base 3 1 (.slice A xs.length c) xs.length (xs.map I64)
theorem OwnI.nil (w : World) (base : Nat) : OwnI w base none 0 [] := World.ownsRow_nil w base 3 1
theorem OwnI.kept {w w' : World} {base : Nat} {A : Option Addr} {c : Nat} {xs : List Nat} {row : Option Nat} (h : OwnI w base A c xs) (hg : w.grownBy w' row) (hne : A.map (·.block) = none ∨ A.map (·.block) ≠ row) : OwnI w' base A c xs :=
  World.ownsRow.kept h hg (by rw [own_of]; exact hne)
theorem OwnI.lt {w : World} {base : Nat} {A : Option Addr} {c : Nat} {xs : List Nat} (h : OwnI w base A c xs) : ∀ k, A.map (·.block) = some k → base ≤ k ∧ k < w.heap.size := by
  intro k hk
  exact World.ownsRow.lt h k (by rw [own_of]; exact hk)
theorem OwnI.alloc {w : World} {base : Nat} {A : Option Addr} {c : Nat} {xs : List Nat} (h : OwnI w base A c xs) (o : Obj) : OwnI (w.alloc o) base A c xs := World.ownsRow.alloc h o
theorem OwnI.block {w w' : World} {base : Nat} {A : Option Addr} {c : Nat} {xs : List Nat} (h : OwnI w base A c xs) (hk : ∀ k, A.map (·.block) = some k → w'.heap[k]? = w.heap[k]?) : OwnI w' base A c xs := by
  refine ⟨h.1, ?_⟩
  rcases h.2 with hn | ⟨g, cap, cur, hv, hbg, hg, rest⟩
  · exact .inl hn
  · refine .inr ⟨g, cap, cur, hv, hbg, ?_, rest⟩
    injection hv with hA _ _
    rw [hk g (by rw [hA]; rfl)]
    exact hg
theorem OwnI.below {w w' : World} {base B : Nat} {A : Option Addr} {c : Nat} {xs : List Nat} (h : OwnI w base A c xs) (hb : Below B w w') (hB : w.heap.size ≤ B) : OwnI w' base A c xs := h.block fun k hk => hb.block k (by have := (h.lt k hk).2; omega)
theorem OwnI.mono {w : World} {base base' : Nat} {A : Option Addr} {c : Nat} {xs : List Nat} (h : OwnI w base A c xs) (hb : base' ≤ base) : OwnI w base' A c xs := by
  refine ⟨h.1, ?_⟩
  rcases h.2 with hn | ⟨g, cap, cur, hv, hbg, hg, rest⟩
  · exact .inl hn
  · exact .inr ⟨g, cap, cur, hv, by omega, hg, rest⟩
/-- Its cells. -/
theorem OwnI.cells {w : World} {base : Nat} {A : Option Addr} {c : Nat} {xs : List Nat} (h : OwnI w base A c xs) (j : Nat) (hj : j < xs.length) : ∃ g, A = some ⟨g, 0, none⟩ ∧ base ≤ g ∧ g < w.heap.size ∧ w.cell? ⟨g, j, none⟩ = some (I64 xs[j]) := by
  rcases h.2 with ⟨_, h0'⟩ | ⟨g, cap, cur, hv, hbg, hg, _⟩
  · omega
  · injection hv with hA _ _
    refine ⟨g, hA, hbg, (Array.getElem?_eq_some_iff.1 hg).1, ?_⟩
    have := World.ownsRow.cells h (g := g) (by rw [hA]; rfl) j (I64 xs[j]) (by simp [hj])
    rw [add_at] at this
    simpa using this

theorem run_append_int {P : Program} (w : World) (base : Nat) (t ty : TypeId) (ht : P.underlying t = some (.slice 3)) (hinfo : (P.info? 3).map (fun i => (i.zero, i.size, i.bytes)) = some (some (.int .i64 0), 1, 8))
    (A : Option Addr) (c : Nat) (xs : List Nat) (hown : OwnI w base A c xs) (h c2 : Nat) (x : Nat) (tr : TypeId) (hrow : RowAt w h tr [I64 x])
    (hlen : xs.length ≤ 1000000000) (hbase : base ≤ w.heap.size) :
    ∃ (zs : List Nat) (A' : Option Addr) (c' : Nat) (w' : World), Hid (zs = xs ++ [x]) ∧ (Builtin.append_ #[t, t] ty #[.slice A xs.length c, .slice (some ⟨h, 0, none⟩) 1 c2]).run P w = .ok (.slice A' zs.length c') w' ∧
      OwnI w' base A' c' zs ∧ w.grownBy w' (A.map (·.block)) ∧ LiesAt A' A w.heap.size := by
  obtain ⟨i, hi, hz0, hz1, hz2⟩ := info_parts hinfo
  obtain ⟨g, cap, w', hr, h2, h3, h4, _⟩ := run_append_lies (P := P) w t ty base 3 i _ 1 8 ht hi hz0 hz1 hz2 rfl (by decide) (.slice A xs.length c) xs.length (xs.map I64) hown ⟨h, 0, none⟩ 1 c2 [I64 x] rfl
    (fun j u hj => by rw [add_at, Nat.zero_add, hrow.cell]; exact hj) (by simp [Value.oneCell']) (by decide) (by simp [maxLen]; omega) (by omega) hbase w.heap.size rfl
  refine ⟨xs ++ [x], some ⟨g, 0, none⟩, cap, w', rfl, by rw [List.length_append]; exact hr, ?_, by rw [← own_of A xs.length c]; exact h3, ?_⟩
  · unfold OwnI
    rw [List.length_append, List.map_append]
    exact h2
  · rw [own_of] at h4
    rcases h4 with h4 | h4
    · exact .inl (by rw [h4]; rfl)
    · exact .inr (by rw [h4]; rfl)

theorem wpListIn_app_int {F : Fence} {n : Nat} {P : Program} {w : World} (hF : ∀ f, F.fn f) {base : Nat} (hbase : base ≤ w.heap.size) {ops : Array Oper} {rest : List Oper} {o : Oper} {a : Act} {Q : Exit → Act → World → Prop} (hgd : Region.wanted o (yielded ops a.tmps) = true) (s x : Operand) (t : TypeId)
    (ho : o.op = .call { callee := .builtin .append, args := #[s, x], argTypes := #[t, t] })
    (ht : P.underlying t = some (.slice 3)) (hinfo : (P.info? 3).map (fun i => (i.zero, i.size, i.bytes)) = some (some (.int .i64 0), 1, 8))
    {A : Option Addr} {c : Nat} {xs : List Nat} (hown : OwnI w base A c xs) (h c2 y : Nat) (tr : TypeId) (hrow : RowAt w h tr [I64 y]) (hs : a.eval s = .slice A xs.length c) (hx : a.eval x = .slice (some ⟨h, 0, none⟩) 1 c2)
    (hlen : xs.length ≤ 1000000000)
    (hK : ∀ (zs : List Nat) (A' : Option Addr) (c' : Nat) (w' : World), Hid (zs = xs ++ [y]) → OwnI w' base A' c' zs → w.grownBy w' (A.map (·.block)) → LiesAt A' A w.heap.size →
      wpListIn F n P ops Q rest (a.put o.dst (.slice A' zs.length c')) w') :
    wpListIn F n P ops Q (o :: rest) a w := by
  obtain ⟨zs, A', c', w', hz, hr, h2, h3, h4⟩ := run_append_int (P := P) w base t o.type ht hinfo A c xs hown h c2 y tr hrow hlen hbase
  refine wpListIn_run hF hgd (by rw [ho]; intro c hc; cases hc) _ w' ?_ (hK zs A' c' w' hz h2 h3 h4)
  simp only [execOp, ho, resolve, invoke, builtin, Sem.run_bind, Sem.run_pure, Result.andThen_ok, List.map_toArray, List.map_cons, List.map_nil, hs, hx, hr]
theorem wpList_app_int {P : Program} {w : World} {base : Nat} (hbase : base ≤ w.heap.size) {ops : Array Oper} {rest : List Oper} {o : Oper} {a : Act} {Q : Exit → Act → World → Prop} (hgd : Region.wanted o (yielded ops a.tmps) = true) (s x : Operand) (t : TypeId)
    (ho : o.op = .call { callee := .builtin .append, args := #[s, x], argTypes := #[t, t] })
    (ht : P.underlying t = some (.slice 3)) (hinfo : (P.info? 3).map (fun i => (i.zero, i.size, i.bytes)) = some (some (.int .i64 0), 1, 8))
    {A : Option Addr} {c : Nat} {xs : List Nat} (hown : OwnI w base A c xs) (h c2 y : Nat) (tr : TypeId) (hrow : RowAt w h tr [I64 y]) (hs : a.eval s = .slice A xs.length c) (hx : a.eval x = .slice (some ⟨h, 0, none⟩) 1 c2)
    (hlen : xs.length ≤ 1000000000)
    (hK : ∀ (zs : List Nat) (A' : Option Addr) (c' : Nat) (w' : World), Hid (zs = xs ++ [y]) → OwnI w' base A' c' zs → w.grownBy w' (A.map (·.block)) → LiesAt A' A w.heap.size →
      wpList P ops Q rest (a.put o.dst (.slice A' zs.length c')) w') :
    wpList P ops Q (o :: rest) a w := by
  obtain ⟨zs, A', c', w', hz, hr, h2, h3, h4⟩ := run_append_int (P := P) w base t o.type ht hinfo A c xs hown h c2 y tr hrow hlen hbase
  refine wpList_run hgd _ w' ?_ (hK zs A' c' w' hz h2 h3 h4)
  simp only [execOp, ho, resolve, invoke, builtin, Sem.run_bind, Sem.run_pure, Result.andThen_ok, List.map_toArray, List.map_cons, List.map_nil, hs, hx, hr]
theorem OwnI.other {X Y : World} {base : Nat} {A : Option Addr} {c : Nat} {xs : List Nat} {row : Option Nat} (h : OwnI X base A c xs) (hg : X.grownBy Y row) (hr : ∀ r, row = some r → ∃ o : Obj, X.heap[r]? = some o ∧ o.isCells = false) : OwnI Y base A c xs := by
  refine ⟨h.1, ?_⟩
  rcases h.2 with hn | ⟨g, cap, cur, hv, hbg, hh, rest⟩
  · exact .inl hn
  · refine .inr ⟨g, cap, cur, hv, hbg, ?_, rest⟩
    rw [hg.block g (Array.getElem?_eq_some_iff.1 hh).1 (fun e => by
      obtain ⟨o, ho, hc⟩ := hr g e.symm
      rw [hh] at ho
      cases ho
      cases hc)]
    exact hh
end Go.Proofs.Ythieeidbfdhaaaa
