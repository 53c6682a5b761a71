/-
  append of bytes as one step of a region that draws its order.
-/
import Derived.Test.YtdglkjpdhnnpnaaBlocks
import Derived.Deep.RegionHeld3
import Derived.Deep.RegionLaw
import Derived.Laws.ResultCell
namespace Go.Proofs.Ytdglkjpdhnnpnaa
open Go Go.RowKit

theorem wanted_step {c : Prop} [Decidable c] {p q : Prop} (hc : c) (h : p) : if c then p else q := by rw [if_pos hc]; exact h

theorem wp_app {P : Program} {w : World} {base : Nat} (hB0 : base ≤ w.heap.size) {o : Oper} {a : Act} {K : Act → World → Prop} {Q : Exit → Act → World → Prop} (s x : Operand) (t : TypeId)
    (ho : o.op = .call { callee := .builtin .append, args := #[s, x], argTypes := #[t, t] })
    {e : TypeId} (ht : P.underlying t = some (.slice e)) (hinfo : (P.info? e).map (fun i => (i.zero, i.size, i.bytes)) = some (some (.int .u8 0), 1, 1))
    {A : Option Addr} {c : Nat} {xs : List UInt8} (n : Nat) (hn : xs.length = n) (hown : OwnB w base e A c xs) {B : Nat} {A2 : Option Addr} {ys : List UInt8} (c2 n2 : Nat) (hn2 : ys.length = n2) (hy : BytesAt w B A2 ys) (hs : a.eval s = .slice A n c) (hx : a.eval x = .slice A2 n2 c2)
    (hlen : n + n2 ≤ 140737488355328)
    (h : ∀ (zs : List UInt8) (A' : Option Addr) (c' : Nat) (w' : World), Hid (zs = xs ++ ys) → OwnB w' base e A' c' zs → w.grownBy w' (A.map (·.block)) → LiesAt A' A w.heap.size → K (a.put o.dst (.slice A' zs.length c')) w') :
    o.wp P a w K Q := by
  subst hn hn2
  obtain ⟨zs, A', c', w', hz, hr, h2, h3, h4⟩ := run_append_bytes (P := P) w base t o.type e ht hinfo A c xs hown B A2 c2 ys hy hlen hB0
  unfold Oper.wp execOp
  simp only [ho, resolve, invoke, builtin, Sem.run_bind, Sem.run_pure, Result.andThen_ok, List.map_toArray, List.map_cons, List.map_nil, hs, hx, hr]
  exact h zs A' c' w' hz h2 h3 h4

/-- copy into a row, at one operation. -/
theorem wp_copy {P : Program} {w : World} {o : Oper} {a : Act} {K : Act → World → Prop} {Q : Exit → Act → World → Prop} (hgd : o.guard = none) (d s : Operand) (dT sT : TypeId)
    (ho : o.op = .call { callee := .builtin .copy, args := #[d, s], argTypes := #[dT, sT] }) (elem : TypeId) (hu : P.underlying dT = some (.slice elem)) (hsz : (P.info? elem).map (·.size) = some 1)
    (dp sp : Option Addr) (dLen dCap sLen sCap : Nat) (hd : a.eval d = .slice dp dLen dCap) (hs : a.eval s = .slice sp sLen sCap)
    (g off : Nat) (cur : List Value) (t : TypeId) (hg : RowAt w g t cur) (cs : List Value) (hn : cs.length = Nat.min sLen dLen)
    (hpos : 0 < cs.length → dp = some ⟨g, off, none⟩ ∧ ∃ ad, sp = some ad ∧ ∀ j v, cs[j]? = some v → w.cell? (ad.add j) = some v)
    (hfit : off + cs.length ≤ cur.length) (h1 : ∀ v ∈ cs, v.oneCell' = true)
    (h : ∀ w', RowAt w' g t (splice cur off cs) → Below g w w' → w.heap.size ≤ w'.heap.size → K (a.put o.dst (goInt cs.length)) w') : o.wp P a w K Q := by
  have hw : Region.wanted o (yielded #[] a.tmps) = true := by simp [Region.wanted, hgd]
  have h0 := step_copy_splice (P := P) (ops := #[]) (o := o) (a := a) (w := w) (K := K) (Q := Q) (E := True) hgd d s dT sT ho elem hu hsz dp sp dLen dCap sLen sCap hd hs g off cur t hg cs hn hpos hfit h1 g w (Below.refl _ _) (Nat.le_refl _) (fun w' hr hb => h w' hr.out hb hb.size)
  rwa [if_pos hw] at h0

/-- Two results, the first one a variable's whole row. -/
theorem results_row_tmp {P : Program} {fn : Func} {p u : Tmp} {ty : TypeId} (h : fn.results = #[.cell p ty, .tmp u]) (tmps : Array Value) {w : World} {g : Nat} {t : TypeId} {cs : List Value} (hr : RowAt w g t cs)
    (hp : tmps.getD p undef = .pointer (some ⟨g, 0, none⟩)) {d : TypeDesc} (hu : P.underlying ty = some d) (hd : (match d with | .struct _ | .array _ _ => true | _ => false) = true) (hi : (P.info? ty).map (·.size) = some cs.length) :
    (results fn tmps).run P w = .ok (.tuple #[.agg cs.toArray, tmps.getD u undef]) w := by
  rw [results_cell_tmp h, hp]
  have hl := run_loadVar_row (P := P) w g t ty cs.toArray (0, 0) d hr hu hd (by simpa using hi)
  simp [asAddr, Result.andThen, hl]

/-- A slice literal of one byte is owned. -/
theorem own_one (w : World) {g : Nat} (hg : g = w.heap.size) (base : Nat) (e : TypeId) (x : UInt8) (hb : base ≤ w.heap.size) : OwnB (w.alloc (.cells #[B8 x] e)) base e (some ⟨g, 0, none⟩) 1 [x] := by
  subst hg
  exact ⟨by simp, .inr ⟨w.heap.size, 1, #[B8 x], rfl, hb, heap_alloc_new w _, Nat.le_refl _, by simp [maxLen], by simp, by simp⟩⟩

theorem wpList_app_b {P : Program} {w : World} {base : Nat} (hB0 : base ≤ w.heap.size) {ops : Array Oper} {rest : List Oper} {o : Oper} {a : Act} {Q : Exit → Act → World → Prop} (hgd : Region.wanted o (yielded ops a.tmps) = true) (s x : Operand) (t : TypeId)
    (ho : o.op = .call { callee := .builtin .append, args := #[s, x], argTypes := #[t, t] })
    {e : TypeId} (ht : P.underlying t = some (.slice e)) (hinfo : (P.info? e).map (fun i => (i.zero, i.size, i.bytes)) = some (some (.int .u8 0), 1, 1))
    {A : Option Addr} {c : Nat} {xs : List UInt8} (n : Nat) (hn : xs.length = n) (hown : OwnB w base e A c xs) {B : Nat} {A2 : Option Addr} {ys : List UInt8} (c2 n2 : Nat) (hn2 : ys.length = n2) (hy : BytesAt w B A2 ys) (hs : a.eval s = .slice A n c) (hx : a.eval x = .slice A2 n2 c2)
    (hlen : n + n2 ≤ 140737488355328)
    (h : ∀ (zs : List UInt8) (A' : Option Addr) (c' : Nat) (w' : World), Hid (zs = xs ++ ys) → OwnB w' base e A' c' zs → w.grownBy w' (A.map (·.block)) → LiesAt A' A w.heap.size → wpList P ops Q rest (a.put o.dst (.slice A' zs.length c')) w') :
    wpList P ops Q (o :: rest) a w :=
  wpList_want hgd fun _ hK => wp_app hB0 s x t ho ht hinfo n hn hown c2 n2 hn2 hy hs hx hlen fun zs A' c' w' hz h2 h3 h4 => hK _ _ (h zs A' c' w' hz h2 h3 h4)

theorem wpList_copy {P : Program} {w : World} {ops : Array Oper} {rest : List Oper} {o : Oper} {a : Act} {Q : Exit → Act → World → Prop} (hgd : o.guard = none) (d s : Operand) (dT sT : TypeId)
    (ho : o.op = .call { callee := .builtin .copy, args := #[d, s], argTypes := #[dT, sT] }) (elem : TypeId) (hu : P.underlying dT = some (.slice elem)) (hsz : (P.info? elem).map (·.size) = some 1)
    (dp sp : Option Addr) (dLen dCap sLen sCap : Nat) (hd : a.eval d = .slice dp dLen dCap) (hs : a.eval s = .slice sp sLen sCap)
    (g off : Nat) (cur : List Value) (t : TypeId) (hg : RowAt w g t cur) (cs : List Value) (hn : cs.length = Nat.min sLen dLen)
    (hpos : 0 < cs.length → dp = some ⟨g, off, none⟩ ∧ ∃ ad, sp = some ad ∧ ∀ j v, cs[j]? = some v → w.cell? (ad.add j) = some v)
    (hfit : off + cs.length ≤ cur.length) (h1 : ∀ v ∈ cs, v.oneCell' = true)
    (h : ∀ w', RowAt w' g t (splice cur off cs) → Below g w w' → w.heap.size ≤ w'.heap.size → wpList P ops Q rest (a.put o.dst (goInt cs.length)) w') : wpList P ops Q (o :: rest) a w :=
  wpList_plain hgd fun _ hK => wp_copy hgd d s dT sT ho elem hu hsz dp sp dLen dCap sLen sCap hd hs g off cur t hg cs hn hpos hfit h1 fun w' h2 h3 h4 => hK _ _ (h w' h2 h3 h4)

/-- Bytes as copy wants them. -/
theorem BytesAt.cells {w : World} {B : Nat} {A : Option Addr} {bs : List UInt8} (h : BytesAt w B A bs) (h0 : 0 < bs.length) : ∃ ad, A = some ad ∧ ∀ j v, (bs.map B8)[j]? = some v → w.cell? (ad.add j) = some v := by
  rcases h with h | ⟨b, off, rfl, _, hc⟩
  · rw [h] at h0
    cases h0
  · refine ⟨_, rfl, fun j v hj => ?_⟩
    have hjl : j < bs.length := by simpa using (List.getElem?_eq_some_iff.1 hj).1
    rw [add_at, hc j hjl, ← hj]
    simp [hjl]

end Go.Proofs.Ytdglkjpdhnnpnaa
