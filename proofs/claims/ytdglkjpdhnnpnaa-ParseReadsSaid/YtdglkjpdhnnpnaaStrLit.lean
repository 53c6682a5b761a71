/-
  Literals of streams; how long a stream's bytes are.
-/
import Derived.Test.YtdglkjpdhnnpnaaStrCode
import Derived.Test.YtdglkjpdhnnpnaaMore
import Derived.Test.YtdglkjpdhnnpnaaFill
namespace Go.Proofs.Ytdglkjpdhnnpnaa
open Go Go.RowKit

theorem recs_flat : ∀ (l : List Rec) (j i : Nat) (hj : j < l.length), i < 4 → ((l.map Rec.val).flatten)[j * 4 + i]? = l[j].val[i]?
  | x :: l, 0, i, _, hi => by
    rw [List.map_cons, List.flatten_cons, List.getElem?_append_left (by simp [Rec.val]; omega)]
    simp
  | x :: l, j + 1, i, hj, hi => by
    rw [List.map_cons, List.flatten_cons, List.getElem?_append_right (by simp [Rec.val]; omega)]
    rw [show (j + 1) * 4 + i - x.val.length = j * 4 + i by simp [Rec.val]; omega]
    exact recs_flat l j i (by simpa using hj) hi
/-- A literal of records. -/
theorem lit_recs (w : World) (l : List Rec) (h : ∀ x ∈ l, x.Ok w w.heap.size) (cs : Array Value) (hcs : cs = ((l.map Rec.val).flatten).toArray) (g : Nat) (hg : g = w.heap.size) :
    RecsAt (w.alloc (.cells cs 39)) (w.alloc (.cells cs 39)).heap.size (some ⟨g, 0, none⟩) l := by
  subst hcs hg
  refine ⟨.inr ⟨w.heap.size, 0, rfl, by simp, fun j hj i v hv => ?_⟩, fun x hx => ((h x hx).below (alloc_below w _)).more (by simp)⟩
  have hi : i < 4 := (List.getElem?_eq_some_iff.1 hv).1
  rw [World.cell?_alloc_mark, Nat.zero_add, List.getElem?_toArray, recs_flat l j i hj hi]
  exact hv

def sumB (l : List Rec) : Nat := (l.map fun r => 13 + r.data.length).sum
theorem sumB_snoc (l : List Rec) (r : Rec) : sumB (l ++ [r]) = sumB l + (13 + r.data.length) := by simp [sumB]
theorem flat_sum : ∀ l : List Rec, (l.map recE).flatten.length = sumB l
  | [] => rfl
  | r :: l => by
    rw [List.map_cons, List.flatten_cons, List.length_append, flat_sum l, recE_length]
    simp [sumB]
theorem encE_len (s : Str) : (encE s).length = 33 + sumB s.recs := by
  rw [encE_length, bodyE, List.length_append, headE_length, flat_sum]
  omega
theorem encE_head (s : Str) (j : Nat) (hj : j < 16) : (encE s)[j]? = (headL s)[j]? := by
  unfold encE bodyE headE sealB
  rw [List.append_assoc, List.append_assoc, List.getElem?_append_left (by rw [headL_length]; exact hj)]

/-- A literal of one record, of two, at the walk. -/
theorem wpList_lit1 {w : World} {ops : Array Oper} {rest : List Oper} {o : Oper} {a : Act} {Q : Exit → Act → World → Prop} (x0 : Operand) (ho : o.op = .buildSlice 22 1 #[(0, x0)]) (r : Rec) (hr : r.Ok w w.heap.size) (hgd : Region.wanted o (yielded ops a.tmps) = true) (h0 : a.eval x0 = .agg r.val.toArray)
    (h : ∀ w1, RecsAt w1 w1.heap.size (some ⟨w.heap.size, 0, none⟩) [r] → Below w.heap.size w w1 → wpList Try.prog ops Q rest (a.put o.dst (.slice (some ⟨w.heap.size, 0, none⟩) 1 1)) w1) : wpList Try.prog ops Q (o :: rest) a w := by
  refine wpList_run hgd _ (w.alloc (.cells r.val.toArray 39)) ?_ (h _ (lit_recs w [r] (fun x hx => by rw [List.mem_singleton.1 hx]; exact hr) _ (by simp) _ rfl) (alloc_below w _))
  obtain ⟨dst, op, ty, pos, after, guard⟩ := o
  simp only at ho
  subst ho
  simp only [execOp, List.map_toArray, List.map_cons, List.map_nil, h0, Rec.val]
  kernel_rfl
theorem wpList_lit2 {w : World} {ops : Array Oper} {rest : List Oper} {o : Oper} {a : Act} {Q : Exit → Act → World → Prop} (x0 x1 : Operand) (ho : o.op = .buildSlice 22 2 #[(0, x0), (1, x1)]) (r q : Rec) (hr : r.Ok w w.heap.size) (hq : q.Ok w w.heap.size) (hgd : Region.wanted o (yielded ops a.tmps) = true) (h0 : a.eval x0 = .agg r.val.toArray) (h1 : a.eval x1 = .agg q.val.toArray)
    (h : ∀ w1, RecsAt w1 w1.heap.size (some ⟨w.heap.size, 0, none⟩) [r, q] → Below w.heap.size w w1 → wpList Try.prog ops Q rest (a.put o.dst (.slice (some ⟨w.heap.size, 0, none⟩) 2 2)) w1) : wpList Try.prog ops Q (o :: rest) a w := by
  refine wpList_run hgd _ (w.alloc (.cells (r.val ++ q.val).toArray 39)) ?_ (h _ (lit_recs w [r, q] (fun x hx => by
    rcases List.mem_cons.1 hx with rfl | hx
    · exact hr
    · rw [List.mem_singleton.1 hx]; exact hq) _ (by simp) _ rfl) (alloc_below w _))
  obtain ⟨dst, op, ty, pos, after, guard⟩ := o
  simp only at ho
  subst ho
  simp only [execOp, List.map_toArray, List.map_cons, List.map_nil, h0, h1, Rec.val]
  kernel_rfl
theorem Rec.ok_none (w : World) (B : Nat) (f c : Int) (z : Bool) (h1 : -9223372036854775808 ≤ f) (h2 : f ≤ 9223372036854775807) (h3 : -9223372036854775808 ≤ c) (h4 : c ≤ 9223372036854775807) : (⟨f, c, z, none, 0, []⟩ : Rec).Ok w B :=
  ⟨.inl rfl, Nat.le_refl _, Nat.zero_le _, h1, h2, h3, h4⟩
theorem Rec.Ok.step {w w' : World} {r : Rec} (h : r.Ok w w.heap.size) (hb : Below w.heap.size w w') : r.Ok w' w'.heap.size := (h.below hb).more hb.size
end Go.Proofs.Ytdglkjpdhnnpnaa
