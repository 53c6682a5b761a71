/-
  A region that draws its order, whose operations only read what lay before it, or make memory of their own: walked once, in the order of the text. The class of worlds: what lay at w0 lies as it lay.
-/
import Derived.Test.YtdglkjpdhnnpnaaMore
import Derived.Deep.QuietTactic
namespace Go.Proofs.Ytdglkjpdhnnpnaa
open Go Go.RowKit

/-- The walk of the text, shut: Lean must not run it while it looks at the goal. -/
@[irreducible] def WQ (P : Program) (ops : Array Oper) (C : World → Prop) (Q : Act → Prop) (l : List Oper) (a : Act) : Prop := wpQuiet P ops C Q l a
theorem WQ.of {P : Program} {ops : Array Oper} {C : World → Prop} {Q : Act → Prop} {l : List Oper} {a : Act} (h : wpQuiet P ops C Q l a) : WQ P ops C Q l a := by unfold WQ; exact h
theorem WQ.out {P : Program} {ops : Array Oper} {C : World → Prop} {Q : Act → Prop} {l : List Oper} {a : Act} (h : WQ P ops C Q l a) : wpQuiet P ops C Q l a := by unfold WQ at h; exact h

section
variable {P : Program} {ops : Array Oper} {rest : List Oper} {o : Oper} {a : Act} {C : World → Prop} {Q : Act → Prop}
theorem wp_region_class {id : Nat} {Q : Exit → Act → World → Prop} {w : World} {l : List Oper} (C : World → Prop) (hC : C w.drew) (hm : P.follows .mixedOrders = true) (hB : Region.lexB .any l.toArray = true)
    (h : WQ P l.toArray C (fun a' => ∀ w', C w' → Q .normal a' w') l a) : (Code.region id l.toArray true).wp P Q a w :=
  wp_region_quiet (C := C) hm hB hC (by simpa using h.out)
theorem wq_v {v : Value} (hgd : Region.wanted o (yielded ops a.tmps) = true) (hr : ∀ w, C w → (execOp a.eval o).run P w = .ok (.value v) w) (h : WQ P ops C Q rest (a.put o.dst v)) : WQ P ops C Q (o :: rest) a := by
  refine WQ.of (wpQuiet_step fun K hK => ?_)
  rw [if_pos hgd]
  refine ⟨v, fun w hw => ?_, hK _ h.out⟩
  unfold Oper.quietAt
  rw [hr w hw]
  exact ⟨rfl, rfl⟩
theorem wq_no (hgd : Region.wanted o (yielded ops a.tmps) = false) (h : WQ P ops C Q rest (a.put o.dst undef)) : WQ P ops C Q (o :: rest) a := by
  refine WQ.of (wpQuiet_step fun K hK => ?_)
  rw [if_neg (by rw [hgd]; decide)]
  exact hK _ h.out
theorem wq_call {v : Value} {f : FuncId} {args : Array Value} (hgd : Region.wanted o (yielded ops a.tmps) = true) (hr : ∀ w, (execOp a.eval o).run P w = .ok (.enter f args) w)
    (hc : ∀ w, C w → Calls P f args w fun e w' => e = .returned v ∧ C w') (h : WQ P ops C Q rest (a.put o.dst v)) : WQ P ops C Q (o :: rest) a := by
  refine WQ.of (wpQuiet_step fun K hK => ?_)
  rw [if_pos hgd]
  refine ⟨v, fun w hw => ?_, hK _ h.out⟩
  unfold Oper.quietAt
  rw [hr w]
  exact ⟨rfl, hc w hw⟩
theorem wq_nil (h : Q a) : WQ P ops C Q [] a := WQ.of (wpQuiet_nil h)
end

end Go.Proofs.Ytdglkjpdhnnpnaa
