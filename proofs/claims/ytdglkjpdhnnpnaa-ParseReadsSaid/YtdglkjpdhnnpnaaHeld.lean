/-
  A region that draws its order, walked by hand: what yields the same in every world that meets S is taken first; where one operation alone may come up it is carried out.
-/
import Derived.Test.YtdglkjpdhnnpnaaSince
import Derived.OrdersHeld
namespace Go.Proofs.Ytdglkjpdhnnpnaa
open Go Go.RowKit

/-- The walk's state, shut. -/
@[irreducible] def WH (P : Program) (ops : Array Oper) (S : World → Prop) (Q : Exit → Act → World → Prop) (fuel : Nat) (listed : Array Bool) (a : Act) (w : World) : Prop := S w ∧ wpAnyH P .any ops Q S fuel listed a w
section
variable {P : Program} {l : List Oper} {S : World → Prop} {Q : Exit → Act → World → Prop} {fuel : Nat} {listed : Array Bool} {a : Act} {w : World}
theorem WH.of (hS : S w) (h : wpAnyH P .any l.toArray Q S fuel listed a w) : WH P l.toArray S Q fuel listed a w := by unfold WH; exact ⟨hS, h⟩
theorem WH.held (h : WH P l.toArray S Q fuel listed a w) : S w := by unfold WH at h; exact h.1
theorem WH.out (h : WH P l.toArray S Q fuel listed a w) : wpAnyH P .any l.toArray Q S fuel listed a w := by unfold WH at h; exact h.2

theorem wp_region_H {id : Nat} (S : World → Prop) (n : Nat) (hn : l.toArray.size = n) (hm : P.follows .mixedOrders = true) (h : WH P l.toArray S Q n (Array.replicate n false) a w.drew) : (Code.region id l.toArray true).wp P Q a w := by
  subst hn
  exact wp_region_held hm h.out
/-- Taken first: it yields v in every world that meets S. -/
theorem wh_take (i : Nat) {o : Oper} (v : Value) (hi : l[i]? = some o) (hs : Region.noSelect l.toArray = true) (hf : (Region.free .any l.toArray listed i && (Region.ready .any l.toArray listed).contains i) = true)
    (hQ : ∀ c a w, Q (.panic c) (a.put o.dst v) w → Q (.panic c) a w) (hgd : Region.wanted o (yielded l.toArray a.tmps) = true) (hv : ∀ w, S w → (execOp a.eval o).run P w = .ok (.value v) w)
    (h : WH P l.toArray S Q fuel (listed.setIfInBounds i true) (a.put o.dst v) w) : WH P l.toArray S Q (fuel + 1) listed a w := by
  rw [Bool.and_eq_true] at hf
  exact WH.of h.held (wpAnyH_take (by simpa using hi) hs hf.1 hf.2 hQ (.inl ⟨hgd, hv⟩) h.held h.out)
/-- Not wanted. -/
theorem wh_no (i : Nat) {o : Oper} (hi : l[i]? = some o) (hs : Region.noSelect l.toArray = true) (hf : (Region.free .any l.toArray listed i && (Region.ready .any l.toArray listed).contains i) = true)
    (hQ : ∀ c a w, Q (.panic c) (a.put o.dst undef) w → Q (.panic c) a w) (hgd : Region.wanted o (yielded l.toArray a.tmps) = false) 
    (h : WH P l.toArray S Q fuel (listed.setIfInBounds i true) (a.put o.dst undef) w) : WH P l.toArray S Q (fuel + 1) listed a w := by
  rw [Bool.and_eq_true] at hf
  exact WH.of h.held (wpAnyH_take (by simpa using hi) hs hf.1 hf.2 hQ (.inr ⟨hgd, rfl⟩) h.held h.out)
theorem wpOp_of {i : Nat} {o : Oper} {K : Act → World → Prop} (hi : l[i]? = some o) (hgd : Region.wanted o (yielded l.toArray a.tmps) = true) (h : o.wp P a w K Q) : wpOp P l.toArray Q i K a w := by
  have hi' : l.toArray[i]? = some o := by simpa using hi
  unfold wpOp
  simp only [hi']
  rw [if_pos hgd]
  exact .inl h
/-- It alone may come up: it is carried out. -/
theorem wh_run (i : Nat) {o : Oper} {v : Value} {w' : World} (hi : l[i]? = some o) (hr : Region.ready .any l.toArray listed = [i]) (hgd : Region.wanted o (yielded l.toArray a.tmps) = true) (hS : S w)
    (hrun : (execOp a.eval o).run P w = .ok (.value v) w') (h : WH P l.toArray S Q fuel (listed.setIfInBounds i true) (a.put o.dst v) w') : WH P l.toArray S Q (fuel + 1) listed a w := by
  refine WH.of hS (wpAnyH_all hr (by simp) fun j hj => ?_)
  obtain rfl : j = i := by simpa using hj
  refine wpOp_of hi hgd ?_
  unfold Oper.wp
  rw [hrun]
  exact ⟨h.held, h.out⟩
theorem wh_skip (i : Nat) {o : Oper} {w' : World} (hi : l[i]? = some o) (hr : Region.ready .any l.toArray listed = [i]) (hgd : Region.wanted o (yielded l.toArray a.tmps) = true) (hS : S w)
    (hrun : (execOp a.eval o).run P w = .ok .skip w') (h : WH P l.toArray S Q fuel (listed.setIfInBounds i true) (a.put o.dst undef) w') : WH P l.toArray S Q (fuel + 1) listed a w := by
  refine WH.of hS (wpAnyH_all hr (by simp) fun j hj => ?_)
  obtain rfl : j = i := by simpa using hj
  refine wpOp_of hi hgd ?_
  unfold Oper.wp
  rw [hrun]
  exact ⟨h.held, h.out⟩
/-- It alone may come up: a call. -/
theorem wh_call (i : Nat) {o : Oper} (f : FuncId) (args : Array Value) (hi : l[i]? = some o) (hr : Region.ready .any l.toArray listed = [i]) (hgd : Region.wanted o (yielded l.toArray a.tmps) = true) (hS : S w)
    (hrun : ∀ w, (execOp a.eval o).run P w = .ok (.enter f args) w)
    (h : Calls P f args w fun e w' => ∃ v, e = .returned v ∧ WH P l.toArray S Q fuel (listed.setIfInBounds i true) (a.put o.dst v) w') : WH P l.toArray S Q (fuel + 1) listed a w := by
  refine WH.of hS (wpAnyH_all hr (by simp) fun j hj => ?_)
  obtain rfl : j = i := by simpa using hj
  refine wpOp_of hi hgd ?_
  unfold Oper.wp
  rw [hrun w]
  exact h.mono fun e w' ⟨v, he, hw⟩ => by
    subst he
    exact ⟨hw.held, hw.out⟩
/-- What is behind one operation of those that may come up. -/
@[irreducible] def WO (P : Program) (ops : Array Oper) (S : World → Prop) (Q : Exit → Act → World → Prop) (fuel : Nat) (listed : Array Bool) (a : Act) (w : World) (i : Nat) : Prop :=
  wpOp P ops Q i (fun a' w' => S w' ∧ wpAnyH P .any ops Q S fuel (listed.setIfInBounds i true) a' w') a w
/-- Two may come up. -/
theorem wh_two (i j : Nat) (hr : Region.ready .any l.toArray listed = [i, j]) (hS : S w) (h1 : WO P l.toArray S Q fuel listed a w i) (h2 : WO P l.toArray S Q fuel listed a w j) : WH P l.toArray S Q (fuel + 1) listed a w := by
  unfold WO at h1 h2
  refine WH.of hS (wpAnyH_all hr (by simp) fun k hk => ?_)
  rcases List.mem_cons.1 hk with rfl | hk
  · exact h1
  · obtain rfl : k = j := by simpa using hk
    exact h2
theorem wh_three (i j m : Nat) (hr : Region.ready .any l.toArray listed = [i, j, m]) (hS : S w) (h1 : WO P l.toArray S Q fuel listed a w i) (h2 : WO P l.toArray S Q fuel listed a w j) (h3 : WO P l.toArray S Q fuel listed a w m) : WH P l.toArray S Q (fuel + 1) listed a w := by
  unfold WO at h1 h2 h3
  refine WH.of hS (wpAnyH_all hr (by simp) fun k hk => ?_)
  rcases List.mem_cons.1 hk with rfl | hk
  · exact h1
  · rcases List.mem_cons.1 hk with rfl | hk
    · exact h2
    · obtain rfl : k = m := by simpa using hk
      exact h3
theorem wo_run (i : Nat) {o : Oper} {v : Value} {w' : World} (hi : l[i]? = some o) (hgd : Region.wanted o (yielded l.toArray a.tmps) = true)
    (hrun : (execOp a.eval o).run P w = .ok (.value v) w') (h : WH P l.toArray S Q fuel (listed.setIfInBounds i true) (a.put o.dst v) w') : WO P l.toArray S Q fuel listed a w i := by
  unfold WO
  refine wpOp_of hi hgd ?_
  unfold Oper.wp
  rw [hrun]
  exact ⟨h.held, h.out⟩
theorem wo_call (i : Nat) {o : Oper} (f : FuncId) (args : Array Value) (hi : l[i]? = some o) (hgd : Region.wanted o (yielded l.toArray a.tmps) = true)
    (hrun : ∀ w, (execOp a.eval o).run P w = .ok (.enter f args) w)
    (h : Calls P f args w fun e w' => ∃ v, e = .returned v ∧ WH P l.toArray S Q fuel (listed.setIfInBounds i true) (a.put o.dst v) w') : WO P l.toArray S Q fuel listed a w i := by
  unfold WO
  refine wpOp_of hi hgd ?_
  unfold Oper.wp
  rw [hrun w]
  exact h.mono fun e w' ⟨v, he, hw⟩ => by
    subst he
    exact ⟨hw.held, hw.out⟩
theorem wh_done (hr : Region.ready .any l.toArray listed = []) (hS : S w) (h : Q .normal a w) : WH P l.toArray S Q fuel listed a w := WH.of hS (wpAnyH_done hr h fuel)
end
end Go.Proofs.Ytdglkjpdhnnpnaa
