/-
  A region that draws its order within a fence (the wide one), walked by hand: as XHeld, and an operation may be a call of the loop's yield.
-/
import Derived.Test.YtdglkjpdhnnpnaaHeld
import Derived.OrdersIn
import Derived.OwnWalkIn
import Derived.RangeFuncCalls
namespace Go.Proofs.Ytdglkjpdhnnpnaa
open Go Go.RowKit

section
variable {n : Nat} {P : Program} {ops : Array Oper} {Q : Exit → Act → World → Prop} {S : World → Prop}

/-- Whatever comes up, S holding behind each operation. -/
def anyHI (n : Nat) (P : Program) (ops : Array Oper) (Q : Exit → Act → World → Prop) (S : World → Prop) : Nat → Array Bool → Act → World → Prop
  | 0, listed, a, w => Region.ready .any ops listed = [] ∧ Q .normal a w
  | f + 1, listed, a, w => (Region.ready .any ops listed = [] → Q .normal a w) ∧ ∀ i ∈ Region.ready .any ops listed, wpOpIn Fence.wide n P ops Q i (fun a' w' => S w' ∧ anyHI n P ops Q S f (listed.setIfInBounds i true) a' w') a w
theorem anyHI_any : ∀ (f : Nat) (listed : Array Bool) (a : Act) (w : World), anyHI n P ops Q S f listed a w → wpAnyIn Fence.wide n P .any ops Q f listed a w
  | 0, _, _, _, h => h
  | f + 1, _, _, _, h => ⟨h.1, fun i hi => wpOpIn_mono (fun a' w' h' => anyHI_any f _ a' w' h'.2) (h.2 i hi)⟩

/-- a' is a but for what an operation with this destination puts. -/
def Puts (d : Option Tmp) (a a' : Act) : Prop := ∃ u df, a' = ({ a with defers := df } : Act).put d u
theorem YieldsIf.puts {oi oj : Oper} {v : Value} {a a' : Act} (hsi : ∀ cs b, oi.op ≠ .select cs b) (h3 : ∀ d, oj.dst = some d → d ∉ oi.looksAt ops) (hp : Puts oj.dst a a') (hy : YieldsIf P ops S oi v a) : YieldsIf P ops S oi v a' := by
  obtain ⟨u, df, rfl⟩ := hp
  have h1 : YieldsIf P ops S oi v ({ a with defers := df } : Act) := hy.of_same rfl rfl
  exact h1.of_same (execOp_put oi hsi _ oj.dst u h3) (wanted_put oi _ oj.dst u h3)
/-- An operation apart may as well come up ahead of what is put. -/
theorem wpOpIn_swap {j : Nat} {oi oj : Oper} {v : Value} (hj : ops[j]? = some oj) (hap : oi.apart ops oj = true) (hsj : ∀ cs b, oj.op ≠ .select cs b)
    (hQ : ∀ c a w, Q (.panic c) (a.put oi.dst v) w → Q (.panic c) a w) {K : Act → World → Prop} {a : Act} {w : World}
    (h : wpOpIn Fence.wide n P ops Q j K (a.put oi.dst v) w) : wpOpIn Fence.wide n P ops Q j (fun a' w' => K (a'.put oi.dst v) w' ∧ Puts oj.dst a a') a w := by
  obtain ⟨h1, h2, _⟩ := Oper.apart_spec hap
  have one : ∀ u w', K ((a.put oi.dst v).put oj.dst u) w' → K ((a.put oj.dst u).put oi.dst v) w' ∧ Puts oj.dst a (a.put oj.dst u) := fun u w' hk =>
    ⟨by rw [← Act.put_comm a v u h2]; exact hk, ⟨u, a.defers, rfl⟩⟩
  unfold wpOpIn at *
  simp only [hj] at *
  rw [wanted_put oj a oi.dst v h1] at h
  by_cases hw : Region.wanted oj (yielded ops a.tmps) = true
  · rw [if_pos hw] at h ⊢
    refine ⟨fun _ _ => trivial, ?_⟩
    have h := h.2
    rw [show Fence.wide.round = none from rfl, Oper.semAt_none] at h ⊢
    rw [execOp_put oj hsj a oi.dst v h1] at h
    generalize (execOp a.eval oj).run P w = r at h ⊢
    cases r with
    | halt x w' => cases x <;> first | exact hQ _ _ _ h | exact h
    | ok x w' =>
      cases x with
      | value u => exact one u _ h
      | skip => exact one undef _ h
      | defer d =>
        refine ⟨?_, ⟨undef, d :: a.defers, rfl⟩⟩
        rw [← Act.put_comm _ v undef h2, ← Act.put_defers]
        exact h
      | enter f args =>
        refine ⟨h.1, h.2.mono fun e w2 he => ?_⟩
        cases e with
        | returned u => exact one u _ he
        | panicked c => exact hQ _ _ _ he
        | outgrown => exact he
      | row row args => exact ⟨h.1, h.2.mono fun u w2 he => one u _ he⟩
      | round l f tmps assign body =>
        refine ⟨h.1, h.2.mono fun e w2 he => ?_⟩
        cases e with
        | returned u => exact one u _ he
        | panicked c => exact hQ _ _ _ he
        | outgrown => exact he
      | _ => exact h
  · rw [if_neg hw] at h ⊢
    exact ⟨fun _ _ => trivial, one undef _ h.2⟩
/-- What yields v in every world that meets S. -/
theorem YieldsIf.wpOpIn {i : Nat} {o : Oper} {v : Value} {a : Act} (hi : ops[i]? = some o) (hy : YieldsIf P ops S o v a) {K : Act → World → Prop} {w : World} (hS : S w) (h : K (a.put o.dst v) w) : Go.wpOpIn Fence.wide n P ops Q i K a w := by
  unfold Go.wpOpIn
  simp only [hi]
  rcases hy with ⟨hw, hv⟩ | ⟨hw, rfl⟩
  · rw [if_pos hw]
    refine ⟨fun _ _ => trivial, ?_⟩
    rw [show Fence.wide.round = none from rfl, Oper.semAt_none, hv w hS]
    exact h
  · rw [if_neg (by rw [hw]; decide)]
    exact ⟨fun _ _ => trivial, h⟩
theorem anyHI_first {i : Nat} {oi : Oper} {v : Value} (hi : ops[i]? = some oi) (hsel : ∀ (j : Nat) (o : Oper) cs b, ops[j]? = some o → o.op ≠ .select cs b)
    (hQ : ∀ c a w, Q (.panic c) (a.put oi.dst v) w → Q (.panic c) a w) (f : Nat) : ∀ (listed : Array Bool) (a : Act) (w : World),
      (∀ j oj, ops[j]? = some oj → j ≠ i → listed.getD j true = false → (∀ e ∈ oj.after, Region.binds .any e = true → e.on ≠ i) → oi.apart ops oj = true) →
      i ∈ Region.ready .any ops listed → YieldsIf P ops S oi v a → S w →
      anyHI n P ops Q S f (listed.setIfInBounds i true) (a.put oi.dst v) w → anyHI n P ops Q S (f + 1) listed a w := by
  induction f with
  | zero =>
    intro listed a w _ hr hy hS H
    refine ⟨fun h => (by rw [h] at hr; cases hr), fun j hj => ?_⟩
    by_cases e : j = i
    · subst e
      exact YieldsIf.wpOpIn hi hy hS ⟨hS, H⟩
    · have h2 := ready_mono hj e
      rw [H.1] at h2
      cases h2
  | succ f ih =>
    intro listed a w hfree hr hy hS H
    refine ⟨fun h => (by rw [h] at hr; cases hr), fun j hj => ?_⟩
    by_cases e : j = i
    · subst e
      exact YieldsIf.wpOpIn hi hy hS ⟨hS, H⟩
    · obtain ⟨hun, oj, hoj, haft⟩ := mem_ready.1 hj
      have hwait : ∀ e ∈ oj.after, Region.binds .any e = true → e.on ≠ i := by
        intro ed he hb heq
        have hf := haft ed he hb
        have ht := (mem_ready.1 hr).1
        rw [heq] at hf
        by_cases hsz : i < listed.size
        · rw [Array.getD, dif_pos hsz] at hf ht
          rw [hf] at ht
          cases ht
        · rw [Array.getD, dif_neg hsz] at hf
          cases hf
      have hap := hfree j oj hoj e hun hwait
      obtain ⟨_, _, h3⟩ := Oper.apart_spec hap
      refine wpOpIn_mono (fun a' w' h' => ?_) (wpOpIn_swap hoj hap (fun cs b => hsel j oj cs b hoj) hQ (H.2 j (ready_mono hj e)))
      obtain ⟨⟨hS', H'⟩, hp⟩ := h'
      refine ⟨hS', ih _ a' w' (fun k ok hk hki hku hkw => hfree k ok hk hki ?_ hkw) (ready_mono hr (Ne.symm e)) (YieldsIf.puts (fun cs b => hsel i oi cs b hi) h3 hp hy) hS' ?_⟩
      · by_cases hjk : j = k
        · subst hjk
          exact hun
        · rw [getD_set_ne true hjk] at hku
          exact hku
      · rw [Array.setIfInBounds_comm _ _ e]
        exact H'
end

/-- The walk's state, shut. -/
@[irreducible] def WHI (n : Nat) (P : Program) (ops : Array Oper) (S : World → Prop) (Q : Exit → Act → World → Prop) (fuel : Nat) (listed : Array Bool) (a : Act) (w : World) : Prop := S w ∧ anyHI n P ops Q S fuel listed a w
/-- What is behind one operation of those that may come up. -/
@[irreducible] def WOI (n : Nat) (P : Program) (ops : Array Oper) (S : World → Prop) (Q : Exit → Act → World → Prop) (fuel : Nat) (listed : Array Bool) (a : Act) (w : World) (i : Nat) : Prop :=
  wpOpIn Fence.wide n P ops Q i (fun a' w' => S w' ∧ anyHI n P ops Q S fuel (listed.setIfInBounds i true) a' w') a w
section
variable {n : Nat} {P : Program} {l : List Oper} {S : World → Prop} {Q : Exit → Act → World → Prop} {fuel : Nat} {listed : Array Bool} {a : Act} {w : World}
theorem WHI.of (hS : S w) (h : anyHI n P l.toArray Q S fuel listed a w) : WHI n P l.toArray S Q fuel listed a w := by unfold WHI; exact ⟨hS, h⟩
theorem WHI.held (h : WHI n P l.toArray S Q fuel listed a w) : S w := by unfold WHI at h; exact h.1
theorem WHI.out (h : WHI n P l.toArray S Q fuel listed a w) : anyHI n P l.toArray Q S fuel listed a w := by unfold WHI at h; exact h.2
theorem wpIn_region_H {id : Nat} (S : World → Prop) (m : Nat) (hm : l.toArray.size = m) (hf : P.follows .mixedOrders = true) (h : WHI n P l.toArray S Q m (Array.replicate m false) a w.drew) : (Code.region id l.toArray true).wpIn Fence.wide n P Q a w := by
  subst hm
  exact wpIn_region_any hf (anyHI_any _ _ _ _ h.out)
theorem whi_take (i : Nat) {o : Oper} (v : Value) (hi : l[i]? = some o) (hs : Region.noSelect l.toArray = true) (hf : (Region.free .any l.toArray listed i && (Region.ready .any l.toArray listed).contains i) = true)
    (hQ : ∀ c a w, Q (.panic c) (a.put o.dst v) w → Q (.panic c) a w) (hgd : Region.wanted o (yielded l.toArray a.tmps) = true) (hv : ∀ w, S w → (execOp a.eval o).run P w = .ok (.value v) w)
    (h : WHI n P l.toArray S Q fuel (listed.setIfInBounds i true) (a.put o.dst v) w) : WHI n P l.toArray S Q (fuel + 1) listed a w := by
  rw [Bool.and_eq_true] at hf
  have hi' : l.toArray[i]? = some o := by simpa using hi
  exact WHI.of h.held (anyHI_first hi' (Region.noSelect_spec hs) hQ fuel listed a w (Region.free_spec hi' hf.1) (by simpa using hf.2) (.inl ⟨hgd, hv⟩) h.held h.out)
theorem whi_no (i : Nat) {o : Oper} (hi : l[i]? = some o) (hs : Region.noSelect l.toArray = true) (hf : (Region.free .any l.toArray listed i && (Region.ready .any l.toArray listed).contains i) = true)
    (hQ : ∀ c a w, Q (.panic c) (a.put o.dst undef) w → Q (.panic c) a w) (hgd : Region.wanted o (yielded l.toArray a.tmps) = false)
    (h : WHI n P l.toArray S Q fuel (listed.setIfInBounds i true) (a.put o.dst undef) w) : WHI n P l.toArray S Q (fuel + 1) listed a w := by
  rw [Bool.and_eq_true] at hf
  have hi' : l.toArray[i]? = some o := by simpa using hi
  exact WHI.of h.held (anyHI_first hi' (Region.noSelect_spec hs) hQ fuel listed a w (Region.free_spec hi' hf.1) (by simpa using hf.2) (.inr ⟨hgd, rfl⟩) h.held h.out)
theorem wpOpIn_of {i : Nat} {o : Oper} {K : Act → World → Prop} (hi : l[i]? = some o) (hgd : Region.wanted o (yielded l.toArray a.tmps) = true) (h : o.uponIn Fence.wide n P a K Q ((execOp a.eval o).run P w)) : wpOpIn Fence.wide n P l.toArray Q i K a w := by
  have hi' : l.toArray[i]? = some o := by simpa using hi
  unfold wpOpIn
  simp only [hi']
  rw [if_pos hgd]
  exact ⟨fun _ _ => trivial, by rw [show Fence.wide.round = none from rfl, Oper.semAt_none]; exact h⟩
theorem woi_run (i : Nat) {o : Oper} {v : Value} {w' : World} (hi : l[i]? = some o) (hgd : Region.wanted o (yielded l.toArray a.tmps) = true)
    (hrun : (execOp a.eval o).run P w = .ok (.value v) w') (h : WHI n P l.toArray S Q fuel (listed.setIfInBounds i true) (a.put o.dst v) w') : WOI n P l.toArray S Q fuel listed a w i := by
  unfold WOI
  refine wpOpIn_of hi hgd ?_
  rw [hrun]
  exact ⟨h.held, h.out⟩
theorem woi_skip (i : Nat) {o : Oper} {w' : World} (hi : l[i]? = some o) (hgd : Region.wanted o (yielded l.toArray a.tmps) = true)
    (hrun : (execOp a.eval o).run P w = .ok .skip w') (h : WHI n P l.toArray S Q fuel (listed.setIfInBounds i true) (a.put o.dst undef) w') : WOI n P l.toArray S Q fuel listed a w i := by
  unfold WOI
  refine wpOpIn_of hi hgd ?_
  rw [hrun]
  exact ⟨h.held, h.out⟩
theorem woi_call (i : Nat) {o : Oper} (f : FuncId) (args : Array Value) (hi : l[i]? = some o) (hgd : Region.wanted o (yielded l.toArray a.tmps) = true)
    (hrun : ∀ w, (execOp a.eval o).run P w = .ok (.enter f args) w)
    (h : Calls P f args w fun e w' => ∃ v, e = .returned v ∧ WHI n P l.toArray S Q fuel (listed.setIfInBounds i true) (a.put o.dst v) w') : WOI n P l.toArray S Q fuel listed a w i := by
  unfold WOI
  refine wpOpIn_of hi hgd ?_
  rw [hrun w]
  refine ⟨fun h => (by cases h), (callsIn_wide.2 h).mono fun e w' ⟨v, he, hw⟩ => ?_⟩
  subst he
  exact ⟨hw.held, hw.out⟩
theorem woi_yield (i : Nat) {o : Oper} (ly : Nat) (args : Array Value) (hi : l[i]? = some o) (hgd : Region.wanted o (yielded l.toArray a.tmps) = true)
    {R : Ending → World → Prop} (hy : YieldAt Fence.wide (n - 1) P ly args w R) (hrun : ∀ x, (Instr.yield ly args).run P w = .ok x w → (execOp a.eval o).run P w = .ok x w)
    (h : ∀ e w', R e w' → ∃ v, e = .returned v ∧ WHI n P l.toArray S Q fuel (listed.setIfInBounds i true) (a.put o.dst v) w') : WOI n P l.toArray S Q fuel listed a w i := by
  unfold WOI
  refine wpOpIn_of hi hgd ?_
  obtain ⟨fn, tmps, assign, body, he, hR⟩ := hy
  rw [hrun _ he]
  refine ⟨fun h => (by cases h), hR.mono fun e w' hr => ?_⟩
  obtain ⟨v, rfl, hw⟩ := h e w' hr
  exact ⟨hw.held, hw.out⟩
/-- It alone may come up. -/
theorem whi_one (i : Nat) (hr : Region.ready .any l.toArray listed = [i]) (hS : S w) (h : WOI n P l.toArray S Q fuel listed a w i) : WHI n P l.toArray S Q (fuel + 1) listed a w := by
  unfold WOI at h
  refine WHI.of hS ⟨fun h0 => (by rw [hr] at h0; cases h0), fun j hj => ?_⟩
  rw [hr] at hj
  obtain rfl : j = i := by simpa using hj
  exact h
theorem whi_two (i j : Nat) (hr : Region.ready .any l.toArray listed = [i, j]) (hS : S w) (h1 : WOI n P l.toArray S Q fuel listed a w i) (h2 : WOI n P l.toArray S Q fuel listed a w j) : WHI n P l.toArray S Q (fuel + 1) listed a w := by
  unfold WOI at h1 h2
  refine WHI.of hS ⟨fun h0 => (by rw [hr] at h0; cases h0), fun k hk => ?_⟩
  rw [hr] at hk
  rcases List.mem_cons.1 hk with rfl | hk
  · exact h1
  · obtain rfl : k = j := by simpa using hk
    exact h2
theorem whi_done (hr : Region.ready .any l.toArray listed = []) (hS : S w) (h : Q .normal a w) : WHI n P l.toArray S Q fuel listed a w := by
  refine WHI.of hS ?_
  cases fuel with
  | zero => exact ⟨hr, h⟩
  | succ f => exact ⟨fun _ => h, fun i hi => by rw [hr] at hi; cases hi⟩
end
end Go.Proofs.Ytdglkjpdhnnpnaa
