/-
  A range over a function whose iterator may take steps of its own in memory between two rounds (a captured variable that it turns): the iterator's promise 'SeqR' and the caller's law 'rangeR'. No program in sight.
  Rel: what the iterator's own steps do to the world; Kp: what a round that goes on keeps.
-/
import Derived.RangeFuncNested
import Derived.RangeFuncBound
import Derived.RangeFuncLeaves
namespace Go.Proofs.Ytdglkjpdhnnpnaa
open Go Go.RowKit

variable {F : Fence} {n : Nat} {P : Program}

/-- The wide fence lets every function in. -/
theorem wide_fn (f : FuncId) : Fence.wide.fn f = True := rfl
theorem wide_isSome : (Fence.wide.depth.isSome = true) = False := by simp [Fence.wide]

/-- WHAT AN ITERATOR PROMISES, whatever loop body it is given: all of it has come, or a part of it and a round has said 'no more'. -/
def SeqR {α : Type} (F : Fence) (n : Nat) (P : Program) (g : Nat) (lb : Array Value) (encs : α → Array Value) (Kp Rel : World → World → Prop) (S Sp : List α → Prop) (N : Nat) (w : World) : Prop :=
  ∀ (l : Nat) (J Jx : List α → World → Prop) (W : World), Below w.heap.size w W →
    (∀ s A B, J s A → Rel A B → J s B) → (∀ s A B, Jx s A → Rel A B → Jx s B) →
    (∀ pre x W1, J pre W1 → pre.length < N → YieldAt F (n - 1) P l (encs x) W1 fun e W' =>
      (e = .returned (.bool true) ∧ J (pre ++ [x]) W' ∧ Kp W1 W') ∨ (e = .returned (.bool false) ∧ Jx (pre ++ [x]) W')) →
    J [] W →
    CallsIn F n P g (#[.func (.yield l) #[] #[]] ++ lb) W fun e W' => (∃ v, e = .returned v) ∧ ((∃ xs, S xs ∧ J xs W') ∨ (∃ pre, Sp pre ∧ Jx pre W'))

/-- The loop's record, in the state st with the jump pe pending. -/
def recOf (fn : FuncId) (tmps : Array Value) (ps : Array Tmp) (assign body : Code) (D : Nat) (st : LoopState) (pe : Option Code) : Loop :=
  { state := st, pending := pe, fn, tmps, params := ps, assign, body, defers := D }

/-- What a step that keeps the book-keeping does to the record and to the block for deferred calls. -/
theorem keeps_two {B l D : Nat} {A C : World} {r : Loop} {ds : Option (List Deferred)} (h : KeepsFrom B A C) (hl : B ≤ l) (hD : B ≤ D)
    (h1 : A.heap[l]? = some (.loop r)) (h2 : A.heap[D]? = some (.deferred ds)) : C.heap[l]? = some (.loop r) ∧ C.heap[D]? = some (.deferred ds) :=
  ⟨h.same _ _ hl h1 rfl, h.same _ _ hD h2 rfl⟩

/-- The record turned: the block for deferred calls lies as it lay. -/
theorem put_two {l D : Nat} {A : World} {r r' : Loop} {ds : Option (List Deferred)} (hne : D ≠ l) (h1 : A.heap[l]? = some (.loop r)) (h2 : A.heap[D]? = some (.deferred ds)) :
    (A.putObj l (.loop r')).heap[l]? = some (.loop r') ∧ (A.putObj l (.loop r')).heap[D]? = some (.deferred ds) :=
  ⟨World.putObj_heap_same (Array.getElem?_eq_some_iff.1 h1).1, (World.putObj_heap_other hne).trans h2⟩

/-- THE CALLER's LAW: 'for .. := range g { body }', outermost, no panic, no defer in the body. -/
theorem rangeR {α : Type} {g : Operand} {ps : Array Tmp} {assign body : Code} {Q : Exit → Act → World → Prop} {a : Act} {w : World}
    (hro : F.round = none) (h1 : 1 ≤ n) {gf : Nat} {lb : Array Value} (hg : a.eval g = .func (.func gf) #[] lb) (hFg : F.fn gf) (eg : ∀ args w, (callFunc gf args).run P w = .ok (.enter gf args) w)
    {encs : α → Array Value} {Kp Rel : World → World → Prop} {S Sp : List α → Prop} {N : Nat} {w0 : World} (hseq : SeqR F (n - 1) P gf lb encs Kp Rel S Sp N w0)
    (hKt : ∀ {A B C : World}, Kp A B → Kp B C → Kp A C) (hKb : ∀ (W : World) (l : Nat) (o o' : Obj), w.heap.size ≤ l → W.heap[l]? = some o → o.isCells = false → o.isWalk = false → Kp W (W.putObj l o'))
    (hRel : ∀ A B, Rel A B → KeepsFrom w.heap.size A B)
    (hb0 : Below w0.heap.size w0 w) (hps : ∀ x, (encs x).size = ps.size)
    (I : List α → World → Prop) (Ix : Code → List α → World → Prop) (hI : OwnFrom w.heap.size I) (hIx : ∀ c, OwnFrom w.heap.size (Ix c)) (hIR : ∀ s A B, I s A → Rel A B → I s B) (hIxR : ∀ c s A B, Ix c s A → Rel A B → Ix c s B) (h0 : I [] w)
    (Ax : α → Act → World → Prop) (hAx : ∀ x a', OwnFrom w.heap.size (fun (_ : Unit) W => Ax x a' W))
    (hassign : ∀ (l : Nat) (pre : List α) (x : α) (W : World) (K : Act → World → Prop), I pre W → (∀ a' W', KeepsFrom w.heap.size W W' → Kp W W' → I pre W' → Ax x a' W' → K a' W') →
      assign.wpIn (F.inRound l) (n - 1 - 1) P (Exit.then K (fun _ _ _ => False)) { tmps := (ps.zip (encs x)).foldl (fun t (p, v) => t.setIfInBounds p v) a.tmps, defers := [] } W)
    (hbody : ∀ (l : Nat) (pre : List α) (x : α) (a' : Act) (W : World), w.heap.size ≤ l → (∃ r, W.heap[l]? = some (.loop r)) → I pre W → Ax x a' W → pre.length < N →
      body.wpIn (F.inRound l) (n - 1 - 1) P (ownPostG w.heap.size Kp I Ix (pre ++ [x]) W) a' W)
    (hdone : ∀ (D : Nat) (xs : List α) (W : World), w.heap.size ≤ D → S xs → I xs W → W.heap[D]? = some (.deferred (some [])) → Q .normal { a with defers := { target := .collected D, args := #[] } :: a.defers } W)
    (hstop : ∀ (D : Nat) (c : Code) (pre : List α) (W : World), w.heap.size ≤ D → Sp pre → Ix c pre W → W.heap[D]? = some (.deferred (some [])) → c.wpIn F n P Q { a with defers := { target := .collected D, args := #[] } :: a.defers } W) :
    (Code.rangeFunc g ps assign body).wpIn F n P Q a w := by
  refine wpIn_rangeFunc fun fn hfn => ?_
  rw [hro]
  -- D: the block for deferred calls; l: the record
  obtain ⟨D, hD⟩ : ∃ D, D = w.heap.size := ⟨_, rfl⟩
  obtain ⟨l, hl⟩ : ∃ l, l = w.heap.size + 1 := ⟨_, rfl⟩
  obtain ⟨rec, hrec⟩ : ∃ rec, rec = recOf fn a.tmps ps assign body D := ⟨_, rfl⟩
  have hst : ∀ st pe, (rec st pe).state = st := fun st pe => by rw [hrec]; rfl
  have hpe : ∀ st pe, (rec st pe).pending = pe := fun st pe => by rw [hrec]; rfl
  have hpa : ∀ st pe, (rec st pe).params = ps := fun st pe => by rw [hrec]; rfl
  have hwith : ∀ st pe st' pe', { rec st pe with state := st', pending := pe' } = rec st' pe' := fun st pe st' pe' => by rw [hrec]; rfl
  have hwith1 : ∀ st pe st', { rec st pe with state := st' } = rec st' pe := fun st pe st' => by rw [hrec]; rfl
  obtain ⟨W1, hW1⟩ : ∃ W1, W1 = (w.alloc (.deferred (some []))).alloc (.loop (rec .ready none)) := ⟨_, rfl⟩
  have hL1 : W1.heap[l]? = some (.loop (rec .ready none)) := by
    have h := World.alloc_heap_new (w.alloc (.deferred (some []))) (.loop (rec .ready none))
    rw [World.size_alloc] at h
    rw [hW1, hl]; exact h
  have hK1 : W1.heap[D]? = some (.deferred (some [])) := by
    rw [hW1, hD]; exact (Below.heap_alloc _ _ _ (by simp)).trans (World.alloc_heap_new w _)
  have hI1 : I [] W1 := by rw [hW1]; exact hI.alloc _ (hI.alloc _ h0)
  have hb1 : Below w0.heap.size w0 W1 := by
    rw [hW1]; exact hb0.trans ((((Below.refl _ w).alloc (Nat.le_refl _) _).alloc (by simp) _).mono hb0.size)
  have hDB : w.heap.size ≤ D := by omega
  have hlB : w.heap.size ≤ l := by omega
  have hne : D ≠ l := by omega
  refine ⟨l, [{ target := .collected D, args := #[] }], W1, { target := .fn (.func gf) lb, args := #[.func (.yield l) #[] #[]] }, W1, gf,
    #[.func (.yield l) #[] #[]] ++ lb, W1, ?_, ?_, ?_, ?_, fun _ => h1, ?_⟩
  · rw [hW1, hrec, hD, hl]; exact run_enterLoop_outer _ _ _ _ _
  · simp only [resolve, hg]
    simp [go_sem]
  · intro f' hf'; simp [Target.leads] at hf'; subst hf'; exact hFg
  · simp [invoke, go_sem, eg]
  -- the iterator, at the caller's invariant with the two facts of book-keeping beside it
  refine (hseq l
    (fun pre W => I pre W ∧ W.heap[l]? = some (.loop (rec .ready none)) ∧ W.heap[D]? = some (.deferred (some [])))
    (fun pre W => ∃ c, Ix c pre W ∧ W.heap[l]? = some (.loop (rec .done (some c))) ∧ W.heap[D]? = some (.deferred (some [])))
    W1 hb1
    (fun s A B hs hr => ⟨hIR s A B hs.1 hr, keeps_two (hRel A B hr) hlB hDB hs.2.1 hs.2.2⟩)
    (fun s A B hs hr => by
      obtain ⟨c, hc, h2⟩ := hs
      exact ⟨c, hIxR c s A B hc hr, keeps_two (hRel A B hr) hlB hDB h2.1 h2.2⟩)
    ?_ ⟨hI1, hL1, hK1⟩).mono ?_
  · -- one round
    rintro pre x W ⟨hi, hlW, hkW⟩ hlen
    have hy := run_yield (P := P) (args := encs x) hlW (by rw [hpa]; exact hps x)
    rw [hrec] at hy
    refine ⟨fn, _, assign, body, hy, roundIn_of_wpIn hfn (hassign l pre x W _ hi ?_)⟩
    clear hy
    intro a' Wa hka hkpa hia hax
    obtain ⟨hla, hda⟩ := keeps_two hka hlB hDB hlW hkW
    refine ⟨_, run_beginRound hla (hst _ _), ?_⟩
    rw [hwith1]
    obtain ⟨hl2, hk2⟩ := put_two (r' := rec .busy none) hne hla hda
    refine wpIn_mono (hbody l pre x a' _ hlB ⟨_, hl2⟩ (hI.putObj _ hia hlB hla rfl) ((hAx x a').putObj (s := ()) _ hax hlB hla rfl) hlen) ?_
    have hw2 : Kp Wa (Wa.putObj l (.loop (rec .busy none))) := hKb _ _ _ _ hlB hla rfl rfl
    -- the end of a round: the record turned once more
    have fin : ∀ (jump : Option Code) (W3 : World), KeepsFrom w.heap.size (Wa.putObj l (.loop (rec .busy none))) W3 →
        W3.heap[l]? = some (.loop (rec .busy none)) ∧
        (Instr.endRound l jump).run P W3 = .ok (.bool jump.isNone) (W3.putObj l (.loop (rec (if jump.isNone then .ready else .done) jump))) ∧
        (W3.putObj l (.loop (rec (if jump.isNone then .ready else .done) jump))).heap[l]? = some (.loop (rec (if jump.isNone then .ready else .done) jump)) ∧
        (W3.putObj l (.loop (rec (if jump.isNone then .ready else .done) jump))).heap[D]? = some (.deferred (some [])) := fun jump W3 hk3 => by
      obtain ⟨h3, h4⟩ := keeps_two hk3 hlB hDB hl2 hk2
      refine ⟨h3, ?_, put_two hne h3 h4⟩
      have h := run_endRound (P := P) jump h3
      rw [hwith] at h
      exact h
    rintro e a3 W3 hp
    cases e with
    | normal =>
      obtain ⟨hk3, hkp3, hi3⟩ := hp
      obtain ⟨h3, hr, h4⟩ := fin none W3 hk3
      exact ⟨_, _, hr, .inl ⟨rfl, ⟨hI.putObj _ hi3 hlB h3 rfl, h4⟩, hKt hkpa (hKt (hKt hw2 hkp3) (hKb _ _ _ _ hlB h3 rfl rfl))⟩⟩
    | ret =>
      obtain ⟨hk3, hi3⟩ := hp
      obtain ⟨h3, hr, h4⟩ := fin (some .ret) W3 hk3
      exact ⟨_, _, hr, .inr ⟨rfl, .ret, (hIx _).putObj _ hi3 hlB h3 rfl, h4⟩⟩
    | exit id =>
      obtain ⟨hk3, hi3⟩ := hp
      obtain ⟨h3, hr, h4⟩ := fin (some (.exit id)) W3 hk3
      exact ⟨_, _, hr, .inr ⟨rfl, .exit id, (hIx _).putObj _ hi3 hlB h3 rfl, h4⟩⟩
    | goto t =>
      obtain ⟨hk3, hi3⟩ := hp
      obtain ⟨h3, hr, h4⟩ := fin (some (.goto t)) W3 hk3
      exact ⟨_, _, hr, .inr ⟨rfl, .goto t, (hIx _).putObj _ hi3 hlB h3 rfl, h4⟩⟩
    | panic ch => exact hp.elim
    | outgrown => exact hp.elim
  · -- behind the iterator
    rintro e W2 ⟨⟨v, rfl⟩, (⟨xs, hS, hi, hl2, hk⟩ | ⟨pre, hSp, c, hi, hl2, hk⟩)⟩
    · have hr := run_endLoop (P := P) hl2 (by rw [hst]; simp)
      rw [hpe] at hr
      exact ⟨none, _, hr, hdone D xs _ hDB hS (hI.putObj _ hi hlB hl2 rfl) ((World.putObj_heap_other hne).trans hk)⟩
    · have hr := run_endLoop (P := P) hl2 (by rw [hst]; simp)
      rw [hpe] at hr
      exact ⟨some c, _, hr, hstop D c pre _ hDB hSp ((hIx c).putObj _ hi hlB hl2 rfl) ((World.putObj_heap_other hne).trans hk)⟩

/-- The same where the loop's variables are plain temporaries (not boxed). -/
theorem rangeG {α : Type} {g : Operand} {ps : Array Tmp} {assign body : Code} {Q : Exit → Act → World → Prop} {a : Act} {w : World}
    (hro : F.round = none) (h1 : 1 ≤ n) {gf : Nat} {lb : Array Value} (hg : a.eval g = .func (.func gf) #[] lb) (hFg : F.fn gf) (eg : ∀ args w, (callFunc gf args).run P w = .ok (.enter gf args) w)
    {encs : α → Array Value} {Kp Rel : World → World → Prop} {S Sp : List α → Prop} {N : Nat} {w0 : World} (hseq : SeqR F (n - 1) P gf lb encs Kp Rel S Sp N w0)
    (hKr : ∀ A, Kp A A) (hKt : ∀ {A B C : World}, Kp A B → Kp B C → Kp A C) (hKb : ∀ (W : World) (l : Nat) (o o' : Obj), w.heap.size ≤ l → W.heap[l]? = some o → o.isCells = false → o.isWalk = false → Kp W (W.putObj l o'))
    (hRel : ∀ A B, Rel A B → KeepsFrom w.heap.size A B)
    (hb0 : Below w0.heap.size w0 w) (hps : ∀ x, (encs x).size = ps.size)
    (I : List α → World → Prop) (Ix : Code → List α → World → Prop) (hI : OwnFrom w.heap.size I) (hIx : ∀ c, OwnFrom w.heap.size (Ix c)) (hIR : ∀ s A B, I s A → Rel A B → I s B) (hIxR : ∀ c s A B, Ix c s A → Rel A B → Ix c s B) (h0 : I [] w)
    (a₁ : α → Act)
    (hassign : ∀ (l : Nat) (x : α) (W : World) (K : Act → World → Prop), K (a₁ x) W →
      assign.wpIn (F.inRound l) (n - 1 - 1) P (Exit.then K (fun _ _ _ => False)) { tmps := (ps.zip (encs x)).foldl (fun t (p, v) => t.setIfInBounds p v) a.tmps, defers := [] } W)
    (hbody : ∀ (l : Nat) (pre : List α) (x : α) (W : World), w.heap.size ≤ l → (∃ r, W.heap[l]? = some (.loop r)) → I pre W → pre.length < N →
      body.wpIn (F.inRound l) (n - 1 - 1) P (ownPostG w.heap.size Kp I Ix (pre ++ [x]) W) (a₁ x) W)
    (hdone : ∀ (D : Nat) (xs : List α) (W : World), w.heap.size ≤ D → S xs → I xs W → W.heap[D]? = some (.deferred (some [])) → Q .normal { a with defers := { target := .collected D, args := #[] } :: a.defers } W)
    (hstop : ∀ (D : Nat) (c : Code) (pre : List α) (W : World), w.heap.size ≤ D → Sp pre → Ix c pre W → W.heap[D]? = some (.deferred (some [])) → c.wpIn F n P Q { a with defers := { target := .collected D, args := #[] } :: a.defers } W) :
    (Code.rangeFunc g ps assign body).wpIn F n P Q a w :=
  rangeR hro h1 hg hFg eg hseq hKt hKb hRel hb0 hps I Ix hI hIx hIR hIxR h0 (fun x a' _ => a' = a₁ x) (fun _ _ _ _ _ _ hs _ _ => hs)
    (fun l _ x W _ hi hK => hassign l x W _ (hK (a₁ x) W (KeepsFrom.refl _ _) (hKr W) hi rfl))
    (fun l pre x a' W hl hr hi ha hN => by subst ha; exact hbody l pre x W hl hr hi hN) hdone hstop

/-- The end of a function that holds ONE such loop: the block for deferred calls is shut, the results are read. -/
theorem endM {fn : Func} {R : Ending → World → Prop} {tmps : Array Value} {D : Nat} {W : World} {v : Value} (hK : W.heap[D]? = some (.deferred (some [])))
    (hres : (results fn tmps).run P (W.putObj D (.deferred none)) = .ok v (W.putObj D (.deferred none))) (hR : R (.returned v) (W.putObj D (.deferred none))) :
    bodyPostM F n P fn R .ret { tmps := tmps, defers := [{ target := .collected D, args := #[] }] } W :=
  ⟨by simp, .inl ⟨_, _, rfl, run_takeDeferred hK, ⟨v, hres, hR⟩⟩⟩
theorem endM_n {fn : Func} {R : Ending → World → Prop} {tmps : Array Value} {D : Nat} {W : World} {v : Value} (hK : W.heap[D]? = some (.deferred (some [])))
    (hres : (results fn tmps).run P (W.putObj D (.deferred none)) = .ok v (W.putObj D (.deferred none))) (hR : R (.returned v) (W.putObj D (.deferred none))) :
    bodyPostM F n P fn R .normal { tmps := tmps, defers := [{ target := .collected D, args := #[] }] } W :=
  ⟨by simp, .inl ⟨_, _, rfl, run_takeDeferred hK, ⟨v, hres, hR⟩⟩⟩
/-- What lay below B lies behind that as well. -/
theorem below_shut {B D : Nat} {a W : World} {o : Obj} (h : Below B a W) (hD : B ≤ D) (hK : W.heap[D]? = some (.deferred (some []))) : Below B a (W.putObj D o) :=
  h.grown (grownBy_putObj' W D o) (by have := (Array.getElem?_eq_some_iff.1 hK).1; omega) (fun k e => by cases e; exact hD)
theorem shut_grown {D : Nat} {W : World} {o : Obj} : W.grownBy (W.putObj D o) (some D) := grownBy_putObj' W D o

/-- An iterator that keeps no state of its own: its promise by the library's word. -/
theorem SeqR.of_K {α : Type} {g : Nat} {lb : Array Value} {encs : α → Array Value} {Kp : World → World → Prop} {S Sp : List α → Prop} {N : Nat} {w0 : World} (h : SeqStopsK F n P g lb encs Kp S Sp N w0) :
    SeqR F n P g lb encs Kp (fun A B => ∃ row, A.grownBy B row ∧ ∀ r, row = some r → w0.heap.size ≤ r ∧ ∃ o : Obj, A.heap[r]? = some o ∧ o.isWalk = true) S Sp N w0 :=
  fun l J Jx W hW hJ hJx hY h0 => h l J Jx W hW
    (fun s A B row hs hg hr => hJ s A B hs ⟨row, hg, fun r e => ⟨Nat.le_trans hW.size (hr r e).1, (hr r e).2⟩⟩)
    (fun s A B row hs hg hr => hJx s A B hs ⟨row, hg, fun r e => ⟨Nat.le_trans hW.size (hr r e).1, (hr r e).2⟩⟩) hY h0

end Go.Proofs.Ytdglkjpdhnnpnaa
