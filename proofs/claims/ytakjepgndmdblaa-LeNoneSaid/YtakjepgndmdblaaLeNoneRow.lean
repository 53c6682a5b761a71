/-
  LeNone: for every input the law returns true; each argument reads behind the call as it read before.
-/
import Derived.Test.YtakjepgndmdblaaRows
import Derived.Test.YtakjepgndmdblaaOpen
import Derived.Lib.SmallJoins
import Derived.Test.YtakjepgndmdblaaLeNone
namespace Go.Proofs.Ytakjepgndmdblaa.leNone
open Go.ChangeShapes Go.WideShapes Go.ChangeAt Go.RowKit Go.Proofs.Ytakjepgndmdblaa

theorem own : ownKnob Try.prog.godebug = none := by kernel_rfl
theorem laidOut : laidOutB Try.prog = true := by kernel_rfl

set_option maxRecDepth 100000 in
theorem lifted (os : Os) (started : os.Started) (H : Type) (enc : TypeId × Value → H) :
    ReturnsInHanded {} Try.checked os 10 .any (Rows.leNoneSpec.pre6 enc Try.prog Try.f10 Rows.leNoneRow.domain false) (Rows.leNoneSpec.post enc Try.prog Try.f10 false true false false) := by
  refine returnsInHanded_of_change (C := Try.checked) own started (by kernel_rfl) Try.func10
    (ChangeSpec.witness6 (enc := enc) (C := Try.checked) false ⟨#[], #[.agg #[.bool false, .int .i64 0]], []⟩ 8 (by kernel_rfl) (by kernel_rfl) (by kernel_rfl) (by kernel_rfl)) ?_
  intro W base args ds gs before hval0 hW hcnd _
  have hval : ∀ (j : Nat) t v, Try.f10.params[j]? = some t → args[j]? = some v → Value.okWide Try.prog W .any base t v := hval0
  have hW' := hW
  obtain ⟨p, q, hA0, hV, rfl, _, _⟩ := hW
  have hA : DataW.TrodAll enc Try.prog W 0 (fun _ => true) true Try.f10.params.toList args.toList ds p := hA0
  rw [Try.params10] at hA hval
  obtain ⟨v0, vs0, d0, ds0, p0, q0, hargs, rfl, rfl, h0, r0⟩ := trodAll_cons hA
  obtain ⟨rfl, rfl, rfl⟩ := trodAll_nil r0
  obtain rfl : args = #[v0] := by cases args; simp_all
  obtain ⟨rfl, rfl⟩ := trodVars_none hV
  have k0 := h0
  have lt0 : ∀ x ∈ p0, x.block < W.heap.size := by obtain ⟨m, hm⟩ := k0; exact DataW.trod_lt m _ _ _ hm
  obtain ⟨c00, c10, y00, y10, m0, rfl, rfl, rfl, hy00, hy10⟩ := Go.Joins.open_agg2 Try.underlying40 (by kernel_rfl) (by kernel_rfl) (hval 0 40 v0 rfl rfl) h0
  obtain ⟨t0, e00, _⟩ := DataW.trod_bool Try.underlying4 hy00
  obtain ⟨s0, e10, _, w0⟩ := DataW.trod_int Try.underlying3 hy10
  simp only [List.cons.injEq, and_true] at e00 e10
  subst e00 e10
  clear hA0 hval0 hcnd
  refine (leNone_walk t0 s0 W ((i64_of_wf w0).1) ((i64_of_wf w0).2)).mono fun e W' ⟨he, bel⟩ => ?_
  subst he
  exact ⟨_, rfl, _, _, _, [], _, [], hW', trodAll_mk1 (shut_bool Try.underlying4 _), (trodAll_cons_mk (Below.trod laidOut (by kernel_rfl) (of_decide_eq_true (by kernel_rfl)) k0 bel lt0) trodAll_mk0), rfl, bel.frame _, fun h => by cases h⟩

theorem over : Rows.leNoneRow.holds Try.pinned (OpenSpec.ofChange Rows.leNoneSpec) :=
  OpenClaim.holds_of_wide 10 Try.f10 rfl rfl rfl rfl rfl rfl rfl ⟨rfl, rfl, rfl, rfl, rfl⟩ rfl rfl rfl rfl rfl (by kernel_rfl) Try.func10 (by kernel_rfl)
    (of_decide_eq_true (by kernel_rfl)) (by unfold Func.isWrapper; first | (rw [if_pos (by decide +kernel)]; kernel_rfl) | (rw [if_neg (by decide +kernel)]; exact ⟨rfl, rfl⟩))
    (fun os started H enc _ => lifted os started H enc)

theorem proved : Rows.LeNoneSaid := over
#print axioms proved
end Go.Proofs.Ytakjepgndmdblaa.leNone
