/- Law TaglistSteps: for every input the call returns true, and each argument reads afterwards as it read before (no condition beyond the row's own). -/
import Derived.Test.YtfglpigoljclbaaRows
import Derived.Test.YtfglpigoljclbaaHOpenJ
import Derived.Test.YtfglpigoljclbaaHOpen
import Derived.WalkKit
import Derived.ProofKit
import Derived.OpenShut
namespace Go.Proofs.Ytfglpigoljclbaa.taglistSteps
open Go.ChangeShapes Go.WideShapes Go.ChangeAt Go.RowKit
set_option linter.unusedVariables false

theorem own : ownKnob Try.prog.godebug = none := by kernel_rfl

set_option maxRecDepth 100000 in
theorem lifted (os : Os) (started : os.Started) (H : Type) (enc : TypeId × Value → H) :
    ReturnsInHanded {} Try.checked os 5 .any (Rows.taglistStepsSpec.pre6 enc Try.prog Try.f5 Rows.taglistStepsRow.domain false) (Rows.taglistStepsSpec.post enc Try.prog Try.f5 false true false false) := by
  refine returnsInHanded_of_change (C := Try.checked) own started (by kernel_rfl) Try.func5
    (ChangeSpec.witness6 (enc := enc) (C := Try.checked) false ⟨#[], #[.agg #[.int .i64 0, .int .i64 0, .int .i64 0, .int .u32 0], .slice none 0 0, .slice none 0 0, .slice none 0 0], []⟩ 8 (by kernel_rfl) (by kernel_rfl) (by kernel_rfl) (by kernel_rfl)) ?_
  intro W base args ds gs before hval0 hW hcnd _
  have hval : ∀ (j : Nat) t v, Try.f5.params[j]? = some t → args[j]? = some v → Value.okWide Try.prog W .any base t v := hval0
  have hW' := hW
  obtain ⟨p, q, hA0, hV, rfl, hfz, hnd⟩ := hW
  have hA : DataW.TrodAll enc Try.prog W 0 (fun _ => true) true Try.f5.params.toList args.toList ds p := hA0
  rw [Try.params5] at hA hval
  obtain ⟨v0, vs0, d0, ds0, p0, q0, hargs, rfl, rfl, h0, r0⟩ := trodAll_cons hA
  obtain ⟨v1, vs1, d1, ds1, p1, q1, rfl, rfl, rfl, h1, r1⟩ := trodAll_cons r0
  obtain ⟨v2, vs2, d2, ds2, p2, q2, rfl, rfl, rfl, h2, r2⟩ := trodAll_cons r1
  obtain ⟨v3, vs3, d3, ds3, p3, q3, rfl, rfl, rfl, h3, r3⟩ := trodAll_cons r2
  obtain ⟨rfl, rfl, rfl⟩ := trodAll_nil r3
  obtain rfl : args = #[v0, v1, v2, v3] := by cases args; simp_all
  obtain ⟨rfl, rfl⟩ := trodVars_none hV
  obtain ⟨n0, s0, h0_, t0, e0⟩ := Go.Proofs.Ytfglpigoljclbaa.H.cfg_of_trod (hval 0 25 v0 rfl rfl) h0
  obtain ⟨x1, s1, y1⟩ := Go.Proofs.Ytfglpigoljclbaa.H.rd_of_trod Try.underlying36 Try.underlying26 (by kernel_rfl) (hval 1 36 v1 rfl rfl) h1
  obtain ⟨x2, s2⟩ := Go.Proofs.Ytfglpigoljclbaa.H.jobs_of_trod (hval 2 50 v2 rfl rfl) h2
  obtain ⟨x3, s3, y3⟩ := Go.Proofs.Ytfglpigoljclbaa.H.rd_of_trod Try.underlying34 Try.underlying3 (by kernel_rfl) (hval 3 34 v3 rfl rfl) h3
  clear hA0 hval0
  simp only [List.append_nil] at hW'
  subst e0
  refine (Go.Proofs.Ytfglpigoljclbaa.H.TaglistSteps_ W _ _ n0 s0 h0_ t0 v1 x1 s1 (Go.Proofs.Ytfglpigoljclbaa.H.words_of y1) v2 x2 s2 v3 x3 s3 (Go.Proofs.Ytfglpigoljclbaa.H.i64_at y3)).mono fun e W' ⟨he, hg⟩ => ?_
  subst he
  have h0' := Below.trod (by kernel_rfl) (by kernel_rfl) (of_decide_eq_true (by kernel_rfl)) h0 hg.below (Go.Proofs.Ytfglpigoljclbaa.H.trod_lt' h0)
  have h1' := Below.trod (by kernel_rfl) (by kernel_rfl) (of_decide_eq_true (by kernel_rfl)) h1 hg.below (Go.Proofs.Ytfglpigoljclbaa.H.trod_lt' h1)
  have h2' := Below.trod (by kernel_rfl) (by kernel_rfl) (of_decide_eq_true (by kernel_rfl)) h2 hg.below (Go.Proofs.Ytfglpigoljclbaa.H.trod_lt' h2)
  have h3' := Below.trod (by kernel_rfl) (by kernel_rfl) (of_decide_eq_true (by kernel_rfl)) h3 hg.below (Go.Proofs.Ytfglpigoljclbaa.H.trod_lt' h3)
  exact ⟨_, rfl, _, _, _, _, _, _, hW', (trodAll_cons_mk (shut_bool Try.underlying4 _) trodAll_mk0), (trodAll_cons_mk h0' (trodAll_cons_mk h1' (trodAll_cons_mk h2' (trodAll_cons_mk h3' trodAll_mk0)))), rfl, hg.below.frame _, fun h => by cases h⟩

theorem over : Rows.taglistStepsRow.holds Try.pinned (OpenSpec.ofChange Rows.taglistStepsSpec) :=
  OpenClaim.holds_of_wide 5 Try.f5 rfl rfl rfl rfl rfl rfl rfl ⟨rfl, rfl, rfl, rfl, rfl⟩ rfl rfl rfl rfl rfl (by kernel_rfl) Try.func5 (by kernel_rfl)
    (of_decide_eq_true (by kernel_rfl)) (by unfold Func.isWrapper; first | (rw [if_pos (by decide +kernel)]; kernel_rfl) | (rw [if_neg (by decide +kernel)]; exact ⟨rfl, rfl⟩))
    (fun os started H enc _ => lifted os started H enc)

theorem proved : Rows.TaglistStepsSaid :=
  over
#print axioms proved
end Go.Proofs.Ytfglpigoljclbaa.taglistSteps
