/- The row of PlanOrphans: the walk carried to the given statement: for every slice of numbers and slice of markers. -/
import Derived.Test.YtnkboccngialiaaQ2
import Derived.Test.YtnkboccngialiaaRowM
namespace Go.Proofs.Ytnkboccngialiaa
open Go.ChangeShapes Go.WideShapes Go.ChangeAt Go.RowKit

set_option maxRecDepth 100000 in
theorem planOrphans_lifted (os : Os) (started : os.Started) (H : Type) (enc : TypeId × Value → H) :
    ReturnsInHanded {} Try.checked os 8 .any (Rows.planOrphansSpec.pre6 enc Try.prog Try.f8 Rows.planOrphansRow.domain false) (Rows.planOrphansSpec.post enc Try.prog Try.f8 false true false false) := by
  refine returnsInHanded_of_change_sized (C := Try.checked) Try.own started (by kernel_rfl) Try.func8
    (ChangeSpec.witness6 (enc := enc) (C := Try.checked) false ⟨#[], #[.slice none 0 0, .slice none 0 0], []⟩ 8 (by kernel_rfl) (by kernel_rfl) (by kernel_rfl) (by kernel_rfl)) ?_
  intro W base args ds gs before hval0 hW _ hsz0 _
  have hsz : (DataW.weightsEach Try.prog (Try.f8.params.toList ++ Rows.planOrphansSpec.plain.varTypes Try.prog) (ds ++ gs)).all (· ≤ reachBytes) = true := hsz0
  clear hsz0
  have hval : ∀ (j : Nat) t v, Try.f8.params[j]? = some t → args[j]? = some v → Value.okWide Try.prog W .any base t v := hval0
  have hW' := hW
  obtain ⟨p, q, hA0, hV, rfl, _, _⟩ := hW
  have hA : DataW.TrodAll enc Try.prog W 0 (fun _ => true) true Try.f8.params.toList args.toList ds p := hA0
  have hA1 := hA
  rw [Try.params8] at hA hval hsz
  obtain ⟨v0, v1, d0, d1, p0, p1, rfl, rfl, rfl, h0, h1⟩ := trodAll_two hA
  obtain ⟨rfl, rfl⟩ := trodVars_none hV
  clear hA0 hval0
  obtain ⟨A, n, c, l, rfl, hr, hc, _⟩ := open_i64s (j := 0) hsz rfl rfl (hval 0 28 v0 rfl rfl) h0
  obtain ⟨A2, m, c2, ms, rfl, hr2, hc2⟩ := open_markers (j := 1) Try.underlying22 hsz rfl rfl (hval 1 22 v1 rfl rfl) h1
  have hcap := hr.cap
  refine (planOrphans_any W (by unfold maxLen; omega) hr (by unfold maxLen; omega) hr2).mono fun e W' h => ?_
  exact post_true hW' hA1 rfl rfl (by rw [Try.params8]; kernel_rfl) rfl rfl rfl h

theorem planOrphans_holds : Rows.PlanOrphansSaid :=
  OpenClaim.holds_of_wide 8 Try.f8 rfl rfl rfl rfl rfl rfl rfl ⟨rfl, rfl, rfl, rfl, rfl⟩ rfl rfl rfl rfl rfl (by kernel_rfl) Try.func8 (by kernel_rfl)
    (of_decide_eq_true (by kernel_rfl)) (by unfold Func.isWrapper; first | (rw [if_pos (by decide +kernel)]; kernel_rfl) | (rw [if_neg (by decide +kernel)]; exact ⟨rfl, rfl⟩))
    (fun os started H enc _ => planOrphans_lifted os started H enc)

#print axioms planOrphans_holds

end Go.Proofs.Ytnkboccngialiaa
