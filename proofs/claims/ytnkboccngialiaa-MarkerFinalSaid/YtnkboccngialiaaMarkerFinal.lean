/- The row of MarkerFinal: the walk carried to the given statement: for every number, slice of markers, and number. -/
import Derived.Test.YtnkboccngialiaaM14
import Derived.Test.YtnkboccngialiaaRowM
namespace Go.Proofs.Ytnkboccngialiaa
open Go.ChangeShapes Go.WideShapes Go.ChangeAt Go.RowKit

set_option maxRecDepth 100000 in
theorem markerFinal_lifted (os : Os) (started : os.Started) (H : Type) (enc : TypeId × Value → H) :
    ReturnsInHanded {} Try.checked os 4 .any (Rows.markerFinalSpec.pre6 enc Try.prog Try.f4 Rows.markerFinalRow.domain false) (Rows.markerFinalSpec.post enc Try.prog Try.f4 false true false false) := by
  refine returnsInHanded_of_change_sized (C := Try.checked) Try.own started (by kernel_rfl) Try.func4
    (ChangeSpec.witness6 (enc := enc) (C := Try.checked) false ⟨#[], #[.int .i64 0, .slice none 0 0, .int .i64 0], []⟩ 8 (by kernel_rfl) (by kernel_rfl) (by kernel_rfl) (by kernel_rfl)) ?_
  intro W base args ds gs before hval0 hW _ hsz0 _
  have hsz : (DataW.weightsEach Try.prog (Try.f4.params.toList ++ Rows.markerFinalSpec.plain.varTypes Try.prog) (ds ++ gs)).all (· ≤ reachBytes) = true := hsz0
  clear hsz0
  have hval : ∀ (j : Nat) t v, Try.f4.params[j]? = some t → args[j]? = some v → Value.okWide Try.prog W .any base t v := hval0
  have hW' := hW
  obtain ⟨p, q, hA0, hV, rfl, _, _⟩ := hW
  have hA : DataW.TrodAll enc Try.prog W 0 (fun _ => true) true Try.f4.params.toList args.toList ds p := hA0
  have hA1 := hA
  rw [Try.params4] at hA hval hsz
  obtain ⟨v0, v1, v2, d0, d1, d2, p0, p1, p2, rfl, rfl, rfl, h0, h1, h2⟩ := trodAll_three hA
  obtain ⟨rfl, rfl⟩ := trodVars_none hV
  clear hA0 hval0
  obtain ⟨N, rfl, hN⟩ := open_int Try.underlying3 (hval 0 3 v0 rfl rfl) h0
  obtain ⟨A, n, c, ms, rfl, hr, hc⟩ := open_markers (j := 1) Try.underlying22 hsz rfl rfl (hval 1 22 v1 rfl rfl) h1
  obtain ⟨i, rfl, hi⟩ := open_int Try.underlying3 (hval 2 3 v2 rfl rfl) h2
  refine (markerFinal_any W (by unfold maxLen; omega) hr).mono fun e W' h => ?_
  exact post_true hW' hA1 rfl rfl (by rw [Try.params4]; kernel_rfl) rfl rfl rfl h

theorem markerFinal_holds : Rows.MarkerFinalSaid :=
  OpenClaim.holds_of_wide 4 Try.f4 rfl rfl rfl rfl rfl rfl rfl ⟨rfl, rfl, rfl, rfl, rfl⟩ rfl rfl rfl rfl rfl (by kernel_rfl) Try.func4 (by kernel_rfl)
    (of_decide_eq_true (by kernel_rfl)) (by unfold Func.isWrapper; first | (rw [if_pos (by decide +kernel)]; kernel_rfl) | (rw [if_neg (by decide +kernel)]; exact ⟨rfl, rfl⟩))
    (fun os started H enc _ => markerFinal_lifted os started H enc)

#print axioms markerFinal_holds

end Go.Proofs.Ytnkboccngialiaa
