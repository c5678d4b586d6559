/- The row of MarkerTells: the walk carried to the given statement: for every number, slice of markers, and number. -/
import Derived.Test.YtnkboccngialiaaM12
import Derived.Test.YtnkboccngialiaaRowM
namespace Go.Proofs.Ytnkboccngialiaa
open Go.ChangeShapes Go.WideShapes Go.ChangeAt Go.RowKit

set_option maxRecDepth 100000 in
theorem markerTells_lifted (os : Os) (started : os.Started) (H : Type) (enc : TypeId × Value → H) :
    ReturnsInHanded {} Try.checked os 3 .any (Rows.markerTellsSpec.pre6 enc Try.prog Try.f3 Rows.markerTellsRow.domain false) (Rows.markerTellsSpec.post enc Try.prog Try.f3 false true false false) := by
  refine returnsInHanded_of_change_sized (C := Try.checked) Try.own started (by kernel_rfl) Try.func3
    (ChangeSpec.witness6 (enc := enc) (C := Try.checked) false ⟨#[], #[.int .i64 0, .slice none 0 0, .int .i64 0], []⟩ 8 (by kernel_rfl) (by kernel_rfl) (by kernel_rfl) (by kernel_rfl)) ?_
  intro W base args ds gs before hval0 hW _ hsz0 _
  have hsz : (DataW.weightsEach Try.prog (Try.f3.params.toList ++ Rows.markerTellsSpec.plain.varTypes Try.prog) (ds ++ gs)).all (· ≤ reachBytes) = true := hsz0
  clear hsz0
  have hval : ∀ (j : Nat) t v, Try.f3.params[j]? = some t → args[j]? = some v → Value.okWide Try.prog W .any base t v := hval0
  have hW' := hW
  obtain ⟨p, q, hA0, hV, rfl, _, _⟩ := hW
  have hA : DataW.TrodAll enc Try.prog W 0 (fun _ => true) true Try.f3.params.toList args.toList ds p := hA0
  have hA1 := hA
  rw [Try.params3] at hA hval hsz
  obtain ⟨v0, v1, v2, d0, d1, d2, p0, p1, p2, rfl, rfl, rfl, h0, h1, h2⟩ := trodAll_three hA
  obtain ⟨rfl, rfl⟩ := trodVars_none hV
  clear hA0 hval0
  obtain ⟨N, rfl, hN⟩ := open_int Try.underlying3 (hval 0 3 v0 rfl rfl) h0
  obtain ⟨A, n, c, ms, rfl, hr, hc⟩ := open_markers (j := 1) Try.underlying22 hsz rfl rfl (hval 1 22 v1 rfl rfl) h1
  obtain ⟨i, rfl, hi⟩ := open_int Try.underlying3 (hval 2 3 v2 rfl rfl) h2
  refine (markerTells_any W (by unfold maxLen; omega) hr (int_bounds hi.2.2)).mono fun e W' h => ?_
  exact post_true hW' hA1 rfl rfl (by rw [Try.params3]; kernel_rfl) rfl rfl rfl h

theorem markerTells_holds : Rows.MarkerTellsSaid :=
  OpenClaim.holds_of_wide 3 Try.f3 rfl rfl rfl rfl rfl rfl rfl ⟨rfl, rfl, rfl, rfl, rfl⟩ rfl rfl rfl rfl rfl (by kernel_rfl) Try.func3 (by kernel_rfl)
    (of_decide_eq_true (by kernel_rfl)) (by unfold Func.isWrapper; first | (rw [if_pos (by decide +kernel)]; kernel_rfl) | (rw [if_neg (by decide +kernel)]; exact ⟨rfl, rfl⟩))
    (fun os started H enc _ => markerTells_lifted os started H enc)

#print axioms markerTells_holds

end Go.Proofs.Ytnkboccngialiaa
