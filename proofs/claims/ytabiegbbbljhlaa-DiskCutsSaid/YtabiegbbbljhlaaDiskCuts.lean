/- DiskCuts answers true for every four values, and leaves them as they are. No conditions. -/
import Derived.Test.YtabiegbbbljhlaaX11
import Derived.Test.YtabiegbbbljhlaaR4
namespace Go.Proofs.Ytabiegbbbljhlaa
open Go.ChangeShapes Go.WideShapes Go.ChangeAt Go.RowKit

set_option maxRecDepth 100000 in
theorem diskCuts_lifted (os : Os) (started : os.Started) (H : Type) (enc : TypeId × Value → H) :
    ReturnsInHanded {} Try.checked os 11 .any (Rows.diskCutsSpec.pre6 enc Try.prog Try.f11 Rows.diskCutsRow.domain false) (Rows.diskCutsSpec.post enc Try.prog Try.f11 false true false false) := by
  refine returnsInHanded_of_change_sized (C := Try.checked) Try.own started (by kernel_rfl) Try.func11
    (ChangeSpec.witness6 (enc := enc) (C := Try.checked) false ⟨#[], #[.slice none 0 0, .slice none 0 0, .int .i64 0, .bool false], []⟩ 8 (by kernel_rfl) (by kernel_rfl) (by kernel_rfl) (by kernel_rfl)) ?_
  intro W base args ds gs before hval0 hW _ hsz0 _
  have hsz : (DataW.weightsEach Try.prog (Try.f11.params.toList ++ Rows.diskCutsSpec.plain.varTypes Try.prog) (ds ++ gs)).all (· ≤ reachBytes) = true := hsz0
  clear hsz0
  have hval : ∀ (j : Nat) t v, Try.f11.params[j]? = some t → args[j]? = some v → Value.okWide Try.prog W .any base t v := hval0
  have hW' := hW
  obtain ⟨p, q, hA0, hV, rfl, _, _⟩ := hW
  have hA : DataW.TrodAll enc Try.prog W 0 (fun _ => true) true Try.f11.params.toList args.toList ds p := hA0
  have hA1 := hA
  rw [Try.params11] at hA hval hsz
  obtain ⟨v0, v1, v2, v3, d0, d1, d2, d3, p0, p1, p2, p3, rfl, rfl, rfl, h0, h1, h2, h3⟩ := trodAll_four hA
  obtain ⟨rfl, rfl⟩ := trodVars_none hV
  clear hA0 hval0
  obtain ⟨A, n, ca, a, rfl, ha, _⟩ := open_bytes (j := 0) hsz rfl rfl (hval 0 48 v0 rfl rfl) h0
  obtain ⟨B, m, cb, b, rfl, hb, _⟩ := open_bytes (j := 1) hsz rfl rfl (hval 1 48 v1 rfl rfl) h1
  obtain ⟨t, rfl, _⟩ := open_int Try.underlying3 (hval 2 3 v2 rfl rfl) h2
  obtain ⟨sy, rfl, _⟩ := open_bool Try.underlying4 (hval 3 4 v3 rfl rfl) h3
  refine (diskCuts_any (t := t) (sy := sy) W ha hb).mono fun e W' h => ?_
  exact post_true hW' hA1 rfl rfl (by rw [Try.params11]; kernel_rfl) rfl rfl rfl h

theorem diskCuts_holds : Rows.DiskCutsSaid :=
  OpenClaim.holds_of_wide 11 Try.f11 rfl rfl rfl rfl rfl rfl rfl ⟨rfl, rfl, rfl, rfl, rfl⟩ rfl rfl rfl rfl rfl (by kernel_rfl) Try.func11 (by kernel_rfl)
    (of_decide_eq_true (by kernel_rfl)) (by unfold Func.isWrapper; first | (rw [if_pos (by decide +kernel)]; kernel_rfl) | (rw [if_neg (by decide +kernel)]; exact ⟨rfl, rfl⟩))
    (fun os started H enc _ => diskCuts_lifted os started H enc)

#print axioms diskCuts_holds

end Go.Proofs.Ytabiegbbbljhlaa
