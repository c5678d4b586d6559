/- DiskKeeps answers true for every four values, and leaves them as they are. No conditions. -/
import Derived.Test.YtabiegbbbljhlaaX9
import Derived.Test.YtabiegbbbljhlaaR4
namespace Go.Proofs.Ytabiegbbbljhlaa
open Go.ChangeShapes Go.WideShapes Go.ChangeAt Go.RowKit

set_option maxRecDepth 100000 in
theorem diskKeeps_lifted (os : Os) (started : os.Started) (H : Type) (enc : TypeId × Value → H) :
    ReturnsInHanded {} Try.checked os 10 .any (Rows.diskKeepsSpec.pre6 enc Try.prog Try.f10 Rows.diskKeepsRow.domain false) (Rows.diskKeepsSpec.post enc Try.prog Try.f10 false true false false) := by
  refine returnsInHanded_of_change_sized (C := Try.checked) Try.own started (by kernel_rfl) Try.func10
    (ChangeSpec.witness6 (enc := enc) (C := Try.checked) false ⟨#[], #[.slice none 0 0, .slice none 0 0, .int .i64 0, .slice none 0 0], []⟩ 8 (by kernel_rfl) (by kernel_rfl) (by kernel_rfl) (by kernel_rfl)) ?_
  intro W base args ds gs before hval0 hW _ hsz0 _
  have hsz : (DataW.weightsEach Try.prog (Try.f10.params.toList ++ Rows.diskKeepsSpec.plain.varTypes Try.prog) (ds ++ gs)).all (· ≤ reachBytes) = true := hsz0
  clear hsz0
  have hval : ∀ (j : Nat) t v, Try.f10.params[j]? = some t → args[j]? = some v → Value.okWide Try.prog W .any base t v := hval0
  have hW' := hW
  obtain ⟨p, q, hA0, hV, rfl, _, _⟩ := hW
  have hA : DataW.TrodAll enc Try.prog W 0 (fun _ => true) true Try.f10.params.toList args.toList ds p := hA0
  have hA1 := hA
  rw [Try.params10] at hA hval hsz
  obtain ⟨v0, v1, v2, v3, d0, d1, d2, d3, p0, p1, p2, p3, rfl, rfl, rfl, h0, h1, h2, h3⟩ := trodAll_four hA
  obtain ⟨rfl, rfl⟩ := trodVars_none hV
  clear hA0 hval0
  obtain ⟨P, np, cp, ps, rfl, hp, hpp⟩ := open_parts (hval 0 62 v0 rfl rfl) h0
  obtain ⟨S, ns, cs, ss, rfl, hs⟩ := open_bools (hval 1 63 v1 rfl rfl) h1
  obtain ⟨t, rfl, _⟩ := open_int Try.underlying3 (hval 2 3 v2 rfl rfl) h2
  obtain ⟨K, nk, ck, keep, rfl, hk, _, hkb⟩ := open_i64s (j := 3) hsz rfl rfl (hval 3 64 v3 rfl rfl) h3
  refine (diskKeeps_any W hp hpp hs hk hkb).mono fun e W' h => ?_
  exact post_true hW' hA1 rfl rfl (by rw [Try.params10]; kernel_rfl) rfl rfl rfl h

theorem diskKeeps_holds : Rows.DiskKeepsSaid :=
  OpenClaim.holds_of_wide 10 Try.f10 rfl rfl rfl rfl rfl rfl rfl ⟨rfl, rfl, rfl, rfl, rfl⟩ rfl rfl rfl rfl rfl (by kernel_rfl) Try.func10 (by kernel_rfl)
    (of_decide_eq_true (by kernel_rfl)) (by unfold Func.isWrapper; first | (rw [if_pos (by decide +kernel)]; kernel_rfl) | (rw [if_neg (by decide +kernel)]; exact ⟨rfl, rfl⟩))
    (fun os started H enc _ => diskKeeps_lifted os started H enc)

#print axioms diskKeeps_holds

end Go.Proofs.Ytabiegbbbljhlaa
