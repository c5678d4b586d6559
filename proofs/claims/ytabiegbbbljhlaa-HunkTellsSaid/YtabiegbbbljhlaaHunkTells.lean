/- HunkTells answers true for every slice of edits, of strings and of hunks, and leaves them as they are. No conditions. -/
import Derived.Test.YtabiegbbbljhlaaW20
import Derived.Test.YtabiegbbbljhlaaRow2
namespace Go.Proofs.Ytabiegbbbljhlaa
open Go.ChangeShapes Go.WideShapes Go.ChangeAt Go.RowKit

set_option maxRecDepth 100000 in
theorem hunkTells_lifted (os : Os) (started : os.Started) (H : Type) (enc : TypeId × Value → H) :
    ReturnsInHanded {} Try.checked os 6 .any (Rows.hunkTellsSpec.pre6 enc Try.prog Try.f6 Rows.hunkTellsRow.domain false) (Rows.hunkTellsSpec.post enc Try.prog Try.f6 false true false false) := by
  refine returnsInHanded_of_change_sized (C := Try.checked) Try.own started (by kernel_rfl) Try.func6
    (ChangeSpec.witness6 (enc := enc) (C := Try.checked) false ⟨#[], #[.slice none 0 0, .slice none 0 0, .slice none 0 0], []⟩ 8 (by kernel_rfl) (by kernel_rfl) (by kernel_rfl) (by kernel_rfl)) ?_
  intro W base args ds gs before hval0 hW _ hsz0 _
  have hsz : (DataW.weightsEach Try.prog (Try.f6.params.toList ++ Rows.hunkTellsSpec.plain.varTypes Try.prog) (ds ++ gs)).all (· ≤ reachBytes) = true := hsz0
  clear hsz0
  have hval : ∀ (j : Nat) t v, Try.f6.params[j]? = some t → args[j]? = some v → Value.okWide Try.prog W .any base t v := hval0
  have hW' := hW
  obtain ⟨p, q, hA0, hV, rfl, _, _⟩ := hW
  have hA : DataW.TrodAll enc Try.prog W 0 (fun _ => true) true Try.f6.params.toList args.toList ds p := hA0
  have hA1 := hA
  rw [Try.params6] at hA hval hsz
  obtain ⟨v0, v1, v2, d0, d1, d2, p0, p1, p2, rfl, rfl, rfl, h0, h1, h2⟩ := trodAll_three hA
  obtain ⟨rfl, rfl⟩ := trodVars_none hV
  clear hA0 hval0
  have hlt : ∀ x ∈ p0 ++ p1 ++ p2, x.block < W.heap.size := fun x hx => by simpa using hW'.lt x (by simp only [List.append_nil]; exact hx)
  obtain ⟨A, n, c, l, rfl, hr⟩ := open_edits Try.underlying33 (hval 0 33 v0 rfl rfl) h0
  obtain ⟨B, m, c', l', rfl, hr', hc', hl'⟩ := open_strs (j := 1) Try.underlying22 hsz rfl rfl (hval 1 22 v1 rfl rfl) h1 (fun x hx => hlt x (by simp [hx]))
  obtain ⟨C, k, c'', hs, rfl, hr'', hk⟩ := open_hunks (j := 2) Try.underlying30 hsz rfl rfl (hval 2 30 v2 rfl rfl) h2
  refine (hunkTells_any W hr hr' hr'' hk).mono fun e W' h => ?_
  exact post_true hW' hA1 rfl rfl (by rw [Try.params6]; kernel_rfl) rfl rfl rfl h

theorem hunkTells_holds : Rows.HunkTellsSaid :=
  OpenClaim.holds_of_wide 6 Try.f6 rfl rfl rfl rfl rfl rfl rfl ⟨rfl, rfl, rfl, rfl, rfl⟩ rfl rfl rfl rfl rfl (by kernel_rfl) Try.func6 (by kernel_rfl)
    (of_decide_eq_true (by kernel_rfl)) (by unfold Func.isWrapper; first | (rw [if_pos (by decide +kernel)]; kernel_rfl) | (rw [if_neg (by decide +kernel)]; exact ⟨rfl, rfl⟩))
    (fun os started H enc _ => hunkTells_lifted os started H enc)

#print axioms hunkTells_holds

end Go.Proofs.Ytabiegbbbljhlaa
