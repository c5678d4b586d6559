/- TreemergePaths answers true at every argument; the card ties the listed tables to the program's text. No conditions but the tables. -/
import Derived.Test.YtcemkikgaeghjaaGreatDoorG38
import Derived.Test.YtcemkikgaeghjaaGreatDoorG39
namespace Go.Proofs.YtcemkikgaeghjaaGreatDoor
open Go.ChangeShapes Go.WideShapes Go.ChangeAt Go.RowKit

theorem treemergePaths_met (os : Os) : laidMet Tryz.prog Rows.treemergePathsRow.laid ((laidU os).forCall (fun _ _ => 0) ⟨#[], #[Value.slice none 0 0, .slice none 0 0, .slice none 0 0, .string ⟨#[]⟩], []⟩).memory :=
  laidMet_of_run' 8 (by kernel_rfl) (by kernel_rfl)
theorem treemergePaths_reads (os : Os) {H : Type} (enc : TypeId × Value → H) : ∃ places, DataW.whole enc Tryz.prog ((laidU os).forCall (fun _ _ => 0) ⟨#[], #[Value.slice none 0 0, .slice none 0 0, .slice none 0 0, .string ⟨#[]⟩], []⟩).memory Tryz.f5.params.toList Rows.treemergePathsSpec.vars false (#[Value.slice none 0 0, .slice none 0 0, .slice none 0 0, .string ⟨#[]⟩] : Array Value).toList 8 = some ([.nil, .nil, .nil, .lit (.string [])], [], places) :=
  ⟨[], by kernel_rfl⟩
set_option maxRecDepth 100000 in
theorem treemergePaths_lifted (os : Os) (started : os.Started) (H : Type) (enc : TypeId × Value → H) (F : Stop.Interp) :
    ReturnsInHanded {} Tryz.checked os 5 .any ((OpenSpec.ofChange Rows.treemergePathsSpec).preRow enc Tryz.prog Tryz.f5 Rows.treemergePathsRow.domain false Rows.treemergePathsRow.laid) (((OpenSpec.ofChange Rows.treemergePathsSpec).at F).post enc Tryz.prog Tryz.f5 false true false false) := by
  obtain ⟨places, hx⟩ := treemergePaths_reads os enc
  refine returnsInHanded_of_row (C := Tryz.checked) (s := OpenSpec.ofChange Rows.treemergePathsSpec) Tryz.own started (by kernel_rfl) Tryz.func5
    (witness_row_at (enc := enc) (C := Tryz.checked) false (laidU os) #[Value.slice none 0 0, .slice none 0 0, .slice none 0 0, .string ⟨#[]⟩] rfl (by kernel_rfl) (by kernel_rfl) (by kernel_rfl)
      (OpenSpec.preRow_of_cond 8 hx (by kernel_rfl) (fun k hk => by cases hk) (by kernel_rfl) (treemergePaths_met os))) ?_
  intro W base args ds gs before hval0 hW _ _ hsz0 _ hsh _
  have hsz : (DataW.weightsEach Tryz.prog (Tryz.f5.params.toList ++ (OpenSpec.ofChange Rows.treemergePathsSpec).bare.plain.varTypes Tryz.prog) (ds ++ gs)).all (· ≤ reachBytes) = true := hsz0
  clear hsz0
  have hval : ∀ (j : Nat) t v, Tryz.f5.params[j]? = some t → args[j]? = some v → Value.okWide Tryz.prog W .any base t v := hval0
  have hW' := hW
  obtain ⟨p, q, hA0, hV, rfl, _, _⟩ := hW
  have hA : DataW.TrodAll enc Tryz.prog W 0 (fun _ => true) true Tryz.f5.params.toList args.toList ds p := hA0
  have hA1 := hA
  rw [Tryz.params5] at hA hval hsz
  obtain ⟨v0, v1, v2, v3, d0, d1, d2, d3, p0, p1, p2, p3, rfl, rfl, rfl, q0, q1, q2, q3⟩ := trodAll_four hA
  obtain ⟨rfl, rfl⟩ := trodVars_none hV
  clear hA0 hval0
  have hm := Lm.shaped hsh
  obtain ⟨a0, z0, c0, rfl⟩ := okWide_slice Tryz.underlying22 (hval 0 22 v0 rfl rfl)
  obtain ⟨A0, k0, x0, e0, h0, l0⟩ := open_arg opens_files (j := 0) hsz rfl rfl q0
  cases e0
  obtain ⟨a1, z1, c1, rfl⟩ := okWide_slice Tryz.underlying22 (hval 1 22 v1 rfl rfl)
  obtain ⟨A1, k1, x1, e1, h1, l1⟩ := open_arg opens_files (j := 1) hsz rfl rfl q1
  cases e1
  obtain ⟨a2, z2, c2, rfl⟩ := okWide_slice Tryz.underlying22 (hval 2 22 v2 rfl rfl)
  obtain ⟨A2, k2, x2, e2, h2, l2⟩ := open_arg opens_files (j := 2) hsz rfl rfl q2
  cases e2
  obtain ⟨x3, rfl⟩ := okWide_string Tryz.underlying9 (hval 3 9 v3 rfl rfl)
  obtain ⟨y3, e3, h3⟩ := open_arg (opens_str Tryz.underlying9) (j := 3) hsz rfl rfl q3
  cases e3
  refine (mergePaths_any l0 l1 l2 h3 hm h0 h1 h2).mono fun e W' h => ?_
  exact post_true hW' hA1 rfl rfl (by rw [Tryz.params5]; kernel_rfl) rfl rfl rfl h

theorem treemergePaths_said : Rows.TreemergePathsSaid :=
  OpenClaim.holds_of_cond 5 Tryz.f5 rfl rfl rfl rfl rfl rfl rfl ⟨rfl, rfl, rfl, rfl, rfl⟩ rfl rfl rfl rfl rfl (by kernel_rfl) Tryz.func5 (by kernel_rfl)
    (of_decide_eq_true (by kernel_rfl)) (by unfold Func.isWrapper; first | (rw [if_pos (by decide +kernel)]; kernel_rfl) | (rw [if_neg (by decide +kernel)]; exact ⟨rfl, rfl⟩))
    (fun os started H enc _ F => by rw [OpenClaim.pre_eq_preRow]; exact treemergePaths_lifted os started H enc F)

theorem treemergePaths_plain (f : FuncId) (fn : Func) (hf : Tryz.pinned.checked.prog.funcNamed "rick/ricklaw14.TreemergePaths" = some f) (hfn : Tryz.pinned.checked.prog.funcs[f]? = some fn) :
    false = Tryz.pinned.checked.prog.looks [] ∧ ∀ (j : Nat) t, fn.params[j]? = some t → Tryz.pinned.checked.prog.wantsStandIn t = false := by
  obtain rfl : f = 5 := Option.some.inj ((show Tryz.prog.funcNamed "rick/ricklaw14.TreemergePaths" = some 5 by kernel_rfl).symm.trans hf) |>.symm
  obtain rfl : fn = Tryz.f5 := (Option.some.inj (Tryz.func5.symm.trans hfn)).symm
  refine ⟨by kernel_rfl, fun j t ht => ?_⟩
  rw [Tryz.params5] at ht
  have h : t = 22 ∨ t = 9 := by
    have := Array.mem_of_getElem? ht
    simp at this
    first | exact this | omega
  rcases h with rfl | rfl
  · exact (show Tryz.prog.wantsStandIn 22 = false by kernel_rfl)
  · exact (show Tryz.prog.wantsStandIn 9 = false by kernel_rfl)

theorem treemergePaths_holds : Rows.TreemergePathsCardSaid :=
  Claim7.holds_tied_plain_at .later [] _ _ _ _ treemergePaths_said (fun _ h => by cases h) (by kernel_rfl) (fun _ h => by cases h) treemergePaths_row_tie rfl ⟨rfl, rfl⟩ (by kernel_rfl) rfl treemergePaths_plain (by kernel_rfl)

#print axioms treemergePaths_holds

end Go.Proofs.YtcemkikgaeghjaaGreatDoor
