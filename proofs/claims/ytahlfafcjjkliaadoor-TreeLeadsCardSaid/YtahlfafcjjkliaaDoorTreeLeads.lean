/- TreeLeads answers true at every argument; the card ties the listed tables to the program's text. No conditions but the tables. -/
import Derived.Test.YtahlfafcjjkliaaDoorM9
import Derived.Test.YtahlfafcjjkliaaDoorArg4
namespace Go.Proofs.YtahlfafcjjkliaaDoor
open Go.ChangeShapes Go.WideShapes Go.ChangeAt Go.RowKit

theorem treeLeads_met (os : Os) : laidMet Tryd.prog Rows.treeLeadsRow.laid ((laidU os).forCall (fun _ _ => 0) ⟨#[], #[Value.slice none 0 0, .slice none 0 0], []⟩).memory :=
  laidMet_of_run' 8 (by kernel_rfl) (by kernel_rfl)
theorem treeLeads_reads (os : Os) {H : Type} (enc : TypeId × Value → H) : ∃ places, DataW.whole enc Tryd.prog ((laidU os).forCall (fun _ _ => 0) ⟨#[], #[Value.slice none 0 0, .slice none 0 0], []⟩).memory Tryd.f5.params.toList Rows.treeLeadsSpec.vars false (#[Value.slice none 0 0, .slice none 0 0] : Array Value).toList 8 = some ([.nil, .nil], [], places) :=
  ⟨[], by kernel_rfl⟩
set_option maxRecDepth 100000 in
theorem treeLeads_lifted (os : Os) (started : os.Started) (H : Type) (enc : TypeId × Value → H) (F : Stop.Interp) :
    ReturnsInHanded {} Tryd.checked os 5 .any ((OpenSpec.ofChange Rows.treeLeadsSpec).preRow enc Tryd.prog Tryd.f5 Rows.treeLeadsRow.domain false Rows.treeLeadsRow.laid) (((OpenSpec.ofChange Rows.treeLeadsSpec).at F).post enc Tryd.prog Tryd.f5 false true false false) := by
  obtain ⟨places, hx⟩ := treeLeads_reads os enc
  refine returnsInHanded_of_row (C := Tryd.checked) (s := OpenSpec.ofChange Rows.treeLeadsSpec) Tryd.own started (by kernel_rfl) Tryd.func5
    (witness_row_at (enc := enc) (C := Tryd.checked) false (laidU os) #[Value.slice none 0 0, .slice none 0 0] rfl (by kernel_rfl) (by kernel_rfl) (by kernel_rfl)
      (OpenSpec.preRow_of_cond 8 hx (by kernel_rfl) (fun k hk => by cases hk) (by kernel_rfl) (treeLeads_met os))) ?_
  intro W base args ds gs before hval0 hW _ _ hsz0 _ hsh _
  have hsz : (DataW.weightsEach Tryd.prog (Tryd.f5.params.toList ++ (OpenSpec.ofChange Rows.treeLeadsSpec).bare.plain.varTypes Tryd.prog) (ds ++ gs)).all (· ≤ reachBytes) = true := hsz0
  clear hsz0
  have hval : ∀ (j : Nat) t v, Tryd.f5.params[j]? = some t → args[j]? = some v → Value.okWide Tryd.prog W .any base t v := hval0
  have hW' := hW
  obtain ⟨p, q, hA0, hV, rfl, _, _⟩ := hW
  have hA : DataW.TrodAll enc Tryd.prog W 0 (fun _ => true) true Tryd.f5.params.toList args.toList ds p := hA0
  have hA1 := hA
  rw [Tryd.params5] at hA hval hsz
  obtain ⟨v0, v1, d0, d1, p0, p1, rfl, rfl, rfl, q0, q1⟩ := trodAll_two hA
  obtain ⟨rfl, rfl⟩ := trodVars_none hV
  clear hA0 hval0
  have hm := Lm.shaped hsh
  obtain ⟨a0, z0, c0, rfl⟩ := okWide_slice Tryd.underlying22 (hval 0 22 v0 rfl rfl)
  obtain ⟨A0, k0, x0, e0, h0, l0⟩ := open_arg opens_files (j := 0) hsz rfl rfl q0
  cases e0
  obtain ⟨a1, z1, c1, rfl⟩ := okWide_slice Tryd.underlying22 (hval 1 22 v1 rfl rfl)
  obtain ⟨A1, k1, x1, e1, h1, l1⟩ := open_arg opens_files (j := 1) hsz rfl rfl q1
  cases e1
  refine (treeLeads_any l0 l1 hm h0 h1).mono fun e W' h => ?_
  exact post_true hW' hA1 rfl rfl (by rw [Tryd.params5]; kernel_rfl) rfl rfl rfl h

theorem treeLeads_said : Rows.TreeLeadsSaid :=
  OpenClaim.holds_of_cond 5 Tryd.f5 rfl rfl rfl rfl rfl rfl rfl ⟨rfl, rfl, rfl, rfl, rfl⟩ rfl rfl rfl rfl rfl (by kernel_rfl) Tryd.func5 (by kernel_rfl)
    (of_decide_eq_true (by kernel_rfl)) (by unfold Func.isWrapper; first | (rw [if_pos (by decide +kernel)]; kernel_rfl) | (rw [if_neg (by decide +kernel)]; exact ⟨rfl, rfl⟩))
    (fun os started H enc _ F => by rw [OpenClaim.pre_eq_preRow]; exact treeLeads_lifted os started H enc F)

theorem treeLeads_plain (f : FuncId) (fn : Func) (hf : Tryd.pinned.checked.prog.funcNamed "rick/ricklaw12.TreeLeads" = some f) (hfn : Tryd.pinned.checked.prog.funcs[f]? = some fn) :
    false = Tryd.pinned.checked.prog.looks [] ∧ ∀ (j : Nat) t, fn.params[j]? = some t → Tryd.pinned.checked.prog.wantsStandIn t = false := by
  obtain rfl : f = 5 := Option.some.inj ((show Tryd.prog.funcNamed "rick/ricklaw12.TreeLeads" = some 5 by kernel_rfl).symm.trans hf) |>.symm
  obtain rfl : fn = Tryd.f5 := (Option.some.inj (Tryd.func5.symm.trans hfn)).symm
  refine ⟨by kernel_rfl, fun j t ht => ?_⟩
  rw [Tryd.params5] at ht
  have h : t = 22 := by
    have := Array.mem_of_getElem? ht
    simp at this
    omega
  rcases h with rfl
  · exact (show Tryd.prog.wantsStandIn 22 = false by kernel_rfl)

theorem treeLeads_holds : Rows.TreeLeadsCardSaid :=
  Claim7.holds_tied_plain_at .later [] _ _ _ _ treeLeads_said (fun _ h => by cases h) (by kernel_rfl) (fun _ h => by cases h) treeLeads_row_tie rfl ⟨rfl, rfl⟩ (by kernel_rfl) rfl treeLeads_plain (by kernel_rfl)

#print axioms treeLeads_holds

end Go.Proofs.YtahlfafcjjkliaaDoor
