/- TreeFull answers true at every argument; the card ties the listed tables to the program's text. No conditions but the tables. -/
import Derived.Test.YtahlfafcjjkliaaDoorM11
import Derived.Test.YtahlfafcjjkliaaDoorArg4
namespace Go.Proofs.YtahlfafcjjkliaaDoor
open Go.ChangeShapes Go.WideShapes Go.ChangeAt Go.RowKit

theorem treeFull_met (os : Os) : laidMet Tryd.prog Rows.treeFullRow.laid ((laidU os).forCall (fun _ _ => 0) ⟨#[], #[Value.int .i64 0], []⟩).memory :=
  laidMet_of_run' 8 (by kernel_rfl) (by kernel_rfl)
theorem treeFull_reads (os : Os) {H : Type} (enc : TypeId × Value → H) : ∃ places, DataW.whole enc Tryd.prog ((laidU os).forCall (fun _ _ => 0) ⟨#[], #[Value.int .i64 0], []⟩).memory Tryd.f7.params.toList Rows.treeFullSpec.vars false (#[Value.int .i64 0] : Array Value).toList 8 = some ([.lit (.int .i64 0)], [], places) :=
  ⟨[], by kernel_rfl⟩
set_option maxRecDepth 100000 in
theorem treeFull_lifted (os : Os) (started : os.Started) (H : Type) (enc : TypeId × Value → H) (F : Stop.Interp) :
    ReturnsInHanded {} Tryd.checked os 7 .any ((OpenSpec.ofChange Rows.treeFullSpec).preRow enc Tryd.prog Tryd.f7 Rows.treeFullRow.domain false Rows.treeFullRow.laid) (((OpenSpec.ofChange Rows.treeFullSpec).at F).post enc Tryd.prog Tryd.f7 false true false false) := by
  obtain ⟨places, hx⟩ := treeFull_reads os enc
  refine returnsInHanded_of_row (C := Tryd.checked) (s := OpenSpec.ofChange Rows.treeFullSpec) Tryd.own started (by kernel_rfl) Tryd.func7
    (witness_row_at (enc := enc) (C := Tryd.checked) false (laidU os) #[Value.int .i64 0] rfl (by kernel_rfl) (by kernel_rfl) (by kernel_rfl)
      (OpenSpec.preRow_of_cond 8 hx (by kernel_rfl) (fun k hk => by cases hk) (by kernel_rfl) (treeFull_met os))) ?_
  intro W base args ds gs before hval0 hW _ _ hsz0 _ hsh _
  have hsz : (DataW.weightsEach Tryd.prog (Tryd.f7.params.toList ++ (OpenSpec.ofChange Rows.treeFullSpec).bare.plain.varTypes Tryd.prog) (ds ++ gs)).all (· ≤ reachBytes) = true := hsz0
  clear hsz0
  have hval : ∀ (j : Nat) t v, Tryd.f7.params[j]? = some t → args[j]? = some v → Value.okWide Tryd.prog W .any base t v := hval0
  have hW' := hW
  obtain ⟨p, q, hA0, hV, rfl, _, _⟩ := hW
  have hA : DataW.TrodAll enc Tryd.prog W 0 (fun _ => true) true Tryd.f7.params.toList args.toList ds p := hA0
  have hA1 := hA
  rw [Tryd.params7] at hA hval hsz
  obtain ⟨v0, d0, rfl, rfl, q0⟩ := trodAll_one hA
  obtain ⟨rfl, rfl⟩ := trodVars_none hV
  clear hA0 hval0
  have hm := Lm.shaped hsh
  obtain ⟨x0, rfl⟩ := okWide_int Tryd.underlying3 (hval 0 3 v0 rfl rfl)
  obtain ⟨y0, e0, h0⟩ := open_arg (opens_int Tryd.underlying3) (j := 0) hsz rfl rfl q0
  cases e0
  refine (treeFull_any hm).mono fun e W' h => ?_
  exact post_true hW' hA1 rfl rfl (by rw [Tryd.params7]; kernel_rfl) rfl rfl rfl h

theorem treeFull_said : Rows.TreeFullSaid :=
  OpenClaim.holds_of_cond 7 Tryd.f7 rfl rfl rfl rfl rfl rfl rfl ⟨rfl, rfl, rfl, rfl, rfl⟩ rfl rfl rfl rfl rfl (by kernel_rfl) Tryd.func7 (by kernel_rfl)
    (of_decide_eq_true (by kernel_rfl)) (by unfold Func.isWrapper; first | (rw [if_pos (by decide +kernel)]; kernel_rfl) | (rw [if_neg (by decide +kernel)]; exact ⟨rfl, rfl⟩))
    (fun os started H enc _ F => by rw [OpenClaim.pre_eq_preRow]; exact treeFull_lifted os started H enc F)

theorem treeFull_plain (f : FuncId) (fn : Func) (hf : Tryd.pinned.checked.prog.funcNamed "rick/ricklaw12.TreeFull" = some f) (hfn : Tryd.pinned.checked.prog.funcs[f]? = some fn) :
    false = Tryd.pinned.checked.prog.looks [] ∧ ∀ (j : Nat) t, fn.params[j]? = some t → Tryd.pinned.checked.prog.wantsStandIn t = false := by
  obtain rfl : f = 7 := Option.some.inj ((show Tryd.prog.funcNamed "rick/ricklaw12.TreeFull" = some 7 by kernel_rfl).symm.trans hf) |>.symm
  obtain rfl : fn = Tryd.f7 := (Option.some.inj (Tryd.func7.symm.trans hfn)).symm
  refine ⟨by kernel_rfl, fun j t ht => ?_⟩
  rw [Tryd.params7] at ht
  have h : t = 3 := by
    have := Array.mem_of_getElem? ht
    simp at this
    omega
  rcases h with rfl
  · exact (show Tryd.prog.wantsStandIn 3 = false by kernel_rfl)

theorem treeFull_holds : Rows.TreeFullCardSaid :=
  Claim7.holds_tied_plain_at .later [] _ _ _ _ treeFull_said (fun _ h => by cases h) (by kernel_rfl) (fun _ h => by cases h) treeFull_row_tie rfl ⟨rfl, rfl⟩ (by kernel_rfl) rfl treeFull_plain (by kernel_rfl)

#print axioms treeFull_holds

end Go.Proofs.YtahlfafcjjkliaaDoor
