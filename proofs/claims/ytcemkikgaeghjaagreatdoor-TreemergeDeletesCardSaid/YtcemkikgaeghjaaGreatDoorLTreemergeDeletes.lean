/- TreemergeDeletes answers true at every argument; the card ties the listed tables to the program's text. No conditions but the tables. -/
import Derived.Test.YtcemkikgaeghjaaGreatDoorG34
import Derived.Test.YtcemkikgaeghjaaGreatDoorG35
namespace Go.Proofs.YtcemkikgaeghjaaGreatDoor
open Go.ChangeShapes Go.WideShapes Go.ChangeAt Go.RowKit

theorem treemergeDeletes_met (os : Os) : laidMet Tryz.prog Rows.treemergeDeletesRow.laid ((laidU os).forCall (fun _ _ => 0) ⟨#[], #[Value.agg #[.string ⟨#[]⟩, .bool false, .string ⟨#[]⟩], .string ⟨#[]⟩], []⟩).memory :=
  laidMet_of_run' 8 (by kernel_rfl) (by kernel_rfl)
theorem treemergeDeletes_reads (os : Os) {H : Type} (enc : TypeId × Value → H) : ∃ places, DataW.whole enc Tryz.prog ((laidU os).forCall (fun _ _ => 0) ⟨#[], #[Value.agg #[.string ⟨#[]⟩, .bool false, .string ⟨#[]⟩], .string ⟨#[]⟩], []⟩).memory Tryz.f7.params.toList Rows.treemergeDeletesSpec.vars false (#[Value.agg #[.string ⟨#[]⟩, .bool false, .string ⟨#[]⟩], .string ⟨#[]⟩] : Array Value).toList 8 = some ([.agg [.lit (.string []), .lit (.bool false), .lit (.string [])], .lit (.string [])], [], places) :=
  ⟨[], by kernel_rfl⟩
set_option maxRecDepth 100000 in
theorem treemergeDeletes_lifted (os : Os) (started : os.Started) (H : Type) (enc : TypeId × Value → H) (F : Stop.Interp) :
    ReturnsInHanded {} Tryz.checked os 7 .any ((OpenSpec.ofChange Rows.treemergeDeletesSpec).preRow enc Tryz.prog Tryz.f7 Rows.treemergeDeletesRow.domain false Rows.treemergeDeletesRow.laid) (((OpenSpec.ofChange Rows.treemergeDeletesSpec).at F).post enc Tryz.prog Tryz.f7 false true false false) := by
  obtain ⟨places, hx⟩ := treemergeDeletes_reads os enc
  refine returnsInHanded_of_row (C := Tryz.checked) (s := OpenSpec.ofChange Rows.treemergeDeletesSpec) Tryz.own started (by kernel_rfl) Tryz.func7
    (witness_row_at (enc := enc) (C := Tryz.checked) false (laidU os) #[Value.agg #[.string ⟨#[]⟩, .bool false, .string ⟨#[]⟩], .string ⟨#[]⟩] rfl (by kernel_rfl) (by kernel_rfl) (by kernel_rfl)
      (OpenSpec.preRow_of_cond 8 hx (by kernel_rfl) (fun k hk => by cases hk) (by kernel_rfl) (treemergeDeletes_met os))) ?_
  intro W base args ds gs before hval0 hW _ _ hsz0 _ hsh _
  have hsz : (DataW.weightsEach Tryz.prog (Tryz.f7.params.toList ++ (OpenSpec.ofChange Rows.treemergeDeletesSpec).bare.plain.varTypes Tryz.prog) (ds ++ gs)).all (· ≤ reachBytes) = true := hsz0
  clear hsz0
  have hval : ∀ (j : Nat) t v, Tryz.f7.params[j]? = some t → args[j]? = some v → Value.okWide Tryz.prog W .any base t v := hval0
  have hW' := hW
  obtain ⟨p, q, hA0, hV, rfl, _, _⟩ := hW
  have hA : DataW.TrodAll enc Tryz.prog W 0 (fun _ => true) true Tryz.f7.params.toList args.toList ds p := hA0
  have hA1 := hA
  rw [Tryz.params7] at hA hval hsz
  obtain ⟨v0, v1, d0, d1, p0, p1, rfl, rfl, rfl, q0, q1⟩ := trodAll_two hA
  obtain ⟨rfl, rfl⟩ := trodVars_none hV
  clear hA0 hval0
  have hm := Lm.shaped hsh
  obtain ⟨cs0, rfl, _⟩ := okWide_struct Tryz.underlying28 (hval 0 28 v0 rfl rfl)
  obtain ⟨x0, e0, h0⟩ := open_arg opens_file (j := 0) hsz rfl rfl q0
  obtain rfl : cs0 = #[.string x0.path, .bool x0.exec, .string x0.text] := Array.toList_inj.1 e0
  obtain ⟨x1, rfl⟩ := okWide_string Tryz.underlying9 (hval 1 9 v1 rfl rfl)
  obtain ⟨y1, e1, h1⟩ := open_arg (opens_str Tryz.underlying9) (j := 1) hsz rfl rfl q1
  cases e1
  refine (deletes_any hm h0 h1).mono fun e W' h => ?_
  exact post_true hW' hA1 rfl rfl (by rw [Tryz.params7]; kernel_rfl) rfl rfl rfl h

theorem treemergeDeletes_said : Rows.TreemergeDeletesSaid :=
  OpenClaim.holds_of_cond 7 Tryz.f7 rfl rfl rfl rfl rfl rfl rfl ⟨rfl, rfl, rfl, rfl, rfl⟩ rfl rfl rfl rfl rfl (by kernel_rfl) Tryz.func7 (by kernel_rfl)
    (of_decide_eq_true (by kernel_rfl)) (by unfold Func.isWrapper; first | (rw [if_pos (by decide +kernel)]; kernel_rfl) | (rw [if_neg (by decide +kernel)]; exact ⟨rfl, rfl⟩))
    (fun os started H enc _ F => by rw [OpenClaim.pre_eq_preRow]; exact treemergeDeletes_lifted os started H enc F)

theorem treemergeDeletes_plain (f : FuncId) (fn : Func) (hf : Tryz.pinned.checked.prog.funcNamed "rick/ricklaw14.TreemergeDeletes" = some f) (hfn : Tryz.pinned.checked.prog.funcs[f]? = some fn) :
    false = Tryz.pinned.checked.prog.looks [] ∧ ∀ (j : Nat) t, fn.params[j]? = some t → Tryz.pinned.checked.prog.wantsStandIn t = false := by
  obtain rfl : f = 7 := Option.some.inj ((show Tryz.prog.funcNamed "rick/ricklaw14.TreemergeDeletes" = some 7 by kernel_rfl).symm.trans hf) |>.symm
  obtain rfl : fn = Tryz.f7 := (Option.some.inj (Tryz.func7.symm.trans hfn)).symm
  refine ⟨by kernel_rfl, fun j t ht => ?_⟩
  rw [Tryz.params7] at ht
  have h : t = 28 ∨ t = 9 := by
    have := Array.mem_of_getElem? ht
    simp at this
    first | exact this | omega
  rcases h with rfl | rfl
  · exact (show Tryz.prog.wantsStandIn 28 = false by kernel_rfl)
  · exact (show Tryz.prog.wantsStandIn 9 = false by kernel_rfl)

theorem treemergeDeletes_holds : Rows.TreemergeDeletesCardSaid :=
  Claim7.holds_tied_plain_at .later [] _ _ _ _ treemergeDeletes_said (fun _ h => by cases h) (by kernel_rfl) (fun _ h => by cases h) treemergeDeletes_row_tie rfl ⟨rfl, rfl⟩ (by kernel_rfl) rfl treemergeDeletes_plain (by kernel_rfl)

#print axioms treemergeDeletes_holds

end Go.Proofs.YtcemkikgaeghjaaGreatDoor
