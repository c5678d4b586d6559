/- TreePuts answers true at every argument; the card ties the listed tables to the program's text. No conditions but the tables. -/
import Derived.Test.YtahlfafcjjkliaaDoorM3
import Derived.Test.YtahlfafcjjkliaaDoorArg4
namespace Go.Proofs.YtahlfafcjjkliaaDoor
open Go.ChangeShapes Go.WideShapes Go.ChangeAt Go.RowKit

theorem treePuts_met (os : Os) : laidMet Tryd.prog Rows.treePutsRow.laid ((laidU os).forCall (fun _ _ => 0) ⟨#[], #[Value.slice none 0 0, .agg #[.string ⟨#[]⟩, .bool false, .string ⟨#[]⟩], .string ⟨#[]⟩], []⟩).memory :=
  laidMet_of_run' 8 (by kernel_rfl) (by kernel_rfl)
theorem treePuts_reads (os : Os) {H : Type} (enc : TypeId × Value → H) : ∃ places, DataW.whole enc Tryd.prog ((laidU os).forCall (fun _ _ => 0) ⟨#[], #[Value.slice none 0 0, .agg #[.string ⟨#[]⟩, .bool false, .string ⟨#[]⟩], .string ⟨#[]⟩], []⟩).memory Tryd.f4.params.toList Rows.treePutsSpec.vars false (#[Value.slice none 0 0, .agg #[.string ⟨#[]⟩, .bool false, .string ⟨#[]⟩], .string ⟨#[]⟩] : Array Value).toList 8 = some ([.nil, .agg [.lit (.string []), .lit (.bool false), .lit (.string [])], .lit (.string [])], [], places) :=
  ⟨[], by kernel_rfl⟩
set_option maxRecDepth 100000 in
theorem treePuts_lifted (os : Os) (started : os.Started) (H : Type) (enc : TypeId × Value → H) (F : Stop.Interp) :
    ReturnsInHanded {} Tryd.checked os 4 .any ((OpenSpec.ofChange Rows.treePutsSpec).preRow enc Tryd.prog Tryd.f4 Rows.treePutsRow.domain false Rows.treePutsRow.laid) (((OpenSpec.ofChange Rows.treePutsSpec).at F).post enc Tryd.prog Tryd.f4 false true false false) := by
  obtain ⟨places, hx⟩ := treePuts_reads os enc
  refine returnsInHanded_of_row (C := Tryd.checked) (s := OpenSpec.ofChange Rows.treePutsSpec) Tryd.own started (by kernel_rfl) Tryd.func4
    (witness_row_at (enc := enc) (C := Tryd.checked) false (laidU os) #[Value.slice none 0 0, .agg #[.string ⟨#[]⟩, .bool false, .string ⟨#[]⟩], .string ⟨#[]⟩] rfl (by kernel_rfl) (by kernel_rfl) (by kernel_rfl)
      (OpenSpec.preRow_of_cond 8 hx (by kernel_rfl) (fun k hk => by cases hk) (by kernel_rfl) (treePuts_met os))) ?_
  intro W base args ds gs before hval0 hW _ _ hsz0 _ hsh _
  have hsz : (DataW.weightsEach Tryd.prog (Tryd.f4.params.toList ++ (OpenSpec.ofChange Rows.treePutsSpec).bare.plain.varTypes Tryd.prog) (ds ++ gs)).all (· ≤ reachBytes) = true := hsz0
  clear hsz0
  have hval : ∀ (j : Nat) t v, Tryd.f4.params[j]? = some t → args[j]? = some v → Value.okWide Tryd.prog W .any base t v := hval0
  have hW' := hW
  obtain ⟨p, q, hA0, hV, rfl, _, _⟩ := hW
  have hA : DataW.TrodAll enc Tryd.prog W 0 (fun _ => true) true Tryd.f4.params.toList args.toList ds p := hA0
  have hA1 := hA
  rw [Tryd.params4] at hA hval hsz
  obtain ⟨v0, v1, v2, d0, d1, d2, p0, p1, p2, rfl, rfl, rfl, q0, q1, q2⟩ := trodAll_three hA
  obtain ⟨rfl, rfl⟩ := trodVars_none hV
  clear hA0 hval0
  have hm := Lm.shaped hsh
  obtain ⟨a0, z0, c0, rfl⟩ := okWide_slice Tryd.underlying22 (hval 0 22 v0 rfl rfl)
  obtain ⟨A0, k0, x0, e0, h0, l0⟩ := open_arg opens_files (j := 0) hsz rfl rfl q0
  cases e0
  obtain ⟨cs1, rfl, _⟩ := okWide_struct Tryd.underlying24 (hval 1 24 v1 rfl rfl)
  obtain ⟨x1, e1, h1⟩ := open_arg opens_file (j := 1) hsz rfl rfl q1
  obtain rfl : cs1 = #[.string x1.path, .bool x1.exec, .string x1.text] := Array.toList_inj.1 e1
  obtain ⟨x2, rfl⟩ := okWide_string Tryd.underlying9 (hval 2 9 v2 rfl rfl)
  obtain ⟨y2, e2, h2⟩ := open_arg (opens_str Tryd.underlying9) (j := 2) hsz rfl rfl q2
  cases e2
  refine (treePuts_any l0 hm h0 h1).mono fun e W' h => ?_
  exact post_true hW' hA1 rfl rfl (by rw [Tryd.params4]; kernel_rfl) rfl rfl rfl h

theorem treePuts_said : Rows.TreePutsSaid :=
  OpenClaim.holds_of_cond 4 Tryd.f4 rfl rfl rfl rfl rfl rfl rfl ⟨rfl, rfl, rfl, rfl, rfl⟩ rfl rfl rfl rfl rfl (by kernel_rfl) Tryd.func4 (by kernel_rfl)
    (of_decide_eq_true (by kernel_rfl)) (by unfold Func.isWrapper; first | (rw [if_pos (by decide +kernel)]; kernel_rfl) | (rw [if_neg (by decide +kernel)]; exact ⟨rfl, rfl⟩))
    (fun os started H enc _ F => by rw [OpenClaim.pre_eq_preRow]; exact treePuts_lifted os started H enc F)

theorem treePuts_plain (f : FuncId) (fn : Func) (hf : Tryd.pinned.checked.prog.funcNamed "rick/ricklaw12.TreePuts" = some f) (hfn : Tryd.pinned.checked.prog.funcs[f]? = some fn) :
    false = Tryd.pinned.checked.prog.looks [] ∧ ∀ (j : Nat) t, fn.params[j]? = some t → Tryd.pinned.checked.prog.wantsStandIn t = false := by
  obtain rfl : f = 4 := Option.some.inj ((show Tryd.prog.funcNamed "rick/ricklaw12.TreePuts" = some 4 by kernel_rfl).symm.trans hf) |>.symm
  obtain rfl : fn = Tryd.f4 := (Option.some.inj (Tryd.func4.symm.trans hfn)).symm
  refine ⟨by kernel_rfl, fun j t ht => ?_⟩
  rw [Tryd.params4] at ht
  have h : t = 22 ∨ t = 24 ∨ t = 9 := by
    have := Array.mem_of_getElem? ht
    simp at this
    omega
  rcases h with rfl | rfl | rfl
  · exact (show Tryd.prog.wantsStandIn 22 = false by kernel_rfl)
  · exact (show Tryd.prog.wantsStandIn 24 = false by kernel_rfl)
  · exact (show Tryd.prog.wantsStandIn 9 = false by kernel_rfl)

theorem treePuts_holds : Rows.TreePutsCardSaid :=
  Claim7.holds_tied_plain_at .later [] _ _ _ _ treePuts_said (fun _ h => by cases h) (by kernel_rfl) (fun _ h => by cases h) treePuts_row_tie rfl ⟨rfl, rfl⟩ (by kernel_rfl) rfl treePuts_plain (by kernel_rfl)

#print axioms treePuts_holds

end Go.Proofs.YtahlfafcjjkliaaDoor
