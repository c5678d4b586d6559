/- TreeTells answers true at every argument; the card ties the listed tables to the program's text. No conditions but the tables. -/
import Derived.Test.YtahlfafcjjkliaaDoorL1
import Derived.Test.YtahlfafcjjkliaaDoorArg4
namespace Go.Proofs.YtahlfafcjjkliaaDoor
open Go.ChangeShapes Go.WideShapes Go.ChangeAt Go.RowKit

theorem treeTells_met (os : Os) : laidMet Tryd.prog Rows.treeTellsRow.laid ((laidU os).forCall (fun _ _ => 0) ⟨#[], #[Value.slice none 0 0, .slice none 0 0, .agg #[.string ⟨#[]⟩, .bool false, .string ⟨#[]⟩], .string ⟨#[]⟩], []⟩).memory :=
  laidMet_of_run' 8 (by kernel_rfl) (by kernel_rfl)
theorem treeTells_reads (os : Os) {H : Type} (enc : TypeId × Value → H) : ∃ places, DataW.whole enc Tryd.prog ((laidU os).forCall (fun _ _ => 0) ⟨#[], #[Value.slice none 0 0, .slice none 0 0, .agg #[.string ⟨#[]⟩, .bool false, .string ⟨#[]⟩], .string ⟨#[]⟩], []⟩).memory Tryd.f3.params.toList Rows.treeTellsSpec.vars false (#[Value.slice none 0 0, .slice none 0 0, .agg #[.string ⟨#[]⟩, .bool false, .string ⟨#[]⟩], .string ⟨#[]⟩] : Array Value).toList 8 = some ([.nil, .nil, .agg [.lit (.string []), .lit (.bool false), .lit (.string [])], .lit (.string [])], [], places) :=
  ⟨[], by kernel_rfl⟩
set_option maxRecDepth 100000 in
theorem treeTells_lifted (os : Os) (started : os.Started) (H : Type) (enc : TypeId × Value → H) (F : Stop.Interp) :
    ReturnsInHanded {} Tryd.checked os 3 .any ((OpenSpec.ofChange Rows.treeTellsSpec).preRow enc Tryd.prog Tryd.f3 Rows.treeTellsRow.domain false Rows.treeTellsRow.laid) (((OpenSpec.ofChange Rows.treeTellsSpec).at F).post enc Tryd.prog Tryd.f3 false true false false) := by
  obtain ⟨places, hx⟩ := treeTells_reads os enc
  refine returnsInHanded_of_row (C := Tryd.checked) (s := OpenSpec.ofChange Rows.treeTellsSpec) Tryd.own started (by kernel_rfl) Tryd.func3
    (witness_row_at (enc := enc) (C := Tryd.checked) false (laidU os) #[Value.slice none 0 0, .slice none 0 0, .agg #[.string ⟨#[]⟩, .bool false, .string ⟨#[]⟩], .string ⟨#[]⟩] rfl (by kernel_rfl) (by kernel_rfl) (by kernel_rfl)
      (OpenSpec.preRow_of_cond 8 hx (by kernel_rfl) (fun k hk => by cases hk) (by kernel_rfl) (treeTells_met os))) ?_
  intro W base args ds gs before hval0 hW _ _ hsz0 _ hsh _
  have hsz : (DataW.weightsEach Tryd.prog (Tryd.f3.params.toList ++ (OpenSpec.ofChange Rows.treeTellsSpec).bare.plain.varTypes Tryd.prog) (ds ++ gs)).all (· ≤ reachBytes) = true := hsz0
  clear hsz0
  have hval : ∀ (j : Nat) t v, Tryd.f3.params[j]? = some t → args[j]? = some v → Value.okWide Tryd.prog W .any base t v := hval0
  have hW' := hW
  obtain ⟨p, q, hA0, hV, rfl, _, _⟩ := hW
  have hA : DataW.TrodAll enc Tryd.prog W 0 (fun _ => true) true Tryd.f3.params.toList args.toList ds p := hA0
  have hA1 := hA
  rw [Tryd.params3] at hA hval hsz
  obtain ⟨v0, v1, v2, v3, d0, d1, d2, d3, p0, p1, p2, p3, rfl, rfl, rfl, q0, q1, q2, q3⟩ := trodAll_four hA
  obtain ⟨rfl, rfl⟩ := trodVars_none hV
  clear hA0 hval0
  have hm := Lm.shaped hsh
  obtain ⟨a0, z0, c0, rfl⟩ := okWide_slice Tryd.underlying22 (hval 0 22 v0 rfl rfl)
  obtain ⟨A0, k0, x0, e0, h0, l0⟩ := open_arg opens_files (j := 0) hsz rfl rfl q0
  cases e0
  obtain ⟨a1, z1, c1, rfl⟩ := okWide_slice Tryd.underlying22 (hval 1 22 v1 rfl rfl)
  obtain ⟨A1, k1, x1, e1, h1, l1⟩ := open_arg opens_files (j := 1) hsz rfl rfl q1
  cases e1
  obtain ⟨cs2, rfl, _⟩ := okWide_struct Tryd.underlying24 (hval 2 24 v2 rfl rfl)
  obtain ⟨x2, e2, h2⟩ := open_arg opens_file (j := 2) hsz rfl rfl q2
  obtain rfl : cs2 = #[.string x2.path, .bool x2.exec, .string x2.text] := Array.toList_inj.1 e2
  obtain ⟨x3, rfl⟩ := okWide_string Tryd.underlying9 (hval 3 9 v3 rfl rfl)
  obtain ⟨y3, e3, h3⟩ := open_arg (opens_str Tryd.underlying9) (j := 3) hsz rfl rfl q3
  cases e3
  refine (treeTells_any l0 l1 hm h0 h1 h2).mono fun e W' h => ?_
  exact post_true hW' hA1 rfl rfl (by rw [Tryd.params3]; kernel_rfl) rfl rfl rfl h

theorem treeTells_said : Rows.TreeTellsSaid :=
  OpenClaim.holds_of_cond 3 Tryd.f3 rfl rfl rfl rfl rfl rfl rfl ⟨rfl, rfl, rfl, rfl, rfl⟩ rfl rfl rfl rfl rfl (by kernel_rfl) Tryd.func3 (by kernel_rfl)
    (of_decide_eq_true (by kernel_rfl)) (by unfold Func.isWrapper; first | (rw [if_pos (by decide +kernel)]; kernel_rfl) | (rw [if_neg (by decide +kernel)]; exact ⟨rfl, rfl⟩))
    (fun os started H enc _ F => by rw [OpenClaim.pre_eq_preRow]; exact treeTells_lifted os started H enc F)

theorem treeTells_plain (f : FuncId) (fn : Func) (hf : Tryd.pinned.checked.prog.funcNamed "rick/ricklaw12.TreeTells" = some f) (hfn : Tryd.pinned.checked.prog.funcs[f]? = some fn) :
    false = Tryd.pinned.checked.prog.looks [] ∧ ∀ (j : Nat) t, fn.params[j]? = some t → Tryd.pinned.checked.prog.wantsStandIn t = false := by
  obtain rfl : f = 3 := Option.some.inj ((show Tryd.prog.funcNamed "rick/ricklaw12.TreeTells" = some 3 by kernel_rfl).symm.trans hf) |>.symm
  obtain rfl : fn = Tryd.f3 := (Option.some.inj (Tryd.func3.symm.trans hfn)).symm
  refine ⟨by kernel_rfl, fun j t ht => ?_⟩
  rw [Tryd.params3] at ht
  have h : t = 22 ∨ t = 24 ∨ t = 9 := by
    have := Array.mem_of_getElem? ht
    simp at this
    omega
  rcases h with rfl | rfl | rfl
  · exact (show Tryd.prog.wantsStandIn 22 = false by kernel_rfl)
  · exact (show Tryd.prog.wantsStandIn 24 = false by kernel_rfl)
  · exact (show Tryd.prog.wantsStandIn 9 = false by kernel_rfl)

theorem treeTells_holds : Rows.TreeTellsCardSaid :=
  Claim7.holds_tied_plain_at .later [] _ _ _ _ treeTells_said (fun _ h => by cases h) (by kernel_rfl) (fun _ h => by cases h) treeTells_row_tie rfl ⟨rfl, rfl⟩ (by kernel_rfl) rfl treeTells_plain (by kernel_rfl)

#print axioms treeTells_holds

end Go.Proofs.YtahlfafcjjkliaaDoor
