/- ChangeTells answers true at every argument; the card ties the listed tables to the program's text. No conditions but the tables. -/
import Derived.Test.YtahlfafcjjkliaaGreatDoorZ7
import Derived.Test.YtahlfafcjjkliaaGreatDoorArg4
import Derived.Test.YtahlfafcjjkliaaGreatDoorCN
import Derived.Test.YtahlfafcjjkliaaGreatDoorZM
namespace Go.Proofs.YtahlfafcjjkliaaGreatDoor
open Go.ChangeShapes Go.WideShapes Go.ChangeAt Go.RowKit

theorem changeTells_met (os : Os) : laidMet Tryz.prog Rows.changeTellsRow.laid ((laidU os).forCall (fun _ _ => 0) ⟨#[], #[Value.slice none 0 0, .slice none 0 0, .slice none 0 0, .slice none 0 0, .slice none 0 0, .string ⟨#[]⟩, .bool false], []⟩).memory :=
  laidMet_of_run' 8 (by kernel_rfl) (by kernel_rfl)
theorem changeTells_reads (os : Os) {H : Type} (enc : TypeId × Value → H) : ∃ places, DataW.whole enc Tryz.prog ((laidU os).forCall (fun _ _ => 0) ⟨#[], #[Value.slice none 0 0, .slice none 0 0, .slice none 0 0, .slice none 0 0, .slice none 0 0, .string ⟨#[]⟩, .bool false], []⟩).memory Tryz.f4.params.toList Rows.changeTellsSpec.vars false (#[Value.slice none 0 0, .slice none 0 0, .slice none 0 0, .slice none 0 0, .slice none 0 0, .string ⟨#[]⟩, .bool false] : Array Value).toList 8 = some ([.nil, .nil, .nil, .nil, .nil, .lit (.string []), .lit (.bool false)], [], places) :=
  ⟨[], by kernel_rfl⟩
set_option maxRecDepth 100000 in
theorem changeTells_lifted (os : Os) (started : os.Started) (H : Type) (enc : TypeId × Value → H) (F : Stop.Interp) :
    ReturnsInHanded {} Tryz.checked os 4 .any ((OpenSpec.ofChange Rows.changeTellsSpec).preRow enc Tryz.prog Tryz.f4 Rows.changeTellsRow.domain false Rows.changeTellsRow.laid) (((OpenSpec.ofChange Rows.changeTellsSpec).at F).post enc Tryz.prog Tryz.f4 false true false false) := by
  obtain ⟨places, hx⟩ := changeTells_reads os enc
  refine returnsInHanded_of_row (C := Tryz.checked) (s := OpenSpec.ofChange Rows.changeTellsSpec) Tryz.own started (by kernel_rfl) Tryz.func4
    (witness_row_at (enc := enc) (C := Tryz.checked) false (laidU os) #[Value.slice none 0 0, .slice none 0 0, .slice none 0 0, .slice none 0 0, .slice none 0 0, .string ⟨#[]⟩, .bool false] rfl (by kernel_rfl) (by kernel_rfl) (by kernel_rfl)
      (OpenSpec.preRow_of_cond 8 hx (by kernel_rfl) (fun k hk => by cases hk) (by kernel_rfl) (changeTells_met os))) ?_
  intro W base args ds gs before hval0 hW _ _ hsz0 _ hsh _
  have hsz : (DataW.weightsEach Tryz.prog (Tryz.f4.params.toList ++ (OpenSpec.ofChange Rows.changeTellsSpec).bare.plain.varTypes Tryz.prog) (ds ++ gs)).all (· ≤ reachBytes) = true := hsz0
  clear hsz0
  have hval : ∀ (j : Nat) t v, Tryz.f4.params[j]? = some t → args[j]? = some v → Value.okWide Tryz.prog W .any base t v := hval0
  have hW' := hW
  obtain ⟨p, q, hA0, hV, rfl, _, _⟩ := hW
  have hA : DataW.TrodAll enc Tryz.prog W 0 (fun _ => true) true Tryz.f4.params.toList args.toList ds p := hA0
  have hA1 := hA
  rw [Tryz.params4] at hA hval hsz
  obtain ⟨v0, v1, v2, v3, v4, v5, v6, d0, d1, d2, d3, d4, d5, d6, p0, p1, p2, p3, p4, p5, p6, rfl, rfl, rfl, q0, q1, q2, q3, q4, q5, q6⟩ := trodAll_seven hA
  obtain ⟨rfl, rfl⟩ := trodVars_none hV
  clear hA0 hval0
  have hm := Lm.shaped hsh
  obtain ⟨a0, z0, c0, rfl⟩ := okWide_slice Tryz.underlying22 (hval 0 22 v0 rfl rfl)
  obtain ⟨A0, k0, x0, e0, h0, l0⟩ := open_arg opens_files (j := 0) hsz rfl rfl q0
  cases e0
  obtain ⟨a1, z1, c1, rfl⟩ := okWide_slice Tryz.underlying22 (hval 1 22 v1 rfl rfl)
  obtain ⟨A1, k1, x1, e1, h1, l1⟩ := open_arg opens_files (j := 1) hsz rfl rfl q1
  cases e1
  obtain ⟨a2, z2, c2, rfl⟩ := okWide_slice Tryz.underlying24 (hval 2 24 v2 rfl rfl)
  obtain ⟨A2, k2, x2, e2, h2, f2, l2⟩ := open_arg opens_strs (j := 2) hsz rfl rfl q2
  cases e2
  obtain ⟨a3, z3, c3, rfl⟩ := okWide_slice Tryz.underlying41 (hval 3 41 v3 rfl rfl)
  obtain ⟨A3, k3, x3, e3, h3, l3⟩ := open_arg opens_stack (j := 3) hsz rfl rfl q3
  cases e3
  obtain ⟨a4, z4, c4, rfl⟩ := okWide_slice Tryz.underlying23 (hval 4 23 v4 rfl rfl)
  obtain ⟨A4, k4, x4, e4, h4, l4⟩ := open_arg opens_chgs (j := 4) hsz rfl rfl q4
  cases e4
  obtain ⟨x5, rfl⟩ := okWide_string Tryz.underlying9 (hval 5 9 v5 rfl rfl)
  obtain ⟨y5, e5, h5⟩ := open_arg (opens_str Tryz.underlying9) (j := 5) hsz rfl rfl q5
  cases e5
  obtain ⟨x6, rfl⟩ := okWide_bool Tryz.underlying4 (hval 6 4 v6 rfl rfl)
  obtain ⟨y6, e6⟩ := open_arg (opens_bool Tryz.underlying4) (j := 6) hsz rfl rfl q6
  cases e6
  refine (changeTells_any hm l0 l1 l4 l2 l3 h0 h1 h2 f2 h3 h4).mono fun e W' h => ?_
  exact post_true hW' hA1 rfl rfl (by rw [Tryz.params4]; kernel_rfl) rfl rfl rfl h

theorem changeTells_said : Rows.ChangeTellsSaid :=
  OpenClaim.holds_of_cond 4 Tryz.f4 rfl rfl rfl rfl rfl rfl rfl ⟨rfl, rfl, rfl, rfl, rfl⟩ rfl rfl rfl rfl rfl (by kernel_rfl) Tryz.func4 (by kernel_rfl)
    (of_decide_eq_true (by kernel_rfl)) (by unfold Func.isWrapper; first | (rw [if_pos (by decide +kernel)]; kernel_rfl) | (rw [if_neg (by decide +kernel)]; exact ⟨rfl, rfl⟩))
    (fun os started H enc _ F => by rw [OpenClaim.pre_eq_preRow]; exact changeTells_lifted os started H enc F)

theorem changeTells_plain (f : FuncId) (fn : Func) (hf : Tryz.pinned.checked.prog.funcNamed "rick/ricklaw22.ChangeTells" = some f) (hfn : Tryz.pinned.checked.prog.funcs[f]? = some fn) :
    false = Tryz.pinned.checked.prog.looks [] ∧ ∀ (j : Nat) t, fn.params[j]? = some t → Tryz.pinned.checked.prog.wantsStandIn t = false := by
  obtain rfl : f = 4 := Option.some.inj ((show Tryz.prog.funcNamed "rick/ricklaw22.ChangeTells" = some 4 by kernel_rfl).symm.trans hf) |>.symm
  obtain rfl : fn = Tryz.f4 := (Option.some.inj (Tryz.func4.symm.trans hfn)).symm
  refine ⟨by kernel_rfl, fun j t ht => ?_⟩
  rw [Tryz.params4] at ht
  have h : t = 22 ∨ t = 24 ∨ t = 41 ∨ t = 23 ∨ t = 9 ∨ t = 4 := by
    have := Array.mem_of_getElem? ht
    simp at this
    first | exact this | omega
  rcases h with rfl | rfl | rfl | rfl | rfl | rfl
  · exact (show Tryz.prog.wantsStandIn 22 = false by kernel_rfl)
  · exact (show Tryz.prog.wantsStandIn 24 = false by kernel_rfl)
  · exact (show Tryz.prog.wantsStandIn 41 = false by kernel_rfl)
  · exact (show Tryz.prog.wantsStandIn 23 = false by kernel_rfl)
  · exact (show Tryz.prog.wantsStandIn 9 = false by kernel_rfl)
  · exact (show Tryz.prog.wantsStandIn 4 = false by kernel_rfl)

theorem changeTells_holds : Rows.ChangeTellsCardSaid :=
  Claim7.holds_tied_plain_at .later [] _ _ _ _ changeTells_said (fun _ h => by cases h) (by kernel_rfl) (fun _ h => by cases h) changeTells_row_tie rfl ⟨rfl, rfl⟩ (by kernel_rfl) rfl changeTells_plain (by kernel_rfl)

#print axioms changeTells_holds

end Go.Proofs.YtahlfafcjjkliaaGreatDoor
