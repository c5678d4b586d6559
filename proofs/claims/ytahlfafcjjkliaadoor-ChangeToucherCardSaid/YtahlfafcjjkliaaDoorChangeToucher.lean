/- ChangeToucher answers true at every argument; the card ties the listed tables to the program's text. No conditions but the tables. -/
import Derived.Test.YtahlfafcjjkliaaDoorC2
import Derived.Test.YtahlfafcjjkliaaDoorArg4
import Derived.Test.YtahlfafcjjkliaaDoorCN
namespace Go.Proofs.YtahlfafcjjkliaaDoor
open Go.ChangeShapes Go.WideShapes Go.ChangeAt Go.RowKit

theorem changeToucher_met (os : Os) : laidMet Tryd.prog Rows.changeToucherRow.laid ((laidU os).forCall (fun _ _ => 0) ⟨#[], #[Value.slice none 0 0, .string ⟨#[]⟩], []⟩).memory :=
  laidMet_of_run' 8 (by kernel_rfl) (by kernel_rfl)
theorem changeToucher_reads (os : Os) {H : Type} (enc : TypeId × Value → H) : ∃ places, DataW.whole enc Tryd.prog ((laidU os).forCall (fun _ _ => 0) ⟨#[], #[Value.slice none 0 0, .string ⟨#[]⟩], []⟩).memory Tryd.f9.params.toList Rows.changeToucherSpec.vars false (#[Value.slice none 0 0, .string ⟨#[]⟩] : Array Value).toList 8 = some ([.nil, .lit (.string [])], [], places) :=
  ⟨[], by kernel_rfl⟩
set_option maxRecDepth 100000 in
theorem changeToucher_lifted (os : Os) (started : os.Started) (H : Type) (enc : TypeId × Value → H) (F : Stop.Interp) :
    ReturnsInHanded {} Tryd.checked os 9 .any ((OpenSpec.ofChange Rows.changeToucherSpec).preRow enc Tryd.prog Tryd.f9 Rows.changeToucherRow.domain false Rows.changeToucherRow.laid) (((OpenSpec.ofChange Rows.changeToucherSpec).at F).post enc Tryd.prog Tryd.f9 false true false false) := by
  obtain ⟨places, hx⟩ := changeToucher_reads os enc
  refine returnsInHanded_of_row (C := Tryd.checked) (s := OpenSpec.ofChange Rows.changeToucherSpec) Tryd.own started (by kernel_rfl) Tryd.func9
    (witness_row_at (enc := enc) (C := Tryd.checked) false (laidU os) #[Value.slice none 0 0, .string ⟨#[]⟩] rfl (by kernel_rfl) (by kernel_rfl) (by kernel_rfl)
      (OpenSpec.preRow_of_cond 8 hx (by kernel_rfl) (fun k hk => by cases hk) (by kernel_rfl) (changeToucher_met os))) ?_
  intro W base args ds gs before hval0 hW _ _ hsz0 _ hsh _
  have hsz : (DataW.weightsEach Tryd.prog (Tryd.f9.params.toList ++ (OpenSpec.ofChange Rows.changeToucherSpec).bare.plain.varTypes Tryd.prog) (ds ++ gs)).all (· ≤ reachBytes) = true := hsz0
  clear hsz0
  have hval : ∀ (j : Nat) t v, Tryd.f9.params[j]? = some t → args[j]? = some v → Value.okWide Tryd.prog W .any base t v := hval0
  have hW' := hW
  obtain ⟨p, q, hA0, hV, rfl, _, _⟩ := hW
  have hA : DataW.TrodAll enc Tryd.prog W 0 (fun _ => true) true Tryd.f9.params.toList args.toList ds p := hA0
  have hA1 := hA
  rw [Tryd.params9] at hA hval hsz
  obtain ⟨v0, v1, d0, d1, p0, p1, rfl, rfl, rfl, q0, q1⟩ := trodAll_two hA
  obtain ⟨rfl, rfl⟩ := trodVars_none hV
  clear hA0 hval0
  have hm := Lm.shaped hsh
  obtain ⟨a0, z0, c0, rfl⟩ := okWide_slice Tryd.underlying52 (hval 0 52 v0 rfl rfl)
  obtain ⟨A0, k0, x0, e0, h0, l0⟩ := open_arg opens_stack (j := 0) hsz rfl rfl q0
  cases e0
  obtain ⟨x1, rfl⟩ := okWide_string Tryd.underlying9 (hval 1 9 v1 rfl rfl)
  obtain ⟨y1, e1, h1⟩ := open_arg (opens_str Tryd.underlying9) (j := 1) hsz rfl rfl q1
  cases e1
  refine (changeToucher_any hm l0 h0).mono fun e W' h => ?_
  exact post_true hW' hA1 rfl rfl (by rw [Tryd.params9]; kernel_rfl) rfl rfl rfl h

theorem changeToucher_said : Rows.ChangeToucherSaid :=
  OpenClaim.holds_of_cond 9 Tryd.f9 rfl rfl rfl rfl rfl rfl rfl ⟨rfl, rfl, rfl, rfl, rfl⟩ rfl rfl rfl rfl rfl (by kernel_rfl) Tryd.func9 (by kernel_rfl)
    (of_decide_eq_true (by kernel_rfl)) (by unfold Func.isWrapper; first | (rw [if_pos (by decide +kernel)]; kernel_rfl) | (rw [if_neg (by decide +kernel)]; exact ⟨rfl, rfl⟩))
    (fun os started H enc _ F => by rw [OpenClaim.pre_eq_preRow]; exact changeToucher_lifted os started H enc F)

theorem changeToucher_plain (f : FuncId) (fn : Func) (hf : Tryd.pinned.checked.prog.funcNamed "rick/ricklaw22.ChangeToucher" = some f) (hfn : Tryd.pinned.checked.prog.funcs[f]? = some fn) :
    false = Tryd.pinned.checked.prog.looks [] ∧ ∀ (j : Nat) t, fn.params[j]? = some t → Tryd.pinned.checked.prog.wantsStandIn t = false := by
  obtain rfl : f = 9 := Option.some.inj ((show Tryd.prog.funcNamed "rick/ricklaw22.ChangeToucher" = some 9 by kernel_rfl).symm.trans hf) |>.symm
  obtain rfl : fn = Tryd.f9 := (Option.some.inj (Tryd.func9.symm.trans hfn)).symm
  refine ⟨by kernel_rfl, fun j t ht => ?_⟩
  rw [Tryd.params9] at ht
  have h : t = 52 ∨ t = 9 := by
    have := Array.mem_of_getElem? ht
    simp at this
    omega
  rcases h with rfl | rfl
  · exact (show Tryd.prog.wantsStandIn 52 = false by kernel_rfl)
  · exact (show Tryd.prog.wantsStandIn 9 = false by kernel_rfl)

theorem changeToucher_holds : Rows.ChangeToucherCardSaid :=
  Claim7.holds_tied_plain_at .later [] _ _ _ _ changeToucher_said (fun _ h => by cases h) (by kernel_rfl) (fun _ h => by cases h) changeToucher_row_tie rfl ⟨rfl, rfl⟩ (by kernel_rfl) rfl changeToucher_plain (by kernel_rfl)

#print axioms changeToucher_holds

end Go.Proofs.YtahlfafcjjkliaaDoor
