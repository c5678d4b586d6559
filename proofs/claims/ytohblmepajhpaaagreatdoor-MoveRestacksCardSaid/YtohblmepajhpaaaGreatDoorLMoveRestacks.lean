/- MoveRestacks answers true at every argument; the card ties the listed tables to the program's text. No conditions but the tables. -/
import Derived.Test.YtohblmepajhpaaaGreatDoorG28
set_option maxHeartbeats 100000000
set_option maxRecDepth 100000
namespace Go.Proofs.YtohblmepajhpaaaGreatDoor
open Go.ChangeShapes Go.WideShapes Go.ChangeAt Go.RowKit
theorem aKv (os:Os):laidMet Tryz.prog Rows.moveRestacksRow.laid ((laidU os).forCall (fun _ _=>0) ⟨#[],#[Value.slice none 0 0,.slice none 0 0],[]⟩).memory:=
 laidMet_of_run' 8 (by kernel_rfl) (by kernel_rfl)
theorem aIe (os:Os){H:Type}(enc:TypeId×Value->H):∃places,DataW.whole enc Tryz.prog ((laidU os).forCall (fun _ _=>0) ⟨#[],#[Value.slice none 0 0,.slice none 0 0],[]⟩).memory Tryz.f8.params.toList Rows.moveRestacksSpec.vars false (#[Value.slice none 0 0,.slice none 0 0]:Array Value).toList 8=some ([.nil,.nil],[],places):=
 ⟨[],by kernel_rfl⟩
theorem aHv (os:Os)(started:os.Started)(H:Type)(enc:TypeId×Value->H)(F:Stop.Interp) :
  ReturnsInHanded {} Tryz.checked os 8 .any ((OpenSpec.ofChange Rows.moveRestacksSpec).preRow enc Tryz.prog Tryz.f8 Rows.moveRestacksRow.domain false Rows.moveRestacksRow.laid) (((OpenSpec.ofChange Rows.moveRestacksSpec).at F).post enc Tryz.prog Tryz.f8 false true false false):=by
 obtain ⟨places,hx⟩:=aIe os enc
 refine returnsInHanded_of_row (C:=Tryz.checked) (s:=OpenSpec.ofChange Rows.moveRestacksSpec) Tryz.own started (by kernel_rfl) Tryz.func8
  (witness_row_at (enc:=enc) (C:=Tryz.checked) false (laidU os) #[Value.slice none 0 0,.slice none 0 0] rfl (by kernel_rfl) (by kernel_rfl) (by kernel_rfl)
   (OpenSpec.preRow_of_cond 8 hx (by kernel_rfl) (fun k hk=>by cases hk) (by kernel_rfl) (aKv os))) ?_
 intro W base args ds gs before hval0 hW _ _ hsz0 _ hsh _
 have hsz:(DataW.weightsEach Tryz.prog (Tryz.f8.params.toList++(OpenSpec.ofChange Rows.moveRestacksSpec).bare.plain.varTypes Tryz.prog) (ds++gs)).all (·<=reachBytes)=true:=hsz0
 clear hsz0
 have hval:∀(j:Nat) t v,Tryz.f8.params[j]? = some t->args[j]? = some v->Value.okWide Tryz.prog W .any base t v:=hval0
 have hW':=hW
 obtain ⟨p,q,hA0,hV,rfl,_,_⟩:=hW
 have hA:DataW.TrodAll enc Tryz.prog W 0 (fun _=>true) true Tryz.f8.params.toList args.toList ds p:=hA0
 have hA1:=hA
 rw[Tryz.params8] at hA hval hsz
 obtain ⟨v0,v1,d0,d1,p0,p1,rfl,rfl,rfl,q0,q1⟩:=trodAll_two hA
 obtain ⟨rfl,rfl⟩:=trodVars_none hV
 clear hA0 hval0
 have hm:=Lm.shaped hsh
 obtain ⟨a0,z0,c0,rfl⟩:=okWide_slice Tryz.underlying22 (hval 0 22 v0 rfl rfl)
 obtain ⟨A0,k0,x0,e0,h0,l0⟩:=aWr aWb (j:=0) hsz rfl rfl q0
 cases e0
 obtain ⟨a1,z1,c1,rfl⟩:=okWide_slice Tryz.underlying23 (hval 1 23 v1 rfl rfl)
 obtain ⟨A1,k1,x1,e1,h1,l1⟩:=aWr aQl (j:=1) hsz rfl rfl q1
 cases e1
 refine (aKu hm l0 l1 h0 h1).mono fun e W' h=>?_
 exact bCp hW' hA1 rfl rfl (by rw[Tryz.params8];kernel_rfl) rfl rfl rfl h
theorem andT {a b:Bool}(h:a=true)(k:b=true):(a && b)=true:=by rw[h,k];rfl
theorem aJo:Rows.MoveRestacksSaid:=
 OpenClaim.holds_of_cond 8 Tryz.f8 rfl rfl rfl rfl rfl rfl rfl ⟨rfl,rfl,rfl,rfl,rfl⟩ rfl rfl rfl rfl rfl (by as_aux_lemma=>kernel_rfl) Tryz.func8 (by unfold joinedFacts;repeat' (with_reducible refine andT ?_ ?_);all_goals (as_aux_lemma=>kernel_rfl))
  (of_decide_eq_true (by as_aux_lemma=>kernel_rfl)) (by unfold Func.isWrapper;first | (rw[if_pos (by decide +kernel)];kernel_rfl) | (rw[if_neg (by decide +kernel)];exact ⟨rfl,rfl⟩))
  (fun os started H enc _ F=>by rw[OpenClaim.pre_eq_preRow];exact aHv os started H enc F)
theorem aIb (f : FuncId) (fn : Func) (hf : Tryz.pinned.checked.prog.funcNamed "rick/ricklaw24.MoveRestacks" = some f) (hfn : Tryz.pinned.checked.prog.funcs[f]? = some fn) :
  false=Tryz.pinned.checked.prog.looks []/\∀(j:Nat) t,fn.params[j]? = some t->Tryz.pinned.checked.prog.wantsStandIn t=false:=by
 obtain rfl : f = 8 := Option.some.inj ((show Tryz.prog.funcNamed "rick/ricklaw24.MoveRestacks" = some 8 by kernel_rfl).symm.trans hf) |>.symm
 obtain rfl:fn=Tryz.f8:=(Option.some.inj (Tryz.func8.symm.trans hfn)).symm
 refine ⟨by kernel_rfl,fun j t ht=>?_⟩
 rw[Tryz.params8] at ht
 have h:t=22\/t=23:=by
  have:=Array.mem_of_getElem? ht
  simp at this
  first | exact this | omega
 rcases h with rfl | rfl
 ·exact (show Tryz.prog.wantsStandIn 22=false by kernel_rfl)
 exact (show Tryz.prog.wantsStandIn 23=false by kernel_rfl)
theorem moveRestacks_holds:Rows.MoveRestacksCardSaid:=
 Claim7.holds_tied_plain_at .later [] _ _ _ _ aJo (fun _ h=>by cases h) (by kernel_rfl) (fun _ h=>by cases h) moveRestacks_row_tie rfl ⟨rfl,rfl⟩ (by kernel_rfl) rfl aIb (by kernel_rfl)
#print axioms moveRestacks_holds
end Go.Proofs.YtohblmepajhpaaaGreatDoor
