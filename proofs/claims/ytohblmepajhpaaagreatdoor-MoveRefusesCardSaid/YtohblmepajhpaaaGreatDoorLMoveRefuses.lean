/- MoveRefuses answers true at every argument; the card ties the listed tables to the program's text. No conditions but the tables. -/
import Derived.Test.YtohblmepajhpaaaGreatDoorG24
set_option maxRecDepth 100000
namespace Go.Proofs.YtohblmepajhpaaaGreatDoor
open Go.ChangeShapes Go.WideShapes Go.ChangeAt Go.RowKit
theorem aKc (os:Os):laidMet Tryz.prog Rows.moveRefusesRow.laid ((laidU os).forCall (fun _ _=>0) ⟨#[],#[Value.slice none 0 0,.slice none 0 0,.int .i64 0,.int .i64 0],[]⟩).memory:=
 laidMet_of_run' 8 (by kernel_rfl) (by kernel_rfl)
theorem aIl (os:Os){H:Type}(enc:TypeId×Value->H):∃places,DataW.whole enc Tryz.prog ((laidU os).forCall (fun _ _=>0) ⟨#[],#[Value.slice none 0 0,.slice none 0 0,.int .i64 0,.int .i64 0],[]⟩).memory Tryz.f5.params.toList Rows.moveRefusesSpec.vars false (#[Value.slice none 0 0,.slice none 0 0,.int .i64 0,.int .i64 0]:Array Value).toList 8=some ([.nil,.nil,.lit (.int .i64 0),.lit (.int .i64 0)],[],places):=
 ⟨[],by kernel_rfl⟩
theorem aGt (os:Os)(started:os.Started)(H:Type)(enc:TypeId×Value->H)(F:Stop.Interp) :
  ReturnsInHanded {} Tryz.checked os 5 .any ((OpenSpec.ofChange Rows.moveRefusesSpec).preRow enc Tryz.prog Tryz.f5 Rows.moveRefusesRow.domain false Rows.moveRefusesRow.laid) (((OpenSpec.ofChange Rows.moveRefusesSpec).at F).post enc Tryz.prog Tryz.f5 false true false false):=by
 obtain ⟨places,hx⟩:=aIl os enc
 refine returnsInHanded_of_row (C:=Tryz.checked) (s:=OpenSpec.ofChange Rows.moveRefusesSpec) Tryz.own started (by kernel_rfl) Tryz.func5
  (witness_row_at (enc:=enc) (C:=Tryz.checked) false (laidU os) #[Value.slice none 0 0,.slice none 0 0,.int .i64 0,.int .i64 0] rfl (by kernel_rfl) (by kernel_rfl) (by kernel_rfl)
   (OpenSpec.preRow_of_cond 8 hx (by kernel_rfl) (fun k hk=>by cases hk) (by kernel_rfl) (aKc os))) ?_
 intro W base args ds gs before hval0 hW _ _ hsz0 _ hsh _
 have hsz:(DataW.weightsEach Tryz.prog (Tryz.f5.params.toList++(OpenSpec.ofChange Rows.moveRefusesSpec).bare.plain.varTypes Tryz.prog) (ds++gs)).all (·<=reachBytes)=true:=hsz0
 clear hsz0
 have hval:∀(j:Nat) t v,Tryz.f5.params[j]? = some t->args[j]? = some v->Value.okWide Tryz.prog W .any base t v:=hval0
 have hW':=hW
 obtain ⟨p,q,hA0,hV,rfl,_,_⟩:=hW
 have hA:DataW.TrodAll enc Tryz.prog W 0 (fun _=>true) true Tryz.f5.params.toList args.toList ds p:=hA0
 have hA1:=hA
 rw[Tryz.params5] at hA hval hsz
 obtain ⟨v0,v1,v2,v3,d0,d1,d2,d3,p0,p1,p2,p3,rfl,rfl,rfl,q0,q1,q2,q3⟩:=aPs hA
 obtain ⟨rfl,rfl⟩:=trodVars_none hV
 clear hA0 hval0
 have hm:=Lm.shaped hsh
 obtain ⟨a0,z0,c0,rfl⟩:=okWide_slice Tryz.underlying22 (hval 0 22 v0 rfl rfl)
 obtain ⟨A0,k0,x0,e0,h0,l0⟩:=aJn aSj (j:=0) hsz rfl rfl q0
 cases e0
 obtain ⟨a1,z1,c1,rfl⟩:=okWide_slice Tryz.underlying23 (hval 1 23 v1 rfl rfl)
 obtain ⟨A1,k1,x1,e1,h1,l1⟩:=aJn aNt (j:=1) hsz rfl rfl q1
 cases e1
 obtain ⟨x2,rfl⟩:=okWide_int Tryz.underlying3 (hval 2 3 v2 rfl rfl)
 obtain ⟨y2,e2,h2⟩:=aJn (aEo Tryz.underlying3) (j:=2) hsz rfl rfl q2
 cases e2
 obtain ⟨x3,rfl⟩:=okWide_int Tryz.underlying3 (hval 3 3 v3 rfl rfl)
 obtain ⟨y3,e3,h3⟩:=aJn (aEo Tryz.underlying3) (j:=3) hsz rfl rfl q3
 cases e3
 refine (aLe hm l0 l1 h0 h1).mono fun e W' h=>?_
 exact aZl hW' hA1 rfl rfl (by rw[Tryz.params5];kernel_rfl) rfl rfl rfl h
theorem aJj:Rows.MoveRefusesSaid:=
 OpenClaim.holds_of_cond 5 Tryz.f5 rfl rfl rfl rfl rfl rfl rfl ⟨rfl,rfl,rfl,rfl,rfl⟩ rfl rfl rfl rfl rfl (by kernel_rfl) Tryz.func5 (by kernel_rfl)
  (of_decide_eq_true (by kernel_rfl)) (by unfold Func.isWrapper;first | (rw[if_pos (by decide +kernel)];kernel_rfl) | (rw[if_neg (by decide +kernel)];exact ⟨rfl,rfl⟩))
  (fun os started H enc _ F=>by rw[OpenClaim.pre_eq_preRow];exact aGt os started H enc F)
theorem aHz (f : FuncId) (fn : Func) (hf : Tryz.pinned.checked.prog.funcNamed "rick/ricklaw24.MoveRefuses" = some f) (hfn : Tryz.pinned.checked.prog.funcs[f]? = some fn) :
  false=Tryz.pinned.checked.prog.looks []/\∀(j:Nat) t,fn.params[j]? = some t->Tryz.pinned.checked.prog.wantsStandIn t=false:=by
 obtain rfl : f = 5 := Option.some.inj ((show Tryz.prog.funcNamed "rick/ricklaw24.MoveRefuses" = some 5 by kernel_rfl).symm.trans hf) |>.symm
 obtain rfl:fn=Tryz.f5:=(Option.some.inj (Tryz.func5.symm.trans hfn)).symm
 refine ⟨by kernel_rfl,fun j t ht=>?_⟩
 rw[Tryz.params5] at ht
 have h:t=22\/t=23\/t=3:=by
  have:=Array.mem_of_getElem? ht
  simp at this
  first | exact this | omega
 rcases h with rfl | rfl | rfl
 ·exact (show Tryz.prog.wantsStandIn 22=false by kernel_rfl)
 ·exact (show Tryz.prog.wantsStandIn 23=false by kernel_rfl)
 exact (show Tryz.prog.wantsStandIn 3=false by kernel_rfl)
theorem moveRefuses_holds:Rows.MoveRefusesCardSaid:=
 Claim7.holds_tied_plain_at .later [] _ _ _ _ aJj (fun _ h=>by cases h) (by kernel_rfl) (fun _ h=>by cases h) moveRefuses_row_tie rfl ⟨rfl,rfl⟩ (by kernel_rfl) rfl aHz (by kernel_rfl)
#print axioms moveRefuses_holds
end Go.Proofs.YtohblmepajhpaaaGreatDoor
