/- MoveApart answers true at every argument; the card ties the listed tables to the program's text. No conditions but the tables. -/
import Derived.Test.YtohblmepajhpaaaGreatDoorG24
set_option maxRecDepth 100000
namespace Go.Proofs.YtohblmepajhpaaaGreatDoor
open Go.ChangeShapes Go.WideShapes Go.ChangeAt Go.RowKit
theorem aOh (os:Os):laidMet Tryz.prog Rows.moveApartRow.laid ((laidU os).forCall (fun _ _=>0) ⟨#[],#[Value.int .i64 0,.int .i64 0,.int .i64 0],[]⟩).memory:=
 laidMet_of_run' 8 (by kernel_rfl) (by kernel_rfl)
theorem aKx (os:Os){H:Type}(enc:TypeId×Value->H):∃places,DataW.whole enc Tryz.prog ((laidU os).forCall (fun _ _=>0) ⟨#[],#[Value.int .i64 0,.int .i64 0,.int .i64 0],[]⟩).memory Tryz.f6.params.toList Rows.moveApartSpec.vars false (#[Value.int .i64 0,.int .i64 0,.int .i64 0]:Array Value).toList 8=some ([.lit (.int .i64 0),.lit (.int .i64 0),.lit (.int .i64 0)],[],places):=
 ⟨[],by kernel_rfl⟩
theorem aIx (os:Os)(started:os.Started)(H:Type)(enc:TypeId×Value->H)(F:Stop.Interp) :
  ReturnsInHanded {} Tryz.checked os 6 .any ((OpenSpec.ofChange Rows.moveApartSpec).preRow enc Tryz.prog Tryz.f6 Rows.moveApartRow.domain false Rows.moveApartRow.laid) (((OpenSpec.ofChange Rows.moveApartSpec).at F).post enc Tryz.prog Tryz.f6 false true false false):=by
 obtain ⟨places,hx⟩:=aKx os enc
 refine returnsInHanded_of_row (C:=Tryz.checked) (s:=OpenSpec.ofChange Rows.moveApartSpec) Tryz.own started (by kernel_rfl) Tryz.func6
  (witness_row_at (enc:=enc) (C:=Tryz.checked) false (laidU os) #[Value.int .i64 0,.int .i64 0,.int .i64 0] rfl (by kernel_rfl) (by kernel_rfl) (by kernel_rfl)
   (OpenSpec.preRow_of_cond 8 hx (by kernel_rfl) (fun k hk=>by cases hk) (by kernel_rfl) (aOh os))) ?_
 intro W base args ds gs before hval0 hW _ _ hsz0 _ hsh _
 have hsz:(DataW.weightsEach Tryz.prog (Tryz.f6.params.toList++(OpenSpec.ofChange Rows.moveApartSpec).bare.plain.varTypes Tryz.prog) (ds++gs)).all (·<=reachBytes)=true:=hsz0
 clear hsz0
 have hval:∀(j:Nat) t v,Tryz.f6.params[j]? = some t->args[j]? = some v->Value.okWide Tryz.prog W .any base t v:=hval0
 have hW':=hW
 obtain ⟨p,q,hA0,hV,rfl,_,_⟩:=hW
 have hA:DataW.TrodAll enc Tryz.prog W 0 (fun _=>true) true Tryz.f6.params.toList args.toList ds p:=hA0
 have hA1:=hA
 rw[Tryz.params6] at hA hval hsz
 obtain ⟨v0,v1,v2,d0,d1,d2,p0,p1,p2,rfl,rfl,rfl,q0,q1,q2⟩:=trodAll_three hA
 obtain ⟨rfl,rfl⟩:=trodVars_none hV
 clear hA0 hval0
 have hm:=Lm.shaped hsh
 obtain ⟨x0,rfl⟩:=okWide_int Tryz.underlying3 (hval 0 3 v0 rfl rfl)
 obtain ⟨y0,e0,h0⟩:=aNf (aLf Tryz.underlying3) (j:=0) hsz rfl rfl q0
 cases e0
 obtain ⟨x1,rfl⟩:=okWide_int Tryz.underlying3 (hval 1 3 v1 rfl rfl)
 obtain ⟨y1,e1,h1⟩:=aNf (aLf Tryz.underlying3) (j:=1) hsz rfl rfl q1
 cases e1
 obtain ⟨x2,rfl⟩:=okWide_int Tryz.underlying3 (hval 2 3 v2 rfl rfl)
 obtain ⟨y2,e2,h2⟩:=aNf (aLf Tryz.underlying3) (j:=2) hsz rfl rfl q2
 cases e2
 refine (aOd hm _ _ _).mono fun e W' h=>?_
 exact aZw hW' hA1 rfl rfl (by rw[Tryz.params6];kernel_rfl) rfl rfl rfl h
theorem aLv:Rows.MoveApartSaid:=
 OpenClaim.holds_of_cond 6 Tryz.f6 rfl rfl rfl rfl rfl rfl rfl ⟨rfl,rfl,rfl,rfl,rfl⟩ rfl rfl rfl rfl rfl (by kernel_rfl) Tryz.func6 (by kernel_rfl)
  (of_decide_eq_true (by kernel_rfl)) (by unfold Func.isWrapper;first | (rw[if_pos (by decide +kernel)];kernel_rfl) | (rw[if_neg (by decide +kernel)];exact ⟨rfl,rfl⟩))
  (fun os started H enc _ F=>by rw[OpenClaim.pre_eq_preRow];exact aIx os started H enc F)
theorem aLc (f : FuncId) (fn : Func) (hf : Tryz.pinned.checked.prog.funcNamed "rick/ricklaw24.MoveApart" = some f) (hfn : Tryz.pinned.checked.prog.funcs[f]? = some fn) :
  false=Tryz.pinned.checked.prog.looks []/\∀(j:Nat) t,fn.params[j]? = some t->Tryz.pinned.checked.prog.wantsStandIn t=false:=by
 obtain rfl : f = 6 := Option.some.inj ((show Tryz.prog.funcNamed "rick/ricklaw24.MoveApart" = some 6 by kernel_rfl).symm.trans hf) |>.symm
 obtain rfl:fn=Tryz.f6:=(Option.some.inj (Tryz.func6.symm.trans hfn)).symm
 refine ⟨by kernel_rfl,fun j t ht=>?_⟩
 rw[Tryz.params6] at ht
 have h:t=3:=by
  have:=Array.mem_of_getElem? ht
  simp at this
  first | exact this | omega
 rcases h with rfl
 exact (show Tryz.prog.wantsStandIn 3=false by kernel_rfl)
theorem moveApart_holds:Rows.MoveApartCardSaid:=
 Claim7.holds_tied_plain_at .later [] _ _ _ _ aLv (fun _ h=>by cases h) (by kernel_rfl) (fun _ h=>by cases h) moveApart_row_tie rfl ⟨rfl,rfl⟩ (by kernel_rfl) rfl aLc (by kernel_rfl)
#print axioms moveApart_holds
end Go.Proofs.YtohblmepajhpaaaGreatDoor
