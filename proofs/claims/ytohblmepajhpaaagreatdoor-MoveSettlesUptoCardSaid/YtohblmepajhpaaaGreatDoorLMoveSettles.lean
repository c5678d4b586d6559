/- MoveSettles answers true at every argument of bulk at most 1048576; the card ties the listed tables to the program's text. No conditions but that bound and the tables. -/
import Derived.Test.YtohblmepajhpaaaGreatDoorG26
import Derived.Test.YtohblmepajhpaaaGreatDoorG27
set_option maxHeartbeats 100000000
set_option maxRecDepth 100000
namespace Go.Proofs.YtohblmepajhpaaaGreatDoor
open Go.ChangeShapes Go.WideShapes Go.ChangeAt Go.RowKit
theorem aLx (os:Os):laidMet Tryz.prog Rows.moveSettlesUptoRow.laid ((laidU os).forCall (fun _ _=>0) ⟨#[],#[Value.slice none 0 0,.slice none 0 0,.int .i64 0,.int .i64 0,.slice none 0 0],[]⟩).memory:=
 laidMet_of_run' 8 (by kernel_rfl) (by kernel_rfl)
theorem aIs (os:Os){H:Type}(enc:TypeId×Value->H):∃places,DataW.whole enc Tryz.prog ((laidU os).forCall (fun _ _=>0) ⟨#[],#[Value.slice none 0 0,.slice none 0 0,.int .i64 0,.int .i64 0,.slice none 0 0],[]⟩).memory Tryz.f4.params.toList Rows.moveSettlesSpec.vars false (#[Value.slice none 0 0,.slice none 0 0,.int .i64 0,.int .i64 0,.slice none 0 0]:Array Value).toList 8=some ([.nil,.nil,.lit (.int .i64 0),.lit (.int .i64 0),.nil],[],places):=
 ⟨[],by kernel_rfl⟩
theorem aIe (os:Os)(started:os.Started)(H:Type)(enc:TypeId×Value->H)(F:Stop.Interp) :
  ReturnsInHanded {} Tryz.checked os 4 .any ((Rows.OpenSpec.upto Rows.moveSettlesSpec).preRow enc Tryz.prog Tryz.f4 Rows.moveSettlesUptoRow.domain false Rows.moveSettlesUptoRow.laid) (((Rows.OpenSpec.upto Rows.moveSettlesSpec).at F).post enc Tryz.prog Tryz.f4 false true false false):=by
 obtain ⟨places,hx⟩:=aIs os enc
 refine returnsInHanded_of_row (C:=Tryz.checked) (s:=Rows.OpenSpec.upto Rows.moveSettlesSpec) Tryz.own started (by kernel_rfl) Tryz.func4
  (witness_row_at (enc:=enc) (C:=Tryz.checked) false (laidU os) #[Value.slice none 0 0,.slice none 0 0,.int .i64 0,.int .i64 0,.slice none 0 0] rfl (by kernel_rfl) (by kernel_rfl) (by kernel_rfl)
   (OpenSpec.preRow_of_cond 8 hx (by kernel_rfl) (fun k hk=>by cases hk;kernel_rfl) (by kernel_rfl) (aLx os))) ?_
 intro W base args ds gs before hval0 hW _ hcond hsz0 _ hsh _
 have hsz:(DataW.weightsEach Tryz.prog (Tryz.f4.params.toList++(Rows.OpenSpec.upto Rows.moveSettlesSpec).bare.plain.varTypes Tryz.prog) (ds++gs)).all (·<=reachBytes)=true:=hsz0
 clear hsz0
 have hval:∀(j:Nat) t v,Tryz.f4.params[j]? = some t->args[j]? = some v->Value.okWide Tryz.prog W .any base t v:=hval0
 have hW':=hW
 obtain ⟨p,q,hA0,hV,rfl,_,_⟩:=hW
 have hA:DataW.TrodAll enc Tryz.prog W 0 (fun _=>true) true Tryz.f4.params.toList args.toList ds p:=hA0
 have hA1:=hA
 rw[Tryz.params4] at hA hval hsz
 obtain ⟨v0,v1,v2,v3,v4,d0,d1,d2,d3,d4,p0,p1,p2,p3,p4,rfl,rfl,rfl,q0,q1,q2,q3,q4⟩:=aTc hA
 obtain ⟨rfl,rfl⟩:=trodVars_none hV
 clear hA0 hval0
 have hm:=Lm.shaped hsh
 obtain ⟨a0,z0,c0,rfl⟩:=okWide_slice Tryz.underlying22 (hval 0 22 v0 rfl rfl)
 obtain ⟨A0,k0,x0,e0,h0,l0,b0⟩:=aMx aQq (j:=0) hsz rfl rfl q0
 cases e0
 obtain ⟨a1,z1,c1,rfl⟩:=okWide_slice Tryz.underlying23 (hval 1 23 v1 rfl rfl)
 obtain ⟨A1,k1,x1,e1,h1,l1,b1⟩:=aMx aNm (j:=1) hsz rfl rfl q1
 cases e1
 obtain ⟨x2,rfl⟩:=okWide_int Tryz.underlying3 (hval 2 3 v2 rfl rfl)
 obtain ⟨y2,e2,h2⟩:=aWh (aFk Tryz.underlying3) (j:=2) hsz rfl rfl q2
 cases e2
 obtain ⟨x3,rfl⟩:=okWide_int Tryz.underlying3 (hval 3 3 v3 rfl rfl)
 obtain ⟨y3,e3,h3⟩:=aWh (aFk Tryz.underlying3) (j:=3) hsz rfl rfl q3
 cases e3
 obtain ⟨a4,z4,c4,rfl⟩:=okWide_slice Tryz.underlying29 (hval 4 29 v4 rfl rfl)
 obtain ⟨A4,k4,x4,e4,h4,l4,b4,m4⟩:=aMx aKi (j:=4) hsz rfl rfl q4
 cases e4
 have hB:=bBt (hcond _ rfl)
 refine (aLe hm l0 l1 (by omega) (bFu b0 b1 b4 hB) h0 h1 h4).mono fun e W' h=>?_
 exact bBd hW' hA1 rfl rfl (by rw[Tryz.params4];kernel_rfl) rfl rfl rfl h
theorem andT {a b:Bool}(h:a=true)(k:b=true):(a && b)=true:=by rw[h,k];rfl
theorem aKm:Rows.MoveSettlesUptoSaid:=
 OpenClaim.holds_of_cond 4 Tryz.f4 rfl rfl rfl rfl rfl rfl rfl ⟨rfl,rfl,rfl,rfl,rfl⟩ rfl rfl rfl rfl rfl (by as_aux_lemma=>kernel_rfl) Tryz.func4 (by unfold joinedFacts;repeat' (with_reducible refine andT ?_ ?_);all_goals (as_aux_lemma=>kernel_rfl))
  (of_decide_eq_true (by as_aux_lemma=>kernel_rfl)) (by unfold Func.isWrapper;first | (rw[if_pos (by decide +kernel)];kernel_rfl) | (rw[if_neg (by decide +kernel)];exact ⟨rfl,rfl⟩))
  (fun os started H enc _ F=>by rw[OpenClaim.pre_eq_preRow];exact aIe os started H enc F)
theorem aJe (f : FuncId) (fn : Func) (hf : Tryz.pinned.checked.prog.funcNamed "rick/ricklaw24.MoveSettles" = some f) (hfn : Tryz.pinned.checked.prog.funcs[f]? = some fn) :
  false=Tryz.pinned.checked.prog.looks []/\∀(j:Nat) t,fn.params[j]? = some t->Tryz.pinned.checked.prog.wantsStandIn t=false:=by
 obtain rfl : f = 4 := Option.some.inj ((show Tryz.prog.funcNamed "rick/ricklaw24.MoveSettles" = some 4 by kernel_rfl).symm.trans hf) |>.symm
 obtain rfl:fn=Tryz.f4:=(Option.some.inj (Tryz.func4.symm.trans hfn)).symm
 refine ⟨by kernel_rfl,fun j t ht=>?_⟩
 rw[Tryz.params4] at ht
 have h:t=22\/t=23\/t=3\/t=29:=by
  have:=Array.mem_of_getElem? ht
  simp at this
  first | exact this | omega
 rcases h with rfl | rfl | rfl | rfl
 ·exact (show Tryz.prog.wantsStandIn 22=false by kernel_rfl)
 ·exact (show Tryz.prog.wantsStandIn 23=false by kernel_rfl)
 ·exact (show Tryz.prog.wantsStandIn 3=false by kernel_rfl)
 exact (show Tryz.prog.wantsStandIn 29=false by kernel_rfl)
theorem moveSettles_holds:Rows.MoveSettlesUptoCardSaid:=
 Claim7.holds_tied_plain_at .later [] _ _ _ _ aKm (fun _ h=>by cases h) (by kernel_rfl) (fun _ h=>by cases h) moveSettlesUpto_row_tie rfl ⟨rfl,rfl⟩ (by kernel_rfl) rfl aJe (by kernel_rfl)
#print axioms moveSettles_holds
end Go.Proofs.YtohblmepajhpaaaGreatDoor
