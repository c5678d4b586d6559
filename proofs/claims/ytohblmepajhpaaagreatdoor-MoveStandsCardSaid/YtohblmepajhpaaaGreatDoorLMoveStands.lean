/- MoveStands answers true at every argument; the card ties the listed tables to the program's text. No conditions but the tables. -/
import Derived.Test.YtohblmepajhpaaaGreatDoorG18
import Derived.Test.YtohblmepajhpaaaGreatDoorG19
set_option maxHeartbeats 100000000
set_option maxRecDepth 100000
namespace Go.Proofs.YtohblmepajhpaaaGreatDoor
open Go.Proofs.Tryz (prog)
open Go.ChangeShapes Go.WideShapes Go.ChangeAt Go.RowKit
theorem aPb (os:Os):laidMet prog Rows.moveStandsRow.laid ((laidU os).forCall (fun _ _=>0) ⟨#[],#[Value.slice none 0 0,.slice none 0 0,.int .i64 0,.int .i64 0],[]⟩).memory:=
 laidMet_of_run' 8 T T
theorem aMb (os:Os){H:Type}(enc:TypeId×Value->H):∃a,DataW.whole enc prog ((laidU os).forCall (fun _ _=>0) ⟨#[],#[Value.slice none 0 0,.slice none 0 0,.int .i64 0,.int .i64 0],[]⟩).memory Tryz.f3.params.toList Rows.moveStandsSpec.vars false (#[Value.slice none 0 0,.slice none 0 0,.int .i64 0,.int .i64 0]:Array Value).toList 8=some ([.nil,.nil,.lit (.int .i64 0),.lit (.int .i64 0)],[],a):=
 ⟨[],T⟩
theorem aKw (os:Os)(d:os.Started)(H:Type)(enc:TypeId×Value->H)(F:Stop.Interp) :
  ReturnsInHanded {} Tryz.checked os 3 .any ((OpenSpec.ofChange Rows.moveStandsSpec).preRow enc prog Tryz.f3 Rows.moveStandsRow.domain false Rows.moveStandsRow.laid) (((OpenSpec.ofChange Rows.moveStandsSpec).at F).post enc prog Tryz.f3 false true false false):=by
 obtain ⟨i,y⟩:=aMb os enc
 refine returnsInHanded_of_row (C:=Tryz.checked) (s:=OpenSpec.ofChange Rows.moveStandsSpec) Tryz.own d κ ni
  (witness_row_at (enc:=enc) (C:=Tryz.checked) false (laidU os) #[Value.slice none 0 0,.slice none 0 0,.int .i64 0,.int .i64 0] rfl κ κ κ
   (OpenSpec.preRow_of_cond 8 y κ (fun k R=>by cases R) κ (aPb os))) ?_
 intro W base args u z l c w _ _ f _ r _;have b:(DataW.weightsEach prog (Tryz.f3.params.toList++(OpenSpec.ofChange Rows.moveStandsSpec).bare.plain.varTypes prog) (u++z)).all (·<=reachBytes)=true:=f;clear f;have a:∀(j:Nat) t v,Tryz.f3.params[j]? = some t->args[j]? = some v->Value.okWide prog W .any base t v:=c;have m:=w;obtain ⟨p,q,g,A,rfl,_,_⟩:=w;have n:DataW.TrodAll enc prog W 0 (fun _=>true) true Tryz.f3.params.toList args.toList u p:=g;have o:=n;rw[mt] at n a b;obtain ⟨B,D,E,G,S,T,d2,U,V,X,Y,Z,rfl,rfl,rfl,I,q1,q2,J⟩:=aTf n;obtain ⟨rfl,rfl⟩:=trodVars_none A;clear g c;have x:=Lm.shaped r;obtain ⟨a0,z0,c0,rfl⟩:=okWide_slice jE (a 0 22 B rfl rfl);obtain ⟨A0,k0,x0,K,L,M⟩:=aMn aYw (j:=0) b rfl rfl I
 cases K
 obtain ⟨a1,z1,c1,rfl⟩:=okWide_slice jF (a 1 23 D rfl rfl);obtain ⟨A1,k1,x1,N,O,l1⟩:=aMn aSf (j:=1) b rfl rfl q1
 cases N
 obtain ⟨x2,rfl⟩:=okWide_int bw (a 2 3 E rfl rfl);obtain ⟨y2,P,h2⟩:=aMn (aGs bw) (j:=2) b rfl rfl q2
 cases P
 obtain ⟨x3,rfl⟩:=okWide_int bw (a 3 3 G rfl rfl);obtain ⟨y3,Q,h3⟩:=aMn (aGs bw) (j:=3) b rfl rfl J
 cases Q
 refine (aPf x M l1 L O).mono fun e W' h=>?_;exact bFp m o rfl rfl (by rw[mt];kernel_rfl) rfl rfl rfl h
theorem andT {a b:Bool}(h:a=true)(k:b=true):(a && b)=true:=by rw[h,k];rfl
theorem aNp:Rows.MoveStandsSaid:=
 OpenClaim.holds_of_cond 3 Tryz.f3 rfl rfl rfl rfl rfl rfl rfl ⟨rfl,rfl,rfl,rfl,rfl⟩ rfl rfl rfl rfl rfl (by as_aux_lemma=>kernel_rfl) ni (by unfold joinedFacts;repeat' (with_reducible refine andT ?_ ?_);all_goals (as_aux_lemma=>kernel_rfl))
  (aP (by as_aux_lemma=>kernel_rfl)) (by unfold Func.isWrapper;first | (rw[ao (by decide +kernel)];kernel_rfl) | (rw[ah (by decide +kernel)];exact ⟨rfl,rfl⟩))
  (fun os a H enc _ F=>by rw[OpenClaim.pre_eq_preRow];exact aKw os a H enc F)
theorem aMa (f : FuncId) (a : Func) (d : Tryz.pinned.checked.prog.funcNamed "rick/ricklaw24.MoveStands" = some f) (b : Tryz.pinned.checked.prog.funcs[f]? = some a) :
  false=Tryz.pinned.checked.prog.looks []/\∀(j:Nat) t,a.params[j]? = some t->Tryz.pinned.checked.prog.wantsStandIn t=false:=by
 obtain rfl : f = 3 := fV ((show prog.funcNamed "rick/ricklaw24.MoveStands" = some 3 by kernel_rfl).symm.trans d) |>.symm
 obtain rfl:a=Tryz.f3:=(fV (ni.symm.trans b)).symm;refine ⟨T,fun j t c=>?_⟩;rw[mt] at c
 have h:t=22\/t=23\/t=3:=by
  have:=Array.mem_of_getElem? c;simp at this
  first | exact this | omega
 rcases h with rfl | rfl | rfl
 ·exact (show prog.wantsStandIn 22=false by kernel_rfl)
 ·exact (show prog.wantsStandIn 23=false by kernel_rfl)
 exact (show prog.wantsStandIn 3=false by kernel_rfl)
theorem moveStands_holds:Rows.MoveStandsCardSaid:=
 Claim7.holds_tied_plain_at .later [] _ _ _ _ aNp (fun _ h=>by cases h) T (fun _ h=>by cases h) moveStands_row_tie rfl ⟨rfl,rfl⟩ T rfl aMa T
#print axioms moveStands_holds
end Go.Proofs.YtohblmepajhpaaaGreatDoor
