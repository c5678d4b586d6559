/- TreemergeTells answers true at every argument; the card ties the listed tables to the program's text. No conditions but the tables. -/
import Derived.Test.YtcemkikgaeghjaaGreatDoorG45
set_option maxRecDepth 100000
namespace Go.Proofs.YtcemkikgaeghjaaGreatDoor
open Go.ChangeShapes Go.WideShapes Go.ChangeAt Go.RowKit
theorem aJc (os:Os):laidMet Tryz.prog Rows.treemergeTellsRow.laid ((laidU os).forCall (fun _ _=>0) ⟨#[],#[Value.slice none 0 0,.slice none 0 0,.slice none 0 0,.bool false],[]⟩).memory:=
 laidMet_of_run' 8 (by kernel_rfl) (by kernel_rfl)
theorem aHb (os:Os){H:Type}(enc:TypeId×Value->H):∃places,DataW.whole enc Tryz.prog ((laidU os).forCall (fun _ _=>0) ⟨#[],#[Value.slice none 0 0,.slice none 0 0,.slice none 0 0,.bool false],[]⟩).memory Tryz.f3.params.toList Rows.treemergeTellsSpec.vars false (#[Value.slice none 0 0,.slice none 0 0,.slice none 0 0,.bool false]:Array Value).toList 8=some ([.nil,.nil,.nil,.lit (.bool false)],[],places):=
 ⟨[],by kernel_rfl⟩
theorem aFt (os:Os)(started:os.Started)(H:Type)(enc:TypeId×Value->H)(F:Stop.Interp) :
  ReturnsInHanded {} Tryz.checked os 3 .any ((OpenSpec.ofChange Rows.treemergeTellsSpec).preRow enc Tryz.prog Tryz.f3 Rows.treemergeTellsRow.domain false Rows.treemergeTellsRow.laid) (((OpenSpec.ofChange Rows.treemergeTellsSpec).at F).post enc Tryz.prog Tryz.f3 false true false false):=by
 obtain ⟨places,hx⟩:=aHb os enc
 refine returnsInHanded_of_row (C:=Tryz.checked) (s:=OpenSpec.ofChange Rows.treemergeTellsSpec) Tryz.own started (by kernel_rfl) Tryz.func3
  (witness_row_at (enc:=enc) (C:=Tryz.checked) false (laidU os) #[Value.slice none 0 0,.slice none 0 0,.slice none 0 0,.bool false] rfl (by kernel_rfl) (by kernel_rfl) (by kernel_rfl)
   (OpenSpec.preRow_of_cond 8 hx (by kernel_rfl) (fun k hk=>by cases hk) (by kernel_rfl) (aJc os))) ?_
 intro W base args ds gs before hval0 hW _ _ hsz0 _ hsh _
 have hsz:(DataW.weightsEach Tryz.prog (Tryz.f3.params.toList++(OpenSpec.ofChange Rows.treemergeTellsSpec).bare.plain.varTypes Tryz.prog) (ds++gs)).all (·<=reachBytes)=true:=hsz0
 clear hsz0
 have hval:∀(j:Nat) t v,Tryz.f3.params[j]? = some t->args[j]? = some v->Value.okWide Tryz.prog W .any base t v:=hval0
 have hW':=hW
 obtain ⟨p,q,hA0,hV,rfl,_,_⟩:=hW
 have hA:DataW.TrodAll enc Tryz.prog W 0 (fun _=>true) true Tryz.f3.params.toList args.toList ds p:=hA0
 have hA1:=hA
 rw[Tryz.params3] at hA hval hsz
 obtain ⟨v0,v1,v2,v3,d0,d1,d2,d3,p0,p1,p2,p3,rfl,rfl,rfl,q0,q1,q2,q3⟩:=aSt hA
 obtain ⟨rfl,rfl⟩:=trodVars_none hV
 clear hA0 hval0
 have hm:=Lm.shaped hsh
 obtain ⟨a0,z0,c0,rfl⟩:=okWide_slice Tryz.underlying22 (hval 0 22 v0 rfl rfl)
 obtain ⟨A0,k0,x0,e0,h0,l0⟩:=aLt aHi (j:=0) hsz rfl rfl q0
 cases e0
 obtain ⟨a1,z1,c1,rfl⟩:=okWide_slice Tryz.underlying22 (hval 1 22 v1 rfl rfl)
 obtain ⟨A1,k1,x1,e1,h1,l1⟩:=aLt aHi (j:=1) hsz rfl rfl q1
 cases e1
 obtain ⟨a2,z2,c2,rfl⟩:=okWide_slice Tryz.underlying22 (hval 2 22 v2 rfl rfl)
 obtain ⟨A2,k2,x2,e2,h2,l2⟩:=aLt aHi (j:=2) hsz rfl rfl q2
 cases e2
 obtain ⟨x3,rfl⟩:=okWide_bool Tryz.underlying4 (hval 3 4 v3 rfl rfl)
 obtain ⟨y3,e3⟩:=aLt (aPm Tryz.underlying4) (j:=3) hsz rfl rfl q3
 cases e3
 refine (aNv l0 l1 l2 hm h0 h1 h2).mono fun e W' h=>?_
 exact bCw hW' hA1 rfl rfl (by rw[Tryz.params3];kernel_rfl) rfl rfl rfl h
theorem aHs:Rows.TreemergeTellsSaid:=
 OpenClaim.holds_of_cond 3 Tryz.f3 rfl rfl rfl rfl rfl rfl rfl ⟨rfl,rfl,rfl,rfl,rfl⟩ rfl rfl rfl rfl rfl (by kernel_rfl) Tryz.func3 (by kernel_rfl)
  (of_decide_eq_true (by kernel_rfl)) (by unfold Func.isWrapper;first | (rw[if_pos (by decide +kernel)];kernel_rfl) | (rw[if_neg (by decide +kernel)];exact ⟨rfl,rfl⟩))
  (fun os started H enc _ F=>by rw[OpenClaim.pre_eq_preRow];exact aFt os started H enc F)
theorem aHa (f : FuncId) (fn : Func) (hf : Tryz.pinned.checked.prog.funcNamed "rick/ricklaw14.TreemergeTells" = some f) (hfn : Tryz.pinned.checked.prog.funcs[f]? = some fn) :
  false=Tryz.pinned.checked.prog.looks []/\∀(j:Nat) t,fn.params[j]? = some t->Tryz.pinned.checked.prog.wantsStandIn t=false:=by
 obtain rfl : f = 3 := Option.some.inj ((show Tryz.prog.funcNamed "rick/ricklaw14.TreemergeTells" = some 3 by kernel_rfl).symm.trans hf) |>.symm
 obtain rfl:fn=Tryz.f3:=(Option.some.inj (Tryz.func3.symm.trans hfn)).symm
 refine ⟨by kernel_rfl,fun j t ht=>?_⟩
 rw[Tryz.params3] at ht
 have h:t=22\/t=4:=by
  have:=Array.mem_of_getElem? ht
  simp at this
  first | exact this | omega
 rcases h with rfl | rfl
 ·exact (show Tryz.prog.wantsStandIn 22=false by kernel_rfl)
 exact (show Tryz.prog.wantsStandIn 4=false by kernel_rfl)
theorem treemergeTells_holds:Rows.TreemergeTellsCardSaid:=
 Claim7.holds_tied_plain_at .later [] _ _ _ _ aHs (fun _ h=>by cases h) (by kernel_rfl) (fun _ h=>by cases h) treemergeTells_row_tie rfl ⟨rfl,rfl⟩ (by kernel_rfl) rfl aHa (by kernel_rfl)
#print axioms treemergeTells_holds
end Go.Proofs.YtcemkikgaeghjaaGreatDoor
