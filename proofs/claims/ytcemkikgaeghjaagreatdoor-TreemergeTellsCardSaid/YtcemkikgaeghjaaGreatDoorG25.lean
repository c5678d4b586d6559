/- Texts of the walks, together: Walk: treemerge.made. Plain: with distinct paths in base, what made's maps hold is what treemergeF asks. Walk: treemerge's put$1. Walk: slices.ContainsFunc of files, at put's closure. Plain law: stable sorting by insertion, and by merging of blocks, come to the same. Plain law: what a rotation and a step of symMerge do to a list. -/
import Derived.Test.YtcemkikgaeghjaaGreatDoorG09
import Derived.Test.YtcemkikgaeghjaaGreatDoorG24
set_option maxHeartbeats 8000000
set_option maxRecDepth 100000
open Go.Lib (hid)
namespace Go.Proofs.YtcemkikgaeghjaaGreatDoor
open Go.RowKit
theorem aId {P:Program}{S:World->Prop}{a:Act} {w w':World}{K:Act->World->Prop}{dst:Option Tmp}{t ty:TypeId}{m x:Operand}{q:Bool}{g:Option (Tmp×Bool)}{mv key v:Value}(hm:a.eval m=mv)(hx:a.eval x=key)
  (hrun:(Instr.mapEntry t mv key).run P w=.ok v w') (hK:S w'/\K (a.put dst v) w'):effq P S ⟨q,dst,.mapEntry t m x,ty,g⟩ a w K:=by
 intro p af g
 unfold Oper.wp execOp
 simp only[hm,hx,hrun,Sem.run_bind,Sem.run_pure,Result.andThen_ok]
 exact hK
theorem aFk {P:Program}{S:World->Prop}{a:Act} {w w':World}{K:Act->World->Prop}{dst:Option Tmp}{t ty:TypeId}{m x y:Operand}{q:Bool}{g:Option (Tmp×Bool)}{mv st val:Value}(hm:a.eval m=mv)(hx:a.eval x=st)(hy:a.eval y=val)
  (hrun:(Instr.entryStore t mv st val).run P w=.ok () w') (hK:S w'/\K (a.put dst undef) w'):effq P S ⟨q,dst,.entryStore t m x y,ty,g⟩ a w K:=by
 intro p af g
 unfold Oper.wp execOp
 simp only[hm,hx,hy,hrun,Sem.run_bind,Sem.run_pure,Result.andThen_ok]
 exact hK
theorem aSn {l:List FV}(h:∀f∈l,f.path.size<=140737488351232/\f.text.size<=140737488351232)(i:Nat):(pathAt l i).size<=maxLen:=by
 unfold pathAt
 cases hl:l[i]? with
 | none=>exact Nat.zero_le _
 | some f=>
  have:=(h f (List.mem_of_getElem? hl)).1
  show f.path.size<=maxLen
  unfold maxLen;omega
theorem bGh {w:World}{B n:Nat}{v:Value}{base side:List FV}{L:List (Nat×Nat)}{k:Nat}{p:Nat×Nat}(h:w.ownsRow B 81 2 v n (L.flatMap (renC base side)))(hp:L[k]? = some p) :
  ∃g c cur,v=.slice (some ⟨g,0,none⟩) n c/\w.heap[g]? = some (.cells cur 81 (0,0))/\cur[k*2]? = some (.string (pathAt base p.1))/\cur[k*2+1]? = some (.string (pathAt side p.2)):=by
 have hk:∀x,(renC base side x).length=2:=fun _=>rfl
 have e0:=flat_get hk hp (show 0<2 by decide)
 have e1:=flat_get hk hp (show 1<2 by decide)
 rcases h with ⟨h0,⟨rfl,hn⟩ | ⟨g,cap,cur,rfl,_,h2,h3,h4,h5,h6⟩⟩
 ·have hnil:L.flatMap (renC base side)=[]:=List.eq_nil_of_length_eq_zero (by rw[h0,hn])
  rw[hnil] at e0
  cases e0
 have q0:=aBj h6 e0
 have q1:=aBj h6 e1
 exact ⟨g,cap,cur,rfl,h2,by simpa using q0,by simpa using q1⟩
theorem aLn (a:ByteArray)(w:World):(Instr.build 93 #[(0,.string a)]).run Tryz.prog w=.ok (.agg #[.string a]) w:=by
 go_simp
def SideMade (base side:List FV)(fs:Value)(w:World)(e:Ending) (w':World):Prop:=
 ∃(L:List (Nat×Nat)) (s:Nat),L.Perm (pairsF base side)/\e=.returned (.pointer (some ⟨s,0,none⟩))/\SideIs w' w.heap.size s fs base side L/\Below w.heap.size w w'
theorem aKl {w:World}{A B:Option Addr}{n ca m cb:Nat}{base side:List FV}(hL:Lm w)(hn:n<=100000)(hm:m<=100000)(ha:RdF w w.heap.size A n ca base)(hs:RdF w w.heap.size B m cb side)
  (hbt:∀f∈base,f.text.size<=1000000) (hst:∀f∈side,f.text.size<=1000000) :
  Calls Tryz.prog 25 #[.slice A n ca,.slice B m cb] w (SideMade base side (.slice B m cb) w):=by
 have HS0:=hid (SideIs.start w (.slice B m cb) base side)
 obtain ⟨W,eW⟩:∃W,W=((w.alloc (.map #[] 0)).alloc (.map #[] 0)).alloc (.cells #[.slice B m cb,.map (some w.heap.size),.map (some (w.heap.size+1))] 91):=⟨_,rfl⟩
 have hW:Below w.heap.size w W:=by rw[eW];exact (((Below.refl _ _).alloc (Nat.le_refl _) _).alloc (by simp) _).alloc (by simp;omega) _
 rw[<-eW] at HS0
 have KR:=aUy (hL.to hW) hn hm (ha.to hW hW.size) (hs.to hW hW.size) hbt hst
 have HW:=hid hW
 clear hW hL hbt hst
 have hmm:=@run_makeMap Tryz.prog
 go_enter Tryz.func25,Tryz.ntmps25
 go_wp2_with fail
 rw[<-eW]
 clear eW hmm
 refine KR.mono ?_
 rintro e w1 ⟨L,v,hperm,rfl,ho,hb1⟩
 have hLl:L.length<=100000:=by have:=hperm.length_eq;have:=aJq base side;have:=ha.len;omega
 have HPM:=hid hperm
 have HOW:=hid (fun (k:Nat) (p:Nat×Nat) (hp:L[k]? = some p)=>bGh ho hp)
 have HS1:=hid (HS0.out.below hb1)
 have HB1:=hid (HW.out.trans (hb1.mono HW.out.size))
 obtain ⟨E,ec,rfl,hec⟩:=aAg ho
 have HPA:=hid (show ∀p∈L,(pathAt base p.1).size<=maxLen/\(pathAt side p.2).size<=maxLen from fun p hp=>⟨aSn ha.fits p.1,aSn hs.fits p.2⟩)
 clear KR hperm ho hb1 HS0 ha hs
 go_wp2
 go_loopw[17] (fun i wr=>∃k:Nat,k<=L.length/\i=.int .i64 k/\Hid (SideIs wr w.heap.size (w.heap.size+2) (.slice B m cb) base side (L.take k))/\Hid (CellsStay w1 wr)/\Hid (Below w.heap.size w wr)) (fun i _=>L.length-(intOf i).toNat)
 case atStart=>exact ⟨0,Nat.zero_le _,rfl,HS1,hid (fun _ _ _ _ h=>h),HB1⟩
 obtain ⟨k,hk,rfl,HSI,HCS,HBW⟩:=hrel
 by_cases hlt:k<L.length
 ·have hp:=List.getElem?_eq_getElem hlt
  generalize L[k]=p at hp
  have hpb:=HPA.out p (List.mem_of_getElem? hp)
  obtain ⟨g,c9,cur,eE,hg,x0,x1⟩:=HOW.out k p hp
  injection eE with eE1 _ eE2
  subst eE1 eE2
  have hgw:=HCS.out g cur _ _ hg
  have c0:wr.cell? ⟨g,k*2,none⟩=some (.string (pathAt base p.1)):=by rw[Lib.cell_of_heap hgw];exact x0
  have c1:wr.cell? ⟨g,k*2+1,none⟩=some (.string (pathAt side p.2)):=by rw[Lib.cell_of_heap hgw];exact x1
  have HT:=hid (show L.take (k+1)=L.take k++[p] by rw[List.take_add_one,hp];rfl)
  generalize ea:pathAt base p.1=a at *
  generalize eb:pathAt side p.2=b at *
  have hba:Below wr.heap.size wr (wr.alloc (.cells #[.string a,.string b] 81)):=(Below.refl _ _).alloc (Nat.le_refl _) _
  have HIX:=hid (heap_alloc_new wr (.cells #[.string a,.string b] 81))
  obtain ⟨m1,m2,w2,w3,w4,w5,v1,s1,v2,s2,hst,hnx,hsc⟩:=(HSI.out.below (hba.mono (Nat.le_refl _))).below ((Below.refl _ _).drew) |>.step (p:=p) (Nat.le_trans HBW.out.size hba.size) (by rw[ea];exact hpb.1) (by rw[eb];exact hpb.2) (by rw[List.length_take];unfold maxLen;omega)
  rw[ea,eb] at hst
  have HST:=hid hst
  have HSC:=hid hsc
  have HNX:=hid hnx
  have HB5:=hid (HBW.out.trans (hba.mono HBW.out.size))
  have HC5:=hid (show CellsStay w1 (wr.alloc (.cells #[.string a,.string b] 81)) from fun k cur T fr h=>(hba.block k (aAa (HCS.out k cur T fr h))).trans (HCS.out k cur T fr h))
  clear hst hnx hsc hba hgw hg x0 x1 hp HSI HBW HCS hpb
  go_wp2
  have d1:=HST.out.c1
  have d2:=HST.out.c2
  have d0:=heap_alloc_new wr (.cells #[.string a,.string b] 81)
  generalize wr.alloc (.cells #[.string a,.string b] 81)=V5 at *
  refine aAw (fun u=>CellsStay V5 u) (.q 0 (.q 1 (.q 2 (.q 3 (.q 4 (.q 5 (.b 6 (.q 7 (.q 8 (.q 9 (.q 10 (.q 11 (.q 12 (.b 13 (.q 14 (.q 15 (.one 16 (.q 17 (.one 18 (.one 19 (.q 20 (.one 21 .leaf)))))))))))))))))))))) mixed (by kernel_rfl) (fun _ _ _ _ h=>h) ?_
  intro Tp M Q hT hT' hM hQ
  obtain ⟨cs,hcs,hcs1,hcs2⟩:=HSC.out
  replace hcs:V5.heap[w.heap.size+2]? = some (.cells cs 91 (0,0)):=hcs
  have m0:M ⟨wr.heap.size,0,none⟩=some (.string a):=hM _ _ fun w' hw=>by rw[Lib.cell_of_heap (hw _ _ _ _ d0)];rfl
  have m4:M ⟨wr.heap.size,1,none⟩=some (.string b):=hM _ _ fun w' hw=>by rw[Lib.cell_of_heap (hw _ _ _ _ d0)];rfl
  have q1:M ⟨w.heap.size+2,1,none⟩=some (.map (some m1)):=hM _ _ fun w' hw=>by rw[Lib.cell_of_heap (hw _ _ _ _ hcs)];exact hcs1
  have q2:M ⟨w.heap.size+2,2,none⟩=some (.map (some m2)):=hM _ _ fun w' hw=>by rw[Lib.cell_of_heap (hw _ _ _ _ hcs)];exact hcs2
  clear hM
  refine aDf ?_
  intro O hO
  have t0:=hO true 0
  have t1:=hO true 1
  have t2:=hO true 2
  have t3:=hO true 3
  have t4:=hO true 4
  have t5:=hO true 5
  have t6:=hO true 6
  have t7:=hO true 7
  have t8:=hO true 8
  have t9:=hO true 9
  have t10:=hO true 10
  have t11:=hO true 11
  have t12:=hO true 12
  have t13:=hO true 13
  have t14:=hO true 14
  have t15:=hO true 15
  have t17:=hO true 17
  have t20:=hO true 20
  have e16:=hO false 16
  have e18:=hO false 18
  have e19:=hO false 19
  have e21:=hO false 21
  simp only[qcmp] at t0 t1 t2 t3 t4 t5 t6 t7 t8 t9 t10 t11 t12 t13 t14 t15 t17 t20 e16 e18 e19 e21
  clear hO
  simp (maxSteps:=9^7) only[↓wt_q,↓wt_b,t0,t1,t2,t3,t4,t5,t6,↓qpre,aAb,aAf,aAc,m0,q1]
  refine aCk rfl (fun w=>aLn _ w) ?_
  simp (maxSteps:=9^7) only[↓wt_q,↓wt_b,t7,t8,t9,t10,t11,t12,t13,↓qpre,aAb,aAf,aAc,q2,m4]
  refine aCk rfl (fun w=>aLn _ w) ?_
  simp (maxSteps:=9^7) only[↓wt_q,↓aAj,t14,t15,e16,↓qpre,aAb,aAf,aAc,m4]
  refine aId rfl rfl HST.out.r1 ⟨hT _ HST.out.k1,?_⟩
  simp (maxSteps:=9^7) only[↓wt_q,↓aAj,t17,e18,↓qpre,aAb,aAc]
  refine aFk rfl rfl rfl HST.out.r2 ⟨hT _ HST.out.k2,?_⟩
  simp (maxSteps:=9^7) only[↓aAj,e19,aAb]
  refine aId rfl rfl HST.out.r3 ⟨hT _ HST.out.k3,?_⟩
  simp (maxSteps:=9^7) only[↓wt_q,↓aAj,t20,e21,↓qpre,aAb,aAc]
  refine aFk rfl rfl rfl HST.out.r4 ⟨hT _ HST.out.k4,?_⟩
  simp (maxSteps:=9^7) only[aAb]
  refine hQ _ _ ?_
  have HSN:Hid (SideIs w5 w.heap.size (w.heap.size+2) (.slice B m cb) base side (L.take (k+1))):=by rw[HT.out];exact HNX
  have HCN:Hid (CellsStay w1 w5):=hid (HC5.out.trans HST.out.k4)
  have HBN:Hid (Below w.heap.size w w5):=hid (HB5.out.drew.trans HST.out.b4)
  clear hQ hT hT' m0 m4 q1 q2 d0 d1 d2 hcs hcs1 hcs2 HST HNX HSC t0 t1 t2 t3 t4 t5 t6 t7 t8 t9 t10 t11 t12 t13 t14 t15 t17 t20 e16 e18 e19 e21
  go_wp2
  go_roundw
  case rel=>exact ⟨k+1,by omega,by go_num,HSN,HCN,HBN⟩
  simp[intOf];omega
 have hkn:k=L.length:=by omega
 subst hkn
 have HF:Hid (SideMade base side (.slice B m cb) w (.returned (.pointer (some ⟨w.heap.size+2,0,none⟩))) wr):=hid ⟨L,_,HPM.out,rfl,by have:=HSI.out;rw[List.take_of_length_le (Nat.le_refl _)] at this;exact this,HBW.out⟩
 clear HSI HCS HBW
 go_wp2
 go_ret
 exact HF.out
theorem aJz {base side:List FV}{q v:ByteArray}:∀{L:List (Nat×Nat)},(∀a∈L,q=pathAt base a.1->pathAt side a.2=v)->L.foldl (fun r p=>if q=pathAt base p.1 then some (pathAt side p.2) else r) (some v)=some v
 | [],_=>rfl
 | a::L,h=>by
  rw[List.foldl_cons]
  by_cases e:q=pathAt base a.1
  ·rw[if_pos e,h a List.mem_cons_self e];exact aJz fun b hb=>h b (List.mem_cons_of_mem _ hb)
  rw[if_neg e];exact aJz fun b hb=>h b (List.mem_cons_of_mem _ hb)
theorem aRk {base side:List FV}{q v:ByteArray}:∀{L:List (Nat×Nat)}(r:Option ByteArray),(∀a∈L,q=pathAt base a.1->pathAt side a.2=v)->(∃a∈L,q=pathAt base a.1)->L.foldl (fun r p=>if q=pathAt base p.1 then some (pathAt side p.2) else r) r=some v
 | [],_,_,h2=>by obtain ⟨a,ha,_⟩:=h2;cases ha
 | a::L,r,h,h2=>by
  rw[List.foldl_cons]
  by_cases e:q=pathAt base a.1
  ·rw[if_pos e,h a List.mem_cons_self e];exact aJz fun b hb=>h b (List.mem_cons_of_mem _ hb)
  rw[if_neg e]
  obtain ⟨b,hb,hq⟩:=h2
  rcases List.mem_cons.1 hb with rfl | hb
  ·exact absurd hq e
  exact aRk r (fun b hb=>h b (List.mem_cons_of_mem _ hb)) ⟨b,hb,hq⟩
theorem aPk {base side:List FV}{q:ByteArray}:∀{L:List (Nat×Nat)}(r:Option ByteArray),(∀a∈L,q≠pathAt base a.1)->L.foldl (fun r p=>if q=pathAt base p.1 then some (pathAt side p.2) else r) r=r
 | [],_,_=>rfl
 | a::L,r,h=>by
  rw[List.foldl_cons,if_neg (h a List.mem_cons_self)]
  exact aPk r fun b hb=>h b (List.mem_cons_of_mem _ hb)
theorem aBq {l:List FV}{i:Nat}(h:i<l.length):(l[i]?).map FV.path=some (pathAt l i):=by
 unfold pathAt;rw[List.getElem?_eq_getElem h];rfl
theorem aOt {l:List FV}(hn:(l.map FV.path).Nodup){i j:Nat}(hi:i<l.length)(hj:j<l.length)(h:pathAt l i=pathAt l j):i=j:=by
 have e:(l.map FV.path)[i]? = (l.map FV.path)[j]?:=by rw[List.getElem?_map,List.getElem?_map,aBq hi,aBq hj,h]
 exact (List.getElem?_inj (by simpa using hi) hn).1 e
theorem aUt {base side:List FV}{L:List (Nat×Nat)}(hn:(base.map FV.path).Nodup)(hp:L.Perm (pairsF base side))(q:ByteArray):sendL base side L q=movedF base side q:=by
 have ok:=aCj base side
 have lt1:∀a∈pairsF base side,a.1<base.length:=fun a ha=>aBy (ok.from_ a ha)
 have lt2:∀a∈pairsF base side,a.2<side.length:=fun a ha=>aBy (ok.into a ha)
 unfold movedF sendL
 cases hf:(pairsF base side).find? fun x=>decide (((base[x.1]?).map FV.path)=some q) with
 | none=>
  refine aPk none fun a ha e=>?_
  have hm:=hp.mem_iff.1 ha
  have:=List.find?_eq_none.1 hf a hm
  rw[aBq (lt1 a hm),e] at this
  simp at this
 | some x=>
  have hx:=List.mem_of_find?_eq_some hf
  have hq:=List.find?_some hf
  rw[aBq (lt1 x hx)] at hq
  have hq':q=pathAt base x.1:=by simpa using (of_decide_eq_true hq).symm
  show _=(side[x.2]?).map FV.path
  rw[aBq (lt2 x hx)]
  refine aRk none (fun a ha e=>?_) ⟨x,hp.mem_iff.2 hx,hq'⟩
  have hm:=hp.mem_iff.1 ha
  have e1:a.1=x.1:=aOt hn (lt1 a hm) (lt1 x hx) (e.symm.trans hq')
  obtain ⟨i,hi,rfl⟩:=List.getElem_of_mem hm
  obtain ⟨j,hj,rfl⟩:=List.getElem_of_mem hx
  rcases Nat.lt_trichotomy i j with h | h | h
  ·exact absurd e1 (List.pairwise_iff_getElem.1 ok.one i j hi hj h).1
  ·subst h;rfl
  exact absurd e1.symm (List.pairwise_iff_getElem.1 ok.one j i hj hi h).1
theorem aYo {base side:List FV}{L:List (Nat×Nat)}(hp:L.Perm (pairsF base side))(q:ByteArray):takenL side L q.data.toList=(pairsF base side).any fun x=>decide (((side[x.2]?).map FV.path)=some q):=by
 have ok:=aCj base side
 unfold takenL
 rw[Bool.eq_iff_iff,List.any_eq_true,List.any_eq_true]
 constructor
 ·rintro ⟨a,ha,h⟩
  have hm:=hp.mem_iff.1 ha
  refine ⟨a,hm,?_⟩
  rw[aBq (aBy (ok.into a hm))]
  exact decide_eq_true (congrArg some (aCb (of_decide_eq_true h)))
 rintro ⟨a,ha,h⟩
 refine ⟨a,hp.mem_iff.2 ha,?_⟩
 rw[aBq (aBy (ok.into a ha))] at h
 have:=of_decide_eq_true h
 injection this with this
 rw[this];exact decide_eq_true rfl
theorem bEh {w:World}{bx:Nat}{f x:FV}(hf:f.path.size<=1000000)(hx:x.path.size<=1000000)(hb:w.heap[bx]? = some (.cells #[.string f.path,.bool f.exec,.string f.text] 28 (0,0))) :
  Calls Tryz.prog 91 #[.agg #[.string x.path,.bool x.exec,.string x.text],.pointer (some ⟨bx,0,none⟩)] w fun e w'=>e=.returned (.bool (clashP x.p f.p))/\Below w.heap.size w w':=by
 have hba:Below w.heap.size w (w.alloc (.cells #[.string x.path,.bool x.exec,.string x.text] 28)):=(Below.refl _ _).alloc (Nat.le_refl _) _
 have c0:(w.alloc (.cells #[.string x.path,.bool x.exec,.string x.text] 28)).cell? ⟨bx,0,none⟩=some (.string f.path):=by rw[Lib.cell_of_heap ((hba.block bx (aAa hb)).trans hb)];rfl
 have hn:=heap_alloc_new w (.cells #[.string x.path,.bool x.exec,.string x.text] 28)
 have c1:(w.alloc (.cells #[.string x.path,.bool x.exec,.string x.text] 28)).cell? ⟨w.heap.size,0,none⟩=some (.string x.path):=by rw[Lib.cell_of_heap hn];rfl
 have K:=aYh (p:=x.path) (d:=f.path) (w:=w.alloc (.cells #[.string x.path,.bool x.exec,.string x.text] 28)) (by omega) (by omega)
 have HB:=hid hba
 clear hb hn hba
 go_enter Tryz.func91,Tryz.ntmps91
 go_wp2_with fail
 refine K.mono ?_
 rintro e w1 ⟨rfl,rfl⟩
 clear K c0 c1
 go_wp2
 go_ret
 exact ⟨rfl,HB.out⟩
def FirstF (p:FV->Bool)(xs:List FV)(w:World)(e:Ending) (w':World):Prop:=
 ∃k:Int,e=.returned (.int .i64 k)/\((k=-1/\∀x∈xs,p x=false)\/(0<=k/\∃x∈xs,p x=true))/\Below w.heap.size w w'
theorem aZa {A:Option Addr}{n c:Nat}{xs:List FV}{w:World}{q1:Value}(p:FV->Bool)(hn:n<=1000000)(h:RdF w w.heap.size A n c xs)
  (hC:∀(x:FV) (u:World),x∈xs->Below w.heap.size w u->Calls Tryz.prog 91 #[.agg #[.string x.path,.bool x.exec,.string x.text],q1] u fun e w'=>e=.returned (.bool (p x))/\Below u.heap.size u w') :
  Calls Tryz.prog 101 #[.slice A n c,.func (.func 91) #[] #[q1]] w (FirstF p xs w):=by
 have HL:=hid h.len
 go_enter Tryz.func101,Tryz.ntmps101
 go_wp2
 go_loopw[8] (fun i wr=>∃k:Nat,k<=n/\i=.int .i64 k/\Hid (Below w.heap.size w wr)/\Hid (∀(i:Nat) (y:FV),i<k->xs[i]? = some y->p y=false)) (fun i _=>n-(intOf i).toNat)
 case atStart=>exact ⟨0,Nat.zero_le _,rfl,hid (Below.refl _ _),fun i y h=>absurd h (Nat.not_lt_zero _)⟩
 obtain ⟨k,hk,rfl,HB,HJ⟩:=hrel
 by_cases hlt:k<n
 ·obtain ⟨b0,o0,x,rfl,hbb,hx,hxm,h0,h1,h2⟩:=h.get hlt
  replace h0:=(HB.out.cell (p:=⟨b0,o0+k*3,none⟩) hbb).trans h0
  replace h1:=(HB.out.cell (p:=⟨b0,o0+k*3+1,none⟩) hbb).trans h1
  replace h2:=(HB.out.cell (p:=⟨b0,o0+k*3+2,none⟩) hbb).trans h2
  have HX:=hid hx;clear hx
  have HXM:=hid hxm
  have K:=hC x wr hxm HB.out
  clear hxm
  obtain ⟨R,hR⟩:∃R,R=p x:=⟨_,rfl⟩
  rw[<-hR] at K
  have HR:=hid hR
  clear hR
  obtain ⟨xp,xe,xt⟩:=x
  dsimp only at h0 h1 h2 K
  go_wp2_with fail
  refine K.mono ?_
  rintro e w1 ⟨rfl,hb1⟩
  have HB1:=hid (HB.out.trans (hb1.mono HB.out.size))
  clear K hb1
  cases R
  ·have HN:Hid (∀(i:Nat) (y:FV),i<k+1->xs[i]? = some y->p y=false):=fun i y hi hy=>by
    rcases Nat.lt_or_ge i k with h | h
    ·exact HJ.out i y h hy
    rw[show i=k by omega,HX.out] at hy;injection hy with hy;rw[<-hy];exact HR.out.symm
   go_wp2
   go_roundw
   case rel=>exact ⟨k+1,by omega,by go_num,HB1,HN⟩
   simp[intOf];omega
  go_wp2
  go_ret
  exact ⟨k,rfl,.inr ⟨by omega,_,HXM.out,HR.out.symm⟩,HB1.out⟩
 have hkn:k=n:=by omega
 subst hkn
 go_wp2
 go_ret
 refine ⟨-1,rfl,.inl ⟨rfl,fun x hx=>?_⟩,HB.out⟩
 obtain ⟨i,hi,rfl⟩:=List.getElem_of_mem hx
 exact HJ.out i _ (by have:=HL.out;omega) (List.getElem?_eq_getElem hi)
theorem aPt {A:Option Addr}{n c:Nat}{xs:List FV}{w:World}{q1:Value}(p:FV->Bool)(hn:n<=1000000)(h:RdF w w.heap.size A n c xs)
  (hC:∀(x:FV) (u:World),x∈xs->Below w.heap.size w u->Calls Tryz.prog 91 #[.agg #[.string x.path,.bool x.exec,.string x.text],q1] u fun e w'=>e=.returned (.bool (p x))/\Below u.heap.size u w') :
  Calls Tryz.prog 90 #[.slice A n c,.func (.func 91) #[] #[q1]] w fun e w'=>e=.returned (.bool (xs.any p))/\Below w.heap.size w w':=by
 have K:=aZa p hn h hC
 clear h hC
 obtain ⟨R,hR⟩:∃R,R=xs.any p:=⟨_,rfl⟩
 rw[<-hR]
 have HR:=hid hR
 clear hR
 go_enter Tryz.func90,Tryz.ntmps90
 go_wp2_with fail
 refine K.mono ?_
 rintro e w1 ⟨k,rfl,hk,hb1⟩
 have HB:=hid hb1
 clear K hb1
 rcases hk with ⟨rfl,hno⟩ | ⟨h0,x,hx,hp⟩
 ·have e1:R=false:=by rw[HR.out];exact List.any_eq_false.2 fun x hx=>by simp[hno x hx]
  clear hno
  subst e1
  go_wp2
  go_ret
  exact ⟨by first | rfl | simp,HB.out⟩
 have e1:R=true:=by rw[HR.out];exact List.any_eq_true.2 ⟨x,hx,hp⟩
 clear hx hp
 subst e1
 have e2:decide (k>=0)=true:=decide_eq_true h0
 go_wp2
 go_ret
 exact ⟨by first | rfl | simp[h0],HB.out⟩
end Go.Proofs.YtcemkikgaeghjaaGreatDoor
namespace Go.Proofs.YtcemkikgaeghjaaGreatDoor
section
variable {α:Type} {le:α->α->Bool}
theorem aBo (a b:α)(l r:List α):List.merge (a::l) (b::r) le=if le a b=true then a::List.merge l (b::r) le else b::List.merge (a::l) r le:=List.cons_merge_cons le a b l r
theorem aKz (l:List α):List.merge l [] le=l:=List.merge_right l
theorem aMl (l:List α):List.merge [] l le=l:=List.nil_merge l
theorem aLu (tr:∀a b c,le a b=true->le b c=true->le a c=true)(tl:∀a b,le a b=true\/le b a=true):∀(k:Nat)(xs ys zs:List α),xs.length+ys.length+zs.length<=k->
  List.merge (List.merge xs ys le) zs le=List.merge xs (List.merge ys zs le) le
 | _,[],ys,zs,_=>by rw[aMl,aMl]
 | _,x::xs,[],zs,_=>by rw[aKz,aMl]
 | _,x::xs,y::ys,[],_=>by rw[aKz,aKz]
 | 0,x::xs,y::ys,z::zs,h=>by simp at h
 | k+1,x::xs,y::ys,z::zs,h=>by
  have hl:xs.length+ys.length+zs.length+3<=k+1:=by simp only[List.length_cons] at h;omega
  have ih1:=aLu tr tl k xs (y::ys) (z::zs) (by simp only[List.length_cons];omega)
  have ih2:=aLu tr tl k (x::xs) ys (z::zs) (by simp only[List.length_cons];omega)
  have ih3:=aLu tr tl k (x::xs) (y::ys) zs (by simp only[List.length_cons];omega)
  by_cases xy:le x y=true
  ·by_cases yz:le y z=true
   ·rw[aBo x y,if_pos xy,aBo x z,if_pos (tr _ _ _ xy yz),ih1,aBo y z,if_pos yz,aBo x y,if_pos xy]
   rw[aBo y z,if_neg yz,aBo x z,aBo x y,if_pos xy,aBo x z]
   by_cases xz:le x z=true
   ·rw[if_pos xz,if_pos xz,ih1,aBo y z,if_neg yz]
   rw[if_neg xz,if_neg xz,<-ih3,aBo x y,if_pos xy]
  rw[aBo x y,if_neg xy,aBo y z,aBo y z]
  by_cases yz:le y z=true
  ·rw[if_pos yz,if_pos yz,aBo x y,if_neg xy,ih2]
  have yx:le y x=true:=(tl y x).resolve_right xy
  have xz:¬le x z=true:=fun h=>yz (tr _ _ _ yx h)
  rw[if_neg yz,if_neg yz,aBo x z,if_neg xz,<-ih3,aBo x y,if_neg xy]
theorem aIl:∀{x1 x2 y1 y2:List α},(∀y∈y1,∀x∈x2,le x y=false)->(∀x∈x1,∀y∈y2,le x y=true)->
  List.merge (x1++x2) (y1++y2) le=List.merge x1 y1 le++List.merge x2 y2 le
 | [],x2,[],y2,_,_=>by simp
 | [],[],y::y1,y2,_,_=>by simp
 | [],x::x2,y::y1,y2,h1,h2=>by
  have ih:=aIl (x1:=[]) (x2:=x::x2) (y1:=y1) (y2:=y2) (fun a ha=>h1 a (List.mem_cons_of_mem _ ha)) h2
  rw[List.nil_append] at ih
  rw[List.nil_append,List.cons_append,aBo,if_neg (by rw[h1 y List.mem_cons_self x List.mem_cons_self];decide),ih,aMl,aMl,List.cons_append]
 | x::x1,x2,[],[],_,_=>by simp
 | x::x1,x2,[],y::y2,h1,h2=>by
  have ih:=aIl (x1:=x1) (x2:=x2) (y1:=[]) (y2:=y::y2) h1 (fun a ha=>h2 a (List.mem_cons_of_mem _ ha))
  rw[List.nil_append] at ih
  rw[List.nil_append,List.cons_append,aBo,if_pos (h2 x List.mem_cons_self y List.mem_cons_self),ih,aKz,aKz,List.cons_append]
 | x::x1,x2,y::y1,y2,h1,h2=>by
  have ih1:=aIl (x1:=x1) (x2:=x2) (y1:=y::y1) (y2:=y2) h1 (fun a ha=>h2 a (List.mem_cons_of_mem _ ha))
  have ih2:=aIl (x1:=x::x1) (x2:=x2) (y1:=y1) (y2:=y2) (fun a ha=>h1 a (List.mem_cons_of_mem _ ha)) h2
  rw[List.cons_append,List.cons_append,aBo,aBo]
  rw[List.cons_append] at ih1 ih2
  by_cases xy:le x y=true
  ·rw[if_pos xy,if_pos xy,ih1,List.cons_append]
  rw[if_neg xy,if_neg xy,ih2,List.cons_append]
def ssort (le:α->α->Bool)(l:List α):List α:=l.foldl (fun out c=>List.merge out [c] le) []
theorem bFv (c:α):∀l:List α,List.merge l [c] le=l.takeWhile (fun x=>le x c)++c::l.dropWhile (fun x=>le x c)
 | []=>by simp
 | x::l=>by
  rw[aBo,List.takeWhile_cons,List.dropWhile_cons]
  by_cases h:le x c=true
  ·rw[if_pos h,if_pos h,if_pos h,bFv c l,List.cons_append]
  rw[if_neg h,if_neg h,if_neg h,aKz,List.nil_append]
theorem aJt (l:List α)(c:α):ssort le (l++[c])=List.merge (ssort le l) [c] le:=by
 unfold ssort;rw[List.foldl_append];rfl
theorem bBk (l:List α):(ssort le l).length=l.length:=by
 have:∀(l o:List α),(l.foldl (fun out c=>List.merge out [c] le) o).length=o.length+l.length:=by
  intro l
  induction l with
  | nil=>intro o;simp
  | cons a l ih=>intro o;rw[List.foldl_cons,ih,List.length_merge];simp;omega
 unfold ssort
 rw[this];simp
theorem aLd (tr:∀a b c,le a b=true->le b c=true->le a c=true)(tl:∀a b,le a b=true\/le b a=true)(a:List α):∀(k:Nat)(b:List α),b.length<=k->ssort le (a++b)=List.merge (ssort le a) (ssort le b) le
 | 0,b,h=>by
  rw[List.eq_nil_of_length_eq_zero (Nat.le_zero.1 h)]
  simp[ssort]
 | k+1,b,h=>by
  rcases List.eq_nil_or_concat b with rfl | ⟨b',c,rfl⟩
  ·simp[ssort]
  rw[List.concat_eq_append] at h ⊢
  have hk:b'.length<=k:=by simp at h;omega
  rw[<-List.append_assoc,aJt,aLd tr tl a k b' hk,aJt,aLu tr tl _ _ _ _ (Nat.le_refl _)]
theorem aKg (tr:∀a b c,le a b=true->le b c=true->le a c=true)(tl:∀a b,le a b=true\/le b a=true)(l:List α):(ssort le l).Pairwise (fun a b=>le a b=true):=by
 have:∀(l o:List α),o.Pairwise (fun a b=>le a b=true)->(l.foldl (fun out c=>List.merge out [c] le) o).Pairwise (fun a b=>le a b=true):=by
  intro l
  induction l with
  | nil=>intro o h;exact h
  | cons a l ih=>
   intro o h
   rw[List.foldl_cons]
   refine ih _ ?_
   exact List.pairwise_merge tr (fun a b=>by simpa using tl a b) _ _ h (List.pairwise_singleton _ _)
 exact this l [] List.Pairwise.nil
def segL (l:List α)(a b:Nat):List α:=(l.take b).drop a
theorem aWe {l:List α}{a b:Nat}(hb:b<=l.length):(segL l a b).length=b-a:=by
 unfold segL;rw[List.length_drop,List.length_take,Nat.min_eq_left hb]
theorem aCz {l:List α}{a m b:Nat}(h1:a<=m)(h2:m<=b):segL l a b=segL l a m++segL l m b:=by
 unfold segL
 rw[show l.take m=(l.take b).take m by rw[List.take_take,Nat.min_eq_left h2]]
 have e:((l.take b).take m).drop a++(l.take b).drop m=(l.take b).drop a:=by
  generalize l.take b=x
  rcases Nat.le_or_ge m x.length with hm | hm
  ·have:(x.take m++x.drop m).drop a=(x.take m).drop a++x.drop m:=List.drop_append_of_le_length (by rw[List.length_take];omega)
   rw[<-this,List.take_append_drop]
  rw[List.take_of_length_le hm,List.drop_eq_nil_of_le hm,List.append_nil]
 exact e.symm
theorem aWz (l:List α){n:Nat}(h:l.length<=n):segL l 0 n=l:=by unfold segL;rw[List.take_of_length_le h];rfl
theorem aDt {l:List α}{a b:Nat}(h:l.length<=a):segL l a b=[]:=by unfold segL;exact List.drop_eq_nil_of_le (by rw[List.length_take];omega)
structure Blk (le:α->α->Bool) (s:Nat) (l d:List α):Prop where
 len:d.length=l.length
 at_:∀i,segL d (i*s) ((i+1)*s)=ssort le (segL l (i*s) ((i+1)*s))
structure SegAs (d d':List α) (a b:Nat) (x:List α):Prop where
 len:d'.length=d.length
 here:segL d' a b=x
 there:∀i,i<a\/b<=i->d'[i]? = d[i]?
theorem aBu (l:List α)(a b i:Nat):(segL l a b)[i]? = if a+i<b then l[a+i]? else none:=by
 unfold segL
 rw[List.getElem?_drop,List.getElem?_take]
theorem aBp {d d':List α}{a b:Nat}(h:∀i,a<=i->i<b->d'[i]? = d[i]?):segL d' a b=segL d a b:=by
 apply List.ext_getElem?
 intro i
 rw[aBu,aBu]
 split
 ·exact h _ (by omega) (by assumption)
 rfl
theorem SegAs.other {d d':List α}{a b:Nat}{x:List α}(h:SegAs d d' a b x){u v:Nat}(huv:v<=a\/b<=u):segL d' u v=segL d u v:=
 aBp fun i h1 h2=>h.there i (by omega)
theorem SegAs.refl (d:List α)(a b:Nat):SegAs d d a b (segL d a b):=⟨rfl,rfl,fun _ _=>rfl⟩
theorem Blk.twice (tr:∀a b c,le a b=true->le b c=true->le a c=true)(tl:∀a b,le a b=true\/le b a=true){s:Nat} {l d d':List α}(h:Blk le s l d)(hl:d'.length=d.length)
  (hm:∀i,segL d' (i*(2*s)) ((i+1)*(2*s))=List.merge (segL d (2*i*s) ((2*i+1)*s)) (segL d ((2*i+1)*s) ((2*i+2)*s)) le):Blk le (2*s) l d':=by
 refine ⟨hl.trans h.len,fun i=>?_⟩
 rw[hm i,h.at_ (2*i),show 2*i+2=(2*i+1)+1 by omega,h.at_ (2*i+1),<-aLd tr tl _ _ _ (Nat.le_refl _),<-aCz (Nat.mul_le_mul_right _ (by omega)) (Nat.mul_le_mul_right _ (by omega))]
 rw[show i*(2*s)=2*i*s by rw[<-Nat.mul_assoc,Nat.mul_comm i 2],show (i+1)*(2*s)=(2*i+1+1)*s by rw[<-Nat.mul_assoc];congr 1;omega]
theorem Blk.all {s:Nat}{l d:List α}(h:Blk le s l d)(hs:l.length<=s):d=ssort le l:=by
 have:=h.at_ 0
 rwa [Nat.zero_mul,Nat.zero_add,Nat.one_mul,aWz _ (by rw[h.len];exact hs),aWz _ hs] at this
end
section
variable {α:Type} {le:α->α->Bool}
def Asc (le:α->α->Bool)(d:List α)(u v:Nat):Prop:=∀(i j:Nat) (x y:α),u<=i->i<j->j<v->d[i]? = some x->d[j]? = some y->le x y=true
theorem Asc.sub {d:List α} {u v u' v':Nat}(h:Asc le d u v)(h1:u<=u')(h2:v'<=v):Asc le d u' v':=fun i j x y a b c=>h i j x y (by omega) b (by omega)
theorem aEo {d:List α}{u v:Nat}(h:(segL d u v).Pairwise (fun a b=>le a b=true)):Asc le d u v:=fun i j x y a b c hx hy=>by
 have e1:(segL d u v)[i-u]? = some x:=by rw[aBu,if_pos (by omega),show u+(i-u)=i by omega];exact hx
 have e2:(segL d u v)[j-u]? = some y:=by rw[aBu,if_pos (by omega),show u+(j-u)=j by omega];exact hy
 obtain ⟨l1,g1⟩:=List.getElem?_eq_some_iff.1 e1
 obtain ⟨l2,g2⟩:=List.getElem?_eq_some_iff.1 e2
 have:=List.pairwise_iff_getElem.1 h (i-u) (j-u) l1 l2 (by omega)
 rw[g1,g2] at this;exact this
theorem aGw {d:List α}{u v:Nat}{x:α}(h:x∈segL d u v):∃i,u<=i/\i<v/\d[i]? = some x:=by
 obtain ⟨i,hi⟩:=List.getElem?_of_mem h
 rw[aBu] at hi
 split at hi
 ·exact ⟨u+i,by omega,by assumption,hi⟩
 cases hi
theorem aIq {d:List α}{i:Nat}(h:i<d.length):∃x,d[i]? = some x:=⟨_,List.getElem?_eq_getElem h⟩
theorem Asc.le' (rf:∀a,le a a=true){d:List α}{u v:Nat}(h:Asc le d u v){i j:Nat}{x y:α}(h1:u<=i)(h2:i<=j)(h3:j<v)(hx:d[i]? = some x)(hy:d[j]? = some y):le x y=true:=by
 rcases Nat.lt_or_eq_of_le h2 with h2 | rfl
 ·exact h i j x y h1 h2 h3 hx hy
 rw[hx] at hy;cases hy;exact rf x
theorem aVk (rf:∀a,le a a=true)(tr:∀a b c,le a b=true->le b c=true->le a c=true){d:List α}{a s m e b:Nat}(hb:b<=d.length)(has:a<=s)(hsm:s<=m)(hme:m<=e)(heb:e<=b)
  (hx:Asc le d a m) (hy:Asc le d m b) (h1:s=a\/e=b\/∀x y,d[s-1]? = some x->d[e]? = some y->le x y=true) (h2:s=m\/e=m\/∀x y,d[s]? = some x->d[e-1]? = some y->le x y=false) :
  List.merge (segL d a m) (segL d m b) le=List.merge (segL d a s) (segL d m e) le++List.merge (segL d s m) (segL d e b) le:=by
 rw[aCz has hsm,aCz hme heb]
 refine aIl (fun y hy' x hx'=>?_) (fun x hx' y hy'=>?_)
 ·obtain ⟨i,i1,i2,hi⟩:=aGw hx'
  obtain ⟨j,j1,j2,hj⟩:=aGw hy'
  rcases h2 with rfl | rfl | h2
  ·omega
  ·omega
  obtain ⟨xs,hs⟩:=aIq (d:=d) (i:=s) (by omega)
  obtain ⟨ye,he⟩:=aIq (d:=d) (i:=e-1) (by omega)
  have h3:=h2 xs ye hs he
  cases h4:le x y with
  | false=>rfl
  | true=>
   have a1:=hx.le' rf has i1 i2 hs hi
   have a2:=hy.le' rf j1 (show j<=e-1 by omega) (by omega) hj he
   rw[tr _ _ _ (tr _ _ _ a1 h4) a2] at h3
   cases h3
 obtain ⟨i,i1,i2,hi⟩:=aGw hx'
 obtain ⟨j,j1,j2,hj⟩:=aGw hy'
 rcases h1 with rfl | rfl | h1
 ·omega
 ·omega
 obtain ⟨xs,hs⟩:=aIq (d:=d) (i:=s-1) (by omega)
 obtain ⟨ye,he⟩:=aIq (d:=d) (i:=e) (by omega)
 have h3:=h1 xs ye hs he
 have a1:=hx.le' rf i1 (show i<=s-1 by omega) (by omega) hi hs
 have a2:=hy.le' rf hme j1 j2 he hj
 exact tr _ _ _ (tr _ _ _ a1 h3) a2
structure SwapAs (d d':List α) (i j:Nat):Prop where
 len:d'.length=d.length
 at_:∀t,d'[t]? = if t=i then d[j]? else if t=j then d[i]? else d[t]?
structure RangeAs (d d':List α) (a b n:Nat):Prop where
 len:d'.length=d.length
 at_:∀t,d'[t]? = if a<=t/\t<a+n then d[t-a+b]? else if b<=t/\t<b+n then d[t-b+a]? else d[t]?
theorem RangeAs.start (d:List α)(a b:Nat):RangeAs d d a b 0:=⟨rfl,fun t=>by rw[if_neg (by omega),if_neg (by omega)]⟩
theorem RangeAs.step {d d1 d2:List α}{a b n:Nat}(h:RangeAs d d1 a b n)(hs:SwapAs d1 d2 (a+n) (b+n))(hab:a+n<b):RangeAs d d2 a b (n+1):=by
 refine ⟨hs.len.trans h.len,fun t=>?_⟩
 rw[hs.at_ t,h.at_ (b+n),h.at_ (a+n),h.at_ t]
 by_cases e1:t=a+n
 ·rw[if_pos e1,if_neg (by omega),if_neg (by omega),if_pos (by omega)];congr 1;omega
 rw[if_neg e1]
 by_cases e2:t=b+n
 ·rw[if_pos e2,if_neg (by omega),if_neg (by omega),if_neg (by omega),if_pos (by omega)];congr 1;omega
 rw[if_neg e2]
 by_cases e3:a<=t/\t<a+n
 ·rw[if_pos e3,if_pos (by omega)]
 rw[if_neg e3,if_neg (show ¬(a<=t/\t<a+(n+1)) by omega)]
 by_cases e4:b<=t/\t<b+n
 ·rw[if_pos e4,if_pos (by omega)]
 rw[if_neg e4,if_neg (by omega)]
structure Rot (d F:List α) (m i j:Nat):Prop where
 len:F.length=d.length
 im:i<=m
 at_:∀t,F[t]? = if m-i<=t/\t<m-i+j then d[t+i]? else if m-i+j<=t/\t<m+j then d[t-j]? else d[t]?
theorem Rot.left {d d' F:List α}{m i j:Nat}(h:Rot d F m i j)(hij:j<i)(hr:RangeAs d d' (m-i) m j):Rot d' F m (i-j) j:=by
 have him:=h.im
 refine ⟨h.len.trans hr.len.symm,by omega,fun t=>?_⟩
 rw[h.at_ t]
 by_cases c1:m-(i-j)<=t/\t<m-(i-j)+j
 ·rw[if_pos c1,hr.at_]
  by_cases c2:m-i<=t/\t<m-i+j
  ·omega
  rw[if_neg c2,if_pos (by omega)]
  by_cases c3:m-i<=t+(i-j)/\t+(i-j)<m-i+j
  ·omega
  rw[if_neg c3,if_pos (by omega)];congr 1;omega
 rw[if_neg c1]
 by_cases c2:m-(i-j)+j<=t/\t<m+j
 ·rw[if_pos c2,hr.at_,if_neg (by omega),if_pos (by omega),if_neg (by omega),if_neg (by omega)]
 rw[if_neg c2,hr.at_]
 by_cases c3:m-i<=t/\t<m-i+j
 ·rw[if_pos c3,if_pos c3];congr 1;omega
 rw[if_neg c3,if_neg c3,if_neg (by omega),if_neg (by omega)]
theorem Rot.right {d d' F:List α}{m i j:Nat}(h:Rot d F m i j)(hij:i<j)(hr:RangeAs d d' (m-i) (m+j-i) i):Rot d' F m i (j-i):=by
 have him:=h.im
 refine ⟨h.len.trans hr.len.symm,him,fun t=>?_⟩
 rw[h.at_ t]
 by_cases c1:m-i<=t/\t<m-i+(j-i)
 ·rw[if_pos c1,if_pos (by omega),hr.at_]
  by_cases c2:m-i<=t+i/\t+i<m-i+i
  ·omega
  rw[if_neg c2,if_neg (by omega)]
 rw[if_neg c1]
 by_cases c2:m-i+(j-i)<=t/\t<m+(j-i)
 ·rw[if_pos c2,hr.at_,if_pos (by omega),if_pos (by omega)];congr 1;omega
 rw[if_neg c2,hr.at_]
 by_cases c3:m-i<=t/\t<m-i+i
 ·omega
 rw[if_neg c3]
 by_cases c4:m+j-i<=t/\t<m+j-i+i
 ·rw[if_neg (by omega),if_pos (by omega),if_pos c4];congr 1;omega
 rw[if_neg (by omega),if_neg (by omega),if_neg c4]
theorem Rot.done {d d' F:List α}{m i:Nat}(h:Rot d F m i i)(hr:RangeAs d d' (m-i) m i):F=d':=by
 have him:=h.im
 apply List.ext_getElem?
 intro t
 rw[h.at_ t,hr.at_ t]
 by_cases c1:m-i<=t/\t<m-i+i
 ·rw[if_pos c1,if_pos c1];congr 1;omega
 rw[if_neg c1,if_neg c1]
 by_cases c2:m-i+i<=t/\t<m+i
 ·rw[if_pos c2,if_pos (by omega)];congr 1;omega
 rw[if_neg c2,if_neg (by omega)]
def rotL (d:List α)(a m b:Nat):List α:=d.take a++(segL d m b++segL d a m)++d.drop b
theorem aCt {d:List α}{a m b:Nat}(h1:a<=m)(h2:m<=b)(h3:b<=d.length):Rot d (rotL d a m b) m (m-a) (b-m):=by
 have l1:(d.take a).length=a:=by rw[List.length_take];omega
 have l2:(segL d m b).length=b-m:=aWe h3
 have l3:(segL d a m).length=m-a:=aWe (by omega)
 have l4:(d.take a++(segL d m b++segL d a m)).length=b:=by rw[List.length_append,List.length_append,l1,l2,l3];omega
 refine ⟨by unfold rotL;rw[List.length_append,l4,List.length_drop];omega,by omega,fun t=>?_⟩
 unfold rotL
 by_cases c0:t<b
 ·rw[List.getElem?_append_left (by rw[l4];exact c0)]
  by_cases c1:t<a
  ·rw[List.getElem?_append_left (by rw[l1];exact c1),List.getElem?_take_of_lt c1,if_neg (by omega),if_neg (by omega)]
  rw[List.getElem?_append_right (by rw[l1];omega),l1]
  by_cases c2:t-a<b-m
  ·rw[List.getElem?_append_left (by rw[l2];exact c2),aBu,if_pos (by omega),if_pos (by omega)];congr 1;omega
  rw[List.getElem?_append_right (by rw[l2];omega),l2,aBu,if_pos (by omega),if_neg (by omega),if_pos (by omega)];congr 1;omega
 rw[List.getElem?_append_right (by rw[l4];omega),l4,List.getElem?_drop,if_neg (by omega),if_neg (by omega)];congr 1;omega
theorem aGu {d:List α}{a m b:Nat}(h1:a<=m)(h2:m<=b)(h3:b<=d.length):(rotL d a m b).length=d.length:=(aCt h1 h2 h3).len
theorem aEb {d:List α}{a m b:Nat}(h1:a<=m)(h2:m<=b)(h3:b<=d.length){t:Nat}(h:t<a\/b<=t):(rotL d a m b)[t]? = d[t]?:=by
 rw[(aCt h1 h2 h3).at_ t,if_neg (by omega),if_neg (by omega)]
theorem aUd {d:List α}{a m b:Nat}(h1:a<=m)(h2:m<=b)(h3:b<=d.length):segL (rotL d a m b) a (a+(b-m))=segL d m b:=by
 apply List.ext_getElem?
 intro i
 rw[aBu,aBu]
 by_cases c:a+i<a+(b-m)
 ·rw[if_pos c,if_pos (by omega),(aCt h1 h2 h3).at_,if_pos (by omega)];congr 1;omega
 rw[if_neg c,if_neg (by omega)]
theorem aUg {d:List α}{a m b:Nat}(h1:a<=m)(h2:m<=b)(h3:b<=d.length):segL (rotL d a m b) (a+(b-m)) b=segL d a m:=by
 apply List.ext_getElem?
 intro i
 rw[aBu,aBu]
 by_cases c:a+i<m
 ·rw[if_pos (by omega),if_pos c,(aCt h1 h2 h3).at_,if_neg (by omega),if_pos (by omega)];congr 1;omega
 rw[if_neg (by omega),if_neg c]
end
end Go.Proofs.YtcemkikgaeghjaaGreatDoor
