/- Texts of the walks, together: Walk: treemerge.made (not finished). Walk: treemerge.made. Plain: with distinct paths in base, what made's maps hold is what treemergeF asks. Walk: treemerge's put$1. Walk: slices.ContainsFunc of files, at put's closure. Plain law: stable sorting by insertion, and by merging of blocks, come to the same. Plain law: what a rotation and a step of symMerge do to a list. Plain law: the steps of symMerge and of the insertion sort merge. -/
import Derived.Test.YtohblmepajhpaaaGreatDoorG05
import Derived.Test.YtohblmepajhpaaaGreatDoorG17
set_option maxHeartbeats 8000000
set_option maxRecDepth 100000
open Go.Lib (hid)
namespace Go.Proofs.YtohblmepajhpaaaGreatDoor
open Go.RowKit
def sendL (base side:List FV)(L:List (Nat×Nat))(q:ByteArray):Option ByteArray:=L.foldl (fun r p=>if q=pathAt base p.1 then some (pathAt side p.2) else r) none
def takenL (side:List FV)(L:List (Nat×Nat))(q:Bs):Bool:=L.any fun p=>decide ((pathAt side p.2).data.toList=q)
theorem bAq (base side:List FV)(L:List (Nat×Nat))(p:Nat×Nat)(q:ByteArray):sendL base side (L++[p]) q=if q=pathAt base p.1 then some (pathAt side p.2) else sendL base side L q:=by
 unfold sendL;rw[List.foldl_append];rfl
theorem aVu (side:List FV)(L:List (Nat×Nat))(p:Nat×Nat)(q:Bs):takenL side (L++[p]) q=(takenL side L q || decide ((pathAt side p.2).data.toList=q)):=by
 unfold takenL;rw[List.any_append];simp
structure SideIs (w:World) (B s:Nat) (fs:Value) (base side:List FV) (L:List (Nat×Nat)):Prop where
 ex:∃m1 m2 n1 n2 D1 D2,w.heap[s]? = some (.cells #[fs,.map (some m1),.map (some m2)] 214 (0,0))/\MpT w m1 n1 D1 (sendL base side L)/\SetT w m2 n2 D2 (takenL side L)/\n1<=L.length/\n2<=L.length/\B<=m1/\B<=m2/\m1≠m2
 lo:B<=s
theorem SideIs.below {w w':World}{B s:Nat}{fs:Value}{base side:List FV}{L:List (Nat×Nat)}(h:SideIs w B s fs base side L)(hb:Below w.heap.size w w'):SideIs w' B s fs base side L:=by
 obtain ⟨⟨m1,m2,n1,n2,D1,D2,h1,h2,h3,h4⟩,hl⟩:=h
 exact ⟨⟨m1,m2,n1,n2,D1,D2,(hb.block s (aAa h1)).trans h1,h2.below hb,h3.below hb,h4⟩,hl⟩
theorem SideIs.start (w:World)(fs:Value)(base side:List FV) :
  SideIs (((w.alloc (.map #[] 0)).alloc (.map #[] 0)).alloc (.cells #[fs,.map (some w.heap.size),.map (some (w.heap.size+1))] 214)) w.heap.size (w.heap.size+2) fs base side []:=by
 have hb1:Below (w.alloc (.map #[] 0)).heap.size (w.alloc (.map #[] 0)) ((w.alloc (.map #[] 0)).alloc (.map #[] 0)):=(Below.refl _ _).alloc (Nat.le_refl _) _
 have hb2:Below ((w.alloc (.map #[] 0)).alloc (.map #[] 0)).heap.size ((w.alloc (.map #[] 0)).alloc (.map #[] 0)) (((w.alloc (.map #[] 0)).alloc (.map #[] 0)).alloc (.cells #[fs,.map (some w.heap.size),.map (some (w.heap.size+1))] 214)):=(Below.refl _ _).alloc (Nat.le_refl _) _
 have hs1:(w.alloc (.map #[] 0)).heap.size=w.heap.size+1:=by simp
 have hs2:((w.alloc (.map #[] 0)).alloc (.map #[] 0)).heap.size=w.heap.size+2:=by simp
 have hM1:=((MpT.start w).below hb1).below hb2
 have hM2:=(SetT.start (w.alloc (.map #[] 0))).below hb2
 have hN:=heap_alloc_new ((w.alloc (.map #[] 0)).alloc (.map #[] 0)) (.cells #[fs,.map (some w.heap.size),.map (some (w.heap.size+1))] 214)
 rw[hs2] at hN
 rw[hs1] at hM2
 exact ⟨⟨_,_,0,0,_,_,hN,hM1,hM2,Nat.le_refl _,Nat.le_refl _,Nat.le_refl _,by omega,by omega⟩,by omega⟩
def CellsStay (w u:World):Prop:=∀(k:Nat) (cur:Array Value) (T:TypeId) (fr:Nat×Nat),w.heap[k]? = some (.cells cur T fr)->u.heap[k]? = some (.cells cur T fr)
theorem CellsStay.grown {w u:World}{b:Nat}{es:Array MapEntry}{ck:Nat}(hg:w.grownBy u (some b))(hb:w.heap[b]? = some (.map es ck)):CellsStay w u:=fun k cur T fr hk=>
 (hg.block k (aAa hk) (fun e=>by injection e with e;rw[e,hb] at hk;cases hk)).trans hk
theorem CellsStay.trans {w u v:World}(h:CellsStay w u)(h2:CellsStay u v):CellsStay w v:=fun k cur T fr hk=>h2 k cur T fr (h k cur T fr hk)
structure StepW (w:World) (B s m1 m2:Nat) (a b:ByteArray) (w1 w2 w3 w4:World) (v1 s1 v2 s2:Value):Prop where
 c1:w.cell? ⟨s,1,none⟩=some (.map (some m1))
 c2:w.cell? ⟨s,2,none⟩=some (.map (some m2))
 r1:(Instr.mapEntry 211 (.map (some m1)) (.agg #[.string a])).run Tryz.prog w=.ok (.tuple #[v1,s1]) w1
 r2:(Instr.entryStore 211 (.map (some m1)) s1 (.string b)).run Tryz.prog w1=.ok () w2
 r3:(Instr.mapEntry 212 (.map (some m2)) (.agg #[.string b])).run Tryz.prog w2=.ok (.tuple #[v2,s2]) w3
 r4:(Instr.entryStore 212 (.map (some m2)) s2 (.bool true)).run Tryz.prog w3=.ok () w4
 b1:Below B w w1
 b2:Below B w w2
 b3:Below B w w3
 b4:Below B w w4
 k1:CellsStay w w1
 k2:CellsStay w w2
 k3:CellsStay w w3
 k4:CellsStay w w4
theorem SideIs.step {w:World}{B s:Nat}{fs:Value}{base side:List FV}{L:List (Nat×Nat)}{p:Nat×Nat}(h:SideIs w B s fs base side L)(hB:B<=w.heap.size)(h1:(pathAt base p.1).size<=maxLen)(h2:(pathAt side p.2).size<=maxLen)(hl:L.length<maxLen) :
  ∃m1 m2 w1 w2 w3 w4 v1 s1 v2 s2,StepW w B s m1 m2 (pathAt base p.1) (pathAt side p.2) w1 w2 w3 w4 v1 s1 v2 s2/\SideIs w4 B s fs base side (L++[p])/\∃cs:Array Value,w.heap[s]? = some (.cells cs 214 (0,0))/\cs[1]? = some (.map (some m1))/\cs[2]? = some (.map (some m2)):=by
 obtain ⟨⟨m1,m2,n1,n2,D1,D2,hs,hm1,hm2,hn1,hn2,hb1,hb2,hne⟩,hlo⟩:=h
 obtain ⟨w1,w2,v1,s1,r1,r2,o2,g2,g1⟩:=aJx hm1.own KT Tryz.underlying211 Tryz.zeroValue9 (Nat.lt_of_le_of_lt hn1 hl) (keyT h1) (show Rv (.string (pathAt side p.2))=some (.held (.string (pathAt side p.2)),[]) from rfl)
 have hM1:=hm1.put h1 o2 (bAq base side L p)
 have hM2:=hm2.kept g2 (by simpa using hne.symm)
 obtain ⟨w3,w4,v2,s2,r3,r4,o4,g4,g3⟩:=aJx hM2.own KT Tryz.underlying212 Tryz.zeroValue4 (Nat.lt_of_le_of_lt hn2 hl) (keyT h2) (boolT true)
 have hM2':=hM2.put h2 o4 (aVu side L p)
 have hM1':=hM1.kept g4 (by simpa using hne)
 obtain ⟨es1,ck1,hk1,_⟩:=hm1.own
 obtain ⟨es2,ck2,hk2,_⟩:=hM2.own
 have hs2:=(g2.block s (aAa hs) (fun e=>by injection e with e;rw[e,hk1] at hs;cases hs)).trans hs
 have hs4:=(g4.block s (aAa hs2) (fun e=>by injection e with e;rw[e,hk2] at hs2;cases hs2)).trans hs2
 have bl:∀{u u':World} {m:Nat},u.grownBy u' (some m)->B<=m->Below B w u->Below B w u':=fun {u} {u'} {m} hg hm hu=>hu.grown hg (Nat.le_trans hB hu.size) (fun g hg=>by injection hg with hg;omega)
 refine ⟨m1,m2,w1,w2,w3,w4,v1,s1,v2,s2,⟨by rw[Lib.cell_of_heap hs];rfl,by rw[Lib.cell_of_heap hs];rfl,r1,r2,r3,r4,bl g1 hb1 (Below.refl _ _),bl g2 hb1 (Below.refl _ _),bl g3 hb2 (bl g2 hb1 (Below.refl _ _)),bl g4 hb2 (bl g2 hb1 (Below.refl _ _)),.grown g1 hk1,.grown g2 hk1,(CellsStay.grown g2 hk1).trans (.grown g3 hk2),(CellsStay.grown g2 hk1).trans (.grown g4 hk2)⟩,⟨⟨m1,m2,n1+1,n2+1,_,_,hs4,hM1',hM2',?_,?_,hb1,hb2,hne⟩,hlo⟩,_,hs,rfl,rfl⟩
 ·rw[List.length_append,List.length_singleton];exact Nat.succ_le_succ hn1
 rw[List.length_append,List.length_singleton];exact Nat.succ_le_succ hn2
theorem aIk {P:Program}{S:World->Prop}{a:Act} {w w':World}{K:Act->World->Prop}{dst:Option Tmp}{t ty:TypeId}{m x:Operand}{q:Bool}{g:Option (Tmp×Bool)}{mv key v:Value}(hm:a.eval m=mv)(hx:a.eval x=key)
  (hrun:(Instr.mapEntry t mv key).run P w=.ok v w') (hK:S w'/\K (a.put dst v) w'):effq P S ⟨q,dst,.mapEntry t m x,ty,g⟩ a w K:=by
 intro p af g
 unfold Oper.wp execOp
 simp only[hm,hx,hrun,Sem.run_bind,Sem.run_pure,Result.andThen_ok]
 exact hK
theorem aFt {P:Program}{S:World->Prop}{a:Act} {w w':World}{K:Act->World->Prop}{dst:Option Tmp}{t ty:TypeId}{m x y:Operand}{q:Bool}{g:Option (Tmp×Bool)}{mv st val:Value}(hm:a.eval m=mv)(hx:a.eval x=st)(hy:a.eval y=val)
  (hrun:(Instr.entryStore t mv st val).run P w=.ok () w') (hK:S w'/\K (a.put dst undef) w'):effq P S ⟨q,dst,.entryStore t m x y,ty,g⟩ a w K:=by
 intro p af g
 unfold Oper.wp execOp
 simp only[hm,hx,hy,hrun,Sem.run_bind,Sem.run_pure,Result.andThen_ok]
 exact hK
theorem aTm {l:List FV}(h:∀f∈l,f.path.size<=140737488351232/\f.text.size<=140737488351232)(i:Nat):(pathAt l i).size<=maxLen:=by
 unfold pathAt
 cases hl:l[i]? with
 | none=>exact Nat.zero_le _
 | some f=>
  have:=(h f (List.mem_of_getElem? hl)).1
  show f.path.size<=maxLen
  unfold maxLen;omega
theorem bIs {w:World}{B n:Nat}{v:Value}{base side:List FV}{L:List (Nat×Nat)}{k:Nat}{p:Nat×Nat}(h:w.ownsRow B 132 2 v n (L.flatMap (renC base side)))(hp:L[k]? = some p) :
  ∃g c cur,v=.slice (some ⟨g,0,none⟩) n c/\w.heap[g]? = some (.cells cur 132 (0,0))/\cur[k*2]? = some (.string (pathAt base p.1))/\cur[k*2+1]? = some (.string (pathAt side p.2)):=by
 have hk:∀x,(renC base side x).length=2:=fun _=>rfl
 have e0:=flat_get hk hp (show 0<2 by decide)
 have e1:=flat_get hk hp (show 1<2 by decide)
 rcases h with ⟨h0,⟨rfl,hn⟩ | ⟨g,cap,cur,rfl,_,h2,h3,h4,h5,h6⟩⟩
 ·have hnil:L.flatMap (renC base side)=[]:=List.eq_nil_of_length_eq_zero (by rw[h0,hn])
  rw[hnil] at e0
  cases e0
 have q0:=aAy h6 e0
 have q1:=aAy h6 e1
 exact ⟨g,cap,cur,rfl,h2,by simpa using q0,by simpa using q1⟩
theorem aKx (a:ByteArray)(w:World):(Instr.build 216 #[(0,.string a)]).run Tryz.prog w=.ok (.agg #[.string a]) w:=by
 go_simp
def SideMade (base side:List FV)(fs:Value)(w:World)(e:Ending) (w':World):Prop:=
 ∃(L:List (Nat×Nat)) (s:Nat),L.Perm (pairsF base side)/\e=.returned (.pointer (some ⟨s,0,none⟩))/\SideIs w' w.heap.size s fs base side L/\Below w.heap.size w w'
theorem aJy {w:World}{A B:Option Addr}{n ca m cb:Nat}{base side:List FV}(hL:Lm w)(hn:n<=100000)(hm:m<=100000)(ha:RdF w w.heap.size A n ca base)(hs:RdF w w.heap.size B m cb side)
  (hbt:∀f∈base,f.text.size<=1000000) (hst:∀f∈side,f.text.size<=1000000) :
  Calls Tryz.prog 129 #[.slice A n ca,.slice B m cb] w (SideMade base side (.slice B m cb) w):=by
 have HS0:=hid (SideIs.start w (.slice B m cb) base side)
 obtain ⟨W,eW⟩:∃W,W=((w.alloc (.map #[] 0)).alloc (.map #[] 0)).alloc (.cells #[.slice B m cb,.map (some w.heap.size),.map (some (w.heap.size+1))] 214):=⟨_,rfl⟩
 have hW:Below w.heap.size w W:=by rw[eW];exact (((Below.refl _ _).alloc (Nat.le_refl _) _).alloc (by simp) _).alloc (by simp;omega) _
 rw[<-eW] at HS0
 have KR:=aUq (hL.to hW) hn hm (ha.to hW hW.size) (hs.to hW hW.size) hbt hst
 have HW:=hid hW
 clear hW hL hbt hst
 have hmm:=@run_makeMap Tryz.prog
 go_enter Tryz.func129,Tryz.ntmps129
 go_wp2_with fail
 rw[<-eW]
 clear eW hmm
 refine KR.mono ?_
 rintro e w1 ⟨L,v,hperm,rfl,ho,hb1⟩
 have hLl:L.length<=100000:=by have:=hperm.length_eq;have:=aJn base side;have:=ha.len;omega
 have HPM:=hid hperm
 have HOW:=hid (fun (k:Nat) (p:Nat×Nat) (hp:L[k]? = some p)=>bIs ho hp)
 have HS1:=hid (HS0.out.below hb1)
 have HB1:=hid (HW.out.trans (hb1.mono HW.out.size))
 obtain ⟨E,ec,rfl,hec⟩:=aAd ho
 have HPA:=hid (show ∀p∈L,(pathAt base p.1).size<=maxLen/\(pathAt side p.2).size<=maxLen from fun p hp=>⟨aTm ha.fits p.1,aTm hs.fits p.2⟩)
 clear KR hperm ho hb1 HS0 ha hs
 go_wp2
 go_loopw[17] (fun i wr=>∃k:Nat,k<=L.length/\i=.int .i64 k/\Hid (SideIs wr w.heap.size (w.heap.size+2) (.slice B m cb) base side (L.take k))/\Hid (CellsStay w1 wr)/\Hid (Below w.heap.size w wr)) (fun i _=>L.length-(intOf i).toNat)
 case atStart=>exact ⟨0,Nat.zero_le _,rfl,HS1,hid (fun _ _ _ _ h=>h),HB1⟩
 obtain ⟨k,hk,rfl,HSI,HCS,HBW⟩:=hrel
 by_cases hlt:k<L.length
 ·have hp:=List.getElem?_eq_getElem hlt
  generalize L[k]=p at hp
  have hpb:=HPA.out p (List.mem_of_getElem? hp)
  obtain ⟨g,c9,cur,eE,hg,x0,x1⟩:=HOW.out k p hp
  injection eE with eE1 _ eE2
  subst eE1 eE2
  have hgw:=HCS.out g cur _ _ hg
  have c0:wr.cell? ⟨g,k*2,none⟩=some (.string (pathAt base p.1)):=by rw[Lib.cell_of_heap hgw];exact x0
  have c1:wr.cell? ⟨g,k*2+1,none⟩=some (.string (pathAt side p.2)):=by rw[Lib.cell_of_heap hgw];exact x1
  have HT:=hid (show L.take (k+1)=L.take k++[p] by rw[List.take_add_one,hp];rfl)
  generalize ea:pathAt base p.1=a at *
  generalize eb:pathAt side p.2=b at *
  have hba:Below wr.heap.size wr (wr.alloc (.cells #[.string a,.string b] 132)):=(Below.refl _ _).alloc (Nat.le_refl _) _
  have HIX:=hid (heap_alloc_new wr (.cells #[.string a,.string b] 132))
  obtain ⟨m1,m2,w2,w3,w4,w5,v1,s1,v2,s2,hst,hnx,hsc⟩:=(HSI.out.below (hba.mono (Nat.le_refl _))).below ((Below.refl _ _).drew) |>.step (p:=p) (Nat.le_trans HBW.out.size hba.size) (by rw[ea];exact hpb.1) (by rw[eb];exact hpb.2) (by rw[List.length_take];unfold maxLen;omega)
  rw[ea,eb] at hst
  have HST:=hid hst
  have HSC:=hid hsc
  have HNX:=hid hnx
  have HB5:=hid (HBW.out.trans (hba.mono HBW.out.size))
  have HC5:=hid (show CellsStay w1 (wr.alloc (.cells #[.string a,.string b] 132)) from fun k cur T fr h=>(hba.block k (aAa (HCS.out k cur T fr h))).trans (HCS.out k cur T fr h))
  clear hst hnx hsc hba hgw hg x0 x1 hp HSI HBW HCS hpb
  go_wp2
  have d1:=HST.out.c1
  have d2:=HST.out.c2
  have d0:=heap_alloc_new wr (.cells #[.string a,.string b] 132)
  generalize wr.alloc (.cells #[.string a,.string b] 132)=V5 at *
  refine aAv (fun u=>CellsStay V5 u) (.q 0 (.q 1 (.q 2 (.q 3 (.q 4 (.q 5 (.b 6 (.q 7 (.q 8 (.q 9 (.q 10 (.q 11 (.q 12 (.b 13 (.q 14 (.q 15 (.one 16 (.q 17 (.one 18 (.one 19 (.q 20 (.one 21 .leaf)))))))))))))))))))))) mixed (by kernel_rfl) (fun _ _ _ _ h=>h) ?_
  intro Tp M Q hT hT' hM hQ
  obtain ⟨cs,hcs,hcs1,hcs2⟩:=HSC.out
  replace hcs:V5.heap[w.heap.size+2]? = some (.cells cs 214 (0,0)):=hcs
  have m0:M ⟨wr.heap.size,0,none⟩=some (.string a):=hM _ _ fun w' hw=>by rw[Lib.cell_of_heap (hw _ _ _ _ d0)];rfl
  have m4:M ⟨wr.heap.size,1,none⟩=some (.string b):=hM _ _ fun w' hw=>by rw[Lib.cell_of_heap (hw _ _ _ _ d0)];rfl
  have q1:M ⟨w.heap.size+2,1,none⟩=some (.map (some m1)):=hM _ _ fun w' hw=>by rw[Lib.cell_of_heap (hw _ _ _ _ hcs)];exact hcs1
  have q2:M ⟨w.heap.size+2,2,none⟩=some (.map (some m2)):=hM _ _ fun w' hw=>by rw[Lib.cell_of_heap (hw _ _ _ _ hcs)];exact hcs2
  clear hM
  refine aDy ?_
  intro O hO
  have t0:=hO true 0
  have t1:=hO true 1
  have t2:=hO true 2
  have t3:=hO true 3
  have t4:=hO true 4
  have t5:=hO true 5
  have t6:=hO true 6
  have t7:=hO true 7
  have t8:=hO true 8
  have t9:=hO true 9
  have t10:=hO true 10
  have t11:=hO true 11
  have t12:=hO true 12
  have t13:=hO true 13
  have t14:=hO true 14
  have t15:=hO true 15
  have t17:=hO true 17
  have t20:=hO true 20
  have e16:=hO false 16
  have e18:=hO false 18
  have e19:=hO false 19
  have e21:=hO false 21
  simp only[qcmp] at t0 t1 t2 t3 t4 t5 t6 t7 t8 t9 t10 t11 t12 t13 t14 t15 t17 t20 e16 e18 e19 e21
  clear hO
  simp (maxSteps:=9^7) only[↓wt_q,↓wt_b,t0,t1,t2,t3,t4,t5,t6,↓qpre,aAb,aAe,aAc,m0,q1]
  refine aBp rfl (fun w=>aKx _ w) ?_
  simp (maxSteps:=9^7) only[↓wt_q,↓wt_b,t7,t8,t9,t10,t11,t12,t13,↓qpre,aAb,aAe,aAc,q2,m4]
  refine aBp rfl (fun w=>aKx _ w) ?_
  simp (maxSteps:=9^7) only[↓wt_q,↓aAl,t14,t15,e16,↓qpre,aAb,aAe,aAc,m4]
  refine aIk rfl rfl HST.out.r1 ⟨hT _ HST.out.k1,?_⟩
  simp (maxSteps:=9^7) only[↓wt_q,↓aAl,t17,e18,↓qpre,aAb,aAc]
  refine aFt rfl rfl rfl HST.out.r2 ⟨hT _ HST.out.k2,?_⟩
  simp (maxSteps:=9^7) only[↓aAl,e19,aAb]
  refine aIk rfl rfl HST.out.r3 ⟨hT _ HST.out.k3,?_⟩
  simp (maxSteps:=9^7) only[↓wt_q,↓aAl,t20,e21,↓qpre,aAb,aAc]
  refine aFt rfl rfl rfl HST.out.r4 ⟨hT _ HST.out.k4,?_⟩
  simp (maxSteps:=9^7) only[aAb]
  refine hQ _ _ ?_
  have HSN:Hid (SideIs w5 w.heap.size (w.heap.size+2) (.slice B m cb) base side (L.take (k+1))):=by rw[HT.out];exact HNX
  have HCN:Hid (CellsStay w1 w5):=hid (HC5.out.trans HST.out.k4)
  have HBN:Hid (Below w.heap.size w w5):=hid (HB5.out.drew.trans HST.out.b4)
  clear hQ hT hT' m0 m4 q1 q2 d0 d1 d2 hcs hcs1 hcs2 HST HNX HSC t0 t1 t2 t3 t4 t5 t6 t7 t8 t9 t10 t11 t12 t13 t14 t15 t17 t20 e16 e18 e19 e21
  go_wp2
  go_roundw
  case rel=>exact ⟨k+1,by omega,by go_num,HSN,HCN,HBN⟩
  simp[intOf];omega
 have hkn:k=L.length:=by omega
 subst hkn
 have HF:Hid (SideMade base side (.slice B m cb) w (.returned (.pointer (some ⟨w.heap.size+2,0,none⟩))) wr):=hid ⟨L,_,HPM.out,rfl,by have:=HSI.out;rw[List.take_of_length_le (Nat.le_refl _)] at this;exact this,HBW.out⟩
 clear HSI HCS HBW
 go_wp2
 go_ret
 exact HF.out
theorem aJm {base side:List FV}{q v:ByteArray}:∀{L:List (Nat×Nat)},(∀a∈L,q=pathAt base a.1->pathAt side a.2=v)->L.foldl (fun r p=>if q=pathAt base p.1 then some (pathAt side p.2) else r) (some v)=some v
 | [],_=>rfl
 | a::L,h=>by
  rw[List.foldl_cons]
  by_cases e:q=pathAt base a.1
  ·rw[if_pos e,h a List.mem_cons_self e];exact aJm fun b hb=>h b (List.mem_cons_of_mem _ hb)
  rw[if_neg e];exact aJm fun b hb=>h b (List.mem_cons_of_mem _ hb)
theorem aTj {base side:List FV}{q v:ByteArray}:∀{L:List (Nat×Nat)} (r:Option ByteArray),(∀a∈L,q=pathAt base a.1->pathAt side a.2=v)->(∃a∈L,q=pathAt base a.1)->L.foldl (fun r p=>if q=pathAt base p.1 then some (pathAt side p.2) else r) r=some v
 | [],_,_,h2=>by obtain ⟨a,ha,_⟩:=h2;cases ha
 | a::L,r,h,h2=>by
  rw[List.foldl_cons]
  by_cases e:q=pathAt base a.1
  ·rw[if_pos e,h a List.mem_cons_self e];exact aJm fun b hb=>h b (List.mem_cons_of_mem _ hb)
  rw[if_neg e]
  obtain ⟨b,hb,hq⟩:=h2
  rcases List.mem_cons.1 hb with rfl | hb
  ·exact absurd hq e
  exact aTj r (fun b hb=>h b (List.mem_cons_of_mem _ hb)) ⟨b,hb,hq⟩
theorem aOm {base side:List FV}{q:ByteArray}:∀{L:List (Nat×Nat)} (r:Option ByteArray),(∀a∈L,q≠pathAt base a.1)->L.foldl (fun r p=>if q=pathAt base p.1 then some (pathAt side p.2) else r) r=r
 | [],_,_=>rfl
 | a::L,r,h=>by
  rw[List.foldl_cons,if_neg (h a List.mem_cons_self)]
  exact aOm r fun b hb=>h b (List.mem_cons_of_mem _ hb)
theorem aDg {l:List FV}{i:Nat}(h:i<l.length):(l[i]?).map FV.path=some (pathAt l i):=by
 unfold pathAt;rw[List.getElem?_eq_getElem h];rfl
theorem bAu {l:List FV}(hn:(l.map FV.path).Nodup){i j:Nat}(hi:i<l.length)(hj:j<l.length)(h:pathAt l i=pathAt l j):i=j:=by
 have e:(l.map FV.path)[i]? = (l.map FV.path)[j]?:=by rw[List.getElem?_map,List.getElem?_map,aDg hi,aDg hj,h]
 exact (List.getElem?_inj (by simpa using hi) hn).1 e
theorem aWb {base side:List FV}{L:List (Nat×Nat)}(hn:(base.map FV.path).Nodup)(hp:L.Perm (pairsF base side))(q:ByteArray):sendL base side L q=movedF base side q:=by
 have ok:=aDv base side
 have lt1:∀a∈pairsF base side,a.1<base.length:=fun a ha=>aFv (ok.from_ a ha)
 have lt2:∀a∈pairsF base side,a.2<side.length:=fun a ha=>aFv (ok.into a ha)
 unfold movedF sendL
 cases hf:(pairsF base side).find? fun x=>decide (((base[x.1]?).map FV.path)=some q) with
 | none=>
  refine aOm none fun a ha e=>?_
  have hm:=hp.mem_iff.1 ha
  have:=List.find?_eq_none.1 hf a hm
  rw[aDg (lt1 a hm),e] at this
  simp at this
 | some x=>
  have hx:=List.mem_of_find?_eq_some hf
  have hq:=List.find?_some hf
  rw[aDg (lt1 x hx)] at hq
  have hq':q=pathAt base x.1:=by simpa using (of_decide_eq_true hq).symm
  show _=(side[x.2]?).map FV.path
  rw[aDg (lt2 x hx)]
  refine aTj none (fun a ha e=>?_) ⟨x,hp.mem_iff.2 hx,hq'⟩
  have hm:=hp.mem_iff.1 ha
  have e1:a.1=x.1:=bAu hn (lt1 a hm) (lt1 x hx) (e.symm.trans hq')
  obtain ⟨i,hi,rfl⟩:=List.getElem_of_mem hm
  obtain ⟨j,hj,rfl⟩:=List.getElem_of_mem hx
  rcases Nat.lt_trichotomy i j with h | h | h
  ·exact absurd e1 (List.pairwise_iff_getElem.1 ok.one i j hi hj h).1
  ·subst h;rfl
  exact absurd e1.symm (List.pairwise_iff_getElem.1 ok.one j i hj hi h).1
theorem bAh {base side:List FV}{L:List (Nat×Nat)}(hp:L.Perm (pairsF base side))(q:ByteArray):takenL side L q.data.toList=(pairsF base side).any fun x=>decide (((side[x.2]?).map FV.path)=some q):=by
 have ok:=aDv base side
 unfold takenL
 rw[Bool.eq_iff_iff,List.any_eq_true,List.any_eq_true]
 constructor
 ·rintro ⟨a,ha,h⟩
  have hm:=hp.mem_iff.1 ha
  refine ⟨a,hm,?_⟩
  rw[aDg (aFv (ok.into a hm))]
  exact decide_eq_true (congrArg some (aCh (of_decide_eq_true h)))
 rintro ⟨a,ha,h⟩
 refine ⟨a,hp.mem_iff.2 ha,?_⟩
 rw[aDg (aFv (ok.into a ha))] at h
 have:=of_decide_eq_true h
 injection this with this
 rw[this];exact decide_eq_true rfl
theorem bFp {w:World}{bx:Nat}{f x:FV}(hf:f.path.size<=1000000)(hx:x.path.size<=1000000)(hb:w.heap[bx]? = some (.cells #[.string f.path,.bool f.exec,.string f.text] 48 (0,0))) :
  Calls Tryz.prog 178 #[.agg #[.string x.path,.bool x.exec,.string x.text],.pointer (some ⟨bx,0,none⟩)] w fun e w'=>e=.returned (.bool (clashP x.p f.p))/\Below w.heap.size w w':=by
 have hba:Below w.heap.size w (w.alloc (.cells #[.string x.path,.bool x.exec,.string x.text] 48)):=(Below.refl _ _).alloc (Nat.le_refl _) _
 have c0:(w.alloc (.cells #[.string x.path,.bool x.exec,.string x.text] 48)).cell? ⟨bx,0,none⟩=some (.string f.path):=by rw[Lib.cell_of_heap ((hba.block bx (aAa hb)).trans hb)];rfl
 have hn:=heap_alloc_new w (.cells #[.string x.path,.bool x.exec,.string x.text] 48)
 have c1:(w.alloc (.cells #[.string x.path,.bool x.exec,.string x.text] 48)).cell? ⟨w.heap.size,0,none⟩=some (.string x.path):=by rw[Lib.cell_of_heap hn];rfl
 have K:=bAm (p:=x.path) (d:=f.path) (w:=w.alloc (.cells #[.string x.path,.bool x.exec,.string x.text] 48)) (by omega) (by omega)
 have HB:=hid hba
 clear hb hn hba
 go_enter Tryz.func178,Tryz.ntmps178
 go_wp2_with fail
 refine K.mono ?_
 rintro e w1 ⟨rfl,rfl⟩
 clear K c0 c1
 go_wp2
 go_ret
 exact ⟨rfl,HB.out⟩
def FirstF (p:FV->Bool)(xs:List FV)(w:World)(e:Ending) (w':World):Prop:=
 ∃k:Int,e=.returned (.int .i64 k)/\((k=-1/\∀x∈xs,p x=false)\/(0<=k/\∃x∈xs,p x=true))/\Below w.heap.size w w'
theorem aYj {A:Option Addr}{n c:Nat}{xs:List FV}{w:World}{q1:Value}(p:FV->Bool)(hn:n<=1000000)(h:RdF w w.heap.size A n c xs)
  (hC:∀(x:FV) (u:World),x∈xs->Below w.heap.size w u->Calls Tryz.prog 178 #[.agg #[.string x.path,.bool x.exec,.string x.text],q1] u fun e w'=>e=.returned (.bool (p x))/\Below u.heap.size u w') :
  Calls Tryz.prog 188 #[.slice A n c,.func (.func 178) #[] #[q1]] w (FirstF p xs w):=by
 have HL:=hid h.len
 go_enter Tryz.func188,Tryz.ntmps188
 go_wp2
 go_loopw[8] (fun i wr=>∃k:Nat,k<=n/\i=.int .i64 k/\Hid (Below w.heap.size w wr)/\Hid (∀(i:Nat) (y:FV),i<k->xs[i]? = some y->p y=false)) (fun i _=>n-(intOf i).toNat)
 case atStart=>exact ⟨0,Nat.zero_le _,rfl,hid (Below.refl _ _),fun i y h=>absurd h (Nat.not_lt_zero _)⟩
 obtain ⟨k,hk,rfl,HB,HJ⟩:=hrel
 by_cases hlt:k<n
 ·obtain ⟨b0,o0,x,rfl,hbb,hx,hxm,h0,h1,h2⟩:=h.get hlt
  replace h0:=(HB.out.cell (p:=⟨b0,o0+k*3,none⟩) hbb).trans h0
  replace h1:=(HB.out.cell (p:=⟨b0,o0+k*3+1,none⟩) hbb).trans h1
  replace h2:=(HB.out.cell (p:=⟨b0,o0+k*3+2,none⟩) hbb).trans h2
  have HX:=hid hx;clear hx
  have HXM:=hid hxm
  have K:=hC x wr hxm HB.out
  clear hxm
  obtain ⟨R,hR⟩:∃R,R=p x:=⟨_,rfl⟩
  rw[<-hR] at K
  have HR:=hid hR
  clear hR
  obtain ⟨xp,xe,xt⟩:=x
  dsimp only at h0 h1 h2 K
  go_wp2_with fail
  refine K.mono ?_
  rintro e w1 ⟨rfl,hb1⟩
  have HB1:=hid (HB.out.trans (hb1.mono HB.out.size))
  clear K hb1
  cases R
  ·have HN:Hid (∀(i:Nat) (y:FV),i<k+1->xs[i]? = some y->p y=false):=fun i y hi hy=>by
    rcases Nat.lt_or_ge i k with h | h
    ·exact HJ.out i y h hy
    rw[show i=k by omega,HX.out] at hy;injection hy with hy;rw[<-hy];exact HR.out.symm
   go_wp2
   go_roundw
   case rel=>exact ⟨k+1,by omega,by go_num,HB1,HN⟩
   simp[intOf];omega
  go_wp2
  go_ret
  exact ⟨k,rfl,.inr ⟨by omega,_,HXM.out,HR.out.symm⟩,HB1.out⟩
 have hkn:k=n:=by omega
 subst hkn
 go_wp2
 go_ret
 refine ⟨-1,rfl,.inl ⟨rfl,fun x hx=>?_⟩,HB.out⟩
 obtain ⟨i,hi,rfl⟩:=List.getElem_of_mem hx
 exact HJ.out i _ (by have:=HL.out;omega) (List.getElem?_eq_getElem hi)
theorem aQj {A:Option Addr}{n c:Nat}{xs:List FV}{w:World}{q1:Value}(p:FV->Bool)(hn:n<=1000000)(h:RdF w w.heap.size A n c xs)
  (hC:∀(x:FV) (u:World),x∈xs->Below w.heap.size w u->Calls Tryz.prog 178 #[.agg #[.string x.path,.bool x.exec,.string x.text],q1] u fun e w'=>e=.returned (.bool (p x))/\Below u.heap.size u w') :
  Calls Tryz.prog 177 #[.slice A n c,.func (.func 178) #[] #[q1]] w fun e w'=>e=.returned (.bool (xs.any p))/\Below w.heap.size w w':=by
 have K:=aYj p hn h hC
 clear h hC
 obtain ⟨R,hR⟩:∃R,R=xs.any p:=⟨_,rfl⟩
 rw[<-hR]
 have HR:=hid hR
 clear hR
 go_enter Tryz.func177,Tryz.ntmps177
 go_wp2_with fail
 refine K.mono ?_
 rintro e w1 ⟨k,rfl,hk,hb1⟩
 have HB:=hid hb1
 clear K hb1
 rcases hk with ⟨rfl,hno⟩ | ⟨h0,x,hx,hp⟩
 ·have e1:R=false:=by rw[HR.out];exact List.any_eq_false.2 fun x hx=>by simp[hno x hx]
  clear hno
  subst e1
  go_wp2
  go_ret
  exact ⟨by first | rfl | simp,HB.out⟩
 have e1:R=true:=by rw[HR.out];exact List.any_eq_true.2 ⟨x,hx,hp⟩
 clear hx hp
 subst e1
 have e2:decide (k>=0)=true:=decide_eq_true h0
 go_wp2
 go_ret
 exact ⟨by first | rfl | simp[h0],HB.out⟩
end Go.Proofs.YtohblmepajhpaaaGreatDoor
namespace Go.Proofs.YtohblmepajhpaaaGreatDoor
section
variable {α:Type} {le:α->α->Bool}
theorem aBe (a b:α)(l r:List α):List.merge (a::l) (b::r) le=if le a b=true then a::List.merge l (b::r) le else b::List.merge (a::l) r le:=List.cons_merge_cons le a b l r
theorem aKk (l:List α):List.merge l [] le=l:=List.merge_right l
theorem aMl (l:List α):List.merge [] l le=l:=List.nil_merge l
theorem aKt (tr:∀a b c,le a b=true->le b c=true->le a c=true)(tl:∀a b,le a b=true\/le b a=true):∀(k:Nat) (xs ys zs:List α),xs.length+ys.length+zs.length<=k->
  List.merge (List.merge xs ys le) zs le=List.merge xs (List.merge ys zs le) le
 | _,[],ys,zs,_=>by rw[aMl,aMl]
 | _,x::xs,[],zs,_=>by rw[aKk,aMl]
 | _,x::xs,y::ys,[],_=>by rw[aKk,aKk]
 | 0,x::xs,y::ys,z::zs,h=>by simp at h
 | k+1,x::xs,y::ys,z::zs,h=>by
  have hl:xs.length+ys.length+zs.length+3<=k+1:=by simp only[List.length_cons] at h;omega
  have ih1:=aKt tr tl k xs (y::ys) (z::zs) (by simp only[List.length_cons];omega)
  have ih2:=aKt tr tl k (x::xs) ys (z::zs) (by simp only[List.length_cons];omega)
  have ih3:=aKt tr tl k (x::xs) (y::ys) zs (by simp only[List.length_cons];omega)
  by_cases xy:le x y=true
  ·by_cases yz:le y z=true
   ·rw[aBe x y,if_pos xy,aBe x z,if_pos (tr _ _ _ xy yz),ih1,aBe y z,if_pos yz,aBe x y,if_pos xy]
   rw[aBe y z,if_neg yz,aBe x z,aBe x y,if_pos xy,aBe x z]
   by_cases xz:le x z=true
   ·rw[if_pos xz,if_pos xz,ih1,aBe y z,if_neg yz]
   rw[if_neg xz,if_neg xz,<-ih3,aBe x y,if_pos xy]
  rw[aBe x y,if_neg xy,aBe y z,aBe y z]
  by_cases yz:le y z=true
  ·rw[if_pos yz,if_pos yz,aBe x y,if_neg xy,ih2]
  have yx:le y x=true:=(tl y x).resolve_right xy
  have xz:¬le x z=true:=fun h=>yz (tr _ _ _ yx h)
  rw[if_neg yz,if_neg yz,aBe x z,if_neg xz,<-ih3,aBe x y,if_neg xy]
theorem aHs:∀{x1 x2 y1 y2:List α},(∀y∈y1,∀x∈x2,le x y=false)->(∀x∈x1,∀y∈y2,le x y=true)->
  List.merge (x1++x2) (y1++y2) le=List.merge x1 y1 le++List.merge x2 y2 le
 | [],x2,[],y2,_,_=>by simp
 | [],[],y::y1,y2,_,_=>by simp
 | [],x::x2,y::y1,y2,h1,h2=>by
  have ih:=aHs (x1:=[]) (x2:=x::x2) (y1:=y1) (y2:=y2) (fun a ha=>h1 a (List.mem_cons_of_mem _ ha)) h2
  rw[List.nil_append] at ih
  rw[List.nil_append,List.cons_append,aBe,if_neg (by rw[h1 y List.mem_cons_self x List.mem_cons_self];decide),ih,aMl,aMl,List.cons_append]
 | x::x1,x2,[],[],_,_=>by simp
 | x::x1,x2,[],y::y2,h1,h2=>by
  have ih:=aHs (x1:=x1) (x2:=x2) (y1:=[]) (y2:=y::y2) h1 (fun a ha=>h2 a (List.mem_cons_of_mem _ ha))
  rw[List.nil_append] at ih
  rw[List.nil_append,List.cons_append,aBe,if_pos (h2 x List.mem_cons_self y List.mem_cons_self),ih,aKk,aKk,List.cons_append]
 | x::x1,x2,y::y1,y2,h1,h2=>by
  have ih1:=aHs (x1:=x1) (x2:=x2) (y1:=y::y1) (y2:=y2) h1 (fun a ha=>h2 a (List.mem_cons_of_mem _ ha))
  have ih2:=aHs (x1:=x::x1) (x2:=x2) (y1:=y1) (y2:=y2) (fun a ha=>h1 a (List.mem_cons_of_mem _ ha)) h2
  rw[List.cons_append,List.cons_append,aBe,aBe]
  rw[List.cons_append] at ih1 ih2
  by_cases xy:le x y=true
  ·rw[if_pos xy,if_pos xy,ih1,List.cons_append]
  rw[if_neg xy,if_neg xy,ih2,List.cons_append]
def ssort (le:α->α->Bool)(l:List α):List α:=l.foldl (fun out c=>List.merge out [c] le) []
theorem bHj (c:α):∀l:List α,List.merge l [c] le=l.takeWhile (fun x=>le x c)++c::l.dropWhile (fun x=>le x c)
 | []=>by simp
 | x::l=>by
  rw[aBe,List.takeWhile_cons,List.dropWhile_cons]
  by_cases h:le x c=true
  ·rw[if_pos h,if_pos h,if_pos h,bHj c l,List.cons_append]
  rw[if_neg h,if_neg h,if_neg h,aKk,List.nil_append]
theorem aIz (l:List α)(c:α):ssort le (l++[c])=List.merge (ssort le l) [c] le:=by
 unfold ssort;rw[List.foldl_append];rfl
theorem bEd (l:List α):(ssort le l).length=l.length:=by
 have:∀(l o:List α),(l.foldl (fun out c=>List.merge out [c] le) o).length=o.length+l.length:=by
  intro l
  induction l with
  | nil=>intro o;simp
  | cons a l ih=>intro o;rw[List.foldl_cons,ih,List.length_merge];simp;omega
 unfold ssort
 rw[this];simp
theorem aJz (tr:∀a b c,le a b=true->le b c=true->le a c=true)(tl:∀a b,le a b=true\/le b a=true)(a:List α):∀(k:Nat) (b:List α),b.length<=k->ssort le (a++b)=List.merge (ssort le a) (ssort le b) le
 | 0,b,h=>by
  rw[List.eq_nil_of_length_eq_zero (Nat.le_zero.1 h)]
  simp[ssort]
 | k+1,b,h=>by
  rcases List.eq_nil_or_concat b with rfl | ⟨b',c,rfl⟩
  ·simp[ssort]
  rw[List.concat_eq_append] at h ⊢
  have hk:b'.length<=k:=by simp at h;omega
  rw[<-List.append_assoc,aIz,aJz tr tl a k b' hk,aIz,aKt tr tl _ _ _ _ (Nat.le_refl _)]
theorem aJi (tr:∀a b c,le a b=true->le b c=true->le a c=true)(tl:∀a b,le a b=true\/le b a=true)(l:List α):(ssort le l).Pairwise (fun a b=>le a b=true):=by
 have:∀(l o:List α),o.Pairwise (fun a b=>le a b=true)->(l.foldl (fun out c=>List.merge out [c] le) o).Pairwise (fun a b=>le a b=true):=by
  intro l
  induction l with
  | nil=>intro o h;exact h
  | cons a l ih=>
   intro o h
   rw[List.foldl_cons]
   refine ih _ ?_
   exact List.pairwise_merge tr (fun a b=>by simpa using tl a b) _ _ h (List.pairwise_singleton _ _)
 exact this l [] List.Pairwise.nil
def segL (l:List α)(a b:Nat):List α:=(l.take b).drop a
theorem aXe {l:List α}{a b:Nat}(hb:b<=l.length):(segL l a b).length=b-a:=by
 unfold segL;rw[List.length_drop,List.length_take,Nat.min_eq_left hb]
theorem aCj {l:List α}{a m b:Nat}(h1:a<=m)(h2:m<=b):segL l a b=segL l a m++segL l m b:=by
 unfold segL
 rw[show l.take m=(l.take b).take m by rw[List.take_take,Nat.min_eq_left h2]]
 have e:((l.take b).take m).drop a++(l.take b).drop m=(l.take b).drop a:=by
  generalize l.take b=x
  rcases Nat.le_or_ge m x.length with hm | hm
  ·have:(x.take m++x.drop m).drop a=(x.take m).drop a++x.drop m:=List.drop_append_of_le_length (by rw[List.length_take];omega)
   rw[<-this,List.take_append_drop]
  rw[List.take_of_length_le hm,List.drop_eq_nil_of_le hm,List.append_nil]
 exact e.symm
theorem aXr (l:List α){n:Nat}(h:l.length<=n):segL l 0 n=l:=by unfold segL;rw[List.take_of_length_le h];rfl
theorem aDd {l:List α}{a b:Nat}(h:l.length<=a):segL l a b=[]:=by unfold segL;exact List.drop_eq_nil_of_le (by rw[List.length_take];omega)
structure Blk (le:α->α->Bool) (s:Nat) (l d:List α):Prop where
 len:d.length=l.length
 at_:∀i,segL d (i*s) ((i+1)*s)=ssort le (segL l (i*s) ((i+1)*s))
structure SegAs (d d':List α) (a b:Nat) (x:List α):Prop where
 len:d'.length=d.length
 here:segL d' a b=x
 there:∀i,i<a\/b<=i->d'[i]? = d[i]?
theorem aBk (l:List α)(a b i:Nat):(segL l a b)[i]? = if a+i<b then l[a+i]? else none:=by
 unfold segL
 rw[List.getElem?_drop,List.getElem?_take]
theorem aBj {d d':List α}{a b:Nat}(h:∀i,a<=i->i<b->d'[i]? = d[i]?):segL d' a b=segL d a b:=by
 apply List.ext_getElem?
 intro i
 rw[aBk,aBk]
 split
 ·exact h _ (by omega) (by assumption)
 rfl
theorem SegAs.other {d d':List α}{a b:Nat}{x:List α}(h:SegAs d d' a b x){u v:Nat}(huv:v<=a\/b<=u):segL d' u v=segL d u v:=
 aBj fun i h1 h2=>h.there i (by omega)
theorem SegAs.refl (d:List α)(a b:Nat):SegAs d d a b (segL d a b):=⟨rfl,rfl,fun _ _=>rfl⟩
theorem Blk.twice (tr:∀a b c,le a b=true->le b c=true->le a c=true)(tl:∀a b,le a b=true\/le b a=true){s:Nat} {l d d':List α}(h:Blk le s l d)(hl:d'.length=d.length)
  (hm:∀i,segL d' (i*(2*s)) ((i+1)*(2*s))=List.merge (segL d (2*i*s) ((2*i+1)*s)) (segL d ((2*i+1)*s) ((2*i+2)*s)) le):Blk le (2*s) l d':=by
 refine ⟨hl.trans h.len,fun i=>?_⟩
 rw[hm i,h.at_ (2*i),show 2*i+2=(2*i+1)+1 by omega,h.at_ (2*i+1),<-aJz tr tl _ _ _ (Nat.le_refl _),<-aCj (Nat.mul_le_mul_right _ (by omega)) (Nat.mul_le_mul_right _ (by omega))]
 rw[show i*(2*s)=2*i*s by rw[<-Nat.mul_assoc,Nat.mul_comm i 2],show (i+1)*(2*s)=(2*i+1+1)*s by rw[<-Nat.mul_assoc];congr 1;omega]
theorem Blk.all {s:Nat}{l d:List α}(h:Blk le s l d)(hs:l.length<=s):d=ssort le l:=by
 have:=h.at_ 0
 rwa [Nat.zero_mul,Nat.zero_add,Nat.one_mul,aXr _ (by rw[h.len];exact hs),aXr _ hs] at this
end
section
variable {α:Type} {le:α->α->Bool}
def Asc (le:α->α->Bool)(d:List α)(u v:Nat):Prop:=∀(i j:Nat) (x y:α),u<=i->i<j->j<v->d[i]? = some x->d[j]? = some y->le x y=true
theorem Asc.sub {d:List α} {u v u' v':Nat}(h:Asc le d u v)(h1:u<=u')(h2:v'<=v):Asc le d u' v':=fun i j x y a b c=>h i j x y (by omega) b (by omega)
theorem aEk {d:List α}{u v:Nat}(h:(segL d u v).Pairwise (fun a b=>le a b=true)):Asc le d u v:=fun i j x y a b c hx hy=>by
 have e1:(segL d u v)[i-u]? = some x:=by rw[aBk,if_pos (by omega),show u+(i-u)=i by omega];exact hx
 have e2:(segL d u v)[j-u]? = some y:=by rw[aBk,if_pos (by omega),show u+(j-u)=j by omega];exact hy
 obtain ⟨l1,g1⟩:=List.getElem?_eq_some_iff.1 e1
 obtain ⟨l2,g2⟩:=List.getElem?_eq_some_iff.1 e2
 have:=List.pairwise_iff_getElem.1 h (i-u) (j-u) l1 l2 (by omega)
 rw[g1,g2] at this;exact this
theorem aGb {d:List α}{u v:Nat}{x:α}(h:x∈segL d u v):∃i,u<=i/\i<v/\d[i]? = some x:=by
 obtain ⟨i,hi⟩:=List.getElem?_of_mem h
 rw[aBk] at hi
 split at hi
 ·exact ⟨u+i,by omega,by assumption,hi⟩
 cases hi
theorem aIb {d:List α}{i:Nat}(h:i<d.length):∃x,d[i]? = some x:=⟨_,List.getElem?_eq_getElem h⟩
theorem Asc.le' (rf:∀a,le a a=true){d:List α}{u v:Nat}(h:Asc le d u v){i j:Nat}{x y:α}(h1:u<=i)(h2:i<=j)(h3:j<v)(hx:d[i]? = some x)(hy:d[j]? = some y):le x y=true:=by
 rcases Nat.lt_or_eq_of_le h2 with h2 | rfl
 ·exact h i j x y h1 h2 h3 hx hy
 rw[hx] at hy;cases hy;exact rf x
theorem aVm (rf:∀a,le a a=true)(tr:∀a b c,le a b=true->le b c=true->le a c=true){d:List α}{a s m e b:Nat}(hb:b<=d.length)(has:a<=s)(hsm:s<=m)(hme:m<=e)(heb:e<=b)
  (hx:Asc le d a m) (hy:Asc le d m b) (h1:s=a\/e=b\/∀x y,d[s-1]? = some x->d[e]? = some y->le x y=true) (h2:s=m\/e=m\/∀x y,d[s]? = some x->d[e-1]? = some y->le x y=false) :
  List.merge (segL d a m) (segL d m b) le=List.merge (segL d a s) (segL d m e) le++List.merge (segL d s m) (segL d e b) le:=by
 rw[aCj has hsm,aCj hme heb]
 refine aHs (fun y hy' x hx'=>?_) (fun x hx' y hy'=>?_)
 ·obtain ⟨i,i1,i2,hi⟩:=aGb hx'
  obtain ⟨j,j1,j2,hj⟩:=aGb hy'
  rcases h2 with rfl | rfl | h2
  ·omega
  ·omega
  obtain ⟨xs,hs⟩:=aIb (d:=d) (i:=s) (by omega)
  obtain ⟨ye,he⟩:=aIb (d:=d) (i:=e-1) (by omega)
  have h3:=h2 xs ye hs he
  cases h4:le x y with
  | false=>rfl
  | true=>
   have a1:=hx.le' rf has i1 i2 hs hi
   have a2:=hy.le' rf j1 (show j<=e-1 by omega) (by omega) hj he
   rw[tr _ _ _ (tr _ _ _ a1 h4) a2] at h3
   cases h3
 obtain ⟨i,i1,i2,hi⟩:=aGb hx'
 obtain ⟨j,j1,j2,hj⟩:=aGb hy'
 rcases h1 with rfl | rfl | h1
 ·omega
 ·omega
 obtain ⟨xs,hs⟩:=aIb (d:=d) (i:=s-1) (by omega)
 obtain ⟨ye,he⟩:=aIb (d:=d) (i:=e) (by omega)
 have h3:=h1 xs ye hs he
 have a1:=hx.le' rf i1 (show i<=s-1 by omega) (by omega) hi hs
 have a2:=hy.le' rf hme j1 j2 he hj
 exact tr _ _ _ (tr _ _ _ a1 h3) a2
structure SwapAs (d d':List α) (i j:Nat):Prop where
 len:d'.length=d.length
 at_:∀t,d'[t]? = if t=i then d[j]? else if t=j then d[i]? else d[t]?
structure RangeAs (d d':List α) (a b n:Nat):Prop where
 len:d'.length=d.length
 at_:∀t,d'[t]? = if a<=t/\t<a+n then d[t-a+b]? else if b<=t/\t<b+n then d[t-b+a]? else d[t]?
theorem RangeAs.start (d:List α)(a b:Nat):RangeAs d d a b 0:=⟨rfl,fun t=>by rw[if_neg (by omega),if_neg (by omega)]⟩
theorem RangeAs.step {d d1 d2:List α}{a b n:Nat}(h:RangeAs d d1 a b n)(hs:SwapAs d1 d2 (a+n) (b+n))(hab:a+n<b):RangeAs d d2 a b (n+1):=by
 refine ⟨hs.len.trans h.len,fun t=>?_⟩
 rw[hs.at_ t,h.at_ (b+n),h.at_ (a+n),h.at_ t]
 by_cases e1:t=a+n
 ·rw[if_pos e1,if_neg (by omega),if_neg (by omega),if_pos (by omega)];congr 1;omega
 rw[if_neg e1]
 by_cases e2:t=b+n
 ·rw[if_pos e2,if_neg (by omega),if_neg (by omega),if_neg (by omega),if_pos (by omega)];congr 1;omega
 rw[if_neg e2]
 by_cases e3:a<=t/\t<a+n
 ·rw[if_pos e3,if_pos (by omega)]
 rw[if_neg e3,if_neg (show ¬(a<=t/\t<a+(n+1)) by omega)]
 by_cases e4:b<=t/\t<b+n
 ·rw[if_pos e4,if_pos (by omega)]
 rw[if_neg e4,if_neg (by omega)]
structure Rot (d F:List α) (m i j:Nat):Prop where
 len:F.length=d.length
 im:i<=m
 at_:∀t,F[t]? = if m-i<=t/\t<m-i+j then d[t+i]? else if m-i+j<=t/\t<m+j then d[t-j]? else d[t]?
theorem Rot.left {d d' F:List α}{m i j:Nat}(h:Rot d F m i j)(hij:j<i)(hr:RangeAs d d' (m-i) m j):Rot d' F m (i-j) j:=by
 have him:=h.im
 refine ⟨h.len.trans hr.len.symm,by omega,fun t=>?_⟩
 rw[h.at_ t]
 by_cases c1:m-(i-j)<=t/\t<m-(i-j)+j
 ·rw[if_pos c1,hr.at_]
  by_cases c2:m-i<=t/\t<m-i+j
  ·omega
  rw[if_neg c2,if_pos (by omega)]
  by_cases c3:m-i<=t+(i-j)/\t+(i-j)<m-i+j
  ·omega
  rw[if_neg c3,if_pos (by omega)];congr 1;omega
 rw[if_neg c1]
 by_cases c2:m-(i-j)+j<=t/\t<m+j
 ·rw[if_pos c2,hr.at_,if_neg (by omega),if_pos (by omega),if_neg (by omega),if_neg (by omega)]
 rw[if_neg c2,hr.at_]
 by_cases c3:m-i<=t/\t<m-i+j
 ·rw[if_pos c3,if_pos c3];congr 1;omega
 rw[if_neg c3,if_neg c3,if_neg (by omega),if_neg (by omega)]
theorem Rot.right {d d' F:List α}{m i j:Nat}(h:Rot d F m i j)(hij:i<j)(hr:RangeAs d d' (m-i) (m+j-i) i):Rot d' F m i (j-i):=by
 have him:=h.im
 refine ⟨h.len.trans hr.len.symm,him,fun t=>?_⟩
 rw[h.at_ t]
 by_cases c1:m-i<=t/\t<m-i+(j-i)
 ·rw[if_pos c1,if_pos (by omega),hr.at_]
  by_cases c2:m-i<=t+i/\t+i<m-i+i
  ·omega
  rw[if_neg c2,if_neg (by omega)]
 rw[if_neg c1]
 by_cases c2:m-i+(j-i)<=t/\t<m+(j-i)
 ·rw[if_pos c2,hr.at_,if_pos (by omega),if_pos (by omega)];congr 1;omega
 rw[if_neg c2,hr.at_]
 by_cases c3:m-i<=t/\t<m-i+i
 ·omega
 rw[if_neg c3]
 by_cases c4:m+j-i<=t/\t<m+j-i+i
 ·rw[if_neg (by omega),if_pos (by omega),if_pos c4];congr 1;omega
 rw[if_neg (by omega),if_neg (by omega),if_neg c4]
theorem Rot.done {d d' F:List α}{m i:Nat}(h:Rot d F m i i)(hr:RangeAs d d' (m-i) m i):F=d':=by
 have him:=h.im
 apply List.ext_getElem?
 intro t
 rw[h.at_ t,hr.at_ t]
 by_cases c1:m-i<=t/\t<m-i+i
 ·rw[if_pos c1,if_pos c1];congr 1;omega
 rw[if_neg c1,if_neg c1]
 by_cases c2:m-i+i<=t/\t<m+i
 ·rw[if_pos c2,if_pos (by omega)];congr 1;omega
 rw[if_neg c2,if_neg (by omega)]
def rotL (d:List α)(a m b:Nat):List α:=d.take a++(segL d m b++segL d a m)++d.drop b
theorem aCb {d:List α}{a m b:Nat}(h1:a<=m)(h2:m<=b)(h3:b<=d.length):Rot d (rotL d a m b) m (m-a) (b-m):=by
 have l1:(d.take a).length=a:=by rw[List.length_take];omega
 have l2:(segL d m b).length=b-m:=aXe h3
 have l3:(segL d a m).length=m-a:=aXe (by omega)
 have l4:(d.take a++(segL d m b++segL d a m)).length=b:=by rw[List.length_append,List.length_append,l1,l2,l3];omega
 refine ⟨by unfold rotL;rw[List.length_append,l4,List.length_drop];omega,by omega,fun t=>?_⟩
 unfold rotL
 by_cases c0:t<b
 ·rw[List.getElem?_append_left (by rw[l4];exact c0)]
  by_cases c1:t<a
  ·rw[List.getElem?_append_left (by rw[l1];exact c1),List.getElem?_take_of_lt c1,if_neg (by omega),if_neg (by omega)]
  rw[List.getElem?_append_right (by rw[l1];omega),l1]
  by_cases c2:t-a<b-m
  ·rw[List.getElem?_append_left (by rw[l2];exact c2),aBk,if_pos (by omega),if_pos (by omega)];congr 1;omega
  rw[List.getElem?_append_right (by rw[l2];omega),l2,aBk,if_pos (by omega),if_neg (by omega),if_pos (by omega)];congr 1;omega
 rw[List.getElem?_append_right (by rw[l4];omega),l4,List.getElem?_drop,if_neg (by omega),if_neg (by omega)];congr 1;omega
theorem aGo {d:List α}{a m b:Nat}(h1:a<=m)(h2:m<=b)(h3:b<=d.length):(rotL d a m b).length=d.length:=(aCb h1 h2 h3).len
theorem aDm {d:List α}{a m b:Nat}(h1:a<=m)(h2:m<=b)(h3:b<=d.length){t:Nat}(h:t<a\/b<=t):(rotL d a m b)[t]? = d[t]?:=by
 rw[(aCb h1 h2 h3).at_ t,if_neg (by omega),if_neg (by omega)]
theorem aVj {d:List α}{a m b:Nat}(h1:a<=m)(h2:m<=b)(h3:b<=d.length):segL (rotL d a m b) a (a+(b-m))=segL d m b:=by
 apply List.ext_getElem?
 intro i
 rw[aBk,aBk]
 by_cases c:a+i<a+(b-m)
 ·rw[if_pos c,if_pos (by omega),(aCb h1 h2 h3).at_,if_pos (by omega)];congr 1;omega
 rw[if_neg c,if_neg (by omega)]
theorem aUs {d:List α}{a m b:Nat}(h1:a<=m)(h2:m<=b)(h3:b<=d.length):segL (rotL d a m b) (a+(b-m)) b=segL d a m:=by
 apply List.ext_getElem?
 intro i
 rw[aBk,aBk]
 by_cases c:a+i<m
 ·rw[if_pos (by omega),if_pos c,(aCb h1 h2 h3).at_,if_neg (by omega),if_pos (by omega)];congr 1;omega
 rw[if_neg (by omega),if_neg c]
end
section
variable {α:Type} {le:α->α->Bool}
theorem aTw {d:List α}{u v:Nat}(h:Asc le d u v):(segL d u v).Pairwise (fun a b=>le a b=true):=by
 rw[List.pairwise_iff_getElem]
 intro i j hi hj hij
 have e1:=List.getElem?_eq_getElem hi
 have e2:=List.getElem?_eq_getElem hj
 rw[aBk] at e1 e2
 split at e1
 ·split at e2
  ·exact h _ _ _ _ (by omega) (by omega) (by assumption) e1 e2
  cases e2
 cases e1
theorem aOz {d d':List α} {u v u' v':Nat}(h:Asc le d u v)(e:segL d' u' v'=segL d u v):Asc le d' u' v':=aEk (by rw[e];exact aTw h)
theorem aBc {d:List α}{u s v:Nat}(h1:u<=s)(h2:s<=v)(h:s=u\/s=v\/∀x∈segL d u s,∀y∈segL d s v,le x y=true):SegAs d d u v (List.merge (segL d u s) (segL d s v) le):=by
 have e:List.merge (segL d u s) (segL d s v) le=segL d u s++segL d s v:=by
  rcases h with rfl | rfl | h
  ·have:segL d s s=[]:=by apply List.ext_getElem?;intro i;rw[aBk,if_neg (by omega)];rfl
   rw[this,aMl,List.nil_append]
  ·have:segL d s s=[]:=by apply List.ext_getElem?;intro i;rw[aBk,if_neg (by omega)];rfl
   rw[this,aKk,List.append_nil]
  exact List.merge_of_le fun a b ha hb=>h a ha b hb
 rw[e,<-aCj h1 h2]
 exact SegAs.refl d u v
theorem aCx (rf:∀a,le a a=true)(tr:∀a b c,le a b=true->le b c=true->le a c=true){d d2 d3:List α}{a s m e b mid:Nat}(hb:b<=d.length)(has:a<=s)(hsm:s<=m)(hme:m<=e)(heb:e<=b)(hmid:mid=s+(e-m))
  (hx:Asc le d a m) (hy:Asc le d m b) (h1:s=a\/e=b\/∀x y,d[s-1]? = some x->d[e]? = some y->le x y=true) (h2:s=m\/e=m\/∀x y,d[s]? = some x->d[e-1]? = some y->le x y=false)
  (H2:SegAs (rotL d s m e) d2 a mid (List.merge (segL (rotL d s m e) a s) (segL (rotL d s m e) s mid) le)) (H3:SegAs d2 d3 mid b (List.merge (segL d2 mid e) (segL d2 e b) le)) :
  SegAs d d3 a b (List.merge (segL d a m) (segL d m b) le):=by
 have he:e<=d.length:=by omega
 have x1:segL (rotL d s m e) a s=segL d a s:=aBj fun i i1 i2=>aDm hsm hme he (.inl i2)
 have y1:segL (rotL d s m e) s mid=segL d m e:=by rw[hmid];exact aVj hsm hme he
 have x2:segL (rotL d s m e) mid e=segL d s m:=by rw[hmid];exact aUs hsm hme he
 have y2:segL (rotL d s m e) e b=segL d e b:=aBj fun i i1 i2=>aDm hsm hme he (.inr i1)
 rw[x1,y1] at H2
 rw[H2.other (.inr (Nat.le_refl _)),x2,H2.other (.inr (by omega)),y2] at H3
 rw[aVm rf tr hb has hsm hme heb hx hy h1 h2]
 refine ⟨by rw[H3.len,H2.len,aGo hsm hme he],?_,fun i hi=>?_⟩
 ·rw[aCj (show a<=mid by omega) (show mid<=b by omega),H3.here,H3.other (.inl (Nat.le_refl _)),H2.here]
 rw[H3.there i (by omega),H2.there i (by omega),aDm hsm hme he (by omega)]
theorem aEo {d d2:List α}{a s m e b mid:Nat}{z:List α}(he:e<=d.length)(has:a<=s)(hsm:s<=m)(hme:m<=e)(heb:e<=b)(hmid:mid=s+(e-m))(hx:Asc le d a m)(hy:Asc le d m b)(H2:SegAs (rotL d s m e) d2 a mid z) :
  Asc le (rotL d s m e) a s/\Asc le (rotL d s m e) s mid/\Asc le d2 mid e/\Asc le d2 e b:=by
 have x1:segL (rotL d s m e) a s=segL d a s:=aBj fun i i1 i2=>aDm hsm hme he (.inl i2)
 have y1:segL (rotL d s m e) s mid=segL d m e:=by rw[hmid];exact aVj hsm hme he
 have x2:segL (rotL d s m e) mid e=segL d s m:=by rw[hmid];exact aUs hsm hme he
 have y2:segL (rotL d s m e) e b=segL d e b:=aBj fun i i1 i2=>aDm hsm hme he (.inr i1)
 exact ⟨aOz (hx.sub (Nat.le_refl _) hsm) x1,aOz (hy.sub (Nat.le_refl _) heb) y1,aOz (hx.sub has (Nat.le_refl _)) ((H2.other (.inr (Nat.le_refl _))).trans x2),aOz (hy.sub hme (Nat.le_refl _)) ((H2.other (.inr (by omega))).trans y2)⟩
theorem aDx {d:List α}{a m b:Nat}(h1:a<=m)(h2:m<=b)(h3:b<=d.length)(h:a=m\/m=b):rotL d a m b=d:=by
 apply List.ext_getElem?
 intro t
 rw[(aCb h1 h2 h3).at_]
 rcases h with rfl | rfl
 ·by_cases c:a-(a-a)<=t/\t<a-(a-a)+(b-a)
  ·rw[if_pos c];congr 1;omega
  rw[if_neg c,if_neg (by omega)]
 rw[if_neg (by omega)]
 by_cases c:m-(m-a)+(m-m)<=t/\t<m+(m-m)
 ·rw[if_pos c];congr 1;omega
 rw[if_neg c]
theorem bEq {d d':List α}{a k:Nat}(ha:a<=k)(hk:k+1<d.length)(hs:SwapAs (rotL d a (a+1) (k+1)) d' k (k+1)):d'=rotL d a (a+1) (k+2):=by
 have R:=aCb (d:=d) (a:=a) (m:=a+1) (b:=k+1) (by omega) (by omega) (by omega)
 have R':=aCb (d:=d) (a:=a) (m:=a+1) (b:=k+2) (by omega) (by omega) (by omega)
 apply List.ext_getElem?
 intro t
 rw[hs.at_,R'.at_,R.at_ (k+1),R.at_ k,R.at_ t]
 by_cases e1:t=k
 ·rw[if_pos e1,if_neg (by omega),if_neg (by omega),if_pos (by omega)];congr 1;omega
 rw[if_neg e1]
 by_cases e2:t=k+1
 ·rw[if_pos e2,if_neg (by omega),if_pos (by omega),if_neg (by omega),if_pos (by omega)];congr 1;omega
 rw[if_neg e2]
 by_cases e3:a+1-(a+1-a)<=t/\t<a+1-(a+1-a)+(k+1-(a+1))
 ·rw[if_pos e3,if_pos (by omega)]
 rw[if_neg e3,if_neg (by omega),if_neg (by omega),if_neg (by omega)]
theorem aXc {d d':List α}{m k:Nat}(hk:k<m)(hm:m<d.length)(hs:SwapAs (rotL d (k+1) m (m+1)) d' (k+1) k):d'=rotL d k m (m+1):=by
 have R:=aCb (d:=d) (a:=k+1) (m:=m) (b:=m+1) (by omega) (by omega) (by omega)
 have R':=aCb (d:=d) (a:=k) (m:=m) (b:=m+1) (by omega) (by omega) (by omega)
 apply List.ext_getElem?
 intro t
 rw[hs.at_,R'.at_,R.at_ (k+1),R.at_ k,R.at_ t]
 by_cases e1:t=k+1
 ·rw[if_pos e1,if_neg (by omega),if_neg (by omega),if_neg (by omega),if_pos (by omega)];congr 1;omega
 rw[if_neg e1]
 by_cases e2:t=k
 ·rw[if_pos e2,if_pos (by omega),if_pos (by omega)];congr 1;omega
 rw[if_neg e2]
 by_cases e3:m-(m-(k+1))<=t/\t<m-(m-(k+1))+(m+1-m)
 ·omega
 rw[if_neg e3]
 by_cases e4:m-(m-(k+1))+(m+1-m)<=t/\t<m+(m+1-m)
 ·rw[if_pos e4,if_neg (by omega),if_pos (by omega)]
 rw[if_neg e4,if_neg (by omega),if_neg (by omega)]
theorem aLb {d:List α}{m:Nat}{y:α}(h:d[m]? = some y):segL d m (m+1)=[y]:=by
 apply List.ext_getElem?
 intro i
 rw[aBk]
 cases i with
 | zero=>rw[if_pos (by omega),Nat.add_zero,h];rfl
 | succ i=>rw[if_neg (by omega)];rfl
theorem aMp (rf:∀a,le a a=true)(tr:∀a b c,le a b=true->le b c=true->le a c=true){d:List α}{a s m:Nat}(hm:m<d.length)(has:a<=s)(hsm:s<=m)(hx:Asc le d a m)
  (h1:s=a\/∀x y,d[s-1]? = some x->d[m]? = some y->le x y=true) (h2:s=m\/∀x y,d[s]? = some x->d[m]? = some y->le x y=false) :
  SegAs d (rotL d s m (m+1)) a (m+1) (List.merge (segL d a m) (segL d m (m+1)) le):=by
 obtain ⟨y,hy⟩:=aIb hm
 refine aCx rf tr (s:=s) (e:=m+1) (mid:=s+1) (d2:=rotL d s m (m+1)) (by omega) has hsm (by omega) (Nat.le_refl _) (by omega) hx (fun i j _ _ _ _ _=>by omega) (.inr (.inl rfl)) (by rcases h2 with h2 | h2;exact .inl h2;exact .inr (.inr h2)) ?_ ?_
 ·refine aBc has (by omega) ?_
  rcases h1 with h1 | h1
  ·exact .inl h1
  refine .inr (.inr fun u hu v hv=>?_)
  have e1:segL (rotL d s m (m+1)) a s=segL d a s:=aBj fun i i1 i2=>aDm hsm (by omega) (by omega) (.inl i2)
  have e2:segL (rotL d s m (m+1)) s (s+1)=segL d m (m+1):=by
   have:=aVj (d:=d) hsm (show m<=m+1 by omega) (by omega)
   rwa [show s+(m+1-m)=s+1 by omega] at this
  rw[e1] at hu
  rw[e2,aLb hy] at hv
  have hv':v=y:=by simpa using hv
  subst hv'
  obtain ⟨i,i1,i2,hi⟩:=aGb hu
  obtain ⟨x,hx'⟩:=aIb (d:=d) (i:=s-1) (by omega)
  exact tr _ _ _ (hx.le' rf i1 (show i<=s-1 by omega) (by omega) hi hx') (h1 x _ hx' hy)
 exact aBc (by omega) (Nat.le_refl _) (.inr (.inl rfl))
theorem bGa (rf:∀a,le a a=true)(tr:∀a b c,le a b=true->le b c=true->le a c=true){d:List α}{a e b:Nat}(hb:b<=d.length)(hae:a+1<=e)(heb:e<=b)(hy:Asc le d (a+1) b)
  (h1:e=b\/∀x y,d[a]? = some x->d[e]? = some y->le x y=true) (h2:e=a+1\/∀x y,d[a]? = some x->d[e-1]? = some y->le x y=false) :
  SegAs d (rotL d a (a+1) e) a b (List.merge (segL d a (a+1)) (segL d (a+1) b) le):=by
 obtain ⟨x,hx⟩:=aIb (d:=d) (i:=a) (by omega)
 refine aCx rf tr (s:=a) (e:=e) (mid:=a+(e-(a+1))) (d2:=rotL d a (a+1) e) hb (Nat.le_refl _) (by omega) hae heb rfl (fun i j _ _ _ _ _=>by omega) hy (.inl rfl) (by rcases h2 with h2 | h2;exact .inr (.inl h2);exact .inr (.inr h2)) ?_ ?_
 ·exact aBc (Nat.le_refl _) (by omega) (.inl rfl)
 refine aBc (by omega) heb ?_
 rcases h1 with h1 | h1
 ·exact .inr (.inl h1)
 refine .inr (.inr fun u hu v hv=>?_)
 rw[aUs (by omega) hae (by omega),aLb hx] at hu
 have hu':u=x:=by simpa using hu
 subst hu'
 obtain ⟨i,i1,i2,hi⟩:=aGb hv
 rw[aDm (by omega) hae (by omega) (.inr i1)] at hi
 obtain ⟨y,hy'⟩:=aIb (d:=d) (i:=e) (by omega)
 exact tr _ _ _ (h1 _ y hx hy') (hy.le' rf hae i1 i2 hy' hi)
theorem aNs {d d1 d2:List α}{a i:Nat}(hi:i<d.length)(hai:a<=i)(h:SegAs d d1 a i (ssort le (segL d a i)))(h2:SegAs d1 d2 a (i+1) (List.merge (segL d1 a i) (segL d1 i (i+1)) le)):SegAs d d2 a (i+1) (ssort le (segL d a (i+1))):=by
 obtain ⟨y,hy⟩:=aIb hi
 rw[h.here,h.other (.inr (Nat.le_refl _)),aLb hy] at h2
 refine ⟨h2.len.trans h.len,?_,fun t ht=>(h2.there t ht).trans (h.there t (by omega))⟩
 rw[h2.here,aCj hai (Nat.le_succ i),aLb hy,aIz]
end
end Go.Proofs.YtohblmepajhpaaaGreatDoor
