/- Texts of the walks, together: Walks: the document's whole, of a merge of trees: put, one, both. -/
import Derived.Test.YtcemkikgaeghjaaGreatDoorG33
import Derived.Test.YtcemkikgaeghjaaGreatDoorG37
set_option maxHeartbeats 16000000
set_option maxRecDepth 100000
open Go.Lib (hid)
namespace Go.Proofs.YtcemkikgaeghjaaGreatDoor
open Go.RowKit
theorem aOe {P:Program}{S:World->Prop}{a:Act}{w:World}{K:Act->World->Prop}{dst:Option Tmp}{t ty:TypeId}{q:Bool}{g:Option (Tmp×Bool)}{z:Value}{cs:Array Value}(hz:∀w,(zeroValue t).run P w=.ok z w)(hc:z.cells=cs)
  (hK:S (w.alloc (.cells cs t))/\K (a.put dst (.pointer (some ⟨w.heap.size,0,none⟩))) (w.alloc (.cells cs t))):effq P S ⟨q,dst,.alloc t,ty,g⟩ a w K:=aCg hz (by rw[hc];exact hK)
structure MD (Z:Nat->Obj->Prop) (w0 w:World) (mb:Nat) (A:Option Addr) (c:Nat) (cv:Value) (m:List FV×List CL) (N:Nat):Prop where
 hs:w.heap[mb]? = some (.cells #[.slice A m.1.length c,cv] 65 (0,0))
 f1:RdF w w.heap.size A m.1.length c m.1
 fa:∀b o s,A=some ⟨b,o,s⟩->b≠mb/\cv.ownBlock≠some b
 c1:w.ownsRow w0.heap.size 36 3 cv m.2.length (m.2.flatMap CL.cells)
 lo:w0.heap.size<=mb
 bel:Below w0.heap.size w0 w
 few1:m.1.length<=N
 few2:m.2.length<=N
 oth:∀k ob,Z k ob->w.heap[k]? = some ob/\k≠mb/\cv.ownBlock≠some k
 lt:∀b o s,A=some ⟨b,o,s⟩->b<w.heap.size
section
variable {Z:Nat->Obj->Prop} {w0 w w':World} {mb N c:Nat} {A:Option Addr} {cv:Value} {m:List FV×List CL}
theorem MD.below (h:MD Z w0 w mb A c cv m N)(hb:Below w.heap.size w w'):MD Z w0 w' mb A c cv m N:=
 ⟨(hb.block mb (aAa h.hs)).trans h.hs,h.f1.to hb hb.size,h.fa,aAe h.c1 hb,h.lo,h.bel.trans (hb.mono h.bel.size),h.few1,h.few2,fun k ob hz=>⟨(hb.block k (aAa (h.oth k ob hz).1)).trans (h.oth k ob hz).1,(h.oth k ob hz).2⟩,fun b o s e=>Nat.lt_of_lt_of_le (h.lt b o s e) hb.size⟩
theorem MD.more {N':Nat}(h:MD Z w0 w mb A c cv m N)(hN:N<=N'):MD Z w0 w mb A c cv m N':=⟨h.hs,h.f1,h.fa,h.c1,h.lo,h.bel,by have:=h.few1;omega,by have:=h.few2;omega,h.oth,h.lt⟩
theorem MD.pushC {cv':Value}{d:CL}(h:MD Z w0 w mb A c cv m N)(hN:m.2.length+1<=N)(hg:w.grownBy w' cv.ownBlock)(hv:cv'.ownBlock=cv.ownBlock\/cv'.ownBlock=some w.heap.size)
  (ho:w'.ownsRow w0.heap.size 36 3 cv' (m.2.length+1) (m.2.flatMap CL.cells++[d].flatMap CL.cells)):w'.heap[mb]? = some (.cells #[.slice A m.1.length c,cv] 65 (0,0))/\MD Z w0 (w'.setCell ⟨mb,1,none⟩ cv') mb A c cv' (m.1,m.2++[d]) N:=by
 have hs':=(hg.block mb (aAa h.hs) (fun e=>aCl h.c1 h.hs (by decide) e.symm)).trans h.hs
 refine ⟨hs',?_,?_,fun b o s e=>?_,?_,h.lo,(h.bel.grown hg h.bel.size (fun g hg=>(h.c1.lt g hg).1)).setCell h.lo _,h.few1,?_,fun k ob hz=>?_,fun b o s e=>by have h1:=h.lt b o s e;have h2:=hg.size;simp;omega⟩
 ·have:=heap_setCell_same w' mb 1 _ _ cv' hs'
  simpa using this
 ·refine aDv h.f1 fun b o ob e hb=>?_
  obtain ⟨n1,n2⟩:=h.fa b o none e
  exact (Below.heap_setCell w' ⟨mb,1,none⟩ _ b n1).trans ((hg.block b (aAa hb) (fun e=>n2 e.symm)).trans hb)
 ·obtain ⟨n1,n2⟩:=h.fa b o s e
  refine ⟨n1,fun e2=>?_⟩
  rcases hv with hv | hv
  ·exact n2 (hv▸e2)
  rw[hv] at e2;injection e2 with e2
  have:=h.lt b o s e;omega
 ·refine ownsRow_setCell_other ?_ (aCl ho hs' (by decide)) _
  rw[List.length_append,List.flatMap_append];exact ho
 ·show (m.2++[d]).length<=N
  rw[List.length_append];simpa using hN
 obtain ⟨z1,z2,z4⟩:=h.oth k ob hz
 exact ⟨(Below.heap_setCell w' ⟨mb,1,none⟩ _ k z2).trans ((hg.block k (aAa z1) (fun e=>z4 e.symm)).trans z1),z2,fun e=>by
  rcases hv with hv | hv
  ·exact z4 (hv▸e)
  rw[hv] at e;injection e with e;have:=aAa z1;omega⟩
theorem MD.putF {A':Option Addr} {c':Nat}{l:List FV}(h:MD Z w0 w mb A c cv m N)(h0:0<l.length)(hl:l.length<=N)(hb:Below w.heap.size w w')(hr:RdF w' w'.heap.size A' l.length c' l)(hn:NewAt A' w.heap.size) :
  MD Z w0 (w'.setCell ⟨mb,0,none⟩ (.slice A' l.length c')) mb A' c' cv (l,m.2) N:=by
 have hs':=(hb.block mb (aAa h.hs)).trans h.hs
 have hml:=aAa h.hs
 have hc':=aAe h.c1 hb
 refine ⟨?_,?_,fun b o s e=>?_,?_,h.lo,(h.bel.trans (hb.mono h.bel.size)).setCell h.lo _,hl,h.few2,fun k ob hz=>?_,fun b o s e=>?_⟩
 ·have:=heap_setCell_same w' mb 0 _ _ (.slice A' l.length c') hs'
  simpa using this
 ·refine aDv hr fun b o ob e hbb=>?_
  have:=hn b o none e
  exact (Below.heap_setCell w' ⟨mb,0,none⟩ _ b (show b≠mb by omega)).trans hbb
 ·have h1:=hn b o s e
  exact ⟨by omega,fun e2=>by have:=(h.c1.lt b e2).2;omega⟩
 ·exact ownsRow_setCell_other hc' (aCl hc' hs' (by decide)) _
 ·obtain ⟨z1,z2,z4⟩:=h.oth k ob hz
  exact ⟨(Below.heap_setCell w' ⟨mb,0,none⟩ _ k z2).trans ((hb.block k (aAa z1)).trans z1),z2,z4⟩
 obtain ⟨b',o',e3,hbb,_⟩:=hr.row.at_ h0
 rw[e] at e3;injection e3 with e3;injection e3 with e3
 simp;omega
end
def PutD (Z:Nat->Obj->Prop)(w0:World)(mb:Nat)(m:List FV×List CL)(N:Nat)(e:Ending) (w':World):Prop:=e=.returned (.tuple #[])/\∃A c cv,MD Z w0 w' mb A c cv m N
theorem aLf (w:World):(zeroValue 28).run Tryz.prog w=.ok (.agg #[.string ⟨#[]⟩,.bool false,.string ⟨#[]⟩]) w:=by
 go_simp
theorem aAu {Z:Nat->Obj->Prop}{w0 w:World}{mb N c:Nat}{A:Option Addr}{cv:Value}{m:List FV×List CL}{f:FV}{kind:Int}(h:MD Z w0 w mb A c cv m N)(hN:N<=100000)(hf:f.path.size<=1000000/\f.text.size<=1000000) :
  Calls Tryz.prog 38 #[.pointer (some ⟨mb,0,none⟩),.agg #[.string f.path,.bool f.exec,.string f.text],.int .i64 kind] w (PutD Z w0 mb (putD m f kind) (N+1)):=by
 obtain ⟨W,eW⟩:∃W,W=w.alloc (.cells #[.string f.path,.bool f.exec,.string f.text] 28):=⟨_,rfl⟩
 have hbW:Below w.heap.size w W:=by rw[eW];exact (Below.refl _ _).alloc (Nat.le_refl _) _
 have hbx:W.heap[w.heap.size]? = some (.cells #[.string f.path,.bool f.exec,.string f.text] 28 (0,0)):=by rw[eW];exact heap_alloc_new _ _
 have HM:=hid (h.below hbW)
 have HBX:=hid hbx
 have HNN:=hid hN
 have HF:=hid hf
 have HPC:=hid (fun e:cv.ownBlock=some w.heap.size=>Nat.lt_irrefl _ (h.c1.lt _ e).2)
 have HPM:=hid (Nat.ne_of_gt (aAa h.hs))
 have KF:=hid (fun (u:World) (hu:Below W.heap.size W u)=>aDy (p:=f.path) (by have:=HM.out.few1;omega) (HM.out.f1.to hu hu.size))
 have KC:=hid (fun (u:World) (hu:Below W.heap.size W u)=>aLa (p:=f.path) (by have:=HM.out.few1;omega) (by unfold maxLen;omega) (HM.out.f1.to hu hu.size))
 have HPD:=hid (show putD m f kind=if ((findP m.1 f.path).isSome || clashF m.1 f.path)=true then (m.1,m.2++[⟨f.path,5,f.text⟩]) else (sortedIn m.1 f,if kind=0 then m.2 else m.2++[⟨f.path,kind,f.text⟩]) from rfl)
 clear h hbW hbx hN hf
 go_enter Tryz.func38,Tryz.ntmps38
 go_wp2
 rw[<-eW]
 clear eW
 generalize w.heap.size=bx at *
 refine aAw (fun v'=>Below W.heap.size W v') (.q 0 (.q 1 (.q 2 (.q 3 (.q 4 (.q 5 (.two 6 (.q 7 (.q 8 (.q 9 (.one 10 (.one 11 (.q 12 .leaf)))))) 10 (.one 6 (.q 7 (.q 8 (.q 9 (.one 11 (.q 12 .leaf))))))))))))) mixed (by kernel_rfl) (Below.refl _ _).drew ?_
 intro Tp M Q hT hT' hM hQ
 have m0:M ⟨mb,0,none⟩=some (.slice A m.1.length c):=hM _ _ fun w' hw=>(hw.cell (p:=⟨mb,0,none⟩) (aAa HM.out.hs)).trans (by rw[Lib.cell_of_heap HM.out.hs];rfl)
 have m1:M ⟨bx,0,none⟩=some (.string f.path):=hM _ _ fun w' hw=>(hw.cell (p:=⟨bx,0,none⟩) (aAa HBX.out)).trans (by rw[Lib.cell_of_heap HBX.out];rfl)
 clear hM
 refine aDf ?_
 intro O hO
 have t0:=hO true 0
 have t1:=hO true 1
 have t2:=hO true 2
 have t3:=hO true 3
 have t4:=hO true 4
 have t5:=hO true 5
 have t7:=hO true 7
 have t8:=hO true 8
 have t9:=hO true 9
 have t12:=hO true 12
 have e6:=hO false 6
 have e10:=hO false 10
 have e11:=hO false 11
 simp only[qcmp] at t0 t1 t2 t3 t4 t5 t7 t8 t9 t12 e6 e10 e11
 clear hO
 simp (maxSteps:=9^7) only[↓wt_q,↓aBc,t0,t1,t2,t3,t4,t5,e6,e10,↓qpre,aAb,aAf,aAc,m0,m1]
 have hd0:Below W.heap.size W W.drew:=(Below.refl _ _).drew
 have hi24:(Tryz.prog.info? 28).map (·.size)=some 3:=by kernel_rfl
 refine ⟨?_,?_⟩
 case' refine_1=>
  refine aAh (by kernel_rfl) (KF.out _ hd0) rfl rfl ?_
  rintro e u1 ⟨rfl,hb1⟩
  have hb2:=hd0.trans (hb1.mono hd0.size)
  refine ⟨_,rfl,hT _ hb2,?_⟩
  simp (maxSteps:=9^7) only[↓wt_q,↓aAj,t7,t8,t9,e10,↓qpre,aAb,aAc]
  have hb3:=hb2.alloc hb2.size (.cells #[.string ⟨#[]⟩,.bool false,.string ⟨#[]⟩] 28)
  refine aOe (cs:=#[.string ⟨#[]⟩,.bool false,.string ⟨#[]⟩]) aLf rfl ⟨hT _ hb3,?_⟩
  simp (maxSteps:=9^7) only[↓aAj,e11,aAb,aAc]
  have hn:=heap_alloc_new u1 (.cells #[.string ⟨#[]⟩,.bool false,.string ⟨#[]⟩] 28)
  have hb4:=aAk (cs:=#[.string (optF (findP m.1 f.path)).path,.bool (optF (findP m.1 f.path)).exec,.string (optF (findP m.1 f.path)).text]) hb3 hb2.size
  refine aAt (g:=u1.heap.size) (cells:=#[.string (optF (findP m.1 f.path)).path,.bool (optF (findP m.1 f.path)).exec,.string (optF (findP m.1 f.path)).text]) rfl rfl hn hi24 rfl (by simp[Value.oneCell']) ⟨hT _ hb4,?_⟩
  simp (maxSteps:=9^7) only[↓wt_q,↓aCy,t12,↓qpre,aAb,aAc]
  refine hQ _ _ ?_
  have HBV:=hid hb4
  clear hb1 hb2 hb3 hb4 hn
  generalize (u1.alloc (.cells #[.string ⟨#[]⟩,.bool false,.string ⟨#[]⟩] 28)).setRow u1.heap.size #[.string (optF (findP m.1 f.path)).path,.bool (optF (findP m.1 f.path)).exec,.string (optF (findP m.1 f.path)).text]=v at *
 case' refine_2=>
  have hb3:=hd0.alloc hd0.size (.cells #[.string ⟨#[]⟩,.bool false,.string ⟨#[]⟩] 28)
  refine aOe (cs:=#[.string ⟨#[]⟩,.bool false,.string ⟨#[]⟩]) aLf rfl ⟨hT _ hb3,?_⟩
  simp (maxSteps:=9^7) only[↓aAj,e6,aAb,aAc]
  have hn:=heap_alloc_new W.drew (.cells #[.string ⟨#[]⟩,.bool false,.string ⟨#[]⟩] 28)
  refine aAh (by kernel_rfl) (KF.out _ hb3) rfl rfl ?_
  rintro e u1 ⟨rfl,hb1⟩
  have hb2:=hb3.trans (hb1.mono hb3.size)
  refine ⟨_,rfl,hT _ hb2,?_⟩
  simp (maxSteps:=9^7) only[↓wt_q,↓aAj,t7,t8,t9,e11,↓qpre,aAb,aAc]
  replace hn:=(hb1.block _ (aAa hn)).trans hn
  have hb4:=aAk (cs:=#[.string (optF (findP m.1 f.path)).path,.bool (optF (findP m.1 f.path)).exec,.string (optF (findP m.1 f.path)).text]) hb2 hd0.size
  refine aAt (g:=W.drew.heap.size) (cells:=#[.string (optF (findP m.1 f.path)).path,.bool (optF (findP m.1 f.path)).exec,.string (optF (findP m.1 f.path)).text]) rfl rfl hn hi24 rfl (by simp[Value.oneCell']) ⟨hT _ hb4,?_⟩
  simp (maxSteps:=9^7) only[↓wt_q,↓aCy,t12,↓qpre,aAb,aAc]
  refine hQ _ _ ?_
  have HBV:=hid hb4
  clear hb1 hb2 hb3 hb4 hn
  generalize u1.setRow W.drew.heap.size #[.string (optF (findP m.1 f.path)).path,.bool (optF (findP m.1 f.path)).exec,.string (optF (findP m.1 f.path)).text]=v at *
 all_goals
  clear hQ hT hT' t0 t1 t2 t3 t4 t5 t7 t8 t9 t12 e6 e10 e11 m0 m1 hd0
  clear Tp M Q O
  replace HM:=hid (HM.out.below HBV.out)
  replace HBX:=hid ((HBV.out.block _ (aAa HBX.out)).trans HBX.out)
  generalize findP m.1 f.path=F at *
  have HM2:=hid (HM.out.more (Nat.le_succ N))
  have HL2:=hid (show m.2.length+1<=N+1 from Nat.succ_le_succ HM.out.few2)
  have HLF:=hid (show m.1.length+1<=N+1 from Nat.succ_le_succ HM.out.few1)
  have HKC:=hid (fun (u:World) (hu:Below v.heap.size v u)=>KC.out u (HBV.out.trans (hu.mono HBV.out.size)))
  have hd1:Below v.heap.size v v.drew:=(Below.refl _ _).drew
  have g0:v.cell? ⟨mb,0,none⟩=some (.slice A m.1.length c):=by rw[Lib.cell_of_heap HM.out.hs];rfl
  have g1:v.cell? ⟨bx,0,none⟩=some (.string f.path):=by rw[Lib.cell_of_heap HBX.out];rfl
  have gl1:=aAa HM.out.hs
  have gl2:=aAa HBX.out
  clear HBV KF KC
  clear HM
  cases hF:F.isSome with
  | true=>
   have HP:=hid (HPD.out.trans (if_pos (by rw[hF,Bool.true_or])))
   clear hF HPD HKC
   go_wp2
   refine aAd (fun w'=>Below v.heap.size v w') (qe [8] 10) mixed (by kernel_rfl) (Below.refl _ _).drew ?_
   intro Tp M Q hT hT' hM hQ
   simp only[qcmp,Nat.reduceBEq]
   simp (maxSteps:=9^7) only[↓qpre,aAb,aAc]
   refine hQ _ _ ?_
   clear hQ hT hT' hM g0 g1 gl1 gl2
   clear Tp M Q
   replace HM2:=hid (HM2.out.below hd1)
   replace HBX:=hid (show v.drew.heap[bx]? = _ from HBX.out)
   clear hd1
   generalize v.drew=vd at *
   go_wp2
   refine aAs (fun u=>u.heap[mb]? = some (.cells #[.slice A m.1.length c,cv] 65 (0,0))/\u.heap[bx]? = some (.cells #[.string f.path,.bool f.exec,.string f.text] 28 (0,0))) [(true,0),(true,1),(true,2),(true,3),(true,4),(true,5),(true,6),(true,7),(true,8),(false,9),(false,10),(false,11),(true,12),(true,13)] [14] mixed (by kernel_rfl) ⟨HM2.out.hs,HBX.out⟩ ?_
   intro Tp M Q Q2 hT hT' hM hQ hQ2
   have m0:M ⟨mb,1,none⟩=some cv:=hM _ _ fun w' hw=>by rw[Lib.cell_of_heap hw.1];rfl
   have m1:M ⟨bx,0,none⟩=some (.string f.path):=hM _ _ fun w' hw=>by rw[Lib.cell_of_heap hw.2];rfl
   have m3:M ⟨bx,2,none⟩=some (.string f.text):=hM _ _ fun w' hw=>by rw[Lib.cell_of_heap hw.2];rfl
   clear hM
   simp only[qcmp]
   simp (maxSteps:=9^7) only[↓qpre,aAb,aAf,aAc,m0,m1,m3]
   clear m0 m1 m3
   refine aCc rfl (aFm _ _ _ _) ⟨hT _ ⟨HM2.out.hs,HBX.out⟩,?_⟩
   simp (maxSteps:=9^7) only[aAb,aAc]
   have hba:Below vd.heap.size vd (vd.drew.alloc (.cells #[.string f.path,.int .i64 5,.string f.text] 36)):=(Below.refl _ _).drew.alloc (Nat.le_refl _) _
   have HMV:=hid (HM2.out.below hba)
   have HBV:=hid ((hba.block bx (aAa HBX.out)).trans HBX.out)
   have HLI:=hid (aEv vd.drew ⟨f.path,5,f.text⟩)
   refine T.eff_lits (T.run_lits3 aBa _ _ _ _) rfl ⟨hT _ ⟨HMV.out.hs,HBV.out⟩,?_⟩
   simp (maxSteps:=9^7) only[aAb,aAc]
   clear hba HM2 HBX
   generalize vd.drew.alloc (.cells #[.string f.path,.int .i64 5,.string f.text] 36)=V at *
   refine aAo aBa (base:=w0.heap.size) (n:=m.2.length) rfl rfl HMV.out.c1 HLI.out (aBv _) (by have:=HL2.out;have:=HNN.out;unfold maxLen;omega) (by have:=HL2.out;have:=HNN.out;omega) HMV.out.bel.size ?_
   intro v9 V5 ho9 hg9 hv9
   obtain ⟨A9,c9,rfl,hc9⟩:=aAg ho9
   obtain ⟨hs9,hp9⟩:=HMV.out.pushC (d:=⟨f.path,5,f.text⟩) HL2.out hg9 hv9 ho9
   have HM9:=hid hp9
   have HB9:=hid ((hg9.block bx (aAa HBV.out) (fun e=>HPC.out e.symm)).trans HBV.out)
   refine ⟨hT _ ⟨hs9,HB9.out⟩,?_⟩
   simp (maxSteps:=9^7) only[↓qpre,aAb,aAf,aAc]
   refine hQ _ _ ?_
   simp only[lates,List.map,qcmp]
   simp (maxSteps:=9^7) only[aAb]
   refine aAy (v:=.slice A9 (m.2.length+1) c9) (b:=mb) (o:=1) (by kernel_rfl) rfl rfl (by rw[Lib.cell_of_heap hs9];rfl) (aAi hs9) rfl ⟨trivial,?_⟩
   simp (maxSteps:=9^7) only[aAb]
   refine hQ2 _ _ ?_
   clear hQ hQ2 hT hT' HMV HBV HLI ho9 hg9 hv9 hs9 hp9 HB9
   generalize V5.setCell ⟨mb,1,none⟩ (.slice A9 (m.2.length+1) c9)=V6 at *
   go_wp2
   refine bodyPost_ret (results_none rfl _ _ _) rfl ?_
   exact ⟨rfl,_,_,_,by rw[HP.out];exact HM9.out⟩
  | false=>
   have KCL:=HKC.out _ hd1
   clear HKC
   generalize hcl:clashF m.1 f.path=C at *
   have HPD2:=hid (show putD m f kind=if C=true then (m.1,m.2++[⟨f.path,5,f.text⟩]) else (sortedIn m.1 f,if kind=0 then m.2 else m.2++[⟨f.path,kind,f.text⟩]) by rw[HPD.out,hF,Bool.false_or])
   clear hF HPD hcl
   go_wp2
   refine aAd (fun w'=>Below v.heap.size v w') (qe [8] 10) mixed (by kernel_rfl) (Below.refl _ _).drew ?_
   intro Tp M Q hT hT' hM hQ
   have m0:M ⟨mb,0,none⟩=some (.slice A m.1.length c):=hM _ _ fun w' hw=>(hw.cell (p:=⟨mb,0,none⟩) gl1).trans g0
   have m1:M ⟨bx,0,none⟩=some (.string f.path):=hM _ _ fun w' hw=>(hw.cell (p:=⟨bx,0,none⟩) gl2).trans g1
   clear hM
   simp only[qcmp,Nat.reduceBEq]
   simp (maxSteps:=9^7) only[↓qpre,aAb,aAf,aAc,m0,m1]
   refine aAh (by kernel_rfl) KCL rfl rfl ?_
   rintro e v2 ⟨rfl,hb2⟩
   have hb3:=hd1.trans (hb2.mono hd1.size)
   refine ⟨_,rfl,hT _ hb3,?_⟩
   simp (maxSteps:=9^7) only[↓qpre,aAb,aAc]
   refine hQ _ _ ?_
   replace HM2:=hid (HM2.out.below hb3)
   replace HBX:=hid ((hb3.block _ (aAa HBX.out)).trans HBX.out)
   clear hQ hT hT' m0 m1 g0 g1 gl1 gl2 hb2 hb3 hd1 KCL
   clear Tp M Q
   cases C with
   | true=>
    have HP:=hid (HPD2.out.trans (if_pos rfl))
    clear HPD2
    go_wp2
    refine aAs (fun u=>u.heap[mb]? = some (.cells #[.slice A m.1.length c,cv] 65 (0,0))/\u.heap[bx]? = some (.cells #[.string f.path,.bool f.exec,.string f.text] 28 (0,0))) [(true,0),(true,1),(true,2),(true,3),(true,4),(true,5),(true,6),(true,7),(true,8),(false,9),(false,10),(false,11),(true,12),(true,13)] [14] mixed (by kernel_rfl) ⟨HM2.out.hs,HBX.out⟩ ?_
    intro Tp M Q Q2 hT hT' hM hQ hQ2
    have m0:M ⟨mb,1,none⟩=some cv:=hM _ _ fun w' hw=>by rw[Lib.cell_of_heap hw.1];rfl
    have m1:M ⟨bx,0,none⟩=some (.string f.path):=hM _ _ fun w' hw=>by rw[Lib.cell_of_heap hw.2];rfl
    have m3:M ⟨bx,2,none⟩=some (.string f.text):=hM _ _ fun w' hw=>by rw[Lib.cell_of_heap hw.2];rfl
    clear hM
    simp only[qcmp]
    simp (maxSteps:=9^7) only[↓qpre,aAb,aAf,aAc,m0,m1,m3]
    clear m0 m1 m3
    refine aCc rfl (aFm _ _ _ _) ⟨hT _ ⟨HM2.out.hs,HBX.out⟩,?_⟩
    simp (maxSteps:=9^7) only[aAb,aAc]
    have hba:Below v2.heap.size v2 (v2.drew.alloc (.cells #[.string f.path,.int .i64 5,.string f.text] 36)):=(Below.refl _ _).drew.alloc (Nat.le_refl _) _
    have HMV:=hid (HM2.out.below hba)
    have HBV:=hid ((hba.block bx (aAa HBX.out)).trans HBX.out)
    have HLI:=hid (aEv v2.drew ⟨f.path,5,f.text⟩)
    refine T.eff_lits (T.run_lits3 aBa _ _ _ _) rfl ⟨hT _ ⟨HMV.out.hs,HBV.out⟩,?_⟩
    simp (maxSteps:=9^7) only[aAb,aAc]
    clear hba HM2 HBX
    generalize v2.drew.alloc (.cells #[.string f.path,.int .i64 5,.string f.text] 36)=V at *
    refine aAo aBa (base:=w0.heap.size) (n:=m.2.length) rfl rfl HMV.out.c1 HLI.out (aBv _) (by have:=HL2.out;have:=HNN.out;unfold maxLen;omega) (by have:=HL2.out;have:=HNN.out;omega) HMV.out.bel.size ?_
    intro v9 V5 ho9 hg9 hv9
    obtain ⟨A9,c9,rfl,hc9⟩:=aAg ho9
    obtain ⟨hs9,hp9⟩:=HMV.out.pushC (d:=⟨f.path,5,f.text⟩) HL2.out hg9 hv9 ho9
    have HM9:=hid hp9
    have HB9:=hid ((hg9.block bx (aAa HBV.out) (fun e=>HPC.out e.symm)).trans HBV.out)
    refine ⟨hT _ ⟨hs9,HB9.out⟩,?_⟩
    simp (maxSteps:=9^7) only[↓qpre,aAb,aAf,aAc]
    refine hQ _ _ ?_
    simp only[lates,List.map,qcmp]
    simp (maxSteps:=9^7) only[aAb]
    refine aAy (v:=.slice A9 (m.2.length+1) c9) (b:=mb) (o:=1) (by kernel_rfl) rfl rfl (by rw[Lib.cell_of_heap hs9];rfl) (aAi hs9) rfl ⟨trivial,?_⟩
    simp (maxSteps:=9^7) only[aAb]
    refine hQ2 _ _ ?_
    clear hQ hQ2 hT hT' HMV HBV HLI ho9 hg9 hv9 hs9 hp9 HB9
    generalize V5.setCell ⟨mb,1,none⟩ (.slice A9 (m.2.length+1) c9)=V6 at *
    go_wp2
    refine bodyPost_ret (results_none rfl _ _ _) rfl ?_
    exact ⟨rfl,_,_,_,by rw[HP.out];exact HM9.out⟩
   | false=>
    have HP:=hid (HPD2.out.trans (if_neg (by simp)))
    clear HPD2
    by_cases hk:kind=0
    ·have HP:=hid (HP.out.trans (by rw[if_pos hk]))
     subst hk
     go_wp2
     have KS:=hid (fun (u:World) (hu:Below v2.heap.size v2 u)=>aGe (f:=f) (by have:=HM2.out.few1;have:=HNN.out;omega) (HM2.out.f1.to hu hu.size) (by have:=HF.out;omega))
     refine aAs (fun u=>u.heap[mb]? = some (.cells #[.slice A m.1.length c,cv] 65 (0,0))/\u.heap[bx]? = some (.cells #[.string f.path,.bool f.exec,.string f.text] 28 (0,0))) [(true,0),(true,1),(true,2),(true,3),(true,4),(true,5),(false,6),(true,7),(true,8)] [9] mixed (by kernel_rfl) ⟨HM2.out.hs,HBX.out⟩ ?_
     intro Tp M Q Q2 hT hT' hM hQ hQ2
     have m0:M ⟨mb,0,none⟩=some (.slice A m.1.length c):=hM _ _ fun w' hw=>by rw[Lib.cell_of_heap hw.1];rfl
     have m1:M ⟨bx,0,none⟩=some (.string f.path):=hM _ _ fun w' hw=>by rw[Lib.cell_of_heap hw.2];rfl
     have m2:M ⟨bx,1,none⟩=some (.bool f.exec):=hM _ _ fun w' hw=>by rw[Lib.cell_of_heap hw.2];rfl
     have m3:M ⟨bx,2,none⟩=some (.string f.text):=hM _ _ fun w' hw=>by rw[Lib.cell_of_heap hw.2];rfl
     clear hM
     simp only[qcmp]
     simp (maxSteps:=9^7) only[↓qpre,aAb,aAf,aAc,m0,m1,m2,m3]
     clear m0 m1 m2 m3
     have hd9:Below v2.heap.size v2 v2.drew:=(Below.refl _ _).drew
     refine aAh (by kernel_rfl) (KS.out _ hd9) rfl rfl ?_
     rintro e u5 ⟨A5,c5,l5,rfl,hl5,hr5,hb5,hn5⟩
     have hb9:=hd9.trans (hb5.mono hd9.size)
     have hs5:=(hb9.block mb (aAa HM2.out.hs)).trans HM2.out.hs
     have hx5:=(hb9.block bx (aAa HBX.out)).trans HBX.out
     have hlen:l5.length=m.1.length+1:=by rw[hl5];exact aCn _ _
     have HM5:=hid (HM2.out.putF (by omega) (by have:=HLF.out;omega) hb9 hr5 hn5)
     have HL5:=hid hl5
     refine ⟨_,rfl,hT _ ⟨hs5,hx5⟩,?_⟩
     simp (maxSteps:=9^7) only[↓qpre,aAb,aAf,aAc]
     refine hQ _ _ ?_
     simp only[lates,List.map,qcmp]
     simp (maxSteps:=9^7) only[aAb]
     refine aAy (v:=.slice A5 l5.length c5) (b:=mb) (o:=0) (by kernel_rfl) rfl rfl (by rw[Lib.cell_of_heap hs5];rfl) (aAi hs5) rfl ⟨trivial,?_⟩
     simp (maxSteps:=9^7) only[aAb]
     refine hQ2 _ _ ?_
     clear hQ hQ2 hT hT' hs5 hx5 hb9 hb5 hr5 hn5 hl5 hlen hd9 KS
     generalize u5.setCell ⟨mb,0,none⟩ (.slice A5 l5.length c5)=u6 at *
     go_wp2
     refine bodyPost_end (results_none rfl _ _ _) rfl ?_
     exact ⟨rfl,_,_,_,by rw[HP.out,<-HL5.out];exact HM5.out⟩
    have HP:=hid (HP.out.trans (by rw[if_neg hk]))
    have ek:(kind != 0)=true:=by simpa using hk
    clear hk
    go_wp2
    refine aAs (fun u=>u.heap[mb]? = some (.cells #[.slice A m.1.length c,cv] 65 (0,0))/\u.heap[bx]? = some (.cells #[.string f.path,.bool f.exec,.string f.text] 28 (0,0))) [(true,0),(true,1),(true,2),(true,3),(true,4),(true,5),(true,6),(true,7),(true,8),(true,9),(false,10),(false,11),(false,12),(true,13),(true,14)] [15] mixed (by kernel_rfl) ⟨HM2.out.hs,HBX.out⟩ ?_
    intro Tp M Q Q2 hT hT' hM hQ hQ2
    have m0:M ⟨mb,1,none⟩=some cv:=hM _ _ fun w' hw=>by rw[Lib.cell_of_heap hw.1];rfl
    have m1:M ⟨bx,0,none⟩=some (.string f.path):=hM _ _ fun w' hw=>by rw[Lib.cell_of_heap hw.2];rfl
    have m3:M ⟨bx,2,none⟩=some (.string f.text):=hM _ _ fun w' hw=>by rw[Lib.cell_of_heap hw.2];rfl
    clear hM
    simp only[qcmp]
    simp (maxSteps:=9^7) only[↓qpre,aAb,aAf,aAc,m0,m1,m3]
    clear m0 m1 m3
    refine aCc rfl (aFm _ _ _ _) ⟨hT _ ⟨HM2.out.hs,HBX.out⟩,?_⟩
    simp (maxSteps:=9^7) only[aAb,aAc]
    have hba:Below v2.heap.size v2 (v2.drew.alloc (.cells #[.string f.path,.int .i64 kind,.string f.text] 36)):=(Below.refl _ _).drew.alloc (Nat.le_refl _) _
    have HMV:=hid (HM2.out.below hba)
    have HBV:=hid ((hba.block bx (aAa HBX.out)).trans HBX.out)
    have HLI:=hid (aEv v2.drew ⟨f.path,kind,f.text⟩)
    refine T.eff_lits (T.run_lits3 aBa _ _ _ _) rfl ⟨hT _ ⟨HMV.out.hs,HBV.out⟩,?_⟩
    simp (maxSteps:=9^7) only[aAb,aAc]
    clear hba HM2 HBX
    generalize v2.drew.alloc (.cells #[.string f.path,.int .i64 kind,.string f.text] 36)=V at *
    refine aAo aBa (base:=w0.heap.size) (n:=m.2.length) rfl rfl HMV.out.c1 HLI.out (aBv _) (by have:=HL2.out;have:=HNN.out;unfold maxLen;omega) (by have:=HL2.out;have:=HNN.out;omega) HMV.out.bel.size ?_
    intro v9 V5 ho9 hg9 hv9
    obtain ⟨A9,c9,rfl,hc9⟩:=aAg ho9
    obtain ⟨hs9,hp9⟩:=HMV.out.pushC (d:=⟨f.path,kind,f.text⟩) HL2.out hg9 hv9 ho9
    have HM9:=hid hp9
    have HB9:=hid ((hg9.block bx (aAa HBV.out) (fun e=>HPC.out e.symm)).trans HBV.out)
    refine ⟨hT _ ⟨hs9,HB9.out⟩,?_⟩
    simp (maxSteps:=9^7) only[↓qpre,aAb,aAf,aAc]
    refine hQ _ _ ?_
    simp only[lates,List.map,qcmp]
    simp (maxSteps:=9^7) only[aAb]
    refine aAy (v:=.slice A9 (m.2.length+1) c9) (b:=mb) (o:=1) (by kernel_rfl) rfl rfl (by rw[Lib.cell_of_heap hs9];rfl) (aAi hs9) rfl ⟨trivial,?_⟩
    simp (maxSteps:=9^7) only[aAb]
    refine hQ2 _ _ ?_
    have HB10:=hid ((Below.heap_setCell V5 ⟨mb,1,none⟩ (.slice A9 (m.2.length+1) c9) bx HPM.out).trans HB9.out)
    clear hQ hQ2 hT hT' HMV HBV HLI ho9 hg9 hv9 hs9 hp9 HB9 ek
    generalize V5.setCell ⟨mb,1,none⟩ (.slice A9 (m.2.length+1) c9)=V6 at *
    clear Tp M Q Q2
    go_wp2
    have KS:=hid (fun (u:World) (hu:Below V6.heap.size V6 u)=>aGe (f:=f) (by have:=HM9.out.few1;have:=HNN.out;omega) (HM9.out.f1.to hu hu.size) (by have:=HF.out;omega))
    refine aAs (fun u=>u.heap[mb]? = some (.cells #[.slice A m.1.length c,.slice A9 (m.2.length+1) c9] 65 (0,0))/\u.heap[bx]? = some (.cells #[.string f.path,.bool f.exec,.string f.text] 28 (0,0))) [(true,0),(true,1),(true,2),(true,3),(true,4),(true,5),(false,6),(true,7),(true,8)] [9] mixed (by kernel_rfl) ⟨HM9.out.hs,HB10.out⟩ ?_
    intro Tp M Q Q2 hT hT' hM hQ hQ2
    have m0:M ⟨mb,0,none⟩=some (.slice A m.1.length c):=hM _ _ fun w' hw=>by rw[Lib.cell_of_heap hw.1];rfl
    have m1:M ⟨bx,0,none⟩=some (.string f.path):=hM _ _ fun w' hw=>by rw[Lib.cell_of_heap hw.2];rfl
    have m2:M ⟨bx,1,none⟩=some (.bool f.exec):=hM _ _ fun w' hw=>by rw[Lib.cell_of_heap hw.2];rfl
    have m3:M ⟨bx,2,none⟩=some (.string f.text):=hM _ _ fun w' hw=>by rw[Lib.cell_of_heap hw.2];rfl
    clear hM
    simp only[qcmp]
    simp (maxSteps:=9^7) only[↓qpre,aAb,aAf,aAc,m0,m1,m2,m3]
    clear m0 m1 m2 m3
    have hd9:Below V6.heap.size V6 V6.drew:=(Below.refl _ _).drew
    refine aAh (by kernel_rfl) (KS.out _ hd9) rfl rfl ?_
    rintro e u5 ⟨A5,c5,l5,rfl,hl5,hr5,hb5,hn5⟩
    have hb9:=hd9.trans (hb5.mono hd9.size)
    have hs5:=(hb9.block mb (aAa HM9.out.hs)).trans HM9.out.hs
    have hx5:=(hb9.block bx (aAa HB10.out)).trans HB10.out
    have hlen:l5.length=m.1.length+1:=by rw[hl5];exact aCn _ _
    have HM5:=hid (HM9.out.putF (by omega) (by have:=HLF.out;omega) hb9 hr5 hn5)
    have HL5:=hid hl5
    refine ⟨_,rfl,hT _ ⟨hs5,hx5⟩,?_⟩
    simp (maxSteps:=9^7) only[↓qpre,aAb,aAf,aAc]
    refine hQ _ _ ?_
    simp only[lates,List.map,qcmp]
    simp (maxSteps:=9^7) only[aAb]
    refine aAy (v:=.slice A5 l5.length c5) (b:=mb) (o:=0) (by kernel_rfl) rfl rfl (by rw[Lib.cell_of_heap hs5];rfl) (aAi hs5) rfl ⟨trivial,?_⟩
    simp (maxSteps:=9^7) only[aAb]
    refine hQ2 _ _ ?_
    clear hQ hQ2 hT hT' hs5 hx5 hb9 hb5 hr5 hn5 hl5 hlen hd9 KS
    generalize u5.setCell ⟨mb,0,none⟩ (.slice A5 l5.length c5)=u6 at *
    go_wp2
    refine bodyPost_end (results_none rfl _ _ _) rfl ?_
    exact ⟨rfl,_,_,_,by rw[HP.out,<-HL5.out];exact HM5.out⟩
end Go.Proofs.YtcemkikgaeghjaaGreatDoor
