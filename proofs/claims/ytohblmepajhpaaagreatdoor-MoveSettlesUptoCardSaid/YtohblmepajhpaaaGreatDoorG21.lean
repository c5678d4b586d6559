/- Texts of the walks, together: Walk: (*treemerge.merge).put. A move under way, in memory: what stays, what is put behind. Walks: (*treemerge.merge).one. Walk: (*treemerge.merge).both. -/
import Derived.Test.YtohblmepajhpaaaGreatDoorG06
import Derived.Test.YtohblmepajhpaaaGreatDoorG15
import Derived.Test.YtohblmepajhpaaaGreatDoorG19
import Derived.Test.YtohblmepajhpaaaGreatDoorG20
set_option maxHeartbeats 8000000
set_option maxRecDepth 100000
open Go.Lib (hid)
namespace Go.Proofs.YtohblmepajhpaaaGreatDoor
open Go.RowKit
structure MI (Z:Nat->Obj->Prop) (w0 w:World) (mb:Nat) (fv cv:Value) (m:List FV×List CL) (N:Nat):Prop where
 hs:w.heap[mb]? = some (.cells #[fv,cv] 181 (0,0))
 f1:w.ownsRow w0.heap.size 48 3 fv m.1.length (m.1.flatMap FV.cells)
 c1:w.ownsRow w0.heap.size 94 3 cv m.2.length (m.2.flatMap CL.cells)
 lo:w0.heap.size<=mb
 bel:Below w0.heap.size w0 w
 fits:∀f∈m.1,f.path.size<=1000000/\f.text.size<=1000000
 few1:m.1.length<=N
 few2:m.2.length<=N
 oth:∀k ob,Z k ob->w.heap[k]? = some ob/\k≠mb/\fv.ownBlock≠some k/\cv.ownBlock≠some k
theorem aBm {w:World}{B:Nat}{e T:TypeId}{k n mb:Nat}{v:Value}{xs:List Value}{cs:Array Value}{fr:Nat×Nat}(h:w.ownsRow B e k v n xs)(hg:w.heap[mb]? = some (.cells cs T fr))(hne:e≠T):v.ownBlock≠some mb:=fun e1=>by
 obtain ⟨cs',h2⟩:=aOd h e1
 rw[hg] at h2
 injection h2 with h2
 injection h2 with _ h2 _
 exact hne h2.symm
theorem aDw {w:World}{B:Nat} {e e':TypeId} {k n k' n':Nat} {v v':Value} {xs xs':List Value}(h:w.ownsRow B e k v n xs) (h':w.ownsRow B e' k' v' n' xs')(hne:e≠e')(g:Nat)(hg:v.ownBlock=some g):v'.ownBlock≠some g:=fun e1=>by
 obtain ⟨cs',h2⟩:=aOd h hg
 exact aBm h' h2 (fun e2=>hne e2.symm) e1
theorem MI.below {Z:Nat->Obj->Prop} {w0 w w':World}{mb:Nat}{fv cv:Value}{m:List FV×List CL}{N:Nat}(h:MI Z w0 w mb fv cv m N)(hb:Below w.heap.size w w'):MI Z w0 w' mb fv cv m N:=
 ⟨(hb.block mb (aAa h.hs)).trans h.hs,aAg h.f1 hb,aAg h.c1 hb,h.lo,h.bel.trans (hb.mono h.bel.size),h.fits,h.few1,h.few2,fun k ob hz=>⟨(hb.block k (aAa (h.oth k ob hz).1)).trans (h.oth k ob hz).1,(h.oth k ob hz).2⟩⟩
theorem aDb {w w':World}{B:Nat}{T:TypeId}{k n:Nat}{v o:Value}{xs:List Value}(hr:w.ownsRow B T k v n xs)(hg:w.grownBy w' o.ownBlock)(hn:∀g,v.ownBlock=some g->o.ownBlock≠some g):w'.ownsRow B T k v n xs:=by
 refine hr.kept hg ?_
 cases e:v.ownBlock with
 | none=>exact .inl rfl
 | some g=>exact .inr (fun e2=>hn g e e2.symm)
theorem MI.pushF {Z:Nat->Obj->Prop} {w0 w w':World}{mb:Nat} {fv fv' cv:Value}{m:List FV×List CL}{N:Nat}{f:FV}(h:MI Z w0 w mb fv cv m N)(hf:f.path.size<=1000000/\f.text.size<=1000000)(hg:w.grownBy w' fv.ownBlock)(hv:fv'.ownBlock=fv.ownBlock\/fv'.ownBlock=some w.heap.size)
  (ho:w'.ownsRow w0.heap.size 48 3 fv' (m.1.length+1) (m.1.flatMap FV.cells++[f].flatMap FV.cells)):w'.heap[mb]? = some (.cells #[fv,cv] 181 (0,0))/\MI Z w0 (w'.setCell ⟨mb,0,none⟩ fv') mb fv' cv (m.1++[f],m.2) (N+1):=by
 have hs':=(hg.block mb (aAa h.hs) (fun e=>aBm h.f1 h.hs (by decide) e.symm)).trans h.hs
 have hc':=aDb h.c1 hg (fun g e=>aDw h.c1 h.f1 (by decide) g e)
 refine ⟨hs',?_,?_,ownsRow_setCell_other hc' (aBm hc' hs' (by decide)) _,h.lo,(h.bel.grown hg h.bel.size (fun g hg=>(h.f1.lt g hg).1)).setCell h.lo _,fun x hx=>?_,?_,by have:=h.few2;show m.2.length<=N+1;omega,fun k ob hz=>?_⟩
 ·have:=heap_setCell_same w' mb 0 _ _ fv' hs'
  simpa using this
 ·refine ownsRow_setCell_other ?_ (aBm ho hs' (by decide)) _
  rw[List.length_append,List.flatMap_append];exact ho
 ·rcases List.mem_append.1 hx with hx | hx
  ·exact h.fits x hx
  rw[List.mem_singleton.1 hx];exact hf
 ·show (m.1++[f]).length<=N+1
  rw[List.length_append];have:=h.few1;simp only[List.length_singleton];omega
 obtain ⟨z1,z2,z3,z4⟩:=h.oth k ob hz
 exact ⟨(Below.heap_setCell w' ⟨mb,0,none⟩ _ k z2).trans ((hg.block k (aAa z1) (fun e=>z3 e.symm)).trans z1),z2,fun e=>by
  rcases hv with hv | hv
  ·exact z3 (hv▸e)
  rw[hv] at e;injection e with e;have:=aAa z1;omega,z4⟩
theorem MI.pushC {Z:Nat->Obj->Prop} {w0 w w':World}{mb:Nat} {fv cv cv':Value}{m:List FV×List CL}{N:Nat}{c:CL}(h:MI Z w0 w mb fv cv m N)(hN:m.2.length+1<=N)(hg:w.grownBy w' cv.ownBlock)(hv:cv'.ownBlock=cv.ownBlock\/cv'.ownBlock=some w.heap.size)
  (ho:w'.ownsRow w0.heap.size 94 3 cv' (m.2.length+1) (m.2.flatMap CL.cells++[c].flatMap CL.cells)):w'.heap[mb]? = some (.cells #[fv,cv] 181 (0,0))/\MI Z w0 (w'.setCell ⟨mb,1,none⟩ cv') mb fv cv' (m.1,m.2++[c]) N:=by
 have hs':=(hg.block mb (aAa h.hs) (fun e=>aBm h.c1 h.hs (by decide) e.symm)).trans h.hs
 have hf':=aDb h.f1 hg (fun g e=>aDw h.f1 h.c1 (by decide) g e)
 refine ⟨hs',?_,ownsRow_setCell_other hf' (aBm hf' hs' (by decide)) _,?_,h.lo,(h.bel.grown hg h.bel.size (fun g hg=>(h.c1.lt g hg).1)).setCell h.lo _,h.fits,h.few1,?_,fun k ob hz=>?_⟩
 ·have:=heap_setCell_same w' mb 1 _ _ cv' hs'
  simpa using this
 ·refine ownsRow_setCell_other ?_ (aBm ho hs' (by decide)) _
  rw[List.length_append,List.flatMap_append];exact ho
 ·show (m.2++[c]).length<=N
  rw[List.length_append];simpa using hN
 obtain ⟨z1,z2,z3,z4⟩:=h.oth k ob hz
 exact ⟨(Below.heap_setCell w' ⟨mb,1,none⟩ _ k z2).trans ((hg.block k (aAa z1) (fun e=>z4 e.symm)).trans z1),z2,z3,fun e=>by
  rcases hv with hv | hv
  ·exact z4 (hv▸e)
  rw[hv] at e;injection e with e;have:=aAa z1;omega⟩
theorem MI.more {Z:Nat->Obj->Prop}{w0 w:World}{mb:Nat}{fv cv:Value}{m:List FV×List CL} {N N':Nat}(h:MI Z w0 w mb fv cv m N)(hN:N<=N'):MI Z w0 w mb fv cv m N':=⟨h.hs,h.f1,h.c1,h.lo,h.bel,h.fits,by have:=h.few1;omega,by have:=h.few2;omega,h.oth⟩
theorem aIm:Elem Tryz.prog 30 94 3 40:=aBt (by kernel_rfl)
theorem aWc (w:World)(f:CL):Rd (w.alloc (.cells #[.string f.path,.int .i64 f.kind,.string f.text] 94)) (w.alloc (.cells #[.string f.path,.int .i64 f.kind,.string f.text] 94)).heap.size 3 (some ⟨w.heap.size,0,none⟩) 1 1 ([f].flatMap CL.cells):=
 aOj (heap_alloc_new w _) rfl (Nat.le_refl _) fun j u hu=>by
  have:j<3:=(List.getElem?_eq_some_iff.1 hu).1
  match j,this with
  | 0,_=>simpa[CL.cells] using hu
  | 1,_=>simpa[CL.cells] using hu
  | 2,_=>simpa[CL.cells] using hu
theorem aRg (p t:ByteArray)(k:Int)(w:World):(Instr.build 94 #[(0,.string p),(1,.int .i64 k),(2,.string t)]).run Tryz.prog w=.ok (.agg #[.string p,.int .i64 k,.string t]) w:=by
 go_simp
def PutIs (Z:Nat->Obj->Prop)(w0:World)(mb:Nat)(m:List FV×List CL)(N:Nat)(e:Ending) (w':World):Prop:=e=.returned (.tuple #[])/\∃fv cv,MI Z w0 w' mb fv cv m N
theorem aAx {Z:Nat->Obj->Prop}{w0 w:World}{mb N:Nat}{fv cv:Value}{m:List FV×List CL}{f:FV}{kind:Int}(h:MI Z w0 w mb fv cv m N)(hN:N<=100000)(hf:f.path.size<=1000000/\f.text.size<=1000000) :
  Calls Tryz.prog 155 #[.pointer (some ⟨mb,0,none⟩),.agg #[.string f.path,.bool f.exec,.string f.text],.int .i64 kind] w (PutIs Z w0 mb (putM m f kind) (N+1)):=by
 obtain ⟨W,eW⟩:∃W,W=w.alloc (.cells #[.string f.path,.bool f.exec,.string f.text] 48):=⟨_,rfl⟩
 have hbW:Below w.heap.size w W:=by rw[eW];exact (Below.refl _ _).alloc (Nat.le_refl _) _
 have hbx:W.heap[w.heap.size]? = some (.cells #[.string f.path,.bool f.exec,.string f.text] 48 (0,0)):=by rw[eW];exact heap_alloc_new _ _
 have hMW:=h.below hbW
 obtain ⟨A,cA,efv,hcA⟩:=aAd hMW.f1
 have hro:=hMW.f1
 rw[efv] at hro
 have hrd:RdF W W.heap.size A m.1.length cA m.1:=⟨Rd.of_own hro hcA,rfl,fun x hx=>by have:=hMW.fits x hx;omega⟩
 have K:=aQj (q1:=.pointer (some ⟨w.heap.size,0,none⟩)) (fun x=>clashP x.p f.p) (by have:=hMW.few1;omega) hrd
  (fun x u hx hu=>bFp (f:=f) (x:=x) hf.1 (hMW.fits x hx).1 ((hu.block _ (aAa hbx)).trans hbx))
 have HM:=hid hMW
 have HBX:=hid hbx
 have HF:=hid hf
 have HNN:=hid hN
 have HEF:=hid efv
 have c0:W.cell? ⟨mb,0,none⟩=some (.slice A m.1.length cA):=by rw[Lib.cell_of_heap hMW.hs];exact congrArg some efv
 have HPF:=hid (fun e:fv.ownBlock=some w.heap.size=>Nat.lt_irrefl _ (h.f1.lt _ e).2)
 have HPC:=hid (fun e:cv.ownBlock=some w.heap.size=>Nat.lt_irrefl _ (h.c1.lt _ e).2)
 have HPM:=hid (Nat.ne_of_gt (aAa h.hs))
 rw[eW] at c0 K
 clear h hbW hbx hMW hro hrd hcA hf hN efv
 go_enter Tryz.func155,Tryz.ntmps155
 go_wp2_with fail
 refine K.mono ?_
 rintro e w1 ⟨rfl,hb1⟩
 rw[<-eW] at hb1
 have HM1:=hid (HM.out.below hb1)
 have HBX1:=hid ((hb1.block _ (aAa HBX.out)).trans HBX.out)
 clear K c0 hb1 HM HBX eW
 generalize w.heap.size=bx at *
 by_cases hc:(m.1.any fun x=>clashP x.p f.p)=true
 ·have HP:=hid (show putM m f kind=(m.1,m.2++[⟨f.path,5,f.text⟩]) by unfold putM;rw[if_pos hc])
  rw[hc]
  clear hc
  have HM2:=hid (HM1.out.more (Nat.le_succ N))
  have HL2:=hid (show m.2.length+1<=N+1 from Nat.succ_le_succ HM1.out.few2)
  go_wp2
  refine aBf (fun u=>u.heap[mb]? = some (.cells #[fv,cv] 181 (0,0))/\u.heap[bx]? = some (.cells #[.string f.path,.bool f.exec,.string f.text] 48 (0,0)))
   [(true,0),(true,1),(true,2),(true,3),(true,4),(true,5),(true,6),(true,7),(true,8),(true,9),(false,10),(false,11),(false,12),(true,13),(true,14)] [15] mixed (by kernel_rfl) ⟨HM2.out.hs,HBX1.out⟩ ?_
  intro Tp M Q Q2 hT hT' hM hQ hQ2
  have m0:M ⟨mb,1,none⟩=some cv:=hM _ _ fun w' hw=>by rw[Lib.cell_of_heap hw.1];rfl
  have m1:M ⟨bx,0,none⟩=some (.string f.path):=hM _ _ fun w' hw=>by rw[Lib.cell_of_heap hw.2];rfl
  have m3:M ⟨bx,2,none⟩=some (.string f.text):=hM _ _ fun w' hw=>by rw[Lib.cell_of_heap hw.2];rfl
  clear hM
  simp only[qcmp]
  simp (maxSteps:=9^7) only[↓qpre,aAb,aAe,aAc,m0,m1,m3]
  clear m0 m1 m3
  refine aBz rfl (aRg _ _ _ _) ⟨hT _ ⟨HM2.out.hs,HBX1.out⟩,?_⟩
  simp (maxSteps:=9^7) only[aAb,aAc]
  have hba:Below w1.heap.size w1 (w1.drew.alloc (.cells #[.string f.path,.int .i64 5,.string f.text] 94)):=(Below.refl _ _).drew.alloc (Nat.le_refl _) _
  have HMV:=hid (HM2.out.below hba)
  have HBV:=hid ((hba.block bx (aAa HBX1.out)).trans HBX1.out)
  have HLI:=hid (aWc w1.drew ⟨f.path,5,f.text⟩)
  refine T.eff_lits (T.run_lits3 aIm _ _ _ _) rfl ⟨hT _ ⟨HMV.out.hs,HBV.out⟩,?_⟩
  simp (maxSteps:=9^7) only[aAb,aAc]
  clear hba HM2 HBX1
  generalize w1.drew.alloc (.cells #[.string f.path,.int .i64 5,.string f.text] 94)=V at *
  refine aAw aIm (base:=w0.heap.size) (n:=m.2.length) rfl rfl HMV.out.c1 HLI.out (aLp _) (by have:=HL2.out;have:=HNN.out;unfold maxLen;omega) (by have:=HL2.out;have:=HNN.out;omega) HMV.out.bel.size ?_
  intro v9 V5 ho9 hg9 hv9
  obtain ⟨A9,c9,rfl,hc9⟩:=aAd ho9
  obtain ⟨hs9,hp9⟩:=HMV.out.pushC (c:=⟨f.path,5,f.text⟩) HL2.out hg9 hv9 ho9
  have HM9:=hid hp9
  have HB9:=hid ((hg9.block bx (aAa HBV.out) (fun e=>HPC.out e.symm)).trans HBV.out)
  refine ⟨hT _ ⟨hs9,HB9.out⟩,?_⟩
  simp (maxSteps:=9^7) only[↓qpre,aAb,aAe,aAc]
  refine hQ _ _ ?_
  simp only[lates,List.map,qcmp]
  simp (maxSteps:=9^7) only[aAb]
  refine aBi (v:=.slice A9 (m.2.length+1) c9) (b:=mb) (o:=1) (by kernel_rfl) rfl rfl (by rw[Lib.cell_of_heap hs9];rfl) (aAk hs9) rfl ⟨trivial,?_⟩
  simp (maxSteps:=9^7) only[aAb]
  refine hQ2 _ _ ?_
  clear hQ hQ2 hT hT' HMV HBV HLI ho9 hg9 hv9 hs9 hp9 HB9
  generalize V5.setCell ⟨mb,1,none⟩ (.slice A9 (m.2.length+1) c9)=V6 at *
  go_wp2
  refine bodyPost_end (results_none rfl _ _ _) rfl ?_
  exact ⟨rfl,_,_,by rw[HP.out];exact HM9.out⟩
 have hcf:(m.1.any fun x=>clashP x.p f.p)=false:=by simpa using hc
 have HP:=hid (show putM m f kind=(m.1++[f],if kind=0 then m.2 else m.2++[⟨f.path,kind,f.text⟩]) by unfold putM;rw[if_neg hc])
 rw[hcf]
 clear hc hcf
 go_wp2
 refine aBf (fun u=>u.heap[mb]? = some (.cells #[fv,cv] 181 (0,0))/\u.heap[bx]? = some (.cells #[.string f.path,.bool f.exec,.string f.text] 48 (0,0)))
  [(true,0),(true,1),(true,2),(true,3),(true,4),(true,5),(false,6),(false,7),(true,8),(true,9)] [10] mixed (by kernel_rfl) ⟨HM1.out.hs,HBX1.out⟩ ?_
 intro Tp M Q Q2 hT hT' hM hQ hQ2
 have m0:M ⟨mb,0,none⟩=some fv:=hM _ _ fun w' hw=>by rw[Lib.cell_of_heap hw.1];rfl
 have m1:M ⟨bx,0,none⟩=some (.string f.path):=hM _ _ fun w' hw=>by rw[Lib.cell_of_heap hw.2];rfl
 have m2:M ⟨bx,1,none⟩=some (.bool f.exec):=hM _ _ fun w' hw=>by rw[Lib.cell_of_heap hw.2];rfl
 have m3:M ⟨bx,2,none⟩=some (.string f.text):=hM _ _ fun w' hw=>by rw[Lib.cell_of_heap hw.2];rfl
 clear hM
 simp only[qcmp]
 simp (maxSteps:=9^7) only[↓qpre,aAb,aAe,aAc,m0,m1,m2,m3]
 clear m0 m1 m2 m3
 have hba:Below w1.heap.size w1 (w1.drew.alloc (.cells #[.string f.path,.bool f.exec,.string f.text] 48)):=(Below.refl _ _).drew.alloc (Nat.le_refl _) _
 have HMV:=hid (HM1.out.below hba)
 have HBV:=hid ((hba.block bx (aAa HBX1.out)).trans HBX1.out)
 have HLI:=hid (aQg w1.drew f)
 refine T.eff_lits (T.run_lits3 aCu _ _ _ _) rfl ⟨hT _ ⟨HMV.out.hs,HBV.out⟩,?_⟩
 simp (maxSteps:=9^7) only[aAb,aAc]
 clear hba HM1 HBX1
 generalize w1.drew.alloc (.cells #[.string f.path,.bool f.exec,.string f.text] 48)=V at *
 refine aAw aCu (base:=w0.heap.size) (n:=m.1.length) rfl rfl HMV.out.f1 HLI.out (aBn _) (by have:=HMV.out.few1;have:=HNN.out;unfold maxLen;omega) (by have:=HMV.out.few1;have:=HNN.out;omega) HMV.out.bel.size ?_
 intro v7 V5 ho7 hg7 hv7
 obtain ⟨A7,c7,rfl,hc7⟩:=aAd ho7
 obtain ⟨hs5,hp5⟩:=HMV.out.pushF (f:=f) HF.out hg7 hv7 ho7
 have HM5:=hid hp5
 have HB5:=hid ((hg7.block bx (aAa HBV.out) (fun e=>HPF.out e.symm)).trans HBV.out)
 refine ⟨hT _ ⟨hs5,HB5.out⟩,?_⟩
 simp (maxSteps:=9^7) only[↓qpre,aAb,aAe,aAc]
 refine hQ _ _ ?_
 simp only[lates,List.map,qcmp]
 simp (maxSteps:=9^7) only[aAb]
 refine aBi (v:=.slice A7 (m.1.length+1) c7) (b:=mb) (o:=0) (by kernel_rfl) rfl rfl (by rw[Lib.cell_of_heap hs5];rfl) (aAk hs5) rfl ⟨trivial,?_⟩
 simp (maxSteps:=9^7) only[aAb]
 refine hQ2 _ _ ?_
 have HB6:=hid ((Below.heap_setCell V5 ⟨mb,0,none⟩ (.slice A7 (m.1.length+1) c7) bx HPM.out).trans HB5.out)
 have HMX:=HMV
 clear hQ hQ2 hT hT' HMV HBV HLI ho7 hg7 hv7 hs5 hp5 HB5
 generalize V5.setCell ⟨mb,0,none⟩ (.slice A7 (m.1.length+1) c7)=V6 at *
 by_cases hk:kind=0
 ·subst hk
  go_wp2
  refine bodyPost_end (results_none rfl _ _ _) rfl ?_
  exact ⟨rfl,_,_,by rw[HP.out];exact HM5.out⟩
 have ek:(kind != 0)=true:=by simpa using hk
 rw[if_neg hk] at HP
 have HL2:=hid (show m.2.length+1<=N+1 from Nat.succ_le_succ (HMX.out.few2))
 clear hk
 go_wp2
 refine aBf (fun u=>u.heap[mb]? = some (.cells #[(.slice A7 (m.1.length+1) c7),cv] 181 (0,0))/\u.heap[bx]? = some (.cells #[.string f.path,.bool f.exec,.string f.text] 48 (0,0)))
  [(true,0),(true,1),(true,2),(true,3),(true,4),(true,5),(true,6),(true,7),(true,8),(true,9),(false,10),(false,11),(false,12),(true,13),(true,14)] [15] mixed (by kernel_rfl) ⟨HM5.out.hs,HB6.out⟩ ?_
 intro Tp M Q Q2 hT hT' hM hQ hQ2
 have m0:M ⟨mb,1,none⟩=some cv:=hM _ _ fun w' hw=>by rw[Lib.cell_of_heap hw.1];rfl
 have m1:M ⟨bx,0,none⟩=some (.string f.path):=hM _ _ fun w' hw=>by rw[Lib.cell_of_heap hw.2];rfl
 have m3:M ⟨bx,2,none⟩=some (.string f.text):=hM _ _ fun w' hw=>by rw[Lib.cell_of_heap hw.2];rfl
 clear hM
 simp only[qcmp]
 simp (maxSteps:=9^7) only[↓qpre,aAb,aAe,aAc,m0,m1,m3]
 clear m0 m1 m3
 refine aBz rfl (aRg _ _ _ _) ⟨hT _ ⟨HM5.out.hs,HB6.out⟩,?_⟩
 simp (maxSteps:=9^7) only[aAb,aAc]
 have hba:Below V6.heap.size V6 (V6.drew.alloc (.cells #[.string f.path,.int .i64 kind,.string f.text] 94)):=(Below.refl _ _).drew.alloc (Nat.le_refl _) _
 have HMV:=hid (HM5.out.below hba)
 have HBV:=hid ((hba.block bx (aAa HB6.out)).trans HB6.out)
 have HLI:=hid (aWc V6.drew ⟨f.path,kind,f.text⟩)
 refine T.eff_lits (T.run_lits3 aIm _ _ _ _) rfl ⟨hT _ ⟨HMV.out.hs,HBV.out⟩,?_⟩
 simp (maxSteps:=9^7) only[aAb,aAc]
 clear hba HM5 HB6
 generalize V6.drew.alloc (.cells #[.string f.path,.int .i64 kind,.string f.text] 94)=V at *
 refine aAw aIm (base:=w0.heap.size) (n:=m.2.length) rfl rfl HMV.out.c1 HLI.out (aLp _) (by have:=HL2.out;have:=HNN.out;unfold maxLen;omega) (by have:=HL2.out;have:=HNN.out;omega) HMV.out.bel.size ?_
 intro v9 V5 ho9 hg9 hv9
 obtain ⟨A9,c9,rfl,hc9⟩:=aAd ho9
 obtain ⟨hs9,hp9⟩:=HMV.out.pushC (c:=⟨f.path,kind,f.text⟩) HL2.out hg9 hv9 ho9
 have HM9:=hid hp9
 have HB9:=hid ((hg9.block bx (aAa HBV.out) (fun e=>HPC.out e.symm)).trans HBV.out)
 refine ⟨hT _ ⟨hs9,HB9.out⟩,?_⟩
 simp (maxSteps:=9^7) only[↓qpre,aAb,aAe,aAc]
 refine hQ _ _ ?_
 simp only[lates,List.map,qcmp]
 simp (maxSteps:=9^7) only[aAb]
 refine aBi (v:=.slice A9 (m.2.length+1) c9) (b:=mb) (o:=1) (by kernel_rfl) rfl rfl (by rw[Lib.cell_of_heap hs9];rfl) (aAk hs9) rfl ⟨trivial,?_⟩
 simp (maxSteps:=9^7) only[aAb]
 refine hQ2 _ _ ?_
 clear hQ hQ2 hT hT' HMV HBV HLI ho9 hg9 hv9 hs9 hp9 HB9
 generalize V5.setCell ⟨mb,1,none⟩ (.slice A9 (m.2.length+1) c9)=V6 at *
 go_wp2
 refine bodyPost_end (results_none rfl _ _ _) rfl ?_
 exact ⟨rfl,_,_,by rw[HP.out];exact HM9.out⟩
theorem aPm (w:World)(f:FLV):Rd (w.alloc (.cells #[.int .i64 f.parent,.string f.msg,.slice f.A f.files.length f.c] 40)) (w.alloc (.cells #[.int .i64 f.parent,.string f.msg,.slice f.A f.files.length f.c] 40)).heap.size 3 (some ⟨w.heap.size,0,none⟩) 1 1 ([f].flatMap FLV.cells):=
 aKr (heap_alloc_new _ _) (by simp[FLV.cells]) rfl
def HStay (X:List Nat) (w w':World):Prop:=w.heap.size<=w'.heap.size/\∀k,k<w.heap.size->k∉X->w'.heap[k]? = w.heap[k]?
theorem HStay.keeps {X:List Nat} {w w':World}(h:HStay X w w'):Keeps X w w':=⟨h.1,fun p hp hx=>by unfold World.cell?;rw[h.2 p.block hp hx]⟩
theorem HStay.of_below {X:List Nat} {w w':World}(h:Below w.heap.size w w'):HStay X w w':=⟨h.size,fun k hk _=>h.block k hk⟩
theorem HStay.grown {X:List Nat} {w w':World}{row:Option Nat}(h:w.grownBy w' row)(hr:∀g,row=some g->g∈X):HStay X w w':=⟨h.size,fun k hk hx=>h.block k hk (fun e=>hx (hr k e.symm))⟩
theorem HStay.trans {X Y:List Nat}{a b c:World}(h:HStay X a b)(k:HStay Y b c)(hy:∀g∈Y,g∈X\/a.heap.size<=g):HStay X a c:=
 ⟨Nat.le_trans h.1 k.1,fun g hg hx=>(k.2 g (Nat.lt_of_lt_of_le hg h.1) (fun e=>by
  rcases hy g e with h1 | h1
  ·exact hx h1
  omega)).trans (h.2 g hg hx)⟩
theorem HStay.at_ {X:List Nat} {w w':World}(h:HStay X w w'){g:Nat}{ob:Obj}(hg:w.heap[g]? = some ob)(hx:g∉X):w'.heap[g]? = some ob:=(h.2 g (aAa hg) hx).trans hg
def Xs (Z:List Nat)(mb:Nat)(fv kv:Value):List Nat:=mb::(obs fv++(obs kv++Z))
theorem aBg {Z:List Nat}{mb g:Nat}{fv kv:Value}:g∈Xs Z mb fv kv↔g=mb\/fv.ownBlock=some g\/kv.ownBlock=some g\/g∈Z:=by
 unfold Xs
 rw[List.mem_cons,List.mem_append,List.mem_append]
 constructor
 ·rintro (h | h | h | h)
  ·exact .inl h
  ·exact .inr (.inl (aFr h))
  ·exact .inr (.inr (.inl (aFr h)))
  exact .inr (.inr (.inr h))
 rintro (h | h | h | h)
 ·exact .inl h
 ·exact .inr (.inl (aEq h))
 ·exact .inr (.inr (.inl (aEq h)))
 exact .inr (.inr (.inr h))
def movC (fv kv:Value)(E S:Nat)(sv:Value):Array Value:=#[fv,kv,.int .i64 E,.int .i64 S,sv,.slice none 0 0,.slice none 0 0,.int .i64 0,.slice none 0 0,.slice none 0 0]
structure Mov (Z:List Nat) (w0 w:World) (mb E S:Nat) (sv fv kv:Value) (fl:List FLV) (ms:List MV):Prop where
 hs:w.heap[mb]? = some (.cells (movC fv kv E S sv) 109 (0,0))
 f1:w.ownsRow w0.heap.size 40 3 fv fl.length (fl.flatMap FLV.cells)
 k1:w.ownsRow w0.heap.size 43 2 kv ms.length (ms.flatMap MV.cells)
 lo:w0.heap.size<=mb
 bel:Below w0.heap.size w0 w
 pf:∀f∈fl,FlOk w (Xs Z mb fv kv) f
 pk:∀m∈ms,MkOk w (Xs Z mb fv kv) m
 hz:∀z∈Z,z<w0.heap.size
def Off (w:World)(X:List Nat)(fl:List FLV)(ms:List MV):Prop:=(∀f∈fl,FlOk w X f)/\∀m∈ms,MkOk w X m
theorem Off.keep {w w':World}{X:List Nat}{fl:List FLV}{ms:List MV}(h:Off w X fl ms)(hk:HStay X w w'):Off w' X fl ms:=⟨fun f hf=>(h.1 f hf).keep hk.keeps,fun m hm=>(h.2 m hm).keep hk.keeps⟩
theorem Off.less {w:World}{X Y:List Nat}{fl:List FLV}{ms:List MV}(h:Off w X fl ms)(hm:∀b∈Y,b∈X\/w.heap.size<=b):Off w Y fl ms:=⟨fun f hf=>(h.1 f hf).less hm,fun m hx=>(h.2 m hx).less hm⟩
section
variable {Z:List Nat} {w0 w w':World} {mb E S:Nat} {sv fv kv:Value} {fl:List FLV} {ms:List MV}
theorem Mov.below (h:Mov Z w0 w mb E S sv fv kv fl ms)(hb:Below w.heap.size w w'):Mov Z w0 w' mb E S sv fv kv fl ms:=
 ⟨(hb.block mb (aAa h.hs)).trans h.hs,aAg h.f1 hb,aAg h.k1 hb,h.lo,h.bel.trans (hb.mono h.bel.size),fun f hf=>(h.pf f hf).keep (HStay.of_below hb).keeps,fun m hm=>(h.pk m hm).keep (HStay.of_below hb).keeps,h.hz⟩
theorem Mov.rdFl (h:Mov Z w0 w mb E S sv fv kv fl ms):∃A c,fv=.slice A fl.length c/\RdFl w w.heap.size A fl.length c fl:=by
 obtain ⟨A,c,e,hc⟩:=aAd h.f1
 have h1:=h.f1
 rw[e] at h1
 exact ⟨A,c,e,Rd.of_own h1 hc,rfl,fun f hf=>⟨(h.pf f hf).files.1,(h.pf f hf).few,(h.pf f hf).par,(h.pf f hf).msg⟩⟩
theorem Mov.rdFl' (h:Mov Z w0 w mb E S sv fv kv fl ms){A:Option Addr}{c:Nat}(e:fv=.slice A fl.length c):RdFl w w.heap.size A fl.length c fl:=by
 obtain ⟨A',c',e',hr⟩:=h.rdFl
 rw[e] at e'
 cases e'
 exact hr
theorem Mov.rdM (h:Mov Z w0 w mb E S sv fv kv fl ms):∃A c,kv=.slice A ms.length c/\RdM w w.heap.size A ms.length c ms:=by
 obtain ⟨A,c,e,hc⟩:=aAd h.k1
 have h1:=h.k1
 rw[e] at h1
 exact ⟨A,c,e,Rd.of_own h1 hc,rfl,fun m hm=>⟨(h.pk m hm).row,(h.pk m hm).few,(h.pk m hm).old,(h.pk m hm).new⟩⟩
theorem Mov.new (h:Mov Z w0 w mb E S sv fv kv fl ms){g:Nat}(hg:w.heap.size<=g):g∉Xs Z mb fv kv:=fun e=>by
 rcases aBg.1 e with h1 | h1 | h1 | h1
 ·have:=aAa h.hs;omega
 ·have:=(h.f1.lt g h1).2;omega
 ·have:=(h.k1.lt g h1).2;omega
 have:=h.hz g h1;have:=h.bel.size;omega
theorem Mov.setOther (h:Mov Z w0 w mb E S sv fv kv fl ms){g:Nat}(hg:w.grownBy w' (some g))(hx:g∉Xs Z mb fv kv)(hlo:w0.heap.size<=g)(hp:Off w (g::Xs Z mb fv kv) fl ms):Mov Z w0 w' mb E S sv fv kv fl ms:=by
 have hst:HStay (g::Xs Z mb fv kv) w w':=HStay.grown hg fun k e=>by injection e with e;rw[e];exact List.mem_cons_self ..
 have hp':=(hp.keep hst).less (Y:=Xs Z mb fv kv) fun b hb=>.inl (List.mem_cons_of_mem _ hb)
 refine ⟨(hg.block mb (aAa h.hs) (fun e=>hx (aBg.2 (.inl (by injection e with e;exact e.symm))))).trans h.hs,h.f1.kept hg (.inr fun e=>hx (aBg.2 (.inr (.inl e)))),h.k1.kept hg (.inr fun e=>hx (aBg.2 (.inr (.inr (.inl e))))),h.lo,h.bel.grown hg h.bel.size (fun k e=>by injection e with e;omega),hp'.1,hp'.2,h.hz⟩
theorem Mov.pushF (h:Mov Z w0 w mb E S sv fv kv fl ms){f:FLV} {fv':Value}(hf:FlOk w (Xs Z mb fv kv) f)(hg:w.grownBy w' fv.ownBlock)(hv:fv'.ownBlock=fv.ownBlock\/fv'.ownBlock=some w.heap.size)
  (ho:w'.ownsRow w0.heap.size 40 3 fv' (fl.length+1) (fl.flatMap FLV.cells++[f].flatMap FLV.cells)) :
  w'.heap[mb]? = some (.cells (movC fv kv E S sv) 109 (0,0))/\Mov Z w0 (w'.setCell ⟨mb,0,none⟩ fv') mb E S sv fv' kv (fl++[f]) ms/\HStay (Xs Z mb fv kv) w (w'.setCell ⟨mb,0,none⟩ fv')/\(∀g∈Xs Z mb fv' kv,g∈Xs Z mb fv kv\/w.heap.size<=g)/\∀x,FlOk w (Xs Z mb fv kv) x->FlOk (w'.setCell ⟨mb,0,none⟩ fv') (Xs Z mb fv' kv) x:=by
 have hs':=(hg.block mb (aAa h.hs) (fun e=>aBm h.f1 h.hs (by decide) e.symm)).trans h.hs
 have hk':=aDb h.k1 hg (fun g e=>aDw h.k1 h.f1 (by decide) g e)
 have hst1:HStay (w.heap.size::Xs Z mb fv kv) w w':=HStay.grown hg fun g e=>List.mem_cons_of_mem _ (aBg.2 (.inr (.inl e)))
 have hst0:HStay (Xs Z mb fv kv) w w':=HStay.grown hg fun g e=>aBg.2 (.inr (.inl e))
 have hst2:HStay [mb] w' (w'.setCell ⟨mb,0,none⟩ fv'):=HStay.grown (aAq _ _ _ _) fun g e=>by injection e with e;rw[e];simp
 have hst3:HStay (Xs Z mb fv' kv) w' (w'.setCell ⟨mb,0,none⟩ fv'):=HStay.grown (aAq _ _ _ _) fun g e=>by injection e with e;exact aBg.2 (.inl e.symm)
 have hX:∀g∈Xs Z mb fv' kv,g∈w.heap.size::Xs Z mb fv kv:=fun g hg=>by
  rcases aBg.1 hg with e | e | e | e
  ·exact List.mem_cons_of_mem _ (aBg.2 (.inl e))
  ·rcases hv with h1 | h1
   ·exact List.mem_cons_of_mem _ (aBg.2 (.inr (.inl (h1▸e))))
   rw[h1] at e;injection e with e;rw[<-e];exact List.mem_cons_self ..
  ·exact List.mem_cons_of_mem _ (aBg.2 (.inr (.inr (.inl e))))
  exact List.mem_cons_of_mem _ (aBg.2 (.inr (.inr (.inr e))))
 have hY:∀b∈w.heap.size::Xs Z mb fv kv,b∈Xs Z mb fv kv\/w.heap.size<=b:=fun b hb=>by
  rcases List.mem_cons.1 hb with e | e
  ·exact .inr (Nat.le_of_eq e.symm)
  exact .inl e
 have hF:∀x,FlOk w (Xs Z mb fv kv) x->FlOk (w'.setCell ⟨mb,0,none⟩ fv') (Xs Z mb fv' kv) x:=fun x hx=>
  (((hx.less hY).keep hst1.keeps).less (Y:=Xs Z mb fv' kv) fun b hb=>.inl (hX b hb)).keep hst3.keeps
 have hM:∀x,MkOk w (Xs Z mb fv kv) x->MkOk (w'.setCell ⟨mb,0,none⟩ fv') (Xs Z mb fv' kv) x:=fun x hx=>
  (((hx.less hY).keep hst1.keeps).less (Y:=Xs Z mb fv' kv) fun b hb=>.inl (hX b hb)).keep hst3.keeps
 refine ⟨hs',⟨?_,?_,ownsRow_setCell_other hk' (aBm hk' hs' (by decide)) _,h.lo,(h.bel.grown hg h.bel.size (fun g hg=>(h.f1.lt g hg).1)).setCell h.lo _,fun x hx=>?_,fun x hx=>hM x (h.pk x hx),h.hz⟩,hst0.trans hst2 fun g hg=>.inl (by rw[List.mem_singleton.1 hg];exact aBg.2 (.inl rfl)),fun g hg=>hY g (hX g hg),hF⟩
 ·have:=heap_setCell_same w' mb 0 _ _ fv' hs'
  simpa[movC] using this
 ·refine ownsRow_setCell_other ?_ (aBm ho hs' (by decide)) _
  rw[List.length_append,List.flatMap_append];exact ho
 rcases List.mem_append.1 hx with hx | hx
 ·exact hF x (h.pf x hx)
 rw[List.mem_singleton.1 hx];exact hF f hf
theorem Mov.pushK (h:Mov Z w0 w mb E S sv fv kv fl ms){m:MV} {kv':Value}(hf:MkOk w (Xs Z mb fv kv) m)(hg:w.grownBy w' kv.ownBlock)(hv:kv'.ownBlock=kv.ownBlock\/kv'.ownBlock=some w.heap.size)
  (ho:w'.ownsRow w0.heap.size 43 2 kv' (ms.length+1) (ms.flatMap MV.cells++[m].flatMap MV.cells)) :
  w'.heap[mb]? = some (.cells (movC fv kv E S sv) 109 (0,0))/\Mov Z w0 (w'.setCell ⟨mb,1,none⟩ kv') mb E S sv fv kv' fl (ms++[m])/\HStay (Xs Z mb fv kv) w (w'.setCell ⟨mb,1,none⟩ kv')/\(∀g∈Xs Z mb fv kv',g∈Xs Z mb fv kv\/w.heap.size<=g)/\∀x,FlOk w (Xs Z mb fv kv) x->FlOk (w'.setCell ⟨mb,1,none⟩ kv') (Xs Z mb fv kv') x:=by
 have hs':=(hg.block mb (aAa h.hs) (fun e=>aBm h.k1 h.hs (by decide) e.symm)).trans h.hs
 have hf':=aDb h.f1 hg (fun g e=>aDw h.f1 h.k1 (by decide) g e)
 have hst1:HStay (w.heap.size::Xs Z mb fv kv) w w':=HStay.grown hg fun g e=>List.mem_cons_of_mem _ (aBg.2 (.inr (.inr (.inl e))))
 have hst0:HStay (Xs Z mb fv kv) w w':=HStay.grown hg fun g e=>aBg.2 (.inr (.inr (.inl e)))
 have hst2:HStay [mb] w' (w'.setCell ⟨mb,1,none⟩ kv'):=HStay.grown (aAq _ _ _ _) fun g e=>by injection e with e;rw[e];simp
 have hst3:HStay (Xs Z mb fv kv') w' (w'.setCell ⟨mb,1,none⟩ kv'):=HStay.grown (aAq _ _ _ _) fun g e=>by injection e with e;exact aBg.2 (.inl e.symm)
 have hX:∀g∈Xs Z mb fv kv',g∈w.heap.size::Xs Z mb fv kv:=fun g hg=>by
  rcases aBg.1 hg with e | e | e | e
  ·exact List.mem_cons_of_mem _ (aBg.2 (.inl e))
  ·exact List.mem_cons_of_mem _ (aBg.2 (.inr (.inl e)))
  ·rcases hv with h1 | h1
   ·exact List.mem_cons_of_mem _ (aBg.2 (.inr (.inr (.inl (h1▸e)))))
   rw[h1] at e;injection e with e;rw[<-e];exact List.mem_cons_self ..
  exact List.mem_cons_of_mem _ (aBg.2 (.inr (.inr (.inr e))))
 have hY:∀b∈w.heap.size::Xs Z mb fv kv,b∈Xs Z mb fv kv\/w.heap.size<=b:=fun b hb=>by
  rcases List.mem_cons.1 hb with e | e
  ·exact .inr (Nat.le_of_eq e.symm)
  exact .inl e
 have hF:∀x,FlOk w (Xs Z mb fv kv) x->FlOk (w'.setCell ⟨mb,1,none⟩ kv') (Xs Z mb fv kv') x:=fun x hx=>
  (((hx.less hY).keep hst1.keeps).less (Y:=Xs Z mb fv kv') fun b hb=>.inl (hX b hb)).keep hst3.keeps
 have hM:∀x,MkOk w (Xs Z mb fv kv) x->MkOk (w'.setCell ⟨mb,1,none⟩ kv') (Xs Z mb fv kv') x:=fun x hx=>
  (((hx.less hY).keep hst1.keeps).less (Y:=Xs Z mb fv kv') fun b hb=>.inl (hX b hb)).keep hst3.keeps
 refine ⟨hs',⟨?_,ownsRow_setCell_other hf' (aBm hf' hs' (by decide)) _,?_,h.lo,(h.bel.grown hg h.bel.size (fun g hg=>(h.k1.lt g hg).1)).setCell h.lo _,fun x hx=>hF x (h.pf x hx),fun x hx=>?_,h.hz⟩,hst0.trans hst2 fun g hg=>.inl (by rw[List.mem_singleton.1 hg];exact aBg.2 (.inl rfl)),fun g hg=>hY g (hX g hg),hF⟩
 ·have:=heap_setCell_same w' mb 1 _ _ kv' hs'
  simpa[movC] using this
 ·refine ownsRow_setCell_other ?_ (aBm ho hs' (by decide)) _
  rw[List.length_append,List.flatMap_append];exact ho
 rcases List.mem_append.1 hx with hx | hx
 ·exact hM x (h.pk x hx)
 rw[List.mem_singleton.1 hx];exact hM m hf
end
def oneM (m:List FV×List CL)(f x:FV):List FV×List CL:=if x=f then m else putM m x 3
theorem box2 (w:World)(o1 o2:Obj):Below w.heap.size w ((w.alloc o1).alloc o2):=((Below.refl _ _).alloc (Nat.le_refl _) _).alloc (by simp) _
theorem aXw {Z:Nat->Obj->Prop}{w0 w:World}{mb N:Nat}{fv cv:Value}{m:List FV×List CL}{f x:FV}(h:MI Z w0 w mb fv cv m N)(hN:N<=100000)(hx:x.path.size<=1000000/\x.text.size<=1000000) :
  Calls Tryz.prog 153 #[.pointer (some ⟨mb,0,none⟩),.agg #[.string f.path,.bool f.exec,.string f.text],.agg #[.string x.path,.bool x.exec,.string x.text]] w (PutIs Z w0 mb (oneM m f x) (N+1)):=by
 have hb0:Below w.heap.size w (w.alloc (.cells #[.string f.path,.bool f.exec,.string f.text] 48)):=(Below.refl _ _).alloc (Nat.le_refl _) _
 have hb1:=box2 w (.cells #[.string f.path,.bool f.exec,.string f.text] 48) (.cells #[.string x.path,.bool x.exec,.string x.text] 48)
 have hf:((w.alloc (.cells #[.string f.path,.bool f.exec,.string f.text] 48)).alloc (.cells #[.string x.path,.bool x.exec,.string x.text] 48)).heap[w.heap.size]? = some (.cells #[.string f.path,.bool f.exec,.string f.text] 48 (0,0)):=
  (((Below.refl _ (w.alloc (.cells #[.string f.path,.bool f.exec,.string f.text] 48))).alloc (Nat.le_refl _) _).block w.heap.size (by simp)).trans (heap_alloc_new _ _)
 have hxx:((w.alloc (.cells #[.string f.path,.bool f.exec,.string f.text] 48)).alloc (.cells #[.string x.path,.bool x.exec,.string x.text] 48)).heap[w.heap.size+1]? = some (.cells #[.string x.path,.bool x.exec,.string x.text] 48 (0,0)):=by
  have:=heap_alloc_new (w.alloc (.cells #[.string f.path,.bool f.exec,.string f.text] 48)) (.cells #[.string x.path,.bool x.exec,.string x.text] 48)
  simpa using this
 have HM:=hid (h.below hb1)
 have f0:=cell_of_row _ _ 0 _ _ _ hf
 have f1:=cell_of_row _ _ 1 _ _ _ hf
 have f2:=cell_of_row _ _ 2 _ _ _ hf
 have x0:=cell_of_row _ _ 0 _ _ _ hxx
 have x1:=cell_of_row _ _ 1 _ _ _ hxx
 have x2:=cell_of_row _ _ 2 _ _ _ hxx
 have hne:=fun u=>bGo x f u
 have K:=aAx (f:=x) (kind:=3) HM.out hN hx
 clear h hb0 hb1 hf hxx hN hx
 go_enter Tryz.func153,Tryz.ntmps153
 by_cases e:x=f
 ·have HE:=hid (show oneM m f x=m from if_pos e)
  have e1:(!decide (x=f))=false:=by simp[e]
  rw[e1] at hne
  clear e e1 K
  go_wp2
  refine bodyPost_end (results_none rfl _ _ _) rfl ?_
  exact ⟨rfl,_,_,by rw[HE.out];exact HM.out.more (Nat.le_succ N)⟩
 have HE:=hid (show oneM m f x=putM m x 3 from if_neg e)
 have e1:(!decide (x=f))=true:=by simp[e]
 rw[e1] at hne
 clear e e1
 go_wp2_with fail
 refine K.mono ?_
 rintro e w1 ⟨rfl,fv',cv',hp⟩
 have HP:=hid hp
 clear K hp HM
 go_wp2
 refine bodyPost_end (results_none rfl _ _ _) rfl ?_
 exact ⟨rfl,_,_,by rw[HE.out];exact HP.out⟩
def fileO (f:FV):Obj:=.cells #[.string f.path,.bool f.exec,.string f.text] 48
def BoxF (w:World)(b:Nat)(f:FV):Prop:=w.heap[b]? = some (.cells #[.string f.path,.bool f.exec,.string f.text] 48 (0,0))
theorem BoxF.below {w w':World}{b:Nat}{f:FV}(h:BoxF w b f)(hb:Below w.heap.size w w'):BoxF w' b f:=(hb.block b (aAa h)).trans h
theorem BoxF.new (w:World)(f:FV):BoxF (w.alloc (.cells #[.string f.path,.bool f.exec,.string f.text] 48)) w.heap.size f:=heap_alloc_new _ _
theorem BoxF.c0 {w:World}{b:Nat}{f:FV}(h:BoxF w b f):w.cell? ⟨b,0,none⟩=some (.string f.path):=(cell_of_row _ _ 0 _ _ _ h).trans rfl
theorem BoxF.c1 {w:World}{b:Nat}{f:FV}(h:BoxF w b f):w.cell? ⟨b,1,none⟩=some (.bool f.exec):=(cell_of_row _ _ 1 _ _ _ h).trans rfl
theorem BoxF.c2 {w:World}{b:Nat}{f:FV}(h:BoxF w b f):w.cell? ⟨b,2,none⟩=some (.string f.text):=(cell_of_row _ _ 2 _ _ _ h).trans rfl
theorem BoxF.frozen {w:World}{b:Nat}{f:FV}(h:BoxF w b f)(k:Nat):w.frozen? ⟨b,k,none⟩=false:=aAk h
theorem BoxF.set2 {w:World}{b:Nat}{f:FV}(h:BoxF w b f)(t:ByteArray):BoxF (w.setCell ⟨b,2,none⟩ (.string t)) b ⟨f.path,f.exec,t⟩:=by
 have:=heap_setCell_same w b 2 _ _ (.string t) h
 simpa[BoxF] using this
theorem MI.setBox {Z:Nat->Obj->Prop}{w0 w:World}{mb b k N:Nat}{fv cv v:Value}{m:List FV×List CL}(h:MI Z w0 w mb fv cv m N)(hb:w0.heap.size<=b)(h1:mb≠b)(h2:fv.ownBlock≠some b)(h3:cv.ownBlock≠some b)(h4:∀j ob,Z j ob->j≠b):MI Z w0 (w.setCell ⟨b,k,none⟩ v) mb fv cv m N:=
 ⟨(Below.heap_setCell w ⟨b,k,none⟩ v mb h1).trans h.hs,ownsRow_setCell_other h.f1 h2 _,ownsRow_setCell_other h.c1 h3 _,h.lo,h.bel.setCell (p:=⟨b,k,none⟩) hb _,h.fits,h.few1,h.few2,fun j ob hz=>⟨(Below.heap_setCell w ⟨b,k,none⟩ v j (h4 j ob hz)).trans (h.oth j ob hz).1,(h.oth j ob hz).2⟩⟩
theorem aFs (w:World)(f o t g:FV) :
  Below w.heap.size w ((((w.alloc (.cells #[.string f.path,.bool f.exec,.string f.text] 48)).alloc (.cells #[.string o.path,.bool o.exec,.string o.text] 48)).alloc (.cells #[.string t.path,.bool t.exec,.string t.text] 48)).alloc (.cells #[.string g.path,.bool g.exec,.string g.text] 48))/\
  BoxF ((((w.alloc (.cells #[.string f.path,.bool f.exec,.string f.text] 48)).alloc (.cells #[.string o.path,.bool o.exec,.string o.text] 48)).alloc (.cells #[.string t.path,.bool t.exec,.string t.text] 48)).alloc (.cells #[.string g.path,.bool g.exec,.string g.text] 48)) (w.heap.size+1+1+1) g:=by
 refine ⟨((((Below.refl _ _).alloc (Nat.le_refl _) _).alloc (by simp) _).alloc (by simp;omega) _).alloc (by simp;omega) _,?_⟩
 have:=BoxF.new ((((w.alloc (.cells #[.string f.path,.bool f.exec,.string f.text] 48)).alloc (.cells #[.string o.path,.bool o.exec,.string o.text] 48)).alloc (.cells #[.string t.path,.bool t.exec,.string t.text] 48))) g
 simpa using this
theorem bBb {Z:Nat->Obj->Prop}{w0 w:World}{mb N:Nat}{fv cv:Value}{m:List FV×List CL}{f o t:FV}(hL:Lm w)(h:MI Z w0 w mb fv cv m N)(hN:N<=100000)(hf:f.path.size<=20000/\f.text.size<=20000)(ho:o.path.size<=20000/\o.text.size<=20000)(ht:t.path.size<=20000/\t.text.size<=20000) :
  Calls Tryz.prog 152 #[.pointer (some ⟨mb,0,none⟩),.agg #[.string f.path,.bool f.exec,.string f.text],.agg #[.string o.path,.bool o.exec,.string o.text],.agg #[.string t.path,.bool t.exec,.string t.text]] w (PutIs Z w0 mb (bothM m f o t) (N+1)):=by
 obtain ⟨W1,eW1⟩:∃W,W=w.alloc (.cells #[.string f.path,.bool f.exec,.string f.text] 48):=⟨_,rfl⟩
 obtain ⟨W2,eW2⟩:∃W,W=W1.alloc (.cells #[.string o.path,.bool o.exec,.string o.text] 48):=⟨_,rfl⟩
 obtain ⟨W3,eW3⟩:∃W,W=W2.alloc (.cells #[.string t.path,.bool t.exec,.string t.text] 48):=⟨_,rfl⟩
 obtain ⟨W4,eW4⟩:∃W,W=W3.alloc (.cells #[.string o.path,.bool o.exec,.string o.text] 48):=⟨_,rfl⟩
 have b1:Below w.heap.size w W1:=by rw[eW1];exact (Below.refl _ _).alloc (Nat.le_refl _) _
 have b2:Below W1.heap.size W1 W2:=by rw[eW2];exact (Below.refl _ _).alloc (Nat.le_refl _) _
 have b3:Below W2.heap.size W2 W3:=by rw[eW3];exact (Below.refl _ _).alloc (Nat.le_refl _) _
 have b4:Below W3.heap.size W3 W4:=by rw[eW4];exact (Below.refl _ _).alloc (Nat.le_refl _) _
 have s1:W1.heap.size=w.heap.size+1:=by rw[eW1];simp
 have s2:W2.heap.size=w.heap.size+2:=by rw[eW2];simp[s1]
 have s3:W3.heap.size=w.heap.size+3:=by rw[eW3];simp[s2]
 have xf:BoxF W4 w.heap.size f:=(((show BoxF W1 w.heap.size f by rw[eW1];exact BoxF.new _ _).below b2).below b3).below b4
 have xo:BoxF W4 (w.heap.size+1) o:=((show BoxF W2 (w.heap.size+1) o by rw[eW2,<-s1];exact BoxF.new _ _).below b3).below b4
 have xt:BoxF W4 (w.heap.size+2) t:=(show BoxF W3 (w.heap.size+2) t by rw[eW3,<-s2];exact BoxF.new _ _).below b4
 have xx:BoxF W4 (w.heap.size+3) o:=by rw[eW4,<-s3];exact BoxF.new _ _
 have b34:=b3.trans (b4.mono b3.size)
 have b24:=b2.trans (b34.mono b2.size)
 have b14:=b1.trans (b24.mono b1.size)
 rw[eW3,eW2,eW1] at eW4
 have HM:=hid h
 have HL:=hid hL
 have HRS:=hid (show (merge3F f.text o.text t.text).1.size<=72773 by have:=aOr f.text o.text t.text;omega)
 have HPB:=hid (show w0.heap.size<=w.heap.size+1+1+1 by have:=h.bel.size;omega)
 have HPM:=hid (show mb≠w.heap.size+1+1+1 by have:=aAa h.hs;omega)
 have HPF:=hid (show fv.ownBlock≠some (w.heap.size+1+1+1) from fun e=>by have:=(h.f1.lt _ e).2;omega)
 have HPC:=hid (show cv.ownBlock≠some (w.heap.size+1+1+1) from fun e=>by have:=(h.c1.lt _ e).2;omega)
 have HPZ:=hid (show ∀j ob,Z j ob->j≠w.heap.size+1+1+1 from fun j ob hz=>by have:=aAa (h.oth j ob hz).1;omega)
 have f0:=xf.c0
 have f1:=xf.c1
 have f2:=xf.c2
 have o0:=xo.c0
 have o1:=xo.c1
 have o2:=xo.c2
 have t0:=xt.c0
 have t1:=xt.c1
 have t2:=xt.c2
 have x0:=xx.c0
 have x1:=xx.c1
 have x2:=xx.c2
 rw[eW4] at f0 f1 f2 o0 o1 o2 t0 t1 t2 x0 x1 x2
 clear b1 b2 b3 b4 s1 s2 s3 xf xo xt xx b34 b24 b14 h hL eW1 eW2 eW3 eW4
 go_enter Tryz.func152,Tryz.ntmps152
 by_cases hp:o.path=f.path
 ·by_cases hx:o.exec=f.exec
  ·have e1:(o.path.toList == f.path.toList)=true:=by rw[hp];exact beq_self_eq_true _
   have e2:(o.exec == f.exec)=true:=by rw[hx];exact beq_self_eq_true _
   have HE:=hid (show bothM m f o t=putM m ⟨t.path,t.exec,(merge3F f.text o.text t.text).1⟩ (if (merge3F f.text o.text t.text).2=false/\(0:Int)=0 then 1 else 0) by
    show putM m ⟨if o.path=f.path then t.path else o.path,if o.exec=f.exec then t.exec else o.exec,(merge3F f.text o.text t.text).1⟩ (if (merge3F f.text o.text t.text).2=false/\(if o.path=f.path then (0:Int) else if t.path≠f.path/\t.path≠o.path then 4 else 0)=0 then 1 else (if o.path=f.path then (0:Int) else if t.path≠f.path/\t.path≠o.path then 4 else 0))=_
    rw[if_pos hp,if_pos hx,if_pos hp])
   clear hp hx
   have HQ:=hid (aFs w f o t ⟨t.path,t.exec,o.text⟩)
   have KM:=aBs (b:=f.text) (o:=o.text) (t:=t.text) (HL.out.below HQ.out.1 HL.out.lt) (by omega) (by omega) (by omega)
   go_wp2_with fail
   refine KM.mono ?_
   rintro e w1 ⟨rfl,hb1⟩
   have HXX:=hid (HQ.out.2.below hb1)
   have HMB:=hid ((HM.out.below HQ.out.1).below hb1)
   clear KM hb1 e1 e2 f0 f1 f2 o0 o1 o2 t0 t1 t2 x0 x1 x2 HQ
   have y0:=HXX.out.c0
   have y1:=HXX.out.c1
   have y2:=HXX.out.c2
   have y3:=HXX.out.frozen 2
   generalize merge3F f.text o.text t.text=R at *
   obtain ⟨rt,rc⟩:=R
   dsimp only at HE HRS ⊢
   have HX2:=hid (HXX.out.set2 rt)
   have HM2:=hid (HMB.out.setBox (k:=2) (v:=.string rt) HPB.out HPM.out HPF.out HPC.out HPZ.out)
   have z0:=HX2.out.c0
   have z1:=HX2.out.c1
   have z2:=HX2.out.c2
   cases rc
   ·have HE2:=hid (show bothM m f o t=putM m ⟨t.path,t.exec,rt⟩ 1 by rw[HE.out];rfl)
    have KP:=aAx (f:=⟨t.path,t.exec,rt⟩) (kind:=1) HM2.out hN (show (t.path).size<=1000000/\rt.size<=1000000 from ⟨by omega,by have:=HRS.out;omega⟩)
    clear HE HM2 HMB HXX HX2
    go_wp2_with fail
    refine KP.mono ?_
    rintro e w2 ⟨rfl,fv2,cv2,hp2⟩
    have HP2:=hid hp2
    clear KP hp2 z0 z1 z2 y0 y1 y2 y3
    go_wp2
    refine bodyPost_end (results_none rfl _ _ _) rfl ?_
    exact ⟨rfl,_,_,by rw[HE2.out];exact HP2.out⟩
   have HE2:=hid (show bothM m f o t=putM m ⟨t.path,t.exec,rt⟩ 0 by rw[HE.out];rfl)
   have KP:=aAx (f:=⟨t.path,t.exec,rt⟩) (kind:=0) HM2.out hN (show (t.path).size<=1000000/\rt.size<=1000000 from ⟨by omega,by have:=HRS.out;omega⟩)
   clear HE HM2 HMB HXX HX2
   go_wp2_with fail
   refine KP.mono ?_
   rintro e w2 ⟨rfl,fv2,cv2,hp2⟩
   have HP2:=hid hp2
   clear KP hp2 z0 z1 z2 y0 y1 y2 y3
   go_wp2
   refine bodyPost_end (results_none rfl _ _ _) rfl ?_
   exact ⟨rfl,_,_,by rw[HE2.out];exact HP2.out⟩
  have e1:(o.path.toList == f.path.toList)=true:=by rw[hp];exact beq_self_eq_true _
  have e2:(o.exec == f.exec)=false:=beq_eq_false_iff_ne.2 hx
  have HE:=hid (show bothM m f o t=putM m ⟨t.path,o.exec,(merge3F f.text o.text t.text).1⟩ (if (merge3F f.text o.text t.text).2=false/\(0:Int)=0 then 1 else 0) by
   show putM m ⟨if o.path=f.path then t.path else o.path,if o.exec=f.exec then t.exec else o.exec,(merge3F f.text o.text t.text).1⟩ (if (merge3F f.text o.text t.text).2=false/\(if o.path=f.path then (0:Int) else if t.path≠f.path/\t.path≠o.path then 4 else 0)=0 then 1 else (if o.path=f.path then (0:Int) else if t.path≠f.path/\t.path≠o.path then 4 else 0))=_
   rw[if_pos hp,if_neg hx,if_pos hp])
  clear hp hx
  have HQ:=hid (aFs w f o t ⟨t.path,o.exec,o.text⟩)
  have KM:=aBs (b:=f.text) (o:=o.text) (t:=t.text) (HL.out.below HQ.out.1 HL.out.lt) (by omega) (by omega) (by omega)
  go_wp2_with fail
  refine KM.mono ?_
  rintro e w1 ⟨rfl,hb1⟩
  have HXX:=hid (HQ.out.2.below hb1)
  have HMB:=hid ((HM.out.below HQ.out.1).below hb1)
  clear KM hb1 e1 e2 f0 f1 f2 o0 o1 o2 t0 t1 t2 x0 x1 x2 HQ
  have y0:=HXX.out.c0
  have y1:=HXX.out.c1
  have y2:=HXX.out.c2
  have y3:=HXX.out.frozen 2
  generalize merge3F f.text o.text t.text=R at *
  obtain ⟨rt,rc⟩:=R
  dsimp only at HE HRS ⊢
  have HX2:=hid (HXX.out.set2 rt)
  have HM2:=hid (HMB.out.setBox (k:=2) (v:=.string rt) HPB.out HPM.out HPF.out HPC.out HPZ.out)
  have z0:=HX2.out.c0
  have z1:=HX2.out.c1
  have z2:=HX2.out.c2
  cases rc
  ·have HE2:=hid (show bothM m f o t=putM m ⟨t.path,o.exec,rt⟩ 1 by rw[HE.out];rfl)
   have KP:=aAx (f:=⟨t.path,o.exec,rt⟩) (kind:=1) HM2.out hN (show (t.path).size<=1000000/\rt.size<=1000000 from ⟨by omega,by have:=HRS.out;omega⟩)
   clear HE HM2 HMB HXX HX2
   go_wp2_with fail
   refine KP.mono ?_
   rintro e w2 ⟨rfl,fv2,cv2,hp2⟩
   have HP2:=hid hp2
   clear KP hp2 z0 z1 z2 y0 y1 y2 y3
   go_wp2
   refine bodyPost_end (results_none rfl _ _ _) rfl ?_
   exact ⟨rfl,_,_,by rw[HE2.out];exact HP2.out⟩
  have HE2:=hid (show bothM m f o t=putM m ⟨t.path,o.exec,rt⟩ 0 by rw[HE.out];rfl)
  have KP:=aAx (f:=⟨t.path,o.exec,rt⟩) (kind:=0) HM2.out hN (show (t.path).size<=1000000/\rt.size<=1000000 from ⟨by omega,by have:=HRS.out;omega⟩)
  clear HE HM2 HMB HXX HX2
  go_wp2_with fail
  refine KP.mono ?_
  rintro e w2 ⟨rfl,fv2,cv2,hp2⟩
  have HP2:=hid hp2
  clear KP hp2 z0 z1 z2 y0 y1 y2 y3
  go_wp2
  refine bodyPost_end (results_none rfl _ _ _) rfl ?_
  exact ⟨rfl,_,_,by rw[HE2.out];exact HP2.out⟩
 by_cases h2:t.path=f.path
 ·by_cases hx:o.exec=f.exec
  ·have e1:=aBw hp
   have e3:(t.path.toList == f.path.toList)=true:=by rw[h2];exact beq_self_eq_true _
   have e2:(o.exec == f.exec)=true:=by rw[hx];exact beq_self_eq_true _
   have HE:=hid (show bothM m f o t=putM m ⟨o.path,t.exec,(merge3F f.text o.text t.text).1⟩ (if (merge3F f.text o.text t.text).2=false/\(0:Int)=0 then 1 else 0) by
    show putM m ⟨if o.path=f.path then t.path else o.path,if o.exec=f.exec then t.exec else o.exec,(merge3F f.text o.text t.text).1⟩ (if (merge3F f.text o.text t.text).2=false/\(if o.path=f.path then (0:Int) else if t.path≠f.path/\t.path≠o.path then 4 else 0)=0 then 1 else (if o.path=f.path then (0:Int) else if t.path≠f.path/\t.path≠o.path then 4 else 0))=_
    rw[if_neg hp,if_pos hx,if_neg hp,if_neg (show ¬(t.path≠f.path/\t.path≠o.path) from fun h=>h.1 h2)])
   clear hp h2 hx
   have HQ:=hid (aFs w f o t ⟨o.path,t.exec,o.text⟩)
   have KM:=aBs (b:=f.text) (o:=o.text) (t:=t.text) (HL.out.below HQ.out.1 HL.out.lt) (by omega) (by omega) (by omega)
   go_wp2_with fail
   refine KM.mono ?_
   rintro e w1 ⟨rfl,hb1⟩
   have HXX:=hid (HQ.out.2.below hb1)
   have HMB:=hid ((HM.out.below HQ.out.1).below hb1)
   clear KM hb1 e1 e2 f0 f1 f2 o0 o1 o2 t0 t1 t2 x0 x1 x2 HQ
   have y0:=HXX.out.c0
   have y1:=HXX.out.c1
   have y2:=HXX.out.c2
   have y3:=HXX.out.frozen 2
   generalize merge3F f.text o.text t.text=R at *
   obtain ⟨rt,rc⟩:=R
   dsimp only at HE HRS ⊢
   have HX2:=hid (HXX.out.set2 rt)
   have HM2:=hid (HMB.out.setBox (k:=2) (v:=.string rt) HPB.out HPM.out HPF.out HPC.out HPZ.out)
   have z0:=HX2.out.c0
   have z1:=HX2.out.c1
   have z2:=HX2.out.c2
   cases rc
   ·have HE2:=hid (show bothM m f o t=putM m ⟨o.path,t.exec,rt⟩ 1 by rw[HE.out];rfl)
    have KP:=aAx (f:=⟨o.path,t.exec,rt⟩) (kind:=1) HM2.out hN (show (o.path).size<=1000000/\rt.size<=1000000 from ⟨by omega,by have:=HRS.out;omega⟩)
    clear HE HM2 HMB HXX HX2
    go_wp2_with fail
    refine KP.mono ?_
    rintro e w2 ⟨rfl,fv2,cv2,hp2⟩
    have HP2:=hid hp2
    clear KP hp2 z0 z1 z2 y0 y1 y2 y3
    go_wp2
    refine bodyPost_end (results_none rfl _ _ _) rfl ?_
    exact ⟨rfl,_,_,by rw[HE2.out];exact HP2.out⟩
   have HE2:=hid (show bothM m f o t=putM m ⟨o.path,t.exec,rt⟩ 0 by rw[HE.out];rfl)
   have KP:=aAx (f:=⟨o.path,t.exec,rt⟩) (kind:=0) HM2.out hN (show (o.path).size<=1000000/\rt.size<=1000000 from ⟨by omega,by have:=HRS.out;omega⟩)
   clear HE HM2 HMB HXX HX2
   go_wp2_with fail
   refine KP.mono ?_
   rintro e w2 ⟨rfl,fv2,cv2,hp2⟩
   have HP2:=hid hp2
   clear KP hp2 z0 z1 z2 y0 y1 y2 y3
   go_wp2
   refine bodyPost_end (results_none rfl _ _ _) rfl ?_
   exact ⟨rfl,_,_,by rw[HE2.out];exact HP2.out⟩
  have e1:=aBw hp
  have e3:(t.path.toList == f.path.toList)=true:=by rw[h2];exact beq_self_eq_true _
  have e2:(o.exec == f.exec)=false:=beq_eq_false_iff_ne.2 hx
  have HE:=hid (show bothM m f o t=putM m ⟨o.path,o.exec,(merge3F f.text o.text t.text).1⟩ (if (merge3F f.text o.text t.text).2=false/\(0:Int)=0 then 1 else 0) by
   show putM m ⟨if o.path=f.path then t.path else o.path,if o.exec=f.exec then t.exec else o.exec,(merge3F f.text o.text t.text).1⟩ (if (merge3F f.text o.text t.text).2=false/\(if o.path=f.path then (0:Int) else if t.path≠f.path/\t.path≠o.path then 4 else 0)=0 then 1 else (if o.path=f.path then (0:Int) else if t.path≠f.path/\t.path≠o.path then 4 else 0))=_
   rw[if_neg hp,if_neg hx,if_neg hp,if_neg (show ¬(t.path≠f.path/\t.path≠o.path) from fun h=>h.1 h2)])
  clear hp h2 hx
  have HQ:=hid (aFs w f o t ⟨o.path,o.exec,o.text⟩)
  have KM:=aBs (b:=f.text) (o:=o.text) (t:=t.text) (HL.out.below HQ.out.1 HL.out.lt) (by omega) (by omega) (by omega)
  go_wp2_with fail
  refine KM.mono ?_
  rintro e w1 ⟨rfl,hb1⟩
  have HXX:=hid (HQ.out.2.below hb1)
  have HMB:=hid ((HM.out.below HQ.out.1).below hb1)
  clear KM hb1 e1 e2 f0 f1 f2 o0 o1 o2 t0 t1 t2 x0 x1 x2 HQ
  have y0:=HXX.out.c0
  have y1:=HXX.out.c1
  have y2:=HXX.out.c2
  have y3:=HXX.out.frozen 2
  generalize merge3F f.text o.text t.text=R at *
  obtain ⟨rt,rc⟩:=R
  dsimp only at HE HRS ⊢
  have HX2:=hid (HXX.out.set2 rt)
  have HM2:=hid (HMB.out.setBox (k:=2) (v:=.string rt) HPB.out HPM.out HPF.out HPC.out HPZ.out)
  have z0:=HX2.out.c0
  have z1:=HX2.out.c1
  have z2:=HX2.out.c2
  cases rc
  ·have HE2:=hid (show bothM m f o t=putM m ⟨o.path,o.exec,rt⟩ 1 by rw[HE.out];rfl)
   have KP:=aAx (f:=⟨o.path,o.exec,rt⟩) (kind:=1) HM2.out hN (show (o.path).size<=1000000/\rt.size<=1000000 from ⟨by omega,by have:=HRS.out;omega⟩)
   clear HE HM2 HMB HXX HX2
   go_wp2_with fail
   refine KP.mono ?_
   rintro e w2 ⟨rfl,fv2,cv2,hp2⟩
   have HP2:=hid hp2
   clear KP hp2 z0 z1 z2 y0 y1 y2 y3
   go_wp2
   refine bodyPost_end (results_none rfl _ _ _) rfl ?_
   exact ⟨rfl,_,_,by rw[HE2.out];exact HP2.out⟩
  have HE2:=hid (show bothM m f o t=putM m ⟨o.path,o.exec,rt⟩ 0 by rw[HE.out];rfl)
  have KP:=aAx (f:=⟨o.path,o.exec,rt⟩) (kind:=0) HM2.out hN (show (o.path).size<=1000000/\rt.size<=1000000 from ⟨by omega,by have:=HRS.out;omega⟩)
  clear HE HM2 HMB HXX HX2
  go_wp2_with fail
  refine KP.mono ?_
  rintro e w2 ⟨rfl,fv2,cv2,hp2⟩
  have HP2:=hid hp2
  clear KP hp2 z0 z1 z2 y0 y1 y2 y3
  go_wp2
  refine bodyPost_end (results_none rfl _ _ _) rfl ?_
  exact ⟨rfl,_,_,by rw[HE2.out];exact HP2.out⟩
 by_cases h3:t.path=o.path
 ·by_cases hx:o.exec=f.exec
  ·have e1:=aBw hp
   have e3:=aBw h2
   have e4:(t.path.toList == o.path.toList)=true:=by rw[h3];exact beq_self_eq_true _
   have e2:(o.exec == f.exec)=true:=by rw[hx];exact beq_self_eq_true _
   have HE:=hid (show bothM m f o t=putM m ⟨o.path,t.exec,(merge3F f.text o.text t.text).1⟩ (if (merge3F f.text o.text t.text).2=false/\(0:Int)=0 then 1 else 0) by
    show putM m ⟨if o.path=f.path then t.path else o.path,if o.exec=f.exec then t.exec else o.exec,(merge3F f.text o.text t.text).1⟩ (if (merge3F f.text o.text t.text).2=false/\(if o.path=f.path then (0:Int) else if t.path≠f.path/\t.path≠o.path then 4 else 0)=0 then 1 else (if o.path=f.path then (0:Int) else if t.path≠f.path/\t.path≠o.path then 4 else 0))=_
    rw[if_neg hp,if_pos hx,if_neg hp,if_neg (show ¬(t.path≠f.path/\t.path≠o.path) from fun h=>h.2 h3)])
   clear hp h2 h3 hx
   have HQ:=hid (aFs w f o t ⟨o.path,t.exec,o.text⟩)
   have KM:=aBs (b:=f.text) (o:=o.text) (t:=t.text) (HL.out.below HQ.out.1 HL.out.lt) (by omega) (by omega) (by omega)
   go_wp2_with fail
   refine KM.mono ?_
   rintro e w1 ⟨rfl,hb1⟩
   have HXX:=hid (HQ.out.2.below hb1)
   have HMB:=hid ((HM.out.below HQ.out.1).below hb1)
   clear KM hb1 e1 e2 f0 f1 f2 o0 o1 o2 t0 t1 t2 x0 x1 x2 HQ
   have y0:=HXX.out.c0
   have y1:=HXX.out.c1
   have y2:=HXX.out.c2
   have y3:=HXX.out.frozen 2
   generalize merge3F f.text o.text t.text=R at *
   obtain ⟨rt,rc⟩:=R
   dsimp only at HE HRS ⊢
   have HX2:=hid (HXX.out.set2 rt)
   have HM2:=hid (HMB.out.setBox (k:=2) (v:=.string rt) HPB.out HPM.out HPF.out HPC.out HPZ.out)
   have z0:=HX2.out.c0
   have z1:=HX2.out.c1
   have z2:=HX2.out.c2
   cases rc
   ·have HE2:=hid (show bothM m f o t=putM m ⟨o.path,t.exec,rt⟩ 1 by rw[HE.out];rfl)
    have KP:=aAx (f:=⟨o.path,t.exec,rt⟩) (kind:=1) HM2.out hN (show (o.path).size<=1000000/\rt.size<=1000000 from ⟨by omega,by have:=HRS.out;omega⟩)
    clear HE HM2 HMB HXX HX2
    go_wp2_with fail
    refine KP.mono ?_
    rintro e w2 ⟨rfl,fv2,cv2,hp2⟩
    have HP2:=hid hp2
    clear KP hp2 z0 z1 z2 y0 y1 y2 y3
    go_wp2
    refine bodyPost_end (results_none rfl _ _ _) rfl ?_
    exact ⟨rfl,_,_,by rw[HE2.out];exact HP2.out⟩
   have HE2:=hid (show bothM m f o t=putM m ⟨o.path,t.exec,rt⟩ 0 by rw[HE.out];rfl)
   have KP:=aAx (f:=⟨o.path,t.exec,rt⟩) (kind:=0) HM2.out hN (show (o.path).size<=1000000/\rt.size<=1000000 from ⟨by omega,by have:=HRS.out;omega⟩)
   clear HE HM2 HMB HXX HX2
   go_wp2_with fail
   refine KP.mono ?_
   rintro e w2 ⟨rfl,fv2,cv2,hp2⟩
   have HP2:=hid hp2
   clear KP hp2 z0 z1 z2 y0 y1 y2 y3
   go_wp2
   refine bodyPost_end (results_none rfl _ _ _) rfl ?_
   exact ⟨rfl,_,_,by rw[HE2.out];exact HP2.out⟩
  have e1:=aBw hp
  have e3:=aBw h2
  have e4:(t.path.toList == o.path.toList)=true:=by rw[h3];exact beq_self_eq_true _
  have e2:(o.exec == f.exec)=false:=beq_eq_false_iff_ne.2 hx
  have HE:=hid (show bothM m f o t=putM m ⟨o.path,o.exec,(merge3F f.text o.text t.text).1⟩ (if (merge3F f.text o.text t.text).2=false/\(0:Int)=0 then 1 else 0) by
   show putM m ⟨if o.path=f.path then t.path else o.path,if o.exec=f.exec then t.exec else o.exec,(merge3F f.text o.text t.text).1⟩ (if (merge3F f.text o.text t.text).2=false/\(if o.path=f.path then (0:Int) else if t.path≠f.path/\t.path≠o.path then 4 else 0)=0 then 1 else (if o.path=f.path then (0:Int) else if t.path≠f.path/\t.path≠o.path then 4 else 0))=_
   rw[if_neg hp,if_neg hx,if_neg hp,if_neg (show ¬(t.path≠f.path/\t.path≠o.path) from fun h=>h.2 h3)])
  clear hp h2 h3 hx
  have HQ:=hid (aFs w f o t ⟨o.path,o.exec,o.text⟩)
  have KM:=aBs (b:=f.text) (o:=o.text) (t:=t.text) (HL.out.below HQ.out.1 HL.out.lt) (by omega) (by omega) (by omega)
  go_wp2_with fail
  refine KM.mono ?_
  rintro e w1 ⟨rfl,hb1⟩
  have HXX:=hid (HQ.out.2.below hb1)
  have HMB:=hid ((HM.out.below HQ.out.1).below hb1)
  clear KM hb1 e1 e2 f0 f1 f2 o0 o1 o2 t0 t1 t2 x0 x1 x2 HQ
  have y0:=HXX.out.c0
  have y1:=HXX.out.c1
  have y2:=HXX.out.c2
  have y3:=HXX.out.frozen 2
  generalize merge3F f.text o.text t.text=R at *
  obtain ⟨rt,rc⟩:=R
  dsimp only at HE HRS ⊢
  have HX2:=hid (HXX.out.set2 rt)
  have HM2:=hid (HMB.out.setBox (k:=2) (v:=.string rt) HPB.out HPM.out HPF.out HPC.out HPZ.out)
  have z0:=HX2.out.c0
  have z1:=HX2.out.c1
  have z2:=HX2.out.c2
  cases rc
  ·have HE2:=hid (show bothM m f o t=putM m ⟨o.path,o.exec,rt⟩ 1 by rw[HE.out];rfl)
   have KP:=aAx (f:=⟨o.path,o.exec,rt⟩) (kind:=1) HM2.out hN (show (o.path).size<=1000000/\rt.size<=1000000 from ⟨by omega,by have:=HRS.out;omega⟩)
   clear HE HM2 HMB HXX HX2
   go_wp2_with fail
   refine KP.mono ?_
   rintro e w2 ⟨rfl,fv2,cv2,hp2⟩
   have HP2:=hid hp2
   clear KP hp2 z0 z1 z2 y0 y1 y2 y3
   go_wp2
   refine bodyPost_end (results_none rfl _ _ _) rfl ?_
   exact ⟨rfl,_,_,by rw[HE2.out];exact HP2.out⟩
  have HE2:=hid (show bothM m f o t=putM m ⟨o.path,o.exec,rt⟩ 0 by rw[HE.out];rfl)
  have KP:=aAx (f:=⟨o.path,o.exec,rt⟩) (kind:=0) HM2.out hN (show (o.path).size<=1000000/\rt.size<=1000000 from ⟨by omega,by have:=HRS.out;omega⟩)
  clear HE HM2 HMB HXX HX2
  go_wp2_with fail
  refine KP.mono ?_
  rintro e w2 ⟨rfl,fv2,cv2,hp2⟩
  have HP2:=hid hp2
  clear KP hp2 z0 z1 z2 y0 y1 y2 y3
  go_wp2
  refine bodyPost_end (results_none rfl _ _ _) rfl ?_
  exact ⟨rfl,_,_,by rw[HE2.out];exact HP2.out⟩
 by_cases hx:o.exec=f.exec
 ·have e1:=aBw hp
  have e3:=aBw h2
  have e4:=aBw h3
  have e2:(o.exec == f.exec)=true:=by rw[hx];exact beq_self_eq_true _
  have HE:=hid (show bothM m f o t=putM m ⟨o.path,t.exec,(merge3F f.text o.text t.text).1⟩ (if (merge3F f.text o.text t.text).2=false/\(4:Int)=0 then 1 else 4) by
   show putM m ⟨if o.path=f.path then t.path else o.path,if o.exec=f.exec then t.exec else o.exec,(merge3F f.text o.text t.text).1⟩ (if (merge3F f.text o.text t.text).2=false/\(if o.path=f.path then (0:Int) else if t.path≠f.path/\t.path≠o.path then 4 else 0)=0 then 1 else (if o.path=f.path then (0:Int) else if t.path≠f.path/\t.path≠o.path then 4 else 0))=_
   rw[if_neg hp,if_pos hx,if_neg hp,if_pos (show t.path≠f.path/\t.path≠o.path from ⟨h2,h3⟩)])
  clear hp h2 h3 hx
  have HQ:=hid (aFs w f o t ⟨o.path,t.exec,o.text⟩)
  have KM:=aBs (b:=f.text) (o:=o.text) (t:=t.text) (HL.out.below HQ.out.1 HL.out.lt) (by omega) (by omega) (by omega)
  go_wp2_with fail
  refine KM.mono ?_
  rintro e w1 ⟨rfl,hb1⟩
  have HXX:=hid (HQ.out.2.below hb1)
  have HMB:=hid ((HM.out.below HQ.out.1).below hb1)
  clear KM hb1 e1 e2 f0 f1 f2 o0 o1 o2 t0 t1 t2 x0 x1 x2 HQ
  have y0:=HXX.out.c0
  have y1:=HXX.out.c1
  have y2:=HXX.out.c2
  have y3:=HXX.out.frozen 2
  generalize merge3F f.text o.text t.text=R at *
  obtain ⟨rt,rc⟩:=R
  dsimp only at HE HRS ⊢
  have HX2:=hid (HXX.out.set2 rt)
  have HM2:=hid (HMB.out.setBox (k:=2) (v:=.string rt) HPB.out HPM.out HPF.out HPC.out HPZ.out)
  have z0:=HX2.out.c0
  have z1:=HX2.out.c1
  have z2:=HX2.out.c2
  cases rc
  ·have HE2:=hid (show bothM m f o t=putM m ⟨o.path,t.exec,rt⟩ 4 by rw[HE.out];rfl)
   have KP:=aAx (f:=⟨o.path,t.exec,rt⟩) (kind:=4) HM2.out hN (show (o.path).size<=1000000/\rt.size<=1000000 from ⟨by omega,by have:=HRS.out;omega⟩)
   clear HE HM2 HMB HXX HX2
   go_wp2_with fail
   refine KP.mono ?_
   rintro e w2 ⟨rfl,fv2,cv2,hp2⟩
   have HP2:=hid hp2
   clear KP hp2 z0 z1 z2 y0 y1 y2 y3
   go_wp2
   refine bodyPost_end (results_none rfl _ _ _) rfl ?_
   exact ⟨rfl,_,_,by rw[HE2.out];exact HP2.out⟩
  have HE2:=hid (show bothM m f o t=putM m ⟨o.path,t.exec,rt⟩ 4 by rw[HE.out];rfl)
  have KP:=aAx (f:=⟨o.path,t.exec,rt⟩) (kind:=4) HM2.out hN (show (o.path).size<=1000000/\rt.size<=1000000 from ⟨by omega,by have:=HRS.out;omega⟩)
  clear HE HM2 HMB HXX HX2
  go_wp2_with fail
  refine KP.mono ?_
  rintro e w2 ⟨rfl,fv2,cv2,hp2⟩
  have HP2:=hid hp2
  clear KP hp2 z0 z1 z2 y0 y1 y2 y3
  go_wp2
  refine bodyPost_end (results_none rfl _ _ _) rfl ?_
  exact ⟨rfl,_,_,by rw[HE2.out];exact HP2.out⟩
 have e1:=aBw hp
 have e3:=aBw h2
 have e4:=aBw h3
 have e2:(o.exec == f.exec)=false:=beq_eq_false_iff_ne.2 hx
 have HE:=hid (show bothM m f o t=putM m ⟨o.path,o.exec,(merge3F f.text o.text t.text).1⟩ (if (merge3F f.text o.text t.text).2=false/\(4:Int)=0 then 1 else 4) by
  show putM m ⟨if o.path=f.path then t.path else o.path,if o.exec=f.exec then t.exec else o.exec,(merge3F f.text o.text t.text).1⟩ (if (merge3F f.text o.text t.text).2=false/\(if o.path=f.path then (0:Int) else if t.path≠f.path/\t.path≠o.path then 4 else 0)=0 then 1 else (if o.path=f.path then (0:Int) else if t.path≠f.path/\t.path≠o.path then 4 else 0))=_
  rw[if_neg hp,if_neg hx,if_neg hp,if_pos (show t.path≠f.path/\t.path≠o.path from ⟨h2,h3⟩)])
 clear hp h2 h3 hx
 have HQ:=hid (aFs w f o t ⟨o.path,o.exec,o.text⟩)
 have KM:=aBs (b:=f.text) (o:=o.text) (t:=t.text) (HL.out.below HQ.out.1 HL.out.lt) (by omega) (by omega) (by omega)
 go_wp2_with fail
 refine KM.mono ?_
 rintro e w1 ⟨rfl,hb1⟩
 have HXX:=hid (HQ.out.2.below hb1)
 have HMB:=hid ((HM.out.below HQ.out.1).below hb1)
 clear KM hb1 e1 e2 f0 f1 f2 o0 o1 o2 t0 t1 t2 x0 x1 x2 HQ
 have y0:=HXX.out.c0
 have y1:=HXX.out.c1
 have y2:=HXX.out.c2
 have y3:=HXX.out.frozen 2
 generalize merge3F f.text o.text t.text=R at *
 obtain ⟨rt,rc⟩:=R
 dsimp only at HE HRS ⊢
 have HX2:=hid (HXX.out.set2 rt)
 have HM2:=hid (HMB.out.setBox (k:=2) (v:=.string rt) HPB.out HPM.out HPF.out HPC.out HPZ.out)
 have z0:=HX2.out.c0
 have z1:=HX2.out.c1
 have z2:=HX2.out.c2
 cases rc
 ·have HE2:=hid (show bothM m f o t=putM m ⟨o.path,o.exec,rt⟩ 4 by rw[HE.out];rfl)
  have KP:=aAx (f:=⟨o.path,o.exec,rt⟩) (kind:=4) HM2.out hN (show (o.path).size<=1000000/\rt.size<=1000000 from ⟨by omega,by have:=HRS.out;omega⟩)
  clear HE HM2 HMB HXX HX2
  go_wp2_with fail
  refine KP.mono ?_
  rintro e w2 ⟨rfl,fv2,cv2,hp2⟩
  have HP2:=hid hp2
  clear KP hp2 z0 z1 z2 y0 y1 y2 y3
  go_wp2
  refine bodyPost_end (results_none rfl _ _ _) rfl ?_
  exact ⟨rfl,_,_,by rw[HE2.out];exact HP2.out⟩
 have HE2:=hid (show bothM m f o t=putM m ⟨o.path,o.exec,rt⟩ 4 by rw[HE.out];rfl)
 have KP:=aAx (f:=⟨o.path,o.exec,rt⟩) (kind:=4) HM2.out hN (show (o.path).size<=1000000/\rt.size<=1000000 from ⟨by omega,by have:=HRS.out;omega⟩)
 clear HE HM2 HMB HXX HX2
 go_wp2_with fail
 refine KP.mono ?_
 rintro e w2 ⟨rfl,fv2,cv2,hp2⟩
 have HP2:=hid hp2
 clear KP hp2 z0 z1 z2 y0 y1 y2 y3
 go_wp2
 refine bodyPost_end (results_none rfl _ _ _) rfl ?_
 exact ⟨rfl,_,_,by rw[HE2.out];exact HP2.out⟩
end Go.Proofs.YtohblmepajhpaaaGreatDoor
