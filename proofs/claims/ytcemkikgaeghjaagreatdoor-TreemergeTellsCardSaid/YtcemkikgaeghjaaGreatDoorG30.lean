/- Texts of the walks, together: Walk: (*treemerge.merge).put. Walks: (*treemerge.merge).one. -/
import Derived.Test.YtcemkikgaeghjaaGreatDoorG26
import Derived.Test.YtcemkikgaeghjaaGreatDoorG29
set_option maxHeartbeats 8000000
set_option maxRecDepth 100000
open Go.Lib (hid)
namespace Go.Proofs.YtcemkikgaeghjaaGreatDoor
open Go.RowKit
structure MI (Z:Nat->Obj->Prop) (w0 w:World) (mb:Nat) (fv cv:Value) (m:List FV×List CL) (N:Nat):Prop where
 hs:w.heap[mb]? = some (.cells #[fv,cv] 55 (0,0))
 f1:w.ownsRow w0.heap.size 28 3 fv m.1.length (m.1.flatMap FV.cells)
 c1:w.ownsRow w0.heap.size 36 3 cv m.2.length (m.2.flatMap CL.cells)
 lo:w0.heap.size<=mb
 bel:Below w0.heap.size w0 w
 fits:∀f∈m.1,f.path.size<=1000000/\f.text.size<=1000000
 few1:m.1.length<=N
 few2:m.2.length<=N
 oth:∀k ob,Z k ob->w.heap[k]? = some ob/\k≠mb/\fv.ownBlock≠some k/\cv.ownBlock≠some k
theorem aCl {w:World}{B:Nat}{e T:TypeId}{k n mb:Nat}{v:Value}{xs:List Value}{cs:Array Value}{fr:Nat×Nat}(h:w.ownsRow B e k v n xs)(hg:w.heap[mb]? = some (.cells cs T fr))(hne:e≠T):v.ownBlock≠some mb:=fun e1=>by
 obtain ⟨cs',h2⟩:=aOa h e1
 rw[hg] at h2
 injection h2 with h2
 injection h2 with _ h2 _
 exact hne h2.symm
theorem aIs {w:World}{B:Nat} {e e':TypeId} {k n k' n':Nat} {v v':Value} {xs xs':List Value}(h:w.ownsRow B e k v n xs) (h':w.ownsRow B e' k' v' n' xs')(hne:e≠e')(g:Nat)(hg:v.ownBlock=some g):v'.ownBlock≠some g:=fun e1=>by
 obtain ⟨cs',h2⟩:=aOa h hg
 exact aCl h' h2 (fun e2=>hne e2.symm) e1
theorem MI.below {Z:Nat->Obj->Prop} {w0 w w':World}{mb:Nat}{fv cv:Value}{m:List FV×List CL}{N:Nat}(h:MI Z w0 w mb fv cv m N)(hb:Below w.heap.size w w'):MI Z w0 w' mb fv cv m N:=
 ⟨(hb.block mb (aAa h.hs)).trans h.hs,aAe h.f1 hb,aAe h.c1 hb,h.lo,h.bel.trans (hb.mono h.bel.size),h.fits,h.few1,h.few2,fun k ob hz=>⟨(hb.block k (aAa (h.oth k ob hz).1)).trans (h.oth k ob hz).1,(h.oth k ob hz).2⟩⟩
theorem aGd {w w':World}{B:Nat}{T:TypeId}{k n:Nat}{v o:Value}{xs:List Value}(hr:w.ownsRow B T k v n xs)(hg:w.grownBy w' o.ownBlock)(hn:∀g,v.ownBlock=some g->o.ownBlock≠some g):w'.ownsRow B T k v n xs:=by
 refine hr.kept hg ?_
 cases e:v.ownBlock with
 | none=>exact .inl rfl
 | some g=>exact .inr (fun e2=>hn g e e2.symm)
theorem MI.pushF {Z:Nat->Obj->Prop} {w0 w w':World}{mb:Nat} {fv fv' cv:Value}{m:List FV×List CL}{N:Nat}{f:FV}(h:MI Z w0 w mb fv cv m N)(hf:f.path.size<=1000000/\f.text.size<=1000000)(hg:w.grownBy w' fv.ownBlock)(hv:fv'.ownBlock=fv.ownBlock\/fv'.ownBlock=some w.heap.size)
  (ho:w'.ownsRow w0.heap.size 28 3 fv' (m.1.length+1) (m.1.flatMap FV.cells++[f].flatMap FV.cells)):w'.heap[mb]? = some (.cells #[fv,cv] 55 (0,0))/\MI Z w0 (w'.setCell ⟨mb,0,none⟩ fv') mb fv' cv (m.1++[f],m.2) (N+1):=by
 have hs':=(hg.block mb (aAa h.hs) (fun e=>aCl h.f1 h.hs (by decide) e.symm)).trans h.hs
 have hc':=aGd h.c1 hg (fun g e=>aIs h.c1 h.f1 (by decide) g e)
 refine ⟨hs',?_,?_,ownsRow_setCell_other hc' (aCl hc' hs' (by decide)) _,h.lo,(h.bel.grown hg h.bel.size (fun g hg=>(h.f1.lt g hg).1)).setCell h.lo _,fun x hx=>?_,?_,by have:=h.few2;show m.2.length<=N+1;omega,fun k ob hz=>?_⟩
 ·have:=heap_setCell_same w' mb 0 _ _ fv' hs'
  simpa using this
 ·refine ownsRow_setCell_other ?_ (aCl ho hs' (by decide)) _
  rw[List.length_append,List.flatMap_append];exact ho
 ·rcases List.mem_append.1 hx with hx | hx
  ·exact h.fits x hx
  rw[List.mem_singleton.1 hx];exact hf
 ·show (m.1++[f]).length<=N+1
  rw[List.length_append];have:=h.few1;simp only[List.length_singleton];omega
 obtain ⟨z1,z2,z3,z4⟩:=h.oth k ob hz
 exact ⟨(Below.heap_setCell w' ⟨mb,0,none⟩ _ k z2).trans ((hg.block k (aAa z1) (fun e=>z3 e.symm)).trans z1),z2,fun e=>by
  rcases hv with hv | hv
  ·exact z3 (hv▸e)
  rw[hv] at e;injection e with e;have:=aAa z1;omega,z4⟩
theorem MI.pushC {Z:Nat->Obj->Prop} {w0 w w':World}{mb:Nat} {fv cv cv':Value}{m:List FV×List CL}{N:Nat}{c:CL}(h:MI Z w0 w mb fv cv m N)(hN:m.2.length+1<=N)(hg:w.grownBy w' cv.ownBlock)(hv:cv'.ownBlock=cv.ownBlock\/cv'.ownBlock=some w.heap.size)
  (ho:w'.ownsRow w0.heap.size 36 3 cv' (m.2.length+1) (m.2.flatMap CL.cells++[c].flatMap CL.cells)):w'.heap[mb]? = some (.cells #[fv,cv] 55 (0,0))/\MI Z w0 (w'.setCell ⟨mb,1,none⟩ cv') mb fv cv' (m.1,m.2++[c]) N:=by
 have hs':=(hg.block mb (aAa h.hs) (fun e=>aCl h.c1 h.hs (by decide) e.symm)).trans h.hs
 have hf':=aGd h.f1 hg (fun g e=>aIs h.f1 h.c1 (by decide) g e)
 refine ⟨hs',?_,ownsRow_setCell_other hf' (aCl hf' hs' (by decide)) _,?_,h.lo,(h.bel.grown hg h.bel.size (fun g hg=>(h.c1.lt g hg).1)).setCell h.lo _,h.fits,h.few1,?_,fun k ob hz=>?_⟩
 ·have:=heap_setCell_same w' mb 1 _ _ cv' hs'
  simpa using this
 ·refine ownsRow_setCell_other ?_ (aCl ho hs' (by decide)) _
  rw[List.length_append,List.flatMap_append];exact ho
 ·show (m.2++[c]).length<=N
  rw[List.length_append];simpa using hN
 obtain ⟨z1,z2,z3,z4⟩:=h.oth k ob hz
 exact ⟨(Below.heap_setCell w' ⟨mb,1,none⟩ _ k z2).trans ((hg.block k (aAa z1) (fun e=>z4 e.symm)).trans z1),z2,z3,fun e=>by
  rcases hv with hv | hv
  ·exact z4 (hv▸e)
  rw[hv] at e;injection e with e;have:=aAa z1;omega⟩
theorem MI.more {Z:Nat->Obj->Prop}{w0 w:World}{mb:Nat}{fv cv:Value}{m:List FV×List CL} {N N':Nat}(h:MI Z w0 w mb fv cv m N)(hN:N<=N'):MI Z w0 w mb fv cv m N':=⟨h.hs,h.f1,h.c1,h.lo,h.bel,h.fits,by have:=h.few1;omega,by have:=h.few2;omega,h.oth⟩
theorem aBa:Elem Tryz.prog 29 36 3 40:=aCw (by kernel_rfl)
theorem aEv (w:World)(f:CL):Rd (w.alloc (.cells #[.string f.path,.int .i64 f.kind,.string f.text] 36)) (w.alloc (.cells #[.string f.path,.int .i64 f.kind,.string f.text] 36)).heap.size 3 (some ⟨w.heap.size,0,none⟩) 1 1 ([f].flatMap CL.cells):=
 aOc (heap_alloc_new w _) rfl (Nat.le_refl _) fun j u hu=>by
  have:j<3:=(List.getElem?_eq_some_iff.1 hu).1
  match j,this with
  | 0,_=>simpa[CL.cells] using hu
  | 1,_=>simpa[CL.cells] using hu
  | 2,_=>simpa[CL.cells] using hu
theorem aFm (p t:ByteArray)(k:Int)(w:World):(Instr.build 36 #[(0,.string p),(1,.int .i64 k),(2,.string t)]).run Tryz.prog w=.ok (.agg #[.string p,.int .i64 k,.string t]) w:=by
 go_simp
def PutIs (Z:Nat->Obj->Prop)(w0:World)(mb:Nat)(m:List FV×List CL)(N:Nat)(e:Ending) (w':World):Prop:=e=.returned (.tuple #[])/\∃fv cv,MI Z w0 w' mb fv cv m N
theorem aBb {Z:Nat->Obj->Prop}{w0 w:World}{mb N:Nat}{fv cv:Value}{m:List FV×List CL}{f:FV}{kind:Int}(h:MI Z w0 w mb fv cv m N)(hN:N<=100000)(hf:f.path.size<=1000000/\f.text.size<=1000000) :
  Calls Tryz.prog 59 #[.pointer (some ⟨mb,0,none⟩),.agg #[.string f.path,.bool f.exec,.string f.text],.int .i64 kind] w (PutIs Z w0 mb (putM m f kind) (N+1)):=by
 obtain ⟨W,eW⟩:∃W,W=w.alloc (.cells #[.string f.path,.bool f.exec,.string f.text] 28):=⟨_,rfl⟩
 have hbW:Below w.heap.size w W:=by rw[eW];exact (Below.refl _ _).alloc (Nat.le_refl _) _
 have hbx:W.heap[w.heap.size]? = some (.cells #[.string f.path,.bool f.exec,.string f.text] 28 (0,0)):=by rw[eW];exact heap_alloc_new _ _
 have hMW:=h.below hbW
 obtain ⟨A,cA,efv,hcA⟩:=aAg hMW.f1
 have hro:=hMW.f1
 rw[efv] at hro
 have hrd:RdF W W.heap.size A m.1.length cA m.1:=⟨Rd.of_own hro hcA,rfl,fun x hx=>by have:=hMW.fits x hx;omega⟩
 have K:=aPt (q1:=.pointer (some ⟨w.heap.size,0,none⟩)) (fun x=>clashP x.p f.p) (by have:=hMW.few1;omega) hrd
  (fun x u hx hu=>bEh (f:=f) (x:=x) hf.1 (hMW.fits x hx).1 ((hu.block _ (aAa hbx)).trans hbx))
 have HM:=hid hMW
 have HBX:=hid hbx
 have HF:=hid hf
 have HNN:=hid hN
 have HEF:=hid efv
 have c0:W.cell? ⟨mb,0,none⟩=some (.slice A m.1.length cA):=by rw[Lib.cell_of_heap hMW.hs];exact congrArg some efv
 have HPF:=hid (fun e:fv.ownBlock=some w.heap.size=>Nat.lt_irrefl _ (h.f1.lt _ e).2)
 have HPC:=hid (fun e:cv.ownBlock=some w.heap.size=>Nat.lt_irrefl _ (h.c1.lt _ e).2)
 have HPM:=hid (Nat.ne_of_gt (aAa h.hs))
 rw[eW] at c0 K
 clear h hbW hbx hMW hro hrd hcA hf hN efv
 go_enter Tryz.func59,Tryz.ntmps59
 go_wp2_with fail
 refine K.mono ?_
 rintro e w1 ⟨rfl,hb1⟩
 rw[<-eW] at hb1
 have HM1:=hid (HM.out.below hb1)
 have HBX1:=hid ((hb1.block _ (aAa HBX.out)).trans HBX.out)
 clear K c0 hb1 HM HBX eW
 generalize w.heap.size=bx at *
 by_cases hc:(m.1.any fun x=>clashP x.p f.p)=true
 ·have HP:=hid (show putM m f kind=(m.1,m.2++[⟨f.path,5,f.text⟩]) by unfold putM;rw[if_pos hc])
  rw[hc]
  clear hc
  have HM2:=hid (HM1.out.more (Nat.le_succ N))
  have HL2:=hid (show m.2.length+1<=N+1 from Nat.succ_le_succ HM1.out.few2)
  go_wp2
  refine aAs (fun u=>u.heap[mb]? = some (.cells #[fv,cv] 55 (0,0))/\u.heap[bx]? = some (.cells #[.string f.path,.bool f.exec,.string f.text] 28 (0,0)))
   [(true,0),(true,1),(true,2),(true,3),(true,4),(true,5),(true,6),(true,7),(true,8),(true,9),(false,10),(false,11),(false,12),(true,13),(true,14)] [15] mixed (by kernel_rfl) ⟨HM2.out.hs,HBX1.out⟩ ?_
  intro Tp M Q Q2 hT hT' hM hQ hQ2
  have m0:M ⟨mb,1,none⟩=some cv:=hM _ _ fun w' hw=>by rw[Lib.cell_of_heap hw.1];rfl
  have m1:M ⟨bx,0,none⟩=some (.string f.path):=hM _ _ fun w' hw=>by rw[Lib.cell_of_heap hw.2];rfl
  have m3:M ⟨bx,2,none⟩=some (.string f.text):=hM _ _ fun w' hw=>by rw[Lib.cell_of_heap hw.2];rfl
  clear hM
  simp only[qcmp]
  simp (maxSteps:=9^7) only[↓qpre,aAb,aAf,aAc,m0,m1,m3]
  clear m0 m1 m3
  refine aCc rfl (aFm _ _ _ _) ⟨hT _ ⟨HM2.out.hs,HBX1.out⟩,?_⟩
  simp (maxSteps:=9^7) only[aAb,aAc]
  have hba:Below w1.heap.size w1 (w1.drew.alloc (.cells #[.string f.path,.int .i64 5,.string f.text] 36)):=(Below.refl _ _).drew.alloc (Nat.le_refl _) _
  have HMV:=hid (HM2.out.below hba)
  have HBV:=hid ((hba.block bx (aAa HBX1.out)).trans HBX1.out)
  have HLI:=hid (aEv w1.drew ⟨f.path,5,f.text⟩)
  refine T.eff_lits (T.run_lits3 aBa _ _ _ _) rfl ⟨hT _ ⟨HMV.out.hs,HBV.out⟩,?_⟩
  simp (maxSteps:=9^7) only[aAb,aAc]
  clear hba HM2 HBX1
  generalize w1.drew.alloc (.cells #[.string f.path,.int .i64 5,.string f.text] 36)=V at *
  refine aAo aBa (base:=w0.heap.size) (n:=m.2.length) rfl rfl HMV.out.c1 HLI.out (aBv _) (by have:=HL2.out;have:=HNN.out;unfold maxLen;omega) (by have:=HL2.out;have:=HNN.out;omega) HMV.out.bel.size ?_
  intro v9 V5 ho9 hg9 hv9
  obtain ⟨A9,c9,rfl,hc9⟩:=aAg ho9
  obtain ⟨hs9,hp9⟩:=HMV.out.pushC (c:=⟨f.path,5,f.text⟩) HL2.out hg9 hv9 ho9
  have HM9:=hid hp9
  have HB9:=hid ((hg9.block bx (aAa HBV.out) (fun e=>HPC.out e.symm)).trans HBV.out)
  refine ⟨hT _ ⟨hs9,HB9.out⟩,?_⟩
  simp (maxSteps:=9^7) only[↓qpre,aAb,aAf,aAc]
  refine hQ _ _ ?_
  simp only[lates,List.map,qcmp]
  simp (maxSteps:=9^7) only[aAb]
  refine aAy (v:=.slice A9 (m.2.length+1) c9) (b:=mb) (o:=1) (by kernel_rfl) rfl rfl (by rw[Lib.cell_of_heap hs9];rfl) (aAi hs9) rfl ⟨trivial,?_⟩
  simp (maxSteps:=9^7) only[aAb]
  refine hQ2 _ _ ?_
  clear hQ hQ2 hT hT' HMV HBV HLI ho9 hg9 hv9 hs9 hp9 HB9
  generalize V5.setCell ⟨mb,1,none⟩ (.slice A9 (m.2.length+1) c9)=V6 at *
  go_wp2
  refine bodyPost_end (results_none rfl _ _ _) rfl ?_
  exact ⟨rfl,_,_,by rw[HP.out];exact HM9.out⟩
 have hcf:(m.1.any fun x=>clashP x.p f.p)=false:=by simpa using hc
 have HP:=hid (show putM m f kind=(m.1++[f],if kind=0 then m.2 else m.2++[⟨f.path,kind,f.text⟩]) by unfold putM;rw[if_neg hc])
 rw[hcf]
 clear hc hcf
 go_wp2
 refine aAs (fun u=>u.heap[mb]? = some (.cells #[fv,cv] 55 (0,0))/\u.heap[bx]? = some (.cells #[.string f.path,.bool f.exec,.string f.text] 28 (0,0)))
  [(true,0),(true,1),(true,2),(true,3),(true,4),(true,5),(false,6),(false,7),(true,8),(true,9)] [10] mixed (by kernel_rfl) ⟨HM1.out.hs,HBX1.out⟩ ?_
 intro Tp M Q Q2 hT hT' hM hQ hQ2
 have m0:M ⟨mb,0,none⟩=some fv:=hM _ _ fun w' hw=>by rw[Lib.cell_of_heap hw.1];rfl
 have m1:M ⟨bx,0,none⟩=some (.string f.path):=hM _ _ fun w' hw=>by rw[Lib.cell_of_heap hw.2];rfl
 have m2:M ⟨bx,1,none⟩=some (.bool f.exec):=hM _ _ fun w' hw=>by rw[Lib.cell_of_heap hw.2];rfl
 have m3:M ⟨bx,2,none⟩=some (.string f.text):=hM _ _ fun w' hw=>by rw[Lib.cell_of_heap hw.2];rfl
 clear hM
 simp only[qcmp]
 simp (maxSteps:=9^7) only[↓qpre,aAb,aAf,aAc,m0,m1,m2,m3]
 clear m0 m1 m2 m3
 have hba:Below w1.heap.size w1 (w1.drew.alloc (.cells #[.string f.path,.bool f.exec,.string f.text] 28)):=(Below.refl _ _).drew.alloc (Nat.le_refl _) _
 have HMV:=hid (HM1.out.below hba)
 have HBV:=hid ((hba.block bx (aAa HBX1.out)).trans HBX1.out)
 have HLI:=hid (aMk w1.drew f)
 refine T.eff_lits (T.run_lits3 aCm _ _ _ _) rfl ⟨hT _ ⟨HMV.out.hs,HBV.out⟩,?_⟩
 simp (maxSteps:=9^7) only[aAb,aAc]
 clear hba HM1 HBX1
 generalize w1.drew.alloc (.cells #[.string f.path,.bool f.exec,.string f.text] 28)=V at *
 refine aAo aCm (base:=w0.heap.size) (n:=m.1.length) rfl rfl HMV.out.f1 HLI.out (aBi _) (by have:=HMV.out.few1;have:=HNN.out;unfold maxLen;omega) (by have:=HMV.out.few1;have:=HNN.out;omega) HMV.out.bel.size ?_
 intro v7 V5 ho7 hg7 hv7
 obtain ⟨A7,c7,rfl,hc7⟩:=aAg ho7
 obtain ⟨hs5,hp5⟩:=HMV.out.pushF (f:=f) HF.out hg7 hv7 ho7
 have HM5:=hid hp5
 have HB5:=hid ((hg7.block bx (aAa HBV.out) (fun e=>HPF.out e.symm)).trans HBV.out)
 refine ⟨hT _ ⟨hs5,HB5.out⟩,?_⟩
 simp (maxSteps:=9^7) only[↓qpre,aAb,aAf,aAc]
 refine hQ _ _ ?_
 simp only[lates,List.map,qcmp]
 simp (maxSteps:=9^7) only[aAb]
 refine aAy (v:=.slice A7 (m.1.length+1) c7) (b:=mb) (o:=0) (by kernel_rfl) rfl rfl (by rw[Lib.cell_of_heap hs5];rfl) (aAi hs5) rfl ⟨trivial,?_⟩
 simp (maxSteps:=9^7) only[aAb]
 refine hQ2 _ _ ?_
 have HB6:=hid ((Below.heap_setCell V5 ⟨mb,0,none⟩ (.slice A7 (m.1.length+1) c7) bx HPM.out).trans HB5.out)
 have HMX:=HMV
 clear hQ hQ2 hT hT' HMV HBV HLI ho7 hg7 hv7 hs5 hp5 HB5
 generalize V5.setCell ⟨mb,0,none⟩ (.slice A7 (m.1.length+1) c7)=V6 at *
 by_cases hk:kind=0
 ·subst hk
  go_wp2
  refine bodyPost_end (results_none rfl _ _ _) rfl ?_
  exact ⟨rfl,_,_,by rw[HP.out];exact HM5.out⟩
 have ek:(kind != 0)=true:=by simpa using hk
 rw[if_neg hk] at HP
 have HL2:=hid (show m.2.length+1<=N+1 from Nat.succ_le_succ (HMX.out.few2))
 clear hk
 go_wp2
 refine aAs (fun u=>u.heap[mb]? = some (.cells #[(.slice A7 (m.1.length+1) c7),cv] 55 (0,0))/\u.heap[bx]? = some (.cells #[.string f.path,.bool f.exec,.string f.text] 28 (0,0)))
  [(true,0),(true,1),(true,2),(true,3),(true,4),(true,5),(true,6),(true,7),(true,8),(true,9),(false,10),(false,11),(false,12),(true,13),(true,14)] [15] mixed (by kernel_rfl) ⟨HM5.out.hs,HB6.out⟩ ?_
 intro Tp M Q Q2 hT hT' hM hQ hQ2
 have m0:M ⟨mb,1,none⟩=some cv:=hM _ _ fun w' hw=>by rw[Lib.cell_of_heap hw.1];rfl
 have m1:M ⟨bx,0,none⟩=some (.string f.path):=hM _ _ fun w' hw=>by rw[Lib.cell_of_heap hw.2];rfl
 have m3:M ⟨bx,2,none⟩=some (.string f.text):=hM _ _ fun w' hw=>by rw[Lib.cell_of_heap hw.2];rfl
 clear hM
 simp only[qcmp]
 simp (maxSteps:=9^7) only[↓qpre,aAb,aAf,aAc,m0,m1,m3]
 clear m0 m1 m3
 refine aCc rfl (aFm _ _ _ _) ⟨hT _ ⟨HM5.out.hs,HB6.out⟩,?_⟩
 simp (maxSteps:=9^7) only[aAb,aAc]
 have hba:Below V6.heap.size V6 (V6.drew.alloc (.cells #[.string f.path,.int .i64 kind,.string f.text] 36)):=(Below.refl _ _).drew.alloc (Nat.le_refl _) _
 have HMV:=hid (HM5.out.below hba)
 have HBV:=hid ((hba.block bx (aAa HB6.out)).trans HB6.out)
 have HLI:=hid (aEv V6.drew ⟨f.path,kind,f.text⟩)
 refine T.eff_lits (T.run_lits3 aBa _ _ _ _) rfl ⟨hT _ ⟨HMV.out.hs,HBV.out⟩,?_⟩
 simp (maxSteps:=9^7) only[aAb,aAc]
 clear hba HM5 HB6
 generalize V6.drew.alloc (.cells #[.string f.path,.int .i64 kind,.string f.text] 36)=V at *
 refine aAo aBa (base:=w0.heap.size) (n:=m.2.length) rfl rfl HMV.out.c1 HLI.out (aBv _) (by have:=HL2.out;have:=HNN.out;unfold maxLen;omega) (by have:=HL2.out;have:=HNN.out;omega) HMV.out.bel.size ?_
 intro v9 V5 ho9 hg9 hv9
 obtain ⟨A9,c9,rfl,hc9⟩:=aAg ho9
 obtain ⟨hs9,hp9⟩:=HMV.out.pushC (c:=⟨f.path,kind,f.text⟩) HL2.out hg9 hv9 ho9
 have HM9:=hid hp9
 have HB9:=hid ((hg9.block bx (aAa HBV.out) (fun e=>HPC.out e.symm)).trans HBV.out)
 refine ⟨hT _ ⟨hs9,HB9.out⟩,?_⟩
 simp (maxSteps:=9^7) only[↓qpre,aAb,aAf,aAc]
 refine hQ _ _ ?_
 simp only[lates,List.map,qcmp]
 simp (maxSteps:=9^7) only[aAb]
 refine aAy (v:=.slice A9 (m.2.length+1) c9) (b:=mb) (o:=1) (by kernel_rfl) rfl rfl (by rw[Lib.cell_of_heap hs9];rfl) (aAi hs9) rfl ⟨trivial,?_⟩
 simp (maxSteps:=9^7) only[aAb]
 refine hQ2 _ _ ?_
 clear hQ hQ2 hT hT' HMV HBV HLI ho9 hg9 hv9 hs9 hp9 HB9
 generalize V5.setCell ⟨mb,1,none⟩ (.slice A9 (m.2.length+1) c9)=V6 at *
 go_wp2
 refine bodyPost_end (results_none rfl _ _ _) rfl ?_
 exact ⟨rfl,_,_,by rw[HP.out];exact HM9.out⟩
def oneM (m:List FV×List CL)(f x:FV):List FV×List CL:=if x=f then m else putM m x 3
theorem box2 (w:World)(o1 o2:Obj):Below w.heap.size w ((w.alloc o1).alloc o2):=((Below.refl _ _).alloc (Nat.le_refl _) _).alloc (by simp) _
theorem aWw {Z:Nat->Obj->Prop}{w0 w:World}{mb N:Nat}{fv cv:Value}{m:List FV×List CL}{f x:FV}(h:MI Z w0 w mb fv cv m N)(hN:N<=100000)(hx:x.path.size<=1000000/\x.text.size<=1000000) :
  Calls Tryz.prog 57 #[.pointer (some ⟨mb,0,none⟩),.agg #[.string f.path,.bool f.exec,.string f.text],.agg #[.string x.path,.bool x.exec,.string x.text]] w (PutIs Z w0 mb (oneM m f x) (N+1)):=by
 have hb0:Below w.heap.size w (w.alloc (.cells #[.string f.path,.bool f.exec,.string f.text] 28)):=(Below.refl _ _).alloc (Nat.le_refl _) _
 have hb1:=box2 w (.cells #[.string f.path,.bool f.exec,.string f.text] 28) (.cells #[.string x.path,.bool x.exec,.string x.text] 28)
 have hf:((w.alloc (.cells #[.string f.path,.bool f.exec,.string f.text] 28)).alloc (.cells #[.string x.path,.bool x.exec,.string x.text] 28)).heap[w.heap.size]? = some (.cells #[.string f.path,.bool f.exec,.string f.text] 28 (0,0)):=
  (((Below.refl _ (w.alloc (.cells #[.string f.path,.bool f.exec,.string f.text] 28))).alloc (Nat.le_refl _) _).block w.heap.size (by simp)).trans (heap_alloc_new _ _)
 have hxx:((w.alloc (.cells #[.string f.path,.bool f.exec,.string f.text] 28)).alloc (.cells #[.string x.path,.bool x.exec,.string x.text] 28)).heap[w.heap.size+1]? = some (.cells #[.string x.path,.bool x.exec,.string x.text] 28 (0,0)):=by
  have:=heap_alloc_new (w.alloc (.cells #[.string f.path,.bool f.exec,.string f.text] 28)) (.cells #[.string x.path,.bool x.exec,.string x.text] 28)
  simpa using this
 have HM:=hid (h.below hb1)
 have f0:=cell_of_row _ _ 0 _ _ _ hf
 have f1:=cell_of_row _ _ 1 _ _ _ hf
 have f2:=cell_of_row _ _ 2 _ _ _ hf
 have x0:=cell_of_row _ _ 0 _ _ _ hxx
 have x1:=cell_of_row _ _ 1 _ _ _ hxx
 have x2:=cell_of_row _ _ 2 _ _ _ hxx
 have hne:=fun u=>aWh x f u
 have K:=aBb (f:=x) (kind:=3) HM.out hN hx
 clear h hb0 hb1 hf hxx hN hx
 go_enter Tryz.func57,Tryz.ntmps57
 by_cases e:x=f
 ·have HE:=hid (show oneM m f x=m from if_pos e)
  have e1:(!decide (x=f))=false:=by simp[e]
  rw[e1] at hne
  clear e e1 K
  go_wp2
  refine bodyPost_end (results_none rfl _ _ _) rfl ?_
  exact ⟨rfl,_,_,by rw[HE.out];exact HM.out.more (Nat.le_succ N)⟩
 have HE:=hid (show oneM m f x=putM m x 3 from if_neg e)
 have e1:(!decide (x=f))=true:=by simp[e]
 rw[e1] at hne
 clear e e1
 go_wp2_with fail
 refine K.mono ?_
 rintro e w1 ⟨rfl,fv',cv',hp⟩
 have HP:=hid hp
 clear K hp HM
 go_wp2
 refine bodyPost_end (results_none rfl _ _ _) rfl ?_
 exact ⟨rfl,_,_,by rw[HE.out];exact HP.out⟩
end Go.Proofs.YtcemkikgaeghjaaGreatDoor
