/- Texts of the walks, together: Clashes in memory; two of them exchanged. Walk: (*treemerge.side).where. Walk: the order of clashes; slices.insertionSortCmpFunc of clashes. Walk: slices.rotateCmpFunc of clashes. -/
import Derived.Test.YtohblmepajhpaaaGreatDoorG18
set_option maxHeartbeats 8000000
set_option maxRecDepth 100000
open Go.Lib (hid)
namespace Go.Proofs.YtohblmepajhpaaaGreatDoor
open Go.RowKit
def CL.cells (c:CL):List Value:=[.string c.path,.int .i64 c.kind,.string c.text]
theorem CL.cells_len (c:CL):c.cells.length=3:=rfl
theorem CL.len_flat (l:List CL):(l.flatMap CL.cells).length=l.length*3:=by
 induction l with
 | nil=>rfl
 | cons x l ih=>rw[List.flatMap_cons,List.length_append,ih,List.length_cons,CL.cells_len];omega
theorem aLp (l:List CL):∀u∈l.flatMap CL.cells,u.oneCell'=true:=by
 intro u hu
 obtain ⟨f,_,hu⟩:=List.mem_flatMap.1 hu
 simp only[CL.cells,List.mem_cons,List.mem_nil_iff,or_false] at hu
 rcases hu with rfl | rfl | rfl<;>rfl
structure RowC (w:World) (g cap:Nat) (cs:List CL):Prop where
 ex:∃cur:Array Value,w.heap[g]? = some (.cells cur 94 (0,0))/\cur.size=cap*3/\cs.length<=cap/\cur.toList.take (cs.length*3)=cs.flatMap CL.cells
 few:cs.length<=1000000
theorem RowC.same {w w':World}{g cap:Nat}{cs:List CL}(h:RowC w g cap cs)(e:w'.heap[g]? = w.heap[g]?):RowC w' g cap cs:=by
 obtain ⟨cur,h1,h2⟩:=h.ex
 exact ⟨⟨cur,e.trans h1,h2⟩,h.few⟩
theorem RowC.lt {w:World}{g cap:Nat}{cs:List CL}(h:RowC w g cap cs):g<w.heap.size:=by
 obtain ⟨cur,h1,_⟩:=h.ex
 exact (Array.getElem?_eq_some_iff.1 h1).1
theorem RowC.below {w w':World}{g cap:Nat}{cs:List CL}(h:RowC w g cap cs)(hb:Below w.heap.size w w'):RowC w' g cap cs:=h.same (hb.block g h.lt)
theorem RowC.cell {w:World}{g cap:Nat}{cs:List CL}(h:RowC w g cap cs){k t:Nat}{c:CL}{u:Value}(hk:cs[k]? = some c)(hu:c.cells[t]? = some u):w.cell? ⟨g,k*3+t,none⟩=some u:=by
 obtain ⟨cur,h1,h2,h3,h4⟩:=h.ex
 have ht:t<3:=(List.getElem?_eq_some_iff.1 hu).1
 have e:=(T.flat_at CL.cells_len hk ht).trans hu
 rw[cell_of_row w _ _ _ _ _ h1]
 rw[<-h4] at e
 rw[List.getElem?_take] at e
 split at e
 ·simpa using e
 cases e
theorem RowC.get {w:World}{g cap:Nat}{cs:List CL}(h:RowC w g cap cs){k:Nat}(hk:k<cs.length) :
  ∃c,cs[k]? = some c/\w.cell? ⟨g,k*3,none⟩=some (.string c.path)/\w.cell? ⟨g,k*3+1,none⟩=some (.int .i64 c.kind)/\w.cell? ⟨g,k*3+2,none⟩=some (.string c.text):=
 ⟨cs[k],List.getElem?_eq_getElem hk,h.cell (t:=0) (List.getElem?_eq_getElem hk) rfl,h.cell (List.getElem?_eq_getElem hk) rfl,h.cell (List.getElem?_eq_getElem hk) rfl⟩
theorem CL.flat_set {l:List CL}{f:CL}{k:Nat}(hk:k<l.length):(l.flatMap CL.cells).take (k*3)++f.cells++(l.flatMap CL.cells).drop (k*3+3)=(l.set k f).flatMap CL.cells:=by
 rw[T.flat_take CL.cells_len,show k*3+3=(k+1)*3 by omega,T.flat_drop CL.cells_len,List.set_eq_take_append_cons_drop,if_pos hk,List.flatMap_append,List.flatMap_cons,List.append_assoc]
theorem aAu {S:World->Prop}{a:Act}{w:World}{K:Act->World->Prop}{dst:Option Tmp}{ty:TypeId}{x y:Operand}{q:Bool}{gd:Option (Tmp×Bool)}{g cap k d:Nat}{cs:List CL}{c:CL}(h:RowC w g cap cs)(hk:k<cs.length)
  (hd:d=k*3) (hx:a.eval x=.pointer (some ⟨g,d,none⟩)) (hy:a.eval y=.agg #[.string c.path,.int .i64 c.kind,.string c.text])
  (hK:∀w',RowC w' g cap (cs.set k c)->w.grownBy w' (some g)->S w'/\K (a.put dst undef) w'):effq Tryz.prog S ⟨q,dst,.store 94 x y,ty,gd⟩ a w K:=by
 intro p af g'
 subst hd
 obtain ⟨cur,h1,h2,h3,h4⟩:=h.ex
 have hi:(Tryz.prog.info? 94).map (·.size)=some 3:=by kernel_rfl
 obtain ⟨i,hi1,hi2⟩:=Option.map_eq_some_iff.1 hi
 have hr:=run_storeCells_at Tryz.prog g (k*3) 94 c.cells 0 cur w h1 (by rw[CL.cells_len];omega) (fun v hv=>aLp [c] v (by simpa using hv))
 have hst:(storeVar 94 ⟨g,k*3,none⟩ (.agg #[.string c.path,.int .i64 c.kind,.string c.text])).run Tryz.prog w=.ok () (w.setRow g (cur.toList.take (k*3)++c.cells++cur.toList.drop (k*3+3)).toArray):=by
  simp only[Nat.add_zero,CL.cells_len] at hr
  simp[storeVar,sizeOf,typeInfo,hi1,hi2,Value.cells]
  simpa[CL.cells] using hr
 unfold Oper.wp execOp
 simp only[hx,hy,Instr.storeAt,Instr.sureAddr,Sem.run_bind,Sem.run_pure,Result.andThen_ok,hst]
 have hlc:cur.toList.length=cap*3:=by rw[Array.length_toList];exact h2
 refine hK _ ⟨⟨_,setRow_heap _ _ _ _ _ _ h1,?_,by rw[List.length_set];exact h3,?_⟩,by rw[List.length_set];exact h.few⟩ (aCr (World.grownBy.refl w _) (.inr rfl))
 ·simp only[List.size_toArray,List.length_append,List.length_take,List.length_drop,CL.cells_len,hlc];omega
 rw[List.length_set,<-CL.flat_set hk,<-h4,List.take_take,Nat.min_eq_left (by omega)]
 have e1:(cur.toList.take (k*3)++c.cells).length=k*3+3:=by rw[List.length_append,List.length_take,hlc,CL.cells_len];omega
 simp only
 rw[List.take_append,List.take_of_length_le (by omega),e1,List.drop_take]
theorem aCv {P:Program}{S:World->Prop}{a:Act}{w:World}{K:Act->World->Prop}{dst:Option Tmp}{op:Op}{ty:TypeId}{q:Bool}{g:Option (Tmp×Bool)}
  (h:∀M:Addr->Option Value,(∀p v,w.cell? p=some v->M p=some v)->opq P M op a.eval (fun v=>S w/\K (a.put dst v) w)):effq P S ⟨q,dst,op,ty,g⟩ a w K:=by
 obtain ⟨v,h1,h2⟩:=aNb (S:=fun u=>u=w) (ty:=ty) (fun p v hp u hu=>by rw[hu];exact hp) (h (fun p=>w.cell? p) (fun _ _ h=>h))
 exact bIo (fun p af g=>h1 w _ p af g rfl) h2
theorem aGj {α:Type}{d:List α}{i j:Nat}{x y:α}(hx:d[i]? = some x)(hy:d[j]? = some y):SwapAs d ((d.set i y).set j x) i j:=by
 have li:=(List.getElem?_eq_some_iff.1 hx).1
 have lj:=(List.getElem?_eq_some_iff.1 hy).1
 refine ⟨by simp,fun t=>?_⟩
 by_cases e1:t=i
 ·subst e1
  rw[if_pos rfl]
  by_cases e2:j=t
  ·subst e2
   rw[List.getElem?_set_self (by simpa using lj),hx]
  rw[List.getElem?_set_ne e2,List.getElem?_set_self li,hy]
 rw[if_neg e1]
 by_cases e2:t=j
 ·subst e2
  rw[if_pos rfl,List.getElem?_set_self (by simpa using lj),hx]
 rw[if_neg e2,List.getElem?_set_ne (fun e=>e2 e.symm),List.getElem?_set_ne (fun e=>e1 e.symm)]
def RowTo (R:List CL->Prop)(g cap:Nat)(w:World)(e:Ending) (w':World):Prop:=e=.returned (.tuple #[])/\∃cs',R cs'/\RowC w' g cap cs'/\w.grownBy w' (some g)
theorem aEf {w:World}{g cap a b n:Nat}{cs:List CL}{f:Value}(h:RowC w g cap cs)(hab:a+n<=b)(hbn:b+n<=cs.length) :
  Calls Tryz.prog 270 #[.slice (some ⟨g,0,none⟩) cs.length cap,.int .i64 a,.int .i64 b,.int .i64 n,f] w (RowTo (fun cs'=>RangeAs cs cs' a b n) g cap w):=by
 have HC:=hid (show cs.length<=1000000 from h.few)
 have hcl:cs.length<=1000000:=HC.out
 go_enter Tryz.func270,Tryz.ntmps270
 go_wp2
 go_loopw[10] (fun iv wr=>∃k:Nat,k<=n/\iv=.int .i64 k/\∃cs',Hid (RangeAs cs cs' a b k)/\Hid (RowC wr g cap cs')/\Hid (w.grownBy wr (some g))) (fun i _=>n-(intOf i).toNat)
 case atStart=>exact ⟨0,Nat.zero_le _,rfl,cs,hid (RangeAs.start cs a b),hid h,hid (World.grownBy.refl w _)⟩
 obtain ⟨k,hk,rfl,cs',HR,HW,HG⟩:=hrel
 by_cases hlt:k<n
 ·have hl:cs'.length=cs.length:=HR.out.len
  have HL:=hid hl
  obtain ⟨x,hx,x0,x1,x2⟩:=HW.out.get (k:=a+k) (by omega)
  obtain ⟨y,hy,y0,y1,y2⟩:=HW.out.get (k:=b+k) (by omega)
  have HSW:=hid (aGj hx hy)
  clear hx hy hl
  go_wp2
  have T1:((a:Int)+(k:Int)).toNat=a+k:=by omega
  have T2:((b:Int)+(k:Int)).toNat=b+k:=by omega
  refine aAv (fun _=>True) (.q 0 (.q 1 (.q 2 (.q 3 (.q 4 (.q 5 (.q 6 (.q 7 (.q 8 (.q 9 (.q 10 (.q 11 (.q 12 (.q 14 (.q 15 (.q 16 (.q 17 (.q 18 (.two 13 (.one 19 (.q 20 (.one 21 (.q 22 (.one 23 .leaf))))) 19 (.one 13 (.q 20 (.one 21 (.q 22 (.one 23 .leaf)))))))))))))))))))))))) mixed (by kernel_rfl) trivial ?_
  intro T M Q hT hT' hM hQ
  clear hM
  refine aDy ?_
  intro O hO
  have t0:=hO true 0
  have t1:=hO true 1
  have t2:=hO true 2
  have t3:=hO true 3
  have t4:=hO true 4
  have t5:=hO true 5
  have t6:=hO true 6
  have t7:=hO true 7
  have t8:=hO true 8
  have t9:=hO true 9
  have t10:=hO true 10
  have t11:=hO true 11
  have t12:=hO true 12
  have t14:=hO true 14
  have t15:=hO true 15
  have t16:=hO true 16
  have t17:=hO true 17
  have t18:=hO true 18
  have t20:=hO true 20
  have t22:=hO true 22
  have e13:=hO false 13
  have e19:=hO false 19
  have e21:=hO false 21
  have e23:=hO false 23
  simp only[qcmp] at t0 t1 t2 t3 t4 t5 t6 t7 t8 t9 t10 t11 t12 t14 t15 t16 t17 t18 t20 t22 e13 e19 e21 e23
  clear hO
  simp (maxSteps:=9^7) only[↓wt_q,↓aBb,t0,t1,t2,t3,t4,t5,t6,t7,t8,t9,t10,t11,t12,t14,t15,t16,t17,t18,e13,e19,↓qpre,aAb,aAe,aAc,T1,T2]
  (repeat refine And.intro (by first|omega|(unfold inI64;omega)) ?_)
  refine ⟨?o1,?o2⟩
  case' o1=>
   refine aCv fun N hN=>?_
   have n0:=hN _ _ y0
   have n1:=hN _ _ y1
   have n2:=hN _ _ y2
   simp (maxSteps:=9^7) only[↓aAl,e19,↓qpre,aAb,aAe,aAc,n0,n1,n2]
   clear n0 n1 n2 hN
   refine ⟨hT _ trivial,?_⟩
   try simp (maxSteps:=9^7) only[↓wt_q,↓aAl,↓aBb,t0,t1,t2,t3,t4,t5,t6,t7,t8,t9,t10,t11,t12,t14,t15,t16,t17,t18,t20,t22,e13,e19,e21,e23,↓qpre,aAb,aAe,aAc,T1,T2]
   refine aCv fun N hN=>?_
   have n0:=hN _ _ x0
   have n1:=hN _ _ x1
   have n2:=hN _ _ x2
   simp (maxSteps:=9^7) only[↓wt_q,↓aAl,t20,e21,↓qpre,aAb,aAe,aAc,T1,n0,n1,n2]
   clear n0 n1 n2 hN
   refine ⟨hT _ trivial,?_⟩
   try simp (maxSteps:=9^7) only[↓wt_q,↓aAl,↓aBb,t0,t1,t2,t3,t4,t5,t6,t7,t8,t9,t10,t11,t12,t14,t15,t16,t17,t18,t20,t22,e13,e19,e21,e23,↓qpre,aAb,aAe,aAc,T1,T2]
   (repeat refine And.intro (by first|omega|(unfold inI64;omega)) ?_)
   refine aAu (cs:=cs') (k:=a+k) (c:=y) (HW.out.same (w':=wr.drew) rfl) (by have:=HL.out;omega) rfl rfl rfl ?_
   intro u1 hu1 hg1
   refine ⟨hT _ trivial,?_⟩
   try simp (maxSteps:=9^7) only[↓wt_q,↓aAl,t22,e23,↓qpre,aAb,aAe,aAc,T2]
   (repeat refine And.intro (by first|omega|(unfold inI64;omega)) ?_)
   refine aAu (cs:=cs'.set (a+k) y) (k:=b+k) (c:=x) hu1 (by rw[List.length_set];have:=HL.out;omega) rfl rfl rfl ?_
   intro u2 hu2 hg2
   refine ⟨hT _ trivial,?_⟩
   try simp (maxSteps:=9^7) only[aAb]
   refine hQ _ _ ?_
  case' o2=>
   refine aCv fun N hN=>?_
   have n0:=hN _ _ x0
   have n1:=hN _ _ x1
   have n2:=hN _ _ x2
   simp (maxSteps:=9^7) only[↓aAl,e13,↓qpre,aAb,aAe,aAc,n0,n1,n2]
   clear n0 n1 n2 hN
   refine ⟨hT _ trivial,?_⟩
   try simp (maxSteps:=9^7) only[↓wt_q,↓aAl,↓aBb,t0,t1,t2,t3,t4,t5,t6,t7,t8,t9,t10,t11,t12,t14,t15,t16,t17,t18,t20,t22,e13,e19,e21,e23,↓qpre,aAb,aAe,aAc,T1,T2]
   refine aCv fun N hN=>?_
   have n0:=hN _ _ y0
   have n1:=hN _ _ y1
   have n2:=hN _ _ y2
   simp (maxSteps:=9^7) only[↓wt_q,↓aAl,t20,e21,↓qpre,aAb,aAe,aAc,T1,n0,n1,n2]
   clear n0 n1 n2 hN
   refine ⟨hT _ trivial,?_⟩
   try simp (maxSteps:=9^7) only[↓wt_q,↓aAl,↓aBb,t0,t1,t2,t3,t4,t5,t6,t7,t8,t9,t10,t11,t12,t14,t15,t16,t17,t18,t20,t22,e13,e19,e21,e23,↓qpre,aAb,aAe,aAc,T1,T2]
   (repeat refine And.intro (by first|omega|(unfold inI64;omega)) ?_)
   refine aAu (cs:=cs') (k:=a+k) (c:=y) (HW.out.same (w':=wr.drew) rfl) (by have:=HL.out;omega) rfl rfl rfl ?_
   intro u1 hu1 hg1
   refine ⟨hT _ trivial,?_⟩
   try simp (maxSteps:=9^7) only[↓wt_q,↓aAl,t22,e23,↓qpre,aAb,aAe,aAc,T2]
   (repeat refine And.intro (by first|omega|(unfold inI64;omega)) ?_)
   refine aAu (cs:=cs'.set (a+k) y) (k:=b+k) (c:=x) hu1 (by rw[List.length_set];have:=HL.out;omega) rfl rfl rfl ?_
   intro u2 hu2 hg2
   refine ⟨hT _ trivial,?_⟩
   try simp (maxSteps:=9^7) only[aAb]
   refine hQ _ _ ?_
  all_goals clear hQ hT hT' t0 t1 t2 t3 t4 t5 t6 t7 t8 t9 t10 t11 t12 t14 t15 t16 t17 t18 t20 t22 e13 e19 e21 e23
  all_goals
   have HW2:=hid hu2
   have HG2:=hid ((HG.out.trans (World.grownBy.trans (show wr.grownBy wr.drew (some g) from ⟨rfl,rfl,rfl,Nat.le_refl _,fun _ _ _=>rfl⟩) hg1)).trans hg2)
   have HR2:=hid (HR.out.step HSW.out (by omega))
   clear hu1 hg1 hu2 hg2 HW HG HR HSW T1 T2 x0 x1 x2 y0 y1 y2
   go_wp2
   go_roundw
   case rel=>exact ⟨k+1,by omega,by go_num,_,HR2,HW2,HG2⟩
   simp[intOf];omega
 have hkn:k=n:=by omega
 subst hkn
 go_wp2
 refine bodyPost_end (results_none rfl _ _ _) rfl ?_
 exact ⟨rfl,cs',HR.out,HW.out,HG.out⟩
def whereL (base side:List FV)(L:List (Nat×Nat))(f:FV):Option FV:=
 match findP side f.path with
 | some x=>some x
 | none=>(sendL base side L f.path).bind fun d=>findP side d
theorem bDn {base side:List FV}{L:List (Nat×Nat)}(hn:(base.map FV.path).Nodup)(hp:L.Perm (pairsF base side))(f:FV):whereL base side L f=whereF base side f:=by
 unfold whereL whereF
 rw[aWb hn hp]
 cases findP side f.path<;>rfl
theorem aMb {P:Program}{S:World->Prop}{a:Act}{w:World}{K:Act->World->Prop}{dst:Option Tmp}{t ty:TypeId}{m x:Operand}{c q:Bool}{g:Option (Tmp×Bool)}{mv key v:Value}(hm:a.eval m=mv)(hx:a.eval x=key)
  (hrun:(Instr.lookup t mv key c).run P w=.ok v w) (hK:S w/\K (a.put dst v) w):effq P S ⟨q,dst,.lookup t m x c,ty,g⟩ a w K:=by
 intro p af g
 unfold Oper.wp execOp
 simp only[hm,hx,hrun,Sem.run_bind,Sem.run_pure,Result.andThen_ok]
 exact hK
theorem zeroFile (w:World):(zeroValue 48).run Tryz.prog w=.ok (.agg #[.string ⟨#[]⟩,.bool false,.string ⟨#[]⟩]) w:=Tryz.zeroValue48 w
theorem SideIs.cells {w:World}{B s:Nat}{fs:Value}{base side:List FV}{L:List (Nat×Nat)}(h:SideIs w B s fs base side L):∃m1 m2 n1 D1,w.heap[s]? = some (.cells #[fs,.map (some m1),.map (some m2)] 214 (0,0))/\MpT w m1 n1 D1 (sendL base side L):=by
 obtain ⟨⟨m1,m2,n1,n2,D1,D2,h1,h2,_⟩,_⟩:=h.ex,h.lo
 exact ⟨m1,m2,n1,D1,h1,h2⟩
theorem bCm {w:World}{B s n c:Nat}{A:Option Addr}{base side:List FV}{L:List (Nat×Nat)}{f:FV}(hn:n<=100000)(h:SideIs w B s (.slice A n c) base side L)(hr:RdF w w.heap.size A n c side)(hf:f.path.size<=maxLen) :
  Calls Tryz.prog 151 #[.pointer (some ⟨s,0,none⟩),.agg #[.string f.path,.bool f.exec,.string f.text]] w (FoundIs (whereL base side L f) w):=by
 obtain ⟨V,eV⟩:∃V,V=(w.alloc (.cells #[.string f.path,.bool f.exec,.string f.text] 48)).alloc (.cells #[.string ⟨#[]⟩,.bool false,.string ⟨#[]⟩] 48):=⟨_,rfl⟩
 have hb1:Below w.heap.size w (w.alloc (.cells #[.string f.path,.bool f.exec,.string f.text] 48)):=(Below.refl _ _).alloc (Nat.le_refl _) _
 have hb2:Below (w.alloc (.cells #[.string f.path,.bool f.exec,.string f.text] 48)).heap.size (w.alloc (.cells #[.string f.path,.bool f.exec,.string f.text] 48)) V:=by rw[eV];exact (Below.refl _ _).alloc (Nat.le_refl _) _
 have hbV:Below w.heap.size w V:=hb1.trans (hb2.mono hb1.size)
 have hsz:V.heap.size=w.heap.size+2:=by rw[eV];simp
 have HBX:=hid ((hb2.block w.heap.size (by simp)).trans (heap_alloc_new w (.cells #[.string f.path,.bool f.exec,.string f.text] 48)))
 have HZ:Hid (V.heap[w.heap.size+1]? = some (.cells #[.string ⟨#[]⟩,.bool false,.string ⟨#[]⟩] 48 (0,0))):=by
  have:=heap_alloc_new (w.alloc (.cells #[.string f.path,.bool f.exec,.string f.text] 48)) (.cells #[.string ⟨#[]⟩,.bool false,.string ⟨#[]⟩] 48)
  rw[<-eV] at this
  exact hid (by simpa using this)
 have HV:=hid hbV
 have HSZ:=hid hsz
 have HF:=hid (fun (u:World) (hu:Below V.heap.size V u) (p:ByteArray)=>aHj (p:=p) (by omega) (hr.to (hbV.trans (hu.mono hbV.size)) (Nat.le_trans hbV.size hu.size)))
 have HSD:=hid (h.below hbV)
 have hi24:(Tryz.prog.info? 48).map (·.size)=some 3:=by kernel_rfl
 obtain ⟨m1,m2,n1,D1,hcs,hm1⟩:=HSD.out.cells
 have HCS:=hid hcs
 have HM1:=hid hm1
 clear hb1 hb2 hbV hsz h hr hcs hm1
 go_enter Tryz.func151,Tryz.ntmps151
 go_wp2
 rw[<-eV]
 clear eV
 refine aAv (fun u=>Below V.heap.size V u) (.q 0 (.q 1 (.q 2 (.q 3 (.q 4 (.q 5 (.two 6 (.q 7 (.q 8 (.q 9 (.one 10 (.one 11 (.q 12 .leaf)))))) 10 (.one 6 (.q 7 (.q 8 (.q 9 (.one 11 (.q 12 .leaf))))))))))))) mixed (by kernel_rfl) (Below.refl _ _).drew ?_
 intro Tp M Q hT hT' hM hQ
 have m0:M ⟨s,0,none⟩=some (.slice A n c):=hM _ _ fun w' hw=>by rw[Lib.cell_of_heap ((hw.block _ (aAa HCS.out)).trans HCS.out)];rfl
 have m1':M ⟨w.heap.size,0,none⟩=some (.string f.path):=hM _ _ fun w' hw=>by rw[Lib.cell_of_heap ((hw.block _ (aAa HBX.out)).trans HBX.out)];rfl
 clear hM
 refine aDy ?_
 intro O hO
 have t0:=hO true 0
 have t1:=hO true 1
 have t2:=hO true 2
 have t3:=hO true 3
 have t4:=hO true 4
 have t5:=hO true 5
 have t7:=hO true 7
 have t8:=hO true 8
 have t9:=hO true 9
 have t12:=hO true 12
 have e6:=hO false 6
 have e10:=hO false 10
 have e11:=hO false 11
 simp only[qcmp] at t0 t1 t2 t3 t4 t5 t7 t8 t9 t12 e6 e10 e11
 clear hO
 simp (maxSteps:=9^7) only[↓wt_q,↓aBb,t0,t1,t2,t3,t4,t5,e6,e10,↓qpre,aAb,aAe,aAc,m0,m1']
 refine ⟨?ord1,?ord2⟩
 case' ord1=>
  refine aAi (by kernel_rfl) (HF.out V.drew (Below.refl _ _).drew f.path) rfl rfl ?_
  rintro e u1 ⟨rfl,hb1⟩
  have hB1:Below V.heap.size V u1:=(Below.refl V.heap.size V).drew.trans hb1
  refine ⟨_,rfl,hT _ hB1,?_⟩
  simp (maxSteps:=9^7) only[↓wt_q,↓aAl,t7,t8,t9,e10,↓qpre,aAb,aAc]
  refine aBr zeroFile ⟨hT _ (hB1.alloc hB1.size _),?_⟩
  simp (maxSteps:=9^7) only[↓aAl,e11,aAb,aAc]
  have hN:=heap_alloc_new u1 (.cells #[.string ⟨#[]⟩,.bool false,.string ⟨#[]⟩] 48)
  refine aAs (cells:=#[.string (optF (findP side f.path)).path,.bool (optF (findP side f.path)).exec,.string (optF (findP side f.path)).text]) rfl rfl hN hi24 rfl (by simp[Value.oneCell']) ⟨hT _ (aAj (hB1.alloc hB1.size _) hB1.size),?_⟩
  simp (maxSteps:=9^7) only[↓wt_q,t12,↓qpre,aAb,aAc]
  refine hQ _ _ ?_
  have HX6:=hid (setRow_heap _ _ _ #[.string (optF (findP side f.path)).path,.bool (optF (findP side f.path)).exec,.string (optF (findP side f.path)).text] _ _ hN)
  have HBU:=hid (aAj (cs:=#[.string (optF (findP side f.path)).path,.bool (optF (findP side f.path)).exec,.string (optF (findP side f.path)).text]) (hB1.alloc hB1.size (.cells #[.string ⟨#[]⟩,.bool false,.string ⟨#[]⟩] 48)) hB1.size)
  have HLO:=hid hB1.size
  simp only[Value.cells] at HX6 HBU ⊢
  generalize World.setRow _ _ _=U at *
  generalize u1.heap.size=b6 at *
  clear hN hB1 hb1
 case' ord2=>
  refine aBr zeroFile ⟨hT _ ((Below.refl V.heap.size V).drew.alloc (Nat.le_refl _) _),?_⟩
  simp (maxSteps:=9^7) only[↓aAl,e6,aAb,aAc]
  have hB0:Below V.heap.size V (V.drew.alloc (.cells #[.string ⟨#[]⟩,.bool false,.string ⟨#[]⟩] 48)):=(Below.refl V.heap.size V).drew.alloc (Nat.le_refl _) _
  refine aAi (by kernel_rfl) (HF.out _ hB0 f.path) rfl rfl ?_
  rintro e u1 ⟨rfl,hb1⟩
  have hB1:Below V.heap.size V u1:=hB0.trans (hb1.mono hB0.size)
  refine ⟨_,rfl,hT _ hB1,?_⟩
  simp (maxSteps:=9^7) only[↓wt_q,↓aAl,t7,t8,t9,e11,↓qpre,aAb,aAc]
  have hN:=(hb1.block V.heap.size (by simp)).trans (heap_alloc_new V.drew (.cells #[.string ⟨#[]⟩,.bool false,.string ⟨#[]⟩] 48))
  refine aAs (cells:=#[.string (optF (findP side f.path)).path,.bool (optF (findP side f.path)).exec,.string (optF (findP side f.path)).text]) rfl rfl hN hi24 rfl (by simp[Value.oneCell']) ⟨hT _ (aAj hB1 (Nat.le_refl _)),?_⟩
  simp (maxSteps:=9^7) only[↓wt_q,t12,↓qpre,aAb,aAc]
  refine hQ _ _ ?_
  have HX6:=hid (setRow_heap _ _ _ #[.string (optF (findP side f.path)).path,.bool (optF (findP side f.path)).exec,.string (optF (findP side f.path)).text] _ _ hN)
  have HBU:=hid (aAj (cs:=#[.string (optF (findP side f.path)).path,.bool (optF (findP side f.path)).exec,.string (optF (findP side f.path)).text]) hB1 (Nat.le_refl V.heap.size))
  have HLO:=hid (Nat.le_refl V.heap.size)
  obtain ⟨b6,hb6⟩:∃b6,b6=V.drew.heap.size:=⟨_,rfl⟩
  rw[<-hb6]
  obtain ⟨U,eU⟩:∃U,U=u1.setRow V.heap.size #[.string (optF (findP side f.path)).path,.bool (optF (findP side f.path)).exec,.string (optF (findP side f.path)).text]:=⟨_,rfl⟩
  rw[<-eU] at HX6 HBU
  rw[show u1.setRow b6 #[.string (optF (findP side f.path)).path,.bool (optF (findP side f.path)).exec,.string (optF (findP side f.path)).text]=U by rw[eU,hb6];rfl]
  clear eU
  replace HX6:Hid (U.heap[b6]? = some (.cells #[.string (optF (findP side f.path)).path,.bool (optF (findP side f.path)).exec,.string (optF (findP side f.path)).text] 48 (0,0))):=by rw[hb6];exact HX6
  replace HLO:Hid (V.heap.size<=b6):=by rw[hb6];exact HLO
  clear hb6 hB0 hB1 hb1 hN
 all_goals
  clear hQ hT hT' t0 t1 t2 t3 t4 t5 t7 t8 t9 t12 e6 e10 e11 m0 m1'
  have HBW:Hid (Below w.heap.size w U):=hid (HV.out.trans (HBU.out.mono HV.out.size))
  have HZU:Hid (U.heap[w.heap.size+1]? = some (.cells #[.string ⟨#[]⟩,.bool false,.string ⟨#[]⟩] 48 (0,0))):=hid ((HBU.out.block _ (aAa HZ.out)).trans HZ.out)
  cases ho:findP side f.path with
  | some g=>
   rw[ho] at HX6
   simp only[optF,Option.isSome_some,Option.getD_some] at HX6 ⊢
   have HWL:=hid (show whereL base side L f=some g by unfold whereL;rw[ho])
   have d0:U.cell? ⟨b6,0,none⟩=some (.string g.path):=by rw[Lib.cell_of_heap HX6.out];rfl
   have d1:U.cell? ⟨b6,1,none⟩=some (.bool g.exec):=by rw[Lib.cell_of_heap HX6.out];rfl
   have d2:U.cell? ⟨b6,2,none⟩=some (.string g.text):=by rw[Lib.cell_of_heap HX6.out];rfl
   have HR:=hid (setRow_heap U _ _ #[.string g.path,.bool g.exec,.string g.text] _ _ HZU.out)
   have HB9:=hid (aAj (cs:=#[.string g.path,.bool g.exec,.string g.text]) HBW.out (Nat.le_succ w.heap.size))
   clear ho
   go_wp2_with (refine wpList_store_row rfl 48 (.tmp 4) (.tmp 21) rfl (w.heap.size+1) #[.string g.path,.bool g.exec,.string g.text] rfl rfl _ _ HZU.out hi24 rfl (by simp[Value.oneCell']) ?_)
   try simp only[Exit.inBlock,Exit.then]
   refine bodyPost_ret (aAm rfl _ _ (w.heap.size+1) _ _ (0,0) _ rfl HR.out Tryz.underlying48 rfl (by kernel_rfl)) rfl ?_
   exact ⟨by rw[HWL.out];rfl,HB9.out⟩
  | none=>
   clear HX6 HLO
   simp only[optF,Option.isSome_none,Option.getD_none]
   have HBX':=hid ((HBU.out.block _ (aAa HBX.out)).trans HBX.out)
   have HCS':=hid ((HBU.out.block _ (aAa HCS.out)).trans HCS.out)
   have HM1':=hid (HM1.out.below HBU.out)
   have HLK:=hid (fun (u:World) (hu:Below U.heap.size U u)=>(HM1'.out.below hu).look hf)
   have HZF:=hid (fun u=>aHn u)
   go_wp2
   refine aAv (fun u=>Below U.heap.size U u) (.q 0 (.q 1 (.q 2 (.q 3 (.q 4 (.q 5 (.b 6 (.one 7 (.q 8 (.q 9 (.q 10 (.q 11 (.q 12 .leaf))))))))))))) mixed (by kernel_rfl) (Below.refl _ _).drew ?_
   intro Tp M Q hT hT' hM hQ
   have m0:M ⟨s,1,none⟩=some (.map (some m1)):=hM _ _ fun w' hw=>by rw[Lib.cell_of_heap ((hw.block _ (aAa HCS'.out)).trans HCS'.out)];rfl
   have m1':M ⟨w.heap.size,0,none⟩=some (.string f.path):=hM _ _ fun w' hw=>by rw[Lib.cell_of_heap ((hw.block _ (aAa HBX'.out)).trans HBX'.out)];rfl
   clear hM
   refine aDy ?_
   intro O hO
   have t0:=hO true 0
   have t1:=hO true 1
   have t2:=hO true 2
   have t3:=hO true 3
   have t4:=hO true 4
   have t5:=hO true 5
   have t6:=hO true 6
   have t8:=hO true 8
   have t9:=hO true 9
   have t10:=hO true 10
   have t11:=hO true 11
   have t12:=hO true 12
   have e7:=hO false 7
   simp only[qcmp] at t0 t1 t2 t3 t4 t5 t6 t8 t9 t10 t11 t12 e7
   clear hO
   simp (maxSteps:=9^7) only[↓wt_q,↓wt_b,t0,t1,t2,t3,t4,t5,↓qpre,aAb,aAe,aAc,t6,m0,m1']
   refine aBp rfl (fun w=>aKx _ w) ?_
   simp (maxSteps:=9^7) only[↓aAl,e7,aAb,aAc]
   refine aMb rfl rfl (HLK.out _ (Below.refl _ _).drew) ⟨hT _ (Below.refl _ _).drew,?_⟩
   simp (maxSteps:=9^7) only[↓wt_q,t8,t9,t10,t11,t12,↓qpre,aAb,aAc]
   refine hQ _ _ ?_
   clear hQ hT hT' t0 t1 t2 t3 t4 t5 t6 t8 t9 t10 t11 t12 e7 m0 m1'
   have HBW2:Hid (Below w.heap.size w U.drew):=HBW.out.drew
   have HZU2:Hid (U.drew.heap[w.heap.size+1]? = some (.cells #[.string ⟨#[]⟩,.bool false,.string ⟨#[]⟩] 48 (0,0))):=HZU
   have HCS2:Hid (U.drew.heap[s]? = some (.cells #[.slice A n c,.map (some m1),.map (some m2)] 214 (0,0))):=HCS'
   have HF2:=hid (fun p=>HF.out U.drew HBU.out.drew p)
   clear HLK HM1' HBW HZU HCS' HBX'
   generalize U.drew=X at *
   cases hs:sendL base side L f.path with
   | none=>
    simp only[Option.isSome_none,Option.getD_none]
    have HWL:=hid (show whereL base side L f=none by unfold whereL;rw[ho,hs];rfl)
    clear ho hs
    have hz:=aHn X
    have HR:=hid (setRow_heap X _ _ #[.string ⟨#[]⟩,.bool false,.string ⟨#[]⟩] _ _ HZU2.out)
    have HB9:=hid (aAj (cs:=#[.string ⟨#[]⟩,.bool false,.string ⟨#[]⟩]) HBW2.out (Nat.le_succ w.heap.size))
    go_wp2_with (refine wpList_store_row rfl 48 (.tmp 4) (.tmp 35) rfl (w.heap.size+1) #[.string ⟨#[]⟩,.bool false,.string ⟨#[]⟩] rfl rfl _ _ HZU2.out hi24 rfl (by simp[Value.oneCell']) ?_)
    try simp only[Exit.inBlock,Exit.then]
    refine bodyPost_ret (aAm rfl _ _ (w.heap.size+1) _ _ (0,0) _ rfl HR.out Tryz.underlying48 rfl (by kernel_rfl)) rfl ?_
    exact ⟨by rw[HWL.out];rfl,HB9.out⟩
   | some d=>
    simp only[Option.isSome_some,Option.getD_some]
    have HWL:=hid (show whereL base side L f=findP side d by unfold whereL;rw[ho,hs];rfl)
    clear ho hs
    have c0:X.cell? ⟨s,0,none⟩=some (.slice A n c):=by rw[Lib.cell_of_heap HCS2.out];rfl
    have KF:=HF2.out d
    go_wp2_with fail
    refine KF.mono ?_
    rintro e x1 ⟨rfl,hbx⟩
    clear KF c0
    have HZ3:=hid ((hbx.block _ (aAa HZU2.out)).trans HZU2.out)
    have HB3:=hid (HBW2.out.trans (hbx.mono HBW2.out.size))
    clear hbx
    have HR:=hid (setRow_heap x1 _ _ #[.string (optF (findP side d)).path,.bool (optF (findP side d)).exec,.string (optF (findP side d)).text] _ _ HZ3.out)
    have HB9:=hid (aAj (cs:=#[.string (optF (findP side d)).path,.bool (optF (findP side d)).exec,.string (optF (findP side d)).text]) HB3.out (Nat.le_succ w.heap.size))
    go_wp2_with (refine wpList_store_row rfl 48 (.tmp 4) (.tmp 42) rfl (w.heap.size+1) #[.string (optF (findP side d)).path,.bool (optF (findP side d)).exec,.string (optF (findP side d)).text] rfl rfl _ _ HZ3.out hi24 rfl (by simp[Value.oneCell']) ?_)
    try simp only[Exit.inBlock,Exit.then]
    refine bodyPost_ret (aAm rfl _ _ (w.heap.size+1) _ _ (0,0) _ rfl HR.out Tryz.underlying48 rfl (by kernel_rfl)) rfl ?_
    exact ⟨by rw[HWL.out];rfl,HB9.out⟩
def cmpC (x y:CL):Int:=cmpS x.path y.path
def leC (x y:CL):Bool:=decide (x.path.data.toList<=y.path.data.toList)
theorem aFi {x y:CL}:leC x y=false↔cmpC y x<0:=by
 unfold leC cmpC
 rw[aGg,decide_eq_false_iff_not]
 exact Decidable.not_not
theorem aKv {x y:CL}:leC x y=true↔¬cmpC y x<0:=by
 rw[<-aFi];simp
theorem aCc (x:CL):leC x x=true:=decide_eq_true (List.le_refl _)
theorem aAz (x y z:CL)(h1:leC x y=true)(h2:leC y z=true):leC x z=true:=decide_eq_true (List.le_trans (of_decide_eq_true h1) (of_decide_eq_true h2))
theorem aHp (x y:CL):leC x y=true\/leC y x=true:=by
 rcases List.le_total x.path.data.toList y.path.data.toList with h | h
 ·exact .inl (decide_eq_true h)
 exact .inr (decide_eq_true h)
theorem aXa (l:List CL):sortC l=ssort leC l:=by
 unfold sortC ssort
 congr 1
 funext out c
 rw[bHj];rfl
def IntB (k:Int)(w:World)(e:Ending) (w':World):Prop:=e=.returned (.int .i64 k)/\Below w.heap.size w w'
def aggC (c:CL):Value:=.agg #[.string c.path,.int .i64 c.kind,.string c.text]
theorem aLa {x y:CL}{w:World}:Calls Tryz.prog 137 #[.agg #[.string x.path,.int .i64 x.kind,.string x.text],.agg #[.string y.path,.int .i64 y.kind,.string y.text]] w (IntB (cmpC x y) w):=by
 obtain ⟨V,eV⟩:∃V,V=(w.alloc (.cells #[.string x.path,.int .i64 x.kind,.string x.text] 94)).alloc (.cells #[.string y.path,.int .i64 y.kind,.string y.text] 94):=⟨_,rfl⟩
 have hb1:Below w.heap.size w (w.alloc (.cells #[.string x.path,.int .i64 x.kind,.string x.text] 94)):=(Below.refl _ _).alloc (Nat.le_refl _) _
 have hb2:Below (w.alloc (.cells #[.string x.path,.int .i64 x.kind,.string x.text] 94)).heap.size (w.alloc (.cells #[.string x.path,.int .i64 x.kind,.string x.text] 94)) V:=by rw[eV];exact (Below.refl _ _).alloc (Nat.le_refl _) _
 have HB:=hid (hb1.trans (hb2.mono hb1.size))
 have c0:V.cell? ⟨w.heap.size,0,none⟩=some (.string x.path):=by rw[Lib.cell_of_heap ((hb2.block w.heap.size (by simp)).trans (heap_alloc_new w _))];rfl
 have c1:V.cell? ⟨w.heap.size+1,0,none⟩=some (.string y.path):=by
  have:=heap_alloc_new (w.alloc (.cells #[.string x.path,.int .i64 x.kind,.string x.text] 94)) (.cells #[.string y.path,.int .i64 y.kind,.string y.text] 94)
  rw[<-eV] at this
  rw[Lib.cell_of_heap (b:=w.heap.size+1) (by simpa using this)];rfl
 have K:=aFn (a:=x.path) (b:=y.path) (w:=V)
 clear hb1 hb2
 go_enter Tryz.func137,Tryz.ntmps137
 rw[eV] at c0 c1 K HB
 go_wp2_with fail
 refine K.mono ?_
 rintro e w1 ⟨rfl,rfl⟩
 clear K c0 c1
 go_wp2
 go_ret
 exact ⟨rfl,HB.out⟩
theorem aUr {α:Type}{le:α->α->Bool}{d:List α}{u v:Nat}(h:v<=u+1):SegAs d d u v (ssort le (segL d u v)):=by
 have hl:(segL d u v).length<=1:=by unfold segL;rw[List.length_drop,List.length_take];omega
 have e:ssort le (segL d u v)=segL d u v:=by
  generalize segL d u v=l at hl
  match l,hl with
  | [],_=>rfl
  | [x],_=>simp[ssort]
 rw[e]
 exact SegAs.refl d u v
theorem aYz {α:Type}{d:List α}{j i:Nat}(h:j<=i)(hi:i<d.length):(rotL d j i (i+1))[j]? = d[i]?:=by
 rw[(aCb h (Nat.le_succ i) hi).at_,if_pos (by omega)];congr 1;omega
theorem aQv {w:World}{g cap a b:Nat}{cs:List CL}(h:RowC w g cap cs)(hab:a<=b)(hbn:b<=cs.length) :
  Calls Tryz.prog 199 #[.slice (some ⟨g,0,none⟩) cs.length cap,.int .i64 a,.int .i64 b,.func (.func 137) #[] #[]] w (RowTo (fun cs'=>SegAs cs cs' a b (ssort leC (segL cs a b))) g cap w):=by
 have HC:=hid (show cs.length<=1000000 from h.few)
 have hcl:cs.length<=1000000:=HC.out
 go_enter Tryz.func199,Tryz.ntmps199
 go_wp2
 go_loopw[8] (fun iv wr=>∃i:Nat,a+1<=i/\i<=max (a+1) b/\iv=.int .i64 i/\∃cs',Hid (SegAs cs cs' a (min i b) (ssort leC (segL cs a (min i b))))/\Hid (RowC wr g cap cs')/\Hid (w.grownBy wr (some g))) (fun i _=>b-(intOf i).toNat)
 case atStart=>exact ⟨a+1,Nat.le_refl _,Nat.le_max_left _ _,by go_num,cs,hid (aUr (by omega)),hid h,hid (World.grownBy.refl w _)⟩
 obtain ⟨i,hi1,hi2,rfl,cs',HR,HW,HG⟩:=hrel
 by_cases hlt:i<b
 ·have hl:cs'.length=cs.length:=HR.out.len
  have HL:=hid hl
  have HS:Hid (SegAs cs cs' a i (ssort leC (segL cs a i))):=by have:=HR.out;rwa [Nat.min_eq_left (by omega)] at this
  clear HR hl
  go_wp2
  go_loopw[9] (fun jv wr=>∃j:Nat,a<=j/\j<=i/\jv=.int .i64 j/\Hid (RowC wr g cap (rotL cs' j i (i+1)))/\Hid (w.grownBy wr (some g))/\Hid (j=i\/∀x y,cs'[j]? = some x->cs'[i]? = some y->leC x y=false)) (fun j _=>(intOf j).toNat)
  case atStart=>exact ⟨i,by omega,Nat.le_refl _,rfl,by rw[aDx (Nat.le_refl _) (Nat.le_succ _) (by have:=HL.out;omega) (.inl rfl)];exact HW,HG,hid (.inl rfl)⟩
  obtain ⟨j,hj1,hj2,rfl,HW2,HG2,HT⟩:=hrel
  clear HW HG
  have HWX:=hid HW2.out
  have hlt2:i<cs'.length:=by have:=HL.out;omega
  have hdl:(rotL cs' j i (i+1)).length=cs'.length:=aGo hj2 (Nat.le_succ i) hlt2
  have HDL:=hid hdl
  have HLT2:=hid hlt2
  by_cases hja:j=a
  ·subst hja
   have HN:Hid (SegAs cs (rotL cs' j i (i+1)) j (min (i+1) b) (ssort leC (segL cs j (min (i+1) b)))):=by
    rw[Nat.min_eq_left (by omega)]
    exact aNs (by have:=HL.out;omega) (by omega) HS.out (aMp aCc aAz hlt2 (Nat.le_refl _) hj2 (aEk (by rw[HS.out.here];exact aJi aAz aHp _)) (.inl rfl) (by rcases HT.out with h | h;exact .inl h;exact .inr h))
   have T1:decide ((j:Int) > (j:Int))=false:=by simp
   clear hlt2 hdl
   go_wp2
   refine aAh (fun _=>True) [(true,0),(true,1),(true,2),(true,3),(true,4),(true,5),(true,6),(true,7),(true,8),(true,9),(true,10),(true,11),(true,12),(true,13),(false,14),(true,15),(true,16)] mixed (by kernel_rfl) trivial ?_
   intro T M Q hT hT' hM hQ
   clear hM
   simp only[qcmp]
   simp (maxSteps:=9^7) only[↓qpre,aAb,aAc,T1]
   refine hQ _ _ ?_
   clear hQ hT hT' T1 HW2 HT HS
   have HGD:=hid (HG2.out.trans (show wr.grownBy wr.drew (some g) from ⟨rfl,rfl,rfl,Nat.le_refl _,fun _ _ _=>rfl⟩))
   have HWD:=hid (HWX.out.same (w':=wr.drew) rfl)
   go_wp2
   go_roundw
   case rel=>exact ⟨i+1,by omega,by omega,by go_num,_,HN,HWD,HGD⟩
   simp[intOf];omega
  obtain ⟨k,rfl⟩:∃k,j=k+1:=⟨j-1,by omega⟩
  obtain ⟨y,hy,y0,y1,y2⟩:=HW2.out.get (k:=k+1) (by omega)
  obtain ⟨x,hx,x0,x1,x2⟩:=HW2.out.get (k:=k) (by omega)
  have HY:=hid hy
  have HX:=hid hx
  have HY':Hid (cs'[i]? = some y):=by rw[<-aYz hj2 hlt2];exact hy
  have HX':Hid (cs'[k]? = some x):=by rw[<-aDm hj2 (Nat.le_succ i) hlt2 (t:=k) (.inl (Nat.lt_succ_self k))];exact hx
  have T1:decide (((k+1:Nat):Int) > (a:Int))=true:=decide_eq_true (by omega)
  have T2:((k+1:Nat):Int).toNat=k+1:=rfl
  have T3:(((k+1:Nat):Int)-1).toNat=k:=by omega
  have KC:∀u,Calls Tryz.prog 137 #[.agg #[.string y.path,.int .i64 y.kind,.string y.text],.agg #[.string x.path,.int .i64 x.kind,.string x.text]] u (IntB (cmpC y x) u):=fun u=>aLa
  have HDI:=hid (show i<(rotL cs' (k+1) i (i+1)).length by omega)
  clear hlt2 hdl hx hy
  go_wp2
  refine aAh (fun u=>Below wr.heap.size wr u) [(true,0),(true,1),(true,2),(true,3),(true,4),(true,5),(true,6),(true,7),(true,8),(true,9),(true,10),(true,11),(true,12),(true,13),(false,14),(true,15),(true,16)] mixed (by kernel_rfl) (Below.refl _ _).drew ?_
  intro T M Q hT hT' hM hQ
  have hgl:=HW2.out.lt
  have m0:M ⟨g,(k+1)*3,none⟩=some (.string y.path):=hM _ _ fun w' hw=>(hw.cell (p:=⟨g,(k+1)*3,none⟩) hgl).trans y0
  have m1:M ⟨g,(k+1)*3+1,none⟩=some (.int .i64 y.kind):=hM _ _ fun w' hw=>(hw.cell (p:=⟨g,(k+1)*3+1,none⟩) hgl).trans y1
  have m2:M ⟨g,(k+1)*3+2,none⟩=some (.string y.text):=hM _ _ fun w' hw=>(hw.cell (p:=⟨g,(k+1)*3+2,none⟩) hgl).trans y2
  have m3:M ⟨g,k*3,none⟩=some (.string x.path):=hM _ _ fun w' hw=>(hw.cell (p:=⟨g,k*3,none⟩) hgl).trans x0
  have m4:M ⟨g,k*3+1,none⟩=some (.int .i64 x.kind):=hM _ _ fun w' hw=>(hw.cell (p:=⟨g,k*3+1,none⟩) hgl).trans x1
  have m5:M ⟨g,k*3+2,none⟩=some (.string x.text):=hM _ _ fun w' hw=>(hw.cell (p:=⟨g,k*3+2,none⟩) hgl).trans x2
  clear hM
  simp only[qcmp]
  simp (maxSteps:=9^7) only[↓qpre,aAb,aAe,aAc,m0,m1,m2,m3,m4,m5,T1,T2,T3]
  (repeat refine And.intro (by first|omega|(unfold inI64;omega)) ?_)
  refine aAi (by kernel_rfl) (KC wr.drew) rfl rfl ?_
  rintro e w3 ⟨rfl,hb3⟩
  have hb3':Below wr.heap.size wr w3:=(Below.refl wr.heap.size wr).drew.trans hb3
  refine ⟨_,rfl,hT _ hb3',?_⟩
  have HW3:=hid (HW2.out.below hb3')
  have HG4:=hid (HG2.out.trans ((aAo hb3').but (some g)))
  replace x0:=(hb3'.cell (p:=⟨g,k*3,none⟩) hgl).trans x0
  replace x1:=(hb3'.cell (p:=⟨g,k*3+1,none⟩) hgl).trans x1
  replace x2:=(hb3'.cell (p:=⟨g,k*3+2,none⟩) hgl).trans x2
  replace y0:=(hb3'.cell (p:=⟨g,(k+1)*3,none⟩) hgl).trans y0
  replace y1:=(hb3'.cell (p:=⟨g,(k+1)*3+1,none⟩) hgl).trans y1
  replace y2:=(hb3'.cell (p:=⟨g,(k+1)*3+2,none⟩) hgl).trans y2
  generalize hz:cmpC y x=z
  have HZ:=hid hz
  clear hb3 hb3' KC hz
  simp (maxSteps:=9^7) only[↓qpre,aAb,aAc]
  refine hQ _ _ ?_
  clear hQ hT hT' m0 m1 m2 m3 m4 m5 T1 HW2 HG2
  by_cases hz0:z<0
  ·have HLT:Hid (cmpC y x<0):=by rw[HZ.out];exact hz0
   rw[decide_eq_true hz0]
   clear hz0
   go_wp2
   refine aAv (fun _=>True) (.q 0 (.q 1 (.q 2 (.q 3 (.q 4 (.q 5 (.q 6 (.q 7 (.q 8 (.q 10 (.q 11 (.q 12 (.two 9 (.one 13 (.q 14 (.one 15 (.q 16 (.one 17 .leaf))))) 13 (.one 9 (.q 14 (.one 15 (.q 16 (.one 17 .leaf)))))))))))))))))) mixed (by kernel_rfl) trivial ?_
   intro T M Q hT hT' hM hQ
   clear hM
   refine aDy ?_
   intro O hO
   have t0:=hO true 0
   have t1:=hO true 1
   have t2:=hO true 2
   have t3:=hO true 3
   have t4:=hO true 4
   have t5:=hO true 5
   have t6:=hO true 6
   have t7:=hO true 7
   have t8:=hO true 8
   have t10:=hO true 10
   have t11:=hO true 11
   have t12:=hO true 12
   have t14:=hO true 14
   have t16:=hO true 16
   have e9:=hO false 9
   have e13:=hO false 13
   have e15:=hO false 15
   have e17:=hO false 17
   simp only[qcmp] at t0 t1 t2 t3 t4 t5 t6 t7 t8 t10 t11 t12 t14 t16 e9 e13 e15 e17
   clear hO
   simp (maxSteps:=9^7) only[↓wt_q,↓aBb,t0,t1,t2,t3,t4,t5,t6,t7,t8,t10,t11,t12,e9,e13,↓qpre,aAb,aAe,aAc,T2,T3]
   (repeat refine And.intro (by first|omega|(unfold inI64;omega)) ?_)
   refine ⟨?o1,?o2⟩
   case' o1=>
    refine aCv fun N hN=>?_
    have n0:=hN _ _ x0
    have n1:=hN _ _ x1
    have n2:=hN _ _ x2
    simp (maxSteps:=9^7) only[↓aAl,e13,↓qpre,aAb,aAe,aAc,n0,n1,n2]
    clear n0 n1 n2 hN
    refine ⟨hT _ trivial,?_⟩
    try simp (maxSteps:=9^7) only[↓wt_q,↓aAl,↓aBb,t0,t1,t2,t3,t4,t5,t6,t7,t8,t10,t11,t12,t14,t16,e9,e13,e15,e17,↓qpre,aAb,aAe,aAc,T2,T3]
    refine aCv fun N hN=>?_
    have n0:=hN _ _ y0
    have n1:=hN _ _ y1
    have n2:=hN _ _ y2
    simp (maxSteps:=9^7) only[↓wt_q,↓aAl,t14,e15,↓qpre,aAb,aAe,aAc,T2,n0,n1,n2]
    clear n0 n1 n2 hN
    refine ⟨hT _ trivial,?_⟩
    try simp (maxSteps:=9^7) only[↓wt_q,↓aAl,↓aBb,t0,t1,t2,t3,t4,t5,t6,t7,t8,t10,t11,t12,t14,t16,e9,e13,e15,e17,↓qpre,aAb,aAe,aAc,T2,T3]
    (repeat refine And.intro (by first|omega|(unfold inI64;omega)) ?_)
    refine aAu (cs:=(rotL cs' (k+1) i (i+1))) (k:=k+1) (c:=x) (HW3.out.same (w':=w3.drew) rfl) (by have:=HDI.out;omega) rfl rfl rfl ?_
    intro u1 hu1 hg1
    refine ⟨hT _ trivial,?_⟩
    try simp (maxSteps:=9^7) only[↓wt_q,↓aAl,t16,e17,↓qpre,aAb,aAe,aAc,T3]
    (repeat refine And.intro (by first|omega|(unfold inI64;omega)) ?_)
    refine aAu (cs:=(rotL cs' (k+1) i (i+1)).set (k+1) x) (k:=k) (c:=y) hu1 (by rw[List.length_set];have:=HDI.out;omega) rfl rfl rfl ?_
    intro u2 hu2 hg2
    refine ⟨hT _ trivial,?_⟩
    try simp (maxSteps:=9^7) only[aAb]
    refine hQ _ _ ?_
   case' o2=>
    refine aCv fun N hN=>?_
    have n0:=hN _ _ y0
    have n1:=hN _ _ y1
    have n2:=hN _ _ y2
    simp (maxSteps:=9^7) only[↓aAl,e9,↓qpre,aAb,aAe,aAc,n0,n1,n2]
    clear n0 n1 n2 hN
    refine ⟨hT _ trivial,?_⟩
    try simp (maxSteps:=9^7) only[↓wt_q,↓aAl,↓aBb,t0,t1,t2,t3,t4,t5,t6,t7,t8,t10,t11,t12,t14,t16,e9,e13,e15,e17,↓qpre,aAb,aAe,aAc,T2,T3]
    refine aCv fun N hN=>?_
    have n0:=hN _ _ x0
    have n1:=hN _ _ x1
    have n2:=hN _ _ x2
    simp (maxSteps:=9^7) only[↓wt_q,↓aAl,t14,e15,↓qpre,aAb,aAe,aAc,T2,n0,n1,n2]
    clear n0 n1 n2 hN
    refine ⟨hT _ trivial,?_⟩
    try simp (maxSteps:=9^7) only[↓wt_q,↓aAl,↓aBb,t0,t1,t2,t3,t4,t5,t6,t7,t8,t10,t11,t12,t14,t16,e9,e13,e15,e17,↓qpre,aAb,aAe,aAc,T2,T3]
    (repeat refine And.intro (by first|omega|(unfold inI64;omega)) ?_)
    refine aAu (cs:=(rotL cs' (k+1) i (i+1))) (k:=k+1) (c:=x) (HW3.out.same (w':=w3.drew) rfl) (by have:=HDI.out;omega) rfl rfl rfl ?_
    intro u1 hu1 hg1
    refine ⟨hT _ trivial,?_⟩
    try simp (maxSteps:=9^7) only[↓wt_q,↓aAl,t16,e17,↓qpre,aAb,aAe,aAc,T3]
    (repeat refine And.intro (by first|omega|(unfold inI64;omega)) ?_)
    refine aAu (cs:=(rotL cs' (k+1) i (i+1)).set (k+1) x) (k:=k) (c:=y) hu1 (by rw[List.length_set];have:=HDI.out;omega) rfl rfl rfl ?_
    intro u2 hu2 hg2
    refine ⟨hT _ trivial,?_⟩
    try simp (maxSteps:=9^7) only[aAb]
    refine hQ _ _ ?_
   all_goals clear hQ hT hT' t0 t1 t2 t3 t4 t5 t6 t7 t8 t10 t11 t12 t14 t16 e9 e13 e15 e17
   all_goals
    have HW5:=hid (show RowC u2 g cap (rotL cs' k i (i+1)) by rw[<-aXc (by omega) HLT2.out (aGj HY.out HX.out)];exact hu2)
    have HG5:=hid (((HG4.out.trans (show w3.grownBy w3.drew (some g) from ⟨rfl,rfl,rfl,Nat.le_refl _,fun _ _ _=>rfl⟩)).trans hg1).trans hg2)
    have HT5:=hid (show k=i\/∀x y,cs'[k]? = some x->cs'[i]? = some y->leC x y=false from .inr fun p q hp hq=>by rw[HX'.out] at hp;rw[HY'.out] at hq;cases hp;cases hq;exact aFi.2 HLT.out)
    clear hu1 hg1 hu2 hg2 HW3 HG4 x0 x1 x2 y0 y1 y2
    go_wp2
    go_roundw
    case rel=>exact ⟨k,by omega,by omega,by go_num,HW5,HG5,HT5⟩
    simp[intOf]
  have HN:Hid (SegAs cs (rotL cs' (k+1) i (i+1)) a (min (i+1) b) (ssort leC (segL cs a (min (i+1) b)))):=by
   rw[Nat.min_eq_left (by omega)]
   exact aNs (by have:=HL.out;omega) (by omega) HS.out (aMp aCc aAz HLT2.out hj1 hj2 (aEk (by rw[HS.out.here];exact aJi aAz aHp _)) (.inr fun p q hp hq=>by
    rw[Nat.add_sub_cancel,HX'.out] at hp;rw[HY'.out] at hq;cases hp;cases hq;exact aKv.2 (by rw[HZ.out];exact hz0)) (by rcases HT.out with h | h;exact .inl h;exact .inr h))
  rw[decide_eq_false hz0]
  clear hz0 HS x0 x1 x2 y0 y1 y2 HT
  go_wp2
  go_roundw
  case rel=>exact ⟨i+1,by omega,by omega,by go_num,_,HN,HW3,HG4⟩
  simp[intOf];omega
 have HN:Hid (SegAs cs cs' a b (ssort leC (segL cs a b))):=by
  have:=HR.out
  rcases Nat.lt_or_ge b i with h | h
  ·rwa [Nat.min_eq_right (by omega)] at this
  rwa [Nat.min_eq_left (by omega),show i=b by omega] at this
 clear HR
 go_wp2
 refine bodyPost_end (results_none rfl _ _ _) rfl ?_
 exact ⟨rfl,cs',HN.out,HW.out,HG.out⟩
theorem Rot.lenEq {α:Type}{d F:List α}{m i j:Nat}(h:Rot d F m i j):d.length=F.length:=h.len.symm
theorem aZc {w:World}{g cap a m b:Nat}{cs:List CL}{f:Value}(h:RowC w g cap cs)(ham:a<m)(hmb:m<b)(hbn:b<=cs.length) :
  Calls Tryz.prog 232 #[.slice (some ⟨g,0,none⟩) cs.length cap,.int .i64 a,.int .i64 m,.int .i64 b,f] w (RowTo (fun cs'=>cs'=rotL cs a m b) g cap w):=by
 have HC:=hid (show cs.length<=1000000 from h.few)
 have hcl:cs.length<=1000000:=HC.out
 have HF:=hid (aGo (d:=cs) (by omega:a<=m) (by omega:m<=b) hbn)
 have HR0:=hid (aCb (d:=cs) (by omega:a<=m) (by omega:m<=b) hbn)
 generalize rotL cs a m b=F at *
 go_enter Tryz.func232,Tryz.ntmps232
 go_wp2
 go_loopw[10,11] (fun iv jv wr=>∃i j:Nat,1<=i/\1<=j/\i<=m/\m+j<=cs.length/\iv=.int .i64 i/\jv=.int .i64 j/\∃cs',Hid (Rot cs' F m i j)/\Hid (RowC wr g cap cs')/\Hid (w.grownBy wr (some g))) (fun i j _=>(intOf i).toNat+(intOf j).toNat)
 case atStart=>exact ⟨m-a,b-m,by omega,by omega,by omega,by omega,by go_num,by go_num,cs,HR0,hid h,hid (World.grownBy.refl w _)⟩
 obtain ⟨i,j,hi1,hj1,him,hmj,rfl,rfl,cs',HR,HW,HG⟩:=hrel
 have HL:=hid (show cs'.length=cs.length by rw[HR.out.lenEq,HF.out])
 rcases Nat.lt_trichotomy i j with hij | hij | hij
 ·have K:=aEf (a:=m-i) (b:=m+j-i) (n:=i) (f:=f) HW.out (by omega) (by rw[HL.out];omega)
  rw[HL.out,show ((m-i:Nat):Int)=(m:Int)-i by omega,show ((m+j-i:Nat):Int)=(m:Int)+j-i by omega] at K
  go_wp2_with fail
  refine K.mono ?_
  rintro e w1 ⟨rfl,cs2,hra,hw1,hg1⟩
  have HR1:=hid (HR.out.right hij hra)
  have HW1:=hid hw1
  have HG1:=hid (HG.out.trans hg1)
  clear K hra hw1 hg1 HR HW HG
  go_wp2
  go_roundw
  case rel=>exact ⟨i,j-i,by omega,by omega,by omega,by omega,by go_num,by go_num,cs2,HR1,HW1,HG1⟩
  simp[intOf];omega
 ·subst hij
  have K:=aEf (a:=m-i) (b:=m) (n:=i) (f:=f) HW.out (by omega) (by rw[HL.out];omega)
  rw[HL.out,show ((m-i:Nat):Int)=(m:Int)-i by omega] at K
  go_wp2_with fail
  refine K.mono ?_
  rintro e w1 ⟨rfl,cs2,hra,hw1,hg1⟩
  have HR1:=hid (HR.out.done hra)
  have HW1:=hid hw1
  have HG1:=hid (HG.out.trans hg1)
  clear K hra hw1 hg1 HR HW HG
  go_wp2
  refine bodyPost_end (results_none rfl _ _ _) rfl ?_
  exact ⟨rfl,cs2,HR1.out.symm,HW1.out,HG1.out⟩
 have K:=aEf (a:=m-i) (b:=m) (n:=j) (f:=f) HW.out (by omega) (by rw[HL.out];omega)
 rw[HL.out,show ((m-i:Nat):Int)=(m:Int)-i by omega] at K
 go_wp2_with fail
 refine K.mono ?_
 rintro e w1 ⟨rfl,cs2,hra,hw1,hg1⟩
 have HR1:=hid (HR.out.left hij hra)
 have HW1:=hid hw1
 have HG1:=hid (HG.out.trans hg1)
 clear K hra hw1 hg1 HR HW HG
 go_wp2
 go_roundw
 case rel=>exact ⟨i-j,j,by omega,by omega,by omega,by omega,by go_num,by go_num,cs2,HR1,HW1,HG1⟩
 simp[intOf];omega
end Go.Proofs.YtohblmepajhpaaaGreatDoor
