/- Texts of the walks, together: Walk: slices.symMergeCmpFunc of clashes. Walk: slices.symMergeCmpFunc of clashes, whole. Walks: symMerge, stableCmpFunc, SortStableFunc of clashes. Walk: slices.SortStableFunc of clashes. -/
import Derived.Test.YtohblmepajhpaaaGreatDoorG19
set_option maxHeartbeats 8000000
set_option maxRecDepth 100000
open Go.Lib (hid)
namespace Go.Proofs.YtohblmepajhpaaaGreatDoor
open Go.RowKit
def SymIs (w:World)(g cap a m b:Nat)(cs:List CL):Ending->World->Prop:=RowTo (fun cs'=>SegAs cs cs' a b (List.merge (segL cs a m) (segL cs m b) leC)) g cap w
theorem bGz {w:World}{g cap a b:Nat}{cs:List CL}(h:RowC w g cap cs)(hmb:a+1<b)(hbn:b<=cs.length)(hy:Asc leC cs (a+1) b) :
  Calls Tryz.prog 200 #[.slice (some ⟨g,0,none⟩) cs.length cap,.int .i64 a,.int .i64 ((a+1:Nat):Int),.int .i64 b,.func (.func 137) #[] #[]] w (SymIs w g cap a (a+1) b cs):=by
 have HC:=hid (show cs.length<=1000000 from h.few)
 have hcl:cs.length<=1000000:=HC.out
 have HY:=hid hy
 clear hy
 have T0:(((a+1:Nat):Int)-(a:Int) == 1)=true:=by rw[show ((a+1:Nat):Int)-(a:Int)=1 by omega];rfl
 go_enter Tryz.func200,Tryz.ntmps200
 go_wp2
 go_loopw[10,11] (fun iv jv wr=>∃i j:Nat,a+1<=i/\i<=j/\j<=b/\iv=.int .i64 i/\jv=.int .i64 j/\Hid (RowC wr g cap cs)/\Hid (w.grownBy wr (some g))/\Hid (i=a+1\/∀x y,cs[a]? = some x->cs[i-1]? = some y->leC x y=false)/\Hid (j=b\/∀x y,cs[a]? = some x->cs[j]? = some y->leC x y=true)) (fun i j _=>(intOf j).toNat-(intOf i).toNat)
 case atStart=>exact ⟨a+1,b,Nat.le_refl _,by omega,Nat.le_refl _,rfl,rfl,hid h,hid (World.grownBy.refl w _),hid (.inl rfl),hid (.inl rfl)⟩
 obtain ⟨i,j,hi1,hij,hjb,rfl,rfl,HW,HG,H1,H2⟩:=hrel
 by_cases hlt:i<j
 ·obtain ⟨c,hc⟩:∃c:Nat,((i:Int)+(j:Int)) / 2=(c:Int):=⟨(i+j) / 2,by omega⟩
  have hc1:i<=c:=by omega
  have hc2:c<j:=by omega
  have HCC:=hid hc
  have T1:((c:Nat):Int).toNat=c:=rfl
  have T2:((a:Nat):Int).toNat=a:=rfl
  clear hc
  have hgl:=HW.out.lt
  obtain ⟨y,hx,x0,x1,x2⟩:=HW.out.get (k:=c) (by omega)
  obtain ⟨x,hy,y0,y1,y2⟩:=HW.out.get (k:=a) (by omega)
  have KC:∀u,Calls Tryz.prog 137 #[.agg #[.string y.path,.int .i64 y.kind,.string y.text],.agg #[.string x.path,.int .i64 x.kind,.string x.text]] u (IntB (cmpC y x) u):=fun u=>aLa
  have HX:=hid hx
  have HYY:=hid hy
  clear hx hy
  go_wp2
  rw[HCC.out]
  refine aAh (fun u=>Below wr.heap.size wr u) [(true,0),(true,1),(true,2),(true,3),(true,4),(true,5),(true,6),(true,7),(true,8),(false,9),(true,10)] mixed (by kernel_rfl) (Below.refl _ _).drew ?_
  intro T M Q hT hT' hM hQ
  have m0:M ⟨g,(c)*3,none⟩=some (.string y.path):=hM _ _ fun w' hw=>(hw.cell (p:=⟨g,(c)*3,none⟩) hgl).trans x0
  have m1:M ⟨g,(c)*3+1,none⟩=some (.int .i64 y.kind):=hM _ _ fun w' hw=>(hw.cell (p:=⟨g,(c)*3+1,none⟩) hgl).trans x1
  have m2:M ⟨g,(c)*3+2,none⟩=some (.string y.text):=hM _ _ fun w' hw=>(hw.cell (p:=⟨g,(c)*3+2,none⟩) hgl).trans x2
  have m3:M ⟨g,(a)*3,none⟩=some (.string x.path):=hM _ _ fun w' hw=>(hw.cell (p:=⟨g,(a)*3,none⟩) hgl).trans y0
  have m4:M ⟨g,(a)*3+1,none⟩=some (.int .i64 x.kind):=hM _ _ fun w' hw=>(hw.cell (p:=⟨g,(a)*3+1,none⟩) hgl).trans y1
  have m5:M ⟨g,(a)*3+2,none⟩=some (.string x.text):=hM _ _ fun w' hw=>(hw.cell (p:=⟨g,(a)*3+2,none⟩) hgl).trans y2
  clear hM x0 x1 x2 y0 y1 y2
  simp only[qcmp]
  simp (maxSteps:=9^7) only[↓qpre,aAb,aAe,aAc,m0,m1,m2,m3,m4,m5,T1,T2]
  (repeat refine And.intro (by first|omega|(unfold inI64;omega)) ?_)
  refine aAi (by kernel_rfl) (KC wr.drew) rfl rfl ?_
  rintro e w3 ⟨rfl,hb3⟩
  have hb3':Below wr.heap.size wr w3:=(Below.refl wr.heap.size wr).drew.trans hb3
  refine ⟨_,rfl,hT _ hb3',?_⟩
  have HW3:=hid (HW.out.below hb3')
  have HG3:=hid (HG.out.trans ((aAo hb3').but (some g)))
  generalize hz:cmpC y x=z
  have HZ:=hid hz
  clear hb3 hb3' KC hz
  simp (maxSteps:=9^7) only[↓qpre,aAb,aAc]
  refine hQ _ _ ?_
  clear hQ hT hT' m0 m1 m2 m3 m4 m5 hgl HW HG
  by_cases hz0:z<0
  ·have H1':Hid (c+1=a+1\/∀x y,cs[a]? = some x->cs[c+1-1]? = some y->leC x y=false):=hid (.inr fun p q hp hq=>by rw[HYY.out] at hp;rw[Nat.add_sub_cancel,HX.out] at hq;cases hp;cases hq;exact aFi.2 (by rw[HZ.out];exact hz0))
   rw[decide_eq_true hz0]
   clear hz0 T1 T2
   go_wp2
   go_roundw
   case rel=>exact ⟨c+1,j,by omega,by omega,hjb,by go_num,rfl,HW3,HG3,H1',H2⟩
   simp[intOf];omega
  have H2':Hid (c=b\/∀x y,cs[a]? = some x->cs[c]? = some y->leC x y=true):=hid (.inr fun p q hp hq=>by rw[HYY.out] at hp;rw[HX.out] at hq;cases hp;cases hq;exact aKv.2 (by rw[HZ.out];exact hz0))
  rw[decide_eq_false hz0]
  clear hz0 T1 T2
  go_wp2
  go_roundw
  case rel=>exact ⟨i,c,hi1,by omega,by omega,rfl,rfl,HW3,HG3,H1,H2'⟩
  simp[intOf];omega
 have hie:i=j:=by omega
 subst hie
 clear hlt
 have HN:=hid (bGa aCc aAz hbn hi1 hjb HY.out (by rcases H2.out with h | h;exact .inl h;exact .inr h) (by rcases H1.out with h | h;exact .inl h;exact .inr h))
 clear H1 H2 HY
 go_wp2
 go_loopw[13] (fun kv wr=>∃k:Nat,a<=k/\k+1<=i/\kv=.int .i64 k/\Hid (RowC wr g cap (rotL cs a (a+1) (k+1)))/\Hid (w.grownBy wr (some g))) (fun k _=>i-(intOf k).toNat)
 case atStart=>exact ⟨a,Nat.le_refl _,hi1,rfl,by rw[aDx (Nat.le_succ a) (Nat.le_refl _) (by omega) (.inr rfl)];exact HW,HG⟩
 obtain ⟨k,hk1,hk2,rfl,HW,HG⟩:=hrel
 by_cases hlt:k+1<i
 ·have hdl:(rotL cs a (a+1) (k+1)).length=cs.length:=aGo (by omega) (by omega) (by omega)
  have HDL:=hid (show i<=(rotL cs a (a+1) (k+1)).length by omega)
  obtain ⟨x,hx,x0,x1,x2⟩:=HW.out.get (k:=k) (by omega)
  obtain ⟨y,hy,y0,y1,y2⟩:=HW.out.get (k:=k+1) (by omega)
  have HX:=hid hx
  have HY:=hid hy
  have T1:((k:Nat):Int).toNat=k:=rfl
  have T2:((k:Int)+1).toNat=k+1:=by omega
  clear hx hy hdl
  go_wp2
  refine aAv (fun _=>True) (.q 0 (.q 1 (.q 2 (.q 3 (.q 4 (.q 5 (.q 6 (.q 7 (.q 8 (.q 10 (.q 11 (.q 12 (.two 9 (.one 13 (.q 14 (.one 15 (.q 16 (.one 17 .leaf))))) 13 (.one 9 (.q 14 (.one 15 (.q 16 (.one 17 .leaf)))))))))))))))))) mixed (by kernel_rfl) trivial ?_
  intro T M Q hT hT' hM hQ
  clear hM
  refine aDy ?_
  intro O hO
  have t0:=hO true 0
  have t1:=hO true 1
  have t2:=hO true 2
  have t3:=hO true 3
  have t4:=hO true 4
  have t5:=hO true 5
  have t6:=hO true 6
  have t7:=hO true 7
  have t8:=hO true 8
  have t10:=hO true 10
  have t11:=hO true 11
  have t12:=hO true 12
  have t14:=hO true 14
  have t16:=hO true 16
  have e9:=hO false 9
  have e13:=hO false 13
  have e15:=hO false 15
  have e17:=hO false 17
  simp only[qcmp] at t0 t1 t2 t3 t4 t5 t6 t7 t8 t10 t11 t12 t14 t16 e9 e13 e15 e17
  clear hO
  simp (maxSteps:=9^7) only[↓wt_q,↓aBb,t0,t1,t2,t3,t4,t5,t6,t7,t8,t10,t11,t12,e9,e13,↓qpre,aAb,aAe,aAc,T1,T2]
  (repeat refine And.intro (by first|omega|(unfold inI64;omega)) ?_)
  refine ⟨?o1,?o2⟩
  case' o1=>
   refine aCv fun N hN=>?_
   have n0:=hN _ _ y0
   have n1:=hN _ _ y1
   have n2:=hN _ _ y2
   simp (maxSteps:=9^7) only[↓aAl,e13,↓qpre,aAb,aAe,aAc,n0,n1,n2]
   clear n0 n1 n2 hN
   refine ⟨hT _ trivial,?_⟩
   try simp (maxSteps:=9^7) only[↓wt_q,↓aAl,↓aBb,t0,t1,t2,t3,t4,t5,t6,t7,t8,t10,t11,t12,t14,t16,e9,e13,e15,e17,↓qpre,aAb,aAe,aAc,T1,T2]
   refine aCv fun N hN=>?_
   have n0:=hN _ _ x0
   have n1:=hN _ _ x1
   have n2:=hN _ _ x2
   simp (maxSteps:=9^7) only[↓wt_q,↓aAl,t14,e15,↓qpre,aAb,aAe,aAc,T1,n0,n1,n2]
   clear n0 n1 n2 hN
   refine ⟨hT _ trivial,?_⟩
   try simp (maxSteps:=9^7) only[↓wt_q,↓aAl,↓aBb,t0,t1,t2,t3,t4,t5,t6,t7,t8,t10,t11,t12,t14,t16,e9,e13,e15,e17,↓qpre,aAb,aAe,aAc,T1,T2]
   (repeat refine And.intro (by first|omega|(unfold inI64;omega)) ?_)
   refine aAu (cs:=(rotL cs a (a+1) (k+1))) (k:=k) (c:=y) (HW.out.same (w':=wr.drew) rfl) (by have:=HDL.out;omega) rfl rfl rfl ?_
   intro u1 hu1 hg1
   refine ⟨hT _ trivial,?_⟩
   try simp (maxSteps:=9^7) only[↓wt_q,↓aAl,t16,e17,↓qpre,aAb,aAe,aAc,T2]
   (repeat refine And.intro (by first|omega|(unfold inI64;omega)) ?_)
   refine aAu (cs:=(rotL cs a (a+1) (k+1)).set (k) y) (k:=k+1) (c:=x) hu1 (by rw[List.length_set];have:=HDL.out;omega) rfl rfl rfl ?_
   intro u2 hu2 hg2
   refine ⟨hT _ trivial,?_⟩
   try simp (maxSteps:=9^7) only[aAb]
   refine hQ _ _ ?_
  case' o2=>
   refine aCv fun N hN=>?_
   have n0:=hN _ _ x0
   have n1:=hN _ _ x1
   have n2:=hN _ _ x2
   simp (maxSteps:=9^7) only[↓aAl,e9,↓qpre,aAb,aAe,aAc,n0,n1,n2]
   clear n0 n1 n2 hN
   refine ⟨hT _ trivial,?_⟩
   try simp (maxSteps:=9^7) only[↓wt_q,↓aAl,↓aBb,t0,t1,t2,t3,t4,t5,t6,t7,t8,t10,t11,t12,t14,t16,e9,e13,e15,e17,↓qpre,aAb,aAe,aAc,T1,T2]
   refine aCv fun N hN=>?_
   have n0:=hN _ _ y0
   have n1:=hN _ _ y1
   have n2:=hN _ _ y2
   simp (maxSteps:=9^7) only[↓wt_q,↓aAl,t14,e15,↓qpre,aAb,aAe,aAc,T1,n0,n1,n2]
   clear n0 n1 n2 hN
   refine ⟨hT _ trivial,?_⟩
   try simp (maxSteps:=9^7) only[↓wt_q,↓aAl,↓aBb,t0,t1,t2,t3,t4,t5,t6,t7,t8,t10,t11,t12,t14,t16,e9,e13,e15,e17,↓qpre,aAb,aAe,aAc,T1,T2]
   (repeat refine And.intro (by first|omega|(unfold inI64;omega)) ?_)
   refine aAu (cs:=(rotL cs a (a+1) (k+1))) (k:=k) (c:=y) (HW.out.same (w':=wr.drew) rfl) (by have:=HDL.out;omega) rfl rfl rfl ?_
   intro u1 hu1 hg1
   refine ⟨hT _ trivial,?_⟩
   try simp (maxSteps:=9^7) only[↓wt_q,↓aAl,t16,e17,↓qpre,aAb,aAe,aAc,T2]
   (repeat refine And.intro (by first|omega|(unfold inI64;omega)) ?_)
   refine aAu (cs:=(rotL cs a (a+1) (k+1)).set (k) y) (k:=k+1) (c:=x) hu1 (by rw[List.length_set];have:=HDL.out;omega) rfl rfl rfl ?_
   intro u2 hu2 hg2
   refine ⟨hT _ trivial,?_⟩
   try simp (maxSteps:=9^7) only[aAb]
   refine hQ _ _ ?_
  all_goals clear hQ hT hT' t0 t1 t2 t3 t4 t5 t6 t7 t8 t10 t11 t12 t14 t16 e9 e13 e15 e17
  all_goals
   have HW5:=hid (show RowC u2 g cap (rotL cs a (a+1) (k+2)) by rw[<-bEq hk1 (by omega) (aGj HX.out HY.out)];exact hu2)
   have HG5:=hid (((HG.out.trans (show wr.grownBy wr.drew (some g) from ⟨rfl,rfl,rfl,Nat.le_refl _,fun _ _ _=>rfl⟩)).trans hg1).trans hg2)
   clear hu1 hg1 hu2 hg2 HW HG T1 T2 x0 x1 x2 y0 y1 y2
   go_wp2
   go_roundw
   case rel=>exact ⟨k+1,by omega,by omega,by go_num,HW5,HG5⟩
   simp[intOf];omega
 have hki:k+1=i:=by omega
 subst hki
 go_wp2
 refine bodyPost_ret (results_none rfl _ _ _) rfl ?_
 exact ⟨rfl,_,HN.out,HW.out,HG.out⟩
theorem bCn {w:World}{g cap a m:Nat}{cs:List CL}(h:RowC w g cap cs)(ham:a+1<m)(hbn:m<cs.length)(hx:Asc leC cs a m) :
  Calls Tryz.prog 200 #[.slice (some ⟨g,0,none⟩) cs.length cap,.int .i64 a,.int .i64 m,.int .i64 ((m+1:Nat):Int),.func (.func 137) #[] #[]] w (SymIs w g cap a m (m+1) cs):=by
 have HC:=hid (show cs.length<=1000000 from h.few)
 have hcl:cs.length<=1000000:=HC.out
 have HY:=hid hx
 clear hx
 go_enter Tryz.func200,Tryz.ntmps200
 go_wp2
 go_loopw[14,15] (fun iv jv wr=>∃i j:Nat,a<=i/\i<=j/\j<=m/\iv=.int .i64 i/\jv=.int .i64 j/\Hid (RowC wr g cap cs)/\Hid (w.grownBy wr (some g))/\Hid (i=a\/∀x y,cs[i-1]? = some x->cs[m]? = some y->leC x y=true)/\Hid (j=m\/∀x y,cs[j]? = some x->cs[m]? = some y->leC x y=false)) (fun i j _=>(intOf j).toNat-(intOf i).toNat)
 case atStart=>exact ⟨a,m,Nat.le_refl _,by omega,Nat.le_refl _,rfl,rfl,hid h,hid (World.grownBy.refl w _),hid (.inl rfl),hid (.inl rfl)⟩
 obtain ⟨i,j,hi1,hij,hjb,rfl,rfl,HW,HG,H1,H2⟩:=hrel
 by_cases hlt:i<j
 ·obtain ⟨c,hc⟩:∃c:Nat,((i:Int)+(j:Int)) / 2=(c:Int):=⟨(i+j) / 2,by omega⟩
  have hc1:i<=c:=by omega
  have hc2:c<j:=by omega
  have HCC:=hid hc
  have T1:((c:Nat):Int).toNat=c:=rfl
  have T2:((m:Nat):Int).toNat=m:=rfl
  clear hc
  have hgl:=HW.out.lt
  obtain ⟨y,hx,x0,x1,x2⟩:=HW.out.get (k:=m) (by omega)
  obtain ⟨x,hy,y0,y1,y2⟩:=HW.out.get (k:=c) (by omega)
  have KC:∀u,Calls Tryz.prog 137 #[.agg #[.string y.path,.int .i64 y.kind,.string y.text],.agg #[.string x.path,.int .i64 x.kind,.string x.text]] u (IntB (cmpC y x) u):=fun u=>aLa
  have HX:=hid hx
  have HYY:=hid hy
  clear hx hy
  go_wp2
  rw[HCC.out]
  refine aAh (fun u=>Below wr.heap.size wr u) [(true,0),(true,1),(true,2),(true,3),(true,4),(true,5),(true,6),(true,7),(true,8),(false,9),(true,10),(true,11)] mixed (by kernel_rfl) (Below.refl _ _).drew ?_
  intro T M Q hT hT' hM hQ
  have m0:M ⟨g,(m)*3,none⟩=some (.string y.path):=hM _ _ fun w' hw=>(hw.cell (p:=⟨g,(m)*3,none⟩) hgl).trans x0
  have m1:M ⟨g,(m)*3+1,none⟩=some (.int .i64 y.kind):=hM _ _ fun w' hw=>(hw.cell (p:=⟨g,(m)*3+1,none⟩) hgl).trans x1
  have m2:M ⟨g,(m)*3+2,none⟩=some (.string y.text):=hM _ _ fun w' hw=>(hw.cell (p:=⟨g,(m)*3+2,none⟩) hgl).trans x2
  have m3:M ⟨g,(c)*3,none⟩=some (.string x.path):=hM _ _ fun w' hw=>(hw.cell (p:=⟨g,(c)*3,none⟩) hgl).trans y0
  have m4:M ⟨g,(c)*3+1,none⟩=some (.int .i64 x.kind):=hM _ _ fun w' hw=>(hw.cell (p:=⟨g,(c)*3+1,none⟩) hgl).trans y1
  have m5:M ⟨g,(c)*3+2,none⟩=some (.string x.text):=hM _ _ fun w' hw=>(hw.cell (p:=⟨g,(c)*3+2,none⟩) hgl).trans y2
  clear hM x0 x1 x2 y0 y1 y2
  simp only[qcmp]
  simp (maxSteps:=9^7) only[↓qpre,aAb,aAe,aAc,m0,m1,m2,m3,m4,m5,T1,T2]
  (repeat refine And.intro (by first|omega|(unfold inI64;omega)) ?_)
  refine aAi (by kernel_rfl) (KC wr.drew) rfl rfl ?_
  rintro e w3 ⟨rfl,hb3⟩
  have hb3':Below wr.heap.size wr w3:=(Below.refl wr.heap.size wr).drew.trans hb3
  refine ⟨_,rfl,hT _ hb3',?_⟩
  have HW3:=hid (HW.out.below hb3')
  have HG3:=hid (HG.out.trans ((aAo hb3').but (some g)))
  generalize hz:cmpC y x=z
  have HZ:=hid hz
  clear hb3 hb3' KC hz
  simp (maxSteps:=9^7) only[↓qpre,aAb,aAc]
  refine hQ _ _ ?_
  clear hQ hT hT' m0 m1 m2 m3 m4 m5 hgl HW HG
  by_cases hz0:z<0
  ·have H2':Hid (c=m\/∀x y,cs[c]? = some x->cs[m]? = some y->leC x y=false):=hid (.inr fun p q hp hq=>by rw[HYY.out] at hp;rw[HX.out] at hq;cases hp;cases hq;exact aFi.2 (by rw[HZ.out];exact hz0))
   rw[decide_eq_true hz0]
   clear hz0 T1 T2
   go_wp2
   go_roundw
   case rel=>exact ⟨i,c,hi1,by omega,by omega,rfl,rfl,HW3,HG3,H1,H2'⟩
   simp[intOf];omega
  have H1':Hid (c+1=a\/∀x y,cs[c+1-1]? = some x->cs[m]? = some y->leC x y=true):=hid (.inr fun p q hp hq=>by rw[Nat.add_sub_cancel,HYY.out] at hp;rw[HX.out] at hq;cases hp;cases hq;exact aKv.2 (by rw[HZ.out];exact hz0))
  rw[decide_eq_false hz0]
  clear hz0 T1 T2
  go_wp2
  go_roundw
  case rel=>exact ⟨c+1,j,by omega,by omega,hjb,by go_num,rfl,HW3,HG3,H1',H2⟩
  simp[intOf];omega
 have hie:i=j:=by omega
 subst hie
 clear hlt
 have HN:=hid (aMp aCc aAz hbn hi1 hjb HY.out (by rcases H1.out with h | h;exact .inl h;exact .inr h) (by rcases H2.out with h | h;exact .inl h;exact .inr h))
 clear H1 H2 HY
 go_wp2
 go_loopw[17] (fun kv wr=>∃k:Nat,i<=k/\k<=m/\kv=.int .i64 k/\Hid (RowC wr g cap (rotL cs k m (m+1)))/\Hid (w.grownBy wr (some g))) (fun k _=>(intOf k).toNat)
 case atStart=>exact ⟨m,hjb,Nat.le_refl _,rfl,by rw[aDx (Nat.le_refl _) (Nat.le_succ m) (by omega) (.inl rfl)];exact HW,HG⟩
 obtain ⟨k,hk1,hk2,rfl,HW,HG⟩:=hrel
 by_cases hlt:i<k
 ·obtain ⟨k,rfl⟩:∃j,k=j+1:=⟨k-1,by omega⟩
  have hdl:(rotL cs (k+1) m (m+1)).length=cs.length:=aGo (by omega) (by omega) (by omega)
  have HDL:=hid (show m<(rotL cs (k+1) m (m+1)).length by omega)
  obtain ⟨x,hx,x0,x1,x2⟩:=HW.out.get (k:=k) (by omega)
  obtain ⟨y,hy,y0,y1,y2⟩:=HW.out.get (k:=k+1) (by omega)
  have HX:=hid hx
  have HY:=hid hy
  have T2:((k+1:Nat):Int).toNat=k+1:=rfl
  have T3:(((k+1:Nat):Int)-1).toNat=k:=by omega
  clear hx hy hdl
  go_wp2
  refine aAv (fun _=>True) (.q 0 (.q 1 (.q 2 (.q 3 (.q 4 (.q 5 (.q 6 (.q 7 (.q 8 (.q 10 (.q 11 (.q 12 (.two 9 (.one 13 (.q 14 (.one 15 (.q 16 (.one 17 .leaf))))) 13 (.one 9 (.q 14 (.one 15 (.q 16 (.one 17 .leaf)))))))))))))))))) mixed (by kernel_rfl) trivial ?_
  intro T M Q hT hT' hM hQ
  clear hM
  refine aDy ?_
  intro O hO
  have t0:=hO true 0
  have t1:=hO true 1
  have t2:=hO true 2
  have t3:=hO true 3
  have t4:=hO true 4
  have t5:=hO true 5
  have t6:=hO true 6
  have t7:=hO true 7
  have t8:=hO true 8
  have t10:=hO true 10
  have t11:=hO true 11
  have t12:=hO true 12
  have t14:=hO true 14
  have t16:=hO true 16
  have e9:=hO false 9
  have e13:=hO false 13
  have e15:=hO false 15
  have e17:=hO false 17
  simp only[qcmp] at t0 t1 t2 t3 t4 t5 t6 t7 t8 t10 t11 t12 t14 t16 e9 e13 e15 e17
  clear hO
  simp (maxSteps:=9^7) only[↓wt_q,↓aBb,t0,t1,t2,t3,t4,t5,t6,t7,t8,t10,t11,t12,e9,e13,↓qpre,aAb,aAe,aAc,T2,T3]
  (repeat refine And.intro (by first|omega|(unfold inI64;omega)) ?_)
  refine ⟨?o1,?o2⟩
  case' o1=>
   refine aCv fun N hN=>?_
   have n0:=hN _ _ x0
   have n1:=hN _ _ x1
   have n2:=hN _ _ x2
   simp (maxSteps:=9^7) only[↓aAl,e13,↓qpre,aAb,aAe,aAc,n0,n1,n2]
   clear n0 n1 n2 hN
   refine ⟨hT _ trivial,?_⟩
   try simp (maxSteps:=9^7) only[↓wt_q,↓aAl,↓aBb,t0,t1,t2,t3,t4,t5,t6,t7,t8,t10,t11,t12,t14,t16,e9,e13,e15,e17,↓qpre,aAb,aAe,aAc,T2,T3]
   refine aCv fun N hN=>?_
   have n0:=hN _ _ y0
   have n1:=hN _ _ y1
   have n2:=hN _ _ y2
   simp (maxSteps:=9^7) only[↓wt_q,↓aAl,t14,e15,↓qpre,aAb,aAe,aAc,T2,n0,n1,n2]
   clear n0 n1 n2 hN
   refine ⟨hT _ trivial,?_⟩
   try simp (maxSteps:=9^7) only[↓wt_q,↓aAl,↓aBb,t0,t1,t2,t3,t4,t5,t6,t7,t8,t10,t11,t12,t14,t16,e9,e13,e15,e17,↓qpre,aAb,aAe,aAc,T2,T3]
   (repeat refine And.intro (by first|omega|(unfold inI64;omega)) ?_)
   refine aAu (cs:=(rotL cs (k+1) m (m+1))) (k:=k+1) (c:=x) (HW.out.same (w':=wr.drew) rfl) (by have:=HDL.out;omega) rfl rfl rfl ?_
   intro u1 hu1 hg1
   refine ⟨hT _ trivial,?_⟩
   try simp (maxSteps:=9^7) only[↓wt_q,↓aAl,t16,e17,↓qpre,aAb,aAe,aAc,T3]
   (repeat refine And.intro (by first|omega|(unfold inI64;omega)) ?_)
   refine aAu (cs:=(rotL cs (k+1) m (m+1)).set (k+1) x) (k:=k) (c:=y) hu1 (by rw[List.length_set];have:=HDL.out;omega) rfl rfl rfl ?_
   intro u2 hu2 hg2
   refine ⟨hT _ trivial,?_⟩
   try simp (maxSteps:=9^7) only[aAb]
   refine hQ _ _ ?_
  case' o2=>
   refine aCv fun N hN=>?_
   have n0:=hN _ _ y0
   have n1:=hN _ _ y1
   have n2:=hN _ _ y2
   simp (maxSteps:=9^7) only[↓aAl,e9,↓qpre,aAb,aAe,aAc,n0,n1,n2]
   clear n0 n1 n2 hN
   refine ⟨hT _ trivial,?_⟩
   try simp (maxSteps:=9^7) only[↓wt_q,↓aAl,↓aBb,t0,t1,t2,t3,t4,t5,t6,t7,t8,t10,t11,t12,t14,t16,e9,e13,e15,e17,↓qpre,aAb,aAe,aAc,T2,T3]
   refine aCv fun N hN=>?_
   have n0:=hN _ _ x0
   have n1:=hN _ _ x1
   have n2:=hN _ _ x2
   simp (maxSteps:=9^7) only[↓wt_q,↓aAl,t14,e15,↓qpre,aAb,aAe,aAc,T2,n0,n1,n2]
   clear n0 n1 n2 hN
   refine ⟨hT _ trivial,?_⟩
   try simp (maxSteps:=9^7) only[↓wt_q,↓aAl,↓aBb,t0,t1,t2,t3,t4,t5,t6,t7,t8,t10,t11,t12,t14,t16,e9,e13,e15,e17,↓qpre,aAb,aAe,aAc,T2,T3]
   (repeat refine And.intro (by first|omega|(unfold inI64;omega)) ?_)
   refine aAu (cs:=(rotL cs (k+1) m (m+1))) (k:=k+1) (c:=x) (HW.out.same (w':=wr.drew) rfl) (by have:=HDL.out;omega) rfl rfl rfl ?_
   intro u1 hu1 hg1
   refine ⟨hT _ trivial,?_⟩
   try simp (maxSteps:=9^7) only[↓wt_q,↓aAl,t16,e17,↓qpre,aAb,aAe,aAc,T3]
   (repeat refine And.intro (by first|omega|(unfold inI64;omega)) ?_)
   refine aAu (cs:=(rotL cs (k+1) m (m+1)).set (k+1) x) (k:=k) (c:=y) hu1 (by rw[List.length_set];have:=HDL.out;omega) rfl rfl rfl ?_
   intro u2 hu2 hg2
   refine ⟨hT _ trivial,?_⟩
   try simp (maxSteps:=9^7) only[aAb]
   refine hQ _ _ ?_
  all_goals clear hQ hT hT' t0 t1 t2 t3 t4 t5 t6 t7 t8 t10 t11 t12 t14 t16 e9 e13 e15 e17
  all_goals
   have HW5:=hid (show RowC u2 g cap (rotL cs k m (m+1)) by rw[<-aXc (by omega) hbn (aGj HY.out HX.out)];exact hu2)
   have HG5:=hid (((HG.out.trans (show wr.grownBy wr.drew (some g) from ⟨rfl,rfl,rfl,Nat.le_refl _,fun _ _ _=>rfl⟩)).trans hg1).trans hg2)
   clear hu1 hg1 hu2 hg2 HW HG T2 T3 x0 x1 x2 y0 y1 y2
   go_wp2
   go_roundw
   case rel=>exact ⟨k,by omega,by omega,by go_num,HW5,HG5⟩
   simp[intOf]
 have hki:k=i:=by omega
 subst hki
 go_wp2
 refine bodyPost_ret (results_none rfl _ _ _) rfl ?_
 exact ⟨rfl,_,HN.out,HW.out,HG.out⟩
structure Mid (cs:List CL) (a m b s e mid:Nat):Prop where
 has:a<=s
 hsm:s<=m
 hme:m<=e
 heb:e<=b
 hmid:mid=s+(e-m)
 h1:s=a\/e=b\/∀x y,cs[s-1]? = some x->cs[e]? = some y->leC x y=true
 h2:s=m\/e=m\/∀x y,cs[s]? = some x->cs[e-1]? = some y->leC x y=false
theorem bIe {w:World}{g cap a m b:Nat}{cs:List CL}(h:RowC w g cap cs)(ham:a+1<m)(hmb:m+1<b)(hbn:b<=cs.length)(hx:Asc leC cs a m)(hy:Asc leC cs m b)
  (IH:∀(w:World) (a' m' b':Nat) (ds:List CL),b'-a'<b-a->RowC w g cap ds->a'<m'->m'<b'->b'<=ds.length->Asc leC ds a' m'->Asc leC ds m' b'->
   Calls Tryz.prog 200 #[.slice (some ⟨g,0,none⟩) ds.length cap,.int .i64 a',.int .i64 m',.int .i64 b',.func (.func 137) #[] #[]] w (SymIs w g cap a' m' b' ds)) :
  Calls Tryz.prog 200 #[.slice (some ⟨g,0,none⟩) cs.length cap,.int .i64 a,.int .i64 m,.int .i64 b,.func (.func 137) #[] #[]] w (SymIs w g cap a m b cs):=by
 have HC:=hid (show cs.length<=1000000 from h.few)
 have hcl:cs.length<=1000000:=HC.out
 have HXA:=hid hx
 have HYA:=hid hy
 have HI:=hid IH
 have HW:=hid h
 clear hx hy IH h
 obtain ⟨mid,hmid⟩:∃c:Nat,((a:Int)+(b:Int)) / 2=(c:Int):=⟨(a+b) / 2,by omega⟩
 have hm1:a+b<=2*mid+1:=by omega
 have hm2:2*mid<=a+b:=by omega
 have HMID:=hid hmid
 clear hmid
 obtain ⟨s0,r0,hsr⟩:∃s0 r0:Nat,(mid<m/\s0+b=mid+m/\r0=mid)\/(m<=mid/\s0=a/\r0=m):=by
  rcases Nat.lt_or_ge mid m with h | h
  ·exact ⟨mid+m-b,mid,.inl ⟨h,by omega,rfl⟩⟩
  exact ⟨a,m,.inr ⟨h,rfl,rfl⟩⟩
 have f1:a<=s0:=by omega
 have f2:r0<=m:=by omega
 have f3:r0<=mid:=by omega
 have f4:s0<=r0:=by omega
 have f5:mid+m<=s0+b:=by omega
 have F6:=hid (show s0=a\/s0+b=mid+m by omega)
 have F7:=hid (show r0=m\/r0=mid by omega)
 have b1:mid<b:=by omega
 have b2:a<mid:=by omega
 go_enter Tryz.func200,Tryz.ntmps200
 refine hsr.elim ?br1 ?br2
 case' br1=>
  rintro ⟨c1,c2,c3⟩
  have C2:=hid c2
  have C3:=hid c3
  clear c2 c3
  go_wp2
  rw[HMID.out,show (mid:Int)+(m:Int)-(b:Int)=(s0:Int) by have:=C2.out;omega]
  clear c1
 case' br2=>
  rintro ⟨c1,c2,c3⟩
  have C2:=hid c2
  have C3:=hid c3
  clear c2 c3
  go_wp2
  rw[HMID.out]
  clear c1
 all_goals
  have HV:=hid (And.intro hm1 (And.intro hm2 (And.intro b1 (And.intro b2 (And.intro ham hmb)))))
  clear hm1 hm2 b1 b2 ham hmb
  go_loopw[20,21] (fun iv jv wr=>∃s r:Nat,s0<=s/\s<=r/\r<=r0/\iv=.int .i64 s/\jv=.int .i64 r/\Hid (RowC wr g cap cs)/\Hid (w.grownBy wr (some g))/\Hid (s=s0\/∀x y,cs[s-1]? = some x->cs[mid+m-s]? = some y->leC x y=true)/\Hid (r=r0\/∀x y,cs[r]? = some x->cs[mid+m-1-r]? = some y->leC x y=false)) (fun i j _=>(intOf j).toNat-(intOf i).toNat)
  case atStart=>exact ⟨s0,r0,Nat.le_refl _,f4,Nat.le_refl _,by first | rfl | rw[C2.out],by rw[C3.out],HW,hid (World.grownBy.refl w _),hid (.inl rfl),hid (.inl rfl)⟩
  clear HW C2 C3
  obtain ⟨s,r,hs1,hsr,hr1,rfl,rfl,HW,HG,H1,H2⟩:=hrel
  by_cases hlt:s<r
  ·obtain ⟨c,hc⟩:∃c:Nat,((s:Int)+(r:Int)) / 2=(c:Int):=⟨(s+r) / 2,by omega⟩
   have hc1:s<=c:=by omega
   have hc2:c<r:=by omega
   have HCC:=hid hc
   have T1:((c:Nat):Int).toNat=c:=rfl
   clear hc
   obtain ⟨p,hp⟩:∃p:Nat,p=mid+m-1-c:=⟨_,rfl⟩
   have L1:=hid (show p<cs.length by omega)
   have L2:=hid (show c<cs.length by omega)
   have T2:=hid (show ((mid:Int)+(m:Int)-1-(c:Int)).toNat=p by omega)
   have HPP:=hid hp
   clear hp
   have hgl:=HW.out.lt
   obtain ⟨x,hx,x0,x1,x2⟩:=HW.out.get (k:=p) (by first | exact L1.out | exact L2.out)
   obtain ⟨y,hy,y0,y1,y2⟩:=HW.out.get (k:=c) (by first | exact L1.out | exact L2.out)
   have KC:∀u,Calls Tryz.prog 137 #[.agg #[.string x.path,.int .i64 x.kind,.string x.text],.agg #[.string y.path,.int .i64 y.kind,.string y.text]] u (IntB (cmpC x y) u):=fun u=>aLa
   have HX:=hid hx
   have HYY:=hid hy
   clear hx hy
   go_wp2
   rw[HCC.out]
   refine aAh (fun u=>Below wr.heap.size wr u) [(true,0),(true,1),(true,2),(true,3),(true,4),(true,5),(true,6),(true,7),(true,8),(true,9),(true,10),(false,11),(true,12),(true,13)] mixed (by kernel_rfl) (Below.refl _ _).drew ?_
   intro T M Q hT hT' hM hQ
   have m0:M ⟨g,(p)*3,none⟩=some (.string x.path):=hM _ _ fun w' hw=>(hw.cell (p:=⟨g,(p)*3,none⟩) hgl).trans x0
   have m1:M ⟨g,(p)*3+1,none⟩=some (.int .i64 x.kind):=hM _ _ fun w' hw=>(hw.cell (p:=⟨g,(p)*3+1,none⟩) hgl).trans x1
   have m2:M ⟨g,(p)*3+2,none⟩=some (.string x.text):=hM _ _ fun w' hw=>(hw.cell (p:=⟨g,(p)*3+2,none⟩) hgl).trans x2
   have m3:M ⟨g,(c)*3,none⟩=some (.string y.path):=hM _ _ fun w' hw=>(hw.cell (p:=⟨g,(c)*3,none⟩) hgl).trans y0
   have m4:M ⟨g,(c)*3+1,none⟩=some (.int .i64 y.kind):=hM _ _ fun w' hw=>(hw.cell (p:=⟨g,(c)*3+1,none⟩) hgl).trans y1
   have m5:M ⟨g,(c)*3+2,none⟩=some (.string y.text):=hM _ _ fun w' hw=>(hw.cell (p:=⟨g,(c)*3+2,none⟩) hgl).trans y2
   clear hM x0 x1 x2 y0 y1 y2
   simp only[qcmp]
   simp (maxSteps:=9^7) only[↓qpre,aAb,aAe,aAc,m0,m1,m2,m3,m4,m5,T1,T2.out]
   (repeat refine And.intro (by first|omega|(unfold inI64;omega)) ?_)
   refine aAi (by kernel_rfl) (KC wr.drew) rfl rfl ?_
   rintro e w3 ⟨rfl,hb3⟩
   have hb3':Below wr.heap.size wr w3:=(Below.refl wr.heap.size wr).drew.trans hb3
   refine ⟨_,rfl,hT _ hb3',?_⟩
   have HW3:=hid (HW.out.below hb3')
   have HG3:=hid (HG.out.trans ((aAo hb3').but (some g)))
   generalize hz:cmpC x y=z
   have HZ:=hid hz
   clear hb3 hb3' KC hz
   simp (maxSteps:=9^7) only[↓qpre,aAb,aAc]
   refine hQ _ _ ?_
   clear hQ hT hT' m0 m1 m2 m3 m4 m5 hgl HW HG
   by_cases hz0:z<0
   ·have H2':Hid (c=r0\/∀x y,cs[c]? = some x->cs[mid+m-1-c]? = some y->leC x y=false):=hid (.inr fun u v hu hv=>by rw[HYY.out] at hu;rw[<-HPP.out,HX.out] at hv;cases hu;cases hv;exact aFi.2 (by rw[HZ.out];exact hz0))
    rw[decide_eq_true hz0]
    clear hz0 T1 T2
    go_wp2
    go_roundw
    case rel=>exact ⟨s,c,hs1,by omega,by omega,rfl,rfl,HW3,HG3,H1,H2'⟩
    simp[intOf];omega
   have H1':Hid (c+1=s0\/∀x y,cs[c+1-1]? = some x->cs[mid+m-(c+1)]? = some y->leC x y=true):=hid (.inr fun u v hu hv=>by rw[Nat.add_sub_cancel,HYY.out] at hu;rw[show mid+m-(c+1)=mid+m-1-c by omega,<-HPP.out,HX.out] at hv;cases hu;cases hv;exact aKv.2 (by rw[HZ.out];exact hz0))
   rw[decide_eq_false hz0]
   clear hz0 T1 T2
   go_wp2
   go_roundw
   case rel=>exact ⟨c+1,r,by omega,by omega,hr1,by go_num,rfl,HW3,HG3,H1',H2⟩
   simp[intOf];omega
  have hie:s=r:=by omega
  subst hie
  clear hlt
  obtain ⟨e,he1,he2⟩:∃e:Nat,e+s<=mid+m/\mid+m<=e+s:=⟨mid+m-s,by omega,by omega⟩
  have MD:=hid (show Mid cs a m b s e mid from ⟨by omega,by omega,by omega,by omega,by omega,by
   rcases H1.out with h | h
   ·rcases F6.out with h' | h'
    ·exact .inl (by omega)
    exact .inr (.inl (by omega))
   ·exact .inr (.inr fun x y hx hy=>h x y hx (by rw[show mid+m-s=e by omega];exact hy)),by
   rcases H2.out with h | h
   ·rcases F7.out with h' | h'
    ·exact .inl (by omega)
    exact .inr (.inl (by omega))
   exact .inr (.inr fun x y hx hy=>h x y hx (by rw[show mid+m-1-s=e-1 by omega];exact hy))⟩)
  have HRL:=hid (show (rotL cs s m e).length=cs.length from aGo MD.out.hsm MD.out.hme (Nat.le_trans MD.out.heb hbn))
  have HS1:=hid (aEo (Nat.le_trans MD.out.heb hbn) MD.out.has MD.out.hsm MD.out.hme MD.out.heb MD.out.hmid HXA.out HYA.out (SegAs.refl (rotL cs s m e) a mid)).1
  have HS2:=hid (aEo (Nat.le_trans MD.out.heb hbn) MD.out.has MD.out.hsm MD.out.hme MD.out.heb MD.out.hmid HXA.out HYA.out (SegAs.refl (rotL cs s m e) a mid)).2.1
  obtain ⟨v1,v2,v3,v4,v5,v6⟩:=HV.out
  have KR:s<m->m<e->Calls Tryz.prog 232 #[.slice (some ⟨g,0,none⟩) cs.length cap,.int .i64 s,.int .i64 m,.int .i64 ((mid:Int)+(m:Int)-(s:Int)),.func (.func 137) #[] #[]] wr (RowTo (fun cs'=>cs'=rotL cs s m e) g cap wr):=fun h1 h2=>by
   rw[show (mid:Int)+(m:Int)-(s:Int)=(e:Int) by omega];exact aZc HW.out h1 h2 (Nat.le_trans MD.out.heb hbn)
  clear H1 H2 v1 v2
  have hcase:(s<m/\m<e/\a<s/\s<mid/\mid<e/\e<b)\/(s<m/\m<e/\a<s/\s<mid/\mid<e/\¬e<b)\/(s<m/\m<e/\¬a<s/\mid<e/\e<b)\/(s<m/\m<e/\¬a<s/\mid<e/\¬e<b)\/(¬s<m/\a<s/\s<mid/\¬mid<e)\/(¬s<m/\a<s/\¬s<mid/\¬mid<e)\/(s<m/\¬m<e/\a<s/\¬s<mid/\mid<e/\e<b):=by omega
  rcases hcase with ⟨d0,d1,d2,d3,d4,d5⟩ | ⟨d0,d1,d2,d3,d4,d5⟩ | ⟨d0,d1,d2,d3,d4⟩ | ⟨d0,d1,d2,d3,d4⟩ | ⟨d0,d1,d2,d3⟩ | ⟨d0,d1,d2,d3⟩ | ⟨d0,d1,d2,d3,d4,d5⟩
  ·first
   | (exfalso;omega)
   | (replace KR:=KR d0 d1
      go_wp2_with fail
      refine KR.mono ?_
      rintro e1 w1 ⟨rfl,cs1,hc1,hw1,hg1⟩
      subst hc1
      have HW1:=hid hw1
      have HG1:=hid (HG.out.trans hg1)
      clear hw1 hg1 HW HG KR
      have K1:=HI.out w1 a s mid (rotL cs s m e) (by omega) HW1.out (by omega) (by omega) (by rw[HRL.out];omega) HS1.out HS2.out
      rw[HRL.out] at K1
      go_wp2_with fail
      refine K1.mono ?_
      rintro e2 w2 ⟨rfl,cs2,hs2,hw2,hg2⟩
      have HW2:=hid hw2
      have HG2:=hid (HG1.out.trans hg2)
      have HS3:=hid hs2
      clear K1 hs2 hw2 hg2 HW1 HG1
      have HAS:=hid (aEo (Nat.le_trans MD.out.heb hbn) MD.out.has MD.out.hsm MD.out.hme MD.out.heb MD.out.hmid HXA.out HYA.out HS3.out)
      have HCL:=hid (show cs2.length=cs.length by rw[HS3.out.len,HRL.out])
      have K2:=HI.out w2 mid e b cs2 (by omega) HW2.out (by omega) (by omega) (by rw[HCL.out];exact hbn) HAS.out.2.2.1 HAS.out.2.2.2
      rw[HCL.out,show (e:Int)=(mid:Int)+(m:Int)-(s:Int) by omega] at K2
      go_wp2_with fail
      refine K2.mono ?_
      rintro e3 w3 ⟨rfl,cs3,hs3,hw3,hg3⟩
      have HW3:=hid hw3
      have HG3:=hid (HG2.out.trans hg3)
      have HS4:=hid hs3
      clear K2 hs3 hw3 hg3 HW2 HG2
      have HN:=hid (aCx aCc aAz hbn MD.out.has MD.out.hsm MD.out.hme MD.out.heb MD.out.hmid HXA.out HYA.out MD.out.h1 MD.out.h2 HS3.out HS4.out)
      clear HS3 HS4 HAS
      go_wp2
      refine bodyPost_end (results_none rfl _ _ _) rfl ?_
      exact ⟨rfl,_,HN.out,HW3.out,HG3.out⟩)
  ·first
   | (exfalso;omega)
   | (replace KR:=KR d0 d1
      go_wp2_with fail
      refine KR.mono ?_
      rintro e1 w1 ⟨rfl,cs1,hc1,hw1,hg1⟩
      subst hc1
      have HW1:=hid hw1
      have HG1:=hid (HG.out.trans hg1)
      clear hw1 hg1 HW HG KR
      have K1:=HI.out w1 a s mid (rotL cs s m e) (by omega) HW1.out (by omega) (by omega) (by rw[HRL.out];omega) HS1.out HS2.out
      rw[HRL.out] at K1
      go_wp2_with fail
      refine K1.mono ?_
      rintro e2 w2 ⟨rfl,cs2,hs2,hw2,hg2⟩
      have HW2:=hid hw2
      have HG2:=hid (HG1.out.trans hg2)
      have HS3:=hid hs2
      clear K1 hs2 hw2 hg2 HW1 HG1
      have HAS:=hid (aEo (Nat.le_trans MD.out.heb hbn) MD.out.has MD.out.hsm MD.out.hme MD.out.heb MD.out.hmid HXA.out HYA.out HS3.out)
      have HCL:=hid (show cs2.length=cs.length by rw[HS3.out.len,HRL.out])
      have HS4:Hid (SegAs cs2 cs2 mid b (List.merge (segL cs2 mid e) (segL cs2 e b) leC)):=hid (aBc (by have:=MD.out.hmid;have:=MD.out.hsm;omega) MD.out.heb (by have:=MD.out.hmid;have:=MD.out.heb;have:=MD.out.hsm;omega))
      have HW3:=HW2
      have HG3:=HG2
      clear HW2 HG2
      have HN:=hid (aCx aCc aAz hbn MD.out.has MD.out.hsm MD.out.hme MD.out.heb MD.out.hmid HXA.out HYA.out MD.out.h1 MD.out.h2 HS3.out HS4.out)
      clear HS3 HS4 HAS
      go_wp2
      refine bodyPost_end (results_none rfl _ _ _) rfl ?_
      exact ⟨rfl,_,HN.out,HW3.out,HG3.out⟩)
  ·first
   | (exfalso;omega)
   | (replace KR:=KR d0 d1
      go_wp2_with fail
      refine KR.mono ?_
      rintro e1 w1 ⟨rfl,cs1,hc1,hw1,hg1⟩
      subst hc1
      have HW1:=hid hw1
      have HG1:=hid (HG.out.trans hg1)
      clear hw1 hg1 HW HG KR
      have HS3:Hid (SegAs (rotL cs s m e) (rotL cs s m e) a mid (List.merge (segL (rotL cs s m e) a s) (segL (rotL cs s m e) s mid) leC)):=hid (aBc MD.out.has (by have:=MD.out.hmid;omega) (by have:=MD.out.has;have:=MD.out.hmid;omega))
      have HW2:=HW1
      have HG2:=HG1
      clear HW1 HG1
      have HAS:=hid (aEo (Nat.le_trans MD.out.heb hbn) MD.out.has MD.out.hsm MD.out.hme MD.out.heb MD.out.hmid HXA.out HYA.out HS3.out)
      have HCL:=hid (show (rotL cs s m e).length=cs.length by rw[HS3.out.len,HRL.out])
      have K2:=HI.out w1 mid e b (rotL cs s m e) (by omega) HW2.out (by omega) (by omega) (by rw[HCL.out];exact hbn) HAS.out.2.2.1 HAS.out.2.2.2
      rw[HCL.out,show (e:Int)=(mid:Int)+(m:Int)-(s:Int) by omega] at K2
      go_wp2_with fail
      refine K2.mono ?_
      rintro e3 w3 ⟨rfl,cs3,hs3,hw3,hg3⟩
      have HW3:=hid hw3
      have HG3:=hid (HG2.out.trans hg3)
      have HS4:=hid hs3
      clear K2 hs3 hw3 hg3 HW2 HG2
      have HN:=hid (aCx aCc aAz hbn MD.out.has MD.out.hsm MD.out.hme MD.out.heb MD.out.hmid HXA.out HYA.out MD.out.h1 MD.out.h2 HS3.out HS4.out)
      clear HS3 HS4 HAS
      go_wp2
      refine bodyPost_end (results_none rfl _ _ _) rfl ?_
      exact ⟨rfl,_,HN.out,HW3.out,HG3.out⟩)
  ·first
   | (exfalso;omega)
   | (replace KR:=KR d0 d1
      go_wp2_with fail
      refine KR.mono ?_
      rintro e1 w1 ⟨rfl,cs1,hc1,hw1,hg1⟩
      subst hc1
      have HW1:=hid hw1
      have HG1:=hid (HG.out.trans hg1)
      clear hw1 hg1 HW HG KR
      have HS3:Hid (SegAs (rotL cs s m e) (rotL cs s m e) a mid (List.merge (segL (rotL cs s m e) a s) (segL (rotL cs s m e) s mid) leC)):=hid (aBc MD.out.has (by have:=MD.out.hmid;omega) (by have:=MD.out.has;have:=MD.out.hmid;omega))
      have HW2:=HW1
      have HG2:=HG1
      clear HW1 HG1
      have HAS:=hid (aEo (Nat.le_trans MD.out.heb hbn) MD.out.has MD.out.hsm MD.out.hme MD.out.heb MD.out.hmid HXA.out HYA.out HS3.out)
      have HCL:=hid (show (rotL cs s m e).length=cs.length by rw[HS3.out.len,HRL.out])
      have HS4:Hid (SegAs (rotL cs s m e) (rotL cs s m e) mid b (List.merge (segL (rotL cs s m e) mid e) (segL (rotL cs s m e) e b) leC)):=hid (aBc (by have:=MD.out.hmid;have:=MD.out.hsm;omega) MD.out.heb (by have:=MD.out.hmid;have:=MD.out.heb;have:=MD.out.hsm;omega))
      have HW3:=HW2
      have HG3:=HG2
      clear HW2 HG2
      have HN:=hid (aCx aCc aAz hbn MD.out.has MD.out.hsm MD.out.hme MD.out.heb MD.out.hmid HXA.out HYA.out MD.out.h1 MD.out.h2 HS3.out HS4.out)
      clear HS3 HS4 HAS
      go_wp2
      refine bodyPost_end (results_none rfl _ _ _) rfl ?_
      exact ⟨rfl,_,HN.out,HW3.out,HG3.out⟩)
  ·first
   | (exfalso;omega)
   | (have HW1:Hid (RowC wr g cap (rotL cs s m e)):=by rw[aDx MD.out.hsm MD.out.hme (Nat.le_trans MD.out.heb hbn) (by have:=MD.out.hsm;have:=MD.out.hme;omega)];exact HW
      have HG1:=HG
      clear HW HG KR
      have K1:=HI.out wr a s mid (rotL cs s m e) (by omega) HW1.out (by omega) (by omega) (by rw[HRL.out];omega) HS1.out HS2.out
      rw[HRL.out] at K1
      go_wp2_with fail
      refine K1.mono ?_
      rintro e2 w2 ⟨rfl,cs2,hs2,hw2,hg2⟩
      have HW2:=hid hw2
      have HG2:=hid (HG1.out.trans hg2)
      have HS3:=hid hs2
      clear K1 hs2 hw2 hg2 HW1 HG1
      have HAS:=hid (aEo (Nat.le_trans MD.out.heb hbn) MD.out.has MD.out.hsm MD.out.hme MD.out.heb MD.out.hmid HXA.out HYA.out HS3.out)
      have HCL:=hid (show cs2.length=cs.length by rw[HS3.out.len,HRL.out])
      have HS4:Hid (SegAs cs2 cs2 mid b (List.merge (segL cs2 mid e) (segL cs2 e b) leC)):=hid (aBc (by have:=MD.out.hmid;have:=MD.out.hsm;omega) MD.out.heb (by have:=MD.out.hmid;have:=MD.out.heb;have:=MD.out.hsm;omega))
      have HW3:=HW2
      have HG3:=HG2
      clear HW2 HG2
      have HN:=hid (aCx aCc aAz hbn MD.out.has MD.out.hsm MD.out.hme MD.out.heb MD.out.hmid HXA.out HYA.out MD.out.h1 MD.out.h2 HS3.out HS4.out)
      clear HS3 HS4 HAS
      go_wp2
      refine bodyPost_end (results_none rfl _ _ _) rfl ?_
      exact ⟨rfl,_,HN.out,HW3.out,HG3.out⟩)
  ·first
   | (exfalso;omega)
   | (have HW1:Hid (RowC wr g cap (rotL cs s m e)):=by rw[aDx MD.out.hsm MD.out.hme (Nat.le_trans MD.out.heb hbn) (by have:=MD.out.hsm;have:=MD.out.hme;omega)];exact HW
      have HG1:=HG
      clear HW HG KR
      have HS3:Hid (SegAs (rotL cs s m e) (rotL cs s m e) a mid (List.merge (segL (rotL cs s m e) a s) (segL (rotL cs s m e) s mid) leC)):=hid (aBc MD.out.has (by have:=MD.out.hmid;omega) (by have:=MD.out.has;have:=MD.out.hmid;omega))
      have HW2:=HW1
      have HG2:=HG1
      clear HW1 HG1
      have HAS:=hid (aEo (Nat.le_trans MD.out.heb hbn) MD.out.has MD.out.hsm MD.out.hme MD.out.heb MD.out.hmid HXA.out HYA.out HS3.out)
      have HCL:=hid (show (rotL cs s m e).length=cs.length by rw[HS3.out.len,HRL.out])
      have HS4:Hid (SegAs (rotL cs s m e) (rotL cs s m e) mid b (List.merge (segL (rotL cs s m e) mid e) (segL (rotL cs s m e) e b) leC)):=hid (aBc (by have:=MD.out.hmid;have:=MD.out.hsm;omega) MD.out.heb (by have:=MD.out.hmid;have:=MD.out.heb;have:=MD.out.hsm;omega))
      have HW3:=HW2
      have HG3:=HG2
      clear HW2 HG2
      have HN:=hid (aCx aCc aAz hbn MD.out.has MD.out.hsm MD.out.hme MD.out.heb MD.out.hmid HXA.out HYA.out MD.out.h1 MD.out.h2 HS3.out HS4.out)
      clear HS3 HS4 HAS
      go_wp2
      refine bodyPost_end (results_none rfl _ _ _) rfl ?_
      exact ⟨rfl,_,HN.out,HW3.out,HG3.out⟩)
  first
  | (exfalso;omega)
  | (have HW1:Hid (RowC wr g cap (rotL cs s m e)):=by rw[aDx MD.out.hsm MD.out.hme (Nat.le_trans MD.out.heb hbn) (by have:=MD.out.hsm;have:=MD.out.hme;omega)];exact HW
     have HG1:=HG
     clear HW HG KR
     have HS3:Hid (SegAs (rotL cs s m e) (rotL cs s m e) a mid (List.merge (segL (rotL cs s m e) a s) (segL (rotL cs s m e) s mid) leC)):=hid (aBc MD.out.has (by have:=MD.out.hmid;omega) (by have:=MD.out.has;have:=MD.out.hmid;omega))
     have HW2:=HW1
     have HG2:=HG1
     clear HW1 HG1
     have HAS:=hid (aEo (Nat.le_trans MD.out.heb hbn) MD.out.has MD.out.hsm MD.out.hme MD.out.heb MD.out.hmid HXA.out HYA.out HS3.out)
     have HCL:=hid (show (rotL cs s m e).length=cs.length by rw[HS3.out.len,HRL.out])
     have K2:=HI.out wr mid e b (rotL cs s m e) (by omega) HW2.out (by omega) (by omega) (by rw[HCL.out];exact hbn) HAS.out.2.2.1 HAS.out.2.2.2
     rw[HCL.out,show (e:Int)=(mid:Int)+(m:Int)-(s:Int) by omega] at K2
     go_wp2_with fail
     refine K2.mono ?_
     rintro e3 w3 ⟨rfl,cs3,hs3,hw3,hg3⟩
     have HW3:=hid hw3
     have HG3:=hid (HG2.out.trans hg3)
     have HS4:=hid hs3
     clear K2 hs3 hw3 hg3 HW2 HG2
     have HN:=hid (aCx aCc aAz hbn MD.out.has MD.out.hsm MD.out.hme MD.out.heb MD.out.hmid HXA.out HYA.out MD.out.h1 MD.out.h2 HS3.out HS4.out)
     clear HS3 HS4 HAS
     go_wp2
     refine bodyPost_end (results_none rfl _ _ _) rfl ?_
     exact ⟨rfl,_,HN.out,HW3.out,HG3.out⟩)
theorem aVh {g cap:Nat}:∀(k:Nat) (w:World) (a m b:Nat) (cs:List CL),b-a<=k->RowC w g cap cs->a<m->m<b->b<=cs.length->Asc leC cs a m->Asc leC cs m b->
  Calls Tryz.prog 200 #[.slice (some ⟨g,0,none⟩) cs.length cap,.int .i64 a,.int .i64 m,.int .i64 b,.func (.func 137) #[] #[]] w (SymIs w g cap a m b cs)
 | 0,w,a,m,b,cs,hk,h,h1,h2,h3,hx,hy=>by omega
 | k+1,w,a,m,b,cs,hk,h,h1,h2,h3,hx,hy=>by
  by_cases e1:m=a+1
  ·subst e1;exact bGz h h2 h3 hy
  by_cases e2:b=m+1
  ·subst e2;exact bCn h (by omega) h3 hx
  exact bIe h (by omega) (by omega) h3 hx hy fun w a' m' b' ds hd=>aVh k w a' m' b' ds (by omega)
section
variable {α:Type}
structure Half (f:Nat->List α) (s:Nat) (d d':List α) (i:Nat):Prop where
 len:d'.length=d.length
 at_:∀k,k<i->segL d' (k*s) ((k+1)*s)=f k
 rest:∀t,i*s<=t->d'[t]? = d[t]?
theorem Half.start (f:Nat->List α)(s:Nat)(d:List α):Half f s d d 0:=⟨rfl,fun k h=>absurd h (Nat.not_lt_zero k),fun _ _=>rfl⟩
theorem Half.step {f:Nat->List α}{s i:Nat}{d d1 d2:List α}(h:Half f s d d1 i)(hs:SegAs d1 d2 (i*s) ((i+1)*s) (f i)):Half f s d d2 (i+1):=by
 refine ⟨hs.len.trans h.len,fun k hk=>?_,fun t ht=>?_⟩
 ·rcases Nat.lt_or_eq_of_le (Nat.le_of_lt_succ hk) with hk | rfl
  ·rw[hs.other (.inl (Nat.mul_le_mul_right s (show k+1<=i by omega)))];exact h.at_ k hk
  exact hs.here
 rw[hs.there t (.inr ht)]
 exact h.rest t (Nat.le_trans (Nat.mul_le_mul_right s (Nat.le_succ i)) ht)
theorem aKy {l:List α}{a b:Nat}(h:l.length<=b):segL l a b=segL l a l.length:=by
 unfold segL;rw[List.take_of_length_le h,List.take_of_length_le (Nat.le_refl _)]
theorem Half.last {f:Nat->List α}{s i:Nat}{d d1 d2:List α}(h:Half f s d d1 i)(h2:d.length<=(i+1)*s)(hs:SegAs d1 d2 (i*s) d.length (f i))(hf:∀k,i<k->f k=[])(k:Nat):segL d2 (k*s) ((k+1)*s)=f k:=by
 have hl:d2.length=d.length:=hs.len.trans h.len
 rcases Nat.lt_trichotomy k i with hk | rfl | hk
 ·rw[hs.other (.inl (Nat.mul_le_mul_right s (show k+1<=i by omega)))];exact h.at_ k hk
 ·rw[aKy (by rw[hl];exact h2),hl];exact hs.here
 rw[hf k hk,aDd (by rw[hl];exact Nat.le_trans h2 (Nat.mul_le_mul_right s (show i+1<=k by omega)))]
end
theorem aUo {s:Nat} {l d d':List CL}(h:Blk leC s l d)(k a b:Nat)(ha:a=k*s)(hb:b=(k+1)*s)(he:∀t,a<=t->d'[t]? = d[t]?):Asc leC d' a b:=by
 subst ha hb
 refine aEk ?_
 rw[aBj (d:=d) fun i h1 _=>he i h1,h.at_ k]
 exact aJi aAz aHp _
def StableIs (w:World)(g cap:Nat)(cs:List CL):Ending->World->Prop:=RowTo (fun cs'=>cs'=sortC cs) g cap w
def mergeAt (s:Nat)(d:List CL)(k:Nat):List CL:=List.merge (segL d (2*k*s) ((2*k+1)*s)) (segL d ((2*k+1)*s) ((2*k+2)*s)) leC
theorem bAi {w:World}{g cap:Nat}{cs:List CL}(h:RowC w g cap cs) :
  Calls Tryz.prog 162 #[.slice (some ⟨g,0,none⟩) cs.length cap,.int .i64 cs.length,.func (.func 137) #[] #[]] w (StableIs w g cap cs):=by
 have HC:=hid (show cs.length<=1000000 from h.few)
 have hcl:cs.length<=1000000:=HC.out
 obtain ⟨n,hn⟩:∃n,n=cs.length:=⟨_,rfl⟩
 have HN:=hid hn
 rw[<-hn] at hcl ⊢
 clear hn
 go_enter Tryz.func162,Tryz.ntmps162
 go_wp2
 go_loopw[7,8] (fun iv jv wr=>∃i a b:Nat,a<=n/\iv=.int .i64 a/\jv=.int .i64 b/\a+20<=b/\b<=a+20/\∃d,Hid (a=i*20)/\Hid (Half (fun k=>ssort leC (segL cs (k*20) ((k+1)*20))) 20 cs d i)/\Hid (RowC wr g cap d)/\Hid (w.grownBy wr (some g))) (fun i _ _=>n-(intOf i).toNat)
 case atStart=>exact ⟨0,0,20,Nat.zero_le _,rfl,rfl,Nat.le_refl _,Nat.le_refl _,cs,hid rfl,hid (Half.start _ _ _),hid h,hid (World.grownBy.refl w _)⟩
 obtain ⟨i,a,b,han,rfl,rfl,hb1,hb2,d,HA,HH,HW,HG⟩:=hrel
 have HL:=hid (show d.length=n by rw[HH.out.len,HN.out])
 by_cases hlt:b<=n
 ·have K:=aQv HW.out (a:=a) (b:=b) (by omega) (by rw[HL.out];exact hlt)
  rw[HL.out] at K
  go_wp2_with fail
  refine K.mono ?_
  rintro e w1 ⟨rfl,d1,hs1,hw1,hg1⟩
  have HH1:Hid (Half (fun k=>ssort leC (segL cs (k*20) ((k+1)*20))) 20 cs d1 (i+1)):=hid (HH.out.step (by
   have e1:=HA.out
   have e2:b=(i+1)*20:=by omega
   rw[<-e1,<-e2]
   rw[aBj (d:=cs) (d':=d) fun t h1 _=>HH.out.rest t (by omega)] at hs1
   exact hs1))
  have HA1:Hid (b=(i+1)*20):=hid (by have:=HA.out;omega)
  have HW1:=hid hw1
  have HG1:=hid (HG.out.trans hg1)
  clear K hs1 hw1 hg1 HH HW HG
  go_wp2
  go_roundw
  case rel=>exact ⟨i+1,b,b+20,hlt,rfl,by go_num,by omega,by omega,d1,HA1,HH1,HW1,HG1⟩
  simp[intOf];omega
 have K:=aQv HW.out (a:=a) (b:=n) han (by rw[HL.out];exact Nat.le_refl _)
 rw[HL.out] at K
 go_wp2_with fail
 refine K.mono ?_
 rintro e w1 ⟨rfl,d1,hs1,hw1,hg1⟩
 have HB:Hid (Blk leC 20 cs d1):=hid ⟨by rw[hs1.len,HH.out.len],by
  have e1:=HA.out
  have e2:=HN.out
  refine fun k=>HH.out.last (by omega) ?_ (fun k hk=>?_) k
  ·show SegAs d d1 (i*20) cs.length (ssort leC (segL cs (i*20) ((i+1)*20)))
   rw[aKy (b:=(i+1)*20) (by omega),<-e1,<-e2]
   rw[aBj (d:=cs) (d':=d) fun t h1 _=>HH.out.rest t (by omega)] at hs1
   exact hs1
  show ssort leC (segL cs (k*20) ((k+1)*20))=[]
  rw[aDd (by omega)];rfl⟩
 have HW1:=hid hw1
 have HG1:=hid (HG.out.trans hg1)
 clear K hs1 hw1 hg1 HH HW HG HA HL hb1 hb2 hlt han
 go_wp2
 go_loopw[6] (fun sv wr=>∃s:Nat,20<=s/\s<=2000000/\sv=.int .i64 s/\∃d,Hid (Blk leC s cs d)/\Hid (RowC wr g cap d)/\Hid (w.grownBy wr (some g))) (fun i _=>n-(intOf i).toNat)
 case atStart=>exact ⟨20,Nat.le_refl _,by omega,rfl,d1,HB,HW1,HG1⟩
 clear HB HW1 HG1
 obtain ⟨s,hs1,hs2,rfl,d,HB,HW,HG⟩:=hrel
 have HL:=hid (show d.length=n by rw[HB.out.len,HN.out])
 by_cases hlt:s<n
 ·go_wp2
  go_loopw[7,8] (fun iv jv wr=>∃i a b:Nat,a<=n/\iv=.int .i64 a/\jv=.int .i64 b/\a+2*s<=b/\b<=a+2*s/\∃d',Hid (a=i*(2*s))/\Hid (Half (mergeAt s d) (2*s) d d' i)/\Hid (RowC wr g cap d')/\Hid (w.grownBy wr (some g))) (fun i _ _=>n-(intOf i).toNat)
  case atStart=>exact ⟨0,0,2*s,Nat.zero_le _,rfl,by go_num,by omega,by omega,d,hid (by rw[Nat.zero_mul]),hid (Half.start _ _ _),HW,HG⟩
  clear HW HG
  obtain ⟨i,a,b,han,rfl,rfl,hb1,hb2,d',HA,HH,HW,HG⟩:=hrel
  have HL':=hid (show d'.length=n by rw[HH.out.len,HL.out])
  have EA:=hid (show a=2*i*s by rw[HA.out,<-Nat.mul_assoc,Nat.mul_comm i 2])
  have EM:=hid (show a+s=(2*i+1)*s by rw[EA.out,Nat.add_mul,Nat.one_mul])
  have EB:=hid (show b=(2*i+2)*s by rw[show (2*i+2)*s=(2*i+1)*s+s by rw[<-Nat.succ_mul],<-EM.out];omega)
  have EC:=hid (show b=(i+1)*(2*s) by rw[Nat.add_mul,<-HA.out];omega)
  have HX:Hid (Asc leC d' a (a+s)):=hid (aUo HB.out (2*i) a (a+s) EA.out EM.out fun t ht=>HH.out.rest t (by rw[<-HA.out];exact ht))
  by_cases hlb:b<=n
  ·have HY:Hid (Asc leC d' (a+s) b):=hid (aUo HB.out (2*i+1) (a+s) b EM.out EB.out fun t ht=>HH.out.rest t (by rw[<-HA.out];omega))
   have K:=aVh (b-a) wr a (a+s) b d' (Nat.le_refl _) HW.out (by omega) (by omega) (by rw[HL'.out];exact hlb) HX.out HY.out
   rw[HL'.out,show ((a+s:Nat):Int)=(a:Int)+(s:Int) by omega] at K
   go_wp2_with fail
   refine K.mono ?_
   rintro e w2 ⟨rfl,d2,hs3,hw2,hg2⟩
   have HH2:Hid (Half (mergeAt s d) (2*s) d d2 (i+1)):=hid (HH.out.step (by
    rw[<-HA.out,<-EC.out]
    unfold mergeAt
    rw[<-EA.out,<-EM.out,<-EB.out]
    rw[aBj (d:=d) (d':=d') fun t h1 _=>HH.out.rest t (by rw[<-HA.out];exact h1),aBj (d:=d) (d':=d') (a:=a+s) fun t h1 _=>HH.out.rest t (by rw[<-HA.out];omega)] at hs3
    exact hs3))
   have HW2:=hid hw2
   have HG2:=hid (HG.out.trans hg2)
   clear K hs3 hw2 hg2 HH HW HG HA EA EM EB HX HY HL'
   go_wp2
   go_roundw
   case rel=>exact ⟨i+1,b,b+2*s,hlb,rfl,by go_num,by omega,by omega,d2,EC,HH2,HW2,HG2⟩
   simp[intOf];omega
  have FIN:∀d2,SegAs d' d2 a n (List.merge (segL d' a (a+s)) (segL d' (a+s) n) leC)->Hid (Blk leC (2*s) cs d2):=fun d2 hs3=>hid (by
   have hl2:d2.length=d.length:=by rw[hs3.len,HH.out.len]
   refine HB.out.twice aAz aHp hl2 fun k=>HH.out.last (by rw[<-EC.out,HL.out];omega) ?_ (fun k hk=>?_) k
   ·rw[<-HA.out,HL.out]
    unfold mergeAt
    rw[<-EA.out,<-EM.out,<-EB.out]
    rw[aBj (d:=d) (d':=d') fun t h1 _=>HH.out.rest t (by rw[<-HA.out];exact h1),aBj (d:=d) (d':=d') (a:=a+s) fun t h1 _=>HH.out.rest t (by rw[<-HA.out];omega)] at hs3
    rw[aKy (l:=d) (a:=a+s) (b:=b) (by rw[HL.out];omega),HL.out]
    exact hs3
   unfold mergeAt
   have h1:(i+1)*(2*s)<=2*k*s:=by rw[show 2*k*s=k*(2*s) by rw[<-Nat.mul_assoc,Nat.mul_comm k 2]];exact Nat.mul_le_mul_right _ (by omega)
   have h2:2*k*s<=(2*k+1)*s:=Nat.mul_le_mul_right _ (by omega)
   rw[<-EC.out] at h1
   rw[aDd (by rw[HL.out];omega),aDd (by rw[HL.out];omega),aMl])
  have HFIN:=hid FIN
  clear FIN
  by_cases hms:a+s<n
  ·have HY:Hid (Asc leC d' (a+s) n):=hid (by
    have:=aUo HB.out (2*i+1) (a+s) b EM.out EB.out (d':=d') fun t ht=>HH.out.rest t (by rw[<-HA.out];omega)
    exact this.sub (Nat.le_refl _) (by omega))
   have K:=aVh (n-a) wr a (a+s) n d' (Nat.le_refl _) HW.out (by omega) (by omega) (by rw[HL'.out];exact Nat.le_refl _) HX.out HY.out
   rw[HL'.out,show ((a+s:Nat):Int)=(a:Int)+(s:Int) by omega] at K
   clear EA EM EB EC HX HY
   go_wp2_with fail
   refine K.mono ?_
   rintro e w2 ⟨rfl,d2,hs3,hw2,hg2⟩
   have HBN:=HFIN.out d2 hs3
   have HW2:=hid hw2
   have HG2:=hid (HG.out.trans hg2)
   clear K hs3 hw2 hg2 HH HW HG HA HL' HFIN HB
   go_wp2
   go_roundw
   case rel=>exact ⟨2*s,by omega,by omega,by go_num,d2,HBN,HW2,HG2⟩
   simp[intOf];omega
  have HBN:=HFIN.out d' (by
   have e1:segL d' (a+s) n=[]:=aDd (by rw[HL'.out];omega)
   rw[e1,aKk]
   have e2:segL d' a (a+s)=segL d' a n:=by rw[aKy (by rw[HL'.out];omega),HL'.out]
   rw[e2];exact SegAs.refl _ _ _)
  clear EA EM EB EC HX HH HA HL' HFIN HB
  go_wp2
  go_roundw
  case rel=>exact ⟨2*s,by omega,by omega,by go_num,d',HBN,HW,HG⟩
  simp[intOf];omega
 have HF:Hid (d=sortC cs):=hid (by rw[aXa];exact HB.out.all (by rw[<-HN.out];omega))
 go_wp2
 refine bodyPost_end (results_none rfl _ _ _) rfl ?_
 exact ⟨rfl,d,HF.out,HW.out,HG.out⟩
theorem aYg {v f:Value}{w:World}:Calls Tryz.prog 199 #[v,.int .i64 0,.int .i64 0,f] w fun e w'=>e=.returned (.tuple #[])/\w'=w:=by
 go_enter Tryz.func199,Tryz.ntmps199
 go_wp2
 refine wp_loop_rounds 1 ?_
 rw[rounds_succ]
 go_wp2
 refine bodyPost_end (results_none rfl _ _ _) rfl ?_
 exact ⟨rfl,rfl⟩
theorem aVe {v f:Value}{w:World}:Calls Tryz.prog 162 #[v,.int .i64 0,f] w fun e w'=>e=.returned (.tuple #[])/\w'=w:=by
 have K:=aYg (v:=v) (f:=f) (w:=w)
 go_enter Tryz.func162,Tryz.ntmps162
 go_wp2
 refine wp_loop_rounds 1 ?_
 rw[rounds_succ]
 go_wp2_with fail
 refine K.mono ?_
 rintro e w1 ⟨rfl,rfl⟩
 clear K
 go_wp2
 refine wp_loop_rounds 1 ?_
 rw[rounds_succ]
 go_wp2
 refine bodyPost_end (results_none rfl _ _ _) rfl ?_
 exact ⟨rfl,rfl⟩
theorem aTf (l:List CL):(sortC l).length=l.length:=by rw[aXa,bEd]
def SortedCs (w0:World)(v:Value)(cs:List CL)(w:World)(e:Ending) (w':World):Prop:=
 e=.returned (.tuple #[])/\w'.ownsRow w0.heap.size 94 3 v cs.length ((sortC cs).flatMap CL.cells)/\w.grownBy w' v.ownBlock
theorem bDy {w0 w:World}{v:Value}{cs:List CL}(hl:cs.length<=1000000)(ho:w.ownsRow w0.heap.size 94 3 v cs.length (cs.flatMap CL.cells)) :
  Calls Tryz.prog 136 #[v,.func (.func 137) #[] #[]] w (SortedCs w0 v cs w):=by
 have HO:=hid ho
 rcases ho.2 with ⟨rfl,hl0⟩ | ⟨g,cap,cur,rfl,hgB,hg,hnc,hcm,hcs,ht⟩
 ·have:cs=[]:=List.length_eq_zero_iff.1 hl0
  subst this
  have K:=aVe (v:=.slice none 0 0) (f:=.func (.func 137) #[] #[]) (w:=w)
  clear ho hl0 hl
  go_enter Tryz.func136,Tryz.ntmps136
  go_wp2_with fail
  refine K.mono ?_
  rintro e w1 ⟨rfl,rfl⟩
  clear K
  go_wp2
  refine bodyPost_end (results_none rfl _ _ _) rfl ?_
  exact ⟨rfl,HO.out,World.grownBy.refl _ _⟩
 have HX:=hid hgB
 have HC:=hid (And.intro hnc (And.intro hcm hcs))
 have K:=bAi (w:=w) (g:=g) (cap:=cap) (cs:=cs) ⟨⟨cur,hg,hcs,hnc,ht⟩,hl⟩
 have hl':=hl
 clear ho hgB hg hnc hcm hcs ht
 have HL:=hid (aTf cs)
 go_enter Tryz.func136,Tryz.ntmps136
 go_wp2_with fail
 refine K.mono ?_
 rintro e w1 ⟨rfl,cs',rfl,hw1,hg1⟩
 have HW:=hid hw1
 have HG:=hid hg1
 clear K hw1 hg1
 go_wp2
 refine bodyPost_end (results_none rfl _ _ _) rfl ?_
 obtain ⟨cur',h1,h2,h3,h4⟩:=HW.out.ex
 rw[HL.out] at h3 h4
 exact ⟨rfl,⟨by rw[CL.len_flat,HL.out],.inr ⟨g,cap,cur',rfl,HX.out,h1,HC.out.1,HC.out.2.1,h2,h4⟩⟩,HG.out⟩
end Go.Proofs.YtohblmepajhpaaaGreatDoor
