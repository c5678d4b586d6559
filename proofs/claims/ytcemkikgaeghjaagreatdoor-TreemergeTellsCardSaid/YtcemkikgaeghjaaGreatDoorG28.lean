/- Texts of the walks, together: Walk: slices.symMergeCmpFunc of clashes. -/
import Derived.Test.YtcemkikgaeghjaaGreatDoorG27
set_option maxHeartbeats 8000000
set_option maxRecDepth 100000
open Go.Lib (hid)
namespace Go.Proofs.YtcemkikgaeghjaaGreatDoor
open Go.RowKit
def SymIs (w:World)(g cap a m b:Nat)(cs:List CL):Ending->World->Prop:=RowTo (fun cs'=>SegAs cs cs' a b (List.merge (segL cs a m) (segL cs m b) leC)) g cap w
theorem bFm {w:World}{g cap a b:Nat}{cs:List CL}(h:RowC w g cap cs)(hmb:a+1<b)(hbn:b<=cs.length)(hy:Asc leC cs (a+1) b) :
  Calls Tryz.prog 113 #[.slice (some ⟨g,0,none⟩) cs.length cap,.int .i64 a,.int .i64 ((a+1:Nat):Int),.int .i64 b,.func (.func 33) #[] #[]] w (SymIs w g cap a (a+1) b cs):=by
 have HC:=hid (show cs.length<=1000000 from h.few)
 have hcl:cs.length<=1000000:=HC.out
 have HY:=hid hy
 clear hy
 have T0:(((a+1:Nat):Int)-(a:Int) == 1)=true:=by rw[show ((a+1:Nat):Int)-(a:Int)=1 by omega];rfl
 go_enter Tryz.func113,Tryz.ntmps113
 go_wp2
 go_loopw[10,11] (fun iv jv wr=>∃i j:Nat,a+1<=i/\i<=j/\j<=b/\iv=.int .i64 i/\jv=.int .i64 j/\Hid (RowC wr g cap cs)/\Hid (w.grownBy wr (some g))/\Hid (i=a+1\/∀x y,cs[a]? = some x->cs[i-1]? = some y->leC x y=false)/\Hid (j=b\/∀x y,cs[a]? = some x->cs[j]? = some y->leC x y=true)) (fun i j _=>(intOf j).toNat-(intOf i).toNat)
 case atStart=>exact ⟨a+1,b,Nat.le_refl _,by omega,Nat.le_refl _,rfl,rfl,hid h,hid (World.grownBy.refl w _),hid (.inl rfl),hid (.inl rfl)⟩
 obtain ⟨i,j,hi1,hij,hjb,rfl,rfl,HW,HG,H1,H2⟩:=hrel
 by_cases hlt:i<j
 ·obtain ⟨c,hc⟩:∃c:Nat,((i:Int)+(j:Int)) / 2=(c:Int):=⟨(i+j) / 2,by omega⟩
  have hc1:i<=c:=by omega
  have hc2:c<j:=by omega
  have HCC:=hid hc
  have T1:((c:Nat):Int).toNat=c:=rfl
  have T2:((a:Nat):Int).toNat=a:=rfl
  clear hc
  have hgl:=HW.out.lt
  obtain ⟨y,hx,x0,x1,x2⟩:=HW.out.get (k:=c) (by omega)
  obtain ⟨x,hy,y0,y1,y2⟩:=HW.out.get (k:=a) (by omega)
  have KC:∀u,Calls Tryz.prog 33 #[.agg #[.string y.path,.int .i64 y.kind,.string y.text],.agg #[.string x.path,.int .i64 x.kind,.string x.text]] u (IntB (cmpC y x) u):=fun u=>aLs
  have HX:=hid hx
  have HYY:=hid hy
  clear hx hy
  go_wp2
  rw[HCC.out]
  refine aAd (fun u=>Below wr.heap.size wr u) [(true,0),(true,1),(true,2),(true,3),(true,4),(true,5),(true,6),(true,7),(true,8),(false,9),(true,10)] mixed (by kernel_rfl) (Below.refl _ _).drew ?_
  intro T M Q hT hT' hM hQ
  have m0:M ⟨g,(c)*3,none⟩=some (.string y.path):=hM _ _ fun w' hw=>(hw.cell (p:=⟨g,(c)*3,none⟩) hgl).trans x0
  have m1:M ⟨g,(c)*3+1,none⟩=some (.int .i64 y.kind):=hM _ _ fun w' hw=>(hw.cell (p:=⟨g,(c)*3+1,none⟩) hgl).trans x1
  have m2:M ⟨g,(c)*3+2,none⟩=some (.string y.text):=hM _ _ fun w' hw=>(hw.cell (p:=⟨g,(c)*3+2,none⟩) hgl).trans x2
  have m3:M ⟨g,(a)*3,none⟩=some (.string x.path):=hM _ _ fun w' hw=>(hw.cell (p:=⟨g,(a)*3,none⟩) hgl).trans y0
  have m4:M ⟨g,(a)*3+1,none⟩=some (.int .i64 x.kind):=hM _ _ fun w' hw=>(hw.cell (p:=⟨g,(a)*3+1,none⟩) hgl).trans y1
  have m5:M ⟨g,(a)*3+2,none⟩=some (.string x.text):=hM _ _ fun w' hw=>(hw.cell (p:=⟨g,(a)*3+2,none⟩) hgl).trans y2
  clear hM x0 x1 x2 y0 y1 y2
  simp only[qcmp]
  simp (maxSteps:=9^7) only[↓qpre,aAb,aAf,aAc,m0,m1,m2,m3,m4,m5,T1,T2]
  (repeat refine ⟨by first|omega|(unfold inI64;omega),?_⟩)
  refine aAh (by kernel_rfl) (KC wr.drew) rfl rfl ?_
  rintro e w3 ⟨rfl,hb3⟩
  have hb3':Below wr.heap.size wr w3:=(Below.refl wr.heap.size wr).drew.trans hb3
  refine ⟨_,rfl,hT _ hb3',?_⟩
  have HW3:=hid (HW.out.below hb3')
  have HG3:=hid (HG.out.trans ((aAr hb3').but (some g)))
  generalize hz:cmpC y x=z
  have HZ:=hid hz
  clear hb3 hb3' KC hz
  simp (maxSteps:=9^7) only[↓qpre,aAb,aAc]
  refine hQ _ _ ?_
  clear hQ hT hT' m0 m1 m2 m3 m4 m5 hgl HW HG
  by_cases hz0:z<0
  ·have H1':Hid (c+1=a+1\/∀x y,cs[a]? = some x->cs[c+1-1]? = some y->leC x y=false):=hid (.inr fun p q hp hq=>by rw[HYY.out] at hp;rw[Nat.add_sub_cancel,HX.out] at hq;cases hp;cases hq;exact aFq.2 (by rw[HZ.out];exact hz0))
   rw[decide_eq_true hz0]
   clear hz0 T1 T2
   go_wp2
   go_roundw
   case rel=>exact ⟨c+1,j,by omega,by omega,hjb,by go_num,rfl,HW3,HG3,H1',H2⟩
   simp[intOf];omega
  have H2':Hid (c=b\/∀x y,cs[a]? = some x->cs[c]? = some y->leC x y=true):=hid (.inr fun p q hp hq=>by rw[HYY.out] at hp;rw[HX.out] at hq;cases hp;cases hq;exact aLr.2 (by rw[HZ.out];exact hz0))
  rw[decide_eq_false hz0]
  clear hz0 T1 T2
  go_wp2
  go_roundw
  case rel=>exact ⟨i,c,hi1,by omega,by omega,rfl,rfl,HW3,HG3,H1,H2'⟩
  simp[intOf];omega
 have hie:i=j:=by omega
 subst hie
 clear hlt
 have HN:=hid (bEq aCs aBh hbn hi1 hjb HY.out (by rcases H2.out with h | h;exact .inl h;exact .inr h) (by rcases H1.out with h | h;exact .inl h;exact .inr h))
 clear H1 H2 HY
 go_wp2
 go_loopw[13] (fun kv wr=>∃k:Nat,a<=k/\k+1<=i/\kv=.int .i64 k/\Hid (RowC wr g cap (rotL cs a (a+1) (k+1)))/\Hid (w.grownBy wr (some g))) (fun k _=>i-(intOf k).toNat)
 case atStart=>exact ⟨a,Nat.le_refl _,hi1,rfl,by rw[aEl (Nat.le_succ a) (Nat.le_refl _) (by omega) (.inr rfl)];exact HW,HG⟩
 obtain ⟨k,hk1,hk2,rfl,HW,HG⟩:=hrel
 by_cases hlt:k+1<i
 ·have hdl:(rotL cs a (a+1) (k+1)).length=cs.length:=aGu (by omega) (by omega) (by omega)
  have HDL:=hid (show i<=(rotL cs a (a+1) (k+1)).length by omega)
  obtain ⟨x,hx,x0,x1,x2⟩:=HW.out.get (k:=k) (by omega)
  obtain ⟨y,hy,y0,y1,y2⟩:=HW.out.get (k:=k+1) (by omega)
  have HX:=hid hx
  have HY:=hid hy
  have T1:((k:Nat):Int).toNat=k:=rfl
  have T2:((k:Int)+1).toNat=k+1:=by omega
  clear hx hy hdl
  go_wp2
  refine aAw (fun _=>True) (.q 0 (.q 1 (.q 2 (.q 3 (.q 4 (.q 5 (.q 6 (.q 7 (.q 8 (.q 10 (.q 11 (.q 12 (.two 9 (.one 13 (.q 14 (.one 15 (.q 16 (.one 17 .leaf))))) 13 (.one 9 (.q 14 (.one 15 (.q 16 (.one 17 .leaf)))))))))))))))))) mixed (by kernel_rfl) trivial ?_
  intro T M Q hT hT' hM hQ
  clear hM
  refine aDf ?_
  intro O hO
  have t0:=hO true 0
  have t1:=hO true 1
  have t2:=hO true 2
  have t3:=hO true 3
  have t4:=hO true 4
  have t5:=hO true 5
  have t6:=hO true 6
  have t7:=hO true 7
  have t8:=hO true 8
  have t10:=hO true 10
  have t11:=hO true 11
  have t12:=hO true 12
  have t14:=hO true 14
  have t16:=hO true 16
  have e9:=hO false 9
  have e13:=hO false 13
  have e15:=hO false 15
  have e17:=hO false 17
  simp only[qcmp] at t0 t1 t2 t3 t4 t5 t6 t7 t8 t10 t11 t12 t14 t16 e9 e13 e15 e17
  clear hO
  simp (maxSteps:=9^7) only[↓wt_q,↓aBc,t0,t1,t2,t3,t4,t5,t6,t7,t8,t10,t11,t12,e9,e13,↓qpre,aAb,aAf,aAc,T1,T2]
  (repeat refine ⟨by first|omega|(unfold inI64;omega),?_⟩)
  refine ⟨?o1,?o2⟩
  case' o1=>
   refine aDh fun N hN=>?_
   have n0:=hN _ _ y0
   have n1:=hN _ _ y1
   have n2:=hN _ _ y2
   simp (maxSteps:=9^7) only[↓aAj,e13,↓qpre,aAb,aAf,aAc,n0,n1,n2]
   clear n0 n1 n2 hN
   refine ⟨hT _ trivial,?_⟩
   try simp (maxSteps:=9^7) only[↓wt_q,↓aAj,↓aBc,t0,t1,t2,t3,t4,t5,t6,t7,t8,t10,t11,t12,t14,t16,e9,e13,e15,e17,↓qpre,aAb,aAf,aAc,T1,T2]
   refine aDh fun N hN=>?_
   have n0:=hN _ _ x0
   have n1:=hN _ _ x1
   have n2:=hN _ _ x2
   simp (maxSteps:=9^7) only[↓wt_q,↓aAj,t14,e15,↓qpre,aAb,aAf,aAc,T1,n0,n1,n2]
   clear n0 n1 n2 hN
   refine ⟨hT _ trivial,?_⟩
   try simp (maxSteps:=9^7) only[↓wt_q,↓aAj,↓aBc,t0,t1,t2,t3,t4,t5,t6,t7,t8,t10,t11,t12,t14,t16,e9,e13,e15,e17,↓qpre,aAb,aAf,aAc,T1,T2]
   (repeat refine ⟨by first|omega|(unfold inI64;omega),?_⟩)
   refine aAz (cs:=(rotL cs a (a+1) (k+1))) (k:=k) (c:=y) (HW.out.same (w':=wr.drew) rfl) (by have:=HDL.out;omega) rfl rfl rfl ?_
   intro u1 hu1 hg1
   refine ⟨hT _ trivial,?_⟩
   try simp (maxSteps:=9^7) only[↓wt_q,↓aAj,t16,e17,↓qpre,aAb,aAf,aAc,T2]
   (repeat refine ⟨by first|omega|(unfold inI64;omega),?_⟩)
   refine aAz (cs:=(rotL cs a (a+1) (k+1)).set (k) y) (k:=k+1) (c:=x) hu1 (by rw[List.length_set];have:=HDL.out;omega) rfl rfl rfl ?_
   intro u2 hu2 hg2
   refine ⟨hT _ trivial,?_⟩
   try simp (maxSteps:=9^7) only[aAb]
   refine hQ _ _ ?_
  case' o2=>
   refine aDh fun N hN=>?_
   have n0:=hN _ _ x0
   have n1:=hN _ _ x1
   have n2:=hN _ _ x2
   simp (maxSteps:=9^7) only[↓aAj,e9,↓qpre,aAb,aAf,aAc,n0,n1,n2]
   clear n0 n1 n2 hN
   refine ⟨hT _ trivial,?_⟩
   try simp (maxSteps:=9^7) only[↓wt_q,↓aAj,↓aBc,t0,t1,t2,t3,t4,t5,t6,t7,t8,t10,t11,t12,t14,t16,e9,e13,e15,e17,↓qpre,aAb,aAf,aAc,T1,T2]
   refine aDh fun N hN=>?_
   have n0:=hN _ _ y0
   have n1:=hN _ _ y1
   have n2:=hN _ _ y2
   simp (maxSteps:=9^7) only[↓wt_q,↓aAj,t14,e15,↓qpre,aAb,aAf,aAc,T1,n0,n1,n2]
   clear n0 n1 n2 hN
   refine ⟨hT _ trivial,?_⟩
   try simp (maxSteps:=9^7) only[↓wt_q,↓aAj,↓aBc,t0,t1,t2,t3,t4,t5,t6,t7,t8,t10,t11,t12,t14,t16,e9,e13,e15,e17,↓qpre,aAb,aAf,aAc,T1,T2]
   (repeat refine ⟨by first|omega|(unfold inI64;omega),?_⟩)
   refine aAz (cs:=(rotL cs a (a+1) (k+1))) (k:=k) (c:=y) (HW.out.same (w':=wr.drew) rfl) (by have:=HDL.out;omega) rfl rfl rfl ?_
   intro u1 hu1 hg1
   refine ⟨hT _ trivial,?_⟩
   try simp (maxSteps:=9^7) only[↓wt_q,↓aAj,t16,e17,↓qpre,aAb,aAf,aAc,T2]
   (repeat refine ⟨by first|omega|(unfold inI64;omega),?_⟩)
   refine aAz (cs:=(rotL cs a (a+1) (k+1)).set (k) y) (k:=k+1) (c:=x) hu1 (by rw[List.length_set];have:=HDL.out;omega) rfl rfl rfl ?_
   intro u2 hu2 hg2
   refine ⟨hT _ trivial,?_⟩
   try simp (maxSteps:=9^7) only[aAb]
   refine hQ _ _ ?_
  all_goals clear hQ hT hT' t0 t1 t2 t3 t4 t5 t6 t7 t8 t10 t11 t12 t14 t16 e9 e13 e15 e17
  all_goals
   have HW5:=hid (show RowC u2 g cap (rotL cs a (a+1) (k+2)) by rw[<-bCc hk1 (by omega) (aGk HX.out HY.out)];exact hu2)
   have HG5:=hid (((HG.out.trans (show wr.grownBy wr.drew (some g) from ⟨rfl,rfl,rfl,Nat.le_refl _,fun _ _ _=>rfl⟩)).trans hg1).trans hg2)
   clear hu1 hg1 hu2 hg2 HW HG T1 T2 x0 x1 x2 y0 y1 y2
   go_wp2
   go_roundw
   case rel=>exact ⟨k+1,by omega,by omega,by go_num,HW5,HG5⟩
   simp[intOf];omega
 have hki:k+1=i:=by omega
 subst hki
 go_wp2
 refine bodyPost_ret (results_none rfl _ _ _) rfl ?_
 exact ⟨rfl,_,HN.out,HW.out,HG.out⟩
theorem bBl {w:World}{g cap a m:Nat}{cs:List CL}(h:RowC w g cap cs)(ham:a+1<m)(hbn:m<cs.length)(hx:Asc leC cs a m) :
  Calls Tryz.prog 113 #[.slice (some ⟨g,0,none⟩) cs.length cap,.int .i64 a,.int .i64 m,.int .i64 ((m+1:Nat):Int),.func (.func 33) #[] #[]] w (SymIs w g cap a m (m+1) cs):=by
 have HC:=hid (show cs.length<=1000000 from h.few)
 have hcl:cs.length<=1000000:=HC.out
 have HY:=hid hx
 clear hx
 go_enter Tryz.func113,Tryz.ntmps113
 go_wp2
 go_loopw[14,15] (fun iv jv wr=>∃i j:Nat,a<=i/\i<=j/\j<=m/\iv=.int .i64 i/\jv=.int .i64 j/\Hid (RowC wr g cap cs)/\Hid (w.grownBy wr (some g))/\Hid (i=a\/∀x y,cs[i-1]? = some x->cs[m]? = some y->leC x y=true)/\Hid (j=m\/∀x y,cs[j]? = some x->cs[m]? = some y->leC x y=false)) (fun i j _=>(intOf j).toNat-(intOf i).toNat)
 case atStart=>exact ⟨a,m,Nat.le_refl _,by omega,Nat.le_refl _,rfl,rfl,hid h,hid (World.grownBy.refl w _),hid (.inl rfl),hid (.inl rfl)⟩
 obtain ⟨i,j,hi1,hij,hjb,rfl,rfl,HW,HG,H1,H2⟩:=hrel
 by_cases hlt:i<j
 ·obtain ⟨c,hc⟩:∃c:Nat,((i:Int)+(j:Int)) / 2=(c:Int):=⟨(i+j) / 2,by omega⟩
  have hc1:i<=c:=by omega
  have hc2:c<j:=by omega
  have HCC:=hid hc
  have T1:((c:Nat):Int).toNat=c:=rfl
  have T2:((m:Nat):Int).toNat=m:=rfl
  clear hc
  have hgl:=HW.out.lt
  obtain ⟨y,hx,x0,x1,x2⟩:=HW.out.get (k:=m) (by omega)
  obtain ⟨x,hy,y0,y1,y2⟩:=HW.out.get (k:=c) (by omega)
  have KC:∀u,Calls Tryz.prog 33 #[.agg #[.string y.path,.int .i64 y.kind,.string y.text],.agg #[.string x.path,.int .i64 x.kind,.string x.text]] u (IntB (cmpC y x) u):=fun u=>aLs
  have HX:=hid hx
  have HYY:=hid hy
  clear hx hy
  go_wp2
  rw[HCC.out]
  refine aAd (fun u=>Below wr.heap.size wr u) [(true,0),(true,1),(true,2),(true,3),(true,4),(true,5),(true,6),(true,7),(true,8),(false,9),(true,10),(true,11)] mixed (by kernel_rfl) (Below.refl _ _).drew ?_
  intro T M Q hT hT' hM hQ
  have m0:M ⟨g,(m)*3,none⟩=some (.string y.path):=hM _ _ fun w' hw=>(hw.cell (p:=⟨g,(m)*3,none⟩) hgl).trans x0
  have m1:M ⟨g,(m)*3+1,none⟩=some (.int .i64 y.kind):=hM _ _ fun w' hw=>(hw.cell (p:=⟨g,(m)*3+1,none⟩) hgl).trans x1
  have m2:M ⟨g,(m)*3+2,none⟩=some (.string y.text):=hM _ _ fun w' hw=>(hw.cell (p:=⟨g,(m)*3+2,none⟩) hgl).trans x2
  have m3:M ⟨g,(c)*3,none⟩=some (.string x.path):=hM _ _ fun w' hw=>(hw.cell (p:=⟨g,(c)*3,none⟩) hgl).trans y0
  have m4:M ⟨g,(c)*3+1,none⟩=some (.int .i64 x.kind):=hM _ _ fun w' hw=>(hw.cell (p:=⟨g,(c)*3+1,none⟩) hgl).trans y1
  have m5:M ⟨g,(c)*3+2,none⟩=some (.string x.text):=hM _ _ fun w' hw=>(hw.cell (p:=⟨g,(c)*3+2,none⟩) hgl).trans y2
  clear hM x0 x1 x2 y0 y1 y2
  simp only[qcmp]
  simp (maxSteps:=9^7) only[↓qpre,aAb,aAf,aAc,m0,m1,m2,m3,m4,m5,T1,T2]
  (repeat refine ⟨by first|omega|(unfold inI64;omega),?_⟩)
  refine aAh (by kernel_rfl) (KC wr.drew) rfl rfl ?_
  rintro e w3 ⟨rfl,hb3⟩
  have hb3':Below wr.heap.size wr w3:=(Below.refl wr.heap.size wr).drew.trans hb3
  refine ⟨_,rfl,hT _ hb3',?_⟩
  have HW3:=hid (HW.out.below hb3')
  have HG3:=hid (HG.out.trans ((aAr hb3').but (some g)))
  generalize hz:cmpC y x=z
  have HZ:=hid hz
  clear hb3 hb3' KC hz
  simp (maxSteps:=9^7) only[↓qpre,aAb,aAc]
  refine hQ _ _ ?_
  clear hQ hT hT' m0 m1 m2 m3 m4 m5 hgl HW HG
  by_cases hz0:z<0
  ·have H2':Hid (c=m\/∀x y,cs[c]? = some x->cs[m]? = some y->leC x y=false):=hid (.inr fun p q hp hq=>by rw[HYY.out] at hp;rw[HX.out] at hq;cases hp;cases hq;exact aFq.2 (by rw[HZ.out];exact hz0))
   rw[decide_eq_true hz0]
   clear hz0 T1 T2
   go_wp2
   go_roundw
   case rel=>exact ⟨i,c,hi1,by omega,by omega,rfl,rfl,HW3,HG3,H1,H2'⟩
   simp[intOf];omega
  have H1':Hid (c+1=a\/∀x y,cs[c+1-1]? = some x->cs[m]? = some y->leC x y=true):=hid (.inr fun p q hp hq=>by rw[Nat.add_sub_cancel,HYY.out] at hp;rw[HX.out] at hq;cases hp;cases hq;exact aLr.2 (by rw[HZ.out];exact hz0))
  rw[decide_eq_false hz0]
  clear hz0 T1 T2
  go_wp2
  go_roundw
  case rel=>exact ⟨c+1,j,by omega,by omega,hjb,by go_num,rfl,HW3,HG3,H1',H2⟩
  simp[intOf];omega
 have hie:i=j:=by omega
 subst hie
 clear hlt
 have HN:=hid (aNn aCs aBh hbn hi1 hjb HY.out (by rcases H1.out with h | h;exact .inl h;exact .inr h) (by rcases H2.out with h | h;exact .inl h;exact .inr h))
 clear H1 H2 HY
 go_wp2
 go_loopw[17] (fun kv wr=>∃k:Nat,i<=k/\k<=m/\kv=.int .i64 k/\Hid (RowC wr g cap (rotL cs k m (m+1)))/\Hid (w.grownBy wr (some g))) (fun k _=>(intOf k).toNat)
 case atStart=>exact ⟨m,hjb,Nat.le_refl _,rfl,by rw[aEl (Nat.le_refl _) (Nat.le_succ m) (by omega) (.inl rfl)];exact HW,HG⟩
 obtain ⟨k,hk1,hk2,rfl,HW,HG⟩:=hrel
 by_cases hlt:i<k
 ·obtain ⟨k,rfl⟩:∃j,k=j+1:=⟨k-1,by omega⟩
  have hdl:(rotL cs (k+1) m (m+1)).length=cs.length:=aGu (by omega) (by omega) (by omega)
  have HDL:=hid (show m<(rotL cs (k+1) m (m+1)).length by omega)
  obtain ⟨x,hx,x0,x1,x2⟩:=HW.out.get (k:=k) (by omega)
  obtain ⟨y,hy,y0,y1,y2⟩:=HW.out.get (k:=k+1) (by omega)
  have HX:=hid hx
  have HY:=hid hy
  have T2:((k+1:Nat):Int).toNat=k+1:=rfl
  have T3:(((k+1:Nat):Int)-1).toNat=k:=by omega
  clear hx hy hdl
  go_wp2
  refine aAw (fun _=>True) (.q 0 (.q 1 (.q 2 (.q 3 (.q 4 (.q 5 (.q 6 (.q 7 (.q 8 (.q 10 (.q 11 (.q 12 (.two 9 (.one 13 (.q 14 (.one 15 (.q 16 (.one 17 .leaf))))) 13 (.one 9 (.q 14 (.one 15 (.q 16 (.one 17 .leaf)))))))))))))))))) mixed (by kernel_rfl) trivial ?_
  intro T M Q hT hT' hM hQ
  clear hM
  refine aDf ?_
  intro O hO
  have t0:=hO true 0
  have t1:=hO true 1
  have t2:=hO true 2
  have t3:=hO true 3
  have t4:=hO true 4
  have t5:=hO true 5
  have t6:=hO true 6
  have t7:=hO true 7
  have t8:=hO true 8
  have t10:=hO true 10
  have t11:=hO true 11
  have t12:=hO true 12
  have t14:=hO true 14
  have t16:=hO true 16
  have e9:=hO false 9
  have e13:=hO false 13
  have e15:=hO false 15
  have e17:=hO false 17
  simp only[qcmp] at t0 t1 t2 t3 t4 t5 t6 t7 t8 t10 t11 t12 t14 t16 e9 e13 e15 e17
  clear hO
  simp (maxSteps:=9^7) only[↓wt_q,↓aBc,t0,t1,t2,t3,t4,t5,t6,t7,t8,t10,t11,t12,e9,e13,↓qpre,aAb,aAf,aAc,T2,T3]
  (repeat refine ⟨by first|omega|(unfold inI64;omega),?_⟩)
  refine ⟨?o1,?o2⟩
  case' o1=>
   refine aDh fun N hN=>?_
   have n0:=hN _ _ x0
   have n1:=hN _ _ x1
   have n2:=hN _ _ x2
   simp (maxSteps:=9^7) only[↓aAj,e13,↓qpre,aAb,aAf,aAc,n0,n1,n2]
   clear n0 n1 n2 hN
   refine ⟨hT _ trivial,?_⟩
   try simp (maxSteps:=9^7) only[↓wt_q,↓aAj,↓aBc,t0,t1,t2,t3,t4,t5,t6,t7,t8,t10,t11,t12,t14,t16,e9,e13,e15,e17,↓qpre,aAb,aAf,aAc,T2,T3]
   refine aDh fun N hN=>?_
   have n0:=hN _ _ y0
   have n1:=hN _ _ y1
   have n2:=hN _ _ y2
   simp (maxSteps:=9^7) only[↓wt_q,↓aAj,t14,e15,↓qpre,aAb,aAf,aAc,T2,n0,n1,n2]
   clear n0 n1 n2 hN
   refine ⟨hT _ trivial,?_⟩
   try simp (maxSteps:=9^7) only[↓wt_q,↓aAj,↓aBc,t0,t1,t2,t3,t4,t5,t6,t7,t8,t10,t11,t12,t14,t16,e9,e13,e15,e17,↓qpre,aAb,aAf,aAc,T2,T3]
   (repeat refine ⟨by first|omega|(unfold inI64;omega),?_⟩)
   refine aAz (cs:=(rotL cs (k+1) m (m+1))) (k:=k+1) (c:=x) (HW.out.same (w':=wr.drew) rfl) (by have:=HDL.out;omega) rfl rfl rfl ?_
   intro u1 hu1 hg1
   refine ⟨hT _ trivial,?_⟩
   try simp (maxSteps:=9^7) only[↓wt_q,↓aAj,t16,e17,↓qpre,aAb,aAf,aAc,T3]
   (repeat refine ⟨by first|omega|(unfold inI64;omega),?_⟩)
   refine aAz (cs:=(rotL cs (k+1) m (m+1)).set (k+1) x) (k:=k) (c:=y) hu1 (by rw[List.length_set];have:=HDL.out;omega) rfl rfl rfl ?_
   intro u2 hu2 hg2
   refine ⟨hT _ trivial,?_⟩
   try simp (maxSteps:=9^7) only[aAb]
   refine hQ _ _ ?_
  case' o2=>
   refine aDh fun N hN=>?_
   have n0:=hN _ _ y0
   have n1:=hN _ _ y1
   have n2:=hN _ _ y2
   simp (maxSteps:=9^7) only[↓aAj,e9,↓qpre,aAb,aAf,aAc,n0,n1,n2]
   clear n0 n1 n2 hN
   refine ⟨hT _ trivial,?_⟩
   try simp (maxSteps:=9^7) only[↓wt_q,↓aAj,↓aBc,t0,t1,t2,t3,t4,t5,t6,t7,t8,t10,t11,t12,t14,t16,e9,e13,e15,e17,↓qpre,aAb,aAf,aAc,T2,T3]
   refine aDh fun N hN=>?_
   have n0:=hN _ _ x0
   have n1:=hN _ _ x1
   have n2:=hN _ _ x2
   simp (maxSteps:=9^7) only[↓wt_q,↓aAj,t14,e15,↓qpre,aAb,aAf,aAc,T2,n0,n1,n2]
   clear n0 n1 n2 hN
   refine ⟨hT _ trivial,?_⟩
   try simp (maxSteps:=9^7) only[↓wt_q,↓aAj,↓aBc,t0,t1,t2,t3,t4,t5,t6,t7,t8,t10,t11,t12,t14,t16,e9,e13,e15,e17,↓qpre,aAb,aAf,aAc,T2,T3]
   (repeat refine ⟨by first|omega|(unfold inI64;omega),?_⟩)
   refine aAz (cs:=(rotL cs (k+1) m (m+1))) (k:=k+1) (c:=x) (HW.out.same (w':=wr.drew) rfl) (by have:=HDL.out;omega) rfl rfl rfl ?_
   intro u1 hu1 hg1
   refine ⟨hT _ trivial,?_⟩
   try simp (maxSteps:=9^7) only[↓wt_q,↓aAj,t16,e17,↓qpre,aAb,aAf,aAc,T3]
   (repeat refine ⟨by first|omega|(unfold inI64;omega),?_⟩)
   refine aAz (cs:=(rotL cs (k+1) m (m+1)).set (k+1) x) (k:=k) (c:=y) hu1 (by rw[List.length_set];have:=HDL.out;omega) rfl rfl rfl ?_
   intro u2 hu2 hg2
   refine ⟨hT _ trivial,?_⟩
   try simp (maxSteps:=9^7) only[aAb]
   refine hQ _ _ ?_
  all_goals clear hQ hT hT' t0 t1 t2 t3 t4 t5 t6 t7 t8 t10 t11 t12 t14 t16 e9 e13 e15 e17
  all_goals
   have HW5:=hid (show RowC u2 g cap (rotL cs k m (m+1)) by rw[<-aXf (by omega) hbn (aGk HY.out HX.out)];exact hu2)
   have HG5:=hid (((HG.out.trans (show wr.grownBy wr.drew (some g) from ⟨rfl,rfl,rfl,Nat.le_refl _,fun _ _ _=>rfl⟩)).trans hg1).trans hg2)
   clear hu1 hg1 hu2 hg2 HW HG T2 T3 x0 x1 x2 y0 y1 y2
   go_wp2
   go_roundw
   case rel=>exact ⟨k,by omega,by omega,by go_num,HW5,HG5⟩
   simp[intOf]
 have hki:k=i:=by omega
 subst hki
 go_wp2
 refine bodyPost_ret (results_none rfl _ _ _) rfl ?_
 exact ⟨rfl,_,HN.out,HW.out,HG.out⟩
end Go.Proofs.YtcemkikgaeghjaaGreatDoor
