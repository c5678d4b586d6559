/- Texts of the walks, together: Walk: the order of clashes; slices.insertionSortCmpFunc of clashes. Walk: slices.rotateCmpFunc of clashes. -/
import Derived.Test.YtcemkikgaeghjaaGreatDoorG26
set_option maxHeartbeats 8000000
set_option maxRecDepth 100000
open Go.Lib (hid)
namespace Go.Proofs.YtcemkikgaeghjaaGreatDoor
open Go.RowKit
def cmpC (x y:CL):Int:=cmpS x.path y.path
def leC (x y:CL):Bool:=decide (x.path.data.toList<=y.path.data.toList)
theorem aFq {x y:CL}:leC x y=false↔cmpC y x<0:=by
 unfold leC cmpC
 rw[aGm,decide_eq_false_iff_not]
 exact Decidable.not_not
theorem aLr {x y:CL}:leC x y=true↔¬cmpC y x<0:=by
 rw[<-aFq];simp
theorem aCs (x:CL):leC x x=true:=decide_eq_true (List.le_refl _)
theorem aBh (x y z:CL)(h1:leC x y=true)(h2:leC y z=true):leC x z=true:=decide_eq_true (List.le_trans (of_decide_eq_true h1) (of_decide_eq_true h2))
theorem aIg (x y:CL):leC x y=true\/leC y x=true:=by
 rcases List.le_total x.path.data.toList y.path.data.toList with h | h
 ·exact .inl (decide_eq_true h)
 exact .inr (decide_eq_true h)
theorem aWu (l:List CL):sortC l=ssort leC l:=by
 unfold sortC ssort
 congr 1
 funext out c
 rw[bFv];rfl
def IntB (k:Int)(w:World)(e:Ending) (w':World):Prop:=e=.returned (.int .i64 k)/\Below w.heap.size w w'
def aggC (c:CL):Value:=.agg #[.string c.path,.int .i64 c.kind,.string c.text]
theorem aLs {x y:CL}{w:World}:Calls Tryz.prog 33 #[.agg #[.string x.path,.int .i64 x.kind,.string x.text],.agg #[.string y.path,.int .i64 y.kind,.string y.text]] w (IntB (cmpC x y) w):=by
 obtain ⟨V,eV⟩:∃V,V=(w.alloc (.cells #[.string x.path,.int .i64 x.kind,.string x.text] 36)).alloc (.cells #[.string y.path,.int .i64 y.kind,.string y.text] 36):=⟨_,rfl⟩
 have hb1:Below w.heap.size w (w.alloc (.cells #[.string x.path,.int .i64 x.kind,.string x.text] 36)):=(Below.refl _ _).alloc (Nat.le_refl _) _
 have hb2:Below (w.alloc (.cells #[.string x.path,.int .i64 x.kind,.string x.text] 36)).heap.size (w.alloc (.cells #[.string x.path,.int .i64 x.kind,.string x.text] 36)) V:=by rw[eV];exact (Below.refl _ _).alloc (Nat.le_refl _) _
 have HB:=hid (hb1.trans (hb2.mono hb1.size))
 have c0:V.cell? ⟨w.heap.size,0,none⟩=some (.string x.path):=by rw[Lib.cell_of_heap ((hb2.block w.heap.size (by simp)).trans (heap_alloc_new w _))];rfl
 have c1:V.cell? ⟨w.heap.size+1,0,none⟩=some (.string y.path):=by
  have:=heap_alloc_new (w.alloc (.cells #[.string x.path,.int .i64 x.kind,.string x.text] 36)) (.cells #[.string y.path,.int .i64 y.kind,.string y.text] 36)
  rw[<-eV] at this
  rw[Lib.cell_of_heap (b:=w.heap.size+1) (by simpa using this)];rfl
 have K:=aFx (a:=x.path) (b:=y.path) (w:=V)
 clear hb1 hb2
 go_enter Tryz.func33,Tryz.ntmps33
 rw[eV] at c0 c1 K HB
 go_wp2_with fail
 refine K.mono ?_
 rintro e w1 ⟨rfl,rfl⟩
 clear K c0 c1
 go_wp2
 go_ret
 exact ⟨rfl,HB.out⟩
theorem aVp {α:Type}{le:α->α->Bool}{d:List α}{u v:Nat}(h:v<=u+1):SegAs d d u v (ssort le (segL d u v)):=by
 have hl:(segL d u v).length<=1:=by unfold segL;rw[List.length_drop,List.length_take];omega
 have e:ssort le (segL d u v)=segL d u v:=by
  generalize segL d u v=l at hl
  match l,hl with
  | [],_=>rfl
  | [x],_=>simp[ssort]
 rw[e]
 exact SegAs.refl d u v
theorem aYx {α:Type}{d:List α}{j i:Nat}(h:j<=i)(hi:i<d.length):(rotL d j i (i+1))[j]? = d[i]?:=by
 rw[(aCt h (Nat.le_succ i) hi).at_,if_pos (by omega)];congr 1;omega
theorem aTo {w:World}{g cap a b:Nat}{cs:List CL}(h:RowC w g cap cs)(hab:a<=b)(hbn:b<=cs.length) :
  Calls Tryz.prog 112 #[.slice (some ⟨g,0,none⟩) cs.length cap,.int .i64 a,.int .i64 b,.func (.func 33) #[] #[]] w (RowTo (fun cs'=>SegAs cs cs' a b (ssort leC (segL cs a b))) g cap w):=by
 have HC:=hid (show cs.length<=1000000 from h.few)
 have hcl:cs.length<=1000000:=HC.out
 go_enter Tryz.func112,Tryz.ntmps112
 go_wp2
 go_loopw[8] (fun iv wr=>∃i:Nat,a+1<=i/\i<=max (a+1) b/\iv=.int .i64 i/\∃cs',Hid (SegAs cs cs' a (min i b) (ssort leC (segL cs a (min i b))))/\Hid (RowC wr g cap cs')/\Hid (w.grownBy wr (some g))) (fun i _=>b-(intOf i).toNat)
 case atStart=>exact ⟨a+1,Nat.le_refl _,Nat.le_max_left _ _,by go_num,cs,hid (aVp (by omega)),hid h,hid (World.grownBy.refl w _)⟩
 obtain ⟨i,hi1,hi2,rfl,cs',HR,HW,HG⟩:=hrel
 by_cases hlt:i<b
 ·have hl:cs'.length=cs.length:=HR.out.len
  have HL:=hid hl
  have HS:Hid (SegAs cs cs' a i (ssort leC (segL cs a i))):=by have:=HR.out;rwa [Nat.min_eq_left (by omega)] at this
  clear HR hl
  go_wp2
  go_loopw[9] (fun jv wr=>∃j:Nat,a<=j/\j<=i/\jv=.int .i64 j/\Hid (RowC wr g cap (rotL cs' j i (i+1)))/\Hid (w.grownBy wr (some g))/\Hid (j=i\/∀x y,cs'[j]? = some x->cs'[i]? = some y->leC x y=false)) (fun j _=>(intOf j).toNat)
  case atStart=>exact ⟨i,by omega,Nat.le_refl _,rfl,by rw[aEl (Nat.le_refl _) (Nat.le_succ _) (by have:=HL.out;omega) (.inl rfl)];exact HW,HG,hid (.inl rfl)⟩
  obtain ⟨j,hj1,hj2,rfl,HW2,HG2,HT⟩:=hrel
  clear HW HG
  have HWX:=hid HW2.out
  have hlt2:i<cs'.length:=by have:=HL.out;omega
  have hdl:(rotL cs' j i (i+1)).length=cs'.length:=aGu hj2 (Nat.le_succ i) hlt2
  have HDL:=hid hdl
  have HLT2:=hid hlt2
  by_cases hja:j=a
  ·subst hja
   have HN:Hid (SegAs cs (rotL cs' j i (i+1)) j (min (i+1) b) (ssort leC (segL cs j (min (i+1) b)))):=by
    rw[Nat.min_eq_left (by omega)]
    exact aOs (by have:=HL.out;omega) (by omega) HS.out (aNn aCs aBh hlt2 (Nat.le_refl _) hj2 (aEo (by rw[HS.out.here];exact aKg aBh aIg _)) (.inl rfl) (by rcases HT.out with h | h;exact .inl h;exact .inr h))
   have T1:decide ((j:Int) > (j:Int))=false:=by simp
   clear hlt2 hdl
   go_wp2
   refine aAd (fun _=>True) [(true,0),(true,1),(true,2),(true,3),(true,4),(true,5),(true,6),(true,7),(true,8),(true,9),(true,10),(true,11),(true,12),(true,13),(false,14),(true,15),(true,16)] mixed (by kernel_rfl) trivial ?_
   intro T M Q hT hT' hM hQ
   clear hM
   simp only[qcmp]
   simp (maxSteps:=9^7) only[↓qpre,aAb,aAc,T1]
   refine hQ _ _ ?_
   clear hQ hT hT' T1 HW2 HT HS
   have HGD:=hid (HG2.out.trans (show wr.grownBy wr.drew (some g) from ⟨rfl,rfl,rfl,Nat.le_refl _,fun _ _ _=>rfl⟩))
   have HWD:=hid (HWX.out.same (w':=wr.drew) rfl)
   go_wp2
   go_roundw
   case rel=>exact ⟨i+1,by omega,by omega,by go_num,_,HN,HWD,HGD⟩
   simp[intOf];omega
  obtain ⟨k,rfl⟩:∃k,j=k+1:=⟨j-1,by omega⟩
  obtain ⟨y,hy,y0,y1,y2⟩:=HW2.out.get (k:=k+1) (by omega)
  obtain ⟨x,hx,x0,x1,x2⟩:=HW2.out.get (k:=k) (by omega)
  have HY:=hid hy
  have HX:=hid hx
  have HY':Hid (cs'[i]? = some y):=by rw[<-aYx hj2 hlt2];exact hy
  have HX':Hid (cs'[k]? = some x):=by rw[<-aEb hj2 (Nat.le_succ i) hlt2 (t:=k) (.inl (Nat.lt_succ_self k))];exact hx
  have T1:decide (((k+1:Nat):Int) > (a:Int))=true:=decide_eq_true (by omega)
  have T2:((k+1:Nat):Int).toNat=k+1:=rfl
  have T3:(((k+1:Nat):Int)-1).toNat=k:=by omega
  have KC:∀u,Calls Tryz.prog 33 #[.agg #[.string y.path,.int .i64 y.kind,.string y.text],.agg #[.string x.path,.int .i64 x.kind,.string x.text]] u (IntB (cmpC y x) u):=fun u=>aLs
  have HDI:=hid (show i<(rotL cs' (k+1) i (i+1)).length by omega)
  clear hlt2 hdl hx hy
  go_wp2
  refine aAd (fun u=>Below wr.heap.size wr u) [(true,0),(true,1),(true,2),(true,3),(true,4),(true,5),(true,6),(true,7),(true,8),(true,9),(true,10),(true,11),(true,12),(true,13),(false,14),(true,15),(true,16)] mixed (by kernel_rfl) (Below.refl _ _).drew ?_
  intro T M Q hT hT' hM hQ
  have hgl:=HW2.out.lt
  have m0:M ⟨g,(k+1)*3,none⟩=some (.string y.path):=hM _ _ fun w' hw=>(hw.cell (p:=⟨g,(k+1)*3,none⟩) hgl).trans y0
  have m1:M ⟨g,(k+1)*3+1,none⟩=some (.int .i64 y.kind):=hM _ _ fun w' hw=>(hw.cell (p:=⟨g,(k+1)*3+1,none⟩) hgl).trans y1
  have m2:M ⟨g,(k+1)*3+2,none⟩=some (.string y.text):=hM _ _ fun w' hw=>(hw.cell (p:=⟨g,(k+1)*3+2,none⟩) hgl).trans y2
  have m3:M ⟨g,k*3,none⟩=some (.string x.path):=hM _ _ fun w' hw=>(hw.cell (p:=⟨g,k*3,none⟩) hgl).trans x0
  have m4:M ⟨g,k*3+1,none⟩=some (.int .i64 x.kind):=hM _ _ fun w' hw=>(hw.cell (p:=⟨g,k*3+1,none⟩) hgl).trans x1
  have m5:M ⟨g,k*3+2,none⟩=some (.string x.text):=hM _ _ fun w' hw=>(hw.cell (p:=⟨g,k*3+2,none⟩) hgl).trans x2
  clear hM
  simp only[qcmp]
  simp (maxSteps:=9^7) only[↓qpre,aAb,aAf,aAc,m0,m1,m2,m3,m4,m5,T1,T2,T3]
  (repeat refine ⟨by first|omega|(unfold inI64;omega),?_⟩)
  refine aAh (by kernel_rfl) (KC wr.drew) rfl rfl ?_
  rintro e w3 ⟨rfl,hb3⟩
  have hb3':Below wr.heap.size wr w3:=(Below.refl wr.heap.size wr).drew.trans hb3
  refine ⟨_,rfl,hT _ hb3',?_⟩
  have HW3:=hid (HW2.out.below hb3')
  have HG4:=hid (HG2.out.trans ((aAr hb3').but (some g)))
  replace x0:=(hb3'.cell (p:=⟨g,k*3,none⟩) hgl).trans x0
  replace x1:=(hb3'.cell (p:=⟨g,k*3+1,none⟩) hgl).trans x1
  replace x2:=(hb3'.cell (p:=⟨g,k*3+2,none⟩) hgl).trans x2
  replace y0:=(hb3'.cell (p:=⟨g,(k+1)*3,none⟩) hgl).trans y0
  replace y1:=(hb3'.cell (p:=⟨g,(k+1)*3+1,none⟩) hgl).trans y1
  replace y2:=(hb3'.cell (p:=⟨g,(k+1)*3+2,none⟩) hgl).trans y2
  generalize hz:cmpC y x=z
  have HZ:=hid hz
  clear hb3 hb3' KC hz
  simp (maxSteps:=9^7) only[↓qpre,aAb,aAc]
  refine hQ _ _ ?_
  clear hQ hT hT' m0 m1 m2 m3 m4 m5 T1 HW2 HG2
  by_cases hz0:z<0
  ·have HLT:Hid (cmpC y x<0):=by rw[HZ.out];exact hz0
   rw[decide_eq_true hz0]
   clear hz0
   go_wp2
   refine aAw (fun _=>True) (.q 0 (.q 1 (.q 2 (.q 3 (.q 4 (.q 5 (.q 6 (.q 7 (.q 8 (.q 10 (.q 11 (.q 12 (.two 9 (.one 13 (.q 14 (.one 15 (.q 16 (.one 17 .leaf))))) 13 (.one 9 (.q 14 (.one 15 (.q 16 (.one 17 .leaf)))))))))))))))))) mixed (by kernel_rfl) trivial ?_
   intro T M Q hT hT' hM hQ
   clear hM
   refine aDf ?_
   intro O hO
   have t0:=hO true 0
   have t1:=hO true 1
   have t2:=hO true 2
   have t3:=hO true 3
   have t4:=hO true 4
   have t5:=hO true 5
   have t6:=hO true 6
   have t7:=hO true 7
   have t8:=hO true 8
   have t10:=hO true 10
   have t11:=hO true 11
   have t12:=hO true 12
   have t14:=hO true 14
   have t16:=hO true 16
   have e9:=hO false 9
   have e13:=hO false 13
   have e15:=hO false 15
   have e17:=hO false 17
   simp only[qcmp] at t0 t1 t2 t3 t4 t5 t6 t7 t8 t10 t11 t12 t14 t16 e9 e13 e15 e17
   clear hO
   simp (maxSteps:=9^7) only[↓wt_q,↓aBc,t0,t1,t2,t3,t4,t5,t6,t7,t8,t10,t11,t12,e9,e13,↓qpre,aAb,aAf,aAc,T2,T3]
   (repeat refine ⟨by first|omega|(unfold inI64;omega),?_⟩)
   refine ⟨?o1,?o2⟩
   case' o1=>
    refine aDh fun N hN=>?_
    have n0:=hN _ _ x0
    have n1:=hN _ _ x1
    have n2:=hN _ _ x2
    simp (maxSteps:=9^7) only[↓aAj,e13,↓qpre,aAb,aAf,aAc,n0,n1,n2]
    clear n0 n1 n2 hN
    refine ⟨hT _ trivial,?_⟩
    try simp (maxSteps:=9^7) only[↓wt_q,↓aAj,↓aBc,t0,t1,t2,t3,t4,t5,t6,t7,t8,t10,t11,t12,t14,t16,e9,e13,e15,e17,↓qpre,aAb,aAf,aAc,T2,T3]
    refine aDh fun N hN=>?_
    have n0:=hN _ _ y0
    have n1:=hN _ _ y1
    have n2:=hN _ _ y2
    simp (maxSteps:=9^7) only[↓wt_q,↓aAj,t14,e15,↓qpre,aAb,aAf,aAc,T2,n0,n1,n2]
    clear n0 n1 n2 hN
    refine ⟨hT _ trivial,?_⟩
    try simp (maxSteps:=9^7) only[↓wt_q,↓aAj,↓aBc,t0,t1,t2,t3,t4,t5,t6,t7,t8,t10,t11,t12,t14,t16,e9,e13,e15,e17,↓qpre,aAb,aAf,aAc,T2,T3]
    (repeat refine ⟨by first|omega|(unfold inI64;omega),?_⟩)
    refine aAz (cs:=(rotL cs' (k+1) i (i+1))) (k:=k+1) (c:=x) (HW3.out.same (w':=w3.drew) rfl) (by have:=HDI.out;omega) rfl rfl rfl ?_
    intro u1 hu1 hg1
    refine ⟨hT _ trivial,?_⟩
    try simp (maxSteps:=9^7) only[↓wt_q,↓aAj,t16,e17,↓qpre,aAb,aAf,aAc,T3]
    (repeat refine ⟨by first|omega|(unfold inI64;omega),?_⟩)
    refine aAz (cs:=(rotL cs' (k+1) i (i+1)).set (k+1) x) (k:=k) (c:=y) hu1 (by rw[List.length_set];have:=HDI.out;omega) rfl rfl rfl ?_
    intro u2 hu2 hg2
    refine ⟨hT _ trivial,?_⟩
    try simp (maxSteps:=9^7) only[aAb]
    refine hQ _ _ ?_
   case' o2=>
    refine aDh fun N hN=>?_
    have n0:=hN _ _ y0
    have n1:=hN _ _ y1
    have n2:=hN _ _ y2
    simp (maxSteps:=9^7) only[↓aAj,e9,↓qpre,aAb,aAf,aAc,n0,n1,n2]
    clear n0 n1 n2 hN
    refine ⟨hT _ trivial,?_⟩
    try simp (maxSteps:=9^7) only[↓wt_q,↓aAj,↓aBc,t0,t1,t2,t3,t4,t5,t6,t7,t8,t10,t11,t12,t14,t16,e9,e13,e15,e17,↓qpre,aAb,aAf,aAc,T2,T3]
    refine aDh fun N hN=>?_
    have n0:=hN _ _ x0
    have n1:=hN _ _ x1
    have n2:=hN _ _ x2
    simp (maxSteps:=9^7) only[↓wt_q,↓aAj,t14,e15,↓qpre,aAb,aAf,aAc,T2,n0,n1,n2]
    clear n0 n1 n2 hN
    refine ⟨hT _ trivial,?_⟩
    try simp (maxSteps:=9^7) only[↓wt_q,↓aAj,↓aBc,t0,t1,t2,t3,t4,t5,t6,t7,t8,t10,t11,t12,t14,t16,e9,e13,e15,e17,↓qpre,aAb,aAf,aAc,T2,T3]
    (repeat refine ⟨by first|omega|(unfold inI64;omega),?_⟩)
    refine aAz (cs:=(rotL cs' (k+1) i (i+1))) (k:=k+1) (c:=x) (HW3.out.same (w':=w3.drew) rfl) (by have:=HDI.out;omega) rfl rfl rfl ?_
    intro u1 hu1 hg1
    refine ⟨hT _ trivial,?_⟩
    try simp (maxSteps:=9^7) only[↓wt_q,↓aAj,t16,e17,↓qpre,aAb,aAf,aAc,T3]
    (repeat refine ⟨by first|omega|(unfold inI64;omega),?_⟩)
    refine aAz (cs:=(rotL cs' (k+1) i (i+1)).set (k+1) x) (k:=k) (c:=y) hu1 (by rw[List.length_set];have:=HDI.out;omega) rfl rfl rfl ?_
    intro u2 hu2 hg2
    refine ⟨hT _ trivial,?_⟩
    try simp (maxSteps:=9^7) only[aAb]
    refine hQ _ _ ?_
   all_goals clear hQ hT hT' t0 t1 t2 t3 t4 t5 t6 t7 t8 t10 t11 t12 t14 t16 e9 e13 e15 e17
   all_goals
    have HW5:=hid (show RowC u2 g cap (rotL cs' k i (i+1)) by rw[<-aXf (by omega) HLT2.out (aGk HY.out HX.out)];exact hu2)
    have HG5:=hid (((HG4.out.trans (show w3.grownBy w3.drew (some g) from ⟨rfl,rfl,rfl,Nat.le_refl _,fun _ _ _=>rfl⟩)).trans hg1).trans hg2)
    have HT5:=hid (show k=i\/∀x y,cs'[k]? = some x->cs'[i]? = some y->leC x y=false from .inr fun p q hp hq=>by rw[HX'.out] at hp;rw[HY'.out] at hq;cases hp;cases hq;exact aFq.2 HLT.out)
    clear hu1 hg1 hu2 hg2 HW3 HG4 x0 x1 x2 y0 y1 y2
    go_wp2
    go_roundw
    case rel=>exact ⟨k,by omega,by omega,by go_num,HW5,HG5,HT5⟩
    simp[intOf]
  have HN:Hid (SegAs cs (rotL cs' (k+1) i (i+1)) a (min (i+1) b) (ssort leC (segL cs a (min (i+1) b)))):=by
   rw[Nat.min_eq_left (by omega)]
   exact aOs (by have:=HL.out;omega) (by omega) HS.out (aNn aCs aBh HLT2.out hj1 hj2 (aEo (by rw[HS.out.here];exact aKg aBh aIg _)) (.inr fun p q hp hq=>by
    rw[Nat.add_sub_cancel,HX'.out] at hp;rw[HY'.out] at hq;cases hp;cases hq;exact aLr.2 (by rw[HZ.out];exact hz0)) (by rcases HT.out with h | h;exact .inl h;exact .inr h))
  rw[decide_eq_false hz0]
  clear hz0 HS x0 x1 x2 y0 y1 y2 HT
  go_wp2
  go_roundw
  case rel=>exact ⟨i+1,by omega,by omega,by go_num,_,HN,HW3,HG4⟩
  simp[intOf];omega
 have HN:Hid (SegAs cs cs' a b (ssort leC (segL cs a b))):=by
  have:=HR.out
  rcases Nat.lt_or_ge b i with h | h
  ·rwa [Nat.min_eq_right (by omega)] at this
  rwa [Nat.min_eq_left (by omega),show i=b by omega] at this
 clear HR
 go_wp2
 refine bodyPost_end (results_none rfl _ _ _) rfl ?_
 exact ⟨rfl,cs',HN.out,HW.out,HG.out⟩
theorem Rot.lenEq {α:Type}{d F:List α}{m i j:Nat}(h:Rot d F m i j):d.length=F.length:=h.len.symm
theorem aXt {w:World}{g cap a m b:Nat}{cs:List CL}{f:Value}(h:RowC w g cap cs)(ham:a<m)(hmb:m<b)(hbn:b<=cs.length) :
  Calls Tryz.prog 147 #[.slice (some ⟨g,0,none⟩) cs.length cap,.int .i64 a,.int .i64 m,.int .i64 b,f] w (RowTo (fun cs'=>cs'=rotL cs a m b) g cap w):=by
 have HC:=hid (show cs.length<=1000000 from h.few)
 have hcl:cs.length<=1000000:=HC.out
 have HF:=hid (aGu (d:=cs) (by omega:a<=m) (by omega:m<=b) hbn)
 have HR0:=hid (aCt (d:=cs) (by omega:a<=m) (by omega:m<=b) hbn)
 generalize rotL cs a m b=F at *
 go_enter Tryz.func147,Tryz.ntmps147
 go_wp2
 go_loopw[10,11] (fun iv jv wr=>∃i j:Nat,1<=i/\1<=j/\i<=m/\m+j<=cs.length/\iv=.int .i64 i/\jv=.int .i64 j/\∃cs',Hid (Rot cs' F m i j)/\Hid (RowC wr g cap cs')/\Hid (w.grownBy wr (some g))) (fun i j _=>(intOf i).toNat+(intOf j).toNat)
 case atStart=>exact ⟨m-a,b-m,by omega,by omega,by omega,by omega,by go_num,by go_num,cs,HR0,hid h,hid (World.grownBy.refl w _)⟩
 obtain ⟨i,j,hi1,hj1,him,hmj,rfl,rfl,cs',HR,HW,HG⟩:=hrel
 have HL:=hid (show cs'.length=cs.length by rw[HR.out.lenEq,HF.out])
 rcases Nat.lt_trichotomy i j with hij | hij | hij
 ·have K:=aEx (a:=m-i) (b:=m+j-i) (n:=i) (f:=f) HW.out (by omega) (by rw[HL.out];omega)
  rw[HL.out,show ((m-i:Nat):Int)=(m:Int)-i by omega,show ((m+j-i:Nat):Int)=(m:Int)+j-i by omega] at K
  go_wp2_with fail
  refine K.mono ?_
  rintro e w1 ⟨rfl,cs2,hra,hw1,hg1⟩
  have HR1:=hid (HR.out.right hij hra)
  have HW1:=hid hw1
  have HG1:=hid (HG.out.trans hg1)
  clear K hra hw1 hg1 HR HW HG
  go_wp2
  go_roundw
  case rel=>exact ⟨i,j-i,by omega,by omega,by omega,by omega,by go_num,by go_num,cs2,HR1,HW1,HG1⟩
  simp[intOf];omega
 ·subst hij
  have K:=aEx (a:=m-i) (b:=m) (n:=i) (f:=f) HW.out (by omega) (by rw[HL.out];omega)
  rw[HL.out,show ((m-i:Nat):Int)=(m:Int)-i by omega] at K
  go_wp2_with fail
  refine K.mono ?_
  rintro e w1 ⟨rfl,cs2,hra,hw1,hg1⟩
  have HR1:=hid (HR.out.done hra)
  have HW1:=hid hw1
  have HG1:=hid (HG.out.trans hg1)
  clear K hra hw1 hg1 HR HW HG
  go_wp2
  refine bodyPost_end (results_none rfl _ _ _) rfl ?_
  exact ⟨rfl,cs2,HR1.out.symm,HW1.out,HG1.out⟩
 have K:=aEx (a:=m-i) (b:=m) (n:=j) (f:=f) HW.out (by omega) (by rw[HL.out];omega)
 rw[HL.out,show ((m-i:Nat):Int)=(m:Int)-i by omega] at K
 go_wp2_with fail
 refine K.mono ?_
 rintro e w1 ⟨rfl,cs2,hra,hw1,hg1⟩
 have HR1:=hid (HR.out.left hij hra)
 have HW1:=hid hw1
 have HG1:=hid (HG.out.trans hg1)
 clear K hra hw1 hg1 HR HW HG
 go_wp2
 go_roundw
 case rel=>exact ⟨i-j,j,by omega,by omega,by omega,by omega,by go_num,by go_num,cs2,HR1,HW1,HG1⟩
 simp[intOf];omega
end Go.Proofs.YtcemkikgaeghjaaGreatDoor
