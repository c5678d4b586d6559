/- Contracts of functions that the law reaches; plain laws. -/
import Derived.Test.YtohblmepajhpaaaGreatDoorG10
set_option maxHeartbeats 8000000
set_option maxRecDepth 100000
open Go.Lib (hid)
namespace Go.Proofs.YtohblmepajhpaaaGreatDoor
open Go.Proofs.Tryz (prog)
open Go.RowKit
variable {x y:CL}{w w0 w':World}{v f fv cv:Value}{i g cap a b s B k n mb N:Nat}{cs:List CL}{m:List FV×List CL}{xs:List Value}{Z:Nat->Obj->Prop}
def cmpC (x y:CL):Int:=cmpS x.path y.path
def leC (x y:CL):Bool:=decide (x.path.data.toList<=y.path.data.toList)
theorem aGt:leC x y=false↔cmpC y x<0:=by
 unfold leC cmpC;rw[aHo,eo];exact jH
theorem aMr:leC x y=true↔¬cmpC y x<0:=by
 rw[<-aGt];simp
theorem aCx(x:CL):leC x x=true:=aq (List.le_refl _)
theorem aBh(x y z:CL)(a:leC x y=true)(b:leC y z=true):leC x z=true:=aq (List.le_trans (aP a) (aP b))
theorem aJi(x y:CL):leC x y=true\/leC y x=true:=by
 rcases List.le_total x.path.data.toList y.path.data.toList with h | h
 ·exact .inl (aq h)
 exact .inr (aq h)
theorem bAm(l:List CL):sortC l=ssort leC l:=by
 unfold sortC ssort;congr 1;funext out c;rw[bLl];rfl
def IntB (k:Int)(w:World)(e:Ending) (w':World):Prop:=e=.returned (.int .i64 k)/\Below w.heap.size w w'
def aggC (c:CL):Value:=.agg #[.string c.path,.int .i64 c.kind,.string c.text]
theorem aMc:Calls prog 137 #[.agg #[.string x.path,.int .i64 x.kind,.string x.text],.agg #[.string y.path,.int .i64 y.kind,.string y.text]] w (IntB (cmpC x y) w):=by
 obtain ⟨V,f⟩:∃V,V=(w.alloc (.cells #[.string x.path,.int .i64 x.kind,.string x.text] 94)).alloc (.cells #[.string y.path,.int .i64 y.kind,.string y.text] 94):=⟨_,rfl⟩;have c:Below w.heap.size w (w.alloc (.cells #[.string x.path,.int .i64 x.kind,.string x.text] 94)):=(Below.refl _ _).alloc (aa _) _;have d:Below (w.alloc (.cells #[.string x.path,.int .i64 x.kind,.string x.text] 94)).heap.size (w.alloc (.cells #[.string x.path,.int .i64 x.kind,.string x.text] 94)) V:=by rw[f];exact (Below.refl _ _).alloc (aa _) _
 have g:=hid (c.trans (d.mono c.size));have h:V.cell? ⟨w.heap.size,0,none⟩=some (.string x.path):=by rw[ab ((d.block w.heap.size (by simp)).trans (au w _))];rfl
 have i:V.cell? ⟨w.heap.size+1,0,none⟩=some (.string y.path):=by
  have:=au (w.alloc (.cells #[.string x.path,.int .i64 x.kind,.string x.text] 94)) (.cells #[.string y.path,.int .i64 y.kind,.string y.text] 94);rw[<-f] at this;rw[ab (b:=w.heap.size+1) (by simpa using this)];rfl
 have K:=aGa (a:=x.path) (b:=y.path) (w:=V);clear c d;go_enter Tryz.func137,Tryz.ntmps137;rw[f] at h i K g;go_wp2_with fail;refine K.mono ?_;rintro e j ⟨rfl,rfl⟩;clear K h i;go_wp2;go_ret;exact ⟨rfl,g.out⟩
theorem aXd {α:Type}{le:α->α->Bool}{d:List α}{u v:Nat}(h:v<=u+1):SegAs d d u v (ssort le (segL d u v)):=by
 have a:(segL d u v).length<=1:=by unfold segL;rw[aN,aE];omega
 have e:ssort le (segL d u v)=segL d u v:=by
  generalize segL d u v=l at a
  match l,a with
  | [],_=>rfl
  | [x],_=>simp[ssort]
 rw[e];exact SegAs.refl d u v
theorem bAz {α:Type}{d:List α}{j:Nat}(h:j<=i)(a:i<d.length):(rotL d j i (i+1))[j]? = d[i]?:=by
 rw[(aCy h (dh i) a).at_,ao O];congr 1;omega
theorem aTk(h:RowC w g cap cs)(nM:a<=b)(nN:b<=cs.length) :
  Calls prog 199 #[.slice (some ⟨g,0,none⟩) cs.length cap,.int .i64 a,.int .i64 b,.func (.func 137) #[] #[]] w (RowTo (fun d=>SegAs cs d a b (ssort leC (segL cs a b))) g cap w):=by
 have HC:=hid (show cs.length<=1000000 from h.few);have nI:cs.length<=1000000:=HC.out;go_enter Tryz.func199,Tryz.ntmps199;go_wp2;go_loopw[8] (fun iv wr=>∃i:Nat,a+1<=i/\i<=max (a+1) b/\iv=.int .i64 i/\∃d,Hid (SegAs cs d a (min i b) (ssort leC (segL cs a (min i b))))/\Hid (RowC wr g cap d)/\Hid (w.grownBy wr (some g))) (fun i _=>b-(intOf i).toNat)
 case atStart=>exact ⟨a+1,aa _,Nat.le_max_left _ _,by go_num,cs,hid (aXd ω),hid h,hid (cW w _)⟩
 obtain ⟨i,nK,nL,rfl,d,HR,HW,HG⟩:=hrel;by_cases nO:i<b
 ·have hl:d.length=cs.length:=HR.out.len
  have HL:=hid hl;have HS:Hid (SegAs cs d a i (ssort leC (segL cs a i))):=by have:=HR.out;rwa [bP ω] at this
  clear HR hl;go_wp2;go_loopw[9] (fun jv wr=>∃j:Nat,a<=j/\j<=i/\jv=.int .i64 j/\Hid (RowC wr g cap (rotL d j i (i+1)))/\Hid (w.grownBy wr (some g))/\Hid (j=i\/∀x y,d[j]? = some x->d[i]? = some y->leC x y=false)) (fun j _=>(intOf j).toNat)
  case atStart=>exact ⟨i,ω,aa _,rfl,by rw[aEy (aa _) (dh _) (by have:=HL.out;omega) (.inl rfl)];exact HW,HG,hid (.inl rfl)⟩
  obtain ⟨j,nG,L,rfl,F,nk,HT⟩:=hrel;clear HW HG;have nz:=hid F.out;have m:i<d.length:=by have:=HL.out;omega
  have ff:(rotL d j i (i+1)).length=d.length:=aHl L (dh i) m;have nJ:=hid ff;have Y:=hid m;by_cases nH:j=a
  ·subst nH
   have HN:Hid (SegAs cs (rotL d j i (i+1)) j (min (i+1) b) (ssort leC (segL cs j (min (i+1) b)))):=by
    rw[bP ω];exact aPs (by have:=HL.out;omega) ω HS.out (aOc aCx aBh m (aa _) L (aFk (by rw[HS.out.here];exact aKo aBh aJi _)) (.inl rfl) (by rcases HT.out with h | h;exact .inl h;exact .inr h))
   have T1:decide ((j:Int) > (j:Int))=false:=(by simp);clear m ff;go_wp2;refine aAe (fun _=>True) [(true,0),(true,1),(true,2),(true,3),(true,4),(true,5),(true,6),(true,7),(true,8),(true,9),(true,10),(true,11),(true,12),(true,13),(false,14),(true,15),(true,16)] mixed κ trivial ?_;intro T M Q G P R W;clear R;simp only[qcmp];simp only[↓qpre,aAb,aAc,T1];refine W _ _ ?_;clear W G P T1 F HT HS;have nA:=hid (nk.out.trans (show wr.grownBy wr.drew (some g) from ⟨rfl,rfl,rfl,aa _,fun _ _ _=>rfl⟩));have nB:=hid (nz.out.same (w':=wr.drew) rfl);go_wp2;go_roundw
   case rel=>exact ⟨i+1,ω,ω,by go_num,_,HN,nB,nA⟩
   simp[intOf];omega
  obtain ⟨k,rfl⟩:∃k,j=k+1:=⟨j-1,ω⟩;obtain ⟨y,hy,y0,y1,y2⟩:=F.out.get (k:=k+1) ω;obtain ⟨x,hx,x0,x1,x2⟩:=F.out.get (k:=k) ω;have HY:=hid hy;have HX:=hid hx;have ns:Hid (d[i]? = some y):=by rw[<-bAz L m];exact hy
  have nu:Hid (d[k]? = some x):=by rw[<-aEr L (dh i) m (t:=k) (.inl (de k))];exact hx
  have T1:decide (((k+1:Nat):Int) > (a:Int))=true:=aq ω;have Z:((k+1:Nat):Int).toNat=k+1:=rfl;have T3:(((k+1:Nat):Int)-1).toNat=k:=ω;have KC:∀u,Calls prog 137 #[.agg #[.string y.path,.int .i64 y.kind,.string y.text],.agg #[.string x.path,.int .i64 x.kind,.string x.text]] u (IntB (cmpC y x) u):=fun u=>aMc;have U:=hid (show i<(rotL d (k+1) i (i+1)).length by omega);clear m ff hx hy;go_wp2;refine aAe (fun u=>Below wr.heap.size wr u) [(true,0),(true,1),(true,2),(true,3),(true,4),(true,5),(true,6),(true,7),(true,8),(true,9),(true,10),(true,11),(true,12),(true,13),(false,14),(true,15),(true,16)] mixed κ (Below.refl _ _).drew ?_;intro T M Q G P R W;have l:=F.out.lt;have m0:M ⟨g,(k+1)*3,none⟩=some (.string y.path):=R _ _ fun w' S=>(S.cell (p:=⟨g,(k+1)*3,none⟩) l).trans y0;have m1:M ⟨g,(k+1)*3+1,none⟩=some (.int .i64 y.kind):=R _ _ fun w' S=>(S.cell (p:=⟨g,(k+1)*3+1,none⟩) l).trans y1;have m2:M ⟨g,(k+1)*3+2,none⟩=some (.string y.text):=R _ _ fun w' S=>(S.cell (p:=⟨g,(k+1)*3+2,none⟩) l).trans y2;have m3:M ⟨g,k*3,none⟩=some (.string x.path):=R _ _ fun w' S=>(S.cell (p:=⟨g,k*3,none⟩) l).trans x0;have m4:M ⟨g,k*3+1,none⟩=some (.int .i64 x.kind):=R _ _ fun w' S=>(S.cell (p:=⟨g,k*3+1,none⟩) l).trans x1;have m5:M ⟨g,k*3+2,none⟩=some (.string x.text):=R _ _ fun w' S=>(S.cell (p:=⟨g,k*3+2,none⟩) l).trans x2;clear R;simp only[qcmp];simp only[↓qpre,aAb,aAg,aAc,m0,m1,m2,m3,m4,m5,T1,Z,T3];(repeat refine And.intro (by first|omega|(unfold inI64;omega)) ?_);refine aAh κ (KC wr.drew) rfl rfl ?_
  rintro e w3 ⟨rfl,nw⟩;have f:Below wr.heap.size wr w3:=(Below.refl wr.heap.size wr).drew.trans nw;refine ⟨_,rfl,G _ f,?_⟩;have V:=hid (F.out.below f);have nj:=hid (nk.out.trans ((aAs f).but (some g)));replace x0:=(f.cell (p:=⟨g,k*3,none⟩) l).trans x0;replace x1:=(f.cell (p:=⟨g,k*3+1,none⟩) l).trans x1;replace x2:=(f.cell (p:=⟨g,k*3+2,none⟩) l).trans x2;replace y0:=(f.cell (p:=⟨g,(k+1)*3,none⟩) l).trans y0;replace y1:=(f.cell (p:=⟨g,(k+1)*3+1,none⟩) l).trans y1;replace y2:=(f.cell (p:=⟨g,(k+1)*3+2,none⟩) l).trans y2;generalize hz:cmpC y x=z;have HZ:=hid hz;clear nw f KC hz;simp only[↓qpre,aAb,aAc];refine W _ _ ?_;clear W G P m0 m1 m2 m3 m4 m5 T1 F nk;by_cases H:z<0
  ·have nC:Hid (cmpC y x<0):=by rw[HZ.out];exact H
   rw[aq H];clear H;go_wp2;refine aAv (fun _=>True) (.q 0 (.q 1 (.q 2 (.q 3 (.q 4 (.q 5 (.q 6 (.q 7 (.q 8 (.q 10 (.q 11 (.q 12 (.two 9 (.one 13 (.q 14 (.one 15 (.q 16 (.one 17 .leaf))))) 13 (.one 9 (.q 14 (.one 15 (.q 16 (.one 17 .leaf)))))))))))))))))) mixed κ trivial ?_;intro T M Q G P R W;clear R;refine aCu ?_;intro O n;have t0:=n true 0;have t1:=n true 1;have t2:=n true 2;have t3:=n true 3;have t4:=n true 4;have t5:=n true 5;have t6:=n true 6;have t7:=n true 7;have t8:=n true 8;have C:=n true 10;have D:=n true 11;have E:=n true 12;have r:=n true 14;have s:=n true 16;have e9:=n false 9;have v:=n false 13;have A:=n false 15;have B:=n false 17;simp only[qcmp] at t0 t1 t2 t3 t4 t5 t6 t7 t8 C D E r s e9 v A B;clear n;simp only[↓wt_q,↓aBe,t0,t1,t2,t3,t4,t5,t6,t7,t8,C,D,E,e9,v,↓qpre,aAb,aAg,aAc,Z,T3];(repeat refine And.intro (by first|omega|(unfold inI64;omega)) ?_);refine ⟨?o1,?o2⟩
   case' o1=>
    refine aDn fun N o=>?_;have I:=o _ _ x0;have J:=o _ _ x1;have K:=o _ _ x2;simp only[↓aAn,v,↓qpre,aAb,aAg,aAc,I,J,K];clear I J K o;refine ⟨G _ trivial,?_⟩
    try simp only[↓wt_q,↓aAn,↓aBe,t0,t1,t2,t3,t4,t5,t6,t7,t8,C,D,E,r,s,e9,v,A,B,↓qpre,aAb,aAg,aAc,Z,T3]
    refine aDn fun N o=>?_;have I:=o _ _ y0;have J:=o _ _ y1;have K:=o _ _ y2;simp only[↓wt_q,↓aAn,r,A,↓qpre,aAb,aAg,aAc,Z,I,J,K];clear I J K o;refine ⟨G _ trivial,?_⟩
    try simp only[↓wt_q,↓aAn,↓aBe,t0,t1,t2,t3,t4,t5,t6,t7,t8,C,D,E,r,s,e9,v,A,B,↓qpre,aAb,aAg,aAc,Z,T3]
    (repeat refine And.intro (by first|omega|(unfold inI64;omega)) ?_);refine aBb (cs:=(rotL d (k+1) i (i+1))) (k:=k+1) (c:=x) (V.out.same (w':=w3.drew) rfl) (by have:=U.out;omega) rfl rfl rfl ?_;intro u1 X nm;refine ⟨G _ trivial,?_⟩
    try simp only[↓wt_q,↓aAn,s,B,↓qpre,aAb,aAg,aAc,T3]
    (repeat refine And.intro (by first|omega|(unfold inI64;omega)) ?_);refine aBb (cs:=(rotL d (k+1) i (i+1)).set (k+1) x) (k:=k) (c:=y) X (by rw[du];have:=U.out;omega) rfl rfl rfl ?_;intro u2 nq nr;refine ⟨G _ trivial,?_⟩
    try simp only[aAb]
    refine W _ _ ?_
   case' o2=>
    refine aDn fun N o=>?_;have I:=o _ _ y0;have J:=o _ _ y1;have K:=o _ _ y2;simp only[↓aAn,e9,↓qpre,aAb,aAg,aAc,I,J,K];clear I J K o;refine ⟨G _ trivial,?_⟩
    try simp only[↓wt_q,↓aAn,↓aBe,t0,t1,t2,t3,t4,t5,t6,t7,t8,C,D,E,r,s,e9,v,A,B,↓qpre,aAb,aAg,aAc,Z,T3]
    refine aDn fun N o=>?_;have I:=o _ _ x0;have J:=o _ _ x1;have K:=o _ _ x2;simp only[↓wt_q,↓aAn,r,A,↓qpre,aAb,aAg,aAc,Z,I,J,K];clear I J K o;refine ⟨G _ trivial,?_⟩
    try simp only[↓wt_q,↓aAn,↓aBe,t0,t1,t2,t3,t4,t5,t6,t7,t8,C,D,E,r,s,e9,v,A,B,↓qpre,aAb,aAg,aAc,Z,T3]
    (repeat refine And.intro (by first|omega|(unfold inI64;omega)) ?_);refine aBb (cs:=(rotL d (k+1) i (i+1))) (k:=k+1) (c:=x) (V.out.same (w':=w3.drew) rfl) (by have:=U.out;omega) rfl rfl rfl ?_;intro u1 X nm;refine ⟨G _ trivial,?_⟩
    try simp only[↓wt_q,↓aAn,s,B,↓qpre,aAb,aAg,aAc,T3]
    (repeat refine And.intro (by first|omega|(unfold inI64;omega)) ?_);refine aBb (cs:=(rotL d (k+1) i (i+1)).set (k+1) x) (k:=k) (c:=y) X (by rw[du];have:=U.out;omega) rfl rfl rfl ?_;intro u2 nq nr;refine ⟨G _ trivial,?_⟩
    try simp only[aAb]
    refine W _ _ ?_
   all_goals clear W G P t0 t1 t2 t3 t4 t5 t6 t7 t8 C D E r s e9 v A B
   all_goals
    have nD:=hid (show RowC u2 g cap (rotL d k i (i+1)) by rw[<-aZv ω Y.out (aHm HY.out HX.out)];exact nq);have nE:=hid (((nj.out.trans (show w3.grownBy w3.drew (some g) from ⟨rfl,rfl,rfl,aa _,fun _ _ _=>rfl⟩)).trans nm).trans nr);have nF:=hid (show k=i\/∀x y,d[k]? = some x->d[i]? = some y->leC x y=false from .inr fun p q hp hq=>by rw[nu.out] at hp;rw[ns.out] at hq;cases hp;cases hq;exact aGt.2 nC.out);clear X nm nq nr V nj x0 x1 x2 y0 y1 y2;go_wp2;go_roundw
    case rel=>exact ⟨k,ω,ω,by go_num,nD,nE,nF⟩
    simp[intOf]
  have HN:Hid (SegAs cs (rotL d (k+1) i (i+1)) a (min (i+1) b) (ssort leC (segL cs a (min (i+1) b)))):=by
   rw[bP ω]
   exact aPs (by have:=HL.out;omega) ω HS.out (aOc aCx aBh Y.out nG L (aFk (by rw[HS.out.here];exact aKo aBh aJi _)) (.inr fun p q hp hq=>by
    rw[fP,nu.out] at hp;rw[ns.out] at hq;cases hp;cases hq;exact aMr.2 (by rw[HZ.out];exact H)) (by rcases HT.out with h | h;exact .inl h;exact .inr h))
  rw[ak H];clear H HS x0 x1 x2 y0 y1 y2 HT;go_wp2;go_roundw
  case rel=>exact ⟨i+1,ω,ω,by go_num,_,HN,V,nj⟩
  simp[intOf];omega
 have HN:Hid (SegAs cs d a b (ssort leC (segL cs a b))):=by
  have:=HR.out;rcases bo b i with h | h
  ·rwa [Nat.min_eq_right ω] at this
  rwa [bP ω,show i=b by omega] at this
 clear HR;go_wp2;refine aI (aF rfl _ _ _) rfl ?_;exact ⟨rfl,d,HN.out,HW.out,HG.out⟩
theorem Rot.lenEq {α:Type}{d F:List α}{m j:Nat}(h:Rot d F m i j):d.length=F.length:=h.len.symm
theorem bDs {m:Nat}(h:RowC w g cap cs)(N:a<m)(O:m<b)(z:b<=cs.length) :
  Calls prog 232 #[.slice (some ⟨g,0,none⟩) cs.length cap,.int .i64 a,.int .i64 m,.int .i64 b,f] w (RowTo (fun o=>o=rotL cs a m b) g cap w):=by
 have C:=hid (show cs.length<=1000000 from h.few);have D:cs.length<=1000000:=C.out;have E:=hid (aHl (d:=cs) (by omega:a<=m) (by omega:m<=b) z);have A:=hid (aCy (d:=cs) (by omega:a<=m) (by omega:m<=b) z);generalize rotL cs a m b=F at *;go_enter Tryz.func232,Tryz.ntmps232;go_wp2;go_loopw[10,11] (fun L M wr=>∃i j:Nat,1<=i/\1<=j/\i<=m/\m+j<=cs.length/\L=.int .i64 i/\M=.int .i64 j/\∃o,Hid (Rot o F m i j)/\Hid (RowC wr g cap o)/\Hid (w.grownBy wr (some g))) (fun i j _=>(intOf i).toNat+(intOf j).toNat)
 case atStart=>exact ⟨m-a,b-m,ω,ω,ω,ω,by go_num,by go_num,cs,A,hid h,hid (cW w _)⟩
 obtain ⟨i,j,G,H,I,J,rfl,rfl,o,u,x,y⟩:=hrel;have v:=hid (show o.length=cs.length by rw[u.out.lenEq,E.out]);rcases eZ i j with t | t | t
 ·have K:=aFi (a:=m-i) (b:=m+j-i) (n:=i) (f:=f) x.out ω (by rw[v.out];omega)
  rw[v.out,show ((m-i:Nat):Int)=(m:Int)-i by omega,show ((m+j-i:Nat):Int)=(m:Int)+j-i by omega] at K;go_wp2_with fail;refine K.mono ?_;rintro e B ⟨rfl,s,c,k,l⟩;have p:=hid (u.out.right t c);have q:=hid k;have r:=hid (y.out.trans l);clear K c k l u x y;go_wp2;go_roundw
  case rel=>exact ⟨i,j-i,ω,ω,ω,ω,by go_num,by go_num,s,p,q,r⟩
  simp[intOf];omega
 ·subst t
  have K:=aFi (a:=m-i) (b:=m) (n:=i) (f:=f) x.out ω (by rw[v.out];omega);rw[v.out,show ((m-i:Nat):Int)=(m:Int)-i by omega] at K;go_wp2_with fail;refine K.mono ?_;rintro e B ⟨rfl,s,c,k,l⟩;have p:=hid (u.out.done c);have q:=hid k;have r:=hid (y.out.trans l);clear K c k l u x y;go_wp2;refine aI (aF rfl _ _ _) rfl ?_;exact ⟨rfl,s,p.out.symm,q.out,r.out⟩
 have K:=aFi (a:=m-i) (b:=m) (n:=j) (f:=f) x.out ω (by rw[v.out];omega);rw[v.out,show ((m-i:Nat):Int)=(m:Int)-i by omega] at K;go_wp2_with fail;refine K.mono ?_;rintro e B ⟨rfl,s,c,k,l⟩;have p:=hid (u.out.left t c);have q:=hid k;have r:=hid (y.out.trans l);clear K c k l u x y;go_wp2;go_roundw
 case rel=>exact ⟨i-j,j,ω,ω,ω,ω,by go_num,by go_num,s,p,q,r⟩
 simp[intOf];omega
def SymIs (w:World)(g cap a m b:Nat)(cs:List CL):Ending->World->Prop:=RowTo (fun cs'=>SegAs cs cs' a b (List.merge (segL cs a m) (segL cs m b) leC)) g cap w
theorem bKy(h:RowC w g cap cs)(nQ:a+1<b)(nK:b<=cs.length)(U:Asc leC cs (a+1) b) :
  Calls prog 200 #[.slice (some ⟨g,0,none⟩) cs.length cap,.int .i64 a,.int .i64 ((a+1:Nat):Int),.int .i64 b,.func (.func 137) #[] #[]] w (SymIs w g cap a (a+1) b cs):=by
 have HC:=hid (show cs.length<=1000000 from h.few);have nL:cs.length<=1000000:=HC.out;have HY:=hid U;clear U;have T0:(((a+1:Nat):Int)-(a:Int) == 1)=true:=by rw[show ((a+1:Nat):Int)-(a:Int)=1 by omega];rfl
 go_enter mi,kV;go_wp2;go_loopw[10,11] (fun iv jv wr=>∃i j:Nat,a+1<=i/\i<=j/\j<=b/\iv=.int .i64 i/\jv=.int .i64 j/\Hid (RowC wr g cap cs)/\Hid (w.grownBy wr (some g))/\Hid (i=a+1\/∀x y,cs[a]? = some x->cs[i-1]? = some y->leC x y=false)/\Hid (j=b\/∀x y,cs[a]? = some x->cs[j]? = some y->leC x y=true)) (fun i j _=>(intOf j).toNat-(intOf i).toNat)
 case atStart=>exact ⟨a+1,b,aa _,ω,aa _,rfl,rfl,hid h,hid (cW w _),hid (.inl rfl),hid (.inl rfl)⟩
 obtain ⟨i,j,ff,nO,nw,rfl,rfl,C,HG,H1,H2⟩:=hrel;by_cases nA:i<j
 ·obtain ⟨c,hc⟩:∃c:Nat,((i:Int)+(j:Int)) / 2=(c:Int):=⟨(i+j) / 2,ω⟩
  have nM:i<=c:=ω;have nN:c<j:=ω;have nB:=hid hc;have E:((c:Nat):Int).toNat=c:=rfl;have F:((a:Nat):Int).toNat=a:=rfl;clear hc;have s:=C.out.lt;obtain ⟨y,hx,x0,x1,x2⟩:=C.out.get (k:=c) ω;obtain ⟨x,U,y0,y1,y2⟩:=C.out.get (k:=a) ω;have KC:∀u,Calls prog 137 #[.agg #[.string y.path,.int .i64 y.kind,.string y.text],.agg #[.string x.path,.int .i64 x.kind,.string x.text]] u (IntB (cmpC y x) u):=fun u=>aMc;have HX:=hid hx;have nr:=hid U;clear hx U;go_wp2;rw[nB.out];refine aAe (fun u=>Below wr.heap.size wr u) [(true,0),(true,1),(true,2),(true,3),(true,4),(true,5),(true,6),(true,7),(true,8),(false,9),(true,10)] mixed κ (Below.refl _ _).drew ?_;intro T M Q G nj P hQ;have m0:M ⟨g,(c)*3,none⟩=some (.string y.path):=P _ _ fun w' K=>(K.cell (p:=⟨g,(c)*3,none⟩) s).trans x0;have m1:M ⟨g,(c)*3+1,none⟩=some (.int .i64 y.kind):=P _ _ fun w' K=>(K.cell (p:=⟨g,(c)*3+1,none⟩) s).trans x1;have m2:M ⟨g,(c)*3+2,none⟩=some (.string y.text):=P _ _ fun w' K=>(K.cell (p:=⟨g,(c)*3+2,none⟩) s).trans x2;have m3:M ⟨g,(a)*3,none⟩=some (.string x.path):=P _ _ fun w' K=>(K.cell (p:=⟨g,(a)*3,none⟩) s).trans y0;have m4:M ⟨g,(a)*3+1,none⟩=some (.int .i64 x.kind):=P _ _ fun w' K=>(K.cell (p:=⟨g,(a)*3+1,none⟩) s).trans y1;have m5:M ⟨g,(a)*3+2,none⟩=some (.string x.text):=P _ _ fun w' K=>(K.cell (p:=⟨g,(a)*3+2,none⟩) s).trans y2;clear P x0 x1 x2 y0 y1 y2;simp only[qcmp];simp only[↓qpre,aAb,aAg,aAc,m0,m1,m2,m3,m4,m5,E,F];(repeat refine And.intro (by first|omega|(unfold inI64;omega)) ?_);refine aAh κ (KC wr.drew) rfl rfl ?_
  rintro e w3 ⟨rfl,nz⟩;have B:Below wr.heap.size wr w3:=(Below.refl wr.heap.size wr).drew.trans nz;refine ⟨_,rfl,G _ B,?_⟩;have ns:=hid (C.out.below B);have nu:=hid (HG.out.trans ((aAs B).but (some g)));generalize hz:cmpC y x=z;have HZ:=hid hz;clear nz B KC hz;simp only[↓qpre,aAb,aAc];refine hQ _ _ ?_;clear hQ G nj m0 m1 m2 m3 m4 m5 s C HG;by_cases D:z<0
  ·have nC:Hid (c+1=a+1\/∀x y,cs[a]? = some x->cs[c+1-1]? = some y->leC x y=false):=hid (.inr fun p q hp hq=>by rw[nr.out] at hp;rw[fP,HX.out] at hq;cases hp;cases hq;exact aGt.2 (by rw[HZ.out];exact D))
   rw[aq D];clear D E F;go_wp2;go_roundw
   case rel=>exact ⟨c+1,j,ω,ω,nw,by go_num,rfl,ns,nu,nC,H2⟩
   simp[intOf];omega
  have nD:Hid (c=b\/∀x y,cs[a]? = some x->cs[c]? = some y->leC x y=true):=hid (.inr fun p q hp hq=>by rw[nr.out] at hp;rw[HX.out] at hq;cases hp;cases hq;exact aMr.2 (by rw[HZ.out];exact D));rw[ak D];clear D E F;go_wp2;go_roundw
  case rel=>exact ⟨i,c,ff,ω,ω,rfl,rfl,ns,nu,H1,nD⟩
  simp[intOf];omega
 have nE:i=j:=ω;subst nE;clear nA;have HN:=hid (bKq aCx aBh nK ff nw HY.out (by rcases H2.out with h | h;exact .inl h;exact .inr h) (by rcases H1.out with h | h;exact .inl h;exact .inr h));clear H1 H2 HY;go_wp2;go_loopw[13] (fun kv wr=>∃k:Nat,a<=k/\k+1<=i/\kv=.int .i64 k/\Hid (RowC wr g cap (rotL cs a (a+1) (k+1)))/\Hid (w.grownBy wr (some g))) (fun k _=>i-(intOf k).toNat)
 case atStart=>exact ⟨a,aa _,ff,rfl,by rw[aEy (dh a) (aa _) ω (.inr rfl)];exact C,HG⟩
 obtain ⟨k,nJ,nP,rfl,C,HG⟩:=hrel;by_cases nA:k+1<i
 ·have nF:(rotL cs a (a+1) (k+1)).length=cs.length:=aHl ω ω ω
  have L:=hid (show i<=(rotL cs a (a+1) (k+1)).length by omega);obtain ⟨x,hx,x0,x1,x2⟩:=C.out.get (k:=k) ω;obtain ⟨y,U,y0,y1,y2⟩:=C.out.get (k:=k+1) ω;have HX:=hid hx;have HY:=hid U;have E:((k:Nat):Int).toNat=k:=rfl;have F:((k:Int)+1).toNat=k+1:=ω;clear hx U nF;go_wp2;refine aAv (fun _=>True) (.q 0 (.q 1 (.q 2 (.q 3 (.q 4 (.q 5 (.q 6 (.q 7 (.q 8 (.q 10 (.q 11 (.q 12 (.two 9 (.one 13 (.q 14 (.one 15 (.q 16 (.one 17 .leaf))))) 13 (.one 9 (.q 14 (.one 15 (.q 16 (.one 17 .leaf)))))))))))))))))) mixed κ trivial ?_;intro T M Q G nj P hQ;clear P;refine aCu ?_;intro O d;have V:=d true 0;have W:=d true 1;have X:=d true 2;have Y:=d true 3;have Z:=d true 4;have t5:=d true 5;have t6:=d true 6;have t7:=d true 7;have t8:=d true 8;have t:=d true 10;have v:=d true 11;have A:=d true 12;have l:=d true 14;have m:=d true 16;have S:=d false 9;have n:=d false 13;have o:=d false 15;have r:=d false 17;simp only[qcmp] at V W X Y Z t5 t6 t7 t8 t v A l m S n o r;clear d;simp only[↓wt_q,↓aBe,V,W,X,Y,Z,t5,t6,t7,t8,t,v,A,S,n,↓qpre,aAb,aAg,aAc,E,F];(repeat refine And.intro (by first|omega|(unfold inI64;omega)) ?_);refine ⟨?o1,?o2⟩
  case' o1=>
   refine aDn fun N f=>?_;have H:=f _ _ y0;have I:=f _ _ y1;have J:=f _ _ y2;simp only[↓aAn,n,↓qpre,aAb,aAg,aAc,H,I,J];clear H I J f;refine ⟨G _ trivial,?_⟩
   try simp only[↓wt_q,↓aAn,↓aBe,V,W,X,Y,Z,t5,t6,t7,t8,t,v,A,l,m,S,n,o,r,↓qpre,aAb,aAg,aAc,E,F]
   refine aDn fun N f=>?_;have H:=f _ _ x0;have I:=f _ _ x1;have J:=f _ _ x2;simp only[↓wt_q,↓aAn,l,o,↓qpre,aAb,aAg,aAc,E,H,I,J];clear H I J f;refine ⟨G _ trivial,?_⟩
   try simp only[↓wt_q,↓aAn,↓aBe,V,W,X,Y,Z,t5,t6,t7,t8,t,v,A,l,m,S,n,o,r,↓qpre,aAb,aAg,aAc,E,F]
   (repeat refine And.intro (by first|omega|(unfold inI64;omega)) ?_);refine aBb (cs:=(rotL cs a (a+1) (k+1))) (k:=k) (c:=y) (C.out.same (w':=wr.drew) rfl) (by have:=L.out;omega) rfl rfl rfl ?_;intro u1 R nk;refine ⟨G _ trivial,?_⟩
   try simp only[↓wt_q,↓aAn,m,r,↓qpre,aAb,aAg,aAc,F]
   (repeat refine And.intro (by first|omega|(unfold inI64;omega)) ?_);refine aBb (cs:=(rotL cs a (a+1) (k+1)).set (k) y) (k:=k+1) (c:=x) R (by rw[du];have:=L.out;omega) rfl rfl rfl ?_;intro u2 nm nq;refine ⟨G _ trivial,?_⟩
   try simp only[aAb]
   refine hQ _ _ ?_
  case' o2=>
   refine aDn fun N f=>?_;have H:=f _ _ x0;have I:=f _ _ x1;have J:=f _ _ x2;simp only[↓aAn,S,↓qpre,aAb,aAg,aAc,H,I,J];clear H I J f;refine ⟨G _ trivial,?_⟩
   try simp only[↓wt_q,↓aAn,↓aBe,V,W,X,Y,Z,t5,t6,t7,t8,t,v,A,l,m,S,n,o,r,↓qpre,aAb,aAg,aAc,E,F]
   refine aDn fun N f=>?_;have H:=f _ _ y0;have I:=f _ _ y1;have J:=f _ _ y2;simp only[↓wt_q,↓aAn,l,o,↓qpre,aAb,aAg,aAc,E,H,I,J];clear H I J f;refine ⟨G _ trivial,?_⟩
   try simp only[↓wt_q,↓aAn,↓aBe,V,W,X,Y,Z,t5,t6,t7,t8,t,v,A,l,m,S,n,o,r,↓qpre,aAb,aAg,aAc,E,F]
   (repeat refine And.intro (by first|omega|(unfold inI64;omega)) ?_);refine aBb (cs:=(rotL cs a (a+1) (k+1))) (k:=k) (c:=y) (C.out.same (w':=wr.drew) rfl) (by have:=L.out;omega) rfl rfl rfl ?_;intro u1 R nk;refine ⟨G _ trivial,?_⟩
   try simp only[↓wt_q,↓aAn,m,r,↓qpre,aAb,aAg,aAc,F]
   (repeat refine And.intro (by first|omega|(unfold inI64;omega)) ?_);refine aBb (cs:=(rotL cs a (a+1) (k+1)).set (k) y) (k:=k+1) (c:=x) R (by rw[du];have:=L.out;omega) rfl rfl rfl ?_;intro u2 nm nq;refine ⟨G _ trivial,?_⟩
   try simp only[aAb]
   refine hQ _ _ ?_
  all_goals clear hQ G nj V W X Y Z t5 t6 t7 t8 t v A l m S n o r
  all_goals
   have nG:=hid (show RowC u2 g cap (rotL cs a (a+1) (k+2)) by rw[<-bIn nJ ω (aHm HX.out HY.out)];exact nm);have nH:=hid (((HG.out.trans (show wr.grownBy wr.drew (some g) from ⟨rfl,rfl,rfl,aa _,fun _ _ _=>rfl⟩)).trans nk).trans nq);clear R nk nm nq C HG E F x0 x1 x2 y0 y1 y2;go_wp2;go_roundw
   case rel=>exact ⟨k+1,ω,ω,by go_num,nG,nH⟩
   simp[intOf];omega
 have nI:k+1=i:=ω;subst nI;go_wp2;refine bz (aF rfl _ _ _) rfl ?_;exact ⟨rfl,_,HN.out,C.out,HG.out⟩
theorem bFn {m:Nat}(h:RowC w g cap cs)(nQ:a+1<m)(nA:m<cs.length)(U:Asc leC cs a m) :
  Calls prog 200 #[.slice (some ⟨g,0,none⟩) cs.length cap,.int .i64 a,.int .i64 m,.int .i64 ((m+1:Nat):Int),.func (.func 137) #[] #[]] w (SymIs w g cap a m (m+1) cs):=by
 have HC:=hid (show cs.length<=1000000 from h.few);have nK:cs.length<=1000000:=HC.out;have HY:=hid U;clear U;go_enter mi,kV;go_wp2;go_loopw[14,15] (fun iv jv wr=>∃i j:Nat,a<=i/\i<=j/\j<=m/\iv=.int .i64 i/\jv=.int .i64 j/\Hid (RowC wr g cap cs)/\Hid (w.grownBy wr (some g))/\Hid (i=a\/∀x y,cs[i-1]? = some x->cs[m]? = some y->leC x y=true)/\Hid (j=m\/∀x y,cs[j]? = some x->cs[m]? = some y->leC x y=false)) (fun i j _=>(intOf j).toNat-(intOf i).toNat)
 case atStart=>exact ⟨a,m,aa _,ω,aa _,rfl,rfl,hid h,hid (cW w _),hid (.inl rfl),hid (.inl rfl)⟩
 obtain ⟨i,j,nw,nN,ff,rfl,rfl,C,HG,H1,H2⟩:=hrel;by_cases nB:i<j
 ·obtain ⟨c,hc⟩:∃c:Nat,((i:Int)+(j:Int)) / 2=(c:Int):=⟨(i+j) / 2,ω⟩
  have nL:i<=c:=ω;have nM:c<j:=ω;have nC:=hid hc;have T1:((c:Nat):Int).toNat=c:=rfl;have E:((m:Nat):Int).toNat=m:=rfl;clear hc;have s:=C.out.lt;obtain ⟨y,U,x0,x1,x2⟩:=C.out.get (k:=m) ω;obtain ⟨x,hy,y0,y1,y2⟩:=C.out.get (k:=c) ω;have KC:∀u,Calls prog 137 #[.agg #[.string y.path,.int .i64 y.kind,.string y.text],.agg #[.string x.path,.int .i64 x.kind,.string x.text]] u (IntB (cmpC y x) u):=fun u=>aMc;have HX:=hid U;have nr:=hid hy;clear U hy;go_wp2;rw[nC.out];refine aAe (fun u=>Below wr.heap.size wr u) [(true,0),(true,1),(true,2),(true,3),(true,4),(true,5),(true,6),(true,7),(true,8),(false,9),(true,10),(true,11)] mixed κ (Below.refl _ _).drew ?_;intro T M Q F nj L hQ;have m0:M ⟨g,(m)*3,none⟩=some (.string y.path):=L _ _ fun w' J=>(J.cell (p:=⟨g,(m)*3,none⟩) s).trans x0;have m1:M ⟨g,(m)*3+1,none⟩=some (.int .i64 y.kind):=L _ _ fun w' J=>(J.cell (p:=⟨g,(m)*3+1,none⟩) s).trans x1;have m2:M ⟨g,(m)*3+2,none⟩=some (.string y.text):=L _ _ fun w' J=>(J.cell (p:=⟨g,(m)*3+2,none⟩) s).trans x2;have m3:M ⟨g,(c)*3,none⟩=some (.string x.path):=L _ _ fun w' J=>(J.cell (p:=⟨g,(c)*3,none⟩) s).trans y0;have m4:M ⟨g,(c)*3+1,none⟩=some (.int .i64 x.kind):=L _ _ fun w' J=>(J.cell (p:=⟨g,(c)*3+1,none⟩) s).trans y1;have m5:M ⟨g,(c)*3+2,none⟩=some (.string x.text):=L _ _ fun w' J=>(J.cell (p:=⟨g,(c)*3+2,none⟩) s).trans y2;clear L x0 x1 x2 y0 y1 y2;simp only[qcmp];simp only[↓qpre,aAb,aAg,aAc,m0,m1,m2,m3,m4,m5,T1,E];(repeat refine And.intro (by first|omega|(unfold inI64;omega)) ?_);refine aAh κ (KC wr.drew) rfl rfl ?_
  rintro e w3 ⟨rfl,nz⟩;have B:Below wr.heap.size wr w3:=(Below.refl wr.heap.size wr).drew.trans nz;refine ⟨_,rfl,F _ B,?_⟩;have ns:=hid (C.out.below B);have nu:=hid (HG.out.trans ((aAs B).but (some g)));generalize hz:cmpC y x=z;have HZ:=hid hz;clear nz B KC hz;simp only[↓qpre,aAb,aAc];refine hQ _ _ ?_;clear hQ F nj m0 m1 m2 m3 m4 m5 s C HG;by_cases D:z<0
  ·have nD:Hid (c=m\/∀x y,cs[c]? = some x->cs[m]? = some y->leC x y=false):=hid (.inr fun p q hp hq=>by rw[nr.out] at hp;rw[HX.out] at hq;cases hp;cases hq;exact aGt.2 (by rw[HZ.out];exact D))
   rw[aq D];clear D T1 E;go_wp2;go_roundw
   case rel=>exact ⟨i,c,nw,ω,ω,rfl,rfl,ns,nu,H1,nD⟩
   simp[intOf];omega
  have nE:Hid (c+1=a\/∀x y,cs[c+1-1]? = some x->cs[m]? = some y->leC x y=true):=hid (.inr fun p q hp hq=>by rw[fP,nr.out] at hp;rw[HX.out] at hq;cases hp;cases hq;exact aMr.2 (by rw[HZ.out];exact D));rw[ak D];clear D T1 E;go_wp2;go_roundw
  case rel=>exact ⟨c+1,j,ω,ω,ff,by go_num,rfl,ns,nu,nE,H2⟩
  simp[intOf];omega
 have nF:i=j:=ω;subst nF;clear nB;have HN:=hid (aOc aCx aBh nA nw ff HY.out (by rcases H1.out with h | h;exact .inl h;exact .inr h) (by rcases H2.out with h | h;exact .inl h;exact .inr h));clear H1 H2 HY;go_wp2;go_loopw[17] (fun kv wr=>∃k:Nat,i<=k/\k<=m/\kv=.int .i64 k/\Hid (RowC wr g cap (rotL cs k m (m+1)))/\Hid (w.grownBy wr (some g))) (fun k _=>(intOf k).toNat)
 case atStart=>exact ⟨m,ff,aa _,rfl,by rw[aEy (aa _) (dh m) ω (.inl rfl)];exact C,HG⟩
 obtain ⟨k,nO,nP,rfl,C,HG⟩:=hrel;by_cases nB:i<k
 ·obtain ⟨k,rfl⟩:∃j,k=j+1:=⟨k-1,ω⟩
  have nG:(rotL cs (k+1) m (m+1)).length=cs.length:=aHl ω ω ω;have K:=hid (show m<(rotL cs (k+1) m (m+1)).length by omega);obtain ⟨x,U,x0,x1,x2⟩:=C.out.get (k:=k) ω;obtain ⟨y,hy,y0,y1,y2⟩:=C.out.get (k:=k+1) ω;have HX:=hid U;have HY:=hid hy;have E:((k+1:Nat):Int).toNat=k+1:=rfl;have R:(((k+1:Nat):Int)-1).toNat=k:=ω;clear U hy nG;go_wp2;refine aAv (fun _=>True) (.q 0 (.q 1 (.q 2 (.q 3 (.q 4 (.q 5 (.q 6 (.q 7 (.q 8 (.q 10 (.q 11 (.q 12 (.two 9 (.one 13 (.q 14 (.one 15 (.q 16 (.one 17 .leaf))))) 13 (.one 9 (.q 14 (.one 15 (.q 16 (.one 17 .leaf)))))))))))))))))) mixed κ trivial ?_;intro T M Q F nj L hQ;clear L;refine aCu ?_;intro O b;have V:=b true 0;have W:=b true 1;have X:=b true 2;have Y:=b true 3;have Z:=b true 4;have t5:=b true 5;have t6:=b true 6;have t7:=b true 7;have t8:=b true 8;have t:=b true 10;have v:=b true 11;have A:=b true 12;have f:=b true 14;have l:=b true 16;have S:=b false 9;have n:=b false 13;have o:=b false 15;have r:=b false 17;simp only[qcmp] at V W X Y Z t5 t6 t7 t8 t v A f l S n o r;clear b;simp only[↓wt_q,↓aBe,V,W,X,Y,Z,t5,t6,t7,t8,t,v,A,S,n,↓qpre,aAb,aAg,aAc,E,R];(repeat refine And.intro (by first|omega|(unfold inI64;omega)) ?_);refine ⟨?o1,?o2⟩
  case' o1=>
   refine aDn fun N d=>?_;have G:=d _ _ x0;have H:=d _ _ x1;have I:=d _ _ x2;simp only[↓aAn,n,↓qpre,aAb,aAg,aAc,G,H,I];clear G H I d;refine ⟨F _ trivial,?_⟩
   try simp only[↓wt_q,↓aAn,↓aBe,V,W,X,Y,Z,t5,t6,t7,t8,t,v,A,f,l,S,n,o,r,↓qpre,aAb,aAg,aAc,E,R]
   refine aDn fun N d=>?_;have G:=d _ _ y0;have H:=d _ _ y1;have I:=d _ _ y2;simp only[↓wt_q,↓aAn,f,o,↓qpre,aAb,aAg,aAc,E,G,H,I];clear G H I d;refine ⟨F _ trivial,?_⟩
   try simp only[↓wt_q,↓aAn,↓aBe,V,W,X,Y,Z,t5,t6,t7,t8,t,v,A,f,l,S,n,o,r,↓qpre,aAb,aAg,aAc,E,R]
   (repeat refine And.intro (by first|omega|(unfold inI64;omega)) ?_);refine aBb (cs:=(rotL cs (k+1) m (m+1))) (k:=k+1) (c:=x) (C.out.same (w':=wr.drew) rfl) (by have:=K.out;omega) rfl rfl rfl ?_;intro u1 P nk;refine ⟨F _ trivial,?_⟩
   try simp only[↓wt_q,↓aAn,l,r,↓qpre,aAb,aAg,aAc,R]
   (repeat refine And.intro (by first|omega|(unfold inI64;omega)) ?_);refine aBb (cs:=(rotL cs (k+1) m (m+1)).set (k+1) x) (k:=k) (c:=y) P (by rw[du];have:=K.out;omega) rfl rfl rfl ?_;intro u2 nm nq;refine ⟨F _ trivial,?_⟩
   try simp only[aAb]
   refine hQ _ _ ?_
  case' o2=>
   refine aDn fun N d=>?_;have G:=d _ _ y0;have H:=d _ _ y1;have I:=d _ _ y2;simp only[↓aAn,S,↓qpre,aAb,aAg,aAc,G,H,I];clear G H I d;refine ⟨F _ trivial,?_⟩
   try simp only[↓wt_q,↓aAn,↓aBe,V,W,X,Y,Z,t5,t6,t7,t8,t,v,A,f,l,S,n,o,r,↓qpre,aAb,aAg,aAc,E,R]
   refine aDn fun N d=>?_;have G:=d _ _ x0;have H:=d _ _ x1;have I:=d _ _ x2;simp only[↓wt_q,↓aAn,f,o,↓qpre,aAb,aAg,aAc,E,G,H,I];clear G H I d;refine ⟨F _ trivial,?_⟩
   try simp only[↓wt_q,↓aAn,↓aBe,V,W,X,Y,Z,t5,t6,t7,t8,t,v,A,f,l,S,n,o,r,↓qpre,aAb,aAg,aAc,E,R]
   (repeat refine And.intro (by first|omega|(unfold inI64;omega)) ?_);refine aBb (cs:=(rotL cs (k+1) m (m+1))) (k:=k+1) (c:=x) (C.out.same (w':=wr.drew) rfl) (by have:=K.out;omega) rfl rfl rfl ?_;intro u1 P nk;refine ⟨F _ trivial,?_⟩
   try simp only[↓wt_q,↓aAn,l,r,↓qpre,aAb,aAg,aAc,R]
   (repeat refine And.intro (by first|omega|(unfold inI64;omega)) ?_);refine aBb (cs:=(rotL cs (k+1) m (m+1)).set (k+1) x) (k:=k) (c:=y) P (by rw[du];have:=K.out;omega) rfl rfl rfl ?_;intro u2 nm nq;refine ⟨F _ trivial,?_⟩
   try simp only[aAb]
   refine hQ _ _ ?_
  all_goals clear hQ F nj V W X Y Z t5 t6 t7 t8 t v A f l S n o r
  all_goals
   have nH:=hid (show RowC u2 g cap (rotL cs k m (m+1)) by rw[<-aZv ω nA (aHm HY.out HX.out)];exact nm);have nI:=hid (((HG.out.trans (show wr.grownBy wr.drew (some g) from ⟨rfl,rfl,rfl,aa _,fun _ _ _=>rfl⟩)).trans nk).trans nq);clear P nk nm nq C HG E R x0 x1 x2 y0 y1 y2;go_wp2;go_roundw
   case rel=>exact ⟨k,ω,ω,by go_num,nH,nI⟩
   simp[intOf]
 have nJ:k=i:=ω;subst nJ;go_wp2;refine bz (aF rfl _ _ _) rfl ?_;exact ⟨rfl,_,HN.out,C.out,HG.out⟩
structure Mid (cs:List CL) (a m b s e mid:Nat):Prop where
 has:a<=s
 hsm:s<=m
 hme:m<=e
 heb:e<=b
 hmid:mid=s+(e-m)
 h1:s=a\/e=b\/∀x y,cs[s-1]? = some x->cs[e]? = some y->leC x y=true
 h2:s=m\/e=m\/∀x y,cs[s]? = some x->cs[e-1]? = some y->leC x y=false
theorem bMp {m:Nat}(h:RowC w g cap cs)(nE:a+1<m)(nF:m+1<b)(f:b<=cs.length)(hx:Asc leC cs a m)(hy:Asc leC cs m b)
  (IH:∀(w:World) (a' m' b':Nat) (ds:List CL),b'-a'<b-a->RowC w g cap ds->a'<m'->m'<b'->b'<=ds.length->Asc leC ds a' m'->Asc leC ds m' b'->
   Calls prog 200 #[.slice (some ⟨g,0,none⟩) ds.length cap,.int .i64 a',.int .i64 m',.int .i64 b',.func (.func 137) #[] #[]] w (SymIs w g cap a' m' b' ds)) :
  Calls prog 200 #[.slice (some ⟨g,0,none⟩) cs.length cap,.int .i64 a,.int .i64 m,.int .i64 b,.func (.func 137) #[] #[]] w (SymIs w g cap a m b cs):=by
 have HC:=hid (show cs.length<=1000000 from h.few);have nP:cs.length<=1000000:=HC.out;have B:=hid hx;have C:=hid hy;have HI:=hid IH;have K:=hid h;clear hx hy IH h;obtain ⟨mid,nk⟩:∃c:Nat,((a:Int)+(b:Int)) / 2=(c:Int):=⟨(a+b) / 2,ω⟩;have nu:a+b<=2*mid+1:=ω;have nw:2*mid<=a+b:=ω;have nj:=hid nk;clear nk
 obtain ⟨s0,r0,nB⟩:∃s0 r0:Nat,(mid<m/\s0+b=mid+m/\r0=mid)\/(m<=mid/\s0=a/\r0=m):=by
  rcases bo mid m with h | h
  ·exact ⟨mid+m-b,mid,.inl ⟨h,ω,rfl⟩⟩
  exact ⟨a,m,.inr ⟨h,rfl,rfl⟩⟩
 have f1:a<=s0:=ω;have f2:r0<=m:=ω;have f3:r0<=mid:=ω;have f4:s0<=r0:=ω;have f5:mid+m<=s0+b:=ω;have F6:=hid (show s0=a\/s0+b=mid+m by omega);have F7:=hid (show r0=m\/r0=mid by omega);have b1:mid<b:=ω;have b2:a<mid:=ω;go_enter mi,kV;refine nB.elim ?br1 ?br2
 case' br1=>
  rintro ⟨c1,c2,c3⟩;have C2:=hid c2;have C3:=hid c3;clear c2 c3;go_wp2;rw[nj.out,show (mid:Int)+(m:Int)-(b:Int)=(s0:Int) by have:=C2.out;omega];clear c1
 case' br2=>
  rintro ⟨c1,c2,c3⟩;have C2:=hid c2;have C3:=hid c3;clear c2 c3;go_wp2;rw[nj.out];clear c1
 all_goals
  have HV:=hid (And.intro nu (And.intro nw (And.intro b1 (And.intro b2 (And.intro nE nF)))));clear nu nw b1 b2 nE nF;go_loopw[20,21] (fun iv jv wr=>∃s r:Nat,s0<=s/\s<=r/\r<=r0/\iv=.int .i64 s/\jv=.int .i64 r/\Hid (RowC wr g cap cs)/\Hid (w.grownBy wr (some g))/\Hid (s=s0\/∀x y,cs[s-1]? = some x->cs[mid+m-s]? = some y->leC x y=true)/\Hid (r=r0\/∀x y,cs[r]? = some x->cs[mid+m-1-r]? = some y->leC x y=false)) (fun i j _=>(intOf j).toNat-(intOf i).toNat)
  case atStart=>exact ⟨s0,r0,aa _,f4,aa _,by first | rfl | rw[C2.out],by rw[C3.out],K,hid (cW w _),hid (.inl rfl),hid (.inl rfl)⟩
  clear K C2 C3;obtain ⟨s,r,nK,nB,nL,rfl,rfl,K,W,H1,H2⟩:=hrel;by_cases nO:s<r
  ·obtain ⟨c,hc⟩:∃c:Nat,((s:Int)+(r:Int)) / 2=(c:Int):=⟨(s+r) / 2,ω⟩
   have N:s<=c:=ω;have nQ:c<r:=ω;have nG:=hid hc;have T1:((c:Nat):Int).toNat=c:=rfl;clear hc;obtain ⟨p,hp⟩:∃p:Nat,p=mid+m-1-c:=⟨_,rfl⟩;have L1:=hid (show p<cs.length by omega);have L2:=hid (show c<cs.length by omega);have T2:=hid (show ((mid:Int)+(m:Int)-1-(c:Int)).toNat=p by omega);have nz:=hid hp;clear hp;have X:=K.out.lt;obtain ⟨x,hx,x0,x1,x2⟩:=K.out.get (k:=p) (by first | exact L1.out | exact L2.out);obtain ⟨y,hy,y0,y1,y2⟩:=K.out.get (k:=c) (by first | exact L1.out | exact L2.out);have KC:∀u,Calls prog 137 #[.agg #[.string x.path,.int .i64 x.kind,.string x.text],.agg #[.string y.path,.int .i64 y.kind,.string y.text]] u (IntB (cmpC x y) u):=fun u=>aMc;have HX:=hid hx;have nA:=hid hy;clear hx hy;go_wp2;rw[nG.out];refine aAe (fun u=>Below wr.heap.size wr u) [(true,0),(true,1),(true,2),(true,3),(true,4),(true,5),(true,6),(true,7),(true,8),(true,9),(true,10),(false,11),(true,12),(true,13)] mixed κ (Below.refl _ _).drew ?_;intro T M Q hT nM hM hQ;have m0:M ⟨g,(p)*3,none⟩=some (.string x.path):=hM _ _ fun w' hw=>(hw.cell (p:=⟨g,(p)*3,none⟩) X).trans x0;have m1:M ⟨g,(p)*3+1,none⟩=some (.int .i64 x.kind):=hM _ _ fun w' hw=>(hw.cell (p:=⟨g,(p)*3+1,none⟩) X).trans x1;have m2:M ⟨g,(p)*3+2,none⟩=some (.string x.text):=hM _ _ fun w' hw=>(hw.cell (p:=⟨g,(p)*3+2,none⟩) X).trans x2;have m3:M ⟨g,(c)*3,none⟩=some (.string y.path):=hM _ _ fun w' hw=>(hw.cell (p:=⟨g,(c)*3,none⟩) X).trans y0;have m4:M ⟨g,(c)*3+1,none⟩=some (.int .i64 y.kind):=hM _ _ fun w' hw=>(hw.cell (p:=⟨g,(c)*3+1,none⟩) X).trans y1
   have m5:M ⟨g,(c)*3+2,none⟩=some (.string y.text):=hM _ _ fun w' hw=>(hw.cell (p:=⟨g,(c)*3+2,none⟩) X).trans y2;clear hM x0 x1 x2 y0 y1 y2;simp only[qcmp];simp only[↓qpre,aAb,aAg,aAc,m0,m1,m2,m3,m4,m5,T1,T2.out];(repeat refine And.intro (by first|omega|(unfold inI64;omega)) ?_);refine aAh κ (KC wr.drew) rfl rfl ?_;rintro e w3 ⟨rfl,nC⟩;have Y:Below wr.heap.size wr w3:=(Below.refl wr.heap.size wr).drew.trans nC;refine ⟨_,rfl,hT _ Y,?_⟩;have D:=hid (K.out.below Y);have E:=hid (W.out.trans ((aAs Y).but (some g)));generalize hz:cmpC x y=z;have HZ:=hid hz;clear nC Y KC hz;simp only[↓qpre,aAb,aAc];refine hQ _ _ ?_;clear hQ hT nM m0 m1 m2 m3 m4 m5 X K W;by_cases ff:z<0
   ·have nH:Hid (c=r0\/∀x y,cs[c]? = some x->cs[mid+m-1-c]? = some y->leC x y=false):=hid (.inr fun u v hu hv=>by rw[nA.out] at hu;rw[<-nz.out,HX.out] at hv;cases hu;cases hv;exact aGt.2 (by rw[HZ.out];exact ff))
    rw[aq ff];clear ff T1 T2;go_wp2;go_roundw
    case rel=>exact ⟨s,c,nK,ω,ω,rfl,rfl,D,E,H1,nH⟩
    simp[intOf];omega
   have nI:Hid (c+1=s0\/∀x y,cs[c+1-1]? = some x->cs[mid+m-(c+1)]? = some y->leC x y=true):=hid (.inr fun u v hu hv=>by rw[fP,nA.out] at hu;rw[show mid+m-(c+1)=mid+m-1-c by omega,<-nz.out,HX.out] at hv;cases hu;cases hv;exact aMr.2 (by rw[HZ.out];exact ff));rw[ak ff];clear ff T1 T2;go_wp2;go_roundw
   case rel=>exact ⟨c+1,r,ω,ω,nL,by go_num,rfl,D,E,nI,H2⟩
   simp[intOf];omega
  have nJ:s=r:=ω;subst nJ;clear nO;obtain ⟨e,nR,nS⟩:∃e:Nat,e+s<=mid+m/\mid+m<=e+s:=⟨mid+m-s,ω,ω⟩
  have MD:=hid (show Mid cs a m b s e mid from ⟨ω,ω,ω,ω,ω,by
   rcases H1.out with h | h
   ·rcases F6.out with h' | h'
    ·exact .inl ω
    exact .inr (.inl ω)
   ·exact .inr (.inr fun x y hx hy=>h x y hx (by rw[show mid+m-s=e by omega];exact hy)),by
   rcases H2.out with h | h
   ·rcases F7.out with h' | h'
    ·exact .inl ω
    exact .inr (.inl ω)
   exact .inr (.inr fun x y hx hy=>h x y hx (by rw[show mid+m-1-s=e-1 by omega];exact hy))⟩)
  have G:=hid (show (rotL cs s m e).length=cs.length from aHl MD.out.hsm MD.out.hme (aw MD.out.heb f));have nm:=hid (aFs (aw MD.out.heb f) MD.out.has MD.out.hsm MD.out.hme MD.out.heb MD.out.hmid B.out C.out (SegAs.refl (rotL cs s m e) a mid)).1;have nq:=hid (aFs (aw MD.out.heb f) MD.out.has MD.out.hsm MD.out.hme MD.out.heb MD.out.hmid B.out C.out (SegAs.refl (rotL cs s m e) a mid)).2.1;obtain ⟨v1,v2,v3,v4,v5,v6⟩:=HV.out
  have L:s<m->m<e->Calls prog 232 #[.slice (some ⟨g,0,none⟩) cs.length cap,.int .i64 s,.int .i64 m,.int .i64 ((mid:Int)+(m:Int)-(s:Int)),.func (.func 137) #[] #[]] wr (RowTo (fun nN=>nN=rotL cs s m e) g cap wr):=fun h1 h2=>by
   rw[show (mid:Int)+(m:Int)-(s:Int)=(e:Int) by omega];exact bDs K.out h1 h2 (aw MD.out.heb f)
  clear H1 H2 v1 v2;have nr:(s<m/\m<e/\a<s/\s<mid/\mid<e/\e<b)\/(s<m/\m<e/\a<s/\s<mid/\mid<e/\¬e<b)\/(s<m/\m<e/\¬a<s/\mid<e/\e<b)\/(s<m/\m<e/\¬a<s/\mid<e/\¬e<b)\/(¬s<m/\a<s/\s<mid/\¬mid<e)\/(¬s<m/\a<s/\¬s<mid/\¬mid<e)\/(s<m/\¬m<e/\a<s/\¬s<mid/\mid<e/\e<b):=ω;rcases nr with ⟨d0,d1,d2,d3,d4,d5⟩ | ⟨d0,d1,d2,d3,d4,d5⟩ | ⟨d0,d1,d2,d3,d4⟩ | ⟨d0,d1,d2,d3,d4⟩ | ⟨d0,d1,d2,d3⟩ | ⟨d0,d1,d2,d3⟩ | ⟨d0,d1,d2,d3,d4,d5⟩
  ·first
   | (exfalso;omega)
   | (replace L:=L d0 d1
      go_wp2_with fail
      refine L.mono ?_
      rintro e1 w1 ⟨rfl,ns,N,I,J⟩
      subst N
      have l:=hid I
      have n:=hid (W.out.trans J)
      clear I J K W L
      have K1:=HI.out w1 a s mid (rotL cs s m e) ω l.out ω ω (by rw[G.out];omega) nm.out nq.out
      rw[G.out] at K1
      go_wp2_with fail
      refine K1.mono ?_
      rintro e2 w2 ⟨rfl,F,O,P,R⟩
      have o:=hid P
      have q:=hid (n.out.trans R)
      have d:=hid O
      clear K1 O P R l n
      have A:=hid (aFs (aw MD.out.heb f) MD.out.has MD.out.hsm MD.out.hme MD.out.heb MD.out.hmid B.out C.out d.out)
      have H:=hid (show F.length=cs.length by rw[d.out.len,G.out])
      have K2:=HI.out w2 mid e b F ω o.out ω ω (by rw[H.out];exact f) A.out.2.2.1 A.out.2.2.2
      rw[H.out,show (e:Int)=(mid:Int)+(m:Int)-(s:Int) by omega] at K2
      go_wp2_with fail
      refine K2.mono ?_
      rintro e3 w3 ⟨rfl,nD,S,U,V⟩
      have D:=hid U
      have E:=hid (q.out.trans V)
      have t:=hid S
      clear K2 S U V o q
      have Z:=hid (aDo aCx aBh f MD.out.has MD.out.hsm MD.out.hme MD.out.heb MD.out.hmid B.out C.out MD.out.h1 MD.out.h2 d.out t.out)
      clear d t A
      go_wp2
      refine aI (aF rfl _ _ _) rfl ?_
      exact ⟨rfl,_,Z.out,D.out,E.out⟩)
  ·first
   | (exfalso;omega)
   | (replace L:=L d0 d1
      go_wp2_with fail
      refine L.mono ?_
      rintro e1 w1 ⟨rfl,ns,N,I,J⟩
      subst N
      have l:=hid I
      have n:=hid (W.out.trans J)
      clear I J K W L
      have K1:=HI.out w1 a s mid (rotL cs s m e) ω l.out ω ω (by rw[G.out];omega) nm.out nq.out
      rw[G.out] at K1
      go_wp2_with fail
      refine K1.mono ?_
      rintro e2 w2 ⟨rfl,F,O,P,R⟩
      have o:=hid P
      have q:=hid (n.out.trans R)
      have d:=hid O
      clear K1 O P R l n
      have A:=hid (aFs (aw MD.out.heb f) MD.out.has MD.out.hsm MD.out.hme MD.out.heb MD.out.hmid B.out C.out d.out)
      have H:=hid (show F.length=cs.length by rw[d.out.len,G.out])
      have t:Hid (SegAs F F mid b (List.merge (segL F mid e) (segL F e b) leC)):=hid (aBn (by have:=MD.out.hmid;have:=MD.out.hsm;omega) MD.out.heb (by have:=MD.out.hmid;have:=MD.out.heb;have:=MD.out.hsm;omega))
      have D:=o
      have E:=q
      clear o q
      have Z:=hid (aDo aCx aBh f MD.out.has MD.out.hsm MD.out.hme MD.out.heb MD.out.hmid B.out C.out MD.out.h1 MD.out.h2 d.out t.out)
      clear d t A
      go_wp2
      refine aI (aF rfl _ _ _) rfl ?_
      exact ⟨rfl,_,Z.out,D.out,E.out⟩)
  ·first
   | (exfalso;omega)
   | (replace L:=L d0 d1
      go_wp2_with fail
      refine L.mono ?_
      rintro e1 w1 ⟨rfl,ns,N,I,J⟩
      subst N
      have l:=hid I
      have n:=hid (W.out.trans J)
      clear I J K W L
      have d:Hid (SegAs (rotL cs s m e) (rotL cs s m e) a mid (List.merge (segL (rotL cs s m e) a s) (segL (rotL cs s m e) s mid) leC)):=hid (aBn MD.out.has (by have:=MD.out.hmid;omega) (by have:=MD.out.has;have:=MD.out.hmid;omega))
      have o:=l
      have q:=n
      clear l n
      have A:=hid (aFs (aw MD.out.heb f) MD.out.has MD.out.hsm MD.out.hme MD.out.heb MD.out.hmid B.out C.out d.out)
      have H:=hid (show (rotL cs s m e).length=cs.length by rw[d.out.len,G.out])
      have K2:=HI.out w1 mid e b (rotL cs s m e) ω o.out ω ω (by rw[H.out];exact f) A.out.2.2.1 A.out.2.2.2
      rw[H.out,show (e:Int)=(mid:Int)+(m:Int)-(s:Int) by omega] at K2
      go_wp2_with fail
      refine K2.mono ?_
      rintro e3 w3 ⟨rfl,nD,S,U,V⟩
      have D:=hid U
      have E:=hid (q.out.trans V)
      have t:=hid S
      clear K2 S U V o q
      have Z:=hid (aDo aCx aBh f MD.out.has MD.out.hsm MD.out.hme MD.out.heb MD.out.hmid B.out C.out MD.out.h1 MD.out.h2 d.out t.out)
      clear d t A
      go_wp2
      refine aI (aF rfl _ _ _) rfl ?_
      exact ⟨rfl,_,Z.out,D.out,E.out⟩)
  ·first
   | (exfalso;omega)
   | (replace L:=L d0 d1
      go_wp2_with fail
      refine L.mono ?_
      rintro e1 w1 ⟨rfl,ns,N,I,J⟩
      subst N
      have l:=hid I
      have n:=hid (W.out.trans J)
      clear I J K W L
      have d:Hid (SegAs (rotL cs s m e) (rotL cs s m e) a mid (List.merge (segL (rotL cs s m e) a s) (segL (rotL cs s m e) s mid) leC)):=hid (aBn MD.out.has (by have:=MD.out.hmid;omega) (by have:=MD.out.has;have:=MD.out.hmid;omega))
      have o:=l
      have q:=n
      clear l n
      have A:=hid (aFs (aw MD.out.heb f) MD.out.has MD.out.hsm MD.out.hme MD.out.heb MD.out.hmid B.out C.out d.out)
      have H:=hid (show (rotL cs s m e).length=cs.length by rw[d.out.len,G.out])
      have t:Hid (SegAs (rotL cs s m e) (rotL cs s m e) mid b (List.merge (segL (rotL cs s m e) mid e) (segL (rotL cs s m e) e b) leC)):=hid (aBn (by have:=MD.out.hmid;have:=MD.out.hsm;omega) MD.out.heb (by have:=MD.out.hmid;have:=MD.out.heb;have:=MD.out.hsm;omega))
      have D:=o
      have E:=q
      clear o q
      have Z:=hid (aDo aCx aBh f MD.out.has MD.out.hsm MD.out.hme MD.out.heb MD.out.hmid B.out C.out MD.out.h1 MD.out.h2 d.out t.out)
      clear d t A
      go_wp2
      refine aI (aF rfl _ _ _) rfl ?_
      exact ⟨rfl,_,Z.out,D.out,E.out⟩)
  ·first
   | (exfalso;omega)
   | (have l:Hid (RowC wr g cap (rotL cs s m e)):=by rw[aEy MD.out.hsm MD.out.hme (aw MD.out.heb f) (by have:=MD.out.hsm;have:=MD.out.hme;omega)];exact K
      have n:=W
      clear K W L
      have K1:=HI.out wr a s mid (rotL cs s m e) ω l.out ω ω (by rw[G.out];omega) nm.out nq.out
      rw[G.out] at K1
      go_wp2_with fail
      refine K1.mono ?_
      rintro e2 w2 ⟨rfl,F,O,P,R⟩
      have o:=hid P
      have q:=hid (n.out.trans R)
      have d:=hid O
      clear K1 O P R l n
      have A:=hid (aFs (aw MD.out.heb f) MD.out.has MD.out.hsm MD.out.hme MD.out.heb MD.out.hmid B.out C.out d.out)
      have H:=hid (show F.length=cs.length by rw[d.out.len,G.out])
      have t:Hid (SegAs F F mid b (List.merge (segL F mid e) (segL F e b) leC)):=hid (aBn (by have:=MD.out.hmid;have:=MD.out.hsm;omega) MD.out.heb (by have:=MD.out.hmid;have:=MD.out.heb;have:=MD.out.hsm;omega))
      have D:=o
      have E:=q
      clear o q
      have Z:=hid (aDo aCx aBh f MD.out.has MD.out.hsm MD.out.hme MD.out.heb MD.out.hmid B.out C.out MD.out.h1 MD.out.h2 d.out t.out)
      clear d t A
      go_wp2
      refine aI (aF rfl _ _ _) rfl ?_
      exact ⟨rfl,_,Z.out,D.out,E.out⟩)
  ·first
   | (exfalso;omega)
   | (have l:Hid (RowC wr g cap (rotL cs s m e)):=by rw[aEy MD.out.hsm MD.out.hme (aw MD.out.heb f) (by have:=MD.out.hsm;have:=MD.out.hme;omega)];exact K
      have n:=W
      clear K W L
      have d:Hid (SegAs (rotL cs s m e) (rotL cs s m e) a mid (List.merge (segL (rotL cs s m e) a s) (segL (rotL cs s m e) s mid) leC)):=hid (aBn MD.out.has (by have:=MD.out.hmid;omega) (by have:=MD.out.has;have:=MD.out.hmid;omega))
      have o:=l
      have q:=n
      clear l n
      have A:=hid (aFs (aw MD.out.heb f) MD.out.has MD.out.hsm MD.out.hme MD.out.heb MD.out.hmid B.out C.out d.out)
      have H:=hid (show (rotL cs s m e).length=cs.length by rw[d.out.len,G.out])
      have t:Hid (SegAs (rotL cs s m e) (rotL cs s m e) mid b (List.merge (segL (rotL cs s m e) mid e) (segL (rotL cs s m e) e b) leC)):=hid (aBn (by have:=MD.out.hmid;have:=MD.out.hsm;omega) MD.out.heb (by have:=MD.out.hmid;have:=MD.out.heb;have:=MD.out.hsm;omega))
      have D:=o
      have E:=q
      clear o q
      have Z:=hid (aDo aCx aBh f MD.out.has MD.out.hsm MD.out.hme MD.out.heb MD.out.hmid B.out C.out MD.out.h1 MD.out.h2 d.out t.out)
      clear d t A
      go_wp2
      refine aI (aF rfl _ _ _) rfl ?_
      exact ⟨rfl,_,Z.out,D.out,E.out⟩)
  first
  | (exfalso;omega)
  | (have l:Hid (RowC wr g cap (rotL cs s m e)):=by rw[aEy MD.out.hsm MD.out.hme (aw MD.out.heb f) (by have:=MD.out.hsm;have:=MD.out.hme;omega)];exact K
     have n:=W
     clear K W L
     have d:Hid (SegAs (rotL cs s m e) (rotL cs s m e) a mid (List.merge (segL (rotL cs s m e) a s) (segL (rotL cs s m e) s mid) leC)):=hid (aBn MD.out.has (by have:=MD.out.hmid;omega) (by have:=MD.out.has;have:=MD.out.hmid;omega))
     have o:=l
     have q:=n
     clear l n
     have A:=hid (aFs (aw MD.out.heb f) MD.out.has MD.out.hsm MD.out.hme MD.out.heb MD.out.hmid B.out C.out d.out)
     have H:=hid (show (rotL cs s m e).length=cs.length by rw[d.out.len,G.out])
     have K2:=HI.out wr mid e b (rotL cs s m e) ω o.out ω ω (by rw[H.out];exact f) A.out.2.2.1 A.out.2.2.2
     rw[H.out,show (e:Int)=(mid:Int)+(m:Int)-(s:Int) by omega] at K2
     go_wp2_with fail
     refine K2.mono ?_
     rintro e3 w3 ⟨rfl,nD,S,U,V⟩
     have D:=hid U
     have E:=hid (q.out.trans V)
     have t:=hid S
     clear K2 S U V o q
     have Z:=hid (aDo aCx aBh f MD.out.has MD.out.hsm MD.out.hme MD.out.heb MD.out.hmid B.out C.out MD.out.h1 MD.out.h2 d.out t.out)
     clear d t A
     go_wp2
     refine aI (aF rfl _ _ _) rfl ?_
     exact ⟨rfl,_,Z.out,D.out,E.out⟩)
theorem aWz:∀(k:Nat) (w:World) (a m b:Nat) (cs:List CL),b-a<=k->RowC w g cap cs->a<m->m<b->b<=cs.length->Asc leC cs a m->Asc leC cs m b->
  Calls prog 200 #[.slice (some ⟨g,0,none⟩) cs.length cap,.int .i64 a,.int .i64 m,.int .i64 b,.func (.func 137) #[] #[]] w (SymIs w g cap a m b cs)
 | 0,w,a,m,b,cs,hk,h,h1,h2,h3,hx,hy=>by omega
 | k+1,w,a,m,b,cs,hk,h,h1,h2,h3,hx,hy=>by
  by_cases i:m=a+1
  ·subst i;exact bKy h h2 h3 hy
  by_cases j:b=m+1
  ·subst j;exact bFn h O h3 hx
  exact bMp h O O h3 hx hy fun w c d e f l=>aWz k w c d e f O
section
variable {α:Type}
structure Half (f:Nat->List α) (s:Nat) (d d':List α) (i:Nat):Prop where
 len:d'.length=d.length
 at_:∀k,k<i->segL d' (k*s) ((k+1)*s)=f k
 rest:∀t,i*s<=t->d'[t]? = d[t]?
theorem Half.start(f:Nat->List α)(s:Nat)(d:List α):Half f s d d 0:=⟨rfl,fun k h=>absurd h (bN k),fun _ _=>rfl⟩
theorem Half.step {f:Nat->List α}{d e d2:List α}(h:Half f s d e i)(a:SegAs e d2 (i*s) ((i+1)*s) (f i)):Half f s d d2 (i+1):=by
 refine ⟨a.len.trans h.len,fun k b=>?_,fun t c=>?_⟩
 ·rcases lD (Nat.le_of_lt_succ b) with b | rfl
  ·rw[a.other (.inl (cd s (show k+1<=i by omega)))];exact h.at_ k b
  exact a.here
 rw[a.there t (.inr c)];exact h.rest t (aw (cd s (dh i)) c)
theorem aMf {l:List α}(h:l.length<=b):segL l a b=segL l a l.length:=by
 unfold segL;rw[ai h,ai (aa _)]
theorem Half.last {f:Nat->List α}{d e d2:List α}(h:Half f s d e i)(g:d.length<=(i+1)*s)(c:SegAs e d2 (i*s) d.length (f i))(j:∀k,i<k->f k=[])(k:Nat):segL d2 (k*s) ((k+1)*s)=f k:=by
 have a:d2.length=d.length:=c.len.trans h.len;rcases eZ k i with b | rfl | b
 ·rw[c.other (.inl (cd s (show k+1<=i by omega)))];exact h.at_ k b
 ·rw[aMf (by rw[a];exact g),a];exact c.here
 rw[j k b,aEc (by rw[a];exact aw g (cd s (show i+1<=k by omega)))]
end
theorem aXi {l d d':List CL}(h:Blk leC s l d)(k a b:Nat)(ha:a=k*s)(e:b=(k+1)*s)(f:∀t,a<=t->d'[t]? = d[t]?):Asc leC d' a b:=by
 subst ha e;refine aFk ?_;rw[aBv (d:=d) fun i c _=>f i c,h.at_ k];exact aKo aBh aJi _
def StableIs (w:World)(g cap:Nat)(cs:List CL):Ending->World->Prop:=RowTo (fun cs'=>cs'=sortC cs) g cap w
def mergeAt (s:Nat)(d:List CL)(k:Nat):List CL:=List.merge (segL d (2*k*s) ((2*k+1)*s)) (segL d ((2*k+1)*s) ((2*k+2)*s)) leC
theorem bBy(h:RowC w g cap cs) :
  Calls prog 162 #[.slice (some ⟨g,0,none⟩) cs.length cap,.int .i64 cs.length,.func (.func 137) #[] #[]] w (StableIs w g cap cs):=by
 have HC:=hid (show cs.length<=1000000 from h.few);have Y:cs.length<=1000000:=HC.out;obtain ⟨n,hn⟩:∃n,n=cs.length:=⟨_,rfl⟩;have X:=hid hn;rw[<-hn] at Y ⊢;clear hn;go_enter Tryz.func162,Tryz.ntmps162;go_wp2;go_loopw[7,8] (fun iv jv wr=>∃i a b:Nat,a<=n/\iv=.int .i64 a/\jv=.int .i64 b/\a+20<=b/\b<=a+20/\∃d,Hid (a=i*20)/\Hid (Half (fun k=>ssort leC (segL cs (k*20) ((k+1)*20))) 20 cs d i)/\Hid (RowC wr g cap d)/\Hid (w.grownBy wr (some g))) (fun i _ _=>n-(intOf i).toNat)
 case atStart=>exact ⟨0,0,20,al _,rfl,rfl,aa _,aa _,cs,hid rfl,hid (Half.start _ _ _),hid h,hid (cW w _)⟩
 obtain ⟨i,a,b,M,rfl,rfl,U,V,d,m,c,q,r⟩:=hrel;have u:=hid (show d.length=n by rw[c.out.len,X.out]);by_cases F:b<=n
 ·have K:=aTk q.out (a:=a) (b:=b) ω (by rw[u.out];exact F)
  rw[u.out] at K;go_wp2_with fail;refine K.mono ?_;rintro e w1 ⟨rfl,O,o,x,y⟩
  have Z:Hid (Half (fun k=>ssort leC (segL cs (k*20) ((k+1)*20))) 20 cs O (i+1)):=hid (c.out.step (by
   have P:=m.out;have Q:b=(i+1)*20:=ω;rw[<-P,<-Q];rw[aBv (d:=cs) (d':=d) fun t E _=>c.out.rest t ω] at o;exact o))
  have ff:Hid (b=(i+1)*20):=hid (by have:=m.out;omega);have B:=hid x;have C:=hid (r.out.trans y);clear K o x y c q r;go_wp2;go_roundw
  case rel=>exact ⟨i+1,b,b+20,F,rfl,by go_num,ω,ω,O,ff,Z,B,C⟩
  simp[intOf];omega
 have K:=aTk q.out (a:=a) (b:=n) M (by rw[u.out];exact aa _);rw[u.out] at K;go_wp2_with fail;refine K.mono ?_;rintro e w1 ⟨rfl,O,o,x,y⟩
 have v:Hid (Blk leC 20 cs O):=hid ⟨by rw[o.len,c.out.len],by
  have P:=m.out;have Q:=X.out;refine fun k=>c.out.last ω ?_ (fun k hk=>?_) k
  ·show SegAs d O (i*20) cs.length (ssort leC (segL cs (i*20) ((i+1)*20)))
   rw[aMf (b:=(i+1)*20) ω,<-P,<-Q];rw[aBv (d:=cs) (d':=d) fun t E _=>c.out.rest t ω] at o;exact o
  show ssort leC (segL cs (k*20) ((k+1)*20))=[];rw[aEc ω];rfl⟩
 have B:=hid x;have C:=hid (r.out.trans y);clear K o x y c q r m u U V F M;go_wp2;go_loopw[6] (fun sv wr=>∃s:Nat,20<=s/\s<=2000000/\sv=.int .i64 s/\∃d,Hid (Blk leC s cs d)/\Hid (RowC wr g cap d)/\Hid (w.grownBy wr (some g))) (fun i _=>n-(intOf i).toNat)
 case atStart=>exact ⟨20,aa _,ω,rfl,O,v,B,C⟩
 clear v B C;obtain ⟨s,o,nm,rfl,d,v,q,r⟩:=hrel;have u:=hid (show d.length=n by rw[v.out.len,X.out]);by_cases F:s<n
 ·go_wp2
  go_loopw[7,8] (fun iv jv wr=>∃i a b:Nat,a<=n/\iv=.int .i64 a/\jv=.int .i64 b/\a+2*s<=b/\b<=a+2*s/\∃d',Hid (a=i*(2*s))/\Hid (Half (mergeAt s d) (2*s) d d' i)/\Hid (RowC wr g cap d')/\Hid (w.grownBy wr (some g))) (fun i _ _=>n-(intOf i).toNat)
  case atStart=>exact ⟨0,0,2*s,al _,rfl,by go_num,ω,ω,d,hid (by rw[ed]),hid (Half.start _ _ _),q,r⟩
  clear q r;obtain ⟨i,a,b,M,rfl,rfl,U,V,d',m,c,q,r⟩:=hrel;have f:=hid (show d'.length=n by rw[c.out.len,u.out]);have G:=hid (show a=2*i*s by rw[m.out,<-jO,fO i 2]);have D:=hid (show a+s=(2*i+1)*s by rw[G.out,iM,jG]);have H:=hid (show b=(2*i+2)*s by rw[show (2*i+2)*s=(2*i+1)*s+s by rw[<-fe],<-D.out];omega);have N:=hid (show b=(i+1)*(2*s) by rw[iM,<-m.out];omega);have R:Hid (Asc leC d' a (a+s)):=hid (aXi v.out (2*i) a (a+s) G.out D.out fun t ht=>c.out.rest t (by rw[<-m.out];exact ht));by_cases W:b<=n
  ·have S:Hid (Asc leC d' (a+s) b):=hid (aXi v.out (2*i+1) (a+s) b D.out H.out fun t ht=>c.out.rest t (by rw[<-m.out];omega))
   have K:=aWz (b-a) wr a (a+s) b d' (aa _) q.out ω ω (by rw[f.out];exact W) R.out S.out;rw[f.out,show ((a+s:Nat):Int)=(a:Int)+(s:Int) by omega] at K;go_wp2_with fail;refine K.mono ?_;rintro e w2 ⟨rfl,d2,j,z,A⟩
   have nj:Hid (Half (mergeAt s d) (2*s) d d2 (i+1)):=hid (c.out.step (by
    rw[<-m.out,<-N.out];unfold mergeAt;rw[<-G.out,<-D.out,<-H.out];rw[aBv (d:=d) (d':=d') fun t E _=>c.out.rest t (by rw[<-m.out];exact E),aBv (d:=d) (d':=d') (a:=a+s) fun t E _=>c.out.rest t (by rw[<-m.out];omega)] at j;exact j))
   have I:=hid z;have J:=hid (r.out.trans A);clear K j z A c q r m G D H R S f;go_wp2;go_roundw
   case rel=>exact ⟨i+1,b,b+2*s,W,rfl,by go_num,ω,ω,d2,N,nj,I,J⟩
   simp[intOf];omega
  have T:∀d2,SegAs d' d2 a n (List.merge (segL d' a (a+s)) (segL d' (a+s) n) leC)->Hid (Blk leC (2*s) cs d2):=fun d2 j=>hid (by
   have nk:d2.length=d.length:=(by rw[j.len,c.out.len]);refine v.out.twice aBh aJi nk fun k=>c.out.last (by rw[<-N.out,u.out];omega) ?_ (fun k hk=>?_) k
   ·rw[<-m.out,u.out]
    unfold mergeAt;rw[<-G.out,<-D.out,<-H.out];rw[aBv (d:=d) (d':=d') fun t E _=>c.out.rest t (by rw[<-m.out];exact E),aBv (d:=d) (d':=d') (a:=a+s) fun t E _=>c.out.rest t (by rw[<-m.out];omega)] at j;rw[aMf (l:=d) (a:=a+s) (b:=b) (by rw[u.out];omega),u.out];exact j
   unfold mergeAt;have E:(i+1)*(2*s)<=2*k*s:=(by rw[show 2*k*s=k*(2*s) by rw[<-jO,fO k 2]];exact cd _ ω);have h2:2*k*s<=(2*k+1)*s:=cd _ ω;rw[<-N.out] at E;rw[aEc (by rw[u.out];omega),aEc (by rw[u.out];omega),aOw])
  have p:=hid T;clear T;by_cases nq:a+s<n
  ·have S:Hid (Asc leC d' (a+s) n):=hid (by
    have:=aXi v.out (2*i+1) (a+s) b D.out H.out (d':=d') fun t ht=>c.out.rest t (by rw[<-m.out];omega);exact this.sub (aa _) ω)
   have K:=aWz (n-a) wr a (a+s) n d' (aa _) q.out ω ω (by rw[f.out];exact aa _) R.out S.out;rw[f.out,show ((a+s:Nat):Int)=(a:Int)+(s:Int) by omega] at K;clear G D H N R S;go_wp2_with fail;refine K.mono ?_;rintro e w2 ⟨rfl,d2,j,z,A⟩;have L:=p.out d2 j;have I:=hid z;have J:=hid (r.out.trans A);clear K j z A c q r m f p v;go_wp2;go_roundw
   case rel=>exact ⟨2*s,ω,ω,by go_num,d2,L,I,J⟩
   simp[intOf];omega
  have L:=p.out d' (by
   have P:segL d' (a+s) n=[]:=aEc (by rw[f.out];omega);rw[P,aLv];have Q:segL d' a (a+s)=segL d' a n:=(by rw[aMf (by rw[f.out];omega),f.out]);rw[Q];exact SegAs.refl _ _ _)
  clear G D H N R c m f p v;go_wp2;go_roundw
  case rel=>exact ⟨2*s,ω,ω,by go_num,d',L,q,r⟩
  simp[intOf];omega
 have HF:Hid (d=sortC cs):=hid (by rw[bAm];exact v.out.all (by rw[<-X.out];omega));go_wp2;refine aI (aF rfl _ _ _) rfl ?_;exact ⟨rfl,d,HF.out,q.out,r.out⟩
theorem bBf:Calls prog 199 #[v,.int .i64 0,.int .i64 0,f] w fun e w'=>e=.returned (.tuple #[])/\w'=w:=by
 go_enter Tryz.func199,Tryz.ntmps199;go_wp2;refine kC 1 ?_;rw[mV];go_wp2;refine aI (aF rfl _ _ _) rfl ?_;exact ⟨rfl,rfl⟩
theorem aXa:Calls prog 162 #[v,.int .i64 0,f] w fun e w'=>e=.returned (.tuple #[])/\w'=w:=by
 have K:=bBf (v:=v) (f:=f) (w:=w);go_enter Tryz.func162,Tryz.ntmps162;go_wp2;refine kC 1 ?_;rw[mV];go_wp2_with fail;refine K.mono ?_;rintro e a ⟨rfl,rfl⟩;clear K;go_wp2;refine kC 1 ?_;rw[mV];go_wp2;refine aI (aF rfl _ _ _) rfl ?_;exact ⟨rfl,rfl⟩
theorem aJj(l:List CL):(sortC l).length=l.length:=by rw[bAm,bGj]
def SortedCs (w0:World)(v:Value)(cs:List CL)(w:World)(e:Ending) (w':World):Prop:=
 e=.returned (.tuple #[])/\w'.ownsRow w0.heap.size 94 3 v cs.length ((sortC cs).flatMap CL.cells)/\w.grownBy w' v.ownBlock
theorem bHv(n:cs.length<=1000000)(l:w.ownsRow w0.heap.size 94 3 v cs.length (cs.flatMap CL.cells)) :
  Calls prog 136 #[v,.func (.func 137) #[] #[]] w (SortedCs w0 v cs w):=by
 have t:=hid l;rcases l.2 with ⟨rfl,i⟩ | ⟨g,cap,m,rfl,j,r,a,k,b,s⟩
 ·have:cs=[]:=bj.1 i
  subst this;have K:=aXa (v:=.slice none 0 0) (f:=.func (.func 137) #[] #[]) (w:=w);clear l i n;go_enter Tryz.func136,Tryz.ntmps136;go_wp2_with fail;refine K.mono ?_;rintro e A ⟨rfl,rfl⟩;clear K;go_wp2;refine aI (aF rfl _ _ _) rfl ?_;exact ⟨rfl,t.out,cW _ _⟩
 have u:=hid j;have o:=hid (And.intro a (And.intro k b));have K:=bBy (w:=w) (g:=g) (cap:=cap) (cs:=cs) ⟨⟨m,r,b,a,s⟩,n⟩;have x:=n;clear l j r a k b s;have p:=hid (aJj cs);go_enter Tryz.func136,Tryz.ntmps136;go_wp2_with fail;refine K.mono ?_;rintro e A ⟨rfl,B,rfl,c,d⟩;have y:=hid c;have z:=hid d;clear K c d;go_wp2;refine aI (aF rfl _ _ _) rfl ?_;obtain ⟨h,C,D,E,q⟩:=y.out.ex;rw[p.out] at E q;exact ⟨rfl,⟨by rw[CL.len_flat,p.out],.inr ⟨g,cap,h,rfl,u.out,C,o.out.1,o.out.2.1,D,q⟩⟩,z.out⟩
structure MI (Z:Nat->Obj->Prop) (w0 w:World) (mb:Nat) (fv cv:Value) (m:List FV×List CL) (N:Nat):Prop where
 hs:w.heap[mb]? = some (.cells #[fv,cv] 181 (0,0))
 f1:w.ownsRow w0.heap.size 48 3 fv m.1.length (m.1.flatMap FV.cells)
 c1:w.ownsRow w0.heap.size 94 3 cv m.2.length (m.2.flatMap CL.cells)
 lo:w0.heap.size<=mb
 bel:Below w0.heap.size w0 w
 fits:∀f∈m.1,f.path.size<=1000000/\f.text.size<=1000000
 few1:m.1.length<=N
 few2:m.2.length<=N
 oth:∀k ob,Z k ob->w.heap[k]? = some ob/\k≠mb/\fv.ownBlock≠some k/\cv.ownBlock≠some k
theorem aBm {e T:TypeId}{cs:Array Value}{f:Nat×Nat}(h:w.ownsRow B e k v n xs)(g:w.heap[mb]? = some (.cells cs T f))(b:e≠T):v.ownBlock≠some mb:=fun d=>by
 obtain ⟨c,a⟩:=aQv h d;rw[g] at a;injection a with a;injection a with _ a _;exact b a.symm
theorem aFb {e c:TypeId}{m o:Nat}{d:Value}{a:List Value}(h:w.ownsRow B e k v n xs) (p:w.ownsRow B c m d o a)(b:e≠c)(g:Nat)(q:v.ownBlock=some g):d.ownBlock≠some g:=fun j=>by
 obtain ⟨f,i⟩:=aQv h q;exact aBm p i (fun l=>b l.symm) j
theorem MI.below(h:MI Z w0 w mb fv cv m N)(a:Below w.heap.size w w'):MI Z w0 w' mb fv cv m N:=
 ⟨(a.block mb (aAa h.hs)).trans h.hs,aAf h.f1 a,aAf h.c1 a,h.lo,h.bel.trans (a.mono h.bel.size),h.fits,h.few1,h.few2,fun k b c=>⟨(a.block k (aAa (h.oth k b c).1)).trans (h.oth k b c).1,(h.oth k b c).2⟩⟩
theorem aDu {T:TypeId}{o:Value}(b:w.ownsRow B T k v n xs)(c:w.grownBy w' o.ownBlock)(d:∀g,v.ownBlock=some g->o.ownBlock≠some g):w'.ownsRow B T k v n xs:=by
 refine b.kept c ?_
 cases e:v.ownBlock with
 | none=>exact .inl rfl
 | some g=>exact .inr (fun a=>d g e a.symm)
theorem MI.pushF {a:Value}{f:FV}(h:MI Z w0 w mb fv cv m N)(t:f.path.size<=1000000/\f.text.size<=1000000)(c:w.grownBy w' fv.ownBlock)(j:a.ownBlock=fv.ownBlock\/a.ownBlock=some w.heap.size)
  (p:w'.ownsRow w0.heap.size 48 3 a (m.1.length+1) (m.1.flatMap FV.cells++[f].flatMap FV.cells)):w'.heap[mb]? = some (.cells #[fv,cv] 181 (0,0))/\MI Z w0 (w'.setCell ⟨mb,0,none⟩ a) mb a cv (m.1++[f],m.2) (N+1):=by
 have b:=(c.block mb (aAa h.hs) (fun e=>aBm h.f1 h.hs (by decide) e.symm)).trans h.hs;have d:=aDu h.c1 c (fun g e=>aFb h.c1 h.f1 (by decide) g e);refine ⟨b,?_,?_,aK d (aBm d b (by decide)) _,h.lo,(h.bel.grown c h.bel.size (fun g c=>(h.f1.lt g c).1)).setCell h.lo _,fun x i=>?_,?_,by have:=h.few2;show m.2.length<=N+1;omega,fun k r s=>?_⟩
 ·have:=a8 w' mb 0 _ _ a b
  simpa using this
 ·refine aK ?_ (aBm p b (by decide)) _
  rw[ae,aJ];exact p
 ·rcases aQ.1 i with i | i
  ·exact h.fits x i
  rw[aS.1 i];exact t
 ·show (m.1++[f]).length<=N+1
  rw[ae];have:=h.few1;simp only[bf];omega
 obtain ⟨l,n,o,q⟩:=h.oth k r s
 exact ⟨(Below.heap_setCell w' ⟨mb,0,none⟩ _ k n).trans ((c.block k (aAa l) (fun e=>o e.symm)).trans l),n,fun e=>by
  rcases j with j | j
  ·exact o (j▸e)
  rw[j] at e;injection e with e;have:=aAa l;omega,q⟩
theorem MI.pushC {a:Value}{c:CL}(h:MI Z w0 w mb fv cv m N)(s:m.2.length+1<=N)(d:w.grownBy w' cv.ownBlock)(i:a.ownBlock=cv.ownBlock\/a.ownBlock=some w.heap.size)
  (o:w'.ownsRow w0.heap.size 94 3 a (m.2.length+1) (m.2.flatMap CL.cells++[c].flatMap CL.cells)):w'.heap[mb]? = some (.cells #[fv,cv] 181 (0,0))/\MI Z w0 (w'.setCell ⟨mb,1,none⟩ a) mb fv a (m.1,m.2++[c]) N:=by
 have b:=(d.block mb (aAa h.hs) (fun e=>aBm h.c1 h.hs (by decide) e.symm)).trans h.hs;have f:=aDu h.f1 d (fun g e=>aFb h.f1 h.c1 (by decide) g e);refine ⟨b,?_,aK f (aBm f b (by decide)) _,?_,h.lo,(h.bel.grown d h.bel.size (fun g d=>(h.c1.lt g d).1)).setCell h.lo _,h.fits,h.few1,?_,fun k q r=>?_⟩
 ·have:=a8 w' mb 1 _ _ a b
  simpa using this
 ·refine aK ?_ (aBm o b (by decide)) _
  rw[ae,aJ];exact o
 ·show (m.2++[c]).length<=N
  rw[ae];simpa using s
 obtain ⟨j,l,p,n⟩:=h.oth k q r
 exact ⟨(Below.heap_setCell w' ⟨mb,1,none⟩ _ k l).trans ((d.block k (aAa j) (fun e=>n e.symm)).trans j),l,p,fun e=>by
  rcases i with i | i
  ·exact n (i▸e)
  rw[i] at e;injection e with e;have:=aAa j;omega⟩
theorem MI.more {a:Nat}(h:MI Z w0 w mb fv cv m N)(b:N<=a):MI Z w0 w mb fv cv m a:=⟨h.hs,h.f1,h.c1,h.lo,h.bel,h.fits,by have:=h.few1;omega,by have:=h.few2;omega,h.oth⟩
theorem aBc:Elem prog 30 94 3 40:=aCa T
theorem aFe (w:World)(f:CL):Rd (w.alloc (.cells #[.string f.path,.int .i64 f.kind,.string f.text] 94)) (w.alloc (.cells #[.string f.path,.int .i64 f.kind,.string f.text] 94)).heap.size 3 (some ⟨w.heap.size,0,none⟩) 1 1 ([f].flatMap CL.cells):=
 aQh (au w _) rfl (aa _) fun j u hu=>by
  have:j<3:=(aj.1 hu).1
  match j,this with
  | 0,_=>simpa[CL.cells] using hu
  | 1,_=>simpa[CL.cells] using hu
  | 2,_=>simpa[CL.cells] using hu
theorem aGo(p t:ByteArray)(k:Int)(w:World):(Instr.build 94 #[(0,.string p),(1,.int .i64 k),(2,.string t)]).run prog w=.ok (.agg #[.string p,.int .i64 k,.string t]) w:=by
 go_simp
def PutIs (Z:Nat->Obj->Prop)(w0:World)(mb:Nat)(m:List FV×List CL)(N:Nat)(e:Ending) (w':World):Prop:=e=.returned (.tuple #[])/\∃fv cv,MI Z w0 w' mb fv cv m N
theorem aBd {f:FV}{kind:Int}(h:MI Z w0 w mb fv cv m N)(hN:N<=100000)(hf:f.path.size<=1000000/\f.text.size<=1000000) :
  Calls prog 155 #[.pointer (some ⟨mb,0,none⟩),.agg #[.string f.path,.bool f.exec,.string f.text],.int .i64 kind] w (PutIs Z w0 mb (putM m f kind) (N+1)):=by
 obtain ⟨W,eW⟩:∃W,W=w.alloc (.cells #[.string f.path,.bool f.exec,.string f.text] 48):=⟨_,rfl⟩;have ns:Below w.heap.size w W:=by rw[eW];exact (Below.refl _ _).alloc (aa _) _
 have P:W.heap[w.heap.size]? = some (.cells #[.string f.path,.bool f.exec,.string f.text] 48 (0,0)):=by rw[eW];exact au _ _
 have l:=h.below ns;obtain ⟨A,cA,S,nA⟩:=aAd l.f1;have ff:=l.f1;rw[S] at ff;have nu:RdF W W.heap.size A m.1.length cA m.1:=⟨Rd.of_own ff nA,rfl,fun x hx=>by have:=l.fits x hx;omega⟩
 have K:=aSk (q1:=.pointer (some ⟨w.heap.size,0,none⟩)) (fun x=>clashP x.p f.p) (by have:=l.few1;omega) nu
  (fun x u hx hu=>bKp (f:=f) (x:=x) hf.1 (l.fits x hx).1 ((hu.block _ (aAa P)).trans P))
 have HM:=hid l;have nj:=hid P;have HF:=hid hf;have C:=hid hN;have nH:=hid S;have c0:W.cell? ⟨mb,0,none⟩=some (.slice A m.1.length cA):=by rw[ab l.hs];exact congrArg some S
 have nD:=hid (fun e:fv.ownBlock=some w.heap.size=>cG _ (h.f1.lt _ e).2);have nw:=hid (fun e:cv.ownBlock=some w.heap.size=>cG _ (h.c1.lt _ e).2);have nE:=hid (gX (aAa h.hs));rw[eW] at c0 K;clear h ns P l ff nu nA hf hN S;go_enter Tryz.func155,Tryz.ntmps155;go_wp2_with fail;refine K.mono ?_;rintro e O ⟨rfl,U⟩;rw[<-eW] at U;have E:=hid (HM.out.below U);have d:=hid ((U.block _ (aAa nj.out)).trans nj.out);clear K c0 U HM nj eW;generalize w.heap.size=s at *;by_cases hc:(m.1.any fun x=>clashP x.p f.p)=true
 ·have HP:=hid (show putM m f kind=(m.1,m.2++[⟨f.path,5,f.text⟩]) by unfold putM;rw[ao hc])
  rw[hc];clear hc;have R:=hid (E.out.more (dh N));have t:=hid (show m.2.length+1<=N+1 from eQ E.out.few2);go_wp2
  refine aAq (fun u=>u.heap[mb]? = some (.cells #[fv,cv] 181 (0,0))/\u.heap[s]? = some (.cells #[.string f.path,.bool f.exec,.string f.text] 48 (0,0)))
   [(true,0),(true,1),(true,2),(true,3),(true,4),(true,5),(true,6),(true,7),(true,8),(true,9),(false,10),(false,11),(false,12),(true,13),(true,14)] [15] mixed κ ⟨R.out.hs,d.out⟩ ?_
  intro Tp M Q Q2 D I y hQ r;have Y:M ⟨mb,1,none⟩=some cv:=y _ _ fun w' k=>by rw[ab k.1];rfl
  have m1:M ⟨s,0,none⟩=some (.string f.path):=y _ _ fun w' k=>by rw[ab k.2];rfl
  have m3:M ⟨s,2,none⟩=some (.string f.text):=y _ _ fun w' k=>by rw[ab k.2];rfl
  clear y;simp only[qcmp];simp only[↓qpre,aAb,aAg,aAc,Y,m1,m3];clear Y m1 m3;refine aBo rfl (aGo _ _ _ _) ⟨D _ ⟨R.out.hs,d.out⟩,?_⟩;simp only[aAb,aAc];have i:Below O.heap.size O (O.drew.alloc (.cells #[.string f.path,.int .i64 5,.string f.text] 94)):=(Below.refl _ _).drew.alloc (aa _) _;have a:=hid (R.out.below i);have g:=hid ((i.block s (aAa d.out)).trans d.out);have q:=hid (aFe O.drew ⟨f.path,5,f.text⟩);refine T.eff_lits (T.run_lits3 aBc _ _ _ _) rfl ⟨D _ ⟨a.out.hs,g.out⟩,?_⟩;simp only[aAb,aAc];clear i R d;generalize O.drew.alloc (.cells #[.string f.path,.int .i64 5,.string f.text] 94)=V at *;refine aAo aBc (base:=w0.heap.size) (n:=m.2.length) rfl rfl a.out.c1 q.out (aCd _) (by have:=t.out;have:=C.out;unfold maxLen;omega) (by have:=t.out;have:=C.out;omega) a.out.bel.size ?_;intro v9 V5 z B J;obtain ⟨A9,c9,rfl,nG⟩:=aAd z;obtain ⟨j,L⟩:=a.out.pushC (c:=⟨f.path,5,f.text⟩) t.out B J z;have nk:=hid L;have F:=hid ((B.block s (aAa g.out) (fun e=>nw.out e.symm)).trans g.out);refine ⟨D _ ⟨j,F.out⟩,?_⟩;simp only[↓qpre,aAb,aAg,aAc];refine hQ _ _ ?_;simp only[lates,List.map,qcmp];simp only[aAb];refine aBa (v:=.slice A9 (m.2.length+1) c9) (b:=mb) (o:=1) κ rfl rfl (by rw[ab j];rfl) (aAk j) rfl ⟨trivial,?_⟩;simp only[aAb];refine r _ _ ?_;clear hQ r D I a g q z B J j L F;generalize V5.setCell ⟨mb,1,none⟩ (.slice A9 (m.2.length+1) c9)=V6 at *;go_wp2;refine aI (aF rfl _ _ _) rfl ?_;exact ⟨rfl,_,_,by rw[HP.out];exact nk.out⟩
 have nz:(m.1.any fun x=>clashP x.p f.p)=false:=by simpa using hc
 have HP:=hid (show putM m f kind=(m.1++[f],if kind=0 then m.2 else m.2++[⟨f.path,kind,f.text⟩]) by unfold putM;rw[ah hc]);rw[nz];clear hc nz;go_wp2
 refine aAq (fun u=>u.heap[mb]? = some (.cells #[fv,cv] 181 (0,0))/\u.heap[s]? = some (.cells #[.string f.path,.bool f.exec,.string f.text] 48 (0,0)))
  [(true,0),(true,1),(true,2),(true,3),(true,4),(true,5),(false,6),(false,7),(true,8),(true,9)] [10] mixed κ ⟨E.out.hs,d.out⟩ ?_
 intro Tp M Q Q2 D I y hQ r;have Y:M ⟨mb,0,none⟩=some fv:=y _ _ fun w' k=>by rw[ab k.1];rfl
 have m1:M ⟨s,0,none⟩=some (.string f.path):=y _ _ fun w' k=>by rw[ab k.2];rfl
 have m2:M ⟨s,1,none⟩=some (.bool f.exec):=y _ _ fun w' k=>by rw[ab k.2];rfl
 have m3:M ⟨s,2,none⟩=some (.string f.text):=y _ _ fun w' k=>by rw[ab k.2];rfl
 clear y;simp only[qcmp];simp only[↓qpre,aAb,aAg,aAc,Y,m1,m2,m3];clear Y m1 m2 m3;have i:Below O.heap.size O (O.drew.alloc (.cells #[.string f.path,.bool f.exec,.string f.text] 48)):=(Below.refl _ _).drew.alloc (aa _) _;have a:=hid (E.out.below i);have g:=hid ((i.block s (aAa d.out)).trans d.out);have q:=hid (aNn O.drew f);refine T.eff_lits (T.run_lits3 aDg _ _ _ _) rfl ⟨D _ ⟨a.out.hs,g.out⟩,?_⟩;simp only[aAb,aAc];clear i E d;generalize O.drew.alloc (.cells #[.string f.path,.bool f.exec,.string f.text] 48)=V at *;refine aAo aDg (base:=w0.heap.size) (n:=m.1.length) rfl rfl a.out.f1 q.out (aBu _) (by have:=a.out.few1;have:=C.out;unfold maxLen;omega) (by have:=a.out.few1;have:=C.out;omega) a.out.bel.size ?_;intro v7 V5 nq nr nB;obtain ⟨A7,c7,rfl,nI⟩:=aAd nq;obtain ⟨X,nC⟩:=a.out.pushF (f:=f) HF.out nr nB nq;have G:=hid nC;have nm:=hid ((nr.block s (aAa g.out) (fun e=>nD.out e.symm)).trans g.out);refine ⟨D _ ⟨X,nm.out⟩,?_⟩;simp only[↓qpre,aAb,aAg,aAc];refine hQ _ _ ?_;simp only[lates,List.map,qcmp];simp only[aAb];refine aBa (v:=.slice A7 (m.1.length+1) c7) (b:=mb) (o:=0) κ rfl rfl (by rw[ab X];rfl) (aAk X) rfl ⟨trivial,?_⟩;simp only[aAb];refine r _ _ ?_;have H:=hid ((Below.heap_setCell V5 ⟨mb,0,none⟩ (.slice A7 (m.1.length+1) c7) s nE.out).trans nm.out);have nF:=a;clear hQ r D I a g q nq nr nB X nC nm;generalize V5.setCell ⟨mb,0,none⟩ (.slice A7 (m.1.length+1) c7)=V6 at *;by_cases hk:kind=0
 ·subst hk
  go_wp2;refine aI (aF rfl _ _ _) rfl ?_;exact ⟨rfl,_,_,by rw[HP.out];exact G.out⟩
 have ek:(kind != 0)=true:=by simpa using hk
 rw[ah hk] at HP;have t:=hid (show m.2.length+1<=N+1 from eQ (nF.out.few2));clear hk;go_wp2
 refine aAq (fun u=>u.heap[mb]? = some (.cells #[(.slice A7 (m.1.length+1) c7),cv] 181 (0,0))/\u.heap[s]? = some (.cells #[.string f.path,.bool f.exec,.string f.text] 48 (0,0)))
  [(true,0),(true,1),(true,2),(true,3),(true,4),(true,5),(true,6),(true,7),(true,8),(true,9),(false,10),(false,11),(false,12),(true,13),(true,14)] [15] mixed κ ⟨G.out.hs,H.out⟩ ?_
 intro Tp M Q Q2 D I y hQ r;have Y:M ⟨mb,1,none⟩=some cv:=y _ _ fun w' k=>by rw[ab k.1];rfl
 have m1:M ⟨s,0,none⟩=some (.string f.path):=y _ _ fun w' k=>by rw[ab k.2];rfl
 have m3:M ⟨s,2,none⟩=some (.string f.text):=y _ _ fun w' k=>by rw[ab k.2];rfl
 clear y;simp only[qcmp];simp only[↓qpre,aAb,aAg,aAc,Y,m1,m3];clear Y m1 m3;refine aBo rfl (aGo _ _ _ _) ⟨D _ ⟨G.out.hs,H.out⟩,?_⟩;simp only[aAb,aAc];have i:Below V6.heap.size V6 (V6.drew.alloc (.cells #[.string f.path,.int .i64 kind,.string f.text] 94)):=(Below.refl _ _).drew.alloc (aa _) _;have a:=hid (G.out.below i);have g:=hid ((i.block s (aAa H.out)).trans H.out);have q:=hid (aFe V6.drew ⟨f.path,kind,f.text⟩);refine T.eff_lits (T.run_lits3 aBc _ _ _ _) rfl ⟨D _ ⟨a.out.hs,g.out⟩,?_⟩;simp only[aAb,aAc];clear i G H;generalize V6.drew.alloc (.cells #[.string f.path,.int .i64 kind,.string f.text] 94)=V at *;refine aAo aBc (base:=w0.heap.size) (n:=m.2.length) rfl rfl a.out.c1 q.out (aCd _) (by have:=t.out;have:=C.out;unfold maxLen;omega) (by have:=t.out;have:=C.out;omega) a.out.bel.size ?_;intro v9 V5 z B J;obtain ⟨A9,c9,rfl,nG⟩:=aAd z;obtain ⟨j,L⟩:=a.out.pushC (c:=⟨f.path,kind,f.text⟩) t.out B J z;have nk:=hid L;have F:=hid ((B.block s (aAa g.out) (fun e=>nw.out e.symm)).trans g.out);refine ⟨D _ ⟨j,F.out⟩,?_⟩;simp only[↓qpre,aAb,aAg,aAc];refine hQ _ _ ?_;simp only[lates,List.map,qcmp];simp only[aAb];refine aBa (v:=.slice A9 (m.2.length+1) c9) (b:=mb) (o:=1) κ rfl rfl (by rw[ab j];rfl) (aAk j) rfl ⟨trivial,?_⟩;simp only[aAb];refine r _ _ ?_;clear hQ r D I a g q z B J j L F;generalize V5.setCell ⟨mb,1,none⟩ (.slice A9 (m.2.length+1) c9)=V6 at *;go_wp2;refine aI (aF rfl _ _ _) rfl ?_;exact ⟨rfl,_,_,by rw[HP.out];exact nk.out⟩
end Go.Proofs.YtohblmepajhpaaaGreatDoor
