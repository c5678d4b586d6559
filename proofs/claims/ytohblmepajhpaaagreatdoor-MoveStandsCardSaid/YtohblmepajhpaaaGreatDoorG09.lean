/- Contracts of functions that the law reaches; plain laws. -/
import Derived.Shelf.SlSortCmp.NoneTotal
import Derived.Shelf.SlGeneric
import Derived.Test.YtohblmepajhpaaaGreatDoorRows
import Derived.Test.YtohblmepajhpaaaGreatDoorG08
set_option maxHeartbeats 8000000
set_option maxRecDepth 100000
open Go.Lib (hid)
namespace Go.Proofs.YtohblmepajhpaaaGreatDoor
open Go.Proofs.Tryz (prog)
open Go.RowKit
variable {l is js:List Nat}{j x sb m k i y:Nat}{w0 w w':World}{bs ss v f:Value}{ps:List (Nat×Nat)}{G:GT}{Z:Nat->Obj->Prop}{base side:List FV}{mo:Int}{S:World->Prop}{a:Act}{K:Act->World->Prop}{dst:Option Tmp}{t ty:TypeId}{q:Bool}{g:Option (Tmp×Bool)}{A:Option Addr}{α:Type}
theorem aPm {p:Nat->Bool}(b:l[j]? = some x)(e:p x=true)(c:∀(i y:Nat),i<j->l[i]? = some y->p y=false):l.find? p=some x:=by
 induction l generalizing j with
 | nil=>cases b
 | cons a l ih=>
  cases j with
  | zero=>cases b;simp[e]
  | succ j=>
   rw[iT,c 0 a O rfl];exact ih b fun i y f d=>c (i+1) y O d
theorem bBw {p:Nat->Bool}(h:∀x∈l,p x=false):l.find? p=none:=cL.2 fun x a=>by simp[h x a]
structure SameAt (base side:List FV) (is js:List Nat) (ps:List (Nat×Nat)) (k:Nat) (is' js':List Nat) (ps':List (Nat×Nat)):Prop where
 left:∃l,is'=l++is.drop k/\l++(sameF base side (is.drop k) js').2.1=(sameF base side is js).2.1
 nd:is'.Nodup
 pairs:ps'++(sameF base side (is.drop k) js').1=ps++(sameF base side is js).1
 right:(sameF base side (is.drop k) js').2.2=(sameF base side is js).2.2
 sub:∀j∈js',j∈js
 n1:is'.length<=is.length
 n2:js'.length<=js.length
 n3:ps'.length<=ps.length+k
section
variable {base side:List FV} {is js:List Nat} {ps:List (Nat×Nat)} {k:Nat} {is' js':List Nat} {ps':List (Nat×Nat)}
theorem SameAt.start(a:is.Nodup):SameAt base side is js ps 0 is js ps:=⟨⟨[],by simp,by simp⟩,a,by simp,by simp,fun _ h=>h,aa _,aa _,O⟩
theorem SameAt.mem(h:SameAt base side is js ps k is' js' ps'){i:Nat}(b:is[k]? = some i):i∈is':=by
 obtain ⟨⟨l,rfl,_⟩,_⟩:=h;obtain ⟨a,rfl⟩:=aj.1 b;rw[bp a];exact go _ bu
theorem SameAt.skip(h:SameAt base side is js ps k is' js' ps'){i:Nat}(p:is[k]? = some i)(q:js'.find? (fun j=>decide (textAt side j=textAt base i))=none):SameAt base side is js ps (k+1) is' js' ps':=by
 obtain ⟨⟨l,n,m⟩,a,b,c,d,e,f,g⟩:=h;obtain ⟨o,rfl⟩:=aj.1 p;rw[bp o] at n m b c;rw[sameF,q] at m b c;dsimp only at m b c;exact ⟨⟨l++[is[k]],by rw[n,aH];rfl,by rw[<-m,aH];rfl⟩,a,b,c,d,e,f,O⟩
theorem SameAt.take(h:SameAt base side is js ps k is' js' ps'){i j:Nat}(u:is[k]? = some i)(v:js'.find? (fun j=>decide (textAt side j=textAt base i))=some j) :
  SameAt base side is js ps (k+1) (is'.filter fun k=>decide (k≠i)) (js'.filter fun k=>decide (k≠j)) (ps'++[(i,j)]):=by
 obtain ⟨⟨l,q,n⟩,a,b,c,d,e,f,g⟩:=h;obtain ⟨s,rfl⟩:=aj.1 u;rw[bp s] at q n b c;rw[sameF,v] at n b c;dsimp only at n b c;subst q;have o:is[k]∉l:=fun t=>(gz.1 a).2.2 _ t _ bu rfl;have p:is[k]∉is.drop (k+1):=(eD.1 (gz.1 a).2.1).1
 have r:(l++is[k]::is.drop (k+1)).filter (fun x=>decide (x≠is[k]))=l++is.drop (k+1):=by
  rw[bX,dG,dg.2 (fun x m=>by simp;rintro rfl;exact o m),dg.2 (fun x m=>by simp;rintro rfl;exact p m)];simp
 refine ⟨⟨l,r,n⟩,a.filter _,by rw[<-b];simp,c,fun x m=>d x (aX.1 m).1,aw (bD _ _) e,aw (bD _ _) f,by simp;omega⟩
theorem SameAt.done(h:SameAt base side is js ps is.length is' js' ps'):is'=(sameF base side is js).2.1/\js'=(sameF base side is js).2.2/\ps'=ps++(sameF base side is js).1:=by
 obtain ⟨⟨l,i,j⟩,a,b,c,d,e,f,g⟩:=h;rw[eP,sameF] at j b c;rw[eP] at i;exact ⟨by rw[i];exact j,c,by rw[<-b];simp⟩
end
theorem Sr.moreZ {Y:Nat->Obj->Prop}(h:Sr w0 w sb m bs ss is js ps G Z)(g:Below w.heap.size w w')(i:∀k b,Y k b->w'.heap[k]? = some b/\w.heap.size<=k) :
  Sr w0 w' sb m bs ss is js ps G fun k b=>Z k b\/Y k b:=by
 obtain ⟨f,t,o,h⟩:=h;have a:=h.below g;refine ⟨f,t,o,a.hs,a.f1,a.t1,a.o1,a.nf,a.nt,a.no,a.nft,a.nfo,a.nto,a.mp,a.lo,a.bel,fun k b c=>?_⟩;rcases c with c | c
 ·exact a.oth k b c
 obtain ⟨d,j⟩:=i k b c;refine ⟨d,fun e=>?_,fun e=>?_,fun e=>?_,fun e=>?_⟩
 ·have:=aAa h.hs;omega
 ·have:=(h.f1.lt _ e).2;omega
 ·have:=(h.t1.lt _ e).2;omega
 have:=(h.o1.lt _ e).2;omega
theorem aGi {B n:Nat}(h:w.ownsRow B 3 1 v n (natsV l)) :
  ∃A c,v=.slice A n c/\∀(k x:Nat),l[k]? = some x->∃g a,A=some ⟨g,0,none⟩/\B<=g/\w.heap[g]? = some (.cells a 3 (0,0))/\a[k]? = some (.int .i64 (x:Int)):=by
 rcases h with ⟨e,⟨rfl,rfl⟩ | ⟨g,cap,a,rfl,f,i,m,o,p,j⟩⟩
 ·refine ⟨none,0,rfl,fun k x b=>?_⟩
  have:l=[]:=bj.1 (by rw[aDl] at e;omega);subst this;cases b
 refine ⟨_,_,rfl,fun k x b=>⟨g,a,rfl,f,i,?_⟩⟩;have d:(natsV l)[k]? = some (.int .i64 (x:Int)):=by unfold natsV;rw[aG,b];rfl
 have:=aBj (by simpa using j) d;simpa using this
theorem bDq {B:Nat}(t:l.length<=1000000)(h:w.ownsRow B 3 1 v l.length (natsV l)) :
  Calls prog 206 #[v] w (NatsIs l w):=by
 rcases h with ⟨o,⟨rfl,f⟩ | ⟨g,cap,k,rfl,p,m,q,r,s,n⟩⟩
 ·refine (Tryz.slices_Clone_int_nil 0 0 w).mono ?_
  rintro e w' ⟨rfl,rfl⟩;have:l=[]:=bj.1 f;subst this;exact ⟨_,rfl,aA _ _ _ _,Below.refl _ _⟩
 refine (Tryz.slices_Clone_int g 0 l.length cap (l.map fun i:Nat=>(i:Int)) w (by simp) O (fun j a=>?_)).mono ?_
 ·rw[az] at a
  have c:(natsV l)[j]? = some (.int .i64 ((l[j]:Nat):Int)):=by unfold natsV;rw[aG,ac a];rfl
  have:=aBj (by simpa using n) c;rw[aO,bd w _ _ _ _ _ m];simp only[List.getD_eq_getElem?_getD,aG,ac a];simpa using this
 rintro e w' ⟨v,rfl,b,_,d⟩;refine ⟨v,rfl,?_,d⟩;rw[ai (by simp),iA] at b;exact b
def SameR (base side:List FV)(w0 wr:World)(sb m:Nat)(bs ss:Value)(is js:List Nat)(ps:List (Nat×Nat))(G:GT)(Z:Nat->Obj->Prop)(k:Nat):Prop:=
 ∃is' js' ps',Sr w0 wr sb m bs ss is' js' ps' G Z/\SameAt base side is js ps k is' js' ps'
theorem aNi(x y:Int)(w:World):(Instr.build 234 #[(0,.int .i64 x),(1,.int .i64 y)]).run prog w=.ok (.agg #[.int .i64 x,.int .i64 y]) w:=by
 go_simp
theorem bKa(h:Sr w0 w sb m bs ss is js ps G Z)(T2:Two w0 bs ss base side)
  (nP:is.length<=100000) (nB:js.length<=100000) (nQ:ps.length+is.length<=100000) (hi:∀i∈is,i<base.length) (hj:∀j∈js,j<side.length) (hn:is.Nodup) :
  Calls prog 170 #[.pointer (some ⟨sb,0,none⟩)] w fun e w'=>e=.returned (.tuple #[])/\Sr w0 w' sb m bs ss (sameF base side is js).2.1 (sameF base side is js).2.2 (ps++(sameF base side is js).1) G Z:=by
 have hW:Below w.heap.size w (w.alloc (.cells #[.pointer (some ⟨sb,0,none⟩)] 226)):=(Below.refl _ _).alloc (aa _) _;have HB:=hid (au w (.cells #[.pointer (some ⟨sb,0,none⟩)] 226));have H1:=hid (h.below hW);have HW:=hid hW;have HH:=hid h;have HI:=hid hi;have HJ:=hid hj;have HN:=hid hn;have HT:=hid T2;clear h hW hi hj hn T2;obtain ⟨f1,t1,o1,d⟩:=H1.out;have KC:=bDq ω d.f1;have k0:(w.alloc (.cells #[.pointer (some ⟨sb,0,none⟩)] 226)).cell? ⟨w.heap.size,0,none⟩=some (.pointer (some ⟨sb,0,none⟩)):=by rw[ab HB.out];rfl
 have k2:(w.alloc (.cells #[.pointer (some ⟨sb,0,none⟩)] 226)).cell? ⟨sb,2,none⟩=some f1:=by rw[ab d.hs];rfl
 clear d;go_enter Tryz.func170,Tryz.ntmps170;go_wp2_with fail;refine KC.mono ?_;rintro e R ⟨v,rfl,ho,z⟩;clear KC k0 k2;obtain ⟨A,c,rfl,S⟩:=aGi ho;have n:w.heap.size<(w.alloc (.cells #[.pointer (some ⟨sb,0,none⟩)] 226)).heap.size:=by simp
 have J:R.heap[w.heap.size]? = some (.cells #[.pointer (some ⟨sb,0,none⟩)] 226 (0,0)):=(z.block _ n).trans HB.out;have H2:=hid (HH.out.moreZ (HW.out.trans (z.mono HW.out.size)) (Y:=fun k l=>w.heap.size<=k/\R.heap[k]? = some l) (fun k l hk=>⟨hk.2,hk.1⟩));have nr:=hid S;have K:=hid J;have ns:=hid (bV n);clear ho z S J n H1 HB HW HH;go_wp2;go_loopw[11] (fun i wr=>∃k:Nat,k<=is.length/\i=.int .i64 k/\Hid (SameR base side w0 wr sb m bs ss is js ps G (fun k l=>Z k l\/(w.heap.size<=k/\R.heap[k]? = some l)) k)) (fun i _=>is.length-(intOf i).toNat)
 case atStart=>exact ⟨0,al _,rfl,hid ⟨_,_,_,H2.out,SameAt.start HN.out⟩⟩
 obtain ⟨k,hk,rfl,HR⟩:=hrel;obtain ⟨is',js',ps',H,ha⟩:=HR.out;by_cases nD:k<is.length
 ·have L:=ac nD
  generalize is[k]=i at L;obtain ⟨g,nN,rfl,hg,C,D⟩:=nr.out k i L;have nu:=(Below.refl wr.heap.size wr).alloc (aa _) (.cells #[.int .i64 (i:Int)] 3);have hz:=H.more nu (au wr (.cells #[.int .i64 (i:Int)] 3)) (aa _);obtain ⟨f2,t2,o2,T⟩:=id H
  have c0:wr.cell? ⟨g,k,none⟩=some (.int .i64 (i:Int)):=by
   rw[ab (T.oth g _ (.inr ⟨aw ns.out hg,C⟩)).1];exact D
  clear T f2 t2 o2;obtain ⟨f2,t2,o2,d⟩:=id hz;obtain ⟨B,cb,rfl,U⟩:=aAd d.t1;have nJ:js'.length<=100000:=aw ha.n2 nB;have a:=(d.oth w.heap.size _ (.inl (.inr ⟨aa _,K.out⟩))).1;have f:=(d.oth wr.heap.size _ (.inr ⟨rfl,rfl⟩)).1
  have KI:=aYs (q1:=.pointer (some ⟨w.heap.size,0,none⟩)) (q2:=.pointer (some ⟨wr.heap.size,0,none⟩)) (fun j=>decide (textAt side j=textAt base i)) ω (Rd.of_own d.t1 U)
   (fun j u nA I=>bFx HT.out (d.bel.trans (I.mono d.bel.size)) (HI.out i (aC L)) (HJ.out j (ha.sub j nA))
    (by rw[ab ((I.block _ (aAa a)).trans a)];rfl) (by rw[ab ((I.block _ (aAa f)).trans f)];rfl) ((I.block _ (aAa d.hs)).trans d.hs)
    (ag (aAa a) I.size) (ag (aAa f) I.size))
  have c1:(wr.alloc (.cells #[.int .i64 (i:Int)] 3)).cell? ⟨w.heap.size,0,none⟩=some (.pointer (some ⟨sb,0,none⟩)):=by rw[ab a];rfl
  have c2:(wr.alloc (.cells #[.int .i64 (i:Int)] 3)).cell? ⟨sb,3,none⟩=some (.slice B js'.length cb):=by rw[ab d.hs];rfl
  have HP:=hid d;have s:=hid ha;have N:=hid L;have nK:=hid C;have nL:=hid D;clear hz d ha L a f U C D H HR;go_wp2_with fail;refine KI.mono ?_;rintro e E ⟨q,rfl,hq,F⟩;have b:=hid (HP.out.below F);have HQ:=hid hq;have nM:=hid F;clear KI c0 c1 c2 hq F HP;rcases HQ.out with ⟨rfl,nk⟩ | ⟨j,x,rfl,o,nm,nq⟩
  ·have t:=hid (s.out.skip N.out (bBw nk))
   have y:=hid (Sr.weaken (Z':=fun k l=>Z k l\/(w.heap.size<=k/\R.heap[k]? = some l)) ⟨_,_,_,b.out⟩ (fun k l h=>.inl h));clear nk b s N HQ;go_wp2;go_roundw
   case rel=>exact ⟨k+1,ω,by go_num,hid ⟨_,_,_,y.out,t.out⟩⟩
   simp[intOf];omega
  have t:=hid (s.out.take N.out (aPm o nm nq));have O:x∈js':=aC o;have P:i∈is':=s.out.mem N.out;obtain ⟨B2,nO,eB,hB⟩:=aGi b.out.t1;injection eB with eB1 _ eB2;subst eB1;obtain ⟨r,nI,rfl,H,V,W⟩:=hB j x o;have nE:j<js'.length:=(aj.1 o).1;have d0:E.cell? ⟨r,j,none⟩=some (.int .i64 (x:Int)):=by rw[ab V];exact W
  have d1:E.cell? ⟨w.heap.size,0,none⟩=some (.pointer (some ⟨sb,0,none⟩)):=by rw[ab (b.out.oth w.heap.size _ (.inl (.inr ⟨aa _,K.out⟩))).1];rfl
  have d2:E.cell? ⟨wr.heap.size,0,none⟩=some (.int .i64 (i:Int)):=by rw[ab (b.out.oth wr.heap.size _ (.inr ⟨rfl,rfl⟩)).1];rfl
  have d3:E.cell? ⟨sb,3,none⟩=some (.slice (some ⟨r,0,none⟩) js'.length cb):=by rw[ab b.out.hs];rfl
  have nF:=s.out.n1;have nG:=s.out.n2;have nH:=s.out.n3;have KT:=bAj (Sr.below ⟨_,_,_,b.out⟩ (Below.refl E.heap.size E).drew) P O ω ω ω;clear o nm nq hB V W b s N HQ O P;generalize nC:w.heap.size=sx at *;generalize wr.heap.size=ix at *;go_wp2;refine aAq (fun w'=>∀p:Addr,w'.cell? p=E.cell? p) [(true,0),(true,1),(true,2),(true,3),(true,4),(true,5),(true,6),(true,7),(true,8),(false,9)] [10] mixed κ (fun p=>rfl) ?_;intro Tp M Q Q2 hT nz X hQ ff;have m0:M ⟨r,j,none⟩=some (.int .i64 (x:Int)):=X _ _ fun w' n=>(n _).trans d0;have m1:M ⟨sx,0,none⟩=some (.pointer (some ⟨sb,0,none⟩)):=X _ _ fun w' n=>(n _).trans d1;have m2:M ⟨ix,0,none⟩=some (.int .i64 (i:Int)):=X _ _ fun w' n=>(n _).trans d2;have m3:M ⟨sb,3,none⟩=some (.slice (some ⟨r,0,none⟩) js'.length cb):=X _ _ fun w' n=>(n _).trans d3;clear X;simp only[qcmp];simp (maxSteps:=9^7) only[↓qpre,aAb,aAg,aAc,m0,m1,m2,m3];refine ⟨⟨ω,ω⟩,?_⟩;refine aBo rfl (aNi _ _ _) ⟨hT _ (fun p=>rfl),?_⟩;simp (maxSteps:=9^7) only[aAb,aAc];refine hQ _ _ ?_;simp only[lates,List.map,qcmp];simp (maxSteps:=9^7) only[aAb];refine aAh κ KT rfl rfl ?_;rintro e w3 ⟨rfl,nj⟩;refine ⟨_,rfl,trivial,?_⟩;simp (maxSteps:=9^7) only[aAb];refine ff _ _ ?_;clear hQ ff hT nz m0 m1 m2 m3 KT d0 d1 d2 d3;have y:=hid (nj.weaken (Z':=fun k l=>Z k l\/(sx<=k/\R.heap[k]? = some l)) (fun k l h=>.inl h));clear nj;subst nC;go_wp2;go_roundw
  case rel=>exact ⟨k+1,ω,by go_num,hid ⟨_,_,_,y.out,t.out⟩⟩
  simp[intOf];omega
 have nw:k=is.length:=ω;subst nw;obtain ⟨rfl,rfl,rfl⟩:=ha.done;have HF:=hid (H.weaken (Z':=Z) (fun k l h=>.inl h));clear H ha;go_wp2;refine aI (aF rfl _ _ _) rfl ?_;exact ⟨rfl,HF.out⟩
theorem MpQ.get {b n:Nat}{D:DataW Value}{G:Nat->Nat->Option Nat}(h:MpQ w b n D G){x y:Nat}(d:x<=1000000000)(e:y<=1000000000) :
  (Instr.lookup 228 (.map (some b)) (.agg #[.int .i64 (x:Int),.int .i64 (y:Int)]) false).run prog w=.ok (.int .i64 (((G x y).getD 0:Nat):Int)) w:=by
 obtain ⟨v,ps,a,c⟩:=h.own.lookup KQ2 lk (bS w) (show Rv (.int .i64 0)=some (.held (.int .i64 0),[]) from rfl) (keyQ2 d e);rw[h.at_ x y d e] at c
 have:v=.int .i64 (((G x y).getD 0:Nat):Int):=by
  have f:(DataW.held v:DataW Value)=.held (.int .i64 (((G x y).getD 0:Nat):Int)):=by
   have:=c;simp only[Rv,dy,fY] at this;exact this.1
  exact aHf f
 rw[this] at a;exact a
def AlikeG (base side:List FV)(is js:List Nat)(G:Nat->Nat->Option Nat):Prop:=∀i∈is,∀j∈js,((G i j).getD 0:Nat)=ratioF (textAt base i) (textAt side j)
def bstep (base side:List FV)(b:Option (Nat×Nat)×Int)(p:Nat×Nat):Option (Nat×Nat)×Int:=let r:=ratioF (textAt base p.1) (textAt side p.2);if b.2<r then (some p,r) else b
def foldB (base side:List FV)(l:List (Nat×Nat)):Option (Nat×Nat)×Int:=l.foldl (bstep base side) (none,49)
def rowB (is js:List Nat)(k:Nat):List (Nat×Nat):=(is.take k).flatMap fun i=>js.map fun j=>(i,j)
theorem aSa(base side:List FV)(is js:List Nat):bestF base side is js=(foldB base side (rowB is js is.length)).1:=by
 unfold bestF foldB rowB;rw[ai (aa _)];rfl
theorem aTm(a:is[k]? = some i):rowB is js (k+1)=rowB is js k++js.map fun j=>(i,j):=by
 unfold rowB;rw[aB,a,aJ];simp
def BestIs (st:Option (Nat×Nat)×Int)(x y:Nat)(mo:Int):Prop:=st.2=mo/\((st.1=none/\mo=49)\/(st.1=some (x,y)/\50<=mo))
theorem aGy(base side:List FV)(l:List (Nat×Nat))(p:Nat×Nat):foldB base side (l++[p])=bstep base side (foldB base side l) p:=by
 unfold foldB;rw[cJ];rfl
theorem aMg {b:Option (Nat×Nat)×Int}{r:Int}(a:b.2=mo)(c:ratioF (textAt base i) (textAt side j)=r):bstep base side b (i,j)=if mo<r then (some (i,j),r) else b:=by
 unfold bstep;rw[a];simp only[c]
theorem BestIs.more {l:List (Nat×Nat)}{r:Int}(h:BestIs (foldB base side l) x y mo)(c:ratioF (textAt base i) (textAt side j)=r)(d:mo<r):BestIs (foldB base side (l++[(i,j)])) i j r:=by
 obtain ⟨a,b⟩:=h;rw[aGy,aMg a c,ao d];exact ⟨rfl,.inr ⟨rfl,by rcases b with ⟨_,h⟩ | ⟨_,h⟩<;>omega⟩⟩
theorem BestIs.same {l:List (Nat×Nat)}{r:Int}(h:BestIs (foldB base side l) x y mo)(a:ratioF (textAt base i) (textAt side j)=r)(b:¬mo<r):BestIs (foldB base side (l++[(i,j)])) x y mo:=by
 rw[aGy,aMg h.1 a,ah b];exact h
def BestRes (base side:List FV)(is js:List Nat)(w:World)(e:Ending) (w':World):Prop:=
 ∃(x y:Nat) (b:Bool),e=.returned (.tuple #[.agg #[.int .i64 (x:Int),.int .i64 (y:Int)],.bool b])/\bestF base side is js=(if b=true then some (x,y) else none)/\Below w.heap.size w w'
structure BestW (w wr:World) (x y:Nat):Prop where
 b0:wr.heap[w.heap.size]? = some (.cells #[.int .i64 0,.int .i64 0] 234 (0,0))
 b1:wr.heap[w.heap.size+1]? = some (.cells #[.int .i64 (x:Int),.int .i64 (y:Int)] 234 (0,0))
 bel:Below w.heap.size w wr
theorem BestW.set {wr:World}(h:BestW w wr x y):BestW w (wr.setRow (w.heap.size+1) #[.int .i64 (i:Int),.int .i64 (j:Int)]) i j:=
 ⟨(by
   have:=dA wr (w.heap.size+1) w.heap.size #[.int .i64 (i:Int),.int .i64 (j:Int)] O;rw[this];exact h.b0),bB wr _ _ _ _ _ h.b1,aAj h.bel O⟩
theorem bKh(h:Sr w0 w sb m bs ss is js ps G Z)(hG:AlikeG base side is js G.1)
  (nm:is.length<=100000) (nq:js.length<=100000) (hi:∀i∈is,i<=100000) (hj:∀j∈js,j<=100000) :
  Calls prog 210 #[.pointer (some ⟨sb,0,none⟩)] w (BestRes base side is js w):=by
 obtain ⟨f,t,o,C⟩:=h;have HG:=hid hG;have HI:=hid hi;have HJ:=hid hj;have O:=hid C;obtain ⟨A,ca,rfl,I⟩:=aGi C.f1;obtain ⟨B,cb,rfl,J⟩:=aGi C.t1;have HF:=hid I;have HS:=hid J
 have P:=hid (show BestW w ((w.alloc (.cells #[.int .i64 0,.int .i64 0] 234)).alloc (.cells #[.int .i64 0,.int .i64 0] 234)) 0 0 from
  ⟨(((Below.refl _ _).alloc (aa _) _).block _ (by simp)).trans (au w _),by have:=au (w.alloc (.cells #[.int .i64 0,.int .i64 0] 234)) (.cells #[.int .i64 0,.int .i64 0] 234);simpa using this,((Below.refl _ _).alloc (aa _) _).alloc (by simp) _⟩)
 have u:=hid (aAa C.hs);have q:=(P.out.bel.block sb u.out).trans C.hs;have s0:((w.alloc (.cells #[.int .i64 0,.int .i64 0] 234)).alloc (.cells #[.int .i64 0,.int .i64 0] 234)).cell? ⟨sb,2,none⟩=some (.slice A is.length ca):=by rw[ab q];rfl
 clear hG hi hj C I J q;go_enter Tryz.func210,Tryz.ntmps210;go_wp2;go_loopw[5,17] (fun n i wr=>∃(k x y:Nat) (mo:Int),k<=is.length/\i=.int .i64 k/\n=.int .i64 mo/\Hid (BestW w wr x y)/\Hid (BestIs (foldB base side (rowB is js k)) x y mo)) (fun _ i _=>is.length-(intOf i).toNat)
 case atStart=>exact ⟨0,0,0,49,al _,rfl,rfl,P,hid ⟨rfl,.inl ⟨rfl,rfl⟩⟩⟩
 obtain ⟨k,x,y,mo,hk,rfl,rfl,a,s⟩:=hrel;clear s0 P;by_cases W:k<is.length
 ·have c:=ac W
  generalize is[k]=i at c;obtain ⟨g,nk,rfl,_,b,e⟩:=HF.out k i c;have HX:=hid c;have E:=aC c
  have c0:wr.cell? ⟨g,k,none⟩=some (.int .i64 (i:Int)):=by
   rw[ab ((a.out.bel.block g (aAa b)).trans b)];exact e
  have c1:wr.cell? ⟨sb,3,none⟩=some (.slice B js.length cb):=by rw[ab ((a.out.bel.block sb u.out).trans O.out.hs)];rfl
  clear b e c;have F:=hid E;clear E;go_wp2;go_loopw[5,26] (fun n j wr=>∃(l x y:Nat) (mo:Int),l<=js.length/\j=.int .i64 l/\n=.int .i64 mo/\Hid (BestW w wr x y)/\Hid (BestIs (foldB base side (rowB is js k++(js.take l).map fun j=>(i,j))) x y mo)) (fun _ j _=>js.length-(intOf j).toNat)
  case atStart=>exact ⟨0,x,y,mo,al _,rfl,rfl,a,hid (by rw[bi,dK,aR];exact s.out)⟩
  clear c0 c1 a s;obtain ⟨l,x,y,mo,hl,rfl,rfl,a,s⟩:=hrel;by_cases L:l<js.length
  ·have c:=ac L
   generalize js[l]=j at c;obtain ⟨g2,ff,rfl,_,b,e⟩:=HS.out l j c;have v:=aC c;obtain ⟨mn,D,K,_⟩:=O.out.mp;have nj:=(K.below a.out.bel).get (x:=i) (y:=j) (by have:=HI.out i F.out;omega) (by have:=HJ.out j v;omega);have N:=hid (HG.out i F.out j v).symm;have X:=hid (show (js.take (l+1)).map (fun j=>(i,j))=(js.take l).map (fun j=>(i,j))++[(i,j)] by rw[aB,c];simp);generalize (G.1 i j).getD 0=r at *
   have d0:wr.cell? ⟨g2,l,none⟩=some (.int .i64 (j:Int)):=by
    rw[ab ((a.out.bel.block g2 (aAa b)).trans b)];exact e
   have d1:wr.cell? ⟨sb,4,none⟩=some (.map (some m)):=(by rw[ab ((a.out.bel.block sb u.out).trans O.out.hs)];rfl);clear b e c K v;by_cases M:mo<(r:Int)
   ·have d:=hid (s.out.more N.out M)
    have p:=hid a.out.b1;have Q:=hid (a.out.set (i:=i) (j:=j));have z:(prog.info? 234).map (·.size)=some 2:=κ;clear a;go_wp2_with (refine bJ rfl 234 (.tmp 4) (.tmp 43) rfl (w.heap.size+1) #[.int .i64 (i:Int),.int .i64 (j:Int)] rfl rfl _ _ p.out z rfl (by simp[Value.oneCell']) ?_);go_roundw
    case rel=>exact ⟨l+1,i,j,(r:Int),ω,by go_num,rfl,Q,hid (by rw[X.out,<-aH];exact d.out)⟩
    simp[intOf];omega
   have d:=hid (s.out.same N.out M);go_wp2;go_roundw
   case rel=>exact ⟨l+1,x,y,mo,ω,by go_num,rfl,a,hid (by rw[X.out,<-aH];exact d.out)⟩
   simp[intOf];omega
  have R:l=js.length:=ω;subst R
  have d:Hid (BestIs (foldB base side (rowB is js (k+1))) x y mo):=by
   rw[aTm HX.out];have:=s.out;rw[ai (aa _)] at this;exact this
  clear s;go_wp2;go_roundw
  case rel=>exact ⟨k+1,x,y,mo,ω,by go_num,rfl,a,d⟩
  simp[intOf];omega
 have S:k=is.length:=ω;subst S;have z:(prog.info? 234).map (·.size)=some 2:=κ;have H:=hid a.out.b0;have p:=hid a.out.b1;have e0:wr.cell? ⟨w.heap.size+1,0,none⟩=some (.int .i64 (x:Int)):=by rw[ab p.out];rfl
 have e1:wr.cell? ⟨w.heap.size+1,1,none⟩=some (.int .i64 (y:Int)):=by rw[ab p.out];rfl
 have N:=hid (bB wr w.heap.size _ #[.int .i64 (x:Int),.int .i64 (y:Int)] _ _ H.out);have T:=hid (aAj a.out.bel (aa _) (cs:=#[.int .i64 (x:Int),.int .i64 (y:Int)]))
 have Y:=hid (show bestF base side is js=if decide (50<=mo)=true then some (x,y) else none by
  rw[aSa];rcases s.out.2 with ⟨U,V⟩ | ⟨U,V⟩
  ·rw[U,V];rfl
  rw[U,ao (aq V)])
 cases hd:decide (50<=mo)
 all_goals
  rw[hd] at Y;go_wp2_with (refine bJ rfl 234 (.tmp 2) (.tmp 47) rfl w.heap.size #[.int .i64 (x:Int),.int .i64 (y:Int)] rfl rfl _ _ H.out z rfl (by simp[Value.oneCell']) ?_)
  try simp only[Exit.inBlock,Exit.then]
  refine bz (aAm rfl _ _ w.heap.size _ _ (0,0) _ rfl N.out lg rfl κ) rfl ?_;exact ⟨x,y,_,rfl,Y.out,T.out⟩
theorem T.eff_mapUpdate {P:Program}{m x y:Operand}{mv key val:Value}(c:a.eval m=mv)(d:a.eval x=key)(e:a.eval y=val)
  (b:(Instr.mapUpdate t mv key val).run P w=.ok () w') (f:S w'/\K (a.put dst undef) w'):effq P S ⟨q,dst,.mapUpdate t m x y,ty,g⟩ a w K:=by
 intro p h g;unfold Oper.wp execOp;simp only[c,d,e,b,bT,cE,bI];exact f
def fillG (base side:List FV)(L:List (Nat×Nat))(x y:Nat):Option Nat:=if (x,y)∈L then some (ratioF (textAt base x) (textAt side y)).toNat else none
theorem bDv(base side:List FV)(L:List (Nat×Nat))(i j:Nat)(x y:Nat):fillG base side (L++[(i,j)]) x y=if x=i/\y=j then some (ratioF (textAt base i) (textAt side j)).toNat else fillG base side L x y:=by
 unfold fillG;by_cases h:x=i/\y=j
 ·obtain ⟨rfl,rfl⟩:=h;simp
 rw[ah h]
 have:((x,y)∈L++[(i,j)])↔(x,y)∈L:=by
  simp only[aQ,aS,fY];exact ⟨fun b=>b.resolve_right h,.inl⟩
 by_cases a:(x,y)∈L
 ·rw[ao a,ao (this.2 a)]
 rw[ah a,ah (fun q=>a (this.1 q))]
theorem aOb(a b:ByteArray):0<=ratioF a b:=by
 unfold ratioF;dsimp only;split
 ·exact mN _
 split
 ·omega
 exact Int.natCast_nonneg _
theorem aYj {is' js':List Nat}(c:∀i∈is',i∈is)(d:∀j∈js',j∈js):AlikeG base side is' js' (fillG base side (rowB is js is.length)):=by
 intro i a j b;unfold fillG;rw[ao]
 ·rw[d8,eH (aOb _ _)]
 unfold rowB;rw[ai (aa _)];exact dF.2 ⟨i,c i a,ce.2 ⟨j,d j b,rfl⟩⟩
theorem SP.put {t o:Value}{L:List (Nat×Nat)}{N:Nat}(h:SP w0 w sb m bs ss f t o is js ps (fillG base side L,N) Z)(G:N<maxLen)(I:w0.heap.size<=m)(H:∀b,¬Z m b)(A:i<=1000000000)(B:j<=1000000000) :
  ∃w',(Instr.mapUpdate 228 (.map (some m)) (.agg #[.int .i64 (i:Int),.int .i64 (j:Int)]) (.int .i64 (ratioF (textAt base i) (textAt side j)))).run prog w=.ok () w'/\SP w0 w' sb m bs ss f t o is js ps (fillG base side (L++[(i,j)]),N+1) Z/\w.grownBy w' (some m):=by
 obtain ⟨n,D,d,C⟩:=h.mp;have c:n<=N:=C;have p:n<maxLen:=ip c G;have q:Rv (.int .i64 (((ratioF (textAt base i) (textAt side j)).toNat:Nat):Int))=some (.held (.int .i64 (((ratioF (textAt base i) (textAt side j)).toNat:Nat):Int)),[]):=rfl;have r:=keyQ2 A B;obtain ⟨w',y,E,a⟩:=d.own.update KQ2 lk p r q;rw[eH (aOb _ _)] at y
 have s:∀{v:Value} {e:TypeId} {k u:Nat} {xs:List Value},w.ownsRow w0.heap.size e k v u xs->w'.ownsRow w0.heap.size e k v u xs:=fun {v} {e} {k} {u} {xs} z=>by
  refine z.kept a ?_
  cases e:v.ownBlock with
  | none=>exact .inl rfl
  | some g=>
   obtain ⟨cs,F⟩:=aQv z e;exact .inr (fun x=>h.mne F (by injection x with x;exact x.symm))
 refine ⟨w',y,⟨(a.block sb (aAa h.hs) (fun e=>by injection e with e;exact h.mne h.hs e.symm)).trans h.hs,s h.f1,s h.t1,s h.o1,h.nf,h.nt,h.no,h.nft,h.nfo,h.nto,⟨_,_,d.put A B E (bDv base side L i j),eQ c⟩,h.lo,h.bel.grown a h.bel.size (fun g a=>by injection a with a;omega),fun k b l=>⟨(a.block k (aAa (h.oth k b l).1) (fun e=>by injection e with e;subst e;exact H b l)).trans (h.oth k b l).1,(h.oth k b l).2⟩⟩,a⟩
theorem SP.atMost {t o:Value}{F:Nat->Nat->Option Nat}{N b:Nat}(h:SP w0 w sb m bs ss f t o is js ps (F,N) Z)(d:N<=b):SP w0 w sb m bs ss f t o is js ps (F,b) Z:=by
 obtain ⟨n,D,a,c⟩:=h.mp;exact ⟨h.hs,h.f1,h.t1,h.o1,h.nf,h.nt,h.no,h.nft,h.nfo,h.nto,⟨n,D,a,aw c d⟩,h.lo,h.bel,h.oth⟩
theorem aPt {n:Nat}{p:Nat×Nat}(g:is.length<=n)(h:bestF base side is js=some p) :
  ∃c,alikeF base side n is js=p::alikeF base side c (is.filter fun k=>decide (k≠p.1)) (js.filter fun k=>decide (k≠p.2))/\(is.filter fun k=>decide (k≠p.1)).length<=c/\(is.filter fun k=>decide (k≠p.1)).length<is.length:=by
 have d:=(aMk h).1
 have a:(is.filter fun k=>decide (k≠p.1)).length<is.length:=by
  rcases bo (is.filter fun k=>decide (k≠p.1)).length is.length with b | b
  ·exact b
  have e:=bD (fun k=>decide (k≠p.1)) is;have f:=List.length_filter_eq_length_iff.1 (mZ e b) p.1 d;simp at f
 cases n with
 | zero=>omega
 | succ n=>exact ⟨n,by rw[alikeF,h],O,a⟩
theorem aPp {n:Nat}(h:bestF base side is js=none):alikeF base side n is js=[]:=by
 cases n with
 | zero=>rfl
 | succ n=>rw[alikeF,h]
def AlikeRes (base side:List FV)(w0:World)(sb m:Nat)(bs ss:Value)(is js:List Nat)(ps:List (Nat×Nat))(Z:Nat->Obj->Prop)(e:Ending) (w':World):Prop:=
 e=.returned (.tuple #[])/\∃is' js' G',Sr w0 w' sb m bs ss is' js' (ps++alikeF base side is.length is js) G' Z
def LeftR (base side:List FV)(w0 wr:World)(sb m:Nat)(bs ss:Value)(is js:List Nat)(ps:List (Nat×Nat))(Z:Nat->Obj->Prop):Prop:=
 ∃is' js' ps' n N,Sr w0 wr sb m bs ss is' js' ps' (fillG base side (rowB is js is.length),N) Z/\is'.length<=n/\ps'++alikeF base side n is' js'=ps++alikeF base side is.length is js/\(∀i∈is',i∈is)/\(∀j∈js',j∈js)/\is'.length<=is.length/\js'.length<=js.length/\ps'.length+is'.length<=ps.length+is.length
def leftN (sb:Nat)(w:World):Nat:=match w.cell? ⟨sb,2,none⟩ with | some (.slice _ n _)=>n | _=>0
theorem bIr(h:Sr w0 w sb m bs ss is js ps G Z):leftN sb w=is.length:=by
 obtain ⟨f,t,o,h⟩:=h;obtain ⟨A,c,rfl,_⟩:=aAd h.f1;unfold leftN;rw[show w.cell? ⟨sb,2,none⟩=some (.slice A is.length c) by rw[ab h.hs];rfl]
theorem bFs(h:Sr w0 w sb m bs ss is js ps (fillG base side [],0) Z)(T2:Two w0 bs ss base side)(hL:Lm w0)
  (hm:w0.heap.size<=m) (hZ:∀ob,¬Z m ob) (nU:∀f∈base,f.text.size<=1000000) (nV:∀f∈side,f.text.size<=1000000)
  (_hl1:is.length<=100000) (oQ:js.length<=100000) (oR:ps.length+is.length<=100000) (hi:∀i∈is,i<base.length) (hj:∀j∈js,j<side.length) :
  Calls prog 171 #[.pointer (some ⟨sb,0,none⟩)] w (AlikeRes base side w0 sb m bs ss is js ps Z):=by
 have HH:=hid h;have HI:=hid hi;have HJ:=hid hj;have nX:=hid nU;have nY:=hid nV;have nZ:=hid T2;have nC:=hid hL;have HZ:=hid hZ;have HM:=hid hm;have n5:Hid (base.length<=100000):=by obtain ⟨_,_,_,_,_,_,_,_,h1,h2,h3,h4⟩:=T2.ex;exact hid (by rw[h1.len];exact h3)
 have n7:Hid (side.length<=100000):=by obtain ⟨_,_,_,_,_,_,_,_,h1,h2,h3,h4⟩:=T2.ex;exact hid (by rw[h2.len];exact h4)
 obtain ⟨f1,t1,o1,hp⟩:=id h;obtain ⟨A,ca,rfl,_⟩:=aGi hp.f1;obtain ⟨B,cb,rfl,_⟩:=aGi hp.t1;have s0:w.cell? ⟨sb,2,none⟩=some (.slice A is.length ca):=by rw[ab hp.hs];rfl
 have nD:=hid hp;clear h hi hj nU nV T2 hL hp hZ hm HH;go_enter Tryz.func171,Tryz.ntmps171;go_wp2;go_loopw[13] (fun i wr=>∃k:Nat,k<=is.length/\i=.int .i64 k/\Hid (SP w0 wr sb m bs ss (.slice A is.length ca) (.slice B js.length cb) o1 is js ps (fillG base side (rowB is js k),k*100000) Z)) (fun i _=>is.length-(intOf i).toNat)
 case atStart=>exact ⟨0,al _,rfl,hid (by rw[ed];exact nD.out)⟩
 obtain ⟨k,hk,rfl,r⟩:=hrel;clear s0 nD;by_cases oH:k<is.length
 ·have v:=ac oH
  generalize is[k]=i at v;obtain ⟨A',oJ,eA,nL⟩:=aGi r.out.f1;injection eA with eA1 _ eA2;subst eA1;obtain ⟨g,oK,rfl,_,C,D⟩:=nL k i v;have HX:=hid v;have n8:=hid (aC v);have c0:wr.cell? ⟨g,k,none⟩=some (.int .i64 (i:Int)):=by rw[ab C];exact D
  have c1:wr.cell? ⟨sb,3,none⟩=some (.slice B js.length cb):=by rw[ab r.out.hs];rfl
  clear C D v nL eA2;go_wp2;go_loopw[22] (fun j wr=>∃l:Nat,l<=js.length/\j=.int .i64 l/\Hid (SP w0 wr sb m bs ss (.slice (some ⟨g,0,none⟩) is.length ca) (.slice B js.length cb) o1 is js ps (fillG base side (rowB is js k++(js.take l).map fun j=>(i,j)),k*100000+l) Z)) (fun j _=>js.length-(intOf j).toNat)
  case atStart=>exact ⟨0,al _,rfl,hid (by rw[bi,dK,aR,dv];exact r.out)⟩
  clear c0 c1 r;obtain ⟨l,hl,rfl,r⟩:=hrel;by_cases nW:l<js.length
  ·have v:=ac nW
   generalize js[l]=j at v;obtain ⟨B',oL,eB,nM⟩:=aGi r.out.t1;injection eB with eB1 _ eB2;subst eB1;obtain ⟨g2,oI,rfl,_,C,D⟩:=nM l j v;have nE:=aC v;have HT:=hid (show (js.take (l+1)).map (fun j=>(i,j))=(js.take l).map (fun j=>(i,j))++[(i,j)] by rw[aB,v];simp);have d0:wr.cell? ⟨g2,l,none⟩=some (.int .i64 (j:Int)):=(by rw[ab C];exact D);obtain ⟨E1,n1,oC,E2,n2,oD,rfl,rfl,nz,nA,oM,oN⟩:=nZ.out.ex;have L:=HI.out i n8.out;have P:=HJ.out j nE;rw[nz.len] at L;rw[nA.len] at P;obtain ⟨b0,o0,x,rfl,nB,nN,nO,_,_,p2⟩:=nz.get L;obtain ⟨b1,o2,y,rfl,E,nP,nQ,_,_,q2⟩:=nA.get P;have od:=hid (r.out.below (Below.refl wr.heap.size wr).drew);have oe:=hid r.out.bel;have p0:=hid p2;have q0:=hid q2;have p2:=(r.out.bel.cell (p:=⟨b0,o0+i*3+2,none⟩) nB).trans p2;have q2:=(r.out.bel.cell (p:=⟨b1,o2+j*3+2,none⟩) E).trans q2;have oh:=hid (aJk nN);have ol:=hid (aJk nP);have KR:=bEl (a:=x.text) (b:=y.text) (w:=wr.drew) (nC.out.below r.out.bel.drew nC.out.lt) (nX.out x nO) (nY.out y nQ);have H:=hid (And.intro (ag nB (aa w0.heap.size)) E);have s:=r.out.hs;have L:i<=1000000000:=ω;have P:j<=1000000000:=ω;clear C D v nM eB2 nE nz nA nN nP nO nQ nB E;go_wp2;refine aAv (fun w'=>Below w0.heap.size w0 w'/\w'.heap[sb]? = wr.heap[sb]?) (.q 0 (.q 1 (.q 2 (.q 3 (.q 4 (.q 5 (.b 6 (.q 7 (.q 8 (.q 9 (.q 10 (.q 11 (.q 12 (.q 13 (.q 14 (.q 15 (.q 16 (.q 17 (.q 18 (.q 19 (.q 20 (.q 21 (.q 22 (.one 23 (.one 24 .leaf))))))))))))))))))))))))) mixed κ ⟨oe.out.drew,rfl⟩ ?_;intro Tp M Q hT oE hM hQ;have m0:M ⟨sb,0,none⟩=some (.slice (some ⟨b0,o0,none⟩) n1 oC):=hM _ _ fun w' K=>by rw[ab (K.2.trans s)];rfl
   have m1:M ⟨sb,1,none⟩=some (.slice (some ⟨b1,o2,none⟩) n2 oD):=hM _ _ fun w' K=>(by rw[ab (K.2.trans s)];rfl);have m2:M ⟨sb,4,none⟩=some (.map (some m)):=hM _ _ fun w' K=>(by rw[ab (K.2.trans s)];rfl);have m3:M ⟨b0,o0+i*3+2,none⟩=some (.string x.text):=hM _ _ fun w' K=>(K.1.cell (p:=⟨b0,o0+i*3+2,none⟩) H.out.1).trans p0.out;have m4:M ⟨b1,o2+j*3+2,none⟩=some (.string y.text):=hM _ _ fun w' K=>(K.1.cell (p:=⟨b1,o2+j*3+2,none⟩) H.out.2).trans q0.out;clear hM;refine aCu ?_;intro O c;have t0:=c true 0;have t1:=c true 1;have t2:=c true 2;have t3:=c true 3;have t4:=c true 4;have t5:=c true 5;have t6:=c true 6;have t7:=c true 7;have t8:=c true 8;have t9:=c true 9;have R:=c true 10;have S:=c true 11;have U:=c true 12;have V:=c true 13;have W:=c true 14;have X:=c true 15;have Y:=c true 16;have ff:=c true 17;have nj:=c true 18;have nk:=c true 19;have nm:=c true 20;have nq:=c true 21;have nr:=c true 22;have ns:=c false 23;have nu:=c false 24;simp only[qcmp] at t0 t1 t2 t3 t4 t5 t6 t7 t8 t9 R S U V W X Y ff nj nk nm nq nr ns nu;clear c;simp (maxSteps:=9^7) only[↓wt_q,↓wt_b,t0,t1,t2,t3,t4,t5,t6,↓qpre,aAb,aAg,aAc,m2];refine aCc rfl (fun w=>aNi _ _ w) ?_;simp (maxSteps:=9^7) only[↓wt_q,↓aAn,t7,t8,t9,R,S,U,V,W,X,Y,ff,nj,nk,nm,nq,nr,ns,↓qpre,aAb,aAg,aAc,m0,m1,m3,m4];(repeat refine And.intro (by first|omega|(unfold inI64;omega)) ?_);refine aAh κ KR rfl rfl ?_;rintro e u ⟨rfl,F⟩;have d:=hid (od.out.below F);have nF:u.heap[sb]? = wr.heap[sb]?:=F.block sb (aAa s);refine ⟨_,rfl,hT _ ⟨d.out.bel,nF⟩,?_⟩
   simp (maxSteps:=9^7) only[↓aAn,nu,aAb,aAc];obtain ⟨w3,G,o,oF⟩:=d.out.put (i:=i) (j:=j) (by unfold maxLen;omega) HM.out HZ.out ω ω;rw[oh.out,ol.out] at G;have nG:w3.heap[sb]? = wr.heap[sb]?:=o.hs.trans s.symm;refine T.eff_mapUpdate rfl rfl rfl G ⟨hT _ ⟨o.bel,nG⟩,?_⟩;simp (maxSteps:=9^7) only[aAb];refine hQ _ _ ?_;have oq:=hid o;clear hQ hT oE m0 m1 m2 m3 m4 G o oF nG nF d KR s p2 q2 d0 p0 q0 t7 t8 t9 R S U V W X Y ff nj nk nm nq nr ns nu;go_wp2;go_roundw
   case rel=>exact ⟨l+1,ω,by go_num,hid (by rw[HT.out,<-aH,<-dI];exact oq.out)⟩
   simp[intOf];omega
  have ou:l=js.length:=ω;subst ou
  have d:Hid (SP w0 wr sb m bs ss (.slice (some ⟨g,0,none⟩) is.length ca) (.slice B js.length cb) o1 is js ps (fillG base side (rowB is js (k+1)),(k+1)*100000) Z):=by
   rw[aTm HX.out];have:=r.out;rw[ai (aa _)] at this;exact this.atMost ω
  clear r;go_wp2;go_roundw
  case rel=>exact ⟨k+1,ω,by go_num,d⟩
  simp[intOf];omega
 have ow:k=is.length:=ω;subst ow;have nH:Hid (LeftR base side w0 wr sb m bs ss is js ps Z):=hid ⟨is,js,ps,is.length,_,⟨_,_,_,r.out⟩,aa _,rfl,fun _ h=>h,fun _ h=>h,aa _,aa _,aa _⟩;clear r;go_wp2;go_loopw[] (fun wr=>Hid (LeftR base side w0 wr sb m bs ss is js ps Z)) (fun wr=>leftN sb wr)
 case atStart=>exact nH
 clear nH;obtain ⟨is',js',ps',n,N,hs,hn,nR,I,J,oO,oG,oP⟩:=hrel.out;have KB:=bKh hs (aYj I J) ω ω (fun i hi=>by have:=HI.out i (I i hi);have:=n5.out;omega) (fun j hj=>by have:=HJ.out j (J j hj);have:=n7.out;omega);have HS:=hid hs;have nI:=hid nR;have oz:=hid I;have oA:=hid J;clear hs nR I J hrel;go_wp2_with fail;refine KB.mono ?_;rintro e u ⟨x,y,b,rfl,t,F⟩;have nJ:=hid t;have d:=hid (HS.out.below F);clear KB t F
 cases b
 ·have HF:Hid (AlikeRes base side w0 sb m bs ss is js ps Z (.returned (.tuple #[])) (u.alloc (.cells #[.int .i64 (x:Int),.int .i64 (y:Int)] 234))):=hid ⟨rfl,is',js',_,by
   have:=nI.out;rw[aPp nJ.out,aR] at this;rw[<-this];exact d.out.below ((Below.refl u.heap.size u).alloc (aa _) _)⟩
  go_wp2;refine aI (aF rfl _ _ _) rfl ?_;exact HF.out
 have t:bestF base side is' js'=some (x,y):=nJ.out;obtain ⟨n2,ha,nS,nT⟩:=aPt hn t;have nw:=aMk t;have nK:=(Below.refl u.heap.size u).alloc (aa _) (.cells #[.int .i64 (x:Int),.int .i64 (y:Int)] 234);have KT:=bAj (d.out.below nK) nw.1 nw.2 ω ω ω;have z:=au u (.cells #[.int .i64 (x:Int),.int .i64 (y:Int)] 234);have c0:(u.alloc (.cells #[.int .i64 (x:Int),.int .i64 (y:Int)] 234)).cell? ⟨u.heap.size,0,none⟩=some (.int .i64 (x:Int)):=by rw[ab z];rfl
 have c1:(u.alloc (.cells #[.int .i64 (x:Int),.int .i64 (y:Int)] 234)).cell? ⟨u.heap.size,1,none⟩=some (.int .i64 (y:Int)):=by rw[ab z];rfl
 have HA:=hid ha;clear z nK nw t ha;go_wp2_with fail;refine KT.mono ?_;rintro e w3 ⟨rfl,o⟩;have oB:Hid (LeftR base side w0 w3 sb m bs ss is js ps Z):=hid ⟨_,_,_,n2,N,o,nS,by rw[<-nI.out,HA.out,aH];rfl,fun i hi=>oz.out i (aX.1 hi).1,fun j hj=>oA.out j (aX.1 hj).1,ω,aw (bD _ _) oG,by rw[ae,bf];omega⟩;have H:Hid (leftN sb w3<leftN sb wr):=hid (by rw[bIr o,bIr HS.out];exact nT);clear KT c0 c1 o;go_wp2;go_roundw
 case rel=>exact oB
 exact H.out
def cmpS (a b:ByteArray):Int:=if Op.bytesLess a.toList b.toList=true then -1 else if (a.toList == b.toList)=true then 0 else 1
theorem aVm {a:ByteArray}{w:World}:Calls prog 161 #[.string a] w fun e w'=>e=.returned (.bool false)/\w'=w:=by
 go_enter Tryz.func161,Tryz.ntmps161;go_wp2;go_ret;exact ⟨by simp,rfl⟩
theorem aGa {a b:ByteArray}:Calls prog 135 #[.string a,.string b] w fun e w'=>e=.returned (.int .i64 (cmpS a b))/\w'=w:=by
 have f:=@aVm a w;have g:=@aVm b w;go_enter Tryz.func135,Tryz.ntmps135;go_wp2_with fail;refine f.mono ?_;rintro e i ⟨rfl,rfl⟩;go_wp2_with fail;refine g.mono ?_;rintro e i ⟨rfl,rfl⟩;clear f g
 cases d:Op.bytesLess a.toList b.toList
 ·cases h:a.toList == b.toList
  ·have c:=hid (show cmpS a b=1 by unfold cmpS;rw[d,h];rfl)
   go_wp2;go_ret;exact ⟨by rw[c.out];rfl,rfl⟩
  have c:=hid (show cmpS a b=0 by unfold cmpS;rw[d,h];rfl);go_wp2;go_ret;exact ⟨by rw[c.out];rfl,rfl⟩
 have c:=hid (show cmpS a b=-1 by unfold cmpS;rw[d];rfl);go_wp2;go_ret;exact ⟨by rw[c.out];rfl,rfl⟩
def orI (x y:Int):Int:=if x=0 then y else x
theorem bNv {x y:Int}{g:Nat}(h:w.heap[g]? = some (.cells #[.int .i64 x,.int .i64 y] 3 (0,0))) :
  Calls prog 174 #[.slice (some ⟨g,0,none⟩) 2 2] w fun e w'=>e=.returned (.int .i64 (orI x y))/\w'=w:=by
 have j:w.cell? ⟨g,0,none⟩=some (.int .i64 x):=by rw[ab h];rfl
 have l:w.cell? ⟨g,1,none⟩=some (.int .i64 y):=by rw[ab h];rfl
 clear h;go_enter Tryz.func174,Tryz.ntmps174;go_wp2;go_loopw[8] (fun i wr=>∃k:Nat,k<=2/\i=.int .i64 k/\Hid (wr=w)/\Hid (k=1->x=0)/\Hid (k=2->x=0/\y=0)) (fun i _=>2-(intOf i).toNat)
 case atStart=>exact ⟨0,O,rfl,hid rfl,hid (fun h=>by omega),hid (fun h=>by omega)⟩
 obtain ⟨k,q,rfl,c,n,m⟩:=hrel;have o:wr.cell? ⟨g,0,none⟩=some (.int .i64 x):=by rw[c.out];exact j
 have p:wr.cell? ⟨g,1,none⟩=some (.int .i64 y):=by rw[c.out];exact l
 clear j l;rcases (show k=0\/k=1\/k=2 by omega) with rfl | rfl | rfl
 ·by_cases a:x=0
  ·have f:(x == 0)=true:=by rw[a];rfl
   have b:=hid a;clear a;go_wp2;go_roundw
   case rel=>exact ⟨1,O,by go_num,c,hid (fun _=>b.out),hid (fun h=>by omega)⟩
   simp[intOf]
  have f:(x == 0)=false:=a7.2 a;have b:=hid (show orI x y=x from ah a);clear a;go_wp2;go_ret;exact ⟨by rw[b.out];rfl,c.out⟩
 ·have a:=n.out rfl
  by_cases d:y=0
  ·have f:(y == 0)=true:=by rw[d];rfl
   have b:=hid (And.intro a d);clear a d;go_wp2;go_roundw
   case rel=>exact ⟨2,O,by go_num,c,hid (fun h=>by omega),hid (fun _=>b.out)⟩
   simp[intOf]
  have f:(y == 0)=false:=a7.2 d;have b:=hid (show orI x y=y from ao a);clear a d;go_wp2;go_ret;exact ⟨by rw[b.out];rfl,c.out⟩
 have b:=hid (show orI x y=0 by unfold orI;rw[ao (m.out rfl).1];exact (m.out rfl).2);go_wp2;go_ret;exact ⟨by rw[b.out];rfl,c.out⟩
def cmpP (base:List FV)(x y:Nat×Nat):Int:=orI (cmpS (((base[x.1]?).map FV.path).getD ⟨#[]⟩) (((base[y.1]?).map FV.path).getD ⟨#[]⟩)) (Lib.compareInt (x.1:Int) (y.1:Int))
def GrowsI (v:Int)(u:World)(e:Ending) (w':World):Prop:=e=.returned (.int .i64 v)/\∃q os',w'=Sort.grow (u.drewN q) os'
theorem bDe {P:Program}{parts:Array (Nat×Operand)}{c:Array (Nat×Value)}
  (d:(parts.toList.map fun p=>(p.1,a.eval p.2)).toArray=c) (e:(Instr.buildSlice t k c).run P w=.ok v w') (f:S w'/\K (a.put dst v) w'):effq P S ⟨q,dst,.buildSlice t k parts,ty,g⟩ a w K:=by
 intro p h g;have b:(parts.map fun p=>(p.1,a.eval p.2))=c:=by rw[<-d];apply dX.1;simp
 unfold Oper.wp execOp;simp only[b,e,bT,cE,bI];exact f
theorem grow3(u:World)(a b c:Obj):(((u.alloc a).alloc b).drew).alloc c=Sort.grow (u.drewN 1) #[a,b,c]:=by
 have:((u.heap.push a).push b).push c=u.heap++#[a,b,c]:=by
  apply dX.1;simp
 unfold World.alloc World.drew World.drewN Sort.grow;simp only[this]
theorem bDg {P:Program}{e:TypeId}{bytes:Nat}(E:Elem P t e 1 bytes)(a b:Value)(ha:a.cells=#[a])(m:b.cells=#[b])(w:World) :
  (Instr.buildSlice t 2 #[(0,a),(1,b)]).run P w=.ok (.slice (some ⟨w.heap.size,0,none⟩) 2 2) (w.alloc (.cells #[a,b] e)):=by
 obtain ⟨i,z,j,k,d,l,f⟩:=E.row
 obtain ⟨c,g⟩:∃c,z.cells=#[c]:=by
  have:=f
  match h:z.cells,this with
  | ⟨[c]⟩,_=>exact ⟨c,rfl⟩
 simp[Instr.buildSlice,bK E.und,sizeOf,typeInfo,j,d,zeroValue,k,Instr.fill,ha,m,g,newRow,show Array.range 2=#[0,1] from rfl]
theorem bGq {u:World}{m n c:Nat}{p q d q1:Nat}(C:RdF w0 w0.heap.size A n c base)(D:Below w0.heap.size w0 u)(h0:u.cell? ⟨m,0,none⟩=some (.slice A n c))(B:m<u.heap.size)(hp:p<base.length)(hq:q<base.length) :
  Calls prog 173 #[.agg #[.int .i64 (p:Int),.int .i64 (d:Int)],.agg #[.int .i64 (q:Int),.int .i64 (q1:Int)],.pointer (some ⟨m,0,none⟩)] u (GrowsI (cmpP base (p,d) (q,q1)) u):=by
 rw[C.len] at hp hq;obtain ⟨f,g,x,rfl,h,Y,_,r,_,_⟩:=C.get hp;obtain ⟨b1,o1,y,e,w,Z,_,s,_,_⟩:=C.get hq;injection e with e;injection e with e1 e2;subst e1 e2;replace r:=(D.cell (p:=⟨f,g+p*3,none⟩) h).trans r;replace s:=(D.cell (p:=⟨f,g+q*3,none⟩) h).trans s;have E:=hid (show cmpP base (p,d) (q,q1)=orI (cmpS x.path y.path) (Lib.compareInt p q) by unfold cmpP;rw[Y,Z];rfl);have j:=ag h D.size;clear Y Z C D h w;obtain ⟨x,xe,xt⟩:=x;obtain ⟨y,ye,yt⟩:=y;dsimp only at r s E;rw[E.out];clear E;obtain ⟨R,I⟩:∃R,R=orI (cmpS x y) (Lib.compareInt p q):=⟨_,rfl⟩;rw[<-I];have F:=hid I;clear I;go_enter Tryz.func173,Tryz.ntmps173;go_wp2;have k:Below u.heap.size u ((u.alloc (.cells #[.int .i64 (p:Int),.int .i64 (d:Int)] 234)).alloc (.cells #[.int .i64 (q:Int),.int .i64 (q1:Int)] 234)):=((Below.refl _ _).alloc (aa _) _).alloc (by simp) _;have L:=(k.cell (p:=⟨f,g+p*3,none⟩) j).trans r;have N:=(k.cell (p:=⟨f,g+q*3,none⟩) j).trans s;have O:=(k.cell (p:=⟨m,0,none⟩) B).trans h0
 have G:((u.alloc (.cells #[.int .i64 (p:Int),.int .i64 (d:Int)] 234)).alloc (.cells #[.int .i64 (q:Int),.int .i64 (q1:Int)] 234)).heap[u.heap.size]? = some (.cells #[.int .i64 (p:Int),.int .i64 (d:Int)] 234 (0,0)):=by
  have h1:=au u (.cells #[.int .i64 (p:Int),.int .i64 (d:Int)] 234);exact (((Below.refl _ _).alloc (aa _) _).block _ (by simp)).trans h1
 have x1:((u.alloc (.cells #[.int .i64 (p:Int),.int .i64 (d:Int)] 234)).alloc (.cells #[.int .i64 (q:Int),.int .i64 (q1:Int)] 234)).heap[u.heap.size+1]? = some (.cells #[.int .i64 (q:Int),.int .i64 (q1:Int)] 234 (0,0)):=by
  have:=au (u.alloc (.cells #[.int .i64 (p:Int),.int .i64 (d:Int)] 234)) (.cells #[.int .i64 (q:Int),.int .i64 (q1:Int)] 234);simpa using this
 have t:=ag j k.size;have H:=ag B k.size;have v:=hid (show ∀o:Obj,((((u.alloc (.cells #[.int .i64 (p:Int),.int .i64 (d:Int)] 234)).alloc (.cells #[.int .i64 (q:Int),.int .i64 (q1:Int)] 234)).drew).alloc o)=Sort.grow (u.drewN 1) #[.cells #[.int .i64 (p:Int),.int .i64 (d:Int)] 234,.cells #[.int .i64 (q:Int),.int .i64 (q1:Int)] 234,o] from fun o=>grow3 _ _ _ _);generalize K:(u.alloc (.cells #[.int .i64 (p:Int),.int .i64 (d:Int)] 234)).alloc (.cells #[.int .i64 (q:Int),.int .i64 (q1:Int)] 234)=W at *;clear K r s h0 k;refine aAe (fun w'=>Below W.heap.size W w') [(true,0),(true,1),(true,2),(true,3),(true,4),(true,5),(true,6),(true,7),(true,8),(true,9),(true,10),(true,11),(true,13),(true,14),(true,15),(true,16),(false,12),(false,17),(false,18),(false,19),(true,20)] mixed κ (Below.refl _ _).drew ?_;intro Tp M Q z J l hQ;have P:M ⟨f,g+p*3,none⟩=some (.string x):=l _ _ fun w' i=>(i.cell (p:=⟨f,g+p*3,none⟩) t).trans L;have S:M ⟨f,g+q*3,none⟩=some (.string y):=l _ _ fun w' i=>(i.cell (p:=⟨f,g+q*3,none⟩) t).trans N;have T:M ⟨m,0,none⟩=some (.slice (some ⟨f,g,none⟩) n c):=l _ _ fun w' i=>(i.cell (p:=⟨m,0,none⟩) H).trans O;have U:M ⟨u.heap.size,0,none⟩=some (.int .i64 (p:Int)):=l _ _ fun w' i=>by rw[ab ((i.block _ (aAa G)).trans G)];rfl
 have V:M ⟨u.heap.size+1,0,none⟩=some (.int .i64 (q:Int)):=l _ _ fun w' i=>by rw[ab ((i.block _ (aAa x1)).trans x1)];rfl
 clear l;simp only[qcmp];simp (maxSteps:=9^7) only[↓qpre,aAb,aAg,aAc,P,S,T,U,V];(repeat refine And.intro (by first|omega|(unfold inI64;omega)) ?_);clear P S T U V L N O G x1;refine aAh κ (aGa (a:=x) (b:=y)) rfl rfl ?_;rintro e w1 ⟨rfl,rfl⟩;refine ⟨_,rfl,z _ (Below.refl _ _).drew,?_⟩;simp (maxSteps:=9^7) only[aAb,aAc];refine aAh κ (Tryz.cmp_Compare_int (p:Int) (q:Int) W.drew) rfl rfl ?_;rintro e w1 ⟨rfl,rfl⟩;refine ⟨_,rfl,z _ (Below.refl _ _).drew,?_⟩;simp (maxSteps:=9^7) only[aAb,aAc];refine bDe rfl (bDg aZo _ _ rfl rfl _) ⟨z _ ((Below.refl _ _).drew.alloc (aa _) _),?_⟩;simp (maxSteps:=9^7) only[aAb,aAc];refine aAh κ (bNv (au W.drew _)) rfl rfl ?_;rintro e w1 ⟨rfl,rfl⟩;refine ⟨_,rfl,z _ ((Below.refl _ _).drew.alloc (aa _) _),?_⟩;simp (maxSteps:=9^7) only[↓qpre,aAb,aAc];refine hQ _ _ ?_;rw[v.out];have X:Hid (GrowsI R u (.returned (.int .i64 (orI (cmpS x y) (Lib.compareInt p q)))) (Sort.grow (u.drewN 1) #[.cells #[.int .i64 (p:Int),.int .i64 (d:Int)] 234,.cells #[.int .i64 (q:Int),.int .i64 (q1:Int)] 234,.cells #[.int .i64 (cmpS x y),.int .i64 (Lib.compareInt p q)] 3])):=hid ⟨by rw[F.out],1,_,rfl⟩;rw[<-F.out] at X ⊢;clear hQ z J v F;go_wp2;go_ret;exact X.out
open Go.Shelf
def Tryz.sortP_ren:Go.Shelf.Ren:=⟨fun | 6=>172 | 15=>160 | 14=>211 | 28=>197 | 29=>198 | 20=>250 | 21=>251 | 22=>252 | 23=>253 | 24=>254 | 25=>255 | 26=>256 | 27=>257 | 46=>281 | 47=>228 | 48=>229 | 49=>282 | 50=>283 | 57=>295 | n=>n,fun | 22=>229 | 24=>234 | 25=>237 | 3=>3 | 39=>28 | 0=>0 | 53=>257 | 55=>166 | 4=>4 | 46=>251 | 45=>250 | 50=>123 | 5=>5 | 9=>9 | 66=>289 | 70=>293 | 76=>315 | 77=>316 | n=>n,fun | n=>n⟩
theorem Tryz.sortP:Go.Proofs.SlLaysF0.n6 prog Tryz.sortP_ren:={
 mixed:=T
 f6:=⟨Tryz.f172.name,by decide,Tryz.func172.trans (congrArg some T)⟩
 f14:=⟨Tryz.f211.name,by decide,Tryz.func211.trans (congrArg some T)⟩
 f15:=Tryz.func160.trans (congrArg some T)
 f20:=⟨Tryz.f250.name,by decide,Tryz.func250.trans (congrArg some T)⟩
 f21:=⟨Tryz.f251.name,by decide,Tryz.func251.trans (congrArg some T)⟩
 f22:=⟨Tryz.f252.name,by decide,Tryz.func252.trans (congrArg some T)⟩
 f23:=⟨Tryz.f253.name,by decide,Tryz.func253.trans (congrArg some T)⟩
 f24:=⟨Tryz.f254.name,by decide,Tryz.func254.trans (congrArg some T)⟩
 f25:=⟨Tryz.f255.name,by decide,Tryz.func255.trans (congrArg some T)⟩
 f26:=⟨Tryz.f256.name,by decide,Tryz.func256.trans (congrArg some T)⟩
 f27:=⟨Tryz.f257.name,by decide,Tryz.func257.trans (congrArg some T)⟩
 f28:=Tryz.func197.trans (congrArg some T)
 f29:=Tryz.func198.trans (congrArg some T)
 f46:=⟨Tryz.f281.name,by decide,Tryz.func281.trans (congrArg some T)⟩
 f47:=Tryz.func228.trans (congrArg some T)
 f48:=Tryz.func229.trans (congrArg some T)
 f49:=⟨Tryz.f282.name,by decide,Tryz.func282.trans (congrArg some T)⟩
 f50:=⟨Tryz.f283.name,by decide,Tryz.func283.trans (congrArg some T)⟩
 f57:=⟨Tryz.f295.name,by decide,Tryz.func295.trans (congrArg some T)⟩
 t0:=dY
 a0:=gJ
 z0:=fI
 v0:=ez
 t3:=bw
 a3:=ee
 z3:=dN
 v3:=bS
 t4:=cg
 a4:=ef
 z4:=dP
 v4:=ci
 t5:=dE
 a5:=gK
 z5:=fJ
 v5:=eC
 t9:=bG
 a9:=eL
 z9:=d9
 v9:=cO
 t22:=Tryz.underlying229
 a22:=Tryz.isAgg229
 z22:=Tryz.sizeOf229
 v22:=Tryz.zeroValue229
 t25:=Tryz.underlying237
 a25:=Tryz.isAgg237
 z25:=Tryz.sizeOf237
 v25:=Tryz.zeroValue237
 t39:=gu
 a39:=i6
 z39:=iJ
 v39:=gU
 t45:=ll
 a45:=Tryz.isAgg250
 z45:=Tryz.sizeOf250
 v45:=l9
 t46:=lm
 a46:=Tryz.isAgg251
 z46:=Tryz.sizeOf251
 v46:=ma
 t50:=lp
 a50:=Tryz.isAgg123
 z50:=Tryz.sizeOf123
 v50:=md
 t53:=fK
 a53:=iK
 z53:=iu
 v53:=gv
 t55:=lq
 a55:=Tryz.isAgg166
 z55:=Tryz.sizeOf166
 v55:=jD
 t66:=lr
 a66:=Tryz.isAgg289
 z66:=Tryz.sizeOf289
 v66:=me
 t70:=lu
 a70:=Tryz.isAgg293
 z70:=Tryz.sizeOf293
 v70:=mf
 t76:=lw
 a76:=Tryz.isAgg315
 z76:=Tryz.sizeOf315
 v76:=mg
 t77:=lx
 a77:=Tryz.isAgg316
 z77:=Tryz.sizeOf316
 v77:=mh }
def Tryz.sortF_ren:Go.Shelf.Ren:=⟨fun | 6=>133 | 15=>160 | 14=>159 | 28=>197 | 29=>198 | 20=>189 | 21=>190 | 22=>191 | 23=>192 | 24=>193 | 25=>194 | 26=>195 | 27=>196 | 46=>227 | 47=>228 | 48=>229 | 49=>230 | 50=>231 | 57=>269 | n=>n,fun | 22=>29 | 24=>48 | 25=>185 | 3=>3 | 39=>28 | 0=>0 | 53=>257 | 55=>166 | 4=>4 | 46=>251 | 45=>250 | 50=>123 | 5=>5 | 9=>9 | 66=>289 | 70=>293 | 76=>315 | 77=>316 | n=>n,fun | n=>n⟩
theorem Tryz.sortF:Go.Proofs.SlLaysF0.n6 prog Tryz.sortF_ren:={
 mixed:=T
 f6:=⟨Tryz.f133.name,by decide,Tryz.func133.trans (congrArg some T)⟩
 f14:=⟨Tryz.f159.name,by decide,Tryz.func159.trans (congrArg some T)⟩
 f15:=Tryz.func160.trans (congrArg some T)
 f20:=⟨Tryz.f189.name,by decide,Tryz.func189.trans (congrArg some T)⟩
 f21:=⟨Tryz.f190.name,by decide,Tryz.func190.trans (congrArg some T)⟩
 f22:=⟨Tryz.f191.name,by decide,Tryz.func191.trans (congrArg some T)⟩
 f23:=⟨Tryz.f192.name,by decide,Tryz.func192.trans (congrArg some T)⟩
 f24:=⟨Tryz.f193.name,by decide,Tryz.func193.trans (congrArg some T)⟩
 f25:=⟨Tryz.f194.name,by decide,Tryz.func194.trans (congrArg some T)⟩
 f26:=⟨Tryz.f195.name,by decide,Tryz.func195.trans (congrArg some T)⟩
 f27:=⟨Tryz.f196.name,by decide,Tryz.func196.trans (congrArg some T)⟩
 f28:=Tryz.func197.trans (congrArg some T)
 f29:=Tryz.func198.trans (congrArg some T)
 f46:=⟨Tryz.f227.name,by decide,Tryz.func227.trans (congrArg some T)⟩
 f47:=Tryz.func228.trans (congrArg some T)
 f48:=Tryz.func229.trans (congrArg some T)
 f49:=⟨Tryz.f230.name,by decide,Tryz.func230.trans (congrArg some T)⟩
 f50:=⟨Tryz.f231.name,by decide,Tryz.func231.trans (congrArg some T)⟩
 f57:=⟨Tryz.f269.name,by decide,Tryz.func269.trans (congrArg some T)⟩
 t0:=dY
 a0:=gJ
 z0:=fI
 v0:=ez
 t3:=bw
 a3:=ee
 z3:=dN
 v3:=bS
 t4:=cg
 a4:=ef
 z4:=dP
 v4:=ci
 t5:=dE
 a5:=gK
 z5:=fJ
 v5:=eC
 t9:=bG
 a9:=eL
 z9:=d9
 v9:=cO
 t22:=iy
 a22:=Tryz.isAgg29
 z22:=Tryz.sizeOf29
 v22:=Tryz.zeroValue29
 t25:=Tryz.underlying185
 a25:=Tryz.isAgg185
 z25:=Tryz.sizeOf185
 v25:=Tryz.zeroValue185
 t39:=gu
 a39:=i6
 z39:=iJ
 v39:=gU
 t45:=ll
 a45:=Tryz.isAgg250
 z45:=Tryz.sizeOf250
 v45:=l9
 t46:=lm
 a46:=Tryz.isAgg251
 z46:=Tryz.sizeOf251
 v46:=ma
 t50:=lp
 a50:=Tryz.isAgg123
 z50:=Tryz.sizeOf123
 v50:=md
 t53:=fK
 a53:=iK
 z53:=iu
 v53:=gv
 t55:=lq
 a55:=Tryz.isAgg166
 z55:=Tryz.sizeOf166
 v55:=jD
 t66:=lr
 a66:=Tryz.isAgg289
 z66:=Tryz.sizeOf289
 v66:=me
 t70:=lu
 a70:=Tryz.isAgg293
 z70:=Tryz.sizeOf293
 v70:=mf
 t76:=lw
 a76:=Tryz.isAgg315
 z76:=Tryz.sizeOf315
 v76:=mg
 t77:=lx
 a77:=Tryz.isAgg316
 z77:=Tryz.sizeOf316
 v77:=mh }
open Go.RowKit Go.Sort
theorem aHo(a b:ByteArray):cmpS a b<0↔a.data.toList<b.data.toList:=by
 unfold cmpS;rw[aQt];by_cases h:a.data.toList<b.data.toList
 ·simp[h]
 simp only[h,decide_false,bA,dD,iff_false];split<;>omega
theorem aVb(a b:ByteArray):cmpS a b=0↔a.data.toList=b.data.toList:=by
 unfold cmpS;rw[aQt];by_cases h:a.data.toList<b.data.toList
 ·simp only[h,decide_true,fj]
  constructor
  ·intro c;omega
  intro c;rw[c] at h;exact absurd h (eR _)
 simp only[h,decide_false,bA,dD];rw[Lib.toList_data,Lib.toList_data];by_cases c:a.data.toList=b.data.toList
 ·simp[c]
 rw[ah (by simpa using c)];constructor
 ·intro d;omega
 intro d;exact absurd d c
def keyB (base:List FV)(x:Nat×Nat):List UInt8×Nat:=((((base[x.1]?).map FV.path).getD ⟨#[]⟩).data.toList,x.1)
def ltK (x y:List UInt8×Nat):Prop:=x.1<y.1\/(x.1=y.1/\x.2<y.2)
theorem aRz(base:List FV)(x y:Nat×Nat):cmpP base x y<0↔ltK (keyB base x) (keyB base y):=by
 unfold cmpP orI ltK keyB;dsimp only;generalize ((base[x.1]?).map FV.path).getD ⟨#[]⟩=a;generalize ((base[y.1]?).map FV.path).getD ⟨#[]⟩=b;by_cases h:cmpS a b=0
 ·rw[ao h]
  have d:=(aVb a b).1 h;rw[d]
  have:Lib.compareInt (x.1:Int) (y.1:Int)<0↔x.1<y.1:=by
   unfold Lib.compareInt;split
   ·constructor<;>intro<;>omega
   split<;>(constructor<;>intro<;>omega)
  rw[this];constructor
  ·intro c;exact .inr ⟨rfl,c⟩
  rintro (c | ⟨_,c⟩)
  ·exact absurd c (eR _)
  exact c
 rw[ah h,aHo];constructor
 ·exact .inl
 rintro (c | ⟨c,_⟩)
 ·exact c
 exact absurd ((aVb a b).2 c) h
theorem bMe {x y:List UInt8×Nat}(a:¬ltK x y)(b:¬ltK y x):x=y:=by
 unfold ltK at a b
 have e:x.1=y.1:=by
  rcases Std.lt_trichotomy x.1 y.1 with h | h | h
  ·exact absurd (.inl h) a
  ·exact h
  exact absurd (.inl h) b
 have c:x.2=y.2:=by
  rcases eZ x.2 y.2 with h | h | h
  ·exact absurd (.inr ⟨e,h⟩) a
  ·exact h
  exact absurd (.inr ⟨e.symm,h⟩) b
 exact Prod.ext e c
theorem bCq(x:List UInt8×Nat):¬ltK x x:=by
 rintro (h | ⟨_,h⟩)
 ·exact eR _ h
 omega
theorem aSy {x y z:List UInt8×Nat}(a:ltK x y)(b:ltK y z):ltK x z:=by
 rcases a with a | ⟨c,a⟩<;>rcases b with b | ⟨d,b⟩
 ·exact .inl (kK a b)
 ·exact .inl (d▸a)
 ·exact .inl (c▸b)
 exact .inr ⟨c.trans d,O⟩
theorem swoP(base:List FV) {α:Type}(f:α->Nat×Nat):SWO (ltOf fun x y:α=>cmpP base (f x) (f y)) where
 irrefl x:=by unfold ltOf;rw[ak];rw[aRz];exact bCq _
 trans x y z h1 h2:=by
  unfold ltOf at *;rw[ly,aRz] at *;exact aSy h1 h2
 ntrans x y z h1 h2:=by
  unfold ltOf at *;rw[eo,aRz] at *;intro a;by_cases b:ltK (keyB base (f y)) (keyB base (f x))
  ·exact h2 (aSy b a)
  rw[bMe h1 b] at a;exact h2 a
theorem aHw  [Inhabited α] (enc:α->List Value)(k:Nat)(w:World)(a off n:Nat)(d:Array α)(os:Array Obj):w.grownBy (sortWorldK enc k w a off n d os) (some a):=by
 refine ⟨rfl,rfl,rfl,?_,fun i f c=>?_⟩
 ·simp[sortWorldK,putRowK,putRow,mapBlock,Sort.grow,Sort.ahead]
 have b:¬a=i:=fun e=>c (by rw[e]);simp only[sortWorldK,putRowK,putRow,mapBlock,Sort.grow,Sort.ahead];rw[jl (by simpa using f),dl,ah b]
theorem flat_get {enc:α->List Value}(b:∀x,(enc x).length=k):∀{l:List α} {i c:Nat} {x:α},l[i]? = some x->c<k->(l.flatMap enc)[i*k+c]? = (enc x)[c]?
 | [],i,c,x,h,_=>by cases h
 | a::l,0,c,x,h,hc=>by
  cases h
  rw[aL,ed,aO,aZ (by rw[b];exact hc)]
 | a::l,i+1,c,x,h,hc=>by
  have d:l[i]? = some x:=h;rw[aL,a6 (by rw[b,iM,jG];omega),b,show (i+1)*k+c-k=i*k+c by rw[iM,jG];omega];exact flat_get b d hc
theorem aHa {enc:α->List Value}(b:∀x,(enc x).length=k):∀l:List α,(l.flatMap enc).length=l.length*k
 | []=>by simp
 | a::l=>by rw[aL,ae,b,aHa b l,aD,iM,jG];omega
theorem bAf  [Inhabited α] {enc:α->List Value}{k:Nat}(j:0<k)(b:∀x,(enc x).length=k)(d:Array α):flatK enc k d=(d.toList.flatMap enc).toArray:=by
 apply dX.1;refine bM fun t=>?_;by_cases a:t<d.size*k
 ·have f:t / k<d.size:=ky (by rw[fO];exact a)
  have c:t % k<k:=j7 _ j;have e:t / k*k+t % k=t:=by rw[fO];exact kc t k
  have i:d.toList[t / k]? = some d[t / k]!:=by
   rw[fR d (t / k) f];simp[f]
  have g:=flat_get b i c;rw[e] at g;have h:=get_flatK enc k d t a;rw[fR _ _ (by rw[size_flatK];exact a)] at h;show _=(d.toList.flatMap enc)[t]?;rw[ac (by simpa using a),g];rw[ac (by rw[b];exact c)];congr 1;rw[gQ,h,fR _ _ (by rw[b];exact c)]
 rw[bH (by simpa using mK a),bH (show (d.toList.flatMap enc).length<=t by rw[aHa b,bg];exact mK a)]
theorem aUz  [Inhabited α] {enc:α->List Value}{k:Nat}(i:0<k)(f:∀x,(enc x).length=k){w:World}{g:Nat}{a:Array Value}{T:TypeId}{d:Array α}(h:w.heap[g]? = some (.cells a T (0,0)))
  (l:a.toList.take (d.size*k)=d.toList.flatMap enc):HoldsK enc k w g 0 d:=by
 unfold HoldsK;intro j b;rw[size_flatK] at b;refine ⟨?_,aAk h⟩;rw[aO,bAf i f,bd w _ _ _ _ _ h];have c:(d.toList.flatMap enc)[j]? = a.toList[j]?:=by rw[<-l,dd b]
 have e:j<(d.toList.flatMap enc).length:=by rw[aHa f];simpa using b
 rw[fR _ _ (by simpa using e)];rw[ac e] at c;simpa using c.symm
theorem aPn  [Inhabited α] {enc:α->List Value}{k:Nat}(l:0<k)(f:∀x,(enc x).length=k){w:World}{g n:Nat}{b:Array Value}{T:TypeId}{d:Array α}{os:Array Obj}(i:w.heap[g]? = some (.cells b T (0,0)))(m:d.size*k<=b.size) :
  ∃a,(sortWorldK enc k w g 0 n d os).heap[g]? = some (.cells a T (0,0))/\a.size=b.size/\a.toList.take (d.size*k)=d.toList.flatMap enc:=by
 have e:g<w.heap.size:=aAa i;refine ⟨putCells id 0 (flatK enc k d) b,?_,by simp[putCells],?_⟩
 ·simp only[sortWorldK,putRowK,putRow,mapBlock,Sort.grow,Sort.ahead]
  rw[jl (by simpa using e),dl,ao rfl,i];rfl
 refine bM fun t=>?_;by_cases c:t<d.size*k
 ·have h:t<(d.toList.flatMap enc).length:=by rw[aHa f];simpa using c
  have j:t<b.size:=ag c m;rw[dd c,ac h,gn];simp only[putCells,Array.getElem?_mapIdx,cr j,kb,al,true_and,aO,size_flatK,c,fj,fh,id];congr 1;rw[bAf l f,fR _ _ (by simpa using h)];simp
 rw[bH (by rw[aE];omega),bH (by rw[aHa f,bg];omega)]
theorem aTj(x:Nat×Nat):(pairC x).length=2:=rfl
theorem bFw(x:Nat×Nat):∀v∈pairC x,v.oneCell'=true:=by
 intro v a;simp only[pairC,ax,d7,iw] at a;rcases a with rfl | rfl<;>rfl
def SortedPs (w0 w:World)(v:Value)(ps:List (Nat×Nat))(e:Ending) (w':World):Prop:=
 e=.returned (.tuple #[])/\∃ps':List (Nat×Nat),ps'.Perm ps/\w'.ownsRow w0.heap.size 234 2 v ps'.length (pairsV ps')/\w.grownBy w' v.ownBlock
theorem bGi {f n c:Nat}(hb:RdF w0 w0.heap.size A n c base)(W:Below w0.heap.size w0 w)(h0:w.cell? ⟨f,0,none⟩=some (.slice A n c))(B:f<w.heap.size)
  (R:w.ownsRow w0.heap.size 234 2 v ps.length (pairsV ps)) (S:v.ownBlock≠some f) (X:∀p∈ps,p.1<base.length) (hl:ps.length<=100000) :
  Calls prog 172 #[v,.func (.func 173) #[] #[.pointer (some ⟨f,0,none⟩)]] w (SortedPs w0 w v ps):=by
 rcases R.2 with ⟨rfl,M⟩ | ⟨g,cap,ff,rfl,N,O,P,Q,z,ht⟩
 ·have:ps=[]:=bj.1 M
  subst this;have K:=AnyF.slices_SortFunc_none Tryz.sortP none 0 (.func (.func 173) #[] #[.pointer (some ⟨f,0,none⟩)]) w;refine iF (show Calls prog 172 _ w _ from K) ?_;rintro e w' ⟨rfl,rfl⟩;exact ⟨rfl,[],List.Perm.refl _,R,(aAs (Below.refl _ _)).but _⟩
 have D:g<w.heap.size:=aAa O;by_cases C:ps=[]
 ·subst C
  have K:=AnyF.slices_SortFunc_none Tryz.sortP (some ⟨g,0,none⟩) cap (.func (.func 173) #[] #[.pointer (some ⟨f,0,none⟩)]) w;refine iF (show Calls prog 172 _ w _ from K) ?_;rintro e w' ⟨rfl,rfl⟩;exact ⟨rfl,[],List.Perm.refl _,R,(aAs (Below.refl _ _)).but _⟩
 obtain ⟨U,o⟩:=List.exists_mem_of_ne_nil ps C;have E:=X U o;haveI:Inhabited {p:Nat×Nat // p.1<base.length}:=⟨⟨U,E⟩⟩;obtain ⟨d,r⟩:∃d:Array {p:Nat×Nat // p.1<base.length},d=(ps.attachWith (fun p=>p.1<base.length) X).toArray:=⟨_,rfl⟩;have T:d.toList.map Subtype.val=ps:=by rw[r];exact List.attachWith_map_subtype_val _
 have b:d.size=ps.length:=by rw[r];simp
 have F:d.toList.flatMap (fun x:{p:Nat×Nat // p.1<base.length}=>pairC x.1)=pairsV ps:=by
  rw[<-T];unfold pairsV;rw[jU]
 have Y:HoldsK (fun x:{p:Nat×Nat // p.1<base.length}=>pairC x.1) 2 w g 0 d:=aUz (by decide:0<2) (fun _=>rfl) O (by rw[b,F];exact ht)
 have k:CmpLays prog 173 #[.pointer (some ⟨f,0,none⟩)] (fun x:{p:Nat×Nat // p.1<base.length}=>pairC x.1) 2 (fun x y=>cmpP base x.1 y.1) g 0 d.size w:=by
  intro m os H _ x y;have h:=aHw (fun x:{p:Nat×Nat // p.1<base.length}=>pairC x.1) 2 w g 0 m H os;have G:Below w0.heap.size w0 (sortWorldK (fun x:{p:Nat×Nat // p.1<base.length}=>pairC x.1) 2 w g 0 m H os):=W.grown h W.size (fun q V=>by injection V with V;omega);obtain ⟨⟨p,p1⟩,hx⟩:=x;obtain ⟨⟨q,q1⟩,hy⟩:=y
  have i:(sortWorldK (fun x:{p:Nat×Nat // p.1<base.length}=>pairC x.1) 2 w g 0 m H os).cell? ⟨f,0,none⟩=some (.slice A n c):=by
   have e:=h.block f B (fun e=>S e.symm);rw[<-h0];unfold World.cell?;rw[e]
  exact bGq hb G i (ag B h.size) hx hy
 have Z:SWO (ltOf fun x y:{p:Nat×Nat // p.1<base.length}=>cmpP base x.1 y.1):=swoP base Subtype.val;have eg:∀args w,(callFunc 173 args).run prog w=.ok (.enter 173 args) w:=enters_of Tryz.func173 κ rfl;have K:=AnyQ.slices_SortFunc Tryz.sortP 2 Tryz.isAgg234 Tryz.sizeOf234 (fun x:{p:Nat×Nat // p.1<base.length}=>pairC x.1) (fun _=>rfl) (fun x=>bFw x.1) (fun x y=>cmpP base x.1 y.1) Z 173 #[.pointer (some ⟨f,0,none⟩)] g 0 cap d w eg k Y D (by rw[b];omega);rw[b] at K;refine iF (show Calls prog 172 _ w _ from K) ?_;rintro e w' ⟨rfl,d',m,os,j,_,rfl⟩;obtain ⟨I,_,s⟩:=j;have a:d'.size=ps.length:=I.trans b;obtain ⟨t,J,u,L⟩:=aPn (n:=m) (os:=os) (d:=d') (enc:=fun x:{p:Nat×Nat // p.1<base.length}=>pairC x.1) (by decide:0<2) (fun _=>rfl) O (by rw[a,z];omega);have l:(d'.toList.map Subtype.val).length=ps.length:=by rw[az,bg,a]
 refine ⟨rfl,d'.toList.map Subtype.val,?_,?_,aHw _ _ _ _ _ _ _ _⟩
 ·rw[<-a,jm,a,<-b,jm] at s
  rw[<-T];exact s.map _
 rw[l];refine ⟨by unfold pairsV;rw[aHa aTj,l],.inr ⟨g,cap,t,rfl,N,J,P,Q,u.trans z,?_⟩⟩;rw[<-a,L];unfold pairsV;rw[jU]
theorem aGe {P:Program}
  (b:S (w.alloc (.map #[] 0))/\K (a.put dst (.map (some w.heap.size))) (w.alloc (.map #[] 0))):effq P S ⟨q,dst,.makeMap t none,ty,g⟩ a w K:=by
 refine aQu (x:=⟨q,dst,.makeMap t none,ty,g⟩) (fun p c g=>?_) b;unfold execOp;simp only[Option.map_none,run_makeMap,bT,cE,bI]
theorem bKg {P:Program}{x:Operand}
  (b:∀(p:String) (c:Array Edge) (g:Option (Nat×Bool)),(execOp a.eval ⟨dst,.box t x,ty,p,c,g⟩).run P w=.ok (.value v) w') (d:S w'/\K (a.put dst v) w'):effq P S ⟨q,dst,.box t x,ty,g⟩ a w K:=
 aQu (x:=⟨q,dst,.box t x,ty,g⟩) b d
theorem bHo(base side:List FV):fillG base side []=fun _ _=>none:=by
 funext x y;simp[fillG]
theorem aYv {u:World}{t:Value}{D:DataW Value}(d:u.ownsRow w0.heap.size 3 1 f is.length (natsV is))(i:u.ownsRow w0.heap.size 3 1 t js.length (natsV js))
  (b:∀g,f.ownBlock=some g->t.ownBlock≠some g) (j:MpQ u m 0 D fun _ _=>none) (c:Below w0.heap.size w0 u) :
  Sr w0 (u.alloc (.cells #[bs,ss,f,t,.map (some m),.slice none 0 0] 231)) u.heap.size m bs ss is js [] (fillG base side [],0) (fun _ _=>False):=by
 have a:Below u.heap.size u (u.alloc (.cells #[bs,ss,f,t,.map (some m),.slice none 0 0] 231)):=(Below.refl _ _).alloc (aa _) _;refine ⟨f,t,.slice none 0 0,au _ _,aAf d a,aAf i a,aA _ _ _ _,fun e=>?_,fun e=>?_,fun e=>(by cases e),b,fun g _ e=>(by cases e),fun g _ e=>(by cases e),⟨0,D,by rw[bHo];exact j.below a,aa _⟩,c.size,c.trans (a.mono c.size),fun k l h=>h.elim⟩
 ·have:=(d.lt _ e).2;omega
 have:=(i.lt _ e).2;omega
theorem aJp(base side:List FV):∀(is js:List Nat),(sameF base side is js).1.length+(sameF base side is js).2.1.length=is.length/\(sameF base side is js).2.2.length<=js.length
 | [],js=>by rw[sameF];exact ⟨rfl,aa _⟩
 | i::is,js=>by
  rw[sameF]
  cases a:js.find? fun j=>decide (textAt side j=textAt base i) with
  | none=>
   have h:=aJp base side is js;dsimp only;rw[aD,aD];exact ⟨O,h.2⟩
  | some j=>
   have h:=aJp base side is (js.filter fun k=>decide (k≠j));dsimp only;rw[aD,aD];exact ⟨O,aw h.2 (bD _ _)⟩
theorem aCg {l a:List FV}(h:i∈loneF l a):i<l.length:=by
 rw[aEl] at h;exact bL.1 (aX.1 h).1
theorem bCd(l a:List FV):(loneF l a).Nodup:=by
 rw[aEl];exact List.nodup_range.filter _
theorem aXq(l a:List FV):(loneF l a).length<=l.length:=by
 rw[aEl];exact aTx _ _
theorem bEn(base side:List FV){a b:List Nat}(c:a=loneF base side)(d:b=loneF side base):([]++(sameF base side a b).1)++alikeF base side (sameF base side a b).2.1.length (sameF base side a b).2.1 (sameF base side a b).2.2=pairsF base side:=by
 subst c d;rfl
theorem aQk(base side:List FV):∀(n:Nat) (is js:List Nat),(alikeF base side n is js).length<=n
 | 0,_,_=>aa _
 | n+1,is,js=>by
  rw[alikeF]
  cases bestF base side is js with
  | none=>exact al _
  | some p=>
   have:=aQk base side n (is.filter fun k=>decide (k≠p.1)) (js.filter fun k=>decide (k≠p.2));simp only[aD];omega
theorem aKc(base side:List FV):(pairsF base side).length<=base.length:=by
 have a:=aJp base side (loneF base side) (loneF side base);have b:=aQk base side (sameF base side (loneF base side) (loneF side base)).2.1.length (sameF base side (loneF base side) (loneF side base)).2.1 (sameF base side (loneF base side) (loneF side base)).2.2;have c:=aXq base side;unfold pairsF;dsimp only;rw[ae];omega
def pathAt (l:List FV)(i:Nat):ByteArray:=((l[i]?).map FV.path).getD ⟨#[]⟩
def renC (base side:List FV)(p:Nat×Nat):List Value:=[.string (pathAt base p.1),.string (pathAt side p.2)]
def RenamesIs (base side:List FV)(w:World)(e:Ending) (w':World):Prop:=
 ∃(L:List (Nat×Nat)) (v:Value),L.Perm (pairsF base side)/\e=.returned v/\w'.ownsRow w.heap.size 132 2 v L.length (L.flatMap (renC base side))/\Below w.heap.size w w'
theorem aFt {base a:Nat}{e:TypeId}{b:Nat}{n:Nat}{xs:List Value}(h:w.ownsRow base e b v n xs)(j:a<=base):w.ownsRow a e b v n xs:=
 ⟨h.1,h.2.imp id fun ⟨g,cap,c,d,f,i⟩=>⟨g,cap,c,d,aw j f,i⟩⟩
theorem aHs:Elem prog 81 132 2 32:=aCa T
theorem aPk(a b:ByteArray)(w:World):(Instr.build 132 #[(0,.string a),(1,.string b)]).run prog w=.ok (.agg #[.string a,.string b]) w:=by
 go_simp
theorem aXs(w:World)(g:Nat)(a b:ByteArray)(d:g=w.heap.size):Rd (w.alloc (.cells #[.string a,.string b] 132)) (w.alloc (.cells #[.string a,.string b] 132)).heap.size 2 (some ⟨g,0,none⟩) 1 1 [.string a,.string b]:=by
 subst d
 exact ⟨rfl,aa _,fun _=>⟨_,0,rfl,by simp,fun k u c=>by
  rw[aO,World.cell?,au];simpa using c⟩⟩
theorem bDb(A B F T:Option Addr)(n ca m cb f a t b mp:Nat)(w:World) :
  (Instr.build 231 #[(0,.slice A n ca),(1,.slice B m cb),(2,.slice F f a),(3,.slice T t b),(4,.map (some mp))]).run prog w=.ok (.agg #[.slice A n ca,.slice B m cb,.slice F f a,.slice T t b,.map (some mp),.slice none 0 0]) w:=by
 go_simp
theorem aYf {B:Option Addr}{n ca cb:Nat}(hL:Lm w)(hn:n<=100000)(hm:m<=100000)(ha:RdF w w.heap.size A n ca base)(hs:RdF w w.heap.size B m cb side)
  (oL:∀f∈base,f.text.size<=1000000) (oM:∀f∈side,f.text.size<=1000000) :
  Calls prog 150 #[.slice A n ca,.slice B m cb] w (RenamesIs base side w):=by
 obtain ⟨W,eW⟩:∃W,W=w.alloc (.cells #[.slice A n ca] 29):=⟨_,rfl⟩;have hW:Below w.heap.size w W:=by rw[eW];exact (Below.refl _ _).alloc (aa _) _
 have nU:W.heap.size=w.heap.size+1:=by rw[eW];simp
 have nV:W.heap[w.heap.size]? = some (.cells #[.slice A n ca] 29 (0,0)):=by rw[eW];exact au _ _
 have Y:=hid (ha.to hW hW.size);have HS:=hid (hs.to hW hW.size);have oO:=hid (hL.to hW);have HW:=hid hW;have nD:=hid nV;have oP:=hid oL;have oQ:=hid oM;have pe:=hid nU;have ff:w.heap.size<W.heap.size:=ω;clear ha hs hW nV nU hL oL oM;obtain ⟨r,oB⟩:∃r,r=loneF base side:=⟨_,rfl⟩;obtain ⟨C,oC⟩:∃C,C=loneF side base:=⟨_,rfl⟩;have L:=hid oB;have N:=hid oC;clear oB oC;have nW:Hid r.Nodup:=by rw[L.out];exact hid (bCd _ _)
 have HI:Hid (∀i∈r,i<base.length):=by rw[L.out];exact hid (fun i hi=>aCg hi)
 have HJ:Hid (∀i∈C,i<side.length):=by rw[N.out];exact hid (fun i hi=>aCg hi)
 have pg:r.length<=100000:=by rw[L.out];have:=aXq base side;have:=Y.out.len;omega
 have ph:C.length<=100000:=by rw[N.out];have:=aXq side base;have:=HS.out.len;omega
 have nX:Hid (∀p∈pairsF base side,p.1<base.length):=hid fun p hp=>aCg ((aCv base side).from_ p hp);have oR:Hid (∀p∈pairsF base side,p.2<side.length):=hid fun p hp=>aCg ((aCv base side).into p hp);have nY:Hid (Two W (.slice A n ca) (.slice B m cb) base side):=hid ⟨A,n,ca,B,m,cb,rfl,rfl,Y.out,HS.out,hn,hm⟩;go_enter Tryz.func150,Tryz.ntmps150;go_wp2;rw[<-eW];clear eW;generalize oN:w.heap.size=bx at *;refine aAv (fun u=>Below W.heap.size W u) (.q 0 (.q 1 (.q 2 (.q 3 (.q 5 (.q 6 (.two 4 (.two 7 (.one 8 (.b 9 (.one 10 (.q 11 .leaf)))) 8 (.one 7 (.b 9 (.one 10 (.q 11 .leaf))))) 8 (.one 4 (.one 7 (.b 9 (.one 10 (.q 11 .leaf)))))))))))) mixed κ (Below.refl _ _).drew ?_;intro Tp M Q I nL hM hQ;have m0:M ⟨bx,0,none⟩=some (.slice A n ca):=hM _ _ fun w' hw=>by rw[ab ((hw.block _ ff).trans nD.out)];rfl
 clear hM;refine aCu ?_;intro O R;have t0:=R true 0;have t1:=R true 1;have t2:=R true 2;have t3:=R true 3;have t5:=R true 5;have t6:=R true 6;have t9:=R true 9;have nE:=R true 11;have e4:=R false 4;have e7:=R false 7;have e8:=R false 8;have nF:=R false 10;simp only[qcmp] at t0 t1 t2 t3 t5 t6 t9 nE e4 e7 e8 nF;clear R;simp (maxSteps:=9^7) only[↓wt_q,↓aBe,t0,t1,t2,t3,t5,t6,e4,e8,↓qpre,aAb,aAg,aAc,m0]
 have nj:∀(u:World) (F S:Option Addr) (Z U mp:Nat),Hid (u.ownsRow W.heap.size 3 1 (.slice F r.length Z) r.length (natsV r))->Hid (u.ownsRow W.heap.size 3 1 (.slice S C.length U) C.length (natsV C))->
   Hid (∀g,(Value.slice F r.length Z).ownBlock=some g->(Value.slice S C.length U).ownBlock≠some g)->Hid (MpQ u mp 0 (.map []) fun _ _=>none)->Hid (W.heap.size<=mp)->Hid (Below W.heap.size W u)->
   wt prog Tp M O Q (.b 9 (.one 10 (.q 11 .leaf))) ⟨#[Value.slice A n ca,Value.slice B m cb,Value.pointer (some ⟨bx,0,none⟩),undef,Value.slice none 0 0,undef,undef,undef,undef,Value.slice A n ca,Value.slice B m cb,Value.slice A n ca,Value.slice B m cb,Value.slice F r.length Z,Value.slice B m cb,Value.slice A n ca,Value.slice S C.length U,Value.map (some mp),undef,undef,undef,undef,undef,undef,undef,undef,undef,undef,undef,undef,undef,undef,undef,undef,undef,undef,undef,undef,undef,undef,undef,undef,undef,undef,undef,undef,undef,undef,undef,undef,undef,undef,undef,undef,undef,undef,undef],[]⟩ u:=by
  intro u F S Z U mp hf ht oD oE oF nu
  simp (maxSteps:=9^7) only[↓wt_b,t9]
  refine aCc rfl (fun w=>bDb _ _ _ _ _ _ _ _ _ _ _ _ _ w) ?_
  simp (maxSteps:=9^7) only[↓aAn,nF,aAb,aAc]
  have P:Below u.heap.size u (u.alloc (.cells #[.slice A n ca,.slice B m cb,.slice F r.length Z,.slice S C.length U,.map (some mp),.slice none 0 0] 231)):=(Below.refl _ _).alloc (aa _) _
  have nZ:=hid (aYv (base:=base) (side:=side) (bs:=.slice A n ca) (ss:=.slice B m cb) hf.out ht.out oD.out oE.out nu.out)
  have a:=nu.out.trans (P.mono nu.out.size)
  refine bKg (v:=.pointer (some ⟨u.heap.size,0,none⟩)) (w':=u.alloc (.cells #[.slice A n ca,.slice B m cb,.slice F r.length Z,.slice S C.length U,.map (some mp),.slice none 0 0] 231)) (fun p af g=>by
   unfold execOp;go_simp) ⟨I _ a,?_⟩
  have pi:=hid a
  clear hf ht oD oE nu P a
  generalize u.alloc (.cells #[.slice A n ca,.slice B m cb,.slice F r.length Z,.slice S C.length U,.map (some mp),.slice none 0 0] 231)=V at *
  generalize u.heap.size=sb at *
  simp (maxSteps:=9^7) only[↓wt_q,nE,↓qpre,aAb,aAc]
  refine hQ _ _ ?_
  clear hQ I nL t0 t1 t2 t3 t5 t6 t9 nE e4 e7 e8 nF m0
  have nG:=hid (aJp base side r C)
  have n5:=hid (aMh base side r C nW.out)
  have KS:=bKa nZ.out nY.out ω ω (by simpa using by omega) HI.out HJ.out nW.out
  clear nZ
  go_wp2_with fail
  refine KS.mono ?_
  rintro e w2 ⟨rfl,oG⟩
  clear KS
  have KA:=bFs oG nY.out oO.out oF.out (fun _ h=>h) oP.out oQ.out (by have:=nG.out.1;omega) (by have:=nG.out.2;omega) (by have:=nG.out.1;simp only[aT];omega) (fun i hi=>HI.out i (n5.out.2.1 i hi)) (fun j hj=>HJ.out j (n5.out.2.2.1 j hj))
  clear oG
  go_wp2_with fail
  refine KA.mono ?_
  rintro e w3 ⟨rfl,is',js',G',oH⟩
  clear KA
  rw[bEn base side L.out N.out] at oH
  obtain ⟨f9,pj,o9,D⟩:=oH
  have H:=hid D
  have nw:=(D.bel.block _ ff).trans nD.out
  have c0:w3.cell? ⟨bx,0,none⟩=some (.slice A n ca):=by rw[ab nw];rfl
  have KO:=bGi Y.out D.bel c0 (ag ff D.bel.size) D.o1 (fun e=>by have:=(D.o1.lt _ e).1;omega) (fun p hp=>nX.out p hp) (by have:=aKc base side;have:=Y.out.len;omega)
  have c1:w3.cell? ⟨sb,5,none⟩=some o9:=by rw[ab D.hs];rfl
  clear D nw
  go_wp2_with fail
  refine KO.mono ?_
  rintro e w4 ⟨rfl,ps,nq,nM,nN⟩
  have n7:=H.out.bel.grown nN H.out.bel.size (fun g hg=>(H.out.o1.lt g hg).1)
  have nz:=(nN.block sb (aAa H.out.hs) (fun e=>H.out.no e.symm)).trans H.out.hs
  have c2:w4.cell? ⟨sb,5,none⟩=some o9:=by rw[ab nz];rfl
  obtain ⟨E,ec,rfl,o6⟩:=aAd nM
  have ns:=hid nq
  have oS:=hid (Rd.of_own nM o6)
  have d:=hid n7
  clear KO c0 c1 nq nM nN n7 nz H
  have oT:ps.length<=100000:=by have:=ns.out.length_eq;have:=aKc base side;have:=Y.out.len;omega
  go_wp2
  go_loopw[6,35] (fun pc i wr=>∃k:Nat,k<=ps.length/\i=.int .i64 k/\Hid (Below w4.heap.size w4 wr)/\Hid (wr.ownsRow w4.heap.size 132 2 pc k ((ps.take k).flatMap (renC base side)))) (fun _ i _=>ps.length-(intOf i).toNat)
  case atStart=>exact ⟨0,al _,rfl,hid (Below.refl _ _),aA _ _ _ _⟩
  obtain ⟨k,hk,rfl,G,HO⟩:=hrel
  clear c2
  by_cases pd:k<ps.length
  ·obtain ⟨g,og,p,rfl,nO,oI,nP,nQ⟩:=T.rd_flat aTj ω oS.out rfl pd
   have n8:=nX.out p (ns.out.mem_iff.1 nP)
   have od:=oR.out p (ns.out.mem_iff.1 nP)
   rw[Y.out.len] at n8
   rw[HS.out.len] at od
   obtain ⟨x,y⟩:=p
   obtain ⟨b0,o0,fx,rfl,nR,oJ,_,p0,_,_⟩:=Y.out.get n8
   obtain ⟨b1,o1,fy,rfl,nr,oK,_,q0,_,_⟩:=HS.out.get od
   have c0:=(G.out.cell (p:=⟨g,og+k*2,none⟩) nO).trans (nQ 0 _ rfl)
   have c1:=(G.out.cell (p:=⟨g,og+k*2+1,none⟩) nO).trans (nQ 1 _ rfl)
   have oe:=hid (d.out.trans (G.out.mono d.out.size))
   have p1:=hid p0
   have q1:=hid q0
   have p0:=(oe.out.cell (p:=⟨b0,o0+x*3,none⟩) nR).trans p0
   have q0:=(oe.out.cell (p:=⟨b1,o1+y*3,none⟩) nr).trans q0
   have oU:=hid (show (ps.take (k+1)).flatMap (renC base side)=(ps.take k).flatMap (renC base side)++[.string fx.path,.string fy.path] by
    rw[aB,oI,aJ];simp[renC,pathAt,oJ,oK])
   have oh:=hid (And.intro nR nr)
   clear nQ oI nP oJ oK nO nR nr
   obtain ⟨OA,oc,rfl,o8⟩:=aAd HO.out
   have P:Below wr.heap.size wr (wr.alloc (.cells #[.int .i64 (x:Int),.int .i64 (y:Int)] 234)):=(Below.refl _ _).alloc (aa _) _
   have s:=hid (G.out.trans (P.mono G.out.size))
   have ol:=hid (aAf HO.out P)
   have nk:=hid (au wr (.cells #[.int .i64 (x:Int),.int .i64 (y:Int)] 234))
   have oV:Hid ((Value.slice OA k oc).ownBlock≠some wr.heap.size):=hid fun e=>cG _ (HO.out.lt _ e).2
   have oq:bx<w4.heap.size:=ag ff d.out.size
   have nA:=hid d.out.size
   clear P HO G
   go_wp2
   generalize wr.alloc (.cells #[.int .i64 (x:Int),.int .i64 (y:Int)] 234)=V5 at *
   refine aAe (fun w'=>Below w4.heap.size w4 w'/\w'.heap[wr.heap.size]? = some (.cells #[.int .i64 (x:Int),.int .i64 (y:Int)] 234 (0,0))) [(true,0),(true,1),(true,2),(true,3),(true,4),(true,5),(true,6),(true,7),(true,8),(true,9),(true,10),(true,11),(true,12),(false,13),(false,14),(false,15),(true,16)] mixed κ ⟨s.out.drew,nk.out⟩ ?_
   intro Tq M Q I nL hM hQ
   have m0:M ⟨wr.heap.size,0,none⟩=some (.int .i64 (x:Int)):=hM _ _ fun w' hw=>by rw[ab hw.2];rfl
   have m1:M ⟨wr.heap.size,1,none⟩=some (.int .i64 (y:Int)):=hM _ _ fun w' hw=>by rw[ab hw.2];rfl
   have m2:M ⟨bx,0,none⟩=some (.slice (some ⟨b0,o0,none⟩) n ca):=hM _ _ fun w' hw=>by rw[ab ((hw.1.block _ oq).trans ((d.out.block _ ff).trans nD.out))];rfl
   have m3:M ⟨b0,o0+x*3,none⟩=some (.string fx.path):=hM _ _ fun w' hw=>((d.out.trans (hw.1.mono nA.out)).cell (p:=⟨b0,o0+x*3,none⟩) oh.out.1).trans p1.out
   have m4:M ⟨b1,o1+y*3,none⟩=some (.string fy.path):=hM _ _ fun w' hw=>((d.out.trans (hw.1.mono nA.out)).cell (p:=⟨b1,o1+y*3,none⟩) oh.out.2).trans q1.out
   clear hM
   simp only[qcmp]
   simp (maxSteps:=9^7) only[↓qpre,aAb,aAg,aAc,m0,m1,m2,m3,m4]
   (repeat refine And.intro (by first|omega|(unfold inI64;omega)) ?_)
   clear m0 m1 m2 m3 m4 p0 q0 c0 c1
   refine aBo rfl (aPk _ _ _) ⟨I _ ⟨s.out.drew,nk.out⟩,?_⟩
   simp (maxSteps:=9^7) only[aAb,aAc]
   have J:Below V5.heap.size V5 (V5.drew.alloc (.cells #[.string fx.path,.string fy.path] 132)):=(Below.refl _ _).drew.alloc (aa _) _
   have ou:=hid (aXs V5.drew V5.drew.heap.size fx.path fy.path rfl)
   have t:=hid (s.out.trans (J.mono s.out.size))
   have nH:=hid (aAf ol.out J)
   have K:=hid ((J.block _ (aAa nk.out)).trans nk.out)
   refine T.eff_lits (aGq aHs _ _ _) rfl ⟨I _ ⟨t.out,K.out⟩,?_⟩
   simp (maxSteps:=9^7) only[aAb,aAc]
   clear s ol nk J
   generalize V5.drew.alloc (.cells #[.string fx.path,.string fy.path] 132)=V6 at *
   refine aAo aHs (base:=w4.heap.size) (n:=k) rfl rfl nH.out ou.out (by intro u hu;simp at hu;rcases hu with rfl | rfl<;>rfl) (by unfold maxLen;omega) ω t.out.size ?_
   intro v7 V7 nS nT pa
   obtain ⟨A7,c7,rfl,pm⟩:=aAd nS
   have nB:=hid (t.out.grown nT t.out.size (fun g hg=>(nH.out.lt g hg).1))
   have nC:=hid ((nT.block _ (aAa K.out) (fun e=>oV.out e.symm)).trans K.out)
   refine ⟨I _ ⟨nB.out,nC.out⟩,?_⟩
   simp (maxSteps:=9^7) only[↓qpre,aAb,aAc]
   refine hQ _ _ ?_
   have oW:=hid nS
   clear hQ I nL t nH K nC ou nS nT pa
   go_wp2
   go_roundw
   case rel=>exact ⟨k+1,ω,by go_num,nB,hid (by rw[oU.out];exact oW.out)⟩
   simp[intOf];omega
  have oX:k=ps.length:=ω
  subst oX
  obtain ⟨OA,oc,rfl,o8⟩:=aAd HO.out
  have HF:Hid (RenamesIs base side w (.returned (.slice OA ps.length oc)) wr):=hid ⟨ps,_,ns.out,rfl,by
   have:=HO.out;rw[ai (aa _)] at this;exact aFt this (by have:=d.out.size;omega),by rw[oN];exact HW.out.trans ((d.out.trans (G.out.mono d.out.size)).mono ω)⟩
  clear HO G
  go_wp2
  go_ret
  exact HF.out
 have B0:=hid (show Below W.heap.size W W.drew from (Below.refl _ _).drew);refine ⟨?_,?_⟩
 ·refine aAh κ (aJn hn hm (Y.out.to B0.out B0.out.size) (HS.out.to B0.out B0.out.size)) rfl rfl ?_
  rintro e u1 ⟨x0,rfl,o,X⟩;rw[<-L.out] at o;obtain ⟨F,Z,rfl,_⟩:=aAd o;have B1:=hid (B0.out.trans (X.mono B0.out.size));have nI:=hid (aFt o B0.out.size);clear o X;refine ⟨_,rfl,I _ B1.out,?_⟩;simp (maxSteps:=9^7) only[↓aBe,e7,e8,aAb,aAc];refine ⟨?_,?_⟩
  ·refine aAh κ (aJn hm hn (HS.out.to B1.out B1.out.size) (Y.out.to B1.out B1.out.size)) rfl rfl ?_
   rintro e u2 ⟨x1,rfl,c,a⟩;rw[<-N.out] at c;obtain ⟨S,U,rfl,_⟩:=aAd c;have B2:=hid (B1.out.trans (a.mono B1.out.size));have oY:=hid (aAf nI.out a);have ow:=hid (aFt c B1.out.size);have nm:Hid (∀g,(Value.slice F r.length Z).ownBlock=some g->(Value.slice S C.length U).ownBlock≠some g):=hid fun g h1 h2=>(by have:=(nI.out.lt g h1).2;have:=(c.lt g h2).1;omega);clear c a;refine ⟨_,rfl,I _ B2.out,?_⟩;simp (maxSteps:=9^7) only[↓aAn,e8,aAb,aAc];have z:Below u2.heap.size u2 (u2.alloc (.map #[] 0)):=(Below.refl _ _).alloc (aa _) _;have l:=hid (B2.out.trans (z.mono B2.out.size));refine aGe ⟨I _ l.out,?_⟩;exact nj _ _ _ _ _ _ (hid (aAf oY.out z)) (hid (aAf ow.out z)) nm (hid (MpQ.start u2)) (hid B2.out.size) l
  have z:Below u1.heap.size u1 (u1.alloc (.map #[] 0)):=(Below.refl _ _).alloc (aa _) _;have l:=hid (B1.out.trans (z.mono B1.out.size));have nJ:=hid (MpQ.start u1);have nK:=hid B1.out.size;have oz:=hid (aAf nI.out z);refine aGe ⟨I _ l.out,?_⟩;simp (maxSteps:=9^7) only[↓aAn,e7,aAb,aAc];generalize u1.alloc (.map #[] 0)=u2 at *;generalize u1.heap.size=mp at *;refine aAh κ (aJn hm hn (HS.out.to l.out l.out.size) (Y.out.to l.out l.out.size)) rfl rfl ?_;rintro e u3 ⟨x1,rfl,c,a⟩;rw[<-N.out] at c;obtain ⟨S,U,rfl,_⟩:=aAd c;have B4:=hid (l.out.trans (a.mono l.out.size));have nm:Hid (∀g,(Value.slice F r.length Z).ownBlock=some g->(Value.slice S C.length U).ownBlock≠some g):=hid fun g h1 h2=>by have:=(oz.out.lt g h1).2;have:=(c.lt g h2).1;omega
  refine ⟨_,rfl,I _ B4.out,?_⟩;exact nj _ _ _ _ _ _ (hid (aAf oz.out a)) (hid (aFt c l.out.size)) nm (hid (nJ.out.below a)) nK B4
 have z:Below W.drew.heap.size W.drew (W.drew.alloc (.map #[] 0)):=(Below.refl _ _).alloc (aa _) _;have l:=hid (B0.out.trans (z.mono B0.out.size));have nJ:=hid (MpQ.start W.drew);have nK:=hid B0.out.size;refine aGe ⟨I _ l.out,?_⟩;simp (maxSteps:=9^7) only[↓aAn,e4,aAb,aAc];generalize W.drew.alloc (.map #[] 0)=u2 at *;generalize W.drew.heap.size=mp at *;refine aAh κ (aJn hn hm (Y.out.to l.out l.out.size) (HS.out.to l.out l.out.size)) rfl rfl ?_;rintro e u3 ⟨x0,rfl,o,X⟩;rw[<-L.out] at o;obtain ⟨F,Z,rfl,_⟩:=aAd o;have B4:=hid (l.out.trans (X.mono l.out.size));have oA:=hid (aFt o l.out.size);have oZ:=hid (nJ.out.below X);clear o X;refine ⟨_,rfl,I _ B4.out,?_⟩;simp (maxSteps:=9^7) only[↓aAn,e7,aAb,aAc];refine aAh κ (aJn hm hn (HS.out.to B4.out B4.out.size) (Y.out.to B4.out B4.out.size)) rfl rfl ?_;rintro e u4 ⟨x1,rfl,c,a⟩;rw[<-N.out] at c;obtain ⟨S,U,rfl,_⟩:=aAd c;have B5:=hid (B4.out.trans (a.mono B4.out.size));have nm:Hid (∀g,(Value.slice F r.length Z).ownBlock=some g->(Value.slice S C.length U).ownBlock≠some g):=hid fun g h1 h2=>by have:=(oA.out.lt g h1).2;have:=(c.lt g h2).1;omega
 refine ⟨_,rfl,I _ B5.out,?_⟩;exact nj _ _ _ _ _ _ (hid (aAf oA.out a)) (hid (aFt c B4.out.size)) nm (hid (oZ.out.below a)) nK B5
end Go.Proofs.YtohblmepajhpaaaGreatDoor
