/- Contracts of functions that the law reaches; plain laws. -/
import Derived.Test.YtohblmepajhpaaaGreatDoorG03
import Derived.Test.YtohblmepajhpaaaGreatDoorG09
import Derived.Test.YtohblmepajhpaaaGreatDoorG10
import Derived.Test.YtohblmepajhpaaaGreatDoorG14
set_option maxHeartbeats 8000000
set_option maxRecDepth 100000
open Go.Lib (hid)
namespace Go.Proofs.YtohblmepajhpaaaGreatDoor
open Go.Proofs.Tryz (prog)
open Go.RowKit
variable {k m i n g c q d:Nat}{is js:List Nat}{base side:List FV}{xv yv mo:Int}{ps:List (Nat×Nat)}{w:World}{va vb:Value}{f:FV}{A R:Option Addr}{L:List (ByteArray×ByteArray)}
structure P2 (base side:List FV) (is js:List Nat) (ps:List (Nat×Nat)):Prop where
 at_:∃n,is.length<=n/\pairsF base side=ps++alikeF base side n is js
 keys:∀p∈ps,p.1∉is
 asc1:is.Pairwise (·<·)
 asc2:js.Pairwise (·<·)
 lt1:∀x∈is,x<base.length
 lt2:∀y∈js,y<side.length
section
variable {base side:List FV} {is js:List Nat} {ps:List (Nat×Nat)}
theorem P1.next(h:P1 base side base.length is js ps):P2 base side is js ps:=by
 have a:=h.done;obtain ⟨_,b,c,d,e,f⟩:=h;exact ⟨⟨is.length,aa _,by unfold pairsF;rw[a]⟩,fun p g=>(b p g).2,f,c,d,e⟩
theorem P2.more {x y:Nat}(h:P2 base side is js ps)(e:bestF base side is js=some (x,y)) :
  P2 base side (is.filter fun k=>decide (k≠x)) (js.filter fun k=>decide (k≠y)) (ps++[(x,y)])/\x∈is/\y∈js/\(is.filter fun k=>decide (k≠x)).length<is.length:=by
 obtain ⟨⟨n,f,g⟩,i,j,l,l1,m⟩:=h;obtain ⟨o,q,r,s⟩:=aPt f e;obtain ⟨t,u⟩:=aMk e;refine ⟨⟨⟨o,r,by rw[g,q];simp⟩,?_,j.filter _,l.filter _,fun z c=>l1 z (aX.1 c).1,fun z c=>m z (aX.1 c).1⟩,t,u,s⟩;intro p b d;rcases aQ.1 b with a | a
 ·exact i p a (aX.1 d).1
 simp at a;subst a;simpa using (aX.1 d).2
theorem P2.done(h:P2 base side is js ps)(b:bestF base side is js=none):pairsF base side=ps:=by
 obtain ⟨⟨n,c,a⟩,_⟩:=h;rw[a,aPp b,aR]
end
theorem aKn:∀{l:List Nat},l.Pairwise (·<·)->k∈l->(l.filter fun y=>decide (y<k+1))=(l.filter fun y=>decide (y<k))++[k]
 | [],_,h=>by cases h
 | a::l,hp,h=>by
  obtain ⟨c,m⟩:=cC.1 hp;by_cases e:a=k
  ·subst e
   have i:(l.filter fun y=>decide (y<a+1))=[]:=eJ.2 fun y f=>(by have:=c y f;simp;omega);have j:(l.filter fun y=>decide (y<a))=[]:=eJ.2 fun y f=>(by have:=c y f;simp;omega);simp[i,j]
  have g:k∈l:=by
   rcases ax.1 h with d | d
   ·exact absurd d.symm e
   exact d
  have b:a<k:=c k g;rw[dG,dG,aKn m g,ao (by simp;omega),ao (by simpa using b)];rfl
theorem aQc {l:List Nat}(h:k∉l):(l.filter fun y=>decide (y<k+1))=l.filter fun y=>decide (y<k):=by
 refine dJ fun y a=>?_;have:y≠k:=fun e=>h (e▸a);simp only[iG];omega
theorem aQq {l:List Nat}(h:∀y∈l,y<m):(l.filter fun y=>decide (y<m))=l:=dg.2 fun y a=>by simpa using h y a
def seenL (is js:List Nat)(i k:Nat):List (Nat×Nat):=
 ((is.filter fun x=>decide (x<i)).flatMap fun x=>js.map fun y=>(x,y))++if i∈is then (js.filter fun y=>decide (y<k)).map fun y=>(i,y) else []
theorem aNs(is js:List Nat)(i:Nat):seenL is js i 0=(is.filter fun x=>decide (x<i)).flatMap fun x=>js.map fun y=>(x,y):=by
 unfold seenL;simp
theorem bCc(is js:List Nat):seenL is js 0 0=[]:=by rw[aNs];simp
theorem aVc(h:i∉is\/k∉js):seenL is js i (k+1)=seenL is js i k:=by
 unfold seenL;rcases h with h | h
 ·rw[ah h,ah h]
 rw[aQc h]
theorem bEf(b:js.Pairwise (·<·))(a:i∈is)(c:k∈js):seenL is js i (k+1)=seenL is js i k++[(i,k)]:=by
 unfold seenL;rw[ao a,ao a,aKn b c,aM,aH];rfl
theorem bLa(a:is.Pairwise (·<·))(b:∀y∈js,y<m):seenL is js i m=seenL is js (i+1) 0:=by
 rw[aNs];unfold seenL;rw[aQq b];by_cases h:i∈is
 ·rw[ao h,aKn a h,aJ];simp
 rw[ah h,aQc h,aR]
theorem bAd(a:∀x∈is,x<n):seenL is js n 0=rowB is js is.length:=by
 rw[aNs,aQq a];unfold rowB;rw[ai (aa _)]
def BestV (st:Option (Nat×Nat)×Int)(xv yv mo:Int):Prop:=st.2=mo/\((st.1=none/\mo=49/\xv=-1/\yv=-1)\/∃x y:Nat,st.1=some (x,y)/\xv=x/\yv=y/\50<=mo)
theorem BestV.start(base side:List FV):BestV (foldB base side []) (-1) (-1) 49:=⟨rfl,.inl ⟨rfl,rfl,rfl,rfl⟩⟩
theorem BestV.more {l:List (Nat×Nat)}{j:Nat}{r:Int}(h:BestV (foldB base side l) xv yv mo)(a:ratioF (textAt base i) (textAt side j)=r)(b:mo<r):BestV (foldB base side (l++[(i,j)])) i j r:=by
 rw[aGy,aMg h.1 a,ao b];refine ⟨rfl,.inr ⟨i,j,rfl,rfl,rfl,?_⟩⟩;rcases h.2 with ⟨_,h,_⟩ | ⟨_,_,_,_,_,h⟩<;>omega
theorem BestV.same {l:List (Nat×Nat)}{j:Nat}{r:Int}(h:BestV (foldB base side l) xv yv mo)(a:ratioF (textAt base i) (textAt side j)=r)(b:¬mo<r):BestV (foldB base side (l++[(i,j)])) xv yv mo:=by
 rw[aGy,aMg h.1 a,ah b];exact h
theorem BestV.none_(h:BestV (foldB base side (seenL is js n 0)) xv yv mo)(a:∀x∈is,x<n)(b:xv<0):bestF base side is js=none:=by
 rw[aSa,<-bAd a];rcases h.2 with ⟨h,_⟩ | ⟨x,y,_,h,_⟩
 ·exact h
 omega
theorem BestV.some_(h:BestV (foldB base side (seenL is js n 0)) xv yv mo)(d:∀x∈is,x<n)(e:¬xv<0):∃x y:Nat,bestF base side is js=some (x,y)/\xv=x/\yv=y:=by
 rw[aSa,<-bAd d];rcases h.2 with ⟨_,_,h,_⟩ | ⟨x,y,a,b,c,_⟩
 ·omega
 exact ⟨x,y,a,b,c⟩
def renL (base side:List FV)(ps:List (Nat×Nat))(k:Nat):List (ByteArray×ByteArray):=
 (List.range k).filterMap fun i=>if lookI ps i<0 then none else some (pathAt base i,pathAt side (lookI ps i).toNat)
theorem bEr(base side:List FV)(ps:List (Nat×Nat))(k:Nat):renL base side ps (k+1)=renL base side ps k++if lookI ps k<0 then [] else [(pathAt base k,pathAt side (lookI ps k).toNat)]:=by
 unfold renL;rw[eY,gh];congr 1;by_cases h:lookI ps k<0<;>simp[h]
theorem aRp(base side:List FV)(ps:List (Nat×Nat))(k:Nat):(renL base side ps k).length<=k:=by
 have:=List.length_filterMap_le (fun i=>if lookI ps i<0 then none else some (pathAt base i,pathAt side (lookI ps i).toNat)) (List.range k);simpa[renL] using this
theorem bKi {r:ByteArray×ByteArray}(h:r∈renL base side ps k):∃i,i<k/\r.1=pathAt base i:=by
 obtain ⟨i,c,a⟩:=cB.1 h;by_cases b:lookI ps i<0
 ·rw[ao b] at a;cases a
 rw[ah b] at a;cases a;exact ⟨i,bL.1 c,rfl⟩
def renF (base side:List FV):List (ByteArray×ByteArray):=renL base side (pairsF base side) base.length
structure RW (w0 w:World) (n m:Nat) (va vb vt:Value) (is js:List Nat) (tl:List Int):Prop where
 bel:Below w0.heap.size w0 w
 own:Owns w w0.heap.size [⟨4,1,va,n,boolsV (bitsL n is)⟩,⟨4,1,vb,m,boolsV (bitsL m js)⟩,⟨3,1,vt,n,intsV tl⟩]
section
variable {w0 w w':World} {n m:Nat} {va vb vt:Value} {is js:List Nat} {tl:List Int}
theorem RW.grow(h:RW w0 w n m va vb vt is js tl)(a:Below w.heap.size w w'):RW w0 w' n m va vb vt is js tl:=
 ⟨h.bel.trans (a.mono h.bel.size),⟨fun r b=>aAf (h.own.own r b) a,h.own.nd⟩⟩
theorem RW.a(h:RW w0 w n m va vb vt is js tl):w.ownsRow w0.heap.size 4 1 va n (boolsV (bitsL n is)):=h.own.get (i:=0) rfl
theorem RW.b(h:RW w0 w n m va vb vt is js tl):w.ownsRow w0.heap.size 4 1 vb m (boolsV (bitsL m js)):=h.own.get (i:=1) rfl
theorem RW.t(h:RW w0 w n m va vb vt is js tl):w.ownsRow w0.heap.size 3 1 vt n (intsV tl):=h.own.get (i:=2) rfl
theorem bFm {e:TypeId}{v:Value}{xs:List Value}{x:Nat}{u:Value}(h:w.ownsRow w0.heap.size e 1 v n xs)(a:xs[x]? = some u):∃g c,v=.slice (some ⟨g,0,none⟩) n c/\w.cell? ⟨g,x,none⟩=some u/\w.frozen? ⟨g,x,none⟩=false/\w0.heap.size<=g/\g<w.heap.size:=by
 have b:=h.1;have d:=(aj.1 a).1;rcases id h.2 with ⟨rfl,f⟩ | ⟨g,c,cur,rfl,_⟩
 ·exfalso;omega
 exact ⟨g,c,rfl,aDt h a,h.frozenAt x,h.lt g rfl⟩
theorem RW.at_a(h:RW w0 w n m va vb vt is js tl){x:Nat}(b:x<n):∃g c,va=.slice (some ⟨g,0,none⟩) n c/\w.cell? ⟨g,x,none⟩=some (.bool (decide (x∈is)))/\w.frozen? ⟨g,x,none⟩=false/\w0.heap.size<=g/\g<w.heap.size:=bFm h.a (aTn b)
theorem RW.at_b(h:RW w0 w n m va vb vt is js tl){x:Nat}(a:x<m):∃g c,vb=.slice (some ⟨g,0,none⟩) m c/\w.cell? ⟨g,x,none⟩=some (.bool (decide (x∈js)))/\w.frozen? ⟨g,x,none⟩=false/\w0.heap.size<=g/\g<w.heap.size:=bFm h.b (aTn a)
theorem RW.at_t(h:RW w0 w n m va vb vt is js tl){x:Nat}{u:Int}(a:(intsV tl)[x]? = some (.int .i64 u)):∃g c,vt=.slice (some ⟨g,0,none⟩) n c/\w.cell? ⟨g,x,none⟩=some (.int .i64 u)/\w.frozen? ⟨g,x,none⟩=false/\w0.heap.size<=g/\g<w.heap.size:=bFm h.t a
theorem RW.set_a {x:Nat}(h:RW w0 w n m (.slice (some ⟨g,0,none⟩) n c) vb vt is js tl) :
  RW w0 (w.setCell ⟨g,x,none⟩ (.bool false)) n m (.slice (some ⟨g,0,none⟩) n c) vb vt (is.filter fun k=>decide (k≠x)) js tl:=by
 have b:=fi h.a x (.bool false);rw[aUj] at b;exact ⟨h.bel.setCell (h.a.lt g rfl).1 _,Owns.turn (l1:=[]) (r':=⟨4,1,.slice (some ⟨g,0,none⟩) n c,n,_⟩) h.own b.2 b.1 (.inl rfl)⟩
theorem RW.set_b {x:Nat}(h:RW w0 w n m va (.slice (some ⟨g,0,none⟩) m c) vt is js tl) :
  RW w0 (w.setCell ⟨g,x,none⟩ (.bool false)) n m va (.slice (some ⟨g,0,none⟩) m c) vt is (js.filter fun k=>decide (k≠x)) tl:=by
 have a:=fi h.b x (.bool false);rw[aUj] at a;exact ⟨h.bel.setCell (h.b.lt g rfl).1 _,Owns.turn (l1:=[_]) (r':=⟨4,1,.slice (some ⟨g,0,none⟩) m c,m,_⟩) h.own a.2 a.1 (.inl rfl)⟩
theorem RW.set_t {x:Nat}{u:Int}{a:List Int}(h:RW w0 w n m va vb (.slice (some ⟨g,0,none⟩) n c) is js tl)(d:(intsV tl).set x (.int .i64 u)=intsV a) :
  RW w0 (w.setCell ⟨g,x,none⟩ (.int .i64 u)) n m va vb (.slice (some ⟨g,0,none⟩) n c) is js a:=by
 have b:=fi h.t x (.int .i64 u);rw[d] at b;exact ⟨h.bel.setCell (h.t.lt g rfl).1 _,Owns.turn (l1:=[_,_]) (r':=⟨3,1,.slice (some ⟨g,0,none⟩) n c,n,_⟩) h.own b.2 b.1 (.inl rfl)⟩
end
def isTrue:Option Value->Bool
 | some (.bool true)=>true
 | _=>false
def cntV (v:Value)(n:Nat)(w:World):Nat:=match v with
 | .slice (some a) _ _=>((List.range n).filter fun x=>isTrue (w.cell? ⟨a.block,x,none⟩)).length
 | _=>0
def cnt (n:Nat)(is:List Nat):Nat:=((List.range n).filter fun x=>decide (x∈is)).length
theorem bJa {x:Nat}(a:x∈is)(b:x<n):cnt n (is.filter fun k=>decide (k≠x))<cnt n is:=by
 unfold cnt
 have e:((List.range n).filter fun z=>decide (z∈is.filter fun k=>decide (k≠x)))=((List.range n).filter fun z=>decide (z∈is)).filter fun z=>decide (z≠x):=by
  rw[lh];refine dJ fun z _=>?_;by_cases c:z∈is<;>by_cases d:z=x<;>simp[aX,c,d]
 rw[e];exact gE.2 ⟨x,by simp[aX,a,b],by simp⟩
theorem RW.cnt {w0:World}{vt:Value}{tl:List Int}(h:RW w0 w n m va vb vt is js tl):cntV va n w=cnt n is:=by
 unfold Go.Proofs.YtohblmepajhpaaaGreatDoor.cnt;rcases cV n with rfl | d
 ·cases va<;>simp[cntV]
  rename_i a _ _
  cases a<;>simp[]
 obtain ⟨g,c,rfl,_⟩:=h.at_a d;show ((List.range n).filter fun x=>isTrue (w.cell? ⟨g,x,none⟩)).length=_;congr 1;refine dJ fun x f=>?_;obtain ⟨_,_,e,b,_⟩:=h.at_a (bL.1 f)
 cases e
 rw[b]
 cases i:decide (x∈is)<;>rfl
theorem bEg(h:i<n):(intsV (toL n ps i))[i]? = some (.int .i64 0):=by
 simp[intsV,toL,h]
theorem bJh(n:Nat):intsV (toL n [] 0)=List.replicate n (.int .i64 0):=by
 refine cR (by simp[intsV,toL]) fun j a b=>?_;simp[intsV,toL]
def InS (base side:List FV)(i k:Nat)(is js:List Nat)(ps:List (Nat×Nat)) (js':List Nat) (ps':List (Nat×Nat)):Prop:=
 (js'=js/\ps'=ps/\∀j∈js,j<k->textAt side j≠textAt base i)\/
 ∃j,i∈is/\j∈js/\j<k/\textAt side j=textAt base i/\(∀y∈js,y<j->textAt side y≠textAt base i)/\js'=js.filter (fun k=>decide (k≠j))/\ps'=ps++[(i,j)]
theorem bCn {c a e:World}{f h:List Bool}{v z:List Nat}(ha:f=bitsL n v)(D:h=bitsL m z)(j:f.length=n)(k:h.length=m)
  (l:c.ownsRow w.heap.size 4 1 va f.length (boolsV f)) (o:Below w.heap.size w c) (p:a.ownsRow c.heap.size 4 1 vb h.length (boolsV h)) (q:Below c.heap.size c a)
  (t:g=a.heap.size) (E:e.ownsRow w.heap.size 3 1 (.slice (some ⟨g,0,none⟩) n n) n (List.replicate n (.int .i64 0))) (F:a.grownBy e none) :
  RW w e n m va vb (.slice (some ⟨g,0,none⟩) n n) v z (toL n [] 0):=by
 subst ha D;rw[j] at l;rw[k] at p;have b:Below a.heap.size a e:=(Below.refl _ _).grown F (aa _) (fun g t=>by cases t);have d:Below w.heap.size w a:=o.trans (q.mono o.size);have A:=aAf (aAf l q) b;have B:=aAf (aBp p o.size) b;refine ⟨d.trans (b.mono d.size),⟨fun r u=>?_,?_⟩⟩
 ·simp only[ax,mI,iw] at u
  rcases u with rfl | rfl | rfl
  ·exact A
  ·exact B
  rw[bJh];exact E
 have C:(Value.slice (some ⟨g,0,none⟩) n n).ownBlock=some g:=rfl;simp only[dT,List.filterMap_nil,C];have q1:∀x,va.ownBlock=some x->x<c.heap.size:=fun x i=>(l.lt x i).2;have q2:∀x,vb.ownBlock=some x->c.heap.size<=x/\x<a.heap.size:=fun x i=>p.lt x i;have H:=q.size
 cases G:va.ownBlock with
 | none=>
  cases s:vb.ownBlock with
  | none=>simp
  | some y=>have:=q2 y s;simp;omega
 | some x=>
  have I:=q1 x G
  cases s:vb.ownBlock with
  | none=>simp;omega
  | some y=>have:=q2 y s;simp;omega
theorem aHb {l:List FV}(h:l[i]? = some f):textAt l i=f.text:=by unfold textAt;rw[h];rfl
theorem RW.drew {w0:World}{vt:Value}{tl:List Int}(h:RW w0 w n m va vb vt is js tl):RW w0 w.drew n m va vb vt is js tl:=⟨h.bel.drew,h.own.drew⟩
theorem bBx(h:¬lookI ps k<0):∃j:Nat,(k,j)∈ps/\lookI ps k=(j:Int):=by
 unfold lookI at h ⊢
 cases a:ps.find? (fun p=>decide (p.1=k)) with
 | none=>rw[a] at h;exact absurd (by decide) h
 | some p=>
  have b:=fU a;have c:=cH a;obtain ⟨x,y⟩:=p;have:x=k:=by simpa using b
  subst this;exact ⟨y,c,rfl⟩
def renV (r:ByteArray×ByteArray):List Value:=[.string r.1,.string r.2]
theorem aSu(l:List (ByteArray×ByteArray)):∀u∈l.flatMap renV,u.oneCell'=true:=by
 intro u a;obtain ⟨f,_,a⟩:=dF.1 a;simp only[renV,ax,d7,iw] at a;rcases a with rfl | rfl<;>rfl
theorem bGr {B l:Nat}{xs:List (ByteArray×ByteArray)}(h:Rd w B 2 A n c (xs.flatMap renV))(a:l<=k)(b:k<=n) :
  ∃A',sliced A l k c 2=.slice A' (k-l) (c-l)/\Rd w B 2 A' (k-l) (c-l) (((xs.take k).drop l).flatMap renV):=by
 refine ⟨_,rfl,?_⟩;have:=h.cut a b;rw[T.flat_take (f:=renV) (sz:=2) (fun _=>rfl),T.flat_drop (f:=renV) (sz:=2) (fun _=>rfl)] at this;exact this
def RenAre (L:List (ByteArray×ByteArray))(w:World)(e:Ending) (w':World):Prop:=∃v,e=.returned v/\w'.ownsRow w.heap.size 132 2 v L.length (L.flatMap renV)/\Below w.heap.size w w'
theorem aLq {B:Option Addr}{ca cb:Nat}(hn:n<=100000)(hm:m<=100000)(ha:RdF w w.heap.size A n ca base)(hb:RdF w w.heap.size B m cb side)
  (nJ:∀f∈base,f.text.size<=1000000) (nk:∀f∈side,f.text.size<=1000000) (hR:Rise base) :
  Calls prog 42 #[.slice A n ca,.slice B m cb] w (RenAre (renF base side) w):=by
 have HL:Hid (base.length=n):=hid ha.len;have nK:Hid (side.length=m):=hid hb.len;have pj:=hid hR;have pm:=hid nJ;have pn:=hid nk;clear hR nJ nk;have K1:=aUw hn hm ha hb;have po:=hid (show 8*n<=281474976710656 by omega);have pq:=hid (show n<=maxLen by simp only[maxLen];omega);go_enter Tryz.func42,Tryz.ntmps42;go_wp2_with fail;refine K1.mono ?_;rintro e w1 ⟨va,rfl,oa,nB⟩;have K2:=aUw hm hn (hb.to nB nB.size) (ha.to nB nB.size);go_wp2_with fail;refine K2.mono ?_;rintro e w2 ⟨vb,rfl,ob,D⟩;have nz:w.heap.size<=w2.heap.size:=aw nB.size D.size;go_wp2_with (at_make;refine aFv rfl (.tmp 28) (.tmp 28) 36 rfl E64 w.heap.size n rfl rfl rfl rfl po.out pq.out nz ?_;intro w3 o3 o6);have H0:=bCn (aQb base side) (aQb side base) (aTs _ _) (aTs _ _) oa nB ob D rfl (by rw[HL.out];exact o3) o6;rw[HL.out,nK.out] at H0;have pr:=hid H0;have pF:w.heap.size<=w2.heap.size:=nz;clear H0 oa ob nB D o3 o6 nz K1 K2;generalize w2.heap.size=gt at *;go_loopw[8] (fun iv wr=>∃(i:Nat) (is js:List Nat) (ps:List (Nat×Nat)),i<=n/\iv=.int .i64 i/\Hid (RW w wr n m va vb (.slice (some ⟨gt,0,none⟩) n n) is js (toL n ps i))/\Hid (P1 base side i is js ps)) (fun iv _=>n-(intOf iv).toNat)
 case atStart=>exact ⟨0,_,_,_,al _,rfl,pr,hid (P1.start base side)⟩
 obtain ⟨i,is,js,ps,hi,rfl,c,V⟩:=hrel;by_cases G:i<n
 ·obtain ⟨_,_,e1,q0,q1,_⟩:=c.out.at_t (bEg G)
  cases e1
  have nL:=hid (c.out.set_t (bKe V.out.key));clear c;go_wp2;generalize wr.setCell ⟨gt,i,none⟩ (.int .i64 (-1))=ws at *;clear q0 q1;go_loopw[9] (fun kv wk=>∃(k:Nat) (Y:List Nat) (Z:List (Nat×Nat)),k<=m/\kv=.int .i64 k/\Hid (RW w wk n m va vb (.slice (some ⟨gt,0,none⟩) n n) is Y (toL n Z (i+1)))/\Hid (InS base side i k is js ps Y Z)) (fun kv _=>m-(intOf kv).toNat)
  case atStart=>exact ⟨0,_,_,al _,rfl,nL,hid (.inl ⟨rfl,rfl,fun _ _ h=>by omega⟩)⟩
  obtain ⟨k,Y,Z,hk,rfl,c,HI⟩:=hrel;obtain ⟨_,_,e9,c0,c1,_⟩:=c.out.at_t (aXl (ps:=Z) G (de i))
  cases e9
  by_cases nF:i∈is
  ·obtain ⟨ga,oP,rfl,a0,a1,_⟩:=c.out.at_a G
   rw[aq nF] at a0;rcases HI.out with ⟨e1,e2,h3⟩ | ⟨j,h1,h2,h3,h4,h5,e1,e2⟩
   ·subst e1 e2
    rw[aKi V.out.key] at c0;by_cases nT:k<m
    ·obtain ⟨gb,o8,rfl,b0,b1,_⟩:=c.out.at_b nT
     by_cases nU:k∈Y
     ·rw[aq nU] at b0
      obtain ⟨bs,os,f,rfl,H,ns,_,_,_,s2⟩:=hb.get nT;obtain ⟨bt,ot,g,rfl,nJ,ff,_,_,_,t2⟩:=ha.get G;replace s2:=(c.out.bel.cell (p:=⟨bs,os+k*3+2,none⟩) (by show bs<_;omega)).trans s2;replace t2:=(c.out.bel.cell (p:=⟨bt,ot+i*3+2,none⟩) (by show bt<_;omega)).trans t2;have nW:=hid (aHb ns);have nX:=hid (aHb ff);have S:=hid c.out.drew;go_wp2;refine aAe (fun w'=>w'=wr.drew) (qs 17) mixed κ rfl ?_;intro Tp M Q K E I R;have m0:M ⟨gb,k,none⟩=some (.bool true):=I _ _ fun w' P=>(by subst P;exact b0);have m1:M ⟨bs,os+k*3+2,none⟩=some (.string f.text):=I _ _ fun w' P=>(by subst P;exact s2);have m2:M ⟨bt,ot+i*3+2,none⟩=some (.string g.text):=I _ _ fun w' P=>(by subst P;exact t2);simp only[qcmp];generalize f.text=ft at *;generalize g.text=nS at *;by_cases hq:ft=nS
      ·have e1:(ft.toList == nS.toList)=true:=by rw[hq];exact aW _
       simp (maxSteps:=9^7) only[↓qpre,aAb,aAg,aAc,m0,m1,m2];(repeat refine And.intro (by first|omega|(unfold inI64;omega)) ?_);refine R _ _ ?_;clear R K E I m0 m1 m2 e1;have e2:decide (ft=nS)=true:=aq hq;simp only[e2];clear e2;have nj:=hid (c.out.set_t (aZy (j:=k) V.out.key (de i)));obtain ⟨_,_,eb,d0,d1,_⟩:=nj.out.at_b nT
       cases eb
       rw[aq nU] at d0;have pt:=hid (nj.out.set_b (x:=k)).drew
       have nM:=hid (show InS base side i (k+1) is Y Z (Y.filter fun y=>decide (y≠k)) (Z++[(i,k)]) from
        .inr ⟨k,nF,nU,de k,by rw[nW.out,nX.out,hq],h3,rfl,rfl⟩)
       clear h3 HI S nj b0 b1 a0 a1 s2 t2 c ns ff nW nX;go_wp2;go_roundw
       case rel=>exact ⟨k+1,_,_,ω,by go_num,pt,nM⟩
       simp[intOf];omega
      have e1:(ft.toList == nS.toList)=false:=aBi hq;simp (maxSteps:=9^7) only[↓qpre,aAb,aAg,aAc,m0,m1,m2];(repeat refine And.intro (by first|omega|(unfold inI64;omega)) ?_);refine R _ _ ?_;clear R K E I m0 m1 m2 e1;have e2:decide (ft=nS)=false:=ak hq;simp only[e2];clear e2
      have nM:=hid (show InS base side i (k+1) is Y Z Y Z from .inl ⟨rfl,rfl,fun y hy J=>by
       by_cases e:y=k
       ·subst e;rw[nW.out,nX.out];exact hq
       exact h3 y hy ω⟩)
      clear h3 HI b0 b1 c0 c1 a0 a1 s2 t2 c ns ff nW nX hq;go_wp2;go_roundw
      case rel=>exact ⟨k+1,_,_,ω,by go_num,S,nM⟩
      simp[intOf];omega
     rw[ak nU] at b0
     have nM:=hid (show InS base side i (k+1) is Y Z Y Z from .inl ⟨rfl,rfl,fun y hy J=>h3 y hy (by
      have:y≠k:=fun e=>nU (e▸hy);omega)⟩)
     clear h3;have S:=hid c.out.drew;go_wp2;refine aAe (fun w'=>w'=wr.drew) (qs 17) mixed κ rfl ?_;intro Tp M Q K E I R;have m0:M ⟨gb,k,none⟩=some (.bool false):=I _ _ fun w' P=>(by subst P;exact b0);simp only[qcmp];simp (maxSteps:=9^7) only[↓qpre,aAb,aAg,aAc,m0];(repeat refine And.intro (by first|omega|(unfold inI64;omega)) ?_);refine R _ _ ?_;clear R K E I m0;go_wp2;go_roundw
     case rel=>exact ⟨k+1,_,_,ω,by go_num,S,nM⟩
     simp[intOf];omega
    have X:=hid (V.out.skip (by rw[HL.out];exact G) nF (fun y hy=>h3 y hy (by have:=V.out.lt2 y hy;have:=nK.out;omega)));clear h3 HI;go_wp2;go_roundw
    case rel=>exact ⟨i+1,_,_,_,ω,by go_num,c,X⟩
    simp[intOf];omega
   subst e1 e2;rw[aRb V.out.key,ao rfl] at c0;have X:=hid (V.out.take (by rw[HL.out];exact G) nF h2 h4 h5);have S:=hid (c.out.set_a (x:=i));clear h5 HI h1 h2 h4;by_cases nT:k<m
   ·go_wp2
    go_roundw
    case rel=>exact ⟨i+1,_,_,_,ω,by go_num,S,X⟩
    simp[intOf];omega
   go_wp2;go_roundw
   case rel=>exact ⟨i+1,_,_,_,ω,by go_num,S,X⟩
   simp[intOf];omega
  rcases HI.out with ⟨e1,e2,h3⟩ | ⟨j,h1,_⟩
  ·subst e1 e2
   rw[aKi V.out.key] at c0;have X:=hid (V.out.pass (by rw[HL.out];exact G) nF);clear h3 HI;by_cases nT:k<m
   ·obtain ⟨ga,oP,rfl,a0,a1,_⟩:=c.out.at_a G
    rw[ak nF] at a0;go_wp2;go_roundw
    case rel=>exact ⟨i+1,_,_,_,ω,by go_num,c,X⟩
    simp[intOf];omega
   go_wp2;go_roundw
   case rel=>exact ⟨i+1,_,_,_,ω,by go_num,c,X⟩
   simp[intOf];omega
  exact absurd h1 nF
 obtain rfl:i=n:=ω;have X:Hid (P2 base side is js ps):=hid (P1.next (by rw[HL.out];exact V.out));clear V;go_wp2;go_loopw[10] (fun mv wk=>∃(is js:List Nat) (ps:List (Nat×Nat)) (d:Bool),mv=.bool d/\Hid (RW w wk i m va vb (.slice (some ⟨gt,0,none⟩) i i) is js (toL i ps i))/\Hid (P2 base side is js ps)/\(d=false->Hid (pairsF base side=ps))) (fun mv wk=>cntV va i wk+(match mv with | .bool true=>1 | _=>0))
 case atStart=>exact ⟨is,js,ps,true,rfl,c,X,fun h=>by cases h⟩
 clear c X;obtain ⟨is,js,ps,d,rfl,c,V,HD⟩:=hrel
 cases d with
 | false=>
  have HE:=HD rfl;clear HD V;go_wp2;go_loopw[17,18] (fun ov kv wk=>∃k:Nat,k<=i/\kv=.int .i64 k/\Hid (RW w wk i m va vb (.slice (some ⟨gt,0,none⟩) i i) is js (toL i ps i))/\Hid (wk.ownsRow w.heap.size 132 2 ov (renL base side ps k).length ((renL base side ps k).flatMap renV))) (fun _ kv _=>i-(intOf kv).toNat)
  case atStart=>exact ⟨0,al _,rfl,c,hid (aA _ _ _ _)⟩
  clear c;obtain ⟨k,hk,rfl,c,HO⟩:=hrel;by_cases G:k<i
  ·obtain ⟨_,_,e9,c0,c1,_⟩:=c.out.at_t (aXl (ps:=ps) G G)
   cases e9
   have nk:=bEr base side ps k;by_cases nH:lookI ps k<0
   ·rw[ao nH,aR] at nk
    have nm:=hid nk;clear nk;generalize lookI ps k=z at *;go_wp2;go_roundw
    case rel=>exact ⟨k+1,ω,by go_num,c,by rw[nm.out];exact HO⟩
    simp[intOf];omega
   obtain ⟨j,hj,oQ⟩:=bBx nH;rw[ah nH,oQ,dL] at nk;rw[oQ] at c0;obtain ⟨f,g,hf,hg,_,_⟩:=bDr (a:=base) (b:=side) (q:=(k,j)) (by rw[HE.out];exact hj);have pu:j<m:=(by have:=(aj.1 hg).1;have e:=nK.out;omega);obtain ⟨bs,os,g',rfl,H,ns,_,s0,_,_⟩:=hb.get pu;obtain ⟨bt,ot,f',rfl,nJ,ff,_,nY,_,_⟩:=ha.get G;have oB:=c.out.bel.size;replace s0:=(c.out.bel.cell (p:=⟨bs,os+j*3,none⟩) (by show bs<_;omega)).trans s0;replace nY:=(c.out.bel.cell (p:=⟨bt,ot+k*3,none⟩) (by show bt<_;omega)).trans nY
   have nm:=hid (show renL base side ps (k+1)=renL base side ps k++[(f'.path,g'.path)] by
    rw[nk];unfold pathAt;rw[ns,ff];rfl)
   have oS:∀r∈renL base side ps k,r.1.data.toList<f'.path.data.toList:=by
    intro r hr;obtain ⟨j0,pD,e0⟩:=bKi hr;have oT:j0<base.length:=(by have:=HL.out;omega);have h9:=pj.out.lt pD (ac oT) ff;rw[e0,show pathAt base j0=base[j0].path by unfold pathAt;rw[ac oT];rfl];exact h9
   generalize f'.path=N at *;generalize g'.path=W at *;have ol:bs<wr.heap.size:=ω;have oq:bt<wr.heap.size:=ω;have ou:gt<wr.heap.size:=(c.out.t.lt gt rfl).2;clear nk nH oQ hj hf hg ns ff H nJ oB;go_wp2;refine aAv (fun v'=>Below wr.heap.size wr v') (.q 0 (.q 1 (.q 2 (.q 3 (.q 4 (.q 5 (.q 6 (.q 7 (.q 8 (.q 9 (.q 10 (.q 11 (.q 12 (.b 13 (.one 14 (.one 15 .leaf)))))))))))))))) mixed κ (Below.refl _ _).drew ?_;intro Tp M Q K E I R;have m0:M ⟨bs,os+j*3,none⟩=some (.string W):=I _ _ fun w' P=>(P.cell (p:=⟨bs,os+j*3,none⟩) ol).trans s0;have m1:M ⟨bt,ot+k*3,none⟩=some (.string N):=I _ _ fun w' P=>(P.cell (p:=⟨bt,ot+k*3,none⟩) oq).trans nY;have m2:M ⟨gt,k,none⟩=some (.int .i64 (j:Int)):=I _ _ fun w' P=>(P.cell (p:=⟨gt,k,none⟩) ou).trans c0;clear I;refine aCu ?_;intro O F;have t0:=F true 0;have t1:=F true 1;have t2:=F true 2;have t3:=F true 3;have t4:=F true 4;have t5:=F true 5;have t6:=F true 6;have t7:=F true 7;have t8:=F true 8;have t9:=F true 9;have oC:=F true 10;have nq:=F true 11;have oD:=F true 12;have oE:=F false 14;have oF:=F false 15;have oG:=F true 13;simp only[qcmp] at t0 t1 t2 t3 t4 t5 t6 t7 t8 t9 oC nq oD oG oE oF;clear F;simp (maxSteps:=9^7) only[↓wt_q,↓wt_b,t0,t1,t2,t3,t4,t5,t6,t7,t8,t9,oC,nq,oD,oG,↓qpre,aAb,aAg,aAc,m0,m1,m2];refine ⟨⟨ω,ω⟩,⟨ω,ω⟩,⟨ω,ω⟩,?_⟩;refine aCc rfl (fun w=>aPk _ _ w) ?_;simp (maxSteps:=9^7) only[↓aAn,oE,aAb,aAc]
   refine aQu (v:=.pointer (some ⟨wr.heap.size,0,none⟩)) (w':=wr.drew.alloc (.cells #[.string ⟨#[]⟩,.string ⟨#[]⟩] 132)) (fun p af g=>by
    unfold execOp;go_simp) ⟨K _ ((Below.refl _ _).drew.alloc (aa _) _),?_⟩
   simp (maxSteps:=9^7) only[↓aAn,oF,aAb,aAc];have nu:=au wr.drew (.cells #[.string ⟨#[]⟩,.string ⟨#[]⟩] 132);have oU:Below wr.heap.size wr (wr.drew.alloc (.cells #[.string ⟨#[]⟩,.string ⟨#[]⟩] 132)):=(Below.refl _ _).drew.alloc (aa _) _;generalize wr.drew.alloc (.cells #[.string ⟨#[]⟩,.string ⟨#[]⟩] 132)=wy at *;replace nu:wy.heap[wr.heap.size]? = some (.cells #[.string ⟨#[]⟩,.string ⟨#[]⟩] 132 (0,0)):=nu;have oV:=a8 wy wr.heap.size 0 _ _ (.string N) nu;have nZ:=a8 _ wr.heap.size 1 _ _ (.string W) oV;have oH:Below wr.heap.size wr ((wy.setCell ⟨wr.heap.size,0,none⟩ (.string N)).setCell ⟨wr.heap.size,1,none⟩ (.string W)):=(oU.setCell (aa _) _).setCell (aa _) _;refine aKs (u0:=.string N) (u1:=.string W) (b:=wr.heap.size) (o:=0) κ rfl rfl (by rw[ab nu];rfl) (by rw[ab nu];rfl) (aAk nu) (aAk nu) rfl rfl ⟨K _ oH,?_⟩;simp (maxSteps:=9^7) only[↓aCm,aAb];refine R _ _ ?_;have oI:=hid oH;have oW:Hid (((wy.setCell ⟨wr.heap.size,0,none⟩ (.string N)).setCell ⟨wr.heap.size,1,none⟩ (.string W)).cell? ⟨wr.heap.size,0,none⟩=some (.string N)):=(by rw[ab nZ];rfl);have pw:Hid (((wy.setCell ⟨wr.heap.size,0,none⟩ (.string N)).setCell ⟨wr.heap.size,1,none⟩ (.string W)).cell? ⟨wr.heap.size,1,none⟩=some (.string W)):=(by rw[ab nZ];rfl);have oX:wr.heap.size<((wy.setCell ⟨wr.heap.size,0,none⟩ (.string N)).setCell ⟨wr.heap.size,1,none⟩ (.string W)).heap.size:=aAa nZ;clear R K E oH oU nu oV nZ t0 t1 t2 t3 t4 t5 t6 t7 t8 t9 oC nq oD oG oE oF m0 m1 m2 Tp M Q;generalize (wy.setCell ⟨wr.heap.size,0,none⟩ (.string N)).setCell ⟨wr.heap.size,1,none⟩ (.string W)=wz at *
   have oJ:=hid (c.out.grow oI.out);have oK:=hid (aAf HO.out oI.out);have oY:w.heap.size<=wz.heap.size:=oJ.out.bel.size;have pG:=aRp base side ps k;have pz:=hid (show ∀r∈renL base side ps k,r.1.data.toList<N.data.toList from oS);clear oS;obtain ⟨A9,c9,rfl,pE⟩:=aAd oK.out;have n5:=hid (Rd.of_own oK.out pE);clear ol oq ou s0 nY c0 c1 HO c oI oK;generalize renL base side ps k=L at *;generalize wr.heap.size=gr at *;go_wp2;go_loopw[20] (fun qv wq=>qv=.int .i64 L.length/\wq=wz) (fun _ _=>0)
   case atStart=>exact ⟨rfl,rfl⟩
   obtain ⟨rfl,rfl⟩:=hrel;by_cases h0:L.length=0
   case' pos=>
    go_wp2;refine aAe (fun w'=>w'=wr.drew) (qs 13) mixed κ rfl ?_;intro Tp M Q K E I R;clear I;have d0:decide ((0:Int)<(L.length:Int))=false:=ak ω;simp only[qcmp];simp (maxSteps:=9^7) only[↓qpre,aAb,aAc,d0];refine R _ _ ?_;clear R K E d0 h0
   case' neg=>
    obtain ⟨r,hr⟩:∃r,L[L.length-1]? = some r:=⟨_,ac ω⟩;obtain ⟨b9,o9,e9,pI,oA⟩:=n5.out.at_ ω;subst e9;have ow:=(aQt r.1 N).trans (aq (pz.out r (aC hr)))
    have p9:wr.cell? ⟨b9,o9+(L.length-1)*2,none⟩=some (.string r.1):=by
     have:=oA ((L.length-1)*2) (.string r.1) (by
      have e:=T.flat_at (f:=renV) (sz:=2) (fun _=>rfl) hr (show 0<2 by omega);rw[dv] at e;rw[e];rfl)
     exact this
    clear hr oA;go_wp2;refine aAe (fun w'=>w'=wr.drew) (qs 13) mixed κ rfl ?_;intro Tp M Q K E I R;have m0:M ⟨b9,o9+(L.length-1)*2,none⟩=some (.string r.1):=I _ _ fun w' P=>(by subst P;exact p9);have m1:M ⟨gr,0,none⟩=some (.string N):=I _ _ fun w' P=>(by subst P;exact oW.out);clear I;have d0:decide ((0:Int)<(L.length:Int))=true:=aq ω;have d1:((L.length:Int)-1).toNat=L.length-1:=ω;simp only[qcmp];simp (maxSteps:=9^7) only[↓qpre,aAb,aAg,aAc,d0,d1,m0,m1,ow,ja];(repeat refine And.intro (by first|omega|(unfold inI64;omega)) ?_);refine R _ _ ?_;clear R K E d0 d1 m0 m1 ow p9 h0
   all_goals
    clear Tp M Q;go_wp2;refine aAv (fun v'=>Below wr.heap.size wr v') (.q 0 (.q 1 (.q 2 (.q 4 (.q 7 (.q 8 (.q 9 (.two 3 (.one 5 (.one 6 (.one 10 (.q 11 .leaf)))) 5 (.one 3 (.one 6 (.one 10 (.q 11 .leaf)))))))))))) mixed κ (Below.refl _ _).drew.drew ?_;intro Tp M Q K E I R;have m0:M ⟨gr,0,none⟩=some (.string N):=I _ _ fun w' P=>(P.cell (p:=⟨gr,0,none⟩) oX).trans oW.out;have m1:M ⟨gr,1,none⟩=some (.string W):=I _ _ fun w' P=>(P.cell (p:=⟨gr,1,none⟩) oX).trans pw.out;clear I;refine aCu ?_;intro O F;have t0:=F true 0;have t1:=F true 1;have t2:=F true 2;have t4:=F true 4;have t7:=F true 7;have t8:=F true 8;have t9:=F true 9;have nq:=F true 11;have e3:=F false 3;have e5:=F false 5;have e6:=F false 6;have nN:=F false 10;simp only[qcmp] at t0 t1 t2 t4 t7 t8 t9 nq e3 e5 e6 nN;clear F;simp (maxSteps:=9^7) only[↓wt_q,↓aBe,t0,t1,t2,t4,t7,t8,t9,e3,e5,↓qpre,aAb,aAg,aAc,m0,m1];clear t0 t1 t2 t4 t7 t8 t9 m0 m1;have oL:=n5.out.drew.drew;have nI:Below wr.heap.size wr wr.drew.drew:=(Below.refl _ _).drew.drew;generalize wr.drew.drew=w1 at *;obtain ⟨A1,q1,r1⟩:=bGr oL (l:=0) (k:=L.length) (al _) (aa _);obtain ⟨A2,q2,r2⟩:=bGr oL (l:=L.length) (k:=L.length) (aa _) (aa _);rw[q1,q2];rw[ai (aa _)] at r1 r2;rw[fh,fB] at r1;rw[eP] at r2;clear q1 q2 oL;have H:=nI.size;simp only[fh];have oz:∀u∈[Value.string N,.string W],u.oneCell'=true:=(by intro u hu;simp at hu;rcases hu with rfl | rfl<;>rfl);refine ⟨⟨ω,ω⟩,⟨ω,ω⟩,?_,?_⟩
    ·refine aAo aHs (base:=wr.heap.size) (n:=0) (xs:=[]) rfl rfl (aA _ _ _ _) r1 (aSu _) (by simp only[maxLen];omega) ω H ?_
     intro v1 w2 oR nC _;rw[aO,aT] at oR;have D:=nI.grown nC H (fun g hg=>by cases hg);replace r2:=r2.below (aFl (w:=w1) (w':=w2) nC |>.mono H);refine ⟨K _ D,?_⟩;simp (maxSteps:=9^7) only[↓aAn,e5,aAb,aAc];refine T.eff_lits (aGq aHs (.string N) (.string W) _) rfl ⟨K _ (D.alloc D.size _),?_⟩;have C:=oR.alloc (.cells #[.string N,.string W] 132);have hv:=aXs w2 w2.heap.size N W rfl;have s:=D.alloc D.size (.cells #[.string N,.string W] 132);replace r2:=r2.below ((Below.refl w2.heap.size w2).alloc (aa _) (.cells #[.string N,.string W] 132) |>.mono D.size);clear oR nC D r1 nI H;simp (maxSteps:=9^7) only[↓aAn,e6,aAb,aAc];generalize w2.alloc (.cells #[.string N,.string W] 132)=w3 at *;refine aAo aHs (base:=wr.heap.size) (n:=L.length) rfl rfl C hv oz (by simp only[maxLen];omega) ω s.size ?_;intro v4 w4 nD nE _;have U:=s.grown nE s.size (fun g hg=>(C.lt g hg).1);replace r2:=r2.grown nE s.size (fun g hg=>(C.lt g hg).1);refine ⟨K _ U,?_⟩;simp (maxSteps:=9^7) only[↓aAn,nN,aAb,aAc];refine aAo aHs (base:=wr.heap.size) (n:=L.length+1) rfl rfl nD r2 (aSu _) (by simp only[maxLen];omega) ω U.size ?_;intro v5 w5 nQ nR _;have nA:=U.grown nR U.size (fun g hg=>(nD.lt g hg).1);refine ⟨K _ nA,?_⟩;simp (maxSteps:=9^7) only[↓aCm,↓wt_q,nq,↓qpre,aAb,aAc];refine R _ _ ?_;clear C hv s nD nE U r2 nR;have HB:=hid nA;have HO:=hid nQ;clear R K E nq e3 e5 e6 nN nA nQ;have oM:=hid (oJ.out.grow HB.out)
     have oN:=hid (show w5.ownsRow w.heap.size 132 2 v5 (renL base side ps (k+1)).length ((renL base side ps (k+1)).flatMap renV) by
      rw[nm.out,ae,aJ];have h9:=aBp HO.out oY;simpa[renV] using h9)
     clear HB HO n5;go_wp2;go_roundw
     case rel=>exact ⟨k+1,ω,by go_num,oM,oN⟩
     simp[intOf];omega
    refine T.eff_lits (aGq aHs (.string N) (.string W) _) rfl ⟨K _ (nI.alloc H _),?_⟩;have oZ:=aXs w1 w1.heap.size N W rfl;have D:=nI.alloc H (.cells #[.string N,.string W] 132);replace r1:=r1.below ((Below.refl w1.heap.size w1).alloc (aa _) (.cells #[.string N,.string W] 132) |>.mono H);replace r2:=r2.below ((Below.refl w1.heap.size w1).alloc (aa _) (.cells #[.string N,.string W] 132) |>.mono H);simp (maxSteps:=9^7) only[↓aAn,e3,aAb,aAc];generalize w1.alloc (.cells #[.string N,.string W] 132)=w2 at *;have nG:=D.size;refine aAo aHs (base:=wr.heap.size) (n:=0) (xs:=[]) rfl rfl (aA _ _ _ _) r1 (aSu _) (by simp only[maxLen];omega) ω nG ?_;intro v1 w3 C nC _;rw[aO,aT] at C;have s:=D.grown nC nG (fun g hg=>by cases hg);have n7:=aFl (w:=w2) (w':=w3) nC;replace r2:=r2.below (n7.mono nG);have hv:=oZ.below n7;clear oZ nC D r1 nI H nG n7;refine ⟨K _ s,?_⟩;simp (maxSteps:=9^7) only[↓aAn,e6,aAb,aAc];refine aAo aHs (base:=wr.heap.size) (n:=L.length) rfl rfl C hv oz (by simp only[maxLen];omega) ω s.size ?_;intro v4 w4 nD nE _;have U:=s.grown nE s.size (fun g hg=>(C.lt g hg).1);replace r2:=r2.grown nE s.size (fun g hg=>(C.lt g hg).1);refine ⟨K _ U,?_⟩;simp (maxSteps:=9^7) only[↓aAn,nN,aAb,aAc];refine aAo aHs (base:=wr.heap.size) (n:=L.length+1) rfl rfl nD r2 (aSu _) (by simp only[maxLen];omega) ω U.size ?_;intro v5 w5 nQ nR _;have nA:=U.grown nR U.size (fun g hg=>(nD.lt g hg).1);refine ⟨K _ nA,?_⟩;simp (maxSteps:=9^7) only[↓aCm,↓wt_q,nq,↓qpre,aAb,aAc];refine R _ _ ?_;clear C hv s nD nE U r2 nR
    have HB:=hid nA;have HO:=hid nQ;clear R K E nq e3 e5 e6 nN nA nQ;have oM:=hid (oJ.out.grow HB.out)
    have oN:=hid (show w5.ownsRow w.heap.size 132 2 v5 (renL base side ps (k+1)).length ((renL base side ps (k+1)).flatMap renV) by
     rw[nm.out,ae,aJ];have h9:=aBp HO.out oY;simpa[renV] using h9)
    clear HB HO n5;go_wp2;go_roundw
    case rel=>exact ⟨k+1,ω,by go_num,oM,oN⟩
    simp[intOf];omega
  obtain rfl:k=i:=ω;go_wp2;go_ret;refine ⟨_,rfl,?_,c.out.bel⟩;have e:renF base side=renL base side ps k:=by unfold renF;rw[HE.out,HL.out]
  rw[e];exact HO.out
 | true=>
  clear HD;have HC:=hid c.out.cnt;go_wp2;go_loopw[11,12,13,14] (fun bv xv yv kv wk=>∃(k:Nat) (xi yi mo:Int),k<=i/\kv=.int .i64 k/\bv=.int .i64 mo/\xv=.int .i64 xi/\yv=.int .i64 yi/\Hid (RW w wk i m va vb (.slice (some ⟨gt,0,none⟩) i i) is js (toL i ps i))/\Hid (BestV (foldB base side (seenL is js k 0)) xi yi mo)) (fun _ _ _ kv _=>i-(intOf kv).toNat)
  case atStart=>exact ⟨0,-1,-1,49,al _,rfl,rfl,rfl,rfl,c,hid (by rw[bCc];exact BestV.start base side)⟩
  clear c;obtain ⟨k,xi,yi,mo,hk,rfl,rfl,rfl,rfl,c,HM⟩:=hrel;by_cases G:k<i
  ·go_wp2
   go_loopw[11,12,13,15] (fun bv xv yv qv wk=>∃(q:Nat) (xi yi mo:Int),q<=m/\qv=.int .i64 q/\bv=.int .i64 mo/\xv=.int .i64 xi/\yv=.int .i64 yi/\Hid (RW w wk i m va vb (.slice (some ⟨gt,0,none⟩) i i) is js (toL i ps i))/\Hid (BestV (foldB base side (seenL is js k q)) xi yi mo)) (fun _ _ _ qv _=>m-(intOf qv).toNat)
   case atStart=>exact ⟨0,xi,yi,mo,al _,rfl,rfl,rfl,rfl,c,HM⟩
   clear c HM;obtain ⟨q,xi,yi,mo,hq,rfl,rfl,rfl,rfl,c,HM⟩:=hrel;by_cases J:q<m
   ·obtain ⟨ga,oP,rfl,a0,a1,pJ⟩:=c.out.at_a G
    obtain ⟨gb,o8,rfl,b0,b1,n7⟩:=c.out.at_b J;by_cases nV:k∈is
    ·by_cases oh:q∈js
     ·rw[aq nV] at a0
      rw[aq oh] at b0;have nm:=hid (bEf V.out.asc2 nV oh);obtain ⟨bs,os,f,rfl,H,ns,pa,_,_,s2⟩:=hb.get J;obtain ⟨bt,ot,g,rfl,nJ,ff,pc,_,_,t2⟩:=ha.get G;have oB:=c.out.bel.size;replace s2:=(c.out.bel.cell (p:=⟨bs,os+q*3+2,none⟩) (by show bs<_;omega)).trans s2;replace t2:=(c.out.bel.cell (p:=⟨bt,ot+k*3+2,none⟩) (by show bt<_;omega)).trans t2;have n8:=hid (show ratioF (textAt base k) (textAt side q)=ratioF g.text f.text by rw[aHb ns,aHb ff]);have KR:∀u,Below wr.heap.size wr u->Calls prog 85 #[.string g.text,.string f.text] u fun e w'=>e=.returned (.int .i64 (ratioF g.text f.text))/\Below u.heap.size u w':=fun u _=>bBb (pm.out g pc) (pn.out f pa);have pH:=aOb g.text f.text;generalize ratioF g.text f.text=r at *;generalize f.text=ft at *;generalize g.text=gx at *;go_wp2;refine aAe (fun w'=>Below wr.heap.size wr w') (qe [10] 12) mixed κ (Below.refl _ _).drew ?_;have od:Below wr.heap.size wr wr.drew:=(Below.refl _ _).drew;intro Tp M Q K E I R;have m1:M ⟨bs,os+q*3+2,none⟩=some (.string ft):=I _ _ fun w' P=>(P.cell (p:=⟨bs,os+q*3+2,none⟩) (by show bs<_;omega)).trans s2;have m2:M ⟨bt,ot+k*3+2,none⟩=some (.string gx):=I _ _ fun w' P=>(P.cell (p:=⟨bt,ot+k*3+2,none⟩) (by show bt<_;omega)).trans t2;simp only[qcmp,Nat.reduceBEq];simp (maxSteps:=9^7) only[↓qpre,aAb,aAg,aAc,m1,m2];(repeat refine And.intro (by first|omega|(unfold inI64;omega)) ?_);refine aAh κ (KR _ od) rfl rfl ?_;rintro e v1 ⟨rfl,pd⟩;have s:Below wr.heap.size wr v1:=od.trans (pd.mono od.size);refine ⟨_,rfl,K _ s,?_⟩;have nj:=hid (c.out.grow s)
      simp (maxSteps:=9^7) only[↓qpre,aAb,aAc];refine R _ _ ?_;clear R K E I m1 m2 KR pd s od c a0 a1 b0 b1 s2 t2 oB Tp M Q ns ff pa pc;by_cases pi:mo<r
      ·have nr:=hid (show BestV (foldB base side (seenL is js k (q+1))) k q r by rw[nm.out];exact HM.out.more n8.out pi)
       clear HM nm n8;go_wp2;go_roundw
       case rel=>exact ⟨q+1,_,_,_,ω,by go_num,rfl,rfl,rfl,nj,nr⟩
       simp[intOf];omega
      have nr:=hid (show BestV (foldB base side (seenL is js k (q+1))) xi yi mo by rw[nm.out];exact HM.out.same n8.out pi);clear HM nm n8;go_wp2;go_roundw
      case rel=>exact ⟨q+1,_,_,_,ω,by go_num,rfl,rfl,rfl,nj,nr⟩
      simp[intOf];omega
     rw[aq nV] at a0;rw[ak oh] at b0;have nr:=hid (show BestV (foldB base side (seenL is js k (q+1))) xi yi mo by rw[aVc (.inr oh)];exact HM.out);clear HM;go_wp2;go_roundw
     case rel=>exact ⟨q+1,_,_,_,ω,by go_num,rfl,rfl,rfl,c,nr⟩
     simp[intOf];omega
    rw[ak nV] at a0;have nr:=hid (show BestV (foldB base side (seenL is js k (q+1))) xi yi mo by rw[aVc (.inl nV)];exact HM.out);clear HM;go_wp2;go_roundw
    case rel=>exact ⟨q+1,_,_,_,ω,by go_num,rfl,rfl,rfl,c,nr⟩
    simp[intOf];omega
   obtain rfl:q=m:=ω;have nr:=hid (show BestV (foldB base side (seenL is js (k+1) 0)) xi yi mo by rw[<-bLa (m:=q) V.out.asc1 (by have:=V.out.lt2;have e:=nK.out;intro y hy;have:=this y hy;omega)];exact HM.out);clear HM;go_wp2;go_roundw
   case rel=>exact ⟨k+1,_,_,_,ω,by go_num,rfl,rfl,rfl,c,nr⟩
   simp[intOf];omega
  obtain rfl:k=i:=ω;have nw:∀x∈is,x<k:=by have:=V.out.lt1;have e:=HL.out;intro y hy;have:=this y hy;omega
  have J:∀y∈js,y<m:=by have:=V.out.lt2;have e:=nK.out;intro y hy;have:=this y hy;omega
  by_cases hx:xi<0
  ·have HD:=hid (V.out.done (HM.out.none_ nw hx))
   have oO:=hid c.out.cnt;clear HM nw J;go_wp2;go_roundw
   case rel=>exact ⟨is,js,ps,false,rfl,c,V,fun _=>HD⟩
   show cntV va k _+0<cntV va k _+1;rw[oO.out,HC.out];omega
  obtain ⟨x,y,pe,rfl,rfl⟩:=HM.out.some_ nw hx;obtain ⟨pg,oe,ph,_⟩:=V.out.more pe;have pA:=hid pg;have nO:=nw x oe;have pB:=J y ph;have nP:∀p∈ps,p.1≠x:=fun p hp e=>V.out.keys p hp (e▸oe);have pC:=hid (bJa oe nO);obtain ⟨_,_,e9,c0,c1,_⟩:=c.out.at_t (aXl (ps:=ps) nO nO)
  cases e9
  have nL:=hid (c.out.set_t (aZy (j:=y) nP nO));obtain ⟨ga,oP,rfl,a0,a1,_⟩:=nL.out.at_a nO;have S:=hid (nL.out.set_a (x:=x));obtain ⟨gb,o8,rfl,b0,b1,_⟩:=S.out.at_b pB;have nj:=hid (S.out.set_b (x:=y));have oO:=hid nj.out.cnt;clear HM nw J pg oe ph nP pe c nL S V;go_wp2;go_roundw
  case rel=>exact ⟨_,_,_,true,rfl,nj,pA,fun h=>by cases h⟩
  show cntV _ k _+1<cntV _ k _+1;rw[oO.out,HC.out];have:=pC.out;omega
theorem bAg(h:ps.Pairwise fun a b=>a.1≠b.1){x y:Nat}(f:(x,y)∈ps):lookI ps x=(y:Int):=by
 unfold lookI
 cases c:ps.find? (fun p=>decide (p.1=x)) with
 | none=>exact absurd (cL.1 c _ f) (by simp)
 | some p=>
  have d:p.1=x:=by simpa using fU c
  have g:=cH c;rcases aMm h g f with e | e | e
  ·rw[e]
  ·exact absurd d e
  exact absurd d.symm e
theorem bGh {x:Nat}:lookI ps x<0↔∀y,(x,y)∉ps:=by
 unfold lookI
 cases c:ps.find? (fun p=>decide (p.1=x)) with
 | none=>
  simp only[Int.reduceNeg,Int.reduceLT,true_iff];intro y f;exact absurd (cL.1 c _ f) (by simp)
 | some p=>
  have d:p.1=x:=by simpa using fU c
  have e:=cH c;obtain ⟨a,b⟩:=p;simp only at d;subst d;constructor
  ·intro h;simp at h;omega
  intro h;exact absurd e (h b)
theorem aIu {r:ByteArray×ByteArray}:r∈renF base side↔∃q∈pairsF base side,r=(pathAt base q.1,pathAt side q.2):=by
 have f:=aCv base side;have g:(pairsF base side).Pairwise fun a b=>a.1≠b.1:=f.one.imp fun h=>h.1;unfold renF renL;rw[cB];constructor
 ·rintro ⟨i,k,c⟩
  by_cases e:lookI (pairsF base side) i<0
  ·rw[ao e] at c;cases c
  rw[ah e] at c;injection c with c;subst c
  have:∃y,(i,y)∈pairsF base side:=by
   refine Classical.byContradiction fun h=>e (bGh.2 fun y d=>h ⟨y,d⟩)
  obtain ⟨y,d⟩:=this;refine ⟨(i,y),d,?_⟩;rw[bAg g d];rfl
 rintro ⟨⟨x,y⟩,j,rfl⟩;refine ⟨x,bL.2 (aCg (f.from_ _ j)),?_⟩;rw[bAg g j,ah O];rfl
def whereD (side:List FV)(L:List (ByteArray×ByteArray))(f:FV):Option FV:=
 (findP side f.path).or (L.findSome? fun r=>if r.1=f.path then findP side r.2 else none)
def addedD (base side:List FV)(L:List (ByteArray×ByteArray)):List FV:=
 side.filter fun f=>(findP base f.path).isNone && !(L.any fun r=>decide (r.2=f.path))
theorem bIz {l:List FV}(h:i<l.length):∃g,findP l (pathAt l i)=some g:=by
 cases b:findP l (pathAt l i) with
 | some g=>exact ⟨g,rfl⟩
 | none=>
  have a:=bAk (aKk.1 b) (fw h);refine absurd ?_ a;unfold pathAt;rw[ac h];rfl
theorem aTv(B:(base.map FV.path).Nodup)(f:FV):whereD side (renF base side) f=whereF base side f:=by
 have b:=aCv base side;unfold whereD whereF
 cases findP side f.path with
 | some x=>rfl
 | none=>
  rw[kD];show _=(movedF base side f.path).bind fun d=>findP side d
  cases j:movedF base side f.path with
  | none=>
   show _=none;rw[jo];intro r m;obtain ⟨q,i,rfl⟩:=aIu.1 m;rw[ah];intro e
   have:(pairsF base side).find? (fun x=>decide (((base[x.1]?).map FV.path)=some f.path))=none:=by
    unfold movedF at j
    cases k:(pairsF base side).find? (fun x=>decide (((base[x.1]?).map FV.path)=some f.path)) with
    | none=>rfl
    | some x=>
     rw[k] at j;have c:=cH k;have a:(side[x.2]?).map FV.path=none:=j;rw[aBx (aCg (b.into x c))] at a
     cases a
   have v:=cL.1 this q i;rw[aBx (aCg (b.from_ q i))] at v;exact v (aq (congrArg some e))
  | some d=>
   show _=findP side d;unfold movedF at j
   cases k:(pairsF base side).find? (fun x=>decide (((base[x.1]?).map FV.path)=some f.path)) with
   | none=>rw[k] at j;cases j
   | some x=>
    rw[k] at j;have c:=cH k;have a:(side[x.2]?).map FV.path=some d:=j;rw[aBx (aCg (b.into x c))] at a;injection a with a;have s:decide (((base[x.1]?).map FV.path)=some f.path)=true:=(by simpa using fU (p:=fun x:Nat×Nat=>decide (((base[x.1]?).map FV.path)=some f.path)) k);have i:=aP s;rw[aBx (aCg (b.from_ x c))] at i;injection i with i;obtain ⟨g,u⟩:=bIz (aCg (b.into x c));have t:findP side d=some g:=(by rw[<-a];exact u);rw[t]
    have l:∀r∈renF base side,(if r.1=f.path then findP side r.2 else none)=none\/(if r.1=f.path then findP side r.2 else none)=some g:=by
     intro r m;obtain ⟨q,n,rfl⟩:=aIu.1 m;by_cases e:pathAt base q.1=f.path
     ·right
      have w:q.1=x.1:=aPv B (aCg (b.from_ q n)) (aCg (b.from_ x c)) (e.trans i.symm)
      have A:q=x:=by
       rcases aMm b.one n c with h | h | h
       ·exact h
       ·exact absurd w h.1
       exact absurd w.symm h.1
      rw[ao e,A];exact u
     left;exact ah e
    cases z:(renF base side).findSome? (fun r=>if r.1=f.path then findP side r.2 else none) with
    | none=>
     have:=jo.1 z _ (aIu.2 ⟨x,c,rfl⟩);rw[ao i,u] at this;cases this
    | some y=>
     obtain ⟨r,m,o⟩:=List.exists_of_findSome?_eq_some z;rcases l r m with h | h
     ·rw[h] at o;cases o
     rw[h] at o;exact o.symm
theorem aTb(base side:List FV):addedD base side (renF base side)=addedF base side:=by
 have b:=aCv base side;unfold addedD addedF;refine dJ fun f _=>?_;congr 2;rw[ii,bZ,bZ];constructor
 ·rintro ⟨r,c,h⟩
  obtain ⟨q,a,rfl⟩:=aIu.1 c;refine ⟨q,a,?_⟩;rw[aBx (aCg (b.into q a))];exact aq (congrArg some (aP h))
 rintro ⟨q,a,h⟩;rw[aBx (aCg (b.into q a))] at h;have h:=aP h;injection h with h;exact ⟨_,aIu.2 ⟨q,a,rfl⟩,aq h⟩
def putD (m:List FV×List CL)(f:FV)(kind:Int):List FV×List CL:=
 if ((findP m.1 f.path).isSome || clashF m.1 f.path)=true then (m.1,m.2++[⟨f.path,5,f.text⟩])
 else (sortedIn m.1 f,if kind=0 then m.2 else m.2++[⟨f.path,kind,f.text⟩])
def sortM (m:List FV×List CL):List FV×List CL:=(sortF m.1,m.2)
theorem aXz(l:List FV)(f:FV):(sortedIn l f).Perm (f::l):=by
 unfold sortedIn;refine List.perm_middle.trans ?_;rw[dm]
theorem aPi:∀l:List FV,(sortF l).Perm l:=by
 have h:∀(l a:List FV),(l.foldl (fun a f=>sortedIn a f) a).Perm (a++l):=by
  intro l
  induction l with
  | nil=>intro a;simp
  | cons x l ih=>
   intro a;rw[bR];refine (ih _).trans ?_;refine ((aXz a x).append_right l).trans ?_;rw[aV];exact List.perm_middle.symm
 intro l;have:=h l [];simpa[sortF] using this
theorem bIi(l:List FV)(f:FV):((findP l f.path).isSome || clashF l f.path)=l.any fun x=>clashP x.p f.p:=by
 rw[ii,dt,bZ];unfold findP clashF;rw[List.find?_isSome,bZ];constructor
 ·rintro (⟨x,a,h⟩ | ⟨x,a,h⟩)
  ·refine ⟨x,a,?_⟩
   have e:x.p=f.p:=FV.p_inj.2 (aP h);unfold clashP;rw[e];simp
  rw[ay] at h;exact ⟨x,a,h.2⟩
 rintro ⟨x,a,h⟩;by_cases e:x.path=f.path
 ·exact .inl ⟨x,a,aq e⟩
 refine .inr ⟨x,a,?_⟩;rw[ak e];exact h
theorem aKq(m:List FV×List CL)(f:FV)(kind:Int):putD (sortM m) f kind=sortM (putM m f kind):=by
 unfold putD putM sortM;simp only;rw[bIi]
 have e:((sortF m.1).any fun x=>clashP x.p f.p)=m.1.any fun x=>clashP x.p f.p:=by
  rw[ii,bZ,bZ];constructor
  ·rintro ⟨x,a,h⟩;exact ⟨x,(aPi m.1).mem_iff.1 a,h⟩
  rintro ⟨x,a,h⟩;exact ⟨x,(aPi m.1).mem_iff.2 a,h⟩
 rw[e];split
 ·rfl
 simp only;rw[show sortF (m.1++[f])=sortedIn (sortF m.1) f by unfold sortF;rw[cJ];rfl]
def bothD (m:List FV×List CL)(f o t:FV):List FV×List CL:=
 let path:=if o.path=f.path then t.path else o.path
 let kind:Int:=if o.path=f.path then 0 else if t.path≠f.path/\t.path≠o.path then 4 else 0
 let exec:=if o.exec=f.exec then t.exec else o.exec
 let r:=merge3F f.text o.text t.text
 putD m ⟨path,exec,r.1⟩ (if r.2=false/\kind=0 then 1 else kind)
def keptD (wa wb:FV->Option FV)(m:List FV×List CL)(f:FV):List FV×List CL:=
 match wa f,wb f with
 | some x,some y=>bothD m f x y
 | some x,none=>if f=x then m else putD m x 3
 | none,some y=>if f=y then m else putD m y 3
 | none,none=>m
def addOneD (theirs:List FV)(m:List FV×List CL)(x:FV):List FV×List CL:=
 match findP theirs x.path with
 | none=>putD m x 0
 | some y=>if y=x then putD m x 0 else putD m ⟨x.path,x.exec,(merge3F ⟨#[]⟩ x.text y.text).1⟩ 2
def addTwoD (ours:List FV)(m:List FV×List CL)(y:FV):List FV×List CL:=if (findP ours y.path).isNone=true then putD m y 0 else m
theorem bKr(m:List FV×List CL)(f o t:FV):bothD (sortM m) f o t=sortM (bothM m f o t):=by
 unfold bothD bothM;exact aKq _ _ _
theorem bIw {a b:List FV}{wa wb:FV->Option FV}(m:List FV×List CL)(f:FV)(ha:wa f=whereF base a f)(c:wb f=whereF base b f):keptD wa wb (sortM m) f=sortM (keptM base a b m f):=by
 unfold keptD keptM;rw[ha,c]
 cases whereF base a f with
 | none=>
  cases whereF base b f with
  | none=>rfl
  | some y=>
   simp only[eq_comm (a:=f) (b:=y)];split
   ·rfl
   exact aKq _ _ _
 | some x=>
  cases whereF base b f with
  | none=>
   simp only[eq_comm (a:=f) (b:=x)];split
   ·rfl
   exact aKq _ _ _
  | some y=>exact bKr _ _ _ _
theorem bBo(c:List FV)(m:List FV×List CL)(x:FV):addOneD c (sortM m) x=sortM (addOne c m x):=by
 unfold addOneD addOne
 cases findP c x.path with
 | none=>exact aKq _ _ _
 | some y=>
  simp only[eq_comm (a:=y) (b:=x)];split<;>exact aKq _ _ _
theorem foldD {α:Type}{F G:List FV×List CL->α->List FV×List CL}:∀(l:List α),(∀m,∀x∈l,F (sortM m) x=sortM (G m x))->∀m,l.foldl F (sortM m)=sortM (l.foldl G m)
 | [],_,_=>rfl
 | x::l,h,m=>by
  rw[bR,bR,h m x bu];exact foldD l (fun m y a=>h m y (am _ a)) _
theorem aIg(a:List FV):∀(l:List FV) (m:List FV×List CL),l.foldl (addTwoD a) (sortM m)=sortM ((l.filter fun y=>(findP a y.path).isNone).foldl (fun m y=>putM m y 0) m)
 | [],_=>rfl
 | y::l,m=>by
  rw[bR,dG];unfold addTwoD;by_cases h:(findP a y.path).isNone=true
  ·rw[ao h,ao h,bR,aKq]
   exact aIg a l _
  rw[ah h,ah h];exact aIg a l _
def wholeD (base:List FV)(wa wb:FV->Option FV)(ours theirs:List FV):List FV×List CL:=
 theirs.foldl (addTwoD ours) (ours.foldl (addOneD theirs) (base.foldl (keptD wa wb) ([],[])))
theorem bHw {a b:List FV}{wa wb:FV->Option FV}(ha:∀f,wa f=whereF base a f)(c:∀f,wb f=whereF base b f) :
  wholeD base wa wb (addedF base a) (addedF base b)=sortM (wholeF base a b):=by
 unfold wholeD wholeF addM;rw[show (([],[]):List FV×List CL)=sortM ([],[]) from rfl];rw[foldD base (fun m f _=>bIw m f (ha f) (c f))];rw[foldD (addedF base a) (fun m x _=>bBo _ m x),aIg];rfl
def insC (out:List CL)(c:CL):List CL:=out.takeWhile (fun x=>decide (x.path.data.toList<=c.path.data.toList))++c::out.dropWhile (fun x=>decide (x.path.data.toList<=c.path.data.toList))
def UpC (l:List CL):Prop:=l.Pairwise fun a b=>a.path.data.toList<=b.path.data.toList
theorem bNc {a b c:Bs}(h:a<=b)(k:b<=c):a<=c:=by
 rcases Classical.em (a<=c) with d | d
 ·exact d
 exact absurd (List.lt_of_le_of_lt k (kE.1 d)) (fun e=>absurd h (kE.2 e))
theorem aZe {a:List CL}{c:CL}(h:UpC a)(q:k<=a.length)(n:∀x,(j:0<k)->a[k-1]? = some x->x.path.data.toList<=c.path.data.toList)(o:∀x,a[k]? = some x->c.path.data.toList<x.path.data.toList) :
  insC a c=a.take k++c::a.drop k:=by
 have f:∀x∈a.take k,decide (x.path.data.toList<=c.path.data.toList)=true:=by
  intro x d;obtain ⟨i,m,rfl⟩:=bn d;rw[aE] at m;rw[fg];have j:0<k:=O;have b:=n a[k-1] j (ac O);refine aq ?_;by_cases e:i=k-1
  ·subst e;exact b
  exact bNc (bU.1 h i (k-1) O O O) b
 have g:a.drop k=[]\/∃x r,a.drop k=x::r/\decide (x.path.data.toList<=c.path.data.toList)=false:=by
  cases p:a.drop k with
  | nil=>exact .inl rfl
  | cons x r=>
   have d:a[k]? = some x:=by
    have:=congrArg (fun l=>l[0]?) p;simpa using this
   exact .inr ⟨x,r,rfl,ak (kE.2 (o x d))⟩
 unfold insC
 conv=>lhs;rw[<-aY k a]
 rw[List.takeWhile_append_of_pos f,List.dropWhile_append_of_pos f];rcases g with e | ⟨x,r,e,d⟩
 ·rw[e];simp
 rw[e,List.takeWhile_cons_of_neg (by rw[d];simp),List.dropWhile_cons_of_neg (by rw[d];simp),aR]
theorem bLz {d:List CL}{c:CL}(h:UpC d):UpC (insC d c):=by
 have g:=dm (p:=fun x:CL=>decide (x.path.data.toList<=c.path.data.toList)) (l:=d);unfold UpC at h ⊢;rw[<-g,cT] at h;obtain ⟨s,k,t⟩:=h
 have i:∀x∈d.takeWhile (fun x:CL=>decide (x.path.data.toList<=c.path.data.toList)),x.path.data.toList<=c.path.data.toList:=by
  intro x e;have:=bF.1 (List.all_takeWhile (p:=fun x:CL=>decide (x.path.data.toList<=c.path.data.toList)) (l:=d)) x e;exact aP this
 have j:∀x∈d.dropWhile (fun x:CL=>decide (x.path.data.toList<=c.path.data.toList)),c.path.data.toList<=x.path.data.toList:=by
  intro x e
  cases n:d.dropWhile (fun x:CL=>decide (x.path.data.toList<=c.path.data.toList)) with
  | nil=>rw[n] at e;cases e
  | cons y r=>
   have q:decide (y.path.data.toList<=c.path.data.toList)=false:=by
    have o:=List.head?_dropWhile_not (fun x:CL=>decide (x.path.data.toList<=c.path.data.toList)) d;rw[n] at o;simpa using o
   have f:c.path.data.toList<=y.path.data.toList:=by
    have:=kE.1 (cj q);exact List.le_of_lt this
   rw[n] at e k;rcases ax.1 e with rfl | e
   ·exact f
   exact bNc f ((cC.1 k).1 x e)
 unfold insC;rw[cT];refine ⟨s,cC.2 ⟨j,k⟩,fun a ha b m=>?_⟩;rcases ax.1 m with rfl | m
 ·exact i a ha
 exact t a ha b m
theorem bBs(l:List CL)(c:CL):sortC (l++[c])=insC (sortC l) c:=by
 unfold sortC;rw[cJ];rfl
theorem bLc:∀l:List CL,UpC (sortC l):=by
 have h:∀(l a:List CL),UpC a->UpC (l.foldl (fun a c=>insC a c) a):=by
  intro l
  induction l with
  | nil=>intro a h;exact h
  | cons x l ih=>intro a h;exact ih _ (bLz h)
 intro l;exact h l [] List.Pairwise.nil
structure WhA (w wr:World) (g8:Nat) (f:FV) (cur:Option FV):Prop where
 bel:Below w.heap.size w wr
 xf:wr.heap[w.heap.size]? = some (.cells #[.string f.path,.bool f.exec,.string f.text] 48 (0,0))
 x6:wr.heap[w.heap.size+1]? = some (.cells #[.string ⟨#[]⟩,.bool false,.string ⟨#[]⟩] 48 (0,0))
 x8:wr.heap[g8]? = some (.cells #[.string (optF cur).path,.bool (optF cur).exec,.string (optF cur).text] 48 (0,0))
 lt:w.heap.size+1<g8
section
variable {w wr wv:World} {g8:Nat} {f:FV} {cur:Option FV}
theorem WhA.below(h:WhA w wr g8 f cur)(a:Below wr.heap.size wr wv):WhA w wv g8 f cur:=
 ⟨h.bel.trans (a.mono h.bel.size),(a.block _ (aAa h.xf)).trans h.xf,(a.block _ (aAa h.x6)).trans h.x6,(a.block _ (aAa h.x8)).trans h.x8,h.lt⟩
theorem WhA.put(h:WhA w wr g8 f cur)(a:Option FV):WhA w (wr.setRow g8 #[.string (optF a).path,.bool (optF a).exec,.string (optF a).text]) g8 f a:=by
 have b:=h.lt;refine ⟨aAj h.bel O,?_,?_,bB _ _ _ _ _ _ h.x8,h.lt⟩
 ·rw[dA _ _ _ _ (show w.heap.size≠g8 by omega)];exact h.xf
 rw[dA _ _ _ _ (show w.heap.size+1≠g8 by omega)];exact h.x6
end
theorem bHp {r:ByteArray×ByteArray}{p:ByteArray}(b:L[k]? = some r) :
  (L.drop k).findSome? (fun r=>if r.1=p then findP side r.2 else none)=(if r.1=p then findP side r.2 else none).or ((L.drop (k+1)).findSome? fun r=>if r.1=p then findP side r.2 else none):=by
 obtain ⟨a,rfl⟩:=aj.1 b;rw[bp a,List.findSome?_cons]
 cases h:(if L[k].1=p then findP side L[k].2 else none) with
 | none=>rfl
 | some x=>rfl
theorem bLs {wr:World}(h:Rd w w.heap.size 2 R q d (L.flatMap renV))(g:Below w.heap.size w wr)(j:L.length=q)(l:k<q) :
  ∃b o r,R=some ⟨b,o,none⟩/\b<w.heap.size/\L[k]? = some r/\wr.cell? ⟨b,o+k*2,none⟩=some (.string r.1)/\wr.cell? ⟨b,o+k*2+1,none⟩=some (.string r.2):=by
 obtain ⟨b,o,r,e,a,i,_,c⟩:=T.rd_flat (f:=renV) (sz:=2) (fun _=>rfl) O h j l;exact ⟨b,o,r,e,a,i,(g.cell (p:=⟨b,o+k*2,none⟩) a).trans (c 0 _ rfl),(g.cell (p:=⟨b,o+k*2+1,none⟩) a).trans (c 1 _ rfl)⟩
theorem aPx(hn:n<=17592186044416)(hq:q<=17592186044416)
  (ha:RdF w w.heap.size A n c side) (hr:Rd w w.heap.size 2 R q d (L.flatMap renV)) (hL:L.length=q) :
  Calls prog 43 #[.agg #[.string f.path,.bool f.exec,.string f.text],.slice A n c,.slice R q d] w (FoundIs (whereD side L f) w):=by
 have HW:=hid (show whereD side L f=(findP side f.path).or (L.findSome? fun r=>if r.1=f.path then findP side r.2 else none) from rfl);have I:=hid hL;have z:(prog.info? 48).map (·.size)=some 3:=κ;have KF:=hid (fun (p:ByteArray) (u:World) (hu:Below w.heap.size w u)=>aEg (p:=p) hn (ha.to hu hu.size));obtain ⟨W,D⟩:∃u,u=(w.alloc (.cells #[.string f.path,.bool f.exec,.string f.text] 48)).alloc (.cells #[.string ⟨#[]⟩,.bool false,.string ⟨#[]⟩] 48):=⟨_,rfl⟩;have J:Below w.heap.size w (w.alloc (.cells #[.string f.path,.bool f.exec,.string f.text] 48)):=(Below.refl _ _).alloc (aa _) _;have g:Below w.heap.size w W:=by rw[D];exact J.alloc (by simp) _
 have i:W.heap[w.heap.size]? = some (.cells #[.string f.path,.bool f.exec,.string f.text] 48 (0,0)):=by
  rw[D];have h1:=(Below.refl (w.heap.size+1) (w.alloc (.cells #[.string f.path,.bool f.exec,.string f.text] 48))).alloc (by simp) (.cells #[.string ⟨#[]⟩,.bool false,.string ⟨#[]⟩] 48);exact (h1.block _ (de _)).trans (au _ _)
 have j:W.heap[w.heap.size+1]? = some (.cells #[.string ⟨#[]⟩,.bool false,.string ⟨#[]⟩] 48 (0,0)):=by
  rw[D];have h2:=au (w.alloc (.cells #[.string f.path,.bool f.exec,.string f.text] 48)) (.cells #[.string ⟨#[]⟩,.bool false,.string ⟨#[]⟩] 48);rw[show (w.alloc (.cells #[.string f.path,.bool f.exec,.string f.text] 48)).heap.size=w.heap.size+1 by simp] at h2;exact h2
 have t:W.heap.size=w.heap.size+2:=by rw[D];simp
 have k0:W.cell? ⟨w.heap.size,0,none⟩=some (.string f.path):=by rw[ab i];rfl
 have K1:=KF.out f.path W g;have HX:=hid (And.intro g (And.intro i (And.intro j t)));rw[D] at k0;clear J g i j t hL;go_enter Tryz.func43,Tryz.ntmps43;go_wp2_with fail;rw[<-D];clear k0 D;refine K1.mono ?_;rintro e x1 ⟨rfl,y⟩;obtain ⟨g,i,j,t⟩:=HX.out;obtain ⟨V,hV⟩:∃u,u=x1.alloc (.cells #[.string (optF (findP side f.path)).path,.bool (optF (findP side f.path)).exec,.string (optF (findP side f.path)).text] 48):=⟨_,rfl⟩;have m:Below x1.heap.size x1 V:=by rw[hV];exact (Below.refl _ _).alloc (aa _) _
 have v:Below W.heap.size W V:=y.trans (m.mono y.size)
 have K:=hid (show WhA w V x1.heap.size f (findP side f.path) from
  ⟨g.trans (v.mono g.size),(v.block _ (aAa i)).trans i,(v.block _ (aAa j)).trans j,by rw[hV];exact au _ _,by have:=y.size;omega⟩)
 have N:Hid (whereD side L f=(findP side f.path).or ((L.drop 0).findSome? fun r=>if r.1=f.path then findP side r.2 else none)):=HW;clear y m v g i j t HX K1 HW;generalize findP side f.path=cur at *;go_wp2;rw[<-hV];clear hV;go_loopw[9,10] (fun tv iv wr=>∃(k:Nat) (cur:Option FV),k<=q/\iv=.int .i64 k/\tv=.bool cur.isSome/\Hid (WhA w wr x1.heap.size f cur)/\Hid (whereD side L f=cur.or ((L.drop k).findSome? fun r=>if r.1=f.path then findP side r.2 else none))) (fun _ iv _=>q-(intOf iv).toNat)
 case atStart=>exact ⟨0,cur,al _,rfl,rfl,K,N⟩
 clear K N;obtain ⟨k,cur,hk,rfl,rfl,l,HC⟩:=hrel;have y0:wr.cell? ⟨x1.heap.size,0,none⟩=some (.string (optF cur).path):=by rw[ab l.out.x8];rfl
 have y1:wr.cell? ⟨x1.heap.size,1,none⟩=some (.bool (optF cur).exec):=by rw[ab l.out.x8];rfl
 have y2:wr.cell? ⟨x1.heap.size,2,none⟩=some (.string (optF cur).text):=by rw[ab l.out.x8];rfl
 have h6:=l.out.x6;by_cases a:cur.isSome=true\/k=q
 case pos=>
  have HE:Hid (whereD side L f=cur):=by
   rw[HC.out];rcases a with h | h
   ·cases cur with
    | none=>cases h
    | some x=>rfl
   rw[cI (by rw[I.out];omega)]
   cases cur<;>rfl
  have HF:Hid (∀cs,Below w.heap.size w (wr.setRow (w.heap.size+1) cs)):=fun cs=>aAj l.out.bel ω;have HS:Hid (∀cs,(wr.setRow (w.heap.size+1) cs).heap[w.heap.size+1]? = some (.cells cs 48 (0,0))):=fun cs=>bB _ _ _ _ _ _ l.out.x6;by_cases O:k<q
  case' pos=>
   have hs:cur.isSome=true:=by rcases a with h | h;exact h;omega
   rw[hs]
  case' neg=>
   obtain rfl:k=q:=ω;generalize hs:cur.isSome=s at *
  all_goals
   go_wp2_with (refine bJ rfl 48 (.tmp 6) (.tmp 46) rfl (w.heap.size+1) #[.string (optF cur).path,.bool (optF cur).exec,.string (optF cur).text] rfl rfl _ _ h6 z rfl (by simp[Value.oneCell']) ?_)
   try simp only[Exit.inBlock,Exit.then]
   refine bz (aAm rfl _ _ (w.heap.size+1) _ _ (0,0) _ rfl (HS.out _) dx rfl κ) rfl ?_;refine ⟨?_,HF.out _⟩;rw[HE.out]
   first | rfl | (rw[hs];rfl)
 have B:cur=none:=by
  cases cur with
  | none=>rfl
  | some x=>exact absurd (.inl rfl) a
 subst B
 have O:k<q:=by
  rcases bo k q with h | h
  ·exact h
  exact absurd (.inr ω) a
 clear a;obtain ⟨b0,o0,r,rfl,nk,hx,Z,r1⟩:=bLs hr l.out.bel I.out O;have o:=hid (HC.out.trans (by rw[kD,bHp hx]));have f0:wr.cell? ⟨w.heap.size,0,none⟩=some (.string f.path):=by rw[ab l.out.xf];rfl
 have nj:=aAa l.out.xf;clear hx HC;obtain ⟨H,rb⟩:=r;dsimp only at Z r1 o;simp only[dr];have P:Below wr.heap.size wr wr.drew:=(Below.refl _ _).drew;by_cases b:H=f.path
 ·have e1:(H.toList == f.path.toList)=true:=by rw[b];exact aW _
  have S:decide (H=f.path)=true:=aq b;have C:=hid (o.out.trans (by rw[ao b]));have T:=hid (l.out.below P);clear b o;go_wp2;refine aAe (fun w'=>w'=wr.drew) (qs 8) mixed κ rfl ?_;intro Tp M Q hT E F hQ;have U:M ⟨b0,o0+k*2,none⟩=some (.string H):=F _ _ fun w' G=>by subst G;exact Z
  have X:M ⟨w.heap.size,0,none⟩=some (.string f.path):=F _ _ fun w' G=>by subst G;exact f0
  simp only[qcmp];simp (maxSteps:=9^7) only[↓qpre,aAb,aAg,aAc,U,X];(repeat refine And.intro (by first|omega|(unfold inI64;omega)) ?_);refine hQ _ _ ?_;clear hQ hT E F U X e1 y0 y1 y2 h6;simp only[S];clear S;have K2:=KF.out rb wr.drew T.out.bel;have q1:wr.drew.cell? ⟨b0,o0+k*2+1,none⟩=some (.string rb):=r1;clear Z r1 f0 l;generalize wr.drew=wd at *;go_wp2_with fail;refine K2.mono ?_;rintro e x2 ⟨rfl,m⟩;have Y:=hid (T.out.below m);have ff:=Y.out.x8;have HP:=hid (Y.out.put (findP side rb));clear K2 m T q1;generalize findP side rb=c2 at *;go_wp2_with (refine bJ rfl 48 (.tmp 8) (.tmp 44) rfl x1.heap.size #[.string (optF c2).path,.bool (optF c2).exec,.string (optF c2).text] rfl rfl _ _ ff z rfl (by simp[Value.oneCell']) ?_);go_roundw
  case rel=>exact ⟨k+1,c2,ω,by go_num,rfl,HP,C⟩
  simp[intOf];omega
 have e1:=aBi b;have S:decide (H=f.path)=false:=ak b;have C:=hid (o.out.trans (by rw[ah b,kD]));have T:=hid (l.out.below P);clear b o;go_wp2;refine aAe (fun w'=>w'=wr.drew) (qs 8) mixed κ rfl ?_;intro Tp M Q hT E F hQ;have U:M ⟨b0,o0+k*2,none⟩=some (.string H):=F _ _ fun w' G=>by subst G;exact Z
 have X:M ⟨w.heap.size,0,none⟩=some (.string f.path):=F _ _ fun w' G=>by subst G;exact f0
 simp only[qcmp];simp (maxSteps:=9^7) only[↓qpre,aAb,aAg,aAc,U,X];(repeat refine And.intro (by first|omega|(unfold inI64;omega)) ?_);refine hQ _ _ ?_;clear hQ hT E F U X e1 y0 y1 y2 h6 Z r1 f0;simp only[S];clear S;go_wp2;go_roundw
 case rel=>exact ⟨k+1,none,ω,by go_num,rfl,T,C⟩
 simp[intOf];omega
def isAdded (base:List FV)(L:List (ByteArray×ByteArray))(f:FV):Bool:=(findP base f.path).isNone && !(L.any fun r=>decide (r.2=f.path))
theorem aZa(a:side[k]? = some f):(side.take (k+1)).filter (isAdded base L)=(side.take k).filter (isAdded base L)++if isAdded base L f then [f] else []:=by
 rw[aB,a,bX];congr 1
 cases h:isAdded base L f<;>simp[h]
theorem bJb {r:ByteArray×ByteArray}{p:ByteArray}(a:L[k]? = some r):((L.take (k+1)).any fun r=>decide (r.2=p))=(((L.take k).any fun r=>decide (r.2=p)) || decide (r.2=p)):=by
 rw[aB,a,iU];simp
theorem aPg {B:Option Addr}{cb:Nat}(hn:n<=1000000)(hm:m<=1000000)(hq:q<=1000000)
  (ha:RdF w w.heap.size A n c base) (hb:RdF w w.heap.size B m cb side) (hr:Rd w w.heap.size 2 R q d (L.flatMap renV)) (hL:L.length=q) :
  Calls prog 46 #[.slice A n c,.slice B m cb,.slice R q d] w (FilesIsN (·=addedD base side L) w):=by
 have nz:=hid (show addedD base side L=side.filter (isAdded base L) from rfl);have Z:=hid hL;have nA:=hid hb.len;have nB:=hid hb.fits;have KF:=hid (fun (p:ByteArray) (u:World) (Y:Below w.heap.size w u)=>aEg (p:=p) ω (ha.to Y Y.size));clear hL ha;go_enter Tryz.func46,Tryz.ntmps46;go_wp2;go_loopw[7,8] (fun ov iv wr=>∃k:Nat,k<=m/\iv=.int .i64 k/\Hid (Below w.heap.size w wr)/\Hid (wr.ownsRow w.heap.size 48 3 ov ((side.take k).filter (isAdded base L)).length (((side.take k).filter (isAdded base L)).flatMap FV.cells))) (fun _ iv _=>m-(intOf iv).toNat)
 case atStart=>exact ⟨0,al _,rfl,hid (Below.refl _ _),aA _ _ _ _⟩
 obtain ⟨k,hk,rfl,S,T⟩:=hrel;have nK:((side.take k).filter (isAdded base L)).length<=k:=aw (bD _ _) (by rw[aE];omega);by_cases nI:k<m
 ·obtain ⟨C,E,f,rfl,G,hx,nr,h0,h1,h2⟩:=hb.get nI
  replace h0:=(S.out.cell (p:=⟨C,E+k*3,none⟩) (by show C<_;omega)).trans h0;have h:=hid (aZa (base:=base) (L:=L) hx);have I:=hid (show isAdded base L f=((findP base f.path).isNone && !(L.any fun r=>decide (r.2=f.path))) from rfl);have H1:=hid (And.intro h1 h2);have K1:=KF.out f.path wr S.out;clear hx nr h1 h2;generalize (side.take k).filter (isAdded base L)=P at *;generalize y:P.length=np at *;have l:=hid y;clear y;obtain ⟨a,W,X⟩:=f;dsimp only at h0 H1 I K1;go_wp2_with fail;refine K1.mono ?_;rintro e w1 ⟨rfl,U⟩;generalize findP base a=F at *;have ff:Below w1.heap.size w1 (w1.alloc (.cells #[.string (optF F).path,.bool (optF F).exec,.string (optF F).text] 48)):=(Below.refl _ _).alloc (aa _) _;have t:=U.trans (ff.mono U.size);have J:=hid (S.out.trans (t.mono S.out.size));have nj:=hid (aAf T.out t)
  have HC:=hid (show ∀u,Below w.heap.size w u->u.cell? ⟨C,E+k*3,none⟩=some (.string a)/\u.cell? ⟨C,E+k*3+1,none⟩=some (.bool W)/\u.cell? ⟨C,E+k*3+2,none⟩=some (.string X) from fun u Y=>
   ⟨(Y.cell (p:=⟨C,E+k*3,none⟩) G).trans ((S.out.cell (p:=⟨C,E+k*3,none⟩) G).symm.trans h0),(Y.cell (p:=⟨C,E+k*3+1,none⟩) G).trans H1.out.1,(Y.cell (p:=⟨C,E+k*3+2,none⟩) G).trans H1.out.2⟩)
  clear K1 U ff t h0 H1 S T;go_wp2;generalize w1.alloc (.cells #[.string (optF F).path,.bool (optF F).exec,.string (optF F).text] 48)=w2 at *;go_loopw[10,11] (fun tv jv wk=>∃j:Nat,j<=q/\jv=.int .i64 j/\tv=.bool (F.isSome || (L.take j).any fun r=>decide (r.2=a))/\Hid (Below w2.heap.size w2 wk)) (fun _ jv _=>q-(intOf jv).toNat)
  case atStart=>exact ⟨0,al _,rfl,by simp,hid (Below.refl _ _)⟩
  obtain ⟨j,hj,rfl,rfl,HK⟩:=hrel;have i:=hid (J.out.trans (HK.out.mono J.out.size));obtain ⟨c0,c1,c2⟩:=HC.out wr i.out;by_cases nJ:j<q
  ·obtain ⟨b1,o1,r,rfl,nL,ns,r0,r1⟩:=bLs hr i.out Z.out nJ
   have K:=hid (bJb (p:=a) ns);clear ns r0 c1 c2;obtain ⟨ra,rb⟩:=r;dsimp only at r1 K;generalize (L.take j).any (fun r=>decide (r.2=a))=an at *;have nC:Below wr.heap.size wr wr.drew:=(Below.refl _ _).drew;have nk:=hid (HK.out.trans (nC.mono HK.out.size))
   cases z:(F.isSome || an) with
   | true=>
    have v:Hid ((F.isSome || (L.take (j+1)).any fun r=>decide (r.2=a))=true):=by
     rw[K.out,<-Bool.or_assoc,z,ja];exact rfl
    go_wp2;refine aAe (fun w'=>w'=wr.drew) (qs 15) mixed κ rfl ?_;intro Tp M Q hT V hM hQ;simp only[qcmp];simp (maxSteps:=9^7) only[↓qpre,aAb,aAc];(repeat refine And.intro (by first|omega|(unfold inI64;omega)) ?_);refine hQ _ _ ?_;clear hQ hT V hM r1 c0 z;go_wp2;go_roundw
    case rel=>exact ⟨j+1,ω,by go_num,by rw[v.out],nk⟩
    simp[intOf];omega
   | false=>
    have hF:F.isSome=false/\an=false:=by simpa using z
    have v:Hid ((F.isSome || (L.take (j+1)).any fun r=>decide (r.2=a))=decide (rb=a)):=by
     rw[K.out,<-Bool.or_assoc,z,fW];exact rfl
    clear hF;have e1:(rb.toList == a.toList)=decide (rb=a):=aTi _ _;go_wp2;refine aAe (fun w'=>w'=wr.drew) (qs 15) mixed κ rfl ?_;intro Tp M Q hT V hM hQ;have m0:M ⟨b1,o1+j*2+1,none⟩=some (.string rb):=hM _ _ fun w' hw=>(by subst hw;exact r1);have m1:M ⟨C,E+k*3,none⟩=some (.string a):=hM _ _ fun w' hw=>(by subst hw;exact c0);simp only[qcmp];simp (maxSteps:=9^7) only[↓qpre,aAb,aAg,aAc,m0,m1];(repeat refine And.intro (by first|omega|(unfold inI64;omega)) ?_);refine hQ _ _ ?_;clear hQ hT V hM r1 c0 z m0 m1 e1;go_wp2;go_roundw
    case rel=>exact ⟨j+1,ω,by go_num,by rw[v.out],nk⟩
    simp[intOf];omega
  obtain rfl:j=q:=ω
  have nm:=hid (show (F.isSome || (L.take j).any fun r=>decide (r.2=a))=!isAdded base L ⟨a,W,X⟩ by
   rw[I.out,ai (by rw[Z.out];omega)]
   cases F<;>simp)
  have N:=hid (aAf nj.out HK.out);rw[nm.out];clear nm I nj
  cases H:isAdded base L ⟨a,W,X⟩ with
  | true=>
   have h:=hid (h.out.trans (by rw[H]));have D:=i.out.alloc i.out.size (.cells #[.string a,.bool W,.string X] 48);have O:=N.out.alloc (.cells #[.string a,.bool W,.string X] 48);have nq:=aNn wr ⟨a,W,X⟩;clear H;go_wp2_with (at_builtin;refine aAl rfl (.tmp 50) (.tmp 55) 29 rfl aDg rfl rfl O nq (aBu _) (by unfold maxLen;omega) ω D.size ?_;intro v7 w7 nu nw nG);have nD:=hid (D.grown nw D.size (fun g hg=>(O.lt g hg).1));have nE:=hid nu;clear nu nw nG D O nq J N i HK;go_roundw
   case rel=>exact ⟨k+1,ω,by go_num,nD,by rw[h.out];simp only[fj,ae,aJ,l.out];exact nE⟩
   simp[intOf];omega
  | false=>
   have h:=hid (h.out.trans (by rw[H]));clear H;go_wp2;go_roundw
   case rel=>exact ⟨k+1,ω,by go_num,i,by rw[h.out];simp only[bA,dD,aR,l.out];exact N⟩
   simp[intOf];omega
 obtain rfl:k=m:=ω;rw[ai (by rw[nA.out];exact aa _)] at T;obtain ⟨A7,c7,rfl,nH⟩:=aAd T.out;have HR:=hid (Rd.of_own T.out nH);have nF:=hid (show NewAt A7 w.heap.size from fun b o s hA=>(T.out.lt b (by rw[hA];rfl)).1);clear T;generalize y:(side.filter (isAdded base L)).length=np at *;have l:=hid y;clear y;go_wp2;go_ret;refine ⟨A7,c7,side.filter (isAdded base L),by rw[l.out];rfl,nz.out.symm,⟨by rw[l.out];exact HR.out,rfl,fun x hx=>nB.out x (aX.1 hx).1⟩,S.out,nF.out⟩
end Go.Proofs.YtohblmepajhpaaaGreatDoor
