/- Contracts of functions that the law reaches; plain laws. -/
import Derived.Laws.OwnMore
import Derived.Laws.IdiomCopy
import Derived.Laws.Tables
import Derived.Laws.StructEq
import Derived.Laws.ResultCell
import Derived.Test.YtohblmepajhpaaaGreatDoorG00
import Derived.Test.YtohblmepajhpaaaGreatDoorG01
set_option maxHeartbeats 8000000
set_option maxRecDepth 100000
open Go.Lib (hid)
namespace Go.Proofs.YtohblmepajhpaaaGreatDoor
open Go.Proofs.Tryz (prog)
open Go.RowKit
variable {l:List FV}{f:FV}{g:Option (Tmp×Bool)}{A:Option Addr}{c bytes:Nat}{p:ByteArray}{dst:Option Tmp}{ty:TypeId}{S:World->Prop}{K:Act->World->Prop}{w':World}
def RFine (l:List FV)(k:Nat)(f:FV):Prop:=FileOk f/\(∀g,1<=k->l[k-1]? = some g->g.p<f.p)/\∀(j:Nat) (g:FV),j<k->l[j]? = some g->clashP g.p f.p=false
theorem TreeOk.rfine(h:TreeOk l){k:Nat}{f:FV}(a:l[k]? = some f):RFine l k f:=
 ⟨(h.fine a).1,(h.fine a).2.1,fun _j _g b c=>h.pair b a c⟩
theorem aZk {k:Nat}(a:l[k]? = some f)(h:¬RFine l k f):treeOk l=false:=by
 cases e:treeOk l with
 | false=>rfl
 | true=>exact absurd ((aAx.1 e).rfine a) h
def RFineTo (l:List FV)(k:Nat):Prop:=∀j f,j<k->l[j]? = some f->RFine l j f
theorem RFineTo.done {n:Nat}(h:RFineTo l n)(m:l.length=n)(o:n<=100):treeOk l=true:=by
 have at_:∀k f,l[k]? = some f->RFine l k f:=fun k f c=>h k f (by have:=(aj.1 c).1;omega) c;refine aAx.2 (bDo O (fun f c=>?_) (fun i a b ha d=>(at_ (i+1) b d).2.1 a O ha) fun i j a b e ha d=>(at_ i a ha).2.2 j b e d);obtain ⟨i,g,rfl⟩:=bn c;exact (at_ i _ (ac g)).1
theorem RFineTo.next {k:Nat}(h:RFineTo l k)(b:l[k]? = some f)(c:RFine l k f):RFineTo l (k+1):=by
 intro j g d a;by_cases e:j=k
 ·subst e;rw[b] at a;injection a with a;subst a;exact c
 exact h j g O a
def ApartTo (l:List FV)(f:FV)(j:Nat):Prop:=∀(i:Nat) (g:FV),i<j->l[i]? = some g->clashP g.p f.p=false
theorem ApartTo.next {j:Nat}{g:FV}(h:ApartTo l f j)(b:l[j]? = some g)(c:clashP g.p f.p=false):ApartTo l f (j+1):=by
 intro i x d a;by_cases e:i=j
 ·subst e;rw[b] at a;injection a with a;subst a;exact c
 exact h i x O a
theorem aDx {n:Nat}{w:World}(hn:n<=17592186044416)(h:RdF w w.heap.size A n c l) :
  Calls prog 19 #[.slice A n c] w (BoolBelow (treeOk l) w):=by
 have HL:=hid h.len;by_cases nj:100<n
 ·have b:=hid (aVk (l:=l) (by rw[HL.out];exact nj))
  go_enter Tryz.func19,Tryz.ntmps19;go_wp2;go_ret;exact ⟨aAi b.out.symm,Below.refl _ _⟩
 have N:n<=100:=ω;go_enter Tryz.func19,Tryz.ntmps19;go_wp2;go_loopw[3,4] (fun i _ wr=>∃k:Nat,k<=n/\i=.int .i64 k/\Below w.heap.size w wr/\Hid (RFineTo l k)) (fun i _ _=>n-(intOf i).toNat)
 case atStart=>exact ⟨0,al _,rfl,Below.refl _ _,fun j f hj=>absurd hj (bN _)⟩
 obtain ⟨k,hk,rfl,x,hF⟩:=hrel;by_cases nw:k<n
 ·obtain ⟨a,q,f,P,nB,hx,nr,h0,h1,h2⟩:=h.get nw
  cases P
  have HX:=hid hx;clear hx;have nz:=h.fits f nr;have s:∀v:World,Below wr.heap.size wr v->¬RFine l k f->BoolBelow (treeOk l) w (.returned (.bool false)) v:=fun v hv L=>⟨aAi (aZk HX.out L).symm,x.trans (hv.mono x.size)⟩
  have O:pathOk f.p=true->f.path.size<=100:=fun h=>by
   simp only[pathOk,ay,bh] at h;exact h.1.1.2
  go_wp2;refine aAe (fun w'=>Below wr.heap.size wr w') (qe [5] 34) mixed κ (Below.refl _ _).drew ?_;intro T M Q K t y z;have D:M ⟨a,q+k*3,none⟩=some (.string f.path):=y _ _ fun w' H=>(H.cell (p:=⟨a,q+k*3,none⟩) (by show a<_;have:=x.size;omega)).trans ((x.cell (p:=⟨a,q+k*3,none⟩) (by show a<_;omega)).trans h0);have J:M ⟨a,q+k*3+2,none⟩=some (.string f.text):=y _ _ fun w' H=>(H.cell (p:=⟨a,q+k*3+2,none⟩) (by show a<_;have:=x.size;omega)).trans ((x.cell (p:=⟨a,q+k*3+2,none⟩) (by show a<_;omega)).trans h2);simp only[qcmp,Nat.reduceBEq];simp (maxSteps:=9^7) only[↓qpre,aAb,aAg,aAc,D];refine ⟨⟨ω,ω⟩,aAh κ aWd rfl rfl ?_⟩;rintro e v1 ⟨rfl,ns⟩;have E:Below wr.heap.size wr v1:=(Below.refl _ _).drew.trans ns;refine ⟨_,rfl,K _ E,?_⟩;have nk:pathOk f.path.data.toList=pathOk f.p:=rfl;rw[nk]
  cases hp:pathOk f.p with
  | false=>
   have b:=s v1 E (fun L=>by rw[L.1.1] at hp;cases hp);clear s;simp (maxSteps:=9^7) only[↓qpre,aAb,aAc];refine z _ _ ?_;clear z K t y D J;go_wp2;go_ret;exact b
  | true=>
   have hz:=O hp;by_cases ht:20000<f.text.size
   ·have F:decide ((20000:Int)<f.text.size)=true:=aq ω
    have b:=s v1 E (fun L=>by have:=L.1.2;omega);clear s;simp (maxSteps:=9^7) only[↓qpre,aAb,aAg,aAc,J,F];refine ⟨⟨ω,ω⟩,z _ _ ?_⟩;clear z K t y D J;go_wp2;go_ret;exact b
   have F:decide ((20000:Int)<f.text.size)=false:=ak ω;by_cases U:∀g,1<=k->l[k-1]? = some g->g.p<f.p
   case neg=>
    obtain ⟨b1,o1,r,P,ff,o,_,p0,p1,p2⟩:=h.get (k:=k-1) ω
    cases P
    have nA:1<=k:=by
     refine Nat.one_le_iff_ne_zero.2 fun e=>U fun g hg=>by omega
    have u:¬r.path.data.toList<f.path.data.toList:=fun V=>U fun g _ hg=>(by rw[o] at hg;injection hg with hg;subst hg;exact V);have G:decide ((0:Int)<k)=true:=aq ω;have W:M ⟨a,q+(k-1)*3,none⟩=some (.string r.path):=y _ _ fun w' H=>(H.cell (p:=⟨a,q+(k-1)*3,none⟩) (by show a<_;have:=x.size;omega)).trans ((x.cell (p:=⟨a,q+(k-1)*3,none⟩) (by show a<_;omega)).trans p0);have e1:((k:Int)-1).toNat=k-1:=ω;have m:=(aSw f.path r.path).trans (by rw[ak u];rfl:_=true);have b:=s v1 E (fun L=>u (L.2.1 r ω o));clear s;simp (maxSteps:=9^7) only[↓qpre,aAb,aAg,aAc,D,J,F,G,W,e1,m];refine ⟨⟨ω,ω⟩,⟨ω,ω⟩,by unfold inI64;omega,⟨ω,ω⟩,z _ _ ?_⟩;clear z K t y D J W p0 p1 p2 m;go_wp2;go_ret;exact b
   have HP:=hid U;have X:=x.trans (E.mono x.size);clear s;by_cases nC:k=0
   ·have G:decide ((0:Int)<k)=false:=ak ω
    simp (maxSteps:=9^7) only[↓qpre,aAb,aAg,aAc,J,F,G];refine ⟨⟨ω,ω⟩,z _ _ ?_⟩;clear z K t y D J;go_wp2;go_loopw[4] (fun R S=>∃j:Nat,j<=k/\R=.int .i64 j/\Below w.heap.size w S/\Hid (ApartTo l f j)) (fun R _=>k-(intOf R).toNat)
    case atStart=>exact ⟨0,al _,rfl,X,fun i g hi=>absurd hi (bN _)⟩
    obtain ⟨j,hj,rfl,B,hC⟩:=hrel;by_cases I:j<k
    ·exact absurd I ω
    obtain rfl:j=k:=ω;have b:=hid (RFineTo.next hF.out HX.out ⟨⟨hp,ω⟩,HP.out,hC.out⟩);go_wp2;go_roundw
    case rel=>exact ⟨j+1,ω,by go_num,B,b.out⟩
    simp[intOf];omega
   have G:decide ((0:Int)<k)=true:=aq ω;obtain ⟨b1,o1,r,P,ff,o,_,p0,p1,p2⟩:=h.get (k:=k-1) ω
   cases P
   have W:M ⟨a,q+(k-1)*3,none⟩=some (.string r.path):=y _ _ fun w' H=>(H.cell (p:=⟨a,q+(k-1)*3,none⟩) (by show a<_;have:=x.size;omega)).trans ((x.cell (p:=⟨a,q+(k-1)*3,none⟩) (by show a<_;omega)).trans p0);have e1:((k:Int)-1).toNat=k-1:=ω;have u:r.path.data.toList<f.path.data.toList:=HP.out r ω o;have m:=(aSw f.path r.path).trans (by rw[aq u];rfl:_=false);simp (maxSteps:=9^7) only[↓qpre,aAb,aAg,aAc,D,J,F,G,W,e1,m];refine ⟨⟨ω,ω⟩,⟨ω,ω⟩,by unfold inI64;omega,⟨ω,ω⟩,z _ _ ?_⟩;clear W p0 p1 p2 m o;clear z K t y D J;go_wp2;go_loopw[4] (fun R S=>∃j:Nat,j<=k/\R=.int .i64 j/\Below w.heap.size w S/\Hid (ApartTo l f j)) (fun R _=>k-(intOf R).toNat)
   case atStart=>exact ⟨0,al _,rfl,X,fun i g hi=>absurd hi (bN _)⟩
   obtain ⟨j,hj,rfl,B,hC⟩:=hrel;by_cases I:j<k
   ·obtain ⟨b1,o1,r,P,_,o,nu,q0,q1,q2⟩:=h.get (k:=j) ω
    cases P
    have Y:=hid o;clear o;have nm:=h.fits r nu;have C:=fun (v:World)=>aQs (w:=v) (p:=r.path) (d:=f.path) (by unfold maxLen;omega) (by unfold maxLen;omega);go_wp2;refine aAe (fun w'=>Below w.heap.size w w') (qe [10] 11) mixed κ B.drew ?_;intro T M Q K t y z;have D:M ⟨a,q+k*3,none⟩=some (.string f.path):=y _ _ fun w' H=>(H.cell (p:=⟨a,q+k*3,none⟩) (by show a<_;omega)).trans h0;have m1:M ⟨a,q+j*3,none⟩=some (.string r.path):=y _ _ fun w' H=>(H.cell (p:=⟨a,q+j*3,none⟩) (by show a<_;omega)).trans q0;simp only[qcmp,Nat.reduceBEq];simp (maxSteps:=9^7) only[↓qpre,aAb,aAg,aAc,D,m1];refine ⟨⟨ω,ω⟩,⟨ω,ω⟩,aAh κ (C _) rfl rfl ?_⟩;rintro e w' ⟨rfl,rfl⟩;refine ⟨_,rfl,K _ B.drew,?_⟩;simp (maxSteps:=9^7) only[aAb,aAc];refine z _ _ ?_;have Z:=B.drew;clear z K t y D m1 C q0 q1 q2
    cases V:clashP r.path.data.toList f.path.data.toList with
    | true=>
     have b:=hid (aZk HX.out fun L=>by have:=L.2.2 j r I Y.out;rw[show clashP r.p f.p=true from V] at this;cases this);clear V;go_wp2;go_ret;exact ⟨aAi b.out.symm,Z⟩
    | false=>
     have b:=hid (hC.out.next Y.out V);clear V;go_wp2;go_roundw
     case rel=>exact ⟨j+1,ω,by go_num,Z,b.out⟩
     simp[intOf];omega
   obtain rfl:j=k:=ω;have b:=hid (RFineTo.next hF.out HX.out ⟨⟨hp,ω⟩,HP.out,hC.out⟩);go_wp2;go_roundw
   case rel=>exact ⟨j+1,ω,by go_num,B,b.out⟩
   simp[intOf];omega
 have nq:k=n:=ω;subst nq;have b:=hid (hF.out.done HL.out N);go_wp2;go_ret;exact ⟨aAi b.out.symm,x⟩
def hasP (l:List FV)(p:ByteArray):Bool:=l.any fun f=>decide (f.path=p)
def findP (l:List FV)(p:ByteArray):Option FV:=l.find? fun f=>decide (f.path=p)
def without (l:List FV)(p:ByteArray):List FV:=l.filter fun f=>!decide (f.path=p)
def lessF (f x:FV):Bool:=decide (x.p<f.p)
def sortedIn (l:List FV)(f:FV):List FV:=l.takeWhile (lessF f)++f::l.dropWhile (lessF f)
def clashF (l:List FV)(p:ByteArray):Bool:=l.any fun f=>!decide (f.path=p) && clashP f.p p.data.toList
noncomputable def putF (l:List FV) (f:FV):List FV×Int:=
 if treeOk l=false then ([],5) else if pathOk f.p=false then ([],11) else if 20000<f.text.size then ([],6)
 else if hasP l f.path=true then (sortedIn (without l f.path) f,0)
 else if clashF l f.path=true then ([],11) else if 100<=l.length then ([],6) else (sortedIn l f,0)
noncomputable def dropF (l:List FV) (p:ByteArray):List FV×Int:=
 if treeOk l=false then ([],5) else if hasP l p=false then ([],8) else (without l p,0)
theorem FV.p_inj {g:FV}:f.p=g.p↔f.path=g.path:=by
 constructor
 ·intro h
  exact aCi h
 intro h;rw[FV.p,h,FV.p]
theorem aEq:hasP l p=true↔∃f∈l,f.path=p:=by simp[hasP]
theorem aKk:findP l p=none↔hasP l p=false:=by
 simp[findP,hasP]
theorem aFa(h:findP l p=some f):f∈l/\f.path=p:=by
 have a:=fU h;exact ⟨cH h,by simpa using a⟩
def FirstAt (q:FV->Bool)(l:List FV)(k:Nat)(f:FV):Prop:=l[k]? = some f/\q f=true/\∀j g,j<k->l[j]? = some g->q g=false
theorem FirstAt.take_false {q:FV->Bool}{k:Nat}(h:FirstAt q l k f):∀g∈l.take k,q g=false:=by
 intro g a;obtain ⟨j,b,e⟩:=bn a;rw[aE] at b;rw[fg] at e;exact h.2.2 j g O (by rw[<-e];exact ac _)
theorem FirstAt.split {q:FV->Bool}{k:Nat}(h:FirstAt q l k f):l=l.take k++f::l.drop (k+1):=by
 have a:=(aj.1 h.1).1;have e:l[k]=f:=(aj.1 h.1).2;rw[<-e,List.getElem_cons_drop,aY]
theorem FirstAt.find {k:Nat}(h:FirstAt (fun x=>decide (x.path=p)) l k f):findP l p=some f:=by
 have a:=h.take_false;have b:=h.2.1;rw[findP,h.split,jA]
 have c:(l.take k).find? (fun x=>decide (x.path=p))=none:=by
  rw[cL];intro x d;simp[a x d]
 rw[c,iT];simp only[b];rfl
theorem aZf(h:∀f∈l,decide (f.path=p)=false):findP l p=none/\hasP l p=false:=by
 have a:hasP l p=false:=by
  cases e:hasP l p with
  | false=>rfl
  | true=>
   obtain ⟨f,b,c⟩:=aEq.1 e;have:=h f b;simp[c] at this
 exact ⟨aKk.2 a,a⟩
theorem Rise.pair(h:Rise l):l.Pairwise fun a b=>a.p<b.p:=by
 rw[bU];intro i j d e c;exact h.lt c (ac d) (ac e)
theorem aEo(h:l.Pairwise fun a b=>a.p<b.p):Rise l:=by
 intro i a b ha c;obtain ⟨d,rfl⟩:=aj.1 ha;obtain ⟨e,rfl⟩:=aj.1 c;exact bU.1 h i (i+1) d e O
theorem aIh(a:Bs):¬a<a:=eR a
theorem aSx {q:FV->Bool}{a b:List FV}(ha:∀x∈a,q x=true)(g:∀x,b[0]? = some x->q x=false):(a++b).takeWhile q=a/\(a++b).dropWhile q=b:=by
 induction a with
 | nil=>
  cases b with
  | nil=>exact ⟨rfl,rfl⟩
  | cons x b=>
   have:=g x rfl;simp[this]
 | cons x a ih=>
  obtain ⟨d,e⟩:=ih fun y f=>ha y (by simp[f]);have c:=ha x (by simp);simp only[aV,iX,iY,c,fj,d,e,and_self]
theorem aUd {a b:List FV}(ha:∀x∈a,x.p<f.p)(g:∀x,b[0]? = some x->¬x.p<f.p):sortedIn (a++b) f=a++f::b:=by
 obtain ⟨d,e⟩:=aSx (q:=lessF f) (a:=a) (b:=b) (fun x c=>aq (ha x c)) (fun x c=>ak (g x c));rw[sortedIn,d,e]
theorem aLw(h:hasP l p=false):without l p=l:=by
 refine dg.2 fun x b=>?_;have a:¬x.path=p:=fun e=>by rw[aEq.2 ⟨x,b,e⟩] at h;cases h
 simp[a]
section
variable {P:Program} {ops:Array Oper} {S:World->Prop} {F:List Nat}
def wpAnyL (P:Program)(ops:Array Oper)(Q:Exit->Act->World->Prop)(S:World->Prop)(F:List Nat):Nat->Array Bool->Act->World->Prop
 | 0,listed,a,w=>Region.ready .any ops listed=[]/\Q .normal a w
 | fuel+1,listed,a,w=>
  (Region.ready .any ops listed=[]->Q .normal a w)/\
  ∀i∈Region.ready .any ops listed,wpOp P ops Q i (fun a' w'=>(i∉F->S w')/\wpAnyL P ops Q S F fuel (listed.setIfInBounds i true) a' w') a w
variable {Q:Exit->Act->World->Prop}
theorem aJq:∀(b:Nat) (listed:Array Bool) (a:Act) (w:World),wpAnyL P ops Q S F b listed a w->wpAny P .any ops Q b listed a w
 | 0,_,_,_,h=>h
 | b+1,_,_,_,h=>⟨h.1,fun i c=>kG (fun d w' e=>aJq b _ d w' e.2) (h.2 i c)⟩
def Closed (ops:Array Oper)(listed:Array Bool):Prop:=
 ∀j oj,ops[j]? = some oj->listed.getD j true=true->∀e∈oj.after,Region.binds .any e=true->listed.getD e.on false=true
theorem Closed.set {listed:Array Bool}(h:Closed ops listed){j:Nat}(q:j∈Region.ready .any ops listed):Closed ops (listed.setIfInBounds j true):=by
 intro k p g i e l m
 have key:listed.getD e.on false=true:=by
  by_cases b:j=k
  ·subst b
   obtain ⟨_,o,n,a⟩:=ej.1 q;rw[g] at n
   cases n
   exact a e l m
  rw[jB true b] at i;exact h k p g i e l m
 by_cases c:j=e.on
 ·subst c
  have d:e.on<listed.size:=by
   rcases bo e.on listed.size with f | f
   ·exact f
   simp[br f] at key
  simp[d]
 rw[jB false c];exact key
def LateOk (ops:Array Oper)(F:List Nat):Prop:=
 ∀listed,Closed ops listed->∀j∈F,j∈Region.ready .any ops listed->∀i,i<ops.size->i∉F->listed.getD i true=true
theorem aLx {i:Nat}{u:Oper}{v:Value}(J:ops[i]? = some u)(q:∀(j:Nat)(o:Oper) cs b,ops[j]? = some o->o.op≠.select cs b)
  (Y:∀c a w,Q (.panic c) (a.put u.dst v) w->Q (.panic c) a w) (Z:LateOk ops F) (O:i∉F) :
  ∀(d:Nat) (listed:Array Bool) (a:Act) (w:World),Closed ops listed->
   (∀j s,ops[j]? = some s->j≠i->listed.getD j true=false->(∀e∈s.after,Region.binds .any e=true->e.on≠i)->u.apart ops s=true)->
   i∈Region.ready .any ops listed->YieldsIf P ops S u v a->S w->
   wpAnyL P ops Q S F d (listed.setIfInBounds i true) (a.put u.dst v) w->wpAnyL P ops Q S F (d+1) listed a w:=by
 intro d
 induction d with
 | zero=>
  intro listed a w _ g n G z H;refine ⟨fun h=>(by rw[h] at n;cases n),fun j x=>?_⟩;by_cases f:j=i
  ·subst f;exact G.wpOp J z ⟨fun _=>z,H⟩
  have:=gO x f;rw[H.1] at this
  cases this
 | succ d ih=>
  intro listed a w A g n G z H;refine ⟨fun h=>(by rw[h] at n;cases n),fun j x=>?_⟩;by_cases f:j=i
  ·subst f;exact G.wpOp J z ⟨fun _=>z,H⟩
  have r:j∉F:=fun r=>by
   have l:=Z listed A j r x i (aU.1 J).1 O;rw[(ej.1 n).1] at l
   cases l
  have l:=H.2 j (gO x f);obtain ⟨p,s,t,B⟩:=ej.1 x
  have y:∀e∈s.after,Region.binds .any e=true->e.on≠i:=fun e U V L=>by
   have l:=B e U V;have R:=(ej.1 n).1;rw[L] at l;rcases bo i listed.size with K | K
   ·simp[K] at R l;rw[R] at l;cases l
   simp[br K] at l
  have T:=ng t (g j s t f p y) (fun cs b=>q i u cs b J) (fun cs b=>q j s cs b t) Y G l
  have m:∀k C,ops[k]? = some C->k≠i->(listed.setIfInBounds j true).getD k true=false->
    (∀e∈C.after,Region.binds .any e=true->e.on≠i)->u.apart ops C=true:=fun k C W M D N=>by
   refine g k C W M ?_ N
   by_cases E:j=k
   ·subst E;exact p
   rw[jB true E] at D;exact D
  refine kG (fun X w' I=>⟨I.2.1,ih (listed.setIfInBounds j true) X w' (A.set x) m (gO n (kF f)) I.1 (I.2.1 r) ?_⟩) T;rw[ie _ _ f];exact I.2.2
theorem aXb {listed:Array Bool}{a:Act}{w:World}(c:Region.ready .any ops listed=[])(h:Q .normal a w) :
  ∀b,wpAnyL P ops Q S F b listed a w
 | 0=>⟨c,h⟩
 | _+1=>⟨fun _=>h,by rw[c];simp⟩
theorem aKe {Qn:Act->World->Prop}(m:∀a w,Qn a w->Q .normal a w) :
  ∀(π:List (Bool×Nat)) (listed:Array Bool) (b:Nat) (a:Act) (w:World),planOk ops π listed=true->π.length<=b->(∀x∈π,x.1=false/\x.2∈F)->
   wl P ops (fun _=>True) Qn π a w->wpAnyL P ops Q S F b listed a w
 | [],listed,b,a,w,hp,_,_,h=>aXb (by simpa[planOk] using hp) (m _ _ h) b
 | (q,i)::r,listed,b,a,w,hp,hf,hl,h=>by
  obtain ⟨b,rfl⟩:∃k,b=k+1:=⟨b-1,by simp at hf;omega⟩;simp only[aD,bQ] at hf;obtain ⟨e,c⟩:=hl (q,i) (by simp);simp only at e c;subst e;have d:∀x∈r,x.1=false/\x.2∈F:=fun x u=>hl x (by simp[u]);simp only[wl] at h
  cases n:ops[i]? with
  | none=>simp only[n] at h
  | some o=>
   simp only[n] at h;simp only[planOk,ay,gF] at hp;obtain ⟨p,s⟩:=hp;refine ⟨fun e=>(by rw[p] at e;cases e),?_⟩;rw[p];intro j t;obtain rfl:j=i:=(by simpa using t);unfold wpOp;simp only[n];by_cases f:Region.wanted o (yielded ops a.tmps)=true
   ·rw[ao f]
    rw[ao f] at h;simp only[bA,dD] at h;exact .inl (aFr (fun v w' g=>⟨fun l=>absurd c l,aKe m r _ b v w' s hf d g.2⟩) (fun _ _ _ g=>g.elim) h)
   rw[ah f];rw[ah f] at h;exact ⟨fun l=>absurd c l,aKe m r _ b _ w s hf d h⟩
theorem aEf {Qn:Act->World->Prop}(m:Region.noSelect ops=true)(n:∀c a w,¬Q (.panic c) a w)(p:LateOk ops F) (ρ:List (Bool×Nat))(u:∀x∈ρ,x.1=false/\x.2∈F)
  (y:∀a w,Qn a w->Q .normal a w) :
  ∀(π:List (Bool×Nat)) (listed:Array Bool) (b:Nat) (a:Act) (w:World),planOk ops (π++ρ) listed=true->(π++ρ).length<=b->(∀x∈π,x.2∉F)->Closed ops listed->S w->
   wl P ops S (fun a w=>wl P ops (fun _=>True) Qn ρ a w) π a w->wpAnyL P ops Q S F b listed a w
 | [],listed,b,a,w,hp,hf,_,_,_,h=>aKe y ρ listed b a w (by simpa using hp) (by simpa using hf) u h
 | (q,i)::r,listed,b,a,w,hp,hf,hn,hcl,hS,h=>by
  obtain ⟨b,rfl⟩:∃k,b=k+1:=⟨b-1,by simp at hf;omega⟩;simp only[aV,aD,bQ] at hf;have s:i∉F:=hn (q,i) (by simp);have e:∀x∈r,x.2∉F:=fun x H=>hn x (by simp[H]);simp only[wl] at h
  cases l:ops[i]? with
  | none=>simp only[l] at h
  | some o=>
   simp only[l] at h
   cases q with
   | true=>
    simp only[aV,planOk,ay] at hp;obtain ⟨⟨t,z⟩,C⟩:=hp;have d:i∈Region.ready .any ops listed:=(by simpa using z);by_cases g:Region.wanted o (yielded ops a.tmps)=true
    ·rw[ao g,ao rfl] at h
     obtain ⟨v,E,G⟩:=h
     exact aLx l (dq m) (fun c a w f=>absurd f (n _ _ _)) p s b listed a w hcl (dZ l t) d (.inl ⟨g,fun w A=>E w _ _ _ _ A⟩) hS
      (aEf m n p ρ u y r _ b _ w C hf e (hcl.set d) hS G)
    rw[ah g] at h
    exact aLx l (dq m) (fun c a w f=>absurd f (n _ _ _)) p s b listed a w hcl (dZ l t) d (.inr ⟨by simpa using g,rfl⟩) hS
     (aEf m n p ρ u y r _ b _ w C hf e (hcl.set d) hS h)
   | false=>
    simp only[aV,planOk,ay,gF] at hp;obtain ⟨t,z⟩:=hp;refine ⟨fun D=>(by rw[t] at D;cases D),fun j B=>?_⟩;have d:=B;rw[t] at B;obtain rfl:j=i:=(by simpa using B);unfold wpOp;simp only[l];by_cases g:Region.wanted o (yielded ops a.tmps)=true
    ·rw[ao g]
     rw[ao g] at h;simp only[bA,dD] at h;exact .inl (aFr (fun I w' f=>⟨fun _=>f.1,aEf m n p ρ u y r _ b I w' z hf e (hcl.set d) f.1 f.2⟩) (fun _ _ _ f=>f.elim) h)
    rw[ah g];rw[ah g] at h;exact ⟨fun _=>hS,aEf m n p ρ u y r _ b _ w z hf e (hcl.set d) hS h⟩
def depm (ops:Array Oper)(j:Nat):Nat:=
 match ops[j]? with
 | some o=>bitsOf ((o.after.toList.filter (Region.binds .any)).map (·.on))
 | none=>0
def closB (ops:Array Oper):List Nat->Nat->Nat
 | [],m=>m
 | j::js,m=>closB ops js (bif m.testBit j then Nat.lor m (depm ops j) else m)
theorem aKr {listed:Array Bool}(g:Closed ops listed){f:Nat}(r:f∈Region.ready .any ops listed) :
  ∀(l:List Nat) (m:Nat),(∀t,m.testBit t=true->t=f\/listed.getD t false=true)->∀t,(closB ops l m).testBit t=true->t=f\/listed.getD t false=true
 | [],m,h,t,a=>h t a
 | j::l,m,h,t,a=>by
  refine aKr g r l _ (fun t a=>?_) t a
  cases n:m.testBit j with
  | false=>rw[n] at a;exact h t a
  | true=>
   rw[n] at a;simp only[cond_true] at a;rw[show Nat.lor m (depm ops j)=m ||| depm ops j from rfl,cu,dt] at a;rcases a with a | a
   ·exact h t a
   right;unfold depm at a
   cases i:ops[j]? with
   | none=>rw[i] at a;simp at a
   | some o=>
    rw[i] at a;simp only[aAz,bh,ce,aX] at a;obtain ⟨e,⟨s,p⟩,rfl⟩:=a;have b:e∈o.after:=(by simpa using s);rcases h j n with rfl | q
    ·obtain ⟨_,u,c,d⟩:=ej.1 r
     rw[i] at c
     cases c
     exact d e b p
    refine g j o i ?_ e b p;rcases bo j listed.size with k | k
    ·simpa[k] using q
    simp[br k] at q
def lateChk (ops:Array Oper)(F:List Nat):Bool:=
 F.all fun f=>let m:=closB ops (List.range ops.size).reverse (2 ^ f);(List.range ops.size).all fun i=>F.contains i || m.testBit i
theorem bHh {F:List Nat}(h:lateChk ops F=true):LateOk ops F:=by
 intro listed d f g l i m b;have k:=bF.1 h f g;have a:=bF.1 k i (bL.2 m);simp only[dt] at a;rcases a with a | a
 ·exact absurd (by simpa using a) b
 rcases aKr d l _ _ (fun t j=>by rw[cF] at j;left;exact (aP j).symm) i a with c | c
 ·exact absurd (c▸g) b
 rcases bo i listed.size with e | e
 ·simpa[e] using c
 simp[br e] at c
def lates (F:List Nat):List (Bool×Nat):=F.map fun i=>(false,i)
def planChkL (ops:Array Oper) (π:List (Bool×Nat))(F:List Nat):Bool:=
 planChk ops (π++lates F) && lateChk ops F && (π.all fun x=>!F.contains x.2)
theorem aAq {id:Nat}{Q':Exit->Act->World->Prop}{a:Act}{w:World}(S:World->Prop) (π:List (Bool×Nat))(F:List Nat)(J:P.follows .mixedOrders=true)
  (d:planChkL ops π F=true)
  (r:S w.drew)
  (h:∀(T:World->Prop) (M:Addr->Option Value) (Q z:Act->World->Prop),(∀w,S w->T w)->(∀w,T w->S w)->(∀p v,(∀w,S w->w.cell? p=some v)->M p=some v)->
   (∀a w,wq P (fun _=>True) (fun _=>none) z (cmp ops (lates F)) a w->Q a w)->(∀a w,Q' .normal a w->z a w)->wq P T M Q (cmp ops π) a w.drew) :
  (Code.region id ops true).wp P Q' a w:=by
 simp only[planChkL,ay] at d;obtain ⟨⟨d,B⟩,C⟩:=d;simp only[planChk,ay,kY] at d;obtain ⟨⟨⟨D,E⟩,G⟩,k⟩:=d;have A:planOk ops (π++lates F) (Array.replicate ops.size false)=true:=aCz _ 0 _ (by simp) (fun j l=>by simp[l]) (fun j _=>by simp) G
 have f:Closed ops (Array.replicate ops.size false):=by
  intro j K l m;have:=(aU.1 l).1;simp[this] at m
 rw[iS,ay] at k
 have s:∀p v,(Classical.epsilon fun o:Option Value=>∀v,o=some v↔∀w,S w->w.cell? p=some v)=some v↔∀w,S w->w.cell? p=some v:=by
  intro p
  have g:∃o:Option Value,∀v,o=some v↔∀w,S w->w.cell? p=some v:=by
   by_cases b:∃v,∀w,S w->w.cell? p=some v
   ·obtain ⟨v,y⟩:=b
    refine ⟨some v,fun u=>⟨fun e=>(by cases e;exact y),fun n=>?_⟩⟩;have t:=y _ r;rw[n _ r] at t;exact t.symm
   exact ⟨none,fun u=>⟨fun e=>(by cases e),fun n=>absurd ⟨u,n⟩ b⟩⟩
  exact fG g
 refine it (wp_region_any J (aJq (S:=S) (F:=F) _ _ _ _ ?_))
 refine aEf (S:=S) (F:=F) (Qn:=Q' .normal) D (fun c a w h=>h) (bHh B) (lates F) (fun x b=>by obtain ⟨i,H,rfl⟩:=ce.1 b;exact ⟨rfl,H⟩) (fun a w q=>jc q) π _ _ _ _ A E
  (fun x b=>by have:=bF.1 C x b;simpa using this) f r ?_
 refine aBz (M:=fun p=>Classical.epsilon fun o:Option Value=>∀v,o=some v↔∀w,S w->w.cell? p=some v) (fun p v h=>(s p v).1 h) π a w.drew k.1 ?_;refine h S _ _ _ (fun _ h=>h) (fun _ h=>h) (fun p v h=>(s p v).2 h) (fun I w' q=>?_) (fun _ _ h=>h);exact aBz (M:=fun _=>none) (fun p v h=>by cases h) (lates F) I w' k.2 q
end
section
variable {P:Program} {S:World->Prop} {a:Act} {w:World} {K:Act->World->Prop}
theorem aTy {v:Value}(h:v.oneCell'=true):v.cells=#[v]:=by cases v<;>first | rfl | cases h
theorem aBa {t:TypeId}{x y:Operand}{q:Bool}{b o:Nat}{v:Value}(z:(P.info? t).map (·.size)=some 1)
  (A:a.eval x=.pointer (some ⟨b,o,none⟩)) (B:a.eval y=v) (C:(w.cell? ⟨b,o,none⟩).isSome=true) (D:w.frozen? ⟨b,o,none⟩=false) (c:v.oneCell'=true)
  (E:S (w.setCell ⟨b,o,none⟩ v)/\K (a.put dst undef) (w.setCell ⟨b,o,none⟩ v)) :
  effq P S ⟨q,dst,.store t x y,ty,g⟩ a w K:=by
 intro p F g
 have d:∀j,j<[v].length->(w.cell? ⟨b,o+0+j,none⟩).isSome=true:=by
  intro j k;obtain rfl:j=0:=by simpa using k
  exact C
 have e:∀j,j<[v].length->w.frozen? ⟨b,o+0+j,none⟩=false:=by
  intro j k;obtain rfl:j=0:=by simpa using k
  exact D
 have n:=kt (P:=P) b o [v] 0 w d e (fun u s=>by obtain rfl:=aS.1 s;exact c)
 have f:∃i,P.info? t=some i/\i.size=1:=by
  obtain ⟨i,c,r⟩:=be.1 z;exact ⟨i,c,r⟩
 obtain ⟨i,l,m⟩:=f;unfold Oper.wp execOp
 have h:(storeVar t ⟨b,o,none⟩ v).run P w=.ok () (w.setCell ⟨b,o,none⟩ v):=by
  simp[storeVar,sizeOf,typeInfo,l,m,aTy c,n,World.setCells]
 simp only[A,B,Instr.storeAt,Instr.sureAddr,bT,cE,bI,h];exact E
theorem bFl {t e:TypeId}{x:Operand}{q:Bool}{v:Value}(E:Elem P t e 1 bytes)
  (l:a.eval x=v) (m:v.oneCell'=true)
  (n:S (w.alloc (.cells #[v] e))/\K (a.put dst (.slice (some ⟨w.heap.size,0,none⟩) 1 1)) (w.alloc (.cells #[v] e))) :
  effq P S ⟨q,dst,.buildSlice t 1 #[(0,x)],ty,g⟩ a w K:=by
 intro p o g;obtain ⟨i,z,h,j,b,k,c⟩:=E.row;unfold Oper.wp execOp;have d:=aTy m
 have f:(Instr.buildSlice t 1 #[(0,v)]).run P w=.ok (.slice (some ⟨w.heap.size,0,none⟩) 1 1) (w.alloc (.cells #[v] e)):=by
  simp[Instr.buildSlice,bK E.und,sizeOf,typeInfo,h,b,zeroValue,j,Instr.fill,d,c,newRow,show Array.range 1=#[0] from rfl]
 simp only[gT,dc,dK,l,f,bT,cE,bI];exact n
end
structure OR where
 e:TypeId
 sz:Nat
 v:Value
 n:Nat
 xs:List Value
structure Owns (w:World) (base:Nat) (l:List OR):Prop where
 own:∀r∈l,w.ownsRow base r.e r.sz r.v r.n r.xs
 nd:(l.filterMap fun r=>r.v.ownBlock).Nodup
section
variable {w w':World} {base:Nat} {l l1 l2:List OR} {r r':OR}
theorem Owns.get(h:Owns w base l){i:Nat}(a:l[i]? = some r):w.ownsRow base r.e r.sz r.v r.n r.xs:=h.own r (aC a)
theorem Owns.turn(h:Owns w base (l1++r::l2))(q:w.grownBy w' r.v.ownBlock)(y:w'.ownsRow base r'.e r'.sz r'.v r'.n r'.xs)
  (j:r'.v.ownBlock=r.v.ownBlock\/r'.v.ownBlock=some w.heap.size):Owns w' base (l1++r'::l2):=by
 have c:=h.nd;simp only[gh,dT] at c
 have t:∀s∈l1++l2,∀g,s.v.ownBlock=some g->g<w.heap.size:=fun s d g q=>((h.own s (by
  simp only[aQ,ax] at *;rcases d with d | d<;>simp[d])).lt g q).2
 have k:∀s∈l1++l2,s.v.ownBlock=none\/s.v.ownBlock≠r.v.ownBlock:=by
  intro s d
  cases i:s.v.ownBlock with
  | none=>exact .inl rfl
  | some g=>
   right;intro e;rw[<-e] at c;simp only at c
   have m:g∈l1.filterMap (fun r=>r.v.ownBlock)\/g∈l2.filterMap (fun r=>r.v.ownBlock):=by
    rcases aQ.1 d with d | d
    ·exact .inl (cB.2 ⟨s,d,i⟩)
    exact .inr (cB.2 ⟨s,d,i⟩)
   rw[gz] at c;rcases m with p | p
   ·exact c.2.2 g p g (by simp) rfl
   exact (eD.1 c.2.1).1 p
 refine ⟨fun s d=>?_,?_⟩
 ·simp only[aQ,ax] at d
  rcases d with d | rfl | d
  ·exact (h.own s (by simp[d])).kept q (k s (by simp[d]))
  ·exact y
  exact (h.own s (by simp[d])).kept q (k s (by simp[d]))
 simp only[gh,dT];rcases j with e | e
 ·rw[e];exact c
 rw[e];simp only
 have f:(l1.filterMap (fun r=>r.v.ownBlock)++l2.filterMap (fun r=>r.v.ownBlock)).Nodup:=by
  cases i:r.v.ownBlock with
  | none=>rw[i] at c;exact c
  | some g=>
   rw[i] at c;simp only at c;rw[gz] at c ⊢;exact ⟨c.1,(eD.1 c.2.1).2,fun a ha b j=>c.2.2 a ha b (am _ j)⟩
 have o:∀l:List OR,(∀s∈l,s∈l1++l2)->w.heap.size∉l.filterMap (fun r=>r.v.ownBlock):=by
  intro l u p;obtain ⟨s,d,i⟩:=cB.1 p;exact absurd (t s (u s d) _ i) (cG _)
 rw[gz] at f ⊢;refine ⟨f.1,eD.2 ⟨o l2 (fun s d=>by simp[d]),f.2.1⟩,fun a ha b j=>?_⟩;rcases ax.1 j with rfl | j
 ·intro x;subst x;exact o l1 (fun s d=>by simp[d]) ha
 exact f.2.2 a ha b j
theorem Owns.same(h:Owns w base l)(b:w.grownBy w' none):Owns w' base l:=
 ⟨fun s a=>(h.own s a).kept b (by cases s.v.ownBlock<;>simp),h.nd⟩
theorem Owns.alloc(h:Owns w base l)(o:Obj):Owns (w.alloc o) base l:=h.same (eI w o none)
theorem Owns.drew(h:Owns w base l):Owns w.drew base l:=⟨fun s a=>(h.own s a).drew,h.nd⟩
end
theorem len_flat {α:Type}{f:α->List Value}{k:Nat}(b:∀a,(f a).length=k):∀l:List α,(l.flatMap f).length=l.length*k
 | []=>by simp
 | a::l=>by rw[aL,ae,b,len_flat b l,aD,fe];omega
inductive PT
 | leaf
 | q (i:Nat) (t:PT)
 | b (i:Nat) (t:PT)
 | one (i:Nat) (t:PT)
 | two (i:Nat) (t:PT) (j:Nat) (u:PT)
 | three (i:Nat) (t:PT) (j:Nat) (u:PT) (k:Nat) (v:PT)
def PT.dep:PT->Nat
 | .leaf=>0
 | .q _ t=>t.dep+1
 | .b _ t=>t.dep+1
 | .one _ t=>t.dep+1
 | .two _ t _ u=>max t.dep u.dep+1
 | .three _ t _ u _ v=>max t.dep (max u.dep v.dep)+1
def among (m:Nat)(l:List Nat):List (Nat×Nat)->Nat->Bool
 | [],_=>true
 | x::r,j=>(l.any (Nat.beq j) || m.testBit j || !inM x.1 m) && among m l r (j+1)
def upB (D:List (Nat×Nat))(m i:Nat):Bool:=
 match D[i]? with
 | none=>false
 | some x=>!m.testBit i && inM x.1 m
def okB (ops:Array Oper)(i:Nat):Bool:=
 (ops[i]?).isSome && (match (ops[i]?).bind (·.guard) with | some (j,_)=>((ops[j]?).bind (·.dst)).isSome | none=>true)
def okN (ops:Array Oper)(i:Nat):Bool:=
 match ops[i]? with
 | some o=>o.guard.isNone
 | none=>false
def planT (ops:Array Oper)(D:List (Nat×Nat)):PT->Nat->Bool
 | .leaf,m=>inM (2 ^ D.length-1) m
 | .q i t,m=>(match D[i]? with | none=>false | some x=>!m.testBit i && inM x.1 m && inM x.2 m) && okB ops i && planT ops D t (Nat.lor m (2 ^ i))
 | .b i t,m=>(match D[i]? with | none=>false | some x=>!m.testBit i && inM x.1 m && inM x.2 m) && okN ops i && planT ops D t (Nat.lor m (2 ^ i))
 | .one i t,m=>upB D m i && among m [i] D 0 && okB ops i && planT ops D t (Nat.lor m (2 ^ i))
 | .two i t j u,m=>upB D m i && among m [i,j] D 0 && okB ops i && okB ops j && planT ops D t (Nat.lor m (2 ^ i)) && planT ops D u (Nat.lor m (2 ^ j))
 | .three i t j u k v,m=>upB D m i && among m [i,j,k] D 0 && okB ops i && okB ops j && okB ops k && planT ops D t (Nat.lor m (2 ^ i)) && planT ops D u (Nat.lor m (2 ^ j)) && planT ops D v (Nat.lor m (2 ^ k))
structure Rel (ops:Array Oper) (listed:Array Bool) (m:Nat):Prop where
 size:listed.size=ops.size
 bits:∀j,j<ops.size->listed[j]? = some (m.testBit j)
 out:∀j,ops.size<=j->m.testBit j=false
section
variable {ops:Array Oper} {listed:Array Bool} {m:Nat}
theorem Rel.set(h:Rel ops listed m){i:Nat}(c:i<ops.size):Rel ops (listed.setIfInBounds i true) (Nat.lor m (2 ^ i)):=by
 refine ⟨by simp[h.size],fun j b=>?_,fun j b=>?_⟩
 ·rw[show Nat.lor m (2 ^ i)=m ||| 2 ^ i from rfl,iQ]
  by_cases a:i=j
  ·subst a;simp[h.size,c,cu]
  rw[ah a,h.bits j b,cu,cF];simp[a]
 rw[show Nat.lor m (2 ^ i)=m ||| 2 ^ i from rfl,cu,cF,h.out j b];simp;omega
theorem aJo(_h:Rel ops listed m)(g:Oper):inM (obits ops g).dep m=true↔∀e∈g.after,Region.binds .any e=true->m.testBit e.on=true:=by
 constructor
 ·intro c e d a
  refine aKm c ?_;simp only[obits,aAz,bh,cB];exact ⟨e,by simpa using d,by simp[a]⟩
 intro c;refine bLg fun t f=>?_;simp only[obits,aAz,bh,cB] at f;obtain ⟨e,d,b⟩:=f;split at b
 ·rename_i a
  cases b
  exact c e (by simpa using d) a
 cases b
theorem aGr(h:Rel ops listed m){j:Nat}{f:Oper}(n:ops[j]? = some f):j∈Region.ready .any ops listed↔m.testBit j=false/\inM (obits ops f).dep m=true:=by
 have a:j<ops.size:=(aU.1 n).1;rw[ej];constructor
 ·rintro ⟨i,p,d,k⟩
  rw[n] at d;cases d;refine ⟨by simpa[h.bits j a] using i,(aJo h f).2 fun e l b=>?_⟩;have:=k e l b;by_cases c:e.on<ops.size
  ·simpa[h.bits _ c] using this
  have o:listed[e.on]? = none:=by rw[br];have:=h.size;omega
  simp[o] at this
 rintro ⟨i,k⟩;refine ⟨by simp[h.bits j a,i],f,n,fun e l b=>?_⟩;have g:=(aJo h f).1 k e l b;by_cases c:e.on<ops.size
 ·simp[h.bits _ c,g]
 rw[h.out _ O] at g
 cases g
theorem aHd {j:Nat}{a:Oper}(c:ops[j]? = some a):(dataOf ops)[j]? = some ((obits ops a).dep,clash j (obits ops a) (ops.toList.map (obits ops)) 0):=by
 have b:ops.toList[j]? = some a:=by simpa using c
 simp only[dataOf];rw[aFh,aG,b];simp
theorem bGv(h:Rel ops listed m){i:Nat}{o:Oper}(w:ops[i]? = some o)(E:inM (clash i (obits ops o) (ops.toList.map (obits ops)) 0) m=true):Region.free .any ops listed i=true:=by
 simp only[Region.free,w,bF,bL,dt,gF];intro j y;by_cases n:j=i
 ·exact .inl (.inl n)
 cases A:m.testBit j with
 | true=>exact .inl (.inr (by simp[h.bits j y,A]))
 | false=>
  right;obtain ⟨k,l⟩:∃k,ops[j]? = some k:=⟨ops[j],cr y⟩;simp only[l,dt]
  have q:(clash i (obits ops o) (ops.toList.map (obits ops)) 0).testBit (0+j)=false:=by
   rw[aO]
   cases p:(clash i (obits ops o) (ops.toList.map (obits ops)) 0).testBit j with
   | false=>rfl
   | true=>
    have:=aKm E p;simp[A] at this
  have r:(ops.toList.map (obits ops))[j]? = some (obits ops k):=by
   rw[aG];have:ops.toList[j]? = some k:=(by simpa using l);rw[this];rfl
  rcases aMx _ 0 j _ r q with g | g | g
  ·exact absurd O n
  ·left
   simp only[obits,aAz,bh,cB] at g;obtain ⟨e,B,f⟩:=g;split at f
   ·rename_i c
    rw[kX];exact ⟨e,by simpa using B,by simp at f;simp[c,f]⟩
   cases f
  right;obtain ⟨z,C⟩:=g
  have s:∀(a b:Nat),a &&& b=0->∀t,a.testBit t=true->b.testBit t=true->False:=by
   intro a b u t ha D;have:=congrArg (·.testBit t) u;simp[iP,ha,D] at this
  simp only[Oper.apart,ay];constructor
  ·cases x:o.dst with
   | none=>rfl
   | some d=>
    simp only[ay,cz,bne_iff_ne];have c:(obits ops o).dst.testBit d=true:=(by simp[obits,x]);constructor
    ·cases p:(k.looksAt ops).contains d with
     | false=>rfl
     | true=>
      exfalso;refine s _ _ z d ?_ c;rw[show Nat.lor _ _=_ ||| _ from rfl,cu]
      have:(obits ops k).look.testBit d=true:=by
       simp only[obits,aAz,bh];simpa using p
      simp[this]
    intro v;refine s _ _ z d ?_ c;rw[show Nat.lor _ _=_ ||| _ from rfl,cu];have:(obits ops k).dst.testBit d=true:=(by simp[obits,v]);simp[this]
  cases x:k.dst with
  | none=>rfl
  | some d=>
   simp only[cz]
   cases p:(o.looksAt ops).contains d with
   | false=>rfl
   | true=>
    exfalso;refine s _ _ C d ?_ ?_
    ·simp only[obits,aAz,bh];simpa using p
    simp[obits,x]
theorem aPh {l:List Nat}:∀(r:List (Nat×Nat)) (k j:Nat) (x:Nat×Nat),among m l r k=true->r[j]? = some x->k+j∈l\/m.testBit (k+j)=true\/inM x.1 m=false
 | [],k,j,x,_,h=>by simp at h
 | z::r,k,0,x,h,hx=>by
  obtain rfl:z=x:=by simpa using hx
  simp only[among,ay,dt] at h;rcases h.1 with (a | a) | a
  ·obtain ⟨y,b,c⟩:=bZ.1 a
   have:=dW c;subst this;exact .inl (by simpa using b)
  ·exact .inr (.inl (by simpa using a))
  exact .inr (.inr (by simpa using a))
 | z::r,k,j+1,x,h,hx=>by
  simp only[among,ay] at h;have:=aPh r (k+1) j x h.2 (by simpa using hx);rw[show k+1+j=k+(j+1) from O] at this;exact this
theorem aIn(h:Rel ops listed m){l:List Nat}(ha:among m l (dataOf ops) 0=true){j:Nat}(b:j∈Region.ready .any ops listed):j∈l:=by
 obtain ⟨_,e,a,_⟩:=ej.1 b;obtain ⟨c,d⟩:=(aGr h a).1 b;rcases aPh _ 0 j _ ha (aHd a) with g | g | g
 ·simpa using g
 ·simp[c] at g
 rw[d] at g;cases g
theorem aNj(h:Rel ops listed m){i:Nat}(b:upB (dataOf ops) m i=true):i∈Region.ready .any ops listed:=by
 unfold upB at b;split at b
 ·cases b
 rename_i x c;simp only[ay,cz] at b
 have e:(dataOf ops).length=ops.size:=by
  have f:∀(a l:List OBits) (k:Nat),(clashes a l k).length=l.length:=by
   intro a l
   induction l with
   | nil=>intro k;rfl
   | cons x l ih=>intro k;simp[clashes,ih]
  simp[dataOf,f]
 have g:i<ops.size:=by rw[<-e];exact (aj.1 c).1
 have d:ops[i]? = some ops[i]:=cr g;rw[aHd d] at c
 cases c
 exact (aGr h d).2 b
end
def bq (P:Program)(S:World->Prop)(x:QOp)(a:Act)(K:Act->World->Prop)(w:World):Prop:=∃v,QYields P S x.op x.type a v/\K (a.put x.dst v) w
def wt (P:Program)(S:World->Prop)(M:Addr->Option Value)(ops:Array Oper)(Q:Act->World->Prop):PT->Act->World->Prop
 | .leaf=>Q
 | .q i t=>fun a w=>wq P S M (wt P S M ops Q t) [cmp1 ops true i] a w
 | .b i t=>fun a w=>bq P S (cmp1 ops true i) a (wt P S M ops Q t) w
 | .one i t=>fun a w=>wq P S M (wt P S M ops Q t) [cmp1 ops false i] a w
 | .two i t j u=>fun a w=>wq P S M (wt P S M ops Q t) [cmp1 ops false i] a w/\wq P S M (wt P S M ops Q u) [cmp1 ops false j] a w
 | .three i t j u k v=>fun a w=>wq P S M (wt P S M ops Q t) [cmp1 ops false i] a w/\wq P S M (wt P S M ops Q u) [cmp1 ops false j] a w/\wq P S M (wt P S M ops Q v) [cmp1 ops false k] a w
section
variable {P:Program} {S:World->Prop} {M:Addr->Option Value} {ops:Array Oper} {Q:Act->World->Prop} {Q':Exit->Act->World->Prop}
theorem bGl {i:Nat}{q:Bool}(h:okB ops i=true):([(q,i)].all fun x=>(ops[x.2]?).isSome && (match (ops[x.2]?).bind (·.guard) with | some (j,_)=>((ops[j]?).bind (·.dst)).isSome | none=>true))=true:=by
 simpa[okB] using h
theorem aKp(k:∀p v,M p=some v->∀w,S w->w.cell? p=some v){C K:Act->World->Prop}{i:Nat}{a:Act}{w:World}(l:okB ops i=true)(f:S w)
  (h:wq P S M C [cmp1 ops false i] a w) (g:∀d w',S w'->C d w'->K d w') :
  wpOp P ops Q' i (fun d w'=>S w'/\K d w') a w:=by
 have b:=aBz (ops:=ops) (Q:=C) k [(false,i)] a w (bGl l) h;simp only[wl] at b
 cases c:ops[i]? with
 | none=>simp only[c] at b
 | some o=>
  simp only[c] at b;unfold wpOp;simp only[c];by_cases j:Region.wanted o (yielded ops a.tmps)=true
  ·rw[ao j] at b ⊢
   simp only[bA,dD] at b;exact .inl (aFr (fun d w' e=>⟨e.1,g _ _ e.1 e.2⟩) (fun _ _ _ e=>e.elim) b)
  rw[ah j] at b ⊢;exact ⟨f,g _ _ f b⟩
theorem bJx(hs:Region.noSelect ops=true)(K:∀p v,M p=some v->∀w,S w->w.cell? p=some v)(hQ:∀a w,Q a w->Q' .normal a w)(hP:∀c a w,¬Q' (.panic c) a w) :
  ∀(t:PT) (m:Nat) (listed:Array Bool) (d:Nat) (a:Act) (w:World),Rel ops listed m->planT ops (dataOf ops) t m=true->t.dep<=d->S w->
   wt P S M ops Q t a w->wpAnyH P .any ops Q' S d listed a w:=by
 intro t
 have lt:∀{i:Nat},okB ops i=true->i<ops.size:=fun {i} h=>by
  simp only[okB,ay] at h;obtain ⟨o,ho⟩:=b8.1 h.1;exact (aU.1 ho).1
 induction t with
 | leaf=>
  intro m listed d a w g s r y h;simp only[planT] at s;refine wpAnyH_done ?_ (hQ _ _ h) d;apply fu.2;intro j U;obtain ⟨_,oj,O,_⟩:=ej.1 U;have L:j<ops.size:=(aU.1 O).1
  have hl:(dataOf ops).length=ops.size:=by
   have G:∀(R l:List OBits) (k:Nat),(clashes R l k).length=l.length:=by
    intro R l
    induction l with
    | nil=>intro k;rfl
    | cons x l ih=>intro k;simp[clashes,ih]
   simp[dataOf,G]
  rw[hl] at s;have hb:=aKm s (t:=j) (by rw[iZ];simpa using L);have:=((aGr g O).1 U).1;rw[hb] at this;cases this
 | q i t ih=>
  intro m listed d a w g s r y h;obtain ⟨d,rfl⟩:∃k,d=k+1:=⟨d-1,by simp only[PT.dep] at r;omega⟩;simp only[PT.dep,bQ] at r;simp only[planT,ay] at s;obtain ⟨⟨z,A⟩,B⟩:=s;have N:=lt A;have f:ops[i]? = some ops[i]:=cr N;rw[aHd f] at z;simp only[ay,cz] at z;obtain ⟨⟨Z,g2⟩,g3⟩:=z;have C:=aBz (ops:=ops) (Q:=wt P S M ops Q t) K [(true,i)] a w (bGl A) h;simp only[wl,f] at C;have E:=(aGr g f).2 ⟨Z,g2⟩;have F:=bGv g f g3;by_cases W:Region.wanted ops[i] (yielded ops a.tmps)=true
  ·rw[ao W,ao trivial] at C
   obtain ⟨v,hv,hk⟩:=C;exact jq f hs F (by simpa using E) (fun c a w G=>absurd G (hP _ _ _)) (.inl ⟨W,fun w J=>hv w _ _ _ _ J⟩) y (ih _ _ d _ w (g.set N) B r y hk)
  rw[ah W] at C;exact jq f hs F (by simpa using E) (fun c a w G=>absurd G (hP _ _ _)) (.inr ⟨by simpa using W,rfl⟩) y (ih _ _ d _ w (g.set N) B r y C)
 | b i t ih=>
  intro m listed d a w g s r y h;obtain ⟨d,rfl⟩:∃k,d=k+1:=⟨d-1,by simp only[PT.dep] at r;omega⟩;simp only[PT.dep,bQ] at r;simp only[planT,ay] at s;obtain ⟨⟨z,A⟩,B⟩:=s;unfold okN at A;split at A
  ·rename_i o f
   rw[aHd f] at z;simp only[ay,cz] at z;obtain ⟨⟨Z,g2⟩,g3⟩:=z;have N:i<ops.size:=(aU.1 f).1;have E:=(aGr g f).2 ⟨Z,g2⟩;have F:=bGv g f g3;have hg:o.guard=none:=(by simpa using A);have X:ops.toList[i]? = some o:=(by simpa using f);simp only[wt,bq,cmp1,X] at h;obtain ⟨v,hv,hk⟩:=h;exact jq f hs F (by simpa using E) (fun c a w G=>absurd G (hP _ _ _)) (.inl ⟨by simp[Region.wanted,hg],fun w J=>hv w _ _ _ _ J⟩) y (ih _ _ d _ w (g.set N) B r y hk)
  cases A
 | one i t ih=>
  intro m listed d a w g s r y h;obtain ⟨d,rfl⟩:∃k,d=k+1:=⟨d-1,by simp only[PT.dep] at r;omega⟩;simp only[PT.dep,bQ] at r;simp only[planT,ay] at s;obtain ⟨⟨⟨z,A⟩,B⟩,I⟩:=s;refine kW rfl (fun e=>by have:=aNj g z;rw[e] at this;cases this) fun j U=>?_;have Y:=aIn g A U;obtain rfl:j=i:=by simpa using Y
  exact aKp K B y h fun T w' n D=>ih _ _ d _ w' (g.set (lt B)) I r n D
 | two i t j u ih1 ih2=>
  intro m listed d a w g s r y h;obtain ⟨d,rfl⟩:∃k,d=k+1:=⟨d-1,by simp only[PT.dep] at r;omega⟩;simp only[PT.dep,bQ] at r;simp only[planT,ay] at s;obtain ⟨⟨⟨⟨⟨z,A⟩,B⟩,I⟩,V⟩,h6⟩:=s;refine kW rfl (fun e=>by have:=aNj g z;rw[e] at this;cases this) fun x hx=>?_;have H:=aIn g A hx;rcases (by simpa using H:x=i\/x=j) with rfl | rfl
  ·exact aKp K B y h.1 fun T w' n D=>ih1 _ _ d _ w' (g.set (lt B)) V ω n D
  exact aKp K I y h.2 fun T w' n D=>ih2 _ _ d _ w' (g.set (lt I)) h6 ω n D
 | three i t j u k v ih1 ih2 ih3=>
  intro m listed d a w g s r y h;obtain ⟨d,rfl⟩:∃k,d=k+1:=⟨d-1,by simp only[PT.dep] at r;omega⟩;simp only[PT.dep,bQ] at r;simp only[planT,ay] at s;obtain ⟨⟨⟨⟨⟨⟨⟨z,A⟩,B⟩,I⟩,V⟩,h6⟩,h7⟩,h8⟩:=s;refine kW rfl (fun e=>by have:=aNj g z;rw[e] at this;cases this) fun x hx=>?_;have H:=aIn g A hx;rcases (by simpa using H:x=i\/x=j\/x=k) with rfl | rfl | rfl
  ·exact aKp K B y h.1 fun T w' n D=>ih1 _ _ d _ w' (g.set (lt B)) h6 ω n D
  ·exact aKp K I y h.2.1 fun T w' n D=>ih2 _ _ d _ w' (g.set (lt I)) h7 ω n D
  exact aKp K V y h.2.2 fun T w' n D=>ih3 _ _ d _ w' (g.set (lt V)) h8 ω n D
end
def planChkT (ops:Array Oper)(t:PT):Bool:=Region.noSelect ops && Nat.ble t.dep ops.size && planT ops (dataOf ops) t 0
theorem aAv {P:Program}{ops:Array Oper}{id:Nat}{Q':Exit->Act->World->Prop}{a:Act}{w:World}(S:World->Prop)(t:PT)(x:P.follows .mixedOrders=true)
  (l:planChkT ops t=true)
  (f:S w.drew)
  (h:∀(T:World->Prop) (M:Addr->Option Value) (Q:Act->World->Prop),(∀w,S w->T w)->(∀w,T w->S w)->(∀p v,(∀w,S w->w.cell? p=some v)->M p=some v)->(∀a w,Q' .normal a w->Q a w)->wt P T M ops Q t a w.drew) :
  (Code.region id ops true).wp P Q' a w:=by
 simp only[planChkT,ay,kY] at l;obtain ⟨⟨n,q⟩,r⟩:=l
 have g:∀p v,(Classical.epsilon fun o:Option Value=>∀v,o=some v↔∀w,S w->w.cell? p=some v)=some v↔∀w,S w->w.cell? p=some v:=by
  intro p
  have b:∃o:Option Value,∀v,o=some v↔∀w,S w->w.cell? p=some v:=by
   by_cases m:∃v,∀w,S w->w.cell? p=some v
   ·obtain ⟨v,k⟩:=m
    refine ⟨some v,fun u=>⟨fun e=>(by cases e;exact k),fun d=>?_⟩⟩;have i:=k _ f;rw[d _ f] at i;exact i.symm
   exact ⟨none,fun u=>⟨fun e=>(by cases e),fun d=>absurd ⟨u,d⟩ m⟩⟩
  exact fG b
 refine it (wp_region_held (S:=S) x ?_)
 exact bJx (M:=fun p=>Classical.epsilon fun o:Option Value=>∀v,o=some v↔∀w,S w->w.cell? p=some v) n
  (fun p v h=>(g p v).1 h) (fun _ _ h=>jc h) (fun c a w h=>h) t 0 _ _ _ _ ⟨by simp,fun j s=>by simp[s],fun j _=>by simp⟩ r q f
  (h S _ _ (fun _ h=>h) (fun _ h=>h) (fun p v h=>(g p v).2 h) (fun _ _ h=>h))
theorem bEi {P:Program}{a:Act}{w:World}{x:QOp}{v:Value}
  (c:∀(p:String) (b:Array Edge) (g:Option (Nat×Bool)),(execOp a.eval ⟨x.dst,x.op,x.type,p,b,g⟩).run P w=.ok (.value v) w) (d:S w/\K (a.put x.dst v) w) :
  effq P S x a w K:=by
 intro p b g;unfold Oper.wp;rw[c];exact d
theorem aQu {P:Program}{a:Act}{w:World}{x:QOp}{v:Value}
  (c:∀(p:String) (b:Array Edge) (g:Option (Nat×Bool)),(execOp a.eval ⟨x.dst,x.op,x.type,p,b,g⟩).run P w=.ok (.value v) w') (d:S w'/\K (a.put x.dst v) w') :
  effq P S x a w K:=by
 intro p b g;unfold Oper.wp;rw[c];exact d
section
variable {P:Program} {S:World->Prop} {M:Addr->Option Value} {ops:Array Oper} {Q:Act->World->Prop} {i j k:Nat} {t u v:PT} {a:Act} {w:World}
theorem aCm:wt P S M ops Q .leaf a w=Q a w:=rfl
theorem wt_q:wt P S M ops Q (.q i t) a w=wq P S M (wt P S M ops Q t) [cmp1 ops true i] a w:=rfl
theorem wt_b:wt P S M ops Q (.b i t) a w=bq P S (cmp1 ops true i) a (wt P S M ops Q t) w:=rfl
theorem aAn:wt P S M ops Q (.one i t) a w=wq P S M (wt P S M ops Q t) [cmp1 ops false i] a w:=rfl
theorem aBe:wt P S M ops Q (.two i t j u) a w=(wq P S M (wt P S M ops Q t) [cmp1 ops false i] a w/\wq P S M (wt P S M ops Q u) [cmp1 ops false j] a w):=rfl
theorem aCu(h:∀O,(∀q i,cmp1 O q i=cmp1 ops q i)->wt P S M O Q t a w):wt P S M ops Q t a w:=h ops fun _ _=>rfl
end
theorem aCc {P:Program}{a:Act}{w:World}{t:TypeId}{parts:Array (Nat×Operand)}{q:Bool}{c:Array (Nat×Value)}{v:Value}
  (e:(parts.toList.map fun p=>(p.1,a.eval p.2)).toArray=c) (f:∀w,(Instr.build t c).run P w=.ok v w) (h:K (a.put dst v) w):bq P S ⟨q,dst,.build t parts,ty,g⟩ a K w:=by
 refine ⟨v,fun w d p i g _=>?_,h⟩;have b:(parts.map fun p=>(p.1,a.eval p.2))=c:=by rw[<-e];apply dX.1;simp
 unfold execOp;simp only[b,f,bT,cE,bI]
theorem aAp {P:Program}{a:Act}{w:World}{t:TypeId}{x y:Operand}{q:Bool}{d:Option (Tmp×Bool)}{g:Nat}{cells b:Array Value}{e:TypeId}
  (f:a.eval x=.pointer (some ⟨g,0,none⟩)) (h:a.eval y=.agg cells) (i:w.heap[g]? = some (.cells b e (0,0))) (j:(P.info? t).map (·.size)=some cells.size)
  (c:b.size=cells.size) (k:cells.all (·.oneCell')=true) (l:S (w.setRow g cells)/\K (a.put dst undef) (w.setRow g cells)) :
  effq P S ⟨q,dst,.store t x y,ty,d⟩ a w K:=fun _p _af _g'=>wp_store_row t x y rfl g cells f h e b i j c k l
section
variable {α:Type}
def lall2 (eq:α->α->Bool):List α->List α->Bool
 | [],[]=>true
 | x::xs,y::ys=>eq x y && lall2 eq xs ys
 | _,_=>false
variable {eq:α->α->Bool}
theorem aTt:∀{xs ys:List α},xs.length≠ys.length->lall2 eq xs ys=false
 | [],[],h=>absurd rfl h
 | [],_::_,_=>rfl
 | _::_,[],_=>rfl
 | x::xs,y::ys,h=>by rw[lall2,aTt (xs:=xs) (ys:=ys) (by simpa using h),gI]
theorem aVe:∀{xs ys:List α} {k:Nat} {x y:α},xs[k]? = some x->ys[k]? = some y->eq x y=false->lall2 eq xs ys=false
 | a::xs,b::ys,0,x,y,h1,h2,h=>by
  simp at h1 h2;subst h1;subst h2;rw[lall2,h,eT]
 | a::xs,b::ys,k+1,x,y,h1,h2,h=>by
  simp at h1 h2;rw[lall2,aVe h1 h2 h,gI]
 | [],_,k,x,y,h1,_,_=>by simp at h1
 | _::_,[],k,x,y,_,h2,_=>by simp at h2
def EqTo (eq:α->α->Bool)(xs ys:List α)(k:Nat):Prop:=∀j x y,j<k->xs[j]? = some x->ys[j]? = some y->eq x y=true
theorem EqTo.next {xs ys:List α}{k:Nat}{x y:α}(h:EqTo eq xs ys k)(d:xs[k]? = some x)(f:ys[k]? = some y)(g:eq x y=true):EqTo eq xs ys (k+1):=by
 intro j a b i ha c;by_cases e:j=k
 ·subst e;rw[d] at ha;rw[f] at c;injection ha with ha;injection c with c;subst ha;subst c;exact g
 exact h j a b O ha c
theorem EqTo.done:∀{xs ys:List α} {n:Nat},EqTo eq xs ys n->xs.length=n->ys.length=n->lall2 eq xs ys=true
 | [],[],_,_,_,_=>rfl
 | [],_::_,_,_,h1,h2=>by subst h1;simp at h2
 | _::_,[],_,_,h1,h2=>by subst h1;simp at h2
 | x::xs,y::ys,n,h,h1,h2=>by
  simp only[aD] at h1 h2;rw[lall2,h 0 x y O rfl rfl,EqTo.done (xs:=xs) (ys:=ys) (n:=n-1) (fun j a b d ha c=>h (j+1) a b O (by simpa using ha) (by simpa using c)) O O];rfl
theorem aZh[DecidableEq α]:∀(xs ys:List α),lall2 (fun x y=>decide (x=y)) xs ys=decide (xs=ys)
 | [],[]=>by simp[lall2]
 | [],_::_=>by simp[lall2]
 | _::_,[]=>by simp[lall2]
 | x::xs,y::ys=>by rw[lall2,aZh xs ys];by_cases h:x=y<;>simp[h]
end
theorem FV.eq_iff {x y:FV}:x=y↔x.path=y.path/\x.exec=y.exec/\x.text=y.text:=by
 cases x;cases y;simp
theorem bHd(x y:FV)(w:World):(Op.equalIn 10000 48 (.agg #[.string x.path,.bool x.exec,.string x.text]) (.agg #[.string y.path,.bool y.exec,.string y.text])).run prog w=.ok (decide (x=y)) w:=by
 by_cases a:x.path=y.path
 case neg=>rw[ak (fun e=>a (by rw[e]))];have d:¬x.path.toList=y.path.toList:=a7.1 (aBi a);go_simp<;>simp_all
 by_cases c:x.exec=y.exec
 case neg=>rw[ak (fun e=>c (by rw[e]))];go_simp<;>simp_all
 by_cases b:x.text=y.text
 case neg=>rw[ak (fun e=>b (by rw[e]))];have d:¬x.text.toList=y.text.toList:=a7.1 (aBi b);go_simp<;>simp_all
 rw[aq (FV.eq_iff.2 ⟨a,c,b⟩)];go_simp<;>simp_all
theorem aYo(x y:FV)(w:World):Calls prog 50 #[.agg #[.string x.path,.bool x.exec,.string x.text],.agg #[.string y.path,.bool y.exec,.string y.text]] w (BoolBelow (decide (x=y)) w):=by
 have d:∀k l:Obj,Below w.heap.size w ((w.alloc k).alloc l):=fun k l=>((Below.refl _ _).alloc (aa _) _).alloc (by simp) _
 cases i:decide (x=y) with
 | true=>
  obtain rfl:=aP i;clear i;go_enter ku,jY;go_wp2;go_ret;exact ⟨rfl,d _ _⟩
 | false=>
  have e:=cj i;clear i;by_cases a:x.path=y.path
  case neg=>
   have j:¬x.path.toList=y.path.toList:=a7.1 (aBi a);clear e;go_enter ku,jY;go_wp2;go_ret;exact ⟨rfl,d _ _⟩
  have f:=a;by_cases c:x.exec=y.exec
  case neg=>
   clear e;go_enter ku,jY;go_wp2;go_ret;exact ⟨rfl,d _ _⟩
  have g:=c;by_cases b:x.text=y.text
  case neg=>
   have j:¬x.text.toList=y.text.toList:=a7.1 (aBi b);clear e;go_enter ku,jY;go_wp2;go_ret;exact ⟨rfl,d _ _⟩
  have h:=b;exact absurd (FV.eq_iff.2 ⟨a,c,b⟩) e
theorem bHy {G:FuncId}{B:Option Addr}{n ca m cb:Nat}{xs ys:List FV}{w:World}(eq:FV->FV->Bool)(hn:n<=17592186044416)(hm:m<=17592186044416)
  (ha:Rd w w.heap.size 3 A n ca (xs.flatMap FV.cells)) (hb:Rd w w.heap.size 3 B m cb (ys.flatMap FV.cells)) (O:xs.length=n) (P:ys.length=m) (hG:isGo prog G=true)
  (HC:∀x∈xs,∀y∈ys,∀v,Below w.heap.size w v->Calls prog G #[.agg #[.string x.path,.bool x.exec,.string x.text],.agg #[.string y.path,.bool y.exec,.string y.text]] v (BoolBelow (eq x y) v)) :
  Calls prog 49 #[.slice A n ca,.slice B m cb,.func (.func G) #[] #[]] w (BoolBelow (lall2 eq xs ys) w):=by
 have D:=hid O;have E:=hid P;by_cases h:n=m
 ·subst h
  go_enter Tryz.func49,Tryz.ntmps49;go_wp2;go_loopw[7] (fun i wr=>∃k:Nat,k<=n/\i=.int .i64 k/\Below w.heap.size w wr/\Hid (EqTo eq xs ys k)) (fun i _=>n-(intOf i).toNat)
  case atStart=>exact ⟨0,al _,rfl,Below.refl _ _,fun j _ _ t=>absurd t (bN _)⟩
  obtain ⟨k,hk,rfl,a,t⟩:=hrel;by_cases q:k<n
  ·obtain ⟨d,g,u,eA,ff,Y,H,p⟩:=T.rd_flat FV.cells_len ω ha D.out q
   obtain ⟨f,l,v,eB,o,Z,I,r⟩:=T.rd_flat FV.cells_len ω hb E.out q
   cases eA
   cases eB
   have R:=hid Y;have S:=hid Z;clear Y Z;have F:=a.size;have C:=HC u H v I;go_wp2;refine aAe (fun w'=>Below w.heap.size w w') (qe [9] 11) mixed κ a.drew ?_;intro T M Q hT J K hQ;have mp:∀j v,(FV.cells u)[j]? = some v->M ⟨d,g+k*3+j,none⟩=some v:=fun j v L=>K _ _ fun w' N=>(N.cell (p:=⟨d,g+k*3+j,none⟩) (by show d<_;omega)).trans (p j v L);have s:∀j x,(FV.cells v)[j]? = some x->M ⟨f,l+k*3+j,none⟩=some x:=fun j v L=>K _ _ fun w' N=>(N.cell (p:=⟨f,l+k*3+j,none⟩) (by show f<_;omega)).trans (r j v L);have U:M ⟨d,g+k*3,none⟩=some (.string u.path):=mp 0 _ rfl;have V:M ⟨f,l+k*3,none⟩=some (.string v.path):=s 0 _ rfl;have W:M ⟨d,g+k*3+1,none⟩=some (.bool u.exec):=mp 1 _ rfl;have q1:M ⟨f,l+k*3+1,none⟩=some (.bool v.exec):=s 1 _ rfl;have X:M ⟨d,g+k*3+2,none⟩=some (.string u.text):=mp 2 _ rfl;have q2:M ⟨f,l+k*3+2,none⟩=some (.string v.text):=s 2 _ rfl;clear K mp s p r;simp only[qcmp,Nat.reduceBEq];simp (maxSteps:=9^7) only[↓qpre,aAb,aAg,aAc,U,V,W,q1,X,q2];refine ⟨⟨ω,ω⟩,⟨ω,ω⟩,aAh hG (C _ a.drew) rfl rfl ?_⟩;rintro e w1 ⟨rfl,o⟩;have b:Below w.heap.size w w1:=a.drew.trans (o.mono F);refine ⟨_,rfl,hT _ b,?_⟩;simp (maxSteps:=9^7) only[↓qpre,aAb,aAc];refine hQ _ _ ?_;clear hQ hT J U V W q1 X q2 C
   cases z:eq u v with
   | true=>
    have c:=hid (t.out.next R.out S.out z);clear z;go_wp2;go_roundw
    case rel=>exact ⟨k+1,ω,by go_num,b,c.out⟩
    simp[intOf];omega
   | false=>
    have c:=hid (aVe R.out S.out z);clear z;go_wp2;go_ret;exact ⟨aAi c.out.symm,b⟩
  obtain rfl:k=n:=ω;have c:=hid (t.out.done D.out E.out);go_wp2;go_ret;exact ⟨aAi c.out.symm,a⟩
 obtain ⟨h1,h2⟩:=aEs (u:=(n:Int)) (v:=(m:Int)) ω;have c:=hid (aTt (eq:=eq) (xs:=xs) (ys:=ys) (by rw[D.out,E.out];exact h));go_enter Tryz.func49,Tryz.ntmps49;go_wp2;go_ret;exact ⟨aAi c.out.symm,Below.refl _ _⟩
theorem bBt {B:Option Addr}{n ca m cb:Nat}{xs ys:List FV}{w:World}(d:n<=17592186044416)(f:m<=17592186044416)
  (ha:Rd w w.heap.size 3 A n ca (xs.flatMap FV.cells)) (g:Rd w w.heap.size 3 B m cb (ys.flatMap FV.cells)) (b:xs.length=n) (c:ys.length=m) :
  Calls prog 18 #[.slice A n ca,.slice B m cb] w (BoolBelow (decide (xs=ys)) w):=by
 have C:=bHy (G:=50) (fun x y=>decide (x=y)) d f ha g b c T fun x _ y _ v _=>aYo x y v;rw[aZh] at C;go_enter Tryz.func18,Tryz.ntmps18;go_wp2_with fail;refine C.mono ?_;rintro e h ⟨rfl,a⟩;go_wp2;go_ret;exact ⟨rfl,a⟩
def PlaceF (q:FV->Bool)(l:List FV)(w:World)(e:Ending) (w':World):Prop:=
 ∃k:Int,e=.returned (.int .i64 k)/\((k=-1/\∀f∈l,q f=false)\/∃(j:Nat) (f:FV),k=j/\FirstAt q l j f)/\Below w.heap.size w w'
def isP (p:ByteArray)(f:FV):Bool:=decide (f.path=p)
def aboveP (p:ByteArray)(f:FV):Bool:=decide (p.data.toList<f.p)
theorem bMt(a b:ByteArray):(!Op.bytesLess a.toList b.toList && !(a.toList == b.toList))=decide (b.data.toList<a.data.toList):=by
 rw[<-kw,aTi,aSw,lM]
theorem aAj {B g:Nat}{w a:World}{cs:Array Value}(h:Below B w a)(c:B<=g):Below B w (a.setRow g cs):=
 ⟨h.os,h.tape,h.output,by have:=h.size;simpa[World.setRow] using this,fun k b=>by rw[dA _ _ _ _ (fun e=>by omega)];exact h.block k b⟩
theorem bNi {g:Nat}{w:World}(e:w.cell? ⟨g,0,none⟩=some (.string p))(c:g<w.heap.size) :
  Calls prog 213 #[.agg #[.string f.path,.bool f.exec,.string f.text],.pointer (some ⟨g,0,none⟩)] w (BoolBelow (isP p f) w):=by
 have a:Below w.heap.size w (w.alloc (.cells #[.string f.path,.bool f.exec,.string f.text] 48)):=(Below.refl _ _).alloc (aa _) _;have i:(w.alloc (.cells #[.string f.path,.bool f.exec,.string f.text] 48)).cell? ⟨g,0,none⟩=some (.string p):=(a.cell (p:=⟨g,0,none⟩) c).trans e;by_cases h:f.path=p
 ·have b:=hid (show isP p f=true by simp[isP,h])
  have d:(f.path.toList == p.toList)=true:=by rw[h];exact aW _
  clear h;go_enter Tryz.func213,Tryz.ntmps213;go_wp2;go_ret;exact ⟨aAi b.out.symm,a⟩
 have b:=hid (show isP p f=false by simp[isP,h]);have d:=aBi h;clear h;go_enter Tryz.func213,Tryz.ntmps213;go_wp2;go_ret;exact ⟨aAi b.out.symm,a⟩
theorem bNl {n g:Nat}{w:World}(P:n<=17592186044416)(h:RdF w w.heap.size A n c l)(N:w.cell? ⟨g,0,none⟩=some (.string p))(s:g<w.heap.size) :
  Calls prog 188 #[.slice A n c,.func (.func 213) #[] #[.pointer (some ⟨g,0,none⟩)]] w (PlaceF (isP p) l w):=by
 have F:=hid h.len;go_enter lN,kS;go_wp2;go_loopw[5,8] (fun _ i wr=>∃k:Nat,k<=n/\i=.int .i64 k/\Below w.heap.size w wr/\Hid (∀j g,j<k->l[j]? = some g->(isP p) g=false)) (fun _ i _=>n-(intOf i).toNat)
 case atStart=>exact ⟨0,al _,rfl,Below.refl _ _,fun j g r=>absurd r (bN _)⟩
 obtain ⟨k,O,rfl,a,r⟩:=hrel;by_cases y:k<n
 ·obtain ⟨o,v,f,rfl,H,b,I,z,B,D⟩:=h.get y
  replace z:=(a.cell (p:=⟨o,v+k*3,none⟩) (by show o<_;omega)).trans z;replace B:=(a.cell (p:=⟨o,v+k*3+1,none⟩) (by show o<_;omega)).trans B;replace D:=(a.cell (p:=⟨o,v+k*3+2,none⟩) (by show o<_;omega)).trans D;have E:=hid b;have C:=bNi (f:=f) (w:=wr) ((a.cell (p:=⟨g,0,none⟩) s).trans N) (ag s a.size);clear b
  cases q:(isP p) f with
  | true=>
   rw[q] at C;have t:=hid (show FirstAt (isP p) l k f from ⟨E.out,q,r.out⟩);clear q;go_wp2_with fail;refine C.mono ?_;rintro e J ⟨rfl,m⟩;have d:=a.trans (m.mono a.size);clear C;go_wp2;go_ret;exact ⟨k,rfl,.inr ⟨k,f,rfl,t.out⟩,d⟩
  | false=>
   rw[q] at C
   have t:=hid (show ∀j g,j<k+1->l[j]? = some g->(isP p) g=false from fun j x L b=>by
    by_cases e:j=k
    ·subst e;rw[E.out] at b;injection b with b;subst b;exact q
    exact r.out j x ω b)
   clear q;go_wp2_with fail;refine C.mono ?_;rintro e J ⟨rfl,m⟩;have d:=a.trans (m.mono a.size);clear C;go_wp2;go_roundw
   case rel=>exact ⟨k+1,ω,by go_num,d,t.out⟩
   simp[intOf];omega
 have u:k=n:=ω;subst u
 have G:=hid (show ∀f∈l,(isP p) f=false from fun f M=>by
  obtain ⟨i,K,rfl⟩:=bn M;exact r.out i _ (by have:=F.out;omega) (ac K))
 go_wp2;go_ret;exact ⟨-1,rfl,.inl ⟨rfl,G.out⟩,a⟩
theorem bBz {n:Nat}{w:World}(i:n<=17592186044416)(h:RdF w w.heap.size A n c l) :
  Calls prog 176 #[.slice A n c,.string p] w (PlaceF (isP p) l w):=by
 have a:Below w.heap.size w (w.alloc (.cells #[.string p] 9)):=(Below.refl _ _).alloc (aa _) _;have f:(w.alloc (.cells #[.string p] 9)).cell? ⟨w.heap.size,0,none⟩=some (.string p):=(bd _ _ _ _ _ _ (au _ _)).trans rfl;have C:=bNl i (h.to a a.size) f (by simp);go_enter Tryz.func176,Tryz.ntmps176;go_wp2_with fail;refine C.mono ?_;rintro e j ⟨k,rfl,d,b⟩;have g:=hid d;clear d C;go_wp2;go_ret;exact ⟨k,rfl,g.out,a.trans (b.mono a.size)⟩
theorem aAm {P:Program}{fn:Func}{p u:Tmp}{ty:TypeId}(h:fn.results=#[.cell p ty,.tmp u])(tmps:Array Value)(w:World)(g:Nat)(t:TypeId)(cs:Array Value)(fr:Nat×Nat)(d:TypeDesc)
  (hp:tmps.getD p undef=.pointer (some ⟨g,0,none⟩)) (hg:w.heap[g]? = some (.cells cs t fr))
  (hu:P.underlying ty=some d) (hd:(match d with | .struct _ | .array _ _=>true | _=>false)=true) (hi:(P.info? ty).map (·.size)=some cs.size) :
  (results fn tmps).run P w=.ok (.tuple #[.agg cs,tmps.getD u undef]) w:=by
 rw[results_cell_tmp h,hp];simp[asAddr,mY w g t ty cs fr d hg hu hd hi]
def zF:FV:=⟨⟨#[]⟩,false,⟨#[]⟩⟩
def optF (o:Option FV):FV:=o.getD zF
def FoundIs (o:Option FV)(w:World)(e:Ending) (w':World):Prop:=e=.returned (.tuple #[.agg #[.string (optF o).path,.bool (optF o).exec,.string (optF o).text],.bool o.isSome])/\Below w.heap.size w w'
theorem aJd(w:World):(Instr.build 48 #[]).run prog w=.ok (.agg #[.string ⟨#[]⟩,.bool false,.string ⟨#[]⟩]) w:=by
 go_simp
theorem aJl {n:Nat}{w:World}(L:n<=17592186044416)(h:RdF w w.heap.size A n c l) :
  Calls prog 154 #[.slice A n c,.string p] w (FoundIs (findP l p) w):=by
 have s:∀o,Below w.heap.size w (w.alloc o):=fun o=>(Below.refl _ _).alloc (aa _) _;have C:∀o,Calls prog 176 #[.slice A n c,.string p] (w.alloc o) (PlaceF (isP p) l (w.alloc o)):=fun o=>bBz L (h.to (s o) (s o).size);go_enter Tryz.func154,Tryz.ntmps154;go_wp2_with fail;refine (C _).mono ?_;rintro e x ⟨k,rfl,t,m⟩;have b:=(s _).trans (m.mono (s _).size);have d:x.heap[w.heap.size]? = some (.cells #[.string ⟨#[]⟩,.bool false,.string ⟨#[]⟩] 48 (0,0)):=(m.block _ (by simp)).trans (au _ _);have g:=hid (show ∀cs,(x.setRow w.heap.size cs).heap[w.heap.size]? = some (.cells cs 48 (0,0)) from fun cs=>bB _ _ _ _ _ _ d);have E:=aJd x;have i:(prog.info? 48).map (·.size)=some 3:=T;clear C m;rcases t with ⟨rfl,r⟩ | ⟨j,f,rfl,u⟩
 ·have v:=hid (aZf (p:=p) r).1
  have F:=bd _ _ 0 _ _ _ (g.out #[.string ⟨#[]⟩,.bool false,.string ⟨#[]⟩]);have G:=bd _ _ 1 _ _ _ (g.out #[.string ⟨#[]⟩,.bool false,.string ⟨#[]⟩]);have H:=bd _ _ 2 _ _ _ (g.out #[.string ⟨#[]⟩,.bool false,.string ⟨#[]⟩]);clear r;go_wp2_with (refine bJ rfl 48 (.tmp 4) (.tmp 12) rfl w.heap.size #[.string ⟨#[]⟩,.bool false,.string ⟨#[]⟩] rfl rfl _ _ d i rfl (by simp[Value.oneCell']) ?_)
  try simp only[Exit.inBlock,Exit.then]
  refine bz (aAm rfl _ _ w.heap.size _ _ (0,0) _ rfl (g.out _) dx rfl T) rfl ?_;refine ⟨?_,aAj b (aa _)⟩;rw[v.out];rfl
 have I:j<n:=by have:=(aj.1 u.1).1;rw[h.len] at this;exact this
 obtain ⟨q,y,a,rfl,J,D,K,z,t,B⟩:=h.get I;obtain rfl:a=f:=fV (D.symm.trans u.1);replace z:=(b.cell (p:=⟨q,y+j*3,none⟩) (by show q<_;omega)).trans z;replace t:=(b.cell (p:=⟨q,y+j*3+1,none⟩) (by show q<_;omega)).trans t;replace B:=(b.cell (p:=⟨q,y+j*3+2,none⟩) (by show q<_;omega)).trans B;have v:=hid (show findP l p=some a from FirstAt.find u);have F:=bd _ _ 0 _ _ _ (g.out #[.string a.path,.bool a.exec,.string a.text]);have G:=bd _ _ 1 _ _ _ (g.out #[.string a.path,.bool a.exec,.string a.text]);have H:=bd _ _ 2 _ _ _ (g.out #[.string a.path,.bool a.exec,.string a.text]);clear D u E;go_wp2_with (refine bJ rfl 48 (.tmp 4) (.tmp 16) rfl w.heap.size #[.string a.path,.bool a.exec,.string a.text] rfl rfl _ _ d i rfl (by simp[Value.oneCell']) ?_)
 try simp only[Exit.inBlock,Exit.then]
 refine bz (aAm rfl _ _ w.heap.size _ _ (0,0) _ rfl (g.out _) dx rfl T) rfl ?_;refine ⟨?_,aAj b (aa _)⟩;rw[v.out];rfl
theorem aDg:Elem prog 29 48 3 40:=aCa T
theorem aBu(l:List FV):∀u∈l.flatMap FV.cells,u.oneCell'=true:=by
 intro u b;obtain ⟨f,_,a⟩:=dF.1 b;simp only[FV.cells,ax,d7,iw] at a;rcases a with rfl | rfl | rfl<;>rfl
theorem aFl {w:World}(h:w.grownBy w' none):Below w.heap.size w w':=⟨h.os,h.tape,h.output,h.size,fun k a=>h.block k a (by simp)⟩
theorem aNn(w:World)(f:FV):Rd (w.alloc (.cells #[.string f.path,.bool f.exec,.string f.text] 48)) (w.alloc (.cells #[.string f.path,.bool f.exec,.string f.text] 48)).heap.size 3 (some ⟨w.heap.size,0,none⟩) 1 1 ([f].flatMap FV.cells):=
 ⟨rfl,aa _,fun _=>⟨_,0,rfl,by simp,fun j u a=>by
  rw[aO,World.cell?,au];simpa[FV.cells] using a⟩⟩
theorem T.flat_take {α:Type}{f:α->List Value}{sz:Nat}(b:∀a,(f a).length=sz):∀(l:List α) (k:Nat),(l.flatMap f).take (k*sz)=(l.take k).flatMap f
 | [],k=>by simp
 | x::l,0=>by simp
 | x::l,k+1=>by
  rw[aL,iW,aL,fe,jZ,iH,b,ai (by rw[b];omega),show sz+k*sz-sz=k*sz by omega,T.flat_take b l k]
theorem T.flat_drop {α:Type}{f:α->List Value}{sz:Nat}(b:∀a,(f a).length=sz):∀(l:List α) (k:Nat),(l.flatMap f).drop (k*sz)=(l.drop k).flatMap f
 | [],k=>by simp
 | x::l,0=>by simp
 | x::l,k+1=>by
  rw[aL,List.drop_succ_cons,fe,jZ,jR,b,cI (by rw[b];omega),aT,show sz+k*sz-sz=k*sz by omega,T.flat_drop b l k]
theorem bHf {w:World}{B n l k:Nat}{xs:List FV}(h:Rd w B 3 A n c (xs.flatMap FV.cells))(a:l<=k)(b:k<=n) :
  ∃A',sliced A l k c 3=.slice A' (k-l) (c-l)/\Rd w B 3 A' (k-l) (c-l) (((xs.take k).drop l).flatMap FV.cells):=by
 refine ⟨_,rfl,?_⟩;have:=h.cut a b;rw[T.flat_take FV.cells_len,T.flat_drop FV.cells_len] at this;exact this
theorem T.run_lits3 {P:Program}{t e:TypeId}(E:Elem P t e 3 bytes)(a b c:Value)(w:World) :
  (Instr.buildSlice t 1 #[(0,.agg #[a,b,c])]).run P w=.ok (.slice (some ⟨w.heap.size,0,none⟩) 1 1) (w.alloc (.cells #[a,b,c] e)):=by
 obtain ⟨i,z,l,m,j,n,k⟩:=E.row
 obtain ⟨d,f,g,o⟩:∃d f g,z.cells=#[d,f,g]:=by
  have:=k
  match h:z.cells,this with
  | ⟨[d,f,g]⟩,_=>exact ⟨d,f,g,rfl⟩
 simp[Instr.buildSlice,bK E.und,sizeOf,typeInfo,l,j,zeroValue,m,Instr.fill,Value.cells,newRow,show Array.range 3=#[0,1,2] from rfl]
theorem T.run_lits4 {P:Program}{t e:TypeId}(E:Elem P t e 4 bytes)(a b c d:Value)(w:World) :
  (Instr.buildSlice t 1 #[(0,.agg #[a,b,c,d])]).run P w=.ok (.slice (some ⟨w.heap.size,0,none⟩) 1 1) (w.alloc (.cells #[a,b,c,d] e)):=by
 obtain ⟨i,z,n,o,l,p,m⟩:=E.row
 obtain ⟨f,g,j,k,q⟩:∃f g j k,z.cells=#[f,g,j,k]:=by
  have:=m
  match h:z.cells,this with
  | ⟨[f,g,j,k]⟩,_=>exact ⟨f,g,j,k,rfl⟩
 simp[Instr.buildSlice,bK E.und,sizeOf,typeInfo,n,l,zeroValue,o,Instr.fill,Value.cells,newRow,show Array.range 4=#[0,1,2,3] from rfl]
theorem T.eff_lits {P:Program}{a:Act}{w:World}{t:TypeId}{x:Operand}{q:Bool}{v r:Value}
  (b:(Instr.buildSlice t 1 #[(0,v)]).run P w=.ok r w') (c:a.eval x=v) (d:S w'/\K (a.put dst r) w') :
  effq P S ⟨q,dst,.buildSlice t 1 #[(0,x)],ty,g⟩ a w K:=by
 refine aQu (fun p e g=>?_) d;unfold execOp;simp only[gT,dc,dK,c,b,bT,cE,bI]
def FilesIs (P:List FV->Prop)(w:World)(e:Ending) (w':World):Prop:=
 ∃(A:Option Addr) (c:Nat) (l:List FV),e=.returned (.slice A l.length c)/\P l/\RdF w' w'.heap.size A l.length c l/\Below w.heap.size w w'
theorem aEg {n:Nat}{w:World}(V:n<=17592186044416)(h:RdF w w.heap.size A n c l) :
  Calls prog 25 #[.slice A n c,.string p] w (FoundIs (findP l p) w):=by
 have J:=hid h.len;obtain ⟨W,v⟩:∃u,u=w.alloc (.cells #[.string ⟨#[]⟩,.bool false,.string ⟨#[]⟩] 48):=⟨_,rfl⟩;have s:Below w.heap.size w W:=by rw[v];exact (Below.refl _ _).alloc (aa _) _
 have K:W.heap.size=w.heap.size+1:=by rw[v];simp
 have t:W.heap[w.heap.size]? = some (.cells #[.string ⟨#[]⟩,.bool false,.string ⟨#[]⟩] 48 (0,0)):=by rw[v];exact au _ _
 have L:=hid t;have m:(prog.info? 48).map (·.size)=some 3:=κ;clear t;go_enter Tryz.func25,Tryz.ntmps25;go_wp2;rw[<-v];clear v;go_loopw[6] (fun i wr=>∃k:Nat,k<=n/\i=.int .i64 k/\Below W.heap.size W wr/\Hid (∀j g,j<k->l[j]? = some g->isP p g=false)) (fun i _=>n-(intOf i).toNat)
 case atStart=>exact ⟨0,al _,rfl,Below.refl _ _,fun j g o=>absurd o (bN _)⟩
 obtain ⟨k,U,rfl,C,o⟩:=hrel;have a:Below w.heap.size w wr:=s.trans (C.mono s.size);have b:wr.heap[w.heap.size]? = some (.cells #[.string ⟨#[]⟩,.bool false,.string ⟨#[]⟩] 48 (0,0)):=(C.block _ ω).trans L.out;have F:=hid (show ∀cs,(wr.setRow w.heap.size cs).heap[w.heap.size]? = some (.cells cs 48 (0,0)) from fun cs=>bB _ _ _ _ _ _ b);by_cases E:k<n
 ·obtain ⟨q,D,f,rfl,O,y,P,G,H,I⟩:=h.get E
  replace G:=(a.cell (p:=⟨q,D+k*3,none⟩) (by show q<_;omega)).trans G;replace H:=(a.cell (p:=⟨q,D+k*3+1,none⟩) (by show q<_;omega)).trans H;replace I:=(a.cell (p:=⟨q,D+k*3+2,none⟩) (by show q<_;omega)).trans I;by_cases r:f.path=p
  ·have z:=hid (show findP l p=some f from FirstAt.find ⟨y,by simp[r],o.out⟩)
   have M:(f.path.toList == p.toList)=true:=(by rw[r];exact aW _);clear y o r;go_wp2_with (refine bJ rfl 48 (.tmp 4) (.tmp 23) rfl w.heap.size #[.string f.path,.bool f.exec,.string f.text] rfl rfl _ _ b m rfl (by simp[Value.oneCell']) ?_)
   try simp only[Exit.inBlock,Exit.then]
   refine bz (aAm rfl _ _ w.heap.size _ _ (0,0) _ rfl (F.out _) dx rfl κ) rfl ?_;refine ⟨?_,aAj a (aa _)⟩;rw[z.out];rfl
  have M:=aBi r
  have N:=hid (show ∀j g,j<k+1->l[j]? = some g->isP p g=false from fun j x R d=>by
   by_cases e:j=k
   ·subst e;rw[y] at d;injection d with d;subst d;simp[isP,r]
   exact o.out j x ω d)
  clear y r;go_wp2;go_roundw
  case rel=>exact ⟨k+1,ω,by go_num,C,N.out⟩
  simp[intOf];omega
 have B:k=n:=ω;subst B
 have z:=hid (show findP l p=none from (aZf fun f S=>by
  obtain ⟨i,Q,rfl⟩:=bn S;exact o.out i _ (by have:=J.out;omega) (ac Q)).1)
 have T:=aJd wr;clear o;go_wp2_with (refine bJ rfl 48 (.tmp 4) (.tmp 24) rfl w.heap.size #[.string ⟨#[]⟩,.bool false,.string ⟨#[]⟩] rfl rfl _ _ b m rfl (by simp[Value.oneCell']) ?_)
 try simp only[Exit.inBlock,Exit.then]
 refine bz (aAm rfl _ _ w.heap.size _ _ (0,0) _ rfl (F.out _) dx rfl κ) rfl ?_;refine ⟨?_,aAj a (aa _)⟩;rw[z.out];rfl
theorem aYh {n:Nat}{w:World}(U:n<=1000000)(h:RdF w w.heap.size A n c l) :
  Calls prog 53 #[.slice A n c,.string p] w (FilesIs (·=without l p) w):=by
 have G:=hid h.len;have H:=hid h.fits;go_enter Tryz.func53,Tryz.ntmps53;go_wp2;go_loopw[5,6] (fun P i wr=>∃(k m:Nat),k<=n/\i=.int .i64 k/\Below w.heap.size w wr/\m<=k/\Hid ((without (l.take k) p).length=m)/\wr.ownsRow w.heap.size 48 3 P m ((without (l.take k) p).flatMap FV.cells)) (fun _ i _=>n-(intOf i).toNat)
 case atStart=>exact ⟨0,0,al _,rfl,Below.refl _ _,aa _,by rw[bi];exact rfl,by rw[bi];exact aA _ _ _ _⟩
 obtain ⟨k,m,R,rfl,b,J,s,r⟩:=hrel;by_cases B:k<n
 ·obtain ⟨d,u,f,rfl,K,e,L,C,D,E⟩:=h.get B
  replace C:=(b.cell (p:=⟨d,u+k*3,none⟩) (by show d<_;omega)).trans C;replace D:=(b.cell (p:=⟨d,u+k*3+1,none⟩) (by show d<_;omega)).trans D;replace E:=(b.cell (p:=⟨d,u+k*3+2,none⟩) (by show d<_;omega)).trans E;by_cases j:f.path=p
  ·have I:(f.path.toList == p.toList)=true:=by rw[j];exact aW _
   have o:=hid (show without (l.take (k+1)) p=without (l.take k) p by rw[aB,e,without,bX];simp[j,without]);clear e j;go_wp2;go_roundw
   case rel=>exact ⟨k+1,m,ω,by go_num,b,ω,by rw[o.out];exact s,by rw[o.out];exact r⟩
   simp[intOf];omega
  have I:=aBi j;have o:=hid (show without (l.take (k+1)) p=without (l.take k) p++[f] by rw[aB,e,without,bX];simp[j,without]);have a:=b.alloc b.size (.cells #[.string f.path,.bool f.exec,.string f.text] 48);have q:=r.alloc (.cells #[.string f.path,.bool f.exec,.string f.text] 48);clear e j;go_wp2_with (at_builtin;refine aAl rfl (.tmp 20) (.tmp 25) 29 rfl aDg rfl rfl q (aNn wr f) (aBu _) (by unfold maxLen;omega) ω a.size ?_;intro S T v y M);go_roundw
  case rel=>
   refine ⟨k+1,m+1,ω,by go_num,a.grown y a.size (fun g Q=>(q.lt g Q).1),ω,?_,?_⟩
   ·show (without (l.take (k+1)) p).length=m+1
    rw[o.out,ae,s.out];rfl
   rw[o.out,aJ];exact v
  simp[intOf];omega
 have t:k=n:=ω;subst t;rw[ai (by rw[G.out];omega)] at s r;go_wp2;go_ret;obtain ⟨N,O,rfl,z⟩:=aAd r;have F:=Rd.of_own r z;rw[<-s.out] at F ⊢;exact ⟨N,O,_,rfl,rfl,⟨F,rfl,fun x e=>H.out x ((aX.1 e).1)⟩,b⟩
theorem aLk {n:Nat}{w:World}(J:n<=17592186044416)(H:p.size<=maxLen)(h:RdF w w.heap.size A n c l) :
  Calls prog 54 #[.slice A n c,.string p] w (BoolBelow (clashF l p) w):=by
 have y:=hid h.len;go_enter Tryz.func54,Tryz.ntmps54;go_wp2;go_loopw[5] (fun i wr=>∃k:Nat,k<=n/\i=.int .i64 k/\Below w.heap.size w wr/\Hid (clashF (l.take k) p=false)) (fun i _=>n-(intOf i).toNat)
 case atStart=>exact ⟨0,al _,rfl,Below.refl _ _,by rw[bi];exact rfl⟩
 obtain ⟨k,I,rfl,j,r⟩:=hrel;by_cases s:k<n
 ·obtain ⟨x,B,f,rfl,D,o,m,t,E,F⟩:=h.get s
  replace t:=(j.cell (p:=⟨x,B+k*3,none⟩) (by show x<_;omega)).trans t;have u:=(h.fits f m).1;clear E F;have v:=hid (show clashF (l.take (k+1)) p=(clashF (l.take k) p || (!decide (f.path=p) && clashP f.p p.data.toList)) by rw[aB,o];simp[clashF]);by_cases b:f.path=p
  ·have z:(f.path.toList == p.toList)=true:=by rw[b];exact aW _
   have a:=hid (show clashF (l.take (k+1)) p=false by rw[v.out,r.out,b];simp);clear o b;go_wp2;go_roundw
   case rel=>exact ⟨k+1,O,by go_num,j,a.out⟩
   simp[intOf];omega
  have z:=aBi b;have C:=aQs (p:=f.path) (d:=p) (w:=wr) (by unfold maxLen;omega) H
  cases g:clashP f.path.data.toList p.data.toList with
  | true=>
   rw[g] at C
   have a:=hid (show clashF l p=true by
    simp only[clashF,bZ,ay];exact ⟨f,m,by simp[b],g⟩)
   clear o b g;go_wp2_with fail;refine C.mono ?_;rintro e G ⟨rfl,rfl⟩;clear C;go_wp2;go_ret;exact ⟨aAi a.out.symm,j⟩
  | false=>
   rw[g] at C;have a:=hid (show clashF (l.take (k+1)) p=false by rw[v.out,r.out,FV.p,g];simp);clear o b g;go_wp2_with fail;refine C.mono ?_;rintro e G ⟨rfl,rfl⟩;clear C;go_wp2;go_roundw
   case rel=>exact ⟨k+1,O,by go_num,j,a.out⟩
   simp[intOf];omega
 have q:k=n:=O;subst q;have a:=hid (show clashF l p=false by have:=r.out;rwa [ai (by rw[y.out];omega)] at this);go_wp2;go_ret;exact ⟨aAi a.out.symm,j⟩
def NewAt (A:Option Addr)(B:Nat):Prop:=∀b o s,A=some ⟨b,o,s⟩->B<=b
theorem NewAt.none_(B:Nat):NewAt none B:=fun _ _ _ h=>by cases h
def FilesIsN (P:List FV->Prop)(w:World)(e:Ending) (w':World):Prop:=
 ∃(A:Option Addr) (c:Nat) (l:List FV),e=.returned (.slice A l.length c)/\P l/\RdF w' w'.heap.size A l.length c l/\Below w.heap.size w w'/\NewAt A w.heap.size
theorem aGv {n:Nat}{w:World}(hn:n<=1000000)(h:RdF w w.heap.size A n c l)(nA:f.path.size<=140737488351232/\f.text.size<=140737488351232) :
  Calls prog 55 #[.slice A n c,.agg #[.string f.path,.bool f.exec,.string f.text]] w (FilesIsN (·=sortedIn l f) w):=by
 have HL:=hid h.len;have HF:=hid h.fits;have nE:=h.row.cap;obtain ⟨W,hW⟩:∃u,u=w.alloc (.cells #[.string f.path,.bool f.exec,.string f.text] 48):=⟨_,rfl⟩;have B:Below w.heap.size w W:=by rw[hW];exact (Below.refl _ _).alloc (aa _) _
 have nF:W.heap.size=w.heap.size+1:=by rw[hW];simp
 have d:∀i u,f.cells[i]? = some u->∀u',Below W.heap.size W u'->u'.cell? ⟨w.heap.size,i,none⟩=some u:=fun i u hu u' nC=>
  (nC.cell (p:=⟨w.heap.size,i,none⟩) (by show w.heap.size<_;omega)).trans (by rw[hW,World.cell?,au];simpa[FV.cells] using hu)
 have XB:=hid d;clear d;have hR:=h.row.to B B.size;go_enter Tryz.func55,Tryz.ntmps55;go_wp2;rw[<-hW];clear hW;rename_i K hK
 have U:∀(wr:World) (k:Nat) (u6 u7 u8 u9 u10 u11 u12 u13 u14 u15 u16 u17 u18 u19 u20 u21:Value),k<=n->Below W.heap.size W wr->Hid (sortedIn l f=l.take k++f::l.drop k)->K ⟨#[.slice A n c,.agg #[.string f.path,.bool f.exec,.string f.text],undef,.pointer (some ⟨w.heap.size,0,none⟩),.slice none 0 0,.int .i64 k,u6,u7,u8,u9,u10,u11,u12,u13,u14,u15,u16,u17,u18,u19,u20,u21,undef,undef,undef,undef,undef,undef,undef,undef,undef,undef,undef],[]⟩ wr:=by
  intro wr k u6 u7 u8 u9 u10 u11 u12 u13 u14 u15 u16 u17 u18 u19 u20 u21 hk F HP;refine hK _ _ ?_;clear hK;have HR:=hid (hR.below F);go_wp2;refine aAv (fun v'=>Below W.heap.size W v') (.q 0 (.q 1 (.q 2 (.q 4 (.q 7 (.q 8 (.q 9 (.two 3 (.one 5 (.one 6 (.one 10 (.q 11 .leaf)))) 5 (.one 3 (.one 6 (.one 10 (.q 11 .leaf)))))))))))) mixed κ F.drew ?_;intro Tp M Q G H Z S;have m0:M ⟨w.heap.size,0,none⟩=some (.string f.path):=Z _ _ fun w' hw=>XB.out 0 _ rfl w' hw;have m1:M ⟨w.heap.size,1,none⟩=some (.bool f.exec):=Z _ _ fun w' hw=>XB.out 1 _ rfl w' hw;have m2:M ⟨w.heap.size,2,none⟩=some (.string f.text):=Z _ _ fun w' hw=>XB.out 2 _ rfl w' hw;clear Z;refine aCu ?_;intro O R;have t0:=R true 0;have t1:=R true 1;have t2:=R true 2;have t4:=R true 4;have t7:=R true 7;have t8:=R true 8;have t9:=R true 9;have V:=R true 11;have e3:=R false 3;have e5:=R false 5;have e6:=R false 6;have X:=R false 10;simp only[qcmp] at t0 t1 t2 t4 t7 t8 t9 V e3 e5 e6 X;clear R;simp (maxSteps:=9^7) only[↓wt_q,↓aBe,t0,t1,t2,t4,t7,t8,t9,e3,e5,↓qpre,aAb,aAg,aAc,m0,m1,m2];clear t0 t1 t2 t4 t7 t8 t9 m0 m1 m2;have nm:=HR.out.drew;have t:Below W.heap.size W wr.drew:=F.drew;clear F;generalize wr.drew=w1 at *;obtain ⟨A1,q1,r1⟩:=bHf nm (l:=0) (k:=k) ω hk;obtain ⟨A2,q2,C⟩:=bHf nm (l:=k) (k:=n) hk (aa _);rw[q1,q2];rw[fh,fB] at r1;rw[ai (by rw[HL.out];omega)] at C;clear q1 q2 nm;have z:=t.size;simp only[fh];refine ⟨⟨ω,ω⟩,⟨ω,ω⟩,?_,?_⟩
  ·refine aAo aDg (base:=W.heap.size) (n:=0) (xs:=[]) rfl rfl (aA _ _ _ _) r1 (aBu _) (by simp only[maxLen];omega) ω z ?_
   intro v1 w2 ns I _;rw[aO,aT] at ns;have v:=t.grown I z (fun g N=>by cases N);replace C:=C.below (aFl (w:=w1) (w':=w2) I |>.mono z);refine ⟨G _ v,?_⟩;simp (maxSteps:=9^7) only[↓aAn,e5,aAb,aAc];refine T.eff_lits (T.run_lits3 aDg (.string f.path) (.bool f.exec) (.string f.text) _) rfl ⟨G _ (v.alloc v.size _),?_⟩;have a:=ns.alloc (.cells #[.string f.path,.bool f.exec,.string f.text] 48);have hv:=aNn w2 f;have m:=v.alloc v.size (.cells #[.string f.path,.bool f.exec,.string f.text] 48);replace C:=C.below ((Below.refl w2.heap.size w2).alloc (aa _) (.cells #[.string f.path,.bool f.exec,.string f.text] 48) |>.mono v.size);clear ns I v r1 t z;simp (maxSteps:=9^7) only[↓aAn,e6,aAb,aAc];generalize w2.alloc (.cells #[.string f.path,.bool f.exec,.string f.text] 48)=w3 at *;refine aAo aDg (base:=W.heap.size) (n:=k) rfl rfl a hv (aBu _) (by simp only[maxLen];omega) ω m.size ?_;intro v4 w4 J L _;have y:=m.grown L m.size (fun g N=>(a.lt g N).1);replace C:=C.grown L m.size (fun g N=>(a.lt g N).1);refine ⟨G _ y,?_⟩;simp (maxSteps:=9^7) only[↓aAn,X,aAb,aAc];refine aAo aDg (base:=W.heap.size) (n:=k+1) rfl rfl J C (aBu _) (by simp only[maxLen];omega) ω y.size ?_;intro v5 w5 ff nj _;have D:=y.grown nj y.size (fun g N=>(J.lt g N).1);refine ⟨G _ D,?_⟩;simp (maxSteps:=9^7) only[↓aCm,↓wt_q,V,↓qpre,aAb,aAc];refine S _ _ ?_;have HB:=hid D;have HO:=hid ff;clear S G H V e3 e5 e6 X a hv m J L y C D ff nj
   try clear x0
   go_wp2;go_ret;obtain ⟨A5,c5,rfl,nu⟩:=aAd HO.out;have E:=Rd.of_own HO.out nu;rw[<-aJ,<-aJ] at E;have nq:(l.take k++[f]++l.drop k).length=k+1+(n-k):=(by rw[ae,ae,aE,aN,HL.out,bP hk];rfl);rw[<-nq] at E ⊢;refine ⟨A5,c5,_,rfl,?_,⟨E,rfl,fun x d=>?_⟩,B.trans (HB.out.mono ω),fun b o s hA=>by have:=(HO.out.lt b (by rw[hA];rfl)).1;omega⟩
   ·rw[HP.out];simp
   simp only[aQ,aS] at d;rcases d with (d | rfl) | d
   ·exact HF.out x (kx d)
   ·exact nA
   exact HF.out x (eh d)
  refine T.eff_lits (T.run_lits3 aDg (.string f.path) (.bool f.exec) (.string f.text) _) rfl ⟨G _ (t.alloc z _),?_⟩;have nw:=aNn w1 f;have v:=t.alloc z (.cells #[.string f.path,.bool f.exec,.string f.text] 48);replace r1:=r1.below ((Below.refl w1.heap.size w1).alloc (aa _) (.cells #[.string f.path,.bool f.exec,.string f.text] 48) |>.mono z);replace C:=C.below ((Below.refl w1.heap.size w1).alloc (aa _) (.cells #[.string f.path,.bool f.exec,.string f.text] 48) |>.mono z);simp (maxSteps:=9^7) only[↓aAn,e3,aAb,aAc];generalize w1.alloc (.cells #[.string f.path,.bool f.exec,.string f.text] 48)=w2 at *;have P:=v.size;refine aAo aDg (base:=W.heap.size) (n:=0) (xs:=[]) rfl rfl (aA _ _ _ _) r1 (aBu _) (by simp only[maxLen];omega) ω P ?_;intro v1 w3 a I _;rw[aO,aT] at a;have m:=v.grown I P (fun g N=>by cases N);have nr:=aFl (w:=w2) (w':=w3) I;replace C:=C.below (nr.mono P);have hv:=nw.below nr;clear nw I v r1 t z P nr;refine ⟨G _ m,?_⟩;simp (maxSteps:=9^7) only[↓aAn,e6,aAb,aAc];refine aAo aDg (base:=W.heap.size) (n:=k) rfl rfl a hv (aBu _) (by simp only[maxLen];omega) ω m.size ?_;intro v4 w4 J L _;have y:=m.grown L m.size (fun g N=>(a.lt g N).1);replace C:=C.grown L m.size (fun g N=>(a.lt g N).1);refine ⟨G _ y,?_⟩;simp (maxSteps:=9^7) only[↓aAn,X,aAb,aAc];refine aAo aDg (base:=W.heap.size) (n:=k+1) rfl rfl J C (aBu _) (by simp only[maxLen];omega) ω y.size ?_;intro v5 w5 ff nj _;have D:=y.grown nj y.size (fun g N=>(J.lt g N).1);refine ⟨G _ D,?_⟩;simp (maxSteps:=9^7) only[↓aCm,↓wt_q,V,↓qpre,aAb,aAc]
  refine S _ _ ?_;have HB:=hid D;have HO:=hid ff;clear S G H V e3 e5 e6 X a hv m J L y C D ff nj
  try clear x0
  go_wp2;go_ret;obtain ⟨A5,c5,rfl,nu⟩:=aAd HO.out;have E:=Rd.of_own HO.out nu;rw[<-aJ,<-aJ] at E;have nq:(l.take k++[f]++l.drop k).length=k+1+(n-k):=by rw[ae,ae,aE,aN,HL.out,bP hk];rfl
  rw[<-nq] at E ⊢;refine ⟨A5,c5,_,rfl,?_,⟨E,rfl,fun x d=>?_⟩,B.trans (HB.out.mono ω),fun b o s hA=>by have:=(HO.out.lt b (by rw[hA];rfl)).1;omega⟩
  ·rw[HP.out];simp
  simp only[aQ,aS] at d;rcases d with (d | rfl) | d
  ·exact HF.out x (kx d)
  ·exact nA
  exact HF.out x (eh d)
 clear hK;go_loopw[5] (fun i wr=>∃k:Nat,k<=n/\i=.int .i64 k/\Below W.heap.size W wr/\Hid (∀j g,j<k->l[j]? = some g->g.p<f.p)) (fun i _=>n-(intOf i).toNat)
 case atStart=>exact ⟨0,al _,rfl,Below.refl _ _,fun j g hj=>absurd hj (bN _)⟩
 obtain ⟨k,hk,rfl,hb,hj⟩:=hrel;have F:Below w.heap.size w wr:=B.trans (hb.mono B.size)
 have Y:(∀g,l[k]? = some g->¬g.p<f.p)->Hid (sortedIn l f=l.take k++f::l.drop k):=fun hn=>by
  show sortedIn l f=_
  conv=>lhs;rw[<-aY k l]
  refine aUd (fun x d=>?_) fun x d=>hn x (by rwa [bO,dv] at d);obtain ⟨j,nz,e⟩:=bn d;rw[aE] at nz;rw[fg] at e;exact hj.out j x ω (by rw[<-e];exact ac _)
 by_cases nD:k<n
 ·obtain ⟨b0,o0,g,rfl,nG,d,nH,h0,_,_⟩:=h.get nD
  replace h0:=(F.cell (p:=⟨b0,o0+k*3,none⟩) (by show b0<_;omega)).trans h0;go_wp2;refine aAe (fun w'=>Below W.heap.size W w') (qs 14) mixed κ hb.drew ?_;have t:=hb.drew;intro Tp M Q G H Z S;have m0:M ⟨b0,o0+k*3,none⟩=some (.string g.path):=Z _ _ fun w' hw=>((B.trans (hw.mono B.size)).cell (p:=⟨b0,o0+k*3,none⟩) (by show b0<_;omega)).trans ((F.cell (p:=⟨b0,o0+k*3,none⟩) (by show b0<_;omega)).symm.trans h0);have mb:M ⟨w.heap.size,0,none⟩=some (.string f.path):=Z _ _ fun w' hw=>XB.out 0 _ rfl w' hw;simp only[qcmp];have nk:decide ((k:Int)<n)=true:=aq ω;by_cases hq:g.path.data.toList<f.path.data.toList
  ·have hl:=(aQt g.path f.path).trans (aq hq)
   have HQ:=hid (show ∀j x,j<k+1->l[j]? = some x->x.p<f.p from fun j x nz r=>by
    by_cases e:j=k
    ·subst e;rw[d] at r;injection r with r;subst r;exact hq
    exact hj.out j x ω r)
   clear hq d Y;simp (maxSteps:=9^7) only[↓qpre,aAb,aAg,aAc,m0,mb,nk,hl];refine ⟨⟨ω,ω⟩,S _ _ ?_⟩;clear S G H Z m0 mb hl U;go_wp2;go_roundw
   case rel=>exact ⟨k+1,ω,by go_num,t,HQ.out⟩
   simp[intOf];omega
  have hl:=(aQt g.path f.path).trans (ak hq);have HC:=Y (fun x r=>by rw[d] at r;injection r with r;subst r;exact hq);clear hq d Y;simp (maxSteps:=9^7) only[↓qpre,aAb,aAg,aAc,m0,mb,nk,hl];refine ⟨⟨ω,ω⟩,S _ _ ?_⟩;clear S G H Z m0 mb hl;go_wp2;exact U _ k _ _ _ _ _ _ _ _ _ _ _ _ _ _ _ _ hk t HC
 have nB:k=n:=ω;subst nB;have HC:=Y (fun x r=>by have:=(aj.1 r).1;rw[HL.out] at this;omega);clear Y;go_wp2;refine aAe (fun w'=>Below W.heap.size W w') (qs 14) mixed κ hb.drew ?_;have t:=hb.drew;intro Tp M Q G H Z S;simp only[qcmp];have nk:decide ((k:Int)<k)=false:=ak ω;simp (maxSteps:=9^7) only[↓qpre,aAb,aAg,aAc,nk];refine S _ _ ?_;clear S G H Z;go_wp2;exact U _ k _ _ _ _ _ _ _ _ _ _ _ _ _ _ _ _ hk t HC
end Go.Proofs.YtohblmepajhpaaaGreatDoor
