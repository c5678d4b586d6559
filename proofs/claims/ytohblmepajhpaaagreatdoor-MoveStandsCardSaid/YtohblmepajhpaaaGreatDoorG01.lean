/- Contracts of functions that the law reaches; plain laws. -/
import Derived.Lib.SplitLaws
import Derived.Lib.ConvBytes
import Derived.Shelf.Strings.SplitShaped
import Derived.Test.YtohblmepajhpaaaGreatDoorRows
import Derived.Maps.OwnSet
import Derived.DeepKeys4
import Derived.Test.YtohblmepajhpaaaGreatDoorG00
set_option maxHeartbeats 8000000
set_option maxRecDepth 100000
open Go.Lib (hid)
namespace Go.Proofs.YtohblmepajhpaaaGreatDoor
open Go.Proofs.Tryz (prog)
open Go.RowKit
variable {i B BB:Nat}{ms:List MV}{d:ByteArray}{w w':World}{A:Option Addr}{D:DataW Value}
def par (l:List Int)(i:Int):Int:=(l[i.toNat]?).getD (-1)
def rightP (l:List Int):Bool:=(List.range l.length).all fun (i:Nat)=>decide (-1<=par l i) && decide (par l i<i)
theorem aIf {l:List Int}{p:Int}(h:l[i]? = some p):par l i=p:=by
 unfold par;rw[dL,h];rfl
theorem aBl {l:List Int}(h:rightP l=true){i:Int}(a:0<=i)(b:i<l.length):-1<=par l i/\par l i<i:=by
 unfold rightP at h;rw[bF] at h;have:=h i.toNat (bL.2 O);rw[eH a] at this;simpa using this
theorem aJe {l:List Int}{p:Int}(a:l[i]? = some p)(h:p < -1\/(i:Int)<=p):rightP l=false:=by
 unfold rightP;rw[dM];refine ⟨i,bL.2 (aj.1 a).1,?_⟩;rw[aIf a];simp only[ay,bh];omega
theorem aKd {l:List Int}(h:∀(i:Nat)(p:Int),l[i]? = some p->-1<=p/\p<i):rightP l=true:=by
 unfold rightP;rw[bF];intro i b;have a:=bL.1 b;have:=h i _ (ac a);rw[aIf (ac a)];simpa using this
def chn (l:List Int):Nat->Int->List Int
 | 0,_=>[]
 | f+1,b=>if b<0 then [] else b::chn l f (par l b)
theorem bAx {l:List Int}(h:rightP l=true):∀(f a:Nat) (b:Int),b<f->b<a->b<l.length->chn l f b=chn l a b
 | 0,0,_,_,_,_=>rfl
 | 0,a+1,b,h1,_,_=>by simp only[chn];rw[ao O]
 | f+1,0,b,_,h2,_=>by simp only[chn];rw[ao O]
 | f+1,a+1,b,h1,h2,h3=>by
  simp only[chn];by_cases c:b<0
  ·rw[ao c,ao c]
  rw[ah c,ah c];have:=aBl h (i:=b) O h3;rw[bAx h f a (par l b) O O O]
def chain (l:List Int)(b:Int):List Int:=if rightP l=true/\b<l.length then chn l (l.length+1) b else []
theorem aSz {l:List Int}{b:Int}(h:rightP l=false\/(l.length:Int)<=b):chain l b=[]:=by
 unfold chain;rw[ah];rintro ⟨a,c⟩;rcases h with h | h
 ·rw[a] at h;cases h
 omega
theorem aOq {l:List Int}{b:Int}(h:b<0):chain l b=[]:=by
 unfold chain;split
 ·simp only[chn];rw[ao h]
 rfl
theorem aDw {l:List Int}{b:Int}(h:rightP l=true)(c:0<=b)(a:b<l.length):chain l b=b::chain l (par l b):=by
 have d:=aBl h c a;unfold chain;rw[ao ⟨h,a⟩,ao ⟨h,O⟩]
 conv=>lhs;simp only[chn]
 rw[ah O,bAx h l.length (l.length+1) (par l b) O O O]
theorem aJu {l:List Int}(h:rightP l=true){p:Int->Prop}(a:∀b:Int,b<0->p b)(c:∀b:Int,0<=b->b<l.length->p (par l b)->p b):∀(n:Nat) (b:Int),b<n->b<l.length->p b
 | 0,b,h1,_=>a b O
 | n+1,b,h1,h2=>by
  by_cases d:b<0
  ·exact a b d
  have:=aBl h (i:=b) O h2;exact c b O h2 (aJu h a c n (par l b) O O)
theorem aGj {l:List Int}{b x:Int}(a:x∈chain l b):rightP l=true/\0<=x/\x<=b/\b<l.length:=by
 by_cases h:rightP l=true/\b<l.length
 ·refine ⟨h.1,?_⟩
  suffices c:0<=x/\x<=b from ⟨c.1,c.2,h.2⟩;revert a;refine aJu h.1 (p:=fun b=>x∈chain l b->0<=x/\x<=b) (fun b f a=>?_) (fun b d e ih a=>?_) (b.toNat+1) b O h.2
  ·rw[aOq f] at a;cases a
  rw[aDw h.1 d e] at a;have g:=aBl h.1 d e;rcases ax.1 a with rfl | a
  ·omega
  have:=ih a;omega
 unfold chain at a;rw[ah h] at a;cases a
theorem aNd {l:List Int}{b:Int}:(chain l b).length<=l.length:=by
 by_cases h:rightP l=true/\b<l.length
 ·have:(chain l b).length<=b.toNat+1/\(b<0->chain l b=[]):=by
   refine aJu h.1 (p:=fun b=>(chain l b).length<=b.toNat+1/\(b<0->chain l b=[])) (fun b a=>?_) (fun b c d ih=>?_) (b.toNat+1) b O h.2
   ·rw[aOq a];simp
   have f:=aBl h.1 c d;rw[aDw h.1 c d];refine ⟨?_,fun h=>by omega⟩;rw[aD];by_cases e:par l b<0
   ·rw[ih.2 e];simp
   omega
  by_cases a:b<0
  ·rw[this.2 a];simp
  omega
 unfold chain;rw[ah h];simp
def above (l:List Int)(a b:Int):Bool:=decide (a∈chain l b)
theorem aZg {l:List Int}{a b:Int}(h:rightP l=true)(ha:0<=a)(e:a<b)(d:b<l.length):above l a b=above l a (par l b):=by
 unfold above;rw[aDw h O d];refine iG.2 ⟨fun c=>?_,fun c=>am _ c⟩;rcases ax.1 c with rfl | c
 ·omega
 exact c
theorem aTo {l:List Int}{a b:Int}(h:rightP l=true)(ha:0<=a)(e:b<=a)(d:b<l.length):above l a b=decide (a=b):=by
 unfold above;refine iG.2 ⟨fun c=>?_,?_⟩
 ·have:=aGj c;omega
 rintro rfl;rw[aDw h ha d];simp
theorem aVu {l:List Int}{a b:Int}(h:¬(rightP l=true/\0<=a/\a<l.length/\0<=b/\b<l.length)):above l a b=false:=by
 unfold above;refine ak fun c=>h ?_;have:=aGj c;exact ⟨this.1,O,O,O,O⟩
def liveL (l:List Int)(ms:List MV):List Int:=if rightP l=true then ((List.range l.length).map Int.ofNat).filter fun i=>!obsM ms i else []
def liveTo (ms:List MV)(k:Nat):List Int:=((List.range k).map Int.ofNat).filter fun i=>!obsM ms i
theorem aWm(ms:List MV)(k:Nat):liveTo ms (k+1)=liveTo ms k++if obsM ms k=true then [] else [(k:Int)]:=by
 unfold liveTo;rw[eY,aM,bX];congr 1
 cases h:obsM ms k with
 | false=>simp[h]
 | true=>simp[h]
theorem aMv {l:List Int}{i:Int}:i∈liveL l ms↔rightP l=true/\0<=i/\i<l.length/\obsM ms i=false:=by
 unfold liveL;split
 ·rename_i h
  rw[aX,ce];constructor
  ·rintro ⟨⟨k,b,rfl⟩,a⟩
   have:=bL.1 b;exact ⟨h,by simp,by simpa using this,by simpa using a⟩
  rintro ⟨_,c,d,a⟩;exact ⟨⟨i.toNat,bL.2 O,by simp;omega⟩,by simpa using a⟩
 rename_i h;simp[h]
theorem bGn(l:List Int)(ms:List MV):(liveL l ms).length<=l.length:=by
 unfold liveL;split
 ·refine aw (bD _ _) (by simp)
 simp
def mvF (l:List Int)(ms:List MV)(s:Int):Nat->Int->Bool
 | 0,_=>false
 | f+1,k=>!obsM ms k && (decide (k=s) || (decide (s<=par l k) && mvF l ms s f (par l k)))
theorem aZj {l:List Int}{s:Int}(h:rightP l=true)(c:0<=s):∀(f a:Nat) (b:Int),b<f->b<a->0<=b->b<l.length->mvF l ms s f b=mvF l ms s a b
 | 0,_,b,h1,_,h0,_=>by omega
 | f+1,0,b,_,h2,h0,_=>by omega
 | f+1,a+1,b,h1,h2,h0,h3=>by
  simp only[mvF];have e:=aBl h (i:=b) O h3;by_cases d:s<=par l b
  ·rw[aZj h c f a (par l b) O O O O]
  rw[ak d];simp
def mv (l:List Int)(ms:List MV)(s k:Int):Bool:=mvF l ms s (l.length+1) k
theorem bNf {l:List Int}{s k:Int}(h:rightP l=true)(a:0<=s)(b:0<=k)(c:k<l.length) :
  mv l ms s k=(!obsM ms k && (decide (k=s) || (decide (s<=par l k) && mv l ms s (par l k)))):=by
 have e:=aBl h b c;unfold mv
 conv=>lhs;simp only[mvF]
 by_cases d:s<=par l k
 ·rw[aZj h a l.length (l.length+1) (par l k) O O O O]
 rw[ak d];simp
def movedTo (l:List Int)(ms:List MV)(s:Int)(k:Nat):List Int:=((List.range k).map Int.ofNat).filter fun i=>decide (s<=i) && mv l ms s i
def moved (l:List Int)(ms:List MV)(s:Int):List Int:=if rightP l=true/\0<=s/\s<l.length then movedTo l ms s l.length else []
theorem aVd(l:List Int)(ms:List MV)(s:Int)(k:Nat):movedTo l ms s (k+1)=movedTo l ms s k++if (decide (s<=(k:Int)) && mv l ms s k)=true then [(k:Int)] else []:=by
 unfold movedTo;rw[eY,aM,bX];congr 1;by_cases h:(decide (s<=(k:Int)) && mv l ms s k)=true
 ·rw[ao h];simp only[dc,dK];rw[List.filter_cons_of_pos (by exact h)];rfl
 rw[ah h];simp only[dc,dK];rw[List.filter_cons_of_neg (by exact h)];rfl
theorem aTg {l:List Int}{s:Int}{k:Nat}(h:(k:Int)<=s):movedTo l ms s k=[]:=by
 unfold movedTo;rw[eJ];intro x a;obtain ⟨j,b,rfl⟩:=ce.1 a;have:=bL.1 b;simp;omega
theorem aIc(l:List Int)(ms:List MV)(s:Int)(k:Nat):(movedTo l ms s k).length<=k:=by
 unfold movedTo;refine aw (bD _ _) (by simp)
theorem aGd {l:List Int}{s x:Int}:x∈moved l ms s↔(rightP l=true/\0<=s/\s<l.length)/\s<=x/\x<l.length/\mv l ms s x=true:=by
 unfold moved;split
 ·rename_i h
  unfold movedTo;rw[aX,ce];constructor
  ·rintro ⟨⟨k,b,rfl⟩,a⟩
   have:=bL.1 b;simp only[ay,bh] at a;exact ⟨h,a.1,by simpa using this,a.2⟩
  rintro ⟨_,c,d,a⟩;exact ⟨⟨x.toNat,bL.2 O,by simp;omega⟩,by simp[c,a]⟩
 rename_i h;simp[h]
def okTo (ms:List MV)(s:Int):List Int->Bool
 | []=>true
 | c::r=>!obsM ms c && (decide (c=s) || okTo ms s r)
theorem bMd {l:List Int}{s:Int}(h:rightP l=true)(i:0<=s){k:Int}(a:0<=k)(c:k<l.length)(n:s<=k):(above l s k && okTo ms s (chain l k))=mv l ms s k:=by
 have d:∀b:Int,b<l.length->0<=b->s<=b->(above l s b && okTo ms s (chain l b))=mv l ms s b:=by
  intro b g;refine aJu h (p:=fun b=>0<=b->s<=b->(above l s b && okTo ms s (chain l b))=mv l ms s b) (fun b g a _=>by omega) (fun b a c ih _ j=>?_) (b.toNat+1) b O g;have o:=aBl h a c;rw[bNf h i a c,aDw h a c];simp only[okTo];by_cases e:b=s
  ·subst e
   have:above l b b=true:=(by rw[aTo h a (mN _) c];simp);rw[this];simp
  rw[ak e,aZg h i O c];simp only[fW];by_cases f:s<=par l b
  ·rw[aq f,<-ih O f]
   cases above l s (par l b)<;>simp
  rw[ak f]
  have:above l s (par l b)=false:=by
   unfold above;refine ak fun m=>?_;have:=aGj m;omega
  rw[this];simp
 exact d k c a n
inductive TargetIs (l:List Int) (ms:List MV):Int->Int->Prop
 | out {i:Int}:(rightP l=false\/i<0\/(l.length:Int)<=i)->TargetIs l ms i (-1)
 | here {i t:Int} {f:List Int}:rightP l=true->0<=i->i<l.length->FinalIs ms i f->f.getLast? = some t->TargetIs l ms i t
 | up {i t:Int}:rightP l=true->0<=i->i<l.length->FinalIs ms i []->TargetIs l ms (par l i) t->TargetIs l ms i t
def IsOrph (l:List Int)(ms:List MV)(i t:Int):Prop:=
 0<=par l i/\obsM ms i=false/\obsM ms (par l i)=true/\TargetIs l ms (par l i) t/\t≠i/\above l i t=false
inductive OrphanIs (l:List Int) (ms:List MV):Int->Int->Bool->Prop
 | none_:(rightP l=true->∀i:Nat,i<l.length->∀t,¬IsOrph l ms i t)->OrphanIs l ms (-1) (-1) false
 | some_ {i:Nat} {t:Int}:rightP l=true->i<l.length->IsOrph l ms i t->(∀j:Nat,j<i->∀t,¬IsOrph l ms j t)->OrphanIs l ms i t true
abbrev Bs:=List UInt8
def parts:Bs->List Bs
 | []=>[[]]
 | c::cs=>if c=47 then []::parts cs else match parts cs with
  | h::t=>(c::h)::t
  | []=>[[c]]
theorem aZx(s:Bs):parts s≠[]:=by
 cases s with
 | nil=>simp[parts]
 | cons c cs=>
  unfold parts;by_cases h:c=47
  ·rw[ao h];simp
  rw[ah h];split<;>simp
theorem aLa:∀{s:Bs},47∉s->parts s=[s]
 | [],_=>rfl
 | c::cs,h=>by
  have a:c≠47:=fun e=>h (by simp[e]);rw[parts,ah a,aLa (s:=cs) fun b=>h (am _ b)]
theorem aNc:∀{a:Bs} (b:Bs),47∉a->parts (a++47::b)=a::parts b
 | [],b,_=>by rw[aT,parts,ao rfl]
 | c::cs,b,h=>by
  have d:c≠47:=fun e=>h (by simp[e]);rw[aV,parts,ah d,aNc (a:=cs) b fun f=>h (am _ f)]
theorem aIl:∀(s:Bs) p,p∈parts s->47∉p
 | [],p,h=>by simp[parts] at h;subst h;simp
 | c::cs,p,h=>by
  unfold parts at h;by_cases b:c=47
  ·rw[ao b] at h
   rcases ax.1 h with rfl | h
   ·simp
   exact aIl cs p h
  rw[ah b] at h;have ih:=aIl cs;split at h
  ·rename_i d t e
   rcases ax.1 h with rfl | h
   ·intro f
    rcases ax.1 f with a | a
    ·exact b a.symm
    exact ih d (by rw[e];exact bu ..) a
   exact ih p (by rw[e];exact am _ h)
  rename_i e;exact absurd e (aZx cs)
def tailJ (ss:List Bs):Bs:=ss.flatMap (47::·)
theorem aEv:∀(s:Bs),∃p ps,parts s=p::ps/\s=p++tailJ ps
 | []=>⟨[],[],rfl,rfl⟩
 | c::cs=>by
  obtain ⟨p,ps,b,d⟩:=aEv cs;unfold parts;by_cases a:c=47
  ·rw[ao a]
   refine ⟨[],parts cs,rfl,?_⟩;rw[b,tailJ,aL,<-tailJ,a,aT];simp[<-d]
  rw[ah a,b];exact ⟨c::p,ps,rfl,by rw[aV,<-d]⟩
theorem aTh:∀{s:Bs},47∈s->∃a b,s=a++47::b/\47∉a
 | c::cs,h=>by
  by_cases d:c=47
  ·exact ⟨[],cs,by rw[d];rfl,by simp⟩
  obtain ⟨a,b,e,ha⟩:=aTh (s:=cs) (by rcases ax.1 h with e | e;exact absurd e.symm d;exact e);exact ⟨c::a,b,by rw[e];rfl,fun f=>by rcases ax.1 f with e | e;exact d e.symm;exact ha e⟩
theorem aPo:∀{a:Bs} (b:Bs),47∉a->Lib.index (a++47::b) [47]=a.length
 | [],b,_=>by rw[aT,Lib.index];simp[List.isPrefixOf]
 | c::cs,b,h=>by
  have f:c≠47:=fun e=>h (by simp[e]);have d:((47:UInt8) == c)=false:=by simp;exact fun e=>f e.symm
  have ih:=aPo (a:=cs) b fun g=>h (am _ g);rw[aV,Lib.index,ih];simp[List.isPrefixOf,d]
theorem aLg:∀(k:Nat) (s:Bs),s.count 47=k->Lib.splitK [47] 0 k s=parts s
 | 0,s,h=>by
  rw[aLa (ij.1 h)];rfl
 | k+1,s,h=>by
  have c:47∈s:=by
   rw[<-kZ];omega
  obtain ⟨a,b,rfl,ha⟩:=aTh c
  have d:b.count 47=k:=by
   rw[lG,kh,ij.2 ha] at h;omega
  rw[aNc b ha,Lib.splitK,aPo b ha,ah (by simp)];have e:((a.length:Int)).toNat=a.length:=O;rw[e,dv,List.take_left,bf,jR,cI O,jS,aT];rw[show List.drop 1 (47::b)=b from rfl,aLg k b d]
theorem aXo(s:ByteArray):(Lib.splitB ⟨#[47]⟩ 0 (Lib.countB s ⟨#[47]⟩) s).map (·.data.toList)=parts s.data.toList:=by
 rw[Lib.splitB_data];refine aLg _ _ ?_;rw[<-Lib.count_one]
def byteOk (c:UInt8):Bool:=decide (33<=c.toNat) && decide (c.toNat<=126)
def partOk (p:Bs):Bool:=!decide (p=[]) && !decide (p=[46]) && !decide (p=[46,46])
def pathOk (s:Bs):Bool:=decide (1<=s.length) && decide (s.length<=100) && s.all byteOk && (parts s).all partOk
def within (p d:Bs):Bool:=(d++[47]).isPrefixOf p
theorem aGw {p d:Bs}:within p d=true↔∃r,p=d++47::r:=by
 rw[within,List.isPrefixOf_iff_prefix];constructor
 ·rintro ⟨r,h⟩;exact ⟨r,by rw[<-h];simp⟩
 rintro ⟨r,h⟩;exact ⟨r,by rw[h];simp⟩
theorem aVs {p d:Bs}(h:within p d=true):d.length<p.length:=by
 obtain ⟨r,rfl⟩:=aGw.1 h;simp
def way (m:Bs->Bool)(at_:Bs):List Bs->Bool
 | []=>false
 | s::ss=>m at_ || way m (at_++47::s) ss
theorem bHk {m:Bs->Bool}:∀{ss:List Bs} {at_:Bs},(∀s∈ss,47∉s)->(way m at_ ss=true↔∃q r,m q=true/\at_.length<=q.length/\at_++tailJ ss=q++47::r)
 | [],at_,_=>by
  constructor
  ·intro h;cases h
  rintro ⟨q,r,_,o,e⟩;have:=congrArg List.length e;simp[tailJ] at this;omega
 | s::ss,at_,hc=>by
  have ih:=bHk (m:=m) (ss:=ss) (at_:=at_++47::s) fun x n=>hc x (am _ n);have k:at_++tailJ (s::ss)=(at_++47::s)++tailJ ss:=by simp[tailJ]
  rw[way,dt,ih,k];constructor
  ·rintro (h | ⟨q,r,b,d,a⟩)
   ·exact ⟨at_,s++tailJ ss,h,aa _,by simp⟩
   exact ⟨q,r,b,by simp at d;omega,a⟩
  rintro ⟨q,r,b,d,a⟩;by_cases i:q.length=at_.length
  ·left
   have:(at_++47::s++tailJ ss).take at_.length=(q++47::r).take at_.length:=(by rw[a]);rw[<-i] at this;simp[i] at this;rw[this];exact b
  refine .inr ⟨q,r,b,?_,a⟩;rcases bo q.length (at_++47::s).length with f | g
  ·exfalso
   have c:(at_++47::s++tailJ ss)[q.length]? = some 47:=(by rw[a];simp);rw[aZ f,a6 d] at c;obtain ⟨j,l⟩:∃j,q.length-at_.length=j+1:=⟨q.length-at_.length-1,O⟩;rw[l,bE] at c;exact hc s (bu ..) (aC c)
  exact g
theorem bIm {m:Bs->Bool}{p s:Bs}{ss:List Bs}(h:parts p=s::ss):way m s ss=true↔∃q,m q=true/\within p q=true:=by
 obtain ⟨n,l,j,a⟩:=aEv p;rw[h] at j;injection j with e1 e2;subst e1 e2;have g:∀x,x∈s::ss->47∉x:=fun x f=>aIl p x (by rw[h];exact f);rw[bHk fun x f=>g x (am _ f)];constructor
 ·rintro ⟨q,r,b,_,c⟩
  exact ⟨q,b,aGw.2 ⟨r,by rw[a];exact c⟩⟩
 rintro ⟨q,b,c⟩;obtain ⟨r,k⟩:=aGw.1 c;refine ⟨q,r,b,?_,by rw[<-a];exact k⟩;rcases bo q.length s.length with d | e
 ·exfalso
  have i:(s++tailJ ss)[q.length]? = some 47:=by rw[<-a,k];simp
  rw[aZ d] at i;exact g s (bu ..) (aC i)
 exact e
structure FV where
 path:ByteArray
 exec:Bool
 text:ByteArray
deriving DecidableEq
def FV.cells (f:FV):List Value:=[.string f.path,.bool f.exec,.string f.text]
def FV.p (f:FV):Bs:=f.path.data.toList
def bl (a b:Bs):Bool:=decide (a<b)
def FileOk (f:FV):Prop:=pathOk f.p=true/\f.text.size<=20000
def Rise (l:List FV):Prop:=∀i a b,l[i]? = some a->l[i+1]? = some b->a.p<b.p
def TreeOk (l:List FV):Prop:=l.length<=100/\(∀f∈l,FileOk f)/\Rise l/\∀f∈l,∀g∈l,within f.p g.p=false
open Classical in
noncomputable def treeOk (l:List FV):Bool:=decide (TreeOk l)
theorem aAx {l:List FV}:treeOk l=true↔TreeOk l:=by simp[treeOk]
def clashP (a b:Bs):Bool:=decide (a=b) || within a b || within b a
theorem aFp {a b c:Bs}(d:a<b)(e:b<c):a<c:=kK d e
theorem Rise.lt {l:List FV}(h:Rise l):∀{i j:Nat} {a b:FV},i<j->l[i]? = some a->l[j]? = some b->a.p<b.p:=by
 intro i j
 induction j with
 | zero=>intro a b c;omega
 | succ j ih=>
  intro a b c ha d;have f:j<l.length:=by have:=(aj.1 d).1;omega
  by_cases e:i=j
  ·subst e;exact h i a b ha d
  exact aFp (ih O ha (ac f)) (h j _ b (ac f) d)
theorem aHz {a b:Bs}(h:a<b):a≠b:=fun e=>by subst e;exact eR _ h
theorem bDo {l:List FV}(o:l.length<=100)(q:∀f∈l,FileOk f)(r:Rise l)(k:∀(i j:Nat)(a b:FV),j<i->l[i]? = some a->l[j]? = some b->clashP b.p a.p=false):TreeOk l:=by
 refine ⟨o,q,r,fun f m g n=>?_⟩;obtain ⟨i,c,rfl⟩:=bn m;obtain ⟨j,d,rfl⟩:=bn n;rcases eZ i j with h | h | h
 ·have:=k j i _ _ h (ac d) (ac c)
  simp only[clashP,dn] at this;exact this.1.2
 ·subst h
  cases e:within l[i].p l[i].p with
  | false=>rfl
  | true=>have:=aVs e;omega
 have:=k i j _ _ h (ac c) (ac d);simp only[clashP,dn] at this;exact this.2
theorem TreeOk.pair {l:List FV}(h:TreeOk l){i j:Nat}{a b:FV}(c:j<i)(ha:l[i]? = some a)(d:l[j]? = some b):clashP b.p a.p=false:=by
 have e:=h.2.2.2 b (aC d) a (aC ha);have f:=h.2.2.2 a (aC ha) b (aC d);simp[clashP,e,f,aHz (h.2.2.1.lt c d ha)]
def cells8 (l:Bs):List Value:=l.map fun b=>.int .u8 (b.toNat:Int)
theorem aPr(l:Bs):(cells8 l).length=l.length:=az _
theorem rd8 {n c:Nat}{l:Bs}(h:Rd w B 1 A n c (cells8 l)){k:Nat}(i:k<n) :
  ∃b o u,A=some ⟨b,o,none⟩/\b<B/\l[k]? = some u/\w.cell? ⟨b,o+k,none⟩=some (.int .u8 u.toNat):=by
 obtain ⟨b,o,v,e,d,a,f⟩:=h.one i;rw[cells8,aG,be] at a;obtain ⟨u,g,rfl⟩:=a;exact ⟨b,o,u,e,d,g,f⟩
theorem aJm(c:UInt8):byteOk c=(decide ((33:Int)<=c.toNat) && decide ((c.toNat:Int)<=126)):=by
 rw[byteOk];congr 1<;>exact iG.2 O
theorem aWn(c:UInt8)(w:World):Calls prog 124 #[.int .u8 c.toNat] w fun e w'=>e=.returned (.bool (!byteOk c))/\w'=w:=by
 have b:(c.toNat:Int)<256:=by have:=c.toNat_lt;omega
 have a:=hid (aJm c);generalize (c.toNat:Int)=z at *;go_enter Tryz.func124,Tryz.ntmps124;by_cases d:z<33
 ·go_wp2
  go_ret;refine ⟨aAi ?_,rfl⟩;rw[a.out,ak O];rfl
 by_cases f:126<z
 ·go_wp2
  go_ret;refine ⟨aAi ?_,rfl⟩;rw[a.out,ak (p:=z<=126) O,gI];rfl
 go_wp2;go_ret;refine ⟨aAi ?_,rfl⟩;rw[a.out,aq O,aq O];rfl
def PlaceOf (bad:Bool)(n:Nat)(w:World)(e:Ending) (w':World):Prop:=∃k:Int,e=.returned (.int .i64 k)/\bad=decide (0<=k)/\-1<=k/\k<=n/\Below w.heap.size w w'
theorem bBm {n c:Nat}{l:Bs}(z:n<=maxLen)(B:BB<=w.heap.size)(h:Rd w BB 1 A n c (cells8 l)) :
  Calls prog 147 #[.slice A n c,.func (.func 124) #[] #[]] w (PlaceOf (!l.all byteOk) n w):=by
 have v:=hid (show l.length=n by have:=h.len;rw[aPr] at this;omega);unfold maxLen at z;go_enter Tryz.func147,Tryz.ntmps147;go_wp2;go_loopw[8] (fun i wr=>∃k:Nat,k<=n/\i=.int .i64 k/\Below w.heap.size w wr/\Hid (∀u∈l.take k,byteOk u=true)) (fun i _=>n-(intOf i).toNat)
 case atStart=>exact ⟨0,al _,rfl,Below.refl _ _,by rw[bi];intro m a;cases a⟩
 obtain ⟨k,C,rfl,b,r⟩:=hrel;by_cases j:k<n
 ·obtain ⟨s,x,u,rfl,y,t,o⟩:=rd8 h j
  replace o:=(b.cell (p:=⟨s,x+k,none⟩) (by show s<_;omega)).trans o;have q:=hid t;clear t;go_wp2_with fail;refine (aWn u _).mono ?_;rintro e D ⟨rfl,rfl⟩
  cases d:byteOk u
  ·have f:=hid d
   clear d;go_wp2;go_ret;refine ⟨k,rfl,?_,O,O,b⟩;rw[aq O,cz,dM];exact ⟨u,aC q.out,by rw[f.out];simp⟩
  have f:=hid d;clear d;go_wp2;go_roundw
  case rel=>
   refine ⟨k+1,O,by go_num,b,?_⟩;intro m a;rw[aB,q.out] at a;rcases aQ.1 a with a | a
   ·exact r m a
   simp at a;subst a;exact f.out
  simp[intOf];omega
 have g:k=n:=O;subst g;go_wp2;go_ret;refine ⟨-1,rfl,?_,O,O,b⟩;rw[ak O];have:=r.out;rw[ai (by rw[v.out];omega)] at this;rw[bF.2 this];rfl
open Go.Shelf
def Tryz.lays221_ren:Go.Shelf.Ren:=⟨fun | 221=>168 | 268=>203 | 138=>204 | 143=>205 | 195=>242 | 197=>243 | 218=>244 | 219=>245 | 260=>274 | 217=>275 | 225=>276 | 224=>277 | 267=>278 | 266=>293 | 314=>294 | n=>n,fun | 9=>9 | 3=>3 | 31=>135 | 4=>4 | 0=>0 | 105=>300 | 21=>21 | 5=>5 | 46=>28 | 119=>332 | 139=>335 | 138=>334 | 146=>336 | 51=>257 | n=>n,fun | 1=>0 | 3=>1 | 4=>2 | n=>n⟩
theorem Tryz.lays221:Go.Proofs.Lays.n221 prog Tryz.lays221_ren:={
 mixed:=T
 f138:=Tryz.func204.trans (congrArg some T)
 f143:=Tryz.func205.trans (congrArg some T)
 f195:=Tryz.func242.trans (congrArg some T)
 f197:=Tryz.func243.trans (congrArg some T)
 f217:=Tryz.func275.trans (congrArg some T)
 f218:=Tryz.func244.trans (congrArg some T)
 f219:=Tryz.func245.trans (congrArg some T)
 f221:=Tryz.func168.trans (congrArg some T)
 f224:=Tryz.func277.trans (congrArg some T)
 f225:=Tryz.func276.trans (congrArg some T)
 f260:=Tryz.func274.trans (congrArg some T)
 f266:=Tryz.func293.trans (congrArg some T)
 f267:=Tryz.func278.trans (congrArg some T)
 f268:=Tryz.func203.trans (congrArg some T)
 f314:=Tryz.func294.trans (congrArg some T)
 t0:=dY
 a0:=gJ
 z0:=fI
 v0:=ez
 t3:=bw
 a3:=ee
 z3:=dN
 v3:=bS
 t4:=cg
 a4:=ef
 z4:=dP
 v4:=ci
 t5:=dE
 a5:=gK
 z5:=fJ
 v5:=eC
 t9:=bG
 a9:=eL
 z9:=d9
 v9:=cO
 t21:=ju
 a21:=lH
 z21:=kL
 v21:=jT
 t31:=eS
 a31:=ic
 z31:=gM
 v31:=fd
 t46:=gu
 a46:=i6
 z46:=iJ
 v46:=gU
 t51:=fK
 a51:=iK
 z51:=iu
 v51:=gv
 t105:=je
 a105:=kM
 z105:=ki
 v105:=jw
 t119:=jf
 a119:=kN
 z119:=kj
 t138:=jg
 a138:=kO
 z138:=km
 v138:=jx
 t139:=jh
 a139:=kP
 z139:=kn
 v139:=jy
 t146:=ji
 a146:=kQ
 z146:=ko
 v146:=jz
 g1:=T
 g3:=T
 g4:=by kernel_rfl }
open Go.RowKit Go.Lib in
theorem Tryz.strings_genSplit(s a:ByteArray)(b:Nat)(n:Int)(N:Nat)(m:Int)(w:World)(g:s.size<4294967281)(h:w.cell? ⟨0,0,none⟩=some (.int .i64 m))(i:1<=a.size)(d:b<=a.size)(f:n≠0)(c:n<=9223372036854775807)(j:(N:Int)=min (if n<0 then (Lib.countB s a:Int)+1 else n) ((s.size:Int)+1)) :
  Calls prog 168 #[.string s,.string a,.int .i64 b,.int .i64 n] w fun e w'=>
   e=.returned (.slice (some ⟨w.heap.size,0,none⟩) (Lib.splitB a b (N-1) s).length N)/\w'=w.alloc (.cells (Lib.cellsOf (Lib.splitB a b (N-1) s) N) 9):=Any.strings_genSplit Tryz.lays221 T s a b n N m w g h i d f c j
def Tryz.lays146_ren:Go.Shelf.Ren:=⟨fun | 146=>149 | 221=>168 | 268=>203 | 138=>204 | 143=>205 | 195=>242 | 197=>243 | 218=>244 | 219=>245 | 260=>274 | 217=>275 | 225=>276 | 224=>277 | 267=>278 | 266=>293 | 314=>294 | n=>n,fun | 9=>9 | 31=>135 | 3=>3 | 4=>4 | 0=>0 | 105=>300 | 21=>21 | 5=>5 | 46=>28 | 119=>332 | 139=>335 | 138=>334 | 146=>336 | 51=>257 | n=>n,fun | 1=>0 | 3=>1 | 4=>2 | n=>n⟩
theorem Tryz.lays146:Go.Proofs.Lays.n146 prog Tryz.lays146_ren:={
 mixed:=T
 f138:=Tryz.func204.trans (congrArg some T)
 f143:=Tryz.func205.trans (congrArg some T)
 f146:=Tryz.func149.trans (congrArg some T)
 f195:=Tryz.func242.trans (congrArg some T)
 f197:=Tryz.func243.trans (congrArg some T)
 f217:=Tryz.func275.trans (congrArg some T)
 f218:=Tryz.func244.trans (congrArg some T)
 f219:=Tryz.func245.trans (congrArg some T)
 f221:=Tryz.func168.trans (congrArg some T)
 f224:=Tryz.func277.trans (congrArg some T)
 f225:=Tryz.func276.trans (congrArg some T)
 f260:=Tryz.func274.trans (congrArg some T)
 f266:=Tryz.func293.trans (congrArg some T)
 f267:=Tryz.func278.trans (congrArg some T)
 f268:=Tryz.func203.trans (congrArg some T)
 f314:=Tryz.func294.trans (congrArg some T)
 t0:=dY
 a0:=gJ
 z0:=fI
 v0:=ez
 t3:=bw
 a3:=ee
 z3:=dN
 v3:=bS
 t4:=cg
 a4:=ef
 z4:=dP
 v4:=ci
 t5:=dE
 a5:=gK
 z5:=fJ
 v5:=eC
 t9:=bG
 a9:=eL
 z9:=d9
 v9:=cO
 t21:=ju
 a21:=lH
 z21:=kL
 v21:=jT
 t31:=eS
 a31:=ic
 z31:=gM
 v31:=fd
 t46:=gu
 a46:=i6
 z46:=iJ
 v46:=gU
 t51:=fK
 a51:=iK
 z51:=iu
 v51:=gv
 t105:=je
 a105:=kM
 z105:=ki
 v105:=jw
 t119:=jf
 a119:=kN
 z119:=kj
 t138:=jg
 a138:=kO
 z138:=km
 v138:=jx
 t139:=jh
 a139:=kP
 z139:=kn
 v139:=jy
 t146:=ji
 a146:=kQ
 z146:=ko
 v146:=jz
 g1:=T
 g3:=T
 g4:=by kernel_rfl }
open Go.RowKit Go.Lib in
theorem Tryz.strings_Split(s a:ByteArray)(m:Int)(w:World)(b:s.size<4294967281)(c:w.cell? ⟨0,0,none⟩=some (.int .i64 m))(d:1<=a.size) :
  Calls prog 149 #[.string s,.string a] w fun e w'=>
   e=.returned (.slice (some ⟨w.heap.size,0,none⟩) (Lib.countB s a+1) (Lib.countB s a+1))/\w'=w.alloc (.cells ((Lib.splitB a 0 (Lib.countB s a) s).map Value.string).toArray 9):=Any.strings_Split Tryz.lays146 T s a m w b c d
def Tryz.laysM146_ren:Go.Shelf.Ren:=⟨fun | 146=>149 | 221=>168 | 268=>203 | 138=>204 | 143=>205 | 195=>242 | 197=>243 | 218=>244 | 219=>245 | 260=>274 | 217=>275 | 225=>276 | 224=>277 | 267=>278 | 266=>293 | 314=>294 | n=>n,fun | 9=>9 | 31=>135 | 3=>3 | 4=>4 | 0=>0 | 105=>300 | 21=>21 | 5=>5 | 46=>28 | 119=>332 | 139=>335 | 138=>334 | 146=>336 | 51=>257 | n=>n,fun | 1=>0 | 3=>1 | 4=>2 | n=>n⟩
theorem Tryz.laysM146:Go.Proofs.LaysM.n146 prog Tryz.laysM146_ren:={
 mixed:=T
 f138:=Tryz.func204.trans (congrArg some T)
 f143:=Tryz.func205.trans (congrArg some T)
 f146:=Tryz.func149.trans (congrArg some T)
 f195:=Tryz.func242.trans (congrArg some T)
 f197:=Tryz.func243.trans (congrArg some T)
 f217:=Tryz.func275.trans (congrArg some T)
 f218:=Tryz.func244.trans (congrArg some T)
 f219:=Tryz.func245.trans (congrArg some T)
 f221:=Tryz.func168.trans (congrArg some T)
 f224:=Tryz.func277.trans (congrArg some T)
 f225:=Tryz.func276.trans (congrArg some T)
 f260:=Tryz.func274.trans (congrArg some T)
 f266:=Tryz.func293.trans (congrArg some T)
 f267:=Tryz.func278.trans (congrArg some T)
 f268:=Tryz.func203.trans (congrArg some T)
 f314:=Tryz.func294.trans (congrArg some T)
 t0:=dY
 a0:=gJ
 z0:=fI
 v0:=ez
 t3:=bw
 a3:=ee
 z3:=dN
 v3:=bS
 t4:=cg
 a4:=ef
 z4:=dP
 v4:=ci
 t5:=dE
 a5:=gK
 z5:=fJ
 v5:=eC
 t9:=bG
 a9:=eL
 z9:=d9
 v9:=cO
 t21:=ju
 a21:=lH
 z21:=kL
 v21:=jT
 t31:=eS
 a31:=ic
 z31:=gM
 v31:=fd
 t46:=gu
 a46:=i6
 z46:=iJ
 v46:=gU
 t51:=fK
 a51:=iK
 z51:=iu
 v51:=gv
 t105:=je
 a105:=kM
 z105:=ki
 v105:=jw
 t119:=jf
 a119:=kN
 z119:=kj
 t138:=jg
 a138:=kO
 z138:=km
 v138:=jx
 t139:=jh
 a139:=kP
 z139:=kn
 v139:=jy
 t146:=ji
 a146:=kQ
 z146:=ko
 v146:=jz
 g1:=T
 g3:=T
 g4:=T
 i0:=T
 i3:=T
 i4:=T
 i5:=T
 i9:=T
 i21:=T
 i31:=T
 i46:=T
 i51:=T
 i105:=T
 i138:=T
 i139:=T
 i146:=T
 m1:=T
 s1_3:=fun w h=>Go.Proofs.cell_of_shapedOpen_int (zero:=#[.int .i64 0]) (t:=3) h (aP T) T rfl T T bw
 m3:=T
 m4:=by kernel_rfl }
def Lm (w:World):Prop:=∃m,w.cell? ⟨0,0,none⟩=some (.int .i64 m)
theorem Lm.below(h:Lm w)(b:Below B w w')(c:0<B):Lm w':=by
 obtain ⟨m,a⟩:=h;exact ⟨m,(b.cell (p:=⟨0,0,none⟩) c).trans a⟩
theorem Lm.lt(h:Lm w):0<w.heap.size:=by
 obtain ⟨m,a⟩:=h;exact World.block_lt_of_cell? _ _ a
theorem Lm.to(h:Lm w)(a:Below w.heap.size w w'):Lm w':=h.below a h.lt
theorem Lm.shaped(h:w.ShapedOpen prog):Lm w:=Tryz.laysM146.s1_3 w h
theorem aRn {p:ByteArray}{l:Bs}:p=⟨l.toArray⟩↔p.data.toList=l:=by
 constructor
 ·intro h;rw[h]
 intro h
 cases p with
 | mk d=>simp at h;rw[<-h]
theorem aCi {x y:ByteArray}(h:x.data.toList=y.data.toList):x=y:=aRn.2 h
theorem aYz(w:World)(e:TypeId)(s:ByteArray):Below w.heap.size w (Lib.bytesWorld w e s):=
 ⟨by simp only[Lib.bytesWorld,World.freeze];rfl,by simp only[Lib.bytesWorld,World.freeze];rfl,by simp only[Lib.bytesWorld,World.freeze];rfl,by rw[Lib.bytesWorld_size];omega,fun k a=>Lib.bytesWorld_at_old w e s k a⟩
theorem bLb(w:World)(e:TypeId)(s:ByteArray):Rd (Lib.bytesWorld w e s) (w.heap.size+1) 1 (some ⟨w.heap.size,0,none⟩) s.size (grownCap w s.size 0 e) (cells8 s.data.toList):=by
 have a:s.data.toList.length=s.size:=rfl;refine ⟨by rw[aPr,a];omega,?_,fun _=>⟨_,0,rfl,O,fun j u c=>?_⟩⟩
 ·exact grownCap_ge _ _ _ _
 rw[cells8,aG,be] at c;obtain ⟨x,b,rfl⟩:=c;have d:j<s.size:=by rw[<-a];exact (aj.1 b).1
 have:=Lib.bytesWorld_cell w e s j d;rw[aO,this,List.getD,b];rfl
def partOkB (p:ByteArray):Bool:=partOk p.data.toList
theorem aDv {p:ByteArray}(h:p=⟨#[]⟩\/p=⟨#[46]⟩\/p=⟨#[46,46]⟩):partOkB p=false:=by
 rcases h with rfl | rfl | rfl<;>rfl
theorem aMw {p:ByteArray}(d:p≠⟨#[]⟩)(f:p≠⟨#[46]⟩)(g:p≠⟨#[46,46]⟩):partOkB p=true:=by
 have a:¬p.data.toList=[]:=fun e=>d (aRn.2 e);have b:¬p.data.toList=[46]:=fun e=>f (aRn.2 e);have c:¬p.data.toList=[46,46]:=fun e=>g (aRn.2 e);simp[partOkB,partOk,a,b,c]
theorem aYr(p:ByteArray)(w:World):Calls prog 127 #[.string p] w fun e w'=>e=.returned (.bool (!partOkB p))/\w'=w:=by
 by_cases b:p=⟨#[]⟩
 ·have a:=hid (aDv (.inl b))
  subst b;go_enter jW,jJ;go_wp2;go_ret;exact ⟨aAi (by rw[a.out];rfl),rfl⟩
 by_cases c:p=⟨#[46]⟩
 ·have a:=hid (aDv (.inr (.inl c)))
  subst c;go_enter jW,jJ;go_wp2;go_ret;exact ⟨aAi (by rw[a.out];rfl),rfl⟩
 by_cases d:p=⟨#[46,46]⟩
 ·have a:=hid (aDv (.inr (.inr d)))
  subst d;go_enter jW,jJ;go_wp2;go_ret;exact ⟨aAi (by rw[a.out];rfl),rfl⟩
 have a:=hid (aMw b c d);have f:¬p.toList=[]:=fun e=>b (aCi (by rw[<-Lib.toList_data];exact e));have g:¬p.toList=[46]:=fun e=>c (aCi (by rw[<-Lib.toList_data];exact e));have h:¬p.toList=[46,46]:=fun e=>d (aCi (by rw[<-Lib.toList_data];exact e));clear b c d;go_enter jW,jJ;go_wp2;go_ret;exact ⟨aAi (by rw[a.out];simp[f,g,h]),rfl⟩
theorem bCv {n c:Nat}{l:List ByteArray}(z:n<=maxLen)(B:BB<=w.heap.size)(h:Rd w BB 1 A n c (l.map .string)) :
  Calls prog 148 #[.slice A n c,.func (.func 127) #[] #[]] w (PlaceOf (!l.all partOkB) n w):=by
 have v:=hid (show l.length=n by have:=h.len;rw[az] at this;omega);unfold maxLen at z;go_enter Tryz.func148,Tryz.ntmps148;go_wp2;go_loopw[8] (fun i wr=>∃k:Nat,k<=n/\i=.int .i64 k/\Below w.heap.size w wr/\Hid (∀u∈l.take k,partOkB u=true)) (fun i _=>n-(intOf i).toNat)
 case atStart=>exact ⟨0,al _,rfl,Below.refl _ _,by rw[bi];intro m a;cases a⟩
 obtain ⟨k,C,rfl,b,r⟩:=hrel;by_cases j:k<n
 ·obtain ⟨s,x,u,rfl,y,t,o⟩:=h.str j
  replace o:=(b.cell (p:=⟨s,x+k,none⟩) (by show s<_;omega)).trans o;have q:=hid t;clear t;go_wp2_with fail;refine (aYr u _).mono ?_;rintro e D ⟨rfl,rfl⟩
  cases d:partOkB u
  ·have f:=hid d
   clear d;go_wp2;go_ret;refine ⟨k,rfl,?_,O,O,b⟩;rw[aq O,cz,dM];exact ⟨u,aC q.out,by rw[f.out];simp⟩
  have f:=hid d;clear d;go_wp2;go_roundw
  case rel=>
   refine ⟨k+1,O,by go_num,b,?_⟩;intro m a;rw[aB,q.out] at a;rcases aQ.1 a with a | a
   ·exact r m a
   simp at a;subst a;exact f.out
  simp[intOf];omega
 have g:k=n:=O;subst g;go_wp2;go_ret;refine ⟨-1,rfl,?_,O,O,b⟩;rw[ak O];have:=r.out;rw[ai (by rw[v.out];omega)] at this;rw[bF.2 this];rfl
theorem bKm {n c:Nat}{l:Bs}(g:n<=maxLen)(a:BB<=w.heap.size)(h:Rd w BB 1 A n c (cells8 l)) :
  Calls prog 123 #[.slice A n c,.func (.func 124) #[] #[]] w (BoolBelow (!l.all byteOk) w):=by
 go_enter Tryz.func123,Tryz.ntmps123;go_wp2_with fail;refine (bBm g a h).mono ?_;rintro e j ⟨k,rfl,d,m,o,f⟩;unfold maxLen at g;have b:=hid d;clear d;by_cases i:(0:Int)<=k
 ·go_wp2
  go_ret;exact ⟨aAi (by simp[b.out,i]),f⟩
 go_wp2;go_ret;exact ⟨aAi (by simp[b.out]),f⟩
theorem bKv {n c:Nat}{l:List ByteArray}(g:n<=maxLen)(a:BB<=w.heap.size)(h:Rd w BB 1 A n c (l.map .string)) :
  Calls prog 125 #[.slice A n c,.func (.func 127) #[] #[]] w (BoolBelow (!l.all partOkB) w):=by
 go_enter Tryz.func125,Tryz.ntmps125;go_wp2_with fail;refine (bCv g a h).mono ?_;rintro e j ⟨k,rfl,d,m,o,f⟩;unfold maxLen at g;have b:=hid d;clear d;by_cases i:(0:Int)<=k
 ·go_wp2
  go_ret;exact ⟨aAi (by simp[b.out,i]),f⟩
 go_wp2;go_ret;exact ⟨aAi (by simp[b.out]),f⟩
def PartsIs (s:ByteArray)(w:World)(e:Ending) (w':World):Prop:=
 ∃ps:List ByteArray,e=.returned (.slice (some ⟨w.heap.size,0,none⟩) ps.length ps.length)/\ps.map (·.data.toList)=parts s.data.toList/\
  Rd w' (w.heap.size+1) 1 (some ⟨w.heap.size,0,none⟩) ps.length ps.length (ps.map .string)/\Below w.heap.size w w'/\w.heap.size+1<=w'.heap.size/\ps.length<=s.size+1
theorem aUq {s:ByteArray}(g:s.size<4294967281)(b:Lm w):Calls prog 126 #[.string s] w (PartsIs s w):=by
 obtain ⟨m,b⟩:=b;have a:=Lib.splitB_all ⟨#[47]⟩ (by decide) 0 _ s rfl;have c:=aXo s;have d:=Lib.countB_le ⟨#[47]⟩ (by decide) s.size s (aa _);go_enter Tryz.func126,Tryz.ntmps126;go_wp2_with fail;refine (Tryz.strings_Split s ⟨#[47]⟩ m w g b (by decide)).mono ?_;rintro e h ⟨rfl,rfl⟩;generalize Lib.splitB ⟨#[47]⟩ 0 (Lib.countB s ⟨#[47]⟩) s=ps at *;rw[<-a];go_wp2;go_ret;refine ⟨ps,by rw[a];rfl,c,⟨by simp,aa _,fun _=>⟨_,0,rfl,O,fun j u f=>?_⟩⟩,(Below.refl _ _).alloc (aa _) _,by simp,O⟩;rw[aO,World.cell?,au];simpa using f
theorem aOd {ps:List ByteArray}{s:ByteArray}(h:ps.map (·.data.toList)=parts s.data.toList):ps.all partOkB=(parts s.data.toList).all partOk:=by
 rw[<-h,List.all_map];rfl
theorem aSj {s:ByteArray}(B:Lm w):Calls prog 104 #[.string s] w (BoolBelow (pathOk s.data.toList) w):=by
 have j:s.data.toList.length=s.size:=rfl;by_cases E:s.size=0
 ·have b:=hid (show pathOk s.data.toList=false by rw[pathOk,j,ak O];rfl)
  have x:(s.size:Int)=0:=O;go_enter lI,kR;go_wp2;go_ret;exact ⟨aAi b.out.symm,Below.refl _ _⟩
 obtain ⟨x,_⟩:=aEs (u:=(s.size:Int)) (v:=0) O;by_cases F:100<s.size
 ·have b:=hid (show pathOk s.data.toList=false by rw[pathOk,j,ak (p:=s.size<=100) O];simp)
  have k:(100:Int)<s.size:=O;go_enter lI,kR;go_wp2;go_ret;exact ⟨aAi b.out.symm,Below.refl _ _⟩
 have k:¬(100:Int)<s.size:=O;have l:=Lib.run_convert_string_bytes w 9 102 5 s bG fL dE;have r:=aYz w 5 s;have t:=bLb w 5 s;have y:=Lib.bytesWorld_size w 5 s;go_enter lI,kR;go_wp2_with fail;refine (bKm (by simp only[maxLen];omega) O t).mono ?_;rintro e z ⟨rfl,d⟩;have a:Below w.heap.size w z:=r.trans (d.mono O);clear l r t d y;have m:=B.to a
 cases i:s.data.toList.all byteOk
 ·have b:=hid (show pathOk s.data.toList=false by rw[pathOk,i];simp)
  clear i;go_wp2;go_ret;exact ⟨aAi b.out.symm,a⟩
 have b:=hid (show pathOk s.data.toList=(parts s.data.toList).all partOk by rw[pathOk,i,j,aq O,aq O];rfl);clear i;go_wp2_with fail;refine (aUq O m).mono ?_;rintro e C ⟨ps,rfl,f,g,c,q,A⟩;have n:=hid f;clear f;go_wp2_with fail;refine (bKv (by simp only[maxLen];omega) q g).mono ?_;rintro e D ⟨rfl,h⟩;have o:=hid (a.trans ((c.mono a.size).trans (h.mono (by have:=a.size;have:=c.size;omega))));clear h c g;go_wp2;go_ret;exact ⟨aAi (by rw[b.out,<-aOd n.out]),o.out⟩
theorem T.laidOut:laidOutB prog=true:=κ
theorem wideP:(match prog.underlying 172 with | some (.array _ _) | some (.struct _)=>true | _=>false)=true:=T
theorem KP:Maps.Keyed prog 172:=gw (iL T.laidOut (m:=2) O (aP κ) κ wideP)
def klP (q:ByteArray):Lit:=.string (keyBytes [.string q.data.toList])
theorem T.types_pos:(0:Nat)<prog.types.size:=aP κ
theorem bFz {P: Program}{t e: TypeId}{f: Field} (j : P.underlying t = some (.struct #[f])) (c : f.type = e) (d : f.offset = 0) (g : (f.name != "_") = true) (b : P.cellsOf t = 1) (h : P.cellsOf e = 1)
  (i:P.underlying e=some .string) (o:P.keyType t=true) (q:0<P.types.size) {x:ByteArray} (p:x.size<=maxLen):keyOf P t (.agg #[.string x])=some (klP x):=by
 obtain ⟨k,n⟩:∃k,P.types.size=k+1:=⟨P.types.size-1,O⟩;have l:P.keyLits (k+1) e [.string x]=some [.string x.data.toList]:=by simp[Program.keyLits,i,p]
 have m:P.keyLits (k+1+1) t [.string x]=some [.string x.data.toList]:=by
  unfold Program.keyLits;simp only[j];have a : ¬ f.name = "_" := by simpa using g
  simp[b,c,d,h,l,a]
 simp[keyOf,j,o,Value.formed,b,Value.cells,n,m,klP]
theorem bFj:prog.keyType 172=true:=T
theorem cellsP:prog.cellsOf 172=1:=T
theorem aWb:prog.cellsOf 9=1:=T
theorem keyP {x:ByteArray}(h:x.size<=maxLen):keyOf prog 172 (.agg #[.string x])=some (klP x):=
 bFz Tryz.underlying172 rfl rfl rfl cellsP aWb bG bFj T.types_pos h
theorem aQf {x y:ByteArray}(b:x.size<=maxLen)(c:y.size<=maxLen)(h:x≠y):klP x≠klP y:=fun e=>by
 have a:=keyP b;rw[e] at a;have:=KP.inj a (keyP c);simp at this;exact h this
theorem aJy {x:ByteArray}(a:x.size<=maxLen):WideAt.IsKeyLit (klP x):=KP.key (keyP a)
theorem boolT(x:Bool):plainElem (H:=Value) prog 4 (.bool x)=some (.lit (.bool x),[]):=plainElem_bool cg x
theorem aUf {v:Value}{x:Bool}{ps:List MemPlace}(h:plainElem (H:=Value) prog 4 v=some (.lit (.bool x),ps)):v=.bool x:=by
 unfold plainElem at h;rw[cg] at h
 cases v<;>simp at h
 rw[h.1]
structure SetP (w:World) (b n:Nat) (D:DataW Value) (S:Bs->Bool):Prop where
 own:w.ownsMap prog 172 (plainElem prog 4) b n D
 at_:∀q:ByteArray,q.size<=maxLen->D.atKey (klP q) (.lit (.bool false))=.lit (.bool (S q.data.toList))
 has:∀q:ByteArray,q.size<=maxLen->Maps.has D (klP q)=S q.data.toList
theorem SetP.start(w:World):SetP (w.alloc (.map #[] 0)) w.heap.size 0 (.map []) (fun _=>false):=
 ⟨dB _ _ _ _,fun x _=>by simp[DataW.atKey],fun x _=>rfl⟩
theorem SetP.put {b n:Nat}{S i:Bs->Bool}{k:ByteArray}(h:SetP w b n D S)(d:k.size<=maxLen)
  (c:w'.ownsMap prog 172 (plainElem prog 4) b (n+1) (D.put (klP k) (.lit (.bool true)))) (f:∀x,i x=(S x || decide (k.data.toList=x))) :
  SetP w' b (n+1) (D.put (klP k) (.lit (.bool true))) i:=by
 refine ⟨c,fun x a=>?_,fun x a=>?_⟩
 ·by_cases e:x=k
  ·subst e
   rw[dw h.own.isMap (aJy d),f,aq rfl,i7]
  rw[dp (aQf a d e),h.at_ x a,f,ak (fun g=>e (aCi g.symm)),fX]
 by_cases e:x=k
 ·subst e
  rw[dQ h.own.isMap (aJy d),f,aq rfl,i7]
 rw[dC (aQf a d e),h.has x a,f,ak (fun g=>e (aCi g.symm)),fX]
theorem SetP.kept {b n:Nat}{S:Bs->Bool}{row:Option Nat}(h:SetP w b n D S)(c:w.grownBy w' row)(a:some b≠row):SetP w' b n D S:=
 ⟨h.own.kept c a,h.at_,h.has⟩
theorem SetP.below {b n:Nat}{S:Bs->Bool}(h:SetP w b n D S)(a:Below w.heap.size w w'):SetP w' b n D S:=
 h.kept (row:=none) ⟨a.os,a.tape,a.output,a.size,fun k c _=>a.block k c⟩ (by simp)
theorem SetP.look {b n:Nat}{S:Bs->Bool}(h:SetP w b n D S){x:ByteArray}(d:x.size<=maxLen) :
  (Instr.lookup 153 (.map (some b)) (.agg #[.string x]) false).run prog w=.ok (.bool (S x.data.toList)) w:=by
 obtain ⟨v,ps,a,c⟩:=h.own.lookup KP k6 (ci w) (boolT false) (keyP d);rw[h.at_ x d] at c;rw[aUf c] at a;exact a
theorem bJn(w:World)(x:ByteArray):(Instr.build 172 #[(0,.string x)]).run prog w=.ok (.agg #[.string x]) w:=by
 go_simp
def onWay (m:Bs->Bool)(p:Bs):Bool:=match parts p with | s::ss=>way m s ss | []=>false
theorem aVj {m:Bs->Bool}{p:Bs}:onWay m p=true↔∃q,m q=true/\within p q=true:=by
 obtain ⟨s,ss,h,_⟩:=aEv p;rw[onWay,h];exact bIm h
def WayAt (m:Bs->Bool)(p:Bs)(ps:List Bs)(k:Nat)(at_:Bs):Prop:=
 (k=0/\at_=[])\/(1<=k/\at_++tailJ (ps.drop k)=p/\way m at_ (ps.drop k)=onWay m p)
theorem WayAt.first {m:Bs->Bool}{p:Bs}{ps:List Bs}(e:parts p=ps){s:Bs}(a:ps[0]? = some s):WayAt m p ps 1 s:=by
 obtain ⟨f,c,b,d⟩:=aEv p;rw[<-e,b] at a ⊢;simp at a;subst a;refine .inr ⟨aa _,?_,?_⟩
 ·exact d.symm
 rw[onWay,b];rfl
theorem WayAt.next {m:Bs->Bool}{p:Bs}{ps:List Bs}{k:Nat}{a s:Bs}(h:WayAt m p ps k a)(j:1<=k)(f:ps[k]? = some s) :
  (m a=true->onWay m p=true)/\(m a=false->WayAt m p ps (k+1) (a++47::s)):=by
 have c:=(aj.1 f).1;have g:ps.drop k=s::ps.drop (k+1):=by rw[bp c,(aj.1 f).2]
 rcases h with ⟨i,_⟩ | ⟨_,e,b⟩
 ·omega
 rw[g] at e b;rw[way] at b;constructor
 ·intro d;rw[<-b,d,ja]
 intro d;rw[d,fW] at b;refine .inr ⟨O,?_,b⟩;rw[<-e];simp[tailJ]
theorem WayAt.len {m:Bs->Bool}{p:Bs}{ps:List Bs}{k:Nat}{a:Bs}(h:WayAt m p ps k a):a.length<=p.length:=by
 rcases h with ⟨_,rfl⟩ | ⟨_,b,_⟩
 ·exact al _
 rw[<-b];simp
theorem WayAt.done {m:Bs->Bool}{p:Bs}{ps:List Bs}{a:Bs}(h:WayAt m p ps ps.length a)(d:parts p=ps):onWay m p=false:=by
 rcases h with ⟨b,_⟩ | ⟨_,_,c⟩
 ·exact absurd (bC b) (by rw[<-d];exact aZx p)
 rw[<-c,eP];rfl
theorem bJl {p s:Bs}(h:s∈parts p):s.length<=p.length:=by
 obtain ⟨e,ss,d,c⟩:=aEv p;rw[d] at h;rcases ax.1 h with rfl | h
 ·rw[c];simp
 obtain ⟨a,b,rfl⟩:=k8 h;rw[c];simp[tailJ];omega
theorem bAy {p:ByteArray}{b n:Nat}{m:Bs->Bool}(Y:p.size<=1048576)(S:Lm w)(h:SetP w b n D m) :
  Calls prog 105 #[.map (some b),.string p] w (BoolBelow (onWay m p.data.toList) w):=by
 have T:p.data.toList.length=p.size:=rfl;go_enter Tryz.func105,Tryz.ntmps105;go_wp2_with fail;refine (aUq ω S).mono ?_;rintro e H ⟨ps,rfl,l,M,z,N,O⟩;have r:=hid l;clear l;go_wp2;go_loopw[5,11] (fun R C wr=>∃(k:Nat) (a:ByteArray),k<=ps.length/\C=.int .i64 k/\R=.string a/\Hid (WayAt m p.data.toList (ps.map (·.data.toList)) k a.data.toList)/\Below w.heap.size w wr/\Below H.heap.size H wr) (fun _ C _=>ps.length-(intOf C).toNat)
 case atStart=>exact ⟨0,⟨#[]⟩,al _,rfl,rfl,.inl ⟨rfl,rfl⟩,z,Below.refl _ _⟩
 obtain ⟨k,a,V,rfl,rfl,q,o,g⟩:=hrel;by_cases E:k<ps.length
 ·obtain ⟨W,X,u,P,Q,I,t⟩:=M.str E
  cases P
  replace t:=(g.cell (p:=⟨w.heap.size,0+k,none⟩) (by show w.heap.size<_;omega)).trans t;rw[aO] at t;have d:(ps.map (·.data.toList))[k]? = some u.data.toList:=by rw[aG,I];rfl
  have J:a.size<=p.size:=by have:=WayAt.len q.out;exact this
  have K:u.size<=p.size:=by
   refine bJl (p:=p.data.toList) (s:=u.data.toList) ?_;rw[<-r.out];exact aC d
  have G:=hid d;clear I d;by_cases F:k=0
  ·subst F
   go_wp2;go_roundw
   case rel=>
    refine ⟨1,a++u,ω,by go_num,rfl,?_,o,g⟩
    have ha:a.data.toList=[]:=by
     rcases q.out with ⟨_,h⟩ | ⟨h,_⟩
     ·exact h
     omega
    have e:(a++u).data.toList=u.data.toList:=(by rw[fZ,g6,ha,aT]);show WayAt _ _ _ 1 (a++u).data.toList;rw[e];exact WayAt.first r.out.symm G.out
   simp[intOf];omega
  have v:1<=k:=ω;have L:(0:Int)<k:=ω;have i:=(h.below (o.mono (aa _))).look (x:=a) (by unfold maxLen;omega);obtain ⟨A,B⟩:=WayAt.next q.out v G.out
  cases c:m a.data.toList with
  | true=>
   rw[c] at i;have j:=hid (A c);clear A B;go_wp2;go_ret;exact ⟨aAi j.out.symm,o⟩
  | false=>
   rw[c] at i;have j:=hid (B c);clear A B;have U:(⟨#[47]⟩:ByteArray).size=1:=rfl;go_wp2;go_roundw
   case rel=>
    refine ⟨k+1,a++⟨#[47]⟩++u,ω,by go_num,rfl,?_,o,g⟩
    have e:(a++⟨#[47]⟩++u).data.toList=a.data.toList++47::u.data.toList:=by
     rw[fZ,fZ,g6,g6];simp
    show WayAt _ _ _ (k+1) (a++⟨#[47]⟩++u).data.toList;rw[e];exact j.out
   simp[intOf];omega
 have y:k=ps.length:=ω;subst y
 have j:=hid (show onWay m p.data.toList=false from by
  have:=q.out;rw[<-az (f:=fun x:ByteArray=>x.data.toList)] at this;exact this.done r.out.symm)
 go_wp2;go_ret;exact ⟨aAi j.out.symm,o⟩
theorem T.flat_at {α:Type}{f:α->List Value}{sz:Nat}(b:∀a,(f a).length=sz):∀{l:List α} {k t:Nat} {a:α},l[k]? = some a->t<sz->(l.flatMap f)[k*sz+t]? = (f a)[t]?
 | x::l,0,t,a,h,ht=>by
  simp at h;subst h;rw[aL,ed,aO,aZ (by rw[b];exact ht)]
 | x::l,k+1,t,a,h,ht=>by
  simp at h;rw[aL,a6 (by rw[b,fe];omega),b,show (k+1)*sz+t-sz=k*sz+t by rw[fe];omega];exact T.flat_at b h ht
theorem T.rd_flat {α:Type}{f:α->List Value}{sz:Nat}(i:∀a,(f a).length=sz)(_h0:0<sz){w:World}{B n c:Nat}{A:Option Addr}{l:List α}(h:Rd w B sz A n c (l.flatMap f))(q:l.length=n){k:Nat}(r:k<n) :
  ∃b o a,A=some ⟨b,o,none⟩/\b<B/\l[k]? = some a/\a∈l/\∀t u,(f a)[t]? = some u->w.cell? ⟨b,o+k*sz+t,none⟩=some u:=by
 obtain ⟨b,o,e,m,p⟩:=h.at_ O;have d:l[k]? = some l[k]:=ac O;refine ⟨b,o,l[k],e,m,d,fw _,fun t u g=>?_⟩;have j:t<sz:=by rw[<-i l[k]];exact (aj.1 g).1
 rw[dI];exact p _ _ ((T.flat_at i d j).trans g)
theorem FV.cells_len(f:FV):f.cells.length=3:=rfl
structure RdF (w:World) (B:Nat) (A:Option Addr) (n c:Nat) (l:List FV):Prop where
 row:Rd w B 3 A n c (l.flatMap FV.cells)
 len:l.length=n
 fits:∀f∈l,f.path.size<=140737488351232/\f.text.size<=140737488351232
theorem RdF.get {n c:Nat}{l:List FV}(h:RdF w B A n c l){k:Nat}(j:k<n) :
  ∃b o f,A=some ⟨b,o,none⟩/\b<B/\l[k]? = some f/\f∈l/\w.cell? ⟨b,o+k*3,none⟩=some (.string f.path)/\w.cell? ⟨b,o+k*3+1,none⟩=some (.bool f.exec)/\w.cell? ⟨b,o+k*3+2,none⟩=some (.string f.text):=by
 obtain ⟨b,o,f,e,d,g,i,a⟩:=T.rd_flat FV.cells_len O h.row h.len j;exact ⟨b,o,f,e,d,g,i,a 0 _ rfl,a 1 _ rfl,a 2 _ rfl⟩
section
variable {w w':World} {B B' n c:Nat} {A:Option Addr} {l:List FV}
theorem RdF.to(h:RdF w B A n c l)(a:Below B w w')(b:B<=B'):RdF w' B' A n c l:=⟨h.row.to a b,h.len,h.fits⟩
theorem RdF.drew(h:RdF w B A n c l):RdF w.drew B A n c l:=⟨h.row.drew,h.len,h.fits⟩
theorem RdF.none_(w:World)(B:Nat):RdF w B none 0 0 []:=⟨Rd.none_ _ _ _,rfl,by simp⟩
end
def pathsOf (l:List FV)(q:Bs):Bool:=l.any fun f=>decide (f.p=q)
theorem aNy {l:List FV}{q:Bs}:pathsOf l q=true↔∃f∈l,f.p=q:=by simp[pathsOf]
theorem aWe(l:List FV)(f:FV)(q:Bs):pathsOf (l++[f]) q=(pathsOf l q || decide (f.p=q)):=by simp[pathsOf]
def MapP (B N:Nat)(S:Bs->Bool)(w:World)(e:Ending) (w':World):Prop:=
 ∃(b nn:Nat) (D:DataW Value),e=.returned (.map (some b))/\B<=b/\b<w'.heap.size/\nn<=N/\SetP w' b nn D S/\Below B w w'
theorem bGk {n c:Nat}{l:List FV}(P:n<=17592186044416)(h:RdF w w.heap.size A n c l) :
  Calls prog 103 #[.slice A n c] w (MapP w.heap.size n (pathsOf l) w):=by
 have F:=hid h.len;have G:=@run_makeMap prog;have e:=SetP.start w;have o:Below w.heap.size w (w.alloc (.map #[] 0)):=(Below.refl _ _).alloc (aa _) _;have H:(w.alloc (.map #[] 0)).heap.size=w.heap.size+1:=by simp
 go_enter Tryz.func103,Tryz.ntmps103;go_wp2;go_loopw[9] (fun i wr=>∃(k:Nat) (D:DataW Value),k<=n/\i=.int .i64 k/\Below w.heap.size w wr/\w.heap.size<wr.heap.size/\SetP wr w.heap.size k D (pathsOf (l.take k))) (fun i _=>n-(intOf i).toNat)
 case atStart=>exact ⟨0,_,al _,rfl,o,ω,e⟩
 obtain ⟨k,D,N,rfl,b,K,s⟩:=hrel;clear e;by_cases u:k<n
 ·obtain ⟨d,t,f,rfl,L,C,M,v,y,z⟩:=h.get u
  replace v:=(b.cell (p:=⟨d,t+k*3,none⟩) (by show d<_;omega)).trans v;replace y:=(b.cell (p:=⟨d,t+k*3+1,none⟩) (by show d<_;omega)).trans y;replace z:=(b.cell (p:=⟨d,t+k*3+2,none⟩) (by show d<_;omega)).trans z;have I:=hid C;clear C;have B:=(h.fits f M).1;have j:=s.kept (eI wr (.cells #[.string f.path,.bool f.exec,.string f.text] 48) none) (by simp);have q:=b.alloc b.size (.cells #[.string f.path,.bool f.exec,.string f.text] 48);have J:=bJn (wr.alloc (.cells #[.string f.path,.bool f.exec,.string f.text] 48)) f.path;go_wp2_with (at_mapUpdate;refine gN _ rfl _ _ _ 153 rfl 172 4 KP k6 (plainElem prog 4) w.heap.size k D rfl j.own (by unfold maxLen;omega) _ _ _ rfl rfl (keyP (by unfold maxLen;omega)) _ [] (boolT true) ?_;intro O a m);go_roundw
  case rel=>
   refine ⟨k+1,_,ω,by go_num,q.grown m (by simp;omega) (fun g E=>by injection E with E;omega),ag (by simp;omega) m.size,j.put (by unfold maxLen;omega) a fun x=>?_⟩;rw[aB,I.out];exact aWe _ _ _
  simp[intOf];omega
 have r:k=n:=ω;subst r;go_wp2;go_ret;rw[ai (by rw[F.out];omega)] at s;exact ⟨_,k,D,rfl,aa _,K,aa _,s,b⟩
structure DV where
 kind:Int
 line:ByteArray
deriving DecidableEq
def DV.cells (e:DV):List Value:=[.int .i64 e.kind,.string e.line]
theorem DV.cells_len(e:DV):e.cells.length=2:=rfl
def lcs:List ByteArray->List ByteArray->Nat
 | [],_=>0
 | _::_,[]=>0
 | x::a,y::b=>if x=y then lcs a b+1 else max (lcs a (y::b)) (lcs (x::a) b)
termination_by a b=>a.length+b.length
theorem bMf(a:List ByteArray):lcs a []=0:=by cases a<;>simp[lcs]
theorem aQl:∀(a b:List ByteArray),lcs a b<=a.length
 | [],_=>by simp[lcs]
 | _::_,[]=>by simp[lcs]
 | x::a,y::b=>by
  rw[lcs];have c:=aQl a b;have d:=aQl a (y::b);have e:=aQl (x::a) b;simp only[aD] at *;split<;>omega
termination_by a b=>a.length+b.length
def cel (a b:List ByteArray)(i k:Nat):Nat:=lcs (a.drop i) (b.drop k)
theorem aLl(a b:List ByteArray)(i k:Nat):cel a b i k<=a.length:=by
 have:=aQl (a.drop i) (b.drop k);rw[aN] at this;unfold cel;omega
theorem aSp(a b:List ByteArray)(k:Nat):cel a b a.length k=0:=by simp[cel,lcs]
theorem aYx(a b:List ByteArray)(i:Nat):cel a b i b.length=0:=by simp[cel,bMf]
theorem aRm {a b:List ByteArray}{k:Nat}{x y:ByteArray}(e:a[i]? = some x)(f:b[k]? = some y) :
  cel a b i k=if x=y then cel a b (i+1) (k+1)+1 else max (cel a b (i+1) k) (cel a b i (k+1)):=by
 obtain ⟨c,rfl⟩:=aj.1 e;obtain ⟨d,rfl⟩:=aj.1 f;unfold cel;rw[bp c,bp d,lcs]
def scrT:List ByteArray->List ByteArray->List DV
 | [],[]=>[]
 | x::a,[]=>⟨2,x⟩::scrT a []
 | [],y::b=>⟨3,y⟩::scrT [] b
 | x::a,y::b=>if x=y then ⟨1,x⟩::scrT a b else if lcs (x::a) b<=lcs a (y::b) then ⟨2,x⟩::scrT a (y::b) else ⟨3,y⟩::scrT (x::a) b
termination_by a b=>a.length+b.length
def pfx:List ByteArray->List ByteArray->Nat
 | x::a,y::b=>if x=y then pfx a b+1 else 0
 | _,_=>0
def evs (k:Int)(l:List ByteArray):List DV:=l.map fun x=>⟨k,x⟩
def rest (a b:List ByteArray):List DV:=if 400<a.length\/400<b.length then evs 2 a++evs 3 b else scrT a b
def script (a b:List ByteArray):List DV:=evs 1 (a.take (pfx a b))++rest (a.drop (pfx a b)) (b.drop (pfx a b))
def olds (l:List DV):List ByteArray:=l.flatMap fun e=>if e.kind=3 then [] else [e.line]
def news (l:List DV):List ByteArray:=l.flatMap fun e=>if e.kind=2 then [] else [e.line]
def kinds (l:List DV):Prop:=∀e∈l,e.kind=1\/e.kind=2\/e.kind=3
theorem aHq:∀a b:List ByteArray,(scrT a b).length<=a.length+b.length
 | [],[]=>by simp[scrT]
 | x::a,[]=>by rw[scrT];have:=aHq a [];simp at *;omega
 | [],y::b=>by rw[scrT];have:=aHq [] b;simp at *;omega
 | x::a,y::b=>by
  rw[scrT];have c:=aHq a b;have d:=aHq a (y::b);have e:=aHq (x::a) b;simp only[aD] at *;split
  ·simp only[aD];omega
  split<;>(simp only[aD];omega)
termination_by a b=>a.length+b.length
theorem aEb:∀a b:List ByteArray,olds (scrT a b)=a/\news (scrT a b)=b/\kinds (scrT a b)
 | [],[]=>by simp[scrT,olds,news,kinds]
 | x::a,[]=>by
  obtain ⟨d,f,g⟩:=aEb a [];rw[scrT];refine ⟨by simp only[olds,aL] at *;rw[d];simp,by simp only[news,aL] at *;rw[f];simp,?_⟩;intro e c;rcases ax.1 c with rfl | c
  ·simp
  exact g e c
 | [],y::b=>by
  obtain ⟨d,f,g⟩:=aEb [] b;rw[scrT];refine ⟨by simp only[olds,aL] at *;rw[d];simp,by simp only[news,aL] at *;rw[f];simp,?_⟩;intro e c;rcases ax.1 c with rfl | c
  ·simp
  exact g e c
 | x::a,y::b=>by
  rw[scrT];split
  ·rename_i h
   obtain ⟨d,f,g⟩:=aEb a b;refine ⟨by simp only[olds,aL] at *;rw[d];simp,by simp only[news,aL] at *;rw[f];simp[h],?_⟩;intro e c;rcases ax.1 c with rfl | c
   ·simp
   exact g e c
  split
  ·obtain ⟨d,f,g⟩:=aEb a (y::b)
   refine ⟨by simp only[olds,aL] at *;rw[d];simp,by simp only[news,aL] at *;rw[f];simp,?_⟩;intro e c;rcases ax.1 c with rfl | c
   ·simp
   exact g e c
  obtain ⟨d,f,g⟩:=aEb (x::a) b;refine ⟨by simp only[olds,aL] at *;rw[d];simp,by simp only[news,aL] at *;rw[f];simp,?_⟩;intro e c;rcases ax.1 c with rfl | c
  ·simp
  exact g e c
termination_by a b=>a.length+b.length
theorem aZr(l m:List DV):olds (l++m)=olds l++olds m:=by simp[olds]
theorem aSh(l m:List DV):news (l++m)=news l++news m:=by simp[news]
theorem aSc(a:List ByteArray):olds (evs 1 a)=a/\news (evs 1 a)=a/\olds (evs 2 a)=a/\news (evs 2 a)=[]/\olds (evs 3 a)=[]/\news (evs 3 a)=a:=by
 induction a with
 | nil=>simp[evs,olds,news]
 | cons x a ih=>
  simp only[evs,olds,news,dc,aL] at *;simp[ih]
theorem aNg(k:Int)(c:k=1\/k=2\/k=3)(a:List ByteArray):kinds (evs k a):=by
 intro e b;obtain ⟨x,_,rfl⟩:=ce.1 b;exact c
theorem aUu {l m:List DV}(h:kinds l) (b:kinds m):kinds (l++m):=by
 intro e a;rcases aQ.1 a with a | a
 ·exact h e a
 exact b e a
theorem bGo(a b:List ByteArray):olds (rest a b)=a/\news (rest a b)=b/\kinds (rest a b):=by
 unfold rest;split
 ·obtain ⟨_,_,c,d,_,_⟩:=aSc a
  obtain ⟨_,_,_,_,e,f⟩:=aSc b;rw[aZr,aSh,c,d,e,f];exact ⟨by simp,by simp,aUu (aNg 2 (by simp) a) (aNg 3 (by simp) b)⟩
 exact aEb a b
theorem aFq:∀a b:List ByteArray,a.take (pfx a b)=b.take (pfx a b)
 | x::a,y::b=>by
  rw[pfx];split
  ·rename_i h
   subst h;simp[aFq a b]
  simp
 | [],_=>by simp[pfx]
 | _::_,[]=>by simp[pfx]
theorem aNf(a b:List ByteArray):olds (script a b)=a/\news (script a b)=b/\kinds (script a b):=by
 obtain ⟨c,d,_⟩:=aSc (a.take (pfx a b));obtain ⟨e,f,g⟩:=bGo (a.drop (pfx a b)) (b.drop (pfx a b));unfold script;rw[aZr,aSh,c,d,e,f];exact ⟨aY _ _,by rw[aFq,aY],aUu (aNg 1 (by simp) _) g⟩
theorem aPj(a b:List ByteArray):(script a b).length<=a.length+b.length:=by
 unfold script rest;have h:=aHq (a.drop (pfx a b)) (b.drop (pfx a b));rw[aN,aN] at h;have c:=congrArg List.length (aFq a b);rw[aE,aE] at c;split
 ·simp only[evs,ae,az,aE,aN];omega
 simp only[evs,ae,az,aE];omega
theorem bAv:∀{k:Nat} {a b:List ByteArray},k<=a.length->k<=b.length->a.take k=b.take k->(k=a.length\/k=b.length\/a[k]?≠b[k]?)->pfx a b=k
 | 0,[],b,_,_,_,_=>by simp[pfx]
 | 0,x::a,[],_,_,_,_=>by simp[pfx]
 | 0,x::a,y::b,_,_,_,h=>by
  have d:x≠y:=by simpa using h
  rw[pfx,ah d]
 | k+1,[],b,h,_,_,_=>by simp at h
 | k+1,x::a,[],_,h,_,_=>by simp at h
 | k+1,x::a,y::b,h1,h2,c,h4=>by
  simp only[iW,List.cons.injEq] at c;obtain ⟨rfl,c⟩:=c;rw[pfx,ao rfl,bAv (k:=k) (by simpa using h1) (by simpa using h2) c (by simpa using h4)]
section
variable {a b:List ByteArray} {i k:Nat} {x y:ByteArray}
theorem aEp(c:a[i]? = some x):a.drop i=x::a.drop (i+1):=by
 obtain ⟨b,rfl⟩:=aj.1 c;exact bp b
theorem aZc(c:a[i]? = some x)(d:b[k]? = some y)(h:x=y):scrT (a.drop i) (b.drop k)=⟨1,x⟩::scrT (a.drop (i+1)) (b.drop (k+1)):=by
 rw[aEp c,aEp d,scrT,ao h]
theorem bIx(c:a[i]? = some x):scrT (a.drop i) (b.drop b.length)=⟨2,x⟩::scrT (a.drop (i+1)) (b.drop b.length):=by
 rw[aEp c,eP,scrT]
theorem bKk(c:b[k]? = some y):scrT (a.drop a.length) (b.drop k)=⟨3,y⟩::scrT (a.drop a.length) (b.drop (k+1)):=by
 rw[aEp c,eP,scrT]
theorem bHu(d:a[i]? = some x)(e:b[k]? = some y)(h:x≠y)(c:cel a b i (k+1)<=cel a b (i+1) k):scrT (a.drop i) (b.drop k)=⟨2,x⟩::scrT (a.drop (i+1)) (b.drop k):=by
 unfold cel at c;rw[aEp d,aEp e] at *;rw[scrT,ah h,ao c]
theorem bEk(d:a[i]? = some x)(e:b[k]? = some y)(h:x≠y)(c:¬cel a b i (k+1)<=cel a b (i+1) k):scrT (a.drop i) (b.drop k)=⟨3,y⟩::scrT (a.drop i) (b.drop (k+1)):=by
 unfold cel at c;rw[aEp d,aEp e] at *;rw[scrT,ah h,ah c]
end
def splitL:Bs->List Bs
 | []=>[]
 | x::s=>if x=10 then [x]::splitL s else
  match splitL s with
  | []=>[[x]]
  | l::ls=>(x::l)::ls
theorem aIa:∀s:Bs,(splitL s).flatten=s
 | []=>rfl
 | x::s=>by
  have ih:=aIa s;rw[splitL];split
  ·rw[el,ih];rfl
  split
  ·rename_i h;rw[h] at ih;rw[<-ih];rfl
  rename_i l a h;rw[h,el] at ih;rw[el,<-ih];rfl
def ofB (l:Bs):ByteArray:=⟨l.toArray⟩
def linesF (s:ByteArray):List ByteArray:=(splitL s.data.toList).map ofB
def joinF (l:List ByteArray):ByteArray:=ofB (l.flatMap fun x=>x.data.toList)
theorem bDh(s:ByteArray):joinF (linesF s)=s:=by
 have h:(linesF s).flatMap (fun x=>x.data.toList)=s.data.toList:=by
  rw[linesF,jU]
  have:(splitL s.data.toList).flatMap (fun a=>(ofB a).data.toList)=(splitL s.data.toList).flatten:=by
   rw[mx];congr 1;exact List.map_id'' (fun a=>by simp[ofB]) _
  rw[this,aIa]
 rw[joinF,h]
 cases s;simp[ofB]
structure KV where
 kind:Int
 base:List ByteArray
 ours:List ByteArray
 theirs:List ByteArray
deriving DecidableEq
def placesF:List DV->Nat->List (Option Nat)
 | [],_=>[]
 | e::es,j=>if e.kind=1 then some j::placesF es (j+1) else if e.kind=2 then none::placesF es j else placesF es (j+1)
def placeF (base side:List ByteArray):List (Option Nat):=placesF (script base side) 0
def sliceF (l:List ByteArray)(i k:Nat):List ByteArray:=(l.take k).drop i
theorem aCq:Elem prog 135 9 1 16:=aCa T
theorem aSv(w:World)(x:ByteArray):Rd (w.alloc (.cells #[.string x] 9)) (w.heap.size+1) 1 (some ⟨w.heap.size,0,none⟩) 1 1 ([x].map .string):=
 ⟨rfl,aa _,fun _=>⟨_,0,rfl,O,fun j u a=>by
  rw[aO,World.cell?,au];simpa using a⟩⟩
def Cut (s:Bs)(ps:List Bs)(f i:Nat):Prop:=parts s=ps++parts (s.drop f)/\f<=i/\i<=s.length/\47∉(s.drop f).take (i-f)
theorem Cut.start(s:Bs):Cut s [] 0 0:=⟨rfl,aa _,al _,by simp⟩
theorem Cut.slash {s:Bs}{ps:List Bs}{f:Nat}(h:Cut s ps f i)(b:s[i]? = some 47):Cut s (ps++[(s.drop f).take (i-f)]) (i+1) (i+1):=by
 obtain ⟨d,j,k,g⟩:=h;have a:=(aj.1 b).1;refine ⟨?_,aa _,O,by simp⟩
 have e:s.drop f=(s.drop f).take (i-f)++47::s.drop (i+1):=by
  have c:(s.drop f).drop (i-f)=47::s.drop (i+1):=by
   rw[List.drop_drop,show f+(i-f)=i by omega,bp a,(aj.1 b).2]
  rw[<-c,aY]
 rw[d,aH];congr 1
 conv=>lhs;rw[e]
 rw[aNc _ g];rfl
theorem Cut.no {s:Bs}{ps:List Bs}{f:Nat}{c:UInt8}(h:Cut s ps f i)(b:s[i]? = some c)(j:c≠47):Cut s ps f (i+1):=by
 obtain ⟨e,k,l,g⟩:=h;have d:=(aj.1 b).1;refine ⟨e,O,O,?_⟩;rw[show i+1-f=(i-f)+1 by omega,aB,bO,show f+(i-f)=i by omega,b];intro a;rcases aQ.1 a with a | a
 ·exact g a
 simp at a;exact j a.symm
theorem Cut.last {s:Bs}{ps:List Bs}{f:Nat}(h:Cut s ps f s.length):parts s=ps++[s.drop f]:=by
 obtain ⟨b,c,d,a⟩:=h;rw[ai (by rw[aN];omega)] at a;rw[b,aLa a]
theorem aMe(s:ByteArray)(f i:Nat):(s.extract f i).data.toList=(s.data.toList.drop f).take (i-f):=by
 simp[ByteArray.data_extract,List.take_drop]
 try (rw[kq])
 try (congr 1;omega)
def StrsIs (P:List Bs->Prop)(w:World)(e:Ending) (w':World):Prop:=
 ∃(A:Option Addr) (c:Nat) (ps:List ByteArray),e=.returned (.slice A ps.length c)/\P (ps.map (·.data.toList))/\Rd w' w'.heap.size 1 A ps.length c (ps.map .string)/\Below w.heap.size w w'
theorem bCh {s:ByteArray}(J:s.size<=1048576):Calls prog 93 #[.string s] w (StrsIs (·=parts s.data.toList) w):=by
 have y:s.data.toList.length=s.size:=rfl;go_enter Tryz.func93,Tryz.ntmps93;go_wp2
 go_loopw[3,4,5] (fun F G v wr=>∃(f i:Nat) (ps:List ByteArray),i<=s.size/\f<=i/\G=.int .i64 f/\v=.int .i64 i/\Hid (Cut s.data.toList (ps.map (·.data.toList)) f i)/\ps.length<=i/\
   Below w.heap.size w wr/\wr.ownsRow w.heap.size 9 1 F ps.length (ps.map .string)) (fun _ _ v _=>s.size-(intOf v).toNat)
 case atStart=>exact ⟨0,0,[],al _,aa _,rfl,rfl,Cut.start _,aa _,Below.refl _ _,aA _ _ _ _⟩
 obtain ⟨f,i,ps,I,z,rfl,rfl,q,A,o,r⟩:=hrel;by_cases H:i<s.size
 ·have k:s.data.toList[i]? = some s[i]:=by
   have:=ac (l:=s.data.toList) (i:=i) O;rw[this];rfl
  by_cases b:s[i]=47
  ·have m:((s[i].toNat:Int) == 47)=true:=by rw[b];rfl
   rw[b] at k;have n:=hid (q.out.slash k);have a:=o.alloc o.size (.cells #[.string (s.extract f i)] 9);have c:=r.alloc (.cells #[.string (s.extract f i)] 9);clear k b;go_wp2_with (at_builtin;refine aAl rfl (.tmp 16) (.tmp 21) 135 rfl aCq rfl rfl c (aSv wr (s.extract f i)) (aAt _) (by unfold maxLen;omega) O a.size ?_;intro B C d j t);go_roundw
   case rel=>
    refine ⟨i+1,i+1,ps++[s.extract f i],O,O,by go_num,by go_num,?_,by simp;omega,a.grown j a.size (fun g x=>(c.lt g x).1),?_⟩
    ·rw[aM,dc,dK,aMe];exact n.out
    rw[ae,aM];exact d
   simp[intOf];omega
  have m:((s[i].toNat:Int) == 47)=false:=by
   refine a7.2 fun e=>b (iR ?_);show s[i].toNat=47;omega
  have n:=hid (q.out.no k b);clear k b;go_wp2;go_roundw
  case rel=>exact ⟨f,i+1,ps,O,O,rfl,by go_num,n.out,O,o,r⟩
  simp[intOf];omega
 obtain rfl:i=s.size:=O;have h:=q.out;rw[<-y] at h;have n:=hid h.last;have a:=o.alloc o.size (.cells #[.string (s.extract f s.size)] 9);have c:=r.alloc (.cells #[.string (s.extract f s.size)] 9);clear h;go_wp2_with (at_builtin;refine aAl rfl (.tmp 25) (.tmp 29) 135 rfl aCq rfl rfl c (aSv wr (s.extract f s.size)) (aAt _) (by unfold maxLen;omega) O a.size ?_;intro B C d j t);have p:=a.grown j a.size (fun g x=>(c.lt g x).1);obtain ⟨D,E,rfl,u⟩:=aAd d;go_ret;refine ⟨D,E,ps++[s.extract f s.size],by rw[ae];rfl,?_,?_,p⟩
 ·rw[n.out,aM,dc,dK,aMe,ai (by rw[aN];omega)]
 have:=Rd.of_own d u;rw[<-aM,show ps.length+1=(ps++[s.extract f s.size]).length by simp] at this;exact this
theorem T.bytesLess:∀(x y:Bs),Op.bytesLess x y=decide (x<y)
 | [],[]=>by simp[Op.bytesLess]
 | _::_,[]=>by simp[Op.bytesLess]
 | [],_::_=>by simp[Op.bytesLess]
 | a::x,b::y=>by
  rw[Op.bytesLess,T.bytesLess x y];by_cases h:a<b
  ·simp[h,kf]
  by_cases e:a=b
  ·subst e;simp[]
  simp[h,e,kf]
theorem bLj(a b:Bs):a<b\/a=b\/b<a:=by
 by_cases h:a<b
 ·exact .inl h
 by_cases c:b<a
 ·exact .inr (.inr c)
 exact .inr (.inl (my (mP.1 c) (mP.1 h)))
theorem aQt(a b:ByteArray):Op.bytesLess a.toList b.toList=decide (a.data.toList<b.data.toList):=by rw[T.bytesLess,Lib.toList_data,Lib.toList_data]
theorem aSw(a b:ByteArray):(Op.bytesLess a.toList b.toList || decide (a=b))=!decide (b.data.toList<a.data.toList):=by
 rw[aQt];rcases bLj a.data.toList b.data.toList with h | h | h
 ·have c:¬b.data.toList<a.data.toList:=List.lt_asymm h
  simp[h,c]
 ·have e:a=b:=aCi h
  subst e;simp[eR]
 have c:¬a.data.toList<b.data.toList:=List.lt_asymm h;have e:a≠b:=fun e=>by subst e;exact eR _ h
 simp[h,c,e]
def Fine (l:List FV)(k:Nat)(f:FV):Prop:=FileOk f/\(∀g,1<=k->l[k-1]? = some g->g.p<f.p)/\onWay (pathsOf l) f.p=false
theorem TreeOk.fine {l:List FV}(h:TreeOk l){k:Nat}{f:FV}(b:l[k]? = some f):Fine l k f:=by
 refine ⟨h.2.1 f (aC b),fun g i a=>h.2.2.1 (k-1) g f a (by rw[Nat.sub_add_cancel i];exact b),?_⟩
 cases e:onWay (pathsOf l) f.p with
 | false=>rfl
 | true=>
  obtain ⟨q,d,c⟩:=aVj.1 e;obtain ⟨g,a,rfl⟩:=aNy.1 d;rw[h.2.2.2 f (aC b) g a] at c;cases c
theorem bGt {l:List FV}(o:l.length<=100)(h:∀k f,l[k]? = some f->Fine l k f):TreeOk l:=by
 refine ⟨o,fun f d=>?_,fun i a b ha m=>(h (i+1) b m).2.1 a O ha,fun f d g n=>?_⟩
 ·obtain ⟨i,c,rfl⟩:=bn d
  exact (h i _ (ac c)).1
 obtain ⟨i,c,rfl⟩:=bn d;have j:=(h i _ (ac c)).2.2
 cases e:within l[i].p g.p with
 | false=>rfl
 | true=>
  have:=aVj.2 ⟨g.p,aNy.2 ⟨g,n,rfl⟩,e⟩;rw[this] at j;cases j
theorem bMn {l:List FV}{k:Nat}{f:FV}(a:l[k]? = some f)(h:¬Fine l k f):treeOk l=false:=by
 cases e:treeOk l with
 | false=>rfl
 | true=>exact absurd ((aAx.1 e).fine a) h
theorem aVk {l:List FV}(h:100<l.length):treeOk l=false:=by
 cases e:treeOk l with
 | false=>rfl
 | true=>have:=(aAx.1 e).1;omega
def FineTo (l:List FV)(k:Nat):Prop:=∀j f,j<k->l[j]? = some f->Fine l j f
theorem FineTo.done {l:List FV}{n:Nat}(h:FineTo l n)(b:l.length=n)(c:n<=100):treeOk l=true:=
 aAx.2 (bGt O fun k f a=>h k f (by have:=(aj.1 a).1;omega) a)
theorem FineTo.next {l:List FV}{k:Nat}{f:FV}(h:FineTo l k)(b:l[k]? = some f)(c:Fine l k f):FineTo l (k+1):=by
 intro j g d a;by_cases e:j=k
 ·subst e;rw[b] at a;injection a with a;subst a;exact c
 exact h j g O a
theorem aDa {n c:Nat}{l:List FV}(hn:n<=17592186044416)(hm:Lm w)(h:RdF w w.heap.size A n c l) :
  Calls prog 75 #[.slice A n c] w (BoolBelow (treeOk l) w):=by
 have HL:=hid h.len;by_cases nr:100<n
 ·have o:=hid (aVk (l:=l) (by rw[HL.out];exact nr))
  go_enter Tryz.func75,Tryz.ntmps75;go_wp2;go_ret;exact ⟨aAi o.out.symm,Below.refl _ _⟩
 have S:n<=100:=ω;go_enter Tryz.func75,Tryz.ntmps75;go_wp2_with fail;refine (bGk hn h).mono ?_;rintro e w1 ⟨g,nn,D,rfl,nw,nz,nF,hS,nk⟩;go_wp2;go_loopw[13] (fun i wr=>∃k:Nat,k<=n/\i=.int .i64 k/\Below w.heap.size w wr/\Below w1.heap.size w1 wr/\Hid (FineTo l k)) (fun i _=>n-(intOf i).toNat)
 case atStart=>exact ⟨0,al _,rfl,nk,Below.refl _ _,fun j f hj=>absurd hj (bN _)⟩
 obtain ⟨k,hk,rfl,hb,nm,hF⟩:=hrel;by_cases nC:k<n
 ·obtain ⟨H,o0,f,eA,nG,hx,nA,h0,h1,h2⟩:=h.get nC
  cases eA
  replace h0:=(hb.cell (p:=⟨H,o0+k*3,none⟩) (by show H<_;omega)).trans h0;replace h1:=(hb.cell (p:=⟨H,o0+k*3+1,none⟩) (by show H<_;omega)).trans h1;replace h2:=(hb.cell (p:=⟨H,o0+k*3+2,none⟩) (by show H<_;omega)).trans h2;have HX:=hid hx;clear hx;have nD:=h.fits f nA;obtain ⟨s,I⟩:∃x,x=wr.alloc (.cells #[.string f.path,.bool f.exec,.string f.text] 48):=⟨_,rfl⟩;have ff:Below wr.heap.size wr s:=by rw[I];exact (Below.refl _ _).alloc (aa _) _
  have nE:s.heap.size=wr.heap.size+1:=by rw[I];simp
  have U:∀t u,f.cells[t]? = some u->s.cell? ⟨wr.heap.size,t,none⟩=some u:=by
   intro t u hu;rw[I,World.cell?,au];simpa[FV.cells] using hu
  have c0:=U 0 _ rfl;have c2:=U 2 _ rfl;clear U;have d:Below w.heap.size w s:=hb.trans (ff.mono hb.size);have nj:Lm s:=hm.to d;have q:Below w1.heap.size w1 s:=nm.trans (ff.mono nm.size);have ns:=hS.below q;have R:∀v:World,Below s.heap.size s v->Calls prog 104 #[.string f.path] v (BoolBelow (pathOk f.p) v):=fun v hv=>aSj (nj.to hv);have N:∀v:World,Below s.heap.size s v->f.path.size<=1048576->Calls prog 105 #[.map (some g),.string f.path] v (BoolBelow (onWay (pathsOf l) f.p) v):=fun v hv hs=>bAy hs (nj.to hv) (ns.below hv);have a:∀v:World,Below s.heap.size s v->¬Fine l k f->BoolBelow (treeOk l) w (.returned (.bool false)) v:=fun v hv J=>⟨aAi (bMn HX.out J).symm,d.trans (hv.mono d.size)⟩
  have V:pathOk f.p=true->f.path.size<=100:=fun h=>by
   simp only[pathOk,ay,bh] at h;exact h.1.1.2
  go_wp2;rw[<-I];clear I h0 h1 h2 hS nk nw nz;refine aAe (fun w'=>Below s.heap.size s w') (qe [2,29] 31) mixed κ (Below.refl _ _).drew ?_;intro T M Q K y L z;have C:M ⟨wr.heap.size,0,none⟩=some (.string f.path):=L _ _ fun w' hw=>(hw.cell (p:=⟨wr.heap.size,0,none⟩) (by show wr.heap.size<_;omega)).trans c0;have E:M ⟨wr.heap.size,2,none⟩=some (.string f.text):=L _ _ fun w' hw=>(hw.cell (p:=⟨wr.heap.size,2,none⟩) (by show wr.heap.size<_;omega)).trans c2;simp only[qcmp,Nat.reduceBEq,Bool.or_self,i7];simp (maxSteps:=9^7) only[↓qpre,aAb,aAg,aAc,C];refine aAh κ (R _ (Below.refl _ _).drew) rfl rfl ?_;rintro e v1 ⟨rfl,nB⟩;have b:Below s.heap.size s v1:=(Below.refl _ _).drew.trans nB;refine ⟨_,rfl,K _ b,?_⟩
  cases hp:pathOk f.p with
  | false=>
   have o:=a v1 b (fun J=>by rw[J.1.1] at hp;cases hp);clear R N a;simp (maxSteps:=9^7) only[↓qpre,aAb,aAc];refine z _ _ ?_;clear z K y L C E;go_wp2;go_ret;exact o
  | true=>
   have hz:=V hp;by_cases ht:20000<f.text.size
   ·have F:decide ((20000:Int)<f.text.size)=true:=aq ω
    have o:=a v1 b (fun J=>by have:=J.1.2;omega);clear R N a;simp (maxSteps:=9^7) only[↓qpre,aAb,aAg,aAc,E,F];refine z _ _ ?_;clear z K y L C E;go_wp2;go_ret;exact o
   have F:decide ((20000:Int)<f.text.size)=false:=ak ω;by_cases nH:k=0
   ·have O:decide ((0:Int)<k)=false:=ak ω
    have W:∀g,1<=k->l[k-1]? = some g->g.p<f.p:=fun g h=>(by omega);simp (maxSteps:=9^7) only[↓qpre,aAb,aAg,aAc,C,E,F,O];refine aAh κ (N _ b ω) rfl rfl ?_;rintro e v2 ⟨rfl,Y⟩;have m:=b.trans (Y.mono b.size);refine ⟨_,rfl,K _ m,?_⟩
    cases Z:onWay (pathsOf l) f.p with
    | true=>
     have o:=a v2 m (fun J=>by rw[J.2.2] at Z;cases Z);clear R N a;simp (maxSteps:=9^7) only[↓qpre,aAb,aAc];refine z _ _ ?_;clear z K y L C E;go_wp2;go_ret;exact o
    | false=>
     have o:=hid (FineTo.next hF.out HX.out ⟨⟨hp,ω⟩,W,Z⟩);have X:=d.trans (m.mono d.size);have G:=q.trans (m.mono q.size);clear R N a;simp (maxSteps:=9^7) only[↓qpre,aAb,aAc];refine z _ _ ?_;clear z K y L C E;go_wp2;go_roundw
     case rel=>exact ⟨k+1,ω,by go_num,X,G,o.out⟩
     simp[intOf];omega
   have O:decide ((0:Int)<k)=true:=aq ω;obtain ⟨b1,o1,g1,eA,_,nq,_,p0,p1,p2⟩:=h.get (k:=k-1) ω
   cases eA
   have m5:M ⟨H,o0+(k-1)*3,none⟩=some (.string g1.path):=L _ _ fun w' hw=>(hw.cell (p:=⟨H,o0+(k-1)*3,none⟩) (by show H<_;have:=d.size;omega)).trans ((d.cell (p:=⟨H,o0+(k-1)*3,none⟩) (by show H<_;omega)).trans p0);have e1:((k:Int)-1).toNat=k-1:=ω;have P:=aSw f.path g1.path;by_cases B:g1.path.data.toList<f.path.data.toList
   ·have W:∀g,1<=k->l[k-1]? = some g->g.p<f.p:=fun g _ h=>by rw[nq] at h;injection h with h;subst h;exact B
    have r:=P.trans (by rw[aq B];rfl:_=false);simp (maxSteps:=9^7) only[↓qpre,aAb,aAg,aAc,C,E,F,O,m5,e1,r];refine ⟨by unfold inI64;omega,⟨ω,ω⟩,?_⟩;clear P r m5 p0 p1 p2;refine aAh κ (N _ b ω) rfl rfl ?_;rintro e v2 ⟨rfl,Y⟩;have m:=b.trans (Y.mono b.size);refine ⟨_,rfl,K _ m,?_⟩
    cases Z:onWay (pathsOf l) f.p with
    | true=>
     have o:=a v2 m (fun J=>by rw[J.2.2] at Z;cases Z);clear R N a;simp (maxSteps:=9^7) only[↓qpre,aAb,aAc];refine z _ _ ?_;clear z K y L C E;go_wp2;go_ret;exact o
    | false=>
     have o:=hid (FineTo.next hF.out HX.out ⟨⟨hp,ω⟩,W,Z⟩);have X:=d.trans (m.mono d.size);have G:=q.trans (m.mono q.size);clear R N a;simp (maxSteps:=9^7) only[↓qpre,aAb,aAc];refine z _ _ ?_;clear z K y L C E;go_wp2;go_roundw
     case rel=>exact ⟨k+1,ω,by go_num,X,G,o.out⟩
     simp[intOf];omega
   have o:=a v1 b (fun J=>B (J.2.1 g1 ω nq));have r:=P.trans (by rw[ak B];rfl:_=true);clear R N a;simp (maxSteps:=9^7) only[↓qpre,aAb,aAg,aAc,C,E,F,O,m5,e1,r];refine ⟨by unfold inI64;omega,⟨ω,ω⟩,z _ _ ?_⟩;clear z K y L C E m5 p0 p1 p2 P r;go_wp2;go_ret;exact o
 have nu:k=n:=ω;subst nu;have o:=hid (hF.out.done HL.out S);go_wp2;go_ret;exact ⟨aAi o.out.symm,hb⟩
theorem bIy {s:ByteArray}{k:Nat}{p:UInt8->Bool}(h:(s.data.toList.take k).all p=true)(a:k<s.size)(c:p s[k]=true):(s.data.toList.take (k+1)).all p=true:=by
 have b:s.data.toList[k]? = some s[k]:=by
  have:=ac (l:=s.data.toList) (i:=k) a;rw[this];rfl
 rw[aB,b,iS,h];simp[c]
theorem bId {s:ByteArray}{k:Nat}{p:UInt8->Bool}(a:k<s.size)(c:p s[k]=false):s.data.toList.all p=false:=by
 have b:s.data.toList[k]? = some s[k]:=by
  have:=ac (l:=s.data.toList) (i:=k) a;rw[this];rfl
 rw[dM];exact ⟨_,aC b,by rw[c];simp⟩
theorem aLf {s:ByteArray}(h:s.data.toList.all byteOk=false):pathOk s.data.toList=false:=by rw[pathOk,h];simp
theorem aIj {s:ByteArray}{ps:List ByteArray}(a:ps.map (·.data.toList)=parts s.data.toList){u:ByteArray}(b:u∈ps)(h:partOkB u=false):pathOk s.data.toList=false:=by
 have:(parts s.data.toList).all partOk=false:=by rw[<-aOd a,dM];exact ⟨u,b,by rw[h];simp⟩
 rw[pathOk,this];simp
theorem bCw {s:ByteArray}{ps:List ByteArray}(d:¬s.size=0)(e:¬100<s.size)(a:(s.data.toList.take s.size).all byteOk=true)(c:ps.map (·.data.toList)=parts s.data.toList)(h:∀u∈ps,partOkB u=true):pathOk s.data.toList=true:=by
 have b:s.data.toList.length=s.size:=rfl;rw[ai O] at a;rw[pathOk,b,aq O,aq O,a,<-aOd c,bF.2 h];rfl
theorem aTw:∀(s:Bs),(parts s).length<=s.length+1
 | []=>by simp[parts]
 | c::cs=>by
  have ih:=aTw cs;unfold parts;split
  ·simp;omega
  split
  ·rename_i e;rw[e] at ih;simp at ih ⊢;omega
  simp
theorem aWd {s:ByteArray}:Calls prog 51 #[.string s] w (BoolBelow (pathOk s.data.toList) w):=by
 have B:s.data.toList.length=s.size:=rfl;by_cases t:s.size=0
 ·have v:=hid (show pathOk s.data.toList=false by rw[pathOk,B,ak ω];rfl)
  have Q:(s.size:Int)<1:=ω;go_enter mQ,lJ;go_wp2;go_ret;exact ⟨aAi v.out.symm,Below.refl _ _⟩
 have I:¬(s.size:Int)<1:=ω;by_cases P:100<s.size
 ·have v:=hid (show pathOk s.data.toList=false by rw[pathOk,B,ak (p:=s.size<=100) ω];simp)
  have x:(100:Int)<s.size:=ω;go_enter mQ,lJ;go_wp2;go_ret;exact ⟨aAi v.out.symm,Below.refl _ _⟩
 have x:¬(100:Int)<s.size:=ω;go_enter mQ,lJ;go_wp2;go_loopw[3] (fun i wr=>∃k:Nat,k<=s.size/\i=.int .i64 k/\Below w.heap.size w wr/\Hid ((s.data.toList.take k).all byteOk=true)) (fun i _=>s.size-(intOf i).toNat)
 case atStart=>exact ⟨0,al _,rfl,Below.refl _ _,rfl⟩
 obtain ⟨k,L,rfl,q,F⟩:=hrel;by_cases f:k<s.size
 ·by_cases U:(s[k].toNat:Int)<33
  ·have b:=hid (aLf (bId (p:=byteOk) f (by rw[aJm,ak ω];rfl)))
   go_wp2;go_ret;exact ⟨aAi b.out.symm,q⟩
  by_cases V:126<(s[k].toNat:Int)
  ·have b:=hid (aLf (bId (p:=byteOk) f (by rw[aJm,ak (p:=(s[k].toNat:Int)<=126) ω,gI])))
   go_wp2;go_ret;exact ⟨aAi b.out.symm,q⟩
  have b:=hid (bIy (p:=byteOk) F.out f (by rw[aJm,aq ω,aq ω];rfl));go_wp2;go_roundw
  case rel=>exact ⟨k+1,ω,by go_num,q,b.out⟩
  simp[intOf];omega
 obtain rfl:k=s.size:=ω;go_wp2_with fail;refine (bCh ω).mono ?_;rintro e G ⟨A,c,ps,rfl,n,M,a⟩;replace a:=q.trans (a.mono q.size);have l:=hid n;have J:ps.length<=s.size+1:=by have:=aTw s.data.toList;rw[<-n,az] at this;exact this
 clear n;go_wp2;go_loopw[5] (fun i wr=>∃k:Nat,k<=ps.length/\i=.int .i64 k/\Below w.heap.size w wr/\Below G.heap.size G wr/\Hid (∀u∈ps.take k,partOkB u=true)) (fun i _=>ps.length-(intOf i).toNat)
 case atStart=>exact ⟨0,al _,rfl,a,Below.refl _ _,by rw[bi];intro m d;cases d⟩
 obtain ⟨k,L,rfl,a,r,H⟩:=hrel;by_cases f:k<ps.length
 ·obtain ⟨N,O,u,rfl,y,z,t⟩:=M.str f
  replace t:=(r.cell (p:=⟨N,O+k,none⟩) y).trans t;have K:=hid z;have d:=aC z;clear z;by_cases g:u=⟨#[]⟩
  ·have b:=hid (aIj l.out d (aDv (.inl g)))
   subst g;go_wp2;go_ret;exact ⟨aAi b.out.symm,a⟩
  by_cases h:u=⟨#[46]⟩
  ·have b:=hid (aIj l.out d (aDv (.inr (.inl h))))
   subst h;go_wp2;go_ret;exact ⟨aAi b.out.symm,a⟩
  by_cases j:u=⟨#[46,46]⟩
  ·have b:=hid (aIj l.out d (aDv (.inr (.inr j))))
   subst j;go_wp2;go_ret;exact ⟨aAi b.out.symm,a⟩
  have b:=hid (aMw g h j);have C:¬u.toList=[]:=fun e=>g (aCi (by rw[<-Lib.toList_data];exact e));have D:¬u.toList=[46]:=fun e=>h (aCi (by rw[<-Lib.toList_data];exact e));have E:¬u.toList=[46,46]:=fun e=>j (aCi (by rw[<-Lib.toList_data];exact e));have R:u.toList.isEmpty=false:=by rw[List.isEmpty_eq_false_iff];exact C
  have S:(u.toList == [46])=false:=a7.2 D;have T:(u.toList == [46,46])=false:=a7.2 E;clear g h j C D E;go_wp2;go_roundw
  case rel=>
   refine ⟨k+1,ω,by go_num,a,r,?_⟩;intro m d;rw[aB,K.out] at d;rcases aQ.1 d with d | d
   ·exact H.out m d
   simp at d;subst d;exact b.out
  simp[intOf];omega
 obtain rfl:k=ps.length:=ω;have o:=H.out;rw[List.take_length] at o;have b:=hid (bCw t P F.out l.out o);go_wp2;go_ret;exact ⟨aAi b.out.symm,a⟩
theorem aUm(p d:ByteArray):within p.data.toList d.data.toList=true↔∃h:d.size<p.size,p.extract 0 d.size=d/\p[d.size]=47:=by
 have g:p.data.toList.length=p.size:=rfl;have c:d.data.toList.length=d.size:=rfl;have f:(p.extract 0 d.size).data.toList=p.data.toList.take d.size:=by rw[aMe];simp
 rw[aGw];constructor
 ·rintro ⟨r,h⟩
  have b:d.size<p.size:=by rw[<-g,<-c,h];simp
  refine ⟨b,aCi (by rw[f,h,<-c,List.take_left]),?_⟩
  have a:p.data.toList[d.size]? = some p[d.size]:=by
   have:=ac (l:=p.data.toList) (i:=d.size) O;rw[this];rfl
  have e:(d.data.toList++47::r)[d.size]? = some 47:=by rw[<-c,a6 (aa _),lK];rfl
  rw[h,e] at a;injection a with a;exact a.symm
 rintro ⟨b,a,e⟩
 have j:p.data.toList[d.size]? = some p[d.size]:=by
  have:=ac (l:=p.data.toList) (i:=d.size) O;rw[this];rfl
 refine ⟨p.data.toList.drop (d.size+1),?_⟩;have k:p.data.toList.take d.size=d.data.toList:=by rw[<-f,a]
 conv=>lhs;rw[<-aY d.size p.data.toList,k,bp O]
 have m:=(aj.1 j).2;rw[m,e]
theorem aOo {p:ByteArray}(h:¬∃h:d.size<p.size,p.extract 0 d.size=d/\p[d.size]=47):within p.data.toList d.data.toList=false:=by
 cases e:within p.data.toList d.data.toList with
 | false=>rfl
 | true=>exact absurd ((aUm p d).1 e) h
theorem aNv {p:ByteArray}(_hp:p.size<=maxLen)(k:d.size<=maxLen):Calls prog 94 #[.string p,.string d] w fun e w'=>e=.returned (.bool (within p.data.toList d.data.toList))/\w'=w:=by
 unfold maxLen at _hp k;by_cases i:d.size<p.size
 ·have c:(d.size:Int)<p.size:=O
  by_cases g:p.extract 0 d.size=d
  ·by_cases b:p[d.size]=47
   ·have a:=hid ((aUm p d).2 ⟨i,g,b⟩)
    have f:((p[d.size].toNat:Int) == 47)=true:=(by rw[b];rfl);go_enter kr,jX;go_wp2;go_ret;exact ⟨aAi a.out.symm,rfl⟩
   have a:=hid (aOo (p:=p) (d:=d) fun ⟨_,_,h⟩=>b h)
   have f:((p[d.size].toNat:Int) == 47)=false:=by
    refine a7.2 fun e=>b (iR ?_);show p[d.size].toNat=47;omega
   go_enter kr,jX;go_wp2;go_ret;exact ⟨aAi a.out.symm,rfl⟩
  have a:=hid (aOo (p:=p) (d:=d) fun ⟨_,h,_⟩=>g h);have j:=aBi g;go_enter kr,jX;go_wp2;go_ret;exact ⟨aAi a.out.symm,rfl⟩
 have a:=hid (aOo (p:=p) (d:=d) fun ⟨h,_⟩=>i h);have c:¬(d.size:Int)<p.size:=O;go_enter kr,jX;go_wp2;go_ret;exact ⟨aAi a.out.symm,rfl⟩
theorem aQs {p:ByteArray}(g:p.size<=maxLen)(i:d.size<=maxLen):Calls prog 52 #[.string p,.string d] w fun e w'=>e=.returned (.bool (clashP p.data.toList d.data.toList))/\w'=w:=by
 by_cases h:p=d
 ·subst h
  have b:=hid (show clashP p.data.toList p.data.toList=true by simp[clashP]);go_enter mR,lL;go_wp2;go_ret;exact ⟨aAi b.out.symm,rfl⟩
 have l:=aBi h
 have f:=hid (show clashP p.data.toList d.data.toList=(within p.data.toList d.data.toList || within d.data.toList p.data.toList) by
  have:¬p.data.toList=d.data.toList:=fun e=>h (aCi e);simp[clashP,this])
 have c:=aNv (w:=w) g i;have j:=aNv (w:=w) i g
 cases a:within p.data.toList d.data.toList with
 | true=>
  rw[a] at c;have b:=hid a;clear a;go_enter mR,lL;go_wp2_with fail;refine c.mono ?_;rintro e k ⟨rfl,rfl⟩;go_wp2;go_ret;exact ⟨aAi (by rw[f.out,b.out];rfl),rfl⟩
 | false=>
  rw[a] at c;have b:=hid a;clear a;go_enter mR,lL;go_wp2_with fail;refine c.mono ?_;rintro e k ⟨rfl,rfl⟩;go_wp2_with fail;refine j.mono ?_;rintro e m ⟨rfl,rfl⟩;go_wp2;go_ret;exact ⟨aAi (by rw[f.out,b.out];rfl),rfl⟩
end Go.Proofs.YtohblmepajhpaaaGreatDoor
