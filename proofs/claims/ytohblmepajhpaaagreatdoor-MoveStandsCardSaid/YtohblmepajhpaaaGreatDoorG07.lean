/- Contracts of functions that the law reaches; plain laws. -/
import Derived.Test.YtohblmepajhpaaaGreatDoorG02
import Derived.Test.YtohblmepajhpaaaGreatDoorG03
import Derived.Test.YtohblmepajhpaaaGreatDoorG06
set_option maxHeartbeats 8000000
set_option maxRecDepth 100000
open Go.Lib (hid)
namespace Go.Proofs.YtohblmepajhpaaaGreatDoor
open Go.Proofs.Tryz (prog)
open Go.RowKit
variable {B b n c k r cap sz x i g N:Nat}{s:Bs}{w w' u:World}{A:Option Addr}{l:List Nat}{cur:Array Value}{e:TypeId}{xs:List Value}{q1 v:Value}{D:DataW Value}{G:Nat->Nat->Option Nat}{ms:List MV}
theorem TxtAt.below {p:Value}(h:TxtAt B b p s w)(a:Below w.heap.size w w'):TxtAt B b p s w':=by
 obtain ⟨⟨l,v,d,f,i⟩,g⟩:=h
 have c:b<w.heap.size:=by
  rcases bo b w.heap.size with j | j
  ·exact j
  simp[br j] at d
 exact ⟨⟨l,v,(a.block b c).trans d,f.kept (row:=none) ⟨a.os,a.tape,a.output,a.size,fun k m _=>a.block k m⟩ (by cases n:v.ownBlock<;>simp),i⟩,fun e=>(a.cell (p:=⟨b,1,none⟩) c).trans (g e)⟩
theorem Txt.below(h:Txt B b s w)(a:Below w.heap.size w w'):Txt B b s w':=by
 rcases h with h | h
 ·exact .inl (h.below a)
 exact .inr (h.below a)
theorem aDb(s:Bs):(ofB s).data.toList=s:=by simp[ofB]
theorem aCe(l:List ByteArray):(joinF l).data.toList=catF l:=aDb _
theorem aDp(h:Below w.heap.size w w'):Lib.OthersKept 5 (some b) w w':=fun k o d _ _=>by
 have a:k<w.heap.size:=by
  rcases bo k w.heap.size with c | c
  ·exact c
  simp[br c] at d
 exact (h.block k a).trans d
def TxtIs (B b:Nat)(s:Bs)(w:World)(e:Ending) (w':World):Prop:=e=.returned (.tuple #[])/\Txt B b s w'/\Below B w w'/\Lib.OthersKept 5 (some b) w w'
theorem aMt {l:List ByteArray}(h:Txt B b s w)(g:B<=w.heap.size)(F:n<=1000000)(y:Rd w w.heap.size 1 A n c (l.map .string))(G:s.length+(catF l).length<=10000000) :
  Calls prog 185 #[.pointer (some ⟨b,0,none⟩),.slice A n c] w (TxtIs B b (s++catF l) w):=by
 have z:(joinF l).size=(catF l).length:=by rw[<-aBk,aCe]
 go_enter Tryz.func185,Tryz.ntmps185;go_wp2;refine aAe (fun _=>True) [(true,0),(true,1),(true,2),(true,3),(false,4),(false,5)] mixed T trivial ?_;intro D M Q r t C x;clear C;simp only[qcmp];simp (maxSteps:=9^7) only[↓qpre,aAb,aAg,aAc];refine aAh T (aZd (w:=w.drew) O y.drew O) rfl rfl ?_;rintro e i ⟨rfl,a⟩;have v:=h.below (show Below w.heap.size w i from (Below.refl _ _).drew.trans a);have j:B<=i.heap.size:=aw g a.size;have k:=hid (aDp (b:=b) (show Below w.heap.size w i from (Below.refl _ _).drew.trans a));have m:=hid (show Below B w i from ((Below.refl w.heap.size w).drew.trans a).mono g);refine ⟨_,rfl,r _ trivial,?_⟩;simp (maxSteps:=9^7) only[aAb,aAc];refine aAh T (aFd v O j) rfl rfl ?_;rintro e E ⟨rfl,u,d,f⟩;have o:=hid (k.out.trans f);rw[aCe] at u;have p:=hid u;have q:=hid (m.out.trans d);refine ⟨_,rfl,r _ trivial,?_⟩;simp (maxSteps:=9^7) only[aAb,aAc];refine x _ _ ?_;clear x r t h v u a d y f;go_wp2;refine aI (aF rfl _ _ _) rfl ?_;exact ⟨rfl,.inr p.out,q.out,o.out⟩
theorem suffix10(s:Bs):Lib.hasSuffix s [10]=decide (s.getLast? = some 10):=by
 unfold Lib.hasSuffix;rw[ii,bh,List.isSuffixOf_iff_suffix];constructor
 ·rintro ⟨t,rfl⟩;simp
 intro h;obtain ⟨l,a⟩:=List.getLast?_eq_some_iff.1 h;exact ⟨l,a.symm⟩
theorem aJc(h:Txt B b s w)(X:B<=w.heap.size)(Y:k<=3)(hs:s.length<=900000) :
  Calls prog 186 #[.pointer (some ⟨b,0,none⟩),.int .i64 k] w (TxtIs B b (endedF s++(markS k).data.toList) w):=by
 have Z:(markS k).size<=20:=by
  have:k=0\/k=1\/k=2\/k=3:=ω;rcases this with rfl | rfl | rfl | rfl<;>decide
 have K0:=bEs h;go_enter Tryz.func186,Tryz.ntmps186;go_wp2_with fail;refine K0.mono ?_;rintro e t ⟨rfl,h1,I,U⟩;have F:=hid U;have u:B<=t.heap.size:=aw X I.size;have G:=hid h1;have H:=hid I;clear K0 h h1 I U;have v:=Tryz.strings_HasSuffix (ofB s) ⟨#[10]⟩ t (by rw[aMs];omega);rw[aDb,show (⟨#[10]⟩:ByteArray).data.toList=[10] from rfl,suffix10] at v
 have N:(ofB s).toList.isEmpty=decide (s=[]):=by
  cases s with
  | nil=>simp[ofB]
  | cons x s=>
   have e0:=aBi (show ofB (x::s)≠⟨#[]⟩ from fun e=>by have:=congrArg (fun y:ByteArray=>y.data.toList) e;simp[ofB] at this)
   cases h:(ofB (x::s)).toList with
   | nil=>rw[h] at e0;simp at e0
   | cons=>rfl
 generalize ofB s=S at *;by_cases K:s=[]
 ·have O:=hid (show endedF s=s by rw[endedF,ao (.inl K)])
  rw[aq K] at N;clear v K;go_wp2;have P:=G;have R:=H;have T:=F;have d:=u;refine aAe (fun _=>True) [(true,0),(true,1),(true,2),(true,3),(false,4),(false,5)] mixed κ trivial ?_;intro Tp M Q q r V C;clear V;simp only[qcmp];simp (maxSteps:=9^7) only[↓qpre,aAb,aAg,aAc];refine aAh κ (aRc (w:=t.drew) Y) rfl rfl ?_;rintro e i ⟨rfl,a⟩;have A:=P.out.below (show Below t.heap.size t i from (Below.refl _ _).drew.trans a);have j:B<=i.heap.size:=aw d a.size;have l:=hid (T.out.trans (aDp (b:=b) (show Below t.heap.size t i from (Below.refl _ _).drew.trans a)));have m:=hid (R.out.trans (show Below B t i from ((Below.refl t.heap.size t).drew.trans a).mono d));refine ⟨_,rfl,q _ trivial,?_⟩;simp (maxSteps:=9^7) only[aAb,aAc];refine aAh κ (aFd A ω j) rfl rfl ?_;rintro e w4 ⟨rfl,D,f,g⟩;have n:=hid (l.out.trans g);have o:=hid D;have p:=hid (m.out.trans f);refine ⟨_,rfl,q _ trivial,?_⟩;simp (maxSteps:=9^7) only[aAb,aAc];refine C _ _ ?_;clear C q r A D a f g;go_wp2;refine aI (aF rfl _ _ _) rfl ?_;exact ⟨rfl,.inr (by rw[O.out];exact o.out),p.out,n.out⟩
 rw[ak K] at N;go_wp2_with fail;refine v.mono ?_;rintro e E ⟨rfl,rfl⟩;clear v;by_cases L:s.getLast? = some 10
 ·have O:=hid (show endedF s=s by rw[endedF,ao (.inr L)])
  rw[aq L];clear L K;go_wp2;have P:=G;have R:=H;have T:=F;have d:=u;refine aAe (fun _=>True) [(true,0),(true,1),(true,2),(true,3),(false,4),(false,5)] mixed κ trivial ?_;intro Tp M Q q r V C;clear V;simp only[qcmp];simp (maxSteps:=9^7) only[↓qpre,aAb,aAg,aAc];refine aAh κ (aRc (w:=E.drew) Y) rfl rfl ?_;rintro e i ⟨rfl,a⟩;have A:=P.out.below (show Below E.heap.size E i from (Below.refl _ _).drew.trans a);have j:B<=i.heap.size:=aw d a.size;have l:=hid (T.out.trans (aDp (b:=b) (show Below E.heap.size E i from (Below.refl _ _).drew.trans a)));have m:=hid (R.out.trans (show Below B E i from ((Below.refl E.heap.size E).drew.trans a).mono d));refine ⟨_,rfl,q _ trivial,?_⟩;simp (maxSteps:=9^7) only[aAb,aAc];refine aAh κ (aFd A ω j) rfl rfl ?_;rintro e w4 ⟨rfl,D,f,g⟩;have n:=hid (l.out.trans g);have o:=hid D;have p:=hid (m.out.trans f);refine ⟨_,rfl,q _ trivial,?_⟩;simp (maxSteps:=9^7) only[aAb,aAc];refine C _ _ ?_;clear C q r A D a f g;go_wp2;refine aI (aF rfl _ _ _) rfl ?_;exact ⟨rfl,.inr (by rw[O.out];exact o.out),p.out,n.out⟩
 have O:=hid (show endedF s=s++[10] by rw[endedF,ah (by rintro (h | h);exact K h;exact L h)]);rw[ak L];clear L K;have KW:=bGu (c:=10) G.out ω u;go_wp2_with fail;refine KW.mono ?_;rintro e z ⟨rfl,h5,J,W⟩;have T:=hid (F.out.trans W);have P:=hid (show Txt B b (s++[10]) z from .inr h5);have R:=hid (H.out.trans J);have d:=aw u J.size;have hs:(s++[(10:UInt8)]).length<=900001:=by simp;omega
 clear KW h5 J W;go_wp2;refine aAe (fun _=>True) [(true,0),(true,1),(true,2),(true,3),(false,4),(false,5)] mixed κ trivial ?_;intro Tp M Q q r V C;clear V;simp only[qcmp];simp (maxSteps:=9^7) only[↓qpre,aAb,aAg,aAc];refine aAh κ (aRc (w:=z.drew) Y) rfl rfl ?_;rintro e i ⟨rfl,a⟩;have A:=P.out.below (show Below z.heap.size z i from (Below.refl _ _).drew.trans a);have j:B<=i.heap.size:=aw d a.size;have l:=hid (T.out.trans (aDp (b:=b) (show Below z.heap.size z i from (Below.refl _ _).drew.trans a)));have m:=hid (R.out.trans (show Below B z i from ((Below.refl z.heap.size z).drew.trans a).mono d));refine ⟨_,rfl,q _ trivial,?_⟩;simp (maxSteps:=9^7) only[aAb,aAc];refine aAh κ (aFd A ω j) rfl rfl ?_;rintro e w4 ⟨rfl,D,f,g⟩;have n:=hid (l.out.trans g);have o:=hid D;have p:=hid (m.out.trans f);refine ⟨_,rfl,q _ trivial,?_⟩;simp (maxSteps:=9^7) only[aAb,aAc];refine C _ _ ?_;clear C q r A D a f g;go_wp2;refine aI (aF rfl _ _ _) rfl ?_;exact ⟨rfl,.inr (by rw[O.out];exact o.out),p.out,n.out⟩
theorem aSr {f:KV->List ByteArray}{L:List KV}{c:KV}(d:c∈L):(catF (f c)).length<=(catF (L.flatMap f)).length/\(f c).length<=(L.flatMap f).length:=by
 obtain ⟨a,b,rfl⟩:=k8 d;rw[aJ,aL,aDs,aDs];simp only[ae];omega
theorem aRd {f:KV->List ByteArray}(L:List KV)(k:Nat):bytesF ((L.take k).flatMap f)<=bytesF (L.flatMap f):=by
 have:(L.take k).flatMap f++(L.drop k).flatMap f=L.flatMap f:=by rw[<-aJ,aY]
 unfold bytesF;rw[<-this,aDs,ae];omega
theorem bCe(L:List KV)(k:Nat):clashN (L.take k)<=clashN L:=by
 have:L.take k++L.drop k=L:=aY _ _;rw[<-this,aJz,this];omega
theorem aLh:∀(L:List KV),(catF (mergedF L)).length<=(catF (L.flatMap KV.ours)).length+(catF (L.flatMap KV.theirs)).length/\(mergedF L).length<=(L.flatMap KV.ours).length+(L.flatMap KV.theirs).length
 | []=>⟨by simp[mergedF,catF],by simp[mergedF]⟩
 | c::L=>by
  obtain ⟨a,b⟩:=aLh L;have e:mergedF (c::L)=(if c.kind=3 then c.theirs else c.ours)++mergedF L:=by simp[mergedF]
  rw[e,aDs,aL,aL,aDs,aDs];simp only[ae];split<;>omega
structure Few3 (b o t:ByteArray) (L:List KV):Prop where
 each:∀c∈L,((catF c.base).length<=100000/\(catF c.ours).length<=100000/\(catF c.theirs).length<=100000)/\c.base.length<=100000/\c.ours.length<=100000/\c.theirs.length<=100000
 fold:∀k,((L.take k).foldl clashTextF []).length<=320000
 all:(catF (mergedF L)).length<=200000/\(mergedF L).length<=200000
theorem few3 {b o t:ByteArray}(v:b.size<=100000)(w:o.size<=100000)(x:t.size<=100000):Few3 b o t (chunksF (linesF b) (linesF o) (linesF t)):=by
 obtain ⟨l,g,i⟩:=aLe (linesF b) (linesF o) (linesF t);have l1:=aBg b;have n:=aBg o;have p:=aBg t;have q:(catF (linesF b)).length=b.size:=by rw[aDk];rfl
 have r:(catF (linesF o)).length=o.size:=by rw[aDk];rfl
 have s:(catF (linesF t)).length=t.size:=by rw[aDk];rfl
 have m:=aLd (linesF b) (linesF o) (linesF t);generalize chunksF (linesF b) (linesF o) (linesF t)=L at *;refine ⟨fun c j=>?_,fun k=>?_,?_⟩
 ·have a:=aSr (f:=KV.base) j
  have d:=aSr (f:=KV.ours) j;have e:=aSr (f:=KV.theirs) j;rw[l] at a;rw[g] at d;rw[i] at e;exact ⟨⟨O,O,O⟩,O,O,O⟩
 ·have h:=aSq (L.take k) []
  have a:=aRd (f:=KV.base) L k;have d:=aRd (f:=KV.ours) L k;have e:=aRd (f:=KV.theirs) L k;have u:=bCe L k;rw[l] at a;rw[g] at d;rw[i] at e;unfold bytesF at *;simp only[dU] at h;omega
 have h:=aLh L;rw[g,i] at h;exact ⟨O,O⟩
theorem aQj(b o t:List ByteArray):(chunksF b o t).length<=2*b.length+1:=by
 obtain ⟨i,a,c,d,L,f,w⟩:∃i a c d L,OfAt b o t i a c d L/\b.length<=i:=by
  have step:∀(m i a c d:Nat) (L:List KV),b.length<=i+m->OfAt b o t i a c d L->∃i a c d L,OfAt b o t i a c d L/\b.length<=i:=by
   intro m
   induction m with
   | zero=>intro i a c d L h f;exact ⟨i,a,c,d,L,f,O⟩
   | succ m ih=>
    intro i a c d L h f;rcases bo i b.length with q | r
    ·by_cases s:(keptAt b o i).isSome=true/\(keptAt b t i).isSome=true
     ·obtain ⟨x,z⟩:=b8.1 s.1
      obtain ⟨y,A⟩:=b8.1 s.2
      have l:∀m n,1<=n->RunTo b o t i x y n->b.length<=i+n+m->∃n,1<=n/\RunTo b o t i x y n/\¬(keptAt b o (i+n)=some (x+n)/\keptAt b t (i+n)=some (y+n)):=by
       intro m
       induction m with
       | zero=>intro n j g B;exact ⟨n,j,g,fun e=>by have:=aCh e.1;omega⟩
       | succ m ih2=>
        intro n j g B;by_cases e:keptAt b o (i+n)=some (x+n)/\keptAt b t (i+n)=some (y+n)
        ·refine ih2 (n+1) O (fun k C=>?_) O
         rcases bo k n with h | h
         ·exact g k h
         rw[show k=n by omega];exact e
        exact ⟨n,j,g,e⟩
      obtain ⟨n,j,g,p⟩:=l b.length 1 (aa _) (fun k C=>by rw[show k=0 by omega];exact ⟨z,A⟩) O;exact ih _ _ _ _ _ O (f.run O g p).1
     exact ih _ _ _ _ _ O (f.skip q s)
    exact ⟨i,a,c,d,L,f,r⟩
  exact step b.length 0 0 0 0 [] O (OfAt.start b o t)
 have u:=f.last w;have D:=f.len;have E:=f.hi;have v:(betweenF (sliceF b a b.length) (sliceF o c o.length) (sliceF t d t.length)).length<=1:=by unfold betweenF;split<;>simp
 rw[u,ae];omega
theorem aCj {b o t:ByteArray}(hm:Lm w)(hb:b.size<=100000)(ho:o.size<=100000)(ht:t.size<=100000) :
  Calls prog 156 #[.string b,.string o,.string t] w fun e w'=>e=.returned (.tuple #[.string (merge3F b o t).1,.bool (merge3F b o t).2])/\Below w.heap.size w w':=by
 have nJ:=hid (few3 hb ho ht);have pi:=aBg b;have pj:=aBg o;have pm:=aBg t;have oV:=hid (aQj (linesF b) (linesF o) (linesF t));have nr:=hid (show merge3F b o t=if cleanF (chunksF (linesF b) (linesF o) (linesF t))=true then (joinF (mergedF (chunksF (linesF b) (linesF o) (linesF t))),true) else (ofB ((chunksF (linesF b) (linesF o) (linesF t)).foldl clashTextF []),false) from rfl);generalize merge3F b o t=R3 at *;have K1:=aGh (s:=b) ω hm;go_enter Tryz.func156,Tryz.ntmps156;go_wp2_with fail;refine K1.mono ?_;rintro e w1 ⟨D,E,rfl,oG,V⟩;have ns:=hm.below V hm.lt;have K2:=aGh (s:=o) (w:=w1) ω ns;go_wp2_with fail;refine K2.mono ?_;rintro e w2 ⟨F,G,rfl,oH,z⟩;have nT:=ns.below z ns.lt;have K3:=aGh (s:=t) (w:=w2) ω nT;go_wp2_with fail;refine K3.mono ?_;rintro e w3 ⟨A3,c3,rfl,oI,M⟩;have K4:=bNm (w:=w3) ω ω ω ((oG.to z z.size).to M M.size) (oH.to M M.size) oI;have nK:=hid ((V.trans (z.mono V.size)).trans (M.mono (aw V.size z.size)));clear K1 K2 K3 oG oH oI V z M ns nT;go_wp2_with fail;refine K4.mono ?_;rintro e w4 ⟨A4,c4,H4,rfl,oJ,oK,oL⟩;have nL:=hid (nK.out.trans (oL.mono nK.out.size));have HK:=hid (show RdK w4 w4.heap.size A4 c4 (chunksF (linesF b) (linesF o) (linesF t)) from ⟨H4,oJ,oK⟩);clear K4 oJ oK oL nK;generalize chunksF (linesF b) (linesF o) (linesF t)=L at *;have pn:L.length<=300000:=by have:=oV.out;omega
 have K5:=bFc ω HK.out;go_wp2_with fail;refine K5.mono ?_;rintro e A ⟨rfl,nO⟩;have Q:=hid (nL.out.trans (nO.mono nL.out.size));have HK:=hid (HK.out.to nO);clear K5 nO nL;by_cases O:cleanF L=true
 ·have nM:=hid (nr.out.trans (ao O))
  rw[O];have po:=nJ.out.all;have K6:=aQi ω ω HK.out;clear O nr;go_wp2_with fail;refine K6.mono ?_;rintro e w6 ⟨A6,c6,rfl,oM,oN⟩;have nU:=hid (Q.out.trans (oN.mono Q.out.size));have K7:=aZd ω oM (by rw[<-aBk,aCe];omega);clear K6 oN oM;go_wp2_with fail;refine K7.mono ?_;rintro e w7 ⟨rfl,oO⟩;have oW:=hid (nU.out.trans (oO.mono nU.out.size));clear K7 oO;go_wp2;go_ret2;exact ⟨by rw[nM.out];rfl,oW.out⟩
 have nM:=hid (nr.out.trans (ah O));have nH:cleanF L=false:=by simpa using O
 rw[nH];clear O nH nr;have d:Below A.heap.size A (A.alloc (.cells #[.pointer none,.slice none 0 0] 245)):=(Below.refl _ _).alloc (aa _) _;have g:=hid d;have R:=au A (.cells #[.pointer none,.slice none 0 0] 245)
 have f:Hid (Txt A.heap.size A.heap.size [] (A.alloc (.cells #[.pointer none,.slice none 0 0] 245))):=
  .inl ⟨⟨aa _,_,R,⟨by simp[Lib.byteCells],.inl ⟨rfl,rfl⟩⟩,by simp[Value.ownBlock]⟩,fun _=>by rw[ab R];rfl⟩
 have j:=hid (Q.out.trans (d.mono Q.out.size));have nV:=hid (show A.heap.size<(A.alloc (.cells #[.pointer none,.slice none 0 0] 245)).heap.size by simp);clear d R;go_wp2;generalize A.alloc (.cells #[.pointer none,.slice none 0 0] 245)=W at *;obtain ⟨P,N⟩:∃P,P=A.heap.size:=⟨_,rfl⟩;have nW:=hid (show A.heap.size<W.heap.size from nV.out);rw[<-N] at f g nW ⊢;have q:=hid (show w.heap.size<=P by rw[N];exact Q.out.size);have HK:=hid (show RdK A P A4 c4 L by rw[N];exact HK.out)
 have oX:=hid (show ∀(i:Nat) (k:KV),L[i]? = some k->∃b o I J D E F G,A4=some ⟨b,o,none⟩/\b<P/\A.cell? ⟨b,o+i*4,none⟩=some (.int .i64 k.kind)/\A.cell? ⟨b,o+i*4+1,none⟩=some (.slice I k.base.length J)/\A.cell? ⟨b,o+i*4+2,none⟩=some (.slice D k.ours.length E)/\A.cell? ⟨b,o+i*4+3,none⟩=some (.slice F k.theirs.length G)/\
  Rd A P 1 I k.base.length J (k.base.map .string)/\Rd A P 1 D k.ours.length E (k.ours.map .string)/\Rd A P 1 F k.theirs.length G (k.theirs.map .string) by rw[N];rw[N] at HK;exact fun i k h=>HK.out.at_ h)
 clear N HK;go_loopw[28] (fun nS wr=>∃k:Nat,k<=L.length/\nS=.int .i64 k/\Hid (Below w.heap.size w wr)/\Hid (Below P A wr)/\Hid (Txt P P ((L.take k).foldl clashTextF []) wr)/\P<wr.heap.size) (fun nS _=>L.length-(intOf nS).toNat)
 case atStart=>exact ⟨0,al _,rfl,j,g,f,nW.out⟩
 clear j g f;obtain ⟨k,hk,rfl,j,g,f,a⟩:=hrel;have oY:=nJ.out.fold k;by_cases oT:k<L.length
 ·obtain ⟨⟨B,x,u,v⟩,hc⟩:∃c,L[k]? = some c:=⟨_,ac oT⟩
  obtain ⟨b0,o0,I,J,D,E,F,G,rfl,nG,q0,q1,q2,q3,r0,r1,r2⟩:=oX.out k _ hc;dsimp only at q0 q1 q2 q3 r0 r1 r2;replace q0:=(g.out.cell (p:=⟨b0,o0+k*4,none⟩) nG).trans q0;replace q1:=(g.out.cell (p:=⟨b0,o0+k*4+1,none⟩) nG).trans q1;replace q2:=(g.out.cell (p:=⟨b0,o0+k*4+2,none⟩) nG).trans q2;replace q3:=(g.out.cell (p:=⟨b0,o0+k*4+3,none⟩) nG).trans q3;have nX:=nJ.out.each _ (aC hc);dsimp only at nX;have nY:=hid (show (L.take (k+1)).foldl clashTextF []=clashTextF ((L.take k).foldl clashTextF []) ⟨B,x,u,v⟩ by rw[aB,hc];simp);clear hc;generalize (L.take k).foldl clashTextF []=S at *;have T:Below wr.heap.size wr (wr.alloc (.cells #[.int .i64 B,.slice I x.length J,.slice D u.length E,.slice F v.length G] 143)):=(Below.refl _ _).alloc (aa _) _;have r:=hid (au wr (.cells #[.int .i64 B,.slice I x.length J,.slice D u.length E,.slice F v.length G] 143));have j:=hid (j.out.trans (T.mono (by have:=q.out;omega)));have g:=hid (g.out.trans (T.mono (bV a)));have f:=hid (f.out.below T);have H:=hid (gX a);have a:=ag a T.size;clear T;by_cases oU:B=5
  ·subst oU
   have nN:Hid ((L.take (k+1)).foldl clashTextF []=endedF (endedF (endedF (endedF S++markO++catF u)++markB++catF x)++markT++catF v)++markE):=nY.out.trans (by unfold clashTextF;rw[ah (by simp)]);obtain ⟨⟨pr,pt,pu⟩,pw,pz,pA⟩:=nX;have nZ:∀s:Bs,(endedF s).length<=s.length+1:=aGn
   have n5:∀m,m<=3->(markS m).data.toList.length<=20:=fun m hm=>by
    have:m=0\/m=1\/m=2\/m=3:=ω;rcases this with rfl | rfl | rfl | rfl<;>decide
   have nu:=hid nZ;have nw:=hid n5;clear nZ n5;have n7:=aJc (k:=1) f.out (bV a) ω ω
   have nz:(endedF S++(markS 1).data.toList).length<=320000+21:=by
    have h1:=nu.out S;have h2:=nw.out 1 ω;rw[ae];omega
   go_wp2_with fail;refine n7.mono ?_;rintro e o8 ⟨rfl,l,d,n⟩;have j:=hid (j.out.trans (d.mono q.out));have g:=hid (g.out.trans d);have f:=hid l;have r:=hid (n _ _ r.out (fun e=>by injection e with e;exact H.out e) (fun _ _ e=>by injection e with _ e _;exact absurd e (by decide)));have a:=ag a d.size;clear n7 l d n;obtain ⟨oP,X⟩:∃Y,Y=(endedF S++(markS 1).data.toList):=⟨_,rfl⟩;rw[<-X] at f nz;have n8:=hid X;clear X;have pe:o8.cell? ⟨wr.heap.size,2,none⟩=some (.slice D u.length E):=(by rw[ab r.out];rfl);have od:=aMt f.out (bV a) ω (r1.to g.out (bV a)) ω;have nA:(oP++catF u).length<=320021+100000:=(by rw[ae];omega);go_wp2_with fail;refine od.mono ?_;rintro e pB ⟨rfl,l,d,n⟩;have j:=hid (j.out.trans (d.mono q.out));have g:=hid (g.out.trans d);have f:=hid l;have r:=hid (n _ _ r.out (fun e=>by injection e with e;exact H.out e) (fun _ _ e=>by injection e with _ e _;exact absurd e (by decide)));have a:=ag a d.size;clear od l d n;obtain ⟨nP,Z⟩:∃Y,Y=(oP++catF u):=⟨_,rfl⟩;rw[<-Z] at f nA;have oe:=hid Z;clear Z;have oh:=aJc (k:=2) f.out (bV a) ω ω
   have nB:(endedF nP++(markS 2).data.toList).length<=420021+21:=by
    have h1:=nu.out nP;have h2:=nw.out 2 ω;rw[ae];omega
   go_wp2_with fail;refine oh.mono ?_;rintro e pa ⟨rfl,l,d,n⟩;have j:=hid (j.out.trans (d.mono q.out));have g:=hid (g.out.trans d);have f:=hid l;have r:=hid (n _ _ r.out (fun e=>by injection e with e;exact H.out e) (fun _ _ e=>by injection e with _ e _;exact absurd e (by decide)));have a:=ag a d.size;clear oh l d n;obtain ⟨oQ,ff⟩:∃Y,Y=(endedF nP++(markS 2).data.toList):=⟨_,rfl⟩;rw[<-ff] at f nB;have ol:=hid ff;clear ff;have pg:pa.cell? ⟨wr.heap.size,1,none⟩=some (.slice I x.length J):=(by rw[ab r.out];rfl);have oq:=aMt f.out (bV a) ω (r0.to g.out (bV a)) ω;have nC:(oQ++catF x).length<=420042+100000:=(by rw[ae];omega);go_wp2_with fail;refine oq.mono ?_;rintro e pC ⟨rfl,l,d,n⟩;have j:=hid (j.out.trans (d.mono q.out));have g:=hid (g.out.trans d);have f:=hid l;have r:=hid (n _ _ r.out (fun e=>by injection e with e;exact H.out e) (fun _ _ e=>by injection e with _ e _;exact absurd e (by decide)));have a:=ag a d.size;clear oq l d n;obtain ⟨nQ,nj⟩:∃Y,Y=(oQ++catF x):=⟨_,rfl⟩;rw[<-nj] at f nC;have ou:=hid nj;clear nj;have ow:=aJc (k:=3) f.out (bV a) ω ω
   have nD:(endedF nQ++(markS 3).data.toList).length<=520042+21:=by
    have h1:=nu.out nQ;have h2:=nw.out 3 ω;rw[ae];omega
   go_wp2_with fail;refine ow.mono ?_;rintro e pc ⟨rfl,l,d,n⟩;have j:=hid (j.out.trans (d.mono q.out));have g:=hid (g.out.trans d);have f:=hid l;have r:=hid (n _ _ r.out (fun e=>by injection e with e;exact H.out e) (fun _ _ e=>by injection e with _ e _;exact absurd e (by decide)));have a:=ag a d.size;clear ow l d n;obtain ⟨oR,nk⟩:∃Y,Y=(endedF nQ++(markS 3).data.toList):=⟨_,rfl⟩;rw[<-nk] at f nD;have oz:=hid nk;clear nk;have ph:pc.cell? ⟨wr.heap.size,3,none⟩=some (.slice F v.length G):=(by rw[ab r.out];rfl);have oA:=aMt f.out (bV a) ω (r2.to g.out (bV a)) ω;have nE:(oR++catF v).length<=520063+100000:=(by rw[ae];omega);go_wp2_with fail;refine oA.mono ?_;rintro e pD ⟨rfl,l,d,n⟩;have j:=hid (j.out.trans (d.mono q.out));have g:=hid (g.out.trans d);have f:=hid l;have r:=hid (n _ _ r.out (fun e=>by injection e with e;exact H.out e) (fun _ _ e=>by injection e with _ e _;exact absurd e (by decide)));have a:=ag a d.size;clear oA l d n;obtain ⟨nR,nm⟩:∃Y,Y=(oR++catF v):=⟨_,rfl⟩;rw[<-nm] at f nE;have oB:=hid nm;clear nm;have oC:=aJc (k:=0) f.out (bV a) ω ω
   have nF:(endedF nR++(markS 0).data.toList).length<=620063+21:=by
    have h1:=nu.out nR;have h2:=nw.out 0 ω;rw[ae];omega
   go_wp2_with fail;refine oC.mono ?_;rintro e pE ⟨rfl,l,d,n⟩;have j:=hid (j.out.trans (d.mono q.out));have g:=hid (g.out.trans d);have f:=hid l;have r:=hid (n _ _ r.out (fun e=>by injection e with e;exact H.out e) (fun _ _ e=>by injection e with _ e _;exact absurd e (by decide)));have a:=ag a d.size;clear oC l d n;obtain ⟨pd,nq⟩:∃Y,Y=(endedF nR++(markS 0).data.toList):=⟨_,rfl⟩;rw[<-nq] at f nF;have oD:=hid nq;clear nq
   have oE:Hid ((L.take (k+1)).foldl clashTextF []=pd):=by
    unfold Hid;rw[nN.out,oD.out,oB.out,oz.out,ou.out,ol.out,oe.out,n8.out];rfl
   go_wp2;go_roundw
   case rel=>exact ⟨k+1,ω,by go_num,j,g,by rw[oE.out];exact f,a⟩
   simp[intOf];omega
  have nN:Hid ((L.take (k+1)).foldl clashTextF []=S++catF (mergedF [⟨B,x,u,v⟩])):=nY.out.trans (by unfold clashTextF;rw[ao oU])
  have pq:(mergedF [(⟨B,x,u,v⟩:KV)]).length<=100000/\(catF (mergedF [(⟨B,x,u,v⟩:KV)])).length<=100000:=by
   rw[show mergedF [(⟨B,x,u,v⟩:KV)]=if B=3 then v else u by simp[mergedF]];split<;>exact ⟨ω,ω⟩
  generalize hU:wr.alloc (.cells #[.int .i64 B,.slice I x.length J,.slice D u.length E,.slice F v.length G] 143)=U at *
  have oZ:Hid (RdK (U.alloc (.cells #[.int .i64 B,.slice I x.length J,.slice D u.length E,.slice F v.length G] 143)) (U.alloc (.cells #[.int .i64 B,.slice I x.length J,.slice D u.length E,.slice F v.length G] 143)).heap.size (some ⟨U.heap.size,0,none⟩) 1 [⟨B,x,u,v⟩]):=by
   have y:Below U.heap.size U (U.alloc (.cells #[.int .i64 B,.slice I x.length J,.slice D u.length E,.slice F v.length G] 143)):=(Below.refl _ _).alloc (aa _) _;have z:=g.out.trans (y.mono (bV a));refine ⟨[[.int .i64 B,.slice I x.length J,.slice D u.length E,.slice F v.length G]],?_,⟨I,J,D,E,F,G,rfl,⟨r0.to z (aw (bV a) y.size),fun _ _ _ h=>by cases h⟩,⟨r1.to z (aw (bV a) y.size),fun _ _ _ h=>by cases h⟩,⟨r2.to z (aw (bV a) y.size),fun _ _ _ h=>by cases h⟩⟩,trivial⟩;simpa using aHh U (.int .i64 B) (.slice I x.length J) (.slice D u.length E) (.slice F v.length G)
  have y:Below U.heap.size U (U.alloc (.cells #[.int .i64 B,.slice I x.length J,.slice D u.length E,.slice F v.length G] 143)):=(Below.refl _ _).alloc (aa _) _;have j:=hid (j.out.trans (y.mono (by have:=q.out;omega)));have g:=hid (g.out.trans (y.mono (bV a)));have f:=hid (f.out.below y);have a:=ag a y.size;have K9:=aQi (L:=[⟨B,x,u,v⟩]) (by simp) ω oZ.out;generalize mergedF [(⟨B,x,u,v⟩:KV)]=Mc at *;subst hU;rw[show (wr.alloc (.cells #[.int .i64 B,.slice I x.length J,.slice D u.length E,.slice F v.length G] 143)).heap.size=wr.heap.size+1 by simp] at K9;simp only[bf] at K9;go_wp2_with fail;refine K9.mono ?_;rintro e w9 ⟨A9,c9,rfl,oS,C⟩;have j:=hid (j.out.trans (C.mono (by have:=q.out;omega)));have g:=hid (g.out.trans (C.mono (bV a)));have f:=hid (f.out.below C);have a:=ag a C.size;have oF:=aMt f.out (bV a) ω oS ω;clear K9 C oS y;go_wp2_with fail;refine oF.mono ?_;rintro e pF ⟨rfl,nI,K,_⟩;have j:=hid (j.out.trans (K.mono q.out));have g:=hid (g.out.trans K);have f:=hid nI;have a:=ag a K.size;clear oF nI K;go_wp2;go_roundw
  case rel=>exact ⟨k+1,ω,by go_num,j,g,by rw[nN.out];exact f,a⟩
  simp[intOf];omega
 obtain rfl:k=L.length:=ω;rw[ai (aa _)] at f;have K8:=bEs f.out;go_wp2_with fail;refine K8.mono ?_;rintro e w9 ⟨rfl,_,C,_⟩;have o6:=hid (j.out.trans (C.mono q.out));clear K8 C;go_wp2;go_ret2;exact ⟨by rw[nM.out];rfl,o6.out⟩
theorem bEl {a b:ByteArray}(t:Lm w)(ha:a.size<=1000000)(T:b.size<=1000000) :
  Calls prog 209 #[.string a,.string b] w fun e w'=>e=.returned (.int .i64 (ratioF a b))/\Below w.heap.size w w':=by
 have J:=aBg a;have K:=aBg b;have c:=hid (show ratioF a b=if 400<(linesF a).length\/400<(linesF b).length then 0 else if (linesF a).length+(linesF b).length=0 then 100 else ((200*lcs (linesF a) (linesF b) / ((linesF a).length+(linesF b).length):Nat):Int) from rfl);generalize ratioF a b=R at *;have B:=aGh (s:=a) ω t;go_enter Tryz.func209,Tryz.ntmps209;go_wp2_with fail;refine B.mono ?_;rintro e L ⟨M,N,rfl,m,d⟩;have C:=aGh (s:=b) (w:=L) ω (t.below d t.lt);go_wp2_with fail;refine C.mono ?_;rintro e O ⟨P,Q,rfl,n,f⟩;have h:=hid (d.trans (f.mono d.size));have i:=hid (m.to f f.size);have j:=hid n;clear B C m n d f;have p:=aQl (linesF a) (linesF b);generalize linesF a=x at *;generalize linesF b=y at *;by_cases H:400<x.length
 ·have g:=hid (c.out.trans (ao (.inl H)))
  go_wp2;go_ret;exact ⟨by rw[g.out];rfl,h.out⟩
 by_cases I:400<y.length
 ·have g:=hid (c.out.trans (ao (.inr I)))
  go_wp2;go_ret;exact ⟨by rw[g.out];rfl,h.out⟩
 by_cases A:x.length+y.length=0
 ·have g:=hid (c.out.trans ((ah ω).trans (ao A)))
  have k:x.length=0:=ω;have l:y.length=0:=ω;obtain rfl:=bj.1 k;obtain rfl:=bj.1 l;clear H I A k l p;go_wp2;go_ret;exact ⟨by rw[g.out];rfl,h.out⟩
 have g:=hid (c.out.trans ((ah ω).trans (ah A)));have D:=bEa ω ω i.out j.out;generalize lcs x y=v at *;generalize u:x.length=F at *;generalize z:y.length=G at *;clear u z i j;have q:¬((F:Int)+G=0):=ω;have E:((F:Int)+G == 0)=false:=by simpa using q
 go_wp2_with fail;refine D.mono ?_;rintro e S ⟨rfl,o⟩;have r:=hid (h.out.trans (o.mono h.out.size));clear D o;go_wp2;go_ret;exact ⟨by rw[g.out];push_cast;rfl,r.out⟩
def isLone (l other:List FV)(i:Nat):Bool:=match l[i]? with
 | some f=>(findP other f.path).isNone && !decide (f.text=⟨#[]⟩)
 | none=>false
theorem aEl(l a:List FV):loneF l a=(List.range l.length).filter (isLone l a):=rfl
theorem bCk(p:Nat->Bool)(k:Nat):(List.range (k+1)).filter p=(List.range k).filter p++if p k then [k] else []:=by
 rw[eY,bX];congr 1
 cases h:p k<;>simp[h]
theorem aTx(p:Nat->Bool)(k:Nat):((List.range k).filter p).length<=k:=by
 have:=bD p (List.range k);simpa using this
def natsV (l:List Nat):List Value:=l.map fun i:Nat=>Value.int .i64 (i:Int)
theorem aZo:Elem prog 36 3 1 8:=aCa T
theorem bJd(l:List Nat):∀u∈natsV l,u.oneCell'=true:=by
 intro u a;obtain ⟨s,_,rfl⟩:=ce.1 a;rfl
theorem bMs(w:World)(i:Nat):Rd (w.alloc (.cells #[.int .i64 (i:Int)] 3)) (w.alloc (.cells #[.int .i64 (i:Int)] 3)).heap.size 1 (some ⟨w.heap.size,0,none⟩) 1 1 (natsV [i]):=
 ⟨rfl,aa _,fun _=>⟨_,0,rfl,by simp,fun j u a=>by
  rw[aO,World.cell?,au];simpa[natsV] using a⟩⟩
theorem bJj(w:World)(g i:Nat)(a:g=w.heap.size):Rd (w.alloc (.cells #[.int .i64 (i:Int)] 3)) (w.alloc (.cells #[.int .i64 (i:Int)] 3)).heap.size 1 (some ⟨g,0,none⟩) 1 1 (natsV [i]):=by
 subst a;exact bMs w i
def NatsIs (L:List Nat)(w:World)(e:Ending) (w':World):Prop:=∃v,e=.returned v/\w'.ownsRow w.heap.size 3 1 v L.length (natsV L)/\Below w.heap.size w w'
theorem aJn {B:Option Addr}{ca m cb:Nat}{l a:List FV}(hn:n<=100000)(hm:m<=100000)(ha:RdF w w.heap.size A n ca l)(hb:RdF w w.heap.size B m cb a) :
  Calls prog 169 #[.slice A n ca,.slice B m cb] w (NatsIs (loneF l a) w):=by
 have HL:=hid ha.len;rw[aEl];go_enter Tryz.func169,Tryz.ntmps169;go_wp2;go_loopw[5,12] (fun nm i wr=>∃k:Nat,k<=n/\i=.int .i64 k/\Hid (Below w.heap.size w wr)/\Hid (wr.ownsRow w.heap.size 3 1 nm ((List.range k).filter (isLone l a)).length (natsV ((List.range k).filter (isLone l a))))) (fun _ i _=>n-(intOf i).toNat)
 case atStart=>exact ⟨0,al _,rfl,hid (Below.refl _ _),aA _ _ _ _⟩
 obtain ⟨k,hk,rfl,H,HO⟩:=hrel;have nr:=aTx (isLone l a) k;by_cases nq:k<n
 ·obtain ⟨I,o0,f,rfl,nu,hx,R,Y,Z,h2⟩:=ha.get nq
  replace Y:=(H.out.cell (p:=⟨I,o0+k*3,none⟩) (by show I<_;omega)).trans Y;replace Z:=(H.out.cell (p:=⟨I,o0+k*3+1,none⟩) (by show I<_;omega)).trans Z;replace h2:=(H.out.cell (p:=⟨I,o0+k*3+2,none⟩) (by show I<_;omega)).trans h2;have c:=hid (bCk (isLone l a) k);have d:=hid (show isLone l a k=((findP a f.path).isNone && !decide (f.text=⟨#[]⟩)) by unfold isLone;rw[hx]);clear hx R;obtain ⟨x,X,z⟩:=f;dsimp only at Y Z h2;have q:=H.out.alloc H.out.size (.cells #[.string x,.bool X,.string z] 48);have K:=HO.out.alloc (.cells #[.string x,.bool X,.string z] 48);have L:=hid (au wr (.cells #[.string x,.bool X,.string z] 48));have v:wr.heap.size<(wr.alloc (.cells #[.string x,.bool X,.string z] 48)).heap.size:=by simp
  have KF:=aJl (p:=x) ω (hb.to q q.size);have C:=hid q;have M:=hid K;clear q K H HO;generalize (List.range k).filter (isLone l a)=P at *;generalize U:P.length=np at *;have D:=hid U;clear U;go_wp2_with fail;refine KF.mono ?_;rintro e t ⟨rfl,u⟩;have E:=hid (C.out.trans (u.mono C.out.size));have N:=hid (aAf M.out u);have b:=(u.block _ v).trans L.out;clear KF u C M L v;generalize optF (findP a x)=g at *;obtain ⟨gp,gx,gt⟩:=g;dsimp only;generalize wr.heap.size=V at *;have k0:t.cell? ⟨V,0,none⟩=some (.string x):=by rw[ab b];rfl
  have k2:t.cell? ⟨V,2,none⟩=some (.string z):=by rw[ab b];rfl
  have O:V<t.heap.size:=by
   rcases bo V t.heap.size with h' | h'
   ·exact h'
   simp[br h'] at b
  have F:Below t.heap.size t (t.alloc (.cells #[.string gp,.bool gx,.string gt] 48)):=(Below.refl _ _).alloc (aa _) _;have ns:=(F.cell (p:=⟨V,2,none⟩) O).trans k2;have j:=hid (E.out.trans (F.mono E.out.size));have r:=hid (N.out.alloc (.cells #[.string gp,.bool gx,.string gt] 48));clear F E N b k0 k2
  cases J:findP a x with
  | some y=>
   have o:Hid ((List.range (k+1)).filter (isLone l a)=P):=(by unfold Hid;rw[c.out,d.out,J];simp);clear J c d;simp only[da];go_wp2;go_roundw
   case rel=>exact ⟨k+1,ω,by go_num,j,by rw[o.out,D.out];exact r⟩
   simp[intOf];omega
  | none=>
   simp only[dr];by_cases W:z=⟨#[]⟩
   ·have o:Hid ((List.range (k+1)).filter (isLone l a)=P):=by unfold Hid;rw[c.out,d.out,J];simp[W]
    subst W;clear J c d;go_wp2;go_roundw
    case rel=>exact ⟨k+1,ω,by go_num,j,by rw[o.out,D.out];exact r⟩
    simp[intOf];omega
   have o:Hid ((List.range (k+1)).filter (isLone l a)=P++[k]):=(by unfold Hid;rw[c.out,d.out,J];simp[W]);have e0:=aBi W
   have e1:z.toList.isEmpty=false:=by
    cases h:z.toList with
    | nil=>rw[h] at e0;simp at e0
    | cons=>rfl
   clear J c d W e0;have s:=hid (j.out.alloc j.out.size (.cells #[.int .i64 (k:Int)] 3));have G:=hid (r.out.alloc (.cells #[.int .i64 (k:Int)] 3));have Q:=hid (bJj (t.alloc (.cells #[.string gp,.bool gx,.string gt] 48)) (t.heap.size+1) k (by simp));go_wp2_with (at_builtin;refine aAl rfl (.tmp 31) (.tmp 33) 36 rfl aZo rfl rfl G.out Q.out (bJd _) (by unfold maxLen;omega) ω s.out.size ?_;intro v7 w7 S T nk);have ff:=hid (s.out.grown T s.out.size (fun g hg=>(G.out.lt g hg).1));have nj:=hid S;clear S T nk G s Q r j;go_roundw
   case rel=>exact ⟨k+1,ω,by go_num,ff,by rw[o.out,ae,D.out];unfold natsV;rw[aM];exact nj⟩
   simp[intOf];omega
 obtain rfl:k=n:=ω;go_wp2;go_ret;exact ⟨_,rfl,by rw[HL.out];exact HO.out,H.out⟩
theorem aAs {a:World}(h:Below u.heap.size u a):u.grownBy a none:=⟨h.os,h.tape,h.output,h.size,fun k b _=>h.block k b⟩
theorem aFx(z:Array Value)(n:Nat):(Builtin.zeroCells z n).toList.length=n*z.size:=by simp[Builtin.zeroCells]
theorem aFu {z:Array Value}(c:0<z.size)(h:∀v∈z.toList,v.oneCell'=true):∀u∈(Builtin.zeroCells z n).toList,u.oneCell'=true:=by
 intro u a;simp only[Builtin.zeroCells,Array.toList_map,ce] at a;obtain ⟨i,_,rfl⟩:=a;have b:i % z.size<z.size:=j7 _ c;rw[fR z (i % z.size) b];exact h _ (by rw[<-gQ];exact fw _)
theorem aEt {P:Program}(w:World)(t e ty:TypeId)(z:Value)(i:P.underlying t=some (.slice e))(j:∀w,(zeroValue e).run P w=.ok z w){g d c k:Nat}{cur:Array Value}{h:TypeId}{a:List Value}
  (l:(Builtin.zeroCells z.cells (k+1)).toList=a) (m:w.heap[g]? = some (.cells cur h (0,0))) (f:d+a.length<=cur.size) (n:∀v∈a,v.oneCell'=true) :
  (Builtin.clear_ #[t] ty #[.slice (some ⟨g,d,none⟩) (k+1) c]).run P w=.ok (.tuple #[]) (w.setRow g (cur.toList.take d++a++cur.toList.drop (d+a.length)).toArray):=by
 have b:=jC P g d h a 0 cur w m (by simpa using f) n;simp only[dv] at b;simp[Builtin.clear_,bK i,j,l,b]
theorem aQh(b:w.heap[r]? = some (.cells cur e (0,0)))(d:xs.length=n*sz)(a:n<=cap)(f:∀(j:Nat)(u:Value),xs[j]? = some u->cur[j]? = some u) :
  Rd w w.heap.size sz (some ⟨r,0,none⟩) n cap xs:=
 ⟨d,a,fun _=>⟨r,0,rfl,(aU.1 b).1,fun j u c=>by rw[aO,bd w _ _ _ _ _ b];exact f j u c⟩⟩
theorem Rd.nat(h:Rd w B 1 A n c (natsV l)){k:Nat}(i:k<n) :
  ∃b o u,A=some ⟨b,o,none⟩/\b<B/\l[k]? = some u/\w.cell? ⟨b,o+k,none⟩=some (.int .i64 (u:Int)):=by
 obtain ⟨b,o,u,e,f,a,g⟩:=h.one i;unfold natsV at a;rw[aG] at a
 cases d:l[k]? with
 | none=>rw[d] at a;cases a
 | some s=>rw[d] at a;cases a;exact ⟨b,o,s,e,f,rfl,g⟩
theorem aDl(l:List Nat):(natsV l).length=l.length:=by simp[natsV]
def FirstI (p:Nat->Bool)(xs:List Nat)(w:World)(e:Ending) (w':World):Prop:=
 ∃k:Int,e=.returned (.int .i64 k)/\((k=-1/\∀x∈xs,p x=false)\/∃(j x:Nat),k=(j:Int)/\xs[j]? = some x/\p x=true/\∀(i y:Nat),i<j->xs[i]? = some y->p y=false)/\Below w.heap.size w w'
theorem aYn {xs:List Nat}(p:Nat->Bool)(H:n<=1000000)(h:Rd w w.heap.size 1 A n c (natsV xs))
  (E:∀(i:Nat) (u:World),i∈xs->Below w.heap.size w u->Calls prog 247 #[.int .i64 (i:Int),q1] u fun e w'=>e=.returned (.bool (p i))/\Below u.heap.size u w') :
  Calls prog 128 #[.slice A n c,.func (.func 247) #[] #[q1]] w (FirstI p xs w):=by
 have v:=hid (show xs.length=n by have:=h.len;rw[aDl] at this;omega);go_enter j5,jK;go_wp2;go_loopw[8] (fun i wr=>∃k:Nat,k<=n/\i=.int .i64 k/\Hid (Below w.heap.size w wr)/\Hid (∀(i y:Nat),i<k->xs[i]? = some y->p y=false)) (fun i _=>n-(intOf i).toNat)
 case atStart=>exact ⟨0,al _,rfl,hid (Below.refl _ _),fun i y h=>absurd h (bN _)⟩
 obtain ⟨k,F,rfl,b,o⟩:=hrel;by_cases r:k<n
 ·obtain ⟨C,D,x,rfl,q,g,s⟩:=h.nat r
  replace s:=(b.out.cell (p:=⟨C,D+k,none⟩) q).trans s;have l:=hid g;clear g;have K:=E x wr (aC l.out) b.out;go_wp2_with fail;refine K.mono ?_;rintro e G ⟨rfl,d⟩;have a:=hid (b.out.trans (d.mono b.out.size));clear K d
  cases j:p x
  ·have z:Hid (∀(i y:Nat),i<k+1->xs[i]? = some y->p y=false):=fun i y t f=>by
    rcases bo i k with h | h
    ·exact o.out i y h f
    rw[show i=k by omega,l.out] at f;injection f with f;rw[<-f];exact j
   clear j;go_wp2;go_roundw
   case rel=>exact ⟨k+1,O,by go_num,a,z⟩
   simp[intOf];omega
  have B:=hid j;clear j;go_wp2;go_ret;exact ⟨k,rfl,.inr ⟨k,x,rfl,l.out,B.out,o.out⟩,a.out⟩
 have m:k=n:=O;subst m;go_wp2;go_ret;refine ⟨-1,rfl,.inl ⟨rfl,fun x g=>?_⟩,b.out⟩;obtain ⟨i,t,rfl⟩:=bn g;exact o.out i _ (by have:=v.out;omega) (ac t)
theorem bFf {xs:List Nat}(p:Nat->Bool)(H:n<=1000000)(h:Rd w w.heap.size 1 A n c (natsV xs))
  (E:∀(i:Nat) (u:World),i∈xs->Below w.heap.size w u->Calls prog 248 #[.int .i64 (i:Int),q1] u fun e w'=>e=.returned (.bool (p i))/\Below u.heap.size u w') :
  Calls prog 128 #[.slice A n c,.func (.func 248) #[] #[q1]] w (FirstI p xs w):=by
 have v:=hid (show xs.length=n by have:=h.len;rw[aDl] at this;omega);go_enter j5,jK;go_wp2;go_loopw[8] (fun i wr=>∃k:Nat,k<=n/\i=.int .i64 k/\Hid (Below w.heap.size w wr)/\Hid (∀(i y:Nat),i<k->xs[i]? = some y->p y=false)) (fun i _=>n-(intOf i).toNat)
 case atStart=>exact ⟨0,al _,rfl,hid (Below.refl _ _),fun i y h=>absurd h (bN _)⟩
 obtain ⟨k,F,rfl,b,o⟩:=hrel;by_cases r:k<n
 ·obtain ⟨C,D,x,rfl,q,g,s⟩:=h.nat r
  replace s:=(b.out.cell (p:=⟨C,D+k,none⟩) q).trans s;have l:=hid g;clear g;have K:=E x wr (aC l.out) b.out;go_wp2_with fail;refine K.mono ?_;rintro e G ⟨rfl,d⟩;have a:=hid (b.out.trans (d.mono b.out.size));clear K d
  cases j:p x
  ·have z:Hid (∀(i y:Nat),i<k+1->xs[i]? = some y->p y=false):=fun i y t f=>by
    rcases bo i k with h | h
    ·exact o.out i y h f
    rw[show i=k by omega,l.out] at f;injection f with f;rw[<-f];exact j
   clear j;go_wp2;go_roundw
   case rel=>exact ⟨k+1,O,by go_num,a,z⟩
   simp[intOf];omega
  have B:=hid j;clear j;go_wp2;go_ret;exact ⟨k,rfl,.inr ⟨k,x,rfl,l.out,B.out,o.out⟩,a.out⟩
 have m:k=n:=O;subst m;go_wp2;go_ret;refine ⟨-1,rfl,.inl ⟨rfl,fun x g=>?_⟩,b.out⟩;obtain ⟨i,t,rfl⟩:=bn g;exact o.out i _ (by have:=v.out;omega) (ac t)
theorem aYs {xs:List Nat}{q2:Value}(p:Nat->Bool)(H:n<=1000000)(h:Rd w w.heap.size 1 A n c (natsV xs))
  (E:∀(i:Nat) (u:World),i∈xs->Below w.heap.size w u->Calls prog 207 #[.int .i64 (i:Int),q1,q2] u fun e w'=>e=.returned (.bool (p i))/\Below u.heap.size u w') :
  Calls prog 128 #[.slice A n c,.func (.func 207) #[] #[q1,q2]] w (FirstI p xs w):=by
 have v:=hid (show xs.length=n by have:=h.len;rw[aDl] at this;omega);go_enter j5,jK;go_wp2;go_loopw[8] (fun i wr=>∃k:Nat,k<=n/\i=.int .i64 k/\Hid (Below w.heap.size w wr)/\Hid (∀(i y:Nat),i<k->xs[i]? = some y->p y=false)) (fun i _=>n-(intOf i).toNat)
 case atStart=>exact ⟨0,al _,rfl,hid (Below.refl _ _),fun i y h=>absurd h (bN _)⟩
 obtain ⟨k,F,rfl,b,o⟩:=hrel;by_cases r:k<n
 ·obtain ⟨C,D,x,rfl,q,g,s⟩:=h.nat r
  replace s:=(b.out.cell (p:=⟨C,D+k,none⟩) q).trans s;have l:=hid g;clear g;have K:=E x wr (aC l.out) b.out;go_wp2_with fail;refine K.mono ?_;rintro e G ⟨rfl,d⟩;have a:=hid (b.out.trans (d.mono b.out.size));clear K d
  cases j:p x
  ·have z:Hid (∀(i y:Nat),i<k+1->xs[i]? = some y->p y=false):=fun i y t f=>by
    rcases bo i k with h | h
    ·exact o.out i y h f
    rw[show i=k by omega,l.out] at f;injection f with f;rw[<-f];exact j
   clear j;go_wp2;go_roundw
   case rel=>exact ⟨k+1,O,by go_num,a,z⟩
   simp[intOf];omega
  have B:=hid j;clear j;go_wp2;go_ret;exact ⟨k,rfl,.inr ⟨k,x,rfl,l.out,B.out,o.out⟩,a.out⟩
 have m:k=n:=O;subst m;go_wp2;go_ret;refine ⟨-1,rfl,.inl ⟨rfl,fun x g=>?_⟩,b.out⟩;obtain ⟨i,t,rfl⟩:=bn g;exact o.out i _ (by have:=v.out;omega) (ac t)
def dropI (p:Nat->Bool)(l:List Nat):List Nat:=l.filter fun x=>!p x
theorem aHj(p:Nat->Bool){l:List Nat}{k x:Nat}(a:l[k]? = some x):dropI p (l.take (k+1))=dropI p (l.take k)++if p x=true then [] else [x]:=by
 rw[aB,a,dropI,bX]
 cases e:p x<;>simp[e,dropI]
theorem aJt {p:Nat->Bool}(h:∀x∈l,p x=false):dropI p l=l:=dg.2 fun x a=>by simp[h x a]
theorem aUr {cur:List Value}{a:List Nat}(d:a.length=i)(f:i<n)(m:l.length=n)(o:cur.length=cap)(g:n<=cap)
  (k:cur.take n=natsV (a++l.drop i)):(cur.set i (.int .i64 (x:Int))).take n=natsV ((a++[x])++l.drop (i+1)):=by
 refine bM fun j=>?_;have c:∀j,j<n->cur[j]? = (natsV (a++l.drop i))[j]?:=fun j c=>by rw[<-k,dd c]
 by_cases b:j<n
 ·rw[dd b,jt]
  by_cases e:i=j
  ·subst e
   rw[ao rfl,ao O];unfold natsV;rw[aG,aH,a6 O,d,lK];rfl
  rw[ah e,c j b];unfold natsV;rw[aG,aG];congr 1;rcases bo j i with h | h
  ·rw[aZ O,aH,aZ O]
  rw[a6 O,aH,a6 O,d,bO,show j-i=(j-i-1)+1 by omega,iE,bE,bO];congr 1;omega
 rw[bH (by rw[aE];omega),bH (by rw[aDl];simp only[ae,aN,bf];omega)]
theorem aWh(p:Nat->Bool)(hn:n<=1000000)(hg:w.heap[r]? = some (.cells cur 3 (0,0)))(nr:n<=cap)(_hcm:cap<=maxLen)(ns:cur.size=cap)
  (g:cur.toList.take n=natsV l) (hl:l.length=n)
  (hC:∀(i:Nat) (u:World),w.grownBy u (some r)->Calls prog 247 #[.int .i64 (i:Int),q1] u fun e w'=>e=.returned (.bool (p i))/\Below u.heap.size u w') :
  Calls prog 246 #[.slice (some ⟨r,0,none⟩) n cap,.func (.func 247) #[] #[q1]] w
   fun e w'=>∃(m:Nat) (a:Array Value),e=.returned (.slice (some ⟨r,0,none⟩) m cap)/\(dropI p l).length=m/\m<=n/\w'.heap[r]? = some (.cells a 3 (0,0))/\a.size=cap/\a.toList.take m=natsV (dropI p l)/\w.grownBy w' (some r):=by
 have Q:=hid hl;have zv:∀w,(zeroValue 3).run prog w=.ok (.int .i64 0) w:=bS;have V:r<w.heap.size:=(aU.1 hg).1;have hR:Rd w w.heap.size 1 (some ⟨r,0,none⟩) n cap (natsV l):=aQh hg (by rw[aDl,hl,bW]) nr fun j u hu=>by simpa using aBj g hu
 have C0:=aYn p hn hR (fun i u _ hu=>hC i u ((aAs hu).but _));have G:=hid g;have W:=hid hg;have X:=hid ns;have nu:=hid hC;clear g hg ns hl hR hC;go_enter Tryz.func246,Tryz.ntmps246;go_wp2_with fail;refine C0.mono ?_;rintro e w1 ⟨k,rfl,hk,M⟩;clear C0;have H:w.grownBy w1 (some r):=(aAs M).but _;have I:=hid ((M.block r V).trans W.out);rcases hk with ⟨rfl,nq⟩ | ⟨j,f,rfl,q,E,F⟩
 ·have Y:=hid (aJt nq)
  clear nq;go_wp2;go_ret;exact ⟨n,cur,rfl,by rw[Y.out,Q.out],aa _,I.out,X.out,by rw[Y.out];exact G.out,H⟩
 have nw:j<n:=by have:=(aj.1 q).1;rw[Q.out] at this;exact this
 have J:=hid (show dropI p (l.take (j+1))=l.take j by
  rw[aHj p q,ao E,aR];refine aJt fun x hx=>?_;obtain ⟨i,hi,e⟩:=bn hx;rw[aE] at hi;rw[fg] at e;exact F i x ω (by rw[<-e];exact ac _))
 clear q E F;have Z:((j:Int) == -1)=false:=a7.2 ω;go_wp2
 try rw[Z]
 clear Z;go_loopw[5,6] (fun iv jv wr=>∃(i b:Nat) (a:Array Value),b<=n/\i<b/\iv=.int .i64 i/\jv=.int .i64 b/\Hid (w.grownBy wr (some r))/\Hid (wr.heap[r]? = some (.cells a 3 (0,0)))/\Hid (a.size=cap)/\Hid (a.toList.take n=natsV (dropI p (l.take b)++l.drop i))/\Hid ((dropI p (l.take b)).length=i)) (fun _ jv _=>n-(intOf jv).toNat)
 case atStart=>exact ⟨j,j+1,cur,ω,ω,rfl,by go_num,hid H,I,X,hid (by rw[J.out,aY];exact G.out),hid (by rw[J.out,aE,Q.out];omega)⟩
 clear H I W G J nw M;obtain ⟨i,b,a,nH,nI,rfl,rfl,c,N,O,HT,s⟩:=hrel;by_cases nF:b<n
 ·obtain ⟨x,hx⟩:∃x,l[b]? = some x:=⟨l[b]'(by rw[Q.out];exact nF),ac _⟩
  have h0:wr.cell? ⟨r,b,none⟩=some (.int .i64 (x:Int)):=by
   rw[bd wr _ _ _ _ _ N.out]
   have e1:(dropI p (l.take b)++l.drop i)[b]? = some x:=by
    rw[a6 (by rw[s.out];omega),s.out,bO,show i+(b-i)=b by omega];exact hx
   have e2:(natsV (dropI p (l.take b)++l.drop i))[b]? = some (.int .i64 (x:Int)):=(by unfold natsV;rw[aG,e1];rfl);simpa using aBj HT.out e2
  have Y:=hid (aHj p hx);have C:=nu.out x wr c.out;have ff:r<wr.heap.size:=ag V c.out.size;clear hx
  cases U:p x with
  | true=>
   rw[U] at C;have HN:=hid (show dropI p (l.take (b+1))=dropI p (l.take b) by rw[Y.out,ao U,aR]);clear U;go_wp2_with fail;refine C.mono ?_;rintro e S ⟨rfl,d⟩;have h:=hid ((d.block r ff).trans N.out);have o:=hid (c.out.andThen (aAs d) (fun j P=>by cases P));clear C h0 d c N;go_wp2;go_roundw
   case rel=>exact ⟨i,b+1,a,ω,ω,rfl,by go_num,o,h,O,by rw[HN.out];exact HT,by rw[HN.out];exact s⟩
   simp[intOf];omega
  | false=>
   rw[U] at C;have HN:=hid (show dropI p (l.take (b+1))=dropI p (l.take b)++[x] by rw[Y.out,ah (by rw[U];simp)]);clear U;go_wp2_with fail;refine C.mono ?_;rintro e S ⟨rfl,d⟩;have h:=hid ((d.block r ff).trans N.out);have o:=hid (c.out.andThen (aAs d) (fun j P=>by cases P));have nz:i<a.size:=(by rw[O.out];omega);have s0:S.cell? ⟨r,i,none⟩=some a[i]:=(by rw[bd S _ _ _ _ _ h.out];exact cr nz);have s1:S.frozen? ⟨r,i,none⟩=false:=aAk h.out;clear C h0 d c N;have nA:=hid (a8 S r i _ _ (.int .i64 (x:Int)) h.out);have nj:=hid (o.out.andThen (aAy S r i (.int .i64 (x:Int))) (fun j P=>by injection P with P;exact .inr (by rw[P])));go_wp2;go_roundw
   case rel=>
    refine ⟨i+1,b+1,_,ω,ω,by go_num,by go_num,nj,nA,hid ?_,hid ?_,hid ?_⟩
    ·simp[O.out]
    ·rw[HN.out]
     have h6:=aUr (x:=x) s.out ω Q.out (by rw[bg];exact O.out) nr HT.out;rw[aH] at h6;simpa using h6
    rw[HN.out,ae,s.out];rfl
   simp[intOf];omega
 obtain rfl:n=b:=ω;rw[ai (gZ Q.out)] at HT s;obtain ⟨k,hk⟩:∃k,n-i=k+1:=⟨n-i-1,ω⟩;obtain ⟨D,t⟩:∃D,D=(Builtin.zeroCells (Value.int .i64 0).cells (k+1)).toList:=⟨_,rfl⟩;have K:D.length=k+1:=by rw[t,aFx];simp[Value.cells]
 have nk:∀u∈D,u.oneCell'=true:=by
  rw[t];exact aFu (by decide) (by intro v hv;simp[Value.cells] at hv;subst hv;rfl)
 obtain ⟨T,y⟩:∃R:Array Value,R=(a.toList.take i++D++a.toList.drop (i+D.length)).toArray:=⟨_,rfl⟩
 have L:∀ty c',(Builtin.clear_ #[36] ty #[.slice (some ⟨r,i,none⟩) (n-i) c']).run prog wr=.ok (.tuple #[]) (wr.setRow r T):=fun ty c'=>by
  rw[hk,y];exact aEt wr _ _ ty _ iz zv t.symm N.out (by rw[K,O.out];omega) nk
 have z:a.toList.take i=natsV (dropI p l):=by
  have:(a.toList.take n).take i=a.toList.take i:=by rw[ei,bP ω]
  rw[<-this,HT.out];unfold natsV;rw[<-ig,cU (by rw[s.out];exact aa _),ai (by rw[s.out];exact aa _)]
 have A:T.toList.take i=natsV (dropI p l):=by
  rw[y,<-z];show (a.toList.take i++D++a.toList.drop (i+D.length)).take i=_;rw[aH,cU (by rw[aE,bg,O.out];omega),ei,lQ]
 have B:T.size=cap:=by
  rw[y];simp only[gB,ae,aE,aN,bg,O.out,K];omega
 have nB:=hid A;have nC:=hid B;have nD:=hid L;have nE:=hid (bB wr r _ T _ _ N.out);have nm:=hid (aDm (cs:=T) c.out (.inr rfl));have nG:¬cap=i:=ω;clear A B z L y nk K t hk zv;have L:=nD.out;go_wp2;go_ret;exact ⟨i,T,rfl,s.out,ω,nE.out,nC.out,nB.out,nm.out⟩
theorem bDw(p:Nat->Bool)(hn:n<=1000000)(hg:w.heap[r]? = some (.cells cur 3 (0,0)))(nr:n<=cap)(_hcm:cap<=maxLen)(ns:cur.size=cap)
  (g:cur.toList.take n=natsV l) (hl:l.length=n)
  (hC:∀(i:Nat) (u:World),w.grownBy u (some r)->Calls prog 248 #[.int .i64 (i:Int),q1] u fun e w'=>e=.returned (.bool (p i))/\Below u.heap.size u w') :
  Calls prog 246 #[.slice (some ⟨r,0,none⟩) n cap,.func (.func 248) #[] #[q1]] w
   fun e w'=>∃(m:Nat) (a:Array Value),e=.returned (.slice (some ⟨r,0,none⟩) m cap)/\(dropI p l).length=m/\m<=n/\w'.heap[r]? = some (.cells a 3 (0,0))/\a.size=cap/\a.toList.take m=natsV (dropI p l)/\w.grownBy w' (some r):=by
 have Q:=hid hl;have zv:∀w,(zeroValue 3).run prog w=.ok (.int .i64 0) w:=bS;have V:r<w.heap.size:=(aU.1 hg).1;have hR:Rd w w.heap.size 1 (some ⟨r,0,none⟩) n cap (natsV l):=aQh hg (by rw[aDl,hl,bW]) nr fun j u hu=>by simpa using aBj g hu
 have C0:=bFf p hn hR (fun i u _ hu=>hC i u ((aAs hu).but _));have G:=hid g;have W:=hid hg;have X:=hid ns;have nu:=hid hC;clear g hg ns hl hR hC;go_enter Tryz.func246,Tryz.ntmps246;go_wp2_with fail;refine C0.mono ?_;rintro e w1 ⟨k,rfl,hk,M⟩;clear C0;have H:w.grownBy w1 (some r):=(aAs M).but _;have I:=hid ((M.block r V).trans W.out);rcases hk with ⟨rfl,nq⟩ | ⟨j,f,rfl,q,E,F⟩
 ·have Y:=hid (aJt nq)
  clear nq;go_wp2;go_ret;exact ⟨n,cur,rfl,by rw[Y.out,Q.out],aa _,I.out,X.out,by rw[Y.out];exact G.out,H⟩
 have nw:j<n:=by have:=(aj.1 q).1;rw[Q.out] at this;exact this
 have J:=hid (show dropI p (l.take (j+1))=l.take j by
  rw[aHj p q,ao E,aR];refine aJt fun x hx=>?_;obtain ⟨i,hi,e⟩:=bn hx;rw[aE] at hi;rw[fg] at e;exact F i x ω (by rw[<-e];exact ac _))
 clear q E F;have Z:((j:Int) == -1)=false:=a7.2 ω;go_wp2
 try rw[Z]
 clear Z;go_loopw[5,6] (fun iv jv wr=>∃(i b:Nat) (a:Array Value),b<=n/\i<b/\iv=.int .i64 i/\jv=.int .i64 b/\Hid (w.grownBy wr (some r))/\Hid (wr.heap[r]? = some (.cells a 3 (0,0)))/\Hid (a.size=cap)/\Hid (a.toList.take n=natsV (dropI p (l.take b)++l.drop i))/\Hid ((dropI p (l.take b)).length=i)) (fun _ jv _=>n-(intOf jv).toNat)
 case atStart=>exact ⟨j,j+1,cur,ω,ω,rfl,by go_num,hid H,I,X,hid (by rw[J.out,aY];exact G.out),hid (by rw[J.out,aE,Q.out];omega)⟩
 clear H I W G J nw M;obtain ⟨i,b,a,nH,nI,rfl,rfl,c,N,O,HT,s⟩:=hrel;by_cases nF:b<n
 ·obtain ⟨x,hx⟩:∃x,l[b]? = some x:=⟨l[b]'(by rw[Q.out];exact nF),ac _⟩
  have h0:wr.cell? ⟨r,b,none⟩=some (.int .i64 (x:Int)):=by
   rw[bd wr _ _ _ _ _ N.out]
   have e1:(dropI p (l.take b)++l.drop i)[b]? = some x:=by
    rw[a6 (by rw[s.out];omega),s.out,bO,show i+(b-i)=b by omega];exact hx
   have e2:(natsV (dropI p (l.take b)++l.drop i))[b]? = some (.int .i64 (x:Int)):=(by unfold natsV;rw[aG,e1];rfl);simpa using aBj HT.out e2
  have Y:=hid (aHj p hx);have C:=nu.out x wr c.out;have ff:r<wr.heap.size:=ag V c.out.size;clear hx
  cases U:p x with
  | true=>
   rw[U] at C;have HN:=hid (show dropI p (l.take (b+1))=dropI p (l.take b) by rw[Y.out,ao U,aR]);clear U;go_wp2_with fail;refine C.mono ?_;rintro e S ⟨rfl,d⟩;have h:=hid ((d.block r ff).trans N.out);have o:=hid (c.out.andThen (aAs d) (fun j P=>by cases P));clear C h0 d c N;go_wp2;go_roundw
   case rel=>exact ⟨i,b+1,a,ω,ω,rfl,by go_num,o,h,O,by rw[HN.out];exact HT,by rw[HN.out];exact s⟩
   simp[intOf];omega
  | false=>
   rw[U] at C;have HN:=hid (show dropI p (l.take (b+1))=dropI p (l.take b)++[x] by rw[Y.out,ah (by rw[U];simp)]);clear U;go_wp2_with fail;refine C.mono ?_;rintro e S ⟨rfl,d⟩;have h:=hid ((d.block r ff).trans N.out);have o:=hid (c.out.andThen (aAs d) (fun j P=>by cases P));have nz:i<a.size:=(by rw[O.out];omega);have s0:S.cell? ⟨r,i,none⟩=some a[i]:=(by rw[bd S _ _ _ _ _ h.out];exact cr nz);have s1:S.frozen? ⟨r,i,none⟩=false:=aAk h.out;clear C h0 d c N;have nA:=hid (a8 S r i _ _ (.int .i64 (x:Int)) h.out);have nj:=hid (o.out.andThen (aAy S r i (.int .i64 (x:Int))) (fun j P=>by injection P with P;exact .inr (by rw[P])));go_wp2;go_roundw
   case rel=>
    refine ⟨i+1,b+1,_,ω,ω,by go_num,by go_num,nj,nA,hid ?_,hid ?_,hid ?_⟩
    ·simp[O.out]
    ·rw[HN.out]
     have h6:=aUr (x:=x) s.out ω Q.out (by rw[bg];exact O.out) nr HT.out;rw[aH] at h6;simpa using h6
    rw[HN.out,ae,s.out];rfl
   simp[intOf];omega
 obtain rfl:n=b:=ω;rw[ai (gZ Q.out)] at HT s;obtain ⟨k,hk⟩:∃k,n-i=k+1:=⟨n-i-1,ω⟩;obtain ⟨D,t⟩:∃D,D=(Builtin.zeroCells (Value.int .i64 0).cells (k+1)).toList:=⟨_,rfl⟩;have K:D.length=k+1:=by rw[t,aFx];simp[Value.cells]
 have nk:∀u∈D,u.oneCell'=true:=by
  rw[t];exact aFu (by decide) (by intro v hv;simp[Value.cells] at hv;subst hv;rfl)
 obtain ⟨T,y⟩:∃R:Array Value,R=(a.toList.take i++D++a.toList.drop (i+D.length)).toArray:=⟨_,rfl⟩
 have L:∀ty c',(Builtin.clear_ #[36] ty #[.slice (some ⟨r,i,none⟩) (n-i) c']).run prog wr=.ok (.tuple #[]) (wr.setRow r T):=fun ty c'=>by
  rw[hk,y];exact aEt wr _ _ ty _ iz zv t.symm N.out (by rw[K,O.out];omega) nk
 have z:a.toList.take i=natsV (dropI p l):=by
  have:(a.toList.take n).take i=a.toList.take i:=by rw[ei,bP ω]
  rw[<-this,HT.out];unfold natsV;rw[<-ig,cU (by rw[s.out];exact aa _),ai (by rw[s.out];exact aa _)]
 have A:T.toList.take i=natsV (dropI p l):=by
  rw[y,<-z];show (a.toList.take i++D++a.toList.drop (i+D.length)).take i=_;rw[aH,cU (by rw[aE,bg,O.out];omega),ei,lQ]
 have B:T.size=cap:=by
  rw[y];simp only[gB,ae,aE,aN,bg,O.out,K];omega
 have nB:=hid A;have nC:=hid B;have nD:=hid L;have nE:=hid (bB wr r _ T _ _ N.out);have nm:=hid (aDm (cs:=T) c.out (.inr rfl));have nG:¬cap=i:=ω;clear A B z L y nk K t hk zv;have L:=nD.out;go_wp2;go_ret;exact ⟨i,T,rfl,s.out,ω,nE.out,nC.out,nB.out,nm.out⟩
theorem wideQ2:(match prog.underlying 234 with | some (.array _ _) | some (.struct _)=>true | _=>false)=true:=T
theorem KQ2:Maps.Keyed prog 234:=gw (iL T.laidOut (m:=2) O (aP κ) κ wideQ2)
theorem bDj:prog.keyType 234=true:=T
theorem cellsQ2:prog.cellsOf 234=2:=T
theorem keyQ2 {y:Nat}(a:x<=1000000000)(b:y<=1000000000):keyOf prog 234 (.agg #[.int .i64 (x:Int),.int .i64 (y:Int)])=some (kl2 x y):=
 bEy lg rfl rfl rfl rfl rfl rfl cellsQ2 aNm bw bDj T.types_pos a b
theorem bLo {y a b:Nat}(g:x<=1000000000)(i:y<=1000000000) (c:a<=1000000000) (d:b<=1000000000)(h:¬(x=a/\y=b)):kl2 x y≠kl2 a b:=fun e=>by
 have f:=keyQ2 g i;rw[e] at f;have:=KQ2.inj f (keyQ2 c d);simp at this;exact h ⟨O,O⟩
structure MpQ (w:World) (b n:Nat) (D:DataW Value) (G:Nat->Nat->Option Nat):Prop where
 own:w.ownsMap prog 234 Rv b n D
 at_:∀x y:Nat,x<=1000000000->y<=1000000000->D.atKey (kl2 x y) (.held (.int .i64 0))=.held (.int .i64 (((G x y).getD 0:Nat):Int))
 has:∀x y:Nat,x<=1000000000->y<=1000000000->Maps.has D (kl2 x y)=(G x y).isSome
theorem MpQ.start(w:World):MpQ (w.alloc (.map #[] 0)) w.heap.size 0 (.map []) (fun _ _=>none):=
 ⟨dB _ _ _ _,fun _x _y _ _=>rfl,fun _x _y _ _=>rfl⟩
theorem MpQ.put {G':Nat->Nat->Option Nat}{p q j:Nat}(h:MpQ w b n D G)(f:p<=1000000000)(g:q<=1000000000)
  (d:w'.ownsMap prog 234 Rv b (n+1) (D.put (kl2 p q) (.held (.int .i64 (j:Int))))) (i:∀x y,G' x y=if x=p/\y=q then some j else G x y) :
  MpQ w' b (n+1) (D.put (kl2 p q) (.held (.int .i64 (j:Int)))) G':=by
 refine ⟨d,fun x y a c=>?_,fun x y a c=>?_⟩
 ·by_cases e:x=p/\y=q
  ·obtain ⟨rfl,rfl⟩:=e
   rw[dw h.own.isMap (KQ2.key (keyQ2 f g)),i,ao ⟨rfl,rfl⟩];rfl
  rw[dp (bLo a c f g e),h.at_ x y a c,i,ah e]
 by_cases e:x=p/\y=q
 ·obtain ⟨rfl,rfl⟩:=e
  rw[dQ h.own.isMap (KQ2.key (keyQ2 f g)),i,ao ⟨rfl,rfl⟩];rfl
 rw[dC (bLo a c f g e),h.has x y a c,i,ah e]
theorem MpQ.kept {row:Option Nat}(h:MpQ w b n D G)(c:w.grownBy w' row)(a:some b≠row):MpQ w' b n D G:=
 ⟨h.own.kept c a,h.at_,h.has⟩
theorem MpQ.below(h:MpQ w b n D G)(a:Below w.heap.size w w'):MpQ w' b n D G:=
 h.kept (row:=none) ⟨a.os,a.tape,a.output,a.size,fun k c _=>a.block k c⟩ (by simp)
def pairC (p:Nat×Nat):List Value:=[.int .i64 (p.1:Int),.int .i64 (p.2:Int)]
def pairsV (l:List (Nat×Nat)):List Value:=l.flatMap pairC
theorem bIu:Elem prog 229 234 2 16:=aCa T
theorem bFa(l:List (Nat×Nat)):∀u∈pairsV l,u.oneCell'=true:=by
 intro u b;obtain ⟨f,_,a⟩:=dF.1 b;simp only[pairC,ax,d7,iw] at a;rcases a with rfl | rfl<;>rfl
theorem bLv(w:World)(g i j:Nat)(b:g=w.heap.size):Rd (w.alloc (.cells #[.int .i64 (i:Int),.int .i64 (j:Int)] 234)) (w.alloc (.cells #[.int .i64 (i:Int),.int .i64 (j:Int)] 234)).heap.size 2 (some ⟨g,0,none⟩) 1 1 (pairsV [(i,j)]):=by
 subst b
 exact ⟨rfl,aa _,fun _=>⟨_,0,rfl,by simp,fun k u a=>by
  rw[aO,World.cell?,au];simpa[pairsV,pairC] using a⟩⟩
theorem bGa {a:Nat}(h:u.cell? ⟨a,0,none⟩=some (.int .i64 (i:Int))) :
  Calls prog 247 #[.int .i64 (x:Int),.pointer (some ⟨a,0,none⟩)] u fun e w'=>e=.returned (.bool (decide (x=i)))/\Below u.heap.size u w':=by
 go_enter Tryz.func247,Tryz.ntmps247;by_cases b:x=i
 ·subst b
  go_wp2;go_ret;exact ⟨by simp,Below.refl _ _⟩
 have d:((x:Int) == (i:Int))=false:=a7.2 O;have c:=hid (ak b);go_wp2;go_ret;exact ⟨by rw[c.out];first | rfl | (simp;omega),Below.refl _ _⟩
theorem bFv {a:Nat}(h:u.cell? ⟨a,1,none⟩=some (.int .i64 (i:Int))) :
  Calls prog 248 #[.int .i64 (x:Int),.pointer (some ⟨a,0,none⟩)] u fun e w'=>e=.returned (.bool (decide (x=i)))/\Below u.heap.size u w':=by
 go_enter Tryz.func248,Tryz.ntmps248;by_cases b:x=i
 ·subst b
  go_wp2;go_ret;exact ⟨by simp,Below.refl _ _⟩
 have d:((x:Int) == (i:Int))=false:=a7.2 O;have c:=hid (ak b);go_wp2;go_ret;exact ⟨by rw[c.out];first | rfl | (simp;omega),Below.refl _ _⟩
abbrev GT:=(Nat->Nat->Option Nat)×Nat
structure SP (w0 w:World) (sb m:Nat) (bs ss f t o:Value) (is js:List Nat) (ps:List (Nat×Nat)) (G:GT) (Z:Nat->Obj->Prop):Prop where
 hs:w.heap[sb]? = some (.cells #[bs,ss,f,t,.map (some m),o] 231 (0,0))
 f1:w.ownsRow w0.heap.size 3 1 f is.length (natsV is)
 t1:w.ownsRow w0.heap.size 3 1 t js.length (natsV js)
 o1:w.ownsRow w0.heap.size 234 2 o ps.length (pairsV ps)
 nf:f.ownBlock≠some sb
 nt:t.ownBlock≠some sb
 no:o.ownBlock≠some sb
 nft:∀g,f.ownBlock=some g->t.ownBlock≠some g
 nfo:∀g,f.ownBlock=some g->o.ownBlock≠some g
 nto:∀g,t.ownBlock=some g->o.ownBlock≠some g
 mp:∃n D,MpQ w m n D G.1/\n<=G.2
 lo:w0.heap.size<=sb
 bel:Below w0.heap.size w0 w
 oth:∀k ob,Z k ob->w.heap[k]? = some ob/\k≠sb/\f.ownBlock≠some k/\t.ownBlock≠some k/\o.ownBlock≠some k
section
variable {w0 w w':World} {sb m:Nat} {bs ss f t o:Value} {is js:List Nat} {ps:List (Nat×Nat)} {G:GT} {Z:Nat->Obj->Prop}
theorem aAa {b:Obj}(h:w.heap[g]? = some b):g<w.heap.size:=by
 rcases bo g w.heap.size with a | a
 ·exact a
 simp[br a] at h
theorem SP.below(h:SP w0 w sb m bs ss f t o is js ps G Z)(a:Below w.heap.size w w'):SP w0 w' sb m bs ss f t o is js ps G Z:=by
 obtain ⟨n,D,e,b⟩:=h.mp;exact ⟨(a.block sb (aAa h.hs)).trans h.hs,aAf h.f1 a,aAf h.t1 a,aAf h.o1 a,h.nf,h.nt,h.no,h.nft,h.nfo,h.nto,⟨n,D,e.below a,b⟩,h.lo,h.bel.trans (a.mono h.bel.size),fun k c d=>⟨(a.block k (aAa (h.oth k c d).1)).trans (h.oth k c d).1,(h.oth k c d).2⟩⟩
theorem SP.mne(h:SP w0 w sb m bs ss f t o is js ps G Z){g:Nat}{cs:Array Value}{T:TypeId}{d:Nat×Nat}(i:w.heap[g]? = some (.cells cs T d)):m≠g:=fun e=>by
 obtain ⟨n,D,b,c⟩:=h.mp;obtain ⟨es,j,a,_⟩:=b.own;rw[e,i] at a;cases a
theorem aQv(h:w.ownsRow B e k v n xs){g:Nat}(a:v.ownBlock=some g):∃cs,w.heap[g]? = some (.cells cs e (0,0)):=aWg h a
structure SPo (w0 w:World) (sb m:Nat) (bs ss f t o o':Value) (is js:List Nat) (ps:List (Nat×Nat)) (G:GT) (Z:Nat->Obj->Prop):Prop where
 hs:w.heap[sb]? = some (.cells #[bs,ss,f,t,.map (some m),o] 231 (0,0))
 f1:w.ownsRow w0.heap.size 3 1 f is.length (natsV is)
 t1:w.ownsRow w0.heap.size 3 1 t js.length (natsV js)
 o1:w.ownsRow w0.heap.size 234 2 o' ps.length (pairsV ps)
 nf:f.ownBlock≠some sb
 nt:t.ownBlock≠some sb
 no:o'.ownBlock≠some sb
 nft:∀g,f.ownBlock=some g->t.ownBlock≠some g
 nfo:∀g,f.ownBlock=some g->o'.ownBlock≠some g
 nto:∀g,t.ownBlock=some g->o'.ownBlock≠some g
 mp:∃n D,MpQ w m n D G.1/\n<=G.2
 lo:w0.heap.size<=sb
 bel:Below w0.heap.size w0 w
 oth:∀k ob,Z k ob->w.heap[k]? = some ob/\k≠sb/\f.ownBlock≠some k/\t.ownBlock≠some k/\o'.ownBlock≠some k
theorem SP.push(h:SP w0 w sb m bs ss f t o is js ps G Z) {l:Value}{q:Nat×Nat}(a:w.grownBy w' o.ownBlock)(C:w'.ownsRow w0.heap.size 234 2 l (ps.length+1) (pairsV ps++pairsV [q]))(j:l.ownBlock=o.ownBlock\/l.ownBlock=some w.heap.size) :
  SPo w0 w' sb m bs ss f t o l is js (ps++[q]) G Z:=by
 obtain ⟨n,D,u,p⟩:=h.mp
 have c:∀g,g<w.heap.size->o.ownBlock≠some g->l.ownBlock≠some g:=fun g y r e=>by
  rcases j with j | j
  ·exact r (j▸e)
  rw[j] at e;injection e with e;omega
 have b:∀{v:Value} {T:TypeId} {k s:Nat} {xs:List Value},w.ownsRow w0.heap.size T k v s xs->(∀g,v.ownBlock=some g->o.ownBlock≠some g)->w'.ownsRow w0.heap.size T k v s xs:=fun {v} {T} {k} {s} {xs} z A=>by
  refine z.kept a ?_
  cases e:v.ownBlock with
  | none=>exact .inl rfl
  | some g=>exact .inr (fun B=>A g e B.symm)
 refine ⟨(a.block sb (aAa h.hs) (fun e=>h.no e.symm)).trans h.hs,b h.f1 h.nfo,b h.t1 h.nto,?_,h.nf,h.nt,c sb (aAa h.hs) h.no,h.nft,fun g a=>c g (h.f1.lt g a).2 (h.nfo g a),fun g a=>c g (h.t1.lt g a).2 (h.nto g a),⟨n,D,u.kept a (fun e=>by
  obtain ⟨cs,x⟩:=aQv h.o1 e.symm;exact h.mne x rfl),p⟩,h.lo,h.bel.grown a h.bel.size (fun g a=>(h.o1.lt g a).1),fun k d i=>⟨(a.block k (aAa (h.oth k d i).1) (fun e=>(h.oth k d i).2.2.2.2 e.symm)).trans (h.oth k d i).1,(h.oth k d i).2.1,(h.oth k d i).2.2.1,(h.oth k d i).2.2.2.1,c k (aAa (h.oth k d i).1) (h.oth k d i).2.2.2.2⟩⟩
 rw[ae];unfold pairsV at *;rw[aJ];exact C
theorem SPo.set {b:Value}(h:SPo w0 w sb m bs ss f t o b is js ps G Z):SP w0 (w.setCell ⟨sb,5,none⟩ b) sb m bs ss f t b is js ps G Z:=by
 obtain ⟨n,D,i,c⟩:=h.mp
 have a:m≠sb:=fun e=>by
  obtain ⟨es,l,j,_⟩:=i.own;rw[e,h.hs] at j;cases j
 refine ⟨?_,aK h.f1 h.nf _,aK h.t1 h.nt _,aK h.o1 h.no _,h.nf,h.nt,h.no,h.nft,h.nfo,h.nto,⟨n,D,i.kept (aAy w sb 5 b) (by simpa using a),c⟩,h.lo,h.bel.setCell h.lo _,fun k d g=>⟨(Below.heap_setCell w ⟨sb,5,none⟩ _ k (h.oth k d g).2.1).trans (h.oth k d g).1,(h.oth k d g).2⟩⟩;have:=a8 w sb 5 _ _ b h.hs;simpa using this
theorem SP.inF(h:SP w0 w sb m bs ss f t o is js ps G Z){r:Nat}(j:f.ownBlock=some r)(a:w.grownBy w' (some r)) {d:Value} {i:List Nat}(F:w'.ownsRow w0.heap.size 3 1 d i.length (natsV i))(u:∀g,d.ownBlock=some g->f.ownBlock=some g) :
  SP w0 (w'.setCell ⟨sb,2,none⟩ d) sb m bs ss d t o i js ps G Z:=by
 obtain ⟨n,D,C,A⟩:=h.mp;have v:r≠sb:=fun e=>h.nf (by rw[j,e]);have l:=(a.block sb (aAa h.hs) (fun e=>by injection e with e;exact v e.symm)).trans h.hs;have x:m≠r:=by obtain ⟨cs,E⟩:=aQv h.f1 j;exact h.mne E
 have p:=C.kept a (by simpa using x)
 have q:m≠sb:=fun e=>by
  obtain ⟨es,H,B,_⟩:=p.own;rw[e,l] at B;cases B
 have y:w'.ownsRow w0.heap.size 3 1 t js.length (natsV js):=h.t1.kept a (.inr (h.nft r j));have z:w'.ownsRow w0.heap.size 234 2 o ps.length (pairsV ps):=h.o1.kept a (.inr (h.nfo r j));have s:d.ownBlock≠some sb:=fun e=>h.nf (u sb e);refine ⟨?_,aK F s _,aK y h.nt _,aK z h.no _,s,h.nt,h.no,fun g a=>h.nft g (u g a),fun g a=>h.nfo g (u g a),h.nto,⟨n,D,p.kept (aAy w' sb 2 d) (by simpa using q),A⟩,h.lo,(h.bel.grown a h.bel.size (fun g a=>by injection a with a;subst a;exact (h.f1.lt _ j).1)).setCell h.lo _,fun k b c=>⟨(Below.heap_setCell w' ⟨sb,2,none⟩ _ k (h.oth k b c).2.1).trans ((a.block k (aAa (h.oth k b c).1) (fun e=>(h.oth k b c).2.2.1 (by rw[j];exact e.symm))).trans (h.oth k b c).1),(h.oth k b c).2.1,fun e=>(h.oth k b c).2.2.1 (u k e),(h.oth k b c).2.2.2⟩⟩;have:=a8 w' sb 2 _ _ d l;simpa using this
theorem SP.inT(h:SP w0 w sb m bs ss f t o is js ps G Z){r:Nat}(j:t.ownBlock=some r)(a:w.grownBy w' (some r)) {d:Value} {i:List Nat}(H:w'.ownsRow w0.heap.size 3 1 d i.length (natsV i))(u:∀g,d.ownBlock=some g->t.ownBlock=some g) :
  SP w0 (w'.setCell ⟨sb,3,none⟩ d) sb m bs ss f d o is i ps G Z:=by
 obtain ⟨n,D,C,A⟩:=h.mp;have v:r≠sb:=fun e=>h.nt (by rw[j,e]);have l:=(a.block sb (aAa h.hs) (fun e=>by injection e with e;exact v e.symm)).trans h.hs;have x:m≠r:=by obtain ⟨cs,E⟩:=aQv h.t1 j;exact h.mne E
 have p:=C.kept a (by simpa using x)
 have q:m≠sb:=fun e=>by
  obtain ⟨es,I,B,_⟩:=p.own;rw[e,l] at B;cases B
 have y:w'.ownsRow w0.heap.size 3 1 f is.length (natsV is):=h.f1.kept a (by
  cases e:f.ownBlock with
  | none=>exact .inl rfl
  | some g=>exact .inr (fun F=>h.nft g e (by rw[j,<-F])))
 have z:w'.ownsRow w0.heap.size 234 2 o ps.length (pairsV ps):=h.o1.kept a (.inr (h.nto r j));have s:d.ownBlock≠some sb:=fun e=>h.nt (u sb e);refine ⟨?_,aK y h.nf _,aK H s _,aK z h.no _,h.nf,s,h.no,fun g a e=>h.nft g a (u g e),h.nfo,fun g a=>h.nto g (u g a),⟨n,D,p.kept (aAy w' sb 3 d) (by simpa using q),A⟩,h.lo,(h.bel.grown a h.bel.size (fun g a=>by injection a with a;subst a;exact (h.t1.lt _ j).1)).setCell h.lo _,fun k b c=>⟨(Below.heap_setCell w' ⟨sb,3,none⟩ _ k (h.oth k b c).2.1).trans ((a.block k (aAa (h.oth k b c).1) (fun e=>(h.oth k b c).2.2.2.1 (by rw[j];exact e.symm))).trans (h.oth k b c).1),(h.oth k b c).2.1,(h.oth k b c).2.2.1,fun e=>(h.oth k b c).2.2.2.1 (u k e),(h.oth k b c).2.2.2.2⟩⟩;have:=a8 w' sb 3 _ _ d l;simpa using this
end
theorem E28:Elem prog 36 3 1 8:=aCa T
theorem aCn(l:List Int):∀u∈l.map (Value.int .i64),u.oneCell'=true:=by
 intro u a;obtain ⟨s,_,rfl⟩:=ce.1 a;rfl
theorem aEu(w:World)(x:Int):Rd (w.alloc (.cells #[.int .i64 x] 3)) (w.alloc (.cells #[.int .i64 x] 3)).heap.size 1 (some ⟨w.heap.size,0,none⟩) 1 1 ([x].map (.int .i64)):=
 ⟨rfl,aa _,fun _=>⟨_,_,rfl,by simp,fun j u a=>by
  rw[aO,bd _ _ _ _ _ _ (au _ _)]
  cases j with
  | zero=>simpa using a
  | succ j=>simp at a⟩⟩
def Ints (Q:List Int->Prop)(w:World)(e:Ending) (w':World):Prop:=
 ∃(A:Option Addr) (c:Nat) (l:List Int),e=.returned (.slice A l.length c)/\Rd w' w'.heap.size 1 A l.length c (l.map (.int .i64))/\Below w.heap.size w w'/\Q l
def IntsF (A0:Option Addr)(n0:Nat)(Q:List Int->Prop)(w:World)(e:Ending) (w':World):Prop:=
 ∃(A:Option Addr) (c:Nat) (l:List Int),e=.returned (.slice A l.length c)/\Rd w' w'.heap.size 1 A l.length c (l.map (.int .i64))/\Below w.heap.size w w'/\Q l/\∀a,A=some a->(A=A0/\0<n0)\/w.heap.size<=a.block
theorem aSb {base:Nat}{m:Nat}(h:w.ownsRow base e sz (.slice A m c) n xs):∀a,A=some a->base<=a.block:=by
 rintro a rfl;rcases h.2 with ⟨b,_⟩ | ⟨g,cap,cur,b,d,_⟩
 ·simp at b
 simp only[lX,dy] at b;rw[b.1];exact d
theorem aAu(h:Below B w w')(b:w.heap.size<=B):w.grownBy w' none:=⟨h.os,h.tape,h.output,h.size,fun k a _=>h.block k O⟩
theorem Rd.keepA(h:Rd w B sz A n c xs)(i:0<n->∀a,A=some a->w'.heap[a.block]? = w.heap[a.block]?):Rd w' B sz A n c xs:=
 ⟨h.len,h.cap,fun d=>by
  obtain ⟨b,o,rfl,e,f⟩:=h.at_ d;refine ⟨b,o,rfl,e,fun j u g=>?_⟩;rw[<-f j u g];exact cw (w:=w) (i d ⟨b,o,none⟩ rfl)⟩
theorem Rd.lt_(h:Rd w B sz A n c xs)(f:0<n):∀a,A=some a->a.block<B:=by
 obtain ⟨b,o,rfl,d,_⟩:=h.at_ f;rintro a e;cases e;exact d
def Apart (sv:Value)(l:List Int)(w:World)(v:Value):Prop:=
 ∃(A:Option Addr) (c:Nat),v=.slice A l.length c/\Rd w w.heap.size 1 A l.length c (l.map (.int .i64))/\(0<l.length->∀a,A=some a->some a.block≠sv.ownBlock)
theorem Apart.to {a:Value}{l:List Int}(h:Apart a l w v)(b:Below w.heap.size w w'):Apart a l w' v:=by
 obtain ⟨A,c,rfl,d,ha⟩:=h;exact ⟨A,c,rfl,d.to b b.size,ha⟩
theorem Apart.grown {g b:Value}{l:List Int}(h:Apart g l w v)(j:w.grownBy w' g.ownBlock)(m:b.ownBlock=g.ownBlock\/∃k,b.ownBlock=some k/\w.heap.size<=k):Apart b l w' v:=by
 obtain ⟨A,c,rfl,f,ha⟩:=h;refine ⟨A,c,rfl,(f.keepA fun d a h=>j.block _ (f.lt_ d a h) (ha d a h)).more j.size,fun d a h=>?_⟩;rcases m with e | ⟨k,e,n⟩
 ·rw[e];exact ha d a h
 rw[e];intro i;injection i with i;have:=f.lt_ d a h;omega
structure RefSt (w wr:World) (ms:List MV) (i:Int) (ov tv sv:Value) (seen todo out:List Int):Prop where
 below:Below w.heap.size w wr
 inv:RefInv ms i seen todo out
 ho:Apart sv out wr ov
 ht:Apart sv todo wr tv
 row:wr.ownsRow w.heap.size 3 1 sv seen.length (seen.map (.int .i64))
 tl:todo.length<=25200*(seen.length+1)
theorem aQm {W:World}{base a:Nat}{b:Nat}(h:W.ownsRow base e b v k xs)(i:a<=base):W.ownsRow a e b v k xs:=by
 refine ⟨h.1,?_⟩;rcases h.2 with c | ⟨g,cap,cur,d,f,r⟩
 ·exact .inl c
 exact .inr ⟨g,cap,cur,d,aw i f,r⟩
theorem aSt {cs:Array Value}{t:TypeId}{d:Nat×Nat}(b:w.heap[g]? = some (.cells cs t d))(a:cs.toList=xs)(e:xs.length=n*sz) :
  Rd w w.heap.size sz (some ⟨g,0,none⟩) n n xs:=
 ⟨e,aa _,fun _=>⟨g,0,rfl,(aU.1 b).1,fun j u c=>by
  rw[aO,bd _ _ _ _ _ _ b,<-gn,a];exact c⟩⟩
theorem E22:Elem prog 23 43 2 32:=aCa T
theorem aRf(a:N<=1000):IntKind.u64.wrap (N:Int)=N:=by rw[fE];omega
theorem bLn(t:Int){N:Nat}(a:0<N)(c:N<=1000):∃k:Nat,wrap64 ((IntKind.u64.wrap t).tmod (N:Int))=k/\k<N:=by
 have a:0<=IntKind.u64.wrap t:=by rw[fE];omega
 rw[gH a];generalize IntKind.u64.wrap t=u at *;have:0<=u % (N:Int):=iV _ O;have b:u % (N:Int)<(N:Int):=io _ O;generalize u % (N:Int)=v at *;refine ⟨v.toNat,?_,O⟩;unfold wrap64;omega
def playM (N:Nat)(m:MV):Prop:=0<=m.old/\m.old<N/\m.new.length<=4/\∀x∈m.new,m.old<x/\x<N
structure PlayIs (N:Nat) (ms:List MV):Prop where
 len:ms.length<=40
 all:∀m∈ms,playM N m
theorem PlayIs.few(h:PlayIs N ms):fewM ms=true:=by
 simp only[fewM,ay,bF,bh];exact ⟨fun m a=>by have:=(h.all m a).2.2.1;omega,aw h.len (by decide)⟩
theorem PlayIs.right(h:PlayIs N ms):rightM N ms=true:=by
 simp only[rightM,bF];intro m a;obtain ⟨b,c,e,d⟩:=h.all m a;simp only[okM,ay,bh,bF];exact ⟨⟨⟨b,c⟩,O⟩,d⟩
theorem bFk(m:MV):∀u∈m.cells,u.oneCell'=true:=by
 intro u a;simp only[MV.cells,ax,mI,iw] at a;rcases a with rfl | rfl<;>rfl
theorem bLi(w:World)(m:MV):Rd (w.alloc (.cells #[.int .i64 m.old,.slice m.A m.new.length m.c] 43)) (w.alloc (.cells #[.int .i64 m.old,.slice m.A m.new.length m.c] 43)).heap.size 2 (some ⟨w.heap.size,0,none⟩) 1 1 m.cells:=
 aSt (au _ _) rfl rfl
theorem mset {a b c:Value}{t:TypeId}(h:w.heap[g]? = some (.cells #[a,b] t (0,0))):(w.setCell ⟨g,1,none⟩ c).heap[g]? = some (.cells #[a,c] t (0,0)):=
 (a8 w g 1 _ t c h).trans rfl
structure Drawn (w wr:World) (N:Nat) (ov:Value) (ms:List MV):Prop where
 below:Below w.heap.size w wr
 row:wr.ownsRow w.heap.size 43 2 ov ms.length (ms.flatMap MV.cells)
 play:PlayIs N ms
 part:∀m∈ms,Apart ov m.new wr (.slice m.A m.new.length m.c)
theorem Drawn.to {wr a:World}{b:Value}(h:Drawn w wr N b ms)(c:Below wr.heap.size wr a):Drawn w a N b ms:=
 ⟨h.below.trans (c.mono h.below.size),h.row.kept (aAu c (aa _)) (by cases b.ownBlock<;>simp),h.play,fun m d=>(h.part m d).to c⟩
theorem Drawn.rdm {wr:World}{b:Value}(h:Drawn w wr N b ms)(p:N<=1000):∃A c,b=.slice A ms.length c/\RdM wr wr.heap.size A ms.length c ms:=by
 obtain ⟨A,c,rfl,d⟩:=aAd h.row;refine ⟨A,c,rfl,Rd.of_own h.row d,rfl,fun m a=>?_⟩;obtain ⟨j,k,e,f,_⟩:=h.part m a
 cases e
 obtain ⟨l,n,o,g⟩:=h.play.all m a;exact ⟨f,O,by unfold I64;omega,fun x i=>by have:=g x i;unfold I64;omega⟩
theorem aYc(_hn:n<=maxLen)(h:RdM w w.heap.size A n c ms)(hN:N<=1000) :
  Calls prog 12 #[.int .i64 N,.slice A n c] w fun e w'=>∃(A':Option Addr) (c':Nat) (f:List MV),e=.returned (.slice A' f.length c')/\RdM w' w'.heap.size A' f.length c' f/\PlayIs N f/\Below w.heap.size w w':=by
 unfold maxLen at _hn;have hw:=aRf hN;go_enter Tryz.func12,Tryz.ntmps12;go_wp2;go_loopw[5,6] (fun ov iv wr=>∃(k:Nat) (f:List MV),k<=n/\k<=40/\iv=.int .i64 k/\f.length=k/\Drawn w wr N ov f) (fun _ i _=>n-(intOf i).toNat)
 case atStart=>exact ⟨0,[],al _,ω,rfl,rfl,⟨Below.refl _ _,aA _ _ _ _,⟨by simp,by simp⟩,by simp⟩⟩
 obtain ⟨k,f,hk,nM,rfl,hl,B⟩:=hrel;obtain ⟨d,nB⟩:∃x,x=wr:=⟨_,rfl⟩;subst nB;by_cases nJ:k<n/\k<40/\0<N
 ·obtain ⟨nC,nD,U⟩:=nJ
  obtain ⟨b0,o0,u,rfl,C,V,hu,h0,h1⟩:=h.get nC;have nk:=(B.below.cell C).trans h0;have nm:=(B.below.cell C).trans h1;obtain ⟨nE,nS,_,_⟩:=h.parts u hu;obtain ⟨b,W,nF⟩:=bLn u.old U hN;have HS:=hid B.below;go_wp2;rw[W];have s:(d.alloc (.cells #[.int .i64 (b:Int),.slice none 0 0] 43)).heap[d.heap.size]? = some (.cells #[.int .i64 (b:Int),.slice none 0 0] 43 (0,0)):=au _ _;have O:Below d.heap.size d (d.alloc (.cells #[.int .i64 (b:Int),.slice none 0 0] 43)):=(Below.refl _ _).alloc (aa _) _;have P:d.heap.size+1<=(d.alloc (.cells #[.int .i64 (b:Int),.slice none 0 0] 43)).heap.size:=by simp
  go_loopw[8] (fun kv wi=>∃(j:Nat) (xs:List Int) (X:Value),j<=u.new.length/\j<=4/\kv=.int .i64 j/\Below d.heap.size d wi/\wi.heap[d.heap.size]? = some (.cells #[.int .i64 (b:Int),X] 43 (0,0))/\
   wi.ownsRow (d.heap.size+1) 3 1 X xs.length (xs.map (.int .i64))/\xs.length<=j/\(∀x∈xs,(b:Int)<x/\x<N)/\d.heap.size+1<=wi.heap.size) (fun kv _=>u.new.length-(intOf kv).toNat)
  case atStart=>exact ⟨0,[],_,al _,ω,rfl,O,s,aA _ _ _ _,by simp,by simp,P⟩
  clear s O P;obtain ⟨j,xs,X,hj,nT,rfl,l,D,o,nU,H,nG⟩:=hrel;have nO:=(l.cell (p:=⟨b0,o0+k*2,none⟩) (ag C HS.out.size)).trans nk;have nq:=(l.cell (p:=⟨b0,o0+k*2+1,none⟩) (ag C HS.out.size)).trans nm;have c0:wr.cell? ⟨d.heap.size,0,none⟩=some (.int .i64 (b:Int)):=(bd _ _ _ _ _ _ D).trans rfl;have c1:wr.cell? ⟨d.heap.size,1,none⟩=some X:=(bd _ _ _ _ _ _ D).trans rfl;by_cases nj:j<u.new.length/\j<4
  ·obtain ⟨Y,nN⟩:=nj
   obtain ⟨b1,o1,y,eA,Z,hy,g0⟩:=nE.int_ Y;have nP:=(l.cell (p:=⟨b1,o1+j,none⟩) (ag Z HS.out.size)).trans ((HS.out.cell (p:=⟨b1,o1+j,none⟩) Z).trans g0);rw[eA] at nq;obtain ⟨M,nV,nW⟩:=bLn y U hN;by_cases nK:(b:Int)<M
   ·obtain ⟨v,z,rfl,ff⟩:=aAd o
    have Q:∀g,(Value.slice v xs.length z).ownBlock=some g->d.heap.size+1<=g:=fun g L=>(o.lt g L).1;have R:=o.alloc (.cells #[.int .i64 (M:Int)] 3);have F:=l.alloc l.size (.cells #[.int .i64 (M:Int)] 3);have S:=(heap_alloc_old wr (.cells #[.int .i64 (M:Int)] 3) (r:=d.heap.size) ω).trans D;have nr:some d.heap.size≠(Value.slice v xs.length z).ownBlock:=fun e=>(by have:=Q _ e.symm;omega);go_wp2_with (at_builtin;refine aAl rfl (.tmp 67) (.tmp 69) 36 rfl E28 rfl rfl R (aEu wr (M:Int)) (aCn _) (by unfold maxLen;omega) ω (by simp;omega) ?_;intro v6 w6 I J nX;obtain ⟨A6,c6,rfl,nY⟩:=aAd I;have t:=(J.block d.heap.size (by simp;omega) nr).trans S;have nQ:w6.cell? ⟨d.heap.size,1,none⟩=some (.slice v xs.length z):=(bd _ _ _ _ _ _ t).trans rfl;have nR:w6.frozen? ⟨d.heap.size,1,none⟩=false:=by simp[World.frozen?,t]);go_roundw
    case rel=>
     have ns:=F.grown J F.size (fun g L=>by have:=Q g L;omega);have nu:=J.size;simp at nu;refine ⟨j+1,xs++[(M:Int)],.slice A6 (xs.length+1) c6,ω,ω,by go_num,ns.setCell (aa _) _,mset t,?_,by simp;omega,fun x V=>?_,?_⟩
     ·rw[ae,aM]
      refine I.kept (row:=some d.heap.size) ⟨rfl,rfl,rfl,by simp,fun k _ hk=>il _ _ k _ (fun e=>hk (by rw[e]))⟩ (.inr fun e=>by have:=(I.lt _ e).1;omega)
     ·rw[aQ,aS] at V
      rcases V with V | rfl
      ·exact H x V
      exact ⟨nK,ω⟩
     simp;omega
    simp[intOf];omega
   go_wp2;go_roundw
   case rel=>exact ⟨j+1,xs,X,ω,ω,by go_num,l,D,o,ω,H,nG⟩
   simp[intOf];omega
  have nL:¬(j<u.new.length)\/¬(j<4):=ω;obtain ⟨v,z,rfl,ff⟩:=aAd o;have T:=B.to l;have nw:=hid B.row;clear B;have q:=T.to ((Below.refl wr.heap.size wr).alloc (aa _) (.cells #[.int .i64 (b:Int),.slice v xs.length z] 43));have nz:∀g,Value.ownBlock u5=some g->g<d.heap.size:=fun g L=>(nw.out.lt g L).2;have nA:=(show Apart u5 xs wr (.slice v xs.length z) from ⟨v,z,rfl,Rd.of_own o ff,fun _ a ha e=>by have:=nz _ e.symm;have:=aSb o a ha;omega⟩).to ((Below.refl wr.heap.size wr).alloc (aa _) (.cells #[.int .i64 (b:Int),.slice v xs.length z] 43));go_wp2_with (at_builtin;refine aAl rfl (.tmp 72) (.tmp 74) 23 rfl E22 rfl rfl q.row (bLi wr ⟨b,v,z,xs⟩) (bFk ⟨b,v,z,xs⟩) (by unfold maxLen;omega) ω q.below.size ?_;intro v7 w7 nH K nI)
  all_goals
   go_roundw
   case rel=>
    have G:=nI.imp id fun e=>(⟨_,e,aa _⟩:∃k,v7.ownBlock=some k/\_<=k);refine ⟨k+1,f++[⟨b,v,z,xs⟩],ω,ω,by go_num,by simp;omega,q.below.grown K q.below.size (fun g L=>(q.row.lt g L).1),?_,?_,fun m E=>?_⟩
    ·rw[ae,aJ]
     simpa using nH
    ·refine ⟨by simp;omega,fun m E=>?_⟩
     rw[aQ,aS] at E;rcases E with E | rfl
     ·exact T.play.all m E
     exact ⟨by show (0:Int)<=(b:Int);omega,by show (b:Int)<N;omega,by show xs.length<=4;omega,H⟩
    rw[aQ,aS] at E;rcases E with E | rfl
    ·exact (q.part m E).grown K G
    exact nA.grown K G
   simp[intOf];omega
 go_wp2
 all_goals
  go_ret;obtain ⟨A',c',rfl,hr⟩:=B.rdm hN;exact ⟨A',c',f,rfl,hr,B.play,B.below⟩
end Go.Proofs.YtohblmepajhpaaaGreatDoor
