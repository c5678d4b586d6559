/- Contracts of functions that the law reaches; plain laws. -/
import Derived.Test.YtohblmepajhpaaaGreatDoorG07
import Derived.Test.YtohblmepajhpaaaGreatDoorG12
import Derived.Test.YtohblmepajhpaaaGreatDoorG16
set_option maxHeartbeats 16000000
set_option maxRecDepth 100000
open Go.Lib (hid)
namespace Go.Proofs.YtohblmepajhpaaaGreatDoor
open Go.Proofs.Tryz (prog)
open Go.RowKit
variable {w0 w w':World}{out cv:Value}{L:List KV}{k c n mb N:Nat}{A:Option Addr}{m:List FV×List CL}{Z:Nat->Obj->Prop}
structure LK (w0 w:World) (out:Value) (L:List KV):Prop where
 ex:∃H:List (List Value),w.ownsRow w0.heap.size 143 4 out L.length H.flatten/\KIns w (obs out) L H
 bel:Below w0.heap.size w0 w
theorem LK.start(a:Below w0.heap.size w0 w):LK w0 w (.slice none 0 0) []:=⟨⟨[],aA _ _ _ _,trivial⟩,a⟩
theorem LK.below(h:LK w0 w out L)(a:Below w.heap.size w w'):LK w0 w' out L:=by
 obtain ⟨H,b,c⟩:=h.ex;exact ⟨⟨H,aAf b a,c.keep (Keeps.of_below a)⟩,h.bel.trans (a.mono h.bel.size)⟩
theorem LK.obs_lt(h:LK w0 w out L):∀b∈obs out,b<w.heap.size:=fun b c=>by
 obtain ⟨H,a,_⟩:=h.ex;exact (a.lt b (aFc c)).2
theorem LK.push {c:Value}{k:KV}{cs:List Value}{H:List (List Value)}(m:w.ownsRow w0.heap.size 143 4 out L.length H.flatten)(n:KIns w (obs out) L H)(a:Below w0.heap.size w0 w)(o:KIn w (obs out) k cs)
  (p:w'.ownsRow w0.heap.size 143 4 c (L.length+1) (H.flatten++cs)) (d:w.grownBy w' out.ownBlock) (e:c.ownBlock=out.ownBlock\/c.ownBlock=some w.heap.size):LK w0 w' c (L++[k]):=by
 have h:∀b∈obs out++obs c,b∈obs out\/w.heap.size<=b:=fun b a=>by
  rcases aQ.1 a with a | a
  ·exact .inl a
  have a:=aFc a;rcases e with e | e
  ·exact .inl (aEj (e▸a))
  rw[e] at a;injection a with a;exact .inr O
 have f:=Keeps.grown (l:=obs out++obs c) d (fun g d=>iO _ (aEj d));have i:KIns w (obs out++obs c) (L++[k]) (H++[cs]):=(n.snoc o).less h;have j:KIns w' (obs c) (L++[k]) (H++[cs]):=(i.keep f).less (fun b a=>.inl (go _ a));refine ⟨⟨H++[cs],?_,j⟩,a.grown d a.size (fun g d=>(m.lt g d).1)⟩;rw[ae,ia];simpa using p
theorem LK.done {e f:World}{v:Value}(a:Below w.heap.size w e)(h:LK e f v L):ChunksIs L w (.returned v) f:=by
 obtain ⟨H,d,g⟩:=h.ex;obtain ⟨A,c,rfl,i⟩:=aAd d;exact ⟨A,c,H,rfl,Rd.of_own d i,g.less (fun b a=>by cases a),a.trans (h.bel.mono a.size)⟩
theorem aKt {i:Nat}{a b:List ByteArray}(h:Rd w w.heap.size 1 A a.length c (intsV (placesI a b)))(j:Below w.heap.size w w')(k:i<a.length) :
  ∃g o,A=some ⟨g,o,none⟩/\g<w.heap.size/\w'.cell? ⟨g,o+i,none⟩=some (.int .i64 (plI (keptAt a b i))):=by
 obtain ⟨g,o,e,d,f⟩:=h.at_ O;exact ⟨g,o,e,d,(j.cell (p:=⟨g,o+i,none⟩) d).trans (f _ _ (aXf k))⟩
theorem Rd.cutS {l:Nat}{L:List ByteArray}(h:Rd w w.heap.size 1 A n c (L.map .string))(a:l<=k)(b:k<=n) :
  ∃A',(if c=l then A else A.map (·.add l))=A'/\Rd w w.heap.size 1 A' (k-l) (c-l) ((sliceF L l k).map .string)/\(sliceF L l k).length=k-l:=by
 refine ⟨_,rfl,?_,?_⟩
 ·have:=h.cut1 a b
  rw[<-ig,<-eO] at this;exact this
 have:=h.len;rw[az] at this;unfold sliceF;rw[aN,aE];omega
theorem aOk {u:World}{l:Nat}{A':Option Addr}{L:List ByteArray}(h:Rd u u.heap.size 1 A n c (L.map .string))(b:l<=k)(d:k<=n)(e:(if c=l then A else A.map (·.add l))=A') :
  Rd u u.heap.size 1 A' (sliceF L l k).length (c-l) ((sliceF L l k).map .string):=by
 obtain ⟨f,q1,a,l1⟩:=Rd.cutS h b d;rw[<-e,q1,l1];exact a
theorem aHe {P:Program}{S:World->Prop}{a:Act}{K:Act->World->Prop}{b:Option Tmp}{t ty:TypeId}{q:Bool}{g:Option (Tmp×Bool)}{z:Value}{cs:Array Value}(c:∀w,(zeroValue t).run P w=.ok z w)(d:z.cells=cs)
  (e:S (w.alloc (.cells cs t))/\K (a.put b (.pointer (some ⟨w.heap.size,0,none⟩))) (w.alloc (.cells cs t))):effq P S ⟨q,b,.alloc t,ty,g⟩ a w K:=aBr c (by rw[d];exact e)
theorem aVf {q j u:World}{m:Value}{R:List ByteArray}{e g i:Option Addr}{a d2 c:Nat}(y:R.length=n)(h:LK q j m L)(t:Below j.heap.size j u)
  (z:u.ownsRow j.heap.size 9 1 (.slice e n a) n (R.map .string)) (B:n<=a) (C:u.ownsRow j.heap.size 9 1 (.slice g n d2) n (R.map .string)) (D:n<=d2) (E:u.ownsRow j.heap.size 9 1 (.slice i n c) n (R.map .string)) (F:n<=c) :
  ∃H:List (List Value),(u.alloc (.cells #[.int .i64 1,.slice e n a,.slice g n d2,.slice i n c] 143)).ownsRow q.heap.size 143 4 m L.length H.flatten/\
   KIns (u.alloc (.cells #[.int .i64 1,.slice e n a,.slice g n d2,.slice i n c] 143)) (obs m) L H/\
   Below q.heap.size q (u.alloc (.cells #[.int .i64 1,.slice e n a,.slice g n d2,.slice i n c] 143))/\
   Rd (u.alloc (.cells #[.int .i64 1,.slice e n a,.slice g n d2,.slice i n c] 143)) (u.alloc (.cells #[.int .i64 1,.slice e n a,.slice g n d2,.slice i n c] 143)).heap.size 4 (some ⟨u.heap.size,0,none⟩) 1 1 [.int .i64 1,.slice e n a,.slice g n d2,.slice i n c]/\
   KIn (u.alloc (.cells #[.int .i64 1,.slice e n a,.slice g n d2,.slice i n c] 143)) (obs m) ⟨1,R,R,R⟩ [.int .i64 1,.slice e n a,.slice g n d2,.slice i n c]:=by
 subst y;obtain ⟨H,r,s⟩:=h.ex;have p:Below u.heap.size u (u.alloc (.cells #[.int .i64 1,.slice e R.length a,.slice g R.length d2,.slice i R.length c] 143)):=(Below.refl _ _).alloc (aa _) _;have k:=t.trans (p.mono t.size)
 have f:∀{A:Option Addr} {d:Nat},u.ownsRow j.heap.size 9 1 (.slice A R.length d) R.length (R.map .string)->R.length<=d->RdO (u.alloc (.cells #[.int .i64 1,.slice e R.length a,.slice g R.length d2,.slice i R.length c] 143)) (obs m) A d R:=fun {A d} o v=>
  (aAr (l:=obs m) (w:=j) (Rd.of_own o v) (aFn o (aa _)) (fun b x=>h.obs_lt b x)).keep (Keeps.of_below p)
 exact ⟨H,aAf r k,s.keep (Keeps.of_below k),h.bel.trans (k.mono h.bel.size),aHh u _ _ _ _,e,a,g,d2,i,c,rfl,f z B,f C D,f E F⟩
theorem share4 {α β γ:Sort _}{G:Prop}(F:α->β->γ->Prop){c:α}{q:β}{r:γ}(h:F c q r->G)(k:F c q r):G:=h k
theorem share2 {P G:Prop}(h:P->G)(k:P):G:=h k
theorem bLt {B C:Option Addr}{ca m cb q cc:Nat}{a b c:List ByteArray}(hn:n<=100000)(hm:m<=100000)(hq:q<=100000)
  (ha:Rd w w.heap.size 1 A n ca (a.map .string)) (hb:Rd w w.heap.size 1 B m cb (b.map .string)) (hc:Rd w w.heap.size 1 C q cc (c.map .string)) :
  Calls prog 86 #[.slice A n ca,.slice B m cb,.slice C q cc] w (ChunksIs (chunksF a b c) w):=by
 have p8:a.length=n:=by have:=ha.len;rw[az] at this;omega
 have qa:b.length=m:=by have:=hb.len;rw[az] at this;omega
 have qc:c.length=q:=by have:=hc.len;rw[az] at this;omega
 subst p8 qa qc;have K1:=aNe hn hm ha hb;go_enter Tryz.func86,Tryz.ntmps86;go_wp2_with fail;refine K1.mono ?_;rintro e w1 ⟨vx,rfl,ox,I⟩;have K2:=aNe (w:=w1) hn hq (ha.to I I.size) (hc.to I I.size);clear K1;go_wp2_with fail;refine K2.mono ?_;rintro e w2 ⟨vy,rfl,oy,D⟩;have ow:=aAf ox D;rw[aWq] at ow oy;obtain ⟨X,cx,rfl,pr⟩:=aAd ow;obtain ⟨Y,cy,rfl,pt⟩:=aAd oy;have nr:=I.trans (D.mono I.size);have HX:=hid (Rd.of_own ow pr);have HY:=hid (Rd.of_own oy pt);have HB:=hid nr;have HA:=hid (ha.to nr nr.size);have nR:=hid (hb.to nr nr.size);have HC:=hid (hc.to nr nr.size);have ph:=hid (LK.start (Below.refl w2.heap.size w2));have pi:=hid (OfAt.start a b c);clear K2 ox oy ow I D nr ha hb hc pr pt;go_wp2;go_loopw[9,10,11,12,13] (fun lv bv ov tv iv wr=>∃(i b0 o t:Nat) (L:List KV),bv=.int .i64 b0/\ov=.int .i64 o/\tv=.int .i64 t/\iv=.int .i64 i/\Hid (OfAt a b c i b0 o t L)/\Hid (LK w2 wr lv L)) (fun _ _ _ _ iv _=>a.length-(intOf iv).toNat)
 case atStart=>exact ⟨0,0,0,0,[],rfl,rfl,rfl,rfl,pi,ph⟩
 clear ph pi;obtain ⟨i,b0,o,t,L,rfl,rfl,rfl,rfl,nB,HL⟩:=hrel;have oz:=nB.out.hb;have qp:=nB.out.hi;by_cases oq:i<a.length
 ·obtain ⟨gx,fx,rfl,qu,x0⟩:=aKt HX.out HL.out.bel oq
  obtain ⟨gy,fy,rfl,qw,y0⟩:=aKt HY.out HL.out.bel oq;by_cases nq:(keptAt a b i).isSome=true/\(keptAt a c i).isSome=true
  ·obtain ⟨x,hx⟩:=b8.1 nq.1
   obtain ⟨y,hy⟩:=b8.1 nq.2;have qq:=(aCh hx).2;have qr:=(aCh hy).2;obtain ⟨qx,qy⟩:=nB.out.ge i x y (aa _) hx hy;rw[hx] at x0;rw[hy] at y0;have qd:=hid (And.intro hx hy)
   have oO:=hid (show ∀u,Below w2.heap.size w2 u->u.cell? ⟨gx,fx+i,none⟩=some (.int .i64 x)/\u.cell? ⟨gy,fy+i,none⟩=some (.int .i64 y) from fun u hu=>by
    obtain ⟨g1,o1,J,_,c1⟩:=aKt HX.out hu oq;obtain ⟨g2,o2,K,_,c2⟩:=aKt HY.out hu oq
    cases J;cases K
    rw[hx] at c1;rw[hy] at c2;exact ⟨c1,c2⟩)
   have pj:=hid (show ∀u,Below w2.heap.size w2 u->∀j,i+j<a.length->u.cell? ⟨gx,fx+(i+j),none⟩=some (.int .i64 (plI (keptAt a b (i+j))))/\u.cell? ⟨gy,fy+(i+j),none⟩=some (.int .i64 (plI (keptAt a c (i+j)))) from fun u hu j hj=>by
    obtain ⟨g1,o1,J,_,c1⟩:=aKt HX.out hu hj;obtain ⟨g2,o2,K,_,c2⟩:=aKt HY.out hu hj
    cases J;cases K
    exact ⟨c1,c2⟩)
   clear hx hy nq;simp only[plI] at x0 y0;go_wp2;obtain ⟨wo,rfl⟩:∃u,u=wr:=⟨_,rfl⟩;go_loopw[14] (fun nv wv=>∃j:Nat,1<=j/\nv=.int .i64 j/\i+j<=a.length/\Hid (RunTo a b c i x y j)/\Hid (Below wo.heap.size wo wv)) (fun nv _=>a.length+1-(intOf nv).toNat)
   case atStart=>exact ⟨1,aa _,rfl,ω,hid (fun d hd=>by rw[show d=0 by omega];exact qd.out),hid (Below.refl _ _)⟩
   obtain ⟨j,qz,rfl,qA,nY,HV⟩:=hrel;have oA:=hid (HL.out.bel.trans (HV.out.mono HL.out.bel.size));have T2:((i:Int)+(j:Int)).toNat=i+j:=ω;obtain ⟨c0,k0⟩:=oO.out wr oA.out;by_cases hP:keptAt a b (i+j)=some (x+j)/\keptAt a c (i+j)=some (y+j)
   case pos=>
    have l1:i+j<a.length:=(aCh hP.1).1;obtain ⟨c1,k1⟩:=pj.out wr oA.out j l1;rw[hP.1] at c1;rw[hP.2] at k1
    have oP:=hid (show RunTo a b c i x y (j+1) from fun d hd=>by
     by_cases e:d=j
     ·subst e;exact hP
     exact nY.out d ω)
    have qf:=hid (HV.out.drew);clear hP;simp only[plI,nc] at c1 k1;go_wp2;refine aAe (fun w'=>w'=wr.drew) (qs 36) mixed κ rfl ?_;intro Tp M Q hT nk hM hQ;have m0:M ⟨gx,fx+i,none⟩=some (.int .i64 x):=hM _ _ fun w' hw=>(by subst hw;exact c0);have m1:M ⟨gy,fy+i,none⟩=some (.int .i64 y):=hM _ _ fun w' hw=>(by subst hw;exact k0);have m2:M ⟨gx,fx+(i+j),none⟩=some (.int .i64 ((x:Int)+j)):=hM _ _ fun w' hw=>(by subst hw;exact c1);have m3:M ⟨gy,fy+(i+j),none⟩=some (.int .i64 ((y:Int)+j)):=hM _ _ fun w' hw=>(by subst hw;exact k1);clear hM;have d0:decide ((i:Int)+(j:Int)<(a.length:Int))=true:=aq ω;have d1:decide ((x:Int)+(j:Int)=(x:Int)+(j:Int))=true:=aq rfl;have d2:decide ((y:Int)+(j:Int)=(y:Int)+(j:Int))=true:=aq rfl;simp only[qcmp];simp (maxSteps:=9^7) only[↓qpre,aAb,aAg,aAc,d0,T2,m0,m1,m2,m3];(repeat refine And.intro (by first|omega|(unfold inI64;omega)) ?_);refine hQ _ _ ?_;clear hQ hT nk m0 m1 m2 m3 d0 d1 d2 c0 c1 k0 k1;go_wp2;go_roundw
    case rel=>exact ⟨j+1,ω,by go_num,ω,oP,qf⟩
    simp[intOf];omega
   obtain ⟨oN,nW,nX,ql,qB,qC⟩:=nB.out.run ω nY.out hP;have oK:=hid oN;clear oN;have v:=hid ((HL.out.below HV.out).below (show Below wr.heap.size wr wr.drew from (Below.refl _ _).drew));have HP:=hid hP;clear hP;apply share4 (F:=(fun (cD:Code) (qD:(Act->World->Prop)->Exit->Act->World->Prop) (hD:(Act->World->Prop)->Prop)=>∀(pu pw pz pA pB pC pD pE pF pG pH pI pJ pK pL pM pO pP pQ pR pS pT pU pV pW pX pY pZ p6 p7:Value) (wd:World),Hid (LK w2 wd u9 L)->wd.cell? ⟨gx,fx+i,none⟩=some (.int .i64 x)->wd.cell? ⟨gy,fy+i,none⟩=some (.int .i64 y)->∀KD:Act->World->Prop,hD KD->Code.wp prog cD (qD KD) ⟨#[Value.slice A a.length ca,Value.slice B b.length cb,Value.slice C c.length cc,undef,undef,undef,Value.slice none 0 0,Value.slice (some { block:=gx,off:=fx }) a.length cx,Value.slice (some { block:=gy,off:=fy }) a.length cy,u9,Value.int IntKind.i64 (b0:Int),Value.int IntKind.i64 (o:Int),Value.int IntKind.i64 (t:Int),Value.int IntKind.i64 (i:Int),Value.int IntKind.i64 (j:Int),u15,u16,u17,undef,undef,Value.slice A a.length ca,Value.slice B b.length cb,Value.slice (some { block:=gx,off:=fx }) a.length cx,Value.slice A a.length ca,Value.slice C c.length cc,Value.slice (some { block:=gy,off:=fy }) a.length cy,Value.int IntKind.i64 (i:Int),Value.slice A a.length ca,Value.int IntKind.i64 (a.length:Int),Value.bool true,u30,u31,Value.slice (some { block:=gx,off:=fx }) a.length cx,Value.int IntKind.i64 (i:Int),Value.pointer (some { block:=gx,off:=fx+i }),Value.int IntKind.i64 (x:Int),Value.bool (decide ((x:Int)<0)),Value.bool (decide ((x:Int)<0)),Value.slice (some { block:=gy,off:=fy }) a.length cy,Value.int IntKind.i64 (i:Int),Value.pointer (some { block:=gy,off:=fy+i }),Value.int IntKind.i64 (y:Int),Value.bool (decide ((y:Int)<0)),Value.bool (decide ((x:Int)<0) || decide ((y:Int)<0)),Value.int IntKind.i64 (i:Int),Value.int IntKind.i64 (j:Int),Value.int IntKind.i64 ((i:Int)+(j:Int)),Value.slice A a.length ca,Value.int IntKind.i64 (a.length:Int),pu,pw,pz,pA,pB,pC,pD,pE,pF,pG,pH,pI,pJ,pK,pL,pM,pO,pP,pQ,pR,pS,pT,pU,pV,pW,pX,pY,pZ,p6,p7,Value.bool false,u80,u81,u82,u83,u84,u85,u86,u87,u88,u89,u90,u91,u92,u93,u94,u95,u96,u97,u98,u99,u100,u101,u102,u103,u104,u105,u106,u107,u108,u109,u110,u111,u112,u113,u114,u115,u116,u117,u118,u119,u120,u121,u122,u123,u124,u125,u126,u127,u128,u129,u130,u131,u132,u133,u134,u135,u136,u137,u138,u139,u140,u141,u142,u143,undef,undef,undef,undef,undef,undef,undef,undef,undef,undef,undef,undef,undef,undef,undef,undef,undef,undef,undef],[]⟩ wd))
   case' h=>
    intro ns;have nS:=hid ns;clear ns;rcases bo (i+j) a.length with hl | hl
    case' inl=>
     obtain ⟨c1,k1⟩:=pj.out wr oA.out j hl;have d0:decide ((i:Int)+(j:Int)<(a.length:Int))=true:=aq ω;by_cases ou:keptAt a b (i+j)=some (x+j)
     case' pos=>
      have pm:keptAt a c (i+j)≠some (y+j):=fun e=>HP.out ⟨ou,e⟩;rw[ou] at c1;simp only[plI,nc] at c1;have d1:decide ((x:Int)+(j:Int)=(x:Int)+(j:Int))=true:=aq rfl;have d2:decide (plI (keptAt a c (i+j))=(y:Int)+(j:Int))=false:=ak fun e=>pm (aZs.1 (by rw[e];push_cast;rfl));clear ou pm;generalize plI (keptAt a c (i+j))=py at k1 d2;go_wp2;refine aAe (fun w'=>w'=wr.drew) (qs 36) mixed κ rfl ?_;intro Tp M Q hT nk hM hQ;have m0:M ⟨gx,fx+i,none⟩=some (.int .i64 x):=hM _ _ fun w' hw=>(by subst hw;exact c0);have m1:M ⟨gy,fy+i,none⟩=some (.int .i64 y):=hM _ _ fun w' hw=>(by subst hw;exact k0);have m2:M ⟨gx,fx+(i+j),none⟩=some (.int .i64 ((x:Int)+j)):=hM _ _ fun w' hw=>(by subst hw;exact c1);have m3:M ⟨gy,fy+(i+j),none⟩=some (.int .i64 py):=hM _ _ fun w' hw=>(by subst hw;exact k1);clear hM;simp only[qcmp];simp (maxSteps:=9^7) only[↓qpre,aAb,aAg,aAc,d0,T2,m0,m1,m2,m3,d1,d2];(repeat refine And.intro (by first|omega|(unfold inI64;omega)) ?_);refine hQ _ _ ?_;clear hQ hT nk m0 m1 m2 m3 d0 d1 d2 c1 k1;clear Tp M Q
     case' neg=>
      have d1:decide (plI (keptAt a b (i+j))=(x:Int)+(j:Int))=false:=ak fun e=>ou (aZs.1 (by rw[e];push_cast;rfl));clear ou k1;generalize plI (keptAt a b (i+j))=px at c1 d1;go_wp2;refine aAe (fun w'=>w'=wr.drew) (qs 36) mixed κ rfl ?_;intro Tp M Q hT nk hM hQ;have m0:M ⟨gx,fx+i,none⟩=some (.int .i64 x):=hM _ _ fun w' hw=>(by subst hw;exact c0);have m2:M ⟨gx,fx+(i+j),none⟩=some (.int .i64 px):=hM _ _ fun w' hw=>(by subst hw;exact c1);clear hM;simp only[qcmp];simp (maxSteps:=9^7) only[↓qpre,aAb,aAg,aAc,d0,T2,m0,m2,d1];(repeat refine And.intro (by first|omega|(unfold inI64;omega)) ?_);refine hQ _ _ ?_;clear hQ hT nk m0 m2 d0 d1 c1;clear Tp M Q
    case' inr=>
     have d0:decide ((i:Int)+(j:Int)<(a.length:Int))=false:=ak ω;go_wp2;refine aAe (fun w'=>w'=wr.drew) (qs 36) mixed κ rfl ?_;intro Tp M Q hT nk hM hQ;clear hM;simp only[qcmp];simp (maxSteps:=9^7) only[↓qpre,aAb,aAg,aAc,d0];(repeat refine And.intro (by first|omega|(unfold inI64;omega)) ?_);refine hQ _ _ ?_;clear hQ hT nk d0;clear Tp M Q
    all_goals
     clear hl;replace c0:wr.drew.cell? ⟨gx,fx+i,none⟩=some (.int .i64 x):=c0;replace k0:wr.drew.cell? ⟨gy,fy+i,none⟩=some (.int .i64 y):=k0;go_wp2;rename_i Kx qm;exact nS.out _ _ _ _ _ _ _ _ _ _ _ _ _ _ _ _ _ _ _ _ _ _ _ _ _ _ _ _ _ _ wr.drew v c0 k0 Kx qm
   case' k=>
    clear v HV nY oA T2 HP;intro pu pw pz pA pB pC pD pE pF pG pH pI pJ pK pL pM pO pP pQ pR pS pT pU pV pW pX pY pZ p6 p7 wd v c0 k0 KD qE;have qg:=HA.out.cap;have qh:=nR.out.cap;have qi:=HC.out.cap;have oQ:gx<wd.heap.size/\gy<wd.heap.size:=(by have:=v.out.bel.size;omega);obtain ⟨N,q1,_,l1⟩:=Rd.cutS (L:=a) HA.out oz (show i<=a.length by omega);obtain ⟨R,q2,_,l2⟩:=Rd.cutS (L:=b) nR.out nW (show x<=b.length by omega);obtain ⟨A3,q3,_,l3⟩:=Rd.cutS (L:=c) HC.out nX (show y<=c.length by omega)
    have KB:=hid (fun (u:World) (hu:Below wd.heap.size wd u)=>aLb (ca:=ca-b0) (cb:=cb-o) (cc:=cc-t) (w:=u) ω ω ω
     (aOk (HA.out.to (v.out.bel.trans (hu.mono v.out.bel.size)) (v.out.bel.trans (hu.mono v.out.bel.size)).size) oz ω q1)
     (aOk (nR.out.to (v.out.bel.trans (hu.mono v.out.bel.size)) (v.out.bel.trans (hu.mono v.out.bel.size)).size) nW ω q2)
     (aOk (HC.out.to (v.out.bel.trans (hu.mono v.out.bel.size)) (v.out.bel.trans (hu.mono v.out.bel.size)).size) nX ω q3))
    have nu:=hid (fun b hb=>v.out.obs_lt b hb);generalize sliceF a b0 i=f at *;generalize sliceF b o x=r at *;generalize sliceF c t y=s at *
    try go_wp2
    refine aAv (fun v'=>Below wd.heap.size wd v') (.q 0 (.q 1 (.q 2 (.q 3 (.q 4 (.q 5 (.q 6 (.q 7 (.q 8 (.q 9 (.q 10 (.q 11 (.q 12 (.q 13 (.q 14 (.q 15 (.q 16 (.q 17 (.two 18 (.q 19 (.q 20 (.q 21 (.one 22 (.one 23 (.q 24 .leaf)))))) 22 (.one 18 (.q 19 (.q 20 (.q 21 (.one 23 (.q 24 .leaf))))))))))))))))))))))))) mixed κ (Below.refl _ _).drew ?_;intro Tp M Q hT nk hM hQ;have m0:M ⟨gx,fx+i,none⟩=some (.int .i64 x):=hM _ _ fun w' hw=>(hw.cell (p:=⟨gx,fx+i,none⟩) oQ.1).trans c0;have m1:M ⟨gy,fy+i,none⟩=some (.int .i64 y):=hM _ _ fun w' hw=>(hw.cell (p:=⟨gy,fy+i,none⟩) oQ.2).trans k0;clear hM;refine aCu ?_;intro O E;have t0:=E true 0;have t1:=E true 1;have t2:=E true 2;have t3:=E true 3;have t4:=E true 4;have t5:=E true 5;have t6:=E true 6;have t7:=E true 7;have t8:=E true 8;have t9:=E true 9;have nF:=E true 10;have nG:=E true 11;have nH:=E true 12;have oR:=E true 13;have oS:=E true 14;have nI:=E true 15;have oT:=E true 16;have oU:=E true 17;have oB:=E true 19;have oC:=E true 20;have oD:=E true 21;have oE:=E true 24;have oF:=E false 18;have oG:=E false 22;have oH:=E false 23;simp only[qcmp] at t0 t1 t2 t3 t4 t5 t6 t7 t8 t9 nF nG nH oR oS nI oT oU oB oC oD oE oF oG oH;clear E;simp (maxSteps:=9^7) only[↓wt_q,↓aBe,t0,t1,t2,t3,t4,t5,t6,t7,t8,t9,nF,nG,nH,oR,oS,nI,oT,oU,oF,oG,↓qpre,aAb,aAg,aAc,m0,m1];simp only[sliced,bW];rw[q1,q2,q3,<-l1,<-l2,<-l3];have nw:(prog.info? 143).map (·.size)=some 4:=κ;have Z:Below wd.heap.size wd wd.drew:=(Below.refl _ _).drew;(repeat refine And.intro (by first|omega|(unfold inI64;omega)) ?_)
    apply share2
    case' h=>
     intro ns;have nS:=hid ns;clear ns;refine ⟨?_,?_⟩
     case' refine_1=>
      refine aAh κ (KB.out _ Z) rfl rfl ?_;rintro e u1 ⟨V,W,N,J,R,K,rfl,r0,r1,r2,f0,f1,f2,I⟩;have D:=Z.trans (I.mono Z.size);refine ⟨_,rfl,hT _ D,?_⟩;simp (maxSteps:=9^7) only[↓wt_q,↓aAn,oB,oC,oD,oG,↓qpre,aAb,aAc];have G:=D.alloc D.size (.cells #[.int .i64 0,.slice none 0 0,.slice none 0 0,.slice none 0 0] 143);refine aHe (cs:=#[.int .i64 0,.slice none 0 0,.slice none 0 0,.slice none 0 0]) aCo rfl ⟨hT _ G,?_⟩;simp (maxSteps:=9^7) only[↓aAn,oH,aAb,aAc];have hn:=au u1 (.cells #[.int .i64 0,.slice none 0 0,.slice none 0 0,.slice none 0 0] 143);have ff:=aAj (cs:=#[.int .i64 (if f.length+r.length+s.length=0 then 0 else kindF f r s),.slice V f.length W,.slice N r.length J,.slice R s.length K]) G D.size;have nC:=aAj (cs:=#[.int .i64 (if f.length+r.length+s.length=0 then 0 else kindF f r s),.slice V f.length W,.slice N r.length J,.slice R s.length K]) ((Below.refl u1.heap.size u1).alloc (aa _) (.cells #[.int .i64 0,.slice none 0 0,.slice none 0 0,.slice none 0 0] 143)) (aa _);have hs:=bB _ _ _ #[.int .i64 (if f.length+r.length+s.length=0 then 0 else kindF f r s),.slice V f.length W,.slice N r.length J,.slice R s.length K] _ _ hn;refine aAp (g:=u1.heap.size) (cells:=#[.int .i64 (if f.length+r.length+s.length=0 then 0 else kindF f r s),.slice V f.length W,.slice N r.length J,.slice R s.length K]) rfl rfl hn nw rfl (by simp[Value.oneCell']) ⟨hT _ ff,?_⟩;simp (maxSteps:=9^7) only[↓wt_q,↓aCm,oE,↓qpre,aAb,aAc];refine hQ _ _ ?_;have S:=hid (fun b hb=>ag (nu.out b hb) Z.size);have HK:=hid (And.intro ((aAr (l:=obs u9) r0 f0 S.out).keep (Keeps.of_below nC)) (And.intro ((aAr (l:=obs u9) r1 f1 S.out).keep (Keeps.of_below nC)) ((aAr (l:=obs u9) r2 f2 S.out).keep (Keeps.of_below nC))))
      have U:=hid (v.out.below ff);have HG:=hid hs;clear I D G ff nC hn hs r0 r1 r2 f0 f1 f2 S;generalize (u1.alloc (.cells #[.int .i64 0,.slice none 0 0,.slice none 0 0,.slice none 0 0] 143)).setRow u1.heap.size #[.int .i64 (if f.length+r.length+s.length=0 then 0 else kindF f r s),.slice V f.length W,.slice N r.length J,.slice R s.length K]=v5 at HK U HG ⊢;generalize u1.heap.size=nm at HG ⊢
     case' refine_2=>
      have G:=Z.alloc Z.size (.cells #[.int .i64 0,.slice none 0 0,.slice none 0 0,.slice none 0 0] 143);refine aHe (cs:=#[.int .i64 0,.slice none 0 0,.slice none 0 0,.slice none 0 0]) aCo rfl ⟨hT _ G,?_⟩;simp (maxSteps:=9^7) only[↓aAn,oF,aAb,aAc];have hn:=au wd.drew (.cells #[.int .i64 0,.slice none 0 0,.slice none 0 0,.slice none 0 0] 143);refine aAh κ (KB.out _ G) rfl rfl ?_;rintro e u1 ⟨V,W,N,J,R,K,rfl,r0,r1,r2,f0,f1,f2,I⟩;have D:=G.trans (I.mono G.size);refine ⟨_,rfl,hT _ D,?_⟩;simp (maxSteps:=9^7) only[↓wt_q,↓aAn,oB,oC,oD,oH,↓qpre,aAb,aAc];replace hn:=(I.block _ (aAa hn)).trans hn;have ff:=aAj (cs:=#[.int .i64 (if f.length+r.length+s.length=0 then 0 else kindF f r s),.slice V f.length W,.slice N r.length J,.slice R s.length K]) D Z.size;have hs:=bB _ _ _ #[.int .i64 (if f.length+r.length+s.length=0 then 0 else kindF f r s),.slice V f.length W,.slice N r.length J,.slice R s.length K] _ _ hn;refine aAp (g:=wd.drew.heap.size) (cells:=#[.int .i64 (if f.length+r.length+s.length=0 then 0 else kindF f r s),.slice V f.length W,.slice N r.length J,.slice R s.length K]) rfl rfl hn nw rfl (by simp[Value.oneCell']) ⟨hT _ ff,?_⟩;simp (maxSteps:=9^7) only[↓wt_q,↓aCm,oE,↓qpre,aAb,aAc];refine hQ _ _ ?_;have S:=hid (show ∀b∈wd.drew.heap.size::obs u9,b<(wd.drew.alloc (.cells #[.int .i64 0,.slice none 0 0,.slice none 0 0,.slice none 0 0] 143)).heap.size from all_cons (by simp) (fun b hb=>ag (nu.out b hb) G.size));have nD:Keeps (wd.drew.heap.size::obs u9) u1 (u1.setRow wd.drew.heap.size #[.int .i64 (if f.length+r.length+s.length=0 then 0 else kindF f r s),.slice V f.length W,.slice N r.length J,.slice R s.length K]):=⟨by simp[World.setRow],fun p _ hl=>cw (dA _ _ _ _ (fun e=>hl (by simp[e])))⟩
      have HK:=hid (And.intro (((aAr (l:=wd.drew.heap.size::obs u9) r0 f0 S.out).keep nD).less (m:=obs u9) (fun b hb=>.inl (am _ hb))) (And.intro (((aAr (l:=wd.drew.heap.size::obs u9) r1 f1 S.out).keep nD).less (m:=obs u9) (fun b hb=>.inl (am _ hb))) (((aAr (l:=wd.drew.heap.size::obs u9) r2 f2 S.out).keep nD).less (m:=obs u9) (fun b hb=>.inl (am _ hb)))));have U:=hid (v.out.below ff);have HG:=hid hs;clear I D G ff hn hs r0 r1 r2 f0 f1 f2 S nD;generalize u1.setRow wd.drew.heap.size #[.int .i64 (if f.length+r.length+s.length=0 then 0 else kindF f r s),.slice V f.length W,.slice N r.length J,.slice R s.length K]=v5 at HK U HG ⊢;generalize wd.drew.heap.size=nm at HG ⊢
     all_goals
      revert HG;revert U;revert HK;revert nm;revert v5;revert K;revert R;revert J;revert N;revert W;revert V;exact nS.out
    case' k=>intro V W N J R K v5 nm HK U HG
    all_goals
     as_aux_lemma=>
      clear hQ hT nk m0 m1 t0 t1 t2 t3 t4 t5 t6 t7 t8 t9 nF nG nH oR oS nI oT oU oB oC oD oE oF oG oH Z nw
      clear Tp M Q O
      have qj:=fun (a b c d:Value) (u:World)=>T.run_lits4 (P:=prog) aDi a b c d u
      have nJ:∀(k:Int) (x y z:Option Addr) (n1 n2 n3 d1 d2 d3:Nat),∀u∈[Value.int .i64 k,.slice x n1 d1,.slice y n2 d2,.slice z n3 d3],u.oneCell'=true:=by
       intro k x y z n1 n2 n3 d1 d2 d3 u hu;simp at hu;rcases hu with rfl | rfl | rfl | rfl<;>rfl
      clear oQ q1 q2 q3 l1 l2 l3 KB nu c0 k0
      have qk:=nB.out.len
      have oV:(sliceF a i (i+j)).length=j:=by unfold sliceF;rw[aN,aE];omega
      have oL:=hid (show ∀u,Below w2.heap.size w2 u->Rd u u.heap.size 1 (A.map (·.add i)) (i+j-i) (ca-i) ((sliceF a i (i+j)).map .string) from fun u hu=>by
       have h:=aOk (HA.out.to hu hu.size) (show i<=i+j by omega) ql (A':=A.map (·.add i)) (ah ω);rw[show i+j-i=j by omega];rw[oV] at h;exact h)
      have pn:=hid oV
      clear oV
      generalize sliceF a i (i+j)=RR at *
      by_cases hz:f.length+r.length+s.length=0
      case pos=>
       have nN:=hid (show betweenF f r s=[] from ao hz);simp only[aq hz,jN];clear HG HK;have nE:=U;have nO:=hid (fun (u:World) (hu:Below v5.heap.size v5 u)=>oL.out u (nE.out.bel.trans (hu.mono nE.out.bel.size)))
       go_wp2_with first
        | (at_builtin;refine aAl rfl _ (.tmp 114) 135 rfl aCq (base:=v5.heap.size) (n:=0) (xs:=[]) rfl rfl (aA _ _ _ _) (nO.out v5 (Below.refl _ _)) (aAt _) (by unfold maxLen;omega) ω (aa _) ?_;intro b1 u1 o1 g1 pa;clear pa;rw[aO,aT,show i+j-i=j by omega] at o1;have O1:=hid o1;have U1:=hid ((Below.refl v5.heap.size v5).grown g1 (aa _) (fun g hg=>by cases hg));clear o1 g1;obtain ⟨B1,d1,rfl,nQ⟩:=aAd O1.out)
        | (at_builtin;refine aAl rfl _ (.tmp 118) 135 rfl aCq (base:=v5.heap.size) (n:=0) (xs:=[]) rfl rfl (aA _ _ _ _) (Rd.of_own O1.out nQ) (aAt _) (by unfold maxLen;omega) ω U1.out.size ?_;intro b2 u2 o2 g2 pc;clear pc;rw[aO,aT] at o2;have O2:=hid o2;have G2:=hid ((Below.refl u1.heap.size u1).grown g2 (aa _) (fun g hg=>by cases hg));have nT:=hid (aAf O1.out G2.out);have U2:=hid (U1.out.trans (G2.out.mono U1.out.size));clear o2 g2;obtain ⟨B2,d2,rfl,pd⟩:=aAd O2.out)
        | (at_builtin;refine aAl rfl _ (.tmp 120) 135 rfl aCq (base:=v5.heap.size) (n:=0) (xs:=[]) rfl rfl (aA _ _ _ _) (Rd.of_own nT.out nQ) (aAt _) (by unfold maxLen;omega) ω U2.out.size ?_;intro b3 u3 o3 g3 pe;clear pe;rw[aO,aT] at o3;have O3:=hid o3;have G3:=hid ((Below.refl u2.heap.size u2).grown g3 (aa _) (fun g hg=>by cases hg));have oW:=hid (aAf nT.out G3.out);have oX:=hid (aAf O2.out G3.out);have U3:=hid (U2.out.trans (G3.out.mono U2.out.size));clear o3 g3;obtain ⟨B3,d3,rfl,pg⟩:=aAd O3.out;have oY:=hid (aVf pn.out nE.out U3.out oW.out nQ oX.out pd O3.out pg))
        | (at_builtin;obtain ⟨H7,nz,nL,nA,nM,k7⟩:=oY.out;refine aAl rfl (.tmp 116) (.tmp 123) 133 rfl aDi (base:=w2.heap.size) rfl rfl nz nM (nJ _ _ _ _ _ _ _ _ _ _) (by unfold maxLen;omega) ω nA.size ?_;intro v9 w9 nZ n5 n7;have nP:=hid (LK.push nz nL nA k7 nZ n5 n7);clear nZ n5 n7 nz nL nA nM k7)
       obtain ⟨c0,k0⟩:=oO.out w9 nP.out.bel;refine aAe (fun u=>u=w9.drew) (qs 18) mixed κ rfl ?_;intro Tp M Q hT nk hM hQ;have m0:M ⟨gx,fx+i,none⟩=some (.int .i64 x):=hM _ _ fun w' hw=>(by subst hw;exact c0);have m1:M ⟨gy,fy+i,none⟩=some (.int .i64 y):=hM _ _ fun w' hw=>(by subst hw;exact k0);clear hM;simp only[qcmp];simp (maxSteps:=9^7) only[↓qpre,aAb,aAg,aAc,m0,m1];(repeat refine And.intro (by first|omega|(unfold inI64;omega)) ?_);refine hQ _ _ ?_
       have oZ:=hid (show LK w2 w9.drew v9 (L++betweenF f r s++[⟨1,RR,RR,RR⟩]) by
        rw[nN.out,aR];exact nP.out.below (Below.refl _ _).drew)
       clear hQ hT nk m0 m1 c0 k0 nP;clear Tp M Q;go_wp2;go_roundw
       case rel=>exact ⟨i+j,i+j,x+j,y+j,_,by go_num,by go_num,by go_num,by go_num,oK,oZ⟩
       simp[intOf];omega
      have nN:=hid (show betweenF f r s=[⟨kindF f r s,f,r,s⟩] from ah hz)
      simp only[ak hz,iC]
      have qo:(L++[(⟨kindF f r s,f,r,s⟩:KV)]).length<=200001:=by rw[ae,bf];omega
      have y0:v5.cell? ⟨nm,0,none⟩=some (.int .i64 (kindF f r s)):=by rw[ab HG.out];simp only[ah hz];rfl
      have y1:v5.cell? ⟨nm,1,none⟩=some (.slice V f.length W):=by rw[ab HG.out];rfl
      have y2:v5.cell? ⟨nm,2,none⟩=some (.slice N r.length J):=by rw[ab HG.out];rfl
      have y3:v5.cell? ⟨nm,3,none⟩=some (.slice R s.length K):=by rw[ab HG.out];rfl
      obtain ⟨H,n8,od⟩:=U.out.ex
      have nj:Below v5.heap.size v5 (v5.alloc (.cells #[.int .i64 (kindF f r s),.slice V f.length W,.slice N r.length J,.slice R s.length K] 143)):=(Below.refl _ _).alloc (aa _) _
      have nK:=hid (aAf n8 nj)
      have o6:=hid (od.keep (Keeps.of_below nj))
      have nU:=hid (aHh v5 (.int .i64 (kindF f r s)) (.slice V f.length W) (.slice N r.length J) (.slice R s.length K))
      have o8:=hid (show KIn (v5.alloc (.cells #[.int .i64 (kindF f r s),.slice V f.length W,.slice N r.length J,.slice R s.length K] 143)) (obs u9) ⟨kindF f r s,f,r,s⟩ [.int .i64 (kindF f r s),.slice V f.length W,.slice N r.length J,.slice R s.length K] from
       ⟨V,W,N,J,R,K,rfl,HK.out.1.keep (Keeps.of_below nj),HK.out.2.1.keep (Keeps.of_below nj),HK.out.2.2.keep (Keeps.of_below nj)⟩)
      have nV:=hid (U.out.bel.trans (nj.mono U.out.bel.size))
      clear nj n8 od
      go_wp2_with first
       | (at_builtin;refine aAl rfl (.tmp 105) (.tmp 107) 133 rfl aDi (base:=w2.heap.size) rfl rfl nK.out nU.out (nJ _ _ _ _ _ _ _ _ _ _) (by unfold maxLen;omega) ω nV.out.size ?_;intro v7 w7 oe oh ol;have nE:=hid (LK.push nK.out o6.out nV.out o8.out oe oh ol);have nO:=hid (fun (u:World) (hu:Below w7.heap.size w7 u)=>oL.out u (nE.out.bel.trans (hu.mono nE.out.bel.size)));clear oe oh ol)
       | (at_builtin;refine aAl rfl _ (.tmp 114) 135 rfl aCq (base:=w7.heap.size) (n:=0) (xs:=[]) rfl rfl (aA _ _ _ _) (nO.out w7 (Below.refl _ _)) (aAt _) (by unfold maxLen;omega) ω (aa _) ?_;intro b1 u1 o1 g1 pa;clear pa;rw[aO,aT,show i+j-i=j by omega] at o1;have O1:=hid o1;have U1:=hid ((Below.refl w7.heap.size w7).grown g1 (aa _) (fun g hg=>by cases hg));clear o1 g1;obtain ⟨B1,d1,rfl,nQ⟩:=aAd O1.out)
       | (at_builtin;refine aAl rfl _ (.tmp 118) 135 rfl aCq (base:=w7.heap.size) (n:=0) (xs:=[]) rfl rfl (aA _ _ _ _) (Rd.of_own O1.out nQ) (aAt _) (by unfold maxLen;omega) ω U1.out.size ?_;intro b2 u2 o2 g2 pc;clear pc;rw[aO,aT] at o2;have O2:=hid o2;have G2:=hid ((Below.refl u1.heap.size u1).grown g2 (aa _) (fun g hg=>by cases hg));have nT:=hid (aAf O1.out G2.out);have U2:=hid (U1.out.trans (G2.out.mono U1.out.size));clear o2 g2;obtain ⟨B2,d2,rfl,pd⟩:=aAd O2.out)
       | (at_builtin;refine aAl rfl _ (.tmp 120) 135 rfl aCq (base:=w7.heap.size) (n:=0) (xs:=[]) rfl rfl (aA _ _ _ _) (Rd.of_own nT.out nQ) (aAt _) (by unfold maxLen;omega) ω U2.out.size ?_;intro b3 u3 o3 g3 pe;clear pe;rw[aO,aT] at o3;have O3:=hid o3;have G3:=hid ((Below.refl u2.heap.size u2).grown g3 (aa _) (fun g hg=>by cases hg));have oW:=hid (aAf nT.out G3.out);have oX:=hid (aAf O2.out G3.out);have U3:=hid (U2.out.trans (G3.out.mono U2.out.size));clear o3 g3;obtain ⟨B3,d3,rfl,pg⟩:=aAd O3.out;have oY:=hid (aVf pn.out nE.out U3.out oW.out nQ oX.out pd O3.out pg))
       | (at_builtin;obtain ⟨H7,nz,nL,nA,nM,k7⟩:=oY.out;refine aAl rfl (.tmp 116) (.tmp 123) 133 rfl aDi (base:=w2.heap.size) rfl rfl nz nM (nJ _ _ _ _ _ _ _ _ _ _) (by unfold maxLen;omega) ω nA.size ?_;intro v9 w9 nZ n5 n7;have nP:=hid (LK.push nz nL nA k7 nZ n5 n7);clear nZ n5 n7 nz nL nA nM k7)
      all_goals
       obtain ⟨c0,k0⟩:=oO.out w9 nP.out.bel
       refine aAe (fun u=>u=w9.drew) (qs 18) mixed κ rfl ?_
       intro Tp M Q hT nk hM hQ
       have m0:M ⟨gx,fx+i,none⟩=some (.int .i64 x):=hM _ _ fun w' hw=>by subst hw;exact c0
       have m1:M ⟨gy,fy+i,none⟩=some (.int .i64 y):=hM _ _ fun w' hw=>by subst hw;exact k0
       clear hM
       simp only[qcmp]
       simp (maxSteps:=9^7) only[↓qpre,aAb,aAg,aAc,m0,m1]
       (repeat refine And.intro (by first|omega|(unfold inI64;omega)) ?_)
       refine hQ _ _ ?_
       have oZ:=hid (show LK w2 w9.drew v9 (L++betweenF f r s++[⟨1,RR,RR,RR⟩]) by
        rw[nN.out];exact nP.out.below (Below.refl _ _).drew)
       clear hQ hT nk m0 m1 c0 k0 nP
       clear Tp M Q
       go_wp2
       go_roundw
       case rel=>exact ⟨i+j,i+j,x+j,y+j,_,by go_num,by go_num,by go_num,by go_num,oK,oZ⟩
       simp[intOf];omega
  have po:=hid (nB.out.skip oq nq)
  have pq:plI (keptAt a b i)<0\/plI (keptAt a c i)<0:=by
   rw[bHg,bHg]
   cases h1:keptAt a b i with
   | none=>exact .inl rfl
   | some x=>
    cases h2:keptAt a c i with
    | none=>exact .inr rfl
    | some y=>rw[h1,h2] at nq;simp at nq
  clear nq;generalize plI (keptAt a b i)=px at *;generalize plI (keptAt a c i)=py at *;by_cases qn:px<0
  ·clear y0
   go_wp2;go_roundw
   case rel=>exact ⟨i+1,b0,o,t,L,rfl,rfl,rfl,by go_num,po,HL⟩
   simp[intOf];omega
  have qt:py<0:=by rcases pq with h | h;exact absurd h qn;exact h
  go_wp2;go_roundw
  case rel=>exact ⟨i+1,b0,o,t,L,rfl,rfl,rfl,by go_num,po,HL⟩
  simp[intOf];omega
 obtain rfl:i=a.length:=ω;have oM:=hid (nB.out.last (aa _));have nW:=nB.out.ho;have nX:=nB.out.ht;have qk:=nB.out.len;have v:=HL;have qg:=HA.out.cap;have qh:=nR.out.cap;have qi:=HC.out.cap;obtain ⟨N,q1,_,l1⟩:=Rd.cutS (L:=a) HA.out oz (aa a.length);obtain ⟨R,q2,_,l2⟩:=Rd.cutS (L:=b) nR.out nW (aa b.length);obtain ⟨A3,q3,_,l3⟩:=Rd.cutS (L:=c) HC.out nX (aa c.length)
 have KB:=hid (fun (u:World) (hu:Below wr.heap.size wr u)=>aLb (ca:=ca-b0) (cb:=cb-o) (cc:=cc-t) (w:=u) ω ω ω
  (aOk (HA.out.to (v.out.bel.trans (hu.mono v.out.bel.size)) (v.out.bel.trans (hu.mono v.out.bel.size)).size) oz ω q1)
  (aOk (nR.out.to (v.out.bel.trans (hu.mono v.out.bel.size)) (v.out.bel.trans (hu.mono v.out.bel.size)).size) nW ω q2)
  (aOk (HC.out.to (v.out.bel.trans (hu.mono v.out.bel.size)) (v.out.bel.trans (hu.mono v.out.bel.size)).size) nX ω q3))
 have nu:=hid (fun b hb=>v.out.obs_lt b hb);generalize sliceF a b0 a.length=f at *;generalize sliceF b o b.length=r at *;generalize sliceF c t c.length=s at *;go_wp2;refine aAv (fun v'=>Below wr.heap.size wr v') (.q 0 (.q 1 (.q 2 (.q 3 (.q 4 (.q 5 (.q 6 (.q 7 (.q 8 (.two 9 (.q 10 (.q 11 (.q 12 (.one 13 (.one 14 (.q 15 .leaf)))))) 13 (.one 9 (.q 10 (.q 11 (.q 12 (.one 14 (.q 15 .leaf)))))))))))))))) mixed κ (Below.refl _ _).drew ?_;intro Tp M Q hT nk hM hQ;clear hM;refine aCu ?_;intro O E;have t0:=E true 0;have t1:=E true 1;have t2:=E true 2;have t3:=E true 3;have t4:=E true 4;have t5:=E true 5;have t6:=E true 6;have t7:=E true 7;have t8:=E true 8;have nF:=E true 10;have nG:=E true 11;have nH:=E true 12;have nI:=E true 15;have e9:=E false 9;have oI:=E false 13;have oJ:=E false 14;simp only[qcmp] at t0 t1 t2 t3 t4 t5 t6 t7 t8 nF nG nH nI e9 oI oJ;clear E;simp (maxSteps:=9^7) only[↓wt_q,↓aBe,t0,t1,t2,t3,t4,t5,t6,t7,t8,e9,oI,↓qpre,aAb,aAg,aAc];simp only[sliced,bW];rw[q1,q2,q3,<-l1,<-l2,<-l3];have nw:(prog.info? 143).map (·.size)=some 4:=κ;have Z:Below wr.heap.size wr wr.drew:=(Below.refl _ _).drew;(repeat refine And.intro (by first|omega|(unfold inI64;omega)) ?_);apply share2
 case' h=>
  intro ns;have nS:=hid ns;clear ns;refine ⟨?_,?_⟩
  case' refine_1=>
   refine aAh κ (KB.out _ Z) rfl rfl ?_;rintro e u1 ⟨V,W,N,J,R,K,rfl,r0,r1,r2,f0,f1,f2,I⟩;have D:=Z.trans (I.mono Z.size);refine ⟨_,rfl,hT _ D,?_⟩;simp (maxSteps:=9^7) only[↓wt_q,↓aAn,nF,nG,nH,oI,↓qpre,aAb,aAc];have G:=D.alloc D.size (.cells #[.int .i64 0,.slice none 0 0,.slice none 0 0,.slice none 0 0] 143);refine aHe (cs:=#[.int .i64 0,.slice none 0 0,.slice none 0 0,.slice none 0 0]) aCo rfl ⟨hT _ G,?_⟩;simp (maxSteps:=9^7) only[↓aAn,oJ,aAb,aAc];have hn:=au u1 (.cells #[.int .i64 0,.slice none 0 0,.slice none 0 0,.slice none 0 0] 143);have ff:=aAj (cs:=#[.int .i64 (if f.length+r.length+s.length=0 then 0 else kindF f r s),.slice V f.length W,.slice N r.length J,.slice R s.length K]) G D.size;have nC:=aAj (cs:=#[.int .i64 (if f.length+r.length+s.length=0 then 0 else kindF f r s),.slice V f.length W,.slice N r.length J,.slice R s.length K]) ((Below.refl u1.heap.size u1).alloc (aa _) (.cells #[.int .i64 0,.slice none 0 0,.slice none 0 0,.slice none 0 0] 143)) (aa _);have hs:=bB _ _ _ #[.int .i64 (if f.length+r.length+s.length=0 then 0 else kindF f r s),.slice V f.length W,.slice N r.length J,.slice R s.length K] _ _ hn;refine aAp (g:=u1.heap.size) (cells:=#[.int .i64 (if f.length+r.length+s.length=0 then 0 else kindF f r s),.slice V f.length W,.slice N r.length J,.slice R s.length K]) rfl rfl hn nw rfl (by simp[Value.oneCell']) ⟨hT _ ff,?_⟩;simp (maxSteps:=9^7) only[↓wt_q,↓aCm,nI,↓qpre,aAb,aAc];refine hQ _ _ ?_;have S:=hid (fun b hb=>ag (nu.out b hb) Z.size);have HK:=hid (And.intro ((aAr (l:=obs u9) r0 f0 S.out).keep (Keeps.of_below nC)) (And.intro ((aAr (l:=obs u9) r1 f1 S.out).keep (Keeps.of_below nC)) ((aAr (l:=obs u9) r2 f2 S.out).keep (Keeps.of_below nC))))
   have U:=hid (v.out.below ff);have HG:=hid hs;clear I D G ff nC hn hs r0 r1 r2 f0 f1 f2 S;generalize (u1.alloc (.cells #[.int .i64 0,.slice none 0 0,.slice none 0 0,.slice none 0 0] 143)).setRow u1.heap.size #[.int .i64 (if f.length+r.length+s.length=0 then 0 else kindF f r s),.slice V f.length W,.slice N r.length J,.slice R s.length K]=v5 at HK U HG ⊢;generalize u1.heap.size=nm at HG ⊢
  case' refine_2=>
   have G:=Z.alloc Z.size (.cells #[.int .i64 0,.slice none 0 0,.slice none 0 0,.slice none 0 0] 143);refine aHe (cs:=#[.int .i64 0,.slice none 0 0,.slice none 0 0,.slice none 0 0]) aCo rfl ⟨hT _ G,?_⟩;simp (maxSteps:=9^7) only[↓aAn,e9,aAb,aAc];have hn:=au wr.drew (.cells #[.int .i64 0,.slice none 0 0,.slice none 0 0,.slice none 0 0] 143);refine aAh κ (KB.out _ G) rfl rfl ?_;rintro e u1 ⟨V,W,N,J,R,K,rfl,r0,r1,r2,f0,f1,f2,I⟩;have D:=G.trans (I.mono G.size);refine ⟨_,rfl,hT _ D,?_⟩;simp (maxSteps:=9^7) only[↓wt_q,↓aAn,nF,nG,nH,oJ,↓qpre,aAb,aAc];replace hn:=(I.block _ (aAa hn)).trans hn;have ff:=aAj (cs:=#[.int .i64 (if f.length+r.length+s.length=0 then 0 else kindF f r s),.slice V f.length W,.slice N r.length J,.slice R s.length K]) D Z.size;have hs:=bB _ _ _ #[.int .i64 (if f.length+r.length+s.length=0 then 0 else kindF f r s),.slice V f.length W,.slice N r.length J,.slice R s.length K] _ _ hn;refine aAp (g:=wr.drew.heap.size) (cells:=#[.int .i64 (if f.length+r.length+s.length=0 then 0 else kindF f r s),.slice V f.length W,.slice N r.length J,.slice R s.length K]) rfl rfl hn nw rfl (by simp[Value.oneCell']) ⟨hT _ ff,?_⟩;simp (maxSteps:=9^7) only[↓wt_q,↓aCm,nI,↓qpre,aAb,aAc];refine hQ _ _ ?_;have S:=hid (show ∀b∈wr.drew.heap.size::obs u9,b<(wr.drew.alloc (.cells #[.int .i64 0,.slice none 0 0,.slice none 0 0,.slice none 0 0] 143)).heap.size from all_cons (by simp) (fun b hb=>ag (nu.out b hb) G.size));have nD:Keeps (wr.drew.heap.size::obs u9) u1 (u1.setRow wr.drew.heap.size #[.int .i64 (if f.length+r.length+s.length=0 then 0 else kindF f r s),.slice V f.length W,.slice N r.length J,.slice R s.length K]):=⟨by simp[World.setRow],fun p _ hl=>cw (dA _ _ _ _ (fun e=>hl (by simp[e])))⟩
   have HK:=hid (And.intro (((aAr (l:=wr.drew.heap.size::obs u9) r0 f0 S.out).keep nD).less (m:=obs u9) (fun b hb=>.inl (am _ hb))) (And.intro (((aAr (l:=wr.drew.heap.size::obs u9) r1 f1 S.out).keep nD).less (m:=obs u9) (fun b hb=>.inl (am _ hb))) (((aAr (l:=wr.drew.heap.size::obs u9) r2 f2 S.out).keep nD).less (m:=obs u9) (fun b hb=>.inl (am _ hb)))));have U:=hid (v.out.below ff);have HG:=hid hs;clear I D G ff hn hs r0 r1 r2 f0 f1 f2 S nD;generalize u1.setRow wr.drew.heap.size #[.int .i64 (if f.length+r.length+s.length=0 then 0 else kindF f r s),.slice V f.length W,.slice N r.length J,.slice R s.length K]=v5 at HK U HG ⊢;generalize wr.drew.heap.size=nm at HG ⊢
  all_goals
   revert HG;revert U;revert HK;revert nm;revert v5;revert K;revert R;revert J;revert N;revert W;revert V;exact nS.out
 case' k=>intro V W N J R K v5 nm HK U HG
 all_goals
  as_aux_lemma=>
   clear hQ hT nk t0 t1 t2 t3 t4 t5 t6 t7 t8 nF nG nH nI e9 oI oJ Z nw
   clear Tp M Q O
   have qj:=fun (a b c d:Value) (u:World)=>T.run_lits4 (P:=prog) aDi a b c d u
   have nJ:∀(k:Int) (x y z:Option Addr) (n1 n2 n3 d1 d2 d3:Nat),∀u∈[Value.int .i64 k,.slice x n1 d1,.slice y n2 d2,.slice z n3 d3],u.oneCell'=true:=by
    intro k x y z n1 n2 n3 d1 d2 d3 u hu;simp at hu;rcases hu with rfl | rfl | rfl | rfl<;>rfl
   clear q1 q2 q3 l1 l2 l3 KB nu
   by_cases hz:f.length+r.length+s.length=0
   case pos=>
    have nN:=hid (show chunksF a b c=L by rw[oM.out,show betweenF f r s=[] from ao hz,aR]);simp only[aq hz,jN];clear HG HK;go_wp2;go_ret;rw[nN.out];exact LK.done HB.out U.out
   have nN:=hid (show chunksF a b c=L++[⟨kindF f r s,f,r,s⟩] by rw[oM.out,show betweenF f r s=[⟨kindF f r s,f,r,s⟩] from ah hz])
   simp only[ak hz,iC]
   have y0:v5.cell? ⟨nm,0,none⟩=some (.int .i64 (kindF f r s)):=by rw[ab HG.out];simp only[ah hz];rfl
   have y1:v5.cell? ⟨nm,1,none⟩=some (.slice V f.length W):=by rw[ab HG.out];rfl
   have y2:v5.cell? ⟨nm,2,none⟩=some (.slice N r.length J):=by rw[ab HG.out];rfl
   have y3:v5.cell? ⟨nm,3,none⟩=some (.slice R s.length K):=by rw[ab HG.out];rfl
   obtain ⟨H,n8,od⟩:=U.out.ex
   have nj:Below v5.heap.size v5 (v5.alloc (.cells #[.int .i64 (kindF f r s),.slice V f.length W,.slice N r.length J,.slice R s.length K] 143)):=(Below.refl _ _).alloc (aa _) _
   have nK:=hid (aAf n8 nj)
   have o6:=hid (od.keep (Keeps.of_below nj))
   have nU:=hid (aHh v5 (.int .i64 (kindF f r s)) (.slice V f.length W) (.slice N r.length J) (.slice R s.length K))
   have o8:=hid (show KIn (v5.alloc (.cells #[.int .i64 (kindF f r s),.slice V f.length W,.slice N r.length J,.slice R s.length K] 143)) (obs u9) ⟨kindF f r s,f,r,s⟩ [.int .i64 (kindF f r s),.slice V f.length W,.slice N r.length J,.slice R s.length K] from
    ⟨V,W,N,J,R,K,rfl,HK.out.1.keep (Keeps.of_below nj),HK.out.2.1.keep (Keeps.of_below nj),HK.out.2.2.keep (Keeps.of_below nj)⟩)
   have nV:=hid (U.out.bel.trans (nj.mono U.out.bel.size))
   clear nj n8 od
   go_wp2_with (at_builtin;refine aAl rfl (.tmp 158) (.tmp 160) 133 rfl aDi (base:=w2.heap.size) rfl rfl nK.out nU.out (nJ _ _ _ _ _ _ _ _ _ _) (by unfold maxLen;omega) ω nV.out.size ?_;intro v7 w7 oe oh ol;have nE:=hid (LK.push nK.out o6.out nV.out o8.out oe oh ol);clear oe oh ol)
   all_goals
    go_ret
    rw[nN.out];exact LK.done HB.out nE.out
theorem RdK.cut1 {B l m:Nat}{u:KV}(h:RdK w B (some ⟨l,m,none⟩) c L)(n:L[k]? = some u):RdK w B (some ⟨l,m+k*4,none⟩) (c-k) [u]:=by
 obtain ⟨H,g,d⟩:=h.ex;obtain ⟨cs,i,r⟩:=d.get n;have p:=(aj.1 n).1;have a:=d.all4 cs (aC i);obtain ⟨b,o,e,s,t⟩:=g.at_ O;injection e with e;injection e with e1 e2;subst e1;subst e2;refine ⟨[cs],⟨by simp[a],by have:=g.cap;simp;omega,fun _=>⟨_,_,rfl,s,fun j v f=>?_⟩⟩,r,trivial⟩;rw[show ([cs]:List (List Value)).flatten=cs by simp] at f;have q:j<4:=by have:=(aj.1 f).1;omega
 rw[dI];exact t _ _ ((aRx d.all4 i q).trans f)
theorem aIr(s:ByteArray):(endT s).size<=s.size+1:=by
 rw[<-aBk,<-aBk];unfold endT;rw[aDb];unfold endedF;split<;>simp
theorem bBa {a b c:List ByteArray}{s:ByteArray}:ofB (clashTextF s.data.toList ⟨5,b,a,c⟩)=endT s++mO++endT (joinF a)++mB++endT (joinF b)++mT++endT (joinF c)++mE:=by
 rw[<-bGp];apply aCi;rw[aDb];simp only[bAu,endT,aDb,aCe];unfold clashD;rw[ah (by simp)];rfl
theorem bEb {s:ByteArray}{c:KV}(h:c.kind≠5):ofB (clashTextF s.data.toList c)=s++joinF (mergedF [c]):=by
 apply aCi;rw[aDb,bAu,aCe];unfold clashTextF;rw[ao h]
theorem aCk {b o t:ByteArray}(_hm:Lm w)(hb:b.size<=100000)(ho:o.size<=100000)(ht:t.size<=100000) :
  Calls prog 48 #[.string b,.string o,.string t] w fun e w'=>e=.returned (.tuple #[.string (merge3F b o t).1,.bool (merge3F b o t).2])/\Below w.heap.size w w':=by
 have F:=hid (few3 hb ho ht);have nR:=aBg b;have nS:=aBg o;have nT:=aBg t;have nz:=hid (aQj (linesF b) (linesF o) (linesF t));have x:=hid (show merge3F b o t=if cleanF (chunksF (linesF b) (linesF o) (linesF t))=true then (joinF (mergedF (chunksF (linesF b) (linesF o) (linesF t))),true) else (ofB ((chunksF (linesF b) (linesF o) (linesF t)).foldl clashTextF []),false) from rfl);generalize merge3F b o t=R3 at *;have K1:=aEw (s:=b) (w:=w) ω;go_enter Tryz.func48,Tryz.ntmps48;go_wp2_with fail;refine K1.mono ?_;rintro e w1 ⟨A1,c1,rfl,Y,A⟩;have K2:=aEw (s:=o) (w:=w1) ω;go_wp2_with fail;refine K2.mono ?_;rintro e w2 ⟨A2,c2,rfl,Z,r⟩;have K3:=aEw (s:=t) (w:=w2) ω;go_wp2_with fail;refine K3.mono ?_;rintro e w3 ⟨A3,c3,rfl,ff,h⟩;have K4:=bLt (w:=w3) ω ω ω ((Y.to r r.size).to h h.size) (Z.to h h.size) ff;have G:=hid ((A.trans (r.mono A.size)).trans (h.mono (aw A.size r.size)));clear K1 K2 K3 Y Z ff A r h;go_wp2_with fail;refine K4.mono ?_;rintro e w4 ⟨A4,c4,H4,rfl,nj,nk,nm⟩;have n:=hid (G.out.trans (nm.mono G.out.size));have HK:=hid (show RdK w4 w4.heap.size A4 c4 (chunksF (linesF b) (linesF o) (linesF t)) from ⟨H4,nj,nk⟩);clear K4 nj nk nm G;generalize chunksF (linesF b) (linesF o) (linesF t)=L at *;have nU:L.length<=300000:=by have:=nz.out;omega
 have K5:=bBc ω HK.out;go_wp2_with fail;refine K5.mono ?_;rintro e w5 ⟨rfl,rfl⟩;clear K5;by_cases m:cleanF L=true
 ·have I:=hid (x.out.trans (ao m))
  rw[m];have nV:=F.out.all;have T:=aOv ω ω HK.out;clear m x;go_wp2_with fail;refine T.mono ?_;rintro e B ⟨A6,c6,rfl,nL,j⟩;have p:=hid (n.out.trans (j.mono n.out.size));have K7:=aGg ω (by rw[<-aBk,aCe];omega) nL;clear T j;go_wp2_with fail;refine K7.mono ?_;rintro e w7 ⟨rfl,rfl⟩;clear K7;go_wp2;go_ret2;exact ⟨by rw[I.out];rfl,p.out⟩
 have I:=hid (x.out.trans (ah m));have C:cleanF L=false:=by simpa using m
 rw[C];clear m C x;have T:=bCg (w:=w5);go_wp2_with fail;refine T.mono ?_;rintro e B ⟨rfl,j⟩;clear T;have U:=hid (HK.out.to j);have p:=hid (n.out.trans (j.mono n.out.size));have K:Below B.heap.size B (B.alloc (.cells #[.string mO,.string mB,.string mT,.string mE] 140)):=(Below.refl _ _).alloc (aa _) _;have nA:=hid (au B (.cells #[.string mO,.string mB,.string mT,.string mE] 140));have nB:=hid (U.out.to K);have V:=hid (p.out.trans (K.mono p.out.size));have nC:=hid (show B.heap.size<(B.alloc (.cells #[.string mO,.string mB,.string mT,.string mE] 140)).heap.size by simp);clear j K HK n U p;go_wp2;generalize B.alloc (.cells #[.string mO,.string mB,.string mT,.string mE] 140)=W at *;generalize B.heap.size=mb at *;go_loopw[10,11] (fun s i wr=>∃k:Nat,k<=L.length/\i=.int .i64 k/\s=.string (ofB ((L.take k).foldl clashTextF []))/\Hid (Below W.heap.size W wr)) (fun _ i _=>L.length-(intOf i).toNat)
 case atStart=>exact ⟨0,al _,rfl,rfl,hid (Below.refl _ _)⟩
 obtain ⟨k,hk,rfl,rfl,a⟩:=hrel;have q:=F.out.fold k;by_cases nu:k<L.length
 ·obtain ⟨⟨v,g,d,f⟩,hc⟩:∃c,L[k]? = some c:=⟨_,ac nu⟩
  have N:=hid (nB.out.to a.out);obtain ⟨b0,o0,A0,c0,A1,c1,A2,c2,rfl,n7,q0,q1,q2,q3,r0,r1,r2⟩:=N.out.at_ hc;dsimp only at q0 q1 q2 q3 r0 r1 r2;have X:=F.out.each _ (aC hc);dsimp only at X;have O:=hid (show ofB ((L.take (k+1)).foldl clashTextF [])=ofB (clashTextF (ofB ((L.take k).foldl clashTextF [])).data.toList ⟨v,g,d,f⟩) by rw[aB,hc,aDb];simp);have nD:=hid (N.out.cut1 hc);have nQ:L.length<=c4:=by obtain ⟨H,h1,_⟩:=N.out.ex;exact h1.cap
  have nW:(ofB ((L.take k).foldl clashTextF [])).size<=320000:=by rw[aMs];exact q
  clear hc q;generalize ofB ((L.take k).foldl clashTextF [])=s at *;by_cases nw:v=5
  ·subst nw
   have P:=hid (O.out.trans bBa);obtain ⟨⟨nM,nN,nO⟩,n8,od,oe⟩:=X;have nX:(joinF g).size<=100000:=(by rw[<-aBk,aCe];exact nM);have nY:(joinF d).size<=100000:=(by rw[<-aBk,aCe];exact nN);have nZ:(joinF f).size<=100000:=(by rw[<-aBk,aCe];exact nO);have K1:=hid (aHr (s:=s) (w:=wr.drew) ω);have y:=hid (aGg (w:=wr.drew) ω ω (r1.to (show Below wr.heap.size wr wr.drew from (Below.refl _ _).drew) (aa _)));have nE:=hid (aGg (w:=wr.drew) ω ω (r0.to (show Below wr.heap.size wr wr.drew from (Below.refl _ _).drew) (aa _)));have nF:=hid (aGg (w:=wr.drew) ω ω (r2.to (show Below wr.heap.size wr wr.drew from (Below.refl _ _).drew) (aa _)));have nG:=hid (aHr (s:=joinF d) (w:=wr.drew) ω);have nH:=hid (aHr (s:=joinF g) (w:=wr.drew) ω);have nI:=hid (aHr (s:=joinF f) (w:=wr.drew) ω);have z0:=aIr s;have z1:=aIr (joinF d);have z2:=aIr (joinF g);have z3:=aIr (joinF f);have z:=hid ((a.out.block mb nC.out).trans nA.out);clear O r0 r1 r2;generalize endT s=R at *;generalize endT (joinF d)=S at *;generalize endT (joinF g)=E2 at *;generalize endT (joinF f)=E3 at *;generalize joinF d=J1 at *;generalize joinF g=J2 at *;generalize joinF f=J3 at *;have t0:(R++mO).size<=320020:=(by rw[cN,show mO.size=13 from rfl];omega);have t1:(R++mO++S).size<=420030:=(by rw[cN];omega);have t2:(R++mO++S++mB).size<=420050:=(by rw[cN,show mB.size=13 from rfl];omega);have t3:(R++mO++S++mB++E2).size<=520060:=(by rw[cN];omega);have t4:(R++mO++S++mB++E2++mT).size<=520080:=(by rw[cN,show mT.size=8 from rfl];omega);have t5:(R++mO++S++mB++E2++mT++E3).size<=620090:=by rw[cN];omega
   have t6:(R++mO++S++mB++E2++mT++E3++mE).size<=620110:=(by rw[cN,show mE.size=15 from rfl];omega);have s0:mO.size=13:=rfl;have s1:mB.size=13:=rfl;have s2:mT.size=8:=rfl;have s3:mE.size=15:=rfl;go_wp2;refine aAq (fun u=>u=wr.drew) [(true,0),(true,2),(true,3),(true,5),(true,6),(true,7),(true,8),(true,9),(true,13),(true,14),(true,16),(true,17),(true,18),(true,19),(true,20),(true,24),(true,25),(true,27),(true,28),(true,29),(true,30),(true,31),(true,35),(true,36),(false,1),(true,4),(false,10),(false,11),(true,12),(true,15),(false,21),(false,22),(true,23),(true,26),(false,32),(false,33),(true,34),(true,37),(true,38)] [] mixed κ rfl ?_;intro Tp M Q Q2 D nP E hQ nq;have m0:M ⟨mb,0,none⟩=some (.string mO):=E _ _ fun w' l=>(by subst l;rw[ab (w:=wr.drew) z.out];rfl);have m1:M ⟨mb,1,none⟩=some (.string mB):=E _ _ fun w' l=>(by subst l;rw[ab (w:=wr.drew) z.out];rfl);have m2:M ⟨mb,2,none⟩=some (.string mT):=E _ _ fun w' l=>(by subst l;rw[ab (w:=wr.drew) z.out];rfl);have m3:M ⟨mb,3,none⟩=some (.string mE):=E _ _ fun w' l=>(by subst l;rw[ab (w:=wr.drew) z.out];rfl);have m4:M ⟨b0,o0+k*4+1,none⟩=some (.slice A0 g.length c0):=E _ _ fun w' l=>(by subst l;exact q1);have m5:M ⟨b0,o0+k*4+2,none⟩=some (.slice A1 d.length c1):=E _ _ fun w' l=>(by subst l;exact q2);have m6:M ⟨b0,o0+k*4+3,none⟩=some (.slice A2 f.length c2):=E _ _ fun w' l=>(by subst l;exact q3);clear E;have T1:Int.toNat 1=1:=rfl;have T2:Int.toNat 2=2:=rfl;have T3:Int.toNat 3=3:=rfl;simp only[qcmp];simp (maxSteps:=9^7) only[↓qpre,aAb,aAg,aAc,T1,T2,T3,m0,m1,m2,m3,m4,m5,m6]
   clear m0 m1 m2 m3 m4 m5 m6;(repeat refine And.intro (by first|omega|(unfold inI64;omega)) ?_);refine aAh κ K1.out rfl rfl ?_;rintro e u ⟨rfl,rfl⟩;refine ⟨_,rfl,D _ rfl,?_⟩;simp (maxSteps:=9^7) only[↓qpre,aAb,aAc];(repeat refine And.intro (by first|omega|(unfold inI64;omega)) ?_);refine aAh κ y.out rfl rfl ?_;rintro e u ⟨rfl,rfl⟩;refine ⟨_,rfl,D _ rfl,?_⟩;simp (maxSteps:=9^7) only[aAb,aAc];(repeat refine And.intro (by first|omega|(unfold inI64;omega)) ?_);refine aAh κ nG.out rfl rfl ?_;rintro e u ⟨rfl,rfl⟩;refine ⟨_,rfl,D _ rfl,?_⟩;simp (maxSteps:=9^7) only[↓qpre,aAb,aAc];(repeat refine And.intro (by first|omega|(unfold inI64;omega)) ?_);refine aAh κ nE.out rfl rfl ?_;rintro e u ⟨rfl,rfl⟩;refine ⟨_,rfl,D _ rfl,?_⟩;simp (maxSteps:=9^7) only[aAb,aAc];(repeat refine And.intro (by first|omega|(unfold inI64;omega)) ?_);refine aAh κ nH.out rfl rfl ?_;rintro e u ⟨rfl,rfl⟩;refine ⟨_,rfl,D _ rfl,?_⟩;simp (maxSteps:=9^7) only[↓qpre,aAb,aAc];(repeat refine And.intro (by first|omega|(unfold inI64;omega)) ?_);refine aAh κ nF.out rfl rfl ?_;rintro e u ⟨rfl,rfl⟩;refine ⟨_,rfl,D _ rfl,?_⟩;simp (maxSteps:=9^7) only[aAb,aAc];(repeat refine And.intro (by first|omega|(unfold inI64;omega)) ?_);refine aAh κ nI.out rfl rfl ?_;rintro e u ⟨rfl,rfl⟩;refine ⟨_,rfl,D _ rfl,?_⟩;simp (maxSteps:=9^7) only[↓qpre,aAb,aAc];(repeat refine And.intro (by first|omega|(unfold inI64;omega)) ?_);refine hQ _ _ ?_;simp only[lates,List.map,qcmp];simp (maxSteps:=9^7) only[aAb];refine nq _ _ ?_;clear hQ nq D nP;clear Tp M Q Q2
   go_wp2;go_roundw
   case rel=>exact ⟨k+1,ω,by go_num,by rw[P.out],hid a.out.drew⟩
   simp[intOf];omega
  have P:=hid (O.out.trans (bEb (c:=⟨v,g,d,f⟩) nw))
  have nJ:(mergedF [(⟨v,g,d,f⟩:KV)]).length<=100000/\(catF (mergedF [(⟨v,g,d,f⟩:KV)])).length<=100000:=by
   rw[show mergedF [(⟨v,g,d,f⟩:KV)]=if v=3 then f else d by simp[mergedF]];split<;>exact ⟨ω,ω⟩
  have n5:(joinF (mergedF [(⟨v,g,d,f⟩:KV)])).size<=100000:=by rw[<-aBk,aCe];exact nJ.2
  have K9:=aOv (L:=[⟨v,g,d,f⟩]) (by simp) ω nD.out;generalize mergedF [(⟨v,g,d,f⟩:KV)]=Mc at *;simp only[bf] at K9;go_wp2_with fail;refine K9.mono ?_;rintro e w9 ⟨A9,c9,rfl,nr,ns⟩;have a:=hid (a.out.trans (ns.mono a.out.size));have y:=aGg ω ω nr;clear K9 ns;go_wp2_with fail;refine y.mono ?_;rintro e oh ⟨rfl,rfl⟩;clear y nr;generalize joinF Mc=J at *;have t0:(s++J).size<=420000:=by rw[cN];omega
  go_wp2;go_roundw
  case rel=>exact ⟨k+1,ω,by go_num,by rw[P.out],a⟩
  simp[intOf];omega
 obtain rfl:k=L.length:=ω;rw[ai (aa _)];have nK:=hid (V.out.trans (a.out.mono V.out.size));go_wp2;go_ret2;exact ⟨by rw[I.out];rfl,nK.out⟩
theorem MD.setBox {b:Nat}{v:Value}(h:MD Z w0 w mb A c cv m N)(g:w0.heap.size<=b)(i:mb≠b)(l:∀x o s,A=some ⟨x,o,s⟩->x≠b)(n:cv.ownBlock≠some b)(q:∀j a,Z j a->j≠b):MD Z w0 (w.setCell ⟨b,k,none⟩ v) mb A c cv m N:=
 ⟨(Below.heap_setCell w ⟨b,k,none⟩ v mb i).trans h.hs,aEa h.f1 fun x o a e f=>(Below.heap_setCell w ⟨b,k,none⟩ v x (l x o none e)).trans f,h.fa,aK h.c1 n _,h.lo,h.bel.setCell (p:=⟨b,k,none⟩) g _,h.few1,h.few2,
   fun j a d=>⟨(Below.heap_setCell w ⟨b,k,none⟩ v j (q j a d)).trans (h.oth j a d).1,(h.oth j a d).2⟩,fun x o s e=>by simpa using h.lt x o s e⟩
def oneD (m:List FV×List CL)(f x:FV):List FV×List CL:=if f=x then m else putD m x 3
theorem aQr {f x:FV}(h:MD Z w0 w mb A c cv m N)(o:N<=100000)(p:x.path.size<=1000000/\x.text.size<=1000000) :
  Calls prog 45 #[.pointer (some ⟨mb,0,none⟩),.agg #[.string f.path,.bool f.exec,.string f.text],.agg #[.string x.path,.bool x.exec,.string x.text]] w (PutD Z w0 mb (oneD m f x) (N+1)):=by
 have j:Below w.heap.size w (w.alloc (.cells #[.string f.path,.bool f.exec,.string f.text] 48)):=(Below.refl _ _).alloc (aa _) _;have b:=box2 w (.cells #[.string f.path,.bool f.exec,.string f.text] 48) (.cells #[.string x.path,.bool x.exec,.string x.text] 48)
 have i:((w.alloc (.cells #[.string f.path,.bool f.exec,.string f.text] 48)).alloc (.cells #[.string x.path,.bool x.exec,.string x.text] 48)).heap[w.heap.size]? = some (.cells #[.string f.path,.bool f.exec,.string f.text] 48 (0,0)):=
  (((Below.refl _ (w.alloc (.cells #[.string f.path,.bool f.exec,.string f.text] 48))).alloc (aa _) _).block w.heap.size (by simp)).trans (au _ _)
 have a:((w.alloc (.cells #[.string f.path,.bool f.exec,.string f.text] 48)).alloc (.cells #[.string x.path,.bool x.exec,.string x.text] 48)).heap[w.heap.size+1]? = some (.cells #[.string x.path,.bool x.exec,.string x.text] 48 (0,0)):=by
  have:=au (w.alloc (.cells #[.string f.path,.bool f.exec,.string f.text] 48)) (.cells #[.string x.path,.bool x.exec,.string x.text] 48);simpa using this
 have k:=hid (h.below b);have s:=bd _ _ 0 _ _ _ i;have t:=bd _ _ 1 _ _ _ i;have v:=bd _ _ 2 _ _ _ i;have y:=bd _ _ 0 _ _ _ a;have x1:=bd _ _ 1 _ _ _ a;have x2:=bd _ _ 2 _ _ _ a;have d:=fun u=>bAc f x u;have K:=aAw (f:=x) (kind:=3) k.out o p;clear h j b i a o p;go_enter Tryz.func45,Tryz.ntmps45;by_cases e:f=x
 ·have l:=hid (show oneD m f x=m from ao e)
  have g:(!decide (f=x))=false:=by simp[e]
  rw[g] at d;clear e g K;go_wp2;refine aI (aF rfl _ _ _) rfl ?_;exact ⟨rfl,_,_,_,by rw[l.out];exact k.out.more (dh N)⟩
 have l:=hid (show oneD m f x=putD m x 3 from ah e);have g:(!decide (f=x))=true:=by simp[e]
 rw[g] at d;clear e g;go_wp2_with fail;refine K.mono ?_;rintro e z ⟨rfl,A',B,r,n⟩;have q:=hid n;clear K n k;go_wp2;refine aI (aF rfl _ _ _) rfl ?_;exact ⟨rfl,_,_,_,by rw[l.out];exact q.out⟩
theorem aXe {f o t:FV}(hL:Lm w)(h:MD Z w0 w mb A c cv m N)(S:N<=100000)(hf:f.path.size<=20000/\f.text.size<=20000)(ho:o.path.size<=20000/\o.text.size<=20000)(ht:t.path.size<=20000/\t.text.size<=20000) :
  Calls prog 44 #[.pointer (some ⟨mb,0,none⟩),.agg #[.string f.path,.bool f.exec,.string f.text],.agg #[.string o.path,.bool o.exec,.string o.text],.agg #[.string t.path,.bool t.exec,.string t.text]] w (PutD Z w0 mb (bothD m f o t) (N+1)):=by
 obtain ⟨W1,ff⟩:∃W,W=w.alloc (.cells #[.string f.path,.bool f.exec,.string f.text] 48):=⟨_,rfl⟩;obtain ⟨W2,nj⟩:∃W,W=W1.alloc (.cells #[.string o.path,.bool o.exec,.string o.text] 48):=⟨_,rfl⟩;obtain ⟨W3,nk⟩:∃W,W=W2.alloc (.cells #[.string t.path,.bool t.exec,.string t.text] 48):=⟨_,rfl⟩;obtain ⟨W4,nm⟩:∃W,W=W3.alloc (.cells #[.string o.path,.bool o.exec,.string ⟨#[]⟩] 48):=⟨_,rfl⟩;have b1:Below w.heap.size w W1:=by rw[ff];exact (Below.refl _ _).alloc (aa _) _
 have b2:Below W1.heap.size W1 W2:=by rw[nj];exact (Below.refl _ _).alloc (aa _) _
 have b3:Below W2.heap.size W2 W3:=by rw[nk];exact (Below.refl _ _).alloc (aa _) _
 have b4:Below W3.heap.size W3 W4:=by rw[nm];exact (Below.refl _ _).alloc (aa _) _
 have s1:W1.heap.size=w.heap.size+1:=by rw[ff];simp
 have s2:W2.heap.size=w.heap.size+2:=by rw[nj];simp[s1]
 have s3:W3.heap.size=w.heap.size+3:=by rw[nk];simp[s2]
 have xf:BoxF W4 w.heap.size f:=(((show BoxF W1 w.heap.size f by rw[ff];exact BoxF.new _ _).below b2).below b3).below b4;have xo:BoxF W4 (w.heap.size+1) o:=((show BoxF W2 (w.heap.size+1) o by rw[nj,<-s1];exact BoxF.new _ _).below b3).below b4;have xt:BoxF W4 (w.heap.size+2) t:=(show BoxF W3 (w.heap.size+2) t by rw[nk,<-s2];exact BoxF.new _ _).below b4;have xx:BoxF W4 (w.heap.size+3) ⟨o.path,o.exec,⟨#[]⟩⟩:=by rw[nm,<-s3];exact BoxF.new W3 ⟨o.path,o.exec,⟨#[]⟩⟩
 have nq:=b3.trans (b4.mono b3.size);have nr:=b2.trans (nq.mono b2.size);have ns:=b1.trans (nr.mono b1.size);rw[nk,nj,ff] at nm;have HM:=hid h;have Q:=hid hL;have u:=hid (show (merge3F f.text o.text t.text).1.size<=72773 by have:=aHc f.text o.text t.text;omega);have K:=hid (show w0.heap.size<=w.heap.size+1+1+1 by have:=h.bel.size;omega);have L:=hid (show mb≠w.heap.size+1+1+1 by have:=aAa h.hs;omega);have M:=hid (show ∀x o s,A=some ⟨x,o,s⟩->x≠w.heap.size+1+1+1 from fun x o s e=>by have:=h.lt x o s e;omega);have O:=hid (show cv.ownBlock≠some (w.heap.size+1+1+1) from fun e=>by have:=(h.c1.lt _ e).2;omega);have P:=hid (show ∀j ob,Z j ob->j≠w.heap.size+1+1+1 from fun j ob hz=>by have:=aAa (h.oth j ob hz).1;omega);have f0:=xf.c0;have f1:=xf.c1;have f2:=xf.c2;have o0:=xo.c0;have o1:=xo.c1;have o2:=xo.c2;have t0:=xt.c0;have t1:=xt.c1;have t2:=xt.c2;have x0:=xx.c0;have x1:=xx.c1;have x2:=xx.c2;rw[nm] at f0 f1 f2 o0 o1 o2 t0 t1 t2 x0 x1 x2;clear b1 b2 b3 b4 s1 s2 s3 xf xo xt xx nq nr ns h hL ff nj nk nm;go_enter Tryz.func44,Tryz.ntmps44;by_cases B:o.path=f.path
 ·by_cases D:o.exec=f.exec
  ·have U:(o.path.toList == f.path.toList)=true:=by rw[B];exact aW _
   have V:(o.exec == f.exec)=true:=by rw[D];exact aW _
   have y:=hid (show bothD m f o t=putD m ⟨t.path,t.exec,(merge3F f.text o.text t.text).1⟩ (if (merge3F f.text o.text t.text).2=false/\(0:Int)=0 then 1 else 0) by
    show putD m ⟨if o.path=f.path then t.path else o.path,if o.exec=f.exec then t.exec else o.exec,(merge3F f.text o.text t.text).1⟩ (if (merge3F f.text o.text t.text).2=false/\(if o.path=f.path then (0:Int) else if t.path≠f.path/\t.path≠o.path then 4 else 0)=0 then 1 else (if o.path=f.path then (0:Int) else if t.path≠f.path/\t.path≠o.path then 4 else 0))=_;rw[ao B,ao D,ao B])
   clear B D;have z:=hid (aCl w f o t ⟨t.path,t.exec,⟨#[]⟩⟩);have E:=aCk (b:=f.text) (o:=o.text) (t:=t.text) (Q.out.below z.out.1 Q.out.lt) ω ω ω;go_wp2_with fail;refine E.mono ?_;rintro e w1 ⟨rfl,r⟩;have a:=hid (z.out.2.below r);have n:=hid ((HM.out.below z.out.1).below r);clear E r U V f0 f1 f2 o0 o1 o2 t0 t1 t2 x0 x1 x2 z;have F:=a.out.c0;have y1:=a.out.c1;have y2:=a.out.c2;have G:=a.out.frozen 2;generalize merge3F f.text o.text t.text=R at *;obtain ⟨l,X⟩:=R;dsimp only at y u ⊢;have d:=hid (a.out.set2 l);have i:=hid (n.out.setBox (k:=2) (v:=.string l) K.out L.out M.out O.out P.out);have H:=d.out.c0;have I:=d.out.c1;have J:=d.out.c2
   cases X
   ·have p:=hid (show bothD m f o t=putD m ⟨t.path,t.exec,l⟩ 1 by rw[y.out];rfl)
    have KP:=aAw (f:=⟨t.path,t.exec,l⟩) (kind:=1) i.out S (show (t.path).size<=1000000/\l.size<=1000000 from ⟨ω,by have:=u.out;omega⟩);clear y i n a d;go_wp2_with fail;refine KP.mono ?_;rintro e Y ⟨rfl,A2,c2,C,g⟩;have q:=hid g;clear KP g H I J F y1 y2 G;go_wp2;refine aI (aF rfl _ _ _) rfl ?_;exact ⟨rfl,_,_,_,by rw[p.out];exact q.out⟩
   have p:=hid (show bothD m f o t=putD m ⟨t.path,t.exec,l⟩ 0 by rw[y.out];rfl);have KP:=aAw (f:=⟨t.path,t.exec,l⟩) (kind:=0) i.out S (show (t.path).size<=1000000/\l.size<=1000000 from ⟨ω,by have:=u.out;omega⟩);clear y i n a d;go_wp2_with fail;refine KP.mono ?_;rintro e Y ⟨rfl,A2,c2,C,g⟩;have q:=hid g;clear KP g H I J F y1 y2 G;go_wp2;refine aI (aF rfl _ _ _) rfl ?_;exact ⟨rfl,_,_,_,by rw[p.out];exact q.out⟩
  have U:(o.path.toList == f.path.toList)=true:=by rw[B];exact aW _
  have V:(o.exec == f.exec)=false:=a7.2 D
  have y:=hid (show bothD m f o t=putD m ⟨t.path,o.exec,(merge3F f.text o.text t.text).1⟩ (if (merge3F f.text o.text t.text).2=false/\(0:Int)=0 then 1 else 0) by
   show putD m ⟨if o.path=f.path then t.path else o.path,if o.exec=f.exec then t.exec else o.exec,(merge3F f.text o.text t.text).1⟩ (if (merge3F f.text o.text t.text).2=false/\(if o.path=f.path then (0:Int) else if t.path≠f.path/\t.path≠o.path then 4 else 0)=0 then 1 else (if o.path=f.path then (0:Int) else if t.path≠f.path/\t.path≠o.path then 4 else 0))=_;rw[ao B,ah D,ao B])
  clear B D;have z:=hid (aCl w f o t ⟨t.path,o.exec,⟨#[]⟩⟩);have E:=aCk (b:=f.text) (o:=o.text) (t:=t.text) (Q.out.below z.out.1 Q.out.lt) ω ω ω;go_wp2_with fail;refine E.mono ?_;rintro e w1 ⟨rfl,r⟩;have a:=hid (z.out.2.below r);have n:=hid ((HM.out.below z.out.1).below r);clear E r U V f0 f1 f2 o0 o1 o2 t0 t1 t2 x0 x1 x2 z;have F:=a.out.c0;have y1:=a.out.c1;have y2:=a.out.c2;have G:=a.out.frozen 2;generalize merge3F f.text o.text t.text=R at *;obtain ⟨l,X⟩:=R;dsimp only at y u ⊢;have d:=hid (a.out.set2 l);have i:=hid (n.out.setBox (k:=2) (v:=.string l) K.out L.out M.out O.out P.out);have H:=d.out.c0;have I:=d.out.c1;have J:=d.out.c2
  cases X
  ·have p:=hid (show bothD m f o t=putD m ⟨t.path,o.exec,l⟩ 1 by rw[y.out];rfl)
   have KP:=aAw (f:=⟨t.path,o.exec,l⟩) (kind:=1) i.out S (show (t.path).size<=1000000/\l.size<=1000000 from ⟨ω,by have:=u.out;omega⟩);clear y i n a d;go_wp2_with fail;refine KP.mono ?_;rintro e Y ⟨rfl,A2,c2,C,g⟩;have q:=hid g;clear KP g H I J F y1 y2 G;go_wp2;refine aI (aF rfl _ _ _) rfl ?_;exact ⟨rfl,_,_,_,by rw[p.out];exact q.out⟩
  have p:=hid (show bothD m f o t=putD m ⟨t.path,o.exec,l⟩ 0 by rw[y.out];rfl);have KP:=aAw (f:=⟨t.path,o.exec,l⟩) (kind:=0) i.out S (show (t.path).size<=1000000/\l.size<=1000000 from ⟨ω,by have:=u.out;omega⟩);clear y i n a d;go_wp2_with fail;refine KP.mono ?_;rintro e Y ⟨rfl,A2,c2,C,g⟩;have q:=hid g;clear KP g H I J F y1 y2 G;go_wp2;refine aI (aF rfl _ _ _) rfl ?_;exact ⟨rfl,_,_,_,by rw[p.out];exact q.out⟩
 by_cases T:t.path=f.path
 ·by_cases D:o.exec=f.exec
  ·have U:=aBi B
   have e3:(t.path.toList == f.path.toList)=true:=(by rw[T];exact aW _);have V:(o.exec == f.exec)=true:=by rw[D];exact aW _
   have y:=hid (show bothD m f o t=putD m ⟨o.path,t.exec,(merge3F f.text o.text t.text).1⟩ (if (merge3F f.text o.text t.text).2=false/\(0:Int)=0 then 1 else 0) by
    show putD m ⟨if o.path=f.path then t.path else o.path,if o.exec=f.exec then t.exec else o.exec,(merge3F f.text o.text t.text).1⟩ (if (merge3F f.text o.text t.text).2=false/\(if o.path=f.path then (0:Int) else if t.path≠f.path/\t.path≠o.path then 4 else 0)=0 then 1 else (if o.path=f.path then (0:Int) else if t.path≠f.path/\t.path≠o.path then 4 else 0))=_;rw[ah B,ao D,ah B,ah (show ¬(t.path≠f.path/\t.path≠o.path) from fun h=>h.1 T)])
   clear B T D;have z:=hid (aCl w f o t ⟨o.path,t.exec,⟨#[]⟩⟩);have E:=aCk (b:=f.text) (o:=o.text) (t:=t.text) (Q.out.below z.out.1 Q.out.lt) ω ω ω;go_wp2_with fail;refine E.mono ?_;rintro e w1 ⟨rfl,r⟩;have a:=hid (z.out.2.below r);have n:=hid ((HM.out.below z.out.1).below r);clear E r U V f0 f1 f2 o0 o1 o2 t0 t1 t2 x0 x1 x2 z;have F:=a.out.c0;have y1:=a.out.c1;have y2:=a.out.c2;have G:=a.out.frozen 2;generalize merge3F f.text o.text t.text=R at *;obtain ⟨l,X⟩:=R;dsimp only at y u ⊢;have d:=hid (a.out.set2 l);have i:=hid (n.out.setBox (k:=2) (v:=.string l) K.out L.out M.out O.out P.out);have H:=d.out.c0;have I:=d.out.c1;have J:=d.out.c2
   cases X
   ·have p:=hid (show bothD m f o t=putD m ⟨o.path,t.exec,l⟩ 1 by rw[y.out];rfl)
    have KP:=aAw (f:=⟨o.path,t.exec,l⟩) (kind:=1) i.out S (show (o.path).size<=1000000/\l.size<=1000000 from ⟨ω,by have:=u.out;omega⟩);clear y i n a d;go_wp2_with fail;refine KP.mono ?_;rintro e Y ⟨rfl,A2,c2,C,g⟩;have q:=hid g;clear KP g H I J F y1 y2 G;go_wp2;refine aI (aF rfl _ _ _) rfl ?_;exact ⟨rfl,_,_,_,by rw[p.out];exact q.out⟩
   have p:=hid (show bothD m f o t=putD m ⟨o.path,t.exec,l⟩ 0 by rw[y.out];rfl);have KP:=aAw (f:=⟨o.path,t.exec,l⟩) (kind:=0) i.out S (show (o.path).size<=1000000/\l.size<=1000000 from ⟨ω,by have:=u.out;omega⟩);clear y i n a d;go_wp2_with fail;refine KP.mono ?_;rintro e Y ⟨rfl,A2,c2,C,g⟩;have q:=hid g;clear KP g H I J F y1 y2 G;go_wp2;refine aI (aF rfl _ _ _) rfl ?_;exact ⟨rfl,_,_,_,by rw[p.out];exact q.out⟩
  have U:=aBi B;have e3:(t.path.toList == f.path.toList)=true:=by rw[T];exact aW _
  have V:(o.exec == f.exec)=false:=a7.2 D
  have y:=hid (show bothD m f o t=putD m ⟨o.path,o.exec,(merge3F f.text o.text t.text).1⟩ (if (merge3F f.text o.text t.text).2=false/\(0:Int)=0 then 1 else 0) by
   show putD m ⟨if o.path=f.path then t.path else o.path,if o.exec=f.exec then t.exec else o.exec,(merge3F f.text o.text t.text).1⟩ (if (merge3F f.text o.text t.text).2=false/\(if o.path=f.path then (0:Int) else if t.path≠f.path/\t.path≠o.path then 4 else 0)=0 then 1 else (if o.path=f.path then (0:Int) else if t.path≠f.path/\t.path≠o.path then 4 else 0))=_;rw[ah B,ah D,ah B,ah (show ¬(t.path≠f.path/\t.path≠o.path) from fun h=>h.1 T)])
  clear B T D;have z:=hid (aCl w f o t ⟨o.path,o.exec,⟨#[]⟩⟩);have E:=aCk (b:=f.text) (o:=o.text) (t:=t.text) (Q.out.below z.out.1 Q.out.lt) ω ω ω;go_wp2_with fail;refine E.mono ?_;rintro e w1 ⟨rfl,r⟩;have a:=hid (z.out.2.below r);have n:=hid ((HM.out.below z.out.1).below r);clear E r U V f0 f1 f2 o0 o1 o2 t0 t1 t2 x0 x1 x2 z;have F:=a.out.c0;have y1:=a.out.c1;have y2:=a.out.c2;have G:=a.out.frozen 2;generalize merge3F f.text o.text t.text=R at *;obtain ⟨l,X⟩:=R;dsimp only at y u ⊢;have d:=hid (a.out.set2 l);have i:=hid (n.out.setBox (k:=2) (v:=.string l) K.out L.out M.out O.out P.out);have H:=d.out.c0;have I:=d.out.c1;have J:=d.out.c2
  cases X
  ·have p:=hid (show bothD m f o t=putD m ⟨o.path,o.exec,l⟩ 1 by rw[y.out];rfl)
   have KP:=aAw (f:=⟨o.path,o.exec,l⟩) (kind:=1) i.out S (show (o.path).size<=1000000/\l.size<=1000000 from ⟨ω,by have:=u.out;omega⟩);clear y i n a d;go_wp2_with fail;refine KP.mono ?_;rintro e Y ⟨rfl,A2,c2,C,g⟩;have q:=hid g;clear KP g H I J F y1 y2 G;go_wp2;refine aI (aF rfl _ _ _) rfl ?_;exact ⟨rfl,_,_,_,by rw[p.out];exact q.out⟩
  have p:=hid (show bothD m f o t=putD m ⟨o.path,o.exec,l⟩ 0 by rw[y.out];rfl);have KP:=aAw (f:=⟨o.path,o.exec,l⟩) (kind:=0) i.out S (show (o.path).size<=1000000/\l.size<=1000000 from ⟨ω,by have:=u.out;omega⟩);clear y i n a d;go_wp2_with fail;refine KP.mono ?_;rintro e Y ⟨rfl,A2,c2,C,g⟩;have q:=hid g;clear KP g H I J F y1 y2 G;go_wp2;refine aI (aF rfl _ _ _) rfl ?_;exact ⟨rfl,_,_,_,by rw[p.out];exact q.out⟩
 by_cases h3:t.path=o.path
 ·by_cases D:o.exec=f.exec
  ·have U:=aBi B
   have e3:=aBi T;have e4:(t.path.toList == o.path.toList)=true:=(by rw[h3];exact aW _);have V:(o.exec == f.exec)=true:=by rw[D];exact aW _
   have y:=hid (show bothD m f o t=putD m ⟨o.path,t.exec,(merge3F f.text o.text t.text).1⟩ (if (merge3F f.text o.text t.text).2=false/\(0:Int)=0 then 1 else 0) by
    show putD m ⟨if o.path=f.path then t.path else o.path,if o.exec=f.exec then t.exec else o.exec,(merge3F f.text o.text t.text).1⟩ (if (merge3F f.text o.text t.text).2=false/\(if o.path=f.path then (0:Int) else if t.path≠f.path/\t.path≠o.path then 4 else 0)=0 then 1 else (if o.path=f.path then (0:Int) else if t.path≠f.path/\t.path≠o.path then 4 else 0))=_;rw[ah B,ao D,ah B,ah (show ¬(t.path≠f.path/\t.path≠o.path) from fun h=>h.2 h3)])
   clear B T h3 D;have z:=hid (aCl w f o t ⟨o.path,t.exec,⟨#[]⟩⟩);have E:=aCk (b:=f.text) (o:=o.text) (t:=t.text) (Q.out.below z.out.1 Q.out.lt) ω ω ω;go_wp2_with fail;refine E.mono ?_;rintro e w1 ⟨rfl,r⟩;have a:=hid (z.out.2.below r);have n:=hid ((HM.out.below z.out.1).below r);clear E r U V f0 f1 f2 o0 o1 o2 t0 t1 t2 x0 x1 x2 z;have F:=a.out.c0;have y1:=a.out.c1;have y2:=a.out.c2;have G:=a.out.frozen 2;generalize merge3F f.text o.text t.text=R at *;obtain ⟨l,X⟩:=R;dsimp only at y u ⊢;have d:=hid (a.out.set2 l);have i:=hid (n.out.setBox (k:=2) (v:=.string l) K.out L.out M.out O.out P.out);have H:=d.out.c0;have I:=d.out.c1;have J:=d.out.c2
   cases X
   ·have p:=hid (show bothD m f o t=putD m ⟨o.path,t.exec,l⟩ 1 by rw[y.out];rfl)
    have KP:=aAw (f:=⟨o.path,t.exec,l⟩) (kind:=1) i.out S (show (o.path).size<=1000000/\l.size<=1000000 from ⟨ω,by have:=u.out;omega⟩);clear y i n a d;go_wp2_with fail;refine KP.mono ?_;rintro e Y ⟨rfl,A2,c2,C,g⟩;have q:=hid g;clear KP g H I J F y1 y2 G;go_wp2;refine aI (aF rfl _ _ _) rfl ?_;exact ⟨rfl,_,_,_,by rw[p.out];exact q.out⟩
   have p:=hid (show bothD m f o t=putD m ⟨o.path,t.exec,l⟩ 0 by rw[y.out];rfl);have KP:=aAw (f:=⟨o.path,t.exec,l⟩) (kind:=0) i.out S (show (o.path).size<=1000000/\l.size<=1000000 from ⟨ω,by have:=u.out;omega⟩);clear y i n a d;go_wp2_with fail;refine KP.mono ?_;rintro e Y ⟨rfl,A2,c2,C,g⟩;have q:=hid g;clear KP g H I J F y1 y2 G;go_wp2;refine aI (aF rfl _ _ _) rfl ?_;exact ⟨rfl,_,_,_,by rw[p.out];exact q.out⟩
  have U:=aBi B;have e3:=aBi T;have e4:(t.path.toList == o.path.toList)=true:=by rw[h3];exact aW _
  have V:(o.exec == f.exec)=false:=a7.2 D
  have y:=hid (show bothD m f o t=putD m ⟨o.path,o.exec,(merge3F f.text o.text t.text).1⟩ (if (merge3F f.text o.text t.text).2=false/\(0:Int)=0 then 1 else 0) by
   show putD m ⟨if o.path=f.path then t.path else o.path,if o.exec=f.exec then t.exec else o.exec,(merge3F f.text o.text t.text).1⟩ (if (merge3F f.text o.text t.text).2=false/\(if o.path=f.path then (0:Int) else if t.path≠f.path/\t.path≠o.path then 4 else 0)=0 then 1 else (if o.path=f.path then (0:Int) else if t.path≠f.path/\t.path≠o.path then 4 else 0))=_;rw[ah B,ah D,ah B,ah (show ¬(t.path≠f.path/\t.path≠o.path) from fun h=>h.2 h3)])
  clear B T h3 D;have z:=hid (aCl w f o t ⟨o.path,o.exec,⟨#[]⟩⟩);have E:=aCk (b:=f.text) (o:=o.text) (t:=t.text) (Q.out.below z.out.1 Q.out.lt) ω ω ω;go_wp2_with fail;refine E.mono ?_;rintro e w1 ⟨rfl,r⟩;have a:=hid (z.out.2.below r);have n:=hid ((HM.out.below z.out.1).below r);clear E r U V f0 f1 f2 o0 o1 o2 t0 t1 t2 x0 x1 x2 z;have F:=a.out.c0;have y1:=a.out.c1;have y2:=a.out.c2;have G:=a.out.frozen 2;generalize merge3F f.text o.text t.text=R at *;obtain ⟨l,X⟩:=R;dsimp only at y u ⊢;have d:=hid (a.out.set2 l);have i:=hid (n.out.setBox (k:=2) (v:=.string l) K.out L.out M.out O.out P.out);have H:=d.out.c0;have I:=d.out.c1;have J:=d.out.c2
  cases X
  ·have p:=hid (show bothD m f o t=putD m ⟨o.path,o.exec,l⟩ 1 by rw[y.out];rfl)
   have KP:=aAw (f:=⟨o.path,o.exec,l⟩) (kind:=1) i.out S (show (o.path).size<=1000000/\l.size<=1000000 from ⟨ω,by have:=u.out;omega⟩);clear y i n a d;go_wp2_with fail;refine KP.mono ?_;rintro e Y ⟨rfl,A2,c2,C,g⟩;have q:=hid g;clear KP g H I J F y1 y2 G;go_wp2;refine aI (aF rfl _ _ _) rfl ?_;exact ⟨rfl,_,_,_,by rw[p.out];exact q.out⟩
  have p:=hid (show bothD m f o t=putD m ⟨o.path,o.exec,l⟩ 0 by rw[y.out];rfl);have KP:=aAw (f:=⟨o.path,o.exec,l⟩) (kind:=0) i.out S (show (o.path).size<=1000000/\l.size<=1000000 from ⟨ω,by have:=u.out;omega⟩);clear y i n a d;go_wp2_with fail;refine KP.mono ?_;rintro e Y ⟨rfl,A2,c2,C,g⟩;have q:=hid g;clear KP g H I J F y1 y2 G;go_wp2;refine aI (aF rfl _ _ _) rfl ?_;exact ⟨rfl,_,_,_,by rw[p.out];exact q.out⟩
 by_cases D:o.exec=f.exec
 ·have U:=aBi B
  have e3:=aBi T;have e4:=aBi h3;have V:(o.exec == f.exec)=true:=by rw[D];exact aW _
  have y:=hid (show bothD m f o t=putD m ⟨o.path,t.exec,(merge3F f.text o.text t.text).1⟩ (if (merge3F f.text o.text t.text).2=false/\(4:Int)=0 then 1 else 4) by
   show putD m ⟨if o.path=f.path then t.path else o.path,if o.exec=f.exec then t.exec else o.exec,(merge3F f.text o.text t.text).1⟩ (if (merge3F f.text o.text t.text).2=false/\(if o.path=f.path then (0:Int) else if t.path≠f.path/\t.path≠o.path then 4 else 0)=0 then 1 else (if o.path=f.path then (0:Int) else if t.path≠f.path/\t.path≠o.path then 4 else 0))=_;rw[ah B,ao D,ah B,ao (show t.path≠f.path/\t.path≠o.path from ⟨T,h3⟩)])
  clear B T h3 D;have z:=hid (aCl w f o t ⟨o.path,t.exec,⟨#[]⟩⟩);have E:=aCk (b:=f.text) (o:=o.text) (t:=t.text) (Q.out.below z.out.1 Q.out.lt) ω ω ω;go_wp2_with fail;refine E.mono ?_;rintro e w1 ⟨rfl,r⟩;have a:=hid (z.out.2.below r);have n:=hid ((HM.out.below z.out.1).below r);clear E r U V f0 f1 f2 o0 o1 o2 t0 t1 t2 x0 x1 x2 z;have F:=a.out.c0;have y1:=a.out.c1;have y2:=a.out.c2;have G:=a.out.frozen 2;generalize merge3F f.text o.text t.text=R at *;obtain ⟨l,X⟩:=R;dsimp only at y u ⊢;have d:=hid (a.out.set2 l);have i:=hid (n.out.setBox (k:=2) (v:=.string l) K.out L.out M.out O.out P.out);have H:=d.out.c0;have I:=d.out.c1;have J:=d.out.c2
  cases X
  ·have p:=hid (show bothD m f o t=putD m ⟨o.path,t.exec,l⟩ 4 by rw[y.out];rfl)
   have KP:=aAw (f:=⟨o.path,t.exec,l⟩) (kind:=4) i.out S (show (o.path).size<=1000000/\l.size<=1000000 from ⟨ω,by have:=u.out;omega⟩);clear y i n a d;go_wp2_with fail;refine KP.mono ?_;rintro e Y ⟨rfl,A2,c2,C,g⟩;have q:=hid g;clear KP g H I J F y1 y2 G;go_wp2;refine aI (aF rfl _ _ _) rfl ?_;exact ⟨rfl,_,_,_,by rw[p.out];exact q.out⟩
  have p:=hid (show bothD m f o t=putD m ⟨o.path,t.exec,l⟩ 4 by rw[y.out];rfl);have KP:=aAw (f:=⟨o.path,t.exec,l⟩) (kind:=4) i.out S (show (o.path).size<=1000000/\l.size<=1000000 from ⟨ω,by have:=u.out;omega⟩);clear y i n a d;go_wp2_with fail;refine KP.mono ?_;rintro e Y ⟨rfl,A2,c2,C,g⟩;have q:=hid g;clear KP g H I J F y1 y2 G;go_wp2;refine aI (aF rfl _ _ _) rfl ?_;exact ⟨rfl,_,_,_,by rw[p.out];exact q.out⟩
 have U:=aBi B;have e3:=aBi T;have e4:=aBi h3;have V:(o.exec == f.exec)=false:=a7.2 D
 have y:=hid (show bothD m f o t=putD m ⟨o.path,o.exec,(merge3F f.text o.text t.text).1⟩ (if (merge3F f.text o.text t.text).2=false/\(4:Int)=0 then 1 else 4) by
  show putD m ⟨if o.path=f.path then t.path else o.path,if o.exec=f.exec then t.exec else o.exec,(merge3F f.text o.text t.text).1⟩ (if (merge3F f.text o.text t.text).2=false/\(if o.path=f.path then (0:Int) else if t.path≠f.path/\t.path≠o.path then 4 else 0)=0 then 1 else (if o.path=f.path then (0:Int) else if t.path≠f.path/\t.path≠o.path then 4 else 0))=_;rw[ah B,ah D,ah B,ao (show t.path≠f.path/\t.path≠o.path from ⟨T,h3⟩)])
 clear B T h3 D;have z:=hid (aCl w f o t ⟨o.path,o.exec,⟨#[]⟩⟩);have E:=aCk (b:=f.text) (o:=o.text) (t:=t.text) (Q.out.below z.out.1 Q.out.lt) ω ω ω;go_wp2_with fail;refine E.mono ?_;rintro e w1 ⟨rfl,r⟩;have a:=hid (z.out.2.below r);have n:=hid ((HM.out.below z.out.1).below r);clear E r U V f0 f1 f2 o0 o1 o2 t0 t1 t2 x0 x1 x2 z;have F:=a.out.c0;have y1:=a.out.c1;have y2:=a.out.c2;have G:=a.out.frozen 2;generalize merge3F f.text o.text t.text=R at *;obtain ⟨l,X⟩:=R;dsimp only at y u ⊢;have d:=hid (a.out.set2 l);have i:=hid (n.out.setBox (k:=2) (v:=.string l) K.out L.out M.out O.out P.out);have H:=d.out.c0;have I:=d.out.c1;have J:=d.out.c2
 cases X
 ·have p:=hid (show bothD m f o t=putD m ⟨o.path,o.exec,l⟩ 4 by rw[y.out];rfl)
  have KP:=aAw (f:=⟨o.path,o.exec,l⟩) (kind:=4) i.out S (show (o.path).size<=1000000/\l.size<=1000000 from ⟨ω,by have:=u.out;omega⟩);clear y i n a d;go_wp2_with fail;refine KP.mono ?_;rintro e Y ⟨rfl,A2,c2,C,g⟩;have q:=hid g;clear KP g H I J F y1 y2 G;go_wp2;refine aI (aF rfl _ _ _) rfl ?_;exact ⟨rfl,_,_,_,by rw[p.out];exact q.out⟩
 have p:=hid (show bothD m f o t=putD m ⟨o.path,o.exec,l⟩ 4 by rw[y.out];rfl);have KP:=aAw (f:=⟨o.path,o.exec,l⟩) (kind:=4) i.out S (show (o.path).size<=1000000/\l.size<=1000000 from ⟨ω,by have:=u.out;omega⟩);clear y i n a d;go_wp2_with fail;refine KP.mono ?_;rintro e Y ⟨rfl,A2,c2,C,g⟩;have q:=hid g;clear KP g H I J F y1 y2 G;go_wp2;refine aI (aF rfl _ _ _) rfl ?_;exact ⟨rfl,_,_,_,by rw[p.out];exact q.out⟩
end Go.Proofs.YtohblmepajhpaaaGreatDoor
