/- Contracts of functions that the law reaches; plain laws. -/
import Derived.StringKeys
import Derived.Test.YtohblmepajhpaaaGreatDoorG05
set_option maxHeartbeats 8000000
set_option maxRecDepth 100000
open Go.Lib (hid)
namespace Go.Proofs.YtohblmepajhpaaaGreatDoor
open Go.Proofs.Tryz (prog)
open Go.RowKit
variable {w0 w w':World}{tb cb b o t n B m1 m2 z c:Nat}{L:List KV}{D:DataW Value}{A:Option Addr}{G:Nat->Nat->Option Nat}{F1 F2:Nat->Option Nat}{s:Bs}
theorem bAn {F:Option Addr}{x y:Value}{K:Nat}{base:List ByteArray}
  (c:Rd w0 w0.heap.size 1 F K cb (base.map .string)) (od:K<=100000) (ho:o+n<=1000000) (ht:t+n<=1000000) (hL:L.length<=1000000)
  (h:TX w0 w tb (.slice F K cb) x y b o t L) (h1:b+n<=K) :
  Calls prog 218 #[.pointer (some ⟨tb,0,none⟩),.int .i64 n] w fun e w'=>e=.returned (.tuple #[])/\TX w0 w' tb (.slice F K cb) x y (b+n) (o+n) (t+n) (L++[⟨1,sliceF base b (b+n),sliceF base b (b+n),sliceF base b (b+n)⟩]):=by
 have B:=h.hi;have N:=h.lo;obtain ⟨d,H,E,nr,nM,hK⟩:=h.ex;have O:=hid h.bel;have n5:=c.cap;obtain ⟨nN,nO⟩:=aIs c (iI b n) h1;generalize sliceF base b (b+n)=f at *;have i:=hid E;have j:=hid nr;have HK:=hid hK;have nC:=hid nO;have nU:=hid nN;have nD:=hid nM;clear E nr hK nO nN c nM h
 have kk:∀k v,(#[.slice F K cb,x,y,.int .i64 b,.int .i64 o,.int .i64 t,d]:Array Value)[k]? = some v->w.drew.cell? ⟨tb,k,none⟩=some v:=fun k v hv=>by
  show w.cell? ⟨tb,k,none⟩=some v;rw[ab i.out];exact hv
 have k0:w.drew.cell? ⟨tb,0,none⟩=some (.slice F K cb):=kk 0 _ rfl;have k3:w.drew.cell? ⟨tb,3,none⟩=some (.int .i64 b):=kk 3 _ rfl;clear kk;have i1:(b:Int)+n=((b+n:Nat):Int):=by push_cast;rfl
 have i2:(o:Int)+n=((o+n:Nat):Int):=by push_cast;rfl
 have i3:(t:Int)+n=((t+n:Nat):Int):=by push_cast;rfl
 go_enter Tryz.func218,Tryz.ntmps218;go_wp2;refine aAe (fun w'=>Below w.heap.size w w') (qs 16) mixed κ (Below.refl _ _).drew ?_;intro Tp M Q S U V hQ;have m0:=V ⟨tb,0,none⟩ _ fun w' W=>(W.cell (p:=⟨tb,0,none⟩) B).trans k0;have m1:=V ⟨tb,3,none⟩ _ fun w' W=>(W.cell (p:=⟨tb,3,none⟩) B).trans k3;clear V;simp only[qcmp];simp (maxSteps:=9^7) only[↓qpre,aAb,aAg,aAc,m0,m1,i1];(repeat refine And.intro (by first|omega|(unfold inI64;omega)) ?_);refine hQ _ _ ?_;clear hQ S U m0 m1 k0 k3;simp only[sliced,bW]
 have ns:Hid (∀u,Below w.heap.size w u->Calls prog 260 #[.slice (if cb=b then F else F.map (·.add b)) (b+n-b) (cb-b)] u (FreshS f u)):=fun u hu=>by
  have c:=O.out.trans (hu.mono O.out.size);have:=nU.out.to c c.size;rw[<-nC.out] at this ⊢;exact aHi (by have:=nC.out;omega) this
 generalize (if cb=b then F else Option.map (fun x=>x.add b) F)=oe at *
 have nu:Hid (∀b∈tb::obs d,b<w.heap.size):=by
  refine all_cons B (fun b c=>?_);exact (j.out.lt b (aFc c)).2
 have r:=hid (show Below w.heap.size w w.drew.drew from (Below.refl _ _).drew.drew);have i:=hid (show w.drew.drew.heap[tb]? = some (.cells #[.slice F K cb,x,y,.int .i64 b,.int .i64 o,.int .i64 t,d] 278 (0,0)) from i.out);have j:=hid j.out.drew.drew;have q:=hid (KIns.keep (Keeps.of_below (show Below w.heap.size w w.drew.drew from (Below.refl _ _).drew.drew)) HK.out);have J:=hid O.out.drew.drew;go_wp2;refine aAq (fun w'=>w'.heap[tb]? = some (.cells #[.slice F K cb,x,y,.int .i64 b,.int .i64 o,.int .i64 t,d] 278 (0,0))) [(true,0),(true,1),(true,2),(true,3),(true,4),(true,5),(true,7),(true,9),(false,6),(false,8),(false,10),(false,11),(false,12),(false,13),(true,14),(true,15)] [16] mixed κ i.out ?_;intro Tp M Q Q2 S U V hQ nP;have m0:M ⟨tb,6,none⟩=some d:=V _ _ fun w' W=>by rw[ab W];rfl
 clear V;simp only[qcmp];simp (maxSteps:=9^7) only[↓qpre,aAb,aAg,aAc,m0];clear m0;refine aAh κ (ns.out _ r.out) rfl rfl ?_;rintro e u0 ⟨X,c0,rfl,hr,hf,c⟩;have A:=hid (aAr (l:=tb::obs d) hr hf (fun b c=>ag (nu.out b c) r.out.size));have i:=hid ((c.block tb (ag B r.out.size)).trans i.out);have j:=hid (aAf j.out c);have q:=hid (q.out.keep (Keeps.of_below c));have J:=hid (J.out.trans (c.mono J.out.size));have r:=hid (r.out.trans (c.mono r.out.size));clear hr hf c;refine ⟨_,rfl,S _ i.out,?_⟩;simp (maxSteps:=9^7) only[aAb,aAc];refine aAh κ (ns.out _ r.out) rfl rfl ?_;rintro e u1 ⟨Y,c1,rfl,hr,hf,c⟩;have G:=hid (aAr (l:=tb::obs d) hr hf (fun b c=>ag (nu.out b c) r.out.size));have A:=hid (A.out.keep (Keeps.of_below c));have i:=hid ((c.block tb (ag B r.out.size)).trans i.out);have j:=hid (aAf j.out c);have q:=hid (q.out.keep (Keeps.of_below c));have J:=hid (J.out.trans (c.mono J.out.size));have r:=hid (r.out.trans (c.mono r.out.size));clear hr hf c;refine ⟨_,rfl,S _ i.out,?_⟩;simp (maxSteps:=9^7) only[aAb,aAc];refine aAh κ (ns.out _ r.out) rfl rfl ?_;rintro e u2 ⟨Z,c2,rfl,hr,hf,c⟩;have ff:=hid (aAr (l:=tb::obs d) hr hf (fun b c=>ag (nu.out b c) r.out.size));have A:=hid (A.out.keep (Keeps.of_below c));have G:=hid (G.out.keep (Keeps.of_below c));have i:=hid ((c.block tb (ag B r.out.size)).trans i.out);have j:=hid (aAf j.out c);have q:=hid (q.out.keep (Keeps.of_below c));have J:=hid (J.out.trans (c.mono J.out.size));have r:=hid (r.out.trans (c.mono r.out.size));clear hr hf c;refine ⟨_,rfl,S _ i.out,?_⟩
 simp (maxSteps:=9^7) only[aAb,aAc];refine aBo rfl (bCl 1 X Y Z _ _ _ _ _ _ _) ⟨S _ i.out,?_⟩;simp (maxSteps:=9^7) only[aAb,aAc];have z:Below u2.heap.size u2 (u2.alloc (.cells #[.int .i64 1,.slice X f.length c0,.slice Y f.length c1,.slice Z f.length c2] 143)):=(Below.refl _ _).alloc (aa _) _;have nw:=ag B r.out.size;have i:=hid ((z.block tb nw).trans i.out);refine T.eff_lits (T.run_lits4 aDi _ _ _ _ _) rfl ⟨S _ i.out,?_⟩;simp (maxSteps:=9^7) only[aAb,aAc];have nk:=hid (aHh u2 (.int .i64 1) (.slice X f.length c0) (.slice Y f.length c1) (.slice Z f.length c2));have P:=hid (aAf j.out z);have nz:=hid (J.out.trans (z.mono J.out.size));have A:=hid ((A.out.keep (Keeps.of_below z)).less (m:=(u2.alloc (.cells #[.int .i64 1,.slice X f.length c0,.slice Y f.length c1,.slice Z f.length c2] 143)).heap.size::tb::obs d) (aGp (aa _)));have G:=hid ((G.out.keep (Keeps.of_below z)).less (m:=(u2.alloc (.cells #[.int .i64 1,.slice X f.length c0,.slice Y f.length c1,.slice Z f.length c2] 143)).heap.size::tb::obs d) (aGp (aa _)));have ff:=hid ((ff.out.keep (Keeps.of_below z)).less (m:=(u2.alloc (.cells #[.int .i64 1,.slice X f.length c0,.slice Y f.length c1,.slice Z f.length c2] 143)).heap.size::tb::obs d) (aGp (aa _)));have q:=hid ((q.out.keep (Keeps.of_below z)).less (m:=(u2.alloc (.cells #[.int .i64 1,.slice X f.length c0,.slice Y f.length c1,.slice Z f.length c2] 143)).heap.size::tb::obs d) (aGp (aa _)));have nV:=ag nw z.size;clear j J r z nw;generalize u2.alloc (.cells #[.int .i64 1,.slice X f.length c0,.slice Y f.length c1,.slice Z f.length c2] 143)=V4 at *
 refine aAo aDi (base:=w0.heap.size) (n:=L.length) rfl rfl P.out nk.out (by intro u hu;simp at hu;rcases hu with rfl | rfl | rfl | rfl<;>rfl) (by unfold maxLen;omega) ω nz.out.size ?_;intro v7 V5 nA nj nB;obtain ⟨C,D,rfl,n8⟩:=aAd nA;have nm:V5.heap[tb]? = V4.heap[tb]?:=nj.block tb nV (fun e=>nD.out e.symm);have i:=hid (nm.trans i.out);refine ⟨S _ i.out,?_⟩;simp (maxSteps:=9^7) only[↓qpre,aAb,aAg,aAc];refine hQ _ _ ?_;simp only[lates,List.map,qcmp];simp (maxSteps:=9^7) only[aAb];refine aBa (v:=.slice C (L.length+1) D) (b:=tb) (o:=6) κ rfl rfl (by rw[ab i.out];rfl) (aAk i.out) rfl ⟨trivial,?_⟩;simp (maxSteps:=9^7) only[aAb];refine nP _ _ ?_
 have s:Hid ((V5.setCell ⟨tb,6,none⟩ (.slice C (L.length+1) D)).heap[tb]? = some (.cells #[.slice F K cb,x,y,.int .i64 b,.int .i64 o,.int .i64 t,.slice C (L.length+1) D] 278 (0,0))):=by
  have:=a8 V5 tb 6 _ _ (.slice C (L.length+1) D) i.out;unfold Hid;simpa using this
 have nE:=hid ((Keeps.grown (l:=V4.heap.size::tb::obs d) nj (fun g hg=>am _ (am _ (aEj hg)))).trans (Keeps.grown (aAy V5 tb 6 (.slice C (L.length+1) D)) (by simp)))
 have R:Hid ((Value.slice C (L.length+1) D).ownBlock≠some tb):=by
  rcases nB with h | h
  ·rw[h];exact nD.out
  rw[h];intro e;injection e with e;omega
 have nF:=hid (aK nA (a:=⟨tb,6,none⟩) R.out (.slice C (L.length+1) D));have nG:=hid ((nz.out.grown nj nz.out.size (fun g hg=>(P.out.lt g hg).1)).setCell (p:=⟨tb,6,none⟩) N (.slice C (L.length+1) D))
 have nq:Hid (∀b∈tb::obs (.slice C (L.length+1) D),b∈V4.heap.size::tb::obs d):=by
  refine all_cons (by simp) (fun b c=>?_);rcases nB with h | h
  ·have:=aFc c;rw[h] at this;exact am _ (am _ (aEj this))
  have:=aFc c;rw[h] at this;injection this with this;simp[this]
 have nH:=hid (((KIns.snoc (k:=⟨1,f,f,f⟩) q.out ⟨X,c0,Y,c1,Z,c2,rfl,A.out,G.out,ff.out⟩).keep nE.out).less (fun b c=>.inl (nq.out b c)));clear hQ nP S U A G ff q nE nq nA nj nB P nk i nm
 have n7:tb<(V5.setCell ⟨tb,6,none⟩ (.slice C (L.length+1) D)).heap.size:=by
  rcases bo tb (V5.setCell ⟨tb,6,none⟩ (.slice C (L.length+1) D)).heap.size with h2 | h2
  ·exact h2
  have:=s.out;rw[br h2] at this;cases this
 generalize V5.setCell ⟨tb,6,none⟩ (.slice C (L.length+1) D)=V6 at *;go_wp2;refine aTu (fun w'=>w'.heap[tb]? = some (.cells #[.slice F K cb,x,y,.int .i64 b,.int .i64 o,.int .i64 t,.slice C (L.length+1) D] 278 (0,0))) [(true,0),(true,2),(true,3),(true,4),(true,5),(true,6),(true,7),(true,8),(true,9),(true,10),(true,11),(true,12),(true,15),(true,16),(true,17),(true,18),(true,19),(true,23),(true,24)] [1,13,14,20,21] 22 [(false,25),(true,26),(true,27),(false,28)] [25,26,27,28] mixed κ s.out ?_;intro Tp M Q1 Q2 Q3 Q4 S U V nQ nR nS nT;have m3:M ⟨tb,3,none⟩=some (.int .i64 b):=V _ _ fun w' W=>by rw[ab W];rfl
 have m4:M ⟨tb,4,none⟩=some (.int .i64 o):=V _ _ fun w' W=>by rw[ab W];rfl
 have m5:M ⟨tb,5,none⟩=some (.int .i64 t):=V _ _ fun w' W=>by rw[ab W];rfl
 clear V;simp only[qcmp];simp (maxSteps:=9^7) only[↓qpre,aAb,aAg,aAc,m3,m4,m5,i1];(repeat refine And.intro (by first|omega|(unfold inI64;omega)) ?_);refine nQ _ _ ?_;simp only[quiets,List.map,qcmp];simp (maxSteps:=9^7) only[↓qpre,aAb,aAc,i2,i3];(repeat refine And.intro (by first|omega|(unfold inI64;omega)) ?_);refine nR _ _ ?_;refine bKz rfl rfl (bDy _ _) ?_;simp (maxSteps:=9^7) only[aAb,aAc];refine nS _ _ ?_;simp only[qcmp];simp (maxSteps:=9^7) only[aAb];have I:=hid (a8 V6.drew tb 3 _ _ (.int .i64 (b+n:Nat)) s.out);have nI:=hid (a8 _ tb 4 _ _ (.int .i64 (o+n:Nat)) I.out);have nJ:=hid (a8 _ tb 5 _ _ (.int .i64 (t+n:Nat)) nI.out)
 have nK:(V6.drew.cell? ⟨tb,3,none⟩).isSome=true:=by
  show (V6.cell? ⟨tb,3,none⟩).isSome=true;rw[ab s.out];rfl
 have nL:V6.drew.frozen? ⟨tb,3,none⟩=false:=aAk (w:=V6) s.out;refine aBa (v:=.int .i64 (b+n:Nat)) (b:=tb) (o:=3) κ rfl rfl nK nL rfl ⟨trivial,?_⟩;simp (maxSteps:=9^7) only[↓qpre,aAb,aAg,aAc];refine aKs (u0:=.int .i64 (o+n:Nat)) (u1:=.int .i64 (t+n:Nat)) (b:=tb) (o:=4) κ rfl rfl (by rw[ab I.out];rfl) (by rw[ab I.out];rfl) (aAk I.out) (aAk I.out) rfl rfl ⟨trivial,?_⟩;simp (maxSteps:=9^7) only[aAb];refine nT _ _ ?_;have HG:=hid (((Keeps.refl (tb::obs (.slice C (L.length+1) D)) V6).drew.trans (Keeps.grown (aAy V6.drew tb 3 (.int .i64 (b+n:Nat))) (by simp))).trans ((Keeps.grown (aAy _ tb 4 (.int .i64 (o+n:Nat))) (by simp)).trans (Keeps.grown (aAy _ tb 5 (.int .i64 (t+n:Nat))) (by simp))));have nW:=hid (((nG.out.drew.setCell (p:=⟨tb,3,none⟩) N (.int .i64 (b+n:Nat))).setCell (p:=⟨tb,4,none⟩) N (.int .i64 (o+n:Nat))).setCell (p:=⟨tb,5,none⟩) N (.int .i64 (t+n:Nat)));have nX:=hid (aK (aK (aK nF.out.drew (a:=⟨tb,3,none⟩) R.out (.int .i64 (b+n:Nat))) (a:=⟨tb,4,none⟩) R.out (.int .i64 (o+n:Nat))) (a:=⟨tb,5,none⟩) R.out (.int .i64 (t+n:Nat)))
 have nY:Hid ((((V6.drew.setCell ⟨tb,3,none⟩ (.int .i64 (b+n:Nat))).setCell ⟨tb,4,none⟩ (.int .i64 (o+n:Nat))).setCell ⟨tb,5,none⟩ (.int .i64 (t+n:Nat))).heap[tb]? = some (.cells #[.slice F K cb,x,y,.int .i64 (b+n:Nat),.int .i64 (o+n:Nat),.int .i64 (t+n:Nat),.slice C (L.length+1) D] 278 (0,0))):=by
  have:=nJ.out;unfold Hid;simpa using this
 have nZ:=hid (nH.out.keep HG.out);clear nQ nR nS nT S U I nI nJ nK nL HG nH nG nF s m3 m4 m5;go_wp2;refine aI (aF rfl _ _ _) rfl ?_;refine ⟨rfl,⟨⟨_,H++[[.int .i64 1,.slice X f.length c0,.slice Y f.length c1,.slice Z f.length c2]],nY.out,?_,R.out,nZ.out⟩,N,nW.out⟩⟩;rw[ae,ia];exact nX.out
def Rv (v:Value):Option (DataW Value×List MemPlace):=some (.held v,[])
theorem aHf {v a:Value}(h:(DataW.held v:DataW Value)=.held a):v=a:=by injection h
theorem bIk:IntKind.i64.min=-9223372036854775808:=by decide
theorem bIl {x:Nat}(h:x<=1000000000):(Lit.int .i64 (x:Int)).wf=true:=by
 simp[Lit.wf,bIk];omega
theorem KI:Maps.Keyed prog 3:=Maps.int_keyed bw
theorem keyI {x:Nat}(h:x<=1000000000):keyOf prog 3 (.int .i64 (x:Int))=some (.int .i64 (x:Int)):=Maps.keyOf_int_mk bw (bIl h)
theorem bFy {x y:Nat}(h:x≠y):(Lit.int .i64 (x:Int))≠Lit.int .i64 (y:Int):=fun e=>by
 injection e with _ e;omega
structure MpI (w:World) (b n:Nat) (D:DataW Value) (F:Nat->Option Nat):Prop where
 own:w.ownsMap prog 3 Rv b n D
 at_:∀x:Nat,x<=1000000000->D.atKey (.int .i64 (x:Int)) (.held (.int .i64 0))=.held (.int .i64 (((F x).getD 0:Nat):Int))
 has:∀x:Nat,x<=1000000000->Maps.has D (.int .i64 (x:Int))=(F x).isSome
theorem MpI.start(w:World):MpI (w.alloc (.map #[] 0)) w.heap.size 0 (.map []) (fun _=>none):=
 ⟨dB _ _ _ _,fun _x _=>rfl,fun _x _=>rfl⟩
theorem MpI.put {F F':Nat->Option Nat}{i j:Nat}(h:MpI w b n D F)(f:i<=1000000000)
  (a:w'.ownsMap prog 3 Rv b (n+1) (D.put (.int .i64 (i:Int)) (.held (.int .i64 (j:Int))))) (c:∀x,F' x=if x=i then some j else F x) :
  MpI w' b (n+1) (D.put (.int .i64 (i:Int)) (.held (.int .i64 (j:Int)))) F':=by
 refine ⟨a,fun x d=>?_,fun x d=>?_⟩
 ·by_cases e:x=i
  ·subst e
   rw[dw h.own.isMap (KI.key (keyI f)),c,ao rfl];rfl
  rw[dp (bFy e),h.at_ x d,c,ah e]
 by_cases e:x=i
 ·subst e
  rw[dQ h.own.isMap (KI.key (keyI f)),c,ao rfl];rfl
 rw[dC (bFy e),h.has x d,c,ah e]
theorem MpI.kept {F:Nat->Option Nat}{row:Option Nat}(h:MpI w b n D F)(c:w.grownBy w' row)(a:some b≠row):MpI w' b n D F:=
 ⟨h.own.kept c a,h.at_,h.has⟩
theorem MpI.below {F:Nat->Option Nat}(h:MpI w b n D F)(a:Below w.heap.size w w'):MpI w' b n D F:=
 h.kept (row:=none) ⟨a.os,a.tape,a.output,a.size,fun k c _=>a.block k c⟩ (by simp)
theorem MpI.look {F:Nat->Option Nat}(h:MpI w b n D F){x:Nat}(c:x<=1000000000) :
  (Instr.lookup 269 (.map (some b)) (.int .i64 (x:Int)) true).run prog w=.ok (.tuple #[.int .i64 (((F x).getD 0:Nat):Int),.bool (F x).isSome]) w:=by
 obtain ⟨v,ps,a,d⟩:=h.own.look_ok KI lc (bS w) (show Rv (.int .i64 0)=some (.held (.int .i64 0),[]) from rfl) (keyI c);rw[h.at_ x c] at d;rw[h.has x c] at a
 have:v=.int .i64 (((F x).getD 0:Nat):Int):=by
  have e:(DataW.held v:DataW Value)=.held (.int .i64 (((F x).getD 0:Nat):Int)):=by
   have:=d;simp only[Rv,dy,fY] at this;exact this.1
  exact aHf e
 rw[this] at a;exact a
def upK:List DV->Nat->Nat->(Nat->Option Nat)->Nat×Nat×(Nat->Option Nat)
 | [],i,j,F=>(i,j,F)
 | e::es,i,j,F=>if e.kind=1 then upK es (i+1) (j+1) (fun x=>if x=i then some j else F x) else if e.kind=2 then upK es (i+1) j F else if e.kind=3 then upK es i (j+1) F else upK es i j F
theorem aJh:∀(es:List DV) (e:DV) (i j:Nat) (F:Nat->Option Nat),upK (es++[e]) i j F=upK [e] (upK es i j F).1 (upK es i j F).2.1 (upK es i j F).2.2
 | [],e,i,j,F=>rfl
 | x::es,e,i,j,F=>by
  rw[aV];by_cases b:x.kind=1
  ·have a:∀l,upK (x::l) i j F=upK l (i+1) (j+1) (fun x=>if x=i then some j else F x):=fun l=>by rw[upK,ao b]
   rw[a,a];exact aJh es e _ _ _
  by_cases c:x.kind=2
  ·have a:∀l,upK (x::l) i j F=upK l (i+1) j F:=fun l=>by rw[upK,ah b,ao c]
   rw[a,a];exact aJh es e _ _ _
  by_cases d:x.kind=3
  ·have a:∀l,upK (x::l) i j F=upK l i (j+1) F:=fun l=>by rw[upK,ah b,ah c,ao d]
   rw[a,a];exact aJh es e _ _ _
  have a:∀l,upK (x::l) i j F=upK l i j F:=fun l=>by rw[upK,ah b,ah c,ah d]
  rw[a,a];exact aJh es e _ _ _
theorem aUa:∀(es:List DV) (i j:Nat) (F:Nat->Option Nat),(upK es i j F).1<=i+es.length/\(upK es i j F).2.1<=j+es.length
 | [],i,j,F=>⟨aa _,aa _⟩
 | x::es,i,j,F=>by
  rw[upK];have a:=aUa es (i+1) (j+1) (fun x=>if x=i then some j else F x);have b:=aUa es (i+1) j F;have c:=aUa es i (j+1) F;have d:=aUa es i j F;simp only[aD];split
  ·omega
  split
  ·omega
  split<;>omega
theorem aHg:∀(es:List DV) (i j:Nat) (F:Nat->Option Nat),kinds es->∀x,(upK es i j F).2.2 x=if x<i then F x else if h:x-i<(placesF es j).length then (match (placesF es j)[x-i] with | some y=>some y | none=>F x) else F x
 | [],i,j,F,_,x=>by
  simp[upK,placesF]
 | e::es,i,j,F,hk,x=>by
  have hke:=hk e (by simp);have hks:kinds es:=fun y hy=>hk y (am _ hy);rw[upK];by_cases h1:e.kind=1
  ·simp only[ao h1,placesF]
   rw[aHg es (i+1) (j+1) _ hks x];by_cases hx:x<i
   ·rw[ao O,ao hx,ah O]
   rw[ah hx];by_cases hx2:x=i
   ·subst hx2;simp
   have:¬x<i+1:=O;rw[ah this];have e1:x-i=(x-(i+1))+1:=O;simp only[e1,aD,jL,j8,ah hx2]
  simp only[ah h1];by_cases h2:e.kind=2
  ·simp only[ao h2,placesF,ah h1]
   rw[aHg es (i+1) j _ hks x];by_cases hx:x<i
   ·rw[ao O,ao hx]
   rw[ah hx];by_cases hx2:x=i
   ·subst hx2;simp
   have:¬x<i+1:=O;rw[ah this];have e1:x-i=(x-(i+1))+1:=O;simp only[e1,aD,jL,j8]
  have h3:e.kind=3:=by rcases hke with h | h | h;exact absurd h h1;exact absurd h h2;exact h
  simp only[ah h2,ao h3,placesF,ah h1];exact aHg es i (j+1) F hks x
def keptAt (base side:List ByteArray)(x:Nat):Option Nat:=((placeF base side)[x]?).bind id
theorem bJe(base side:List ByteArray)(x:Nat):(upK (script base side) 0 0 (fun _=>none)).2.2 x=keptAt base side x:=by
 rw[aHg _ _ _ _ (aNf base side).2.2,ah (bN _)];unfold keptAt placeF;simp only[fh];split
 ·rename_i h
  rw[ac h]
  cases (placesF (script base side) 0)[x]<;>rfl
 rename_i h;rw[bH O];rfl
def KeptIs (F:Nat->Option Nat)(w:World)(e:Ending) (w':World):Prop:=∃b n D,e=.returned (.map (some b))/\w.heap.size<=b/\b<w'.heap.size/\n<=200000/\MpI w' b n D F/\Below w.heap.size w w'
theorem up1 {e:DV}{i j:Nat}{F:Nat->Option Nat}:upK [e] i j F=if e.kind=1 then (i+1,j+1,fun x=>if x=i then some j else F x) else if e.kind=2 then (i+1,j,F) else if e.kind=3 then (i,j+1,F) else (i,j,F):=by
 simp only[upK]
theorem aZp {B:Option Addr}{ca m:Nat}{a b:List ByteArray}(hn:n<=100000)(hm:m<=100000)(ha:Rd w w.heap.size 1 A n ca (a.map .string))(hb:Rd w w.heap.size 1 B m cb (b.map .string)) :
  Calls prog 215 #[.slice A n ca,.slice B m cb] w (KeptIs (keptAt a b) w):=by
 have E:a.length=n:=by have:=ha.len;rw[az] at this;omega
 have G:b.length=m:=by have:=hb.len;rw[az] at this;omega
 have X:=aPj a b;rw[E,G] at X;have Y:=hid (bJe a b);have o:Below w.heap.size w (w.alloc (.map #[] 0)):=(Below.refl _ _).alloc (aa _) _;have H:=hid (MpI.start w);have HS:=aYi (w:=w.alloc (.map #[] 0)) hn hm (ha.to o o.size) (hb.to o o.size);have u:w.heap.size<(w.alloc (.map #[] 0)).heap.size:=by simp
 have y:=hid o;clear o E G ha hb;generalize script a b=S at *;generalize keptAt a b=FF at *;have nr:=@run_makeMap prog;go_enter Tryz.func215,Tryz.ntmps215;go_wp2_with fail;refine HS.mono ?_;rintro e w1 ⟨v,rfl,Q,r⟩;obtain ⟨A1,c1,rfl,O⟩:=aAd Q;have HR:=hid (Rd.of_own Q O);have K:=hid (y.out.trans (r.mono y.out.size));have L:=hid (H.out.below r);have ns:=ag u r.size;have Z:=hid (fun (g:Nat) (t:(Value.slice A1 S.length c1).ownBlock=some g)=>(Q.lt g t).1);have HZ:=hid u;clear HS Q r O H y u;generalize w.alloc (.map #[] 0)=w0 at *;go_wp2;go_loopw[6,7,15] (fun t6 t7 C wr=>∃(k s:Nat) (D:DataW Value),k<=S.length/\C=.int .i64 k/\t6=.int .i64 ((upK (S.take k) 0 0 (fun _=>none)).1:Nat)/\t7=.int .i64 ((upK (S.take k) 0 0 (fun _=>none)).2.1:Nat)/\s<=k/\Hid (Below w.heap.size w wr)/\Hid (Keeps [w.heap.size] w1 wr)/\Hid (MpI wr w.heap.size s D (upK (S.take k) 0 0 (fun _=>none)).2.2)) (fun _ _ C _=>S.length-(intOf C).toNat)
 case atStart=>exact ⟨0,0,_,al _,rfl,rfl,rfl,aa _,K,hid (Keeps.refl _ _),L⟩
 obtain ⟨k,s,D,hk,rfl,rfl,rfl,nz,R,U,V⟩:=hrel;clear L K;have M:=aUa (S.take k) 0 0 (fun _=>none);rw[aE] at M;by_cases nq:k<S.length
 ·obtain ⟨W,o0,e,nm,P,hx,_,hc⟩:=T.rd_flat DV.cells_len ω HR.out rfl nq
  cases nm
  have N:W∉[w.heap.size]:=by
   have h1:=Z.out W rfl;have h2:=HZ.out;simp;omega
  have c0:=(U.out.2 ⟨W,o0+k*2,none⟩ P N).trans (hc 0 _ rfl);have c1:=(U.out.2 ⟨W,o0+k*2+1,none⟩ P N).trans (hc 1 _ rfl)
  have c:=hid (show upK (S.take (k+1)) 0 0 (fun _=>none)=upK [e] (upK (S.take k) 0 0 (fun _=>none)).1 (upK (S.take k) 0 0 (fun _=>none)).2.1 (upK (S.take k) 0 0 (fun _=>none)).2.2 by
   rw[aB,hx];exact aJh _ _ _ _ _)
  clear hx hc;generalize (upK (S.take k) 0 0 (fun _=>none)).1=I at *;generalize (upK (S.take k) 0 0 (fun _=>none)).2.1=J at *;generalize (upK (S.take k) 0 0 (fun _=>none)).2.2=F at *;obtain ⟨hI,hJ⟩:=M;have nu:I<=200000:=ω;have nw:J<=200000:=ω;clear hI hJ;have d:=hid (R.out.alloc R.out.size (.cells #[.int .i64 e.kind,.string e.line] 193));have p:=hid (U.out.trans (Keeps.of_below ((Below.refl wr.heap.size wr).alloc (aa _) (.cells #[.int .i64 e.kind,.string e.line] 193))));have f:=hid (V.out.kept (eI wr (.cells #[.int .i64 e.kind,.string e.line] 193) none) (by simp));clear R U V;obtain ⟨kd,ln⟩:=e;simp only at c0 c1 d p f;by_cases h1:kd=1
  ·subst h1
   have c:=hid (c.out.trans (up1.trans (ao rfl)));go_wp2_with (at_mapUpdate;refine gN _ rfl _ _ _ 269 rfl 3 3 KI lc Rv w.heap.size s D rfl f.out.own (by unfold maxLen;omega) _ _ _ rfl rfl (keyI ω) _ [] rfl ?_;intro w5 q z);have ff:=hid (d.out.grown z d.out.size (fun g t=>by injection t with t;omega));have nj:=hid (p.out.trans (Keeps.grown (l:=[w.heap.size]) z (fun g t=>by injection t with t;simp[t])));have nk:=hid (f.out.put (i:=I) (j:=J) (F':=fun x=>if x=I then some J else F x) ω q (fun x=>rfl));clear d p f q z;go_roundw
   case rel=>exact ⟨k+1,s+1,_,ω,by go_num,by rw[c.out];go_num,by rw[c.out];go_num,ω,ff,nj,by rw[c.out];exact nk⟩
   simp[intOf];omega
  by_cases h2:kd=2
  ·subst h2
   have c:=hid (c.out.trans (up1.trans ((ah (by simp)).trans (ao rfl))));go_wp2;go_roundw
   case rel=>exact ⟨k+1,s,_,ω,by go_num,by rw[c.out];go_num,by rw[c.out],ω,d,p,by rw[c.out];exact f⟩
   simp[intOf];omega
  by_cases h3:kd=3
  ·subst h3
   have c:=hid (c.out.trans (up1.trans ((ah (by simp)).trans ((ah (by simp)).trans (ao rfl)))));go_wp2;go_roundw
   case rel=>exact ⟨k+1,s,_,ω,by go_num,by rw[c.out],by rw[c.out];go_num,ω,d,p,by rw[c.out];exact f⟩
   simp[intOf];omega
  have c:=hid (c.out.trans (up1.trans ((ah h1).trans ((ah h2).trans (ah h3)))));go_wp2;go_roundw
  case rel=>exact ⟨k+1,s,_,ω,by go_num,by rw[c.out],by rw[c.out],ω,d,p,by rw[c.out];exact f⟩
  simp[intOf];omega
 obtain rfl:k=S.length:=ω;rw[ai (aa _)] at *;go_wp2;go_ret;refine ⟨_,s,D,rfl,aa _,V.out.own.lt,ω,?_,R.out⟩;have h:=V.out;rw[show (upK S 0 0 (fun _=>none)).2.2=FF from funext Y.out] at h;exact h
theorem wideP2:(match prog.underlying 273 with | some (.array _ _) | some (.struct _)=>true | _=>false)=true:=T
theorem KP2:Maps.Keyed prog 273:=gw (iL T.laidOut (m:=2) O (aP κ) κ wideP2)
def kl2 (x y:Nat):Lit:=.string (keyBytes [.int .i64 (x:Int),.int .i64 (y:Int)])
theorem bEy {P: Program}{t e: TypeId}{f g: Field} (p : P.underlying t = some (.struct #[f, g])) (h : f.type = e) (i : g.type = e) (j : f.offset = 0) (l : g.offset = 1) (m : (f.name != "_") = true) (n : (g.name != "_") = true) (c : P.cellsOf t = 2) (o : P.cellsOf e = 1)
  (d:P.underlying e=some (.int .i64)) (v:P.keyType t=true) (A:0<P.types.size) {x y:Nat} (w:x<=1000000000) (z:y<=1000000000):keyOf P t (.agg #[.int .i64 (x:Int),.int .i64 (y:Int)])=some (kl2 x y):=by
 obtain ⟨k,u⟩:∃k,P.types.size=k+1:=⟨P.types.size-1,O⟩;have q:P.keyLits (k+1) e [.int .i64 (x:Int)]=some [.int .i64 (x:Int)]:=by simp[Program.keyLits,d,bIl w]
 have r:P.keyLits (k+1) e [.int .i64 (y:Int)]=some [.int .i64 (y:Int)]:=by simp[Program.keyLits,d,bIl z]
 have s:P.keyLits (k+1+1) t [.int .i64 (x:Int),.int .i64 (y:Int)]=some [.int .i64 (x:Int),.int .i64 (y:Int)]:=by
  unfold Program.keyLits;simp only[p];have a : ¬ f.name = "_" := by simpa using m
  have b : ¬ g.name = "_" := by simpa using n
  simp[c,h,i,j,l,o,q,r,a,b]
 simp[keyOf,p,v,Value.formed,c,Value.cells,u,s,kl2]
theorem bDd:prog.keyType 273=true:=T
theorem cellsP2:prog.cellsOf 273=2:=T
theorem aNm:prog.cellsOf 3=1:=T
theorem keyP2 {x y:Nat}(a:x<=1000000000)(b:y<=1000000000):keyOf prog 273 (.agg #[.int .i64 (x:Int),.int .i64 (y:Int)])=some (kl2 x y):=
 bEy ld rfl rfl rfl rfl rfl rfl cellsP2 aNm bw bDd T.types_pos a b
theorem bLq {x y a b:Nat}(g:x<=1000000000)(i:y<=1000000000) (c:a<=1000000000) (d:b<=1000000000)(h:¬(x=a/\y=b)):kl2 x y≠kl2 a b:=fun e=>by
 have f:=keyP2 g i;rw[e] at f;have:=KP2.inj f (keyP2 c d);simp at this;exact h ⟨O,O⟩
structure MpP (w:World) (b n:Nat) (D:DataW Value) (G:Nat->Nat->Option Nat):Prop where
 own:w.ownsMap prog 273 Rv b n D
 at_:∀x y:Nat,x<=1000000000->y<=1000000000->D.atKey (kl2 x y) (.held (.int .i64 0))=.held (.int .i64 (((G x y).getD 0:Nat):Int))
 has:∀x y:Nat,x<=1000000000->y<=1000000000->Maps.has D (kl2 x y)=(G x y).isSome
theorem MpP.start(w:World):MpP (w.alloc (.map #[] 0)) w.heap.size 0 (.map []) (fun _ _=>none):=
 ⟨dB _ _ _ _,fun _x _y _ _=>rfl,fun _x _y _ _=>rfl⟩
theorem MpP.put {G':Nat->Nat->Option Nat}{p q j:Nat}(h:MpP w b n D G)(f:p<=1000000000)(g:q<=1000000000)
  (d:w'.ownsMap prog 273 Rv b (n+1) (D.put (kl2 p q) (.held (.int .i64 (j:Int))))) (i:∀x y,G' x y=if x=p/\y=q then some j else G x y) :
  MpP w' b (n+1) (D.put (kl2 p q) (.held (.int .i64 (j:Int)))) G':=by
 refine ⟨d,fun x y a c=>?_,fun x y a c=>?_⟩
 ·by_cases e:x=p/\y=q
  ·obtain ⟨rfl,rfl⟩:=e
   rw[dw h.own.isMap (KP2.key (keyP2 f g)),i,ao ⟨rfl,rfl⟩];rfl
  rw[dp (bLq a c f g e),h.at_ x y a c,i,ah e]
 by_cases e:x=p/\y=q
 ·obtain ⟨rfl,rfl⟩:=e
  rw[dQ h.own.isMap (KP2.key (keyP2 f g)),i,ao ⟨rfl,rfl⟩];rfl
 rw[dC (bLq a c f g e),h.has x y a c,i,ah e]
theorem MpP.kept {row:Option Nat}(h:MpP w b n D G)(c:w.grownBy w' row)(a:some b≠row):MpP w' b n D G:=
 ⟨h.own.kept c a,h.at_,h.has⟩
theorem MpP.below(h:MpP w b n D G)(a:Below w.heap.size w w'):MpP w' b n D G:=
 h.kept (row:=none) ⟨a.os,a.tape,a.output,a.size,fun k c _=>a.block k c⟩ (by simp)
theorem MpP.look(h:MpP w b n D G){x y:Nat}(c:x<=1000000000)(d:y<=1000000000) :
  (Instr.lookup 271 (.map (some b)) (.agg #[.int .i64 (x:Int),.int .i64 (y:Int)]) true).run prog w=.ok (.tuple #[.int .i64 (((G x y).getD 0:Nat):Int),.bool (G x y).isSome]) w:=by
 obtain ⟨v,ps,a,e⟩:=h.own.look_ok KP2 lf (bS w) (show Rv (.int .i64 0)=some (.held (.int .i64 0),[]) from rfl) (keyP2 c d);rw[h.at_ x y c d] at e;rw[h.has x y c d] at a
 have:v=.int .i64 (((G x y).getD 0:Nat):Int):=by
  have f:(DataW.held v:DataW Value)=.held (.int .i64 (((G x y).getD 0:Nat):Int)):=by
   have:=e;simp only[Rv,dy,fY] at this;exact this.1
  exact aHf f
 rw[this] at a;exact a
def firmF (F1 F2:Nat->Option Nat):Nat->Nat->Nat->Option Nat
 | 0,_,_=>none
 | k+1,x,y=>if F1 k=some x/\F2 k=some y then some k else firmF F1 F2 k x y
theorem aQo:∀{k x y j:Nat},firmF F1 F2 k x y=some j->j<k/\F1 j=some x/\F2 j=some y
 | 0,_,_,_,h=>by simp[firmF] at h
 | k+1,x,y,j,h=>by
  rw[firmF] at h;split at h
  ·rename_i e;injection h with h;subst h;exact ⟨O,e⟩
  obtain ⟨b,a⟩:=aQo h;exact ⟨O,a⟩
theorem bAp(a:∀i b x,i<b->F1 i=some x->F1 b≠some x):∀{k x y j:Nat},j<k->F1 j=some x->F2 j=some y->firmF F1 F2 k x y=some j
 | 0,_,_,_,h,_,_=>by omega
 | k+1,x,y,j,h,h1,h2=>by
  rw[firmF];by_cases e:j=k
  ·subst e;rw[ao ⟨h1,h2⟩]
  rw[ah (fun c=>a j k x O h1 c.1)];exact bAp a O h1 h2
section
variable {base ours theirs:List ByteArray}
theorem aCh {x y:Nat}(h:keptAt base ours x=some y):x<base.length/\y<ours.length:=by
 unfold keptAt at h
 cases e:(placeF base ours)[x]? with
 | none=>rw[e] at h;cases h
 | some z=>
  rw[e] at h;have b:z=some y:=h;subst b;have a:=(aj.1 e).1;rw[(aCw base ours).len] at a;exact ⟨a,((aCw base ours).at_ _ _ e).1⟩
theorem aNz {i a x:Nat}(d:i<a)(h:keptAt base ours i=some x):keptAt base ours a≠some x:=fun c=>by
 have g:∀{i x:Nat},keptAt base ours i=some x->(placeF base ours)[i]? = some (some x):=fun {i x} h=>by
  unfold keptAt at h
  cases e:(placeF base ours)[i]? with
  | none=>rw[e] at h;cases h
  | some z=>rw[e] at h;have b:z=some x:=h;rw[b]
 have:=(aCw base ours).up i a x x d (g h) (g c);omega
theorem bCr(base ours theirs:List ByteArray)(i:Nat)(a:i<base.length):((placeF base ours).zip (placeF base theirs))[i]? = some (keptAt base ours i,keptAt base theirs i):=by
 have b:i<(placeF base ours).length:=by rw[(aCw base ours).len];exact a
 have c:i<(placeF base theirs).length:=by rw[(aCw base theirs).len];exact a
 rw[jp];unfold keptAt;rw[ac b,ac c];exact ⟨rfl,rfl⟩
structure OfAt (base ours theirs:List ByteArray) (i b o t:Nat) (L:List KV):Prop where
 hb:b<=i
 hi:i<=base.length
 ho:o<=ours.length
 ht:t<=theirs.length
 len:L.length<=2*i
 ge:∀i' x y,i<=i'->keptAt base ours i'=some x->keptAt base theirs i'=some y->o<=x/\t<=y
 fin:∃fuel,base.length<=i+fuel/\chunksF base ours theirs=L++goF base ours theirs ((placeF base ours).zip (placeF base theirs)) fuel i b o t
theorem OfAt.start(base ours theirs:List ByteArray):OfAt base ours theirs 0 0 0 0 []:=
 ⟨aa _,al _,al _,al _,al _,fun _ _ _ _ _ _=>⟨al _,al _⟩,base.length,O,rfl⟩
theorem OfAt.skip {i:Nat}(h:OfAt base ours theirs i b o t L)(c:i<base.length)(d:¬((keptAt base ours i).isSome=true/\(keptAt base theirs i).isSome=true)):OfAt base ours theirs (i+1) b o t L:=by
 refine ⟨by have:=h.hb;omega,c,h.ho,h.ht,by have:=h.len;omega,fun g x y j=>h.ge g x y O,?_⟩;obtain ⟨a,m,e⟩:=h.fin;obtain ⟨f,rfl⟩:∃f,a=f+1:=⟨a-1,O⟩;refine ⟨f,O,?_⟩;rw[e,goF,bCr base ours theirs i c]
 cases k:keptAt base ours i with
 | none=>rfl
 | some x=>
  cases l:keptAt base theirs i with
  | none=>rfl
  | some y=>rw[k,l] at d;simp at d
theorem bEq:∀{k:Nat} {a:List (Option Nat×Option Nat)} {p q:Nat},(∀j,j<k->a[j]? = some (some (p+j),some (q+j)))->a[k]?≠some (some (p+k),some (q+k))->runF a p q=k
 | 0,[],p,q,_,_=>rfl
 | 0,(none,_)::a,p,q,_,_=>rfl
 | 0,(some x,none)::a,p,q,_,_=>rfl
 | 0,(some x,some y)::a,p,q,_,h=>by
  rw[runF,ah];rintro ⟨rfl,rfl⟩;exact h rfl
 | k+1,[],p,q,h,_=>by have:=h 0 O;cases this
 | k+1,z::a,p,q,h,h2=>by
  have b:=h 0 O;simp only[iq,dv] at b;injection b with b;subst b;rw[runF,ao ⟨rfl,rfl⟩,bEq (k:=k)]
  ·intro j c
   have:=h (j+1) O;rw[bE] at this;rw[this,show p+1+j=p+(j+1) by omega,show q+1+j=q+(j+1) by omega]
  intro e;refine h2 ?_;rw[bE,e,show p+1+k=p+(k+1) by omega,show q+1+k=q+(k+1) by omega]
def RunTo (base ours theirs:List ByteArray)(i x y n:Nat):Prop:=∀k,k<n->keptAt base ours (i+k)=some (x+k)/\keptAt base theirs (i+k)=some (y+k)
theorem OfAt.run {i x y:Nat}(h:OfAt base ours theirs i b o t L)(I:0<n)(l:RunTo base ours theirs i x y n)(J:¬(keptAt base ours (i+n)=some (x+n)/\keptAt base theirs (i+n)=some (y+n))) :
  OfAt base ours theirs (i+n) (i+n) (x+n) (y+n) (L++betweenF (sliceF base b i) (sliceF ours o x) (sliceF theirs t y)++[⟨1,sliceF base i (i+n),sliceF base i (i+n),sliceF base i (i+n)⟩])/\o<=x/\t<=y/\i+n<=base.length/\x+n<=ours.length/\y+n<=theirs.length:=by
 obtain ⟨d,g⟩:=l 0 I;rw[dv,dv] at d g;obtain ⟨m,p⟩:=l (n-1) O;have l1:=aCh m;have K:=aCh p;have s:=aCh d;obtain ⟨z,A⟩:=h.ge i x y (aa _) d g;have v:(betweenF (sliceF base b i) (sliceF ours o x) (sliceF theirs t y)).length<=1:=by unfold betweenF;split<;>simp
 refine ⟨⟨aa _,O,O,O,by have:=h.len;simp only[ae,bf];omega,fun D E F G r H=>?_,?_⟩,z,A,O,O,O⟩
 ·have Z:=aRe base ours theirs
  have w:=aCh r;have u:=Z.up (i+(n-1)) D _ E _ F O (by rw[bCr base ours theirs _ l1.1,m,p]) (by rw[bCr base ours theirs _ w.1,r,H]);omega
 obtain ⟨a,M,B⟩:=h.fin;obtain ⟨f,rfl⟩:∃f,a=f+1:=⟨a-1,O⟩
 have c:runF (((placeF base ours).zip (placeF base theirs)).drop (i+1)) (x+1) (y+1)=n-1:=by
  refine bEq (fun j N=>?_) (fun e=>?_)
  ·obtain ⟨q,C⟩:=l (j+1) O
   rw[bO,show i+1+j=i+(j+1) by omega,bCr base ours theirs _ (aCh q).1,q,C,show x+1+j=x+(j+1) by omega,show y+1+j=y+(j+1) by omega]
  rw[bO,show i+1+(n-1)=i+n by omega] at e;rcases bo (i+n) base.length with k | k
  ·rw[bCr base ours theirs _ k] at e
   injection e with e;injection e with e1 e2;exact J ⟨by rw[e1,show x+1+(n-1)=x+n by omega],by rw[e2,show y+1+(n-1)=y+n by omega]⟩
  rw[bH (by rw[(aRe base ours theirs).len];exact k)] at e;cases e
 refine ⟨f,O,?_⟩;rw[B,goF,bCr base ours theirs i s.1,d,g];simp only[c];rw[show n-1+1=n by omega,aH,aH,iE]
theorem OfAt.last {i:Nat}(h:OfAt base ours theirs i b o t L)(d:base.length<=i):chunksF base ours theirs=L++betweenF (sliceF base b base.length) (sliceF ours o ours.length) (sliceF theirs t theirs.length):=by
 obtain ⟨a,g,c⟩:=h.fin;rw[c]
 have e:goF base ours theirs ((placeF base ours).zip (placeF base theirs)) a i b o t=betweenF (base.drop b) (ours.drop o) (theirs.drop t):=by
  cases a with
  | zero=>rw[goF]
  | succ f=>rw[goF,bH (by rw[(aRe base ours theirs).len];exact d)]
 rw[e];simp[sliceF]
end
theorem bDz {g h s t i:Nat}{u v:DataW Value}(E:i<=1000000)(m:MpI w m1 s u F1)(n:MpI w m2 t v F2)
  (k:w.cell? ⟨g,0,none⟩=some (.map (some m1))) (l:w.cell? ⟨h,0,none⟩=some (.map (some m2))) (d:g<w.heap.size) (f:h<w.heap.size) :
  Calls prog 216 #[.int .i64 i,.pointer (some ⟨g,0,none⟩),.pointer (some ⟨h,0,none⟩)] w fun e w'=>e=.returned (.tuple #[.agg #[.int .i64 ((F1 i).getD 0:Nat),.int .i64 ((F2 i).getD 0:Nat)],.bool ((F1 i).isSome && (F2 i).isSome)])/\Below w.heap.size w w':=by
 have c:Below w.heap.size w (w.alloc (.cells #[.int .i64 0,.int .i64 0] 273)):=(Below.refl _ _).alloc (aa _) _;have l1:=(m.below c).look (x:=i) O;have D:=(n.below c).look (x:=i) O;have k:=(c.cell (p:=⟨g,0,none⟩) d).trans k;have l:=(c.cell (p:=⟨h,0,none⟩) f).trans l;have a:(w.alloc (.cells #[.int .i64 0,.int .i64 0] 273)).heap[w.heap.size]? = some (.cells #[.int .i64 0,.int .i64 0] 273 (0,0)):=au _ _;have o:=hid c;have b:=hid a;clear m n c a d f;generalize z:(F1 i).getD 0=x at *;generalize A:(F2 i).getD 0=y at *;generalize B:(F1 i).isSome=p at *;generalize C:(F2 i).isSome=q at *;clear z A B C;have r:=hid (bB (w.alloc (.cells #[.int .i64 0,.int .i64 0] 273)) w.heap.size _ #[.int .i64 x,.int .i64 y] _ _ b.out);have j:(prog.info? 273).map (·.size)=some 2:=T;go_enter Tryz.func216,Tryz.ntmps216
 cases p<;>cases q
 all_goals
  go_wp2_with (refine bJ rfl 273 (.tmp 4) (.tmp 24) rfl w.heap.size #[.int .i64 x,.int .i64 y] rfl rfl _ _ b.out j rfl (by simp[Value.oneCell']) ?_)
  try simp only[Exit.inBlock,Exit.then]
  refine bz (aAm rfl _ _ w.heap.size _ _ (0,0) _ rfl r.out ld rfl T) rfl ?_;exact ⟨rfl,aAj o.out (aa _)⟩
def ChunksIs (L:List KV)(w:World)(e:Ending) (w':World):Prop:=
 ∃A c H,e=.returned (.slice A L.length c)/\Rd w' w'.heap.size 4 A L.length c H.flatten/\KIns w' [] L H/\Below w.heap.size w w'
theorem TX.below {x y z:Value}(h:TX w0 w tb x y z b o t L)(a:Below w.heap.size w w'):TX w0 w' tb x y z b o t L:=by
 obtain ⟨c,H,d,e,f,g⟩:=h.ex;exact ⟨⟨c,H,(a.block tb h.hi).trans d,aAf e a,f,g.keep (Keeps.of_below a)⟩,h.lo,h.bel.trans (a.mono h.bel.size)⟩
theorem TX.alloc {x y z:Value}(h:TX w0 w tb x y z b o t L)(a:Obj):TX w0 (w.alloc a) tb x y z b o t L:=
 h.below ((Below.refl _ _).alloc (aa _) _)
theorem TX.start(w:World)(x y z:Value):TX w (w.alloc (.cells #[x,y,z,.int .i64 0,.int .i64 0,.int .i64 0,.slice none 0 0] 278)) w.heap.size x y z 0 0 0 []:=
 ⟨⟨.slice none 0 0,[],au _ _,aA _ _ _ _,by simp[Value.ownBlock],trivial⟩,aa _,(Below.refl _ _).alloc (aa _) _⟩
structure Held3 (w:World) (z m1 m2:Nat) (F1 F2:Nat->Option Nat):Prop where
 c1:w.cell? ⟨z,0,none⟩=some (.map (some m1))
 c2:w.cell? ⟨z+1,0,none⟩=some (.map (some m2))
 p1:∃n D,MpI w m1 n D F1
 p2:∃n D,MpI w m2 n D F2
 lt:z+2<w.heap.size
theorem Held3.below(h:Held3 w z m1 m2 F1 F2)(a:Below w.heap.size w w'):Held3 w' z m1 m2 F1 F2:=by
 obtain ⟨b,c,d⟩:=h.p1;obtain ⟨e,f,g⟩:=h.p2;have:=h.lt;exact ⟨(a.cell (p:=⟨z,0,none⟩) (by show z<_;omega)).trans h.c1,(a.cell (p:=⟨z+1,0,none⟩) (by show z+1<_;omega)).trans h.c2,⟨b,c,d.below a⟩,⟨e,f,g.below a⟩,ag h.lt a.size⟩
theorem Held3.grown(h:Held3 w z m1 m2 F1 F2)(a:w.grownBy w' (some (z+2)))(k:m1≠z+2)(m:m2≠z+2):Held3 w' z m1 m2 F1 F2:=by
 obtain ⟨c,d,e⟩:=h.p1;obtain ⟨f,i,j⟩:=h.p2;have:=h.lt;have b:=Keeps.grown (l:=[z+2]) a (fun g a=>by injection a with a;simp[a]);exact ⟨(b.2 ⟨z,0,none⟩ (by show z<_;omega) (by simp)).trans h.c1,(b.2 ⟨z+1,0,none⟩ (by show z+1<_;omega) (by simp)).trans h.c2,⟨c,d,e.kept a (by simp[k])⟩,⟨f,i,j.kept a (by simp[m])⟩,ag h.lt a.size⟩
theorem stands3 {i:Nat}(h:Held3 w z m1 m2 F1 F2)(c:i<=1000000) :
  Calls prog 216 #[.int .i64 i,.pointer (some ⟨z,0,none⟩),.pointer (some ⟨z+1,0,none⟩)] w fun e w'=>e=.returned (.tuple #[.agg #[.int .i64 ((F1 i).getD 0:Nat),.int .i64 ((F2 i).getD 0:Nat)],.bool ((F1 i).isSome && (F2 i).isSome)])/\Below w.heap.size w w':=by
 obtain ⟨d,f,a⟩:=h.p1;obtain ⟨g,j,b⟩:=h.p2;have:=h.lt;exact bDz c a b h.c1 h.c2 O O
theorem bNm {B C:Option Addr}{ca m q cc:Nat}{a b c:List ByteArray}(hn:n<=100000)(hm:m<=100000)(hq:q<=100000)
  (ha:Rd w w.heap.size 1 A n ca (a.map .string)) (hb:Rd w w.heap.size 1 B m cb (b.map .string)) (hc:Rd w w.heap.size 1 C q cc (c.map .string)) :
  Calls prog 180 #[.slice A n ca,.slice B m cb,.slice C q cc] w (ChunksIs (chunksF a b c) w):=by
 have HA:=hid (show a.length=n by have:=ha.len;rw[az] at this;omega);have HB:=hid (show b.length=m by have:=hb.len;rw[az] at this;omega);have HC:=hid (show c.length=q by have:=hc.len;rw[az] at this;omega);have oU:=@run_makeMap prog;have K1:=aZp hn hm ha hb;go_enter Tryz.func180,Tryz.ntmps180;go_wp2_with fail;refine K1.mono ?_;rintro e w1 ⟨m1,n1,D1,rfl,oK,ou,oX,ow,N⟩;have K2:=aZp (w:=w1) hn hq (ha.to N N.size) (hc.to N N.size);have nI:=hid N;have P:=hid ow;clear K1 N ow;go_wp2_with fail;refine K2.mono ?_;rintro e s ⟨m2,n2,D2,rfl,oL,nH,oY,oz,nN⟩;have nj:=hid (nI.out.trans (nN.mono nI.out.size));have P:=hid (P.out.below nN);have nU:=hid oz;clear K2 nN oz;have nk:Below s.heap.size s (((s.alloc (.cells #[.map (some m1)] 269)).alloc (.cells #[.map (some m2)] 269)).alloc (.map #[] 0)):=(((Below.refl _ _).alloc (aa _) _).alloc (by simp) _).alloc (by simp;omega) _;have nV:(((s.alloc (.cells #[.map (some m1)] 269)).alloc (.cells #[.map (some m2)] 269)).alloc (.map #[] 0)).heap.size=s.heap.size+3:=by simp
 have hh:Held3 (((s.alloc (.cells #[.map (some m1)] 269)).alloc (.cells #[.map (some m2)] 269)).alloc (.map #[] 0)) s.heap.size m1 m2 (keptAt a b) (keptAt a c):=by
  refine ⟨?_,?_,⟨_,_,P.out.below nk⟩,⟨_,_,nU.out.below nk⟩,by rw[nV];omega⟩
  ·have h1:=(((Below.refl (s.heap.size+1) (s.alloc (.cells #[.map (some m1)] 269))).alloc (by simp) (.cells #[.map (some m2)] 269)).alloc (by simp) (.map #[] 0)).cell (p:=⟨s.heap.size,0,none⟩) (de _)
   rw[h1,World.cell?,au];rfl
  have h1:=((Below.refl (s.heap.size+2) ((s.alloc (.cells #[.map (some m1)] 269)).alloc (.cells #[.map (some m2)] 269))).alloc (by simp) (.map #[] 0)).cell (p:=⟨s.heap.size+1,0,none⟩) (de _);have K:=au (s.alloc (.cells #[.map (some m1)] 269)) (.cells #[.map (some m2)] 269);rw[show (s.alloc (.cells #[.map (some m1)] 269)).heap.size=s.heap.size+1 by simp] at K;rw[h1,World.cell?,K];rfl
 have hp:MpP (((s.alloc (.cells #[.map (some m1)] 269)).alloc (.cells #[.map (some m2)] 269)).alloc (.map #[] 0)) (s.heap.size+2) 0 (.map []) (firmF (keptAt a b) (keptAt a c) 0):=by
  have:=MpP.start ((s.alloc (.cells #[.map (some m1)] 269)).alloc (.cells #[.map (some m2)] 269));rw[show ((s.alloc (.cells #[.map (some m1)] 269)).alloc (.cells #[.map (some m2)] 269)).heap.size=s.heap.size+2 by simp] at this;exact this
 have nW:=hid (nj.out.trans (nk.mono nj.out.size));have HH:=hid hh;have HP:=hid hp;have oV:w.heap.size<=s.heap.size:=nj.out.size;have oR:m1<s.heap.size:=P.out.own.lt;have oS:m2<s.heap.size:=nH;clear nk hh hp nV nI nj P nU oK ou oL nH;go_wp2;generalize ((s.alloc (.cells #[.map (some m1)] 269)).alloc (.cells #[.map (some m2)] 269)).alloc (.map #[] 0)=W at *;generalize s.heap.size=z at *;have nX:∀i x,keptAt a b i=some x->i<a.length/\x<b.length:=fun i x h=>aCh h;have nY:∀i x,keptAt a c i=some x->i<a.length/\x<c.length:=fun i x h=>aCh h;have nm:=hid nX;have nJ:=hid nY;clear nX nY;go_loopw[31] (fun nR wr=>∃(k nn:Nat) (D:DataW Value),k<=n/\nR=.int .i64 k/\nn<=k/\Hid (Below w.heap.size w wr)/\Hid (Held3 wr z m1 m2 (keptAt a b) (keptAt a c))/\Hid (MpP wr (z+2) nn D (firmF (keptAt a b) (keptAt a c) k))) (fun nR _=>n-(intOf nR).toNat)
 case atStart=>exact ⟨0,0,_,al _,rfl,aa _,nW,HH,HP⟩
 obtain ⟨k,nn,D,hk,rfl,oM,u,X,nO⟩:=hrel;clear nW HH HP;have oT:=X.out.lt;by_cases nE:k<n
 ·have K3:=stands3 (i:=k) X.out ω
  go_wp2_with fail;refine K3.mono ?_;rintro e O ⟨rfl,G⟩;have M:=hid (u.out.trans (G.mono u.out.size));have nq:=hid (X.out.below G);have nr:=hid (nO.out.below G);clear K3 G u X nO;by_cases f:(keptAt a b k).isSome=true/\(keptAt a c k).isSome=true
  ·obtain ⟨x,hx⟩:=b8.1 f.1
   obtain ⟨y,hy⟩:=b8.1 f.2;have ns:=(nm.out k x hx).2;have nu:=(nJ.out k y hy).2;rw[HB.out] at ns;rw[HC.out] at nu;rw[hx,hy];simp only[d8,da,jM];have nw:=hid (And.intro hx hy);clear hx hy f;have Q:=hid (M.out.alloc M.out.size (.cells #[.int .i64 x,.int .i64 y] 273));have nz:=hid (nq.out.below ((Below.refl O.heap.size O).alloc (aa _) (.cells #[.int .i64 x,.int .i64 y] 273)));have R:=hid (nr.out.below ((Below.refl O.heap.size O).alloc (aa _) (.cells #[.int .i64 x,.int .i64 y] 273)));clear M nq nr;go_wp2_with (at_mapUpdate;refine gN _ rfl _ _ _ 271 rfl 273 3 KP2 lf Rv (z+2) nn D rfl R.out.own (by unfold maxLen;omega) _ _ _ rfl rfl (keyP2 ω ω) _ [] rfl ?_;intro w7 Y nP);have oE:=hid (Q.out.grown nP Q.out.size (fun g hg=>by injection hg with hg;omega));have oF:=hid (nz.out.grown nP ω ω)
   have oG:=hid (R.out.put (p:=x) (q:=y) (j:=k) (G':=firmF (keptAt a b) (keptAt a c) (k+1)) ω ω Y (fun x' y'=>by
    rw[firmF,nw.out.1,nw.out.2];by_cases h:x'=x/\y'=y
    ·rw[ao h,ao ⟨by rw[h.1],by rw[h.2]⟩]
    rw[ah h,ah (fun K=>h ⟨by injection K.1 with e;exact e.symm,by injection K.2 with e;exact e.symm⟩)]))
   clear Q nz R Y nP;go_roundw
   case rel=>exact ⟨k+1,nn+1,_,ω,by go_num,ω,oE,oF,oG⟩
   simp[intOf];omega
  have r:((keptAt a b k).isSome && (keptAt a c k).isSome)=false:=by
   cases h1:(keptAt a b k).isSome<;>cases K:(keptAt a c k).isSome<;>simp_all
  rw[r]
  have nF:Hid (MpP O (z+2) nn D (firmF (keptAt a b) (keptAt a c) (k+1))):=by
   have h:=nr.out
   have e:firmF (keptAt a b) (keptAt a c) (k+1)=firmF (keptAt a b) (keptAt a c) k:=by
    funext x y;rw[firmF,ah];rintro ⟨h1,K⟩;exact f ⟨by rw[h1];rfl,by rw[K];rfl⟩
   unfold Hid;rw[e];exact h
  clear r f nr;generalize (keptAt a b k).getD 0=x at *;generalize (keptAt a c k).getD 0=y at *;have Q:=hid (M.out.alloc M.out.size (.cells #[.int .i64 x,.int .i64 y] 273));have nz:=hid (nq.out.below ((Below.refl O.heap.size O).alloc (aa _) (.cells #[.int .i64 x,.int .i64 y] 273)));have R:=hid (nF.out.below ((Below.refl O.heap.size O).alloc (aa _) (.cells #[.int .i64 x,.int .i64 y] 273)));clear M nq nF;go_wp2;go_roundw
  case rel=>exact ⟨k+1,nn,_,ω,by go_num,ω,Q,nz,R⟩
  simp[intOf];omega
 obtain rfl:k=n:=ω;have nA:=hid (ha.to u.out u.out.size);have nZ:=hid (hb.to u.out u.out.size);have n5:=hid (hc.to u.out u.out.size);have nK:=hid (TX.start wr (.slice A k ca) (.slice B m cb) (.slice C q cc));have nG:=hid (OfAt.start a b c);clear ha hb hc nE hk oM;go_wp2;generalize wr.alloc (.cells #[.slice A k ca,.slice B m cb,.slice C q cc,.int .i64 0,.int .i64 0,.int .i64 0,.slice none 0 0] 278)=w4 at *;obtain ⟨tb,oA⟩:∃tb,tb=wr.heap.size:=⟨_,rfl⟩;rw[<-oA] at nK ⊢;clear oA;go_loopw[15] (fun nS wq=>∃(i b0 o t:Nat) (L:List KV),nS=.int .i64 i/\Hid (OfAt a b c i b0 o t L)/\Hid (TX wr wq tb (.slice A k ca) (.slice B m cb) (.slice C q cc) b0 o t L)) (fun nS _=>k-(intOf nS).toNat)
 case atStart=>exact ⟨0,0,0,0,[],rfl,nG,nK⟩
 clear nK nG;obtain ⟨i,b0,o,t,L,rfl,l,HT⟩:=hrel;have n7:=l.out.hb;have oH:=l.out.hi;rw[HA.out] at oH;by_cases nE:i<k
 ·have K3:=stands3 (i:=i) (X.out.below HT.out.bel) ω
  go_wp2_with fail;refine K3.mono ?_;rintro e O ⟨rfl,G⟩;have nB:=hid (HT.out.below G);clear K3 G HT;by_cases f:(keptAt a b i).isSome=true/\(keptAt a c i).isSome=true
  ·obtain ⟨x,hx⟩:=b8.1 f.1
   obtain ⟨y,hy⟩:=b8.1 f.2;have ns:=(nm.out i x hx).2;have nu:=(nJ.out i y hy).2;rw[HB.out] at ns;rw[HC.out] at nu;rw[hx,hy];simp only[d8,da,jM];obtain ⟨oN,oO⟩:=l.out.ge i x y (aa _) hx hy;have nw:=hid (And.intro hx hy);clear hx hy f;have n8:=hid (au O (.cells #[.int .i64 x,.int .i64 y] 273));have nC:=hid (nB.out.alloc (.cells #[.int .i64 x,.int .i64 y] 273));have S:=bLk nA.out nZ.out n5.out hn hm hq (by have:=l.out.len;omega) nC.out n7 (bV nE) oN (bV ns) oO (bV nu);clear nB;go_wp2_with fail;refine S.mono ?_;rintro e w7 ⟨rfl,I,oB⟩;obtain ⟨c0,c1⟩:=oB _ _ _ _ n8.out;have nD:=hid I;have od:=hid (show (betweenF (sliceF a b0 i) (sliceF b o x) (sliceF c t y)).length<=1 by unfold betweenF;split<;>simp);have oI:=hid (fun (j:Nat) (hj:x+j<=1000000000) (oQ:y+j<=1000000000)=>(nO.out.below I.bel).look (x:=x+j) (y:=y+j) hj oQ);clear S I oB n8 nC;generalize O.heap.size=pb at *;go_wp2;go_loopw[18] (fun nT wv=>∃j:Nat,1<=j/\nT=.int .i64 j/\i+j<=k/\Hid (RunTo a b c i x y j)/\wv=w7) (fun nT _=>k+1-(intOf nT).toNat)
   case atStart=>exact ⟨1,aa _,rfl,ω,hid (fun d hd=>by rw[show d=0 by omega];exact nw.out),rfl⟩
   obtain ⟨j,oZ,rfl,o6,J,rfl⟩:=hrel
   have v:Hid (x+j<=m/\y+j<=q):=by
    obtain ⟨p1,p2⟩:=J.out (j-1) ω;have l1:=(nm.out _ _ p1).2;have l2:=(nJ.out _ _ p2).2;rw[HB.out] at l1;rw[HC.out] at l2;exact ⟨ω,ω⟩
   have hl:=oI.out j (by have:=v.out;omega) (by have:=v.out;omega);rw[show ((x+j:Nat):Int)=(x:Int)+j by push_cast;rfl,show ((y+j:Nat):Int)=(y:Int)+j by push_cast;rfl] at hl
   cases hG:firmF (keptAt a b) (keptAt a c) k (x+j) (y+j) with
   | none=>
    have E:Hid (¬(keptAt a b (i+j)=some (x+j)/\keptAt a c (i+j)=some (y+j))):=by
     rintro ⟨p1,p2⟩;have l1:=(nm.out _ _ p1).1;rw[HA.out] at l1;rw[bAp (fun i i' x hi h=>aNz hi h) l1 p1 p2] at hG
     cases hG
    rw[hG] at hl;simp only[gY,dr] at hl;clear hG;have T:=bAn (n:=j) nA.out hn (by have:=v.out;omega) (by have:=v.out;omega) (by have:=l.out.len;simp only[ae];have:=od.out;omega) nD.out ω;go_wp2_with fail;refine T.mono ?_;rintro e w8 ⟨rfl,Z⟩;have nL:=hid Z;have U:=hid (l.out.run ω J.out E.out).1;clear T Z nD;go_wp2;go_roundw
    case rel=>exact ⟨i+j,i+j,x+j,y+j,_,by go_num,U,nL⟩
    simp[intOf];omega
   | some d=>
    obtain ⟨o8,ff,nQ⟩:=aQo hG;rw[hG] at hl;simp only[d8,da] at hl;clear hG;by_cases oD:d=i+j
    ·subst oD
     have nM:Hid (RunTo a b c i x y (j+1)):=fun e he=>by
      rcases bo e j with h | h
      ·exact J.out e h
      rw[show e=j by omega];exact ⟨ff,nQ⟩
     clear ff nQ;rw[show ((i+j:Nat):Int)=(i:Int)+j by push_cast;rfl] at hl;go_wp2;go_roundw
     case rel=>exact ⟨j+1,ω,by go_num,ω,nM,trivial⟩
     simp[intOf];omega
    have E:Hid (¬(keptAt a b (i+j)=some (x+j)/\keptAt a c (i+j)=some (y+j))):=by
     rintro ⟨p1,p2⟩;rcases eZ d (i+j) with h | h | h
     ·exact aNz h ff p1
     ·exact oD h
     exact aNz h p1 ff
    clear ff nQ;have oW:¬(d:Int)=(i:Int)+j:=ω;have T:=bAn (n:=j) nA.out hn (by have:=v.out;omega) (by have:=v.out;omega) (by have:=l.out.len;simp only[ae];have:=od.out;omega) nD.out ω;go_wp2_with fail;refine T.mono ?_;rintro e w8 ⟨rfl,Z⟩;have nL:=hid Z;have U:=hid (l.out.run ω J.out E.out).1;clear T Z nD;go_wp2;go_roundw
    case rel=>exact ⟨i+j,i+j,x+j,y+j,_,by go_num,U,nL⟩
    simp[intOf];omega
  have oe:=hid (l.out.skip (by rw[HA.out];exact nE) f)
  have r:((keptAt a b i).isSome && (keptAt a c i).isSome)=false:=by
   cases h1:(keptAt a b i).isSome<;>cases K:(keptAt a c i).isSome<;>simp_all
  rw[r];clear r f l;generalize (keptAt a b i).getD 0=x at *;generalize (keptAt a c i).getD 0=y at *;have nC:=hid (nB.out.alloc (.cells #[.int .i64 x,.int .i64 y] 273));clear nB;go_wp2;go_roundw
  case rel=>exact ⟨i+1,b0,o,t,L,by go_num,oe,nC⟩
  simp[intOf];omega
 obtain rfl:i=k:=ω;have S:=bLk nA.out nZ.out n5.out hn hm hq (by have:=l.out.len;omega) HT.out n7 (aa _) (by have:=l.out.ho;rw[HB.out] at this;exact this) (aa _) (by have:=l.out.ht;rw[HC.out] at this;exact this) (aa _);have V:=hid (l.out.last (by rw[HA.out];exact aa _));rw[HA.out,HB.out,HC.out] at V;go_wp2_with fail;refine S.mono ?_;rintro e w7 ⟨rfl,I,_⟩;clear S HT l;obtain ⟨pa,H,h1,K,h3,h4⟩:=I.ex;obtain ⟨A9,c9,rfl,oP⟩:=aAd K;have oh:=hid (Rd.of_own K oP);have ol:=hid (h4.less (m:=[]) (fun b hb=>by cases hb));have oJ:=hid (u.out.trans (I.bel.mono u.out.size));have c6:w7.cell? ⟨tb,6,none⟩=some (.slice A9 (L++betweenF (sliceF a b0 i) (sliceF b o m) (sliceF c t q)).length c9):=by rw[ab h1];rfl
 rw[<-V.out] at oh ol c6;clear h1 K h3 h4 I V;generalize chunksF a b c=F at *;generalize oC:F.length=fl at *;have oq:=hid oC;clear oC;go_wp2;go_ret;exact ⟨A9,c9,H,by rw[oq.out];rfl,by rw[oq.out];exact oh.out,ol.out,oJ.out⟩
theorem aRx:∀{H:List (List Value)},(∀cs∈H,cs.length=4)->∀{i t:Nat} {cs:List Value},H[i]? = some cs->t<4->H.flatten[i*4+t]? = cs[t]?
 | [],_,i,t,cs,h,_=>by simp at h
 | x::H,hl,0,t,cs,h,ht=>by
  simp at h;subst h;rw[el,ed,aO,aZ (by rw[hl x (by simp)];exact ht)]
 | x::H,hl,i+1,t,cs,h,ht=>by
  simp at h;rw[el,a6 (by rw[hl x (by simp),fe];omega),hl x (by simp),show (i+1)*4+t-4=i*4+t by rw[fe];omega];exact aRx (fun cs h=>hl cs (am _ h)) h ht
theorem KIns.all4 {l:List Nat}:∀{L:List KV} {H:List (List Value)},KIns w l L H->∀cs∈H,cs.length=4
 | [],[],_,cs,h=>by cases h
 | _::_,_::_,h,cs,a=>by
  rcases ax.1 a with rfl | a
  ·exact h.1.len.1
  exact KIns.all4 h.2 cs a
structure RdK (w:World) (B:Nat) (A:Option Addr) (c:Nat) (L:List KV):Prop where
 ex:∃H:List (List Value),Rd w B 4 A L.length c H.flatten/\KIns w [] L H
theorem RdK.to(h:RdK w w.heap.size A c L)(a:Below w.heap.size w w'):RdK w' w'.heap.size A c L:=by
 obtain ⟨H,b,d⟩:=h.ex;exact ⟨H,b.to a a.size,d.keep (Keeps.of_below a)⟩
theorem RdK.at_ {i:Nat}{k:KV}(h:RdK w B A c L)(q:L[i]? = some k) :
  ∃b o d f g j l m,A=some ⟨b,o,none⟩/\b<B/\w.cell? ⟨b,o+i*4,none⟩=some (.int .i64 k.kind)/\w.cell? ⟨b,o+i*4+1,none⟩=some (.slice d k.base.length f)/\w.cell? ⟨b,o+i*4+2,none⟩=some (.slice g k.ours.length j)/\w.cell? ⟨b,o+i*4+3,none⟩=some (.slice l k.theirs.length m)/\
   Rd w w.heap.size 1 d k.base.length f (k.base.map .string)/\Rd w w.heap.size 1 g k.ours.length j (k.ours.map .string)/\Rd w w.heap.size 1 l k.theirs.length m (k.theirs.map .string):=by
 obtain ⟨H,s,p⟩:=h.ex;obtain ⟨cs,u,d,f,g,j,l,m,rfl,v,x,y⟩:=p.get q;have r:=(aj.1 q).1;obtain ⟨b,o,e,z,n⟩:=s.at_ O;have a:=fun t C=>aRx p.all4 u (t:=t) C;refine ⟨b,o,d,f,g,j,l,m,e,z,?_,?_,?_,?_,v.1,x.1,y.1⟩
 ·exact n _ _ (a 0 O)
 ·rw[dI];exact n _ _ (a 1 O)
 ·rw[dI];exact n _ _ (a 2 O)
 rw[dI];exact n _ _ (a 3 O)
theorem bCs {b c d:Option Addr}{e f g h i j:Nat}{K:Int} :
  Calls prog 221 #[.agg #[.int .i64 K,.slice b e f,.slice c g h,.slice d i j]] w (BoolBelow (decide (K=5)) w):=by
 have a:Below w.heap.size w (w.alloc (.cells #[.int .i64 K,.slice b e f,.slice c g h,.slice d i j] 143)):=(Below.refl _ _).alloc (aa _) _;have k:=hid a;clear a;go_enter Tryz.func221,Tryz.ntmps221;go_wp2;go_ret;exact ⟨rfl,k.out⟩
theorem bBk(I:L.length<=1000000)(h:RdK w w.heap.size A c L) :
  Calls prog 264 #[.slice A L.length c,.func (.func 221) #[] #[]] w (PlaceOf (!cleanF L) L.length w):=by
 go_enter Tryz.func264,Tryz.ntmps264;go_wp2;go_loopw[8] (fun i wr=>∃k:Nat,k<=L.length/\i=.int .i64 k/\Hid (Below w.heap.size w wr)/\Hid (∀u∈L.take k,u.kind≠5)) (fun i _=>L.length-(intOf i).toNat)
 case atStart=>exact ⟨0,al _,rfl,hid (Below.refl _ _),by rw[bi];intro m a;cases a⟩
 obtain ⟨k,z,rfl,d,y⟩:=hrel;by_cases s:k<L.length
 ·obtain ⟨u,j⟩:∃u,L[k]? = some u:=⟨_,ac s⟩
  obtain ⟨n,o,B,C,D,E,F,G,rfl,b,t,q1,q2,v,_⟩:=h.at_ j;replace t:=(d.out.cell (p:=⟨n,o+k*4,none⟩) b).trans t;replace q1:=(d.out.cell (p:=⟨n,o+k*4+1,none⟩) b).trans q1;replace q2:=(d.out.cell (p:=⟨n,o+k*4+2,none⟩) b).trans q2;replace v:=(d.out.cell (p:=⟨n,o+k*4+3,none⟩) b).trans v;have x:=hid j;clear j;go_wp2_with fail;refine bCs.mono ?_;rintro e H ⟨rfl,l⟩;have g:=hid (d.out.trans (l.mono d.out.size));clear l;by_cases f:u.kind=5
  ·have q:=hid f
   rw[aq f];clear f;go_wp2;go_ret;refine ⟨k,rfl,?_,O,O,g.out⟩;rw[aq O,cz,cleanF,dM];exact ⟨u,aC x.out,by rw[q.out];simp⟩
  have q:=hid f;rw[ak f];clear f;go_wp2;go_roundw
  case rel=>
   refine ⟨k+1,O,by go_num,g,?_⟩;intro m a;rw[aB,x.out] at a;rcases aQ.1 a with a | a
   ·exact y.out m a
   simp at a;subst a;exact q.out
  simp[intOf];omega
 have r:k=L.length:=O;subst r;go_wp2;go_ret;refine ⟨-1,rfl,?_,O,O,d.out⟩;rw[ak O,Bool.not_eq_false',cleanF,bF];intro u j;exact aq (y.out u (by rw[ai (aa _)];exact j))
theorem bFc(i:L.length<=1000000)(h:RdK w w.heap.size A c L) :
  Calls prog 182 #[.slice A L.length c] w (BoolBelow (cleanF L) w):=by
 have b:Calls prog 220 #[.slice A L.length c,.func (.func 221) #[] #[]] w (BoolBelow (!cleanF L) w):=by
  have d:=bBk i h;generalize cleanF L=q at *;generalize L.length=n at *;go_enter Tryz.func220,Tryz.ntmps220;go_wp2_with fail;refine d.mono ?_;rintro e f ⟨k,rfl,g,j,l,a⟩;clear d;go_wp2;go_ret;exact ⟨by rw[g];rfl,a⟩
 generalize cleanF L=q at *;generalize L.length=n at *;go_enter Tryz.func182,Tryz.ntmps182;go_wp2_with fail;refine b.mono ?_;rintro e f ⟨rfl,a⟩;clear b;go_wp2;go_ret;exact ⟨by simp,a⟩
theorem aLi(L:List KV)(k:KV):mergedF (L++[k])=mergedF L++if k.kind=3 then k.theirs else k.ours:=by simp[mergedF]
theorem aHk:∀(L:List KV) (k:Nat),(mergedF (L.take k)).length<=(mergedF L).length:=fun L k=>by
 have:mergedF (L.take k)++mergedF (L.drop k)=mergedF L:=by simp only[mergedF];rw[<-aJ,aY]
 rw[<-this,ae];omega
theorem aQi(hn:L.length<=1000000)(hs:(mergedF L).length<=1000000)(h:RdK w w.heap.size A c L) :
  Calls prog 184 #[.slice A L.length c] w (LinesIs (mergedF L) w):=by
 go_enter Tryz.func184,Tryz.ntmps184;go_wp2;go_loopw[3,8] (fun P i wr=>∃k:Nat,k<=L.length/\i=.int .i64 k/\Hid (Below w.heap.size w wr)/\Hid (wr.ownsRow w.heap.size 9 1 P (mergedF (L.take k)).length ((mergedF (L.take k)).map .string))) (fun _ i _=>L.length-(intOf i).toNat)
 case atStart=>exact ⟨0,al _,rfl,hid (Below.refl _ _),by rw[bi];exact aA _ _ _ _⟩
 obtain ⟨k,hk,rfl,m,v⟩:=hrel;have ff:=aHk L k;by_cases R:k<L.length
 ·obtain ⟨u,I⟩:∃u,L[k]? = some u:=⟨_,ac R⟩
  obtain ⟨C,D,T,U,V,W,X,Y,rfl,l,E,q1,q2,F,Z,J,K⟩:=h.at_ I;replace E:=(m.out.cell (p:=⟨C,D+k*4,none⟩) l).trans E;replace q1:=(m.out.cell (p:=⟨C,D+k*4+1,none⟩) l).trans q1;replace q2:=(m.out.cell (p:=⟨C,D+k*4+2,none⟩) l).trans q2;replace F:=(m.out.cell (p:=⟨C,D+k*4+3,none⟩) l).trans F;have b:=aHk L (k+1)
  have t:Hid (mergedF (L.take (k+1))=mergedF (L.take k)++if u.kind=3 then u.theirs else u.ours):=by
   rw[aB,I];exact aLi _ _
  rw[t.out,ae] at b;clear I;obtain ⟨N,Lb,Lo,Lt⟩:=u;simp only at E q1 q2 F Z J K b t;have d:=m.out.alloc m.out.size (.cells #[.int .i64 N,.slice T Lb.length U,.slice V Lo.length W,.slice X Lt.length Y] 143);have a:=hid d;have e:=hid (v.out.alloc (.cells #[.int .i64 N,.slice T Lb.length U,.slice V Lo.length W,.slice X Lt.length Y] 143));have n:=hid (J.to d d.size);have o:=hid (K.to d d.size);clear Z J K d m v;generalize mergedF (L.take k)=M0 at *;generalize z:M0.length=n0 at *;have x:=hid z;clear z;by_cases S:N=3
  ·rw[ao S] at b t
   subst S;go_wp2_with (at_builtin;refine aAl rfl (.tmp 15) (.tmp 17) 135 rfl aCq rfl rfl e.out o.out (aAt _) (by unfold maxLen;omega) ω a.out.size ?_;intro v7 w7 f j s);have q:=hid (a.out.grown j a.out.size (fun g Q=>(e.out.lt g Q).1));have r:=hid f;clear f j s e a n o;go_roundw
   case rel=>exact ⟨k+1,ω,by go_num,q,by rw[t.out,aM,ae,x.out];exact r⟩
   simp[intOf];omega
  rw[ah S] at b t;go_wp2_with (at_builtin;refine aAl rfl (.tmp 19) (.tmp 21) 135 rfl aCq rfl rfl e.out n.out (aAt _) (by unfold maxLen;omega) ω a.out.size ?_;intro v7 w7 f j s);have q:=hid (a.out.grown j a.out.size (fun g Q=>(e.out.lt g Q).1));have r:=hid f;clear f j s e a n o;go_roundw
  case rel=>exact ⟨k+1,ω,by go_num,q,by rw[t.out,aM,ae,x.out];exact r⟩
  simp[intOf];omega
 have G:k=L.length:=ω;subst G;rw[ai (aa _)] at v;obtain ⟨A9,c9,rfl,O⟩:=aAd v.out;have H:=hid (Rd.of_own v.out O);clear v;generalize mergedF L=M at *;generalize B:M.length=ml at *;have y:=hid B;clear B;go_wp2;go_ret;exact ⟨A9,c9,by rw[y.out];rfl,by rw[y.out];exact H.out,m.out⟩
theorem KS:Maps.Keyed prog 9:=Maps.string_keyed bG
theorem keyS {x:ByteArray}(h:x.size<=maxLen):keyOf prog 9 (.string x)=some (.string x.data.toList):=by
 rw[keyOf_string bG];simp[mapKey,bG,h]
theorem aZz {key:Value}{a:Lit}(h:keyOf prog 9 key=some a):∃s:ByteArray,key=.string s/\a=.string s.data.toList/\s.size<=maxLen:=Go.WideMaps.string_of_keyOf bG h
theorem bEu {x y:ByteArray}(h:x≠y):(Lit.string x.data.toList)≠Lit.string y.data.toList:=fun e=>by
 injection e with e;exact h (aCi e)
structure MpS (w:World) (b n:Nat) (D:DataW Value) (F:ByteArray->Option Int):Prop where
 own:w.ownsMap prog 9 Rv b n D
 at_:∀(x:ByteArray) (v:Int),x.size<=maxLen->F x=some v->∀zd,D.atKey (.string x.data.toList) zd=.held (.int .i64 v)
 has:∀x:ByteArray,x.size<=maxLen->Maps.has D (.string x.data.toList)=(F x).isSome
theorem MpS.start(w:World):MpS (w.alloc (.map #[] 0)) w.heap.size 0 (.map []) (fun _=>none):=
 ⟨dB _ _ _ _,fun x v _ h=>(by cases h),fun x _=>rfl⟩
theorem MpS.put {F:ByteArray->Option Int}{k:ByteArray}{v:Int}(h:MpS w b n D F)(f:k.size<=maxLen)
  (c:w'.ownsMap prog 9 Rv b (n+1) (D.put (.string k.data.toList) (.held (.int .i64 v)))) :
  MpS w' b (n+1) (D.put (.string k.data.toList) (.held (.int .i64 v))) (fun x=>if x=k then some v else F x):=by
 refine ⟨c,fun x u d a g=>?_,fun x d=>?_⟩
 ·by_cases e:x=k
  ·subst e
   rw[ao rfl] at a;injection a with a;subst a;rw[dw h.own.isMap (KS.key (keyS f))]
  rw[ah e] at a;rw[dp (bEu e)];exact h.at_ x u d a g
 by_cases e:x=k
 ·subst e
  rw[dQ h.own.isMap (KS.key (keyS f)),ao rfl];rfl
 rw[dC (bEu e),h.has x d,ah e]
def mO:ByteArray:=⟨#[60,60,60,60,60,60,60,32,111,117,114,115,10]⟩
def mB:ByteArray:=⟨#[124,124,124,124,124,124,124,32,98,97,115,101,10]⟩
def mT:ByteArray:=⟨#[61,61,61,61,61,61,61,10]⟩
def mE:ByteArray:=⟨#[62,62,62,62,62,62,62,32,116,104,101,105,114,115,10]⟩
def markM (x:ByteArray):Option Int:=if x=mE then some 0 else if x=mT then some 3 else if x=mB then some 2 else if x=mO then some 1 else none
def markS (k:Nat):ByteArray:=if k=0 then mE else if k=1 then mO else if k=2 then mB else mT
theorem bJc {x:ByteArray}{k:Nat}(i:k<=3):markM x=some (k:Int)↔x=markS k:=by
 have a:mT≠mE:=by decide
 have b:mB≠mE:=by decide
 have c:mB≠mT:=by decide
 have d:mO≠mE:=by decide
 have f:mO≠mT:=by decide
 have g:mO≠mB:=by decide
 have:k=0\/k=1\/k=2\/k=3:=O;constructor
 ·intro h
  unfold markM at h;split at h
  ·rename_i e;injection h with h;rw[e,show k=0 by omega];rfl
  split at h
  ·rename_i e;injection h with h;rw[e,show k=3 by omega];rfl
  split at h
  ·rename_i e;injection h with h;rw[e,show k=2 by omega];rfl
  split at h
  ·rename_i e;injection h with h;rw[e,show k=1 by omega];rfl
  cases h
 rintro rfl;rcases this with rfl | rfl | rfl | rfl
 ·rw[show markS 0=mE from rfl,markM,ao rfl];rfl
 ·rw[show markS 1=mO from rfl,markM,ah d,ah f,ah g,ao rfl];rfl
 ·rw[show markS 2=mB from rfl,markM,ah b,ah c,ao rfl];rfl
 rw[show markS 3=mT from rfl,markM,ah a,ao rfl];rfl
def MarksIs (w:World)(e:Ending) (w':World):Prop:=∃b D,e=.returned (.map (some b))/\w.heap.size<=b/\MpS w' b 4 D markM/\Below w.heap.size w w'
theorem bEv:Calls prog 268 #[] w (MarksIs w):=by
 have F:=@run_makeMap prog;have b:=MpS.start w;have c:Below w.heap.size w (w.alloc (.map #[] 0)):=(Below.refl _ _).alloc (aa _) _;obtain ⟨C,n,o,p⟩:=b.own.update KS fQ (by unfold maxLen;omega) (keyS (x:=mO) (by decide)) (show Rv (.int .i64 1)=some (.held (.int .i64 1),[]) from rfl);have d:=b.put (k:=mO) (v:=1) (by decide) o;have e:=c.grown p c.size (fun g a=>by injection a with a;omega);have q1:(Instr.mapUpdate 313 (.map (some w.heap.size)) (.string ⟨#[60,60,60,60,60,60,60,32,111,117,114,115,10]⟩) (.int .i64 1)).run prog (w.alloc (.map #[] 0))=.ok () C:=n;obtain ⟨D,q,r,s⟩:=d.own.update KS fQ (by unfold maxLen;omega) (keyS (x:=mB) (by decide)) (show Rv (.int .i64 2)=some (.held (.int .i64 2),[]) from rfl);have f:=d.put (k:=mB) (v:=2) (by decide) r;have h:=e.grown s e.size (fun g a=>by injection a with a;omega);have q2:(Instr.mapUpdate 313 (.map (some w.heap.size)) (.string ⟨#[124,124,124,124,124,124,124,32,98,97,115,101,10]⟩) (.int .i64 2)).run prog C=.ok () D:=q;obtain ⟨E,t,u,y⟩:=f.own.update KS fQ (by unfold maxLen;omega) (keyS (x:=mT) (by decide)) (show Rv (.int .i64 3)=some (.held (.int .i64 3),[]) from rfl);have i:=f.put (k:=mT) (v:=3) (by decide) u;have j:=h.grown y h.size (fun g a=>by injection a with a;omega);have J:(Instr.mapUpdate 313 (.map (some w.heap.size)) (.string ⟨#[61,61,61,61,61,61,61,10]⟩) (.int .i64 3)).run prog D=.ok () E:=t;obtain ⟨I,z,A,B⟩:=i.own.update KS fQ (by unfold maxLen;omega) (keyS (x:=mE) (by decide)) (show Rv (.int .i64 0)=some (.held (.int .i64 0),[]) from rfl)
 have l:=i.put (k:=mE) (v:=0) (by decide) A;have m:=j.grown B j.size (fun g a=>by injection a with a;omega);have K:(Instr.mapUpdate 313 (.map (some w.heap.size)) (.string ⟨#[62,62,62,62,62,62,62,32,116,104,101,105,114,115,10]⟩) (.int .i64 0)).run prog E=.ok () I:=z;have G:=hid l;have H:=hid m;clear b d f i l c e h j m n q t z o r u A p s y B;go_enter Tryz.func268,Tryz.ntmps268;go_wp2;go_ret;exact ⟨_,_,rfl,aa _,G.out,H.out⟩
theorem bCi {k:Nat}(a:k<=3):(markS k).size<=maxLen:=by
 have:k=0\/k=1\/k=2\/k=3:=O;rcases this with rfl | rfl | rfl | rfl<;>decide
theorem aRc {k:Nat}(J:k<=3):Calls prog 226 #[.int .i64 k] w fun e w'=>e=.returned (.string (markS k))/\Below w.heap.size w w':=by
 have ff:=@run_makeMap prog;have C:=bEv (w:=w);have q:=hid (fun x:ByteArray=>bJc (x:=x) J);have K:=bCi J;generalize markS k=S at *;go_enter Tryz.func226,Tryz.ntmps226;go_wp2_with fail;refine C.mono ?_;rintro e A ⟨b,D,rfl,nk,O,m⟩;have L:=hid O;have HB:=hid m;have r:=hid m.size;have f:=O.own;have nj:=f.lt;clear C O m
 go_wp2_with (first
  | (at_range;refine wpList_range_own _ rfl _ 313 rfl 9 3 KS fQ _ b 4 _ rfl f ?_;intro w0 g B P)
  | go_in)
 go_frame;have s:Below w.heap.size w w0:=HB.out.trans ((aFl B).mono r.out)
 go_loopw[3,4] (fun _ _ wr=>∃(left:Lit->Bool) (cnt:Nat),wr.ranges prog 9 Rv b A.heap.size 4 D left cnt/\Hid (Below w.heap.size w wr)/\Hid (∀x:ByteArray,x.size<=maxLen->markM x=some (k:Int)->left (.string x.data.toList)=true))
  (fun _ _ wr=>wr.rangeLeft b A.heap.size)
 case atStart=>
  refine ⟨_,_,g,s,fun x hx h=>?_⟩;rw[L.out.has x hx,h];rfl
 clear g B P s;obtain ⟨left,cnt,E,V,W⟩:=hrel
 go_wp2_with (first
  | (at_next;refine wpList_next_ranges _ rfl _ rfl 9 KS Rv (fun x:ByteArray=>Value.string x) (fun c:Value=>c) (fun key kl J=>by obtain ⟨x,e,_⟩:=aZz J;exact ⟨x,e⟩) (fun v y I=>⟨v,rfl⟩) b A.heap.size 4 _ _ _ rfl E ?_ ?_)
  | go_in)
 ·intro nm Q
  exfalso;have p:=W.out S K ((q.out S).2 rfl);rw[Q] at p;cases p
 intro x c kl a ps X F i nq n o l R T nr ns;obtain ⟨x',Y,rfl,G⟩:=aZz i;obtain rfl:x=x':=by injection Y
 have d:(markM x).isSome=true:=by rw[<-L.out.has x G];exact Maps.has_true_of_atKey o
 obtain ⟨v,I⟩:=b8.1 d
 have hc:c=.int .i64 v:=by
  have p:=L.out.at_ x v G I (.held (.int .i64 0));rw[o] at p;simp only[Rv,dy,fY] at n;rw[<-n.1] at p;exact aHf p
 subst hc;have U:=hid I;have t:Below w.heap.size w X:=V.out.grown T V.out.size (fun j Z=>by injection Z with Z;have:=r.out;omega);have u:=hid t;have M:=hid (show X.rangeLeft b A.heap.size<wr.rangeLeft b A.heap.size by rw[l.left_eq,E.left_eq];exact R);clear Y i o n d I t;by_cases hq:v=(k:Int)
 ·subst hq
  have HX:=hid ((q.out x).1 U.out);go_wp2;go_ret;exact ⟨by rw[HX.out];rfl,u.out⟩
 have HN:Hid (∀y:ByteArray,y.size<=maxLen->markM y=some (k:Int)->(fun z=>left z && !z.sameKey (.string x.data.toList)) (.string y.data.toList)=true):=fun y hy H=>by
  have N:y≠x:=fun e=>by
   rw[e,U.out] at H;injection H with H;exact hq H
  simp[W.out y hy H,Maps.sameKey_ne (bEu N)]
 go_wp2;go_roundw
 case rel=>exact ⟨_,F,l,u,HN⟩
 exact M.out
def TxtAt (B b:Nat)(p:Value)(s:Bs)(w:World):Prop:=Lib.BuilderAtF 245 5 B b p (Lib.byteCells s) w/\(s=[]->w.cell? ⟨b,1,none⟩=some (.slice none 0 0))
def Txt (B b:Nat)(s:Bs)(w:World):Prop:=TxtAt B b (.pointer none) s w\/TxtAt B b (.pointer (some ⟨b,0,none⟩)) s w
theorem liesTxt:liesAt prog prog.depth 245 (2 / prog.cellsOf 245) 0 243 1=true:=T
theorem aIz(h:Txt B b s w) :
  Calls prog 266 #[.pointer (some ⟨b,0,none⟩)] w fun e w'=>e=.returned (.tuple #[])/\TxtAt B b (.pointer (some ⟨b,0,none⟩)) s w'/\Below B w w'/\Lib.OthersKept 5 (some b) w w':=by
 rcases h with h | h
 ·have a:=h.2
  replace h:=h.1;have g:=h.cell0;have f:=h.shape;have l:=h.frozen0;obtain ⟨j,c,d⟩:∃j,prog.info? 243=some j/\j.size=2:=be.1 (show (prog.info? 243).map (·.size)=some 2 by kernel_rfl);have q1:=Lib.run_to_unsafe (P:=prog) (w:=w) ⟨b,0,none⟩ fM jk c (by rw[d];decide) f (by show 0<2;omega);have q2:=Lib.run_from_unsafe (P:=prog) (w:=w) ⟨b,0,none⟩ jk fM c f liesTxt;have i:Hid (TxtAt B b (.pointer (some ⟨b,0,none⟩)) s (w.setCell ⟨b,0,none⟩ (.pointer (some ⟨b,0,none⟩)))):=hid ⟨h.used (.pointer (some ⟨b,0,none⟩)),fun e=>(eX _ _ _ _ (by simp)).trans (a e)⟩;have k:=hid ((Below.refl B w).setCell (p:=⟨b,0,none⟩) h.1 (.pointer (some ⟨b,0,none⟩)))
  have m:(callFunc 291 #[.pointer (some ⟨b,0,none⟩)]).run prog w=.ok (.value (.pointer (some ⟨b,0,none⟩))) w:=by
   rw[run_callFunc_extern Tryz.func291 T T T (e:=Extern.AbiNoEscape.same) T,Lib.run_noEscape];rfl
  clear h f c d a;go_enter Tryz.func266,Tryz.ntmps266;go_wp2;refine aI (aF rfl _ _ _) rfl ?_;exact ⟨rfl,i.out,k.out,(ib _ _ w).setCell ⟨b,0,none⟩ rfl _⟩
 have g:=h.1.cell0;have H:=hid h;clear h
 have n:(binOp .neq 241 (.pointer (some ⟨b,0,none⟩)) (.pointer (some ⟨b,0,none⟩))).run prog w=.ok (.bool false) w:=by
  obtain ⟨j,c,_⟩:=be.1 (show (prog.info? 243).map (·.size)=some 2 by kernel_rfl);exact Lib.run_neq_ptr_same w _ fM c
 go_enter Tryz.func266,Tryz.ntmps266;go_wp2;refine aI (aF rfl _ _ _) rfl ?_;exact ⟨rfl,H.out,Below.refl _ _,ib _ _ _⟩
theorem bHl {p v c:Value}(a:s=[]->c=.slice none 0 0)(f:B<=b)(d:w.heap[b]? = some (.cells #[p,v] 245 (0,0)))(g:w.ownsRowF B 5 1 c s.length (Lib.byteCells s)):TxtAt B b p s (w.setCell ⟨b,1,none⟩ c):=by
 refine ⟨Lib.BuilderAtF.put (T:=245) (e:=5) f d (bs':=Lib.byteCells s) (by rw[dH];exact g) (by decide),fun e=>?_⟩;have:=a8 w b 1 _ _ c d;rw[ab this,a e];rfl
theorem bGu {c:UInt8}(h:Txt B b s w)(hs:s.length+1<=1000000)(V:B<=w.heap.size) :
  Calls prog 225 #[.pointer (some ⟨b,0,none⟩),.int .u8 c.toNat] w fun e w'=>e=.returned .nilIface/\TxtAt B b (.pointer (some ⟨b,0,none⟩)) (s++[c]) w'/\Below B w w'/\Lib.OthersKept 5 (some b) w w':=by
 obtain ⟨P,Q,z,C,D⟩:=info_parts extra167.infoByte;have K:=aIz h;clear h;go_enter Tryz.func225,Tryz.ntmps225;go_wp2_with fail;refine K.mono ?_;rintro e n ⟨rfl,R,o,q⟩;obtain ⟨⟨I,v,i,d,r⟩,t⟩:=R;rw[dH] at d;have W:n.cell? ⟨b,0,none⟩=some (.pointer (some ⟨b,0,none⟩)):=by rw[ab i];rfl
 have H:n.cell? ⟨b,1,none⟩=some v:=by rw[ab i];rfl
 have L:=o.size;go_wp2_with (at_builtin;refine wpList_append_ownF _ rfl _ _ 102 rfl B 5 P (.int .u8 0) 1 1 fL Q z C D rfl (by decide) _ _ _ rfl (d.alloc _) ⟨n.heap.size,0,none⟩ 1 1 [.int .u8 c.toNat] rfl rfl ?H ?c2 ?c3 ?c4 ?c5 ?_)
 case H=>
  intro j u x
  match j,x with
  | 0,x=>simp at x;subst x;simp[Addr.add]
 case c2=>intro u J;simp at J;subst J;rfl
 case c3=>unfold maxLen;omega
 case c4=>omega
 case c5=>simp;omega
 intro S E f a _
 have y:b<n.heap.size:=by
  rcases bo b n.heap.size with F | F
  ·exact F
  simp[br F] at i
 have l:E.heap[b]? = some (.cells #[.pointer (some ⟨b,0,none⟩),v] 245 (0,0)):=by
  rw[a.block b (by simp;omega) (fun e=>r e.symm),Below.heap_alloc n _ b y];exact i
 have X:E.cell? ⟨b,1,none⟩=some v:=by rw[ab l];rfl
 have Y:E.frozen? ⟨b,1,none⟩=false:=aAk l
 obtain ⟨A,m,cap,rfl⟩:∃A m cap,S=.slice A m cap:=by
  rcases f.2 with ⟨G,_⟩ | ⟨g,cap,T,Z,G,_⟩
  ·exact ⟨_,_,_,G⟩
  exact ⟨_,_,_,G⟩
 have M:=hid (((q.alloc _).grown a (lW (d.alloc _))).setCell ⟨b,1,none⟩ rfl (.slice A m cap));have N:=hid (bHl (s:=s++[c]) (fun e=>by simp at e) I l (by simpa[Lib.byteCells] using f));have O:=hid (((o.alloc ω (.cells #[.int .u8 c.toNat] 5)).grown a (by simp;omega) (fun k U=>(d.lt k U).1)).setCell (p:=⟨b,1,none⟩) I (.slice A m cap));clear q d f a i l r t;go_wp2;go_ret;exact ⟨rfl,N.out,O.out,M.out⟩
theorem aFd {t:ByteArray}(h:Txt B b s w)(hs:s.length+t.size<=10000000)(W:B<=w.heap.size) :
  Calls prog 223 #[.pointer (some ⟨b,0,none⟩),.string t] w fun e w'=>e=.returned (.tuple #[.int .i64 t.size,.nilIface])/\TxtAt B b (.pointer (some ⟨b,0,none⟩)) (s++t.data.toList) w'/\Below B w w'/\Lib.OthersKept 5 (some b) w w':=by
 obtain ⟨P,Q,y,z,C⟩:=info_parts extra167.infoByte;have K:=aIz h;clear h;go_enter Tryz.func223,Tryz.ntmps223;go_wp2_with fail;refine K.mono ?_;rintro e u ⟨rfl,R,o,q⟩;obtain ⟨⟨H,v,f,c,r⟩,l⟩:=R;rw[dH] at c;have X:u.cell? ⟨b,0,none⟩=some (.pointer (some ⟨b,0,none⟩)):=by rw[ab f];rfl
 have Y:u.cell? ⟨b,1,none⟩=some v:=by rw[ab f];rfl
 have J:=o.size;go_wp2_with (at_builtin;refine Lib.wpList_append_own_stringF _ rfl _ _ 102 9 rfl B 5 P fL bG Q y z C _ _ _ rfl c t rfl ?c3 ?c4 ?c5 ?_)
 case c3=>unfold maxLen;omega
 case c4=>omega
 case c5=>omega
 intro S D d a n
 have x:b<u.heap.size:=by
  rcases bo b u.heap.size with E | E
  ·exact E
  simp[br E] at f
 have j:D.heap[b]? = some (.cells #[.pointer (some ⟨b,0,none⟩),v] 245 (0,0)):=by
  rw[a.block b x (fun e=>r e.symm)];exact f
 have Z:D.cell? ⟨b,1,none⟩=some v:=by rw[ab j];rfl
 have f1:D.frozen? ⟨b,1,none⟩=false:=aAk j
 obtain ⟨A,m,cap,rfl⟩:∃A m cap,S=.slice A m cap:=by
  rcases d.2 with ⟨F,_⟩ | ⟨g,cap,U,fz,F,_⟩
  ·exact ⟨_,_,_,F⟩
  exact ⟨_,_,_,F⟩
 have i:s++t.data.toList=[]->Value.slice A m cap=.slice none 0 0:=fun e=>by
  obtain ⟨T,I⟩:=List.append_eq_nil_iff.1 e;have G:=l T;rw[ab f] at G;have L:v=.slice none 0 0:=by simpa using G
  exact n.2 ⟨L,by first | (rw[<-aBk,I];rfl) | exact aCi (by rw[I];rfl)⟩
 have M:=hid ((q.grown a (lW c)).setCell ⟨b,1,none⟩ rfl (.slice A m cap));have N:=hid (bHl (s:=s++t.data.toList) i H j (by rw[Lib.byteCells_append,ae];exact d));have O:=hid ((o.grown a ω (fun k V=>(c.lt k V).1)).setCell (p:=⟨b,1,none⟩) H (.slice A m cap));clear q c d a f j r l i n;go_wp2;go_ret2;exact ⟨rfl,N.out,O.out,M.out⟩
theorem bEs(h:Txt B b s w) :
  Calls prog 187 #[.pointer (some ⟨b,0,none⟩)] w fun e w'=>e=.returned (.string (ofB s))/\Txt B b s w'/\Below B w w'/\Lib.OthersKept 5 (some b) w w':=by
 obtain ⟨p,J,E⟩:∃p,(p=.pointer none\/p=.pointer (some ⟨b,0,none⟩))/\TxtAt B b p s w:=by
  rcases h with h | h
  ·exact ⟨_,.inl rfl,h⟩
  exact ⟨_,.inr rfl,h⟩
 have i:Hid (∀u,TxtAt B b p s u->Txt B b s u):=fun u M=>by
  rcases J with rfl | rfl
  ·exact .inl M
  exact .inr M
 clear h J;obtain ⟨n,d⟩:=E;obtain ⟨K,v,f,a,k⟩:=n;by_cases o:s=[]
 ·subst o
  have q:=d rfl;rw[ab f] at q;obtain rfl:v=.slice none 0 0:=by simpa using q
  have I:w.drew.cell? ⟨b,1,none⟩=some (.slice none 0 0):=d rfl;have t:(Builtin.unsafeSliceData_ #[102] 288 #[.slice none 0 0]).run prog w.drew=.ok (.pointer none) w.drew:=rfl;have y:(Builtin.unsafeString_ #[288,3] 9 #[.pointer none,.int .i64 0]).run prog w.drew=.ok (.string .empty) w.drew:=Any.unsafeString_none Tryz.lays169 Tryz.Builder_Extra_169 w.drew none;have z:=hid (i.out w.drew ⟨⟨K,_,f,a,k⟩,d⟩);clear f a k d q i;have m:=(mixed:prog.follows .mixedOrders=true);go_enter Tryz.func187,Tryz.ntmps187;go_wp2;go_region_o
  all_goals (go_wp2;go_ret;exact ⟨rfl,z.out,Below.drew (Below.refl B w),(ib _ _ w).drew⟩)
 have A:s.length≠0:=by simpa using o
 rw[dH] at a
 obtain ⟨g,cap,c,l,rfl,F,L,P,Q,G,R,H⟩:∃g cap c l,v=.slice (some ⟨g,0,none⟩) s.length cap/\B<=g/\w.heap[g]? = some (.cells c 5 l)/\l.2<=s.length*1/\s.length<=cap/\cap<=maxLen/\c.size=cap*1/\c.toList.take (s.length*1)=Lib.byteCells s:=by
  rcases a.2 with ⟨_,T⟩ | ⟨g,cap,c,l,U,r⟩
  ·exact absurd T A
  exact ⟨g,cap,c,l,U,r⟩
 have I:w.drew.cell? ⟨b,1,none⟩=some (.slice (some ⟨g,0,none⟩) s.length cap):=by
  have:w.drew.heap[b]? = some (.cells #[p,.slice (some ⟨g,0,none⟩) s.length cap] 245 (0,0)):=f;rw[ab this];rfl
 have t:(Builtin.unsafeSliceData_ #[102] 288 #[.slice (some ⟨g,0,none⟩) s.length cap]).run prog w.drew=.ok (.pointer (some ⟨g,0,none⟩)) w.drew:=
  Lib.run_unsafeSliceData_row _ _ _ _ _ _ ω
 have y:(Builtin.unsafeString_ #[288,3] 9 #[.pointer (some ⟨g,0,none⟩),.int .i64 s.length]).run prog w.drew=.ok (.string ⟨s.toArray⟩) (w.drew.freeze ⟨g,0,none⟩ s.length):=by
  refine Lib.run_unsafeString_row w.drew 288 3 9 5 jj Tryz.Builder_Extra_169.cellsByte g c.size (by have C:w.drew.heap[g]? = some (.cells c 5 l):=L;simp[World.shape?,C]) s o ω (by unfold maxLen at G;omega) ?_;intro j x S;have:=a.cells (g:=g) rfl j (.int .u8 x.toNat) (by simp[Lib.byteCells,S]);exact this
 have n:Lib.BuilderAtF 245 5 B b p (Lib.byteCells s) w.drew:=⟨K,_,f,by rw[dH];exact a,k⟩;have D:=n.froze (g:=g) (cap:=cap) (by rw[dH];exact I);rw[dH] at D;have z:=hid (i.out _ ⟨D,fun e=>absurd e o⟩);have N:=hid (((ib 5 (some b) w).drew).freeze ⟨g,0,none⟩ s.length ⟨c,l,L⟩);have O:=hid (Lib.below_freeze (Below.drew (Below.refl B w)) (p:=⟨g,0,none⟩) F s.length);clear n D f a k d i;have m:=(mixed:prog.follows .mixedOrders=true);go_enter Tryz.func187,Tryz.ntmps187;go_wp2;go_region_o
 all_goals (go_wp2;go_ret;exact ⟨rfl,z.out,O.out,N.out⟩)
end Go.Proofs.YtohblmepajhpaaaGreatDoor
