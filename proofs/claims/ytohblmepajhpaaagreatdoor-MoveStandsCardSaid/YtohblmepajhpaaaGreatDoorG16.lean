/- Contracts of functions that the law reaches; plain laws. -/
import Derived.Test.YtohblmepajhpaaaGreatDoorG04
import Derived.Test.YtohblmepajhpaaaGreatDoorG06
import Derived.Test.YtohblmepajhpaaaGreatDoorG07
import Derived.Test.YtohblmepajhpaaaGreatDoorG13
import Derived.Test.YtohblmepajhpaaaGreatDoorG14
import Derived.Test.YtohblmepajhpaaaGreatDoorG15
set_option maxHeartbeats 16000000
set_option maxRecDepth 100000
open Go.Lib (hid)
namespace Go.Proofs.YtohblmepajhpaaaGreatDoor
open Go.Proofs.Tryz (prog)
open Go.RowKit
variable {a t o b:List ByteArray}{w w0:World}{c m n base k ca cb:Nat}{A B:Option Addr}{v:Value}{es:List DV}
theorem aQd {P:Program}{S:World->Prop}{a:Act}{K:Act->World->Prop}{b:Option Tmp}{t ty:TypeId}{q:Bool}{g:Option (Tmp×Bool)}{z:Value}{cs:Array Value}(c:∀w,(zeroValue t).run P w=.ok z w)(d:z.cells=cs)
  (e:S (w.alloc (.cells cs t))/\K (a.put b (.pointer (some ⟨w.heap.size,0,none⟩))) (w.alloc (.cells cs t))):effq P S ⟨q,b,.alloc t,ty,g⟩ a w K:=aBr c (by rw[d];exact e)
structure MD (Z:Nat->Obj->Prop) (w0 w:World) (mb:Nat) (A:Option Addr) (c:Nat) (cv:Value) (m:List FV×List CL) (N:Nat):Prop where
 hs:w.heap[mb]? = some (.cells #[.slice A m.1.length c,cv] 85 (0,0))
 f1:RdF w w.heap.size A m.1.length c m.1
 fa:∀b o s,A=some ⟨b,o,s⟩->b≠mb/\cv.ownBlock≠some b
 c1:w.ownsRow w0.heap.size 94 3 cv m.2.length (m.2.flatMap CL.cells)
 lo:w0.heap.size<=mb
 bel:Below w0.heap.size w0 w
 few1:m.1.length<=N
 few2:m.2.length<=N
 oth:∀k ob,Z k ob->w.heap[k]? = some ob/\k≠mb/\cv.ownBlock≠some k
 lt:∀b o s,A=some ⟨b,o,s⟩->b<w.heap.size
section
variable {Z:Nat->Obj->Prop} {w0 w w':World} {mb N c:Nat} {A:Option Addr} {cv:Value} {m:List FV×List CL}
theorem MD.below(h:MD Z w0 w mb A c cv m N)(a:Below w.heap.size w w'):MD Z w0 w' mb A c cv m N:=
 ⟨(a.block mb (aAa h.hs)).trans h.hs,h.f1.to a a.size,h.fa,aAf h.c1 a,h.lo,h.bel.trans (a.mono h.bel.size),h.few1,h.few2,fun k d f=>⟨(a.block k (aAa (h.oth k d f).1)).trans (h.oth k d f).1,(h.oth k d f).2⟩,fun b o s e=>ag (h.lt b o s e) a.size⟩
theorem MD.more {a:Nat}(h:MD Z w0 w mb A c cv m N)(b:N<=a):MD Z w0 w mb A c cv m a:=⟨h.hs,h.f1,h.fa,h.c1,h.lo,h.bel,by have:=h.few1;omega,by have:=h.few2;omega,h.oth,h.lt⟩
theorem MD.pushC {a:Value}{d:CL}(h:MD Z w0 w mb A c cv m N)(z:m.2.length+1<=N)(j:w.grownBy w' cv.ownBlock)(f:a.ownBlock=cv.ownBlock\/a.ownBlock=some w.heap.size)
  (x:w'.ownsRow w0.heap.size 94 3 a (m.2.length+1) (m.2.flatMap CL.cells++[d].flatMap CL.cells)):w'.heap[mb]? = some (.cells #[.slice A m.1.length c,cv] 85 (0,0))/\MD Z w0 (w'.setCell ⟨mb,1,none⟩ a) mb A c a (m.1,m.2++[d]) N:=by
 have i:=(j.block mb (aAa h.hs) (fun e=>aBm h.c1 h.hs (by decide) e.symm)).trans h.hs;refine ⟨i,?_,?_,fun b o s e=>?_,?_,h.lo,(h.bel.grown j h.bel.size (fun g j=>(h.c1.lt g j).1)).setCell h.lo _,h.few1,?_,fun k u y=>?_,fun b o s e=>by have B:=h.lt b o s e;have C:=j.size;simp;omega⟩
 ·have:=a8 w' mb 1 _ _ a i
  simpa using this
 ·refine aEa h.f1 fun b o u e v=>?_
  obtain ⟨n,p⟩:=h.fa b o none e;exact (Below.heap_setCell w' ⟨mb,1,none⟩ _ b n).trans ((j.block b (aAa v) (fun e=>p e.symm)).trans v)
 ·obtain ⟨n,p⟩:=h.fa b o s e
  refine ⟨n,fun l=>?_⟩;rcases f with f | f
  ·exact p (f▸l)
  rw[f] at l;injection l with l;have:=h.lt b o s e;omega
 ·refine aK ?_ (aBm x i (by decide)) _
  rw[ae,aJ];exact x
 ·show (m.2++[d]).length<=N
  rw[ae];simpa using z
 obtain ⟨q,r,t⟩:=h.oth k u y
 exact ⟨(Below.heap_setCell w' ⟨mb,1,none⟩ _ k r).trans ((j.block k (aAa q) (fun e=>t e.symm)).trans q),r,fun e=>by
  rcases f with f | f
  ·exact t (f▸e)
  rw[f] at e;injection e with e;have:=aAa q;omega⟩
theorem MD.putF {A':Option Addr}{i:Nat}{l:List FV}(h:MD Z w0 w mb A c cv m N)(z:0<l.length)(B:l.length<=N)(j:Below w.heap.size w w')(r:RdF w' w'.heap.size A' l.length i l)(t:NewAt A' w.heap.size) :
  MD Z w0 (w'.setCell ⟨mb,0,none⟩ (.slice A' l.length i)) mb A' i cv (l,m.2) N:=by
 have a:=(j.block mb (aAa h.hs)).trans h.hs;have u:=aAa h.hs;have d:=aAf h.c1 j;refine ⟨?_,?_,fun b o s e=>?_,?_,h.lo,(h.bel.trans (j.mono h.bel.size)).setCell h.lo _,B,h.few2,fun k q x=>?_,fun b o s e=>?_⟩
 ·have:=a8 w' mb 0 _ _ (.slice A' l.length i) a
  simpa using this
 ·refine aEa r fun b o q e g=>?_
  have:=t b o none e;exact (Below.heap_setCell w' ⟨mb,0,none⟩ _ b (show b≠mb by omega)).trans g
 ·have C:=t b o s e
  exact ⟨O,fun y=>by have:=(h.c1.lt b y).2;omega⟩
 ·exact aK d (aBm d a (by decide)) _
 ·obtain ⟨n,p,v⟩:=h.oth k q x
  exact ⟨(Below.heap_setCell w' ⟨mb,0,none⟩ _ k p).trans ((j.block k (aAa n)).trans n),p,v⟩
 obtain ⟨D,E,f,g,_⟩:=r.row.at_ z;rw[e] at f;injection f with f;injection f with f;simp;omega
end
def PutD (Z:Nat->Obj->Prop)(w0:World)(mb:Nat)(m:List FV×List CL)(N:Nat)(e:Ending) (w':World):Prop:=e=.returned (.tuple #[])/\∃A c cv,MD Z w0 w' mb A c cv m N
theorem aLr(w:World):(zeroValue 48).run prog w=.ok (.agg #[.string ⟨#[]⟩,.bool false,.string ⟨#[]⟩]) w:=by
 go_simp
theorem aAw {Z:Nat->Obj->Prop}{mb N:Nat}{cv:Value}{m:List FV×List CL}{f:FV}{kind:Int}(h:MD Z w0 w mb A c cv m N)(hN:N<=100000)(hf:f.path.size<=1000000/\f.text.size<=1000000) :
  Calls prog 47 #[.pointer (some ⟨mb,0,none⟩),.agg #[.string f.path,.bool f.exec,.string f.text],.int .i64 kind] w (PutD Z w0 mb (putD m f kind) (N+1)):=by
 obtain ⟨W,eW⟩:∃W,W=w.alloc (.cells #[.string f.path,.bool f.exec,.string f.text] 48):=⟨_,rfl⟩;have nQ:Below w.heap.size w W:=by rw[eW];exact (Below.refl _ _).alloc (aa _) _
 have nR:W.heap[w.heap.size]? = some (.cells #[.string f.path,.bool f.exec,.string f.text] 48 (0,0)):=by rw[eW];exact au _ _
 have HM:=hid (h.below nQ);have a:=hid nR;have Y:=hid hN;have HF:=hid hf;have nK:=hid (fun e:cv.ownBlock=some w.heap.size=>cG _ (h.c1.lt _ e).2);have nV:=hid (gX (aAa h.hs));have KF:=hid (fun (u:World) (hu:Below W.heap.size W u)=>aEg (p:=f.path) (by have:=HM.out.few1;omega) (HM.out.f1.to hu hu.size));have KC:=hid (fun (u:World) (hu:Below W.heap.size W u)=>aLk (p:=f.path) (by have:=HM.out.few1;omega) (by unfold maxLen;omega) (HM.out.f1.to hu hu.size));have nF:=hid (show putD m f kind=if ((findP m.1 f.path).isSome || clashF m.1 f.path)=true then (m.1,m.2++[⟨f.path,5,f.text⟩]) else (sortedIn m.1 f,if kind=0 then m.2 else m.2++[⟨f.path,kind,f.text⟩]) from rfl);clear h nQ nR hN hf;go_enter Tryz.func47,Tryz.ntmps47;go_wp2;rw[<-eW];clear eW;generalize w.heap.size=t at *;refine aAv (fun v'=>Below W.heap.size W v') (.q 0 (.q 1 (.q 2 (.q 3 (.q 4 (.q 5 (.two 6 (.q 7 (.q 8 (.q 9 (.one 10 (.one 11 (.q 12 .leaf)))))) 10 (.one 6 (.q 7 (.q 8 (.q 9 (.one 11 (.q 12 .leaf))))))))))))) mixed κ (Below.refl _ _).drew ?_;intro Tp M Q s x l E;have K:M ⟨mb,0,none⟩=some (.slice A m.1.length c):=l _ _ fun w' k=>(k.cell (p:=⟨mb,0,none⟩) (aAa HM.out.hs)).trans (by rw[ab HM.out.hs];rfl);have L:M ⟨t,0,none⟩=some (.string f.path):=l _ _ fun w' k=>(k.cell (p:=⟨t,0,none⟩) (aAa a.out)).trans (by rw[ab a.out];rfl);clear l;refine aCu ?_;intro O hO;have t0:=hO true 0;have t1:=hO true 1;have t2:=hO true 2;have t3:=hO true 3;have t4:=hO true 4;have t5:=hO true 5;have t7:=hO true 7;have t8:=hO true 8;have t9:=hO true 9
 have nG:=hO true 12;have e6:=hO false 6;have nH:=hO false 10;have nI:=hO false 11;simp only[qcmp] at t0 t1 t2 t3 t4 t5 t7 t8 t9 nG e6 nH nI;clear hO;simp only[↓wt_q,↓aBe,t0,t1,t2,t3,t4,t5,e6,nH,↓qpre,aAb,aAg,aAc,K,L];have nm:Below W.heap.size W W.drew:=(Below.refl _ _).drew;have nJ:(prog.info? 48).map (·.size)=some 3:=κ;refine ⟨?_,?_⟩
 case' refine_1=>
  refine aAh κ (KF.out _ nm) rfl rfl ?_;rintro e u1 ⟨rfl,nw⟩;have D:=nm.trans (nw.mono nm.size);refine ⟨_,rfl,s _ D,?_⟩;simp only[↓wt_q,↓aAn,t7,t8,t9,nH,↓qpre,aAb,aAc];have y:=D.alloc D.size (.cells #[.string ⟨#[]⟩,.bool false,.string ⟨#[]⟩] 48);refine aQd (cs:=#[.string ⟨#[]⟩,.bool false,.string ⟨#[]⟩]) aLr rfl ⟨s _ y,?_⟩;simp only[↓aAn,nI,aAb,aAc];have hn:=au u1 (.cells #[.string ⟨#[]⟩,.bool false,.string ⟨#[]⟩] 48);have nq:=aAj (cs:=#[.string (optF (findP m.1 f.path)).path,.bool (optF (findP m.1 f.path)).exec,.string (optF (findP m.1 f.path)).text]) y D.size;refine aAp (g:=u1.heap.size) (cells:=#[.string (optF (findP m.1 f.path)).path,.bool (optF (findP m.1 f.path)).exec,.string (optF (findP m.1 f.path)).text]) rfl rfl hn nJ rfl (by simp[Value.oneCell']) ⟨s _ nq,?_⟩;simp only[↓wt_q,↓aCm,nG,↓qpre,aAb,aAc];refine E _ _ ?_;have j:=hid nq;clear nw D y nq hn;generalize (u1.alloc (.cells #[.string ⟨#[]⟩,.bool false,.string ⟨#[]⟩] 48)).setRow u1.heap.size #[.string (optF (findP m.1 f.path)).path,.bool (optF (findP m.1 f.path)).exec,.string (optF (findP m.1 f.path)).text]=v at *
 case' refine_2=>
  have y:=nm.alloc nm.size (.cells #[.string ⟨#[]⟩,.bool false,.string ⟨#[]⟩] 48);refine aQd (cs:=#[.string ⟨#[]⟩,.bool false,.string ⟨#[]⟩]) aLr rfl ⟨s _ y,?_⟩;simp only[↓aAn,e6,aAb,aAc];have hn:=au W.drew (.cells #[.string ⟨#[]⟩,.bool false,.string ⟨#[]⟩] 48);refine aAh κ (KF.out _ y) rfl rfl ?_;rintro e u1 ⟨rfl,nw⟩;have D:=y.trans (nw.mono y.size);refine ⟨_,rfl,s _ D,?_⟩;simp only[↓wt_q,↓aAn,t7,t8,t9,nI,↓qpre,aAb,aAc];replace hn:=(nw.block _ (aAa hn)).trans hn;have nq:=aAj (cs:=#[.string (optF (findP m.1 f.path)).path,.bool (optF (findP m.1 f.path)).exec,.string (optF (findP m.1 f.path)).text]) D nm.size;refine aAp (g:=W.drew.heap.size) (cells:=#[.string (optF (findP m.1 f.path)).path,.bool (optF (findP m.1 f.path)).exec,.string (optF (findP m.1 f.path)).text]) rfl rfl hn nJ rfl (by simp[Value.oneCell']) ⟨s _ nq,?_⟩;simp only[↓wt_q,↓aCm,nG,↓qpre,aAb,aAc];refine E _ _ ?_;have j:=hid nq;clear nw D y nq hn;generalize u1.setRow W.drew.heap.size #[.string (optF (findP m.1 f.path)).path,.bool (optF (findP m.1 f.path)).exec,.string (optF (findP m.1 f.path)).text]=v at *
 all_goals
  clear E s x t0 t1 t2 t3 t4 t5 t7 t8 t9 nG e6 nH nI K L nm;clear Tp M Q O;replace HM:=hid (HM.out.below j.out);replace a:=hid ((j.out.block _ (aAa a.out)).trans a.out);generalize findP m.1 f.path=F at *;have i:=hid (HM.out.more (dh N));have P:=hid (show m.2.length+1<=N+1 from eQ HM.out.few2);have nS:=hid (show m.1.length+1<=N+1 from eQ HM.out.few1);have nL:=hid (fun (u:World) (hu:Below v.heap.size v u)=>KC.out u (j.out.trans (hu.mono j.out.size)));have nu:Below v.heap.size v v.drew:=(Below.refl _ _).drew;have g0:v.cell? ⟨mb,0,none⟩=some (.slice A m.1.length c):=by rw[ab HM.out.hs];rfl
  have g1:v.cell? ⟨t,0,none⟩=some (.string f.path):=by rw[ab a.out];rfl
  have nM:=aAa HM.out.hs;have nN:=aAa a.out;clear j KF KC;clear HM
  cases hF:F.isSome with
  | true=>
   have HP:=hid (nF.out.trans (ao (by rw[hF,ja])));clear hF nF nL;go_wp2;refine aAe (fun w'=>Below v.heap.size v w') (qe [8] 10) mixed κ (Below.refl _ _).drew ?_;intro Tp M Q s x l E;simp only[qcmp,Nat.reduceBEq];simp only[↓qpre,aAb,aAc];refine E _ _ ?_;clear E s x l g0 g1 nM nN;clear Tp M Q;replace i:=hid (i.out.below nu);replace a:=hid (show v.drew.heap[t]? = _ from a.out);clear nu;generalize v.drew=vd at *;go_wp2;refine aAq (fun u=>u.heap[mb]? = some (.cells #[.slice A m.1.length c,cv] 85 (0,0))/\u.heap[t]? = some (.cells #[.string f.path,.bool f.exec,.string f.text] 48 (0,0))) [(true,0),(true,1),(true,2),(true,3),(true,4),(true,5),(true,6),(true,7),(true,8),(false,9),(false,10),(false,11),(true,12),(true,13)] [14] mixed κ ⟨i.out.hs,a.out⟩ ?_;intro Tp M Q Q2 s x l E z;have K:M ⟨mb,1,none⟩=some cv:=l _ _ fun w' k=>(by rw[ab k.1];rfl);have L:M ⟨t,0,none⟩=some (.string f.path):=l _ _ fun w' k=>(by rw[ab k.2];rfl);have m3:M ⟨t,2,none⟩=some (.string f.text):=l _ _ fun w' k=>(by rw[ab k.2];rfl);clear l;simp only[qcmp];simp only[↓qpre,aAb,aAg,aAc,K,L,m3];clear K L m3;refine aBo rfl (aGo _ _ _ _) ⟨s _ ⟨i.out.hs,a.out⟩,?_⟩;simp only[aAb,aAc];have G:Below vd.heap.size vd (vd.drew.alloc (.cells #[.string f.path,.int .i64 5,.string f.text] 94)):=(Below.refl _ _).drew.alloc (aa _) _;have r:=hid (i.out.below G);have j:=hid ((G.block t (aAa a.out)).trans a.out);have ff:=hid (aFe vd.drew ⟨f.path,5,f.text⟩);refine T.eff_lits (T.run_lits3 aBc _ _ _ _) rfl ⟨s _ ⟨r.out.hs,j.out⟩,?_⟩
   simp only[aAb,aAc];clear G i a;generalize vd.drew.alloc (.cells #[.string f.path,.int .i64 5,.string f.text] 94)=V at *;refine aAo aBc (base:=w0.heap.size) (n:=m.2.length) rfl rfl r.out.c1 ff.out (aCd _) (by have:=P.out;have:=Y.out;unfold maxLen;omega) (by have:=P.out;have:=Y.out;omega) r.out.bel.size ?_;intro v9 V5 H I nj;obtain ⟨A9,c9,rfl,nU⟩:=aAd H;obtain ⟨B,nk⟩:=r.out.pushC (d:=⟨f.path,5,f.text⟩) P.out I nj H;have J:=hid nk;have R:=hid ((I.block t (aAa j.out) (fun e=>nK.out e.symm)).trans j.out);refine ⟨s _ ⟨B,R.out⟩,?_⟩;simp only[↓qpre,aAb,aAg,aAc];refine E _ _ ?_;simp only[lates,List.map,qcmp];simp only[aAb];refine aBa (v:=.slice A9 (m.2.length+1) c9) (b:=mb) (o:=1) κ rfl rfl (by rw[ab B];rfl) (aAk B) rfl ⟨trivial,?_⟩;simp only[aAb];refine z _ _ ?_;clear E z s x r j ff H I nj B nk R;generalize V5.setCell ⟨mb,1,none⟩ (.slice A9 (m.2.length+1) c9)=V6 at *;go_wp2;refine bz (aF rfl _ _ _) rfl ?_;exact ⟨rfl,_,_,_,by rw[HP.out];exact J.out⟩
  | false=>
   have nT:=nL.out _ nu;clear nL;generalize nW:clashF m.1 f.path=C at *;have ns:=hid (show putD m f kind=if C=true then (m.1,m.2++[⟨f.path,5,f.text⟩]) else (sortedIn m.1 f,if kind=0 then m.2 else m.2++[⟨f.path,kind,f.text⟩]) by rw[nF.out,hF,fW]);clear hF nF nW;go_wp2;refine aAe (fun w'=>Below v.heap.size v w') (qe [8] 10) mixed κ (Below.refl _ _).drew ?_;intro Tp M Q s x l E;have K:M ⟨mb,0,none⟩=some (.slice A m.1.length c):=l _ _ fun w' k=>(k.cell (p:=⟨mb,0,none⟩) nM).trans g0;have L:M ⟨t,0,none⟩=some (.string f.path):=l _ _ fun w' k=>(k.cell (p:=⟨t,0,none⟩) nN).trans g1;clear l;simp only[qcmp,Nat.reduceBEq];simp only[↓qpre,aAb,aAg,aAc,K,L];refine aAh κ nT rfl rfl ?_;rintro e v2 ⟨rfl,D⟩;have y:=nu.trans (D.mono nu.size);refine ⟨_,rfl,s _ y,?_⟩;simp only[↓qpre,aAb,aAc];refine E _ _ ?_;replace i:=hid (i.out.below y);replace a:=hid ((y.block _ (aAa a.out)).trans a.out);clear E s x K L g0 g1 nM nN D y nu nT;clear Tp M Q
   cases C with
   | true=>
    have HP:=hid (ns.out.trans (ao rfl));clear ns;go_wp2;refine aAq (fun u=>u.heap[mb]? = some (.cells #[.slice A m.1.length c,cv] 85 (0,0))/\u.heap[t]? = some (.cells #[.string f.path,.bool f.exec,.string f.text] 48 (0,0))) [(true,0),(true,1),(true,2),(true,3),(true,4),(true,5),(true,6),(true,7),(true,8),(false,9),(false,10),(false,11),(true,12),(true,13)] [14] mixed κ ⟨i.out.hs,a.out⟩ ?_;intro Tp M Q Q2 s x l E z;have K:M ⟨mb,1,none⟩=some cv:=l _ _ fun w' k=>(by rw[ab k.1];rfl);have L:M ⟨t,0,none⟩=some (.string f.path):=l _ _ fun w' k=>(by rw[ab k.2];rfl);have m3:M ⟨t,2,none⟩=some (.string f.text):=l _ _ fun w' k=>(by rw[ab k.2];rfl);clear l;simp only[qcmp];simp only[↓qpre,aAb,aAg,aAc,K,L,m3];clear K L m3;refine aBo rfl (aGo _ _ _ _) ⟨s _ ⟨i.out.hs,a.out⟩,?_⟩;simp only[aAb,aAc];have G:Below v2.heap.size v2 (v2.drew.alloc (.cells #[.string f.path,.int .i64 5,.string f.text] 94)):=(Below.refl _ _).drew.alloc (aa _) _;have r:=hid (i.out.below G);have j:=hid ((G.block t (aAa a.out)).trans a.out);have ff:=hid (aFe v2.drew ⟨f.path,5,f.text⟩);refine T.eff_lits (T.run_lits3 aBc _ _ _ _) rfl ⟨s _ ⟨r.out.hs,j.out⟩,?_⟩;simp only[aAb,aAc];clear G i a;generalize v2.drew.alloc (.cells #[.string f.path,.int .i64 5,.string f.text] 94)=V at *;refine aAo aBc (base:=w0.heap.size) (n:=m.2.length) rfl rfl r.out.c1 ff.out (aCd _) (by have:=P.out;have:=Y.out;unfold maxLen;omega) (by have:=P.out;have:=Y.out;omega) r.out.bel.size ?_;intro v9 V5 H I nj
    obtain ⟨A9,c9,rfl,nU⟩:=aAd H;obtain ⟨B,nk⟩:=r.out.pushC (d:=⟨f.path,5,f.text⟩) P.out I nj H;have J:=hid nk;have R:=hid ((I.block t (aAa j.out) (fun e=>nK.out e.symm)).trans j.out);refine ⟨s _ ⟨B,R.out⟩,?_⟩;simp only[↓qpre,aAb,aAg,aAc];refine E _ _ ?_;simp only[lates,List.map,qcmp];simp only[aAb];refine aBa (v:=.slice A9 (m.2.length+1) c9) (b:=mb) (o:=1) κ rfl rfl (by rw[ab B];rfl) (aAk B) rfl ⟨trivial,?_⟩;simp only[aAb];refine z _ _ ?_;clear E z s x r j ff H I nj B nk R;generalize V5.setCell ⟨mb,1,none⟩ (.slice A9 (m.2.length+1) c9)=V6 at *;go_wp2;refine bz (aF rfl _ _ _) rfl ?_;exact ⟨rfl,_,_,_,by rw[HP.out];exact J.out⟩
   | false=>
    have HP:=hid (ns.out.trans (ah (by simp)));clear ns;by_cases hk:kind=0
    ·have HP:=hid (HP.out.trans (by rw[ao hk]))
     subst hk;go_wp2;have KS:=hid (fun (u:World) (hu:Below v2.heap.size v2 u)=>aGv (f:=f) (by have:=i.out.few1;have:=Y.out;omega) (i.out.f1.to hu hu.size) (by have:=HF.out;omega));refine aAq (fun u=>u.heap[mb]? = some (.cells #[.slice A m.1.length c,cv] 85 (0,0))/\u.heap[t]? = some (.cells #[.string f.path,.bool f.exec,.string f.text] 48 (0,0))) [(true,0),(true,1),(true,2),(true,3),(true,4),(true,5),(false,6),(true,7),(true,8)] [9] mixed κ ⟨i.out.hs,a.out⟩ ?_;intro Tp M Q Q2 s x l E z;have K:M ⟨mb,0,none⟩=some (.slice A m.1.length c):=l _ _ fun w' k=>(by rw[ab k.1];rfl);have L:M ⟨t,0,none⟩=some (.string f.path):=l _ _ fun w' k=>(by rw[ab k.2];rfl);have m2:M ⟨t,1,none⟩=some (.bool f.exec):=l _ _ fun w' k=>(by rw[ab k.2];rfl);have m3:M ⟨t,2,none⟩=some (.string f.text):=l _ _ fun w' k=>(by rw[ab k.2];rfl);clear l;simp only[qcmp];simp only[↓qpre,aAb,aAg,aAc,K,L,m2,m3];clear K L m2 m3;have S:Below v2.heap.size v2 v2.drew:=(Below.refl _ _).drew;refine aAh κ (KS.out _ S) rfl rfl ?_;rintro e u5 ⟨A5,c5,l5,rfl,nr,nC,nD,nE⟩;have U:=S.trans (nD.mono S.size);have X:=(U.block mb (aAa i.out.hs)).trans i.out.hs;have nz:=(U.block t (aAa a.out)).trans a.out;have nA:l5.length=m.1.length+1:=(by rw[nr];exact aCr _ _);have nO:=hid (i.out.putF ω (by have:=nS.out;omega) U nC nE);have nP:=hid nr;refine ⟨_,rfl,s _ ⟨X,nz⟩,?_⟩;simp only[↓qpre,aAb,aAg,aAc];refine E _ _ ?_;simp only[lates,List.map,qcmp];simp only[aAb];refine aBa (v:=.slice A5 l5.length c5) (b:=mb) (o:=0) κ rfl rfl (by rw[ab X];rfl) (aAk X) rfl ⟨trivial,?_⟩
     simp only[aAb];refine z _ _ ?_;clear E z s x X nz U nD nC nE nr nA S KS;generalize u5.setCell ⟨mb,0,none⟩ (.slice A5 l5.length c5)=u6 at *;go_wp2;refine aI (aF rfl _ _ _) rfl ?_;exact ⟨rfl,_,_,_,by rw[HP.out,<-nP.out];exact nO.out⟩
    have HP:=hid (HP.out.trans (by rw[ah hk]));have ek:(kind != 0)=true:=(by simpa using hk);clear hk;go_wp2;refine aAq (fun u=>u.heap[mb]? = some (.cells #[.slice A m.1.length c,cv] 85 (0,0))/\u.heap[t]? = some (.cells #[.string f.path,.bool f.exec,.string f.text] 48 (0,0))) [(true,0),(true,1),(true,2),(true,3),(true,4),(true,5),(true,6),(true,7),(true,8),(true,9),(false,10),(false,11),(false,12),(true,13),(true,14)] [15] mixed κ ⟨i.out.hs,a.out⟩ ?_;intro Tp M Q Q2 s x l E z;have K:M ⟨mb,1,none⟩=some cv:=l _ _ fun w' k=>(by rw[ab k.1];rfl);have L:M ⟨t,0,none⟩=some (.string f.path):=l _ _ fun w' k=>(by rw[ab k.2];rfl);have m3:M ⟨t,2,none⟩=some (.string f.text):=l _ _ fun w' k=>(by rw[ab k.2];rfl);clear l;simp only[qcmp];simp only[↓qpre,aAb,aAg,aAc,K,L,m3];clear K L m3;refine aBo rfl (aGo _ _ _ _) ⟨s _ ⟨i.out.hs,a.out⟩,?_⟩;simp only[aAb,aAc];have G:Below v2.heap.size v2 (v2.drew.alloc (.cells #[.string f.path,.int .i64 kind,.string f.text] 94)):=(Below.refl _ _).drew.alloc (aa _) _;have r:=hid (i.out.below G);have j:=hid ((G.block t (aAa a.out)).trans a.out);have ff:=hid (aFe v2.drew ⟨f.path,kind,f.text⟩);refine T.eff_lits (T.run_lits3 aBc _ _ _ _) rfl ⟨s _ ⟨r.out.hs,j.out⟩,?_⟩;simp only[aAb,aAc];clear G i a;generalize v2.drew.alloc (.cells #[.string f.path,.int .i64 kind,.string f.text] 94)=V at *;refine aAo aBc (base:=w0.heap.size) (n:=m.2.length) rfl rfl r.out.c1 ff.out (aCd _) (by have:=P.out;have:=Y.out;unfold maxLen;omega) (by have:=P.out;have:=Y.out;omega) r.out.bel.size ?_
    intro v9 V5 H I nj;obtain ⟨A9,c9,rfl,nU⟩:=aAd H;obtain ⟨B,nk⟩:=r.out.pushC (d:=⟨f.path,kind,f.text⟩) P.out I nj H;have J:=hid nk;have R:=hid ((I.block t (aAa j.out) (fun e=>nK.out e.symm)).trans j.out);refine ⟨s _ ⟨B,R.out⟩,?_⟩;simp only[↓qpre,aAb,aAg,aAc];refine E _ _ ?_;simp only[lates,List.map,qcmp];simp only[aAb];refine aBa (v:=.slice A9 (m.2.length+1) c9) (b:=mb) (o:=1) κ rfl rfl (by rw[ab B];rfl) (aAk B) rfl ⟨trivial,?_⟩;simp only[aAb];refine z _ _ ?_;have nB:=hid ((Below.heap_setCell V5 ⟨mb,1,none⟩ (.slice A9 (m.2.length+1) c9) t nV.out).trans R.out);clear E z s x r j ff H I nj B nk R ek;generalize V5.setCell ⟨mb,1,none⟩ (.slice A9 (m.2.length+1) c9)=V6 at *;clear Tp M Q Q2;go_wp2;have KS:=hid (fun (u:World) (hu:Below V6.heap.size V6 u)=>aGv (f:=f) (by have:=J.out.few1;have:=Y.out;omega) (J.out.f1.to hu hu.size) (by have:=HF.out;omega));refine aAq (fun u=>u.heap[mb]? = some (.cells #[.slice A m.1.length c,.slice A9 (m.2.length+1) c9] 85 (0,0))/\u.heap[t]? = some (.cells #[.string f.path,.bool f.exec,.string f.text] 48 (0,0))) [(true,0),(true,1),(true,2),(true,3),(true,4),(true,5),(false,6),(true,7),(true,8)] [9] mixed κ ⟨J.out.hs,nB.out⟩ ?_;intro Tp M Q Q2 s x l E z;have K:M ⟨mb,0,none⟩=some (.slice A m.1.length c):=l _ _ fun w' k=>(by rw[ab k.1];rfl);have L:M ⟨t,0,none⟩=some (.string f.path):=l _ _ fun w' k=>(by rw[ab k.2];rfl);have m2:M ⟨t,1,none⟩=some (.bool f.exec):=l _ _ fun w' k=>(by rw[ab k.2];rfl);have m3:M ⟨t,2,none⟩=some (.string f.text):=l _ _ fun w' k=>by rw[ab k.2];rfl
    clear l;simp only[qcmp];simp only[↓qpre,aAb,aAg,aAc,K,L,m2,m3];clear K L m2 m3;have S:Below V6.heap.size V6 V6.drew:=(Below.refl _ _).drew;refine aAh κ (KS.out _ S) rfl rfl ?_;rintro e u5 ⟨A5,c5,l5,rfl,nr,nC,nD,nE⟩;have U:=S.trans (nD.mono S.size);have X:=(U.block mb (aAa J.out.hs)).trans J.out.hs;have nz:=(U.block t (aAa nB.out)).trans nB.out;have nA:l5.length=m.1.length+1:=(by rw[nr];exact aCr _ _);have nO:=hid (J.out.putF ω (by have:=nS.out;omega) U nC nE);have nP:=hid nr;refine ⟨_,rfl,s _ ⟨X,nz⟩,?_⟩;simp only[↓qpre,aAb,aAg,aAc];refine E _ _ ?_;simp only[lates,List.map,qcmp];simp only[aAb];refine aBa (v:=.slice A5 l5.length c5) (b:=mb) (o:=0) κ rfl rfl (by rw[ab X];rfl) (aAk X) rfl ⟨trivial,?_⟩;simp only[aAb];refine z _ _ ?_;clear E z s x X nz U nD nC nE nr nA S KS;generalize u5.setCell ⟨mb,0,none⟩ (.slice A5 l5.length c5)=u6 at *;go_wp2;refine aI (aF rfl _ _ _) rfl ?_;exact ⟨rfl,_,_,_,by rw[HP.out,<-nP.out];exact nO.out⟩
theorem aEn {g:Nat}{o:Obj}(h:g=w.heap.size):(w.alloc o).heap[g]? = some o:=by subst h;exact au w o
theorem Rd.lit {g B sz:Nat}{cs:List Value}{t:TypeId}(h:w.heap[g]? = some (.cells cs.toArray t (0,0)))(b:g<B)(d:cs.length=n*sz)(e:n<=c) :
  Rd w B sz (some ⟨g,0,none⟩) n c cs:=
 ⟨d,e,fun _=>⟨g,0,rfl,b,fun j u a=>by rw[bd w _ _ _ _ _ h];simpa using a⟩⟩
theorem oneE(k:Int)(s:ByteArray):∀u∈[Value.int .i64 k,.string s],u.oneCell'=true:=by simp[Value.oneCell']
def EditsBelow (es:List DV)(w:World)(e:Ending) (w':World):Prop:=
 ∃A n c,e=.returned (.slice A n c)/\Rd w' w'.heap.size 2 A n c (es.flatMap DV.cells)/\Below w.heap.size w w'
def EOwn (w:World)(base:Nat)(v:Value)(es:List DV):Prop:=w.ownsRow base 193 2 v es.length (es.flatMap DV.cells)
theorem EOwn.push {k:Int}{s:ByteArray}(h:w.ownsRow base 193 2 v (es.length+1) (es.flatMap DV.cells++[.int .i64 k,.string s])):EOwn w base v (es++[⟨k,s⟩]):=by
 unfold EOwn;rw[aJ,ae];simpa[DV.cells] using h
theorem EOwn.alloc(h:EOwn w base v es)(o:Obj):EOwn (w.alloc o) base v es:=World.ownsRow.alloc h o
theorem EOwn.drew(h:EOwn w base v es):EOwn w.drew base v es:=World.ownsRow.drew h
theorem aEm {W:World}{a:Act}{ops:Array Oper}{rest:List Oper}{o:Oper}{Q:Exit->Act->World->Prop}(d:o.guard=none)(s x:Operand)
  (k:o.op=.call { callee:=.builtin .append,args:=#[s,x],argTypes:=#[190,190] }) {v:Value} {L:List DV} {K:Int} {h:ByteArray} {g:Nat}
  (l:a.eval s=v) (m:a.eval x=.slice (some ⟨g,0,none⟩) 1 1) (b:EOwn W w0.heap.size v L) (c:W.heap[g]? = some (.cells #[.int .i64 K,.string h] 193 (0,0))) (hL:L.length<=4398046511104)
  (e:Below w0.heap.size w0 W)
  (n:∀v' w',EOwn w' w0.heap.size v' (L++[⟨K,h⟩])->Below w0.heap.size w0 w'->W.grownBy w' v.ownBlock->(v'.ownBlock=v.ownBlock\/v'.ownBlock=some W.heap.size)->wpList prog ops Q rest (a.put o.dst v') w') :
  wpList prog ops Q (o::rest) a W:=
 aAl d s x 190 k aGb (base:=w0.heap.size) (B:=g+1) l m b (Rd.lit c (de _) rfl (aa _)) (oneE _ _) (by simp only[maxLen];omega) O e.size
  fun v' w' i f j=>n v' w' (EOwn.push i) (e.grown f e.size (fun g c=>(b.lt g c).1)) f j
theorem bFg {x:ByteArray}(h:a.take k=b.take k)(c:a[k]? = some x)(d:b[k]? = some x):a.take (k+1)=b.take (k+1):=by
 rw[aB,aB,h,c,d]
theorem EOwn.result {e:Ending}(h:EOwn w w0.heap.size v es)(b:Below w0.heap.size w0 w)(d:e=.returned v):EditsBelow es w0 e w:=by
 obtain ⟨A,c,rfl,a⟩:=aAd h;exact ⟨A,_,c,d,Rd.of_own h a,b⟩
def ST (w:World)(base:Nat)(v:Value)(L:List DV)(g0 n m:Nat)(rs:List (Nat×List Value)):Prop:=
 Owns w base (⟨193,2,v,L.length,L.flatMap DV.cells⟩::⟨36,1,rowV n g0,n+1,tcells m 0 rs⟩::trows m rs)
section
variable {w w':World} {base:Nat} {v v':Value} {L:List DV} {g0 n m:Nat} {rs:List (Nat×List Value)}
theorem ST.tb(h:ST w base v L g0 n m rs):TB w base g0 n m 0 rs:=
 ⟨fun r a=>h.own r (am _ a),by
  have:=h.nd;rw[dT] at this;split at this
  ·exact this
  exact (eD.1 this).2⟩
theorem ST.own(h:ST w base v L g0 n m rs):EOwn w base v L:=Owns.own h ⟨193,2,v,L.length,L.flatMap DV.cells⟩ (bu ..)
theorem ST.alloc(h:ST w base v L g0 n m rs)(o:Obj):ST (w.alloc o) base v L g0 n m rs:=Owns.alloc h o
theorem ST.drew(h:ST w base v L g0 n m rs):ST w.drew base v L g0 n m rs:=Owns.drew h
theorem ST.push(h:ST w base v L g0 n m rs){e:DV}(a:EOwn w' base v' (L++[e]))(b:w.grownBy w' v.ownBlock)(c:v'.ownBlock=v.ownBlock\/v'.ownBlock=some w.heap.size):ST w' base v' (L++[e]) g0 n m rs:=
 Owns.turn (l1:=[]) (r:=⟨193,2,v,L.length,L.flatMap DV.cells⟩) (r':=⟨193,2,v',(L++[e]).length,(L++[e]).flatMap DV.cells⟩) h b a c
theorem bEp {e:TypeId}{sz:Nat}{xs:List Value}(h:w.ownsRow base e sz v k xs)(f:Below w.heap.size w w'):w'.ownsRow base e sz v k xs:=by
 refine ⟨h.1,?_⟩;rcases h.2 with d | ⟨g,cap,a,rfl,b,c,rest⟩
 ·exact .inl d
 exact .inr ⟨g,cap,a,rfl,b,by rw[f.block g (aU.1 c).1];exact c,rest⟩
theorem ST.make(h:EOwn w base v L)(b:TB w' w.heap.size g0 n m 0 rs)(o:Below w.heap.size w w')(i:base<=w.heap.size):ST w' base v L g0 n m rs:=by
 refine ⟨fun r a=>?_,?_⟩
 ·rcases ax.1 a with rfl | a
  ·exact bEp h o
  have c:=b.own r a;refine ⟨c.1,?_⟩;rcases c.2 with j | ⟨g,cap,f,e,k,rest⟩
  ·exact .inl j
  exact .inr ⟨g,cap,f,e,O,rest⟩
 rw[dT]
 cases p:v.ownBlock with
 | none=>exact b.nd
 | some g=>
  refine eD.2 ⟨fun l=>?_,b.nd⟩;obtain ⟨r,a,d⟩:=cB.1 l;have c:=(b.own r a).lt g d;have q:=h.lt g p;omega
end
theorem aYa(hn:n<=1048576)(hm:m<=1048576)
  (ha:Rd w w.heap.size 1 A n ca (a.map .string)) (hb:Rd w w.heap.size 1 B m cb (b.map .string)) :
  Calls prog 139 #[.slice A n ca,.slice B m cb] w (EditsBelow (script a b) w):=by
 have Y:=hid (show a.length=n by have:=ha.len;simpa using this);have HB:=hid (show b.length=m by have:=hb.len;simpa using this);have nS:=ha.cap;have nT:=hb.cap;go_enter Tryz.func139,Tryz.ntmps139;go_wp2;rename_i K hK
 have nr:∀{k:Nat} {L u12 u13 u14 u15 u16 u17 u18 u19 u20 u21 u22 u23 u24 u25 u26 u27 u28 u29 u30 u31 u32 u33 u34 u35 u36 u37 u38 u39 u40 u41 u42:Value} {w1:World},k<=n->k<=m->Below w.heap.size w w1->Hid (EOwn w1 w.heap.size L (evs 1 (a.take k)))->Hid (pfx a b=k)->
   K ⟨#[.slice A n ca,.slice B m cb,undef,undef,.slice none 0 0,L,.int .i64 k,undef,undef,undef,undef,undef,u12,u13,u14,u15,u16,u17,u18,u19,u20,u21,u22,u23,u24,u25,u26,u27,u28,u29,u30,u31,u32,u33,u34,u35,u36,u37,u38,u39,u40,u41,u42,undef,undef,undef,undef,undef,undef,undef,undef,undef,undef,undef,undef,undef,undef,undef,undef,undef,undef,undef,undef,undef,undef,undef,undef,undef,undef,undef,undef,undef,undef,undef,undef,undef,undef,undef,undef,undef,undef,undef,undef,undef,undef,undef,undef,undef,undef,undef,undef,undef,undef,undef,undef,undef,undef,undef,undef,undef,undef,undef,undef,undef,undef,undef,undef,undef,undef,undef,undef,undef,undef,undef,undef,undef,undef,undef,undef,undef,undef,undef,undef,undef,undef,undef,undef,undef,undef,undef,undef,undef,undef,undef,undef,undef,undef,undef,undef,undef,undef,undef,undef,undef,undef,undef,undef,undef,undef,undef,undef,undef,undef,undef,undef,undef,undef,undef,undef,undef,undef,undef,undef,undef,undef,undef,undef,undef,undef,undef,undef,undef,undef,undef,undef,undef,undef,undef,undef,undef,undef,undef,undef,undef],[]⟩ w1:=by
  intro k L u12 u13 u14 u15 u16 u17 u18 u19 u20 u21 u22 u23 u24 u25 u26 u27 u28 u29 u30 u31 u32 u33 u34 u35 u36 u37 u38 u39 u40 u41 u42 w1 nu nw u HO HP
  have v:=hid u;clear u
  refine hK _ _ ?_
  clear hK
  go_wp2
  refine aAe (fun w'=>Below w.heap.size w w') (qs 8) mixed κ v.out.drew ?_
  intro T M Q W s I G
  clear I
  simp only[qcmp]
  simp only[↓qpre,aAb,aAg,aAc]
  refine ⟨⟨ω,ω⟩,⟨ω,ω⟩,G _ _ ?_⟩
  clear G W s
  have ns:=ha.cut1 (l:=k) (k:=n) nu (aa _)
  have nj:=hb.cut1 (l:=k) (k:=m) nw (aa _)
  rw[ai (by rw[az,Y.out];exact aa _),<-eO] at ns
  rw[ai (by rw[az,HB.out];exact aa _),<-eO] at nj
  have HS:Hid (script a b=evs 1 (a.take k)++rest (a.drop k) (b.drop k)):=by unfold script;rw[HP.out];rfl
  have HL:Hid ((evs 1 (a.take k)).length<=1048576):=by unfold Hid;rw[aBt,aE];omega
  have nW:n-k<=1048576:=ω
  have nX:m-k<=1048576:=ω
  have D:=hid v.out.drew
  have H:=hid HO.out.drew
  simp only[sliced,bW]
  generalize (if ca=k then A else Option.map (fun x=>x.add k) A)=A1 at *
  generalize (if cb=k then B else Option.map (fun x=>x.add k) B)=B1 at *
  generalize w1.drew=w2 at *
  clear HP HO v ha hb Y HB nS nT
  generalize evs 1 (a.take k)=L0 at *
  generalize a.drop k=a1 at *
  generalize b.drop k=b1 at *
  generalize n-k=X at *
  generalize m-k=P at *
  generalize ca-k=c1 at *
  generalize cb-k=c2 at *
  generalize script a b=nJ at *
  have Y:=hid (show a1.length=X by have:=ns.len;simpa using this)
  have HB:=hid (show b1.length=P by have:=nj.len;simpa using this)
  by_cases nY:400<X\/400<P
  ·by_cases c1:400<X
   case' neg=>have c2:400<P:=ω
   all_goals
    go_wp2
    go_loopw[5,7] (fun L i wr=>∃j:Nat,j<=X/\i=.int .i64 j/\Below w.heap.size w wr/\Hid (EOwn wr w.heap.size L (L0++evs 2 (a1.take j))))
      (fun _ i _=>X-(intOf i).toNat)
    case atStart=>exact ⟨0,al _,rfl,D.out,by rw[bi];exact (show Hid (EOwn _ _ _ (L0++[])) by rw[aR];exact H)⟩
    clear D H
    obtain ⟨j,hj,rfl,u,HO⟩:=hrel
    have J:=u.size
    have v:=hid u;clear u
    by_cases nK:j<X
    ·obtain ⟨ba,oa,x,rfl,N,O,c⟩:=ns.str (k:=j) nK
     have HX:=hid O;clear O
     have c0:=(v.out.cell (p:=⟨ba,oa+j,none⟩) N).trans c
     have R:=hid (show (L0++evs 2 (a1.take j)).length<=4398046511104 by have:=HL.out;have:=Y.out;simp only[ae,aBt,aE];omega)
     go_wp2_with (at_builtin;refine aEm rfl (.tmp 63) (.tmp 69) rfl rfl rfl (EOwn.alloc HO.out _) (aEn rfl) R.out (v.out.alloc J _) ?_;intro v2 w3 g h o f;have H:=hid g;have D:=hid h;clear g h o f)
     go_roundw
     case rel=>
      refine ⟨j+1,ω,by go_num,D.out,?_⟩;rw[aMi HX.out,<-aH];exact H
     simp[intOf];omega
    have nB:j=X:=ω
    subst nB
    rw[ai (by rw[Y.out];exact aa _)] at HO
    have D:=v;have H:=HO
    clear v HO
    go_wp2
    go_loopw[5,8] (fun L i wr=>∃j:Nat,j<=P/\i=.int .i64 j/\Below w.heap.size w wr/\Hid (EOwn wr w.heap.size L ((L0++evs 2 a1)++evs 3 (b1.take j))))
      (fun _ i _=>P-(intOf i).toNat)
    case atStart=>exact ⟨0,al _,rfl,D.out,by rw[bi];exact (show Hid (EOwn _ _ _ ((L0++evs 2 a1)++[])) by rw[aR];exact H)⟩
    clear D H
    obtain ⟨j,hj,rfl,u,HO⟩:=hrel
    have J:=u.size
    have v:=hid u;clear u
    by_cases nK:j<P
    ·obtain ⟨ba,oa,x,rfl,N,O,c⟩:=nj.str (k:=j) nK
     have HX:=hid O;clear O
     have c0:=(v.out.cell (p:=⟨ba,oa+j,none⟩) N).trans c
     have R:=hid (show ((L0++evs 2 a1)++evs 3 (b1.take j)).length<=4398046511104 by have:=HL.out;have:=Y.out;simp only[ae,aBt,aE];omega)
     go_wp2_with (at_builtin;refine aEm rfl (.tmp 77) (.tmp 83) rfl rfl rfl (EOwn.alloc HO.out _) (aEn rfl) R.out (v.out.alloc J _) ?_;intro v2 w3 g h o f;have H:=hid g;have D:=hid h;clear g h o f)
     go_roundw
     case rel=>
      refine ⟨j+1,ω,by go_num,D.out,?_⟩;rw[aMi HX.out,<-aH];exact H
     simp[intOf];omega
    have nB:j=P:=ω
    subst nB
    rw[ai (by rw[HB.out];exact aa _)] at HO
    have HF:Hid (nJ=L0++evs 2 a1++evs 3 b1):=by unfold Hid;rw[HS.out,rest,ao (by rw[Y.out,HB.out];omega),aH]
    go_wp2
    go_ret
    rw[HF.out]
    exact HO.out.result v.out rfl
  have c1:¬400<X:=ω
  have c2:¬400<P:=ω
  go_wp2_with fail
  have Z:=D.out.size
  have C:=aUl (w:=w2) ω ω ((ns.below D.out).more Z) ((nj.below D.out).more Z)
  refine C.mono ?_
  clear C
  rintro e w3 ⟨g0,rs,rfl,nz,nR,nG⟩
  rw[Y.out,HB.out] at nz
  have E:=hid (ST.make H.out nz nG Z)
  have nM:=hid nR
  have nN:=hid (D.out.trans (nG.mono Z))
  have nO:=hid (show rs.length=X+1 by have:=nz.len;omega)
  clear nz nR nG Z H D
  rw[Y.out]
  have nU:Hid (nJ=L0++scrT a1 b1):=by unfold Hid;rw[HS.out,rest,ah (by rw[Y.out,HB.out];omega)]
  clear HS
  simp only[rowV]
  go_wp2
  go_loopw[5,10,11] (fun L iv kv wr=>∃(i q:Nat) (d:List DV),i<=X/\q<=P/\iv=.int .i64 i/\kv=.int .i64 q/\Below w.heap.size w wr/\Hid (ST wr w.heap.size L (L0++d) g0 X P rs)/\Hid (d++scrT (a1.drop i) (b1.drop q)=scrT a1 b1)/\Hid (d.length<=i+q))
    (fun _ i q _=>(X-(intOf i).toNat)+(P-(intOf q).toNat))
  case atStart=>exact ⟨0,0,[],al _,al _,rfl,rfl,nN.out,by rw[aR];exact E,rfl,al _⟩
  clear nN E
  obtain ⟨i,q,d,hi,hq,rfl,rfl,u,E,HD,nm⟩:=hrel
  have J:=u.size
  have v:=hid u;clear u
  have R:=hid (show (L0++d).length<=4398046511104 by have:=HL.out;have:=nm.out;simp only[ae];omega)
  have T1:∀z:Nat,((z:Int)+1).toNat=z+1:=fun z=>by omega
  by_cases nV:i<X
  ·obtain ⟨ba,oa,x,rfl,N,O,c⟩:=ns.str (k:=i) nV
   have HX:=hid O;clear O
   by_cases nL:q<P
   ·obtain ⟨bb,ob,y,rfl,nq,ff,t⟩:=nj.str (k:=q) nL
    have HY:=hid ff;clear ff
    go_wp2
    refine aAe (fun w'=>∀p:Addr,w'.cell? p=wr.cell? p) (qs 22) mixed κ (fun p=>rfl) ?_
    intro T M Q W s I G
    have f0:M ⟨ba,oa+i,none⟩=some (.string x):=I _ _ fun w' hw=>(hw _).trans ((v.out.cell (p:=⟨ba,oa+i,none⟩) N).trans c)
    have f1:M ⟨bb,ob+q,none⟩=some (.string y):=I _ _ fun w' hw=>(hw _).trans ((v.out.cell (p:=⟨bb,ob+q,none⟩) nq).trans t)
    clear I
    have d1:decide ((i:Int)<X)=true:=aq ω
    have d2:decide ((q:Int)<P)=true:=aq ω
    simp only[qcmp]
    simp only[↓qpre,aAb,aAg,aAc,f0,f1,d1,d2]
    refine ⟨⟨ω,ω⟩,⟨ω,ω⟩,G _ _ ?_⟩
    clear G W s f0 f1 d1 d2
    cases hd:decide (x=y)
    ·have nk:=hid (cj hd)
     clear hd
     have nC:=E.out.tb
     obtain ⟨⟨gi,xi⟩,nH⟩:∃r,rs[i]? = some r:=⟨_,ac (by rw[nO.out];omega)⟩
     obtain ⟨⟨gj,xj⟩,nI⟩:∃r,rs[i+1]? = some r:=⟨_,ac (by rw[nO.out];omega)⟩
     have nP:=nM.out _ _ nH
     have nQ:=nM.out _ _ nI
     simp only[aO] at nP nQ
     subst nP nQ
     obtain ⟨t1,o1⟩:=nC.at_ nH
     obtain ⟨t2,o2⟩:=nC.at_ nI
     have v1:=aDt o1 (aFy (a:=a1) (b:=b1) (i:=i) (k:=0) (j:=q+1) (by rw[HB.out];omega) (al _))
     have v2:=aDt o2 (aFy (a:=a1) (b:=b1) (i:=i+1) (k:=0) (j:=q) (by rw[HB.out];omega) (al _))
     simp only[aO] at t1 t2
     have V:=hid (And.intro t1 (And.intro t2 (And.intro v1 v2)))
     clear t1 t2 o1 o2 v1 v2 nC nH nI
     go_wp2
     refine aAe (fun w'=>∀p:Addr,w'.cell? p=wr.cell? p) (qs 30) mixed κ (fun p=>rfl) ?_
     intro T M Q W s I G
     have f0:M ⟨g0,i,none⟩=some (rowV P gi):=I _ _ fun w' hw=>(hw _).trans V.out.1
     have f1:M ⟨g0,i+1,none⟩=some (rowV P gj):=I _ _ fun w' hw=>(hw _).trans V.out.2.1
     have f2:M ⟨gi,q+1,none⟩=some (.int .i64 (cel a1 b1 i (q+1))):=I _ _ fun w' hw=>(hw _).trans V.out.2.2.1
     have f3:M ⟨gj,q,none⟩=some (.int .i64 (cel a1 b1 (i+1) q)):=I _ _ fun w' hw=>(hw _).trans V.out.2.2.2
     clear I
     have d1:decide ((q:Int)=P)=false:=ak ω
     have d2:decide ((i:Int)<X)=true:=aq ω
     simp only[qcmp]
     simp only[↓qpre,aAb,aAg,aAc,f0,f1,f2,f3,d1,d2,rowV,T1]
     refine ⟨⟨ω,ω⟩,⟨ω,ω⟩,⟨ω,ω⟩,⟨ω,ω⟩,⟨ω,ω⟩,⟨ω,ω⟩,G _ _ ?_⟩
     clear G W s f0 f1 f2 f3 d1 d2 V
     cases nA:decide ((cel a1 b1 i (q+1):Int)<=(cel a1 b1 (i+1) q:Int))
     ·have nD:=hid (cj nA)
      clear nA
      have c0:=(v.out.cell (p:=⟨bb,ob+q,none⟩) nq).trans t
      go_wp2_with (at_builtin;refine aEm rfl (.tmp 99) (.tmp 105) rfl rfl rfl (EOwn.alloc E.out.own.drew.drew _) (aEn rfl) R.out (v.out.drew.drew.alloc J _) ?_;intro v2 w4 g h o f;have S:=hid h;have F:=hid (ST.push (E.out.drew.drew.alloc _) g o f);clear g h o f)
      go_roundw
      case rel=>
       refine ⟨i,q+1,d++[⟨3,y⟩],ω,ω,by go_num,by go_num,S.out,?_,?_,?_⟩
       ·rw[<-aH];exact F
       ·have U:=HD.out
        rw[bEk HX.out HY.out nk.out (by have:=nD.out;omega)] at U;unfold Hid;rw[aH];exact U
       have:=nm.out;unfold Hid;simp only[ae,bf];omega
      simp[intOf];omega
     have nD:=hid (aP nA)
     clear nA
     have c0:=(v.out.cell (p:=⟨ba,oa+i,none⟩) N).trans c
     go_wp2_with (at_builtin;refine aEm rfl (.tmp 173) (.tmp 179) rfl rfl rfl (EOwn.alloc E.out.own.drew.drew _) (aEn rfl) R.out (v.out.drew.drew.alloc J _) ?_;intro v2 w4 g h o f;have S:=hid h;have F:=hid (ST.push (E.out.drew.drew.alloc _) g o f);clear g h o f)
     go_roundw
     case rel=>
      refine ⟨i+1,q,d++[⟨2,x⟩],ω,ω,by go_num,by go_num,S.out,?_,?_,?_⟩
      ·rw[<-aH];exact F
      ·have U:=HD.out
       rw[bHu HX.out HY.out nk.out (by have:=nD.out;omega)] at U;unfold Hid;rw[aH];exact U
      have:=nm.out;unfold Hid;simp only[ae,bf];omega
     simp[intOf];omega
    have nk:=aP hd
    subst nk
    clear hd
    have c0:=(v.out.cell (p:=⟨ba,oa+i,none⟩) N).trans c
    go_wp2_with (at_builtin;refine aEm rfl (.tmp 131) (.tmp 137) rfl rfl rfl (EOwn.alloc E.out.own.drew _) (aEn rfl) R.out (v.out.drew.alloc J _) ?_;intro v2 w4 g h o f;have S:=hid h;have F:=hid (ST.push (E.out.drew.alloc _) g o f);clear g h o f)
    go_roundw
    case rel=>
     refine ⟨i+1,q+1,d++[⟨1,x⟩],ω,ω,by go_num,by go_num,S.out,?_,?_,?_⟩
     ·rw[<-aH];exact F
     ·have U:=HD.out
      rw[aZc HX.out HY.out rfl] at U;unfold Hid;rw[aH];exact U
     have:=nm.out;unfold Hid;simp only[ae,bf];omega
    simp[intOf];omega
   ·
    have nE:q=P:=ω
    subst nE
    go_wp2
    refine aAe (fun w'=>∀p:Addr,w'.cell? p=wr.cell? p) (qs 22) mixed κ (fun p=>rfl) ?_
    intro T M Q W s I G
    clear I
    have d1:decide ((i:Int)<X)=true:=aq ω
    have d2:decide ((q:Int)<q)=false:=ak ω
    simp only[qcmp]
    simp only[↓qpre,aAb,aAg,aAc,d1,d2]
    refine G _ _ ?_
    clear G W s d1 d2
    go_wp2
    refine aAe (fun w'=>∀p:Addr,w'.cell? p=wr.cell? p) (qs 30) mixed κ (fun p=>rfl) ?_
    intro T M Q W s I G
    clear I
    have d1:decide ((q:Int)=q)=true:=aq ω
    simp only[qcmp]
    simp only[↓qpre,aAb,aAg,aAc]
    refine G _ _ ?_
    clear G W s d1
    have c0:=(v.out.cell (p:=⟨ba,oa+i,none⟩) N).trans c
    go_wp2_with (at_builtin;refine aEm rfl (.tmp 173) (.tmp 179) rfl rfl rfl (EOwn.alloc E.out.own.drew.drew _) (aEn rfl) R.out (v.out.drew.drew.alloc J _) ?_;intro v2 w4 g h o f;have S:=hid h;have F:=hid (ST.push (E.out.drew.drew.alloc _) g o f);clear g h o f)
    go_roundw
    case rel=>
     refine ⟨i+1,q,d++[⟨2,x⟩],ω,ω,by go_num,by go_num,S.out,?_,?_,?_⟩
     ·rw[<-aH];exact F
     ·have U:=HD.out
      rw[<-HB.out,bIx HX.out,HB.out] at U;unfold Hid;rw[aH];exact U
     have:=nm.out;unfold Hid;simp only[ae,bf];omega
    simp[intOf];omega
  by_cases nL:q<P
  ·
   have nF:i=X:=ω
   subst nF
   obtain ⟨bb,ob,y,rfl,nq,ff,t⟩:=nj.str (k:=q) nL
   have HY:=hid ff;clear ff
   go_wp2
   refine aAe (fun w'=>∀p:Addr,w'.cell? p=wr.cell? p) (qs 22) mixed κ (fun p=>rfl) ?_
   intro T M Q W s I G
   clear I
   have d1:decide ((i:Int)<i)=false:=ak ω
   simp only[qcmp]
   simp only[↓qpre,aAb,aAg,aAc,d1]
   refine G _ _ ?_
   clear G W s d1
   go_wp2
   refine aAe (fun w'=>∀p:Addr,w'.cell? p=wr.cell? p) (qs 30) mixed κ (fun p=>rfl) ?_
   intro T M Q W s I G
   clear I
   have d1:decide ((q:Int)=P)=false:=ak ω
   have d2:decide ((i:Int)<i)=false:=ak ω
   simp only[qcmp]
   simp only[↓qpre,aAb,aAg,aAc,d1,d2]
   refine G _ _ ?_
   clear G W s d1 d2
   have c0:=(v.out.cell (p:=⟨bb,ob+q,none⟩) nq).trans t
   go_wp2_with (at_builtin;refine aEm rfl (.tmp 99) (.tmp 105) rfl rfl rfl (EOwn.alloc E.out.own.drew.drew _) (aEn rfl) R.out (v.out.drew.drew.alloc J _) ?_;intro v2 w4 g h o f;have S:=hid h;have F:=hid (ST.push (E.out.drew.drew.alloc _) g o f);clear g h o f)
   go_roundw
   case rel=>
    refine ⟨i,q+1,d++[⟨3,y⟩],ω,ω,by go_num,by go_num,S.out,?_,?_,?_⟩
    ·rw[<-aH];exact F
    ·have U:=HD.out
     rw[<-Y.out,bKk HY.out,Y.out] at U;unfold Hid;rw[aH];exact U
    have:=nm.out;unfold Hid;simp only[ae,bf];omega
   simp[intOf];omega
  have nF:i=X:=ω
  have nE:q=P:=ω
  subst nF nE
  have HF:Hid (L0++d=nJ):=by
   have U:=HD.out;rw[cI (by rw[Y.out];exact aa _),cI (by rw[HB.out];exact aa _),scrT,aR] at U;unfold Hid;rw[nU.out,U]
  go_wp2
  go_ret
  rw[<-HF.out]
  exact E.out.own.result v.out rfl
 clear hK
 go_loopw[5,6] (fun L i wr=>∃k:Nat,k<=n/\k<=m/\i=.int .i64 k/\Below w.heap.size w wr/\Hid (EOwn wr w.heap.size L (evs 1 (a.take k)))/\Hid (a.take k=b.take k))
   (fun _ i _=>n-(intOf i).toNat)
 case atStart=>
  refine ⟨0,al _,al _,rfl,Below.refl _ _,?_,rfl⟩;rw[bi];exact aA _ _ _ _
 obtain ⟨k,nu,nw,rfl,u,HO,HT⟩:=hrel;have J:=u.size;have v:=hid u;clear u;by_cases U:k<n
 case' pos=>
  obtain ⟨ba,oa,x,rfl,N,O,c⟩:=ha.str (k:=k) U;have HX:=hid O;clear O;rcases bo k m with h2 | h2
  case' inl=>
   obtain ⟨bb,ob,y,rfl,nq,ff,t⟩:=hb.str (k:=k) h2;have HY:=hid ff;clear ff;go_wp2;refine aAe (fun w'=>Below w.heap.size w w') (qs 21) mixed κ v.out.drew ?_;intro T M Q W s I G;have f0:M ⟨ba,oa+k,none⟩=some (.string x):=I _ _ fun w' hw=>(hw.cell (p:=⟨ba,oa+k,none⟩) N).trans c;have f1:M ⟨bb,ob+k,none⟩=some (.string y):=I _ _ fun w' hw=>(hw.cell (p:=⟨bb,ob+k,none⟩) nq).trans t;clear I;have d1:decide ((k:Int)<n)=true:=aq ω;have d2:decide ((k:Int)<m)=true:=aq ω;simp only[qcmp];simp only[↓qpre,aAb,aAg,aAc,f0,f1,d1,d2];refine ⟨⟨ω,ω⟩,⟨ω,ω⟩,?_⟩;refine G _ _ ?_;clear G W s f0 f1 d1 d2
   cases hd:decide (x=y)
   case' true=>
    have nk:=aP hd;subst nk;clear hd;have c0:=(v.out.cell (p:=⟨ba,oa+k,none⟩) N).trans c;have HL:=hid (show (evs 1 (a.take k)).length<=4398046511104 by rw[aBt,aE];omega);go_wp2_with (at_builtin;refine aEm rfl (.tmp 33) (.tmp 39) rfl rfl rfl (EOwn.alloc HO.out.drew _) (aEn rfl) HL.out (v.out.drew.alloc J _) ?_;intro v2 w2 g h o f;have H:=hid g;have D:=hid h;clear g h o f);go_roundw
    case rel=>
     refine ⟨k+1,ω,ω,by go_num,D.out,?_,bFg HT.out HX.out HY.out⟩;rw[aMi HX.out];exact H
    simp[intOf];omega
   case' false=>
    have HP:=hid (bAv (a:=a) (b:=b) (k:=k) (by rw[Y.out];omega) (by rw[HB.out];omega) HT.out (.inr (.inr (by rw[HX.out,HY.out];simpa using cj hd))));clear hd;clear c t;clear HX HY;go_wp2;exact nr nu nw v.out.drew HO.out.drew HP
  case' inr=>
   have HP:=hid (bAv (a:=a) (b:=b) (k:=k) (by rw[Y.out];omega) (by rw[HB.out];omega) HT.out (.inr (.inl (by rw[HB.out];omega))));clear c;go_wp2;refine aAe (fun w'=>Below w.heap.size w w') (qs 21) mixed κ v.out.drew ?_;intro T M Q W s I G;clear I;have d1:decide ((k:Int)<n)=true:=aq ω;have d2:decide ((k:Int)<m)=false:=ak ω;simp only[qcmp];simp only[↓qpre,aAb,aAg,aAc,d1,d2];refine G _ _ ?_;clear G W s d1 d2;go_wp2;exact nr nu nw v.out.drew HO.out.drew HP
 case' neg=>
  have HP:=hid (bAv (a:=a) (b:=b) (k:=k) (by rw[Y.out];omega) (by rw[HB.out];omega) HT.out (.inl (by rw[Y.out];omega)));go_wp2;refine aAe (fun w'=>Below w.heap.size w w') (qs 21) mixed κ v.out.drew ?_;intro T M Q W s I G;clear I;have d1:decide ((k:Int)<n)=false:=ak ω;simp only[qcmp];simp only[↓qpre,aAb,aAg,aAc,d1];refine G _ _ ?_;clear G W s d1;go_wp2;exact nr nu nw v.out.drew HO.out.drew HP
def plI:Option Nat->Int
 | some x=>(x:Int)
 | none=>-1
def placesI (base side:List ByteArray):List Int:=(placeF base side).map plI
theorem aGc:∀(L:List DV) (e:DV) (j:Nat),placesF (L++[e]) j=placesF L j++(if e.kind=1 then [some (j+(news L).length)] else if e.kind=2 then [none] else [])
 | [],e,j=>by simp[placesF,news]
 | x::L,e,j=>by
  have c:(news (x::L)).length=(if x.kind=2 then 0 else 1)+(news L).length:=by
   rw[aIv,ae];split<;>rfl
  rw[aV,placesF,placesF,aGc L e (j+1),aGc L e j,c];by_cases b:x.kind=1
  ·have a:¬x.kind=2:=O
   rw[ao b,ao b,ah a,aV,show j+1+(news L).length=j+(1+(news L).length) by omega]
  by_cases a:x.kind=2
  ·rw[ah b,ah b,ao a,ao a,ao a,aV,aO]
  rw[ah b,ah b,ah a,ah a,ah a,show j+1+(news L).length=j+(1+(news L).length) by omega]
theorem bEj(L:List DV)(e:DV):(news (L++[e])).length=(news L).length+if e.kind=2 then 0 else 1:=by
 rw[aSh,ae,aIv];split<;>simp[news]
theorem aXf {base side:List ByteArray}{i:Nat}(a:i<base.length):(intsV (placesI base side))[i]? = some (.int .i64 (plI (keptAt base side i))):=by
 have h:i<(placeF base side).length:=by rw[(aCw base side).len];exact a
 unfold intsV placesI keptAt;rw[aG,aG,ac h];rfl
theorem aWq(base side:List ByteArray):(placesI base side).length=base.length:=by unfold placesI;rw[az,(aCw base side).len]
theorem bHg {o:Option Nat}:plI o<0↔o=none:=by
 cases o with
 | none=>simp[plI]
 | some x=>simp[plI]
theorem aZs {o:Option Nat}{x:Nat}:plI o=(x:Int)↔o=some x:=by
 cases o with
 | none=>simp[plI]
 | some y=>
  simp only[plI,dy];omega
theorem aZb(l:List Int):∀u∈intsV l,u.oneCell'=true:=by
 intro u a;obtain ⟨s,_,rfl⟩:=ce.1 a;rfl
theorem bGf(w:World)(g:Nat)(i:Int)(b:g=w.heap.size):Rd (w.alloc (.cells #[.int .i64 i] 3)) (w.alloc (.cells #[.int .i64 i] 3)).heap.size 1 (some ⟨g,0,none⟩) 1 1 (intsV [i]):=by
 subst b
 exact ⟨rfl,aa _,fun _=>⟨_,0,rfl,by simp,fun j u a=>by
  rw[aO,World.cell?,au];simpa[intsV] using a⟩⟩
theorem DV.len_flat(l:List DV):(l.flatMap DV.cells).length=l.length*2:=by
 induction l with
 | nil=>rfl
 | cons x l ih=>rw[aL,ae,ih,aD,DV.cells_len];omega
def IntsIs (L:List Int)(w:World)(e:Ending) (w':World):Prop:=∃v,e=.returned v/\w'.ownsRow w.heap.size 3 1 v L.length (intsV L)/\Below w.heap.size w w'
theorem bJy {S:List DV}{e:DV}(a:S[k]? = some e):(placesF (S.take (k+1)) 0).map plI=(placesF (S.take k) 0).map plI++(if e.kind=1 then [((news (S.take k)).length:Int)] else if e.kind=2 then [-1] else []):=by
 rw[aB,a];show (placesF (S.take k++[e]) 0).map plI=_;rw[aGc,aM,aO];split
 ·rfl
 split<;>rfl
theorem bEt {S:List DV}{e:DV}(a:S[k]? = some e):(news (S.take (k+1))).length=(news (S.take k)).length+if e.kind=2 then 0 else 1:=by
 rw[aB,a];exact bEj _ _
theorem bMg(S:List DV)(k:Nat):((placesF (S.take k) 0).map plI).length<=k:=by
 have h:∀(L:List DV) (j:Nat),(placesF L j).length<=L.length:=by
  intro L
  induction L with
  | nil=>intro j;exact aa _
  | cons e L ih=>
   intro j;rw[placesF];have a:=ih (j+1);have b:=ih j;rw[aD];split
   ·rw[aD];omega
   split
   ·rw[aD];omega
   omega
 have:=h (S.take k) 0;rw[aE] at this;rw[az];omega
theorem bFh:∀L:List DV,(news L).length<=L.length
 | []=>aa _
 | e::L=>by
  have:=bFh L;rw[aIv,ae,aD];split<;>simp<;>omega
theorem aNe(hn:n<=100000)(hm:m<=100000)
  (ha:Rd w w.heap.size 1 A n ca (a.map .string)) (O:Rd w w.heap.size 1 B m cb (b.map .string)) :
  Calls prog 116 #[.slice A n ca,.slice B m cb] w (IntsIs (placesI a b) w):=by
 have x:a.length=n:=by have:=ha.len;rw[az] at this;omega
 have y:b.length=m:=by have:=O.len;rw[az] at this;omega
 have D:=aPj a b;rw[x,y] at D;have K:=aYa ω ω ha O;have E:=hid (show placesI a b=(placesF (script a b) 0).map plI from rfl);clear ha O x y;generalize script a b=S at *;generalize placesI a b=PI at *;go_enter Tryz.func116,Tryz.ntmps116;go_wp2_with fail;refine K.mono ?_;rintro e G ⟨A1,n1,c1,rfl,H,C⟩
 have F:S.length=n1:=by
  have:=H.len;rw[DV.len_flat] at this;omega
 subst F;have X:=hid H;have q:=hid C;clear K H C;go_wp2;go_loopw[6,7,8] (fun ov av M wr=>∃k:Nat,k<=S.length/\M=.int .i64 k/\av=.int .i64 ((news (S.take k)).length:Nat)/\Hid (Below G.heap.size G wr)/\Hid (wr.ownsRow G.heap.size 3 1 ov ((placesF (S.take k) 0).map plI).length (intsV ((placesF (S.take k) 0).map plI)))) (fun _ _ M _=>S.length-(intOf M).toNat)
 case atStart=>exact ⟨0,al _,rfl,rfl,hid (Below.refl _ _),aA _ _ _ _⟩
 obtain ⟨k,hk,rfl,rfl,o,t⟩:=hrel;have Y:=bMg S k;have z:=bFh (S.take k);rw[aE] at z;by_cases Q:k<S.length
 ·obtain ⟨b0,o0,e,I,J,L,_,V⟩:=T.rd_flat DV.cells_len ω X.out rfl Q
  cases I
  have Z:=(o.out.cell (p:=⟨b0,o0+k*2,none⟩) J).trans (V 0 _ rfl);have j:=hid (bJy L);have l:=hid (bEt L);clear L V;generalize (placesF (S.take k) 0).map plI=P at *;generalize (news (S.take k)).length=v at *;have ff:v<=200000:=ω;clear z;obtain ⟨W,ln⟩:=e;dsimp only at Z;by_cases R:W=1
  ·subst R
   have j:=hid (j.out.trans (congrArg (P++·) (ao rfl)));have l:=hid (l.out.trans (congrArg (v+·) (ah (by simp))));have c:=o.out.alloc o.out.size (.cells #[.int .i64 (v:Int)] 3);have d:=t.out.alloc (.cells #[.int .i64 (v:Int)] 3);have f:=bGf wr wr.heap.size v rfl;go_wp2_with (at_builtin;refine aAl rfl (.tmp 27) (.tmp 29) 36 rfl aZo rfl rfl d f (aZb _) (by unfold maxLen;omega) ω c.size ?_;intro v7 w7 h i u);have r:=hid (c.grown i c.size (fun g N=>(d.lt g N).1));have s:=hid h;clear h i u c d f o t;go_roundw
   case rel=>exact ⟨k+1,ω,by go_num,by rw[l.out];go_num,r,by rw[j.out,ae];unfold intsV;rw[aM];exact s⟩
   simp[intOf];omega
  by_cases U:W=2
  ·subst U
   have j:=hid (j.out.trans (congrArg (P++·) ((ah (by simp)).trans (ao rfl))));have l:=hid (l.out.trans (congrArg (v+·) (ao rfl)));have c:=o.out.alloc o.out.size (.cells #[.int .i64 (-1)] 3);have d:=t.out.alloc (.cells #[.int .i64 (-1)] 3);have f:=bGf wr wr.heap.size (-1) rfl;clear R;go_wp2_with (at_builtin;refine aAl rfl (.tmp 35) (.tmp 36) 36 rfl aZo rfl rfl d f (aZb _) (by unfold maxLen;omega) ω c.size ?_;intro v7 w7 h i u);have r:=hid (c.grown i c.size (fun g N=>(d.lt g N).1));have s:=hid h;clear h i u c d f o t;go_roundw
   case rel=>exact ⟨k+1,ω,by go_num,by rw[l.out];rfl,r,by rw[j.out,ae];unfold intsV;rw[aM];exact s⟩
   simp[intOf];omega
  have j:=hid (j.out.trans (congrArg (P++·) ((ah R).trans (ah U))));have l:=hid (l.out.trans (congrArg (v+·) (ah U)));go_wp2;go_roundw
  case rel=>exact ⟨k+1,ω,by go_num,by rw[l.out];go_num,o,by rw[j.out,aR];exact t⟩
  simp[intOf];omega
 obtain rfl:k=S.length:=ω;rw[ai (aa _)] at t;go_wp2;go_ret;exact ⟨_,rfl,by rw[E.out];exact aBp t.out q.out.size,q.out.trans (o.out.mono q.out.size)⟩
def EqSt (xs ys:List ByteArray)(k:Nat):Prop:=∀j,j<k->xs[j]? = ys[j]?
theorem aYp(x y:ByteArray)(w:World):Calls prog 164 #[.string x,.string y] w fun e w'=>e=.returned (.bool (decide (x=y)))/\w'=w:=by
 have a:=aTi x y;go_enter Tryz.func164,Tryz.ntmps164;go_wp2;go_ret;exact ⟨by simp,rfl⟩
theorem bHa {BB:Nat}{xs ys:List ByteArray}(V:n<=maxLen)(W:m<=maxLen)(X:BB<=w.heap.size)
  (ha:Rd w BB 1 A n ca (xs.map .string)) (N:Rd w BB 1 B m cb (ys.map .string)) :
   Calls prog 163 #[.slice A n ca,.slice B m cb,.func (.func 164) #[] #[]] w (BoolBelow (decide (xs=ys)) w):=by
 have o:=hid (show xs.length=n by have:=ha.len;simpa using this);have z:=hid (show ys.length=m by have:=N.len;simpa using this);unfold maxLen at V W;by_cases h:n=m
 ·subst h
  go_enter Tryz.func163,Tryz.ntmps163;go_wp2;go_loopw[7] (fun i wr=>∃k:Nat,k<=n/\i=.int .i64 k/\Below w.heap.size w wr/\EqSt xs ys k) (fun i _=>n-(intOf i).toNat)
  case atStart=>exact ⟨0,al _,rfl,Below.refl _ _,fun j g=>absurd g (bN _)⟩
  obtain ⟨k,Y,rfl,a,g⟩:=hrel;by_cases f:k<n
  ·obtain ⟨r,E,u,rfl,P,F,G⟩:=ha.str f
   obtain ⟨s,H,v,rfl,R,I,J⟩:=N.str f;have b:=hid F;have c:=hid I;clear F I;go_wp2;refine aAe (fun w'=>Below w.heap.size w w') (qe [9] 11) mixed κ a.drew (fun T M Q K t x L=>?_);have C:M ⟨r,E+k,none⟩=some (.string u):=x _ _ fun w' y=>(y.cell (p:=⟨r,E+k,none⟩) (by show r<_;omega)).trans G;have D:M ⟨s,H+k,none⟩=some (.string v):=x _ _ fun w' y=>(y.cell (p:=⟨s,H+k,none⟩) (by show s<_;omega)).trans J;simp only[qcmp,Nat.reduceBEq];simp only[↓qpre,aAb,aAg,aAc,C,D];refine ⟨⟨ω,ω⟩,⟨ω,ω⟩,aAh κ (aYp u v _) rfl rfl ?_⟩;rintro e w' ⟨rfl,rfl⟩;refine ⟨_,rfl,K _ a.drew,?_⟩;simp only[↓qpre,aAb,aAc];refine L _ _ ?_;have d:=a.drew;clear L K t x C D
   cases l:decide (u=v)
   ·have q:=cj l
    clear l;go_wp2;go_ret;refine ⟨aAi (ak fun e=>?_).symm,d⟩;subst e;have:=b.out;rw[c.out] at this;injection this with this;exact q this.symm
   have q:=hid (aP l);clear l;go_wp2;go_roundw
   case rel=>
    refine ⟨k+1,ω,by go_num,d,fun j S=>?_⟩;by_cases e:j=k
    ·subst e;rw[b.out,c.out,q.out]
    exact g j ω
   simp[intOf];omega
  have O:k=n:=ω;go_wp2;go_ret;refine ⟨aAi (aq ?_).symm,a⟩;exact bGs (by rw[o.out,z.out]) (fun j U=>g j (by rw[o.out] at U;omega))
 obtain ⟨G,J⟩:=aEs (u:=(n:Int)) (v:=(m:Int)) ω;go_enter Tryz.func163,Tryz.ntmps163;go_wp2;go_ret;refine ⟨aAi (ak fun e=>?_).symm,Below.refl _ _⟩;subst e;exact h (o.out.symm.trans z.out)
theorem aKl {BB:Nat}{xs ys:List ByteArray}(c:n<=maxLen)(d:m<=maxLen)(b:BB<=w.heap.size)
  (ha:Rd w BB 1 A n ca (xs.map .string)) (f:Rd w BB 1 B m cb (ys.map .string)) :
   Calls prog 140 #[.slice A n ca,.slice B m cb] w (BoolBelow (decide (xs=ys)) w):=by
 go_enter Tryz.func140,Tryz.ntmps140;go_wp2_with (go_at_call 163;refine (bHa c d b ha f).mono ?_;rintro e w' ⟨rfl,a⟩);go_ret;exact ⟨rfl,a⟩
def BetIs (b o t:List ByteArray)(w:World)(e:Ending) (w':World):Prop:=
 ∃A0 c0 A1 c1 A2 c2,e=.returned (.tuple #[.agg #[.int .i64 (if b.length+o.length+t.length=0 then 0 else kindF b o t),.slice A0 b.length c0,.slice A1 o.length c1,.slice A2 t.length c2],.bool (!decide (b.length+o.length+t.length=0))])/\
  Rd w' w'.heap.size 1 A0 b.length c0 (b.map .string)/\Rd w' w'.heap.size 1 A1 o.length c1 (o.map .string)/\Rd w' w'.heap.size 1 A2 t.length c2 (t.map .string)/\
  (∀a,A0=some a->w.heap.size<=a.block)/\(∀a,A1=some a->w.heap.size<=a.block)/\(∀a,A2=some a->w.heap.size<=a.block)/\Below w.heap.size w w'
theorem aFn {l:List ByteArray}{w':World}{B:Nat}(h:w'.ownsRow B 9 1 (.slice A n c) l.length (l.map .string))(d:w.heap.size<=B):∀a,A=some a->w.heap.size<=a.block:=fun a ha=>by
 subst ha;have:=(h.lt a.block (by rcases h.2 with ⟨e,_⟩ | ⟨g,cap,b,e,_⟩<;>first | (cases e;done) | (cases e;rfl))).1;omega
structure BetAt (w V:World) (g8:Nat) (b o t:List ByteArray) (B1 B2 B3:Option Addr) (d1 d2 d3:Nat):Prop where
 hb:Below w.heap.size w V
 x8:V.heap[g8]? = some (.cells #[.int .i64 0,.slice B1 b.length d1,.slice B2 o.length d2,.slice B3 t.length d3] 143 (0,0))
 x6:V.heap[w.heap.size]? = some (.cells #[.int .i64 0,.slice none 0 0,.slice none 0 0,.slice none 0 0] 143 (0,0))
 r1:RdO V [g8,w.heap.size] B1 d1 b
 r2:RdO V [g8,w.heap.size] B2 d2 o
 r3:RdO V [g8,w.heap.size] B3 d3 t
 f1:∀a,B1=some a->w.heap.size<=a.block
 f2:∀a,B2=some a->w.heap.size<=a.block
 f3:∀a,B3=some a->w.heap.size<=a.block
 lt:w.heap.size<g8
section
variable {w V:World} {g8:Nat} {b o t:List ByteArray} {B1 B2 B3:Option Addr} {d1 d2 d3:Nat}
theorem BetAt.below {v:World}(h:BetAt w V g8 b o t B1 B2 B3 d1 d2 d3)(a:Below V.heap.size V v):BetAt w v g8 b o t B1 B2 B3 d1 d2 d3:=
 ⟨h.hb.trans (a.mono h.hb.size),(a.block _ (aAa h.x8)).trans h.x8,(a.block _ (aAa h.x6)).trans h.x6,h.r1.keep (Keeps.of_below a),h.r2.keep (Keeps.of_below a),h.r3.keep (Keeps.of_below a),h.f1,h.f2,h.f3,h.lt⟩
theorem BetAt.set8(h:BetAt w V g8 b o t B1 B2 B3 d1 d2 d3)(K:Int):(V.setCell ⟨g8,0,none⟩ (.int .i64 K)).heap[g8]? = some (.cells #[.int .i64 K,.slice B1 b.length d1,.slice B2 o.length d2,.slice B3 t.length d3] 143 (0,0)):=by
 have:=a8 V g8 0 _ _ (.int .i64 K) h.x8;simpa using this
theorem BetAt.set6(h:BetAt w V g8 b o t B1 B2 B3 d1 d2 d3)(K:Int):(V.setCell ⟨g8,0,none⟩ (.int .i64 K)).heap[w.heap.size]? = some (.cells #[.int .i64 0,.slice none 0 0,.slice none 0 0,.slice none 0 0] 143 (0,0)):=by
 rw[il _ _ _ _ (show w.heap.size≠g8 from gW h.lt)];exact h.x6
theorem BetAt.fin {v':World}{cs:Array Value}{K:Int}(h:BetAt w V g8 b o t B1 B2 B3 d1 d2 d3){u:World}(f:u=V\/u=V.setCell ⟨g8,0,none⟩ (.int .i64 K))(m:v'=u.setRow w.heap.size cs) :
  Rd v' v'.heap.size 1 B1 b.length d1 (b.map .string)/\Rd v' v'.heap.size 1 B2 o.length d2 (o.map .string)/\Rd v' v'.heap.size 1 B3 t.length d3 (t.map .string)/\(∀a,B1=some a->w.heap.size<=a.block)/\(∀a,B2=some a->w.heap.size<=a.block)/\(∀a,B3=some a->w.heap.size<=a.block)/\Below w.heap.size w v':=by
 subst m
 have i:Keeps [g8,w.heap.size] V u:=by
  rcases f with rfl | rfl
  ·exact Keeps.refl _ _
  exact Keeps.grown (aAy _ _ _ _) (fun g d=>by injection d with d;simp[d])
 have j:Keeps [g8,w.heap.size] u (u.setRow w.heap.size cs):=⟨by simp[World.setRow],fun p _ l=>cw (dA _ _ _ _ (fun e=>l (by simp[e])))⟩;have c:=i.trans j
 have k:Below w.heap.size w u:=by
  rcases f with rfl | rfl
  ·exact h.hb
  exact h.hb.setCell (bV h.lt) _
 exact ⟨(h.r1.keep c).1,(h.r2.keep c).1,(h.r3.keep c).1,h.f1,h.f2,h.f3,aAj k (aa _)⟩
end
theorem aKj {W u:World}{l:List ByteArray}(h:u.ownsRow W.heap.size 9 1 (.slice A l.length c) l.length (l.map .string))(i:l.length<=c)(m:w.heap.size<W.heap.size)(_:W.heap.size<=u.heap.size)(d:Obj):RdO (u.alloc d) [u.heap.size,w.heap.size] A c l:=by
 refine ⟨Rd.of_own (h.alloc d) i,fun a ha k b=>?_⟩;have j:=h.lt a.block (by subst ha;rcases h.2 with ⟨e,_⟩ | ⟨g,cap,f,e,_⟩<;>first | (cases e;done) | (cases e;rfl));simp at b;rcases b with b | b<;>omega
theorem bLy(h:o=b):kindF b o t=3:=by unfold kindF;rw[ao h]
theorem bMb(h:o≠b)(a:t=b):kindF b o t=2:=by unfold kindF;rw[ah h,ao a]
theorem bMl(h:o≠b)(a:t≠b)(c:o=t):kindF b o t=4:=by unfold kindF;rw[ah h,ah a,ao c]
theorem bLx(h:o≠b)(a:t≠b)(c:o≠t):kindF b o t=5:=by unfold kindF;rw[ah h,ah a,ah c]
theorem aLb {C:Option Addr}{cc:Nat}(hb:b.length<=1000000)(ho:o.length<=1000000)(ht:t.length<=1000000)
  (r0:Rd w w.heap.size 1 A b.length ca (b.map .string)) (r1:Rd w w.heap.size 1 B o.length cb (o.map .string)) (r2:Rd w w.heap.size 1 C t.length cc (t.map .string)) :
  Calls prog 117 #[.slice A b.length ca,.slice B o.length cb,.slice C t.length cc] w (BetIs b o t w):=by
 obtain ⟨W,hW⟩:∃u,u=w.alloc (.cells #[.int .i64 0,.slice none 0 0,.slice none 0 0,.slice none 0 0] 143):=⟨_,rfl⟩;have i:Below w.heap.size w W:=by rw[hW];exact (Below.refl _ _).alloc (aa _) _
 have hx:W.heap[w.heap.size]? = some (.cells #[.int .i64 0,.slice none 0 0,.slice none 0 0,.slice none 0 0] 143 (0,0)):=by rw[hW];exact au _ _
 have z:=hid i;have HX:=hid hx;have H:=hid (r0.to i i.size);have I:=hid (r1.to i i.size);have J:=hid (r2.to i i.size);clear r0 r1 r2 i hx;have D:=hid (show w.heap.size<W.heap.size from aAa HX.out);have j:(prog.info? 143).map (·.size)=some 4:=κ;by_cases G:b.length+o.length+t.length=0
 ·go_enter Tryz.func117,Tryz.ntmps117
  go_wp2_with first
   | (at_builtin;rw[<-hW];refine aAl rfl _ (.tmp 9) 135 rfl aCq (base:=W.heap.size) (n:=0) (xs:=[]) rfl rfl (aA _ _ _ _) H.out (aAt _) (by unfold maxLen;omega) ω (aa _) ?_;intro q1 u1 Y g1 _;rw[aO,aT] at Y;have O1:=hid Y;have s:=hid ((Below.refl W.heap.size W).grown g1 (aa _) (fun g h=>by cases h));clear Y g1)
   | (at_builtin;refine aAl rfl _ (.tmp 11) 135 rfl aCq (base:=W.heap.size) (n:=0) (xs:=[]) rfl rfl (aA _ _ _ _) (I.out.to s.out s.out.size) (aAt _) (by unfold maxLen;omega) ω s.out.size ?_;intro q2 u2 Z g2 _;rw[aO,aT] at Z;have O2:=hid Z;have L:=hid (aAf O1.out ((Below.refl u1.heap.size u1).grown g2 (aa _) (fun g h=>by cases h)));have v:=hid (s.out.grown g2 s.out.size (fun g h=>by cases h));clear Z g2)
   | (at_builtin;refine aAl rfl _ (.tmp 13) 135 rfl aCq (base:=W.heap.size) (n:=0) (xs:=[]) rfl rfl (aA _ _ _ _) (J.out.to v.out v.out.size) (aAt _) (by unfold maxLen;omega) ω v.out.size ?_;intro q3 u3 o3 N _;rw[aO,aT] at o3;have R:=hid o3;have k:=hid (aAf L.out ((Below.refl u2.heap.size u2).grown N (aa _) (fun g h=>by cases h)));have l:=hid (aAf O2.out ((Below.refl u2.heap.size u2).grown N (aa _) (fun g h=>by cases h)));have p:=hid (v.out.grown N v.out.size (fun g h=>by cases h));clear o3 N;obtain ⟨B1,d1,rfl,O⟩:=aAd k.out;obtain ⟨B2,d2,rfl,P⟩:=aAd l.out;obtain ⟨B3,d3,rfl,Q⟩:=aAd R.out;have M:=hid (au u3 (.cells #[.int .i64 0,.slice B1 b.length d1,.slice B2 o.length d2,.slice B3 t.length d3] 143));have T:=hid (p.out.alloc p.out.size (.cells #[.int .i64 0,.slice B1 b.length d1,.slice B2 o.length d2,.slice B3 t.length d3] 143));have r:=hid ((T.out.block _ D.out).trans HX.out);have U:=r.out)
   | (refine bJ rfl 143 (.tmp 6) (.tmp 27) rfl w.heap.size #[.int .i64 0,.slice B1 b.length d1,.slice B2 o.length d2,.slice B3 t.length d3] rfl rfl _ _ U j rfl (by simp[Value.oneCell']) ?_)
  have a:=hid (show BetAt w (u3.alloc (.cells #[.int .i64 0,.slice B1 b.length d1,.slice B2 o.length d2,.slice B3 t.length d3] 143)) u3.heap.size b o t B1 B2 B3 d1 d2 d3 from
   ⟨z.out.trans (T.out.mono z.out.size),M.out,r.out,aKj k.out O D.out p.out.size _,aKj l.out P D.out p.out.size _,aKj R.out Q D.out p.out.size _,aFn k.out z.out.size,aFn l.out z.out.size,aFn R.out z.out.size,ag D.out p.out.size⟩)
  refine bz (aAm rfl _ _ w.heap.size _ _ (0,0) _ rfl (bB _ _ _ _ _ _ a.out.x6) fT rfl κ) rfl ?_;refine ⟨B1,d1,B2,d2,B3,d3,?_,a.out.fin (K:=0) (.inl rfl) rfl⟩;rw[ao G,aq G];rfl
 go_enter Tryz.func117,Tryz.ntmps117
 go_wp2_with first
  | (at_builtin;rw[<-hW];refine aAl rfl _ (.tmp 9) 135 rfl aCq (base:=W.heap.size) (n:=0) (xs:=[]) rfl rfl (aA _ _ _ _) H.out (aAt _) (by unfold maxLen;omega) ω (aa _) ?_;intro q1 u1 Y g1 _;rw[aO,aT] at Y;have O1:=hid Y;have s:=hid ((Below.refl W.heap.size W).grown g1 (aa _) (fun g h=>by cases h));clear Y g1)
  | (at_builtin;refine aAl rfl _ (.tmp 11) 135 rfl aCq (base:=W.heap.size) (n:=0) (xs:=[]) rfl rfl (aA _ _ _ _) (I.out.to s.out s.out.size) (aAt _) (by unfold maxLen;omega) ω s.out.size ?_;intro q2 u2 Z g2 _;rw[aO,aT] at Z;have O2:=hid Z;have L:=hid (aAf O1.out ((Below.refl u1.heap.size u1).grown g2 (aa _) (fun g h=>by cases h)));have v:=hid (s.out.grown g2 s.out.size (fun g h=>by cases h));clear Z g2)
  | (at_builtin;refine aAl rfl _ (.tmp 13) 135 rfl aCq (base:=W.heap.size) (n:=0) (xs:=[]) rfl rfl (aA _ _ _ _) (J.out.to v.out v.out.size) (aAt _) (by unfold maxLen;omega) ω v.out.size ?_;intro q3 u3 o3 N _;rw[aO,aT] at o3;have R:=hid o3;have k:=hid (aAf L.out ((Below.refl u2.heap.size u2).grown N (aa _) (fun g h=>by cases h)));have l:=hid (aAf O2.out ((Below.refl u2.heap.size u2).grown N (aa _) (fun g h=>by cases h)));have p:=hid (v.out.grown N v.out.size (fun g h=>by cases h));clear o3 N;obtain ⟨B1,d1,rfl,O⟩:=aAd k.out;obtain ⟨B2,d2,rfl,P⟩:=aAd l.out;obtain ⟨B3,d3,rfl,Q⟩:=aAd R.out;have M:=hid (au u3 (.cells #[.int .i64 0,.slice B1 b.length d1,.slice B2 o.length d2,.slice B3 t.length d3] 143));have T:=hid (p.out.alloc p.out.size (.cells #[.int .i64 0,.slice B1 b.length d1,.slice B2 o.length d2,.slice B3 t.length d3] 143));have r:=hid ((T.out.block _ D.out).trans HX.out);have U:=r.out)
 have GA:=hid (fun (u:World) (S:Below W.heap.size W u)=>H.out.to S S.size);have GB:=hid (fun (u:World) (S:Below W.heap.size W u)=>I.out.to S S.size);have GC:=hid (fun (u:World) (S:Below W.heap.size W u)=>J.out.to S S.size)
 have a:=hid (show BetAt w (u3.alloc (.cells #[.int .i64 0,.slice B1 b.length d1,.slice B2 o.length d2,.slice B3 t.length d3] 143)) u3.heap.size b o t B1 B2 B3 d1 d2 d3 from
  ⟨z.out.trans (T.out.mono z.out.size),M.out,r.out,aKj k.out O D.out p.out.size _,aKj l.out P D.out p.out.size _,aKj R.out Q D.out p.out.size _,aFn k.out z.out.size,aFn l.out z.out.size,aFn R.out z.out.size,ag D.out p.out.size⟩)
 have c:=hid T.out;clear T M r U s v p O1 L k O2 l R H I J O P Q HX;generalize u3.alloc (.cells #[.int .i64 0,.slice B1 b.length d1,.slice B2 o.length d2,.slice B3 t.length d3] 143)=V at *;generalize u3.heap.size=g8 at *;have K:=aKl (w:=V) (BB:=V.heap.size) (xs:=o) (ys:=b) (by unfold maxLen;omega) (by unfold maxLen;omega) (aa _) (GB.out V c.out) (GA.out V c.out);go_wp2_with fail;refine K.mono ?_;rintro e E ⟨rfl,f⟩;replace a:=hid (a.out.below f);replace c:=hid (c.out.trans (f.mono c.out.size));clear K f
 cases q:decide (o=b)
 case true=>
  have H1:=hid (aP q);have X:=hid (show kindF b o t=3 from bLy H1.out);clear q;have m:=a.out.x8;have z0:E.cell? ⟨g8,0,none⟩=some (.int .i64 0):=by rw[ab m];rfl
  have z1:E.frozen? ⟨g8,0,none⟩=false:=aAk m;have d:=a.out.set8 3;have c0:(E.setCell ⟨g8,0,none⟩ (.int .i64 3)).cell? ⟨g8,0,none⟩=some (.int .i64 3):=by rw[ab d];rfl
  have c1:(E.setCell ⟨g8,0,none⟩ (.int .i64 3)).cell? ⟨g8,1,none⟩=some (.slice B1 b.length d1):=by rw[ab d];rfl
  have c2:(E.setCell ⟨g8,0,none⟩ (.int .i64 3)).cell? ⟨g8,2,none⟩=some (.slice B2 o.length d2):=by rw[ab d];rfl
  have c3:(E.setCell ⟨g8,0,none⟩ (.int .i64 3)).cell? ⟨g8,3,none⟩=some (.slice B3 t.length d3):=by rw[ab d];rfl
  have y:=a.out.set6 3;clear m d;go_wp2_with (refine bJ rfl 143 (.tmp 6) (.tmp 43) rfl w.heap.size #[.int .i64 3,.slice B1 b.length d1,.slice B2 o.length d2,.slice B3 t.length d3] rfl rfl _ _ y j rfl (by simp[Value.oneCell']) ?_);refine bz (aAm rfl _ _ w.heap.size _ _ (0,0) _ rfl (bB _ _ _ _ _ _ y) fT rfl κ) rfl ?_;refine ⟨B1,d1,B2,d2,B3,d3,?_,a.out.fin (.inr rfl) rfl⟩;rw[ah G,ak G,X.out];rfl
 have H1:=hid (show o≠b from cj q);clear q;have K:=aKl (w:=E) (BB:=E.heap.size) (xs:=t) (ys:=b) (by unfold maxLen;omega) (by unfold maxLen;omega) (aa _) (GC.out E c.out) (GA.out E c.out);go_wp2_with fail;refine K.mono ?_;rintro e F ⟨rfl,f⟩;replace a:=hid (a.out.below f);replace c:=hid (c.out.trans (f.mono c.out.size));clear K f
 cases q:decide (t=b)
 case true=>
  have H2:=hid (aP q);have X:=hid (show kindF b o t=2 from bMb H1.out H2.out);clear q;have m:=a.out.x8;have z0:F.cell? ⟨g8,0,none⟩=some (.int .i64 0):=by rw[ab m];rfl
  have z1:F.frozen? ⟨g8,0,none⟩=false:=aAk m;have d:=a.out.set8 2;have c0:(F.setCell ⟨g8,0,none⟩ (.int .i64 2)).cell? ⟨g8,0,none⟩=some (.int .i64 2):=by rw[ab d];rfl
  have c1:(F.setCell ⟨g8,0,none⟩ (.int .i64 2)).cell? ⟨g8,1,none⟩=some (.slice B1 b.length d1):=by rw[ab d];rfl
  have c2:(F.setCell ⟨g8,0,none⟩ (.int .i64 2)).cell? ⟨g8,2,none⟩=some (.slice B2 o.length d2):=by rw[ab d];rfl
  have c3:(F.setCell ⟨g8,0,none⟩ (.int .i64 2)).cell? ⟨g8,3,none⟩=some (.slice B3 t.length d3):=by rw[ab d];rfl
  have y:=a.out.set6 2;clear m d;go_wp2_with (refine bJ rfl 143 (.tmp 6) (.tmp 43) rfl w.heap.size #[.int .i64 2,.slice B1 b.length d1,.slice B2 o.length d2,.slice B3 t.length d3] rfl rfl _ _ y j rfl (by simp[Value.oneCell']) ?_);refine bz (aAm rfl _ _ w.heap.size _ _ (0,0) _ rfl (bB _ _ _ _ _ _ y) fT rfl κ) rfl ?_;refine ⟨B1,d1,B2,d2,B3,d3,?_,a.out.fin (.inr rfl) rfl⟩;rw[ah G,ak G,X.out];rfl
 have H2:=hid (show t≠b from cj q);clear q;have K:=aKl (w:=F) (BB:=F.heap.size) (xs:=o) (ys:=t) (by unfold maxLen;omega) (by unfold maxLen;omega) (aa _) (GB.out F c.out) (GC.out F c.out);go_wp2_with fail;refine K.mono ?_;rintro e x ⟨rfl,f⟩;replace a:=hid (a.out.below f);replace c:=hid (c.out.trans (f.mono c.out.size));clear K f
 cases q:decide (o=t)
 case true=>
  have H3:=hid (aP q);have X:=hid (show kindF b o t=4 from bMl H1.out H2.out H3.out);clear q;have m:=a.out.x8;have z0:x.cell? ⟨g8,0,none⟩=some (.int .i64 0):=by rw[ab m];rfl
  have z1:x.frozen? ⟨g8,0,none⟩=false:=aAk m;have d:=a.out.set8 4;have c0:(x.setCell ⟨g8,0,none⟩ (.int .i64 4)).cell? ⟨g8,0,none⟩=some (.int .i64 4):=by rw[ab d];rfl
  have c1:(x.setCell ⟨g8,0,none⟩ (.int .i64 4)).cell? ⟨g8,1,none⟩=some (.slice B1 b.length d1):=by rw[ab d];rfl
  have c2:(x.setCell ⟨g8,0,none⟩ (.int .i64 4)).cell? ⟨g8,2,none⟩=some (.slice B2 o.length d2):=by rw[ab d];rfl
  have c3:(x.setCell ⟨g8,0,none⟩ (.int .i64 4)).cell? ⟨g8,3,none⟩=some (.slice B3 t.length d3):=by rw[ab d];rfl
  have y:=a.out.set6 4;clear m d;go_wp2_with (refine bJ rfl 143 (.tmp 6) (.tmp 43) rfl w.heap.size #[.int .i64 4,.slice B1 b.length d1,.slice B2 o.length d2,.slice B3 t.length d3] rfl rfl _ _ y j rfl (by simp[Value.oneCell']) ?_);refine bz (aAm rfl _ _ w.heap.size _ _ (0,0) _ rfl (bB _ _ _ _ _ _ y) fT rfl κ) rfl ?_;refine ⟨B1,d1,B2,d2,B3,d3,?_,a.out.fin (.inr rfl) rfl⟩;rw[ah G,ak G,X.out];rfl
 have H3:=hid (show o≠t from cj q);clear q;have X:=hid (show kindF b o t=5 from bLx H1.out H2.out H3.out);have m:=a.out.x8;have z0:x.cell? ⟨g8,0,none⟩=some (.int .i64 0):=by rw[ab m];rfl
 have z1:x.frozen? ⟨g8,0,none⟩=false:=aAk m;have d:=a.out.set8 5;have c0:(x.setCell ⟨g8,0,none⟩ (.int .i64 5)).cell? ⟨g8,0,none⟩=some (.int .i64 5):=by rw[ab d];rfl
 have c1:(x.setCell ⟨g8,0,none⟩ (.int .i64 5)).cell? ⟨g8,1,none⟩=some (.slice B1 b.length d1):=by rw[ab d];rfl
 have c2:(x.setCell ⟨g8,0,none⟩ (.int .i64 5)).cell? ⟨g8,2,none⟩=some (.slice B2 o.length d2):=by rw[ab d];rfl
 have c3:(x.setCell ⟨g8,0,none⟩ (.int .i64 5)).cell? ⟨g8,3,none⟩=some (.slice B3 t.length d3):=by rw[ab d];rfl
 have y:=a.out.set6 5;clear m d;go_wp2_with (refine bJ rfl 143 (.tmp 6) (.tmp 43) rfl w.heap.size #[.int .i64 5,.slice B1 b.length d1,.slice B2 o.length d2,.slice B3 t.length d3] rfl rfl _ _ y j rfl (by simp[Value.oneCell']) ?_);refine bz (aAm rfl _ _ w.heap.size _ _ (0,0) _ rfl (bB _ _ _ _ _ _ y) fT rfl κ) rfl ?_;refine ⟨B1,d1,B2,d2,B3,d3,?_,a.out.fin (.inr rfl) rfl⟩;rw[ah G,ak G,X.out];rfl
def endT (s:ByteArray):ByteArray:=ofB (endedF s.data.toList)
theorem aFz {z y:Bs}(c:z.getLast? = some 10):endedF (z++y)=z++endedF y:=by
 have d:z≠[]:=by rintro rfl;cases c
 unfold endedF
 cases y with
 | nil=>rw[aR,ao (.inr c),ao (.inl rfl),aR]
 | cons a y=>
  have e:(z++a::y).getLast? = (a::y).getLast?:=by
   rw[iN]
   cases h:(a::y).getLast? with
   | none=>simp at h
   | some b=>rfl
  rw[e];have f:z++a::y≠[]:=by simp
  have g:a::y≠[]:=by simp
  by_cases h:(a::y).getLast? = some 10
  ·rw[ao (.inr h),ao (.inr h)]
  rw[ah (by simp[f,h]),ah (by simp[g,h]),aH]
def clashD (out:Bs)(c:KV):Bs:=if c.kind≠5 then out++catF (mergedF [c]) else
 endedF out++markO++endedF (catF c.ours)++markB++endedF (catF c.base)++markT++endedF (catF c.theirs)++markE
theorem aSe {a b:Bs}{x:UInt8}(h:b.getLast? = some x):(a++b).getLast? = some x:=by
 rw[iN,h];rfl
theorem bGp(a:Bs)(c:KV):clashD a c=clashTextF a c:=by
 unfold clashD clashTextF;split
 ·rfl
 have b:(endedF a++markO).getLast? = some 10:=aSe rfl;rw[show endedF a++markO++catF c.ours=(endedF a++markO)++catF c.ours from rfl,aFz b];have d:(endedF a++markO++endedF (catF c.ours)++markB).getLast? = some 10:=aSe rfl;rw[aFz d];have e:(endedF a++markO++endedF (catF c.ours)++markB++endedF (catF c.base)++markT).getLast? = some 10:=aSe rfl;rw[aFz e]
theorem bBc {L:List KV}(D:L.length<=1000000)(h:RdK w w.heap.size A c L) :
  Calls prog 88 #[.slice A L.length c] w fun e w'=>e=.returned (.bool (cleanF L))/\w'=w:=by
 go_enter Tryz.func88,Tryz.ntmps88;go_wp2;go_loopw[3] (fun i wr=>wr=w/\∃k:Nat,k<=L.length/\i=.int .i64 k/\Hid (∀u∈L.take k,u.kind≠5)) (fun i _=>L.length-(intOf i).toNat)
 case atStart=>exact ⟨rfl,0,al _,rfl,hid (by rw[bi];intro m n;cases n)⟩
 obtain ⟨rfl,k,q,rfl,l⟩:=hrel;by_cases j:k<L.length
 ·obtain ⟨u,b⟩:∃u,L[k]? = some u:=⟨_,ac j⟩
  obtain ⟨r,s,t,v,y,z,B,C,rfl,o,p,_,_,_,_,_,_⟩:=h.at_ b;by_cases d:u.kind=5
  ·have f:Hid (cleanF L=false):=by
    unfold Hid cleanF;rw[dM];exact ⟨u,aC b,by simp[d]⟩
   rw[d] at p;clear d b;go_wp2;go_ret;exact ⟨by rw[f.out];rfl,rfl⟩
  have g:Hid (∀x∈L.take (k+1),x.kind≠5):=by
   rw[aB,b];intro x a;rcases aQ.1 a with a | a
   ·exact l.out x a
   obtain rfl:x=u:=(by simpa using a);exact d
  clear b;generalize u.kind=E at *;go_wp2;go_roundw
  case rel=>exact ⟨trivial,k+1,O,by go_num,g⟩
  simp[intOf];omega
 obtain rfl:k=L.length:=O
 have f:Hid (cleanF L=true):=by
  unfold Hid cleanF;rw[bF];intro x a;have:=l.out x (by rw[ai (aa _)];exact a);simpa using this
 go_wp2;go_ret;exact ⟨by rw[f.out];rfl,rfl⟩
theorem aOv {L:List KV}(hn:L.length<=1000000)(hs:(mergedF L).length<=1000000)(h:RdK w w.heap.size A c L) :
  Calls prog 90 #[.slice A L.length c] w (LinesIs (mergedF L) w):=by
 go_enter Tryz.func90,Tryz.ntmps90;go_wp2;go_loopw[3,4] (fun J i wr=>∃k:Nat,k<=L.length/\i=.int .i64 k/\Hid (Below w.heap.size w wr)/\Hid (wr.ownsRow w.heap.size 9 1 J (mergedF (L.take k)).length ((mergedF (L.take k)).map .string))) (fun _ i _=>L.length-(intOf i).toNat)
 case atStart=>exact ⟨0,al _,rfl,hid (Below.refl _ _),by rw[bi];exact aA _ _ _ _⟩
 obtain ⟨k,X,rfl,a,f⟩:=hrel;have Q:=aHk L k;by_cases N:k<L.length
 ·obtain ⟨u,D⟩:∃u,L[k]? = some u:=⟨_,ac N⟩
  obtain ⟨E,F,Y,Z,A1,c1,A2,c2,rfl,o,y,q1,q2,z,P,G,H⟩:=h.at_ D;replace y:=(a.out.cell (p:=⟨E,F+k*4,none⟩) o).trans y;replace q2:=(a.out.cell (p:=⟨E,F+k*4+2,none⟩) o).trans q2;replace z:=(a.out.cell (p:=⟨E,F+k*4+3,none⟩) o).trans z;clear q1;have b:=aHk L (k+1)
  have r:Hid (mergedF (L.take (k+1))=mergedF (L.take k)++if u.kind=3 then u.theirs else u.ours):=by
   rw[aB,D];exact aLi _ _
  rw[r.out,ae] at b;clear D;obtain ⟨R,Lb,Lo,Lt⟩:=u;simp only at y q2 z P G H b r;have j:=hid (G.to a.out a.out.size);have l:=hid (H.to a.out a.out.size);clear P G H;generalize mergedF (L.take k)=W at *;generalize v:W.length=n0 at *;have s:=hid v;clear v;by_cases O:R=3
  ·rw[ao O] at b r
   subst O;go_wp2_with (at_builtin;refine aAl rfl (.tmp 17) (.tmp 22) 135 rfl aCq rfl rfl f.out l.out (aAt _) (by unfold maxLen;omega) ω a.out.size ?_;intro S T d e q);have m:=hid (a.out.grown e a.out.size (fun g K=>(f.out.lt g K).1));have n:=hid d;clear d e q f a j l;go_roundw
   case rel=>exact ⟨k+1,ω,by go_num,m,by rw[r.out,aM,ae,s.out];exact n⟩
   simp[intOf];omega
  rw[ah O] at b r;go_wp2_with (at_builtin;refine aAl rfl (.tmp 24) (.tmp 29) 135 rfl aCq rfl rfl f.out j.out (aAt _) (by unfold maxLen;omega) ω a.out.size ?_;intro S T d e q);have m:=hid (a.out.grown e a.out.size (fun g K=>(f.out.lt g K).1));have n:=hid d;clear d e q f a j l;go_roundw
  case rel=>exact ⟨k+1,ω,by go_num,m,by rw[r.out,aM,ae,s.out];exact n⟩
  simp[intOf];omega
 have B:k=L.length:=ω;subst B;rw[ai (aa _)] at f;obtain ⟨U,V,rfl,I⟩:=aAd f.out;have C:=hid (Rd.of_own f.out I);clear f;generalize mergedF L=M at *;generalize x:M.length=ml at *;have t:=hid x;clear x;go_wp2;go_ret;exact ⟨U,V,by rw[t.out];rfl,by rw[t.out];exact C.out,a.out⟩
theorem bAu(a b:ByteArray):(a++b).data.toList=a.data.toList++b.data.toList:=by
 rw[fZ,g6]
theorem bHj(L:List ByteArray)(x:ByteArray):joinF (L++[x])=joinF L++x:=by
 refine aCi ?_;rw[bAu];unfold joinF;rw[aDb,aDb,aJ];simp
theorem aQx(L:List ByteArray):(joinF L).data.toList=catF L:=by unfold joinF catF;rw[aDb]
theorem bFu(s:ByteArray):s.size=s.data.toList.length:=by rw[bg];rfl
theorem bGb(L:List ByteArray)(k:Nat):(joinF (L.take k)).size<=(joinF L).size:=by
 rw[bFu,bFu,aQx,aQx];have:catF L=catF (L.take k)++catF (L.drop k):=by unfold catF;rw[<-aJ,aY]
 rw[this,ae];omega
theorem aGg {L:List ByteArray}(t:n<=17592186044416)(u:(joinF L).size<=1000000000)(h:Rd w w.heap.size 1 A n c (L.map .string)) :
  Calls prog 89 #[.slice A n c] w fun e w'=>e=.returned (.string (joinF L))/\w'=w:=by
 have f:=hid (show L.length=n by have:=h.len;rw[az] at this;omega);go_enter Tryz.func89,Tryz.ntmps89;go_wp2;go_loopw[3,4] (fun s i wr=>wr=w/\∃k:Nat,k<=n/\i=.int .i64 k/\s=.string (joinF (L.take k))) (fun _ i _=>n-(intOf i).toNat)
 case atStart=>exact ⟨rfl,0,al _,rfl,by rw[bi];rfl⟩
 obtain ⟨rfl,k,o,rfl,rfl⟩:=hrel;by_cases a:k<n
 ·obtain ⟨p,q,x,rfl,j,d,r⟩:=h.str a
  have b:=hid (show joinF (L.take (k+1))=joinF (L.take k)++x by rw[aB,d];exact bHj _ _)
  have m:(joinF (L.take k)).size+x.size<=1000000000:=by
   have g:=bGb L (k+1);rw[b.out,cN] at g;omega
  clear d;generalize joinF (L.take k)=l at *;go_wp2;go_roundw
  case rel=>exact ⟨trivial,k+1,O,by go_num,by rw[b.out]⟩
  simp[intOf];omega
 obtain rfl:k=n:=O;rw[ai (by rw[f.out];exact aa _)];go_wp2;go_ret;exact ⟨rfl,rfl⟩
theorem aXr(s:ByteArray):endT s=if s.data.toList=[]\/s.data.toList.getLast? = some 10 then s else s++⟨#[10]⟩:=by
 refine aCi ?_;unfold endT endedF;rw[aDb];split
 ·rfl
 rw[bAu]
theorem aKy {P:Program}{fn:Func}{p:Tmp}{ty:TypeId}(h:fn.results=#[.cell p ty])(tmps:Array Value)(w:World)(g:Nat)(t:TypeId)(cs:Array Value)(fr:Nat×Nat)(d:TypeDesc)
  (hp:tmps.getD p undef=.pointer (some ⟨g,0,none⟩)) (hg:w.heap[g]? = some (.cells cs t fr))
  (hu:P.underlying ty=some d) (hd:(match d with | .struct _ | .array _ _=>true | _=>false)=true) (hi:(P.info? ty).map (·.size)=some cs.size) :
  (results fn tmps).run P w=.ok (.agg cs) w:=by
 simp only[results,h];have hp':tmps[p]?.getD undef=.pointer (some ⟨g,0,none⟩):=by simpa using hp
 simp[hp',asAddr,mY w g t ty cs fr d hg hu hd hi]
theorem aHr {s:ByteArray}(l:s.size<=10000000):Calls prog 92 #[.string s] w fun e w'=>e=.returned (.string (endT s))/\w'=w:=by
 have f:s.data.toList.length=s.size:=by rw[bg];rfl
 by_cases k:s.size=0
 ·have c:Hid (endT s=s):=by
   unfold Hid;rw[aXr,ao (.inl (bj.1 O))]
  go_enter mX,mq;go_wp2;go_ret;exact ⟨by rw[c.out];rfl,rfl⟩
 have h:s.size-1<s.size:=O
 have d:s.data.toList.getLast? = some s[s.size-1]:=by
  rw[List.getLast?_eq_getElem?,f,ac O];rfl
 have b:s.data.toList≠[]:=fun e=>k (by rw[<-f,e];rfl);have d1:((s.size:Int)-1).toNat=s.size-1:=O;by_cases a:s[s.size-1]=10
 ·have c:Hid (endT s=s):=by
   unfold Hid;rw[aXr,ao (.inr (by rw[d,a]))]
  have i:((s[s.size-1].toNat:Int) == 10)=true:=by rw[a];rfl
  have j:((s[s.size-1].toNat:Int) != 10)=false:=by rw[a];rfl
  clear d a b;go_enter mX,mq;go_wp2;go_ret;exact ⟨by rw[c.out];rfl,rfl⟩
 have c:Hid (endT s=s++⟨#[10]⟩):=by
  unfold Hid;rw[aXr,ah];rintro (e | e)
  ·exact b e
  rw[d] at e;injection e with e;exact a e
 have g:(s[s.size-1].toNat:Int)≠10:=fun e=>a (iR (show s[s.size-1].toNat=10 by omega));obtain ⟨i,j⟩:=aEs g;clear d a b g;go_enter mX,mq;go_wp2;go_ret;exact ⟨by rw[c.out];rfl,rfl⟩
theorem bCg:Calls prog 91 #[] w fun e w'=>e=.returned (.agg #[.string mO,.string mB,.string mT,.string mE])/\Below w.heap.size w w':=by
 have a:=hid (show Below w.heap.size w (w.alloc (.cells #[.string mO,.string mB,.string mT,.string mE] 140)) from (Below.refl _ _).alloc (aa _) _);have b:=hid (au w (.cells #[.string mO,.string mB,.string mT,.string mE] 140));go_enter Tryz.func91,Tryz.ntmps91;go_wp2;refine bz (aKy rfl _ _ w.heap.size _ _ (0,0) _ rfl b.out Tryz.underlying140 rfl T) rfl ?_;exact ⟨rfl,a.out⟩
end Go.Proofs.YtohblmepajhpaaaGreatDoor
