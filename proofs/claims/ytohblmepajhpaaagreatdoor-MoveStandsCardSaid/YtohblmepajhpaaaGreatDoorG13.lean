/- Contracts of functions that the law reaches; plain laws. -/
import Derived.Test.YtohblmepajhpaaaGreatDoorG03
import Derived.Test.YtohblmepajhpaaaGreatDoorG12
set_option maxHeartbeats 8000000
set_option maxRecDepth 100000
open Go.Lib (hid)
namespace Go.Proofs.YtohblmepajhpaaaGreatDoor
open Go.Proofs.Tryz (prog)
open Go.RowKit
variable {w w' w0:World}{base side:List FV}{sz n c mb B b E S sc ck:Nat}{A SA AK:Option Addr}{l lv:List Int}{Z X:List Nat}{fv kv:Value}{s:List SettL}{fl fl':List FLV}{ms ms':List MV}{sl:List STV}{D:DataW Value}{F:Int->Option Int}{dest:Int}{kk:List (Int×List Int)}
def MergeIs (R:List FV×List CL×Int)(w:World)(e:Ending) (w':World):Prop:=
 ∃(A C:Option Addr) (c d:Nat),e=.returned (.tuple #[.slice A R.1.length c,.slice C R.2.1.length d,.int .i64 R.2.2])/\RdF w' w'.heap.size A R.1.length c R.1/\Rd w' w'.heap.size 3 C R.2.1.length d (R.2.1.flatMap CL.cells)/\Below w.heap.size w w'
def MergeN (R:List FV×List CL×Int)(w:World)(e:Ending) (w':World):Prop:=
 ∃(A C:Option Addr) (c d:Nat),e=.returned (.tuple #[.slice A R.1.length c,.slice C R.2.1.length d,.int .i64 R.2.2])/\RdF w' w'.heap.size A R.1.length c R.1/\Rd w' w'.heap.size 3 C R.2.1.length d (R.2.1.flatMap CL.cells)/\Below w.heap.size w w'/\(∀a,A=some a->w.heap.size<=a.block)/\∀a,C=some a->w.heap.size<=a.block
theorem aBy {R:List FV×List CL×Int}{k:Int}(h:R=([],[],k))(a:Below w.heap.size w w'):MergeN R w (.returned (.tuple #[.slice none 0 0,.slice none 0 0,.int .i64 k])) w':=by
 subst h;exact ⟨none,none,0,0,rfl,RdF.none_ _ _,Rd.none_ _ _ _,a,(fun _ h=>by cases h),fun _ h=>by cases h⟩
theorem aFw {base:Nat}{e:TypeId}{m:Nat}{xs:List Value}(h:w.ownsRow base e sz (.slice A m c) n xs):∀a,A=some a->base<=a.block:=by
 rintro a rfl;rcases h.2 with ⟨b,_⟩ | ⟨g,cap,d,b,f,_⟩
 ·simp at b
 simp only[lX,dy] at b;rw[b.1];exact f
theorem aDy {f:FV}(h:FileOk f):f.path.size<=20000/\f.text.size<=20000:=by
 refine ⟨?_,h.2⟩;have a:=h.1;unfold pathOk at a;simp only[ay,bh] at a;have b:f.p.length<=100:=a.1.1.2;have c:f.p.length=f.path.size:=by unfold FV.p;rw[bg];rfl
 omega
theorem aNx {L:List (Nat×Nat)}(a:L.Perm (pairsF base side)):keepP (addedP base side L) side=addedF base side:=by
 unfold keepP addedF;refine dJ fun f _=>?_;unfold addedP;rw[bBe a,kw];congr 1
 cases findP base f.path<;>rfl
theorem bCo(base a b:List FV):(wholeF base a b).1.Pairwise fun x y=>x.path≠y.path:=by
 rw[aKf];refine (aOg (acts base a b) ([],[]) List.Pairwise.nil).1.imp fun {x y} h e=>?_;have c:x.p=y.p:=by unfold FV.p;rw[e]
 simp[clashP,c] at h
theorem aBf {P:Program}{b:Func}{p q r:Tmp}(h:b.results=#[.tmp p,.tmp q,.tmp r])(a:Array Value)(w:World):(results b a).run P w=.ok (.tuple #[a.getD p undef,a.getD q undef,a.getD r undef]) w:=by
 simp[results,h]
theorem aEa {u:World}{l:List FV}(h:RdF w w.heap.size A n c l)(p:∀b o f,A=some ⟨b,o,none⟩->w.heap[b]? = some f->u.heap[b]? = some f):RdF u u.heap.size A n c l:=by
 refine ⟨⟨h.row.len,h.row.cap,fun k=>?_⟩,h.len,h.fits⟩;obtain ⟨b,o,e,g,i⟩:=h.row.at_ k;have a:=cr g;have d:=(p b o _ e a).trans a.symm;refine ⟨b,o,e,?_,fun j v m=>?_⟩
 ·exact aAa (d.trans a)
 rw[<-i j v m];unfold World.cell?;rw[d]
theorem MI.watch {Z:Nat->Obj->Prop}{N:Nat}{a:Value}{m:List FV×List CL}(h:MI Z w0 w mb fv a m N) :
  MI (fun k b=>w.heap[k]? = some b/\k≠mb/\fv.ownBlock≠some k/\a.ownBlock≠some k) w0 w mb fv a m N:=
 ⟨h.hs,h.f1,h.c1,h.lo,h.bel,h.fits,h.few1,h.few2,fun _ _ c=>c⟩
theorem aPu {s:Nat}{L:List (Nat×Nat)}(b:n<=100000)(h:SideIs w0 B s (.slice A n c) base side L)(d:RdF w0 w0.heap.size A n c side)(e:(base.map FV.path).Nodup)(g:L.Perm (pairsF base side)):Finds w0 s (whereF base side):=fun f u a i=>by
 rw[<-bFq e g];exact bFd b (h.below a) (d.to a a.size) (by unfold maxLen;omega)
theorem aNb(h:∀f∈side,f.path.size<=20000/\f.text.size<=20000):SmallF (whereF base side):=fun _ g a=>h g (aOm a)
theorem aOz {l:List FV}(h:treeOk l=true):(l.map FV.path).Nodup:=by
 rw[jn,List.pairwise_map];exact (aAx.1 h).2.2.1.pair.imp fun {a b} c e=>absurd (FV.p_inj.2 e) (aHz c)
theorem MI.start:MI (fun _ _=>False) w0 (w0.alloc (.cells #[.slice none 0 0,.slice none 0 0] 181)) w0.heap.size (.slice none 0 0) (.slice none 0 0) ([],[]) 0:=
 ⟨au _ _,aA _ _ _ _,aA _ _ _ _,aa _,(Below.refl _ _).alloc (aa _) _,by simp,aa _,aa _,fun _ _ h=>h.elim⟩
theorem bBq(w:World):(Instr.build 181 #[]).run prog w=.ok (.agg #[.slice none 0 0,.slice none 0 0]) w:=by
 go_simp
theorem bDa {n1 n2 n3 c1 c2 c3:Nat}{A1 A2 A3:Option Addr}{a b:List FV}(hL:Lm w)(h1:n1<=17592186044416)(h2:n2<=17592186044416)(h3:n3<=17592186044416)
  (r1:RdF w w.heap.size A1 n1 c1 base) (r2:RdF w w.heap.size A2 n2 c2 a) (r3:RdF w w.heap.size A3 n3 c3 b) :
  Calls prog 113 #[.slice A1 n1 c1,.slice A2 n2 c2,.slice A3 n3 c3] w (MergeN (treemergeF base a b) w):=by
 have K1:=aDa h1 hL r1;have nM:=hid (fun (u:World) (V:Below w.heap.size w u)=>aDa h2 (hL.to V) (r2.to V V.size));have nN:=hid (fun (u:World) (V:Below w.heap.size w u)=>aDa h3 (hL.to V) (r3.to V V.size));have H:=hid (And.intro r1 (And.intro r2 r3));have HL:=hid hL;clear r1 r2 r3 hL h1 h2 h3;have HT:=hid (show treemergeF base a b=if treeOk base=false\/treeOk a=false\/treeOk b=false then ([],[],5) else if treeOk (sortF (wholeF base a b).1)=false then ([],[],6) else (sortF (wholeF base a b).1,sortC (wholeF base a b).2,0) from rfl);go_enter Tryz.func113,Tryz.ntmps113;go_wp2_with fail;refine K1.mono ?_;rintro e w1 ⟨rfl,S⟩;have K2:=nM.out w1 S;clear K1
 cases nj:treeOk base with
 | false=>
  have I:=hid (show treemergeF base a b=([],[],5) by rw[HT.out];exact ao (.inl nj));clear K2 nj;go_wp2;refine bz (aBf rfl _ _) rfl ?_;exact aBy I.out S
 | true=>
  have X:=hid nj;clear nj;go_wp2_with fail;refine K2.mono ?_;rintro e w2 ⟨rfl,oe⟩;have n:Below w.heap.size w w2:=S.trans (oe.mono S.size);have K3:=nN.out w2 n;clear K2 S oe
  cases nk:treeOk a with
  | false=>
   have I:=hid (show treemergeF base a b=([],[],5) by rw[HT.out];exact ao (.inr (.inl nk)));clear K3 nk;go_wp2;refine bz (aBf rfl _ _) rfl ?_;exact aBy I.out n
  | true=>
   have nB:=hid nk;clear nk;go_wp2_with fail;refine K3.mono ?_;rintro e w3 ⟨rfl,oh⟩;have d:Below w.heap.size w w3:=n.trans (oh.mono n.size);clear K3 n oh
   cases nm:treeOk b with
   | false=>
    have I:=hid (show treemergeF base a b=([],[],5) by rw[HT.out];exact ao (.inr (.inr nm)));clear nm;go_wp2;refine bz (aBf rfl _ _) rfl ?_;exact aBy I.out d
   | true=>
    have nC:=hid nm;clear nm;have nD:=hid d;have oF:=aCs X.out;have oG:=aCs nB.out;have oH:=aCs nC.out;rw[H.out.1.len] at oF;rw[H.out.2.1.len] at oG;rw[H.out.2.2.len] at oH;have nE:=hid (fun f m=>aDy ((aAx.1 X.out).2.1 f m));have Y:=hid (fun f m=>aDy ((aAx.1 nB.out).2.1 f m));have Z:=hid (fun f m=>aDy ((aAx.1 nC.out).2.1 f m));have K4:=aLc (HL.out.to d) ω ω (H.out.1.to d d.size) (H.out.2.1.to d d.size) (fun f m=>by have:=(nE.out f m).2;omega) (fun f m=>by have:=(Y.out f m).2;omega);clear d nM nN;go_wp2_with fail;refine K4.mono ?_;rintro e w4 ⟨L1,s1,ol,rfl,nw,oq⟩;have p:=hid (nD.out.trans (oq.mono nD.out.size));have r:=hid nw;have nO:=hid ol;have K5:=aLc (HL.out.to p.out) ω ω (H.out.1.to p.out p.out.size) (H.out.2.2.to p.out p.out.size) (fun f m=>by have:=(nE.out f m).2;omega) (fun f m=>by have:=(Z.out f m).2;omega);clear K4 ol nw oq nD;go_wp2_with fail;refine K5.mono ?_;rintro e U ⟨L2,s2,ou,rfl,nz,nJ⟩;have i:=hid (p.out.trans (nJ.mono p.out.size));have nr:=hid nz;have nP:=hid ou;replace r:=hid (r.out.below nJ);have hz:=bBq U;have J:=hid (H.out.1.to i.out i.out.size);have ns:=hid (H.out.2.1.to i.out i.out.size);have nu:=hid (H.out.2.2.to i.out i.out.size);have nQ:=hid (aOz X.out);have nF:=hid (HL.out.to i.out);have K6:=bIq nF.out (MI.start (w0:=U)) ω J.out nE.out (aPu ω r.out ns.out nQ.out nO.out) (aPu ω nr.out nu.out nQ.out nP.out) (aNb Y.out) (aNb Z.out);rw[bJr] at K6;clear K5 ou nz nJ p;go_wp2_with fail;refine K6.mono ?_;rintro e w6 ⟨rfl,fv,cv,ow⟩;have D:=hid ow;clear K6 ow hz
    have E:=D.out.bel;have K7:=aPz ω ω (r.out.below E) (ns.out.to E E.size) (J.out.to E E.size) (fun f m=>by have:=(Y.out f m).1;unfold maxLen;omega);rw[aNx nO.out] at K7;clear E;go_wp2_with fail;refine K7.mono ?_;rintro e w7 ⟨A7,c7,rfl,oz,l,oA⟩;have F:=hid (D.out.below l);have nG:=hid (And.intro oz (And.intro l oA));clear K7 oz l oA;have l:=F.out.bel;have K8:=aPz ω ω (nr.out.below l) (nu.out.to l l.size) (J.out.to l l.size) (fun f m=>by have:=(Z.out f m).1;unfold maxLen;omega);rw[aNx nP.out] at K8;clear l;go_wp2_with fail;refine K8.mono ?_;rintro e w8 ⟨A8,c8,rfl,oB,ff,oC⟩;have nR:=hid (F.out.below ff).watch
    have nS:Hid (∀u:World,(∀k ob,(w8.heap[k]? = some ob/\k≠U.heap.size/\fv.ownBlock≠some k/\cv.ownBlock≠some k)->u.heap[k]? = some ob)->RdF u u.heap.size A7 (addedF base a).length c7 (addedF base a)):=hid (fun u V=>by
     refine aEa (nG.out.1.to ff ff.size) fun b o ob e hq=>?_;have h1:=nG.out.2.2 b o none e;have h2:=aAa D.out.hs;exact V b ob ⟨hq,ω,fun e=>by have:=(D.out.f1.lt _ e).2;omega,fun e=>by have:=(D.out.c1.lt _ e).2;omega⟩)
    have nT:Hid (∀u:World,(∀k ob,(w8.heap[k]? = some ob/\k≠U.heap.size/\fv.ownBlock≠some k/\cv.ownBlock≠some k)->u.heap[k]? = some ob)->RdF u u.heap.size A8 (addedF base b).length c8 (addedF base b)):=hid (fun u V=>by
     refine aEa oB fun b o ob e hq=>?_;have h1:=oC b o none e;have h2:=aAa F.out.hs;exact V b ob ⟨hq,ω,fun e=>by have:=(F.out.f1.lt _ e).2;omega,fun e=>by have:=(F.out.c1.lt _ e).2;omega⟩)
    have oR:(addedF base a).length<=n2:=(by rw[<-H.out.2.1.len];exact bD _ _);have oS:(addedF base b).length<=n3:=(by rw[<-H.out.2.2.len];exact bD _ _);have K9:=bDk nF.out nR.out ω nS.out nT.out (fun f m=>Y.out f (aX.1 m).1) (fun f m=>Z.out f (aX.1 m).1);rw[show addM (addedF base a) (addedF base b) (base.foldl (keptM base a b) ([],[]))=wholeF base a b from rfl] at K9;clear K8 oB ff oC;go_wp2_with fail;refine K9.mono ?_;rintro e w9 ⟨rfl,oM,oN,oD⟩;have c:=hid oD;clear K9 oD D F nR nG nS nT;have HD:=hid (bCo base a b);generalize wholeF base a b=W at *;obtain ⟨z,cl⟩:=W;have oI:=c.out.few1;have oJ:=c.out.few2;have oK:=hid c.out.fits;dsimp only at oI oJ HT HD ⊢;have nU:=bGw (w0:=U) c.out.f1 HD.out (by show z.length<=_;omega);have d0:w9.cell? ⟨U.heap.size,0,none⟩=some oM:=(by rw[ab c.out.hs];rfl);go_wp2_with fail;refine nU.mono ?_;rintro e oO ⟨rfl,nA,A⟩;have K:=(A.block _ (aAa c.out.hs) (fun e=>aBm c.out.f1 c.out.hs (by decide) e.symm)).trans c.out.hs;have q:=aDu c.out.c1 A (fun g e=>aFb c.out.c1 c.out.f1 (by decide) g e);have L:=hid nA;have s:=hid K;have t:=hid q;have N:=hid (c.out.bel.grown A c.out.bel.size (fun g hg=>(c.out.f1.lt g hg).1));have nV:=bHv (w0:=U) (by show cl.length<=_;omega) q;have d1:oO.cell? ⟨U.heap.size,1,none⟩=some oN:=(by rw[ab K];rfl);clear nU d0 nA A K q c;go_wp2_with fail;refine nV.mono ?_;rintro e G ⟨rfl,B,C⟩;have O:=(C.block _ (aAa s.out) (fun e=>aBm t.out s.out (by decide) e.symm)).trans s.out;have v:=aDu L.out C (fun g e=>aFb L.out t.out (by decide) g e)
    have P:=hid (N.out.grown C N.out.size (fun g hg=>(t.out.lt g hg).1));obtain ⟨A9,c9,rfl,oP⟩:=aAd v;obtain ⟨nK,nL,rfl,q⟩:=aAd B;have R:=hid O;have oL:=hid (aFw v);have nW:=hid (aFw B);have nH:(sortF z).length=z.length:=aNw z;have nI:=hid (show RdF G G.heap.size A9 z.length c9 (sortF z) from ⟨Rd.of_own v oP,nH,fun x hx=>by have:=oK.out x (((aSd z HD.out).2 x).1 hx);omega⟩);have nX:=hid (show Rd G G.heap.size 3 nK cl.length nL ((sortC cl).flatMap CL.cells) from Rd.of_own B q);have d0:G.cell? ⟨U.heap.size,0,none⟩=some (.slice A9 z.length c9):=(by rw[ab O];rfl);have nY:=aDa (w:=G) (by show z.length<=17592186044416;omega) (nF.out.to P.out) nI.out;have nZ:(sortC cl).length=cl.length:=aJj cl;clear nV d1 B C O v L s t N;go_wp2_with fail;refine nY.mono ?_;rintro e oE ⟨rfl,j⟩;have n5:=hid ((i.out.trans (P.out.mono i.out.size)).trans (j.mono (aw i.out.size P.out.size)));have y:=hid ((j.block _ (aAa R.out)).trans R.out);have n7:=hid (nI.out.to j j.size);have n8:=hid (nX.out.to j j.size);clear nY d0 j R nI nX
    have od:Hid (treemergeF base a b=if treeOk (sortF z)=false then ([],[],6) else (sortF z,sortC cl,0)):=hid (by
     rw[HT.out,ah];rintro (h | h | h)
     ·rw[X.out] at h;cases h
     ·rw[nB.out] at h;cases h
     rw[nC.out] at h;cases h)
    cases nq:treeOk (sortF z) with
    | false=>
     have I:=hid (show treemergeF base a b=([],[],6) by rw[od.out];exact ao nq);clear nq;go_wp2;refine bz (aBf rfl _ _) rfl ?_;exact aBy I.out n5.out
    | true=>
     have I:=hid (show treemergeF base a b=(sortF z,sortC cl,0) by rw[od.out];exact ah (by rw[nq];decide));clear nq;go_wp2;refine aAe (fun u=>Below oE.heap.size oE u) [(true,0),(true,1),(true,2),(true,3),(true,4),(true,5),(true,6),(true,7),(true,8),(true,9),(true,10)] mixed κ (Below.refl _ _).drew ?_;intro T M Q hT oQ hM hQ;have m0:M ⟨U.heap.size,0,none⟩=some (.slice A9 z.length c9):=hM _ _ fun w' hw=>(by rw[ab ((hw.block _ (aAa y.out)).trans y.out)];rfl);have m1:M ⟨U.heap.size,1,none⟩=some (.slice nK cl.length nL):=hM _ _ fun w' hw=>(by rw[ab ((hw.block _ (aAa y.out)).trans y.out)];rfl);clear hM;simp only[qcmp];simp (maxSteps:=9^7) only[↓qpre,aAb,aAg,aAc,m0,m1];refine hQ _ _ ?_;clear hQ hT oQ m0 m1;go_wp2;refine bz (aBf rfl _ _) rfl ?_;refine ⟨A9,nK,c9,nL,?_,?_,?_,n5.out.drew,(fun a h=>aw i.out.size (oL.out a h)),fun a h=>aw i.out.size (nW.out a h)⟩
     ·rw[I.out,nH,nZ];rfl
     ·rw[I.out,nH];exact n7.out.drew
     rw[I.out,nZ];exact n8.out.drew
theorem bEm(p:Int)(m:ByteArray)(w:World):(Instr.build 40 #[(0,.int .i64 p),(1,.string m)]).run prog w=.ok (.agg #[.int .i64 p,.string m,.slice none 0 0]) w:=by
 go_simp
theorem aZl(p:Int)(A:Option Addr)(n c:Nat)(w:World):(Instr.build 43 #[(0,.int .i64 p),(1,.slice A n c)]).run prog w=.ok (.agg #[.int .i64 p,.slice A n c]) w:=by
 go_simp
theorem aEk(w:World):(zeroValue 40).run prog w=.ok (.agg #[.int .i64 0,.string ⟨#[]⟩,.slice none 0 0]) w:=Tryz.zeroValue40 w
theorem exq3:(∀(u v t:Value) (K:Value->Prop),exq (.tuple #[u,v,t]) 0 K=K u)/\(∀(u v t:Value) (K:Value->Prop),exq (.tuple #[u,v,t]) 1 K=K v)/\(∀(u v t:Value) (K:Value->Prop),exq (.tuple #[u,v,t]) 2 K=K t):=by
 refine ⟨?_,?_,?_⟩<;>(intros;simp[exq])
theorem aRh(a b c:List FV):(treemergeF a b c).1.length<=100:=by
 unfold treemergeF;split
 ·exact al _
 split
 ·exact al _
 rename_i h;exact aCs (by simpa using h)
def StopIs (w0:World)(mb:Nat)(r:MR×Int)(e:Ending) (w':World):Prop:=
 Below w0.heap.size w0 w'/\e=.returned (.tuple #[.bool false,.int .i64 r.2])/\(r.2≠0->r.1=noMR)/\
  (r.2=0->∃(a b sv:Value) (E S:Nat) (A C:Option Addr) (k j:Nat),r.1.new=[]/\r.1.marks=[]/\w'.heap[mb]? = some (.cells #[a,b,.int .i64 E,.int .i64 S,sv,.slice none 0 0,.slice none 0 0,.int .i64 r.1.commit,.slice A r.1.files.length k,.slice C r.1.clashes.length j] 109 (0,0))/\
   RdF w' w'.heap.size A r.1.files.length k r.1.files/\Rd w' w'.heap.size 3 C r.1.clashes.length j (r.1.clashes.flatMap CL.cells)/\(∀a,A=some a->w0.heap.size<=a.block)/\∀a,C=some a->w0.heap.size<=a.block)
def OneIs (Z:List Nat)(w0:World)(mb E S:Nat)(sv fv kv:Value)(fl:List FLV)(ms:List MV)(c:Int)(r:Except (MR×Int) (List FL))(w:World)(e:Ending) (w':World):Prop:=
 match r with
 | .error x=>StopIs w0 mb x e w'
 | .ok l'=>e=.returned (.tuple #[.bool true,.int .i64 0])/\∃(fv' kv':Value) (f:FLV) (m:MV),l'=fl.map FLV.pl++[f.pl]/\m.old=c/\m.new=[(fl.length:Int)]/\Mov Z w0 w' mb E S sv fv' kv' (fl++[f]) (ms++[m])/\
   HStay (Xs Z mb fv kv) w w'/\∀g∈Xs Z mb fv' kv',g∈Xs Z mb fv kv\/w.heap.size<=g
theorem bLu {c j:Int}(hL:Lm w0)(h:Mov Z w0 w mb E S (.slice SA n sc) fv kv fl ms)(pZ:fl.length<=100000)(p6:ms.length<=100000)
  (hn:n<=maxLen) (hs:RdS w0 w0.heap.size SA n sc sl) (p7:0<=c) (pS:c<fl.length) (pI:par (parF (fl.map FLV.pl)) c<fl.length) (p8:-1<=j) (pT:j<fl.length) :
  Calls prog 81 #[.pointer (some ⟨mb,0,none⟩),.int .i64 c,.int .i64 j] w (OneIs Z w0 mb E S (.slice SA n sc) fv kv fl ms c (oneOn (sl.map STV.pl) (fl.map FLV.pl) c j) w):=by
 obtain ⟨s,rfl⟩:∃k:Nat,c=(k:Int):=⟨c.toNat,ω⟩;obtain ⟨A,ca,pu,oR⟩:=h.rdFl;have nm:=hid oR;obtain ⟨b0,o0,f,eA,nY,hx,oS,k0,k1,k2⟩:=oR.get (k:=s) ω;subst eA;obtain ⟨W,eW⟩:∃W,W=w.alloc (.cells #[.int .i64 (s:Int)] 3):=⟨_,rfl⟩;obtain ⟨V,eV⟩:∃V,V=W.drew:=⟨_,rfl⟩;have oY:Below w.heap.size w W:=by rw[eW];exact (Below.refl _ _).alloc (aa _) _
 have nG:Below w.heap.size w V:=by rw[eV];exact oY.drew
 have G:=h.below nG;have oZ:V.heap[w.heap.size]? = some (.cells #[.int .i64 (s:Int)] 3 (0,0)):=by rw[eV,eW];exact au _ _
 have nS:=hid G;have nu:=hid oZ;have o6:=hid (show w.heap.size∉Xs Z mb fv kv from h.new (aa _));have ow:=hid (show V.heap.size∉Xs Z mb fv kv from G.new (aa _))
 have o8:=hid (show Off V (V.heap.size::Xs Z mb fv kv) fl ms from Off.less ⟨G.pf,G.pk⟩ fun b hb=>by
  rcases ax.1 hb with e | e
  ·exact .inr (gZ e.symm)
  exact .inl e)
 have nH:=hid ((nG.cell (p:=⟨b0,o0+s*3+1,none⟩) nY).trans k1);have nw:=hid (ag nY nG.size);have nT:=hid nG
 have oh:=hid (show par (parF (fl.map FLV.pl)) (s:Int)=f.parent by
  unfold par parF;rw[dL,iA,aG,hx];rfl)
 have pa:=hid (show msgAt (fl.map FLV.pl) (s:Int)=f.msg by
  unfold msgAt;rw[dL,aG,hx];rfl)
 have pU:=hid oS;have pJ:=hid h.bel.size;have oz:=hid (And.intro nY k0);have pK:=hid (show FlOk w (Xs Z mb fv kv) f from h.pf f oS);clear G oZ oY nG h k1 k2 k0 nY oR hx oS;have nj:=hid pu;have HN:=hid hn;have pL:=hid pI;clear pu hn pI;go_enter Tryz.func81,Tryz.ntmps81;go_wp2;rw[<-eW];have oA:(V.alloc (.cells #[.int .i64 0,.string ⟨#[]⟩,.slice none 0 0] 40)).heap[V.heap.size]? = some (.cells #[.int .i64 0,.string ⟨#[]⟩,.slice none 0 0] 40 (0,0)):=au V _;have ol:(prog.info? 40).map (·.size)=some 3:=κ;have t:Below V.heap.size V (V.alloc (.cells #[.int .i64 0,.string ⟨#[]⟩,.slice none 0 0] 40)):=(Below.refl _ _).alloc (aa _) _;obtain ⟨bc,nZ⟩:∃bc,bc=w.heap.size:=⟨_,rfl⟩;rw[<-nZ] at nu o6;rw[show (.pointer (some ⟨w.heap.size,0,none⟩):Value)=.pointer (some ⟨bc,0,none⟩) by rw[nZ]];refine aAv (fun u=>Below V.heap.size V u) (.q 0 (.q 1 (.q 2 (.q 3 (.q 4 (.q 5 (.q 6 (.q 7 (.q 8 (.b 9 (.one 10 (.one 11 .leaf)))))))))))) mixed κ (by rw[<-eV];exact Below.refl _ _) ?_;intro Tp M Q hT nD G hQ;rw[<-eV];clear eV eW;have m0:M ⟨mb,0,none⟩=some (.slice (some ⟨b0,o0,none⟩) fl.length ca):=G _ _ fun w' L=>(L.cell (p:=⟨mb,0,none⟩) (aAa nS.out.hs)).trans (by rw[ab nS.out.hs,<-nj.out];rfl);have m1:M ⟨bc,0,none⟩=some (.int .i64 (s:Int)):=G _ _ fun w' L=>(L.cell (p:=⟨bc,0,none⟩) (aAa nu.out)).trans (by rw[ab nu.out];rfl);have m2:M ⟨b0,o0+s*3+1,none⟩=some (.string f.msg):=G _ _ fun w' L=>(L.cell (p:=⟨b0,o0+s*3+1,none⟩) nw.out).trans nH.out;clear G;refine aCu ?_;intro O hO;have t0:=hO true 0;have t1:=hO true 1
 have t2:=hO true 2;have t3:=hO true 3;have t4:=hO true 4;have t5:=hO true 5;have t6:=hO true 6;have t7:=hO true 7;have t8:=hO true 8;have t9:=hO true 9;have oB:=hO false 10;have oC:=hO false 11;simp only[qcmp] at t0 t1 t2 t3 t4 t5 t6 t7 t8 t9 oB oC;clear hO;simp (maxSteps:=9^7) only[↓wt_q,↓wt_b,t0,t1,t2,t3,t4,t5,t6,t7,t8,t9,↓qpre,aAb,aAg,aAc,m0,m1,m2];(repeat refine And.intro (by first|omega|(unfold inI64;omega)) ?_);refine aCc rfl (fun w=>bEm _ _ w) ?_;simp (maxSteps:=9^7) only[↓aAn,oB,aAb,aAc];refine aBr aEk ⟨hT _ t,?_⟩;simp (maxSteps:=9^7) only[↓aAn,oC,aAb,aAc];refine aAp (cells:=#[.int .i64 j,.string f.msg,.slice none 0 0]) rfl rfl oA ol rfl (by simp[Value.oneCell']) ⟨hT _ (aAj t (aa _)),?_⟩;simp (maxSteps:=9^7) only[↓aCm,aAb];refine hQ _ _ ?_;have nI:=aAj (cs:=#[.int .i64 j,.string f.msg,.slice none 0 0]) t (aa _);have nz:=hid (nS.out.below nI);have pc:=hid (o8.out.keep (HStay.of_below nI));have nE:=hid ((nI.block bc (aAa nu.out)).trans nu.out);have nU:=hid (bB _ _ _ #[.int .i64 j,.string f.msg,.slice none 0 0] _ _ oA);have HU:=hid (nT.out.trans (nI.mono nT.out.size));have pM:=hid (show bc<V.heap.size from aAa nu.out);have pd:=hid nT.out.size;clear hQ hT nD m0 m1 m2 t0 t1 t2 t3 t4 t5 t6 t7 t8 t9 oB oC nI t oA ol nH nw nu nS nT o8;clear Tp M Q O;simp only[Value.cells] at nz nE nU HU ⊢;generalize World.setRow _ _ _=U at *;generalize V.heap.size=B at *;have pV:=hid nZ;clear nZ V W;have HS:=hid hs
 have H:=hid (show oneOn (sl.map STV.pl) (fl.map FLV.pl) (s:Int) j=if (mergedOn (fl.map FLV.pl) (sl.map STV.pl) s j).2.2≠0 then .error (noMR,(mergedOn (fl.map FLV.pl) (sl.map STV.pl) s j).2.2)
  else if (mergedOn (fl.map FLV.pl) (sl.map STV.pl) s j).2.1≠[] then .error (⟨[],[],s,(mergedOn (fl.map FLV.pl) (sl.map STV.pl) s j).1,(mergedOn (fl.map FLV.pl) (sl.map STV.pl) s j).2.1⟩,0)
  else if 2000<=(fl.map FLV.pl).length then .error (noMR,6) else .ok (fl.map FLV.pl++[⟨j,msgAt (fl.map FLV.pl) s,(mergedOn (fl.map FLV.pl) (sl.map STV.pl) s j).1⟩]) from rfl)
 have KI:=bBg (x:=(s:Int)) HN.out (hs.to nz.out.bel nz.out.bel.size) (show U.cell? ⟨bc,0,none⟩=some (.int .i64 (s:Int)) by rw[ab nE.out];rfl) (aAa nE.out);have g4:U.cell? ⟨mb,4,none⟩=some (.slice SA n sc):=by rw[ab nz.out.hs];rfl
 have P:=aAa nz.out.hs;clear hs;go_wp2_with fail;refine KI.mono ?_;rintro e u1 ⟨r,rfl,hr,D⟩;have l:=hid (nz.out.below D);have nV:=hid (pc.out.keep (HStay.of_below D));have C:=hid ((D.block bc (aAa nE.out)).trans nE.out);have y:=hid ((D.block B (aAa nU.out)).trans nU.out);have I:=hid (HU.out.trans (D.mono HU.out.size));clear KI g4 D nz nE nU HU P pc;have g4:u1.cell? ⟨mb,4,none⟩=some (.slice SA n sc):=by rw[ab l.out.hs];rfl
 have P:=aAa l.out.hs;rcases hr with ⟨rfl,nQ⟩ | ⟨k,g,rfl,hk,nR⟩
 case' inl=>
  have oD:=hid (show mergedOn (fl.map FLV.pl) (sl.map STV.pl) s j=treemergeF (filesAt (fl.map FLV.pl) f.parent) (filesAt (fl.map FLV.pl) j) (filesAt (fl.map FLV.pl) s) by
   unfold mergedOn;rw[nQ,<-oh.out])
  have pO:=hid (show f.parent<fl.length by rw[<-oh.out];exact pL.out);clear nQ g4
  have KF:=hid (fun (v:World) (hv:Below u1.heap.size u1 v) (i:Int) (hi:i<fl.length)=>bDl (X:=Xs Z mb fv kv) (i:=i) (l.out.below hv).hs
   (show (movC fv kv E S (.slice SA n sc))[0]? = some (.slice (some ⟨b0,o0,none⟩) fl.length ca) by rw[nj.out];rfl) ((l.out.below hv).rdFl' nj.out).row rfl ω (l.out.below hv).pf hi)
  go_wp2;refine aAe (fun v=>Below u1.heap.size u1 v) [(true,0),(true,1),(true,2),(true,3),(true,4),(true,5),(true,6),(true,7),(true,8),(true,10),(true,11),(true,13),(true,14),(false,9),(false,12),(false,15),(false,16),(true,17),(true,18),(true,19),(true,20),(true,21),(true,22),(true,23)] mixed κ (Below.refl _ _).drew ?_;intro T M Q hT nD G hQ;have m0:M ⟨mb,0,none⟩=some (.slice (some ⟨b0,o0,none⟩) fl.length ca):=G _ _ fun w' L=>(L.cell (p:=⟨mb,0,none⟩) P).trans (by rw[ab l.out.hs,<-nj.out];rfl);have m1:M ⟨bc,0,none⟩=some (.int .i64 (s:Int)):=G _ _ fun w' L=>(L.cell (p:=⟨bc,0,none⟩) (aAa C.out)).trans (by rw[ab C.out];rfl);have m2:M ⟨b0,o0+s*3,none⟩=some (.int .i64 f.parent):=G _ _ fun w' L=>(L.cell (p:=⟨b0,o0+s*3,none⟩) (ag oz.out.1 I.out.size)).trans ((I.out.cell oz.out.1).trans oz.out.2);clear G;have Y:Below u1.heap.size u1 u1.drew:=(Below.refl _ _).drew;simp only[qcmp];simp (maxSteps:=9^7) only[↓qpre,aAb,aAg,aAc,m0,m1,m2];(repeat refine And.intro (by first|omega|(unfold inI64;omega)) ?_);refine aAh κ (KF.out _ Y _ pO.out) rfl rfl ?_;rintro e v1 ⟨A1,d1,rfl,r1,l1,rfl⟩;refine ⟨_,rfl,hT _ Y,?_⟩;simp (maxSteps:=9^7) only[aAb,aAc];refine aAh κ (KF.out _ Y _ pT) rfl rfl ?_;rintro e v2 ⟨A2,d2,rfl,r2,l2,rfl⟩;refine ⟨_,rfl,hT _ Y,?_⟩;simp (maxSteps:=9^7) only[aAb,aAc];refine aAh κ (KF.out _ Y _ pS) rfl rfl ?_;rintro e v3 ⟨A3,d3,rfl,r3,l3,rfl⟩;refine ⟨_,rfl,hT _ Y,?_⟩;simp (maxSteps:=9^7) only[aAb,aAc];refine aAh κ (bDa (hL.to (l.out.bel.trans (Y.mono l.out.bel.size))) l1 l2 l3 r1.1 r2.1 r3.1) rfl rfl ?_
  rintro e u2 ⟨F,C4,K,j4,rfl,rF,rC,pw,oq,nN⟩;have nA:=Y.trans (pw.mono Y.size);refine ⟨_,rfl,hT _ nA,?_⟩;simp (maxSteps:=9^7) only[↓qpre,aAb,aAc,exq3];refine hQ _ _ ?_;have z:=hid (l.out.below nA);have oE:=hid (nV.out.keep (HStay.of_below nA));have nk:=hid ((nA.block bc (aAa C.out)).trans C.out);have nq:=hid ((nA.block B (aAa y.out)).trans y.out);have nB:=hid (I.out.trans (nA.mono I.out.size));have nm:=hid rF;have oF:=hid rC;have ff:=hid (show ∀a,F=some a->u1.heap.size<=a.block from oq);have nJ:=hid (show ∀a,C4=some a->u1.heap.size<=a.block from nN);have oG:=hid P;have oH:=hid l.out.bel.size
  have nW:=hid (show ∀g∈B::Xs Z mb fv kv,g<u1.heap.size from fun g hg=>by
   rcases ax.1 hg with e | e
   ·rw[e];exact aAa y.out
   exact mM fun hn=>l.out.new hn e)
  clear l y;clear hQ hT nD m0 m1 m2 Y r1 r2 r3 l1 l2 l3 rF rC pw nA oq nN KF P;clear T M Q C I nV;have HQ:=hid (aw (aRh (filesAt (fl.map FLV.pl) f.parent) (filesAt (fl.map FLV.pl) j) (filesAt (fl.map FLV.pl) s)) (show 100<=17592186044416 by decide));generalize treemergeF (filesAt (fl.map FLV.pl) f.parent) (filesAt (fl.map FLV.pl) j) (filesAt (fl.map FLV.pl) s)=R at *;obtain ⟨N,CS,k⟩:=R;dsimp only at nm oF HQ ⊢;rw[oD.out] at H;dsimp only at H;have P:=aAa z.out.hs;by_cases hk:k=0
  case neg=>
   have ek:(k != 0)=true:=(by simpa using hk);have HK:=hid hk;clear hk;go_wp2;go_ret2;rw[H.out,ao HK.out];exact ⟨z.out.bel,rfl,fun _=>rfl,fun e=>absurd e HK.out⟩
  subst hk;rw[ah (by decide)] at H;by_cases oX:0<CS.length
  case pos=>
   have HK:=hid (show CS≠[] from fun e=>by rw[e] at oX;exact absurd oX (by decide));have c1:u2.cell? ⟨bc,0,none⟩=some (.int .i64 (s:Int)):=(by rw[ab nk.out];rfl);go_wp2_with (refine aJr rfl 32 (.tmp 74) (.tmp 72) rfl (g:=mb) (d:=5) (cs:=#[.slice none 0 0,.slice none 0 0,.int .i64 (s:Int),.slice F N.length K,.slice C4 CS.length j4]) κ rfl rfl z.out.hs (aa 10) (by simp[Value.oneCell']) ?_);go_ret2;rw[H.out,ao HK.out];have nK:HStay [mb] u2 (u2.setRow mb (#[fv,kv,.int .i64 E,.int .i64 S,.slice SA n sc,.slice none 0 0,.slice none 0 0,.int .i64 (s:Int),.slice F N.length K,.slice C4 CS.length j4]:Array Value)):=⟨by simp[World.setRow],fun k _ hx=>dA _ _ _ _ (fun e=>hx (by rw[e];simp))⟩;refine ⟨aAj z.out.bel z.out.lo,rfl,fun e=>absurd rfl e,fun _=>⟨fv,kv,.slice SA n sc,E,S,F,C4,K,j4,rfl,rfl,bB _ _ _ _ _ _ z.out.hs,⟨aBq (X:=[mb]) nm.out.row (fun a e _ hm=>?_) nK.keeps,rfl,nm.out.fits⟩,aBq (X:=[mb]) oF.out (fun a e _ hm=>?_) nK.keeps,(fun a e=>aw oH.out (ff.out a e)),fun a e=>aw oH.out (nJ.out a e)⟩⟩
   ·have:=ff.out a e;have:=oG.out;rw[aS] at hm;omega
   have:=nJ.out a e;have:=oG.out;rw[aS] at hm;omega
  obtain rfl:CS=[]:=bC ω;rw[ah (fun h=>h rfl)] at H;clear oX oF nJ oG oH P
 case' inr=>
  have oD:=hid (show mergedOn (fl.map FLV.pl) (sl.map STV.pl) s j=(g.files,[],0) by unfold mergedOn;rw[nR];rfl);have pe:k<n:=by rw[<-HS.out.len];exact (aj.1 hk).1
  obtain ⟨b1,o1,g',eA,pz,n5,pA,_,g5⟩:=(HS.out.to l.out.bel l.out.bel.size).get pe;rw[hk] at n5;injection n5 with n5;subst n5;rw[eA] at g4;have pW:=hid eA;clear eA;obtain ⟨q1,q2,_⟩:=(HS.out.to l.out.bel l.out.bel.size).parts g pA;have KC:=aPy q2 q1;have HQ:=hid (show g.files.length<=17592186044416 from aw q2 ω);have pg:=hid q1.fits;clear nR hk pA q1 q2;rw[oD.out] at H;dsimp only at H;rw[ah (by decide),ah (fun h=>h rfl)] at H;go_wp2_with fail;refine KC.mono ?_;rintro e u2 ⟨v,rfl,n7,nF⟩;obtain ⟨F,K,rfl,pB⟩:=aAd n7;have nm:=hid (show RdF u2 u2.heap.size F g.files.length K g.files from ⟨Rd.of_own n7 pB,rfl,pg.out⟩);have ff:=hid (show ∀a,F=some a->u1.heap.size<=a.block from aFw n7);have z:=hid (l.out.below nF);have oE:=hid (nV.out.keep (HStay.of_below nF));have nk:=hid ((nF.block bc (aAa C.out)).trans C.out);have nq:=hid ((nF.block B (aAa y.out)).trans y.out);have nB:=hid (I.out.trans (nF.mono I.out.size))
  have nW:=hid (show ∀g∈B::Xs Z mb fv kv,g<u1.heap.size from fun g hg=>by
   rcases ax.1 hg with e | e
   ·rw[e];exact aAa y.out
   exact mM fun hn=>l.out.new hn e)
  clear l y;generalize g.files=N at *;clear n7 pB KC nF pz g5 g4 P C I pg pe nV
 all_goals
  have c2:u2.cell? ⟨B,2,none⟩=some (.slice none 0 0):=by rw[ab nq.out];rfl
  have f2:u2.frozen? ⟨B,2,none⟩=false:=aAk nq.out;have oI:=aAy u2 B 2 (.slice F N.length K);have nK:HStay (B::Xs Z mb fv kv) u2 (u2.setCell ⟨B,2,none⟩ (.slice F N.length K)):=HStay.grown oI fun g e=>by injection e with e;rw[e];exact bu ..
  have ph:w0.heap.size<=B:=aw pJ.out pd.out;have nX:=z.out.setOther oI ow.out ph oE.out;have g0:(u2.setCell ⟨B,2,none⟩ (.slice F N.length K)).cell? ⟨mb,0,none⟩=some (.slice (some ⟨b0,o0,none⟩) fl.length ca):=by rw[ab nX.hs,<-nj.out];rfl
  have P:mb<(u2.setCell ⟨B,2,none⟩ (.slice F N.length K)).heap.size:=aAa nX.hs;have oJ:=hid nX
  have oK:=hid (show (u2.setCell ⟨B,2,none⟩ (.slice F N.length K)).heap[B]? = some (.cells #[.int .i64 j,.string f.msg,.slice F N.length K] 40 (0,0)) by
   have:=a8 u2 B 2 _ _ (.slice F N.length K) nq.out;simpa using this)
  have oL:=hid ((Below.heap_setCell u2 ⟨B,2,none⟩ (.slice F N.length K) bc (gW pM.out)).trans nk.out)
  have pi:=hid (show FlOk (u2.setCell ⟨B,2,none⟩ (.slice F N.length K)) (Xs Z mb fv kv) ⟨j,f.msg,F,K,N⟩ from
   ⟨⟨⟨aBq (X:=B::Xs Z mb fv kv) nm.out.row (fun a e _ hm=>cG _ (ag (nW.out _ hm) (ff.out a e))) nK.keeps,rfl,nm.out.fits⟩,fun a e _ hm=>cG _ (ag (nW.out _ (am _ hm)) (ff.out a e))⟩,
    HQ.out,(show I64 j by unfold I64;omega),pK.out.msg⟩)
  have oM:=hid (show Below w.heap.size w (u2.setCell ⟨B,2,none⟩ (.slice F N.length K)) from nB.out.setCell pd.out _);clear oI nK ph nX z nk nq nB oE nm ff nW HQ;by_cases h2:2000<=fl.length
  case pos=>
   have HK:=hid h2;go_wp2;go_ret2;rw[H.out,ao (by rw[az];exact HK.out)];exact ⟨oJ.out.bel,rfl,fun _=>rfl,fun e=>absurd e (by decide)⟩
  rw[ah (by rw[az];exact h2)] at H;go_wp2;clear c2 f2 g0 P h2;generalize u2.setCell ⟨B,2,none⟩ (.slice F N.length K)=u3 at *;obtain ⟨V0,e0⟩:∃V0,V0=u3.drew:=⟨_,rfl⟩;have J:Below u3.heap.size u3 V0:=by rw[e0];exact (Below.refl _ _).drew
  have nr:=hid (oJ.out.below J);have nw:=hid ((J.block bc (aAa oL.out)).trans oL.out);have ns:=hid ((J.block B (aAa oK.out)).trans oK.out);have nL:=hid (pi.out.keep (HStay.of_below J).keeps);have oN:=hid (oM.out.trans (J.mono oM.out.size));clear J oJ oL oK pi oM
  refine aAq (fun u=>u.heap[mb]? = some (.cells (movC fv kv E S (.slice SA n sc)) 109 (0,0))/\u.heap[bc]? = some (.cells #[.int .i64 (s:Int)] 3 (0,0)))
   [(true,0),(true,1),(true,2),(true,3),(true,4),(true,5),(true,6),(true,7),(true,8),(true,9),(true,10),(false,11),(false,12),(false,13),(false,14),(true,15),(true,16)] [17] mixed κ (by rw[<-e0];exact ⟨nr.out.hs,nw.out⟩) ?_
  intro Tp M Q Q2 hT nD G hQ nO;rw[<-e0];clear e0 u3;have m0:M ⟨mb,0,none⟩=some (.slice (some ⟨b0,o0,none⟩) fl.length ca):=G _ _ fun w' L=>by rw[ab L.1,<-nj.out];rfl
  have m1:M ⟨mb,1,none⟩=some kv:=G _ _ fun w' L=>by rw[ab L.1];rfl
  have m2:M ⟨bc,0,none⟩=some (.int .i64 (s:Int)):=G _ _ fun w' L=>by rw[ab L.2];rfl
  clear G;simp only[qcmp];simp (maxSteps:=9^7) only[↓qpre,aAb,aAg,aAc,m0,m1,m2];clear m0 m1 m2;have t:Below V0.heap.size V0 (V0.alloc (.cells #[.int .i64 (fl.length:Int)] 3)):=(Below.refl _ _).alloc (aa _) _;have l:=hid (nr.out.below t);have C:=hid ((t.block bc (aAa nw.out)).trans nw.out);have y:=hid ((t.block B (aAa ns.out)).trans ns.out);have nM:=hid (nL.out.keep (HStay.of_below t).keeps);have I:=hid (oN.out.trans (t.mono oN.out.size))
  have nH:=hid (show MkOk (V0.alloc (.cells #[.int .i64 (fl.length:Int)] 3)) (Xs Z mb fv kv) ⟨s,some ⟨V0.heap.size,0,none⟩,1,[(fl.length:Int)]⟩ from
   ⟨aEu V0 _,fun a e _=>by cases e;exact nr.out.new (aa _),(show 1<=17592186044416 by decide),(show I64 (s:Int) by unfold I64;omega),fun x hx=>by rw[aS.1 hx];unfold I64;omega⟩)
  refine bFl E28 rfl rfl ⟨hT _ ⟨l.out.hs,C.out⟩,?_⟩;simp (maxSteps:=9^7) only[aAb,aAc];clear t nr nw ns nL oN;generalize V0.alloc (.cells #[.int .i64 (fl.length:Int)] 3)=V1 at *;generalize V0.heap.size=qb at *;refine aBo rfl (aZl _ _ _ _ _) ⟨hT _ ⟨l.out.hs,C.out⟩,?_⟩;simp (maxSteps:=9^7) only[aAb,aAc];have D:Below V1.heap.size V1 (V1.alloc (.cells #[.int .i64 (s:Int),.slice (some ⟨qb,0,none⟩) 1 1] 43)):=(Below.refl _ _).alloc (aa _) _;have z:=hid (l.out.below D);have nk:=hid ((D.block bc (aAa C.out)).trans C.out);have nq:=hid ((D.block B (aAa y.out)).trans y.out);have pj:=hid (nM.out.keep (HStay.of_below D).keeps);have nB:=hid (I.out.trans (D.mono I.out.size));have pm:=hid (nH.out.keep (HStay.of_below D).keeps);have nC:=hid (bLi V1 ⟨s,some ⟨qb,0,none⟩,1,[(fl.length:Int)]⟩);refine T.eff_lits (aGq E22 _ _ _) rfl ⟨hT _ ⟨z.out.hs,nk.out⟩,?_⟩;simp (maxSteps:=9^7) only[aAb,aAc];clear D l C y nM I nH;dsimp only[bf] at nC;generalize V1.alloc (.cells #[.int .i64 (s:Int),.slice (some ⟨qb,0,none⟩) 1 1] 43)=V2 at *;refine aAo E22 (base:=w0.heap.size) (n:=ms.length) rfl rfl z.out.k1 nC.out (aOu [⟨s,some ⟨qb,0,none⟩,1,[(fl.length:Int)]⟩]) (by unfold maxLen;omega) ω z.out.bel.size ?_;intro v9 V5 oT oU pC;obtain ⟨A9,c9,rfl,pX⟩:=aAd oT;obtain ⟨n8,pD,nP,pE,pF⟩:=z.out.pushK (m:=⟨s,some ⟨qb,0,none⟩,1,[(fl.length:Int)]⟩) pm.out oU pC oT;have pn:=hid pD;have oO:=hid (nP.at_ nq.out ow.out);have po:=hid (pF _ pj.out);have pq:=hid (HStay.trans (HStay.of_below (X:=Xs Z mb fv kv) nB.out) nP fun g hg=>.inl hg)
  have oP:=hid (show ∀g∈Xs Z mb fv (.slice A9 (ms.length+1) c9),g∈Xs Z mb fv kv\/w.heap.size<=g from fun g hg=>(pE g hg).imp id fun h=>aw nB.out.size h);refine ⟨hT _ ⟨n8,(oU.block bc (aAa nk.out) (fun e=>o6.out (aBw.2 (.inr (.inr (.inl e.symm)))))).trans nk.out⟩,?_⟩;simp (maxSteps:=9^7) only[↓qpre,aAb,aAg,aAc];refine hQ _ _ ?_;simp only[lates,List.map,qcmp];simp (maxSteps:=9^7) only[aAb];refine aBa (v:=.slice A9 (ms.length+1) c9) (b:=mb) (o:=1) κ rfl rfl (by rw[ab n8];rfl) (aAk n8) rfl ⟨trivial,?_⟩;simp (maxSteps:=9^7) only[aAb];refine nO _ _ ?_;clear hQ nO hT nD z nk nq pj nB pm nC oT oU pC n8 pD nP pE pF;clear Tp M Q Q2;generalize V5.setCell ⟨mb,1,none⟩ (.slice A9 (ms.length+1) c9)=u6 at *;go_wp2;obtain ⟨V0,e0⟩:∃V0,V0=u6.drew:=⟨_,rfl⟩;have J:Below u6.heap.size u6 V0:=by rw[e0];exact (Below.refl _ _).drew
  have nr:=hid (pn.out.below J);have ns:=hid ((J.block B (aAa oO.out)).trans oO.out);have nL:=hid (po.out.keep (HStay.of_below J).keeps);have pr:=hid (HStay.trans pq.out (HStay.of_below (X:=[]) J) (by simp));clear J pn oO po
  refine aAq (fun u=>u.heap[mb]? = some (.cells (movC fv (.slice A9 (ms.length+1) c9) E S (.slice SA n sc)) 109 (0,0))/\u.heap[B]? = some (.cells #[.int .i64 j,.string f.msg,.slice F N.length K] 40 (0,0)))
   [(true,0),(true,1),(true,2),(true,3),(true,4),(true,5),(false,6),(false,7),(true,8),(true,9)] [10] mixed κ (by rw[<-e0];exact ⟨nr.out.hs,ns.out⟩) ?_
  intro Tp M Q Q2 hT nD G hQ nO;rw[<-e0];clear e0 pq u6;have m0:M ⟨mb,0,none⟩=some (.slice (some ⟨b0,o0,none⟩) fl.length ca):=G _ _ fun w' L=>by rw[ab L.1,<-nj.out];rfl
  have m1:M ⟨B,0,none⟩=some (.int .i64 j):=G _ _ fun w' L=>by rw[ab L.2];rfl
  have m2:M ⟨B,1,none⟩=some (.string f.msg):=G _ _ fun w' L=>by rw[ab L.2];rfl
  have m3:M ⟨B,2,none⟩=some (.slice F N.length K):=G _ _ fun w' L=>by rw[ab L.2];rfl
  clear G;simp only[qcmp];simp (maxSteps:=9^7) only[↓qpre,aAb,aAg,aAc,m0,m1,m2,m3];clear m0 m1 m2 m3;have t:Below V0.heap.size V0 (V0.alloc (.cells #[.int .i64 j,.string f.msg,.slice F N.length K] 40)):=(Below.refl _ _).alloc (aa _) _;have l:=hid (nr.out.below t);have y:=hid ((t.block B (aAa ns.out)).trans ns.out);have nM:=hid (nL.out.keep (HStay.of_below t).keeps);have oQ:=hid (HStay.trans pr.out (HStay.of_below (X:=[]) t) (by simp));have nC:=hid (aSn V0 ⟨j,f.msg,F,K,N⟩);refine T.eff_lits (T.run_lits3 aHy _ _ _ _) rfl ⟨hT _ ⟨l.out.hs,y.out⟩,?_⟩;simp (maxSteps:=9^7) only[aAb,aAc];clear t nr ns nL pr;dsimp only at nC;generalize V0.alloc (.cells #[.int .i64 j,.string f.msg,.slice F N.length K] 40)=V1 at *;have pt:V1.ownsRow w0.heap.size 40 3 (.slice (some ⟨b0,o0,none⟩) fl.length ca) fl.length (fl.flatMap FLV.cells):=by rw[<-nj.out];exact l.out.f1
  refine aAo aHy (base:=w0.heap.size) (n:=fl.length) rfl rfl pt nC.out (aEi [⟨j,f.msg,F,K,N⟩]) (by unfold maxLen;omega) ω l.out.bel.size ?_;intro v7 V5 oV od oW;obtain ⟨A7,c7,rfl,pY⟩:=aAd oV;rw[<-nj.out] at od oW;obtain ⟨oe,pG,ou,pH,_⟩:=l.out.pushF (f:=⟨j,f.msg,F,K,N⟩) nM.out od oW oV;have pP:=hid pG;have pQ:=hid (HStay.trans oQ.out ou oP.out)
  have pR:=hid (show ∀g∈Xs Z mb (.slice A7 (fl.length+1) c7) (.slice A9 (ms.length+1) c9),g∈Xs Z mb fv kv\/w.heap.size<=g from fun g hg=>by
   rcases pH g hg with h | h
   ·exact oP.out g h
   exact .inr (aw oQ.out.1 h))
  refine ⟨hT _ ⟨oe,(od.block B (aAa y.out) (fun e=>ow.out (aBw.2 (.inr (.inl e.symm))))).trans y.out⟩,?_⟩;simp (maxSteps:=9^7) only[↓qpre,aAb,aAg,aAc];refine hQ _ _ ?_;simp only[lates,List.map,qcmp];simp (maxSteps:=9^7) only[aAb];refine aBa (v:=.slice A7 (fl.length+1) c7) (b:=mb) (o:=0) κ rfl rfl (by rw[ab oe];rfl) (aAk oe) rfl ⟨trivial,?_⟩;simp (maxSteps:=9^7) only[aAb];refine nO _ _ ?_;clear hQ nO hT nD l y nM oQ nC pt oV od oW oe pG ou pH oP;clear Tp M Q Q2;generalize V5.setCell ⟨mb,0,none⟩ (.slice A7 (fl.length+1) c7)=u8 at *;go_wp2;go_ret2;rw[H.out];exact ⟨rfl,_,_,⟨j,f.msg,F,K,N⟩,⟨s,some ⟨qb,0,none⟩,1,[(fl.length:Int)]⟩,by rw[pa.out];rfl,rfl,rfl,pP.out,pQ.out,pR.out⟩
theorem aKb(w:World):(Instr.build 32 #[]).run prog w=.ok (.agg #[.slice none 0 0,.slice none 0 0,.int .i64 0,.slice none 0 0,.slice none 0 0]) w:=by
 go_simp
theorem bCy(a b c:Option Addr)(d e f g h i:Nat)(x y:Int)(w:World):(Instr.build 109 #[(0,.slice a d e),(1,.slice b f g),(2,.int .i64 x),(3,.int .i64 y),(4,.slice c h i),(5,.agg #[.slice none 0 0,.slice none 0 0,.int .i64 0,.slice none 0 0,.slice none 0 0])]).run prog w =
  .ok (.agg #[.slice a d e,.slice b f g,.int .i64 x,.int .i64 y,.slice c h i,.slice none 0 0,.slice none 0 0,.int .i64 0,.slice none 0 0,.slice none 0 0]) w:=by
 go_simp
def BeginIs (Z:List Nat)(l:List FLV)(ms:List MV)(sv:Value)(w:World)(e:Ending) (w':World):Prop:=
 Below w.heap.size w w'/\if rightL (l.map FLV.pl) ms=true then ∃(mb:Nat) (fv kv:Value),e=.returned (.pointer (some ⟨mb,0,none⟩))/\Mov Z w w' mb l.length ms.length sv fv kv l ms else e=.returned (.pointer none)
theorem anyOk(l:List FLV):(l.map FLV.pl).all (fun f=>treeOk f.files)=!l.any fun f=>!treeOk f.files:=by
 induction l with
 | nil=>rfl
 | cons f l ih=>rw[dc,jI,List.any_cons,ih];cases h:treeOk f.files<;>simp[FLV.pl,h]
theorem bEd {sn:Nat}{l:List FLV}(hL:Lm w)(J:l.length<=100000)(hm:ms.length<=100000)(r1:RdFl w w.heap.size A l.length c l)(r2:RdM w w.heap.size AK ms.length ck ms)(H:∀z∈Z,z<w.heap.size)
  (z1:∀f∈l,∀a,f.A=some a->0<f.files.length->a.block∉Z) (z2:∀m∈ms,∀a,m.A=some a->0<m.new.length->a.block∉Z) :
  Calls prog 35 #[.slice A l.length c,.slice AK ms.length ck,.slice SA sn sc] w (BeginIs Z l ms (.slice SA sn sc) w):=by
 have K1:=aMy ω r1.row (aEi _);have K:=hid r1;have v:=hid r2;have ff:=hid (show parF (l.map FLV.pl)=l.map FLV.parent by unfold parF;rw[iA];rfl);have d:=hid (show rightL (l.map FLV.pl) ms=(rightP (parF (l.map FLV.pl)) && (l.map FLV.pl).all (fun f=>treeOk f.files) && rightM ((l.map FLV.pl).length:Int) ms) from rfl);rw[anyOk,az,ff.out] at d;have HZ:=hid (And.intro H (And.intro z1 z2));clear r1 r2 H z1 z2;go_enter Tryz.func35,Tryz.ntmps35;go_wp2_with fail;refine K1.mono ?_;rintro e w1 ⟨v1,rfl,D,u⟩;obtain ⟨X,Y,rfl,nk⟩:=aAd D;have L:=hid D;have p:=hid u;have K2:=aNq ω (v.out.row.to u u.size) (aOu _);clear K1 D u;go_wp2_with fail;refine K2.mono ?_;rintro e E ⟨v2,rfl,F,G⟩;obtain ⟨A2,c2,rfl,nm⟩:=aAd F;have y:=hid (aFt F p.out.size);have B:=hid (aAf L.out G);have i:=hid (p.out.trans (G.mono p.out.size));have H:=aKb E;have nj:=bCy X A2 SA l.length Y ms.length c2 sn sc l.length ms.length E;obtain ⟨W,P⟩:∃W,W=E.alloc (.cells (movC (.slice X l.length Y) (.slice A2 ms.length c2) l.length ms.length (.slice SA sn sc)) 109):=⟨_,rfl⟩;obtain ⟨mb,n⟩:∃mb,mb=E.heap.size:=⟨_,rfl⟩;have q:Below E.heap.size E W:=by rw[P];exact (Below.refl _ _).alloc (aa _) _
 have r:Mov Z w W mb l.length ms.length (.slice SA sn sc) (.slice X l.length Y) (.slice A2 ms.length c2) l ms:=by
  have j:Below w.heap.size w W:=i.out.trans (q.mono i.out.size)
  have ho:∀g,g<w.heap.size->g∉Z->g∉Xs Z mb (.slice X l.length Y) (.slice A2 ms.length c2):=fun g hg H e=>by
   rcases aBw.1 e with I | I | I | I
   ·have:=i.out.size;omega
   ·have:=(B.out.lt g I).1;omega
   ·have:=(y.out.lt g I).1;omega
   exact H I
  refine ⟨by rw[P,n];exact au _ _,aAf B.out q,aAf y.out q,by rw[n];exact i.out.size,j,fun f hf=>?_,fun x hx=>?_,HZ.out.1⟩
  ·obtain ⟨Q,p2,p3,p4⟩:=K.out.parts f hf
   refine ⟨⟨Q.to j j.size,fun a e J=>?_⟩,p2,p3,p4⟩;obtain ⟨b,o,R,hb,_⟩:=Q.row.at_ J;rw[e] at R;cases R;exact ho b hb (HZ.out.2.1 f hf _ e J)
  obtain ⟨Q,p2,p3,p4⟩:=v.out.parts x hx;refine ⟨Q.to j j.size,fun a e J=>?_,p2,p3,p4⟩;obtain ⟨b,o,R,hb,_⟩:=Q.at_ J;rw[e] at R;cases R;exact ho b hb (HZ.out.2.2 x hx _ e J)
 have M:=hid r;have K3:=aNu r.hs rfl (r.rdFl' rfl).row rfl ω;clear K2 F G L p r nk nm q y B i;simp only[movC] at P;rw[n] at K3;go_wp2_with fail;rw[<-P];refine K3.mono ?_;rintro e w4 ⟨A4,c4,l4,rfl,r4,S,rfl,nq⟩;have O:=hid (M.out.below S);have K4:=aGx (by rw[az];omega) r4;rw[az] at K4 ⊢;rw[<-n];clear K3 S M r4 nq H nj P W n E;go_wp2_with fail;refine K4.mono ?_;rintro e w5 ⟨rfl,T⟩;have s:=hid (O.out.below T);have h:=s.out.bel;have K5:=aWv (by unfold maxLen;omega) (hL.to h) (K.out.to h h.size);clear K4 T O h
 cases hr:rightP (l.map FLV.parent) with
 | false=>
  rw[hr,eT,eT] at d;clear hr K5;go_wp2;go_ret;exact ⟨s.out.bel,by rw[d.out];rfl⟩
 | true=>
  rw[hr,db] at d;clear hr;go_wp2_with fail;refine K5.mono ?_;rintro e w6 ⟨rfl,U⟩;have t:=hid (s.out.below U);have k:=t.out.bel;have K6:=bHz (N:=(l.length:Int)) (by unfold maxLen;omega) (v.out.to k k.size);clear K5 U s k
  cases ha:l.any fun f=>!treeOk f.files with
  | true=>
   rw[ha,jN,eT] at d;clear ha K6;go_wp2;go_ret;exact ⟨t.out.bel,by rw[d.out];rfl⟩
  | false=>
   rw[ha,iC,db] at d;clear ha;go_wp2_with fail;refine K6.mono ?_;rintro e w7 ⟨rfl,V⟩;have C:=hid (t.out.below V);clear K6 V t
   cases hk:rightM (l.length:Int) ms with
   | false=>
    rw[hk] at d;clear hk;go_wp2;go_ret;exact ⟨C.out.bel,by rw[d.out];rfl⟩
   | true=>
    rw[hk] at d;clear hk;go_wp2;go_ret;exact ⟨C.out.bel,by rw[d.out];exact ⟨mb,_,_,rfl,C.out⟩⟩
def MovedIs (Z:List Nat)(B:Nat)(r:MR×Int)(w:World)(e:Ending) (w':World):Prop:=
 Below w.heap.size w w'/\∃(AN AK AF AC:Option Addr) (cn ck cf cc:Nat) (nl:List FLV) (kl:List MV),nl.map FLV.pl=r.1.new/\kl.map MV.pl=r.1.marks/\
  e=.returned (.tuple #[.agg #[.slice AN nl.length cn,.slice AK kl.length ck,.int .i64 r.1.commit,.slice AF r.1.files.length cf,.slice AC r.1.clashes.length cc],.int .i64 r.2])/\
  RdFl w' w'.heap.size AN nl.length cn nl/\RdM w' w'.heap.size AK kl.length ck kl/\RdF w' w'.heap.size AF r.1.files.length cf r.1.files/\Rd w' w'.heap.size 3 AC r.1.clashes.length cc (r.1.clashes.flatMap CL.cells)/\
  (∀a,AN=some a->B<=a.block)/\(∀a,AK=some a->B<=a.block)/\(∀a,AF=some a->B<=a.block)/\(∀a,AC=some a->B<=a.block)/\
  (∀f∈nl,∀a,f.A=some a->0<f.files.length->a.block∉Z)/\∀m∈kl,∀a,m.A=some a->0<m.new.length->a.block∉Z
theorem RdM.none_(w:World)(B:Nat):RdM w B none 0 0 []:=⟨Rd.none_ _ _ _,rfl,fun _ h=>by cases h⟩
theorem aLp {k:Int}(a:Below w.heap.size w w'):MovedIs Z B (noMR,k) w (.returned (.tuple #[.agg #[.slice none 0 0,.slice none 0 0,.int .i64 0,.slice none 0 0,.slice none 0 0],.int .i64 k])) w':=
 ⟨a,none,none,none,none,0,0,0,0,[],[],rfl,rfl,rfl,RdFl.none_ _ _,RdM.none_ _ _,RdF.none_ _ _,Rd.none_ _ _ _,(fun _ h=>by cases h),(fun _ h=>by cases h),(fun _ h=>by cases h),(fun _ h=>by cases h),(fun _ h=>by cases h),fun _ h=>by cases h⟩
theorem aDh:(prog.info? 32).map (·.size)=some 5:=T
theorem aYb {mv:Value}{b:Bool}{k:Int}(c:k≠0) :
  Calls prog 37 #[mv,.bool b,.int .i64 k] w (MovedIs Z B (noMR,k) w):=by
 have e:(k != 0)=true:=by simpa using c
 have d:Below w.heap.size w (w.alloc (.cells #[.slice none 0 0,.slice none 0 0,.int .i64 0,.slice none 0 0,.slice none 0 0] 32)):=(Below.refl _ _).alloc (aa _) _;have a:(w.alloc (.cells #[.slice none 0 0,.slice none 0 0,.int .i64 0,.slice none 0 0,.slice none 0 0] 32)).heap[w.heap.size]? = some (.cells #[.slice none 0 0,.slice none 0 0,.int .i64 0,.slice none 0 0,.slice none 0 0] 32 (0,0)):=au _ _;have f:=aKb (w.alloc (.cells #[.slice none 0 0,.slice none 0 0,.int .i64 0,.slice none 0 0,.slice none 0 0] 32));clear c;go_enter mW,mj;go_wp2_with (refine bJ rfl 32 (.tmp 6) (.tmp 11) rfl w.heap.size #[.slice none 0 0,.slice none 0 0,.int .i64 0,.slice none 0 0,.slice none 0 0] rfl rfl _ _ a aDh rfl (by simp[Value.oneCell']) ?_)
 try simp only[Exit.inBlock,Exit.then]
 refine bz (aAm rfl _ _ w.heap.size _ _ (0,0) _ rfl (bB _ _ _ _ _ _ a) gC rfl aDh) rfl ?_;exact aLp (aAj d (aa _))
theorem aRk {r:MR×Int}{D:Ending}(h:StopIs w0 mb r D w)(n:r.2=0) :
  Calls prog 37 #[.pointer (some ⟨mb,0,none⟩),.bool false,.int .i64 0] w (MovedIs Z w0.heap.size r w):=by
 obtain ⟨_,_,_,q⟩:=h;obtain ⟨a,b,K,E,S,A,C,k,j,s,t,f,l,m,g,i⟩:=q n;obtain ⟨⟨x1,x2,u,v,x⟩,L⟩:=r;dsimp only at s t f l m n;subst s t n;have o:Below w.heap.size w (w.alloc (.cells #[.slice none 0 0,.slice none 0 0,.int .i64 0,.slice none 0 0,.slice none 0 0] 32)):=(Below.refl _ _).alloc (aa _) _;have e:(w.alloc (.cells #[.slice none 0 0,.slice none 0 0,.int .i64 0,.slice none 0 0,.slice none 0 0] 32)).heap[w.heap.size]? = some (.cells #[.slice none 0 0,.slice none 0 0,.int .i64 0,.slice none 0 0,.slice none 0 0] 32 (0,0)):=au _ _;have c:=(o.block mb (aAa f)).trans f;have F:=bd _ _ 5 _ _ _ c;have G:=bd _ _ 6 _ _ _ c;have H:=bd _ _ 7 _ _ _ c;have I:=bd _ _ 8 _ _ _ c;have J:=bd _ _ 9 _ _ _ c;have y:=hid l;have z:=hid m;have p:=hid (And.intro g i);have B:=aAa f;clear l m f c q g i;go_enter mW,mj;go_wp2_with (refine bJ rfl 32 (.tmp 6) (.tmp 19) rfl w.heap.size #[.slice none 0 0,.slice none 0 0,.int .i64 u,.slice A v.length k,.slice C x.length j] rfl rfl _ _ e aDh rfl (by simp[Value.oneCell']) ?_)
 try simp only[Exit.inBlock,Exit.then]
 refine bz (aAm rfl _ _ w.heap.size _ _ (0,0) _ rfl (bB _ _ _ _ _ _ e) gC rfl aDh) rfl ?_;have d:=aAj (cs:=#[.slice none 0 0,.slice none 0 0,.int .i64 u,.slice A v.length k,.slice C x.length j]) o (aa _);exact ⟨d,none,none,A,C,0,0,k,j,[],[],rfl,rfl,rfl,RdFl.none_ _ _,RdM.none_ _ _,y.out.to d d.size,z.out.to d d.size,(fun _ h=>by cases h),(fun _ h=>by cases h),p.out.1,p.out.2,(fun _ h=>by cases h),fun _ h=>by cases h⟩
theorem bDx(a b:Option Addr)(c d e f:Nat)(x:Int)(w:World):(Instr.build 32 #[(0,.slice a c d),(1,.slice b e f),(2,.int .i64 x)]).run prog w=.ok (.agg #[.slice a c d,.slice b e f,.int .i64 x,.slice none 0 0,.slice none 0 0]) w:=by
 go_simp
theorem bGc {α:Type}{f:α->List Value}(b:∀a,(f a).length=sz){w:World}{B n c l:Nat}{A:Option Addr}{xs:List α}(h:Rd w B sz A n c (xs.flatMap f))(e:xs.length=n)(d:l<=n) :
  ∃A',sliced A l n c sz=.slice A' (n-l) (c-l)/\Rd w B sz A' (n-l) (c-l) ((xs.drop l).flatMap f):=by
 refine ⟨_,rfl,?_⟩;have:=h.cut d (aa n);rw[T.flat_take b,T.flat_drop b,ai O] at this;exact this
theorem bDc {sv:Value}(h:Mov Z w0 w mb E S sv fv kv fl ms)(hE:E<=fl.length)(hS:S<=ms.length)(nF:fl.length<=1000000)(nG:ms.length<=1000000) :
  Calls prog 37 #[.pointer (some ⟨mb,0,none⟩),.bool true,.int .i64 0] w (MovedIs Z w0.heap.size (⟨(fl.map FLV.pl).drop E,(ms.map MV.pl).drop S,-1,[],[]⟩,0) w):=by
 obtain ⟨A,c,nA,D⟩:=h.rdFl;obtain ⟨AK,ck,nB,F⟩:=h.rdM;subst nA nB;obtain ⟨W,eW⟩:∃W,W=w.alloc (.cells #[.slice none 0 0,.slice none 0 0,.int .i64 0,.slice none 0 0,.slice none 0 0] 32):=⟨_,rfl⟩;have hb:Below w.heap.size w W:=by rw[eW];exact (Below.refl _ _).alloc (aa _) _
 have t:W.heap[w.heap.size]? = some (.cells #[.slice none 0 0,.slice none 0 0,.int .i64 0,.slice none 0 0,.slice none 0 0] 32 (0,0)):=by rw[eW];exact au _ _
 have HB:=hid hb;have d:=hid t;have v:=hid h.hs;have K:=h.bel.size;have L:=hid (And.intro h.pf h.pk);obtain ⟨A1,nC,R⟩:=bGc FLV.cells_len D.row rfl hE;obtain ⟨A2,nD,V⟩:=bGc MV.cells_len F.row rfl hS;have ff:=hid R;have nj:=hid V;have nk:=hid D.parts;have nm:=hid F.parts;clear h D F hb t R V;go_enter mW,mj;go_wp2;rw[<-eW];clear eW;refine aAe (fun u=>Below w.heap.size w u) [(true,0),(true,1),(true,2),(true,3),(true,4),(true,5),(true,6),(true,7),(true,8),(true,10),(true,11),(true,12),(true,13),(true,14),(true,15),(true,16),(true,17),(true,18),(false,9),(false,19),(false,20),(false,21),(true,22)] mixed κ HB.out.drew ?_;intro T M Q Y nE hM hQ;have m0:M ⟨mb,0,none⟩=some (.slice A fl.length c):=hM _ _ fun w' G=>(G.cell (p:=⟨mb,0,none⟩) (aAa v.out)).trans (by rw[ab v.out];rfl);have m1:M ⟨mb,1,none⟩=some (.slice AK ms.length ck):=hM _ _ fun w' G=>(G.cell (p:=⟨mb,1,none⟩) (aAa v.out)).trans (by rw[ab v.out];rfl);have m2:M ⟨mb,2,none⟩=some (.int .i64 E):=hM _ _ fun w' G=>(G.cell (p:=⟨mb,2,none⟩) (aAa v.out)).trans (by rw[ab v.out];rfl);have m3:M ⟨mb,3,none⟩=some (.int .i64 S):=hM _ _ fun w' G=>(G.cell (p:=⟨mb,3,none⟩) (aAa v.out)).trans (by rw[ab v.out];rfl);clear hM;simp only[qcmp];simp (maxSteps:=9^7) only[↓qpre,aAb,aAg,aAc,m0,m1,m2,m3];clear m0 m1 m2 m3;rw[nC,nD];refine ⟨⟨ω,ω⟩,⟨ω,ω⟩,?_⟩;have H:Below w.heap.size w W.drew:=HB.out.drew;have i:Below W.heap.size W W.drew:=(Below.refl _ _).drew;refine aAh κ (aMy ω (ff.out.to H H.size) (aEi _)) rfl rfl ?_;rintro e w1 ⟨v1,rfl,l,n⟩;obtain ⟨I,c3,rfl,x⟩:=aAd l
 have b:Below w.heap.size w w1:=H.trans (n.mono H.size);refine ⟨_,rfl,Y _ b,?_⟩;simp (maxSteps:=9^7) only[aAb,aAc];refine aAh κ (aNq ω (nj.out.to b b.size) (aOu _)) rfl rfl ?_;rintro e w2 ⟨v2,rfl,o,r⟩;obtain ⟨J,c4,rfl,y⟩:=aAd o;have q:Below w.heap.size w w2:=b.trans (r.mono b.size);refine ⟨_,rfl,Y _ q,?_⟩;simp (maxSteps:=9^7) only[aAb,aAc];refine aBo rfl (bDx _ _ _ _ _ _ _ _) ⟨Y _ q,?_⟩;simp (maxSteps:=9^7) only[aAb,aAc]
 have z:w2.heap[w.heap.size]? = some (.cells #[.slice none 0 0,.slice none 0 0,.int .i64 0,.slice none 0 0,.slice none 0 0] 32 (0,0)):=
  (r.block _ (ag (aAa d.out) (aw i.size n.size))).trans ((n.block _ (ag (aAa d.out) i.size)).trans d.out)
 have B:=aAj (cs:=#[.slice I (fl.length-E) c3,.slice J (ms.length-S) c4,.int .i64 (-1),.slice none 0 0,.slice none 0 0]) q (aa _);refine aAp (cells:=#[.slice I (fl.length-E) c3,.slice J (ms.length-S) c4,.int .i64 (-1),.slice none 0 0,.slice none 0 0]) rfl rfl z aDh rfl (by simp[Value.oneCell']) ⟨Y _ B,?_⟩;simp (maxSteps:=9^7) only[↓qpre,aAb,aAc];refine hQ _ _ ?_;have N:∀g,g<w.heap.size->g∉[w.heap.size]:=fun g hg e=>by rw[aS.1 e] at hg;exact cG _ hg
 have C:HStay [w.heap.size] w2 (w2.setRow w.heap.size #[.slice I (fl.length-E) c3,.slice J (ms.length-S) c4,.int .i64 (-1),.slice none 0 0,.slice none 0 0]):=⟨by simp[World.setRow],fun k _ hx=>dA _ _ _ _ (fun e=>hx (by rw[e];simp))⟩;have nq:w.heap.size<w1.heap.size:=ag (aAa d.out) (aw i.size n.size)
 have O:=aBq (X:=[w.heap.size]) (Rd.of_own (aAf l r) x) (fun a e _ s=>by
  have h1:=aFw l a e;have h2:=ag (aAa d.out) i.size;rw[aS.1 s] at h1;omega) C.keeps
 have P:=aBq (X:=[w.heap.size]) (Rd.of_own o y) (fun a e _ s=>by
  have h1:=aFw o a e;rw[aS.1 s] at h1;omega) C.keeps
 have nr:=hid O;have ns:=hid (fun a (e:I=some a)=>aw (aw K H.size) (aFw l a e));have nu:=hid (fun a (e:J=some a)=>aw (aw K b.size) (aFw o a e));have nw:=hid P;have j:=hid B;have nz:=hid (bB _ _ _ #[.slice I (fl.length-E) c3,.slice J (ms.length-S) c4,.int .i64 (-1),.slice none 0 0,.slice none 0 0] _ _ z);clear hQ Y nE H i l n b o r q z B N C nq O P x y;clear T M Q;generalize World.setRow _ _ _=U at *;go_wp2;refine bz (aAm rfl _ _ w.heap.size _ _ (0,0) _ rfl nz.out gC rfl aDh) rfl ?_;have l1:(fl.drop E).length=fl.length-E:=aN;have l2:(ms.drop S).length=ms.length-S:=aN;refine ⟨j.out,I,J,none,none,c3,c4,0,0,fl.drop E,ms.drop S,by rw[eO],by rw[eO],by rw[l1,l2];rfl,⟨by rw[l1];exact nr.out,rfl,fun f hf=>?_⟩,⟨by rw[l2];exact nw.out,rfl,fun m s=>?_⟩,RdF.none_ _ _,Rd.none_ _ _ _,ns.out,nu.out,(fun _ h=>by cases h),(fun _ h=>by cases h),(fun f hf a e hn s=>(L.out.1 f (eh hf)).files.2 a e hn (aBw.2 (.inr (.inr (.inr s))))),fun m hx a e hn s=>(L.out.2 m (eh hx)).off a e hn (aBw.2 (.inr (.inr (.inr s))))⟩
 ·obtain ⟨p1,p2⟩:=nk.out f (eh hf)
  exact ⟨p1.to j.out j.out.size,p2⟩
 obtain ⟨p1,p2⟩:=nm.out m (eh s);exact ⟨p1.to j.out j.out.size,p2⟩
theorem wideM:(match prog.underlying 125 with | some (.array _ _) | some (.struct _)=>true | _=>false)=true:=T
theorem KMv:Maps.Keyed prog 125:=gw (iL T.laidOut (m:=2) O (aP κ) κ wideM)
theorem bMk {x:Int}(h:I64 x):(Lit.int .i64 x).wf=true:=by
 obtain ⟨a,b⟩:=h;simp[Lit.wf,bIk];omega
def klM (x:Int):Lit:=.string (keyBytes [.int .i64 x])
theorem bJv {P: Program}{t e: TypeId}{f: Field} (j : P.underlying t = some (.struct #[f])) (c : f.type = e) (d : f.offset = 0) (g : (f.name != "_") = true) (b : P.cellsOf t = 1) (h : P.cellsOf e = 1)
  (i:P.underlying e=some (.int .i64)) (o:P.keyType t=true) (q:0<P.types.size) {x:Int} (p:(Lit.int .i64 x).wf=true):keyOf P t (.agg #[.int .i64 x])=some (klM x):=by
 obtain ⟨k,n⟩:∃k,P.types.size=k+1:=⟨P.types.size-1,O⟩;have l:P.keyLits (k+1) e [.int .i64 x]=some [.int .i64 x]:=by simp[Program.keyLits,i,p]
 have m:P.keyLits (k+1+1) t [.int .i64 x]=some [.int .i64 x]:=by
  unfold Program.keyLits;simp only[j];have a : ¬ f.name = "_" := by simpa using g
  simp[b,c,d,h,l,a]
 simp[keyOf,j,o,Value.formed,b,Value.cells,n,m,klM]
theorem bEo:prog.keyType 125=true:=T
theorem cellsM:prog.cellsOf 125=1:=T
theorem keyM {x:Int}(h:I64 x):keyOf prog 125 (.agg #[.int .i64 x])=some (klM x):=
 bJv Tryz.underlying125 rfl rfl rfl cellsM aNm bw bEo T.types_pos (bMk h)
theorem bLf {x y:Int}(b:I64 x)(c:I64 y)(h:x≠y):klM x≠klM y:=fun e=>by
 have a:=keyM b;rw[e] at a;have:=KMv.inj a (keyM c);simp at this;exact h this
theorem aRa(x:Int)(w:World):(Instr.build 125 #[(0,.int .i64 x)]).run prog w=.ok (.agg #[.int .i64 x]) w:=by
 go_simp
structure MpM (w:World) (b n:Nat) (D:DataW Value) (F:Int->Option Int):Prop where
 own:w.ownsMap prog 125 Rv b n D
 at_:∀x:Int,I64 x->D.atKey (klM x) (.held (.int .i64 0))=.held (.int .i64 ((F x).getD 0))
 has:∀x:Int,I64 x->Maps.has D (klM x)=(F x).isSome
theorem MpM.start(w:World):MpM (w.alloc (.map #[] 0)) w.heap.size 0 (.map []) (fun _=>none):=
 ⟨dB _ _ _ _,fun _x _=>rfl,fun _x _=>rfl⟩
theorem MpM.put {F':Int->Option Int}{k v:Int}(h:MpM w b n D F)(d:I64 k)
  (c:w'.ownsMap prog 125 Rv b (n+1) (D.put (klM k) (.held (.int .i64 v)))) (f:∀x,F' x=if x=k then some v else F x) :
  MpM w' b (n+1) (D.put (klM k) (.held (.int .i64 v))) F':=by
 refine ⟨c,fun x a=>?_,fun x a=>?_⟩
 ·by_cases e:x=k
  ·subst e
   rw[dw h.own.isMap (KMv.key (keyM d)),f,ao rfl];rfl
  rw[dp (bLf a d e),h.at_ x a,f,ah e]
 by_cases e:x=k
 ·subst e
  rw[dQ h.own.isMap (KMv.key (keyM d)),f,ao rfl];rfl
 rw[dC (bLf a d e),h.has x a,f,ah e]
theorem MpM.same(h:MpM w b n D F)(i:w'.heap[b]? = w.heap[b]?):MpM w' b n D F:=by
 obtain ⟨⟨es,a,d,F,c,e⟩,f,g⟩:=h;exact ⟨⟨es,a,i.trans d,F,c,e⟩,f,g⟩
theorem MpM.block(h:MpM w b n D F):∃es ck,w.heap[b]? = some (.map es ck):=by
 obtain ⟨⟨es,a,c,_⟩,_⟩:=h;exact ⟨es,a,c⟩
theorem MpM.look(h:MpM w b n D F){x:Int}(c:I64 x) :
  (Instr.lookup 122 (.map (some b)) (.agg #[.int .i64 x]) true).run prog w=.ok (.tuple #[.int .i64 ((F x).getD 0),.bool (F x).isSome]) w:=by
 obtain ⟨v,ps,a,d⟩:=h.own.look_ok KMv lE (bS w) (show Rv (.int .i64 0)=some (.held (.int .i64 0),[]) from rfl) (keyM c);rw[h.at_ x c] at d;rw[h.has x c] at a
 have:v=.int .i64 ((F x).getD 0):=by
  have e:(DataW.held v:DataW Value)=.held (.int .i64 ((F x).getD 0)):=by
   have:=d;simp only[Rv,dy,fY] at this;exact this.1
  exact aHf e
 rw[this] at a;exact a
theorem aOa {xs:List Value}{es:Array MapEntry}(h:Rd w B sz A n c xs)(f:0<xs.length)(l:w.heap[b]? = some (.map es ck)):∀a,A=some a->a.block≠b:=by
 intro a e g
 have j:0<n:=by
  rcases cV n with d | d
  ·rw[h.len,d,ed] at f;exact absurd f (cG _)
  exact d
 obtain ⟨m,o,i,_,k⟩:=h.at_ j;rw[e] at i
 cases i
 have d:=k 0 _ (ac f);unfold World.cell? at d;dsimp only at d g;rw[g,l] at d
 cases d
def ROff (w:World)(X:List Nat)(A:Option Addr)(n c:Nat)(l:List Int):Prop:=Rd w w.heap.size 1 A n c (l.map (.int .i64))/\∀a,A=some a->0<n->a.block∉X
theorem ROff.keep(h:ROff w X A n c l)(a:HStay X w w'):ROff w' X A n c l:=⟨aBq h.1 h.2 a.keeps,h.2⟩
theorem ROff.less {Y:List Nat}(h:ROff w X A n c l)(a:∀b∈Y,b∈X\/w.heap.size<=b):ROff w Y A n c l:=⟨h.1,aMq h.1 h.2 a⟩
theorem ROff.next {Y:List Nat}(h:ROff w X A n c l)(a:HStay X w w')(b:∀g∈Y,g∈X\/w.heap.size<=g):ROff w' Y A n c l:=⟨aBq h.1 h.2 a.keeps,aMq h.1 h.2 b⟩
theorem Mov.offMap {q:Value}(h:Mov Z w0 w mb E S q fv kv fl ms){b:Nat}{es:Array MapEntry}{ck:Nat}(o:w.heap[b]? = some (.map es ck)):Off w (b::Xs Z mb fv kv) fl ms:=by
 refine ⟨fun f p=>?_,fun m g=>?_⟩
 ·obtain ⟨⟨c,i⟩,j,k,l⟩:=h.pf f p
  refine ⟨⟨c,fun a e n g=>?_⟩,j,k,l⟩;rcases ax.1 g with d | d
  ·exact aOa c.row (by rw[c.row.len];omega) o a e d
  exact i a e n d
 obtain ⟨c,i,j,k,l⟩:=h.pk m g;refine ⟨c,fun a e n g=>?_,j,k,l⟩;rcases ax.1 g with d | d
 ·exact aOa c (by rw[c.len];omega) o a e d
 exact i a e n d
theorem ROff.map(h:ROff w X A n c l){b:Nat}{es:Array MapEntry}{ck:Nat}(i:w.heap[b]? = some (.map es ck)):ROff w (b::X) A n c l:=
 ⟨h.1,fun a e f g=>by
  rcases ax.1 g with d | d
  ·exact aOa h.1 (by rw[h.1.len];omega) i a e d
  exact h.2 a e f d⟩
def MvAll (Z:List Nat)(w0:World)(mb E S:Nat)(sv:Value)(n:Nat)(ms:List MV)(r:Except (MR×Int) (List FL×List (Int×List Int)))(e:Ending) (w':World):Prop:=
 match r with
 | .error x=>StopIs w0 mb x e w'
 | .ok (l',k)=>e=.returned (.tuple #[.bool true,.int .i64 0])/\∃(fv' kv':Value) (fl':List FLV) (ms':List MV),fl'.map FLV.pl=l'/\ms'.map MV.pl=ms.map MV.pl++k/\Mov Z w0 w' mb E S sv fv' kv' fl' ms'/\n<=fl'.length/\fl'.length<=2*n/\ms'.length<=ms.length+n
theorem bIv {m:List Int}{c:Int}(a:0<=c)(b:c<l.length):par (l++m) c=par l c:=by
 unfold par;rw[aZ O]
structure AllAt (s:List SettL) (dest:Int) (fl:List FLV) (ms:List MV) (lv:List Int) (k:Nat) (fl':List FLV) (ms':List MV) (now:List (Int×Int)) (kk:List (Int×List Int)):Prop where
 run:runF' s (parF (fl.map FLV.pl)) dest lv [] (fl.map FLV.pl) []=runF' s (parF (fl.map FLV.pl)) dest (lv.drop k) now (fl'.map FLV.pl) kk
 len:fl'.length=fl.length+k
 mlen:ms'.length=ms.length+k
 mks:ms'.map MV.pl=ms.map MV.pl++kk
 pre:∃t,fl'=fl++t
 now:∀p v,now.lookup p=some v->0<=v/\v<fl'.length
theorem AllAt.start(s:List SettL)(dest:Int)(fl:List FLV)(ms:List MV)(lv:List Int):AllAt s dest fl ms lv 0 fl ms [] []:=
 ⟨by rw[fB],rfl,rfl,(aR _).symm,⟨[],(aR _).symm⟩,fun p v h=>by cases h⟩
theorem AllAt.stop {k:Nat}{a:List (Int×Int)}(h:AllAt s dest fl ms lv k fl' ms' a kk){c:Int}(d:lv[k]? = some c){x:MR×Int}
  (f:oneOn s (fl'.map FLV.pl) c (nowF a dest (par (parF (fl.map FLV.pl)) c))=.error x):runF' s (parF (fl.map FLV.pl)) dest lv [] (fl.map FLV.pl) []=.error x:=by
 obtain ⟨b,e⟩:=aj.1 d;rw[h.run,bp b,e,runF',f]
theorem AllAt.next {k:Nat}{a:List (Int×Int)}(h:AllAt s dest fl ms lv k fl' ms' a kk){c:Int}(l:lv[k]? = some c){f:FLV}{m:MV} {g:List FL}
  (n:oneOn s (fl'.map FLV.pl) c (nowF a dest (par (parF (fl.map FLV.pl)) c))=.ok g) (o:g=fl'.map FLV.pl++[f.pl]) (q:m.old=c) (d:m.new=[(fl'.length:Int)]) :
  AllAt s dest fl ms lv (k+1) (fl'++[f]) (ms'++[m]) ((c,(fl'.length:Int))::a) (kk++[(c,[(fl'.length:Int)])]):=by
 obtain ⟨i,e⟩:=aj.1 l;obtain ⟨t,j⟩:=h.pre;refine ⟨?_,by rw[ae,h.len];rfl,by rw[ae,h.mlen];rfl,?_,⟨t++[f],by rw[j,aH]⟩,fun p v b=>?_⟩
 ·rw[h.run,bp i,e,runF',n]
  dsimp only;rw[o,aM,az];rfl
 ·rw[aM,h.mks,aH]
  simp[MV.pl,q,d]
 rw[ae,bf];rw[jV] at b;split at b
 ·injection b with b;omega
 have:=h.now p v b;omega
theorem AllAt.par {k:Nat}{a:List (Int×Int)}(h:AllAt s dest fl ms lv k fl' ms' a kk){c:Int}(d:0<=c)(e:c<fl.length):par (parF (fl'.map FLV.pl)) c=par (parF (fl.map FLV.pl)) c:=by
 obtain ⟨t,b⟩:=h.pre;rw[b,aM];unfold parF;rw[aM];exact bIv d (by simpa using e)
theorem aDj(fl:List FLV):(parF (fl.map FLV.pl)).length=fl.length:=by unfold parF;simp
theorem bJi(fl:List FLV):parF (fl.map FLV.pl)=fl.map FLV.parent:=by unfold parF;rw[iA];rfl
theorem bKs {source:Int}(hL:Lm w0)(h:Mov Z w0 w mb E S (.slice SA n sc) fv kv fl ms)(oM:fl.length<=2000)(oN:ms.length<=50000)
  (hn:n<=maxLen) (hs:RdS w0 w0.heap.size SA n sc sl) (hr:rightP (parF (fl.map FLV.pl))=true) (oO:0<=source) (oP:source<fl.length) (oD:-1<=dest) (oQ:dest<fl.length) :
  Calls prog 38 #[.pointer (some ⟨mb,0,none⟩),.int .i64 source,.int .i64 dest] w (MvAll Z w0 mb E S (.slice SA n sc) fl.length ms (allF (sl.map STV.pl) (moved (parF (fl.map FLV.pl)) ms source) (fl.map FLV.pl) source dest)):=by
 have oF:=@run_makeMap prog;obtain ⟨A,ca,I,T⟩:=h.rdFl;have HM:=hid h;have HR:=hid hr;have HS:=hid hs;have od:=hid hn
 have nH:allF (sl.map STV.pl) (moved (parF (fl.map FLV.pl)) ms source) (fl.map FLV.pl) source dest=if above (parF (fl.map FLV.pl)) source dest=true then .error (noMR,23)
  else if par (parF (fl.map FLV.pl)) source=dest then .error (noMR,14) else runF' (sl.map STV.pl) (parF (fl.map FLV.pl)) dest (moved (parF (fl.map FLV.pl)) ms source) [] (fl.map FLV.pl) []:=rfl
 have i:=hid nH;have K1:=aNu h.hs (show (movC fv kv E S (.slice SA n sc))[0]? = some (.slice A fl.length ca) by rw[I];rfl) T.row rfl ω;rw[<-bJi] at K1;clear h T I hr hs hn nH;go_enter Tryz.func38,Tryz.ntmps38;go_wp2_with fail;refine K1.mono ?_;rintro e w1 ⟨A4,c4,l4,rfl,r4,nT,rfl,nU⟩;have nI:=hid (HM.out.below nT);rw[aDj] at r4 ⊢
 have G:=hid (show ROff w1 (Xs Z mb fv kv) A4 fl.length c4 (parF (fl.map FLV.pl)) from ⟨r4,fun a e _ hm=>by
  rcases nU a e with ⟨_,h⟩ | h
  ·exact absurd h (cG _)
  exact HM.out.new h hm⟩)
 have K2:=bCb (l:=parF (fl.map FLV.pl)) (a:=source) (b:=dest) (by rw[aDj];omega) (by rw[aDj];exact r4);rw[aDj] at K2;clear K1 nT nU r4;go_wp2_with fail;refine K2.mono ?_;rintro e w2 ⟨rfl,nD⟩;have y:=hid (nI.out.below nD);have nr:=hid (G.out.keep (HStay.of_below nD));clear K2 nD nI G
 cases ha:above (parF (fl.map FLV.pl)) source dest with
 | true=>
  rw[ao ha] at i;clear ha;go_wp2;go_ret2;rw[i.out];exact ⟨y.out.bel,rfl,fun _=>rfl,fun e=>absurd e (by decide)⟩
 | false=>
  rw[ah (by rw[ha];decide)] at i;clear ha;obtain ⟨s',rfl⟩:∃k:Nat,source=(k:Int):=⟨source.toNat,ω⟩;obtain ⟨b4,o4,p4,nE,J,L,g4⟩:=Rd.int_ nr.out.1 (k:=s') ω;subst nE;have ns:=hid (aIf L);clear L;by_cases O:p4=dest
  case pos=>
   have HD:=hid (show par (parF (fl.map FLV.pl)) (s':Int)=dest from ns.out.trans O);rw[ao HD.out] at i;subst O;go_wp2;go_ret2;rw[i.out];exact ⟨y.out.bel,rfl,fun _=>rfl,fun e=>absurd e (by decide)⟩
  obtain ⟨oA,oB⟩:=aEs O;rw[ah (by rw[ns.out];exact O)] at i;obtain ⟨W,eW⟩:∃W,W=w2.alloc (.map #[] 0):=⟨_,rfl⟩;obtain ⟨b,eb⟩:∃b,b=w2.heap.size:=⟨_,rfl⟩;have nu:Below w2.heap.size w2 W:=by rw[eW];exact (Below.refl _ _).alloc (aa _) _
  have z:=hid (y.out.below nu);have nw:=hid (nr.out.keep (HStay.of_below nu));have nz:=hid (show MpM W b 0 (.map []) (fun _=>none) by rw[eW,eb];exact MpM.start w2);have nJ:=hid (show b∉Xs Z mb fv kv from by rw[eb];exact y.out.new (aa _));have oe:=hid (show w0.heap.size<=b by rw[eb];exact y.out.bel.size);obtain ⟨AK,ck,nV,nW⟩:=z.out.rdM;have g1:W.cell? ⟨mb,1,none⟩=some (.slice AK ms.length ck):=by rw[ab z.out.hs,<-nV];rfl
  have Q:=aAa z.out.hs;have K5:=bFb (l:=parF (fl.map FLV.pl)) (s:=(s':Int)) (by rw[aDj];omega) (by rw[aDj];exact nw.out.1) (by unfold maxLen;omega) nW;rw[aDj] at K5;clear nV nW nu y nr O;rw[eW] at g1 Q K5;go_wp2_with fail;rw[<-eW] at K5 ⊢;rw[<-eb];clear g1 Q eW eb;refine K5.mono ?_;rintro e w4 ⟨A5,c5,lv,rfl,r5,U,V,nX⟩
  have oh:=hid (show ∀c∈lv,0<=c/\c<fl.length from fun c hc=>by
   rw[V] at hc;obtain ⟨⟨_,h1,_⟩,h2,h3,_⟩:=aGd.1 hc;rw[aDj] at h3;exact ⟨ω,h3⟩)
  have oG:lv.length<=fl.length:=by
   rw[V];unfold moved;split
   ·rw[aDj];exact aIc _ _ _ _
   exact al _
  replace i:=hid (i.out.trans (show _=runF' (sl.map STV.pl) (parF (fl.map FLV.pl)) dest lv [] (fl.map FLV.pl) [] by rw[V]));have nK:=hid (z.out.below U);have G:=hid (nw.out.keep (HStay.of_below U));have nL:=hid (nz.out.same (U.block b (by obtain ⟨es,cq,h⟩:=nz.out.block;exact aAa h)))
  have nM:=hid (show ROff w4 (Xs Z mb fv kv) A5 lv.length c5 lv from ⟨r5,fun a e _ hm=>by
   rcases nX a e with ⟨_,h⟩ | h
   ·exact absurd h (cG _)
   exact z.out.new h hm⟩)
  have nN:=hid (AllAt.start (sl.map STV.pl) dest fl ms lv);clear K5 r5 U nX V z nw nz g4 oA oB ns W J;go_wp2
  go_loopw[39] (fun iv wr=>∃(k:Nat) (q t:Value) (fl':List FLV) (ms':List MV) (j:List (Int×Int)) (kk:List (Int×List Int)) (D:DataW Value),k<=lv.length/\iv=.int .i64 k/\Hid (Mov Z w0 wr mb E S (.slice SA n sc) q t fl' ms')/\Hid (MpM wr b k D (fun x=>j.lookup x))/\Hid (b∉Xs Z mb q t)/\
   Hid (ROff wr (Xs Z mb q t) (some ⟨b4,o4,none⟩) fl.length c4 (parF (fl.map FLV.pl)))/\Hid (ROff wr (Xs Z mb q t) A5 lv.length c5 lv)/\Hid (AllAt (sl.map STV.pl) dest fl ms lv k fl' ms' j kk)) (fun iv _=>lv.length-(intOf iv).toNat)
  case atStart=>exact ⟨0,fv,kv,fl,ms,[],[],.map [],al _,rfl,nK.out,nL.out,nJ.out,G.out,nM.out,nN.out⟩
  clear nK nL nJ G nM nN HM;obtain ⟨k,q,t,fl',ms',j,kk,D,hk,rfl,hM,hP,hX,X,Y,B⟩:=hrel;by_cases oE:k<lv.length
  ·obtain ⟨b5,o5,c,oC,nY,nF,g5⟩:=Rd.int_ Y.out.1 oE
   subst oC;obtain ⟨nZ,n5⟩:=oh.out c (aC nF);obtain ⟨u,rfl⟩:∃k:Nat,c=(k:Int):=⟨c.toNat,ω⟩;have HC:=hid nF;obtain ⟨oI,oJ,p,nE,J,L,g4⟩:=Rd.int_ X.out.1 (k:=u) ω
   cases nE
   have R:=hid (aIf L);have ol:-1<=p/\p<(u:Int):=(by rw[<-R.out];exact aBl HR.out ω (by rw[aDj];exact n5));obtain ⟨oK,oL⟩:=ol;have d:=hP.out.look (x:=p) (by unfold I64;omega);have oq:=aRa p wr;have ou:=aRa (u:Int) wr;obtain ⟨AF,cf,I,T⟩:=hM.out.rdFl;have g0:wr.cell? ⟨mb,0,none⟩=some (.slice AF fl'.length cf):=(by rw[ab hM.out.hs,<-I];rfl);have Q:=aAa hM.out.hs;have H:=hid B.out.len;have nO:=hid B.out.mlen;have oH:fl'.length<=4000:=(by have:=H.out;omega);clear nF L T I
   cases hq:j.lookup p
   case' none=>
    have nA:=hid (show nowF j dest p=dest by unfold nowF;rw[hq];rfl);have H0:=hid oD;have H1:=hid (show dest<fl'.length by have:=H.out;omega);obtain ⟨r,hO⟩:∃r,r=oneOn (sl.map STV.pl) (fl'.map FLV.pl) (u:Int) dest:=⟨_,rfl⟩;rw[hq] at d;simp only[gY,dr] at d
   case' some v=>
    have nA:=hid (show nowF j dest p=v by unfold nowF;rw[hq];rfl);have H0:=hid (show -1<=v by have:=(B.out.now p v hq).1;omega);have H1:=hid (B.out.now p v hq).2;obtain ⟨r,hO⟩:∃r,r=oneOn (sl.map STV.pl) (fl'.map FLV.pl) (u:Int) v:=⟨_,rfl⟩;rw[hq] at d;simp only[d8,da] at d
   all_goals
    have HX:=hid (show oneOn (sl.map STV.pl) (fl'.map FLV.pl) (u:Int) (nowF j dest (par (parF (fl.map FLV.pl)) u))=r by rw[R.out,nA.out];exact hO.symm);have K:=fun (w5:World) (h5:Mov Z w0 w5 mb E S (.slice SA n sc) q t fl' ms')=>bLu (c:=(u:Int)) hL h5 ω (by have:=nO.out;omega) od.out HS.out nZ (by have:=H.out;omega) (by rw[B.out.par nZ n5,R.out];have:=H.out;omega) H0.out H1.out;simp only[<-hO] at K;have HK:=hid K;clear K hO hq;go_wp2_with (at_mapUpdate;refine gN _ rfl _ _ _ 122 rfl 125 3 KMv lE Rv b k D rfl hP.out.own (by unfold maxLen;omega) _ _ _ rfl rfl (keyM (x:=(u:Int)) (by unfold I64;omega)) _ [] rfl ?_;intro w5 M nG);obtain ⟨es,cq,N⟩:=hP.out.block;have nP:=hM.out.setOther nG hX.out oe.out (hM.out.offMap N);have o:HStay (b::Xs Z mb q t) wr w5:=HStay.grown nG fun g e=>by injection e with e;rw[e];exact bu ..
    have nQ:=hid (hP.out.put (F':=fun x=>List.lookup x (((u:Int),(fl'.length:Int))::j)) (by unfold I64;omega) M (fun x=>by
     rw[jV];by_cases e:x=(u:Int)
     ·subst e;simp
     rw[ah e,show (x == (u:Int))=false by simpa using e]))
    have nk:=hid ((X.out.map N).keep o);have nm:=hid ((Y.out.map N).keep o);have ow:=hid o.1;have nB:=hid (show b<w5.heap.size from ag (aAa N) o.1);refine (HK.out w5 nP).mono ?_;rintro e w6 nq;clear nP o M nG N d oq ou g0 Q hP X Y HK hM g4 g5 J nY R nA H0 H1
    cases r with
    | error x=>
     obtain ⟨h1,rfl,h3,h4⟩:=nq;have P:=hid (And.intro h1 (And.intro h3 h4));clear h1 h3 h4;go_wp2;go_ret2;rw[i.out,B.out.stop HC.out HX.out];exact ⟨P.out.1,rfl,P.out.2.1,P.out.2.2⟩
    | ok l'=>
     obtain ⟨rfl,C,F,f,m,hl,hm,n7,n8,ff,nj⟩:=nq
     have nR:b∉Xs Z mb C F:=fun e=>by
      rcases nj b e with h | h
      ·exact hX.out h
      have:=nB.out;omega
     have P:=hid (show Hid (Mov Z w0 w6 mb E S (.slice SA n sc) C F (fl'++[f]) (ms'++[m]))/\Hid (MpM w6 b (k+1) (D.put (klM u) (.held (.int .i64 (fl'.length:Int)))) (fun x=>List.lookup x (((u:Int),(fl'.length:Int))::j)))/\Hid (b∉Xs Z mb C F)/\
       Hid (ROff w6 (Xs Z mb C F) (some ⟨b4,o4,none⟩) fl.length c4 (parF (fl.map FLV.pl)))/\Hid (ROff w6 (Xs Z mb C F) (some ⟨b5,o5,none⟩) lv.length c5 lv)/\Hid (AllAt (sl.map STV.pl) dest fl ms lv (k+1) (fl'++[f]) (ms'++[m]) (((u:Int),(fl'.length:Int))::j) (kk++[((u:Int),[(fl'.length:Int)])])) from
      ⟨n8,nQ.out.same (ff.2 b nB.out hX.out),nR,(nk.out.less fun g hg=>.inl (am _ hg)).next ff nj,(nm.out.less fun g hg=>.inl (am _ hg)).next ff nj,B.out.next HC.out HX.out hl hm n7⟩)
     clear hl hm n7 n8 ff nj nR nQ nk nm ow nB hX B HX HC H nO;go_wp2;go_roundw
     case rel=>exact ⟨k+1,C,F,fl'++[f],ms'++[m],_,_,_,ω,by go_num,P.out.1,P.out.2.1,P.out.2.2.1,P.out.2.2.2.1,P.out.2.2.2.2.1,P.out.2.2.2.2.2⟩
     simp[intOf];omega
  have nS:k=lv.length:=ω
  have HF:=hid (show runF' (sl.map STV.pl) (parF (fl.map FLV.pl)) dest lv [] (fl.map FLV.pl) []=.ok (fl'.map FLV.pl,kk) by
   rw[B.out.run,nS,eP];rfl)
  have oz:=hid B.out.mks;have nC:=hid (And.intro B.out.len B.out.mlen);clear hP hX X Y B;subst nS;go_wp2;go_ret2;rw[i.out,HF.out];exact ⟨rfl,q,t,fl',ms',rfl,oz.out,hM.out,by have:=nC.out.1;omega,by have:=nC.out.1;omega,by have:=nC.out.2;omega⟩
theorem MovedIs.set {c:Nat}{r:MR×Int}{q:World}{e:Ending}(h:MovedIs [c] B r w e q)(P:c<B) :
  ∃(d AK g i:Option Addr) (j ck l cc:Nat) (o:List FLV) (p:List MV),e=.returned (.tuple #[.agg #[.slice d o.length j,.slice AK p.length ck,.int .i64 r.1.commit,.slice g r.1.files.length l,.slice i r.1.clashes.length cc],.int .i64 r.2])/\
  ∀(w0:World),(∀cs,Below w0.heap.size w0 (q.setRow c cs))->∀cs,MovedIs [] 0 r w0 (.returned (.tuple #[.agg #[.slice d o.length j,.slice AK p.length ck,.int .i64 r.1.commit,.slice g r.1.files.length l,.slice i r.1.clashes.length cc],.int .i64 r.2])) (q.setRow c cs):=by
 obtain ⟨_,d,AK,g,i,j,ck,l,cc,o,p,D,E,F,x,y,z,G,H,I,J,K,L,M⟩:=h;refine ⟨d,AK,g,i,j,ck,l,cc,o,p,F,fun w0 N cs=>?_⟩;have b:HStay [c] q (q.setRow c cs):=⟨by simp[World.setRow],fun k _ O=>dA _ _ _ _ (fun e=>O (by rw[e];simp))⟩
 have s:∀{A:Option Addr},(∀a,A=some a->B<=a.block)->∀{n:Nat},∀a,A=some a->0<n->a.block∉[c]:=fun h n a e _ u=>by
  have:=h a e;rw[aS.1 u] at this;omega
 refine ⟨N cs,d,AK,g,i,j,ck,l,cc,o,p,D,E,rfl,⟨aBq x.row (s H) b.keeps,rfl,fun f C=>?_⟩,⟨aBq y.row (s I) b.keeps,rfl,fun m u=>?_⟩,
  ⟨aBq z.row (s J) b.keeps,rfl,z.fits⟩,aBq G (s K) b.keeps,fun _ _=>al _,fun _ _=>al _,fun _ _=>al _,fun _ _=>al _,fun _ _ _ _ _ h=>(by cases h),fun _ _ _ _ _ h=>(by cases h)⟩
 ·obtain ⟨t,v⟩:=x.parts f C
  exact ⟨⟨aBq t.row (L f C) b.keeps,rfl,t.fits⟩,v⟩
 obtain ⟨t,v⟩:=y.parts m u;exact ⟨aBq t (M m u) b.keeps,v⟩
theorem aPw {sn:Nat}{l:List FLV}{source:Int}(hL:Lm w)(hn:l.length<=64)(T:ms.length<=50000)(V:sn<=maxLen)
  (r1:RdFl w w.heap.size A l.length c l) (r2:RdM w w.heap.size AK ms.length ck ms) (r3:RdS w w.heap.size SA sn sc sl) :
  Calls prog 13 #[.slice A l.length c,.slice AK ms.length ck,.int .i64 source,.int .i64 dest,.slice SA sn sc] w (MovedIs [] 0 (rebaseF (l.map FLV.pl) ms source dest (sl.map STV.pl)) w):=by
 obtain ⟨W,Q⟩:∃W,W=w.alloc (.cells #[.slice none 0 0,.slice none 0 0,.int .i64 0,.slice none 0 0,.slice none 0 0] 32):=⟨_,rfl⟩;have g:Below w.heap.size w W:=by rw[Q];exact (Below.refl _ _).alloc (aa _) _
 have t:W.heap[w.heap.size]? = some (.cells #[.slice none 0 0,.slice none 0 0,.int .i64 0,.slice none 0 0,.slice none 0 0] 32 (0,0)):=by rw[Q];exact au _ _
 have u:=hid t;have C:=hid g
 have i:=hid (show rebaseF (l.map FLV.pl) ms source dest (sl.map STV.pl)=if argsOk (l.map FLV.pl) ms source dest=false then (noMR,1)
  else toldF (l.map FLV.pl).length (allF (sl.map STV.pl) (moved (parF (l.map FLV.pl)) ms source) (l.map FLV.pl) source dest) from rfl)
 have d:=hid (show argsOk (l.map FLV.pl) ms source dest=(rightL (l.map FLV.pl) ms && (decide (0<=source) && decide (source<((l.map FLV.pl).length:Int))) && !obsM ms source && (decide (-1<=dest) && decide (dest<((l.map FLV.pl).length:Int)))) from rfl);rw[az] at i d;have ff:=hid (r2.to g g.size);have nj:=hid (r3.to g g.size);have nk:=hid (hL.to g);have nm:=hid V
 have X:=bEd (Z:=[w.heap.size]) (SA:=SA) (sn:=sn) (sc:=sc) (hL.to g) ω ω (r1.to g g.size) (r2.to g g.size) (fun z hz=>by rw[aS.1 hz];exact aAa t)
  (fun f hf a e hn T=>by
   obtain ⟨b,o,R,hb,_⟩:=(r1.parts f hf).1.row.at_ hn;rw[e] at R;cases R;exact gW hb (aS.1 T))
  (fun m U a e hn T=>by
   obtain ⟨b,o,R,hb,_⟩:=(r2.parts m U).1.at_ hn;rw[e] at R;cases R;exact gW hb (aS.1 T))
 rw[Q] at X;clear r1 r2 r3 g t hL V;go_enter Tryz.func13,Tryz.ntmps13;go_wp2_with fail;rw[<-Q] at X ⊢;refine X.mono ?_;rintro e w1 ⟨D,s⟩;have p:=hid D;have q:=hid ((D.block _ (aAa u.out)).trans u.out);have v:=hid (C.out.trans (D.mono C.out.size));clear X D Q
 cases n:rightL (l.map FLV.pl) ms
 case' false=>
  rw[n] at s;simp only[bA,dD] at s;subst s;have L:=hid (show rebaseF (l.map FLV.pl) ms source dest (sl.map STV.pl)=(noMR,1) by rw[i.out,ao (by rw[d.out,n];rfl)]);clear n
 case' true=>
  rw[n] at s d;simp only[fj] at s;obtain ⟨mb,fv,kv,rfl,Y⟩:=s;rw[db] at d;by_cases c1:source<0
  case' pos=>
   have L:=hid (show rebaseF (l.map FLV.pl) ms source dest (sl.map STV.pl)=(noMR,1) by rw[i.out,ao (by rw[d.out,ak (by omega:¬0<=source)];rfl)]);clear Y n
  case' neg=>
   by_cases c2:(l.length:Int)<=source
   case' pos=>
    have L:=hid (show rebaseF (l.map FLV.pl) ms source dest (sl.map STV.pl)=(noMR,1) by rw[i.out,ao (by rw[d.out,ak (by omega:¬source<(l.length:Int)),gI];rfl)]);clear Y n
   case' neg=>
    rw[aq (by omega:0<=source),aq (by omega:source<(l.length:Int)),jM,db] at d;have H:=hid Y;have y:=hid n;have K2:=aVq (x:=source) (by unfold maxLen;omega) (ff.out.to p.out p.out.size);clear Y n;go_wp2_with fail;refine K2.mono ?_;rintro e w2 ⟨rfl,B⟩;replace v:=hid (v.out.trans (B.mono v.out.size));replace q:=hid ((B.block _ (aAa q.out)).trans q.out);replace p:=hid (p.out.trans (B.mono p.out.size));replace H:=hid (H.out.below B);clear K2 B
    cases ho:obsM ms source
    case' true=>
     have L:=hid (show rebaseF (l.map FLV.pl) ms source dest (sl.map STV.pl)=(noMR,1) by rw[i.out,ao (by rw[d.out,ho];rfl)]);clear ho H y
    case' false=>
     rw[ho,iC,db] at d;clear ho;by_cases c3:dest < -1
     case' pos=>
      have L:=hid (show rebaseF (l.map FLV.pl) ms source dest (sl.map STV.pl)=(noMR,1) by rw[i.out,ao (by rw[d.out,ak (by omega:¬-1<=dest)];rfl)]);clear H y
     case' neg=>
      by_cases c4:(l.length:Int)<=dest
      case' pos=>
       have L:=hid (show rebaseF (l.map FLV.pl) ms source dest (sl.map STV.pl)=(noMR,1) by rw[i.out,ao (by rw[d.out,ak (by omega:¬dest<(l.length:Int)),gI])]);clear H y
      case' neg=>
       rw[aq (by omega:-1<=dest),aq (by omega:dest<(l.length:Int)),jM] at d;rw[ah (by rw[d.out];decide)] at i;have HK:=hid (bKs (source:=source) (dest:=dest) nk.out H.out ω T nm.out nj.out (by have:=y.out;unfold rightL at this;simp only[ay] at this;exact this.1.1) ω ω ω ω);have K3:=HK.out;clear HK H y;generalize allF (sl.map STV.pl) (moved (parF (l.map FLV.pl)) ms source) (l.map FLV.pl) source dest=r at *;go_wp2_with fail;refine K3.mono ?_;rintro e w3 j;clear K3
       have I:Hid (Below W.heap.size W w3):=by
        cases r with
        | error x=>exact j.1
        | ok x=>obtain ⟨_,_,_,_,_,_,_,h,_⟩:=j;exact h.bel
       have KT:∃(b:Bool) (k:Int),e=.returned (.tuple #[.bool b,.int .i64 k])/\Calls prog 37 #[.pointer (some ⟨mb,0,none⟩),.bool b,.int .i64 k] w3 (MovedIs [w.heap.size] W.heap.size (toldF l.length r) w3):=by
        cases r with
        | error x=>
         have M:StopIs W mb x e w3:=j;obtain ⟨_,q2,q3,_⟩:=id M;obtain ⟨x1,x2⟩:=x;refine ⟨false,x2,q2,?_⟩;by_cases U:x2=0
         ·subst U
          exact aRk M rfl
         rw[show toldF l.length (.error (x1,x2))=(noMR,x2) from congrArg (·,x2) (q3 U)];exact aYb U
        | ok x=>
         obtain ⟨l',k⟩:=x;obtain ⟨q1,nu,nw,fl',ms',q2,q3,q4,q5,q6,q7⟩:=j;refine ⟨true,0,q1,?_⟩;have:=bDc q4 q5 (S:=ms.length) (by have:=congrArg List.length q3;simp only[az,ae] at this;omega) ω ω;rw[q2,q3,show ms.length=(ms.map MV.pl).length by rw[az],List.drop_left] at this;exact this
       obtain ⟨b,k,rfl,KT⟩:=KT;have E:=hid (C.out.trans (I.out.mono C.out.size));have N:=hid ((I.out.block _ (aAa u.out)).trans u.out);have O:=hid (show toldF l.length r=rebaseF (l.map FLV.pl) ms source dest (sl.map STV.pl) from i.out.symm);rw[O.out] at KT;clear j I i q v p O;go_wp2_with fail;refine KT.mono ?_;rintro e w4 K;have J:=K.1;obtain ⟨AN,nr,AF,AC,cn,ns,cf,cc,nl,kl,rfl,G⟩:=K.set (aAa u.out);have F:=(J.block _ (aAa N.out)).trans N.out;have P:=hid G;have nq:=hid (E.out.trans (J.mono E.out.size));clear KT K G J;go_wp2_with (refine bJ rfl 32 (.tmp 10) (.tmp 53) rfl w.heap.size #[.slice AN nl.length cn,.slice nr kl.length ns,.int .i64 (rebaseF (l.map FLV.pl) ms source dest (sl.map STV.pl)).1.commit,.slice AF (rebaseF (l.map FLV.pl) ms source dest (sl.map STV.pl)).1.files.length cf,.slice AC (rebaseF (l.map FLV.pl) ms source dest (sl.map STV.pl)).1.clashes.length cc] rfl rfl _ _ F aDh rfl (by simp[Value.oneCell']) ?_)
       try simp only[Exit.inBlock,Exit.then]
       refine bz (aAm rfl _ _ w.heap.size _ _ (0,0) _ rfl (bB _ _ _ _ _ _ F) gC rfl aDh) rfl ?_;exact P.out w (fun cs=>aAj nq.out (aa _)) _
 all_goals
  have hz:=aKb;go_wp2_with (refine bJ rfl 32 (.tmp 10) (.tmp 44) rfl w.heap.size #[.slice none 0 0,.slice none 0 0,.int .i64 0,.slice none 0 0,.slice none 0 0] rfl rfl _ _ q.out aDh rfl (by simp[Value.oneCell']) ?_)
  try simp only[Exit.inBlock,Exit.then]
  refine bz (aAm rfl _ _ w.heap.size _ _ (0,0) _ rfl (bB _ _ _ _ _ _ q.out) gC rfl aDh) rfl ?_;rw[L.out];exact aLp (aAj v.out (aa _))
def Few24 (l:List FLV)(ms:List MV)(sl:List STV)(w:World)(e:Ending) (w':World):Prop:=
 ∃b:Bool,e=.returned (.bool b)/\w'=w/\(b=true->l.length<=12/\ms.length<=12/\sl.length<=6)
theorem bIb {l:List FLV}(S:l.length<=17592186044416)(T:ms.length<=17592186044416)(U:sl.length<=17592186044416)
  (J:RdFl w w.heap.size A l.length c l) (K:RdM w w.heap.size AK ms.length ck ms) (L:RdS w w.heap.size SA sl.length sc sl) :
  Calls prog 9 #[.slice A l.length c,.slice AK ms.length ck,.slice SA sl.length sc] w (Few24 l ms sl w):=by
 have o:=hid J;have p:=hid K;have q:=hid L;clear J K L;go_enter Tryz.func9,Tryz.ntmps9;go_wp2;go_loopw[7,8] (fun i a wr=>∃(k:Nat) (x:Int),k<=l.length/\a=.int .i64 k/\i=.int .i64 x/\wr=w) (fun _ a _=>l.length-(intOf a).toNat)
 case atStart=>exact ⟨0,0,al _,rfl,rfl,rfl⟩
 obtain ⟨k,x,D,rfl,rfl,rfl⟩:=hrel;by_cases d:k<l.length
 ·obtain ⟨H,I,f,t,u,v,m,z,F,M⟩:=o.out.get d
  subst t;have r:=hid (o.out.parts f m);have s:=r.out.2.1;clear v m z;go_wp2;go_loopw[7,9] (fun i n b=>∃(j:Nat) (y:Int),j<=f.files.length/\n=.int .i64 j/\i=.int .i64 y/\b=wr) (fun _ n _=>f.files.length-(intOf n).toNat)
  case atStart=>exact ⟨0,_,al _,rfl,rfl,rfl⟩
  obtain ⟨j,y,N,rfl,rfl,rfl⟩:=hrel;by_cases e:j<f.files.length
  ·obtain ⟨O,P,g,B,C,_,_,_,_,Q⟩:=r.out.1.get e
   rw[B] at M;clear B;go_wp2;go_roundw
   case rel=>exact ⟨j+1,_,ω,by go_num,rfl,trivial⟩
   simp[intOf];omega
  have E:j=f.files.length:=ω;go_wp2;go_roundw
  case rel=>exact ⟨k+1,_,ω,by go_num,rfl,trivial⟩
  simp[intOf];omega
 have h:k=l.length:=ω;go_wp2;go_loopw[7,10] (fun i a b=>∃(k:Nat) (x:Int),k<=sl.length/\a=.int .i64 k/\i=.int .i64 x/\b=wr) (fun _ a _=>sl.length-(intOf a).toNat)
 case atStart=>exact ⟨0,_,al _,rfl,rfl,rfl⟩
 clear h D;obtain ⟨k,x,D,rfl,rfl,rfl⟩:=hrel;by_cases d:k<sl.length
 ·obtain ⟨H,I,f,t,u,v,m,z,F⟩:=q.out.get d
  subst t;have r:=hid (q.out.parts f m);have s:=r.out.2.1;clear v m z;go_wp2;go_loopw[7,11] (fun i n G=>∃(j:Nat) (y:Int),j<=f.files.length/\n=.int .i64 j/\i=.int .i64 y/\G=wr) (fun _ n _=>f.files.length-(intOf n).toNat)
  case atStart=>exact ⟨0,_,al _,rfl,rfl,rfl⟩
  obtain ⟨j,y,N,rfl,rfl,rfl⟩:=hrel;by_cases e:j<f.files.length
  ·obtain ⟨O,P,g,B,C,_,_,_,_,Q⟩:=r.out.1.get e
   rw[B] at F;clear B;go_wp2;go_roundw
   case rel=>exact ⟨j+1,_,ω,by go_num,rfl,trivial⟩
   simp[intOf];omega
  have E:j=f.files.length:=ω;go_wp2;go_roundw
  case rel=>exact ⟨k+1,_,ω,by go_num,rfl,trivial⟩
  simp[intOf];omega
 have h:k=sl.length:=ω;go_wp2;go_loopw[7,12] (fun i a b=>∃(k:Nat) (x:Int),k<=ms.length/\a=.int .i64 k/\i=.int .i64 x/\b=wr) (fun _ a _=>ms.length-(intOf a).toNat)
 case atStart=>exact ⟨0,_,al _,rfl,rfl,rfl⟩
 clear h D;obtain ⟨k,x,D,rfl,rfl,rfl⟩:=hrel;by_cases d:k<ms.length
 ·obtain ⟨H,I,f,t,u,v,m,z,F⟩:=p.out.get d
  subst t;have s:=(p.out.parts f m).2.1;clear v m z;go_wp2;go_roundw
  case rel=>exact ⟨k+1,_,ω,by go_num,rfl,trivial⟩
  simp[intOf];omega
 have h:k=ms.length:=ω;go_wp2
 all_goals
  go_ret;refine ⟨_,rfl,rfl,fun R=>?_⟩
  first | (cases R;done) | omega
end Go.Proofs.YtohblmepajhpaaaGreatDoor
