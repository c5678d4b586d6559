/- Contracts of functions that the law reaches; plain laws. -/
import Derived.Test.YtohblmepajhpaaaGreatDoorG02
import Derived.Test.YtohblmepajhpaaaGreatDoorG03
import Derived.Test.YtohblmepajhpaaaGreatDoorG04
import Derived.Test.YtohblmepajhpaaaGreatDoorG05
import Derived.Test.YtohblmepajhpaaaGreatDoorG08
import Derived.Test.YtohblmepajhpaaaGreatDoorG09
import Derived.Test.YtohblmepajhpaaaGreatDoorG13
set_option maxHeartbeats 8000000
set_option maxRecDepth 100000
open Go.Lib (hid)
namespace Go.Proofs.YtohblmepajhpaaaGreatDoor
open Go.Proofs.Tryz (prog)
open Go.RowKit
variable {l:List FL}{A B:Option Addr}{w w' wr:World}{x g m base j ca cb:Nat}{ov:Value}{nl:List FLV}{a b:List ByteArray}{ms:List MV}{s:List SettL}{ps:List (Nat×Nat)}{dest q:Int}{xs:List Value}
theorem bBp {l:List FV}{k:Nat}{f:FV}(_hk:k<30)(a:l[k]? = some f):(l.take (k+1)).foldl playStep []=playStep ((l.take k).foldl playStep []) f:=by
 rw[aB,a,cJ];rfl
theorem aTc {n c:Nat}{l:List FV}(hn:n<=17592186044416)(h:RdF w w.heap.size A n c l) :
  Calls prog 20 #[.slice A n c] w (FilesIsN (·=playF l) w):=by
 have X:=hid h.len;go_enter Tryz.func20,Tryz.ntmps20;go_wp2;go_loopw[3,4] (fun lv i wr=>∃(k:Nat) (A':Option Addr) (q:Nat) (a:List FV),k<=n/\k<=30/\i=.int .i64 k/\lv=.slice A' a.length q/\Hid (a=(l.take k).foldl playStep [])/\RdF wr wr.heap.size A' a.length q a/\Below w.heap.size w wr/\Hid (NewAt A' w.heap.size)) (fun _ i _=>n-(intOf i).toNat)
 case atStart=>exact ⟨0,none,0,[],al _,al _,rfl,rfl,by rw[bi];exact hid rfl,RdF.none_ _ _,Below.refl _ _,NewAt.none_ _⟩
 obtain ⟨k,A',q,a,hk,T,rfl,rfl,M,y,d,N⟩:=hrel
 have u:k=n\/k=30->FilesIsN (·=playF l) w (.returned (.slice A' a.length q)) wr:=fun e=>⟨A',q,a,rfl,by
  rw[M.out,playF];rcases e with e | e
  ·subst e
   have hl:l.length=k:=X.out;rw[ai ω,ai ω]
  rw[e],y,d,N.out⟩
 have j:=hid u;clear u;by_cases R:k<n
 ·by_cases C:k<30
  ·obtain ⟨t,O,f,rfl,ff,U,P,F,G,H⟩:=h.get R
   replace F:=(d.cell (p:=⟨t,O+k*3,none⟩) (by show t<_;omega)).trans F;replace G:=(d.cell (p:=⟨t,O+k*3+1,none⟩) (by show t<_;omega)).trans G;replace H:=(d.cell (p:=⟨t,O+k*3+2,none⟩) (by show t<_;omega)).trans H;have I:=h.fits f P;have J:=hid (show (l.take (k+1)).foldl playStep []=playStep a f by rw[M.out];exact bBp C U);clear U;by_cases D:2000<f.text.size
   ·have v:=hid (show playStep a f=a by rw[playStep,ao D])
    go_wp2;go_roundw
    case rel=>exact ⟨k+1,A',q,a,ω,ω,by go_num,rfl,by rw[J.out,v.out];exact hid rfl,y,d,N⟩
    simp[intOf];omega
   have Y:a.length<=30:=by
    have S:=(aFo (l.take k) aDz).2;rw[<-M.out] at S;have:=kI k l;simp only[dU] at S;omega
   go_wp2_with fail;refine (bKt (f:=f) ω y I).mono ?_;rintro e w1 ⟨V,c1,rfl,z,g,B⟩;have K:=hid (show NewAt V w.heap.size from fun b o s hA=>aw d.size (B b o s hA));clear B;have m:=d.trans (g.mono d.size);have x:=y.to g g.size;clear y d g F G H;by_cases E:(putF a f).2=0
   ·have v:=hid (show playStep a f=(putF a f).1 by rw[playStep,ah D,ao E])
    generalize putF a f=r at *;obtain ⟨W,Q⟩:=r;obtain rfl:Q=0:=E;clear D x;go_wp2;go_roundw
    case rel=>exact ⟨k+1,V,c1,W,ω,ω,by go_num,rfl,by rw[J.out,v.out];exact hid rfl,z,m,K⟩
    simp[intOf];omega
   have v:=hid (show playStep a f=a by rw[playStep,ah D,ah E]);generalize putF a f=r at *;obtain ⟨W,Q⟩:=r;have Z:¬Q=0:=E;clear D z;go_wp2;go_roundw
   case rel=>exact ⟨k+1,A',q,a,ω,ω,by go_num,rfl,by rw[J.out,v.out];exact hid rfl,x,m,N⟩
   simp[intOf];omega
  have e:=j.out (.inr ω);have L:=hid e;clear e;go_wp2;go_ret;exact L.out
 have e:=j.out (.inl ω);have L:=hid e;clear e;go_wp2;go_ret;exact L.out
def Box (g:FV)(b:Nat)(u:World):Prop:=b<u.heap.size/\∀i v,g.cells[i]? = some v->u.cell? ⟨b,i,none⟩=some v
def playPar (t:Int)(i:Nat):Int:=IntKind.u64.wrap t % ((i+1:Nat):Int)-1
noncomputable def playFlat (i:Nat) (x:FL):FL:=⟨playPar x.parent i,if x.msg.size<=100 then x.msg else ⟨#[]⟩,playF x.files⟩
noncomputable def playFl (l:List FL) (most:Nat):List FL:=(l.take most).mapIdx playFlat
theorem aKh(t:Int)(i:Nat):-1<=playPar t i/\playPar t i<i:=by
 unfold playPar;have a:0<=IntKind.u64.wrap t % ((i+1:Nat):Int):=iV _ O;have b:IntKind.u64.wrap t % ((i+1:Nat):Int)<((i+1:Nat):Int):=io _ O;omega
theorem aVv(t:Int){k:Nat}(e:k<900):IntKind.i64.wrap (IntKind.u64.wrap t % IntKind.u64.wrap ((k:Int)+1))-1=playPar t k/\0<=IntKind.u64.wrap t/\IntKind.u64.wrap ((k:Int)+1)=(k:Int)+1:=by
 have a:IntKind.u64.wrap ((k:Int)+1)=((k+1:Nat):Int):=by rw[<-aRf (N:=k+1) O];rfl
 refine ⟨?_,by rw[fE];omega,by rw[a];rfl⟩;rw[a];unfold playPar;have c:0<=IntKind.u64.wrap t % ((k+1:Nat):Int):=iV _ O;have d:IntKind.u64.wrap t % ((k+1:Nat):Int)<((k+1:Nat):Int):=io _ O;generalize IntKind.u64.wrap t % ((k+1:Nat):Int)=v at *
 have b:IntKind.i64.wrap v=v:=by
  have:IntKind.i64.wrap v=(v+9223372036854775808) % 18446744073709551616-9223372036854775808:=by
   simp[IntKind.wrap,IntKind.bits,IntKind.signed];split<;>omega
  rw[this];omega
 rw[b]
theorem aJw(p:Int)(A:Option Addr)(n c:Nat)(w:World):(Instr.build 40 #[(0,.int .i64 p),(2,.slice A n c)]).run prog w=.ok (.agg #[.int .i64 p,.string ⟨#[]⟩,.slice A n c]) w:=by
 go_simp
theorem bDi(l:List FL)(a:Nat):(playFl l a).length<=a:=by
 unfold playFl;rw[List.length_mapIdx,aE];omega
theorem aWu {f:Nat->FL->FL}{k:Nat}{x:FL}(a:l[k]? = some x):(l.take (k+1)).mapIdx f=(l.take k).mapIdx f++[f k x]:=by
 have b:=(aj.1 a).1;rw[aB,a,cZ,List.mapIdx_append,aE,bP O];simp
theorem aVg {v d:Value}{x:FLV}(h:FlOk w (obs v) x)(i:w.grownBy w' v.ownBlock)(j:d.ownBlock=v.ownBlock\/d.ownBlock=some w.heap.size):FlOk w' (obs d) x:=by
 have f:FlOk w (w.heap.size::obs v) x:=h.less fun b c=>by
  rcases ax.1 c with e | e
  ·exact .inr (gZ e.symm)
  exact .inl e
 refine (f.keep (HStay.grown i fun g e=>am _ (aEj e)).keeps).less fun b c=>.inl ?_;have e:=aFc c;rcases j with a | a
 ·exact am _ (aEj (a▸e))
 rw[a] at e;injection e with e;rw[<-e];exact bu ..
theorem bGz(w:World)(f:FLV){q:Nat}(a:q=w.heap.size):Rd (w.alloc (.cells #[.int .i64 f.parent,.string f.msg,.slice f.A f.files.length f.c] 40)) (w.alloc (.cells #[.int .i64 f.parent,.string f.msg,.slice f.A f.files.length f.c] 40)).heap.size 3 (some ⟨q,0,none⟩) 1 1 ([f].flatMap FLV.cells):=by
 subst a;exact aSn w f
structure DrawnF (w wr:World) (ov:Value) (nl:List FLV):Prop where
 bel:Below w.heap.size w wr
 row:wr.ownsRow w.heap.size 40 3 ov nl.length (nl.flatMap FLV.cells)
 part:∀f∈nl,FlOk wr (obs ov) f
theorem DrawnF.below(h:DrawnF w wr ov nl)(a:Below wr.heap.size wr w'):DrawnF w w' ov nl:=
 ⟨h.bel.trans (a.mono h.bel.size),aAf h.row a,fun f b=>(h.part f b).keep (HStay.of_below a).keeps⟩
theorem DrawnF.push {a:Value}{f:FLV}(h:DrawnF w wr ov nl)(e:FlOk wr (obs ov) f)(c:wr.grownBy w' ov.ownBlock)(d:a.ownBlock=ov.ownBlock\/a.ownBlock=some wr.heap.size)
  (i:w'.ownsRow w.heap.size 40 3 a (nl.length+1) (nl.flatMap FLV.cells++[f].flatMap FLV.cells)):DrawnF w w' a (nl++[f]):=by
 refine ⟨h.bel.grown c h.bel.size (fun g c=>(h.row.lt g c).1),by rw[ae,aJ];exact i,fun x b=>?_⟩;rcases aQ.1 b with b | b
 ·exact aVg (h.part x b) c d
 rw[aS.1 b];exact aVg e c d
theorem DrawnF.other(h:DrawnF w wr ov nl)(a:wr.grownBy w' (some g))(i:w.heap.size<=g)(j:ov.ownBlock≠some g)(l:∀f∈nl,FlOk wr (g::obs ov) f):DrawnF w w' ov nl:=
 ⟨h.bel.grown a h.bel.size (fun k e=>by injection e with e;omega),h.row.kept a (.inr j),fun f c=>((l f c).keep (HStay.grown a fun k e=>by injection e with e;rw[e];exact bu ..).keeps).less fun b d=>.inl (am _ d)⟩
def FlatsIs (r:List FL)(w:World)(e:Ending) (w':World):Prop:=
 ∃(A:Option Addr) (c:Nat) (nl:List FLV),e=.returned (.slice A nl.length c)/\nl.map FLV.pl=r/\RdFl w' w'.heap.size A nl.length c nl/\Below w.heap.size w w'
theorem aRy {c:Nat}{l:List FLV}(N:l.length<=12)(r1:RdFl w w.heap.size A l.length c l) :
  Calls prog 11 #[.slice A l.length c,.int .i64 12] w (FlatsIs (playFl (l.map FLV.pl) 12) w):=by
 have HR:=hid r1;clear r1;go_enter Tryz.func11,Tryz.ntmps11;go_wp2;go_loopw[5,6] (fun ov iv wr=>∃(k:Nat) (nl:List FLV),k<=l.length/\iv=.int .i64 k/\nl.length=k/\Hid (nl.map FLV.pl=((l.map FLV.pl).take k).mapIdx playFlat)/\Hid (DrawnF w wr ov nl)) (fun _ i _=>l.length-(intOf i).toNat)
 case atStart=>exact ⟨0,[],al _,rfl,rfl,by rw[bi];rfl,⟨Below.refl _ _,aA _ _ _ _,fun _ h=>by cases h⟩⟩
 obtain ⟨k,nl,hk,rfl,hl,hj,Z⟩:=hrel;by_cases n8:k<l.length
 ·obtain ⟨b0,o0,f,eA,nR,hx,hf,P,h1,h2⟩:=HR.out.get n8
  subst eA;have HG:=hid (And.intro P (And.intro h1 h2));have R:=hid nR;have HF:=hid (HR.out.parts f hf);have nM:=hid (show ((l.map FLV.pl).take (k+1)).mapIdx playFlat=((l.map FLV.pl).take k).mapIdx playFlat++[playFlat k f.pl] from aWu (by rw[aG,hx];rfl));clear hx hf P h1 h2 nR;obtain ⟨q1,q2,q3⟩:=aVv f.parent (k:=k) ω;obtain ⟨q4,q5⟩:=aKh f.parent k;obtain ⟨V,eV⟩:∃V,V=wr.drew:=⟨_,rfl⟩;have nN:Below wr.heap.size wr V:=by rw[eV];exact (Below.refl _ _).drew
  have H:=hid (Z.out.below nN);have t:=hid (H.out.bel);have ns:=hid (fun (v:World) (hv:Below V.heap.size V v)=>aTc (w:=v) HF.out.2.1 (HF.out.1.to (t.out.trans (hv.mono t.out.size)) (aw t.out.size hv.size)));have S:(prog.info? 40).map (·.size)=some 3:=κ;go_wp2;refine aAv (fun u=>Below V.heap.size V u) (.q 0 (.q 1 (.q 2 (.q 3 (.q 4 (.q 5 (.q 6 (.q 7 (.q 8 (.q 9 (.q 10 (.q 11 (.q 12 (.q 13 (.q 14 (.q 15 (.q 16 (.two 17 (.b 18 (.one 19 (.one 20 .leaf))) 19 (.one 17 (.b 18 (.one 20 .leaf))))))))))))))))))))) mixed κ (by rw[<-eV];exact Below.refl _ _) ?_;intro Tp M Q hT n5 hM hQ;rw[<-eV];have m0:M ⟨b0,o0+k*3,none⟩=some (.int .i64 f.parent):=hM _ _ fun w' hw=>(hw.cell (p:=⟨b0,o0+k*3,none⟩) (ag R.out t.out.size)).trans ((t.out.cell R.out).trans HG.out.1);have m2:M ⟨b0,o0+k*3+2,none⟩=some (.slice f.A f.files.length f.c):=hM _ _ fun w' hw=>(hw.cell (p:=⟨b0,o0+k*3+2,none⟩) (ag R.out t.out.size)).trans ((t.out.cell R.out).trans HG.out.2.2);clear hM;refine aCu ?_;intro O s;have t0:=s true 0;have t1:=s true 1;have t2:=s true 2;have t3:=s true 3;have t4:=s true 4;have t5:=s true 5;have t6:=s true 6;have t7:=s true 7;have t8:=s true 8;have t9:=s true 9;have nu:=s true 10;have nw:=s true 11;have nz:=s true 12;have nA:=s true 13;have nB:=s true 14;have nC:=s true 15;have nD:=s true 16;have ff:=s true 18;have nj:=s false 17;have nk:=s false 19;have nm:=s false 20;simp only[qcmp] at t0 t1 t2 t3 t4 t5 t6 t7 t8 t9 nu nw nz nA nB nC nD ff nj nk nm;clear s;simp (maxSteps:=9^7) only[↓wt_q,↓aBe,t0,t1,t2,t3,t4,t5,t6,t7,t8,t9,nu,nw,nz,nA,nB,nC,nD,nj,nk,↓qpre,aAb,aAg,aAc,m0,m2]
  rw[q1,q3];refine ⟨⟨ω,ω⟩,by unfold inI64;omega,⟨q2,ω⟩,by unfold inI64;omega,⟨ω,ω⟩,?_⟩;refine ⟨?ord1,?ord2⟩
  case' ord1=>
   refine aAh κ (ns.out V (Below.refl _ _)) rfl rfl ?_;rintro e u1 ⟨j,m,l1,rfl,rfl,F,r,hN⟩;refine ⟨_,rfl,hT _ r,?_⟩;simp (maxSteps:=9^7) only[↓wt_b,ff,aAb,aAc];refine aCc rfl (fun w=>aJw _ _ _ _ w) ?_;simp (maxSteps:=9^7) only[↓aAn,nk,aAb,aAc];have B:=r.alloc r.size (.cells #[.int .i64 0,.string ⟨#[]⟩,.slice none 0 0] 40);have N:=au u1 (.cells #[.int .i64 0,.string ⟨#[]⟩,.slice none 0 0] 40);refine aBr aEk ⟨hT _ B,?_⟩;simp (maxSteps:=9^7) only[↓aAn,nm,aAb,aAc];have C:=aAj (cs:=#[.int .i64 (playPar f.parent k),.string ⟨#[]⟩,.slice j (playF f.files).length m]) B r.size;refine aAp (g:=u1.heap.size) (cells:=#[.int .i64 (playPar f.parent k),.string ⟨#[]⟩,.slice j (playF f.files).length m]) rfl rfl N S rfl (by simp[Value.oneCell']) ⟨hT _ C,?_⟩;simp (maxSteps:=9^7) only[↓aCm,aAb];refine hQ _ _ ?_;have D:Below u1.heap.size u1 ((u1.alloc (.cells #[.int .i64 0,.string ⟨#[]⟩,.slice none 0 0] 40)).setRow u1.heap.size #[.int .i64 (playPar f.parent k),.string ⟨#[]⟩,.slice j (playF f.files).length m]):=aAj ((Below.refl _ _).alloc (aa _) _) (aa _);have HX:=hid (bB _ _ _ #[.int .i64 (playPar f.parent k),.string ⟨#[]⟩,.slice j (playF f.files).length m] _ _ N);have I:=hid C;have J:=hid r.size;have K:=hid (F.to D D.size)
   have L:=hid (show ∀a,j=some a->0<(playF f.files).length->V.heap.size<=a.block/\a.block≠u1.heap.size from fun a e P=>by
    obtain ⟨b,o,e2,hb,_⟩:=F.row.at_ P;rw[e] at e2;cases e2;exact ⟨hN _ _ _ e,gW hb⟩)
   clear r B N C D F hN;simp only[Value.cells] at HX I K ⊢;generalize World.setRow _ _ _=U at *;generalize u1.heap.size=d at *;clear u1
  case' ord2=>
   have r:Below V.heap.size V (V.alloc (.cells #[.int .i64 0,.string ⟨#[]⟩,.slice none 0 0] 40)):=(Below.refl _ _).alloc (aa _) _;have N:=au V (.cells #[.int .i64 0,.string ⟨#[]⟩,.slice none 0 0] 40);refine aBr aEk ⟨hT _ r,?_⟩;simp (maxSteps:=9^7) only[↓aAn,nj,aAb,aAc];refine aAh κ (ns.out _ r) rfl rfl ?_;rintro e u1 ⟨j,m,l1,rfl,rfl,F,B,hN⟩;have C:=r.trans (B.mono r.size);refine ⟨_,rfl,hT _ C,?_⟩;simp (maxSteps:=9^7) only[↓wt_b,ff,aAb,aAc];refine aCc rfl (fun w=>aJw _ _ _ _ w) ?_;simp (maxSteps:=9^7) only[↓aAn,nm,aAb,aAc];replace N:=(B.block _ (aAa N)).trans N;have D:=aAj (cs:=#[.int .i64 (playPar f.parent k),.string ⟨#[]⟩,.slice j (playF f.files).length m]) C (aa _);refine aAp (g:=V.heap.size) (cells:=#[.int .i64 (playPar f.parent k),.string ⟨#[]⟩,.slice j (playF f.files).length m]) rfl rfl N S rfl (by simp[Value.oneCell']) ⟨hT _ D,?_⟩;simp (maxSteps:=9^7) only[↓aCm,aAb];refine hQ _ _ ?_;have HX:=hid (bB _ _ _ #[.int .i64 (playPar f.parent k),.string ⟨#[]⟩,.slice j (playF f.files).length m] _ _ N);have I:=hid D;have J:=hid (aa V.heap.size)
   have nE:∀a,j=some a->0<(playF f.files).length->V.heap.size<=a.block/\a.block≠V.heap.size:=fun a e _=>by
    have:=hN a.block a.off _ e;simp at this;omega
   have L:=hid nE
   have K:=hid (show RdF (u1.setRow V.heap.size #[.int .i64 (playPar f.parent k),.string ⟨#[]⟩,.slice j (playF f.files).length m]) (u1.setRow V.heap.size #[.int .i64 (playPar f.parent k),.string ⟨#[]⟩,.slice j (playF f.files).length m]).heap.size j (playF f.files).length m (playF f.files) from
    ⟨aBq (X:=[V.heap.size]) F.row (fun a e P hm=>(nE a e P).2 (aS.1 hm)) (HStay.keeps ⟨by simp[World.setRow],fun q _ hx=>dA _ _ _ _ (fun e=>hx (by rw[e];simp))⟩),rfl,F.fits⟩)
   clear r N B C D F hN nE
   try simp only[Value.cells] at HX I K ⊢
   generalize World.setRow _ _ _=U at *;obtain ⟨d,nq⟩:∃d,d=V.heap.size:=⟨_,rfl⟩;rw[<-nq] at HX J ⊢;replace L:Hid (∀a,j=some a->0<(playF f.files).length->V.heap.size<=a.block/\a.block≠d):=(by rw[nq];exact L);replace J:Hid (V.heap.size<=d):=(by rw[nq];exact aa _);clear nq u1
  all_goals
   have nO:=hid (fun x hx=>(H.out.part x hx).less (Y:=d::obs u5) fun b hb=>by
    rcases ax.1 hb with e | e
    ·exact .inr (by rw[e];exact J.out)
    exact .inl e)
   have nS:=hid (fun x hx=>(nO.out x hx).keep (HStay.of_below I.out).keeps);have nP:=hid (H.out.below I.out);have nQ:=hid (show ∀g∈obs u5,g<V.heap.size from fun g hg=>(H.out.row.lt g (aFc hg)).2);have nT:=hid (show Value.ownBlock u5≠some d from fun e=>by have h1:=(H.out.row.lt d e).2;have h2:=J.out;omega);have nU:=hid (show w.heap.size<=d from aw t.out.size J.out);have nV:=hid (t.out.trans (I.out.mono t.out.size));have g1:U.cell? ⟨b0,o0+k*3+1,none⟩=some (.string f.msg):=(nV.out.cell (p:=⟨b0,o0+k*3+1,none⟩) R.out).trans HG.out.2.1;clear hQ hT n5 m0 m2 t0 t1 t2 t3 t4 t5 t6 t7 t8 t9 nu nw nz nA nB nC nD ff nj nk nm S ns eV nN nO H Z q1 q2 q3;clear Tp M Q O;by_cases G:f.msg.size<=100
   case pos=>
    have nF:=aAy U d 1 (.string f.msg);have k1:U.cell? ⟨d,1,none⟩=some (.string ⟨#[]⟩):=(by rw[ab HX.out];rfl);have od:U.frozen? ⟨d,1,none⟩=false:=aAk HX.out
    have y:(U.setCell ⟨d,1,none⟩ (.string f.msg)).heap[d]? = some (.cells #[.int .i64 (playPar f.parent k),.string f.msg,.slice j (playF f.files).length m] 40 (0,0)):=by
     have:=a8 U d 1 _ _ (.string f.msg) HX.out;simpa using this
    have T:DrawnF w (U.setCell ⟨d,1,none⟩ (.string f.msg)) u5 nl:=nP.out.other nF nU.out nT.out nS.out
    have W:RdF (U.setCell ⟨d,1,none⟩ (.string f.msg)) (U.setCell ⟨d,1,none⟩ (.string f.msg)).heap.size j (playF f.files).length m (playF f.files):=
     ⟨aBq (X:=[d]) K.out.row (fun a e P hm=>(L.out a e P).2 (aS.1 hm)) (HStay.keeps (HStay.grown nF fun g e=>by injection e with e;rw[e];simp)),rfl,K.out.fits⟩
    have k0:(U.setCell ⟨d,1,none⟩ (.string f.msg)).cell? ⟨d,0,none⟩=some (.int .i64 (playPar f.parent k)):=(by rw[ab y];rfl);have nW:(U.setCell ⟨d,1,none⟩ (.string f.msg)).cell? ⟨d,1,none⟩=some (.string f.msg):=(by rw[ab y];rfl);have k2:(U.setCell ⟨d,1,none⟩ (.string f.msg)).cell? ⟨d,2,none⟩=some (.slice j (playF f.files).length m):=(by rw[ab y];rfl);have z:Below (U.setCell ⟨d,1,none⟩ (.string f.msg)).heap.size (U.setCell ⟨d,1,none⟩ (.string f.msg)) ((U.setCell ⟨d,1,none⟩ (.string f.msg)).alloc (.cells #[.int .i64 (playPar f.parent k),.string f.msg,.slice j (playF f.files).length m] 40)):=(Below.refl _ _).alloc (aa _) _;have E:=hid (T.below z)
    have nG:=hid (show FlOk ((U.setCell ⟨d,1,none⟩ (.string f.msg)).alloc (.cells #[.int .i64 (playPar f.parent k),.string f.msg,.slice j (playF f.files).length m] 40)) (obs u5) ⟨playPar f.parent k,f.msg,j,m,playF f.files⟩ from
     ⟨⟨W.to z z.size,fun a e P hm=>by have h1:=(L.out a e P).1;have h2:=nQ.out _ hm;omega⟩,aw (aTr _) (by decide),(show I64 (playPar f.parent k) by unfold I64;omega),HF.out.2.2.2⟩)
    have nH:=hid (show (nl++[(⟨playPar f.parent k,f.msg,j,m,playF f.files⟩:FLV)]).map FLV.pl=((l.map FLV.pl).take (k+1)).mapIdx playFlat by
     rw[aM,hj.out,nM.out];exact congrArg (fun x=>_++[x]) (show (⟨playPar f.parent k,f.msg,playF f.files⟩:FL)=⟨playPar f.parent k,if f.msg.size<=100 then f.msg else ⟨#[]⟩,playF f.files⟩ by rw[ao G]))
    have nX:=G;clear y T W z nF;go_wp2_with (at_builtin;refine aAl rfl (.tmp 51) (.tmp 53) 22 rfl aHy (base:=w.heap.size) (n:=nl.length) rfl rfl E.out.row (bGz (U.setCell ⟨d,1,none⟩ (.string f.msg)) ⟨playPar f.parent k,f.msg,j,m,playF f.files⟩ (q:=U.heap.size) (by simp)) (aEi [⟨playPar f.parent k,f.msg,j,m,playF f.files⟩]) (by unfold maxLen;omega) ω E.out.bel.size ?_;intro v7 w7 nJ nK nL);have nI:=hid (E.out.push nG.out nK nL nJ);go_roundw
    case rel=>exact ⟨k+1,nl++[⟨playPar f.parent k,f.msg,j,m,playF f.files⟩],ω,by go_num,by rw[ae,hl];rfl,nH,nI⟩
    simp[intOf];omega
   have y:=HX.out;have T:=nP.out;have W:=K.out;have k0:U.cell? ⟨d,0,none⟩=some (.int .i64 (playPar f.parent k)):=(by rw[ab y];rfl);have nW:U.cell? ⟨d,1,none⟩=some (.string ⟨#[]⟩):=(by rw[ab y];rfl);have k2:U.cell? ⟨d,2,none⟩=some (.slice j (playF f.files).length m):=(by rw[ab y];rfl);have z:Below U.heap.size U (U.alloc (.cells #[.int .i64 (playPar f.parent k),.string ⟨#[]⟩,.slice j (playF f.files).length m] 40)):=(Below.refl _ _).alloc (aa _) _;have E:=hid (T.below z)
   have nG:=hid (show FlOk (U.alloc (.cells #[.int .i64 (playPar f.parent k),.string ⟨#[]⟩,.slice j (playF f.files).length m] 40)) (obs u5) ⟨playPar f.parent k,⟨#[]⟩,j,m,playF f.files⟩ from
    ⟨⟨W.to z z.size,fun a e P hm=>by have h1:=(L.out a e P).1;have h2:=nQ.out _ hm;omega⟩,aw (aTr _) (by decide),(show I64 (playPar f.parent k) by unfold I64;omega),(show (0:Nat)<=140737488351232 by decide)⟩)
   have nH:=hid (show (nl++[(⟨playPar f.parent k,⟨#[]⟩,j,m,playF f.files⟩:FLV)]).map FLV.pl=((l.map FLV.pl).take (k+1)).mapIdx playFlat by
    rw[aM,hj.out,nM.out];exact congrArg (fun x=>_++[x]) (show (⟨playPar f.parent k,⟨#[]⟩,playF f.files⟩:FL)=⟨playPar f.parent k,if f.msg.size<=100 then f.msg else ⟨#[]⟩,playF f.files⟩ by rw[ah G]))
   have nX:=G;clear y T W z;go_wp2_with (at_builtin;refine aAl rfl (.tmp 51) (.tmp 53) 22 rfl aHy (base:=w.heap.size) (n:=nl.length) rfl rfl E.out.row (aSn U ⟨playPar f.parent k,⟨#[]⟩,j,m,playF f.files⟩) (aEi [⟨playPar f.parent k,⟨#[]⟩,j,m,playF f.files⟩]) (by unfold maxLen;omega) ω E.out.bel.size ?_;intro v7 w7 nJ nK nL);have nI:=hid (E.out.push nG.out nK nL nJ);go_roundw
   case rel=>exact ⟨k+1,nl++[⟨playPar f.parent k,⟨#[]⟩,j,m,playF f.files⟩],ω,by go_num,by rw[ae,hl];rfl,nH,nI⟩
   simp[intOf];omega
 have nY:k=l.length:=ω
 have HE:=hid (show nl.map FLV.pl=playFl (l.map FLV.pl) 12 by
  unfold playFl;rw[hj.out,nY,ai (by rw[az];omega),ai (by rw[az];exact N)])
 obtain ⟨A',c',n7,nr⟩:=aAd Z.out.row;subst n7;have HD:=hid Z.out;have nZ:=hid (show RdFl wr wr.heap.size A' nl.length c' nl from ⟨Rd.of_own Z.out.row nr,rfl,fun f hf=>⟨(Z.out.part f hf).files.1,(Z.out.part f hf).few,(Z.out.part f hf).par,(Z.out.part f hf).msg⟩⟩);clear Z hj nr;go_wp2;go_ret;exact ⟨A',c',nl,rfl,HE.out,nZ.out,HD.out.bel⟩
def outP (a b c:List FV)(p:ByteArray):Option FV:=
 match findP a p,findP b p,findP c p with
 | some f,some o,some t=>some (bothOut f o t).1
 | some _,_,_=>none
 | none,some o,_=>some o
 | none,none,r=>r
theorem aFf {f:FV}(h:FileOk f):treeOk [f]=true:=by
 refine aAx.2 ⟨by simp,fun g a=>?_,aEo (fC _ _),fun g a k b=>?_⟩
 ·simp only[aS] at a;subst a;exact h
 simp only[aS] at a b;subst a;subst b;exact aIe _
theorem bCa(b:List FV):pairsF [] b=[]:=by
 refine fu.2 fun q a=>?_;obtain ⟨f,h,_⟩:=aRi.1 ((aCv [] b).from_ q a);simp at h
theorem aMd(g:FV)(p:ByteArray):findP [g] p=if g.path=p then some g else none:=by
 unfold findP;rw[iT];by_cases h:g.path=p<;>simp[h]
theorem bNb {a b c:List FV}{d:List FV}{e:List CL}(ha:treeOk a=true)(f:treeOk b=true)(g:treeOk c=true)(h:wholeF a b c=(d,e))(i:treeOk (sortF d)=true):treemergeF a b c=(sortF d,sortC e,0):=by
 rw[treemergeF,ah (by rw[ha,f,g];simp),h];dsimp only;rw[ah (by rw[i];decide)]
theorem aVy(b:List FV):addedF [] b=b:=by
 refine dg.2 fun g _=>?_;rw[bCa];rfl
theorem aZi(b c:List FV):acts [] b c=b.map (actA c)++(c.filter fun y=>(findP b y.path).isNone).map fun y=>(y,0):=by
 unfold acts;rw[aVy,aVy];rfl
where
 treemerge_theirs_nil {u:FV} (h:FileOk u):treemergeF [] [u] [u]=([u],[],0):=by
  have e:acts [] [u] [u]=[(u,0)]:=by
   rw[aZi]
   have h1:actA [u] u=(u,0):=by unfold actA;rw[aMd,ao rfl];simp
   rw[lF,h1,dG,aMd,ao rfl];rfl
  have hw:wholeF [] [u] [u]=([u],[]):=by rw[aKf,e];rfl
  exact bNb aDz (aFf h) (aFf h) hw (aFf h)
theorem bCf {u v:FV}(a:v.path≠u.path):acts [] [u] [v]=[(u,0),(v,0)]:=by
 rw[aZi]
 have b:actA [v] u=(u,0):=by
  unfold actA;rw[aMd,ah a]
 have c:(findP [u] v.path).isNone=true:=by rw[aMd,ah (fun e=>a e.symm)];rfl
 rw[lF,b,dG,ao c];rfl
theorem bKd {u v:FV}(h:FileOk u)(d:FileOk v)(a:clashP u.p v.p=false):(treemergeF [] [u] [v]).1.length=2/\(treemergeF [] [u] [v]).2=([],0):=by
 have g:v.path≠u.path:=fun e=>by
  unfold clashP at a;rw[FV.p_inj.2 e] at a;simp at a
 have i:wholeF [] [u] [v]=([u,v],[]):=by
  rw[aKf,bCf g];show putX (putX ([],[]) (u,0)) (v,0)=_;have j:putX ([],[]) (u,0)=([u],[]):=rfl;rw[j];unfold putX putM;rw[ah (by simp[a])];rfl
 have k:treeOk (sortF [u,v])=true:=bMm (by simp) (fun f b=>by
  simp only[ax,d7,iw] at b;rcases b with rfl | rfl
  ·exact h
  exact d) (cC.2 ⟨fun x c=>by simp only[aS] at c;subst c;exact a,fC _ _⟩)
 rw[bNb aDz (aFf h) (aFf d) i k];exact ⟨by rw[aNw];rfl,rfl⟩
def wX:FV:=⟨⟨#[97]⟩,false,⟨#[120,10]⟩⟩
def wY:FV:=⟨⟨#[97]⟩,false,⟨#[121,10]⟩⟩
def wB:FV:=⟨⟨#[98]⟩,false,⟨#[]⟩⟩
theorem okWB:FileOk wB:=⟨by decide +kernel,by decide +kernel⟩
def wA:FV:=⟨⟨#[97]⟩,false,⟨#[]⟩⟩
theorem okWA:FileOk wA:=⟨by decide +kernel,by decide +kernel⟩
def awakeL:List FL:=[⟨-1,⟨#[]⟩,[]⟩,⟨0,⟨#[97]⟩,[wA]⟩,⟨0,⟨#[]⟩,[wB]⟩]
theorem aWf:∃d:List FV,d.length=2/\rebaseF awakeL [] 1 2 []=(⟨[⟨2,⟨#[97]⟩,d⟩],[(1,[3])],-1,[],[]⟩,0):=by
 obtain ⟨k,l⟩:=bKd okWB okWA (by decide +kernel);refine ⟨(treemergeF [] [wB] [wA]).1,k,?_⟩;have b:parF awakeL=[-1,0,0]:=rfl
 have ha:argsOk awakeL [] 1 2=true:=by
  have e:rightL awakeL []=true:=by
   unfold rightL;rw[b];simp only[awakeL,jI,List.all_nil,aDz,aFf okWA,aFf okWB];decide +kernel
  unfold argsOk;rw[e];decide +kernel
 have f:mergedOn awakeL [] 1 2=treemergeF [] [wB] [wA]:=rfl
 have g:oneOn [] awakeL 1 2=.ok (awakeL++[⟨2,⟨#[97]⟩,(treemergeF [] [wB] [wA]).1⟩]):=by
  unfold oneOn;rw[f,l,ah (by decide),ah (fun h=>h rfl),ah (by decide +kernel)];rfl
 have i:moved (parF awakeL) [] 1=[1]:=by rw[b];decide +kernel
 have j:above (parF awakeL) 1 2=false:=by rw[b];decide +kernel
 have c:par (parF awakeL) 1=0:=by rw[b];decide +kernel
 have a:allF [] [1] awakeL 1 2=.ok (awakeL++[⟨2,⟨#[97]⟩,(treemergeF [] [wB] [wA]).1⟩],[(1,[3])]):=by
  unfold allF;rw[ah (by rw[j];decide),ah (by rw[c];decide),runF',c,show nowF [] 2 0=2 from rfl,g];rfl
 unfold rebaseF;rw[ah (by rw[ha];decide),i,a];rfl
theorem aUk(s:ByteArray)(w:World):(Instr.build 48 #[(0,.string s)]).run prog w=.ok (.agg #[.string s,.bool false,.string ⟨#[]⟩]) w:=by
 go_simp
theorem bFo(p:Int)(w:World):(Instr.build 40 #[(0,.int .i64 p)]).run prog w=.ok (.agg #[.int .i64 p,.string ⟨#[]⟩,.slice none 0 0]) w:=by
 go_simp
theorem aWt(p:Int)(m:ByteArray)(A:Option Addr)(n c:Nat)(w:World):(Instr.build 40 #[(0,.int .i64 p),(1,.string m),(2,.slice A n c)]).run prog w=.ok (.agg #[.int .i64 p,.string m,.slice A n c]) w:=by
 go_simp
theorem aZq(w:World)(l:List FV)(xs:Array Value)(b:xs.toList=l.flatMap FV.cells)(c:∀f∈l,f.path.size<=140737488351232/\f.text.size<=140737488351232) :
  RdF (w.alloc (.cells xs 48)) (w.alloc (.cells xs 48)).heap.size (some ⟨w.heap.size,0,none⟩) l.length l.length l:=
 ⟨aQh (au w _) (by rw[FV.len_flat]) (aa _) fun j u a=>by rw[<-b] at a;simpa using a,rfl,c⟩
def awakeV (q:Nat):List FLV:=[⟨-1,⟨#[]⟩,none,0,[]⟩,⟨0,⟨#[97]⟩,some ⟨q,0,none⟩,1,[wA]⟩,⟨0,⟨#[]⟩,some ⟨q+1,0,none⟩,1,[wB]⟩]
theorem aXm(hm:Lm w):Calls prog 10 #[] w (BoolBelow true w):=by
 have O:=fun u=>aUk ⟨#[97]⟩ u;have P:=fun u=>aUk ⟨#[98]⟩ u;have Q:=fun u=>bFo (-1) u;have R:=aWt;have S:=aJw;obtain ⟨c,n⟩:∃V,V=w.alloc (.cells #[.string ⟨#[97]⟩,.bool false,.string ⟨#[]⟩] 48):=⟨_,rfl⟩;obtain ⟨d,o⟩:∃V,V=c.alloc (.cells #[.string ⟨#[98]⟩,.bool false,.string ⟨#[]⟩] 48):=⟨_,rfl⟩;obtain ⟨a,s⟩:∃V,V=d.alloc (.cells #[.int .i64 (-1),.string ⟨#[]⟩,.slice none 0 0,.int .i64 0,.string ⟨#[97]⟩,.slice (some ⟨w.heap.size,0,none⟩) 1 1,.int .i64 0,.string ⟨#[]⟩,.slice (some ⟨w.heap.size+1,0,none⟩) 1 1] 40):=⟨_,rfl⟩;have x:Below w.heap.size w c:=by rw[n];exact (Below.refl _ _).alloc (aa _) _
 have y:Below c.heap.size c d:=by rw[o];exact (Below.refl _ _).alloc (aa _) _
 have r:Below d.heap.size d a:=by rw[s];exact (Below.refl _ _).alloc (aa _) _
 have z:c.heap.size=w.heap.size+1:=by rw[n];simp
 have E:d.heap.size=w.heap.size+1+1:=by rw[o];simp[z]
 have b:=y.trans (r.mono y.size);have h:=x.trans (b.mono x.size);have F:RdF a a.heap.size (some ⟨w.heap.size,0,none⟩) 1 1 [wA]:=(show RdF c c.heap.size (some ⟨w.heap.size,0,none⟩) 1 1 [wA] by rw[n];exact aZq w [wA] _ rfl (by decide)).to b b.size;have G:RdF a a.heap.size (some ⟨w.heap.size+1,0,none⟩) 1 1 [wB]:=(show RdF d d.heap.size (some ⟨w.heap.size+1,0,none⟩) 1 1 [wB] by rw[o,<-z];exact aZq c [wB] _ rfl (by decide)).to r r.size
 have H:RdFl a a.heap.size (some ⟨w.heap.size+1+1,0,none⟩) 3 3 (awakeV w.heap.size):=by
  refine ⟨?_,rfl,fun f N=>?_⟩
  ·rw[s,<-E]
   exact aSt (au d _) rfl rfl
  simp only[awakeV,ax,d7,iw] at N;rcases N with rfl | rfl | rfl
  ·exact ⟨RdF.none_ _ _,al _,(show I64 (-1) from ⟨by decide,by decide⟩),al _⟩
  ·exact ⟨F,(show 1<=17592186044416 by decide),(show I64 0 from ⟨by decide,by decide⟩),(show 1<=140737488351232 by decide)⟩
  exact ⟨G,(show 1<=17592186044416 by decide),(show I64 0 from ⟨by decide,by decide⟩),al _⟩
 obtain ⟨I,p,q⟩:=aWf;have K:=aPw (l:=awakeV w.heap.size) (ms:=[]) (sl:=[]) (source:=1) (dest:=2) (hm.to h) (show 3<=64 by decide) (al _) (al _) H (RdM.none_ _ _) (RdS.none_ _ _);rw[show (awakeV w.heap.size).map FLV.pl=awakeL from rfl,dK,q] at K;replace K:Calls prog 13 #[.slice (some ⟨w.heap.size+1+1,0,none⟩) 3 3,.slice none 0 0,.int .i64 1,.int .i64 2,.slice none 0 0] a (MovedIs [] 0 (⟨[⟨2,⟨#[97]⟩,I⟩],[(1,[3])],-1,[],[]⟩,0) a):=K;have A:=hid h;have B:=hid (show a=((w.alloc (.cells #[.string ⟨#[97]⟩,.bool false,.string ⟨#[]⟩] 48)).alloc (.cells #[.string ⟨#[98]⟩,.bool false,.string ⟨#[]⟩] 48)).alloc (.cells #[.int .i64 (-1),.string ⟨#[]⟩,.slice none 0 0,.int .i64 0,.string ⟨#[97]⟩,.slice (some ⟨w.heap.size,0,none⟩) 1 1,.int .i64 0,.string ⟨#[]⟩,.slice (some ⟨w.heap.size+1,0,none⟩) 1 1] 40) by rw[s,o,n]);have j:=hid p;clear x y r z E b h F G H n o s q p;rw[B.out] at K;go_enter Tryz.func10,Tryz.ntmps10;go_wp2_with fail;refine K.mono ?_;rintro e w1 ⟨i,AN,AK,AF,AC,cn,ck,cf,cc,nl,kl,v,U,rfl,J,_,_,_,_⟩
 obtain ⟨g,rfl,L⟩:∃g,nl=[g]/\g.pl=⟨2,⟨#[97]⟩,I⟩:=by
  cases nl with
  | nil=>exact absurd (congrArg List.length v) (by simp)
  | cons g t=>
   cases t with
   | nil=>exact ⟨g,rfl,by injection v⟩
   | cons _ _=>exact absurd (congrArg List.length v) (by simp)
 obtain ⟨gp,gm,gA,gc,W⟩:=g;simp only[FLV.pl,FL.mk.injEq] at L;obtain ⟨rfl,rfl,rfl⟩:=L;obtain ⟨b0,o0,f,X,Y,C,D,g0,Z,M⟩:=J.get (k:=0) (show 0<1 by decide);injection C with C;subst C X;have T:W.length=2:=j.out;have m:=hid (A.out.trans (by rw[<-B.out] at i;exact i.mono A.out.size));rw[ed,dv] at g0 Z M;simp only[T] at M;clear K i O P Q R S B A v U J D j;dsimp only[aD,dU];go_wp2;go_ret;exact ⟨rfl,m.out.alloc m.out.size _⟩
theorem aXx {n k:Nat}{f:FL}(h:(playFl l n)[k]? = some f):-1<=f.parent/\f.parent<k/\∃x:List FV,f.files=playF x:=by
 unfold playFl at h;rw[List.getElem?_mapIdx] at h;obtain ⟨x,_,rfl⟩:=be.1 h;exact ⟨(aKh _ _).1,(aKh _ _).2,x.files,rfl⟩
theorem bDm {n N:Nat}(e:(playFl l n).length=N)(g:rightM (N:Int) ms=true):rightL (playFl l n) ms=true:=by
 unfold rightL;rw[e,g,Bool.and_true,ay];constructor
 ·refine aKd fun i p b=>?_
  unfold parF at b;rw[aG] at b;obtain ⟨f,a,rfl⟩:=be.1 b;exact ⟨(aXx a).1,(aXx a).2.1⟩
 rw[bF];intro f a;obtain ⟨k,c⟩:=kB a;obtain ⟨x,d⟩:=(aXx c).2.2;rw[d];exact bJm x
def RebIs (k:Int)(w:World)(e:Ending) (w':World):Prop:=
 Below w.heap.size w w'/\∃(A1 A2 A3 A4:Option Addr) (n1 c1 n2 c2 n3 c3 n4 c4:Nat) (x:Int),e=.returned (.tuple #[.agg #[.slice A1 n1 c1,.slice A2 n2 c2,.int .i64 x,.slice A3 n3 c3,.slice A4 n4 c4],.int .i64 k])
theorem aRw {l:List FLV}(h:nl.map FLV.pl=playFl (l.map FLV.pl) 12):nl.length<=12:=by
 have:=congrArg List.length h;rw[az] at this;have:=bDi (l.map FLV.pl) 12;omega
theorem bJo {l1:List FL}{c a:Int}(h:oneOn s l c a=.ok l1) :
  (mergedOn l s c a).2=([],0)/\l1=l++[⟨a,msgAt l c,(mergedOn l s c a).1⟩]:=by
 unfold oneOn at h;split at h
 ·cases h
 rename_i b;split at h
 ·cases h
 rename_i d;split at h
 ·cases h
 injection h with h;exact ⟨Prod.ext (jH.1 d) (jH.1 b),h.symm⟩
theorem bGm {c a:Int}{e:MR×Int}(h:oneOn s l c a=.error e):(e.2≠0->e.1=noMR)/\(e.2=0->e.1.clashes≠[]/\e.1.commit=c):=by
 unfold oneOn at h;split at h
 ·rename_i b
  injection h with h;subst h;exact ⟨fun _=>rfl,fun h=>absurd h b⟩
 split at h
 ·rename_i d
  injection h with h;subst h;exact ⟨fun h=>absurd rfl h,fun _=>⟨d,rfl⟩⟩
 split at h
 ·injection h with h
  subst h;exact ⟨fun _=>rfl,fun h=>absurd h (by decide)⟩
 cases h
def nowsF:List Int->Nat->List (Int×Int)->Nat->List (Int×Int)
 | [],_,now,_=>now
 | _::_,_,now,0=>now
 | c::cs,n,now,i+1=>nowsF cs (n+1) ((c,(n:Int))::now) i
def marksF:Nat->List Int->List (Int×List Int)
 | _,[]=>[]
 | n,c::cs=>(c,[(n:Int)])::marksF (n+1) cs
theorem aIx(cs:List Int)(n:Nat)(a:List (Int×Int)):nowsF cs n a 0=a:=by cases cs<;>rfl
theorem aUe:∀(cs:List Int) (n:Nat),(marksF n cs).length=cs.length
 | [],_=>rfl
 | _::cs,n=>congrArg (·+1) (aUe cs (n+1))
theorem bAw:∀(cs:List Int) (n i:Nat) {c:Int},cs[i]? = some c->(marksF n cs)[i]? = some (c,[((n+i:Nat):Int)])
 | [],_,_,_,h=>by cases h
 | x::cs,n,0,c,h=>by
  injection h with h;subst h;rfl
 | x::cs,n,i+1,c,h=>by
  have:=bAw cs (n+1) i (c:=c) h;rw[show n+1+i=n+(i+1) by omega] at this;exact this
theorem bLh {ps:List Int}:∀(cs:List Int) (b:List (Int×Int)) (l:List FL) (k:List (Int×List Int)) {o:List FL} {p:List (Int×List Int)},runF' s ps dest cs b l k=.ok (o,p)->
  ∃a:List FL,o=l++a/\a.length=cs.length/\p=k++marksF l.length cs/\∀(i:Nat) (c:Int),cs[i]? = some c->
   (mergedOn (l++a.take i) s c (nowF (nowsF cs l.length b i) dest (par ps c))).2=([],0)/\
   a[i]? = some ⟨nowF (nowsF cs l.length b i) dest (par ps c),msgAt (l++a.take i) c,(mergedOn (l++a.take i) s c (nowF (nowsF cs l.length b i) dest (par ps c))).1⟩
 | [],b,l,k,o,p,h=>by
  rw[runF'] at h;injection h with h;injection h with m h2;subst m h2;exact ⟨[],by simp,rfl,by simp[marksF],fun i c h=>by cases h⟩
 | c::cs,b,l,k,o,p,h=>by
  rw[runF'] at h
  cases m:oneOn s l c (nowF b dest (par ps c)) with
  | error e=>rw[m] at h;cases h
  | ok l1=>
   rw[m] at h;dsimp only at h;obtain ⟨t,n⟩:=bJo m;generalize y:(⟨nowF b dest (par ps c),msgAt l c,(mergedOn l s c (nowF b dest (par ps c))).1⟩:FL)=f at n;have j:l1.length=l.length+1:=(by rw[n];simp);obtain ⟨a,u,v,w,x⟩:=bLh cs _ _ _ h;refine ⟨f::a,by rw[u,n];simp,by simp[v],by rw[w,j];simp[marksF],fun i d g=>?_⟩
   cases i with
   | zero=>
    rw[iq] at g;injection g with g;subst g;rw[aIx,bi,aR];exact ⟨t,by rw[iq,y]⟩
   | succ i=>
    rw[bE] at g ⊢;obtain ⟨q,r⟩:=x i d g;rw[j,show l1++a.take i=l++(f::a).take (i+1) by rw[n,iW];simp] at q r;exact ⟨q,r⟩
theorem aYk {ps:List Int}{e:MR×Int}:∀(cs:List Int) (a:List (Int×Int)) (l:List FL) (k:List (Int×List Int)),runF' s ps dest cs a l k=.error e->
  (e.2≠0->e.1=noMR)/\(e.2=0->e.1.clashes≠[]/\e.1.commit∈cs)
 | [],_,_,_,h=>by rw[runF'] at h;cases h
 | c::cs,a,l,k,h=>by
  rw[runF'] at h
  cases f:oneOn s l c (nowF a dest (par ps c)) with
  | error x=>
   rw[f] at h;injection h with h;subst h;obtain ⟨d,b⟩:=bGm f;exact ⟨d,fun h=>⟨(b h).1,by rw[(b h).2];simp⟩⟩
  | ok l1=>
   rw[f] at h;obtain ⟨d,b⟩:=aYk cs _ _ _ h;exact ⟨d,fun h=>⟨(b h).1,am _ (b h).2⟩⟩
def ontoF (cs:List Int)(n:Nat)(dest q:Int):Nat->Int
 | 0=>dest
 | k+1=>if cs[k]? = some q then ((n+k:Nat):Int) else ontoF cs n dest q k
theorem aVp:∀(cs:List Int) (n:Nat) (a:List (Int×Int)) (i:Nat) {c:Int},cs[i]? = some c->nowsF cs n a (i+1)=(c,((n+i:Nat):Int))::nowsF cs n a i
 | [],_,_,_,_,h=>by cases h
 | x::cs,n,a,0,c,h=>by
  injection h with h;subst h;show nowsF cs (n+1) ((x,(n:Int))::a) 0=(x,((n+0:Nat):Int))::nowsF (x::cs) n a 0;rw[aIx,aIx];rfl
 | x::cs,n,a,i+1,c,h=>by
  have:=aVp cs (n+1) ((x,(n:Int))::a) i (c:=c) h;rw[show n+1+i=n+(i+1) by omega] at this;exact this
theorem aWi {cs:List Int}{n:Nat}:∀{i:Nat},i<=cs.length->nowF (nowsF cs n [] i) dest q=ontoF cs n dest q i
 | 0,_=>by rw[aIx];rfl
 | i+1,h=>by
  obtain ⟨c,a⟩:∃c,cs[i]? = some c:=⟨cs[i],ac O⟩;have ih:=aWi (cs:=cs) (n:=n) (i:=i) O;rw[aVp cs n [] i a,ontoF,a];unfold nowF at ih ⊢;rw[jV];by_cases e:c=q
  ·subst e
   rw[aW,ao rfl];rfl
  rw[ah (fun h=>e (fV h)),show (q == c)=false by simpa using fun h:q=c=>e h.symm];exact ih
theorem bFi {cs:List Int}{n:Nat}(a:-1<=dest)(b:dest<n):∀i:Nat,-1<=ontoF cs n dest q i/\ontoF cs n dest q i<((n+i:Nat):Int)
 | 0=>⟨a,b⟩
 | i+1=>by
  have:=bFi (cs:=cs) a b i;rw[ontoF];split<;>omega
theorem aVa {cs:List Int}{n:Nat}(h:q∉cs):∀i:Nat,ontoF cs n dest q i=dest
 | 0=>rfl
 | i+1=>by rw[ontoF,ah (fun e=>h (aC e))];exact aVa h i
theorem aIm {m:List FL}{i:Int}(h:i<l.length):filesAt (l++m) i=filesAt l i:=by
 unfold filesAt;by_cases a:i<0
 ·rw[ao a,ao a]
 rw[ah a,ah a,aZ O]
theorem bGg {m:List FL}{i:Int}(a:0<=i)(h:i<l.length):msgAt (l++m) i=msgAt l i:=by
 unfold msgAt;rw[aZ O]
theorem bMr {m:List FL}{i:Int}(a:0<=i)(h:i<l.length):par (parF (l++m)) i=par (parF l) i:=by
 unfold par parF;rw[aM,aZ (by rw[az];omega)]
theorem aNo {c p:Int}:mergedOn l [] c p=treemergeF (filesAt l (par (parF l) c)) (filesAt l p) (filesAt l c):=rfl
theorem aPe {a b c:List FV}(h:(treemergeF a b c).2.2=0):treeOk (treemergeF a b c).1=true:=by
 rw[treemergeF] at h ⊢;split at h
 ·exact absurd h (by decide)
 rename_i e;split at h
 ·exact absurd h (by decide)
 rename_i d;rw[ah e,ah d];simpa using d
theorem bHc {source:Int}{x:MR×Int}(h:rebaseF l ms source dest s=x) :
  (x.2≠0->x.1=noMR)/\(x.2=0->0<=x.1.commit->x.1.clashes≠[]):=by
 subst h;unfold rebaseF;split
 ·exact ⟨fun _=>rfl,fun h=>absurd h (by decide)⟩
 unfold allF;split
 ·exact ⟨fun _=>rfl,fun h=>absurd h (show ¬(23:Int)=0 by decide)⟩
 split
 ·exact ⟨fun _=>rfl,fun h=>absurd h (show ¬(14:Int)=0 by decide)⟩
 cases c:runF' s (parF l) dest (moved (parF l) ms source) [] l [] with
 | error e=>
  obtain ⟨a,b⟩:=aYk _ _ _ _ c;exact ⟨a,fun h _=>(b h).1⟩
 | ok q=>exact ⟨fun h=>absurd rfl h,fun _ h=>absurd h (show ¬(0:Int)<=-1 by decide)⟩
structure StandsF (l:List FL) (ms:List MV) (source dest:Int) (x:MR):Prop where
 len:x.new.length=(moved (parF l) ms source).length
 marks:x.marks=marksF l.length (moved (parF l) ms source)
 at_:∀(i:Nat) (c:Int),(moved (parF l) ms source)[i]? = some c->∃p:Int,p=(if c=source then dest else ontoF (moved (parF l) ms source) l.length dest (par (parF l) c) i)/\-1<=p/\p<((l.length+i:Nat):Int)/\
  ∃fs,treemergeF (filesAt l (par (parF l) c)) (filesAt (l++x.new) p) (filesAt l c)=(fs,[],0)/\x.new[i]? = some ⟨p,msgAt l c,fs⟩/\treeOk fs=true
theorem aRs {source:Int}{x:MR}(h:rebaseF l ms source dest []=(x,0))(K:x.commit<0):StandsF l ms source dest x:=by
 unfold rebaseF at h;split at h
 ·injection h with _ h;exact absurd h (by decide)
 rename_i ha;have ha:argsOk l ms source dest=true:=by simpa using ha
 unfold argsOk at ha;simp only[ay,bh] at ha;obtain ⟨⟨⟨k,v,w⟩,_⟩,y,z⟩:=ha;have n:rightP (parF l)=true:=by unfold rightL at k;simp only[ay] at k;exact k.1.1
 have b:(parF l).length=l.length:=by unfold parF;simp
 unfold allF at h;split at h
 ·injection h with _ h;exact absurd h (by decide)
 split at h
 ·injection h with _ h;exact absurd h (by decide)
 cases j:runF' [] (parF l) dest (moved (parF l) ms source) [] l [] with
 | error e=>
  rw[j] at h;have h:e=(x,0):=h;obtain ⟨_,o⟩:=aYk _ _ _ _ j;rw[h] at o;have:=(aGd.1 (o rfl).2).2.1;have I:source<=x.commit:=this;omega
 | ok q=>
  obtain ⟨A,B⟩:=q;rw[j] at h;obtain ⟨a,C,D,E,F⟩:=bLh _ _ _ _ j
  have g:x.new=a/\x.marks=B:=by
   injection h with h _;rw[<-h];exact ⟨show A.drop l.length=a by rw[C,List.drop_left],rfl⟩
  refine ⟨by rw[g.1,D],by rw[g.2,E,aT],fun i c m=>?_⟩;obtain ⟨q1,q2⟩:=F i c m;have r:i<(moved (parF l) ms source).length:=(aj.1 m).1;obtain ⟨_,J,f,_⟩:=aGd.1 (aC m);rw[b] at f;rw[aWi O] at q1 q2;obtain ⟨G,p⟩:=bFi (cs:=moved (parF l) ms source) (q:=par (parF l) c) y z i
  have s:ontoF (moved (parF l) ms source) l.length dest (par (parF l) c) i=if c=source then dest else ontoF (moved (parF l) ms source) l.length dest (par (parF l) c) i:=by
   split
   ·rename_i e
    subst e;refine aVa (fun H=>?_) i;have:=(aGd.1 H).2.1;have:=(aBl n v (by rw[b];exact w)).2;omega
   rfl
  refine ⟨_,s,G,p,(mergedOn (l++a.take i) [] c (ontoF (moved (parF l) ms source) l.length dest (par (parF l) c) i)).1,?_,?_,?_⟩
  ·rw[g.1]
   have t:l++a=(l++a.take i)++a.drop i:=(by rw[aH,aY]);have d:(l++a.take i).length=l.length+i:=(by rw[ae,aE];omega);have u:=(aBl n (i:=c) O (by rw[b];exact f)).2;rw[t,aIm (by rw[d];exact p)];rw[aNo,bMr O f,aIm (show par (parF l) c<l.length by omega),aIm f] at q1 ⊢;exact Prod.ext rfl q1
  ·rw[g.1,q2,bGg O f]
  rw[aNo] at q1 ⊢;exact aPe (congrArg Prod.snd q1)
theorem aUh {n c:Nat}{l:List FLV}(I:n<=1000000)(s:RdFl w w.heap.size A n c l) :
  Calls prog 15 #[.slice A n c] w (Ints (·=l.map FLV.parent) w):=by
 have x:=hid s;have u:=hid s.len;clear s;go_enter Tryz.func15,Tryz.ntmps15;go_wp2;go_loopw[3,4] (fun ov i wr=>∃k:Nat,k<=n/\i=.int .i64 k/\Below w.heap.size w wr/\wr.ownsRow w.heap.size 3 1 ov k (((l.take k).map FLV.parent).map (.int .i64))) (fun _ i _=>n-(intOf i).toNat)
 case atStart=>exact ⟨0,al _,rfl,Below.refl _ _,by rw[bi];exact aA _ _ _ _⟩
 obtain ⟨k,F,rfl,e,h⟩:=hrel;by_cases t:k<n
 ·obtain ⟨z,B,f,rfl,m,v,_,g0,_,_⟩:=x.out.get t
  replace g0:=(e.cell (p:=⟨z,B+k*3,none⟩) m).trans g0;have y:=hid v;clear v;have b:=e.alloc e.size (.cells #[.int .i64 f.parent] 3);have d:=h.alloc (.cells #[.int .i64 f.parent] 3);go_wp2_with (at_builtin;refine aAl rfl (.tmp 11) (.tmp 17) 36 rfl E28 rfl rfl d (aEu wr f.parent) (aCn _) (by unfold maxLen;omega) O b.size ?_;intro G H o q C);go_roundw
  case rel=>
   refine ⟨k+1,O,by go_num,b.grown q b.size (fun g E=>(d.lt g E).1),?_⟩;rw[aB,y.out,aM,aM];exact o
  simp[intOf];omega
 have j:k=n:=O;subst j;rw[ai (by rw[u.out];omega)] at h;obtain ⟨A',D,rfl,r⟩:=aAd h;go_wp2;go_ret;have a:(l.map FLV.parent).length=k:=by rw[az];exact u.out
 exact ⟨A',D,l.map FLV.parent,by rw[a];rfl,by rw[a];exact Rd.of_own h r,e,rfl⟩
theorem aXj {x y:MV}(j:x.new.length<=maxLen)(k:y.new.length<=maxLen)(l:Rd w w.heap.size 1 x.A x.new.length x.c (x.new.map (.int .i64)))(m:Rd w w.heap.size 1 y.A y.new.length y.c (y.new.map (.int .i64))) :
  Calls prog 16 #[.agg #[.int .i64 x.old,.slice x.A x.new.length x.c],.agg #[.int .i64 y.old,.slice y.A y.new.length y.c]] w (BoolBelow (decide (x.old=y.old) && decide (x.new=y.new)) w):=by
 obtain ⟨g,o,p,xs⟩:=x;obtain ⟨h,q,r,ys⟩:=y;dsimp only at *;have d:Below w.heap.size w (w.alloc (.cells #[.int .i64 g,.slice o xs.length p] 43)):=(Below.refl _ _).alloc (aa _) _;have a:=d.alloc d.size (.cells #[.int .i64 h,.slice q ys.length r] 43);have K:=bDu j k (aa _) (l.to a a.size) (m.to a a.size);have f:=hid a;clear l m j k d a;go_enter Tryz.func16,Tryz.ntmps16;by_cases b:g=h
 ·subst b
  go_wp2_with fail;refine K.mono ?_;rintro e t ⟨rfl,i⟩;go_wp2;go_ret;exact ⟨by simp,f.out.trans (i.mono f.out.size)⟩
 clear K;have s:(g == h)=false:=by simpa using b
 have n:=hid b;clear b;go_wp2;go_ret;refine ⟨?_,f.out⟩;rw[ak n.out];rfl
theorem RdFl.app {n:Nat}{v:Value}{l k:List FLV}(a:w.ownsRow base 40 3 v (n+m) (l.flatMap FLV.cells++k.flatMap FLV.cells))(e:l.length=n)(g:k.length=m)
  (h:∀f∈l,RdF w w.heap.size f.A f.files.length f.c f.files/\f.files.length<=17592186044416/\I64 f.parent/\f.msg.size<=140737488351232) (i:∀f∈k,RdF w w.heap.size f.A f.files.length f.c f.files/\f.files.length<=17592186044416/\I64 f.parent/\f.msg.size<=140737488351232) :
  ∃A c,v=.slice A (n+m) c/\RdFl w w.heap.size A (n+m) c (l++k):=by
 obtain ⟨A,c,rfl,b⟩:=aAd a;exact ⟨A,c,rfl,by rw[aJ];exact Rd.of_own a b,by rw[ae,e,g],fun f d=>(aQ.1 d).elim (h f) (i f)⟩
def rowP (a b:List ByteArray)(i k:Nat):List Value:=(List.range (b.length+1)).map fun j=>Value.int .i64 ((if k<=j then cel a b i j else 0:Nat):Int)
theorem bAr(a b:List ByteArray)(i k:Nat):(rowP a b i k).length=b.length+1:=by simp[rowP]
theorem aFy {i k:Nat}(d:j<=b.length)(c:k<=j):(rowP a b i k)[j]? = some (.int .i64 (cel a b i j)):=by
 simp[rowP,g9 (show j<b.length+1 by omega),c]
theorem bIj(a b:List ByteArray)(i:Nat):rowP a b i b.length=List.replicate (b.length+1) (.int .i64 0):=by
 refine cR (by simp[rowP]) fun j c d=>?_;simp only[rowP,cS,cM,fN];simp only[bAr] at c;split
 ·rename_i h
  have:j=b.length:=O;subst this;rw[aYx];rfl
 rfl
theorem bEx(a b:List ByteArray):rowP a b a.length 0=List.replicate (b.length+1) (.int .i64 0):=by
 refine cR (by simp[rowP]) fun j c d=>?_;simp only[rowP,cS,fN,al,fj,aSp];rfl
theorem bKc(a b:List ByteArray)(i k:Nat):(rowP a b i (k+1)).set k (.int .i64 (cel a b i k))=rowP a b i k:=by
 refine cR (by simp[rowP]) fun j d e=>?_;rw[fD];split
 ·rename_i h
  subst h;simp[rowP]
 rename_i h;simp only[rowP,cS,cM];by_cases c:k<=j
 ·rw[ao (show k+1<=j by omega),ao c]
 rw[ah (show ¬k+1<=j by omega),ah c]
theorem Owns.insNil {l1 b:List OR}(h:Owns w base (l1++b))(e:TypeId)(sz:Nat):Owns w base (l1++⟨e,sz,.slice none 0 0,0,[]⟩::b):=by
 refine ⟨fun r a=>?_,?_⟩
 ·simp only[aQ,ax] at a
  rcases a with a | rfl | a
  ·exact h.own r (by simp[a])
  ·exact aA _ _ _ _
  exact h.own r (by simp[a])
 have:=h.nd;simpa[gh,dT,Value.ownBlock] using this
theorem Owns.ins {l1 a:List OR}{r:OR}(h:Owns w base (l1++a))(b:w.grownBy w' none)(c:w'.ownsRow base r.e r.sz r.v r.n r.xs)(d:r.v.ownBlock=some w.heap.size) :
  Owns w' base (l1++r::a):=Owns.turn (r:=⟨r.e,r.sz,.slice none 0 0,0,[]⟩) (h.insNil r.e r.sz) b c (.inr d)
abbrev rowV (m g:Nat):Value:=.slice (some ⟨g,0,none⟩) (m+1) (m+1)
def tcells (m i:Nat)(rs:List (Nat×List Value)):List Value:=List.replicate i (.slice none 0 0)++rs.map fun r=>rowV m r.1
def trows (m:Nat)(rs:List (Nat×List Value)):List OR:=rs.map fun r=>⟨3,1,rowV m r.1,m+1,r.2⟩
def TB (w:World)(base g0 n m i:Nat)(rs:List (Nat×List Value)):Prop:=Owns w base (⟨36,1,rowV n g0,n+1,tcells m i rs⟩::trows m rs)
section
variable {w w':World} {base g0 n m i:Nat} {rs:List (Nat×List Value)}
theorem TB.drew(h:TB w base g0 n m i rs):TB w.drew base g0 n m i rs:=Owns.drew h
theorem TB.top(h:TB w base g0 n m i rs):w.ownsRow base 36 1 (rowV n g0) (n+1) (tcells m i rs):=h.own _ (bu ..)
theorem TB.at_(h:TB w base g0 n m i rs){q:Nat}{r:Nat×List Value}(c:rs[q]? = some r) :
  w.cell? ⟨g0,i+q,none⟩=some (rowV m r.1)/\w.ownsRow base 3 1 (rowV m r.1) (m+1) r.2:=by
 have d:=h.top.1
 have a:(tcells m i rs)[i+q]? = some (rowV m r.1):=by
  rw[tcells,a6 (by simp)];simp[c]
 have b:i+q<(n+1)*1:=by rw[<-d];exact (aj.1 a).1
 refine ⟨by rw[h.top.cellAt _ b];exact a,?_⟩;exact h.own (⟨3,1,rowV m r.1,m+1,r.2⟩:OR) (am _ (ce.2 ⟨r,aC c,rfl⟩))
theorem aDt {n c:Nat}{e:TypeId}(h:w.ownsRow base e 1 (.slice (some ⟨g,0,none⟩) n c) n xs){j:Nat}{u:Value}(a:xs[j]? = some u):w.cell? ⟨g,j,none⟩=some u:=by
 have b:=h.1;rw[h.cellAt j (by rw[<-b];exact (aj.1 a).1),a]
theorem TB.push(h:TB w base g0 n m (i+1) rs){g:Nat}{xs:List Value}(d:w.grownBy w' none)(f:w'.ownsRow base 3 1 (rowV m g) (m+1) xs)(j:g=w.heap.size) :
  TB (w'.setCell ⟨g0,i,none⟩ (rowV m g)) base g0 n m i ((g,xs)::rs):=by
 have b:Owns w' base ([⟨36,1,rowV n g0,n+1,tcells m (i+1) rs⟩]++⟨3,1,rowV m g,m+1,xs⟩::trows m rs):=Owns.ins (r:=⟨3,1,rowV m g,m+1,xs⟩) h d f (by rw[j];rfl);have c:=fi (b.own (⟨36,1,rowV n g0,n+1,tcells m (i+1) rs⟩:OR) (by simp)) i (rowV m g);refine Owns.turn (l1:=[]) (r:=⟨36,1,rowV n g0,n+1,tcells m (i+1) rs⟩) (r':=⟨36,1,rowV n g0,n+1,tcells m i ((g,xs)::rs)⟩) b c.2 ?_ (.inl rfl)
 have e:(tcells m (i+1) rs).set i (rowV m g)=tcells m i ((g,xs)::rs):=by
  unfold tcells;rw[List.replicate_succ',aH,List.set_append_right _ _ (by simp)];simp
 have a:=c.1;simp only at a;rw[e] at a;exact a
theorem TB.store(h:TB w base g0 n m i ((g,xs)::rs))(k:Nat)(u:Value):TB (w.setCell ⟨g,k,none⟩ u) base g0 n m i ((g,xs.set k u)::rs):=by
 have a:=fi (h.at_ (q:=0) rfl).2 k u;exact Owns.turn (l1:=[⟨36,1,rowV n g0,n+1,tcells m i ((g,xs)::rs)⟩]) (r:=⟨3,1,rowV m g,m+1,xs⟩) (r':=⟨3,1,rowV m g,m+1,xs.set k u⟩) h a.2 a.1 (.inl rfl)
theorem TB.start(h:w.ownsRow base 36 1 (rowV n g0) (n+1) (List.replicate (n+1) (.slice none 0 0))):TB w base g0 n m (n+1) []:=
 ⟨fun r a=>by obtain rfl:=aS.1 a;simpa[tcells] using h,by simp[trows,Value.ownBlock]⟩
theorem TB.same(h:TB w base g0 n m i rs)(a:w.grownBy w' none):TB w' base g0 n m i rs:=Owns.same h a
theorem TB.slot(h:TB w base g0 n m (i+1) rs):w.cell? ⟨g0,i,none⟩=some (.slice none 0 0):=
 aDt h.top (by rw[tcells,aZ (by simp)];simp)
theorem TB.frz(h:TB w base g0 n m i rs)(j:Nat):w.frozen? ⟨g0,j,none⟩=false:=h.top.frozenAt j
theorem TB.frz1(h:TB w base g0 n m i ((g,xs)::rs))(j:Nat):w.frozen? ⟨g,j,none⟩=false:=(h.at_ (q:=0) rfl).2.frozenAt j
theorem TB.len(h:TB w base g0 n m i rs):i+rs.length=n+1:=by
 have:=h.top.1;simpa[tcells] using this
end
theorem E79:Elem1 prog 188 36 24 (.slice none 0 0):=aSg (aCa T) T rfl
theorem E64:Elem1 prog 36 3 8 (.int .i64 0):=aSg (aCa T) T rfl
def RC (a b:List ByteArray)(i:Nat)(rs:List (Nat×List Value)):Prop:=∀q r,rs[q]? = some r->r.2=rowP a b (i+q) 0
def TableIs (a b:List ByteArray)(w:World)(e:Ending) (w':World):Prop:=
 ∃g0 rs,e=.returned (rowV a.length g0)/\TB w' w.heap.size g0 a.length b.length 0 rs/\RC a b 0 rs/\Below w.heap.size w w'
theorem aUl {n:Nat}(hn:n<=1048576)(hm:m<=1048576)
  (ha:Rd w w.heap.size 1 A n ca (a.map .string)) (hb:Rd w w.heap.size 1 B m cb (b.map .string)) :
  Calls prog 138 #[.slice A n ca,.slice B m cb] w (TableIs a b w):=by
 have HA:=hid (show a.length=n by have:=ha.len;simpa using this);have W:=hid (show b.length=m by have:=hb.len;simpa using this);have nP:=ha.cap;have nQ:=hb.cap;have nH:=hid (show 24*(n+1)<=281474976710656 by omega);have nI:=hid (show n+1<=maxLen by simp only[maxLen];omega);have ns:=hid (show 8*(m+1)<=281474976710656 by omega);have nu:=hid (show m+1<=maxLen by simp only[maxLen];omega);go_enter Tryz.func138,Tryz.ntmps138
 go_wp2_with first
  | (at_make;refine aFv rfl (.tmp 10) (.tmp 10) 188 rfl E79 w.heap.size (n+1) rfl rfl rfl rfl nH.out nI.out (aa _) ?_;intro w1 F c;have ff:=hid (TB.start (m:=m) F);have nw:=hid ((Below.refl w.heap.size w).grown c (aa _) (fun g hg=>by cases hg));clear F)
  | (at_make;refine aFv rfl (.tmp 17) (.tmp 17) 36 rfl E64 w.heap.size (m+1) rfl rfl rfl rfl ns.out nu.out c.size ?_;intro w2 G d;have nj:=hid (TB.same ff.out d);have q0:=nj.out.slot;have q1:=nj.out.frz n;have nz:=hid (TB.push ff.out d G rfl);have nA:=hid ((nw.out.grown d c.size (fun g hg=>by cases hg)).setCell (p:=⟨w.heap.size,n,none⟩) (aa _) (rowV m w1.heap.size)))
 have nB:Hid (RC a b n [(w1.heap.size,List.replicate (m+1) (.int .i64 0))]):=by
  intro q r hq
  match q with
  | 0=>
   cases hq
   show _=rowP a b n 0;rw[<-HA.out,bEx,W.out]
  | q+1=>simp at hq
 clear ff nj q0 q1 G c d nw;generalize (w2.setCell ⟨w.heap.size,n,none⟩ (rowV m w1.heap.size))=w3 at *
 go_loopw[6] (fun i wr=>∃(j:Nat) (rs:List (Nat×List Value)),j<=n/\i=.int .i64 ((j:Int)-1)/\Below w.heap.size w wr/\Hid (TB wr w.heap.size w.heap.size n m j rs)/\Hid (RC a b j rs))
   (fun i _=>(intOf i+1).toNat)
 case atStart=>exact ⟨n,_,aa _,rfl,nA.out,nz.out,nB.out⟩
 clear nz nA nB;obtain ⟨j,rs,hj,rfl,s,K,HC⟩:=hrel
 cases j with
 | zero=>
  have nJ:=hid s;clear s;go_wp2;go_ret;exact ⟨w.heap.size,rs,by rw[HA.out];rfl,by rw[HA.out,W.out];exact K.out,HC.out,nJ.out⟩
 | succ j=>
  have nC:=K.out.len
  obtain ⟨⟨L,nR⟩,rest,rfl⟩:∃r l,rs=r::l:=by cases rs with
   | nil=>simp at nC;omega
   | cons r l=>exact ⟨r,l,rfl⟩
  have nD:=HC.out 0 _ rfl;simp only[dv] at nD;subst nD;obtain ⟨ba,oa,x,rfl,nL,nM,S⟩:=ha.str (k:=j) ω;have X:=s.size;have HW:=hid s;clear s;go_wp2_with (at_make;refine aFv rfl (.tmp 31) (.tmp 31) 36 rfl E64 w.heap.size (m+1) rfl rfl rfl rfl ns.out nu.out X ?_;intro w4 H f;have nk:=hid (TB.same K.out f);have q0:=nk.out.slot;have q1:=nk.out.frz j;have nm:=hid (TB.push K.out f H rfl);have nE:=hid ((HW.out.grown f X (fun g hg=>by cases hg)).setCell (p:=⟨w.heap.size,j,none⟩) (aa _) (rowV m wr.heap.size)));have nK:Hid (rowP a b j m=List.replicate (m+1) (.int .i64 0)):=by have:=bIj a b j;rw[W.out] at this;exact this
  rw[<-nK.out] at nm;clear nk q0 q1 H f K HW;have nO:=hid (aa wr.heap.size);generalize w4.setCell ⟨w.heap.size,j,none⟩ (rowV m wr.heap.size)=w5 at *;generalize wr.heap.size=C at *
  go_loopw[7] (fun k wr=>∃(q:Nat),q<=m/\k=.int .i64 ((q:Int)-1)/\Below w.heap.size w wr/\Hid (TB wr w.heap.size w.heap.size n m j ((C,rowP a b j q)::(L,rowP a b (j+1) 0)::rest)))
    (fun k _=>(intOf k+1).toNat)
  case atStart=>exact ⟨m,aa _,rfl,nE.out,nm.out⟩
  clear nm nE;obtain ⟨q,hq,rfl,s,K⟩:=hrel;have HW:=hid s;clear s
  cases q with
  | zero=>
   go_wp2;go_roundw
   case rel=>
    refine ⟨j,_,ω,by go_num,HW.out,K,?_⟩;intro q r nF
    match q with
    | 0=>cases nF;rfl
    | q+1=>
     have:=HC.out q r nF;rw[this,show j+1+q=j+(q+1) from ω]
   simp[intOf]
  | succ q=>
   rw[show ((q+1:Nat):Int)-1=(q:Int) from ω];obtain ⟨bb,ob,y,rfl,nN,nG,U⟩:=hb.str (k:=q) ω;have HX:=hid nM;have HY:=hid nG;clear nG;go_wp2;refine aAe (fun w'=>Below w.heap.size w w') (qs 9) mixed κ HW.out.drew ?_;intro T M Q hT I t hQ;have Y:M ⟨ba,oa+j,none⟩=some (.string x):=t _ _ fun w' h=>(h.cell (p:=⟨ba,oa+j,none⟩) nL).trans S;have Z:M ⟨bb,ob+q,none⟩=some (.string y):=t _ _ fun w' h=>(h.cell (p:=⟨bb,ob+q,none⟩) nN).trans U;clear t;simp only[qcmp];simp (maxSteps:=9^7) only[↓qpre,aAb,aAg,aAc,Y,Z];refine ⟨⟨ω,ω⟩,⟨ω,ω⟩,hQ _ _ ?_⟩;clear hQ hT I Y Z;have hc:=K.out;obtain ⟨c1,o1⟩:=hc.at_ (q:=0) rfl;obtain ⟨c2,o2⟩:=hc.at_ (q:=1) rfl;have v1:wr.cell? ⟨C,q+1,none⟩=some (.int .i64 (cel a b j (q+1))):=aDt o1 (aFy (by rw[W.out];omega) (aa _));have v2:wr.cell? ⟨L,q+1,none⟩=some (.int .i64 (cel a b (j+1) (q+1))):=aDt o2 (aFy (by rw[W.out];omega) (al _));have v3:wr.cell? ⟨L,q,none⟩=some (.int .i64 (cel a b (j+1) q)):=aDt o2 (aFy (by rw[W.out];omega) (al _));have D:=aRm HX.out HY.out;have l1:=aLl a b j (q+1);have l2:=aLl a b (j+1) (q+1);have l3:=aLl a b (j+1) q;rw[HA.out] at l1 l2 l3;have V:=hid (And.intro c1 (And.intro c2 (And.intro v1 (And.intro v2 v3))));have HS:=hid D
   have N:∀u:Int,u=(cel a b j q:Nat)->Hid (TB (wr.setCell ⟨C,q,none⟩ (.int .i64 u)) w.heap.size w.heap.size n m j ((C,rowP a b j q)::(L,rowP a b (j+1) 0)::rest)):=by
    rintro u rfl;have:=TB.store hc q (.int .i64 (cel a b j q));rw[bKc] at this;exact this
   have O:=hid (o1.lt C rfl).1;have P:=hid (hc.frz1 q)
   have R:Hid ((wr.cell? ⟨C,q,none⟩).isSome=true):=by
    obtain ⟨_,hh⟩:=aj.1 (aFy (a:=a) (b:=b) (i:=j) (k:=0) (j:=q) (by rw[W.out];omega) (al _));have e:∃u,(rowP a b j (q+1))[q]? = some u:=⟨_,ac (by rw[bAr,W.out];omega)⟩;obtain ⟨u,hu⟩:=e;have:=aDt o1 hu;unfold Hid;rw[this];rfl
   clear hc c1 c2 o1 o2 v1 v2 v3 D;have T1:∀z:Nat,((z:Int)+1).toNat=z+1:=fun z=>by omega
   cases hd:decide (x=y)
   ·have E:=cj hd
    rw[ah E] at HS;clear hd E;go_wp2;refine aAq (fun w'=>∀p:Addr,w'.cell? p=wr.cell? p) (qs 23) [23] mixed κ (fun p=>rfl) ?_;intro T M Q Q2 hT I t hQ J;have Y:M ⟨w.heap.size,j,none⟩=some (rowV m C):=t _ _ fun w' h=>(h _).trans V.out.1;have Z:M ⟨w.heap.size,j+1,none⟩=some (rowV m L):=t _ _ fun w' h=>(h _).trans V.out.2.1;have m2:M ⟨C,q+1,none⟩=some (.int .i64 (cel a b j (q+1))):=t _ _ fun w' h=>(h _).trans V.out.2.2.1;have m3:M ⟨L,q+1,none⟩=some (.int .i64 (cel a b (j+1) (q+1))):=t _ _ fun w' h=>(h _).trans V.out.2.2.2.1;have m4:M ⟨L,q,none⟩=some (.int .i64 (cel a b (j+1) q)):=t _ _ fun w' h=>(h _).trans V.out.2.2.2.2;clear t;simp only[qcmp];simp (maxSteps:=9^7) only[↓qpre,aAb,aAg,aAc,Y,Z,m2,m4,rowV,T1];refine ⟨⟨ω,ω⟩,⟨ω,ω⟩,⟨ω,ω⟩,⟨ω,ω⟩,⟨ω,ω⟩,⟨ω,ω⟩,⟨ω,ω⟩,⟨ω,ω⟩,?_⟩;refine hQ _ _ ?_;simp only[lates,List.map,qcmp];simp (maxSteps:=9^7) only[aAb];refine aBa (v:=.int .i64 (max (cel a b (j+1) q:Int) (cel a b j (q+1)))) (b:=C) (o:=q) κ rfl rfl R.out P.out rfl ⟨trivial,?_⟩;simp (maxSteps:=9^7) only[aAb];refine J _ _ ?_;have nq:=N (max (cel a b (j+1) q:Int) (cel a b j (q+1))) (by have:=HS.out;omega);have nr:=hid (HW.out.setCell (p:=⟨C,q,none⟩) O.out (.int .i64 (max (cel a b (j+1) q:Int) (cel a b j (q+1)))));clear hQ J hT I Y Z m2 m3 m4 N V K R P O HS l1 l2 l3;go_wp2;go_roundw
    case rel=>exact ⟨q,ω,by go_num,nr.out.drew.drew,nq.out.drew.drew⟩
    simp[intOf]
   have E:=aP hd;rw[ao E] at HS;clear hd E;go_wp2;refine aAq (fun w'=>∀p:Addr,w'.cell? p=wr.cell? p) (qs 16) [16] mixed κ (fun p=>rfl) ?_;intro T M Q Q2 hT I t hQ J;have Y:M ⟨w.heap.size,j,none⟩=some (rowV m C):=t _ _ fun w' h=>(h _).trans V.out.1;have Z:M ⟨w.heap.size,j+1,none⟩=some (rowV m L):=t _ _ fun w' h=>(h _).trans V.out.2.1;have m2:M ⟨C,q+1,none⟩=some (.int .i64 (cel a b j (q+1))):=t _ _ fun w' h=>(h _).trans V.out.2.2.1;have m3:M ⟨L,q+1,none⟩=some (.int .i64 (cel a b (j+1) (q+1))):=t _ _ fun w' h=>(h _).trans V.out.2.2.2.1;have m4:M ⟨L,q,none⟩=some (.int .i64 (cel a b (j+1) q)):=t _ _ fun w' h=>(h _).trans V.out.2.2.2.2;clear t;simp only[qcmp];simp (maxSteps:=9^7) only[↓qpre,aAb,aAg,aAc,Y,Z,m3,rowV,T1];refine ⟨⟨ω,ω⟩,⟨ω,ω⟩,⟨ω,ω⟩,⟨ω,ω⟩,⟨ω,ω⟩,⟨ω,ω⟩,⟨ω,ω⟩,?_⟩;refine hQ _ _ ?_;simp only[lates,List.map,qcmp];simp (maxSteps:=9^7) only[aAb];refine aBa (v:=.int .i64 ((cel a b (j+1) (q+1):Int)+1)) (b:=C) (o:=q) κ rfl rfl R.out P.out rfl ⟨trivial,?_⟩;simp (maxSteps:=9^7) only[aAb];refine J _ _ ?_;have nq:=N ((cel a b (j+1) (q+1):Int)+1) (by have:=HS.out;omega);have nr:=hid (HW.out.setCell (p:=⟨C,q,none⟩) O.out (.int .i64 ((cel a b (j+1) (q+1):Int)+1)));clear hQ J hT I Y Z m2 m3 m4 N V K R P O HS l1 l2 l3;go_wp2;go_roundw
   case rel=>exact ⟨q,ω,by go_num,nr.out.drew.drew,nq.out.drew.drew⟩
   simp[intOf]
theorem bFt(s:ByteArray)(f i:Nat):ofB ((s.data.toList.drop f).take (i-f))=s.extract f i:=by
 apply aCi;rw[aMe];simp[ofB]
structure CutL (s:ByteArray) (f i:Nat) (ps:List ByteArray):Prop where
 lines:linesF s=ps++(splitL (s.data.toList.drop f)).map ofB
 none_:10∉(s.data.toList.drop f).take (i-f)
theorem CutL.start(s:ByteArray):CutL s 0 0 []:=⟨rfl,by simp⟩
theorem CutL.skip {s:ByteArray}{f i:Nat}{ps:List ByteArray}(h:CutL s f i ps)(d:f<=i)(_hi:i<s.size)(b:s.data.toList[i]?≠some 10):CutL s f (i+1) ps:=by
 refine ⟨h.lines,fun a=>?_⟩;rw[show i+1-f=(i-f)+1 by omega,aB,bO,show f+(i-f)=i by omega] at a;rcases aQ.1 a with a | a
 ·exact h.none_ a
 cases c:s.data.toList[i]? with
 | none=>rw[c] at a;cases a
 | some x=>
  rw[c] at a b;simp only[cZ,aS] at a;exact b (by rw[a])
theorem CutL.line {s:ByteArray}{f i:Nat}{ps:List ByteArray}(h:CutL s f i ps)(g:f<=i)(e:i<s.size)(a:s.data.toList[i]? = some 10):CutL s (i+1) (i+1) (ps++[s.extract f (i+1)]):=by
 refine ⟨?_,by simp⟩;have b:i<s.data.toList.length:=by rw[bg];exact e
 have c:s.data.toList.drop f=(s.data.toList.drop f).take (i-f)++10::s.data.toList.drop (i+1):=by
  have d:(s.data.toList.drop f).drop (i-f)=10::s.data.toList.drop (i+1):=by
   rw[List.drop_drop,show f+(i-f)=i by omega,bp b];congr 1;rw[ac b] at a;injection a
  rw[<-d,aY]
 rw[h.lines,c,aJx h.none_,dc,aH,iE];congr 2;rw[<-bFt,show i+1-f=(i-f)+1 by omega,aB,bO,show f+(i-f)=i by omega,a];rfl
theorem CutL.done {s:ByteArray}{f:Nat}{ps:List ByteArray}(h:CutL s f s.size ps)(g:f<=s.size):linesF s=ps++if f<s.size then [s.extract f s.size] else []:=by
 have e:(s.data.toList.drop f).take (s.size-f)=s.data.toList.drop f:=ai (by rw[aN,bg];exact aa _);have b:=h.none_;rw[e] at b;rw[h.lines,aId b];congr 1;by_cases a:f<s.size
 ·rw[ao a,ah]
  ·rw[<-bFt,e];rfl
  intro c;have:=congrArg List.length c;rw[aN,bg] at this;have d:s.data.size=s.size:=rfl;simp at this;omega
 rw[ah a,ao]
 ·rfl
 exact fS (by rw[bg];show s.size<=f;omega)
theorem aEw {s:ByteArray}(L:s.size<=1000000):Calls prog 87 #[.string s] w (LinesIs (linesF s) w):=by
 have J:s.data.toList.length=s.size:=by rw[bg];rfl
 go_enter Tryz.func87,Tryz.ntmps87;go_wp2
 go_loopw[3,4,5] (fun H I A wr=>∃(f i:Nat) (ps:List ByteArray),i<=s.size/\f<=i/\I=.int .i64 f/\A=.int .i64 i/\Hid (CutL s f i ps)/\ps.length<=i/\
   Below w.heap.size w wr/\wr.ownsRow w.heap.size 9 1 H ps.length (ps.map .string)) (fun _ _ A _=>s.size-(intOf A).toNat)
 case atStart=>exact ⟨0,0,[],al _,aa _,rfl,rfl,hid (CutL.start _),aa _,Below.refl _ _,aA _ _ _ _⟩
 obtain ⟨f,i,ps,K,j,rfl,rfl,v,E,k,o⟩:=hrel;by_cases r:i<s.size
 ·have p:s.data.toList[i]? = some s[i]:=by
   have:=ac (l:=s.data.toList) (i:=i) O;rw[this];rfl
  by_cases b:s[i]=10
  ·have q:((s[i].toNat:Int) == 10)=true:=by rw[b];rfl
   rw[b] at p;have d:=hid (v.out.line j r p);have a:=k.alloc k.size (.cells #[.string (s.extract f (i+1))] 9);have c:=o.alloc (.cells #[.string (s.extract f (i+1))] 9);clear p b;go_wp2_with (at_builtin;refine aAl rfl (.tmp 16) (.tmp 22) 135 rfl aCq rfl rfl c (aSv wr (s.extract f (i+1))) (aAt _) (by unfold maxLen;omega) O a.size ?_;intro F G h m x);go_roundw
   case rel=>
    refine ⟨i+1,i+1,ps++[s.extract f (i+1)],O,O,by go_num,by go_num,d,by simp;omega,a.grown m a.size (fun g B=>(c.lt g B).1),?_⟩;rw[ae,aM];exact h
   simp[intOf];omega
  have q:((s[i].toNat:Int) == 10)=false:=by
   refine a7.2 fun e=>b (iR ?_);show s[i].toNat=10;omega
  have d:=hid (v.out.skip j r (by rw[p];intro e;injection e with e;exact b e));clear p b;go_wp2;go_roundw
  case rel=>exact ⟨f,i+1,ps,O,O,rfl,by go_num,d,O,k,o⟩
  simp[intOf];omega
 obtain rfl:i=s.size:=O;have d:=hid (v.out.done j);by_cases C:f<s.size
 ·rw[ao C] at d
  have a:=k.alloc k.size (.cells #[.string (s.extract f s.size)] 9);have c:=o.alloc (.cells #[.string (s.extract f s.size)] 9);go_wp2_with (at_builtin;refine aAl rfl (.tmp 30) (.tmp 34) 135 rfl aCq rfl rfl c (aSv wr (s.extract f s.size)) (aAt _) (by unfold maxLen;omega) O a.size ?_;intro F G h m x);have t:=a.grown m a.size (fun g B=>(c.lt g B).1);obtain ⟨y,z,rfl,n⟩:=aAd h;go_ret;refine ⟨y,z,by rw[d.out,ae];rfl,?_,t⟩;have:=Rd.of_own h n;rw[d.out,aM,ae];exact this
 rw[ah C,aR] at d;obtain ⟨y,z,rfl,n⟩:=aAd o;have u:=hid (Rd.of_own o n);have D:=hid k;clear o k;go_wp2;go_ret;exact ⟨y,z,by rw[d.out];rfl,by rw[d.out];exact u.out,D.out⟩
theorem aYm {n:Nat}(u:n<=1048576)(v:m<=1048576)
  (ha:Rd w w.heap.size 1 A n ca (a.map .string)) (i:Rd w w.heap.size 1 B m cb (b.map .string)) :
  Calls prog 115 #[.slice A n ca,.slice B m cb] w fun e w'=>e=.returned (.int .i64 (lcs a b:Nat))/\Below w.heap.size w w':=by
 have K:=aUl u v ha i;have x:=hid (show a.length=n by have:=ha.len;simpa using this);have y:=hid (show b.length=m by have:=i.len;simpa using this);clear ha i;go_enter Tryz.func115,Tryz.ntmps115;go_wp2_with fail;refine K.mono ?_;rintro e p ⟨g0,rs,rfl,d,h,f⟩;have c:=d.len
 obtain ⟨⟨s,xs⟩,rest,rfl⟩:∃r l,rs=r::l:=by
  cases rs with
  | nil=>simp at c
  | cons r l=>exact ⟨r,l,rfl⟩
 have j:=h 0 _ rfl;simp only[dv] at j;subst j;obtain ⟨t,k⟩:=d.at_ (q:=0) rfl;have z:p.cell? ⟨s,0,none⟩=some (.int .i64 (cel a b 0 0)):=aDt k (aFy (al _) (aa _));have o:Hid (cel a b 0 0=lcs a b):=hid (by unfold cel;rfl);have g:=hid f;obtain ⟨q1,_⟩:=d.at_ (q:=0) rfl;simp only[aO] at q1;have C:=hid d;have D:=hid h;clear d h f t k K c;go_wp2;go_ret;exact ⟨by rw[o.out];rfl,g.out⟩
theorem bBb {a b:ByteArray}(ha:a.size<=1000000)(K:b.size<=1000000) :
  Calls prog 85 #[.string a,.string b] w fun e w'=>e=.returned (.int .i64 (ratioF a b))/\Below w.heap.size w w':=by
 have H:=aBg a;have I:=aBg b;have c:=hid (show ratioF a b=if 400<(linesF a).length\/400<(linesF b).length then 0 else if (linesF a).length+(linesF b).length=0 then 100 else ((200*lcs (linesF a) (linesF b) / ((linesF a).length+(linesF b).length):Nat):Int) from rfl);generalize ratioF a b=R at *;have B:=aEw (s:=a) (w:=w) ha;go_enter Tryz.func85,Tryz.ntmps85;go_wp2_with fail;refine B.mono ?_;rintro e J ⟨N,O,rfl,n,g⟩;have C:=aEw (s:=b) (w:=J) K;go_wp2_with fail;refine C.mono ?_;rintro e P ⟨Q,S,rfl,o,d⟩;have h:=hid (g.trans (d.mono g.size));have i:=hid (n.to d d.size);have j:=hid o;clear B C n o g d;have q:=aQl (linesF a) (linesF b);generalize linesF a=x at *;generalize linesF b=y at *;by_cases A:x.length+y.length=0
 ·have f:=hid (c.out.trans ((ah ω).trans (ao A)))
  have k:x.length=0:=ω;have l:y.length=0:=ω;obtain rfl:=bj.1 k;obtain rfl:=bj.1 l;clear A k l q;go_wp2;go_ret;exact ⟨by rw[f.out];rfl,h.out⟩
 have m:(((x.length:Int)+y.length) == 0)=false:=by
  have:¬((x.length:Int)+y.length=0):=ω;simpa using this
 by_cases L:400<x.length
 ·have f:=hid (c.out.trans (ao (.inl L)))
  go_wp2;go_ret;exact ⟨by rw[f.out];rfl,h.out⟩
 by_cases M:400<y.length
 ·have f:=hid (c.out.trans (ao (.inr M)))
  go_wp2;go_ret;exact ⟨by rw[f.out];rfl,h.out⟩
 have f:=hid (c.out.trans ((ah ω).trans (ah A)));have D:=aYm ω ω i.out j.out;generalize lcs x y=v at *;generalize u:x.length=F at *;generalize z:y.length=G at *;clear u z i j m;have r:¬((F:Int)+G=0):=ω;have E:((F:Int)+G == 0)=false:=by simpa using r
 go_wp2_with fail;refine D.mono ?_;rintro e T ⟨rfl,p⟩;have t:=hid (h.out.trans (p.mono h.out.size));clear D p;go_wp2;go_ret;exact ⟨by rw[f.out];push_cast;rfl,t.out⟩
def leftB (l other:List FV):List Bool:=(List.range l.length).map (isLone l other)
def boolsV (l:List Bool):List Value:=l.map Value.bool
theorem aTs(l a:List FV):(leftB l a).length=l.length:=by simp[leftB]
theorem aNh(l:List Bool):∀u∈boolsV l,u.oneCell'=true:=by
 intro u a;obtain ⟨s,_,rfl⟩:=ce.1 a;rfl
theorem aXg:Elem prog 128 4 1 1:=aCa T
theorem aXv(w:World)(b:Bool)(g:Nat)(c:g=w.heap.size):Rd (w.alloc (.cells #[.bool b] 4)) (w.alloc (.cells #[.bool b] 4)).heap.size 1 (some ⟨g,0,none⟩) 1 1 (boolsV [b]):=by
 subst c
 exact ⟨rfl,aa _,fun _=>⟨_,0,rfl,by simp,fun j u a=>by
  rw[aO,World.cell?,au];simpa[boolsV] using a⟩⟩
theorem bJk(p:Nat->Bool)(k:Nat):(List.range (k+1)).map p=(List.range k).map p++[p k]:=by
 rw[eY,aM];rfl
def BitsIs (L:List Bool)(w:World)(e:Ending) (w':World):Prop:=∃v,e=.returned v/\w'.ownsRow w.heap.size 4 1 v L.length (boolsV L)/\Below w.heap.size w w'
theorem aUw {n:Nat}{l a:List FV}(hn:n<=100000)(hm:m<=100000)(ha:RdF w w.heap.size A n ca l)(hb:RdF w w.heap.size B m cb a) :
  Calls prog 84 #[.slice A n ca,.slice B m cb] w (BitsIs (leftB l a) w):=by
 have HL:=hid ha.len;unfold leftB;go_enter Tryz.func84,Tryz.ntmps84;go_wp2;go_loopw[5,6] (fun ff i wr=>∃k:Nat,k<=n/\i=.int .i64 k/\Hid (Below w.heap.size w wr)/\Hid (wr.ownsRow w.heap.size 4 1 ff k (boolsV ((List.range k).map (isLone l a))))) (fun _ i _=>n-(intOf i).toNat)
 case atStart=>exact ⟨0,al _,rfl,hid (Below.refl _ _),hid (aA _ _ _ _)⟩
 obtain ⟨k,hk,rfl,E,X⟩:=hrel;by_cases nj:k<n
 ·obtain ⟨F,U,f,rfl,nm,hx,N,T,h1,G⟩:=ha.get nj
  replace T:=(E.out.cell (p:=⟨F,U+k*3,none⟩) (by show F<_;omega)).trans T;replace G:=(E.out.cell (p:=⟨F,U+k*3+2,none⟩) (by show F<_;omega)).trans G;have r:=hid (bJk (isLone l a) k);have s:=hid (show isLone l a k=((findP a f.path).isNone && !decide (f.text=⟨#[]⟩)) by unfold isLone;rw[hx]);clear hx N h1;obtain ⟨Y,fx,Z⟩:=f;dsimp only at T G;have KF:=aEg (p:=Y) ω (hb.to E.out E.out.size);have K:=E.out.size;have L:F<wr.heap.size:=ω;generalize hP:(List.range k).map (isLone l a)=P at *;clear hP;go_wp2_with fail;refine KF.mono ?_;rintro e D ⟨rfl,z⟩;have H:=hid (E.out.trans (z.mono K));have M:=hid (aAf X.out z);replace G:=(z.cell (p:=⟨F,U+k*3+2,none⟩) L).trans G;have V:F<D.heap.size:=by have:=z.size;omega
  clear KF z E X T K L;generalize optF (findP a Y)=g at *;obtain ⟨O,Q,gt⟩:=g;dsimp only;have I:Below D.heap.size D (D.alloc (.cells #[.string O,.bool Q,.string gt] 48)):=(Below.refl _ _).alloc (aa _) _;have nk:=(I.cell (p:=⟨F,U+k*3+2,none⟩) V).trans G;have d:=hid (H.out.trans (I.mono H.out.size));have t:=hid (M.out.alloc (.cells #[.string O,.bool Q,.string gt] 48));clear I H M G
  cases J:findP a Y with
  | some y=>
    have u:Hid ((List.range (k+1)).map (isLone l a)=P++[false]):=(by unfold Hid;rw[r.out,s.out,J];simp);clear J r s;simp only[da];have b:=hid (d.out.alloc d.out.size (.cells #[.bool false] 4));have c:=hid (t.out.alloc (.cells #[.bool false] 4));have j:=hid (aXv (D.alloc (.cells #[.string O,.bool Q,.string gt] 48)) false (D.heap.size+1) (by simp));go_wp2_with (at_builtin;refine aAl rfl (.tmp 25) (.tmp 36) 128 rfl aXg rfl rfl c.out j.out (aNh _) (by unfold maxLen;omega) ω b.out.size ?_;intro v7 w7 o q C);have v:=hid (b.out.grown q b.out.size (fun g R=>(c.out.lt g R).1));have x:=hid o;clear o q C c b j t d;go_roundw
    case rel=>exact ⟨k+1,ω,by go_num,v,by rw[u.out];unfold boolsV;rw[aM];exact x⟩
    simp[intOf];omega
  | none=>
   simp only[dr];by_cases S:Z=⟨#[]⟩
   ·have u:Hid ((List.range (k+1)).map (isLone l a)=P++[false]):=by unfold Hid;rw[r.out,s.out,J];simp[S]
    subst S;clear J r s;have b:=hid (d.out.alloc d.out.size (.cells #[.bool false] 4));have c:=hid (t.out.alloc (.cells #[.bool false] 4));have j:=hid (aXv (D.alloc (.cells #[.string O,.bool Q,.string gt] 48)) false (D.heap.size+1) (by simp));go_wp2_with (at_builtin;refine aAl rfl (.tmp 25) (.tmp 36) 128 rfl aXg rfl rfl c.out j.out (aNh _) (by unfold maxLen;omega) ω b.out.size ?_;intro v7 w7 o q C);have v:=hid (b.out.grown q b.out.size (fun g R=>(c.out.lt g R).1));have x:=hid o;clear o q C c b j t d;go_roundw
    case rel=>exact ⟨k+1,ω,by go_num,v,by rw[u.out];unfold boolsV;rw[aM];exact x⟩
    simp[intOf];omega
   have u:Hid ((List.range (k+1)).map (isLone l a)=P++[true]):=(by unfold Hid;rw[r.out,s.out,J];simp[S]);have W:=aBi S
   have e1:Z.toList.isEmpty=false:=by
    cases h:Z.toList with
    | nil=>rw[h] at W;simp at W
    | cons=>rfl
   clear J r s S W;have b:=hid (d.out.alloc d.out.size (.cells #[.bool true] 4));have c:=hid (t.out.alloc (.cells #[.bool true] 4));have j:=hid (aXv (D.alloc (.cells #[.string O,.bool Q,.string gt] 48)) true (D.heap.size+1) (by simp));go_wp2_with (at_builtin;refine aAl rfl (.tmp 25) (.tmp 36) 128 rfl aXg rfl rfl c.out j.out (aNh _) (by unfold maxLen;omega) ω b.out.size ?_;intro v7 w7 o q C);have v:=hid (b.out.grown q b.out.size (fun g R=>(c.out.lt g R).1));have x:=hid o;clear o q C c b j t d;go_roundw
   case rel=>exact ⟨k+1,ω,by go_num,v,by rw[u.out];unfold boolsV;rw[aM];exact x⟩
   simp[intOf];omega
 obtain rfl:k=n:=ω;go_wp2;go_ret;refine ⟨_,rfl,?_,E.out⟩;rw[HL.out,az,List.length_range];exact X.out
def bitsL (n:Nat)(l:List Nat):List Bool:=(List.range n).map fun x=>decide (x∈l)
theorem aTn {n:Nat}{l:List Nat}(h:x<n):(boolsV (bitsL n l))[x]? = some (.bool (decide (x∈l))):=by
 simp[boolsV,bitsL,h]
theorem aUj(n:Nat)(l:List Nat)(i:Nat):(boolsV (bitsL n l)).set i (.bool false)=boolsV (bitsL n (l.filter fun k=>decide (k≠i))):=by
 refine cR (by simp[boolsV,bitsL]) fun j a b=>?_;rw[fD];simp only[boolsV,bitsL,cS,cM];split
 ·rename_i h;subst h;simp
 rename_i h;simp[aX,kF h]
theorem aQb(l a:List FV):leftB l a=bitsL l.length (loneF l a):=by
 unfold leftB bitsL;refine List.map_congr_left fun x b=>?_;rw[aEl]
 cases h:isLone l a x<;>simp[aX,h,bL.1 b]
def lookI (ps:List (Nat×Nat))(x:Nat):Int:=match ps.find? (fun p=>decide (p.1=x)) with
 | some p=>(p.2:Int)
 | none=>-1
theorem aKi(h:∀p∈ps,p.1≠x):lookI ps x=-1:=by
 unfold lookI;rw[cL.2 fun p a=>by simpa using h p a]
theorem aRb {i:Nat}(h:∀p∈ps,p.1≠i)(x:Nat):lookI (ps++[(i,j)]) x=if x=i then (j:Int) else lookI ps x:=by
 unfold lookI;rw[jA];by_cases a:x=i
 ·subst a
  rw[cL.2 fun p b=>by simpa using h p b];simp
 rw[ah a];have:([(i,j)]:List (Nat×Nat)).find? (fun p=>decide (p.1=x))=none:=by simp[kF a]
 rw[this,Option.or_none]
def toL (n:Nat)(ps:List (Nat×Nat))(k:Nat):List Int:=(List.range n).map fun x=>if x<k then lookI ps x else 0
def intsV (l:List Int):List Value:=l.map (Value.int .i64)
theorem aXl {n:Nat}{k:Nat}(h:x<n)(a:x<k):(intsV (toL n ps k))[x]? = some (.int .i64 (lookI ps x)):=by
 simp[intsV,toL,h,a]
theorem bKe {n:Nat}{k:Nat}(h:∀p∈ps,p.1≠k):(intsV (toL n ps k)).set k (.int .i64 (-1))=intsV (toL n ps (k+1)):=by
 refine cR (by simp[intsV,toL]) fun j c d=>?_;rw[fD];simp only[intsV,toL,cS,cM];split
 ·rename_i b;subst b;rw[ao O,aKi h]
 rename_i b;by_cases a:j<k
 ·rw[ao a,ao O]
 rw[ah a,ah O]
theorem aZy {n:Nat}{k i:Nat}(h:∀p∈ps,p.1≠i)(b:i<k):(intsV (toL n ps k)).set i (.int .i64 j)=intsV (toL n (ps++[(i,j)]) k):=by
 refine cR (by simp[intsV,toL]) fun x c d=>?_;rw[fD];simp only[intsV,toL,cS,cM,aRb h];split
 ·rename_i a;subst a;rw[ao b,ao rfl]
 rename_i a;rw[ah (kF a)]
def restL (base side:List FV)(i:Nat):List Nat:=(List.range' i (base.length-i)).filter (isLone base side)
theorem aPq(base side:List FV):restL base side 0=loneF base side:=by
 rw[aEl];unfold restL;rw[fh,List.range_eq_range']
theorem bHm(base side:List FV):restL base side base.length=[]:=by unfold restL;simp
theorem aKa {base side:List FV}{i:Nat}(h:i<base.length):restL base side i=(if isLone base side i then [i] else [])++restL base side (i+1):=by
 unfold restL;rw[show base.length-i=(base.length-(i+1))+1 by omega,mz,dG];split<;>simp
theorem bKx {base side:List FV}{i:Nat}(h:x∈restL base side i):i<=x/\x<base.length:=by
 obtain ⟨a,_⟩:=aX.1 h;have:=List.mem_range'.1 a;obtain ⟨k,b,c⟩:=this;omega
structure P1 (base side:List FV) (i:Nat) (is js:List Nat) (ps:List (Nat×Nat)):Prop where
 at_:∃kept,is=kept++restL base side i/\(∀x∈kept,x<i)/\sameF base side (loneF base side) (loneF side base)=(let r:=sameF base side (restL base side i) js;(ps++r.1,kept++r.2.1,r.2.2))
 keys:∀p∈ps,p.1<i/\p.1∉is
 asc:js.Pairwise (·<·)
 lt1:∀x∈is,x<base.length
 lt2:∀y∈js,y<side.length
 asc1:is.Pairwise (·<·)
theorem bAh(l a:List FV):(loneF l a).Pairwise (·<·):=by
 rw[aEl];exact List.Pairwise.filter _ List.pairwise_lt_range
theorem bHi {l a:List FV}(h:x∈loneF l a):x<l.length:=by
 rw[aEl] at h;exact bL.1 (aX.1 h).1
theorem P1.start(base side:List FV):P1 base side 0 (loneF base side) (loneF side base) []:=
 ⟨⟨[],by rw[aPq];rfl,by simp,by rw[aPq];simp⟩,by simp,bAh _ _,fun _ h=>bHi h,fun _ h=>bHi h,bAh _ _⟩
section
variable {base side:List FV} {i j:Nat} {is js:List Nat} {ps:List (Nat×Nat)}
theorem P1.key(h:P1 base side i is js ps):∀p∈ps,p.1≠i:=fun p a=>by have:=(h.keys p a).1;omega
theorem P1.pass(h:P1 base side i is js ps)(j:i<base.length)(k:i∉is):P1 base side (i+1) is js ps:=by
 obtain ⟨⟨a,rfl,n,c⟩,b,o,d,q,f⟩:=h
 have l:isLone base side i=false:=by
  cases e:isLone base side i with
  | false=>rfl
  | true=>rw[aKa j,e] at k;simp at k
 have m:restL base side i=restL base side (i+1):=by rw[aKa j,l];simp
 rw[m] at c b d f ⊢;exact ⟨⟨a,rfl,fun x r=>by have:=n x r;omega,c⟩,fun p g=>⟨by have:=(b p g).1;omega,(b p g).2⟩,o,d,q,f⟩
theorem P1.lone(h:P1 base side i is js ps)(d:i<base.length)(a:i∈is):restL base side i=i::restL base side (i+1):=by
 obtain ⟨⟨b,rfl,c,e⟩,f,g,j,k,l⟩:=h;rcases aQ.1 a with a | a
 ·have:=c i a;omega
 rw[aKa d];rw[(aX.1 a).2];rfl
theorem P1.skip(h:P1 base side i is js ps)(r:i<base.length)(s:i∈is)(t:∀j∈js,textAt side j≠textAt base i):P1 base side (i+1) is js ps:=by
 have e:=h.lone r s;obtain ⟨⟨a,rfl,m,f⟩,d,n,g,o,k⟩:=h;have c:js.find? (fun j=>decide (textAt side j=textAt base i))=none:=cL.2 fun j q=>by simpa using t j q
 rw[e,sameF,c] at f;rw[e] at d g k ⊢;refine ⟨⟨a++[i],by simp,?_,by rw[f];simp⟩,fun p l=>⟨by have:=(d p l).1;omega,(d p l).2⟩,n,g,o,k⟩;intro x b;rcases aQ.1 b with b | b
 ·have:=m x b;omega
 simp at b;omega
theorem P1.take(h:P1 base side i is js ps)(D:i<base.length)(E:i∈is)(F:j∈js)(G:textAt side j=textAt base i)(H:∀k∈js,k<j->textAt side k≠textAt base i) :
  P1 base side (i+1) (is.filter fun k=>decide (k≠i)) (js.filter fun k=>decide (k≠j)) (ps++[(i,j)]):=by
 have r:=h.lone D E;obtain ⟨⟨b,rfl,t,u⟩,n,v,w,C,z⟩:=h
 have m:js.find? (fun j=>decide (textAt side j=textAt base i))=some j:=by
  obtain ⟨q,A,rfl⟩:=bn F;refine aPm (j:=q) (ac A) (by simpa using G) fun a y ha o=>?_;obtain ⟨l,rfl⟩:=aj.1 o;have:=(bU.1 v) a q l A ha;simpa using H _ (fw l) this
 rw[r,sameF,m] at u;rw[r] at n w z ⊢;have s:i∉b:=fun c=>by have:=t i c;omega
 have g:i∉restL base side (i+1):=fun c=>by have:=(bKx c).1;omega
 have B:(b++i::restL base side (i+1)).filter (fun k=>decide (k≠i))=b++restL base side (i+1):=by
  rw[bX,dG,dg.2 (fun x f=>by simp;rintro rfl;exact s f),dg.2 (fun x f=>by simp;rintro rfl;exact g f)];simp
 rw[B];refine ⟨⟨b,rfl,fun x f=>by have:=t x f;omega,by rw[u];simp⟩,?_,v.filter _,?_,fun y o=>C y (aX.1 o).1,z.sublist (List.Sublist.append_left (j6 i _) b)⟩
 ·intro p e
  rcases aQ.1 e with e | e
  ·refine ⟨by have:=(n p e).1;omega,fun c=>(n p e).2 ?_⟩
   rcases aQ.1 c with d | d
   ·exact iO _ d
   exact go _ (am _ d)
  simp at e;subst e;refine ⟨by simp,fun c=>?_⟩;rcases aQ.1 c with d | d
  ·exact s d
  exact g d
 intro x f;refine w x ?_;rcases aQ.1 f with d | d
 ·exact iO _ d
 exact go _ (am _ d)
theorem P1.done(h:P1 base side base.length is js ps):sameF base side (loneF base side) (loneF side base)=(ps,is,js):=by
 obtain ⟨⟨a,rfl,c,b⟩,d,e,f,g,i⟩:=h;rw[b,bHm];simp[sameF]
end
end Go.Proofs.YtohblmepajhpaaaGreatDoor
