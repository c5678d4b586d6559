/- Texts of the walks, together: Walk: the document's Of: three texts, piece by piece. -/
import Derived.Test.YtcemkikgaeghjaaGreatDoorG40
set_option maxHeartbeats 16000000
set_option maxRecDepth 100000
open Go.Lib (hid)
namespace Go.Proofs.YtcemkikgaeghjaaGreatDoor
open Go.RowKit
structure LK (w0 w:World) (out:Value) (L:List KV):Prop where
 ex:∃H:List (List Value),w.ownsRow w0.heap.size 111 4 out L.length H.flatten/\KIns w (obs out) L H
 bel:Below w0.heap.size w0 w
theorem LK.start {w0 w:World}(hb:Below w0.heap.size w0 w):LK w0 w (.slice none 0 0) []:=⟨⟨[],World.ownsRow_nil _ _ _ _,trivial⟩,hb⟩
theorem LK.below {w0 w w':World}{out:Value}{L:List KV}(h:LK w0 w out L)(hb:Below w.heap.size w w'):LK w0 w' out L:=by
 obtain ⟨H,h1,h2⟩:=h.ex
 exact ⟨⟨H,aAe h1 hb,h2.keep (Keeps.of_below hb)⟩,h.bel.trans (hb.mono h.bel.size)⟩
theorem LK.obs_lt {w0 w:World}{out:Value}{L:List KV}(h:LK w0 w out L):∀b∈obs out,b<w.heap.size:=fun b hb=>by
 obtain ⟨H,h1,_⟩:=h.ex
 exact (h1.lt b (aJe hb)).2
theorem LK.push {w0 w w':World} {out v':Value}{L:List KV}{k:KV}{cs:List Value}{H:List (List Value)}(h1:w.ownsRow w0.heap.size 111 4 out L.length H.flatten)(h2:KIns w (obs out) L H)(hb:Below w0.heap.size w0 w)(hk:KIn w (obs out) k cs)
  (ho:w'.ownsRow w0.heap.size 111 4 v' (L.length+1) (H.flatten++cs)) (hg:w.grownBy w' out.ownBlock) (hv:v'.ownBlock=out.ownBlock\/v'.ownBlock=some w.heap.size):LK w0 w' v' (L++[k]):=by
 have e1:∀b∈obs out++obs v',b∈obs out\/w.heap.size<=b:=fun b hb=>by
  rcases List.mem_append.1 hb with hb | hb
  ·exact .inl hb
  have hb:=aJe hb
  rcases hv with hv | hv
  ·exact .inl (aHq (hv▸hb))
  rw[hv] at hb;injection hb with hb;exact .inr (by omega)
 have hkp:=Keeps.grown (l:=obs out++obs v') hg (fun g hg=>List.mem_append_left _ (aHq hg))
 have h3:KIns w (obs out++obs v') (L++[k]) (H++[cs]):=(h2.snoc hk).less e1
 have h4:KIns w' (obs v') (L++[k]) (H++[cs]):=(h3.keep hkp).less (fun b hb=>.inl (List.mem_append_right _ hb))
 refine ⟨⟨H++[cs],?_,h4⟩,hb.grown hg hb.size (fun g hg=>(h1.lt g hg).1)⟩
 rw[List.length_append,List.flatten_append]
 simpa using ho
theorem LK.done {w w2 wz:World}{v:Value}{L:List KV}(hb:Below w.heap.size w w2)(h:LK w2 wz v L):ChunksIs L w (.returned v) wz:=by
 obtain ⟨H,h1,h2⟩:=h.ex
 obtain ⟨A,c,rfl,hc⟩:=aAg h1
 exact ⟨A,c,H,rfl,Rd.of_own h1 hc,h2.less (fun b hb=>by cases hb),hb.trans (h.bel.mono hb.size)⟩
theorem aKj {w w':World}{A:Option Addr}{c i:Nat}{a b:List ByteArray}(h:Rd w w.heap.size 1 A a.length c (intsV (placesI a b)))(hb:Below w.heap.size w w')(hi:i<a.length) :
  ∃g o,A=some ⟨g,o,none⟩/\g<w.heap.size/\w'.cell? ⟨g,o+i,none⟩=some (.int .i64 (plI (keptAt a b i))):=by
 obtain ⟨g,o,e,hg,hc⟩:=h.at_ (by omega)
 exact ⟨g,o,e,hg,(hb.cell (p:=⟨g,o+i,none⟩) hg).trans (hc _ _ (aVl hi))⟩
theorem Rd.cutS {w:World}{n c l k:Nat}{A:Option Addr}{L:List ByteArray}(h:Rd w w.heap.size 1 A n c (L.map .string))(hl:l<=k)(hk:k<=n) :
  ∃A',(if c=l then A else A.map (·.add l))=A'/\Rd w w.heap.size 1 A' (k-l) (c-l) ((sliceF L l k).map .string)/\(sliceF L l k).length=k-l:=by
 refine ⟨_,rfl,?_,?_⟩
 ·have:=h.cut1 hl hk
  rw[<-List.map_take,<-List.map_drop] at this
  exact this
 have:=h.len
 rw[List.length_map] at this
 unfold sliceF
 rw[List.length_drop,List.length_take];omega
theorem aNc {u:World}{n c l k:Nat} {A A':Option Addr}{L:List ByteArray}(h:Rd u u.heap.size 1 A n c (L.map .string))(hl:l<=k)(hk:k<=n)(hq:(if c=l then A else A.map (·.add l))=A') :
  Rd u u.heap.size 1 A' (sliceF L l k).length (c-l) ((sliceF L l k).map .string):=by
 obtain ⟨A1,q1,r1,l1⟩:=Rd.cutS h hl hk
 rw[<-hq,q1,l1];exact r1
theorem aGc {P:Program}{S:World->Prop}{a:Act}{w:World}{K:Act->World->Prop}{dst:Option Tmp}{t ty:TypeId}{q:Bool}{g:Option (Tmp×Bool)}{z:Value}{cs:Array Value}(hz:∀w,(zeroValue t).run P w=.ok z w)(hc:z.cells=cs)
  (hK:S (w.alloc (.cells cs t))/\K (a.put dst (.pointer (some ⟨w.heap.size,0,none⟩))) (w.alloc (.cells cs t))):effq P S ⟨q,dst,.alloc t,ty,g⟩ a w K:=aCg hz (by rw[hc];exact hK)
theorem aTd {w2 w7 u:World}{v7:Value}{L:List KV}{R:List ByteArray}{B1 B2 B3:Option Addr}{d1 d2 d3 n:Nat}(hR:R.length=n)(h:LK w2 w7 v7 L)(hu:Below w7.heap.size w7 u)
  (o1:u.ownsRow w7.heap.size 9 1 (.slice B1 n d1) n (R.map .string)) (h1:n<=d1) (o2:u.ownsRow w7.heap.size 9 1 (.slice B2 n d2) n (R.map .string)) (h2:n<=d2) (o3:u.ownsRow w7.heap.size 9 1 (.slice B3 n d3) n (R.map .string)) (h3:n<=d3) :
  ∃H:List (List Value),(u.alloc (.cells #[.int .i64 1,.slice B1 n d1,.slice B2 n d2,.slice B3 n d3] 111)).ownsRow w2.heap.size 111 4 v7 L.length H.flatten/\
   KIns (u.alloc (.cells #[.int .i64 1,.slice B1 n d1,.slice B2 n d2,.slice B3 n d3] 111)) (obs v7) L H/\
   Below w2.heap.size w2 (u.alloc (.cells #[.int .i64 1,.slice B1 n d1,.slice B2 n d2,.slice B3 n d3] 111))/\
   Rd (u.alloc (.cells #[.int .i64 1,.slice B1 n d1,.slice B2 n d2,.slice B3 n d3] 111)) (u.alloc (.cells #[.int .i64 1,.slice B1 n d1,.slice B2 n d2,.slice B3 n d3] 111)).heap.size 4 (some ⟨u.heap.size,0,none⟩) 1 1 [.int .i64 1,.slice B1 n d1,.slice B2 n d2,.slice B3 n d3]/\
   KIn (u.alloc (.cells #[.int .i64 1,.slice B1 n d1,.slice B2 n d2,.slice B3 n d3] 111)) (obs v7) ⟨1,R,R,R⟩ [.int .i64 1,.slice B1 n d1,.slice B2 n d2,.slice B3 n d3]:=by
 subst hR
 obtain ⟨H,hH1,hH2⟩:=h.ex
 have hal:Below u.heap.size u (u.alloc (.cells #[.int .i64 1,.slice B1 R.length d1,.slice B2 R.length d2,.slice B3 R.length d3] 111)):=(Below.refl _ _).alloc (Nat.le_refl _) _
 have hbu:=hu.trans (hal.mono hu.size)
 have f:∀{A:Option Addr} {d:Nat},u.ownsRow w7.heap.size 9 1 (.slice A R.length d) R.length (R.map .string)->R.length<=d->RdO (u.alloc (.cells #[.int .i64 1,.slice B1 R.length d1,.slice B2 R.length d2,.slice B3 R.length d3] 111)) (obs v7) A d R:=fun {A d} o hd=>
  (aAp (l:=obs v7) (w:=w7) (Rd.of_own o hd) (aEq o (Nat.le_refl _)) (fun b hb=>h.obs_lt b hb)).keep (Keeps.of_below hal)
 exact ⟨H,aAe hH1 hbu,hH2.keep (Keeps.of_below hbu),h.bel.trans (hbu.mono h.bel.size),aGi u _ _ _ _,B1,d1,B2,d2,B3,d3,rfl,f o1 h1,f o2 h2,f o3 h3⟩
theorem share4 {α β γ:Sort _}{G:Prop}(F:α->β->γ->Prop){c:α}{q:β}{r:γ}(h:F c q r->G)(k:F c q r):G:=h k
theorem share2 {P G:Prop}(h:P->G)(k:P):G:=h k
theorem bGu {A B C:Option Addr}{n ca m cb q cc:Nat}{a b c:List ByteArray}{w:World}(hn:n<=100000)(hm:m<=100000)(hq:q<=100000)
  (ha:Rd w w.heap.size 1 A n ca (a.map .string)) (hb:Rd w w.heap.size 1 B m cb (b.map .string)) (hc:Rd w w.heap.size 1 C q cc (c.map .string)) :
  Calls Tryz.prog 68 #[.slice A n ca,.slice B m cb,.slice C q cc] w (ChunksIs (chunksF a b c) w):=by
 have hla:a.length=n:=by have:=ha.len;rw[List.length_map] at this;omega
 have hlb:b.length=m:=by have:=hb.len;rw[List.length_map] at this;omega
 have hlc:c.length=q:=by have:=hc.len;rw[List.length_map] at this;omega
 subst hla hlb hlc
 have K1:=aNb hn hm ha hb
 go_enter Tryz.func68,Tryz.ntmps68
 go_wp2_with fail
 refine K1.mono ?_
 rintro e w1 ⟨vx,rfl,ox,hb1⟩
 have K2:=aNb (w:=w1) hn hq (ha.to hb1 hb1.size) (hc.to hb1 hb1.size)
 clear K1
 go_wp2_with fail
 refine K2.mono ?_
 rintro e w2 ⟨vy,rfl,oy,hb2⟩
 have ox2:=aAe ox hb2
 rw[aUc] at ox2 oy
 obtain ⟨X,cx,rfl,hcx⟩:=aAg ox2
 obtain ⟨Y,cy,rfl,hcy⟩:=aAg oy
 have hb02:=hb1.trans (hb2.mono hb1.size)
 have HX:=hid (Rd.of_own ox2 hcx)
 have HY:=hid (Rd.of_own oy hcy)
 have HB:=hid hb02
 have HA:=hid (ha.to hb02 hb02.size)
 have HBB:=hid (hb.to hb02 hb02.size)
 have HC:=hid (hc.to hb02 hb02.size)
 have HL0:=hid (LK.start (Below.refl w2.heap.size w2))
 have HO0:=hid (OfAt.start a b c)
 clear K2 ox oy ox2 hb1 hb2 hb02 ha hb hc hcx hcy
 go_wp2
 go_loopw[9,10,11,12,13] (fun lv bv ov tv iv wr=>∃(i b0 o t:Nat) (L:List KV),bv=.int .i64 b0/\ov=.int .i64 o/\tv=.int .i64 t/\iv=.int .i64 i/\Hid (OfAt a b c i b0 o t L)/\Hid (LK w2 wr lv L)) (fun _ _ _ _ iv _=>a.length-(intOf iv).toNat)
 case atStart=>exact ⟨0,0,0,0,[],rfl,rfl,rfl,rfl,HO0,HL0⟩
 clear HL0 HO0
 obtain ⟨i,b0,o,t,L,rfl,rfl,rfl,rfl,HOF,HL⟩:=hrel
 have hib:=HOF.out.hb
 have hik:=HOF.out.hi
 by_cases hlt:i<a.length
 ·obtain ⟨gx,fx,rfl,hgx,x0⟩:=aKj HX.out HL.out.bel hlt
  obtain ⟨gy,fy,rfl,hgy,y0⟩:=aKj HY.out HL.out.bel hlt
  by_cases hsome:(keptAt a b i).isSome=true/\(keptAt a c i).isSome=true
  ·obtain ⟨x,hx⟩:=Option.isSome_iff_exists.1 hsome.1
   obtain ⟨y,hy⟩:=Option.isSome_iff_exists.1 hsome.2
   have hxl:=(aBz hx).2
   have hyl:=(aBz hy).2
   obtain ⟨hox,hty⟩:=HOF.out.ge i x y (Nat.le_refl _) hx hy
   rw[hx] at x0
   rw[hy] at y0
   have HXY:=hid (And.intro hx hy)
   have HXC:=hid (show ∀u,Below w2.heap.size w2 u->u.cell? ⟨gx,fx+i,none⟩=some (.int .i64 x)/\u.cell? ⟨gy,fy+i,none⟩=some (.int .i64 y) from fun u hu=>by
    obtain ⟨g1,o1,e1,_,c1⟩:=aKj HX.out hu hlt
    obtain ⟨g2,o2,e2,_,c2⟩:=aKj HY.out hu hlt
    cases e1;cases e2
    rw[hx] at c1;rw[hy] at c2
    exact ⟨c1,c2⟩)
   have HXJ:=hid (show ∀u,Below w2.heap.size w2 u->∀j,i+j<a.length->u.cell? ⟨gx,fx+(i+j),none⟩=some (.int .i64 (plI (keptAt a b (i+j))))/\u.cell? ⟨gy,fy+(i+j),none⟩=some (.int .i64 (plI (keptAt a c (i+j)))) from fun u hu j hj=>by
    obtain ⟨g1,o1,e1,_,c1⟩:=aKj HX.out hu hj
    obtain ⟨g2,o2,e2,_,c2⟩:=aKj HY.out hu hj
    cases e1;cases e2
    exact ⟨c1,c2⟩)
   clear hx hy hsome
   simp only[plI] at x0 y0
   go_wp2
   obtain ⟨wo,rfl⟩:∃u,u=wr:=⟨_,rfl⟩
   go_loopw[14] (fun nv wv=>∃j:Nat,1<=j/\nv=.int .i64 j/\i+j<=a.length/\Hid (RunTo a b c i x y j)/\Hid (Below wo.heap.size wo wv)) (fun nv _=>a.length+1-(intOf nv).toNat)
   case atStart=>exact ⟨1,Nat.le_refl _,rfl,by omega,hid (fun d hd=>by rw[show d=0 by omega];exact HXY.out),hid (Below.refl _ _)⟩
   obtain ⟨j,hj1,rfl,hjk,HRUN,HV⟩:=hrel
   have HVB:=hid (HL.out.bel.trans (HV.out.mono HL.out.bel.size))
   have T2:((i:Int)+(j:Int)).toNat=i+j:=by omega
   obtain ⟨c0,k0⟩:=HXC.out wr HVB.out
   by_cases hP:keptAt a b (i+j)=some (x+j)/\keptAt a c (i+j)=some (y+j)
   case pos=>
    have l1:i+j<a.length:=(aBz hP.1).1
    obtain ⟨c1,k1⟩:=HXJ.out wr HVB.out j l1
    rw[hP.1] at c1
    rw[hP.2] at k1
    have HRUN2:=hid (show RunTo a b c i x y (j+1) from fun d hd=>by
     by_cases e:d=j
     ·subst e;exact hP
     exact HRUN.out d (by omega))
    have HVD:=hid (HV.out.drew)
    clear hP
    simp only[plI,Int.natCast_add] at c1 k1
    go_wp2
    refine aAd (fun w'=>w'=wr.drew) (qs 36) mixed (by kernel_rfl) rfl ?_
    intro Tp M Q hT hT' hM hQ
    have m0:M ⟨gx,fx+i,none⟩=some (.int .i64 x):=hM _ _ fun w' hw=>by subst hw;exact c0
    have m1:M ⟨gy,fy+i,none⟩=some (.int .i64 y):=hM _ _ fun w' hw=>by subst hw;exact k0
    have m2:M ⟨gx,fx+(i+j),none⟩=some (.int .i64 ((x:Int)+j)):=hM _ _ fun w' hw=>by subst hw;exact c1
    have m3:M ⟨gy,fy+(i+j),none⟩=some (.int .i64 ((y:Int)+j)):=hM _ _ fun w' hw=>by subst hw;exact k1
    clear hM
    have d0:decide ((i:Int)+(j:Int)<(a.length:Int))=true:=decide_eq_true (by omega)
    have d1:decide ((x:Int)+(j:Int)=(x:Int)+(j:Int))=true:=decide_eq_true rfl
    have d2:decide ((y:Int)+(j:Int)=(y:Int)+(j:Int))=true:=decide_eq_true rfl
    simp only[qcmp]
    simp (maxSteps:=9^7) only[↓qpre,aAb,aAf,aAc,d0,T2,m0,m1,m2,m3]
    (repeat refine ⟨by first|omega|(unfold inI64;omega),?_⟩)
    refine hQ _ _ ?_
    clear hQ hT hT' m0 m1 m2 m3 d0 d1 d2 c0 c1 k0 k1
    go_wp2
    go_roundw
    case rel=>exact ⟨j+1,by omega,by go_num,by omega,HRUN2,HVD⟩
    simp[intOf];omega
   obtain ⟨hof2,ho1,ht1,hn1,hx1,hy1⟩:=HOF.out.run (by omega) HRUN.out hP
   have HOF2:=hid hof2
   clear hof2
   have HLd:=hid ((HL.out.below HV.out).below (show Below wr.heap.size wr wr.drew from (Below.refl _ _).drew))
   have HP:=hid hP
   clear hP
   apply share4 (F:=(fun (cD:Code) (qD:(Act->World->Prop)->Exit->Act->World->Prop) (hD:(Act->World->Prop)->Prop)=>∀(z49 z50 z51 z52 z53 z54 z55 z56 z57 z58 z59 z60 z61 z62 z63 z64 z65 z66 z67 z68 z69 z70 z71 z72 z73 z74 z75 z76 z77 z78:Value) (wd:World),Hid (LK w2 wd u9 L)->wd.cell? ⟨gx,fx+i,none⟩=some (.int .i64 x)->wd.cell? ⟨gy,fy+i,none⟩=some (.int .i64 y)->∀KD:Act->World->Prop,hD KD->Code.wp Tryz.prog cD (qD KD) ⟨#[Value.slice A a.length ca,Value.slice B b.length cb,Value.slice C c.length cc,undef,undef,undef,Value.slice none 0 0,Value.slice (some { block:=gx,off:=fx }) a.length cx,Value.slice (some { block:=gy,off:=fy }) a.length cy,u9,Value.int IntKind.i64 (b0:Int),Value.int IntKind.i64 (o:Int),Value.int IntKind.i64 (t:Int),Value.int IntKind.i64 (i:Int),Value.int IntKind.i64 (j:Int),u15,u16,u17,undef,undef,Value.slice A a.length ca,Value.slice B b.length cb,Value.slice (some { block:=gx,off:=fx }) a.length cx,Value.slice A a.length ca,Value.slice C c.length cc,Value.slice (some { block:=gy,off:=fy }) a.length cy,Value.int IntKind.i64 (i:Int),Value.slice A a.length ca,Value.int IntKind.i64 (a.length:Int),Value.bool true,u30,u31,Value.slice (some { block:=gx,off:=fx }) a.length cx,Value.int IntKind.i64 (i:Int),Value.pointer (some { block:=gx,off:=fx+i }),Value.int IntKind.i64 (x:Int),Value.bool (decide ((x:Int)<0)),Value.bool (decide ((x:Int)<0)),Value.slice (some { block:=gy,off:=fy }) a.length cy,Value.int IntKind.i64 (i:Int),Value.pointer (some { block:=gy,off:=fy+i }),Value.int IntKind.i64 (y:Int),Value.bool (decide ((y:Int)<0)),Value.bool (decide ((x:Int)<0) || decide ((y:Int)<0)),Value.int IntKind.i64 (i:Int),Value.int IntKind.i64 (j:Int),Value.int IntKind.i64 ((i:Int)+(j:Int)),Value.slice A a.length ca,Value.int IntKind.i64 (a.length:Int),z49,z50,z51,z52,z53,z54,z55,z56,z57,z58,z59,z60,z61,z62,z63,z64,z65,z66,z67,z68,z69,z70,z71,z72,z73,z74,z75,z76,z77,z78,Value.bool false,u80,u81,u82,u83,u84,u85,u86,u87,u88,u89,u90,u91,u92,u93,u94,u95,u96,u97,u98,u99,u100,u101,u102,u103,u104,u105,u106,u107,u108,u109,u110,u111,u112,u113,u114,u115,u116,u117,u118,u119,u120,u121,u122,u123,u124,u125,u126,u127,u128,u129,u130,u131,u132,u133,u134,u135,u136,u137,u138,u139,u140,u141,u142,u143,undef,undef,undef,undef,undef,undef,undef,undef,undef,undef,undef,undef,undef,undef,undef,undef,undef,undef,undef],[]⟩ wd))
   case' h=>
    intro KEY0
    have KEY:=hid KEY0
    clear KEY0
    rcases Nat.lt_or_ge (i+j) a.length with hl | hl
    case' inl=>
     obtain ⟨c1,k1⟩:=HXJ.out wr HVB.out j hl
     have d0:decide ((i:Int)+(j:Int)<(a.length:Int))=true:=decide_eq_true (by omega)
     by_cases hx2:keptAt a b (i+j)=some (x+j)
     case' pos=>
      have hy2:keptAt a c (i+j)≠some (y+j):=fun e=>HP.out ⟨hx2,e⟩
      rw[hx2] at c1
      simp only[plI,Int.natCast_add] at c1
      have d1:decide ((x:Int)+(j:Int)=(x:Int)+(j:Int))=true:=decide_eq_true rfl
      have d2:decide (plI (keptAt a c (i+j))=(y:Int)+(j:Int))=false:=decide_eq_false fun e=>hy2 (aWn.1 (by rw[e];push_cast;rfl))
      clear hx2 hy2
      generalize plI (keptAt a c (i+j))=py at k1 d2
      go_wp2
      refine aAd (fun w'=>w'=wr.drew) (qs 36) mixed (by kernel_rfl) rfl ?_
      intro Tp M Q hT hT' hM hQ
      have m0:M ⟨gx,fx+i,none⟩=some (.int .i64 x):=hM _ _ fun w' hw=>by subst hw;exact c0
      have m1:M ⟨gy,fy+i,none⟩=some (.int .i64 y):=hM _ _ fun w' hw=>by subst hw;exact k0
      have m2:M ⟨gx,fx+(i+j),none⟩=some (.int .i64 ((x:Int)+j)):=hM _ _ fun w' hw=>by subst hw;exact c1
      have m3:M ⟨gy,fy+(i+j),none⟩=some (.int .i64 py):=hM _ _ fun w' hw=>by subst hw;exact k1
      clear hM
      simp only[qcmp]
      simp (maxSteps:=9^7) only[↓qpre,aAb,aAf,aAc,d0,T2,m0,m1,m2,m3,d1,d2]
      (repeat refine ⟨by first|omega|(unfold inI64;omega),?_⟩)
      refine hQ _ _ ?_
      clear hQ hT hT' m0 m1 m2 m3 d0 d1 d2 c1 k1
      clear Tp M Q
     case' neg=>
      have d1:decide (plI (keptAt a b (i+j))=(x:Int)+(j:Int))=false:=decide_eq_false fun e=>hx2 (aWn.1 (by rw[e];push_cast;rfl))
      clear hx2 k1
      generalize plI (keptAt a b (i+j))=px at c1 d1
      go_wp2
      refine aAd (fun w'=>w'=wr.drew) (qs 36) mixed (by kernel_rfl) rfl ?_
      intro Tp M Q hT hT' hM hQ
      have m0:M ⟨gx,fx+i,none⟩=some (.int .i64 x):=hM _ _ fun w' hw=>by subst hw;exact c0
      have m2:M ⟨gx,fx+(i+j),none⟩=some (.int .i64 px):=hM _ _ fun w' hw=>by subst hw;exact c1
      clear hM
      simp only[qcmp]
      simp (maxSteps:=9^7) only[↓qpre,aAb,aAf,aAc,d0,T2,m0,m2,d1]
      (repeat refine ⟨by first|omega|(unfold inI64;omega),?_⟩)
      refine hQ _ _ ?_
      clear hQ hT hT' m0 m2 d0 d1 c1
      clear Tp M Q
    case' inr=>
     have d0:decide ((i:Int)+(j:Int)<(a.length:Int))=false:=decide_eq_false (by omega)
     go_wp2
     refine aAd (fun w'=>w'=wr.drew) (qs 36) mixed (by kernel_rfl) rfl ?_
     intro Tp M Q hT hT' hM hQ
     clear hM
     simp only[qcmp]
     simp (maxSteps:=9^7) only[↓qpre,aAb,aAf,aAc,d0]
     (repeat refine ⟨by first|omega|(unfold inI64;omega),?_⟩)
     refine hQ _ _ ?_
     clear hQ hT hT' d0
     clear Tp M Q
    all_goals
     clear hl
     replace c0:wr.drew.cell? ⟨gx,fx+i,none⟩=some (.int .i64 x):=c0
     replace k0:wr.drew.cell? ⟨gy,fy+i,none⟩=some (.int .i64 y):=k0
     go_wp2
     rename_i Kx hKx
     exact KEY.out _ _ _ _ _ _ _ _ _ _ _ _ _ _ _ _ _ _ _ _ _ _ _ _ _ _ _ _ _ _ wr.drew HLd c0 k0 Kx hKx
   case' k=>
    clear HLd HV HRUN HVB T2 HP
    intro z49 z50 z51 z52 z53 z54 z55 z56 z57 z58 z59 z60 z61 z62 z63 z64 z65 z66 z67 z68 z69 z70 z71 z72 z73 z74 z75 z76 z77 z78 wd HLd c0 k0 KD hKD
    have hcA:=HA.out.cap
    have hcB:=HBB.out.cap
    have hcC:=HC.out.cap
    have hgl:gx<wd.heap.size/\gy<wd.heap.size:=by have:=HLd.out.bel.size;omega
    obtain ⟨A1,q1,_,l1⟩:=Rd.cutS (L:=a) HA.out hib (show i<=a.length by omega)
    obtain ⟨A2,q2,_,l2⟩:=Rd.cutS (L:=b) HBB.out ho1 (show x<=b.length by omega)
    obtain ⟨A3,q3,_,l3⟩:=Rd.cutS (L:=c) HC.out ht1 (show y<=c.length by omega)
    have KB:=hid (fun (u:World) (hu:Below wd.heap.size wd u)=>aKw (ca:=ca-b0) (cb:=cb-o) (cc:=cc-t) (w:=u) (by omega) (by omega) (by omega)
     (aNc (HA.out.to (HLd.out.bel.trans (hu.mono HLd.out.bel.size)) (HLd.out.bel.trans (hu.mono HLd.out.bel.size)).size) hib (by omega) q1)
     (aNc (HBB.out.to (HLd.out.bel.trans (hu.mono HLd.out.bel.size)) (HLd.out.bel.trans (hu.mono HLd.out.bel.size)).size) ho1 (by omega) q2)
     (aNc (HC.out.to (HLd.out.bel.trans (hu.mono HLd.out.bel.size)) (HLd.out.bel.trans (hu.mono HLd.out.bel.size)).size) ht1 (by omega) q3))
    have HOBS:=hid (fun b hb=>HLd.out.obs_lt b hb)
    generalize sliceF a b0 i=Sb at *
    generalize sliceF b o x=So at *
    generalize sliceF c t y=St at *
    try go_wp2
    refine aAw (fun v'=>Below wd.heap.size wd v') (.q 0 (.q 1 (.q 2 (.q 3 (.q 4 (.q 5 (.q 6 (.q 7 (.q 8 (.q 9 (.q 10 (.q 11 (.q 12 (.q 13 (.q 14 (.q 15 (.q 16 (.q 17 (.two 18 (.q 19 (.q 20 (.q 21 (.one 22 (.one 23 (.q 24 .leaf)))))) 22 (.one 18 (.q 19 (.q 20 (.q 21 (.one 23 (.q 24 .leaf))))))))))))))))))))))))) mixed (by kernel_rfl) (Below.refl _ _).drew ?_
    intro Tp M Q hT hT' hM hQ
    have m0:M ⟨gx,fx+i,none⟩=some (.int .i64 x):=hM _ _ fun w' hw=>(hw.cell (p:=⟨gx,fx+i,none⟩) hgl.1).trans c0
    have m1:M ⟨gy,fy+i,none⟩=some (.int .i64 y):=hM _ _ fun w' hw=>(hw.cell (p:=⟨gy,fy+i,none⟩) hgl.2).trans k0
    clear hM
    refine aDf ?_
    intro O hO
    have t0:=hO true 0
    have t1:=hO true 1
    have t2:=hO true 2
    have t3:=hO true 3
    have t4:=hO true 4
    have t5:=hO true 5
    have t6:=hO true 6
    have t7:=hO true 7
    have t8:=hO true 8
    have t9:=hO true 9
    have t10:=hO true 10
    have t11:=hO true 11
    have t12:=hO true 12
    have t13:=hO true 13
    have t14:=hO true 14
    have t15:=hO true 15
    have t16:=hO true 16
    have t17:=hO true 17
    have t19:=hO true 19
    have t20:=hO true 20
    have t21:=hO true 21
    have t24:=hO true 24
    have e18:=hO false 18
    have e22:=hO false 22
    have e23:=hO false 23
    simp only[qcmp] at t0 t1 t2 t3 t4 t5 t6 t7 t8 t9 t10 t11 t12 t13 t14 t15 t16 t17 t19 t20 t21 t24 e18 e22 e23
    clear hO
    simp (maxSteps:=9^7) only[↓wt_q,↓aBc,t0,t1,t2,t3,t4,t5,t6,t7,t8,t9,t10,t11,t12,t13,t14,t15,t16,t17,e18,e22,↓qpre,aAb,aAf,aAc,m0,m1]
    simp only[sliced,Nat.mul_one]
    rw[q1,q2,q3,<-l1,<-l2,<-l3]
    have hi24:(Tryz.prog.info? 111).map (·.size)=some 4:=by kernel_rfl
    have hd0:Below wd.heap.size wd wd.drew:=(Below.refl _ _).drew
    (repeat refine ⟨by first|omega|(unfold inI64;omega),?_⟩)
    apply share2
    case' h=>
     intro KEY0
     have KEY:=hid KEY0
     clear KEY0
     refine ⟨?_,?_⟩
     case' refine_1=>
      refine aAh (by kernel_rfl) (KB.out _ hd0) rfl rfl ?_
      rintro e u1 ⟨A0,e0,A1,e1,A2,e2,rfl,r0,r1,r2,f0,f1,f2,hb1⟩
      have hb2:=hd0.trans (hb1.mono hd0.size)
      refine ⟨_,rfl,hT _ hb2,?_⟩
      simp (maxSteps:=9^7) only[↓wt_q,↓aAj,t19,t20,t21,e22,↓qpre,aAb,aAc]
      have hb3:=hb2.alloc hb2.size (.cells #[.int .i64 0,.slice none 0 0,.slice none 0 0,.slice none 0 0] 111)
      refine aGc (cs:=#[.int .i64 0,.slice none 0 0,.slice none 0 0,.slice none 0 0]) aCh rfl ⟨hT _ hb3,?_⟩
      simp (maxSteps:=9^7) only[↓aAj,e23,aAb,aAc]
      have hn:=heap_alloc_new u1 (.cells #[.int .i64 0,.slice none 0 0,.slice none 0 0,.slice none 0 0] 111)
      have hb4:=aAk (cs:=#[.int .i64 (if Sb.length+So.length+St.length=0 then 0 else kindF Sb So St),.slice A0 Sb.length e0,.slice A1 So.length e1,.slice A2 St.length e2]) hb3 hb2.size
      have hb5:=aAk (cs:=#[.int .i64 (if Sb.length+So.length+St.length=0 then 0 else kindF Sb So St),.slice A0 Sb.length e0,.slice A1 So.length e1,.slice A2 St.length e2]) ((Below.refl u1.heap.size u1).alloc (Nat.le_refl _) (.cells #[.int .i64 0,.slice none 0 0,.slice none 0 0,.slice none 0 0] 111)) (Nat.le_refl _)
      have hs:=setRow_heap _ _ _ #[.int .i64 (if Sb.length+So.length+St.length=0 then 0 else kindF Sb So St),.slice A0 Sb.length e0,.slice A1 So.length e1,.slice A2 St.length e2] _ _ hn
      refine aAt (g:=u1.heap.size) (cells:=#[.int .i64 (if Sb.length+So.length+St.length=0 then 0 else kindF Sb So St),.slice A0 Sb.length e0,.slice A1 So.length e1,.slice A2 St.length e2]) rfl rfl hn hi24 rfl (by simp[Value.oneCell']) ⟨hT _ hb4,?_⟩
      simp (maxSteps:=9^7) only[↓wt_q,↓aCy,t24,↓qpre,aAb,aAc]
      refine hQ _ _ ?_
      have HOB:=hid (fun b hb=>Nat.lt_of_lt_of_le (HOBS.out b hb) hd0.size)
      have HK:=hid (And.intro ((aAp (l:=obs u9) r0 f0 HOB.out).keep (Keeps.of_below hb5)) (And.intro ((aAp (l:=obs u9) r1 f1 HOB.out).keep (Keeps.of_below hb5)) ((aAp (l:=obs u9) r2 f2 HOB.out).keep (Keeps.of_below hb5))))
      have HLv:=hid (HLd.out.below hb4)
      have HG:=hid hs
      clear hb1 hb2 hb3 hb4 hb5 hn hs r0 r1 r2 f0 f1 f2 HOB
      generalize (u1.alloc (.cells #[.int .i64 0,.slice none 0 0,.slice none 0 0,.slice none 0 0] 111)).setRow u1.heap.size #[.int .i64 (if Sb.length+So.length+St.length=0 then 0 else kindF Sb So St),.slice A0 Sb.length e0,.slice A1 So.length e1,.slice A2 St.length e2]=v5 at HK HLv HG ⊢
      generalize u1.heap.size=g15 at HG ⊢
     case' refine_2=>
      have hb3:=hd0.alloc hd0.size (.cells #[.int .i64 0,.slice none 0 0,.slice none 0 0,.slice none 0 0] 111)
      refine aGc (cs:=#[.int .i64 0,.slice none 0 0,.slice none 0 0,.slice none 0 0]) aCh rfl ⟨hT _ hb3,?_⟩
      simp (maxSteps:=9^7) only[↓aAj,e18,aAb,aAc]
      have hn:=heap_alloc_new wd.drew (.cells #[.int .i64 0,.slice none 0 0,.slice none 0 0,.slice none 0 0] 111)
      refine aAh (by kernel_rfl) (KB.out _ hb3) rfl rfl ?_
      rintro e u1 ⟨A0,e0,A1,e1,A2,e2,rfl,r0,r1,r2,f0,f1,f2,hb1⟩
      have hb2:=hb3.trans (hb1.mono hb3.size)
      refine ⟨_,rfl,hT _ hb2,?_⟩
      simp (maxSteps:=9^7) only[↓wt_q,↓aAj,t19,t20,t21,e23,↓qpre,aAb,aAc]
      replace hn:=(hb1.block _ (aAa hn)).trans hn
      have hb4:=aAk (cs:=#[.int .i64 (if Sb.length+So.length+St.length=0 then 0 else kindF Sb So St),.slice A0 Sb.length e0,.slice A1 So.length e1,.slice A2 St.length e2]) hb2 hd0.size
      have hs:=setRow_heap _ _ _ #[.int .i64 (if Sb.length+So.length+St.length=0 then 0 else kindF Sb So St),.slice A0 Sb.length e0,.slice A1 So.length e1,.slice A2 St.length e2] _ _ hn
      refine aAt (g:=wd.drew.heap.size) (cells:=#[.int .i64 (if Sb.length+So.length+St.length=0 then 0 else kindF Sb So St),.slice A0 Sb.length e0,.slice A1 So.length e1,.slice A2 St.length e2]) rfl rfl hn hi24 rfl (by simp[Value.oneCell']) ⟨hT _ hb4,?_⟩
      simp (maxSteps:=9^7) only[↓wt_q,↓aCy,t24,↓qpre,aAb,aAc]
      refine hQ _ _ ?_
      have HOB:=hid (show ∀b∈wd.drew.heap.size::obs u9,b<(wd.drew.alloc (.cells #[.int .i64 0,.slice none 0 0,.slice none 0 0,.slice none 0 0] 111)).heap.size from all_cons (by simp) (fun b hb=>Nat.lt_of_lt_of_le (HOBS.out b hb) hb3.size))
      have HKP:Keeps (wd.drew.heap.size::obs u9) u1 (u1.setRow wd.drew.heap.size #[.int .i64 (if Sb.length+So.length+St.length=0 then 0 else kindF Sb So St),.slice A0 Sb.length e0,.slice A1 So.length e1,.slice A2 St.length e2]):=⟨by simp[World.setRow],fun p _ hl=>World.cell?_of_block (setRow_other _ _ _ _ (fun e=>hl (by simp[e])))⟩
      have HK:=hid (And.intro (((aAp (l:=wd.drew.heap.size::obs u9) r0 f0 HOB.out).keep HKP).less (m:=obs u9) (fun b hb=>.inl (List.mem_cons_of_mem _ hb))) (And.intro (((aAp (l:=wd.drew.heap.size::obs u9) r1 f1 HOB.out).keep HKP).less (m:=obs u9) (fun b hb=>.inl (List.mem_cons_of_mem _ hb))) (((aAp (l:=wd.drew.heap.size::obs u9) r2 f2 HOB.out).keep HKP).less (m:=obs u9) (fun b hb=>.inl (List.mem_cons_of_mem _ hb)))))
      have HLv:=hid (HLd.out.below hb4)
      have HG:=hid hs
      clear hb1 hb2 hb3 hb4 hn hs r0 r1 r2 f0 f1 f2 HOB HKP
      generalize u1.setRow wd.drew.heap.size #[.int .i64 (if Sb.length+So.length+St.length=0 then 0 else kindF Sb So St),.slice A0 Sb.length e0,.slice A1 So.length e1,.slice A2 St.length e2]=v5 at HK HLv HG ⊢
      generalize wd.drew.heap.size=g15 at HG ⊢
     all_goals
      revert HG
      revert HLv
      revert HK
      revert g15
      revert v5
      revert e2
      revert A2
      revert e1
      revert A1
      revert e0
      revert A0
      exact KEY.out
    case' k=>intro A0 e0 A1 e1 A2 e2 v5 g15 HK HLv HG
    all_goals
     as_aux_lemma=>
      clear hQ hT hT' m0 m1 t0 t1 t2 t3 t4 t5 t6 t7 t8 t9 t10 t11 t12 t13 t14 t15 t16 t17 t19 t20 t21 t24 e18 e22 e23 hd0 hi24
      clear Tp M Q O
      have hl4:=fun (a b c d:Value) (u:World)=>T.run_lits4 (P:=Tryz.prog) aDb a b c d u
      have one4:∀(k:Int) (x y z:Option Addr) (n1 n2 n3 d1 d2 d3:Nat),∀u∈[Value.int .i64 k,.slice x n1 d1,.slice y n2 d2,.slice z n3 d3],u.oneCell'=true:=by
       intro k x y z n1 n2 n3 d1 d2 d3 u hu
       simp at hu
       rcases hu with rfl | rfl | rfl | rfl<;>rfl
      clear hgl q1 q2 q3 l1 l2 l3 KB HOBS c0 k0
      have hLl:=HOF.out.len
      have hsl:(sliceF a i (i+j)).length=j:=by unfold sliceF;rw[List.length_drop,List.length_take];omega
      have HCUT:=hid (show ∀u,Below w2.heap.size w2 u->Rd u u.heap.size 1 (A.map (·.add i)) (i+j-i) (ca-i) ((sliceF a i (i+j)).map .string) from fun u hu=>by
       have h:=aNc (HA.out.to hu hu.size) (show i<=i+j by omega) hn1 (A':=A.map (·.add i)) (if_neg (by omega))
       rw[show i+j-i=j by omega];rw[hsl] at h;exact h)
      have HSL:=hid hsl
      clear hsl
      generalize sliceF a i (i+j)=RR at *
      by_cases hz:Sb.length+So.length+St.length=0
      case pos=>
       have HBE:=hid (show betweenF Sb So St=[] from if_pos hz)
       simp only[decide_eq_true hz,Bool.not_true]
       clear HG HK
       have HL7:=HLv
       have HRUNR:=hid (fun (u:World) (hu:Below v5.heap.size v5 u)=>HCUT.out u (HL7.out.bel.trans (hu.mono HL7.out.bel.size)))
       go_wp2_with first
        | (at_builtin;refine aAm rfl _ (.tmp 114) 103 rfl aCo (base:=v5.heap.size) (n:=0) (xs:=[]) rfl rfl (World.ownsRow_nil _ _ _ _) (HRUNR.out v5 (Below.refl _ _)) (aAq _) (by unfold maxLen;omega) (by omega) (Nat.le_refl _) ?_;intro b1 u1 o1 g1 hv1;clear hv1;rw[Nat.zero_add,List.nil_append,show i+j-i=j by omega] at o1;have O1:=hid o1;have U1:=hid ((Below.refl v5.heap.size v5).grown g1 (Nat.le_refl _) (fun g hg=>by cases hg));clear o1 g1;obtain ⟨B1,d1,rfl,hd1⟩:=aAg O1.out)
        | (at_builtin;refine aAm rfl _ (.tmp 118) 103 rfl aCo (base:=v5.heap.size) (n:=0) (xs:=[]) rfl rfl (World.ownsRow_nil _ _ _ _) (Rd.of_own O1.out hd1) (aAq _) (by unfold maxLen;omega) (by omega) U1.out.size ?_;intro b2 u2 o2 g2 hv2;clear hv2;rw[Nat.zero_add,List.nil_append] at o2;have O2:=hid o2;have G2:=hid ((Below.refl u1.heap.size u1).grown g2 (Nat.le_refl _) (fun g hg=>by cases hg));have O1b:=hid (aAe O1.out G2.out);have U2:=hid (U1.out.trans (G2.out.mono U1.out.size));clear o2 g2;obtain ⟨B2,d2,rfl,hd2⟩:=aAg O2.out)
        | (at_builtin;refine aAm rfl _ (.tmp 120) 103 rfl aCo (base:=v5.heap.size) (n:=0) (xs:=[]) rfl rfl (World.ownsRow_nil _ _ _ _) (Rd.of_own O1b.out hd1) (aAq _) (by unfold maxLen;omega) (by omega) U2.out.size ?_;intro b3 u3 o3 g3 hv3;clear hv3;rw[Nat.zero_add,List.nil_append] at o3;have O3:=hid o3;have G3:=hid ((Below.refl u2.heap.size u2).grown g3 (Nat.le_refl _) (fun g hg=>by cases hg));have O1c:=hid (aAe O1b.out G3.out);have O2b:=hid (aAe O2.out G3.out);have U3:=hid (U2.out.trans (G3.out.mono U2.out.size));clear o3 g3;obtain ⟨B3,d3,rfl,hd3⟩:=aAg O3.out;have HS8:=hid (aTd HSL.out HL7.out U3.out O1c.out hd1 O2b.out hd2 O3.out hd3))
        | (at_builtin;obtain ⟨H7,own7,kin7,bel7,lit7,k7⟩:=HS8.out;refine aAm rfl (.tmp 116) (.tmp 123) 101 rfl aDb (base:=w2.heap.size) rfl rfl own7 lit7 (one4 _ _ _ _ _ _ _ _ _ _) (by unfold maxLen;omega) (by omega) bel7.size ?_;intro v9 w9 ho9 hg9 hv9;have HL9:=hid (LK.push own7 kin7 bel7 k7 ho9 hg9 hv9);clear ho9 hg9 hv9 own7 kin7 bel7 lit7 k7)
       obtain ⟨c0,k0⟩:=HXC.out w9 HL9.out.bel
       refine aAd (fun u=>u=w9.drew) (qs 18) mixed (by kernel_rfl) rfl ?_
       intro Tp M Q hT hT' hM hQ
       have m0:M ⟨gx,fx+i,none⟩=some (.int .i64 x):=hM _ _ fun w' hw=>by subst hw;exact c0
       have m1:M ⟨gy,fy+i,none⟩=some (.int .i64 y):=hM _ _ fun w' hw=>by subst hw;exact k0
       clear hM
       simp only[qcmp]
       simp (maxSteps:=9^7) only[↓qpre,aAb,aAf,aAc,m0,m1]
       (repeat refine ⟨by first|omega|(unfold inI64;omega),?_⟩)
       refine hQ _ _ ?_
       have HLZ:=hid (show LK w2 w9.drew v9 (L++betweenF Sb So St++[⟨1,RR,RR,RR⟩]) by
        rw[HBE.out,List.append_nil];exact HL9.out.below (Below.refl _ _).drew)
       clear hQ hT hT' m0 m1 c0 k0 HL9
       clear Tp M Q
       go_wp2
       go_roundw
       case rel=>exact ⟨i+j,i+j,x+j,y+j,_,by go_num,by go_num,by go_num,by go_num,HOF2,HLZ⟩
       simp[intOf];omega
      have HBE:=hid (show betweenF Sb So St=[⟨kindF Sb So St,Sb,So,St⟩] from if_neg hz)
      simp only[decide_eq_false hz,Bool.not_false]
      have hLl2:(L++[(⟨kindF Sb So St,Sb,So,St⟩:KV)]).length<=200001:=by rw[List.length_append,List.length_singleton];omega
      have y0:v5.cell? ⟨g15,0,none⟩=some (.int .i64 (kindF Sb So St)):=by rw[Lib.cell_of_heap HG.out];simp only[if_neg hz];rfl
      have y1:v5.cell? ⟨g15,1,none⟩=some (.slice A0 Sb.length e0):=by rw[Lib.cell_of_heap HG.out];rfl
      have y2:v5.cell? ⟨g15,2,none⟩=some (.slice A1 So.length e1):=by rw[Lib.cell_of_heap HG.out];rfl
      have y3:v5.cell? ⟨g15,3,none⟩=some (.slice A2 St.length e2):=by rw[Lib.cell_of_heap HG.out];rfl
      obtain ⟨H,hH1,hH2⟩:=HLv.out.ex
      have hal:Below v5.heap.size v5 (v5.alloc (.cells #[.int .i64 (kindF Sb So St),.slice A0 Sb.length e0,.slice A1 So.length e1,.slice A2 St.length e2] 111)):=(Below.refl _ _).alloc (Nat.le_refl _) _
      have HOWN:=hid (aAe hH1 hal)
      have HKI:=hid (hH2.keep (Keeps.of_below hal))
      have HLIT:=hid (aGi v5 (.int .i64 (kindF Sb So St)) (.slice A0 Sb.length e0) (.slice A1 So.length e1) (.slice A2 St.length e2))
      have HKK:=hid (show KIn (v5.alloc (.cells #[.int .i64 (kindF Sb So St),.slice A0 Sb.length e0,.slice A1 So.length e1,.slice A2 St.length e2] 111)) (obs u9) ⟨kindF Sb So St,Sb,So,St⟩ [.int .i64 (kindF Sb So St),.slice A0 Sb.length e0,.slice A1 So.length e1,.slice A2 St.length e2] from
       ⟨A0,e0,A1,e1,A2,e2,rfl,HK.out.1.keep (Keeps.of_below hal),HK.out.2.1.keep (Keeps.of_below hal),HK.out.2.2.keep (Keeps.of_below hal)⟩)
      have HBL:=hid (HLv.out.bel.trans (hal.mono HLv.out.bel.size))
      clear hal hH1 hH2
      go_wp2_with first
       | (at_builtin;refine aAm rfl (.tmp 105) (.tmp 107) 101 rfl aDb (base:=w2.heap.size) rfl rfl HOWN.out HLIT.out (one4 _ _ _ _ _ _ _ _ _ _) (by unfold maxLen;omega) (by omega) HBL.out.size ?_;intro v7 w7 ho7 hg7 hv7;have HL7:=hid (LK.push HOWN.out HKI.out HBL.out HKK.out ho7 hg7 hv7);have HRUNR:=hid (fun (u:World) (hu:Below w7.heap.size w7 u)=>HCUT.out u (HL7.out.bel.trans (hu.mono HL7.out.bel.size)));clear ho7 hg7 hv7)
       | (at_builtin;refine aAm rfl _ (.tmp 114) 103 rfl aCo (base:=w7.heap.size) (n:=0) (xs:=[]) rfl rfl (World.ownsRow_nil _ _ _ _) (HRUNR.out w7 (Below.refl _ _)) (aAq _) (by unfold maxLen;omega) (by omega) (Nat.le_refl _) ?_;intro b1 u1 o1 g1 hv1;clear hv1;rw[Nat.zero_add,List.nil_append,show i+j-i=j by omega] at o1;have O1:=hid o1;have U1:=hid ((Below.refl w7.heap.size w7).grown g1 (Nat.le_refl _) (fun g hg=>by cases hg));clear o1 g1;obtain ⟨B1,d1,rfl,hd1⟩:=aAg O1.out)
       | (at_builtin;refine aAm rfl _ (.tmp 118) 103 rfl aCo (base:=w7.heap.size) (n:=0) (xs:=[]) rfl rfl (World.ownsRow_nil _ _ _ _) (Rd.of_own O1.out hd1) (aAq _) (by unfold maxLen;omega) (by omega) U1.out.size ?_;intro b2 u2 o2 g2 hv2;clear hv2;rw[Nat.zero_add,List.nil_append] at o2;have O2:=hid o2;have G2:=hid ((Below.refl u1.heap.size u1).grown g2 (Nat.le_refl _) (fun g hg=>by cases hg));have O1b:=hid (aAe O1.out G2.out);have U2:=hid (U1.out.trans (G2.out.mono U1.out.size));clear o2 g2;obtain ⟨B2,d2,rfl,hd2⟩:=aAg O2.out)
       | (at_builtin;refine aAm rfl _ (.tmp 120) 103 rfl aCo (base:=w7.heap.size) (n:=0) (xs:=[]) rfl rfl (World.ownsRow_nil _ _ _ _) (Rd.of_own O1b.out hd1) (aAq _) (by unfold maxLen;omega) (by omega) U2.out.size ?_;intro b3 u3 o3 g3 hv3;clear hv3;rw[Nat.zero_add,List.nil_append] at o3;have O3:=hid o3;have G3:=hid ((Below.refl u2.heap.size u2).grown g3 (Nat.le_refl _) (fun g hg=>by cases hg));have O1c:=hid (aAe O1b.out G3.out);have O2b:=hid (aAe O2.out G3.out);have U3:=hid (U2.out.trans (G3.out.mono U2.out.size));clear o3 g3;obtain ⟨B3,d3,rfl,hd3⟩:=aAg O3.out;have HS8:=hid (aTd HSL.out HL7.out U3.out O1c.out hd1 O2b.out hd2 O3.out hd3))
       | (at_builtin;obtain ⟨H7,own7,kin7,bel7,lit7,k7⟩:=HS8.out;refine aAm rfl (.tmp 116) (.tmp 123) 101 rfl aDb (base:=w2.heap.size) rfl rfl own7 lit7 (one4 _ _ _ _ _ _ _ _ _ _) (by unfold maxLen;omega) (by omega) bel7.size ?_;intro v9 w9 ho9 hg9 hv9;have HL9:=hid (LK.push own7 kin7 bel7 k7 ho9 hg9 hv9);clear ho9 hg9 hv9 own7 kin7 bel7 lit7 k7)
      all_goals
       obtain ⟨c0,k0⟩:=HXC.out w9 HL9.out.bel
       refine aAd (fun u=>u=w9.drew) (qs 18) mixed (by kernel_rfl) rfl ?_
       intro Tp M Q hT hT' hM hQ
       have m0:M ⟨gx,fx+i,none⟩=some (.int .i64 x):=hM _ _ fun w' hw=>by subst hw;exact c0
       have m1:M ⟨gy,fy+i,none⟩=some (.int .i64 y):=hM _ _ fun w' hw=>by subst hw;exact k0
       clear hM
       simp only[qcmp]
       simp (maxSteps:=9^7) only[↓qpre,aAb,aAf,aAc,m0,m1]
       (repeat refine ⟨by first|omega|(unfold inI64;omega),?_⟩)
       refine hQ _ _ ?_
       have HLZ:=hid (show LK w2 w9.drew v9 (L++betweenF Sb So St++[⟨1,RR,RR,RR⟩]) by
        rw[HBE.out];exact HL9.out.below (Below.refl _ _).drew)
       clear hQ hT hT' m0 m1 c0 k0 HL9
       clear Tp M Q
       go_wp2
       go_roundw
       case rel=>exact ⟨i+j,i+j,x+j,y+j,_,by go_num,by go_num,by go_num,by go_num,HOF2,HLZ⟩
       simp[intOf];omega
  have HO2:=hid (HOF.out.skip hlt hsome)
  have hneg:plI (keptAt a b i)<0\/plI (keptAt a c i)<0:=by
   rw[bCu,bCu]
   cases h1:keptAt a b i with
   | none=>exact .inl rfl
   | some x=>
    cases h2:keptAt a c i with
    | none=>exact .inr rfl
    | some y=>rw[h1,h2] at hsome;simp at hsome
  clear hsome
  generalize plI (keptAt a b i)=px at *
  generalize plI (keptAt a c i)=py at *
  by_cases hpx:px<0
  ·clear y0
   go_wp2
   go_roundw
   case rel=>exact ⟨i+1,b0,o,t,L,rfl,rfl,rfl,by go_num,HO2,HL⟩
   simp[intOf];omega
  have hpy:py<0:=by rcases hneg with h | h;exact absurd h hpx;exact h
  go_wp2
  go_roundw
  case rel=>exact ⟨i+1,b0,o,t,L,rfl,rfl,rfl,by go_num,HO2,HL⟩
  simp[intOf];omega
 obtain rfl:i=a.length:=by omega
 have HOFZ:=hid (HOF.out.last (Nat.le_refl _))
 have ho1:=HOF.out.ho
 have ht1:=HOF.out.ht
 have hLl:=HOF.out.len
 have HLd:=HL
 have hcA:=HA.out.cap
 have hcB:=HBB.out.cap
 have hcC:=HC.out.cap
 obtain ⟨A1,q1,_,l1⟩:=Rd.cutS (L:=a) HA.out hib (Nat.le_refl a.length)
 obtain ⟨A2,q2,_,l2⟩:=Rd.cutS (L:=b) HBB.out ho1 (Nat.le_refl b.length)
 obtain ⟨A3,q3,_,l3⟩:=Rd.cutS (L:=c) HC.out ht1 (Nat.le_refl c.length)
 have KB:=hid (fun (u:World) (hu:Below wr.heap.size wr u)=>aKw (ca:=ca-b0) (cb:=cb-o) (cc:=cc-t) (w:=u) (by omega) (by omega) (by omega)
  (aNc (HA.out.to (HLd.out.bel.trans (hu.mono HLd.out.bel.size)) (HLd.out.bel.trans (hu.mono HLd.out.bel.size)).size) hib (by omega) q1)
  (aNc (HBB.out.to (HLd.out.bel.trans (hu.mono HLd.out.bel.size)) (HLd.out.bel.trans (hu.mono HLd.out.bel.size)).size) ho1 (by omega) q2)
  (aNc (HC.out.to (HLd.out.bel.trans (hu.mono HLd.out.bel.size)) (HLd.out.bel.trans (hu.mono HLd.out.bel.size)).size) ht1 (by omega) q3))
 have HOBS:=hid (fun b hb=>HLd.out.obs_lt b hb)
 generalize sliceF a b0 a.length=Sb at *
 generalize sliceF b o b.length=So at *
 generalize sliceF c t c.length=St at *
 go_wp2
 refine aAw (fun v'=>Below wr.heap.size wr v') (.q 0 (.q 1 (.q 2 (.q 3 (.q 4 (.q 5 (.q 6 (.q 7 (.q 8 (.two 9 (.q 10 (.q 11 (.q 12 (.one 13 (.one 14 (.q 15 .leaf)))))) 13 (.one 9 (.q 10 (.q 11 (.q 12 (.one 14 (.q 15 .leaf)))))))))))))))) mixed (by kernel_rfl) (Below.refl _ _).drew ?_
 intro Tp M Q hT hT' hM hQ
 clear hM
 refine aDf ?_
 intro O hO
 have t0:=hO true 0
 have t1:=hO true 1
 have t2:=hO true 2
 have t3:=hO true 3
 have t4:=hO true 4
 have t5:=hO true 5
 have t6:=hO true 6
 have t7:=hO true 7
 have t8:=hO true 8
 have t10:=hO true 10
 have t11:=hO true 11
 have t12:=hO true 12
 have t15:=hO true 15
 have e9:=hO false 9
 have e13:=hO false 13
 have e14:=hO false 14
 simp only[qcmp] at t0 t1 t2 t3 t4 t5 t6 t7 t8 t10 t11 t12 t15 e9 e13 e14
 clear hO
 simp (maxSteps:=9^7) only[↓wt_q,↓aBc,t0,t1,t2,t3,t4,t5,t6,t7,t8,e9,e13,↓qpre,aAb,aAf,aAc]
 simp only[sliced,Nat.mul_one]
 rw[q1,q2,q3,<-l1,<-l2,<-l3]
 have hi24:(Tryz.prog.info? 111).map (·.size)=some 4:=by kernel_rfl
 have hd0:Below wr.heap.size wr wr.drew:=(Below.refl _ _).drew
 (repeat refine ⟨by first|omega|(unfold inI64;omega),?_⟩)
 apply share2
 case' h=>
  intro KEY0
  have KEY:=hid KEY0
  clear KEY0
  refine ⟨?_,?_⟩
  case' refine_1=>
   refine aAh (by kernel_rfl) (KB.out _ hd0) rfl rfl ?_
   rintro e u1 ⟨A0,e0,A1,e1,A2,e2,rfl,r0,r1,r2,f0,f1,f2,hb1⟩
   have hb2:=hd0.trans (hb1.mono hd0.size)
   refine ⟨_,rfl,hT _ hb2,?_⟩
   simp (maxSteps:=9^7) only[↓wt_q,↓aAj,t10,t11,t12,e13,↓qpre,aAb,aAc]
   have hb3:=hb2.alloc hb2.size (.cells #[.int .i64 0,.slice none 0 0,.slice none 0 0,.slice none 0 0] 111)
   refine aGc (cs:=#[.int .i64 0,.slice none 0 0,.slice none 0 0,.slice none 0 0]) aCh rfl ⟨hT _ hb3,?_⟩
   simp (maxSteps:=9^7) only[↓aAj,e14,aAb,aAc]
   have hn:=heap_alloc_new u1 (.cells #[.int .i64 0,.slice none 0 0,.slice none 0 0,.slice none 0 0] 111)
   have hb4:=aAk (cs:=#[.int .i64 (if Sb.length+So.length+St.length=0 then 0 else kindF Sb So St),.slice A0 Sb.length e0,.slice A1 So.length e1,.slice A2 St.length e2]) hb3 hb2.size
   have hb5:=aAk (cs:=#[.int .i64 (if Sb.length+So.length+St.length=0 then 0 else kindF Sb So St),.slice A0 Sb.length e0,.slice A1 So.length e1,.slice A2 St.length e2]) ((Below.refl u1.heap.size u1).alloc (Nat.le_refl _) (.cells #[.int .i64 0,.slice none 0 0,.slice none 0 0,.slice none 0 0] 111)) (Nat.le_refl _)
   have hs:=setRow_heap _ _ _ #[.int .i64 (if Sb.length+So.length+St.length=0 then 0 else kindF Sb So St),.slice A0 Sb.length e0,.slice A1 So.length e1,.slice A2 St.length e2] _ _ hn
   refine aAt (g:=u1.heap.size) (cells:=#[.int .i64 (if Sb.length+So.length+St.length=0 then 0 else kindF Sb So St),.slice A0 Sb.length e0,.slice A1 So.length e1,.slice A2 St.length e2]) rfl rfl hn hi24 rfl (by simp[Value.oneCell']) ⟨hT _ hb4,?_⟩
   simp (maxSteps:=9^7) only[↓wt_q,↓aCy,t15,↓qpre,aAb,aAc]
   refine hQ _ _ ?_
   have HOB:=hid (fun b hb=>Nat.lt_of_lt_of_le (HOBS.out b hb) hd0.size)
   have HK:=hid (And.intro ((aAp (l:=obs u9) r0 f0 HOB.out).keep (Keeps.of_below hb5)) (And.intro ((aAp (l:=obs u9) r1 f1 HOB.out).keep (Keeps.of_below hb5)) ((aAp (l:=obs u9) r2 f2 HOB.out).keep (Keeps.of_below hb5))))
   have HLv:=hid (HLd.out.below hb4)
   have HG:=hid hs
   clear hb1 hb2 hb3 hb4 hb5 hn hs r0 r1 r2 f0 f1 f2 HOB
   generalize (u1.alloc (.cells #[.int .i64 0,.slice none 0 0,.slice none 0 0,.slice none 0 0] 111)).setRow u1.heap.size #[.int .i64 (if Sb.length+So.length+St.length=0 then 0 else kindF Sb So St),.slice A0 Sb.length e0,.slice A1 So.length e1,.slice A2 St.length e2]=v5 at HK HLv HG ⊢
   generalize u1.heap.size=g15 at HG ⊢
  case' refine_2=>
   have hb3:=hd0.alloc hd0.size (.cells #[.int .i64 0,.slice none 0 0,.slice none 0 0,.slice none 0 0] 111)
   refine aGc (cs:=#[.int .i64 0,.slice none 0 0,.slice none 0 0,.slice none 0 0]) aCh rfl ⟨hT _ hb3,?_⟩
   simp (maxSteps:=9^7) only[↓aAj,e9,aAb,aAc]
   have hn:=heap_alloc_new wr.drew (.cells #[.int .i64 0,.slice none 0 0,.slice none 0 0,.slice none 0 0] 111)
   refine aAh (by kernel_rfl) (KB.out _ hb3) rfl rfl ?_
   rintro e u1 ⟨A0,e0,A1,e1,A2,e2,rfl,r0,r1,r2,f0,f1,f2,hb1⟩
   have hb2:=hb3.trans (hb1.mono hb3.size)
   refine ⟨_,rfl,hT _ hb2,?_⟩
   simp (maxSteps:=9^7) only[↓wt_q,↓aAj,t10,t11,t12,e14,↓qpre,aAb,aAc]
   replace hn:=(hb1.block _ (aAa hn)).trans hn
   have hb4:=aAk (cs:=#[.int .i64 (if Sb.length+So.length+St.length=0 then 0 else kindF Sb So St),.slice A0 Sb.length e0,.slice A1 So.length e1,.slice A2 St.length e2]) hb2 hd0.size
   have hs:=setRow_heap _ _ _ #[.int .i64 (if Sb.length+So.length+St.length=0 then 0 else kindF Sb So St),.slice A0 Sb.length e0,.slice A1 So.length e1,.slice A2 St.length e2] _ _ hn
   refine aAt (g:=wr.drew.heap.size) (cells:=#[.int .i64 (if Sb.length+So.length+St.length=0 then 0 else kindF Sb So St),.slice A0 Sb.length e0,.slice A1 So.length e1,.slice A2 St.length e2]) rfl rfl hn hi24 rfl (by simp[Value.oneCell']) ⟨hT _ hb4,?_⟩
   simp (maxSteps:=9^7) only[↓wt_q,↓aCy,t15,↓qpre,aAb,aAc]
   refine hQ _ _ ?_
   have HOB:=hid (show ∀b∈wr.drew.heap.size::obs u9,b<(wr.drew.alloc (.cells #[.int .i64 0,.slice none 0 0,.slice none 0 0,.slice none 0 0] 111)).heap.size from all_cons (by simp) (fun b hb=>Nat.lt_of_lt_of_le (HOBS.out b hb) hb3.size))
   have HKP:Keeps (wr.drew.heap.size::obs u9) u1 (u1.setRow wr.drew.heap.size #[.int .i64 (if Sb.length+So.length+St.length=0 then 0 else kindF Sb So St),.slice A0 Sb.length e0,.slice A1 So.length e1,.slice A2 St.length e2]):=⟨by simp[World.setRow],fun p _ hl=>World.cell?_of_block (setRow_other _ _ _ _ (fun e=>hl (by simp[e])))⟩
   have HK:=hid (And.intro (((aAp (l:=wr.drew.heap.size::obs u9) r0 f0 HOB.out).keep HKP).less (m:=obs u9) (fun b hb=>.inl (List.mem_cons_of_mem _ hb))) (And.intro (((aAp (l:=wr.drew.heap.size::obs u9) r1 f1 HOB.out).keep HKP).less (m:=obs u9) (fun b hb=>.inl (List.mem_cons_of_mem _ hb))) (((aAp (l:=wr.drew.heap.size::obs u9) r2 f2 HOB.out).keep HKP).less (m:=obs u9) (fun b hb=>.inl (List.mem_cons_of_mem _ hb)))))
   have HLv:=hid (HLd.out.below hb4)
   have HG:=hid hs
   clear hb1 hb2 hb3 hb4 hn hs r0 r1 r2 f0 f1 f2 HOB HKP
   generalize u1.setRow wr.drew.heap.size #[.int .i64 (if Sb.length+So.length+St.length=0 then 0 else kindF Sb So St),.slice A0 Sb.length e0,.slice A1 So.length e1,.slice A2 St.length e2]=v5 at HK HLv HG ⊢
   generalize wr.drew.heap.size=g15 at HG ⊢
  all_goals
   revert HG
   revert HLv
   revert HK
   revert g15
   revert v5
   revert e2
   revert A2
   revert e1
   revert A1
   revert e0
   revert A0
   exact KEY.out
 case' k=>intro A0 e0 A1 e1 A2 e2 v5 g15 HK HLv HG
 all_goals
  as_aux_lemma=>
   clear hQ hT hT' t0 t1 t2 t3 t4 t5 t6 t7 t8 t10 t11 t12 t15 e9 e13 e14 hd0 hi24
   clear Tp M Q O
   have hl4:=fun (a b c d:Value) (u:World)=>T.run_lits4 (P:=Tryz.prog) aDb a b c d u
   have one4:∀(k:Int) (x y z:Option Addr) (n1 n2 n3 d1 d2 d3:Nat),∀u∈[Value.int .i64 k,.slice x n1 d1,.slice y n2 d2,.slice z n3 d3],u.oneCell'=true:=by
    intro k x y z n1 n2 n3 d1 d2 d3 u hu
    simp at hu
    rcases hu with rfl | rfl | rfl | rfl<;>rfl
   clear q1 q2 q3 l1 l2 l3 KB HOBS
   by_cases hz:Sb.length+So.length+St.length=0
   case pos=>
    have HBE:=hid (show chunksF a b c=L by rw[HOFZ.out,show betweenF Sb So St=[] from if_pos hz,List.append_nil])
    simp only[decide_eq_true hz,Bool.not_true]
    clear HG HK
    go_wp2
    go_ret
    rw[HBE.out];exact LK.done HB.out HLv.out
   have HBE:=hid (show chunksF a b c=L++[⟨kindF Sb So St,Sb,So,St⟩] by rw[HOFZ.out,show betweenF Sb So St=[⟨kindF Sb So St,Sb,So,St⟩] from if_neg hz])
   simp only[decide_eq_false hz,Bool.not_false]
   have y0:v5.cell? ⟨g15,0,none⟩=some (.int .i64 (kindF Sb So St)):=by rw[Lib.cell_of_heap HG.out];simp only[if_neg hz];rfl
   have y1:v5.cell? ⟨g15,1,none⟩=some (.slice A0 Sb.length e0):=by rw[Lib.cell_of_heap HG.out];rfl
   have y2:v5.cell? ⟨g15,2,none⟩=some (.slice A1 So.length e1):=by rw[Lib.cell_of_heap HG.out];rfl
   have y3:v5.cell? ⟨g15,3,none⟩=some (.slice A2 St.length e2):=by rw[Lib.cell_of_heap HG.out];rfl
   obtain ⟨H,hH1,hH2⟩:=HLv.out.ex
   have hal:Below v5.heap.size v5 (v5.alloc (.cells #[.int .i64 (kindF Sb So St),.slice A0 Sb.length e0,.slice A1 So.length e1,.slice A2 St.length e2] 111)):=(Below.refl _ _).alloc (Nat.le_refl _) _
   have HOWN:=hid (aAe hH1 hal)
   have HKI:=hid (hH2.keep (Keeps.of_below hal))
   have HLIT:=hid (aGi v5 (.int .i64 (kindF Sb So St)) (.slice A0 Sb.length e0) (.slice A1 So.length e1) (.slice A2 St.length e2))
   have HKK:=hid (show KIn (v5.alloc (.cells #[.int .i64 (kindF Sb So St),.slice A0 Sb.length e0,.slice A1 So.length e1,.slice A2 St.length e2] 111)) (obs u9) ⟨kindF Sb So St,Sb,So,St⟩ [.int .i64 (kindF Sb So St),.slice A0 Sb.length e0,.slice A1 So.length e1,.slice A2 St.length e2] from
    ⟨A0,e0,A1,e1,A2,e2,rfl,HK.out.1.keep (Keeps.of_below hal),HK.out.2.1.keep (Keeps.of_below hal),HK.out.2.2.keep (Keeps.of_below hal)⟩)
   have HBL:=hid (HLv.out.bel.trans (hal.mono HLv.out.bel.size))
   clear hal hH1 hH2
   go_wp2_with (at_builtin;refine aAm rfl (.tmp 158) (.tmp 160) 101 rfl aDb (base:=w2.heap.size) rfl rfl HOWN.out HLIT.out (one4 _ _ _ _ _ _ _ _ _ _) (by unfold maxLen;omega) (by omega) HBL.out.size ?_;intro v7 w7 ho7 hg7 hv7;have HL7:=hid (LK.push HOWN.out HKI.out HBL.out HKK.out ho7 hg7 hv7);clear ho7 hg7 hv7)
   all_goals
    go_ret
    rw[HBE.out];exact LK.done HB.out HL7.out
end Go.Proofs.YtcemkikgaeghjaaGreatDoor
