/- Texts of the walks, together: Walk: chunk.Of: three texts, piece by piece. Walks: chunk.Clean, chunk.Merged. Walks: merge3.marks, merge3.mark. Walks: the library's Builder within merge3's text: WriteByte, WriteString, String; text's put and mark. Walks: merge3's text: put, mark. -/
import Derived.StringKeys
import Derived.Test.YtohblmepajhpaaaGreatDoorG11
set_option maxHeartbeats 8000000
set_option maxRecDepth 100000
open Go.Lib (hid)
namespace Go.Proofs.YtohblmepajhpaaaGreatDoor
open Go.RowKit
def ChunksIs (L:List KV)(w:World)(e:Ending) (w':World):Prop:=
 ∃A c H,e=.returned (.slice A L.length c)/\Rd w' w'.heap.size 4 A L.length c H.flatten/\KIns w' [] L H/\Below w.heap.size w w'
theorem TX.below {w0 w w':World}{tb:Nat}{x y z:Value}{b o t:Nat}{L:List KV}(h:TX w0 w tb x y z b o t L)(hb:Below w.heap.size w w'):TX w0 w' tb x y z b o t L:=by
 obtain ⟨out,H,h1,h2,h3,h4⟩:=h.ex
 exact ⟨⟨out,H,(hb.block tb h.hi).trans h1,aAg h2 hb,h3,h4.keep (Keeps.of_below hb)⟩,h.lo,h.bel.trans (hb.mono h.bel.size)⟩
theorem TX.alloc {w0 w:World}{tb:Nat}{x y z:Value}{b o t:Nat}{L:List KV}(h:TX w0 w tb x y z b o t L)(ob:Obj):TX w0 (w.alloc ob) tb x y z b o t L:=
 h.below ((Below.refl _ _).alloc (Nat.le_refl _) _)
theorem TX.start (w:World)(x y z:Value):TX w (w.alloc (.cells #[x,y,z,.int .i64 0,.int .i64 0,.int .i64 0,.slice none 0 0] 278)) w.heap.size x y z 0 0 0 []:=
 ⟨⟨.slice none 0 0,[],heap_alloc_new _ _,World.ownsRow_nil _ _ _ _,by simp[Value.ownBlock],trivial⟩,Nat.le_refl _,(Below.refl _ _).alloc (Nat.le_refl _) _⟩
structure Held3 (w:World) (z m1 m2:Nat) (F1 F2:Nat->Option Nat):Prop where
 c1:w.cell? ⟨z,0,none⟩=some (.map (some m1))
 c2:w.cell? ⟨z+1,0,none⟩=some (.map (some m2))
 p1:∃n D,MpI w m1 n D F1
 p2:∃n D,MpI w m2 n D F2
 lt:z+2<w.heap.size
theorem Held3.below {w w':World}{z m1 m2:Nat}{F1 F2:Nat->Option Nat}(h:Held3 w z m1 m2 F1 F2)(hb:Below w.heap.size w w'):Held3 w' z m1 m2 F1 F2:=by
 obtain ⟨n1,D1,h1⟩:=h.p1
 obtain ⟨n2,D2,h2⟩:=h.p2
 have:=h.lt
 exact ⟨(hb.cell (p:=⟨z,0,none⟩) (by show z<_;omega)).trans h.c1,(hb.cell (p:=⟨z+1,0,none⟩) (by show z+1<_;omega)).trans h.c2,⟨n1,D1,h1.below hb⟩,⟨n2,D2,h2.below hb⟩,Nat.lt_of_lt_of_le h.lt hb.size⟩
theorem Held3.grown {w w':World}{z m1 m2:Nat}{F1 F2:Nat->Option Nat}(h:Held3 w z m1 m2 F1 F2)(hg:w.grownBy w' (some (z+2)))(h1:m1≠z+2)(h2:m2≠z+2):Held3 w' z m1 m2 F1 F2:=by
 obtain ⟨n1,D1,g1⟩:=h.p1
 obtain ⟨n2,D2,g2⟩:=h.p2
 have:=h.lt
 have hk:=Keeps.grown (l:=[z+2]) hg (fun g hg=>by injection hg with hg;simp[hg])
 exact ⟨(hk.2 ⟨z,0,none⟩ (by show z<_;omega) (by simp)).trans h.c1,(hk.2 ⟨z+1,0,none⟩ (by show z+1<_;omega) (by simp)).trans h.c2,⟨n1,D1,g1.kept hg (by simp[h1])⟩,⟨n2,D2,g2.kept hg (by simp[h2])⟩,Nat.lt_of_lt_of_le h.lt hg.size⟩
theorem stands3 {w:World}{z m1 m2 i:Nat}{F1 F2:Nat->Option Nat}(h:Held3 w z m1 m2 F1 F2)(hi:i<=1000000) :
  Calls Tryz.prog 216 #[.int .i64 i,.pointer (some ⟨z,0,none⟩),.pointer (some ⟨z+1,0,none⟩)] w fun e w'=>e=.returned (.tuple #[.agg #[.int .i64 ((F1 i).getD 0:Nat),.int .i64 ((F2 i).getD 0:Nat)],.bool ((F1 i).isSome && (F2 i).isSome)])/\Below w.heap.size w w':=by
 obtain ⟨n1,D1,h1⟩:=h.p1
 obtain ⟨n2,D2,h2⟩:=h.p2
 have:=h.lt
 exact aYy hi h1 h2 h.c1 h.c2 (by omega) (by omega)
theorem bJa {A B C:Option Addr}{n ca m cb q cc:Nat}{a b c:List ByteArray}{w:World}(hn:n<=100000)(hm:m<=100000)(hq:q<=100000)
  (ha:Rd w w.heap.size 1 A n ca (a.map .string)) (hb:Rd w w.heap.size 1 B m cb (b.map .string)) (hc:Rd w w.heap.size 1 C q cc (c.map .string)) :
  Calls Tryz.prog 180 #[.slice A n ca,.slice B m cb,.slice C q cc] w (ChunksIs (chunksF a b c) w):=by
 have HA:=hid (show a.length=n by have:=ha.len;rw[List.length_map] at this;omega)
 have HB:=hid (show b.length=m by have:=hb.len;rw[List.length_map] at this;omega)
 have HC:=hid (show c.length=q by have:=hc.len;rw[List.length_map] at this;omega)
 have hmm:=@run_makeMap Tryz.prog
 have K1:=aWq hn hm ha hb
 go_enter Tryz.func180,Tryz.ntmps180
 go_wp2_with fail
 refine K1.mono ?_
 rintro e w1 ⟨m1,n1,D1,rfl,hm1,hm1',hn1,hM1,hb1⟩
 have K2:=aWq (w:=w1) hn hq (ha.to hb1 hb1.size) (hc.to hb1 hb1.size)
 have HB1:=hid hb1
 have HM1:=hid hM1
 clear K1 hb1 hM1
 go_wp2_with fail
 refine K2.mono ?_
 rintro e w2 ⟨m2,n2,D2,rfl,hm2,hm2',hn2,hM2,hb2⟩
 have HB2:=hid (HB1.out.trans (hb2.mono HB1.out.size))
 have HM1:=hid (HM1.out.below hb2)
 have HM2:=hid hM2
 clear K2 hb2 hM2
 have hb3:Below w2.heap.size w2 (((w2.alloc (.cells #[.map (some m1)] 269)).alloc (.cells #[.map (some m2)] 269)).alloc (.map #[] 0)):=(((Below.refl _ _).alloc (Nat.le_refl _) _).alloc (by simp) _).alloc (by simp;omega) _
 have hsz:(((w2.alloc (.cells #[.map (some m1)] 269)).alloc (.cells #[.map (some m2)] 269)).alloc (.map #[] 0)).heap.size=w2.heap.size+3:=by simp
 have hh:Held3 (((w2.alloc (.cells #[.map (some m1)] 269)).alloc (.cells #[.map (some m2)] 269)).alloc (.map #[] 0)) w2.heap.size m1 m2 (keptAt a b) (keptAt a c):=by
  refine ⟨?_,?_,⟨_,_,HM1.out.below hb3⟩,⟨_,_,HM2.out.below hb3⟩,by rw[hsz];omega⟩
  ·have h1:=(((Below.refl (w2.heap.size+1) (w2.alloc (.cells #[.map (some m1)] 269))).alloc (by simp) (.cells #[.map (some m2)] 269)).alloc (by simp) (.map #[] 0)).cell (p:=⟨w2.heap.size,0,none⟩) (Nat.lt_succ_self _)
   rw[h1,World.cell?,heap_alloc_new];rfl
  have h1:=((Below.refl (w2.heap.size+2) ((w2.alloc (.cells #[.map (some m1)] 269)).alloc (.cells #[.map (some m2)] 269))).alloc (by simp) (.map #[] 0)).cell (p:=⟨w2.heap.size+1,0,none⟩) (Nat.lt_succ_self _)
  have h2:=heap_alloc_new (w2.alloc (.cells #[.map (some m1)] 269)) (.cells #[.map (some m2)] 269)
  rw[show (w2.alloc (.cells #[.map (some m1)] 269)).heap.size=w2.heap.size+1 by simp] at h2
  rw[h1,World.cell?,h2];rfl
 have hp:MpP (((w2.alloc (.cells #[.map (some m1)] 269)).alloc (.cells #[.map (some m2)] 269)).alloc (.map #[] 0)) (w2.heap.size+2) 0 (.map []) (firmF (keptAt a b) (keptAt a c) 0):=by
  have:=MpP.start ((w2.alloc (.cells #[.map (some m1)] 269)).alloc (.cells #[.map (some m2)] 269))
  rw[show ((w2.alloc (.cells #[.map (some m1)] 269)).alloc (.cells #[.map (some m2)] 269)).heap.size=w2.heap.size+2 by simp] at this
  exact this
 have HB3:=hid (HB2.out.trans (hb3.mono HB2.out.size))
 have HH:=hid hh
 have HP:=hid hp
 have hz1:w.heap.size<=w2.heap.size:=HB2.out.size
 have hm1z:m1<w2.heap.size:=HM1.out.own.lt
 have hm2z:m2<w2.heap.size:=hm2'
 clear hb3 hh hp hsz HB1 HB2 HM1 HM2 hm1 hm1' hm2 hm2'
 go_wp2
 generalize ((w2.alloc (.cells #[.map (some m1)] 269)).alloc (.cells #[.map (some m2)] 269)).alloc (.map #[] 0)=W at *
 generalize w2.heap.size=z at *
 have hF1:∀i x,keptAt a b i=some x->i<a.length/\x<b.length:=fun i x h=>aCq h
 have hF2:∀i x,keptAt a c i=some x->i<a.length/\x<c.length:=fun i x h=>aCq h
 have HF1:=hid hF1
 have HF2:=hid hF2
 clear hF1 hF2
 go_loopw[31] (fun t31 wr=>∃(k nn:Nat) (D:DataW Value),k<=n/\t31=.int .i64 k/\nn<=k/\Hid (Below w.heap.size w wr)/\Hid (Held3 wr z m1 m2 (keptAt a b) (keptAt a c))/\Hid (MpP wr (z+2) nn D (firmF (keptAt a b) (keptAt a c) k))) (fun t31 _=>n-(intOf t31).toNat)
 case atStart=>exact ⟨0,0,_,Nat.zero_le _,rfl,Nat.le_refl _,HB3,HH,HP⟩
 obtain ⟨k,nn,D,hk,rfl,hnn,HBW,HHW,HPW⟩:=hrel
 clear HB3 HH HP
 have hlt2:=HHW.out.lt
 by_cases hlt:k<n
 ·have K3:=stands3 (i:=k) HHW.out (by omega)
  go_wp2_with fail
  refine K3.mono ?_
  rintro e w5 ⟨rfl,hb5⟩
  have HB5:=hid (HBW.out.trans (hb5.mono HBW.out.size))
  have HH5:=hid (HHW.out.below hb5)
  have HP5:=hid (HPW.out.below hb5)
  clear K3 hb5 HBW HHW HPW
  by_cases hsome:(keptAt a b k).isSome=true/\(keptAt a c k).isSome=true
  ·obtain ⟨x,hx⟩:=Option.isSome_iff_exists.1 hsome.1
   obtain ⟨y,hy⟩:=Option.isSome_iff_exists.1 hsome.2
   have hxl:=(HF1.out k x hx).2
   have hyl:=(HF2.out k y hy).2
   rw[HB.out] at hxl
   rw[HC.out] at hyl
   rw[hx,hy]
   simp only[Option.getD_some,Option.isSome_some,Bool.and_self]
   have HXY:=hid (And.intro hx hy)
   clear hx hy hsome
   have HB6:=hid (HB5.out.alloc HB5.out.size (.cells #[.int .i64 x,.int .i64 y] 273))
   have HH6:=hid (HH5.out.below ((Below.refl w5.heap.size w5).alloc (Nat.le_refl _) (.cells #[.int .i64 x,.int .i64 y] 273)))
   have HP6:=hid (HP5.out.below ((Below.refl w5.heap.size w5).alloc (Nat.le_refl _) (.cells #[.int .i64 x,.int .i64 y] 273)))
   clear HB5 HH5 HP5
   go_wp2_with (at_mapUpdate;refine wpList_mapUpdate_own _ rfl _ _ _ 271 rfl 273 3 KP2 Tryz.underlying271 Rv (z+2) nn D rfl HP6.out.own (by unfold maxLen;omega) _ _ _ rfl rfl (keyP2 (by omega) (by omega)) _ [] rfl ?_;intro w7 hown7 hg7)
   have HB7:=hid (HB6.out.grown hg7 HB6.out.size (fun g hg=>by injection hg with hg;omega))
   have HH7:=hid (HH6.out.grown hg7 (by omega) (by omega))
   have HP7:=hid (HP6.out.put (p:=x) (q:=y) (j:=k) (G':=firmF (keptAt a b) (keptAt a c) (k+1)) (by omega) (by omega) hown7 (fun x' y'=>by
    rw[firmF,HXY.out.1,HXY.out.2]
    by_cases h:x'=x/\y'=y
    ·rw[if_pos h,if_pos ⟨by rw[h.1],by rw[h.2]⟩]
    rw[if_neg h,if_neg (fun h2=>h ⟨by injection h2.1 with e;exact e.symm,by injection h2.2 with e;exact e.symm⟩)]))
   clear HB6 HH6 HP6 hown7 hg7
   go_roundw
   case rel=>exact ⟨k+1,nn+1,_,by omega,by go_num,by omega,HB7,HH7,HP7⟩
   simp[intOf];omega
  have hfalse:((keptAt a b k).isSome && (keptAt a c k).isSome)=false:=by
   cases h1:(keptAt a b k).isSome<;>cases h2:(keptAt a c k).isSome<;>simp_all
  rw[hfalse]
  have HP5':Hid (MpP w5 (z+2) nn D (firmF (keptAt a b) (keptAt a c) (k+1))):=by
   have h:=HP5.out
   have e:firmF (keptAt a b) (keptAt a c) (k+1)=firmF (keptAt a b) (keptAt a c) k:=by
    funext x y
    rw[firmF,if_neg]
    rintro ⟨h1,h2⟩
    exact hsome ⟨by rw[h1];rfl,by rw[h2];rfl⟩
   unfold Hid
   rw[e];exact h
  clear hfalse hsome HP5
  generalize (keptAt a b k).getD 0=x at *
  generalize (keptAt a c k).getD 0=y at *
  have HB6:=hid (HB5.out.alloc HB5.out.size (.cells #[.int .i64 x,.int .i64 y] 273))
  have HH6:=hid (HH5.out.below ((Below.refl w5.heap.size w5).alloc (Nat.le_refl _) (.cells #[.int .i64 x,.int .i64 y] 273)))
  have HP6:=hid (HP5'.out.below ((Below.refl w5.heap.size w5).alloc (Nat.le_refl _) (.cells #[.int .i64 x,.int .i64 y] 273)))
  clear HB5 HH5 HP5'
  go_wp2
  go_roundw
  case rel=>exact ⟨k+1,nn,_,by omega,by go_num,by omega,HB6,HH6,HP6⟩
  simp[intOf];omega
 obtain rfl:k=n:=by omega
 have HRA:=hid (ha.to HBW.out HBW.out.size)
 have HRB:=hid (hb.to HBW.out HBW.out.size)
 have HRC:=hid (hc.to HBW.out HBW.out.size)
 have HT0:=hid (TX.start wr (.slice A k ca) (.slice B m cb) (.slice C q cc))
 have HOF0:=hid (OfAt.start a b c)
 clear ha hb hc hlt hk hnn
 go_wp2
 generalize wr.alloc (.cells #[.slice A k ca,.slice B m cb,.slice C q cc,.int .i64 0,.int .i64 0,.int .i64 0,.slice none 0 0] 278)=w4 at *
 obtain ⟨tb,htb⟩:∃tb,tb=wr.heap.size:=⟨_,rfl⟩
 rw[<-htb] at HT0 ⊢
 clear htb
 go_loopw[15] (fun t15 wq=>∃(i b0 o t:Nat) (L:List KV),t15=.int .i64 i/\Hid (OfAt a b c i b0 o t L)/\Hid (TX wr wq tb (.slice A k ca) (.slice B m cb) (.slice C q cc) b0 o t L)) (fun t15 _=>k-(intOf t15).toNat)
 case atStart=>exact ⟨0,0,0,0,[],rfl,HOF0,HT0⟩
 clear HT0 HOF0
 obtain ⟨i,b0,o,t,L,rfl,HOF,HT⟩:=hrel
 have hib:=HOF.out.hb
 have hik:=HOF.out.hi
 rw[HA.out] at hik
 by_cases hlt:i<k
 ·have K3:=stands3 (i:=i) (HHW.out.below HT.out.bel) (by omega)
  go_wp2_with fail
  refine K3.mono ?_
  rintro e w5 ⟨rfl,hb5⟩
  have HT5:=hid (HT.out.below hb5)
  clear K3 hb5 HT
  by_cases hsome:(keptAt a b i).isSome=true/\(keptAt a c i).isSome=true
  ·obtain ⟨x,hx⟩:=Option.isSome_iff_exists.1 hsome.1
   obtain ⟨y,hy⟩:=Option.isSome_iff_exists.1 hsome.2
   have hxl:=(HF1.out i x hx).2
   have hyl:=(HF2.out i y hy).2
   rw[HB.out] at hxl
   rw[HC.out] at hyl
   rw[hx,hy]
   simp only[Option.getD_some,Option.isSome_some,Bool.and_self]
   obtain ⟨hox,hty⟩:=HOF.out.ge i x y (Nat.le_refl _) hx hy
   have HXY:=hid (And.intro hx hy)
   clear hx hy hsome
   have HPB:=hid (heap_alloc_new w5 (.cells #[.int .i64 x,.int .i64 y] 273))
   have HT6:=hid (HT5.out.alloc (.cells #[.int .i64 x,.int .i64 y] 273))
   have hTo:=bHp HRA.out HRB.out HRC.out hn hm hq (by have:=HOF.out.len;omega) HT6.out hib (Nat.le_of_lt hlt) hox (Nat.le_of_lt hxl) hty (Nat.le_of_lt hyl)
   clear HT5
   go_wp2_with fail
   refine hTo.mono ?_
   rintro e w7 ⟨rfl,hT7,hPK⟩
   obtain ⟨c0,c1⟩:=hPK _ _ _ _ HPB.out
   have HT7:=hid hT7
   have HBL:=hid (show (betweenF (sliceF a b0 i) (sliceF b o x) (sliceF c t y)).length<=1 by unfold betweenF;split<;>simp)
   have HMP:=hid (fun (j:Nat) (hj:x+j<=1000000000) (hj2:y+j<=1000000000)=>(HPW.out.below hT7.bel).look (x:=x+j) (y:=y+j) hj hj2)
   clear hTo hT7 hPK HPB HT6
   generalize w5.heap.size=pb at *
   go_wp2
   go_loopw[18] (fun t18 wv=>∃j:Nat,1<=j/\t18=.int .i64 j/\i+j<=k/\Hid (RunTo a b c i x y j)/\wv=w7) (fun t18 _=>k+1-(intOf t18).toNat)
   case atStart=>exact ⟨1,Nat.le_refl _,rfl,by omega,hid (fun d hd=>by rw[show d=0 by omega];exact HXY.out),rfl⟩
   obtain ⟨j,hj1,rfl,hjk,HRUN,rfl⟩:=hrel
   have HCAT:Hid (x+j<=m/\y+j<=q):=by
    obtain ⟨p1,p2⟩:=HRUN.out (j-1) (by omega)
    have l1:=(HF1.out _ _ p1).2
    have l2:=(HF2.out _ _ p2).2
    rw[HB.out] at l1
    rw[HC.out] at l2
    exact ⟨by omega,by omega⟩
   have hl:=HMP.out j (by have:=HCAT.out;omega) (by have:=HCAT.out;omega)
   rw[show ((x+j:Nat):Int)=(x:Int)+j by push_cast;rfl,show ((y+j:Nat):Int)=(y:Int)+j by push_cast;rfl] at hl
   cases hG:firmF (keptAt a b) (keptAt a c) k (x+j) (y+j) with
   | none=>
    have HSTOP:Hid (¬(keptAt a b (i+j)=some (x+j)/\keptAt a c (i+j)=some (y+j))):=by
     rintro ⟨p1,p2⟩
     have l1:=(HF1.out _ _ p1).1
     rw[HA.out] at l1
     rw[aXz (fun i i' x hi h=>aMu hi h) l1 p1 p2] at hG
     cases hG
    rw[hG] at hl
    simp only[Option.getD_none,Option.isSome_none] at hl
    clear hG
    have hFm:=aWt (n:=j) HRA.out hn (by have:=HCAT.out;omega) (by have:=HCAT.out;omega) (by have:=HOF.out.len;simp only[List.length_append];have:=HBL.out;omega) HT7.out (by omega)
    go_wp2_with fail
    refine hFm.mono ?_
    rintro e w8 ⟨rfl,hT8⟩
    have HT8:=hid hT8
    have HOF3:=hid (HOF.out.run (by omega) HRUN.out HSTOP.out).1
    clear hFm hT8 HT7
    go_wp2
    go_roundw
    case rel=>exact ⟨i+j,i+j,x+j,y+j,_,by go_num,HOF3,HT8⟩
    simp[intOf];omega
   | some d=>
    obtain ⟨hdk,hd1,hd2⟩:=aNr hG
    rw[hG] at hl
    simp only[Option.getD_some,Option.isSome_some] at hl
    clear hG
    by_cases hde:d=i+j
    ·subst hde
     have HRUN2:Hid (RunTo a b c i x y (j+1)):=fun e he=>by
      rcases Nat.lt_or_ge e j with h | h
      ·exact HRUN.out e h
      rw[show e=j by omega];exact ⟨hd1,hd2⟩
     clear hd1 hd2
     rw[show ((i+j:Nat):Int)=(i:Int)+j by push_cast;rfl] at hl
     go_wp2
     go_roundw
     case rel=>exact ⟨j+1,by omega,by go_num,by omega,HRUN2,trivial⟩
     simp[intOf];omega
    have HSTOP:Hid (¬(keptAt a b (i+j)=some (x+j)/\keptAt a c (i+j)=some (y+j))):=by
     rintro ⟨p1,p2⟩
     rcases Nat.lt_trichotomy d (i+j) with h | h | h
     ·exact aMu h hd1 p1
     ·exact hde h
     exact aMu h p1 hd1
    clear hd1 hd2
    have hdi:¬(d:Int)=(i:Int)+j:=by omega
    have hFm:=aWt (n:=j) HRA.out hn (by have:=HCAT.out;omega) (by have:=HCAT.out;omega) (by have:=HOF.out.len;simp only[List.length_append];have:=HBL.out;omega) HT7.out (by omega)
    go_wp2_with fail
    refine hFm.mono ?_
    rintro e w8 ⟨rfl,hT8⟩
    have HT8:=hid hT8
    have HOF3:=hid (HOF.out.run (by omega) HRUN.out HSTOP.out).1
    clear hFm hT8 HT7
    go_wp2
    go_roundw
    case rel=>exact ⟨i+j,i+j,x+j,y+j,_,by go_num,HOF3,HT8⟩
    simp[intOf];omega
  have HOF2:=hid (HOF.out.skip (by rw[HA.out];exact hlt) hsome)
  have hfalse:((keptAt a b i).isSome && (keptAt a c i).isSome)=false:=by
   cases h1:(keptAt a b i).isSome<;>cases h2:(keptAt a c i).isSome<;>simp_all
  rw[hfalse]
  clear hfalse hsome HOF
  generalize (keptAt a b i).getD 0=x at *
  generalize (keptAt a c i).getD 0=y at *
  have HT6:=hid (HT5.out.alloc (.cells #[.int .i64 x,.int .i64 y] 273))
  clear HT5
  go_wp2
  go_roundw
  case rel=>exact ⟨i+1,b0,o,t,L,by go_num,HOF2,HT6⟩
  simp[intOf];omega
 obtain rfl:i=k:=by omega
 have hTo:=bHp HRA.out HRB.out HRC.out hn hm hq (by have:=HOF.out.len;omega) HT.out hib (Nat.le_refl _) (by have:=HOF.out.ho;rw[HB.out] at this;exact this) (Nat.le_refl _) (by have:=HOF.out.ht;rw[HC.out] at this;exact this) (Nat.le_refl _)
 have HFIN:=hid (HOF.out.last (by rw[HA.out];exact Nat.le_refl _))
 rw[HA.out,HB.out,HC.out] at HFIN
 go_wp2_with fail
 refine hTo.mono ?_
 rintro e w7 ⟨rfl,hT7,_⟩
 clear hTo HT HOF
 obtain ⟨out,H,h1,h2,h3,h4⟩:=hT7.ex
 obtain ⟨A9,c9,rfl,hc9⟩:=aAd h2
 have HR9:=hid (Rd.of_own h2 hc9)
 have HK9:=hid (h4.less (m:=[]) (fun b hb=>by cases hb))
 have HB9:=hid (HBW.out.trans (hT7.bel.mono HBW.out.size))
 have c6:w7.cell? ⟨tb,6,none⟩=some (.slice A9 (L++betweenF (sliceF a b0 i) (sliceF b o m) (sliceF c t q)).length c9):=by rw[Lib.cell_of_heap h1];rfl
 rw[<-HFIN.out] at HR9 HK9 c6
 clear h1 h2 h3 h4 hT7 HFIN
 generalize chunksF a b c=F at *
 generalize hfl:F.length=fl at *
 have HFL:=hid hfl
 clear hfl
 go_wp2
 go_ret
 exact ⟨A9,c9,H,by rw[HFL.out];rfl,by rw[HFL.out];exact HR9.out,HK9.out,HB9.out⟩
theorem aWk:∀{H:List (List Value)},(∀cs∈H,cs.length=4)->∀{i t:Nat} {cs:List Value},H[i]? = some cs->t<4->H.flatten[i*4+t]? = cs[t]?
 | [],_,i,t,cs,h,_=>by simp at h
 | x::H,hl,0,t,cs,h,ht=>by
  simp at h;subst h
  rw[List.flatten_cons,Nat.zero_mul,Nat.zero_add,List.getElem?_append_left (by rw[hl x (by simp)];exact ht)]
 | x::H,hl,i+1,t,cs,h,ht=>by
  simp at h
  rw[List.flatten_cons,List.getElem?_append_right (by rw[hl x (by simp),Nat.succ_mul];omega),hl x (by simp),show (i+1)*4+t-4=i*4+t by rw[Nat.succ_mul];omega]
  exact aWk (fun cs h=>hl cs (List.mem_cons_of_mem _ h)) h ht
theorem KIns.all4 {w:World}{l:List Nat}:∀{L:List KV} {H:List (List Value)},KIns w l L H->∀cs∈H,cs.length=4
 | [],[],_,cs,h=>by cases h
 | _::_,_::_,h,cs,hc=>by
  rcases List.mem_cons.1 hc with rfl | hc
  ·exact h.1.len.1
  exact KIns.all4 h.2 cs hc
structure RdK (w:World) (B:Nat) (A:Option Addr) (c:Nat) (L:List KV):Prop where
 ex:∃H:List (List Value),Rd w B 4 A L.length c H.flatten/\KIns w [] L H
theorem RdK.to {w w':World}{A:Option Addr}{c:Nat}{L:List KV}(h:RdK w w.heap.size A c L)(hb:Below w.heap.size w w'):RdK w' w'.heap.size A c L:=by
 obtain ⟨H,h1,h2⟩:=h.ex
 exact ⟨H,h1.to hb hb.size,h2.keep (Keeps.of_below hb)⟩
theorem RdK.at_ {w:World}{B c i:Nat}{A:Option Addr}{L:List KV}{k:KV}(h:RdK w B A c L)(hi:L[i]? = some k) :
  ∃b o A0 c0 A1 c1 A2 c2,A=some ⟨b,o,none⟩/\b<B/\w.cell? ⟨b,o+i*4,none⟩=some (.int .i64 k.kind)/\w.cell? ⟨b,o+i*4+1,none⟩=some (.slice A0 k.base.length c0)/\w.cell? ⟨b,o+i*4+2,none⟩=some (.slice A1 k.ours.length c1)/\w.cell? ⟨b,o+i*4+3,none⟩=some (.slice A2 k.theirs.length c2)/\
   Rd w w.heap.size 1 A0 k.base.length c0 (k.base.map .string)/\Rd w w.heap.size 1 A1 k.ours.length c1 (k.ours.map .string)/\Rd w w.heap.size 1 A2 k.theirs.length c2 (k.theirs.map .string):=by
 obtain ⟨H,h1,h2⟩:=h.ex
 obtain ⟨cs,h3,A0,c0,A1,c1,A2,c2,rfl,g0,g1,g2⟩:=h2.get hi
 have hlt:=(List.getElem?_eq_some_iff.1 hi).1
 obtain ⟨b,o,e,hb,hc⟩:=h1.at_ (by omega)
 have h4:=fun t ht=>aWk h2.all4 h3 (t:=t) ht
 refine ⟨b,o,A0,c0,A1,c1,A2,c2,e,hb,?_,?_,?_,?_,g0.1,g1.1,g2.1⟩
 ·exact hc _ _ (h4 0 (by omega))
 ·rw[Nat.add_assoc];exact hc _ _ (h4 1 (by omega))
 ·rw[Nat.add_assoc];exact hc _ _ (h4 2 (by omega))
 rw[Nat.add_assoc];exact hc _ _ (h4 3 (by omega))
theorem aZs {A0 A1 A2:Option Addr}{n0 c0 n1 c1 n2 c2:Nat}{K:Int}{w:World} :
  Calls Tryz.prog 221 #[.agg #[.int .i64 K,.slice A0 n0 c0,.slice A1 n1 c1,.slice A2 n2 c2]] w (BoolBelow (decide (K=5)) w):=by
 have hb1:Below w.heap.size w (w.alloc (.cells #[.int .i64 K,.slice A0 n0 c0,.slice A1 n1 c1,.slice A2 n2 c2] 143)):=(Below.refl _ _).alloc (Nat.le_refl _) _
 have HB:=hid hb1
 clear hb1
 go_enter Tryz.func221,Tryz.ntmps221
 go_wp2
 go_ret
 exact ⟨rfl,HB.out⟩
theorem aYt {A:Option Addr}{c:Nat}{L:List KV}{w:World}(hn:L.length<=1000000)(h:RdK w w.heap.size A c L) :
  Calls Tryz.prog 264 #[.slice A L.length c,.func (.func 221) #[] #[]] w (PlaceOf (!cleanF L) L.length w):=by
 go_enter Tryz.func264,Tryz.ntmps264
 go_wp2
 go_loopw[8] (fun i wr=>∃k:Nat,k<=L.length/\i=.int .i64 k/\Hid (Below w.heap.size w wr)/\Hid (∀u∈L.take k,u.kind≠5)) (fun i _=>L.length-(intOf i).toNat)
 case atStart=>exact ⟨0,Nat.zero_le _,rfl,hid (Below.refl _ _),by rw[List.take_zero];intro m hm;cases hm⟩
 obtain ⟨k,hk,rfl,HB,HJ⟩:=hrel
 by_cases hlt:k<L.length
 ·obtain ⟨u,hu⟩:∃u,L[k]? = some u:=⟨_,List.getElem?_eq_getElem hlt⟩
  obtain ⟨b0,o0,A0,c0,A1,c1,A2,c2,rfl,hbb,q0,q1,q2,q3,_⟩:=h.at_ hu
  replace q0:=(HB.out.cell (p:=⟨b0,o0+k*4,none⟩) hbb).trans q0
  replace q1:=(HB.out.cell (p:=⟨b0,o0+k*4+1,none⟩) hbb).trans q1
  replace q2:=(HB.out.cell (p:=⟨b0,o0+k*4+2,none⟩) hbb).trans q2
  replace q3:=(HB.out.cell (p:=⟨b0,o0+k*4+3,none⟩) hbb).trans q3
  have HU:=hid hu;clear hu
  go_wp2_with fail
  refine aZs.mono ?_
  rintro e w1 ⟨rfl,hb1⟩
  have HB1:=hid (HB.out.trans (hb1.mono HB.out.size))
  clear hb1
  by_cases hd:u.kind=5
  ·have HD:=hid hd
   rw[decide_eq_true hd]
   clear hd
   go_wp2
   go_ret
   refine ⟨k,rfl,?_,by omega,by omega,HB1.out⟩
   rw[decide_eq_true (by omega),Bool.not_eq_true',cleanF,List.all_eq_false]
   exact ⟨u,List.mem_of_getElem? HU.out,by rw[HD.out];simp⟩
  have HD:=hid hd
  rw[decide_eq_false hd]
  clear hd
  go_wp2
  go_roundw
  case rel=>
   refine ⟨k+1,by omega,by go_num,HB1,?_⟩
   intro m hm
   rw[List.take_add_one,HU.out] at hm
   rcases List.mem_append.1 hm with hm | hm
   ·exact HJ.out m hm
   simp at hm;subst hm;exact HD.out
  simp[intOf];omega
 have hkn:k=L.length:=by omega
 subst hkn
 go_wp2
 go_ret
 refine ⟨-1,rfl,?_,by omega,by omega,HB.out⟩
 rw[decide_eq_false (by omega),Bool.not_eq_false',cleanF,List.all_eq_true]
 intro u hu
 exact decide_eq_true (HJ.out u (by rw[List.take_of_length_le (Nat.le_refl _)];exact hu))
theorem bBk {A:Option Addr}{c:Nat}{L:List KV}{w:World}(hn:L.length<=1000000)(h:RdK w w.heap.size A c L) :
  Calls Tryz.prog 182 #[.slice A L.length c] w (BoolBelow (cleanF L) w):=by
 have C1:Calls Tryz.prog 220 #[.slice A L.length c,.func (.func 221) #[] #[]] w (BoolBelow (!cleanF L) w):=by
  have C0:=aYt hn h
  generalize cleanF L=q at *
  generalize L.length=n at *
  go_enter Tryz.func220,Tryz.ntmps220
  go_wp2_with fail
  refine C0.mono ?_
  rintro e w1 ⟨k,rfl,hq,h1,h2,hb⟩
  clear C0
  go_wp2
  go_ret
  exact ⟨by rw[hq];rfl,hb⟩
 generalize cleanF L=q at *
 generalize L.length=n at *
 go_enter Tryz.func182,Tryz.ntmps182
 go_wp2_with fail
 refine C1.mono ?_
 rintro e w1 ⟨rfl,hb⟩
 clear C1
 go_wp2
 go_ret
 exact ⟨by simp,hb⟩
theorem aSn (L:List KV)(k:KV):mergedF (L++[k])=mergedF L++if k.kind=3 then k.theirs else k.ours:=by simp[mergedF]
theorem aOv:∀(L:List KV) (k:Nat),(mergedF (L.take k)).length<=(mergedF L).length:=fun L k=>by
 have:mergedF (L.take k)++mergedF (L.drop k)=mergedF L:=by simp only[mergedF];rw[<-List.flatMap_append,List.take_append_drop]
 rw[<-this,List.length_append];omega
theorem aOo {A:Option Addr}{c:Nat}{L:List KV}{w:World}(hn:L.length<=1000000)(hs:(mergedF L).length<=1000000)(h:RdK w w.heap.size A c L) :
  Calls Tryz.prog 184 #[.slice A L.length c] w (LinesIs (mergedF L) w):=by
 go_enter Tryz.func184,Tryz.ntmps184
 go_wp2
 go_loopw[3,8] (fun out i wr=>∃k:Nat,k<=L.length/\i=.int .i64 k/\Hid (Below w.heap.size w wr)/\Hid (wr.ownsRow w.heap.size 9 1 out (mergedF (L.take k)).length ((mergedF (L.take k)).map .string))) (fun _ i _=>L.length-(intOf i).toNat)
 case atStart=>exact ⟨0,Nat.zero_le _,rfl,hid (Below.refl _ _),by rw[List.take_zero];exact World.ownsRow_nil _ _ _ _⟩
 obtain ⟨k,hk,rfl,HB,HO⟩:=hrel
 have hle:=aOv L k
 by_cases hlt:k<L.length
 ·obtain ⟨u,hu⟩:∃u,L[k]? = some u:=⟨_,List.getElem?_eq_getElem hlt⟩
  obtain ⟨b0,o0,A0,c0,A1,c1,A2,c2,rfl,hbb,q0,q1,q2,q3,r0,r1,r2⟩:=h.at_ hu
  replace q0:=(HB.out.cell (p:=⟨b0,o0+k*4,none⟩) hbb).trans q0
  replace q1:=(HB.out.cell (p:=⟨b0,o0+k*4+1,none⟩) hbb).trans q1
  replace q2:=(HB.out.cell (p:=⟨b0,o0+k*4+2,none⟩) hbb).trans q2
  replace q3:=(HB.out.cell (p:=⟨b0,o0+k*4+3,none⟩) hbb).trans q3
  have hle2:=aOv L (k+1)
  have HM:Hid (mergedF (L.take (k+1))=mergedF (L.take k)++if u.kind=3 then u.theirs else u.ours):=by
   rw[List.take_add_one,hu];exact aSn _ _
  rw[HM.out,List.length_append] at hle2
  clear hu
  obtain ⟨kd,Lb,Lo,Lt⟩:=u
  simp only at q0 q1 q2 q3 r0 r1 r2 hle2 HM
  have hb1:=HB.out.alloc HB.out.size (.cells #[.int .i64 kd,.slice A0 Lb.length c0,.slice A1 Lo.length c1,.slice A2 Lt.length c2] 143)
  have HB1:=hid hb1
  have HO1:=hid (HO.out.alloc (.cells #[.int .i64 kd,.slice A0 Lb.length c0,.slice A1 Lo.length c1,.slice A2 Lt.length c2] 143))
  have HR1:=hid (r1.to hb1 hb1.size)
  have HR2:=hid (r2.to hb1 hb1.size)
  clear r0 r1 r2 hb1 HB HO
  generalize mergedF (L.take k)=M0 at *
  generalize hn0:M0.length=n0 at *
  have HN0:=hid hn0
  clear hn0
  by_cases hd:kd=3
  ·rw[if_pos hd] at hle2 HM
   subst hd
   go_wp2_with (at_builtin;refine aAn rfl (.tmp 15) (.tmp 17) 135 rfl aWw rfl rfl HO1.out HR2.out (aEx _) (by unfold maxLen;omega) (by omega) HB1.out.size ?_;intro v7 w7 ho7 hg7 hv7)
   have HB7:=hid (HB1.out.grown hg7 HB1.out.size (fun g hg=>(HO1.out.lt g hg).1))
   have HO7:=hid ho7
   clear ho7 hg7 hv7 HO1 HB1 HR1 HR2
   go_roundw
   case rel=>exact ⟨k+1,by omega,by go_num,HB7,by rw[HM.out,List.map_append,List.length_append,HN0.out];exact HO7⟩
   simp[intOf];omega
  rw[if_neg hd] at hle2 HM
  go_wp2_with (at_builtin;refine aAn rfl (.tmp 19) (.tmp 21) 135 rfl aWw rfl rfl HO1.out HR1.out (aEx _) (by unfold maxLen;omega) (by omega) HB1.out.size ?_;intro v7 w7 ho7 hg7 hv7)
  have HB7:=hid (HB1.out.grown hg7 HB1.out.size (fun g hg=>(HO1.out.lt g hg).1))
  have HO7:=hid ho7
  clear ho7 hg7 hv7 HO1 HB1 HR1 HR2
  go_roundw
  case rel=>exact ⟨k+1,by omega,by go_num,HB7,by rw[HM.out,List.map_append,List.length_append,HN0.out];exact HO7⟩
  simp[intOf];omega
 have hkn:k=L.length:=by omega
 subst hkn
 rw[List.take_of_length_le (Nat.le_refl _)] at HO
 obtain ⟨A9,c9,rfl,hc9⟩:=aAd HO.out
 have HR9:=hid (Rd.of_own HO.out hc9)
 clear HO
 generalize mergedF L=M at *
 generalize hml:M.length=ml at *
 have HML:=hid hml
 clear hml
 go_wp2
 go_ret
 exact ⟨A9,c9,by rw[HML.out];rfl,by rw[HML.out];exact HR9.out,HB.out⟩
theorem KS:Maps.Keyed Tryz.prog 9:=Maps.string_keyed Tryz.underlying9
theorem keyS {x:ByteArray}(h:x.size<=maxLen):keyOf Tryz.prog 9 (.string x)=some (.string x.data.toList):=by
 rw[keyOf_string Tryz.underlying9]
 simp[mapKey,Tryz.underlying9,h]
theorem aXh {key:Value}{kl:Lit}(h:keyOf Tryz.prog 9 key=some kl):∃s:ByteArray,key=.string s/\kl=.string s.data.toList/\s.size<=maxLen:=Go.WideMaps.string_of_keyOf Tryz.underlying9 h
theorem bDl {x y:ByteArray}(h:x≠y):(Lit.string x.data.toList)≠Lit.string y.data.toList:=fun e=>by
 injection e with e
 exact h (aCh e)
structure MpS (w:World) (b n:Nat) (D:DataW Value) (F:ByteArray->Option Int):Prop where
 own:w.ownsMap Tryz.prog 9 Rv b n D
 at_:∀(x:ByteArray) (v:Int),x.size<=maxLen->F x=some v->∀zd,D.atKey (.string x.data.toList) zd=.held (.int .i64 v)
 has:∀x:ByteArray,x.size<=maxLen->Maps.has D (.string x.data.toList)=(F x).isSome
theorem MpS.start (w:World):MpS (w.alloc (.map #[] 0)) w.heap.size 0 (.map []) (fun _=>none):=
 ⟨World.ownsMap_made _ _ _ _,fun x v _ h=>(by cases h),fun x _=>rfl⟩
theorem MpS.put {w w':World}{b n:Nat}{D:DataW Value}{F:ByteArray->Option Int}{k:ByteArray}{v:Int}(h:MpS w b n D F)(hk:k.size<=maxLen)
  (hown:w'.ownsMap Tryz.prog 9 Rv b (n+1) (D.put (.string k.data.toList) (.held (.int .i64 v)))) :
  MpS w' b (n+1) (D.put (.string k.data.toList) (.held (.int .i64 v))) (fun x=>if x=k then some v else F x):=by
 refine ⟨hown,fun x u hx hu zd=>?_,fun x hx=>?_⟩
 ·by_cases e:x=k
  ·subst e
   rw[if_pos rfl] at hu;injection hu with hu;subst hu
   rw[Maps.atKey_put_same h.own.isMap (KS.key (keyS hk))]
  rw[if_neg e] at hu
  rw[Maps.atKey_put_other (bDl e)]
  exact h.at_ x u hx hu zd
 by_cases e:x=k
 ·subst e
  rw[Maps.has_put_same h.own.isMap (KS.key (keyS hk)),if_pos rfl];rfl
 rw[Maps.has_put_other (bDl e),h.has x hx,if_neg e]
def mO:ByteArray:=⟨#[60,60,60,60,60,60,60,32,111,117,114,115,10]⟩
def mB:ByteArray:=⟨#[124,124,124,124,124,124,124,32,98,97,115,101,10]⟩
def mT:ByteArray:=⟨#[61,61,61,61,61,61,61,10]⟩
def mE:ByteArray:=⟨#[62,62,62,62,62,62,62,32,116,104,101,105,114,115,10]⟩
def markM (x:ByteArray):Option Int:=if x=mE then some 0 else if x=mT then some 3 else if x=mB then some 2 else if x=mO then some 1 else none
def markS (k:Nat):ByteArray:=if k=0 then mE else if k=1 then mO else if k=2 then mB else mT
theorem bGr {x:ByteArray}{k:Nat}(hk:k<=3):markM x=some (k:Int)↔x=markS k:=by
 have hTE:mT≠mE:=by decide
 have hBE:mB≠mE:=by decide
 have hBT:mB≠mT:=by decide
 have hOE:mO≠mE:=by decide
 have hOT:mO≠mT:=by decide
 have hOB:mO≠mB:=by decide
 have:k=0\/k=1\/k=2\/k=3:=by omega
 constructor
 ·intro h
  unfold markM at h
  split at h
  ·rename_i e;injection h with h;rw[e,show k=0 by omega];rfl
  split at h
  ·rename_i e;injection h with h;rw[e,show k=3 by omega];rfl
  split at h
  ·rename_i e;injection h with h;rw[e,show k=2 by omega];rfl
  split at h
  ·rename_i e;injection h with h;rw[e,show k=1 by omega];rfl
  cases h
 rintro rfl
 rcases this with rfl | rfl | rfl | rfl
 ·rw[show markS 0=mE from rfl,markM,if_pos rfl];rfl
 ·rw[show markS 1=mO from rfl,markM,if_neg hOE,if_neg hOT,if_neg hOB,if_pos rfl];rfl
 ·rw[show markS 2=mB from rfl,markM,if_neg hBE,if_neg hBT,if_pos rfl];rfl
 rw[show markS 3=mT from rfl,markM,if_neg hTE,if_pos rfl];rfl
def MarksIs (w:World)(e:Ending) (w':World):Prop:=∃b D,e=.returned (.map (some b))/\w.heap.size<=b/\MpS w' b 4 D markM/\Below w.heap.size w w'
theorem bFa {w:World}:Calls Tryz.prog 268 #[] w (MarksIs w):=by
 have hmm:=@run_makeMap Tryz.prog
 have hM0:=MpS.start w
 have hb0:Below w.heap.size w (w.alloc (.map #[] 0)):=(Below.refl _ _).alloc (Nat.le_refl _) _
 obtain ⟨w1,hr1,ho1,hg1⟩:=hM0.own.update KS Tryz.underlying313 (by unfold maxLen;omega) (keyS (x:=mO) (by decide)) (show Rv (.int .i64 1)=some (.held (.int .i64 1),[]) from rfl)
 have hM1:=hM0.put (k:=mO) (v:=1) (by decide) ho1
 have hb1:=hb0.grown hg1 hb0.size (fun g hg=>by injection hg with hg;omega)
 have q1:(Instr.mapUpdate 313 (.map (some w.heap.size)) (.string ⟨#[60,60,60,60,60,60,60,32,111,117,114,115,10]⟩) (.int .i64 1)).run Tryz.prog (w.alloc (.map #[] 0))=.ok () w1:=hr1
 obtain ⟨w2,hr2,ho2,hg2⟩:=hM1.own.update KS Tryz.underlying313 (by unfold maxLen;omega) (keyS (x:=mB) (by decide)) (show Rv (.int .i64 2)=some (.held (.int .i64 2),[]) from rfl)
 have hM2:=hM1.put (k:=mB) (v:=2) (by decide) ho2
 have hb2:=hb1.grown hg2 hb1.size (fun g hg=>by injection hg with hg;omega)
 have q2:(Instr.mapUpdate 313 (.map (some w.heap.size)) (.string ⟨#[124,124,124,124,124,124,124,32,98,97,115,101,10]⟩) (.int .i64 2)).run Tryz.prog w1=.ok () w2:=hr2
 obtain ⟨w3,hr3,ho3,hg3⟩:=hM2.own.update KS Tryz.underlying313 (by unfold maxLen;omega) (keyS (x:=mT) (by decide)) (show Rv (.int .i64 3)=some (.held (.int .i64 3),[]) from rfl)
 have hM3:=hM2.put (k:=mT) (v:=3) (by decide) ho3
 have hb3:=hb2.grown hg3 hb2.size (fun g hg=>by injection hg with hg;omega)
 have q3:(Instr.mapUpdate 313 (.map (some w.heap.size)) (.string ⟨#[61,61,61,61,61,61,61,10]⟩) (.int .i64 3)).run Tryz.prog w2=.ok () w3:=hr3
 obtain ⟨w4,hr4,ho4,hg4⟩:=hM3.own.update KS Tryz.underlying313 (by unfold maxLen;omega) (keyS (x:=mE) (by decide)) (show Rv (.int .i64 0)=some (.held (.int .i64 0),[]) from rfl)
 have hM4:=hM3.put (k:=mE) (v:=0) (by decide) ho4
 have hb4:=hb3.grown hg4 hb3.size (fun g hg=>by injection hg with hg;omega)
 have q4:(Instr.mapUpdate 313 (.map (some w.heap.size)) (.string ⟨#[62,62,62,62,62,62,62,32,116,104,101,105,114,115,10]⟩) (.int .i64 0)).run Tryz.prog w3=.ok () w4:=hr4
 have HM:=hid hM4
 have HB:=hid hb4
 clear hM0 hM1 hM2 hM3 hM4 hb0 hb1 hb2 hb3 hb4 hr1 hr2 hr3 hr4 ho1 ho2 ho3 ho4 hg1 hg2 hg3 hg4
 go_enter Tryz.func268,Tryz.ntmps268
 go_wp2
 go_ret
 exact ⟨_,_,rfl,Nat.le_refl _,HM.out,HB.out⟩
theorem aZv {k:Nat}(hk:k<=3):(markS k).size<=maxLen:=by
 have:k=0\/k=1\/k=2\/k=3:=by omega
 rcases this with rfl | rfl | rfl | rfl<;>decide
theorem aPo {k:Nat}{w:World}(hk:k<=3):Calls Tryz.prog 226 #[.int .i64 k] w fun e w'=>e=.returned (.string (markS k))/\Below w.heap.size w w':=by
 have hmm:=@run_makeMap Tryz.prog
 have C:=bFa (w:=w)
 have HMK:=hid (fun x:ByteArray=>bGr (x:=x) hk)
 have hSz:=aZv hk
 generalize markS k=S at *
 go_enter Tryz.func226,Tryz.ntmps226
 go_wp2_with fail
 refine C.mono ?_
 rintro e w1 ⟨b,D,rfl,hwb,hM,hb1⟩
 have HM:=hid hM
 have HB:=hid hb1
 have HBW:=hid hb1.size
 have hown:=hM.own
 have hbl:=hown.lt
 clear C hM hb1
 go_wp2_with (first
  | (at_range;refine wpList_range_own _ rfl _ 313 rfl 9 3 KS Tryz.underlying313 _ b 4 _ rfl hown ?_;intro w0 hrg0 hg0 hs0)
  | go_in)
 go_frame
 have hb0:Below w.heap.size w w0:=HB.out.trans ((aMq hg0).mono HBW.out)
 go_loopw[3,4] (fun _ _ wr=>∃(left:Lit->Bool) (cnt:Nat),wr.ranges Tryz.prog 9 Rv b w1.heap.size 4 D left cnt/\Hid (Below w.heap.size w wr)/\Hid (∀x:ByteArray,x.size<=maxLen->markM x=some (k:Int)->left (.string x.data.toList)=true))
  (fun _ _ wr=>wr.rangeLeft b w1.heap.size)
 case atStart=>
  refine ⟨_,_,hrg0,hb0,fun x hx h=>?_⟩
  rw[HM.out.has x hx,h];rfl
 clear hrg0 hg0 hs0 hb0
 obtain ⟨left,cnt,hrg,hb,hP⟩:=hrel
 go_wp2_with (first
  | (at_next;refine wpList_next_ranges _ rfl _ rfl 9 KS Rv (fun x:ByteArray=>Value.string x) (fun c:Value=>c) (fun key kl hk=>by obtain ⟨x,e,_⟩:=aXh hk;exact ⟨x,e⟩) (fun v y hv=>⟨v,rfl⟩) b w1.heap.size 4 _ _ _ rfl hrg ?_ ?_)
  | go_in)
 ·intro hc0 hl0
  exfalso
  have h1:=hP.out S hSz ((HMK.out S).2 rfl)
  rw[hl0] at h1;cases h1
 intro x c kl a ps w2 cnt1 hkey hlx hrx hat hrg1 hlt hg1 hs1 hen
 obtain ⟨x',ex,rfl,hxs⟩:=aXh hkey
 obtain rfl:x=x':=by injection ex
 have hsome:(markM x).isSome=true:=by rw[<-HM.out.has x hxs];exact Maps.has_true_of_atKey hat
 obtain ⟨v,hv⟩:=Option.isSome_iff_exists.1 hsome
 have hc:c=.int .i64 v:=by
  have h1:=HM.out.at_ x v hxs hv (.held (.int .i64 0))
  rw[hat] at h1
  simp only[Rv,Option.some.injEq,Prod.mk.injEq] at hrx
  rw[<-hrx.1] at h1
  exact aGc h1
 subst hc
 have HV:=hid hv
 have hb2:Below w.heap.size w w2:=hb.out.grown hg1 hb.out.size (fun j hj=>by injection hj with hj;have:=HBW.out;omega)
 have HB2:=hid hb2
 have HM2:=hid (show w2.rangeLeft b w1.heap.size<wr.rangeLeft b w1.heap.size by rw[hrg1.left_eq,hrg.left_eq];exact hlt)
 clear ex hkey hat hrx hsome hv hb2
 by_cases hq:v=(k:Int)
 ·subst hq
  have HX:=hid ((HMK.out x).1 HV.out)
  go_wp2
  go_ret
  exact ⟨by rw[HX.out];rfl,HB2.out⟩
 have HN:Hid (∀y:ByteArray,y.size<=maxLen->markM y=some (k:Int)->(fun z=>left z && !z.sameKey (.string x.data.toList)) (.string y.data.toList)=true):=fun y hy hm=>by
  have hne:y≠x:=fun e=>by
   rw[e,HV.out] at hm
   injection hm with hm
   exact hq hm
  simp[hP.out y hy hm,Maps.sameKey_ne (bDl hne)]
 go_wp2
 go_roundw
 case rel=>exact ⟨_,cnt1,hrg1,HB2,HN⟩
 exact HM2.out
def TxtAt (B b:Nat)(p:Value)(s:Bs)(w:World):Prop:=Lib.BuilderAtF 245 5 B b p (Lib.byteCells s) w/\(s=[]->w.cell? ⟨b,1,none⟩=some (.slice none 0 0))
def Txt (B b:Nat)(s:Bs)(w:World):Prop:=TxtAt B b (.pointer none) s w\/TxtAt B b (.pointer (some ⟨b,0,none⟩)) s w
theorem liesTxt:liesAt Tryz.prog Tryz.prog.depth 245 (2 / Tryz.prog.cellsOf 245) 0 243 1=true:=by kernel_rfl
theorem aIp {B b:Nat}{s:Bs}{w:World}(h:Txt B b s w) :
  Calls Tryz.prog 266 #[.pointer (some ⟨b,0,none⟩)] w fun e w'=>e=.returned (.tuple #[])/\TxtAt B b (.pointer (some ⟨b,0,none⟩)) s w'/\Below B w w'/\Lib.OthersKept 5 (some b) w w':=by
 rcases h with h | h
 ·have hnil:=h.2
  replace h:=h.1
  have c0:=h.cell0
  have hs:=h.shape
  have hf:=h.frozen0
  obtain ⟨j,hj,hjs⟩:∃j,Tryz.prog.info? 243=some j/\j.size=2:=Option.map_eq_some_iff.1 (show (Tryz.prog.info? 243).map (·.size)=some 2 by kernel_rfl)
  have q1:=Lib.run_to_unsafe (P:=Tryz.prog) (w:=w) ⟨b,0,none⟩ Tryz.underlying241 Tryz.underlying329 hj (by rw[hjs];decide) hs (by show 0<2;omega)
  have q2:=Lib.run_from_unsafe (P:=Tryz.prog) (w:=w) ⟨b,0,none⟩ Tryz.underlying329 Tryz.underlying241 hj hs liesTxt
  have HU:Hid (TxtAt B b (.pointer (some ⟨b,0,none⟩)) s (w.setCell ⟨b,0,none⟩ (.pointer (some ⟨b,0,none⟩)))):=hid ⟨h.used (.pointer (some ⟨b,0,none⟩)),fun e=>(World.cell?_setCell_other _ _ _ _ (by simp)).trans (hnil e)⟩
  have HB:=hid ((Below.refl B w).setCell (p:=⟨b,0,none⟩) h.1 (.pointer (some ⟨b,0,none⟩)))
  have q3:(callFunc 291 #[.pointer (some ⟨b,0,none⟩)]).run Tryz.prog w=.ok (.value (.pointer (some ⟨b,0,none⟩))) w:=by
   rw[run_callFunc_extern Tryz.func291 (by kernel_rfl) (by kernel_rfl) (by kernel_rfl) (e:=Extern.AbiNoEscape.same) (by kernel_rfl),Lib.run_noEscape]
   rfl
  clear h hs hj hjs hnil
  go_enter Tryz.func266,Tryz.ntmps266
  go_wp2
  refine bodyPost_end (results_none rfl _ _ _) rfl ?_
  exact ⟨rfl,HU.out,HB.out,(Lib.OthersKept.refl _ _ w).setCell ⟨b,0,none⟩ rfl _⟩
 have c0:=h.1.cell0
 have H:=hid h
 clear h
 have q4:(binOp .neq 241 (.pointer (some ⟨b,0,none⟩)) (.pointer (some ⟨b,0,none⟩))).run Tryz.prog w=.ok (.bool false) w:=by
  obtain ⟨j,hj,_⟩:=Option.map_eq_some_iff.1 (show (Tryz.prog.info? 243).map (·.size)=some 2 by kernel_rfl)
  exact Lib.run_neq_ptr_same w _ Tryz.underlying241 hj
 go_enter Tryz.func266,Tryz.ntmps266
 go_wp2
 refine bodyPost_end (results_none rfl _ _ _) rfl ?_
 exact ⟨rfl,H.out,Below.refl _ _,Lib.OthersKept.refl _ _ _⟩
theorem bCh {B b:Nat}{s:Bs} {p v v':Value}{w:World}(hnil:s=[]->v'=.slice none 0 0)(hB:B<=b)(hb:w.heap[b]? = some (.cells #[p,v] 245 (0,0)))(ho:w.ownsRowF B 5 1 v' s.length (Lib.byteCells s)):TxtAt B b p s (w.setCell ⟨b,1,none⟩ v'):=by
 refine ⟨Lib.BuilderAtF.put (T:=245) (e:=5) hB hb (bs':=Lib.byteCells s) (by rw[Lib.byteCells_length];exact ho) (by decide),fun e=>?_⟩
 have:=heap_setCell_same w b 1 _ _ v' hb
 rw[Lib.cell_of_heap this,hnil e];rfl
theorem bDg {B b:Nat}{s:Bs}{c:UInt8}{w:World}(h:Txt B b s w)(hs:s.length+1<=1000000)(hBw:B<=w.heap.size) :
  Calls Tryz.prog 225 #[.pointer (some ⟨b,0,none⟩),.int .u8 c.toNat] w fun e w'=>e=.returned .nilIface/\TxtAt B b (.pointer (some ⟨b,0,none⟩)) (s++[c]) w'/\Below B w w'/\Lib.OthersKept 5 (some b) w w':=by
 obtain ⟨i0,hi,hz0,hz1,hz2⟩:=info_parts extra167.infoByte
 have K:=aIp h
 clear h
 go_enter Tryz.func225,Tryz.ntmps225
 go_wp2_with fail
 refine K.mono ?_
 rintro e w1 ⟨rfl,h1,hb1,hk1⟩
 obtain ⟨⟨hB,v,hbk,hown,hne⟩,hnil⟩:=h1
 rw[Lib.byteCells_length] at hown
 have c0:w1.cell? ⟨b,0,none⟩=some (.pointer (some ⟨b,0,none⟩)):=by rw[Lib.cell_of_heap hbk];rfl
 have c1:w1.cell? ⟨b,1,none⟩=some v:=by rw[Lib.cell_of_heap hbk];rfl
 have hw1:=hb1.size
 go_wp2_with (at_builtin;refine wpList_append_ownF _ rfl _ _ 102 rfl B 5 i0 (.int .u8 0) 1 1 Tryz.underlying102 hi hz0 hz1 hz2 rfl (by decide) _ _ _ rfl (hown.alloc _) ⟨w1.heap.size,0,none⟩ 1 1 [.int .u8 c.toNat] rfl rfl ?c1 ?c2 ?c3 ?c4 ?c5 ?_)
 case c1=>
  intro j u hj
  match j,hj with
  | 0,hj=>simp at hj;subst hj;simp[Addr.add]
 case c2=>intro u hu;simp at hu;subst hu;rfl
 case c3=>unfold maxLen;omega
 case c4=>omega
 case c5=>simp;omega
 intro v' w2 hown' hgrow _
 have hlt:b<w1.heap.size:=by
  rcases Nat.lt_or_ge b w1.heap.size with h' | h'
  ·exact h'
  simp[Array.getElem?_eq_none h'] at hbk
 have hb2:w2.heap[b]? = some (.cells #[.pointer (some ⟨b,0,none⟩),v] 245 (0,0)):=by
  rw[hgrow.block b (by simp;omega) (fun e=>hne e.symm),Below.heap_alloc w1 _ b hlt]
  exact hbk
 have d1:w2.cell? ⟨b,1,none⟩=some v:=by rw[Lib.cell_of_heap hb2];rfl
 have f1:w2.frozen? ⟨b,1,none⟩=false:=aAk hb2
 obtain ⟨A,m,cap,rfl⟩:∃A m cap,v'=.slice A m cap:=by
  rcases hown'.2 with ⟨hv,_⟩ | ⟨g,cap,cur,fz,hv,_⟩
  ·exact ⟨_,_,_,hv⟩
  exact ⟨_,_,_,hv⟩
 have HO:=hid (((hk1.alloc _).grown hgrow (Lib.ownsRowF_kind (hown.alloc _))).setCell ⟨b,1,none⟩ rfl (.slice A m cap))
 have HP:=hid (bCh (s:=s++[c]) (fun e=>by simp at e) hB hb2 (by simpa[Lib.byteCells] using hown'))
 have HB:=hid (((hb1.alloc (by omega) (.cells #[.int .u8 c.toNat] 5)).grown hgrow (by simp;omega) (fun k hk=>(hown.lt k hk).1)).setCell (p:=⟨b,1,none⟩) hB (.slice A m cap))
 clear hk1 hown hown' hgrow hbk hb2 hne hnil
 go_wp2
 go_ret
 exact ⟨rfl,HP.out,HB.out,HO.out⟩
theorem aEd {B b:Nat}{s:Bs}{t:ByteArray}{w:World}(h:Txt B b s w)(hs:s.length+t.size<=10000000)(hBw:B<=w.heap.size) :
  Calls Tryz.prog 223 #[.pointer (some ⟨b,0,none⟩),.string t] w fun e w'=>e=.returned (.tuple #[.int .i64 t.size,.nilIface])/\TxtAt B b (.pointer (some ⟨b,0,none⟩)) (s++t.data.toList) w'/\Below B w w'/\Lib.OthersKept 5 (some b) w w':=by
 obtain ⟨i0,hi,hz0,hz1,hz2⟩:=info_parts extra167.infoByte
 have K:=aIp h
 clear h
 go_enter Tryz.func223,Tryz.ntmps223
 go_wp2_with fail
 refine K.mono ?_
 rintro e w1 ⟨rfl,h1,hb1,hk1⟩
 obtain ⟨⟨hB,v,hbk,hown,hne⟩,hnil⟩:=h1
 rw[Lib.byteCells_length] at hown
 have c0:w1.cell? ⟨b,0,none⟩=some (.pointer (some ⟨b,0,none⟩)):=by rw[Lib.cell_of_heap hbk];rfl
 have c1:w1.cell? ⟨b,1,none⟩=some v:=by rw[Lib.cell_of_heap hbk];rfl
 have hw1:=hb1.size
 go_wp2_with (at_builtin;refine Lib.wpList_append_own_stringF _ rfl _ _ 102 9 rfl B 5 i0 Tryz.underlying102 Tryz.underlying9 hi hz0 hz1 hz2 _ _ _ rfl hown t rfl ?c3 ?c4 ?c5 ?_)
 case c3=>unfold maxLen;omega
 case c4=>omega
 case c5=>omega
 intro v' w2 hown' hgrow hiff
 have hlt:b<w1.heap.size:=by
  rcases Nat.lt_or_ge b w1.heap.size with h' | h'
  ·exact h'
  simp[Array.getElem?_eq_none h'] at hbk
 have hb2:w2.heap[b]? = some (.cells #[.pointer (some ⟨b,0,none⟩),v] 245 (0,0)):=by
  rw[hgrow.block b hlt (fun e=>hne e.symm)]
  exact hbk
 have d1:w2.cell? ⟨b,1,none⟩=some v:=by rw[Lib.cell_of_heap hb2];rfl
 have f1:w2.frozen? ⟨b,1,none⟩=false:=aAk hb2
 obtain ⟨A,m,cap,rfl⟩:∃A m cap,v'=.slice A m cap:=by
  rcases hown'.2 with ⟨hv,_⟩ | ⟨g,cap,cur,fz,hv,_⟩
  ·exact ⟨_,_,_,hv⟩
  exact ⟨_,_,_,hv⟩
 have hnil2:s++t.data.toList=[]->Value.slice A m cap=.slice none 0 0:=fun e=>by
  obtain ⟨e1,e2⟩:=List.append_eq_nil_iff.1 e
  have h3:=hnil e1
  rw[Lib.cell_of_heap hbk] at h3
  have h4:v=.slice none 0 0:=by simpa using h3
  exact hiff.2 ⟨h4,by first | (rw[<-aCg,e2];rfl) | exact aCh (by rw[e2];rfl)⟩
 have HO:=hid ((hk1.grown hgrow (Lib.ownsRowF_kind hown)).setCell ⟨b,1,none⟩ rfl (.slice A m cap))
 have HP:=hid (bCh (s:=s++t.data.toList) hnil2 hB hb2 (by rw[Lib.byteCells_append,List.length_append];exact hown'))
 have HB:=hid ((hb1.grown hgrow (by omega) (fun k hk=>(hown.lt k hk).1)).setCell (p:=⟨b,1,none⟩) hB (.slice A m cap))
 clear hk1 hown hown' hgrow hbk hb2 hne hnil hnil2 hiff
 go_wp2
 go_ret2
 exact ⟨rfl,HP.out,HB.out,HO.out⟩
theorem bDo {B b:Nat}{s:Bs}{w:World}(h:Txt B b s w) :
  Calls Tryz.prog 187 #[.pointer (some ⟨b,0,none⟩)] w fun e w'=>e=.returned (.string (ofB s))/\Txt B b s w'/\Below B w w'/\Lib.OthersKept 5 (some b) w w':=by
 obtain ⟨p,hp,hAt⟩:∃p,(p=.pointer none\/p=.pointer (some ⟨b,0,none⟩))/\TxtAt B b p s w:=by
  rcases h with h | h
  ·exact ⟨_,.inl rfl,h⟩
  exact ⟨_,.inr rfl,h⟩
 have HTX:Hid (∀u,TxtAt B b p s u->Txt B b s u):=fun u hu=>by
  rcases hp with rfl | rfl
  ·exact .inl hu
  exact .inr hu
 clear h hp
 obtain ⟨hA,hnil⟩:=hAt
 obtain ⟨hB,v,hbk,hown,hne⟩:=hA
 by_cases h0:s=[]
 ·subst h0
  have h3:=hnil rfl
  rw[Lib.cell_of_heap hbk] at h3
  obtain rfl:v=.slice none 0 0:=by simpa using h3
  have c1:w.drew.cell? ⟨b,1,none⟩=some (.slice none 0 0):=hnil rfl
  have hSD:(Builtin.unsafeSliceData_ #[102] 288 #[.slice none 0 0]).run Tryz.prog w.drew=.ok (.pointer none) w.drew:=rfl
  have hUS:(Builtin.unsafeString_ #[288,3] 9 #[.pointer none,.int .i64 0]).run Tryz.prog w.drew=.ok (.string .empty) w.drew:=Any.unsafeString_none Tryz.lays169 Tryz.Builder_Extra_169 w.drew none
  have HT:=hid (HTX.out w.drew ⟨⟨hB,_,hbk,hown,hne⟩,hnil⟩)
  clear hbk hown hne hnil h3 HTX
  have hmix:=(mixed:Tryz.prog.follows .mixedOrders=true)
  go_enter Tryz.func187,Tryz.ntmps187
  go_wp2
  go_region_o
  all_goals (go_wp2;go_ret;exact ⟨rfl,HT.out,Below.drew (Below.refl B w),(Lib.OthersKept.refl _ _ w).drew⟩)
 have hl0:s.length≠0:=by simpa using h0
 rw[Lib.byteCells_length] at hown
 obtain ⟨g,cap,cur,fz,rfl,hbg,hg,hfz,hnc,hcm,hcs,htake⟩:∃g cap cur fz,v=.slice (some ⟨g,0,none⟩) s.length cap/\B<=g/\w.heap[g]? = some (.cells cur 5 fz)/\fz.2<=s.length*1/\s.length<=cap/\cap<=maxLen/\cur.size=cap*1/\cur.toList.take (s.length*1)=Lib.byteCells s:=by
  rcases hown.2 with ⟨_,hz⟩ | ⟨g,cap,cur,fz,hv,r⟩
  ·exact absurd hz hl0
  exact ⟨g,cap,cur,fz,hv,r⟩
 have c1:w.drew.cell? ⟨b,1,none⟩=some (.slice (some ⟨g,0,none⟩) s.length cap):=by
  have:w.drew.heap[b]? = some (.cells #[p,.slice (some ⟨g,0,none⟩) s.length cap] 245 (0,0)):=hbk
  rw[Lib.cell_of_heap this];rfl
 have hSD:(Builtin.unsafeSliceData_ #[102] 288 #[.slice (some ⟨g,0,none⟩) s.length cap]).run Tryz.prog w.drew=.ok (.pointer (some ⟨g,0,none⟩)) w.drew:=
  Lib.run_unsafeSliceData_row _ _ _ _ _ _ (by omega)
 have hUS:(Builtin.unsafeString_ #[288,3] 9 #[.pointer (some ⟨g,0,none⟩),.int .i64 s.length]).run Tryz.prog w.drew=.ok (.string ⟨s.toArray⟩) (w.drew.freeze ⟨g,0,none⟩ s.length):=by
  refine Lib.run_unsafeString_row w.drew 288 3 9 5 Tryz.underlying288 Tryz.Builder_Extra_169.cellsByte g cur.size (by have hg':w.drew.heap[g]? = some (.cells cur 5 fz):=hg;simp[World.shape?,hg']) s h0 (by omega) (by unfold maxLen at hcm;omega) ?_
  intro j x hx
  have:=hown.cells (g:=g) rfl j (.int .u8 x.toNat) (by simp[Lib.byteCells,hx])
  exact this
 have hA:Lib.BuilderAtF 245 5 B b p (Lib.byteCells s) w.drew:=⟨hB,_,hbk,by rw[Lib.byteCells_length];exact hown,hne⟩
 have hF:=hA.froze (g:=g) (cap:=cap) (by rw[Lib.byteCells_length];exact c1)
 rw[Lib.byteCells_length] at hF
 have HT:=hid (HTX.out _ ⟨hF,fun e=>absurd e h0⟩)
 have HO:=hid (((Lib.OthersKept.refl 5 (some b) w).drew).freeze ⟨g,0,none⟩ s.length ⟨cur,fz,hg⟩)
 have HB:=hid (Lib.below_freeze (Below.drew (Below.refl B w)) (p:=⟨g,0,none⟩) hbg s.length)
 clear hA hF hbk hown hne hnil HTX
 have hmix:=(mixed:Tryz.prog.follows .mixedOrders=true)
 go_enter Tryz.func187,Tryz.ntmps187
 go_wp2
 go_region_o
 all_goals (go_wp2;go_ret;exact ⟨rfl,HT.out,HB.out,HO.out⟩)
theorem TxtAt.below {B b:Nat}{p:Value}{s:Bs} {w w':World}(h:TxtAt B b p s w)(hb:Below w.heap.size w w'):TxtAt B b p s w':=by
 obtain ⟨⟨hB,v,hbk,hown,hne⟩,hnil⟩:=h
 have hlt:b<w.heap.size:=by
  rcases Nat.lt_or_ge b w.heap.size with h' | h'
  ·exact h'
  simp[Array.getElem?_eq_none h'] at hbk
 exact ⟨⟨hB,v,(hb.block b hlt).trans hbk,hown.kept (row:=none) ⟨hb.os,hb.tape,hb.output,hb.size,fun k hk _=>hb.block k hk⟩ (by cases hv:v.ownBlock<;>simp),hne⟩,fun e=>(hb.cell (p:=⟨b,1,none⟩) hlt).trans (hnil e)⟩
theorem Txt.below {B b:Nat}{s:Bs} {w w':World}(h:Txt B b s w)(hb:Below w.heap.size w w'):Txt B b s w':=by
 rcases h with h | h
 ·exact .inl (h.below hb)
 exact .inr (h.below hb)
theorem aWr (s:Bs):(ofB s).data.toList=s:=by simp[ofB]
theorem aIt (l:List ByteArray):(joinF l).data.toList=catF l:=aWr _
theorem aCw {b:Nat} {w w':World}(h:Below w.heap.size w w'):Lib.OthersKept 5 (some b) w w':=fun k o hk _ _=>by
 have hlt:k<w.heap.size:=by
  rcases Nat.lt_or_ge k w.heap.size with h' | h'
  ·exact h'
  simp[Array.getElem?_eq_none h'] at hk
 exact (h.block k hlt).trans hk
def TxtIs (B b:Nat)(s:Bs)(w:World)(e:Ending) (w':World):Prop:=e=.returned (.tuple #[])/\Txt B b s w'/\Below B w w'/\Lib.OthersKept 5 (some b) w w'
theorem aLd {B b n c:Nat}{s:Bs}{A:Option Addr}{l:List ByteArray}{w:World}(h:Txt B b s w)(hBw:B<=w.heap.size)(hn:n<=1000000)(hl:Rd w w.heap.size 1 A n c (l.map .string))(hs:s.length+(catF l).length<=10000000) :
  Calls Tryz.prog 185 #[.pointer (some ⟨b,0,none⟩),.slice A n c] w (TxtIs B b (s++catF l) w):=by
 have hsz:(joinF l).size=(catF l).length:=by rw[<-aCg,aIt]
 go_enter Tryz.func185,Tryz.ntmps185
 go_wp2
 refine aAh (fun _=>True) [(true,0),(true,1),(true,2),(true,3),(false,4),(false,5)] mixed (by kernel_rfl) trivial ?_
 intro Tp M Q hT hT' hM hQ
 clear hM
 simp only[qcmp]
 simp (maxSteps:=9^7) only[↓qpre,aAb,aAe,aAc]
 refine aAi (by kernel_rfl) (aWs (w:=w.drew) (by omega) hl.drew (by omega)) rfl rfl ?_
 rintro e w1 ⟨rfl,hb1⟩
 have h1:=h.below (show Below w.heap.size w w1 from (Below.refl _ _).drew.trans hb1)
 have hw1:B<=w1.heap.size:=Nat.le_trans hBw hb1.size
 have HO1:=hid (aCw (b:=b) (show Below w.heap.size w w1 from (Below.refl _ _).drew.trans hb1))
 have HB1:=hid (show Below B w w1 from ((Below.refl w.heap.size w).drew.trans hb1).mono hBw)
 refine ⟨_,rfl,hT _ trivial,?_⟩
 simp (maxSteps:=9^7) only[aAb,aAc]
 refine aAi (by kernel_rfl) (aEd h1 (by omega) hw1) rfl rfl ?_
 rintro e w2 ⟨rfl,h2,hb2,ho2⟩
 have HO2:=hid (HO1.out.trans ho2)
 rw[aIt] at h2
 have HT2:=hid h2
 have HB2:=hid (HB1.out.trans hb2)
 refine ⟨_,rfl,hT _ trivial,?_⟩
 simp (maxSteps:=9^7) only[aAb,aAc]
 refine hQ _ _ ?_
 clear hQ hT hT' h h1 h2 hb1 hb2 hl ho2
 go_wp2
 refine bodyPost_end (results_none rfl _ _ _) rfl ?_
 exact ⟨rfl,.inr HT2.out,HB2.out,HO2.out⟩
theorem suffix10 (s:Bs):Lib.hasSuffix s [10]=decide (s.getLast? = some 10):=by
 unfold Lib.hasSuffix
 rw[Bool.eq_iff_iff,decide_eq_true_eq,List.isSuffixOf_iff_suffix]
 constructor
 ·rintro ⟨t,rfl⟩;simp
 intro h
 obtain ⟨l,hl⟩:=List.getLast?_eq_some_iff.1 h
 exact ⟨l,hl.symm⟩
theorem aHr {B b k:Nat}{s:Bs}{w:World}(h:Txt B b s w)(hBw:B<=w.heap.size)(hk:k<=3)(hs:s.length<=900000) :
  Calls Tryz.prog 186 #[.pointer (some ⟨b,0,none⟩),.int .i64 k] w (TxtIs B b (endedF s++(markS k).data.toList) w):=by
 have hmsz:(markS k).size<=20:=by
  have:k=0\/k=1\/k=2\/k=3:=by omega
  rcases this with rfl | rfl | rfl | rfl<;>decide
 have K0:=bDo h
 go_enter Tryz.func186,Tryz.ntmps186
 go_wp2_with fail
 refine K0.mono ?_
 rintro e w1 ⟨rfl,h1,hb1,ho1⟩
 have HO1:=hid ho1
 have hw1:B<=w1.heap.size:=Nat.le_trans hBw hb1.size
 have HT1:=hid h1
 have HB1:=hid hb1
 clear K0 h h1 hb1 ho1
 have hSf:=Tryz.strings_HasSuffix (ofB s) ⟨#[10]⟩ w1 (by rw[aHy];omega)
 rw[aWr,show (⟨#[10]⟩:ByteArray).data.toList=[10] from rfl,suffix10] at hSf
 have hE0:(ofB s).toList.isEmpty=decide (s=[]):=by
  cases s with
  | nil=>simp[ofB]
  | cons x s=>
   have e0:=aBw (show ofB (x::s)≠⟨#[]⟩ from fun e=>by have:=congrArg (fun y:ByteArray=>y.data.toList) e;simp[ofB] at this)
   cases h:(ofB (x::s)).toList with
   | nil=>rw[h] at e0;simp at e0
   | cons=>rfl
 generalize ofB s=S at *
 by_cases h0:s=[]
 ·have HE:=hid (show endedF s=s by rw[endedF,if_pos (.inl h0)])
  rw[decide_eq_true h0] at hE0
  clear hSf h0
  go_wp2
  have HT:=HT1
  have HB:=HB1
  have HO:=HO1
  have hwb:=hw1
  refine aAh (fun _=>True) [(true,0),(true,1),(true,2),(true,3),(false,4),(false,5)] mixed (by kernel_rfl) trivial ?_
  intro Tp M Q hT hT' hM hQ
  clear hM
  simp only[qcmp]
  simp (maxSteps:=9^7) only[↓qpre,aAb,aAe,aAc]
  refine aAi (by kernel_rfl) (aPo (w:=w1.drew) hk) rfl rfl ?_
  rintro e w3 ⟨rfl,hb3⟩
  have h3:=HT.out.below (show Below w1.heap.size w1 w3 from (Below.refl _ _).drew.trans hb3)
  have hw3:B<=w3.heap.size:=Nat.le_trans hwb hb3.size
  have HO3:=hid (HO.out.trans (aCw (b:=b) (show Below w1.heap.size w1 w3 from (Below.refl _ _).drew.trans hb3)))
  have HB3:=hid (HB.out.trans (show Below B w1 w3 from ((Below.refl w1.heap.size w1).drew.trans hb3).mono hwb))
  refine ⟨_,rfl,hT _ trivial,?_⟩
  simp (maxSteps:=9^7) only[aAb,aAc]
  refine aAi (by kernel_rfl) (aEd h3 (by omega) hw3) rfl rfl ?_
  rintro e w4 ⟨rfl,h4,hb4,ho4⟩
  have HO4:=hid (HO3.out.trans ho4)
  have HT4:=hid h4
  have HB4:=hid (HB3.out.trans hb4)
  refine ⟨_,rfl,hT _ trivial,?_⟩
  simp (maxSteps:=9^7) only[aAb,aAc]
  refine hQ _ _ ?_
  clear hQ hT hT' h3 h4 hb3 hb4 ho4
  go_wp2
  refine bodyPost_end (results_none rfl _ _ _) rfl ?_
  exact ⟨rfl,.inr (by rw[HE.out];exact HT4.out),HB4.out,HO4.out⟩
 rw[decide_eq_false h0] at hE0
 go_wp2_with fail
 refine hSf.mono ?_
 rintro e w2 ⟨rfl,rfl⟩
 clear hSf
 by_cases hg:s.getLast? = some 10
 ·have HE:=hid (show endedF s=s by rw[endedF,if_pos (.inr hg)])
  rw[decide_eq_true hg]
  clear hg h0
  go_wp2
  have HT:=HT1
  have HB:=HB1
  have HO:=HO1
  have hwb:=hw1
  refine aAh (fun _=>True) [(true,0),(true,1),(true,2),(true,3),(false,4),(false,5)] mixed (by kernel_rfl) trivial ?_
  intro Tp M Q hT hT' hM hQ
  clear hM
  simp only[qcmp]
  simp (maxSteps:=9^7) only[↓qpre,aAb,aAe,aAc]
  refine aAi (by kernel_rfl) (aPo (w:=w2.drew) hk) rfl rfl ?_
  rintro e w3 ⟨rfl,hb3⟩
  have h3:=HT.out.below (show Below w2.heap.size w2 w3 from (Below.refl _ _).drew.trans hb3)
  have hw3:B<=w3.heap.size:=Nat.le_trans hwb hb3.size
  have HO3:=hid (HO.out.trans (aCw (b:=b) (show Below w2.heap.size w2 w3 from (Below.refl _ _).drew.trans hb3)))
  have HB3:=hid (HB.out.trans (show Below B w2 w3 from ((Below.refl w2.heap.size w2).drew.trans hb3).mono hwb))
  refine ⟨_,rfl,hT _ trivial,?_⟩
  simp (maxSteps:=9^7) only[aAb,aAc]
  refine aAi (by kernel_rfl) (aEd h3 (by omega) hw3) rfl rfl ?_
  rintro e w4 ⟨rfl,h4,hb4,ho4⟩
  have HO4:=hid (HO3.out.trans ho4)
  have HT4:=hid h4
  have HB4:=hid (HB3.out.trans hb4)
  refine ⟨_,rfl,hT _ trivial,?_⟩
  simp (maxSteps:=9^7) only[aAb,aAc]
  refine hQ _ _ ?_
  clear hQ hT hT' h3 h4 hb3 hb4 ho4
  go_wp2
  refine bodyPost_end (results_none rfl _ _ _) rfl ?_
  exact ⟨rfl,.inr (by rw[HE.out];exact HT4.out),HB4.out,HO4.out⟩
 have HE:=hid (show endedF s=s++[10] by rw[endedF,if_neg (by rintro (h | h);exact h0 h;exact hg h)])
 rw[decide_eq_false hg]
 clear hg h0
 have KW:=bDg (c:=10) HT1.out (by omega) hw1
 go_wp2_with fail
 refine KW.mono ?_
 rintro e w5 ⟨rfl,h5,hb5,ho5⟩
 have HO:=hid (HO1.out.trans ho5)
 have HT:=hid (show Txt B b (s++[10]) w5 from .inr h5)
 have HB:=hid (HB1.out.trans hb5)
 have hwb:=Nat.le_trans hw1 hb5.size
 have hs:(s++[(10:UInt8)]).length<=900001:=by simp;omega
 clear KW h5 hb5 ho5
 go_wp2
 refine aAh (fun _=>True) [(true,0),(true,1),(true,2),(true,3),(false,4),(false,5)] mixed (by kernel_rfl) trivial ?_
 intro Tp M Q hT hT' hM hQ
 clear hM
 simp only[qcmp]
 simp (maxSteps:=9^7) only[↓qpre,aAb,aAe,aAc]
 refine aAi (by kernel_rfl) (aPo (w:=w5.drew) hk) rfl rfl ?_
 rintro e w3 ⟨rfl,hb3⟩
 have h3:=HT.out.below (show Below w5.heap.size w5 w3 from (Below.refl _ _).drew.trans hb3)
 have hw3:B<=w3.heap.size:=Nat.le_trans hwb hb3.size
 have HO3:=hid (HO.out.trans (aCw (b:=b) (show Below w5.heap.size w5 w3 from (Below.refl _ _).drew.trans hb3)))
 have HB3:=hid (HB.out.trans (show Below B w5 w3 from ((Below.refl w5.heap.size w5).drew.trans hb3).mono hwb))
 refine ⟨_,rfl,hT _ trivial,?_⟩
 simp (maxSteps:=9^7) only[aAb,aAc]
 refine aAi (by kernel_rfl) (aEd h3 (by omega) hw3) rfl rfl ?_
 rintro e w4 ⟨rfl,h4,hb4,ho4⟩
 have HO4:=hid (HO3.out.trans ho4)
 have HT4:=hid h4
 have HB4:=hid (HB3.out.trans hb4)
 refine ⟨_,rfl,hT _ trivial,?_⟩
 simp (maxSteps:=9^7) only[aAb,aAc]
 refine hQ _ _ ?_
 clear hQ hT hT' h3 h4 hb3 hb4 ho4
 go_wp2
 refine bodyPost_end (results_none rfl _ _ _) rfl ?_
 exact ⟨rfl,.inr (by rw[HE.out];exact HT4.out),HB4.out,HO4.out⟩
end Go.Proofs.YtohblmepajhpaaaGreatDoor
