/- Contracts of functions that the law reaches, and plain laws of what they compute. -/
import Derived.Shelf.Strings.BuilderK
import Derived.Test.YtohblmepajhpaaaGreatDoorG05
import Derived.Test.YtohblmepajhpaaaGreatDoorG06
import Derived.Test.YtohblmepajhpaaaGreatDoorG07
set_option maxHeartbeats 8000000
set_option maxRecDepth 100000
open Go.Lib (hid)
namespace Go.Proofs.YtohblmepajhpaaaGreatDoor
open Go.RowKit
theorem aHm:Elem Tryz.prog 190 193 2 24:=aBw (by kernel_rfl)
theorem aFw (l:List DV):∀u∈l.flatMap DV.cells,u.oneCell'=true:=by
 intro u hu
 obtain ⟨f,_,hf⟩:=List.mem_flatMap.1 hu
 simp only[DV.cells,List.mem_cons,List.mem_nil_iff,or_false] at hf
 rcases hf with rfl | rfl<;>rfl
theorem aQm (w:World)(f:DV):Rd (w.alloc (.cells #[.int .i64 f.kind,.string f.line] 193)) (w.alloc (.cells #[.int .i64 f.kind,.string f.line] 193)).heap.size 2 (some ⟨w.heap.size,0,none⟩) 1 1 ([f].flatMap DV.cells):=
 ⟨rfl,Nat.le_refl _,fun _=>⟨_,0,rfl,by simp,fun j u hu=>by
  rw[Nat.zero_add,World.cell?,heap_alloc_new]
  simpa[DV.cells] using hu⟩⟩
theorem bGu {k:Int}{a:List ByteArray}{j:Nat}{x:ByteArray}(hx:a[j]? = some x):evs k (a.take (j+1))=evs k (a.take j)++[⟨k,x⟩]:=by
 rw[List.take_add_one,hx];simp[evs]
theorem aBt (k:Int)(a:List ByteArray):(evs k a).length=a.length:=by simp[evs]
def EdIs (L:List DV)(w:World)(e:Ending) (w':World):Prop:=CloneIs 193 2 L.length (L.flatMap DV.cells) w e w'
theorem aDr {A:Option Addr}{n c:Nat}{a:List ByteArray}{k:Int}{w:World}(hn:n<=1000000)(ha:Rd w w.heap.size 1 A n c (a.map .string)) :
  Calls Tryz.prog 285 #[.int .i64 k,.slice A n c] w (EdIs (evs k a) w):=by
 have hla:a.length=n:=by have:=ha.len;rw[List.length_map] at this;omega
 have HA:=hid hla
 clear hla
 go_enter Tryz.func285,Tryz.ntmps285
 go_wp2
 go_loopw[5,10] (fun out i wr=>∃j:Nat,j<=n/\i=.int .i64 j/\Hid (Below w.heap.size w wr)/\Hid (wr.ownsRow w.heap.size 193 2 out j ((evs k (a.take j)).flatMap DV.cells))) (fun _ i _=>n-(intOf i).toNat)
 case atStart=>exact ⟨0,Nat.zero_le _,rfl,hid (Below.refl _ _),by rw[List.take_zero];exact World.ownsRow_nil _ _ _ _⟩
 obtain ⟨j,hj,rfl,HW,HO⟩:=hrel
 have hws:=HW.out.size
 by_cases hlt:j<n
 ·obtain ⟨b0,o0,x,rfl,hbb,hx,h0⟩:=ha.str hlt
  have c0:=(HW.out.cell (p:=⟨b0,o0+j,none⟩) hbb).trans h0
  have HX:=hid hx;clear hx
  have hb1:Below w.heap.size w (wr.alloc (.cells #[.int .i64 k,.string x] 193)):=HW.out.alloc hws _
  have ho1:=HO.out.alloc (.cells #[.int .i64 k,.string x] 193)
  have HB1:=hid hb1
  have HO1:=hid ho1
  clear hb1 ho1 HO
  go_wp2_with (at_builtin;refine aAp rfl (.tmp 14) (.tmp 18) 190 rfl aHm rfl rfl HO1.out (aQm _ ⟨k,x⟩) (aFw _) (by unfold maxLen;omega) (by omega) HB1.out.size ?_;intro v7 w7 ho7 hg7 hv7)
  have HW7:=hid (HB1.out.grown hg7 HB1.out.size (fun g hg=>(HO1.out.lt g hg).1))
  have HO7:=hid ho7
  clear ho7 hg7 hv7 HO1 HB1
  go_roundw
  case rel=>
   refine ⟨j+1,by omega,by go_num,HW7,?_⟩
   rw[bGu HX.out,List.flatMap_append]
   exact HO7
  simp[intOf];omega
 have hjn:j=n:=by omega
 subst hjn
 rw[List.take_of_length_le (by rw[HA.out];exact Nat.le_refl _)] at HO
 go_wp2
 go_ret
 exact ⟨_,rfl,by rw[aBt,HA.out];exact HO.out,HW.out⟩
theorem bEd {n:Nat}{w:World}(hn:n<=1000000) :
  Calls Tryz.prog 296 #[.slice none 0 0,.int .i64 n] w (CloneIs 193 2 0 [] w):=by
 cases n with
 | zero=>
  go_enter Tryz.func296,Tryz.ntmps296
  go_wp2
  go_ret
  exact ⟨_,rfl,World.ownsRow_nil _ _ _ _,Below.refl _ _⟩
 | succ n=>
  obtain ⟨i,z,hi,hz,hsz,hby,hzs⟩:=aHm.row
  have hr:=Lib.run_append_nil_zeros (P:=Tryz.prog) w 190 3 190 193 i z .i64 .i64 aHm.und (by kernel_rfl) hi hz (n+1) (by omega) (by omega) (by omega) (by rw[hby];omega)
  have hG:=aVs w (n+1) 0 193 (by omega) (by unfold maxLen;omega)
  obtain ⟨G,eG⟩:∃G,G=grownCap w (n+1) 0 193:=⟨_,rfl⟩
  rw[<-eG] at hr hG
  have ho:(w.drew.alloc (.cells (Builtin.zeroCells z.cells (n+1)++Builtin.zeroCells z.cells (G-(n+1))) 193)).ownsRow w.heap.size 193 2 (.slice (some ⟨w.heap.size,0,none⟩) 0 G) 0 []:=by
   refine World.ownsRow_made w.drew _ G (Nat.le_refl _) hG.2 ?_
   simp[Builtin.zeroCells,hzs]
   omega
  have hb:Below w.heap.size w (w.drew.alloc (.cells (Builtin.zeroCells z.cells (n+1)++Builtin.zeroCells z.cells (G-(n+1))) 193)):=(Below.refl _ _).drew.alloc (Nat.le_refl _) _
  generalize w.drew.alloc (.cells (Builtin.zeroCells z.cells (n+1)++Builtin.zeroCells z.cells (G-(n+1))) 193)=w1 at *
  go_enter Tryz.func296,Tryz.ntmps296
  go_wp2_with (at_builtin;refine Lib.wpList_append_run _ rfl (.tmp 20) (.tmp 21) _ _ rfl _ _ rfl rfl _ _ hr ?_)
  subst eG
  go_ret
  exact ⟨_,rfl,ho,hb⟩
def RdLL (w:World)(B g:Nat)(Ls:List (List DV)):Prop:=
 ∀(k:Nat) (L:List DV),Ls[k]? = some L->∃A c,w.cell? ⟨g,k,none⟩=some (.slice A L.length c)/\Rd w B 2 A L.length c (L.flatMap DV.cells)
theorem aRb {Ls:List (List DV)}{k:Nat}{L:List DV}(h:Ls[k]? = some L):(Ls.take (k+1)).flatten=(Ls.take k).flatten++L:=by
 rw[List.take_add_one,h];simp
theorem aUz (Ls:List (List DV))(k:Nat):(Ls.take k).flatten.length<=Ls.flatten.length:=by
 have:(Ls.take k).flatten++(Ls.drop k).flatten=Ls.flatten:=by rw[<-List.flatten_append,List.take_append_drop]
 rw[<-this,List.length_append];omega
theorem aHf {g q c:Nat}{Ls:List (List DV)}{w:World}(hq:Ls.length=q)(hq2:q<=1000)(hg:g<w.heap.size)(hn:Ls.flatten.length<=1000000)(h:RdLL w w.heap.size g Ls) :
  Calls Tryz.prog 286 #[.slice (some ⟨g,0,none⟩) q c] w (EdIs Ls.flatten w):=by
 have HQ:=hid hq;clear hq
 go_enter Tryz.func286,Tryz.ntmps286
 go_wp2
 go_loopw[3,11] (fun s i wr=>∃k:Nat,k<=q/\i=.int .i64 k/\s=.int .i64 ((Ls.take k).flatten.length:Nat)/\wr=w) (fun _ i _=>q-(intOf i).toNat)
 case atStart=>exact ⟨0,Nat.zero_le _,rfl,rfl,rfl⟩
 obtain ⟨k,hk,rfl,rfl,rfl⟩:=hrel
 have hle:=aUz Ls k
 by_cases hlt:k<q
 ·have hk2:k<Ls.length:=by rw[HQ.out];exact hlt
  obtain ⟨L,hL⟩:∃L,Ls[k]? = some L:=⟨_,List.getElem?_eq_getElem hk2⟩
  obtain ⟨A,cc,h0,hr⟩:=h k L hL
  have hle2:=aUz Ls (k+1)
  have hs:=aRb hL
  rw[hs,List.length_append] at hle2
  have HL:=hid hs
  clear hs hL
  generalize hS:(Ls.take k).flatten.length=s at *
  have HS:=hid hS
  clear hS
  go_wp2
  go_roundw
  case rel=>exact ⟨k+1,by omega,by go_num,by rw[HL.out,List.length_append,HS.out];push_cast;rfl,trivial⟩
  simp[intOf];omega
 obtain rfl:k=q:=by omega
 rw[List.take_of_length_le (by rw[HQ.out];exact Nat.le_refl _)] at *
 generalize hN:Ls.flatten.length=N at *
 have HN:=hid hN
 clear hN
 have hG:=bEd (n:=N) (w:=wr) hn
 go_wp2_with fail
 refine hG.mono ?_
 rintro e w1 ⟨v0,rfl,ho0,hb0⟩
 have HB0:=hid hb0
 have HO0:=hid ho0
 clear hG hb0 ho0 hle hlt
 go_wp2
 go_loopw[6,27] (fun v i w2=>∃j:Nat,j<=k/\i=.int .i64 j/\Hid (Below wr.heap.size wr w2)/\Hid (w2.ownsRow wr.heap.size 193 2 v (Ls.take j).flatten.length ((Ls.take j).flatten.flatMap DV.cells))) (fun _ i _=>k-(intOf i).toNat)
 case atStart=>exact ⟨0,Nat.zero_le _,rfl,HB0,HO0⟩
 clear HB0 HO0
 obtain ⟨j,hj,rfl,HW,HO⟩:=hrel
 have hws:=HW.out.size
 by_cases hlt:j<k
 ·have hj2:j<Ls.length:=by rw[HQ.out];exact hlt
  obtain ⟨L,hL⟩:∃L,Ls[j]? = some L:=⟨_,List.getElem?_eq_getElem hj2⟩
  obtain ⟨A,cc,h0,hr⟩:=h j L hL
  have hle2:=aUz Ls (j+1)
  rw[HN.out] at hle2
  have hs:=aRb hL
  rw[hs,List.length_append] at hle2
  have HL:=hid hs
  clear hs hL
  have c0:=(HW.out.cell (p:=⟨g,j,none⟩) hg).trans h0
  have HR:=hid ((hr.below HW.out).more hws)
  clear hr
  have hsum:(Ls.take j).flatten.length+L.length<=1000000:=by omega
  go_wp2_with (at_builtin;refine aAp rfl (.tmp 31) (.tmp 32) 190 rfl aHm rfl rfl HO.out HR.out (aFw _) (by unfold maxLen;omega) (by omega) hws ?_;intro v7 w7 ho7 hg7 hv7)
  have HW7:=hid (HW.out.grown hg7 hws (fun g hg=>(HO.out.lt g hg).1))
  have HO7:=hid ho7
  clear ho7 hg7 hv7 HO HW
  go_roundw
  case rel=>
   refine ⟨j+1,by omega,by go_num,HW7,?_⟩
   rw[HL.out,List.flatMap_append,List.length_append]
   exact HO7
  simp[intOf];omega
 obtain rfl:j=k:=by omega
 rw[List.take_of_length_le (by rw[HQ.out];exact Nat.le_refl _)] at HO
 go_wp2
 go_ret
 exact ⟨_,rfl,HO.out,HW.out⟩
def rowC (a b:List ByteArray)(i j:Nat):List Value:=(List.range (b.length+1)).map fun t=>Value.int .i32 ((if j<=t then cel a b i t else 0:Nat):Int)
theorem aWw (a b:List ByteArray)(i j:Nat):(rowC a b i j).length=b.length+1:=by simp[rowC]
theorem aLd {a b:List ByteArray}{i j q:Nat}(hq:q<=b.length)(h:j<=q):(rowC a b i j)[q]? = some (.int .i32 (cel a b i q:Nat)):=by
 rw[rowC,List.getElem?_map,List.getElem?_range (by omega),Option.map_some,if_pos h]
theorem aTv {a b:List ByteArray}{i j:Nat}(h:∀t,t<=b.length->j<=t->cel a b i t=0):rowC a b i j=List.replicate (b.length+1) (.int .i32 0):=by
 refine List.ext_getElem (by simp[rowC]) fun t h1 h2=>?_
 rw[aWw] at h1
 simp only[rowC,List.getElem_map,List.getElem_range,List.getElem_replicate]
 split
 ·rw[h t (by omega) (by assumption)];rfl
 rfl
theorem aZq (a b:List ByteArray)(i:Nat):rowC a b i b.length=List.replicate (b.length+1) (.int .i32 0):=
 aTv fun t h1 h2=>by rw[show t=b.length by omega];exact bCr a b i
theorem bCj (a b:List ByteArray):rowC a b a.length 0=List.replicate (b.length+1) (.int .i32 0):=
 aTv fun t _ _=>aXe a b t
theorem bGv (a b:List ByteArray){i j:Nat}:(rowC a b i (j+1)).set j (.int .i32 (cel a b i j:Nat))=rowC a b i j:=by
 refine List.ext_getElem (by simp[rowC]) fun t h1 h2=>?_
 rw[List.getElem_set]
 simp only[rowC,List.getElem_map,List.getElem_range]
 split
 ·rename_i h;subst h;rw[if_pos (Nat.le_refl _)]
 rename_i h
 by_cases h3:j<=t
 ·rw[if_pos (by omega),if_pos h3]
 rw[if_neg (by omega),if_neg h3]
structure Rows2 (w:World) (B g h M:Nat) (xs ys:List Value):Prop where
 o1:w.ownsRow B 21 1 (.slice (some ⟨g,0,none⟩) M M) M xs
 o2:w.ownsRow B 21 1 (.slice (some ⟨h,0,none⟩) M M) M ys
 ne:g≠h
theorem aIf {w:World}{B g M k:Nat}{xs:List Value}{u:Value}(h:w.ownsRow B 21 1 (.slice (some ⟨g,0,none⟩) M M) M xs)(hu:xs[k]? = some u):w.cell? ⟨g,k,none⟩=some u:=by
 rw[h.cellAt k (by rw[<-h.1];exact (List.getElem?_eq_some_iff.1 hu).1),hu]
section
variable {w w':World} {B g h M:Nat} {xs ys:List Value}
theorem Rows2.drew (H:Rows2 w B g h M xs ys):Rows2 w.drew B g h M xs ys:=⟨H.o1.drew,H.o2.drew,H.ne⟩
theorem Rows2.store (H:Rows2 w B g h M xs ys)(k:Nat)(u:Value):Rows2 (w.setCell ⟨h,k,none⟩ u) B g h M xs (ys.set k u):=
 ⟨ownsRow_setCell_other H.o1 (fun e=>H.ne (by simpa[Value.ownBlock] using e)) u,(H.o2.stored k u).1,H.ne⟩
end
theorem bAu {A B:Option Addr}{n ca m cb:Nat}{a b:List ByteArray}{w:World}(hn:n<=400)(hm:m<=400)(ha:Rd w w.heap.size 1 A n ca (a.map .string))(hb:Rd w w.heap.size 1 B m cb (b.map .string)) :
  Calls Tryz.prog 249 #[.slice A n ca,.slice B m cb] w fun e w'=>e=.returned (.int .i64 (lcs a b))/\Below w.heap.size w w':=by
 have HA:=hid (show a.length=n by have:=ha.len;simpa using this)
 have HB:=hid (show b.length=m by have:=hb.len;simpa using this)
 have hca:=ha.cap
 have hcb:=hb.cap
 have hB:=aTw (w:=w) (by omega) (by omega) ha hb
 go_enter Tryz.func249,Tryz.ntmps249
 go_wp2_with fail
 refine hB.mono ?_
 rintro e w1 ⟨rfl,hb1⟩
 clear hB
 have hp:=aSo a b
 rw[HA.out,HB.out] at hp
 obtain ⟨hp1,hp2⟩:=hp
 have HPT:=hid (aEz a b)
 have HFIN:=hid (fun (q:Nat)=>bCk a b (pfx a b) q (aEz a b) (aSo a b).1 (aSo a b).2)
 generalize pfx a b=P at *
 have HW1:=hid hb1;clear hb1
 go_wp2
 refine aAh (fun w'=>Below w.heap.size w w') (qs 8) mixed (by kernel_rfl) HW1.out.drew ?_
 intro T M Q hT hT' hM hQ
 clear hM
 simp only[qcmp]
 simp (maxSteps:=9^7) only[↓qpre,aAb,aAe,aAc]
 (repeat refine And.intro (by first|omega|(unfold inI64;omega)) ?_)
 refine hQ _ _ ?_
 clear hQ hT hT'
 have HW2:=hid HW1.out.drew
 have hra:=ha.cut1 (l:=P) (k:=n) hp1 (Nat.le_refl _)
 have hrb:=hb.cut1 (l:=P) (k:=m) hp2 (Nat.le_refl _)
 rw[List.take_of_length_le (by rw[List.length_map,HA.out];exact Nat.le_refl _),<-List.map_drop] at hra
 rw[List.take_of_length_le (by rw[List.length_map,HB.out];exact Nat.le_refl _),<-List.map_drop] at hrb
 simp only[sliced,Nat.mul_one]
 generalize (if ca=P then A else Option.map (fun x=>x.add P) A)=A1 at *
 generalize (if cb=P then B else Option.map (fun x=>x.add P) B)=B1 at *
 clear HW1
 generalize w1.drew=w2 at *
 clear ha hb HA HB hca hcb HPT
 generalize a.drop P=a1 at *
 generalize b.drop P=b1 at *
 obtain ⟨n1,hn1⟩:∃x,x=n-P:=⟨_,rfl⟩
 obtain ⟨m1,hm1⟩:∃x,x=m-P:=⟨_,rfl⟩
 rw[<-hn1] at hra ⊢
 rw[<-hm1] at hrb ⊢
 have hl1:n1<=400:=by omega
 have hl2:m1<=400:=by omega
 have hP:P<=400:=by omega
 clear hn1 hm1 hp1 hp2
 generalize ca-P=c1 at *
 generalize cb-P=c2 at *
 have HA:=hid (show a1.length=n1 by have:=hra.len;simpa using this)
 have HB:=hid (show b1.length=m1 by have:=hrb.len;simpa using this)
 have hE:=bIo (w:=w2) (by omega) (by omega) (hra.to HW2.out HW2.out.size) (hrb.to HW2.out HW2.out.size)
 go_wp2_with fail
 refine hE.mono ?_
 rintro e w3 ⟨rfl,hb3⟩
 clear hE
 have hq:=bJj a1 b1
 rw[HA.out,HB.out] at hq
 obtain ⟨hq1,hq2⟩:=hq
 have HFIN2:=hid (HFIN.out (sfx a1 b1) (bGe a1 b1) (by rw[HA.out];exact hq1) (by rw[HB.out];exact hq2))
 rw[HA.out,HB.out] at HFIN2
 clear HFIN
 generalize sfx a1 b1=R at *
 have HW3:=hid (HW2.out.trans (hb3.mono HW2.out.size))
 clear hb3 HW2
 have i1:(n1:Int)-R=((n1-R:Nat):Int):=by omega
 have i2:(m1:Int)-R=((m1-R:Nat):Int):=by omega
 have hca:=hra.cap
 have hcb:=hrb.cap
 go_wp2
 refine aAh (fun w'=>Below w.heap.size w w') (qs 14) mixed (by kernel_rfl) HW3.out.drew ?_
 intro T M Q hT hT' hM hQ
 clear hM
 simp only[qcmp]
 simp (maxSteps:=9^7) only[↓qpre,aAb,aAe,aAc,i1,i2]
 (repeat refine And.intro (by first|omega|(unfold inI64;omega)) ?_)
 refine hQ _ _ ?_
 clear hQ hT hT'
 have HW4:=hid HW3.out.drew
 have hra:=hra.cut1 (l:=0) (k:=n1-R) (Nat.zero_le _) (by omega)
 have hrb:=hrb.cut1 (l:=0) (k:=m1-R) (Nat.zero_le _) (by omega)
 rw[List.drop_zero,<-List.map_take] at hra hrb
 simp only[sliced,Nat.mul_one]
 generalize (if c1=0 then A1 else Option.map (fun x=>x.add 0) A1)=A2 at *
 generalize (if c2=0 then B1 else Option.map (fun x=>x.add 0) B1)=B2 at *
 clear HW3
 generalize w3.drew=w4 at *
 clear HA HB hca hcb i1 i2
 generalize a1.take (n1-R)=a2 at *
 generalize b1.take (m1-R)=b2 at *
 obtain ⟨n2,hn2⟩:∃x,x=n1-R-0:=⟨_,rfl⟩
 obtain ⟨m2,hm2⟩:∃x,x=m1-R-0:=⟨_,rfl⟩
 rw[<-hn2] at hra ⊢
 rw[<-hm2] at hrb ⊢
 have hl3:n2<=400:=by omega
 have hl4:m2<=400:=by omega
 have hR:R<=400:=by omega
 clear hn2 hm2 hq1 hq2 hl1 hl2
 generalize c1-0=c3 at *
 generalize c2-0=c4 at *
 have HA:=hid (show a2.length=n2 by have:=hra.len;simpa using this)
 have HB:=hid (show b2.length=m2 by have:=hrb.len;simpa using this)
 obtain ⟨M,hM⟩:∃M:Nat,m2+1=M:=⟨_,rfl⟩
 have hMi:(m2:Int)+1=(M:Int):=by omega
 have hws:=HW4.out.size
 go_wp2_with first
  | (at_make;refine aQi rfl (.tmp 37) (.tmp 37) 321 rfl bIc w.heap.size M rfl rfl rfl rfl (by omega) (by simp only[maxLen];omega) hws ?_;intro w5 hown5 hgrow5)
 have HB5:=hid (HW4.out.grown hgrow5 hws (fun g hg=>by cases hg))
 have HO5:Hid (w5.ownsRow w.heap.size 21 1 (.slice (some ⟨w4.heap.size,0,none⟩) M M) M (rowC a2 b2 n2 0)):=by
  have:=hown5
  rw[show List.replicate M (Value.int .i32 0)=rowC a2 b2 n2 0 by rw[<-HA.out,bCj,HB.out,hM]] at this
  exact this
 clear hown5 hgrow5 HW4 hws
 generalize w4.heap.size=g0 at *
 go_loopw[7,8] (fun last i wr=>∃(j g:Nat),j<=n2/\i=.int .i64 ((j:Int)-1)/\last=.slice (some ⟨g,0,none⟩) M M/\Hid (Below w.heap.size w wr)/\Hid (wr.ownsRow w.heap.size 21 1 (.slice (some ⟨g,0,none⟩) M M) M (rowC a2 b2 j 0)))
   (fun _ i _=>(intOf i+1).toNat)
 case atStart=>exact ⟨n2,g0,Nat.le_refl _,rfl,rfl,HB5,HO5⟩
 clear HB5 HO5
 obtain ⟨j,g,hj,rfl,rfl,HW,HO⟩:=hrel
 cases j with
 | zero=>
  have HC:=hid (aIf HO.out (k:=0) (aLd (Nat.zero_le _) (Nat.zero_le _)))
  have hv:=aRj a2 b2 0 0
  rw[HA.out] at hv
  have HF:Hid (lcs a b=P+R+cel a2 b2 0 0):=HFIN2
  generalize cel a2 b2 0 0=v at *
  have c0:wr.cell? ⟨g,0,none⟩=some (.int .i32 v):=HC.out
  have hM1:0<M:=by omega
  go_wp2
  go_ret
  exact ⟨by rw[HF.out];push_cast;rfl,HW.out⟩
 | succ j=>
  rw[show ((j+1:Nat):Int)-1=(j:Int) from by omega]
  obtain ⟨ba,oa,x,rfl,hba,hax,hacell⟩:=hra.str (k:=j) (by omega)
  have HX:=hid hax
  clear hax
  have hws:=HW.out.size
  go_wp2_with first
   | (at_make;refine aQi rfl (.tmp 48) (.tmp 48) 321 rfl bIc w.heap.size M rfl rfl rfl rfl (by omega) (by simp only[maxLen];omega) hws ?_;intro w6 hown6 hgrow6)
  have HB6:=hid (HW.out.grown hgrow6 hws (fun g hg=>by cases hg))
  have HR6:Hid (Rows2 w6 w.heap.size g wr.heap.size M (rowC a2 b2 (j+1) 0) (rowC a2 b2 j m2)):=by
   refine ⟨HO.out.kept hgrow6 (.inr (by simp[Value.ownBlock])),?_,Nat.ne_of_lt (HO.out.lt g rfl).2⟩
   rw[show rowC a2 b2 j m2=List.replicate M (Value.int .i32 0) by rw[<-HB.out,aZq,HB.out,hM]]
   exact hown6
  have hgh:w.heap.size<=wr.heap.size:=hws
  clear hown6 hgrow6 HO
  generalize wr.heap.size=h at *
  go_loopw[10] (fun k wr2=>∃q:Nat,q<=m2/\k=.int .i64 ((q:Int)-1)/\Hid (Below w.heap.size w wr2)/\Hid (Rows2 wr2 w.heap.size g h M (rowC a2 b2 (j+1) 0) (rowC a2 b2 j q)))
    (fun k _=>(intOf k+1).toNat)
  case atStart=>exact ⟨m2,Nat.le_refl _,rfl,HB6,HR6⟩
  clear HB6 HR6 HW
  rename_i wr0
  obtain ⟨q,hq,rfl,HW,HR⟩:=hrel
  cases q with
  | zero=>
   go_wp2
   go_roundw
   case rel=>exact ⟨j,h,by omega,by go_num,rfl,HW,hid HR.out.o2⟩
   simp[intOf]
  | succ q=>
   rw[show ((q+1:Nat):Int)-1=(q:Int) from by omega]
   obtain ⟨bb,ob,y,rfl,hbb,hby,hbcell⟩:=hrb.str (k:=q) (by omega)
   have HY:=hid hby;clear hby
   have hstep:=aWu HX.out HY.out
   have HS:Hid (cel a2 b2 (j+1) (q+1)<=400/\cel a2 b2 (j+1) q<=400/\cel a2 b2 j (q+1)<=400):=by
    have h1:=aRj a2 b2 (j+1) (q+1)
    have h2:=aRj a2 b2 (j+1) q
    have h3:=aRj a2 b2 j (q+1)
    have:=HA.out
    exact ⟨by omega,by omega,by omega⟩
   have hlb:b2.length=m2:=HB.out
   have gD:=(aLd (a:=a2) (b:=b2) (i:=j+1) (j:=0) (q:=q+1) (by omega) (Nat.zero_le _))
   have gL:=(aLd (a:=a2) (b:=b2) (i:=j+1) (j:=0) (q:=q) (by omega) (Nat.zero_le _))
   have gR:=(aLd (a:=a2) (b:=b2) (i:=j) (j:=q+1) (q:=q+1) (by omega) (Nat.le_refl _))
   have hset:=bGv a2 b2 (i:=j) (j:=q)
   have hcur:∃u,(rowC a2 b2 j (q+1))[q]? = some u:=⟨_,List.getElem?_eq_getElem (by rw[aWw];omega)⟩
   obtain ⟨u,hu⟩:=hcur
   have HSET:=hid hset
   have HU:=hid (aIf HR.out.o2 hu)
   have HD:=hid (aIf HR.out.o1 gD)
   have HL:=hid (aIf HR.out.o1 gL)
   have HRR:=hid (aIf HR.out.o2 gR)
   have HFZ:=hid (HR.out.o2.frozenAt q)
   clear gD gL gR hset hu hlb
   have hqM:q+1<M:=by omega
   go_wp2
   refine aAh (fun w'=>Below w.heap.size w w') (qs 9) mixed (by kernel_rfl) HW.out.drew ?_
   intro T M0 Q hT hT' hM hQ
   have m0:M0 ⟨ba,oa+j,none⟩=some (.string x):=hM _ _ fun w' hw=>(hw.cell (p:=⟨ba,oa+j,none⟩) hba).trans hacell
   have m1:M0 ⟨bb,ob+q,none⟩=some (.string y):=hM _ _ fun w' hw=>(hw.cell (p:=⟨bb,ob+q,none⟩) hbb).trans hbcell
   clear hM
   simp only[qcmp]
   by_cases hxy:x=y
   ·have e1:(x.toList == y.toList)=true:=by rw[hxy];exact beq_self_eq_true _
    rw[if_pos hxy] at hstep
    simp (maxSteps:=9^7) only[↓qpre,aAb,aAe,aAc,m0,m1]
    (repeat refine And.intro (by first|omega|(unfold inI64;omega)) ?_)
    refine hQ _ _ ?_
    clear hQ hT hT' m0 m1 e1
    have e9:((cel a2 b2 j q:Nat):Int)=((cel a2 b2 (j+1) (q+1):Nat):Int)+1:=by rw[hstep];push_cast;rfl
    have hst:=HR.out.drew.store q (.int .i32 (cel a2 b2 j q:Nat))
    rw[HSET.out,e9] at hst
    have HST:=hid hst
    clear hst e9 hstep
    have c0:wr.drew.cell? ⟨g,q+1,none⟩=some (.int .i32 (cel a2 b2 (j+1) (q+1):Nat)):=HD.out
    have c1:wr.drew.cell? ⟨h,q,none⟩=some u:=HU.out
    have c2:wr.drew.frozen? ⟨h,q,none⟩=false:=HFZ.out
    have hv:cel a2 b2 (j+1) (q+1)<=400:=HS.out.1
    have T1:∀z:Nat,((z:Int)+1).toNat=z+1:=fun z=>by omega
    generalize cel a2 b2 (j+1) (q+1)=v1 at *
    have HW7:Hid (Below w.heap.size w (wr.drew.setCell ⟨h,q,none⟩ (.int .i32 ((v1:Int)+1)))):=hid (HW.out.drew.setCell (p:=⟨h,q,none⟩) hgh _)
    clear HD HL HRR HU HFZ HR HW HSET HS
    go_wp2
    go_roundw
    case rel=>exact ⟨q,by omega,by go_num,HW7,HST⟩
    simp[intOf]
   have e1:=aCc hxy
   rw[if_neg hxy] at hstep
   simp (maxSteps:=9^7) only[↓qpre,aAb,aAe,aAc,m0,m1]
   (repeat refine And.intro (by first|omega|(unfold inI64;omega)) ?_)
   refine hQ _ _ ?_
   clear hQ hT hT' m0 m1 e1
   have e9:((cel a2 b2 j q:Nat):Int)=max ((cel a2 b2 (j+1) q:Nat):Int) ((cel a2 b2 j (q+1):Nat):Int):=by rw[hstep];omega
   have hst:=HR.out.drew.drew.store q (.int .i32 (cel a2 b2 j q:Nat))
   rw[HSET.out,e9] at hst
   have HST:=hid hst
   clear hst e9 hstep
   have T1:∀z:Nat,((z:Int)+1).toNat=z+1:=fun z=>by omega
   go_wp2
   refine aBg (fun w'=>∀p:Addr,w'.cell? p=wr.cell? p) (qs 13) [13] mixed (by kernel_rfl) (fun p=>rfl) ?_
   intro T M0 Q Q2 hT hT' hM hQ hQ2
   have m0:M0 ⟨g,q,none⟩=some (.int .i32 (cel a2 b2 (j+1) q:Nat)):=hM _ _ fun w' hw=>(hw _).trans HL.out
   have m1:M0 ⟨h,q+1,none⟩=some (.int .i32 (cel a2 b2 j (q+1):Nat)):=hM _ _ fun w' hw=>(hw _).trans HRR.out
   clear hM
   simp only[qcmp]
   simp (maxSteps:=9^7) only[↓qpre,aAb,aAe,aAc,m0,m1,T1]
   (repeat refine And.intro (by first|omega|(unfold inI64;omega)) ?_)
   refine hQ _ _ ?_
   simp only[lates,List.map,qcmp]
   simp (maxSteps:=9^7) only[aAb]
   have hcs:(wr.drew.drew.cell? ⟨h,q,none⟩).isSome=true:=congrArg Option.isSome HU.out
   refine aBl (v:=.int .i32 (max ((cel a2 b2 (j+1) q:Nat):Int) ((cel a2 b2 j (q+1):Nat):Int))) (b:=h) (o:=q) (by kernel_rfl) rfl rfl hcs HFZ.out rfl ⟨trivial,?_⟩
   simp (maxSteps:=9^7) only[aAb]
   refine hQ2 _ _ ?_
   have HW7:=hid (HW.out.drew.drew.setCell (p:=⟨h,q,none⟩) hgh (.int .i32 (max ((cel a2 b2 (j+1) q:Nat):Int) ((cel a2 b2 j (q+1):Nat):Int))))
   clear hQ hQ2 hT hT' m0 m1 hcs HD HL HRR HU HFZ HR HW HSET HS
   go_wp2
   go_roundw
   case rel=>exact ⟨q,by omega,by go_num,HW7,HST⟩
   simp[intOf]
theorem Rd.front {w:World}{B sz n c k:Nat}{A:Option Addr}{xs:List Value}(h:Rd w B sz A n c xs)(hk:k<=n):Rd w B sz A k c (xs.take (k*sz)):=by
 refine ⟨by rw[List.length_take,h.len,Nat.min_eq_left (Nat.mul_le_mul_right _ hk)],Nat.le_trans hk h.cap,fun h0=>?_⟩
 obtain ⟨b,o,e,hb,hc⟩:=h.at_ (by omega)
 refine ⟨b,o,e,hb,fun j u hu=>hc j u ?_⟩
 rw[List.getElem?_take] at hu
 split at hu
 ·exact hu
 cases hu
theorem Rd.frontS {w:World}{B n c k:Nat}{A:Option Addr}{l:List ByteArray}(h:Rd w B 1 A n c (l.map .string))(hk:k<=n):Rd w B 1 A k c ((l.take k).map .string):=by
 have:=h.front hk
 rw[Nat.mul_one,<-List.map_take] at this
 exact this
theorem Rd.backS {w:World}{B n c k:Nat}{A:Option Addr}{l:List ByteArray}(h:Rd w B 1 A n c (l.map .string))(hk:k<=n):Rd w B 1 (if c=k then A else A.map (·.add k)) (n-k) (c-k) ((l.drop k).map .string):=by
 have:=h.cut1 hk (Nat.le_refl _)
 rw[List.take_of_length_le (by have:=h.len;omega),<-List.map_drop] at this
 exact this
theorem aIm {w:World} {B B':Nat}{e:TypeId}{k n:Nat}{v:Value}{xs:List Value}(h:w.ownsRow B e k v n xs)(hB:B'<=B):w.ownsRow B' e k v n xs:=by
 obtain ⟨h1,h2⟩:=h
 refine ⟨h1,?_⟩
 rcases h2 with h2 | ⟨g,cap,cur,e1,e2,e3,e4,e5,e6⟩
 ·exact .inl h2
 exact .inr ⟨g,cap,cur,e1,Nat.le_trans hB e2,e3,e4,e5,e6⟩
theorem EdIs.up {L L':List DV}{w w1 w2:World}{e:Ending}(h:EdIs L w1 e w2)(hb:Below w.heap.size w w1)(hL:L=L'):EdIs L' w e w2:=by
 subst hL
 obtain ⟨v,e1,h1,h2⟩:=h
 exact ⟨v,e1,aIm h1 hb.size,hb.trans (h2.mono hb.size)⟩
theorem aLs {P:Program}{t e:TypeId}{bytes:Nat}(E:Elem P t e 1 bytes){a b c:Value}(ha:a.cells=#[a])(hb:b.cells=#[b])(hc:c.cells=#[c])(w:World) :
  (Instr.buildSlice t 3 #[(0,a),(1,b),(2,c)]).run P w=.ok (.slice (some ⟨w.heap.size,0,none⟩) 3 3) (w.alloc (.cells #[a,b,c] e)):=by
 obtain ⟨i,z,hi,hz,hsz,hby,hzs⟩:=E.row
 obtain ⟨z0,hzc⟩:∃z0,z.cells=#[z0]:=by
  have:=hzs
  match h:z.cells,this with
  | ⟨[z0]⟩,_=>exact ⟨z0,rfl⟩
 simp[Instr.buildSlice,run_underlying E.und,sizeOf,typeInfo,hi,hsz,zeroValue,hz,Instr.fill,ha,hb,hc,hzc,newRow,show Array.range 3=#[0,1,2] from rfl]
theorem aMy {P:Program}{S:World->Prop}{a:Act} {w w':World}{K:Act->World->Prop}{dst:Option Tmp}{t ty:TypeId}{x y z:Operand}{q:Bool}{g:Option (Tmp×Bool)}{u v s r:Value}
  (hr:(Instr.buildSlice t 3 #[(0,u),(1,v),(2,s)]).run P w=.ok r w') (hx:a.eval x=u) (hy:a.eval y=v) (hz:a.eval z=s) (hK:S w'/\K (a.put dst r) w') :
  effq P S ⟨q,dst,.buildSlice t 3 #[(0,x),(1,y),(2,z)],ty,g⟩ a w K:=by
 refine aTy (fun p af g=>?_) hK
 unfold execOp
 simp only[List.map_toArray,List.map_cons,List.map_nil,hx,hy,hz,hr,Sem.run_bind,Sem.run_pure,Result.andThen_ok]
theorem bHs:Elem Tryz.prog 339 190 1 24:=aBw (by kernel_rfl)
structure GrR (w:World) (g bx W N:Nat) (xs:List Value) (out:Value):Prop where
 c0:w.cell? ⟨bx,0,none⟩=some (.slice (some ⟨g,0,none⟩) N N)
 c1:w.cell? ⟨bx,1,none⟩=some (.int .i64 W)
 cell:∀(k:Nat) (u:Value),xs[k]? = some u->w.cell? ⟨g,k,none⟩=some u
 lt:g<w.heap.size/\bx<w.heap.size
 ap:∀o,out.ownBlock=some o->o≠g/\o≠bx
section
variable {w w':World} {g bx W N:Nat} {xs:List Value} {out:Value}
theorem GrR.drew (h:GrR w g bx W N xs out):GrR w.drew g bx W N xs out:=⟨h.c0,h.c1,h.cell,h.lt,h.ap⟩
theorem GrR.app (h:GrR w g bx W N xs out) {v':Value}(hg:w.grownBy w' out.ownBlock)(hv:v'.ownBlock=out.ownBlock\/v'.ownBlock=some w.heap.size):GrR w' g bx W N xs v':=by
 have hb:∀j:Nat,j<w.heap.size->(∀o,out.ownBlock=some o->o≠j)->∀k:Nat,w'.cell? ⟨j,k,none⟩=w.cell? ⟨j,k,none⟩:=fun j hj ho k=>
  World.cell?_of_block (hg.block j hj (fun e=>ho j e.symm rfl))
 refine ⟨(hb _ h.lt.2 (fun o ho=>(h.ap o ho).2) 0).trans h.c0,(hb _ h.lt.2 (fun o ho=>(h.ap o ho).2) 1).trans h.c1,fun k u hu=>(hb _ h.lt.1 (fun o ho=>(h.ap o ho).1) k).trans (h.cell k u hu),⟨Nat.lt_of_lt_of_le h.lt.1 hg.size,Nat.lt_of_lt_of_le h.lt.2 hg.size⟩,fun o ho=>?_⟩
 rcases hv with hv | hv
 ·exact h.ap o (hv▸ho)
 rw[hv] at ho;injection ho with ho;subst ho
 exact ⟨Nat.ne_of_gt h.lt.1,Nat.ne_of_gt h.lt.2⟩
theorem GrR.alloc (h:GrR w g bx W N xs out)(o:Obj):GrR (w.alloc o) g bx W N xs out:=by
 have hg:=World.grownBy_alloc w o none
 have hb:∀j:Nat,j<w.heap.size->∀k:Nat,(w.alloc o).cell? ⟨j,k,none⟩=w.cell? ⟨j,k,none⟩:=fun j hj k=>World.cell?_of_block (hg.block j hj (fun e=>by cases e))
 exact ⟨(hb _ h.lt.2 0).trans h.c0,(hb _ h.lt.2 1).trans h.c1,fun k u hu=>(hb _ h.lt.1 k).trans (h.cell k u hu),⟨Nat.lt_of_lt_of_le h.lt.1 hg.size,Nat.lt_of_lt_of_le h.lt.2 hg.size⟩,h.ap⟩
end
theorem rdLL3 {w:World}{t:TypeId}{L0 L1 L2:List DV}{A0 A1 A2:Option Addr}{c0 c1 c2:Nat}
  (h0:Rd w w.heap.size 2 A0 L0.length c0 (L0.flatMap DV.cells)) (h1:Rd w w.heap.size 2 A1 L1.length c1 (L1.flatMap DV.cells)) (h2:Rd w w.heap.size 2 A2 L2.length c2 (L2.flatMap DV.cells)) :
  RdLL (w.alloc (.cells #[.slice A0 L0.length c0,.slice A1 L1.length c1,.slice A2 L2.length c2] t)) (w.alloc (.cells #[.slice A0 L0.length c0,.slice A1 L1.length c1,.slice A2 L2.length c2] t)).heap.size w.heap.size [L0,L1,L2]:=by
 have hb:Below w.heap.size w (w.alloc (.cells #[.slice A0 L0.length c0,.slice A1 L1.length c1,.slice A2 L2.length c2] t)):=(Below.refl _ _).alloc (Nat.le_refl _) _
 intro k L hk
 match k with
 | 0=>cases hk;exact ⟨A0,c0,by rw[World.cell?,heap_alloc_new];rfl,h0.to hb hb.size⟩
 | 1=>cases hk;exact ⟨A1,c1,by rw[World.cell?,heap_alloc_new];rfl,h1.to hb hb.size⟩
 | 2=>cases hk;exact ⟨A2,c2,by rw[World.cell?,heap_alloc_new];rfl,h2.to hb hb.size⟩
 | k+3=>cases hk
theorem aRq:∀a:List ByteArray,scrT a []=evs 2 a
 | []=>by simp[scrT,evs]
 | x::a=>by rw[scrT,aRq a];rfl
theorem aOv:∀b:List ByteArray,scrT [] b=evs 3 b
 | []=>by simp[scrT,evs]
 | y::b=>by rw[scrT,aOv b];rfl
theorem aUq {A B:Option Addr}{n ca m cb:Nat}{a b:List ByteArray}{w:World}(hn:n<=100000)(hm:m<=100000)(ha:Rd w w.heap.size 1 A n ca (a.map .string))(hb:Rd w w.heap.size 1 B m cb (b.map .string)) :
  Calls Tryz.prog 259 #[.slice A n ca,.slice B m cb] w (EdIs (script a b) w):=by
 have HA:=hid (show a.length=n by have:=ha.len;simpa using this)
 have HB:=hid (show b.length=m by have:=hb.len;simpa using this)
 have hca:=ha.cap
 have hcb:=hb.cap
 have hB:=aTw (w:=w) (by omega) (by omega) ha hb
 go_enter Tryz.func259,Tryz.ntmps259
 go_wp2_with fail
 refine hB.mono ?_
 rintro e w1 ⟨rfl,hb1⟩
 clear hB
 have hp:=aSo a b
 rw[HA.out,HB.out] at hp
 obtain ⟨hp1,hp2⟩:=hp
 have HS:=hid (show script a b=evs 1 (a.take (pfx a b))++rest (a.drop (pfx a b)) (b.drop (pfx a b)) from rfl)
 generalize script a b=fin at *
 generalize pfx a b=P at *
 have HW1:=hid hb1;clear hb1
 have hr0:=ha.frontS hp1
 have hE:=aDr (k:=1) (w:=w1) (by omega) (hr0.to HW1.out HW1.out.size)
 go_wp2_with fail
 refine hE.mono ?_
 rintro e w2 ⟨v6,rfl,ho6,hb2⟩
 have hl0:(evs 1 (a.take P)).length=P:=by rw[aBt,List.length_take,HA.out];omega
 rw[hl0] at ho6
 have HL0:=hid hl0
 have HW2:=hid (HW1.out.trans (hb2.mono HW1.out.size))
 have HO6:=hid (aIm ho6 HW1.out.size)
 have hra:=ha.backS hp1
 have hrb:=hb.backS hp2
 clear hE hr0 hb2 ho6 hl0 HW1 ha hb HA HB
 go_wp2
 refine aAh (fun w'=>Below w.heap.size w w') (qs 8) mixed (by kernel_rfl) HW2.out.drew ?_
 intro T M Q hT hT' hM hQ
 clear hM
 simp only[qcmp]
 simp (maxSteps:=9^7) only[↓qpre,aAb,aAe,aAc]
 (repeat refine And.intro (by first|omega|(unfold inI64;omega)) ?_)
 refine hQ _ _ ?_
 clear hQ hT hT'
 simp only[sliced,Nat.mul_one]
 generalize (if ca=P then A else Option.map (fun x=>x.add P) A)=A1 at *
 generalize (if cb=P then B else Option.map (fun x=>x.add P) B)=B1 at *
 have HW3:=hid HW2.out.drew
 have HO7:=hid HO6.out.drew
 clear HW2 HO6
 generalize w2.drew=w3 at *
 generalize evs 1 (a.take P)=L0 at *
 generalize a.drop P=a1 at *
 generalize b.drop P=b1 at *
 obtain ⟨n1,hn1⟩:∃x,x=n-P:=⟨_,rfl⟩
 obtain ⟨m1,hm1⟩:∃x,x=m-P:=⟨_,rfl⟩
 rw[<-hn1] at hra ⊢
 rw[<-hm1] at hrb ⊢
 have hl1:n1<=100000:=by omega
 have hl2:m1<=100000:=by omega
 have hP:P<=100000:=by omega
 clear hn1 hm1 hp1 hp2 hca hcb
 generalize ca-P=c1 at *
 generalize cb-P=c2 at *
 have HA:=hid (show a1.length=n1 by have:=hra.len;simpa using this)
 have HB:=hid (show b1.length=m1 by have:=hrb.len;simpa using this)
 by_cases big:400<n1\/400<m1
 ·have HR:Hid (fin=[L0,evs 2 a1,evs 3 b1].flatten):=by
   unfold Hid
   rw[HS.out,rest,if_pos (by rw[HA.out,HB.out];exact big)]
   simp
  clear HS
  obtain ⟨A6,c6,rfl,hc6⟩:=aAd HO7.out
  have HR6:=hid (Rd.of_own HO7.out hc6)
  clear HO7
  by_cases big1:400<n1
  case' neg=>have big2:400<m1:=by omega
  all_goals
   have hE1:=aDr (k:=2) (w:=w3) (by omega) (hra.to HW3.out HW3.out.size)
   go_wp2_with fail
   refine hE1.mono ?_
   rintro e w4 ⟨v7,rfl,ho7,hb4⟩
   rw[aBt,HA.out] at ho7
   obtain ⟨A7,c7,rfl,hc7⟩:=aAd ho7
   have HR7:=hid (Rd.of_own ho7 hc7)
   have HW4:=hid (HW3.out.trans (hb4.mono HW3.out.size))
   have HR6:=hid (HR6.out.to hb4 hb4.size)
   clear hE1 ho7 hb4
   have hE2:=aDr (k:=3) (w:=w4) (by omega) (hrb.to HW4.out HW4.out.size)
   go_wp2_with fail
   refine hE2.mono ?_
   rintro e w5 ⟨v8,rfl,ho8,hb5⟩
   rw[aBt,HB.out] at ho8
   obtain ⟨A8,c8,rfl,hc8⟩:=aAd ho8
   have HR8:=hid (Rd.of_own ho8 hc8)
   have HW5:=hid (HW4.out.trans (hb5.mono HW4.out.size))
   have HR6:=hid (HR6.out.to hb5 hb5.size)
   have HR7:=hid (HR7.out.to hb5 hb5.size)
   clear hE2 ho8 hb5
   have hLL:RdLL (w5.alloc (.cells #[.slice A6 P c6,.slice A7 n1 c7,.slice A8 m1 c8] 190)) (w5.alloc (.cells #[.slice A6 P c6,.slice A7 n1 c7,.slice A8 m1 c8] 190)).heap.size w5.heap.size [L0,evs 2 a1,evs 3 b1]:=by
    have h0:=HR6.out;have h1:=HR7.out;have h2:=HR8.out
    rw[show P=L0.length from HL0.out.symm] at h0 ⊢
    rw[show n1=(evs 2 a1).length by rw[aBt,HA.out]] at h1 ⊢
    rw[show m1=(evs 3 b1).length by rw[aBt,HB.out]] at h2 ⊢
    exact rdLL3 h0 h1 h2
   have hW6:=HW5.out.alloc HW5.out.size (.cells #[.slice A6 P c6,.slice A7 n1 c7,.slice A8 m1 c8] 190)
   have hC:=aHf (q:=3) (c:=3) rfl (by omega) (by simp) (by have:=HL0.out;have:=HA.out;have:=HB.out;simp[aBt];omega) hLL
   have HC:=hid hC
   have HW6:=hid hW6
   clear hLL hC hW6
   go_wp2_with fail
   refine HC.out.mono ?_
   intro e w7 h7
   have H7:=hid h7
   obtain ⟨v9,rfl,_,_⟩:=h7
   go_wp2
   go_ret
   exact (H7.out.up HW6.out HR.out.symm)
 have hn1:n1<=400:=by omega
 have hm1:m1<=400:=by omega
 have HR:Hid (fin=L0++scrT a1 b1):=by
  unfold Hid
  rw[HS.out,rest,if_neg (by rw[HA.out,HB.out];exact big)]
 clear HS big
 have hMd:=bGm (w:=w3) hn1 hm1 (hra.to HW3.out HW3.out.size) (hrb.to HW3.out HW3.out.size)
 go_wp2_with fail
 refine hMd.mono ?_
 rintro e w4 ⟨g,bx,rfl,hG,hb4⟩
 have hO8:=aAg HO7.out hb4
 have hap:∀o,v6.ownBlock=some o->o≠g/\o≠bx:=fun o ho=>by
  have h1:=(HO7.out.lt o ho).2
  have h2:=hG.ge
  have h3:=hG.lo
  exact ⟨by omega,by omega⟩
 rw[HA.out,HB.out] at hG
 obtain ⟨W,hW⟩:∃W:Nat,m1+1=W:=⟨_,rfl⟩
 obtain ⟨N,hN⟩:∃N:Nat,(n1+1)*W=N:=⟨_,rfl⟩
 rw[hW,hN] at hG
 have HG:Hid (GrR w4 g bx W N (gridL a1 b1 0 0) v6):=hid ⟨hG.c0,hG.c1,fun k u hu=>hG.cell hu,⟨hG.ge.2,hG.hi⟩,hap⟩
 have HW4:=hid (HW3.out.trans (hb4.mono HW3.out.size))
 have HO8:=hid hO8
 have HNW:=hid (And.intro hW hN)
 have hNle:N<=160801:=by rw[<-hN,<-hW];exact Nat.mul_le_mul (show n1+1<=401 by omega) (show m1+1<=401 by omega)
 clear hMd hb4 hG hap hO8 HW3 HO7 hW hN
 go_wp2
 go_loopw[6,8,9] (fun out i8 i9 wr=>∃(i q:Nat) (d:List DV),i<=n1/\q<=m1/\i8=.int .i64 i/\i9=.int .i64 q/\Hid (Below w.heap.size w wr)/\Hid (GrR wr g bx W N (gridL a1 b1 0 0) out)/\Hid (wr.ownsRow w.heap.size 193 2 out (P+d.length) ((L0++d).flatMap DV.cells))/\Hid (scrT a1 b1=d++scrT (a1.drop i) (b1.drop q))/\d.length<=i+q)
   (fun _ i8 i9 _=>(n1-(intOf i8).toNat)+(m1-(intOf i9).toNat))
 case atStart=>exact ⟨0,0,[],Nat.zero_le _,Nat.zero_le _,rfl,rfl,HW4,HG,by rw[List.append_nil];exact HO8,by rw[List.drop_zero,List.drop_zero];rfl,Nat.zero_le _⟩
 clear HW4 HG HO8
 obtain ⟨i,q,d,hi,hq,rfl,rfl,HW,HG,HO,HD,hd⟩:=hrel
 have hws:=HW.out.size
 have HLEN:Hid ((L0++d).length=P+d.length):=by rw[List.length_append,HL0.out];rfl
 by_cases h1:i<n1
 ·by_cases h2:q<m1
  ·obtain ⟨ba,oa,x,rfl,hba,hax,hacell⟩:=hra.str (k:=i) h1
   obtain ⟨bb,ob,y,rfl,hbb,hby,hbcell⟩:=hrb.str (k:=q) h2
   have HX:=hid hax
   have HY:=hid hby
   clear hax hby
   go_wp2
   refine aAh (fun w'=>Below w.heap.size w w') (qs 10) mixed (by kernel_rfl) HW.out.drew ?_
   intro T M Q hT hT' hM hQ
   have m0:M ⟨ba,oa+i,none⟩=some (.string x):=hM _ _ fun w' hw=>(hw.cell (p:=⟨ba,oa+i,none⟩) hba).trans hacell
   have m1:M ⟨bb,ob+q,none⟩=some (.string y):=hM _ _ fun w' hw=>(hw.cell (p:=⟨bb,ob+q,none⟩) hbb).trans hbcell
   clear hM
   have HW:=hid HW.out.drew
   have HG:=hid HG.out.drew
   have HO:=hid HO.out.drew
   simp only[qcmp]
   by_cases hxy:x=y
   ·have e1:(x.toList == y.toList)=true:=by rw[hxy];exact beq_self_eq_true _
    simp (maxSteps:=9^7) only[↓qpre,aAb,aAe,aAc,m0,m1]
    (repeat refine And.intro (by first|omega|(unfold inI64;omega)) ?_)
    refine hQ _ _ ?_
    clear hQ hT hT' m0 m1 e1
    subst hxy
    have c0:=(HW.out.cell (p:=⟨ba,oa+i,none⟩) hba).trans hacell
    generalize wr.drew=w5 at *
    have HW1:=hid (HW.out.alloc HW.out.size (.cells #[.int .i64 1,.string x] 193))
    have HG1:=hid (HG.out.alloc (.cells #[.int .i64 1,.string x] 193))
    have HO1:=hid (HO.out.alloc (.cells #[.int .i64 1,.string x] 193))
    clear HW HG HO
    go_wp2_with (at_builtin;refine aAp rfl (.tmp 71) (.tmp 77) 190 rfl aHm rfl rfl HO1.out (aQm _ ⟨1,x⟩) (aFw _) (by unfold maxLen;omega) (by omega) HW1.out.size ?_;intro v7 w7 ho7 hg7 hv7;have HO7:=hid ho7;have HW7:=hid (HW1.out.grown hg7 HW1.out.size (fun g hg=>(HO1.out.lt g hg).1));have HG7:=hid (HG1.out.app hg7 hv7);clear ho7 hg7 hv7 HO1 HW1 HG1)
    go_roundw
    case rel=>
     refine ⟨i+1,q+1,d++[⟨1,x⟩],by omega,by omega,by go_num,by go_num,HW7,HG7,?_,?_,by simp;omega⟩
     ·rw[<-List.append_assoc,List.flatMap_append,List.length_append,<-Nat.add_assoc];exact HO7
     have h1:=HD.out
     rw[bGw HX.out HY.out rfl] at h1
     unfold Hid
     rw[List.append_assoc]
     exact h1
    simp[intOf];omega
   have e1:=aCc hxy
   simp (maxSteps:=9^7) only[↓qpre,aAb,aAe,aAc,m0,m1]
   (repeat refine And.intro (by first|omega|(unfold inI64;omega)) ?_)
   refine hQ _ _ ?_
   clear hQ hT hT' m0 m1 e1
   have HXY:=hid hxy
   have l1:(i+1)*W+q<N:=by rw[<-HNW.out.2];exact aHj (n:=n1) (by omega) (by have:=HNW.out.1;omega)
   have l2:i*W+(q+1)<N:=by rw[<-HNW.out.2];exact aHj (n:=n1) (by omega) (by have:=HNW.out.1;omega)
   have gL:(gridL a1 b1 0 0)[(i+1)*W+q]? = some (.int .i32 (cel a1 b1 (i+1) q:Nat)):=by
    have:=aFo (a:=a1) (b:=b1) (i:=0) (j:=0) (p:=i+1) (q:=q) (by have:=HA.out;omega) (by have:=HB.out;omega) (.inl (by omega))
    rw[HB.out,HNW.out.1] at this;exact this
   have gR:(gridL a1 b1 0 0)[i*W+(q+1)]? = some (.int .i32 (cel a1 b1 i (q+1):Nat)):=by
    have:=aFo (a:=a1) (b:=b1) (i:=0) (j:=0) (p:=i) (q:=q+1) (by have:=HA.out;omega) (by have:=HB.out;omega) (by omega)
    rw[HB.out,HNW.out.1] at this;exact this
   have hG1:=aNf (w:=wr.drew) (i:=i+1) (j:=q) (W:=W) (N:=N) (g:=g) (I:=(i:Int)+1) (by push_cast;rfl) rfl rfl (by omega) l1 HG.out.c0 HG.out.c1 (HG.out.cell _ _ gL)
   have HG2:=hid (aNf (w:=wr.drew.drew) (i:=i) (j:=q+1) (W:=W) (N:=N) (g:=g) (J:=(q:Int)+1) rfl (by push_cast;rfl) rfl (by omega) l2 HG.out.drew.c0 HG.out.drew.c1 (HG.out.drew.cell _ _ gR))
   clear gL gR l1 l2
   go_wp2_with fail
   refine hG1.mono ?_
   rintro e w5 ⟨rfl,rfl⟩
   clear hG1
   go_wp2_with fail
   refine HG2.out.mono ?_
   rintro e w6 ⟨rfl,rfl⟩
   clear HG2
   have HW:=hid HW.out.drew.drew
   have HG:=hid HG.out.drew.drew
   have HO:=hid HO.out.drew.drew
   have c0:=(HW.out.cell (p:=⟨ba,oa+i,none⟩) hba).trans hacell
   have c1:=(HW.out.cell (p:=⟨bb,ob+q,none⟩) hbb).trans hbcell
   generalize wr.drew.drew.drew=w5 at *
   by_cases hc:cel a1 b1 i (q+1)<=cel a1 b1 (i+1) q
   ·have HC:=hid hc
    have HW1:=hid (HW.out.alloc HW.out.size (.cells #[.int .i64 2,.string x] 193))
    have HG1:=hid (HG.out.alloc (.cells #[.int .i64 2,.string x] 193))
    have HO1:=hid (HO.out.alloc (.cells #[.int .i64 2,.string x] 193))
    clear HW HG HO
    have hc2:decide ((cel a1 b1 (i+1) q:Nat)>=((cel a1 b1 i (q+1):Nat):Int))=true:=decide_eq_true (by omega)
    go_wp2_with (at_builtin;refine aAp rfl (.tmp 95) (.tmp 101) 190 rfl aHm rfl rfl HO1.out (aQm _ ⟨2,x⟩) (aFw _) (by unfold maxLen;omega) (by omega) HW1.out.size ?_;intro v7 w7 ho7 hg7 hv7;have HO7:=hid ho7;have HW7:=hid (HW1.out.grown hg7 HW1.out.size (fun g hg=>(HO1.out.lt g hg).1));have HG7:=hid (HG1.out.app hg7 hv7);clear ho7 hg7 hv7 HO1 HW1 HG1)
    go_roundw
    case rel=>
     refine ⟨i+1,q,d++[⟨2,x⟩],by omega,by omega,by go_num,by go_num,HW7,HG7,?_,?_,by simp;omega⟩
     ·rw[<-List.append_assoc,List.flatMap_append,List.length_append,<-Nat.add_assoc];exact HO7
     have h1:=HD.out
     rw[bIj HX.out HY.out HXY.out HC.out] at h1
     unfold Hid
     rw[List.append_assoc]
     exact h1
    simp[intOf];omega
   have HC:=hid hc
   have HW1:=hid (HW.out.alloc HW.out.size (.cells #[.int .i64 3,.string y] 193))
   have HG1:=hid (HG.out.alloc (.cells #[.int .i64 3,.string y] 193))
   have HO1:=hid (HO.out.alloc (.cells #[.int .i64 3,.string y] 193))
   clear HW HG HO
   go_wp2_with (at_builtin;refine aAp rfl (.tmp 51) (.tmp 57) 190 rfl aHm rfl rfl HO1.out (aQm _ ⟨3,y⟩) (aFw _) (by unfold maxLen;omega) (by omega) HW1.out.size ?_;intro v7 w7 ho7 hg7 hv7;have HO7:=hid ho7;have HW7:=hid (HW1.out.grown hg7 HW1.out.size (fun g hg=>(HO1.out.lt g hg).1));have HG7:=hid (HG1.out.app hg7 hv7);clear ho7 hg7 hv7 HO1 HW1 HG1)
   go_roundw
   case rel=>
    refine ⟨i,q+1,d++[⟨3,y⟩],by omega,by omega,by go_num,by go_num,HW7,HG7,?_,?_,by simp;omega⟩
    ·rw[<-List.append_assoc,List.flatMap_append,List.length_append,<-Nat.add_assoc];exact HO7
    have h1:=HD.out
    rw[bIl HX.out HY.out HXY.out HC.out] at h1
    unfold Hid
    rw[List.append_assoc]
    exact h1
   simp[intOf];omega
  have hqm:q=m1:=by omega
  subst hqm
  have HD2:Hid (scrT a1 b1=d++evs 2 (a1.drop i)):=by
   have h:=HD.out
   rw[List.drop_of_length_le (l:=b1) (by rw[HB.out];exact Nat.le_refl _),aRq] at h
   exact h
  clear HD
  go_wp2
  obtain ⟨A6,c6,rfl,hc6⟩:=aAd HO.out
  have HR6:=hid (Rd.of_own HO.out.drew hc6)
  have HW3:=hid HW.out.drew
  clear HO HG HW
  refine aAh (fun w'=>Below w.heap.size w w') [(true,0),(true,1),(true,2),(true,3),(true,5),(true,6),(true,7),(false,4),(false,8),(false,9),(false,10),(true,11)] mixed (by kernel_rfl) HW3.out ?_
  intro T M Q hT hT' hM hQ
  clear hM
  simp only[qcmp]
  simp (maxSteps:=9^7) only[↓qpre,aAb,aAe,aAc]
  (repeat refine And.intro (by first|omega|(unfold inI64;omega)) ?_)
  simp only[sliced,Nat.mul_one]
  have hr1:=hra.backS (k:=i) (by omega)
  have hr2:=hrb.backS (k:=q) (by omega)
  generalize (if c1=i then A1 else Option.map (fun x=>x.add i) A1)=A11 at *
  generalize (if c2=q then B1 else Option.map (fun x=>x.add q) B1)=B11 at *
  have hE1:=aDr (k:=2) (w:=wr.drew) (by omega) (hr1.to HW3.out HW3.out.size)
  have hE2:=fun (w4:World) (h:Below w.heap.size w w4)=>aDr (k:=3) (w:=w4) (by omega) (hr2.to h h.size)
  refine aAi (by kernel_rfl) hE1 rfl rfl ?_
  rintro e w4 ⟨v7,rfl,ho7,hb4⟩
  rw[aBt,List.length_drop,HA.out] at ho7
  obtain ⟨A7,c7,rfl,hc7⟩:=aAd ho7
  have HR7:=hid (Rd.of_own ho7 hc7)
  have HW4:=hid (HW3.out.trans (hb4.mono HW3.out.size))
  have HR6:=hid (HR6.out.to hb4 hb4.size)
  clear ho7 hb4 hE1
  refine ⟨_,rfl,hT _ HW4.out,?_⟩
  simp (maxSteps:=9^7) only[aAb,aAc]
  refine aAi (by kernel_rfl) (hE2 _ HW4.out) rfl rfl ?_
  rintro e w5 ⟨v8,rfl,ho8,hb5⟩
  rw[aBt,List.length_drop,HB.out] at ho8
  obtain ⟨A8,c8,rfl,hc8⟩:=aAd ho8
  have HR8:=hid (Rd.of_own ho8 hc8)
  have HW5:=hid (HW4.out.trans (hb5.mono HW4.out.size))
  have HR6:=hid (HR6.out.to hb5 hb5.size)
  have HR7:=hid (HR7.out.to hb5 hb5.size)
  clear ho8 hb5 hE2
  refine ⟨_,rfl,hT _ HW5.out,?_⟩
  simp (maxSteps:=9^7) only[aAb,aAc]
  have HW6:=hid (HW5.out.alloc HW5.out.size (.cells #[.slice A6 (P+d.length) c6,.slice A7 (n1-i) c7,.slice A8 (q-q) c8] 190))
  refine aMy (aLs bHs rfl rfl rfl _) rfl rfl rfl ⟨hT _ HW6.out,?_⟩
  simp (maxSteps:=9^7) only[aAb,aAc]
  have hLL:RdLL (w5.alloc (.cells #[.slice A6 (P+d.length) c6,.slice A7 (n1-i) c7,.slice A8 (q-q) c8] 190)) (w5.alloc (.cells #[.slice A6 (P+d.length) c6,.slice A7 (n1-i) c7,.slice A8 (q-q) c8] 190)).heap.size w5.heap.size [L0++d,evs 2 (a1.drop i),evs 3 (b1.drop q)]:=by
   have h0:=HR6.out;have h1:=HR7.out;have h2:=HR8.out
   rw[show P+d.length=(L0++d).length from HLEN.out.symm] at h0 ⊢
   rw[show (n1-i)=(evs 2 (a1.drop i)).length by rw[aBt,List.length_drop,HA.out]] at h1 ⊢
   rw[show (q-q)=(evs 3 (b1.drop q)).length by rw[aBt,List.length_drop,HB.out]] at h2 ⊢
   exact rdLL3 h0 h1 h2
  have HC:=hid (aHf (q:=3) (c:=3) rfl (by omega) (by simp) (by simp only[List.flatten_cons,List.flatten_nil,List.length_append,List.length_nil,aBt,List.length_drop,HL0.out,HA.out,HB.out];omega) hLL)
  clear hLL
  refine aAi (by kernel_rfl) HC.out rfl rfl ?_
  intro e w7 h7
  have H7:=hid h7
  obtain ⟨v9,rfl,_,hb9⟩:=h7
  refine ⟨_,rfl,hT _ (HW6.out.trans (hb9.mono HW6.out.size)),?_⟩
  simp (maxSteps:=9^7) only[↓qpre,aAb,aAc]
  refine hQ _ _ ?_
  clear hQ hT hT' hb9
  go_wp2
  go_ret
  refine H7.out.up HW6.out ?_
  rw[HR.out,HD2.out]
  simp[evs,HB.out]
 have hin:i=n1:=by omega
 subst hin
 have HD2:Hid (scrT a1 b1=d++evs 3 (b1.drop q)):=by
  have h:=HD.out
  rw[List.drop_of_length_le (l:=a1) (by rw[HA.out];exact Nat.le_refl _),aOv] at h
  exact h
 clear HD
 go_wp2
 obtain ⟨A6,c6,rfl,hc6⟩:=aAd HO.out
 have HR6:=hid (Rd.of_own HO.out.drew hc6)
 have HW3:=hid HW.out.drew
 clear HO HG HW
 refine aAh (fun w'=>Below w.heap.size w w') [(true,0),(true,1),(true,2),(true,3),(true,5),(true,6),(true,7),(false,4),(false,8),(false,9),(false,10),(true,11)] mixed (by kernel_rfl) HW3.out ?_
 intro T M Q hT hT' hM hQ
 clear hM
 simp only[qcmp]
 simp (maxSteps:=9^7) only[↓qpre,aAb,aAe,aAc]
 (repeat refine And.intro (by first|omega|(unfold inI64;omega)) ?_)
 simp only[sliced,Nat.mul_one]
 have hr1:=hra.backS (k:=i) (by omega)
 have hr2:=hrb.backS (k:=q) (by omega)
 generalize (if c1=i then A1 else Option.map (fun x=>x.add i) A1)=A11 at *
 generalize (if c2=q then B1 else Option.map (fun x=>x.add q) B1)=B11 at *
 have hE1:=aDr (k:=2) (w:=wr.drew) (by omega) (hr1.to HW3.out HW3.out.size)
 have hE2:=fun (w4:World) (h:Below w.heap.size w w4)=>aDr (k:=3) (w:=w4) (by omega) (hr2.to h h.size)
 refine aAi (by kernel_rfl) hE1 rfl rfl ?_
 rintro e w4 ⟨v7,rfl,ho7,hb4⟩
 rw[aBt,List.length_drop,HA.out] at ho7
 obtain ⟨A7,c7,rfl,hc7⟩:=aAd ho7
 have HR7:=hid (Rd.of_own ho7 hc7)
 have HW4:=hid (HW3.out.trans (hb4.mono HW3.out.size))
 have HR6:=hid (HR6.out.to hb4 hb4.size)
 clear ho7 hb4 hE1
 refine ⟨_,rfl,hT _ HW4.out,?_⟩
 simp (maxSteps:=9^7) only[aAb,aAc]
 refine aAi (by kernel_rfl) (hE2 _ HW4.out) rfl rfl ?_
 rintro e w5 ⟨v8,rfl,ho8,hb5⟩
 rw[aBt,List.length_drop,HB.out] at ho8
 obtain ⟨A8,c8,rfl,hc8⟩:=aAd ho8
 have HR8:=hid (Rd.of_own ho8 hc8)
 have HW5:=hid (HW4.out.trans (hb5.mono HW4.out.size))
 have HR6:=hid (HR6.out.to hb5 hb5.size)
 have HR7:=hid (HR7.out.to hb5 hb5.size)
 clear ho8 hb5 hE2
 refine ⟨_,rfl,hT _ HW5.out,?_⟩
 simp (maxSteps:=9^7) only[aAb,aAc]
 have HW6:=hid (HW5.out.alloc HW5.out.size (.cells #[.slice A6 (P+d.length) c6,.slice A7 (i-i) c7,.slice A8 (m1-q) c8] 190))
 refine aMy (aLs bHs rfl rfl rfl _) rfl rfl rfl ⟨hT _ HW6.out,?_⟩
 simp (maxSteps:=9^7) only[aAb,aAc]
 have hLL:RdLL (w5.alloc (.cells #[.slice A6 (P+d.length) c6,.slice A7 (i-i) c7,.slice A8 (m1-q) c8] 190)) (w5.alloc (.cells #[.slice A6 (P+d.length) c6,.slice A7 (i-i) c7,.slice A8 (m1-q) c8] 190)).heap.size w5.heap.size [L0++d,evs 2 (a1.drop i),evs 3 (b1.drop q)]:=by
  have h0:=HR6.out;have h1:=HR7.out;have h2:=HR8.out
  rw[show P+d.length=(L0++d).length from HLEN.out.symm] at h0 ⊢
  rw[show (i-i)=(evs 2 (a1.drop i)).length by rw[aBt,List.length_drop,HA.out]] at h1 ⊢
  rw[show (m1-q)=(evs 3 (b1.drop q)).length by rw[aBt,List.length_drop,HB.out]] at h2 ⊢
  exact rdLL3 h0 h1 h2
 have HC:=hid (aHf (q:=3) (c:=3) rfl (by omega) (by simp) (by simp only[List.flatten_cons,List.flatten_nil,List.length_append,List.length_nil,aBt,List.length_drop,HL0.out,HA.out,HB.out];omega) hLL)
 clear hLL
 refine aAi (by kernel_rfl) HC.out rfl rfl ?_
 intro e w7 h7
 have H7:=hid h7
 obtain ⟨v9,rfl,_,hb9⟩:=h7
 refine ⟨_,rfl,hT _ (HW6.out.trans (hb9.mono HW6.out.size)),?_⟩
 simp (maxSteps:=9^7) only[↓qpre,aAb,aAc]
 refine hQ _ _ ?_
 clear hQ hT hT' hb9
 go_wp2
 go_ret
 refine H7.out.up HW6.out ?_
 rw[HR.out,HD2.out]
 simp[evs,HA.out]
def ren167:Go.Shelf.Ren:=⟨fun | 167=>225 | n=>Tryz.lays156_ren.f n,Tryz.lays156_ren.t,Tryz.lays156_ren.g⟩
theorem extra167:Builder.Extra Tryz.prog ren167:={
 sizeBuilder:=by kernel_rfl
 liesBuilder:=by kernel_rfl
 t5:=Tryz.underlying5
 a5:=Tryz.isAgg5
 z5:=Tryz.sizeOf5
 v5:=Tryz.zeroValue5
 infoByte:=by kernel_rfl
 cellsByte:=by kernel_rfl
 sizeByte:=by kernel_rfl
 neB5:=by decide }
end Go.Proofs.YtohblmepajhpaaaGreatDoor
namespace Go.Proofs.YtohblmepajhpaaaGreatDoor
theorem aMz:∀{s:Bs},10∉s->splitL s=if s=[] then [] else [s]
 | [],_=>rfl
 | x::s,h=>by
  have hx:¬x=10:=fun e=>h (by simp[e])
  have hs:10∉s:=fun e=>h (List.mem_cons_of_mem _ e)
  rw[splitL,if_neg hx,aMz hs]
  by_cases e:s=[]
  ·subst e;rfl
  rw[if_neg e,if_neg (by simp)]
theorem aOm:∀{u v:Bs},10∉u->splitL (u++10::v)=(u++[10])::splitL v
 | [],v,_=>by rw[List.nil_append,splitL,if_pos rfl];rfl
 | x::u,v,h=>by
  have hx:¬x=10:=fun e=>h (by simp[e])
  have hu:10∉u:=fun e=>h (List.mem_cons_of_mem _ e)
  rw[List.cons_append,splitL,if_neg hx,aOm hu];rfl
theorem aHt:∀{s:Bs} {l:Bs},l∈splitL s->l≠[]
 | [],l,h=>by cases h
 | x::s,l,h=>by
  rw[splitL] at h
  split at h
  ·rcases List.mem_cons.1 h with rfl | h
   ·simp
   exact aHt h
  split at h
  ·simp only[List.mem_singleton] at h;subst h;simp
  rename_i m ms hm
  rcases List.mem_cons.1 h with rfl | h
  ·simp
  exact aHt (s:=s) (by rw[hm];exact List.mem_cons_of_mem _ h)
theorem aOl:∀(s:Bs),(splitL s).length<=s.length
 | []=>by simp[splitL]
 | x::s=>by
  have ih:=aOl s
  rw[splitL]
  split
  ·simp only[List.length_cons];omega
  split
  ·simp
  rename_i m ms hm
  rw[hm] at ih
  simp only[List.length_cons] at ih ⊢
  omega
theorem aCa (s:ByteArray):(linesF s).length<=s.size:=by
 rw[linesF,List.length_map];exact aOl _
theorem bDh {s l:ByteArray}(h:l∈linesF s):l≠⟨#[]⟩:=by
 obtain ⟨x,hx,rfl⟩:=List.mem_map.1 h
 intro e
 have h1:=aHt hx
 have h2:(ofB x).data.toList=[]:=by rw[e]
 have h3:(ofB x).data.toList=x:=by simp[ofB]
 rw[h3] at h2
 exact h1 h2
end Go.Proofs.YtohblmepajhpaaaGreatDoor
