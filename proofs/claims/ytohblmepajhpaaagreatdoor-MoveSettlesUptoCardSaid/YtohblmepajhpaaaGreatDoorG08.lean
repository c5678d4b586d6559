/- Texts of the walks, together: Walk: diff.Common: how much two lists have in common. Walk: diff.Script: what leads from one list to another one. The library's Builder at this seat: WriteByte, WriteString, String. Plain laws of lines: cut at the first end of a line. Walks: lines.Split, lines.Join. Walks: slices.Clone, slices.Equal of lines; chunk.kind. -/
import Derived.Shelf.Strings.BuilderK
import Derived.Test.YtohblmepajhpaaaGreatDoorG05
import Derived.Test.YtohblmepajhpaaaGreatDoorG06
import Derived.Test.YtohblmepajhpaaaGreatDoorG07
set_option maxHeartbeats 8000000
set_option maxRecDepth 100000
open Go.Lib (hid)
namespace Go.Proofs.YtohblmepajhpaaaGreatDoor
open Go.RowKit
def rowC (a b:List ByteArray)(i j:Nat):List Value:=(List.range (b.length+1)).map fun t=>Value.int .i32 ((if j<=t then cel a b i t else 0:Nat):Int)
theorem aXt (a b:List ByteArray)(i j:Nat):(rowC a b i j).length=b.length+1:=by simp[rowC]
theorem aLc {a b:List ByteArray}{i j q:Nat}(hq:q<=b.length)(h:j<=q):(rowC a b i j)[q]? = some (.int .i32 (cel a b i q:Nat)):=by
 rw[rowC,List.getElem?_map,List.getElem?_range (by omega),Option.map_some,if_pos h]
theorem aRm {a b:List ByteArray}{i j:Nat}(h:∀t,t<=b.length->j<=t->cel a b i t=0):rowC a b i j=List.replicate (b.length+1) (.int .i32 0):=by
 refine List.ext_getElem (by simp[rowC]) fun t h1 h2=>?_
 rw[aXt] at h1
 simp only[rowC,List.getElem_map,List.getElem_range,List.getElem_replicate]
 split
 ·rw[h t (by omega) (by assumption)];rfl
 rfl
theorem aZp (a b:List ByteArray)(i:Nat):rowC a b i b.length=List.replicate (b.length+1) (.int .i32 0):=
 aRm fun t h1 h2=>by rw[show t=b.length by omega];exact bDj a b i
theorem bBo (a b:List ByteArray):rowC a b a.length 0=List.replicate (b.length+1) (.int .i32 0):=
 aRm fun t _ _=>aWn a b t
theorem bHb (a b:List ByteArray){i j:Nat}:(rowC a b i (j+1)).set j (.int .i32 (cel a b i j:Nat))=rowC a b i j:=by
 refine List.ext_getElem (by simp[rowC]) fun t h1 h2=>?_
 rw[List.getElem_set]
 simp only[rowC,List.getElem_map,List.getElem_range]
 split
 ·rename_i h;subst h;rw[if_pos (Nat.le_refl _)]
 rename_i h
 by_cases h3:j<=t
 ·rw[if_pos (by omega),if_pos h3]
 rw[if_neg (by omega),if_neg h3]
structure Rows2 (w:World) (B g h M:Nat) (xs ys:List Value):Prop where
 o1:w.ownsRow B 21 1 (.slice (some ⟨g,0,none⟩) M M) M xs
 o2:w.ownsRow B 21 1 (.slice (some ⟨h,0,none⟩) M M) M ys
 ne:g≠h
theorem aIh {w:World}{B g M k:Nat}{xs:List Value}{u:Value}(h:w.ownsRow B 21 1 (.slice (some ⟨g,0,none⟩) M M) M xs)(hu:xs[k]? = some u):w.cell? ⟨g,k,none⟩=some u:=by
 rw[h.cellAt k (by rw[<-h.1];exact (List.getElem?_eq_some_iff.1 hu).1),hu]
section
variable {w w':World} {B g h M:Nat} {xs ys:List Value}
theorem Rows2.drew (H:Rows2 w B g h M xs ys):Rows2 w.drew B g h M xs ys:=⟨H.o1.drew,H.o2.drew,H.ne⟩
theorem Rows2.store (H:Rows2 w B g h M xs ys)(k:Nat)(u:Value):Rows2 (w.setCell ⟨h,k,none⟩ u) B g h M xs (ys.set k u):=
 ⟨ownsRow_setCell_other H.o1 (fun e=>H.ne (by simpa[Value.ownBlock] using e)) u,(H.o2.stored k u).1,H.ne⟩
end
theorem aYx {A B:Option Addr}{n ca m cb:Nat}{a b:List ByteArray}{w:World}(hn:n<=400)(hm:m<=400)(ha:Rd w w.heap.size 1 A n ca (a.map .string))(hb:Rd w w.heap.size 1 B m cb (b.map .string)) :
  Calls Tryz.prog 249 #[.slice A n ca,.slice B m cb] w fun e w'=>e=.returned (.int .i64 (lcs a b))/\Below w.heap.size w w':=by
 have HA:=hid (show a.length=n by have:=ha.len;simpa using this)
 have HB:=hid (show b.length=m by have:=hb.len;simpa using this)
 have hca:=ha.cap
 have hcb:=hb.cap
 have hB:=aSz (w:=w) (by omega) (by omega) ha hb
 go_enter Tryz.func249,Tryz.ntmps249
 go_wp2_with fail
 refine hB.mono ?_
 rintro e w1 ⟨rfl,hb1⟩
 clear hB
 have hp:=aQu a b
 rw[HA.out,HB.out] at hp
 obtain ⟨hp1,hp2⟩:=hp
 have HPT:=hid (aEg a b)
 have HFIN:=hid (fun (q:Nat)=>bBp a b (pfx a b) q (aEg a b) (aQu a b).1 (aQu a b).2)
 generalize pfx a b=P at *
 have HW1:=hid hb1;clear hb1
 go_wp2
 refine aAh (fun w'=>Below w.heap.size w w') (qs 8) mixed (by kernel_rfl) HW1.out.drew ?_
 intro T M Q hT hT' hM hQ
 clear hM
 simp only[qcmp]
 simp (maxSteps:=9^7) only[↓qpre,aAb,aAe,aAc]
 (repeat refine And.intro (by first|omega|(unfold inI64;omega)) ?_)
 refine hQ _ _ ?_
 clear hQ hT hT'
 have HW2:=hid HW1.out.drew
 have hra:=ha.cut1 (l:=P) (k:=n) hp1 (Nat.le_refl _)
 have hrb:=hb.cut1 (l:=P) (k:=m) hp2 (Nat.le_refl _)
 rw[List.take_of_length_le (by rw[List.length_map,HA.out];exact Nat.le_refl _),<-List.map_drop] at hra
 rw[List.take_of_length_le (by rw[List.length_map,HB.out];exact Nat.le_refl _),<-List.map_drop] at hrb
 simp only[sliced,Nat.mul_one]
 generalize (if ca=P then A else Option.map (fun x=>x.add P) A)=A1 at *
 generalize (if cb=P then B else Option.map (fun x=>x.add P) B)=B1 at *
 clear HW1
 generalize w1.drew=w2 at *
 clear ha hb HA HB hca hcb HPT
 generalize a.drop P=a1 at *
 generalize b.drop P=b1 at *
 obtain ⟨n1,hn1⟩:∃x,x=n-P:=⟨_,rfl⟩
 obtain ⟨m1,hm1⟩:∃x,x=m-P:=⟨_,rfl⟩
 rw[<-hn1] at hra ⊢
 rw[<-hm1] at hrb ⊢
 have hl1:n1<=400:=by omega
 have hl2:m1<=400:=by omega
 have hP:P<=400:=by omega
 clear hn1 hm1 hp1 hp2
 generalize ca-P=c1 at *
 generalize cb-P=c2 at *
 have HA:=hid (show a1.length=n1 by have:=hra.len;simpa using this)
 have HB:=hid (show b1.length=m1 by have:=hrb.len;simpa using this)
 have hE:=bId (w:=w2) (by omega) (by omega) (hra.to HW2.out HW2.out.size) (hrb.to HW2.out HW2.out.size)
 go_wp2_with fail
 refine hE.mono ?_
 rintro e w3 ⟨rfl,hb3⟩
 clear hE
 have hq:=bJi a1 b1
 rw[HA.out,HB.out] at hq
 obtain ⟨hq1,hq2⟩:=hq
 have HFIN2:=hid (HFIN.out (sfx a1 b1) (bFx a1 b1) (by rw[HA.out];exact hq1) (by rw[HB.out];exact hq2))
 rw[HA.out,HB.out] at HFIN2
 clear HFIN
 generalize sfx a1 b1=R at *
 have HW3:=hid (HW2.out.trans (hb3.mono HW2.out.size))
 clear hb3 HW2
 have i1:(n1:Int)-R=((n1-R:Nat):Int):=by omega
 have i2:(m1:Int)-R=((m1-R:Nat):Int):=by omega
 have hca:=hra.cap
 have hcb:=hrb.cap
 go_wp2
 refine aAh (fun w'=>Below w.heap.size w w') (qs 14) mixed (by kernel_rfl) HW3.out.drew ?_
 intro T M Q hT hT' hM hQ
 clear hM
 simp only[qcmp]
 simp (maxSteps:=9^7) only[↓qpre,aAb,aAe,aAc,i1,i2]
 (repeat refine And.intro (by first|omega|(unfold inI64;omega)) ?_)
 refine hQ _ _ ?_
 clear hQ hT hT'
 have HW4:=hid HW3.out.drew
 have hra:=hra.cut1 (l:=0) (k:=n1-R) (Nat.zero_le _) (by omega)
 have hrb:=hrb.cut1 (l:=0) (k:=m1-R) (Nat.zero_le _) (by omega)
 rw[List.drop_zero,<-List.map_take] at hra hrb
 simp only[sliced,Nat.mul_one]
 generalize (if c1=0 then A1 else Option.map (fun x=>x.add 0) A1)=A2 at *
 generalize (if c2=0 then B1 else Option.map (fun x=>x.add 0) B1)=B2 at *
 clear HW3
 generalize w3.drew=w4 at *
 clear HA HB hca hcb i1 i2
 generalize a1.take (n1-R)=a2 at *
 generalize b1.take (m1-R)=b2 at *
 obtain ⟨n2,hn2⟩:∃x,x=n1-R-0:=⟨_,rfl⟩
 obtain ⟨m2,hm2⟩:∃x,x=m1-R-0:=⟨_,rfl⟩
 rw[<-hn2] at hra ⊢
 rw[<-hm2] at hrb ⊢
 have hl3:n2<=400:=by omega
 have hl4:m2<=400:=by omega
 have hR:R<=400:=by omega
 clear hn2 hm2 hq1 hq2 hl1 hl2
 generalize c1-0=c3 at *
 generalize c2-0=c4 at *
 have HA:=hid (show a2.length=n2 by have:=hra.len;simpa using this)
 have HB:=hid (show b2.length=m2 by have:=hrb.len;simpa using this)
 obtain ⟨M,hM⟩:∃M:Nat,m2+1=M:=⟨_,rfl⟩
 have hMi:(m2:Int)+1=(M:Int):=by omega
 have hws:=HW4.out.size
 go_wp2_with first
  | (at_make;refine aPa rfl (.tmp 37) (.tmp 37) 321 rfl bIc w.heap.size M rfl rfl rfl rfl (by omega) (by simp only[maxLen];omega) hws ?_;intro w5 hown5 hgrow5)
 have HB5:=hid (HW4.out.grown hgrow5 hws (fun g hg=>by cases hg))
 have HO5:Hid (w5.ownsRow w.heap.size 21 1 (.slice (some ⟨w4.heap.size,0,none⟩) M M) M (rowC a2 b2 n2 0)):=by
  have:=hown5
  rw[show List.replicate M (Value.int .i32 0)=rowC a2 b2 n2 0 by rw[<-HA.out,bBo,HB.out,hM]] at this
  exact this
 clear hown5 hgrow5 HW4 hws
 generalize w4.heap.size=g0 at *
 go_loopw[7,8] (fun last i wr=>∃(j g:Nat),j<=n2/\i=.int .i64 ((j:Int)-1)/\last=.slice (some ⟨g,0,none⟩) M M/\Hid (Below w.heap.size w wr)/\Hid (wr.ownsRow w.heap.size 21 1 (.slice (some ⟨g,0,none⟩) M M) M (rowC a2 b2 j 0)))
   (fun _ i _=>(intOf i+1).toNat)
 case atStart=>exact ⟨n2,g0,Nat.le_refl _,rfl,rfl,HB5,HO5⟩
 clear HB5 HO5
 obtain ⟨j,g,hj,rfl,rfl,HW,HO⟩:=hrel
 cases j with
 | zero=>
  have HC:=hid (aIh HO.out (k:=0) (aLc (Nat.zero_le _) (Nat.zero_le _)))
  have hv:=aTg a2 b2 0 0
  rw[HA.out] at hv
  have HF:Hid (lcs a b=P+R+cel a2 b2 0 0):=HFIN2
  generalize cel a2 b2 0 0=v at *
  have c0:wr.cell? ⟨g,0,none⟩=some (.int .i32 v):=HC.out
  have hM1:0<M:=by omega
  go_wp2
  go_ret
  exact ⟨by rw[HF.out];push_cast;rfl,HW.out⟩
 | succ j=>
  rw[show ((j+1:Nat):Int)-1=(j:Int) from by omega]
  obtain ⟨ba,oa,x,rfl,hba,hax,hacell⟩:=hra.str (k:=j) (by omega)
  have HX:=hid hax
  clear hax
  have hws:=HW.out.size
  go_wp2_with first
   | (at_make;refine aPa rfl (.tmp 48) (.tmp 48) 321 rfl bIc w.heap.size M rfl rfl rfl rfl (by omega) (by simp only[maxLen];omega) hws ?_;intro w6 hown6 hgrow6)
  have HB6:=hid (HW.out.grown hgrow6 hws (fun g hg=>by cases hg))
  have HR6:Hid (Rows2 w6 w.heap.size g wr.heap.size M (rowC a2 b2 (j+1) 0) (rowC a2 b2 j m2)):=by
   refine ⟨HO.out.kept hgrow6 (.inr (by simp[Value.ownBlock])),?_,Nat.ne_of_lt (HO.out.lt g rfl).2⟩
   rw[show rowC a2 b2 j m2=List.replicate M (Value.int .i32 0) by rw[<-HB.out,aZp,HB.out,hM]]
   exact hown6
  have hgh:w.heap.size<=wr.heap.size:=hws
  clear hown6 hgrow6 HO
  generalize wr.heap.size=h at *
  go_loopw[10] (fun k wr2=>∃q:Nat,q<=m2/\k=.int .i64 ((q:Int)-1)/\Hid (Below w.heap.size w wr2)/\Hid (Rows2 wr2 w.heap.size g h M (rowC a2 b2 (j+1) 0) (rowC a2 b2 j q)))
    (fun k _=>(intOf k+1).toNat)
  case atStart=>exact ⟨m2,Nat.le_refl _,rfl,HB6,HR6⟩
  clear HB6 HR6 HW
  rename_i wr0
  obtain ⟨q,hq,rfl,HW,HR⟩:=hrel
  cases q with
  | zero=>
   go_wp2
   go_roundw
   case rel=>exact ⟨j,h,by omega,by go_num,rfl,HW,hid HR.out.o2⟩
   simp[intOf]
  | succ q=>
   rw[show ((q+1:Nat):Int)-1=(q:Int) from by omega]
   obtain ⟨bb,ob,y,rfl,hbb,hby,hbcell⟩:=hrb.str (k:=q) (by omega)
   have HY:=hid hby;clear hby
   have hstep:=aXq HX.out HY.out
   have HS:Hid (cel a2 b2 (j+1) (q+1)<=400/\cel a2 b2 (j+1) q<=400/\cel a2 b2 j (q+1)<=400):=by
    have h1:=aTg a2 b2 (j+1) (q+1)
    have h2:=aTg a2 b2 (j+1) q
    have h3:=aTg a2 b2 j (q+1)
    have:=HA.out
    exact ⟨by omega,by omega,by omega⟩
   have hlb:b2.length=m2:=HB.out
   have gD:=(aLc (a:=a2) (b:=b2) (i:=j+1) (j:=0) (q:=q+1) (by omega) (Nat.zero_le _))
   have gL:=(aLc (a:=a2) (b:=b2) (i:=j+1) (j:=0) (q:=q) (by omega) (Nat.zero_le _))
   have gR:=(aLc (a:=a2) (b:=b2) (i:=j) (j:=q+1) (q:=q+1) (by omega) (Nat.le_refl _))
   have hset:=bHb a2 b2 (i:=j) (j:=q)
   have hcur:∃u,(rowC a2 b2 j (q+1))[q]? = some u:=⟨_,List.getElem?_eq_getElem (by rw[aXt];omega)⟩
   obtain ⟨u,hu⟩:=hcur
   have HSET:=hid hset
   have HU:=hid (aIh HR.out.o2 hu)
   have HD:=hid (aIh HR.out.o1 gD)
   have HL:=hid (aIh HR.out.o1 gL)
   have HRR:=hid (aIh HR.out.o2 gR)
   have HFZ:=hid (HR.out.o2.frozenAt q)
   clear gD gL gR hset hu hlb
   have hqM:q+1<M:=by omega
   go_wp2
   refine aAh (fun w'=>Below w.heap.size w w') (qs 9) mixed (by kernel_rfl) HW.out.drew ?_
   intro T M0 Q hT hT' hM hQ
   have m0:M0 ⟨ba,oa+j,none⟩=some (.string x):=hM _ _ fun w' hw=>(hw.cell (p:=⟨ba,oa+j,none⟩) hba).trans hacell
   have m1:M0 ⟨bb,ob+q,none⟩=some (.string y):=hM _ _ fun w' hw=>(hw.cell (p:=⟨bb,ob+q,none⟩) hbb).trans hbcell
   clear hM
   simp only[qcmp]
   by_cases hxy:x=y
   ·have e1:(x.toList == y.toList)=true:=by rw[hxy];exact beq_self_eq_true _
    rw[if_pos hxy] at hstep
    simp (maxSteps:=9^7) only[↓qpre,aAb,aAe,aAc,m0,m1]
    (repeat refine And.intro (by first|omega|(unfold inI64;omega)) ?_)
    refine hQ _ _ ?_
    clear hQ hT hT' m0 m1 e1
    have e9:((cel a2 b2 j q:Nat):Int)=((cel a2 b2 (j+1) (q+1):Nat):Int)+1:=by rw[hstep];push_cast;rfl
    have hst:=HR.out.drew.store q (.int .i32 (cel a2 b2 j q:Nat))
    rw[HSET.out,e9] at hst
    have HST:=hid hst
    clear hst e9 hstep
    have c0:wr.drew.cell? ⟨g,q+1,none⟩=some (.int .i32 (cel a2 b2 (j+1) (q+1):Nat)):=HD.out
    have c1:wr.drew.cell? ⟨h,q,none⟩=some u:=HU.out
    have c2:wr.drew.frozen? ⟨h,q,none⟩=false:=HFZ.out
    have hv:cel a2 b2 (j+1) (q+1)<=400:=HS.out.1
    have T1:∀z:Nat,((z:Int)+1).toNat=z+1:=fun z=>by omega
    generalize cel a2 b2 (j+1) (q+1)=v1 at *
    have HW7:Hid (Below w.heap.size w (wr.drew.setCell ⟨h,q,none⟩ (.int .i32 ((v1:Int)+1)))):=hid (HW.out.drew.setCell (p:=⟨h,q,none⟩) hgh _)
    clear HD HL HRR HU HFZ HR HW HSET HS
    go_wp2
    go_roundw
    case rel=>exact ⟨q,by omega,by go_num,HW7,HST⟩
    simp[intOf]
   have e1:=aBw hxy
   rw[if_neg hxy] at hstep
   simp (maxSteps:=9^7) only[↓qpre,aAb,aAe,aAc,m0,m1]
   (repeat refine And.intro (by first|omega|(unfold inI64;omega)) ?_)
   refine hQ _ _ ?_
   clear hQ hT hT' m0 m1 e1
   have e9:((cel a2 b2 j q:Nat):Int)=max ((cel a2 b2 (j+1) q:Nat):Int) ((cel a2 b2 j (q+1):Nat):Int):=by rw[hstep];omega
   have hst:=HR.out.drew.drew.store q (.int .i32 (cel a2 b2 j q:Nat))
   rw[HSET.out,e9] at hst
   have HST:=hid hst
   clear hst e9 hstep
   have T1:∀z:Nat,((z:Int)+1).toNat=z+1:=fun z=>by omega
   go_wp2
   refine aBf (fun w'=>∀p:Addr,w'.cell? p=wr.cell? p) (qs 13) [13] mixed (by kernel_rfl) (fun p=>rfl) ?_
   intro T M0 Q Q2 hT hT' hM hQ hQ2
   have m0:M0 ⟨g,q,none⟩=some (.int .i32 (cel a2 b2 (j+1) q:Nat)):=hM _ _ fun w' hw=>(hw _).trans HL.out
   have m1:M0 ⟨h,q+1,none⟩=some (.int .i32 (cel a2 b2 j (q+1):Nat)):=hM _ _ fun w' hw=>(hw _).trans HRR.out
   clear hM
   simp only[qcmp]
   simp (maxSteps:=9^7) only[↓qpre,aAb,aAe,aAc,m0,m1,T1]
   (repeat refine And.intro (by first|omega|(unfold inI64;omega)) ?_)
   refine hQ _ _ ?_
   simp only[lates,List.map,qcmp]
   simp (maxSteps:=9^7) only[aAb]
   have hcs:(wr.drew.drew.cell? ⟨h,q,none⟩).isSome=true:=congrArg Option.isSome HU.out
   refine aBi (v:=.int .i32 (max ((cel a2 b2 (j+1) q:Nat):Int) ((cel a2 b2 j (q+1):Nat):Int))) (b:=h) (o:=q) (by kernel_rfl) rfl rfl hcs HFZ.out rfl ⟨trivial,?_⟩
   simp (maxSteps:=9^7) only[aAb]
   refine hQ2 _ _ ?_
   have HW7:=hid (HW.out.drew.drew.setCell (p:=⟨h,q,none⟩) hgh (.int .i32 (max ((cel a2 b2 (j+1) q:Nat):Int) ((cel a2 b2 j (q+1):Nat):Int))))
   clear hQ hQ2 hT hT' m0 m1 hcs HD HL HRR HU HFZ HR HW HSET HS
   go_wp2
   go_roundw
   case rel=>exact ⟨q,by omega,by go_num,HW7,HST⟩
   simp[intOf]
theorem Rd.front {w:World}{B sz n c k:Nat}{A:Option Addr}{xs:List Value}(h:Rd w B sz A n c xs)(hk:k<=n):Rd w B sz A k c (xs.take (k*sz)):=by
 refine ⟨by rw[List.length_take,h.len,Nat.min_eq_left (Nat.mul_le_mul_right _ hk)],Nat.le_trans hk h.cap,fun h0=>?_⟩
 obtain ⟨b,o,e,hb,hc⟩:=h.at_ (by omega)
 refine ⟨b,o,e,hb,fun j u hu=>hc j u ?_⟩
 rw[List.getElem?_take] at hu
 split at hu
 ·exact hu
 cases hu
theorem Rd.frontS {w:World}{B n c k:Nat}{A:Option Addr}{l:List ByteArray}(h:Rd w B 1 A n c (l.map .string))(hk:k<=n):Rd w B 1 A k c ((l.take k).map .string):=by
 have:=h.front hk
 rw[Nat.mul_one,<-List.map_take] at this
 exact this
theorem Rd.backS {w:World}{B n c k:Nat}{A:Option Addr}{l:List ByteArray}(h:Rd w B 1 A n c (l.map .string))(hk:k<=n):Rd w B 1 (if c=k then A else A.map (·.add k)) (n-k) (c-k) ((l.drop k).map .string):=by
 have:=h.cut1 hk (Nat.le_refl _)
 rw[List.take_of_length_le (by have:=h.len;omega),<-List.map_drop] at this
 exact this
theorem aIl {w:World} {B B':Nat}{e:TypeId}{k n:Nat}{v:Value}{xs:List Value}(h:w.ownsRow B e k v n xs)(hB:B'<=B):w.ownsRow B' e k v n xs:=by
 obtain ⟨h1,h2⟩:=h
 refine ⟨h1,?_⟩
 rcases h2 with h2 | ⟨g,cap,cur,e1,e2,e3,e4,e5,e6⟩
 ·exact .inl h2
 exact .inr ⟨g,cap,cur,e1,Nat.le_trans hB e2,e3,e4,e5,e6⟩
theorem EdIs.up {L L':List DV}{w w1 w2:World}{e:Ending}(h:EdIs L w1 e w2)(hb:Below w.heap.size w w1)(hL:L=L'):EdIs L' w e w2:=by
 subst hL
 obtain ⟨v,e1,h1,h2⟩:=h
 exact ⟨v,e1,aIl h1 hb.size,hb.trans (h2.mono hb.size)⟩
theorem aLi {P:Program}{t e:TypeId}{bytes:Nat}(E:Elem P t e 1 bytes){a b c:Value}(ha:a.cells=#[a])(hb:b.cells=#[b])(hc:c.cells=#[c])(w:World) :
  (Instr.buildSlice t 3 #[(0,a),(1,b),(2,c)]).run P w=.ok (.slice (some ⟨w.heap.size,0,none⟩) 3 3) (w.alloc (.cells #[a,b,c] e)):=by
 obtain ⟨i,z,hi,hz,hsz,hby,hzs⟩:=E.row
 obtain ⟨z0,hzc⟩:∃z0,z.cells=#[z0]:=by
  have:=hzs
  match h:z.cells,this with
  | ⟨[z0]⟩,_=>exact ⟨z0,rfl⟩
 simp[Instr.buildSlice,run_underlying E.und,sizeOf,typeInfo,hi,hsz,zeroValue,hz,Instr.fill,ha,hb,hc,hzc,newRow,show Array.range 3=#[0,1,2] from rfl]
theorem aLl {P:Program}{S:World->Prop}{a:Act} {w w':World}{K:Act->World->Prop}{dst:Option Tmp}{t ty:TypeId}{x y z:Operand}{q:Bool}{g:Option (Tmp×Bool)}{u v s r:Value}
  (hr:(Instr.buildSlice t 3 #[(0,u),(1,v),(2,s)]).run P w=.ok r w') (hx:a.eval x=u) (hy:a.eval y=v) (hz:a.eval z=s) (hK:S w'/\K (a.put dst r) w') :
  effq P S ⟨q,dst,.buildSlice t 3 #[(0,x),(1,y),(2,z)],ty,g⟩ a w K:=by
 refine aRr (fun p af g=>?_) hK
 unfold execOp
 simp only[List.map_toArray,List.map_cons,List.map_nil,hx,hy,hz,hr,Sem.run_bind,Sem.run_pure,Result.andThen_ok]
theorem bHk:Elem Tryz.prog 339 190 1 24:=aBt (by kernel_rfl)
structure GrR (w:World) (g bx W N:Nat) (xs:List Value) (out:Value):Prop where
 c0:w.cell? ⟨bx,0,none⟩=some (.slice (some ⟨g,0,none⟩) N N)
 c1:w.cell? ⟨bx,1,none⟩=some (.int .i64 W)
 cell:∀(k:Nat) (u:Value),xs[k]? = some u->w.cell? ⟨g,k,none⟩=some u
 lt:g<w.heap.size/\bx<w.heap.size
 ap:∀o,out.ownBlock=some o->o≠g/\o≠bx
section
variable {w w':World} {g bx W N:Nat} {xs:List Value} {out:Value}
theorem GrR.drew (h:GrR w g bx W N xs out):GrR w.drew g bx W N xs out:=⟨h.c0,h.c1,h.cell,h.lt,h.ap⟩
theorem GrR.app (h:GrR w g bx W N xs out) {v':Value}(hg:w.grownBy w' out.ownBlock)(hv:v'.ownBlock=out.ownBlock\/v'.ownBlock=some w.heap.size):GrR w' g bx W N xs v':=by
 have hb:∀j:Nat,j<w.heap.size->(∀o,out.ownBlock=some o->o≠j)->∀k:Nat,w'.cell? ⟨j,k,none⟩=w.cell? ⟨j,k,none⟩:=fun j hj ho k=>
  World.cell?_of_block (hg.block j hj (fun e=>ho j e.symm rfl))
 refine ⟨(hb _ h.lt.2 (fun o ho=>(h.ap o ho).2) 0).trans h.c0,(hb _ h.lt.2 (fun o ho=>(h.ap o ho).2) 1).trans h.c1,fun k u hu=>(hb _ h.lt.1 (fun o ho=>(h.ap o ho).1) k).trans (h.cell k u hu),⟨Nat.lt_of_lt_of_le h.lt.1 hg.size,Nat.lt_of_lt_of_le h.lt.2 hg.size⟩,fun o ho=>?_⟩
 rcases hv with hv | hv
 ·exact h.ap o (hv▸ho)
 rw[hv] at ho;injection ho with ho;subst ho
 exact ⟨Nat.ne_of_gt h.lt.1,Nat.ne_of_gt h.lt.2⟩
theorem GrR.alloc (h:GrR w g bx W N xs out)(o:Obj):GrR (w.alloc o) g bx W N xs out:=by
 have hg:=World.grownBy_alloc w o none
 have hb:∀j:Nat,j<w.heap.size->∀k:Nat,(w.alloc o).cell? ⟨j,k,none⟩=w.cell? ⟨j,k,none⟩:=fun j hj k=>World.cell?_of_block (hg.block j hj (fun e=>by cases e))
 exact ⟨(hb _ h.lt.2 0).trans h.c0,(hb _ h.lt.2 1).trans h.c1,fun k u hu=>(hb _ h.lt.1 k).trans (h.cell k u hu),⟨Nat.lt_of_lt_of_le h.lt.1 hg.size,Nat.lt_of_lt_of_le h.lt.2 hg.size⟩,h.ap⟩
end
theorem rdLL3 {w:World}{t:TypeId}{L0 L1 L2:List DV}{A0 A1 A2:Option Addr}{c0 c1 c2:Nat}
  (h0:Rd w w.heap.size 2 A0 L0.length c0 (L0.flatMap DV.cells)) (h1:Rd w w.heap.size 2 A1 L1.length c1 (L1.flatMap DV.cells)) (h2:Rd w w.heap.size 2 A2 L2.length c2 (L2.flatMap DV.cells)) :
  RdLL (w.alloc (.cells #[.slice A0 L0.length c0,.slice A1 L1.length c1,.slice A2 L2.length c2] t)) (w.alloc (.cells #[.slice A0 L0.length c0,.slice A1 L1.length c1,.slice A2 L2.length c2] t)).heap.size w.heap.size [L0,L1,L2]:=by
 have hb:Below w.heap.size w (w.alloc (.cells #[.slice A0 L0.length c0,.slice A1 L1.length c1,.slice A2 L2.length c2] t)):=(Below.refl _ _).alloc (Nat.le_refl _) _
 intro k L hk
 match k with
 | 0=>cases hk;exact ⟨A0,c0,by rw[World.cell?,heap_alloc_new];rfl,h0.to hb hb.size⟩
 | 1=>cases hk;exact ⟨A1,c1,by rw[World.cell?,heap_alloc_new];rfl,h1.to hb hb.size⟩
 | 2=>cases hk;exact ⟨A2,c2,by rw[World.cell?,heap_alloc_new];rfl,h2.to hb hb.size⟩
 | k+3=>cases hk
theorem aTt:∀a:List ByteArray,scrT a []=evs 2 a
 | []=>by simp[scrT,evs]
 | x::a=>by rw[scrT,aTt a];rfl
theorem aOh:∀b:List ByteArray,scrT [] b=evs 3 b
 | []=>by simp[scrT,evs]
 | y::b=>by rw[scrT,aOh b];rfl
theorem aUu {A B:Option Addr}{n ca m cb:Nat}{a b:List ByteArray}{w:World}(hn:n<=100000)(hm:m<=100000)(ha:Rd w w.heap.size 1 A n ca (a.map .string))(hb:Rd w w.heap.size 1 B m cb (b.map .string)) :
  Calls Tryz.prog 259 #[.slice A n ca,.slice B m cb] w (EdIs (script a b) w):=by
 have HA:=hid (show a.length=n by have:=ha.len;simpa using this)
 have HB:=hid (show b.length=m by have:=hb.len;simpa using this)
 have hca:=ha.cap
 have hcb:=hb.cap
 have hB:=aSz (w:=w) (by omega) (by omega) ha hb
 go_enter Tryz.func259,Tryz.ntmps259
 go_wp2_with fail
 refine hB.mono ?_
 rintro e w1 ⟨rfl,hb1⟩
 clear hB
 have hp:=aQu a b
 rw[HA.out,HB.out] at hp
 obtain ⟨hp1,hp2⟩:=hp
 have HS:=hid (show script a b=evs 1 (a.take (pfx a b))++rest (a.drop (pfx a b)) (b.drop (pfx a b)) from rfl)
 generalize script a b=fin at *
 generalize pfx a b=P at *
 have HW1:=hid hb1;clear hb1
 have hr0:=ha.frontS hp1
 have hE:=aDk (k:=1) (w:=w1) (by omega) (hr0.to HW1.out HW1.out.size)
 go_wp2_with fail
 refine hE.mono ?_
 rintro e w2 ⟨v6,rfl,ho6,hb2⟩
 have hl0:(evs 1 (a.take P)).length=P:=by rw[aBq,List.length_take,HA.out];omega
 rw[hl0] at ho6
 have HL0:=hid hl0
 have HW2:=hid (HW1.out.trans (hb2.mono HW1.out.size))
 have HO6:=hid (aIl ho6 HW1.out.size)
 have hra:=ha.backS hp1
 have hrb:=hb.backS hp2
 clear hE hr0 hb2 ho6 hl0 HW1 ha hb HA HB
 go_wp2
 refine aAh (fun w'=>Below w.heap.size w w') (qs 8) mixed (by kernel_rfl) HW2.out.drew ?_
 intro T M Q hT hT' hM hQ
 clear hM
 simp only[qcmp]
 simp (maxSteps:=9^7) only[↓qpre,aAb,aAe,aAc]
 (repeat refine And.intro (by first|omega|(unfold inI64;omega)) ?_)
 refine hQ _ _ ?_
 clear hQ hT hT'
 simp only[sliced,Nat.mul_one]
 generalize (if ca=P then A else Option.map (fun x=>x.add P) A)=A1 at *
 generalize (if cb=P then B else Option.map (fun x=>x.add P) B)=B1 at *
 have HW3:=hid HW2.out.drew
 have HO7:=hid HO6.out.drew
 clear HW2 HO6
 generalize w2.drew=w3 at *
 generalize evs 1 (a.take P)=L0 at *
 generalize a.drop P=a1 at *
 generalize b.drop P=b1 at *
 obtain ⟨n1,hn1⟩:∃x,x=n-P:=⟨_,rfl⟩
 obtain ⟨m1,hm1⟩:∃x,x=m-P:=⟨_,rfl⟩
 rw[<-hn1] at hra ⊢
 rw[<-hm1] at hrb ⊢
 have hl1:n1<=100000:=by omega
 have hl2:m1<=100000:=by omega
 have hP:P<=100000:=by omega
 clear hn1 hm1 hp1 hp2 hca hcb
 generalize ca-P=c1 at *
 generalize cb-P=c2 at *
 have HA:=hid (show a1.length=n1 by have:=hra.len;simpa using this)
 have HB:=hid (show b1.length=m1 by have:=hrb.len;simpa using this)
 by_cases big:400<n1\/400<m1
 ·have HR:Hid (fin=[L0,evs 2 a1,evs 3 b1].flatten):=by
   unfold Hid
   rw[HS.out,rest,if_pos (by rw[HA.out,HB.out];exact big)]
   simp
  clear HS
  obtain ⟨A6,c6,rfl,hc6⟩:=aAd HO7.out
  have HR6:=hid (Rd.of_own HO7.out hc6)
  clear HO7
  by_cases big1:400<n1
  case' neg=>have big2:400<m1:=by omega
  all_goals
   have hE1:=aDk (k:=2) (w:=w3) (by omega) (hra.to HW3.out HW3.out.size)
   go_wp2_with fail
   refine hE1.mono ?_
   rintro e w4 ⟨v7,rfl,ho7,hb4⟩
   rw[aBq,HA.out] at ho7
   obtain ⟨A7,c7,rfl,hc7⟩:=aAd ho7
   have HR7:=hid (Rd.of_own ho7 hc7)
   have HW4:=hid (HW3.out.trans (hb4.mono HW3.out.size))
   have HR6:=hid (HR6.out.to hb4 hb4.size)
   clear hE1 ho7 hb4
   have hE2:=aDk (k:=3) (w:=w4) (by omega) (hrb.to HW4.out HW4.out.size)
   go_wp2_with fail
   refine hE2.mono ?_
   rintro e w5 ⟨v8,rfl,ho8,hb5⟩
   rw[aBq,HB.out] at ho8
   obtain ⟨A8,c8,rfl,hc8⟩:=aAd ho8
   have HR8:=hid (Rd.of_own ho8 hc8)
   have HW5:=hid (HW4.out.trans (hb5.mono HW4.out.size))
   have HR6:=hid (HR6.out.to hb5 hb5.size)
   have HR7:=hid (HR7.out.to hb5 hb5.size)
   clear hE2 ho8 hb5
   have hLL:RdLL (w5.alloc (.cells #[.slice A6 P c6,.slice A7 n1 c7,.slice A8 m1 c8] 190)) (w5.alloc (.cells #[.slice A6 P c6,.slice A7 n1 c7,.slice A8 m1 c8] 190)).heap.size w5.heap.size [L0,evs 2 a1,evs 3 b1]:=by
    have h0:=HR6.out;have h1:=HR7.out;have h2:=HR8.out
    rw[show P=L0.length from HL0.out.symm] at h0 ⊢
    rw[show n1=(evs 2 a1).length by rw[aBq,HA.out]] at h1 ⊢
    rw[show m1=(evs 3 b1).length by rw[aBq,HB.out]] at h2 ⊢
    exact rdLL3 h0 h1 h2
   have hW6:=HW5.out.alloc HW5.out.size (.cells #[.slice A6 P c6,.slice A7 n1 c7,.slice A8 m1 c8] 190)
   have hC:=aHd (q:=3) (c:=3) rfl (by omega) (by simp) (by have:=HL0.out;have:=HA.out;have:=HB.out;simp[aBq];omega) hLL
   have HC:=hid hC
   have HW6:=hid hW6
   clear hLL hC hW6
   go_wp2_with fail
   refine HC.out.mono ?_
   intro e w7 h7
   have H7:=hid h7
   obtain ⟨v9,rfl,_,_⟩:=h7
   go_wp2
   go_ret
   exact (H7.out.up HW6.out HR.out.symm)
 have hn1:n1<=400:=by omega
 have hm1:m1<=400:=by omega
 have HR:Hid (fin=L0++scrT a1 b1):=by
  unfold Hid
  rw[HS.out,rest,if_neg (by rw[HA.out,HB.out];exact big)]
 clear HS big
 have hMd:=bFj (w:=w3) hn1 hm1 (hra.to HW3.out HW3.out.size) (hrb.to HW3.out HW3.out.size)
 go_wp2_with fail
 refine hMd.mono ?_
 rintro e w4 ⟨g,bx,rfl,hG,hb4⟩
 have hO8:=aAg HO7.out hb4
 have hap:∀o,v6.ownBlock=some o->o≠g/\o≠bx:=fun o ho=>by
  have h1:=(HO7.out.lt o ho).2
  have h2:=hG.ge
  have h3:=hG.lo
  exact ⟨by omega,by omega⟩
 rw[HA.out,HB.out] at hG
 obtain ⟨W,hW⟩:∃W:Nat,m1+1=W:=⟨_,rfl⟩
 obtain ⟨N,hN⟩:∃N:Nat,(n1+1)*W=N:=⟨_,rfl⟩
 rw[hW,hN] at hG
 have HG:Hid (GrR w4 g bx W N (gridL a1 b1 0 0) v6):=hid ⟨hG.c0,hG.c1,fun k u hu=>hG.cell hu,⟨hG.ge.2,hG.hi⟩,hap⟩
 have HW4:=hid (HW3.out.trans (hb4.mono HW3.out.size))
 have HO8:=hid hO8
 have HNW:=hid (And.intro hW hN)
 have hNle:N<=160801:=by rw[<-hN,<-hW];exact Nat.mul_le_mul (show n1+1<=401 by omega) (show m1+1<=401 by omega)
 clear hMd hb4 hG hap hO8 HW3 HO7 hW hN
 go_wp2
 go_loopw[6,8,9] (fun out i8 i9 wr=>∃(i q:Nat) (d:List DV),i<=n1/\q<=m1/\i8=.int .i64 i/\i9=.int .i64 q/\Hid (Below w.heap.size w wr)/\Hid (GrR wr g bx W N (gridL a1 b1 0 0) out)/\Hid (wr.ownsRow w.heap.size 193 2 out (P+d.length) ((L0++d).flatMap DV.cells))/\Hid (scrT a1 b1=d++scrT (a1.drop i) (b1.drop q))/\d.length<=i+q)
   (fun _ i8 i9 _=>(n1-(intOf i8).toNat)+(m1-(intOf i9).toNat))
 case atStart=>exact ⟨0,0,[],Nat.zero_le _,Nat.zero_le _,rfl,rfl,HW4,HG,by rw[List.append_nil];exact HO8,by rw[List.drop_zero,List.drop_zero];rfl,Nat.zero_le _⟩
 clear HW4 HG HO8
 obtain ⟨i,q,d,hi,hq,rfl,rfl,HW,HG,HO,HD,hd⟩:=hrel
 have hws:=HW.out.size
 have HLEN:Hid ((L0++d).length=P+d.length):=by rw[List.length_append,HL0.out];rfl
 by_cases h1:i<n1
 ·by_cases h2:q<m1
  ·obtain ⟨ba,oa,x,rfl,hba,hax,hacell⟩:=hra.str (k:=i) h1
   obtain ⟨bb,ob,y,rfl,hbb,hby,hbcell⟩:=hrb.str (k:=q) h2
   have HX:=hid hax
   have HY:=hid hby
   clear hax hby
   go_wp2
   refine aAh (fun w'=>Below w.heap.size w w') (qs 10) mixed (by kernel_rfl) HW.out.drew ?_
   intro T M Q hT hT' hM hQ
   have m0:M ⟨ba,oa+i,none⟩=some (.string x):=hM _ _ fun w' hw=>(hw.cell (p:=⟨ba,oa+i,none⟩) hba).trans hacell
   have m1:M ⟨bb,ob+q,none⟩=some (.string y):=hM _ _ fun w' hw=>(hw.cell (p:=⟨bb,ob+q,none⟩) hbb).trans hbcell
   clear hM
   have HW:=hid HW.out.drew
   have HG:=hid HG.out.drew
   have HO:=hid HO.out.drew
   simp only[qcmp]
   by_cases hxy:x=y
   ·have e1:(x.toList == y.toList)=true:=by rw[hxy];exact beq_self_eq_true _
    simp (maxSteps:=9^7) only[↓qpre,aAb,aAe,aAc,m0,m1]
    (repeat refine And.intro (by first|omega|(unfold inI64;omega)) ?_)
    refine hQ _ _ ?_
    clear hQ hT hT' m0 m1 e1
    subst hxy
    have c0:=(HW.out.cell (p:=⟨ba,oa+i,none⟩) hba).trans hacell
    generalize wr.drew=w5 at *
    have HW1:=hid (HW.out.alloc HW.out.size (.cells #[.int .i64 1,.string x] 193))
    have HG1:=hid (HG.out.alloc (.cells #[.int .i64 1,.string x] 193))
    have HO1:=hid (HO.out.alloc (.cells #[.int .i64 1,.string x] 193))
    clear HW HG HO
    go_wp2_with (at_builtin;refine aAn rfl (.tmp 71) (.tmp 77) 190 rfl aHe rfl rfl HO1.out (aPr _ ⟨1,x⟩) (aFd _) (by unfold maxLen;omega) (by omega) HW1.out.size ?_;intro v7 w7 ho7 hg7 hv7;have HO7:=hid ho7;have HW7:=hid (HW1.out.grown hg7 HW1.out.size (fun g hg=>(HO1.out.lt g hg).1));have HG7:=hid (HG1.out.app hg7 hv7);clear ho7 hg7 hv7 HO1 HW1 HG1)
    go_roundw
    case rel=>
     refine ⟨i+1,q+1,d++[⟨1,x⟩],by omega,by omega,by go_num,by go_num,HW7,HG7,?_,?_,by simp;omega⟩
     ·rw[<-List.append_assoc,List.flatMap_append,List.length_append,<-Nat.add_assoc];exact HO7
     have h1:=HD.out
     rw[bGw HX.out HY.out rfl] at h1
     unfold Hid
     rw[List.append_assoc]
     exact h1
    simp[intOf];omega
   have e1:=aBw hxy
   simp (maxSteps:=9^7) only[↓qpre,aAb,aAe,aAc,m0,m1]
   (repeat refine And.intro (by first|omega|(unfold inI64;omega)) ?_)
   refine hQ _ _ ?_
   clear hQ hT hT' m0 m1 e1
   have HXY:=hid hxy
   have l1:(i+1)*W+q<N:=by rw[<-HNW.out.2];exact aGt (n:=n1) (by omega) (by have:=HNW.out.1;omega)
   have l2:i*W+(q+1)<N:=by rw[<-HNW.out.2];exact aGt (n:=n1) (by omega) (by have:=HNW.out.1;omega)
   have gL:(gridL a1 b1 0 0)[(i+1)*W+q]? = some (.int .i32 (cel a1 b1 (i+1) q:Nat)):=by
    have:=aFm (a:=a1) (b:=b1) (i:=0) (j:=0) (p:=i+1) (q:=q) (by have:=HA.out;omega) (by have:=HB.out;omega) (.inl (by omega))
    rw[HB.out,HNW.out.1] at this;exact this
   have gR:(gridL a1 b1 0 0)[i*W+(q+1)]? = some (.int .i32 (cel a1 b1 i (q+1):Nat)):=by
    have:=aFm (a:=a1) (b:=b1) (i:=0) (j:=0) (p:=i) (q:=q+1) (by have:=HA.out;omega) (by have:=HB.out;omega) (by omega)
    rw[HB.out,HNW.out.1] at this;exact this
   have hG1:=aMi (w:=wr.drew) (i:=i+1) (j:=q) (W:=W) (N:=N) (g:=g) (I:=(i:Int)+1) (by push_cast;rfl) rfl rfl (by omega) l1 HG.out.c0 HG.out.c1 (HG.out.cell _ _ gL)
   have HG2:=hid (aMi (w:=wr.drew.drew) (i:=i) (j:=q+1) (W:=W) (N:=N) (g:=g) (J:=(q:Int)+1) rfl (by push_cast;rfl) rfl (by omega) l2 HG.out.drew.c0 HG.out.drew.c1 (HG.out.drew.cell _ _ gR))
   clear gL gR l1 l2
   go_wp2_with fail
   refine hG1.mono ?_
   rintro e w5 ⟨rfl,rfl⟩
   clear hG1
   go_wp2_with fail
   refine HG2.out.mono ?_
   rintro e w6 ⟨rfl,rfl⟩
   clear HG2
   have HW:=hid HW.out.drew.drew
   have HG:=hid HG.out.drew.drew
   have HO:=hid HO.out.drew.drew
   have c0:=(HW.out.cell (p:=⟨ba,oa+i,none⟩) hba).trans hacell
   have c1:=(HW.out.cell (p:=⟨bb,ob+q,none⟩) hbb).trans hbcell
   generalize wr.drew.drew.drew=w5 at *
   by_cases hc:cel a1 b1 i (q+1)<=cel a1 b1 (i+1) q
   ·have HC:=hid hc
    have HW1:=hid (HW.out.alloc HW.out.size (.cells #[.int .i64 2,.string x] 193))
    have HG1:=hid (HG.out.alloc (.cells #[.int .i64 2,.string x] 193))
    have HO1:=hid (HO.out.alloc (.cells #[.int .i64 2,.string x] 193))
    clear HW HG HO
    have hc2:decide ((cel a1 b1 (i+1) q:Nat)>=((cel a1 b1 i (q+1):Nat):Int))=true:=decide_eq_true (by omega)
    go_wp2_with (at_builtin;refine aAn rfl (.tmp 95) (.tmp 101) 190 rfl aHe rfl rfl HO1.out (aPr _ ⟨2,x⟩) (aFd _) (by unfold maxLen;omega) (by omega) HW1.out.size ?_;intro v7 w7 ho7 hg7 hv7;have HO7:=hid ho7;have HW7:=hid (HW1.out.grown hg7 HW1.out.size (fun g hg=>(HO1.out.lt g hg).1));have HG7:=hid (HG1.out.app hg7 hv7);clear ho7 hg7 hv7 HO1 HW1 HG1)
    go_roundw
    case rel=>
     refine ⟨i+1,q,d++[⟨2,x⟩],by omega,by omega,by go_num,by go_num,HW7,HG7,?_,?_,by simp;omega⟩
     ·rw[<-List.append_assoc,List.flatMap_append,List.length_append,<-Nat.add_assoc];exact HO7
     have h1:=HD.out
     rw[bHy HX.out HY.out HXY.out HC.out] at h1
     unfold Hid
     rw[List.append_assoc]
     exact h1
    simp[intOf];omega
   have HC:=hid hc
   have HW1:=hid (HW.out.alloc HW.out.size (.cells #[.int .i64 3,.string y] 193))
   have HG1:=hid (HG.out.alloc (.cells #[.int .i64 3,.string y] 193))
   have HO1:=hid (HO.out.alloc (.cells #[.int .i64 3,.string y] 193))
   clear HW HG HO
   go_wp2_with (at_builtin;refine aAn rfl (.tmp 51) (.tmp 57) 190 rfl aHe rfl rfl HO1.out (aPr _ ⟨3,y⟩) (aFd _) (by unfold maxLen;omega) (by omega) HW1.out.size ?_;intro v7 w7 ho7 hg7 hv7;have HO7:=hid ho7;have HW7:=hid (HW1.out.grown hg7 HW1.out.size (fun g hg=>(HO1.out.lt g hg).1));have HG7:=hid (HG1.out.app hg7 hv7);clear ho7 hg7 hv7 HO1 HW1 HG1)
   go_roundw
   case rel=>
    refine ⟨i,q+1,d++[⟨3,y⟩],by omega,by omega,by go_num,by go_num,HW7,HG7,?_,?_,by simp;omega⟩
    ·rw[<-List.append_assoc,List.flatMap_append,List.length_append,<-Nat.add_assoc];exact HO7
    have h1:=HD.out
    rw[bIm HX.out HY.out HXY.out HC.out] at h1
    unfold Hid
    rw[List.append_assoc]
    exact h1
   simp[intOf];omega
  have hqm:q=m1:=by omega
  subst hqm
  have HD2:Hid (scrT a1 b1=d++evs 2 (a1.drop i)):=by
   have h:=HD.out
   rw[List.drop_of_length_le (l:=b1) (by rw[HB.out];exact Nat.le_refl _),aTt] at h
   exact h
  clear HD
  go_wp2
  obtain ⟨A6,c6,rfl,hc6⟩:=aAd HO.out
  have HR6:=hid (Rd.of_own HO.out.drew hc6)
  have HW3:=hid HW.out.drew
  clear HO HG HW
  refine aAh (fun w'=>Below w.heap.size w w') [(true,0),(true,1),(true,2),(true,3),(true,5),(true,6),(true,7),(false,4),(false,8),(false,9),(false,10),(true,11)] mixed (by kernel_rfl) HW3.out ?_
  intro T M Q hT hT' hM hQ
  clear hM
  simp only[qcmp]
  simp (maxSteps:=9^7) only[↓qpre,aAb,aAe,aAc]
  (repeat refine And.intro (by first|omega|(unfold inI64;omega)) ?_)
  simp only[sliced,Nat.mul_one]
  have hr1:=hra.backS (k:=i) (by omega)
  have hr2:=hrb.backS (k:=q) (by omega)
  generalize (if c1=i then A1 else Option.map (fun x=>x.add i) A1)=A11 at *
  generalize (if c2=q then B1 else Option.map (fun x=>x.add q) B1)=B11 at *
  have hE1:=aDk (k:=2) (w:=wr.drew) (by omega) (hr1.to HW3.out HW3.out.size)
  have hE2:=fun (w4:World) (h:Below w.heap.size w w4)=>aDk (k:=3) (w:=w4) (by omega) (hr2.to h h.size)
  refine aAi (by kernel_rfl) hE1 rfl rfl ?_
  rintro e w4 ⟨v7,rfl,ho7,hb4⟩
  rw[aBq,List.length_drop,HA.out] at ho7
  obtain ⟨A7,c7,rfl,hc7⟩:=aAd ho7
  have HR7:=hid (Rd.of_own ho7 hc7)
  have HW4:=hid (HW3.out.trans (hb4.mono HW3.out.size))
  have HR6:=hid (HR6.out.to hb4 hb4.size)
  clear ho7 hb4 hE1
  refine ⟨_,rfl,hT _ HW4.out,?_⟩
  simp (maxSteps:=9^7) only[aAb,aAc]
  refine aAi (by kernel_rfl) (hE2 _ HW4.out) rfl rfl ?_
  rintro e w5 ⟨v8,rfl,ho8,hb5⟩
  rw[aBq,List.length_drop,HB.out] at ho8
  obtain ⟨A8,c8,rfl,hc8⟩:=aAd ho8
  have HR8:=hid (Rd.of_own ho8 hc8)
  have HW5:=hid (HW4.out.trans (hb5.mono HW4.out.size))
  have HR6:=hid (HR6.out.to hb5 hb5.size)
  have HR7:=hid (HR7.out.to hb5 hb5.size)
  clear ho8 hb5 hE2
  refine ⟨_,rfl,hT _ HW5.out,?_⟩
  simp (maxSteps:=9^7) only[aAb,aAc]
  have HW6:=hid (HW5.out.alloc HW5.out.size (.cells #[.slice A6 (P+d.length) c6,.slice A7 (n1-i) c7,.slice A8 (q-q) c8] 190))
  refine aLl (aLi bHk rfl rfl rfl _) rfl rfl rfl ⟨hT _ HW6.out,?_⟩
  simp (maxSteps:=9^7) only[aAb,aAc]
  have hLL:RdLL (w5.alloc (.cells #[.slice A6 (P+d.length) c6,.slice A7 (n1-i) c7,.slice A8 (q-q) c8] 190)) (w5.alloc (.cells #[.slice A6 (P+d.length) c6,.slice A7 (n1-i) c7,.slice A8 (q-q) c8] 190)).heap.size w5.heap.size [L0++d,evs 2 (a1.drop i),evs 3 (b1.drop q)]:=by
   have h0:=HR6.out;have h1:=HR7.out;have h2:=HR8.out
   rw[show P+d.length=(L0++d).length from HLEN.out.symm] at h0 ⊢
   rw[show (n1-i)=(evs 2 (a1.drop i)).length by rw[aBq,List.length_drop,HA.out]] at h1 ⊢
   rw[show (q-q)=(evs 3 (b1.drop q)).length by rw[aBq,List.length_drop,HB.out]] at h2 ⊢
   exact rdLL3 h0 h1 h2
  have HC:=hid (aHd (q:=3) (c:=3) rfl (by omega) (by simp) (by simp only[List.flatten_cons,List.flatten_nil,List.length_append,List.length_nil,aBq,List.length_drop,HL0.out,HA.out,HB.out];omega) hLL)
  clear hLL
  refine aAi (by kernel_rfl) HC.out rfl rfl ?_
  intro e w7 h7
  have H7:=hid h7
  obtain ⟨v9,rfl,_,hb9⟩:=h7
  refine ⟨_,rfl,hT _ (HW6.out.trans (hb9.mono HW6.out.size)),?_⟩
  simp (maxSteps:=9^7) only[↓qpre,aAb,aAc]
  refine hQ _ _ ?_
  clear hQ hT hT' hb9
  go_wp2
  go_ret
  refine H7.out.up HW6.out ?_
  rw[HR.out,HD2.out]
  simp[evs,HB.out]
 have hin:i=n1:=by omega
 subst hin
 have HD2:Hid (scrT a1 b1=d++evs 3 (b1.drop q)):=by
  have h:=HD.out
  rw[List.drop_of_length_le (l:=a1) (by rw[HA.out];exact Nat.le_refl _),aOh] at h
  exact h
 clear HD
 go_wp2
 obtain ⟨A6,c6,rfl,hc6⟩:=aAd HO.out
 have HR6:=hid (Rd.of_own HO.out.drew hc6)
 have HW3:=hid HW.out.drew
 clear HO HG HW
 refine aAh (fun w'=>Below w.heap.size w w') [(true,0),(true,1),(true,2),(true,3),(true,5),(true,6),(true,7),(false,4),(false,8),(false,9),(false,10),(true,11)] mixed (by kernel_rfl) HW3.out ?_
 intro T M Q hT hT' hM hQ
 clear hM
 simp only[qcmp]
 simp (maxSteps:=9^7) only[↓qpre,aAb,aAe,aAc]
 (repeat refine And.intro (by first|omega|(unfold inI64;omega)) ?_)
 simp only[sliced,Nat.mul_one]
 have hr1:=hra.backS (k:=i) (by omega)
 have hr2:=hrb.backS (k:=q) (by omega)
 generalize (if c1=i then A1 else Option.map (fun x=>x.add i) A1)=A11 at *
 generalize (if c2=q then B1 else Option.map (fun x=>x.add q) B1)=B11 at *
 have hE1:=aDk (k:=2) (w:=wr.drew) (by omega) (hr1.to HW3.out HW3.out.size)
 have hE2:=fun (w4:World) (h:Below w.heap.size w w4)=>aDk (k:=3) (w:=w4) (by omega) (hr2.to h h.size)
 refine aAi (by kernel_rfl) hE1 rfl rfl ?_
 rintro e w4 ⟨v7,rfl,ho7,hb4⟩
 rw[aBq,List.length_drop,HA.out] at ho7
 obtain ⟨A7,c7,rfl,hc7⟩:=aAd ho7
 have HR7:=hid (Rd.of_own ho7 hc7)
 have HW4:=hid (HW3.out.trans (hb4.mono HW3.out.size))
 have HR6:=hid (HR6.out.to hb4 hb4.size)
 clear ho7 hb4 hE1
 refine ⟨_,rfl,hT _ HW4.out,?_⟩
 simp (maxSteps:=9^7) only[aAb,aAc]
 refine aAi (by kernel_rfl) (hE2 _ HW4.out) rfl rfl ?_
 rintro e w5 ⟨v8,rfl,ho8,hb5⟩
 rw[aBq,List.length_drop,HB.out] at ho8
 obtain ⟨A8,c8,rfl,hc8⟩:=aAd ho8
 have HR8:=hid (Rd.of_own ho8 hc8)
 have HW5:=hid (HW4.out.trans (hb5.mono HW4.out.size))
 have HR6:=hid (HR6.out.to hb5 hb5.size)
 have HR7:=hid (HR7.out.to hb5 hb5.size)
 clear ho8 hb5 hE2
 refine ⟨_,rfl,hT _ HW5.out,?_⟩
 simp (maxSteps:=9^7) only[aAb,aAc]
 have HW6:=hid (HW5.out.alloc HW5.out.size (.cells #[.slice A6 (P+d.length) c6,.slice A7 (i-i) c7,.slice A8 (m1-q) c8] 190))
 refine aLl (aLi bHk rfl rfl rfl _) rfl rfl rfl ⟨hT _ HW6.out,?_⟩
 simp (maxSteps:=9^7) only[aAb,aAc]
 have hLL:RdLL (w5.alloc (.cells #[.slice A6 (P+d.length) c6,.slice A7 (i-i) c7,.slice A8 (m1-q) c8] 190)) (w5.alloc (.cells #[.slice A6 (P+d.length) c6,.slice A7 (i-i) c7,.slice A8 (m1-q) c8] 190)).heap.size w5.heap.size [L0++d,evs 2 (a1.drop i),evs 3 (b1.drop q)]:=by
  have h0:=HR6.out;have h1:=HR7.out;have h2:=HR8.out
  rw[show P+d.length=(L0++d).length from HLEN.out.symm] at h0 ⊢
  rw[show (i-i)=(evs 2 (a1.drop i)).length by rw[aBq,List.length_drop,HA.out]] at h1 ⊢
  rw[show (m1-q)=(evs 3 (b1.drop q)).length by rw[aBq,List.length_drop,HB.out]] at h2 ⊢
  exact rdLL3 h0 h1 h2
 have HC:=hid (aHd (q:=3) (c:=3) rfl (by omega) (by simp) (by simp only[List.flatten_cons,List.flatten_nil,List.length_append,List.length_nil,aBq,List.length_drop,HL0.out,HA.out,HB.out];omega) hLL)
 clear hLL
 refine aAi (by kernel_rfl) HC.out rfl rfl ?_
 intro e w7 h7
 have H7:=hid h7
 obtain ⟨v9,rfl,_,hb9⟩:=h7
 refine ⟨_,rfl,hT _ (HW6.out.trans (hb9.mono HW6.out.size)),?_⟩
 simp (maxSteps:=9^7) only[↓qpre,aAb,aAc]
 refine hQ _ _ ?_
 clear hQ hT hT' hb9
 go_wp2
 go_ret
 refine H7.out.up HW6.out ?_
 rw[HR.out,HD2.out]
 simp[evs,HA.out]
def ren167:Go.Shelf.Ren:=⟨fun | 167=>225 | n=>Tryz.lays156_ren.f n,Tryz.lays156_ren.t,Tryz.lays156_ren.g⟩
theorem extra167:Builder.Extra Tryz.prog ren167:={
 sizeBuilder:=by kernel_rfl
 liesBuilder:=by kernel_rfl
 t5:=Tryz.underlying5
 a5:=Tryz.isAgg5
 z5:=Tryz.sizeOf5
 v5:=Tryz.zeroValue5
 infoByte:=by kernel_rfl
 cellsByte:=by kernel_rfl
 sizeByte:=by kernel_rfl
 neB5:=by decide }
end Go.Proofs.YtohblmepajhpaaaGreatDoor
namespace Go.Proofs.YtohblmepajhpaaaGreatDoor
theorem aLn:∀{s:Bs},10∉s->splitL s=if s=[] then [] else [s]
 | [],_=>rfl
 | x::s,h=>by
  have hx:¬x=10:=fun e=>h (by simp[e])
  have hs:10∉s:=fun e=>h (List.mem_cons_of_mem _ e)
  rw[splitL,if_neg hx,aLn hs]
  by_cases e:s=[]
  ·subst e;rfl
  rw[if_neg e,if_neg (by simp)]
theorem aOi:∀{u v:Bs},10∉u->splitL (u++10::v)=(u++[10])::splitL v
 | [],v,_=>by rw[List.nil_append,splitL,if_pos rfl];rfl
 | x::u,v,h=>by
  have hx:¬x=10:=fun e=>h (by simp[e])
  have hu:10∉u:=fun e=>h (List.mem_cons_of_mem _ e)
  rw[List.cons_append,splitL,if_neg hx,aOi hu];rfl
theorem aGx:∀{s:Bs} {l:Bs},l∈splitL s->l≠[]
 | [],l,h=>by cases h
 | x::s,l,h=>by
  rw[splitL] at h
  split at h
  ·rcases List.mem_cons.1 h with rfl | h
   ·simp
   exact aGx h
  split at h
  ·simp only[List.mem_singleton] at h;subst h;simp
  rename_i m ms hm
  rcases List.mem_cons.1 h with rfl | h
  ·simp
  exact aGx (s:=s) (by rw[hm];exact List.mem_cons_of_mem _ h)
theorem aOu:∀(s:Bs),(splitL s).length<=s.length
 | []=>by simp[splitL]
 | x::s=>by
  have ih:=aOu s
  rw[splitL]
  split
  ·simp only[List.length_cons];omega
  split
  ·simp
  rename_i m ms hm
  rw[hm] at ih
  simp only[List.length_cons] at ih ⊢
  omega
theorem aCa (s:ByteArray):(linesF s).length<=s.size:=by
 rw[linesF,List.length_map];exact aOu _
theorem bDu {s l:ByteArray}(h:l∈linesF s):l≠⟨#[]⟩:=by
 obtain ⟨x,hx,rfl⟩:=List.mem_map.1 h
 intro e
 have h1:=aGx hx
 have h2:(ofB x).data.toList=[]:=by rw[e]
 have h3:(ofB x).data.toList=x:=by simp[ofB]
 rw[h3] at h2
 exact h1 h2
end Go.Proofs.YtohblmepajhpaaaGreatDoor
namespace Go.Proofs.YtohblmepajhpaaaGreatDoor
open Go.RowKit
theorem aNq:∀{a:Bs} (b:Bs),10∉a->Lib.index (a++10::b) [10]=a.length
 | [],b,_=>by rw[List.nil_append,Lib.index];simp[List.isPrefixOf]
 | c::cs,b,h=>by
  have hc:c≠10:=fun e=>h (by simp[e])
  have hc2:((10:UInt8) == c)=false:=by simp;exact fun e=>hc e.symm
  have ih:=aNq (a:=cs) b fun hm=>h (List.mem_cons_of_mem _ hm)
  rw[List.cons_append,Lib.index,ih]
  simp[List.isPrefixOf,hc2]
theorem aKe:∀(k:Nat) (s:Bs),s.count 10=k->Lib.splitK [10] 1 k s=splitL s++if s=[]\/s.getLast? = some 10 then [[]] else []
 | 0,s,h=>by
  have hm:=List.count_eq_zero.1 h
  rw[aLn hm]
  by_cases e:s=[]
  ·subst e;rfl
  rw[if_neg e,if_neg]
  ·rfl
  rintro (h1 | h1)
  ·exact e h1
  exact hm (List.mem_of_getLast? h1)
 | k+1,s,h=>by
  have hm:10∈s:=by rw[<-List.count_pos_iff];omega
  obtain ⟨a,b,rfl,ha⟩:=List.eq_append_cons_of_mem hm
  have hb:b.count 10=k:=by
   rw[List.count_append,List.count_cons_self,List.count_eq_zero.2 ha] at h;omega
  rw[aOi ha,Lib.splitK,aNq b ha,if_neg (by simp)]
  have e:((a.length:Int)).toNat=a.length:=by omega
  rw[e,List.length_singleton,List.take_append,List.drop_append]
  rw[List.take_of_length_le (by omega),List.drop_of_length_le (by omega),Nat.add_sub_cancel_left,List.nil_append]
  rw[show List.drop 1 (10::b)=b from rfl,aKe k b hb,show List.take 1 (10::b)=[10] from rfl,List.cons_append]
  congr 2
  have h1:(a++10::b=[]\/(a++10::b).getLast? = some 10)↔(b=[]\/b.getLast? = some 10):=by
   cases b with
   | nil=>simp
   | cons y b=>simp[List.getLast?_append,List.getLast?_cons_cons]
  by_cases h2:b=[]\/b.getLast? = some 10
  ·rw[if_pos h2,if_pos (h1.2 h2)]
  rw[if_neg h2,if_neg (fun h=>h2 (h1.1 h))]
theorem bGk (x:ByteArray):ofB x.data.toList=x:=by cases x;simp[ofB]
theorem aUy (s:ByteArray):(Lib.splitB ⟨#[10]⟩ 1 (Lib.countB s ⟨#[10]⟩) s=linesF s++[⟨#[]⟩])\/(Lib.splitB ⟨#[10]⟩ 1 (Lib.countB s ⟨#[10]⟩) s=linesF s/\linesF s≠[]):=by
 have h:=Lib.splitB_data ⟨#[10]⟩ 1 (Lib.countB s ⟨#[10]⟩) s
 have hc:s.data.toList.count 10=Lib.countB s ⟨#[10]⟩:=by rw[<-Lib.count_one]
 have hk:Lib.splitK (⟨#[10]⟩:ByteArray).data.toList 1 (Lib.countB s ⟨#[10]⟩) s.data.toList=_:=aKe _ _ hc
 rw[hk] at h
 have h2:Lib.splitB ⟨#[10]⟩ 1 (Lib.countB s ⟨#[10]⟩) s=(splitL s.data.toList++if s.data.toList=[]\/s.data.toList.getLast? = some 10 then [[]] else []).map ofB:=by
  rw[<-h,List.map_map]
  rw[show (ofB ∘ fun x:ByteArray=>x.data.toList)=id from funext fun x=>bGk x,List.map_id]
 rw[h2,List.map_append]
 by_cases e:s.data.toList=[]\/s.data.toList.getLast? = some 10
 ·rw[if_pos e];exact .inl rfl
 rw[if_neg e]
 refine .inr ⟨by simp[linesF],fun e2=>e (.inl ?_)⟩
 have h3:=aGr s.data.toList
 have h4:splitL s.data.toList=[]:=List.map_eq_nil_iff.1 e2
 rw[h4] at h3
 exact h3.symm
theorem aNk {s:ByteArray}{w:World}(hs:s.size<4294967281)(hm:Lm w) :
  Calls Tryz.prog 219 #[.string s,.string ⟨#[10]⟩] w fun e w'=>e=.returned (.slice (some ⟨w.heap.size,0,none⟩) (Lib.countB s ⟨#[10]⟩+1:Nat) (Lib.countB s ⟨#[10]⟩+1))/\w'=w.alloc (.cells ((Lib.splitB ⟨#[10]⟩ 1 (Lib.countB s ⟨#[10]⟩) s).map Value.string).toArray 9):=by
 obtain ⟨m,hm⟩:=hm
 have hle:=Lib.countB_le ⟨#[10]⟩ (by decide) s.size s (Nat.le_refl _)
 have hlen:=Lib.splitB_all ⟨#[10]⟩ (by decide) 1 _ s rfl
 have c:=Tryz.strings_genSplit s ⟨#[10]⟩ 1 (-1) (Lib.countB s ⟨#[10]⟩+1) m w hs hm (by decide) (by decide) (by decide) (by decide) (by rw[if_pos (by decide)];omega)
 rw[Nat.add_sub_cancel,hlen] at c
 have e2:Lib.cellsOf (Lib.splitB ⟨#[10]⟩ 1 (Lib.countB s ⟨#[10]⟩) s) (Lib.countB s ⟨#[10]⟩+1)=((Lib.splitB ⟨#[10]⟩ 1 (Lib.countB s ⟨#[10]⟩) s).map Value.string).toArray:=by rw[<-hlen];exact Lib.cellsOf_full _
 rw[e2] at c
 generalize Lib.splitB ⟨#[10]⟩ 1 (Lib.countB s ⟨#[10]⟩) s=ps at *
 generalize Lib.countB s ⟨#[10]⟩=k at *
 go_enter Tryz.func219,Tryz.ntmps219
 go_wp2_with fail
 refine c.mono ?_
 rintro e w1 ⟨rfl,rfl⟩
 go_wp2
 go_ret
 exact ⟨rfl,rfl⟩
def LinesIs (L:List ByteArray)(w:World)(e:Ending) (w':World):Prop:=
 ∃A c,e=.returned (.slice A L.length c)/\Rd w' w'.heap.size 1 A L.length c (L.map .string)/\Below w.heap.size w w'
theorem aFx {s:ByteArray}{w:World}(hs:s.size<4294967281)(hm:Lm w) :
  Calls Tryz.prog 181 #[.string s] w (LinesIs (linesF s) w):=by
 have hle:=Lib.countB_le ⟨#[10]⟩ (by decide) s.size s (Nat.le_refl _)
 have hlen:=Lib.splitB_all ⟨#[10]⟩ (by decide) 1 _ s rfl
 have hsp:=aUy s
 have hne:∀l∈linesF s,l≠⟨#[]⟩:=fun l h=>bDu h
 have c:=aNk hs hm
 generalize Lib.splitB ⟨#[10]⟩ 1 (Lib.countB s ⟨#[10]⟩) s=ps at *
 generalize Lib.countB s ⟨#[10]⟩=k at *
 generalize linesF s=L at *
 go_enter Tryz.func181,Tryz.ntmps181
 go_wp2_with fail
 refine c.mono ?_
 rintro e w1 ⟨rfl,rfl⟩
 clear c
 have hb:Below w.heap.size w (w.alloc (.cells (ps.map Value.string).toArray 9)):=(Below.refl _ _).alloc (Nat.le_refl _) _
 have hcell:∀(j:Nat) (x:ByteArray),ps[j]? = some x->(w.alloc (.cells (ps.map Value.string).toArray 9)).cell? ⟨w.heap.size,j,none⟩=some (.string x):=fun j x hx=>by
  rw[World.cell?,heap_alloc_new];simp[hx]
 have hz:(w.alloc (.cells (ps.map Value.string).toArray 9)).heap.size=w.heap.size+1:=by simp
 have HB:=hid hb
 have HZ:=hid hz
 have HC:=hid hcell
 generalize w.alloc (.cells (ps.map Value.string).toArray 9)=w1 at *
 clear hb hz hcell
 have HR:Hid (Rd w1 w1.heap.size 1 (some ⟨w.heap.size,0,none⟩) (k+1) (k+1) (ps.map .string)):=by
  refine ⟨by rw[List.length_map,hlen];omega,Nat.le_refl _,fun _=>⟨_,0,rfl,by rw[HZ.out];omega,fun j u hu=>?_⟩⟩
  rw[List.getElem?_map] at hu
  cases h:ps[j]? with
  | none=>rw[h] at hu;cases hu
  | some x=>rw[h] at hu;cases hu;rw[Nat.zero_add];exact HC.out j x h
 have i1:((k+1:Nat):Int)-1=(k:Int):=by omega
 rcases hsp with rfl | ⟨rfl,hL⟩
 ·have hk:L.length=k:=by simpa using hlen
  have c0:w1.cell? ⟨w.heap.size,k,none⟩=some (.string ⟨#[]⟩):=HC.out k _ (by rw[<-hk];simp)
  have HK:=hid hk
  clear hk hlen hne HC
  go_wp2
  go_ret
  refine ⟨some ⟨w.heap.size,0,none⟩,k+1,by rw[HK.out];rfl,?_,HB.out⟩
  have h:=HR.out.frontS (k:=k) (by omega)
  rw[List.take_left' HK.out] at h
  rw[HK.out]
  exact h
 have hk:ps.length=k+1:=hlen
 obtain ⟨x,hx⟩:∃x,ps[k]? = some x:=⟨_,List.getElem?_eq_getElem (by omega)⟩
 have c0:w1.cell? ⟨w.heap.size,k,none⟩=some (.string x):=HC.out k x hx
 have e0:=aBw (hne x (List.mem_of_getElem? hx))
 have e1:x.toList.isEmpty=false:=by
  cases h:x.toList with
  | nil=>rw[h] at e0;simp at e0
  | cons=>rfl
 have HK:=hid hk
 clear hk hlen HC hx hL
 have HNE:=hid hne
 clear hne
 go_wp2
 go_ret
 refine ⟨some ⟨w.heap.size,0,none⟩,k+1,by rw[HK.out];rfl,?_,HB.out⟩
 rw[HK.out]
 exact HR.out
theorem bGn (l:List ByteArray):(⟨(Lib.join (l.map (·.data.toList)) []).toArray⟩:ByteArray)=joinF l:=by
 have h:∀l:List Bs,Lib.join l []=l.flatten:=by
  intro l
  induction l with
  | nil=>rfl
  | cons x l ih=>
   cases l with
   | nil=>simp[Lib.join]
   | cons y l=>
    have ih':List.intercalate [] (y::l)=(y::l).flatten:=ih
    show List.intercalate [] (x::y::l)=_
    rw[List.intercalate_cons_cons,ih'];simp
 rw[h,joinF,ofB,List.flatMap_def]
theorem aWs {A:Option Addr}{n c:Nat}{l:List ByteArray}{w:World}(hn:n<=140737488355328)(h:Rd w w.heap.size 1 A n c (l.map .string))(hs:(joinF l).size<=140737488355328) :
  Calls Tryz.prog 183 #[.slice A n c] w fun e w'=>e=.returned (.string (joinF l))/\Below w.heap.size w w':=by
 have hl:l.length=n:=by have:=h.len;rw[List.length_map] at this;omega
 have hj:=bGn l
 have hC:Calls Tryz.prog 222 #[.slice A n c,.string ⟨#[]⟩] w fun e w'=>e=.returned (.string (joinF l))/\Below w.heap.size w w':=by
  cases n with
  | zero=>
   have:l=[]:=List.length_eq_zero_iff.1 hl
   subst this
   refine (Tryz.strings_Join_none A c ⟨#[]⟩ w).mono ?_
   rintro e w' ⟨rfl,rfl⟩
   exact ⟨rfl,Below.refl _ _⟩
  | succ n=>
   obtain ⟨b,o,rfl,hb,hc⟩:=h.at_ (by omega)
   rw[<-hl] at hn h ⊢
   have:=Tryz.strings_Join b o c l ⟨#[]⟩ w (fun j x hx=>hc j _ (by rw[List.getElem?_map,hx];rfl)) hb hn h.cap (by
    have e:(Lib.join (l.map (·.data.toList)) (⟨#[]⟩:ByteArray).data.toList).length=(joinF l).size:=by rw[<-hj];rfl
    rw[e];exact hs)
   rw[<-hj]
   exact this
 generalize joinF l=s at *
 go_enter Tryz.func183,Tryz.ntmps183
 go_wp2_with fail
 refine hC.mono ?_
 rintro e w1 ⟨rfl,hb⟩
 go_wp2
 go_ret
 exact ⟨rfl,hb⟩
def FreshS (l:List ByteArray)(w:World)(e:Ending) (w':World):Prop:=
 ∃A c,e=.returned (.slice A l.length c)/\Rd w' w'.heap.size 1 A l.length c (l.map .string)/\(∀a,A=some a->w.heap.size<=a.block)/\Below w.heap.size w w'
theorem aTr {l:List ByteArray} {w w':World}{v:Value}(h:w'.ownsRow w.heap.size 9 1 v l.length (l.map .string))(hb:Below w.heap.size w w'):FreshS l w (.returned v) w':=by
 obtain ⟨A,c,rfl,hc⟩:=aAd h
 refine ⟨A,c,rfl,Rd.of_own h hc,fun a ha=>?_,hb⟩
 subst ha
 exact (h.lt a.block (by rcases h.2 with ⟨e,_⟩ | ⟨g,cap,cur,e,_⟩<;>first | (cases e;done) | (cases e;rfl))).1
theorem aGk {A:Option Addr}{c:Nat}{l:List ByteArray}{w:World}(hn:l.length<=1000000)(h:Rd w w.heap.size 1 A l.length c (l.map .string)) :
  Calls Tryz.prog 260 #[.slice A l.length c] w (FreshS l w):=by
 cases A with
 | none=>
  have h0:l.length=0:=by
   rcases Nat.eq_zero_or_pos l.length with h0 | h0
   ·exact h0
   obtain ⟨b,o,e,_⟩:=h.at_ h0;cases e
  refine (Tryz.slices_Clone_string_nil l.length c w).mono ?_
  rintro e w' ⟨rfl,rfl⟩
  have:l=[]:=List.length_eq_zero_iff.1 h0
  subst this
  refine ⟨none,0,rfl,Rd.none_ _ _ _,?_,Below.refl _ _⟩
  intro a ha
  cases ha
 | some a=>
  rcases Nat.eq_zero_or_pos l.length with h0 | h0
  ·have:l=[]:=List.length_eq_zero_iff.1 h0
   subst this
   refine (Tryz.slices_Clone_string_zero a c w).mono ?_
   rintro e w' ⟨v,rfl,h1,_,h2⟩
   exact aTr h1 h2
  obtain ⟨b,o,e,hb,hc⟩:=h.at_ h0
  injection e with e;subst e
  refine (Tryz.slices_Clone_string b o l.length c l w (Nat.le_refl _) (by omega) (fun j hj=>hc j _ (by simp[hj]))).mono ?_
  rintro e w' ⟨v,rfl,h1,_,h2⟩
  rw[List.take_of_length_le (Nat.le_refl _)] at h1
  exact aTr h1 h2
theorem aJo {A B:Option Addr}{n ca m cb:Nat}{xs ys:List ByteArray}{w:World}(hn:n<=17592186044416)(hm:m<=17592186044416)(h1:Rd w w.heap.size 1 A n ca (xs.map .string))(h2:Rd w w.heap.size 1 B m cb (ys.map .string)) :
  Calls Tryz.prog 289 #[.slice A n ca,.slice B m cb] w (BoolBelow (decide (xs=ys)) w):=by
 have hx:xs.length=n:=by have:=h1.len;rw[List.length_map] at this;omega
 have hy:ys.length=m:=by have:=h2.len;rw[List.length_map] at this;omega
 by_cases hnm:n=m
 ·subst hnm
  rcases Nat.eq_zero_or_pos n with h0 | h0
  ·subst h0
   refine (Tryz.slices_Equal_string_empty A B ca 0 cb w (by omega)).mono ?_
   rintro e w' ⟨rfl,rfl⟩
   rw[List.length_eq_zero_iff.1 hx,List.length_eq_zero_iff.1 hy]
   exact ⟨rfl,Below.refl _ _⟩
  obtain ⟨b1,o1,rfl,_,hc1⟩:=h1.at_ h0
  obtain ⟨b2,o2,rfl,_,hc2⟩:=h2.at_ h0
  refine (Tryz.slices_Equal_string b1 o1 n ca b2 o2 n cb xs ys w (by omega) (by omega) (by omega) (by omega) (fun j hj=>hc1 j _ (by simp[hj])) (fun j hj=>hc2 j _ (by simp[hj]))).mono ?_
  rintro e w' ⟨rfl,q,rfl⟩
  rw[List.take_of_length_le (by omega),List.take_of_length_le (by omega)]
  exact ⟨rfl,⟨rfl,rfl,rfl,Nat.le_refl _,fun _ _=>rfl⟩⟩
 refine (Tryz.slices_Equal_string_lens A B n ca m cb w hnm).mono ?_
 rintro e w' ⟨rfl,rfl⟩
 exact ⟨aAf (decide_eq_false (fun e=>hnm (by rw[<-hx,<-hy,e]))).symm,Below.refl _ _⟩
theorem bGg {A0 A1 A2:Option Addr}{n0 c0 n1 c1 n2 c2:Nat}{K:Int}{b o t:List ByteArray}{w:World}(hn0:n0<=1000000)(hn1:n1<=1000000)(hn2:n2<=1000000)
  (h0:Rd w w.heap.size 1 A0 n0 c0 (b.map .string)) (h1:Rd w w.heap.size 1 A1 n1 c1 (o.map .string)) (h2:Rd w w.heap.size 1 A2 n2 c2 (t.map .string)) :
  Calls Tryz.prog 263 #[.agg #[.int .i64 K,.slice A0 n0 c0,.slice A1 n1 c1,.slice A2 n2 c2]] w fun e w'=>e=.returned (.int .i64 (kindF b o t))/\Below w.heap.size w w':=by
 have hb1:Below w.heap.size w (w.alloc (.cells #[.int .i64 K,.slice A0 n0 c0,.slice A1 n1 c1,.slice A2 n2 c2] 143)):=(Below.refl _ _).alloc (Nat.le_refl _) _
 have HB1:=hid hb1
 clear hb1
 have HC1:=hid (fun (w1:World) (hb:Below w.heap.size w w1)=>aJo (by omega) (by omega) (h1.to hb hb.size) (h0.to hb hb.size))
 have HC2:=hid (fun (w1:World) (hb:Below w.heap.size w w1)=>aJo (by omega) (by omega) (h2.to hb hb.size) (h0.to hb hb.size))
 have HC3:=hid (fun (w1:World) (hb:Below w.heap.size w w1)=>aJo (by omega) (by omega) (h1.to hb hb.size) (h2.to hb hb.size))
 have HF:=hid (show kindF b o t=if decide (o=b) then 3 else if decide (t=b) then 2 else if decide (o=t) then 4 else 5 by simp[kindF])
 clear h0 h1 h2
 generalize kindF b o t=F at *
 generalize decide (o=b)=d1 at *
 generalize decide (t=b)=d2 at *
 generalize decide (o=t)=d3 at *
 have hc0:∀(u:World),Below (w.heap.size+1) (w.alloc (.cells #[.int .i64 K,.slice A0 n0 c0,.slice A1 n1 c1,.slice A2 n2 c2] 143)) u->u.cell? ⟨w.heap.size,1,none⟩=some (.slice A0 n0 c0)/\u.cell? ⟨w.heap.size,2,none⟩=some (.slice A1 n1 c1)/\u.cell? ⟨w.heap.size,3,none⟩=some (.slice A2 n2 c2):=fun u hu=>by
  refine ⟨(hu.cell (p:=⟨w.heap.size,1,none⟩) (Nat.lt_succ_self _)).trans ?_,(hu.cell (p:=⟨w.heap.size,2,none⟩) (Nat.lt_succ_self _)).trans ?_,(hu.cell (p:=⟨w.heap.size,3,none⟩) (Nat.lt_succ_self _)).trans ?_⟩<;>(rw[World.cell?,heap_alloc_new];rfl)
 have HC0:=hid hc0
 clear hc0
 go_enter Tryz.func263,Tryz.ntmps263
 go_wp2_with fail
 refine (HC1.out _ HB1.out).mono ?_
 rintro e w1 ⟨rfl,hb1⟩
 have HB2:=hid (HB1.out.trans (hb1.mono HB1.out.size))
 have HX1:=hid (hb1.mono (show w.heap.size+1<=_ by simp))
 clear hb1 HC1
 obtain ⟨k1,k2,k3⟩:=HC0.out _ HX1.out
 cases d1
 ·go_wp2_with fail
  refine (HC2.out _ HB2.out).mono ?_
  rintro e w2 ⟨rfl,hb2⟩
  have HB3:=hid (HB2.out.trans (hb2.mono HB2.out.size))
  have HX2:=hid (HX1.out.trans (hb2.mono (Nat.le_trans (by simp) HX1.out.size)))
  clear hb2 HC2 k1 k2 k3
  obtain ⟨k1,k2,k3⟩:=HC0.out _ HX2.out
  cases d2
  ·go_wp2_with fail
   refine (HC3.out _ HB3.out).mono ?_
   rintro e w3 ⟨rfl,hb3⟩
   have HB4:=hid (HB3.out.trans (hb3.mono HB3.out.size))
   clear hb3 HC3 k1 k2 k3
   cases d3
   ·go_wp2
    go_ret
    exact ⟨by rw[HF.out];rfl,HB4.out⟩
   go_wp2
   go_ret
   exact ⟨by rw[HF.out];rfl,HB4.out⟩
  go_wp2
  go_ret
  exact ⟨by rw[HF.out];rfl,HB3.out⟩
 go_wp2
 go_ret
 exact ⟨by rw[HF.out];rfl,HB2.out⟩
end Go.Proofs.YtohblmepajhpaaaGreatDoor
