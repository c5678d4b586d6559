/- Contracts of functions that the law reaches, and plain laws of what they compute. -/
import Derived.Test.YtohblmepajhpaaaGreatDoorG19
set_option maxHeartbeats 8000000
set_option maxRecDepth 100000
open Go.Lib (hid)
namespace Go.Proofs.YtohblmepajhpaaaGreatDoor
open Go.RowKit
structure Mid (cs:List CL) (a m b s e mid:Nat):Prop where
 has:a<=s
 hsm:s<=m
 hme:m<=e
 heb:e<=b
 hmid:mid=s+(e-m)
 h1:s=a\/e=b\/∀x y,cs[s-1]? = some x->cs[e]? = some y->leC x y=true
 h2:s=m\/e=m\/∀x y,cs[s]? = some x->cs[e-1]? = some y->leC x y=false
theorem bIe {w:World}{g cap a m b:Nat}{cs:List CL}(h:RowC w g cap cs)(ham:a+1<m)(hmb:m+1<b)(hbn:b<=cs.length)(hx:Asc leC cs a m)(hy:Asc leC cs m b)
  (IH:∀(w:World) (a' m' b':Nat) (ds:List CL),b'-a'<b-a->RowC w g cap ds->a'<m'->m'<b'->b'<=ds.length->Asc leC ds a' m'->Asc leC ds m' b'->
   Calls Tryz.prog 200 #[.slice (some ⟨g,0,none⟩) ds.length cap,.int .i64 a',.int .i64 m',.int .i64 b',.func (.func 137) #[] #[]] w (SymIs w g cap a' m' b' ds)) :
  Calls Tryz.prog 200 #[.slice (some ⟨g,0,none⟩) cs.length cap,.int .i64 a,.int .i64 m,.int .i64 b,.func (.func 137) #[] #[]] w (SymIs w g cap a m b cs):=by
 have HC:=hid (show cs.length<=1000000 from h.few)
 have hcl:cs.length<=1000000:=HC.out
 have HXA:=hid hx
 have HYA:=hid hy
 have HI:=hid IH
 have HW:=hid h
 clear hx hy IH h
 obtain ⟨mid,hmid⟩:∃c:Nat,((a:Int)+(b:Int)) / 2=(c:Int):=⟨(a+b) / 2,by omega⟩
 have hm1:a+b<=2*mid+1:=by omega
 have hm2:2*mid<=a+b:=by omega
 have HMID:=hid hmid
 clear hmid
 obtain ⟨s0,r0,hsr⟩:∃s0 r0:Nat,(mid<m/\s0+b=mid+m/\r0=mid)\/(m<=mid/\s0=a/\r0=m):=by
  rcases Nat.lt_or_ge mid m with h | h
  ·exact ⟨mid+m-b,mid,.inl ⟨h,by omega,rfl⟩⟩
  exact ⟨a,m,.inr ⟨h,rfl,rfl⟩⟩
 have f1:a<=s0:=by omega
 have f2:r0<=m:=by omega
 have f3:r0<=mid:=by omega
 have f4:s0<=r0:=by omega
 have f5:mid+m<=s0+b:=by omega
 have F6:=hid (show s0=a\/s0+b=mid+m by omega)
 have F7:=hid (show r0=m\/r0=mid by omega)
 have b1:mid<b:=by omega
 have b2:a<mid:=by omega
 go_enter Tryz.func200,Tryz.ntmps200
 refine hsr.elim ?br1 ?br2
 case' br1=>
  rintro ⟨c1,c2,c3⟩
  have C2:=hid c2
  have C3:=hid c3
  clear c2 c3
  go_wp2
  rw[HMID.out,show (mid:Int)+(m:Int)-(b:Int)=(s0:Int) by have:=C2.out;omega]
  clear c1
 case' br2=>
  rintro ⟨c1,c2,c3⟩
  have C2:=hid c2
  have C3:=hid c3
  clear c2 c3
  go_wp2
  rw[HMID.out]
  clear c1
 all_goals
  have HV:=hid (And.intro hm1 (And.intro hm2 (And.intro b1 (And.intro b2 (And.intro ham hmb)))))
  clear hm1 hm2 b1 b2 ham hmb
  go_loopw[20,21] (fun iv jv wr=>∃s r:Nat,s0<=s/\s<=r/\r<=r0/\iv=.int .i64 s/\jv=.int .i64 r/\Hid (RowC wr g cap cs)/\Hid (w.grownBy wr (some g))/\Hid (s=s0\/∀x y,cs[s-1]? = some x->cs[mid+m-s]? = some y->leC x y=true)/\Hid (r=r0\/∀x y,cs[r]? = some x->cs[mid+m-1-r]? = some y->leC x y=false)) (fun i j _=>(intOf j).toNat-(intOf i).toNat)
  case atStart=>exact ⟨s0,r0,Nat.le_refl _,f4,Nat.le_refl _,by first | rfl | rw[C2.out],by rw[C3.out],HW,hid (World.grownBy.refl w _),hid (.inl rfl),hid (.inl rfl)⟩
  clear HW C2 C3
  obtain ⟨s,r,hs1,hsr,hr1,rfl,rfl,HW,HG,H1,H2⟩:=hrel
  by_cases hlt:s<r
  ·obtain ⟨c,hc⟩:∃c:Nat,((s:Int)+(r:Int)) / 2=(c:Int):=⟨(s+r) / 2,by omega⟩
   have hc1:s<=c:=by omega
   have hc2:c<r:=by omega
   have HCC:=hid hc
   have T1:((c:Nat):Int).toNat=c:=rfl
   clear hc
   obtain ⟨p,hp⟩:∃p:Nat,p=mid+m-1-c:=⟨_,rfl⟩
   have L1:=hid (show p<cs.length by omega)
   have L2:=hid (show c<cs.length by omega)
   have T2:=hid (show ((mid:Int)+(m:Int)-1-(c:Int)).toNat=p by omega)
   have HPP:=hid hp
   clear hp
   have hgl:=HW.out.lt
   obtain ⟨x,hx,x0,x1,x2⟩:=HW.out.get (k:=p) (by first | exact L1.out | exact L2.out)
   obtain ⟨y,hy,y0,y1,y2⟩:=HW.out.get (k:=c) (by first | exact L1.out | exact L2.out)
   have KC:∀u,Calls Tryz.prog 137 #[.agg #[.string x.path,.int .i64 x.kind,.string x.text],.agg #[.string y.path,.int .i64 y.kind,.string y.text]] u (IntB (cmpC x y) u):=fun u=>aLh
   have HX:=hid hx
   have HYY:=hid hy
   clear hx hy
   go_wp2
   rw[HCC.out]
   refine aAh (fun u=>Below wr.heap.size wr u) [(true,0),(true,1),(true,2),(true,3),(true,4),(true,5),(true,6),(true,7),(true,8),(true,9),(true,10),(false,11),(true,12),(true,13)] mixed (by kernel_rfl) (Below.refl _ _).drew ?_
   intro T M Q hT hT' hM hQ
   have m0:M ⟨g,(p)*3,none⟩=some (.string x.path):=hM _ _ fun w' hw=>(hw.cell (p:=⟨g,(p)*3,none⟩) hgl).trans x0
   have m1:M ⟨g,(p)*3+1,none⟩=some (.int .i64 x.kind):=hM _ _ fun w' hw=>(hw.cell (p:=⟨g,(p)*3+1,none⟩) hgl).trans x1
   have m2:M ⟨g,(p)*3+2,none⟩=some (.string x.text):=hM _ _ fun w' hw=>(hw.cell (p:=⟨g,(p)*3+2,none⟩) hgl).trans x2
   have m3:M ⟨g,(c)*3,none⟩=some (.string y.path):=hM _ _ fun w' hw=>(hw.cell (p:=⟨g,(c)*3,none⟩) hgl).trans y0
   have m4:M ⟨g,(c)*3+1,none⟩=some (.int .i64 y.kind):=hM _ _ fun w' hw=>(hw.cell (p:=⟨g,(c)*3+1,none⟩) hgl).trans y1
   have m5:M ⟨g,(c)*3+2,none⟩=some (.string y.text):=hM _ _ fun w' hw=>(hw.cell (p:=⟨g,(c)*3+2,none⟩) hgl).trans y2
   clear hM x0 x1 x2 y0 y1 y2
   simp only[qcmp]
   simp (maxSteps:=9^7) only[↓qpre,aAb,aAe,aAc,m0,m1,m2,m3,m4,m5,T1,T2.out]
   (repeat refine And.intro (by first|omega|(unfold inI64;omega)) ?_)
   refine aAi (by kernel_rfl) (KC wr.drew) rfl rfl ?_
   rintro e w3 ⟨rfl,hb3⟩
   have hb3':Below wr.heap.size wr w3:=(Below.refl wr.heap.size wr).drew.trans hb3
   refine ⟨_,rfl,hT _ hb3',?_⟩
   have HW3:=hid (HW.out.below hb3')
   have HG3:=hid (HG.out.trans ((aAr hb3').but (some g)))
   generalize hz:cmpC x y=z
   have HZ:=hid hz
   clear hb3 hb3' KC hz
   simp (maxSteps:=9^7) only[↓qpre,aAb,aAc]
   refine hQ _ _ ?_
   clear hQ hT hT' m0 m1 m2 m3 m4 m5 hgl HW HG
   by_cases hz0:z<0
   ·have H2':Hid (c=r0\/∀x y,cs[c]? = some x->cs[mid+m-1-c]? = some y->leC x y=false):=hid (.inr fun u v hu hv=>by rw[HYY.out] at hu;rw[<-HPP.out,HX.out] at hv;cases hu;cases hv;exact aGg.2 (by rw[HZ.out];exact hz0))
    rw[decide_eq_true hz0]
    clear hz0 T1 T2
    go_wp2
    go_roundw
    case rel=>exact ⟨s,c,hs1,by omega,by omega,rfl,rfl,HW3,HG3,H1,H2'⟩
    simp[intOf];omega
   have H1':Hid (c+1=s0\/∀x y,cs[c+1-1]? = some x->cs[mid+m-(c+1)]? = some y->leC x y=true):=hid (.inr fun u v hu hv=>by rw[Nat.add_sub_cancel,HYY.out] at hu;rw[show mid+m-(c+1)=mid+m-1-c by omega,<-HPP.out,HX.out] at hv;cases hu;cases hv;exact aLb.2 (by rw[HZ.out];exact hz0))
   rw[decide_eq_false hz0]
   clear hz0 T1 T2
   go_wp2
   go_roundw
   case rel=>exact ⟨c+1,r,by omega,by omega,hr1,by go_num,rfl,HW3,HG3,H1',H2⟩
   simp[intOf];omega
  have hie:s=r:=by omega
  subst hie
  clear hlt
  obtain ⟨e,he1,he2⟩:∃e:Nat,e+s<=mid+m/\mid+m<=e+s:=⟨mid+m-s,by omega,by omega⟩
  have MD:=hid (show Mid cs a m b s e mid from ⟨by omega,by omega,by omega,by omega,by omega,by
   rcases H1.out with h | h
   ·rcases F6.out with h' | h'
    ·exact .inl (by omega)
    exact .inr (.inl (by omega))
   ·exact .inr (.inr fun x y hx hy=>h x y hx (by rw[show mid+m-s=e by omega];exact hy)),by
   rcases H2.out with h | h
   ·rcases F7.out with h' | h'
    ·exact .inl (by omega)
    exact .inr (.inl (by omega))
   exact .inr (.inr fun x y hx hy=>h x y hx (by rw[show mid+m-1-s=e-1 by omega];exact hy))⟩)
  have HRL:=hid (show (rotL cs s m e).length=cs.length from aGt MD.out.hsm MD.out.hme (Nat.le_trans MD.out.heb hbn))
  have HS1:=hid (aFf (Nat.le_trans MD.out.heb hbn) MD.out.has MD.out.hsm MD.out.hme MD.out.heb MD.out.hmid HXA.out HYA.out (SegAs.refl (rotL cs s m e) a mid)).1
  have HS2:=hid (aFf (Nat.le_trans MD.out.heb hbn) MD.out.has MD.out.hsm MD.out.hme MD.out.heb MD.out.hmid HXA.out HYA.out (SegAs.refl (rotL cs s m e) a mid)).2.1
  obtain ⟨v1,v2,v3,v4,v5,v6⟩:=HV.out
  have KR:s<m->m<e->Calls Tryz.prog 232 #[.slice (some ⟨g,0,none⟩) cs.length cap,.int .i64 s,.int .i64 m,.int .i64 ((mid:Int)+(m:Int)-(s:Int)),.func (.func 137) #[] #[]] wr (RowTo (fun cs'=>cs'=rotL cs s m e) g cap wr):=fun h1 h2=>by
   rw[show (mid:Int)+(m:Int)-(s:Int)=(e:Int) by omega];exact aYv HW.out h1 h2 (Nat.le_trans MD.out.heb hbn)
  clear H1 H2 v1 v2
  have hcase:(s<m/\m<e/\a<s/\s<mid/\mid<e/\e<b)\/(s<m/\m<e/\a<s/\s<mid/\mid<e/\¬e<b)\/(s<m/\m<e/\¬a<s/\mid<e/\e<b)\/(s<m/\m<e/\¬a<s/\mid<e/\¬e<b)\/(¬s<m/\a<s/\s<mid/\¬mid<e)\/(¬s<m/\a<s/\¬s<mid/\¬mid<e)\/(s<m/\¬m<e/\a<s/\¬s<mid/\mid<e/\e<b):=by omega
  rcases hcase with ⟨d0,d1,d2,d3,d4,d5⟩ | ⟨d0,d1,d2,d3,d4,d5⟩ | ⟨d0,d1,d2,d3,d4⟩ | ⟨d0,d1,d2,d3,d4⟩ | ⟨d0,d1,d2,d3⟩ | ⟨d0,d1,d2,d3⟩ | ⟨d0,d1,d2,d3,d4,d5⟩
  ·first
   | (exfalso;omega)
   | (replace KR:=KR d0 d1
      go_wp2_with fail
      refine KR.mono ?_
      rintro e1 w1 ⟨rfl,cs1,hc1,hw1,hg1⟩
      subst hc1
      have HW1:=hid hw1
      have HG1:=hid (HG.out.trans hg1)
      clear hw1 hg1 HW HG KR
      have K1:=HI.out w1 a s mid (rotL cs s m e) (by omega) HW1.out (by omega) (by omega) (by rw[HRL.out];omega) HS1.out HS2.out
      rw[HRL.out] at K1
      go_wp2_with fail
      refine K1.mono ?_
      rintro e2 w2 ⟨rfl,cs2,hs2,hw2,hg2⟩
      have HW2:=hid hw2
      have HG2:=hid (HG1.out.trans hg2)
      have HS3:=hid hs2
      clear K1 hs2 hw2 hg2 HW1 HG1
      have HAS:=hid (aFf (Nat.le_trans MD.out.heb hbn) MD.out.has MD.out.hsm MD.out.hme MD.out.heb MD.out.hmid HXA.out HYA.out HS3.out)
      have HCL:=hid (show cs2.length=cs.length by rw[HS3.out.len,HRL.out])
      have K2:=HI.out w2 mid e b cs2 (by omega) HW2.out (by omega) (by omega) (by rw[HCL.out];exact hbn) HAS.out.2.2.1 HAS.out.2.2.2
      rw[HCL.out,show (e:Int)=(mid:Int)+(m:Int)-(s:Int) by omega] at K2
      go_wp2_with fail
      refine K2.mono ?_
      rintro e3 w3 ⟨rfl,cs3,hs3,hw3,hg3⟩
      have HW3:=hid hw3
      have HG3:=hid (HG2.out.trans hg3)
      have HS4:=hid hs3
      clear K2 hs3 hw3 hg3 HW2 HG2
      have HN:=hid (aDd aCi aBc hbn MD.out.has MD.out.hsm MD.out.hme MD.out.heb MD.out.hmid HXA.out HYA.out MD.out.h1 MD.out.h2 HS3.out HS4.out)
      clear HS3 HS4 HAS
      go_wp2
      refine bodyPost_end (results_none rfl _ _ _) rfl ?_
      exact ⟨rfl,_,HN.out,HW3.out,HG3.out⟩)
  ·first
   | (exfalso;omega)
   | (replace KR:=KR d0 d1
      go_wp2_with fail
      refine KR.mono ?_
      rintro e1 w1 ⟨rfl,cs1,hc1,hw1,hg1⟩
      subst hc1
      have HW1:=hid hw1
      have HG1:=hid (HG.out.trans hg1)
      clear hw1 hg1 HW HG KR
      have K1:=HI.out w1 a s mid (rotL cs s m e) (by omega) HW1.out (by omega) (by omega) (by rw[HRL.out];omega) HS1.out HS2.out
      rw[HRL.out] at K1
      go_wp2_with fail
      refine K1.mono ?_
      rintro e2 w2 ⟨rfl,cs2,hs2,hw2,hg2⟩
      have HW2:=hid hw2
      have HG2:=hid (HG1.out.trans hg2)
      have HS3:=hid hs2
      clear K1 hs2 hw2 hg2 HW1 HG1
      have HAS:=hid (aFf (Nat.le_trans MD.out.heb hbn) MD.out.has MD.out.hsm MD.out.hme MD.out.heb MD.out.hmid HXA.out HYA.out HS3.out)
      have HCL:=hid (show cs2.length=cs.length by rw[HS3.out.len,HRL.out])
      have HS4:Hid (SegAs cs2 cs2 mid b (List.merge (segL cs2 mid e) (segL cs2 e b) leC)):=hid (aBe (by have:=MD.out.hmid;have:=MD.out.hsm;omega) MD.out.heb (by have:=MD.out.hmid;have:=MD.out.heb;have:=MD.out.hsm;omega))
      have HW3:=HW2
      have HG3:=HG2
      clear HW2 HG2
      have HN:=hid (aDd aCi aBc hbn MD.out.has MD.out.hsm MD.out.hme MD.out.heb MD.out.hmid HXA.out HYA.out MD.out.h1 MD.out.h2 HS3.out HS4.out)
      clear HS3 HS4 HAS
      go_wp2
      refine bodyPost_end (results_none rfl _ _ _) rfl ?_
      exact ⟨rfl,_,HN.out,HW3.out,HG3.out⟩)
  ·first
   | (exfalso;omega)
   | (replace KR:=KR d0 d1
      go_wp2_with fail
      refine KR.mono ?_
      rintro e1 w1 ⟨rfl,cs1,hc1,hw1,hg1⟩
      subst hc1
      have HW1:=hid hw1
      have HG1:=hid (HG.out.trans hg1)
      clear hw1 hg1 HW HG KR
      have HS3:Hid (SegAs (rotL cs s m e) (rotL cs s m e) a mid (List.merge (segL (rotL cs s m e) a s) (segL (rotL cs s m e) s mid) leC)):=hid (aBe MD.out.has (by have:=MD.out.hmid;omega) (by have:=MD.out.has;have:=MD.out.hmid;omega))
      have HW2:=HW1
      have HG2:=HG1
      clear HW1 HG1
      have HAS:=hid (aFf (Nat.le_trans MD.out.heb hbn) MD.out.has MD.out.hsm MD.out.hme MD.out.heb MD.out.hmid HXA.out HYA.out HS3.out)
      have HCL:=hid (show (rotL cs s m e).length=cs.length by rw[HS3.out.len,HRL.out])
      have K2:=HI.out w1 mid e b (rotL cs s m e) (by omega) HW2.out (by omega) (by omega) (by rw[HCL.out];exact hbn) HAS.out.2.2.1 HAS.out.2.2.2
      rw[HCL.out,show (e:Int)=(mid:Int)+(m:Int)-(s:Int) by omega] at K2
      go_wp2_with fail
      refine K2.mono ?_
      rintro e3 w3 ⟨rfl,cs3,hs3,hw3,hg3⟩
      have HW3:=hid hw3
      have HG3:=hid (HG2.out.trans hg3)
      have HS4:=hid hs3
      clear K2 hs3 hw3 hg3 HW2 HG2
      have HN:=hid (aDd aCi aBc hbn MD.out.has MD.out.hsm MD.out.hme MD.out.heb MD.out.hmid HXA.out HYA.out MD.out.h1 MD.out.h2 HS3.out HS4.out)
      clear HS3 HS4 HAS
      go_wp2
      refine bodyPost_end (results_none rfl _ _ _) rfl ?_
      exact ⟨rfl,_,HN.out,HW3.out,HG3.out⟩)
  ·first
   | (exfalso;omega)
   | (replace KR:=KR d0 d1
      go_wp2_with fail
      refine KR.mono ?_
      rintro e1 w1 ⟨rfl,cs1,hc1,hw1,hg1⟩
      subst hc1
      have HW1:=hid hw1
      have HG1:=hid (HG.out.trans hg1)
      clear hw1 hg1 HW HG KR
      have HS3:Hid (SegAs (rotL cs s m e) (rotL cs s m e) a mid (List.merge (segL (rotL cs s m e) a s) (segL (rotL cs s m e) s mid) leC)):=hid (aBe MD.out.has (by have:=MD.out.hmid;omega) (by have:=MD.out.has;have:=MD.out.hmid;omega))
      have HW2:=HW1
      have HG2:=HG1
      clear HW1 HG1
      have HAS:=hid (aFf (Nat.le_trans MD.out.heb hbn) MD.out.has MD.out.hsm MD.out.hme MD.out.heb MD.out.hmid HXA.out HYA.out HS3.out)
      have HCL:=hid (show (rotL cs s m e).length=cs.length by rw[HS3.out.len,HRL.out])
      have HS4:Hid (SegAs (rotL cs s m e) (rotL cs s m e) mid b (List.merge (segL (rotL cs s m e) mid e) (segL (rotL cs s m e) e b) leC)):=hid (aBe (by have:=MD.out.hmid;have:=MD.out.hsm;omega) MD.out.heb (by have:=MD.out.hmid;have:=MD.out.heb;have:=MD.out.hsm;omega))
      have HW3:=HW2
      have HG3:=HG2
      clear HW2 HG2
      have HN:=hid (aDd aCi aBc hbn MD.out.has MD.out.hsm MD.out.hme MD.out.heb MD.out.hmid HXA.out HYA.out MD.out.h1 MD.out.h2 HS3.out HS4.out)
      clear HS3 HS4 HAS
      go_wp2
      refine bodyPost_end (results_none rfl _ _ _) rfl ?_
      exact ⟨rfl,_,HN.out,HW3.out,HG3.out⟩)
  ·first
   | (exfalso;omega)
   | (have HW1:Hid (RowC wr g cap (rotL cs s m e)):=by rw[aEp MD.out.hsm MD.out.hme (Nat.le_trans MD.out.heb hbn) (by have:=MD.out.hsm;have:=MD.out.hme;omega)];exact HW
      have HG1:=HG
      clear HW HG KR
      have K1:=HI.out wr a s mid (rotL cs s m e) (by omega) HW1.out (by omega) (by omega) (by rw[HRL.out];omega) HS1.out HS2.out
      rw[HRL.out] at K1
      go_wp2_with fail
      refine K1.mono ?_
      rintro e2 w2 ⟨rfl,cs2,hs2,hw2,hg2⟩
      have HW2:=hid hw2
      have HG2:=hid (HG1.out.trans hg2)
      have HS3:=hid hs2
      clear K1 hs2 hw2 hg2 HW1 HG1
      have HAS:=hid (aFf (Nat.le_trans MD.out.heb hbn) MD.out.has MD.out.hsm MD.out.hme MD.out.heb MD.out.hmid HXA.out HYA.out HS3.out)
      have HCL:=hid (show cs2.length=cs.length by rw[HS3.out.len,HRL.out])
      have HS4:Hid (SegAs cs2 cs2 mid b (List.merge (segL cs2 mid e) (segL cs2 e b) leC)):=hid (aBe (by have:=MD.out.hmid;have:=MD.out.hsm;omega) MD.out.heb (by have:=MD.out.hmid;have:=MD.out.heb;have:=MD.out.hsm;omega))
      have HW3:=HW2
      have HG3:=HG2
      clear HW2 HG2
      have HN:=hid (aDd aCi aBc hbn MD.out.has MD.out.hsm MD.out.hme MD.out.heb MD.out.hmid HXA.out HYA.out MD.out.h1 MD.out.h2 HS3.out HS4.out)
      clear HS3 HS4 HAS
      go_wp2
      refine bodyPost_end (results_none rfl _ _ _) rfl ?_
      exact ⟨rfl,_,HN.out,HW3.out,HG3.out⟩)
  ·first
   | (exfalso;omega)
   | (have HW1:Hid (RowC wr g cap (rotL cs s m e)):=by rw[aEp MD.out.hsm MD.out.hme (Nat.le_trans MD.out.heb hbn) (by have:=MD.out.hsm;have:=MD.out.hme;omega)];exact HW
      have HG1:=HG
      clear HW HG KR
      have HS3:Hid (SegAs (rotL cs s m e) (rotL cs s m e) a mid (List.merge (segL (rotL cs s m e) a s) (segL (rotL cs s m e) s mid) leC)):=hid (aBe MD.out.has (by have:=MD.out.hmid;omega) (by have:=MD.out.has;have:=MD.out.hmid;omega))
      have HW2:=HW1
      have HG2:=HG1
      clear HW1 HG1
      have HAS:=hid (aFf (Nat.le_trans MD.out.heb hbn) MD.out.has MD.out.hsm MD.out.hme MD.out.heb MD.out.hmid HXA.out HYA.out HS3.out)
      have HCL:=hid (show (rotL cs s m e).length=cs.length by rw[HS3.out.len,HRL.out])
      have HS4:Hid (SegAs (rotL cs s m e) (rotL cs s m e) mid b (List.merge (segL (rotL cs s m e) mid e) (segL (rotL cs s m e) e b) leC)):=hid (aBe (by have:=MD.out.hmid;have:=MD.out.hsm;omega) MD.out.heb (by have:=MD.out.hmid;have:=MD.out.heb;have:=MD.out.hsm;omega))
      have HW3:=HW2
      have HG3:=HG2
      clear HW2 HG2
      have HN:=hid (aDd aCi aBc hbn MD.out.has MD.out.hsm MD.out.hme MD.out.heb MD.out.hmid HXA.out HYA.out MD.out.h1 MD.out.h2 HS3.out HS4.out)
      clear HS3 HS4 HAS
      go_wp2
      refine bodyPost_end (results_none rfl _ _ _) rfl ?_
      exact ⟨rfl,_,HN.out,HW3.out,HG3.out⟩)
  first
  | (exfalso;omega)
  | (have HW1:Hid (RowC wr g cap (rotL cs s m e)):=by rw[aEp MD.out.hsm MD.out.hme (Nat.le_trans MD.out.heb hbn) (by have:=MD.out.hsm;have:=MD.out.hme;omega)];exact HW
     have HG1:=HG
     clear HW HG KR
     have HS3:Hid (SegAs (rotL cs s m e) (rotL cs s m e) a mid (List.merge (segL (rotL cs s m e) a s) (segL (rotL cs s m e) s mid) leC)):=hid (aBe MD.out.has (by have:=MD.out.hmid;omega) (by have:=MD.out.has;have:=MD.out.hmid;omega))
     have HW2:=HW1
     have HG2:=HG1
     clear HW1 HG1
     have HAS:=hid (aFf (Nat.le_trans MD.out.heb hbn) MD.out.has MD.out.hsm MD.out.hme MD.out.heb MD.out.hmid HXA.out HYA.out HS3.out)
     have HCL:=hid (show (rotL cs s m e).length=cs.length by rw[HS3.out.len,HRL.out])
     have K2:=HI.out wr mid e b (rotL cs s m e) (by omega) HW2.out (by omega) (by omega) (by rw[HCL.out];exact hbn) HAS.out.2.2.1 HAS.out.2.2.2
     rw[HCL.out,show (e:Int)=(mid:Int)+(m:Int)-(s:Int) by omega] at K2
     go_wp2_with fail
     refine K2.mono ?_
     rintro e3 w3 ⟨rfl,cs3,hs3,hw3,hg3⟩
     have HW3:=hid hw3
     have HG3:=hid (HG2.out.trans hg3)
     have HS4:=hid hs3
     clear K2 hs3 hw3 hg3 HW2 HG2
     have HN:=hid (aDd aCi aBc hbn MD.out.has MD.out.hsm MD.out.hme MD.out.heb MD.out.hmid HXA.out HYA.out MD.out.h1 MD.out.h2 HS3.out HS4.out)
     clear HS3 HS4 HAS
     go_wp2
     refine bodyPost_end (results_none rfl _ _ _) rfl ?_
     exact ⟨rfl,_,HN.out,HW3.out,HG3.out⟩)
theorem aWc {g cap:Nat}:∀(k:Nat) (w:World) (a m b:Nat) (cs:List CL),b-a<=k->RowC w g cap cs->a<m->m<b->b<=cs.length->Asc leC cs a m->Asc leC cs m b->
  Calls Tryz.prog 200 #[.slice (some ⟨g,0,none⟩) cs.length cap,.int .i64 a,.int .i64 m,.int .i64 b,.func (.func 137) #[] #[]] w (SymIs w g cap a m b cs)
 | 0,w,a,m,b,cs,hk,h,h1,h2,h3,hx,hy=>by omega
 | k+1,w,a,m,b,cs,hk,h,h1,h2,h3,hx,hy=>by
  by_cases e1:m=a+1
  ·subst e1;exact bGk h h2 h3 hy
  by_cases e2:b=m+1
  ·subst e2;exact bBu h (by omega) h3 hx
  exact bIe h (by omega) (by omega) h3 hx hy fun w a' m' b' ds hd=>aWc k w a' m' b' ds (by omega)
section
variable {α:Type}
structure Half (f:Nat->List α) (s:Nat) (d d':List α) (i:Nat):Prop where
 len:d'.length=d.length
 at_:∀k,k<i->segL d' (k*s) ((k+1)*s)=f k
 rest:∀t,i*s<=t->d'[t]? = d[t]?
theorem Half.start (f:Nat->List α)(s:Nat)(d:List α):Half f s d d 0:=⟨rfl,fun k h=>absurd h (Nat.not_lt_zero k),fun _ _=>rfl⟩
theorem Half.step {f:Nat->List α}{s i:Nat}{d d1 d2:List α}(h:Half f s d d1 i)(hs:SegAs d1 d2 (i*s) ((i+1)*s) (f i)):Half f s d d2 (i+1):=by
 refine ⟨hs.len.trans h.len,fun k hk=>?_,fun t ht=>?_⟩
 ·rcases Nat.lt_or_eq_of_le (Nat.le_of_lt_succ hk) with hk | rfl
  ·rw[hs.other (.inl (Nat.mul_le_mul_right s (show k+1<=i by omega)))];exact h.at_ k hk
  exact hs.here
 rw[hs.there t (.inr ht)]
 exact h.rest t (Nat.le_trans (Nat.mul_le_mul_right s (Nat.le_succ i)) ht)
theorem aLj {l:List α}{a b:Nat}(h:l.length<=b):segL l a b=segL l a l.length:=by
 unfold segL;rw[List.take_of_length_le h,List.take_of_length_le (Nat.le_refl _)]
theorem Half.last {f:Nat->List α}{s i:Nat}{d d1 d2:List α}(h:Half f s d d1 i)(h2:d.length<=(i+1)*s)(hs:SegAs d1 d2 (i*s) d.length (f i))(hf:∀k,i<k->f k=[])(k:Nat):segL d2 (k*s) ((k+1)*s)=f k:=by
 have hl:d2.length=d.length:=hs.len.trans h.len
 rcases Nat.lt_trichotomy k i with hk | rfl | hk
 ·rw[hs.other (.inl (Nat.mul_le_mul_right s (show k+1<=i by omega)))];exact h.at_ k hk
 ·rw[aLj (by rw[hl];exact h2),hl];exact hs.here
 rw[hf k hk,aDs (by rw[hl];exact Nat.le_trans h2 (Nat.mul_le_mul_right s (show i+1<=k by omega)))]
end
theorem aUj {s:Nat} {l d d':List CL}(h:Blk leC s l d)(k a b:Nat)(ha:a=k*s)(hb:b=(k+1)*s)(he:∀t,a<=t->d'[t]? = d[t]?):Asc leC d' a b:=by
 subst ha hb
 refine aFd ?_
 rw[aBn (d:=d) fun i h1 _=>he i h1,h.at_ k]
 exact aJn aBc aJb _
def StableIs (w:World)(g cap:Nat)(cs:List CL):Ending->World->Prop:=RowTo (fun cs'=>cs'=sortC cs) g cap w
def mergeAt (s:Nat)(d:List CL)(k:Nat):List CL:=List.merge (segL d (2*k*s) ((2*k+1)*s)) (segL d ((2*k+1)*s) ((2*k+2)*s)) leC
theorem bAa {w:World}{g cap:Nat}{cs:List CL}(h:RowC w g cap cs) :
  Calls Tryz.prog 162 #[.slice (some ⟨g,0,none⟩) cs.length cap,.int .i64 cs.length,.func (.func 137) #[] #[]] w (StableIs w g cap cs):=by
 have HC:=hid (show cs.length<=1000000 from h.few)
 have hcl:cs.length<=1000000:=HC.out
 obtain ⟨n,hn⟩:∃n,n=cs.length:=⟨_,rfl⟩
 have HN:=hid hn
 rw[<-hn] at hcl ⊢
 clear hn
 go_enter Tryz.func162,Tryz.ntmps162
 go_wp2
 go_loopw[7,8] (fun iv jv wr=>∃i a b:Nat,a<=n/\iv=.int .i64 a/\jv=.int .i64 b/\a+20<=b/\b<=a+20/\∃d,Hid (a=i*20)/\Hid (Half (fun k=>ssort leC (segL cs (k*20) ((k+1)*20))) 20 cs d i)/\Hid (RowC wr g cap d)/\Hid (w.grownBy wr (some g))) (fun i _ _=>n-(intOf i).toNat)
 case atStart=>exact ⟨0,0,20,Nat.zero_le _,rfl,rfl,Nat.le_refl _,Nat.le_refl _,cs,hid rfl,hid (Half.start _ _ _),hid h,hid (World.grownBy.refl w _)⟩
 obtain ⟨i,a,b,han,rfl,rfl,hb1,hb2,d,HA,HH,HW,HG⟩:=hrel
 have HL:=hid (show d.length=n by rw[HH.out.len,HN.out])
 by_cases hlt:b<=n
 ·have K:=aSw HW.out (a:=a) (b:=b) (by omega) (by rw[HL.out];exact hlt)
  rw[HL.out] at K
  go_wp2_with fail
  refine K.mono ?_
  rintro e w1 ⟨rfl,d1,hs1,hw1,hg1⟩
  have HH1:Hid (Half (fun k=>ssort leC (segL cs (k*20) ((k+1)*20))) 20 cs d1 (i+1)):=hid (HH.out.step (by
   have e1:=HA.out
   have e2:b=(i+1)*20:=by omega
   rw[<-e1,<-e2]
   rw[aBn (d:=cs) (d':=d) fun t h1 _=>HH.out.rest t (by omega)] at hs1
   exact hs1))
  have HA1:Hid (b=(i+1)*20):=hid (by have:=HA.out;omega)
  have HW1:=hid hw1
  have HG1:=hid (HG.out.trans hg1)
  clear K hs1 hw1 hg1 HH HW HG
  go_wp2
  go_roundw
  case rel=>exact ⟨i+1,b,b+20,hlt,rfl,by go_num,by omega,by omega,d1,HA1,HH1,HW1,HG1⟩
  simp[intOf];omega
 have K:=aSw HW.out (a:=a) (b:=n) han (by rw[HL.out];exact Nat.le_refl _)
 rw[HL.out] at K
 go_wp2_with fail
 refine K.mono ?_
 rintro e w1 ⟨rfl,d1,hs1,hw1,hg1⟩
 have HB:Hid (Blk leC 20 cs d1):=hid ⟨by rw[hs1.len,HH.out.len],by
  have e1:=HA.out
  have e2:=HN.out
  refine fun k=>HH.out.last (by omega) ?_ (fun k hk=>?_) k
  ·show SegAs d d1 (i*20) cs.length (ssort leC (segL cs (i*20) ((i+1)*20)))
   rw[aLj (b:=(i+1)*20) (by omega),<-e1,<-e2]
   rw[aBn (d:=cs) (d':=d) fun t h1 _=>HH.out.rest t (by omega)] at hs1
   exact hs1
  show ssort leC (segL cs (k*20) ((k+1)*20))=[]
  rw[aDs (by omega)];rfl⟩
 have HW1:=hid hw1
 have HG1:=hid (HG.out.trans hg1)
 clear K hs1 hw1 hg1 HH HW HG HA HL hb1 hb2 hlt han
 go_wp2
 go_loopw[6] (fun sv wr=>∃s:Nat,20<=s/\s<=2000000/\sv=.int .i64 s/\∃d,Hid (Blk leC s cs d)/\Hid (RowC wr g cap d)/\Hid (w.grownBy wr (some g))) (fun i _=>n-(intOf i).toNat)
 case atStart=>exact ⟨20,Nat.le_refl _,by omega,rfl,d1,HB,HW1,HG1⟩
 clear HB HW1 HG1
 obtain ⟨s,hs1,hs2,rfl,d,HB,HW,HG⟩:=hrel
 have HL:=hid (show d.length=n by rw[HB.out.len,HN.out])
 by_cases hlt:s<n
 ·go_wp2
  go_loopw[7,8] (fun iv jv wr=>∃i a b:Nat,a<=n/\iv=.int .i64 a/\jv=.int .i64 b/\a+2*s<=b/\b<=a+2*s/\∃d',Hid (a=i*(2*s))/\Hid (Half (mergeAt s d) (2*s) d d' i)/\Hid (RowC wr g cap d')/\Hid (w.grownBy wr (some g))) (fun i _ _=>n-(intOf i).toNat)
  case atStart=>exact ⟨0,0,2*s,Nat.zero_le _,rfl,by go_num,by omega,by omega,d,hid (by rw[Nat.zero_mul]),hid (Half.start _ _ _),HW,HG⟩
  clear HW HG
  obtain ⟨i,a,b,han,rfl,rfl,hb1,hb2,d',HA,HH,HW,HG⟩:=hrel
  have HL':=hid (show d'.length=n by rw[HH.out.len,HL.out])
  have EA:=hid (show a=2*i*s by rw[HA.out,<-Nat.mul_assoc,Nat.mul_comm i 2])
  have EM:=hid (show a+s=(2*i+1)*s by rw[EA.out,Nat.add_mul,Nat.one_mul])
  have EB:=hid (show b=(2*i+2)*s by rw[show (2*i+2)*s=(2*i+1)*s+s by rw[<-Nat.succ_mul],<-EM.out];omega)
  have EC:=hid (show b=(i+1)*(2*s) by rw[Nat.add_mul,<-HA.out];omega)
  have HX:Hid (Asc leC d' a (a+s)):=hid (aUj HB.out (2*i) a (a+s) EA.out EM.out fun t ht=>HH.out.rest t (by rw[<-HA.out];exact ht))
  by_cases hlb:b<=n
  ·have HY:Hid (Asc leC d' (a+s) b):=hid (aUj HB.out (2*i+1) (a+s) b EM.out EB.out fun t ht=>HH.out.rest t (by rw[<-HA.out];omega))
   have K:=aWc (b-a) wr a (a+s) b d' (Nat.le_refl _) HW.out (by omega) (by omega) (by rw[HL'.out];exact hlb) HX.out HY.out
   rw[HL'.out,show ((a+s:Nat):Int)=(a:Int)+(s:Int) by omega] at K
   go_wp2_with fail
   refine K.mono ?_
   rintro e w2 ⟨rfl,d2,hs3,hw2,hg2⟩
   have HH2:Hid (Half (mergeAt s d) (2*s) d d2 (i+1)):=hid (HH.out.step (by
    rw[<-HA.out,<-EC.out]
    unfold mergeAt
    rw[<-EA.out,<-EM.out,<-EB.out]
    rw[aBn (d:=d) (d':=d') fun t h1 _=>HH.out.rest t (by rw[<-HA.out];exact h1),aBn (d:=d) (d':=d') (a:=a+s) fun t h1 _=>HH.out.rest t (by rw[<-HA.out];omega)] at hs3
    exact hs3))
   have HW2:=hid hw2
   have HG2:=hid (HG.out.trans hg2)
   clear K hs3 hw2 hg2 HH HW HG HA EA EM EB HX HY HL'
   go_wp2
   go_roundw
   case rel=>exact ⟨i+1,b,b+2*s,hlb,rfl,by go_num,by omega,by omega,d2,EC,HH2,HW2,HG2⟩
   simp[intOf];omega
  have FIN:∀d2,SegAs d' d2 a n (List.merge (segL d' a (a+s)) (segL d' (a+s) n) leC)->Hid (Blk leC (2*s) cs d2):=fun d2 hs3=>hid (by
   have hl2:d2.length=d.length:=by rw[hs3.len,HH.out.len]
   refine HB.out.twice aBc aJb hl2 fun k=>HH.out.last (by rw[<-EC.out,HL.out];omega) ?_ (fun k hk=>?_) k
   ·rw[<-HA.out,HL.out]
    unfold mergeAt
    rw[<-EA.out,<-EM.out,<-EB.out]
    rw[aBn (d:=d) (d':=d') fun t h1 _=>HH.out.rest t (by rw[<-HA.out];exact h1),aBn (d:=d) (d':=d') (a:=a+s) fun t h1 _=>HH.out.rest t (by rw[<-HA.out];omega)] at hs3
    rw[aLj (l:=d) (a:=a+s) (b:=b) (by rw[HL.out];omega),HL.out]
    exact hs3
   unfold mergeAt
   have h1:(i+1)*(2*s)<=2*k*s:=by rw[show 2*k*s=k*(2*s) by rw[<-Nat.mul_assoc,Nat.mul_comm k 2]];exact Nat.mul_le_mul_right _ (by omega)
   have h2:2*k*s<=(2*k+1)*s:=Nat.mul_le_mul_right _ (by omega)
   rw[<-EC.out] at h1
   rw[aDs (by rw[HL.out];omega),aDs (by rw[HL.out];omega),aMv])
  have HFIN:=hid FIN
  clear FIN
  by_cases hms:a+s<n
  ·have HY:Hid (Asc leC d' (a+s) n):=hid (by
    have:=aUj HB.out (2*i+1) (a+s) b EM.out EB.out (d':=d') fun t ht=>HH.out.rest t (by rw[<-HA.out];omega)
    exact this.sub (Nat.le_refl _) (by omega))
   have K:=aWc (n-a) wr a (a+s) n d' (Nat.le_refl _) HW.out (by omega) (by omega) (by rw[HL'.out];exact Nat.le_refl _) HX.out HY.out
   rw[HL'.out,show ((a+s:Nat):Int)=(a:Int)+(s:Int) by omega] at K
   clear EA EM EB EC HX HY
   go_wp2_with fail
   refine K.mono ?_
   rintro e w2 ⟨rfl,d2,hs3,hw2,hg2⟩
   have HBN:=HFIN.out d2 hs3
   have HW2:=hid hw2
   have HG2:=hid (HG.out.trans hg2)
   clear K hs3 hw2 hg2 HH HW HG HA HL' HFIN HB
   go_wp2
   go_roundw
   case rel=>exact ⟨2*s,by omega,by omega,by go_num,d2,HBN,HW2,HG2⟩
   simp[intOf];omega
  have HBN:=HFIN.out d' (by
   have e1:segL d' (a+s) n=[]:=aDs (by rw[HL'.out];omega)
   rw[e1,aKg]
   have e2:segL d' a (a+s)=segL d' a n:=by rw[aLj (by rw[HL'.out];omega),HL'.out]
   rw[e2];exact SegAs.refl _ _ _)
  clear EA EM EB EC HX HH HA HL' HFIN HB
  go_wp2
  go_roundw
  case rel=>exact ⟨2*s,by omega,by omega,by go_num,d',HBN,HW,HG⟩
  simp[intOf];omega
 have HF:Hid (d=sortC cs):=hid (by rw[aXc];exact HB.out.all (by rw[<-HN.out];omega))
 go_wp2
 refine bodyPost_end (results_none rfl _ _ _) rfl ?_
 exact ⟨rfl,d,HF.out,HW.out,HG.out⟩
theorem bAf {v f:Value}{w:World}:Calls Tryz.prog 199 #[v,.int .i64 0,.int .i64 0,f] w fun e w'=>e=.returned (.tuple #[])/\w'=w:=by
 go_enter Tryz.func199,Tryz.ntmps199
 go_wp2
 refine wp_loop_rounds 1 ?_
 rw[rounds_succ]
 go_wp2
 refine bodyPost_end (results_none rfl _ _ _) rfl ?_
 exact ⟨rfl,rfl⟩
theorem aVy {v f:Value}{w:World}:Calls Tryz.prog 162 #[v,.int .i64 0,f] w fun e w'=>e=.returned (.tuple #[])/\w'=w:=by
 have K:=bAf (v:=v) (f:=f) (w:=w)
 go_enter Tryz.func162,Tryz.ntmps162
 go_wp2
 refine wp_loop_rounds 1 ?_
 rw[rounds_succ]
 go_wp2_with fail
 refine K.mono ?_
 rintro e w1 ⟨rfl,rfl⟩
 clear K
 go_wp2
 refine wp_loop_rounds 1 ?_
 rw[rounds_succ]
 go_wp2
 refine bodyPost_end (results_none rfl _ _ _) rfl ?_
 exact ⟨rfl,rfl⟩
theorem aSl (l:List CL):(sortC l).length=l.length:=by rw[aXc,bCs]
def SortedCs (w0:World)(v:Value)(cs:List CL)(w:World)(e:Ending) (w':World):Prop:=
 e=.returned (.tuple #[])/\w'.ownsRow w0.heap.size 94 3 v cs.length ((sortC cs).flatMap CL.cells)/\w.grownBy w' v.ownBlock
theorem bDv {w0 w:World}{v:Value}{cs:List CL}(hl:cs.length<=1000000)(ho:w.ownsRow w0.heap.size 94 3 v cs.length (cs.flatMap CL.cells)) :
  Calls Tryz.prog 136 #[v,.func (.func 137) #[] #[]] w (SortedCs w0 v cs w):=by
 have HO:=hid ho
 rcases ho.2 with ⟨rfl,hl0⟩ | ⟨g,cap,cur,rfl,hgB,hg,hnc,hcm,hcs,ht⟩
 ·have:cs=[]:=List.length_eq_zero_iff.1 hl0
  subst this
  have K:=aVy (v:=.slice none 0 0) (f:=.func (.func 137) #[] #[]) (w:=w)
  clear ho hl0 hl
  go_enter Tryz.func136,Tryz.ntmps136
  go_wp2_with fail
  refine K.mono ?_
  rintro e w1 ⟨rfl,rfl⟩
  clear K
  go_wp2
  refine bodyPost_end (results_none rfl _ _ _) rfl ?_
  exact ⟨rfl,HO.out,World.grownBy.refl _ _⟩
 have HX:=hid hgB
 have HC:=hid (And.intro hnc (And.intro hcm hcs))
 have K:=bAa (w:=w) (g:=g) (cap:=cap) (cs:=cs) ⟨⟨cur,hg,hcs,hnc,ht⟩,hl⟩
 have hl':=hl
 clear ho hgB hg hnc hcm hcs ht
 have HL:=hid (aSl cs)
 go_enter Tryz.func136,Tryz.ntmps136
 go_wp2_with fail
 refine K.mono ?_
 rintro e w1 ⟨rfl,cs',rfl,hw1,hg1⟩
 have HW:=hid hw1
 have HG:=hid hg1
 clear K hw1 hg1
 go_wp2
 refine bodyPost_end (results_none rfl _ _ _) rfl ?_
 obtain ⟨cur',h1,h2,h3,h4⟩:=HW.out.ex
 rw[HL.out] at h3 h4
 exact ⟨rfl,⟨by rw[CL.len_flat,HL.out],.inr ⟨g,cap,cur',rfl,HX.out,h1,HC.out.1,HC.out.2.1,h2,h4⟩⟩,HG.out⟩
structure MI (Z:Nat->Obj->Prop) (w0 w:World) (mb:Nat) (fv cv:Value) (m:List FV×List CL) (N:Nat):Prop where
 hs:w.heap[mb]? = some (.cells #[fv,cv] 181 (0,0))
 f1:w.ownsRow w0.heap.size 48 3 fv m.1.length (m.1.flatMap FV.cells)
 c1:w.ownsRow w0.heap.size 94 3 cv m.2.length (m.2.flatMap CL.cells)
 lo:w0.heap.size<=mb
 bel:Below w0.heap.size w0 w
 fits:∀f∈m.1,f.path.size<=1000000/\f.text.size<=1000000
 few1:m.1.length<=N
 few2:m.2.length<=N
 oth:∀k ob,Z k ob->w.heap[k]? = some ob/\k≠mb/\fv.ownBlock≠some k/\cv.ownBlock≠some k
theorem aBo {w:World}{B:Nat}{e T:TypeId}{k n mb:Nat}{v:Value}{xs:List Value}{cs:Array Value}{fr:Nat×Nat}(h:w.ownsRow B e k v n xs)(hg:w.heap[mb]? = some (.cells cs T fr))(hne:e≠T):v.ownBlock≠some mb:=fun e1=>by
 obtain ⟨cs',h2⟩:=aOx h e1
 rw[hg] at h2
 injection h2 with h2
 injection h2 with _ h2 _
 exact hne h2.symm
theorem aEm {w:World}{B:Nat} {e e':TypeId} {k n k' n':Nat} {v v':Value} {xs xs':List Value}(h:w.ownsRow B e k v n xs) (h':w.ownsRow B e' k' v' n' xs')(hne:e≠e')(g:Nat)(hg:v.ownBlock=some g):v'.ownBlock≠some g:=fun e1=>by
 obtain ⟨cs',h2⟩:=aOx h hg
 exact aBo h' h2 (fun e2=>hne e2.symm) e1
theorem MI.below {Z:Nat->Obj->Prop} {w0 w w':World}{mb:Nat}{fv cv:Value}{m:List FV×List CL}{N:Nat}(h:MI Z w0 w mb fv cv m N)(hb:Below w.heap.size w w'):MI Z w0 w' mb fv cv m N:=
 ⟨(hb.block mb (aAa h.hs)).trans h.hs,aAg h.f1 hb,aAg h.c1 hb,h.lo,h.bel.trans (hb.mono h.bel.size),h.fits,h.few1,h.few2,fun k ob hz=>⟨(hb.block k (aAa (h.oth k ob hz).1)).trans (h.oth k ob hz).1,(h.oth k ob hz).2⟩⟩
theorem aDi {w w':World}{B:Nat}{T:TypeId}{k n:Nat}{v o:Value}{xs:List Value}(hr:w.ownsRow B T k v n xs)(hg:w.grownBy w' o.ownBlock)(hn:∀g,v.ownBlock=some g->o.ownBlock≠some g):w'.ownsRow B T k v n xs:=by
 refine hr.kept hg ?_
 cases e:v.ownBlock with
 | none=>exact .inl rfl
 | some g=>exact .inr (fun e2=>hn g e e2.symm)
theorem MI.pushF {Z:Nat->Obj->Prop} {w0 w w':World}{mb:Nat} {fv fv' cv:Value}{m:List FV×List CL}{N:Nat}{f:FV}(h:MI Z w0 w mb fv cv m N)(hf:f.path.size<=1000000/\f.text.size<=1000000)(hg:w.grownBy w' fv.ownBlock)(hv:fv'.ownBlock=fv.ownBlock\/fv'.ownBlock=some w.heap.size)
  (ho:w'.ownsRow w0.heap.size 48 3 fv' (m.1.length+1) (m.1.flatMap FV.cells++[f].flatMap FV.cells)):w'.heap[mb]? = some (.cells #[fv,cv] 181 (0,0))/\MI Z w0 (w'.setCell ⟨mb,0,none⟩ fv') mb fv' cv (m.1++[f],m.2) (N+1):=by
 have hs':=(hg.block mb (aAa h.hs) (fun e=>aBo h.f1 h.hs (by decide) e.symm)).trans h.hs
 have hc':=aDi h.c1 hg (fun g e=>aEm h.c1 h.f1 (by decide) g e)
 refine ⟨hs',?_,?_,ownsRow_setCell_other hc' (aBo hc' hs' (by decide)) _,h.lo,(h.bel.grown hg h.bel.size (fun g hg=>(h.f1.lt g hg).1)).setCell h.lo _,fun x hx=>?_,?_,by have:=h.few2;show m.2.length<=N+1;omega,fun k ob hz=>?_⟩
 ·have:=heap_setCell_same w' mb 0 _ _ fv' hs'
  simpa using this
 ·refine ownsRow_setCell_other ?_ (aBo ho hs' (by decide)) _
  rw[List.length_append,List.flatMap_append];exact ho
 ·rcases List.mem_append.1 hx with hx | hx
  ·exact h.fits x hx
  rw[List.mem_singleton.1 hx];exact hf
 ·show (m.1++[f]).length<=N+1
  rw[List.length_append];have:=h.few1;simp only[List.length_singleton];omega
 obtain ⟨z1,z2,z3,z4⟩:=h.oth k ob hz
 exact ⟨(Below.heap_setCell w' ⟨mb,0,none⟩ _ k z2).trans ((hg.block k (aAa z1) (fun e=>z3 e.symm)).trans z1),z2,fun e=>by
  rcases hv with hv | hv
  ·exact z3 (hv▸e)
  rw[hv] at e;injection e with e;have:=aAa z1;omega,z4⟩
theorem MI.pushC {Z:Nat->Obj->Prop} {w0 w w':World}{mb:Nat} {fv cv cv':Value}{m:List FV×List CL}{N:Nat}{c:CL}(h:MI Z w0 w mb fv cv m N)(hN:m.2.length+1<=N)(hg:w.grownBy w' cv.ownBlock)(hv:cv'.ownBlock=cv.ownBlock\/cv'.ownBlock=some w.heap.size)
  (ho:w'.ownsRow w0.heap.size 94 3 cv' (m.2.length+1) (m.2.flatMap CL.cells++[c].flatMap CL.cells)):w'.heap[mb]? = some (.cells #[fv,cv] 181 (0,0))/\MI Z w0 (w'.setCell ⟨mb,1,none⟩ cv') mb fv cv' (m.1,m.2++[c]) N:=by
 have hs':=(hg.block mb (aAa h.hs) (fun e=>aBo h.c1 h.hs (by decide) e.symm)).trans h.hs
 have hf':=aDi h.f1 hg (fun g e=>aEm h.f1 h.c1 (by decide) g e)
 refine ⟨hs',?_,ownsRow_setCell_other hf' (aBo hf' hs' (by decide)) _,?_,h.lo,(h.bel.grown hg h.bel.size (fun g hg=>(h.c1.lt g hg).1)).setCell h.lo _,h.fits,h.few1,?_,fun k ob hz=>?_⟩
 ·have:=heap_setCell_same w' mb 1 _ _ cv' hs'
  simpa using this
 ·refine ownsRow_setCell_other ?_ (aBo ho hs' (by decide)) _
  rw[List.length_append,List.flatMap_append];exact ho
 ·show (m.2++[c]).length<=N
  rw[List.length_append];simpa using hN
 obtain ⟨z1,z2,z3,z4⟩:=h.oth k ob hz
 exact ⟨(Below.heap_setCell w' ⟨mb,1,none⟩ _ k z2).trans ((hg.block k (aAa z1) (fun e=>z4 e.symm)).trans z1),z2,z3,fun e=>by
  rcases hv with hv | hv
  ·exact z4 (hv▸e)
  rw[hv] at e;injection e with e;have:=aAa z1;omega⟩
theorem MI.more {Z:Nat->Obj->Prop}{w0 w:World}{mb:Nat}{fv cv:Value}{m:List FV×List CL} {N N':Nat}(h:MI Z w0 w mb fv cv m N)(hN:N<=N'):MI Z w0 w mb fv cv m N':=⟨h.hs,h.f1,h.c1,h.lo,h.bel,h.fits,by have:=h.few1;omega,by have:=h.few2;omega,h.oth⟩
theorem aJa:Elem Tryz.prog 30 94 3 40:=aBw (by kernel_rfl)
theorem aYc (w:World)(f:CL):Rd (w.alloc (.cells #[.string f.path,.int .i64 f.kind,.string f.text] 94)) (w.alloc (.cells #[.string f.path,.int .i64 f.kind,.string f.text] 94)).heap.size 3 (some ⟨w.heap.size,0,none⟩) 1 1 ([f].flatMap CL.cells):=
 aOd (heap_alloc_new w _) rfl (Nat.le_refl _) fun j u hu=>by
  have:j<3:=(List.getElem?_eq_some_iff.1 hu).1
  match j,this with
  | 0,_=>simpa[CL.cells] using hu
  | 1,_=>simpa[CL.cells] using hu
  | 2,_=>simpa[CL.cells] using hu
theorem aQy (p t:ByteArray)(k:Int)(w:World):(Instr.build 94 #[(0,.string p),(1,.int .i64 k),(2,.string t)]).run Tryz.prog w=.ok (.agg #[.string p,.int .i64 k,.string t]) w:=by
 go_simp
def PutIs (Z:Nat->Obj->Prop)(w0:World)(mb:Nat)(m:List FV×List CL)(N:Nat)(e:Ending) (w':World):Prop:=e=.returned (.tuple #[])/\∃fv cv,MI Z w0 w' mb fv cv m N
theorem aAy {Z:Nat->Obj->Prop}{w0 w:World}{mb N:Nat}{fv cv:Value}{m:List FV×List CL}{f:FV}{kind:Int}(h:MI Z w0 w mb fv cv m N)(hN:N<=100000)(hf:f.path.size<=1000000/\f.text.size<=1000000) :
  Calls Tryz.prog 155 #[.pointer (some ⟨mb,0,none⟩),.agg #[.string f.path,.bool f.exec,.string f.text],.int .i64 kind] w (PutIs Z w0 mb (putM m f kind) (N+1)):=by
 obtain ⟨W,eW⟩:∃W,W=w.alloc (.cells #[.string f.path,.bool f.exec,.string f.text] 48):=⟨_,rfl⟩
 have hbW:Below w.heap.size w W:=by rw[eW];exact (Below.refl _ _).alloc (Nat.le_refl _) _
 have hbx:W.heap[w.heap.size]? = some (.cells #[.string f.path,.bool f.exec,.string f.text] 48 (0,0)):=by rw[eW];exact heap_alloc_new _ _
 have hMW:=h.below hbW
 obtain ⟨A,cA,efv,hcA⟩:=aAd hMW.f1
 have hro:=hMW.f1
 rw[efv] at hro
 have hrd:RdF W W.heap.size A m.1.length cA m.1:=⟨Rd.of_own hro hcA,rfl,fun x hx=>by have:=hMW.fits x hx;omega⟩
 have K:=aPt (q1:=.pointer (some ⟨w.heap.size,0,none⟩)) (fun x=>clashP x.p f.p) (by have:=hMW.few1;omega) hrd
  (fun x u hx hu=>bGi (f:=f) (x:=x) hf.1 (hMW.fits x hx).1 ((hu.block _ (aAa hbx)).trans hbx))
 have HM:=hid hMW
 have HBX:=hid hbx
 have HF:=hid hf
 have HNN:=hid hN
 have HEF:=hid efv
 have c0:W.cell? ⟨mb,0,none⟩=some (.slice A m.1.length cA):=by rw[Lib.cell_of_heap hMW.hs];exact congrArg some efv
 have HPF:=hid (fun e:fv.ownBlock=some w.heap.size=>Nat.lt_irrefl _ (h.f1.lt _ e).2)
 have HPC:=hid (fun e:cv.ownBlock=some w.heap.size=>Nat.lt_irrefl _ (h.c1.lt _ e).2)
 have HPM:=hid (Nat.ne_of_gt (aAa h.hs))
 rw[eW] at c0 K
 clear h hbW hbx hMW hro hrd hcA hf hN efv
 go_enter Tryz.func155,Tryz.ntmps155
 go_wp2_with fail
 refine K.mono ?_
 rintro e w1 ⟨rfl,hb1⟩
 rw[<-eW] at hb1
 have HM1:=hid (HM.out.below hb1)
 have HBX1:=hid ((hb1.block _ (aAa HBX.out)).trans HBX.out)
 clear K c0 hb1 HM HBX eW
 generalize w.heap.size=bx at *
 by_cases hc:(m.1.any fun x=>clashP x.p f.p)=true
 ·have HP:=hid (show putM m f kind=(m.1,m.2++[⟨f.path,5,f.text⟩]) by unfold putM;rw[if_pos hc])
  rw[hc]
  clear hc
  have HM2:=hid (HM1.out.more (Nat.le_succ N))
  have HL2:=hid (show m.2.length+1<=N+1 from Nat.succ_le_succ HM1.out.few2)
  go_wp2
  refine aBg (fun u=>u.heap[mb]? = some (.cells #[fv,cv] 181 (0,0))/\u.heap[bx]? = some (.cells #[.string f.path,.bool f.exec,.string f.text] 48 (0,0)))
   [(true,0),(true,1),(true,2),(true,3),(true,4),(true,5),(true,6),(true,7),(true,8),(true,9),(false,10),(false,11),(false,12),(true,13),(true,14)] [15] mixed (by kernel_rfl) ⟨HM2.out.hs,HBX1.out⟩ ?_
  intro Tp M Q Q2 hT hT' hM hQ hQ2
  have m0:M ⟨mb,1,none⟩=some cv:=hM _ _ fun w' hw=>by rw[Lib.cell_of_heap hw.1];rfl
  have m1:M ⟨bx,0,none⟩=some (.string f.path):=hM _ _ fun w' hw=>by rw[Lib.cell_of_heap hw.2];rfl
  have m3:M ⟨bx,2,none⟩=some (.string f.text):=hM _ _ fun w' hw=>by rw[Lib.cell_of_heap hw.2];rfl
  clear hM
  simp only[qcmp]
  simp (maxSteps:=9^7) only[↓qpre,aAb,aAe,aAc,m0,m1,m3]
  clear m0 m1 m3
  refine aBz rfl (aQy _ _ _ _) ⟨hT _ ⟨HM2.out.hs,HBX1.out⟩,?_⟩
  simp (maxSteps:=9^7) only[aAb,aAc]
  have hba:Below w1.heap.size w1 (w1.drew.alloc (.cells #[.string f.path,.int .i64 5,.string f.text] 94)):=(Below.refl _ _).drew.alloc (Nat.le_refl _) _
  have HMV:=hid (HM2.out.below hba)
  have HBV:=hid ((hba.block bx (aAa HBX1.out)).trans HBX1.out)
  have HLI:=hid (aYc w1.drew ⟨f.path,5,f.text⟩)
  refine T.eff_lits (T.run_lits3 aJa _ _ _ _) rfl ⟨hT _ ⟨HMV.out.hs,HBV.out⟩,?_⟩
  simp (maxSteps:=9^7) only[aAb,aAc]
  clear hba HM2 HBX1
  generalize w1.drew.alloc (.cells #[.string f.path,.int .i64 5,.string f.text] 94)=V at *
  refine aAm aJa (base:=w0.heap.size) (n:=m.2.length) rfl rfl HMV.out.c1 HLI.out (aMn _) (by have:=HL2.out;have:=HNN.out;unfold maxLen;omega) (by have:=HL2.out;have:=HNN.out;omega) HMV.out.bel.size ?_
  intro v9 V5 ho9 hg9 hv9
  obtain ⟨A9,c9,rfl,hc9⟩:=aAd ho9
  obtain ⟨hs9,hp9⟩:=HMV.out.pushC (c:=⟨f.path,5,f.text⟩) HL2.out hg9 hv9 ho9
  have HM9:=hid hp9
  have HB9:=hid ((hg9.block bx (aAa HBV.out) (fun e=>HPC.out e.symm)).trans HBV.out)
  refine ⟨hT _ ⟨hs9,HB9.out⟩,?_⟩
  simp (maxSteps:=9^7) only[↓qpre,aAb,aAe,aAc]
  refine hQ _ _ ?_
  simp only[lates,List.map,qcmp]
  simp (maxSteps:=9^7) only[aAb]
  refine aBl (v:=.slice A9 (m.2.length+1) c9) (b:=mb) (o:=1) (by kernel_rfl) rfl rfl (by rw[Lib.cell_of_heap hs9];rfl) (aAn hs9) rfl ⟨trivial,?_⟩
  simp (maxSteps:=9^7) only[aAb]
  refine hQ2 _ _ ?_
  clear hQ hQ2 hT hT' HMV HBV HLI ho9 hg9 hv9 hs9 hp9 HB9
  generalize V5.setCell ⟨mb,1,none⟩ (.slice A9 (m.2.length+1) c9)=V6 at *
  go_wp2
  refine bodyPost_end (results_none rfl _ _ _) rfl ?_
  exact ⟨rfl,_,_,by rw[HP.out];exact HM9.out⟩
 have hcf:(m.1.any fun x=>clashP x.p f.p)=false:=by simpa using hc
 have HP:=hid (show putM m f kind=(m.1++[f],if kind=0 then m.2 else m.2++[⟨f.path,kind,f.text⟩]) by unfold putM;rw[if_neg hc])
 rw[hcf]
 clear hc hcf
 go_wp2
 refine aBg (fun u=>u.heap[mb]? = some (.cells #[fv,cv] 181 (0,0))/\u.heap[bx]? = some (.cells #[.string f.path,.bool f.exec,.string f.text] 48 (0,0)))
  [(true,0),(true,1),(true,2),(true,3),(true,4),(true,5),(false,6),(false,7),(true,8),(true,9)] [10] mixed (by kernel_rfl) ⟨HM1.out.hs,HBX1.out⟩ ?_
 intro Tp M Q Q2 hT hT' hM hQ hQ2
 have m0:M ⟨mb,0,none⟩=some fv:=hM _ _ fun w' hw=>by rw[Lib.cell_of_heap hw.1];rfl
 have m1:M ⟨bx,0,none⟩=some (.string f.path):=hM _ _ fun w' hw=>by rw[Lib.cell_of_heap hw.2];rfl
 have m2:M ⟨bx,1,none⟩=some (.bool f.exec):=hM _ _ fun w' hw=>by rw[Lib.cell_of_heap hw.2];rfl
 have m3:M ⟨bx,2,none⟩=some (.string f.text):=hM _ _ fun w' hw=>by rw[Lib.cell_of_heap hw.2];rfl
 clear hM
 simp only[qcmp]
 simp (maxSteps:=9^7) only[↓qpre,aAb,aAe,aAc,m0,m1,m2,m3]
 clear m0 m1 m2 m3
 have hba:Below w1.heap.size w1 (w1.drew.alloc (.cells #[.string f.path,.bool f.exec,.string f.text] 48)):=(Below.refl _ _).drew.alloc (Nat.le_refl _) _
 have HMV:=hid (HM1.out.below hba)
 have HBV:=hid ((hba.block bx (aAa HBX1.out)).trans HBX1.out)
 have HLI:=hid (aPx w1.drew f)
 refine T.eff_lits (T.run_lits3 aCx _ _ _ _) rfl ⟨hT _ ⟨HMV.out.hs,HBV.out⟩,?_⟩
 simp (maxSteps:=9^7) only[aAb,aAc]
 clear hba HM1 HBX1
 generalize w1.drew.alloc (.cells #[.string f.path,.bool f.exec,.string f.text] 48)=V at *
 refine aAm aCx (base:=w0.heap.size) (n:=m.1.length) rfl rfl HMV.out.f1 HLI.out (aBr _) (by have:=HMV.out.few1;have:=HNN.out;unfold maxLen;omega) (by have:=HMV.out.few1;have:=HNN.out;omega) HMV.out.bel.size ?_
 intro v7 V5 ho7 hg7 hv7
 obtain ⟨A7,c7,rfl,hc7⟩:=aAd ho7
 obtain ⟨hs5,hp5⟩:=HMV.out.pushF (f:=f) HF.out hg7 hv7 ho7
 have HM5:=hid hp5
 have HB5:=hid ((hg7.block bx (aAa HBV.out) (fun e=>HPF.out e.symm)).trans HBV.out)
 refine ⟨hT _ ⟨hs5,HB5.out⟩,?_⟩
 simp (maxSteps:=9^7) only[↓qpre,aAb,aAe,aAc]
 refine hQ _ _ ?_
 simp only[lates,List.map,qcmp]
 simp (maxSteps:=9^7) only[aAb]
 refine aBl (v:=.slice A7 (m.1.length+1) c7) (b:=mb) (o:=0) (by kernel_rfl) rfl rfl (by rw[Lib.cell_of_heap hs5];rfl) (aAn hs5) rfl ⟨trivial,?_⟩
 simp (maxSteps:=9^7) only[aAb]
 refine hQ2 _ _ ?_
 have HB6:=hid ((Below.heap_setCell V5 ⟨mb,0,none⟩ (.slice A7 (m.1.length+1) c7) bx HPM.out).trans HB5.out)
 have HMX:=HMV
 clear hQ hQ2 hT hT' HMV HBV HLI ho7 hg7 hv7 hs5 hp5 HB5
 generalize V5.setCell ⟨mb,0,none⟩ (.slice A7 (m.1.length+1) c7)=V6 at *
 by_cases hk:kind=0
 ·subst hk
  go_wp2
  refine bodyPost_end (results_none rfl _ _ _) rfl ?_
  exact ⟨rfl,_,_,by rw[HP.out];exact HM5.out⟩
 have ek:(kind != 0)=true:=by simpa using hk
 rw[if_neg hk] at HP
 have HL2:=hid (show m.2.length+1<=N+1 from Nat.succ_le_succ (HMX.out.few2))
 clear hk
 go_wp2
 refine aBg (fun u=>u.heap[mb]? = some (.cells #[(.slice A7 (m.1.length+1) c7),cv] 181 (0,0))/\u.heap[bx]? = some (.cells #[.string f.path,.bool f.exec,.string f.text] 48 (0,0)))
  [(true,0),(true,1),(true,2),(true,3),(true,4),(true,5),(true,6),(true,7),(true,8),(true,9),(false,10),(false,11),(false,12),(true,13),(true,14)] [15] mixed (by kernel_rfl) ⟨HM5.out.hs,HB6.out⟩ ?_
 intro Tp M Q Q2 hT hT' hM hQ hQ2
 have m0:M ⟨mb,1,none⟩=some cv:=hM _ _ fun w' hw=>by rw[Lib.cell_of_heap hw.1];rfl
 have m1:M ⟨bx,0,none⟩=some (.string f.path):=hM _ _ fun w' hw=>by rw[Lib.cell_of_heap hw.2];rfl
 have m3:M ⟨bx,2,none⟩=some (.string f.text):=hM _ _ fun w' hw=>by rw[Lib.cell_of_heap hw.2];rfl
 clear hM
 simp only[qcmp]
 simp (maxSteps:=9^7) only[↓qpre,aAb,aAe,aAc,m0,m1,m3]
 clear m0 m1 m3
 refine aBz rfl (aQy _ _ _ _) ⟨hT _ ⟨HM5.out.hs,HB6.out⟩,?_⟩
 simp (maxSteps:=9^7) only[aAb,aAc]
 have hba:Below V6.heap.size V6 (V6.drew.alloc (.cells #[.string f.path,.int .i64 kind,.string f.text] 94)):=(Below.refl _ _).drew.alloc (Nat.le_refl _) _
 have HMV:=hid (HM5.out.below hba)
 have HBV:=hid ((hba.block bx (aAa HB6.out)).trans HB6.out)
 have HLI:=hid (aYc V6.drew ⟨f.path,kind,f.text⟩)
 refine T.eff_lits (T.run_lits3 aJa _ _ _ _) rfl ⟨hT _ ⟨HMV.out.hs,HBV.out⟩,?_⟩
 simp (maxSteps:=9^7) only[aAb,aAc]
 clear hba HM5 HB6
 generalize V6.drew.alloc (.cells #[.string f.path,.int .i64 kind,.string f.text] 94)=V at *
 refine aAm aJa (base:=w0.heap.size) (n:=m.2.length) rfl rfl HMV.out.c1 HLI.out (aMn _) (by have:=HL2.out;have:=HNN.out;unfold maxLen;omega) (by have:=HL2.out;have:=HNN.out;omega) HMV.out.bel.size ?_
 intro v9 V5 ho9 hg9 hv9
 obtain ⟨A9,c9,rfl,hc9⟩:=aAd ho9
 obtain ⟨hs9,hp9⟩:=HMV.out.pushC (c:=⟨f.path,kind,f.text⟩) HL2.out hg9 hv9 ho9
 have HM9:=hid hp9
 have HB9:=hid ((hg9.block bx (aAa HBV.out) (fun e=>HPC.out e.symm)).trans HBV.out)
 refine ⟨hT _ ⟨hs9,HB9.out⟩,?_⟩
 simp (maxSteps:=9^7) only[↓qpre,aAb,aAe,aAc]
 refine hQ _ _ ?_
 simp only[lates,List.map,qcmp]
 simp (maxSteps:=9^7) only[aAb]
 refine aBl (v:=.slice A9 (m.2.length+1) c9) (b:=mb) (o:=1) (by kernel_rfl) rfl rfl (by rw[Lib.cell_of_heap hs9];rfl) (aAn hs9) rfl ⟨trivial,?_⟩
 simp (maxSteps:=9^7) only[aAb]
 refine hQ2 _ _ ?_
 clear hQ hQ2 hT hT' HMV HBV HLI ho9 hg9 hv9 hs9 hp9 HB9
 generalize V5.setCell ⟨mb,1,none⟩ (.slice A9 (m.2.length+1) c9)=V6 at *
 go_wp2
 refine bodyPost_end (results_none rfl _ _ _) rfl ?_
 exact ⟨rfl,_,_,by rw[HP.out];exact HM9.out⟩
end Go.Proofs.YtohblmepajhpaaaGreatDoor
