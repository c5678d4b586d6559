/- Texts of the walks, together: Walk: diff.Script: what leads from one list to another one. The library's Builder at this seat: WriteByte, WriteString, String. Plain laws of lines: cut at the first end of a line. Walks: lines.Split, lines.Join. -/
import Derived.Shelf.Strings.BuilderK
import Derived.Test.YtcemkikgaeghjaaGreatDoorG00
import Derived.Test.YtcemkikgaeghjaaGreatDoorG09
import Derived.Test.YtcemkikgaeghjaaGreatDoorG11
set_option maxHeartbeats 8000000
set_option maxRecDepth 100000
open Go.Lib (hid)
namespace Go.Proofs.YtcemkikgaeghjaaGreatDoor
open Go.RowKit
theorem Rd.front {w:World}{B sz n c k:Nat}{A:Option Addr}{xs:List Value}(h:Rd w B sz A n c xs)(hk:k<=n):Rd w B sz A k c (xs.take (k*sz)):=by
 refine ⟨by rw[List.length_take,h.len,Nat.min_eq_left (Nat.mul_le_mul_right _ hk)],Nat.le_trans hk h.cap,fun h0=>?_⟩
 obtain ⟨b,o,e,hb,hc⟩:=h.at_ (by omega)
 refine ⟨b,o,e,hb,fun j u hu=>hc j u ?_⟩
 rw[List.getElem?_take] at hu
 split at hu
 ·exact hu
 cases hu
theorem Rd.frontS {w:World}{B n c k:Nat}{A:Option Addr}{l:List ByteArray}(h:Rd w B 1 A n c (l.map .string))(hk:k<=n):Rd w B 1 A k c ((l.take k).map .string):=by
 have:=h.front hk
 rw[Nat.mul_one,<-List.map_take] at this
 exact this
theorem Rd.backS {w:World}{B n c k:Nat}{A:Option Addr}{l:List ByteArray}(h:Rd w B 1 A n c (l.map .string))(hk:k<=n):Rd w B 1 (if c=k then A else A.map (·.add k)) (n-k) (c-k) ((l.drop k).map .string):=by
 have:=h.cut1 hk (Nat.le_refl _)
 rw[List.take_of_length_le (by have:=h.len;omega),<-List.map_drop] at this
 exact this
theorem aBm {w:World} {B B':Nat}{e:TypeId}{k n:Nat}{v:Value}{xs:List Value}(h:w.ownsRow B e k v n xs)(hB:B'<=B):w.ownsRow B' e k v n xs:=by
 obtain ⟨h1,h2⟩:=h
 refine ⟨h1,?_⟩
 rcases h2 with h2 | ⟨g,cap,cur,e1,e2,e3,e4,e5,e6⟩
 ·exact .inl h2
 exact .inr ⟨g,cap,cur,e1,Nat.le_trans hB e2,e3,e4,e5,e6⟩
theorem EdIs.up {L L':List DV}{w w1 w2:World}{e:Ending}(h:EdIs L w1 e w2)(hb:Below w.heap.size w w1)(hL:L=L'):EdIs L' w e w2:=by
 subst hL
 obtain ⟨v,e1,h1,h2⟩:=h
 exact ⟨v,e1,aBm h1 hb.size,hb.trans (h2.mono hb.size)⟩
theorem aMh {P:Program}{t e:TypeId}{bytes:Nat}(E:Elem P t e 1 bytes){a b c:Value}(ha:a.cells=#[a])(hb:b.cells=#[b])(hc:c.cells=#[c])(w:World) :
  (Instr.buildSlice t 3 #[(0,a),(1,b),(2,c)]).run P w=.ok (.slice (some ⟨w.heap.size,0,none⟩) 3 3) (w.alloc (.cells #[a,b,c] e)):=by
 obtain ⟨i,z,hi,hz,hsz,hby,hzs⟩:=E.row
 obtain ⟨z0,hzc⟩:∃z0,z.cells=#[z0]:=by
  have:=hzs
  match h:z.cells,this with
  | ⟨[z0]⟩,_=>exact ⟨z0,rfl⟩
 simp[Instr.buildSlice,run_underlying E.und,sizeOf,typeInfo,hi,hsz,zeroValue,hz,Instr.fill,ha,hb,hc,hzc,newRow,show Array.range 3=#[0,1,2] from rfl]
theorem aMa {P:Program}{S:World->Prop}{a:Act} {w w':World}{K:Act->World->Prop}{dst:Option Tmp}{t ty:TypeId}{x y z:Operand}{q:Bool}{g:Option (Tmp×Bool)}{u v s r:Value}
  (hr:(Instr.buildSlice t 3 #[(0,u),(1,v),(2,s)]).run P w=.ok r w') (hx:a.eval x=u) (hy:a.eval y=v) (hz:a.eval z=s) (hK:S w'/\K (a.put dst r) w') :
  effq P S ⟨q,dst,.buildSlice t 3 #[(0,x),(1,y),(2,z)],ty,g⟩ a w K:=by
 refine aOy (fun p af g=>?_) hK
 unfold execOp
 simp only[List.map_toArray,List.map_cons,List.map_nil,hx,hy,hz,hr,Sem.run_bind,Sem.run_pure,Result.andThen_ok]
theorem bGa:Elem Tryz.prog 238 200 1 24:=aCw (by kernel_rfl)
structure GrR (w:World) (g bx W N:Nat) (xs:List Value) (out:Value):Prop where
 c0:w.cell? ⟨bx,0,none⟩=some (.slice (some ⟨g,0,none⟩) N N)
 c1:w.cell? ⟨bx,1,none⟩=some (.int .i64 W)
 cell:∀(k:Nat) (u:Value),xs[k]? = some u->w.cell? ⟨g,k,none⟩=some u
 lt:g<w.heap.size/\bx<w.heap.size
 ap:∀o,out.ownBlock=some o->o≠g/\o≠bx
section
variable {w w':World} {g bx W N:Nat} {xs:List Value} {out:Value}
theorem GrR.drew (h:GrR w g bx W N xs out):GrR w.drew g bx W N xs out:=⟨h.c0,h.c1,h.cell,h.lt,h.ap⟩
theorem GrR.app (h:GrR w g bx W N xs out) {v':Value}(hg:w.grownBy w' out.ownBlock)(hv:v'.ownBlock=out.ownBlock\/v'.ownBlock=some w.heap.size):GrR w' g bx W N xs v':=by
 have hb:∀j:Nat,j<w.heap.size->(∀o,out.ownBlock=some o->o≠j)->∀k:Nat,w'.cell? ⟨j,k,none⟩=w.cell? ⟨j,k,none⟩:=fun j hj ho k=>
  World.cell?_of_block (hg.block j hj (fun e=>ho j e.symm rfl))
 refine ⟨(hb _ h.lt.2 (fun o ho=>(h.ap o ho).2) 0).trans h.c0,(hb _ h.lt.2 (fun o ho=>(h.ap o ho).2) 1).trans h.c1,fun k u hu=>(hb _ h.lt.1 (fun o ho=>(h.ap o ho).1) k).trans (h.cell k u hu),⟨Nat.lt_of_lt_of_le h.lt.1 hg.size,Nat.lt_of_lt_of_le h.lt.2 hg.size⟩,fun o ho=>?_⟩
 rcases hv with hv | hv
 ·exact h.ap o (hv▸ho)
 rw[hv] at ho;injection ho with ho;subst ho
 exact ⟨Nat.ne_of_gt h.lt.1,Nat.ne_of_gt h.lt.2⟩
theorem GrR.alloc (h:GrR w g bx W N xs out)(o:Obj):GrR (w.alloc o) g bx W N xs out:=by
 have hg:=World.grownBy_alloc w o none
 have hb:∀j:Nat,j<w.heap.size->∀k:Nat,(w.alloc o).cell? ⟨j,k,none⟩=w.cell? ⟨j,k,none⟩:=fun j hj k=>World.cell?_of_block (hg.block j hj (fun e=>by cases e))
 exact ⟨(hb _ h.lt.2 0).trans h.c0,(hb _ h.lt.2 1).trans h.c1,fun k u hu=>(hb _ h.lt.1 k).trans (h.cell k u hu),⟨Nat.lt_of_lt_of_le h.lt.1 hg.size,Nat.lt_of_lt_of_le h.lt.2 hg.size⟩,h.ap⟩
end
theorem rdLL3 {w:World}{t:TypeId}{L0 L1 L2:List DV}{A0 A1 A2:Option Addr}{c0 c1 c2:Nat}
  (h0:Rd w w.heap.size 2 A0 L0.length c0 (L0.flatMap DV.cells)) (h1:Rd w w.heap.size 2 A1 L1.length c1 (L1.flatMap DV.cells)) (h2:Rd w w.heap.size 2 A2 L2.length c2 (L2.flatMap DV.cells)) :
  RdLL (w.alloc (.cells #[.slice A0 L0.length c0,.slice A1 L1.length c1,.slice A2 L2.length c2] t)) (w.alloc (.cells #[.slice A0 L0.length c0,.slice A1 L1.length c1,.slice A2 L2.length c2] t)).heap.size w.heap.size [L0,L1,L2]:=by
 have hb:Below w.heap.size w (w.alloc (.cells #[.slice A0 L0.length c0,.slice A1 L1.length c1,.slice A2 L2.length c2] t)):=(Below.refl _ _).alloc (Nat.le_refl _) _
 intro k L hk
 match k with
 | 0=>cases hk;exact ⟨A0,c0,by rw[World.cell?,heap_alloc_new];rfl,h0.to hb hb.size⟩
 | 1=>cases hk;exact ⟨A1,c1,by rw[World.cell?,heap_alloc_new];rfl,h1.to hb hb.size⟩
 | 2=>cases hk;exact ⟨A2,c2,by rw[World.cell?,heap_alloc_new];rfl,h2.to hb hb.size⟩
 | k+3=>cases hk
theorem aSp:∀a:List ByteArray,scrT a []=evs 2 a
 | []=>by simp[scrT,evs]
 | x::a=>by rw[scrT,aSp a];rfl
theorem aOb:∀b:List ByteArray,scrT [] b=evs 3 b
 | []=>by simp[scrT,evs]
 | y::b=>by rw[scrT,aOb b];rfl
theorem aVd {A B:Option Addr}{n ca m cb:Nat}{a b:List ByteArray}{w:World}(hn:n<=100000)(hm:m<=100000)(ha:Rd w w.heap.size 1 A n ca (a.map .string))(hb:Rd w w.heap.size 1 B m cb (b.map .string)) :
  Calls Tryz.prog 164 #[.slice A n ca,.slice B m cb] w (EdIs (script a b) w):=by
 have HA:=hid (show a.length=n by have:=ha.len;simpa using this)
 have HB:=hid (show b.length=m by have:=hb.len;simpa using this)
 have hca:=ha.cap
 have hcb:=hb.cap
 have hB:=aSf (w:=w) (by omega) (by omega) ha hb
 go_enter Tryz.func164,Tryz.ntmps164
 go_wp2_with fail
 refine hB.mono ?_
 rintro e w1 ⟨rfl,hb1⟩
 clear hB
 have hp:=aRx a b
 rw[HA.out,HB.out] at hp
 obtain ⟨hp1,hp2⟩:=hp
 have HS:=hid (show script a b=evs 1 (a.take (pfx a b))++rest (a.drop (pfx a b)) (b.drop (pfx a b)) from rfl)
 generalize script a b=fin at *
 generalize pfx a b=P at *
 have HW1:=hid hb1;clear hb1
 have hr0:=ha.frontS hp1
 have hE:=aDw (k:=1) (w:=w1) (by omega) (hr0.to HW1.out HW1.out.size)
 go_wp2_with fail
 refine hE.mono ?_
 rintro e w2 ⟨v6,rfl,ho6,hb2⟩
 have hl0:(evs 1 (a.take P)).length=P:=by rw[aBn,List.length_take,HA.out];omega
 rw[hl0] at ho6
 have HL0:=hid hl0
 have HW2:=hid (HW1.out.trans (hb2.mono HW1.out.size))
 have HO6:=hid (aBm ho6 HW1.out.size)
 have hra:=ha.backS hp1
 have hrb:=hb.backS hp2
 clear hE hr0 hb2 ho6 hl0 HW1 ha hb HA HB
 go_wp2
 refine aAd (fun w'=>Below w.heap.size w w') (qs 8) mixed (by kernel_rfl) HW2.out.drew ?_
 intro T M Q hT hT' hM hQ
 clear hM
 simp only[qcmp]
 simp (maxSteps:=9^7) only[↓qpre,aAb,aAf,aAc]
 (repeat refine ⟨by first|omega|(unfold inI64;omega),?_⟩)
 refine hQ _ _ ?_
 clear hQ hT hT'
 simp only[sliced,Nat.mul_one]
 generalize (if ca=P then A else Option.map (fun x=>x.add P) A)=A1 at *
 generalize (if cb=P then B else Option.map (fun x=>x.add P) B)=B1 at *
 have HW3:=hid HW2.out.drew
 have HO7:=hid HO6.out.drew
 clear HW2 HO6
 generalize w2.drew=w3 at *
 generalize evs 1 (a.take P)=L0 at *
 generalize a.drop P=a1 at *
 generalize b.drop P=b1 at *
 obtain ⟨n1,hn1⟩:∃x,x=n-P:=⟨_,rfl⟩
 obtain ⟨m1,hm1⟩:∃x,x=m-P:=⟨_,rfl⟩
 rw[<-hn1] at hra ⊢
 rw[<-hm1] at hrb ⊢
 have hl1:n1<=100000:=by omega
 have hl2:m1<=100000:=by omega
 have hP:P<=100000:=by omega
 clear hn1 hm1 hp1 hp2 hca hcb
 generalize ca-P=c1 at *
 generalize cb-P=c2 at *
 have HA:=hid (show a1.length=n1 by have:=hra.len;simpa using this)
 have HB:=hid (show b1.length=m1 by have:=hrb.len;simpa using this)
 by_cases big:400<n1\/400<m1
 ·have HR:Hid (fin=[L0,evs 2 a1,evs 3 b1].flatten):=by
   unfold Hid
   rw[HS.out,rest,if_pos (by rw[HA.out,HB.out];exact big)]
   simp
  clear HS
  obtain ⟨A6,c6,rfl,hc6⟩:=aAg HO7.out
  have HR6:=hid (Rd.of_own HO7.out hc6)
  clear HO7
  by_cases big1:400<n1
  case' neg=>have big2:400<m1:=by omega
  all_goals
   have hE1:=aDw (k:=2) (w:=w3) (by omega) (hra.to HW3.out HW3.out.size)
   go_wp2_with fail
   refine hE1.mono ?_
   rintro e w4 ⟨v7,rfl,ho7,hb4⟩
   rw[aBn,HA.out] at ho7
   obtain ⟨A7,c7,rfl,hc7⟩:=aAg ho7
   have HR7:=hid (Rd.of_own ho7 hc7)
   have HW4:=hid (HW3.out.trans (hb4.mono HW3.out.size))
   have HR6:=hid (HR6.out.to hb4 hb4.size)
   clear hE1 ho7 hb4
   have hE2:=aDw (k:=3) (w:=w4) (by omega) (hrb.to HW4.out HW4.out.size)
   go_wp2_with fail
   refine hE2.mono ?_
   rintro e w5 ⟨v8,rfl,ho8,hb5⟩
   rw[aBn,HB.out] at ho8
   obtain ⟨A8,c8,rfl,hc8⟩:=aAg ho8
   have HR8:=hid (Rd.of_own ho8 hc8)
   have HW5:=hid (HW4.out.trans (hb5.mono HW4.out.size))
   have HR6:=hid (HR6.out.to hb5 hb5.size)
   have HR7:=hid (HR7.out.to hb5 hb5.size)
   clear hE2 ho8 hb5
   have hLL:RdLL (w5.alloc (.cells #[.slice A6 P c6,.slice A7 n1 c7,.slice A8 m1 c8] 200)) (w5.alloc (.cells #[.slice A6 P c6,.slice A7 n1 c7,.slice A8 m1 c8] 200)).heap.size w5.heap.size [L0,evs 2 a1,evs 3 b1]:=by
    have h0:=HR6.out;have h1:=HR7.out;have h2:=HR8.out
    rw[show P=L0.length from HL0.out.symm] at h0 ⊢
    rw[show n1=(evs 2 a1).length by rw[aBn,HA.out]] at h1 ⊢
    rw[show m1=(evs 3 b1).length by rw[aBn,HB.out]] at h2 ⊢
    exact rdLL3 h0 h1 h2
   have hW6:=HW5.out.alloc HW5.out.size (.cells #[.slice A6 P c6,.slice A7 n1 c7,.slice A8 m1 c8] 200)
   have hC:=aHn (q:=3) (c:=3) rfl (by omega) (by simp) (by have:=HL0.out;have:=HA.out;have:=HB.out;simp[aBn];omega) hLL
   have HC:=hid hC
   have HW6:=hid hW6
   clear hLL hC hW6
   go_wp2_with fail
   refine HC.out.mono ?_
   intro e w7 h7
   have H7:=hid h7
   obtain ⟨v9,rfl,_,_⟩:=h7
   go_wp2
   go_ret
   exact (H7.out.up HW6.out HR.out.symm)
 have hn1:n1<=400:=by omega
 have hm1:m1<=400:=by omega
 have HR:Hid (fin=L0++scrT a1 b1):=by
  unfold Hid
  rw[HS.out,rest,if_neg (by rw[HA.out,HB.out];exact big)]
 clear HS big
 have hMd:=bEm (w:=w3) hn1 hm1 (hra.to HW3.out HW3.out.size) (hrb.to HW3.out HW3.out.size)
 go_wp2_with fail
 refine hMd.mono ?_
 rintro e w4 ⟨g,bx,rfl,hG,hb4⟩
 have hO8:=aAe HO7.out hb4
 have hap:∀o,v6.ownBlock=some o->o≠g/\o≠bx:=fun o ho=>by
  have h1:=(HO7.out.lt o ho).2
  have h2:=hG.ge
  have h3:=hG.lo
  exact ⟨by omega,by omega⟩
 rw[HA.out,HB.out] at hG
 obtain ⟨W,hW⟩:∃W:Nat,m1+1=W:=⟨_,rfl⟩
 obtain ⟨N,hN⟩:∃N:Nat,(n1+1)*W=N:=⟨_,rfl⟩
 rw[hW,hN] at hG
 have HG:Hid (GrR w4 g bx W N (gridL a1 b1 0 0) v6):=hid ⟨hG.c0,hG.c1,fun k u hu=>hG.cell hu,⟨hG.ge.2,hG.hi⟩,hap⟩
 have HW4:=hid (HW3.out.trans (hb4.mono HW3.out.size))
 have HO8:=hid hO8
 have HNW:=hid (And.intro hW hN)
 have hNle:N<=160801:=by rw[<-hN,<-hW];exact Nat.mul_le_mul (show n1+1<=401 by omega) (show m1+1<=401 by omega)
 clear hMd hb4 hG hap hO8 HW3 HO7 hW hN
 go_wp2
 go_loopw[6,8,9] (fun out i8 i9 wr=>∃(i q:Nat) (d:List DV),i<=n1/\q<=m1/\i8=.int .i64 i/\i9=.int .i64 q/\Hid (Below w.heap.size w wr)/\Hid (GrR wr g bx W N (gridL a1 b1 0 0) out)/\Hid (wr.ownsRow w.heap.size 203 2 out (P+d.length) ((L0++d).flatMap DV.cells))/\Hid (scrT a1 b1=d++scrT (a1.drop i) (b1.drop q))/\d.length<=i+q)
   (fun _ i8 i9 _=>(n1-(intOf i8).toNat)+(m1-(intOf i9).toNat))
 case atStart=>exact ⟨0,0,[],Nat.zero_le _,Nat.zero_le _,rfl,rfl,HW4,HG,by rw[List.append_nil];exact HO8,by rw[List.drop_zero,List.drop_zero];rfl,Nat.zero_le _⟩
 clear HW4 HG HO8
 obtain ⟨i,q,d,hi,hq,rfl,rfl,HW,HG,HO,HD,hd⟩:=hrel
 have hws:=HW.out.size
 have HLEN:Hid ((L0++d).length=P+d.length):=by rw[List.length_append,HL0.out];rfl
 by_cases h1:i<n1
 ·by_cases h2:q<m1
  ·obtain ⟨ba,oa,x,rfl,hba,hax,hacell⟩:=hra.str (k:=i) h1
   obtain ⟨bb,ob,y,rfl,hbb,hby,hbcell⟩:=hrb.str (k:=q) h2
   have HX:=hid hax
   have HY:=hid hby
   clear hax hby
   go_wp2
   refine aAd (fun w'=>Below w.heap.size w w') (qs 10) mixed (by kernel_rfl) HW.out.drew ?_
   intro T M Q hT hT' hM hQ
   have m0:M ⟨ba,oa+i,none⟩=some (.string x):=hM _ _ fun w' hw=>(hw.cell (p:=⟨ba,oa+i,none⟩) hba).trans hacell
   have m1:M ⟨bb,ob+q,none⟩=some (.string y):=hM _ _ fun w' hw=>(hw.cell (p:=⟨bb,ob+q,none⟩) hbb).trans hbcell
   clear hM
   have HW:=hid HW.out.drew
   have HG:=hid HG.out.drew
   have HO:=hid HO.out.drew
   simp only[qcmp]
   by_cases hxy:x=y
   ·have e1:(x.toList == y.toList)=true:=by rw[hxy];exact beq_self_eq_true _
    simp (maxSteps:=9^7) only[↓qpre,aAb,aAf,aAc,m0,m1]
    (repeat refine ⟨by first|omega|(unfold inI64;omega),?_⟩)
    refine hQ _ _ ?_
    clear hQ hT hT' m0 m1 e1
    subst hxy
    have c0:=(HW.out.cell (p:=⟨ba,oa+i,none⟩) hba).trans hacell
    generalize wr.drew=w5 at *
    have HW1:=hid (HW.out.alloc HW.out.size (.cells #[.int .i64 1,.string x] 203))
    have HG1:=hid (HG.out.alloc (.cells #[.int .i64 1,.string x] 203))
    have HO1:=hid (HO.out.alloc (.cells #[.int .i64 1,.string x] 203))
    clear HW HG HO
    go_wp2_with (at_builtin;refine aAm rfl (.tmp 71) (.tmp 77) 200 rfl aFv rfl rfl HO1.out (aQn _ ⟨1,x⟩) (aFn _) (by unfold maxLen;omega) (by omega) HW1.out.size ?_;intro v7 w7 ho7 hg7 hv7;have HO7:=hid ho7;have HW7:=hid (HW1.out.grown hg7 HW1.out.size (fun g hg=>(HO1.out.lt g hg).1));have HG7:=hid (HG1.out.app hg7 hv7);clear ho7 hg7 hv7 HO1 HW1 HG1)
    go_roundw
    case rel=>
     refine ⟨i+1,q+1,d++[⟨1,x⟩],by omega,by omega,by go_num,by go_num,HW7,HG7,?_,?_,by simp;omega⟩
     ·rw[<-List.append_assoc,List.flatMap_append,List.length_append,<-Nat.add_assoc];exact HO7
     have h1:=HD.out
     rw[aVw HX.out HY.out rfl] at h1
     unfold Hid
     rw[List.append_assoc]
     exact h1
    simp[intOf];omega
   have e1:=aBe hxy
   simp (maxSteps:=9^7) only[↓qpre,aAb,aAf,aAc,m0,m1]
   (repeat refine ⟨by first|omega|(unfold inI64;omega),?_⟩)
   refine hQ _ _ ?_
   clear hQ hT hT' m0 m1 e1
   have HXY:=hid hxy
   have l1:(i+1)*W+q<N:=by rw[<-HNW.out.2];exact aHw (n:=n1) (by omega) (by have:=HNW.out.1;omega)
   have l2:i*W+(q+1)<N:=by rw[<-HNW.out.2];exact aHw (n:=n1) (by omega) (by have:=HNW.out.1;omega)
   have gL:(gridL a1 b1 0 0)[(i+1)*W+q]? = some (.int .i32 (cel a1 b1 (i+1) q:Nat)):=by
    have:=aFl (a:=a1) (b:=b1) (i:=0) (j:=0) (p:=i+1) (q:=q) (by have:=HA.out;omega) (by have:=HB.out;omega) (.inl (by omega))
    rw[HB.out,HNW.out.1] at this;exact this
   have gR:(gridL a1 b1 0 0)[i*W+(q+1)]? = some (.int .i32 (cel a1 b1 i (q+1):Nat)):=by
    have:=aFl (a:=a1) (b:=b1) (i:=0) (j:=0) (p:=i) (q:=q+1) (by have:=HA.out;omega) (by have:=HB.out;omega) (by omega)
    rw[HB.out,HNW.out.1] at this;exact this
   have hG1:=aNg (w:=wr.drew) (i:=i+1) (j:=q) (W:=W) (N:=N) (g:=g) (I:=(i:Int)+1) (by push_cast;rfl) rfl rfl (by omega) l1 HG.out.c0 HG.out.c1 (HG.out.cell _ _ gL)
   have HG2:=hid (aNg (w:=wr.drew.drew) (i:=i) (j:=q+1) (W:=W) (N:=N) (g:=g) (J:=(q:Int)+1) rfl (by push_cast;rfl) rfl (by omega) l2 HG.out.drew.c0 HG.out.drew.c1 (HG.out.drew.cell _ _ gR))
   clear gL gR l1 l2
   go_wp2_with fail
   refine hG1.mono ?_
   rintro e w5 ⟨rfl,rfl⟩
   clear hG1
   go_wp2_with fail
   refine HG2.out.mono ?_
   rintro e w6 ⟨rfl,rfl⟩
   clear HG2
   have HW:=hid HW.out.drew.drew
   have HG:=hid HG.out.drew.drew
   have HO:=hid HO.out.drew.drew
   have c0:=(HW.out.cell (p:=⟨ba,oa+i,none⟩) hba).trans hacell
   have c1:=(HW.out.cell (p:=⟨bb,ob+q,none⟩) hbb).trans hbcell
   generalize wr.drew.drew.drew=w5 at *
   by_cases hc:cel a1 b1 i (q+1)<=cel a1 b1 (i+1) q
   ·have HC:=hid hc
    have HW1:=hid (HW.out.alloc HW.out.size (.cells #[.int .i64 2,.string x] 203))
    have HG1:=hid (HG.out.alloc (.cells #[.int .i64 2,.string x] 203))
    have HO1:=hid (HO.out.alloc (.cells #[.int .i64 2,.string x] 203))
    clear HW HG HO
    have hc2:decide ((cel a1 b1 (i+1) q:Nat)>=((cel a1 b1 i (q+1):Nat):Int))=true:=decide_eq_true (by omega)
    go_wp2_with (at_builtin;refine aAm rfl (.tmp 95) (.tmp 101) 200 rfl aFv rfl rfl HO1.out (aQn _ ⟨2,x⟩) (aFn _) (by unfold maxLen;omega) (by omega) HW1.out.size ?_;intro v7 w7 ho7 hg7 hv7;have HO7:=hid ho7;have HW7:=hid (HW1.out.grown hg7 HW1.out.size (fun g hg=>(HO1.out.lt g hg).1));have HG7:=hid (HG1.out.app hg7 hv7);clear ho7 hg7 hv7 HO1 HW1 HG1)
    go_roundw
    case rel=>
     refine ⟨i+1,q,d++[⟨2,x⟩],by omega,by omega,by go_num,by go_num,HW7,HG7,?_,?_,by simp;omega⟩
     ·rw[<-List.append_assoc,List.flatMap_append,List.length_append,<-Nat.add_assoc];exact HO7
     have h1:=HD.out
     rw[aZx HX.out HY.out HXY.out HC.out] at h1
     unfold Hid
     rw[List.append_assoc]
     exact h1
    simp[intOf];omega
   have HC:=hid hc
   have HW1:=hid (HW.out.alloc HW.out.size (.cells #[.int .i64 3,.string y] 203))
   have HG1:=hid (HG.out.alloc (.cells #[.int .i64 3,.string y] 203))
   have HO1:=hid (HO.out.alloc (.cells #[.int .i64 3,.string y] 203))
   clear HW HG HO
   go_wp2_with (at_builtin;refine aAm rfl (.tmp 51) (.tmp 57) 200 rfl aFv rfl rfl HO1.out (aQn _ ⟨3,y⟩) (aFn _) (by unfold maxLen;omega) (by omega) HW1.out.size ?_;intro v7 w7 ho7 hg7 hv7;have HO7:=hid ho7;have HW7:=hid (HW1.out.grown hg7 HW1.out.size (fun g hg=>(HO1.out.lt g hg).1));have HG7:=hid (HG1.out.app hg7 hv7);clear ho7 hg7 hv7 HO1 HW1 HG1)
   go_roundw
   case rel=>
    refine ⟨i,q+1,d++[⟨3,y⟩],by omega,by omega,by go_num,by go_num,HW7,HG7,?_,?_,by simp;omega⟩
    ·rw[<-List.append_assoc,List.flatMap_append,List.length_append,<-Nat.add_assoc];exact HO7
    have h1:=HD.out
    rw[bDo HX.out HY.out HXY.out HC.out] at h1
    unfold Hid
    rw[List.append_assoc]
    exact h1
   simp[intOf];omega
  have hqm:q=m1:=by omega
  subst hqm
  have HD2:Hid (scrT a1 b1=d++evs 2 (a1.drop i)):=by
   have h:=HD.out
   rw[List.drop_of_length_le (l:=b1) (by rw[HB.out];exact Nat.le_refl _),aSp] at h
   exact h
  clear HD
  go_wp2
  obtain ⟨A6,c6,rfl,hc6⟩:=aAg HO.out
  have HR6:=hid (Rd.of_own HO.out.drew hc6)
  have HW3:=hid HW.out.drew
  clear HO HG HW
  refine aAd (fun w'=>Below w.heap.size w w') [(true,0),(true,1),(true,2),(true,3),(true,5),(true,6),(true,7),(false,4),(false,8),(false,9),(false,10),(true,11)] mixed (by kernel_rfl) HW3.out ?_
  intro T M Q hT hT' hM hQ
  clear hM
  simp only[qcmp]
  simp (maxSteps:=9^7) only[↓qpre,aAb,aAf,aAc]
  (repeat refine ⟨by first|omega|(unfold inI64;omega),?_⟩)
  simp only[sliced,Nat.mul_one]
  have hr1:=hra.backS (k:=i) (by omega)
  have hr2:=hrb.backS (k:=q) (by omega)
  generalize (if c1=i then A1 else Option.map (fun x=>x.add i) A1)=A11 at *
  generalize (if c2=q then B1 else Option.map (fun x=>x.add q) B1)=B11 at *
  have hE1:=aDw (k:=2) (w:=wr.drew) (by omega) (hr1.to HW3.out HW3.out.size)
  have hE2:=fun (w4:World) (h:Below w.heap.size w w4)=>aDw (k:=3) (w:=w4) (by omega) (hr2.to h h.size)
  refine aAh (by kernel_rfl) hE1 rfl rfl ?_
  rintro e w4 ⟨v7,rfl,ho7,hb4⟩
  rw[aBn,List.length_drop,HA.out] at ho7
  obtain ⟨A7,c7,rfl,hc7⟩:=aAg ho7
  have HR7:=hid (Rd.of_own ho7 hc7)
  have HW4:=hid (HW3.out.trans (hb4.mono HW3.out.size))
  have HR6:=hid (HR6.out.to hb4 hb4.size)
  clear ho7 hb4 hE1
  refine ⟨_,rfl,hT _ HW4.out,?_⟩
  simp (maxSteps:=9^7) only[aAb,aAc]
  refine aAh (by kernel_rfl) (hE2 _ HW4.out) rfl rfl ?_
  rintro e w5 ⟨v8,rfl,ho8,hb5⟩
  rw[aBn,List.length_drop,HB.out] at ho8
  obtain ⟨A8,c8,rfl,hc8⟩:=aAg ho8
  have HR8:=hid (Rd.of_own ho8 hc8)
  have HW5:=hid (HW4.out.trans (hb5.mono HW4.out.size))
  have HR6:=hid (HR6.out.to hb5 hb5.size)
  have HR7:=hid (HR7.out.to hb5 hb5.size)
  clear ho8 hb5 hE2
  refine ⟨_,rfl,hT _ HW5.out,?_⟩
  simp (maxSteps:=9^7) only[aAb,aAc]
  have HW6:=hid (HW5.out.alloc HW5.out.size (.cells #[.slice A6 (P+d.length) c6,.slice A7 (n1-i) c7,.slice A8 (q-q) c8] 200))
  refine aMa (aMh bGa rfl rfl rfl _) rfl rfl rfl ⟨hT _ HW6.out,?_⟩
  simp (maxSteps:=9^7) only[aAb,aAc]
  have hLL:RdLL (w5.alloc (.cells #[.slice A6 (P+d.length) c6,.slice A7 (n1-i) c7,.slice A8 (q-q) c8] 200)) (w5.alloc (.cells #[.slice A6 (P+d.length) c6,.slice A7 (n1-i) c7,.slice A8 (q-q) c8] 200)).heap.size w5.heap.size [L0++d,evs 2 (a1.drop i),evs 3 (b1.drop q)]:=by
   have h0:=HR6.out;have h1:=HR7.out;have h2:=HR8.out
   rw[show P+d.length=(L0++d).length from HLEN.out.symm] at h0 ⊢
   rw[show (n1-i)=(evs 2 (a1.drop i)).length by rw[aBn,List.length_drop,HA.out]] at h1 ⊢
   rw[show (q-q)=(evs 3 (b1.drop q)).length by rw[aBn,List.length_drop,HB.out]] at h2 ⊢
   exact rdLL3 h0 h1 h2
  have HC:=hid (aHn (q:=3) (c:=3) rfl (by omega) (by simp) (by simp only[List.flatten_cons,List.flatten_nil,List.length_append,List.length_nil,aBn,List.length_drop,HL0.out,HA.out,HB.out];omega) hLL)
  clear hLL
  refine aAh (by kernel_rfl) HC.out rfl rfl ?_
  intro e w7 h7
  have H7:=hid h7
  obtain ⟨v9,rfl,_,hb9⟩:=h7
  refine ⟨_,rfl,hT _ (HW6.out.trans (hb9.mono HW6.out.size)),?_⟩
  simp (maxSteps:=9^7) only[↓qpre,aAb,aAc]
  refine hQ _ _ ?_
  clear hQ hT hT' hb9
  go_wp2
  go_ret
  refine H7.out.up HW6.out ?_
  rw[HR.out,HD2.out]
  simp[evs,HB.out]
 have hin:i=n1:=by omega
 subst hin
 have HD2:Hid (scrT a1 b1=d++evs 3 (b1.drop q)):=by
  have h:=HD.out
  rw[List.drop_of_length_le (l:=a1) (by rw[HA.out];exact Nat.le_refl _),aOb] at h
  exact h
 clear HD
 go_wp2
 obtain ⟨A6,c6,rfl,hc6⟩:=aAg HO.out
 have HR6:=hid (Rd.of_own HO.out.drew hc6)
 have HW3:=hid HW.out.drew
 clear HO HG HW
 refine aAd (fun w'=>Below w.heap.size w w') [(true,0),(true,1),(true,2),(true,3),(true,5),(true,6),(true,7),(false,4),(false,8),(false,9),(false,10),(true,11)] mixed (by kernel_rfl) HW3.out ?_
 intro T M Q hT hT' hM hQ
 clear hM
 simp only[qcmp]
 simp (maxSteps:=9^7) only[↓qpre,aAb,aAf,aAc]
 (repeat refine ⟨by first|omega|(unfold inI64;omega),?_⟩)
 simp only[sliced,Nat.mul_one]
 have hr1:=hra.backS (k:=i) (by omega)
 have hr2:=hrb.backS (k:=q) (by omega)
 generalize (if c1=i then A1 else Option.map (fun x=>x.add i) A1)=A11 at *
 generalize (if c2=q then B1 else Option.map (fun x=>x.add q) B1)=B11 at *
 have hE1:=aDw (k:=2) (w:=wr.drew) (by omega) (hr1.to HW3.out HW3.out.size)
 have hE2:=fun (w4:World) (h:Below w.heap.size w w4)=>aDw (k:=3) (w:=w4) (by omega) (hr2.to h h.size)
 refine aAh (by kernel_rfl) hE1 rfl rfl ?_
 rintro e w4 ⟨v7,rfl,ho7,hb4⟩
 rw[aBn,List.length_drop,HA.out] at ho7
 obtain ⟨A7,c7,rfl,hc7⟩:=aAg ho7
 have HR7:=hid (Rd.of_own ho7 hc7)
 have HW4:=hid (HW3.out.trans (hb4.mono HW3.out.size))
 have HR6:=hid (HR6.out.to hb4 hb4.size)
 clear ho7 hb4 hE1
 refine ⟨_,rfl,hT _ HW4.out,?_⟩
 simp (maxSteps:=9^7) only[aAb,aAc]
 refine aAh (by kernel_rfl) (hE2 _ HW4.out) rfl rfl ?_
 rintro e w5 ⟨v8,rfl,ho8,hb5⟩
 rw[aBn,List.length_drop,HB.out] at ho8
 obtain ⟨A8,c8,rfl,hc8⟩:=aAg ho8
 have HR8:=hid (Rd.of_own ho8 hc8)
 have HW5:=hid (HW4.out.trans (hb5.mono HW4.out.size))
 have HR6:=hid (HR6.out.to hb5 hb5.size)
 have HR7:=hid (HR7.out.to hb5 hb5.size)
 clear ho8 hb5 hE2
 refine ⟨_,rfl,hT _ HW5.out,?_⟩
 simp (maxSteps:=9^7) only[aAb,aAc]
 have HW6:=hid (HW5.out.alloc HW5.out.size (.cells #[.slice A6 (P+d.length) c6,.slice A7 (i-i) c7,.slice A8 (m1-q) c8] 200))
 refine aMa (aMh bGa rfl rfl rfl _) rfl rfl rfl ⟨hT _ HW6.out,?_⟩
 simp (maxSteps:=9^7) only[aAb,aAc]
 have hLL:RdLL (w5.alloc (.cells #[.slice A6 (P+d.length) c6,.slice A7 (i-i) c7,.slice A8 (m1-q) c8] 200)) (w5.alloc (.cells #[.slice A6 (P+d.length) c6,.slice A7 (i-i) c7,.slice A8 (m1-q) c8] 200)).heap.size w5.heap.size [L0++d,evs 2 (a1.drop i),evs 3 (b1.drop q)]:=by
  have h0:=HR6.out;have h1:=HR7.out;have h2:=HR8.out
  rw[show P+d.length=(L0++d).length from HLEN.out.symm] at h0 ⊢
  rw[show (i-i)=(evs 2 (a1.drop i)).length by rw[aBn,List.length_drop,HA.out]] at h1 ⊢
  rw[show (m1-q)=(evs 3 (b1.drop q)).length by rw[aBn,List.length_drop,HB.out]] at h2 ⊢
  exact rdLL3 h0 h1 h2
 have HC:=hid (aHn (q:=3) (c:=3) rfl (by omega) (by simp) (by simp only[List.flatten_cons,List.flatten_nil,List.length_append,List.length_nil,aBn,List.length_drop,HL0.out,HA.out,HB.out];omega) hLL)
 clear hLL
 refine aAh (by kernel_rfl) HC.out rfl rfl ?_
 intro e w7 h7
 have H7:=hid h7
 obtain ⟨v9,rfl,_,hb9⟩:=h7
 refine ⟨_,rfl,hT _ (HW6.out.trans (hb9.mono HW6.out.size)),?_⟩
 simp (maxSteps:=9^7) only[↓qpre,aAb,aAc]
 refine hQ _ _ ?_
 clear hQ hT hT' hb9
 go_wp2
 go_ret
 refine H7.out.up HW6.out ?_
 rw[HR.out,HD2.out]
 simp[evs,HA.out]
def ren167:Go.Shelf.Ren:=⟨fun | 167=>140 | n=>Tryz.lays156_ren.f n,Tryz.lays156_ren.t,Tryz.lays156_ren.g⟩
theorem extra167:Builder.Extra Tryz.prog ren167:={
 sizeBuilder:=by kernel_rfl
 liesBuilder:=by kernel_rfl
 t5:=Tryz.underlying5
 a5:=Tryz.isAgg5
 z5:=Tryz.sizeOf5
 v5:=Tryz.zeroValue5
 infoByte:=by kernel_rfl
 cellsByte:=by kernel_rfl
 sizeByte:=by kernel_rfl
 neB5:=by decide }
end Go.Proofs.YtcemkikgaeghjaaGreatDoor
namespace Go.Proofs.YtcemkikgaeghjaaGreatDoor
theorem aHk:∀{s:Bs},10∉s->splitL s=if s=[] then [] else [s]
 | [],_=>rfl
 | x::s,h=>by
  have hx:¬x=10:=fun e=>h (by simp[e])
  have hs:10∉s:=fun e=>h (List.mem_cons_of_mem _ e)
  rw[splitL,if_neg hx,aHk hs]
  by_cases e:s=[]
  ·subst e;rfl
  rw[if_neg e,if_neg (by simp)]
theorem aJx:∀{u v:Bs},10∉u->splitL (u++10::v)=(u++[10])::splitL v
 | [],v,_=>by rw[List.nil_append,splitL,if_pos rfl];rfl
 | x::u,v,h=>by
  have hx:¬x=10:=fun e=>h (by simp[e])
  have hu:10∉u:=fun e=>h (List.mem_cons_of_mem _ e)
  rw[List.cons_append,splitL,if_neg hx,aJx hu];rfl
theorem aHm:∀{s:Bs}{l:Bs},l∈splitL s->l≠[]
 | [],l,h=>by cases h
 | x::s,l,h=>by
  rw[splitL] at h
  split at h
  ·rcases List.mem_cons.1 h with rfl | h
   ·simp
   exact aHm h
  split at h
  ·simp only[List.mem_singleton] at h;subst h;simp
  rename_i m ms hm
  rcases List.mem_cons.1 h with rfl | h
  ·simp
  exact aHm (s:=s) (by rw[hm];exact List.mem_cons_of_mem _ h)
theorem aOd:∀(s:Bs),(splitL s).length<=s.length
 | []=>by simp[splitL]
 | x::s=>by
  have ih:=aOd s
  rw[splitL]
  split
  ·simp only[List.length_cons];omega
  split
  ·simp
  rename_i m ms hm
  rw[hm] at ih
  simp only[List.length_cons] at ih ⊢
  omega
theorem aBg (s:ByteArray):(linesF s).length<=s.size:=by
 rw[linesF,List.length_map];exact aOd _
theorem bAo {s l:ByteArray}(h:l∈linesF s):l≠⟨#[]⟩:=by
 obtain ⟨x,hx,rfl⟩:=List.mem_map.1 h
 intro e
 have h1:=aHm hx
 have h2:(ofB x).data.toList=[]:=by rw[e]
 have h3:(ofB x).data.toList=x:=by simp[ofB]
 rw[h3] at h2
 exact h1 h2
end Go.Proofs.YtcemkikgaeghjaaGreatDoor
namespace Go.Proofs.YtcemkikgaeghjaaGreatDoor
open Go.RowKit
theorem aNy:∀{a:Bs}(b:Bs),10∉a->Lib.index (a++10::b) [10]=a.length
 | [],b,_=>by rw[List.nil_append,Lib.index];simp[List.isPrefixOf]
 | c::cs,b,h=>by
  have hc:c≠10:=fun e=>h (by simp[e])
  have hc2:((10:UInt8) == c)=false:=by simp;exact fun e=>hc e.symm
  have ih:=aNy (a:=cs) b fun hm=>h (List.mem_cons_of_mem _ hm)
  rw[List.cons_append,Lib.index,ih]
  simp[List.isPrefixOf,hc2]
theorem aKm:∀(k:Nat)(s:Bs),s.count 10=k->Lib.splitK [10] 1 k s=splitL s++if s=[]\/s.getLast? = some 10 then [[]] else []
 | 0,s,h=>by
  have hm:=List.count_eq_zero.1 h
  rw[aHk hm]
  by_cases e:s=[]
  ·subst e;rfl
  rw[if_neg e,if_neg]
  ·rfl
  rintro (h1 | h1)
  ·exact e h1
  exact hm (List.mem_of_getLast? h1)
 | k+1,s,h=>by
  have hm:10∈s:=by rw[<-List.count_pos_iff];omega
  obtain ⟨a,b,rfl,ha⟩:=List.eq_append_cons_of_mem hm
  have hb:b.count 10=k:=by
   rw[List.count_append,List.count_cons_self,List.count_eq_zero.2 ha] at h;omega
  rw[aJx ha,Lib.splitK,aNy b ha,if_neg (by simp)]
  have e:((a.length:Int)).toNat=a.length:=by omega
  rw[e,List.length_singleton,List.take_append,List.drop_append]
  rw[List.take_of_length_le (by omega),List.drop_of_length_le (by omega),Nat.add_sub_cancel_left,List.nil_append]
  rw[show List.drop 1 (10::b)=b from rfl,aKm k b hb,show List.take 1 (10::b)=[10] from rfl,List.cons_append]
  congr 2
  have h1:(a++10::b=[]\/(a++10::b).getLast? = some 10)↔(b=[]\/b.getLast? = some 10):=by
   cases b with
   | nil=>simp
   | cons y b=>simp[List.getLast?_append,List.getLast?_cons_cons]
  by_cases h2:b=[]\/b.getLast? = some 10
  ·rw[if_pos h2,if_pos (h1.2 h2)]
  rw[if_neg h2,if_neg (fun h=>h2 (h1.1 h))]
theorem bFb (x:ByteArray):ofB x.data.toList=x:=by cases x;simp[ofB]
theorem aTy (s:ByteArray):(Lib.splitB ⟨#[10]⟩ 1 (Lib.countB s ⟨#[10]⟩) s=linesF s++[⟨#[]⟩])\/(Lib.splitB ⟨#[10]⟩ 1 (Lib.countB s ⟨#[10]⟩) s=linesF s/\linesF s≠[]):=by
 have h:=Lib.splitB_data ⟨#[10]⟩ 1 (Lib.countB s ⟨#[10]⟩) s
 have hc:s.data.toList.count 10=Lib.countB s ⟨#[10]⟩:=by rw[<-Lib.count_one]
 have hk:Lib.splitK (⟨#[10]⟩:ByteArray).data.toList 1 (Lib.countB s ⟨#[10]⟩) s.data.toList=_:=aKm _ _ hc
 rw[hk] at h
 have h2:Lib.splitB ⟨#[10]⟩ 1 (Lib.countB s ⟨#[10]⟩) s=(splitL s.data.toList++if s.data.toList=[]\/s.data.toList.getLast? = some 10 then [[]] else []).map ofB:=by
  rw[<-h,List.map_map]
  rw[show (ofB ∘ fun x:ByteArray=>x.data.toList)=id from funext fun x=>bFb x,List.map_id]
 rw[h2,List.map_append]
 by_cases e:s.data.toList=[]\/s.data.toList.getLast? = some 10
 ·rw[if_pos e];exact .inl rfl
 rw[if_neg e]
 refine .inr ⟨by simp[linesF],fun e2=>e (.inl ?_)⟩
 have h3:=aHu s.data.toList
 have h4:splitL s.data.toList=[]:=List.map_eq_nil_iff.1 e2
 rw[h4] at h3
 exact h3.symm
theorem aNw {s:ByteArray}{w:World}(hs:s.size<4294967281)(hm:Lm w) :
  Calls Tryz.prog 134 #[.string s,.string ⟨#[10]⟩] w fun e w'=>e=.returned (.slice (some ⟨w.heap.size,0,none⟩) (Lib.countB s ⟨#[10]⟩+1:Nat) (Lib.countB s ⟨#[10]⟩+1))/\w'=w.alloc (.cells ((Lib.splitB ⟨#[10]⟩ 1 (Lib.countB s ⟨#[10]⟩) s).map Value.string).toArray 9):=by
 obtain ⟨m,hm⟩:=hm
 have hle:=Lib.countB_le ⟨#[10]⟩ (by decide) s.size s (Nat.le_refl _)
 have hlen:=Lib.splitB_all ⟨#[10]⟩ (by decide) 1 _ s rfl
 have c:=Tryz.strings_genSplit s ⟨#[10]⟩ 1 (-1) (Lib.countB s ⟨#[10]⟩+1) m w hs hm (by decide) (by decide) (by decide) (by decide) (by rw[if_pos (by decide)];omega)
 rw[Nat.add_sub_cancel,hlen] at c
 have e2:Lib.cellsOf (Lib.splitB ⟨#[10]⟩ 1 (Lib.countB s ⟨#[10]⟩) s) (Lib.countB s ⟨#[10]⟩+1)=((Lib.splitB ⟨#[10]⟩ 1 (Lib.countB s ⟨#[10]⟩) s).map Value.string).toArray:=by rw[<-hlen];exact Lib.cellsOf_full _
 rw[e2] at c
 generalize Lib.splitB ⟨#[10]⟩ 1 (Lib.countB s ⟨#[10]⟩) s=ps at *
 generalize Lib.countB s ⟨#[10]⟩=k at *
 go_enter Tryz.func134,Tryz.ntmps134
 go_wp2_with fail
 refine c.mono ?_
 rintro e w1 ⟨rfl,rfl⟩
 go_wp2
 go_ret
 exact ⟨rfl,rfl⟩
def LinesIs (L:List ByteArray)(w:World)(e:Ending) (w':World):Prop:=
 ∃A c,e=.returned (.slice A L.length c)/\Rd w' w'.heap.size 1 A L.length c (L.map .string)/\Below w.heap.size w w'
theorem aFz {s:ByteArray}{w:World}(hs:s.size<4294967281)(hm:Lm w) :
  Calls Tryz.prog 94 #[.string s] w (LinesIs (linesF s) w):=by
 have hle:=Lib.countB_le ⟨#[10]⟩ (by decide) s.size s (Nat.le_refl _)
 have hlen:=Lib.splitB_all ⟨#[10]⟩ (by decide) 1 _ s rfl
 have hsp:=aTy s
 have hne:∀l∈linesF s,l≠⟨#[]⟩:=fun l h=>bAo h
 have c:=aNw hs hm
 generalize Lib.splitB ⟨#[10]⟩ 1 (Lib.countB s ⟨#[10]⟩) s=ps at *
 generalize Lib.countB s ⟨#[10]⟩=k at *
 generalize linesF s=L at *
 go_enter Tryz.func94,Tryz.ntmps94
 go_wp2_with fail
 refine c.mono ?_
 rintro e w1 ⟨rfl,rfl⟩
 clear c
 have hb:Below w.heap.size w (w.alloc (.cells (ps.map Value.string).toArray 9)):=(Below.refl _ _).alloc (Nat.le_refl _) _
 have hcell:∀(j:Nat) (x:ByteArray),ps[j]? = some x->(w.alloc (.cells (ps.map Value.string).toArray 9)).cell? ⟨w.heap.size,j,none⟩=some (.string x):=fun j x hx=>by
  rw[World.cell?,heap_alloc_new];simp[hx]
 have hz:(w.alloc (.cells (ps.map Value.string).toArray 9)).heap.size=w.heap.size+1:=by simp
 have HB:=hid hb
 have HZ:=hid hz
 have HC:=hid hcell
 generalize w.alloc (.cells (ps.map Value.string).toArray 9)=w1 at *
 clear hb hz hcell
 have HR:Hid (Rd w1 w1.heap.size 1 (some ⟨w.heap.size,0,none⟩) (k+1) (k+1) (ps.map .string)):=by
  refine ⟨by rw[List.length_map,hlen];omega,Nat.le_refl _,fun _=>⟨_,0,rfl,by rw[HZ.out];omega,fun j u hu=>?_⟩⟩
  rw[List.getElem?_map] at hu
  cases h:ps[j]? with
  | none=>rw[h] at hu;cases hu
  | some x=>rw[h] at hu;cases hu;rw[Nat.zero_add];exact HC.out j x h
 have i1:((k+1:Nat):Int)-1=(k:Int):=by omega
 rcases hsp with rfl | ⟨rfl,hL⟩
 ·have hk:L.length=k:=by simpa using hlen
  have c0:w1.cell? ⟨w.heap.size,k,none⟩=some (.string ⟨#[]⟩):=HC.out k _ (by rw[<-hk];simp)
  have HK:=hid hk
  clear hk hlen hne HC
  go_wp2
  go_ret
  refine ⟨some ⟨w.heap.size,0,none⟩,k+1,by rw[HK.out];rfl,?_,HB.out⟩
  have h:=HR.out.frontS (k:=k) (by omega)
  rw[List.take_left' HK.out] at h
  rw[HK.out]
  exact h
 have hk:ps.length=k+1:=hlen
 obtain ⟨x,hx⟩:∃x,ps[k]? = some x:=⟨_,List.getElem?_eq_getElem (by omega)⟩
 have c0:w1.cell? ⟨w.heap.size,k,none⟩=some (.string x):=HC.out k x hx
 have e0:=aBe (hne x (List.mem_of_getElem? hx))
 have e1:x.toList.isEmpty=false:=by
  cases h:x.toList with
  | nil=>rw[h] at e0;simp at e0
  | cons=>rfl
 have HK:=hid hk
 clear hk hlen HC hx hL
 have HNE:=hid hne
 clear hne
 go_wp2
 go_ret
 refine ⟨some ⟨w.heap.size,0,none⟩,k+1,by rw[HK.out];rfl,?_,HB.out⟩
 rw[HK.out]
 exact HR.out
theorem bEa (l:List ByteArray):(⟨(Lib.join (l.map (·.data.toList)) []).toArray⟩:ByteArray)=joinF l:=by
 have h:∀l:List Bs,Lib.join l []=l.flatten:=by
  intro l
  induction l with
  | nil=>rfl
  | cons x l ih=>
   cases l with
   | nil=>simp[Lib.join]
   | cons y l=>
    have ih':List.intercalate [] (y::l)=(y::l).flatten:=ih
    show List.intercalate [] (x::y::l)=_
    rw[List.intercalate_cons_cons,ih'];simp
 rw[h,joinF,ofB,List.flatMap_def]
theorem aXa {A:Option Addr}{n c:Nat}{l:List ByteArray}{w:World}(hn:n<=140737488355328)(h:Rd w w.heap.size 1 A n c (l.map .string))(hs:(joinF l).size<=140737488355328) :
  Calls Tryz.prog 96 #[.slice A n c] w fun e w'=>e=.returned (.string (joinF l))/\Below w.heap.size w w':=by
 have hl:l.length=n:=by have:=h.len;rw[List.length_map] at this;omega
 have hj:=bEa l
 have hC:Calls Tryz.prog 137 #[.slice A n c,.string ⟨#[]⟩] w fun e w'=>e=.returned (.string (joinF l))/\Below w.heap.size w w':=by
  cases n with
  | zero=>
   have:l=[]:=List.length_eq_zero_iff.1 hl
   subst this
   refine (Tryz.strings_Join_none A c ⟨#[]⟩ w).mono ?_
   rintro e w' ⟨rfl,rfl⟩
   exact ⟨rfl,Below.refl _ _⟩
  | succ n=>
   obtain ⟨b,o,rfl,hb,hc⟩:=h.at_ (by omega)
   rw[<-hl] at hn h ⊢
   have:=Tryz.strings_Join b o c l ⟨#[]⟩ w (fun j x hx=>hc j _ (by rw[List.getElem?_map,hx];rfl)) hb hn h.cap (by
    have e:(Lib.join (l.map (·.data.toList)) (⟨#[]⟩:ByteArray).data.toList).length=(joinF l).size:=by rw[<-hj];rfl
    rw[e];exact hs)
   rw[<-hj]
   exact this
 generalize joinF l=s at *
 go_enter Tryz.func96,Tryz.ntmps96
 go_wp2_with fail
 refine hC.mono ?_
 rintro e w1 ⟨rfl,hb⟩
 go_wp2
 go_ret
 exact ⟨rfl,hb⟩
end Go.Proofs.YtcemkikgaeghjaaGreatDoor
