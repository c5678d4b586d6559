/- Texts of the walks, together: The grid of what two lists' rests have in common: what it says, how it lies. Walk: diff.made: the grid of two lists. Walks: diff.edits; slices.Grow, slices.Concat of edits. Walk: slices.Concat of edits. Walk: diff.Common: how much two lists have in common. -/
import Derived.OwnWalk
import Derived.Test.YtohblmepajhpaaaGreatDoorG05
import Derived.Test.YtohblmepajhpaaaGreatDoorG06
set_option maxHeartbeats 8000000
set_option maxRecDepth 100000
open Go.Lib (hid)
namespace Go.Proofs.YtohblmepajhpaaaGreatDoor
open Go.RowKit
theorem bCk {x:Int}(h:0<=x/\x<=2000000000):IntKind.i32.wrap x=x:=by
 simp[IntKind.wrap,IntKind.bits,IntKind.signed];omega
def gcel (a b:List ByteArray)(i j p q:Nat):Nat:=if i<p\/(i=p/\j<=q) then cel a b p q else 0
def gridL (a b:List ByteArray)(i j:Nat):List Value:=(List.range ((a.length+1)*(b.length+1))).map fun t=>Value.int .i32 ((gcel a b i j (t / (b.length+1)) (t % (b.length+1)):Nat):Int)
theorem aFr {n W i j:Nat}(hi:i<=n)(hj:j<W):i*W+j<(n+1)*W:=by
 have:=Nat.mul_le_mul_right W hi
 rw[Nat.add_mul]
 omega
theorem aUd {W i j:Nat}(hj:j<W):(i*W+j) / W=i/\(i*W+j) % W=j:=by
 have hW:0<W:=by omega
 exact ⟨by rw[Nat.add_comm,Nat.add_mul_div_right _ _ hW,Nat.div_eq_of_lt hj,Nat.zero_add],by rw[Nat.add_comm,Nat.add_mul_mod_self_right,Nat.mod_eq_of_lt hj]⟩
theorem aLg (a b:List ByteArray)(i j:Nat):(gridL a b i j).length=(a.length+1)*(b.length+1):=by simp[gridL]
theorem aEj {a b:List ByteArray}{i j p q:Nat}(hp:p<=a.length)(hq:q<=b.length)(h:i<p\/(i=p/\j<=q)):(gridL a b i j)[p*(b.length+1)+q]? = some (.int .i32 (cel a b p q:Nat)):=by
 obtain ⟨h1,h2⟩:=aUd (W:=b.length+1) (i:=p) (j:=q) (by omega)
 have hlt:=aFr (n:=a.length) (W:=b.length+1) (j:=q) hp (by omega)
 rw[gridL,List.getElem?_map,List.getElem?_range hlt,Option.map_some,h1,h2,gcel,if_pos h]
theorem aSv (a b:List ByteArray):gridL a b a.length 0=List.replicate ((a.length+1)*(b.length+1)) (.int .i32 0):=by
 refine List.ext_getElem (by simp[gridL]) fun t h1 h2=>?_
 simp only[gridL,List.getElem_map,List.getElem_range,List.getElem_replicate]
 rw[aLg] at h1
 have:gcel a b a.length 0 (t / (b.length+1)) (t % (b.length+1))=0:=by
  unfold gcel
  split
  ·rename_i h
   have h3:t / (b.length+1)<a.length+1:=Nat.div_lt_of_lt_mul (by rw[Nat.mul_comm];exact h1)
   rw[show t / (b.length+1)=a.length by omega]
   exact aUp a b _
  rfl
 rw[this];rfl
theorem bAm (a b:List ByteArray)(i:Nat):gridL a b (i+1) 0=gridL a b i b.length:=by
 refine List.ext_getElem (by simp[gridL]) fun t h1 h2=>?_
 simp only[gridL,List.getElem_map,List.getElem_range]
 congr 2
 have hlt:t % (b.length+1)<b.length+1:=Nat.mod_lt _ (by omega)
 unfold gcel
 by_cases h:i<t / (b.length+1)
 ·rw[if_pos (by omega),if_pos (by omega)]
 rw[if_neg (by omega)]
 split
 ·rename_i h'
  rw[show t % (b.length+1)=b.length by omega,aYw]
 rfl
theorem aYm (a b:List ByteArray){i j:Nat}(hj:j<=b.length):(gridL a b i (j+1)).set (i*(b.length+1)+j) (.int .i32 (cel a b i j:Nat))=gridL a b i j:=by
 refine List.ext_getElem (by simp[gridL]) fun t h1 h2=>?_
 rw[List.getElem_set]
 split
 ·rename_i h
  subst h
  obtain ⟨h1,h2⟩:=aUd (W:=b.length+1) (i:=i) (j:=j) (by omega)
  simp only[gridL,List.getElem_map,List.getElem_range,h1,h2,gcel]
  rw[if_pos (Or.inr ⟨trivial,Nat.le_refl _⟩)]
 rename_i h
 simp only[gridL,List.getElem_map,List.getElem_range]
 congr 2
 have e:=Nat.div_add_mod t (b.length+1)
 unfold gcel
 by_cases c:i<t / (b.length+1)\/(i=t / (b.length+1)/\j+1<=t % (b.length+1))
 ·rw[if_pos c,if_pos (by omega)]
 rw[if_neg c,if_neg]
 rintro (g | ⟨g1,g2⟩)
 ·omega
 refine h ?_
 have:j=t % (b.length+1):=by omega
 rw[this,g1,Nat.mul_comm];exact e
structure Gr (w:World) (B g bx W N:Nat) (xs:List Value):Prop where
 c0:w.cell? ⟨bx,0,none⟩=some (.slice (some ⟨g,0,none⟩) N N)
 c1:w.cell? ⟨bx,1,none⟩=some (.int .i64 W)
 own:w.ownsRow B 21 1 (.slice (some ⟨g,0,none⟩) N N) N xs
 ne:bx≠g
 lo:B<=bx
 hi:bx<w.heap.size
theorem aAg {B:Nat}{e:TypeId}{k:Nat}{v:Value}{n:Nat}{xs:List Value} {w w':World}(h:w.ownsRow B e k v n xs)(hb:Below w.heap.size w w'):w'.ownsRow B e k v n xs:=
 h.kept (row:=none) ⟨hb.os,hb.tape,hb.output,hb.size,fun j hj _=>hb.block j hj⟩ (by cases hv:v.ownBlock<;>simp)
section
variable {w w':World} {B g bx W N:Nat} {xs:List Value}
theorem Gr.drew (h:Gr w B g bx W N xs):Gr w.drew B g bx W N xs:=⟨h.c0,h.c1,h.own.drew,h.ne,h.lo,h.hi⟩
theorem Gr.cell (h:Gr w B g bx W N xs){k:Nat}{u:Value}(hu:xs[k]? = some u):w.cell? ⟨g,k,none⟩=some u:=by
 rw[h.own.cellAt k (by rw[<-h.own.1];exact (List.getElem?_eq_some_iff.1 hu).1),hu]
theorem Gr.frz (h:Gr w B g bx W N xs)(k:Nat):w.frozen? ⟨g,k,none⟩=false:=h.own.frozenAt k
theorem Gr.store (h:Gr w B g bx W N xs)(k:Nat)(u:Value):Gr (w.setCell ⟨g,k,none⟩ u) B g bx W N (xs.set k u):=by
 have h2:=h.own.stored k u
 have hne:∀o:Nat,(⟨g,k,none⟩:Addr)≠⟨bx,o,none⟩:=fun o e=>h.ne (by injection e with e1 _ _;exact e1.symm)
 exact ⟨by rw[World.cell?_setCell_other _ _ _ _ (hne 0)];exact h.c0,by rw[World.cell?_setCell_other _ _ _ _ (hne 1)];exact h.c1,h2.1,h.ne,h.lo,by simpa using h.hi⟩
theorem Gr.ge (h:Gr w B g bx W N xs):B<=g/\g<w.heap.size:=h.own.lt g rfl
end
theorem aLj {bx g W N i j o:Nat}{I J:Int}{v:Value}{w:World}(hI:I=(i:Int))(hJ:J=(j:Int))(ho:i*W+j=o)(hN:N<=17592186044416)(hoN:o<N)
  (c0:w.cell? ⟨bx,0,none⟩=some (.slice (some ⟨g,0,none⟩) N N)) (c1:w.cell? ⟨bx,1,none⟩=some (.int .i64 W)) (cv:w.cell? ⟨g,o,none⟩=some v) :
  Calls Tryz.prog 288 #[.pointer (some ⟨bx,0,none⟩),.int .i64 I,.int .i64 J] w fun e w'=>e=.returned v/\w'=w.drew:=by
 subst hI;subst hJ
 have e1:(i:Int)*(W:Int)=((i*W:Nat):Int):=(Int.natCast_mul ..).symm
 generalize i*W=s at *
 subst ho
 go_enter Tryz.func288,Tryz.ntmps288
 go_wp2
 refine aAi (fun w'=>w'=w.drew) (qs 15) mixed (by kernel_rfl) rfl ?_
 intro Tp M Q hT hT' hM hQ
 have m0:M ⟨bx,0,none⟩=some (.slice (some ⟨g,0,none⟩) N N):=hM _ _ fun w' hw=>by subst hw;exact c0
 have m1:M ⟨bx,1,none⟩=some (.int .i64 W):=hM _ _ fun w' hw=>by subst hw;exact c1
 have m2:M ⟨g,s+j,none⟩=some v:=hM _ _ fun w' hw=>by subst hw;exact cv
 have e2:(s:Int)+(j:Int)=((s+j:Nat):Int):=by omega
 simp only[qcmp]
 simp (maxSteps:=9^7) only[↓qpre,aAb,aAd,aAc,m0,m1,e1,e2,m2]
 (repeat refine And.intro (by first|omega|(unfold inI64;omega)) ?_)
 refine hQ _ _ ?_
 clear hQ hT hT' hM m0 m1 m2
 go_wp2
 go_ret
 exact ⟨rfl,rfl⟩
structure Elem1 (P:Program) (t e:TypeId) (bytes:Nat) (z:Value):Prop where
 und:P.underlying t=some (.slice e)
 row:∃i,P.info? e=some i/\i.zero=some z/\i.size=1/\i.bytes=bytes
 one:z.cells=#[z]
theorem aNr {P:Program}{w:World}{a:Act}{ops:Array Oper}{rest:List Oper}{o:Oper}{Q:Exit->Act->World->Prop}(hgd:o.guard=none)(l c:Operand)(t:TypeId)
  (ho:o.op=.makeSlice t l c) {e:TypeId} {bytes:Nat} {z:Value} (E:Elem1 P t e bytes z) (base n:Nat)
  {L C:Int} (hl:a.eval l=.int .i64 L) (hc:a.eval c=.int .i64 C) (hL:L=(n:Int)) (hC:C=(n:Int)) (hb:bytes*n<=281474976710656) (h63:n<=maxLen) (hbase:base<=w.heap.size)
  (hK:∀w',w'.ownsRow base e 1 (.slice (some ⟨w.heap.size,0,none⟩) n n) n (List.replicate n z)->w.grownBy w' none->wpList P ops Q rest (a.put o.dst (.slice (some ⟨w.heap.size,0,none⟩) n n)) w') :
  wpList P ops Q (o::rest) a w:=by
 obtain ⟨i,hi,hz,hs,hby⟩:=E.row
 refine wpList_make_full w hgd l c t ho base e i z 1 E.und hi hz hs .i64 .i64 L C n hl hc hL hC (by rw[hby];exact hb) h63 hbase fun w' h1 h2=>hK w' ?_ h2
 rw[E.one,Nat.mul_one,toList_madeCells_one] at h1
 exact h1
theorem bBj {P:Program}{t e:TypeId}{bytes:Nat}{z:Value}(E:Elem P t e 1 bytes)(hz:(P.info? e).bind (·.zero)=some z)(h1:z.cells=#[z]):Elem1 P t e bytes z:=by
 obtain ⟨i,z',hi,hz',hs,hb,_⟩:=E.row
 rw[hi] at hz
 simp only[Option.bind_some,hz'] at hz
 cases hz
 exact ⟨E.und,⟨i,hi,hz',hs,hb⟩,h1⟩
theorem bEc:Elem1 Tryz.prog 321 21 4 (.int .i32 0):=bBj (aBq (by kernel_rfl)) (by kernel_rfl) rfl
def MadeIs (a b:List ByteArray)(w:World)(e:Ending) (w':World):Prop:=
 ∃g bx,e=.returned (.pointer (some ⟨bx,0,none⟩))/\Gr w' w.heap.size g bx (b.length+1) ((a.length+1)*(b.length+1)) (gridL a b 0 0)/\Below w.heap.size w w'
theorem bDf {A B:Option Addr}{n ca m cb:Nat}{a b:List ByteArray}{w:World}(hn:n<=400)(hm:m<=400)(ha:Rd w w.heap.size 1 A n ca (a.map .string))(hb:Rd w w.heap.size 1 B m cb (b.map .string)) :
  Calls Tryz.prog 287 #[.slice A n ca,.slice B m cb] w (MadeIs a b w):=by
 have hla:a.length=n:=by have:=ha.len;rw[List.length_map] at this;omega
 have hlb:b.length=m:=by have:=hb.len;rw[List.length_map] at this;omega
 have HA:=hid hla
 have HB:=hid hlb
 clear hla hlb
 obtain ⟨W,hW⟩:∃W:Nat,m+1=W:=⟨_,rfl⟩
 have hWi:(m:Int)+1=(W:Int):=by omega
 obtain ⟨N,hN⟩:∃N:Nat,(n+1)*W=N:=⟨_,rfl⟩
 have hNle:N<=160801:=by rw[<-hN];exact Nat.mul_le_mul (show n+1<=401 by omega) (show W<=401 by omega)
 have hNi:((n:Int)+1)*(W:Int)=(N:Int):=by rw[<-hN];push_cast;rfl
 have HN:=hid hN
 go_enter Tryz.func287,Tryz.ntmps287
 go_wp2_with first
  | (at_make;refine aNr rfl (.tmp 14) (.tmp 14) 321 rfl bEc w.heap.size N rfl rfl rfl rfl (by omega) (by simp only[maxLen];omega) (Nat.le_refl _) ?_;intro w1 hown1 hgrow1)
 have hB1:Below w.heap.size w w1:=(Below.refl _ _).grown hgrow1 (Nat.le_refl _) (fun g hg=>by cases hg)
 have hlt1:=(hown1.lt _ rfl).2
 have hG:Gr (w1.alloc (.cells #[.slice (some ⟨w.heap.size,0,none⟩) N N,.int .i64 (W:Int)] 342)) w.heap.size w.heap.size w1.heap.size W N (gridL a b n 0):=by
  refine ⟨?_,?_,?_,by intro e;simp only at hlt1;omega,hgrow1.size,by simp⟩
  ·rw[World.cell?,heap_alloc_new];rfl
  ·rw[World.cell?,heap_alloc_new];rfl
  have e:gridL a b n 0=List.replicate N (.int .i32 0):=by rw[<-HA.out,aSv,HA.out,HB.out,hW,HN.out]
  rw[e]
  exact hown1.alloc _
 have HG:=hid hG
 have HB2:=hid (hB1.alloc (by exact hgrow1.size) (.cells #[.slice (some ⟨w.heap.size,0,none⟩) N N,.int .i64 (W:Int)] 342))
 clear hG hB1 hown1 hgrow1
 generalize w1.alloc (.cells #[.slice (some ⟨w.heap.size,0,none⟩) N N,.int .i64 (W:Int)] 342)=w2 at *
 generalize w1.heap.size=bx at *
 go_loopw[6] (fun i wr=>∃j:Nat,j<=n/\i=.int .i64 ((j:Int)-1)/\Hid (Below w.heap.size w wr)/\Hid (Gr wr w.heap.size w.heap.size bx W N (gridL a b j 0)))
   (fun i _=>(intOf i+1).toNat)
 case atStart=>exact ⟨n,Nat.le_refl _,rfl,HB2,HG⟩
 clear HB2 HG
 obtain ⟨j,hj,rfl,HW,HT⟩:=hrel
 cases j with
 | zero=>
  go_wp2
  go_ret
  exact ⟨w.heap.size,bx,rfl,by rw[HA.out,HB.out,hW,HN.out];exact HT.out,HW.out⟩
 | succ j=>
  rw[show ((j+1:Nat):Int)-1=(j:Int) from by omega]
  obtain ⟨ba,oa,x,rfl,hba,hax,hacell⟩:=ha.str (k:=j) (by omega)
  have HX:=hid hax
  clear hax
  go_wp2
  go_loopw[7] (fun k wr=>∃q:Nat,q<=m/\k=.int .i64 ((q:Int)-1)/\Hid (Below w.heap.size w wr)/\Hid (Gr wr w.heap.size w.heap.size bx W N (gridL a b j q)))
    (fun k _=>(intOf k+1).toNat)
  case atStart=>exact ⟨m,Nat.le_refl _,rfl,HW,by have:=HT.out;rw[bAm,HB.out] at this;exact this⟩
  clear HW HT
  obtain ⟨q,hq,rfl,HW,HT⟩:=hrel
  cases q with
  | zero=>
   go_wp2
   go_roundw
   case rel=>exact ⟨j,by omega,by go_num,HW,HT⟩
   simp[intOf]
  | succ q=>
   rw[show ((q+1:Nat):Int)-1=(q:Int) from by omega]
   obtain ⟨bb,ob,y,rfl,hbb,hby,hbcell⟩:=hb.str (k:=q) (by omega)
   have HY:=hid hby;clear hby
   go_wp2
   refine aAi (fun w'=>Below w.heap.size w w') (qs 9) mixed (by kernel_rfl) HW.out.drew ?_
   intro T M Q hT hT' hM hQ
   have m0:M ⟨ba,oa+j,none⟩=some (.string x):=hM _ _ fun w' hw=>(hw.cell (p:=⟨ba,oa+j,none⟩) hba).trans hacell
   have m1:M ⟨bb,ob+q,none⟩=some (.string y):=hM _ _ fun w' hw=>(hw.cell (p:=⟨bb,ob+q,none⟩) hbb).trans hbcell
   clear hM
   have HW2:=hid HW.out.drew
   have HT2:=hid HT.out.drew
   clear HW HT
   have hstep:=aTt HX.out HY.out
   have HS:Hid (cel a b j q<=401):=by have:=aRj a b j q;have:=HA.out;unfold Hid;omega
   have hlt:j*W+q<N:=by rw[<-hN];exact aFr (n:=n) (by omega) (by omega)
   have hlt1:(j+1)*W+q<N:=by rw[<-hN];exact aFr (n:=n) (by omega) (by omega)
   have hlt2:(j+1)*W+(q+1)<N:=by rw[<-hN];exact aFr (n:=n) (by omega) (by omega)
   have hlt3:j*W+(q+1)<N:=by rw[<-hN];exact aFr (n:=n) (by omega) (by omega)
   have hset:=aYm a b (i:=j) (j:=q) (by have:=HB.out;omega)
   have gD:(gridL a b j (q+1))[(j+1)*W+(q+1)]? = some (.int .i32 (cel a b (j+1) (q+1):Nat)):=by
    have:=aEj (a:=a) (b:=b) (i:=j) (j:=q+1) (p:=j+1) (q:=q+1) (by have:=HA.out;omega) (by have:=HB.out;omega) (.inl (by omega))
    rw[HB.out,hW] at this;exact this
   have gL:(gridL a b j (q+1))[(j+1)*W+q]? = some (.int .i32 (cel a b (j+1) q:Nat)):=by
    have:=aEj (a:=a) (b:=b) (i:=j) (j:=q+1) (p:=j+1) (q:=q) (by have:=HA.out;omega) (by have:=HB.out;omega) (.inl (by omega))
    rw[HB.out,hW] at this;exact this
   have gR:(gridL a b j (q+1))[j*W+(q+1)]? = some (.int .i32 (cel a b j (q+1):Nat)):=by
    have:=aEj (a:=a) (b:=b) (i:=j) (j:=q+1) (p:=j) (q:=q+1) (by have:=HA.out;omega) (by have:=HB.out;omega) (.inr ⟨rfl,by omega⟩)
    rw[HB.out,hW] at this;exact this
   rw[HB.out,hW] at hset
   have HSET:=hid hset
   have HD:=hid (And.intro gD (And.intro gL gR))
   clear hset gD gL gR
   simp only[qcmp]
   by_cases hxy:x=y
   ·have e1:(x.toList == y.toList)=true:=by rw[hxy];exact beq_self_eq_true _
    rw[if_pos hxy] at hstep
    simp (maxSteps:=9^7) only[↓qpre,aAb,aAd,aAc,m0,m1]
    (repeat refine And.intro (by first|omega|(unfold inI64;omega)) ?_)
    refine hQ _ _ ?_
    clear hQ hT hT' m0 m1 e1
    go_wp2
    refine aAi (fun w'=>w'.cell? ⟨bx,0,none⟩=some (.slice (some ⟨w.heap.size,0,none⟩) N N)/\w'.cell? ⟨bx,1,none⟩=some (.int .i64 W)) (qe [17,20] 21) mixed (by kernel_rfl) ⟨HT2.out.c0,HT2.out.c1⟩ ?_
    intro T M Q hT hT' hM hQ
    have m0:M ⟨bx,0,none⟩=some (.slice (some ⟨w.heap.size,0,none⟩) N N):=hM _ _ fun w' hw=>hw.1
    have m1:M ⟨bx,1,none⟩=some (.int .i64 W):=hM _ _ fun w' hw=>hw.2
    have i1:(j:Int)*(W:Int)=((j*W:Nat):Int):=(Int.natCast_mul ..).symm
    have i2:((j*W:Nat):Int)+(q:Int)=((j*W+q:Nat):Int):=by push_cast;rfl
    simp only[qcmp,Nat.reduceBEq]
    simp (maxSteps:=9^7) only[↓qpre,aAb,aAd,aAc,m0,m1,i1,i2]
    (repeat refine And.intro (by first|omega|(unfold inI64;omega)) ?_)
    have HT3:=hid HT2.out.drew
    have HW3:=hid HW2.out.drew
    refine aAf (by kernel_rfl) (aLj (i:=j+1) (j:=q+1) (W:=W) (N:=N) (g:=w.heap.size) (by push_cast;rfl) (by push_cast;rfl) rfl (by omega) hlt2 HT3.out.c0 HT3.out.c1 (HT3.out.cell HD.out.1)) rfl rfl ?_
    rintro e w5 ⟨rfl,rfl⟩
    have HT4:=hid HT3.out.drew
    have HW4:=hid HW3.out.drew
    refine ⟨_,rfl,hT _ ⟨HT4.out.c0,HT4.out.c1⟩,?_⟩
    have i3:IntKind.i32.wrap ((cel a b (j+1) (q+1):Nat)+1:Int)=((cel a b j q:Nat):Int):=by rw[hstep];push_cast;exact bCk (by have:=HS.out;omega)
    simp (maxSteps:=9^7) only[↓qpre,aAb,aAd,aAc,i3]
    (repeat refine And.intro (by first|omega|(unfold inI64;omega)) ?_)
    have hcur:∃u,(gridL a b j (q+1))[j*W+q]? = some u:=⟨_,List.getElem?_eq_getElem (by rw[aLg,HA.out,HB.out,hW,hN];exact hlt)⟩
    obtain ⟨u,hu⟩:=hcur
    have hst:=HT4.out.store (j*W+q) (.int .i32 (cel a b j q:Nat))
    rw[HSET.out] at hst
    have hcs:=congrArg Option.isSome (HT4.out.cell hu)
    have HW5:=hid (HW4.out.setCell (p:=⟨w.heap.size,j*W+q,none⟩) (Nat.le_refl _) (.int .i32 (cel a b j q:Nat)))
    have HST:=hid hst
    refine aBj (v:=.int .i32 (cel a b j q:Nat)) (b:=w.heap.size) (o:=j*W+q) (by kernel_rfl) rfl rfl hcs (HT4.out.frz _) rfl ⟨hT _ ⟨hst.c0,hst.c1⟩,?_⟩
    simp (maxSteps:=9^7) only[aAb]
    refine hQ _ _ ?_
    clear hQ hT hT' hM m0 m1 i1 i2 i3 hst hcs hu HD HSET HS hstep HT4 HW4 HT3 HW3 HT2 HW2 HX HY
    go_wp2
    go_roundw
    case rel=>exact ⟨q,by omega,by go_num,HW5,HST⟩
    simp[intOf]
   have e1:=aBw hxy
   rw[if_neg hxy] at hstep
   simp (maxSteps:=9^7) only[↓qpre,aAb,aAd,aAc,m0,m1]
   (repeat refine And.intro (by first|omega|(unfold inI64;omega)) ?_)
   refine hQ _ _ ?_
   clear hQ hT hT' m0 m1 e1
   go_wp2
   refine aAi (fun w'=>w'.cell? ⟨bx,0,none⟩=some (.slice (some ⟨w.heap.size,0,none⟩) N N)/\w'.cell? ⟨bx,1,none⟩=some (.int .i64 W)) [(true,0),(true,1),(true,2),(true,3),(true,4),(true,5),(true,6),(true,7),(true,8),(true,9),(true,10),(true,11),(true,12),(true,13),(true,14),(true,15),(true,17),(true,18),(true,19),(true,20),(false,16),(false,21),(true,22),(true,23),(false,24)] mixed (by kernel_rfl) ⟨HT2.out.c0,HT2.out.c1⟩ ?_
   intro T M Q hT hT' hM hQ
   have m0:M ⟨bx,0,none⟩=some (.slice (some ⟨w.heap.size,0,none⟩) N N):=hM _ _ fun w' hw=>hw.1
   have m1:M ⟨bx,1,none⟩=some (.int .i64 W):=hM _ _ fun w' hw=>hw.2
   have i1:(j:Int)*(W:Int)=((j*W:Nat):Int):=(Int.natCast_mul ..).symm
   have i2:((j*W:Nat):Int)+(q:Int)=((j*W+q:Nat):Int):=by push_cast;rfl
   simp only[qcmp]
   simp (maxSteps:=9^7) only[↓qpre,aAb,aAd,aAc,m0,m1,i1,i2]
   (repeat refine And.intro (by first|omega|(unfold inI64;omega)) ?_)
   have HT3:=hid HT2.out.drew
   have HW3:=hid HW2.out.drew
   refine aAf (by kernel_rfl) (aLj (i:=j+1) (j:=q) (W:=W) (N:=N) (g:=w.heap.size) (by push_cast;rfl) rfl rfl (by omega) hlt1 HT3.out.c0 HT3.out.c1 (HT3.out.cell HD.out.2.1)) rfl rfl ?_
   rintro e w5 ⟨rfl,rfl⟩
   have HT3':=hid HT3.out.drew
   have HW3':=hid HW3.out.drew
   refine ⟨_,rfl,hT _ ⟨HT3'.out.c0,HT3'.out.c1⟩,?_⟩
   simp (maxSteps:=9^7) only[aAb,aAc]
   refine aAf (by kernel_rfl) (aLj (i:=j) (j:=q+1) (W:=W) (N:=N) (g:=w.heap.size) rfl (by push_cast;rfl) rfl (by omega) hlt3 HT3'.out.c0 HT3'.out.c1 (HT3'.out.cell HD.out.2.2)) rfl rfl ?_
   rintro e w5 ⟨rfl,rfl⟩
   have HT4:=hid HT3'.out.drew
   have HW4:=hid HW3'.out.drew
   refine ⟨_,rfl,hT _ ⟨HT4.out.c0,HT4.out.c1⟩,?_⟩
   have i3:max ((cel a b (j+1) q:Nat):Int) ((cel a b j (q+1):Nat):Int)=((cel a b j q:Nat):Int):=by rw[hstep];omega
   simp (maxSteps:=9^7) only[↓qpre,aAb,aAd,aAc,i3]
   (repeat refine And.intro (by first|omega|(unfold inI64;omega)) ?_)
   have hcur:∃u,(gridL a b j (q+1))[j*W+q]? = some u:=⟨_,List.getElem?_eq_getElem (by rw[aLg,HA.out,HB.out,hW,hN];exact hlt)⟩
   obtain ⟨u,hu⟩:=hcur
   have hst:=HT4.out.store (j*W+q) (.int .i32 (cel a b j q:Nat))
   rw[HSET.out] at hst
   have hcs:=congrArg Option.isSome (HT4.out.cell hu)
   have HW5:=hid (HW4.out.setCell (p:=⟨w.heap.size,j*W+q,none⟩) (Nat.le_refl _) (.int .i32 (cel a b j q:Nat)))
   have HST:=hid hst
   refine aBj (v:=.int .i32 (cel a b j q:Nat)) (b:=w.heap.size) (o:=j*W+q) (by kernel_rfl) rfl rfl hcs (HT4.out.frz _) rfl ⟨hT _ ⟨hst.c0,hst.c1⟩,?_⟩
   simp (maxSteps:=9^7) only[aAb]
   refine hQ _ _ ?_
   clear hQ hT hT' hM m0 m1 i1 i2 i3 hst hcs hu HD HSET HS hstep HT4 HW4 HT3 HW3 HT2 HW2 HX HY
   go_wp2
   go_roundw
   case rel=>exact ⟨q,by omega,by go_num,HW5,HST⟩
   simp[intOf]
theorem aFv:Elem Tryz.prog 190 193 2 24:=aBq (by kernel_rfl)
theorem aEr (l:List DV):∀u∈l.flatMap DV.cells,u.oneCell'=true:=by
 intro u hu
 obtain ⟨f,_,hf⟩:=List.mem_flatMap.1 hu
 simp only[DV.cells,List.mem_cons,List.mem_nil_iff,or_false] at hf
 rcases hf with rfl | rfl<;>rfl
theorem aNl (w:World)(f:DV):Rd (w.alloc (.cells #[.int .i64 f.kind,.string f.line] 193)) (w.alloc (.cells #[.int .i64 f.kind,.string f.line] 193)).heap.size 2 (some ⟨w.heap.size,0,none⟩) 1 1 ([f].flatMap DV.cells):=
 ⟨rfl,Nat.le_refl _,fun _=>⟨_,0,rfl,by simp,fun j u hu=>by
  rw[Nat.zero_add,World.cell?,heap_alloc_new]
  simpa[DV.cells] using hu⟩⟩
theorem bCj {k:Int}{a:List ByteArray}{j:Nat}{x:ByteArray}(hx:a[j]? = some x):evs k (a.take (j+1))=evs k (a.take j)++[⟨k,x⟩]:=by
 rw[List.take_add_one,hx];simp[evs]
theorem aBp (k:Int)(a:List ByteArray):(evs k a).length=a.length:=by simp[evs]
def EdIs (L:List DV)(w:World)(e:Ending) (w':World):Prop:=CloneIs 193 2 L.length (L.flatMap DV.cells) w e w'
theorem aDc {A:Option Addr}{n c:Nat}{a:List ByteArray}{k:Int}{w:World}(hn:n<=1000000)(ha:Rd w w.heap.size 1 A n c (a.map .string)) :
  Calls Tryz.prog 285 #[.int .i64 k,.slice A n c] w (EdIs (evs k a) w):=by
 have hla:a.length=n:=by have:=ha.len;rw[List.length_map] at this;omega
 have HA:=hid hla
 clear hla
 go_enter Tryz.func285,Tryz.ntmps285
 go_wp2
 go_loopw[5,10] (fun out i wr=>∃j:Nat,j<=n/\i=.int .i64 j/\Hid (Below w.heap.size w wr)/\Hid (wr.ownsRow w.heap.size 193 2 out j ((evs k (a.take j)).flatMap DV.cells))) (fun _ i _=>n-(intOf i).toNat)
 case atStart=>exact ⟨0,Nat.zero_le _,rfl,hid (Below.refl _ _),by rw[List.take_zero];exact World.ownsRow_nil _ _ _ _⟩
 obtain ⟨j,hj,rfl,HW,HO⟩:=hrel
 have hws:=HW.out.size
 by_cases hlt:j<n
 ·obtain ⟨b0,o0,x,rfl,hbb,hx,h0⟩:=ha.str hlt
  have c0:=(HW.out.cell (p:=⟨b0,o0+j,none⟩) hbb).trans h0
  have HX:=hid hx;clear hx
  have hb1:Below w.heap.size w (wr.alloc (.cells #[.int .i64 k,.string x] 193)):=HW.out.alloc hws _
  have ho1:=HO.out.alloc (.cells #[.int .i64 k,.string x] 193)
  have HB1:=hid hb1
  have HO1:=hid ho1
  clear hb1 ho1 HO
  go_wp2_with (at_builtin;refine aAp rfl (.tmp 14) (.tmp 18) 190 rfl aFv rfl rfl HO1.out (aNl _ ⟨k,x⟩) (aEr _) (by unfold maxLen;omega) (by omega) HB1.out.size ?_;intro v7 w7 ho7 hg7 hv7)
  have HW7:=hid (HB1.out.grown hg7 HB1.out.size (fun g hg=>(HO1.out.lt g hg).1))
  have HO7:=hid ho7
  clear ho7 hg7 hv7 HO1 HB1
  go_roundw
  case rel=>
   refine ⟨j+1,by omega,by go_num,HW7,?_⟩
   rw[bCj HX.out,List.flatMap_append]
   exact HO7
  simp[intOf];omega
 have hjn:j=n:=by omega
 subst hjn
 rw[List.take_of_length_le (by rw[HA.out];exact Nat.le_refl _)] at HO
 go_wp2
 go_ret
 exact ⟨_,rfl,by rw[aBp,HA.out];exact HO.out,HW.out⟩
theorem aZk {n:Nat}{w:World}(hn:n<=1000000) :
  Calls Tryz.prog 296 #[.slice none 0 0,.int .i64 n] w (CloneIs 193 2 0 [] w):=by
 cases n with
 | zero=>
  go_enter Tryz.func296,Tryz.ntmps296
  go_wp2
  go_ret
  exact ⟨_,rfl,World.ownsRow_nil _ _ _ _,Below.refl _ _⟩
 | succ n=>
  obtain ⟨i,z,hi,hz,hsz,hby,hzs⟩:=aFv.row
  have hr:=Lib.run_append_nil_zeros (P:=Tryz.prog) w 190 3 190 193 i z .i64 .i64 aFv.und (by kernel_rfl) hi hz (n+1) (by omega) (by omega) (by omega) (by rw[hby];omega)
  have hG:=aTc w (n+1) 0 193 (by omega) (by unfold maxLen;omega)
  obtain ⟨G,eG⟩:∃G,G=grownCap w (n+1) 0 193:=⟨_,rfl⟩
  rw[<-eG] at hr hG
  have ho:(w.drew.alloc (.cells (Builtin.zeroCells z.cells (n+1)++Builtin.zeroCells z.cells (G-(n+1))) 193)).ownsRow w.heap.size 193 2 (.slice (some ⟨w.heap.size,0,none⟩) 0 G) 0 []:=by
   refine World.ownsRow_made w.drew _ G (Nat.le_refl _) hG.2 ?_
   simp[Builtin.zeroCells,hzs]
   omega
  have hb:Below w.heap.size w (w.drew.alloc (.cells (Builtin.zeroCells z.cells (n+1)++Builtin.zeroCells z.cells (G-(n+1))) 193)):=(Below.refl _ _).drew.alloc (Nat.le_refl _) _
  generalize w.drew.alloc (.cells (Builtin.zeroCells z.cells (n+1)++Builtin.zeroCells z.cells (G-(n+1))) 193)=w1 at *
  go_enter Tryz.func296,Tryz.ntmps296
  go_wp2_with (at_builtin;refine Lib.wpList_append_run _ rfl (.tmp 20) (.tmp 21) _ _ rfl _ _ rfl rfl _ _ hr ?_)
  subst eG
  go_ret
  exact ⟨_,rfl,ho,hb⟩
def RdLL (w:World)(B g:Nat)(Ls:List (List DV)):Prop:=
 ∀(k:Nat) (L:List DV),Ls[k]? = some L->∃A c,w.cell? ⟨g,k,none⟩=some (.slice A L.length c)/\Rd w B 2 A L.length c (L.flatMap DV.cells)
theorem aQh {Ls:List (List DV)}{k:Nat}{L:List DV}(h:Ls[k]? = some L):(Ls.take (k+1)).flatten=(Ls.take k).flatten++L:=by
 rw[List.take_add_one,h];simp
theorem aSf (Ls:List (List DV))(k:Nat):(Ls.take k).flatten.length<=Ls.flatten.length:=by
 have:(Ls.take k).flatten++(Ls.drop k).flatten=Ls.flatten:=by rw[<-List.flatten_append,List.take_append_drop]
 rw[<-this,List.length_append];omega
theorem aFz {g q c:Nat}{Ls:List (List DV)}{w:World}(hq:Ls.length=q)(hq2:q<=1000)(hg:g<w.heap.size)(hn:Ls.flatten.length<=1000000)(h:RdLL w w.heap.size g Ls) :
  Calls Tryz.prog 286 #[.slice (some ⟨g,0,none⟩) q c] w (EdIs Ls.flatten w):=by
 have HQ:=hid hq;clear hq
 go_enter Tryz.func286,Tryz.ntmps286
 go_wp2
 go_loopw[3,11] (fun s i wr=>∃k:Nat,k<=q/\i=.int .i64 k/\s=.int .i64 ((Ls.take k).flatten.length:Nat)/\wr=w) (fun _ i _=>q-(intOf i).toNat)
 case atStart=>exact ⟨0,Nat.zero_le _,rfl,rfl,rfl⟩
 obtain ⟨k,hk,rfl,rfl,rfl⟩:=hrel
 have hle:=aSf Ls k
 by_cases hlt:k<q
 ·have hk2:k<Ls.length:=by rw[HQ.out];exact hlt
  obtain ⟨L,hL⟩:∃L,Ls[k]? = some L:=⟨_,List.getElem?_eq_getElem hk2⟩
  obtain ⟨A,cc,h0,hr⟩:=h k L hL
  have hle2:=aSf Ls (k+1)
  have hs:=aQh hL
  rw[hs,List.length_append] at hle2
  have HL:=hid hs
  clear hs hL
  generalize hS:(Ls.take k).flatten.length=s at *
  have HS:=hid hS
  clear hS
  go_wp2
  go_roundw
  case rel=>exact ⟨k+1,by omega,by go_num,by rw[HL.out,List.length_append,HS.out];push_cast;rfl,trivial⟩
  simp[intOf];omega
 obtain rfl:k=q:=by omega
 rw[List.take_of_length_le (by rw[HQ.out];exact Nat.le_refl _)] at *
 generalize hN:Ls.flatten.length=N at *
 have HN:=hid hN
 clear hN
 have hG:=aZk (n:=N) (w:=wr) hn
 go_wp2_with fail
 refine hG.mono ?_
 rintro e w1 ⟨v0,rfl,ho0,hb0⟩
 have HB0:=hid hb0
 have HO0:=hid ho0
 clear hG hb0 ho0 hle hlt
 go_wp2
 go_loopw[6,27] (fun v i w2=>∃j:Nat,j<=k/\i=.int .i64 j/\Hid (Below wr.heap.size wr w2)/\Hid (w2.ownsRow wr.heap.size 193 2 v (Ls.take j).flatten.length ((Ls.take j).flatten.flatMap DV.cells))) (fun _ i _=>k-(intOf i).toNat)
 case atStart=>exact ⟨0,Nat.zero_le _,rfl,HB0,HO0⟩
 clear HB0 HO0
 obtain ⟨j,hj,rfl,HW,HO⟩:=hrel
 have hws:=HW.out.size
 by_cases hlt:j<k
 ·have hj2:j<Ls.length:=by rw[HQ.out];exact hlt
  obtain ⟨L,hL⟩:∃L,Ls[j]? = some L:=⟨_,List.getElem?_eq_getElem hj2⟩
  obtain ⟨A,cc,h0,hr⟩:=h j L hL
  have hle2:=aSf Ls (j+1)
  rw[HN.out] at hle2
  have hs:=aQh hL
  rw[hs,List.length_append] at hle2
  have HL:=hid hs
  clear hs hL
  have c0:=(HW.out.cell (p:=⟨g,j,none⟩) hg).trans h0
  have HR:=hid ((hr.below HW.out).more hws)
  clear hr
  have hsum:(Ls.take j).flatten.length+L.length<=1000000:=by omega
  go_wp2_with (at_builtin;refine aAp rfl (.tmp 31) (.tmp 32) 190 rfl aFv rfl rfl HO.out HR.out (aEr _) (by unfold maxLen;omega) (by omega) hws ?_;intro v7 w7 ho7 hg7 hv7)
  have HW7:=hid (HW.out.grown hg7 hws (fun g hg=>(HO.out.lt g hg).1))
  have HO7:=hid ho7
  clear ho7 hg7 hv7 HO HW
  go_roundw
  case rel=>
   refine ⟨j+1,by omega,by go_num,HW7,?_⟩
   rw[HL.out,List.flatMap_append,List.length_append]
   exact HO7
  simp[intOf];omega
 obtain rfl:j=k:=by omega
 rw[List.take_of_length_le (by rw[HQ.out];exact Nat.le_refl _)] at HO
 go_wp2
 go_ret
 exact ⟨_,rfl,HO.out,HW.out⟩
def rowC (a b:List ByteArray)(i j:Nat):List Value:=(List.range (b.length+1)).map fun t=>Value.int .i32 ((if j<=t then cel a b i t else 0:Nat):Int)
theorem aUj (a b:List ByteArray)(i j:Nat):(rowC a b i j).length=b.length+1:=by simp[rowC]
theorem aJo {a b:List ByteArray}{i j q:Nat}(hq:q<=b.length)(h:j<=q):(rowC a b i j)[q]? = some (.int .i32 (cel a b i q:Nat)):=by
 rw[rowC,List.getElem?_map,List.getElem?_range (by omega),Option.map_some,if_pos h]
theorem aPf {a b:List ByteArray}{i j:Nat}(h:∀t,t<=b.length->j<=t->cel a b i t=0):rowC a b i j=List.replicate (b.length+1) (.int .i32 0):=by
 refine List.ext_getElem (by simp[rowC]) fun t h1 h2=>?_
 rw[aUj] at h1
 simp only[rowC,List.getElem_map,List.getElem_range,List.getElem_replicate]
 split
 ·rw[h t (by omega) (by assumption)];rfl
 rfl
theorem aVq (a b:List ByteArray)(i:Nat):rowC a b i b.length=List.replicate (b.length+1) (.int .i32 0):=
 aPf fun t h1 h2=>by rw[show t=b.length by omega];exact aYw a b i
theorem aZq (a b:List ByteArray):rowC a b a.length 0=List.replicate (b.length+1) (.int .i32 0):=
 aPf fun t _ _=>aUp a b t
theorem bBh (a b:List ByteArray){i j:Nat}:(rowC a b i (j+1)).set j (.int .i32 (cel a b i j:Nat))=rowC a b i j:=by
 refine List.ext_getElem (by simp[rowC]) fun t h1 h2=>?_
 rw[List.getElem_set]
 simp only[rowC,List.getElem_map,List.getElem_range]
 split
 ·rename_i h;subst h;rw[if_pos (Nat.le_refl _)]
 rename_i h
 by_cases h3:j<=t
 ·rw[if_pos (by omega),if_pos h3]
 rw[if_neg (by omega),if_neg h3]
structure Rows2 (w:World) (B g h M:Nat) (xs ys:List Value):Prop where
 o1:w.ownsRow B 21 1 (.slice (some ⟨g,0,none⟩) M M) M xs
 o2:w.ownsRow B 21 1 (.slice (some ⟨h,0,none⟩) M M) M ys
 ne:g≠h
theorem aGl {w:World}{B g M k:Nat}{xs:List Value}{u:Value}(h:w.ownsRow B 21 1 (.slice (some ⟨g,0,none⟩) M M) M xs)(hu:xs[k]? = some u):w.cell? ⟨g,k,none⟩=some u:=by
 rw[h.cellAt k (by rw[<-h.1];exact (List.getElem?_eq_some_iff.1 hu).1),hu]
section
variable {w w':World} {B g h M:Nat} {xs ys:List Value}
theorem Rows2.drew (H:Rows2 w B g h M xs ys):Rows2 w.drew B g h M xs ys:=⟨H.o1.drew,H.o2.drew,H.ne⟩
theorem Rows2.store (H:Rows2 w B g h M xs ys)(k:Nat)(u:Value):Rows2 (w.setCell ⟨h,k,none⟩ u) B g h M xs (ys.set k u):=
 ⟨ownsRow_setCell_other H.o1 (fun e=>H.ne (by simpa[Value.ownBlock] using e)) u,(H.o2.stored k u).1,H.ne⟩
end
theorem aVo {A B:Option Addr}{n ca m cb:Nat}{a b:List ByteArray}{w:World}(hn:n<=400)(hm:m<=400)(ha:Rd w w.heap.size 1 A n ca (a.map .string))(hb:Rd w w.heap.size 1 B m cb (b.map .string)) :
  Calls Tryz.prog 249 #[.slice A n ca,.slice B m cb] w fun e w'=>e=.returned (.int .i64 (lcs a b))/\Below w.heap.size w w':=by
 have HA:=hid (show a.length=n by have:=ha.len;simpa using this)
 have HB:=hid (show b.length=m by have:=hb.len;simpa using this)
 have hca:=ha.cap
 have hcb:=hb.cap
 have hB:=aQu (w:=w) (by omega) (by omega) ha hb
 go_enter Tryz.func249,Tryz.ntmps249
 go_wp2_with fail
 refine hB.mono ?_
 rintro e w1 ⟨rfl,hb1⟩
 clear hB
 have hp:=aPc a b
 rw[HA.out,HB.out] at hp
 obtain ⟨hp1,hp2⟩:=hp
 have HPT:=hid (aDv a b)
 have HFIN:=hid (fun (q:Nat)=>bAs a b (pfx a b) q (aDv a b) (aPc a b).1 (aPc a b).2)
 generalize pfx a b=P at *
 have HW1:=hid hb1;clear hb1
 go_wp2
 refine aAi (fun w'=>Below w.heap.size w w') (qs 8) mixed (by kernel_rfl) HW1.out.drew ?_
 intro T M Q hT hT' hM hQ
 clear hM
 simp only[qcmp]
 simp (maxSteps:=9^7) only[↓qpre,aAb,aAd,aAc]
 (repeat refine And.intro (by first|omega|(unfold inI64;omega)) ?_)
 refine hQ _ _ ?_
 clear hQ hT hT'
 have HW2:=hid HW1.out.drew
 have hra:=ha.cut1 (l:=P) (k:=n) hp1 (Nat.le_refl _)
 have hrb:=hb.cut1 (l:=P) (k:=m) hp2 (Nat.le_refl _)
 rw[List.take_of_length_le (by rw[List.length_map,HA.out];exact Nat.le_refl _),<-List.map_drop] at hra
 rw[List.take_of_length_le (by rw[List.length_map,HB.out];exact Nat.le_refl _),<-List.map_drop] at hrb
 simp only[sliced,Nat.mul_one]
 generalize (if ca=P then A else Option.map (fun x=>x.add P) A)=A1 at *
 generalize (if cb=P then B else Option.map (fun x=>x.add P) B)=B1 at *
 clear HW1
 generalize w1.drew=w2 at *
 clear ha hb HA HB hca hcb HPT
 generalize a.drop P=a1 at *
 generalize b.drop P=b1 at *
 obtain ⟨n1,hn1⟩:∃x,x=n-P:=⟨_,rfl⟩
 obtain ⟨m1,hm1⟩:∃x,x=m-P:=⟨_,rfl⟩
 rw[<-hn1] at hra ⊢
 rw[<-hm1] at hrb ⊢
 have hl1:n1<=400:=by omega
 have hl2:m1<=400:=by omega
 have hP:P<=400:=by omega
 clear hn1 hm1 hp1 hp2
 generalize ca-P=c1 at *
 generalize cb-P=c2 at *
 have HA:=hid (show a1.length=n1 by have:=hra.len;simpa using this)
 have HB:=hid (show b1.length=m1 by have:=hrb.len;simpa using this)
 have hE:=bEi (w:=w2) (by omega) (by omega) (hra.to HW2.out HW2.out.size) (hrb.to HW2.out HW2.out.size)
 go_wp2_with fail
 refine hE.mono ?_
 rintro e w3 ⟨rfl,hb3⟩
 clear hE
 have hq:=bFg a1 b1
 rw[HA.out,HB.out] at hq
 obtain ⟨hq1,hq2⟩:=hq
 have HFIN2:=hid (HFIN.out (sfx a1 b1) (bCm a1 b1) (by rw[HA.out];exact hq1) (by rw[HB.out];exact hq2))
 rw[HA.out,HB.out] at HFIN2
 clear HFIN
 generalize sfx a1 b1=R at *
 have HW3:=hid (HW2.out.trans (hb3.mono HW2.out.size))
 clear hb3 HW2
 have i1:(n1:Int)-R=((n1-R:Nat):Int):=by omega
 have i2:(m1:Int)-R=((m1-R:Nat):Int):=by omega
 have hca:=hra.cap
 have hcb:=hrb.cap
 go_wp2
 refine aAi (fun w'=>Below w.heap.size w w') (qs 14) mixed (by kernel_rfl) HW3.out.drew ?_
 intro T M Q hT hT' hM hQ
 clear hM
 simp only[qcmp]
 simp (maxSteps:=9^7) only[↓qpre,aAb,aAd,aAc,i1,i2]
 (repeat refine And.intro (by first|omega|(unfold inI64;omega)) ?_)
 refine hQ _ _ ?_
 clear hQ hT hT'
 have HW4:=hid HW3.out.drew
 have hra:=hra.cut1 (l:=0) (k:=n1-R) (Nat.zero_le _) (by omega)
 have hrb:=hrb.cut1 (l:=0) (k:=m1-R) (Nat.zero_le _) (by omega)
 rw[List.drop_zero,<-List.map_take] at hra hrb
 simp only[sliced,Nat.mul_one]
 generalize (if c1=0 then A1 else Option.map (fun x=>x.add 0) A1)=A2 at *
 generalize (if c2=0 then B1 else Option.map (fun x=>x.add 0) B1)=B2 at *
 clear HW3
 generalize w3.drew=w4 at *
 clear HA HB hca hcb i1 i2
 generalize a1.take (n1-R)=a2 at *
 generalize b1.take (m1-R)=b2 at *
 obtain ⟨n2,hn2⟩:∃x,x=n1-R-0:=⟨_,rfl⟩
 obtain ⟨m2,hm2⟩:∃x,x=m1-R-0:=⟨_,rfl⟩
 rw[<-hn2] at hra ⊢
 rw[<-hm2] at hrb ⊢
 have hl3:n2<=400:=by omega
 have hl4:m2<=400:=by omega
 have hR:R<=400:=by omega
 clear hn2 hm2 hq1 hq2 hl1 hl2
 generalize c1-0=c3 at *
 generalize c2-0=c4 at *
 have HA:=hid (show a2.length=n2 by have:=hra.len;simpa using this)
 have HB:=hid (show b2.length=m2 by have:=hrb.len;simpa using this)
 obtain ⟨M,hM⟩:∃M:Nat,m2+1=M:=⟨_,rfl⟩
 have hMi:(m2:Int)+1=(M:Int):=by omega
 have hws:=HW4.out.size
 go_wp2_with first
  | (at_make;refine aNr rfl (.tmp 37) (.tmp 37) 321 rfl bEc w.heap.size M rfl rfl rfl rfl (by omega) (by simp only[maxLen];omega) hws ?_;intro w5 hown5 hgrow5)
 have HB5:=hid (HW4.out.grown hgrow5 hws (fun g hg=>by cases hg))
 have HO5:Hid (w5.ownsRow w.heap.size 21 1 (.slice (some ⟨w4.heap.size,0,none⟩) M M) M (rowC a2 b2 n2 0)):=by
  have:=hown5
  rw[show List.replicate M (Value.int .i32 0)=rowC a2 b2 n2 0 by rw[<-HA.out,aZq,HB.out,hM]] at this
  exact this
 clear hown5 hgrow5 HW4 hws
 generalize w4.heap.size=g0 at *
 go_loopw[7,8] (fun last i wr=>∃(j g:Nat),j<=n2/\i=.int .i64 ((j:Int)-1)/\last=.slice (some ⟨g,0,none⟩) M M/\Hid (Below w.heap.size w wr)/\Hid (wr.ownsRow w.heap.size 21 1 (.slice (some ⟨g,0,none⟩) M M) M (rowC a2 b2 j 0)))
   (fun _ i _=>(intOf i+1).toNat)
 case atStart=>exact ⟨n2,g0,Nat.le_refl _,rfl,rfl,HB5,HO5⟩
 clear HB5 HO5
 obtain ⟨j,g,hj,rfl,rfl,HW,HO⟩:=hrel
 cases j with
 | zero=>
  have HC:=hid (aGl HO.out (k:=0) (aJo (Nat.zero_le _) (Nat.zero_le _)))
  have hv:=aRj a2 b2 0 0
  rw[HA.out] at hv
  have HF:Hid (lcs a b=P+R+cel a2 b2 0 0):=HFIN2
  generalize cel a2 b2 0 0=v at *
  have c0:wr.cell? ⟨g,0,none⟩=some (.int .i32 v):=HC.out
  have hM1:0<M:=by omega
  go_wp2
  go_ret
  exact ⟨by rw[HF.out];push_cast;rfl,HW.out⟩
 | succ j=>
  rw[show ((j+1:Nat):Int)-1=(j:Int) from by omega]
  obtain ⟨ba,oa,x,rfl,hba,hax,hacell⟩:=hra.str (k:=j) (by omega)
  have HX:=hid hax
  clear hax
  have hws:=HW.out.size
  go_wp2_with first
   | (at_make;refine aNr rfl (.tmp 48) (.tmp 48) 321 rfl bEc w.heap.size M rfl rfl rfl rfl (by omega) (by simp only[maxLen];omega) hws ?_;intro w6 hown6 hgrow6)
  have HB6:=hid (HW.out.grown hgrow6 hws (fun g hg=>by cases hg))
  have HR6:Hid (Rows2 w6 w.heap.size g wr.heap.size M (rowC a2 b2 (j+1) 0) (rowC a2 b2 j m2)):=by
   refine ⟨HO.out.kept hgrow6 (.inr (by simp[Value.ownBlock])),?_,Nat.ne_of_lt (HO.out.lt g rfl).2⟩
   rw[show rowC a2 b2 j m2=List.replicate M (Value.int .i32 0) by rw[<-HB.out,aVq,HB.out,hM]]
   exact hown6
  have hgh:w.heap.size<=wr.heap.size:=hws
  clear hown6 hgrow6 HO
  generalize wr.heap.size=h at *
  go_loopw[10] (fun k wr2=>∃q:Nat,q<=m2/\k=.int .i64 ((q:Int)-1)/\Hid (Below w.heap.size w wr2)/\Hid (Rows2 wr2 w.heap.size g h M (rowC a2 b2 (j+1) 0) (rowC a2 b2 j q)))
    (fun k _=>(intOf k+1).toNat)
  case atStart=>exact ⟨m2,Nat.le_refl _,rfl,HB6,HR6⟩
  clear HB6 HR6 HW
  rename_i wr0
  obtain ⟨q,hq,rfl,HW,HR⟩:=hrel
  cases q with
  | zero=>
   go_wp2
   go_roundw
   case rel=>exact ⟨j,h,by omega,by go_num,rfl,HW,hid HR.out.o2⟩
   simp[intOf]
  | succ q=>
   rw[show ((q+1:Nat):Int)-1=(q:Int) from by omega]
   obtain ⟨bb,ob,y,rfl,hbb,hby,hbcell⟩:=hrb.str (k:=q) (by omega)
   have HY:=hid hby;clear hby
   have hstep:=aTt HX.out HY.out
   have HS:Hid (cel a2 b2 (j+1) (q+1)<=400/\cel a2 b2 (j+1) q<=400/\cel a2 b2 j (q+1)<=400):=by
    have h1:=aRj a2 b2 (j+1) (q+1)
    have h2:=aRj a2 b2 (j+1) q
    have h3:=aRj a2 b2 j (q+1)
    have:=HA.out
    exact ⟨by omega,by omega,by omega⟩
   have hlb:b2.length=m2:=HB.out
   have gD:=(aJo (a:=a2) (b:=b2) (i:=j+1) (j:=0) (q:=q+1) (by omega) (Nat.zero_le _))
   have gL:=(aJo (a:=a2) (b:=b2) (i:=j+1) (j:=0) (q:=q) (by omega) (Nat.zero_le _))
   have gR:=(aJo (a:=a2) (b:=b2) (i:=j) (j:=q+1) (q:=q+1) (by omega) (Nat.le_refl _))
   have hset:=bBh a2 b2 (i:=j) (j:=q)
   have hcur:∃u,(rowC a2 b2 j (q+1))[q]? = some u:=⟨_,List.getElem?_eq_getElem (by rw[aUj];omega)⟩
   obtain ⟨u,hu⟩:=hcur
   have HSET:=hid hset
   have HU:=hid (aGl HR.out.o2 hu)
   have HD:=hid (aGl HR.out.o1 gD)
   have HL:=hid (aGl HR.out.o1 gL)
   have HRR:=hid (aGl HR.out.o2 gR)
   have HFZ:=hid (HR.out.o2.frozenAt q)
   clear gD gL gR hset hu hlb
   have hqM:q+1<M:=by omega
   go_wp2
   refine aAi (fun w'=>Below w.heap.size w w') (qs 9) mixed (by kernel_rfl) HW.out.drew ?_
   intro T M0 Q hT hT' hM hQ
   have m0:M0 ⟨ba,oa+j,none⟩=some (.string x):=hM _ _ fun w' hw=>(hw.cell (p:=⟨ba,oa+j,none⟩) hba).trans hacell
   have m1:M0 ⟨bb,ob+q,none⟩=some (.string y):=hM _ _ fun w' hw=>(hw.cell (p:=⟨bb,ob+q,none⟩) hbb).trans hbcell
   clear hM
   simp only[qcmp]
   by_cases hxy:x=y
   ·have e1:(x.toList == y.toList)=true:=by rw[hxy];exact beq_self_eq_true _
    rw[if_pos hxy] at hstep
    simp (maxSteps:=9^7) only[↓qpre,aAb,aAd,aAc,m0,m1]
    (repeat refine And.intro (by first|omega|(unfold inI64;omega)) ?_)
    refine hQ _ _ ?_
    clear hQ hT hT' m0 m1 e1
    have e9:((cel a2 b2 j q:Nat):Int)=((cel a2 b2 (j+1) (q+1):Nat):Int)+1:=by rw[hstep];push_cast;rfl
    have hst:=HR.out.drew.store q (.int .i32 (cel a2 b2 j q:Nat))
    rw[HSET.out,e9] at hst
    have HST:=hid hst
    clear hst e9 hstep
    have c0:wr.drew.cell? ⟨g,q+1,none⟩=some (.int .i32 (cel a2 b2 (j+1) (q+1):Nat)):=HD.out
    have c1:wr.drew.cell? ⟨h,q,none⟩=some u:=HU.out
    have c2:wr.drew.frozen? ⟨h,q,none⟩=false:=HFZ.out
    have hv:cel a2 b2 (j+1) (q+1)<=400:=HS.out.1
    have T1:∀z:Nat,((z:Int)+1).toNat=z+1:=fun z=>by omega
    generalize cel a2 b2 (j+1) (q+1)=v1 at *
    have HW7:Hid (Below w.heap.size w (wr.drew.setCell ⟨h,q,none⟩ (.int .i32 ((v1:Int)+1)))):=hid (HW.out.drew.setCell (p:=⟨h,q,none⟩) hgh _)
    clear HD HL HRR HU HFZ HR HW HSET HS
    go_wp2
    go_roundw
    case rel=>exact ⟨q,by omega,by go_num,HW7,HST⟩
    simp[intOf]
   have e1:=aBw hxy
   rw[if_neg hxy] at hstep
   simp (maxSteps:=9^7) only[↓qpre,aAb,aAd,aAc,m0,m1]
   (repeat refine And.intro (by first|omega|(unfold inI64;omega)) ?_)
   refine hQ _ _ ?_
   clear hQ hT hT' m0 m1 e1
   have e9:((cel a2 b2 j q:Nat):Int)=max ((cel a2 b2 (j+1) q:Nat):Int) ((cel a2 b2 j (q+1):Nat):Int):=by rw[hstep];omega
   have hst:=HR.out.drew.drew.store q (.int .i32 (cel a2 b2 j q:Nat))
   rw[HSET.out,e9] at hst
   have HST:=hid hst
   clear hst e9 hstep
   have T1:∀z:Nat,((z:Int)+1).toNat=z+1:=fun z=>by omega
   go_wp2
   refine aBf (fun w'=>∀p:Addr,w'.cell? p=wr.cell? p) (qs 13) [13] mixed (by kernel_rfl) (fun p=>rfl) ?_
   intro T M0 Q Q2 hT hT' hM hQ hQ2
   have m0:M0 ⟨g,q,none⟩=some (.int .i32 (cel a2 b2 (j+1) q:Nat)):=hM _ _ fun w' hw=>(hw _).trans HL.out
   have m1:M0 ⟨h,q+1,none⟩=some (.int .i32 (cel a2 b2 j (q+1):Nat)):=hM _ _ fun w' hw=>(hw _).trans HRR.out
   clear hM
   simp only[qcmp]
   simp (maxSteps:=9^7) only[↓qpre,aAb,aAd,aAc,m0,m1,T1]
   (repeat refine And.intro (by first|omega|(unfold inI64;omega)) ?_)
   refine hQ _ _ ?_
   simp only[lates,List.map,qcmp]
   simp (maxSteps:=9^7) only[aAb]
   have hcs:(wr.drew.drew.cell? ⟨h,q,none⟩).isSome=true:=congrArg Option.isSome HU.out
   refine aBj (v:=.int .i32 (max ((cel a2 b2 (j+1) q:Nat):Int) ((cel a2 b2 j (q+1):Nat):Int))) (b:=h) (o:=q) (by kernel_rfl) rfl rfl hcs HFZ.out rfl ⟨trivial,?_⟩
   simp (maxSteps:=9^7) only[aAb]
   refine hQ2 _ _ ?_
   have HW7:=hid (HW.out.drew.drew.setCell (p:=⟨h,q,none⟩) hgh (.int .i32 (max ((cel a2 b2 (j+1) q:Nat):Int) ((cel a2 b2 j (q+1):Nat):Int))))
   clear hQ hQ2 hT hT' m0 m1 hcs HD HL HRR HU HFZ HR HW HSET HS
   go_wp2
   go_roundw
   case rel=>exact ⟨q,by omega,by go_num,HW7,HST⟩
   simp[intOf]
end Go.Proofs.YtohblmepajhpaaaGreatDoor
