/- Texts of the walks, together: Walk: diff.made: the grid of two lists. Walks: diff.edits; slices.Grow, slices.Concat of edits. Walk: slices.Concat of edits. Plain laws: where the lines of base that are kept stand. Plain laws: the pieces of three texts make the texts; where one side is as base, the whole is the other one; where both are alike, that. Plain laws: a text merged with one that is as base is the other one; two alike are that; exchanged. -/
import Derived.OwnWalk
import Derived.Test.YtcemkikgaeghjaaGreatDoorG08
import Derived.Test.YtcemkikgaeghjaaGreatDoorG09
set_option maxHeartbeats 8000000
set_option maxRecDepth 100000
open Go.Lib (hid)
namespace Go.Proofs.YtcemkikgaeghjaaGreatDoor
open Go.RowKit
structure Elem1 (P:Program) (t e:TypeId) (bytes:Nat) (z:Value):Prop where
 und:P.underlying t=some (.slice e)
 row:∃i,P.info? e=some i/\i.zero=some z/\i.size=1/\i.bytes=bytes
 one:z.cells=#[z]
theorem aEr {P:Program}{w:World}{a:Act}{ops:Array Oper}{rest:List Oper}{o:Oper}{Q:Exit->Act->World->Prop}(hgd:o.guard=none)(l c:Operand)(t:TypeId)
  (ho:o.op=.makeSlice t l c) {e:TypeId} {bytes:Nat} {z:Value} (E:Elem1 P t e bytes z) (base n:Nat)
  {L C:Int} (hl:a.eval l=.int .i64 L) (hc:a.eval c=.int .i64 C) (hL:L=(n:Int)) (hC:C=(n:Int)) (hb:bytes*n<=281474976710656) (h63:n<=maxLen) (hbase:base<=w.heap.size)
  (hK:∀w',w'.ownsRow base e 1 (.slice (some ⟨w.heap.size,0,none⟩) n n) n (List.replicate n z)->w.grownBy w' none->wpList P ops Q rest (a.put o.dst (.slice (some ⟨w.heap.size,0,none⟩) n n)) w') :
  wpList P ops Q (o::rest) a w:=by
 obtain ⟨i,hi,hz,hs,hby⟩:=E.row
 refine wpList_make_full w hgd l c t ho base e i z 1 E.und hi hz hs .i64 .i64 L C n hl hc hL hC (by rw[hby];exact hb) h63 hbase fun w' h1 h2=>hK w' ?_ h2
 rw[E.one,Nat.mul_one,toList_madeCells_one] at h1
 exact h1
theorem aPv {P:Program}{t e:TypeId}{bytes:Nat}{z:Value}(E:Elem P t e 1 bytes)(hz:(P.info? e).bind (·.zero)=some z)(h1:z.cells=#[z]):Elem1 P t e bytes z:=by
 obtain ⟨i,z',hi,hz',hs,hb,_⟩:=E.row
 rw[hi] at hz
 simp only[Option.bind_some,hz'] at hz
 cases hz
 exact ⟨E.und,⟨i,hi,hz',hs,hb⟩,h1⟩
theorem bGr:Elem1 Tryz.prog 223 21 4 (.int .i32 0):=aPv (aCw (by kernel_rfl)) (by kernel_rfl) rfl
def MadeIs (a b:List ByteArray)(w:World)(e:Ending) (w':World):Prop:=
 ∃g bx,e=.returned (.pointer (some ⟨bx,0,none⟩))/\Gr w' w.heap.size g bx (b.length+1) ((a.length+1)*(b.length+1)) (gridL a b 0 0)/\Below w.heap.size w w'
theorem bEm {A B:Option Addr}{n ca m cb:Nat}{a b:List ByteArray}{w:World}(hn:n<=400)(hm:m<=400)(ha:Rd w w.heap.size 1 A n ca (a.map .string))(hb:Rd w w.heap.size 1 B m cb (b.map .string)) :
  Calls Tryz.prog 189 #[.slice A n ca,.slice B m cb] w (MadeIs a b w):=by
 have hla:a.length=n:=by have:=ha.len;rw[List.length_map] at this;omega
 have hlb:b.length=m:=by have:=hb.len;rw[List.length_map] at this;omega
 have HA:=hid hla
 have HB:=hid hlb
 clear hla hlb
 obtain ⟨W,hW⟩:∃W:Nat,m+1=W:=⟨_,rfl⟩
 have hWi:(m:Int)+1=(W:Int):=by omega
 obtain ⟨N,hN⟩:∃N:Nat,(n+1)*W=N:=⟨_,rfl⟩
 have hNle:N<=160801:=by rw[<-hN];exact Nat.mul_le_mul (show n+1<=401 by omega) (show W<=401 by omega)
 have hNi:((n:Int)+1)*(W:Int)=(N:Int):=by rw[<-hN];push_cast;rfl
 have HN:=hid hN
 go_enter Tryz.func189,Tryz.ntmps189
 go_wp2_with first
  | (at_make;refine aEr rfl (.tmp 14) (.tmp 14) 223 rfl bGr w.heap.size N rfl rfl rfl rfl (by omega) (by simp only[maxLen];omega) (Nat.le_refl _) ?_;intro w1 hown1 hgrow1)
 have hB1:Below w.heap.size w w1:=(Below.refl _ _).grown hgrow1 (Nat.le_refl _) (fun g hg=>by cases hg)
 have hlt1:=(hown1.lt _ rfl).2
 have hG:Gr (w1.alloc (.cells #[.slice (some ⟨w.heap.size,0,none⟩) N N,.int .i64 (W:Int)] 241)) w.heap.size w.heap.size w1.heap.size W N (gridL a b n 0):=by
  refine ⟨?_,?_,?_,by intro e;simp only at hlt1;omega,hgrow1.size,by simp⟩
  ·rw[World.cell?,heap_alloc_new];rfl
  ·rw[World.cell?,heap_alloc_new];rfl
  have e:gridL a b n 0=List.replicate N (.int .i32 0):=by rw[<-HA.out,aUv,HA.out,HB.out,hW,HN.out]
  rw[e]
  exact hown1.alloc _
 have HG:=hid hG
 have HB2:=hid (hB1.alloc (by exact hgrow1.size) (.cells #[.slice (some ⟨w.heap.size,0,none⟩) N N,.int .i64 (W:Int)] 241))
 clear hG hB1 hown1 hgrow1
 generalize w1.alloc (.cells #[.slice (some ⟨w.heap.size,0,none⟩) N N,.int .i64 (W:Int)] 241)=w2 at *
 generalize w1.heap.size=bx at *
 go_loopw[6] (fun i wr=>∃j:Nat,j<=n/\i=.int .i64 ((j:Int)-1)/\Hid (Below w.heap.size w wr)/\Hid (Gr wr w.heap.size w.heap.size bx W N (gridL a b j 0)))
   (fun i _=>(intOf i+1).toNat)
 case atStart=>exact ⟨n,Nat.le_refl _,rfl,HB2,HG⟩
 clear HB2 HG
 obtain ⟨j,hj,rfl,HW,HT⟩:=hrel
 cases j with
 | zero=>
  go_wp2
  go_ret
  exact ⟨w.heap.size,bx,rfl,by rw[HA.out,HB.out,hW,HN.out];exact HT.out,HW.out⟩
 | succ j=>
  rw[show ((j+1:Nat):Int)-1=(j:Int) from by omega]
  obtain ⟨ba,oa,x,rfl,hba,hax,hacell⟩:=ha.str (k:=j) (by omega)
  have HX:=hid hax
  clear hax
  go_wp2
  go_loopw[7] (fun k wr=>∃q:Nat,q<=m/\k=.int .i64 ((q:Int)-1)/\Hid (Below w.heap.size w wr)/\Hid (Gr wr w.heap.size w.heap.size bx W N (gridL a b j q)))
    (fun k _=>(intOf k+1).toNat)
  case atStart=>exact ⟨m,Nat.le_refl _,rfl,HW,by have:=HT.out;rw[bDm,HB.out] at this;exact this⟩
  clear HW HT
  obtain ⟨q,hq,rfl,HW,HT⟩:=hrel
  cases q with
  | zero=>
   go_wp2
   go_roundw
   case rel=>exact ⟨j,by omega,by go_num,HW,HT⟩
   simp[intOf]
  | succ q=>
   rw[show ((q+1:Nat):Int)-1=(q:Int) from by omega]
   obtain ⟨bb,ob,y,rfl,hbb,hby,hbcell⟩:=hb.str (k:=q) (by omega)
   have HY:=hid hby;clear hby
   go_wp2
   refine aAd (fun w'=>Below w.heap.size w w') (qs 9) mixed (by kernel_rfl) HW.out.drew ?_
   intro T M Q hT hT' hM hQ
   have m0:M ⟨ba,oa+j,none⟩=some (.string x):=hM _ _ fun w' hw=>(hw.cell (p:=⟨ba,oa+j,none⟩) hba).trans hacell
   have m1:M ⟨bb,ob+q,none⟩=some (.string y):=hM _ _ fun w' hw=>(hw.cell (p:=⟨bb,ob+q,none⟩) hbb).trans hbcell
   clear hM
   have HW2:=hid HW.out.drew
   have HT2:=hid HT.out.drew
   clear HW HT
   have hstep:=aQg HX.out HY.out
   have HS:Hid (cel a b j q<=401):=by have:=aLc a b j q;have:=HA.out;unfold Hid;omega
   have hlt:j*W+q<N:=by rw[<-hN];exact aHw (n:=n) (by omega) (by omega)
   have hlt1:(j+1)*W+q<N:=by rw[<-hN];exact aHw (n:=n) (by omega) (by omega)
   have hlt2:(j+1)*W+(q+1)<N:=by rw[<-hN];exact aHw (n:=n) (by omega) (by omega)
   have hlt3:j*W+(q+1)<N:=by rw[<-hN];exact aHw (n:=n) (by omega) (by omega)
   have hset:=bBh a b (i:=j) (j:=q) (by have:=HB.out;omega)
   have gD:(gridL a b j (q+1))[(j+1)*W+(q+1)]? = some (.int .i32 (cel a b (j+1) (q+1):Nat)):=by
    have:=aFl (a:=a) (b:=b) (i:=j) (j:=q+1) (p:=j+1) (q:=q+1) (by have:=HA.out;omega) (by have:=HB.out;omega) (.inl (by omega))
    rw[HB.out,hW] at this;exact this
   have gL:(gridL a b j (q+1))[(j+1)*W+q]? = some (.int .i32 (cel a b (j+1) q:Nat)):=by
    have:=aFl (a:=a) (b:=b) (i:=j) (j:=q+1) (p:=j+1) (q:=q) (by have:=HA.out;omega) (by have:=HB.out;omega) (.inl (by omega))
    rw[HB.out,hW] at this;exact this
   have gR:(gridL a b j (q+1))[j*W+(q+1)]? = some (.int .i32 (cel a b j (q+1):Nat)):=by
    have:=aFl (a:=a) (b:=b) (i:=j) (j:=q+1) (p:=j) (q:=q+1) (by have:=HA.out;omega) (by have:=HB.out;omega) (.inr ⟨rfl,by omega⟩)
    rw[HB.out,hW] at this;exact this
   rw[HB.out,hW] at hset
   have HSET:=hid hset
   have HD:=hid (And.intro gD (And.intro gL gR))
   clear hset gD gL gR
   simp only[qcmp]
   by_cases hxy:x=y
   ·have e1:(x.toList == y.toList)=true:=by rw[hxy];exact beq_self_eq_true _
    rw[if_pos hxy] at hstep
    simp (maxSteps:=9^7) only[↓qpre,aAb,aAf,aAc,m0,m1]
    (repeat refine ⟨by first|omega|(unfold inI64;omega),?_⟩)
    refine hQ _ _ ?_
    clear hQ hT hT' m0 m1 e1
    go_wp2
    refine aAd (fun w'=>w'.cell? ⟨bx,0,none⟩=some (.slice (some ⟨w.heap.size,0,none⟩) N N)/\w'.cell? ⟨bx,1,none⟩=some (.int .i64 W)) (qe [17,20] 21) mixed (by kernel_rfl) ⟨HT2.out.c0,HT2.out.c1⟩ ?_
    intro T M Q hT hT' hM hQ
    have m0:M ⟨bx,0,none⟩=some (.slice (some ⟨w.heap.size,0,none⟩) N N):=hM _ _ fun w' hw=>hw.1
    have m1:M ⟨bx,1,none⟩=some (.int .i64 W):=hM _ _ fun w' hw=>hw.2
    have i1:(j:Int)*(W:Int)=((j*W:Nat):Int):=(Int.natCast_mul ..).symm
    have i2:((j*W:Nat):Int)+(q:Int)=((j*W+q:Nat):Int):=by push_cast;rfl
    simp only[qcmp,Nat.reduceBEq]
    simp (maxSteps:=9^7) only[↓qpre,aAb,aAf,aAc,m0,m1,i1,i2]
    (repeat refine ⟨by first|omega|(unfold inI64;omega),?_⟩)
    have HT3:=hid HT2.out.drew
    have HW3:=hid HW2.out.drew
    refine aAh (by kernel_rfl) (aNg (i:=j+1) (j:=q+1) (W:=W) (N:=N) (g:=w.heap.size) (by push_cast;rfl) (by push_cast;rfl) rfl (by omega) hlt2 HT3.out.c0 HT3.out.c1 (HT3.out.cell HD.out.1)) rfl rfl ?_
    rintro e w5 ⟨rfl,rfl⟩
    have HT4:=hid HT3.out.drew
    have HW4:=hid HW3.out.drew
    refine ⟨_,rfl,hT _ ⟨HT4.out.c0,HT4.out.c1⟩,?_⟩
    have i3:IntKind.i32.wrap ((cel a b (j+1) (q+1):Nat)+1:Int)=((cel a b j q:Nat):Int):=by rw[hstep];push_cast;exact bEe (by have:=HS.out;omega)
    simp (maxSteps:=9^7) only[↓qpre,aAb,aAf,aAc,i3]
    (repeat refine ⟨by first|omega|(unfold inI64;omega),?_⟩)
    have hcur:∃u,(gridL a b j (q+1))[j*W+q]? = some u:=⟨_,List.getElem?_eq_getElem (by rw[aMw,HA.out,HB.out,hW,hN];exact hlt)⟩
    obtain ⟨u,hu⟩:=hcur
    have hst:=HT4.out.store (j*W+q) (.int .i32 (cel a b j q:Nat))
    rw[HSET.out] at hst
    have hcs:=congrArg Option.isSome (HT4.out.cell hu)
    have HW5:=hid (HW4.out.setCell (p:=⟨w.heap.size,j*W+q,none⟩) (Nat.le_refl _) (.int .i32 (cel a b j q:Nat)))
    have HST:=hid hst
    refine aAy (v:=.int .i32 (cel a b j q:Nat)) (b:=w.heap.size) (o:=j*W+q) (by kernel_rfl) rfl rfl hcs (HT4.out.frz _) rfl ⟨hT _ ⟨hst.c0,hst.c1⟩,?_⟩
    simp (maxSteps:=9^7) only[aAb]
    refine hQ _ _ ?_
    clear hQ hT hT' hM m0 m1 i1 i2 i3 hst hcs hu HD HSET HS hstep HT4 HW4 HT3 HW3 HT2 HW2 HX HY
    go_wp2
    go_roundw
    case rel=>exact ⟨q,by omega,by go_num,HW5,HST⟩
    simp[intOf]
   have e1:=aBe hxy
   rw[if_neg hxy] at hstep
   simp (maxSteps:=9^7) only[↓qpre,aAb,aAf,aAc,m0,m1]
   (repeat refine ⟨by first|omega|(unfold inI64;omega),?_⟩)
   refine hQ _ _ ?_
   clear hQ hT hT' m0 m1 e1
   go_wp2
   refine aAd (fun w'=>w'.cell? ⟨bx,0,none⟩=some (.slice (some ⟨w.heap.size,0,none⟩) N N)/\w'.cell? ⟨bx,1,none⟩=some (.int .i64 W)) [(true,0),(true,1),(true,2),(true,3),(true,4),(true,5),(true,6),(true,7),(true,8),(true,9),(true,10),(true,11),(true,12),(true,13),(true,14),(true,15),(true,17),(true,18),(true,19),(true,20),(false,16),(false,21),(true,22),(true,23),(false,24)] mixed (by kernel_rfl) ⟨HT2.out.c0,HT2.out.c1⟩ ?_
   intro T M Q hT hT' hM hQ
   have m0:M ⟨bx,0,none⟩=some (.slice (some ⟨w.heap.size,0,none⟩) N N):=hM _ _ fun w' hw=>hw.1
   have m1:M ⟨bx,1,none⟩=some (.int .i64 W):=hM _ _ fun w' hw=>hw.2
   have i1:(j:Int)*(W:Int)=((j*W:Nat):Int):=(Int.natCast_mul ..).symm
   have i2:((j*W:Nat):Int)+(q:Int)=((j*W+q:Nat):Int):=by push_cast;rfl
   simp only[qcmp]
   simp (maxSteps:=9^7) only[↓qpre,aAb,aAf,aAc,m0,m1,i1,i2]
   (repeat refine ⟨by first|omega|(unfold inI64;omega),?_⟩)
   have HT3:=hid HT2.out.drew
   have HW3:=hid HW2.out.drew
   refine aAh (by kernel_rfl) (aNg (i:=j+1) (j:=q) (W:=W) (N:=N) (g:=w.heap.size) (by push_cast;rfl) rfl rfl (by omega) hlt1 HT3.out.c0 HT3.out.c1 (HT3.out.cell HD.out.2.1)) rfl rfl ?_
   rintro e w5 ⟨rfl,rfl⟩
   have HT3':=hid HT3.out.drew
   have HW3':=hid HW3.out.drew
   refine ⟨_,rfl,hT _ ⟨HT3'.out.c0,HT3'.out.c1⟩,?_⟩
   simp (maxSteps:=9^7) only[aAb,aAc]
   refine aAh (by kernel_rfl) (aNg (i:=j) (j:=q+1) (W:=W) (N:=N) (g:=w.heap.size) rfl (by push_cast;rfl) rfl (by omega) hlt3 HT3'.out.c0 HT3'.out.c1 (HT3'.out.cell HD.out.2.2)) rfl rfl ?_
   rintro e w5 ⟨rfl,rfl⟩
   have HT4:=hid HT3'.out.drew
   have HW4:=hid HW3'.out.drew
   refine ⟨_,rfl,hT _ ⟨HT4.out.c0,HT4.out.c1⟩,?_⟩
   have i3:max ((cel a b (j+1) q:Nat):Int) ((cel a b j (q+1):Nat):Int)=((cel a b j q:Nat):Int):=by rw[hstep];omega
   simp (maxSteps:=9^7) only[↓qpre,aAb,aAf,aAc,i3]
   (repeat refine ⟨by first|omega|(unfold inI64;omega),?_⟩)
   have hcur:∃u,(gridL a b j (q+1))[j*W+q]? = some u:=⟨_,List.getElem?_eq_getElem (by rw[aMw,HA.out,HB.out,hW,hN];exact hlt)⟩
   obtain ⟨u,hu⟩:=hcur
   have hst:=HT4.out.store (j*W+q) (.int .i32 (cel a b j q:Nat))
   rw[HSET.out] at hst
   have hcs:=congrArg Option.isSome (HT4.out.cell hu)
   have HW5:=hid (HW4.out.setCell (p:=⟨w.heap.size,j*W+q,none⟩) (Nat.le_refl _) (.int .i32 (cel a b j q:Nat)))
   have HST:=hid hst
   refine aAy (v:=.int .i32 (cel a b j q:Nat)) (b:=w.heap.size) (o:=j*W+q) (by kernel_rfl) rfl rfl hcs (HT4.out.frz _) rfl ⟨hT _ ⟨hst.c0,hst.c1⟩,?_⟩
   simp (maxSteps:=9^7) only[aAb]
   refine hQ _ _ ?_
   clear hQ hT hT' hM m0 m1 i1 i2 i3 hst hcs hu HD HSET HS hstep HT4 HW4 HT3 HW3 HT2 HW2 HX HY
   go_wp2
   go_roundw
   case rel=>exact ⟨q,by omega,by go_num,HW5,HST⟩
   simp[intOf]
theorem aFv:Elem Tryz.prog 200 203 2 24:=aCw (by kernel_rfl)
theorem aFn (l:List DV):∀u∈l.flatMap DV.cells,u.oneCell'=true:=by
 intro u hu
 obtain ⟨f,_,hf⟩:=List.mem_flatMap.1 hu
 simp only[DV.cells,List.mem_cons,List.mem_nil_iff,or_false] at hf
 rcases hf with rfl | rfl<;>rfl
theorem aQn (w:World)(f:DV):Rd (w.alloc (.cells #[.int .i64 f.kind,.string f.line] 203)) (w.alloc (.cells #[.int .i64 f.kind,.string f.line] 203)).heap.size 2 (some ⟨w.heap.size,0,none⟩) 1 1 ([f].flatMap DV.cells):=
 ⟨rfl,Nat.le_refl _,fun _=>⟨_,0,rfl,by simp,fun j u hu=>by
  rw[Nat.zero_add,World.cell?,heap_alloc_new]
  simpa[DV.cells] using hu⟩⟩
theorem aLo {k:Int}{a:List ByteArray}{j:Nat}{x:ByteArray}(hx:a[j]? = some x):evs k (a.take (j+1))=evs k (a.take j)++[⟨k,x⟩]:=by
 rw[List.take_add_one,hx];simp[evs]
theorem aBn (k:Int)(a:List ByteArray):(evs k a).length=a.length:=by simp[evs]
def EdIs (L:List DV)(w:World)(e:Ending) (w':World):Prop:=CloneIs 203 2 L.length (L.flatMap DV.cells) w e w'
theorem aDw {A:Option Addr}{n c:Nat}{a:List ByteArray}{k:Int}{w:World}(hn:n<=1000000)(ha:Rd w w.heap.size 1 A n c (a.map .string)) :
  Calls Tryz.prog 187 #[.int .i64 k,.slice A n c] w (EdIs (evs k a) w):=by
 have hla:a.length=n:=by have:=ha.len;rw[List.length_map] at this;omega
 have HA:=hid hla
 clear hla
 go_enter Tryz.func187,Tryz.ntmps187
 go_wp2
 go_loopw[5,10] (fun out i wr=>∃j:Nat,j<=n/\i=.int .i64 j/\Hid (Below w.heap.size w wr)/\Hid (wr.ownsRow w.heap.size 203 2 out j ((evs k (a.take j)).flatMap DV.cells))) (fun _ i _=>n-(intOf i).toNat)
 case atStart=>exact ⟨0,Nat.zero_le _,rfl,hid (Below.refl _ _),by rw[List.take_zero];exact World.ownsRow_nil _ _ _ _⟩
 obtain ⟨j,hj,rfl,HW,HO⟩:=hrel
 have hws:=HW.out.size
 by_cases hlt:j<n
 ·obtain ⟨b0,o0,x,rfl,hbb,hx,h0⟩:=ha.str hlt
  have c0:=(HW.out.cell (p:=⟨b0,o0+j,none⟩) hbb).trans h0
  have HX:=hid hx;clear hx
  have hb1:Below w.heap.size w (wr.alloc (.cells #[.int .i64 k,.string x] 203)):=HW.out.alloc hws _
  have ho1:=HO.out.alloc (.cells #[.int .i64 k,.string x] 203)
  have HB1:=hid hb1
  have HO1:=hid ho1
  clear hb1 ho1 HO
  go_wp2_with (at_builtin;refine aAm rfl (.tmp 14) (.tmp 18) 200 rfl aFv rfl rfl HO1.out (aQn _ ⟨k,x⟩) (aFn _) (by unfold maxLen;omega) (by omega) HB1.out.size ?_;intro v7 w7 ho7 hg7 hv7)
  have HW7:=hid (HB1.out.grown hg7 HB1.out.size (fun g hg=>(HO1.out.lt g hg).1))
  have HO7:=hid ho7
  clear ho7 hg7 hv7 HO1 HB1
  go_roundw
  case rel=>
   refine ⟨j+1,by omega,by go_num,HW7,?_⟩
   rw[aLo HX.out,List.flatMap_append]
   exact HO7
  simp[intOf];omega
 have hjn:j=n:=by omega
 subst hjn
 rw[List.take_of_length_le (by rw[HA.out];exact Nat.le_refl _)] at HO
 go_wp2
 go_ret
 exact ⟨_,rfl,by rw[aBn,HA.out];exact HO.out,HW.out⟩
theorem bCk {n:Nat}{w:World}(hn:n<=1000000) :
  Calls Tryz.prog 199 #[.slice none 0 0,.int .i64 n] w (CloneIs 203 2 0 [] w):=by
 cases n with
 | zero=>
  go_enter Tryz.func199,Tryz.ntmps199
  go_wp2
  go_ret
  exact ⟨_,rfl,World.ownsRow_nil _ _ _ _,Below.refl _ _⟩
 | succ n=>
  obtain ⟨i,z,hi,hz,hsz,hby,hzs⟩:=aFv.row
  have hr:=Lib.run_append_nil_zeros (P:=Tryz.prog) w 200 3 200 203 i z .i64 .i64 aFv.und (by kernel_rfl) hi hz (n+1) (by omega) (by omega) (by omega) (by rw[hby];omega)
  have hG:=aUr w (n+1) 0 203 (by omega) (by unfold maxLen;omega)
  obtain ⟨G,eG⟩:∃G,G=grownCap w (n+1) 0 203:=⟨_,rfl⟩
  rw[<-eG] at hr hG
  have ho:(w.drew.alloc (.cells (Builtin.zeroCells z.cells (n+1)++Builtin.zeroCells z.cells (G-(n+1))) 203)).ownsRow w.heap.size 203 2 (.slice (some ⟨w.heap.size,0,none⟩) 0 G) 0 []:=by
   refine World.ownsRow_made w.drew _ G (Nat.le_refl _) hG.2 ?_
   simp[Builtin.zeroCells,hzs]
   omega
  have hb:Below w.heap.size w (w.drew.alloc (.cells (Builtin.zeroCells z.cells (n+1)++Builtin.zeroCells z.cells (G-(n+1))) 203)):=(Below.refl _ _).drew.alloc (Nat.le_refl _) _
  generalize w.drew.alloc (.cells (Builtin.zeroCells z.cells (n+1)++Builtin.zeroCells z.cells (G-(n+1))) 203)=w1 at *
  go_enter Tryz.func199,Tryz.ntmps199
  go_wp2_with (at_builtin;refine Lib.wpList_append_run _ rfl (.tmp 20) (.tmp 21) _ _ rfl _ _ rfl rfl _ _ hr ?_)
  subst eG
  go_ret
  exact ⟨_,rfl,ho,hb⟩
def RdLL (w:World)(B g:Nat)(Ls:List (List DV)):Prop:=
 ∀(k:Nat) (L:List DV),Ls[k]? = some L->∃A c,w.cell? ⟨g,k,none⟩=some (.slice A L.length c)/\Rd w B 2 A L.length c (L.flatMap DV.cells)
theorem aRa {Ls:List (List DV)}{k:Nat}{L:List DV}(h:Ls[k]? = some L):(Ls.take (k+1)).flatten=(Ls.take k).flatten++L:=by
 rw[List.take_add_one,h];simp
theorem aUe (Ls:List (List DV))(k:Nat):(Ls.take k).flatten.length<=Ls.flatten.length:=by
 have:(Ls.take k).flatten++(Ls.drop k).flatten=Ls.flatten:=by rw[<-List.flatten_append,List.take_append_drop]
 rw[<-this,List.length_append];omega
theorem aHn {g q c:Nat}{Ls:List (List DV)}{w:World}(hq:Ls.length=q)(hq2:q<=1000)(hg:g<w.heap.size)(hn:Ls.flatten.length<=1000000)(h:RdLL w w.heap.size g Ls) :
  Calls Tryz.prog 188 #[.slice (some ⟨g,0,none⟩) q c] w (EdIs Ls.flatten w):=by
 have HQ:=hid hq;clear hq
 go_enter Tryz.func188,Tryz.ntmps188
 go_wp2
 go_loopw[3,11] (fun s i wr=>∃k:Nat,k<=q/\i=.int .i64 k/\s=.int .i64 ((Ls.take k).flatten.length:Nat)/\wr=w) (fun _ i _=>q-(intOf i).toNat)
 case atStart=>exact ⟨0,Nat.zero_le _,rfl,rfl,rfl⟩
 obtain ⟨k,hk,rfl,rfl,rfl⟩:=hrel
 have hle:=aUe Ls k
 by_cases hlt:k<q
 ·have hk2:k<Ls.length:=by rw[HQ.out];exact hlt
  obtain ⟨L,hL⟩:∃L,Ls[k]? = some L:=⟨_,List.getElem?_eq_getElem hk2⟩
  obtain ⟨A,cc,h0,hr⟩:=h k L hL
  have hle2:=aUe Ls (k+1)
  have hs:=aRa hL
  rw[hs,List.length_append] at hle2
  have HL:=hid hs
  clear hs hL
  generalize hS:(Ls.take k).flatten.length=s at *
  have HS:=hid hS
  clear hS
  go_wp2
  go_roundw
  case rel=>exact ⟨k+1,by omega,by go_num,by rw[HL.out,List.length_append,HS.out];push_cast;rfl,trivial⟩
  simp[intOf];omega
 obtain rfl:k=q:=by omega
 rw[List.take_of_length_le (by rw[HQ.out];exact Nat.le_refl _)] at *
 generalize hN:Ls.flatten.length=N at *
 have HN:=hid hN
 clear hN
 have hG:=bCk (n:=N) (w:=wr) hn
 go_wp2_with fail
 refine hG.mono ?_
 rintro e w1 ⟨v0,rfl,ho0,hb0⟩
 have HB0:=hid hb0
 have HO0:=hid ho0
 clear hG hb0 ho0 hle hlt
 go_wp2
 go_loopw[6,27] (fun v i w2=>∃j:Nat,j<=k/\i=.int .i64 j/\Hid (Below wr.heap.size wr w2)/\Hid (w2.ownsRow wr.heap.size 203 2 v (Ls.take j).flatten.length ((Ls.take j).flatten.flatMap DV.cells))) (fun _ i _=>k-(intOf i).toNat)
 case atStart=>exact ⟨0,Nat.zero_le _,rfl,HB0,HO0⟩
 clear HB0 HO0
 obtain ⟨j,hj,rfl,HW,HO⟩:=hrel
 have hws:=HW.out.size
 by_cases hlt:j<k
 ·have hj2:j<Ls.length:=by rw[HQ.out];exact hlt
  obtain ⟨L,hL⟩:∃L,Ls[j]? = some L:=⟨_,List.getElem?_eq_getElem hj2⟩
  obtain ⟨A,cc,h0,hr⟩:=h j L hL
  have hle2:=aUe Ls (j+1)
  rw[HN.out] at hle2
  have hs:=aRa hL
  rw[hs,List.length_append] at hle2
  have HL:=hid hs
  clear hs hL
  have c0:=(HW.out.cell (p:=⟨g,j,none⟩) hg).trans h0
  have HR:=hid ((hr.below HW.out).more hws)
  clear hr
  have hsum:(Ls.take j).flatten.length+L.length<=1000000:=by omega
  go_wp2_with (at_builtin;refine aAm rfl (.tmp 31) (.tmp 32) 200 rfl aFv rfl rfl HO.out HR.out (aFn _) (by unfold maxLen;omega) (by omega) hws ?_;intro v7 w7 ho7 hg7 hv7)
  have HW7:=hid (HW.out.grown hg7 hws (fun g hg=>(HO.out.lt g hg).1))
  have HO7:=hid ho7
  clear ho7 hg7 hv7 HO HW
  go_roundw
  case rel=>
   refine ⟨j+1,by omega,by go_num,HW7,?_⟩
   rw[HL.out,List.flatMap_append,List.length_append]
   exact HO7
  simp[intOf];omega
 obtain rfl:j=k:=by omega
 rw[List.take_of_length_le (by rw[HQ.out];exact Nat.le_refl _)] at HO
 go_wp2
 go_ret
 exact ⟨_,rfl,HO.out,HW.out⟩
end Go.Proofs.YtcemkikgaeghjaaGreatDoor
namespace Go.Proofs.YtcemkikgaeghjaaGreatDoor
theorem aRg (e:DV)(es:List DV):olds (e::es)=(if e.kind=3 then [] else [e.line])++olds es:=rfl
theorem aHz (e:DV)(es:List DV):news (e::es)=(if e.kind=2 then [] else [e.line])++news es:=rfl
theorem aNl:∀(es:List DV)(j:Nat),kinds es->(placesF es j).length=(olds es).length
 | [],_,_=>rfl
 | e::es,j,h=>by
  have he:=h e (by simp)
  have ih:=fun j=>aNl es j (fun x hx=>h x (List.mem_cons_of_mem _ hx))
  rw[placesF,aRg,List.length_append]
  rcases he with h1 | h1 | h1
  ·rw[if_pos h1,if_neg (by omega),List.length_cons,ih];simp;omega
  ·rw[if_neg (by omega),if_pos h1,if_neg (by omega),List.length_cons,ih];simp;omega
  rw[if_neg (by omega),if_neg (by omega),if_pos h1,ih];simp
theorem aGh:∀(es:List DV)(j:Nat),kinds es->∀(i x:Nat),(placesF es j)[i]? = some (some x)->j<=x/\x-j<(news es).length/\(news es)[x-j]? = (olds es)[i]?
 | [],_,_,i,x,h=>by simp[placesF] at h
 | e::es,j,hk,i,x,h=>by
  have he:=hk e (by simp)
  have ih:=fun j i x=>aGh es j (fun x hx=>hk x (List.mem_cons_of_mem _ hx)) i x
  rw[placesF] at h
  rw[aHz,aRg]
  rcases he with h1 | h1 | h1
  ·rw[if_pos h1] at h
   rw[if_neg (show ¬e.kind=2 by omega),if_neg (show ¬e.kind=3 by omega)]
   cases i with
   | zero=>
    simp at h
    subst h
    simp
   | succ i=>
    rw[List.getElem?_cons_succ] at h
    obtain ⟨a,b,c⟩:=ih (j+1) i x h
    obtain ⟨d,hd⟩:∃d,x-j=d+1:=⟨x-j-1,by omega⟩
    rw[hd]
    have hd2:x-(j+1)=d:=by omega
    rw[hd2] at b c
    refine ⟨by omega,by simp;omega,?_⟩
    simpa using c
  ·rw[if_neg (show ¬e.kind=1 by omega),if_pos h1] at h
   rw[if_pos h1,if_neg (show ¬e.kind=3 by omega)]
   cases i with
   | zero=>simp at h
   | succ i=>
    rw[List.getElem?_cons_succ] at h
    obtain ⟨a,b,c⟩:=ih j i x h
    exact ⟨a,by simpa using b,by simpa using c⟩
  rw[if_neg (show ¬e.kind=1 by omega),if_neg (show ¬e.kind=2 by omega)] at h
  rw[if_neg (show ¬e.kind=2 by omega),if_pos h1]
  obtain ⟨a,b,c⟩:=ih (j+1) i x h
  obtain ⟨d,hd⟩:∃d,x-j=d+1:=⟨x-j-1,by omega⟩
  rw[hd]
  have hd2:x-(j+1)=d:=by omega
  rw[hd2] at b c
  exact ⟨by omega,by simp;omega,by simpa using c⟩
theorem aGg:∀(es:List DV)(j:Nat),kinds es->∀(i i' x x':Nat),i<i'->(placesF es j)[i]? = some (some x)->(placesF es j)[i']? = some (some x')->x<x'
 | [],_,_,i,_,x,_,_,h,_=>by simp[placesF] at h
 | e::es,j,hk,i,i',x,x',hi,h,h'=>by
  have he:=hk e (by simp)
  have hk':kinds es:=fun x hx=>hk x (List.mem_cons_of_mem _ hx)
  rw[placesF] at h h'
  rcases he with h1 | h1 | h1
  ·rw[if_pos h1] at h h'
   obtain ⟨k',rfl⟩:∃k',i'=k'+1:=⟨i'-1,by omega⟩
   rw[List.getElem?_cons_succ] at h'
   cases i with
   | zero=>
    simp at h
    have:=(aGh es (j+1) hk' k' x' h').1
    omega
   | succ i=>
    rw[List.getElem?_cons_succ] at h
    exact aGg es (j+1) hk' i k' x x' (by omega) h h'
  ·rw[if_neg (show ¬e.kind=1 by omega),if_pos h1] at h h'
   obtain ⟨k',rfl⟩:∃k',i'=k'+1:=⟨i'-1,by omega⟩
   rw[List.getElem?_cons_succ] at h'
   cases i with
   | zero=>simp at h
   | succ i=>
    rw[List.getElem?_cons_succ] at h
    exact aGg es j hk' i k' x x' (by omega) h h'
  rw[if_neg (show ¬e.kind=1 by omega),if_neg (show ¬e.kind=2 by omega)] at h h'
  exact aGg es (j+1) hk' i i' x x' hi h h'
structure Places (base side:List ByteArray) (ps:List (Option Nat)):Prop where
 len:ps.length=base.length
 at_:∀(i x:Nat),ps[i]? = some (some x)->x<side.length/\side[x]? = base[i]?
 up:∀(i i' x x':Nat),i<i'->ps[i]? = some (some x)->ps[i']? = some (some x')->x<x'
theorem aCq (base side:List ByteArray):Places base side (placeF base side):=by
 obtain ⟨h1,h2,h3⟩:=aLy base side
 refine ⟨?_,fun i x h=>?_,aGg _ _ h3⟩
 ·rw[placeF,aNl _ _ h3,h1]
 obtain ⟨_,a,b⟩:=aGh _ _ h3 i x h
 rw[h1,h2] at b
 rw[h2] at a
 exact ⟨a,b⟩
theorem aXe:∀a:List ByteArray,pfx a a=a.length
 | []=>rfl
 | x::a=>by rw[pfx,if_pos rfl,aXe a];rfl
theorem aKq:∀(l:List ByteArray)(j:Nat),placesF (evs 1 l) j=(List.range' j l.length).map some
 | [],_=>rfl
 | x::l,j=>by
  show placesF (⟨1,x⟩::evs 1 l) j=_
  rw[placesF,if_pos rfl,aKq l (j+1),List.length_cons,List.range'_succ];rfl
theorem aXy (a:List ByteArray):placeF a a=(List.range' 0 a.length).map some:=by
 have:script a a=evs 1 a:=by
  rw[script,aXe,List.take_length,List.drop_length,rest,if_neg (by simp),scrT,List.append_nil]
 rw[placeF,this,aKq]
theorem bCm:∀(zs:List (Option Nat×Option Nat))(p q k:Nat),k<runF zs p q->zs[k]? = some (some (p+k),some (q+k))
 | [],_,_,k,h=>by simp[runF] at h
 | (none,_)::zs,p,q,k,h=>by simp[runF] at h
 | (some x,none)::zs,p,q,k,h=>by simp[runF] at h
 | (some x,some y)::zs,p,q,k,h=>by
  rw[runF] at h
  split at h
  ·rename_i e
   obtain ⟨rfl,rfl⟩:=e
   cases k with
   | zero=>rfl
   | succ k=>
    rw[List.getElem?_cons_succ,bCm zs (x+1) (y+1) k (by omega)]
    rw[show x+1+k=x+(k+1) by omega,show y+1+k=y+(k+1) by omega]
  omega
structure Both (base ours theirs:List ByteArray) (zs:List (Option Nat×Option Nat)):Prop where
 len:zs.length=base.length
 at_:∀(i x y:Nat),zs[i]? = some (some x,some y)->x<ours.length/\ours[x]? = base[i]?/\y<theirs.length/\theirs[y]? = base[i]?
 up:∀(i i' x x' y y':Nat),i<i'->zs[i]? = some (some x,some y)->zs[i']? = some (some x',some y')->x<x'/\y<y'
theorem aOl {α β:Type}{xs:List α}{ys:List β}{i:Nat}{x:α}{y:β}(h:(xs.zip ys)[i]? = some (x,y)):xs[i]? = some x/\ys[i]? = some y:=by
 rw[List.getElem?_zip_eq_some] at h;exact h
theorem aQh (base ours theirs:List ByteArray):Both base ours theirs ((placeF base ours).zip (placeF base theirs)):=by
 have p:=aCq base ours
 have q:=aCq base theirs
 refine ⟨by rw[List.length_zip,p.len,q.len,Nat.min_self],fun i x y h=>?_,fun i i' x x' y y' hi h h'=>?_⟩
 ·obtain ⟨h1,h2⟩:=aOl h
  obtain ⟨a,b⟩:=p.at_ i x h1
  obtain ⟨c,d⟩:=q.at_ i y h2
  exact ⟨a,b,c,d⟩
 obtain ⟨h1,h2⟩:=aOl h
 obtain ⟨h3,h4⟩:=aOl h'
 exact ⟨p.up i i' x x' hi h1 h3,q.up i i' y y' hi h2 h4⟩
theorem aCu {l:List ByteArray}{i k:Nat}(h:i<=k)(hk:k<=l.length):l.drop i=sliceF l i k++l.drop k:=by
 have h1:(l.take k++l.drop k).drop i=(l.take k).drop i++l.drop k:=by
  rw[List.drop_append_of_le_length (by rw[List.length_take];omega)]
 rw[List.take_append_drop] at h1
 exact h1
theorem aSs {l m:List ByteArray}{i x n:Nat}(h:∀k,k<n->m[x+k]? = l[i+k]?)(hl:i+n<=l.length)(hm:x+n<=m.length):sliceF m x (x+n)=sliceF l i (i+n):=by
 unfold sliceF
 refine List.ext_getElem? fun k=>?_
 rw[List.getElem?_drop,List.getElem?_drop]
 by_cases hk:k<n
 ·rw[List.getElem?_take_of_lt (by omega),List.getElem?_take_of_lt (by omega)];exact h k hk
 rw[List.getElem?_eq_none (by rw[List.length_take];omega),List.getElem?_eq_none (by rw[List.length_take];omega)]
inductive Pieces (base ours theirs:List ByteArray) (zs:List (Option Nat×Option Nat)):Nat->Nat->Nat->List KV->Prop
 | last {b o t:Nat} (hb:b<=base.length) (ho:o<=ours.length) (ht:t<=theirs.length):Pieces base ours theirs zs b o t (betweenF (base.drop b) (ours.drop o) (theirs.drop t))
 | more {b o t i x y n:Nat} {l:List KV} (hz:∀k,k<n->zs[i+k]? = some (some (x+k),some (y+k))) (hn:0<n) (hb:b<=i) (ho:o<=x) (ht:t<=y) (hi:i+n<=base.length) (hx:x+n<=ours.length) (hy:y+n<=theirs.length)
   (he:sliceF ours x (x+n)=sliceF base i (i+n)) (hf:sliceF theirs y (y+n)=sliceF base i (i+n)) (h:Pieces base ours theirs zs (i+n) (x+n) (y+n) l) :
   Pieces base ours theirs zs b o t (betweenF (sliceF base b i) (sliceF ours o x) (sliceF theirs t y)++⟨1,sliceF base i (i+n),sliceF base i (i+n),sliceF base i (i+n)⟩::l)
theorem aJj {base ours theirs:List ByteArray}{zs:List (Option Nat×Option Nat)}(Z:Both base ours theirs zs) :
  ∀(fuel i b o t:Nat),base.length<=i+fuel->b<=i->b<=base.length->o<=ours.length->t<=theirs.length->(∀i' x y,i<=i'->zs[i']? = some (some x,some y)->o<=x/\t<=y)->Pieces base ours theirs zs b o t (goF base ours theirs zs fuel i b o t)
 | 0,i,b,o,t,_,_,hb,ho,ht,_=>by rw[goF];exact .last hb ho ht
 | fuel+1,i,b,o,t,hf,hbi,hb,ho,ht,hge=>by
  rw[goF]
  split
  ·exact .last hb ho ht
  ·rename_i x y hz
   have hrun:=bCm (zs.drop (i+1)) (x+1) (y+1)
   generalize runF (zs.drop (i+1)) (x+1) (y+1)=m at hrun
   have hz':∀k,k<m+1->zs[i+k]? = some (some (x+k),some (y+k)):=fun k hk=>by
    cases k with
    | zero=>exact hz
    | succ k=>
     have:=hrun k (by omega)
     rw[List.getElem?_drop] at this
     rw[show i+(k+1)=i+1+k by omega,this,show x+1+k=x+(k+1) by omega,show y+1+k=y+(k+1) by omega]
   have hl:=Z.at_ _ _ _ (hz' m (by omega))
   have hil:i+m<zs.length:=(List.getElem?_eq_some_iff.1 (hz' m (by omega))).1
   rw[Z.len] at hil
   obtain ⟨g1,g2⟩:=hge i x y (Nat.le_refl _) hz
   refine .more hz' (by omega) hbi g1 g2 (by omega) (by omega) (by omega) ?_ ?_ (aJj Z fuel (i+(m+1)) (i+(m+1)) (x+(m+1)) (y+(m+1)) (by omega) (Nat.le_refl _) (by omega) (by omega) (by omega) ?_)
   ·exact aSs (fun k hk=>(Z.at_ _ _ _ (hz' k hk)).2.1) (by omega) (by omega)
   ·exact aSs (fun k hk=>(Z.at_ _ _ _ (hz' k hk)).2.2.2) (by omega) (by omega)
   intro i' x' y' hi' h'
   obtain ⟨u1,u2⟩:=Z.up (i+m) i' _ x' _ y' (by omega) (hz' m (by omega)) h'
   omega
  rename_i hz
  exact aJj Z fuel (i+1) b o t (by omega) (by omega) hb ho ht (fun i' x y hi' h=>hge i' x y (by omega) h)
theorem aFd (base ours theirs:List ByteArray):Pieces base ours theirs ((placeF base ours).zip (placeF base theirs)) 0 0 0 (chunksF base ours theirs):=
 aJj (aQh base ours theirs) _ _ _ _ _ (by omega) (Nat.le_refl _) (by omega) (by omega) (by omega) (fun _ _ _ _ _=>⟨by omega,by omega⟩)
theorem aIo (b o t:List ByteArray):(betweenF b o t).flatMap KV.base=b/\(betweenF b o t).flatMap KV.ours=o/\(betweenF b o t).flatMap KV.theirs=t:=by
 unfold betweenF
 split
 ·have hb:b=[]:=List.eq_nil_of_length_eq_zero (by omega)
  have ho:o=[]:=List.eq_nil_of_length_eq_zero (by omega)
  have ht:t=[]:=List.eq_nil_of_length_eq_zero (by omega)
  subst hb;subst ho;subst ht
  exact ⟨rfl,rfl,rfl⟩
 exact ⟨by simp,by simp,by simp⟩
theorem Pieces.sides {base ours theirs:List ByteArray}{zs:List (Option Nat×Option Nat)}{b o t:Nat}{l:List KV}(h:Pieces base ours theirs zs b o t l) :
  l.flatMap KV.base=base.drop b/\l.flatMap KV.ours=ours.drop o/\l.flatMap KV.theirs=theirs.drop t:=by
 induction h with
 | last hb ho ht=>exact aIo _ _ _
 | more hz hn hb ho ht hi hx hy he hf h ih=>
  obtain ⟨i1,i2,i3⟩:=ih
  obtain ⟨j1,j2,j3⟩:=aIo (sliceF base _ _) (sliceF ours _ _) (sliceF theirs _ _)
  refine ⟨?_,?_,?_⟩
  ·rw[List.flatMap_append,List.flatMap_cons,i1,j1]
   rw[aCu hb (by omega),aCu (Nat.le_add_right _ _) hi]
  ·rw[List.flatMap_append,List.flatMap_cons,i2,j2]
   rw[aCu ho (by omega),aCu (Nat.le_add_right _ _) hx,he]
  rw[List.flatMap_append,List.flatMap_cons,i3,j3]
  rw[aCu ht (by omega),aCu (Nat.le_add_right _ _) hy,hf]
def KindOk (c:KV):Prop:=(c.kind=1/\c.ours=c.base/\c.theirs=c.base)\/c.kind=kindF c.base c.ours c.theirs
theorem aFc {b o t:List ByteArray}{c:KV}(h:c∈betweenF b o t):c=⟨kindF b o t,b,o,t⟩:=by
 unfold betweenF at h
 split at h
 ·cases h
 simpa using h
theorem Pieces.kinds {base ours theirs:List ByteArray}{zs:List (Option Nat×Option Nat)}{b o t:Nat}{l:List KV}(h:Pieces base ours theirs zs b o t l):∀c∈l,KindOk c:=by
 induction h with
 | last hb ho ht=>
  intro c hc
  rw[aFc hc];exact .inr rfl
 | more hz hn hb ho ht hi hx hy he hf h ih=>
  intro c hc
  rcases List.mem_append.1 hc with hc | hc
  ·rw[aFc hc];exact .inr rfl
  rcases List.mem_cons.1 hc with rfl | hc
  ·exact .inl ⟨rfl,rfl,rfl⟩
  exact ih c hc
theorem aRb {l:List KV}(hk:∀c∈l,KindOk c) :
  ((∀c∈l,c.ours=c.base)->cleanF l=true/\mergedF l=l.flatMap KV.theirs)/\((∀c∈l,c.theirs=c.base)->cleanF l=true/\mergedF l=l.flatMap KV.ours)/\
  ((∀c∈l,c.ours=c.theirs)->cleanF l=true/\mergedF l=l.flatMap KV.ours):=by
 have one:∀{l:List KV} {f:KV->List ByteArray},(∀c∈l,c.kind≠5/\(if c.kind=3 then c.theirs else c.ours)=f c)->cleanF l=true/\mergedF l=l.flatMap f:=by
  intro l f
  induction l with
  | nil=>intro _;exact ⟨rfl,rfl⟩
  | cons c l ih=>
   intro h
   obtain ⟨h1,h2⟩:=ih fun d hd=>h d (List.mem_cons_of_mem _ hd)
   obtain ⟨h3,h4⟩:=h c (by simp)
   refine ⟨?_,?_⟩
   ·unfold cleanF at h1 ⊢
    rw[List.all_cons,h1,decide_eq_true h3];rfl
   unfold mergedF at h2 ⊢
   rw[List.flatMap_cons,List.flatMap_cons,h2,h4]
 refine ⟨fun h=>one fun c hc=>?_,fun h=>one fun c hc=>?_,fun h=>one fun c hc=>?_⟩
 ·rcases hk c hc with ⟨h1,h2,h3⟩ | h1
  ·rw[h1];exact ⟨by decide,by rw[if_neg (by decide),h2,h3]⟩
  rw[kindF,if_pos (h c hc)] at h1
  rw[h1];exact ⟨by decide,by rw[if_pos rfl]⟩
 ·rcases hk c hc with ⟨h1,h2,h3⟩ | h1
  ·rw[h1];exact ⟨by decide,by rw[if_neg (by decide)]⟩
  unfold kindF at h1
  split at h1
  ·rename_i e
   rw[h1];exact ⟨by decide,by rw[if_pos rfl,h c hc,e]⟩
  rw[if_pos (h c hc)] at h1
  rw[h1];exact ⟨by decide,by rw[if_neg (by decide)]⟩
 rcases hk c hc with ⟨h1,h2,h3⟩ | h1
 ·rw[h1];exact ⟨by decide,by rw[if_neg (by decide)]⟩
 unfold kindF at h1
 split at h1
 ·rw[h1];exact ⟨by decide,by rw[if_pos rfl];exact (h c hc).symm⟩
 split at h1
 ·rw[h1];exact ⟨by decide,by rw[if_neg (by decide)]⟩
 rw[if_pos (h c hc)] at h1
 rw[h1];exact ⟨by decide,by rw[if_neg (by decide)]⟩
theorem Pieces.as_theirs {base ours:List ByteArray}{zs:List (Option Nat×Option Nat)}(hs:∀(i x y:Nat),zs[i]? = some (some x,some y)->y=i){theirs:List ByteArray}(ho:theirs=base){b o t:Nat}{l:List KV}
  (h:Pieces base ours theirs zs b o t l) (e:t=b):∀c∈l,c.theirs=c.base:=by
 induction h with
 | last hb _ ht=>
  intro c hc
  rw[aFc hc]
  show theirs.drop _=base.drop _
  rw[e,ho]
 | @more b o t i x y n l hz hn hb _ ht hi hx hy he hf h ih=>
  have hxi:y=i:=hs i x y (by simpa using hz 0 hn)
  intro c hc
  rcases List.mem_append.1 hc with hc | hc
  ·rw[aFc hc]
   show sliceF theirs t y=sliceF base b i
   rw[e,ho,hxi]
  rcases List.mem_cons.1 hc with rfl | hc
  ·rfl
  exact ih (by omega) c hc
theorem aWl {n i x:Nat}(h:((List.range' 0 n).map some)[i]? = some (some x)):x=i:=by
 rw[List.getElem?_map] at h
 cases h1:(List.range' 0 n)[i]? with
 | none=>rw[h1] at h;cases h
 | some y=>
  rw[h1] at h
  have h2:=List.getElem?_eq_some_iff.1 h1
  obtain ⟨hi,h3⟩:=h2
  rw[List.getElem_range'] at h3
  simp at h
  omega
theorem aFi (b o t:List ByteArray):(chunksF b o t).flatMap KV.base=b/\(chunksF b o t).flatMap KV.ours=o/\(chunksF b o t).flatMap KV.theirs=t:=by
 have:=(aFd b o t).sides
 simpa using this
theorem aIc (f o:ByteArray):merge3F f o f=(o,true):=by
 have hp:=aFd (linesF f) (linesF o) (linesF f)
 have h1:=hp.as_theirs (fun i x y h=>by
  have h2:=(aOl h).2
  rw[aXy] at h2
  exact aWl h2) rfl rfl
 obtain ⟨h2,h3⟩:=(aRb hp.kinds).2.1 h1
 rw[merge3F]
 rw[if_pos h2,h3,(aFi _ _ _).2.1,aOq]
def swapK (c:KV):KV:=⟨if c.kind=2 then 3 else if c.kind=3 then (if c.theirs=c.base then 3 else 2) else c.kind,c.base,c.theirs,c.ours⟩
end Go.Proofs.YtcemkikgaeghjaaGreatDoor
