/- Texts of the walks, together: Walk: the document's Renames, phase one. -/
import Derived.Test.YtcemkikgaeghjaaGreatDoorG11
import Derived.Test.YtcemkikgaeghjaaGreatDoorG34
import Derived.Test.YtcemkikgaeghjaaGreatDoorG35
set_option maxHeartbeats 8000000
set_option maxRecDepth 100000
open Go.Lib (hid)
namespace Go.Proofs.YtcemkikgaeghjaaGreatDoor
open Go.RowKit
theorem bAh {n i:Nat}{ps:List (Nat×Nat)}(h:i<n):(intsV (toL n ps i))[i]? = some (.int .i64 0):=by
 simp[intsV,toL,h]
theorem bEb (n:Nat):intsV (toL n [] 0)=List.replicate n (.int .i64 0):=by
 refine List.ext_getElem (by simp[intsV,toL]) fun j h1 h2=>?_
 simp[intsV,toL]
def InS (base side:List FV)(i k:Nat)(is js:List Nat)(ps:List (Nat×Nat)) (js':List Nat) (ps':List (Nat×Nat)):Prop:=
 (js'=js/\ps'=ps/\∀j∈js,j<k->textAt side j≠textAt base i)\/
 ∃j,i∈is/\j∈js/\j<k/\textAt side j=textAt base i/\(∀y∈js,y<j->textAt side y≠textAt base i)/\js'=js.filter (fun k=>decide (k≠j))/\ps'=ps++[(i,j)]
theorem aYj {w w1 w2 w3:World}{n m g:Nat}{va vb:Value}{ba bb:List Bool}{la lb:List Nat}(ha:ba=bitsL n la)(hb:bb=bitsL m lb)(hla:ba.length=n)(hlb:bb.length=m)
  (o1:w1.ownsRow w.heap.size 4 1 va ba.length (boolsV ba)) (h1:Below w.heap.size w w1) (o2:w2.ownsRow w1.heap.size 4 1 vb bb.length (boolsV bb)) (h2:Below w1.heap.size w1 w2)
  (hg:g=w2.heap.size) (o3:w3.ownsRow w.heap.size 3 1 (.slice (some ⟨g,0,none⟩) n n) n (List.replicate n (.int .i64 0))) (h3:w2.grownBy w3 none) :
  RW w w3 n m va vb (.slice (some ⟨g,0,none⟩) n n) la lb (toL n [] 0):=by
 subst ha hb
 rw[hla] at o1
 rw[hlb] at o2
 have hb3:Below w2.heap.size w2 w3:=(Below.refl _ _).grown h3 (Nat.le_refl _) (fun g hg=>by cases hg)
 have hb2:Below w.heap.size w w2:=h1.trans (h2.mono h1.size)
 have p1:=aAe (aAe o1 h2) hb3
 have p2:=aAe (aBm o2 h1.size) hb3
 refine ⟨hb2.trans (hb3.mono hb2.size),⟨fun r hr=>?_,?_⟩⟩
 ·simp only[List.mem_cons,List.not_mem_nil,or_false] at hr
  rcases hr with rfl | rfl | rfl
  ·exact p1
  ·exact p2
  rw[bEb];exact o3
 have e3:(Value.slice (some ⟨g,0,none⟩) n n).ownBlock=some g:=rfl
 simp only[List.filterMap_cons,List.filterMap_nil,e3]
 have q1:∀x,va.ownBlock=some x->x<w1.heap.size:=fun x hx=>(o1.lt x hx).2
 have q2:∀x,vb.ownBlock=some x->w1.heap.size<=x/\x<w2.heap.size:=fun x hx=>o2.lt x hx
 have q3:=h2.size
 cases e1:va.ownBlock with
 | none=>
  cases e2:vb.ownBlock with
  | none=>simp
  | some y=>have:=q2 y e2;simp;omega
 | some x=>
  have a1:=q1 x e1
  cases e2:vb.ownBlock with
  | none=>simp;omega
  | some y=>have:=q2 y e2;simp;omega
theorem aGf {l:List FV}{i:Nat}{f:FV}(h:l[i]? = some f):textAt l i=f.text:=by unfold textAt;rw[h];rfl
theorem RW.drew {w0 w:World}{n m:Nat}{va vb vt:Value}{is js:List Nat}{tl:List Int}(h:RW w0 w n m va vb vt is js tl):RW w0 w.drew n m va vb vt is js tl:=⟨h.bel.drew,h.own.drew⟩
theorem aZj {ps:List (Nat×Nat)}{k:Nat}(h:¬lookI ps k<0):∃j:Nat,(k,j)∈ps/\lookI ps k=(j:Int):=by
 unfold lookI at h ⊢
 cases hf:ps.find? (fun p=>decide (p.1=k)) with
 | none=>rw[hf] at h;exact absurd (by decide) h
 | some p=>
  have h1:=List.find?_some hf
  have h2:=List.mem_of_find?_eq_some hf
  obtain ⟨x,y⟩:=p
  have:x=k:=by simpa using h1
  subst this
  exact ⟨y,h2,rfl⟩
def renV (r:ByteArray×ByteArray):List Value:=[.string r.1,.string r.2]
theorem aQu (l:List (ByteArray×ByteArray)):∀u∈l.flatMap renV,u.oneCell'=true:=by
 intro u hu
 obtain ⟨f,_,hu⟩:=List.mem_flatMap.1 hu
 simp only[renV,List.mem_cons,List.mem_nil_iff,or_false] at hu
 rcases hu with rfl | rfl<;>rfl
theorem bDa {w:World}{B n c l k:Nat}{A:Option Addr}{xs:List (ByteArray×ByteArray)}(h:Rd w B 2 A n c (xs.flatMap renV))(hl:l<=k)(hk:k<=n) :
  ∃A',sliced A l k c 2=.slice A' (k-l) (c-l)/\Rd w B 2 A' (k-l) (c-l) (((xs.take k).drop l).flatMap renV):=by
 refine ⟨_,rfl,?_⟩
 have:=h.cut hl hk
 rw[T.flat_take (f:=renV) (sz:=2) (fun _=>rfl),T.flat_drop (f:=renV) (sz:=2) (fun _=>rfl)] at this
 exact this
def RenAre (L:List (ByteArray×ByteArray))(w:World)(e:Ending) (w':World):Prop:=∃v,e=.returned v/\w'.ownsRow w.heap.size 81 2 v L.length (L.flatMap renV)/\Below w.heap.size w w'
theorem aKr {A B:Option Addr}{n ca m cb:Nat}{base side:List FV}{w:World}(hn:n<=100000)(hm:m<=100000)(ha:RdF w w.heap.size A n ca base)(hb:RdF w w.heap.size B m cb side)
  (hbt:∀f∈base,f.text.size<=1000000) (hst:∀f∈side,f.text.size<=1000000) (hR:Rise base) :
  Calls Tryz.prog 19 #[.slice A n ca,.slice B m cb] w (RenAre (renF base side) w):=by
 have HL:Hid (base.length=n):=hid ha.len
 have HL2:Hid (side.length=m):=hid hb.len
 have HRI:=hid hR
 have HBT:=hid hbt
 have HST:=hid hst
 clear hR hbt hst
 have K1:=aSc hn hm ha hb
 have hM1:=hid (show 8*n<=281474976710656 by omega)
 have hM2:=hid (show n<=maxLen by simp only[maxLen];omega)
 go_enter Tryz.func19,Tryz.ntmps19
 go_wp2_with fail
 refine K1.mono ?_
 rintro e w1 ⟨va,rfl,oa,hb1⟩
 have K2:=aSc hm hn (hb.to hb1 hb1.size) (ha.to hb1 hb1.size)
 go_wp2_with fail
 refine K2.mono ?_
 rintro e w2 ⟨vb,rfl,ob,hb2⟩
 have hbase:w.heap.size<=w2.heap.size:=Nat.le_trans hb1.size hb2.size
 go_wp2_with (at_make;refine aEr rfl (.tmp 28) (.tmp 28) 79 rfl E64 w.heap.size n rfl rfl rfl rfl hM1.out hM2.out hbase ?_;intro w3 o3 hg3)
 have H0:=aYj (aOg base side) (aOg side base) (aSk _ _) (aSk _ _) oa hb1 ob hb2 rfl (by rw[HL.out];exact o3) hg3
 rw[HL.out,HL2.out] at H0
 have HR0:=hid H0
 have hg2:w.heap.size<=w2.heap.size:=hbase
 clear H0 oa ob hb1 hb2 o3 hg3 hbase K1 K2
 generalize w2.heap.size=gt at *
 go_loopw[8] (fun iv wr=>∃(i:Nat) (is js:List Nat) (ps:List (Nat×Nat)),i<=n/\iv=.int .i64 i/\Hid (RW w wr n m va vb (.slice (some ⟨gt,0,none⟩) n n) is js (toL n ps i))/\Hid (P1 base side i is js ps)) (fun iv _=>n-(intOf iv).toNat)
 case atStart=>exact ⟨0,_,_,_,Nat.zero_le _,rfl,HR0,hid (P1.start base side)⟩
 obtain ⟨i,is,js,ps,hi,rfl,HR,HP⟩:=hrel
 by_cases hlt:i<n
 ·obtain ⟨_,_,e1,q0,q1,_⟩:=HR.out.at_t (bAh hlt)
  cases e1
  have HR1:=hid (HR.out.set_t (bEp HP.out.key))
  clear HR
  go_wp2
  generalize wr.setCell ⟨gt,i,none⟩ (.int .i64 (-1))=ws at *
  clear q0 q1
  go_loopw[9] (fun kv wk=>∃(k:Nat) (js':List Nat) (ps':List (Nat×Nat)),k<=m/\kv=.int .i64 k/\Hid (RW w wk n m va vb (.slice (some ⟨gt,0,none⟩) n n) is js' (toL n ps' (i+1)))/\Hid (InS base side i k is js ps js' ps')) (fun kv _=>m-(intOf kv).toNat)
  case atStart=>exact ⟨0,_,_,Nat.zero_le _,rfl,HR1,hid (.inl ⟨rfl,rfl,fun _ _ h=>by omega⟩)⟩
  obtain ⟨k,js',ps',hk,rfl,HR,HI⟩:=hrel
  obtain ⟨_,_,e9,c0,c1,_⟩:=HR.out.at_t (aVb (ps:=ps') hlt (Nat.lt_succ_self i))
  cases e9
  by_cases him:i∈is
  ·obtain ⟨ga,ca1,rfl,a0,a1,_⟩:=HR.out.at_a hlt
   rw[decide_eq_true him] at a0
   rcases HI.out with ⟨e1,e2,h3⟩ | ⟨j,h1,h2,h3,h4,h5,e1,e2⟩
   ·subst e1 e2
    rw[aJu HP.out.key] at c0
    by_cases hk2:k<m
    ·obtain ⟨gb,cb1,rfl,b0,b1,_⟩:=HR.out.at_b hk2
     by_cases hkj:k∈js'
     ·rw[decide_eq_true hkj] at b0
      obtain ⟨bs,os,f,rfl,hbs,hxs,_,_,_,s2⟩:=hb.get hk2
      obtain ⟨bt,ot,g,rfl,hbt,hxt,_,_,_,t2⟩:=ha.get hlt
      replace s2:=(HR.out.bel.cell (p:=⟨bs,os+k*3+2,none⟩) (by show bs<_;omega)).trans s2
      replace t2:=(HR.out.bel.cell (p:=⟨bt,ot+i*3+2,none⟩) (by show bt<_;omega)).trans t2
      have HE1:=hid (aGf hxs)
      have HE2:=hid (aGf hxt)
      have HR2:=hid HR.out.drew
      go_wp2
      refine aAd (fun w'=>w'=wr.drew) (qs 17) mixed (by kernel_rfl) rfl ?_
      intro Tp M Q hT hT' hM hQ
      have m0:M ⟨gb,k,none⟩=some (.bool true):=hM _ _ fun w' hw=>by subst hw;exact b0
      have m1:M ⟨bs,os+k*3+2,none⟩=some (.string f.text):=hM _ _ fun w' hw=>by subst hw;exact s2
      have m2:M ⟨bt,ot+i*3+2,none⟩=some (.string g.text):=hM _ _ fun w' hw=>by subst hw;exact t2
      simp only[qcmp]
      generalize f.text=ft at *
      generalize g.text=gt2 at *
      by_cases hq:ft=gt2
      ·have e1:(ft.toList == gt2.toList)=true:=by rw[hq];exact beq_self_eq_true _
       simp (maxSteps:=9^7) only[↓qpre,aAb,aAf,aAc,m0,m1,m2]
       (repeat refine ⟨by first|omega|(unfold inI64;omega),?_⟩)
       refine hQ _ _ ?_
       clear hQ hT hT' hM m0 m1 m2 e1
       have e2:decide (ft=gt2)=true:=decide_eq_true hq
       simp only[e2]
       clear e2
       have HR3:=hid (HR.out.set_t (aWt (j:=k) HP.out.key (Nat.lt_succ_self i)))
       obtain ⟨_,_,eb,d0,d1,_⟩:=HR3.out.at_b hk2
       cases eb
       rw[decide_eq_true hkj] at d0
       have HR4:=hid (HR3.out.set_b (x:=k)).drew
       have HI2:=hid (show InS base side i (k+1) is js' ps' (js'.filter fun y=>decide (y≠k)) (ps'++[(i,k)]) from
        .inr ⟨k,him,hkj,Nat.lt_succ_self k,by rw[HE1.out,HE2.out,hq],h3,rfl,rfl⟩)
       clear h3 HI HR2 HR3 b0 b1 a0 a1 s2 t2 HR hxs hxt HE1 HE2
       go_wp2
       go_roundw
       case rel=>exact ⟨k+1,_,_,by omega,by go_num,HR4,HI2⟩
       simp[intOf];omega
      have e1:(ft.toList == gt2.toList)=false:=aBe hq
      simp (maxSteps:=9^7) only[↓qpre,aAb,aAf,aAc,m0,m1,m2]
      (repeat refine ⟨by first|omega|(unfold inI64;omega),?_⟩)
      refine hQ _ _ ?_
      clear hQ hT hT' hM m0 m1 m2 e1
      have e2:decide (ft=gt2)=false:=decide_eq_false hq
      simp only[e2]
      clear e2
      have HI2:=hid (show InS base side i (k+1) is js' ps' js' ps' from .inl ⟨rfl,rfl,fun y hy hlt2=>by
       by_cases e:y=k
       ·subst e;rw[HE1.out,HE2.out];exact hq
       exact h3 y hy (by omega)⟩)
      clear h3 HI b0 b1 c0 c1 a0 a1 s2 t2 HR hxs hxt HE1 HE2 hq
      go_wp2
      go_roundw
      case rel=>exact ⟨k+1,_,_,by omega,by go_num,HR2,HI2⟩
      simp[intOf];omega
     rw[decide_eq_false hkj] at b0
     have HI2:=hid (show InS base side i (k+1) is js' ps' js' ps' from .inl ⟨rfl,rfl,fun y hy hlt2=>h3 y hy (by
      have:y≠k:=fun e=>hkj (e▸hy)
      omega)⟩)
     clear h3
     have HR2:=hid HR.out.drew
     go_wp2
     refine aAd (fun w'=>w'=wr.drew) (qs 17) mixed (by kernel_rfl) rfl ?_
     intro Tp M Q hT hT' hM hQ
     have m0:M ⟨gb,k,none⟩=some (.bool false):=hM _ _ fun w' hw=>by subst hw;exact b0
     simp only[qcmp]
     simp (maxSteps:=9^7) only[↓qpre,aAb,aAf,aAc,m0]
     (repeat refine ⟨by first|omega|(unfold inI64;omega),?_⟩)
     refine hQ _ _ ?_
     clear hQ hT hT' hM m0
     go_wp2
     go_roundw
     case rel=>exact ⟨k+1,_,_,by omega,by go_num,HR2,HI2⟩
     simp[intOf];omega
    have HP2:=hid (HP.out.skip (by rw[HL.out];exact hlt) him (fun y hy=>h3 y hy (by have:=HP.out.lt2 y hy;have:=HL2.out;omega)))
    clear h3 HI
    go_wp2
    go_roundw
    case rel=>exact ⟨i+1,_,_,_,by omega,by go_num,HR,HP2⟩
    simp[intOf];omega
   subst e1 e2
   rw[aOw HP.out.key,if_pos rfl] at c0
   have HP2:=hid (HP.out.take (by rw[HL.out];exact hlt) him h2 h4 h5)
   have HR2:=hid (HR.out.set_a (x:=i))
   clear h5 HI h1 h2 h4
   by_cases hk2:k<m
   ·go_wp2
    go_roundw
    case rel=>exact ⟨i+1,_,_,_,by omega,by go_num,HR2,HP2⟩
    simp[intOf];omega
   go_wp2
   go_roundw
   case rel=>exact ⟨i+1,_,_,_,by omega,by go_num,HR2,HP2⟩
   simp[intOf];omega
  rcases HI.out with ⟨e1,e2,h3⟩ | ⟨j,h1,_⟩
  ·subst e1 e2
   rw[aJu HP.out.key] at c0
   have HP2:=hid (HP.out.pass (by rw[HL.out];exact hlt) him)
   clear h3 HI
   by_cases hk2:k<m
   ·obtain ⟨ga,ca1,rfl,a0,a1,_⟩:=HR.out.at_a hlt
    rw[decide_eq_false him] at a0
    go_wp2
    go_roundw
    case rel=>exact ⟨i+1,_,_,_,by omega,by go_num,HR,HP2⟩
    simp[intOf];omega
   go_wp2
   go_roundw
   case rel=>exact ⟨i+1,_,_,_,by omega,by go_num,HR,HP2⟩
   simp[intOf];omega
  exact absurd h1 him
 obtain rfl:i=n:=by omega
 have HP2:Hid (P2 base side is js ps):=hid (P1.next (by rw[HL.out];exact HP.out))
 clear HP
 go_wp2
 go_loopw[10] (fun mv wk=>∃(is js:List Nat) (ps:List (Nat×Nat)) (d:Bool),mv=.bool d/\Hid (RW w wk i m va vb (.slice (some ⟨gt,0,none⟩) i i) is js (toL i ps i))/\Hid (P2 base side is js ps)/\(d=false->Hid (pairsF base side=ps))) (fun mv wk=>cntV va i wk+(match mv with | .bool true=>1 | _=>0))
 case atStart=>exact ⟨is,js,ps,true,rfl,HR,HP2,fun h=>by cases h⟩
 clear HR HP2
 obtain ⟨is,js,ps,d,rfl,HR,HP,HD⟩:=hrel
 cases d with
 | false=>
  have HE:=HD rfl
  clear HD HP
  go_wp2
  go_loopw[17,18] (fun ov kv wk=>∃k:Nat,k<=i/\kv=.int .i64 k/\Hid (RW w wk i m va vb (.slice (some ⟨gt,0,none⟩) i i) is js (toL i ps i))/\Hid (wk.ownsRow w.heap.size 81 2 ov (renL base side ps k).length ((renL base side ps k).flatMap renV))) (fun _ kv _=>i-(intOf kv).toNat)
  case atStart=>exact ⟨0,Nat.zero_le _,rfl,HR,hid (World.ownsRow_nil _ _ _ _)⟩
  clear HR
  obtain ⟨k,hk,rfl,HR,HO⟩:=hrel
  by_cases hlt:k<i
  ·obtain ⟨_,_,e9,c0,c1,_⟩:=HR.out.at_t (aVb (ps:=ps) hlt hlt)
   cases e9
   have hst:=bAa base side ps k
   by_cases hneg:lookI ps k<0
   ·rw[if_pos hneg,List.append_nil] at hst
    have HS2:=hid hst
    clear hst
    generalize lookI ps k=z at *
    go_wp2
    go_roundw
    case rel=>exact ⟨k+1,by omega,by go_num,HR,by rw[HS2.out];exact HO⟩
    simp[intOf];omega
   obtain ⟨j,hj,hje⟩:=aZj hneg
   rw[if_neg hneg,hje,Int.toNat_natCast] at hst
   rw[hje] at c0
   obtain ⟨f,g,hf,hg,_,_⟩:=aZd (a:=base) (b:=side) (q:=(k,j)) (by rw[HE.out];exact hj)
   have hjm:j<m:=by have:=(List.getElem?_eq_some_iff.1 hg).1;have e:=HL2.out;omega
   obtain ⟨bs,os,g',rfl,hbs,hxs,_,s0,_,_⟩:=hb.get hjm
   obtain ⟨bt,ot,f',rfl,hbt,hxt,_,t0',_,_⟩:=ha.get hlt
   have hsz:=HR.out.bel.size
   replace s0:=(HR.out.bel.cell (p:=⟨bs,os+j*3,none⟩) (by show bs<_;omega)).trans s0
   replace t0':=(HR.out.bel.cell (p:=⟨bt,ot+k*3,none⟩) (by show bt<_;omega)).trans t0'
   have HS2:=hid (show renL base side ps (k+1)=renL base side ps k++[(f'.path,g'.path)] by
    rw[hst];unfold pathAt;rw[hxs,hxt];rfl)
   have hLS:∀r∈renL base side ps k,r.1.data.toList<f'.path.data.toList:=by
    intro r hr
    obtain ⟨j0,hj0,e0⟩:=bFo hr
    have hj1:j0<base.length:=by have:=HL.out;omega
    have h9:=HRI.out.lt hj0 (List.getElem?_eq_getElem hj1) hxt
    rw[e0,show pathAt base j0=base[j0].path by unfold pathAt;rw[List.getElem?_eq_getElem hj1];rfl]
    exact h9
   generalize f'.path=fp at *
   generalize g'.path=gp at *
   have hbs':bs<wr.heap.size:=by omega
   have hbt':bt<wr.heap.size:=by omega
   have hgt':gt<wr.heap.size:=(HR.out.t.lt gt rfl).2
   clear hst hneg hje hj hf hg hxs hxt hbs hbt hsz
   go_wp2
   refine aAw (fun v'=>Below wr.heap.size wr v') (.q 0 (.q 1 (.q 2 (.q 3 (.q 4 (.q 5 (.q 6 (.q 7 (.q 8 (.q 9 (.q 10 (.q 11 (.q 12 (.b 13 (.one 14 (.one 15 .leaf)))))))))))))))) mixed (by kernel_rfl) (Below.refl _ _).drew ?_
   intro Tp M Q hT hT' hM hQ
   have m0:M ⟨bs,os+j*3,none⟩=some (.string gp):=hM _ _ fun w' hw=>(hw.cell (p:=⟨bs,os+j*3,none⟩) hbs').trans s0
   have m1:M ⟨bt,ot+k*3,none⟩=some (.string fp):=hM _ _ fun w' hw=>(hw.cell (p:=⟨bt,ot+k*3,none⟩) hbt').trans t0'
   have m2:M ⟨gt,k,none⟩=some (.int .i64 (j:Int)):=hM _ _ fun w' hw=>(hw.cell (p:=⟨gt,k,none⟩) hgt').trans c0
   clear hM
   refine aDf ?_
   intro O hO
   have t0:=hO true 0
   have t1:=hO true 1
   have t2:=hO true 2
   have t3:=hO true 3
   have t4:=hO true 4
   have t5:=hO true 5
   have t6:=hO true 6
   have t7:=hO true 7
   have t8:=hO true 8
   have t9:=hO true 9
   have t10:=hO true 10
   have t11:=hO true 11
   have t12:=hO true 12
   have e14:=hO false 14
   have e15:=hO false 15
   have t13:=hO true 13
   simp only[qcmp] at t0 t1 t2 t3 t4 t5 t6 t7 t8 t9 t10 t11 t12 t13 e14 e15
   clear hO
   simp (maxSteps:=9^7) only[↓wt_q,↓wt_b,t0,t1,t2,t3,t4,t5,t6,t7,t8,t9,t10,t11,t12,t13,↓qpre,aAb,aAf,aAc,m0,m1,m2]
   refine ⟨⟨by omega,by omega⟩,⟨by omega,by omega⟩,⟨by omega,by omega⟩,?_⟩
   refine aCk rfl (fun w=>aOj _ _ w) ?_
   simp (maxSteps:=9^7) only[↓aAj,e14,aAb,aAc]
   refine aOy (v:=.pointer (some ⟨wr.heap.size,0,none⟩)) (w':=wr.drew.alloc (.cells #[.string ⟨#[]⟩,.string ⟨#[]⟩] 81)) (fun p af g=>by
    unfold execOp
    go_simp) ⟨hT _ ((Below.refl _ _).drew.alloc (Nat.le_refl _) _),?_⟩
   simp (maxSteps:=9^7) only[↓aAj,e15,aAb,aAc]
   have HN0:=heap_alloc_new wr.drew (.cells #[.string ⟨#[]⟩,.string ⟨#[]⟩] 81)
   have hbz:Below wr.heap.size wr (wr.drew.alloc (.cells #[.string ⟨#[]⟩,.string ⟨#[]⟩] 81)):=(Below.refl _ _).drew.alloc (Nat.le_refl _) _
   generalize wr.drew.alloc (.cells #[.string ⟨#[]⟩,.string ⟨#[]⟩] 81)=wy at *
   replace HN0:wy.heap[wr.heap.size]? = some (.cells #[.string ⟨#[]⟩,.string ⟨#[]⟩] 81 (0,0)):=HN0
   have HN1:=heap_setCell_same wy wr.heap.size 0 _ _ (.string fp) HN0
   have HN2:=heap_setCell_same _ wr.heap.size 1 _ _ (.string gp) HN1
   have hbx:Below wr.heap.size wr ((wy.setCell ⟨wr.heap.size,0,none⟩ (.string fp)).setCell ⟨wr.heap.size,1,none⟩ (.string gp)):=(hbz.setCell (Nat.le_refl _) _).setCell (Nat.le_refl _) _
   refine aJp (u0:=.string fp) (u1:=.string gp) (b:=wr.heap.size) (o:=0) (by kernel_rfl) rfl rfl (by rw[Lib.cell_of_heap HN0];rfl) (by rw[Lib.cell_of_heap HN0];rfl) (aAi HN0) (aAi HN0) rfl rfl ⟨hT _ hbx,?_⟩
   simp (maxSteps:=9^7) only[↓aCy,aAb]
   refine hQ _ _ ?_
   have HBX:=hid hbx
   have HZ0:Hid (((wy.setCell ⟨wr.heap.size,0,none⟩ (.string fp)).setCell ⟨wr.heap.size,1,none⟩ (.string gp)).cell? ⟨wr.heap.size,0,none⟩=some (.string fp)):=by rw[Lib.cell_of_heap HN2];rfl
   have HZ1:Hid (((wy.setCell ⟨wr.heap.size,0,none⟩ (.string fp)).setCell ⟨wr.heap.size,1,none⟩ (.string gp)).cell? ⟨wr.heap.size,1,none⟩=some (.string gp)):=by rw[Lib.cell_of_heap HN2];rfl
   have hgz:wr.heap.size<((wy.setCell ⟨wr.heap.size,0,none⟩ (.string fp)).setCell ⟨wr.heap.size,1,none⟩ (.string gp)).heap.size:=aAa HN2
   clear hQ hT hT' hbx hbz HN0 HN1 HN2 t0 t1 t2 t3 t4 t5 t6 t7 t8 t9 t10 t11 t12 t13 e14 e15 m0 m1 m2 Tp M Q
   generalize (wy.setCell ⟨wr.heap.size,0,none⟩ (.string fp)).setCell ⟨wr.heap.size,1,none⟩ (.string gp)=wz at *
   have HRz:=hid (HR.out.grow HBX.out)
   have HOz:=hid (aAe HO.out HBX.out)
   have hwz:w.heap.size<=wz.heap.size:=HRz.out.bel.size
   have hll:=aQj base side ps k
   have HLS:=hid (show ∀r∈renL base side ps k,r.1.data.toList<fp.data.toList from hLS)
   clear hLS
   obtain ⟨A9,c9,rfl,hc9⟩:=aAg HOz.out
   have HR9:=hid (Rd.of_own HOz.out hc9)
   clear hbs' hbt' hgt' s0 t0' c0 c1 HO HR HBX HOz
   generalize renL base side ps k=L at *
   generalize wr.heap.size=gr at *
   go_wp2
   go_loopw[20] (fun qv wq=>qv=.int .i64 L.length/\wq=wz) (fun _ _=>0)
   case atStart=>exact ⟨rfl,rfl⟩
   obtain ⟨rfl,rfl⟩:=hrel
   by_cases h0:L.length=0
   case' pos=>
    go_wp2
    refine aAd (fun w'=>w'=wr.drew) (qs 13) mixed (by kernel_rfl) rfl ?_
    intro Tp M Q hT hT' hM hQ
    clear hM
    have d0:decide ((0:Int)<(L.length:Int))=false:=decide_eq_false (by omega)
    simp only[qcmp]
    simp (maxSteps:=9^7) only[↓qpre,aAb,aAc,d0]
    refine hQ _ _ ?_
    clear hQ hT hT' d0 h0
   case' neg=>
    obtain ⟨r,hr⟩:∃r,L[L.length-1]? = some r:=⟨_,List.getElem?_eq_getElem (by omega)⟩
    obtain ⟨b9,o9,e9,hb9,hc9'⟩:=HR9.out.at_ (by omega)
    subst e9
    have hlt9:=(aNx r.1 fp).trans (decide_eq_true (HLS.out r (List.mem_of_getElem? hr)))
    have p9:wr.cell? ⟨b9,o9+(L.length-1)*2,none⟩=some (.string r.1):=by
     have:=hc9' ((L.length-1)*2) (.string r.1) (by
      have e:=T.flat_at (f:=renV) (sz:=2) (fun _=>rfl) hr (show 0<2 by omega)
      rw[Nat.add_zero] at e
      rw[e];rfl)
     exact this
    clear hr hc9'
    go_wp2
    refine aAd (fun w'=>w'=wr.drew) (qs 13) mixed (by kernel_rfl) rfl ?_
    intro Tp M Q hT hT' hM hQ
    have m0:M ⟨b9,o9+(L.length-1)*2,none⟩=some (.string r.1):=hM _ _ fun w' hw=>by subst hw;exact p9
    have m1:M ⟨gr,0,none⟩=some (.string fp):=hM _ _ fun w' hw=>by subst hw;exact HZ0.out
    clear hM
    have d0:decide ((0:Int)<(L.length:Int))=true:=decide_eq_true (by omega)
    have d1:((L.length:Int)-1).toNat=L.length-1:=by omega
    simp only[qcmp]
    simp (maxSteps:=9^7) only[↓qpre,aAb,aAf,aAc,d0,d1,m0,m1,hlt9,Bool.true_or]
    (repeat refine ⟨by first|omega|(unfold inI64;omega),?_⟩)
    refine hQ _ _ ?_
    clear hQ hT hT' d0 d1 m0 m1 hlt9 p9 h0
   all_goals
    clear Tp M Q
    go_wp2
    refine aAw (fun v'=>Below wr.heap.size wr v') (.q 0 (.q 1 (.q 2 (.q 4 (.q 7 (.q 8 (.q 9 (.two 3 (.one 5 (.one 6 (.one 10 (.q 11 .leaf)))) 5 (.one 3 (.one 6 (.one 10 (.q 11 .leaf)))))))))))) mixed (by kernel_rfl) (Below.refl _ _).drew.drew ?_
    intro Tp M Q hT hT' hM hQ
    have m0:M ⟨gr,0,none⟩=some (.string fp):=hM _ _ fun w' hw=>(hw.cell (p:=⟨gr,0,none⟩) hgz).trans HZ0.out
    have m1:M ⟨gr,1,none⟩=some (.string gp):=hM _ _ fun w' hw=>(hw.cell (p:=⟨gr,1,none⟩) hgz).trans HZ1.out
    clear hM
    refine aDf ?_
    intro O hO
    have t0:=hO true 0
    have t1:=hO true 1
    have t2:=hO true 2
    have t4:=hO true 4
    have t7:=hO true 7
    have t8:=hO true 8
    have t9:=hO true 9
    have t11:=hO true 11
    have e3:=hO false 3
    have e5:=hO false 5
    have e6:=hO false 6
    have e10:=hO false 10
    simp only[qcmp] at t0 t1 t2 t4 t7 t8 t9 t11 e3 e5 e6 e10
    clear hO
    simp (maxSteps:=9^7) only[↓wt_q,↓aBc,t0,t1,t2,t4,t7,t8,t9,e3,e5,↓qpre,aAb,aAf,aAc,m0,m1]
    clear t0 t1 t2 t4 t7 t8 t9 m0 m1
    have hrd:=HR9.out.drew.drew
    have hbd:Below wr.heap.size wr wr.drew.drew:=(Below.refl _ _).drew.drew
    generalize wr.drew.drew=w1 at *
    obtain ⟨A1,q1,r1⟩:=bDa hrd (l:=0) (k:=L.length) (Nat.zero_le _) (Nat.le_refl _)
    obtain ⟨A2,q2,r2⟩:=bDa hrd (l:=L.length) (k:=L.length) (Nat.le_refl _) (Nat.le_refl _)
    rw[q1,q2]
    rw[List.take_of_length_le (Nat.le_refl _)] at r1 r2
    rw[Nat.sub_zero,List.drop_zero] at r1
    rw[List.drop_length] at r2
    clear q1 q2 hrd
    have hbs:=hbd.size
    simp only[Nat.sub_zero]
    have one2:∀u∈[Value.string fp,.string gp],u.oneCell'=true:=by intro u hu;simp at hu;rcases hu with rfl | rfl<;>rfl
    refine ⟨⟨by omega,by omega⟩,⟨by omega,by omega⟩,?_,?_⟩
    ·refine aAo aHc (base:=wr.heap.size) (n:=0) (xs:=[]) rfl rfl (World.ownsRow_nil _ _ _ _) r1 (aQu _) (by simp only[maxLen];omega) (by omega) hbs ?_
     intro v1 w2 ho1 hg1 _
     rw[Nat.zero_add,List.nil_append] at ho1
     have hb2:=hbd.grown hg1 hbs (fun g hg=>by cases hg)
     replace r2:=r2.below (aHx (w:=w1) (w':=w2) hg1 |>.mono hbs)
     refine ⟨hT _ hb2,?_⟩
     simp (maxSteps:=9^7) only[↓aAj,e5,aAb,aAc]
     refine T.eff_lits (aJa aHc (.string fp) (.string gp) _) rfl ⟨hT _ (hb2.alloc hb2.size _),?_⟩
     have ho1':=ho1.alloc (.cells #[.string fp,.string gp] 81)
     have hv:=aUh w2 w2.heap.size fp gp rfl
     have hb3:=hb2.alloc hb2.size (.cells #[.string fp,.string gp] 81)
     replace r2:=r2.below ((Below.refl w2.heap.size w2).alloc (Nat.le_refl _) (.cells #[.string fp,.string gp] 81) |>.mono hb2.size)
     clear ho1 hg1 hb2 r1 hbd hbs
     simp (maxSteps:=9^7) only[↓aAj,e6,aAb,aAc]
     generalize w2.alloc (.cells #[.string fp,.string gp] 81)=w3 at *
     refine aAo aHc (base:=wr.heap.size) (n:=L.length) rfl rfl ho1' hv one2 (by simp only[maxLen];omega) (by omega) hb3.size ?_
     intro v4 w4 ho4 hg4 _
     have hb4:=hb3.grown hg4 hb3.size (fun g hg=>(ho1'.lt g hg).1)
     replace r2:=r2.grown hg4 hb3.size (fun g hg=>(ho1'.lt g hg).1)
     refine ⟨hT _ hb4,?_⟩
     simp (maxSteps:=9^7) only[↓aAj,e10,aAb,aAc]
     refine aAo aHc (base:=wr.heap.size) (n:=L.length+1) rfl rfl ho4 r2 (aQu _) (by simp only[maxLen];omega) (by omega) hb4.size ?_
     intro v5 w5 ho5 hg5 _
     have hb5:=hb4.grown hg5 hb4.size (fun g hg=>(ho4.lt g hg).1)
     refine ⟨hT _ hb5,?_⟩
     simp (maxSteps:=9^7) only[↓aCy,↓wt_q,t11,↓qpre,aAb,aAc]
     refine hQ _ _ ?_
     clear ho1' hv hb3 ho4 hg4 hb4 r2 hg5
     have HB:=hid hb5
     have HO:=hid ho5
     clear hQ hT hT' t11 e3 e5 e6 e10 hb5 ho5
     have HRW:=hid (HRz.out.grow HB.out)
     have HON:=hid (show w5.ownsRow w.heap.size 81 2 v5 (renL base side ps (k+1)).length ((renL base side ps (k+1)).flatMap renV) by
      rw[HS2.out,List.length_append,List.flatMap_append]
      have h9:=aBm HO.out hwz
      simpa[renV] using h9)
     clear HB HO HR9
     go_wp2
     go_roundw
     case rel=>exact ⟨k+1,by omega,by go_num,HRW,HON⟩
     simp[intOf];omega
    refine T.eff_lits (aJa aHc (.string fp) (.string gp) _) rfl ⟨hT _ (hbd.alloc hbs _),?_⟩
    have hv0:=aUh w1 w1.heap.size fp gp rfl
    have hb2:=hbd.alloc hbs (.cells #[.string fp,.string gp] 81)
    replace r1:=r1.below ((Below.refl w1.heap.size w1).alloc (Nat.le_refl _) (.cells #[.string fp,.string gp] 81) |>.mono hbs)
    replace r2:=r2.below ((Below.refl w1.heap.size w1).alloc (Nat.le_refl _) (.cells #[.string fp,.string gp] 81) |>.mono hbs)
    simp (maxSteps:=9^7) only[↓aAj,e3,aAb,aAc]
    generalize w1.alloc (.cells #[.string fp,.string gp] 81)=w2 at *
    have hbs2:=hb2.size
    refine aAo aHc (base:=wr.heap.size) (n:=0) (xs:=[]) rfl rfl (World.ownsRow_nil _ _ _ _) r1 (aQu _) (by simp only[maxLen];omega) (by omega) hbs2 ?_
    intro v1 w3 ho1' hg1 _
    rw[Nat.zero_add,List.nil_append] at ho1'
    have hb3:=hb2.grown hg1 hbs2 (fun g hg=>by cases hg)
    have hgb:=aHx (w:=w2) (w':=w3) hg1
    replace r2:=r2.below (hgb.mono hbs2)
    have hv:=hv0.below hgb
    clear hv0 hg1 hb2 r1 hbd hbs hbs2 hgb
    refine ⟨hT _ hb3,?_⟩
    simp (maxSteps:=9^7) only[↓aAj,e6,aAb,aAc]
    refine aAo aHc (base:=wr.heap.size) (n:=L.length) rfl rfl ho1' hv one2 (by simp only[maxLen];omega) (by omega) hb3.size ?_
    intro v4 w4 ho4 hg4 _
    have hb4:=hb3.grown hg4 hb3.size (fun g hg=>(ho1'.lt g hg).1)
    replace r2:=r2.grown hg4 hb3.size (fun g hg=>(ho1'.lt g hg).1)
    refine ⟨hT _ hb4,?_⟩
    simp (maxSteps:=9^7) only[↓aAj,e10,aAb,aAc]
    refine aAo aHc (base:=wr.heap.size) (n:=L.length+1) rfl rfl ho4 r2 (aQu _) (by simp only[maxLen];omega) (by omega) hb4.size ?_
    intro v5 w5 ho5 hg5 _
    have hb5:=hb4.grown hg5 hb4.size (fun g hg=>(ho4.lt g hg).1)
    refine ⟨hT _ hb5,?_⟩
    simp (maxSteps:=9^7) only[↓aCy,↓wt_q,t11,↓qpre,aAb,aAc]
    refine hQ _ _ ?_
    clear ho1' hv hb3 ho4 hg4 hb4 r2 hg5
    have HB:=hid hb5
    have HO:=hid ho5
    clear hQ hT hT' t11 e3 e5 e6 e10 hb5 ho5
    have HRW:=hid (HRz.out.grow HB.out)
    have HON:=hid (show w5.ownsRow w.heap.size 81 2 v5 (renL base side ps (k+1)).length ((renL base side ps (k+1)).flatMap renV) by
     rw[HS2.out,List.length_append,List.flatMap_append]
     have h9:=aBm HO.out hwz
     simpa[renV] using h9)
    clear HB HO HR9
    go_wp2
    go_roundw
    case rel=>exact ⟨k+1,by omega,by go_num,HRW,HON⟩
    simp[intOf];omega
  obtain rfl:k=i:=by omega
  go_wp2
  go_ret
  refine ⟨_,rfl,?_,HR.out.bel⟩
  have e:renF base side=renL base side ps k:=by unfold renF;rw[HE.out,HL.out]
  rw[e];exact HO.out
 | true=>
  clear HD
  have HC:=hid HR.out.cnt
  go_wp2
  go_loopw[11,12,13,14] (fun bv xv yv kv wk=>∃(k:Nat) (xi yi mo:Int),k<=i/\kv=.int .i64 k/\bv=.int .i64 mo/\xv=.int .i64 xi/\yv=.int .i64 yi/\Hid (RW w wk i m va vb (.slice (some ⟨gt,0,none⟩) i i) is js (toL i ps i))/\Hid (BestV (foldB base side (seenL is js k 0)) xi yi mo)) (fun _ _ _ kv _=>i-(intOf kv).toNat)
  case atStart=>exact ⟨0,-1,-1,49,Nat.zero_le _,rfl,rfl,rfl,rfl,HR,hid (by rw[aYf];exact BestV.start base side)⟩
  clear HR
  obtain ⟨k,xi,yi,mo,hk,rfl,rfl,rfl,rfl,HR,HM⟩:=hrel
  by_cases hlt:k<i
  ·go_wp2
   go_loopw[11,12,13,15] (fun bv xv yv qv wk=>∃(q:Nat) (xi yi mo:Int),q<=m/\qv=.int .i64 q/\bv=.int .i64 mo/\xv=.int .i64 xi/\yv=.int .i64 yi/\Hid (RW w wk i m va vb (.slice (some ⟨gt,0,none⟩) i i) is js (toL i ps i))/\Hid (BestV (foldB base side (seenL is js k q)) xi yi mo)) (fun _ _ _ qv _=>m-(intOf qv).toNat)
   case atStart=>exact ⟨0,xi,yi,mo,Nat.zero_le _,rfl,rfl,rfl,rfl,HR,HM⟩
   clear HR HM
   obtain ⟨q,xi,yi,mo,hq,rfl,rfl,rfl,rfl,HR,HM⟩:=hrel
   by_cases hlt2:q<m
   ·obtain ⟨ga,ca1,rfl,a0,a1,hga⟩:=HR.out.at_a hlt
    obtain ⟨gb,cb1,rfl,b0,b1,hgb⟩:=HR.out.at_b hlt2
    by_cases hks:k∈is
    ·by_cases hqs:q∈js
     ·rw[decide_eq_true hks] at a0
      rw[decide_eq_true hqs] at b0
      have HS2:=hid (bCo HP.out.asc2 hks hqs)
      obtain ⟨bs,os,f,rfl,hbs,hxs,hms,_,_,s2⟩:=hb.get hlt2
      obtain ⟨bt,ot,g,rfl,hbt,hxt,hmt,_,_,t2⟩:=ha.get hlt
      have hsz:=HR.out.bel.size
      replace s2:=(HR.out.bel.cell (p:=⟨bs,os+q*3+2,none⟩) (by show bs<_;omega)).trans s2
      replace t2:=(HR.out.bel.cell (p:=⟨bt,ot+k*3+2,none⟩) (by show bt<_;omega)).trans t2
      have HRT:=hid (show ratioF (textAt base k) (textAt side q)=ratioF g.text f.text by rw[aGf hxs,aGf hxt])
      have KR:∀u,Below wr.heap.size wr u->Calls Tryz.prog 45 #[.string g.text,.string f.text] u fun e w'=>e=.returned (.int .i64 (ratioF g.text f.text))/\Below u.heap.size u w':=fun u _=>aXv (HBT.out g hmt) (HST.out f hms)
      have hnn:=aMy g.text f.text
      generalize ratioF g.text f.text=r at *
      generalize f.text=ft at *
      generalize g.text=gx at *
      go_wp2
      refine aAd (fun w'=>Below wr.heap.size wr w') (qe [10] 12) mixed (by kernel_rfl) (Below.refl _ _).drew ?_
      have hd0:Below wr.heap.size wr wr.drew:=(Below.refl _ _).drew
      intro Tp M Q hT hT' hM hQ
      have m1:M ⟨bs,os+q*3+2,none⟩=some (.string ft):=hM _ _ fun w' hw=>(hw.cell (p:=⟨bs,os+q*3+2,none⟩) (by show bs<_;omega)).trans s2
      have m2:M ⟨bt,ot+k*3+2,none⟩=some (.string gx):=hM _ _ fun w' hw=>(hw.cell (p:=⟨bt,ot+k*3+2,none⟩) (by show bt<_;omega)).trans t2
      simp only[qcmp,Nat.reduceBEq]
      simp (maxSteps:=9^7) only[↓qpre,aAb,aAf,aAc,m1,m2]
      (repeat refine ⟨by first|omega|(unfold inI64;omega),?_⟩)
      refine aAh (by kernel_rfl) (KR _ hd0) rfl rfl ?_
      rintro e v1 ⟨rfl,hv1⟩
      have hb3:Below wr.heap.size wr v1:=hd0.trans (hv1.mono hd0.size)
      refine ⟨_,rfl,hT _ hb3,?_⟩
      have HR3:=hid (HR.out.grow hb3)
      simp (maxSteps:=9^7) only[↓qpre,aAb,aAc]
      refine hQ _ _ ?_
      clear hQ hT hT' hM m1 m2 KR hv1 hb3 hd0 HR a0 a1 b0 b1 s2 t2 hsz Tp M Q hxs hxt hms hmt
      by_cases hmr:mo<r
      ·have HM2:=hid (show BestV (foldB base side (seenL is js k (q+1))) k q r by rw[HS2.out];exact HM.out.more HRT.out hmr)
       clear HM HS2 HRT
       go_wp2
       go_roundw
       case rel=>exact ⟨q+1,_,_,_,by omega,by go_num,rfl,rfl,rfl,HR3,HM2⟩
       simp[intOf];omega
      have HM2:=hid (show BestV (foldB base side (seenL is js k (q+1))) xi yi mo by rw[HS2.out];exact HM.out.same HRT.out hmr)
      clear HM HS2 HRT
      go_wp2
      go_roundw
      case rel=>exact ⟨q+1,_,_,_,by omega,by go_num,rfl,rfl,rfl,HR3,HM2⟩
      simp[intOf];omega
     rw[decide_eq_true hks] at a0
     rw[decide_eq_false hqs] at b0
     have HM2:=hid (show BestV (foldB base side (seenL is js k (q+1))) xi yi mo by rw[aRl (.inr hqs)];exact HM.out)
     clear HM
     go_wp2
     go_roundw
     case rel=>exact ⟨q+1,_,_,_,by omega,by go_num,rfl,rfl,rfl,HR,HM2⟩
     simp[intOf];omega
    rw[decide_eq_false hks] at a0
    have HM2:=hid (show BestV (foldB base side (seenL is js k (q+1))) xi yi mo by rw[aRl (.inl hks)];exact HM.out)
    clear HM
    go_wp2
    go_roundw
    case rel=>exact ⟨q+1,_,_,_,by omega,by go_num,rfl,rfl,rfl,HR,HM2⟩
    simp[intOf];omega
   obtain rfl:q=m:=by omega
   have HM2:=hid (show BestV (foldB base side (seenL is js (k+1) 0)) xi yi mo by rw[<-bEw (m:=q) HP.out.asc1 (by have:=HP.out.lt2;have e:=HL2.out;intro y hy;have:=this y hy;omega)];exact HM.out)
   clear HM
   go_wp2
   go_roundw
   case rel=>exact ⟨k+1,_,_,_,by omega,by go_num,rfl,rfl,rfl,HR,HM2⟩
   simp[intOf];omega
  obtain rfl:k=i:=by omega
  have hlt1:∀x∈is,x<k:=by have:=HP.out.lt1;have e:=HL.out;intro y hy;have:=this y hy;omega
  have hlt2:∀y∈js,y<m:=by have:=HP.out.lt2;have e:=HL2.out;intro y hy;have:=this y hy;omega
  by_cases hx:xi<0
  ·have HD:=hid (HP.out.done (HM.out.none_ hlt1 hx))
   have HC2:=hid HR.out.cnt
   clear HM hlt1 hlt2
   go_wp2
   go_roundw
   case rel=>exact ⟨is,js,ps,false,rfl,HR,HP,fun _=>HD⟩
   show cntV va k _+0<cntV va k _+1
   rw[HC2.out,HC.out];omega
  obtain ⟨x,y,hbf,rfl,rfl⟩:=HM.out.some_ hlt1 hx
  obtain ⟨hp2,hxm,hym,_⟩:=HP.out.more hbf
  have HP3:=hid hp2
  have hxn:=hlt1 x hxm
  have hyn:=hlt2 y hym
  have hkeys:∀p∈ps,p.1≠x:=fun p hp e=>HP.out.keys p hp (e▸hxm)
  have HCL:=hid (bDv hxm hxn)
  obtain ⟨_,_,e9,c0,c1,_⟩:=HR.out.at_t (aVb (ps:=ps) hxn hxn)
  cases e9
  have HR1:=hid (HR.out.set_t (aWt (j:=y) hkeys hxn))
  obtain ⟨ga,ca1,rfl,a0,a1,_⟩:=HR1.out.at_a hxn
  have HR2:=hid (HR1.out.set_a (x:=x))
  obtain ⟨gb,cb1,rfl,b0,b1,_⟩:=HR2.out.at_b hyn
  have HR3:=hid (HR2.out.set_b (x:=y))
  have HC2:=hid HR3.out.cnt
  clear HM hlt1 hlt2 hp2 hxm hym hkeys hbf HR HR1 HR2 HP
  go_wp2
  go_roundw
  case rel=>exact ⟨_,_,_,true,rfl,HR3,HP3,fun h=>by cases h⟩
  show cntV _ k _+1<cntV _ k _+1
  rw[HC2.out,HC.out];have:=HCL.out;omega
end Go.Proofs.YtcemkikgaeghjaaGreatDoor
