/- Texts of the walks, together: Walks: what lives, as a set and as a list. Walks: plan's set of numbers; plan.Moved. Walks: plan.Moved. Walks: the document's Moved; the greatest; where one leads to. Walks: slices.Clone of commits and of markers; (*move.moving).parents and files. Walks: slices.ContainsFunc of commits whose files are no tree; slices.IndexFunc of what is settled. -/
import Derived.Test.YtohblmepajhpaaaGreatDoorG09
import Derived.Test.YtohblmepajhpaaaGreatDoorG14
set_option maxHeartbeats 8000000
set_option maxRecDepth 100000
open Go.Lib (hid)
namespace Go.Proofs.YtohblmepajhpaaaGreatDoor
open Go.RowKit
theorem aVy {W i j:Nat}:(W ||| 2 ^ i).testBit j=(W.testBit j || decide (i=j)):=by
 rw[Nat.testBit_or,Nat.testBit_two_pow]
theorem SetW.ne {w:World} {base base' n n' W W':Nat} {v v':Value}(_h:SetW w base v n W) (h':SetW w base' v' n' W')(hb:∀k,v.ownBlock=some k->k<base'):v.ownBlock=none\/v.ownBlock≠v'.ownBlock:=by
 cases hv:v.ownBlock with
 | none=>exact .inl rfl
 | some k=>
  right
  intro e
  have:=(h'.2.lt k e.symm).1
  have:=hb k hv
  omega
theorem bGl {A:Option Addr}{m c n:Nat}{ms:List MV}{w:World}(hm:m<=maxLen)(h:RdM w w.heap.size A m c ms)(hn:n<=1000000) :
  Calls Tryz.prog 119 #[.int .i64 n,.slice A m c] w fun e w'=>∃(v:Value) (W:Nat),e=.returned v/\SetW w' w.heap.size v n W/\(∀i,i<n->W.testBit i=!obsM ms i)/\Below w.heap.size w w':=by
 unfold maxLen at hm
 have HL:=hid h.len
 go_enter Tryz.func119,Tryz.ntmps119
 go_wp2_with fail
 refine (aNx hn).mono ?_
 rintro e w1 ⟨v5,rfl,hs1,hb1⟩
 go_wp2
 go_loopw[14] (fun kv wr=>∃(k G:Nat),k<=m/\kv=.int .i64 k/\Below w.heap.size w wr/\SetW wr w.heap.size v5 n G/\Hid (∀i,i<n->G.testBit i=obsM (ms.take k) i)) (fun kv _=>m-(intOf kv).toNat)
 case atStart=>exact ⟨0,0,Nat.zero_le _,rfl,hb1,hs1,fun i _=>by rw[List.take_zero];simp[obsM]⟩
 obtain ⟨k,G,hk,rfl,hb,hs,hj⟩:=hrel
 clear hs1
 by_cases hlt:k<m
 ·obtain ⟨b0,o0,u,rfl,hbb,hx,hu,h0,h1⟩:=h.get hlt
  replace h0:=(hb.cell hbb).trans h0
  replace h1:=(hb.cell hbb).trans h1
  have HX:=hid hx;clear hx
  have hbE:=hb.alloc hb.size (.cells #[.int .i64 u.old,.slice u.A u.new.length u.c] 43)
  have hsE:=hs.below ((Below.refl wr.heap.size wr).alloc (Nat.le_refl _) (.cells #[.int .i64 u.old,.slice u.A u.new.length u.c] 43))
  have hob:∀i:Nat,obsM (ms.take (k+1)) (i:Int)=(obsM (ms.take k) i || decide (u.old=(i:Int))):=fun i=>by rw[List.take_add_one,HX.out,Option.toList_some,aPd]
  have HO:=hid hob;clear hob
  by_cases hin:0<=u.old/\u.old<n
  ·obtain ⟨hi0,hi1⟩:=hin
   obtain ⟨i,hi⟩:∃i:Nat,u.old=(i:Int):=⟨u.old.toNat,by omega⟩
   rw[hi] at h0 hi0 hi1 hsE hbE
   have C:=aXs (i:=i) hn (by omega) hsE
   go_wp2_with (go_at_call 142;refine C.mono ?_;rintro e w2 ⟨rfl,hs2,hg2⟩)
   go_roundw
   case rel=>
    refine ⟨k+1,_,by omega,by go_num,hbE.grown hg2 hbE.size (fun g hg=>(hsE.2.lt g hg).1),hs2,fun j hj'=>?_⟩
    rw[aVy,hj.out j hj',HO.out,hi]
    congr 1
    by_cases e:i=j
    ·subst e;simp
    rw[decide_eq_false e,decide_eq_false (by omega)]
   simp[intOf];omega
  have hno:∀j:Nat,j<n->¬u.old=(j:Int):=fun j hj' e=>by omega
  have HNo:=hid hno;clear hno
  have REL:∀j:Nat,j<n->G.testBit j=obsM (ms.take (k+1)) j:=fun j hj'=>by rw[HO.out,hj.out j hj',decide_eq_false (HNo.out j hj'),Bool.or_false]
  have HRel:=hid REL;clear REL
  by_cases c1:0<=u.old
  ·have c2:¬u.old<n:=fun c2=>hin ⟨c1,c2⟩
   clear hin
   go_wp2
   go_roundw
   case rel=>exact ⟨k+1,G,by omega,by go_num,hbE,hsE,HRel⟩
   simp[intOf];omega
  clear hin
  go_wp2
  go_roundw
  case rel=>exact ⟨k+1,G,by omega,by go_num,hbE,hsE,HRel⟩
  simp[intOf];omega
 have hkn:k=m:=by omega
 subst hkn
 have hj2:=hj.out
 rw[List.take_of_length_le (by rw[HL.out];omega)] at hj2
 have HJ:=hid hj2
 clear hj hj2 hlt
 go_wp2_with fail
 refine (aNx hn).mono ?_
 rintro e w2 ⟨v8,rfl,hs8,hb8⟩
 have hs5:=hs.below hb8
 have hv5:∀g,v5.ownBlock=some g->g<wr.heap.size:=fun g hg=>(hs.2.lt g hg).2
 have hb2:=hb.trans (hb8.mono hb.size)
 obtain ⟨B8,hB8⟩:∃B,B=wr.heap.size:=⟨_,rfl⟩
 rw[<-hB8] at hs8 hv5
 have hwB:w.heap.size<=B8:=by rw[hB8];exact hb.size
 clear hB8 hs hb8
 go_wp2
 go_loopw[35] (fun kv wr=>∃(k S:Nat),k<=n/\kv=.int .i64 k/\Below w.heap.size w wr/\SetW wr w.heap.size v5 n G/\SetW wr B8 v8 n S/\Hid (∀i,i<n->S.testBit i=(decide (i<k) && !obsM ms i))) (fun kv _=>n-(intOf kv).toNat)
 case atStart=>exact ⟨0,0,Nat.zero_le _,rfl,hb2,hs5,hs8,fun i _=>by simp⟩
 obtain ⟨j,S,hj,rfl,hbr,hs5r,hs8r,hjj⟩:=hrel
 clear hs5 hs8 hb2
 by_cases hlt:j<n
 ·have C:=aRl (i:=j) hn hlt hs5r
  rw[HJ.out j hlt] at C
  have hstep:∀i:Nat,i<n->(decide (i<j+1) && !obsM ms i)=((decide (i<j) && !obsM ms i) || (decide (j=i) && !obsM ms j)):=fun i _=>by
   by_cases e:j=i
   ·subst e;simp
   by_cases e2:i<j
   ·rw[decide_eq_true e2,decide_eq_true (by omega:i<j+1),decide_eq_false e];simp
   rw[decide_eq_false e2,decide_eq_false (by omega:¬i<j+1),decide_eq_false e];simp
  have HS:=hid hstep;clear hstep
  cases ho:obsM ms j with
  | true=>
   rw[ho] at C
   have HO:=hid ho;clear ho
   go_wp2_with fail
   refine C.mono ?_
   rintro e w3 ⟨rfl,hb3⟩
   go_wp2
   go_roundw
   case rel=>
    refine ⟨j+1,S,by omega,by go_num,hbr.trans (hb3.mono hbr.size),hs5r.below hb3,hs8r.below hb3,fun i hi=>?_⟩
    rw[hjj.out i hi,HS.out i hi,HO.out];simp
   simp[intOf];omega
  | false=>
   rw[ho] at C
   have HO:=hid ho;clear ho
   go_wp2_with fail
   refine C.mono ?_
   rintro e w3 ⟨rfl,hb3⟩
   have hs8b:=hs8r.below hb3
   have hs5b:=hs5r.below hb3
   have C2:=aXs (i:=j) hn hlt hs8b
   go_wp2_with fail
   refine C2.mono ?_
   rintro e w4 ⟨rfl,hs84,hg4⟩
   have hbr3:=hbr.trans (hb3.mono hbr.size)
   go_wp2
   go_roundw
   case rel=>
    refine ⟨j+1,_,by omega,by go_num,hbr3.grown hg4 hbr3.size (fun g hg=>Nat.le_trans hwB (hs8b.2.lt g hg).1),hs5b.kept hg4 (hs5b.ne hs8b hv5),hs84,fun i hi=>?_⟩
    rw[aVy,hjj.out i hi,HS.out i hi,HO.out];simp
   simp[intOf];omega
 have hjn:j=n:=by omega
 subst hjn
 go_wp2
 go_ret
 refine ⟨v8,S,rfl,⟨hs8r.1,aOs hs8r.2 hwB⟩,fun i hi=>?_,hbr⟩
 rw[hjj.out i hi,decide_eq_true hi,Bool.true_and]
theorem bFl {n W base:Nat}{v:Value}{ms:List MV}{w:World}(hn:n<=1000000)(h:SetW w base v n W)(hW:∀i,i<n->W.testBit i=!obsM ms i) :
  Calls Tryz.prog 120 #[v,.int .i64 n] w (Ints (·=liveTo ms n) w):=by
 have HW:=hid hW;clear hW
 have hlen:∀k,(liveTo ms k).length<=k:=fun k=>by unfold liveTo;refine Nat.le_trans (List.length_filter_le _ _) (by simp)
 go_enter Tryz.func120,Tryz.ntmps120
 go_wp2
 go_loopw[5,8] (fun ov kv wr=>∃k:Nat,k<=n/\kv=.int .i64 k/\Below w.heap.size w wr/\wr.ownsRow w.heap.size 3 1 ov (liveTo ms k).length ((liveTo ms k).map (.int .i64))) (fun _ kv _=>n-(intOf kv).toNat)
 case atStart=>exact ⟨0,Nat.zero_le _,rfl,Below.refl _ _,World.ownsRow_nil _ _ _ _⟩
 obtain ⟨k,hk,rfl,hb,ho⟩:=hrel
 by_cases hlt:k<n
 ·have C:=aRl (i:=k) hn hlt (h.below hb)
  rw[HW.out k hlt] at C
  have hsu:=aVa ms k
  have hll:=hlen k
  cases hob:obsM ms k with
  | true=>
   rw[hob] at C hsu
   simp only[if_true,List.append_nil] at hsu
   have HS:=hid hsu;clear hsu
   go_wp2_with fail
   refine C.mono ?_
   rintro e w1 ⟨rfl,hb1⟩
   go_wp2
   go_roundw
   case rel=>
    refine ⟨k+1,by omega,by go_num,hb.trans (hb1.mono hb.size),?_⟩
    rw[HS.out];exact ho.kept (aAp hb1 (Nat.le_refl _)) (by cases (Value.ownBlock u5)<;>simp)
   simp[intOf];omega
  | false=>
   rw[hob] at C hsu
   simp only[Bool.false_eq_true,if_false] at hsu
   have HS:=hid hsu;clear hsu
   go_wp2_with (first
    | (go_at_call 143;refine C.mono ?_;rintro e w1 ⟨rfl,hb1⟩;have hbw:=(hb.trans (hb1.mono hb.size)).alloc (hb.trans (hb1.mono hb.size)).size (.cells #[.int .i64 (k:Int)] 3);have ho1:=(ho.kept (aAp hb1 (Nat.le_refl _)) (by cases (Value.ownBlock u5)<;>simp)).alloc (.cells #[.int .i64 (k:Int)] 3))
    | (at_builtin;refine aAn rfl (.tmp 14) (.tmp 16) 36 rfl E28 rfl rfl ho1 (aEn w1 (k:Int)) (aBu _) (by unfold maxLen;omega) (by omega) hbw.size ?_;intro v7 w7 ho7 hg7 hv7))
   go_roundw
   case rel=>
    refine ⟨k+1,by omega,by go_num,hbw.grown hg7 hbw.size (fun g hg=>(ho1.lt g hg).1),?_⟩
    rw[HS.out,List.length_append,List.map_append];exact ho7
   simp[intOf];omega
 have hkn:k=n:=by omega
 subst hkn
 obtain ⟨A5,c5,rfl,hc5⟩:=aAd ho
 go_wp2
 go_ret
 exact ⟨A5,c5,_,rfl,Rd.of_own ho hc5,hb,rfl⟩
theorem bCo {A A2:Option Addr}{c m c2:Nat}{l:List Int}{ms:List MV}{w:World}(hn:l.length<=1000000)(h:Rd w w.heap.size 1 A l.length c (l.map (.int .i64)))(hm:m<=maxLen)(h2:RdM w w.heap.size A2 m c2 ms) :
  Calls Tryz.prog 97 #[.slice A l.length c,.slice A2 m c2] w (Ints (·=liveL l ms) w):=by
 have C:=aGa (by omega) h
 cases hr:rightP l with
 | false=>
  rw[hr] at C
  have e:liveL l ms=[]:=by unfold liveL;rw[if_neg (by rw[hr];simp)]
  rw[e]
  go_enter Tryz.func97,Tryz.ntmps97
  go_wp2_with fail
  refine C.mono ?_
  rintro e w1 ⟨rfl,hb1⟩
  go_wp2
  go_ret
  exact ⟨none,0,[],rfl,Rd.none_ _ _ _,hb1,rfl⟩
 | true=>
  rw[hr] at C
  have e:liveL l ms=liveTo ms l.length:=by unfold liveL liveTo;rw[if_pos hr]
  rw[e]
  go_enter Tryz.func97,Tryz.ntmps97
  go_wp2_with fail
  refine C.mono ?_
  rintro e w1 ⟨rfl,hb1⟩
  go_wp2_with fail
  refine (bGl hm (h2.to hb1 hb1.size) hn).mono ?_
  rintro e w2 ⟨v,W,rfl,hs,hW,hb2⟩
  go_wp2_with fail
  refine (bFl hn hs hW).mono ?_
  rintro e w3 ⟨A3,c3,l3,rfl,hr3,hb3,rfl⟩
  go_wp2
  go_ret
  exact ⟨A3,c3,_,rfl,hr3,(hb1.trans (hb2.mono hb1.size)).trans (hb3.mono (Nat.le_trans hb1.size hb2.size)),rfl⟩
theorem bIk {A:Option Addr}{c n:Nat}{L:List Int}{w:World}(hn:n<=1000000)(hl:L.length<=1000000)(h:Rd w w.heap.size 1 A L.length c (L.map (.int .i64)))(hL:∀x∈L,0<=x/\x<n) :
  Calls Tryz.prog 96 #[.int .i64 n,.slice A L.length c] w fun e w'=>∃(v:Value) (W:Nat),e=.returned v/\SetW w' w.heap.size v n W/\(∀i:Nat,i<n->W.testBit i=decide ((i:Int)∈L))/\Below w.heap.size w w':=by
 have hq:=bJj n
 have hk1:wordsN n<=1000000:=by unfold wordsN;omega
 have HSP:=hid (fun (i:Nat) (hi:i<n)=>split64 hi hn)
 have HSW:=hid (show ∀(w':World) (v:Value) (W:Nat),SetW w' w.heap.size v n W↔w'.ownsRow w.heap.size 166 1 v (wordsN n) (wordsF W (wordsN n)) from fun w' v W=>⟨fun h=>h.2,fun h=>⟨trivial,h⟩⟩)
 generalize wordsN n=k at *
 have HLL:=hid hL;clear hL
 generalize hLn:L.length=m at *
 have HM:=hid hLn;clear hLn
 go_enter Tryz.func96,Tryz.ntmps96
 go_wp2_with (refine aPx rfl (.tmp 11) (.tmp 11) 147 rfl E66 zero76 rfl w.heap.size k (L:=(k:Int)) rfl rfl rfl (by omega) (by unfold maxLen;omega) (Nat.le_refl _) ?_;intro w1 ho1 hg1)
 have hs1:SetW w1 w.heap.size (.slice (some ⟨w.heap.size,0,none⟩) k k) n 0:=(HSW.out _ _ _).2 (by rw[aNp];exact ho1)
 have hb1:=aMq hg1
 clear hq ho1 hg1
 go_loopw[15] (fun kv wr=>∃(j W:Nat),j<=m/\kv=.int .i64 j/\Below w.heap.size w wr/\SetW wr w.heap.size (.slice (some ⟨w.heap.size,0,none⟩) k k) n W/\Hid (∀i:Nat,i<n->W.testBit i=decide ((i:Int)∈L.take j))) (fun kv _=>m-(intOf kv).toNat)
 case atStart=>exact ⟨0,0,Nat.zero_le _,rfl,hb1,hs1,fun i _=>by rw[List.take_zero];simp⟩
 obtain ⟨j,W,hj,rfl,hb,hs,hjj⟩:=hrel
 clear hs1 hb1
 by_cases hlt:j<m
 ·obtain ⟨b0,o0,u,rfl,hbb,hx,h0⟩:=h.int_ hlt
  replace h0:=(hb.cell (p:=⟨b0,o0+j,none⟩) hbb).trans h0
  obtain ⟨hu0,hu1⟩:=HLL.out u (List.mem_of_getElem? hx)
  obtain ⟨i,hi⟩:∃i:Nat,u=(i:Int):=⟨u.toNat,by omega⟩
  subst hi
  have HX:=hid hx;clear hx
  have ho:=(HSW.out _ _ _).1 hs
  obtain ⟨q,r,q1,q3,hr,hqk,hqm,HI⟩:=HSP.out i (by omega)
  have q2:=aWo (i:=i) (by omega)
  have c0:wr.cell? ⟨w.heap.size,q,none⟩=some (.int .u64 ((wordF W q:Nat):Int)):=(ho.cellAt q (by omega)).trans (aEv hqk)
  have fr:=ho.frozenAt q
  have HST:=hid (ho.stored q (.int .u64 ((wordF W q ||| 2 ^ r:Nat):Int)))
  have HWL:=hid (aPi W q)
  clear ho hs
  go_wp2
  rw[aMm HWL.out hr]
  go_roundw
  case rel=>
   refine ⟨j+1,W ||| 2 ^ i,by omega,by go_num,hb.setCell (Nat.le_refl _) _,(HSW.out _ _ _).2 (by rw[<-aWp hr HI.out];exact HST.out.1),fun a ha=>?_⟩
   rw[aVy,hjj.out a ha,List.take_add_one,HX.out,Option.toList_some]
   by_cases e:i=a
   ·subst e;simp
   have:¬(a:Int)=(i:Int):=by omega
   simp[e,this]
  simp[intOf];omega
 have hjn:j=m:=by omega
 subst hjn
 go_wp2
 go_ret
 refine ⟨_,W,rfl,hs,fun i hi=>?_,hb⟩
 rw[hjj.out i hi,List.take_of_length_le (by rw[HM.out];omega)]
theorem aVl (w:World)(x:Int){q:Nat}(hq:q=w.heap.size):Rd (w.alloc (.cells #[.int .i64 x] 3)) (w.alloc (.cells #[.int .i64 x] 3)).heap.size 1 (some ⟨q,0,none⟩) 1 1 ([x].map (.int .i64)):=by
 subst hq;exact aEn w x
structure MvSt (w wr:World) (l:List Int) (ms:List MV) (s:Int) (g k W:Nat) (v8 ov:Value) (bl:List Bool):Prop where
 below:Below w.heap.size w wr
 set_:SetW wr w.heap.size v8 l.length W
 inn:wr.ownsRow g 4 1 (.slice (some ⟨g,0,none⟩) l.length l.length) l.length (bl.map .bool)
 bits:∀j:Nat,s<=(j:Int)->j<k->bl[j]? = some (mv l ms s j)
 row:wr.ownsRow (g+1) 3 1 ov (movedTo l ms s k).length ((movedTo l ms s k).map (.int .i64))
 sz:g+1<=wr.heap.size
theorem bFb {A A2:Option Addr}{c m c2:Nat}{l:List Int}{ms:List MV}{s:Int}{w:World}(hn:l.length<=1000000)(h:Rd w w.heap.size 1 A l.length c (l.map (.int .i64)))(hm:m<=maxLen)(h2:RdM w w.heap.size A2 m c2 ms) :
  Calls Tryz.prog 80 #[.slice A l.length c,.slice A2 m c2,.int .i64 s] w (IntsF none 0 (·=moved l ms s) w):=by
 have C:=aGa (by omega) h
 by_cases hok:rightP l=true/\0<=s/\s<l.length
 ·obtain ⟨hr,hs0,hs1⟩:=hok
  rw[hr] at C
  have e:moved l ms s=movedTo l ms s l.length:=by unfold moved;rw[if_pos ⟨hr,hs0,hs1⟩]
  rw[e]
  clear e
  have HR:=hid hr;clear hr
  go_enter Tryz.func80,Tryz.ntmps80
  go_wp2_with fail
  refine C.mono ?_
  rintro e w1 ⟨rfl,hb1⟩
  go_wp2_with fail
  refine (bCo hn (h.to hb1 hb1.size) hm (h2.to hb1 hb1.size)).mono ?_
  rintro e w2 ⟨A3,c3,l3,rfl,hr3,hb2,hl3⟩
  have hb12:=hb1.trans (hb2.mono hb1.size)
  have hll:l3.length<=1000000:=by rw[hl3];exact Nat.le_trans (bAz l ms) hn
  have hin3:∀x∈l3,0<=x/\x<(l.length:Int):=fun x hx=>by rw[hl3] at hx;have:=aLv.1 hx;omega
  have CO:=bIk hn hll hr3 hin3
  have HL3:=hid hl3
  clear hl3
  go_wp2_with (first
   | (go_at_call 96;refine CO.mono ?_;rintro e w3 ⟨v8,W,rfl,hset,hW,hb3⟩;have hb13:=hb12.trans (hb3.mono hb12.size))
   | (refine aPx rfl (.tmp 31) (.tmp 31) 128 rfl E70 zero4 rfl w3.heap.size l.length (L:=(l.length:Int)) rfl rfl rfl (by omega) (by unfold maxLen;omega) (Nat.le_refl _) ?_;intro w4 ho4 hg4))
  have hset4:=hset.kept hg4 (by cases v8.ownBlock<;>simp)
  have hv8:∀g,v8.ownBlock=some g->g<w3.heap.size:=fun g hg=>(hset.2.lt g hg).2
  have hWW:∀i:Nat,i<l.length->W.testBit i=!obsM ms i:=fun i hi=>by
   rw[hW i hi]
   cases ho:obsM ms i with
   | true=>exact decide_eq_false fun hx=>by rw[HL3.out,aLv] at hx;rw[hx.2.2.2] at ho;cases ho
   | false=>exact decide_eq_true (by rw[HL3.out];exact aLv.2 ⟨HR.out,by omega,by omega,ho⟩)
  have HWW:=hid hWW
  have hb4:=hb13.grown hg4 hb13.size (fun g hg=>by cases hg)
  have hB:w.heap.size<=w3.heap.size:=hb13.size
  obtain ⟨g,hgd⟩:∃g,g=w3.heap.size:=⟨_,rfl⟩
  have hsz4:w3.heap.size+1<=w4.heap.size:=by have:=(ho4.lt w3.heap.size rfl).2;omega
  rw[<-hgd] at ho4 hv8 hB hsz4 ⊢
  have hset5:SetW w4 w.heap.size v8 l.length W:=⟨hset4.1,aOs hset4.2 (Nat.le_trans hb12.size (Nat.le_refl _))⟩
  have hrep:(List.replicate l.length (Value.bool false))=(List.replicate l.length false).map Value.bool:=by simp
  rw[hrep] at ho4
  obtain ⟨s',hs'⟩:∃k:Nat,s=(k:Int):=⟨s.toNat,by omega⟩
  subst hs'
  have hst:MvSt w w4 l ms (s':Int) g s' W v8 (.slice none 0 0) (List.replicate l.length false):=
   ⟨hb4,hset5,ho4,fun j h1 h2=>by omega,by rw[aSp (Int.le_refl _)];exact World.ownsRow_nil _ _ _ _,hsz4⟩
  clear hrep hset5 hset4 hset ho4 hb4 hsz4 hgd hg4 hW hWW CO hr3 hin3 hll hb1 hb2 hb3 hb13 hb12 C HL3
  have hd1:decide ((s':Int)<0)=false:=decide_eq_false (by omega)
  have hd2:decide ((l.length:Int)<=(s':Int))=false:=decide_eq_false (by omega)
  rw[hd1,hd2,Bool.or_false]
  clear hd1 hd2
  go_loopw[10,11] (fun ov kv wr=>∃(k:Nat) (bl:List Bool),s'<=k/\k<=l.length/\kv=.int .i64 k/\MvSt w wr l ms (s':Int) g k W v8 ov bl) (fun _ kv _=>l.length-(intOf kv).toNat)
  case atStart=>exact ⟨s',_,Nat.le_refl _,by omega,rfl,hst⟩
  clear hst
  obtain ⟨k,bl,hsk,hk,rfl,hb,hset,hin,hbits,hro,hsz⟩:=hrel
  have hml:=aEw l ms (s':Int) k
  by_cases hlt:k<l.length
  ·obtain ⟨b0,o0,p,rfl,hbb,hx,g0⟩:=h.int_ hlt
   have hpar:=aGq hx
   have hp:=aBh HR.out (i:=(k:Int)) (by omega) (by omega)
   have hmv:=bJo (ms:=ms) (s:=(s':Int)) HR.out hs0 (k:=(k:Int)) (by omega) (by omega)
   have hsu:=aRo l ms (s':Int) k
   rw[hpar] at hp hmv
   have hdk:decide ((s':Int)<=(k:Int))=true:=decide_eq_true (by omega)
   rw[hdk,Bool.true_and] at hsu
   have hbll:bl.length=l.length:=by have:=hin.1;simpa using this
   have C5:=bEs (i:=k) hn hlt hset
   rw[HWW.out k hlt] at C5
   clear hx hpar hdk
   have step:∀(b:Bool) (wn:World) (ov':Value),mv l ms (s':Int) (k:Int)=b->Below w.heap.size w wn->SetW wn w.heap.size v8 l.length W->
     wn.ownsRow g 4 1 (.slice (some ⟨g,0,none⟩) l.length l.length) l.length ((bl.set k b).map .bool)->wn.ownsRow (g+1) 3 1 ov' (movedTo l ms (s':Int) (k+1)).length ((movedTo l ms (s':Int) (k+1)).map (.int .i64))->g+1<=wn.heap.size->
     MvSt w wn l ms (s':Int) g (k+1) W v8 ov' (bl.set k b):=fun b wn ov' he h1 h2 h3 h4 h5=>
    ⟨h1,h2,h3,fun j hj1 hj2=>by
     by_cases e:j=k
     ·subst e;rw[List.getElem?_set_self (by omega),he]
     rw[List.getElem?_set_ne (fun e2=>e e2.symm)];exact hbits j hj1 (by omega),h4,h5⟩
   have STEP:=hid step;clear step
   cases hob:obsM ms k with
   | true=>
    rw[hob] at C5 hmv
    simp only[Bool.not_true,Bool.false_and] at hmv
    rw[hmv] at hsu
    simp only[Bool.false_eq_true,if_false,List.append_nil] at hsu
    have HS:=hid hsu
    have HM:=hid hmv
    clear hsu hmv
    go_wp2_with fail
    refine C5.mono ?_
    rintro e w5 ⟨rfl,hb5⟩
    have hb5w:=hb.trans (hb5.mono hb.size)
    have hin5:=hin.kept (aAp hb5 (Nat.le_refl _)) (.inr (by simp[Value.ownBlock]))
    have hro5:=hro.kept (aAp hb5 (Nat.le_refl _)) (by cases (Value.ownBlock u10)<;>simp)
    have hset5:=hset.below hb5
    have ck:w5.cell? ⟨g,k,none⟩=some (.bool (bl[k]'(by omega))):=by
     rw[hin5.cellAt k (by omega),List.getElem?_map,List.getElem?_eq_getElem (by omega)];rfl
    have fk:=hin5.frozenAt k
    have g5:=(hb5w.cell (p:=⟨b0,o0+k,none⟩) hbb).trans g0
    have hst5:=hin5.stored k (.bool false)
    have hset6:=hset5.kept hst5.2 (hset5.2.lt |> fun f=>by
     cases hv:v8.ownBlock with
     | none=>exact .inl rfl
     | some q=>right;intro e;injection e with e;have:=hv8 q hv;omega)
    have hro6:=hro5.kept hst5.2 (by
     cases hv:(Value.ownBlock u10) with
     | none=>exact .inl rfl
     | some q=>right;intro e;injection e with e;have:=(hro5.lt q hv).1;omega)
    have hb6:=hb5w.grown hst5.2 hb5w.size (fun q hq=>by injection hq with hq;omega)
    have hsz6:g+1<=(w5.setCell ⟨g,k,none⟩ (.bool false)).heap.size:=by have:=hb5.size;simp;omega
    have cs:(w5.setCell ⟨g,k,none⟩ (.bool false)).cell? ⟨g,k,none⟩=some (.bool false):=by
     rw[hst5.1.cellAt k (by omega),List.getElem?_set_self (by simp;omega)]
    go_wp2
    go_roundw
    case rel=>
     refine ⟨k+1,bl.set k false,by omega,by omega,by go_num,STEP.out false _ _ HM.out hb6 hset6 ?_ ?_ hsz6⟩
     ·have:=hst5.1;rwa [<-List.map_set] at this
     rw[HS.out];exact hro6
    simp[intOf];omega
   | false=>
    rw[hob] at C5 hmv
    simp only[Bool.not_false,Bool.true_and] at hmv
    by_cases hks:k=s'
    ·rw[decide_eq_true (by omega:(k:Int)=(s':Int)),Bool.true_or] at hmv
     subst hks
     rw[hmv] at hsu
     simp only[if_true] at hsu
     have HS:=hid hsu
     have HM:=hid hmv
     clear hsu hmv
     go_wp2_with fail
     refine C5.mono ?_
     rintro e w5 ⟨rfl,hb5⟩
     have hb5w:=hb.trans (hb5.mono hb.size)
     have hin5:=hin.kept (aAp hb5 (Nat.le_refl _)) (.inr (by simp[Value.ownBlock]))
     have hro5:=hro.kept (aAp hb5 (Nat.le_refl _)) (by cases (Value.ownBlock u10)<;>simp)
     have hset5:=hset.below hb5
     have ck:w5.cell? ⟨g,k,none⟩=some (.bool (bl[k]'(by omega))):=by
      rw[hin5.cellAt k (by omega),List.getElem?_map,List.getElem?_eq_getElem (by omega)];rfl
     have fk:=hin5.frozenAt k
     have g5:=(hb5w.cell (p:=⟨b0,o0+k,none⟩) hbb).trans g0
     have hst5:=hin5.stored k (.bool true)
     have hset6:=hset5.kept hst5.2 (hset5.2.lt |> fun f=>by
      cases hv:v8.ownBlock with
      | none=>exact .inl rfl
      | some q=>right;intro e;injection e with e;have:=hv8 q hv;omega)
     have hro6:=hro5.kept hst5.2 (by
      cases hv:(Value.ownBlock u10) with
      | none=>exact .inl rfl
      | some q=>right;intro e;injection e with e;have:=(hro5.lt q hv).1;omega)
     have hb6:=hb5w.grown hst5.2 hb5w.size (fun q hq=>by injection hq with hq;omega)
     have hsz6:g+1<=(w5.setCell ⟨g,k,none⟩ (.bool true)).heap.size:=by have:=hb5.size;simp;omega
     have cs:(w5.setCell ⟨g,k,none⟩ (.bool true)).cell? ⟨g,k,none⟩=some (.bool true):=by
      rw[hst5.1.cellAt k (by omega),List.getElem?_set_self (by simp;omega)]
     have hro7:=hro6.alloc (.cells #[.int .i64 (k:Int)] 3)
     have hb7:=hb6.alloc hb6.size (.cells #[.int .i64 (k:Int)] 3)
     go_wp2_with (at_builtin;refine aAn rfl (.tmp 71) (.tmp 73) 36 rfl E28 rfl rfl hro7 (aVl (w5.setCell ⟨g,k,none⟩ (.bool true)) (k:Int) (q:=w5.heap.size) (by simp)) (aBu _) (by unfold maxLen;omega) (by omega) (by have:=hb5.size;simp;omega) ?_;intro v9 w9 ho9 hg9 hv9)
     go_roundw
     case rel=>
      have hgne:∀q,(Value.ownBlock u10)=some q->g+1<=q:=fun q hq=>(hro6.lt q hq).1
      refine ⟨k+1,bl.set k true,by omega,by omega,by go_num,STEP.out true _ _ HM.out (hb7.grown hg9 hb7.size (fun q hq=>by have:=hgne q hq;omega)) ?_ ?_ ?_ ?_⟩
      ·refine (hset6.kept (World.grownBy_alloc _ _ none) (by cases v8.ownBlock<;>simp)).kept hg9 ?_
       cases hv:v8.ownBlock with
       | none=>exact .inl rfl
       | some q=>right;intro e;have:=hgne q e.symm;have:=hv8 q hv;omega
      ·have:=(hst5.1.alloc (.cells #[.int .i64 (k:Int)] 3)).kept hg9 (.inr (fun e=>by have:=hgne g e.symm;omega))
       rwa [<-List.map_set] at this
      ·rw[HS.out,List.length_append,List.map_append];exact ho9
      have:=hg9.size;have:=hb5.size;simp at *;omega
     simp[intOf];omega
    rw[decide_eq_false (by omega:¬(k:Int)=(s':Int)),Bool.false_or] at hmv
    have hks':¬(k:Int)=(s':Int):=by omega
    clear hks
    by_cases hps:(s':Int)<=p
    ·rw[decide_eq_true hps,Bool.true_and] at hmv
     have hbp:=hbits p.toNat (by omega) (by omega)
     rw[Int.toNat_of_nonneg (by omega)] at hbp
     cases hmp:mv l ms (s':Int) p with
     | true=>
      rw[hmp] at hbp hmv
      rw[hmv] at hsu
      simp only[if_true] at hsu
      have HS:=hid hsu
      have HM:=hid hmv
      clear hsu hmv
      go_wp2_with fail
      refine C5.mono ?_
      rintro e w5 ⟨rfl,hb5⟩
      have hb5w:=hb.trans (hb5.mono hb.size)
      have hin5:=hin.kept (aAp hb5 (Nat.le_refl _)) (.inr (by simp[Value.ownBlock]))
      have hro5:=hro.kept (aAp hb5 (Nat.le_refl _)) (by cases (Value.ownBlock u10)<;>simp)
      have hset5:=hset.below hb5
      have ck:w5.cell? ⟨g,k,none⟩=some (.bool (bl[k]'(by omega))):=by
       rw[hin5.cellAt k (by omega),List.getElem?_map,List.getElem?_eq_getElem (by omega)];rfl
      have fk:=hin5.frozenAt k
      have g5:=(hb5w.cell (p:=⟨b0,o0+k,none⟩) hbb).trans g0
      have cp:w5.cell? ⟨g,p.toNat,none⟩=some (.bool true):=by
       rw[hin5.cellAt p.toNat (by omega),List.getElem?_map,hbp];rfl
      have hp0:0<=p:=by omega
      have hpl:p<(l.length:Int):=by omega
      clear hbp
      have hst5:=hin5.stored k (.bool true)
      have hset6:=hset5.kept hst5.2 (hset5.2.lt |> fun f=>by
       cases hv:v8.ownBlock with
       | none=>exact .inl rfl
       | some q=>right;intro e;injection e with e;have:=hv8 q hv;omega)
      have hro6:=hro5.kept hst5.2 (by
       cases hv:(Value.ownBlock u10) with
       | none=>exact .inl rfl
       | some q=>right;intro e;injection e with e;have:=(hro5.lt q hv).1;omega)
      have hb6:=hb5w.grown hst5.2 hb5w.size (fun q hq=>by injection hq with hq;omega)
      have hsz6:g+1<=(w5.setCell ⟨g,k,none⟩ (.bool true)).heap.size:=by have:=hb5.size;simp;omega
      have cs:(w5.setCell ⟨g,k,none⟩ (.bool true)).cell? ⟨g,k,none⟩=some (.bool true):=by
       rw[hst5.1.cellAt k (by omega),List.getElem?_set_self (by simp;omega)]
      have hro7:=hro6.alloc (.cells #[.int .i64 (k:Int)] 3)
      have hb7:=hb6.alloc hb6.size (.cells #[.int .i64 (k:Int)] 3)
      go_wp2_with (at_builtin;refine aAn rfl (.tmp 71) (.tmp 73) 36 rfl E28 rfl rfl hro7 (aVl (w5.setCell ⟨g,k,none⟩ (.bool true)) (k:Int) (q:=w5.heap.size) (by simp)) (aBu _) (by unfold maxLen;omega) (by omega) (by have:=hb5.size;simp;omega) ?_;intro v9 w9 ho9 hg9 hv9)
      go_roundw
      case rel=>
       have hgne:∀q,(Value.ownBlock u10)=some q->g+1<=q:=fun q hq=>(hro6.lt q hq).1
       refine ⟨k+1,bl.set k true,by omega,by omega,by go_num,STEP.out true _ _ HM.out (hb7.grown hg9 hb7.size (fun q hq=>by have:=hgne q hq;omega)) ?_ ?_ ?_ ?_⟩
       ·refine (hset6.kept (World.grownBy_alloc _ _ none) (by cases v8.ownBlock<;>simp)).kept hg9 ?_
        cases hv:v8.ownBlock with
        | none=>exact .inl rfl
        | some q=>right;intro e;have:=hgne q e.symm;have:=hv8 q hv;omega
       ·have:=(hst5.1.alloc (.cells #[.int .i64 (k:Int)] 3)).kept hg9 (.inr (fun e=>by have:=hgne g e.symm;omega))
        rwa [<-List.map_set] at this
       ·rw[HS.out,List.length_append,List.map_append];exact ho9
       have:=hg9.size;have:=hb5.size;simp at *;omega
      simp[intOf];omega
     | false=>
      rw[hmp] at hbp hmv
      rw[hmv] at hsu
      simp only[Bool.false_eq_true,if_false,List.append_nil] at hsu
      have HS:=hid hsu
      have HM:=hid hmv
      clear hsu hmv
      go_wp2_with fail
      refine C5.mono ?_
      rintro e w5 ⟨rfl,hb5⟩
      have hb5w:=hb.trans (hb5.mono hb.size)
      have hin5:=hin.kept (aAp hb5 (Nat.le_refl _)) (.inr (by simp[Value.ownBlock]))
      have hro5:=hro.kept (aAp hb5 (Nat.le_refl _)) (by cases (Value.ownBlock u10)<;>simp)
      have hset5:=hset.below hb5
      have ck:w5.cell? ⟨g,k,none⟩=some (.bool (bl[k]'(by omega))):=by
       rw[hin5.cellAt k (by omega),List.getElem?_map,List.getElem?_eq_getElem (by omega)];rfl
      have fk:=hin5.frozenAt k
      have g5:=(hb5w.cell (p:=⟨b0,o0+k,none⟩) hbb).trans g0
      have cp:w5.cell? ⟨g,p.toNat,none⟩=some (.bool false):=by
       rw[hin5.cellAt p.toNat (by omega),List.getElem?_map,hbp];rfl
      have hp0:0<=p:=by omega
      have hpl:p<(l.length:Int):=by omega
      clear hbp
      have hst5:=hin5.stored k (.bool false)
      have hset6:=hset5.kept hst5.2 (hset5.2.lt |> fun f=>by
       cases hv:v8.ownBlock with
       | none=>exact .inl rfl
       | some q=>right;intro e;injection e with e;have:=hv8 q hv;omega)
      have hro6:=hro5.kept hst5.2 (by
       cases hv:(Value.ownBlock u10) with
       | none=>exact .inl rfl
       | some q=>right;intro e;injection e with e;have:=(hro5.lt q hv).1;omega)
      have hb6:=hb5w.grown hst5.2 hb5w.size (fun q hq=>by injection hq with hq;omega)
      have hsz6:g+1<=(w5.setCell ⟨g,k,none⟩ (.bool false)).heap.size:=by have:=hb5.size;simp;omega
      have cs:(w5.setCell ⟨g,k,none⟩ (.bool false)).cell? ⟨g,k,none⟩=some (.bool false):=by
       rw[hst5.1.cellAt k (by omega),List.getElem?_set_self (by simp;omega)]
      go_wp2
      go_roundw
      case rel=>
       refine ⟨k+1,bl.set k false,by omega,by omega,by go_num,STEP.out false _ _ HM.out hb6 hset6 ?_ ?_ hsz6⟩
       ·have:=hst5.1;rwa [<-List.map_set] at this
       rw[HS.out];exact hro6
      simp[intOf];omega
    rw[decide_eq_false hps,Bool.false_and] at hmv
    rw[hmv] at hsu
    simp only[Bool.false_eq_true,if_false,List.append_nil] at hsu
    have HS:=hid hsu
    have HM:=hid hmv
    clear hsu hmv
    go_wp2_with fail
    refine C5.mono ?_
    rintro e w5 ⟨rfl,hb5⟩
    have hb5w:=hb.trans (hb5.mono hb.size)
    have hin5:=hin.kept (aAp hb5 (Nat.le_refl _)) (.inr (by simp[Value.ownBlock]))
    have hro5:=hro.kept (aAp hb5 (Nat.le_refl _)) (by cases (Value.ownBlock u10)<;>simp)
    have hset5:=hset.below hb5
    have ck:w5.cell? ⟨g,k,none⟩=some (.bool (bl[k]'(by omega))):=by
     rw[hin5.cellAt k (by omega),List.getElem?_map,List.getElem?_eq_getElem (by omega)];rfl
    have fk:=hin5.frozenAt k
    have g5:=(hb5w.cell (p:=⟨b0,o0+k,none⟩) hbb).trans g0
    have hst5:=hin5.stored k (.bool false)
    have hset6:=hset5.kept hst5.2 (hset5.2.lt |> fun f=>by
     cases hv:v8.ownBlock with
     | none=>exact .inl rfl
     | some q=>right;intro e;injection e with e;have:=hv8 q hv;omega)
    have hro6:=hro5.kept hst5.2 (by
     cases hv:(Value.ownBlock u10) with
     | none=>exact .inl rfl
     | some q=>right;intro e;injection e with e;have:=(hro5.lt q hv).1;omega)
    have hb6:=hb5w.grown hst5.2 hb5w.size (fun q hq=>by injection hq with hq;omega)
    have hsz6:g+1<=(w5.setCell ⟨g,k,none⟩ (.bool false)).heap.size:=by have:=hb5.size;simp;omega
    have cs:(w5.setCell ⟨g,k,none⟩ (.bool false)).cell? ⟨g,k,none⟩=some (.bool false):=by
     rw[hst5.1.cellAt k (by omega),List.getElem?_set_self (by simp;omega)]
    go_wp2
    go_roundw
    case rel=>
     refine ⟨k+1,bl.set k false,by omega,by omega,by go_num,STEP.out false _ _ HM.out hb6 hset6 ?_ ?_ hsz6⟩
     ·have:=hst5.1;rwa [<-List.map_set] at this
     rw[HS.out];exact hro6
    simp[intOf];omega
  have hkn:k=l.length:=by omega
  subst hkn
  obtain ⟨A5,c5,rfl,hc5⟩:=aAd hro
  go_wp2
  go_ret
  exact ⟨A5,c5,_,rfl,Rd.of_own hro hc5,hb,rfl,fun a e=>.inr (by have:=aPl hro a e;omega)⟩
 have e:moved l ms s=[]:=by unfold moved;rw[if_neg hok]
 rw[e]
 clear e
 cases hr:rightP l with
 | false=>
  rw[hr] at C
  go_enter Tryz.func80,Tryz.ntmps80
  go_wp2_with fail
  refine C.mono ?_
  rintro e w1 ⟨rfl,hb1⟩
  go_wp2
  go_ret
  exact ⟨none,0,[],rfl,Rd.none_ _ _ _,hb1,rfl,fun a e=>by cases e⟩
 | true=>
  rw[hr] at C
  have hbad:s<0\/(l.length:Int)<=s:=by
   by_cases h0:s<0
   ·exact .inl h0
   exact .inr (by by_cases h1:(l.length:Int)<=s;exact h1;exact absurd ⟨hr,by omega,by omega⟩ hok)
  clear hok
  by_cases h0:s<0
  ·clear hbad
   go_enter Tryz.func80,Tryz.ntmps80
   go_wp2_with fail
   refine C.mono ?_
   rintro e w1 ⟨rfl,hb1⟩
   go_wp2
   go_ret
   exact ⟨none,0,[],rfl,Rd.none_ _ _ _,hb1,rfl,fun a e=>by cases e⟩
  have h1:(l.length:Int)<=s:=by omega
  clear hbad
  go_enter Tryz.func80,Tryz.ntmps80
  go_wp2_with fail
  refine C.mono ?_
  rintro e w1 ⟨rfl,hb1⟩
  go_wp2
  go_ret
  exact ⟨none,0,[],rfl,Rd.none_ _ _ _,hb1,rfl,fun a e=>by cases e⟩
theorem bDm (l:List Int)(ms:List MV)(s:Int):(underTo l s l.length).filter (fun x=>okTo ms s (chain l x))=moved l ms s:=by
 unfold moved
 split
 ·rename_i h
  unfold underTo movedTo
  rw[List.filter_filter]
  refine List.filter_congr fun x hx=>?_
  obtain ⟨k,hk,rfl⟩:=List.mem_map.1 hx
  have hlt:=List.mem_range.1 hk
  show (okTo ms s (chain l (k:Int)) && above l s (k:Int))=(decide (s<=(k:Int)) && mv l ms s (k:Int))
  by_cases hs:s<=(k:Int)
  ·rw[decide_eq_true hs,Bool.true_and,<-bCx h.1 h.2.1 (k:=(k:Int)) (by omega) (by omega) hs,Bool.and_comm]
  have:above l s (k:Int)=false:=by
   unfold above
   refine decide_eq_false fun hx=>?_
   have:=aFe hx;omega
  rw[this,decide_eq_false hs];simp
 rename_i h
 rw[List.filter_eq_nil_iff]
 intro x hx
 unfold underTo at hx
 rw[List.mem_filter] at hx
 have ha:=hx.2
 unfold above at ha
 have:=aFe (of_decide_eq_true ha)
 exact absurd ⟨this.1,this.2.1,by omega⟩ h
theorem bEo {ms:List MV}{s x:Int}{ch:List Int}{j:Nat}{b:Bool}(h:okTo ms s ch=(b && okTo ms s (ch.drop j)))(hx:ch[j]? = some x) :
  okTo ms s ch=((b && !obsM ms x) && (decide (x=s) || okTo ms s (ch.drop (j+1)))):=by
 obtain ⟨hj,rfl⟩:=List.getElem?_eq_some_iff.1 hx
 rw[h,List.drop_eq_getElem_cons hj]
 simp only[okTo,Bool.and_assoc]
theorem aYo {A A2:Option Addr}{c m c2:Nat}{l:List Int}{ms:List MV}{s:Int}{w:World}(hn:l.length<=1000000)(h:Rd w w.heap.size 1 A l.length c (l.map (.int .i64)))(hm:m<=maxLen)(h2:RdM w w.heap.size A2 m c2 ms) :
  Calls Tryz.prog 14 #[.slice A l.length c,.slice A2 m c2,.int .i64 s] w (Ints (·=moved l ms s) w):=by
 rw[<-bDm]
 have hul:=aMr l s l.length
 have C53:=bDw (i:=s) (by omega) h
 obtain ⟨f,hf⟩:∃f:Int->Bool,f=fun x=>okTo ms s (chain l x):=⟨_,rfl⟩
 rw[<-hf]
 have HF:Hid (∀x,f x=okTo ms s (chain l x)):=fun x=>by rw[hf]
 clear hf
 generalize underTo l s l.length=un at *
 go_enter Tryz.func14,Tryz.ntmps14
 go_wp2_with fail
 refine C53.mono ?_
 rintro e w1 ⟨A3,c3,un,rfl,hr3,hb1,rfl⟩
 clear C53
 go_wp2
 go_loopw[7,9] (fun ov kv wr=>∃k:Nat,k<=un.length/\kv=.int .i64 k/\Below w.heap.size w wr/\Below w1.heap.size w1 wr/\wr.ownsRow w1.heap.size 3 1 ov ((un.take k).filter f).length (((un.take k).filter f).map (.int .i64))) (fun _ kv _=>un.length-(intOf kv).toNat)
 case atStart=>exact ⟨0,Nat.zero_le _,rfl,hb1,Below.refl _ _,by rw[List.take_zero];exact World.ownsRow_nil _ _ _ _⟩
 obtain ⟨k,hk,rfl,hb,hbn,hro⟩:=hrel
 have hml:((un.take k).filter f).length<=un.length:=Nat.le_trans (List.length_filter_le _ _) (by rw[List.length_take];omega)
 by_cases hlt:k<un.length
 ·obtain ⟨b3,o3,x,rfl,hb3,hx,g0⟩:=hr3.int_ hlt
  have g1:=(hbn.cell (p:=⟨b3,o3+k,none⟩) hb3).trans g0
  have hsu:(un.take (k+1)).filter f=(un.take k).filter f++if f x=true then [x] else []:=by
   rw[List.take_add_one,hx,Option.toList_some,List.filter_append]
   cases hfx:f x<;>simp[hfx]
  have HS:=hid hsu;clear hsu hx
  have C54:=aRw (i:=x) (by omega) (h.to hb hb.size)
  have hchl:=aMh (l:=l) (b:=x)
  go_wp2_with fail
  refine C54.mono ?_
  rintro e w2 ⟨A4,c4,ch,rfl,hr4,hb2,hch⟩
  rw[<-hch] at hchl
  have hbw:=hb.trans (hb2.mono hb.size)
  have hbnw:=hbn.trans (hb2.mono hbn.size)
  have hro2:=hro.kept (aAp hb2 (Nat.le_refl _)) (by cases (Value.ownBlock u7)<;>simp)
  have HX:=hid ((HF.out x).trans (congrArg (okTo ms s) hch.symm))
  clear hch hro hb2 hb hbn C54
  obtain ⟨ov,hov⟩:∃v,v=u7:=⟨_,rfl⟩
  rw[<-hov] at hro2 ⊢
  clear hov
  go_wp2
  go_loopw[11,12] (fun okv jv wr=>∃(j:Nat) (b:Bool),j<=ch.length/\okv=.bool b/\jv=.int .i64 j/\Below w2.heap.size w2 wr/\Hid (okTo ms s ch=(b && okTo ms s (ch.drop j)))) (fun _ jv _=>ch.length-(intOf jv).toNat)
  case atStart=>exact ⟨0,true,Nat.zero_le _,rfl,rfl,Below.refl _ _,by simp[Hid]⟩
  obtain ⟨j,b,hj,rfl,rfl,hbr,hjj⟩:=hrel
  by_cases hlt2:j<ch.length
  ·obtain ⟨b4,o4,y,rfl,hb4,hy,y0⟩:=hr4.int_ hlt2
   have y1:=(hbr.cell (p:=⟨b4,o4+j,none⟩) hb4).trans y0
   have HST:=hid (bEo hjj.out hy)
   clear hy
   cases b with
   | false=>
    have HST2:Hid (okTo ms s ch=(false && (decide (y=s) || okTo ms s (ch.drop (j+1))))):=HST.out.trans (by simp)
    by_cases hys:y=s
    ·have HV:Hid (f x=false):=HX.out.trans (HST2.out.trans (by simp))
     subst hys
     go_wp2
     go_roundw
     case rel=>
      refine ⟨k+1,by omega,by go_num,hbw.trans (hbr.mono hbw.size),hbnw.trans (hbr.mono hbnw.size),?_⟩
      rw[HS.out,HV.out]
      simp only[Bool.false_eq_true,if_false,List.append_nil]
      exact hro2.kept (aAp hbr (Nat.le_refl _)) (by cases ov.ownBlock<;>simp)
     simp[intOf];omega
    obtain ⟨e1,_⟩:=aFf hys
    go_wp2
    go_roundw
    case rel=>exact ⟨j+1,false,by omega,rfl,by go_num,hbr,HST2.out.trans (by simp)⟩
    simp[intOf];omega
   | true=>
    have hbo:=hbw.trans (hbr.mono hbw.size)
    have C15:=bFz (x:=y) hm (h2.to hbo hbo.size)
    cases ho:obsM ms y with
    | true=>
     rw[ho] at C15
     have HST2:Hid (okTo ms s ch=false):=HST.out.trans (by simp[ho])
     clear ho
     by_cases hys:y=s
     ·have HV:Hid (f x=false):=HX.out.trans HST2.out
      subst hys
      go_wp2_with fail
      refine C15.mono ?_
      rintro e w5 ⟨rfl,hb5⟩
      have hbr5:=hbr.trans (hb5.mono hbr.size)
      have y2:=(hb5.cell (p:=⟨b4,o4+j,none⟩) (Nat.lt_of_lt_of_le hb4 hbr.size)).trans y1
      go_wp2
      go_roundw
      case rel=>
       refine ⟨k+1,by omega,by go_num,hbw.trans (hbr5.mono hbw.size),hbnw.trans (hbr5.mono hbnw.size),?_⟩
       rw[HS.out,HV.out]
       simp only[Bool.false_eq_true,if_false,List.append_nil]
       exact hro2.kept (aAp hbr5 (Nat.le_refl _)) (by cases ov.ownBlock<;>simp)
      simp[intOf];omega
     obtain ⟨e1,_⟩:=aFf hys
     go_wp2_with fail
     refine C15.mono ?_
     rintro e w5 ⟨rfl,hb5⟩
     have y2:=(hb5.cell (p:=⟨b4,o4+j,none⟩) (Nat.lt_of_lt_of_le hb4 hbr.size)).trans y1
     go_wp2
     go_roundw
     case rel=>exact ⟨j+1,false,by omega,rfl,by go_num,hbr.trans (hb5.mono hbr.size),HST2.out.trans (by simp)⟩
     simp[intOf];omega
    | false=>
     rw[ho] at C15
     have HST2:Hid (okTo ms s ch=(decide (y=s) || okTo ms s (ch.drop (j+1)))):=HST.out.trans (by simp[ho])
     clear ho
     by_cases hys:y=s
     ·have HV:Hid (f x=true):=HX.out.trans (HST2.out.trans (by simp[hys]))
      subst hys
      go_wp2_with fail
      refine C15.mono ?_
      rintro e w5 ⟨rfl,hb5⟩
      have hbr5:=hbr.trans (hb5.mono hbr.size)
      have y2:=(hb5.cell (p:=⟨b4,o4+j,none⟩) (Nat.lt_of_lt_of_le hb4 hbr.size)).trans y1
      have hb6:=(hbnw.trans (hbr5.mono hbnw.size)).alloc (hbnw.trans (hbr5.mono hbnw.size)).size (.cells #[.int .i64 x] 3)
      have hb6w:=(hbw.trans (hbr5.mono hbw.size)).alloc (hbw.trans (hbr5.mono hbw.size)).size (.cells #[.int .i64 x] 3)
      have hro6:=(hro2.kept (aAp hbr5 (Nat.le_refl _)) (by cases ov.ownBlock<;>simp)).alloc (.cells #[.int .i64 x] 3)
      have g3:=((hbnw.trans (hbr5.mono hbnw.size)).cell (p:=⟨b3,o3+k,none⟩) hb3).trans g0
      go_wp2_with (at_builtin;refine aAn rfl (.tmp 51) (.tmp 56) 36 rfl E28 rfl rfl hro6 (aEn w5 x) (aBu _) (by unfold maxLen;omega) (by omega) hb6.size ?_;intro v9 w9 ho9 hg9 hv9)
      go_roundw
      case rel=>
       refine ⟨k+1,by omega,by go_num,hb6w.grown hg9 hb6w.size (fun q hq=>Nat.le_trans hb1.size (hro6.lt q hq).1),hb6.grown hg9 hb6.size (fun q hq=>(hro6.lt q hq).1),?_⟩
       rw[HS.out,HV.out]
       simp only[if_true]
       rw[List.length_append,List.map_append];exact ho9
      simp[intOf];omega
     obtain ⟨e1,_⟩:=aFf hys
     go_wp2_with fail
     refine C15.mono ?_
     rintro e w5 ⟨rfl,hb5⟩
     have y2:=(hb5.cell (p:=⟨b4,o4+j,none⟩) (Nat.lt_of_lt_of_le hb4 hbr.size)).trans y1
     go_wp2
     go_roundw
     case rel=>exact ⟨j+1,true,by omega,rfl,by go_num,hbr.trans (hb5.mono hbr.size),HST2.out.trans (by simp[hys])⟩
     simp[intOf];omega
  have hjn:j=ch.length:=by omega
  have hd:ch.drop j=[]:=List.drop_eq_nil_of_le (by omega)
  have HE:Hid (f x=b):=HX.out.trans (hjj.out.trans (by rw[hd];simp[okTo]))
  clear hd hjj
  cases b with
  | false=>
   have HV:Hid (f x=false):=HE.out
   go_wp2
   go_roundw
   case rel=>
    refine ⟨k+1,by omega,by go_num,hbw.trans (hbr.mono hbw.size),hbnw.trans (hbr.mono hbnw.size),?_⟩
    rw[HS.out,HV.out]
    simp only[Bool.false_eq_true,if_false,List.append_nil]
    exact hro2.kept (aAp hbr (Nat.le_refl _)) (by cases ov.ownBlock<;>simp)
   simp[intOf];omega
  | true=>
   have HV:Hid (f x=true):=HE.out
   have hb6:=(hbnw.trans (hbr.mono hbnw.size)).alloc (hbnw.trans (hbr.mono hbnw.size)).size (.cells #[.int .i64 x] 3)
   have hb6w:=(hbw.trans (hbr.mono hbw.size)).alloc (hbw.trans (hbr.mono hbw.size)).size (.cells #[.int .i64 x] 3)
   have hro6:=(hro2.kept (aAp hbr (Nat.le_refl _)) (by cases ov.ownBlock<;>simp)).alloc (.cells #[.int .i64 x] 3)
   have g3:=((hbnw.trans (hbr.mono hbnw.size)).cell (p:=⟨b3,o3+k,none⟩) hb3).trans g0
   go_wp2_with (at_builtin;refine aAn rfl (.tmp 51) (.tmp 56) 36 rfl E28 rfl rfl hro6 (aEn wr x) (aBu _) (by unfold maxLen;omega) (by omega) hb6.size ?_;intro v9 w9 ho9 hg9 hv9)
   go_roundw
   case rel=>
    refine ⟨k+1,by omega,by go_num,hb6w.grown hg9 hb6w.size (fun q hq=>Nat.le_trans hb1.size (hro6.lt q hq).1),hb6.grown hg9 hb6.size (fun q hq=>(hro6.lt q hq).1),?_⟩
    rw[HS.out,HV.out]
    simp only[if_true]
    rw[List.length_append,List.map_append];exact ho9
   simp[intOf];omega
 have hkn:k=un.length:=by omega
 subst hkn
 rw[List.take_of_length_le (Nat.le_refl _)] at hro
 obtain ⟨A5,c5,rfl,hc5⟩:=aAd hro
 go_wp2
 go_ret
 exact ⟨A5,c5,_,rfl,Rd.of_own hro hc5,hb,rfl⟩
theorem aLk {A:Option Addr}{n c:Nat}{xs:List Value}{w:World}(hn:n<=1000000)(hr:Rd w w.heap.size 3 A n c xs)(h1:∀u∈xs,u.oneCell'=true) :
  Calls Tryz.prog 70 #[.slice A n c] w (CloneIs 40 3 n xs w):=by
 have q22:∀(w:World) (a:Option Addr) (n c n' c':Nat),(binOp .eql 22 (.slice a n c) (.slice none n' c')).run Tryz.prog w=.ok (.bool a.isNone) w:=fun w a n c n' c'=>Lib.run_eql_slice_nil w _ _ a n c n' c' Tryz.underlying22
 cases A with
 | none=>
  have hn0:n=0:=by
   rcases Nat.eq_zero_or_pos n with h0 | h0
   ·exact h0
   obtain ⟨b,o,e,_⟩:=hr.at_ h0;cases e
  subst hn0
  have hl:xs=[]:=List.eq_nil_of_length_eq_zero (hr.len.trans (Nat.zero_mul 3))
  have HO:=hid hl
  clear hl h1
  go_enter Tryz.func70,Tryz.ntmps70
  go_wp2
  go_ret
  exact ⟨_,rfl,by rw[HO.out];exact World.ownsRow_nil _ _ _ _,Below.refl _ _⟩
 | some a=>
  have ho0:(w.alloc (.cells #[] 40)).ownsRow w.heap.size 40 3 (.slice (some ⟨w.heap.size,0,none⟩) 0 0) 0 []:=World.ownsRow_made w #[] 0 (Nat.le_refl _) (Nat.zero_le _) (by simp)
  have hb0:Below w.heap.size w (w.alloc (.cells #[] 40)):=(Below.refl _ _).alloc (Nat.le_refl _) _
  have H1:=hid h1
  clear h1
  go_enter Tryz.func70,Tryz.ntmps70
  go_wp2_with (at_builtin;refine aAn rfl (.tmp 5) (.tmp 6) 22 rfl aMy rfl rfl ho0 (hr.below hb0) H1.out (by unfold maxLen;omega) (by omega) hb0.size ?_;intro v7 w7 ho7 hg7 hv7)
  rw[Nat.zero_add,List.nil_append] at ho7
  go_ret
  exact ⟨_,rfl,ho7,hb0.grown hg7 hb0.size (fun g hg=>(ho0.lt g hg).1)⟩
theorem aMk {A:Option Addr}{n c:Nat}{xs:List Value}{w:World}(hn:n<=1000000)(hr:Rd w w.heap.size 2 A n c xs)(h1:∀u∈xs,u.oneCell'=true) :
  Calls Tryz.prog 71 #[.slice A n c] w (CloneIs 43 2 n xs w):=by
 have q22:∀(w:World) (a:Option Addr) (n c n' c':Nat),(binOp .eql 23 (.slice a n c) (.slice none n' c')).run Tryz.prog w=.ok (.bool a.isNone) w:=fun w a n c n' c'=>Lib.run_eql_slice_nil w _ _ a n c n' c' Tryz.underlying23
 cases A with
 | none=>
  have hn0:n=0:=by
   rcases Nat.eq_zero_or_pos n with h0 | h0
   ·exact h0
   obtain ⟨b,o,e,_⟩:=hr.at_ h0;cases e
  subst hn0
  have hl:xs=[]:=List.eq_nil_of_length_eq_zero (hr.len.trans (Nat.zero_mul 2))
  have HO:=hid hl
  clear hl h1
  go_enter Tryz.func71,Tryz.ntmps71
  go_wp2
  go_ret
  exact ⟨_,rfl,by rw[HO.out];exact World.ownsRow_nil _ _ _ _,Below.refl _ _⟩
 | some a=>
  have ho0:(w.alloc (.cells #[] 43)).ownsRow w.heap.size 43 2 (.slice (some ⟨w.heap.size,0,none⟩) 0 0) 0 []:=World.ownsRow_made w #[] 0 (Nat.le_refl _) (Nat.zero_le _) (by simp)
  have hb0:Below w.heap.size w (w.alloc (.cells #[] 43)):=(Below.refl _ _).alloc (Nat.le_refl _) _
  have H1:=hid h1
  clear h1
  go_enter Tryz.func71,Tryz.ntmps71
  go_wp2_with (at_builtin;refine aAn rfl (.tmp 5) (.tmp 6) 23 rfl E22 rfl rfl ho0 (hr.below hb0) H1.out (by unfold maxLen;omega) (by omega) hb0.size ?_;intro v7 w7 ho7 hg7 hv7)
  rw[Nat.zero_add,List.nil_append] at ho7
  go_ret
  exact ⟨_,rfl,ho7,hb0.grown hg7 hb0.size (fun g hg=>(ho0.lt g hg).1)⟩
theorem aLq {w:World}{mb n c:Nat}{cs:Array Value}{A:Option Addr}{l:List FLV}(hs:w.heap[mb]? = some (.cells cs 109 (0,0)))(h0:cs[0]? = some (.slice A n c))
  (hr:Rd w w.heap.size 3 A n c (l.flatMap FLV.cells)) (hl:l.length=n) (hn:n<=1000000) :
  Calls Tryz.prog 61 #[.pointer (some ⟨mb,0,none⟩)] w (IntsF none 0 (·=l.map FLV.parent) w):=by
 have HL:=hid hl
 have c0:w.cell? ⟨mb,0,none⟩=some (.slice A n c):=by rw[Lib.cell_of_heap hs];exact h0
 have hml:=aAa hs
 clear hl hs h0
 go_enter Tryz.func61,Tryz.ntmps61
 go_wp2
 go_loopw[3,11] (fun ov i wr=>∃k:Nat,k<=n/\i=.int .i64 k/\Below w.heap.size w wr/\wr.ownsRow w.heap.size 3 1 ov k (((l.take k).map FLV.parent).map (.int .i64))) (fun _ i _=>n-(intOf i).toNat)
 case atStart=>exact ⟨0,Nat.zero_le _,rfl,Below.refl _ _,by rw[List.take_zero];exact World.ownsRow_nil _ _ _ _⟩
 obtain ⟨k,hk,rfl,hb,ho⟩:=hrel
 by_cases hlt:k<n
 ·obtain ⟨b0,o0,f,e,hbb,hx,hm,hc⟩:=T.rd_flat FLV.cells_len (by omega) hr HL.out hlt
  subst e
  have g0:=(hb.cell (p:=⟨b0,o0+k*3,none⟩) hbb).trans (hc 0 _ rfl)
  have g1:=(hb.cell (p:=⟨b0,o0+k*3+1,none⟩) hbb).trans (hc 1 _ rfl)
  have g2:=(hb.cell (p:=⟨b0,o0+k*3+2,none⟩) hbb).trans (hc 2 _ rfl)
  have HX:=hid hx;clear hx hc hm
  have hb1:=hb.alloc hb.size (.cells #[.int .i64 f.parent,.string f.msg,.slice f.A f.files.length f.c] 40)
  have ho1:=ho.alloc (.cells #[.int .i64 f.parent,.string f.msg,.slice f.A f.files.length f.c] 40)
  have hb2:=hb1.alloc hb1.size (.cells #[.int .i64 f.parent] 3)
  have ho2:=ho1.alloc (.cells #[.int .i64 f.parent] 3)
  go_wp2_with (at_builtin;refine aAn rfl (.tmp 15) (.tmp 18) 36 rfl E28 rfl rfl ho2 (aVl (wr.alloc (.cells #[.int .i64 f.parent,.string f.msg,.slice f.A f.files.length f.c] 40)) f.parent (q:=wr.heap.size+1) (by simp)) (aBu _) (by unfold maxLen;omega) (by omega) hb2.size ?_;intro v7 w7 ho7 hg7 hv7)
  go_roundw
  case rel=>
   refine ⟨k+1,by omega,by go_num,hb2.grown hg7 hb2.size (fun g hg=>(ho2.lt g hg).1),?_⟩
   rw[List.take_add_one,HX.out,List.map_append,List.map_append]
   exact ho7
  simp[intOf];omega
 have hkn:k=n:=by omega
 subst hkn
 rw[List.take_of_length_le (by rw[HL.out];omega)] at ho
 obtain ⟨A',c',rfl,hc'⟩:=aAd ho
 go_wp2
 go_ret
 have hlen:(l.map FLV.parent).length=k:=by rw[List.length_map];exact HL.out
 exact ⟨A',c',l.map FLV.parent,by rw[hlen];rfl,by rw[hlen];exact Rd.of_own ho hc',hb,rfl,fun a e=>.inr (aPl ho a e)⟩
def FilesAtIs (w:World)(X:List Nat)(l:List FLV)(i:Int)(e:Ending) (w':World):Prop:=
 ∃(A:Option Addr) (c:Nat),e=.returned (.slice A (filesAt (l.map FLV.pl) i).length c)/\RdO3 w' X A c (filesAt (l.map FLV.pl) i)/\(filesAt (l.map FLV.pl) i).length<=17592186044416/\w'=w
theorem aUp {l:List FLV}{k:Nat}{f:FLV}(h:l[k]? = some f):filesAt (l.map FLV.pl) (k:Int)=f.files:=by
 unfold filesAt
 rw[if_neg (by omega),Int.toNat_natCast,List.getElem?_map,h];rfl
theorem RdO3.none_ (w:World)(X:List Nat):RdO3 w X none 0 []:=⟨RdF.none_ _ _,fun a h=>by cases h⟩
theorem aZb {w:World}{mb n c:Nat}{X:List Nat}{cs:Array Value}{A:Option Addr}{l:List FLV}{i:Int}(hs:w.heap[mb]? = some (.cells cs 109 (0,0)))(h0:cs[0]? = some (.slice A n c))
  (hr:Rd w w.heap.size 3 A n c (l.flatMap FLV.cells)) (hl:l.length=n) (_hn:n<=1000000) (hp:∀f∈l,FlOk w X f) (hi:i<n) :
  Calls Tryz.prog 114 #[.pointer (some ⟨mb,0,none⟩),.int .i64 i] w (FilesAtIs w X l i):=by
 have c0:w.cell? ⟨mb,0,none⟩=some (.slice A n c):=by rw[Lib.cell_of_heap hs];exact h0
 have hml:=aAa hs
 by_cases hneg:i<0
 ·have HE:=hid (show filesAt (l.map FLV.pl) i=[] by unfold filesAt;rw[if_pos hneg])
  clear hp hr hl hs h0
  go_enter Tryz.func114,Tryz.ntmps114
  go_wp2
  go_ret
  exact ⟨none,0,by rw[HE.out];rfl,by rw[HE.out];exact RdO3.none_ _ _,by rw[HE.out];exact Nat.zero_le _,rfl⟩
 obtain ⟨k,rfl⟩:∃k:Nat,i=(k:Int):=⟨i.toNat,by omega⟩
 have hk:k<n:=by omega
 obtain ⟨b0,o0,f,e,hbb,hx,hm,hc⟩:=T.rd_flat FLV.cells_len (by omega) hr hl hk
 subst e
 have g2:=hc 2 _ rfl
 have HE:=hid (aUp hx)
 have HP:=hid (hp f hm)
 clear hc hx hm hp hr hl hs h0
 go_enter Tryz.func114,Tryz.ntmps114
 go_wp2
 go_ret
 exact ⟨f.A,f.c,by rw[HE.out];rfl,by rw[HE.out];exact HP.out.files,by rw[HE.out];exact HP.out.few,rfl⟩
theorem aUi {f:FLV}{w:World}(hm:Lm w)(hr:RdF w w.heap.size f.A f.files.length f.c f.files)(hn:f.files.length<=17592186044416) :
  Calls Tryz.prog 74 #[.agg #[.int .i64 f.parent,.string f.msg,.slice f.A f.files.length f.c]] w (BoolBelow (!treeOk f.files) w):=by
 have hb:Below w.heap.size w (w.alloc (.cells #[.int .i64 f.parent,.string f.msg,.slice f.A f.files.length f.c] 40)):=(Below.refl _ _).alloc (Nat.le_refl _) _
 have C:=aCf hn (hm.to hb) (hr.to hb hb.size)
 go_enter Tryz.func74,Tryz.ntmps74
 go_wp2_with fail
 refine C.mono ?_
 rintro e w1 ⟨rfl,hb1⟩
 clear C
 go_wp2
 go_ret
 exact ⟨rfl,hb.trans (hb1.mono hb.size)⟩
theorem aYf {A:Option Addr}{n c:Nat}{l:List FLV}{w:World}(hn:n<=maxLen)(hm:Lm w)(h:RdFl w w.heap.size A n c l) :
  Calls Tryz.prog 102 #[.slice A n c,.func (.func 74) #[] #[]] w fun e w'=>∃r:Int,e=.returned (.int .i64 r)/\decide (0<=r)=l.any (fun f=>!treeOk f.files)/\Below w.heap.size w w':=by
 unfold maxLen at hn
 have HL:=hid h.len
 go_enter Tryz.func102,Tryz.ntmps102
 go_wp2
 go_loopw[5,8] (fun _ i wr=>∃k:Nat,k<=n/\i=.int .i64 k/\Below w.heap.size w wr/\Hid ((l.take k).any (fun f=>!treeOk f.files)=false)) (fun _ i _=>n-(intOf i).toNat)
 case atStart=>exact ⟨0,Nat.zero_le _,rfl,Below.refl _ _,by rw[List.take_zero];rfl⟩
 obtain ⟨k,hk,rfl,hb,hj⟩:=hrel
 by_cases hlt:k<n
 ·obtain ⟨b0,o0,u,rfl,hbb,hx,hu,h0,h1,h2⟩:=h.get hlt
  replace h0:=(hb.cell hbb).trans h0
  replace h1:=(hb.cell hbb).trans h1
  replace h2:=(hb.cell hbb).trans h2
  obtain ⟨p1,p2,_⟩:=h.parts u hu
  have HX:=hid hx;clear hx
  have hcall:=aUi (hm.to hb) (p1.to hb hb.size) p2
  clear p1 p2
  cases hq:treeOk u.files with
  | false=>
   rw[hq] at hcall
   have HA:=hid (show l.any (fun f=>!treeOk f.files)=true from List.any_eq_true.2 ⟨u,hu,by rw[hq];rfl⟩)
   clear hq
   go_wp2_with fail
   refine hcall.mono ?_
   rintro e w1 ⟨rfl,hb'⟩
   clear hcall
   go_wp2
   go_ret
   refine ⟨_,rfl,?_,hb.trans (hb'.mono hb.size)⟩
   rw[HA.out,decide_eq_true (by omega)]
  | true=>
   rw[hq] at hcall
   have HA:=hid (show (l.take (k+1)).any (fun f=>!treeOk f.files)=false by
    rw[List.take_add_one,HX.out,Option.toList_some,List.any_append,hj.out];simp[hq])
   clear hq
   go_wp2_with fail
   refine hcall.mono ?_
   rintro e w1 ⟨rfl,hb'⟩
   clear hcall
   go_wp2
   go_roundw
   case rel=>exact ⟨k+1,by omega,by go_num,hb.trans (hb'.mono hb.size),HA.out⟩
   simp[intOf];omega
 have hkn:k=n:=by omega
 subst hkn
 go_wp2
 go_ret
 refine ⟨_,rfl,?_,hb⟩
 have:=hj.out
 rw[List.take_of_length_le (by rw[HL.out];omega)] at this
 rw[this];decide
theorem aVi {A:Option Addr}{n c:Nat}{l:List FLV}{w:World}(hn:n<=maxLen)(hm:Lm w)(h:RdFl w w.heap.size A n c l) :
  Calls Tryz.prog 73 #[.slice A n c,.func (.func 74) #[] #[]] w (BoolBelow (l.any fun f=>!treeOk f.files) w):=by
 have C:=aYf hn hm h
 go_enter Tryz.func73,Tryz.ntmps73
 go_wp2_with fail
 refine C.mono ?_
 rintro e w' ⟨r,rfl,hr,hb'⟩
 clear C
 go_wp2
 go_ret
 exact ⟨aAf (by rw[<-hr]),hb'⟩
theorem aVk (o:Int)(v:Value)(x:Int)(g:Nat)(w:World)(hg:w.cell? ⟨g,0,none⟩=some (.int .i64 x))(hgl:g<w.heap.size) :
  Calls Tryz.prog 111 #[.agg #[.int .i64 o,v],.pointer (some ⟨g,0,none⟩)] w (BoolBelow (decide (o=x)) w):=by
 have h1:(w.alloc (.cells #[.int .i64 o,v] 52)).cell? ⟨g,0,none⟩=some (.int .i64 x):=by rw[((Below.refl w.heap.size w).alloc (Nat.le_refl _) _).cell (p:=⟨g,0,none⟩) hgl];exact hg
 have hbd:Below w.heap.size w (w.alloc (.cells #[.int .i64 o,v] 52)):=(Below.refl _ _).alloc (Nat.le_refl _) _
 go_enter Tryz.func111,Tryz.ntmps111
 go_wp2
 go_ret
 refine ⟨aAf ?_,hbd⟩
 by_cases h:o=x<;>simp[h]
def SetAt (s:List STV)(x:Int)(w:World)(e:Ending) (w':World):Prop:=
 ∃r:Int,e=.returned (.int .i64 r)/\((r=-1/\settledF (s.map STV.pl) x=none)\/∃(k:Nat) (f:STV),r=k/\s[k]? = some f/\settledF (s.map STV.pl) x=some f.pl)/\Below w.heap.size w w'
theorem bAl {s:List STV}{x:Int}{k:Nat}{f:STV}(hx:s[k]? = some f)(hf:f.commit=x)(hj:∀g∈s.take k,g.commit≠x):settledF (s.map STV.pl) x=some f.pl:=by
 unfold settledF
 have hs:s=s.take k++f::s.drop (k+1):=by
  obtain ⟨hk,e⟩:=List.getElem?_eq_some_iff.1 hx
  have h:=(List.take_append_drop k s).symm
  rw[List.drop_eq_getElem_cons hk,e] at h
  exact h
 rw[hs,List.map_append,List.map_cons,List.find?_append,List.find?_cons]
 have h1:((s.take k).map STV.pl).find? (fun y=>decide (y.commit=x))=none:=by
  rw[List.find?_eq_none]
  intro y hy
  obtain ⟨g,hg,rfl⟩:=List.mem_map.1 hy
  exact fun h=>hj g hg (of_decide_eq_true h)
 rw[h1]
 simp[STV.pl,hf]
theorem aZd {s:List STV}{x:Int}(hj:∀g∈s,g.commit≠x):settledF (s.map STV.pl) x=none:=by
 unfold settledF
 rw[List.find?_eq_none]
 intro y hy
 obtain ⟨g,hg,rfl⟩:=List.mem_map.1 hy
 exact fun h=>hj g hg (of_decide_eq_true h)
theorem aZz {A:Option Addr}{n c:Nat}{s:List STV}{x:Int}{g:Nat}{w:World}(hn:n<=maxLen)(h:RdS w w.heap.size A n c s)(hg:w.cell? ⟨g,0,none⟩=some (.int .i64 x))(hgl:g<w.heap.size) :
  Calls Tryz.prog 110 #[.slice A n c,.func (.func 111) #[] #[.pointer (some ⟨g,0,none⟩)]] w (SetAt s x w):=by
 unfold maxLen at hn
 have HL:=hid h.len
 go_enter Tryz.func110,Tryz.ntmps110
 go_wp2
 go_loopw[5,8] (fun _ i wr=>∃k:Nat,k<=n/\i=.int .i64 k/\Below w.heap.size w wr/\Hid (∀g∈s.take k,g.commit≠x)) (fun _ i _=>n-(intOf i).toNat)
 case atStart=>exact ⟨0,Nat.zero_le _,rfl,Below.refl _ _,by rw[List.take_zero];intro g hg;cases hg⟩
 obtain ⟨k,hk,rfl,hb,hj⟩:=hrel
 by_cases hlt:k<n
 ·obtain ⟨b0,o0,u,rfl,hbb,hx,hu,h0,h1⟩:=h.get hlt
  replace h0:=(hb.cell hbb).trans h0
  replace h1:=(hb.cell hbb).trans h1
  have HX:=hid hx;clear hx
  have hcall:=aVk u.commit (.slice u.A u.files.length u.c) x g wr ((hb.cell (p:=⟨g,0,none⟩) hgl).trans hg) (Nat.lt_of_lt_of_le hgl hb.size)
  cases hq:decide (u.commit=x) with
  | true=>
   rw[hq] at hcall
   have HS:=hid (bAl HX.out (of_decide_eq_true hq) hj.out)
   clear hq
   go_wp2_with fail
   refine hcall.mono ?_
   rintro e w' ⟨rfl,hb'⟩
   clear hcall
   go_wp2
   go_ret
   exact ⟨_,rfl,.inr ⟨k,u,rfl,HX.out,HS.out⟩,hb.trans (hb'.mono hb.size)⟩
  | false=>
   rw[hq] at hcall
   have HS:=hid (show ∀g∈s.take (k+1),g.commit≠x from fun g hg=>by
    rw[List.take_add_one,HX.out] at hg
    rcases List.mem_append.1 hg with hg | hg
    ·exact hj.out g hg
    simp at hg;subst hg;exact of_decide_eq_false hq)
   clear hq
   go_wp2_with fail
   refine hcall.mono ?_
   rintro e w' ⟨rfl,hb'⟩
   clear hcall
   go_wp2
   go_roundw
   case rel=>exact ⟨k+1,by omega,by go_num,hb.trans (hb'.mono hb.size),HS.out⟩
   simp[intOf];omega
 have hkn:k=n:=by omega
 subst hkn
 have HS:=hid (show settledF (s.map STV.pl) x=none from aZd (by have:=hj.out;rwa [List.take_of_length_le (by rw[HL.out];omega)] at this))
 go_wp2
 go_ret
 exact ⟨_,rfl,.inl ⟨rfl,HS.out⟩,hb⟩
end Go.Proofs.YtohblmepajhpaaaGreatDoor
