/- Texts of the walks, together: Walk: merge3.Merge: three texts in one. Walk: merge3.Merge: three texts in one. Walks: similar.Ratio, similar.lone. Walks: slices.IndexFunc, slices.DeleteFunc of ints, at the functions that similar hands in. -/
import Derived.Test.YtohblmepajhpaaaGreatDoorG06
import Derived.Test.YtohblmepajhpaaaGreatDoorG12
set_option maxHeartbeats 8000000
set_option maxRecDepth 100000
open Go.Lib (hid)
namespace Go.Proofs.YtohblmepajhpaaaGreatDoor
open Go.RowKit
theorem aPu {f:KV->List ByteArray}{L:List KV}{c:KV}(hc:c∈L):(catF (f c)).length<=(catF (L.flatMap f)).length/\(f c).length<=(L.flatMap f).length:=by
 obtain ⟨a,b,rfl⟩:=List.append_of_mem hc
 rw[List.flatMap_append,List.flatMap_cons,aBx,aBx]
 simp only[List.length_append]
 omega
theorem aQf {f:KV->List ByteArray}(L:List KV)(k:Nat):bytesF ((L.take k).flatMap f)<=bytesF (L.flatMap f):=by
 have:(L.take k).flatMap f++(L.drop k).flatMap f=L.flatMap f:=by rw[<-List.flatMap_append,List.take_append_drop]
 unfold bytesF
 rw[<-this,aBx,List.length_append];omega
theorem aZx (L:List KV)(k:Nat):clashN (L.take k)<=clashN L:=by
 have:L.take k++L.drop k=L:=List.take_append_drop _ _
 rw[<-this,aIx,this];omega
theorem aJv:∀(L:List KV),(catF (mergedF L)).length<=(catF (L.flatMap KV.ours)).length+(catF (L.flatMap KV.theirs)).length/\(mergedF L).length<=(L.flatMap KV.ours).length+(L.flatMap KV.theirs).length
 | []=>⟨by simp[mergedF,catF],by simp[mergedF]⟩
 | c::L=>by
  obtain ⟨h1,h2⟩:=aJv L
  have e:mergedF (c::L)=(if c.kind=3 then c.theirs else c.ours)++mergedF L:=by simp[mergedF]
  rw[e,aBx,List.flatMap_cons,List.flatMap_cons,aBx,aBx]
  simp only[List.length_append]
  split<;>omega
structure Few3 (b o t:ByteArray) (L:List KV):Prop where
 each:∀c∈L,((catF c.base).length<=100000/\(catF c.ours).length<=100000/\(catF c.theirs).length<=100000)/\c.base.length<=100000/\c.ours.length<=100000/\c.theirs.length<=100000
 fold:∀k,((L.take k).foldl clashTextF []).length<=320000
 all:(catF (mergedF L)).length<=200000/\(mergedF L).length<=200000
theorem few3 {b o t:ByteArray}(hb:b.size<=100000)(ho:o.size<=100000)(ht:t.size<=100000):Few3 b o t (chunksF (linesF b) (linesF o) (linesF t)):=by
 obtain ⟨e1,e2,e3⟩:=aFq (linesF b) (linesF o) (linesF t)
 have l1:=aCa b
 have l2:=aCa o
 have l3:=aCa t
 have c1:(catF (linesF b)).length=b.size:=by rw[aCe];rfl
 have c2:(catF (linesF o)).length=o.size:=by rw[aCe];rfl
 have c3:(catF (linesF t)).length=t.size:=by rw[aCe];rfl
 have hcl:=aFb (linesF b) (linesF o) (linesF t)
 generalize chunksF (linesF b) (linesF o) (linesF t)=L at *
 refine ⟨fun c hc=>?_,fun k=>?_,?_⟩
 ·have h1:=aPu (f:=KV.base) hc
  have h2:=aPu (f:=KV.ours) hc
  have h3:=aPu (f:=KV.theirs) hc
  rw[e1] at h1
  rw[e2] at h2
  rw[e3] at h3
  exact ⟨⟨by omega,by omega,by omega⟩,by omega,by omega,by omega⟩
 ·have h:=aQl (L.take k) []
  have h1:=aQf (f:=KV.base) L k
  have h2:=aQf (f:=KV.ours) L k
  have h3:=aQf (f:=KV.theirs) L k
  have h4:=aZx L k
  rw[e1] at h1
  rw[e2] at h2
  rw[e3] at h3
  unfold bytesF at *
  simp only[List.length_nil] at h
  omega
 have h:=aJv L
 rw[e2,e3] at h
 exact ⟨by omega,by omega⟩
theorem aYk (b o t:List ByteArray):(chunksF b o t).length<=2*b.length+1:=by
 obtain ⟨i,b0,o0,t0,L,hO,hi⟩:∃i b0 o0 t0 L,OfAt b o t i b0 o0 t0 L/\b.length<=i:=by
  have step:∀(m i b0 o0 t0:Nat) (L:List KV),b.length<=i+m->OfAt b o t i b0 o0 t0 L->∃i b0 o0 t0 L,OfAt b o t i b0 o0 t0 L/\b.length<=i:=by
   intro m
   induction m with
   | zero=>intro i b0 o0 t0 L h hO;exact ⟨i,b0,o0,t0,L,hO,by omega⟩
   | succ m ih=>
    intro i b0 o0 t0 L h hO
    rcases Nat.lt_or_ge i b.length with hlt | hge
    ·by_cases hs:(keptAt b o i).isSome=true/\(keptAt b t i).isSome=true
     ·obtain ⟨x,hx⟩:=Option.isSome_iff_exists.1 hs.1
      obtain ⟨y,hy⟩:=Option.isSome_iff_exists.1 hs.2
      have hex:∀m n,1<=n->RunTo b o t i x y n->b.length<=i+n+m->∃n,1<=n/\RunTo b o t i x y n/\¬(keptAt b o (i+n)=some (x+n)/\keptAt b t (i+n)=some (y+n)):=by
       intro m
       induction m with
       | zero=>intro n hn hr hl;exact ⟨n,hn,hr,fun e=>by have:=aCq e.1;omega⟩
       | succ m ih2=>
        intro n hn hr hl
        by_cases e:keptAt b o (i+n)=some (x+n)/\keptAt b t (i+n)=some (y+n)
        ·refine ih2 (n+1) (by omega) (fun k hk=>?_) (by omega)
         rcases Nat.lt_or_ge k n with h | h
         ·exact hr k h
         rw[show k=n by omega];exact e
        exact ⟨n,hn,hr,e⟩
      obtain ⟨n,hn,hr,hst⟩:=hex b.length 1 (Nat.le_refl _) (fun k hk=>by rw[show k=0 by omega];exact ⟨hx,hy⟩) (by omega)
      exact ih _ _ _ _ _ (by omega) (hO.run (by omega) hr hst).1
     exact ih _ _ _ _ _ (by omega) (hO.skip hlt hs)
    exact ⟨i,b0,o0,t0,L,hO,hge⟩
  exact step b.length 0 0 0 0 [] (by omega) (OfAt.start b o t)
 have h1:=hO.last hi
 have h2:=hO.len
 have h3:=hO.hi
 have hbl:(betweenF (sliceF b b0 b.length) (sliceF o o0 o.length) (sliceF t t0 t.length)).length<=1:=by unfold betweenF;split<;>simp
 rw[h1,List.length_append]
 omega
theorem aBs {b o t:ByteArray}{w:World}(hm:Lm w)(hb:b.size<=100000)(ho:o.size<=100000)(ht:t.size<=100000) :
  Calls Tryz.prog 156 #[.string b,.string o,.string t] w fun e w'=>e=.returned (.tuple #[.string (merge3F b o t).1,.bool (merge3F b o t).2])/\Below w.heap.size w w':=by
 have HFW:=hid (few3 hb ho ht)
 have hlb:=aCa b
 have hlo:=aCa o
 have hlt:=aCa t
 have HLN:=hid (aYk (linesF b) (linesF o) (linesF t))
 have HM3:=hid (show merge3F b o t=if cleanF (chunksF (linesF b) (linesF o) (linesF t))=true then (joinF (mergedF (chunksF (linesF b) (linesF o) (linesF t))),true) else (ofB ((chunksF (linesF b) (linesF o) (linesF t)).foldl clashTextF []),false) from rfl)
 generalize merge3F b o t=R3 at *
 have K1:=aFx (s:=b) (by omega) hm
 go_enter Tryz.func156,Tryz.ntmps156
 go_wp2_with fail
 refine K1.mono ?_
 rintro e w1 ⟨A1,c1,rfl,hr1,hb1⟩
 have hm1:=hm.below hb1 hm.lt
 have K2:=aFx (s:=o) (w:=w1) (by omega) hm1
 go_wp2_with fail
 refine K2.mono ?_
 rintro e w2 ⟨A2,c2,rfl,hr2,hb2⟩
 have hm2:=hm1.below hb2 hm1.lt
 have K3:=aFx (s:=t) (w:=w2) (by omega) hm2
 go_wp2_with fail
 refine K3.mono ?_
 rintro e w3 ⟨A3,c3,rfl,hr3,hb3⟩
 have K4:=bJa (w:=w3) (by omega) (by omega) (by omega) ((hr1.to hb2 hb2.size).to hb3 hb3.size) (hr2.to hb3 hb3.size) hr3
 have HB3:=hid ((hb1.trans (hb2.mono hb1.size)).trans (hb3.mono (Nat.le_trans hb1.size hb2.size)))
 clear K1 K2 K3 hr1 hr2 hr3 hb1 hb2 hb3 hm1 hm2
 go_wp2_with fail
 refine K4.mono ?_
 rintro e w4 ⟨A4,c4,H4,rfl,hr4,hk4,hb4⟩
 have HB4:=hid (HB3.out.trans (hb4.mono HB3.out.size))
 have HK:=hid (show RdK w4 w4.heap.size A4 c4 (chunksF (linesF b) (linesF o) (linesF t)) from ⟨H4,hr4,hk4⟩)
 clear K4 hr4 hk4 hb4 HB3
 generalize chunksF (linesF b) (linesF o) (linesF t)=L at *
 have hLl:L.length<=300000:=by have:=HLN.out;omega
 have K5:=bBk (by omega) HK.out
 go_wp2_with fail
 refine K5.mono ?_
 rintro e w5 ⟨rfl,hb5⟩
 have HB5:=hid (HB4.out.trans (hb5.mono HB4.out.size))
 have HK:=hid (HK.out.to hb5)
 clear K5 hb5 HB4
 by_cases hcl:cleanF L=true
 ·have HR3:=hid (HM3.out.trans (if_pos hcl))
  rw[hcl]
  have hal:=HFW.out.all
  have K6:=aOo (by omega) (by omega) HK.out
  clear hcl HM3
  go_wp2_with fail
  refine K6.mono ?_
  rintro e w6 ⟨A6,c6,rfl,hr6,hb6⟩
  have HB6:=hid (HB5.out.trans (hb6.mono HB5.out.size))
  have K7:=aWs (by omega) hr6 (by rw[<-aCg,aIt];omega)
  clear K6 hb6 hr6
  go_wp2_with fail
  refine K7.mono ?_
  rintro e w7 ⟨rfl,hb7⟩
  have HB7:=hid (HB6.out.trans (hb7.mono HB6.out.size))
  clear K7 hb7
  go_wp2
  go_ret2
  exact ⟨by rw[HR3.out];rfl,HB7.out⟩
 have HR3:=hid (HM3.out.trans (if_neg hcl))
 have hcl2:cleanF L=false:=by simpa using hcl
 rw[hcl2]
 clear hcl hcl2 HM3
 have hbx:Below w5.heap.size w5 (w5.alloc (.cells #[.pointer none,.slice none 0 0] 245)):=(Below.refl _ _).alloc (Nat.le_refl _) _
 have HBX:=hid hbx
 have hnew:=heap_alloc_new w5 (.cells #[.pointer none,.slice none 0 0] 245)
 have HTX:Hid (Txt w5.heap.size w5.heap.size [] (w5.alloc (.cells #[.pointer none,.slice none 0 0] 245))):=
  .inl ⟨⟨Nat.le_refl _,_,hnew,⟨by simp[Lib.byteCells],.inl ⟨rfl,rfl⟩⟩,by simp[Value.ownBlock]⟩,fun _=>by rw[Lib.cell_of_heap hnew];rfl⟩
 have HBW:=hid (HB5.out.trans (hbx.mono HB5.out.size))
 have HWS0:=hid (show w5.heap.size<(w5.alloc (.cells #[.pointer none,.slice none 0 0] 245)).heap.size by simp)
 clear hbx hnew
 go_wp2
 generalize w5.alloc (.cells #[.pointer none,.slice none 0 0] 245)=W at *
 obtain ⟨tb,htb⟩:∃tb,tb=w5.heap.size:=⟨_,rfl⟩
 have HWS:=hid (show w5.heap.size<W.heap.size from HWS0.out)
 rw[<-htb] at HTX HBX HWS ⊢
 have HB5S:=hid (show w.heap.size<=tb by rw[htb];exact HB5.out.size)
 have HK:=hid (show RdK w5 tb A4 c4 L by rw[htb];exact HK.out)
 have HKR:=hid (show ∀(i:Nat) (k:KV),L[i]? = some k->∃b o A0 c0 A1 c1 A2 c2,A4=some ⟨b,o,none⟩/\b<tb/\w5.cell? ⟨b,o+i*4,none⟩=some (.int .i64 k.kind)/\w5.cell? ⟨b,o+i*4+1,none⟩=some (.slice A0 k.base.length c0)/\w5.cell? ⟨b,o+i*4+2,none⟩=some (.slice A1 k.ours.length c1)/\w5.cell? ⟨b,o+i*4+3,none⟩=some (.slice A2 k.theirs.length c2)/\
  Rd w5 tb 1 A0 k.base.length c0 (k.base.map .string)/\Rd w5 tb 1 A1 k.ours.length c1 (k.ours.map .string)/\Rd w5 tb 1 A2 k.theirs.length c2 (k.theirs.map .string) by rw[htb];rw[htb] at HK;exact fun i k h=>HK.out.at_ h)
 clear htb HK
 go_loopw[28] (fun t28 wr=>∃k:Nat,k<=L.length/\t28=.int .i64 k/\Hid (Below w.heap.size w wr)/\Hid (Below tb w5 wr)/\Hid (Txt tb tb ((L.take k).foldl clashTextF []) wr)/\tb<wr.heap.size) (fun t28 _=>L.length-(intOf t28).toNat)
 case atStart=>exact ⟨0,Nat.zero_le _,rfl,HBW,HBX,HTX,HWS.out⟩
 clear HBW HBX HTX
 obtain ⟨k,hk,rfl,HBW,HBX,HTX,htw⟩:=hrel
 have hfold:=HFW.out.fold k
 by_cases hltk:k<L.length
 ·obtain ⟨⟨kd,Lb,Lo,Lt⟩,hc⟩:∃c,L[k]? = some c:=⟨_,List.getElem?_eq_getElem hltk⟩
  obtain ⟨b0,o0,A0,c0,A1,c1,A2,c2,rfl,hbb,q0,q1,q2,q3,r0,r1,r2⟩:=HKR.out k _ hc
  dsimp only at q0 q1 q2 q3 r0 r1 r2
  replace q0:=(HBX.out.cell (p:=⟨b0,o0+k*4,none⟩) hbb).trans q0
  replace q1:=(HBX.out.cell (p:=⟨b0,o0+k*4+1,none⟩) hbb).trans q1
  replace q2:=(HBX.out.cell (p:=⟨b0,o0+k*4+2,none⟩) hbb).trans q2
  replace q3:=(HBX.out.cell (p:=⟨b0,o0+k*4+3,none⟩) hbb).trans q3
  have hec:=HFW.out.each _ (List.mem_of_getElem? hc)
  dsimp only at hec
  have HFO:=hid (show (L.take (k+1)).foldl clashTextF []=clashTextF ((L.take k).foldl clashTextF []) ⟨kd,Lb,Lo,Lt⟩ by rw[List.take_add_one,hc];simp)
  clear hc
  generalize (L.take k).foldl clashTextF []=S at *
  have hba:Below wr.heap.size wr (wr.alloc (.cells #[.int .i64 kd,.slice A0 Lb.length c0,.slice A1 Lo.length c1,.slice A2 Lt.length c2] 143)):=(Below.refl _ _).alloc (Nat.le_refl _) _
  have HCC:=hid (heap_alloc_new wr (.cells #[.int .i64 kd,.slice A0 Lb.length c0,.slice A1 Lo.length c1,.slice A2 Lt.length c2] 143))
  have HBW:=hid (HBW.out.trans (hba.mono (by have:=HB5S.out;omega)))
  have HBX:=hid (HBX.out.trans (hba.mono (Nat.le_of_lt htw)))
  have HTX:=hid (HTX.out.below hba)
  have HGT:=hid (Nat.ne_of_gt htw)
  have htw:=Nat.lt_of_lt_of_le htw hba.size
  clear hba
  by_cases hkd:kd=5
  ·subst hkd
   have HNX:Hid ((L.take (k+1)).foldl clashTextF []=endedF (endedF (endedF (endedF S++markO++catF Lo)++markB++catF Lb)++markT++catF Lt)++markE):=HFO.out.trans (by unfold clashTextF;rw[if_neg (by simp)])
   obtain ⟨⟨hz0,hz1,hz2⟩,hn0,hn1,hn2⟩:=hec
   have hen:∀s:Bs,(endedF s).length<=s.length+1:=aFj
   have hmk:∀m,m<=3->(markS m).data.toList.length<=20:=fun m hm=>by
    have:m=0\/m=1\/m=2\/m=3:=by omega
    rcases this with rfl | rfl | rfl | rfl<;>decide
   have HEN:=hid hen
   have HMK:=hid hmk
   clear hen hmk
   have K20:=aHr (k:=1) HTX.out (Nat.le_of_lt htw) (by omega) (by omega)
   have hlen20:(endedF S++(markS 1).data.toList).length<=320000+21:=by
    have h1:=HEN.out S
    have h2:=HMK.out 1 (by omega)
    rw[List.length_append];omega
   go_wp2_with fail
   refine K20.mono ?_
   rintro e v20 ⟨rfl,htx,hbx,hkx⟩
   have HBW:=hid (HBW.out.trans (hbx.mono HB5S.out))
   have HBX:=hid (HBX.out.trans hbx)
   have HTX:=hid htx
   have HCC:=hid (hkx _ _ HCC.out (fun e=>by injection e with e;exact HGT.out e) (fun _ _ e=>by injection e with _ e _;exact absurd e (by decide)))
   have htw:=Nat.lt_of_lt_of_le htw hbx.size
   clear K20 htx hbx hkx
   obtain ⟨Y20,hY20⟩:∃Y,Y=(endedF S++(markS 1).data.toList):=⟨_,rfl⟩
   rw[<-hY20] at HTX hlen20
   have HY20:=hid hY20
   clear hY20
   have cc21:v20.cell? ⟨wr.heap.size,2,none⟩=some (.slice A1 Lo.length c1):=by rw[Lib.cell_of_heap HCC.out];rfl
   have K21:=aLd HTX.out (Nat.le_of_lt htw) (by omega) (r1.to HBX.out (Nat.le_of_lt htw)) (by omega)
   have hlen21:(Y20++catF Lo).length<=320021+100000:=by rw[List.length_append];omega
   go_wp2_with fail
   refine K21.mono ?_
   rintro e v21 ⟨rfl,htx,hbx,hkx⟩
   have HBW:=hid (HBW.out.trans (hbx.mono HB5S.out))
   have HBX:=hid (HBX.out.trans hbx)
   have HTX:=hid htx
   have HCC:=hid (hkx _ _ HCC.out (fun e=>by injection e with e;exact HGT.out e) (fun _ _ e=>by injection e with _ e _;exact absurd e (by decide)))
   have htw:=Nat.lt_of_lt_of_le htw hbx.size
   clear K21 htx hbx hkx
   obtain ⟨Y21,hY21⟩:∃Y,Y=(Y20++catF Lo):=⟨_,rfl⟩
   rw[<-hY21] at HTX hlen21
   have HY21:=hid hY21
   clear hY21
   have K22:=aHr (k:=2) HTX.out (Nat.le_of_lt htw) (by omega) (by omega)
   have hlen22:(endedF Y21++(markS 2).data.toList).length<=420021+21:=by
    have h1:=HEN.out Y21
    have h2:=HMK.out 2 (by omega)
    rw[List.length_append];omega
   go_wp2_with fail
   refine K22.mono ?_
   rintro e v22 ⟨rfl,htx,hbx,hkx⟩
   have HBW:=hid (HBW.out.trans (hbx.mono HB5S.out))
   have HBX:=hid (HBX.out.trans hbx)
   have HTX:=hid htx
   have HCC:=hid (hkx _ _ HCC.out (fun e=>by injection e with e;exact HGT.out e) (fun _ _ e=>by injection e with _ e _;exact absurd e (by decide)))
   have htw:=Nat.lt_of_lt_of_le htw hbx.size
   clear K22 htx hbx hkx
   obtain ⟨Y22,hY22⟩:∃Y,Y=(endedF Y21++(markS 2).data.toList):=⟨_,rfl⟩
   rw[<-hY22] at HTX hlen22
   have HY22:=hid hY22
   clear hY22
   have cc23:v22.cell? ⟨wr.heap.size,1,none⟩=some (.slice A0 Lb.length c0):=by rw[Lib.cell_of_heap HCC.out];rfl
   have K23:=aLd HTX.out (Nat.le_of_lt htw) (by omega) (r0.to HBX.out (Nat.le_of_lt htw)) (by omega)
   have hlen23:(Y22++catF Lb).length<=420042+100000:=by rw[List.length_append];omega
   go_wp2_with fail
   refine K23.mono ?_
   rintro e v23 ⟨rfl,htx,hbx,hkx⟩
   have HBW:=hid (HBW.out.trans (hbx.mono HB5S.out))
   have HBX:=hid (HBX.out.trans hbx)
   have HTX:=hid htx
   have HCC:=hid (hkx _ _ HCC.out (fun e=>by injection e with e;exact HGT.out e) (fun _ _ e=>by injection e with _ e _;exact absurd e (by decide)))
   have htw:=Nat.lt_of_lt_of_le htw hbx.size
   clear K23 htx hbx hkx
   obtain ⟨Y23,hY23⟩:∃Y,Y=(Y22++catF Lb):=⟨_,rfl⟩
   rw[<-hY23] at HTX hlen23
   have HY23:=hid hY23
   clear hY23
   have K24:=aHr (k:=3) HTX.out (Nat.le_of_lt htw) (by omega) (by omega)
   have hlen24:(endedF Y23++(markS 3).data.toList).length<=520042+21:=by
    have h1:=HEN.out Y23
    have h2:=HMK.out 3 (by omega)
    rw[List.length_append];omega
   go_wp2_with fail
   refine K24.mono ?_
   rintro e v24 ⟨rfl,htx,hbx,hkx⟩
   have HBW:=hid (HBW.out.trans (hbx.mono HB5S.out))
   have HBX:=hid (HBX.out.trans hbx)
   have HTX:=hid htx
   have HCC:=hid (hkx _ _ HCC.out (fun e=>by injection e with e;exact HGT.out e) (fun _ _ e=>by injection e with _ e _;exact absurd e (by decide)))
   have htw:=Nat.lt_of_lt_of_le htw hbx.size
   clear K24 htx hbx hkx
   obtain ⟨Y24,hY24⟩:∃Y,Y=(endedF Y23++(markS 3).data.toList):=⟨_,rfl⟩
   rw[<-hY24] at HTX hlen24
   have HY24:=hid hY24
   clear hY24
   have cc25:v24.cell? ⟨wr.heap.size,3,none⟩=some (.slice A2 Lt.length c2):=by rw[Lib.cell_of_heap HCC.out];rfl
   have K25:=aLd HTX.out (Nat.le_of_lt htw) (by omega) (r2.to HBX.out (Nat.le_of_lt htw)) (by omega)
   have hlen25:(Y24++catF Lt).length<=520063+100000:=by rw[List.length_append];omega
   go_wp2_with fail
   refine K25.mono ?_
   rintro e v25 ⟨rfl,htx,hbx,hkx⟩
   have HBW:=hid (HBW.out.trans (hbx.mono HB5S.out))
   have HBX:=hid (HBX.out.trans hbx)
   have HTX:=hid htx
   have HCC:=hid (hkx _ _ HCC.out (fun e=>by injection e with e;exact HGT.out e) (fun _ _ e=>by injection e with _ e _;exact absurd e (by decide)))
   have htw:=Nat.lt_of_lt_of_le htw hbx.size
   clear K25 htx hbx hkx
   obtain ⟨Y25,hY25⟩:∃Y,Y=(Y24++catF Lt):=⟨_,rfl⟩
   rw[<-hY25] at HTX hlen25
   have HY25:=hid hY25
   clear hY25
   have K26:=aHr (k:=0) HTX.out (Nat.le_of_lt htw) (by omega) (by omega)
   have hlen26:(endedF Y25++(markS 0).data.toList).length<=620063+21:=by
    have h1:=HEN.out Y25
    have h2:=HMK.out 0 (by omega)
    rw[List.length_append];omega
   go_wp2_with fail
   refine K26.mono ?_
   rintro e v26 ⟨rfl,htx,hbx,hkx⟩
   have HBW:=hid (HBW.out.trans (hbx.mono HB5S.out))
   have HBX:=hid (HBX.out.trans hbx)
   have HTX:=hid htx
   have HCC:=hid (hkx _ _ HCC.out (fun e=>by injection e with e;exact HGT.out e) (fun _ _ e=>by injection e with _ e _;exact absurd e (by decide)))
   have htw:=Nat.lt_of_lt_of_le htw hbx.size
   clear K26 htx hbx hkx
   obtain ⟨Y26,hY26⟩:∃Y,Y=(endedF Y25++(markS 0).data.toList):=⟨_,rfl⟩
   rw[<-hY26] at HTX hlen26
   have HY26:=hid hY26
   clear hY26
   have HFIN:Hid ((L.take (k+1)).foldl clashTextF []=Y26):=by
    unfold Hid
    rw[HNX.out,HY26.out,HY25.out,HY24.out,HY23.out,HY22.out,HY21.out,HY20.out]
    rfl
   go_wp2
   go_roundw
   case rel=>exact ⟨k+1,by omega,by go_num,HBW,HBX,by rw[HFIN.out];exact HTX,htw⟩
   simp[intOf];omega
  have HNX:Hid ((L.take (k+1)).foldl clashTextF []=S++catF (mergedF [⟨kd,Lb,Lo,Lt⟩])):=HFO.out.trans (by unfold clashTextF;rw[if_pos hkd])
  have hMk:(mergedF [(⟨kd,Lb,Lo,Lt⟩:KV)]).length<=100000/\(catF (mergedF [(⟨kd,Lb,Lo,Lt⟩:KV)])).length<=100000:=by
   rw[show mergedF [(⟨kd,Lb,Lo,Lt⟩:KV)]=if kd=3 then Lt else Lo by simp[mergedF]]
   split<;>exact ⟨by omega,by omega⟩
  generalize hU:wr.alloc (.cells #[.int .i64 kd,.slice A0 Lb.length c0,.slice A1 Lo.length c1,.slice A2 Lt.length c2] 143)=U at *
  have HLK:Hid (RdK (U.alloc (.cells #[.int .i64 kd,.slice A0 Lb.length c0,.slice A1 Lo.length c1,.slice A2 Lt.length c2] 143)) (U.alloc (.cells #[.int .i64 kd,.slice A0 Lb.length c0,.slice A1 Lo.length c1,.slice A2 Lt.length c2] 143)).heap.size (some ⟨U.heap.size,0,none⟩) 1 [⟨kd,Lb,Lo,Lt⟩]):=by
   have hbl:Below U.heap.size U (U.alloc (.cells #[.int .i64 kd,.slice A0 Lb.length c0,.slice A1 Lo.length c1,.slice A2 Lt.length c2] 143)):=(Below.refl _ _).alloc (Nat.le_refl _) _
   have hb2:=HBX.out.trans (hbl.mono (Nat.le_of_lt htw))
   refine ⟨[[.int .i64 kd,.slice A0 Lb.length c0,.slice A1 Lo.length c1,.slice A2 Lt.length c2]],?_,⟨A0,c0,A1,c1,A2,c2,rfl,⟨r0.to hb2 (Nat.le_trans (Nat.le_of_lt htw) hbl.size),fun _ _ _ h=>by cases h⟩,⟨r1.to hb2 (Nat.le_trans (Nat.le_of_lt htw) hbl.size),fun _ _ _ h=>by cases h⟩,⟨r2.to hb2 (Nat.le_trans (Nat.le_of_lt htw) hbl.size),fun _ _ _ h=>by cases h⟩⟩,trivial⟩
   simpa using aOx U (.int .i64 kd) (.slice A0 Lb.length c0) (.slice A1 Lo.length c1) (.slice A2 Lt.length c2)
  have hbl:Below U.heap.size U (U.alloc (.cells #[.int .i64 kd,.slice A0 Lb.length c0,.slice A1 Lo.length c1,.slice A2 Lt.length c2] 143)):=(Below.refl _ _).alloc (Nat.le_refl _) _
  have HBW:=hid (HBW.out.trans (hbl.mono (by have:=HB5S.out;omega)))
  have HBX:=hid (HBX.out.trans (hbl.mono (Nat.le_of_lt htw)))
  have HTX:=hid (HTX.out.below hbl)
  have htw:=Nat.lt_of_lt_of_le htw hbl.size
  have K9:=aOo (L:=[⟨kd,Lb,Lo,Lt⟩]) (by simp) (by omega) HLK.out
  generalize mergedF [(⟨kd,Lb,Lo,Lt⟩:KV)]=Mc at *
  subst hU
  rw[show (wr.alloc (.cells #[.int .i64 kd,.slice A0 Lb.length c0,.slice A1 Lo.length c1,.slice A2 Lt.length c2] 143)).heap.size=wr.heap.size+1 by simp] at K9
  simp only[List.length_singleton] at K9
  go_wp2_with fail
  refine K9.mono ?_
  rintro e w9 ⟨A9,c9,rfl,hr9,hb9⟩
  have HBW:=hid (HBW.out.trans (hb9.mono (by have:=HB5S.out;omega)))
  have HBX:=hid (HBX.out.trans (hb9.mono (Nat.le_of_lt htw)))
  have HTX:=hid (HTX.out.below hb9)
  have htw:=Nat.lt_of_lt_of_le htw hb9.size
  have K10:=aLd HTX.out (Nat.le_of_lt htw) (by omega) hr9 (by omega)
  clear K9 hb9 hr9 hbl
  go_wp2_with fail
  refine K10.mono ?_
  rintro e w10 ⟨rfl,ht10,hb10,_⟩
  have HBW:=hid (HBW.out.trans (hb10.mono HB5S.out))
  have HBX:=hid (HBX.out.trans hb10)
  have HTX:=hid ht10
  have htw:=Nat.lt_of_lt_of_le htw hb10.size
  clear K10 ht10 hb10
  go_wp2
  go_roundw
  case rel=>exact ⟨k+1,by omega,by go_num,HBW,HBX,by rw[HNX.out];exact HTX,htw⟩
  simp[intOf];omega
 obtain rfl:k=L.length:=by omega
 rw[List.take_of_length_le (Nat.le_refl _)] at HTX
 have K8:=bDo HTX.out
 go_wp2_with fail
 refine K8.mono ?_
 rintro e w9 ⟨rfl,_,hb9,_⟩
 have HB9:=hid (HBW.out.trans (hb9.mono HB5S.out))
 clear K8 hb9
 go_wp2
 go_ret2
 exact ⟨by rw[HR3.out];rfl,HB9.out⟩
theorem bCk {a b:ByteArray}{w:World}(hm:Lm w)(ha:a.size<=1000000)(hb:b.size<=1000000) :
  Calls Tryz.prog 209 #[.string a,.string b] w fun e w'=>e=.returned (.int .i64 (ratioF a b))/\Below w.heap.size w w':=by
 have hla:=aCa a
 have hlb:=aCa b
 have HRF:=hid (show ratioF a b=if 400<(linesF a).length\/400<(linesF b).length then 0 else if (linesF a).length+(linesF b).length=0 then 100 else ((200*lcs (linesF a) (linesF b) / ((linesF a).length+(linesF b).length):Nat):Int) from rfl)
 generalize ratioF a b=R at *
 have K1:=aFx (s:=a) (by omega) hm
 go_enter Tryz.func209,Tryz.ntmps209
 go_wp2_with fail
 refine K1.mono ?_
 rintro e w1 ⟨A1,c1,rfl,hr1,hb1⟩
 have K2:=aFx (s:=b) (w:=w1) (by omega) (hm.below hb1 hm.lt)
 go_wp2_with fail
 refine K2.mono ?_
 rintro e w2 ⟨A2,c2,rfl,hr2,hb2⟩
 have HB:=hid (hb1.trans (hb2.mono hb1.size))
 have HR1:=hid (hr1.to hb2 hb2.size)
 have HR2:=hid hr2
 clear K1 K2 hr1 hr2 hb1 hb2
 have hcl:=aTo (linesF a) (linesF b)
 generalize linesF a=x at *
 generalize linesF b=y at *
 by_cases h1:400<x.length
 ·have HF:=hid (HRF.out.trans (if_pos (.inl h1)))
  go_wp2
  go_ret
  exact ⟨by rw[HF.out];rfl,HB.out⟩
 by_cases h2:400<y.length
 ·have HF:=hid (HRF.out.trans (if_pos (.inr h2)))
  go_wp2
  go_ret
  exact ⟨by rw[HF.out];rfl,HB.out⟩
 by_cases h3:x.length+y.length=0
 ·have HF:=hid (HRF.out.trans ((if_neg (by omega)).trans (if_pos h3)))
  have hx0:x.length=0:=by omega
  have hy0:y.length=0:=by omega
  obtain rfl:=List.length_eq_zero_iff.1 hx0
  obtain rfl:=List.length_eq_zero_iff.1 hy0
  clear h1 h2 h3 hx0 hy0 hcl
  go_wp2
  go_ret
  exact ⟨by rw[HF.out];rfl,HB.out⟩
 have HF:=hid (HRF.out.trans ((if_neg (by omega)).trans (if_neg h3)))
 have K3:=aYx (by omega) (by omega) HR1.out HR2.out
 generalize lcs x y=v at *
 generalize hxl:x.length=nx at *
 generalize hyl:y.length=ny at *
 clear hxl hyl HR1 HR2
 have hnz:¬((nx:Int)+ny=0):=by omega
 have hnz2:((nx:Int)+ny == 0)=false:=by simpa using hnz
 go_wp2_with fail
 refine K3.mono ?_
 rintro e w3 ⟨rfl,hb3⟩
 have HB3:=hid (HB.out.trans (hb3.mono HB.out.size))
 clear K3 hb3
 go_wp2
 go_ret
 exact ⟨by rw[HF.out];push_cast;rfl,HB3.out⟩
def isLone (l other:List FV)(i:Nat):Bool:=match l[i]? with
 | some f=>(findP other f.path).isNone && !decide (f.text=⟨#[]⟩)
 | none=>false
theorem aKq (l other:List FV):loneF l other=(List.range l.length).filter (isLone l other):=rfl
theorem bAn (p:Nat->Bool)(k:Nat):(List.range (k+1)).filter p=(List.range k).filter p++if p k then [k] else []:=by
 rw[List.range_succ,List.filter_append];congr 1
 cases h:p k<;>simp[h]
theorem aTh (p:Nat->Bool)(k:Nat):((List.range k).filter p).length<=k:=by
 have:=List.length_filter_le p (List.range k);simpa using this
def natsV (l:List Nat):List Value:=l.map fun i:Nat=>Value.int .i64 (i:Int)
theorem bHh:Elem Tryz.prog 36 3 1 8:=aBt (by kernel_rfl)
theorem bGh (l:List Nat):∀u∈natsV l,u.oneCell'=true:=by
 intro u hu
 obtain ⟨s,_,rfl⟩:=List.mem_map.1 hu
 rfl
theorem bIj (w:World)(i:Nat):Rd (w.alloc (.cells #[.int .i64 (i:Int)] 3)) (w.alloc (.cells #[.int .i64 (i:Int)] 3)).heap.size 1 (some ⟨w.heap.size,0,none⟩) 1 1 (natsV [i]):=
 ⟨rfl,Nat.le_refl _,fun _=>⟨_,0,rfl,by simp,fun j u hu=>by
  rw[Nat.zero_add,World.cell?,heap_alloc_new]
  simpa[natsV] using hu⟩⟩
theorem bFn (w:World)(g i:Nat)(hg:g=w.heap.size):Rd (w.alloc (.cells #[.int .i64 (i:Int)] 3)) (w.alloc (.cells #[.int .i64 (i:Int)] 3)).heap.size 1 (some ⟨g,0,none⟩) 1 1 (natsV [i]):=by
 subst hg;exact bIj w i
def NatsIs (L:List Nat)(w:World)(e:Ending) (w':World):Prop:=∃v,e=.returned v/\w'.ownsRow w.heap.size 3 1 v L.length (natsV L)/\Below w.heap.size w w'
theorem aHx {A B:Option Addr}{n ca m cb:Nat}{l other:List FV}{w:World}(hn:n<=100000)(hm:m<=100000)(ha:RdF w w.heap.size A n ca l)(hb:RdF w w.heap.size B m cb other) :
  Calls Tryz.prog 169 #[.slice A n ca,.slice B m cb] w (NatsIs (loneF l other) w):=by
 have HL:=hid ha.len
 rw[aKq]
 go_enter Tryz.func169,Tryz.ntmps169
 go_wp2
 go_loopw[5,12] (fun out i wr=>∃k:Nat,k<=n/\i=.int .i64 k/\Hid (Below w.heap.size w wr)/\Hid (wr.ownsRow w.heap.size 3 1 out ((List.range k).filter (isLone l other)).length (natsV ((List.range k).filter (isLone l other))))) (fun _ i _=>n-(intOf i).toNat)
 case atStart=>exact ⟨0,Nat.zero_le _,rfl,hid (Below.refl _ _),World.ownsRow_nil _ _ _ _⟩
 obtain ⟨k,hk,rfl,HB,HO⟩:=hrel
 have hle:=aTh (isLone l other) k
 by_cases hlt:k<n
 ·obtain ⟨b0,o0,f,rfl,hbb,hx,hmem,h0,h1,h2⟩:=ha.get hlt
  replace h0:=(HB.out.cell (p:=⟨b0,o0+k*3,none⟩) (by show b0<_;omega)).trans h0
  replace h1:=(HB.out.cell (p:=⟨b0,o0+k*3+1,none⟩) (by show b0<_;omega)).trans h1
  replace h2:=(HB.out.cell (p:=⟨b0,o0+k*3+2,none⟩) (by show b0<_;omega)).trans h2
  have HST:=hid (bAn (isLone l other) k)
  have HIS:=hid (show isLone l other k=((findP other f.path).isNone && !decide (f.text=⟨#[]⟩)) by unfold isLone;rw[hx])
  clear hx hmem
  obtain ⟨fp,fx,ft⟩:=f
  dsimp only at h0 h1 h2
  have hba:=HB.out.alloc HB.out.size (.cells #[.string fp,.bool fx,.string ft] 48)
  have hoa:=HO.out.alloc (.cells #[.string fp,.bool fx,.string ft] 48)
  have HCB:=hid (heap_alloc_new wr (.cells #[.string fp,.bool fx,.string ft] 48))
  have hlt2:wr.heap.size<(wr.alloc (.cells #[.string fp,.bool fx,.string ft] 48)).heap.size:=by simp
  have KF:=aHj (p:=fp) (by omega) (hb.to hba hba.size)
  have HBA:=hid hba
  have HOA:=hid hoa
  clear hba hoa HB HO
  generalize (List.range k).filter (isLone l other)=P at *
  generalize hpl:P.length=np at *
  have HPL:=hid hpl
  clear hpl
  go_wp2_with fail
  refine KF.mono ?_
  rintro e w1 ⟨rfl,hb1⟩
  have HB1:=hid (HBA.out.trans (hb1.mono HBA.out.size))
  have HO1:=hid (aAg HOA.out hb1)
  have hbox:=(hb1.block _ hlt2).trans HCB.out
  clear KF hb1 HBA HOA HCB hlt2
  generalize optF (findP other fp)=g at *
  obtain ⟨gp,gx,gt⟩:=g
  dsimp only
  generalize wr.heap.size=bx at *
  have k0:w1.cell? ⟨bx,0,none⟩=some (.string fp):=by rw[Lib.cell_of_heap hbox];rfl
  have k2:w1.cell? ⟨bx,2,none⟩=some (.string ft):=by rw[Lib.cell_of_heap hbox];rfl
  have hbxl:bx<w1.heap.size:=by
   rcases Nat.lt_or_ge bx w1.heap.size with h' | h'
   ·exact h'
   simp[Array.getElem?_eq_none h'] at hbox
  have hb2:Below w1.heap.size w1 (w1.alloc (.cells #[.string gp,.bool gx,.string gt] 48)):=(Below.refl _ _).alloc (Nat.le_refl _) _
  have k2':=(hb2.cell (p:=⟨bx,2,none⟩) hbxl).trans k2
  have HB2:=hid (HB1.out.trans (hb2.mono HB1.out.size))
  have HO2:=hid (HO1.out.alloc (.cells #[.string gp,.bool gx,.string gt] 48))
  clear hb2 HB1 HO1 hbox k0 k2
  cases hF:findP other fp with
  | some y=>
   have HP2:Hid ((List.range (k+1)).filter (isLone l other)=P):=by unfold Hid;rw[HST.out,HIS.out,hF];simp
   clear hF HST HIS
   simp only[Option.isSome_some]
   go_wp2
   go_roundw
   case rel=>exact ⟨k+1,by omega,by go_num,HB2,by rw[HP2.out,HPL.out];exact HO2⟩
   simp[intOf];omega
  | none=>
   simp only[Option.isSome_none]
   by_cases ht:ft=⟨#[]⟩
   ·have HP2:Hid ((List.range (k+1)).filter (isLone l other)=P):=by unfold Hid;rw[HST.out,HIS.out,hF];simp[ht]
    subst ht
    clear hF HST HIS
    go_wp2
    go_roundw
    case rel=>exact ⟨k+1,by omega,by go_num,HB2,by rw[HP2.out,HPL.out];exact HO2⟩
    simp[intOf];omega
   have HP2:Hid ((List.range (k+1)).filter (isLone l other)=P++[k]):=by unfold Hid;rw[HST.out,HIS.out,hF];simp[ht]
   have e0:=aBw ht
   have e1:ft.toList.isEmpty=false:=by
    cases h:ft.toList with
    | nil=>rw[h] at e0;simp at e0
    | cons=>rfl
   clear hF HST HIS ht e0
   have HB3:=hid (HB2.out.alloc HB2.out.size (.cells #[.int .i64 (k:Int)] 3))
   have HO3:=hid (HO2.out.alloc (.cells #[.int .i64 (k:Int)] 3))
   have HLI:=hid (bFn (w1.alloc (.cells #[.string gp,.bool gx,.string gt] 48)) (w1.heap.size+1) k (by simp))
   go_wp2_with (at_builtin;refine aAn rfl (.tmp 31) (.tmp 33) 36 rfl bHh rfl rfl HO3.out HLI.out (bGh _) (by unfold maxLen;omega) (by omega) HB3.out.size ?_;intro v7 w7 ho7 hg7 hv7)
   have HB7:=hid (HB3.out.grown hg7 HB3.out.size (fun g hg=>(HO3.out.lt g hg).1))
   have HO7:=hid ho7
   clear ho7 hg7 hv7 HO3 HB3 HLI HO2 HB2
   go_roundw
   case rel=>exact ⟨k+1,by omega,by go_num,HB7,by rw[HP2.out,List.length_append,HPL.out];unfold natsV;rw[List.map_append];exact HO7⟩
   simp[intOf];omega
 obtain rfl:k=n:=by omega
 go_wp2
 go_ret
 exact ⟨_,rfl,by rw[HL.out];exact HO.out,HB.out⟩
theorem aAo {u u':World}(h:Below u.heap.size u u'):u.grownBy u' none:=⟨h.os,h.tape,h.output,h.size,fun k hk _=>h.block k hk⟩
theorem aEt (z:Array Value)(n:Nat):(Builtin.zeroCells z n).toList.length=n*z.size:=by simp[Builtin.zeroCells]
theorem aEl {z:Array Value}{n:Nat}(h0:0<z.size)(h:∀v∈z.toList,v.oneCell'=true):∀u∈(Builtin.zeroCells z n).toList,u.oneCell'=true:=by
 intro u hu
 simp only[Builtin.zeroCells,Array.toList_map,List.mem_map] at hu
 obtain ⟨i,_,rfl⟩:=hu
 have hi:i % z.size<z.size:=Nat.mod_lt _ h0
 rw[getElem!_pos z (i % z.size) hi]
 exact h _ (by rw[<-Array.getElem_toList];exact List.getElem_mem _)
theorem aDr {P:Program}(w:World)(t e ty:TypeId)(z:Value)(ht:P.underlying t=some (.slice e))(hv:∀w,(zeroValue e).run P w=.ok z w){g d c k:Nat}{cur:Array Value}{et:TypeId}{zs:List Value}
  (hz:(Builtin.zeroCells z.cells (k+1)).toList=zs) (hg:w.heap[g]? = some (.cells cur et (0,0))) (hfit:d+zs.length<=cur.size) (h1:∀v∈zs,v.oneCell'=true) :
  (Builtin.clear_ #[t] ty #[.slice (some ⟨g,d,none⟩) (k+1) c]).run P w=.ok (.tuple #[]) (w.setRow g (cur.toList.take d++zs++cur.toList.drop (d+zs.length)).toArray):=by
 have hst:=run_storeCells_at P g d et zs 0 cur w hg (by simpa using hfit) h1
 simp only[Nat.add_zero] at hst
 simp[Builtin.clear_,run_underlying ht,hv,hz,hst]
theorem aOj {w:World}{r n cap sz:Nat}{cur:Array Value}{e:TypeId}{xs:List Value}(hg:w.heap[r]? = some (.cells cur e (0,0)))(hx:xs.length=n*sz)(hnc:n<=cap)(ht:∀(j:Nat)(u:Value),xs[j]? = some u->cur[j]? = some u) :
  Rd w w.heap.size sz (some ⟨r,0,none⟩) n cap xs:=
 ⟨hx,hnc,fun _=>⟨r,0,rfl,(Array.getElem?_eq_some_iff.1 hg).1,fun j u hu=>by rw[Nat.zero_add,cell_of_row w _ _ _ _ _ hg];exact ht j u hu⟩⟩
theorem Rd.nat {w:World}{B n c:Nat}{A:Option Addr}{l:List Nat}(h:Rd w B 1 A n c (natsV l)){k:Nat}(hk:k<n) :
  ∃b o u,A=some ⟨b,o,none⟩/\b<B/\l[k]? = some u/\w.cell? ⟨b,o+k,none⟩=some (.int .i64 (u:Int)):=by
 obtain ⟨b,o,u,e,hb,hx,hc⟩:=h.one hk
 unfold natsV at hx
 rw[List.getElem?_map] at hx
 cases hl:l[k]? with
 | none=>rw[hl] at hx;cases hx
 | some s=>rw[hl] at hx;cases hx;exact ⟨b,o,s,e,hb,rfl,hc⟩
theorem aCs (l:List Nat):(natsV l).length=l.length:=by simp[natsV]
def FirstI (p:Nat->Bool)(xs:List Nat)(w:World)(e:Ending) (w':World):Prop:=
 ∃k:Int,e=.returned (.int .i64 k)/\((k=-1/\∀x∈xs,p x=false)\/∃(j x:Nat),k=(j:Int)/\xs[j]? = some x/\p x=true/\∀(i y:Nat),i<j->xs[i]? = some y->p y=false)/\Below w.heap.size w w'
theorem aVp {A:Option Addr}{n c:Nat}{xs:List Nat}{w:World}{q1:Value}(p:Nat->Bool)(hn:n<=1000000)(h:Rd w w.heap.size 1 A n c (natsV xs))
  (hC:∀(i:Nat) (u:World),i∈xs->Below w.heap.size w u->Calls Tryz.prog 247 #[.int .i64 (i:Int),q1] u fun e w'=>e=.returned (.bool (p i))/\Below u.heap.size u w') :
  Calls Tryz.prog 128 #[.slice A n c,.func (.func 247) #[] #[q1]] w (FirstI p xs w):=by
 have HL:=hid (show xs.length=n by have:=h.len;rw[aCs] at this;omega)
 go_enter Tryz.func128,Tryz.ntmps128
 go_wp2
 go_loopw[8] (fun i wr=>∃k:Nat,k<=n/\i=.int .i64 k/\Hid (Below w.heap.size w wr)/\Hid (∀(i y:Nat),i<k->xs[i]? = some y->p y=false)) (fun i _=>n-(intOf i).toNat)
 case atStart=>exact ⟨0,Nat.zero_le _,rfl,hid (Below.refl _ _),fun i y h=>absurd h (Nat.not_lt_zero _)⟩
 obtain ⟨k,hk,rfl,HB,HJ⟩:=hrel
 by_cases hlt:k<n
 ·obtain ⟨b0,o0,x,rfl,hbb,hx,h0⟩:=h.nat hlt
  replace h0:=(HB.out.cell (p:=⟨b0,o0+k,none⟩) hbb).trans h0
  have HX:=hid hx;clear hx
  have K:=hC x wr (List.mem_of_getElem? HX.out) HB.out
  go_wp2_with fail
  refine K.mono ?_
  rintro e w1 ⟨rfl,hb1⟩
  have HB1:=hid (HB.out.trans (hb1.mono HB.out.size))
  clear K hb1
  cases hd:p x
  ·have HN:Hid (∀(i y:Nat),i<k+1->xs[i]? = some y->p y=false):=fun i y hi hy=>by
    rcases Nat.lt_or_ge i k with h | h
    ·exact HJ.out i y h hy
    rw[show i=k by omega,HX.out] at hy;injection hy with hy;rw[<-hy];exact hd
   clear hd
   go_wp2
   go_roundw
   case rel=>exact ⟨k+1,by omega,by go_num,HB1,HN⟩
   simp[intOf];omega
  have HD:=hid hd
  clear hd
  go_wp2
  go_ret
  exact ⟨k,rfl,.inr ⟨k,x,rfl,HX.out,HD.out,HJ.out⟩,HB1.out⟩
 have hkn:k=n:=by omega
 subst hkn
 go_wp2
 go_ret
 refine ⟨-1,rfl,.inl ⟨rfl,fun x hx=>?_⟩,HB.out⟩
 obtain ⟨i,hi,rfl⟩:=List.getElem_of_mem hx
 exact HJ.out i _ (by have:=HL.out;omega) (List.getElem?_eq_getElem hi)
theorem bCa {A:Option Addr}{n c:Nat}{xs:List Nat}{w:World}{q1:Value}(p:Nat->Bool)(hn:n<=1000000)(h:Rd w w.heap.size 1 A n c (natsV xs))
  (hC:∀(i:Nat) (u:World),i∈xs->Below w.heap.size w u->Calls Tryz.prog 248 #[.int .i64 (i:Int),q1] u fun e w'=>e=.returned (.bool (p i))/\Below u.heap.size u w') :
  Calls Tryz.prog 128 #[.slice A n c,.func (.func 248) #[] #[q1]] w (FirstI p xs w):=by
 have HL:=hid (show xs.length=n by have:=h.len;rw[aCs] at this;omega)
 go_enter Tryz.func128,Tryz.ntmps128
 go_wp2
 go_loopw[8] (fun i wr=>∃k:Nat,k<=n/\i=.int .i64 k/\Hid (Below w.heap.size w wr)/\Hid (∀(i y:Nat),i<k->xs[i]? = some y->p y=false)) (fun i _=>n-(intOf i).toNat)
 case atStart=>exact ⟨0,Nat.zero_le _,rfl,hid (Below.refl _ _),fun i y h=>absurd h (Nat.not_lt_zero _)⟩
 obtain ⟨k,hk,rfl,HB,HJ⟩:=hrel
 by_cases hlt:k<n
 ·obtain ⟨b0,o0,x,rfl,hbb,hx,h0⟩:=h.nat hlt
  replace h0:=(HB.out.cell (p:=⟨b0,o0+k,none⟩) hbb).trans h0
  have HX:=hid hx;clear hx
  have K:=hC x wr (List.mem_of_getElem? HX.out) HB.out
  go_wp2_with fail
  refine K.mono ?_
  rintro e w1 ⟨rfl,hb1⟩
  have HB1:=hid (HB.out.trans (hb1.mono HB.out.size))
  clear K hb1
  cases hd:p x
  ·have HN:Hid (∀(i y:Nat),i<k+1->xs[i]? = some y->p y=false):=fun i y hi hy=>by
    rcases Nat.lt_or_ge i k with h | h
    ·exact HJ.out i y h hy
    rw[show i=k by omega,HX.out] at hy;injection hy with hy;rw[<-hy];exact hd
   clear hd
   go_wp2
   go_roundw
   case rel=>exact ⟨k+1,by omega,by go_num,HB1,HN⟩
   simp[intOf];omega
  have HD:=hid hd
  clear hd
  go_wp2
  go_ret
  exact ⟨k,rfl,.inr ⟨k,x,rfl,HX.out,HD.out,HJ.out⟩,HB1.out⟩
 have hkn:k=n:=by omega
 subst hkn
 go_wp2
 go_ret
 refine ⟨-1,rfl,.inl ⟨rfl,fun x hx=>?_⟩,HB.out⟩
 obtain ⟨i,hi,rfl⟩:=List.getElem_of_mem hx
 exact HJ.out i _ (by have:=HL.out;omega) (List.getElem?_eq_getElem hi)
theorem aVq {A:Option Addr}{n c:Nat}{xs:List Nat}{w:World}{q1 q2:Value}(p:Nat->Bool)(hn:n<=1000000)(h:Rd w w.heap.size 1 A n c (natsV xs))
  (hC:∀(i:Nat) (u:World),i∈xs->Below w.heap.size w u->Calls Tryz.prog 207 #[.int .i64 (i:Int),q1,q2] u fun e w'=>e=.returned (.bool (p i))/\Below u.heap.size u w') :
  Calls Tryz.prog 128 #[.slice A n c,.func (.func 207) #[] #[q1,q2]] w (FirstI p xs w):=by
 have HL:=hid (show xs.length=n by have:=h.len;rw[aCs] at this;omega)
 go_enter Tryz.func128,Tryz.ntmps128
 go_wp2
 go_loopw[8] (fun i wr=>∃k:Nat,k<=n/\i=.int .i64 k/\Hid (Below w.heap.size w wr)/\Hid (∀(i y:Nat),i<k->xs[i]? = some y->p y=false)) (fun i _=>n-(intOf i).toNat)
 case atStart=>exact ⟨0,Nat.zero_le _,rfl,hid (Below.refl _ _),fun i y h=>absurd h (Nat.not_lt_zero _)⟩
 obtain ⟨k,hk,rfl,HB,HJ⟩:=hrel
 by_cases hlt:k<n
 ·obtain ⟨b0,o0,x,rfl,hbb,hx,h0⟩:=h.nat hlt
  replace h0:=(HB.out.cell (p:=⟨b0,o0+k,none⟩) hbb).trans h0
  have HX:=hid hx;clear hx
  have K:=hC x wr (List.mem_of_getElem? HX.out) HB.out
  go_wp2_with fail
  refine K.mono ?_
  rintro e w1 ⟨rfl,hb1⟩
  have HB1:=hid (HB.out.trans (hb1.mono HB.out.size))
  clear K hb1
  cases hd:p x
  ·have HN:Hid (∀(i y:Nat),i<k+1->xs[i]? = some y->p y=false):=fun i y hi hy=>by
    rcases Nat.lt_or_ge i k with h | h
    ·exact HJ.out i y h hy
    rw[show i=k by omega,HX.out] at hy;injection hy with hy;rw[<-hy];exact hd
   clear hd
   go_wp2
   go_roundw
   case rel=>exact ⟨k+1,by omega,by go_num,HB1,HN⟩
   simp[intOf];omega
  have HD:=hid hd
  clear hd
  go_wp2
  go_ret
  exact ⟨k,rfl,.inr ⟨k,x,rfl,HX.out,HD.out,HJ.out⟩,HB1.out⟩
 have hkn:k=n:=by omega
 subst hkn
 go_wp2
 go_ret
 refine ⟨-1,rfl,.inl ⟨rfl,fun x hx=>?_⟩,HB.out⟩
 obtain ⟨i,hi,rfl⟩:=List.getElem_of_mem hx
 exact HJ.out i _ (by have:=HL.out;omega) (List.getElem?_eq_getElem hi)
def dropI (p:Nat->Bool)(l:List Nat):List Nat:=l.filter fun x=>!p x
theorem aGf (p:Nat->Bool){l:List Nat}{k x:Nat}(hx:l[k]? = some x):dropI p (l.take (k+1))=dropI p (l.take k)++if p x=true then [] else [x]:=by
 rw[List.take_add_one,hx,dropI,List.filter_append]
 cases e:p x<;>simp[e,dropI]
theorem aHo {p:Nat->Bool}{l:List Nat}(h:∀x∈l,p x=false):dropI p l=l:=List.filter_eq_self.2 fun x hx=>by simp[h x hx]
theorem aSm {cur:List Value}{a:List Nat}{x:Nat}{l:List Nat}{i n cap:Nat}(hi:a.length=i)(hin:i<n)(hl:l.length=n)(hc:cur.length=cap)(hnc:n<=cap)
  (ht:cur.take n=natsV (a++l.drop i)):(cur.set i (.int .i64 (x:Int))).take n=natsV ((a++[x])++l.drop (i+1)):=by
 refine List.ext_getElem? fun j=>?_
 have hj:∀j,j<n->cur[j]? = (natsV (a++l.drop i))[j]?:=fun j hj=>by rw[<-ht,List.getElem?_take_of_lt hj]
 by_cases hjn:j<n
 ·rw[List.getElem?_take_of_lt hjn,List.getElem?_set]
  by_cases e:i=j
  ·subst e
   rw[if_pos rfl,if_pos (by omega)]
   unfold natsV
   rw[List.getElem?_map,List.append_assoc,List.getElem?_append_right (by omega),hi,Nat.sub_self];rfl
  rw[if_neg e,hj j hjn]
  unfold natsV
  rw[List.getElem?_map,List.getElem?_map]
  congr 1
  rcases Nat.lt_or_ge j i with h | h
  ·rw[List.getElem?_append_left (by omega),List.append_assoc,List.getElem?_append_left (by omega)]
  rw[List.getElem?_append_right (by omega),List.append_assoc,List.getElem?_append_right (by omega),hi,List.getElem?_drop,show j-i=(j-i-1)+1 by omega,List.singleton_append,List.getElem?_cons_succ,List.getElem?_drop]
  congr 1;omega
 rw[List.getElem?_eq_none (by rw[List.length_take];omega),List.getElem?_eq_none (by rw[aCs];simp only[List.length_append,List.length_drop,List.length_singleton];omega)]
theorem aSc {r n cap:Nat}{cur:Array Value}{l:List Nat}{w:World}{q1:Value}(p:Nat->Bool)(hn:n<=1000000)(hg:w.heap[r]? = some (.cells cur 3 (0,0)))(hnc:n<=cap)(_hcm:cap<=maxLen)(hcs:cur.size=cap)
  (htake:cur.toList.take n=natsV l) (hl:l.length=n)
  (hC:∀(i:Nat) (u:World),w.grownBy u (some r)->Calls Tryz.prog 247 #[.int .i64 (i:Int),q1] u fun e w'=>e=.returned (.bool (p i))/\Below u.heap.size u w') :
  Calls Tryz.prog 246 #[.slice (some ⟨r,0,none⟩) n cap,.func (.func 247) #[] #[q1]] w
   fun e w'=>∃(m:Nat) (cur':Array Value),e=.returned (.slice (some ⟨r,0,none⟩) m cap)/\(dropI p l).length=m/\m<=n/\w'.heap[r]? = some (.cells cur' 3 (0,0))/\cur'.size=cap/\cur'.toList.take m=natsV (dropI p l)/\w.grownBy w' (some r):=by
 have HL:=hid hl
 have zv:∀w,(zeroValue 3).run Tryz.prog w=.ok (.int .i64 0) w:=Tryz.zeroValue3
 have hrl:r<w.heap.size:=(Array.getElem?_eq_some_iff.1 hg).1
 have hR:Rd w w.heap.size 1 (some ⟨r,0,none⟩) n cap (natsV l):=aOj hg (by rw[aCs,hl,Nat.mul_one]) hnc fun j u hu=>by simpa using aAy htake hu
 have C0:=aVp p hn hR (fun i u _ hu=>hC i u ((aAo hu).but _))
 have HT0:=hid htake
 have HG0:=hid hg
 have HCS:=hid hcs
 have HCC:=hid hC
 clear htake hg hcs hl hR hC
 go_enter Tryz.func246,Tryz.ntmps246
 go_wp2_with fail
 refine C0.mono ?_
 rintro e w1 ⟨k,rfl,hk,hb1⟩
 clear C0
 have hg1:w.grownBy w1 (some r):=(aAo hb1).but _
 have HG1:=hid ((hb1.block r hrl).trans HG0.out)
 rcases hk with ⟨rfl,hno⟩ | ⟨j,f,rfl,hfj1,hfj2,hfj3⟩
 ·have HK:=hid (aHo hno)
  clear hno
  go_wp2
  go_ret
  exact ⟨n,cur,rfl,by rw[HK.out,HL.out],Nat.le_refl _,HG1.out,HCS.out,by rw[HK.out];exact HT0.out,hg1⟩
 have hjn:j<n:=by have:=(List.getElem?_eq_some_iff.1 hfj1).1;rw[HL.out] at this;exact this
 have HKJ:=hid (show dropI p (l.take (j+1))=l.take j by
  rw[aGf p hfj1,if_pos hfj2,List.append_nil]
  refine aHo fun x hx=>?_
  obtain ⟨i,hi,e⟩:=List.getElem_of_mem hx
  rw[List.length_take] at hi
  rw[List.getElem_take] at e
  exact hfj3 i x (by omega) (by rw[<-e];exact List.getElem?_eq_getElem _))
 clear hfj1 hfj2 hfj3
 have hj1:((j:Int) == -1)=false:=beq_eq_false_iff_ne.2 (by omega)
 go_wp2
 try rw[hj1]
 clear hj1
 go_loopw[5,6] (fun iv jv wr=>∃(i j':Nat) (cur':Array Value),j'<=n/\i<j'/\iv=.int .i64 i/\jv=.int .i64 j'/\Hid (w.grownBy wr (some r))/\Hid (wr.heap[r]? = some (.cells cur' 3 (0,0)))/\Hid (cur'.size=cap)/\Hid (cur'.toList.take n=natsV (dropI p (l.take j')++l.drop i))/\Hid ((dropI p (l.take j')).length=i)) (fun _ jv _=>n-(intOf jv).toNat)
 case atStart=>exact ⟨j,j+1,cur,by omega,by omega,rfl,by go_num,hid hg1,HG1,HCS,hid (by rw[HKJ.out,List.take_append_drop];exact HT0.out),hid (by rw[HKJ.out,List.length_take,HL.out];omega)⟩
 clear hg1 HG1 HG0 HT0 HKJ hjn hb1
 obtain ⟨i,j',cur',hj',hij,rfl,rfl,HGR,HG,HC,HT,HI⟩:=hrel
 by_cases hlt:j'<n
 ·obtain ⟨x,hx⟩:∃x,l[j']? = some x:=⟨l[j']'(by rw[HL.out];exact hlt),List.getElem?_eq_getElem _⟩
  have h0:wr.cell? ⟨r,j',none⟩=some (.int .i64 (x:Int)):=by
   rw[cell_of_row wr _ _ _ _ _ HG.out]
   have e1:(dropI p (l.take j')++l.drop i)[j']? = some x:=by
    rw[List.getElem?_append_right (by rw[HI.out];omega),HI.out,List.getElem?_drop,show i+(j'-i)=j' by omega];exact hx
   have e2:(natsV (dropI p (l.take j')++l.drop i))[j']? = some (.int .i64 (x:Int)):=by unfold natsV;rw[List.getElem?_map,e1];rfl
   simpa using aAy HT.out e2
  have HK:=hid (aGf p hx)
  have C:=HCC.out x wr HGR.out
  have hrw:r<wr.heap.size:=Nat.lt_of_lt_of_le hrl HGR.out.size
  clear hx
  cases hq:p x with
  | true=>
   rw[hq] at C
   have HN:=hid (show dropI p (l.take (j'+1))=dropI p (l.take j') by rw[HK.out,if_pos hq,List.append_nil])
   clear hq
   go_wp2_with fail
   refine C.mono ?_
   rintro e w2 ⟨rfl,hb2⟩
   have HG2:=hid ((hb2.block r hrw).trans HG.out)
   have HGR2:=hid (HGR.out.andThen (aAo hb2) (fun j hj=>by cases hj))
   clear C h0 hb2 HGR HG
   go_wp2
   go_roundw
   case rel=>exact ⟨i,j'+1,cur',by omega,by omega,rfl,by go_num,HGR2,HG2,HC,by rw[HN.out];exact HT,by rw[HN.out];exact HI⟩
   simp[intOf];omega
  | false=>
   rw[hq] at C
   have HN:=hid (show dropI p (l.take (j'+1))=dropI p (l.take j')++[x] by rw[HK.out,if_neg (by rw[hq];simp)])
   clear hq
   go_wp2_with fail
   refine C.mono ?_
   rintro e w2 ⟨rfl,hb2⟩
   have HG2:=hid ((hb2.block r hrw).trans HG.out)
   have HGR2:=hid (HGR.out.andThen (aAo hb2) (fun j hj=>by cases hj))
   have hic:i<cur'.size:=by rw[HC.out];omega
   have s0:w2.cell? ⟨r,i,none⟩=some cur'[i]:=by rw[cell_of_row w2 _ _ _ _ _ HG2.out];exact Array.getElem?_eq_getElem hic
   have s1:w2.frozen? ⟨r,i,none⟩=false:=aAk HG2.out
   clear C h0 hb2 HGR HG
   have HG3:=hid (heap_setCell_same w2 r i _ _ (.int .i64 (x:Int)) HG2.out)
   have HGR3:=hid (HGR2.out.andThen (aAq w2 r i (.int .i64 (x:Int))) (fun j hj=>by injection hj with hj;exact .inr (by rw[hj])))
   go_wp2
   go_roundw
   case rel=>
    refine ⟨i+1,j'+1,_,by omega,by omega,by go_num,by go_num,HGR3,HG3,hid ?_,hid ?_,hid ?_⟩
    ·simp[HC.out]
    ·rw[HN.out]
     have h6:=aSm (x:=x) HI.out (by omega) HL.out (by rw[Array.length_toList];exact HC.out) hnc HT.out
     rw[List.append_assoc] at h6
     simpa using h6
    rw[HN.out,List.length_append,HI.out];rfl
   simp[intOf];omega
 obtain rfl:n=j':=by omega
 rw[List.take_of_length_le (Nat.le_of_eq HL.out)] at HT HI
 obtain ⟨k,hk⟩:∃k,n-i=k+1:=⟨n-i-1,by omega⟩
 obtain ⟨zs,hzs⟩:∃zs,zs=(Builtin.zeroCells (Value.int .i64 0).cells (k+1)).toList:=⟨_,rfl⟩
 have hzl:zs.length=k+1:=by rw[hzs,aEt];simp[Value.cells]
 have hz1:∀u∈zs,u.oneCell'=true:=by
  rw[hzs]
  exact aEl (by decide) (by intro v hv;simp[Value.cells] at hv;subst hv;rfl)
 obtain ⟨R2,eR2⟩:∃R:Array Value,R=(cur'.toList.take i++zs++cur'.toList.drop (i+zs.length)).toArray:=⟨_,rfl⟩
 have hcl:∀ty c',(Builtin.clear_ #[36] ty #[.slice (some ⟨r,i,none⟩) (n-i) c']).run Tryz.prog wr=.ok (.tuple #[]) (wr.setRow r R2):=fun ty c'=>by
  rw[hk,eR2]
  exact aDr wr _ _ ty _ Tryz.underlying36 zv hzs.symm HG.out (by rw[hzl,HC.out];omega) hz1
 have hpre:cur'.toList.take i=natsV (dropI p l):=by
  have:(cur'.toList.take n).take i=cur'.toList.take i:=by rw[List.take_take,Nat.min_eq_left (by omega)]
  rw[<-this,HT.out]
  unfold natsV
  rw[<-List.map_take,List.take_append_of_le_length (by rw[HI.out];exact Nat.le_refl _),List.take_of_length_le (by rw[HI.out];exact Nat.le_refl _)]
 have hfin:R2.toList.take i=natsV (dropI p l):=by
  rw[eR2,<-hpre]
  show (cur'.toList.take i++zs++cur'.toList.drop (i+zs.length)).take i=_
  rw[List.append_assoc,List.take_append_of_le_length (by rw[List.length_take,Array.length_toList,HC.out];omega),List.take_take,Nat.min_self]
 have hsz2:R2.size=cap:=by
  rw[eR2]
  simp only[List.size_toArray,List.length_append,List.length_take,List.length_drop,Array.length_toList,HC.out,hzl];omega
 have HFI:=hid hfin
 have HSZ:=hid hsz2
 have HCL:=hid hcl
 have HG9:=hid (setRow_heap wr r _ R2 _ _ HG.out)
 have HGR9:=hid (aCr (cs:=R2) HGR.out (.inr rfl))
 have hcn:¬cap=i:=by omega
 clear hfin hsz2 hpre hcl eR2 hz1 hzl hzs hk zv
 have hcl:=HCL.out
 go_wp2
 go_ret
 exact ⟨i,R2,rfl,HI.out,by omega,HG9.out,HSZ.out,HFI.out,HGR9.out⟩
theorem bAs {r n cap:Nat}{cur:Array Value}{l:List Nat}{w:World}{q1:Value}(p:Nat->Bool)(hn:n<=1000000)(hg:w.heap[r]? = some (.cells cur 3 (0,0)))(hnc:n<=cap)(_hcm:cap<=maxLen)(hcs:cur.size=cap)
  (htake:cur.toList.take n=natsV l) (hl:l.length=n)
  (hC:∀(i:Nat) (u:World),w.grownBy u (some r)->Calls Tryz.prog 248 #[.int .i64 (i:Int),q1] u fun e w'=>e=.returned (.bool (p i))/\Below u.heap.size u w') :
  Calls Tryz.prog 246 #[.slice (some ⟨r,0,none⟩) n cap,.func (.func 248) #[] #[q1]] w
   fun e w'=>∃(m:Nat) (cur':Array Value),e=.returned (.slice (some ⟨r,0,none⟩) m cap)/\(dropI p l).length=m/\m<=n/\w'.heap[r]? = some (.cells cur' 3 (0,0))/\cur'.size=cap/\cur'.toList.take m=natsV (dropI p l)/\w.grownBy w' (some r):=by
 have HL:=hid hl
 have zv:∀w,(zeroValue 3).run Tryz.prog w=.ok (.int .i64 0) w:=Tryz.zeroValue3
 have hrl:r<w.heap.size:=(Array.getElem?_eq_some_iff.1 hg).1
 have hR:Rd w w.heap.size 1 (some ⟨r,0,none⟩) n cap (natsV l):=aOj hg (by rw[aCs,hl,Nat.mul_one]) hnc fun j u hu=>by simpa using aAy htake hu
 have C0:=bCa p hn hR (fun i u _ hu=>hC i u ((aAo hu).but _))
 have HT0:=hid htake
 have HG0:=hid hg
 have HCS:=hid hcs
 have HCC:=hid hC
 clear htake hg hcs hl hR hC
 go_enter Tryz.func246,Tryz.ntmps246
 go_wp2_with fail
 refine C0.mono ?_
 rintro e w1 ⟨k,rfl,hk,hb1⟩
 clear C0
 have hg1:w.grownBy w1 (some r):=(aAo hb1).but _
 have HG1:=hid ((hb1.block r hrl).trans HG0.out)
 rcases hk with ⟨rfl,hno⟩ | ⟨j,f,rfl,hfj1,hfj2,hfj3⟩
 ·have HK:=hid (aHo hno)
  clear hno
  go_wp2
  go_ret
  exact ⟨n,cur,rfl,by rw[HK.out,HL.out],Nat.le_refl _,HG1.out,HCS.out,by rw[HK.out];exact HT0.out,hg1⟩
 have hjn:j<n:=by have:=(List.getElem?_eq_some_iff.1 hfj1).1;rw[HL.out] at this;exact this
 have HKJ:=hid (show dropI p (l.take (j+1))=l.take j by
  rw[aGf p hfj1,if_pos hfj2,List.append_nil]
  refine aHo fun x hx=>?_
  obtain ⟨i,hi,e⟩:=List.getElem_of_mem hx
  rw[List.length_take] at hi
  rw[List.getElem_take] at e
  exact hfj3 i x (by omega) (by rw[<-e];exact List.getElem?_eq_getElem _))
 clear hfj1 hfj2 hfj3
 have hj1:((j:Int) == -1)=false:=beq_eq_false_iff_ne.2 (by omega)
 go_wp2
 try rw[hj1]
 clear hj1
 go_loopw[5,6] (fun iv jv wr=>∃(i j':Nat) (cur':Array Value),j'<=n/\i<j'/\iv=.int .i64 i/\jv=.int .i64 j'/\Hid (w.grownBy wr (some r))/\Hid (wr.heap[r]? = some (.cells cur' 3 (0,0)))/\Hid (cur'.size=cap)/\Hid (cur'.toList.take n=natsV (dropI p (l.take j')++l.drop i))/\Hid ((dropI p (l.take j')).length=i)) (fun _ jv _=>n-(intOf jv).toNat)
 case atStart=>exact ⟨j,j+1,cur,by omega,by omega,rfl,by go_num,hid hg1,HG1,HCS,hid (by rw[HKJ.out,List.take_append_drop];exact HT0.out),hid (by rw[HKJ.out,List.length_take,HL.out];omega)⟩
 clear hg1 HG1 HG0 HT0 HKJ hjn hb1
 obtain ⟨i,j',cur',hj',hij,rfl,rfl,HGR,HG,HC,HT,HI⟩:=hrel
 by_cases hlt:j'<n
 ·obtain ⟨x,hx⟩:∃x,l[j']? = some x:=⟨l[j']'(by rw[HL.out];exact hlt),List.getElem?_eq_getElem _⟩
  have h0:wr.cell? ⟨r,j',none⟩=some (.int .i64 (x:Int)):=by
   rw[cell_of_row wr _ _ _ _ _ HG.out]
   have e1:(dropI p (l.take j')++l.drop i)[j']? = some x:=by
    rw[List.getElem?_append_right (by rw[HI.out];omega),HI.out,List.getElem?_drop,show i+(j'-i)=j' by omega];exact hx
   have e2:(natsV (dropI p (l.take j')++l.drop i))[j']? = some (.int .i64 (x:Int)):=by unfold natsV;rw[List.getElem?_map,e1];rfl
   simpa using aAy HT.out e2
  have HK:=hid (aGf p hx)
  have C:=HCC.out x wr HGR.out
  have hrw:r<wr.heap.size:=Nat.lt_of_lt_of_le hrl HGR.out.size
  clear hx
  cases hq:p x with
  | true=>
   rw[hq] at C
   have HN:=hid (show dropI p (l.take (j'+1))=dropI p (l.take j') by rw[HK.out,if_pos hq,List.append_nil])
   clear hq
   go_wp2_with fail
   refine C.mono ?_
   rintro e w2 ⟨rfl,hb2⟩
   have HG2:=hid ((hb2.block r hrw).trans HG.out)
   have HGR2:=hid (HGR.out.andThen (aAo hb2) (fun j hj=>by cases hj))
   clear C h0 hb2 HGR HG
   go_wp2
   go_roundw
   case rel=>exact ⟨i,j'+1,cur',by omega,by omega,rfl,by go_num,HGR2,HG2,HC,by rw[HN.out];exact HT,by rw[HN.out];exact HI⟩
   simp[intOf];omega
  | false=>
   rw[hq] at C
   have HN:=hid (show dropI p (l.take (j'+1))=dropI p (l.take j')++[x] by rw[HK.out,if_neg (by rw[hq];simp)])
   clear hq
   go_wp2_with fail
   refine C.mono ?_
   rintro e w2 ⟨rfl,hb2⟩
   have HG2:=hid ((hb2.block r hrw).trans HG.out)
   have HGR2:=hid (HGR.out.andThen (aAo hb2) (fun j hj=>by cases hj))
   have hic:i<cur'.size:=by rw[HC.out];omega
   have s0:w2.cell? ⟨r,i,none⟩=some cur'[i]:=by rw[cell_of_row w2 _ _ _ _ _ HG2.out];exact Array.getElem?_eq_getElem hic
   have s1:w2.frozen? ⟨r,i,none⟩=false:=aAk HG2.out
   clear C h0 hb2 HGR HG
   have HG3:=hid (heap_setCell_same w2 r i _ _ (.int .i64 (x:Int)) HG2.out)
   have HGR3:=hid (HGR2.out.andThen (aAq w2 r i (.int .i64 (x:Int))) (fun j hj=>by injection hj with hj;exact .inr (by rw[hj])))
   go_wp2
   go_roundw
   case rel=>
    refine ⟨i+1,j'+1,_,by omega,by omega,by go_num,by go_num,HGR3,HG3,hid ?_,hid ?_,hid ?_⟩
    ·simp[HC.out]
    ·rw[HN.out]
     have h6:=aSm (x:=x) HI.out (by omega) HL.out (by rw[Array.length_toList];exact HC.out) hnc HT.out
     rw[List.append_assoc] at h6
     simpa using h6
    rw[HN.out,List.length_append,HI.out];rfl
   simp[intOf];omega
 obtain rfl:n=j':=by omega
 rw[List.take_of_length_le (Nat.le_of_eq HL.out)] at HT HI
 obtain ⟨k,hk⟩:∃k,n-i=k+1:=⟨n-i-1,by omega⟩
 obtain ⟨zs,hzs⟩:∃zs,zs=(Builtin.zeroCells (Value.int .i64 0).cells (k+1)).toList:=⟨_,rfl⟩
 have hzl:zs.length=k+1:=by rw[hzs,aEt];simp[Value.cells]
 have hz1:∀u∈zs,u.oneCell'=true:=by
  rw[hzs]
  exact aEl (by decide) (by intro v hv;simp[Value.cells] at hv;subst hv;rfl)
 obtain ⟨R2,eR2⟩:∃R:Array Value,R=(cur'.toList.take i++zs++cur'.toList.drop (i+zs.length)).toArray:=⟨_,rfl⟩
 have hcl:∀ty c',(Builtin.clear_ #[36] ty #[.slice (some ⟨r,i,none⟩) (n-i) c']).run Tryz.prog wr=.ok (.tuple #[]) (wr.setRow r R2):=fun ty c'=>by
  rw[hk,eR2]
  exact aDr wr _ _ ty _ Tryz.underlying36 zv hzs.symm HG.out (by rw[hzl,HC.out];omega) hz1
 have hpre:cur'.toList.take i=natsV (dropI p l):=by
  have:(cur'.toList.take n).take i=cur'.toList.take i:=by rw[List.take_take,Nat.min_eq_left (by omega)]
  rw[<-this,HT.out]
  unfold natsV
  rw[<-List.map_take,List.take_append_of_le_length (by rw[HI.out];exact Nat.le_refl _),List.take_of_length_le (by rw[HI.out];exact Nat.le_refl _)]
 have hfin:R2.toList.take i=natsV (dropI p l):=by
  rw[eR2,<-hpre]
  show (cur'.toList.take i++zs++cur'.toList.drop (i+zs.length)).take i=_
  rw[List.append_assoc,List.take_append_of_le_length (by rw[List.length_take,Array.length_toList,HC.out];omega),List.take_take,Nat.min_self]
 have hsz2:R2.size=cap:=by
  rw[eR2]
  simp only[List.size_toArray,List.length_append,List.length_take,List.length_drop,Array.length_toList,HC.out,hzl];omega
 have HFI:=hid hfin
 have HSZ:=hid hsz2
 have HCL:=hid hcl
 have HG9:=hid (setRow_heap wr r _ R2 _ _ HG.out)
 have HGR9:=hid (aCr (cs:=R2) HGR.out (.inr rfl))
 have hcn:¬cap=i:=by omega
 clear hfin hsz2 hpre hcl eR2 hz1 hzl hzs hk zv
 have hcl:=HCL.out
 go_wp2
 go_ret
 exact ⟨i,R2,rfl,HI.out,by omega,HG9.out,HSZ.out,HFI.out,HGR9.out⟩
end Go.Proofs.YtohblmepajhpaaaGreatDoor
