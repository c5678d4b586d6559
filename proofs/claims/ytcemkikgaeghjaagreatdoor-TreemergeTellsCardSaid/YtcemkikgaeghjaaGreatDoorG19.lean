/- Texts of the walks, together: Walk: merge3.Merge: three texts in one. Walks: similar.Ratio, similar.lone. -/
import Derived.Test.YtcemkikgaeghjaaGreatDoorG18
set_option maxHeartbeats 8000000
set_option maxRecDepth 100000
open Go.Lib (hid)
namespace Go.Proofs.YtcemkikgaeghjaaGreatDoor
open Go.RowKit
theorem aCd {b o t:ByteArray}{w:World}(hm:Lm w)(hb:b.size<=100000)(ho:o.size<=100000)(ht:t.size<=100000) :
  Calls Tryz.prog 60 #[.string b,.string o,.string t] w fun e w'=>e=.returned (.tuple #[.string (merge3F b o t).1,.bool (merge3F b o t).2])/\Below w.heap.size w w':=by
 have HFW:=hid (few3 hb ho ht)
 have hlb:=aBg b
 have hlo:=aBg o
 have hlt:=aBg t
 have HLN:=hid (aOf (linesF b) (linesF o) (linesF t))
 have HM3:=hid (show merge3F b o t=if cleanF (chunksF (linesF b) (linesF o) (linesF t))=true then (joinF (mergedF (chunksF (linesF b) (linesF o) (linesF t))),true) else (ofB ((chunksF (linesF b) (linesF o) (linesF t)).foldl clashTextF []),false) from rfl)
 generalize merge3F b o t=R3 at *
 have K1:=aFz (s:=b) (by omega) hm
 go_enter Tryz.func60,Tryz.ntmps60
 go_wp2_with fail
 refine K1.mono ?_
 rintro e w1 ⟨A1,c1,rfl,hr1,hb1⟩
 have hm1:=hm.below hb1 hm.lt
 have K2:=aFz (s:=o) (w:=w1) (by omega) hm1
 go_wp2_with fail
 refine K2.mono ?_
 rintro e w2 ⟨A2,c2,rfl,hr2,hb2⟩
 have hm2:=hm1.below hb2 hm1.lt
 have K3:=aFz (s:=t) (w:=w2) (by omega) hm2
 go_wp2_with fail
 refine K3.mono ?_
 rintro e w3 ⟨A3,c3,rfl,hr3,hb3⟩
 have K4:=bHi (w:=w3) (by omega) (by omega) (by omega) ((hr1.to hb2 hb2.size).to hb3 hb3.size) (hr2.to hb3 hb3.size) hr3
 have HB3:=hid ((hb1.trans (hb2.mono hb1.size)).trans (hb3.mono (Nat.le_trans hb1.size hb2.size)))
 clear K1 K2 K3 hr1 hr2 hr3 hb1 hb2 hb3 hm1 hm2
 go_wp2_with fail
 refine K4.mono ?_
 rintro e w4 ⟨A4,c4,H4,rfl,hr4,hk4,hb4⟩
 have HB4:=hid (HB3.out.trans (hb4.mono HB3.out.size))
 have HK:=hid (show RdK w4 w4.heap.size A4 c4 (chunksF (linesF b) (linesF o) (linesF t)) from ⟨H4,hr4,hk4⟩)
 clear K4 hr4 hk4 hb4 HB3
 generalize chunksF (linesF b) (linesF o) (linesF t)=L at *
 have hLl:L.length<=300000:=by have:=HLN.out;omega
 have K5:=bBi (by omega) HK.out
 go_wp2_with fail
 refine K5.mono ?_
 rintro e w5 ⟨rfl,hb5⟩
 have HB5:=hid (HB4.out.trans (hb5.mono HB4.out.size))
 have HK:=hid (HK.out.to hb5)
 clear K5 hb5 HB4
 by_cases hcl:cleanF L=true
 ·have HR3:=hid (HM3.out.trans (if_pos hcl))
  rw[hcl]
  have hal:=HFW.out.all
  have K6:=aOi (by omega) (by omega) HK.out
  clear hcl HM3
  go_wp2_with fail
  refine K6.mono ?_
  rintro e w6 ⟨A6,c6,rfl,hr6,hb6⟩
  have HB6:=hid (HB5.out.trans (hb6.mono HB5.out.size))
  have K7:=aXa (by omega) hr6 (by rw[<-aBk,aBw];omega)
  clear K6 hb6 hr6
  go_wp2_with fail
  refine K7.mono ?_
  rintro e w7 ⟨rfl,hb7⟩
  have HB7:=hid (HB6.out.trans (hb7.mono HB6.out.size))
  clear K7 hb7
  go_wp2
  go_ret2
  exact ⟨by rw[HR3.out];rfl,HB7.out⟩
 have HR3:=hid (HM3.out.trans (if_neg hcl))
 have hcl2:cleanF L=false:=by simpa using hcl
 rw[hcl2]
 clear hcl hcl2 HM3
 have hbx:Below w5.heap.size w5 (w5.alloc (.cells #[.pointer none,.slice none 0 0] 139)):=(Below.refl _ _).alloc (Nat.le_refl _) _
 have HBX:=hid hbx
 have hnew:=heap_alloc_new w5 (.cells #[.pointer none,.slice none 0 0] 139)
 have HTX:Hid (Txt w5.heap.size w5.heap.size [] (w5.alloc (.cells #[.pointer none,.slice none 0 0] 139))):=
  .inl ⟨⟨Nat.le_refl _,_,hnew,⟨by simp[Lib.byteCells],.inl ⟨rfl,rfl⟩⟩,by simp[Value.ownBlock]⟩,fun _=>by rw[Lib.cell_of_heap hnew];rfl⟩
 have HBW:=hid (HB5.out.trans (hbx.mono HB5.out.size))
 have HWS0:=hid (show w5.heap.size<(w5.alloc (.cells #[.pointer none,.slice none 0 0] 139)).heap.size by simp)
 clear hbx hnew
 go_wp2
 generalize w5.alloc (.cells #[.pointer none,.slice none 0 0] 139)=W at *
 obtain ⟨tb,htb⟩:∃tb,tb=w5.heap.size:=⟨_,rfl⟩
 have HWS:=hid (show w5.heap.size<W.heap.size from HWS0.out)
 rw[<-htb] at HTX HBX HWS ⊢
 have HB5S:=hid (show w.heap.size<=tb by rw[htb];exact HB5.out.size)
 have HK:=hid (show RdK w5 tb A4 c4 L by rw[htb];exact HK.out)
 have HKR:=hid (show ∀(i:Nat) (k:KV),L[i]? = some k->∃b o A0 c0 A1 c1 A2 c2,A4=some ⟨b,o,none⟩/\b<tb/\w5.cell? ⟨b,o+i*4,none⟩=some (.int .i64 k.kind)/\w5.cell? ⟨b,o+i*4+1,none⟩=some (.slice A0 k.base.length c0)/\w5.cell? ⟨b,o+i*4+2,none⟩=some (.slice A1 k.ours.length c1)/\w5.cell? ⟨b,o+i*4+3,none⟩=some (.slice A2 k.theirs.length c2)/\
  Rd w5 tb 1 A0 k.base.length c0 (k.base.map .string)/\Rd w5 tb 1 A1 k.ours.length c1 (k.ours.map .string)/\Rd w5 tb 1 A2 k.theirs.length c2 (k.theirs.map .string) by rw[htb];rw[htb] at HK;exact fun i k h=>HK.out.at_ h)
 clear htb HK
 go_loopw[28] (fun t28 wr=>∃k:Nat,k<=L.length/\t28=.int .i64 k/\Hid (Below w.heap.size w wr)/\Hid (Below tb w5 wr)/\Hid (Txt tb tb ((L.take k).foldl clashTextF []) wr)/\tb<wr.heap.size) (fun t28 _=>L.length-(intOf t28).toNat)
 case atStart=>exact ⟨0,Nat.zero_le _,rfl,HBW,HBX,HTX,HWS.out⟩
 clear HBW HBX HTX
 obtain ⟨k,hk,rfl,HBW,HBX,HTX,htw⟩:=hrel
 have hfold:=HFW.out.fold k
 by_cases hltk:k<L.length
 ·obtain ⟨⟨kd,Lb,Lo,Lt⟩,hc⟩:∃c,L[k]? = some c:=⟨_,List.getElem?_eq_getElem hltk⟩
  obtain ⟨b0,o0,A0,c0,A1,c1,A2,c2,rfl,hbb,q0,q1,q2,q3,r0,r1,r2⟩:=HKR.out k _ hc
  dsimp only at q0 q1 q2 q3 r0 r1 r2
  replace q0:=(HBX.out.cell (p:=⟨b0,o0+k*4,none⟩) hbb).trans q0
  replace q1:=(HBX.out.cell (p:=⟨b0,o0+k*4+1,none⟩) hbb).trans q1
  replace q2:=(HBX.out.cell (p:=⟨b0,o0+k*4+2,none⟩) hbb).trans q2
  replace q3:=(HBX.out.cell (p:=⟨b0,o0+k*4+3,none⟩) hbb).trans q3
  have hec:=HFW.out.each _ (List.mem_of_getElem? hc)
  dsimp only at hec
  have HFO:=hid (show (L.take (k+1)).foldl clashTextF []=clashTextF ((L.take k).foldl clashTextF []) ⟨kd,Lb,Lo,Lt⟩ by rw[List.take_add_one,hc];simp)
  clear hc
  generalize (L.take k).foldl clashTextF []=S at *
  have hba:Below wr.heap.size wr (wr.alloc (.cells #[.int .i64 kd,.slice A0 Lb.length c0,.slice A1 Lo.length c1,.slice A2 Lt.length c2] 111)):=(Below.refl _ _).alloc (Nat.le_refl _) _
  have HCC:=hid (heap_alloc_new wr (.cells #[.int .i64 kd,.slice A0 Lb.length c0,.slice A1 Lo.length c1,.slice A2 Lt.length c2] 111))
  have HBW:=hid (HBW.out.trans (hba.mono (by have:=HB5S.out;omega)))
  have HBX:=hid (HBX.out.trans (hba.mono (Nat.le_of_lt htw)))
  have HTX:=hid (HTX.out.below hba)
  have HGT:=hid (Nat.ne_of_gt htw)
  have htw:=Nat.lt_of_lt_of_le htw hba.size
  clear hba
  by_cases hkd:kd=5
  ·subst hkd
   have HNX:Hid ((L.take (k+1)).foldl clashTextF []=endedF (endedF (endedF (endedF S++markO++catF Lo)++markB++catF Lb)++markT++catF Lt)++markE):=HFO.out.trans (by unfold clashTextF;rw[if_neg (by simp)])
   obtain ⟨⟨hz0,hz1,hz2⟩,hn0,hn1,hn2⟩:=hec
   have hen:∀s:Bs,(endedF s).length<=s.length+1:=aFy
   have hmk:∀m,m<=3->(markS m).data.toList.length<=20:=fun m hm=>by
    have:m=0\/m=1\/m=2\/m=3:=by omega
    rcases this with rfl | rfl | rfl | rfl<;>decide
   have HEN:=hid hen
   have HMK:=hid hmk
   clear hen hmk
   have K20:=aIw (k:=1) HTX.out (Nat.le_of_lt htw) (by omega) (by omega)
   have hlen20:(endedF S++(markS 1).data.toList).length<=320000+21:=by
    have h1:=HEN.out S
    have h2:=HMK.out 1 (by omega)
    rw[List.length_append];omega
   go_wp2_with fail
   refine K20.mono ?_
   rintro e v20 ⟨rfl,htx,hbx,hkx⟩
   have HBW:=hid (HBW.out.trans (hbx.mono HB5S.out))
   have HBX:=hid (HBX.out.trans hbx)
   have HTX:=hid htx
   have HCC:=hid (hkx _ _ HCC.out (fun e=>by injection e with e;exact HGT.out e) (fun _ _ e=>by injection e with _ e _;exact absurd e (by decide)))
   have htw:=Nat.lt_of_lt_of_le htw hbx.size
   clear K20 htx hbx hkx
   obtain ⟨Y20,hY20⟩:∃Y,Y=(endedF S++(markS 1).data.toList):=⟨_,rfl⟩
   rw[<-hY20] at HTX hlen20
   have HY20:=hid hY20
   clear hY20
   have cc21:v20.cell? ⟨wr.heap.size,2,none⟩=some (.slice A1 Lo.length c1):=by rw[Lib.cell_of_heap HCC.out];rfl
   have K21:=aLv HTX.out (Nat.le_of_lt htw) (by omega) (r1.to HBX.out (Nat.le_of_lt htw)) (by omega)
   have hlen21:(Y20++catF Lo).length<=320021+100000:=by rw[List.length_append];omega
   go_wp2_with fail
   refine K21.mono ?_
   rintro e v21 ⟨rfl,htx,hbx,hkx⟩
   have HBW:=hid (HBW.out.trans (hbx.mono HB5S.out))
   have HBX:=hid (HBX.out.trans hbx)
   have HTX:=hid htx
   have HCC:=hid (hkx _ _ HCC.out (fun e=>by injection e with e;exact HGT.out e) (fun _ _ e=>by injection e with _ e _;exact absurd e (by decide)))
   have htw:=Nat.lt_of_lt_of_le htw hbx.size
   clear K21 htx hbx hkx
   obtain ⟨Y21,hY21⟩:∃Y,Y=(Y20++catF Lo):=⟨_,rfl⟩
   rw[<-hY21] at HTX hlen21
   have HY21:=hid hY21
   clear hY21
   have K22:=aIw (k:=2) HTX.out (Nat.le_of_lt htw) (by omega) (by omega)
   have hlen22:(endedF Y21++(markS 2).data.toList).length<=420021+21:=by
    have h1:=HEN.out Y21
    have h2:=HMK.out 2 (by omega)
    rw[List.length_append];omega
   go_wp2_with fail
   refine K22.mono ?_
   rintro e v22 ⟨rfl,htx,hbx,hkx⟩
   have HBW:=hid (HBW.out.trans (hbx.mono HB5S.out))
   have HBX:=hid (HBX.out.trans hbx)
   have HTX:=hid htx
   have HCC:=hid (hkx _ _ HCC.out (fun e=>by injection e with e;exact HGT.out e) (fun _ _ e=>by injection e with _ e _;exact absurd e (by decide)))
   have htw:=Nat.lt_of_lt_of_le htw hbx.size
   clear K22 htx hbx hkx
   obtain ⟨Y22,hY22⟩:∃Y,Y=(endedF Y21++(markS 2).data.toList):=⟨_,rfl⟩
   rw[<-hY22] at HTX hlen22
   have HY22:=hid hY22
   clear hY22
   have cc23:v22.cell? ⟨wr.heap.size,1,none⟩=some (.slice A0 Lb.length c0):=by rw[Lib.cell_of_heap HCC.out];rfl
   have K23:=aLv HTX.out (Nat.le_of_lt htw) (by omega) (r0.to HBX.out (Nat.le_of_lt htw)) (by omega)
   have hlen23:(Y22++catF Lb).length<=420042+100000:=by rw[List.length_append];omega
   go_wp2_with fail
   refine K23.mono ?_
   rintro e v23 ⟨rfl,htx,hbx,hkx⟩
   have HBW:=hid (HBW.out.trans (hbx.mono HB5S.out))
   have HBX:=hid (HBX.out.trans hbx)
   have HTX:=hid htx
   have HCC:=hid (hkx _ _ HCC.out (fun e=>by injection e with e;exact HGT.out e) (fun _ _ e=>by injection e with _ e _;exact absurd e (by decide)))
   have htw:=Nat.lt_of_lt_of_le htw hbx.size
   clear K23 htx hbx hkx
   obtain ⟨Y23,hY23⟩:∃Y,Y=(Y22++catF Lb):=⟨_,rfl⟩
   rw[<-hY23] at HTX hlen23
   have HY23:=hid hY23
   clear hY23
   have K24:=aIw (k:=3) HTX.out (Nat.le_of_lt htw) (by omega) (by omega)
   have hlen24:(endedF Y23++(markS 3).data.toList).length<=520042+21:=by
    have h1:=HEN.out Y23
    have h2:=HMK.out 3 (by omega)
    rw[List.length_append];omega
   go_wp2_with fail
   refine K24.mono ?_
   rintro e v24 ⟨rfl,htx,hbx,hkx⟩
   have HBW:=hid (HBW.out.trans (hbx.mono HB5S.out))
   have HBX:=hid (HBX.out.trans hbx)
   have HTX:=hid htx
   have HCC:=hid (hkx _ _ HCC.out (fun e=>by injection e with e;exact HGT.out e) (fun _ _ e=>by injection e with _ e _;exact absurd e (by decide)))
   have htw:=Nat.lt_of_lt_of_le htw hbx.size
   clear K24 htx hbx hkx
   obtain ⟨Y24,hY24⟩:∃Y,Y=(endedF Y23++(markS 3).data.toList):=⟨_,rfl⟩
   rw[<-hY24] at HTX hlen24
   have HY24:=hid hY24
   clear hY24
   have cc25:v24.cell? ⟨wr.heap.size,3,none⟩=some (.slice A2 Lt.length c2):=by rw[Lib.cell_of_heap HCC.out];rfl
   have K25:=aLv HTX.out (Nat.le_of_lt htw) (by omega) (r2.to HBX.out (Nat.le_of_lt htw)) (by omega)
   have hlen25:(Y24++catF Lt).length<=520063+100000:=by rw[List.length_append];omega
   go_wp2_with fail
   refine K25.mono ?_
   rintro e v25 ⟨rfl,htx,hbx,hkx⟩
   have HBW:=hid (HBW.out.trans (hbx.mono HB5S.out))
   have HBX:=hid (HBX.out.trans hbx)
   have HTX:=hid htx
   have HCC:=hid (hkx _ _ HCC.out (fun e=>by injection e with e;exact HGT.out e) (fun _ _ e=>by injection e with _ e _;exact absurd e (by decide)))
   have htw:=Nat.lt_of_lt_of_le htw hbx.size
   clear K25 htx hbx hkx
   obtain ⟨Y25,hY25⟩:∃Y,Y=(Y24++catF Lt):=⟨_,rfl⟩
   rw[<-hY25] at HTX hlen25
   have HY25:=hid hY25
   clear hY25
   have K26:=aIw (k:=0) HTX.out (Nat.le_of_lt htw) (by omega) (by omega)
   have hlen26:(endedF Y25++(markS 0).data.toList).length<=620063+21:=by
    have h1:=HEN.out Y25
    have h2:=HMK.out 0 (by omega)
    rw[List.length_append];omega
   go_wp2_with fail
   refine K26.mono ?_
   rintro e v26 ⟨rfl,htx,hbx,hkx⟩
   have HBW:=hid (HBW.out.trans (hbx.mono HB5S.out))
   have HBX:=hid (HBX.out.trans hbx)
   have HTX:=hid htx
   have HCC:=hid (hkx _ _ HCC.out (fun e=>by injection e with e;exact HGT.out e) (fun _ _ e=>by injection e with _ e _;exact absurd e (by decide)))
   have htw:=Nat.lt_of_lt_of_le htw hbx.size
   clear K26 htx hbx hkx
   obtain ⟨Y26,hY26⟩:∃Y,Y=(endedF Y25++(markS 0).data.toList):=⟨_,rfl⟩
   rw[<-hY26] at HTX hlen26
   have HY26:=hid hY26
   clear hY26
   have HFIN:Hid ((L.take (k+1)).foldl clashTextF []=Y26):=by
    unfold Hid
    rw[HNX.out,HY26.out,HY25.out,HY24.out,HY23.out,HY22.out,HY21.out,HY20.out]
    rfl
   go_wp2
   go_roundw
   case rel=>exact ⟨k+1,by omega,by go_num,HBW,HBX,by rw[HFIN.out];exact HTX,htw⟩
   simp[intOf];omega
  have HNX:Hid ((L.take (k+1)).foldl clashTextF []=S++catF (mergedF [⟨kd,Lb,Lo,Lt⟩])):=HFO.out.trans (by unfold clashTextF;rw[if_pos hkd])
  have hMk:(mergedF [(⟨kd,Lb,Lo,Lt⟩:KV)]).length<=100000/\(catF (mergedF [(⟨kd,Lb,Lo,Lt⟩:KV)])).length<=100000:=by
   rw[show mergedF [(⟨kd,Lb,Lo,Lt⟩:KV)]=if kd=3 then Lt else Lo by simp[mergedF]]
   split<;>exact ⟨by omega,by omega⟩
  generalize hU:wr.alloc (.cells #[.int .i64 kd,.slice A0 Lb.length c0,.slice A1 Lo.length c1,.slice A2 Lt.length c2] 111)=U at *
  have HLK:Hid (RdK (U.alloc (.cells #[.int .i64 kd,.slice A0 Lb.length c0,.slice A1 Lo.length c1,.slice A2 Lt.length c2] 111)) (U.alloc (.cells #[.int .i64 kd,.slice A0 Lb.length c0,.slice A1 Lo.length c1,.slice A2 Lt.length c2] 111)).heap.size (some ⟨U.heap.size,0,none⟩) 1 [⟨kd,Lb,Lo,Lt⟩]):=by
   have hbl:Below U.heap.size U (U.alloc (.cells #[.int .i64 kd,.slice A0 Lb.length c0,.slice A1 Lo.length c1,.slice A2 Lt.length c2] 111)):=(Below.refl _ _).alloc (Nat.le_refl _) _
   have hb2:=HBX.out.trans (hbl.mono (Nat.le_of_lt htw))
   refine ⟨[[.int .i64 kd,.slice A0 Lb.length c0,.slice A1 Lo.length c1,.slice A2 Lt.length c2]],?_,⟨A0,c0,A1,c1,A2,c2,rfl,⟨r0.to hb2 (Nat.le_trans (Nat.le_of_lt htw) hbl.size),fun _ _ _ h=>by cases h⟩,⟨r1.to hb2 (Nat.le_trans (Nat.le_of_lt htw) hbl.size),fun _ _ _ h=>by cases h⟩,⟨r2.to hb2 (Nat.le_trans (Nat.le_of_lt htw) hbl.size),fun _ _ _ h=>by cases h⟩⟩,trivial⟩
   simpa using aGi U (.int .i64 kd) (.slice A0 Lb.length c0) (.slice A1 Lo.length c1) (.slice A2 Lt.length c2)
  have hbl:Below U.heap.size U (U.alloc (.cells #[.int .i64 kd,.slice A0 Lb.length c0,.slice A1 Lo.length c1,.slice A2 Lt.length c2] 111)):=(Below.refl _ _).alloc (Nat.le_refl _) _
  have HBW:=hid (HBW.out.trans (hbl.mono (by have:=HB5S.out;omega)))
  have HBX:=hid (HBX.out.trans (hbl.mono (Nat.le_of_lt htw)))
  have HTX:=hid (HTX.out.below hbl)
  have htw:=Nat.lt_of_lt_of_le htw hbl.size
  have K9:=aOi (L:=[⟨kd,Lb,Lo,Lt⟩]) (by simp) (by omega) HLK.out
  generalize mergedF [(⟨kd,Lb,Lo,Lt⟩:KV)]=Mc at *
  subst hU
  rw[show (wr.alloc (.cells #[.int .i64 kd,.slice A0 Lb.length c0,.slice A1 Lo.length c1,.slice A2 Lt.length c2] 111)).heap.size=wr.heap.size+1 by simp] at K9
  simp only[List.length_singleton] at K9
  go_wp2_with fail
  refine K9.mono ?_
  rintro e w9 ⟨A9,c9,rfl,hr9,hb9⟩
  have HBW:=hid (HBW.out.trans (hb9.mono (by have:=HB5S.out;omega)))
  have HBX:=hid (HBX.out.trans (hb9.mono (Nat.le_of_lt htw)))
  have HTX:=hid (HTX.out.below hb9)
  have htw:=Nat.lt_of_lt_of_le htw hb9.size
  have K10:=aLv HTX.out (Nat.le_of_lt htw) (by omega) hr9 (by omega)
  clear K9 hb9 hr9 hbl
  go_wp2_with fail
  refine K10.mono ?_
  rintro e w10 ⟨rfl,ht10,hb10,_⟩
  have HBW:=hid (HBW.out.trans (hb10.mono HB5S.out))
  have HBX:=hid (HBX.out.trans hb10)
  have HTX:=hid ht10
  have htw:=Nat.lt_of_lt_of_le htw hb10.size
  clear K10 ht10 hb10
  go_wp2
  go_roundw
  case rel=>exact ⟨k+1,by omega,by go_num,HBW,HBX,by rw[HNX.out];exact HTX,htw⟩
  simp[intOf];omega
 obtain rfl:k=L.length:=by omega
 rw[List.take_of_length_le (Nat.le_refl _)] at HTX
 have K8:=bAp HTX.out
 go_wp2_with fail
 refine K8.mono ?_
 rintro e w9 ⟨rfl,_,hb9,_⟩
 have HB9:=hid (HBW.out.trans (hb9.mono HB5S.out))
 clear K8 hb9
 go_wp2
 go_ret2
 exact ⟨by rw[HR3.out];rfl,HB9.out⟩
theorem aZy {a b:ByteArray}{w:World}(hm:Lm w)(ha:a.size<=1000000)(hb:b.size<=1000000) :
  Calls Tryz.prog 124 #[.string a,.string b] w fun e w'=>e=.returned (.int .i64 (ratioF a b))/\Below w.heap.size w w':=by
 have hla:=aBg a
 have hlb:=aBg b
 have HRF:=hid (show ratioF a b=if 400<(linesF a).length\/400<(linesF b).length then 0 else if (linesF a).length+(linesF b).length=0 then 100 else ((200*lcs (linesF a) (linesF b) / ((linesF a).length+(linesF b).length):Nat):Int) from rfl)
 generalize ratioF a b=R at *
 have K1:=aFz (s:=a) (by omega) hm
 go_enter Tryz.func124,Tryz.ntmps124
 go_wp2_with fail
 refine K1.mono ?_
 rintro e w1 ⟨A1,c1,rfl,hr1,hb1⟩
 have K2:=aFz (s:=b) (w:=w1) (by omega) (hm.below hb1 hm.lt)
 go_wp2_with fail
 refine K2.mono ?_
 rintro e w2 ⟨A2,c2,rfl,hr2,hb2⟩
 have HB:=hid (hb1.trans (hb2.mono hb1.size))
 have HR1:=hid (hr1.to hb2 hb2.size)
 have HR2:=hid hr2
 clear K1 K2 hr1 hr2 hb1 hb2
 have hcl:=aPc (linesF a) (linesF b)
 generalize linesF a=x at *
 generalize linesF b=y at *
 by_cases h1:400<x.length
 ·have HF:=hid (HRF.out.trans (if_pos (.inl h1)))
  go_wp2
  go_ret
  exact ⟨by rw[HF.out];rfl,HB.out⟩
 by_cases h2:400<y.length
 ·have HF:=hid (HRF.out.trans (if_pos (.inr h2)))
  go_wp2
  go_ret
  exact ⟨by rw[HF.out];rfl,HB.out⟩
 by_cases h3:x.length+y.length=0
 ·have HF:=hid (HRF.out.trans ((if_neg (by omega)).trans (if_pos h3)))
  have hx0:x.length=0:=by omega
  have hy0:y.length=0:=by omega
  obtain rfl:=List.length_eq_zero_iff.1 hx0
  obtain rfl:=List.length_eq_zero_iff.1 hy0
  clear h1 h2 h3 hx0 hy0 hcl
  go_wp2
  go_ret
  exact ⟨by rw[HF.out];rfl,HB.out⟩
 have HF:=hid (HRF.out.trans ((if_neg (by omega)).trans (if_neg h3)))
 have K3:=aZk (by omega) (by omega) HR1.out HR2.out
 generalize lcs x y=v at *
 generalize hxl:x.length=nx at *
 generalize hyl:y.length=ny at *
 clear hxl hyl HR1 HR2
 have hnz:¬((nx:Int)+ny=0):=by omega
 have hnz2:((nx:Int)+ny == 0)=false:=by simpa using hnz
 go_wp2_with fail
 refine K3.mono ?_
 rintro e w3 ⟨rfl,hb3⟩
 have HB3:=hid (HB.out.trans (hb3.mono HB.out.size))
 clear K3 hb3
 go_wp2
 go_ret
 exact ⟨by rw[HF.out];push_cast;rfl,HB3.out⟩
def isLone (l other:List FV)(i:Nat):Bool:=match l[i]? with
 | some f=>(findP other f.path).isNone && !decide (f.text=⟨#[]⟩)
 | none=>false
theorem aEa (l other:List FV):loneF l other=(List.range l.length).filter (isLone l other):=rfl
theorem aXj (p:Nat->Bool)(k:Nat):(List.range (k+1)).filter p=(List.range k).filter p++if p k then [k] else []:=by
 rw[List.range_succ,List.filter_append];congr 1
 cases h:p k<;>simp[h]
theorem aTh (p:Nat->Bool)(k:Nat):((List.range k).filter p).length<=k:=by
 have:=List.length_filter_le p (List.range k);simpa using this
def natsV (l:List Nat):List Value:=l.map fun i:Nat=>Value.int .i64 (i:Int)
theorem aXi:Elem Tryz.prog 79 3 1 8:=aCw (by kernel_rfl)
theorem bFc (l:List Nat):∀u∈natsV l,u.oneCell'=true:=by
 intro u hu
 obtain ⟨s,_,rfl⟩:=List.mem_map.1 hu
 rfl
theorem bGn (w:World)(i:Nat):Rd (w.alloc (.cells #[.int .i64 (i:Int)] 3)) (w.alloc (.cells #[.int .i64 (i:Int)] 3)).heap.size 1 (some ⟨w.heap.size,0,none⟩) 1 1 (natsV [i]):=
 ⟨rfl,Nat.le_refl _,fun _=>⟨_,0,rfl,by simp,fun j u hu=>by
  rw[Nat.zero_add,World.cell?,heap_alloc_new]
  simpa[natsV] using hu⟩⟩
theorem bEn (w:World)(g i:Nat)(hg:g=w.heap.size):Rd (w.alloc (.cells #[.int .i64 (i:Int)] 3)) (w.alloc (.cells #[.int .i64 (i:Int)] 3)).heap.size 1 (some ⟨g,0,none⟩) 1 1 (natsV [i]):=by
 subst hg;exact bGn w i
def NatsIs (L:List Nat)(w:World)(e:Ending) (w':World):Prop:=∃v,e=.returned v/\w'.ownsRow w.heap.size 3 1 v L.length (natsV L)/\Below w.heap.size w w'
theorem aJh {A B:Option Addr}{n ca m cb:Nat}{l other:List FV}{w:World}(hn:n<=100000)(hm:m<=100000)(ha:RdF w w.heap.size A n ca l)(hb:RdF w w.heap.size B m cb other) :
  Calls Tryz.prog 82 #[.slice A n ca,.slice B m cb] w (NatsIs (loneF l other) w):=by
 have HL:=hid ha.len
 rw[aEa]
 go_enter Tryz.func82,Tryz.ntmps82
 go_wp2
 go_loopw[5,12] (fun out i wr=>∃k:Nat,k<=n/\i=.int .i64 k/\Hid (Below w.heap.size w wr)/\Hid (wr.ownsRow w.heap.size 3 1 out ((List.range k).filter (isLone l other)).length (natsV ((List.range k).filter (isLone l other))))) (fun _ i _=>n-(intOf i).toNat)
 case atStart=>exact ⟨0,Nat.zero_le _,rfl,hid (Below.refl _ _),World.ownsRow_nil _ _ _ _⟩
 obtain ⟨k,hk,rfl,HB,HO⟩:=hrel
 have hle:=aTh (isLone l other) k
 by_cases hlt:k<n
 ·obtain ⟨b0,o0,f,rfl,hbb,hx,hmem,h0,h1,h2⟩:=ha.get hlt
  replace h0:=(HB.out.cell (p:=⟨b0,o0+k*3,none⟩) (by show b0<_;omega)).trans h0
  replace h1:=(HB.out.cell (p:=⟨b0,o0+k*3+1,none⟩) (by show b0<_;omega)).trans h1
  replace h2:=(HB.out.cell (p:=⟨b0,o0+k*3+2,none⟩) (by show b0<_;omega)).trans h2
  have HST:=hid (aXj (isLone l other) k)
  have HIS:=hid (show isLone l other k=((findP other f.path).isNone && !decide (f.text=⟨#[]⟩)) by unfold isLone;rw[hx])
  clear hx hmem
  obtain ⟨fp,fx,ft⟩:=f
  dsimp only at h0 h1 h2
  have hba:=HB.out.alloc HB.out.size (.cells #[.string fp,.bool fx,.string ft] 28)
  have hoa:=HO.out.alloc (.cells #[.string fp,.bool fx,.string ft] 28)
  have HCB:=hid (heap_alloc_new wr (.cells #[.string fp,.bool fx,.string ft] 28))
  have hlt2:wr.heap.size<(wr.alloc (.cells #[.string fp,.bool fx,.string ft] 28)).heap.size:=by simp
  have KF:=aJg (p:=fp) (by omega) (hb.to hba hba.size)
  have HBA:=hid hba
  have HOA:=hid hoa
  clear hba hoa HB HO
  generalize (List.range k).filter (isLone l other)=P at *
  generalize hpl:P.length=np at *
  have HPL:=hid hpl
  clear hpl
  go_wp2_with fail
  refine KF.mono ?_
  rintro e w1 ⟨rfl,hb1⟩
  have HB1:=hid (HBA.out.trans (hb1.mono HBA.out.size))
  have HO1:=hid (aAe HOA.out hb1)
  have hbox:=(hb1.block _ hlt2).trans HCB.out
  clear KF hb1 HBA HOA HCB hlt2
  generalize optF (findP other fp)=g at *
  obtain ⟨gp,gx,gt⟩:=g
  dsimp only
  generalize wr.heap.size=bx at *
  have k0:w1.cell? ⟨bx,0,none⟩=some (.string fp):=by rw[Lib.cell_of_heap hbox];rfl
  have k2:w1.cell? ⟨bx,2,none⟩=some (.string ft):=by rw[Lib.cell_of_heap hbox];rfl
  have hbxl:bx<w1.heap.size:=by
   rcases Nat.lt_or_ge bx w1.heap.size with h' | h'
   ·exact h'
   simp[Array.getElem?_eq_none h'] at hbox
  have hb2:Below w1.heap.size w1 (w1.alloc (.cells #[.string gp,.bool gx,.string gt] 28)):=(Below.refl _ _).alloc (Nat.le_refl _) _
  have k2':=(hb2.cell (p:=⟨bx,2,none⟩) hbxl).trans k2
  have HB2:=hid (HB1.out.trans (hb2.mono HB1.out.size))
  have HO2:=hid (HO1.out.alloc (.cells #[.string gp,.bool gx,.string gt] 28))
  clear hb2 HB1 HO1 hbox k0 k2
  cases hF:findP other fp with
  | some y=>
   have HP2:Hid ((List.range (k+1)).filter (isLone l other)=P):=by unfold Hid;rw[HST.out,HIS.out,hF];simp
   clear hF HST HIS
   simp only[Option.isSome_some]
   go_wp2
   go_roundw
   case rel=>exact ⟨k+1,by omega,by go_num,HB2,by rw[HP2.out,HPL.out];exact HO2⟩
   simp[intOf];omega
  | none=>
   simp only[Option.isSome_none]
   by_cases ht:ft=⟨#[]⟩
   ·have HP2:Hid ((List.range (k+1)).filter (isLone l other)=P):=by unfold Hid;rw[HST.out,HIS.out,hF];simp[ht]
    subst ht
    clear hF HST HIS
    go_wp2
    go_roundw
    case rel=>exact ⟨k+1,by omega,by go_num,HB2,by rw[HP2.out,HPL.out];exact HO2⟩
    simp[intOf];omega
   have HP2:Hid ((List.range (k+1)).filter (isLone l other)=P++[k]):=by unfold Hid;rw[HST.out,HIS.out,hF];simp[ht]
   have e0:=aBe ht
   have e1:ft.toList.isEmpty=false:=by
    cases h:ft.toList with
    | nil=>rw[h] at e0;simp at e0
    | cons=>rfl
   clear hF HST HIS ht e0
   have HB3:=hid (HB2.out.alloc HB2.out.size (.cells #[.int .i64 (k:Int)] 3))
   have HO3:=hid (HO2.out.alloc (.cells #[.int .i64 (k:Int)] 3))
   have HLI:=hid (bEn (w1.alloc (.cells #[.string gp,.bool gx,.string gt] 28)) (w1.heap.size+1) k (by simp))
   go_wp2_with (at_builtin;refine aAm rfl (.tmp 31) (.tmp 33) 79 rfl aXi rfl rfl HO3.out HLI.out (bFc _) (by unfold maxLen;omega) (by omega) HB3.out.size ?_;intro v7 w7 ho7 hg7 hv7)
   have HB7:=hid (HB3.out.grown hg7 HB3.out.size (fun g hg=>(HO3.out.lt g hg).1))
   have HO7:=hid ho7
   clear ho7 hg7 hv7 HO3 HB3 HLI HO2 HB2
   go_roundw
   case rel=>exact ⟨k+1,by omega,by go_num,HB7,by rw[HP2.out,List.length_append,HPL.out];unfold natsV;rw[List.map_append];exact HO7⟩
   simp[intOf];omega
 obtain rfl:k=n:=by omega
 go_wp2
 go_ret
 exact ⟨_,rfl,by rw[HL.out];exact HO.out,HB.out⟩
end Go.Proofs.YtcemkikgaeghjaaGreatDoor
