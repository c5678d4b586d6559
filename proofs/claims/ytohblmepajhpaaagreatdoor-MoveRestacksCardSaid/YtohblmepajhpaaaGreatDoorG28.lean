/- Contracts of functions that the law reaches, and plain laws of what they compute. -/
import Derived.Test.YtohblmepajhpaaaGreatDoorRows
import Derived.Test.YtohblmepajhpaaaGreatDoorCards
import Derived.Test.YtohblmepajhpaaaGreatDoorTie
import Derived.ProofKit
import Derived.OpenShut
import Derived.Deep.DeepHandedRow
import Derived.SevenTiedAt
import Derived.SizedLaws
import Derived.SliceStrings
import Derived.ChangeArms
import Derived.ChangeSame
import Derived.ChangeOld
import Derived.ChangeSlices
import Derived.Test.YtohblmepajhpaaaGreatDoorG01
import Derived.Test.YtohblmepajhpaaaGreatDoorG03
import Derived.Test.YtohblmepajhpaaaGreatDoorG04
import Derived.Test.YtohblmepajhpaaaGreatDoorG06
import Derived.Test.YtohblmepajhpaaaGreatDoorG09
import Derived.Test.YtohblmepajhpaaaGreatDoorG15
import Derived.Test.YtohblmepajhpaaaGreatDoorG24
import Derived.Test.YtohblmepajhpaaaGreatDoorG25
import Derived.Test.YtohblmepajhpaaaGreatDoorG27
set_option maxHeartbeats 16000000
set_option maxRecDepth 100000
open Go.Lib (hid)
namespace Go.Proofs.YtohblmepajhpaaaGreatDoor
open Go.RowKit
def RestIs (s:List SettL)(l:List FL)(k:List (Int×List Int))(w:World)(e:Ending) (w':World):Prop:=∃r,RestR s l.length k.length true l k r/\MovedIs [] 0 r w e w'
theorem aYo {s:List SettL}{l:List FL}{ms:List MV}{i t:Int}:allF s (moved (parF l) ms i) l i t=allF s (moved (parF l) (mvs (ms.map MV.pl)) i) l i t:=by
 rw[aUl (aEn ms)]
theorem aIt (l:List FLV):parF (l.map FLV.pl)=l.map FLV.parent:=by
 unfold parF;rw[List.map_map];rfl
theorem aWl {w:World}{A AK SA:Option Addr}{c ck sn sc:Nat}{l:List FLV}{ms:List MV}{sl:List STV}(hL:Lm w)(hn:l.length<=64)(hm:ms.length<=64)(hsn:sn<=maxLen)(hrl:rightL (l.map FLV.pl) ms=true)(hfw:∀p∈ms.map MV.pl,p.2.length<=12)
  (r1:RdFl w w.heap.size A l.length c l) (r2:RdM w w.heap.size AK ms.length ck ms) (r3:RdS w w.heap.size SA sn sc sl) :
  Calls Tryz.prog 27 #[.slice A l.length c,.slice AK ms.length ck,.slice SA sn sc] w (RestIs (sl.map STV.pl) (l.map FLV.pl) (ms.map MV.pl) w):=by
 obtain ⟨W,eW⟩:∃W,W=w.alloc (.cells #[.slice none 0 0,.slice none 0 0,.int .i64 0,.slice none 0 0,.slice none 0 0] 32):=⟨_,rfl⟩
 have hbW:Below w.heap.size w W:=by rw[eW];exact (Below.refl _ _).alloc (Nat.le_refl _) _
 have hbox:W.heap[w.heap.size]? = some (.cells #[.slice none 0 0,.slice none 0 0,.int .i64 0,.slice none 0 0,.slice none 0 0] 32 (0,0)):=by rw[eW];exact heap_alloc_new _ _
 have HBX:=hid hbox
 have HBW:=hid hbW
 have hlen:(l.map FLV.pl).length=l.length:=List.length_map ..
 have hklen:(ms.map MV.pl).length=ms.length:=List.length_map ..
 have HI0:=hid (show RInv (sl.map STV.pl) (l.map FLV.pl) (ms.map MV.pl) true (l.map FLV.pl) (ms.map MV.pl) from RInv.start
  ⟨by unfold rightL at hrl;simp only[Bool.and_eq_true] at hrl;exact hrl.1.1,by
   unfold rightL at hrl
   simp only[Bool.and_eq_true] at hrl
   have h:=hrl.2
   unfold rightM at h ⊢
   rw[mvs,List.all_map,List.all_map]
   exact h⟩ (by rw[hlen];omega) hfw)
 have HR3:=hid (r3.to hbW hbW.size)
 have HLW:=hid (hL.to hbW)
 have HSN:=hid hsn
 have HNN:=hid (And.intro hlen hklen)
 have KB:=aOb (Z:=[w.heap.size]) (SA:=SA) (sn:=sn) (sc:=sc) (hL.to hbW) (by omega) (by omega) (r1.to hbW hbW.size) (r2.to hbW hbW.size) (fun z hz=>by rw[List.mem_singleton.1 hz];exact aAa hbox)
  (fun f hf a e hn hm=>by
   obtain ⟨b,o,e2,hb,_⟩:=(r1.parts f hf).1.row.at_ hn
   rw[e] at e2;cases e2
   exact Nat.ne_of_lt hb (List.mem_singleton.1 hm))
  (fun m hx a e hn hm=>by
   obtain ⟨b,o,e2,hb,_⟩:=(r2.parts m hx).1.at_ hn
   rw[e] at e2;cases e2
   exact Nat.ne_of_lt hb (List.mem_singleton.1 hm))
 rw[eW] at KB
 have HRL:=hid hrl
 clear r1 r2 r3 hbW hbox hL hsn hlen hklen hrl hfw
 go_enter Tryz.func27,Tryz.ntmps27
 go_wp2_with fail
 rw[<-eW] at KB ⊢
 refine KB.mono ?_
 rintro e w1 ⟨hb1,hif⟩
 rw[if_pos HRL.out] at hif
 obtain ⟨mb,fv,kv,rfl,hM⟩:=hif
 have HM1:=hid hM
 clear KB hb1 hM eW HRL
 go_wp2
 go_loopg [9] 2001 (fun gg bv wr=>∃(b:Bool) (fl:List FLV) (ms':List MV) (fv kv:Value),2001-fl.length<=gg/\bv=.bool b/\Hid (Mov [w.heap.size] W wr mb l.length ms.length (.slice SA sn sc) fv kv fl ms')/\Hid (RInv (sl.map STV.pl) (l.map FLV.pl) (ms.map MV.pl) b (fl.map FLV.pl) (ms'.map MV.pl)))
 case atStart=>exact ⟨true,l,ms,fv,kv,by omega,rfl,HM1,HI0⟩
 obtain ⟨b,fl,ms',fv,kv,hgg,rfl,HM,HI⟩:=hrel
 clear HM1 HI0
 have hfl:fl.length<=2000:=by have:=HI.out.lim;rw[List.length_map] at this;exact this
 have hms:ms'.length<=2064:=by have:=HI.out.cnt;rw[List.length_map,List.length_map,List.length_map,List.length_map] at this;omega
 have HFW:=hid (bCz HI.out.few (by omega))
 obtain ⟨V,eV⟩:∃V,V=wr.drew:=⟨_,rfl⟩
 have HMV:=hid (show Mov [w.heap.size] W V mb l.length ms.length (.slice SA sn sc) fv kv fl ms' by rw[eV];exact HM.out.below ((Below.refl _ _).drew))
 obtain ⟨AF,cf,efv,hrf⟩:=HMV.out.rdFl
 obtain ⟨AK2,ck2,ekv,hrk⟩:=HMV.out.rdM
 have K1:=aHk HMV.out.hs (show (movC fv kv l.length ms.length (.slice SA sn sc))[0]? = some (.slice AF fl.length cf) by rw[efv];rfl) hrf.row rfl (by omega)
 have HRK:=hid hrk
 have HEK:=hid ekv
 clear efv ekv hrf hrk HM
 go_wp2
 refine aAs (fun u=>Below V.heap.size V u) (.q 0 (.q 2 (.q 3 (.q 4 (.q 5 (.one 1 (.one 6 (.q 7 (.q 8 (.q 9 (.q 10 (.q 11 (.q 12 (.q 13 .leaf)))))))))))))) mixed (by kernel_rfl) (by rw[<-eV];exact Below.refl _ _) ?_
 intro Tp M Q hT hT' hM hQ
 rw[<-eV]
 clear eV
 have m1:M ⟨mb,1,none⟩=some (.slice AK2 ms'.length ck2):=hM _ _ fun w' hw=>(hw.cell (p:=⟨mb,1,none⟩) (aAa HMV.out.hs)).trans (by rw[Lib.cell_of_heap HMV.out.hs,<-HEK.out];rfl)
 clear hM
 refine aCj ?_
 intro O hO
 have t0:=hO true 0
 have t2:=hO true 2
 have t3:=hO true 3
 have t4:=hO true 4
 have t5:=hO true 5
 have t7:=hO true 7
 have t8:=hO true 8
 have t9:=hO true 9
 have t10:=hO true 10
 have t11:=hO true 11
 have t12:=hO true 12
 have t13:=hO true 13
 have e1:=hO false 1
 have e6:=hO false 6
 simp only[qcmp] at t0 t2 t3 t4 t5 t7 t8 t9 t10 t11 t12 t13 e1 e6
 clear hO
 simp (maxSteps:=9^7) only[↓wt_q,↓aAj,t0,t2,t3,t4,t5,e1,↓qpre,aAb,aAe,aAc,m1]
 refine aAi (by kernel_rfl) K1 rfl rfl ?_
 rintro e u1 ⟨A4,c4,l4,rfl,r4,hb1,rfl,_⟩
 have K2:=aYj (l:=fl.map FLV.parent) (by rw[List.length_map];omega) r4 (by unfold maxLen;omega) (HRK.out.to hb1 hb1.size) HFW.out
 rw[List.length_map] at K2 ⊢
 refine ⟨_,rfl,hT _ hb1,?_⟩
 simp (maxSteps:=9^7) only[↓aAj,e6,aAb,aAc]
 refine aAi (by kernel_rfl) K2 rfl rfl ?_
 rintro e u2 ⟨oi,ot,os,rfl,hor,hb2⟩
 have hb2':=hb1.trans (hb2.mono hb1.size)
 refine ⟨_,rfl,hT _ hb2',?_⟩
 simp (maxSteps:=9^7) only[↓wt_q,↓aBy,t7,t8,t9,t10,t11,t12,t13,↓qpre,aAb,aAc]
 simp only[exq3.1,exq3.2.1,exq3.2.2]
 refine hQ _ _ ?_
 have HM2:=hid (HMV.out.below hb2')
 have HOR:=hid (show OrphanIs (parF (fl.map FLV.pl)) (mvs (ms'.map MV.pl)) oi ot os by rw[aIt];exact hor.alike (aEn ms'))
 have HX2:=hid ((HM2.out.bel.block _ (aAa HBX.out)).trans HBX.out)
 have HBA:=hid (HBW.out.trans (HM2.out.bel.mono HBW.out.size))
 clear hQ hT hT' K1 K2 m1 t0 t2 t3 t4 t5 t7 t8 t9 t10 t11 t12 t13 e1 e6 r4 hb1 hb2 hb2' hor HMV HRK HEK HFW
 clear Tp M Q O
 cases os with
 | false=>
  have HO1:=hid (show OrphanIs (parF (fl.map FLV.pl)) (mvs (ms'.map MV.pl)) (-1) (-1) false by have h:=HOR.out;cases h with | none_ q=>exact .none_ q)
  cases b with
  | true=>
   have HE:=hid (HI.out.goes _ (.nothing HO1.out))
   have hz:=aGs
   clear HOR HO1
   go_wp2_with (refine wpList_store_row rfl 32 (.tmp 6) (.tmp 39) rfl w.heap.size #[.slice none 0 0,.slice none 0 0,.int .i64 0,.slice none 0 0,.slice none 0 0] rfl rfl _ _ HX2.out aBk rfl (by simp[Value.oneCell']) ?_)
   try simp only[Exit.inBlock,Exit.then]
   refine bodyPost_ret (aAl rfl _ _ w.heap.size _ _ (0,0) _ rfl (setRow_heap _ _ _ _ _ _ HX2.out) Tryz.underlying32 rfl aBk) rfl ?_
   exact ⟨_,HE.out,aGi (aAk HBA.out (Nat.le_refl _))⟩
  | false=>
   have KT:=aOn HM2.out (E:=l.length) (S:=ms.length) (by have:=HI.out.pos;rw[List.length_map,List.length_map] at this;exact this) (by have h1:=HI.out.pos;have h2:=HI.out.cnt;simp only[List.length_map] at h1 h2;omega) (by omega) (by omega)
   obtain ⟨r,hr⟩:∃r:MR×Int,r=(⟨(fl.map FLV.pl).drop l.length,(ms'.map MV.pl).drop ms.length,-1,[],[]⟩,0):=⟨_,rfl⟩
   rw[<-hr] at KT
   have HE:=hid (show RestR (sl.map STV.pl) (l.map FLV.pl).length (ms.map MV.pl).length true (l.map FLV.pl) (ms.map MV.pl) r by
    rw[hr,<-HNN.out.1,<-HNN.out.2];exact HI.out.goes _ (.done HO1.out))
   clear HOR HO1 hr
   go_wp2_with fail
   refine KT.mono ?_
   rintro e w4 hmv
   have hb4:=hmv.1
   obtain ⟨AN,AKK,AF,AC,cn,ckk,cf,cc,nl,kl,rfl,hset⟩:=hmv.set (aAa HBX.out)
   have hbx4:=(hb4.block _ (aAa HX2.out)).trans HX2.out
   have HSET:=hid hset
   have HB4:=hid (HBA.out.trans (hb4.mono HBA.out.size))
   clear KT hmv hset hb4
   go_wp2_with (refine wpList_store_row rfl 32 (.tmp 6) (.tmp 45) rfl w.heap.size #[.slice AN nl.length cn,.slice AKK kl.length ckk,.int .i64 r.1.commit,.slice AF r.1.files.length cf,.slice AC r.1.clashes.length cc] rfl rfl _ _ hbx4 aBk rfl (by simp[Value.oneCell']) ?_)
   try simp only[Exit.inBlock,Exit.then]
   refine bodyPost_ret (aAl rfl _ _ w.heap.size _ _ (0,0) _ rfl (setRow_heap _ _ _ _ _ _ hbx4) Tryz.underlying32 rfl aBk) rfl ?_
   exact ⟨_,HE.out,HSET.out w (fun cs=>aAk HB4.out (Nat.le_refl _)) _⟩
 | true=>
  have hor2:=HOR.out
  have htg:0<=oi/\oi<fl.length/\-1<=ot/\ot<fl.length:=by
   have hpl:(parF (fl.map FLV.pl)).length=fl.length:=by unfold parF;simp
   cases hor2 with
   | some_ _ hj ho _=>
    have:=aNg HI.out.good.mks (by rw[hpl,List.length_map]) ho.2.2.2.1
    rw[List.length_map] at this
    rw[hpl] at hj
    exact ⟨by omega,by omega,this.1,this.2.1⟩
  clear hor2
  have K3:=aWt (source:=oi) (dest:=ot) HLW.out HM2.out hfl (by omega) HSN.out HR3.out HI.out.good.par htg.1 htg.2.1 htg.2.2.1 htg.2.2.2
  obtain ⟨r,hr⟩:∃r,r=allF (sl.map STV.pl) (moved (parF (fl.map FLV.pl)) ms' oi) (fl.map FLV.pl) oi ot:=⟨_,rfl⟩
  rw[<-hr] at K3
  have HRA:=hid (show allF (sl.map STV.pl) (moved (parF (fl.map FLV.pl)) (mvs (ms'.map MV.pl)) oi) (fl.map FLV.pl) oi ot=r by rw[hr];exact aYo.symm)
  clear hr htg
  go_wp2_with fail
  refine K3.mono ?_
  rintro e w3 hall
  clear K3
  cases r with
  | error x=>
   have hst:StopIs W mb x e w3:=hall
   obtain ⟨hb3,q2,q3,_⟩:=id hst
   have HE:=hid (HI.out.goes _ (.stop HOR.out HRA.out))
   have KT:∃k:Int,e=.returned (.tuple #[.bool false,.int .i64 k])/\Calls Tryz.prog 37 #[.pointer (some ⟨mb,0,none⟩),.bool false,.int .i64 k] w3 (MovedIs [w.heap.size] W.heap.size x w3):=by
    obtain ⟨x1,x2⟩:=x
    refine ⟨x2,q2,?_⟩
    by_cases hx:x2=0
    ·subst hx
     exact aIh hst rfl
    rw[show ((x1,x2):MR×Int)=(noMR,x2) from congrArg (·,x2) (q3 hx)]
    exact aNm hx
   obtain ⟨k,rfl,KT⟩:=KT
   have HX3:=hid ((hb3.block _ (aAa HBX.out)).trans HBX.out)
   have HBA3:=hid (HBW.out.trans (hb3.mono HBW.out.size))
   clear hall hst q2 q3 hb3 HOR HRA HX2 HBA HM2
   go_wp2_with fail
   refine KT.mono ?_
   rintro e w4 hmv
   have hb4:=hmv.1
   obtain ⟨AN,AKK,AF,AC,cn,ckk,cf,cc,nl,kl,rfl,hset⟩:=hmv.set (aAa HBX.out)
   have hbx4:=(hb4.block _ (aAa HX3.out)).trans HX3.out
   have HSET:=hid hset
   have HB4:=hid (HBA3.out.trans (hb4.mono HBA3.out.size))
   clear KT hmv hset hb4
   go_wp2_with (refine wpList_store_row rfl 32 (.tmp 6) (.tmp 59) rfl w.heap.size #[.slice AN nl.length cn,.slice AKK kl.length ckk,.int .i64 x.1.commit,.slice AF x.1.files.length cf,.slice AC x.1.clashes.length cc] rfl rfl _ _ hbx4 aBk rfl (by simp[Value.oneCell']) ?_)
   try simp only[Exit.inBlock,Exit.then]
   refine bodyPost_ret (aAl rfl _ _ w.heap.size _ _ (0,0) _ rfl (setRow_heap _ _ _ _ _ _ hbx4) Tryz.underlying32 rfl aBk) rfl ?_
   exact ⟨_,HE.out,HSET.out w (fun cs=>aAk HB4.out (Nat.le_refl _)) _⟩
  | ok x=>
   obtain ⟨l',k'⟩:=x
   obtain ⟨q1,fv',kv',fl',ms2,q2,q3,q4,_⟩:=hall
   subst q1
   obtain ⟨hi1,hi2⟩:=HI.out.next HOR.out HRA.out
   rw[<-q2,<-q3] at hi1
   rw[<-q2,List.length_map,List.length_map] at hi2
   have HI2:=hid hi1
   have HM3:=hid q4
   have hfl2:fl'.length<=2000:=by have:=hi1.lim;rw[List.length_map] at this;exact this
   clear q2 q3 q4 hi1 HOR HRA HX2 HBA HM2 HI
   go_wp2
   go_roundg (2001-fl'.length)
   case measure=>omega
   exact ⟨false,fl',ms2,fv',kv',Nat.le_refl _,rfl,HM3,HI2⟩
theorem aFn {w:World}{n c:Nat}{A:Option Addr}{l:List FLV}(hn:n<=1000000)(hr:RdFl w w.heap.size A n c l) :
  Calls Tryz.prog 15 #[.slice A n c] w (Ints (·=l.map FLV.parent) w):=by
 have HR:=hid hr
 have HL:=hid hr.len
 clear hr
 go_enter Tryz.func15,Tryz.ntmps15
 go_wp2
 go_loopw[3,4] (fun ov i wr=>∃k:Nat,k<=n/\i=.int .i64 k/\Below w.heap.size w wr/\wr.ownsRow w.heap.size 3 1 ov k (((l.take k).map FLV.parent).map (.int .i64))) (fun _ i _=>n-(intOf i).toNat)
 case atStart=>exact ⟨0,Nat.zero_le _,rfl,Below.refl _ _,by rw[List.take_zero];exact World.ownsRow_nil _ _ _ _⟩
 obtain ⟨k,hk,rfl,hb,ho⟩:=hrel
 by_cases hlt:k<n
 ·obtain ⟨b0,o0,f,rfl,hbb,hx,_,g0,_,_⟩:=HR.out.get hlt
  replace g0:=(hb.cell (p:=⟨b0,o0+k*3,none⟩) hbb).trans g0
  have HX:=hid hx;clear hx
  have hb2:=hb.alloc hb.size (.cells #[.int .i64 f.parent] 3)
  have ho2:=ho.alloc (.cells #[.int .i64 f.parent] 3)
  go_wp2_with (at_builtin;refine aAp rfl (.tmp 11) (.tmp 17) 36 rfl E28 rfl rfl ho2 (aBi wr f.parent) (aAq _) (by unfold maxLen;omega) (by omega) hb2.size ?_;intro v7 w7 ho7 hg7 hv7)
  go_roundw
  case rel=>
   refine ⟨k+1,by omega,by go_num,hb2.grown hg7 hb2.size (fun g hg=>(ho2.lt g hg).1),?_⟩
   rw[List.take_add_one,HX.out,List.map_append,List.map_append]
   exact ho7
  simp[intOf];omega
 have hkn:k=n:=by omega
 subst hkn
 rw[List.take_of_length_le (by rw[HL.out];omega)] at ho
 obtain ⟨A',c',rfl,hc'⟩:=aAd ho
 go_wp2
 go_ret
 have hlen:(l.map FLV.parent).length=k:=by rw[List.length_map];exact HL.out
 exact ⟨A',c',l.map FLV.parent,by rw[hlen];rfl,by rw[hlen];exact Rd.of_own ho hc',hb,rfl⟩
theorem RdFl.app {w:World}{base n m:Nat}{v:Value}{l k:List FLV}(ho:w.ownsRow base 40 3 v (n+m) (l.flatMap FLV.cells++k.flatMap FLV.cells))(hl:l.length=n)(hk:k.length=m)
  (h1:∀f∈l,RdF w w.heap.size f.A f.files.length f.c f.files/\f.files.length<=17592186044416/\I64 f.parent/\f.msg.size<=140737488351232) (h2:∀f∈k,RdF w w.heap.size f.A f.files.length f.c f.files/\f.files.length<=17592186044416/\I64 f.parent/\f.msg.size<=140737488351232) :
  ∃A c,v=.slice A (n+m) c/\RdFl w w.heap.size A (n+m) c (l++k):=by
 obtain ⟨A,c,rfl,hc⟩:=aAd ho
 exact ⟨A,c,rfl,by rw[List.flatMap_append];exact Rd.of_own ho hc,by rw[List.length_append,hl,hk],fun f hf=>(List.mem_append.1 hf).elim (h1 f) (h2 f)⟩
theorem RdM.app {w:World}{base n m:Nat}{v:Value}{l k:List MV}(ho:w.ownsRow base 43 2 v (n+m) (l.flatMap MV.cells++k.flatMap MV.cells)){A B:Option Addr}{c d:Nat}(h1:RdM w w.heap.size A n c l)(h2:RdM w w.heap.size B m d k) :
  ∃A c,v=.slice A (n+m) c/\RdM w w.heap.size A (n+m) c (l++k):=by
 obtain ⟨A,c,rfl,hc⟩:=aAd ho
 exact ⟨A,c,rfl,by rw[List.flatMap_append];exact Rd.of_own ho hc,by rw[List.length_append,h1.len,h2.len],fun f hf=>(List.mem_append.1 hf).elim (h1.parts f) (h2.parts f)⟩
theorem bEc {A A2:Option Addr}{c m c2:Nat}{l:List Int}{ms:List MV}{w:World}(hn:l.length<=1000000)(h:Rd w w.heap.size 1 A l.length c (l.map (.int .i64)))(hm:m<=maxLen)(h2:RdM w w.heap.size A2 m c2 ms) :
  Calls Tryz.prog 33 #[.slice A l.length c,.slice A2 m c2] w (Ints (·=liveL l ms) w):=by
 have HC:=hid (fun (u:World) (hu:Below w.heap.size w u)=>aDt hn (h.to hu hu.size))
 cases hr:rightP l with
 | false=>
  have e:liveL l ms=[]:=by unfold liveL;rw[if_neg (by rw[hr];simp)]
  rw[e]
  rw[hr] at HC
  clear e hr h2 h
  generalize l.length=n at *
  go_enter Tryz.func33,Tryz.ntmps33
  go_wp2
  go_loopw[5,6] (fun ov iv wr=>ov=.slice none 0 0/\iv=.int .i64 0/\Below w.heap.size w wr) (fun _ _ _=>0)
  case atStart=>exact ⟨rfl,rfl,Below.refl _ _⟩
  obtain ⟨rfl,rfl,hb⟩:=hrel
  by_cases h0:0<n
  ·go_wp2_with fail
   refine (HC.out _ hb).mono ?_
   rintro e w1 ⟨rfl,hb1⟩
   go_wp2
   go_ret
   exact ⟨none,0,[],rfl,Rd.none_ _ _ _,hb.trans (hb1.mono hb.size),rfl⟩
  go_wp2
  go_ret
  exact ⟨none,0,[],rfl,Rd.none_ _ _ _,hb,rfl⟩
 | true=>
  have e:liveL l ms=liveTo ms l.length:=by unfold liveL liveTo;rw[if_pos hr]
  rw[e]
  rw[hr] at HC
  have HO:=hid (fun (k:Nat) (u:World) (hu:Below w.heap.size w u)=>aDz (x:=(k:Int)) hm (h2.to hu hu.size))
  have hlen:∀k,(liveTo ms k).length<=k:=fun k=>by unfold liveTo;refine Nat.le_trans (List.length_filter_le _ _) (by simp)
  have HLN:=hid hlen
  clear e hr h2 h hlen
  generalize l.length=n at *
  go_enter Tryz.func33,Tryz.ntmps33
  go_wp2
  go_loopw[5,6] (fun ov kv wr=>∃k:Nat,k<=n/\kv=.int .i64 k/\Below w.heap.size w wr/\wr.ownsRow w.heap.size 3 1 ov (liveTo ms k).length ((liveTo ms k).map (.int .i64))) (fun _ kv _=>n-(intOf kv).toNat)
  case atStart=>exact ⟨0,Nat.zero_le _,rfl,Below.refl _ _,World.ownsRow_nil _ _ _ _⟩
  obtain ⟨k,hk,rfl,hb,ho⟩:=hrel
  by_cases hlt:k<n
  ·have hsu:=aMc ms k
   have hll:=HLN.out k
   have K1:=HC.out wr hb
   go_wp2_with fail
   refine K1.mono ?_
   rintro e w1 ⟨rfl,hb1⟩
   have hbw:=hb.trans (hb1.mono hb.size)
   have ho1:=ho.kept (aAo hb1 (Nat.le_refl _)) (by cases (Value.ownBlock u5)<;>simp)
   have K2:=HO.out k w1 hbw
   clear K1 hb hb1 ho
   cases hob:obsM ms k with
   | true=>
    rw[hob] at K2 hsu
    simp only[if_true,List.append_nil] at hsu
    have HS:=hid hsu;clear hsu hob
    go_wp2_with fail
    refine K2.mono ?_
    rintro e w2 ⟨rfl,hb2⟩
    have hbw2:=hbw.trans (hb2.mono hbw.size)
    have ho2:=ho1.kept (aAo hb2 (Nat.le_refl _)) (by cases (Value.ownBlock u5)<;>simp)
    clear K2
    go_wp2
    go_roundw
    case rel=>exact ⟨k+1,by omega,by go_num,hbw2,by rw[HS.out];exact ho2⟩
    simp[intOf];omega
   | false=>
    rw[hob] at K2 hsu
    simp only[Bool.false_eq_true,if_false] at hsu
    have HS:=hid hsu;clear hsu hob
    go_wp2_with fail
    refine K2.mono ?_
    rintro e w2 ⟨rfl,hb2⟩
    have hbw2:=(hbw.trans (hb2.mono hbw.size)).alloc (hbw.trans (hb2.mono hbw.size)).size (.cells #[.int .i64 (k:Int)] 3)
    have ho2:=(ho1.kept (aAo hb2 (Nat.le_refl _)) (by cases (Value.ownBlock u5)<;>simp)).alloc (.cells #[.int .i64 (k:Int)] 3)
    clear K2
    go_wp2_with (at_builtin;refine aAp rfl (.tmp 21) (.tmp 23) 36 rfl E28 rfl rfl ho2 (aBi w2 (k:Int)) (aAq _) (by unfold maxLen;omega) (by omega) hbw2.size ?_;intro v7 w7 ho7 hg7 hv7)
    go_roundw
    case rel=>
     refine ⟨k+1,by omega,by go_num,hbw2.grown hg7 hbw2.size (fun g hg=>(ho2.lt g hg).1),?_⟩
     rw[HS.out,List.length_append,List.map_append];exact ho7
    simp[intOf];omega
  have hkn:k=n:=by omega
  subst hkn
  obtain ⟨A5,c5,rfl,hc5⟩:=aAd ho
  go_wp2
  go_ret
  exact ⟨A5,c5,_,rfl,Rd.of_own ho hc5,hb,rfl⟩
theorem bIq {l:List FLV}{ms:List MV}(h:rightL (l.map FLV.pl) ms=true):GoodF (l.map FLV.pl) (ms.map MV.pl):=by
 unfold rightL at h
 simp only[Bool.and_eq_true] at h
 refine ⟨h.1.1,?_⟩
 have h2:=h.2
 unfold rightM at h2 ⊢
 rw[mvs,List.all_map,List.all_map]
 exact h2
theorem bBd {n:Int}{ms:List MV}(h:rightM n (mvs (ms.map MV.pl))=true):rightM n ms=true:=by
 unfold rightM at h ⊢
 rw[mvs,List.all_map,List.all_map] at h
 exact h
theorem aKu {w:World}{A AK:Option Addr}{c ck:Nat}{l:List FLV}{ms:List MV}(hL:Lm w)(hn:l.length<=17592186044416)(hm:ms.length<=17592186044416)
  (r1:RdFl w w.heap.size A l.length c l) (r2:RdM w w.heap.size AK ms.length ck ms) :
  Calls Tryz.prog 8 #[.slice A l.length c,.slice AK ms.length ck] w (BoolBelow true w):=by
 have HR1:=hid r1
 have HR2:=hid r2
 have K0:=bBz (sl:=[]) hn hm (Nat.zero_le _) r1 r2 (RdS.none_ _ _)
 have HL:=hid hL
 have HAW:=hid (fun (u:World) (hu:Below w.heap.size w u)=>aWo (hL.to hu))
 clear r1 r2 hn hm hL
 go_enter Tryz.func8,Tryz.ntmps8
 go_wp2_with fail
 refine K0.mono ?_
 rintro e w0 ⟨b,rfl,rfl,hb⟩
 clear K0
 cases b with
 | false=>
  clear hb
  go_wp2_with fail
  refine (HAW.out _ (Below.refl _ _)).mono ?_
  rintro e w1 ⟨rfl,hb1⟩
  go_wp2
  go_ret
  exact ⟨rfl,hb1⟩
 | true=>
  obtain ⟨hl1,hl2,_⟩:=hb rfl
  clear hb
  have K1:=aPl hl1 HR1.out
  go_wp2_with fail
  refine K1.mono ?_
  rintro e w1 ⟨A1,c1,nl,rfl,hnl,r1,hb1⟩
  have hN:=aQf hnl
  have K2:=aVj (N:=nl.length) (by unfold maxLen;omega) (HR2.out.to hb1 hb1.size) (by omega)
  have HNL:=hid hnl
  have HF1:=hid r1
  have HB1:=hid hb1
  clear K1 hnl r1 hb1
  go_wp2_with fail
  refine K2.mono ?_
  rintro e w2 ⟨A2,c2,ms2,rfl,r2,hpl,hb2⟩
  have HF2:=hid (HF1.out.to hb2 hb2.size)
  have HK2:=hid r2
  have HB2:=hid (HB1.out.trans (hb2.mono HB1.out.size))
  have HRL:=hid (show rightL (nl.map FLV.pl) ms2=true by rw[HNL.out];exact aZg (N:=nl.length) (by rw[<-HNL.out,List.length_map]) hpl.right)
  have HPL:=hid hpl
  have hml:=hpl.len
  clear K2 r2 hb2 hpl HF1 HB1
  have HFW:=hid (show ∀p∈ms2.map MV.pl,p.2.length<=12 from fun p hp=>by
   obtain ⟨m,hm,rfl⟩:=List.mem_map.1 hp
   have:=(HPL.out.all m hm).2.2.1
   show m.new.length<=12
   omega)
  have K3:=aWl (sl:=[]) (SA:=none) (sn:=0) (sc:=0) (HL.out.to HB2.out) (by omega) (by omega) (Nat.zero_le _) HRL.out HFW.out HF2.out HK2.out (RdS.none_ _ _)
  have HGD:=hid (bIq HRL.out)
  have HFM:=hid (bCz HFW.out (by omega))
  clear HPL HRL
  go_wp2_with fail
  refine K3.mono ?_
  rintro e w3 ⟨r,hrr,hb3,AN,AK3,AF,AC,cn,ck3,cf,cc,fl,kl,h1,h2,rfl,rn,rk,_,_,_,_,_,_,_,_⟩
  clear K3
  have hlaw:=hrr.law HGD.out (KeptF.start _ _) ⟨[],(List.append_nil _).symm⟩ ⟨[],(List.append_nil _).symm⟩ (by rw[List.length_map];omega) HFW.out rfl
  obtain ⟨⟨xn,xm,cm,xf,xc⟩,k⟩:=r
  dsimp only at h1 h2 hlaw
  subst h1 h2
  obtain ⟨W4,eW4⟩:∃W,W=w3.alloc (.cells #[.slice AN fl.length cn,.slice AK3 kl.length ck3,.int .i64 cm,.slice AF xf.length cf,.slice AC xc.length cc] 32):=⟨_,rfl⟩
  have hb34:Below w3.heap.size w3 W4:=by rw[eW4];exact (Below.refl _ _).alloc (Nat.le_refl _) _
  have hbx:W4.heap[w3.heap.size]? = some (.cells #[.slice AN fl.length cn,.slice AK3 kl.length ck3,.int .i64 cm,.slice AF xf.length cf,.slice AC xc.length cc] 32 (0,0)):=by rw[eW4];exact heap_alloc_new _ _
  have HB4:=hid (hb3.trans (hb34.mono hb3.size))
  have HRN:=hid (rn.to hb34 hb34.size)
  have HRK:=hid (rk.to hb34 hb34.size)
  have HAW2:=hid (fun (u:World) (hu:Below w2.heap.size w2 u)=>HAW.out u (HB2.out.trans (hu.mono HB2.out.size)))
  have HBX0:=hid hbx
  have HLAW:=hid hlaw
  clear hb3 hb34 hbx rn rk hlaw hrr
  go_wp2_with fail
  rw[<-eW4]
  clear eW4
  generalize w3.heap.size=xb at *
  refine (HAW2.out _ HB4.out).mono ?_
  rintro e w5 ⟨rfl,hb5⟩
  have HD5:=hid (HB4.out.trans (hb5.mono HB4.out.size))
  have HBX:=hid ((hb5.block _ (aAa HBX0.out)).trans HBX0.out)
  have HRN5:=hid (HRN.out.to hb5 hb5.size)
  have HRK5:=hid (HRK.out.to hb5 hb5.size)
  have x2:w5.cell? ⟨xb,2,none⟩=some (.int .i64 cm):=by rw[Lib.cell_of_heap HBX.out];rfl
  clear hb5 HBX0 HRN HRK HB4
  by_cases hk0:k=0
  case' neg=>
   obtain ⟨hq1,hq2⟩:=aFl hk0
  case' pos=>
   subst hk0
   by_cases hc0:0<=cm
   case neg=>
    obtain ⟨lE,kE,hg,hkp,⟨t1,ht1⟩,⟨t2,ht2⟩,hlim,hoe,e1,e2,hf12,hcnt⟩:=HLAW.out.2.2 (by trivial) (by omega)
    have hlE:lE=(nl++fl).map FLV.pl:=by rw[ht1,List.drop_left] at e1;rw[ht1,<-e1,List.map_append]
    have hkE:kE=(ms2++kl).map MV.pl:=by rw[ht2,List.drop_left] at e2;rw[ht2,<-e2,List.map_append]
    clear ht1 ht2 e1 e2 t1 t2
    subst hlE hkE
    simp only[List.length_map,List.length_append] at hlim hcnt
    have HGE:=hid hg
    have HKP:=hid hkp
    have HOE:=hid hoe
    have HF12:=hid (bCz hf12 (by rw[List.length_append];omega))
    clear hg hkp hoe hf12 HLAW
    go_wp2
    clear x2
    obtain ⟨V5,eV5⟩:∃V,V=w5.drew:=⟨_,rfl⟩
    have HV5:=hid (show Below w2.heap.size w2 V5 by rw[eV5];exact HD5.out.trans ((Below.refl _ _).drew.mono HD5.out.size))
    have HZV5:=hid (show Below w5.heap.size w5 V5 by rw[eV5];exact (Below.refl _ _).drew)
    refine aAh (fun u=>Below V5.heap.size V5 u) [(true,0),(true,2),(true,3),(false,1),(false,4),(true,5)] mixed (by kernel_rfl) (by rw[<-eV5];exact Below.refl _ _) ?_
    intro T M Q hT hT' hM hQ
    rw[<-eV5]
    clear eV5
    have m0:M ⟨xb,0,none⟩=some (.slice AN fl.length cn):=hM _ _ fun w' hw=>(hw.cell (p:=⟨xb,0,none⟩) (Nat.lt_of_lt_of_le (aAa HBX.out) HZV5.out.size)).trans ((HZV5.out.cell (p:=⟨xb,0,none⟩) (aAa HBX.out)).trans (by rw[Lib.cell_of_heap HBX.out];rfl))
    clear hM
    simp only[qcmp]
    simp (maxSteps:=9^7) only[↓qpre,aAb,aAe,aAc,m0]
    refine aAm aHl (base:=V5.heap.size) (n:=0) (xs:=[]) rfl rfl (World.ownsRow_nil _ _ _ _) (HF2.out.to HV5.out HV5.out.size).row (aDn _) (by unfold maxLen;omega) (by omega) (Nat.le_refl _) ?_
    intro v1 y1 ho1 hg1 hv1
    rw[Nat.zero_add,List.nil_append] at ho1
    have hy1:Below V5.heap.size V5 y1:=(Below.refl _ _).grown hg1 (Nat.le_refl _) (fun g hg=>by cases hg)
    have hz1:=HZV5.out.trans (hy1.mono HZV5.out.size)
    refine ⟨hT _ hy1,?_⟩
    simp (maxSteps:=9^7) only[aAb,aAc]
    refine aAm aHl (base:=V5.heap.size) (n:=nl.length) rfl rfl ho1 (HRN5.out.to hz1 hz1.size).row (aDn _) (by unfold maxLen;omega) (by omega) hy1.size ?_
    intro v10 X6 ho2 hg2 hv2
    have hy2:=hy1.grown hg2 hy1.size (fun g hg=>(ho1.lt g hg).1)
    refine ⟨hT _ hy2,?_⟩
    simp (maxSteps:=9^7) only[↓qpre,aAb,aAc]
    refine hQ _ _ ?_
    have HOX6:=hid ho2
    have HX6:=hid (HV5.out.trans (hy2.mono HV5.out.size))
    have HWX6:=hid (HZV5.out.trans (hy2.mono HZV5.out.size))
    replace HBX:=hid ((HWX6.out.block _ (aAa HBX.out)).trans HBX.out)
    clear hQ hT hT' m0 ho1 ho2 hg1 hg2 hv1 hv2 hy1 hy2 hz1 HZV5 HV5
    clear T M Q y1
    have HRN6:=hid (HRN5.out.to HWX6.out HWX6.out.size)
    have HRK6:=hid (HRK5.out.to HWX6.out HWX6.out.size)
    obtain ⟨AA,cA,rfl,ra⟩:=RdFl.app HOX6.out HF2.out.len HRN6.out.len (HF2.out.to HX6.out HX6.out.size).parts HRN6.out.parts
    have HA6:=hid ra
    clear ra HOX6 HRN5 HRK5 HWX6 HRN6
    go_wp2
    obtain ⟨V6,eV6⟩:∃V,V=X6.drew:=⟨_,rfl⟩
    have HV6:=hid (show Below w2.heap.size w2 V6 by rw[eV6];exact HX6.out.trans ((Below.refl _ _).drew.mono HX6.out.size))
    have HZV6:=hid (show Below X6.heap.size X6 V6 by rw[eV6];exact (Below.refl _ _).drew)
    refine aAh (fun u=>Below V6.heap.size V6 u) [(true,0),(true,2),(true,3),(false,1),(false,4),(true,5)] mixed (by kernel_rfl) (by rw[<-eV6];exact Below.refl _ _) ?_
    intro T M Q hT hT' hM hQ
    rw[<-eV6]
    clear eV6
    have m0:M ⟨xb,1,none⟩=some (.slice AK3 kl.length ck3):=hM _ _ fun w' hw=>(hw.cell (p:=⟨xb,1,none⟩) (Nat.lt_of_lt_of_le (aAa HBX.out) HZV6.out.size)).trans ((HZV6.out.cell (p:=⟨xb,1,none⟩) (aAa HBX.out)).trans (by rw[Lib.cell_of_heap HBX.out];rfl))
    clear hM
    simp only[qcmp]
    simp (maxSteps:=9^7) only[↓qpre,aAb,aAe,aAc,m0]
    refine aAm E22 (base:=V6.heap.size) (n:=0) (xs:=[]) rfl rfl (World.ownsRow_nil _ _ _ _) (HK2.out.to HV6.out HV6.out.size).row (aGd _) (by unfold maxLen;omega) (by omega) (Nat.le_refl _) ?_
    intro v1 y1 ho1 hg1 hv1
    rw[Nat.zero_add,List.nil_append] at ho1
    have hy1:Below V6.heap.size V6 y1:=(Below.refl _ _).grown hg1 (Nat.le_refl _) (fun g hg=>by cases hg)
    have hz1:=HZV6.out.trans (hy1.mono HZV6.out.size)
    refine ⟨hT _ hy1,?_⟩
    simp (maxSteps:=9^7) only[aAb,aAc]
    refine aAm E22 (base:=V6.heap.size) (n:=ms2.length) rfl rfl ho1 (HRK6.out.to hz1 hz1.size).row (aGd _) (by unfold maxLen;omega) (by omega) hy1.size ?_
    intro v11 X7 ho2 hg2 hv2
    have hy2:=hy1.grown hg2 hy1.size (fun g hg=>(ho1.lt g hg).1)
    refine ⟨hT _ hy2,?_⟩
    simp (maxSteps:=9^7) only[↓qpre,aAb,aAc]
    refine hQ _ _ ?_
    have HOX7:=hid ho2
    have HX7:=hid (HV6.out.trans (hy2.mono HV6.out.size))
    have HWX7:=hid (HZV6.out.trans (hy2.mono HZV6.out.size))
    replace HBX:=hid ((HWX7.out.block _ (aAa HBX.out)).trans HBX.out)
    clear hQ hT hT' m0 ho1 ho2 hg1 hg2 hv1 hv2 hy1 hy2 hz1 HZV6 HV6
    clear T M Q y1
    have HRK7:=hid (HRK6.out.to HWX7.out HWX7.out.size)
    have HA7:=hid (HA6.out.to HWX7.out HWX7.out.size)
    obtain ⟨AM,cM,rfl,rm⟩:=RdM.app HOX7.out (HK2.out.to HX7.out HX7.out.size) HRK7.out
    have HM7:=hid rm
    clear rm HOX7 HRK6 HRK7 HWX7 HA6 HX6
    have K8:=aFn (by omega) HA7.out
    go_wp2_with fail
    refine K8.mono ?_
    rintro e u1 ⟨A5,c5,l5,rfl,r5,hb6,rfl⟩
    have HD6:=hid (HX7.out.trans (hb6.mono HX7.out.size))
    have HA8:=hid (HA7.out.to hb6 hb6.size)
    have HM8:=hid (HM7.out.to hb6 hb6.size)
    have HG5:=hid r5
    have K9:=aMp (by rw[List.length_map,List.length_append];omega) r5 (by unfold maxLen;omega) HM8.out HF12.out
    rw[List.length_map,List.length_append] at K9 ⊢
    clear K8 r5 hb6 HA7 HM7 HX7 HBX
    go_wp2_with fail
    refine K9.mono ?_
    rintro e u2 ⟨oa,ob,os,rfl,hor,hb7⟩
    obtain rfl:os=false:=by
     rw[<-aIt] at hor
     exact ((hor.alike (aEn (ms2++kl))).uniq HOE.out).2.2
    have HD7:=hid (HD6.out.trans (hb7.mono HD6.out.size))
    have HA9:=hid (HA8.out.to hb7 hb7.size)
    have HM9:=hid (HM8.out.to hb7 hb7.size)
    have HG9:=hid (HG5.out.to hb7 hb7.size)
    have K10:=aDt (by rw[List.length_map,List.length_append];omega) HG9.out
    rw[<-aIt,HGE.out.par,aIt,List.length_map,List.length_append] at K10
    clear K9 hor hb7 HA8 HM8 HG5 HD6
    go_wp2_with fail
    refine K10.mono ?_
    rintro e u3 ⟨rfl,hb8⟩
    have HD8:=hid (HD7.out.trans (hb8.mono HD7.out.size))
    have HA10:=hid (HA9.out.to hb8 hb8.size)
    have HM10:=hid (HM9.out.to hb8 hb8.size)
    have K11:=aSk (N:=((nl.length+fl.length:Nat):Int)) (by unfold maxLen;omega) HM10.out
    have hrm:=bBd HGE.out.mks
    rw[List.length_map,List.length_append] at hrm
    rw[hrm] at K11
    clear K10 hb8 hrm HA9 HM9 HG9 HD7
    go_wp2_with fail
    refine K11.mono ?_
    rintro e u4 ⟨rfl,hb9⟩
    have HD9:=hid (HD8.out.trans (hb9.mono HD8.out.size))
    have HA11:=hid (HA10.out.to hb9 hb9.size)
    have HM11:=hid (HM10.out.to hb9 hb9.size)
    have K12:=aFn (by omega) (HF2.out.to HD9.out HD9.out.size)
    clear K11 hb9 HA10 HM10 HD8
    go_wp2_with fail
    refine K12.mono ?_
    rintro e u5 ⟨A6,c6,l6,rfl,r6,hb10,rfl⟩
    have HD10:=hid (HD9.out.trans (hb10.mono HD9.out.size))
    have HA12:=hid (HA11.out.to hb10 hb10.size)
    have HM12:=hid (HM11.out.to hb10 hb10.size)
    have K13:=bEc (by rw[List.length_map];omega) r6 (by unfold maxLen;omega) (HK2.out.to HD10.out HD10.out.size)
    rw[List.length_map] at K13 ⊢
    clear K12 r6 hb10 HA11 HM11 HD9
    go_wp2_with fail
    refine K13.mono ?_
    rintro e u6 ⟨A7,c7,lv,rfl,r7,hb11,hlv⟩
    have HD11:=hid (HD10.out.trans (hb11.mono HD10.out.size))
    have HA13:=hid (HA12.out.to hb11 hb11.size)
    have HM13:=hid (HM12.out.to hb11 hb11.size)
    have HF13:=hid (HF2.out.to HD11.out HD11.out.size)
    have HLV:=hid hlv
    have HR7:=hid r7
    have hll:lv.length<=12:=by have h:=aNl (nl.map FLV.parent) ms2;rw[<-hlv,List.length_map] at h;omega
    clear K13 hlv r7 hb11 HA12 HM12 HD10
    go_wp2
    go_loopw[17] (fun iv wr=>∃i:Nat,i<=lv.length/\iv=.int .i64 i/\Hid (Below u6.heap.size u6 wr)) (fun iv _=>lv.length-(intOf iv).toNat)
    case atStart=>exact ⟨0,Nat.zero_le _,rfl,hid (Below.refl _ _)⟩
    obtain ⟨i,hi,rfl,hb⟩:=hrel
    by_cases hlt:i<lv.length
    ·obtain ⟨bl,ol,x,rfl,hbl,hx,gx⟩:=HR7.out.int_ hlt
     have gx':=(hb.out.cell (p:=⟨bl,ol+i,none⟩) hbl).trans gx
     have hxm:=List.mem_of_getElem? hx
     rw[HLV.out,aDq,List.length_map] at hxm
     obtain ⟨_,x0,x1,xo⟩:=hxm
     obtain ⟨f,ff,f0,f1,fm⟩:=HKP.out x x0 (by rw[List.length_map];exact x1) (by rw[<-(aEn ms2).obs];exact xo)
     rw[List.length_map,List.length_append] at f1
     obtain ⟨xN,rfl⟩:∃k:Nat,x=(k:Int):=⟨x.toNat,by omega⟩
     obtain ⟨fN,rfl⟩:∃k:Nat,f=(k:Int):=⟨f.toNat,by omega⟩
     have HFF:=hid (ff.alike (aEn (ms2++kl)).symm)
     obtain ⟨b1,o1,y,eA1,hb1,hy,_,_,gy,_⟩:=HF13.out.get (k:=xN) (by omega)
     obtain ⟨b2,o2,z,eA2,hb2,hz,_,_,gz,_⟩:=HA13.out.get (k:=fN) (by omega)
     subst eA1 eA2
     have hmsg:z.msg=y.msg:=by
      unfold msgAt at fm
      rw[Int.toNat_natCast,Int.toNat_natCast,List.getElem?_map,List.getElem?_map,hy,hz] at fm
      exact fm
     have HMS:=hid hmsg
     have HGY:=hid (And.intro hb1 gy)
     have HGZ:=hid (And.intro hb2 gz)
     have HGX:=hid (And.intro hbl gx)
     have K14:=aOz (i:=(xN:Int)) (by unfold maxLen;omega) (HM13.out.to hb.out hb.out.size) HF12.out
     clear ff fm hy hz gy gz gx hb1 hb2 hbl hx hmsg xo
     go_wp2_with fail
     refine K14.mono ?_
     rintro e u7 ⟨A8,c8,fz,rfl,r8,hb12,hfz⟩
     obtain rfl:=hfz.uniq HFF.out
     have HB7:=hid (hb.out.trans (hb12.mono hb.out.size))
     obtain ⟨b8,o8,f',eA8,hb8,hf8,g8⟩:=r8.int_ (k:=0) (show 0<1 by decide)
     subst eA8
     injection hf8 with hf8
     subst hf8
     clear K14 hfz hb12 gx' r8
     obtain ⟨V8,eV8⟩:∃V,V=u7.drew:=⟨_,rfl⟩
     have HV8:=hid (show Below u6.heap.size u6 V8 by rw[eV8];exact HB7.out.trans ((Below.refl _ _).drew.mono HB7.out.size))
     have h78:Below u7.heap.size u7 V8:=by rw[eV8];exact (Below.refl _ _).drew
     go_wp2
     refine aAh (fun u=>Below V8.heap.size V8 u) (qs 21) mixed (by kernel_rfl) (by rw[<-eV8];exact Below.refl _ _) ?_
     intro T M Q hT hT' hM hQ
     rw[<-eV8]
     clear eV8
     rw[Nat.add_zero] at g8
     have m0:M ⟨b8,o8,none⟩=some (.int .i64 (fN:Int)):=hM _ _ fun w' hw=>(hw.cell (p:=⟨b8,o8,none⟩) (Nat.lt_of_lt_of_le hb8 h78.size)).trans ((h78.cell (p:=⟨b8,o8,none⟩) hb8).trans g8)
     have m1:M ⟨b2,o2+fN*3+1,none⟩=some (.string z.msg):=hM _ _ fun w' hw=>((HV8.out.trans (hw.mono HV8.out.size)).cell (p:=⟨b2,o2+fN*3+1,none⟩) HGZ.out.1).trans HGZ.out.2
     have m2:M ⟨bl,ol+i,none⟩=some (.int .i64 (xN:Int)):=hM _ _ fun w' hw=>((HV8.out.trans (hw.mono HV8.out.size)).cell (p:=⟨bl,ol+i,none⟩) HGX.out.1).trans HGX.out.2
     have m3:M ⟨b1,o1+xN*3+1,none⟩=some (.string y.msg):=hM _ _ fun w' hw=>((HV8.out.trans (hw.mono HV8.out.size)).cell (p:=⟨b1,o1+xN*3+1,none⟩) HGY.out.1).trans HGY.out.2
     rw[HMS.out] at m1
     have hd:(!decide (((1:Nat):Int)=1))=false:=rfl
     clear hM h78 g8
     simp only[qcmp]
     simp (maxSteps:=9^7) only[↓qpre,aAb,aAe,aAc,hd,m0,m1,m2,m3]
     (repeat refine And.intro (by first|omega|(unfold inI64;omega)) ?_)
     refine hQ _ _ ?_
     clear hQ hT hT' m0 m1 m2 m3 hd
     clear T M Q
     go_wp2
     go_roundw
     case rel=>exact ⟨i+1,by omega,by go_num,HV8⟩
     simp[intOf];omega
    have hin:i=lv.length:=by omega
    have HBB:=hid (HB2.out.trans ((HD11.out.trans (hb.out.mono HD11.out.size)).mono HB2.out.size))
    subst hin
    go_wp2
    go_ret
    exact ⟨rfl,HBB.out⟩
  all_goals
   have K6:=aFn (by omega) (HF2.out.to HD5.out HD5.out.size)
   go_wp2_with fail
   refine K6.mono ?_
   rintro e u1 ⟨A5,c5,l5,rfl,r5,hb6,rfl⟩
   have HD6:=hid (HD5.out.trans (hb6.mono HD5.out.size))
   have K7:=aMp (by rw[List.length_map];omega) r5 (by unfold maxLen;omega) (HK2.out.to HD6.out HD6.out.size) HFM.out
   rw[List.length_map] at K7 ⊢
   clear K6 r5 hb6 HBX x2 HRN5 HRK5
   go_wp2_with fail
   refine K7.mono ?_
   rintro e u2 ⟨oa,ob,os,rfl,hor,hb7⟩
   have HD7:=hid (HD6.out.trans (hb7.mono HD6.out.size))
   rw[<-aIt] at hor
   have hor:=hor.alike (aEn ms2)
   have HIS:=hid hor
   clear K7 hor hb7 HD6 HD5
   cases os
   case' false=>
    have h14:=HLAW.out.2.1 (by trivial) (by have h:=HIS.out;cases h with | none_ q=>exact .none_ q)
    first
     | subst h14
     | exact absurd h14 (by decide)
   case' true=>
    obtain ⟨hq3,hq4⟩:=aFl (fun e=>(show False by have:=(HIS.out.uniq (HLAW.out.1 e).2).2.2;cases this))
   all_goals
    clear HLAW HIS
    go_wp2_with fail
    refine (HAW2.out _ HD7.out).mono ?_
    rintro e u3 ⟨rfl,hb8⟩
    have HD8:=hid (HB2.out.trans ((HD7.out.trans (hb8.mono HD7.out.size)).mono HB2.out.size))
    clear hb8 HD7
    go_wp2
    go_ret
    exact ⟨rfl,HD8.out⟩
end Go.Proofs.YtohblmepajhpaaaGreatDoor
namespace Go.Proofs.YtohblmepajhpaaaGreatDoor
open Go.ChangeShapes Go.WideShapes Go.ChangeAt Go.RowKit
def uAcc:List Int:=[128,191,160,191,128,159,144,191,128,143,0,0,0,0,0,0,0,0,0,0,0,0,0,0,0,0,0,0,0,0,0,0]
def T.cellsOf (cs:List Value):Obj->Obj
 | .cells _ t frozen=>.cells cs.toArray t frozen
 | o=>o
def uFirst:List Value:=Go.Pinned.utf8FirstZ.map fun (z:Nat)=>Value.int .u8 (Int.ofNat z)
noncomputable def laidU (os:Os):World:=
 { World.holding Tryz.prog os ⟨#[],#[],[]⟩ with heap:=((World.holding Tryz.prog os ⟨#[],#[],[]⟩).heap.modify 1 (T.cellsOf uFirst)).modify 2 (T.cellsOf (uAcc.map fun z=>.int .u8 z)) }
theorem T.list_of {α:Type}{P:Nat->α->Prop}:∀{n:Nat},(∀i,i<n->∃a,P i a)->∃l:List α,l.length=n/\∀i a,l[i]? = some a->P i a
 | 0,_=>⟨[],rfl,by simp⟩
 | n+1,h=>by
  obtain ⟨l,hl,hp⟩:=T.list_of (n:=n) fun i hi=>h i (by omega)
  obtain ⟨a,ha⟩:=h n (by omega)
  refine ⟨l++[a],by simp[hl],fun i x hx=>?_⟩
  rcases Nat.lt_or_ge i n with hi | hi
  ·rw[List.getElem?_append_left (by omega)] at hx;exact hp i x hx
  have hlt:=(List.getElem?_eq_some_iff.1 hx).1
  rw[List.length_append,List.length_singleton] at hlt
  obtain rfl:i=n:=by omega
  rw[List.getElem?_append_right (by omega),hl,Nat.sub_self] at hx
  obtain rfl:=Option.some.inj hx
  exact ha
theorem T.flat_get {α:Type}{f:α->List Value}{k:Nat}(hf:∀a,(f a).length=k)(hk:0<k):∀{l:List α} {j:Nat} {u:Value},(l.flatMap f)[j]? = some u->∃a,l[j / k]? = some a/\(f a)[j % k]? = some u
 | [],j,u,h=>by simp at h
 | x::l,j,u,h=>by
  rw[List.flatMap_cons] at h
  rcases Nat.lt_or_ge j k with hj | hj
  ·rw[List.getElem?_append_left (by rw[hf];exact hj)] at h
   exact ⟨x,by rw[Nat.div_eq_of_lt hj];rfl,by rw[Nat.mod_eq_of_lt hj];exact h⟩
  rw[List.getElem?_append_right (by rw[hf];exact hj),hf] at h
  obtain ⟨a,h1,h2⟩:=T.flat_get hf hk h
  refine ⟨a,?_,?_⟩
  ·rw[Nat.div_eq_sub_div hk hj,List.getElem?_cons_succ];exact h1
  rw[Nat.mod_eq_sub_mod hj];exact h2
theorem T.rd_elems {W:World}{a:Addr}{len cap sz:Nat} {α:Type}{f:α->List Value}{es:List α}(hf:∀x,(f x).length=sz)(hsz:0<sz)(hl:es.length=len)(hcap:len<=cap)
  (hb:0<len->a.block<W.heap.size) (hcell:∀i e,es[i]? = some e->∀t u,(f e)[t]? = some u->W.cell? ((a.add (i*sz)).add t)=some u):Rd W W.heap.size sz (some a) len cap (es.flatMap f):=by
 refine ⟨by rw[len_flat hf,hl],hcap,fun hn=>?_⟩
 obtain ⟨b,off,spot⟩:=a
 have hspot:spot=none:=by
  have h0:=hcell 0 (es[0]'(by omega)) (List.getElem?_eq_getElem _) 0 ((f (es[0]'(by omega)))[0]'(by rw[hf];exact hsz)) (List.getElem?_eq_getElem _)
  simpa[Addr.add] using World.cell?_spot h0
 subst hspot
 refine ⟨b,off,rfl,hb hn,fun j u hu=>?_⟩
 obtain ⟨x,h1,h2⟩:=T.flat_get hf hsz hu
 have:=hcell _ x h1 _ u h2
 rw[add_plain,add_plain] at this
 rw[show off+j=off+j / sz*sz+j % sz by rw[Nat.add_assoc,Nat.mul_comm (j / sz) sz,Nat.div_add_mod]]
 exact this
section
variable {H:Type} {enc:TypeId×Value->H} {W:World}
theorem T.weights_mem_all {P:Program}{e:TypeId}:∀{ds:List (DataW H)} {d:DataW H},d∈ds->∀n∈d.weights P e,n∈DataW.weightsAll P e ds
 | d0::ds,d,hd,n,hn=>by
  simp only[DataW.weightsAll,List.mem_append]
  rcases List.mem_cons.1 hd with rfl | hd
  ·exact .inl hn
  exact .inr (T.weights_mem_all hd n hn)
 | [],_,hd,_,_=>by cases hd
def Opens (enc:TypeId×Value->H)(W:World)(t:TypeId)(E:List Value->Prop):Prop:=
 ∀fuel cs x,DataW.trod enc Tryz.prog W 0 (fun _=>true) true fuel t cs=some x->(∀n∈DataW.weights Tryz.prog t x.1,n<=reachBytes)->E cs
theorem Opens.mono {t:TypeId} {E E':List Value->Prop}(h:Opens enc W t E)(hE:∀cs,E cs->E' cs):Opens enc W t E':=fun fuel cs x h1 h2=>hE _ (h fuel cs x h1 h2)
theorem aMj {t:TypeId}(ht:Tryz.prog.underlying t=some (.int .i64)):Opens enc W t fun cs=>∃k:Int,cs=[.int .i64 k]/\-9223372036854775808<=k/\k<=9223372036854775807:=by
 intro fuel cs x h _
 obtain ⟨k,rfl,_,hw⟩:=DataW.trod_int ht h
 simp only[Lit.wf,Bool.and_eq_true,decide_eq_true_eq] at hw
 have e1:IntKind.i64.min=-9223372036854775808:=by decide
 have e2:IntKind.i64.max=9223372036854775807:=by decide
 rw[e1,e2] at hw
 exact ⟨k,rfl,hw⟩
theorem aYk {t:TypeId}(ht:Tryz.prog.underlying t=some .bool):Opens enc W t fun cs=>∃b:Bool,cs=[.bool b]:=by
 intro fuel cs x h _
 obtain ⟨b,rfl,_⟩:=DataW.trod_bool ht h
 exact ⟨b,rfl⟩
theorem aMs {t:TypeId}(ht:Tryz.prog.underlying t=some .string):Opens enc W t fun cs=>∃s:ByteArray,cs=[.string s]/\s.size<=140737488351232:=by
 intro fuel cs x h hw
 obtain ⟨s,rfl,rfl,_⟩:=DataW.trod_string ht h
 have h1:=hw s.data.toList.length (by simp[DataW.weights])
 have h3:s.data.toList.length=s.size:=rfl
 simp only[reachBytes] at h1
 exact ⟨s,rfl,by omega⟩
theorem aGc {t:TypeId}{fs:Array Field}{E:Nat->List Value->Prop}(ht:Tryz.prog.underlying t=some (.struct fs))(hE:∀(i:Nat)(f:Field),fs[i]? = some f->Opens enc W f.type (E i)) :
  Opens enc W t fun cs=>cs.length=Tryz.prog.cellsOf t/\∀(i:Nat) (f:Field),fs[i]? = some f->E i ((cs.drop f.offset).take (Tryz.prog.cellsOf f.type)):=by
 intro fuel cs x h hw
 obtain ⟨xs,n,rfl,rfl,hl,hlen,hf⟩:=DataW.trod_struct ht h
 refine ⟨hl,fun i f hi=>?_⟩
 have hlt:i<fs.size:=(Array.getElem?_eq_some_iff.1 hi).1
 have h1:=hf i f hi
 rw[List.getElem?_eq_getElem (by omega:i<xs.length)] at h1
 refine hE i f hi _ _ _ h1 fun m hm=>hw m ?_
 simp only[DataW.weights,ht]
 refine DataW.weights_mem_each (j:=i) (t:=f.type) (d:=xs[i].1) ?_ ?_ m hm
 ·simp[hi]
 rw[List.getElem?_map,List.getElem?_eq_getElem (by omega:i<xs.length)];rfl
theorem aEr {α:Type}{f:α->List Value}{Q:α->Prop}{t e:TypeId}{sz bytes:Nat}(ht:Tryz.prog.underlying t=some (.slice e))(hc:Tryz.prog.cellsOf e=sz)(hb:Tryz.prog.bytesOf e=bytes)(hf:∀a,(f a).length=sz)(h0:0<sz)
  (hE:Opens enc W e fun cs=>∃a,cs=f a/\Q a) :
  Opens enc W t fun cs=>∃(A:Option Addr) (n c:Nat) (es:List α),cs=[.slice A n c]/\es.length=n/\Rd W W.heap.size sz A n c (es.flatMap f)/\(∀a∈es,Q a)/\n*bytes<=140737488351232:=by
 intro fuel cs x h hw
 rcases DataW.trod_slice ht h with ⟨rfl,_⟩ | ⟨a,len,cap,elems,rest,n,_,rfl,rfl,_,hl,_,hlen,hel,_,_⟩
 ·exact ⟨none,0,0,[],rfl,rfl,Rd.none_ _ _ _,by simp,by omega⟩
 rw[hc] at hel
 simp only[DataW.weights,ht,hb,List.mem_cons,List.mem_append] at hw
 have hlen2:len*bytes<=140737488351232:=by
  have:=hw _ (.inl rfl)
  simp only[List.length_map,hlen,reachBytes] at this
  have h2:len*bytes<=(len+rest.length)*bytes:=Nat.mul_le_mul_right _ (by omega)
  omega
 have each:∀i,i<len->∃e:α,((∀t u,(f e)[t]? = some u->W.cell? ((a.add (i*sz)).add t)=some u)/\(a.add (i*sz)).block<W.heap.size)/\Q e:=by
  intro i hi
  have h1:=hel i hi
  have hmem:=List.getElem_mem (by omega:i<elems.length)
  rw[List.getElem?_eq_getElem (by omega:i<elems.length),Option.bind_eq_some_iff] at h1
  obtain ⟨cs,hcs,htr⟩:=h1
  obtain ⟨_,hl2,hcell⟩:=World.cells?_some hcs
  have hblk:=World.cells?_block hcs h0
  obtain ⟨q,rfl,hq⟩:=hE _ _ _ htr fun n hn=>hw n (.inr (.inl (T.weights_mem_all (List.mem_map.2 ⟨_,hmem,rfl⟩) n hn)))
  refine ⟨q,⟨fun t u hu=>?_,hblk⟩,hq⟩
  have ht:t<sz:=by rw[<-hf q];exact (List.getElem?_eq_some_iff.1 hu).1
  rw[hcell t ht];exact hu
 obtain ⟨es,hes,hp⟩:=T.list_of each
 refine ⟨_,_,_,es,rfl,hes,T.rd_elems hf h0 hes hl (fun h0=>?_) (fun i e he=>(hp i e he).1.1),fun x hx=>?_,hlen2⟩
 ·have:=(hp 0 (es[0]'(by omega)) (List.getElem?_eq_getElem _)).1.2
  rwa [aSs] at this
 obtain ⟨i,hi,rfl⟩:=List.getElem_of_mem hx
 exact (hp i _ (List.getElem?_eq_getElem hi)).2
theorem aWr {t:TypeId}{E:List Value->Prop}(O:Opens enc W t E){ts:List TypeId}{ds:List (DataW H)}{v:Value}{d:DataW H}{ps:List MemPlace}{j:Nat}
  (hsz:(DataW.weightsEach Tryz.prog ts ds).all (·<=reachBytes)=true) (ht:ts[j]? = some t) (hd:ds[j]? = some d) (h:DataW.Trod enc Tryz.prog W 0 (fun _=>true) true t v d ps):E v.cells.toList:=by
 obtain ⟨fuel,hf⟩:=h
 refine O fuel _ _ hf fun n hn=>?_
 have:=List.all_eq_true.1 hsz _ (DataW.weights_mem_each ht hd n hn)
 simpa using this
end
section
variable {H:Type} {enc:TypeId×Value->H} {W:World}
def FileCells (cs:List Value):Prop:=∃f:FV,cs=f.cells/\f.path.size<=140737488351232/\f.text.size<=140737488351232
theorem bAp:Opens enc W 48 FileCells:=by
 refine (aGc (E:=fun i=>match i with | 0=>fun cs=>∃s:ByteArray,cs=[.string s]/\s.size<=140737488351232 | 1=>fun cs=>∃b:Bool,cs=[.bool b] | _=>fun cs=>∃s:ByteArray,cs=[.string s]/\s.size<=140737488351232) Tryz.underlying48 ?_).mono ?_
 ·intro i f hf
  rcases i with _ | _ | _ | i<;>simp at hf
  ·subst hf;exact aMs Tryz.underlying9
  ·subst hf;exact aYk Tryz.underlying4
  subst hf;exact aMs Tryz.underlying9
 rintro cs ⟨hl,h⟩
 have hl3:cs.length=3:=hl
 match cs,hl3 with
 | [a,b,c],_=>
  obtain ⟨p,e1,h1⟩:=h 0 _ rfl
  obtain ⟨x,e2⟩:=h 1 _ rfl
  obtain ⟨t,e3,h3⟩:=h 2 _ rfl
  have e1':[a]=[Value.string p]:=e1
  have e2':[b]=[Value.bool x]:=e2
  have e3':[c]=[Value.string t]:=e3
  cases e1'
  cases e2'
  cases e3'
  exact ⟨⟨p,x,t⟩,rfl,h1,h3⟩
def FilesCells (W:World)(cs:List Value):Prop:=∃(A:Option Addr) (c:Nat) (l:List FV),cs=[.slice A l.length c]/\RdF W W.heap.size A l.length c l/\l.length<=17592186044416
theorem aVw:Opens enc W 29 (FilesCells W):=by
 refine (aEr (f:=FV.cells) (Q:=fun f=>f.path.size<=140737488351232/\f.text.size<=140737488351232) Tryz.underlying29 (by kernel_rfl) (bytes:=40) (by kernel_rfl) FV.cells_len (by omega) (bAp.mono ?_)).mono ?_
 ·rintro cs ⟨f,h1,h2,h3⟩;exact ⟨f,h1,h2,h3⟩
 rintro cs ⟨A,n,c,es,rfl,rfl,hr,hq,hb⟩
 exact ⟨A,c,es,rfl,⟨hr,rfl,hq⟩,by omega⟩
end
section
variable {H:Type} {enc:TypeId×Value->H} {W:World}
theorem bFb (l:List Int):(l.flatMap fun x=>[Value.int .i64 x])=l.map (.int .i64):=by
 induction l with
 | nil=>rfl
 | cons x l ih=>rw[List.flatMap_cons,ih];rfl
theorem aYq:Opens enc W 36 fun cs=>∃(A:Option Addr) (c:Nat) (l:List Int),cs=[.slice A l.length c]/\Rd W W.heap.size 1 A l.length c (l.map (.int .i64))/\l.length<=17592186044416/\∀x∈l,I64 x:=by
 refine (aEr (sz:=1) (f:=fun x:Int=>[Value.int .i64 x]) (Q:=I64) Tryz.underlying36 (by kernel_rfl) (bytes:=8) (by kernel_rfl) (fun _=>rfl) (by omega) ((aMj Tryz.underlying3).mono ?_)).mono ?_
 ·rintro cs ⟨x,h1,h2⟩;exact ⟨x,h1,h2⟩
 rintro cs ⟨A,n,c,es,rfl,rfl,hr,hq,hb⟩
 exact ⟨A,c,es,rfl,by rw[bFb] at hr;exact hr,by omega,hq⟩
theorem bAl:Opens enc W 40 fun cs=>∃f:FLV,cs=f.cells/\RdF W W.heap.size f.A f.files.length f.c f.files/\f.files.length<=17592186044416/\I64 f.parent/\f.msg.size<=140737488351232:=by
 refine (aGc (E:=fun i=>match i with | 0=>fun cs=>∃k:Int,cs=[.int .i64 k]/\-9223372036854775808<=k/\k<=9223372036854775807 | 1=>fun cs=>∃s:ByteArray,cs=[.string s]/\s.size<=140737488351232 | _=>FilesCells W) Tryz.underlying40 ?_).mono ?_
 ·intro i f hf
  rcases i with _ | _ | _ | i<;>simp at hf
  ·subst hf;exact aMj Tryz.underlying3
  ·subst hf;exact aMs Tryz.underlying9
  subst hf;exact aVw
 rintro cs ⟨hl,h⟩
 have hl2:cs.length=3:=hl
 match cs,hl2 with
 | [c0,c1,c2],_=>
  obtain ⟨a,z0,h0⟩:=h 0 _ rfl
  obtain ⟨s,z1,h1⟩:=h 1 _ rfl
  obtain ⟨A,c,l,z2,h3,h4⟩:=h 2 _ rfl
  have e0:[c0]=[Value.int .i64 a]:=z0
  have e1:[c1]=[Value.string s]:=z1
  have e2:[c2]=[Value.slice A l.length c]:=z2
  cases e0
  cases e1
  cases e2
  exact ⟨⟨a,s,A,c,l⟩,rfl,h3,h4,h0,h1⟩
theorem aWb:Opens enc W 22 fun cs=>∃(A:Option Addr) (c:Nat) (l:List FLV),cs=[.slice A l.length c]/\RdFl W W.heap.size A l.length c l/\l.length<=17592186044416:=by
 refine (aEr (f:=FLV.cells) (Q:=fun f=>RdF W W.heap.size f.A f.files.length f.c f.files/\f.files.length<=17592186044416/\I64 f.parent/\f.msg.size<=140737488351232) Tryz.underlying22 (by kernel_rfl) (bytes:=48) (by kernel_rfl) FLV.cells_len (by omega) (bAl.mono ?_)).mono ?_
 ·rintro cs ⟨f,h⟩;exact ⟨f,h⟩
 rintro cs ⟨A,n,c,es,rfl,rfl,hr,hq,hb⟩
 exact ⟨A,c,es,rfl,⟨hr,rfl,hq⟩,by omega⟩
theorem aSh:Opens enc W 43 fun cs=>∃m:MV,cs=m.cells/\Rd W W.heap.size 1 m.A m.new.length m.c (m.new.map (.int .i64))/\m.new.length<=17592186044416/\I64 m.old/\∀x∈m.new,I64 x:=by
 refine (aGc (E:=fun i=>match i with | 0=>fun cs=>∃k:Int,cs=[.int .i64 k]/\-9223372036854775808<=k/\k<=9223372036854775807 | _=>fun cs=>∃(A:Option Addr) (c:Nat) (l:List Int),cs=[.slice A l.length c]/\Rd W W.heap.size 1 A l.length c (l.map (.int .i64))/\l.length<=17592186044416/\∀x∈l,I64 x) Tryz.underlying43 ?_).mono ?_
 ·intro i f hf
  rcases i with _ | _ | i<;>simp at hf
  ·subst hf;exact aMj Tryz.underlying3
  subst hf;exact aYq
 rintro cs ⟨hl,h⟩
 have hl2:cs.length=2:=hl
 match cs,hl2 with
 | [c0,c1],_=>
  obtain ⟨a,z0,h0⟩:=h 0 _ rfl
  obtain ⟨A,c,l,z1,h1,h2,h3⟩:=h 1 _ rfl
  have e0:[c0]=[Value.int .i64 a]:=z0
  have e1:[c1]=[Value.slice A l.length c]:=z1
  cases e0
  cases e1
  exact ⟨⟨a,A,c,l⟩,rfl,h1,h2,h0,h3⟩
theorem aQl:Opens enc W 23 fun cs=>∃(A:Option Addr) (c:Nat) (l:List MV),cs=[.slice A l.length c]/\RdM W W.heap.size A l.length c l/\l.length<=17592186044416:=by
 refine (aEr (f:=MV.cells) (Q:=fun m=>Rd W W.heap.size 1 m.A m.new.length m.c (m.new.map (.int .i64))/\m.new.length<=17592186044416/\I64 m.old/\∀x∈m.new,I64 x) Tryz.underlying23 (by kernel_rfl) (bytes:=32) (by kernel_rfl) MV.cells_len (by omega) (aSh.mono ?_)).mono ?_
 ·rintro cs ⟨f,h⟩;exact ⟨f,h⟩
 rintro cs ⟨A,n,c,es,rfl,rfl,hr,hq,hb⟩
 exact ⟨A,c,es,rfl,⟨hr,rfl,hq⟩,by omega⟩
end
end Go.Proofs.YtohblmepajhpaaaGreatDoor
