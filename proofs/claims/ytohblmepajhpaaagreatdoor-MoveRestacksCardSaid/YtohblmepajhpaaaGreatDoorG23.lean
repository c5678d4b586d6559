/- Contracts of functions that the law reaches, and plain laws of what they compute. -/
import Derived.Test.YtohblmepajhpaaaGreatDoorG21
import Derived.Test.YtohblmepajhpaaaGreatDoorG22
set_option maxHeartbeats 8000000
set_option maxRecDepth 100000
open Go.Lib (hid)
namespace Go.Proofs.YtohblmepajhpaaaGreatDoor
open Go.RowKit
theorem bCa (p:Int)(m:ByteArray)(w:World):(Instr.build 40 #[(0,.int .i64 p),(1,.string m)]).run Tryz.prog w=.ok (.agg #[.int .i64 p,.string m,.slice none 0 0]) w:=by
 go_simp
theorem bFq (p:Int)(A:Option Addr)(n c:Nat)(w:World):(Instr.build 43 #[(0,.int .i64 p),(1,.slice A n c)]).run Tryz.prog w=.ok (.agg #[.int .i64 p,.slice A n c]) w:=by
 go_simp
theorem aFm (w:World):(zeroValue 40).run Tryz.prog w=.ok (.agg #[.int .i64 0,.string ⟨#[]⟩,.slice none 0 0]) w:=Tryz.zeroValue40 w
theorem exq3:(∀(u v t:Value) (K:Value->Prop),exq (.tuple #[u,v,t]) 0 K=K u)/\(∀(u v t:Value) (K:Value->Prop),exq (.tuple #[u,v,t]) 1 K=K v)/\(∀(u v t:Value) (K:Value->Prop),exq (.tuple #[u,v,t]) 2 K=K t):=by
 refine ⟨?_,?_,?_⟩<;>(intros;simp[exq])
theorem aPp (a b c:List FV):(treemergeF a b c).1.length<=100:=by
 unfold treemergeF
 split
 ·exact Nat.zero_le _
 split
 ·exact Nat.zero_le _
 rename_i h
 exact aEl (by simpa using h)
def StopIs (w0:World)(mb:Nat)(r:MR×Int)(e:Ending) (w':World):Prop:=
 Below w0.heap.size w0 w'/\e=.returned (.tuple #[.bool false,.int .i64 r.2])/\(r.2≠0->r.1=noMR)/\
  (r.2=0->∃(a b sv:Value) (E S:Nat) (A C:Option Addr) (k j:Nat),r.1.new=[]/\r.1.marks=[]/\w'.heap[mb]? = some (.cells #[a,b,.int .i64 E,.int .i64 S,sv,.slice none 0 0,.slice none 0 0,.int .i64 r.1.commit,.slice A r.1.files.length k,.slice C r.1.clashes.length j] 109 (0,0))/\
   RdF w' w'.heap.size A r.1.files.length k r.1.files/\Rd w' w'.heap.size 3 C r.1.clashes.length j (r.1.clashes.flatMap CL.cells)/\(∀a,A=some a->w0.heap.size<=a.block)/\∀a,C=some a->w0.heap.size<=a.block)
def OneIs (Z:List Nat)(w0:World)(mb E S:Nat)(sv fv kv:Value)(fl:List FLV)(ms:List MV)(c:Int)(r:Except (MR×Int) (List FL))(w:World)(e:Ending) (w':World):Prop:=
 match r with
 | .error x=>StopIs w0 mb x e w'
 | .ok l'=>e=.returned (.tuple #[.bool true,.int .i64 0])/\∃(fv' kv':Value) (f:FLV) (m:MV),l'=fl.map FLV.pl++[f.pl]/\m.old=c/\m.new=[(fl.length:Int)]/\Mov Z w0 w' mb E S sv fv' kv' (fl++[f]) (ms++[m])/\
   HStay (Xs Z mb fv kv) w w'/\∀g∈Xs Z mb fv' kv',g∈Xs Z mb fv kv\/w.heap.size<=g
theorem bIb {Z:List Nat}{w0 w:World}{mb E S n sc:Nat}{SA:Option Addr}{fv kv:Value}{fl:List FLV}{ms:List MV}{sl:List STV}{c onto:Int}(hL:Lm w0)(h:Mov Z w0 w mb E S (.slice SA n sc) fv kv fl ms)(hfl:fl.length<=100000)(hms:ms.length<=100000)
  (hn:n<=maxLen) (hs:RdS w0 w0.heap.size SA n sc sl) (hc0:0<=c) (hc1:c<fl.length) (hp1:par (parF (fl.map FLV.pl)) c<fl.length) (ho0:-1<=onto) (ho1:onto<fl.length) :
  Calls Tryz.prog 81 #[.pointer (some ⟨mb,0,none⟩),.int .i64 c,.int .i64 onto] w (OneIs Z w0 mb E S (.slice SA n sc) fv kv fl ms c (oneOn (sl.map STV.pl) (fl.map FLV.pl) c onto) w):=by
 obtain ⟨c',rfl⟩:∃k:Nat,c=(k:Int):=⟨c.toNat,by omega⟩
 obtain ⟨A,ca,efv,hrf⟩:=h.rdFl
 have HRF:=hid hrf
 obtain ⟨b0,o0,f,eA,hbb,hx,hfm,k0,k1,k2⟩:=hrf.get (k:=c') (by omega)
 subst eA
 obtain ⟨W,eW⟩:∃W,W=w.alloc (.cells #[.int .i64 (c':Int)] 3):=⟨_,rfl⟩
 obtain ⟨V,eV⟩:∃V,V=W.drew:=⟨_,rfl⟩
 have hbW:Below w.heap.size w W:=by rw[eW];exact (Below.refl _ _).alloc (Nat.le_refl _) _
 have hbV:Below w.heap.size w V:=by rw[eV];exact hbW.drew
 have hM:=h.below hbV
 have hbx:V.heap[w.heap.size]? = some (.cells #[.int .i64 (c':Int)] 3 (0,0)):=by rw[eV,eW];exact heap_alloc_new _ _
 have HMV:=hid hM
 have HBX:=hid hbx
 have HNB:=hid (show w.heap.size∉Xs Z mb fv kv from h.new (Nat.le_refl _))
 have HNF:=hid (show V.heap.size∉Xs Z mb fv kv from hM.new (Nat.le_refl _))
 have HOV:=hid (show Off V (V.heap.size::Xs Z mb fv kv) fl ms from Off.less ⟨hM.pf,hM.pk⟩ fun b hb=>by
  rcases List.mem_cons.1 hb with e | e
  ·exact .inr (Nat.le_of_eq e.symm)
  exact .inl e)
 have HK1:=hid ((hbV.cell (p:=⟨b0,o0+c'*3+1,none⟩) hbb).trans k1)
 have HB0:=hid (Nat.lt_of_lt_of_le hbb hbV.size)
 have HBV:=hid hbV
 have HPAR:=hid (show par (parF (fl.map FLV.pl)) (c':Int)=f.parent by
  unfold par parF;rw[Int.toNat_natCast,List.map_map,List.getElem?_map,hx];rfl)
 have HMSG:=hid (show msgAt (fl.map FLV.pl) (c':Int)=f.msg by
  unfold msgAt;rw[Int.toNat_natCast,List.getElem?_map,hx];rfl)
 have HFM:=hid hfm
 have HW0:=hid h.bel.size
 have HKK:=hid (And.intro hbb k0)
 have HPF:=hid (show FlOk w (Xs Z mb fv kv) f from h.pf f hfm)
 clear hM hbx hbW hbV h k1 k2 k0 hbb hrf hx hfm
 have HEV:=hid efv
 have HN:=hid hn
 have HP1:=hid hp1
 clear efv hn hp1
 go_enter Tryz.func81,Tryz.ntmps81
 go_wp2
 rw[<-eW]
 have hn1:(V.alloc (.cells #[.int .i64 0,.string ⟨#[]⟩,.slice none 0 0] 40)).heap[V.heap.size]? = some (.cells #[.int .i64 0,.string ⟨#[]⟩,.slice none 0 0] 40 (0,0)):=heap_alloc_new V _
 have hi40:(Tryz.prog.info? 40).map (·.size)=some 3:=by kernel_rfl
 have hb1:Below V.heap.size V (V.alloc (.cells #[.int .i64 0,.string ⟨#[]⟩,.slice none 0 0] 40)):=(Below.refl _ _).alloc (Nat.le_refl _) _
 obtain ⟨bc,ebc⟩:∃bc,bc=w.heap.size:=⟨_,rfl⟩
 rw[<-ebc] at HBX HNB
 rw[show (.pointer (some ⟨w.heap.size,0,none⟩):Value)=.pointer (some ⟨bc,0,none⟩) by rw[ebc]]
 refine aAs (fun u=>Below V.heap.size V u) (.q 0 (.q 1 (.q 2 (.q 3 (.q 4 (.q 5 (.q 6 (.q 7 (.q 8 (.b 9 (.one 10 (.one 11 .leaf)))))))))))) mixed (by kernel_rfl) (by rw[<-eV];exact Below.refl _ _) ?_
 intro Tp M Q hT hT' hM hQ
 rw[<-eV]
 clear eV eW
 have m0:M ⟨mb,0,none⟩=some (.slice (some ⟨b0,o0,none⟩) fl.length ca):=hM _ _ fun w' hw=>(hw.cell (p:=⟨mb,0,none⟩) (aAa HMV.out.hs)).trans (by rw[Lib.cell_of_heap HMV.out.hs,<-HEV.out];rfl)
 have m1:M ⟨bc,0,none⟩=some (.int .i64 (c':Int)):=hM _ _ fun w' hw=>(hw.cell (p:=⟨bc,0,none⟩) (aAa HBX.out)).trans (by rw[Lib.cell_of_heap HBX.out];rfl)
 have m2:M ⟨b0,o0+c'*3+1,none⟩=some (.string f.msg):=hM _ _ fun w' hw=>(hw.cell (p:=⟨b0,o0+c'*3+1,none⟩) HB0.out).trans HK1.out
 clear hM
 refine aCj ?_
 intro O hO
 have t0:=hO true 0
 have t1:=hO true 1
 have t2:=hO true 2
 have t3:=hO true 3
 have t4:=hO true 4
 have t5:=hO true 5
 have t6:=hO true 6
 have t7:=hO true 7
 have t8:=hO true 8
 have t9:=hO true 9
 have e10:=hO false 10
 have e11:=hO false 11
 simp only[qcmp] at t0 t1 t2 t3 t4 t5 t6 t7 t8 t9 e10 e11
 clear hO
 simp (maxSteps:=9^7) only[↓wt_q,↓wt_b,t0,t1,t2,t3,t4,t5,t6,t7,t8,t9,↓qpre,aAb,aAe,aAc,m0,m1,m2]
 (repeat refine And.intro (by first|omega|(unfold inI64;omega)) ?_)
 refine aBj rfl (fun w=>bCa _ _ w) ?_
 simp (maxSteps:=9^7) only[↓aAj,e10,aAb,aAc]
 refine aBu aFm ⟨hT _ hb1,?_⟩
 simp (maxSteps:=9^7) only[↓aAj,e11,aAb,aAc]
 refine aAv (cells:=#[.int .i64 onto,.string f.msg,.slice none 0 0]) rfl rfl hn1 hi40 rfl (by simp[Value.oneCell']) ⟨hT _ (aAk hb1 (Nat.le_refl _)),?_⟩
 simp (maxSteps:=9^7) only[↓aBy,aAb]
 refine hQ _ _ ?_
 have hbU:=aAk (cs:=#[.int .i64 onto,.string f.msg,.slice none 0 0]) hb1 (Nat.le_refl _)
 have HMU:=hid (HMV.out.below hbU)
 have HOU:=hid (HOV.out.keep (HStay.of_below hbU))
 have HBU:=hid ((hbU.block bc (aAa HBX.out)).trans HBX.out)
 have HFU:=hid (setRow_heap _ _ _ #[.int .i64 onto,.string f.msg,.slice none 0 0] _ _ hn1)
 have HU:=hid (HBV.out.trans (hbU.mono HBV.out.size))
 have HLT:=hid (show bc<V.heap.size from aAa HBX.out)
 have HWF:=hid HBV.out.size
 clear hQ hT hT' m0 m1 m2 t0 t1 t2 t3 t4 t5 t6 t7 t8 t9 e10 e11 hbU hb1 hn1 hi40 HK1 HB0 HBX HMV HBV HOV
 clear Tp M Q O
 simp only[Value.cells] at HMU HBU HFU HU ⊢
 generalize World.setRow _ _ _=U at *
 generalize V.heap.size=fb at *
 have HBC:=hid ebc
 clear ebc V W
 have HS:=hid hs
 have HON:=hid (show oneOn (sl.map STV.pl) (fl.map FLV.pl) (c':Int) onto=if (mergedOn (fl.map FLV.pl) (sl.map STV.pl) c' onto).2.2≠0 then .error (noMR,(mergedOn (fl.map FLV.pl) (sl.map STV.pl) c' onto).2.2)
  else if (mergedOn (fl.map FLV.pl) (sl.map STV.pl) c' onto).2.1≠[] then .error (⟨[],[],c',(mergedOn (fl.map FLV.pl) (sl.map STV.pl) c' onto).1,(mergedOn (fl.map FLV.pl) (sl.map STV.pl) c' onto).2.1⟩,0)
  else if 2000<=(fl.map FLV.pl).length then .error (noMR,6) else .ok (fl.map FLV.pl++[⟨onto,msgAt (fl.map FLV.pl) c',(mergedOn (fl.map FLV.pl) (sl.map STV.pl) c' onto).1⟩]) from rfl)
 have KI:=bAv (x:=(c':Int)) HN.out (hs.to HMU.out.bel HMU.out.bel.size) (show U.cell? ⟨bc,0,none⟩=some (.int .i64 (c':Int)) by rw[Lib.cell_of_heap HBU.out];rfl) (aAa HBU.out)
 have g4:U.cell? ⟨mb,4,none⟩=some (.slice SA n sc):=by rw[Lib.cell_of_heap HMU.out.hs];rfl
 have gml:=aAa HMU.out.hs
 clear hs
 go_wp2_with fail
 refine KI.mono ?_
 rintro e u1 ⟨r,rfl,hr,hb2⟩
 have HM1:=hid (HMU.out.below hb2)
 have HO1:=hid (HOU.out.keep (HStay.of_below hb2))
 have HB1:=hid ((hb2.block bc (aAa HBU.out)).trans HBU.out)
 have HF1:=hid ((hb2.block fb (aAa HFU.out)).trans HFU.out)
 have HU1:=hid (HU.out.trans (hb2.mono HU.out.size))
 clear KI g4 hb2 HMU HBU HFU HU gml HOU
 have g4:u1.cell? ⟨mb,4,none⟩=some (.slice SA n sc):=by rw[Lib.cell_of_heap HM1.out.hs];rfl
 have gml:=aAa HM1.out.hs
 rcases hr with ⟨rfl,hnone⟩ | ⟨k,g,rfl,hk,hsome⟩
 case' inl=>
  have HME:=hid (show mergedOn (fl.map FLV.pl) (sl.map STV.pl) c' onto=treemergeF (filesAt (fl.map FLV.pl) f.parent) (filesAt (fl.map FLV.pl) onto) (filesAt (fl.map FLV.pl) c') by
   unfold mergedOn;rw[hnone,<-HPAR.out])
  have HP2:=hid (show f.parent<fl.length by rw[<-HPAR.out];exact HP1.out)
  clear hnone g4
  have KF:=hid (fun (v:World) (hv:Below u1.heap.size u1 v) (i:Int) (hi:i<fl.length)=>bAq (X:=Xs Z mb fv kv) (i:=i) (HM1.out.below hv).hs
   (show (movC fv kv E S (.slice SA n sc))[0]? = some (.slice (some ⟨b0,o0,none⟩) fl.length ca) by rw[HEV.out];rfl) ((HM1.out.below hv).rdFl' HEV.out).row rfl (by omega) (HM1.out.below hv).pf hi)
  go_wp2
  refine aAh (fun v=>Below u1.heap.size u1 v) [(true,0),(true,1),(true,2),(true,3),(true,4),(true,5),(true,6),(true,7),(true,8),(true,10),(true,11),(true,13),(true,14),(false,9),(false,12),(false,15),(false,16),(true,17),(true,18),(true,19),(true,20),(true,21),(true,22),(true,23)] mixed (by kernel_rfl) (Below.refl _ _).drew ?_
  intro T M Q hT hT' hM hQ
  have m0:M ⟨mb,0,none⟩=some (.slice (some ⟨b0,o0,none⟩) fl.length ca):=hM _ _ fun w' hw=>(hw.cell (p:=⟨mb,0,none⟩) gml).trans (by rw[Lib.cell_of_heap HM1.out.hs,<-HEV.out];rfl)
  have m1:M ⟨bc,0,none⟩=some (.int .i64 (c':Int)):=hM _ _ fun w' hw=>(hw.cell (p:=⟨bc,0,none⟩) (aAa HB1.out)).trans (by rw[Lib.cell_of_heap HB1.out];rfl)
  have m2:M ⟨b0,o0+c'*3,none⟩=some (.int .i64 f.parent):=hM _ _ fun w' hw=>(hw.cell (p:=⟨b0,o0+c'*3,none⟩) (Nat.lt_of_lt_of_le HKK.out.1 HU1.out.size)).trans ((HU1.out.cell HKK.out.1).trans HKK.out.2)
  clear hM
  have hd0:Below u1.heap.size u1 u1.drew:=(Below.refl _ _).drew
  simp only[qcmp]
  simp (maxSteps:=9^7) only[↓qpre,aAb,aAe,aAc,m0,m1,m2]
  (repeat refine And.intro (by first|omega|(unfold inI64;omega)) ?_)
  refine aAi (by kernel_rfl) (KF.out _ hd0 _ HP2.out) rfl rfl ?_
  rintro e v1 ⟨A1,d1,rfl,r1,l1,rfl⟩
  refine ⟨_,rfl,hT _ hd0,?_⟩
  simp (maxSteps:=9^7) only[aAb,aAc]
  refine aAi (by kernel_rfl) (KF.out _ hd0 _ ho1) rfl rfl ?_
  rintro e v2 ⟨A2,d2,rfl,r2,l2,rfl⟩
  refine ⟨_,rfl,hT _ hd0,?_⟩
  simp (maxSteps:=9^7) only[aAb,aAc]
  refine aAi (by kernel_rfl) (KF.out _ hd0 _ hc1) rfl rfl ?_
  rintro e v3 ⟨A3,d3,rfl,r3,l3,rfl⟩
  refine ⟨_,rfl,hT _ hd0,?_⟩
  simp (maxSteps:=9^7) only[aAb,aAc]
  refine aAi (by kernel_rfl) (aYr (hL.to (HM1.out.bel.trans (hd0.mono HM1.out.bel.size))) l1 l2 l3 r1.1 r2.1 r3.1) rfl rfl ?_
  rintro e u2 ⟨A4,C4,d4,j4,rfl,rF,rC,hb4,hnew,hnewC⟩
  have hb5:=hd0.trans (hb4.mono hd0.size)
  refine ⟨_,rfl,hT _ hb5,?_⟩
  simp (maxSteps:=9^7) only[↓qpre,aAb,aAc,exq3]
  refine hQ _ _ ?_
  have HM2:=hid (HM1.out.below hb5)
  have HO2:=hid (HO1.out.keep (HStay.of_below hb5))
  have HB2:=hid ((hb5.block bc (aAa HB1.out)).trans HB1.out)
  have HF2:=hid ((hb5.block fb (aAa HF1.out)).trans HF1.out)
  have HU2:=hid (HU1.out.trans (hb5.mono HU1.out.size))
  have HRF:=hid rF
  have HRC:=hid rC
  have HNEW:=hid (show ∀a,A4=some a->u1.heap.size<=a.block from hnew)
  have HNEC:=hid (show ∀a,C4=some a->u1.heap.size<=a.block from hnewC)
  have HML:=hid gml
  have HW1:=hid HM1.out.bel.size
  have HXL:=hid (show ∀g∈fb::Xs Z mb fv kv,g<u1.heap.size from fun g hg=>by
   rcases List.mem_cons.1 hg with e | e
   ·rw[e];exact aAa HF1.out
   exact Nat.lt_of_not_le fun hn=>HM1.out.new hn e)
  clear HM1 HF1
  clear hQ hT hT' m0 m1 m2 hd0 r1 r2 r3 l1 l2 l3 rF rC hb4 hb5 hnew hnewC KF gml
  clear T M Q HB1 HU1 HO1
  have HQ:=hid (Nat.le_trans (aPp (filesAt (fl.map FLV.pl) f.parent) (filesAt (fl.map FLV.pl) onto) (filesAt (fl.map FLV.pl) c')) (show 100<=17592186044416 by decide))
  generalize treemergeF (filesAt (fl.map FLV.pl) f.parent) (filesAt (fl.map FLV.pl) onto) (filesAt (fl.map FLV.pl) c')=R at *
  obtain ⟨FS,CS,k⟩:=R
  dsimp only at HRF HRC HQ ⊢
  rw[HME.out] at HON
  dsimp only at HON
  have gml:=aAa HM2.out.hs
  by_cases hk:k=0
  case neg=>
   have ek:(k != 0)=true:=by simpa using hk
   have HK:=hid hk
   clear hk
   go_wp2
   go_ret2
   rw[HON.out,if_pos HK.out]
   exact ⟨HM2.out.bel,rfl,fun _=>rfl,fun e=>absurd e HK.out⟩
  subst hk
  rw[if_neg (by decide)] at HON
  by_cases hcs:0<CS.length
  case pos=>
   have HK:=hid (show CS≠[] from fun e=>by rw[e] at hcs;exact absurd hcs (by decide))
   have c1:u2.cell? ⟨bc,0,none⟩=some (.int .i64 (c':Int)):=by rw[Lib.cell_of_heap HB2.out];rfl
   go_wp2_with (refine aIg rfl 32 (.tmp 74) (.tmp 72) rfl (g:=mb) (d:=5) (cs:=#[.slice none 0 0,.slice none 0 0,.int .i64 (c':Int),.slice A4 FS.length d4,.slice C4 CS.length j4]) (by kernel_rfl) rfl rfl HM2.out.hs (Nat.le_refl 10) (by simp[Value.oneCell']) ?_)
   go_ret2
   rw[HON.out,if_pos HK.out]
   have hst:HStay [mb] u2 (u2.setRow mb (#[fv,kv,.int .i64 E,.int .i64 S,.slice SA n sc,.slice none 0 0,.slice none 0 0,.int .i64 (c':Int),.slice A4 FS.length d4,.slice C4 CS.length j4]:Array Value)):=⟨by simp[World.setRow],fun k _ hx=>setRow_other _ _ _ _ (fun e=>hx (by rw[e];simp))⟩
   refine ⟨aAk HM2.out.bel HM2.out.lo,rfl,fun e=>absurd rfl e,fun _=>⟨fv,kv,.slice SA n sc,E,S,A4,C4,d4,j4,rfl,rfl,setRow_heap _ _ _ _ _ _ HM2.out.hs,⟨aBf (X:=[mb]) HRF.out.row (fun a e _ hm=>?_) hst.keeps,rfl,HRF.out.fits⟩,aBf (X:=[mb]) HRC.out (fun a e _ hm=>?_) hst.keeps,(fun a e=>Nat.le_trans HW1.out (HNEW.out a e)),fun a e=>Nat.le_trans HW1.out (HNEC.out a e)⟩⟩
   ·have:=HNEW.out a e;have:=HML.out;rw[List.mem_singleton] at hm;omega
   have:=HNEC.out a e;have:=HML.out;rw[List.mem_singleton] at hm;omega
  obtain rfl:CS=[]:=List.eq_nil_of_length_eq_zero (by omega)
  rw[if_neg (fun h=>h rfl)] at HON
  clear hcs HRC HNEC HML HW1 gml
 case' inr=>
  have HME:=hid (show mergedOn (fl.map FLV.pl) (sl.map STV.pl) c' onto=(g.files,[],0) by unfold mergedOn;rw[hsome];rfl)
  have hkn:k<n:=by rw[<-HS.out.len];exact (List.getElem?_eq_some_iff.1 hk).1
  obtain ⟨b1,o1,g',eA,hbb1,hg',hgm,_,g5⟩:=(HS.out.to HM1.out.bel HM1.out.bel.size).get hkn
  rw[hk] at hg'
  injection hg' with hg'
  subst hg'
  rw[eA] at g4
  have HEA:=hid eA
  clear eA
  obtain ⟨q1,q2,_⟩:=(HS.out.to HM1.out.bel HM1.out.bel.size).parts g hgm
  have KC:=aOp q2 q1
  have HQ:=hid (show g.files.length<=17592186044416 from Nat.le_trans q2 (by omega))
  have HQF:=hid q1.fits
  clear hsome hk hgm q1 q2
  rw[HME.out] at HON
  dsimp only at HON
  rw[if_neg (by decide),if_neg (fun h=>h rfl)] at HON
  go_wp2_with fail
  refine KC.mono ?_
  rintro e u2 ⟨v,rfl,hov,hb3⟩
  obtain ⟨A4,d4,rfl,hc2⟩:=aAd hov
  have HRF:=hid (show RdF u2 u2.heap.size A4 g.files.length d4 g.files from ⟨Rd.of_own hov hc2,rfl,HQF.out⟩)
  have HNEW:=hid (show ∀a,A4=some a->u1.heap.size<=a.block from aFe hov)
  have HM2:=hid (HM1.out.below hb3)
  have HO2:=hid (HO1.out.keep (HStay.of_below hb3))
  have HB2:=hid ((hb3.block bc (aAa HB1.out)).trans HB1.out)
  have HF2:=hid ((hb3.block fb (aAa HF1.out)).trans HF1.out)
  have HU2:=hid (HU1.out.trans (hb3.mono HU1.out.size))
  have HXL:=hid (show ∀g∈fb::Xs Z mb fv kv,g<u1.heap.size from fun g hg=>by
   rcases List.mem_cons.1 hg with e | e
   ·rw[e];exact aAa HF1.out
   exact Nat.lt_of_not_le fun hn=>HM1.out.new hn e)
  clear HM1 HF1
  generalize g.files=FS at *
  clear hov hc2 KC hb3 hbb1 g5 g4 gml HB1 HU1 HQF hkn HO1
 all_goals
  have c2:u2.cell? ⟨fb,2,none⟩=some (.slice none 0 0):=by rw[Lib.cell_of_heap HF2.out];rfl
  have f2:u2.frozen? ⟨fb,2,none⟩=false:=aAn HF2.out
  have hgr:=aAt u2 fb 2 (.slice A4 FS.length d4)
  have hst:HStay (fb::Xs Z mb fv kv) u2 (u2.setCell ⟨fb,2,none⟩ (.slice A4 FS.length d4)):=HStay.grown hgr fun g e=>by injection e with e;rw[e];exact List.mem_cons_self ..
  have hlo:w0.heap.size<=fb:=Nat.le_trans HW0.out HWF.out
  have hm3:=HM2.out.setOther hgr HNF.out hlo HO2.out
  have g0:(u2.setCell ⟨fb,2,none⟩ (.slice A4 FS.length d4)).cell? ⟨mb,0,none⟩=some (.slice (some ⟨b0,o0,none⟩) fl.length ca):=by rw[Lib.cell_of_heap hm3.hs,<-HEV.out];rfl
  have gml:mb<(u2.setCell ⟨fb,2,none⟩ (.slice A4 FS.length d4)).heap.size:=aAa hm3.hs
  have HM3:=hid hm3
  have HF3:=hid (show (u2.setCell ⟨fb,2,none⟩ (.slice A4 FS.length d4)).heap[fb]? = some (.cells #[.int .i64 onto,.string f.msg,.slice A4 FS.length d4] 40 (0,0)) by
   have:=heap_setCell_same u2 fb 2 _ _ (.slice A4 FS.length d4) HF2.out
   simpa using this)
  have HB3:=hid ((Below.heap_setCell u2 ⟨fb,2,none⟩ (.slice A4 FS.length d4) bc (Nat.ne_of_lt HLT.out)).trans HB2.out)
  have HNW:=hid (show FlOk (u2.setCell ⟨fb,2,none⟩ (.slice A4 FS.length d4)) (Xs Z mb fv kv) ⟨onto,f.msg,A4,d4,FS⟩ from
   ⟨⟨⟨aBf (X:=fb::Xs Z mb fv kv) HRF.out.row (fun a e _ hm=>Nat.lt_irrefl _ (Nat.lt_of_lt_of_le (HXL.out _ hm) (HNEW.out a e))) hst.keeps,rfl,HRF.out.fits⟩,fun a e _ hm=>Nat.lt_irrefl _ (Nat.lt_of_lt_of_le (HXL.out _ (List.mem_cons_of_mem _ hm)) (HNEW.out a e))⟩,
    HQ.out,(show I64 onto by unfold I64;omega),HPF.out.msg⟩)
  have HU3:=hid (show Below w.heap.size w (u2.setCell ⟨fb,2,none⟩ (.slice A4 FS.length d4)) from HU2.out.setCell HWF.out _)
  clear hgr hst hlo hm3 HM2 HB2 HF2 HU2 HO2 HRF HNEW HXL HQ
  by_cases h2:2000<=fl.length
  case pos=>
   have HK:=hid h2
   go_wp2
   go_ret2
   rw[HON.out,if_pos (by rw[List.length_map];exact HK.out)]
   exact ⟨HM3.out.bel,rfl,fun _=>rfl,fun e=>absurd e (by decide)⟩
  rw[if_neg (by rw[List.length_map];exact h2)] at HON
  go_wp2
  clear c2 f2 g0 gml h2
  generalize u2.setCell ⟨fb,2,none⟩ (.slice A4 FS.length d4)=u3 at *
  obtain ⟨V0,e0⟩:∃V0,V0=u3.drew:=⟨_,rfl⟩
  have hb0:Below u3.heap.size u3 V0:=by rw[e0];exact (Below.refl _ _).drew
  have HM0:=hid (HM3.out.below hb0)
  have HB0:=hid ((hb0.block bc (aAa HB3.out)).trans HB3.out)
  have HF0:=hid ((hb0.block fb (aAa HF3.out)).trans HF3.out)
  have HN0:=hid (HNW.out.keep (HStay.of_below hb0).keeps)
  have HU0:=hid (HU3.out.trans (hb0.mono HU3.out.size))
  clear hb0 HM3 HB3 HF3 HNW HU3
  refine aBg (fun u=>u.heap[mb]? = some (.cells (movC fv kv E S (.slice SA n sc)) 109 (0,0))/\u.heap[bc]? = some (.cells #[.int .i64 (c':Int)] 3 (0,0)))
   [(true,0),(true,1),(true,2),(true,3),(true,4),(true,5),(true,6),(true,7),(true,8),(true,9),(true,10),(false,11),(false,12),(false,13),(false,14),(true,15),(true,16)] [17] mixed (by kernel_rfl) (by rw[<-e0];exact ⟨HM0.out.hs,HB0.out⟩) ?_
  intro Tp M Q Q2 hT hT' hM hQ hQ2
  rw[<-e0]
  clear e0 u3
  have m0:M ⟨mb,0,none⟩=some (.slice (some ⟨b0,o0,none⟩) fl.length ca):=hM _ _ fun w' hw=>by rw[Lib.cell_of_heap hw.1,<-HEV.out];rfl
  have m1:M ⟨mb,1,none⟩=some kv:=hM _ _ fun w' hw=>by rw[Lib.cell_of_heap hw.1];rfl
  have m2:M ⟨bc,0,none⟩=some (.int .i64 (c':Int)):=hM _ _ fun w' hw=>by rw[Lib.cell_of_heap hw.2];rfl
  clear hM
  simp only[qcmp]
  simp (maxSteps:=9^7) only[↓qpre,aAb,aAe,aAc,m0,m1,m2]
  clear m0 m1 m2
  have hb1:Below V0.heap.size V0 (V0.alloc (.cells #[.int .i64 (fl.length:Int)] 3)):=(Below.refl _ _).alloc (Nat.le_refl _) _
  have HM1:=hid (HM0.out.below hb1)
  have HB1:=hid ((hb1.block bc (aAa HB0.out)).trans HB0.out)
  have HF1:=hid ((hb1.block fb (aAa HF0.out)).trans HF0.out)
  have HN1:=hid (HN0.out.keep (HStay.of_below hb1).keeps)
  have HU1:=hid (HU0.out.trans (hb1.mono HU0.out.size))
  have HK1:=hid (show MkOk (V0.alloc (.cells #[.int .i64 (fl.length:Int)] 3)) (Xs Z mb fv kv) ⟨c',some ⟨V0.heap.size,0,none⟩,1,[(fl.length:Int)]⟩ from
   ⟨aBi V0 _,fun a e _=>by cases e;exact HM0.out.new (Nat.le_refl _),(show 1<=17592186044416 by decide),(show I64 (c':Int) by unfold I64;omega),fun x hx=>by rw[List.mem_singleton.1 hx];unfold I64;omega⟩)
  refine aEu E28 rfl rfl ⟨hT _ ⟨HM1.out.hs,HB1.out⟩,?_⟩
  simp (maxSteps:=9^7) only[aAb,aAc]
  clear hb1 HM0 HB0 HF0 HN0 HU0
  generalize V0.alloc (.cells #[.int .i64 (fl.length:Int)] 3)=V1 at *
  generalize V0.heap.size=qb at *
  refine aBz rfl (bFq _ _ _ _ _) ⟨hT _ ⟨HM1.out.hs,HB1.out⟩,?_⟩
  simp (maxSteps:=9^7) only[aAb,aAc]
  have hb2:Below V1.heap.size V1 (V1.alloc (.cells #[.int .i64 (c':Int),.slice (some ⟨qb,0,none⟩) 1 1] 43)):=(Below.refl _ _).alloc (Nat.le_refl _) _
  have HM2:=hid (HM1.out.below hb2)
  have HB2:=hid ((hb2.block bc (aAa HB1.out)).trans HB1.out)
  have HF2:=hid ((hb2.block fb (aAa HF1.out)).trans HF1.out)
  have HN2:=hid (HN1.out.keep (HStay.of_below hb2).keeps)
  have HU2:=hid (HU1.out.trans (hb2.mono HU1.out.size))
  have HK2:=hid (HK1.out.keep (HStay.of_below hb2).keeps)
  have HLI:=hid (bHh V1 ⟨c',some ⟨qb,0,none⟩,1,[(fl.length:Int)]⟩)
  refine T.eff_lits (aMa E22 _ _ _) rfl ⟨hT _ ⟨HM2.out.hs,HB2.out⟩,?_⟩
  simp (maxSteps:=9^7) only[aAb,aAc]
  clear hb2 HM1 HB1 HF1 HN1 HU1 HK1
  dsimp only[List.length_singleton] at HLI
  generalize V1.alloc (.cells #[.int .i64 (c':Int),.slice (some ⟨qb,0,none⟩) 1 1] 43)=V2 at *
  refine aAm E22 (base:=w0.heap.size) (n:=ms.length) rfl rfl HM2.out.k1 HLI.out (aGd [⟨c',some ⟨qb,0,none⟩,1,[(fl.length:Int)]⟩]) (by unfold maxLen;omega) (by omega) HM2.out.bel.size ?_
  intro v9 V5 ho9 hg9 hv9
  obtain ⟨A9,c9,rfl,hc9⟩:=aAd ho9
  obtain ⟨hs9,hp9,hst9,hx9,hf9⟩:=HM2.out.pushK (m:=⟨c',some ⟨qb,0,none⟩,1,[(fl.length:Int)]⟩) HK2.out hg9 hv9 ho9
  have HM6:=hid hp9
  have HF6:=hid (hst9.at_ HF2.out HNF.out)
  have HN6:=hid (hf9 _ HN2.out)
  have HS6:=hid (HStay.trans (HStay.of_below (X:=Xs Z mb fv kv) HU2.out) hst9 fun g hg=>.inl hg)
  have HX6:=hid (show ∀g∈Xs Z mb fv (.slice A9 (ms.length+1) c9),g∈Xs Z mb fv kv\/w.heap.size<=g from fun g hg=>(hx9 g hg).imp id fun h=>Nat.le_trans HU2.out.size h)
  refine ⟨hT _ ⟨hs9,(hg9.block bc (aAa HB2.out) (fun e=>HNB.out (aBm.2 (.inr (.inr (.inl e.symm)))))).trans HB2.out⟩,?_⟩
  simp (maxSteps:=9^7) only[↓qpre,aAb,aAe,aAc]
  refine hQ _ _ ?_
  simp only[lates,List.map,qcmp]
  simp (maxSteps:=9^7) only[aAb]
  refine aBl (v:=.slice A9 (ms.length+1) c9) (b:=mb) (o:=1) (by kernel_rfl) rfl rfl (by rw[Lib.cell_of_heap hs9];rfl) (aAn hs9) rfl ⟨trivial,?_⟩
  simp (maxSteps:=9^7) only[aAb]
  refine hQ2 _ _ ?_
  clear hQ hQ2 hT hT' HM2 HB2 HF2 HN2 HU2 HK2 HLI ho9 hg9 hv9 hs9 hp9 hst9 hx9 hf9
  clear Tp M Q Q2
  generalize V5.setCell ⟨mb,1,none⟩ (.slice A9 (ms.length+1) c9)=u6 at *
  go_wp2
  obtain ⟨V0,e0⟩:∃V0,V0=u6.drew:=⟨_,rfl⟩
  have hb0:Below u6.heap.size u6 V0:=by rw[e0];exact (Below.refl _ _).drew
  have HM0:=hid (HM6.out.below hb0)
  have HF0:=hid ((hb0.block fb (aAa HF6.out)).trans HF6.out)
  have HN0:=hid (HN6.out.keep (HStay.of_below hb0).keeps)
  have HS0:=hid (HStay.trans HS6.out (HStay.of_below (X:=[]) hb0) (by simp))
  clear hb0 HM6 HF6 HN6
  refine aBg (fun u=>u.heap[mb]? = some (.cells (movC fv (.slice A9 (ms.length+1) c9) E S (.slice SA n sc)) 109 (0,0))/\u.heap[fb]? = some (.cells #[.int .i64 onto,.string f.msg,.slice A4 FS.length d4] 40 (0,0)))
   [(true,0),(true,1),(true,2),(true,3),(true,4),(true,5),(false,6),(false,7),(true,8),(true,9)] [10] mixed (by kernel_rfl) (by rw[<-e0];exact ⟨HM0.out.hs,HF0.out⟩) ?_
  intro Tp M Q Q2 hT hT' hM hQ hQ2
  rw[<-e0]
  clear e0 HS6 u6
  have m0:M ⟨mb,0,none⟩=some (.slice (some ⟨b0,o0,none⟩) fl.length ca):=hM _ _ fun w' hw=>by rw[Lib.cell_of_heap hw.1,<-HEV.out];rfl
  have m1:M ⟨fb,0,none⟩=some (.int .i64 onto):=hM _ _ fun w' hw=>by rw[Lib.cell_of_heap hw.2];rfl
  have m2:M ⟨fb,1,none⟩=some (.string f.msg):=hM _ _ fun w' hw=>by rw[Lib.cell_of_heap hw.2];rfl
  have m3:M ⟨fb,2,none⟩=some (.slice A4 FS.length d4):=hM _ _ fun w' hw=>by rw[Lib.cell_of_heap hw.2];rfl
  clear hM
  simp only[qcmp]
  simp (maxSteps:=9^7) only[↓qpre,aAb,aAe,aAc,m0,m1,m2,m3]
  clear m0 m1 m2 m3
  have hb1:Below V0.heap.size V0 (V0.alloc (.cells #[.int .i64 onto,.string f.msg,.slice A4 FS.length d4] 40)):=(Below.refl _ _).alloc (Nat.le_refl _) _
  have HM1:=hid (HM0.out.below hb1)
  have HF1:=hid ((hb1.block fb (aAa HF0.out)).trans HF0.out)
  have HN1:=hid (HN0.out.keep (HStay.of_below hb1).keeps)
  have HS1:=hid (HStay.trans HS0.out (HStay.of_below (X:=[]) hb1) (by simp))
  have HLI:=hid (aPk V0 ⟨onto,f.msg,A4,d4,FS⟩)
  refine T.eff_lits (T.run_lits3 aHl _ _ _ _) rfl ⟨hT _ ⟨HM1.out.hs,HF1.out⟩,?_⟩
  simp (maxSteps:=9^7) only[aAb,aAc]
  clear hb1 HM0 HF0 HN0 HS0
  dsimp only at HLI
  generalize V0.alloc (.cells #[.int .i64 onto,.string f.msg,.slice A4 FS.length d4] 40)=V1 at *
  have hfr:V1.ownsRow w0.heap.size 40 3 (.slice (some ⟨b0,o0,none⟩) fl.length ca) fl.length (fl.flatMap FLV.cells):=by rw[<-HEV.out];exact HM1.out.f1
  refine aAm aHl (base:=w0.heap.size) (n:=fl.length) rfl rfl hfr HLI.out (aDn [⟨onto,f.msg,A4,d4,FS⟩]) (by unfold maxLen;omega) (by omega) HM1.out.bel.size ?_
  intro v7 V5 ho7 hg7 hv7
  obtain ⟨A7,c7,rfl,hc7⟩:=aAd ho7
  rw[<-HEV.out] at hg7 hv7
  obtain ⟨hs7,hp7,hst7,hx7,_⟩:=HM1.out.pushF (f:=⟨onto,f.msg,A4,d4,FS⟩) HN1.out hg7 hv7 ho7
  have HM7:=hid hp7
  have HS7:=hid (HStay.trans HS1.out hst7 HX6.out)
  have HX7:=hid (show ∀g∈Xs Z mb (.slice A7 (fl.length+1) c7) (.slice A9 (ms.length+1) c9),g∈Xs Z mb fv kv\/w.heap.size<=g from fun g hg=>by
   rcases hx7 g hg with h | h
   ·exact HX6.out g h
   exact .inr (Nat.le_trans HS1.out.1 h))
  refine ⟨hT _ ⟨hs7,(hg7.block fb (aAa HF1.out) (fun e=>HNF.out (aBm.2 (.inr (.inl e.symm))))).trans HF1.out⟩,?_⟩
  simp (maxSteps:=9^7) only[↓qpre,aAb,aAe,aAc]
  refine hQ _ _ ?_
  simp only[lates,List.map,qcmp]
  simp (maxSteps:=9^7) only[aAb]
  refine aBl (v:=.slice A7 (fl.length+1) c7) (b:=mb) (o:=0) (by kernel_rfl) rfl rfl (by rw[Lib.cell_of_heap hs7];rfl) (aAn hs7) rfl ⟨trivial,?_⟩
  simp (maxSteps:=9^7) only[aAb]
  refine hQ2 _ _ ?_
  clear hQ hQ2 hT hT' HM1 HF1 HN1 HS1 HLI hfr ho7 hg7 hv7 hs7 hp7 hst7 hx7 HX6
  clear Tp M Q Q2
  generalize V5.setCell ⟨mb,0,none⟩ (.slice A7 (fl.length+1) c7)=u8 at *
  go_wp2
  go_ret2
  rw[HON.out]
  exact ⟨rfl,_,_,⟨onto,f.msg,A4,d4,FS⟩,⟨c',some ⟨qb,0,none⟩,1,[(fl.length:Int)]⟩,by rw[HMSG.out];rfl,rfl,rfl,HM7.out,HS7.out,HX7.out⟩
theorem aGs (w:World):(Instr.build 32 #[]).run Tryz.prog w=.ok (.agg #[.slice none 0 0,.slice none 0 0,.int .i64 0,.slice none 0 0,.slice none 0 0]) w:=by
 go_simp
theorem aYp (A1 A2 A3:Option Addr)(n1 c1 n2 c2 n3 c3:Nat)(x y:Int)(w:World):(Instr.build 109 #[(0,.slice A1 n1 c1),(1,.slice A2 n2 c2),(2,.int .i64 x),(3,.int .i64 y),(4,.slice A3 n3 c3),(5,.agg #[.slice none 0 0,.slice none 0 0,.int .i64 0,.slice none 0 0,.slice none 0 0])]).run Tryz.prog w =
  .ok (.agg #[.slice A1 n1 c1,.slice A2 n2 c2,.int .i64 x,.int .i64 y,.slice A3 n3 c3,.slice none 0 0,.slice none 0 0,.int .i64 0,.slice none 0 0,.slice none 0 0]) w:=by
 go_simp
def BeginIs (Z:List Nat)(l:List FLV)(ms:List MV)(sv:Value)(w:World)(e:Ending) (w':World):Prop:=
 Below w.heap.size w w'/\if rightL (l.map FLV.pl) ms=true then ∃(mb:Nat) (fv kv:Value),e=.returned (.pointer (some ⟨mb,0,none⟩))/\Mov Z w w' mb l.length ms.length sv fv kv l ms else e=.returned (.pointer none)
theorem anyOk (l:List FLV):(l.map FLV.pl).all (fun f=>treeOk f.files)=!l.any fun f=>!treeOk f.files:=by
 induction l with
 | nil=>rfl
 | cons f l ih=>rw[List.map_cons,List.all_cons,List.any_cons,ih];cases h:treeOk f.files<;>simp[FLV.pl,h]
theorem aOb {Z:List Nat}{w:World}{A AK SA:Option Addr}{c ck sn sc:Nat}{l:List FLV}{ms:List MV}(hL:Lm w)(hn:l.length<=100000)(hm:ms.length<=100000)(r1:RdFl w w.heap.size A l.length c l)(r2:RdM w w.heap.size AK ms.length ck ms)(hz:∀z∈Z,z<w.heap.size)
  (z1:∀f∈l,∀a,f.A=some a->0<f.files.length->a.block∉Z) (z2:∀m∈ms,∀a,m.A=some a->0<m.new.length->a.block∉Z) :
  Calls Tryz.prog 35 #[.slice A l.length c,.slice AK ms.length ck,.slice SA sn sc] w (BeginIs Z l ms (.slice SA sn sc) w):=by
 have K1:=aMh (by omega) r1.row (aDn _)
 have HR1:=hid r1
 have HR2:=hid r2
 have HPA:=hid (show parF (l.map FLV.pl)=l.map FLV.parent by unfold parF;rw[List.map_map];rfl)
 have HLE:=hid (show rightL (l.map FLV.pl) ms=(rightP (parF (l.map FLV.pl)) && (l.map FLV.pl).all (fun f=>treeOk f.files) && rightM ((l.map FLV.pl).length:Int) ms) from rfl)
 rw[anyOk,List.length_map,HPA.out] at HLE
 have HZ:=hid (And.intro hz (And.intro z1 z2))
 clear r1 r2 hz z1 z2
 go_enter Tryz.func35,Tryz.ntmps35
 go_wp2_with fail
 refine K1.mono ?_
 rintro e w1 ⟨v1,rfl,ho1,hb1⟩
 obtain ⟨A1,c1,rfl,hc1⟩:=aAd ho1
 have HO1:=hid ho1
 have HB1:=hid hb1
 have K2:=aNc (by omega) (HR2.out.row.to hb1 hb1.size) (aGd _)
 clear K1 ho1 hb1
 go_wp2_with fail
 refine K2.mono ?_
 rintro e w2 ⟨v2,rfl,ho2,hb2⟩
 obtain ⟨A2,c2,rfl,hc2⟩:=aAd ho2
 have HO2:=hid (aFg ho2 HB1.out.size)
 have HO3:=hid (aAg HO1.out hb2)
 have HB2:=hid (HB1.out.trans (hb2.mono HB1.out.size))
 have hz:=aGs w2
 have hz2:=aYp A1 A2 SA l.length c1 ms.length c2 sn sc l.length ms.length w2
 obtain ⟨W,eW⟩:∃W,W=w2.alloc (.cells (movC (.slice A1 l.length c1) (.slice A2 ms.length c2) l.length ms.length (.slice SA sn sc)) 109):=⟨_,rfl⟩
 obtain ⟨mb,emb⟩:∃mb,mb=w2.heap.size:=⟨_,rfl⟩
 have hbW:Below w2.heap.size w2 W:=by rw[eW];exact (Below.refl _ _).alloc (Nat.le_refl _) _
 have hm3:Mov Z w W mb l.length ms.length (.slice SA sn sc) (.slice A1 l.length c1) (.slice A2 ms.length c2) l ms:=by
  have hbw:Below w.heap.size w W:=HB2.out.trans (hbW.mono HB2.out.size)
  have ho:∀g,g<w.heap.size->g∉Z->g∉Xs Z mb (.slice A1 l.length c1) (.slice A2 ms.length c2):=fun g hg hz e=>by
   rcases aBm.1 e with h1 | h1 | h1 | h1
   ·have:=HB2.out.size;omega
   ·have:=(HO3.out.lt g h1).1;omega
   ·have:=(HO2.out.lt g h1).1;omega
   exact hz h1
  refine ⟨by rw[eW,emb];exact heap_alloc_new _ _,aAg HO3.out hbW,aAg HO2.out hbW,by rw[emb];exact HB2.out.size,hbw,fun f hf=>?_,fun x hx=>?_,HZ.out.1⟩
  ·obtain ⟨p1,p2,p3,p4⟩:=HR1.out.parts f hf
   refine ⟨⟨p1.to hbw hbw.size,fun a e hn=>?_⟩,p2,p3,p4⟩
   obtain ⟨b,o,e2,hb,_⟩:=p1.row.at_ hn
   rw[e] at e2;cases e2
   exact ho b hb (HZ.out.2.1 f hf _ e hn)
  obtain ⟨p1,p2,p3,p4⟩:=HR2.out.parts x hx
  refine ⟨p1.to hbw hbw.size,fun a e hn=>?_,p2,p3,p4⟩
  obtain ⟨b,o,e2,hb,_⟩:=p1.at_ hn
  rw[e] at e2;cases e2
  exact ho b hb (HZ.out.2.2 x hx _ e hn)
 have HM3:=hid hm3
 have K3:=aHk hm3.hs rfl (hm3.rdFl' rfl).row rfl (by omega)
 clear K2 ho2 hb2 HO1 HB1 hm3 hc1 hc2 hbW HO2 HO3 HB2
 simp only[movC] at eW
 rw[emb] at K3
 go_wp2_with fail
 rw[<-eW]
 refine K3.mono ?_
 rintro e w4 ⟨A4,c4,l4,rfl,r4,hb4,rfl,hn4⟩
 have HM4:=hid (HM3.out.below hb4)
 have K4:=aDh (by rw[List.length_map];omega) r4
 rw[List.length_map] at K4 ⊢
 rw[<-emb]
 clear K3 hb4 HM3 r4 hn4 hz hz2 eW W emb w2
 go_wp2_with fail
 refine K4.mono ?_
 rintro e w5 ⟨rfl,hb5⟩
 have HM5:=hid (HM4.out.below hb5)
 have hbw5:=HM5.out.bel
 have K5:=aVr (by unfold maxLen;omega) (hL.to hbw5) (HR1.out.to hbw5 hbw5.size)
 clear K4 hb5 HM4 hbw5
 cases hr:rightP (l.map FLV.parent) with
 | false=>
  rw[hr,Bool.false_and,Bool.false_and] at HLE
  clear hr K5
  go_wp2
  go_ret
  exact ⟨HM5.out.bel,by rw[HLE.out];rfl⟩
 | true=>
  rw[hr,Bool.true_and] at HLE
  clear hr
  go_wp2_with fail
  refine K5.mono ?_
  rintro e w6 ⟨rfl,hb6⟩
  have HM6:=hid (HM5.out.below hb6)
  have hbw6:=HM6.out.bel
  have K6:=bBm (N:=(l.length:Int)) (by unfold maxLen;omega) (HR2.out.to hbw6 hbw6.size)
  clear K5 hb6 HM5 hbw6
  cases ha:l.any fun f=>!treeOk f.files with
  | true=>
   rw[ha,Bool.not_true,Bool.false_and] at HLE
   clear ha K6
   go_wp2
   go_ret
   exact ⟨HM6.out.bel,by rw[HLE.out];rfl⟩
  | false=>
   rw[ha,Bool.not_false,Bool.true_and] at HLE
   clear ha
   go_wp2_with fail
   refine K6.mono ?_
   rintro e w7 ⟨rfl,hb7⟩
   have HM7:=hid (HM6.out.below hb7)
   clear K6 hb7 HM6
   cases hk:rightM (l.length:Int) ms with
   | false=>
    rw[hk] at HLE
    clear hk
    go_wp2
    go_ret
    exact ⟨HM7.out.bel,by rw[HLE.out];rfl⟩
   | true=>
    rw[hk] at HLE
    clear hk
    go_wp2
    go_ret
    exact ⟨HM7.out.bel,by rw[HLE.out];exact ⟨mb,_,_,rfl,HM7.out⟩⟩
def MovedIs (Z:List Nat)(B:Nat)(r:MR×Int)(w:World)(e:Ending) (w':World):Prop:=
 Below w.heap.size w w'/\∃(AN AK AF AC:Option Addr) (cn ck cf cc:Nat) (nl:List FLV) (kl:List MV),nl.map FLV.pl=r.1.new/\kl.map MV.pl=r.1.marks/\
  e=.returned (.tuple #[.agg #[.slice AN nl.length cn,.slice AK kl.length ck,.int .i64 r.1.commit,.slice AF r.1.files.length cf,.slice AC r.1.clashes.length cc],.int .i64 r.2])/\
  RdFl w' w'.heap.size AN nl.length cn nl/\RdM w' w'.heap.size AK kl.length ck kl/\RdF w' w'.heap.size AF r.1.files.length cf r.1.files/\Rd w' w'.heap.size 3 AC r.1.clashes.length cc (r.1.clashes.flatMap CL.cells)/\
  (∀a,AN=some a->B<=a.block)/\(∀a,AK=some a->B<=a.block)/\(∀a,AF=some a->B<=a.block)/\(∀a,AC=some a->B<=a.block)/\
  (∀f∈nl,∀a,f.A=some a->0<f.files.length->a.block∉Z)/\∀m∈kl,∀a,m.A=some a->0<m.new.length->a.block∉Z
theorem RdM.none_ (w:World)(B:Nat):RdM w B none 0 0 []:=⟨Rd.none_ _ _ _,rfl,fun _ h=>by cases h⟩
theorem aGi {Z:List Nat}{B:Nat}{k:Int} {w w':World}(hb:Below w.heap.size w w'):MovedIs Z B (noMR,k) w (.returned (.tuple #[.agg #[.slice none 0 0,.slice none 0 0,.int .i64 0,.slice none 0 0,.slice none 0 0],.int .i64 k])) w':=
 ⟨hb,none,none,none,none,0,0,0,0,[],[],rfl,rfl,rfl,RdFl.none_ _ _,RdM.none_ _ _,RdF.none_ _ _,Rd.none_ _ _ _,(fun _ h=>by cases h),(fun _ h=>by cases h),(fun _ h=>by cases h),(fun _ h=>by cases h),(fun _ h=>by cases h),fun _ h=>by cases h⟩
theorem aBk:(Tryz.prog.info? 32).map (·.size)=some 5:=by kernel_rfl
theorem aNm {Z:List Nat}{B:Nat}{w:World}{mv:Value}{b:Bool}{k:Int}(hk:k≠0) :
  Calls Tryz.prog 37 #[mv,.bool b,.int .i64 k] w (MovedIs Z B (noMR,k) w):=by
 have ek:(k != 0)=true:=by simpa using hk
 have hb:Below w.heap.size w (w.alloc (.cells #[.slice none 0 0,.slice none 0 0,.int .i64 0,.slice none 0 0,.slice none 0 0] 32)):=(Below.refl _ _).alloc (Nat.le_refl _) _
 have hbox:(w.alloc (.cells #[.slice none 0 0,.slice none 0 0,.int .i64 0,.slice none 0 0,.slice none 0 0] 32)).heap[w.heap.size]? = some (.cells #[.slice none 0 0,.slice none 0 0,.int .i64 0,.slice none 0 0,.slice none 0 0] 32 (0,0)):=heap_alloc_new _ _
 have hz:=aGs (w.alloc (.cells #[.slice none 0 0,.slice none 0 0,.int .i64 0,.slice none 0 0,.slice none 0 0] 32))
 clear hk
 go_enter Tryz.func37,Tryz.ntmps37
 go_wp2_with (refine wpList_store_row rfl 32 (.tmp 6) (.tmp 11) rfl w.heap.size #[.slice none 0 0,.slice none 0 0,.int .i64 0,.slice none 0 0,.slice none 0 0] rfl rfl _ _ hbox aBk rfl (by simp[Value.oneCell']) ?_)
 try simp only[Exit.inBlock,Exit.then]
 refine bodyPost_ret (aAl rfl _ _ w.heap.size _ _ (0,0) _ rfl (setRow_heap _ _ _ _ _ _ hbox) Tryz.underlying32 rfl aBk) rfl ?_
 exact aGi (aAk hb (Nat.le_refl _))
theorem aIh {Z:List Nat}{w0 w:World}{mb:Nat}{r:MR×Int}{e0:Ending}(h:StopIs w0 mb r e0 w)(hr:r.2=0) :
  Calls Tryz.prog 37 #[.pointer (some ⟨mb,0,none⟩),.bool false,.int .i64 0] w (MovedIs Z w0.heap.size r w):=by
 obtain ⟨_,_,_,h4⟩:=h
 obtain ⟨a,b,sv,E,S,A,C,k,j,h1,h2,hs,hf,hc,hn1,hn2⟩:=h4 hr
 obtain ⟨⟨x1,x2,x3,x4,x5⟩,x6⟩:=r
 dsimp only at h1 h2 hs hf hc hr
 subst h1 h2 hr
 have hb:Below w.heap.size w (w.alloc (.cells #[.slice none 0 0,.slice none 0 0,.int .i64 0,.slice none 0 0,.slice none 0 0] 32)):=(Below.refl _ _).alloc (Nat.le_refl _) _
 have hbox:(w.alloc (.cells #[.slice none 0 0,.slice none 0 0,.int .i64 0,.slice none 0 0,.slice none 0 0] 32)).heap[w.heap.size]? = some (.cells #[.slice none 0 0,.slice none 0 0,.int .i64 0,.slice none 0 0,.slice none 0 0] 32 (0,0)):=heap_alloc_new _ _
 have hs1:=(hb.block mb (aAa hs)).trans hs
 have c5:=cell_of_row _ _ 5 _ _ _ hs1
 have c6:=cell_of_row _ _ 6 _ _ _ hs1
 have c7:=cell_of_row _ _ 7 _ _ _ hs1
 have c8:=cell_of_row _ _ 8 _ _ _ hs1
 have c9:=cell_of_row _ _ 9 _ _ _ hs1
 have HF:=hid hf
 have HC:=hid hc
 have HN:=hid (And.intro hn1 hn2)
 have hml:=aAa hs
 clear hf hc hs hs1 h4 hn1 hn2
 go_enter Tryz.func37,Tryz.ntmps37
 go_wp2_with (refine wpList_store_row rfl 32 (.tmp 6) (.tmp 19) rfl w.heap.size #[.slice none 0 0,.slice none 0 0,.int .i64 x3,.slice A x4.length k,.slice C x5.length j] rfl rfl _ _ hbox aBk rfl (by simp[Value.oneCell']) ?_)
 try simp only[Exit.inBlock,Exit.then]
 refine bodyPost_ret (aAl rfl _ _ w.heap.size _ _ (0,0) _ rfl (setRow_heap _ _ _ _ _ _ hbox) Tryz.underlying32 rfl aBk) rfl ?_
 have hbb:=aAk (cs:=#[.slice none 0 0,.slice none 0 0,.int .i64 x3,.slice A x4.length k,.slice C x5.length j]) hb (Nat.le_refl _)
 exact ⟨hbb,none,none,A,C,0,0,k,j,[],[],rfl,rfl,rfl,RdFl.none_ _ _,RdM.none_ _ _,HF.out.to hbb hbb.size,HC.out.to hbb hbb.size,(fun _ h=>by cases h),(fun _ h=>by cases h),HN.out.1,HN.out.2,(fun _ h=>by cases h),fun _ h=>by cases h⟩
theorem aZk (A1 A2:Option Addr)(n1 c1 n2 c2:Nat)(x:Int)(w:World):(Instr.build 32 #[(0,.slice A1 n1 c1),(1,.slice A2 n2 c2),(2,.int .i64 x)]).run Tryz.prog w=.ok (.agg #[.slice A1 n1 c1,.slice A2 n2 c2,.int .i64 x,.slice none 0 0,.slice none 0 0]) w:=by
 go_simp
theorem bCb {α:Type}{f:α->List Value}{sz:Nat}(hf:∀a,(f a).length=sz){w:World}{B n c l:Nat}{A:Option Addr}{xs:List α}(h:Rd w B sz A n c (xs.flatMap f))(hx:xs.length=n)(hl:l<=n) :
  ∃A',sliced A l n c sz=.slice A' (n-l) (c-l)/\Rd w B sz A' (n-l) (c-l) ((xs.drop l).flatMap f):=by
 refine ⟨_,rfl,?_⟩
 have:=h.cut hl (Nat.le_refl n)
 rw[T.flat_take hf,T.flat_drop hf,List.take_of_length_le (by omega)] at this
 exact this
theorem aOn {Z:List Nat}{w0 w:World}{mb E S:Nat}{sv fv kv:Value}{fl:List FLV}{ms:List MV}(h:Mov Z w0 w mb E S sv fv kv fl ms)(hE:E<=fl.length)(hS:S<=ms.length)(hfl:fl.length<=1000000)(hms:ms.length<=1000000) :
  Calls Tryz.prog 37 #[.pointer (some ⟨mb,0,none⟩),.bool true,.int .i64 0] w (MovedIs Z w0.heap.size (⟨(fl.map FLV.pl).drop E,(ms.map MV.pl).drop S,-1,[],[]⟩,0) w):=by
 obtain ⟨A,c,efv,hrf⟩:=h.rdFl
 obtain ⟨AK,ck,ekv,hrk⟩:=h.rdM
 subst efv ekv
 obtain ⟨W,eW⟩:∃W,W=w.alloc (.cells #[.slice none 0 0,.slice none 0 0,.int .i64 0,.slice none 0 0,.slice none 0 0] 32):=⟨_,rfl⟩
 have hb:Below w.heap.size w W:=by rw[eW];exact (Below.refl _ _).alloc (Nat.le_refl _) _
 have hbox:W.heap[w.heap.size]? = some (.cells #[.slice none 0 0,.slice none 0 0,.int .i64 0,.slice none 0 0,.slice none 0 0] 32 (0,0)):=by rw[eW];exact heap_alloc_new _ _
 have HB:=hid hb
 have HBX:=hid hbox
 have HS:=hid h.hs
 have hW0:=h.bel.size
 have HPP:=hid (And.intro h.pf h.pk)
 obtain ⟨A1,eA1,hc1⟩:=bCb FLV.cells_len hrf.row rfl hE
 obtain ⟨A2,eA2,hc2⟩:=bCb MV.cells_len hrk.row rfl hS
 have HC1:=hid hc1
 have HC2:=hid hc2
 have HP1:=hid hrf.parts
 have HP2:=hid hrk.parts
 clear h hrf hrk hb hbox hc1 hc2
 go_enter Tryz.func37,Tryz.ntmps37
 go_wp2
 rw[<-eW]
 clear eW
 refine aAh (fun u=>Below w.heap.size w u) [(true,0),(true,1),(true,2),(true,3),(true,4),(true,5),(true,6),(true,7),(true,8),(true,10),(true,11),(true,12),(true,13),(true,14),(true,15),(true,16),(true,17),(true,18),(false,9),(false,19),(false,20),(false,21),(true,22)] mixed (by kernel_rfl) HB.out.drew ?_
 intro T M Q hT hT' hM hQ
 have m0:M ⟨mb,0,none⟩=some (.slice A fl.length c):=hM _ _ fun w' hw=>(hw.cell (p:=⟨mb,0,none⟩) (aAa HS.out)).trans (by rw[Lib.cell_of_heap HS.out];rfl)
 have m1:M ⟨mb,1,none⟩=some (.slice AK ms.length ck):=hM _ _ fun w' hw=>(hw.cell (p:=⟨mb,1,none⟩) (aAa HS.out)).trans (by rw[Lib.cell_of_heap HS.out];rfl)
 have m2:M ⟨mb,2,none⟩=some (.int .i64 E):=hM _ _ fun w' hw=>(hw.cell (p:=⟨mb,2,none⟩) (aAa HS.out)).trans (by rw[Lib.cell_of_heap HS.out];rfl)
 have m3:M ⟨mb,3,none⟩=some (.int .i64 S):=hM _ _ fun w' hw=>(hw.cell (p:=⟨mb,3,none⟩) (aAa HS.out)).trans (by rw[Lib.cell_of_heap HS.out];rfl)
 clear hM
 simp only[qcmp]
 simp (maxSteps:=9^7) only[↓qpre,aAb,aAe,aAc,m0,m1,m2,m3]
 clear m0 m1 m2 m3
 rw[eA1,eA2]
 refine ⟨⟨by omega,by omega⟩,⟨by omega,by omega⟩,?_⟩
 have hd:Below w.heap.size w W.drew:=HB.out.drew
 have hbd:Below W.heap.size W W.drew:=(Below.refl _ _).drew
 refine aAi (by kernel_rfl) (aMh (by omega) (HC1.out.to hd hd.size) (aDn _)) rfl rfl ?_
 rintro e w1 ⟨v1,rfl,ho1,hb1⟩
 obtain ⟨A3,c3,rfl,hcc3⟩:=aAd ho1
 have hd1:Below w.heap.size w w1:=hd.trans (hb1.mono hd.size)
 refine ⟨_,rfl,hT _ hd1,?_⟩
 simp (maxSteps:=9^7) only[aAb,aAc]
 refine aAi (by kernel_rfl) (aNc (by omega) (HC2.out.to hd1 hd1.size) (aGd _)) rfl rfl ?_
 rintro e w2 ⟨v2,rfl,ho2,hb2⟩
 obtain ⟨A4,c4,rfl,hcc4⟩:=aAd ho2
 have hd2:Below w.heap.size w w2:=hd1.trans (hb2.mono hd1.size)
 refine ⟨_,rfl,hT _ hd2,?_⟩
 simp (maxSteps:=9^7) only[aAb,aAc]
 refine aBz rfl (aZk _ _ _ _ _ _ _ _) ⟨hT _ hd2,?_⟩
 simp (maxSteps:=9^7) only[aAb,aAc]
 have hbx:w2.heap[w.heap.size]? = some (.cells #[.slice none 0 0,.slice none 0 0,.int .i64 0,.slice none 0 0,.slice none 0 0] 32 (0,0)):=
  (hb2.block _ (Nat.lt_of_lt_of_le (aAa HBX.out) (Nat.le_trans hbd.size hb1.size))).trans ((hb1.block _ (Nat.lt_of_lt_of_le (aAa HBX.out) hbd.size)).trans HBX.out)
 have hd3:=aAk (cs:=#[.slice A3 (fl.length-E) c3,.slice A4 (ms.length-S) c4,.int .i64 (-1),.slice none 0 0,.slice none 0 0]) hd2 (Nat.le_refl _)
 refine aAv (cells:=#[.slice A3 (fl.length-E) c3,.slice A4 (ms.length-S) c4,.int .i64 (-1),.slice none 0 0,.slice none 0 0]) rfl rfl hbx aBk rfl (by simp[Value.oneCell']) ⟨hT _ hd3,?_⟩
 simp (maxSteps:=9^7) only[↓qpre,aAb,aAc]
 refine hQ _ _ ?_
 have hrb1:∀g,g<w.heap.size->g∉[w.heap.size]:=fun g hg e=>by rw[List.mem_singleton.1 e] at hg;exact Nat.lt_irrefl _ hg
 have hst:HStay [w.heap.size] w2 (w2.setRow w.heap.size #[.slice A3 (fl.length-E) c3,.slice A4 (ms.length-S) c4,.int .i64 (-1),.slice none 0 0,.slice none 0 0]):=⟨by simp[World.setRow],fun k _ hx=>setRow_other _ _ _ _ (fun e=>hx (by rw[e];simp))⟩
 have hlt:w.heap.size<w1.heap.size:=Nat.lt_of_lt_of_le (aAa HBX.out) (Nat.le_trans hbd.size hb1.size)
 have hr3:=aBf (X:=[w.heap.size]) (Rd.of_own (aAg ho1 hb2) hcc3) (fun a e _ hm=>by
  have h1:=aFe ho1 a e
  have h2:=Nat.lt_of_lt_of_le (aAa HBX.out) hbd.size
  rw[List.mem_singleton.1 hm] at h1;omega) hst.keeps
 have hr4:=aBf (X:=[w.heap.size]) (Rd.of_own ho2 hcc4) (fun a e _ hm=>by
  have h1:=aFe ho2 a e
  rw[List.mem_singleton.1 hm] at h1;omega) hst.keeps
 have HR3:=hid hr3
 have HN3:=hid (fun a (e:A3=some a)=>Nat.le_trans (Nat.le_trans hW0 hd.size) (aFe ho1 a e))
 have HN4:=hid (fun a (e:A4=some a)=>Nat.le_trans (Nat.le_trans hW0 hd1.size) (aFe ho2 a e))
 have HR4:=hid hr4
 have HD3:=hid hd3
 have HB3:=hid (setRow_heap _ _ _ #[.slice A3 (fl.length-E) c3,.slice A4 (ms.length-S) c4,.int .i64 (-1),.slice none 0 0,.slice none 0 0] _ _ hbx)
 clear hQ hT hT' hd hbd ho1 hb1 hd1 ho2 hb2 hd2 hbx hd3 hrb1 hst hlt hr3 hr4 hcc3 hcc4
 clear T M Q
 generalize World.setRow _ _ _=U at *
 go_wp2
 refine bodyPost_ret (aAl rfl _ _ w.heap.size _ _ (0,0) _ rfl HB3.out Tryz.underlying32 rfl aBk) rfl ?_
 have l1:(fl.drop E).length=fl.length-E:=List.length_drop
 have l2:(ms.drop S).length=ms.length-S:=List.length_drop
 refine ⟨HD3.out,A3,A4,none,none,c3,c4,0,0,fl.drop E,ms.drop S,by rw[List.map_drop],by rw[List.map_drop],by rw[l1,l2];rfl,⟨by rw[l1];exact HR3.out,rfl,fun f hf=>?_⟩,⟨by rw[l2];exact HR4.out,rfl,fun m hm=>?_⟩,RdF.none_ _ _,Rd.none_ _ _ _,HN3.out,HN4.out,(fun _ h=>by cases h),(fun _ h=>by cases h),(fun f hf a e hn hm=>(HPP.out.1 f (List.mem_of_mem_drop hf)).files.2 a e hn (aBm.2 (.inr (.inr (.inr hm))))),fun m hx a e hn hm=>(HPP.out.2 m (List.mem_of_mem_drop hx)).off a e hn (aBm.2 (.inr (.inr (.inr hm))))⟩
 ·obtain ⟨p1,p2⟩:=HP1.out f (List.mem_of_mem_drop hf)
  exact ⟨p1.to HD3.out HD3.out.size,p2⟩
 obtain ⟨p1,p2⟩:=HP2.out m (List.mem_of_mem_drop hm)
 exact ⟨p1.to HD3.out HD3.out.size,p2⟩
theorem wideM:(match Tryz.prog.underlying 125 with | some (.array _ _) | some (.struct _)=>true | _=>false)=true:=by kernel_rfl
theorem KMv:Maps.Keyed Tryz.prog 125:=Maps.Keyed.of_law (deep_law_laid T.laidOut (m:=2) (by omega) (of_decide_eq_true (by kernel_rfl)) (by kernel_rfl) wideM)
theorem bIz {x:Int}(h:I64 x):(Lit.int .i64 x).wf=true:=by
 obtain ⟨h1,h2⟩:=h
 simp[Lit.wf,aUk]
 omega
def klM (x:Int):Lit:=.string (keyBytes [.int .i64 x])
theorem bHg {P : Program} {t e : TypeId} {f : Field} (hu : P.underlying t = some (.struct #[f])) (hft : f.type = e) (hfo : f.offset = 0) (hfn : (f.name != "_") = true) (hct : P.cellsOf t = 1) (hce : P.cellsOf e = 1)
  (hue:P.underlying e=some (.int .i64)) (hk:P.keyType t=true) (hp:0<P.types.size) {x:Int} (hw:(Lit.int .i64 x).wf=true):keyOf P t (.agg #[.int .i64 x])=some (klM x):=by
 obtain ⟨k,hs⟩:∃k,P.types.size=k+1:=⟨P.types.size-1,by omega⟩
 have h1:P.keyLits (k+1) e [.int .i64 x]=some [.int .i64 x]:=by simp[Program.keyLits,hue,hw]
 have h2:P.keyLits (k+1+1) t [.int .i64 x]=some [.int .i64 x]:=by
  unfold Program.keyLits
  simp only[hu]
  have hfn' : ¬ f.name = "_" := by simpa using hfn
  simp[hct,hft,hfo,hce,h1,hfn']
 simp[keyOf,hu,hk,Value.formed,hct,Value.cells,hs,h2,klM]
theorem bCm:Tryz.prog.keyType 125=true:=by kernel_rfl
theorem cellsM:Tryz.prog.cellsOf 125=1:=by kernel_rfl
theorem keyM {x:Int}(h:I64 x):keyOf Tryz.prog 125 (.agg #[.int .i64 x])=some (klM x):=
 bHg Tryz.underlying125 rfl rfl rfl cellsM aNq Tryz.underlying3 bCm T.types_pos (bIz h)
theorem bHt {x y:Int}(hx:I64 x)(hy:I64 y)(h:x≠y):klM x≠klM y:=fun e=>by
 have h1:=keyM hx
 rw[e] at h1
 have:=KMv.inj h1 (keyM hy)
 simp at this
 exact h this
theorem aPe (x:Int)(w:World):(Instr.build 125 #[(0,.int .i64 x)]).run Tryz.prog w=.ok (.agg #[.int .i64 x]) w:=by
 go_simp
structure MpM (w:World) (b n:Nat) (D:DataW Value) (F:Int->Option Int):Prop where
 own:w.ownsMap Tryz.prog 125 Rv b n D
 at_:∀x:Int,I64 x->D.atKey (klM x) (.held (.int .i64 0))=.held (.int .i64 ((F x).getD 0))
 has:∀x:Int,I64 x->Maps.has D (klM x)=(F x).isSome
theorem MpM.start (w:World):MpM (w.alloc (.map #[] 0)) w.heap.size 0 (.map []) (fun _=>none):=
 ⟨World.ownsMap_made _ _ _ _,fun _x _=>rfl,fun _x _=>rfl⟩
theorem MpM.put {w w':World}{b n:Nat}{D:DataW Value} {F F':Int->Option Int}{k v:Int}(h:MpM w b n D F)(hk:I64 k)
  (hown:w'.ownsMap Tryz.prog 125 Rv b (n+1) (D.put (klM k) (.held (.int .i64 v)))) (hF:∀x,F' x=if x=k then some v else F x) :
  MpM w' b (n+1) (D.put (klM k) (.held (.int .i64 v))) F':=by
 refine ⟨hown,fun x hx=>?_,fun x hx=>?_⟩
 ·by_cases e:x=k
  ·subst e
   rw[Maps.atKey_put_same h.own.isMap (KMv.key (keyM hk)),hF,if_pos rfl];rfl
  rw[Maps.atKey_put_other (bHt hx hk e),h.at_ x hx,hF,if_neg e]
 by_cases e:x=k
 ·subst e
  rw[Maps.has_put_same h.own.isMap (KMv.key (keyM hk)),hF,if_pos rfl];rfl
 rw[Maps.has_put_other (bHt hx hk e),h.has x hx,hF,if_neg e]
theorem MpM.same {w w':World}{b n:Nat}{D:DataW Value}{F:Int->Option Int}(h:MpM w b n D F)(hs:w'.heap[b]? = w.heap[b]?):MpM w' b n D F:=by
 obtain ⟨⟨es,clock,hb,F,hs2,hD⟩,h2,h3⟩:=h
 exact ⟨⟨es,clock,hs.trans hb,F,hs2,hD⟩,h2,h3⟩
theorem MpM.block {w:World}{b n:Nat}{D:DataW Value}{F:Int->Option Int}(h:MpM w b n D F):∃es ck,w.heap[b]? = some (.map es ck):=by
 obtain ⟨⟨es,clock,hb,_⟩,_⟩:=h
 exact ⟨es,clock,hb⟩
theorem MpM.look {w:World}{b n:Nat}{D:DataW Value}{F:Int->Option Int}(h:MpM w b n D F){x:Int}(hx:I64 x) :
  (Instr.lookup 122 (.map (some b)) (.agg #[.int .i64 x]) true).run Tryz.prog w=.ok (.tuple #[.int .i64 ((F x).getD 0),.bool (F x).isSome]) w:=by
 obtain ⟨v,ps,hrun,hv⟩:=h.own.look_ok KMv Tryz.underlying122 (Tryz.zeroValue3 w) (show Rv (.int .i64 0)=some (.held (.int .i64 0),[]) from rfl) (keyM hx)
 rw[h.at_ x hx] at hv
 rw[h.has x hx] at hrun
 have:v=.int .i64 ((F x).getD 0):=by
  have h1:(DataW.held v:DataW Value)=.held (.int .i64 ((F x).getD 0)):=by
   have:=hv
   simp only[Rv,Option.some.injEq,Prod.mk.injEq] at this
   exact this.1
  exact aEc h1
 rw[this] at hrun
 exact hrun
theorem aMo {w:World}{B sz n c:Nat}{A:Option Addr}{xs:List Value}{b:Nat}{es:Array MapEntry}{ck:Nat}(h:Rd w B sz A n c xs)(h0:0<xs.length)(hb:w.heap[b]? = some (.map es ck)):∀a,A=some a->a.block≠b:=by
 intro a e e2
 have hn:0<n:=by
  rcases Nat.eq_zero_or_pos n with h1 | h1
  ·rw[h.len,h1,Nat.zero_mul] at h0;exact absurd h0 (Nat.lt_irrefl _)
  exact h1
 obtain ⟨b',o,e3,_,hc⟩:=h.at_ hn
 rw[e] at e3
 cases e3
 have h1:=hc 0 _ (List.getElem?_eq_getElem h0)
 unfold World.cell? at h1
 dsimp only at h1 e2
 rw[e2,hb] at h1
 cases h1
end Go.Proofs.YtohblmepajhpaaaGreatDoor
