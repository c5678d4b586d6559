/- Texts of the walks, together: Walk: treemerge.Merge. Walk: (*move.moving).one. Walk: move.begin. -/
import Derived.Test.YtohblmepajhpaaaGreatDoorG06
import Derived.Test.YtohblmepajhpaaaGreatDoorG21
import Derived.Test.YtohblmepajhpaaaGreatDoorG22
set_option maxHeartbeats 8000000
set_option maxRecDepth 100000
open Go.Lib (hid)
namespace Go.Proofs.YtohblmepajhpaaaGreatDoor
open Go.RowKit
def MergeIs (R:List FV×List CL×Int)(w:World)(e:Ending) (w':World):Prop:=
 ∃(A C:Option Addr) (c d:Nat),e=.returned (.tuple #[.slice A R.1.length c,.slice C R.2.1.length d,.int .i64 R.2.2])/\RdF w' w'.heap.size A R.1.length c R.1/\Rd w' w'.heap.size 3 C R.2.1.length d (R.2.1.flatMap CL.cells)/\Below w.heap.size w w'
def MergeN (R:List FV×List CL×Int)(w:World)(e:Ending) (w':World):Prop:=
 ∃(A C:Option Addr) (c d:Nat),e=.returned (.tuple #[.slice A R.1.length c,.slice C R.2.1.length d,.int .i64 R.2.2])/\RdF w' w'.heap.size A R.1.length c R.1/\Rd w' w'.heap.size 3 C R.2.1.length d (R.2.1.flatMap CL.cells)/\Below w.heap.size w w'/\(∀a,A=some a->w.heap.size<=a.block)/\∀a,C=some a->w.heap.size<=a.block
theorem aDo {R:List FV×List CL×Int}{k:Int} {w w':World}(h:R=([],[],k))(hb:Below w.heap.size w w'):MergeN R w (.returned (.tuple #[.slice none 0 0,.slice none 0 0,.int .i64 k])) w':=by
 subst h
 exact ⟨none,none,0,0,rfl,RdF.none_ _ _,Rd.none_ _ _ _,hb,(fun _ h=>by cases h),fun _ h=>by cases h⟩
theorem aEu {w:World}{base:Nat}{e:TypeId}{sz n m c:Nat}{A:Option Addr}{xs:List Value}(h:w.ownsRow base e sz (.slice A m c) n xs):∀a,A=some a->base<=a.block:=by
 rintro a rfl
 rcases h.2 with ⟨h',_⟩ | ⟨g,cap,cur,h',hb,_⟩
 ·simp at h'
 simp only[Value.slice.injEq,Option.some.injEq] at h'
 rw[h'.1];exact hb
theorem aJr {f:FV}(h:FileOk f):f.path.size<=20000/\f.text.size<=20000:=by
 refine ⟨?_,h.2⟩
 have h1:=h.1
 unfold pathOk at h1
 simp only[Bool.and_eq_true,decide_eq_true_eq] at h1
 have h2:f.p.length<=100:=h1.1.1.2
 have h3:f.p.length=f.path.size:=by unfold FV.p;rw[Array.length_toList];rfl
 omega
theorem aLs {base side:List FV}{L:List (Nat×Nat)}(hp:L.Perm (pairsF base side)):keepP (addedP base side L) side=addedF base side:=by
 unfold keepP addedF
 refine List.filter_congr fun f _=>?_
 unfold addedP
 rw[bAh hp,Bool.not_or]
 congr 1
 cases findP base f.path<;>rfl
theorem aYr (base a b:List FV):(wholeF base a b).1.Pairwise fun x y=>x.path≠y.path:=by
 rw[aDz]
 refine (aIn (acts base a b) ([],[]) List.Pairwise.nil).1.imp fun {x y} h e=>?_
 have e2:x.p=y.p:=by unfold FV.p;rw[e]
 simp[clashP,e2] at h
theorem aCt {P:Program}{fn:Func}{p q r:Tmp}(h:fn.results=#[.tmp p,.tmp q,.tmp r])(tmps:Array Value)(w:World):(results fn tmps).run P w=.ok (.tuple #[tmps.getD p undef,tmps.getD q undef,tmps.getD r undef]) w:=by
 simp[results,h]
theorem aRh {w u:World}{n c:Nat}{A:Option Addr}{l:List FV}(h:RdF w w.heap.size A n c l)(hs:∀b o ob,A=some ⟨b,o,none⟩->w.heap[b]? = some ob->u.heap[b]? = some ob):RdF u u.heap.size A n c l:=by
 refine ⟨⟨h.row.len,h.row.cap,fun hn=>?_⟩,h.len,h.fits⟩
 obtain ⟨b,o,e,hb,hc⟩:=h.row.at_ hn
 have e0:=Array.getElem?_eq_getElem hb
 have e1:=(hs b o _ e e0).trans e0.symm
 refine ⟨b,o,e,?_,fun j v hv=>?_⟩
 ·exact aAa (e1.trans e0)
 rw[<-hc j v hv];unfold World.cell?;rw[e1]
theorem MI.watch {Z:Nat->Obj->Prop}{w0 w:World}{mb N:Nat}{fv cv:Value}{m:List FV×List CL}(h:MI Z w0 w mb fv cv m N) :
  MI (fun k ob=>w.heap[k]? = some ob/\k≠mb/\fv.ownBlock≠some k/\cv.ownBlock≠some k) w0 w mb fv cv m N:=
 ⟨h.hs,h.f1,h.c1,h.lo,h.bel,h.fits,h.few1,h.few2,fun _ _ hz=>hz⟩
theorem aOa {w0:World}{B s n c:Nat}{A:Option Addr}{base side:List FV}{L:List (Nat×Nat)}(hn:n<=100000)(h:SideIs w0 B s (.slice A n c) base side L)(hr:RdF w0 w0.heap.size A n c side)(hd:(base.map FV.path).Nodup)(hp:L.Perm (pairsF base side)):Finds w0 s (whereF base side):=fun f u hu hf=>by
 rw[<-bDn hd hp]
 exact bCm hn (h.below hu) (hr.to hu hu.size) (by unfold maxLen;omega)
theorem aNi {base side:List FV}(h:∀f∈side,f.path.size<=20000/\f.text.size<=20000):SmallF (whereF base side):=fun _ g hg=>h g (aFh hg)
theorem aUv {l:List FV}(h:treeOk l=true):(l.map FV.path).Nodup:=by
 rw[List.nodup_iff_pairwise_ne,List.pairwise_map]
 exact (aAt.1 h).2.2.1.pair.imp fun {a b} hab e=>absurd (FV.p_inj.2 e) (aGy hab)
theorem MI.start {w0:World}:MI (fun _ _=>False) w0 (w0.alloc (.cells #[.slice none 0 0,.slice none 0 0] 181)) w0.heap.size (.slice none 0 0) (.slice none 0 0) ([],[]) 0:=
 ⟨heap_alloc_new _ _,World.ownsRow_nil _ _ _ _,World.ownsRow_nil _ _ _ _,Nat.le_refl _,(Below.refl _ _).alloc (Nat.le_refl _) _,by simp,Nat.le_refl _,Nat.le_refl _,fun _ _ h=>h.elim⟩
theorem aYc (w:World):(Instr.build 181 #[]).run Tryz.prog w=.ok (.agg #[.slice none 0 0,.slice none 0 0]) w:=by
 go_simp
theorem aYn {w:World}{n1 n2 n3 c1 c2 c3:Nat}{A1 A2 A3:Option Addr}{base a b:List FV}(hL:Lm w)(h1:n1<=17592186044416)(h2:n2<=17592186044416)(h3:n3<=17592186044416)
  (r1:RdF w w.heap.size A1 n1 c1 base) (r2:RdF w w.heap.size A2 n2 c2 a) (r3:RdF w w.heap.size A3 n3 c3 b) :
  Calls Tryz.prog 113 #[.slice A1 n1 c1,.slice A2 n2 c2,.slice A3 n3 c3] w (MergeN (treemergeF base a b) w):=by
 have K1:=aCf h1 hL r1
 have HR2:=hid (fun (u:World) (hu:Below w.heap.size w u)=>aCf h2 (hL.to hu) (r2.to hu hu.size))
 have HR3:=hid (fun (u:World) (hu:Below w.heap.size w u)=>aCf h3 (hL.to hu) (r3.to hu hu.size))
 have HR:=hid (And.intro r1 (And.intro r2 r3))
 have HL:=hid hL
 clear r1 r2 r3 hL h1 h2 h3
 have HT:=hid (show treemergeF base a b=if treeOk base=false\/treeOk a=false\/treeOk b=false then ([],[],5) else if treeOk (sortF (wholeF base a b).1)=false then ([],[],6) else (sortF (wholeF base a b).1,sortC (wholeF base a b).2,0) from rfl)
 go_enter Tryz.func113,Tryz.ntmps113
 go_wp2_with fail
 refine K1.mono ?_
 rintro e w1 ⟨rfl,hb1⟩
 have K2:=HR2.out w1 hb1
 clear K1
 cases ht1:treeOk base with
 | false=>
  have HN:=hid (show treemergeF base a b=([],[],5) by rw[HT.out];exact if_pos (.inl ht1))
  clear K2 ht1
  go_wp2
  refine bodyPost_ret (aCt rfl _ _) rfl ?_
  exact aDo HN.out hb1
 | true=>
  have HT1:=hid ht1
  clear ht1
  go_wp2_with fail
  refine K2.mono ?_
  rintro e w2 ⟨rfl,hb2⟩
  have hb2':Below w.heap.size w w2:=hb1.trans (hb2.mono hb1.size)
  have K3:=HR3.out w2 hb2'
  clear K2 hb1 hb2
  cases ht2:treeOk a with
  | false=>
   have HN:=hid (show treemergeF base a b=([],[],5) by rw[HT.out];exact if_pos (.inr (.inl ht2)))
   clear K3 ht2
   go_wp2
   refine bodyPost_ret (aCt rfl _ _) rfl ?_
   exact aDo HN.out hb2'
  | true=>
   have HT2:=hid ht2
   clear ht2
   go_wp2_with fail
   refine K3.mono ?_
   rintro e w3 ⟨rfl,hb3⟩
   have hb3':Below w.heap.size w w3:=hb2'.trans (hb3.mono hb2'.size)
   clear K3 hb2' hb3
   cases ht3:treeOk b with
   | false=>
    have HN:=hid (show treemergeF base a b=([],[],5) by rw[HT.out];exact if_pos (.inr (.inr ht3)))
    clear ht3
    go_wp2
    refine bodyPost_ret (aCt rfl _ _) rfl ?_
    exact aDo HN.out hb3'
   | true=>
    have HT3:=hid ht3
    clear ht3
    have HB3:=hid hb3'
    have hl1:=aDs HT1.out
    have hl2:=aDs HT2.out
    have hl3:=aDs HT3.out
    rw[HR.out.1.len] at hl1
    rw[HR.out.2.1.len] at hl2
    rw[HR.out.2.2.len] at hl3
    have HS1:=hid (fun f hf=>aJr ((aAt.1 HT1.out).2.1 f hf))
    have HS2:=hid (fun f hf=>aJr ((aAt.1 HT2.out).2.1 f hf))
    have HS3:=hid (fun f hf=>aJr ((aAt.1 HT3.out).2.1 f hf))
    have K4:=aJy (HL.out.to hb3') (by omega) (by omega) (HR.out.1.to hb3' hb3'.size) (HR.out.2.1.to hb3' hb3'.size) (fun f hf=>by have:=(HS1.out f hf).2;omega) (fun f hf=>by have:=(HS2.out f hf).2;omega)
    clear hb3' HR2 HR3
    go_wp2_with fail
    refine K4.mono ?_
    rintro e w4 ⟨L1,s1,hp1,rfl,hsi1,hb4⟩
    have HB4:=hid (HB3.out.trans (hb4.mono HB3.out.size))
    have HSI1:=hid hsi1
    have HP1:=hid hp1
    have K5:=aJy (HL.out.to HB4.out) (by omega) (by omega) (HR.out.1.to HB4.out HB4.out.size) (HR.out.2.2.to HB4.out HB4.out.size) (fun f hf=>by have:=(HS1.out f hf).2;omega) (fun f hf=>by have:=(HS3.out f hf).2;omega)
    clear K4 hp1 hsi1 hb4 HB3
    go_wp2_with fail
    refine K5.mono ?_
    rintro e w5 ⟨L2,s2,hp2,rfl,hsi2,hb5⟩
    have HB5:=hid (HB4.out.trans (hb5.mono HB4.out.size))
    have HSI2:=hid hsi2
    have HP2:=hid hp2
    replace HSI1:=hid (HSI1.out.below hb5)
    have hz:=aYc w5
    have HR1':=hid (HR.out.1.to HB5.out HB5.out.size)
    have HR2':=hid (HR.out.2.1.to HB5.out HB5.out.size)
    have HR3':=hid (HR.out.2.2.to HB5.out HB5.out.size)
    have HND:=hid (aUv HT1.out)
    have HL5:=hid (HL.out.to HB5.out)
    have K6:=bEi HL5.out (MI.start (w0:=w5)) (by omega) HR1'.out HS1.out (aOa (by omega) HSI1.out HR2'.out HND.out HP1.out) (aOa (by omega) HSI2.out HR3'.out HND.out HP2.out) (aNi HS2.out) (aNi HS3.out)
    rw[bHf] at K6
    clear K5 hp2 hsi2 hb5 HB4
    go_wp2_with fail
    refine K6.mono ?_
    rintro e w6 ⟨rfl,fv,cv,hm6⟩
    have HM6:=hid hm6
    clear K6 hm6 hz
    have hb6:=HM6.out.bel
    have K7:=aNy (by omega) (by omega) (HSI1.out.below hb6) (HR2'.out.to hb6 hb6.size) (HR1'.out.to hb6 hb6.size) (fun f hf=>by have:=(HS2.out f hf).1;unfold maxLen;omega)
    rw[aLs HP1.out] at K7
    clear hb6
    go_wp2_with fail
    refine K7.mono ?_
    rintro e w7 ⟨A7,c7,rfl,hr7,hb7,hn7⟩
    have HM7:=hid (HM6.out.below hb7)
    have HX7:=hid (And.intro hr7 (And.intro hb7 hn7))
    clear K7 hr7 hb7 hn7
    have hb7:=HM7.out.bel
    have K8:=aNy (by omega) (by omega) (HSI2.out.below hb7) (HR3'.out.to hb7 hb7.size) (HR1'.out.to hb7 hb7.size) (fun f hf=>by have:=(HS3.out f hf).1;unfold maxLen;omega)
    rw[aLs HP2.out] at K8
    clear hb7
    go_wp2_with fail
    refine K8.mono ?_
    rintro e w8 ⟨A8,c8,rfl,hr8,hb8,hn8⟩
    have HM8:=hid (HM7.out.below hb8).watch
    have HW1:Hid (∀u:World,(∀k ob,(w8.heap[k]? = some ob/\k≠w5.heap.size/\fv.ownBlock≠some k/\cv.ownBlock≠some k)->u.heap[k]? = some ob)->RdF u u.heap.size A7 (addedF base a).length c7 (addedF base a)):=hid (fun u hu=>by
     refine aRh (HX7.out.1.to hb8 hb8.size) fun b o ob e hq=>?_
     have h1:=HX7.out.2.2 b o none e
     have h2:=aAa HM6.out.hs
     exact hu b ob ⟨hq,by omega,fun e=>by have:=(HM6.out.f1.lt _ e).2;omega,fun e=>by have:=(HM6.out.c1.lt _ e).2;omega⟩)
    have HW2:Hid (∀u:World,(∀k ob,(w8.heap[k]? = some ob/\k≠w5.heap.size/\fv.ownBlock≠some k/\cv.ownBlock≠some k)->u.heap[k]? = some ob)->RdF u u.heap.size A8 (addedF base b).length c8 (addedF base b)):=hid (fun u hu=>by
     refine aRh hr8 fun b o ob e hq=>?_
     have h1:=hn8 b o none e
     have h2:=aAa HM7.out.hs
     exact hu b ob ⟨hq,by omega,fun e=>by have:=(HM7.out.f1.lt _ e).2;omega,fun e=>by have:=(HM7.out.c1.lt _ e).2;omega⟩)
    have hla:(addedF base a).length<=n2:=by rw[<-HR.out.2.1.len];exact List.length_filter_le _ _
    have hlb:(addedF base b).length<=n3:=by rw[<-HR.out.2.2.len];exact List.length_filter_le _ _
    have K9:=aZr HL5.out HM8.out (by omega) HW1.out HW2.out (fun f hf=>HS2.out f (List.mem_filter.1 hf).1) (fun f hf=>HS3.out f (List.mem_filter.1 hf).1)
    rw[show addM (addedF base a) (addedF base b) (base.foldl (keptM base a b) ([],[]))=wholeF base a b from rfl] at K9
    clear K8 hr8 hb8 hn8
    go_wp2_with fail
    refine K9.mono ?_
    rintro e w9 ⟨rfl,fv9,cv9,hm9⟩
    have HM9:=hid hm9
    clear K9 hm9 HM6 HM7 HM8 HX7 HW1 HW2
    have HD:=hid (aYr base a b)
    generalize wholeF base a b=W at *
    obtain ⟨fs,cl⟩:=W
    have hf1:=HM9.out.few1
    have hf2:=HM9.out.few2
    have HFT:=hid HM9.out.fits
    dsimp only at hf1 hf2 HT HD ⊢
    have K10:=bBr (w0:=w5) HM9.out.f1 HD.out (by show fs.length<=_;omega)
    have d0:w9.cell? ⟨w5.heap.size,0,none⟩=some fv9:=by rw[Lib.cell_of_heap HM9.out.hs];rfl
    go_wp2_with fail
    refine K10.mono ?_
    rintro e w10 ⟨rfl,ho10,hg10⟩
    have hs10:=(hg10.block _ (aAa HM9.out.hs) (fun e=>aBm HM9.out.f1 HM9.out.hs (by decide) e.symm)).trans HM9.out.hs
    have hc10:=aDb HM9.out.c1 hg10 (fun g e=>aDw HM9.out.c1 HM9.out.f1 (by decide) g e)
    have HF10:=hid ho10
    have HS10:=hid hs10
    have HC10:=hid hc10
    have HB10:=hid (HM9.out.bel.grown hg10 HM9.out.bel.size (fun g hg=>(HM9.out.f1.lt g hg).1))
    have K11:=bDy (w0:=w5) (by show cl.length<=_;omega) hc10
    have d1:w10.cell? ⟨w5.heap.size,1,none⟩=some cv9:=by rw[Lib.cell_of_heap hs10];rfl
    clear K10 d0 ho10 hg10 hs10 hc10 HM9
    go_wp2_with fail
    refine K11.mono ?_
    rintro e w11 ⟨rfl,ho11,hg11⟩
    have hs11:=(hg11.block _ (aAa HS10.out) (fun e=>aBm HC10.out HS10.out (by decide) e.symm)).trans HS10.out
    have hf11:=aDb HF10.out hg11 (fun g e=>aDw HF10.out HC10.out (by decide) g e)
    have HB11:=hid (HB10.out.grown hg11 HB10.out.size (fun g hg=>(HC10.out.lt g hg).1))
    obtain ⟨A9,c9,rfl,hc9⟩:=aAd hf11
    obtain ⟨A10,c10,rfl,hc10⟩:=aAd ho11
    have HS11:=hid hs11
    have HA9:=hid (aEu hf11)
    have HA10:=hid (aEu ho11)
    have hfl:(sortF fs).length=fs.length:=aMo fs
    have HRF:=hid (show RdF w11 w11.heap.size A9 fs.length c9 (sortF fs) from ⟨Rd.of_own hf11 hc9,hfl,fun x hx=>by have:=HFT.out x (((aHt fs HD.out).2 x).1 hx);omega⟩)
    have HRC:=hid (show Rd w11 w11.heap.size 3 A10 cl.length c10 ((sortC cl).flatMap CL.cells) from Rd.of_own ho11 hc10)
    have d0:w11.cell? ⟨w5.heap.size,0,none⟩=some (.slice A9 fs.length c9):=by rw[Lib.cell_of_heap hs11];rfl
    have K12:=aCf (w:=w11) (by show fs.length<=17592186044416;omega) (HL5.out.to HB11.out) HRF.out
    have hcl:(sortC cl).length=cl.length:=aTf cl
    clear K11 d1 ho11 hg11 hs11 hf11 HF10 HS10 HC10 HB10
    go_wp2_with fail
    refine K12.mono ?_
    rintro e w12 ⟨rfl,hb12⟩
    have HBB:=hid ((HB5.out.trans (HB11.out.mono HB5.out.size)).trans (hb12.mono (Nat.le_trans HB5.out.size HB11.out.size)))
    have HS12:=hid ((hb12.block _ (aAa HS11.out)).trans HS11.out)
    have HRF2:=hid (HRF.out.to hb12 hb12.size)
    have HRC2:=hid (HRC.out.to hb12 hb12.size)
    clear K12 d0 hb12 HS11 HRF HRC
    have HT0:Hid (treemergeF base a b=if treeOk (sortF fs)=false then ([],[],6) else (sortF fs,sortC cl,0)):=hid (by
     rw[HT.out,if_neg]
     rintro (h | h | h)
     ·rw[HT1.out] at h;cases h
     ·rw[HT2.out] at h;cases h
     rw[HT3.out] at h;cases h)
    cases ht4:treeOk (sortF fs) with
    | false=>
     have HN:=hid (show treemergeF base a b=([],[],6) by rw[HT0.out];exact if_pos ht4)
     clear ht4
     go_wp2
     refine bodyPost_ret (aCt rfl _ _) rfl ?_
     exact aDo HN.out HBB.out
    | true=>
     have HN:=hid (show treemergeF base a b=(sortF fs,sortC cl,0) by rw[HT0.out];exact if_neg (by rw[ht4];decide))
     clear ht4
     go_wp2
     refine aAh (fun u=>Below w12.heap.size w12 u) [(true,0),(true,1),(true,2),(true,3),(true,4),(true,5),(true,6),(true,7),(true,8),(true,9),(true,10)] mixed (by kernel_rfl) (Below.refl _ _).drew ?_
     intro T M Q hT hT' hM hQ
     have m0:M ⟨w5.heap.size,0,none⟩=some (.slice A9 fs.length c9):=hM _ _ fun w' hw=>by rw[Lib.cell_of_heap ((hw.block _ (aAa HS12.out)).trans HS12.out)];rfl
     have m1:M ⟨w5.heap.size,1,none⟩=some (.slice A10 cl.length c10):=hM _ _ fun w' hw=>by rw[Lib.cell_of_heap ((hw.block _ (aAa HS12.out)).trans HS12.out)];rfl
     clear hM
     simp only[qcmp]
     simp (maxSteps:=9^7) only[↓qpre,aAb,aAe,aAc,m0,m1]
     refine hQ _ _ ?_
     clear hQ hT hT' m0 m1
     go_wp2
     refine bodyPost_ret (aCt rfl _ _) rfl ?_
     refine ⟨A9,A10,c9,c10,?_,?_,?_,HBB.out.drew,(fun a h=>Nat.le_trans HB5.out.size (HA9.out a h)),fun a h=>Nat.le_trans HB5.out.size (HA10.out a h)⟩
     ·rw[HN.out,hfl,hcl];rfl
     ·rw[HN.out,hfl];exact HRF2.out.drew
     rw[HN.out,hcl];exact HRC2.out.drew
theorem bCl (p:Int)(m:ByteArray)(w:World):(Instr.build 40 #[(0,.int .i64 p),(1,.string m)]).run Tryz.prog w=.ok (.agg #[.int .i64 p,.string m,.slice none 0 0]) w:=by
 go_simp
theorem bFi (p:Int)(A:Option Addr)(n c:Nat)(w:World):(Instr.build 43 #[(0,.int .i64 p),(1,.slice A n c)]).run Tryz.prog w=.ok (.agg #[.int .i64 p,.slice A n c]) w:=by
 go_simp
theorem aEy (w:World):(zeroValue 40).run Tryz.prog w=.ok (.agg #[.int .i64 0,.string ⟨#[]⟩,.slice none 0 0]) w:=Tryz.zeroValue40 w
theorem exq3:(∀(u v t:Value) (K:Value->Prop),exq (.tuple #[u,v,t]) 0 K=K u)/\(∀(u v t:Value) (K:Value->Prop),exq (.tuple #[u,v,t]) 1 K=K v)/\(∀(u v t:Value) (K:Value->Prop),exq (.tuple #[u,v,t]) 2 K=K t):=by
 refine ⟨?_,?_,?_⟩<;>(intros;simp[exq])
theorem aPp (a b c:List FV):(treemergeF a b c).1.length<=100:=by
 unfold treemergeF
 split
 ·exact Nat.zero_le _
 split
 ·exact Nat.zero_le _
 rename_i h
 exact aDs (by simpa using h)
def StopIs (w0:World)(mb:Nat)(r:MR×Int)(e:Ending) (w':World):Prop:=
 Below w0.heap.size w0 w'/\e=.returned (.tuple #[.bool false,.int .i64 r.2])/\(r.2≠0->r.1=noMR)/\
  (r.2=0->∃(a b sv:Value) (E S:Nat) (A C:Option Addr) (k j:Nat),r.1.new=[]/\r.1.marks=[]/\w'.heap[mb]? = some (.cells #[a,b,.int .i64 E,.int .i64 S,sv,.slice none 0 0,.slice none 0 0,.int .i64 r.1.commit,.slice A r.1.files.length k,.slice C r.1.clashes.length j] 109 (0,0))/\
   RdF w' w'.heap.size A r.1.files.length k r.1.files/\Rd w' w'.heap.size 3 C r.1.clashes.length j (r.1.clashes.flatMap CL.cells)/\(∀a,A=some a->w0.heap.size<=a.block)/\∀a,C=some a->w0.heap.size<=a.block)
def OneIs (Z:List Nat)(w0:World)(mb E S:Nat)(sv fv kv:Value)(fl:List FLV)(ms:List MV)(c:Int)(r:Except (MR×Int) (List FL))(w:World)(e:Ending) (w':World):Prop:=
 match r with
 | .error x=>StopIs w0 mb x e w'
 | .ok l'=>e=.returned (.tuple #[.bool true,.int .i64 0])/\∃(fv' kv':Value) (f:FLV) (m:MV),l'=fl.map FLV.pl++[f.pl]/\m.old=c/\m.new=[(fl.length:Int)]/\Mov Z w0 w' mb E S sv fv' kv' (fl++[f]) (ms++[m])/\
   HStay (Xs Z mb fv kv) w w'/\∀g∈Xs Z mb fv' kv',g∈Xs Z mb fv kv\/w.heap.size<=g
theorem bHz {Z:List Nat}{w0 w:World}{mb E S n sc:Nat}{SA:Option Addr}{fv kv:Value}{fl:List FLV}{ms:List MV}{sl:List STV}{c onto:Int}(hL:Lm w0)(h:Mov Z w0 w mb E S (.slice SA n sc) fv kv fl ms)(hfl:fl.length<=100000)(hms:ms.length<=100000)
  (hn:n<=maxLen) (hs:RdS w0 w0.heap.size SA n sc sl) (hc0:0<=c) (hc1:c<fl.length) (hp1:par (parF (fl.map FLV.pl)) c<fl.length) (ho0:-1<=onto) (ho1:onto<fl.length) :
  Calls Tryz.prog 81 #[.pointer (some ⟨mb,0,none⟩),.int .i64 c,.int .i64 onto] w (OneIs Z w0 mb E S (.slice SA n sc) fv kv fl ms c (oneOn (sl.map STV.pl) (fl.map FLV.pl) c onto) w):=by
 obtain ⟨c',rfl⟩:∃k:Nat,c=(k:Int):=⟨c.toNat,by omega⟩
 obtain ⟨A,ca,efv,hrf⟩:=h.rdFl
 have HRF:=hid hrf
 obtain ⟨b0,o0,f,eA,hbb,hx,hfm,k0,k1,k2⟩:=hrf.get (k:=c') (by omega)
 subst eA
 obtain ⟨W,eW⟩:∃W,W=w.alloc (.cells #[.int .i64 (c':Int)] 3):=⟨_,rfl⟩
 obtain ⟨V,eV⟩:∃V,V=W.drew:=⟨_,rfl⟩
 have hbW:Below w.heap.size w W:=by rw[eW];exact (Below.refl _ _).alloc (Nat.le_refl _) _
 have hbV:Below w.heap.size w V:=by rw[eV];exact hbW.drew
 have hM:=h.below hbV
 have hbx:V.heap[w.heap.size]? = some (.cells #[.int .i64 (c':Int)] 3 (0,0)):=by rw[eV,eW];exact heap_alloc_new _ _
 have HMV:=hid hM
 have HBX:=hid hbx
 have HNB:=hid (show w.heap.size∉Xs Z mb fv kv from h.new (Nat.le_refl _))
 have HNF:=hid (show V.heap.size∉Xs Z mb fv kv from hM.new (Nat.le_refl _))
 have HOV:=hid (show Off V (V.heap.size::Xs Z mb fv kv) fl ms from Off.less ⟨hM.pf,hM.pk⟩ fun b hb=>by
  rcases List.mem_cons.1 hb with e | e
  ·exact .inr (Nat.le_of_eq e.symm)
  exact .inl e)
 have HK1:=hid ((hbV.cell (p:=⟨b0,o0+c'*3+1,none⟩) hbb).trans k1)
 have HB0:=hid (Nat.lt_of_lt_of_le hbb hbV.size)
 have HBV:=hid hbV
 have HPAR:=hid (show par (parF (fl.map FLV.pl)) (c':Int)=f.parent by
  unfold par parF;rw[Int.toNat_natCast,List.map_map,List.getElem?_map,hx];rfl)
 have HMSG:=hid (show msgAt (fl.map FLV.pl) (c':Int)=f.msg by
  unfold msgAt;rw[Int.toNat_natCast,List.getElem?_map,hx];rfl)
 have HFM:=hid hfm
 have HW0:=hid h.bel.size
 have HKK:=hid (And.intro hbb k0)
 have HPF:=hid (show FlOk w (Xs Z mb fv kv) f from h.pf f hfm)
 clear hM hbx hbW hbV h k1 k2 k0 hbb hrf hx hfm
 have HEV:=hid efv
 have HN:=hid hn
 have HP1:=hid hp1
 clear efv hn hp1
 go_enter Tryz.func81,Tryz.ntmps81
 go_wp2
 rw[<-eW]
 have hn1:(V.alloc (.cells #[.int .i64 0,.string ⟨#[]⟩,.slice none 0 0] 40)).heap[V.heap.size]? = some (.cells #[.int .i64 0,.string ⟨#[]⟩,.slice none 0 0] 40 (0,0)):=heap_alloc_new V _
 have hi40:(Tryz.prog.info? 40).map (·.size)=some 3:=by kernel_rfl
 have hb1:Below V.heap.size V (V.alloc (.cells #[.int .i64 0,.string ⟨#[]⟩,.slice none 0 0] 40)):=(Below.refl _ _).alloc (Nat.le_refl _) _
 obtain ⟨bc,ebc⟩:∃bc,bc=w.heap.size:=⟨_,rfl⟩
 rw[<-ebc] at HBX HNB
 rw[show (.pointer (some ⟨w.heap.size,0,none⟩):Value)=.pointer (some ⟨bc,0,none⟩) by rw[ebc]]
 refine aAv (fun u=>Below V.heap.size V u) (.q 0 (.q 1 (.q 2 (.q 3 (.q 4 (.q 5 (.q 6 (.q 7 (.q 8 (.b 9 (.one 10 (.one 11 .leaf)))))))))))) mixed (by kernel_rfl) (by rw[<-eV];exact Below.refl _ _) ?_
 intro Tp M Q hT hT' hM hQ
 rw[<-eV]
 clear eV eW
 have m0:M ⟨mb,0,none⟩=some (.slice (some ⟨b0,o0,none⟩) fl.length ca):=hM _ _ fun w' hw=>(hw.cell (p:=⟨mb,0,none⟩) (aAa HMV.out.hs)).trans (by rw[Lib.cell_of_heap HMV.out.hs,<-HEV.out];rfl)
 have m1:M ⟨bc,0,none⟩=some (.int .i64 (c':Int)):=hM _ _ fun w' hw=>(hw.cell (p:=⟨bc,0,none⟩) (aAa HBX.out)).trans (by rw[Lib.cell_of_heap HBX.out];rfl)
 have m2:M ⟨b0,o0+c'*3+1,none⟩=some (.string f.msg):=hM _ _ fun w' hw=>(hw.cell (p:=⟨b0,o0+c'*3+1,none⟩) HB0.out).trans HK1.out
 clear hM
 refine aDy ?_
 intro O hO
 have t0:=hO true 0
 have t1:=hO true 1
 have t2:=hO true 2
 have t3:=hO true 3
 have t4:=hO true 4
 have t5:=hO true 5
 have t6:=hO true 6
 have t7:=hO true 7
 have t8:=hO true 8
 have t9:=hO true 9
 have e10:=hO false 10
 have e11:=hO false 11
 simp only[qcmp] at t0 t1 t2 t3 t4 t5 t6 t7 t8 t9 e10 e11
 clear hO
 simp (maxSteps:=9^7) only[↓wt_q,↓wt_b,t0,t1,t2,t3,t4,t5,t6,t7,t8,t9,↓qpre,aAb,aAe,aAc,m0,m1,m2]
 (repeat refine And.intro (by first|omega|(unfold inI64;omega)) ?_)
 refine aBp rfl (fun w=>bCl _ _ w) ?_
 simp (maxSteps:=9^7) only[↓aAl,e10,aAb,aAc]
 refine aBr aEy ⟨hT _ hb1,?_⟩
 simp (maxSteps:=9^7) only[↓aAl,e11,aAb,aAc]
 refine aAs (cells:=#[.int .i64 onto,.string f.msg,.slice none 0 0]) rfl rfl hn1 hi40 rfl (by simp[Value.oneCell']) ⟨hT _ (aAj hb1 (Nat.le_refl _)),?_⟩
 simp (maxSteps:=9^7) only[↓aLm,aAb]
 refine hQ _ _ ?_
 have hbU:=aAj (cs:=#[.int .i64 onto,.string f.msg,.slice none 0 0]) hb1 (Nat.le_refl _)
 have HMU:=hid (HMV.out.below hbU)
 have HOU:=hid (HOV.out.keep (HStay.of_below hbU))
 have HBU:=hid ((hbU.block bc (aAa HBX.out)).trans HBX.out)
 have HFU:=hid (setRow_heap _ _ _ #[.int .i64 onto,.string f.msg,.slice none 0 0] _ _ hn1)
 have HU:=hid (HBV.out.trans (hbU.mono HBV.out.size))
 have HLT:=hid (show bc<V.heap.size from aAa HBX.out)
 have HWF:=hid HBV.out.size
 clear hQ hT hT' m0 m1 m2 t0 t1 t2 t3 t4 t5 t6 t7 t8 t9 e10 e11 hbU hb1 hn1 hi40 HK1 HB0 HBX HMV HBV HOV
 clear Tp M Q O
 simp only[Value.cells] at HMU HBU HFU HU ⊢
 generalize World.setRow _ _ _=U at *
 generalize V.heap.size=fb at *
 have HBC:=hid ebc
 clear ebc V W
 have HS:=hid hs
 have HON:=hid (show oneOn (sl.map STV.pl) (fl.map FLV.pl) (c':Int) onto=if (mergedOn (fl.map FLV.pl) (sl.map STV.pl) c' onto).2.2≠0 then .error (noMR,(mergedOn (fl.map FLV.pl) (sl.map STV.pl) c' onto).2.2)
  else if (mergedOn (fl.map FLV.pl) (sl.map STV.pl) c' onto).2.1≠[] then .error (⟨[],[],c',(mergedOn (fl.map FLV.pl) (sl.map STV.pl) c' onto).1,(mergedOn (fl.map FLV.pl) (sl.map STV.pl) c' onto).2.1⟩,0)
  else if 2000<=(fl.map FLV.pl).length then .error (noMR,6) else .ok (fl.map FLV.pl++[⟨onto,msgAt (fl.map FLV.pl) c',(mergedOn (fl.map FLV.pl) (sl.map STV.pl) c' onto).1⟩]) from rfl)
 have KI:=aZz (x:=(c':Int)) HN.out (hs.to HMU.out.bel HMU.out.bel.size) (show U.cell? ⟨bc,0,none⟩=some (.int .i64 (c':Int)) by rw[Lib.cell_of_heap HBU.out];rfl) (aAa HBU.out)
 have g4:U.cell? ⟨mb,4,none⟩=some (.slice SA n sc):=by rw[Lib.cell_of_heap HMU.out.hs];rfl
 have gml:=aAa HMU.out.hs
 clear hs
 go_wp2_with fail
 refine KI.mono ?_
 rintro e u1 ⟨r,rfl,hr,hb2⟩
 have HM1:=hid (HMU.out.below hb2)
 have HO1:=hid (HOU.out.keep (HStay.of_below hb2))
 have HB1:=hid ((hb2.block bc (aAa HBU.out)).trans HBU.out)
 have HF1:=hid ((hb2.block fb (aAa HFU.out)).trans HFU.out)
 have HU1:=hid (HU.out.trans (hb2.mono HU.out.size))
 clear KI g4 hb2 HMU HBU HFU HU gml HOU
 have g4:u1.cell? ⟨mb,4,none⟩=some (.slice SA n sc):=by rw[Lib.cell_of_heap HM1.out.hs];rfl
 have gml:=aAa HM1.out.hs
 rcases hr with ⟨rfl,hnone⟩ | ⟨k,g,rfl,hk,hsome⟩
 case' inl=>
  have HME:=hid (show mergedOn (fl.map FLV.pl) (sl.map STV.pl) c' onto=treemergeF (filesAt (fl.map FLV.pl) f.parent) (filesAt (fl.map FLV.pl) onto) (filesAt (fl.map FLV.pl) c') by
   unfold mergedOn;rw[hnone,<-HPAR.out])
  have HP2:=hid (show f.parent<fl.length by rw[<-HPAR.out];exact HP1.out)
  clear hnone g4
  have KF:=hid (fun (v:World) (hv:Below u1.heap.size u1 v) (i:Int) (hi:i<fl.length)=>aZb (X:=Xs Z mb fv kv) (i:=i) (HM1.out.below hv).hs
   (show (movC fv kv E S (.slice SA n sc))[0]? = some (.slice (some ⟨b0,o0,none⟩) fl.length ca) by rw[HEV.out];rfl) ((HM1.out.below hv).rdFl' HEV.out).row rfl (by omega) (HM1.out.below hv).pf hi)
  go_wp2
  refine aAh (fun v=>Below u1.heap.size u1 v) [(true,0),(true,1),(true,2),(true,3),(true,4),(true,5),(true,6),(true,7),(true,8),(true,10),(true,11),(true,13),(true,14),(false,9),(false,12),(false,15),(false,16),(true,17),(true,18),(true,19),(true,20),(true,21),(true,22),(true,23)] mixed (by kernel_rfl) (Below.refl _ _).drew ?_
  intro T M Q hT hT' hM hQ
  have m0:M ⟨mb,0,none⟩=some (.slice (some ⟨b0,o0,none⟩) fl.length ca):=hM _ _ fun w' hw=>(hw.cell (p:=⟨mb,0,none⟩) gml).trans (by rw[Lib.cell_of_heap HM1.out.hs,<-HEV.out];rfl)
  have m1:M ⟨bc,0,none⟩=some (.int .i64 (c':Int)):=hM _ _ fun w' hw=>(hw.cell (p:=⟨bc,0,none⟩) (aAa HB1.out)).trans (by rw[Lib.cell_of_heap HB1.out];rfl)
  have m2:M ⟨b0,o0+c'*3,none⟩=some (.int .i64 f.parent):=hM _ _ fun w' hw=>(hw.cell (p:=⟨b0,o0+c'*3,none⟩) (Nat.lt_of_lt_of_le HKK.out.1 HU1.out.size)).trans ((HU1.out.cell HKK.out.1).trans HKK.out.2)
  clear hM
  have hd0:Below u1.heap.size u1 u1.drew:=(Below.refl _ _).drew
  simp only[qcmp]
  simp (maxSteps:=9^7) only[↓qpre,aAb,aAe,aAc,m0,m1,m2]
  (repeat refine And.intro (by first|omega|(unfold inI64;omega)) ?_)
  refine aAi (by kernel_rfl) (KF.out _ hd0 _ HP2.out) rfl rfl ?_
  rintro e v1 ⟨A1,d1,rfl,r1,l1,rfl⟩
  refine ⟨_,rfl,hT _ hd0,?_⟩
  simp (maxSteps:=9^7) only[aAb,aAc]
  refine aAi (by kernel_rfl) (KF.out _ hd0 _ ho1) rfl rfl ?_
  rintro e v2 ⟨A2,d2,rfl,r2,l2,rfl⟩
  refine ⟨_,rfl,hT _ hd0,?_⟩
  simp (maxSteps:=9^7) only[aAb,aAc]
  refine aAi (by kernel_rfl) (KF.out _ hd0 _ hc1) rfl rfl ?_
  rintro e v3 ⟨A3,d3,rfl,r3,l3,rfl⟩
  refine ⟨_,rfl,hT _ hd0,?_⟩
  simp (maxSteps:=9^7) only[aAb,aAc]
  refine aAi (by kernel_rfl) (aYn (hL.to (HM1.out.bel.trans (hd0.mono HM1.out.bel.size))) l1 l2 l3 r1.1 r2.1 r3.1) rfl rfl ?_
  rintro e u2 ⟨A4,C4,d4,j4,rfl,rF,rC,hb4,hnew,hnewC⟩
  have hb5:=hd0.trans (hb4.mono hd0.size)
  refine ⟨_,rfl,hT _ hb5,?_⟩
  simp (maxSteps:=9^7) only[↓qpre,aAb,aAc,exq3]
  refine hQ _ _ ?_
  have HM2:=hid (HM1.out.below hb5)
  have HO2:=hid (HO1.out.keep (HStay.of_below hb5))
  have HB2:=hid ((hb5.block bc (aAa HB1.out)).trans HB1.out)
  have HF2:=hid ((hb5.block fb (aAa HF1.out)).trans HF1.out)
  have HU2:=hid (HU1.out.trans (hb5.mono HU1.out.size))
  have HRF:=hid rF
  have HRC:=hid rC
  have HNEW:=hid (show ∀a,A4=some a->u1.heap.size<=a.block from hnew)
  have HNEC:=hid (show ∀a,C4=some a->u1.heap.size<=a.block from hnewC)
  have HML:=hid gml
  have HW1:=hid HM1.out.bel.size
  have HXL:=hid (show ∀g∈fb::Xs Z mb fv kv,g<u1.heap.size from fun g hg=>by
   rcases List.mem_cons.1 hg with e | e
   ·rw[e];exact aAa HF1.out
   exact Nat.lt_of_not_le fun hn=>HM1.out.new hn e)
  clear HM1 HF1
  clear hQ hT hT' m0 m1 m2 hd0 r1 r2 r3 l1 l2 l3 rF rC hb4 hb5 hnew hnewC KF gml
  clear T M Q HB1 HU1 HO1
  have HQ:=hid (Nat.le_trans (aPp (filesAt (fl.map FLV.pl) f.parent) (filesAt (fl.map FLV.pl) onto) (filesAt (fl.map FLV.pl) c')) (show 100<=17592186044416 by decide))
  generalize treemergeF (filesAt (fl.map FLV.pl) f.parent) (filesAt (fl.map FLV.pl) onto) (filesAt (fl.map FLV.pl) c')=R at *
  obtain ⟨FS,CS,k⟩:=R
  dsimp only at HRF HRC HQ ⊢
  rw[HME.out] at HON
  dsimp only at HON
  have gml:=aAa HM2.out.hs
  by_cases hk:k=0
  case neg=>
   have ek:(k != 0)=true:=by simpa using hk
   have HK:=hid hk
   clear hk
   go_wp2
   go_ret2
   rw[HON.out,if_pos HK.out]
   exact ⟨HM2.out.bel,rfl,fun _=>rfl,fun e=>absurd e HK.out⟩
  subst hk
  rw[if_neg (by decide)] at HON
  by_cases hcs:0<CS.length
  case pos=>
   have HK:=hid (show CS≠[] from fun e=>by rw[e] at hcs;exact absurd hcs (by decide))
   have c1:u2.cell? ⟨bc,0,none⟩=some (.int .i64 (c':Int)):=by rw[Lib.cell_of_heap HB2.out];rfl
   go_wp2_with (refine aIo rfl 32 (.tmp 74) (.tmp 72) rfl (g:=mb) (d:=5) (cs:=#[.slice none 0 0,.slice none 0 0,.int .i64 (c':Int),.slice A4 FS.length d4,.slice C4 CS.length j4]) (by kernel_rfl) rfl rfl HM2.out.hs (Nat.le_refl 10) (by simp[Value.oneCell']) ?_)
   go_ret2
   rw[HON.out,if_pos HK.out]
   have hst:HStay [mb] u2 (u2.setRow mb (#[fv,kv,.int .i64 E,.int .i64 S,.slice SA n sc,.slice none 0 0,.slice none 0 0,.int .i64 (c':Int),.slice A4 FS.length d4,.slice C4 CS.length j4]:Array Value)):=⟨by simp[World.setRow],fun k _ hx=>setRow_other _ _ _ _ (fun e=>hx (by rw[e];simp))⟩
   refine ⟨aAj HM2.out.bel HM2.out.lo,rfl,fun e=>absurd rfl e,fun _=>⟨fv,kv,.slice SA n sc,E,S,A4,C4,d4,j4,rfl,rfl,setRow_heap _ _ _ _ _ _ HM2.out.hs,⟨aBd (X:=[mb]) HRF.out.row (fun a e _ hm=>?_) hst.keeps,rfl,HRF.out.fits⟩,aBd (X:=[mb]) HRC.out (fun a e _ hm=>?_) hst.keeps,(fun a e=>Nat.le_trans HW1.out (HNEW.out a e)),fun a e=>Nat.le_trans HW1.out (HNEC.out a e)⟩⟩
   ·have:=HNEW.out a e;have:=HML.out;rw[List.mem_singleton] at hm;omega
   have:=HNEC.out a e;have:=HML.out;rw[List.mem_singleton] at hm;omega
  obtain rfl:CS=[]:=List.eq_nil_of_length_eq_zero (by omega)
  rw[if_neg (fun h=>h rfl)] at HON
  clear hcs HRC HNEC HML HW1 gml
 case' inr=>
  have HME:=hid (show mergedOn (fl.map FLV.pl) (sl.map STV.pl) c' onto=(g.files,[],0) by unfold mergedOn;rw[hsome];rfl)
  have hkn:k<n:=by rw[<-HS.out.len];exact (List.getElem?_eq_some_iff.1 hk).1
  obtain ⟨b1,o1,g',eA,hbb1,hg',hgm,_,g5⟩:=(HS.out.to HM1.out.bel HM1.out.bel.size).get hkn
  rw[hk] at hg'
  injection hg' with hg'
  subst hg'
  rw[eA] at g4
  have HEA:=hid eA
  clear eA
  obtain ⟨q1,q2,_⟩:=(HS.out.to HM1.out.bel HM1.out.bel.size).parts g hgm
  have KC:=aNw q2 q1
  have HQ:=hid (show g.files.length<=17592186044416 from Nat.le_trans q2 (by omega))
  have HQF:=hid q1.fits
  clear hsome hk hgm q1 q2
  rw[HME.out] at HON
  dsimp only at HON
  rw[if_neg (by decide),if_neg (fun h=>h rfl)] at HON
  go_wp2_with fail
  refine KC.mono ?_
  rintro e u2 ⟨v,rfl,hov,hb3⟩
  obtain ⟨A4,d4,rfl,hc2⟩:=aAd hov
  have HRF:=hid (show RdF u2 u2.heap.size A4 g.files.length d4 g.files from ⟨Rd.of_own hov hc2,rfl,HQF.out⟩)
  have HNEW:=hid (show ∀a,A4=some a->u1.heap.size<=a.block from aEu hov)
  have HM2:=hid (HM1.out.below hb3)
  have HO2:=hid (HO1.out.keep (HStay.of_below hb3))
  have HB2:=hid ((hb3.block bc (aAa HB1.out)).trans HB1.out)
  have HF2:=hid ((hb3.block fb (aAa HF1.out)).trans HF1.out)
  have HU2:=hid (HU1.out.trans (hb3.mono HU1.out.size))
  have HXL:=hid (show ∀g∈fb::Xs Z mb fv kv,g<u1.heap.size from fun g hg=>by
   rcases List.mem_cons.1 hg with e | e
   ·rw[e];exact aAa HF1.out
   exact Nat.lt_of_not_le fun hn=>HM1.out.new hn e)
  clear HM1 HF1
  generalize g.files=FS at *
  clear hov hc2 KC hb3 hbb1 g5 g4 gml HB1 HU1 HQF hkn HO1
 all_goals
  have c2:u2.cell? ⟨fb,2,none⟩=some (.slice none 0 0):=by rw[Lib.cell_of_heap HF2.out];rfl
  have f2:u2.frozen? ⟨fb,2,none⟩=false:=aAk HF2.out
  have hgr:=aAq u2 fb 2 (.slice A4 FS.length d4)
  have hst:HStay (fb::Xs Z mb fv kv) u2 (u2.setCell ⟨fb,2,none⟩ (.slice A4 FS.length d4)):=HStay.grown hgr fun g e=>by injection e with e;rw[e];exact List.mem_cons_self ..
  have hlo:w0.heap.size<=fb:=Nat.le_trans HW0.out HWF.out
  have hm3:=HM2.out.setOther hgr HNF.out hlo HO2.out
  have g0:(u2.setCell ⟨fb,2,none⟩ (.slice A4 FS.length d4)).cell? ⟨mb,0,none⟩=some (.slice (some ⟨b0,o0,none⟩) fl.length ca):=by rw[Lib.cell_of_heap hm3.hs,<-HEV.out];rfl
  have gml:mb<(u2.setCell ⟨fb,2,none⟩ (.slice A4 FS.length d4)).heap.size:=aAa hm3.hs
  have HM3:=hid hm3
  have HF3:=hid (show (u2.setCell ⟨fb,2,none⟩ (.slice A4 FS.length d4)).heap[fb]? = some (.cells #[.int .i64 onto,.string f.msg,.slice A4 FS.length d4] 40 (0,0)) by
   have:=heap_setCell_same u2 fb 2 _ _ (.slice A4 FS.length d4) HF2.out
   simpa using this)
  have HB3:=hid ((Below.heap_setCell u2 ⟨fb,2,none⟩ (.slice A4 FS.length d4) bc (Nat.ne_of_lt HLT.out)).trans HB2.out)
  have HNW:=hid (show FlOk (u2.setCell ⟨fb,2,none⟩ (.slice A4 FS.length d4)) (Xs Z mb fv kv) ⟨onto,f.msg,A4,d4,FS⟩ from
   ⟨⟨⟨aBd (X:=fb::Xs Z mb fv kv) HRF.out.row (fun a e _ hm=>Nat.lt_irrefl _ (Nat.lt_of_lt_of_le (HXL.out _ hm) (HNEW.out a e))) hst.keeps,rfl,HRF.out.fits⟩,fun a e _ hm=>Nat.lt_irrefl _ (Nat.lt_of_lt_of_le (HXL.out _ (List.mem_cons_of_mem _ hm)) (HNEW.out a e))⟩,
    HQ.out,(show I64 onto by unfold I64;omega),HPF.out.msg⟩)
  have HU3:=hid (show Below w.heap.size w (u2.setCell ⟨fb,2,none⟩ (.slice A4 FS.length d4)) from HU2.out.setCell HWF.out _)
  clear hgr hst hlo hm3 HM2 HB2 HF2 HU2 HO2 HRF HNEW HXL HQ
  by_cases h2:2000<=fl.length
  case pos=>
   have HK:=hid h2
   go_wp2
   go_ret2
   rw[HON.out,if_pos (by rw[List.length_map];exact HK.out)]
   exact ⟨HM3.out.bel,rfl,fun _=>rfl,fun e=>absurd e (by decide)⟩
  rw[if_neg (by rw[List.length_map];exact h2)] at HON
  go_wp2
  clear c2 f2 g0 gml h2
  generalize u2.setCell ⟨fb,2,none⟩ (.slice A4 FS.length d4)=u3 at *
  obtain ⟨V0,e0⟩:∃V0,V0=u3.drew:=⟨_,rfl⟩
  have hb0:Below u3.heap.size u3 V0:=by rw[e0];exact (Below.refl _ _).drew
  have HM0:=hid (HM3.out.below hb0)
  have HB0:=hid ((hb0.block bc (aAa HB3.out)).trans HB3.out)
  have HF0:=hid ((hb0.block fb (aAa HF3.out)).trans HF3.out)
  have HN0:=hid (HNW.out.keep (HStay.of_below hb0).keeps)
  have HU0:=hid (HU3.out.trans (hb0.mono HU3.out.size))
  clear hb0 HM3 HB3 HF3 HNW HU3
  refine aBf (fun u=>u.heap[mb]? = some (.cells (movC fv kv E S (.slice SA n sc)) 109 (0,0))/\u.heap[bc]? = some (.cells #[.int .i64 (c':Int)] 3 (0,0)))
   [(true,0),(true,1),(true,2),(true,3),(true,4),(true,5),(true,6),(true,7),(true,8),(true,9),(true,10),(false,11),(false,12),(false,13),(false,14),(true,15),(true,16)] [17] mixed (by kernel_rfl) (by rw[<-e0];exact ⟨HM0.out.hs,HB0.out⟩) ?_
  intro Tp M Q Q2 hT hT' hM hQ hQ2
  rw[<-e0]
  clear e0 u3
  have m0:M ⟨mb,0,none⟩=some (.slice (some ⟨b0,o0,none⟩) fl.length ca):=hM _ _ fun w' hw=>by rw[Lib.cell_of_heap hw.1,<-HEV.out];rfl
  have m1:M ⟨mb,1,none⟩=some kv:=hM _ _ fun w' hw=>by rw[Lib.cell_of_heap hw.1];rfl
  have m2:M ⟨bc,0,none⟩=some (.int .i64 (c':Int)):=hM _ _ fun w' hw=>by rw[Lib.cell_of_heap hw.2];rfl
  clear hM
  simp only[qcmp]
  simp (maxSteps:=9^7) only[↓qpre,aAb,aAe,aAc,m0,m1,m2]
  clear m0 m1 m2
  have hb1:Below V0.heap.size V0 (V0.alloc (.cells #[.int .i64 (fl.length:Int)] 3)):=(Below.refl _ _).alloc (Nat.le_refl _) _
  have HM1:=hid (HM0.out.below hb1)
  have HB1:=hid ((hb1.block bc (aAa HB0.out)).trans HB0.out)
  have HF1:=hid ((hb1.block fb (aAa HF0.out)).trans HF0.out)
  have HN1:=hid (HN0.out.keep (HStay.of_below hb1).keeps)
  have HU1:=hid (HU0.out.trans (hb1.mono HU0.out.size))
  have HK1:=hid (show MkOk (V0.alloc (.cells #[.int .i64 (fl.length:Int)] 3)) (Xs Z mb fv kv) ⟨c',some ⟨V0.heap.size,0,none⟩,1,[(fl.length:Int)]⟩ from
   ⟨aEn V0 _,fun a e _=>by cases e;exact HM0.out.new (Nat.le_refl _),(show 1<=17592186044416 by decide),(show I64 (c':Int) by unfold I64;omega),fun x hx=>by rw[List.mem_singleton.1 hx];unfold I64;omega⟩)
  refine bIp E28 rfl rfl ⟨hT _ ⟨HM1.out.hs,HB1.out⟩,?_⟩
  simp (maxSteps:=9^7) only[aAb,aAc]
  clear hb1 HM0 HB0 HF0 HN0 HU0
  generalize V0.alloc (.cells #[.int .i64 (fl.length:Int)] 3)=V1 at *
  generalize V0.heap.size=qb at *
  refine aBz rfl (bFi _ _ _ _ _) ⟨hT _ ⟨HM1.out.hs,HB1.out⟩,?_⟩
  simp (maxSteps:=9^7) only[aAb,aAc]
  have hb2:Below V1.heap.size V1 (V1.alloc (.cells #[.int .i64 (c':Int),.slice (some ⟨qb,0,none⟩) 1 1] 43)):=(Below.refl _ _).alloc (Nat.le_refl _) _
  have HM2:=hid (HM1.out.below hb2)
  have HB2:=hid ((hb2.block bc (aAa HB1.out)).trans HB1.out)
  have HF2:=hid ((hb2.block fb (aAa HF1.out)).trans HF1.out)
  have HN2:=hid (HN1.out.keep (HStay.of_below hb2).keeps)
  have HU2:=hid (HU1.out.trans (hb2.mono HU1.out.size))
  have HK2:=hid (HK1.out.keep (HStay.of_below hb2).keeps)
  have HLI:=hid (bHi V1 ⟨c',some ⟨qb,0,none⟩,1,[(fl.length:Int)]⟩)
  refine T.eff_lits (aMa E22 _ _ _) rfl ⟨hT _ ⟨HM2.out.hs,HB2.out⟩,?_⟩
  simp (maxSteps:=9^7) only[aAb,aAc]
  clear hb2 HM1 HB1 HF1 HN1 HU1 HK1
  dsimp only[List.length_singleton] at HLI
  generalize V1.alloc (.cells #[.int .i64 (c':Int),.slice (some ⟨qb,0,none⟩) 1 1] 43)=V2 at *
  refine aAw E22 (base:=w0.heap.size) (n:=ms.length) rfl rfl HM2.out.k1 HLI.out (aLr [⟨c',some ⟨qb,0,none⟩,1,[(fl.length:Int)]⟩]) (by unfold maxLen;omega) (by omega) HM2.out.bel.size ?_
  intro v9 V5 ho9 hg9 hv9
  obtain ⟨A9,c9,rfl,hc9⟩:=aAd ho9
  obtain ⟨hs9,hp9,hst9,hx9,hf9⟩:=HM2.out.pushK (m:=⟨c',some ⟨qb,0,none⟩,1,[(fl.length:Int)]⟩) HK2.out hg9 hv9 ho9
  have HM6:=hid hp9
  have HF6:=hid (hst9.at_ HF2.out HNF.out)
  have HN6:=hid (hf9 _ HN2.out)
  have HS6:=hid (HStay.trans (HStay.of_below (X:=Xs Z mb fv kv) HU2.out) hst9 fun g hg=>.inl hg)
  have HX6:=hid (show ∀g∈Xs Z mb fv (.slice A9 (ms.length+1) c9),g∈Xs Z mb fv kv\/w.heap.size<=g from fun g hg=>(hx9 g hg).imp id fun h=>Nat.le_trans HU2.out.size h)
  refine ⟨hT _ ⟨hs9,(hg9.block bc (aAa HB2.out) (fun e=>HNB.out (aBg.2 (.inr (.inr (.inl e.symm)))))).trans HB2.out⟩,?_⟩
  simp (maxSteps:=9^7) only[↓qpre,aAb,aAe,aAc]
  refine hQ _ _ ?_
  simp only[lates,List.map,qcmp]
  simp (maxSteps:=9^7) only[aAb]
  refine aBi (v:=.slice A9 (ms.length+1) c9) (b:=mb) (o:=1) (by kernel_rfl) rfl rfl (by rw[Lib.cell_of_heap hs9];rfl) (aAk hs9) rfl ⟨trivial,?_⟩
  simp (maxSteps:=9^7) only[aAb]
  refine hQ2 _ _ ?_
  clear hQ hQ2 hT hT' HM2 HB2 HF2 HN2 HU2 HK2 HLI ho9 hg9 hv9 hs9 hp9 hst9 hx9 hf9
  clear Tp M Q Q2
  generalize V5.setCell ⟨mb,1,none⟩ (.slice A9 (ms.length+1) c9)=u6 at *
  go_wp2
  obtain ⟨V0,e0⟩:∃V0,V0=u6.drew:=⟨_,rfl⟩
  have hb0:Below u6.heap.size u6 V0:=by rw[e0];exact (Below.refl _ _).drew
  have HM0:=hid (HM6.out.below hb0)
  have HF0:=hid ((hb0.block fb (aAa HF6.out)).trans HF6.out)
  have HN0:=hid (HN6.out.keep (HStay.of_below hb0).keeps)
  have HS0:=hid (HStay.trans HS6.out (HStay.of_below (X:=[]) hb0) (by simp))
  clear hb0 HM6 HF6 HN6
  refine aBf (fun u=>u.heap[mb]? = some (.cells (movC fv (.slice A9 (ms.length+1) c9) E S (.slice SA n sc)) 109 (0,0))/\u.heap[fb]? = some (.cells #[.int .i64 onto,.string f.msg,.slice A4 FS.length d4] 40 (0,0)))
   [(true,0),(true,1),(true,2),(true,3),(true,4),(true,5),(false,6),(false,7),(true,8),(true,9)] [10] mixed (by kernel_rfl) (by rw[<-e0];exact ⟨HM0.out.hs,HF0.out⟩) ?_
  intro Tp M Q Q2 hT hT' hM hQ hQ2
  rw[<-e0]
  clear e0 HS6 u6
  have m0:M ⟨mb,0,none⟩=some (.slice (some ⟨b0,o0,none⟩) fl.length ca):=hM _ _ fun w' hw=>by rw[Lib.cell_of_heap hw.1,<-HEV.out];rfl
  have m1:M ⟨fb,0,none⟩=some (.int .i64 onto):=hM _ _ fun w' hw=>by rw[Lib.cell_of_heap hw.2];rfl
  have m2:M ⟨fb,1,none⟩=some (.string f.msg):=hM _ _ fun w' hw=>by rw[Lib.cell_of_heap hw.2];rfl
  have m3:M ⟨fb,2,none⟩=some (.slice A4 FS.length d4):=hM _ _ fun w' hw=>by rw[Lib.cell_of_heap hw.2];rfl
  clear hM
  simp only[qcmp]
  simp (maxSteps:=9^7) only[↓qpre,aAb,aAe,aAc,m0,m1,m2,m3]
  clear m0 m1 m2 m3
  have hb1:Below V0.heap.size V0 (V0.alloc (.cells #[.int .i64 onto,.string f.msg,.slice A4 FS.length d4] 40)):=(Below.refl _ _).alloc (Nat.le_refl _) _
  have HM1:=hid (HM0.out.below hb1)
  have HF1:=hid ((hb1.block fb (aAa HF0.out)).trans HF0.out)
  have HN1:=hid (HN0.out.keep (HStay.of_below hb1).keeps)
  have HS1:=hid (HStay.trans HS0.out (HStay.of_below (X:=[]) hb1) (by simp))
  have HLI:=hid (aPm V0 ⟨onto,f.msg,A4,d4,FS⟩)
  refine T.eff_lits (T.run_lits3 aMy _ _ _ _) rfl ⟨hT _ ⟨HM1.out.hs,HF1.out⟩,?_⟩
  simp (maxSteps:=9^7) only[aAb,aAc]
  clear hb1 HM0 HF0 HN0 HS0
  dsimp only at HLI
  generalize V0.alloc (.cells #[.int .i64 onto,.string f.msg,.slice A4 FS.length d4] 40)=V1 at *
  have hfr:V1.ownsRow w0.heap.size 40 3 (.slice (some ⟨b0,o0,none⟩) fl.length ca) fl.length (fl.flatMap FLV.cells):=by rw[<-HEV.out];exact HM1.out.f1
  refine aAw aMy (base:=w0.heap.size) (n:=fl.length) rfl rfl hfr HLI.out (aFa [⟨onto,f.msg,A4,d4,FS⟩]) (by unfold maxLen;omega) (by omega) HM1.out.bel.size ?_
  intro v7 V5 ho7 hg7 hv7
  obtain ⟨A7,c7,rfl,hc7⟩:=aAd ho7
  rw[<-HEV.out] at hg7 hv7
  obtain ⟨hs7,hp7,hst7,hx7,_⟩:=HM1.out.pushF (f:=⟨onto,f.msg,A4,d4,FS⟩) HN1.out hg7 hv7 ho7
  have HM7:=hid hp7
  have HS7:=hid (HStay.trans HS1.out hst7 HX6.out)
  have HX7:=hid (show ∀g∈Xs Z mb (.slice A7 (fl.length+1) c7) (.slice A9 (ms.length+1) c9),g∈Xs Z mb fv kv\/w.heap.size<=g from fun g hg=>by
   rcases hx7 g hg with h | h
   ·exact HX6.out g h
   exact .inr (Nat.le_trans HS1.out.1 h))
  refine ⟨hT _ ⟨hs7,(hg7.block fb (aAa HF1.out) (fun e=>HNF.out (aBg.2 (.inr (.inl e.symm))))).trans HF1.out⟩,?_⟩
  simp (maxSteps:=9^7) only[↓qpre,aAb,aAe,aAc]
  refine hQ _ _ ?_
  simp only[lates,List.map,qcmp]
  simp (maxSteps:=9^7) only[aAb]
  refine aBi (v:=.slice A7 (fl.length+1) c7) (b:=mb) (o:=0) (by kernel_rfl) rfl rfl (by rw[Lib.cell_of_heap hs7];rfl) (aAk hs7) rfl ⟨trivial,?_⟩
  simp (maxSteps:=9^7) only[aAb]
  refine hQ2 _ _ ?_
  clear hQ hQ2 hT hT' HM1 HF1 HN1 HS1 HLI hfr ho7 hg7 hv7 hs7 hp7 hst7 hx7 HX6
  clear Tp M Q Q2
  generalize V5.setCell ⟨mb,0,none⟩ (.slice A7 (fl.length+1) c7)=u8 at *
  go_wp2
  go_ret2
  rw[HON.out]
  exact ⟨rfl,_,_,⟨onto,f.msg,A4,d4,FS⟩,⟨c',some ⟨qb,0,none⟩,1,[(fl.length:Int)]⟩,by rw[HMSG.out];rfl,rfl,rfl,HM7.out,HS7.out,HX7.out⟩
theorem aJj (w:World):(Instr.build 32 #[]).run Tryz.prog w=.ok (.agg #[.slice none 0 0,.slice none 0 0,.int .i64 0,.slice none 0 0,.slice none 0 0]) w:=by
 go_simp
theorem aZf (A1 A2 A3:Option Addr)(n1 c1 n2 c2 n3 c3:Nat)(x y:Int)(w:World):(Instr.build 109 #[(0,.slice A1 n1 c1),(1,.slice A2 n2 c2),(2,.int .i64 x),(3,.int .i64 y),(4,.slice A3 n3 c3),(5,.agg #[.slice none 0 0,.slice none 0 0,.int .i64 0,.slice none 0 0,.slice none 0 0])]).run Tryz.prog w =
  .ok (.agg #[.slice A1 n1 c1,.slice A2 n2 c2,.int .i64 x,.int .i64 y,.slice A3 n3 c3,.slice none 0 0,.slice none 0 0,.int .i64 0,.slice none 0 0,.slice none 0 0]) w:=by
 go_simp
def BeginIs (Z:List Nat)(l:List FLV)(ms:List MV)(sv:Value)(w:World)(e:Ending) (w':World):Prop:=
 Below w.heap.size w w'/\if rightL (l.map FLV.pl) ms=true then ∃(mb:Nat) (fv kv:Value),e=.returned (.pointer (some ⟨mb,0,none⟩))/\Mov Z w w' mb l.length ms.length sv fv kv l ms else e=.returned (.pointer none)
theorem anyOk (l:List FLV):(l.map FLV.pl).all (fun f=>treeOk f.files)=!l.any fun f=>!treeOk f.files:=by
 induction l with
 | nil=>rfl
 | cons f l ih=>rw[List.map_cons,List.all_cons,List.any_cons,ih];cases h:treeOk f.files<;>simp[FLV.pl,h]
theorem aYh {Z:List Nat}{w:World}{A AK SA:Option Addr}{c ck sn sc:Nat}{l:List FLV}{ms:List MV}(hL:Lm w)(hn:l.length<=100000)(hm:ms.length<=100000)(r1:RdFl w w.heap.size A l.length c l)(r2:RdM w w.heap.size AK ms.length ck ms)(hz:∀z∈Z,z<w.heap.size)
  (z1:∀f∈l,∀a,f.A=some a->0<f.files.length->a.block∉Z) (z2:∀m∈ms,∀a,m.A=some a->0<m.new.length->a.block∉Z) :
  Calls Tryz.prog 35 #[.slice A l.length c,.slice AK ms.length ck,.slice SA sn sc] w (BeginIs Z l ms (.slice SA sn sc) w):=by
 have K1:=aLk (by omega) r1.row (aFa _)
 have HR1:=hid r1
 have HR2:=hid r2
 have HPA:=hid (show parF (l.map FLV.pl)=l.map FLV.parent by unfold parF;rw[List.map_map];rfl)
 have HLE:=hid (show rightL (l.map FLV.pl) ms=(rightP (parF (l.map FLV.pl)) && (l.map FLV.pl).all (fun f=>treeOk f.files) && rightM ((l.map FLV.pl).length:Int) ms) from rfl)
 rw[anyOk,List.length_map,HPA.out] at HLE
 have HZ:=hid (And.intro hz (And.intro z1 z2))
 clear r1 r2 hz z1 z2
 go_enter Tryz.func35,Tryz.ntmps35
 go_wp2_with fail
 refine K1.mono ?_
 rintro e w1 ⟨v1,rfl,ho1,hb1⟩
 obtain ⟨A1,c1,rfl,hc1⟩:=aAd ho1
 have HO1:=hid ho1
 have HB1:=hid hb1
 have K2:=aMk (by omega) (HR2.out.row.to hb1 hb1.size) (aLr _)
 clear K1 ho1 hb1
 go_wp2_with fail
 refine K2.mono ?_
 rintro e w2 ⟨v2,rfl,ho2,hb2⟩
 obtain ⟨A2,c2,rfl,hc2⟩:=aAd ho2
 have HO2:=hid (aEm ho2 HB1.out.size)
 have HO3:=hid (aAg HO1.out hb2)
 have HB2:=hid (HB1.out.trans (hb2.mono HB1.out.size))
 have hz:=aJj w2
 have hz2:=aZf A1 A2 SA l.length c1 ms.length c2 sn sc l.length ms.length w2
 obtain ⟨W,eW⟩:∃W,W=w2.alloc (.cells (movC (.slice A1 l.length c1) (.slice A2 ms.length c2) l.length ms.length (.slice SA sn sc)) 109):=⟨_,rfl⟩
 obtain ⟨mb,emb⟩:∃mb,mb=w2.heap.size:=⟨_,rfl⟩
 have hbW:Below w2.heap.size w2 W:=by rw[eW];exact (Below.refl _ _).alloc (Nat.le_refl _) _
 have hm3:Mov Z w W mb l.length ms.length (.slice SA sn sc) (.slice A1 l.length c1) (.slice A2 ms.length c2) l ms:=by
  have hbw:Below w.heap.size w W:=HB2.out.trans (hbW.mono HB2.out.size)
  have ho:∀g,g<w.heap.size->g∉Z->g∉Xs Z mb (.slice A1 l.length c1) (.slice A2 ms.length c2):=fun g hg hz e=>by
   rcases aBg.1 e with h1 | h1 | h1 | h1
   ·have:=HB2.out.size;omega
   ·have:=(HO3.out.lt g h1).1;omega
   ·have:=(HO2.out.lt g h1).1;omega
   exact hz h1
  refine ⟨by rw[eW,emb];exact heap_alloc_new _ _,aAg HO3.out hbW,aAg HO2.out hbW,by rw[emb];exact HB2.out.size,hbw,fun f hf=>?_,fun x hx=>?_,HZ.out.1⟩
  ·obtain ⟨p1,p2,p3,p4⟩:=HR1.out.parts f hf
   refine ⟨⟨p1.to hbw hbw.size,fun a e hn=>?_⟩,p2,p3,p4⟩
   obtain ⟨b,o,e2,hb,_⟩:=p1.row.at_ hn
   rw[e] at e2;cases e2
   exact ho b hb (HZ.out.2.1 f hf _ e hn)
  obtain ⟨p1,p2,p3,p4⟩:=HR2.out.parts x hx
  refine ⟨p1.to hbw hbw.size,fun a e hn=>?_,p2,p3,p4⟩
  obtain ⟨b,o,e2,hb,_⟩:=p1.at_ hn
  rw[e] at e2;cases e2
  exact ho b hb (HZ.out.2.2 x hx _ e hn)
 have HM3:=hid hm3
 have K3:=aLq hm3.hs rfl (hm3.rdFl' rfl).row rfl (by omega)
 clear K2 ho2 hb2 HO1 HB1 hm3 hc1 hc2 hbW HO2 HO3 HB2
 simp only[movC] at eW
 rw[emb] at K3
 go_wp2_with fail
 rw[<-eW]
 refine K3.mono ?_
 rintro e w4 ⟨A4,c4,l4,rfl,r4,hb4,rfl,hn4⟩
 have HM4:=hid (HM3.out.below hb4)
 have K4:=aGa (by rw[List.length_map];omega) r4
 rw[List.length_map] at K4 ⊢
 rw[<-emb]
 clear K3 hb4 HM3 r4 hn4 hz hz2 eW W emb w2
 go_wp2_with fail
 refine K4.mono ?_
 rintro e w5 ⟨rfl,hb5⟩
 have HM5:=hid (HM4.out.below hb5)
 have hbw5:=HM5.out.bel
 have K5:=aVi (by unfold maxLen;omega) (hL.to hbw5) (HR1.out.to hbw5 hbw5.size)
 clear K4 hb5 HM4 hbw5
 cases hr:rightP (l.map FLV.parent) with
 | false=>
  rw[hr,Bool.false_and,Bool.false_and] at HLE
  clear hr K5
  go_wp2
  go_ret
  exact ⟨HM5.out.bel,by rw[HLE.out];rfl⟩
 | true=>
  rw[hr,Bool.true_and] at HLE
  clear hr
  go_wp2_with fail
  refine K5.mono ?_
  rintro e w6 ⟨rfl,hb6⟩
  have HM6:=hid (HM5.out.below hb6)
  have hbw6:=HM6.out.bel
  have K6:=bCf (N:=(l.length:Int)) (by unfold maxLen;omega) (HR2.out.to hbw6 hbw6.size)
  clear K5 hb6 HM5 hbw6
  cases ha:l.any fun f=>!treeOk f.files with
  | true=>
   rw[ha,Bool.not_true,Bool.false_and] at HLE
   clear ha K6
   go_wp2
   go_ret
   exact ⟨HM6.out.bel,by rw[HLE.out];rfl⟩
  | false=>
   rw[ha,Bool.not_false,Bool.true_and] at HLE
   clear ha
   go_wp2_with fail
   refine K6.mono ?_
   rintro e w7 ⟨rfl,hb7⟩
   have HM7:=hid (HM6.out.below hb7)
   clear K6 hb7 HM6
   cases hk:rightM (l.length:Int) ms with
   | false=>
    rw[hk] at HLE
    clear hk
    go_wp2
    go_ret
    exact ⟨HM7.out.bel,by rw[HLE.out];rfl⟩
   | true=>
    rw[hk] at HLE
    clear hk
    go_wp2
    go_ret
    exact ⟨HM7.out.bel,by rw[HLE.out];exact ⟨mb,_,_,rfl,HM7.out⟩⟩
end Go.Proofs.YtohblmepajhpaaaGreatDoor
