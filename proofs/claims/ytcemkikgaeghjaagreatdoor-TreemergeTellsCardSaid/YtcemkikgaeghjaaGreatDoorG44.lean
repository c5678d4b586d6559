/- Texts of the walks, together: Walk: the document's Merge, of three trees. -/
import Derived.Test.YtcemkikgaeghjaaGreatDoorG43
set_option maxHeartbeats 16000000
set_option maxRecDepth 100000
open Go.Lib (hid)
namespace Go.Proofs.YtcemkikgaeghjaaGreatDoor
open Go.RowKit
theorem aWi {P:Program}{S:World->Prop}{a:Act}{w:World}{K:Act->World->Prop}{dst:Option Tmp}{t ty ty2:TypeId}{x y:Operand}{q:Bool}{g:Option (Tmp×Bool)}{xs ys:Array Value}{r:Value}
  (hx:a.eval x=.agg xs) (hy:a.eval y=.agg ys) (hm:P.eqGuardType P.depth t=false) (hr:(binOp .eql t (.agg xs) (.agg ys)).run P w=.ok r w) (hK:S w/\K (a.put dst r) w):effq P S ⟨q,dst,.binOp .eql t x y ty2,ty,g⟩ a w K:=by
 refine aVm (fun p af g=>?_) hK
 unfold execOp
 simp only[hx,hy,Sem.run_bind,run_eqGuard_agg _ _ _ _ _ _ _ hm,hr,Result.andThen_ok,Sem.run_pure]
theorem aZp (w:World):(Instr.build 65 #[]).run Tryz.prog w=.ok (.agg #[.slice none 0 0,.slice none 0 0]) w:=by
 go_simp
theorem MD.start {w0:World}:MD (fun _ _=>False) w0 (w0.alloc (.cells #[.slice none 0 0,.slice none 0 0] 65)) w0.heap.size none 0 (.slice none 0 0) ([],[]) 0:=
 ⟨heap_alloc_new _ _,RdF.none_ _ _,fun _ _ _ h=>(by cases h),World.ownsRow_nil _ _ _ _,Nat.le_refl _,(Below.refl _ _).alloc (Nat.le_refl _) _,Nat.le_refl _,Nat.le_refl _,fun _ _ h=>(by cases h),fun _ _ _ h=>(by cases h)⟩
theorem MD.watch {Z:Nat->Obj->Prop}{w0 w:World}{mb N c:Nat}{A:Option Addr}{cv:Value}{m:List FV×List CL}(h:MD Z w0 w mb A c cv m N):MD (fun k ob=>w.heap[k]? = some ob/\k≠mb/\cv.ownBlock≠some k) w0 w mb A c cv m N:=
 ⟨h.hs,h.f1,h.fa,h.c1,h.lo,h.bel,h.few1,h.few2,fun _ _ hz=>hz,h.lt⟩
theorem aMc {α β:Type}{F:β->α->β}{l:List α}{k:Nat}{x:α}(h:l[k]? = some x)(m:β):(l.take (k+1)).foldl F m=F ((l.take k).foldl F m) x:=by
 rw[List.take_add_one,h,List.foldl_append];rfl
theorem bAe {w:World}{B n c l k:Nat}{A:Option Addr}{xs:List CL}(h:Rd w B 3 A n c (xs.flatMap CL.cells))(hl:l<=k)(hk:k<=n) :
  ∃A',sliced A l k c 3=.slice A' (k-l) (c-l)/\Rd w B 3 A' (k-l) (c-l) (((xs.take k).drop l).flatMap CL.cells):=by
 refine ⟨_,rfl,?_⟩
 have:=h.cut hl hk
 rw[T.flat_take CL.cells_len,T.flat_drop CL.cells_len] at this
 exact this
def Watched (_w0 wy:World)(mb:Nat)(cv:Value)(X:Option Addr)(cX:Nat)(xs:List FV):Prop:=
 ∀(u:World),(∀k ob,(wy.heap[k]? = some ob/\k≠mb/\cv.ownBlock≠some k)->u.heap[k]? = some ob)->RdF u u.heap.size X xs.length cX xs
theorem aNi {w:World}{n1 n2 n3 c1 c2 c3:Nat}{A1 A2 A3:Option Addr}{base a b:List FV}(hL:Lm w)(h1:n1<=17592186044416)(h2:n2<=17592186044416)(h3:n3<=17592186044416)
  (r1:RdF w w.heap.size A1 n1 c1 base) (r2:RdF w w.heap.size A2 n2 c2 a) (r3:RdF w w.heap.size A3 n3 c3 b) :
  Calls Tryz.prog 15 #[.slice A1 n1 c1,.slice A2 n2 c2,.slice A3 n3 c3] w (MergeIs (treemergeF base a b) w):=by
 have K1:=aEk h1 r1
 have HR2:=hid (fun (u:World) (hu:Below w.heap.size w u)=>aEk h2 (r2.to hu hu.size))
 have HR3:=hid (fun (u:World) (hu:Below w.heap.size w u)=>aEk h3 (r3.to hu hu.size))
 have HR:=hid (And.intro r1 (And.intro r2 r3))
 have HL:=hid hL
 clear r1 r2 r3 hL h1 h2 h3
 have HT:=hid (show treemergeF base a b=if treeOk base=false\/treeOk a=false\/treeOk b=false then ([],[],5) else if treeOk (sortF (wholeF base a b).1)=false then ([],[],6) else (sortF (wholeF base a b).1,sortC (wholeF base a b).2,0) from rfl)
 go_enter Tryz.func15,Tryz.ntmps15
 go_wp2_with fail
 refine K1.mono ?_
 rintro e w1 ⟨rfl,hb1⟩
 have K2:=HR2.out w1 hb1
 clear K1
 cases ht1:treeOk base with
 | false=>
  have HN:=hid (show treemergeF base a b=([],[],5) by rw[HT.out];exact if_pos (.inl ht1))
  clear K2 ht1
  go_wp2
  refine bodyPost_ret (aBf rfl _ _) rfl ?_
  exact aBs HN.out hb1
 | true=>
  have HT1:=hid ht1
  clear ht1
  go_wp2_with fail
  refine K2.mono ?_
  rintro e w2 ⟨rfl,hb2⟩
  have hb2':Below w.heap.size w w2:=hb1.trans (hb2.mono hb1.size)
  have K3:=HR3.out w2 hb2'
  clear K2 hb1 hb2
  cases ht2:treeOk a with
  | false=>
   have HN:=hid (show treemergeF base a b=([],[],5) by rw[HT.out];exact if_pos (.inr (.inl ht2)))
   clear K3 ht2
   go_wp2
   refine bodyPost_ret (aBf rfl _ _) rfl ?_
   exact aBs HN.out hb2'
  | true=>
   have HT2:=hid ht2
   clear ht2
   go_wp2_with fail
   refine K3.mono ?_
   rintro e w3 ⟨rfl,hb3⟩
   have hb3':Below w.heap.size w w3:=hb2'.trans (hb3.mono hb2'.size)
   clear K3 hb2' hb3
   cases ht3:treeOk b with
   | false=>
    have HN:=hid (show treemergeF base a b=([],[],5) by rw[HT.out];exact if_pos (.inr (.inr ht3)))
    clear ht3
    go_wp2
    refine bodyPost_ret (aBf rfl _ _) rfl ?_
    exact aBs HN.out hb3'
   | true=>
    have HT3:=hid ht3
    clear ht3
    have HB3:=hid hb3'
    have hl1:=aBr HT1.out
    have hl2:=aBr HT2.out
    have hl3:=aBr HT3.out
    rw[HR.out.1.len] at hl1
    rw[HR.out.2.1.len] at hl2
    rw[HR.out.2.2.len] at hl3
    have HS1:=hid (fun f hf=>aDq ((aAv.1 HT1.out).2.1 f hf))
    have HS2:=hid (fun f hf=>aDq ((aAv.1 HT2.out).2.1 f hf))
    have HS3:=hid (fun f hf=>aDq ((aAv.1 HT3.out).2.1 f hf))
    have HRI:=hid ((aAv.1 HT1.out).2.2.1)
    have HND:=hid (aMg HT1.out)
    have hp1:(renF base a).length<=100:=Nat.le_trans (aQj _ _ _ _) (by rw[HR.out.1.len];exact hl1)
    have hp2:(renF base b).length<=100:=Nat.le_trans (aQj _ _ _ _) (by rw[HR.out.1.len];exact hl1)
    have K4:=aKr (by omega) (by omega) (HR.out.1.to hb3' hb3'.size) (HR.out.2.1.to hb3' hb3'.size) (fun f hf=>by have:=(HS1.out f hf).2;omega) (fun f hf=>by have:=(HS2.out f hf).2;omega) HRI.out
    clear hb3' HR2 HR3
    go_wp2_with fail
    refine K4.mono ?_
    rintro e w4 ⟨v4,rfl,ho4,hb4⟩
    obtain ⟨P,cP,rfl,hcP⟩:=aAg ho4
    have HB4:=hid (HB3.out.trans (hb4.mono HB3.out.size))
    have HP4:=hid (Rd.of_own ho4 hcP)
    have K5:=aKr (by omega) (by omega) (HR.out.1.to HB4.out HB4.out.size) (HR.out.2.2.to HB4.out HB4.out.size) (fun f hf=>by have:=(HS1.out f hf).2;omega) (fun f hf=>by have:=(HS3.out f hf).2;omega) HRI.out
    clear K4 ho4 hb4 hcP HB3
    go_wp2_with fail
    refine K5.mono ?_
    rintro e w5 ⟨v5,rfl,ho5,hb5⟩
    obtain ⟨Q5,cQ,rfl,hcQ⟩:=aAg ho5
    have HB5:=hid (HB4.out.trans (hb5.mono HB4.out.size))
    have HPR:=hid (HP4.out.to hb5 hb5.size)
    have HQR:=hid (Rd.of_own ho5 hcQ)
    have hz:=aZp w5
    have HR1':=hid (HR.out.1.to HB5.out HB5.out.size)
    have HR2':=hid (HR.out.2.1.to HB5.out HB5.out.size)
    have HR3':=hid (HR.out.2.2.to HB5.out HB5.out.size)
    have HL5:=hid (HL.out.to HB5.out)
    have HWA:=hid (aSb (side:=a) HND.out)
    have HWB:=hid (aSb (side:=b) HND.out)
    have HSA:=hid (show ∀f g,whereD a (renF base a) f=some g->g.path.size<=20000/\g.text.size<=20000 from fun f g hg=>HS2.out g (aMe ((HWA.out f).symm.trans hg)))
    have HSB:=hid (show ∀f g,whereD b (renF base b) f=some g->g.path.size<=20000/\g.text.size<=20000 from fun f g hg=>HS3.out g (aMe ((HWB.out f).symm.trans hg)))
    have HWH:=hid (bCv (base:=base) (a:=a) (b:=b) (wa:=whereD a (renF base a)) (wb:=whereD b (renF base b)) HWA.out HWB.out)
    have HAD:=hid (aTm base a)
    have HBD:=hid (aTm base b)
    have KWA:=hid (fun (f:FV) (u:World) (hu:Below w5.heap.size w5 u)=>aOn (f:=f) (by omega) (by omega) (HR2'.out.to hu hu.size) (HPR.out.to hu hu.size) rfl)
    have KWB:=hid (fun (f:FV) (u:World) (hu:Below w5.heap.size w5 u)=>aOn (f:=f) (by omega) (by omega) (HR3'.out.to hu hu.size) (HQR.out.to hu hu.size) rfl)
    have KDA:=hid (fun (u:World) (hu:Below w5.heap.size w5 u)=>aPf (by omega) (by omega) (by omega) (HR1'.out.to hu hu.size) (HR2'.out.to hu hu.size) (HPR.out.to hu hu.size) rfl)
    have KDB:=hid (fun (u:World) (hu:Below w5.heap.size w5 u)=>aPf (by omega) (by omega) (by omega) (HR1'.out.to hu hu.size) (HR3'.out.to hu hu.size) (HQR.out.to hu hu.size) rfl)
    have HM0:=hid (MD.start (w0:=w5))
    clear K5 ho5 hb5 hcQ HB4 HP4 HWA HWB
    generalize whereD a (renF base a)=wa at *
    generalize whereD b (renF base b)=wb at *
    rw[HAD.out] at KDA
    rw[HBD.out] at KDB
    clear HAD HBD
    go_wp2
    generalize w5.alloc (.cells #[.slice none 0 0,.slice none 0 0] 65)=w6 at *
    go_loopw[12] (fun iv wr=>∃(k:Nat) (A:Option Addr) (c:Nat) (cv:Value),k<=n1/\iv=.int .i64 k/\Hid (MD (fun _ _=>False) w5 wr w5.heap.size A c cv ((base.take k).foldl (keptD wa wb) ([],[])) k)) (fun iv _=>n1-(intOf iv).toNat)
    case atStart=>exact ⟨0,none,0,_,Nat.zero_le _,rfl,HM0⟩
    clear HM0
    obtain ⟨k,A,c,cv,hk,rfl,HM⟩:=hrel
    by_cases hlt:k<n1
    case pos=>
     obtain ⟨b0,o0,f,rfl,hbb,hx,hmem,h0,h1,h2⟩:=HR1'.out.get hlt
     have HFT:=hid (aMc (F:=keptD wa wb) hx ([],[]))
     have hfs:=HS1.out f hmem
     have HC:=hid (show ∀u,Below w5.heap.size w5 u->u.cell? ⟨b0,o0+k*3,none⟩=some (.string f.path)/\u.cell? ⟨b0,o0+k*3+1,none⟩=some (.bool f.exec)/\u.cell? ⟨b0,o0+k*3+2,none⟩=some (.string f.text) from fun u hu=>
      ⟨(hu.cell (p:=⟨b0,o0+k*3,none⟩) hbb).trans h0,(hu.cell (p:=⟨b0,o0+k*3+1,none⟩) hbb).trans h1,(hu.cell (p:=⟨b0,o0+k*3+2,none⟩) hbb).trans h2⟩)
     clear hx hmem h0 h1 h2
     generalize (base.take k).foldl (keptD wa wb) ([],[])=mk at *
     have KF:=KWA.out f wr HM.out.bel
     obtain ⟨x0,x1,x2⟩:=HC.out wr HM.out.bel
     go_wp2_with fail
     refine KF.mono ?_
     rintro e v1 ⟨rfl,hb1⟩
     obtain ⟨V1,hV1⟩:∃u,u=v1.alloc (.cells #[.string (optF (wa f)).path,.bool (optF (wa f)).exec,.string (optF (wa f)).text] 28):=⟨_,rfl⟩
     have hbb1:Below v1.heap.size v1 V1:=by rw[hV1];exact (Below.refl _ _).alloc (Nat.le_refl _) _
     have HM2:=hid ((HM.out.below hb1).below hbb1)
     have HY2:=hid (show BoxF V1 v1.heap.size (optF (wa f)) by rw[hV1];exact BoxF.new _ _)
     have KG:=KWB.out f V1 HM2.out.bel
     obtain ⟨x0,x1,x2⟩:=HC.out V1 HM2.out.bel
     rw[hV1] at x0 x1 x2
     clear KF hb1 hbb1 HM
     replace hV1:=hid hV1
     go_wp2_with fail
     rw[<-hV1.out]
     clear hV1 x0 x1 x2
     refine KG.mono ?_
     rintro e v2 ⟨rfl,hb2⟩
     obtain ⟨V2,hV2⟩:∃u,u=v2.alloc (.cells #[.string (optF (wb f)).path,.bool (optF (wb f)).exec,.string (optF (wb f)).text] 28):=⟨_,rfl⟩
     have hbb2:Below v2.heap.size v2 V2:=by rw[hV2];exact (Below.refl _ _).alloc (Nat.le_refl _) _
     have HM3:=hid ((HM2.out.below hb2).below hbb2)
     have HY3:=hid ((HY2.out.below hb2).below hbb2)
     have HZ3:=hid (show BoxF V2 v2.heap.size (optF (wb f)) by rw[hV2];exact BoxF.new _ _)
     obtain ⟨x0,x1,x2⟩:=HC.out V2 HM3.out.bel
     clear KG hb2 hbb2 HM2 HY2
     have hN2:k+1<=100000:=by omega
     have HKD:=hid (show keptD wa wb mk f=match wa f,wb f with | some x,some y=>bothD mk f x y | some x,none=>oneD mk f x | none,some y=>oneD mk f y | none,none=>mk from rfl)
     have HS2':=hid (HSA.out f)
     have HS3':=hid (HSB.out f)
     generalize wa f=F at *
     generalize wb f=G at *
     subst hV2
     cases F with
     | some x=>
      have hs1:=HS2'.out x rfl
      cases G with
      | some y=>
       have hs2:=HS3'.out y rfl
       have HMD:=hid (HM3.out.below (show Below _ (v2.alloc (.cells #[.string (optF (some y)).path,.bool (optF (some y)).exec,.string (optF (some y)).text] 28)) (v2.alloc (.cells #[.string (optF (some y)).path,.bool (optF (some y)).exec,.string (optF (some y)).text] 28)).drew from (Below.refl _ _).drew))
       clear HM3
       have KB:=aVf (f:=f) (o:=x) (t:=y) (HL5.out.to HMD.out.bel) HMD.out (by omega) hfs hs1 hs2
       have HE:=hid (show keptD wa wb mk f=bothD mk f x y from HKD.out)
       go_wp2
       refine aAs (fun u=>u=(v2.alloc (.cells #[.string (optF (some y)).path,.bool (optF (some y)).exec,.string (optF (some y)).text] 28)).drew) [(true,0),(true,1),(true,2),(true,3),(true,4),(true,5),(true,6)] [7] mixed (by kernel_rfl) rfl ?_
       intro Tp M Q Q2 hT hT' hM hQ hQ2
       have m0:M ⟨b0,o0+k*3,none⟩=some (.string f.path):=hM _ _ fun w' hw=>by subst hw;exact x0
       have m1:M ⟨b0,o0+k*3+1,none⟩=some (.bool f.exec):=hM _ _ fun w' hw=>by subst hw;exact x1
       have m2:M ⟨b0,o0+k*3+2,none⟩=some (.string f.text):=hM _ _ fun w' hw=>by subst hw;exact x2
       have m3:M ⟨v1.heap.size,0,none⟩=some (.string (optF (some x)).path):=hM _ _ fun w' hw=>by subst hw;exact HY3.out.c0
       have m4:M ⟨v1.heap.size,1,none⟩=some (.bool (optF (some x)).exec):=hM _ _ fun w' hw=>by subst hw;exact HY3.out.c1
       have m5:M ⟨v1.heap.size,2,none⟩=some (.string (optF (some x)).text):=hM _ _ fun w' hw=>by subst hw;exact HY3.out.c2
       have m6:M ⟨v2.heap.size,0,none⟩=some (.string (optF (some y)).path):=hM _ _ fun w' hw=>by subst hw;exact HZ3.out.c0
       have m7:M ⟨v2.heap.size,1,none⟩=some (.bool (optF (some y)).exec):=hM _ _ fun w' hw=>by subst hw;exact HZ3.out.c1
       have m8:M ⟨v2.heap.size,2,none⟩=some (.string (optF (some y)).text):=hM _ _ fun w' hw=>by subst hw;exact HZ3.out.c2
       clear hM
       simp only[qcmp]
       simp (maxSteps:=9^7) only[↓qpre,aAb,aAf,aAc,m0,m1,m2,m3,m4,m5,m6,m7,m8]
       (repeat refine ⟨by first|omega|(unfold inI64;omega),?_⟩)
       refine hQ _ _ ?_
       simp only[lates,List.map,qcmp]
       simp (maxSteps:=9^7) only[aAb]
       refine aAh (by kernel_rfl) KB rfl rfl ?_
       rintro e w9 ⟨rfl,A9,c9,cv9,hp9⟩
       have HN:=hid hp9
       refine ⟨_,rfl,trivial,?_⟩
       simp (maxSteps:=9^7) only[aAb]
       refine hQ2 _ _ ?_
       clear hQ hQ2 hT hT' m0 m1 m2 m3 m4 m5 m6 m7 m8 KB hp9 HMD x0 x1 x2 HY3 HZ3
       clear Tp M Q Q2
       go_wp2
       go_roundw
       case rel=>exact ⟨k+1,A9,c9,cv9,by omega,by go_num,by rw[HFT.out,HE.out];exact HN⟩
       simp[intOf];omega
      | none=>
       have HMD:=hid (HM3.out.below (show Below _ (v2.alloc (.cells #[.string (optF none).path,.bool (optF none).exec,.string (optF none).text] 28)) (v2.alloc (.cells #[.string (optF none).path,.bool (optF none).exec,.string (optF none).text] 28)).drew from (Below.refl _ _).drew))
       clear HM3
       have KB:=aOu (f:=f) (x:=x) HMD.out (by omega) (show x.path.size<=1000000/\x.text.size<=1000000 from ⟨by omega,by omega⟩)
       have HE:=hid (show keptD wa wb mk f=oneD mk f x from HKD.out)
       go_wp2
       refine aAs (fun u=>u=(v2.alloc (.cells #[.string (optF none).path,.bool (optF none).exec,.string (optF none).text] 28)).drew) [(true,0),(true,1),(true,2),(true,3),(true,4),(true,5)] [6] mixed (by kernel_rfl) rfl ?_
       intro Tp M Q Q2 hT hT' hM hQ hQ2
       have m0:M ⟨b0,o0+k*3,none⟩=some (.string f.path):=hM _ _ fun w' hw=>by subst hw;exact x0
       have m1:M ⟨b0,o0+k*3+1,none⟩=some (.bool f.exec):=hM _ _ fun w' hw=>by subst hw;exact x1
       have m2:M ⟨b0,o0+k*3+2,none⟩=some (.string f.text):=hM _ _ fun w' hw=>by subst hw;exact x2
       have m3:M ⟨v1.heap.size,0,none⟩=some (.string (optF (some x)).path):=hM _ _ fun w' hw=>by subst hw;exact HY3.out.c0
       have m4:M ⟨v1.heap.size,1,none⟩=some (.bool (optF (some x)).exec):=hM _ _ fun w' hw=>by subst hw;exact HY3.out.c1
       have m5:M ⟨v1.heap.size,2,none⟩=some (.string (optF (some x)).text):=hM _ _ fun w' hw=>by subst hw;exact HY3.out.c2
       clear hM
       simp only[qcmp]
       simp (maxSteps:=9^7) only[↓qpre,aAb,aAf,aAc,m0,m1,m2,m3,m4,m5]
       (repeat refine ⟨by first|omega|(unfold inI64;omega),?_⟩)
       refine hQ _ _ ?_
       simp only[lates,List.map,qcmp]
       simp (maxSteps:=9^7) only[aAb]
       refine aAh (by kernel_rfl) KB rfl rfl ?_
       rintro e w9 ⟨rfl,A9,c9,cv9,hp9⟩
       have HN:=hid hp9
       refine ⟨_,rfl,trivial,?_⟩
       simp (maxSteps:=9^7) only[aAb]
       refine hQ2 _ _ ?_
       clear hQ hQ2 hT hT' m0 m1 m2 m3 m4 m5 KB hp9 HMD x0 x1 x2 HY3 HZ3
       clear Tp M Q Q2
       go_wp2
       go_roundw
       case rel=>exact ⟨k+1,A9,c9,cv9,by omega,by go_num,by rw[HFT.out,HE.out];exact HN⟩
       simp[intOf];omega
     | none=>
      cases G with
      | some y=>
       have hs2:=HS3'.out y rfl
       have HMD:=hid (HM3.out.below (show Below _ (v2.alloc (.cells #[.string (optF (some y)).path,.bool (optF (some y)).exec,.string (optF (some y)).text] 28)) (v2.alloc (.cells #[.string (optF (some y)).path,.bool (optF (some y)).exec,.string (optF (some y)).text] 28)).drew from (Below.refl _ _).drew))
       clear HM3
       have KB:=aOu (f:=f) (x:=y) HMD.out (by omega) (show y.path.size<=1000000/\y.text.size<=1000000 from ⟨by omega,by omega⟩)
       have HE:=hid (show keptD wa wb mk f=oneD mk f y from HKD.out)
       go_wp2
       refine aAs (fun u=>u=(v2.alloc (.cells #[.string (optF (some y)).path,.bool (optF (some y)).exec,.string (optF (some y)).text] 28)).drew) [(true,0),(true,1),(true,2),(true,3),(true,4),(true,5)] [6] mixed (by kernel_rfl) rfl ?_
       intro Tp M Q Q2 hT hT' hM hQ hQ2
       have m0:M ⟨b0,o0+k*3,none⟩=some (.string f.path):=hM _ _ fun w' hw=>by subst hw;exact x0
       have m1:M ⟨b0,o0+k*3+1,none⟩=some (.bool f.exec):=hM _ _ fun w' hw=>by subst hw;exact x1
       have m2:M ⟨b0,o0+k*3+2,none⟩=some (.string f.text):=hM _ _ fun w' hw=>by subst hw;exact x2
       have m6:M ⟨v2.heap.size,0,none⟩=some (.string (optF (some y)).path):=hM _ _ fun w' hw=>by subst hw;exact HZ3.out.c0
       have m7:M ⟨v2.heap.size,1,none⟩=some (.bool (optF (some y)).exec):=hM _ _ fun w' hw=>by subst hw;exact HZ3.out.c1
       have m8:M ⟨v2.heap.size,2,none⟩=some (.string (optF (some y)).text):=hM _ _ fun w' hw=>by subst hw;exact HZ3.out.c2
       clear hM
       simp only[qcmp]
       simp (maxSteps:=9^7) only[↓qpre,aAb,aAf,aAc,m0,m1,m2,m6,m7,m8]
       (repeat refine ⟨by first|omega|(unfold inI64;omega),?_⟩)
       refine hQ _ _ ?_
       simp only[lates,List.map,qcmp]
       simp (maxSteps:=9^7) only[aAb]
       refine aAh (by kernel_rfl) KB rfl rfl ?_
       rintro e w9 ⟨rfl,A9,c9,cv9,hp9⟩
       have HN:=hid hp9
       refine ⟨_,rfl,trivial,?_⟩
       simp (maxSteps:=9^7) only[aAb]
       refine hQ2 _ _ ?_
       clear hQ hQ2 hT hT' m0 m1 m2 m6 m7 m8 KB hp9 HMD x0 x1 x2 HY3 HZ3
       clear Tp M Q Q2
       go_wp2
       go_roundw
       case rel=>exact ⟨k+1,A9,c9,cv9,by omega,by go_num,by rw[HFT.out,HE.out];exact HN⟩
       simp[intOf];omega
      | none=>
       have HN:=hid (HM3.out.more (Nat.le_succ k))
       have HE:=hid (show keptD wa wb mk f=mk from HKD.out)
       clear HM3 HY3 HZ3 x0 x1 x2
       go_wp2
       go_roundw
       case rel=>exact ⟨k+1,A,c,cv,by omega,by go_num,by rw[HFT.out,HE.out];exact HN⟩
       simp[intOf];omega
    obtain rfl:k=n1:=by omega
    rw[List.take_of_length_le (by rw[HR1'.out.len];exact Nat.le_refl _)] at HM
    clear KWA KWB HSA HSB hlt hk
    have K7:=KDA.out wr HM.out.bel
    go_wp2_with fail
    refine K7.mono ?_
    rintro e w7 ⟨X,cX,xs,rfl,hxs,hrx,hb7,hn7⟩
    replace hxs:=hid hxs
    have HM7:=hid (HM.out.below hb7)
    have K8:=KDB.out w7 HM7.out.bel
    clear K7
    go_wp2_with fail
    refine K8.mono ?_
    rintro e w8 ⟨Y,cY,ys,rfl,hys,hry,hb8,hn8⟩
    replace hys:=hid hys
    have HM8:=hid (HM7.out.below hb8).watch
    have HXW:=hid (show Watched w5 w8 w5.heap.size cv X cX xs from fun u hu=>by
     refine aDv (hrx.to hb8 hb8.size) fun b o ob e hq=>?_
     have h1:=hn7 b o none e
     have h2:=aAa HM.out.hs
     exact hu b ob ⟨hq,by omega,fun e=>by have:=(HM.out.c1.lt _ e).2;omega⟩)
    have HYW:=hid (show Watched w5 w8 w5.heap.size cv Y cY ys from fun u hu=>by
     refine aDv hry fun b o ob e hq=>?_
     have h1:=hn8 b o none e
     have h2:=aAa HM7.out.hs
     exact hu b ob ⟨hq,by omega,fun e=>by have:=(HM7.out.c1.lt _ e).2;omega⟩)
    have hlx:xs.length<=n2:=by rw[hxs.out,<-HR.out.2.1.len];exact List.length_filter_le _ _
    have hly:ys.length<=n3:=by rw[hys.out,<-HR.out.2.2.len];exact List.length_filter_le _ _
    have HSX:=hid (show ∀f∈xs,f.path.size<=20000/\f.text.size<=20000 from fun f hf=>HS2.out f (by rw[hxs.out] at hf;exact (List.mem_filter.1 hf).1))
    have HSY:=hid (show ∀f∈ys,f.path.size<=20000/\f.text.size<=20000 from fun f hf=>HS3.out f (by rw[hys.out] at hf;exact (List.mem_filter.1 hf).1))
    have HWH2:=hid (show ys.foldl (addTwoD xs) (xs.foldl (addOneD ys) (base.foldl (keptD wa wb) ([],[])))=sortM (wholeF base a b) by rw[<-HWH.out,hxs.out,hys.out];rfl)
    clear K8 hrx hry hb7 hb8 hn7 hn8 hxs hys HM HM7 HWH KDA KDB
    generalize base.foldl (keptD wa wb) ([],[])=mb at *
    go_wp2
    go_loopw[19] (fun iv wr=>∃(j:Nat) (A:Option Addr) (c:Nat) (cv2:Value),j<=xs.length/\iv=.int .i64 j/\Hid (MD (fun q ob=>w8.heap[q]? = some ob/\q≠w5.heap.size/\cv.ownBlock≠some q) w5 wr w5.heap.size A c cv2 ((xs.take j).foldl (addOneD ys) mb) (k+j))) (fun iv _=>xs.length-(intOf iv).toNat)
    case atStart=>exact ⟨0,A,c,cv,Nat.zero_le _,rfl,HM8⟩
    clear HM8
    obtain ⟨j,A,c,cv2,hj,rfl,HM⟩:=hrel
    by_cases hlt:j<xs.length
    case pos=>
     obtain ⟨b0,o0,f,rfl,hbb,hx,hmem,h0,h1,h2⟩:=(HXW.out wr (fun q ob hz=>(HM.out.oth q ob hz).1)).get hlt
     have HFT:=hid (aMc (F:=addOneD ys) hx mb)
     have hfs:=HSX.out f hmem
     have hYr:=HYW.out wr (fun q ob hz=>(HM.out.oth q ob hz).1)
     have KF:=aDy (p:=f.path) (by omega) hYr
     have HC:=hid (show ∀u,Below wr.heap.size wr u->u.cell? ⟨b0,o0+j*3,none⟩=some (.string f.path)/\u.cell? ⟨b0,o0+j*3+1,none⟩=some (.bool f.exec)/\u.cell? ⟨b0,o0+j*3+2,none⟩=some (.string f.text) from fun u hu=>
      ⟨(hu.cell (p:=⟨b0,o0+j*3,none⟩) hbb).trans h0,(hu.cell (p:=⟨b0,o0+j*3+1,none⟩) hbb).trans h1,(hu.cell (p:=⟨b0,o0+j*3+2,none⟩) hbb).trans h2⟩)
     have HADD:=hid (show addOneD ys ((xs.take j).foldl (addOneD ys) mb) f=match findP ys f.path with | none=>putD ((xs.take j).foldl (addOneD ys) mb) f 0 | some y=>if y=f then putD ((xs.take j).foldl (addOneD ys) mb) f 0 else putD ((xs.take j).foldl (addOneD ys) mb) ⟨f.path,f.exec,(merge3F ⟨#[]⟩ f.text y.text).1⟩ 2 from rfl)
     have HYS:=hid (fun y (h:findP ys f.path=some y)=>HSY.out y (aEj h).1)
     clear hx hmem h1 h2 hYr
     generalize (xs.take j).foldl (addOneD ys) mb=mk at *
     generalize findP ys f.path=G at *
     go_wp2_with fail
     refine KF.mono ?_
     rintro e v1 ⟨rfl,hb1⟩
     have hal:Below v1.heap.size v1 (v1.alloc (.cells #[.string (optF G).path,.bool (optF G).exec,.string (optF G).text] 28)):=(Below.refl _ _).alloc (Nat.le_refl _) _
     have hb2:=hb1.trans (hal.mono hb1.size)
     have HM2:=hid (HM.out.below hb2)
     have HC2:=hid (fun (u:World) (hu:Below (v1.alloc (.cells #[.string (optF G).path,.bool (optF G).exec,.string (optF G).text] 28)).heap.size (v1.alloc (.cells #[.string (optF G).path,.bool (optF G).exec,.string (optF G).text] 28)) u)=>HC.out u (hb2.trans (hu.mono hb2.size)))
     have HBG:=hid (show BoxF (v1.alloc (.cells #[.string (optF G).path,.bool (optF G).exec,.string (optF G).text] 28)) v1.heap.size (optF G) from BoxF.new _ _)
     have hdr:Below (v1.alloc (.cells #[.string (optF G).path,.bool (optF G).exec,.string (optF G).text] 28)).heap.size (v1.alloc (.cells #[.string (optF G).path,.bool (optF G).exec,.string (optF G).text] 28)) (v1.alloc (.cells #[.string (optF G).path,.bool (optF G).exec,.string (optF G).text] 28)).drew:=(Below.refl _ _).drew
     have HMD:=hid (HM2.out.below hdr)
     obtain ⟨x0,x1,x2⟩:=HC2.out _ hdr
     have hbg:b0<v1.heap.size:=Nat.lt_of_lt_of_le hbb hb1.size
     clear KF hb1 hb2 hal h0 HM HM2 HC
     have KP0:=aAu (f:=f) (kind:=0) HMD.out (by omega) (show f.path.size<=1000000/\f.text.size<=1000000 from ⟨by omega,by omega⟩)
     cases G with
     | none=>
      have HE:=hid (show addOneD ys mk f=putD mk f 0 from HADD.out)
      have KP:=KP0
      clear KP0 HADD HYS
      go_wp2
      refine aAd (fun u=>u=(v1.alloc (.cells #[.string (optF none).path,.bool (optF none).exec,.string (optF none).text] 28)).drew) [(true,0),(true,1),(true,2),(true,3),(true,4),(true,5),(true,6),(true,7),(false,8),(true,9)] mixed (by kernel_rfl) rfl ?_
      intro Tp M Q hT hT' hM hQ
      clear hM
      simp only[qcmp]
      simp (maxSteps:=9^7) only[↓qpre,aAb,aAc]
      refine hQ _ _ ?_
      clear hQ hT hT'
      clear Tp M Q
      go_wp2_with fail
      refine KP.mono ?_
      rintro e w9 ⟨rfl,A9,c9,cv9,hp9⟩
      have HN:=hid hp9
      clear KP hp9 x0 x1 x2 HMD HBG HC2 hdr
      go_wp2
      go_roundw
      case rel=>exact ⟨j+1,A9,c9,cv9,by omega,by go_num,by rw[HFT.out,HE.out];exact HN⟩
      simp[intOf];omega
     | some y=>
      have hys:=HYS.out y rfl
      by_cases he:y=f
      case pos=>
       have hdec:decide (y=f)=true:=decide_eq_true he
       have HE:=hid (show addOneD ys mk f=putD mk f 0 by rw[HADD.out];exact if_pos he)
       have KP:=KP0
       clear KP0 HADD HYS he
       go_wp2
       refine aAd (fun u=>u=(v1.alloc (.cells #[.string (optF (some y)).path,.bool (optF (some y)).exec,.string (optF (some y)).text] 28)).drew) [(true,0),(true,1),(true,2),(true,3),(true,4),(true,5),(true,6),(true,7),(false,8),(true,9)] mixed (by kernel_rfl) rfl ?_
       intro Tp M Q hT hT' hM hQ
       have m0:M ⟨b0,o0+j*3,none⟩=some (.string f.path):=hM _ _ fun w' hw=>by subst hw;exact x0
       have m1:M ⟨b0,o0+j*3+1,none⟩=some (.bool f.exec):=hM _ _ fun w' hw=>by subst hw;exact x1
       have m2:M ⟨b0,o0+j*3+2,none⟩=some (.string f.text):=hM _ _ fun w' hw=>by subst hw;exact x2
       have m3:M ⟨v1.heap.size,0,none⟩=some (.string y.path):=hM _ _ fun w' hw=>by subst hw;exact HBG.out.c0
       have m4:M ⟨v1.heap.size,1,none⟩=some (.bool y.exec):=hM _ _ fun w' hw=>by subst hw;exact HBG.out.c1
       have m5:M ⟨v1.heap.size,2,none⟩=some (.string y.text):=hM _ _ fun w' hw=>by subst hw;exact HBG.out.c2
       clear hM
       simp only[qcmp]
       simp (maxSteps:=9^7) only[↓qpre,aAb,aAf,aAc,m0,m1,m2,m3,m4,m5]
       (repeat refine ⟨by first|omega|(unfold inI64;omega),?_⟩)
       refine aWi rfl rfl (by kernel_rfl) ((aPy y f _).trans (show _=Result.ok (Value.bool true) _ by rw[hdec])) ⟨hT _ rfl,?_⟩
       simp (maxSteps:=9^7) only[↓qpre,aAb,aAc]
       refine hQ _ _ ?_
       clear hQ hT hT' m0 m1 m2 m3 m4 m5
       clear Tp M Q
       clear hdec
       go_wp2_with fail
       refine KP.mono ?_
       rintro e w9 ⟨rfl,A9,c9,cv9,hp9⟩
       have HN:=hid hp9
       clear KP hp9 x0 x1 x2 HMD HBG HC2 hdr
       go_wp2
       go_roundw
       case rel=>exact ⟨j+1,A9,c9,cv9,by omega,by go_num,by rw[HFT.out,HE.out];exact HN⟩
       simp[intOf];omega
      have hdec:decide (y=f)=false:=decide_eq_false he
      have HE:=hid (show addOneD ys mk f=putD mk ⟨f.path,f.exec,(merge3F ⟨#[]⟩ f.text y.text).1⟩ 2 by rw[HADD.out];exact if_neg he)
      clear KP0 HADD HYS he
      go_wp2
      refine aAd (fun u=>u=(v1.alloc (.cells #[.string (optF (some y)).path,.bool (optF (some y)).exec,.string (optF (some y)).text] 28)).drew) [(true,0),(true,1),(true,2),(true,3),(true,4),(true,5),(true,6),(true,7),(false,8),(true,9)] mixed (by kernel_rfl) rfl ?_
      intro Tp M Q hT hT' hM hQ
      have m0:M ⟨b0,o0+j*3,none⟩=some (.string f.path):=hM _ _ fun w' hw=>by subst hw;exact x0
      have m1:M ⟨b0,o0+j*3+1,none⟩=some (.bool f.exec):=hM _ _ fun w' hw=>by subst hw;exact x1
      have m2:M ⟨b0,o0+j*3+2,none⟩=some (.string f.text):=hM _ _ fun w' hw=>by subst hw;exact x2
      have m3:M ⟨v1.heap.size,0,none⟩=some (.string y.path):=hM _ _ fun w' hw=>by subst hw;exact HBG.out.c0
      have m4:M ⟨v1.heap.size,1,none⟩=some (.bool y.exec):=hM _ _ fun w' hw=>by subst hw;exact HBG.out.c1
      have m5:M ⟨v1.heap.size,2,none⟩=some (.string y.text):=hM _ _ fun w' hw=>by subst hw;exact HBG.out.c2
      clear hM
      simp only[qcmp]
      simp (maxSteps:=9^7) only[↓qpre,aAb,aAf,aAc,m0,m1,m2,m3,m4,m5]
      (repeat refine ⟨by first|omega|(unfold inI64;omega),?_⟩)
      refine aWi rfl rfl (by kernel_rfl) ((aPy y f _).trans (show _=Result.ok (Value.bool false) _ by rw[hdec])) ⟨hT _ rfl,?_⟩
      simp (maxSteps:=9^7) only[↓qpre,aAb,aAc]
      refine hQ _ _ ?_
      clear hQ hT hT' m0 m1 m2 m3 m4 m5
      clear Tp M Q
      clear hdec
      have HMW:=hid (HMD.out.bel)
      have hal:Below (v1.alloc (.cells #[.string (optF (some y)).path,.bool (optF (some y)).exec,.string (optF (some y)).text] 28)).drew.heap.size (v1.alloc (.cells #[.string (optF (some y)).path,.bool (optF (some y)).exec,.string (optF (some y)).text] 28)).drew ((v1.alloc (.cells #[.string (optF (some y)).path,.bool (optF (some y)).exec,.string (optF (some y)).text] 28)).drew.alloc (.cells #[.string f.path,.bool f.exec,.string f.text] 28)):=(Below.refl _ _).alloc (Nat.le_refl _) _
      have HMX:=hid (HMD.out.below hal)
      have HBX:=hid (show BoxF ((v1.alloc (.cells #[.string (optF (some y)).path,.bool (optF (some y)).exec,.string (optF (some y)).text] 28)).drew.alloc (.cells #[.string f.path,.bool f.exec,.string f.text] 28)) (v1.alloc (.cells #[.string (optF (some y)).path,.bool (optF (some y)).exec,.string (optF (some y)).text] 28)).drew.heap.size f from BoxF.new _ _)
      have HBY:=hid ((show BoxF (v1.alloc (.cells #[.string (optF (some y)).path,.bool (optF (some y)).exec,.string (optF (some y)).text] 28)).drew v1.heap.size y from HBG.out).below hal)
      have HCX:=hid (fun (u:World) (hu:Below ((v1.alloc (.cells #[.string (optF (some y)).path,.bool (optF (some y)).exec,.string (optF (some y)).text] 28)).drew.alloc (.cells #[.string f.path,.bool f.exec,.string f.text] 28)).heap.size ((v1.alloc (.cells #[.string (optF (some y)).path,.bool (optF (some y)).exec,.string (optF (some y)).text] 28)).drew.alloc (.cells #[.string f.path,.bool f.exec,.string f.text] 28)) u)=>(HC2.out u ((hdr.trans (hal.mono hdr.size)).trans (hu.mono (hdr.trans (hal.mono hdr.size)).size))).2.2)
      have hg22:w5.heap.size<=(v1.alloc (.cells #[.string (optF (some y)).path,.bool (optF (some y)).exec,.string (optF (some y)).text] 28)).drew.heap.size:=HMD.out.bel.size
      have hgm:w5.heap.size≠(v1.alloc (.cells #[.string (optF (some y)).path,.bool (optF (some y)).exec,.string (optF (some y)).text] 28)).drew.heap.size:=by have:=aAa HMD.out.hs;omega
      have HPA:=hid (show ∀x o s,A=some ⟨x,o,s⟩->x≠(v1.alloc (.cells #[.string (optF (some y)).path,.bool (optF (some y)).exec,.string (optF (some y)).text] 28)).drew.heap.size from fun x o s e=>by have:=HMD.out.lt x o s e;omega)
      have HPC:=hid (show cv2.ownBlock≠some (v1.alloc (.cells #[.string (optF (some y)).path,.bool (optF (some y)).exec,.string (optF (some y)).text] 28)).drew.heap.size from fun e=>by have:=(HMD.out.c1.lt _ e).2;omega)
      have HPZ:=hid (show ∀q ob,(fun q ob=>w8.heap[q]? = some ob/\q≠w5.heap.size/\cv.ownBlock≠some q) q ob->q≠(v1.alloc (.cells #[.string (optF (some y)).path,.bool (optF (some y)).exec,.string (optF (some y)).text] 28)).drew.heap.size from fun q ob hz=>by have:=aAa (HMD.out.oth q ob hz).1;omega)
      clear hal hdr HMD HBG HC2 HMW
      go_wp2
      clear x0 x1 x2
      have eg:v1.heap.size+1=(v1.alloc (.cells #[.string (optF (some y)).path,.bool (optF (some y)).exec,.string (optF (some y)).text] 28)).drew.heap.size:=by show _=(v1.alloc (.cells #[.string (optF (some y)).path,.bool (optF (some y)).exec,.string (optF (some y)).text] 28)).heap.size;simp
      have ew:((v1.alloc (.cells #[.string (optF (some y)).path,.bool (optF (some y)).exec,.string (optF (some y)).text] 28)).alloc (.cells #[.string f.path,.bool f.exec,.string f.text] 28)).drew=(v1.alloc (.cells #[.string (optF (some y)).path,.bool (optF (some y)).exec,.string (optF (some y)).text] 28)).drew.alloc (.cells #[.string f.path,.bool f.exec,.string f.text] 28):=rfl
      rw[eg,ew]
      clear eg ew
      have hgv:v1.heap.size<(v1.alloc (.cells #[.string (optF (some y)).path,.bool (optF (some y)).exec,.string (optF (some y)).text] 28)).drew.heap.size:=by show _<(v1.alloc (.cells #[.string (optF (some y)).path,.bool (optF (some y)).exec,.string (optF (some y)).text] 28)).heap.size;simp
      generalize (v1.alloc (.cells #[.string (optF (some y)).path,.bool (optF (some y)).exec,.string (optF (some y)).text] 28)).drew.alloc (.cells #[.string f.path,.bool f.exec,.string f.text] 28)=V2 at *
      generalize (v1.alloc (.cells #[.string (optF (some y)).path,.bool (optF (some y)).exec,.string (optF (some y)).text] 28)).drew.heap.size=g22 at *
      have KM:=hid (fun (u:World) (hu:Below V2.heap.size V2 u)=>aCe (b:=⟨#[]⟩) (o:=f.text) (t:=y.text) (w:=u) (HL5.out.to (HMX.out.bel.trans (hu.mono HMX.out.bel.size))) (by decide) (by omega) (by omega))
      have HRS:=hid (show (merge3F ⟨#[]⟩ f.text y.text).1.size<=72773 by have:=aGx ⟨#[]⟩ f.text y.text;have e0:(⟨#[]⟩:ByteArray).size=0:=rfl;omega)
      generalize merge3F ⟨#[]⟩ f.text y.text=RR at *
      obtain ⟨rt,rc⟩:=RR
      dsimp only at HE HRS KM
      have hd2:Below V2.heap.size V2 V2.drew:=(Below.refl _ _).drew
      refine aAs (fun u=>u.cell? ⟨b0,o0+j*3+2,none⟩=some (.string f.text)/\u.cell? ⟨v1.heap.size,2,none⟩=some (.string y.text)) [(true,0),(true,1),(true,2),(true,3),(true,4),(true,5),(true,6),(false,7),(true,8),(true,9),(true,10),(true,11),(false,12)] [] mixed (by kernel_rfl) ⟨HCX.out _ hd2,(HBY.out.below hd2).c2⟩ ?_
      intro Tp M Q Q2 hT hT' hM hQ hQ2
      have m0:M ⟨b0,o0+j*3+2,none⟩=some (.string f.text):=hM _ _ fun w' hw=>hw.1
      have m1:M ⟨v1.heap.size,2,none⟩=some (.string y.text):=hM _ _ fun w' hw=>hw.2
      clear hM
      simp only[qcmp]
      simp (maxSteps:=9^7) only[↓qpre,aAb,aAf,aAc,m0,m1]
      (repeat refine ⟨by first|omega|(unfold inI64;omega),?_⟩)
      refine aAh (by kernel_rfl) (KM.out _ hd2) rfl rfl ?_
      rintro e v3 ⟨rfl,hb3⟩
      have hb4:=hd2.trans (hb3.mono hd2.size)
      have hk0:=HCX.out _ hb4
      have hk1:=(HBY.out.below hb4).c2
      refine ⟨_,rfl,hT _ ⟨hk0,hk1⟩,?_⟩
      simp (maxSteps:=9^7) only[↓qpre,aAb,aAf,aAc]
      have HB3:=hid (HBX.out.below hb4)
      have HM3:=hid (HMX.out.below hb4)
      have hc3:=HB3.out.c2
      refine aAy (v:=.string rt) (b:=g22) (o:=2) (by kernel_rfl) rfl rfl (by rw[hc3];rfl) (HB3.out.frozen 2) rfl ⟨hT _ ⟨(World.cell?_of_block (Below.heap_setCell v3 ⟨g22,2,none⟩ (.string rt) b0 (show b0≠g22 by omega))).trans hk0,(World.cell?_of_block (Below.heap_setCell v3 ⟨g22,2,none⟩ (.string rt) v1.heap.size (show v1.heap.size≠g22 by omega))).trans hk1⟩,?_⟩
      simp (maxSteps:=9^7) only[aAb]
      refine hQ _ _ ?_
      simp only[lates,List.map,qcmp]
      simp (maxSteps:=9^7) only[aAb]
      refine hQ2 _ _ ?_
      have HX4:=hid (HB3.out.set2 rt)
      have HM4:=hid (HM3.out.setBox (k:=2) (v:=.string rt) hg22 hgm HPA.out HPC.out HPZ.out)
      have z0:=HX4.out.c0
      have z1:=HX4.out.c1
      have z2:=HX4.out.c2
      clear hQ hQ2 hT hT' m0 m1 hb3 hb4 hd2 hc3 hk0 hk1 hgv hbg HB3 HM3 HMX HBX HBY HCX KM HPA HPC HPZ
      clear Tp M Q Q2
      dsimp only at z0 z1 z2
      generalize v3.setCell ⟨g22,2,none⟩ (.string rt)=v4 at *
      have KP:=aAu (f:=⟨f.path,f.exec,rt⟩) (kind:=2) HM4.out (by omega) (show f.path.size<=1000000/\rt.size<=1000000 from ⟨by omega,by have:=HRS.out;omega⟩)
      dsimp only at KP
      go_wp2_with fail
      refine KP.mono ?_
      rintro e w9 ⟨rfl,A9,c9,cv9,hp9⟩
      have HN:=hid hp9
      clear KP hp9 z0 z1 z2 HM4 HX4 hgm hg22
      go_wp2
      go_roundw
      case rel=>exact ⟨j+1,A9,c9,cv9,by omega,by go_num,by rw[HFT.out,HE.out];exact HN⟩
      simp[intOf];omega
    obtain rfl:j=xs.length:=by omega
    rw[List.take_of_length_le (Nat.le_refl _)] at HM
    clear hlt hj
    generalize xs.foldl (addOneD ys) mb=mc at *
    go_wp2
    go_loopw[23] (fun iv wr=>∃(j:Nat) (A:Option Addr) (c:Nat) (cv2:Value),j<=ys.length/\iv=.int .i64 j/\Hid (MD (fun q ob=>w8.heap[q]? = some ob/\q≠w5.heap.size/\cv.ownBlock≠some q) w5 wr w5.heap.size A c cv2 ((ys.take j).foldl (addTwoD xs) mc) (k+xs.length+j))) (fun iv _=>ys.length-(intOf iv).toNat)
    case atStart=>exact ⟨0,A,c,cv2,Nat.zero_le _,rfl,HM⟩
    clear HM
    obtain ⟨j,A,c,cv2,hj,rfl,HM⟩:=hrel
    by_cases hlt:j<ys.length
    case pos=>
     obtain ⟨b0,o0,f,rfl,hbb,hx,hmem,h0,h1,h2⟩:=(HYW.out wr (fun q ob hz=>(HM.out.oth q ob hz).1)).get hlt
     have HFT:=hid (aMc (F:=addTwoD xs) hx mc)
     have hfs:=HSY.out f hmem
     have hXr:=HXW.out wr (fun q ob hz=>(HM.out.oth q ob hz).1)
     have KF:=aDy (p:=f.path) (by omega) hXr
     have HC:=hid (show ∀u,Below wr.heap.size wr u->u.cell? ⟨b0,o0+j*3,none⟩=some (.string f.path)/\u.cell? ⟨b0,o0+j*3+1,none⟩=some (.bool f.exec)/\u.cell? ⟨b0,o0+j*3+2,none⟩=some (.string f.text) from fun u hu=>
      ⟨(hu.cell (p:=⟨b0,o0+j*3,none⟩) hbb).trans h0,(hu.cell (p:=⟨b0,o0+j*3+1,none⟩) hbb).trans h1,(hu.cell (p:=⟨b0,o0+j*3+2,none⟩) hbb).trans h2⟩)
     have HADD:=hid (show addTwoD xs ((ys.take j).foldl (addTwoD xs) mc) f=if (findP xs f.path).isNone=true then putD ((ys.take j).foldl (addTwoD xs) mc) f 0 else ((ys.take j).foldl (addTwoD xs) mc) from rfl)
     clear hx hmem h1 h2 hXr
     generalize (ys.take j).foldl (addTwoD xs) mc=mk at *
     generalize findP xs f.path=G at *
     go_wp2_with fail
     refine KF.mono ?_
     rintro e v1 ⟨rfl,hb1⟩
     have hal:Below v1.heap.size v1 (v1.alloc (.cells #[.string (optF G).path,.bool (optF G).exec,.string (optF G).text] 28)):=(Below.refl _ _).alloc (Nat.le_refl _) _
     have hb2:=hb1.trans (hal.mono hb1.size)
     have HMD:=hid (HM.out.below hb2)
     obtain ⟨x0,x1,x2⟩:=HC.out _ hb2
     clear KF hb1 hb2 hal h0 HM HC
     have KP:=aAu (f:=f) (kind:=0) HMD.out (by omega) (show f.path.size<=1000000/\f.text.size<=1000000 from ⟨by omega,by omega⟩)
     cases G with
     | none=>
      have HE:=hid (show addTwoD xs mk f=putD mk f 0 from HADD.out)
      clear HADD
      go_wp2_with fail
      refine KP.mono ?_
      rintro e w9 ⟨rfl,A9,c9,cv9,hp9⟩
      have HN:=hid hp9
      clear KP hp9 x0 x1 x2 HMD
      go_wp2
      go_roundw
      case rel=>exact ⟨j+1,A9,c9,cv9,by omega,by go_num,by rw[HFT.out,HE.out];exact HN⟩
      simp[intOf];omega
     | some y=>
      have HE:=hid (show addTwoD xs mk f=mk from HADD.out)
      have HN:=hid (HMD.out.more (Nat.le_succ (k+xs.length+j)))
      clear HADD KP HMD x0 x1 x2
      go_wp2
      go_roundw
      case rel=>exact ⟨j+1,A,c,cv2,by omega,by go_num,by rw[HFT.out,HE.out];exact HN⟩
      simp[intOf];omega
    obtain rfl:j=ys.length:=by omega
    rw[List.take_of_length_le (Nat.le_refl _),HWH2.out] at HM
    clear hlt hj HWH2 HXW HYW HSX HSY
    have hfw1:=HM.out.few1
    have hfw2:=HM.out.few2
    generalize hWW:wholeF base a b=WW at *
    obtain ⟨fs,cl⟩:=WW
    simp only[sortM] at HM hfw1 hfw2
    have K9:=aEk (n:=(sortF fs).length) (by omega) HM.out.f1
    have d0:wr.cell? ⟨w5.heap.size,0,none⟩=some (.slice A (sortF fs).length c):=by rw[Lib.cell_of_heap HM.out.hs];rfl
    dsimp only at K9
    go_wp2_with fail
    refine K9.mono ?_
    rintro e w10 ⟨rfl,hb10⟩
    have HM10:=hid (HM.out.below hb10)
    have HBB:=hid (HB5.out.trans (HM10.out.bel.mono HB5.out.size))
    have HT0:Hid (treemergeF base a b=if treeOk (sortF fs)=false then ([],[],6) else (sortF fs,sortC cl,0)):=hid (by
     rw[HT.out,if_neg]
     rintro (h | h | h)
     ·rw[HT1.out] at h;cases h
     ·rw[HT2.out] at h;cases h
     rw[HT3.out] at h;cases h)
    clear K9 d0 hb10 HM hWW
    cases ht4:treeOk (sortF fs) with
    | false=>
     have HN:=hid (show treemergeF base a b=([],[],6) by rw[HT0.out];exact if_pos ht4)
     clear ht4
     go_wp2
     refine bodyPost_ret (aBf rfl _ _) rfl ?_
     exact aBs HN.out HBB.out
    | true=>
     have HN:=hid (show treemergeF base a b=(sortF fs,sortC cl,0) by rw[HT0.out];exact if_neg (by rw[ht4];decide))
     clear ht4 HT0
     obtain ⟨CV,dV,rfl,hdV⟩:=aAg HM10.out.c1
     have HCV:=hid (Rd.of_own HM10.out.c1 hdV)
     clear hdV
     have hz0:=aAa HM10.out.hs
     have hcl:cl.length<=1000:=by omega
     go_wp2
     go_loopw[26,27] (fun ov iv wk=>∃q:Nat,q<=cl.length/\iv=.int .i64 q/\Hid (Below w10.heap.size w10 wk)/\Hid (wk.ownsRow w10.heap.size 36 3 ov q ((sortC (cl.take q)).flatMap CL.cells))) (fun _ iv _=>cl.length-(intOf iv).toNat)
     case atStart=>exact ⟨0,Nat.zero_le _,rfl,hid (Below.refl _ _),World.ownsRow_nil _ _ _ _⟩
     obtain ⟨wk,rfl⟩:∃u,u=wr:=⟨_,rfl⟩;obtain ⟨q,hq,rfl,HK,HO⟩:=hrel
     have hms:=(HK.out.block _ hz0).trans HM10.out.hs
     have d0:wk.cell? ⟨w5.heap.size,0,none⟩=some (.slice A (sortF fs).length c):=by rw[Lib.cell_of_heap hms];rfl
     have d1:wk.cell? ⟨w5.heap.size,1,none⟩=some (.slice CV cl.length dV):=by rw[Lib.cell_of_heap hms];rfl
     obtain ⟨OA,dO,rfl,hdO⟩:=aAg HO.out
     have HOR:=hid (Rd.of_own HO.out hdO)
     clear hms
     by_cases hlt:q<cl.length
     case pos=>
      obtain ⟨b0,o0,z,rfl,hbb,hx,_,hc⟩:=T.rd_flat CL.cells_len (by omega) HCV.out rfl hlt
      have HC:=hid (show ∀u,Below w10.heap.size w10 u->u.cell? ⟨b0,o0+q*3,none⟩=some (.string z.path)/\u.cell? ⟨b0,o0+q*3+1,none⟩=some (.int .i64 z.kind)/\u.cell? ⟨b0,o0+q*3+2,none⟩=some (.string z.text) from fun u hu=>
       ⟨(hu.cell (p:=⟨b0,o0+q*3,none⟩) hbb).trans (hc 0 _ rfl),(hu.cell (p:=⟨b0,o0+q*3+1,none⟩) hbb).trans (hc 1 _ rfl),(hu.cell (p:=⟨b0,o0+q*3+2,none⟩) hbb).trans (hc 2 _ rfl)⟩)
      have HST:=hid (show sortC (cl.take (q+1))=insC (sortC (cl.take q)) z by rw[List.take_add_one,hx];exact aYk _ _)
      have HUP:=hid (bEd (cl.take q))
      have hSl:(sortC (cl.take q)).length=q:=by rw[aFo,List.length_take];omega
      have H1:=hid d1
      have hz1:w5.heap.size<wk.heap.size:=Nat.lt_of_lt_of_le hz0 HK.out.size
      have hbk:b0<wk.heap.size:=Nat.lt_of_lt_of_le hbb HK.out.size
      clear hx hc d0
      generalize sortC (cl.take q)=S at *
      obtain ⟨zp,zk,zt⟩:=z
      dsimp only at HC
      go_wp2
      clear d1
      go_loopw[28] (fun kv wv=>∃i:Nat,i<=q/\kv=.int .i64 i/\Hid (Below wk.heap.size wk wv)/\Hid (∀j x,i<=j->S[j]? = some x->zp.data.toList<x.path.data.toList)) (fun kv _=>(intOf kv).toNat)
      case atStart=>exact ⟨q,Nat.le_refl _,rfl,hid (Below.refl _ _),hid (fun j x hj hx=>by have:=(List.getElem?_eq_some_iff.1 hx).1;omega)⟩
      obtain ⟨wv,rfl⟩:∃u,u=wr:=⟨_,rfl⟩;obtain ⟨i,hi,rfl,HV,HJ⟩:=hrel
      have e1:wv.cell? ⟨w5.heap.size,1,none⟩=some (.slice (some ⟨b0,o0,none⟩) cl.length dV):=(HV.out.cell (p:=⟨w5.heap.size,1,none⟩) hz1).trans H1.out
      obtain ⟨e2,e3,e4⟩:=HC.out wv (HK.out.trans (HV.out.mono HK.out.size))
      by_cases hi0:i=0
      case' pos=>
       have HCUT:=hid (show insC S ⟨zp,zk,zt⟩=S.take i++⟨zp,zk,zt⟩::S.drop i from aXb HUP.out (by omega) (fun x h0 _=>by omega) (fun x hx=>HJ.out i x (Nat.le_refl _) hx))
       have dz:decide ((0:Int)<(i:Int))=false:=decide_eq_false (by omega)
       clear hi0
       go_wp2
       refine aAd (fun u=>u=wv.drew) (qs 19) mixed (by kernel_rfl) rfl ?_
       intro Tp M Q hT hT' hM hQ
       clear hM
       simp only[qcmp]
       simp (maxSteps:=9^7) only[↓qpre,aAb,aAc,dz]
       refine hQ _ _ ?_
       clear hQ hT hT' dz
       clear Tp M Q
      case' neg=>
       obtain ⟨ob,oo,x,rfl,hob,hxx,_,hcx⟩:=T.rd_flat CL.cells_len (by omega) HOR.out hSl (show i-1<q by omega)
       have e5:wv.cell? ⟨ob,oo+(i-1)*3,none⟩=some (.string x.path):=(HV.out.cell (p:=⟨ob,oo+(i-1)*3,none⟩) hob).trans (hcx 0 _ rfl)
       have hgt:(!(Op.bytesLess x.path.toList zp.toList || decide (x.path=zp)))=decide (zp.data.toList<x.path.data.toList):=by rw[Bool.not_or,<-aRw,bGy]
       have dz:decide ((0:Int)<(i:Int))=true:=decide_eq_true (by omega)
       have di:((i:Int)-1).toNat=i-1:=by omega
       have dj:((q:Nat):Int).toNat=q:=by omega
       clear hcx
       by_cases hg:zp.data.toList<x.path.data.toList
       case pos=>
        have HJ2:=hid (show ∀j y,i-1<=j->S[j]? = some y->zp.data.toList<y.path.data.toList from fun j y hj hy=>by
         by_cases e:j=i-1
         ·subst e;rw[hxx] at hy;injection hy with hy;subst hy;exact hg
         exact HJ.out j y (by omega) hy)
        rw[decide_eq_true hg] at hgt
        have HVD:=hid HV.out.drew
        clear hg hxx
        go_wp2
        refine aAd (fun u=>u=wv.drew) (qs 19) mixed (by kernel_rfl) rfl ?_
        intro Tp M Q hT hT' hM hQ
        have m0:M ⟨w5.heap.size,1,none⟩=some (.slice (some ⟨b0,o0,none⟩) cl.length dV):=hM _ _ fun w' hw=>by subst hw;exact e1
        have m1:M ⟨b0,o0+q*3,none⟩=some (.string zp):=hM _ _ fun w' hw=>by subst hw;exact e2
        have m2:M ⟨ob,oo+(i-1)*3,none⟩=some (.string x.path):=hM _ _ fun w' hw=>by subst hw;exact e5
        clear hM
        simp only[qcmp]
        simp (maxSteps:=9^7) only[↓qpre,aAb,aAf,aAc,dz,di,m0,m1,m2,hgt]
        (repeat refine ⟨by first|omega|(unfold inI64;omega),?_⟩)
        refine hQ _ _ ?_
        clear hQ hT hT' m0 m1 m2 dz hgt e1 e2 e3 e4 e5
        go_wp2
        go_roundw
        case rel=>exact ⟨i-1,by omega,by go_num,HVD,HJ2⟩
        simp[intOf];omega
       case' neg=>
        have HCUT:=hid (show insC S ⟨zp,zk,zt⟩=S.take i++⟨zp,zk,zt⟩::S.drop i from aXb HUP.out (by omega) (fun y h0 hy=>by rw[hxx] at hy;injection hy with hy;subst hy;exact List.not_lt.1 hg) (fun x hx=>HJ.out i x (Nat.le_refl _) hx))
        rw[decide_eq_false hg] at hgt
        clear hg hxx
        go_wp2
        refine aAd (fun u=>u=wv.drew) (qs 19) mixed (by kernel_rfl) rfl ?_
        intro Tp M Q hT hT' hM hQ
        have m0:M ⟨w5.heap.size,1,none⟩=some (.slice (some ⟨b0,o0,none⟩) cl.length dV):=hM _ _ fun w' hw=>by subst hw;exact e1
        have m1:M ⟨b0,o0+q*3,none⟩=some (.string zp):=hM _ _ fun w' hw=>by subst hw;exact e2
        have m2:M ⟨ob,oo+(i-1)*3,none⟩=some (.string x.path):=hM _ _ fun w' hw=>by subst hw;exact e5
        clear hM
        simp only[qcmp]
        simp (maxSteps:=9^7) only[↓qpre,aAb,aAf,aAc,dz,di,m0,m1,m2,hgt]
        (repeat refine ⟨by first|omega|(unfold inI64;omega),?_⟩)
        refine hQ _ _ ?_
        clear hQ hT hT' m0 m1 m2 dz hgt e5 hob di dj
        clear Tp M Q
      all_goals
       have HVD:=hid HV.out.drew
       have f1:wv.drew.cell? ⟨w5.heap.size,1,none⟩=some (.slice (some ⟨b0,o0,none⟩) cl.length dV):=e1
       have f2:wv.drew.cell? ⟨b0,o0+q*3,none⟩=some (.string zp):=e2
       have f3:wv.drew.cell? ⟨b0,o0+q*3+1,none⟩=some (.int .i64 zk):=e3
       have f4:wv.drew.cell? ⟨b0,o0+q*3+2,none⟩=some (.string zt):=e4
       clear e1 e2 e3 e4 HV HJ
       generalize wv.drew=wd at *
       have hz2:w5.heap.size<wd.heap.size:=Nat.lt_of_lt_of_le hz1 HVD.out.size
       have hb2:b0<wd.heap.size:=Nat.lt_of_lt_of_le hbk HVD.out.size
       have HORD:=hid ((HOR.out.to HVD.out HVD.out.size).drew)
       go_wp2
       refine aAw (fun v'=>Below wd.heap.size wd v') (.q 0 (.q 1 (.q 2 (.q 4 (.q 5 (.q 6 (.q 7 (.q 8 (.q 9 (.q 10 (.q 13 (.q 14 (.q 15 (.two 3 (.one 11 (.one 12 (.one 16 (.q 17 .leaf)))) 11 (.one 3 (.one 12 (.one 16 (.q 17 .leaf)))))))))))))))))) mixed (by kernel_rfl) (Below.refl _ _).drew ?_
       intro Tp M Q hT hT' hM hQ
       have m0:M ⟨w5.heap.size,1,none⟩=some (.slice (some ⟨b0,o0,none⟩) cl.length dV):=hM _ _ fun w' hw=>(hw.cell (p:=⟨w5.heap.size,1,none⟩) hz2).trans f1
       have m1:M ⟨b0,o0+q*3,none⟩=some (.string zp):=hM _ _ fun w' hw=>(hw.cell (p:=⟨b0,o0+q*3,none⟩) hb2).trans f2
       have m2:M ⟨b0,o0+q*3+1,none⟩=some (.int .i64 zk):=hM _ _ fun w' hw=>(hw.cell (p:=⟨b0,o0+q*3+1,none⟩) hb2).trans f3
       have m3:M ⟨b0,o0+q*3+2,none⟩=some (.string zt):=hM _ _ fun w' hw=>(hw.cell (p:=⟨b0,o0+q*3+2,none⟩) hb2).trans f4
       clear hM
       refine aDf ?_
       intro O hO
       have t0:=hO true 0
       have t1:=hO true 1
       have t2:=hO true 2
       have t4:=hO true 4
       have t5:=hO true 5
       have t6:=hO true 6
       have t7:=hO true 7
       have t8:=hO true 8
       have t9:=hO true 9
       have t10:=hO true 10
       have t13:=hO true 13
       have t14:=hO true 14
       have t15:=hO true 15
       have t17:=hO true 17
       have e3:=hO false 3
       have e11:=hO false 11
       have e12:=hO false 12
       have e16:=hO false 16
       simp only[qcmp] at t0 t1 t2 t4 t5 t6 t7 t8 t9 t10 t13 t14 t15 t17 e3 e11 e12 e16
       clear hO
       simp (maxSteps:=9^7) only[↓wt_q,↓aBc,t0,t1,t2,t4,t5,t6,t7,t8,t9,t10,t13,t14,t15,e3,e11,↓qpre,aAb,aAf,aAc,m0,m1,m2,m3]
       clear t0 t1 t2 t4 t5 t6 t7 t8 t9 t10 t13 t14 t15 m0 m1 m2 m3
       have hbd:Below wd.heap.size wd wd.drew:=(Below.refl _ _).drew
       have hrd:=HORD.out
       generalize wd.drew=w1 at *
       obtain ⟨A1,q1,r1⟩:=bAe hrd (l:=0) (k:=i) (Nat.zero_le _) hi
       obtain ⟨A2,q2,r2⟩:=bAe hrd (l:=i) (k:=q) hi (Nat.le_refl _)
       rw[q1,q2]
       rw[Nat.sub_zero,List.drop_zero] at r1
       rw[List.take_of_length_le (by omega)] at r2
       clear q1 q2 hrd
       have hbs:=hbd.size
       simp only[Nat.sub_zero]
       (repeat refine ⟨by first|omega|(unfold inI64;omega),?_⟩)
       refine ⟨?_,?_⟩
       ·refine aAo aBa (base:=wd.heap.size) (n:=0) (xs:=[]) rfl rfl (World.ownsRow_nil _ _ _ _) r1 (aBv _) (by simp only[maxLen];omega) (by omega) hbs ?_
        intro v1 w2 ho1 hg1 _
        rw[Nat.zero_add,List.nil_append] at ho1
        have hb2:=hbd.grown hg1 hbs (fun g hg=>by cases hg)
        replace r2:=r2.below (aHx (w:=w1) (w':=w2) hg1 |>.mono hbs)
        refine ⟨hT _ hb2,?_⟩
        simp (maxSteps:=9^7) only[↓aAj,e11,aAb,aAc]
        refine T.eff_lits (T.run_lits3 aBa _ _ _ _) rfl ⟨hT _ (hb2.alloc hb2.size _),?_⟩
        have ho1':=ho1.alloc (.cells #[.string zp,.int .i64 zk,.string zt] 36)
        have hv:=aEv w2 ⟨zp,zk,zt⟩
        have hb3:=hb2.alloc hb2.size (.cells #[.string zp,.int .i64 zk,.string zt] 36)
        replace r2:=r2.below ((Below.refl w2.heap.size w2).alloc (Nat.le_refl _) (.cells #[.string zp,.int .i64 zk,.string zt] 36) |>.mono hb2.size)
        clear ho1 hg1 hb2 r1 hbd hbs
        simp (maxSteps:=9^7) only[↓aAj,e12,aAb,aAc]
        generalize w2.alloc (.cells #[.string zp,.int .i64 zk,.string zt] 36)=w3 at *
        refine aAo aBa (base:=wd.heap.size) (n:=i) rfl rfl ho1' hv (aBv _) (by simp only[maxLen];omega) (by omega) hb3.size ?_
        intro v4 w4 ho4 hg4 _
        have hb4:=hb3.grown hg4 hb3.size (fun g hg=>(ho1'.lt g hg).1)
        replace r2:=r2.grown hg4 hb3.size (fun g hg=>(ho1'.lt g hg).1)
        refine ⟨hT _ hb4,?_⟩
        simp (maxSteps:=9^7) only[↓aAj,e16,aAb,aAc]
        refine aAo aBa (base:=wd.heap.size) (n:=i+1) rfl rfl ho4 r2 (aBv _) (by simp only[maxLen];omega) (by omega) hb4.size ?_
        intro v5 w5' ho5 hg5 _
        have hb5:=hb4.grown hg5 hb4.size (fun g hg=>(ho4.lt g hg).1)
        refine ⟨hT _ hb5,?_⟩
        simp (maxSteps:=9^7) only[↓aCy,↓wt_q,t17,↓qpre,aAb,aAc]
        refine hQ _ _ ?_
        have HK2:=hid ((HK.out.trans (HVD.out.mono HK.out.size)).trans (hb5.mono (Nat.le_trans HK.out.size HVD.out.size)))
        have HO2:=hid (show w5'.ownsRow w10.heap.size 36 3 v5 (q+1) ((sortC (cl.take (q+1))).flatMap CL.cells) by
         rw[HST.out,HCUT.out,List.flatMap_append,List.flatMap_cons]
         have h9:=aBm ho5 (Nat.le_trans HK.out.size HVD.out.size)
         rw[show i+1+(q-i)=q+1 by omega] at h9
         simpa using h9)
        clear hQ hT hT' t17 e3 e11 e12 e16 ho1' hv hb3 ho4 hg4 hb4 r2 hb5 ho5 hg5 HORD f1 f2 f3 f4
        clear Tp M Q O
        go_wp2
        go_roundw
        case rel=>exact ⟨q+1,by omega,by go_num,HK2,HO2⟩
        simp[intOf];omega
       refine T.eff_lits (T.run_lits3 aBa _ _ _ _) rfl ⟨hT _ (hbd.alloc hbs _),?_⟩
       have hv0:=aEv w1 ⟨zp,zk,zt⟩
       have hb2:=hbd.alloc hbs (.cells #[.string zp,.int .i64 zk,.string zt] 36)
       replace r1:=r1.below ((Below.refl w1.heap.size w1).alloc (Nat.le_refl _) (.cells #[.string zp,.int .i64 zk,.string zt] 36) |>.mono hbs)
       replace r2:=r2.below ((Below.refl w1.heap.size w1).alloc (Nat.le_refl _) (.cells #[.string zp,.int .i64 zk,.string zt] 36) |>.mono hbs)
       simp (maxSteps:=9^7) only[↓aAj,e3,aAb,aAc]
       generalize w1.alloc (.cells #[.string zp,.int .i64 zk,.string zt] 36)=w2 at *
       have hbs2:=hb2.size
       refine aAo aBa (base:=wd.heap.size) (n:=0) (xs:=[]) rfl rfl (World.ownsRow_nil _ _ _ _) r1 (aBv _) (by simp only[maxLen];omega) (by omega) hbs2 ?_
       intro v1 w3 ho1' hg1 _
       rw[Nat.zero_add,List.nil_append] at ho1'
       have hb3:=hb2.grown hg1 hbs2 (fun g hg=>by cases hg)
       have hgb:=aHx (w:=w2) (w':=w3) hg1
       replace r2:=r2.below (hgb.mono hbs2)
       have hv:=hv0.below hgb
       clear hv0 hg1 hb2 r1 hbd hbs hbs2 hgb
       refine ⟨hT _ hb3,?_⟩
       simp (maxSteps:=9^7) only[↓aAj,e12,aAb,aAc]
       refine aAo aBa (base:=wd.heap.size) (n:=i) rfl rfl ho1' hv (aBv _) (by simp only[maxLen];omega) (by omega) hb3.size ?_
       intro v4 w4 ho4 hg4 _
       have hb4:=hb3.grown hg4 hb3.size (fun g hg=>(ho1'.lt g hg).1)
       replace r2:=r2.grown hg4 hb3.size (fun g hg=>(ho1'.lt g hg).1)
       refine ⟨hT _ hb4,?_⟩
       simp (maxSteps:=9^7) only[↓aAj,e16,aAb,aAc]
       refine aAo aBa (base:=wd.heap.size) (n:=i+1) rfl rfl ho4 r2 (aBv _) (by simp only[maxLen];omega) (by omega) hb4.size ?_
       intro v5 w5' ho5 hg5 _
       have hb5:=hb4.grown hg5 hb4.size (fun g hg=>(ho4.lt g hg).1)
       refine ⟨hT _ hb5,?_⟩
       simp (maxSteps:=9^7) only[↓aCy,↓wt_q,t17,↓qpre,aAb,aAc]
       refine hQ _ _ ?_
       have HK2:=hid ((HK.out.trans (HVD.out.mono HK.out.size)).trans (hb5.mono (Nat.le_trans HK.out.size HVD.out.size)))
       have HO2:=hid (show w5'.ownsRow w10.heap.size 36 3 v5 (q+1) ((sortC (cl.take (q+1))).flatMap CL.cells) by
        rw[HST.out,HCUT.out,List.flatMap_append,List.flatMap_cons]
        have h9:=aBm ho5 (Nat.le_trans HK.out.size HVD.out.size)
        rw[show i+1+(q-i)=q+1 by omega] at h9
        simpa using h9)
       clear hQ hT hT' t17 e3 e11 e12 e16 ho1' hv hb3 ho4 hg4 hb4 r2 hb5 ho5 hg5 HORD f1 f2 f3 f4
       clear Tp M Q O
       go_wp2
       go_roundw
       case rel=>exact ⟨q+1,by omega,by go_num,HK2,HO2⟩
       simp[intOf];omega
     obtain rfl:q=cl.length:=by omega
     rw[List.take_of_length_le (Nat.le_refl _)] at HOR
     have HFF:=hid (HM10.out.f1.to HK.out HK.out.size)
     have HBF:=hid (HBB.out.trans (HK.out.mono HBB.out.size))
     have hsl:=aFo cl
     have hcl2:(sortC cl).length=cl.length:=hsl
     go_wp2
     refine bodyPost_ret (aBf rfl _ _) rfl ?_
     refine ⟨A,OA,c,dO,?_,?_,?_,HBF.out⟩
     ·rw[HN.out];simp only[hcl2];rfl
     ·rw[HN.out];exact HFF.out
     rw[HN.out];simp only[hcl2];exact HOR.out
end Go.Proofs.YtcemkikgaeghjaaGreatDoor
