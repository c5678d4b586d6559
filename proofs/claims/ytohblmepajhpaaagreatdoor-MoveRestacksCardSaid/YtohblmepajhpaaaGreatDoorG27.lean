/- Contracts of functions that the law reaches, and plain laws of what they compute. -/
import Derived.Test.YtohblmepajhpaaaGreatDoorG15
import Derived.Test.YtohblmepajhpaaaGreatDoorG26
set_option maxHeartbeats 8000000
set_option maxRecDepth 100000
open Go.Lib (hid)
namespace Go.Proofs.YtohblmepajhpaaaGreatDoor
open Go.RowKit
theorem aOz {A:Option Addr}{n c:Nat}{ms:List MV}{i:Int}{w:World}(hn:n<=maxLen)(h:RdM w w.heap.size A n c ms)(hf:fewM ms=true) :
  Calls Tryz.prog 34 #[.slice A n c,.int .i64 i] w (Ints (FinalIs ms i) w):=by
 have HF:=hid hf
 have C1:=aDz (x:=i) hn h
 cases ho:obsM ms i with
 | false=>
  rw[ho] at C1
  go_enter Tryz.func34,Tryz.ntmps34
  go_wp2_with (go_at_call 21;refine C1.mono ?_;rintro e w1 ⟨rfl,hb1⟩)
  go_ret
  exact ⟨some ⟨w1.heap.size,0,none⟩,1,[i],rfl,aBi w1 i,hb1.alloc hb1.size _,FinalIs.self ho⟩
 | true=>
  rw[ho] at C1
  go_enter Tryz.func34,Tryz.ntmps34
  go_wp2_with (first
   | (go_at_call 21;refine C1.mono ?_;rintro e w1 ⟨rfl,hb1⟩;have h1:=h.to hb1 hb1.size)
   | (go_at_call 68;refine (aMg hn h1 hf).mono ?_;rintro e w2 ⟨A2,c2,l2,rfl,hr2,hb2,⟨hp2,hl2⟩,hA2⟩))
  have hbw:=hb1.trans (hb2.mono hb1.size)
  have hAp2:Apart (.slice none 0 0) l2 w2 (.slice A2 l2.length c2):=⟨A2,c2,rfl,hr2,fun _ a _=>by simp[Value.ownBlock]⟩
  have hst0:RefSt w w2 ms i (.slice none 0 0) (.slice A2 l2.length c2) (.slice none 0 0) [] l2 []:=⟨hbw,RefInv.init hp2,Apart.nil _ _,hAp2,World.ownsRow_nil _ _ _ _,by simp;omega⟩
  clear hA2 hAp2 hr2 hb2 h1 hb1 hbw C1
  go_loopg [5,6,7] 700000000 (fun gg ov tv sv wr=>∃seen todo out,(25202-seen.length)*25201+todo.length<=gg/\RefSt w wr ms i ov tv sv seen todo out)
  case atStart=>exact ⟨[],l2,[],by simp;omega,hst0⟩
  clear hst0
  obtain ⟨seen,todo,out,hg,hb,hinv,hro,hrt,hrow,htl⟩:=hrel
  have hsl:=hinv.seen_le HF.out
  rcases todo with _ | ⟨x,todo'⟩
  ·obtain ⟨A6,c6,rfl,hr6,_⟩:=hrt
   obtain ⟨A5,c5,rfl,hr5,_⟩:=hro
   have hfi:=hinv.final ho
   clear ho
   go_wp2
   go_ret
   exact ⟨A5,c5,out,rfl,hr5,hb,hfi⟩
  obtain ⟨A6,c6,rfl,hr6,ha6⟩:=hrt
  obtain ⟨b0,o0,x0,rfl,hb0,hx0,h0⟩:=hr6.int_ (k:=0) (by simp)
  simp only[List.getElem?_cons_zero,Option.some.injEq] at hx0
  subst hx0
  rw[Nat.add_zero] at h0
  have hcut:=Apart.cut1 ⟨_,c6,rfl,hr6,ha6⟩
  obtain ⟨_,hcap6,hcut⟩:=hcut
  rw[List.length_cons] at hg htl hcap6 hcut
  obtain ⟨A7,c7,rfl,hc7⟩:=aAd hrow
  have hin:=bDk (x:=x) (by unfold maxLen;omega) (Rd.of_own hrow hc7)
  by_cases hc6:c6=1
  ·subst hc6
   have hl0:todo'.length=0:=by omega
   have hV:Apart (.slice A7 seen.length c7) todo' wr (.slice (some ⟨b0,o0,none⟩) 0 0):=by
    have hcc:=hcut
    rw[hl0] at hcc
    simpa[sliced] using hcc
   clear hcut hr6 ha6
   by_cases hxi:x<=i
   ·go_wp2
    go_roundg ((25202-seen.length)*25201+todo'.length)
    case measure=>omega
    exact ⟨seen,todo',out,Nat.le_refl _,hb,hinv.skip (.inl hxi),hro,hV,hrow,by omega⟩
   by_cases hse:x∈seen
   ·rw[decide_eq_true hse] at hin
    have HSE:=hid hse;clear hse
    go_wp2_with (go_at_call 57;refine hin.mono ?_;rintro e w3 ⟨rfl,hb3⟩)
    go_roundg ((25202-seen.length)*25201+todo'.length)
    case measure=>omega
    exact ⟨seen,todo',out,Nat.le_refl _,hb.trans (hb3.mono hb.size),hinv.skip (.inr HSE.out),hro.to hb3,hV.to hb3,hrow.kept (aAo hb3 (Nat.le_refl _)) (by cases (Value.slice A7 seen.length c7).ownBlock<;>simp),by omega⟩
   rw[decide_eq_false hse] at hin
   have HSE:=hid hse;clear hse
   have hol:out.length<=25201:=Nat.le_trans (aDa (aCt hinv.sorted) fun y hy=>((hinv.out y).1 hy).1) hsl
   obtain ⟨A5,c5,rfl,hr5,ha5⟩:=hro
   have hro:Apart (.slice A7 seen.length c7) out wr (.slice A5 out.length c5):=⟨A5,c5,rfl,hr5,ha5⟩
   clear hr5 ha5
   cases hox:obsM ms x with
   | false=>
    go_wp2_with (first
     | (go_at_call 57;refine hin.mono ?_;rintro e w3 ⟨rfl,hb3⟩;have hro4:=hro.to (hb3.trans (((Below.refl _ w3).alloc (Nat.le_refl _) (.cells #[.int .i64 x] 3)).mono hb3.size));have hV4:=hV.to (hb3.trans (((Below.refl _ w3).alloc (Nat.le_refl _) (.cells #[.int .i64 x] 3)).mono hb3.size));have hrow4:=(hrow.kept (aAo hb3 (Nat.le_refl _)) (by cases (Value.slice A7 seen.length c7).ownBlock<;>simp)).alloc (.cells #[.int .i64 x] 3);have hb4:=(hb.trans (hb3.mono hb.size)).alloc (hb.trans (hb3.mono hb.size)).size (.cells #[.int .i64 x] 3))
     | (at_builtin;refine aAp rfl (.tmp 36) (.tmp 38) 36 rfl E28 rfl rfl hrow4 (aBi w3 x) (aAq _) (by unfold maxLen;omega) (by omega) hb4.size ?_;intro v5 w5 hrow5 hg5 hv5;have hro5:=hro4.grown (sv':=v5) hg5 (hv5.imp id fun e=>⟨_,e,Nat.le_refl _⟩);have hV5:=hV4.grown (sv':=v5) hg5 (hv5.imp id fun e=>⟨_,e,Nat.le_refl _⟩);have hb5:=hb4.grown hg5 hb4.size (fun g hg=>(hrow4.lt g hg).1);have hC:=aDz (x:=x) hn (h.to hb5 hb5.size);rw[hox] at hC)
     | (go_at_call 21;refine hC.mono ?_;rintro e w6 ⟨rfl,hb6⟩;obtain ⟨A9,c9,e9,hr9,ha9⟩:=hro5.to hb6;cases e9)
     | (go_at_call 69;refine (aQk (by omega) hr9).mono ?_;rintro e w7 ⟨A10,c10,l10,rfl,hr10,hb7,had10,hA10⟩))
    have hbl5:∀k,v5.ownBlock=some k->k<w6.heap.size:=fun k hk=>Nat.lt_of_lt_of_le (hrow5.lt k hk).2 hb6.size
    go_roundg ((25202-(seen.length+1))*25201+todo'.length)
    case measure=>omega
    refine ⟨seen++[x],todo',l10,by simp,hb5.trans ((hb6.mono hb5.size).trans (hb7.mono (Nat.le_trans hb5.size hb6.size))),hinv.leaf (by omega) HSE.out hox had10,?_,(hV5.to hb6).to hb7,?_,by simp;omega⟩
    ·refine ⟨A10,c10,rfl,hr10,fun h0 a ha=>?_⟩
     rcases hA10 a ha with e | e
     ·rw[ha] at e
      exact ha9 e.2 a e.1.symm
     intro e2;have:=hbl5 _ e2.symm;omega
    rw[List.length_append,List.map_append]
    exact (hrow5.kept (aAo hb6 (Nat.le_refl _)) (by cases v5.ownBlock<;>simp)).kept (aAo hb7 (Nat.le_refl _)) (by cases v5.ownBlock<;>simp)
   | true=>
    go_wp2_with (first
     | (go_at_call 57;refine hin.mono ?_;rintro e w3 ⟨rfl,hb3⟩;have hro4:=hro.to (hb3.trans (((Below.refl _ w3).alloc (Nat.le_refl _) (.cells #[.int .i64 x] 3)).mono hb3.size));have hV4:=hV.to (hb3.trans (((Below.refl _ w3).alloc (Nat.le_refl _) (.cells #[.int .i64 x] 3)).mono hb3.size));have hrow4:=(hrow.kept (aAo hb3 (Nat.le_refl _)) (by cases (Value.slice A7 seen.length c7).ownBlock<;>simp)).alloc (.cells #[.int .i64 x] 3);have hb4:=(hb.trans (hb3.mono hb.size)).alloc (hb.trans (hb3.mono hb.size)).size (.cells #[.int .i64 x] 3))
     | (at_builtin;refine aAp rfl (.tmp 36) (.tmp 38) 36 rfl E28 rfl rfl hrow4 (aBi w3 x) (aAq _) (by unfold maxLen;omega) (by omega) hb4.size ?_;intro v5 w5 hrow5 hg5 hv5;have hro5:=hro4.grown (sv':=v5) hg5 (hv5.imp id fun e=>⟨_,e,Nat.le_refl _⟩);have hV5:=hV4.grown (sv':=v5) hg5 (hv5.imp id fun e=>⟨_,e,Nat.le_refl _⟩);have hb5:=hb4.grown hg5 hb4.size (fun g hg=>(hrow4.lt g hg).1);have hC:=aDz (x:=x) hn (h.to hb5 hb5.size);rw[hox] at hC)
     | (go_at_call 21;refine hC.mono ?_;rintro e w6 ⟨rfl,hb6⟩;have hb6':=hb5.trans (hb6.mono hb5.size))
     | (go_at_call 68;refine (aMg (x:=x) hn (h.to hb6' hb6'.size) HF.out).mono ?_;rintro e w7 ⟨A9,c9,l9,rfl,hr9,hb7,⟨hp9,hl9⟩,_⟩))
    have hbl7:=hid (show ∀k,v5.ownBlock=some k->k<w7.heap.size from fun k hk=>Nat.lt_of_lt_of_le (hrow5.lt k hk).2 (Nat.le_trans hb6.size hb7.size))
    have hb7':=hb6'.trans (hb7.mono hb6'.size)
    have hrow7:=(hrow5.kept (aAo hb6 (Nat.le_refl _)) (by cases v5.ownBlock<;>simp)).kept (aAo hb7 (Nat.le_refl _)) (by cases v5.ownBlock<;>simp)
    have hro7:=(hro5.to hb6).to hb7
    have hV7:=(hV5.to hb6).to hb7
    have hmid:=hinv.mid (more:=l9) (by omega) HSE.out hox
    clear hin hro hro4 hV4 hrow4 hb4 hg5 hv5 hro5 hV5 hb5 hC hb6 hb6' hb7 hrow5 hV hrow hb h0 hb0
    go_loopw[6,10] (fun tv jv wr'=>∃t todo2,t<=l9.length/\jv=.int .i64 t/\Below w7.heap.size w7 wr'/\RefMid ms i (seen++[x]) x l9 t todo2 out/\Apart v5 todo2 wr' tv/\todo2.length<=todo'.length+t) (fun _ j _=>l9.length-(intOf j).toNat)
    case atStart=>exact ⟨0,todo',Nat.zero_le _,rfl,Below.refl _ _,hmid,hV7,Nat.le_refl _⟩
    clear hmid hV7
    obtain ⟨t,todo2,ht,rfl,hb8,hm8,hap8,htl8⟩:=hrel
    by_cases hlt:t<l9.length
    ·obtain ⟨b9,o9,y,rfl,hb9,hy,h9⟩:=hr9.int_ hlt
     have h9':=(hb8.cell (p:=⟨b9,o9+t,none⟩) hb9).trans h9
     have HY:=hid hy;clear hy
     by_cases hgt:x<y
     ·obtain ⟨A8,c8,rfl,r8,_⟩:=hap8
      go_wp2
      refine aAs (fun v=>Below w7.heap.size w7 v) (.q 0 (.q 2 (.q 3 (.q 4 (.q 5 (.two 1 (.one 6 (.one 7 (.q 8 .leaf))) 6 (.one 1 (.one 7 (.q 8 .leaf))))))))) mixed (by kernel_rfl) hb8.drew ?_
      intro T M Q hT hT' hM hQ
      have m0:M ⟨b9,o9+t,none⟩=some (.int .i64 y):=hM _ _ fun w' hw=>(hw.cell (p:=⟨b9,o9+t,none⟩) hb9).trans h9
      clear hM
      refine aCj ?_
      intro O hO
      have t0:=hO true 0
      have t2:=hO true 2
      have t3:=hO true 3
      have t4:=hO true 4
      have t5:=hO true 5
      have t8:=hO true 8
      have e1:=hO false 1
      have e6:=hO false 6
      have e7:=hO false 7
      simp only[qcmp] at t0 t2 t3 t4 t5 t8 e1 e6 e7
      clear hO
      simp (maxSteps:=9^7) only[↓wt_q,↓aAz,t0,t2,t3,t4,t5,e1,e6,↓qpre,aAb,aAe,aAc,m0]
      clear t0 t2 t3 t4 t5 m0
      have hbd:=hb8.drew
      have r8q:Rd wr.drew wr.heap.size 1 A8 todo2.length c8 (todo2.map (.int .i64)):=r8.drew
      have hB8:wr.heap.size<=wr.drew.heap.size:=Nat.le_refl _
      generalize wr.drew=u1 at *
      have hbs:=hbd.size
      refine ⟨⟨by omega,by omega⟩,?_,?_⟩
      ·refine aAm E28 (base:=w7.heap.size) (n:=0) (xs:=[]) rfl rfl (World.ownsRow_nil _ _ _ _) r8q (aAq _) (by simp only[maxLen];omega) (by omega) hbs ?_
       intro v1 u2 ho1 hg1 _
       rw[Nat.zero_add,List.nil_append] at ho1
       have hb2:=hbd.grown hg1 hbs (fun g hg=>by cases hg)
       refine ⟨hT _ hb2,?_⟩
       simp (maxSteps:=9^7) only[↓aAj,e6,aAb,aAc]
       refine aEu E28 rfl rfl ⟨hT _ (hb2.alloc hb2.size _),?_⟩
       have ho1':=ho1.alloc (.cells #[.int .i64 y] 3)
       have hv:=aBi u2 y
       have hb3:=hb2.alloc hb2.size (.cells #[.int .i64 y] 3)
       clear ho1 hg1 hb2 r8q hbd hbs
       simp (maxSteps:=9^7) only[↓aAj,e7,aAb,aAc]
       generalize u2.alloc (.cells #[.int .i64 y] 3)=u3 at *
       refine aAm E28 (base:=w7.heap.size) (n:=todo2.length) rfl rfl ho1' hv (aAq _) (by simp only[maxLen];omega) (by omega) hb3.size ?_
       intro v4 u4 ho4 hg4 _
       have hb4:=hb3.grown hg4 hb3.size (fun g hg=>(ho1'.lt g hg).1)
       refine ⟨hT _ hb4,?_⟩
       simp (maxSteps:=9^7) only[↓aBy,↓wt_q,t8,↓qpre,aAb,aAc]
       refine hQ _ _ ?_
       have HB:=hid hb4
       have HO:=hid ho4
       clear hQ hT hT' t8 e1 e6 e7 ho1' hv hb3 ho4 hg4 hb4
       go_wp2
       go_roundw
       case rel=>
        obtain ⟨A10,c10,e10,hc10⟩:=aAd HO.out
        have hO:=HO.out
        rw[e10] at hO
        refine ⟨t+1,todo2++[y],by omega,by go_num,HB.out,hm8.push hp9 HY.out hgt,?_,by simp;omega⟩
        rw[e10,show todo2.length+1=(todo2++[y]).length from by simp]
        have hr10:=Rd.of_own hO hc10
        rw[<-List.map_append,show todo2.length+1=(todo2++[y]).length from by simp] at hr10
        exact Apart.fresh (w:=w7) hr10 hbl7.out (aCh hO)
       simp[intOf];omega
      refine aEu E28 rfl rfl ⟨hT _ (hbd.alloc hbs _),?_⟩
      have hv0:=aBi u1 y
      have hb2:=hbd.alloc hbs (.cells #[.int .i64 y] 3)
      have r8r:=(r8q.below ((Below.refl u1.heap.size u1).alloc (Nat.le_refl _) (.cells #[.int .i64 y] 3) |>.mono hB8))
      simp (maxSteps:=9^7) only[↓aAj,e1,aAb,aAc]
      generalize u1.alloc (.cells #[.int .i64 y] 3)=u2 at *
      have hbs2:=hb2.size
      refine aAm E28 (base:=w7.heap.size) (n:=0) (xs:=[]) rfl rfl (World.ownsRow_nil _ _ _ _) r8r (aAq _) (by simp only[maxLen];omega) (by omega) hbs2 ?_
      intro v1 u3 ho1' hg1 _
      rw[Nat.zero_add,List.nil_append] at ho1'
      have hb3:=hb2.grown hg1 hbs2 (fun g hg=>by cases hg)
      have hv:=hv0.below (aDm hg1)
      clear hv0 hg1 hb2 r8q r8r hbd hbs hbs2
      refine ⟨hT _ hb3,?_⟩
      simp (maxSteps:=9^7) only[↓aAj,e7,aAb,aAc]
      refine aAm E28 (base:=w7.heap.size) (n:=todo2.length) rfl rfl ho1' hv (aAq _) (by simp only[maxLen];omega) (by omega) hb3.size ?_
      intro v4 u4 ho4 hg4 _
      have hb4:=hb3.grown hg4 hb3.size (fun g hg=>(ho1'.lt g hg).1)
      refine ⟨hT _ hb4,?_⟩
      simp (maxSteps:=9^7) only[↓aBy,↓wt_q,t8,↓qpre,aAb,aAc]
      refine hQ _ _ ?_
      have HB:=hid hb4
      have HO:=hid ho4
      clear hQ hT hT' t8 e1 e6 e7 ho1' hv hb3 ho4 hg4 hb4
      go_wp2
      go_roundw
      case rel=>
       obtain ⟨A10,c10,e10,hc10⟩:=aAd HO.out
       have hO:=HO.out
       rw[e10] at hO
       refine ⟨t+1,todo2++[y],by omega,by go_num,HB.out,hm8.push hp9 HY.out hgt,?_,by simp;omega⟩
       rw[e10,show todo2.length+1=(todo2++[y]).length from by simp]
       have hr10:=Rd.of_own hO hc10
       rw[<-List.map_append,show todo2.length+1=(todo2++[y]).length from by simp] at hr10
       exact Apart.fresh (w:=w7) hr10 hbl7.out (aCh hO)
      simp[intOf];omega
     go_wp2
     go_roundw
     case rel=>exact ⟨t+1,todo2,by omega,by go_num,hb8,hm8.skip HY.out hgt,hap8,by omega⟩
     simp[intOf];omega
    go_wp2
    go_roundg ((25202-(seen.length+1))*25201+todo2.length)
    case measure=>omega
    refine ⟨seen++[x],todo2,out,by simp,hb7'.trans (hb8.mono hb7'.size),hm8.stop hp9 (by omega),hro7.to hb8,hap8,?_,by simp;omega⟩
    rw[List.length_append,List.map_append]
    exact hrow7.kept (aAo hb8 (Nat.le_refl _)) (by cases v5.ownBlock<;>simp)
  have hV:Apart (.slice A7 seen.length c7) todo' wr (.slice (some ⟨b0,o0+1,none⟩) todo'.length (c6-1)):=by simpa[sliced,hc6,Addr.add] using hcut
  clear hcut hr6 ha6
  by_cases hxi:x<=i
  ·go_wp2
   go_roundg ((25202-seen.length)*25201+todo'.length)
   case measure=>omega
   exact ⟨seen,todo',out,Nat.le_refl _,hb,hinv.skip (.inl hxi),hro,hV,hrow,by omega⟩
  by_cases hse:x∈seen
  ·rw[decide_eq_true hse] at hin
   have HSE:=hid hse;clear hse
   go_wp2_with (go_at_call 57;refine hin.mono ?_;rintro e w3 ⟨rfl,hb3⟩)
   go_roundg ((25202-seen.length)*25201+todo'.length)
   case measure=>omega
   exact ⟨seen,todo',out,Nat.le_refl _,hb.trans (hb3.mono hb.size),hinv.skip (.inr HSE.out),hro.to hb3,hV.to hb3,hrow.kept (aAo hb3 (Nat.le_refl _)) (by cases (Value.slice A7 seen.length c7).ownBlock<;>simp),by omega⟩
  rw[decide_eq_false hse] at hin
  have HSE:=hid hse;clear hse
  have hol:out.length<=25201:=Nat.le_trans (aDa (aCt hinv.sorted) fun y hy=>((hinv.out y).1 hy).1) hsl
  obtain ⟨A5,c5,rfl,hr5,ha5⟩:=hro
  have hro:Apart (.slice A7 seen.length c7) out wr (.slice A5 out.length c5):=⟨A5,c5,rfl,hr5,ha5⟩
  clear hr5 ha5
  cases hox:obsM ms x with
  | false=>
   go_wp2_with (first
    | (go_at_call 57;refine hin.mono ?_;rintro e w3 ⟨rfl,hb3⟩;have hro4:=hro.to (hb3.trans (((Below.refl _ w3).alloc (Nat.le_refl _) (.cells #[.int .i64 x] 3)).mono hb3.size));have hV4:=hV.to (hb3.trans (((Below.refl _ w3).alloc (Nat.le_refl _) (.cells #[.int .i64 x] 3)).mono hb3.size));have hrow4:=(hrow.kept (aAo hb3 (Nat.le_refl _)) (by cases (Value.slice A7 seen.length c7).ownBlock<;>simp)).alloc (.cells #[.int .i64 x] 3);have hb4:=(hb.trans (hb3.mono hb.size)).alloc (hb.trans (hb3.mono hb.size)).size (.cells #[.int .i64 x] 3))
    | (at_builtin;refine aAp rfl (.tmp 36) (.tmp 38) 36 rfl E28 rfl rfl hrow4 (aBi w3 x) (aAq _) (by unfold maxLen;omega) (by omega) hb4.size ?_;intro v5 w5 hrow5 hg5 hv5;have hro5:=hro4.grown (sv':=v5) hg5 (hv5.imp id fun e=>⟨_,e,Nat.le_refl _⟩);have hV5:=hV4.grown (sv':=v5) hg5 (hv5.imp id fun e=>⟨_,e,Nat.le_refl _⟩);have hb5:=hb4.grown hg5 hb4.size (fun g hg=>(hrow4.lt g hg).1);have hC:=aDz (x:=x) hn (h.to hb5 hb5.size);rw[hox] at hC)
    | (go_at_call 21;refine hC.mono ?_;rintro e w6 ⟨rfl,hb6⟩;obtain ⟨A9,c9,e9,hr9,ha9⟩:=hro5.to hb6;cases e9)
    | (go_at_call 69;refine (aQk (by omega) hr9).mono ?_;rintro e w7 ⟨A10,c10,l10,rfl,hr10,hb7,had10,hA10⟩))
   have hbl5:∀k,v5.ownBlock=some k->k<w6.heap.size:=fun k hk=>Nat.lt_of_lt_of_le (hrow5.lt k hk).2 hb6.size
   go_roundg ((25202-(seen.length+1))*25201+todo'.length)
   case measure=>omega
   refine ⟨seen++[x],todo',l10,by simp,hb5.trans ((hb6.mono hb5.size).trans (hb7.mono (Nat.le_trans hb5.size hb6.size))),hinv.leaf (by omega) HSE.out hox had10,?_,(hV5.to hb6).to hb7,?_,by simp;omega⟩
   ·refine ⟨A10,c10,rfl,hr10,fun h0 a ha=>?_⟩
    rcases hA10 a ha with e | e
    ·rw[ha] at e
     exact ha9 e.2 a e.1.symm
    intro e2;have:=hbl5 _ e2.symm;omega
   rw[List.length_append,List.map_append]
   exact (hrow5.kept (aAo hb6 (Nat.le_refl _)) (by cases v5.ownBlock<;>simp)).kept (aAo hb7 (Nat.le_refl _)) (by cases v5.ownBlock<;>simp)
  | true=>
   go_wp2_with (first
    | (go_at_call 57;refine hin.mono ?_;rintro e w3 ⟨rfl,hb3⟩;have hro4:=hro.to (hb3.trans (((Below.refl _ w3).alloc (Nat.le_refl _) (.cells #[.int .i64 x] 3)).mono hb3.size));have hV4:=hV.to (hb3.trans (((Below.refl _ w3).alloc (Nat.le_refl _) (.cells #[.int .i64 x] 3)).mono hb3.size));have hrow4:=(hrow.kept (aAo hb3 (Nat.le_refl _)) (by cases (Value.slice A7 seen.length c7).ownBlock<;>simp)).alloc (.cells #[.int .i64 x] 3);have hb4:=(hb.trans (hb3.mono hb.size)).alloc (hb.trans (hb3.mono hb.size)).size (.cells #[.int .i64 x] 3))
    | (at_builtin;refine aAp rfl (.tmp 36) (.tmp 38) 36 rfl E28 rfl rfl hrow4 (aBi w3 x) (aAq _) (by unfold maxLen;omega) (by omega) hb4.size ?_;intro v5 w5 hrow5 hg5 hv5;have hro5:=hro4.grown (sv':=v5) hg5 (hv5.imp id fun e=>⟨_,e,Nat.le_refl _⟩);have hV5:=hV4.grown (sv':=v5) hg5 (hv5.imp id fun e=>⟨_,e,Nat.le_refl _⟩);have hb5:=hb4.grown hg5 hb4.size (fun g hg=>(hrow4.lt g hg).1);have hC:=aDz (x:=x) hn (h.to hb5 hb5.size);rw[hox] at hC)
    | (go_at_call 21;refine hC.mono ?_;rintro e w6 ⟨rfl,hb6⟩;have hb6':=hb5.trans (hb6.mono hb5.size))
    | (go_at_call 68;refine (aMg (x:=x) hn (h.to hb6' hb6'.size) HF.out).mono ?_;rintro e w7 ⟨A9,c9,l9,rfl,hr9,hb7,⟨hp9,hl9⟩,_⟩))
   have hbl7:=hid (show ∀k,v5.ownBlock=some k->k<w7.heap.size from fun k hk=>Nat.lt_of_lt_of_le (hrow5.lt k hk).2 (Nat.le_trans hb6.size hb7.size))
   have hb7':=hb6'.trans (hb7.mono hb6'.size)
   have hrow7:=(hrow5.kept (aAo hb6 (Nat.le_refl _)) (by cases v5.ownBlock<;>simp)).kept (aAo hb7 (Nat.le_refl _)) (by cases v5.ownBlock<;>simp)
   have hro7:=(hro5.to hb6).to hb7
   have hV7:=(hV5.to hb6).to hb7
   have hmid:=hinv.mid (more:=l9) (by omega) HSE.out hox
   clear hin hro hro4 hV4 hrow4 hb4 hg5 hv5 hro5 hV5 hb5 hC hb6 hb6' hb7 hrow5 hV hrow hb h0 hb0
   go_loopw[6,10] (fun tv jv wr'=>∃t todo2,t<=l9.length/\jv=.int .i64 t/\Below w7.heap.size w7 wr'/\RefMid ms i (seen++[x]) x l9 t todo2 out/\Apart v5 todo2 wr' tv/\todo2.length<=todo'.length+t) (fun _ j _=>l9.length-(intOf j).toNat)
   case atStart=>exact ⟨0,todo',Nat.zero_le _,rfl,Below.refl _ _,hmid,hV7,Nat.le_refl _⟩
   clear hmid hV7
   obtain ⟨t,todo2,ht,rfl,hb8,hm8,hap8,htl8⟩:=hrel
   by_cases hlt:t<l9.length
   ·obtain ⟨b9,o9,y,rfl,hb9,hy,h9⟩:=hr9.int_ hlt
    have h9':=(hb8.cell (p:=⟨b9,o9+t,none⟩) hb9).trans h9
    have HY:=hid hy;clear hy
    by_cases hgt:x<y
    ·obtain ⟨A8,c8,rfl,r8,_⟩:=hap8
     go_wp2
     refine aAs (fun v=>Below w7.heap.size w7 v) (.q 0 (.q 2 (.q 3 (.q 4 (.q 5 (.two 1 (.one 6 (.one 7 (.q 8 .leaf))) 6 (.one 1 (.one 7 (.q 8 .leaf))))))))) mixed (by kernel_rfl) hb8.drew ?_
     intro T M Q hT hT' hM hQ
     have m0:M ⟨b9,o9+t,none⟩=some (.int .i64 y):=hM _ _ fun w' hw=>(hw.cell (p:=⟨b9,o9+t,none⟩) hb9).trans h9
     clear hM
     refine aCj ?_
     intro O hO
     have t0:=hO true 0
     have t2:=hO true 2
     have t3:=hO true 3
     have t4:=hO true 4
     have t5:=hO true 5
     have t8:=hO true 8
     have e1:=hO false 1
     have e6:=hO false 6
     have e7:=hO false 7
     simp only[qcmp] at t0 t2 t3 t4 t5 t8 e1 e6 e7
     clear hO
     simp (maxSteps:=9^7) only[↓wt_q,↓aAz,t0,t2,t3,t4,t5,e1,e6,↓qpre,aAb,aAe,aAc,m0]
     clear t0 t2 t3 t4 t5 m0
     have hbd:=hb8.drew
     have r8q:Rd wr.drew wr.heap.size 1 A8 todo2.length c8 (todo2.map (.int .i64)):=r8.drew
     have hB8:wr.heap.size<=wr.drew.heap.size:=Nat.le_refl _
     generalize wr.drew=u1 at *
     have hbs:=hbd.size
     refine ⟨⟨by omega,by omega⟩,?_,?_⟩
     ·refine aAm E28 (base:=w7.heap.size) (n:=0) (xs:=[]) rfl rfl (World.ownsRow_nil _ _ _ _) r8q (aAq _) (by simp only[maxLen];omega) (by omega) hbs ?_
      intro v1 u2 ho1 hg1 _
      rw[Nat.zero_add,List.nil_append] at ho1
      have hb2:=hbd.grown hg1 hbs (fun g hg=>by cases hg)
      refine ⟨hT _ hb2,?_⟩
      simp (maxSteps:=9^7) only[↓aAj,e6,aAb,aAc]
      refine aEu E28 rfl rfl ⟨hT _ (hb2.alloc hb2.size _),?_⟩
      have ho1':=ho1.alloc (.cells #[.int .i64 y] 3)
      have hv:=aBi u2 y
      have hb3:=hb2.alloc hb2.size (.cells #[.int .i64 y] 3)
      clear ho1 hg1 hb2 r8q hbd hbs
      simp (maxSteps:=9^7) only[↓aAj,e7,aAb,aAc]
      generalize u2.alloc (.cells #[.int .i64 y] 3)=u3 at *
      refine aAm E28 (base:=w7.heap.size) (n:=todo2.length) rfl rfl ho1' hv (aAq _) (by simp only[maxLen];omega) (by omega) hb3.size ?_
      intro v4 u4 ho4 hg4 _
      have hb4:=hb3.grown hg4 hb3.size (fun g hg=>(ho1'.lt g hg).1)
      refine ⟨hT _ hb4,?_⟩
      simp (maxSteps:=9^7) only[↓aBy,↓wt_q,t8,↓qpre,aAb,aAc]
      refine hQ _ _ ?_
      have HB:=hid hb4
      have HO:=hid ho4
      clear hQ hT hT' t8 e1 e6 e7 ho1' hv hb3 ho4 hg4 hb4
      go_wp2
      go_roundw
      case rel=>
       obtain ⟨A10,c10,e10,hc10⟩:=aAd HO.out
       have hO:=HO.out
       rw[e10] at hO
       refine ⟨t+1,todo2++[y],by omega,by go_num,HB.out,hm8.push hp9 HY.out hgt,?_,by simp;omega⟩
       rw[e10,show todo2.length+1=(todo2++[y]).length from by simp]
       have hr10:=Rd.of_own hO hc10
       rw[<-List.map_append,show todo2.length+1=(todo2++[y]).length from by simp] at hr10
       exact Apart.fresh (w:=w7) hr10 hbl7.out (aCh hO)
      simp[intOf];omega
     refine aEu E28 rfl rfl ⟨hT _ (hbd.alloc hbs _),?_⟩
     have hv0:=aBi u1 y
     have hb2:=hbd.alloc hbs (.cells #[.int .i64 y] 3)
     have r8r:=(r8q.below ((Below.refl u1.heap.size u1).alloc (Nat.le_refl _) (.cells #[.int .i64 y] 3) |>.mono hB8))
     simp (maxSteps:=9^7) only[↓aAj,e1,aAb,aAc]
     generalize u1.alloc (.cells #[.int .i64 y] 3)=u2 at *
     have hbs2:=hb2.size
     refine aAm E28 (base:=w7.heap.size) (n:=0) (xs:=[]) rfl rfl (World.ownsRow_nil _ _ _ _) r8r (aAq _) (by simp only[maxLen];omega) (by omega) hbs2 ?_
     intro v1 u3 ho1' hg1 _
     rw[Nat.zero_add,List.nil_append] at ho1'
     have hb3:=hb2.grown hg1 hbs2 (fun g hg=>by cases hg)
     have hv:=hv0.below (aDm hg1)
     clear hv0 hg1 hb2 r8q r8r hbd hbs hbs2
     refine ⟨hT _ hb3,?_⟩
     simp (maxSteps:=9^7) only[↓aAj,e7,aAb,aAc]
     refine aAm E28 (base:=w7.heap.size) (n:=todo2.length) rfl rfl ho1' hv (aAq _) (by simp only[maxLen];omega) (by omega) hb3.size ?_
     intro v4 u4 ho4 hg4 _
     have hb4:=hb3.grown hg4 hb3.size (fun g hg=>(ho1'.lt g hg).1)
     refine ⟨hT _ hb4,?_⟩
     simp (maxSteps:=9^7) only[↓aBy,↓wt_q,t8,↓qpre,aAb,aAc]
     refine hQ _ _ ?_
     have HB:=hid hb4
     have HO:=hid ho4
     clear hQ hT hT' t8 e1 e6 e7 ho1' hv hb3 ho4 hg4 hb4
     go_wp2
     go_roundw
     case rel=>
      obtain ⟨A10,c10,e10,hc10⟩:=aAd HO.out
      have hO:=HO.out
      rw[e10] at hO
      refine ⟨t+1,todo2++[y],by omega,by go_num,HB.out,hm8.push hp9 HY.out hgt,?_,by simp;omega⟩
      rw[e10,show todo2.length+1=(todo2++[y]).length from by simp]
      have hr10:=Rd.of_own hO hc10
      rw[<-List.map_append,show todo2.length+1=(todo2++[y]).length from by simp] at hr10
      exact Apart.fresh (w:=w7) hr10 hbl7.out (aCh hO)
     simp[intOf];omega
    go_wp2
    go_roundw
    case rel=>exact ⟨t+1,todo2,by omega,by go_num,hb8,hm8.skip HY.out hgt,hap8,by omega⟩
    simp[intOf];omega
   go_wp2
   go_roundg ((25202-(seen.length+1))*25201+todo2.length)
   case measure=>omega
   refine ⟨seen++[x],todo2,out,by simp,hb7'.trans (hb8.mono hb7'.size),hm8.stop hp9 (by omega),hro7.to hb8,hap8,?_,by simp;omega⟩
   rw[List.length_append,List.map_append]
   exact hrow7.kept (aAo hb8 (Nat.le_refl _)) (by cases v5.ownBlock<;>simp)
theorem aUf {ms:List MV}{i:Int}{l:List Int}(h:FinalIs ms i l)(hf:fewM ms=true):l.length<=25201:=by
 refine Nat.le_trans (aDa (u:=univ ms i) (aCt h.sorted) fun x hx=>?_) (aPh hf)
 rcases ((h.mem x).1 hx).1 with _ | ⟨_,h2,_⟩
 ·simp[univ]
 exact aEo h2
theorem bEg {l:List Int}{n:Nat}{t:Int}(hn:l.length=n+1)(ht:l[n]? = some t):l.getLast? = some t:=by
 rw[List.getLast?_eq_getElem?,hn];exact ht
theorem bHz {A:Option Addr}{c:Nat}{l:List Int}{w:World}(hn:l.length<=1000000)(h0:0<l.length)(hs:l.Pairwise (·<·))(h:Rd w w.heap.size 1 A l.length c (l.map (.int .i64))) :
  Calls Tryz.prog 122 #[.slice A l.length c] w fun e w'=>∃t,e=.returned (.int .i64 t)/\l.getLast? = some t/\Below w.heap.size w w':=by
 obtain ⟨b0,o0,x0,rfl,hbb,hx0,g0⟩:=h.int_ h0
 rw[Nat.add_zero] at g0
 have HX0:=hid hx0;clear hx0
 have HS:=hid hs;clear hs
 go_enter Tryz.func122,Tryz.ntmps122
 go_wp2
 go_loopw[3,4] (fun mv kv wr=>∃(k:Nat) (t:Int),1<=k/\k<=l.length/\kv=.int .i64 k/\mv=.int .i64 t/\Hid (l[k-1]? = some t)/\Below w.heap.size w wr) (fun _ kv _=>l.length-(intOf kv).toNat)
 case atStart=>exact ⟨1,x0,Nat.le_refl _,h0,rfl,rfl,HX0.out,Below.refl _ _⟩
 obtain ⟨k,t,hk1,hk,rfl,rfl,ht,hb⟩:=hrel
 by_cases hlt:k<l.length
 ·obtain ⟨b1,o1,x,e,_,hx,gx⟩:=h.int_ hlt
  cases e
  have gx':=(hb.cell (p:=⟨b0,o0+k,none⟩) hbb).trans gx
  have hlt2:t<x:=by
   have h1:=List.getElem?_eq_some_iff.1 ht.out
   have h2:=List.getElem?_eq_some_iff.1 hx
   have:=List.pairwise_iff_getElem.1 HS.out (k-1) k h1.1 h2.1 (by omega)
   rw[h1.2,h2.2] at this
   exact this
  have hmax:max t x=x:=by omega
  have HX:=hid hx;clear hx
  go_wp2
  go_roundw
  case rel=>exact ⟨k+1,x,by omega,by omega,by go_num,rfl,HX.out,hb⟩
  simp[intOf];omega
 have hkn:k=l.length:=by omega
 go_wp2
 go_ret
 refine ⟨t,rfl,bEg (n:=l.length-1) (by omega) ?_,hb⟩
 have:=ht.out
 rwa [hkn] at this
def Tgt (l:List Int)(ms:List MV)(i:Int)(w:World)(e:Ending) (w':World):Prop:=∃t,e=.returned (.int .i64 t)/\TargetIs l ms i t/\Below w.heap.size w w'
theorem bHj {l:List Int}{i p:Int}(hr:rightP l=true)(h0:0<=i)(h1:i<l.length)(hx:l[i.toNat]? = some p):par l i=p/\-1<=p/\p<i:=by
 have hpar:=aDu hx
 rw[Int.toNat_of_nonneg h0] at hpar
 have:=aBb hr h0 h1
 rw[hpar] at this
 exact ⟨hpar,this⟩
theorem bAg {A A2:Option Addr}{c m c2:Nat}{l:List Int}{ms:List MV}{i:Int}{w:World}(hn:l.length<=1000000)(h:Rd w w.heap.size 1 A l.length c (l.map (.int .i64)))(hm:m<=maxLen)(h2:RdM w w.heap.size A2 m c2 ms)(hf:fewM ms=true) :
  Calls Tryz.prog 99 #[.slice A l.length c,.slice A2 m c2,.int .i64 i] w (Tgt l ms i w):=by
 have C:=aDh (by omega) h
 have HF:=hid hf;clear hf
 cases hr:rightP l with
 | false=>
  rw[hr] at C
  have HR:=hid hr;clear hr
  go_enter Tryz.func99,Tryz.ntmps99
  go_wp2_with fail
  refine C.mono ?_
  rintro e w1 ⟨rfl,hb1⟩
  go_wp2
  go_ret
  exact ⟨-1,rfl,.out (.inl HR.out),hb1⟩
 | true=>
  rw[hr] at C
  have HR:=hid hr;clear hr
  go_enter Tryz.func99,Tryz.ntmps99
  go_wp2_with fail
  refine C.mono ?_
  rintro e w1 ⟨rfl,hb1⟩
  go_wp2
  go_loopw[2] (fun iv wr=>∃i':Int,iv=.int .i64 i'/\Below w.heap.size w wr/\Hid (∀t,TargetIs l ms i' t->TargetIs l ms i t)) (fun iv _=>(intOf iv+1).toNat)
  case atStart=>exact ⟨i,rfl,hb1,fun t ht=>ht⟩
  obtain ⟨i',rfl,hb,hj⟩:=hrel
  by_cases c1:0<=i'
  ·by_cases c2:i'<(l.length:Int)
   ·have hI:I64 i':=by unfold I64;omega
    obtain ⟨b0,o0,p,rfl,hbb,hx,g0⟩:=h.int_ (k:=i'.toNat) (by omega)
    obtain ⟨hpar,hp0,hp1⟩:=bHj HR.out c1 c2 hx
    have HP:=hid hpar
    clear hx hpar
    have C14:=aKk (x:=i') hm (h2.to hb hb.size)
    cases ho:obsM ms i' with
    | false=>
     rw[ho] at C14
     have HT:=hid (hj.out i' (.here HR.out c1 c2 (FinalIs.self ho) rfl))
     go_wp2_with fail
     refine C14.mono ?_
     rintro e w3 ⟨rfl,hb3⟩
     go_wp2
     go_ret
     exact ⟨i',rfl,HT.out,hb.trans (hb3.mono hb.size)⟩
    | true=>
     rw[ho] at C14
     go_wp2_with fail
     refine C14.mono ?_
     rintro e w3 ⟨rfl,hb3⟩
     have hb3w:=hb.trans (hb3.mono hb.size)
     go_wp2_with fail
     refine (bEf (i:=i') hm (h2.to hb3w hb3w.size) HF.out hI).mono ?_
     rintro e w4 ⟨A4,c4,f,rfl,hr4,hb4,hf4⟩
     have hb4w:=hb3w.trans (hb4.mono hb3w.size)
     have hfl:=aUf hf4 HF.out
     have g1:=(hb4w.cell (p:=⟨b0,o0+i'.toNat,none⟩) hbb).trans g0
     by_cases hfe:0<f.length
     ·have C55:=bHz (by omega) hfe hf4.sorted hr4
      go_wp2_with fail
      refine C55.mono ?_
      rintro e w5 ⟨t,rfl,ht,hb5⟩
      have HT:=hid (hj.out t (.here HR.out c1 c2 hf4 ht))
      go_wp2
      go_ret
      exact ⟨t,rfl,HT.out,hb4w.trans (hb5.mono hb4w.size)⟩
     have hnil:f=[]:=List.eq_nil_of_length_eq_zero (by omega)
     subst hnil
     have HT:Hid (∀t,TargetIs l ms p t->TargetIs l ms i t):=fun t ht=>hj.out t (.up HR.out c1 c2 hf4 (by rw[HP.out];exact ht))
     go_wp2
     go_roundw
     case rel=>exact ⟨p,rfl,hb4w,HT⟩
     simp[intOf];omega
   have HT:=hid (hj.out (-1) (.out (.inr (.inr (by omega)))))
   go_wp2
   go_ret
   exact ⟨-1,rfl,HT.out,hb⟩
  have HT:=hid (hj.out (-1) (.out (.inr (.inl (by omega)))))
  go_wp2
  go_ret
  exact ⟨-1,rfl,HT.out,hb⟩
theorem aUi {A A2:Option Addr}{c m c2:Nat}{l:List Int}{ms:List MV}{i:Int}{w:World}(hn:l.length<=1000000)(h:Rd w w.heap.size 1 A l.length c (l.map (.int .i64)))(hm:m<=maxLen)(h2:RdM w w.heap.size A2 m c2 ms)(hf:fewM ms=true) :
  Calls Tryz.prog 66 #[.slice A l.length c,.slice A2 m c2,.int .i64 i] w (Tgt l ms i w):=by
 have HF:=hid hf;clear hf
 go_enter Tryz.func66,Tryz.ntmps66
 go_wp2
 go_loopw[2] (fun iv wr=>∃i':Int,iv=.int .i64 i'/\Below w.heap.size w wr/\Hid (∀t,TargetIs l ms i' t->TargetIs l ms i t)) (fun iv _=>(intOf iv+1).toNat)
 case atStart=>exact ⟨i,rfl,Below.refl _ _,fun t ht=>ht⟩
 obtain ⟨i',rfl,hb,hj⟩:=hrel
 by_cases c1:0<=i'
 ·by_cases c2:i'<(l.length:Int)
  ·have C:=aDt (by omega) (h.to hb hb.size)
   cases hr:rightP l with
   | false=>
    rw[hr] at C
    have HT:=hid (hj.out (-1) (.out (.inl hr)))
    clear hr
    go_wp2_with fail
    refine C.mono ?_
    rintro e w1 ⟨rfl,hb1⟩
    go_wp2
    go_ret
    exact ⟨-1,rfl,HT.out,hb.trans (hb1.mono hb.size)⟩
   | true=>
    rw[hr] at C
    have HR:=hid hr;clear hr
    obtain ⟨b0,o0,p,rfl,hbb,hx,g0⟩:=h.int_ (k:=i'.toNat) (by omega)
    obtain ⟨hpar,hp0,hp1⟩:=bHj HR.out c1 c2 hx
    have HP:=hid hpar
    clear hx hpar
    go_wp2_with fail
    refine C.mono ?_
    rintro e w1 ⟨rfl,hb1⟩
    have hb1w:=hb.trans (hb1.mono hb.size)
    go_wp2_with fail
    refine (aOz (i:=i') hm (h2.to hb1w hb1w.size) HF.out).mono ?_
    rintro e w4 ⟨A4,c4,f,rfl,hr4,hb4,hf4⟩
    have hb4w:=hb1w.trans (hb4.mono hb1w.size)
    have hfl:=aUf hf4 HF.out
    have g1:=(hb4w.cell (p:=⟨b0,o0+i'.toNat,none⟩) hbb).trans g0
    by_cases hfe:0<f.length
    ·obtain ⟨b4,o4,t,rfl,hb4',ht,t0⟩:=hr4.int_ (k:=f.length-1) (by omega)
     have HT:=hid (hj.out t (.here HR.out c1 c2 hf4 (bEg (n:=f.length-1) (by omega) ht)))
     have e1:((f.length:Int)-1).toNat=f.length-1:=by omega
     clear ht
     go_wp2
     go_ret
     exact ⟨t,rfl,HT.out,hb4w⟩
    have hnil:f=[]:=List.eq_nil_of_length_eq_zero (by omega)
    subst hnil
    have HT:Hid (∀t,TargetIs l ms p t->TargetIs l ms i t):=fun t ht=>hj.out t (.up HR.out c1 c2 hf4 (by rw[HP.out];exact ht))
    go_wp2
    go_roundw
    case rel=>exact ⟨p,rfl,hb4w,HT⟩
    simp[intOf];omega
  have HT:=hid (hj.out (-1) (.out (.inr (.inr (by omega)))))
  go_wp2
  go_ret
  exact ⟨-1,rfl,HT.out,hb⟩
 have HT:=hid (hj.out (-1) (.out (.inr (.inl (by omega)))))
 go_wp2
 go_ret
 exact ⟨-1,rfl,HT.out,hb⟩
def Orp (l:List Int)(ms:List MV)(w:World)(e:Ending) (w':World):Prop:=
 ∃(a b:Int) (s:Bool),e=.returned (.tuple #[.int .i64 a,.int .i64 b,.bool s])/\OrphanIs l ms a b s/\Below w.heap.size w w'
theorem no1 {l:List Int}{ms:List MV}{i:Int}(h:obsM ms i=true):∀t,¬IsOrph l ms i t:=fun t ho=>by have:=ho.2.1;rw[h] at this;cases this
theorem no2 {l:List Int}{ms:List MV}{i:Int}(h:par l i<0):∀t,¬IsOrph l ms i t:=fun t ho=>by have:=ho.1;omega
theorem no3 {l:List Int}{ms:List MV}{i:Int}(h:obsM ms (par l i)=false):∀t,¬IsOrph l ms i t:=fun t ho=>by have:=ho.2.2.1;rw[h] at this;cases this
theorem no4 {l:List Int}{ms:List MV}{i t0:Int}(h:TargetIs l ms (par l i) t0)(hs:t0=i\/above l i t0=true):∀t,¬IsOrph l ms i t:=fun t ho=>by
 have e:=ho.2.2.2.1.uniq h
 subst e
 rcases hs with hs | hs
 ·exact ho.2.2.2.2.1 hs
 have:=ho.2.2.2.2.2;rw[hs] at this;cases this
def NoneTo (l:List Int)(ms:List MV)(k:Nat):Prop:=∀j:Nat,j<k->∀t,¬IsOrph l ms j t
theorem NoneTo.step {l:List Int}{ms:List MV}{k:Nat}(h:NoneTo l ms k)(hk:∀t,¬IsOrph l ms (k:Nat) t):NoneTo l ms (k+1):=fun j hj=>by
 by_cases e:j=k
 ·subst e;exact hk
 exact h j (by omega)
theorem aYj {A A2:Option Addr}{c m c2:Nat}{l:List Int}{ms:List MV}{w:World}(hn:l.length<=1000000)(h:Rd w w.heap.size 1 A l.length c (l.map (.int .i64)))(hm:m<=maxLen)(h2:RdM w w.heap.size A2 m c2 ms)(hf:fewM ms=true) :
  Calls Tryz.prog 60 #[.slice A l.length c,.slice A2 m c2] w (Orp l ms w):=by
 have HF:=hid hf;clear hf
 go_enter Tryz.func60,Tryz.ntmps60
 go_wp2_with fail
 refine (aRk hn h hm h2).mono ?_
 rintro e w1 ⟨A3,c3,l3,rfl,hr3,hb1,hl3⟩
 have hll:l3.length<=1000000:=by rw[hl3];exact Nat.le_trans (aNl l ms) hn
 have hin3:∀x∈l3,0<=x/\x<(l.length:Int):=fun x hx=>by rw[hl3] at hx;have:=aDq.1 hx;omega
 have CO:=bEb hn hll hr3 hin3
 have HL3:=hid hl3
 clear hl3
 go_wp2_with fail
 refine CO.mono ?_
 rintro e w2 ⟨v8,W,rfl,hset,hW,hb2⟩
 have hb12:=hb1.trans (hb2.mono hb1.size)
 have C:=aDh (by omega) (h.to hb12 hb12.size)
 clear CO hr3 hin3 hll
 cases hr:rightP l with
 | false=>
  rw[hr] at C
  have HR:=hid hr;clear hr
  go_wp2_with fail
  refine C.mono ?_
  rintro e w3 ⟨rfl,hb3⟩
  go_wp2
  go_ret3
  exact ⟨-1,-1,false,rfl,.none_ (fun h=>by rw[HR.out] at h;cases h),hb12.trans (hb3.mono hb12.size)⟩
 | true=>
  rw[hr] at C
  have HR:=hid hr;clear hr
  have hWW:∀i:Nat,i<l.length->W.testBit i=!obsM ms i:=fun i hi=>by
   rw[hW i hi]
   cases ho:obsM ms i with
   | true=>exact decide_eq_false fun hx=>by rw[HL3.out,aDq] at hx;rw[hx.2.2.2] at ho;cases ho
   | false=>exact decide_eq_true (by rw[HL3.out];exact aDq.2 ⟨HR.out,by omega,by omega,ho⟩)
  have HWW:=hid hWW
  clear hWW hW HL3
  go_wp2_with fail
  refine C.mono ?_
  rintro e w3 ⟨rfl,hb3⟩
  have hb13:=hb12.trans (hb3.mono hb12.size)
  have hset3:=hset.below hb3
  have hbs:=hb1.size
  clear hset C hb12 hb3 hb2
  go_wp2
  go_loopw[24] (fun kv wr=>∃k:Nat,k<=l.length/\kv=.int .i64 k/\Below w.heap.size w wr/\SetW wr w1.heap.size v8 l.length W/\Hid (NoneTo l ms k)) (fun kv _=>l.length-(intOf kv).toNat)
  case atStart=>exact ⟨0,Nat.zero_le _,rfl,hb13,hset3,fun j hj=>absurd hj (Nat.not_lt_zero _)⟩
  clear hset3 hb13
  obtain ⟨k,hk,rfl,hb,hset,hj⟩:=hrel
  by_cases hlt:k<l.length
  ·obtain ⟨b0,o0,p,rfl,hbb,hx,g0⟩:=h.int_ hlt
   have g1:=(hb.cell (p:=⟨b0,o0+k,none⟩) hbb).trans g0
   have hpar:=aDu hx
   have hp:=aBb HR.out (i:=(k:Int)) (by omega) (by omega)
   rw[hpar] at hp
   obtain ⟨hp0,hp1⟩:=hp
   have HP:=hid hpar
   clear hx hpar
   have C5:=aLm (i:=k) hn hlt hset
   rw[HWW.out k hlt] at C5
   cases ho:obsM ms k with
   | true=>
    rw[ho] at C5
    have HN:=hid (hj.out.step (no1 ho))
    clear ho
    go_wp2_with fail
    refine C5.mono ?_
    rintro e w4 ⟨rfl,hb4⟩
    go_wp2
    go_roundw
    case rel=>exact ⟨k+1,by omega,by go_num,hb.trans (hb4.mono hb.size),hset.below hb4,HN⟩
    simp[intOf];omega
   | false=>
    rw[ho] at C5
    have HO:=hid ho
    clear ho
    go_wp2_with fail
    refine C5.mono ?_
    rintro e w4 ⟨rfl,hb4⟩
    have hb4w:=hb.trans (hb4.mono hb.size)
    have hset4:=hset.below hb4
    clear hset C5
    by_cases hpn:p<0
    ·have HN:=hid (hj.out.step (no2 (by rw[HP.out];exact hpn)))
     go_wp2
     go_roundw
     case rel=>exact ⟨k+1,by omega,by go_num,hb4w,hset4,HN⟩
     simp[intOf];omega
    obtain ⟨q,hq⟩:∃q:Nat,p=(q:Int):=⟨p.toNat,by omega⟩
    subst hq
    have C6:=aLm (i:=q) hn (by omega) hset4
    rw[HWW.out q (by omega)] at C6
    cases hop:obsM ms q with
    | false=>
     rw[hop] at C6
     have HN:=hid (hj.out.step (no3 (by rw[HP.out];exact hop)))
     clear hop
     go_wp2_with fail
     refine C6.mono ?_
     rintro e w5 ⟨rfl,hb5⟩
     go_wp2
     go_roundw
     case rel=>exact ⟨k+1,by omega,by go_num,hb4w.trans (hb5.mono hb4w.size),hset4.below hb5,HN⟩
     simp[intOf];omega
    | true=>
     rw[hop] at C6
     have HOP:=hid hop
     clear hop
     go_wp2_with fail
     refine C6.mono ?_
     rintro e w5 ⟨rfl,hb5⟩
     have hb5w:=hb4w.trans (hb5.mono hb4w.size)
     have hset5:=hset4.below hb5
     clear C6 hset4
     go_wp2_with fail
     refine (bAg (i:=(q:Int)) hn (h.to hb5w hb5w.size) hm (h2.to hb5w hb5w.size) HF.out).mono ?_
     rintro e w6 ⟨t,rfl,ht,hb6⟩
     have hb6w:=hb5w.trans (hb6.mono hb5w.size)
     have hset6:=hset5.below hb6
     have HT:Hid (TargetIs l ms (par l k) t):=by rw[Hid,HP.out];exact ht
     clear ht hset5
     by_cases hkt:(k:Int)=t
     ·have HN:=hid (hj.out.step (no4 HT.out (.inl hkt.symm)))
      subst hkt
      go_wp2
      go_roundw
      case rel=>exact ⟨k+1,by omega,by go_num,hb6w,hset6,HN⟩
      simp[intOf];omega
     obtain ⟨e1,e2⟩:=aFl hkt
     have C7:=aOr (a:=(k:Int)) (b:=t) (by omega) (h.to hb6w hb6w.size)
     cases hab:above l k t with
     | true=>
      rw[hab] at C7
      have HN:=hid (hj.out.step (no4 HT.out (.inr hab)))
      clear hab
      go_wp2_with fail
      refine C7.mono ?_
      rintro e w7 ⟨rfl,hb7⟩
      go_wp2
      go_roundw
      case rel=>exact ⟨k+1,by omega,by go_num,hb6w.trans (hb7.mono hb6w.size),hset6.below hb7,HN⟩
      simp[intOf];omega
     | false=>
      rw[hab] at C7
      have HAb:=hid hab
      clear hab
      go_wp2_with fail
      refine C7.mono ?_
      rintro e w7 ⟨rfl,hb7⟩
      go_wp2
      go_ret3
      exact ⟨k,t,true,rfl,.some_ HR.out hlt ⟨by rw[HP.out];omega,HO.out,by rw[HP.out];exact HOP.out,HT.out,fun e=>hkt e.symm,HAb.out⟩ hj.out,hb6w.trans (hb7.mono hb6w.size)⟩
  have hkn:k=l.length:=by omega
  subst hkn
  go_wp2
  go_ret3
  exact ⟨-1,-1,false,rfl,.none_ fun _ i hi=>hj.out i hi,hb⟩
theorem aMp {A A2:Option Addr}{c m c2:Nat}{l:List Int}{ms:List MV}{w:World}(hn:l.length<=1000000)(h:Rd w w.heap.size 1 A l.length c (l.map (.int .i64)))(hm:m<=maxLen)(h2:RdM w w.heap.size A2 m c2 ms)(hf:fewM ms=true) :
  Calls Tryz.prog 30 #[.slice A l.length c,.slice A2 m c2] w (Orp l ms w):=by
 have HF:=hid hf;clear hf
 go_enter Tryz.func30,Tryz.ntmps30
 go_wp2
 go_loopw[7] (fun kv wr=>∃k:Nat,k<=l.length/\kv=.int .i64 k/\Below w.heap.size w wr/\Hid (NoneTo l ms k)) (fun kv _=>l.length-(intOf kv).toNat)
 case atStart=>exact ⟨0,Nat.zero_le _,rfl,Below.refl _ _,fun j hj=>absurd hj (Nat.not_lt_zero _)⟩
 obtain ⟨k,hk,rfl,hb,hj⟩:=hrel
 by_cases hlt:k<l.length
 ·have C:=aDt (by omega) (h.to hb hb.size)
  cases hr:rightP l with
  | false=>
   rw[hr] at C
   have HR:=hid hr;clear hr
   go_wp2_with fail
   refine C.mono ?_
   rintro e w3 ⟨rfl,hb3⟩
   go_wp2
   go_ret3
   exact ⟨-1,-1,false,rfl,.none_ (fun h=>by rw[HR.out] at h;cases h),hb.trans (hb3.mono hb.size)⟩
  | true=>
   rw[hr] at C
   have HR:=hid hr;clear hr
   obtain ⟨b0,o0,p,rfl,hbb,hx,g0⟩:=h.int_ hlt
   have hpar:=aDu hx
   have hp:=aBb HR.out (i:=(k:Int)) (by omega) (by omega)
   rw[hpar] at hp
   obtain ⟨hp0,hp1⟩:=hp
   have HP:=hid hpar
   clear hx hpar
   go_wp2_with fail
   refine C.mono ?_
   rintro e w3 ⟨rfl,hb3⟩
   have hb3w:=hb.trans (hb3.mono hb.size)
   have g1:=(hb3w.cell (p:=⟨b0,o0+k,none⟩) hbb).trans g0
   clear C
   by_cases hpn:p<0
   ·have HN:=hid (hj.out.step (no2 (by rw[HP.out];exact hpn)))
    go_wp2
    go_roundw
    case rel=>exact ⟨k+1,by omega,by go_num,hb3w,HN⟩
    simp[intOf];omega
   have C5:=aDz (x:=(k:Int)) hm (h2.to hb3w hb3w.size)
   cases ho:obsM ms k with
   | true=>
    rw[ho] at C5
    have HN:=hid (hj.out.step (no1 ho))
    clear ho
    go_wp2_with fail
    refine C5.mono ?_
    rintro e w4 ⟨rfl,hb4⟩
    go_wp2
    go_roundw
    case rel=>exact ⟨k+1,by omega,by go_num,hb3w.trans (hb4.mono hb3w.size),HN⟩
    simp[intOf];omega
   | false=>
    rw[ho] at C5
    have HO:=hid ho
    clear ho
    go_wp2_with fail
    refine C5.mono ?_
    rintro e w4 ⟨rfl,hb4⟩
    have hb4w:=hb3w.trans (hb4.mono hb3w.size)
    have C6:=aDz (x:=p) hm (h2.to hb4w hb4w.size)
    clear C5
    cases hop:obsM ms p with
    | false=>
     rw[hop] at C6
     have HN:=hid (hj.out.step (no3 (by rw[HP.out];exact hop)))
     clear hop
     go_wp2_with fail
     refine C6.mono ?_
     rintro e w5 ⟨rfl,hb5⟩
     go_wp2
     go_roundw
     case rel=>exact ⟨k+1,by omega,by go_num,hb4w.trans (hb5.mono hb4w.size),HN⟩
     simp[intOf];omega
    | true=>
     rw[hop] at C6
     have HOP:=hid hop
     clear hop
     go_wp2_with fail
     refine C6.mono ?_
     rintro e w5 ⟨rfl,hb5⟩
     have hb5w:=hb4w.trans (hb5.mono hb4w.size)
     clear C6
     go_wp2_with fail
     refine (aUi (i:=p) hn (h.to hb5w hb5w.size) hm (h2.to hb5w hb5w.size) HF.out).mono ?_
     rintro e w6 ⟨t,rfl,ht,hb6⟩
     have hb6w:=hb5w.trans (hb6.mono hb5w.size)
     have HT:Hid (TargetIs l ms (par l k) t):=by rw[Hid,HP.out];exact ht
     clear ht
     by_cases hkt:t=(k:Int)
     ·have HN:=hid (hj.out.step (no4 HT.out (.inl hkt)))
      subst hkt
      go_wp2
      go_roundw
      case rel=>exact ⟨k+1,by omega,by go_num,hb6w,HN⟩
      simp[intOf];omega
     obtain ⟨e1,e2⟩:=aFl hkt
     have C7:=aYz (a:=(k:Int)) (b:=t) (by omega) (h.to hb6w hb6w.size)
     cases hab:above l k t with
     | true=>
      rw[hab] at C7
      have HN:=hid (hj.out.step (no4 HT.out (.inr hab)))
      clear hab
      go_wp2_with fail
      refine C7.mono ?_
      rintro e w7 ⟨rfl,hb7⟩
      go_wp2
      go_roundw
      case rel=>exact ⟨k+1,by omega,by go_num,hb6w.trans (hb7.mono hb6w.size),HN⟩
      simp[intOf];omega
     | false=>
      rw[hab] at C7
      have HAb:=hid hab
      clear hab
      go_wp2_with fail
      refine C7.mono ?_
      rintro e w7 ⟨rfl,hb7⟩
      go_wp2
      go_ret3
      exact ⟨k,t,true,rfl,.some_ HR.out hlt ⟨by rw[HP.out];omega,HO.out,by rw[HP.out];exact HOP.out,HT.out,hkt,HAb.out⟩ hj.out,hb6w.trans (hb7.mono hb6w.size)⟩
 have hkn:k=l.length:=by omega
 subst hkn
 go_wp2
 go_ret3
 exact ⟨-1,-1,false,rfl,.none_ fun _ i hi=>hj.out i hi,hb⟩
end Go.Proofs.YtohblmepajhpaaaGreatDoor
