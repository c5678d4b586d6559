/- Contracts of functions that the law reaches, and plain laws of what they compute. -/
import Derived.Shelf.SlGeneric
import Derived.Shelf.SlIterI.Nil
import Derived.Shelf.SortM.Plain
import Derived.Shelf.SortM.SortNone
import Derived.Test.YtohblmepajhpaaaGreatDoorRows
import Derived.Test.YtohblmepajhpaaaGreatDoorG25
set_option maxHeartbeats 8000000
set_option maxRecDepth 100000
open Go.Lib (hid)
namespace Go.Proofs.YtohblmepajhpaaaGreatDoor
open Go.RowKit
theorem aKs (w:World)(x:Int):(Instr.build 203 #[(0,.int .i64 x)]).run Tryz.prog w=.ok (.agg #[.int .i64 x]) w:=by
 go_simp
def Made (ms:List MV)(w:World)(e:Ending) (w':World):Prop:=
 ∃(F:Int->Value) (D:DataW Value),e=.returned (.map (some w.heap.size))/\Mp w' w.heap.size w.heap.size ms F D/\Below w.heap.size w w'
theorem bDf {A:Option Addr}{n c:Nat}{ms:List MV}{w:World}(hn:n<=maxLen)(h:RdM w w.heap.size A n c ms)(hf:fewM ms=true) :
  Calls Tryz.prog 144 #[.slice A n c] w (Made ms w):=by
 unfold maxLen at hn
 have HL:=hid h.len
 obtain ⟨F1,F2⟩:=aMr hf
 have hmm:=@run_makeMap Tryz.prog
 go_enter Tryz.func144,Tryz.ntmps144
 go_wp2
 go_loopw[9] (fun i wr=>∃(k:Nat) (F:Int->Value) (D:DataW Value),k<=n/\i=.int .i64 k/\Below w.heap.size w wr/\Mp wr w.heap.size w.heap.size (ms.take k) F D) (fun i _=>n-(intOf i).toNat)
 case atStart=>exact ⟨0,_,_,Nat.zero_le _,rfl,(Below.refl _ _).alloc (Nat.le_refl _) _,by rw[List.take_zero];exact Mp.start w⟩
 obtain ⟨k,F,D,hk,rfl,hb,ho⟩:=hrel
 by_cases hlt:k<n
 ·obtain ⟨b0,o0,u,rfl,hbb,hx,hu,h0,h1⟩:=h.get hlt
  replace h0:=(hb.cell hbb).trans h0
  replace h1:=(hb.cell hbb).trans h1
  have HX:=hid hx;clear hx
  obtain ⟨hrd,hnl,hio,_⟩:=h.parts u hu
  have hul:=F1 u hu
  have hle:=aKz u.old fun m hm=>F1 m (List.mem_of_mem_take (i:=k) hm)
  have hkl:(ms.take k).length<=2100:=by rw[List.length_take];omega
  clear hmm
  go_wp2
  have hbE:=hb.alloc hb.size (.cells #[.int .i64 u.old,.slice u.A u.new.length u.c] 43)
  have hcell:(wr.alloc (.cells #[.int .i64 u.old,.slice u.A u.new.length u.c] 43)).heap[wr.heap.size]? = some (.cells #[.int .i64 u.old,.slice u.A u.new.length u.c] 43 (0,0)):=heap_alloc_new _ _
  have hME:=ho.below (w':=(wr.alloc (.cells #[.int .i64 u.old,.slice u.A u.new.length u.c] 43)).drew) ((Below.refl _ _).alloc (Nat.le_refl _) _).drew
  have hlt3:w.heap.size<wr.heap.size:=ho.own.lt
  have hFn:(F u.old).ownBlock≠some wr.heap.size:=fun e=>by have:=((ho.row u.old).lt _ e).2;omega
  have hbD:=hbE.drew
  have hsz:w.heap.size<=(wr.alloc (.cells #[.int .i64 u.old,.slice u.A u.new.length u.c] 43)).drew.heap.size:=by have:=hb.size;simp;omega
  have hrdD:Rd (wr.alloc (.cells #[.int .i64 u.old,.slice u.A u.new.length u.c] 43)).drew w.heap.size 1 u.A u.new.length u.c (u.new.map (.int .i64)):=hrd.below hbD
  refine aAs (fun v=>v.heap[wr.heap.size]? = some (.cells #[.int .i64 u.old,.slice u.A u.new.length u.c] 43 (0,0))) (.q 0 (.q 1 (.q 2 (.b 3 (.q 4 (.q 5 (.q 6 (.b 7 (.q 9 (.q 10 (.one 8 (.one 11 (.one 12 .leaf))))))))))))) mixed (by kernel_rfl) hcell ?_
  intro T M Q hT hT' hM hQ
  have m0:M ⟨wr.heap.size,0,none⟩=some (.int .i64 u.old):=hM _ _ fun w' hw=>by rw[cell_of_row w' _ _ _ _ _ hw];rfl
  have m1:M ⟨wr.heap.size,1,none⟩=some (.slice u.A u.new.length u.c):=hM _ _ fun w' hw=>by rw[cell_of_row w' _ _ _ _ _ hw];rfl
  clear hM
  refine aCj ?_
  intro O hO
  have t0:=hO true 0
  have t1:=hO true 1
  have t2:=hO true 2
  have t3:=hO true 3
  have t4:=hO true 4
  have t5:=hO true 5
  have t6:=hO true 6
  have t7:=hO true 7
  have t9:=hO true 9
  have t10:=hO true 10
  have e8:=hO false 8
  have e11:=hO false 11
  have e12:=hO false 12
  simp only[qcmp] at t0 t1 t2 t3 t4 t5 t6 t7 t9 t10 e8 e11 e12
  clear hO
  simp (maxSteps:=9^7) only[↓wt_q,↓wt_b,t0,t1,t2,t3,↓qpre,aAb,aAe,aAc,m0]
  refine aBj rfl (fun w=>aKs w _) ?_
  simp (maxSteps:=9^7) only[↓wt_q,↓wt_b,t4,t5,t6,t7,↓qpre,aAb,aAe,aAc,m0]
  refine aBj rfl (fun w=>aKs w _) ?_
  simp (maxSteps:=9^7) only[↓wt_q,↓aAj,t9,t10,e8,↓qpre,aAb,aAe,aAc,m1]
  have hcD:(wr.alloc (.cells #[.int .i64 u.old,.slice u.A u.new.length u.c] 43)).drew.heap[wr.heap.size]? = some (.cells #[.int .i64 u.old,.slice u.A u.new.length u.c] 43 (0,0)):=hcell
  have hat:=ho.at_ u.old hio
  clear hcell hbE m0 m1 t0 t1 t2 t3 t4 t5 t6 t7 t9 t10 h0 h1 ho hb hrd h hbb
  generalize (wr.alloc (.cells #[.int .i64 u.old,.slice u.A u.new.length u.c] 43)).drew=w1 at *
  obtain ⟨v,ps,hrun,hv⟩:=hME.own.lookup Kold Tryz.underlying198 (Tryz.zeroValue36 w1) (zd:=.held (.slice none 0 0)) (zp:=[]) rfl (keyOld hio)
  have hvF:v=F u.old:=by
   rw[hat] at hv
   simp only[Rv,Option.some.injEq,Prod.mk.injEq] at hv
   exact aEc hv.1
  subst hvF
  refine aYm rfl rfl hrun ⟨hT _ hcD,?_⟩
  simp (maxSteps:=9^7) only[↓aAj,e11,aAb,aAc]
  refine aAm E28 rfl rfl (hME.row u.old) hrdD (aAq _) (by simp only[maxLen];omega) (by omega) hsz ?_
  intro v' w2 ho2 hg2 hv2
  have hcD2:=(hg2.block wr.heap.size ((Array.getElem?_eq_some_iff.1 hcD).1) (Ne.symm hFn)).trans hcD
  have hown2:=hME.own.kept hg2 (Ne.symm (hME.nb u.old))
  obtain ⟨w3,hrun3,hown3,hg3⟩:=hown2.update Kold Tryz.underlying198 (by rw[List.length_take];unfold maxLen;omega) (keyOld hio) (d:=.held v') (ps:=[]) rfl (val:=v')
  have hcD3:=(hg3.block wr.heap.size ((Array.getElem?_eq_some_iff.1 hcD2).1) (by intro e;injection e with e;omega)).trans hcD2
  have hb2:=hbD.grown hg2 hsz (fun g hg=>((hME.row u.old).lt g hg).1)
  have hb3:=hb2.grown hg3 hb2.size (fun g hg=>by injection hg with hg;omega)
  have hM3:=hME.step hio ho2 hg2 hv2 hown3 hg3
  refine ⟨hT _ hcD2,?_⟩
  simp (maxSteps:=9^7) only[↓aAj,e12,aAb,aAc]
  refine eff_mapUpdate rfl rfl rfl hrun3 ⟨hT _ hcD3,?_⟩
  simp (maxSteps:=9^7) only[↓aBy,aAb]
  refine hQ _ _ ?_
  clear hQ hT hT' e8 e11 e12 hrun hrun3
  have HB:=hid hb3
  have HM:=hid hM3
  clear hb3 hM3 hME hown2 hown3 ho2 hg2 hg3 hcD hcD2 hcD3 hb2
  go_wp2
  go_roundw
  case rel=>
   refine ⟨k+1,(fun x=>if x=u.old then v' else F x),D.put (klO u.old) (.held v'),by omega,by go_num,HB.out,?_⟩
   rw[List.take_add_one,HX.out,Option.toList_some]
   exact HM.out
  simp[intOf];omega
 have hkn:k=n:=by omega
 subst hkn
 rw[List.take_of_length_le (by rw[HL.out];omega)] at ho
 go_wp2
 go_ret
 exact ⟨F,D,rfl,ho,hb⟩
def OutIs (base:Nat)(Q:List Int->Prop)(w:World)(v:Value):Prop:=
 ∃(A:Option Addr) (c:Nat) (l:List Int),v=.slice A l.length c/\Rd w w.heap.size 1 A l.length c (l.map (.int .i64))/\Q l/\∀a,A=some a->base<=a.block
theorem OutIs.nil (base:Nat)(w:World){Q:List Int->Prop}(h:Q []):OutIs base Q w (.slice none 0 0):=⟨none,0,[],rfl,Rd.none_ _ _ _,h,fun a ha=>by cases ha⟩
theorem OutIs.imp {base:Nat} {Q Q':List Int->Prop}{w:World}{v:Value}(h:OutIs base Q w v)(hi:∀l,Q l->Q' l):OutIs base Q' w v:=by
 obtain ⟨A,c,l,rfl,hr,hq,ha⟩:=h
 exact ⟨A,c,l,rfl,hr,hi l hq,ha⟩
def PartIs (ms:List MV)(k:Nat)(x:Int)(u:MV)(j:Nat)(l:List Int):Prop:=
 l.Pairwise (·<·)/\∀y,y∈l↔y∈nexts (ms.take k) x\/(u.old=x/\y∈u.new.take j)
theorem aCt {l:List Int}(h:l.Pairwise (·<·)):l.Nodup:=h.imp fun h e=>by omega
theorem aQo {ms:List MV}{x y:Int}{k:Nat}(h:y∈nexts (ms.take k) x):y∈nexts ms x:=by
 obtain ⟨m,hm,h⟩:=aNb.1 h
 exact aNb.2 ⟨m,List.mem_of_mem_take hm,h⟩
theorem PartIs.le {ms:List MV}{k j:Nat}{x:Int}{u:MV}{l:List Int}(h:PartIs ms k x u j l)(hu:u∈ms)(hf:fewM ms=true):l.length<=25200:=by
 obtain ⟨F1,F2⟩:=aMr hf
 have:=aKz x F1
 refine Nat.le_trans (aDa (u:=nexts ms x) (aCt h.1) fun y hy=>?_) (by omega)
 rcases (h.2 y).1 hy with h | ⟨h1,h2⟩
 ·exact aQo h
 exact aNb.2 ⟨u,hu,h1,List.mem_of_mem_take h2⟩
theorem PartIs.start {ms:List MV}{k:Nat}{x:Int}{u:MV}{l:List Int}(h:NextIs (ms.take k) x l):PartIs ms k x u 0 l:=
 ⟨h.sorted,fun y=>by rw[h.mem];simp⟩
theorem PartIs.add {ms:List MV}{k j:Nat}{x y:Int}{u:MV} {l l':List Int}(h:PartIs ms k x u j l)(hy:u.new[j]? = some y)(he:u.old=x)(ha:AddIs l y l'):PartIs ms k x u (j+1) l':=by
 refine ⟨ha.sorted h.1,fun z=>?_⟩
 rw[ha.mem,h.2,List.take_add_one,hy,Option.toList_some,List.mem_append,List.mem_singleton]
 constructor
 ·rintro ((h | ⟨h1,h2⟩) | rfl)
  ·exact .inl h
  ·exact .inr ⟨h1,.inl h2⟩
  exact .inr ⟨he,.inr rfl⟩
 rintro (h | ⟨h1,h2 | rfl⟩)
 ·exact .inl (.inl h)
 ·exact .inl (.inr ⟨h1,h2⟩)
 exact .inr rfl
theorem PartIs.stop {ms:List MV}{k j:Nat}{x:Int}{u:MV}{l:List Int}(h:PartIs ms k x u j l)(hx:ms[k]? = some u)(hj:u.old=x->u.new.length<=j):NextIs (ms.take (k+1)) x l:=by
 refine ⟨h.1,fun y=>?_⟩
 rw[h.2,List.take_add_one,hx,Option.toList_some,aNu]
 by_cases he:u.old=x
 ·rw[if_pos he,List.mem_append,List.take_of_length_le (hj he)]
  simp[he]
 rw[if_neg he];simp[he]
theorem aMg {A:Option Addr}{n c:Nat}{ms:List MV}{x:Int}{w:World}(hn:n<=maxLen)(h:RdM w w.heap.size A n c ms)(hf:fewM ms=true) :
  Calls Tryz.prog 68 #[.slice A n c,.int .i64 x] w (IntsF none 0 (fun l=>NextIs ms x l/\l.length<=25200) w):=by
 unfold maxLen at hn
 have HL:=hid h.len
 have HF:=hid hf
 obtain ⟨F1,F2⟩:=aMr hf
 clear hf
 go_enter Tryz.func68,Tryz.ntmps68
 go_wp2
 go_loopw[5,6,7] (fun o i _ wr=>∃k:Nat,k<=n/\i=.int .i64 k/\Below w.heap.size w wr/\OutIs w.heap.size (NextIs (ms.take k) x) wr o) (fun _ i _ _=>n-(intOf i).toNat)
 case atStart=>exact ⟨0,Nat.zero_le _,rfl,Below.refl _ _,OutIs.nil _ _ ⟨by simp,by rw[List.take_zero];simp[nexts]⟩⟩
 obtain ⟨k,hk,rfl,hb,ho⟩:=hrel
 by_cases hlt:k<n
 ·obtain ⟨b0,o0,u,rfl,hbb,hx,hu,h0,h1⟩:=h.get hlt
  have h00:=h0;have h10:=h1
  clear h0 h1
  have HX:=hid hx;clear hx
  obtain ⟨hrd,hnl,_,_⟩:=h.parts u hu
  have hul:=F1 u hu
  have ho':=ho.imp (Q':=PartIs ms k x u 0) fun l hl=>PartIs.start hl
  clear ho
  go_wp2
  go_loopw[5,7] (fun o i wr=>∃j:Nat,j<=u.new.length/\i=.int .i64 j/\Below w.heap.size w wr/\OutIs w.heap.size (PartIs ms k x u j) wr o) (fun _ i _=>u.new.length-(intOf i).toNat)
  case atStart=>exact ⟨0,Nat.zero_le _,rfl,hb,ho'⟩
  obtain ⟨j,hjl,rfl,hb2,ho2⟩:=hrel
  have h0:=(hb2.cell hbb).trans h00
  have h1:=(hb2.cell hbb).trans h10
  by_cases hlt2:j<u.new.length
  ·by_cases he:u.old=x
   ·subst he
    obtain ⟨b1,o1,y,eA,hb1,hx2,g0⟩:=hrd.int_ hlt2
    replace g0:=(hb2.cell hb1).trans g0
    rw[eA] at h1
    have HX2:=hid hx2;clear hx2
    obtain ⟨A2,c2,l2,rfl,hr2,hp2,hA2⟩:=ho2
    have hle:=PartIs.le hp2 hu HF.out
    go_wp2_with (go_at_call 69;refine (aQk (by omega) hr2).mono ?_;rintro e w3 ⟨A3,c3,l3,rfl,hr3,hb3,ha3,hA3⟩)
    go_roundw
    case rel=>exact ⟨j+1,by omega,by go_num,hb2.trans (hb3.mono hb2.size),A3,c3,l3,rfl,hr3,PartIs.add hp2 HX2.out rfl ha3,fun a ha=>by
     rcases hA3 a ha with e | e
     ·exact hA2 a (e.1▸ha)
     exact Nat.le_trans hb2.size e⟩
    simp[intOf];omega
   obtain ⟨e1,_⟩:=aFl he
   go_wp2
   go_roundw
   case rel=>exact ⟨k+1,by omega,by go_num,hb2,ho2.imp fun l hl=>hl.stop HX.out (fun e=>absurd e he)⟩
   simp[intOf];omega
  go_wp2
  go_roundw
  case rel=>exact ⟨k+1,by omega,by go_num,hb2,ho2.imp fun l hl=>hl.stop HX.out (fun e=>by omega)⟩
  simp[intOf];omega
 have hkn:k=n:=by omega
 subst hkn
 rw[List.take_of_length_le (by rw[HL.out];omega)] at ho
 go_wp2
 go_ret
 obtain ⟨A2,c2,l2,rfl,hr2,hp2,hA2⟩:=ho
 refine ⟨A2,c2,l2,rfl,hr2,hb,⟨hp2,?_⟩,fun a ha=>.inr (hA2 a ha)⟩
 have:=aKz x F1
 exact Nat.le_trans (aDa (u:=nexts ms x) (aCt hp2.sorted) fun y hy=>(hp2.mem y).1 hy) (by omega)
end Go.Proofs.YtohblmepajhpaaaGreatDoor
namespace Go.Proofs.YtohblmepajhpaaaGreatDoor
open Go.Shelf
def Tryz.keys_ren:Go.Shelf.Ren:=⟨fun | 7=>146 | 10=>167 | n=>n,fun | 23=>200 | 26=>3 | 3=>4 | 28=>206 | 0=>0 | 27=>205 | 33=>149 | 4=>4 | n=>n,fun | n=>n⟩
theorem Tryz.keys:Go.Proofs.SlLaysZI.n7 Tryz.prog Tryz.keys_ren:={
 mixed:=by kernel_rfl
 f7:=⟨Tryz.f146.name,by decide,Tryz.func146.trans (congrArg some (by kernel_rfl))⟩
 f10:=⟨Tryz.f167.name,by decide,Tryz.func167.trans (congrArg some (by kernel_rfl))⟩
 t0:=Tryz.underlying0
 a0:=Tryz.isAgg0
 z0:=Tryz.sizeOf0
 v0:=Tryz.zeroValue0
 t4:=Tryz.underlying4
 a4:=Tryz.isAgg4
 z4:=Tryz.sizeOf4
 v4:=Tryz.zeroValue4
 t23:=Tryz.underlying200
 a23:=Tryz.isAgg200
 z23:=Tryz.sizeOf200
 v23:=Tryz.zeroValue200
 t26:=Tryz.underlying3
 a26:=Tryz.isAgg3
 z26:=Tryz.sizeOf3
 v26:=Tryz.zeroValue3
 t27:=Tryz.underlying205
 a27:=Tryz.isAgg205
 z27:=Tryz.sizeOf205
 v27:=Tryz.zeroValue205
 t28:=Tryz.underlying206
 a28:=Tryz.isAgg206
 z28:=Tryz.sizeOf206
 v28:=Tryz.zeroValue206
 t33:=Tryz.underlying149
 a33:=Tryz.isAgg149
 z33:=Tryz.sizeOf149
 v33:=Tryz.zeroValue149 }
def Tryz.sorted_ren:Go.Shelf.Ren:=⟨fun | 6=>145 | 8=>165 | 9=>166 | 11=>201 | 13=>160 | 12=>202 | 23=>197 | 24=>198 | 14=>233 | 15=>234 | 16=>235 | 17=>236 | 18=>237 | 19=>238 | 20=>239 | 21=>240 | 22=>241 | 25=>271 | 26=>228 | 27=>229 | 28=>272 | 29=>273 | 30=>212 | 31=>292 | n=>n,fun | 26=>3 | 28=>206 | 24=>36 | 0=>0 | 3=>3 | 37=>28 | 48=>257 | 50=>166 | 4=>4 | 40=>251 | 39=>250 | 45=>123 | 5=>5 | 9=>9 | 51=>289 | 55=>293 | 57=>315 | 58=>316 | 33=>149 | n=>n,fun | n=>n⟩
theorem Tryz.sorted:Go.Proofs.SlLaysZI.n6 Tryz.prog Tryz.sorted_ren:={
 mixed:=by kernel_rfl
 f6:=⟨Tryz.f145.name,by decide,Tryz.func145.trans (congrArg some (by kernel_rfl))⟩
 f8:=⟨Tryz.f165.name,by decide,Tryz.func165.trans (congrArg some (by kernel_rfl))⟩
 f11:=⟨Tryz.f201.name,by decide,Tryz.func201.trans (congrArg some (by kernel_rfl))⟩
 t0:=Tryz.underlying0
 a0:=Tryz.isAgg0
 z0:=Tryz.sizeOf0
 v0:=Tryz.zeroValue0
 t24:=Tryz.underlying36
 a24:=Tryz.isAgg36
 z24:=Tryz.sizeOf36
 v24:=Tryz.zeroValue36
 t26:=Tryz.underlying3
 a26:=Tryz.isAgg3
 z26:=Tryz.sizeOf3
 v26:=Tryz.zeroValue3
 t28:=Tryz.underlying206
 a28:=Tryz.isAgg206
 z28:=Tryz.sizeOf206
 v28:=Tryz.zeroValue206
 i26:=by kernel_rfl }
def Tryz.sort_ren:Go.Shelf.Ren:=⟨fun | 5=>166 | 8=>160 | 7=>202 | 19=>197 | 20=>198 | 10=>233 | 11=>234 | 12=>235 | 13=>236 | 14=>237 | 15=>238 | 16=>239 | 17=>240 | 18=>241 | 30=>271 | 31=>228 | 32=>229 | 33=>272 | 34=>273 | 35=>212 | 40=>292 | n=>n,fun | 23=>36 | 25=>3 | 3=>3 | 32=>28 | 22=>36 | 0=>0 | 44=>257 | 46=>166 | 4=>4 | 36=>251 | 35=>250 | 41=>123 | 5=>5 | 9=>9 | 53=>289 | 57=>293 | 63=>315 | 64=>316 | n=>n,fun | n=>n⟩
theorem Tryz.sort:Go.Proofs.SlLaysM.n5 Tryz.prog Tryz.sort_ren:={
 mixed:=by kernel_rfl
 f5:=⟨Tryz.f166.name,by decide,Tryz.func166.trans (congrArg some (by kernel_rfl))⟩
 f7:=⟨Tryz.f202.name,by decide,Tryz.func202.trans (congrArg some (by kernel_rfl))⟩
 f8:=Tryz.func160.trans (congrArg some (by kernel_rfl))
 f10:=⟨Tryz.f233.name,by decide,Tryz.func233.trans (congrArg some (by kernel_rfl))⟩
 f11:=⟨Tryz.f234.name,by decide,Tryz.func234.trans (congrArg some (by kernel_rfl))⟩
 f12:=⟨Tryz.f235.name,by decide,Tryz.func235.trans (congrArg some (by kernel_rfl))⟩
 f13:=⟨Tryz.f236.name,by decide,Tryz.func236.trans (congrArg some (by kernel_rfl))⟩
 f14:=⟨Tryz.f237.name,by decide,Tryz.func237.trans (congrArg some (by kernel_rfl))⟩
 f15:=⟨Tryz.f238.name,by decide,Tryz.func238.trans (congrArg some (by kernel_rfl))⟩
 f16:=⟨Tryz.f239.name,by decide,Tryz.func239.trans (congrArg some (by kernel_rfl))⟩
 f17:=⟨Tryz.f240.name,by decide,Tryz.func240.trans (congrArg some (by kernel_rfl))⟩
 f18:=⟨Tryz.f241.name,by decide,Tryz.func241.trans (congrArg some (by kernel_rfl))⟩
 f19:=Tryz.func197.trans (congrArg some (by kernel_rfl))
 f20:=Tryz.func198.trans (congrArg some (by kernel_rfl))
 f30:=⟨Tryz.f271.name,by decide,Tryz.func271.trans (congrArg some (by kernel_rfl))⟩
 f31:=Tryz.func228.trans (congrArg some (by kernel_rfl))
 f32:=Tryz.func229.trans (congrArg some (by kernel_rfl))
 f33:=⟨Tryz.f272.name,by decide,Tryz.func272.trans (congrArg some (by kernel_rfl))⟩
 f34:=⟨Tryz.f273.name,by decide,Tryz.func273.trans (congrArg some (by kernel_rfl))⟩
 f35:=⟨Tryz.f212.name,by decide,Tryz.func212.trans (congrArg some (by kernel_rfl))⟩
 f40:=⟨Tryz.f292.name,by decide,Tryz.func292.trans (congrArg some (by kernel_rfl))⟩
 t0:=Tryz.underlying0
 a0:=Tryz.isAgg0
 z0:=Tryz.sizeOf0
 v0:=Tryz.zeroValue0
 t3:=Tryz.underlying3
 a3:=Tryz.isAgg3
 z3:=Tryz.sizeOf3
 v3:=Tryz.zeroValue3
 t4:=Tryz.underlying4
 a4:=Tryz.isAgg4
 z4:=Tryz.sizeOf4
 v4:=Tryz.zeroValue4
 t5:=Tryz.underlying5
 a5:=Tryz.isAgg5
 z5:=Tryz.sizeOf5
 v5:=Tryz.zeroValue5
 t9:=Tryz.underlying9
 a9:=Tryz.isAgg9
 z9:=Tryz.sizeOf9
 v9:=Tryz.zeroValue9
 t22:=Tryz.underlying36
 a22:=Tryz.isAgg36
 z22:=Tryz.sizeOf36
 v22:=Tryz.zeroValue36
 t23:=Tryz.underlying36
 a23:=Tryz.isAgg36
 z23:=Tryz.sizeOf36
 v23:=Tryz.zeroValue36
 t25:=Tryz.underlying3
 a25:=Tryz.isAgg3
 z25:=Tryz.sizeOf3
 v25:=Tryz.zeroValue3
 t32:=Tryz.underlying28
 a32:=Tryz.isAgg28
 z32:=Tryz.sizeOf28
 v32:=Tryz.zeroValue28
 t35:=Tryz.underlying250
 a35:=Tryz.isAgg250
 z35:=Tryz.sizeOf250
 v35:=Tryz.zeroValue250
 t36:=Tryz.underlying251
 a36:=Tryz.isAgg251
 z36:=Tryz.sizeOf251
 v36:=Tryz.zeroValue251
 t41:=Tryz.underlying123
 a41:=Tryz.isAgg123
 z41:=Tryz.sizeOf123
 v41:=Tryz.zeroValue123
 t44:=Tryz.underlying257
 a44:=Tryz.isAgg257
 z44:=Tryz.sizeOf257
 v44:=Tryz.zeroValue257
 t46:=Tryz.underlying166
 a46:=Tryz.isAgg166
 z46:=Tryz.sizeOf166
 v46:=Tryz.zeroValue166
 t53:=Tryz.underlying289
 a53:=Tryz.isAgg289
 z53:=Tryz.sizeOf289
 v53:=Tryz.zeroValue289
 t57:=Tryz.underlying293
 a57:=Tryz.isAgg293
 z57:=Tryz.sizeOf293
 v57:=Tryz.zeroValue293
 t63:=Tryz.underlying315
 a63:=Tryz.isAgg315
 z63:=Tryz.sizeOf315
 v63:=Tryz.zeroValue315
 t64:=Tryz.underlying316
 a64:=Tryz.isAgg316
 z64:=Tryz.sizeOf316
 v64:=Tryz.zeroValue316 }
end Go.Proofs.YtohblmepajhpaaaGreatDoor
namespace Go.Proofs.YtohblmepajhpaaaGreatDoor
open Go.RowKit Go.Maps Go.Sort Go.Shelf
structure SetIs (w:World) (b:Nat) (L:List Int) (D:DataW Value):Prop where
 own:w.ownsMap Tryz.prog 3 (plainElem Tryz.prog 4) b L.length D
 at_:∀x,D.atKey (.int .i64 x) (.lit (.bool false))=.lit (.bool (decide (x∈L)))
 has:∀x,Maps.has D (.int .i64 x)=decide (x∈L)
theorem aOf {x y:Int}(h:x≠y):(Lit.int .i64 x)≠.int .i64 y:=fun e=>h (by injection e)
theorem SetIs.start (w:World):SetIs (w.alloc (.map #[] 0)) w.heap.size [] (.map []):=
 ⟨World.ownsMap_made _ _ _ _,fun x=>by simp[DataW.atKey],fun x=>rfl⟩
theorem SetIs.put {w w':World}{b:Nat} {L L':List Int}{D:DataW Value}{k:Int}(h:SetIs w b L D)(hk:I64 k)(hown:w'.ownsMap Tryz.prog 3 (plainElem Tryz.prog 4) b (L.length+1) (D.put (.int .i64 k) (.lit (.bool true))))
  (hL:∀x,x∈L'↔x∈L\/x=k) (hl:L'.length=L.length+1):SetIs w' b L' (D.put (.int .i64 k) (.lit (.bool true))):=by
 refine ⟨by rw[hl];exact hown,fun x=>?_,fun x=>?_⟩
 ·by_cases e:x=k
  ·subst e
   rw[Maps.atKey_put_same h.own.isMap (Kint.key (keyInt hk)),decide_eq_true ((hL x).2 (.inr rfl))]
  rw[Maps.atKey_put_other (aOf e),h.at_]
  congr 2;exact decide_eq_decide.2 (by rw[hL];simp[e])
 by_cases e:x=k
 ·subst e
  rw[Maps.has_put_same h.own.isMap (Kint.key (keyInt hk)),decide_eq_true ((hL x).2 (.inr rfl))]
 rw[Maps.has_put_other (aOf e),h.has]
 exact decide_eq_decide.2 (by rw[hL];simp[e])
theorem SetIs.kept {w w':World}{b:Nat}{L:List Int}{D:DataW Value}{row:Option Nat}(h:SetIs w b L D)(hg:w.grownBy w' row)(hne:some b≠row):SetIs w' b L D:=
 ⟨h.own.kept hg hne,h.at_,h.has⟩
theorem SetIs.same {w:World}{b:Nat} {L L':List Int}{D:DataW Value}(h:SetIs w b L D)(hL:∀x,x∈L'↔x∈L)(hl:L'.length=L.length):SetIs w b L' D:=
 ⟨by rw[hl];exact h.own,fun x=>by rw[h.at_];congr 2;exact decide_eq_decide.2 (hL x).symm,fun x=>by rw[h.has];exact decide_eq_decide.2 (hL x).symm⟩
theorem aIw (x:Bool):plainElem (H:=Value) Tryz.prog 4 (.bool x)=some (.lit (.bool x),[]):=plainElem_bool Tryz.underlying4 x
theorem aPw {v:Value}{x:Bool}{ps:List MemPlace}(h:plainElem (H:=Value) Tryz.prog 4 v=some (.lit (.bool x),ps)):v=.bool x:=by
 unfold plainElem at h
 rw[Tryz.underlying4] at h
 cases v<;>simp at h
 rw[h.1]
theorem SetIs.look {w:World}{b:Nat}{L:List Int}{D:DataW Value}(h:SetIs w b L D){x:Int}(hx:I64 x):(Instr.lookup 200 (.map (some b)) (.int .i64 x) false).run Tryz.prog w=.ok (.bool (decide (x∈L))) w:=by
 obtain ⟨v,ps,hrun,hv⟩:=h.own.lookup Kint Tryz.underlying200 (Tryz.zeroValue4 w) (aIw false) (keyInt hx)
 rw[h.at_] at hv
 rw[aPw hv] at hrun
 exact hrun
theorem SetIs.perm {w:World}{b:Nat}{L ss:List Int}{D:DataW Value}(h:SetIs w b L D)(hL:L.Nodup)(hs:ss.Perm (intKeys D)):ss.Perm L:=by
 obtain ⟨es,rfl,hp⟩:=h.own.tidy Kint
 refine hs.trans (List.Perm.symm (perm_intKeys hp (fun p hp'=>?_) hL fun x=>?_))
 ·obtain ⟨es',clock,_,Ft,_,hD⟩:=h.own
  have hk:=Maps.fit_keys Ft
  injection hD with hD
  have:p∈es'.toList.map (WideElems.rg Tryz.prog 3 (plainElem Tryz.prog 4)):=by
   rw[hD] at hp'
   exact (Go.WideShapes.sorted_perm _).mem_iff.1 hp'
  obtain ⟨v,hv⟩:=hk p this
  obtain ⟨x,_,e,_⟩:=Maps.keyOf_i64 Tryz.underlying3 hv
  exact ⟨x,e⟩
 rw[h.has];simp
theorem bJy (mb:Option Nat)(W:World):Calls Tryz.prog 146 #[.map mb] W fun e w'=>e=.returned (.func (.func 167) #[] #[.pointer (some ⟨W.heap.size,0,none⟩)])/\w'=W.alloc (.cells #[.map mb] 200):=
 callsIn_wide.1 (AnyZI.keys_in Tryz.keys Fence.wide 5 trivial rfl mb W)
theorem bIk (m:Nat):AnyZI.SortsIn Tryz.prog Tryz.sorted_ren Fence.wide m:=
 ⟨fun blk off cap ss W hH hblk hsz=>callsIn_wide.2 (AnyM.slices_Sort_int Tryz.sort blk off cap ss W hH hblk hsz),
  fun p cap W=>callsIn_wide.2 (AnyM.slices_Sort_int_none Tryz.sort p cap W)⟩
theorem bGy (b nn:Nat)(D0:DataW Value)(R:Value->Option (DataW Value×List MemPlace))(w:World)(hown:w.ownsMap Tryz.prog 3 R b nn D0)(hmax:Maps.size D0<=maxLen)(hbytes:Maps.size D0*8<=140737488355328) :
  Calls Tryz.prog 145 #[.func (.func 167) #[] #[.pointer (some ⟨w.heap.size,0,none⟩)]] (w.alloc (.cells #[.map (some b)] 200)) fun e w'=>∃(v:Value) (ss:List Int),e=.returned v/\ss.Perm (intKeys D0)/\
   w'.ownsRow w.heap.size 3 1 v ss.length ((ss.mergeSort (fun x y=>decide (x<=y))).map encZ)/\Below w.heap.size w w':=by
 have hbl:=hown.lt
 have hseq:SeqGives Fence.wide 2 Tryz.prog 167 #[.pointer (some ⟨w.heap.size,0,none⟩)] encZ (fun ss=>ss.Perm (intKeys D0)) (Maps.size D0) (w.alloc (.cells #[.map (some b)] 200)):=
  AnyZI.keys_gives (ρ:=Tryz.keys_ren) { Tryz.keys with } Fence.wide _ trivial rfl (by omega) w.heap.size b nn D0 _ (by simp) (by simp) (by
   obtain ⟨es,clock,hb,Ft,hs,hD⟩:=hown
   exact ⟨es,clock,(Below.heap_alloc _ _ b hbl).trans hb,Ft,hs,hD⟩)
 have cS:=AnyZI.sorted_in Tryz.sorted Fence.wide 5 trivial trivial trivial trivial rfl (by omega) (bIk _) (enters_of Tryz.func166 (by kernel_rfl) rfl) 167 #[.pointer (some ⟨w.heap.size,0,none⟩)] trivial (enters_of Tryz.func167 (by kernel_rfl) rfl) _ _ hmax hbytes _ hseq
 change CallsIn _ _ Tryz.prog 145 _ _ _ at cS
 refine Calls.mono (callsIn_wide.1 cS) ?_
 rintro e w' ⟨v,ss,rfl,hS,hrow,hnil,hb⟩
 exact ⟨v,ss,rfl,hS,aJl hrow (by simp),((Below.refl _ w).alloc (Nat.le_refl _) _).trans (hb.mono (by simp))⟩
theorem aWm {w:World}{base:Nat}{e:TypeId}{g n cap k:Nat}{xs:List Value}(h:w.ownsRow base e 1 (.slice (some ⟨g,0,none⟩) n cap) n xs)(hk:k<=n) :
  w.ownsRow base e 1 (.slice (some ⟨g,0,none⟩) k cap) k (xs.take k):=by
 rcases h.2 with ⟨h',_⟩ | ⟨g',cap',cur,h',hb,hg,hnc,hcm,hcs,ht⟩
 ·simp at h'
 simp only[Value.slice.injEq,Option.some.injEq,Addr.mk.injEq,and_true,true_and] at h'
 obtain ⟨rfl,rfl⟩:=h'
 have hl:=h.1
 refine ⟨by rw[List.length_take];omega,.inr ⟨g,cap,cur,rfl,hb,hg,by omega,hcm,hcs,?_⟩⟩
 rw[<-ht,List.take_take];congr 1;omega
end Go.Proofs.YtohblmepajhpaaaGreatDoor
namespace Go.Proofs.YtohblmepajhpaaaGreatDoor
open Go.RowKit Go.Maps
theorem bIu (ms:List MV)(x:Int)(done:List Int):(done++[x]).filter (fun x=>!obsM ms x)=done.filter (fun x=>!obsM ms x)++(if obsM ms x=true then [] else [x]):=by
 rw[List.filter_append]
 cases h:obsM ms x<;>simp[h]
theorem bFp {ms:List MV}{i x:Int}(hi:I64 i)(hm:∀m∈ms,∀x∈m.new,I64 x)(h:x∈univ ms i):I64 x:=by
 unfold univ at h
 rcases List.mem_cons.1 h with rfl | h
 ·exact hi
 obtain ⟨m,hm',hx⟩:=List.mem_flatMap.1 h
 exact hm m hm' x hx
structure FinSt (w1 wr:World) (base a f:Nat) (ms:List MV) (i:Int) (todoV:Value) (done todo:List Int) (Da Df:DataW Value):Prop where
 below:Below w1.heap.size w1 wr
 inv:FinInv ms i done todo
 all:SetIs wr a (done++todo) Da
 fin:SetIs wr f (done.filter fun x=>!obsM ms x) Df
 row:wr.ownsRow base 3 1 todoV todo.length (todo.map (.int .i64))
 sz:base<=wr.heap.size
structure FinMd (w1 wr:World) (base a f:Nat) (ms:List MV) (i:Int) (todoV:Value) (done:List Int) (k:Int) (t:Nat) (todo:List Int) (Da Df:DataW Value):Prop where
 below:Below w1.heap.size w1 wr
 inv:FinMid ms i done k t todo
 all:SetIs wr a ((done++[k])++todo) Da
 fin:SetIs wr f ((done++[k]).filter fun x=>!obsM ms x) Df
 row:wr.ownsRow base 3 1 todoV todo.length (todo.map (.int .i64))
 sz:base<=wr.heap.size
theorem Mp.look {w:World}{base b:Nat}{ms:List MV}{F:Int->Value}{D:DataW Value}(h:Mp w base b ms F D){x:Int}(hx:I64 x) :
  (Instr.lookup 198 (.map (some b)) (.agg #[.int .i64 x]) true).run Tryz.prog w=.ok (.tuple #[F x,.bool (obsM ms x)]) w:=by
 obtain ⟨v,ps,hrun,hv⟩:=h.own.look_ok Kold Tryz.underlying198 (Tryz.zeroValue36 w) (zd:=.held (.slice none 0 0)) (zp:=[]) rfl (keyOld hx)
 rw[h.has x hx] at hrun
 rw[h.at_ x hx] at hv
 simp only[Rv,Option.some.injEq,Prod.mk.injEq] at hv
 rw[aEc hv.1] at hrun
 exact hrun
theorem bEf {A:Option Addr}{n c:Nat}{ms:List MV}{i:Int}{w:World}(hn:n<=maxLen)(h:RdM w w.heap.size A n c ms)(hf:fewM ms=true)(hi:I64 i) :
  Calls Tryz.prog 121 #[.slice A n c,.int .i64 i] w (Ints (FinalIs ms i) w):=by
 have HF:=hid hf
 have hU:∀x∈univ ms i,I64 x:=fun x hx=>bFp hi (fun m hm=>(h.parts m hm).2.2.2) hx
 have hmm:=@run_makeMap Tryz.prog
 go_enter Tryz.func121,Tryz.ntmps121
 go_wp2_with (go_at_call 144;refine (bDf hn h hf).mono ?_;rintro e w1 ⟨F,D,rfl,hM,hb1⟩;obtain ⟨w2,hrunI,hown2,hg2⟩:=(SetIs.start w1).own.update Kint Tryz.underlying200 (by decide) (keyInt hi) (aIw true))
 have hS2:=(SetIs.start w1).put (L':=[i]) hi hown2 (by simp) rfl
 have hb2:Below w1.heap.size w1 w2:=((Below.refl _ w1).alloc (Nat.le_refl _) _).grown hg2 (by simp) (fun g hg=>by injection hg with hg;omega)
 have hsz2:=hg2.size
 have hS3:=hS2.kept (World.grownBy_alloc w2 (.map #[] 0) none) (by simp)
 have hF3:=SetIs.start w2
 have hb3:=hb2.alloc hb2.size (.map #[] 0)
 have hsz3:(w2.alloc (.map #[] 0)).heap.size=w2.heap.size+1:=by simp
 generalize hw3:w2.alloc (.map #[] 0)=w3 at *
 have HW3:=hid hw3
 clear hw3 hmm
 have hS4:=hS3.kept (World.grownBy_alloc w3 (.cells #[.int .i64 i] 3) none) (by simp)
 have hF4:=hF3.kept (World.grownBy_alloc w3 (.cells #[.int .i64 i] 3) none) (by simp)
 have hR4:(w3.alloc (.cells #[.int .i64 i] 3)).ownsRow w3.heap.size 3 1 (.slice (some ⟨w3.heap.size,0,none⟩) 1 1) 1 ([i].map (.int .i64)):=World.ownsRow_lit w3 #[.int .i64 i] 1 (Nat.le_refl _) (by decide) rfl
 have hb4:=hb3.alloc hb3.size (.cells #[.int .i64 i] 3)
 rw[hsz3] at hR4
 have haf:w1.heap.size<w2.heap.size:=by simp at hsz2;omega
 have ha3:w1.heap.size<w3.heap.size:=by omega
 have hf3:w2.heap.size<w3.heap.size:=by omega
 clear hS2 hS3 hF3 hb2 hb3 hrunI hown2 hg2
 go_loopg [8] 25202 (fun gg tv wr=>∃done todo Da Df,25202-done.length<=gg/\FinSt w1 wr (w2.heap.size+1) w1.heap.size w2.heap.size ms i tv done todo Da Df)
 case atStart=>exact ⟨[],[i],_,_,by simp,hb4,FinInv.init ms i,hS4,hF4,hR4,by simp;omega⟩
 obtain ⟨done,todo,Da,Df,hg,hst⟩:=hrel
 clear hS4 hF4 hR4 hb4
 obtain ⟨hb,hinv,hall,hfin,hrow,hsz⟩:=hst
 have hle:=hinv.le HF.out
 have hM4:=hM.below hb
 rcases List.eq_nil_or_concat todo with rfl | ⟨todo',k,rfl⟩
 ·obtain ⟨A8,c8,rfl,hc8⟩:=aAd hrow
  have hszf:=hfin.own.size_le
  have hfl:=List.length_filter_le (fun x=>!obsM ms x) done
  simp only[List.length_nil] at hrow
  go_wp2_with (first
   | (go_at_call 146;refine (bJy _ _).mono ?_;rintro e w' ⟨rfl,rfl⟩)
   | (go_at_call 145;refine (bGy w2.heap.size _ Df _ wr hfin.own (by unfold maxLen;omega) (by omega)).mono ?_;rintro e w' ⟨v,ss,rfl,hS,hrow',hb'⟩))
  go_ret
  obtain ⟨A9,c9,rfl,hc9⟩:=aAd hrow'
  have hr9:=Rd.of_own hrow' hc9
  have hl9:(ss.mergeSort fun x y=>decide (x<=y)).length=ss.length:=List.length_mergeSort _
  have hfi:=aTa hinv (hfin.perm hinv.nodupF hS)
  rw[<-hl9] at hr9 ⊢
  exact ⟨A9,c9,_,rfl,hr9,hb1.trans ((hb.trans (hb'.mono hb.size)).mono hb1.size),hfi⟩
 rw[List.concat_eq_append] at *
 have hkU:I64 k:=hU k (hinv.univ k (by simp))
 obtain ⟨A8,c8,rfl,hc8⟩:=aAd hrow
 obtain ⟨g,cap,eS,hgb,hgl⟩:=hrow.form (by simp)
 cases eS
 have hcell:=hrow.cellAt todo'.length (by simp)
 have hk0:wr.cell? ⟨g,todo'.length,none⟩=some (.int .i64 k):=by rw[hcell];simp
 have hlk:=hM4.look hkU
 have hcut:=aWm hrow (k:=todo'.length) (by simp)
 have hcl:List.take todo'.length (List.map (Value.int IntKind.i64) (todo'++[k]))=todo'.map (.int .i64):=by simp
 rw[hcl] at hcut
 clear hcl
 have hall':=hall.same (L':=(done++[k])++todo') (fun x=>aGf.symm) (by simp)
 have hmid:=hinv.mid
 generalize hN:(todo'++[k]).length=N at *
 have hN':N=todo'.length+1:=by rw[<-hN];simp
 subst hN'
 obtain ⟨Ak,ck,eF,hck⟩:=aAd (hM4.row k)
 have hfe:=bIu ms k done
 clear hN hcell hall hinv hrow
 cases ho:obsM ms k with
 | false=>
  rw[ho] at hlk hfe
  have hfl:=List.length_filter_le (fun x=>!obsM ms x) done
  go_wp2_with (at_mapUpdate;refine wpList_mapUpdate_own _ rfl _ _ _ 200 rfl 3 4 Kint Tryz.underlying200 (plainElem Tryz.prog 4) w2.heap.size (done.filter fun x=>!obsM ms x).length Df rfl hfin.own (by unfold maxLen;omega) _ _ _ rfl rfl (keyInt hkU) _ [] (aIw true) ?_;intro w5 hown5 hg5)
  go_roundg (25202-(done.length+1))
  case measure=>omega
  refine ⟨done++[k],todo',Da,Df.put (.int .i64 k) (.lit (.bool true)),by simp,hb.grown hg5 hb.size (fun j hj=>by injection hj with hj;omega),hmid.stop (by rw[aRs ho];simp),hall'.kept hg5 (by intro e;injection e with e;omega),?_,hcut.kept hg5 (.inr ?_),Nat.le_trans hsz hg5.size⟩
  ·refine hfin.put hkU hown5 (fun x=>?_) ?_
   ·rw[hfe];simp
   rw[hfe];simp
  intro e;have:=(hcut.lt _ e).1;omega
 | true=>
  rw[ho] at hlk hfe
  simp only[if_true,List.append_nil] at hfe
  rw[eF] at hlk
  have hfin':SetIs wr w2.heap.size ((done++[k]).filter fun x=>!obsM ms x) Df:=by rw[hfe];exact hfin
  have hmd:FinMd w1 wr (w2.heap.size+1) w1.heap.size w2.heap.size ms i (.slice (some ⟨g,0,none⟩) todo'.length c8) done k 0 todo' Da Df:=⟨hb,hmid,hall',hfin',hcut,hsz⟩
  clear hfe hmid hall' hfin hfin' hcut
  go_wp2
  go_loopw[8,49] (fun tv j wr'=>∃t todo2 Da2,t<=(nexts ms k).length/\j=.int .i64 t/\FinMd w1 wr' (w2.heap.size+1) w1.heap.size w2.heap.size ms i tv done k t todo2 Da2 Df) (fun _ j _=>(nexts ms k).length-(intOf j).toNat)
  case atStart=>exact ⟨0,todo',Da,Nat.zero_le _,rfl,hmd⟩
  obtain ⟨t,todo2,Da2,ht,rfl,hm2⟩:=hrel
  clear hmd hlk hk0 hM4
  obtain ⟨hb2,hinv2,hall2,hfin2,hrow2,hsz2'⟩:=hm2
  have hle2:=hinv2.le HF.out
  have hnl:(nexts ms k).length<=25200:=by obtain ⟨f1,f2⟩:=aMr HF.out;have:=aKz k f1;omega
  by_cases hlt:t<(nexts ms k).length
  ·have hrk:=(hM.below hb2).row k
   rw[eF] at hrk
   obtain ⟨b1,o1,x,rfl,hb1',hx,h0⟩:=(Rd.of_own hrk hck).int_ hlt
   have hxU:I64 x:=hU x (aEo (List.mem_of_getElem? hx))
   have hlk2:=hall2.look hxU
   have HX:=hid hx;clear hx
   by_cases hgt:k<x
   ·by_cases hin:x∈(done++[k])++todo2
    ·rw[decide_eq_true hin] at hlk2
     have HI:=hid hin;clear hin
     go_wp2
     go_roundw
     case rel=>exact ⟨t+1,todo2,Da2,by omega,by go_num,hb2,hinv2.skip HX.out (fun _=>HI.out),hall2,hfin2,hrow2,hsz2'⟩
     simp[intOf];omega
    rw[decide_eq_false hin] at hlk2
    have HI:=hid hin;clear hin
    obtain ⟨A5,c5,rfl,hc5⟩:=aAd hrow2
    go_wp2_with (first
     | (at_mapUpdate;refine wpList_mapUpdate_own _ rfl _ _ _ 200 rfl 3 4 Kint Tryz.underlying200 (plainElem Tryz.prog 4) w1.heap.size ((done++[k])++todo2).length Da2 rfl hall2.own (by simp[maxLen];omega) _ _ _ rfl rfl (keyInt hxU) _ [] (aIw true) ?_;intro w5 hown5 hg5;have hrow5:=(hrow2.kept hg5 (.inr (fun e=>by have:=(hrow2.lt _ e).1;omega))).alloc (.cells #[.int .i64 x] 3);have hb5:=(hb2.grown hg5 hb2.size (fun j hj=>by injection hj with hj;omega)))
     | (at_builtin;refine aAp rfl (.tmp 64) (.tmp 66) 36 rfl E28 rfl rfl hrow5 (aBi w5 x) (aAq _) (by unfold maxLen;omega) (by omega) (by have:=hg5.size;simp;omega) ?_;intro v6 w6 hrow6 hg6 hv6))
    have hall5:=SetIs.put (L':=(done++[k])++(todo2++[x])) hall2 hxU hown5 (fun y=>by rw[<-List.append_assoc,List.mem_append,List.mem_singleton]) (by simp;omega)
    have hfin5:=hfin2.kept hg5 (by intro e;injection e with e;omega)
    have hnb:∀j,(Value.slice A5 todo2.length c5).ownBlock=some j->w2.heap.size+1<=j:=fun j hj=>(hrow2.lt j hj).1
    have hall6:=(hall5.kept (World.grownBy_alloc w5 (.cells #[.int .i64 x] 3) none) (by simp)).kept hg6 (fun e=>by have:=hnb _ e.symm;omega)
    have hfin6:=(hfin5.kept (World.grownBy_alloc w5 (.cells #[.int .i64 x] 3) none) (by simp)).kept hg6 (fun e=>by have:=hnb _ e.symm;omega)
    have hb6:=(hb5.alloc hb5.size (.cells #[.int .i64 x] 3)).grown hg6 (hb5.alloc hb5.size (.cells #[.int .i64 x] 3)).size (fun j hj=>by have:=hnb j hj;omega)
    go_roundw
    case rel=>
     refine ⟨t+1,todo2++[x],Da2.put (.int .i64 x) (.lit (.bool true)),by omega,by go_num,hb6,hinv2.push HX.out hgt HI.out,hall6,hfin6,?_,?_⟩
     ·rw[List.length_append,List.map_append];exact hrow6
     have h1:=hg6.size;have h2:=hg5.size;simp at h1;omega
    simp[intOf];omega
   go_wp2
   go_roundw
   case rel=>exact ⟨t+1,todo2,Da2,by omega,by go_num,hb2,hinv2.skip HX.out (fun h=>absurd h hgt),hall2,hfin2,hrow2,hsz2'⟩
   simp[intOf];omega
  have hte:t=(nexts ms k).length:=by omega
  go_wp2
  go_roundg (25202-(done.length+1))
  case measure=>omega
  exact ⟨done++[k],todo2,Da2,Df,by simp,hb2,hinv2.stop (by omega),hall2,hfin2,hrow2,hsz2'⟩
end Go.Proofs.YtohblmepajhpaaaGreatDoor
