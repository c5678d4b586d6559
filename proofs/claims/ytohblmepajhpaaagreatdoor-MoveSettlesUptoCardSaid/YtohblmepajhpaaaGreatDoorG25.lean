/- Texts of the walks, together: Walk: play.Flats: the commits that plays draw. Plain law: where nothing was renamed, and nothing clashes, the whole is at each path as the sides say. Plain laws: one file moved, deleted, added. Plain law: what awake of the laws of merged trees asks. Walk: awake of the laws of moves. Walk: the law MoveRefuses. Plain laws: what a move that ends well has laid (the law MoveStands). Plain laws: how long a merged text is, counted closer; what a chain of moves may come to. -/
import Derived.Test.YtohblmepajhpaaaGreatDoorG06
import Derived.Test.YtohblmepajhpaaaGreatDoorG24
set_option maxHeartbeats 8000000
set_option maxRecDepth 100000
open Go.Lib (hid)
namespace Go.Proofs.YtohblmepajhpaaaGreatDoor
open Go.RowKit
def playPar (t:Int)(i:Nat):Int:=IntKind.u64.wrap t % ((i+1:Nat):Int)-1
noncomputable def playFlat (i:Nat) (x:FL):FL:=⟨playPar x.parent i,if x.msg.size<=100 then x.msg else ⟨#[]⟩,playF x.files⟩
noncomputable def playFl (l:List FL) (most:Nat):List FL:=(l.take most).mapIdx playFlat
theorem aJg (t:Int)(i:Nat):-1<=playPar t i/\playPar t i<i:=by
 unfold playPar
 have h1:0<=IntKind.u64.wrap t % ((i+1:Nat):Int):=Int.emod_nonneg _ (by omega)
 have h2:IntKind.u64.wrap t % ((i+1:Nat):Int)<((i+1:Nat):Int):=Int.emod_lt_of_pos _ (by omega)
 omega
theorem aTk (t:Int){k:Nat}(hk:k<900):IntKind.i64.wrap (IntKind.u64.wrap t % IntKind.u64.wrap ((k:Int)+1))-1=playPar t k/\0<=IntKind.u64.wrap t/\IntKind.u64.wrap ((k:Int)+1)=(k:Int)+1:=by
 have h1:IntKind.u64.wrap ((k:Int)+1)=((k+1:Nat):Int):=by rw[<-aPy (N:=k+1) (by omega)];rfl
 refine ⟨?_,by rw[IntKind.wrap_u64];omega,by rw[h1];rfl⟩
 rw[h1]
 unfold playPar
 have h2:0<=IntKind.u64.wrap t % ((k+1:Nat):Int):=Int.emod_nonneg _ (by omega)
 have h3:IntKind.u64.wrap t % ((k+1:Nat):Int)<((k+1:Nat):Int):=Int.emod_lt_of_pos _ (by omega)
 generalize IntKind.u64.wrap t % ((k+1:Nat):Int)=v at *
 have h4:IntKind.i64.wrap v=v:=by
  have:IntKind.i64.wrap v=(v+9223372036854775808) % 18446744073709551616-9223372036854775808:=by
   simp[IntKind.wrap,IntKind.bits,IntKind.signed]
   split<;>omega
  rw[this];omega
 rw[h4]
theorem aJl (p:Int)(A:Option Addr)(n c:Nat)(w:World):(Instr.build 40 #[(0,.int .i64 p),(2,.slice A n c)]).run Tryz.prog w=.ok (.agg #[.int .i64 p,.string ⟨#[]⟩,.slice A n c]) w:=by
 go_simp
theorem bAw (l:List FL)(most:Nat):(playFl l most).length<=most:=by
 unfold playFl;rw[List.length_mapIdx,List.length_take];omega
theorem aVw {f:Nat->FL->FL}{l:List FL}{k:Nat}{x:FL}(hx:l[k]? = some x):(l.take (k+1)).mapIdx f=(l.take k).mapIdx f++[f k x]:=by
 have hk:=(List.getElem?_eq_some_iff.1 hx).1
 rw[List.take_add_one,hx,Option.toList_some,List.mapIdx_append,List.length_take,Nat.min_eq_left (by omega)]
 simp
theorem aQw {w w':World} {v v':Value}{x:FLV}(h:FlOk w (obs v) x)(hg:w.grownBy w' v.ownBlock)(hv:v'.ownBlock=v.ownBlock\/v'.ownBlock=some w.heap.size):FlOk w' (obs v') x:=by
 have h1:FlOk w (w.heap.size::obs v) x:=h.less fun b hb=>by
  rcases List.mem_cons.1 hb with e | e
  ·exact .inr (Nat.le_of_eq e.symm)
  exact .inl e
 refine (h1.keep (HStay.grown hg fun g e=>List.mem_cons_of_mem _ (aEq e)).keeps).less fun b hb=>.inl ?_
 have e:=aFr hb
 rcases hv with h2 | h2
 ·exact List.mem_cons_of_mem _ (aEq (h2▸e))
 rw[h2] at e;injection e with e;rw[<-e];exact List.mem_cons_self ..
theorem bCv (w:World)(f:FLV){q:Nat}(hq:q=w.heap.size):Rd (w.alloc (.cells #[.int .i64 f.parent,.string f.msg,.slice f.A f.files.length f.c] 40)) (w.alloc (.cells #[.int .i64 f.parent,.string f.msg,.slice f.A f.files.length f.c] 40)).heap.size 3 (some ⟨q,0,none⟩) 1 1 ([f].flatMap FLV.cells):=by
 subst hq;exact aPm w f
structure DrawnF (w wr:World) (ov:Value) (nl:List FLV):Prop where
 bel:Below w.heap.size w wr
 row:wr.ownsRow w.heap.size 40 3 ov nl.length (nl.flatMap FLV.cells)
 part:∀f∈nl,FlOk wr (obs ov) f
theorem DrawnF.below {w wr w':World}{ov:Value}{nl:List FLV}(h:DrawnF w wr ov nl)(hb:Below wr.heap.size wr w'):DrawnF w w' ov nl:=
 ⟨h.bel.trans (hb.mono h.bel.size),aAg h.row hb,fun f hf=>(h.part f hf).keep (HStay.of_below hb).keeps⟩
theorem DrawnF.push {w wr w':World} {ov ov':Value}{nl:List FLV}{f:FLV}(h:DrawnF w wr ov nl)(hf:FlOk wr (obs ov) f)(hg:wr.grownBy w' ov.ownBlock)(hv:ov'.ownBlock=ov.ownBlock\/ov'.ownBlock=some wr.heap.size)
  (ho:w'.ownsRow w.heap.size 40 3 ov' (nl.length+1) (nl.flatMap FLV.cells++[f].flatMap FLV.cells)):DrawnF w w' ov' (nl++[f]):=by
 refine ⟨h.bel.grown hg h.bel.size (fun g hg=>(h.row.lt g hg).1),by rw[List.length_append,List.flatMap_append];exact ho,fun x hx=>?_⟩
 rcases List.mem_append.1 hx with hx | hx
 ·exact aQw (h.part x hx) hg hv
 rw[List.mem_singleton.1 hx];exact aQw hf hg hv
theorem DrawnF.other {w wr w':World}{ov:Value}{nl:List FLV}{g:Nat}(h:DrawnF w wr ov nl)(hg:wr.grownBy w' (some g))(hlo:w.heap.size<=g)(hn:ov.ownBlock≠some g)(hp:∀f∈nl,FlOk wr (g::obs ov) f):DrawnF w w' ov nl:=
 ⟨h.bel.grown hg h.bel.size (fun k e=>by injection e with e;omega),h.row.kept hg (.inr hn),fun f hf=>((hp f hf).keep (HStay.grown hg fun k e=>by injection e with e;rw[e];exact List.mem_cons_self ..).keeps).less fun b hb=>.inl (List.mem_cons_of_mem _ hb)⟩
def FlatsIs (r:List FL)(w:World)(e:Ending) (w':World):Prop:=
 ∃(A:Option Addr) (c:Nat) (nl:List FLV),e=.returned (.slice A nl.length c)/\nl.map FLV.pl=r/\RdFl w' w'.heap.size A nl.length c nl/\Below w.heap.size w w'
theorem aPq {w:World}{A:Option Addr}{c:Nat}{l:List FLV}(hn:l.length<=12)(r1:RdFl w w.heap.size A l.length c l) :
  Calls Tryz.prog 11 #[.slice A l.length c,.int .i64 12] w (FlatsIs (playFl (l.map FLV.pl) 12) w):=by
 have HR:=hid r1
 clear r1
 go_enter Tryz.func11,Tryz.ntmps11
 go_wp2
 go_loopw[5,6] (fun ov iv wr=>∃(k:Nat) (nl:List FLV),k<=l.length/\iv=.int .i64 k/\nl.length=k/\Hid (nl.map FLV.pl=((l.map FLV.pl).take k).mapIdx playFlat)/\Hid (DrawnF w wr ov nl)) (fun _ i _=>l.length-(intOf i).toNat)
 case atStart=>exact ⟨0,[],Nat.zero_le _,rfl,rfl,by rw[List.take_zero];rfl,⟨Below.refl _ _,World.ownsRow_nil _ _ _ _,fun _ h=>by cases h⟩⟩
 obtain ⟨k,nl,hk,rfl,hl,hj,hd⟩:=hrel
 by_cases hlt:k<l.length
 ·obtain ⟨b0,o0,f,eA,hbb,hx,hf,h0,h1,h2⟩:=HR.out.get hlt
  subst eA
  have HG:=hid (And.intro h0 (And.intro h1 h2))
  have HBB:=hid hbb
  have HF:=hid (HR.out.parts f hf)
  have HNX:=hid (show ((l.map FLV.pl).take (k+1)).mapIdx playFlat=((l.map FLV.pl).take k).mapIdx playFlat++[playFlat k f.pl] from aVw (by rw[List.getElem?_map,hx];rfl))
  clear hx hf h0 h1 h2 hbb
  obtain ⟨q1,q2,q3⟩:=aTk f.parent (k:=k) (by omega)
  obtain ⟨q4,q5⟩:=aJg f.parent k
  obtain ⟨V,eV⟩:∃V,V=wr.drew:=⟨_,rfl⟩
  have hbV:Below wr.heap.size wr V:=by rw[eV];exact (Below.refl _ _).drew
  have HDV:=hid (hd.out.below hbV)
  have HBV:=hid (HDV.out.bel)
  have HKT:=hid (fun (v:World) (hv:Below V.heap.size V v)=>aKb (w:=v) HF.out.2.1 (HF.out.1.to (HBV.out.trans (hv.mono HBV.out.size)) (Nat.le_trans HBV.out.size hv.size)))
  have hi40:(Tryz.prog.info? 40).map (·.size)=some 3:=by kernel_rfl
  go_wp2
  refine aAv (fun u=>Below V.heap.size V u) (.q 0 (.q 1 (.q 2 (.q 3 (.q 4 (.q 5 (.q 6 (.q 7 (.q 8 (.q 9 (.q 10 (.q 11 (.q 12 (.q 13 (.q 14 (.q 15 (.q 16 (.two 17 (.b 18 (.one 19 (.one 20 .leaf))) 19 (.one 17 (.b 18 (.one 20 .leaf))))))))))))))))))))) mixed (by kernel_rfl) (by rw[<-eV];exact Below.refl _ _) ?_
  intro Tp M Q hT hT' hM hQ
  rw[<-eV]
  have m0:M ⟨b0,o0+k*3,none⟩=some (.int .i64 f.parent):=hM _ _ fun w' hw=>(hw.cell (p:=⟨b0,o0+k*3,none⟩) (Nat.lt_of_lt_of_le HBB.out HBV.out.size)).trans ((HBV.out.cell HBB.out).trans HG.out.1)
  have m2:M ⟨b0,o0+k*3+2,none⟩=some (.slice f.A f.files.length f.c):=hM _ _ fun w' hw=>(hw.cell (p:=⟨b0,o0+k*3+2,none⟩) (Nat.lt_of_lt_of_le HBB.out HBV.out.size)).trans ((HBV.out.cell HBB.out).trans HG.out.2.2)
  clear hM
  refine aDy ?_
  intro O hO
  have t0:=hO true 0
  have t1:=hO true 1
  have t2:=hO true 2
  have t3:=hO true 3
  have t4:=hO true 4
  have t5:=hO true 5
  have t6:=hO true 6
  have t7:=hO true 7
  have t8:=hO true 8
  have t9:=hO true 9
  have t10:=hO true 10
  have t11:=hO true 11
  have t12:=hO true 12
  have t13:=hO true 13
  have t14:=hO true 14
  have t15:=hO true 15
  have t16:=hO true 16
  have t18:=hO true 18
  have e17:=hO false 17
  have e19:=hO false 19
  have e20:=hO false 20
  simp only[qcmp] at t0 t1 t2 t3 t4 t5 t6 t7 t8 t9 t10 t11 t12 t13 t14 t15 t16 t18 e17 e19 e20
  clear hO
  simp (maxSteps:=9^7) only[↓wt_q,↓aBb,t0,t1,t2,t3,t4,t5,t6,t7,t8,t9,t10,t11,t12,t13,t14,t15,t16,e17,e19,↓qpre,aAb,aAe,aAc,m0,m2]
  rw[q1,q3]
  refine ⟨⟨by omega,by omega⟩,by unfold inI64;omega,⟨q2,by omega⟩,by unfold inI64;omega,⟨by omega,by omega⟩,?_⟩
  refine ⟨?ord1,?ord2⟩
  case' ord1=>
   refine aAi (by kernel_rfl) (HKT.out V (Below.refl _ _)) rfl rfl ?_
   rintro e u1 ⟨A1,c1,l1,rfl,rfl,hr1,hb1,hN⟩
   refine ⟨_,rfl,hT _ hb1,?_⟩
   simp (maxSteps:=9^7) only[↓wt_b,t18,aAb,aAc]
   refine aBp rfl (fun w=>aJl _ _ _ _ w) ?_
   simp (maxSteps:=9^7) only[↓aAl,e19,aAb,aAc]
   have hb2:=hb1.alloc hb1.size (.cells #[.int .i64 0,.string ⟨#[]⟩,.slice none 0 0] 40)
   have hn:=heap_alloc_new u1 (.cells #[.int .i64 0,.string ⟨#[]⟩,.slice none 0 0] 40)
   refine aBr aEy ⟨hT _ hb2,?_⟩
   simp (maxSteps:=9^7) only[↓aAl,e20,aAb,aAc]
   have hb3:=aAj (cs:=#[.int .i64 (playPar f.parent k),.string ⟨#[]⟩,.slice A1 (playF f.files).length c1]) hb2 hb1.size
   refine aAs (g:=u1.heap.size) (cells:=#[.int .i64 (playPar f.parent k),.string ⟨#[]⟩,.slice A1 (playF f.files).length c1]) rfl rfl hn hi40 rfl (by simp[Value.oneCell']) ⟨hT _ hb3,?_⟩
   simp (maxSteps:=9^7) only[↓aLm,aAb]
   refine hQ _ _ ?_
   have hb4:Below u1.heap.size u1 ((u1.alloc (.cells #[.int .i64 0,.string ⟨#[]⟩,.slice none 0 0] 40)).setRow u1.heap.size #[.int .i64 (playPar f.parent k),.string ⟨#[]⟩,.slice A1 (playF f.files).length c1]):=aAj ((Below.refl _ _).alloc (Nat.le_refl _) _) (Nat.le_refl _)
   have HX:=hid (setRow_heap _ _ _ #[.int .i64 (playPar f.parent k),.string ⟨#[]⟩,.slice A1 (playF f.files).length c1] _ _ hn)
   have HBU:=hid hb3
   have HLO:=hid hb1.size
   have HRF:=hid (hr1.to hb4 hb4.size)
   have HNA:=hid (show ∀a,A1=some a->0<(playF f.files).length->V.heap.size<=a.block/\a.block≠u1.heap.size from fun a e h0=>by
    obtain ⟨b,o,e2,hb,_⟩:=hr1.row.at_ h0
    rw[e] at e2;cases e2
    exact ⟨hN _ _ _ e,Nat.ne_of_lt hb⟩)
   clear hb1 hb2 hn hb3 hb4 hr1 hN
   simp only[Value.cells] at HX HBU HRF ⊢
   generalize World.setRow _ _ _=U at *
   generalize u1.heap.size=fb at *
   clear u1
  case' ord2=>
   have hb1:Below V.heap.size V (V.alloc (.cells #[.int .i64 0,.string ⟨#[]⟩,.slice none 0 0] 40)):=(Below.refl _ _).alloc (Nat.le_refl _) _
   have hn:=heap_alloc_new V (.cells #[.int .i64 0,.string ⟨#[]⟩,.slice none 0 0] 40)
   refine aBr aEy ⟨hT _ hb1,?_⟩
   simp (maxSteps:=9^7) only[↓aAl,e17,aAb,aAc]
   refine aAi (by kernel_rfl) (HKT.out _ hb1) rfl rfl ?_
   rintro e u1 ⟨A1,c1,l1,rfl,rfl,hr1,hb2,hN⟩
   have hb3:=hb1.trans (hb2.mono hb1.size)
   refine ⟨_,rfl,hT _ hb3,?_⟩
   simp (maxSteps:=9^7) only[↓wt_b,t18,aAb,aAc]
   refine aBp rfl (fun w=>aJl _ _ _ _ w) ?_
   simp (maxSteps:=9^7) only[↓aAl,e20,aAb,aAc]
   replace hn:=(hb2.block _ (aAa hn)).trans hn
   have hb4:=aAj (cs:=#[.int .i64 (playPar f.parent k),.string ⟨#[]⟩,.slice A1 (playF f.files).length c1]) hb3 (Nat.le_refl _)
   refine aAs (g:=V.heap.size) (cells:=#[.int .i64 (playPar f.parent k),.string ⟨#[]⟩,.slice A1 (playF f.files).length c1]) rfl rfl hn hi40 rfl (by simp[Value.oneCell']) ⟨hT _ hb4,?_⟩
   simp (maxSteps:=9^7) only[↓aLm,aAb]
   refine hQ _ _ ?_
   have HX:=hid (setRow_heap _ _ _ #[.int .i64 (playPar f.parent k),.string ⟨#[]⟩,.slice A1 (playF f.files).length c1] _ _ hn)
   have HBU:=hid hb4
   have HLO:=hid (Nat.le_refl V.heap.size)
   have hna:∀a,A1=some a->0<(playF f.files).length->V.heap.size<=a.block/\a.block≠V.heap.size:=fun a e _=>by
    have:=hN a.block a.off _ e
    simp at this;omega
   have HNA:=hid hna
   have HRF:=hid (show RdF (u1.setRow V.heap.size #[.int .i64 (playPar f.parent k),.string ⟨#[]⟩,.slice A1 (playF f.files).length c1]) (u1.setRow V.heap.size #[.int .i64 (playPar f.parent k),.string ⟨#[]⟩,.slice A1 (playF f.files).length c1]).heap.size A1 (playF f.files).length c1 (playF f.files) from
    ⟨aBd (X:=[V.heap.size]) hr1.row (fun a e h0 hm=>(hna a e h0).2 (List.mem_singleton.1 hm)) (HStay.keeps ⟨by simp[World.setRow],fun q _ hx=>setRow_other _ _ _ _ (fun e=>hx (by rw[e];simp))⟩),rfl,hr1.fits⟩)
   clear hb1 hn hb2 hb3 hb4 hr1 hN hna
   try simp only[Value.cells] at HX HBU HRF ⊢
   generalize World.setRow _ _ _=U at *
   obtain ⟨fb,efb⟩:∃fb,fb=V.heap.size:=⟨_,rfl⟩
   rw[<-efb] at HX HLO ⊢
   replace HNA:Hid (∀a,A1=some a->0<(playF f.files).length->V.heap.size<=a.block/\a.block≠fb):=by rw[efb];exact HNA
   replace HLO:Hid (V.heap.size<=fb):=by rw[efb];exact Nat.le_refl _
   clear efb u1
  all_goals
   have HOV:=hid (fun x hx=>(HDV.out.part x hx).less (Y:=fb::obs u5) fun b hb=>by
    rcases List.mem_cons.1 hb with e | e
    ·exact .inr (by rw[e];exact HLO.out)
    exact .inl e)
   have HOU:=hid (fun x hx=>(HOV.out x hx).keep (HStay.of_below HBU.out).keeps)
   have HDU:=hid (HDV.out.below HBU.out)
   have HOB:=hid (show ∀g∈obs u5,g<V.heap.size from fun g hg=>(HDV.out.row.lt g (aFr hg)).2)
   have HNU:=hid (show Value.ownBlock u5≠some fb from fun e=>by have h1:=(HDV.out.row.lt fb e).2;have h2:=HLO.out;omega)
   have HFW:=hid (show w.heap.size<=fb from Nat.le_trans HBV.out.size HLO.out)
   have HWU:=hid (HBV.out.trans (HBU.out.mono HBV.out.size))
   have g1:U.cell? ⟨b0,o0+k*3+1,none⟩=some (.string f.msg):=(HWU.out.cell (p:=⟨b0,o0+k*3+1,none⟩) HBB.out).trans HG.out.2.1
   clear hQ hT hT' m0 m2 t0 t1 t2 t3 t4 t5 t6 t7 t8 t9 t10 t11 t12 t13 t14 t15 t16 t18 e17 e19 e20 hi40 HKT eV hbV HOV HDV hd q1 q2 q3
   clear Tp M Q O
   by_cases hmsg:f.msg.size<=100
   case pos=>
    have hgr:=aAq U fb 1 (.string f.msg)
    have k1:U.cell? ⟨fb,1,none⟩=some (.string ⟨#[]⟩):=by rw[Lib.cell_of_heap HX.out];rfl
    have fr1:U.frozen? ⟨fb,1,none⟩=false:=aAk HX.out
    have hx2:(U.setCell ⟨fb,1,none⟩ (.string f.msg)).heap[fb]? = some (.cells #[.int .i64 (playPar f.parent k),.string f.msg,.slice A1 (playF f.files).length c1] 40 (0,0)):=by
     have:=heap_setCell_same U fb 1 _ _ (.string f.msg) HX.out
     simpa using this
    have hdx:DrawnF w (U.setCell ⟨fb,1,none⟩ (.string f.msg)) u5 nl:=HDU.out.other hgr HFW.out HNU.out HOU.out
    have hrf:RdF (U.setCell ⟨fb,1,none⟩ (.string f.msg)) (U.setCell ⟨fb,1,none⟩ (.string f.msg)).heap.size A1 (playF f.files).length c1 (playF f.files):=
     ⟨aBd (X:=[fb]) HRF.out.row (fun a e h0 hm=>(HNA.out a e h0).2 (List.mem_singleton.1 hm)) (HStay.keeps (HStay.grown hgr fun g e=>by injection e with e;rw[e];simp)),rfl,HRF.out.fits⟩
    have k0:(U.setCell ⟨fb,1,none⟩ (.string f.msg)).cell? ⟨fb,0,none⟩=some (.int .i64 (playPar f.parent k)):=by rw[Lib.cell_of_heap hx2];rfl
    have k1':(U.setCell ⟨fb,1,none⟩ (.string f.msg)).cell? ⟨fb,1,none⟩=some (.string f.msg):=by rw[Lib.cell_of_heap hx2];rfl
    have k2:(U.setCell ⟨fb,1,none⟩ (.string f.msg)).cell? ⟨fb,2,none⟩=some (.slice A1 (playF f.files).length c1):=by rw[Lib.cell_of_heap hx2];rfl
    have hba:Below (U.setCell ⟨fb,1,none⟩ (.string f.msg)).heap.size (U.setCell ⟨fb,1,none⟩ (.string f.msg)) ((U.setCell ⟨fb,1,none⟩ (.string f.msg)).alloc (.cells #[.int .i64 (playPar f.parent k),.string f.msg,.slice A1 (playF f.files).length c1] 40)):=(Below.refl _ _).alloc (Nat.le_refl _) _
    have HDA:=hid (hdx.below hba)
    have HFN:=hid (show FlOk ((U.setCell ⟨fb,1,none⟩ (.string f.msg)).alloc (.cells #[.int .i64 (playPar f.parent k),.string f.msg,.slice A1 (playF f.files).length c1] 40)) (obs u5) ⟨playPar f.parent k,f.msg,A1,c1,playF f.files⟩ from
     ⟨⟨hrf.to hba hba.size,fun a e h0 hm=>by have h1:=(HNA.out a e h0).1;have h2:=HOB.out _ hm;omega⟩,Nat.le_trans (aIc _) (by decide),(show I64 (playPar f.parent k) by unfold I64;omega),HF.out.2.2.2⟩)
    have HMM:=hid (show (nl++[(⟨playPar f.parent k,f.msg,A1,c1,playF f.files⟩:FLV)]).map FLV.pl=((l.map FLV.pl).take (k+1)).mapIdx playFlat by
     rw[List.map_append,hj.out,HNX.out]
     exact congrArg (fun x=>_++[x]) (show (⟨playPar f.parent k,f.msg,playF f.files⟩:FL)=⟨playPar f.parent k,if f.msg.size<=100 then f.msg else ⟨#[]⟩,playF f.files⟩ by rw[if_pos hmsg]))
    have hml:=hmsg
    clear hx2 hdx hrf hba hgr
    go_wp2_with (at_builtin;refine aAn rfl (.tmp 51) (.tmp 53) 22 rfl aMy (base:=w.heap.size) (n:=nl.length) rfl rfl HDA.out.row (bCv (U.setCell ⟨fb,1,none⟩ (.string f.msg)) ⟨playPar f.parent k,f.msg,A1,c1,playF f.files⟩ (q:=U.heap.size) (by simp)) (aFa [⟨playPar f.parent k,f.msg,A1,c1,playF f.files⟩]) (by unfold maxLen;omega) (by omega) HDA.out.bel.size ?_;intro v7 w7 ho7 hg7 hv7)
    have HD7:=hid (HDA.out.push HFN.out hg7 hv7 ho7)
    go_roundw
    case rel=>exact ⟨k+1,nl++[⟨playPar f.parent k,f.msg,A1,c1,playF f.files⟩],by omega,by go_num,by rw[List.length_append,hl];rfl,HMM,HD7⟩
    simp[intOf];omega
   have hx2:=HX.out
   have hdx:=HDU.out
   have hrf:=HRF.out
   have k0:U.cell? ⟨fb,0,none⟩=some (.int .i64 (playPar f.parent k)):=by rw[Lib.cell_of_heap hx2];rfl
   have k1':U.cell? ⟨fb,1,none⟩=some (.string ⟨#[]⟩):=by rw[Lib.cell_of_heap hx2];rfl
   have k2:U.cell? ⟨fb,2,none⟩=some (.slice A1 (playF f.files).length c1):=by rw[Lib.cell_of_heap hx2];rfl
   have hba:Below U.heap.size U (U.alloc (.cells #[.int .i64 (playPar f.parent k),.string ⟨#[]⟩,.slice A1 (playF f.files).length c1] 40)):=(Below.refl _ _).alloc (Nat.le_refl _) _
   have HDA:=hid (hdx.below hba)
   have HFN:=hid (show FlOk (U.alloc (.cells #[.int .i64 (playPar f.parent k),.string ⟨#[]⟩,.slice A1 (playF f.files).length c1] 40)) (obs u5) ⟨playPar f.parent k,⟨#[]⟩,A1,c1,playF f.files⟩ from
    ⟨⟨hrf.to hba hba.size,fun a e h0 hm=>by have h1:=(HNA.out a e h0).1;have h2:=HOB.out _ hm;omega⟩,Nat.le_trans (aIc _) (by decide),(show I64 (playPar f.parent k) by unfold I64;omega),(show (0:Nat)<=140737488351232 by decide)⟩)
   have HMM:=hid (show (nl++[(⟨playPar f.parent k,⟨#[]⟩,A1,c1,playF f.files⟩:FLV)]).map FLV.pl=((l.map FLV.pl).take (k+1)).mapIdx playFlat by
    rw[List.map_append,hj.out,HNX.out]
    exact congrArg (fun x=>_++[x]) (show (⟨playPar f.parent k,⟨#[]⟩,playF f.files⟩:FL)=⟨playPar f.parent k,if f.msg.size<=100 then f.msg else ⟨#[]⟩,playF f.files⟩ by rw[if_neg hmsg]))
   have hml:=hmsg
   clear hx2 hdx hrf hba
   go_wp2_with (at_builtin;refine aAn rfl (.tmp 51) (.tmp 53) 22 rfl aMy (base:=w.heap.size) (n:=nl.length) rfl rfl HDA.out.row (aPm U ⟨playPar f.parent k,⟨#[]⟩,A1,c1,playF f.files⟩) (aFa [⟨playPar f.parent k,⟨#[]⟩,A1,c1,playF f.files⟩]) (by unfold maxLen;omega) (by omega) HDA.out.bel.size ?_;intro v7 w7 ho7 hg7 hv7)
   have HD7:=hid (HDA.out.push HFN.out hg7 hv7 ho7)
   go_roundw
   case rel=>exact ⟨k+1,nl++[⟨playPar f.parent k,⟨#[]⟩,A1,c1,playF f.files⟩],by omega,by go_num,by rw[List.length_append,hl];rfl,HMM,HD7⟩
   simp[intOf];omega
 have hkn:k=l.length:=by omega
 have HE:=hid (show nl.map FLV.pl=playFl (l.map FLV.pl) 12 by
  unfold playFl
  rw[hj.out,hkn,List.take_of_length_le (by rw[List.length_map];omega),List.take_of_length_le (by rw[List.length_map];exact hn)])
 obtain ⟨A',c',eov,hcap⟩:=aAd hd.out.row
 subst eov
 have HD:=hid hd.out
 have HRW:=hid (show RdFl wr wr.heap.size A' nl.length c' nl from ⟨Rd.of_own hd.out.row hcap,rfl,fun f hf=>⟨(hd.out.part f hf).files.1,(hd.out.part f hf).few,(hd.out.part f hf).par,(hd.out.part f hf).msg⟩⟩)
 clear hd hj hcap
 go_wp2
 go_ret
 exact ⟨A',c',nl,rfl,HE.out,HRW.out,HD.out.bel⟩
end Go.Proofs.YtohblmepajhpaaaGreatDoor
namespace Go.Proofs.YtohblmepajhpaaaGreatDoor
def outP (a b c:List FV)(p:ByteArray):Option FV:=
 match findP a p,findP b p,findP c p with
 | some f,some o,some t=>some (bothOut f o t).1
 | some _,_,_=>none
 | none,some o,_=>some o
 | none,none,r=>r
theorem aEh {f:FV}(h:FileOk f):treeOk [f]=true:=by
 refine aAt.2 ⟨by simp,fun g hg=>?_,aDp (List.pairwise_singleton _ _),fun g hg k hk=>?_⟩
 ·simp only[List.mem_singleton] at hg;subst hg;exact h
 simp only[List.mem_singleton] at hg hk;subst hg;subst hk;exact aGz _
theorem aYa (b:List FV):pairsF [] b=[]:=by
 refine List.eq_nil_iff_forall_not_mem.2 fun q hq=>?_
 obtain ⟨f,h,_⟩:=aXb.1 ((aDv [] b).from_ q hq)
 simp at h
theorem aKp (g:FV)(p:ByteArray):findP [g] p=if g.path=p then some g else none:=by
 unfold findP
 rw[List.find?_cons]
 by_cases h:g.path=p<;>simp[h]
theorem bJn {a b c:List FV}{fs:List FV}{cl:List CL}(ha:treeOk a=true)(hb:treeOk b=true)(hc:treeOk c=true)(h:wholeF a b c=(fs,cl))(ht:treeOk (sortF fs)=true):treemergeF a b c=(sortF fs,sortC cl,0):=by
 rw[treemergeF,if_neg (by rw[ha,hb,hc];simp),h]
 dsimp only
 rw[if_neg (by rw[ht];decide)]
theorem aRz (b:List FV):addedF [] b=b:=by
 refine List.filter_eq_self.2 fun g _=>?_
 rw[aYa];rfl
theorem aWj (b c:List FV):acts [] b c=b.map (actA c)++(c.filter fun y=>(findP b y.path).isNone).map fun y=>(y,0):=by
 unfold acts
 rw[aRz,aRz];rfl
where
 treemerge_theirs_nil {u:FV} (h:FileOk u):treemergeF [] [u] [u]=([u],[],0):=by
  have e:acts [] [u] [u]=[(u,0)]:=by
   rw[aWj]
   have h1:actA [u] u=(u,0):=by unfold actA;rw[aKp,if_pos rfl];simp
   rw[List.map_singleton,h1,List.filter_cons,aKp,if_pos rfl];rfl
  have hw:wholeF [] [u] [u]=([u],[]):=by rw[aDz,e];rfl
  exact bJn aCn (aEh h) (aEh h) hw (aEh h)
theorem aZk {u v:FV}(hp:v.path≠u.path):acts [] [u] [v]=[(u,0),(v,0)]:=by
 rw[aWj]
 have h1:actA [v] u=(u,0):=by
  unfold actA
  rw[aKp,if_neg hp]
 have h2:(findP [u] v.path).isNone=true:=by rw[aKp,if_neg (fun e=>hp e.symm)];rfl
 rw[List.map_singleton,h1,List.filter_cons,if_pos h2];rfl
theorem bFr {u v:FV}(h:FileOk u)(hv:FileOk v)(hc:clashP u.p v.p=false):(treemergeF [] [u] [v]).1.length=2/\(treemergeF [] [u] [v]).2=([],0):=by
 have hp:v.path≠u.path:=fun e=>by
  unfold clashP at hc
  rw[FV.p_inj.2 e] at hc
  simp at hc
 have hw:wholeF [] [u] [v]=([u,v],[]):=by
  rw[aDz,aZk hp]
  show putX (putX ([],[]) (u,0)) (v,0)=_
  have h1:putX ([],[]) (u,0)=([u],[]):=rfl
  rw[h1]
  unfold putX putM
  rw[if_neg (by simp[hc])];rfl
 have ht:treeOk (sortF [u,v])=true:=bDc (by simp) (fun f hf=>by
  simp only[List.mem_cons,List.mem_nil_iff,or_false] at hf
  rcases hf with rfl | rfl
  ·exact h
  exact hv) (List.pairwise_cons.2 ⟨fun x hx=>by simp only[List.mem_singleton] at hx;subst hx;exact hc,List.pairwise_singleton _ _⟩)
 rw[bJn aCn (aEh h) (aEh hv) hw ht]
 exact ⟨by rw[aMo];rfl,rfl⟩
def wX:FV:=⟨⟨#[97]⟩,false,⟨#[120,10]⟩⟩
def wY:FV:=⟨⟨#[97]⟩,false,⟨#[121,10]⟩⟩
def wB:FV:=⟨⟨#[98]⟩,false,⟨#[]⟩⟩
theorem okWB:FileOk wB:=⟨by decide +kernel,by decide +kernel⟩
end Go.Proofs.YtohblmepajhpaaaGreatDoor
namespace Go.Proofs.YtohblmepajhpaaaGreatDoor
open Go.RowKit
def wA:FV:=⟨⟨#[97]⟩,false,⟨#[]⟩⟩
theorem okWA:FileOk wA:=⟨by decide +kernel,by decide +kernel⟩
def awakeL:List FL:=[⟨-1,⟨#[]⟩,[]⟩,⟨0,⟨#[97]⟩,[wA]⟩,⟨0,⟨#[]⟩,[wB]⟩]
theorem aQn:∃fs:List FV,fs.length=2/\rebaseF awakeL [] 1 2 []=(⟨[⟨2,⟨#[97]⟩,fs⟩],[(1,[3])],-1,[],[]⟩,0):=by
 obtain ⟨h1,h2⟩:=bFr okWB okWA (by decide +kernel)
 refine ⟨(treemergeF [] [wB] [wA]).1,h1,?_⟩
 have hp:parF awakeL=[-1,0,0]:=rfl
 have ha:argsOk awakeL [] 1 2=true:=by
  have hr:rightL awakeL []=true:=by
   unfold rightL
   rw[hp]
   simp only[awakeL,List.all_cons,List.all_nil,aCn,aEh okWA,aEh okWB]
   decide +kernel
  unfold argsOk
  rw[hr]
  decide +kernel
 have hm:mergedOn awakeL [] 1 2=treemergeF [] [wB] [wA]:=rfl
 have ho:oneOn [] awakeL 1 2=.ok (awakeL++[⟨2,⟨#[97]⟩,(treemergeF [] [wB] [wA]).1⟩]):=by
  unfold oneOn
  rw[hm,h2,if_neg (by decide),if_neg (fun h=>h rfl),if_neg (by decide +kernel)]
  rfl
 have hv:moved (parF awakeL) [] 1=[1]:=by rw[hp];decide +kernel
 have hb:above (parF awakeL) 1 2=false:=by rw[hp];decide +kernel
 have hq:par (parF awakeL) 1=0:=by rw[hp];decide +kernel
 have hall:allF [] [1] awakeL 1 2=.ok (awakeL++[⟨2,⟨#[97]⟩,(treemergeF [] [wB] [wA]).1⟩],[(1,[3])]):=by
  unfold allF
  rw[if_neg (by rw[hb];decide),if_neg (by rw[hq];decide),runF',hq,show nowF [] 2 0=2 from rfl,ho]
  rfl
 unfold rebaseF
 rw[if_neg (by rw[ha];decide),hv,hall]
 rfl
theorem aTp (s:ByteArray)(w:World):(Instr.build 48 #[(0,.string s)]).run Tryz.prog w=.ok (.agg #[.string s,.bool false,.string ⟨#[]⟩]) w:=by
 go_simp
theorem bCd (p:Int)(w:World):(Instr.build 40 #[(0,.int .i64 p)]).run Tryz.prog w=.ok (.agg #[.int .i64 p,.string ⟨#[]⟩,.slice none 0 0]) w:=by
 go_simp
theorem aUc (p:Int)(m:ByteArray)(A:Option Addr)(n c:Nat)(w:World):(Instr.build 40 #[(0,.int .i64 p),(1,.string m),(2,.slice A n c)]).run Tryz.prog w=.ok (.agg #[.int .i64 p,.string m,.slice A n c]) w:=by
 go_simp
theorem aXv (w:World)(l:List FV)(xs:Array Value)(hx:xs.toList=l.flatMap FV.cells)(hf:∀f∈l,f.path.size<=140737488351232/\f.text.size<=140737488351232) :
  RdF (w.alloc (.cells xs 48)) (w.alloc (.cells xs 48)).heap.size (some ⟨w.heap.size,0,none⟩) l.length l.length l:=
 ⟨aOj (heap_alloc_new w _) (by rw[FV.len_flat]) (Nat.le_refl _) fun j u hu=>by rw[<-hx] at hu;simpa using hu,rfl,hf⟩
def awakeV (q:Nat):List FLV:=[⟨-1,⟨#[]⟩,none,0,[]⟩,⟨0,⟨#[97]⟩,some ⟨q,0,none⟩,1,[wA]⟩,⟨0,⟨#[]⟩,some ⟨q+1,0,none⟩,1,[wB]⟩]
theorem aUd {w:World}(hm:Lm w):Calls Tryz.prog 10 #[] w (BoolBelow true w):=by
 have h1:=fun u=>aTp ⟨#[97]⟩ u
 have h2:=fun u=>aTp ⟨#[98]⟩ u
 have h3:=fun u=>bCd (-1) u
 have h4:=aUc
 have h5:=aJl
 obtain ⟨V1,e1⟩:∃V,V=w.alloc (.cells #[.string ⟨#[97]⟩,.bool false,.string ⟨#[]⟩] 48):=⟨_,rfl⟩
 obtain ⟨V2,e2⟩:∃V,V=V1.alloc (.cells #[.string ⟨#[98]⟩,.bool false,.string ⟨#[]⟩] 48):=⟨_,rfl⟩
 obtain ⟨V3,e3⟩:∃V,V=V2.alloc (.cells #[.int .i64 (-1),.string ⟨#[]⟩,.slice none 0 0,.int .i64 0,.string ⟨#[97]⟩,.slice (some ⟨w.heap.size,0,none⟩) 1 1,.int .i64 0,.string ⟨#[]⟩,.slice (some ⟨w.heap.size+1,0,none⟩) 1 1] 40):=⟨_,rfl⟩
 have b1:Below w.heap.size w V1:=by rw[e1];exact (Below.refl _ _).alloc (Nat.le_refl _) _
 have b2:Below V1.heap.size V1 V2:=by rw[e2];exact (Below.refl _ _).alloc (Nat.le_refl _) _
 have b3:Below V2.heap.size V2 V3:=by rw[e3];exact (Below.refl _ _).alloc (Nat.le_refl _) _
 have s1:V1.heap.size=w.heap.size+1:=by rw[e1];simp
 have s2:V2.heap.size=w.heap.size+1+1:=by rw[e2];simp[s1]
 have b23:=b2.trans (b3.mono b2.size)
 have b13:=b1.trans (b23.mono b1.size)
 have r1:RdF V3 V3.heap.size (some ⟨w.heap.size,0,none⟩) 1 1 [wA]:=(show RdF V1 V1.heap.size (some ⟨w.heap.size,0,none⟩) 1 1 [wA] by rw[e1];exact aXv w [wA] _ rfl (by decide)).to b23 b23.size
 have r2:RdF V3 V3.heap.size (some ⟨w.heap.size+1,0,none⟩) 1 1 [wB]:=(show RdF V2 V2.heap.size (some ⟨w.heap.size+1,0,none⟩) 1 1 [wB] by rw[e2,<-s1];exact aXv V1 [wB] _ rfl (by decide)).to b3 b3.size
 have r3:RdFl V3 V3.heap.size (some ⟨w.heap.size+1+1,0,none⟩) 3 3 (awakeV w.heap.size):=by
  refine ⟨?_,rfl,fun f hf=>?_⟩
  ·rw[e3,<-s2]
   exact aKr (heap_alloc_new V2 _) rfl rfl
  simp only[awakeV,List.mem_cons,List.mem_nil_iff,or_false] at hf
  rcases hf with rfl | rfl | rfl
  ·exact ⟨RdF.none_ _ _,Nat.zero_le _,(show I64 (-1) from ⟨by decide,by decide⟩),Nat.zero_le _⟩
  ·exact ⟨r1,(show 1<=17592186044416 by decide),(show I64 0 from ⟨by decide,by decide⟩),(show 1<=140737488351232 by decide)⟩
  exact ⟨r2,(show 1<=17592186044416 by decide),(show I64 0 from ⟨by decide,by decide⟩),Nat.zero_le _⟩
 obtain ⟨fs,hfs,hre⟩:=aQn
 have K:=aJq (l:=awakeV w.heap.size) (ms:=[]) (sl:=[]) (source:=1) (dest:=2) (hm.to b13) (show 3<=64 by decide) (Nat.zero_le _) (Nat.zero_le _) r3 (RdM.none_ _ _) (RdS.none_ _ _)
 rw[show (awakeV w.heap.size).map FLV.pl=awakeL from rfl,List.map_nil,hre] at K
 replace K:Calls Tryz.prog 13 #[.slice (some ⟨w.heap.size+1+1,0,none⟩) 3 3,.slice none 0 0,.int .i64 1,.int .i64 2,.slice none 0 0] V3 (MovedIs [] 0 (⟨[⟨2,⟨#[97]⟩,fs⟩],[(1,[3])],-1,[],[]⟩,0) V3):=K
 have HB:=hid b13
 have E3:=hid (show V3=((w.alloc (.cells #[.string ⟨#[97]⟩,.bool false,.string ⟨#[]⟩] 48)).alloc (.cells #[.string ⟨#[98]⟩,.bool false,.string ⟨#[]⟩] 48)).alloc (.cells #[.int .i64 (-1),.string ⟨#[]⟩,.slice none 0 0,.int .i64 0,.string ⟨#[97]⟩,.slice (some ⟨w.heap.size,0,none⟩) 1 1,.int .i64 0,.string ⟨#[]⟩,.slice (some ⟨w.heap.size+1,0,none⟩) 1 1] 40) by rw[e3,e2,e1])
 have HFS:=hid hfs
 clear b1 b2 b3 s1 s2 b23 b13 r1 r2 r3 e1 e2 e3 hre hfs
 rw[E3.out] at K
 go_enter Tryz.func10,Tryz.ntmps10
 go_wp2_with fail
 refine K.mono ?_
 rintro e w1 ⟨hb1,AN,AK,AF,AC,cn,ck,cf,cc,nl,kl,h6,h7,rfl,rn,_,_,_,_⟩
 obtain ⟨g,rfl,hg⟩:∃g,nl=[g]/\g.pl=⟨2,⟨#[97]⟩,fs⟩:=by
  cases nl with
  | nil=>exact absurd (congrArg List.length h6) (by simp)
  | cons g t=>
   cases t with
   | nil=>exact ⟨g,rfl,by injection h6⟩
   | cons _ _=>exact absurd (congrArg List.length h6) (by simp)
 obtain ⟨gp,gm,gA,gc,gf⟩:=g
 simp only[FLV.pl,FL.mk.injEq] at hg
 obtain ⟨rfl,rfl,rfl⟩:=hg
 obtain ⟨b0,o0,f,eA,hbb,hx,hfm,g0,g1,g2⟩:=rn.get (k:=0) (show 0<1 by decide)
 injection hx with hx
 subst hx eA
 have hl:gf.length=2:=HFS.out
 have HBB:=hid (HB.out.trans (by rw[<-E3.out] at hb1;exact hb1.mono HB.out.size))
 rw[Nat.zero_mul,Nat.add_zero] at g0 g1 g2
 simp only[hl] at g2
 clear K hb1 h1 h2 h3 h4 h5 E3 HB h6 h7 rn hfm HFS
 dsimp only[List.length_cons,List.length_nil]
 go_wp2
 go_ret
 exact ⟨rfl,HBB.out.alloc HBB.out.size _⟩
theorem aPe {l:List FL}{n k:Nat}{f:FL}(h:(playFl l n)[k]? = some f):-1<=f.parent/\f.parent<k/\∃x:List FV,f.files=playF x:=by
 unfold playFl at h
 rw[List.getElem?_mapIdx] at h
 obtain ⟨x,_,rfl⟩:=Option.map_eq_some_iff.1 h
 exact ⟨(aJg _ _).1,(aJg _ _).2,x.files,rfl⟩
theorem bAa {l:List FL}{n N:Nat}{ms:List MV}(hN:(playFl l n).length=N)(hm:rightM (N:Int) ms=true):rightL (playFl l n) ms=true:=by
 unfold rightL
 rw[hN,hm,Bool.and_true,Bool.and_eq_true]
 constructor
 ·refine aJp fun i p hp=>?_
  unfold parF at hp
  rw[List.getElem?_map] at hp
  obtain ⟨f,hf,rfl⟩:=Option.map_eq_some_iff.1 hp
  exact ⟨(aPe hf).1,(aPe hf).2.1⟩
 rw[List.all_eq_true]
 intro f hf
 obtain ⟨k,hk⟩:=List.getElem?_of_mem hf
 obtain ⟨x,hx⟩:=(aPe hk).2.2
 rw[hx];exact aWd x
def RebIs (k:Int)(w:World)(e:Ending) (w':World):Prop:=
 Below w.heap.size w w'/\∃(A1 A2 A3 A4:Option Addr) (n1 c1 n2 c2 n3 c3 n4 c4:Nat) (x:Int),e=.returned (.tuple #[.agg #[.slice A1 n1 c1,.slice A2 n2 c2,.int .i64 x,.slice A3 n3 c3,.slice A4 n4 c4],.int .i64 k])
theorem aPf {l:List FLV}{nl:List FLV}(h:nl.map FLV.pl=playFl (l.map FLV.pl) 12):nl.length<=12:=by
 have:=congrArg List.length h
 rw[List.length_map] at this
 have:=bAw (l.map FLV.pl) 12
 omega
end Go.Proofs.YtohblmepajhpaaaGreatDoor
namespace Go.Proofs.YtohblmepajhpaaaGreatDoor
theorem aPc {s:List SettL}{l l1:List FL}{c onto:Int}(h:oneOn s l c onto=.ok l1) :
  (mergedOn l s c onto).2=([],0)/\l1=l++[⟨onto,msgAt l c,(mergedOn l s c onto).1⟩]:=by
 unfold oneOn at h
 split at h
 ·cases h
 rename_i h1
 split at h
 ·cases h
 rename_i h2
 split at h
 ·cases h
 injection h with h
 exact ⟨Prod.ext (Decidable.not_not.1 h2) (Decidable.not_not.1 h1),h.symm⟩
theorem aRp {s:List SettL}{l:List FL}{c onto:Int}{e:MR×Int}(h:oneOn s l c onto=.error e):(e.2≠0->e.1=noMR)/\(e.2=0->e.1.clashes≠[]/\e.1.commit=c):=by
 unfold oneOn at h
 split at h
 ·rename_i h1
  injection h with h
  subst h
  exact ⟨fun _=>rfl,fun h=>absurd h h1⟩
 split at h
 ·rename_i h2
  injection h with h
  subst h
  exact ⟨fun h=>absurd rfl h,fun _=>⟨h2,rfl⟩⟩
 split at h
 ·injection h with h
  subst h
  exact ⟨fun _=>rfl,fun h=>absurd h (by decide)⟩
 cases h
def nowsF:List Int->Nat->List (Int×Int)->Nat->List (Int×Int)
 | [],_,now,_=>now
 | _::_,_,now,0=>now
 | c::cs,n,now,i+1=>nowsF cs (n+1) ((c,(n:Int))::now) i
def marksF:Nat->List Int->List (Int×List Int)
 | _,[]=>[]
 | n,c::cs=>(c,[(n:Int)])::marksF (n+1) cs
theorem bEw (cs:List Int)(n:Nat)(now:List (Int×Int)):nowsF cs n now 0=now:=by cases cs<;>rfl
theorem bHg {s:List SettL}{ps:List Int}{dest:Int}:∀(cs:List Int) (now:List (Int×Int)) (l:List FL) (k:List (Int×List Int)) {l':List FL} {k':List (Int×List Int)},runF' s ps dest cs now l k=.ok (l',k')->
  ∃new:List FL,l'=l++new/\new.length=cs.length/\k'=k++marksF l.length cs/\∀(i:Nat) (c:Int),cs[i]? = some c->
   (mergedOn (l++new.take i) s c (nowF (nowsF cs l.length now i) dest (par ps c))).2=([],0)/\
   new[i]? = some ⟨nowF (nowsF cs l.length now i) dest (par ps c),msgAt (l++new.take i) c,(mergedOn (l++new.take i) s c (nowF (nowsF cs l.length now i) dest (par ps c))).1⟩
 | [],now,l,k,l',k',h=>by
  rw[runF'] at h
  injection h with h
  injection h with h1 h2
  subst h1 h2
  exact ⟨[],by simp,rfl,by simp[marksF],fun i c h=>by cases h⟩
 | c::cs,now,l,k,l',k',h=>by
  rw[runF'] at h
  cases h1:oneOn s l c (nowF now dest (par ps c)) with
  | error e=>rw[h1] at h;cases h
  | ok l1=>
   rw[h1] at h
   dsimp only at h
   obtain ⟨m1,m2⟩:=aPc h1
   generalize hf:(⟨nowF now dest (par ps c),msgAt l c,(mergedOn l s c (nowF now dest (par ps c))).1⟩:FL)=f at m2
   have hl1:l1.length=l.length+1:=by rw[m2];simp
   obtain ⟨new,e1,e2,e3,e4⟩:=bHg cs _ _ _ h
   refine ⟨f::new,by rw[e1,m2];simp,by simp[e2],by rw[e3,hl1];simp[marksF],fun i d hd=>?_⟩
   cases i with
   | zero=>
    rw[List.getElem?_cons_zero] at hd
    injection hd with hd
    subst hd
    rw[bEw,List.take_zero,List.append_nil]
    exact ⟨m1,by rw[List.getElem?_cons_zero,hf]⟩
   | succ i=>
    rw[List.getElem?_cons_succ] at hd ⊢
    obtain ⟨p1,p2⟩:=e4 i d hd
    rw[hl1,show l1++new.take i=l++(f::new).take (i+1) by rw[m2,List.take_succ_cons];simp] at p1 p2
    exact ⟨p1,p2⟩
theorem aUb {s:List SettL}{ps:List Int}{dest:Int}{e:MR×Int}:∀(cs:List Int) (now:List (Int×Int)) (l:List FL) (k:List (Int×List Int)),runF' s ps dest cs now l k=.error e->
  (e.2≠0->e.1=noMR)/\(e.2=0->e.1.clashes≠[]/\e.1.commit∈cs)
 | [],_,_,_,h=>by rw[runF'] at h;cases h
 | c::cs,now,l,k,h=>by
  rw[runF'] at h
  cases h1:oneOn s l c (nowF now dest (par ps c)) with
  | error x=>
   rw[h1] at h
   injection h with h
   subst h
   obtain ⟨p1,p2⟩:=aRp h1
   exact ⟨p1,fun h=>⟨(p2 h).1,by rw[(p2 h).2];simp⟩⟩
  | ok l1=>
   rw[h1] at h
   obtain ⟨p1,p2⟩:=aUb cs _ _ _ h
   exact ⟨p1,fun h=>⟨(p2 h).1,List.mem_cons_of_mem _ (p2 h).2⟩⟩
def ontoF (cs:List Int)(n:Nat)(dest q:Int):Nat->Int
 | 0=>dest
 | k+1=>if cs[k]? = some q then ((n+k:Nat):Int) else ontoF cs n dest q k
theorem aEc {l m:List FL}{i:Int}(h:i<l.length):filesAt (l++m) i=filesAt l i:=by
 unfold filesAt
 by_cases h0:i<0
 ·rw[if_pos h0,if_pos h0]
 rw[if_neg h0,if_neg h0,List.getElem?_append_left (by omega)]
theorem bJu {l m:List FL}{i:Int}(h0:0<=i)(h:i<l.length):msgAt (l++m) i=msgAt l i:=by
 unfold msgAt
 rw[List.getElem?_append_left (by omega)]
theorem bIq {l m:List FL}{i:Int}(h0:0<=i)(h:i<l.length):par (parF (l++m)) i=par (parF l) i:=by
 unfold par parF
 rw[List.map_append,List.getElem?_append_left (by rw[List.length_map];omega)]
structure StandsF (l:List FL) (ms:List MV) (source dest:Int) (x:MR):Prop where
 len:x.new.length=(moved (parF l) ms source).length
 marks:x.marks=marksF l.length (moved (parF l) ms source)
 at_:∀(i:Nat) (c:Int),(moved (parF l) ms source)[i]? = some c->∃p:Int,p=(if c=source then dest else ontoF (moved (parF l) ms source) l.length dest (par (parF l) c) i)/\-1<=p/\p<((l.length+i:Nat):Int)/\
  ∃fs,treemergeF (filesAt l (par (parF l) c)) (filesAt (l++x.new) p) (filesAt l c)=(fs,[],0)/\x.new[i]? = some ⟨p,msgAt l c,fs⟩/\treeOk fs=true
def openB (s:Bs):Nat:=if s=[]\/s.getLast? = some 10 then 0 else 1
theorem aKs (s:Bs):(endedF s).length=s.length+openB s:=by
 unfold endedF openB;split<;>simp
theorem bCc (s x:Bs):openB (s++x)<=openB s+openB x:=by
 cases x with
 | nil=>rw[List.append_nil];omega
 | cons a x=>
  have h:openB (s++a::x)=openB (a::x):=by
   unfold openB
   rw[List.getLast?_append]
   have h1:∃z,(a::x).getLast? = some z:=by rw[List.getLast?_cons];exact ⟨_,rfl⟩
   obtain ⟨z,h1⟩:=h1
   rw[h1,Option.some_or]
   simp
  omega
def openS (l:List ByteArray):Nat:=(l.map fun x=>openB x.data.toList).sum
theorem bBs (l m:List ByteArray):openS (l++m)=openS l+openS m:=by simp[openS]
theorem aFu:∀(l:List ByteArray) (s:Bs),openB (s++catF l)<=openB s+openS l
 | [],s=>by simp[catF,openS]
 | x::l,s=>by
  have h1:=aFu l (s++x.data.toList)
  have h2:=bCc s x.data.toList
  have e:s++catF (x::l)=s++x.data.toList++catF l:=by simp[catF]
  have e2:openS (x::l)=openB x.data.toList+openS l:=rfl
  rw[e,e2]
  omega
theorem aGd (s m:Bs)(hm:m.getLast? = some 10):openB (s++m)=0:=by
 have h:(s++m).getLast? = some 10:=by rw[List.getLast?_append,hm,Option.some_or]
 unfold openB;rw[if_pos (.inr h)]
theorem aUf (out:Bs)(c:KV):(clashTextF out c).length+openB (clashTextF out c)<=out.length+openB out+(bytesF c.base+bytesF c.ours+bytesF c.theirs)+(openS c.base+openS c.ours+openS c.theirs)+if c.kind=5 then 49 else 0:=by
 unfold clashTextF
 by_cases h:c.kind=5
 ·rw[if_neg (by simp[h]),if_pos h]
  have e1:=aKs out
  have e2:=aKs (endedF out++markO++catF c.ours)
  have e3:=aKs (endedF (endedF out++markO++catF c.ours)++markB++catF c.base)
  have e4:=aKs (endedF (endedF (endedF out++markO++catF c.ours)++markB++catF c.base)++markT++catF c.theirs)
  have o2:=aFu c.ours (endedF out++markO)
  have o3:=aFu c.base (endedF (endedF out++markO++catF c.ours)++markB)
  have o4:=aFu c.theirs (endedF (endedF (endedF out++markO++catF c.ours)++markB++catF c.base)++markT)
  have o5:=aGd (endedF (endedF (endedF (endedF out++markO++catF c.ours)++markB++catF c.base)++markT++catF c.theirs)) markE rfl
  rw[aGd _ markO rfl] at o2
  rw[aGd _ markB rfl] at o3
  rw[aGd _ markT rfl] at o4
  simp only[List.length_append] at e2 e3 e4 ⊢
  have m1:markO.length=13:=rfl
  have m2:markB.length=13:=rfl
  have m3:markT.length=8:=rfl
  have m4:markE.length=15:=rfl
  unfold bytesF
  omega
 rw[if_pos h,if_neg h,List.length_append]
 have h1:=aFu (mergedF [c]) out
 have:(catF (mergedF [c])).length<=bytesF c.ours+bytesF c.theirs/\openS (mergedF [c])<=openS c.ours+openS c.theirs:=by
  unfold mergedF
  rw[List.flatMap_cons,List.flatMap_nil,List.append_nil]
  unfold bytesF
  split<;>omega
 omega
theorem aOn:∀(l:List KV) (out:Bs),(l.foldl clashTextF out).length<=out.length+openB out+(bytesF (l.flatMap KV.base)+bytesF (l.flatMap KV.ours)+bytesF (l.flatMap KV.theirs))+(openS (l.flatMap KV.base)+openS (l.flatMap KV.ours)+openS (l.flatMap KV.theirs))+49*clashN l
 | [],out=>by rw[List.foldl_nil];omega
 | c::l,out=>by
  rw[List.foldl_cons]
  have h1:=aOn l (clashTextF out c)
  have h2:=aUf out c
  have h3:clashN (c::l)=(if c.kind=5 then 1 else 0)+clashN l:=by
   unfold clashN
   rw[List.filter_cons]
   by_cases h:c.kind=5
   ·rw[if_pos (decide_eq_true h),if_pos h,List.length_cons];omega
   rw[if_neg (by simp[h]),if_neg h];omega
  have h4:∀(f:KV->List ByteArray),bytesF ((c::l).flatMap f)=bytesF (f c)+bytesF (l.flatMap f):=fun f=>by
   unfold bytesF;rw[List.flatMap_cons,aBx,List.length_append]
  have h5:∀(f:KV->List ByteArray),openS ((c::l).flatMap f)=openS (f c)+openS (l.flatMap f):=fun f=>by
   rw[List.flatMap_cons,bBs]
  rw[h4,h4,h4,h5,h5,h5,h3]
  split at h2
  ·rename_i h;rw[if_pos h];omega
  rename_i h;rw[if_neg h];omega
theorem aMw:∀(s:Bs),∀l∈splitL s,l≠[]
 | [],l,h=>by cases h
 | x::s,l,h=>by
  rw[splitL] at h
  split at h
  ·rcases List.mem_cons.1 h with rfl | h
   ·simp
   exact aMw s l h
  split at h
  ·simp only[List.mem_singleton] at h;subst h;simp
  rename_i m ms e
  rcases List.mem_cons.1 h with rfl | h
  ·simp
  exact aMw s l (by rw[e];exact List.mem_cons_of_mem _ h)
theorem aMv:∀(s:Bs),((splitL s).map openB).sum<=1
 | []=>by simp[splitL]
 | x::s=>by
  have ih:=aMv s
  rw[splitL]
  split
  ·rename_i h
   rw[List.map_cons,List.sum_cons]
   have:openB [x]=0:=by unfold openB;rw[if_pos (.inr (by simp[h]))]
   omega
  split
  ·rename_i h
   simp only[List.map_cons,List.map_nil,List.sum_cons,List.sum_nil]
   unfold openB;split<;>omega
  rename_i l ls e
  have hl:=aMw s l (by rw[e];simp)
  rw[e,List.map_cons,List.sum_cons] at ih
  rw[List.map_cons,List.sum_cons]
  have:openB (x::l)<=openB l:=by
   cases l with
   | nil=>exact absurd rfl hl
   | cons y l=>
    unfold openB
    rw[List.getLast?_cons_cons]
    simp
  omega
theorem aJd (s:ByteArray):openS (linesF s)<=1:=by
 have h:=aMv s.data.toList
 unfold openS linesF
 rw[List.map_map]
 have:((fun x:ByteArray=>openB x.data.toList) ∘ ofB)=openB:=by funext x;simp[ofB]
 rw[this];exact h
theorem aOq:∀l:List KV,(catF (mergedF l)).length<=bytesF (l.flatMap KV.ours)+bytesF (l.flatMap KV.theirs)
 | []=>by simp[mergedF,catF]
 | c::l=>by
  have ih:=aOq l
  unfold mergedF at ih ⊢
  have h4:∀(f:KV->List ByteArray),bytesF ((c::l).flatMap f)=bytesF (f c)+bytesF (l.flatMap f):=fun f=>by
   unfold bytesF;rw[List.flatMap_cons,aBx,List.length_append]
  rw[List.flatMap_cons,aBx,List.length_append,h4,h4]
  unfold bytesF at ih ⊢
  split<;>omega
theorem aKg (b o t:ByteArray):((merge3F b o t).2=true->(merge3F b o t).1.size<=o.size+t.size)/\(merge3F b o t).1.size<=b.size+o.size+t.size+11812:=by
 obtain ⟨s1,s2,s3⟩:=aFq (linesF b) (linesF o) (linesF t)
 have hb:=aFb (linesF b) (linesF o) (linesF t)
 have hc:∀s:ByteArray,bytesF (linesF s)=s.size:=fun s=>by unfold bytesF;rw[aCe,aCg]
 rw[merge3F]
 split
 ·have h1:=aOq (chunksF (linesF b) (linesF o) (linesF t))
  rw[s2,s3,hc,hc] at h1
  have h2:(joinF (mergedF (chunksF (linesF b) (linesF o) (linesF t)))).size=(catF (mergedF (chunksF (linesF b) (linesF o) (linesF t)))).length:=aHy _
  exact ⟨fun _=>by show (joinF (mergedF _)).size<=_;omega,by show (joinF (mergedF _)).size<=_;omega⟩
 refine ⟨fun h=>(by cases h),?_⟩
 show (ofB _).size<=_
 have h1:=aOn (chunksF (linesF b) (linesF o) (linesF t)) []
 have l1:=aJd b
 have l2:=aJd o
 have l3:=aJd t
 have l0:openB []=0:=rfl
 rw[s1,s2,s3,hc,hc,hc,List.length_nil,l0] at h1
 have h2:(ofB ((chunksF (linesF b) (linesF o) (linesF t)).foldl clashTextF [])).size=((chunksF (linesF b) (linesF o) (linesF t)).foldl clashTextF []).length:=aHy _
 omega
def wgt (l:List FV):Nat:=(l.map fun f=>f.text.size).sum
theorem aPv:∀{l:List FV} {f:FV},f∈l->f.text.size<=wgt l
 | x::l,f,h=>by
  have e:wgt (x::l)=x.text.size+wgt l:=rfl
  rcases List.mem_cons.1 h with rfl | h
  ·omega
  have:=aPv h;omega
theorem bHu {l m:List FV}(h:l.Sublist m):wgt l<=wgt m:=by
 induction h with
 | slnil=>exact Nat.le_refl _
 | cons x _ ih=>have e:∀l,wgt (x::l)=x.text.size+wgt l:=fun _=>rfl;rw[e];omega
 | cons_cons x _ ih=>have e:∀l,wgt (x::l)=x.text.size+wgt l:=fun _=>rfl;rw[e,e];omega
theorem bHq (l m:List FV):wgt (l++m)=wgt l+wgt m:=by simp[wgt]
theorem bEn (l:List FV)(f:FV):wgt (sortedIn l f)=wgt l+f.text.size:=by
 have e:wgt (f::l.dropWhile (lessF f))=f.text.size+wgt (l.dropWhile (lessF f)):=rfl
 have h:=congrArg wgt (List.takeWhile_append_dropWhile (p:=lessF f) (l:=l))
 rw[bHq] at h
 rw[sortedIn,bHq,e];omega
theorem bIf (out:List FV)(f:FV):wgt (playStep out f)<=wgt out+f.text.size:=by
 unfold playStep
 split
 ·omega
 split
 ·rename_i h2
  by_cases hk:PutOk out f
  ·rw[bDr hk]
   show wgt (sortedIn _ f)<=_
   rw[bEn]
   have:wgt (without out f.path)<=wgt out:=bHu List.filter_sublist
   omega
  exact absurd h2 (bDb hk).1
 omega
theorem bEp:∀(l out:List FV),wgt (l.foldl playStep out)<=wgt out+wgt l
 | [],out=>by simp[wgt]
 | f::l,out=>by
  have h:=bEp l (playStep out f)
  have h2:=bIf out f
  have e:wgt (f::l)=f.text.size+wgt l:=rfl
  rw[List.foldl_cons];omega
theorem bCr (l:List FV):wgt (playF l)<=wgt l:=by
 have h:=bEp (l.take 30) []
 have h2:wgt (l.take 30)<=wgt l:=bHu (List.take_sublist _ _)
 have e:wgt []=0:=rfl
 rw[playF];omega
theorem pigeon:∀{l L:List ByteArray},l.Nodup->(∀x∈l,x∈L)->l.length<=L.length
 | [],L,_,_=>by simp
 | x::l,L,hn,h=>by
  obtain ⟨h1,h2⟩:=List.nodup_cons.1 hn
  have hx:=h x (by simp)
  have:=pigeon (l:=l) (L:=L.filter fun y=>decide (y≠x)) h2 fun y hy=>List.mem_filter.2 ⟨h y (List.mem_cons_of_mem _ hy),decide_eq_true fun e=>h1 (by rw[<-e];exact hy)⟩
  have h3:(L.filter fun y=>decide (y≠x)).length<L.length:=List.length_filter_lt_length_iff_exists.2 ⟨x,hx,by simp⟩
  rw[List.length_cons];omega
theorem bCg {a b:List FV}{p d:ByteArray}(h:movedF a b p=some d):findP a d=none:=by
 unfold movedF at h
 obtain ⟨q,h1,h2⟩:=Option.bind_eq_some_iff.1 h
 obtain ⟨g,e1,e2⟩:=Option.map_eq_some_iff.1 h2
 obtain ⟨f,f1,f2,_⟩:=aXb.1 ((aDv a b).into q (List.mem_of_find?_eq_some h1))
 rw[e1] at f1
 injection f1 with f1
 subst f1 e2
 exact f2
theorem bBc {a b:List FV}{f g:FV}(h:whereF a b f=some g)(hne:g.path≠f.path):findP a g.path=none:=by
 unfold whereF at h
 cases h1:findP b f.path with
 | some x=>rw[h1] at h;injection h with h;subst h;exact absurd (aCi h1).2 hne
 | none=>
  rw[h1] at h
  dsimp only at h
  cases h2:movedF a b f.path with
  | none=>rw[h2] at h;cases h
  | some d=>
   rw[h2] at h
   have:=(aCi h).2
   rw[this];exact bCg h2
structure ActOk (base a b:List FV) (mb ma mc:Nat) (p:FV×Int):Prop where
 from_:(∃x∈a,x.path=p.1.path)\/∃y∈b,y.path=p.1.path
 long:p.1.text.size<=mb+ma+mc+11812
 short:p.2=0->p.1.text.size<=ma+mc
 clean:p.2=0->(∃y∈b,y.path=p.1.path)\/((∃x∈a,x.path=p.1.path)/\findP base p.1.path=none)
theorem bEt {base a b:List FV}{mb ma mc:Nat}(h0:∀f∈base,f.text.size<=mb)(h1:∀f∈a,f.text.size<=ma)(h2:∀f∈b,f.text.size<=mc):∀p∈acts base a b,ActOk base a b mb ma mc p:=by
 intro p hp
 unfold acts at hp
 rcases List.mem_append.1 hp with hp | hp
 ·obtain ⟨f,hf,h⟩:=List.mem_filterMap.1 hp
  unfold actK at h
  cases w1:whereF base a f with
  | none=>
   cases w2:whereF base b f with
   | none=>rw[w1,w2] at h;cases h
   | some y=>
    rw[w1,w2] at h
    dsimp only at h
    split at h
    ·cases h
    injection h with h;subst h
    have:=h2 y (aFh w2)
    exact ⟨.inr ⟨y,aFh w2,rfl⟩,by show y.text.size<=_;omega,fun e=>absurd e (show ¬(3:Int)=0 by decide),fun e=>absurd e (show ¬(3:Int)=0 by decide)⟩
  | some x=>
   have hx:=aFh w1
   have tx:=h1 x hx
   cases w2:whereF base b f with
   | none=>
    rw[w1,w2] at h
    dsimp only at h
    split at h
    ·cases h
    injection h with h;subst h
    exact ⟨.inl ⟨x,hx,rfl⟩,by show x.text.size<=_;omega,fun e=>absurd e (show ¬(3:Int)=0 by decide),fun e=>absurd e (show ¬(3:Int)=0 by decide)⟩
   | some y=>
    rw[w1,w2] at h
    injection h with h
    subst h
    have hy:=aFh w2
    have ty:=h2 y hy
    have tf:=h0 f hf
    obtain ⟨m1,m2⟩:=aKg f.text x.text y.text
    refine ⟨?_,by show (merge3F f.text x.text y.text).1.size<=_;omega,fun e=>?_,fun _=>?_⟩
    ·by_cases e:x.path=f.path
     ·exact .inr ⟨y,hy,by show y.path=(if x.path=f.path then y.path else x.path);rw[if_pos e]⟩
     exact .inl ⟨x,hx,by show x.path=(if x.path=f.path then y.path else x.path);rw[if_neg e]⟩
    ·have hc:(merge3F f.text x.text y.text).2=true:=by
      cases hm:(merge3F f.text x.text y.text).2 with
      | true=>rfl
      | false=>
       replace e:(if (merge3F f.text x.text y.text).2=false/\(if x.path=f.path then (0:Int) else if y.path≠f.path/\y.path≠x.path then 4 else 0)=0 then (1:Int) else if x.path=f.path then 0 else if y.path≠f.path/\y.path≠x.path then 4 else 0)=0:=e
       generalize (if x.path=f.path then (0:Int) else if y.path≠f.path/\y.path≠x.path then 4 else 0)=k at e
       by_cases hk:k=0
       ·rw[if_pos ⟨hm,hk⟩] at e;exact absurd e (by decide)
       rw[if_neg (fun h=>hk h.2)] at e;exact absurd e hk
     have:=m1 hc
     show (merge3F f.text x.text y.text).1.size<=_
     omega
    by_cases e:x.path=f.path
    ·exact .inl ⟨y,hy,by show y.path=(if x.path=f.path then y.path else x.path);rw[if_pos e]⟩
    refine .inr ⟨⟨x,hx,by show x.path=(if x.path=f.path then y.path else x.path);rw[if_neg e]⟩,?_⟩
    show findP base (if x.path=f.path then y.path else x.path)=none
    rw[if_neg e];exact bBc w1 e
 rcases List.mem_append.1 hp with hp | hp
 ·obtain ⟨x,hx,rfl⟩:=List.mem_map.1 hp
  obtain ⟨hx1,hx2,_⟩:=aLf.1 hx
  have tx:=h1 x hx1
  unfold actA
  cases w1:findP (addedF base b) x.path with
  | none=>exact ⟨.inl ⟨x,hx1,rfl⟩,by show x.text.size<=_;omega,fun _=>by show x.text.size<=_;omega,fun _=>.inr ⟨⟨x,hx1,rfl⟩,hx2⟩⟩
  | some y=>
   have hy1:=(aLf.1 (aCi w1).1).1
   have ty:=h2 y hy1
   dsimp only
   split
   ·exact ⟨.inl ⟨x,hx1,rfl⟩,by show x.text.size<=_;omega,fun _=>by show x.text.size<=_;omega,fun _=>.inr ⟨⟨x,hx1,rfl⟩,hx2⟩⟩
   obtain ⟨_,m2⟩:=aKg ⟨#[]⟩ x.text y.text
   have t1:(⟨#[]⟩:ByteArray).size=0:=rfl
   exact ⟨.inl ⟨x,hx1,rfl⟩,by show (merge3F ⟨#[]⟩ x.text y.text).1.size<=_;omega,fun e=>absurd e (show ¬(2:Int)=0 by decide),fun e=>absurd e (show ¬(2:Int)=0 by decide)⟩
 obtain ⟨y,hy,rfl⟩:=List.mem_map.1 hp
 have hy1:=(aLf.1 (List.mem_filter.1 hy).1).1
 have ty:=h2 y hy1
 exact ⟨.inr ⟨y,hy1,rfl⟩,by show y.text.size<=_;omega,fun _=>by show y.text.size<=_;omega,fun _=>.inl ⟨y,hy1,rfl⟩⟩
end Go.Proofs.YtohblmepajhpaaaGreatDoor
