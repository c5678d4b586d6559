/- Texts of the walks, together: Walks: the library's Builder within merge3's text: WriteByte, WriteString, String; text's put and mark. Walks: merge3's text: put, mark. Walk: merge3.Merge: three texts in one. -/
import Derived.Test.YtcemkikgaeghjaaGreatDoorG11
import Derived.Test.YtcemkikgaeghjaaGreatDoorG17
set_option maxHeartbeats 4000000
set_option maxRecDepth 100000
open Go.Lib (hid)
namespace Go.Proofs.YtcemkikgaeghjaaGreatDoor
open Go.RowKit
def TxtAt (B b:Nat)(p:Value)(s:Bs)(w:World):Prop:=Lib.BuilderAtF 139 5 B b p (Lib.byteCells s) w/\(s=[]->w.cell? ⟨b,1,none⟩=some (.slice none 0 0))
def Txt (B b:Nat)(s:Bs)(w:World):Prop:=TxtAt B b (.pointer none) s w\/TxtAt B b (.pointer (some ⟨b,0,none⟩)) s w
theorem liesTxt:liesAt Tryz.prog Tryz.prog.depth 139 (2 / Tryz.prog.cellsOf 139) 0 137 1=true:=by kernel_rfl
theorem aIi {B b:Nat}{s:Bs}{w:World}(h:Txt B b s w) :
  Calls Tryz.prog 171 #[.pointer (some ⟨b,0,none⟩)] w fun e w'=>e=.returned (.tuple #[])/\TxtAt B b (.pointer (some ⟨b,0,none⟩)) s w'/\Below B w w'/\Lib.OthersKept 5 (some b) w w':=by
 rcases h with h | h
 ·have hnil:=h.2
  replace h:=h.1
  have c0:=h.cell0
  have hs:=h.shape
  have hf:=h.frozen0
  obtain ⟨j,hj,hjs⟩:∃j,Tryz.prog.info? 137=some j/\j.size=2:=Option.map_eq_some_iff.1 (show (Tryz.prog.info? 137).map (·.size)=some 2 by kernel_rfl)
  have q1:=Lib.run_to_unsafe (P:=Tryz.prog) (w:=w) ⟨b,0,none⟩ Tryz.underlying135 Tryz.underlying231 hj (by rw[hjs];decide) hs (by show 0<2;omega)
  have q2:=Lib.run_from_unsafe (P:=Tryz.prog) (w:=w) ⟨b,0,none⟩ Tryz.underlying231 Tryz.underlying135 hj hs liesTxt
  have HU:Hid (TxtAt B b (.pointer (some ⟨b,0,none⟩)) s (w.setCell ⟨b,0,none⟩ (.pointer (some ⟨b,0,none⟩)))):=hid ⟨h.used (.pointer (some ⟨b,0,none⟩)),fun e=>(World.cell?_setCell_other _ _ _ _ (by simp)).trans (hnil e)⟩
  have HB:=hid ((Below.refl B w).setCell (p:=⟨b,0,none⟩) h.1 (.pointer (some ⟨b,0,none⟩)))
  have q3:(callFunc 193 #[.pointer (some ⟨b,0,none⟩)]).run Tryz.prog w=.ok (.value (.pointer (some ⟨b,0,none⟩))) w:=by
   rw[run_callFunc_extern Tryz.func193 (by kernel_rfl) (by kernel_rfl) (by kernel_rfl) (e:=Extern.AbiNoEscape.same) (by kernel_rfl),Lib.run_noEscape]
   rfl
  clear h hs hj hjs hnil
  go_enter Tryz.func171,Tryz.ntmps171
  go_wp2
  refine bodyPost_end (results_none rfl _ _ _) rfl ?_
  exact ⟨rfl,HU.out,HB.out,(Lib.OthersKept.refl _ _ w).setCell ⟨b,0,none⟩ rfl _⟩
 have c0:=h.1.cell0
 have H:=hid h
 clear h
 have q4:(binOp .neq 135 (.pointer (some ⟨b,0,none⟩)) (.pointer (some ⟨b,0,none⟩))).run Tryz.prog w=.ok (.bool false) w:=by
  obtain ⟨j,hj,_⟩:=Option.map_eq_some_iff.1 (show (Tryz.prog.info? 137).map (·.size)=some 2 by kernel_rfl)
  exact Lib.run_neq_ptr_same w _ Tryz.underlying135 hj
 go_enter Tryz.func171,Tryz.ntmps171
 go_wp2
 refine bodyPost_end (results_none rfl _ _ _) rfl ?_
 exact ⟨rfl,H.out,Below.refl _ _,Lib.OthersKept.refl _ _ _⟩
theorem bDk {B b:Nat}{s:Bs} {p v v':Value}{w:World}(hnil:s=[]->v'=.slice none 0 0)(hB:B<=b)(hb:w.heap[b]? = some (.cells #[p,v] 139 (0,0)))(ho:w.ownsRowF B 5 1 v' s.length (Lib.byteCells s)):TxtAt B b p s (w.setCell ⟨b,1,none⟩ v'):=by
 refine ⟨Lib.BuilderAtF.put (T:=139) (e:=5) hB hb (bs':=Lib.byteCells s) (by rw[Lib.byteCells_length];exact ho) (by decide),fun e=>?_⟩
 have:=heap_setCell_same w b 1 _ _ v' hb
 rw[Lib.cell_of_heap this,hnil e];rfl
theorem bCp {B b:Nat}{s:Bs}{c:UInt8}{w:World}(h:Txt B b s w)(hs:s.length+1<=1000000)(hBw:B<=w.heap.size) :
  Calls Tryz.prog 140 #[.pointer (some ⟨b,0,none⟩),.int .u8 c.toNat] w fun e w'=>e=.returned .nilIface/\TxtAt B b (.pointer (some ⟨b,0,none⟩)) (s++[c]) w'/\Below B w w'/\Lib.OthersKept 5 (some b) w w':=by
 obtain ⟨i0,hi,hz0,hz1,hz2⟩:=info_parts extra167.infoByte
 have K:=aIi h
 clear h
 go_enter Tryz.func140,Tryz.ntmps140
 go_wp2_with fail
 refine K.mono ?_
 rintro e w1 ⟨rfl,h1,hb1,hk1⟩
 obtain ⟨⟨hB,v,hbk,hown,hne⟩,hnil⟩:=h1
 rw[Lib.byteCells_length] at hown
 have c0:w1.cell? ⟨b,0,none⟩=some (.pointer (some ⟨b,0,none⟩)):=by rw[Lib.cell_of_heap hbk];rfl
 have c1:w1.cell? ⟨b,1,none⟩=some v:=by rw[Lib.cell_of_heap hbk];rfl
 have hw1:=hb1.size
 go_wp2_with (at_builtin;refine wpList_append_ownF _ rfl _ _ 117 rfl B 5 i0 (.int .u8 0) 1 1 Tryz.underlying117 hi hz0 hz1 hz2 rfl (by decide) _ _ _ rfl (hown.alloc _) ⟨w1.heap.size,0,none⟩ 1 1 [.int .u8 c.toNat] rfl rfl ?c1 ?c2 ?c3 ?c4 ?c5 ?_)
 case c1=>
  intro j u hj
  match j,hj with
  | 0,hj=>simp at hj;subst hj;simp[Addr.add]
 case c2=>intro u hu;simp at hu;subst hu;rfl
 case c3=>unfold maxLen;omega
 case c4=>omega
 case c5=>simp;omega
 intro v' w2 hown' hgrow _
 have hlt:b<w1.heap.size:=by
  rcases Nat.lt_or_ge b w1.heap.size with h' | h'
  ·exact h'
  simp[Array.getElem?_eq_none h'] at hbk
 have hb2:w2.heap[b]? = some (.cells #[.pointer (some ⟨b,0,none⟩),v] 139 (0,0)):=by
  rw[hgrow.block b (by simp;omega) (fun e=>hne e.symm),Below.heap_alloc w1 _ b hlt]
  exact hbk
 have d1:w2.cell? ⟨b,1,none⟩=some v:=by rw[Lib.cell_of_heap hb2];rfl
 have f1:w2.frozen? ⟨b,1,none⟩=false:=aAi hb2
 obtain ⟨A,m,cap,rfl⟩:∃A m cap,v'=.slice A m cap:=by
  rcases hown'.2 with ⟨hv,_⟩ | ⟨g,cap,cur,fz,hv,_⟩
  ·exact ⟨_,_,_,hv⟩
  exact ⟨_,_,_,hv⟩
 have HO:=hid (((hk1.alloc _).grown hgrow (Lib.ownsRowF_kind (hown.alloc _))).setCell ⟨b,1,none⟩ rfl (.slice A m cap))
 have HP:=hid (bDk (s:=s++[c]) (fun e=>by simp at e) hB hb2 (by simpa[Lib.byteCells] using hown'))
 have HB:=hid (((hb1.alloc (by omega) (.cells #[.int .u8 c.toNat] 5)).grown hgrow (by simp;omega) (fun k hk=>(hown.lt k hk).1)).setCell (p:=⟨b,1,none⟩) hB (.slice A m cap))
 clear hk1 hown hown' hgrow hbk hb2 hne hnil
 go_wp2
 go_ret
 exact ⟨rfl,HP.out,HB.out,HO.out⟩
theorem aEt {B b:Nat}{s:Bs}{t:ByteArray}{w:World}(h:Txt B b s w)(hs:s.length+t.size<=10000000)(hBw:B<=w.heap.size) :
  Calls Tryz.prog 138 #[.pointer (some ⟨b,0,none⟩),.string t] w fun e w'=>e=.returned (.tuple #[.int .i64 t.size,.nilIface])/\TxtAt B b (.pointer (some ⟨b,0,none⟩)) (s++t.data.toList) w'/\Below B w w'/\Lib.OthersKept 5 (some b) w w':=by
 obtain ⟨i0,hi,hz0,hz1,hz2⟩:=info_parts extra167.infoByte
 have K:=aIi h
 clear h
 go_enter Tryz.func138,Tryz.ntmps138
 go_wp2_with fail
 refine K.mono ?_
 rintro e w1 ⟨rfl,h1,hb1,hk1⟩
 obtain ⟨⟨hB,v,hbk,hown,hne⟩,hnil⟩:=h1
 rw[Lib.byteCells_length] at hown
 have c0:w1.cell? ⟨b,0,none⟩=some (.pointer (some ⟨b,0,none⟩)):=by rw[Lib.cell_of_heap hbk];rfl
 have c1:w1.cell? ⟨b,1,none⟩=some v:=by rw[Lib.cell_of_heap hbk];rfl
 have hw1:=hb1.size
 go_wp2_with (at_builtin;refine Lib.wpList_append_own_stringF _ rfl _ _ 117 9 rfl B 5 i0 Tryz.underlying117 Tryz.underlying9 hi hz0 hz1 hz2 _ _ _ rfl hown t rfl ?c3 ?c4 ?c5 ?_)
 case c3=>unfold maxLen;omega
 case c4=>omega
 case c5=>omega
 intro v' w2 hown' hgrow hiff
 have hlt:b<w1.heap.size:=by
  rcases Nat.lt_or_ge b w1.heap.size with h' | h'
  ·exact h'
  simp[Array.getElem?_eq_none h'] at hbk
 have hb2:w2.heap[b]? = some (.cells #[.pointer (some ⟨b,0,none⟩),v] 139 (0,0)):=by
  rw[hgrow.block b hlt (fun e=>hne e.symm)]
  exact hbk
 have d1:w2.cell? ⟨b,1,none⟩=some v:=by rw[Lib.cell_of_heap hb2];rfl
 have f1:w2.frozen? ⟨b,1,none⟩=false:=aAi hb2
 obtain ⟨A,m,cap,rfl⟩:∃A m cap,v'=.slice A m cap:=by
  rcases hown'.2 with ⟨hv,_⟩ | ⟨g,cap,cur,fz,hv,_⟩
  ·exact ⟨_,_,_,hv⟩
  exact ⟨_,_,_,hv⟩
 have hnil2:s++t.data.toList=[]->Value.slice A m cap=.slice none 0 0:=fun e=>by
  obtain ⟨e1,e2⟩:=List.append_eq_nil_iff.1 e
  have h3:=hnil e1
  rw[Lib.cell_of_heap hbk] at h3
  have h4:v=.slice none 0 0:=by simpa using h3
  exact hiff.2 ⟨h4,by first | (rw[<-aBk,e2];rfl) | exact aCb (by rw[e2];rfl)⟩
 have HO:=hid ((hk1.grown hgrow (Lib.ownsRowF_kind hown)).setCell ⟨b,1,none⟩ rfl (.slice A m cap))
 have HP:=hid (bDk (s:=s++t.data.toList) hnil2 hB hb2 (by rw[Lib.byteCells_append,List.length_append];exact hown'))
 have HB:=hid ((hb1.grown hgrow (by omega) (fun k hk=>(hown.lt k hk).1)).setCell (p:=⟨b,1,none⟩) hB (.slice A m cap))
 clear hk1 hown hown' hgrow hbk hb2 hne hnil hnil2 hiff
 go_wp2
 go_ret2
 exact ⟨rfl,HP.out,HB.out,HO.out⟩
theorem bAp {B b:Nat}{s:Bs}{w:World}(h:Txt B b s w) :
  Calls Tryz.prog 100 #[.pointer (some ⟨b,0,none⟩)] w fun e w'=>e=.returned (.string (ofB s))/\Txt B b s w'/\Below B w w'/\Lib.OthersKept 5 (some b) w w':=by
 obtain ⟨p,hp,hAt⟩:∃p,(p=.pointer none\/p=.pointer (some ⟨b,0,none⟩))/\TxtAt B b p s w:=by
  rcases h with h | h
  ·exact ⟨_,.inl rfl,h⟩
  exact ⟨_,.inr rfl,h⟩
 have HTX:Hid (∀u,TxtAt B b p s u->Txt B b s u):=fun u hu=>by
  rcases hp with rfl | rfl
  ·exact .inl hu
  exact .inr hu
 clear h hp
 obtain ⟨hA,hnil⟩:=hAt
 obtain ⟨hB,v,hbk,hown,hne⟩:=hA
 by_cases h0:s=[]
 ·subst h0
  have h3:=hnil rfl
  rw[Lib.cell_of_heap hbk] at h3
  obtain rfl:v=.slice none 0 0:=by simpa using h3
  have c1:w.drew.cell? ⟨b,1,none⟩=some (.slice none 0 0):=hnil rfl
  have hSD:(Builtin.unsafeSliceData_ #[117] 193 #[.slice none 0 0]).run Tryz.prog w.drew=.ok (.pointer none) w.drew:=rfl
  have hUS:(Builtin.unsafeString_ #[193,3] 9 #[.pointer none,.int .i64 0]).run Tryz.prog w.drew=.ok (.string .empty) w.drew:=Any.unsafeString_none Tryz.lays169 Tryz.Builder_Extra_169 w.drew none
  have HT:=hid (HTX.out w.drew ⟨⟨hB,_,hbk,hown,hne⟩,hnil⟩)
  clear hbk hown hne hnil h3 HTX
  have hmix:=(mixed:Tryz.prog.follows .mixedOrders=true)
  go_enter Tryz.func100,Tryz.ntmps100
  go_wp2
  go_region_o
  all_goals (go_wp2;go_ret;exact ⟨rfl,HT.out,Below.drew (Below.refl B w),(Lib.OthersKept.refl _ _ w).drew⟩)
 have hl0:s.length≠0:=by simpa using h0
 rw[Lib.byteCells_length] at hown
 obtain ⟨g,cap,cur,fz,rfl,hbg,hg,hfz,hnc,hcm,hcs,htake⟩:∃g cap cur fz,v=.slice (some ⟨g,0,none⟩) s.length cap/\B<=g/\w.heap[g]? = some (.cells cur 5 fz)/\fz.2<=s.length*1/\s.length<=cap/\cap<=maxLen/\cur.size=cap*1/\cur.toList.take (s.length*1)=Lib.byteCells s:=by
  rcases hown.2 with ⟨_,hz⟩ | ⟨g,cap,cur,fz,hv,r⟩
  ·exact absurd hz hl0
  exact ⟨g,cap,cur,fz,hv,r⟩
 have c1:w.drew.cell? ⟨b,1,none⟩=some (.slice (some ⟨g,0,none⟩) s.length cap):=by
  have:w.drew.heap[b]? = some (.cells #[p,.slice (some ⟨g,0,none⟩) s.length cap] 139 (0,0)):=hbk
  rw[Lib.cell_of_heap this];rfl
 have hSD:(Builtin.unsafeSliceData_ #[117] 193 #[.slice (some ⟨g,0,none⟩) s.length cap]).run Tryz.prog w.drew=.ok (.pointer (some ⟨g,0,none⟩)) w.drew:=
  Lib.run_unsafeSliceData_row _ _ _ _ _ _ (by omega)
 have hUS:(Builtin.unsafeString_ #[193,3] 9 #[.pointer (some ⟨g,0,none⟩),.int .i64 s.length]).run Tryz.prog w.drew=.ok (.string ⟨s.toArray⟩) (w.drew.freeze ⟨g,0,none⟩ s.length):=by
  refine Lib.run_unsafeString_row w.drew 193 3 9 5 Tryz.underlying193 Tryz.Builder_Extra_169.cellsByte g cur.size (by have hg':w.drew.heap[g]? = some (.cells cur 5 fz):=hg;simp[World.shape?,hg']) s h0 (by omega) (by unfold maxLen at hcm;omega) ?_
  intro j x hx
  have:=hown.cells (g:=g) rfl j (.int .u8 x.toNat) (by simp[Lib.byteCells,hx])
  exact this
 have hA:Lib.BuilderAtF 139 5 B b p (Lib.byteCells s) w.drew:=⟨hB,_,hbk,by rw[Lib.byteCells_length];exact hown,hne⟩
 have hF:=hA.froze (g:=g) (cap:=cap) (by rw[Lib.byteCells_length];exact c1)
 rw[Lib.byteCells_length] at hF
 have HT:=hid (HTX.out _ ⟨hF,fun e=>absurd e h0⟩)
 have HO:=hid (((Lib.OthersKept.refl 5 (some b) w).drew).freeze ⟨g,0,none⟩ s.length ⟨cur,fz,hg⟩)
 have HB:=hid (Lib.below_freeze (Below.drew (Below.refl B w)) (p:=⟨g,0,none⟩) hbg s.length)
 clear hA hF hbk hown hne hnil HTX
 have hmix:=(mixed:Tryz.prog.follows .mixedOrders=true)
 go_enter Tryz.func100,Tryz.ntmps100
 go_wp2
 go_region_o
 all_goals (go_wp2;go_ret;exact ⟨rfl,HT.out,HB.out,HO.out⟩)
theorem TxtAt.below {B b:Nat}{p:Value}{s:Bs} {w w':World}(h:TxtAt B b p s w)(hb:Below w.heap.size w w'):TxtAt B b p s w':=by
 obtain ⟨⟨hB,v,hbk,hown,hne⟩,hnil⟩:=h
 have hlt:b<w.heap.size:=by
  rcases Nat.lt_or_ge b w.heap.size with h' | h'
  ·exact h'
  simp[Array.getElem?_eq_none h'] at hbk
 exact ⟨⟨hB,v,(hb.block b hlt).trans hbk,hown.kept (row:=none) ⟨hb.os,hb.tape,hb.output,hb.size,fun k hk _=>hb.block k hk⟩ (by cases hv:v.ownBlock<;>simp),hne⟩,fun e=>(hb.cell (p:=⟨b,1,none⟩) hlt).trans (hnil e)⟩
theorem Txt.below {B b:Nat}{s:Bs} {w w':World}(h:Txt B b s w)(hb:Below w.heap.size w w'):Txt B b s w':=by
 rcases h with h | h
 ·exact .inl (h.below hb)
 exact .inr (h.below hb)
theorem aCp (s:Bs):(ofB s).data.toList=s:=by simp[ofB]
theorem aBw (l:List ByteArray):(joinF l).data.toList=catF l:=aCp _
theorem aDl {b:Nat} {w w':World}(h:Below w.heap.size w w'):Lib.OthersKept 5 (some b) w w':=fun k o hk _ _=>by
 have hlt:k<w.heap.size:=by
  rcases Nat.lt_or_ge k w.heap.size with h' | h'
  ·exact h'
  simp[Array.getElem?_eq_none h'] at hk
 exact (h.block k hlt).trans hk
def TxtIs (B b:Nat)(s:Bs)(w:World)(e:Ending) (w':World):Prop:=e=.returned (.tuple #[])/\Txt B b s w'/\Below B w w'/\Lib.OthersKept 5 (some b) w w'
theorem aLv {B b n c:Nat}{s:Bs}{A:Option Addr}{l:List ByteArray}{w:World}(h:Txt B b s w)(hBw:B<=w.heap.size)(hn:n<=1000000)(hl:Rd w w.heap.size 1 A n c (l.map .string))(hs:s.length+(catF l).length<=10000000) :
  Calls Tryz.prog 98 #[.pointer (some ⟨b,0,none⟩),.slice A n c] w (TxtIs B b (s++catF l) w):=by
 have hsz:(joinF l).size=(catF l).length:=by rw[<-aBk,aBw]
 go_enter Tryz.func98,Tryz.ntmps98
 go_wp2
 refine aAd (fun _=>True) [(true,0),(true,1),(true,2),(true,3),(false,4),(false,5)] mixed (by kernel_rfl) trivial ?_
 intro Tp M Q hT hT' hM hQ
 clear hM
 simp only[qcmp]
 simp (maxSteps:=9^7) only[↓qpre,aAb,aAf,aAc]
 refine aAh (by kernel_rfl) (aXa (w:=w.drew) (by omega) hl.drew (by omega)) rfl rfl ?_
 rintro e w1 ⟨rfl,hb1⟩
 have h1:=h.below (show Below w.heap.size w w1 from (Below.refl _ _).drew.trans hb1)
 have hw1:B<=w1.heap.size:=Nat.le_trans hBw hb1.size
 have HO1:=hid (aDl (b:=b) (show Below w.heap.size w w1 from (Below.refl _ _).drew.trans hb1))
 have HB1:=hid (show Below B w w1 from ((Below.refl w.heap.size w).drew.trans hb1).mono hBw)
 refine ⟨_,rfl,hT _ trivial,?_⟩
 simp (maxSteps:=9^7) only[aAb,aAc]
 refine aAh (by kernel_rfl) (aEt h1 (by omega) hw1) rfl rfl ?_
 rintro e w2 ⟨rfl,h2,hb2,ho2⟩
 have HO2:=hid (HO1.out.trans ho2)
 rw[aBw] at h2
 have HT2:=hid h2
 have HB2:=hid (HB1.out.trans hb2)
 refine ⟨_,rfl,hT _ trivial,?_⟩
 simp (maxSteps:=9^7) only[aAb,aAc]
 refine hQ _ _ ?_
 clear hQ hT hT' h h1 h2 hb1 hb2 hl ho2
 go_wp2
 refine bodyPost_end (results_none rfl _ _ _) rfl ?_
 exact ⟨rfl,.inr HT2.out,HB2.out,HO2.out⟩
theorem suffix10 (s:Bs):Lib.hasSuffix s [10]=decide (s.getLast? = some 10):=by
 unfold Lib.hasSuffix
 rw[Bool.eq_iff_iff,decide_eq_true_eq,List.isSuffixOf_iff_suffix]
 constructor
 ·rintro ⟨t,rfl⟩;simp
 intro h
 obtain ⟨l,hl⟩:=List.getLast?_eq_some_iff.1 h
 exact ⟨l,hl.symm⟩
theorem aIw {B b k:Nat}{s:Bs}{w:World}(h:Txt B b s w)(hBw:B<=w.heap.size)(hk:k<=3)(hs:s.length<=900000) :
  Calls Tryz.prog 99 #[.pointer (some ⟨b,0,none⟩),.int .i64 k] w (TxtIs B b (endedF s++(markS k).data.toList) w):=by
 have hmsz:(markS k).size<=20:=by
  have:k=0\/k=1\/k=2\/k=3:=by omega
  rcases this with rfl | rfl | rfl | rfl<;>decide
 have K0:=bAp h
 go_enter Tryz.func99,Tryz.ntmps99
 go_wp2_with fail
 refine K0.mono ?_
 rintro e w1 ⟨rfl,h1,hb1,ho1⟩
 have HO1:=hid ho1
 have hw1:B<=w1.heap.size:=Nat.le_trans hBw hb1.size
 have HT1:=hid h1
 have HB1:=hid hb1
 clear K0 h h1 hb1 ho1
 have hSf:=Tryz.strings_HasSuffix (ofB s) ⟨#[10]⟩ w1 (by rw[aLk];omega)
 rw[aCp,show (⟨#[10]⟩:ByteArray).data.toList=[10] from rfl,suffix10] at hSf
 have hE0:(ofB s).toList.isEmpty=decide (s=[]):=by
  cases s with
  | nil=>simp[ofB]
  | cons x s=>
   have e0:=aBe (show ofB (x::s)≠⟨#[]⟩ from fun e=>by have:=congrArg (fun y:ByteArray=>y.data.toList) e;simp[ofB] at this)
   cases h:(ofB (x::s)).toList with
   | nil=>rw[h] at e0;simp at e0
   | cons=>rfl
 generalize ofB s=S at *
 by_cases h0:s=[]
 ·have HE:=hid (show endedF s=s by rw[endedF,if_pos (.inl h0)])
  rw[decide_eq_true h0] at hE0
  clear hSf h0
  go_wp2
  have HT:=HT1
  have HB:=HB1
  have HO:=HO1
  have hwb:=hw1
  refine aAd (fun _=>True) [(true,0),(true,1),(true,2),(true,3),(false,4),(false,5)] mixed (by kernel_rfl) trivial ?_
  intro Tp M Q hT hT' hM hQ
  clear hM
  simp only[qcmp]
  simp (maxSteps:=9^7) only[↓qpre,aAb,aAf,aAc]
  refine aAh (by kernel_rfl) (aQl (w:=w1.drew) hk) rfl rfl ?_
  rintro e w3 ⟨rfl,hb3⟩
  have h3:=HT.out.below (show Below w1.heap.size w1 w3 from (Below.refl _ _).drew.trans hb3)
  have hw3:B<=w3.heap.size:=Nat.le_trans hwb hb3.size
  have HO3:=hid (HO.out.trans (aDl (b:=b) (show Below w1.heap.size w1 w3 from (Below.refl _ _).drew.trans hb3)))
  have HB3:=hid (HB.out.trans (show Below B w1 w3 from ((Below.refl w1.heap.size w1).drew.trans hb3).mono hwb))
  refine ⟨_,rfl,hT _ trivial,?_⟩
  simp (maxSteps:=9^7) only[aAb,aAc]
  refine aAh (by kernel_rfl) (aEt h3 (by omega) hw3) rfl rfl ?_
  rintro e w4 ⟨rfl,h4,hb4,ho4⟩
  have HO4:=hid (HO3.out.trans ho4)
  have HT4:=hid h4
  have HB4:=hid (HB3.out.trans hb4)
  refine ⟨_,rfl,hT _ trivial,?_⟩
  simp (maxSteps:=9^7) only[aAb,aAc]
  refine hQ _ _ ?_
  clear hQ hT hT' h3 h4 hb3 hb4 ho4
  go_wp2
  refine bodyPost_end (results_none rfl _ _ _) rfl ?_
  exact ⟨rfl,.inr (by rw[HE.out];exact HT4.out),HB4.out,HO4.out⟩
 rw[decide_eq_false h0] at hE0
 go_wp2_with fail
 refine hSf.mono ?_
 rintro e w2 ⟨rfl,rfl⟩
 clear hSf
 by_cases hg:s.getLast? = some 10
 ·have HE:=hid (show endedF s=s by rw[endedF,if_pos (.inr hg)])
  rw[decide_eq_true hg]
  clear hg h0
  go_wp2
  have HT:=HT1
  have HB:=HB1
  have HO:=HO1
  have hwb:=hw1
  refine aAd (fun _=>True) [(true,0),(true,1),(true,2),(true,3),(false,4),(false,5)] mixed (by kernel_rfl) trivial ?_
  intro Tp M Q hT hT' hM hQ
  clear hM
  simp only[qcmp]
  simp (maxSteps:=9^7) only[↓qpre,aAb,aAf,aAc]
  refine aAh (by kernel_rfl) (aQl (w:=w2.drew) hk) rfl rfl ?_
  rintro e w3 ⟨rfl,hb3⟩
  have h3:=HT.out.below (show Below w2.heap.size w2 w3 from (Below.refl _ _).drew.trans hb3)
  have hw3:B<=w3.heap.size:=Nat.le_trans hwb hb3.size
  have HO3:=hid (HO.out.trans (aDl (b:=b) (show Below w2.heap.size w2 w3 from (Below.refl _ _).drew.trans hb3)))
  have HB3:=hid (HB.out.trans (show Below B w2 w3 from ((Below.refl w2.heap.size w2).drew.trans hb3).mono hwb))
  refine ⟨_,rfl,hT _ trivial,?_⟩
  simp (maxSteps:=9^7) only[aAb,aAc]
  refine aAh (by kernel_rfl) (aEt h3 (by omega) hw3) rfl rfl ?_
  rintro e w4 ⟨rfl,h4,hb4,ho4⟩
  have HO4:=hid (HO3.out.trans ho4)
  have HT4:=hid h4
  have HB4:=hid (HB3.out.trans hb4)
  refine ⟨_,rfl,hT _ trivial,?_⟩
  simp (maxSteps:=9^7) only[aAb,aAc]
  refine hQ _ _ ?_
  clear hQ hT hT' h3 h4 hb3 hb4 ho4
  go_wp2
  refine bodyPost_end (results_none rfl _ _ _) rfl ?_
  exact ⟨rfl,.inr (by rw[HE.out];exact HT4.out),HB4.out,HO4.out⟩
 have HE:=hid (show endedF s=s++[10] by rw[endedF,if_neg (by rintro (h | h);exact h0 h;exact hg h)])
 rw[decide_eq_false hg]
 clear hg h0
 have KW:=bCp (c:=10) HT1.out (by omega) hw1
 go_wp2_with fail
 refine KW.mono ?_
 rintro e w5 ⟨rfl,h5,hb5,ho5⟩
 have HO:=hid (HO1.out.trans ho5)
 have HT:=hid (show Txt B b (s++[10]) w5 from .inr h5)
 have HB:=hid (HB1.out.trans hb5)
 have hwb:=Nat.le_trans hw1 hb5.size
 have hs:(s++[(10:UInt8)]).length<=900001:=by simp;omega
 clear KW h5 hb5 ho5
 go_wp2
 refine aAd (fun _=>True) [(true,0),(true,1),(true,2),(true,3),(false,4),(false,5)] mixed (by kernel_rfl) trivial ?_
 intro Tp M Q hT hT' hM hQ
 clear hM
 simp only[qcmp]
 simp (maxSteps:=9^7) only[↓qpre,aAb,aAf,aAc]
 refine aAh (by kernel_rfl) (aQl (w:=w5.drew) hk) rfl rfl ?_
 rintro e w3 ⟨rfl,hb3⟩
 have h3:=HT.out.below (show Below w5.heap.size w5 w3 from (Below.refl _ _).drew.trans hb3)
 have hw3:B<=w3.heap.size:=Nat.le_trans hwb hb3.size
 have HO3:=hid (HO.out.trans (aDl (b:=b) (show Below w5.heap.size w5 w3 from (Below.refl _ _).drew.trans hb3)))
 have HB3:=hid (HB.out.trans (show Below B w5 w3 from ((Below.refl w5.heap.size w5).drew.trans hb3).mono hwb))
 refine ⟨_,rfl,hT _ trivial,?_⟩
 simp (maxSteps:=9^7) only[aAb,aAc]
 refine aAh (by kernel_rfl) (aEt h3 (by omega) hw3) rfl rfl ?_
 rintro e w4 ⟨rfl,h4,hb4,ho4⟩
 have HO4:=hid (HO3.out.trans ho4)
 have HT4:=hid h4
 have HB4:=hid (HB3.out.trans hb4)
 refine ⟨_,rfl,hT _ trivial,?_⟩
 simp (maxSteps:=9^7) only[aAb,aAc]
 refine hQ _ _ ?_
 clear hQ hT hT' h3 h4 hb3 hb4 ho4
 go_wp2
 refine bodyPost_end (results_none rfl _ _ _) rfl ?_
 exact ⟨rfl,.inr (by rw[HE.out];exact HT4.out),HB4.out,HO4.out⟩
theorem aQs {f:KV->List ByteArray}{L:List KV}{c:KV}(hc:c∈L):(catF (f c)).length<=(catF (L.flatMap f)).length/\(f c).length<=(L.flatMap f).length:=by
 obtain ⟨a,b,rfl⟩:=List.append_of_mem hc
 rw[List.flatMap_append,List.flatMap_cons,aDn,aDn]
 simp only[List.length_append]
 omega
theorem aQk {f:KV->List ByteArray}(L:List KV)(k:Nat):bytesF ((L.take k).flatMap f)<=bytesF (L.flatMap f):=by
 have:(L.take k).flatMap f++(L.drop k).flatMap f=L.flatMap f:=by rw[<-List.flatMap_append,List.take_append_drop]
 unfold bytesF
 rw[<-this,aDn,List.length_append];omega
theorem aXr (L:List KV)(k:Nat):clashN (L.take k)<=clashN L:=by
 have:L.take k++L.drop k=L:=List.take_append_drop _ _
 rw[<-this,aKd,this];omega
theorem aKs:∀(L:List KV),(catF (mergedF L)).length<=(catF (L.flatMap KV.ours)).length+(catF (L.flatMap KV.theirs)).length/\(mergedF L).length<=(L.flatMap KV.ours).length+(L.flatMap KV.theirs).length
 | []=>⟨by simp[mergedF,catF],by simp[mergedF]⟩
 | c::L=>by
  obtain ⟨h1,h2⟩:=aKs L
  have e:mergedF (c::L)=(if c.kind=3 then c.theirs else c.ours)++mergedF L:=by simp[mergedF]
  rw[e,aDn,List.flatMap_cons,List.flatMap_cons,aDn,aDn]
  simp only[List.length_append]
  split<;>omega
structure Few3 (b o t:ByteArray) (L:List KV):Prop where
 each:∀c∈L,((catF c.base).length<=100000/\(catF c.ours).length<=100000/\(catF c.theirs).length<=100000)/\c.base.length<=100000/\c.ours.length<=100000/\c.theirs.length<=100000
 fold:∀k,((L.take k).foldl clashTextF []).length<=320000
 all:(catF (mergedF L)).length<=200000/\(mergedF L).length<=200000
theorem few3 {b o t:ByteArray}(hb:b.size<=100000)(ho:o.size<=100000)(ht:t.size<=100000):Few3 b o t (chunksF (linesF b) (linesF o) (linesF t)):=by
 obtain ⟨e1,e2,e3⟩:=aFi (linesF b) (linesF o) (linesF t)
 have l1:=aBg b
 have l2:=aBg o
 have l3:=aBg t
 have c1:(catF (linesF b)).length=b.size:=by rw[aDe];rfl
 have c2:(catF (linesF o)).length=o.size:=by rw[aDe];rfl
 have c3:(catF (linesF t)).length=t.size:=by rw[aDe];rfl
 have hcl:=aKx (linesF b) (linesF o) (linesF t)
 generalize chunksF (linesF b) (linesF o) (linesF t)=L at *
 refine ⟨fun c hc=>?_,fun k=>?_,?_⟩
 ·have h1:=aQs (f:=KV.base) hc
  have h2:=aQs (f:=KV.ours) hc
  have h3:=aQs (f:=KV.theirs) hc
  rw[e1] at h1
  rw[e2] at h2
  rw[e3] at h3
  exact ⟨⟨by omega,by omega,by omega⟩,by omega,by omega,by omega⟩
 ·have h:=aQa (L.take k) []
  have h1:=aQk (f:=KV.base) L k
  have h2:=aQk (f:=KV.ours) L k
  have h3:=aQk (f:=KV.theirs) L k
  have h4:=aXr L k
  rw[e1] at h1
  rw[e2] at h2
  rw[e3] at h3
  unfold bytesF at *
  simp only[List.length_nil] at h
  omega
 have h:=aKs L
 rw[e2,e3] at h
 exact ⟨by omega,by omega⟩
theorem aOf (b o t:List ByteArray):(chunksF b o t).length<=2*b.length+1:=by
 obtain ⟨i,b0,o0,t0,L,hO,hi⟩:∃i b0 o0 t0 L,OfAt b o t i b0 o0 t0 L/\b.length<=i:=by
  have step:∀(m i b0 o0 t0:Nat) (L:List KV),b.length<=i+m->OfAt b o t i b0 o0 t0 L->∃i b0 o0 t0 L,OfAt b o t i b0 o0 t0 L/\b.length<=i:=by
   intro m
   induction m with
   | zero=>intro i b0 o0 t0 L h hO;exact ⟨i,b0,o0,t0,L,hO,by omega⟩
   | succ m ih=>
    intro i b0 o0 t0 L h hO
    rcases Nat.lt_or_ge i b.length with hlt | hge
    ·by_cases hs:(keptAt b o i).isSome=true/\(keptAt b t i).isSome=true
     ·obtain ⟨x,hx⟩:=Option.isSome_iff_exists.1 hs.1
      obtain ⟨y,hy⟩:=Option.isSome_iff_exists.1 hs.2
      have hex:∀m n,1<=n->RunTo b o t i x y n->b.length<=i+n+m->∃n,1<=n/\RunTo b o t i x y n/\¬(keptAt b o (i+n)=some (x+n)/\keptAt b t (i+n)=some (y+n)):=by
       intro m
       induction m with
       | zero=>intro n hn hr hl;exact ⟨n,hn,hr,fun e=>by have:=aBz e.1;omega⟩
       | succ m ih2=>
        intro n hn hr hl
        by_cases e:keptAt b o (i+n)=some (x+n)/\keptAt b t (i+n)=some (y+n)
        ·refine ih2 (n+1) (by omega) (fun k hk=>?_) (by omega)
         rcases Nat.lt_or_ge k n with h | h
         ·exact hr k h
         rw[show k=n by omega];exact e
        exact ⟨n,hn,hr,e⟩
      obtain ⟨n,hn,hr,hst⟩:=hex b.length 1 (Nat.le_refl _) (fun k hk=>by rw[show k=0 by omega];exact ⟨hx,hy⟩) (by omega)
      exact ih _ _ _ _ _ (by omega) (hO.run (by omega) hr hst).1
     exact ih _ _ _ _ _ (by omega) (hO.skip hlt hs)
    exact ⟨i,b0,o0,t0,L,hO,hge⟩
  exact step b.length 0 0 0 0 [] (by omega) (OfAt.start b o t)
 have h1:=hO.last hi
 have h2:=hO.len
 have h3:=hO.hi
 have hbl:(betweenF (sliceF b b0 b.length) (sliceF o o0 o.length) (sliceF t t0 t.length)).length<=1:=by unfold betweenF;split<;>simp
 rw[h1,List.length_append]
 omega
end Go.Proofs.YtcemkikgaeghjaaGreatDoor
