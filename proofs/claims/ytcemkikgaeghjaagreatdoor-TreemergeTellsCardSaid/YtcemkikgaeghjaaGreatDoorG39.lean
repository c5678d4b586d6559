/- Texts of the walks, together: Walk: the reference's Script. Plain: the document's places of lines. Walk: the document's places. -/
import Derived.Test.YtcemkikgaeghjaaGreatDoorG12
import Derived.Test.YtcemkikgaeghjaaGreatDoorG16
import Derived.Test.YtcemkikgaeghjaaGreatDoorG34
import Derived.Test.YtcemkikgaeghjaaGreatDoorG35
set_option maxHeartbeats 8000000
set_option maxRecDepth 100000
open Go.Lib (hid)
namespace Go.Proofs.YtcemkikgaeghjaaGreatDoor
open Go.RowKit
theorem aEe {w:World}{g:Nat}{o:Obj}(h:g=w.heap.size):(w.alloc o).heap[g]? = some o:=by subst h;exact heap_alloc_new w o
theorem Rd.lit {w:World}{g B sz n c:Nat}{cs:List Value}{t:TypeId}(h:w.heap[g]? = some (.cells cs.toArray t (0,0)))(hB:g<B)(hl:cs.length=n*sz)(hc:n<=c) :
  Rd w B sz (some ⟨g,0,none⟩) n c cs:=
 ⟨hl,hc,fun _=>⟨g,0,rfl,hB,fun j u hu=>by rw[cell_of_row w _ _ _ _ _ h];simpa using hu⟩⟩
theorem oneE (k:Int)(s:ByteArray):∀u∈[Value.int .i64 k,.string s],u.oneCell'=true:=by simp[Value.oneCell']
def EditsBelow (es:List DV)(w:World)(e:Ending) (w':World):Prop:=
 ∃A n c,e=.returned (.slice A n c)/\Rd w' w'.heap.size 2 A n c (es.flatMap DV.cells)/\Below w.heap.size w w'
def EOwn (w:World)(base:Nat)(v:Value)(es:List DV):Prop:=w.ownsRow base 203 2 v es.length (es.flatMap DV.cells)
theorem EOwn.push {w:World}{base:Nat}{v:Value}{es:List DV}{k:Int}{s:ByteArray}(h:w.ownsRow base 203 2 v (es.length+1) (es.flatMap DV.cells++[.int .i64 k,.string s])):EOwn w base v (es++[⟨k,s⟩]):=by
 unfold EOwn
 rw[List.flatMap_append,List.length_append]
 simpa[DV.cells] using h
theorem EOwn.alloc {w:World}{base:Nat}{v:Value}{es:List DV}(h:EOwn w base v es)(o:Obj):EOwn (w.alloc o) base v es:=World.ownsRow.alloc h o
theorem EOwn.drew {w:World}{base:Nat}{v:Value}{es:List DV}(h:EOwn w base v es):EOwn w.drew base v es:=World.ownsRow.drew h
theorem aDz {W w0:World}{a:Act}{ops:Array Oper}{rest:List Oper}{o:Oper}{Q:Exit->Act->World->Prop}(hgd:o.guard=none)(s x:Operand)
  (ho:o.op=.call { callee:=.builtin .append,args:=#[s,x],argTypes:=#[200,200] }) {v:Value} {L:List DV} {K:Int} {ln:ByteArray} {g:Nat}
  (hs:a.eval s=v) (hx:a.eval x=.slice (some ⟨g,0,none⟩) 1 1) (hown:EOwn W w0.heap.size v L) (hg:W.heap[g]? = some (.cells #[.int .i64 K,.string ln] 203 (0,0))) (hL:L.length<=4398046511104)
  (hb:Below w0.heap.size w0 W)
  (hK:∀v' w',EOwn w' w0.heap.size v' (L++[⟨K,ln⟩])->Below w0.heap.size w0 w'->W.grownBy w' v.ownBlock->(v'.ownBlock=v.ownBlock\/v'.ownBlock=some W.heap.size)->wpList Tryz.prog ops Q rest (a.put o.dst v') w') :
  wpList Tryz.prog ops Q (o::rest) a W:=
 aAm hgd s x 200 ho aFv (base:=w0.heap.size) (B:=g+1) hs hx hown (Rd.lit hg (Nat.lt_succ_self _) rfl (Nat.le_refl _)) (oneE _ _) (by simp only[maxLen];omega) (by omega) hb.size
  fun v' w' h1 h2 h3=>hK v' w' (EOwn.push h1) (hb.grown h2 hb.size (fun g hg=>(hown.lt g hg).1)) h2 h3
theorem bAw {a b:List ByteArray}{k:Nat}{x:ByteArray}(h:a.take k=b.take k)(hx:a[k]? = some x)(hy:b[k]? = some x):a.take (k+1)=b.take (k+1):=by
 rw[List.take_add_one,List.take_add_one,h,hx,hy]
theorem EOwn.result {w w0:World}{v:Value}{es:List DV}{e:Ending}(h:EOwn w w0.heap.size v es)(hb:Below w0.heap.size w0 w)(he:e=.returned v):EditsBelow es w0 e w:=by
 obtain ⟨A,c,rfl,hc⟩:=aAg h
 exact ⟨A,_,c,he,Rd.of_own h hc,hb⟩
def ST (w:World)(base:Nat)(v:Value)(L:List DV)(g0 n m:Nat)(rs:List (Nat×List Value)):Prop:=
 Owns w base (⟨203,2,v,L.length,L.flatMap DV.cells⟩::⟨79,1,rowV n g0,n+1,tcells m 0 rs⟩::trows m rs)
section
variable {w w':World} {base:Nat} {v v':Value} {L:List DV} {g0 n m:Nat} {rs:List (Nat×List Value)}
theorem ST.tb (h:ST w base v L g0 n m rs):TB w base g0 n m 0 rs:=
 ⟨fun r hr=>h.own r (List.mem_cons_of_mem _ hr),by
  have:=h.nd
  rw[List.filterMap_cons] at this
  split at this
  ·exact this
  exact (List.nodup_cons.1 this).2⟩
theorem ST.own (h:ST w base v L g0 n m rs):EOwn w base v L:=Owns.own h ⟨203,2,v,L.length,L.flatMap DV.cells⟩ (List.mem_cons_self ..)
theorem ST.alloc (h:ST w base v L g0 n m rs)(o:Obj):ST (w.alloc o) base v L g0 n m rs:=Owns.alloc h o
theorem ST.drew (h:ST w base v L g0 n m rs):ST w.drew base v L g0 n m rs:=Owns.drew h
theorem ST.push (h:ST w base v L g0 n m rs){e:DV}(h1:EOwn w' base v' (L++[e]))(h2:w.grownBy w' v.ownBlock)(h3:v'.ownBlock=v.ownBlock\/v'.ownBlock=some w.heap.size):ST w' base v' (L++[e]) g0 n m rs:=
 Owns.turn (l1:=[]) (r:=⟨203,2,v,L.length,L.flatMap DV.cells⟩) (r':=⟨203,2,v',(L++[e]).length,(L++[e]).flatMap DV.cells⟩) h h2 h1 h3
theorem bDb {e:TypeId}{sz k:Nat}{xs:List Value}(h:w.ownsRow base e sz v k xs)(hb:Below w.heap.size w w'):w'.ownsRow base e sz v k xs:=by
 refine ⟨h.1,?_⟩
 rcases h.2 with hn | ⟨g,cap,cur,rfl,hbg,hg,rest⟩
 ·exact .inl hn
 exact .inr ⟨g,cap,cur,rfl,hbg,by rw[hb.block g (Array.getElem?_eq_some_iff.1 hg).1];exact hg,rest⟩
theorem ST.make (h:EOwn w base v L)(ht:TB w' w.heap.size g0 n m 0 rs)(hb:Below w.heap.size w w')(hbase:base<=w.heap.size):ST w' base v L g0 n m rs:=by
 refine ⟨fun r hr=>?_,?_⟩
 ·rcases List.mem_cons.1 hr with rfl | hr
  ·exact bDb h hb
  have h1:=ht.own r hr
  refine ⟨h1.1,?_⟩
  rcases h1.2 with hn | ⟨g,cap,cur,e,hbg,rest⟩
  ·exact .inl hn
  exact .inr ⟨g,cap,cur,e,by omega,rest⟩
 rw[List.filterMap_cons]
 cases hv:v.ownBlock with
 | none=>exact ht.nd
 | some g=>
  refine List.nodup_cons.2 ⟨fun hm=>?_,ht.nd⟩
  obtain ⟨r,hr,hrb⟩:=List.mem_filterMap.1 hm
  have h1:=(ht.own r hr).lt g hrb
  have h2:=h.lt g hv
  omega
end
theorem aTw {A B:Option Addr}{n ca m cb:Nat}{a b:List ByteArray}{w:World}(hn:n<=1048576)(hm:m<=1048576)
  (ha:Rd w w.heap.size 1 A n ca (a.map .string)) (hb:Rd w w.heap.size 1 B m cb (b.map .string)) :
  Calls Tryz.prog 148 #[.slice A n ca,.slice B m cb] w (EditsBelow (script a b) w):=by
 have HA:=hid (show a.length=n by have:=ha.len;simpa using this)
 have HB:=hid (show b.length=m by have:=hb.len;simpa using this)
 have hca:=ha.cap
 have hcb:=hb.cap
 go_enter Tryz.func148,Tryz.ntmps148
 go_wp2
 rename_i K hK
 have TAIL:∀{k:Nat} {out u12 u13 u14 u15 u16 u17 u18 u19 u20 u21 u22 u23 u24 u25 u26 u27 u28 u29 u30 u31 u32 u33 u34 u35 u36 u37 u38 u39 u40 u41 u42:Value} {w1:World},k<=n->k<=m->Below w.heap.size w w1->Hid (EOwn w1 w.heap.size out (evs 1 (a.take k)))->Hid (pfx a b=k)->
   K ⟨#[.slice A n ca,.slice B m cb,undef,undef,.slice none 0 0,out,.int .i64 k,undef,undef,undef,undef,undef,u12,u13,u14,u15,u16,u17,u18,u19,u20,u21,u22,u23,u24,u25,u26,u27,u28,u29,u30,u31,u32,u33,u34,u35,u36,u37,u38,u39,u40,u41,u42,undef,undef,undef,undef,undef,undef,undef,undef,undef,undef,undef,undef,undef,undef,undef,undef,undef,undef,undef,undef,undef,undef,undef,undef,undef,undef,undef,undef,undef,undef,undef,undef,undef,undef,undef,undef,undef,undef,undef,undef,undef,undef,undef,undef,undef,undef,undef,undef,undef,undef,undef,undef,undef,undef,undef,undef,undef,undef,undef,undef,undef,undef,undef,undef,undef,undef,undef,undef,undef,undef,undef,undef,undef,undef,undef,undef,undef,undef,undef,undef,undef,undef,undef,undef,undef,undef,undef,undef,undef,undef,undef,undef,undef,undef,undef,undef,undef,undef,undef,undef,undef,undef,undef,undef,undef,undef,undef,undef,undef,undef,undef,undef,undef,undef,undef,undef,undef,undef,undef,undef,undef,undef,undef,undef,undef,undef,undef,undef,undef,undef,undef,undef,undef,undef,undef,undef,undef,undef,undef,undef,undef],[]⟩ w1:=by
  intro k out u12 u13 u14 u15 u16 u17 u18 u19 u20 u21 u22 u23 u24 u25 u26 u27 u28 u29 u30 u31 u32 u33 u34 u35 u36 u37 u38 u39 u40 u41 u42 w1 hkn hkm hbw HO HP
  have HW:=hid hbw;clear hbw
  refine hK _ _ ?_
  clear hK
  go_wp2
  refine aAd (fun w'=>Below w.heap.size w w') (qs 8) mixed (by kernel_rfl) HW.out.drew ?_
  intro T M Q hT hT' hM hQ
  clear hM
  simp only[qcmp]
  simp (maxSteps:=9^7) only[↓qpre,aAb,aAf,aAc]
  refine ⟨⟨by omega,by omega⟩,⟨by omega,by omega⟩,hQ _ _ ?_⟩
  clear hQ hT hT'
  have hra:=ha.cut1 (l:=k) (k:=n) hkn (Nat.le_refl _)
  have hrb:=hb.cut1 (l:=k) (k:=m) hkm (Nat.le_refl _)
  rw[List.take_of_length_le (by rw[List.length_map,HA.out];exact Nat.le_refl _),<-List.map_drop] at hra
  rw[List.take_of_length_le (by rw[List.length_map,HB.out];exact Nat.le_refl _),<-List.map_drop] at hrb
  have HS:Hid (script a b=evs 1 (a.take k)++rest (a.drop k) (b.drop k)):=by unfold script;rw[HP.out];rfl
  have HL:Hid ((evs 1 (a.take k)).length<=1048576):=by unfold Hid;rw[aBn,List.length_take];omega
  have hl1:n-k<=1048576:=by omega
  have hl2:m-k<=1048576:=by omega
  have HW2:=hid HW.out.drew
  have HO2:=hid HO.out.drew
  simp only[sliced,Nat.mul_one]
  generalize (if ca=k then A else Option.map (fun x=>x.add k) A)=A1 at *
  generalize (if cb=k then B else Option.map (fun x=>x.add k) B)=B1 at *
  generalize w1.drew=w2 at *
  clear HP HO HW ha hb HA HB hca hcb
  generalize evs 1 (a.take k)=L0 at *
  generalize a.drop k=a1 at *
  generalize b.drop k=b1 at *
  generalize n-k=n1 at *
  generalize m-k=m1 at *
  generalize ca-k=c1 at *
  generalize cb-k=c2 at *
  generalize script a b=fin at *
  have HA:=hid (show a1.length=n1 by have:=hra.len;simpa using this)
  have HB:=hid (show b1.length=m1 by have:=hrb.len;simpa using this)
  by_cases big:400<n1\/400<m1
  ·by_cases c1:400<n1
   case' neg=>have c2:400<m1:=by omega
   all_goals
    go_wp2
    go_loopw[5,7] (fun out i wr=>∃j:Nat,j<=n1/\i=.int .i64 j/\Below w.heap.size w wr/\Hid (EOwn wr w.heap.size out (L0++evs 2 (a1.take j))))
      (fun _ i _=>n1-(intOf i).toNat)
    case atStart=>exact ⟨0,Nat.zero_le _,rfl,HW2.out,by rw[List.take_zero];exact (show Hid (EOwn _ _ _ (L0++[])) by rw[List.append_nil];exact HO2)⟩
    clear HW2 HO2
    obtain ⟨j,hj,rfl,hbw,HO⟩:=hrel
    have hws:=hbw.size
    have HW:=hid hbw;clear hbw
    by_cases hlt:j<n1
    ·obtain ⟨ba,oa,x,rfl,hba,hax,hacell⟩:=hra.str (k:=j) hlt
     have HX:=hid hax;clear hax
     have c0:=(HW.out.cell (p:=⟨ba,oa+j,none⟩) hba).trans hacell
     have HLL:=hid (show (L0++evs 2 (a1.take j)).length<=4398046511104 by have:=HL.out;have:=HA.out;simp only[List.length_append,aBn,List.length_take];omega)
     go_wp2_with (at_builtin;refine aDz rfl (.tmp 63) (.tmp 69) rfl rfl rfl (EOwn.alloc HO.out _) (aEe rfl) HLL.out (HW.out.alloc hws _) ?_;intro v2 w3 ho2 hw2 hg2 hat2;have HO2:=hid ho2;have HW2:=hid hw2;clear ho2 hw2 hg2 hat2)
     go_roundw
     case rel=>
      refine ⟨j+1,by omega,by go_num,HW2.out,?_⟩
      rw[aLo HX.out,<-List.append_assoc]
      exact HO2
     simp[intOf];omega
    have hjn:j=n1:=by omega
    subst hjn
    rw[List.take_of_length_le (by rw[HA.out];exact Nat.le_refl _)] at HO
    have HW2:=HW;have HO2:=HO
    clear HW HO
    go_wp2
    go_loopw[5,8] (fun out i wr=>∃j:Nat,j<=m1/\i=.int .i64 j/\Below w.heap.size w wr/\Hid (EOwn wr w.heap.size out ((L0++evs 2 a1)++evs 3 (b1.take j))))
      (fun _ i _=>m1-(intOf i).toNat)
    case atStart=>exact ⟨0,Nat.zero_le _,rfl,HW2.out,by rw[List.take_zero];exact (show Hid (EOwn _ _ _ ((L0++evs 2 a1)++[])) by rw[List.append_nil];exact HO2)⟩
    clear HW2 HO2
    obtain ⟨j,hj,rfl,hbw,HO⟩:=hrel
    have hws:=hbw.size
    have HW:=hid hbw;clear hbw
    by_cases hlt:j<m1
    ·obtain ⟨ba,oa,x,rfl,hba,hax,hacell⟩:=hrb.str (k:=j) hlt
     have HX:=hid hax;clear hax
     have c0:=(HW.out.cell (p:=⟨ba,oa+j,none⟩) hba).trans hacell
     have HLL:=hid (show ((L0++evs 2 a1)++evs 3 (b1.take j)).length<=4398046511104 by have:=HL.out;have:=HA.out;simp only[List.length_append,aBn,List.length_take];omega)
     go_wp2_with (at_builtin;refine aDz rfl (.tmp 77) (.tmp 83) rfl rfl rfl (EOwn.alloc HO.out _) (aEe rfl) HLL.out (HW.out.alloc hws _) ?_;intro v2 w3 ho2 hw2 hg2 hat2;have HO2:=hid ho2;have HW2:=hid hw2;clear ho2 hw2 hg2 hat2)
     go_roundw
     case rel=>
      refine ⟨j+1,by omega,by go_num,HW2.out,?_⟩
      rw[aLo HX.out,<-List.append_assoc]
      exact HO2
     simp[intOf];omega
    have hjn:j=m1:=by omega
    subst hjn
    rw[List.take_of_length_le (by rw[HB.out];exact Nat.le_refl _)] at HO
    have HF:Hid (fin=L0++evs 2 a1++evs 3 b1):=by unfold Hid;rw[HS.out,rest,if_pos (by rw[HA.out,HB.out];omega),List.append_assoc]
    go_wp2
    go_ret
    rw[HF.out]
    exact HO.out.result HW.out rfl
  have c1:¬400<n1:=by omega
  have c2:¬400<m1:=by omega
  go_wp2_with fail
  have hws2:=HW2.out.size
  have C:=aSi (w:=w2) (by omega) (by omega) ((hra.below HW2.out).more hws2) ((hrb.below HW2.out).more hws2)
  refine C.mono ?_
  clear C
  rintro e w3 ⟨g0,rs,rfl,hTB,hRC,hb3⟩
  rw[HA.out,HB.out] at hTB
  have HST:=hid (ST.make HO2.out hTB hb3 hws2)
  have HRC:=hid hRC
  have HW3:=hid (HW2.out.trans (hb3.mono hws2))
  have HRL:=hid (show rs.length=n1+1 by have:=hTB.len;omega)
  clear hTB hRC hb3 hws2 HO2 HW2
  rw[HA.out]
  have HS2:Hid (fin=L0++scrT a1 b1):=by unfold Hid;rw[HS.out,rest,if_neg (by rw[HA.out,HB.out];omega)]
  clear HS
  simp only[rowV]
  go_wp2
  go_loopw[5,10,11] (fun out iv kv wr=>∃(i q:Nat) (d:List DV),i<=n1/\q<=m1/\iv=.int .i64 i/\kv=.int .i64 q/\Below w.heap.size w wr/\Hid (ST wr w.heap.size out (L0++d) g0 n1 m1 rs)/\Hid (d++scrT (a1.drop i) (b1.drop q)=scrT a1 b1)/\Hid (d.length<=i+q))
    (fun _ i q _=>(n1-(intOf i).toNat)+(m1-(intOf q).toNat))
  case atStart=>exact ⟨0,0,[],Nat.zero_le _,Nat.zero_le _,rfl,rfl,HW3.out,by rw[List.append_nil];exact HST,rfl,Nat.zero_le _⟩
  clear HW3 HST
  obtain ⟨i,q,d,hi,hq,rfl,rfl,hbw,HST,HD,HDL⟩:=hrel
  have hws:=hbw.size
  have HW:=hid hbw;clear hbw
  have HLL:=hid (show (L0++d).length<=4398046511104 by have:=HL.out;have:=HDL.out;simp only[List.length_append];omega)
  have T1:∀z:Nat,((z:Int)+1).toNat=z+1:=fun z=>by omega
  by_cases hiN:i<n1
  ·obtain ⟨ba,oa,x,rfl,hba,hax,hacell⟩:=hra.str (k:=i) hiN
   have HX:=hid hax;clear hax
   by_cases hqM:q<m1
   ·obtain ⟨bb,ob,y,rfl,hbb,hby,hbcell⟩:=hrb.str (k:=q) hqM
    have HY:=hid hby;clear hby
    go_wp2
    refine aAd (fun w'=>∀p:Addr,w'.cell? p=wr.cell? p) (qs 22) mixed (by kernel_rfl) (fun p=>rfl) ?_
    intro T M Q hT hT' hM hQ
    have f0:M ⟨ba,oa+i,none⟩=some (.string x):=hM _ _ fun w' hw=>(hw _).trans ((HW.out.cell (p:=⟨ba,oa+i,none⟩) hba).trans hacell)
    have f1:M ⟨bb,ob+q,none⟩=some (.string y):=hM _ _ fun w' hw=>(hw _).trans ((HW.out.cell (p:=⟨bb,ob+q,none⟩) hbb).trans hbcell)
    clear hM
    have d1:decide ((i:Int)<n1)=true:=decide_eq_true (by omega)
    have d2:decide ((q:Int)<m1)=true:=decide_eq_true (by omega)
    simp only[qcmp]
    simp (maxSteps:=9^7) only[↓qpre,aAb,aAf,aAc,f0,f1,d1,d2]
    refine ⟨⟨by omega,by omega⟩,⟨by omega,by omega⟩,hQ _ _ ?_⟩
    clear hQ hT hT' f0 f1 d1 d2
    cases hd:decide (x=y)
    ·have hxy:=hid (of_decide_eq_false hd)
     clear hd
     have htb:=HST.out.tb
     obtain ⟨⟨gi,xi⟩,hri⟩:∃r,rs[i]? = some r:=⟨_,List.getElem?_eq_getElem (by rw[HRL.out];omega)⟩
     obtain ⟨⟨gj,xj⟩,hrj⟩:∃r,rs[i+1]? = some r:=⟨_,List.getElem?_eq_getElem (by rw[HRL.out];omega)⟩
     have hxi:=HRC.out _ _ hri
     have hxj:=HRC.out _ _ hrj
     simp only[Nat.zero_add] at hxi hxj
     subst hxi hxj
     obtain ⟨t1,o1⟩:=htb.at_ hri
     obtain ⟨t2,o2⟩:=htb.at_ hrj
     have v1:=aDi o1 (aFf (a:=a1) (b:=b1) (i:=i) (k:=0) (j:=q+1) (by rw[HB.out];omega) (Nat.zero_le _))
     have v2:=aDi o2 (aFf (a:=a1) (b:=b1) (i:=i+1) (k:=0) (j:=q) (by rw[HB.out];omega) (Nat.zero_le _))
     simp only[Nat.zero_add] at t1 t2
     have V:=hid (And.intro t1 (And.intro t2 (And.intro v1 v2)))
     clear t1 t2 o1 o2 v1 v2 htb hri hrj
     go_wp2
     refine aAd (fun w'=>∀p:Addr,w'.cell? p=wr.cell? p) (qs 30) mixed (by kernel_rfl) (fun p=>rfl) ?_
     intro T M Q hT hT' hM hQ
     have f0:M ⟨g0,i,none⟩=some (rowV m1 gi):=hM _ _ fun w' hw=>(hw _).trans V.out.1
     have f1:M ⟨g0,i+1,none⟩=some (rowV m1 gj):=hM _ _ fun w' hw=>(hw _).trans V.out.2.1
     have f2:M ⟨gi,q+1,none⟩=some (.int .i64 (cel a1 b1 i (q+1))):=hM _ _ fun w' hw=>(hw _).trans V.out.2.2.1
     have f3:M ⟨gj,q,none⟩=some (.int .i64 (cel a1 b1 (i+1) q)):=hM _ _ fun w' hw=>(hw _).trans V.out.2.2.2
     clear hM
     have d1:decide ((q:Int)=m1)=false:=decide_eq_false (by omega)
     have d2:decide ((i:Int)<n1)=true:=decide_eq_true (by omega)
     simp only[qcmp]
     simp (maxSteps:=9^7) only[↓qpre,aAb,aAf,aAc,f0,f1,f2,f3,d1,d2,rowV,T1]
     refine ⟨⟨by omega,by omega⟩,⟨by omega,by omega⟩,⟨by omega,by omega⟩,⟨by omega,by omega⟩,⟨by omega,by omega⟩,⟨by omega,by omega⟩,hQ _ _ ?_⟩
     clear hQ hT hT' f0 f1 f2 f3 d1 d2 V
     cases hd2:decide ((cel a1 b1 i (q+1):Int)<=(cel a1 b1 (i+1) q:Int))
     ·have hle:=hid (of_decide_eq_false hd2)
      clear hd2
      have c0:=(HW.out.cell (p:=⟨bb,ob+q,none⟩) hbb).trans hbcell
      go_wp2_with (at_builtin;refine aDz rfl (.tmp 99) (.tmp 105) rfl rfl rfl (EOwn.alloc HST.out.own.drew.drew _) (aEe rfl) HLL.out (HW.out.drew.drew.alloc hws _) ?_;intro v2 w4 ho2 hw2 hg2 hat2;have HW4:=hid hw2;have HST4:=hid (ST.push (HST.out.drew.drew.alloc _) ho2 hg2 hat2);clear ho2 hw2 hg2 hat2)
      go_roundw
      case rel=>
       refine ⟨i,q+1,d++[⟨3,y⟩],by omega,by omega,by go_num,by go_num,HW4.out,?_,?_,?_⟩
       ·rw[<-List.append_assoc];exact HST4
       ·have h1:=HD.out
        rw[bDo HX.out HY.out hxy.out (by have:=hle.out;omega)] at h1
        unfold Hid
        rw[List.append_assoc]
        exact h1
       have:=HDL.out;unfold Hid;simp only[List.length_append,List.length_singleton];omega
      simp[intOf];omega
     have hle:=hid (of_decide_eq_true hd2)
     clear hd2
     have c0:=(HW.out.cell (p:=⟨ba,oa+i,none⟩) hba).trans hacell
     go_wp2_with (at_builtin;refine aDz rfl (.tmp 173) (.tmp 179) rfl rfl rfl (EOwn.alloc HST.out.own.drew.drew _) (aEe rfl) HLL.out (HW.out.drew.drew.alloc hws _) ?_;intro v2 w4 ho2 hw2 hg2 hat2;have HW4:=hid hw2;have HST4:=hid (ST.push (HST.out.drew.drew.alloc _) ho2 hg2 hat2);clear ho2 hw2 hg2 hat2)
     go_roundw
     case rel=>
      refine ⟨i+1,q,d++[⟨2,x⟩],by omega,by omega,by go_num,by go_num,HW4.out,?_,?_,?_⟩
      ·rw[<-List.append_assoc];exact HST4
      ·have h1:=HD.out
       rw[aZx HX.out HY.out hxy.out (by have:=hle.out;omega)] at h1
       unfold Hid
       rw[List.append_assoc]
       exact h1
      have:=HDL.out;unfold Hid;simp only[List.length_append,List.length_singleton];omega
     simp[intOf];omega
    have hxy:=of_decide_eq_true hd
    subst hxy
    clear hd
    have c0:=(HW.out.cell (p:=⟨ba,oa+i,none⟩) hba).trans hacell
    go_wp2_with (at_builtin;refine aDz rfl (.tmp 131) (.tmp 137) rfl rfl rfl (EOwn.alloc HST.out.own.drew _) (aEe rfl) HLL.out (HW.out.drew.alloc hws _) ?_;intro v2 w4 ho2 hw2 hg2 hat2;have HW4:=hid hw2;have HST4:=hid (ST.push (HST.out.drew.alloc _) ho2 hg2 hat2);clear ho2 hw2 hg2 hat2)
    go_roundw
    case rel=>
     refine ⟨i+1,q+1,d++[⟨1,x⟩],by omega,by omega,by go_num,by go_num,HW4.out,?_,?_,?_⟩
     ·rw[<-List.append_assoc];exact HST4
     ·have h1:=HD.out
      rw[aVw HX.out HY.out rfl] at h1
      unfold Hid
      rw[List.append_assoc]
      exact h1
     have:=HDL.out;unfold Hid;simp only[List.length_append,List.length_singleton];omega
    simp[intOf];omega
   ·
    have hqE:q=m1:=by omega
    subst hqE
    go_wp2
    refine aAd (fun w'=>∀p:Addr,w'.cell? p=wr.cell? p) (qs 22) mixed (by kernel_rfl) (fun p=>rfl) ?_
    intro T M Q hT hT' hM hQ
    clear hM
    have d1:decide ((i:Int)<n1)=true:=decide_eq_true (by omega)
    have d2:decide ((q:Int)<q)=false:=decide_eq_false (by omega)
    simp only[qcmp]
    simp (maxSteps:=9^7) only[↓qpre,aAb,aAf,aAc,d1,d2]
    refine hQ _ _ ?_
    clear hQ hT hT' d1 d2
    go_wp2
    refine aAd (fun w'=>∀p:Addr,w'.cell? p=wr.cell? p) (qs 30) mixed (by kernel_rfl) (fun p=>rfl) ?_
    intro T M Q hT hT' hM hQ
    clear hM
    have d1:decide ((q:Int)=q)=true:=decide_eq_true (by omega)
    simp only[qcmp]
    simp (maxSteps:=9^7) only[↓qpre,aAb,aAf,aAc]
    refine hQ _ _ ?_
    clear hQ hT hT' d1
    have c0:=(HW.out.cell (p:=⟨ba,oa+i,none⟩) hba).trans hacell
    go_wp2_with (at_builtin;refine aDz rfl (.tmp 173) (.tmp 179) rfl rfl rfl (EOwn.alloc HST.out.own.drew.drew _) (aEe rfl) HLL.out (HW.out.drew.drew.alloc hws _) ?_;intro v2 w4 ho2 hw2 hg2 hat2;have HW4:=hid hw2;have HST4:=hid (ST.push (HST.out.drew.drew.alloc _) ho2 hg2 hat2);clear ho2 hw2 hg2 hat2)
    go_roundw
    case rel=>
     refine ⟨i+1,q,d++[⟨2,x⟩],by omega,by omega,by go_num,by go_num,HW4.out,?_,?_,?_⟩
     ·rw[<-List.append_assoc];exact HST4
     ·have h1:=HD.out
      rw[<-HB.out,bFl HX.out,HB.out] at h1
      unfold Hid
      rw[List.append_assoc]
      exact h1
     have:=HDL.out;unfold Hid;simp only[List.length_append,List.length_singleton];omega
    simp[intOf];omega
  by_cases hqM:q<m1
  ·
   have hiE:i=n1:=by omega
   subst hiE
   obtain ⟨bb,ob,y,rfl,hbb,hby,hbcell⟩:=hrb.str (k:=q) hqM
   have HY:=hid hby;clear hby
   go_wp2
   refine aAd (fun w'=>∀p:Addr,w'.cell? p=wr.cell? p) (qs 22) mixed (by kernel_rfl) (fun p=>rfl) ?_
   intro T M Q hT hT' hM hQ
   clear hM
   have d1:decide ((i:Int)<i)=false:=decide_eq_false (by omega)
   simp only[qcmp]
   simp (maxSteps:=9^7) only[↓qpre,aAb,aAf,aAc,d1]
   refine hQ _ _ ?_
   clear hQ hT hT' d1
   go_wp2
   refine aAd (fun w'=>∀p:Addr,w'.cell? p=wr.cell? p) (qs 30) mixed (by kernel_rfl) (fun p=>rfl) ?_
   intro T M Q hT hT' hM hQ
   clear hM
   have d1:decide ((q:Int)=m1)=false:=decide_eq_false (by omega)
   have d2:decide ((i:Int)<i)=false:=decide_eq_false (by omega)
   simp only[qcmp]
   simp (maxSteps:=9^7) only[↓qpre,aAb,aAf,aAc,d1,d2]
   refine hQ _ _ ?_
   clear hQ hT hT' d1 d2
   have c0:=(HW.out.cell (p:=⟨bb,ob+q,none⟩) hbb).trans hbcell
   go_wp2_with (at_builtin;refine aDz rfl (.tmp 99) (.tmp 105) rfl rfl rfl (EOwn.alloc HST.out.own.drew.drew _) (aEe rfl) HLL.out (HW.out.drew.drew.alloc hws _) ?_;intro v2 w4 ho2 hw2 hg2 hat2;have HW4:=hid hw2;have HST4:=hid (ST.push (HST.out.drew.drew.alloc _) ho2 hg2 hat2);clear ho2 hw2 hg2 hat2)
   go_roundw
   case rel=>
    refine ⟨i,q+1,d++[⟨3,y⟩],by omega,by omega,by go_num,by go_num,HW4.out,?_,?_,?_⟩
    ·rw[<-List.append_assoc];exact HST4
    ·have h1:=HD.out
     rw[<-HA.out,bEl HY.out,HA.out] at h1
     unfold Hid
     rw[List.append_assoc]
     exact h1
    have:=HDL.out;unfold Hid;simp only[List.length_append,List.length_singleton];omega
   simp[intOf];omega
  have hiE:i=n1:=by omega
  have hqE:q=m1:=by omega
  subst hiE hqE
  have HF:Hid (L0++d=fin):=by
   have h1:=HD.out
   rw[List.drop_of_length_le (by rw[HA.out];exact Nat.le_refl _),List.drop_of_length_le (by rw[HB.out];exact Nat.le_refl _),scrT,List.append_nil] at h1
   unfold Hid
   rw[HS2.out,h1]
  go_wp2
  go_ret
  rw[<-HF.out]
  exact HST.out.own.result HW.out rfl
 clear hK
 go_loopw[5,6] (fun out i wr=>∃k:Nat,k<=n/\k<=m/\i=.int .i64 k/\Below w.heap.size w wr/\Hid (EOwn wr w.heap.size out (evs 1 (a.take k)))/\Hid (a.take k=b.take k))
   (fun _ i _=>n-(intOf i).toNat)
 case atStart=>
  refine ⟨0,Nat.zero_le _,Nat.zero_le _,rfl,Below.refl _ _,?_,rfl⟩
  rw[List.take_zero];exact World.ownsRow_nil _ _ _ _
 obtain ⟨k,hkn,hkm,rfl,hbw,HO,HT⟩:=hrel
 have hws:=hbw.size
 have HW:=hid hbw;clear hbw
 by_cases h1:k<n
 case' pos=>
  obtain ⟨ba,oa,x,rfl,hba,hax,hacell⟩:=ha.str (k:=k) h1
  have HX:=hid hax;clear hax
  rcases Nat.lt_or_ge k m with h2 | h2
  case' inl=>
   obtain ⟨bb,ob,y,rfl,hbb,hby,hbcell⟩:=hb.str (k:=k) h2
   have HY:=hid hby;clear hby
   go_wp2
   refine aAd (fun w'=>Below w.heap.size w w') (qs 21) mixed (by kernel_rfl) HW.out.drew ?_
   intro T M Q hT hT' hM hQ
   have f0:M ⟨ba,oa+k,none⟩=some (.string x):=hM _ _ fun w' hw=>(hw.cell (p:=⟨ba,oa+k,none⟩) hba).trans hacell
   have f1:M ⟨bb,ob+k,none⟩=some (.string y):=hM _ _ fun w' hw=>(hw.cell (p:=⟨bb,ob+k,none⟩) hbb).trans hbcell
   clear hM
   have d1:decide ((k:Int)<n)=true:=decide_eq_true (by omega)
   have d2:decide ((k:Int)<m)=true:=decide_eq_true (by omega)
   simp only[qcmp]
   simp (maxSteps:=9^7) only[↓qpre,aAb,aAf,aAc,f0,f1,d1,d2]
   refine ⟨⟨by omega,by omega⟩,⟨by omega,by omega⟩,?_⟩
   refine hQ _ _ ?_
   clear hQ hT hT' f0 f1 d1 d2
   cases hd:decide (x=y)
   case' true=>
    have hxy:=of_decide_eq_true hd
    subst hxy
    clear hd
    have c0:=(HW.out.cell (p:=⟨ba,oa+k,none⟩) hba).trans hacell
    have HL:=hid (show (evs 1 (a.take k)).length<=4398046511104 by rw[aBn,List.length_take];omega)
    go_wp2_with (at_builtin;refine aDz rfl (.tmp 33) (.tmp 39) rfl rfl rfl (EOwn.alloc HO.out.drew _) (aEe rfl) HL.out (HW.out.drew.alloc hws _) ?_;intro v2 w2 ho2 hw2 hg2 hat2;have HO2:=hid ho2;have HW2:=hid hw2;clear ho2 hw2 hg2 hat2)
    go_roundw
    case rel=>
     refine ⟨k+1,by omega,by omega,by go_num,HW2.out,?_,bAw HT.out HX.out HY.out⟩
     rw[aLo HX.out]
     exact HO2
    simp[intOf];omega
   case' false=>
    have HP:=hid (aVv (a:=a) (b:=b) (k:=k) (by rw[HA.out];omega) (by rw[HB.out];omega) HT.out (.inr (.inr (by rw[HX.out,HY.out];simpa using of_decide_eq_false hd))))
    clear hd
    clear hacell hbcell
    clear HX HY
    go_wp2
    exact TAIL hkn hkm HW.out.drew HO.out.drew HP
  case' inr=>
   have HP:=hid (aVv (a:=a) (b:=b) (k:=k) (by rw[HA.out];omega) (by rw[HB.out];omega) HT.out (.inr (.inl (by rw[HB.out];omega))))
   clear hacell
   go_wp2
   refine aAd (fun w'=>Below w.heap.size w w') (qs 21) mixed (by kernel_rfl) HW.out.drew ?_
   intro T M Q hT hT' hM hQ
   clear hM
   have d1:decide ((k:Int)<n)=true:=decide_eq_true (by omega)
   have d2:decide ((k:Int)<m)=false:=decide_eq_false (by omega)
   simp only[qcmp]
   simp (maxSteps:=9^7) only[↓qpre,aAb,aAf,aAc,d1,d2]
   refine hQ _ _ ?_
   clear hQ hT hT' d1 d2
   go_wp2
   exact TAIL hkn hkm HW.out.drew HO.out.drew HP
 case' neg=>
  have HP:=hid (aVv (a:=a) (b:=b) (k:=k) (by rw[HA.out];omega) (by rw[HB.out];omega) HT.out (.inl (by rw[HA.out];omega)))
  go_wp2
  refine aAd (fun w'=>Below w.heap.size w w') (qs 21) mixed (by kernel_rfl) HW.out.drew ?_
  intro T M Q hT hT' hM hQ
  clear hM
  have d1:decide ((k:Int)<n)=false:=decide_eq_false (by omega)
  simp only[qcmp]
  simp (maxSteps:=9^7) only[↓qpre,aAb,aAf,aAc,d1]
  refine hQ _ _ ?_
  clear hQ hT hT' d1
  go_wp2
  exact TAIL hkn hkm HW.out.drew HO.out.drew HP
def plI:Option Nat->Int
 | some x=>(x:Int)
 | none=>-1
def placesI (base side:List ByteArray):List Int:=(placeF base side).map plI
theorem aFh:∀(L:List DV)(e:DV)(j:Nat),placesF (L++[e]) j=placesF L j++(if e.kind=1 then [some (j+(news L).length)] else if e.kind=2 then [none] else [])
 | [],e,j=>by simp[placesF,news]
 | x::L,e,j=>by
  have hn:(news (x::L)).length=(if x.kind=2 then 0 else 1)+(news L).length:=by
   rw[aHz,List.length_append];split<;>rfl
  rw[List.cons_append,placesF,placesF,aFh L e (j+1),aFh L e j,hn]
  by_cases h1:x.kind=1
  ·have h2:¬x.kind=2:=by omega
   rw[if_pos h1,if_pos h1,if_neg h2,List.cons_append,show j+1+(news L).length=j+(1+(news L).length) by omega]
  by_cases h2:x.kind=2
  ·rw[if_neg h1,if_neg h1,if_pos h2,if_pos h2,if_pos h2,List.cons_append,Nat.zero_add]
  rw[if_neg h1,if_neg h1,if_neg h2,if_neg h2,if_neg h2,show j+1+(news L).length=j+(1+(news L).length) by omega]
theorem bAl (L:List DV)(e:DV):(news (L++[e])).length=(news L).length+if e.kind=2 then 0 else 1:=by
 rw[aQy,List.length_append,aHz]
 split<;>simp[news]
theorem aVl {base side:List ByteArray}{i:Nat}(hi:i<base.length):(intsV (placesI base side))[i]? = some (.int .i64 (plI (keptAt base side i))):=by
 have h:i<(placeF base side).length:=by rw[(aCq base side).len];exact hi
 unfold intsV placesI keptAt
 rw[List.getElem?_map,List.getElem?_map,List.getElem?_eq_getElem h]
 rfl
theorem aUc (base side:List ByteArray):(placesI base side).length=base.length:=by unfold placesI;rw[List.length_map,(aCq base side).len]
theorem bCu {o:Option Nat}:plI o<0↔o=none:=by
 cases o with
 | none=>simp[plI]
 | some x=>simp[plI]
theorem aWn {o:Option Nat}{x:Nat}:plI o=(x:Int)↔o=some x:=by
 cases o with
 | none=>simp[plI]
 | some y=>
  simp only[plI,Option.some.injEq]
  omega
theorem aWy (l:List Int):∀u∈intsV l,u.oneCell'=true:=by
 intro u hu
 obtain ⟨s,_,rfl⟩:=List.mem_map.1 hu
 rfl
theorem bBp (w:World)(g:Nat)(i:Int)(hg:g=w.heap.size):Rd (w.alloc (.cells #[.int .i64 i] 3)) (w.alloc (.cells #[.int .i64 i] 3)).heap.size 1 (some ⟨g,0,none⟩) 1 1 (intsV [i]):=by
 subst hg
 exact ⟨rfl,Nat.le_refl _,fun _=>⟨_,0,rfl,by simp,fun j u hu=>by
  rw[Nat.zero_add,World.cell?,heap_alloc_new]
  simpa[intsV] using hu⟩⟩
theorem DV.len_flat (l:List DV):(l.flatMap DV.cells).length=l.length*2:=by
 induction l with
 | nil=>rfl
 | cons x l ih=>rw[List.flatMap_cons,List.length_append,ih,List.length_cons,DV.cells_len];omega
def IntsIs (L:List Int)(w:World)(e:Ending) (w':World):Prop:=∃v,e=.returned v/\w'.ownsRow w.heap.size 3 1 v L.length (intsV L)/\Below w.heap.size w w'
theorem bEc {S:List DV}{k:Nat}{e:DV}(hx:S[k]? = some e):(placesF (S.take (k+1)) 0).map plI=(placesF (S.take k) 0).map plI++(if e.kind=1 then [((news (S.take k)).length:Int)] else if e.kind=2 then [-1] else []):=by
 rw[List.take_add_one,hx]
 show (placesF (S.take k++[e]) 0).map plI=_
 rw[aFh,List.map_append,Nat.zero_add]
 split
 ·rfl
 split<;>rfl
theorem bAx {S:List DV}{k:Nat}{e:DV}(hx:S[k]? = some e):(news (S.take (k+1))).length=(news (S.take k)).length+if e.kind=2 then 0 else 1:=by
 rw[List.take_add_one,hx]
 exact bAl _ _
theorem bGm (S:List DV)(k:Nat):((placesF (S.take k) 0).map plI).length<=k:=by
 have h:∀(L:List DV) (j:Nat),(placesF L j).length<=L.length:=by
  intro L
  induction L with
  | nil=>intro j;exact Nat.le_refl _
  | cons e L ih=>
   intro j
   rw[placesF]
   have h1:=ih (j+1)
   have h2:=ih j
   rw[List.length_cons]
   split
   ·rw[List.length_cons];omega
   split
   ·rw[List.length_cons];omega
   omega
 have:=h (S.take k) 0
 rw[List.length_take] at this
 rw[List.length_map];omega
theorem bCs:∀L:List DV,(news L).length<=L.length
 | []=>Nat.le_refl _
 | e::L=>by
  have:=bCs L
  rw[aHz,List.length_append,List.length_cons]
  split<;>simp<;>omega
theorem aNb {A B:Option Addr}{n ca m cb:Nat}{a b:List ByteArray}{w:World}(hn:n<=100000)(hm:m<=100000)
  (ha:Rd w w.heap.size 1 A n ca (a.map .string)) (hb:Rd w w.heap.size 1 B m cb (b.map .string)) :
  Calls Tryz.prog 114 #[.slice A n ca,.slice B m cb] w (IntsIs (placesI a b) w):=by
 have hla:a.length=n:=by have:=ha.len;rw[List.length_map] at this;omega
 have hlb:b.length=m:=by have:=hb.len;rw[List.length_map] at this;omega
 have hsl:=aOm a b
 rw[hla,hlb] at hsl
 have K:=aTw (by omega) (by omega) ha hb
 have HPI:=hid (show placesI a b=(placesF (script a b) 0).map plI from rfl)
 clear ha hb hla hlb
 generalize script a b=S at *
 generalize placesI a b=PI at *
 go_enter Tryz.func114,Tryz.ntmps114
 go_wp2_with fail
 refine K.mono ?_
 rintro e w1 ⟨A1,n1,c1,rfl,hr,hb1⟩
 have hn1:S.length=n1:=by
  have:=hr.len
  rw[DV.len_flat] at this
  omega
 subst hn1
 have HR:=hid hr
 have HB1:=hid hb1
 clear K hr hb1
 go_wp2
 go_loopw[6,7,8] (fun ov av iv wr=>∃k:Nat,k<=S.length/\iv=.int .i64 k/\av=.int .i64 ((news (S.take k)).length:Nat)/\Hid (Below w1.heap.size w1 wr)/\Hid (wr.ownsRow w1.heap.size 3 1 ov ((placesF (S.take k) 0).map plI).length (intsV ((placesF (S.take k) 0).map plI)))) (fun _ _ iv _=>S.length-(intOf iv).toNat)
 case atStart=>exact ⟨0,Nat.zero_le _,rfl,rfl,hid (Below.refl _ _),World.ownsRow_nil _ _ _ _⟩
 obtain ⟨k,hk,rfl,rfl,HB,HO⟩:=hrel
 have hpl:=bGm S k
 have hnl:=bCs (S.take k)
 rw[List.length_take] at hnl
 by_cases hlt:k<S.length
 ·obtain ⟨b0,o0,e,hA1,hbb,hx,_,hc⟩:=T.rd_flat DV.cells_len (by omega) HR.out rfl hlt
  cases hA1
  have c0:=(HB.out.cell (p:=⟨b0,o0+k*2,none⟩) hbb).trans (hc 0 _ rfl)
  have HP:=hid (bEc hx)
  have HN:=hid (bAx hx)
  clear hx hc
  generalize (placesF (S.take k) 0).map plI=P at *
  generalize (news (S.take k)).length=na at *
  have hna:na<=200000:=by omega
  clear hnl
  obtain ⟨kd,ln⟩:=e
  dsimp only at c0
  by_cases h1:kd=1
  ·subst h1
   have HP:=hid (HP.out.trans (congrArg (P++·) (if_pos rfl)))
   have HN:=hid (HN.out.trans (congrArg (na+·) (if_neg (by simp))))
   have hba:=HB.out.alloc HB.out.size (.cells #[.int .i64 (na:Int)] 3)
   have hoa:=HO.out.alloc (.cells #[.int .i64 (na:Int)] 3)
   have hli:=bBp wr wr.heap.size na rfl
   go_wp2_with (at_builtin;refine aAm rfl (.tmp 27) (.tmp 29) 79 rfl aXi rfl rfl hoa hli (aWy _) (by unfold maxLen;omega) (by omega) hba.size ?_;intro v7 w7 ho7 hg7 hv7)
   have HB7:=hid (hba.grown hg7 hba.size (fun g hg=>(hoa.lt g hg).1))
   have HO7:=hid ho7
   clear ho7 hg7 hv7 hba hoa hli HB HO
   go_roundw
   case rel=>exact ⟨k+1,by omega,by go_num,by rw[HN.out];go_num,HB7,by rw[HP.out,List.length_append];unfold intsV;rw[List.map_append];exact HO7⟩
   simp[intOf];omega
  by_cases h2:kd=2
  ·subst h2
   have HP:=hid (HP.out.trans (congrArg (P++·) ((if_neg (by simp)).trans (if_pos rfl))))
   have HN:=hid (HN.out.trans (congrArg (na+·) (if_pos rfl)))
   have hba:=HB.out.alloc HB.out.size (.cells #[.int .i64 (-1)] 3)
   have hoa:=HO.out.alloc (.cells #[.int .i64 (-1)] 3)
   have hli:=bBp wr wr.heap.size (-1) rfl
   clear h1
   go_wp2_with (at_builtin;refine aAm rfl (.tmp 35) (.tmp 36) 79 rfl aXi rfl rfl hoa hli (aWy _) (by unfold maxLen;omega) (by omega) hba.size ?_;intro v7 w7 ho7 hg7 hv7)
   have HB7:=hid (hba.grown hg7 hba.size (fun g hg=>(hoa.lt g hg).1))
   have HO7:=hid ho7
   clear ho7 hg7 hv7 hba hoa hli HB HO
   go_roundw
   case rel=>exact ⟨k+1,by omega,by go_num,by rw[HN.out];rfl,HB7,by rw[HP.out,List.length_append];unfold intsV;rw[List.map_append];exact HO7⟩
   simp[intOf];omega
  have HP:=hid (HP.out.trans (congrArg (P++·) ((if_neg h1).trans (if_neg h2))))
  have HN:=hid (HN.out.trans (congrArg (na+·) (if_neg h2)))
  go_wp2
  go_roundw
  case rel=>exact ⟨k+1,by omega,by go_num,by rw[HN.out];go_num,HB,by rw[HP.out,List.append_nil];exact HO⟩
  simp[intOf];omega
 obtain rfl:k=S.length:=by omega
 rw[List.take_of_length_le (Nat.le_refl _)] at HO
 go_wp2
 go_ret
 exact ⟨_,rfl,by rw[HPI.out];exact aBm HO.out HB1.out.size,HB1.out.trans (HB.out.mono HB1.out.size)⟩
end Go.Proofs.YtcemkikgaeghjaaGreatDoor
