/- Texts of the walks, together: Walks: the program's tree.Right. Walks: the document's Path, Within, Clash. Walks: the document's Right (trees). Plain laws: what is found, put, and dropped. The engine, for a region whose last operations write what the earlier ones have read: behind those the class of worlds is no longer asked for. Effects: a store, a slice of one place. Rows of a call's own that lie apart. -/
import Derived.Laws.OwnMore
import Derived.Laws.IdiomCopy
import Derived.Test.YtohblmepajhpaaaGreatDoorG01
import Derived.Test.YtohblmepajhpaaaGreatDoorG02
set_option maxHeartbeats 8000000
set_option maxRecDepth 100000
open Go.Lib (hid)
namespace Go.Proofs.YtohblmepajhpaaaGreatDoor
open Go.RowKit
theorem T.bytesLess:∀(x y:Bs),Op.bytesLess x y=decide (x<y)
 | [],[]=>by simp[Op.bytesLess]
 | _::_,[]=>by simp[Op.bytesLess]
 | [],_::_=>by simp[Op.bytesLess]
 | a::x,b::y=>by
  rw[Op.bytesLess,T.bytesLess x y]
  by_cases h:a<b
  ·simp[h,List.cons_lt_cons_iff]
  by_cases e:a=b
  ·subst e;simp[]
  simp[h,e,List.cons_lt_cons_iff]
theorem bHv (a b:Bs):a<b\/a=b\/b<a:=by
 by_cases h:a<b
 ·exact .inl h
 by_cases h2:b<a
 ·exact .inr (.inr h2)
 exact .inr (.inl (List.le_antisymm (List.not_lt.1 h2) (List.not_lt.1 h)))
theorem aRf (a b:ByteArray):Op.bytesLess a.toList b.toList=decide (a.data.toList<b.data.toList):=by rw[T.bytesLess,Lib.toList_data,Lib.toList_data]
theorem aVc (a b:ByteArray):(Op.bytesLess a.toList b.toList || decide (a=b))=!decide (b.data.toList<a.data.toList):=by
 rw[aRf]
 rcases bHv a.data.toList b.data.toList with h | h | h
 ·have h2:¬b.data.toList<a.data.toList:=List.lt_asymm h
  simp[h,h2]
 ·have e:a=b:=aCh h
  subst e
  simp[List.lt_irrefl]
 have h2:¬a.data.toList<b.data.toList:=List.lt_asymm h
 have e:a≠b:=fun e=>by subst e;exact List.lt_irrefl _ h
 simp[h,h2,e]
def Fine (l:List FV)(k:Nat)(f:FV):Prop:=FileOk f/\(∀g,1<=k->l[k-1]? = some g->g.p<f.p)/\onWay (pathsOf l) f.p=false
theorem TreeOk.fine {l:List FV}(h:TreeOk l){k:Nat}{f:FV}(hf:l[k]? = some f):Fine l k f:=by
 refine ⟨h.2.1 f (List.mem_of_getElem? hf),fun g hk hg=>h.2.2.1 (k-1) g f hg (by rw[Nat.sub_add_cancel hk];exact hf),?_⟩
 cases e:onWay (pathsOf l) f.p with
 | false=>rfl
 | true=>
  obtain ⟨q,hq,hw⟩:=aRv.1 e
  obtain ⟨g,hg,rfl⟩:=aLy.1 hq
  rw[h.2.2.2 f (List.mem_of_getElem? hf) g hg] at hw;cases hw
theorem bDf {l:List FV}(hl:l.length<=100)(h:∀k f,l[k]? = some f->Fine l k f):TreeOk l:=by
 refine ⟨hl,fun f hf=>?_,fun i a b ha hb=>(h (i+1) b hb).2.1 a (by omega) ha,fun f hf g hg=>?_⟩
 ·obtain ⟨i,hi,rfl⟩:=List.getElem_of_mem hf
  exact (h i _ (List.getElem?_eq_getElem hi)).1
 obtain ⟨i,hi,rfl⟩:=List.getElem_of_mem hf
 have h1:=(h i _ (List.getElem?_eq_getElem hi)).2.2
 cases e:within l[i].p g.p with
 | false=>rfl
 | true=>
  have:=aRv.2 ⟨g.p,aLy.2 ⟨g,hg,rfl⟩,e⟩
  rw[this] at h1;cases h1
theorem bIg {l:List FV}{k:Nat}{f:FV}(hf:l[k]? = some f)(h:¬Fine l k f):treeOk l=false:=by
 cases e:treeOk l with
 | false=>rfl
 | true=>exact absurd ((aAt.1 e).fine hf) h
theorem aSt {l:List FV}(h:100<l.length):treeOk l=false:=by
 cases e:treeOk l with
 | false=>rfl
 | true=>have:=(aAt.1 e).1;omega
def FineTo (l:List FV)(k:Nat):Prop:=∀j f,j<k->l[j]? = some f->Fine l j f
theorem FineTo.done {l:List FV}{n:Nat}(h:FineTo l n)(hl:l.length=n)(hn:n<=100):treeOk l=true:=
 aAt.2 (bDf (by omega) fun k f hf=>h k f (by have:=(List.getElem?_eq_some_iff.1 hf).1;omega) hf)
theorem FineTo.next {l:List FV}{k:Nat}{f:FV}(h:FineTo l k)(hf:l[k]? = some f)(h1:Fine l k f):FineTo l (k+1):=by
 intro j g hj hg
 by_cases e:j=k
 ·subst e;rw[hf] at hg;injection hg with hg;subst hg;exact h1
 exact h j g (by omega) hg
theorem aCf {A:Option Addr}{n c:Nat}{l:List FV}{w:World}(hn:n<=17592186044416)(hm:Lm w)(h:RdF w w.heap.size A n c l) :
  Calls Tryz.prog 75 #[.slice A n c] w (BoolBelow (treeOk l) w):=by
 have HL:=hid h.len
 by_cases hbig:100<n
 ·have HO:=hid (aSt (l:=l) (by rw[HL.out];exact hbig))
  go_enter Tryz.func75,Tryz.ntmps75
  go_wp2
  go_ret
  exact ⟨aAf HO.out.symm,Below.refl _ _⟩
 have hn100:n<=100:=by omega
 go_enter Tryz.func75,Tryz.ntmps75
 go_wp2_with fail
 refine (bFd hn h).mono ?_
 rintro e w1 ⟨g,nn,D,rfl,hg1,hg2,hnn,hS,hb1⟩
 go_wp2
 go_loopw[13] (fun i wr=>∃k:Nat,k<=n/\i=.int .i64 k/\Below w.heap.size w wr/\Below w1.heap.size w1 wr/\Hid (FineTo l k)) (fun i _=>n-(intOf i).toNat)
 case atStart=>exact ⟨0,Nat.zero_le _,rfl,hb1,Below.refl _ _,fun j f hj=>absurd hj (Nat.not_lt_zero _)⟩
 obtain ⟨k,hk,rfl,hb,hb2,hF⟩:=hrel
 by_cases hlt:k<n
 ·obtain ⟨b0,o0,f,eA,hbb,hx,hfm,h0,h1,h2⟩:=h.get hlt
  cases eA
  replace h0:=(hb.cell (p:=⟨b0,o0+k*3,none⟩) (by show b0<_;omega)).trans h0
  replace h1:=(hb.cell (p:=⟨b0,o0+k*3+1,none⟩) (by show b0<_;omega)).trans h1
  replace h2:=(hb.cell (p:=⟨b0,o0+k*3+2,none⟩) (by show b0<_;omega)).trans h2
  have HX:=hid hx;clear hx
  have hfit:=h.fits f hfm
  obtain ⟨wN,hwN⟩:∃x,x=wr.alloc (.cells #[.string f.path,.bool f.exec,.string f.text] 48):=⟨_,rfl⟩
  have hbN:Below wr.heap.size wr wN:=by rw[hwN];exact (Below.refl _ _).alloc (Nat.le_refl _) _
  have hzN:wN.heap.size=wr.heap.size+1:=by rw[hwN];simp
  have hcN:∀t u,f.cells[t]? = some u->wN.cell? ⟨wr.heap.size,t,none⟩=some u:=by
   intro t u hu;rw[hwN,World.cell?,heap_alloc_new];simpa[FV.cells] using hu
  have c0:=hcN 0 _ rfl
  have c2:=hcN 2 _ rfl
  clear hcN
  have hbW:Below w.heap.size w wN:=hb.trans (hbN.mono hb.size)
  have hmN:Lm wN:=hm.to hbW
  have hbW1:Below w1.heap.size w1 wN:=hb2.trans (hbN.mono hb2.size)
  have hSN:=hS.below hbW1
  have HP:∀v:World,Below wN.heap.size wN v->Calls Tryz.prog 104 #[.string f.path] v (BoolBelow (pathOk f.p) v):=fun v hv=>aPt (hmN.to hv)
  have HW:∀v:World,Below wN.heap.size wN v->f.path.size<=1048576->Calls Tryz.prog 105 #[.map (some g),.string f.path] v (BoolBelow (onWay (pathsOf l) f.p) v):=fun v hv hs=>aYp hs (hmN.to hv) (hSN.below hv)
  have BAD:∀v:World,Below wN.heap.size wN v->¬Fine l k f->BoolBelow (treeOk l) w (.returned (.bool false)) v:=fun v hv hf=>⟨aAf (bIg HX.out hf).symm,hbW.trans (hv.mono hbW.size)⟩
  have hz100:pathOk f.p=true->f.path.size<=100:=fun h=>by
   simp only[pathOk,Bool.and_eq_true,decide_eq_true_eq] at h
   exact h.1.1.2
  go_wp2
  rw[<-hwN]
  clear hwN h0 h1 h2 hS hb1 hg1 hg2
  refine aAh (fun w'=>Below wN.heap.size wN w') (qe [2,29] 31) mixed (by kernel_rfl) (Below.refl _ _).drew ?_
  intro T M Q hT hT' hM hQ
  have m0:M ⟨wr.heap.size,0,none⟩=some (.string f.path):=hM _ _ fun w' hw=>(hw.cell (p:=⟨wr.heap.size,0,none⟩) (by show wr.heap.size<_;omega)).trans c0
  have m2:M ⟨wr.heap.size,2,none⟩=some (.string f.text):=hM _ _ fun w' hw=>(hw.cell (p:=⟨wr.heap.size,2,none⟩) (by show wr.heap.size<_;omega)).trans c2
  simp only[qcmp,Nat.reduceBEq,Bool.or_self,Bool.or_true]
  simp (maxSteps:=9^7) only[↓qpre,aAb,aAe,aAc,m0]
  refine aAi (by kernel_rfl) (HP _ (Below.refl _ _).drew) rfl rfl ?_
  rintro e v1 ⟨rfl,hv1⟩
  have hb3:Below wN.heap.size wN v1:=(Below.refl _ _).drew.trans hv1
  refine ⟨_,rfl,hT _ hb3,?_⟩
  cases hp:pathOk f.p with
  | false=>
   have HO:=BAD v1 hb3 (fun hf=>by rw[hf.1.1] at hp;cases hp)
   clear HP HW BAD
   simp (maxSteps:=9^7) only[↓qpre,aAb,aAc]
   refine hQ _ _ ?_
   clear hQ hT hT' hM m0 m2
   go_wp2
   go_ret
   exact HO
  | true=>
   have hz:=hz100 hp
   by_cases ht:20000<f.text.size
   ·have htd:decide ((20000:Int)<f.text.size)=true:=decide_eq_true (by omega)
    have HO:=BAD v1 hb3 (fun hf=>by have:=hf.1.2;omega)
    clear HP HW BAD
    simp (maxSteps:=9^7) only[↓qpre,aAb,aAe,aAc,m2,htd]
    refine hQ _ _ ?_
    clear hQ hT hT' hM m0 m2
    go_wp2
    go_ret
    exact HO
   have htd:decide ((20000:Int)<f.text.size)=false:=decide_eq_false (by omega)
   by_cases hk0:k=0
   ·have hk1:decide ((0:Int)<k)=false:=decide_eq_false (by omega)
    have hpr:∀g,1<=k->l[k-1]? = some g->g.p<f.p:=fun g h=>by omega
    simp (maxSteps:=9^7) only[↓qpre,aAb,aAe,aAc,m0,m2,htd,hk1]
    refine aAi (by kernel_rfl) (HW _ hb3 (by omega)) rfl rfl ?_
    rintro e v2 ⟨rfl,hv2⟩
    have hb4:=hb3.trans (hv2.mono hb3.size)
    refine ⟨_,rfl,hT _ hb4,?_⟩
    cases ho:onWay (pathsOf l) f.p with
    | true=>
     have HO:=BAD v2 hb4 (fun hf=>by rw[hf.2.2] at ho;cases ho)
     clear HP HW BAD
     simp (maxSteps:=9^7) only[↓qpre,aAb,aAc]
     refine hQ _ _ ?_
     clear hQ hT hT' hM m0 m2
     go_wp2
     go_ret
     exact HO
    | false=>
     have HO:=hid (FineTo.next hF.out HX.out ⟨⟨hp,by omega⟩,hpr,ho⟩)
     have hbe:=hbW.trans (hb4.mono hbW.size)
     have hbe1:=hbW1.trans (hb4.mono hbW1.size)
     clear HP HW BAD
     simp (maxSteps:=9^7) only[↓qpre,aAb,aAc]
     refine hQ _ _ ?_
     clear hQ hT hT' hM m0 m2
     go_wp2
     go_roundw
     case rel=>exact ⟨k+1,by omega,by go_num,hbe,hbe1,HO.out⟩
     simp[intOf];omega
   have hk1:decide ((0:Int)<k)=true:=decide_eq_true (by omega)
   obtain ⟨b1,o1,g1,eA,_,hx1,_,p0,p1,p2⟩:=h.get (k:=k-1) (by omega)
   cases eA
   have m5:M ⟨b0,o0+(k-1)*3,none⟩=some (.string g1.path):=hM _ _ fun w' hw=>(hw.cell (p:=⟨b0,o0+(k-1)*3,none⟩) (by show b0<_;have:=hbW.size;omega)).trans ((hbW.cell (p:=⟨b0,o0+(k-1)*3,none⟩) (by show b0<_;omega)).trans p0)
   have e1:((k:Int)-1).toNat=k-1:=by omega
   have hle:=aVc f.path g1.path
   by_cases hlt2:g1.path.data.toList<f.path.data.toList
   ·have hpr:∀g,1<=k->l[k-1]? = some g->g.p<f.p:=fun g _ h=>by rw[hx1] at h;injection h with h;subst h;exact hlt2
    have hle2:=hle.trans (by rw[decide_eq_true hlt2];rfl:_=false)
    simp (maxSteps:=9^7) only[↓qpre,aAb,aAe,aAc,m0,m2,htd,hk1,m5,e1,hle2]
    refine ⟨by unfold inI64;omega,⟨by omega,by omega⟩,?_⟩
    clear hle hle2 m5 p0 p1 p2
    refine aAi (by kernel_rfl) (HW _ hb3 (by omega)) rfl rfl ?_
    rintro e v2 ⟨rfl,hv2⟩
    have hb4:=hb3.trans (hv2.mono hb3.size)
    refine ⟨_,rfl,hT _ hb4,?_⟩
    cases ho:onWay (pathsOf l) f.p with
    | true=>
     have HO:=BAD v2 hb4 (fun hf=>by rw[hf.2.2] at ho;cases ho)
     clear HP HW BAD
     simp (maxSteps:=9^7) only[↓qpre,aAb,aAc]
     refine hQ _ _ ?_
     clear hQ hT hT' hM m0 m2
     go_wp2
     go_ret
     exact HO
    | false=>
     have HO:=hid (FineTo.next hF.out HX.out ⟨⟨hp,by omega⟩,hpr,ho⟩)
     have hbe:=hbW.trans (hb4.mono hbW.size)
     have hbe1:=hbW1.trans (hb4.mono hbW1.size)
     clear HP HW BAD
     simp (maxSteps:=9^7) only[↓qpre,aAb,aAc]
     refine hQ _ _ ?_
     clear hQ hT hT' hM m0 m2
     go_wp2
     go_roundw
     case rel=>exact ⟨k+1,by omega,by go_num,hbe,hbe1,HO.out⟩
     simp[intOf];omega
   have HO:=BAD v1 hb3 (fun hf=>hlt2 (hf.2.1 g1 (by omega) hx1))
   have hle2:=hle.trans (by rw[decide_eq_false hlt2];rfl:_=true)
   clear HP HW BAD
   simp (maxSteps:=9^7) only[↓qpre,aAb,aAe,aAc,m0,m2,htd,hk1,m5,e1,hle2]
   refine ⟨by unfold inI64;omega,⟨by omega,by omega⟩,hQ _ _ ?_⟩
   clear hQ hT hT' hM m0 m2 m5 p0 p1 p2 hle hle2
   go_wp2
   go_ret
   exact HO
 have hkn:k=n:=by omega
 subst hkn
 have HO:=hid (hF.out.done HL.out hn100)
 go_wp2
 go_ret
 exact ⟨aAf HO.out.symm,hb⟩
theorem bHa {s:ByteArray}{k:Nat}{p:UInt8->Bool}(h:(s.data.toList.take k).all p=true)(hlt:k<s.size)(hp:p s[k]=true):(s.data.toList.take (k+1)).all p=true:=by
 have hx:s.data.toList[k]? = some s[k]:=by
  have:=List.getElem?_eq_getElem (l:=s.data.toList) (i:=k) hlt
  rw[this];rfl
 rw[List.take_add_one,hx,List.all_append,h];simp[hp]
theorem bEj {s:ByteArray}{k:Nat}{p:UInt8->Bool}(hlt:k<s.size)(hp:p s[k]=false):s.data.toList.all p=false:=by
 have hx:s.data.toList[k]? = some s[k]:=by
  have:=List.getElem?_eq_getElem (l:=s.data.toList) (i:=k) hlt
  rw[this];rfl
 rw[List.all_eq_false]
 exact ⟨_,List.mem_of_getElem? hx,by rw[hp];simp⟩
theorem aJw {s:ByteArray}(h:s.data.toList.all byteOk=false):pathOk s.data.toList=false:=by rw[pathOk,h];simp
theorem aHc {s:ByteArray}{ps:List ByteArray}(hp:ps.map (·.data.toList)=parts s.data.toList){u:ByteArray}(hu:u∈ps)(h:partOkB u=false):pathOk s.data.toList=false:=by
 have:(parts s.data.toList).all partOk=false:=by rw[<-aLz hp,List.all_eq_false];exact ⟨u,hu,by rw[h];simp⟩
 rw[pathOk,this];simp
theorem bAe {s:ByteArray}{ps:List ByteArray}(h0:¬s.size=0)(h1:¬100<s.size)(hb:(s.data.toList.take s.size).all byteOk=true)(hp:ps.map (·.data.toList)=parts s.data.toList)(h:∀u∈ps,partOkB u=true):pathOk s.data.toList=true:=by
 have hl:s.data.toList.length=s.size:=rfl
 rw[List.take_of_length_le (by omega)] at hb
 rw[pathOk,hl,decide_eq_true (by omega),decide_eq_true (by omega),hb,<-aLz hp,List.all_eq_true.2 h];rfl
theorem aSw:∀(s:Bs),(parts s).length<=s.length+1
 | []=>by simp[parts]
 | c::cs=>by
  have ih:=aSw cs
  unfold parts
  split
  ·simp;omega
  split
  ·rename_i e;rw[e] at ih;simp at ih ⊢;omega
  simp
theorem aSu {s:ByteArray}{w:World}:Calls Tryz.prog 51 #[.string s] w (BoolBelow (pathOk s.data.toList) w):=by
 have hl:s.data.toList.length=s.size:=rfl
 by_cases h0:s.size=0
 ·have HP:=hid (show pathOk s.data.toList=false by rw[pathOk,hl,decide_eq_false (by omega)];rfl)
  have hz:(s.size:Int)<1:=by omega
  go_enter Tryz.func51,Tryz.ntmps51
  go_wp2
  go_ret
  exact ⟨aAf HP.out.symm,Below.refl _ _⟩
 have hz1:¬(s.size:Int)<1:=by omega
 by_cases h1:100<s.size
 ·have HP:=hid (show pathOk s.data.toList=false by rw[pathOk,hl,decide_eq_false (p:=s.size<=100) (by omega)];simp)
  have hz2:(100:Int)<s.size:=by omega
  go_enter Tryz.func51,Tryz.ntmps51
  go_wp2
  go_ret
  exact ⟨aAf HP.out.symm,Below.refl _ _⟩
 have hz2:¬(100:Int)<s.size:=by omega
 go_enter Tryz.func51,Tryz.ntmps51
 go_wp2
 go_loopw[3] (fun i wr=>∃k:Nat,k<=s.size/\i=.int .i64 k/\Below w.heap.size w wr/\Hid ((s.data.toList.take k).all byteOk=true)) (fun i _=>s.size-(intOf i).toNat)
 case atStart=>exact ⟨0,Nat.zero_le _,rfl,Below.refl _ _,rfl⟩
 obtain ⟨k,hk,rfl,hb,hF⟩:=hrel
 by_cases hlt:k<s.size
 ·by_cases c1:(s[k].toNat:Int)<33
  ·have HO:=hid (aJw (bEj (p:=byteOk) hlt (by rw[aHq,decide_eq_false (by omega)];rfl)))
   go_wp2
   go_ret
   exact ⟨aAf HO.out.symm,hb⟩
  by_cases c2:126<(s[k].toNat:Int)
  ·have HO:=hid (aJw (bEj (p:=byteOk) hlt (by rw[aHq,decide_eq_false (p:=(s[k].toNat:Int)<=126) (by omega),Bool.and_false])))
   go_wp2
   go_ret
   exact ⟨aAf HO.out.symm,hb⟩
  have HO:=hid (bHa (p:=byteOk) hF.out hlt (by rw[aHq,decide_eq_true (by omega),decide_eq_true (by omega)];rfl))
  go_wp2
  go_roundw
  case rel=>exact ⟨k+1,by omega,by go_num,hb,HO.out⟩
  simp[intOf];omega
 obtain rfl:k=s.size:=by omega
 go_wp2_with fail
 refine (bAf (by omega)).mono ?_
 rintro e w1 ⟨A,c,ps,rfl,hps,hr,hb1⟩
 replace hb1:=hb.trans (hb1.mono hb.size)
 have HPS:=hid hps
 have hpl:ps.length<=s.size+1:=by have:=aSw s.data.toList;rw[<-hps,List.length_map] at this;exact this
 clear hps
 go_wp2
 go_loopw[5] (fun i wr=>∃k:Nat,k<=ps.length/\i=.int .i64 k/\Below w.heap.size w wr/\Below w1.heap.size w1 wr/\Hid (∀u∈ps.take k,partOkB u=true)) (fun i _=>ps.length-(intOf i).toNat)
 case atStart=>exact ⟨0,Nat.zero_le _,rfl,hb1,Below.refl _ _,by rw[List.take_zero];intro m hm;cases hm⟩
 obtain ⟨k,hk,rfl,hb1,hb2,hj⟩:=hrel
 by_cases hlt:k<ps.length
 ·obtain ⟨b0,o0,u,rfl,hbb,hx,h0⟩:=hr.str hlt
  replace h0:=(hb2.cell (p:=⟨b0,o0+k,none⟩) hbb).trans h0
  have HX:=hid hx
  have hm:=List.mem_of_getElem? hx
  clear hx
  by_cases n0':u=⟨#[]⟩
  ·have HO:=hid (aHc HPS.out hm (aDa (.inl n0')))
   subst n0'
   go_wp2
   go_ret
   exact ⟨aAf HO.out.symm,hb1⟩
  by_cases n1':u=⟨#[46]⟩
  ·have HO:=hid (aHc HPS.out hm (aDa (.inr (.inl n1'))))
   subst n1'
   go_wp2
   go_ret
   exact ⟨aAf HO.out.symm,hb1⟩
  by_cases n2':u=⟨#[46,46]⟩
  ·have HO:=hid (aHc HPS.out hm (aDa (.inr (.inr n2'))))
   subst n2'
   go_wp2
   go_ret
   exact ⟨aAf HO.out.symm,hb1⟩
  have HO:=hid (aNe n0' n1' n2')
  have n0:¬u.toList=[]:=fun e=>n0' (aCh (by rw[<-Lib.toList_data];exact e))
  have n1:¬u.toList=[46]:=fun e=>n1' (aCh (by rw[<-Lib.toList_data];exact e))
  have n2:¬u.toList=[46,46]:=fun e=>n2' (aCh (by rw[<-Lib.toList_data];exact e))
  have m0:u.toList.isEmpty=false:=by rw[List.isEmpty_eq_false_iff];exact n0
  have m1:(u.toList == [46])=false:=beq_eq_false_iff_ne.2 n1
  have m2:(u.toList == [46,46])=false:=beq_eq_false_iff_ne.2 n2
  clear n0' n1' n2' n0 n1 n2
  go_wp2
  go_roundw
  case rel=>
   refine ⟨k+1,by omega,by go_num,hb1,hb2,?_⟩
   intro m hm
   rw[List.take_add_one,HX.out] at hm
   rcases List.mem_append.1 hm with hm | hm
   ·exact hj.out m hm
   simp at hm;subst hm;exact HO.out
  simp[intOf];omega
 obtain rfl:k=ps.length:=by omega
 have hj':=hj.out
 rw[List.take_length] at hj'
 have HO:=hid (bAe h0 h1 hF.out HPS.out hj')
 go_wp2
 go_ret
 exact ⟨aAf HO.out.symm,hb1⟩
theorem aSe (p d:ByteArray):within p.data.toList d.data.toList=true↔∃h:d.size<p.size,p.extract 0 d.size=d/\p[d.size]=47:=by
 have hl:p.data.toList.length=p.size:=rfl
 have hd:d.data.toList.length=d.size:=rfl
 have he:(p.extract 0 d.size).data.toList=p.data.toList.take d.size:=by rw[aQc];simp
 rw[aGn]
 constructor
 ·rintro ⟨r,h⟩
  have hlt:d.size<p.size:=by rw[<-hl,<-hd,h];simp
  refine ⟨hlt,aCh (by rw[he,h,<-hd,List.take_left]),?_⟩
  have h1:p.data.toList[d.size]? = some p[d.size]:=by
   have:=List.getElem?_eq_getElem (l:=p.data.toList) (i:=d.size) (by omega)
   rw[this];rfl
  have h2:(d.data.toList++47::r)[d.size]? = some 47:=by rw[<-hd,List.getElem?_append_right (Nat.le_refl _),Nat.sub_self];rfl
  rw[h,h2] at h1
  injection h1 with h1
  exact h1.symm
 rintro ⟨hlt,h1,h2⟩
 have h3:p.data.toList[d.size]? = some p[d.size]:=by
  have:=List.getElem?_eq_getElem (l:=p.data.toList) (i:=d.size) (by omega)
  rw[this];rfl
 refine ⟨p.data.toList.drop (d.size+1),?_⟩
 have h4:p.data.toList.take d.size=d.data.toList:=by rw[<-he,h1]
 conv=>lhs;rw[<-List.take_append_drop d.size p.data.toList,h4,List.drop_eq_getElem_cons (by omega)]
 have h5:=(List.getElem?_eq_some_iff.1 h3).2
 rw[h5,h2]
theorem aLh {p d:ByteArray}(h:¬∃h:d.size<p.size,p.extract 0 d.size=d/\p[d.size]=47):within p.data.toList d.data.toList=false:=by
 cases e:within p.data.toList d.data.toList with
 | false=>rfl
 | true=>exact absurd ((aSe p d).1 e) h
theorem aMc {p d:ByteArray}{w:World}(_hp:p.size<=maxLen)(hd:d.size<=maxLen):Calls Tryz.prog 94 #[.string p,.string d] w fun e w'=>e=.returned (.bool (within p.data.toList d.data.toList))/\w'=w:=by
 unfold maxLen at _hp hd
 by_cases h1:d.size<p.size
 ·have h1i:(d.size:Int)<p.size:=by omega
  by_cases h2:p.extract 0 d.size=d
  ·by_cases h3:p[d.size]=47
   ·have HO:=hid ((aSe p d).2 ⟨h1,h2,h3⟩)
    have h3i:((p[d.size].toNat:Int) == 47)=true:=by rw[h3];rfl
    go_enter Tryz.func94,Tryz.ntmps94
    go_wp2
    go_ret
    exact ⟨aAf HO.out.symm,rfl⟩
   have HO:=hid (aLh (p:=p) (d:=d) fun ⟨_,_,h⟩=>h3 h)
   have h3i:((p[d.size].toNat:Int) == 47)=false:=by
    refine beq_eq_false_iff_ne.2 fun e=>h3 (UInt8.toNat.inj ?_)
    show p[d.size].toNat=47
    omega
   go_enter Tryz.func94,Tryz.ntmps94
   go_wp2
   go_ret
   exact ⟨aAf HO.out.symm,rfl⟩
  have HO:=hid (aLh (p:=p) (d:=d) fun ⟨_,h,_⟩=>h2 h)
  have h2i:=aBw h2
  go_enter Tryz.func94,Tryz.ntmps94
  go_wp2
  go_ret
  exact ⟨aAf HO.out.symm,rfl⟩
 have HO:=hid (aLh (p:=p) (d:=d) fun ⟨h,_⟩=>h1 h)
 have h1i:¬(d.size:Int)<p.size:=by omega
 go_enter Tryz.func94,Tryz.ntmps94
 go_wp2
 go_ret
 exact ⟨aAf HO.out.symm,rfl⟩
theorem aOb {p d:ByteArray}{w:World}(hp:p.size<=maxLen)(hd:d.size<=maxLen):Calls Tryz.prog 52 #[.string p,.string d] w fun e w'=>e=.returned (.bool (clashP p.data.toList d.data.toList))/\w'=w:=by
 by_cases h:p=d
 ·subst h
  have HO:=hid (show clashP p.data.toList p.data.toList=true by simp[clashP])
  go_enter Tryz.func52,Tryz.ntmps52
  go_wp2
  go_ret
  exact ⟨aAf HO.out.symm,rfl⟩
 have hn:=aBw h
 have HC:=hid (show clashP p.data.toList d.data.toList=(within p.data.toList d.data.toList || within d.data.toList p.data.toList) by
  have:¬p.data.toList=d.data.toList:=fun e=>h (aCh e)
  simp[clashP,this])
 have W1:=aMc (w:=w) hp hd
 have W2:=aMc (w:=w) hd hp
 cases h1:within p.data.toList d.data.toList with
 | true=>
  rw[h1] at W1
  have HO:=hid h1
  clear h1
  go_enter Tryz.func52,Tryz.ntmps52
  go_wp2_with fail
  refine W1.mono ?_
  rintro e w1 ⟨rfl,rfl⟩
  go_wp2
  go_ret
  exact ⟨aAf (by rw[HC.out,HO.out];rfl),rfl⟩
 | false=>
  rw[h1] at W1
  have HO:=hid h1
  clear h1
  go_enter Tryz.func52,Tryz.ntmps52
  go_wp2_with fail
  refine W1.mono ?_
  rintro e w1 ⟨rfl,rfl⟩
  go_wp2_with fail
  refine W2.mono ?_
  rintro e w2 ⟨rfl,rfl⟩
  go_wp2
  go_ret
  exact ⟨aAf (by rw[HC.out,HO.out];rfl),rfl⟩
def RFine (l:List FV)(k:Nat)(f:FV):Prop:=FileOk f/\(∀g,1<=k->l[k-1]? = some g->g.p<f.p)/\∀(j:Nat) (g:FV),j<k->l[j]? = some g->clashP g.p f.p=false
theorem TreeOk.rfine {l:List FV}(h:TreeOk l){k:Nat}{f:FV}(hf:l[k]? = some f):RFine l k f:=
 ⟨(h.fine hf).1,(h.fine hf).2.1,fun _j _g hj hg=>h.pair hj hf hg⟩
theorem aXj {l:List FV}{k:Nat}{f:FV}(hf:l[k]? = some f)(h:¬RFine l k f):treeOk l=false:=by
 cases e:treeOk l with
 | false=>rfl
 | true=>exact absurd ((aAt.1 e).rfine hf) h
def RFineTo (l:List FV)(k:Nat):Prop:=∀j f,j<k->l[j]? = some f->RFine l j f
theorem RFineTo.done {l:List FV}{n:Nat}(h:RFineTo l n)(hl:l.length=n)(hn:n<=100):treeOk l=true:=by
 have at_:∀k f,l[k]? = some f->RFine l k f:=fun k f hf=>h k f (by have:=(List.getElem?_eq_some_iff.1 hf).1;omega) hf
 refine aAt.2 (aZe (by omega) (fun f hf=>?_) (fun i a b ha hb=>(at_ (i+1) b hb).2.1 a (by omega) ha) fun i j a b hij ha hb=>(at_ i a ha).2.2 j b hij hb)
 obtain ⟨i,hi,rfl⟩:=List.getElem_of_mem hf
 exact (at_ i _ (List.getElem?_eq_getElem hi)).1
theorem RFineTo.next {l:List FV}{k:Nat}{f:FV}(h:RFineTo l k)(hf:l[k]? = some f)(h1:RFine l k f):RFineTo l (k+1):=by
 intro j g hj hg
 by_cases e:j=k
 ·subst e;rw[hf] at hg;injection hg with hg;subst hg;exact h1
 exact h j g (by omega) hg
def ApartTo (l:List FV)(f:FV)(j:Nat):Prop:=∀(i:Nat) (g:FV),i<j->l[i]? = some g->clashP g.p f.p=false
theorem ApartTo.next {l:List FV}{j:Nat}{f g:FV}(h:ApartTo l f j)(hg:l[j]? = some g)(h1:clashP g.p f.p=false):ApartTo l f (j+1):=by
 intro i x hi hx
 by_cases e:i=j
 ·subst e;rw[hg] at hx;injection hx with hx;subst hx;exact h1
 exact h i x (by omega) hx
theorem bAj {A:Option Addr}{n c:Nat}{l:List FV}{w:World}(hn:n<=17592186044416)(h:RdF w w.heap.size A n c l) :
  Calls Tryz.prog 19 #[.slice A n c] w (BoolBelow (treeOk l) w):=by
 have HL:=hid h.len
 by_cases hbig:100<n
 ·have HO:=hid (aSt (l:=l) (by rw[HL.out];exact hbig))
  go_enter Tryz.func19,Tryz.ntmps19
  go_wp2
  go_ret
  exact ⟨aAf HO.out.symm,Below.refl _ _⟩
 have hn100:n<=100:=by omega
 go_enter Tryz.func19,Tryz.ntmps19
 go_wp2
 go_loopw[3,4] (fun i _ wr=>∃k:Nat,k<=n/\i=.int .i64 k/\Below w.heap.size w wr/\Hid (RFineTo l k)) (fun i _ _=>n-(intOf i).toNat)
 case atStart=>exact ⟨0,Nat.zero_le _,rfl,Below.refl _ _,fun j f hj=>absurd hj (Nat.not_lt_zero _)⟩
 obtain ⟨k,hk,rfl,hb,hF⟩:=hrel
 by_cases hlt:k<n
 ·obtain ⟨b0,o0,f,eA,hbb,hx,hfm,h0,h1,h2⟩:=h.get hlt
  cases eA
  have HX:=hid hx;clear hx
  have hfit:=h.fits f hfm
  have BAD:∀v:World,Below wr.heap.size wr v->¬RFine l k f->BoolBelow (treeOk l) w (.returned (.bool false)) v:=fun v hv hf=>⟨aAf (aXj HX.out hf).symm,hb.trans (hv.mono hb.size)⟩
  have hz100:pathOk f.p=true->f.path.size<=100:=fun h=>by
   simp only[pathOk,Bool.and_eq_true,decide_eq_true_eq] at h
   exact h.1.1.2
  go_wp2
  refine aAh (fun w'=>Below wr.heap.size wr w') (qe [5] 34) mixed (by kernel_rfl) (Below.refl _ _).drew ?_
  intro T M Q hT hT' hM hQ
  have m0:M ⟨b0,o0+k*3,none⟩=some (.string f.path):=hM _ _ fun w' hw=>(hw.cell (p:=⟨b0,o0+k*3,none⟩) (by show b0<_;have:=hb.size;omega)).trans ((hb.cell (p:=⟨b0,o0+k*3,none⟩) (by show b0<_;omega)).trans h0)
  have m2:M ⟨b0,o0+k*3+2,none⟩=some (.string f.text):=hM _ _ fun w' hw=>(hw.cell (p:=⟨b0,o0+k*3+2,none⟩) (by show b0<_;have:=hb.size;omega)).trans ((hb.cell (p:=⟨b0,o0+k*3+2,none⟩) (by show b0<_;omega)).trans h2)
  simp only[qcmp,Nat.reduceBEq]
  simp (maxSteps:=9^7) only[↓qpre,aAb,aAe,aAc,m0]
  refine ⟨⟨by omega,by omega⟩,aAi (by kernel_rfl) aSu rfl rfl ?_⟩
  rintro e v1 ⟨rfl,hv1⟩
  have hb3:Below wr.heap.size wr v1:=(Below.refl _ _).drew.trans hv1
  refine ⟨_,rfl,hT _ hb3,?_⟩
  have hp0:pathOk f.path.data.toList=pathOk f.p:=rfl
  rw[hp0]
  cases hp:pathOk f.p with
  | false=>
   have HO:=BAD v1 hb3 (fun hf=>by rw[hf.1.1] at hp;cases hp)
   clear BAD
   simp (maxSteps:=9^7) only[↓qpre,aAb,aAc]
   refine hQ _ _ ?_
   clear hQ hT hT' hM m0 m2
   go_wp2
   go_ret
   exact HO
  | true=>
   have hz:=hz100 hp
   by_cases ht:20000<f.text.size
   ·have htd:decide ((20000:Int)<f.text.size)=true:=decide_eq_true (by omega)
    have HO:=BAD v1 hb3 (fun hf=>by have:=hf.1.2;omega)
    clear BAD
    simp (maxSteps:=9^7) only[↓qpre,aAb,aAe,aAc,m2,htd]
    refine ⟨⟨by omega,by omega⟩,hQ _ _ ?_⟩
    clear hQ hT hT' hM m0 m2
    go_wp2
    go_ret
    exact HO
   have htd:decide ((20000:Int)<f.text.size)=false:=decide_eq_false (by omega)
   by_cases hpv:∀g,1<=k->l[k-1]? = some g->g.p<f.p
   case neg=>
    obtain ⟨b1,o1,g1,eA,hbb1,hx1,_,p0,p1,p2⟩:=h.get (k:=k-1) (by omega)
    cases eA
    have hk1':1<=k:=by
     refine Nat.one_le_iff_ne_zero.2 fun e=>hpv fun g hg=>by omega
    have hlt2:¬g1.path.data.toList<f.path.data.toList:=fun hc=>hpv fun g _ hg=>by rw[hx1] at hg;injection hg with hg;subst hg;exact hc
    have hk1:decide ((0:Int)<k)=true:=decide_eq_true (by omega)
    have m5:M ⟨b0,o0+(k-1)*3,none⟩=some (.string g1.path):=hM _ _ fun w' hw=>(hw.cell (p:=⟨b0,o0+(k-1)*3,none⟩) (by show b0<_;have:=hb.size;omega)).trans ((hb.cell (p:=⟨b0,o0+(k-1)*3,none⟩) (by show b0<_;omega)).trans p0)
    have e1:((k:Int)-1).toNat=k-1:=by omega
    have hle2:=(aVc f.path g1.path).trans (by rw[decide_eq_false hlt2];rfl:_=true)
    have HO:=BAD v1 hb3 (fun hf=>hlt2 (hf.2.1 g1 (by omega) hx1))
    clear BAD
    simp (maxSteps:=9^7) only[↓qpre,aAb,aAe,aAc,m0,m2,htd,hk1,m5,e1,hle2]
    refine ⟨⟨by omega,by omega⟩,⟨by omega,by omega⟩,by unfold inI64;omega,⟨by omega,by omega⟩,hQ _ _ ?_⟩
    clear hQ hT hT' hM m0 m2 m5 p0 p1 p2 hle2
    go_wp2
    go_ret
    exact HO
   have HP:=hid hpv
   have hbW:=hb.trans (hb3.mono hb.size)
   clear BAD
   by_cases hk0:k=0
   ·have hk1:decide ((0:Int)<k)=false:=decide_eq_false (by omega)
    simp (maxSteps:=9^7) only[↓qpre,aAb,aAe,aAc,m2,htd,hk1]
    refine ⟨⟨by omega,by omega⟩,hQ _ _ ?_⟩
    clear hQ hT hT' hM m0 m2
    go_wp2
    go_loopw[4] (fun jv wr'=>∃j:Nat,j<=k/\jv=.int .i64 j/\Below w.heap.size w wr'/\Hid (ApartTo l f j)) (fun jv _=>k-(intOf jv).toNat)
    case atStart=>exact ⟨0,Nat.zero_le _,rfl,hbW,fun i g hi=>absurd hi (Nat.not_lt_zero _)⟩
    obtain ⟨j,hj,rfl,hbr,hC⟩:=hrel
    by_cases hlt3:j<k
    ·exact absurd hlt3 (by omega)
    obtain rfl:j=k:=by omega
    have HO:=hid (RFineTo.next hF.out HX.out ⟨⟨hp,by omega⟩,HP.out,hC.out⟩)
    go_wp2
    go_roundw
    case rel=>exact ⟨j+1,by omega,by go_num,hbr,HO.out⟩
    simp[intOf];omega
   have hk1:decide ((0:Int)<k)=true:=decide_eq_true (by omega)
   obtain ⟨b1,o1,g1,eA,hbb1,hx1,_,p0,p1,p2⟩:=h.get (k:=k-1) (by omega)
   cases eA
   have m5:M ⟨b0,o0+(k-1)*3,none⟩=some (.string g1.path):=hM _ _ fun w' hw=>(hw.cell (p:=⟨b0,o0+(k-1)*3,none⟩) (by show b0<_;have:=hb.size;omega)).trans ((hb.cell (p:=⟨b0,o0+(k-1)*3,none⟩) (by show b0<_;omega)).trans p0)
   have e1:((k:Int)-1).toNat=k-1:=by omega
   have hlt2:g1.path.data.toList<f.path.data.toList:=HP.out g1 (by omega) hx1
   have hle2:=(aVc f.path g1.path).trans (by rw[decide_eq_true hlt2];rfl:_=false)
   simp (maxSteps:=9^7) only[↓qpre,aAb,aAe,aAc,m0,m2,htd,hk1,m5,e1,hle2]
   refine ⟨⟨by omega,by omega⟩,⟨by omega,by omega⟩,by unfold inI64;omega,⟨by omega,by omega⟩,hQ _ _ ?_⟩
   clear m5 p0 p1 p2 hle2 hx1
   clear hQ hT hT' hM m0 m2
   go_wp2
   go_loopw[4] (fun jv wr'=>∃j:Nat,j<=k/\jv=.int .i64 j/\Below w.heap.size w wr'/\Hid (ApartTo l f j)) (fun jv _=>k-(intOf jv).toNat)
   case atStart=>exact ⟨0,Nat.zero_le _,rfl,hbW,fun i g hi=>absurd hi (Nat.not_lt_zero _)⟩
   obtain ⟨j,hj,rfl,hbr,hC⟩:=hrel
   by_cases hlt3:j<k
   ·obtain ⟨b1,o1,g1,eA,_,hx1,hm1,q0,q1,q2⟩:=h.get (k:=j) (by omega)
    cases eA
    have HX1:=hid hx1
    clear hx1
    have hfit1:=h.fits g1 hm1
    have C:=fun (v:World)=>aOb (w:=v) (p:=g1.path) (d:=f.path) (by unfold maxLen;omega) (by unfold maxLen;omega)
    go_wp2
    refine aAh (fun w'=>Below w.heap.size w w') (qe [10] 11) mixed (by kernel_rfl) hbr.drew ?_
    intro T M Q hT hT' hM hQ
    have m0:M ⟨b0,o0+k*3,none⟩=some (.string f.path):=hM _ _ fun w' hw=>(hw.cell (p:=⟨b0,o0+k*3,none⟩) (by show b0<_;omega)).trans h0
    have m1:M ⟨b0,o0+j*3,none⟩=some (.string g1.path):=hM _ _ fun w' hw=>(hw.cell (p:=⟨b0,o0+j*3,none⟩) (by show b0<_;omega)).trans q0
    simp only[qcmp,Nat.reduceBEq]
    simp (maxSteps:=9^7) only[↓qpre,aAb,aAe,aAc,m0,m1]
    refine ⟨⟨by omega,by omega⟩,⟨by omega,by omega⟩,aAi (by kernel_rfl) (C _) rfl rfl ?_⟩
    rintro e w' ⟨rfl,rfl⟩
    refine ⟨_,rfl,hT _ hbr.drew,?_⟩
    simp (maxSteps:=9^7) only[aAb,aAc]
    refine hQ _ _ ?_
    have hbd:=hbr.drew
    clear hQ hT hT' hM m0 m1 C q0 q1 q2
    cases hc:clashP g1.path.data.toList f.path.data.toList with
    | true=>
     have HO:=hid (aXj HX.out fun hf=>by have:=hf.2.2 j g1 hlt3 HX1.out;rw[show clashP g1.p f.p=true from hc] at this;cases this)
     clear hc
     go_wp2
     go_ret
     exact ⟨aAf HO.out.symm,hbd⟩
    | false=>
     have HO:=hid (hC.out.next HX1.out hc)
     clear hc
     go_wp2
     go_roundw
     case rel=>exact ⟨j+1,by omega,by go_num,hbd,HO.out⟩
     simp[intOf];omega
   obtain rfl:j=k:=by omega
   have HO:=hid (RFineTo.next hF.out HX.out ⟨⟨hp,by omega⟩,HP.out,hC.out⟩)
   go_wp2
   go_roundw
   case rel=>exact ⟨j+1,by omega,by go_num,hbr,HO.out⟩
   simp[intOf];omega
 have hkn:k=n:=by omega
 subst hkn
 have HO:=hid (hF.out.done HL.out hn100)
 go_wp2
 go_ret
 exact ⟨aAf HO.out.symm,hb⟩
def hasP (l:List FV)(p:ByteArray):Bool:=l.any fun f=>decide (f.path=p)
def findP (l:List FV)(p:ByteArray):Option FV:=l.find? fun f=>decide (f.path=p)
def without (l:List FV)(p:ByteArray):List FV:=l.filter fun f=>!decide (f.path=p)
def lessF (f x:FV):Bool:=decide (x.p<f.p)
def sortedIn (l:List FV)(f:FV):List FV:=l.takeWhile (lessF f)++f::l.dropWhile (lessF f)
def clashF (l:List FV)(p:ByteArray):Bool:=l.any fun f=>!decide (f.path=p) && clashP f.p p.data.toList
noncomputable def putF (l:List FV) (f:FV):List FV×Int:=
 if treeOk l=false then ([],5) else if pathOk f.p=false then ([],11) else if 20000<f.text.size then ([],6)
 else if hasP l f.path=true then (sortedIn (without l f.path) f,0)
 else if clashF l f.path=true then ([],11) else if 100<=l.length then ([],6) else (sortedIn l f,0)
noncomputable def dropF (l:List FV) (p:ByteArray):List FV×Int:=
 if treeOk l=false then ([],5) else if hasP l p=false then ([],8) else (without l p,0)
theorem FV.p_inj {f g:FV}:f.p=g.p↔f.path=g.path:=by
 constructor
 ·intro h
  exact aCh h
 intro h;rw[FV.p,h,FV.p]
theorem aDl {l:List FV}{p:ByteArray}:hasP l p=true↔∃f∈l,f.path=p:=by simp[hasP]
theorem aJc {l:List FV}{p:ByteArray}:findP l p=none↔hasP l p=false:=by
 simp[findP,hasP]
theorem aCi {l:List FV}{p:ByteArray}{f:FV}(h:findP l p=some f):f∈l/\f.path=p:=by
 have h1:=List.find?_some h
 exact ⟨List.mem_of_find?_eq_some h,by simpa using h1⟩
def FirstAt (q:FV->Bool)(l:List FV)(k:Nat)(f:FV):Prop:=l[k]? = some f/\q f=true/\∀j g,j<k->l[j]? = some g->q g=false
theorem FirstAt.take_false {q:FV->Bool}{l:List FV}{k:Nat}{f:FV}(h:FirstAt q l k f):∀g∈l.take k,q g=false:=by
 intro g hg
 obtain ⟨j,hj,e⟩:=List.getElem_of_mem hg
 rw[List.length_take] at hj
 rw[List.getElem_take] at e
 exact h.2.2 j g (by omega) (by rw[<-e];exact List.getElem?_eq_getElem _)
theorem FirstAt.split {q:FV->Bool}{l:List FV}{k:Nat}{f:FV}(h:FirstAt q l k f):l=l.take k++f::l.drop (k+1):=by
 have hk:=(List.getElem?_eq_some_iff.1 h.1).1
 have e:l[k]=f:=(List.getElem?_eq_some_iff.1 h.1).2
 rw[<-e,List.getElem_cons_drop,List.take_append_drop]
theorem FirstAt.find {l:List FV}{k:Nat}{f:FV}{p:ByteArray}(h:FirstAt (fun x=>decide (x.path=p)) l k f):findP l p=some f:=by
 have h1:=h.take_false
 have h2:=h.2.1
 rw[findP,h.split,List.find?_append]
 have h3:(l.take k).find? (fun x=>decide (x.path=p))=none:=by
  rw[List.find?_eq_none]
  intro x hx;simp[h1 x hx]
 rw[h3,List.find?_cons]
 simp only[h2];rfl
theorem aWx {l:List FV}{p:ByteArray}(h:∀f∈l,decide (f.path=p)=false):findP l p=none/\hasP l p=false:=by
 have h1:hasP l p=false:=by
  cases e:hasP l p with
  | false=>rfl
  | true=>
   obtain ⟨f,hf,e2⟩:=aDl.1 e
   have:=h f hf
   simp[e2] at this
 exact ⟨aJc.2 h1,h1⟩
theorem Rise.pair {l:List FV}(h:Rise l):l.Pairwise fun a b=>a.p<b.p:=by
 rw[List.pairwise_iff_getElem]
 intro i j hi hj hij
 exact h.lt hij (List.getElem?_eq_getElem hi) (List.getElem?_eq_getElem hj)
theorem aDp {l:List FV}(h:l.Pairwise fun a b=>a.p<b.p):Rise l:=by
 intro i a b ha hb
 obtain ⟨hi,rfl⟩:=List.getElem?_eq_some_iff.1 ha
 obtain ⟨hj,rfl⟩:=List.getElem?_eq_some_iff.1 hb
 exact List.pairwise_iff_getElem.1 h i (i+1) hi hj (by omega)
theorem aGu (a:Bs):¬a<a:=List.lt_irrefl a
theorem aPj {q:FV->Bool}{a b:List FV}(ha:∀x∈a,q x=true)(hb:∀x,b[0]? = some x->q x=false):(a++b).takeWhile q=a/\(a++b).dropWhile q=b:=by
 induction a with
 | nil=>
  cases b with
  | nil=>exact ⟨rfl,rfl⟩
  | cons x b=>
   have:=hb x rfl
   simp[this]
 | cons x a ih=>
  obtain ⟨h1,h2⟩:=ih fun y hy=>ha y (by simp[hy])
  have hx:=ha x (by simp)
  simp only[List.cons_append,List.takeWhile_cons,List.dropWhile_cons,hx,if_true,h1,h2,and_self]
theorem aSg {a b:List FV}{f:FV}(ha:∀x∈a,x.p<f.p)(hb:∀x,b[0]? = some x->¬x.p<f.p):sortedIn (a++b) f=a++f::b:=by
 obtain ⟨h1,h2⟩:=aPj (q:=lessF f) (a:=a) (b:=b) (fun x hx=>decide_eq_true (ha x hx)) (fun x hx=>decide_eq_false (hb x hx))
 rw[sortedIn,h1,h2]
theorem aKl {l:List FV}{p:ByteArray}(h:hasP l p=false):without l p=l:=by
 refine List.filter_eq_self.2 fun x hx=>?_
 have h1:¬x.path=p:=fun e=>by rw[aDl.2 ⟨x,hx,e⟩] at h;cases h
 simp[h1]
section
variable {P:Program} {ops:Array Oper} {S:World->Prop} {F:List Nat}
def wpAnyL (P:Program)(ops:Array Oper)(Q:Exit->Act->World->Prop)(S:World->Prop)(F:List Nat):Nat->Array Bool->Act->World->Prop
 | 0,listed,a,w=>Region.ready .any ops listed=[]/\Q .normal a w
 | fuel+1,listed,a,w=>
  (Region.ready .any ops listed=[]->Q .normal a w)/\
  ∀i∈Region.ready .any ops listed,wpOp P ops Q i (fun a' w'=>(i∉F->S w')/\wpAnyL P ops Q S F fuel (listed.setIfInBounds i true) a' w') a w
variable {Q:Exit->Act->World->Prop}
theorem aIi:∀(fuel:Nat) (listed:Array Bool) (a:Act) (w:World),wpAnyL P ops Q S F fuel listed a w->wpAny P .any ops Q fuel listed a w
 | 0,_,_,_,h=>h
 | fuel+1,_,_,_,h=>⟨h.1,fun i hi=>wpOp_mono (fun a' w' h'=>aIi fuel _ a' w' h'.2) (h.2 i hi)⟩
def Closed (ops:Array Oper)(listed:Array Bool):Prop:=
 ∀j oj,ops[j]? = some oj->listed.getD j true=true->∀e∈oj.after,Region.binds .any e=true->listed.getD e.on false=true
theorem Closed.set {listed:Array Bool}(h:Closed ops listed){j:Nat}(hj:j∈Region.ready .any ops listed):Closed ops (listed.setIfInBounds j true):=by
 intro k ok hk hl e he hb
 have key:listed.getD e.on false=true:=by
  by_cases hkj:j=k
  ·subst hkj
   obtain ⟨_,o,ho,hall⟩:=mem_ready.1 hj
   rw[hk] at ho
   cases ho
   exact hall e he hb
  rw[getD_set_ne true hkj] at hl
  exact h k ok hk hl e he hb
 by_cases hej:j=e.on
 ·subst hej
  have hsz:e.on<listed.size:=by
   rcases Nat.lt_or_ge e.on listed.size with h' | h'
   ·exact h'
   simp[Array.getElem?_eq_none h'] at key
  simp[hsz]
 rw[getD_set_ne false hej]
 exact key
def LateOk (ops:Array Oper)(F:List Nat):Prop:=
 ∀listed,Closed ops listed->∀j∈F,j∈Region.ready .any ops listed->∀i,i<ops.size->i∉F->listed.getD i true=true
theorem aKa {i:Nat}{oi:Oper}{v:Value}(hi:ops[i]? = some oi)(hsel:∀(j:Nat)(o:Oper) cs b,ops[j]? = some o->o.op≠.select cs b)
  (hQ:∀c a w,Q (.panic c) (a.put oi.dst v) w->Q (.panic c) a w) (hF:LateOk ops F) (hiF:i∉F) :
  ∀(fuel:Nat) (listed:Array Bool) (a:Act) (w:World),Closed ops listed->
   (∀j oj,ops[j]? = some oj->j≠i->listed.getD j true=false->(∀e∈oj.after,Region.binds .any e=true->e.on≠i)->oi.apart ops oj=true)->
   i∈Region.ready .any ops listed->YieldsIf P ops S oi v a->S w->
   wpAnyL P ops Q S F fuel (listed.setIfInBounds i true) (a.put oi.dst v) w->wpAnyL P ops Q S F (fuel+1) listed a w:=by
 intro fuel
 induction fuel with
 | zero=>
  intro listed a w _ hfree hr hy hS H
  refine ⟨fun h=>(by rw[h] at hr;cases hr),fun j hj=>?_⟩
  by_cases hji:j=i
  ·subst hji;exact hy.wpOp hi hS ⟨fun _=>hS,H⟩
  have:=ready_mono hj hji
  rw[H.1] at this
  cases this
 | succ fuel ih=>
  intro listed a w hcl hfree hr hy hS H
  refine ⟨fun h=>(by rw[h] at hr;cases hr),fun j hj=>?_⟩
  by_cases hji:j=i
  ·subst hji;exact hy.wpOp hi hS ⟨fun _=>hS,H⟩
  have hjF:j∉F:=fun hjF=>by
   have h1:=hF listed hcl j hjF hj i (Array.getElem?_eq_some_iff.1 hi).1 hiF
   rw[(mem_ready.1 hr).1] at h1
   cases h1
  have h1:=H.2 j (ready_mono hj hji)
  obtain ⟨hjun,oj,hoj,hall⟩:=mem_ready.1 hj
  have hnot:∀e∈oj.after,Region.binds .any e=true->e.on≠i:=fun e he hb heq=>by
   have h1:=hall e he hb
   have h0:=(mem_ready.1 hr).1
   rw[heq] at h1
   rcases Nat.lt_or_ge i listed.size with h' | h'
   ·simp[h'] at h0 h1;rw[h0] at h1;cases h1
   simp[Array.getElem?_eq_none h'] at h1
  have h2:=wpOp_putIf hoj (hfree j oj hoj hji hjun hnot) (fun cs b=>hsel i oi cs b hi) (fun cs b=>hsel j oj cs b hoj) hQ hy h1
  have hfree':∀k ok,ops[k]? = some ok->k≠i->(listed.setIfInBounds j true).getD k true=false->
    (∀e∈ok.after,Region.binds .any e=true->e.on≠i)->oi.apart ops ok=true:=fun k ok hk hki hun hno=>by
   refine hfree k ok hk hki ?_ hno
   by_cases hjk:j=k
   ·subst hjk;exact hjun
   rw[getD_set_ne true hjk] at hun;exact hun
  refine wpOp_mono (fun a' w' h3=>⟨h3.2.1,ih (listed.setIfInBounds j true) a' w' (hcl.set hj) hfree' (ready_mono hr (Ne.symm hji)) h3.1 (h3.2.1 hjF) ?_⟩) h2
  rw[Array.setIfInBounds_comm _ _ hji]
  exact h3.2.2
theorem aVf {listed:Array Bool}{a:Act}{w:World}(hr:Region.ready .any ops listed=[])(h:Q .normal a w) :
  ∀fuel,wpAnyL P ops Q S F fuel listed a w
 | 0=>⟨hr,h⟩
 | _+1=>⟨fun _=>h,by rw[hr];simp⟩
theorem aJb {Qn:Act->World->Prop}(hQ:∀a w,Qn a w->Q .normal a w) :
  ∀(π:List (Bool×Nat)) (listed:Array Bool) (fuel:Nat) (a:Act) (w:World),planOk ops π listed=true->π.length<=fuel->(∀x∈π,x.1=false/\x.2∈F)->
   wl P ops (fun _=>True) Qn π a w->wpAnyL P ops Q S F fuel listed a w
 | [],listed,fuel,a,w,hp,_,_,h=>aVf (by simpa[planOk] using hp) (hQ _ _ h) fuel
 | (q,i)::r,listed,fuel,a,w,hp,hf,hl,h=>by
  obtain ⟨fuel,rfl⟩:∃k,fuel=k+1:=⟨fuel-1,by simp at hf;omega⟩
  simp only[List.length_cons,Nat.add_le_add_iff_right] at hf
  obtain ⟨h0,hiF⟩:=hl (q,i) (by simp)
  simp only at h0 hiF
  subst h0
  have hl':∀x∈r,x.1=false/\x.2∈F:=fun x hx=>hl x (by simp[hx])
  simp only[wl] at h
  cases ho:ops[i]? with
  | none=>simp only[ho] at h
  | some o=>
   simp only[ho] at h
   simp only[planOk,Bool.and_eq_true,beq_iff_eq] at hp
   obtain ⟨p1,p2⟩:=hp
   refine ⟨fun h0=>(by rw[p1] at h0;cases h0),?_⟩
   rw[p1]
   intro j hj
   obtain rfl:j=i:=by simpa using hj
   unfold wpOp
   simp only[ho]
   by_cases hw:Region.wanted o (yielded ops a.tmps)=true
   ·rw[if_pos hw]
    rw[if_pos hw] at h
    simp only[Bool.false_eq_true,if_false] at h
    exact .inl (aEj (fun a' w' hh=>⟨fun hn=>absurd hiF hn,aJb hQ r _ fuel a' w' p2 hf hl' hh.2⟩) (fun _ _ _ hh=>hh.elim) h)
   rw[if_neg hw]
   rw[if_neg hw] at h
   exact ⟨fun hn=>absurd hiF hn,aJb hQ r _ fuel _ w p2 hf hl' h⟩
theorem aDf {Qn:Act->World->Prop}(hs:Region.noSelect ops=true)(hP:∀c a w,¬Q (.panic c) a w)(hF:LateOk ops F) (ρ:List (Bool×Nat))(hρ:∀x∈ρ,x.1=false/\x.2∈F)
  (hQ:∀a w,Qn a w->Q .normal a w) :
  ∀(π:List (Bool×Nat)) (listed:Array Bool) (fuel:Nat) (a:Act) (w:World),planOk ops (π++ρ) listed=true->(π++ρ).length<=fuel->(∀x∈π,x.2∉F)->Closed ops listed->S w->
   wl P ops S (fun a w=>wl P ops (fun _=>True) Qn ρ a w) π a w->wpAnyL P ops Q S F fuel listed a w
 | [],listed,fuel,a,w,hp,hf,_,_,_,h=>aJb hQ ρ listed fuel a w (by simpa using hp) (by simpa using hf) hρ h
 | (q,i)::r,listed,fuel,a,w,hp,hf,hn,hcl,hS,h=>by
  obtain ⟨fuel,rfl⟩:∃k,fuel=k+1:=⟨fuel-1,by simp at hf;omega⟩
  simp only[List.cons_append,List.length_cons,Nat.add_le_add_iff_right] at hf
  have hiF:i∉F:=hn (q,i) (by simp)
  have hn':∀x∈r,x.2∉F:=fun x hx=>hn x (by simp[hx])
  simp only[wl] at h
  cases ho:ops[i]? with
  | none=>simp only[ho] at h
  | some o=>
   simp only[ho] at h
   cases q with
   | true=>
    simp only[List.cons_append,planOk,Bool.and_eq_true] at hp
    obtain ⟨⟨p1,p2⟩,p3⟩:=hp
    have hri:i∈Region.ready .any ops listed:=by simpa using p2
    by_cases hw:Region.wanted o (yielded ops a.tmps)=true
    ·rw[if_pos hw,if_pos rfl] at h
     obtain ⟨v,hv,hr⟩:=h
     exact aKa ho (Region.noSelect_spec hs) (fun c a w hh=>absurd hh (hP _ _ _)) hF hiF fuel listed a w hcl (Region.free_spec ho p1) hri (.inl ⟨hw,fun w hw'=>hv w _ _ _ _ hw'⟩) hS
      (aDf hs hP hF ρ hρ hQ r _ fuel _ w p3 hf hn' (hcl.set hri) hS hr)
    rw[if_neg hw] at h
    exact aKa ho (Region.noSelect_spec hs) (fun c a w hh=>absurd hh (hP _ _ _)) hF hiF fuel listed a w hcl (Region.free_spec ho p1) hri (.inr ⟨by simpa using hw,rfl⟩) hS
     (aDf hs hP hF ρ hρ hQ r _ fuel _ w p3 hf hn' (hcl.set hri) hS h)
   | false=>
    simp only[List.cons_append,planOk,Bool.and_eq_true,beq_iff_eq] at hp
    obtain ⟨p1,p2⟩:=hp
    refine ⟨fun h0=>(by rw[p1] at h0;cases h0),fun j hj=>?_⟩
    have hri:=hj
    rw[p1] at hj
    obtain rfl:j=i:=by simpa using hj
    unfold wpOp
    simp only[ho]
    by_cases hw:Region.wanted o (yielded ops a.tmps)=true
    ·rw[if_pos hw]
     rw[if_pos hw] at h
     simp only[Bool.false_eq_true,if_false] at h
     exact .inl (aEj (fun a' w' hh=>⟨fun _=>hh.1,aDf hs hP hF ρ hρ hQ r _ fuel a' w' p2 hf hn' (hcl.set hri) hh.1 hh.2⟩) (fun _ _ _ hh=>hh.elim) h)
    rw[if_neg hw]
    rw[if_neg hw] at h
    exact ⟨fun _=>hS,aDf hs hP hF ρ hρ hQ r _ fuel _ w p2 hf hn' (hcl.set hri) hS h⟩
def depm (ops:Array Oper)(j:Nat):Nat:=
 match ops[j]? with
 | some o=>bitsOf ((o.after.toList.filter (Region.binds .any)).map (·.on))
 | none=>0
def closB (ops:Array Oper):List Nat->Nat->Nat
 | [],m=>m
 | j::js,m=>closB ops js (bif m.testBit j then Nat.lor m (depm ops j) else m)
theorem aJf {listed:Array Bool}(hcl:Closed ops listed){f:Nat}(hf:f∈Region.ready .any ops listed) :
  ∀(js:List Nat) (m:Nat),(∀t,m.testBit t=true->t=f\/listed.getD t false=true)->∀t,(closB ops js m).testBit t=true->t=f\/listed.getD t false=true
 | [],m,h,t,ht=>h t ht
 | j::js,m,h,t,ht=>by
  refine aJf hcl hf js _ (fun t ht=>?_) t ht
  cases hj:m.testBit j with
  | false=>rw[hj] at ht;exact h t ht
  | true=>
   rw[hj] at ht
   simp only[cond_true] at ht
   rw[show Nat.lor m (depm ops j)=m ||| depm ops j from rfl,Nat.testBit_or,Bool.or_eq_true] at ht
   rcases ht with ht | ht
   ·exact h t ht
   right
   unfold depm at ht
   cases ho:ops[j]? with
   | none=>rw[ho] at ht;simp at ht
   | some o=>
    rw[ho] at ht
    simp only[aAr,decide_eq_true_eq,List.mem_map,List.mem_filter] at ht
    obtain ⟨e,⟨he,hb⟩,rfl⟩:=ht
    have he':e∈o.after:=by simpa using he
    rcases h j hj with rfl | hl
    ·obtain ⟨_,o',ho',hall⟩:=mem_ready.1 hf
     rw[ho] at ho'
     cases ho'
     exact hall e he' hb
    refine hcl j o ho ?_ e he' hb
    rcases Nat.lt_or_ge j listed.size with h' | h'
    ·simpa[h'] using hl
    simp[Array.getElem?_eq_none h'] at hl
def lateChk (ops:Array Oper)(F:List Nat):Bool:=
 F.all fun f=>let m:=closB ops (List.range ops.size).reverse (2 ^ f);(List.range ops.size).all fun i=>F.contains i || m.testBit i
theorem bDa {F:List Nat}(h:lateChk ops F=true):LateOk ops F:=by
 intro listed hcl f hf hr i hi hiF
 have h1:=List.all_eq_true.1 h f hf
 have h2:=List.all_eq_true.1 h1 i (List.mem_range.2 hi)
 simp only[Bool.or_eq_true] at h2
 rcases h2 with h2 | h2
 ·exact absurd (by simpa using h2) hiF
 rcases aJf hcl hr _ _ (fun t ht=>by rw[Nat.testBit_two_pow] at ht;left;exact (of_decide_eq_true ht).symm) i h2 with h3 | h3
 ·exact absurd (h3▸hf) hiF
 rcases Nat.lt_or_ge i listed.size with h' | h'
 ·simpa[h'] using h3
 simp[Array.getElem?_eq_none h'] at h3
def lates (F:List Nat):List (Bool×Nat):=F.map fun i=>(false,i)
def planChkL (ops:Array Oper) (π:List (Bool×Nat))(F:List Nat):Bool:=
 planChk ops (π++lates F) && lateChk ops F && (π.all fun x=>!F.contains x.2)
theorem aBf {id:Nat} {Q':Exit->Act->World->Prop}{a:Act}{w:World}(S:World->Prop) (π:List (Bool×Nat))(F:List Nat)(hm:P.follows .mixedOrders=true)
  (hc:planChkL ops π F=true)
  (hS:S w.drew)
  (h:∀(T:World->Prop) (M:Addr->Option Value) (Q Q2:Act->World->Prop),(∀w,S w->T w)->(∀w,T w->S w)->(∀p v,(∀w,S w->w.cell? p=some v)->M p=some v)->
   (∀a w,wq P (fun _=>True) (fun _=>none) Q2 (cmp ops (lates F)) a w->Q a w)->(∀a w,Q' .normal a w->Q2 a w)->wq P T M Q (cmp ops π) a w.drew) :
  (Code.region id ops true).wp P Q' a w:=by
 simp only[planChkL,Bool.and_eq_true] at hc
 obtain ⟨⟨hc,hl⟩,hπ⟩:=hc
 simp only[planChk,Bool.and_eq_true,Nat.ble_eq] at hc
 obtain ⟨⟨⟨c1,c2⟩,c3⟩,c4⟩:=hc
 have c5:planOk ops (π++lates F) (Array.replicate ops.size false)=true:=aCd _ 0 _ (by simp) (fun j hj=>by simp[hj]) (fun j _=>by simp) c3
 have hcl:Closed ops (Array.replicate ops.size false):=by
  intro j oj hj hlj
  have:=(Array.getElem?_eq_some_iff.1 hj).1
  simp[this] at hlj
 rw[List.all_append,Bool.and_eq_true] at c4
 have hM:∀p v,(Classical.epsilon fun o:Option Value=>∀v,o=some v↔∀w,S w->w.cell? p=some v)=some v↔∀w,S w->w.cell? p=some v:=by
  intro p
  have hex:∃o:Option Value,∀v,o=some v↔∀w,S w->w.cell? p=some v:=by
   by_cases hx:∃v,∀w,S w->w.cell? p=some v
   ·obtain ⟨v,hv⟩:=hx
    refine ⟨some v,fun u=>⟨fun e=>(by cases e;exact hv),fun hu=>?_⟩⟩
    have h1:=hv _ hS
    rw[hu _ hS] at h1
    exact h1.symm
   exact ⟨none,fun u=>⟨fun e=>(by cases e),fun hu=>absurd ⟨u,hu⟩ hx⟩⟩
  exact Classical.epsilon_spec hex
 refine wp_region_noPanic (wp_region_any hm (aIi (S:=S) (F:=F) _ _ _ _ ?_))
 refine aDf (S:=S) (F:=F) (Qn:=Q' .normal) c1 (fun c a w h=>h) (bDa hl) (lates F) (fun x hx=>by obtain ⟨i,hi,rfl⟩:=List.mem_map.1 hx;exact ⟨rfl,hi⟩) (fun a w hh=>NoPanic.normal hh) π _ _ _ _ c5 c2
  (fun x hx=>by have:=List.all_eq_true.1 hπ x hx;simpa using this) hcl hS ?_
 refine aBl (M:=fun p=>Classical.epsilon fun o:Option Value=>∀v,o=some v↔∀w,S w->w.cell? p=some v) (fun p v h=>(hM p v).1 h) π a w.drew c4.1 ?_
 refine h S _ _ _ (fun _ h=>h) (fun _ h=>h) (fun p v h=>(hM p v).2 h) (fun a' w' hh=>?_) (fun _ _ h=>h)
 exact aBl (M:=fun _=>none) (fun p v h=>by cases h) (lates F) a' w' c4.2 hh
end
section
variable {P:Program} {S:World->Prop} {a:Act} {w:World} {K:Act->World->Prop}
theorem aTn {v:Value}(h:v.oneCell'=true):v.cells=#[v]:=by cases v<;>first | rfl | cases h
theorem aBi {dst:Option Tmp}{t ty:TypeId}{x y:Operand}{q:Bool}{g:Option (Tmp×Bool)}{b o:Nat}{v:Value}(hi:(P.info? t).map (·.size)=some 1)
  (hx:a.eval x=.pointer (some ⟨b,o,none⟩)) (hy:a.eval y=v) (hc:(w.cell? ⟨b,o,none⟩).isSome=true) (hf:w.frozen? ⟨b,o,none⟩=false) (h1:v.oneCell'=true)
  (hK:S (w.setCell ⟨b,o,none⟩ v)/\K (a.put dst undef) (w.setCell ⟨b,o,none⟩ v)) :
  effq P S ⟨q,dst,.store t x y,ty,g⟩ a w K:=by
 intro p af g
 have hc0:∀j,j<[v].length->(w.cell? ⟨b,o+0+j,none⟩).isSome=true:=by
  intro j hj
  obtain rfl:j=0:=by simpa using hj
  exact hc
 have hf0:∀j,j<[v].length->w.frozen? ⟨b,o+0+j,none⟩=false:=by
  intro j hj
  obtain rfl:j=0:=by simpa using hj
  exact hf
 have hr:=run_storeCells_cells (P:=P) b o [v] 0 w hc0 hf0 (fun u hu=>by obtain rfl:=List.mem_singleton.1 hu;exact h1)
 have hi':∃i,P.info? t=some i/\i.size=1:=by
  obtain ⟨i,h1,h2⟩:=Option.map_eq_some_iff.1 hi
  exact ⟨i,h1,h2⟩
 obtain ⟨i,hi1,hi2⟩:=hi'
 unfold Oper.wp execOp
 have hst:(storeVar t ⟨b,o,none⟩ v).run P w=.ok () (w.setCell ⟨b,o,none⟩ v):=by
  simp[storeVar,sizeOf,typeInfo,hi1,hi2,aTn h1,hr,World.setCells]
 simp only[hx,hy,Instr.storeAt,Instr.sureAddr,Sem.run_bind,Sem.run_pure,Result.andThen_ok,hst]
 exact hK
theorem bIp {dst:Option Tmp}{t e ty:TypeId}{x:Operand}{q:Bool}{g:Option (Tmp×Bool)}{bytes:Nat}{v:Value}(E:Elem P t e 1 bytes)
  (hx:a.eval x=v) (h1:v.oneCell'=true)
  (hK:S (w.alloc (.cells #[v] e))/\K (a.put dst (.slice (some ⟨w.heap.size,0,none⟩) 1 1)) (w.alloc (.cells #[v] e))) :
  effq P S ⟨q,dst,.buildSlice t 1 #[(0,x)],ty,g⟩ a w K:=by
 intro p af g
 obtain ⟨i,z,hi,hz,hsz,hby,hzs⟩:=E.row
 unfold Oper.wp execOp
 have hv:=aTn h1
 have hr:(Instr.buildSlice t 1 #[(0,v)]).run P w=.ok (.slice (some ⟨w.heap.size,0,none⟩) 1 1) (w.alloc (.cells #[v] e)):=by
  simp[Instr.buildSlice,run_underlying E.und,sizeOf,typeInfo,hi,hsz,zeroValue,hz,Instr.fill,hv,hzs,newRow,show Array.range 1=#[0] from rfl]
 simp only[List.map_toArray,List.map_cons,List.map_nil,hx,hr,Sem.run_bind,Sem.run_pure,Result.andThen_ok]
 exact hK
end
structure OR where
 e:TypeId
 sz:Nat
 v:Value
 n:Nat
 xs:List Value
structure Owns (w:World) (base:Nat) (l:List OR):Prop where
 own:∀r∈l,w.ownsRow base r.e r.sz r.v r.n r.xs
 nd:(l.filterMap fun r=>r.v.ownBlock).Nodup
section
variable {w w':World} {base:Nat} {l l1 l2:List OR} {r r':OR}
end
theorem len_flat {α:Type}{f:α->List Value}{k:Nat}(hf:∀a,(f a).length=k):∀l:List α,(l.flatMap f).length=l.length*k
 | []=>by simp
 | a::l=>by rw[List.flatMap_cons,List.length_append,hf,len_flat hf l,List.length_cons,Nat.succ_mul];omega
end Go.Proofs.YtohblmepajhpaaaGreatDoor
