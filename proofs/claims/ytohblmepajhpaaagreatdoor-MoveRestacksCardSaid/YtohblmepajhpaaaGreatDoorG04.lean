/- Contracts of functions that the law reaches, and plain laws of what they compute. -/
import Derived.Laws.OwnMore
import Derived.Laws.IdiomCopy
import Derived.Laws.Tables
import Derived.Laws.StructEq
import Derived.Laws.ResultCell
import Derived.Test.YtohblmepajhpaaaGreatDoorG01
import Derived.Test.YtohblmepajhpaaaGreatDoorG03
set_option maxHeartbeats 4000000
set_option maxRecDepth 100000
open Go.Lib (hid)
namespace Go.Proofs.YtohblmepajhpaaaGreatDoor
open Go.RowKit
section
variable {P:Program} {ops:Array Oper} {S:World->Prop} {F:List Nat}
def wpAnyL (P:Program)(ops:Array Oper)(Q:Exit->Act->World->Prop)(S:World->Prop)(F:List Nat):Nat->Array Bool->Act->World->Prop
 | 0,listed,a,w=>Region.ready .any ops listed=[]/\Q .normal a w
 | fuel+1,listed,a,w=>
  (Region.ready .any ops listed=[]->Q .normal a w)/\
  ∀i∈Region.ready .any ops listed,wpOp P ops Q i (fun a' w'=>(i∉F->S w')/\wpAnyL P ops Q S F fuel (listed.setIfInBounds i true) a' w') a w
variable {Q:Exit->Act->World->Prop}
theorem aIs:∀(fuel:Nat) (listed:Array Bool) (a:Act) (w:World),wpAnyL P ops Q S F fuel listed a w->wpAny P .any ops Q fuel listed a w
 | 0,_,_,_,h=>h
 | fuel+1,_,_,_,h=>⟨h.1,fun i hi=>wpOp_mono (fun a' w' h'=>aIs fuel _ a' w' h'.2) (h.2 i hi)⟩
def Closed (ops:Array Oper)(listed:Array Bool):Prop:=
 ∀j oj,ops[j]? = some oj->listed.getD j true=true->∀e∈oj.after,Region.binds .any e=true->listed.getD e.on false=true
theorem Closed.set {listed:Array Bool}(h:Closed ops listed){j:Nat}(hj:j∈Region.ready .any ops listed):Closed ops (listed.setIfInBounds j true):=by
 intro k ok hk hl e he hb
 have key:listed.getD e.on false=true:=by
  by_cases hkj:j=k
  ·subst hkj
   obtain ⟨_,o,ho,hall⟩:=mem_ready.1 hj
   rw[hk] at ho
   cases ho
   exact hall e he hb
  rw[getD_set_ne true hkj] at hl
  exact h k ok hk hl e he hb
 by_cases hej:j=e.on
 ·subst hej
  have hsz:e.on<listed.size:=by
   rcases Nat.lt_or_ge e.on listed.size with h' | h'
   ·exact h'
   simp[Array.getElem?_eq_none h'] at key
  simp[hsz]
 rw[getD_set_ne false hej]
 exact key
def LateOk (ops:Array Oper)(F:List Nat):Prop:=
 ∀listed,Closed ops listed->∀j∈F,j∈Region.ready .any ops listed->∀i,i<ops.size->i∉F->listed.getD i true=true
theorem aKf {i:Nat}{oi:Oper}{v:Value}(hi:ops[i]? = some oi)(hsel:∀(j:Nat)(o:Oper) cs b,ops[j]? = some o->o.op≠.select cs b)
  (hQ:∀c a w,Q (.panic c) (a.put oi.dst v) w->Q (.panic c) a w) (hF:LateOk ops F) (hiF:i∉F) :
  ∀(fuel:Nat) (listed:Array Bool) (a:Act) (w:World),Closed ops listed->
   (∀j oj,ops[j]? = some oj->j≠i->listed.getD j true=false->(∀e∈oj.after,Region.binds .any e=true->e.on≠i)->oi.apart ops oj=true)->
   i∈Region.ready .any ops listed->YieldsIf P ops S oi v a->S w->
   wpAnyL P ops Q S F fuel (listed.setIfInBounds i true) (a.put oi.dst v) w->wpAnyL P ops Q S F (fuel+1) listed a w:=by
 intro fuel
 induction fuel with
 | zero=>
  intro listed a w _ hfree hr hy hS H
  refine ⟨fun h=>(by rw[h] at hr;cases hr),fun j hj=>?_⟩
  by_cases hji:j=i
  ·subst hji;exact hy.wpOp hi hS ⟨fun _=>hS,H⟩
  have:=ready_mono hj hji
  rw[H.1] at this
  cases this
 | succ fuel ih=>
  intro listed a w hcl hfree hr hy hS H
  refine ⟨fun h=>(by rw[h] at hr;cases hr),fun j hj=>?_⟩
  by_cases hji:j=i
  ·subst hji;exact hy.wpOp hi hS ⟨fun _=>hS,H⟩
  have hjF:j∉F:=fun hjF=>by
   have h1:=hF listed hcl j hjF hj i (Array.getElem?_eq_some_iff.1 hi).1 hiF
   rw[(mem_ready.1 hr).1] at h1
   cases h1
  have h1:=H.2 j (ready_mono hj hji)
  obtain ⟨hjun,oj,hoj,hall⟩:=mem_ready.1 hj
  have hnot:∀e∈oj.after,Region.binds .any e=true->e.on≠i:=fun e he hb heq=>by
   have h1:=hall e he hb
   have h0:=(mem_ready.1 hr).1
   rw[heq] at h1
   rcases Nat.lt_or_ge i listed.size with h' | h'
   ·simp[h'] at h0 h1;rw[h0] at h1;cases h1
   simp[Array.getElem?_eq_none h'] at h1
  have h2:=wpOp_putIf hoj (hfree j oj hoj hji hjun hnot) (fun cs b=>hsel i oi cs b hi) (fun cs b=>hsel j oj cs b hoj) hQ hy h1
  have hfree':∀k ok,ops[k]? = some ok->k≠i->(listed.setIfInBounds j true).getD k true=false->
    (∀e∈ok.after,Region.binds .any e=true->e.on≠i)->oi.apart ops ok=true:=fun k ok hk hki hun hno=>by
   refine hfree k ok hk hki ?_ hno
   by_cases hjk:j=k
   ·subst hjk;exact hjun
   rw[getD_set_ne true hjk] at hun;exact hun
  refine wpOp_mono (fun a' w' h3=>⟨h3.2.1,ih (listed.setIfInBounds j true) a' w' (hcl.set hj) hfree' (ready_mono hr (Ne.symm hji)) h3.1 (h3.2.1 hjF) ?_⟩) h2
  rw[Array.setIfInBounds_comm _ _ hji]
  exact h3.2.2
theorem aUr {listed:Array Bool}{a:Act}{w:World}(hr:Region.ready .any ops listed=[])(h:Q .normal a w) :
  ∀fuel,wpAnyL P ops Q S F fuel listed a w
 | 0=>⟨hr,h⟩
 | _+1=>⟨fun _=>h,by rw[hr];simp⟩
theorem aJu {Qn:Act->World->Prop}(hQ:∀a w,Qn a w->Q .normal a w) :
  ∀(π:List (Bool×Nat)) (listed:Array Bool) (fuel:Nat) (a:Act) (w:World),planOk ops π listed=true->π.length<=fuel->(∀x∈π,x.1=false/\x.2∈F)->
   wl P ops (fun _=>True) Qn π a w->wpAnyL P ops Q S F fuel listed a w
 | [],listed,fuel,a,w,hp,_,_,h=>aUr (by simpa[planOk] using hp) (hQ _ _ h) fuel
 | (q,i)::r,listed,fuel,a,w,hp,hf,hl,h=>by
  obtain ⟨fuel,rfl⟩:∃k,fuel=k+1:=⟨fuel-1,by simp at hf;omega⟩
  simp only[List.length_cons,Nat.add_le_add_iff_right] at hf
  obtain ⟨h0,hiF⟩:=hl (q,i) (by simp)
  simp only at h0 hiF
  subst h0
  have hl':∀x∈r,x.1=false/\x.2∈F:=fun x hx=>hl x (by simp[hx])
  simp only[wl] at h
  cases ho:ops[i]? with
  | none=>simp only[ho] at h
  | some o=>
   simp only[ho] at h
   simp only[planOk,Bool.and_eq_true,beq_iff_eq] at hp
   obtain ⟨p1,p2⟩:=hp
   refine ⟨fun h0=>(by rw[p1] at h0;cases h0),?_⟩
   rw[p1]
   intro j hj
   obtain rfl:j=i:=by simpa using hj
   unfold wpOp
   simp only[ho]
   by_cases hw:Region.wanted o (yielded ops a.tmps)=true
   ·rw[if_pos hw]
    rw[if_pos hw] at h
    simp only[Bool.false_eq_true,if_false] at h
    exact .inl (aEq (fun a' w' hh=>⟨fun hn=>absurd hiF hn,aJu hQ r _ fuel a' w' p2 hf hl' hh.2⟩) (fun _ _ _ hh=>hh.elim) h)
   rw[if_neg hw]
   rw[if_neg hw] at h
   exact ⟨fun hn=>absurd hiF hn,aJu hQ r _ fuel _ w p2 hf hl' h⟩
theorem aDo {Qn:Act->World->Prop}(hs:Region.noSelect ops=true)(hP:∀c a w,¬Q (.panic c) a w)(hF:LateOk ops F) (ρ:List (Bool×Nat))(hρ:∀x∈ρ,x.1=false/\x.2∈F)
  (hQ:∀a w,Qn a w->Q .normal a w) :
  ∀(π:List (Bool×Nat)) (listed:Array Bool) (fuel:Nat) (a:Act) (w:World),planOk ops (π++ρ) listed=true->(π++ρ).length<=fuel->(∀x∈π,x.2∉F)->Closed ops listed->S w->
   wl P ops S (fun a w=>wl P ops (fun _=>True) Qn ρ a w) π a w->wpAnyL P ops Q S F fuel listed a w
 | [],listed,fuel,a,w,hp,hf,_,_,_,h=>aJu hQ ρ listed fuel a w (by simpa using hp) (by simpa using hf) hρ h
 | (q,i)::r,listed,fuel,a,w,hp,hf,hn,hcl,hS,h=>by
  obtain ⟨fuel,rfl⟩:∃k,fuel=k+1:=⟨fuel-1,by simp at hf;omega⟩
  simp only[List.cons_append,List.length_cons,Nat.add_le_add_iff_right] at hf
  have hiF:i∉F:=hn (q,i) (by simp)
  have hn':∀x∈r,x.2∉F:=fun x hx=>hn x (by simp[hx])
  simp only[wl] at h
  cases ho:ops[i]? with
  | none=>simp only[ho] at h
  | some o=>
   simp only[ho] at h
   cases q with
   | true=>
    simp only[List.cons_append,planOk,Bool.and_eq_true] at hp
    obtain ⟨⟨p1,p2⟩,p3⟩:=hp
    have hri:i∈Region.ready .any ops listed:=by simpa using p2
    by_cases hw:Region.wanted o (yielded ops a.tmps)=true
    ·rw[if_pos hw,if_pos rfl] at h
     obtain ⟨v,hv,hr⟩:=h
     exact aKf ho (Region.noSelect_spec hs) (fun c a w hh=>absurd hh (hP _ _ _)) hF hiF fuel listed a w hcl (Region.free_spec ho p1) hri (.inl ⟨hw,fun w hw'=>hv w _ _ _ _ hw'⟩) hS
      (aDo hs hP hF ρ hρ hQ r _ fuel _ w p3 hf hn' (hcl.set hri) hS hr)
    rw[if_neg hw] at h
    exact aKf ho (Region.noSelect_spec hs) (fun c a w hh=>absurd hh (hP _ _ _)) hF hiF fuel listed a w hcl (Region.free_spec ho p1) hri (.inr ⟨by simpa using hw,rfl⟩) hS
     (aDo hs hP hF ρ hρ hQ r _ fuel _ w p3 hf hn' (hcl.set hri) hS h)
   | false=>
    simp only[List.cons_append,planOk,Bool.and_eq_true,beq_iff_eq] at hp
    obtain ⟨p1,p2⟩:=hp
    refine ⟨fun h0=>(by rw[p1] at h0;cases h0),fun j hj=>?_⟩
    have hri:=hj
    rw[p1] at hj
    obtain rfl:j=i:=by simpa using hj
    unfold wpOp
    simp only[ho]
    by_cases hw:Region.wanted o (yielded ops a.tmps)=true
    ·rw[if_pos hw]
     rw[if_pos hw] at h
     simp only[Bool.false_eq_true,if_false] at h
     exact .inl (aEq (fun a' w' hh=>⟨fun _=>hh.1,aDo hs hP hF ρ hρ hQ r _ fuel a' w' p2 hf hn' (hcl.set hri) hh.1 hh.2⟩) (fun _ _ _ hh=>hh.elim) h)
    rw[if_neg hw]
    rw[if_neg hw] at h
    exact ⟨fun _=>hS,aDo hs hP hF ρ hρ hQ r _ fuel _ w p2 hf hn' (hcl.set hri) hS h⟩
def depm (ops:Array Oper)(j:Nat):Nat:=
 match ops[j]? with
 | some o=>bitsOf ((o.after.toList.filter (Region.binds .any)).map (·.on))
 | none=>0
def closB (ops:Array Oper):List Nat->Nat->Nat
 | [],m=>m
 | j::js,m=>closB ops js (bif m.testBit j then Nat.lor m (depm ops j) else m)
theorem aKa {listed:Array Bool}(hcl:Closed ops listed){f:Nat}(hf:f∈Region.ready .any ops listed) :
  ∀(js:List Nat) (m:Nat),(∀t,m.testBit t=true->t=f\/listed.getD t false=true)->∀t,(closB ops js m).testBit t=true->t=f\/listed.getD t false=true
 | [],m,h,t,ht=>h t ht
 | j::js,m,h,t,ht=>by
  refine aKa hcl hf js _ (fun t ht=>?_) t ht
  cases hj:m.testBit j with
  | false=>rw[hj] at ht;exact h t ht
  | true=>
   rw[hj] at ht
   simp only[cond_true] at ht
   rw[show Nat.lor m (depm ops j)=m ||| depm ops j from rfl,Nat.testBit_or,Bool.or_eq_true] at ht
   rcases ht with ht | ht
   ·exact h t ht
   right
   unfold depm at ht
   cases ho:ops[j]? with
   | none=>rw[ho] at ht;simp at ht
   | some o=>
    rw[ho] at ht
    simp only[aAu,decide_eq_true_eq,List.mem_map,List.mem_filter] at ht
    obtain ⟨e,⟨he,hb⟩,rfl⟩:=ht
    have he':e∈o.after:=by simpa using he
    rcases h j hj with rfl | hl
    ·obtain ⟨_,o',ho',hall⟩:=mem_ready.1 hf
     rw[ho] at ho'
     cases ho'
     exact hall e he' hb
    refine hcl j o ho ?_ e he' hb
    rcases Nat.lt_or_ge j listed.size with h' | h'
    ·simpa[h'] using hl
    simp[Array.getElem?_eq_none h'] at hl
def lateChk (ops:Array Oper)(F:List Nat):Bool:=
 F.all fun f=>let m:=closB ops (List.range ops.size).reverse (2 ^ f);(List.range ops.size).all fun i=>F.contains i || m.testBit i
theorem bBk {F:List Nat}(h:lateChk ops F=true):LateOk ops F:=by
 intro listed hcl f hf hr i hi hiF
 have h1:=List.all_eq_true.1 h f hf
 have h2:=List.all_eq_true.1 h1 i (List.mem_range.2 hi)
 simp only[Bool.or_eq_true] at h2
 rcases h2 with h2 | h2
 ·exact absurd (by simpa using h2) hiF
 rcases aKa hcl hr _ _ (fun t ht=>by rw[Nat.testBit_two_pow] at ht;left;exact (of_decide_eq_true ht).symm) i h2 with h3 | h3
 ·exact absurd (h3▸hf) hiF
 rcases Nat.lt_or_ge i listed.size with h' | h'
 ·simpa[h'] using h3
 simp[Array.getElem?_eq_none h'] at h3
def lates (F:List Nat):List (Bool×Nat):=F.map fun i=>(false,i)
def planChkL (ops:Array Oper) (π:List (Bool×Nat))(F:List Nat):Bool:=
 planChk ops (π++lates F) && lateChk ops F && (π.all fun x=>!F.contains x.2)
theorem aBg {id:Nat} {Q':Exit->Act->World->Prop}{a:Act}{w:World}(S:World->Prop) (π:List (Bool×Nat))(F:List Nat)(hm:P.follows .mixedOrders=true)
  (hc:planChkL ops π F=true)
  (hS:S w.drew)
  (h:∀(T:World->Prop) (M:Addr->Option Value) (Q Q2:Act->World->Prop),(∀w,S w->T w)->(∀w,T w->S w)->(∀p v,(∀w,S w->w.cell? p=some v)->M p=some v)->
   (∀a w,wq P (fun _=>True) (fun _=>none) Q2 (cmp ops (lates F)) a w->Q a w)->(∀a w,Q' .normal a w->Q2 a w)->wq P T M Q (cmp ops π) a w.drew) :
  (Code.region id ops true).wp P Q' a w:=by
 simp only[planChkL,Bool.and_eq_true] at hc
 obtain ⟨⟨hc,hl⟩,hπ⟩:=hc
 simp only[planChk,Bool.and_eq_true,Nat.ble_eq] at hc
 obtain ⟨⟨⟨c1,c2⟩,c3⟩,c4⟩:=hc
 have c5:planOk ops (π++lates F) (Array.replicate ops.size false)=true:=aCf _ 0 _ (by simp) (fun j hj=>by simp[hj]) (fun j _=>by simp) c3
 have hcl:Closed ops (Array.replicate ops.size false):=by
  intro j oj hj hlj
  have:=(Array.getElem?_eq_some_iff.1 hj).1
  simp[this] at hlj
 rw[List.all_append,Bool.and_eq_true] at c4
 have hM:∀p v,(Classical.epsilon fun o:Option Value=>∀v,o=some v↔∀w,S w->w.cell? p=some v)=some v↔∀w,S w->w.cell? p=some v:=by
  intro p
  have hex:∃o:Option Value,∀v,o=some v↔∀w,S w->w.cell? p=some v:=by
   by_cases hx:∃v,∀w,S w->w.cell? p=some v
   ·obtain ⟨v,hv⟩:=hx
    refine ⟨some v,fun u=>⟨fun e=>(by cases e;exact hv),fun hu=>?_⟩⟩
    have h1:=hv _ hS
    rw[hu _ hS] at h1
    exact h1.symm
   exact ⟨none,fun u=>⟨fun e=>(by cases e),fun hu=>absurd ⟨u,hu⟩ hx⟩⟩
  exact Classical.epsilon_spec hex
 refine wp_region_noPanic (wp_region_any hm (aIs (S:=S) (F:=F) _ _ _ _ ?_))
 refine aDo (S:=S) (F:=F) (Qn:=Q' .normal) c1 (fun c a w h=>h) (bBk hl) (lates F) (fun x hx=>by obtain ⟨i,hi,rfl⟩:=List.mem_map.1 hx;exact ⟨rfl,hi⟩) (fun a w hh=>NoPanic.normal hh) π _ _ _ _ c5 c2
  (fun x hx=>by have:=List.all_eq_true.1 hπ x hx;simpa using this) hcl hS ?_
 refine aBq (M:=fun p=>Classical.epsilon fun o:Option Value=>∀v,o=some v↔∀w,S w->w.cell? p=some v) (fun p v h=>(hM p v).1 h) π a w.drew c4.1 ?_
 refine h S _ _ _ (fun _ h=>h) (fun _ h=>h) (fun p v h=>(hM p v).2 h) (fun a' w' hh=>?_) (fun _ _ h=>h)
 exact aBq (M:=fun _=>none) (fun p v h=>by cases h) (lates F) a' w' c4.2 hh
end
section
variable {P:Program} {S:World->Prop} {a:Act} {w:World} {K:Act->World->Prop}
theorem aTk {v:Value}(h:v.oneCell'=true):v.cells=#[v]:=by cases v<;>first | rfl | cases h
theorem aBl {dst:Option Tmp}{t ty:TypeId}{x y:Operand}{q:Bool}{g:Option (Tmp×Bool)}{b o:Nat}{v:Value}(hi:(P.info? t).map (·.size)=some 1)
  (hx:a.eval x=.pointer (some ⟨b,o,none⟩)) (hy:a.eval y=v) (hc:(w.cell? ⟨b,o,none⟩).isSome=true) (hf:w.frozen? ⟨b,o,none⟩=false) (h1:v.oneCell'=true)
  (hK:S (w.setCell ⟨b,o,none⟩ v)/\K (a.put dst undef) (w.setCell ⟨b,o,none⟩ v)) :
  effq P S ⟨q,dst,.store t x y,ty,g⟩ a w K:=by
 intro p af g
 have hc0:∀j,j<[v].length->(w.cell? ⟨b,o+0+j,none⟩).isSome=true:=by
  intro j hj
  obtain rfl:j=0:=by simpa using hj
  exact hc
 have hf0:∀j,j<[v].length->w.frozen? ⟨b,o+0+j,none⟩=false:=by
  intro j hj
  obtain rfl:j=0:=by simpa using hj
  exact hf
 have hr:=run_storeCells_cells (P:=P) b o [v] 0 w hc0 hf0 (fun u hu=>by obtain rfl:=List.mem_singleton.1 hu;exact h1)
 have hi':∃i,P.info? t=some i/\i.size=1:=by
  obtain ⟨i,h1,h2⟩:=Option.map_eq_some_iff.1 hi
  exact ⟨i,h1,h2⟩
 obtain ⟨i,hi1,hi2⟩:=hi'
 unfold Oper.wp execOp
 have hst:(storeVar t ⟨b,o,none⟩ v).run P w=.ok () (w.setCell ⟨b,o,none⟩ v):=by
  simp[storeVar,sizeOf,typeInfo,hi1,hi2,aTk h1,hr,World.setCells]
 simp only[hx,hy,Instr.storeAt,Instr.sureAddr,Sem.run_bind,Sem.run_pure,Result.andThen_ok,hst]
 exact hK
theorem aEu {dst:Option Tmp}{t e ty:TypeId}{x:Operand}{q:Bool}{g:Option (Tmp×Bool)}{bytes:Nat}{v:Value}(E:Elem P t e 1 bytes)
  (hx:a.eval x=v) (h1:v.oneCell'=true)
  (hK:S (w.alloc (.cells #[v] e))/\K (a.put dst (.slice (some ⟨w.heap.size,0,none⟩) 1 1)) (w.alloc (.cells #[v] e))) :
  effq P S ⟨q,dst,.buildSlice t 1 #[(0,x)],ty,g⟩ a w K:=by
 intro p af g
 obtain ⟨i,z,hi,hz,hsz,hby,hzs⟩:=E.row
 unfold Oper.wp execOp
 have hv:=aTk h1
 have hr:(Instr.buildSlice t 1 #[(0,v)]).run P w=.ok (.slice (some ⟨w.heap.size,0,none⟩) 1 1) (w.alloc (.cells #[v] e)):=by
  simp[Instr.buildSlice,run_underlying E.und,sizeOf,typeInfo,hi,hsz,zeroValue,hz,Instr.fill,hv,hzs,newRow,show Array.range 1=#[0] from rfl]
 simp only[List.map_toArray,List.map_cons,List.map_nil,hx,hr,Sem.run_bind,Sem.run_pure,Result.andThen_ok]
 exact hK
end
structure OR where
 e:TypeId
 sz:Nat
 v:Value
 n:Nat
 xs:List Value
structure Owns (w:World) (base:Nat) (l:List OR):Prop where
 own:∀r∈l,w.ownsRow base r.e r.sz r.v r.n r.xs
 nd:(l.filterMap fun r=>r.v.ownBlock).Nodup
section
variable {w w':World} {base:Nat} {l l1 l2:List OR} {r r':OR}
end
theorem len_flat {α:Type}{f:α->List Value}{k:Nat}(hf:∀a,(f a).length=k):∀l:List α,(l.flatMap f).length=l.length*k
 | []=>by simp
 | a::l=>by rw[List.flatMap_cons,List.length_append,hf,len_flat hf l,List.length_cons,Nat.succ_mul];omega
inductive PT
 | leaf
 | q (i:Nat) (t:PT)
 | b (i:Nat) (t:PT)
 | one (i:Nat) (t:PT)
 | two (i:Nat) (t:PT) (j:Nat) (u:PT)
 | three (i:Nat) (t:PT) (j:Nat) (u:PT) (k:Nat) (v:PT)
def PT.dep:PT->Nat
 | .leaf=>0
 | .q _ t=>t.dep+1
 | .b _ t=>t.dep+1
 | .one _ t=>t.dep+1
 | .two _ t _ u=>max t.dep u.dep+1
 | .three _ t _ u _ v=>max t.dep (max u.dep v.dep)+1
def among (m:Nat)(l:List Nat):List (Nat×Nat)->Nat->Bool
 | [],_=>true
 | x::r,j=>(l.any (Nat.beq j) || m.testBit j || !inM x.1 m) && among m l r (j+1)
def upB (D:List (Nat×Nat))(m i:Nat):Bool:=
 match D[i]? with
 | none=>false
 | some x=>!m.testBit i && inM x.1 m
def okB (ops:Array Oper)(i:Nat):Bool:=
 (ops[i]?).isSome && (match (ops[i]?).bind (·.guard) with | some (j,_)=>((ops[j]?).bind (·.dst)).isSome | none=>true)
def okN (ops:Array Oper)(i:Nat):Bool:=
 match ops[i]? with
 | some o=>o.guard.isNone
 | none=>false
def planT (ops:Array Oper)(D:List (Nat×Nat)):PT->Nat->Bool
 | .leaf,m=>inM (2 ^ D.length-1) m
 | .q i t,m=>(match D[i]? with | none=>false | some x=>!m.testBit i && inM x.1 m && inM x.2 m) && okB ops i && planT ops D t (Nat.lor m (2 ^ i))
 | .b i t,m=>(match D[i]? with | none=>false | some x=>!m.testBit i && inM x.1 m && inM x.2 m) && okN ops i && planT ops D t (Nat.lor m (2 ^ i))
 | .one i t,m=>upB D m i && among m [i] D 0 && okB ops i && planT ops D t (Nat.lor m (2 ^ i))
 | .two i t j u,m=>upB D m i && among m [i,j] D 0 && okB ops i && okB ops j && planT ops D t (Nat.lor m (2 ^ i)) && planT ops D u (Nat.lor m (2 ^ j))
 | .three i t j u k v,m=>upB D m i && among m [i,j,k] D 0 && okB ops i && okB ops j && okB ops k && planT ops D t (Nat.lor m (2 ^ i)) && planT ops D u (Nat.lor m (2 ^ j)) && planT ops D v (Nat.lor m (2 ^ k))
structure Rel (ops:Array Oper) (listed:Array Bool) (m:Nat):Prop where
 size:listed.size=ops.size
 bits:∀j,j<ops.size->listed[j]? = some (m.testBit j)
 out:∀j,ops.size<=j->m.testBit j=false
section
variable {ops:Array Oper} {listed:Array Bool} {m:Nat}
theorem Rel.set (h:Rel ops listed m){i:Nat}(hi:i<ops.size):Rel ops (listed.setIfInBounds i true) (Nat.lor m (2 ^ i)):=by
 refine ⟨by simp[h.size],fun j hj=>?_,fun j hj=>?_⟩
 ·rw[show Nat.lor m (2 ^ i)=m ||| 2 ^ i from rfl,Array.getElem?_setIfInBounds]
  by_cases hij:i=j
  ·subst hij;simp[h.size,hi,Nat.testBit_or]
  rw[if_neg hij,h.bits j hj,Nat.testBit_or,Nat.testBit_two_pow];simp[hij]
 rw[show Nat.lor m (2 ^ i)=m ||| 2 ^ i from rfl,Nat.testBit_or,Nat.testBit_two_pow,h.out j hj];simp;omega
theorem aIi (_h:Rel ops listed m)(oj:Oper):inM (obits ops oj).dep m=true↔∀e∈oj.after,Region.binds .any e=true->m.testBit e.on=true:=by
 constructor
 ·intro hh e he hbd
  refine aJg hh ?_
  simp only[obits,aAu,decide_eq_true_eq,List.mem_filterMap]
  exact ⟨e,by simpa using he,by simp[hbd]⟩
 intro hh
 refine bHl fun t ht=>?_
 simp only[obits,aAu,decide_eq_true_eq,List.mem_filterMap] at ht
 obtain ⟨e,he,hte⟩:=ht
 split at hte
 ·rename_i hbd
  cases hte
  exact hh e (by simpa using he) hbd
 cases hte
theorem aFu (h:Rel ops listed m){j:Nat}{oj:Oper}(hj:ops[j]? = some oj):j∈Region.ready .any ops listed↔m.testBit j=false/\inM (obits ops oj).dep m=true:=by
 have hjlt:j<ops.size:=(Array.getElem?_eq_some_iff.1 hj).1
 rw[mem_ready]
 constructor
 ·rintro ⟨g1,oj',hj',g2⟩
  rw[hj] at hj';cases hj'
  refine ⟨by simpa[h.bits j hjlt] using g1,(aIi h oj).2 fun e he hbd=>?_⟩
  have:=g2 e he hbd
  by_cases hlt:e.on<ops.size
  ·simpa[h.bits _ hlt] using this
  have hn:listed[e.on]? = none:=by rw[Array.getElem?_eq_none];have:=h.size;omega
  simp[hn] at this
 rintro ⟨g1,g2⟩
 refine ⟨by simp[h.bits j hjlt,g1],oj,hj,fun e he hbd=>?_⟩
 have hb:=(aIi h oj).1 g2 e he hbd
 by_cases hlt:e.on<ops.size
 ·simp[h.bits _ hlt,hb]
 rw[h.out _ (by omega)] at hb
 cases hb
theorem aGp {j:Nat}{oj:Oper}(hj:ops[j]? = some oj):(dataOf ops)[j]? = some ((obits ops oj).dep,clash j (obits ops oj) (ops.toList.map (obits ops)) 0):=by
 have hj':ops.toList[j]? = some oj:=by simpa using hj
 simp only[dataOf]
 rw[aEv,List.getElem?_map,hj']
 simp
theorem bCx (h:Rel ops listed m){i:Nat}{o:Oper}(hoi:ops[i]? = some o)(h3:inM (clash i (obits ops o) (ops.toList.map (obits ops)) 0) m=true):Region.free .any ops listed i=true:=by
 simp only[Region.free,hoi,List.all_eq_true,List.mem_range,Bool.or_eq_true,beq_iff_eq]
 intro j hj
 by_cases hji:j=i
 ·exact .inl (.inl hji)
 cases hm:m.testBit j with
 | true=>exact .inl (.inr (by simp[h.bits j hj,hm]))
 | false=>
  right
  obtain ⟨oj,hoj⟩:∃oj,ops[j]? = some oj:=⟨ops[j],Array.getElem?_eq_getElem hj⟩
  simp only[hoj,Bool.or_eq_true]
  have hcl:(clash i (obits ops o) (ops.toList.map (obits ops)) 0).testBit (0+j)=false:=by
   rw[Nat.zero_add]
   cases hc:(clash i (obits ops o) (ops.toList.map (obits ops)) 0).testBit j with
   | false=>rfl
   | true=>
    have:=aJg h3 hc
    simp[hm] at this
  have hjl:(ops.toList.map (obits ops))[j]? = some (obits ops oj):=by
   rw[List.getElem?_map];have:ops.toList[j]? = some oj:=by simpa using hoj
   rw[this];rfl
  rcases aLq _ 0 j _ hjl hcl with g | g | g
  ·exact absurd (by omega) hji
  ·left
   simp only[obits,aAu,decide_eq_true_eq,List.mem_filterMap] at g
   obtain ⟨e,he,hte⟩:=g
   split at hte
   ·rename_i hbd
    rw[Array.any_eq_true']
    exact ⟨e,by simpa using he,by simp at hte;simp[hbd,hte]⟩
   cases hte
  right
  obtain ⟨g1,g2⟩:=g
  have nb:∀(a b:Nat),a &&& b=0->∀t,a.testBit t=true->b.testBit t=true->False:=by
   intro a b hab t ha hb
   have:=congrArg (·.testBit t) hab
   simp[Nat.testBit_and,ha,hb] at this
  simp only[Oper.apart,Bool.and_eq_true]
  constructor
  ·cases hd:o.dst with
   | none=>rfl
   | some d=>
    simp only[Bool.and_eq_true,Bool.not_eq_true',bne_iff_ne]
    have hbd:(obits ops o).dst.testBit d=true:=by simp[obits,hd]
    constructor
    ·cases hc:(oj.looksAt ops).contains d with
     | false=>rfl
     | true=>
      exfalso
      refine nb _ _ g1 d ?_ hbd
      rw[show Nat.lor _ _=_ ||| _ from rfl,Nat.testBit_or]
      have:(obits ops oj).look.testBit d=true:=by
       simp only[obits,aAu,decide_eq_true_eq];simpa using hc
      simp[this]
    intro hdd
    refine nb _ _ g1 d ?_ hbd
    rw[show Nat.lor _ _=_ ||| _ from rfl,Nat.testBit_or]
    have:(obits ops oj).dst.testBit d=true:=by simp[obits,hdd]
    simp[this]
  cases hd:oj.dst with
  | none=>rfl
  | some d=>
   simp only[Bool.not_eq_true']
   cases hc:(o.looksAt ops).contains d with
   | false=>rfl
   | true=>
    exfalso
    refine nb _ _ g2 d ?_ ?_
    ·simp only[obits,aAu,decide_eq_true_eq];simpa using hc
    simp[obits,hd]
theorem aOg {l:List Nat}:∀(r:List (Nat×Nat)) (k j:Nat) (x:Nat×Nat),among m l r k=true->r[j]? = some x->k+j∈l\/m.testBit (k+j)=true\/inM x.1 m=false
 | [],k,j,x,_,h=>by simp at h
 | z::r,k,0,x,h,hx=>by
  obtain rfl:z=x:=by simpa using hx
  simp only[among,Bool.and_eq_true,Bool.or_eq_true] at h
  rcases h.1 with (h1 | h1) | h1
  ·obtain ⟨y,hy,he⟩:=List.any_eq_true.1 h1
   have:=Nat.eq_of_beq_eq_true he
   subst this
   exact .inl (by simpa using hy)
  ·exact .inr (.inl (by simpa using h1))
  exact .inr (.inr (by simpa using h1))
 | z::r,k,j+1,x,h,hx=>by
  simp only[among,Bool.and_eq_true] at h
  have:=aOg r (k+1) j x h.2 (by simpa using hx)
  rw[show k+1+j=k+(j+1) from by omega] at this
  exact this
theorem aHr (h:Rel ops listed m){l:List Nat}(ha:among m l (dataOf ops) 0=true){j:Nat}(hj:j∈Region.ready .any ops listed):j∈l:=by
 obtain ⟨_,oj,hoj,_⟩:=mem_ready.1 hj
 obtain ⟨g1,g2⟩:=(aFu h hoj).1 hj
 rcases aOg _ 0 j _ ha (aGp hoj) with g | g | g
 ·simpa using g
 ·simp[g1] at g
 rw[g2] at g;cases g
theorem aLt (h:Rel ops listed m){i:Nat}(hu:upB (dataOf ops) m i=true):i∈Region.ready .any ops listed:=by
 unfold upB at hu
 split at hu
 ·cases hu
 rename_i x hx
 simp only[Bool.and_eq_true,Bool.not_eq_true'] at hu
 have hl:(dataOf ops).length=ops.size:=by
  have hh:∀(all l:List OBits) (k:Nat),(clashes all l k).length=l.length:=by
   intro all l
   induction l with
   | nil=>intro k;rfl
   | cons x l ih=>intro k;simp[clashes,ih]
  simp[dataOf,hh]
 have hi:i<ops.size:=by rw[<-hl];exact (List.getElem?_eq_some_iff.1 hx).1
 have ho:ops[i]? = some ops[i]:=Array.getElem?_eq_getElem hi
 rw[aGp ho] at hx
 cases hx
 exact (aFu h ho).2 hu
end
def bq (P:Program)(S:World->Prop)(x:QOp)(a:Act)(K:Act->World->Prop)(w:World):Prop:=∃v,QYields P S x.op x.type a v/\K (a.put x.dst v) w
def wt (P:Program)(S:World->Prop)(M:Addr->Option Value)(ops:Array Oper)(Q:Act->World->Prop):PT->Act->World->Prop
 | .leaf=>Q
 | .q i t=>fun a w=>wq P S M (wt P S M ops Q t) [cmp1 ops true i] a w
 | .b i t=>fun a w=>bq P S (cmp1 ops true i) a (wt P S M ops Q t) w
 | .one i t=>fun a w=>wq P S M (wt P S M ops Q t) [cmp1 ops false i] a w
 | .two i t j u=>fun a w=>wq P S M (wt P S M ops Q t) [cmp1 ops false i] a w/\wq P S M (wt P S M ops Q u) [cmp1 ops false j] a w
 | .three i t j u k v=>fun a w=>wq P S M (wt P S M ops Q t) [cmp1 ops false i] a w/\wq P S M (wt P S M ops Q u) [cmp1 ops false j] a w/\wq P S M (wt P S M ops Q v) [cmp1 ops false k] a w
section
variable {P:Program} {S:World->Prop} {M:Addr->Option Value} {ops:Array Oper} {Q:Act->World->Prop} {Q':Exit->Act->World->Prop}
theorem bDt {i:Nat}{q:Bool}(h:okB ops i=true):([(q,i)].all fun x=>(ops[x.2]?).isSome && (match (ops[x.2]?).bind (·.guard) with | some (j,_)=>((ops[j]?).bind (·.dst)).isSome | none=>true))=true:=by
 simpa[okB] using h
theorem aJk (hM:∀p v,M p=some v->∀w,S w->w.cell? p=some v){C K:Act->World->Prop}{i:Nat}{a:Act}{w:World}(ho:okB ops i=true)(hS:S w)
  (h:wq P S M C [cmp1 ops false i] a w) (hK:∀a' w',S w'->C a' w'->K a' w') :
  wpOp P ops Q' i (fun a' w'=>S w'/\K a' w') a w:=by
 have h1:=aBq (ops:=ops) (Q:=C) hM [(false,i)] a w (bDt ho) h
 simp only[wl] at h1
 cases hoi:ops[i]? with
 | none=>simp only[hoi] at h1
 | some o=>
  simp only[hoi] at h1
  unfold wpOp
  simp only[hoi]
  by_cases hw:Region.wanted o (yielded ops a.tmps)=true
  ·rw[if_pos hw] at h1 ⊢
   simp only[Bool.false_eq_true,if_false] at h1
   exact .inl (aEq (fun a' w' hh=>⟨hh.1,hK _ _ hh.1 hh.2⟩) (fun _ _ _ hh=>hh.elim) h1)
  rw[if_neg hw] at h1 ⊢
  exact ⟨hS,hK _ _ hS h1⟩
theorem bGo (hs:Region.noSelect ops=true)(hM:∀p v,M p=some v->∀w,S w->w.cell? p=some v)(hQ:∀a w,Q a w->Q' .normal a w)(hP:∀c a w,¬Q' (.panic c) a w) :
  ∀(t:PT) (m:Nat) (listed:Array Bool) (fuel:Nat) (a:Act) (w:World),Rel ops listed m->planT ops (dataOf ops) t m=true->t.dep<=fuel->S w->
   wt P S M ops Q t a w->wpAnyH P .any ops Q' S fuel listed a w:=by
 intro t
 have lt:∀{i:Nat},okB ops i=true->i<ops.size:=fun {i} h=>by
  simp only[okB,Bool.and_eq_true] at h
  obtain ⟨o,ho⟩:=Option.isSome_iff_exists.1 h.1
  exact (Array.getElem?_eq_some_iff.1 ho).1
 induction t with
 | leaf=>
  intro m listed fuel a w hr hp hf hS h
  simp only[planT] at hp
  refine wpAnyH_done ?_ (hQ _ _ h) fuel
  apply List.eq_nil_iff_forall_not_mem.2
  intro j hj
  obtain ⟨_,oj,hoj,_⟩:=mem_ready.1 hj
  have hjlt:j<ops.size:=(Array.getElem?_eq_some_iff.1 hoj).1
  have hl:(dataOf ops).length=ops.size:=by
   have hh:∀(all l:List OBits) (k:Nat),(clashes all l k).length=l.length:=by
    intro all l
    induction l with
    | nil=>intro k;rfl
    | cons x l ih=>intro k;simp[clashes,ih]
   simp[dataOf,hh]
  rw[hl] at hp
  have hb:=aJg hp (t:=j) (by rw[Nat.testBit_two_pow_sub_one];simpa using hjlt)
  have:=((aFu hr hoj).1 hj).1
  rw[hb] at this;cases this
 | q i t ih=>
  intro m listed fuel a w hr hp hf hS h
  obtain ⟨fuel,rfl⟩:∃k,fuel=k+1:=⟨fuel-1,by simp only[PT.dep] at hf;omega⟩
  simp only[PT.dep,Nat.add_le_add_iff_right] at hf
  simp only[planT,Bool.and_eq_true] at hp
  obtain ⟨⟨h1,h2⟩,h3⟩:=hp
  have hi:=lt h2
  have hoi:ops[i]? = some ops[i]:=Array.getElem?_eq_getElem hi
  rw[aGp hoi] at h1
  simp only[Bool.and_eq_true,Bool.not_eq_true'] at h1
  obtain ⟨⟨g1,g2⟩,g3⟩:=h1
  have hw1:=aBq (ops:=ops) (Q:=wt P S M ops Q t) hM [(true,i)] a w (bDt h2) h
  simp only[wl,hoi] at hw1
  have hrd:=(aFu hr hoi).2 ⟨g1,g2⟩
  have hfr:=bCx hr hoi g3
  by_cases hw:Region.wanted ops[i] (yielded ops a.tmps)=true
  ·rw[if_pos hw,if_pos trivial] at hw1
   obtain ⟨v,hv,hk⟩:=hw1
   exact wpAnyH_take hoi hs hfr (by simpa using hrd) (fun c a w hh=>absurd hh (hP _ _ _)) (.inl ⟨hw,fun w hw'=>hv w _ _ _ _ hw'⟩) hS (ih _ _ fuel _ w (hr.set hi) h3 hf hS hk)
  rw[if_neg hw] at hw1
  exact wpAnyH_take hoi hs hfr (by simpa using hrd) (fun c a w hh=>absurd hh (hP _ _ _)) (.inr ⟨by simpa using hw,rfl⟩) hS (ih _ _ fuel _ w (hr.set hi) h3 hf hS hw1)
 | b i t ih=>
  intro m listed fuel a w hr hp hf hS h
  obtain ⟨fuel,rfl⟩:∃k,fuel=k+1:=⟨fuel-1,by simp only[PT.dep] at hf;omega⟩
  simp only[PT.dep,Nat.add_le_add_iff_right] at hf
  simp only[planT,Bool.and_eq_true] at hp
  obtain ⟨⟨h1,h2⟩,h3⟩:=hp
  unfold okN at h2
  split at h2
  ·rename_i o hoi
   rw[aGp hoi] at h1
   simp only[Bool.and_eq_true,Bool.not_eq_true'] at h1
   obtain ⟨⟨g1,g2⟩,g3⟩:=h1
   have hi:i<ops.size:=(Array.getElem?_eq_some_iff.1 hoi).1
   have hrd:=(aFu hr hoi).2 ⟨g1,g2⟩
   have hfr:=bCx hr hoi g3
   have hg:o.guard=none:=by simpa using h2
   have ho':ops.toList[i]? = some o:=by simpa using hoi
   simp only[wt,bq,cmp1,ho'] at h
   obtain ⟨v,hv,hk⟩:=h
   exact wpAnyH_take hoi hs hfr (by simpa using hrd) (fun c a w hh=>absurd hh (hP _ _ _)) (.inl ⟨by simp[Region.wanted,hg],fun w hw'=>hv w _ _ _ _ hw'⟩) hS (ih _ _ fuel _ w (hr.set hi) h3 hf hS hk)
  cases h2
 | one i t ih=>
  intro m listed fuel a w hr hp hf hS h
  obtain ⟨fuel,rfl⟩:∃k,fuel=k+1:=⟨fuel-1,by simp only[PT.dep] at hf;omega⟩
  simp only[PT.dep,Nat.add_le_add_iff_right] at hf
  simp only[planT,Bool.and_eq_true] at hp
  obtain ⟨⟨⟨h1,h2⟩,h3⟩,h4⟩:=hp
  refine wpAnyH_all rfl (fun e=>by have:=aLt hr h1;rw[e] at this;cases this) fun j hj=>?_
  have hjl:=aHr hr h2 hj
  obtain rfl:j=i:=by simpa using hjl
  exact aJk hM h3 hS h fun a' w' hS' hC=>ih _ _ fuel _ w' (hr.set (lt h3)) h4 hf hS' hC
 | two i t j u ih1 ih2=>
  intro m listed fuel a w hr hp hf hS h
  obtain ⟨fuel,rfl⟩:∃k,fuel=k+1:=⟨fuel-1,by simp only[PT.dep] at hf;omega⟩
  simp only[PT.dep,Nat.add_le_add_iff_right] at hf
  simp only[planT,Bool.and_eq_true] at hp
  obtain ⟨⟨⟨⟨⟨h1,h2⟩,h3⟩,h4⟩,h5⟩,h6⟩:=hp
  refine wpAnyH_all rfl (fun e=>by have:=aLt hr h1;rw[e] at this;cases this) fun x hx=>?_
  have hxl:=aHr hr h2 hx
  rcases (by simpa using hxl:x=i\/x=j) with rfl | rfl
  ·exact aJk hM h3 hS h.1 fun a' w' hS' hC=>ih1 _ _ fuel _ w' (hr.set (lt h3)) h5 (by omega) hS' hC
  exact aJk hM h4 hS h.2 fun a' w' hS' hC=>ih2 _ _ fuel _ w' (hr.set (lt h4)) h6 (by omega) hS' hC
 | three i t j u k v ih1 ih2 ih3=>
  intro m listed fuel a w hr hp hf hS h
  obtain ⟨fuel,rfl⟩:∃k,fuel=k+1:=⟨fuel-1,by simp only[PT.dep] at hf;omega⟩
  simp only[PT.dep,Nat.add_le_add_iff_right] at hf
  simp only[planT,Bool.and_eq_true] at hp
  obtain ⟨⟨⟨⟨⟨⟨⟨h1,h2⟩,h3⟩,h4⟩,h5⟩,h6⟩,h7⟩,h8⟩:=hp
  refine wpAnyH_all rfl (fun e=>by have:=aLt hr h1;rw[e] at this;cases this) fun x hx=>?_
  have hxl:=aHr hr h2 hx
  rcases (by simpa using hxl:x=i\/x=j\/x=k) with rfl | rfl | rfl
  ·exact aJk hM h3 hS h.1 fun a' w' hS' hC=>ih1 _ _ fuel _ w' (hr.set (lt h3)) h6 (by omega) hS' hC
  ·exact aJk hM h4 hS h.2.1 fun a' w' hS' hC=>ih2 _ _ fuel _ w' (hr.set (lt h4)) h7 (by omega) hS' hC
  exact aJk hM h5 hS h.2.2 fun a' w' hS' hC=>ih3 _ _ fuel _ w' (hr.set (lt h5)) h8 (by omega) hS' hC
end
def planChkT (ops:Array Oper)(t:PT):Bool:=Region.noSelect ops && Nat.ble t.dep ops.size && planT ops (dataOf ops) t 0
theorem aAs {P:Program}{ops:Array Oper}{id:Nat} {Q':Exit->Act->World->Prop}{a:Act}{w:World}(S:World->Prop)(t:PT)(hm:P.follows .mixedOrders=true)
  (hc:planChkT ops t=true)
  (hS:S w.drew)
  (h:∀(T:World->Prop) (M:Addr->Option Value) (Q:Act->World->Prop),(∀w,S w->T w)->(∀w,T w->S w)->(∀p v,(∀w,S w->w.cell? p=some v)->M p=some v)->(∀a w,Q' .normal a w->Q a w)->wt P T M ops Q t a w.drew) :
  (Code.region id ops true).wp P Q' a w:=by
 simp only[planChkT,Bool.and_eq_true,Nat.ble_eq] at hc
 obtain ⟨⟨c1,c2⟩,c3⟩:=hc
 have hM:∀p v,(Classical.epsilon fun o:Option Value=>∀v,o=some v↔∀w,S w->w.cell? p=some v)=some v↔∀w,S w->w.cell? p=some v:=by
  intro p
  have hex:∃o:Option Value,∀v,o=some v↔∀w,S w->w.cell? p=some v:=by
   by_cases hx:∃v,∀w,S w->w.cell? p=some v
   ·obtain ⟨v,hv⟩:=hx
    refine ⟨some v,fun u=>⟨fun e=>(by cases e;exact hv),fun hu=>?_⟩⟩
    have h1:=hv _ hS
    rw[hu _ hS] at h1
    exact h1.symm
   exact ⟨none,fun u=>⟨fun e=>(by cases e),fun hu=>absurd ⟨u,hu⟩ hx⟩⟩
  exact Classical.epsilon_spec hex
 refine wp_region_noPanic (wp_region_held (S:=S) hm ?_)
 exact bGo (M:=fun p=>Classical.epsilon fun o:Option Value=>∀v,o=some v↔∀w,S w->w.cell? p=some v) c1
  (fun p v h=>(hM p v).1 h) (fun _ _ h=>NoPanic.normal h) (fun c a w h=>h) t 0 _ _ _ _ ⟨by simp,fun j hj=>by simp[hj],fun j _=>by simp⟩ c3 c2 hS
  (h S _ _ (fun _ h=>h) (fun _ h=>h) (fun p v h=>(hM p v).2 h) (fun _ _ h=>h))
theorem bDd {P:Program}{S:World->Prop}{a:Act}{w:World}{K:Act->World->Prop}{x:QOp}{v:Value}
  (hv:∀(p:String) (af:Array Edge) (g:Option (Nat×Bool)),(execOp a.eval ⟨x.dst,x.op,x.type,p,af,g⟩).run P w=.ok (.value v) w) (hK:S w/\K (a.put x.dst v) w) :
  effq P S x a w K:=by
 intro p af g
 unfold Oper.wp
 rw[hv]
 exact hK
theorem aTy {P:Program}{S:World->Prop}{a:Act} {w w':World}{K:Act->World->Prop}{x:QOp}{v:Value}
  (hv:∀(p:String) (af:Array Edge) (g:Option (Nat×Bool)),(execOp a.eval ⟨x.dst,x.op,x.type,p,af,g⟩).run P w=.ok (.value v) w') (hK:S w'/\K (a.put x.dst v) w') :
  effq P S x a w K:=by
 intro p af g
 unfold Oper.wp
 rw[hv]
 exact hK
section
variable {P:Program} {S:World->Prop} {M:Addr->Option Value} {ops:Array Oper} {Q:Act->World->Prop} {i j k:Nat} {t u v:PT} {a:Act} {w:World}
theorem aBy:wt P S M ops Q .leaf a w=Q a w:=rfl
theorem wt_q:wt P S M ops Q (.q i t) a w=wq P S M (wt P S M ops Q t) [cmp1 ops true i] a w:=rfl
theorem wt_b:wt P S M ops Q (.b i t) a w=bq P S (cmp1 ops true i) a (wt P S M ops Q t) w:=rfl
theorem aAj:wt P S M ops Q (.one i t) a w=wq P S M (wt P S M ops Q t) [cmp1 ops false i] a w:=rfl
theorem aAz:wt P S M ops Q (.two i t j u) a w=(wq P S M (wt P S M ops Q t) [cmp1 ops false i] a w/\wq P S M (wt P S M ops Q u) [cmp1 ops false j] a w):=rfl
theorem aCj (h:∀O,(∀q i,cmp1 O q i=cmp1 ops q i)->wt P S M O Q t a w):wt P S M ops Q t a w:=h ops fun _ _=>rfl
end
theorem aBj {P:Program}{S:World->Prop}{a:Act}{w:World}{K:Act->World->Prop}{dst:Option Tmp}{t ty:TypeId}{parts:Array (Nat×Operand)}{q:Bool}{g:Option (Tmp×Bool)}{vs:Array (Nat×Value)}{v:Value}
  (hv:(parts.toList.map fun p=>(p.1,a.eval p.2)).toArray=vs) (hr:∀w,(Instr.build t vs).run P w=.ok v w) (hK:K (a.put dst v) w):bq P S ⟨q,dst,.build t parts,ty,g⟩ a K w:=by
 refine ⟨v,fun w d p af g _=>?_,hK⟩
 have hv':(parts.map fun p=>(p.1,a.eval p.2))=vs:=by rw[<-hv];apply Array.toList_inj.1;simp
 unfold execOp
 simp only[hv',hr,Sem.run_bind,Sem.run_pure,Result.andThen_ok]
theorem aAv {P:Program}{S:World->Prop}{a:Act}{w:World}{K:Act->World->Prop}{dst:Option Tmp}{t ty:TypeId}{x y:Operand}{q:Bool}{gd:Option (Tmp×Bool)}{g:Nat}{cells old:Array Value}{e:TypeId}
  (hx:a.eval x=.pointer (some ⟨g,0,none⟩)) (hy:a.eval y=.agg cells) (hg:w.heap[g]? = some (.cells old e (0,0))) (hi:(P.info? t).map (·.size)=some cells.size)
  (hold:old.size=cells.size) (h1:cells.all (·.oneCell')=true) (hK:S (w.setRow g cells)/\K (a.put dst undef) (w.setRow g cells)) :
  effq P S ⟨q,dst,.store t x y,ty,gd⟩ a w K:=fun _p _af _g'=>wp_store_row t x y rfl g cells hx hy e old hg hi hold h1 hK
section
variable {α:Type}
def lall2 (eq:α->α->Bool):List α->List α->Bool
 | [],[]=>true
 | x::xs,y::ys=>eq x y && lall2 eq xs ys
 | _,_=>false
variable {eq:α->α->Bool}
def EqTo (eq:α->α->Bool)(xs ys:List α)(k:Nat):Prop:=∀j x y,j<k->xs[j]? = some x->ys[j]? = some y->eq x y=true
end
theorem FV.eq_iff {x y:FV}:x=y↔x.path=y.path/\x.exec=y.exec/\x.text=y.text:=by
 cases x;cases y;simp
theorem bCq (x y:FV)(w:World):(Op.equalIn 10000 48 (.agg #[.string x.path,.bool x.exec,.string x.text]) (.agg #[.string y.path,.bool y.exec,.string y.text])).run Tryz.prog w=.ok (decide (x=y)) w:=by
 by_cases h_path:x.path=y.path
 case neg=>rw[decide_eq_false (fun e=>h_path (by rw[e]))];have hn2:¬x.path.toList=y.path.toList:=beq_eq_false_iff_ne.1 (aCc h_path);go_simp<;>simp_all
 by_cases h_exec:x.exec=y.exec
 case neg=>rw[decide_eq_false (fun e=>h_exec (by rw[e]))];go_simp<;>simp_all
 by_cases h_text:x.text=y.text
 case neg=>rw[decide_eq_false (fun e=>h_text (by rw[e]))];have hn2:¬x.text.toList=y.text.toList:=beq_eq_false_iff_ne.1 (aCc h_text);go_simp<;>simp_all
 rw[decide_eq_true (FV.eq_iff.2 ⟨h_path,h_exec,h_text⟩)];go_simp<;>simp_all
def PlaceF (q:FV->Bool)(l:List FV)(w:World)(e:Ending) (w':World):Prop:=
 ∃k:Int,e=.returned (.int .i64 k)/\((k=-1/\∀f∈l,q f=false)\/∃(j:Nat) (f:FV),k=j/\FirstAt q l j f)/\Below w.heap.size w w'
def isP (p:ByteArray)(f:FV):Bool:=decide (f.path=p)
def aboveP (p:ByteArray)(f:FV):Bool:=decide (p.data.toList<f.p)
theorem aAk {B g:Nat}{w w1:World}{cs:Array Value}(h:Below B w w1)(hg:B<=g):Below B w (w1.setRow g cs):=
 ⟨h.os,h.tape,h.output,by have:=h.size;simpa[World.setRow] using this,fun k hk=>by rw[setRow_other _ _ _ _ (fun e=>by omega)];exact h.block k hk⟩
theorem bJt {f:FV}{g:Nat}{p:ByteArray}{w:World}(hg:w.cell? ⟨g,0,none⟩=some (.string p))(hgl:g<w.heap.size) :
  Calls Tryz.prog 213 #[.agg #[.string f.path,.bool f.exec,.string f.text],.pointer (some ⟨g,0,none⟩)] w (BoolBelow (isP p f) w):=by
 have hbd:Below w.heap.size w (w.alloc (.cells #[.string f.path,.bool f.exec,.string f.text] 48)):=(Below.refl _ _).alloc (Nat.le_refl _) _
 have h1:(w.alloc (.cells #[.string f.path,.bool f.exec,.string f.text] 48)).cell? ⟨g,0,none⟩=some (.string p):=(hbd.cell (p:=⟨g,0,none⟩) hgl).trans hg
 by_cases h:f.path=p
 ·have HO:=hid (show isP p f=true by simp[isP,h])
  have e1:(f.path.toList == p.toList)=true:=by rw[h];exact beq_self_eq_true _
  clear h
  go_enter Tryz.func213,Tryz.ntmps213
  go_wp2
  go_ret
  exact ⟨aAf HO.out.symm,hbd⟩
 have HO:=hid (show isP p f=false by simp[isP,h])
 have e1:=aCc h
 clear h
 go_enter Tryz.func213,Tryz.ntmps213
 go_wp2
 go_ret
 exact ⟨aAf HO.out.symm,hbd⟩
theorem bJg {A:Option Addr}{n c g:Nat}{l:List FV}{p:ByteArray}{w:World}(hn:n<=17592186044416)(h:RdF w w.heap.size A n c l)(hg:w.cell? ⟨g,0,none⟩=some (.string p))(hgl:g<w.heap.size) :
  Calls Tryz.prog 188 #[.slice A n c,.func (.func 213) #[] #[.pointer (some ⟨g,0,none⟩)]] w (PlaceF (isP p) l w):=by
 have HL:=hid h.len
 go_enter Tryz.func188,Tryz.ntmps188
 go_wp2
 go_loopw[5,8] (fun _ i wr=>∃k:Nat,k<=n/\i=.int .i64 k/\Below w.heap.size w wr/\Hid (∀j g,j<k->l[j]? = some g->(isP p) g=false)) (fun _ i _=>n-(intOf i).toNat)
 case atStart=>exact ⟨0,Nat.zero_le _,rfl,Below.refl _ _,fun j g hj=>absurd hj (Nat.not_lt_zero _)⟩
 obtain ⟨k,hk,rfl,hb,hj⟩:=hrel
 by_cases hlt:k<n
 ·obtain ⟨b0,o0,f,rfl,hbb,hx,hfm,h0,h1,h2⟩:=h.get hlt
  replace h0:=(hb.cell (p:=⟨b0,o0+k*3,none⟩) (by show b0<_;omega)).trans h0
  replace h1:=(hb.cell (p:=⟨b0,o0+k*3+1,none⟩) (by show b0<_;omega)).trans h1
  replace h2:=(hb.cell (p:=⟨b0,o0+k*3+2,none⟩) (by show b0<_;omega)).trans h2
  have HX:=hid hx
  have C:=bJt (f:=f) (w:=wr) ((hb.cell (p:=⟨g,0,none⟩) hgl).trans hg) (Nat.lt_of_lt_of_le hgl hb.size)
  clear hx
  cases hq:(isP p) f with
  | true=>
   rw[hq] at C
   have HQ:=hid (show FirstAt (isP p) l k f from ⟨HX.out,hq,hj.out⟩)
   clear hq
   go_wp2_with fail
   refine C.mono ?_
   rintro e w1 ⟨rfl,hb1⟩
   have hbd:=hb.trans (hb1.mono hb.size)
   clear C
   go_wp2
   go_ret
   exact ⟨k,rfl,.inr ⟨k,f,rfl,HQ.out⟩,hbd⟩
  | false=>
   rw[hq] at C
   have HQ:=hid (show ∀j g,j<k+1->l[j]? = some g->(isP p) g=false from fun j x hj' hx=>by
    by_cases e:j=k
    ·subst e;rw[HX.out] at hx;injection hx with hx;subst hx;exact hq
    exact hj.out j x (by omega) hx)
   clear hq
   go_wp2_with fail
   refine C.mono ?_
   rintro e w1 ⟨rfl,hb1⟩
   have hbd:=hb.trans (hb1.mono hb.size)
   clear C
   go_wp2
   go_roundw
   case rel=>exact ⟨k+1,by omega,by go_num,hbd,HQ.out⟩
   simp[intOf];omega
 have hkn:k=n:=by omega
 subst hkn
 have HO:=hid (show ∀f∈l,(isP p) f=false from fun f hf=>by
  obtain ⟨i,hi,rfl⟩:=List.getElem_of_mem hf
  exact hj.out i _ (by have:=HL.out;omega) (List.getElem?_eq_getElem hi))
 go_wp2
 go_ret
 exact ⟨-1,rfl,.inl ⟨rfl,HO.out⟩,hb⟩
theorem bAm {A:Option Addr}{n c:Nat}{l:List FV}{p:ByteArray}{w:World}(hn:n<=17592186044416)(h:RdF w w.heap.size A n c l) :
  Calls Tryz.prog 176 #[.slice A n c,.string p] w (PlaceF (isP p) l w):=by
 have hb:Below w.heap.size w (w.alloc (.cells #[.string p] 9)):=(Below.refl _ _).alloc (Nat.le_refl _) _
 have hg:(w.alloc (.cells #[.string p] 9)).cell? ⟨w.heap.size,0,none⟩=some (.string p):=(cell_of_row _ _ _ _ _ _ (heap_alloc_new _ _)).trans rfl
 have C:=bJg hn (h.to hb hb.size) hg (by simp)
 go_enter Tryz.func176,Tryz.ntmps176
 go_wp2_with fail
 refine C.mono ?_
 rintro e w1 ⟨k,rfl,h1,hb1⟩
 have H1:=hid h1
 clear h1 C
 go_wp2
 go_ret
 exact ⟨k,rfl,H1.out,hb.trans (hb1.mono hb.size)⟩
theorem aAl {P:Program}{fn:Func}{p u:Tmp}{ty:TypeId}(h:fn.results=#[.cell p ty,.tmp u])(tmps:Array Value)(w:World)(g:Nat)(t:TypeId)(cs:Array Value)(fr:Nat×Nat)(d:TypeDesc)
  (hp:tmps.getD p undef=.pointer (some ⟨g,0,none⟩)) (hg:w.heap[g]? = some (.cells cs t fr))
  (hu:P.underlying ty=some d) (hd:(match d with | .struct _ | .array _ _=>true | _=>false)=true) (hi:(P.info? ty).map (·.size)=some cs.size) :
  (results fn tmps).run P w=.ok (.tuple #[.agg cs,tmps.getD u undef]) w:=by
 rw[results_cell_tmp h,hp]
 simp[asAddr,run_loadVar_row w g t ty cs fr d hg hu hd hi]
def zF:FV:=⟨⟨#[]⟩,false,⟨#[]⟩⟩
def optF (o:Option FV):FV:=o.getD zF
def FoundIs (o:Option FV)(w:World)(e:Ending) (w':World):Prop:=e=.returned (.tuple #[.agg #[.string (optF o).path,.bool (optF o).exec,.string (optF o).text],.bool o.isSome])/\Below w.heap.size w w'
theorem aIr (w:World):(Instr.build 48 #[]).run Tryz.prog w=.ok (.agg #[.string ⟨#[]⟩,.bool false,.string ⟨#[]⟩]) w:=by
 go_simp
theorem aIp {A:Option Addr}{n c:Nat}{l:List FV}{p:ByteArray}{w:World}(hn:n<=17592186044416)(h:RdF w w.heap.size A n c l) :
  Calls Tryz.prog 154 #[.slice A n c,.string p] w (FoundIs (findP l p) w):=by
 have hb:∀o,Below w.heap.size w (w.alloc o):=fun o=>(Below.refl _ _).alloc (Nat.le_refl _) _
 have C:∀o,Calls Tryz.prog 176 #[.slice A n c,.string p] (w.alloc o) (PlaceF (isP p) l (w.alloc o)):=fun o=>bAm hn (h.to (hb o) (hb o).size)
 go_enter Tryz.func154,Tryz.ntmps154
 go_wp2_with fail
 refine (C _).mono ?_
 rintro e w1 ⟨k,rfl,h1,hb1⟩
 have hbd:=(hb _).trans (hb1.mono (hb _).size)
 have hbox:w1.heap[w.heap.size]? = some (.cells #[.string ⟨#[]⟩,.bool false,.string ⟨#[]⟩] 48 (0,0)):=(hb1.block _ (by simp)).trans (heap_alloc_new _ _)
 have HR:=hid (show ∀cs,(w1.setRow w.heap.size cs).heap[w.heap.size]? = some (.cells cs 48 (0,0)) from fun cs=>setRow_heap _ _ _ _ _ _ hbox)
 have hz:=aIr w1
 have hi24:(Tryz.prog.info? 48).map (·.size)=some 3:=by kernel_rfl
 clear C hb1
 rcases h1 with ⟨rfl,hno⟩ | ⟨j,f,rfl,hf⟩
 ·have HO:=hid (aXv (p:=p) hno).1
  have c0:=cell_of_row _ _ 0 _ _ _ (HR.out #[.string ⟨#[]⟩,.bool false,.string ⟨#[]⟩])
  have c1:=cell_of_row _ _ 1 _ _ _ (HR.out #[.string ⟨#[]⟩,.bool false,.string ⟨#[]⟩])
  have c2:=cell_of_row _ _ 2 _ _ _ (HR.out #[.string ⟨#[]⟩,.bool false,.string ⟨#[]⟩])
  clear hno
  go_wp2_with (refine wpList_store_row rfl 48 (.tmp 4) (.tmp 12) rfl w.heap.size #[.string ⟨#[]⟩,.bool false,.string ⟨#[]⟩] rfl rfl _ _ hbox hi24 rfl (by simp[Value.oneCell']) ?_)
  try simp only[Exit.inBlock,Exit.then]
  refine bodyPost_ret (aAl rfl _ _ w.heap.size _ _ (0,0) _ rfl (HR.out _) Tryz.underlying48 rfl (by kernel_rfl)) rfl ?_
  refine ⟨?_,aAk hbd (Nat.le_refl _)⟩
  rw[HO.out];rfl
 have hj:j<n:=by have:=(List.getElem?_eq_some_iff.1 hf.1).1;rw[h.len] at this;exact this
 obtain ⟨b0,o0,f',rfl,hbb,hx,hfm,h0,h1,h2⟩:=h.get hj
 obtain rfl:f'=f:=Option.some.inj (hx.symm.trans hf.1)
 replace h0:=(hbd.cell (p:=⟨b0,o0+j*3,none⟩) (by show b0<_;omega)).trans h0
 replace h1:=(hbd.cell (p:=⟨b0,o0+j*3+1,none⟩) (by show b0<_;omega)).trans h1
 replace h2:=(hbd.cell (p:=⟨b0,o0+j*3+2,none⟩) (by show b0<_;omega)).trans h2
 have HO:=hid (show findP l p=some f' from FirstAt.find hf)
 have c0:=cell_of_row _ _ 0 _ _ _ (HR.out #[.string f'.path,.bool f'.exec,.string f'.text])
 have c1:=cell_of_row _ _ 1 _ _ _ (HR.out #[.string f'.path,.bool f'.exec,.string f'.text])
 have c2:=cell_of_row _ _ 2 _ _ _ (HR.out #[.string f'.path,.bool f'.exec,.string f'.text])
 clear hx hf hz
 go_wp2_with (refine wpList_store_row rfl 48 (.tmp 4) (.tmp 16) rfl w.heap.size #[.string f'.path,.bool f'.exec,.string f'.text] rfl rfl _ _ hbox hi24 rfl (by simp[Value.oneCell']) ?_)
 try simp only[Exit.inBlock,Exit.then]
 refine bodyPost_ret (aAl rfl _ _ w.heap.size _ _ (0,0) _ rfl (HR.out _) Tryz.underlying48 rfl (by kernel_rfl)) rfl ?_
 refine ⟨?_,aAk hbd (Nat.le_refl _)⟩
 rw[HO.out];rfl
end Go.Proofs.YtohblmepajhpaaaGreatDoor
