/- Texts of the walks, together: The engine, for a region whose last operations write what the earlier ones have read, while some quiet operations that read no memory (Z) may come anywhere. A region whose build may float behind its writes. Walk: chunk's firm. -/
import Derived.Test.YtcemkikgaeghjaaGreatDoorG05
import Derived.Test.YtcemkikgaeghjaaGreatDoorG14
set_option maxHeartbeats 8000000
set_option maxRecDepth 100000
open Go.Lib (hid)
namespace Go.Proofs.YtcemkikgaeghjaaGreatDoor
open Go.RowKit
section
variable {P:Program} {ops:Array Oper} {S:World->Prop} {F Z:List Nat}
def wpAnyZ (P:Program)(ops:Array Oper)(Q:Exit->Act->World->Prop)(S:World->Prop)(F:List Nat):Nat->Array Bool->Act->World->Prop
 | 0,listed,a,w=>Region.ready .any ops listed=[]/\Q .normal a w
 | fuel+1,listed,a,w=>
  (Region.ready .any ops listed=[]->Q .normal a w)/\
  ∀i∈Region.ready .any ops listed,wpOp P ops Q i (fun a' w'=>(i∉F->S w->S w')/\wpAnyZ P ops Q S F fuel (listed.setIfInBounds i true) a' w') a w
variable {Q:Exit->Act->World->Prop}
theorem aHd:∀(fuel:Nat)(listed:Array Bool)(a:Act)(w:World),wpAnyZ P ops Q S F fuel listed a w->wpAny P .any ops Q fuel listed a w
 | 0,_,_,_,h=>h
 | fuel+1,_,_,_,h=>⟨h.1,fun i hi=>wpOp_mono (fun a' w' h'=>aHd fuel _ a' w' h'.2) (h.2 i hi)⟩
def LateOkZ (ops:Array Oper)(F Z:List Nat):Prop:=
 ∀listed,Closed ops listed->∀j∈F,j∈Region.ready .any ops listed->∀i,i<ops.size->i∉F->i∉Z->listed.getD i true=true
theorem aKu {i:Nat}{oi:Oper}{v:Value}(hi:ops[i]? = some oi)(hsel:∀(j:Nat)(o:Oper) cs b,ops[j]? = some o->o.op≠.select cs b)
  (hQ:∀c a w,Q (.panic c) (a.put oi.dst v) w->Q (.panic c) a w) (hF:LateOkZ ops F Z) (hiF:i∉F) (hiZ:i∉Z) :
  ∀(fuel:Nat) (listed:Array Bool) (a:Act) (w:World),Closed ops listed->
   (∀j oj,ops[j]? = some oj->j≠i->listed.getD j true=false->(∀e∈oj.after,Region.binds .any e=true->e.on≠i)->oi.apart ops oj=true)->
   i∈Region.ready .any ops listed->YieldsIf P ops S oi v a->S w->
   wpAnyZ P ops Q S F fuel (listed.setIfInBounds i true) (a.put oi.dst v) w->wpAnyZ P ops Q S F (fuel+1) listed a w:=by
 intro fuel
 induction fuel with
 | zero=>
  intro listed a w _ hfree hr hy hS H
  refine ⟨fun h=>(by rw[h] at hr;cases hr),fun j hj=>?_⟩
  by_cases hji:j=i
  ·subst hji;exact hy.wpOp hi hS ⟨fun _ _=>hS,H⟩
  have:=ready_mono hj hji
  rw[H.1] at this
  cases this
 | succ fuel ih=>
  intro listed a w hcl hfree hr hy hS H
  refine ⟨fun h=>(by rw[h] at hr;cases hr),fun j hj=>?_⟩
  by_cases hji:j=i
  ·subst hji;exact hy.wpOp hi hS ⟨fun _ _=>hS,H⟩
  have hjF:j∉F:=fun hjF=>by
   have h1:=hF listed hcl j hjF hj i (Array.getElem?_eq_some_iff.1 hi).1 hiF hiZ
   rw[(mem_ready.1 hr).1] at h1
   cases h1
  have h1:=H.2 j (ready_mono hj hji)
  obtain ⟨hjun,oj,hoj,hall⟩:=mem_ready.1 hj
  have hnot:∀e∈oj.after,Region.binds .any e=true->e.on≠i:=fun e he hb heq=>by
   have h1:=hall e he hb
   have h0:=(mem_ready.1 hr).1
   rw[heq] at h1
   rcases Nat.lt_or_ge i listed.size with h' | h'
   ·simp[h'] at h0 h1;rw[h0] at h1;cases h1
   simp[Array.getElem?_eq_none h'] at h1
  have h2:=wpOp_putIf hoj (hfree j oj hoj hji hjun hnot) (fun cs b=>hsel i oi cs b hi) (fun cs b=>hsel j oj cs b hoj) hQ hy h1
  have hfree':∀k ok,ops[k]? = some ok->k≠i->(listed.setIfInBounds j true).getD k true=false->
    (∀e∈ok.after,Region.binds .any e=true->e.on≠i)->oi.apart ops ok=true:=fun k ok hk hki hun hno=>by
   refine hfree k ok hk hki ?_ hno
   by_cases hjk:j=k
   ·subst hjk;exact hjun
   rw[getD_set_ne true hjk] at hun;exact hun
  refine wpOp_mono (fun a' w' h3=>⟨h3.2.1,ih (listed.setIfInBounds j true) a' w' (hcl.set hj) hfree' (ready_mono hr (Ne.symm hji)) h3.1 (h3.2.1 hjF hS) ?_⟩) h2
  rw[Array.setIfInBounds_comm _ _ hji]
  exact h3.2.2
theorem aUo {listed:Array Bool}{a:Act}{w:World}(hr:Region.ready .any ops listed=[])(h:Q .normal a w) :
  ∀fuel,wpAnyZ P ops Q S F fuel listed a w
 | 0=>⟨hr,h⟩
 | _+1=>⟨fun _=>h,by rw[hr];simp⟩
theorem aDj {i:Nat}{oi:Oper}{v:Value}(hi:ops[i]? = some oi)(hsel:∀(j:Nat)(o:Oper) cs b,ops[j]? = some o->o.op≠.select cs b)
  (hQ:∀c a w,Q (.panic c) (a.put oi.dst v) w->Q (.panic c) a w) :
  ∀(fuel:Nat) (listed:Array Bool) (a:Act) (w:World),Closed ops listed->
   (∀j oj,ops[j]? = some oj->j≠i->listed.getD j true=false->(∀e∈oj.after,Region.binds .any e=true->e.on≠i)->oi.apart ops oj=true)->
   i∈Region.ready .any ops listed->YieldsIf P ops (fun _=>True) oi v a->
   wpAnyZ P ops Q S F fuel (listed.setIfInBounds i true) (a.put oi.dst v) w->wpAnyZ P ops Q S F (fuel+1) listed a w:=by
 intro fuel
 induction fuel with
 | zero=>
  intro listed a w _ hfree hr hy H
  refine ⟨fun h=>(by rw[h] at hr;cases hr),fun j hj=>?_⟩
  by_cases hji:j=i
  ·subst hji;exact hy.wpOp hi trivial ⟨fun _ h=>h,H⟩
  have:=ready_mono hj hji
  rw[H.1] at this
  cases this
 | succ fuel ih=>
  intro listed a w hcl hfree hr hy H
  refine ⟨fun h=>(by rw[h] at hr;cases hr),fun j hj=>?_⟩
  by_cases hji:j=i
  ·subst hji;exact hy.wpOp hi trivial ⟨fun _ h=>h,H⟩
  have h1:=H.2 j (ready_mono hj hji)
  obtain ⟨hjun,oj,hoj,hall⟩:=mem_ready.1 hj
  have hnot:∀e∈oj.after,Region.binds .any e=true->e.on≠i:=fun e he hb heq=>by
   have h1:=hall e he hb
   have h0:=(mem_ready.1 hr).1
   rw[heq] at h1
   rcases Nat.lt_or_ge i listed.size with h' | h'
   ·simp[h'] at h0 h1;rw[h0] at h1;cases h1
   simp[Array.getElem?_eq_none h'] at h1
  have h2:=wpOp_putIf hoj (hfree j oj hoj hji hjun hnot) (fun cs b=>hsel i oi cs b hi) (fun cs b=>hsel j oj cs b hoj) hQ hy h1
  have hfree':∀k ok,ops[k]? = some ok->k≠i->(listed.setIfInBounds j true).getD k true=false->
    (∀e∈ok.after,Region.binds .any e=true->e.on≠i)->oi.apart ops ok=true:=fun k ok hk hki hun hno=>by
   refine hfree k ok hk hki ?_ hno
   by_cases hjk:j=k
   ·subst hjk;exact hjun
   rw[getD_set_ne true hjk] at hun;exact hun
  refine wpOp_mono (fun a' w' h3=>⟨h3.2.1,ih (listed.setIfInBounds j true) a' w' (hcl.set hj) hfree' (ready_mono hr (Ne.symm hji)) h3.1 ?_⟩) h2
  rw[Array.setIfInBounds_comm _ _ hji]
  exact h3.2.2
theorem aEh {C:Act->World->Prop}(hs:Region.noSelect ops=true)(hP:∀c a w,¬Q (.panic c) a w)(hF:LateOkZ ops F Z) (ρ:List (Bool×Nat))
  (hC:∀(listed:Array Bool) (fuel:Nat) (a:Act) (w:World),planOk ops ρ listed=true->ρ.length<=fuel->Closed ops listed->S w->C a w->wpAnyZ P ops Q S F fuel listed a w) :
  ∀(π:List (Bool×Nat)) (listed:Array Bool) (fuel:Nat) (a:Act) (w:World),planOk ops (π++ρ) listed=true->(π++ρ).length<=fuel->(∀x∈π,x.2∉F/\x.2∉Z)->Closed ops listed->S w->
   wl P ops S C π a w->wpAnyZ P ops Q S F fuel listed a w
 | [],listed,fuel,a,w,hp,hf,_,hcl,hS,h=>hC listed fuel a w (by simpa using hp) (by simpa using hf) hcl hS h
 | (q,i)::r,listed,fuel,a,w,hp,hf,hn,hcl,hS,h=>by
  obtain ⟨fuel,rfl⟩:∃k,fuel=k+1:=⟨fuel-1,by simp at hf;omega⟩
  simp only[List.cons_append,List.length_cons,Nat.add_le_add_iff_right] at hf
  obtain ⟨hiF,hiZ⟩:=hn (q,i) (by simp)
  have hn':∀x∈r,x.2∉F/\x.2∉Z:=fun x hx=>hn x (by simp[hx])
  simp only[wl] at h
  cases ho:ops[i]? with
  | none=>simp only[ho] at h
  | some o=>
   simp only[ho] at h
   cases q with
   | true=>
    simp only[List.cons_append,planOk,Bool.and_eq_true] at hp
    obtain ⟨⟨p1,p2⟩,p3⟩:=hp
    have hri:i∈Region.ready .any ops listed:=by simpa using p2
    by_cases hw:Region.wanted o (yielded ops a.tmps)=true
    ·rw[if_pos hw,if_pos rfl] at h
     obtain ⟨v,hv,hr⟩:=h
     exact aKu ho (Region.noSelect_spec hs) (fun c a w hh=>absurd hh (hP _ _ _)) hF hiF hiZ fuel listed a w hcl (Region.free_spec ho p1) hri (.inl ⟨hw,fun w hw'=>hv w _ _ _ _ hw'⟩) hS
      (aEh hs hP hF ρ hC r _ fuel _ w p3 hf hn' (hcl.set hri) hS hr)
    rw[if_neg hw] at h
    exact aKu ho (Region.noSelect_spec hs) (fun c a w hh=>absurd hh (hP _ _ _)) hF hiF hiZ fuel listed a w hcl (Region.free_spec ho p1) hri (.inr ⟨by simpa using hw,rfl⟩) hS
     (aEh hs hP hF ρ hC r _ fuel _ w p3 hf hn' (hcl.set hri) hS h)
   | false=>
    simp only[List.cons_append,planOk,Bool.and_eq_true,beq_iff_eq] at hp
    obtain ⟨p1,p2⟩:=hp
    refine ⟨fun h0=>(by rw[p1] at h0;cases h0),fun j hj=>?_⟩
    have hri:=hj
    rw[p1] at hj
    obtain rfl:j=i:=by simpa using hj
    unfold wpOp
    simp only[ho]
    by_cases hw:Region.wanted o (yielded ops a.tmps)=true
    ·rw[if_pos hw]
     rw[if_pos hw] at h
     simp only[Bool.false_eq_true,if_false] at h
     exact .inl (aFa (fun a' w' hh=>⟨fun _ _=>hh.1,aEh hs hP hF ρ hC r _ fuel a' w' p2 hf hn' (hcl.set hri) hh.1 hh.2⟩) (fun _ _ _ hh=>hh.elim) h)
    rw[if_neg hw]
    rw[if_neg hw] at h
    exact ⟨fun _ h=>h,aEh hs hP hF ρ hC r _ fuel _ w p2 hf hn' (hcl.set hri) hS h⟩
theorem aHv {C:Act->World->Prop}(hs:Region.noSelect ops=true)(hP:∀c a w,¬Q (.panic c) a w) (ρ:List (Bool×Nat))
  (hC:∀(listed:Array Bool) (fuel:Nat) (a:Act) (w:World),planOk ops ρ listed=true->ρ.length<=fuel->Closed ops listed->S w->C a w->wpAnyZ P ops Q S F fuel listed a w) :
  ∀(π:List (Bool×Nat)) (listed:Array Bool) (fuel:Nat) (a:Act) (w:World),planOk ops (π++ρ) listed=true->(π++ρ).length<=fuel->(∀x∈π,x.1=true)->Closed ops listed->S w->
   wl P ops (fun _=>True) C π a w->wpAnyZ P ops Q S F fuel listed a w
 | [],listed,fuel,a,w,hp,hf,_,hcl,hS,h=>hC listed fuel a w (by simpa using hp) (by simpa using hf) hcl hS h
 | (q,i)::r,listed,fuel,a,w,hp,hf,hn,hcl,hS,h=>by
  obtain ⟨fuel,rfl⟩:∃k,fuel=k+1:=⟨fuel-1,by simp at hf;omega⟩
  simp only[List.cons_append,List.length_cons,Nat.add_le_add_iff_right] at hf
  have hq:=hn (q,i) (by simp)
  simp only at hq
  subst hq
  have hn':∀x∈r,x.1=true:=fun x hx=>hn x (by simp[hx])
  simp only[wl] at h
  cases ho:ops[i]? with
  | none=>simp only[ho] at h
  | some o=>
   simp only[ho] at h
   simp only[List.cons_append,planOk,Bool.and_eq_true] at hp
   obtain ⟨⟨p1,p2⟩,p3⟩:=hp
   have hri:i∈Region.ready .any ops listed:=by simpa using p2
   by_cases hw:Region.wanted o (yielded ops a.tmps)=true
   ·rw[if_pos hw] at h
    simp only[if_true] at h
    obtain ⟨v,hv,hr⟩:=h
    exact aDj ho (Region.noSelect_spec hs) (fun c a w hh=>absurd hh (hP _ _ _)) fuel listed a w hcl (Region.free_spec ho p1) hri (.inl ⟨hw,fun w hw'=>hv w _ _ _ _ hw'⟩)
     (aHv hs hP ρ hC r _ fuel _ w p3 hf hn' (hcl.set hri) hS hr)
   rw[if_neg hw] at h
   exact aDj ho (Region.noSelect_spec hs) (fun c a w hh=>absurd hh (hP _ _ _)) fuel listed a w hcl (Region.free_spec ho p1) hri (.inr ⟨by simpa using hw,rfl⟩)
    (aHv hs hP ρ hC r _ fuel _ w p3 hf hn' (hcl.set hri) hS h)
theorem aEm {Qn:Act->World->Prop}(hs:Region.noSelect ops=true)(hP:∀c a w,¬Q (.panic c) a w)(hQ:∀a w,Qn a w->Q .normal a w) :
  ∀(π:List (Bool×Nat)) (listed:Array Bool) (fuel:Nat) (a:Act) (w:World),planOk ops π listed=true->π.length<=fuel->(∀x∈π,x.2∈F)->Closed ops listed->
   wl P ops (fun _=>True) Qn π a w->wpAnyZ P ops Q S F fuel listed a w
 | [],listed,fuel,a,w,hp,_,_,_,h=>aUo (by simpa[planOk] using hp) (hQ _ _ h) fuel
 | (q,i)::r,listed,fuel,a,w,hp,hf,hl,hcl,h=>by
  obtain ⟨fuel,rfl⟩:∃k,fuel=k+1:=⟨fuel-1,by simp at hf;omega⟩
  simp only[List.length_cons,Nat.add_le_add_iff_right] at hf
  have hiF:=hl (q,i) (by simp)
  simp only at hiF
  have hl':∀x∈r,x.2∈F:=fun x hx=>hl x (by simp[hx])
  simp only[wl] at h
  cases ho:ops[i]? with
  | none=>simp only[ho] at h
  | some o=>
   simp only[ho] at h
   cases q with
   | true=>
    simp only[planOk,Bool.and_eq_true] at hp
    obtain ⟨⟨p1,p2⟩,p3⟩:=hp
    have hri:i∈Region.ready .any ops listed:=by simpa using p2
    by_cases hw:Region.wanted o (yielded ops a.tmps)=true
    ·rw[if_pos hw,if_pos rfl] at h
     obtain ⟨v,hv,hr⟩:=h
     exact aDj ho (Region.noSelect_spec hs) (fun c a w hh=>absurd hh (hP _ _ _)) fuel listed a w hcl (Region.free_spec ho p1) hri (.inl ⟨hw,fun w hw'=>hv w _ _ _ _ hw'⟩)
      (aEm hs hP hQ r _ fuel _ w p3 hf hl' (hcl.set hri) hr)
    rw[if_neg hw] at h
    exact aDj ho (Region.noSelect_spec hs) (fun c a w hh=>absurd hh (hP _ _ _)) fuel listed a w hcl (Region.free_spec ho p1) hri (.inr ⟨by simpa using hw,rfl⟩)
     (aEm hs hP hQ r _ fuel _ w p3 hf hl' (hcl.set hri) h)
   | false=>
    simp only[planOk,Bool.and_eq_true,beq_iff_eq] at hp
    obtain ⟨p1,p2⟩:=hp
    refine ⟨fun h0=>(by rw[p1] at h0;cases h0),fun j hj=>?_⟩
    have hri:=hj
    rw[p1] at hj
    obtain rfl:j=i:=by simpa using hj
    unfold wpOp
    simp only[ho]
    by_cases hw:Region.wanted o (yielded ops a.tmps)=true
    ·rw[if_pos hw]
     rw[if_pos hw] at h
     simp only[Bool.false_eq_true,if_false] at h
     exact .inl (aFa (fun a' w' hh=>⟨fun hn=>absurd hiF hn,aEm hs hP hQ r _ fuel a' w' p2 hf hl' (hcl.set hri) hh.2⟩) (fun _ _ _ hh=>hh.elim) h)
    rw[if_neg hw]
    rw[if_neg hw] at h
    exact ⟨fun hn=>absurd hiF hn,aEm hs hP hQ r _ fuel _ w p2 hf hl' (hcl.set hri) h⟩
def floatChk (ops:Array Oper)(F Z:List Nat):Bool:=
 F.all fun f=>let m:=closB ops (List.range ops.size).reverse (2 ^ f);(List.range ops.size).all fun i=>F.contains i || Z.contains i || m.testBit i
theorem aYz {F Z:List Nat}(h:floatChk ops F Z=true):LateOkZ ops F Z:=by
 intro listed hcl f hf hr i hi hiF hiZ
 have h1:=List.all_eq_true.1 h f hf
 have h2:=List.all_eq_true.1 h1 i (List.mem_range.2 hi)
 simp only[Bool.or_eq_true] at h2
 rcases h2 with (h2 | h2) | h2
 ·exact absurd (by simpa using h2) hiF
 ·exact absurd (by simpa using h2) hiZ
 rcases aJy hcl hr _ _ (fun t ht=>by rw[Nat.testBit_two_pow] at ht;left;exact (of_decide_eq_true ht).symm) i h2 with h3 | h3
 ·exact absurd (h3▸hf) hiF
 rcases Nat.lt_or_ge i listed.size with h' | h'
 ·simpa[h'] using h3
 simp[Array.getElem?_eq_none h'] at h3
def quiets (Z:List Nat):List (Bool×Nat):=Z.map fun i=>(true,i)
def planChkZ (ops:Array Oper) (π Z' σ ρ:List (Bool×Nat))(F Z:List Nat):Bool:=
 planChk ops (π++(Z'++(σ++ρ))) && floatChk ops F Z && (π.all fun x=>!F.contains x.2 && !Z.contains x.2) && (σ.all fun x=>!F.contains x.2 && !Z.contains x.2) && (ρ.all fun x=>F.contains x.2)
end
section
variable {P:Program} {ops:Array Oper} {S:World->Prop} {F Z:List Nat}
theorem aSm {id:Nat} {Q':Exit->Act->World->Prop}{a:Act}{w:World}(S:World->Prop) (π:List (Bool×Nat))(Z:List Nat) (σ ρ:List (Bool×Nat))(F:List Nat)(hm:P.follows .mixedOrders=true)
  (hc:planChkZ ops π (quiets Z) σ ρ F Z=true)
  (hS:S w.drew)
  (h:∀(T:World->Prop) (M:Addr->Option Value) (Q1 Q2 Q3 Q4:Act->World->Prop),(∀w,S w->T w)->(∀w,T w->S w)->(∀p v,(∀w,S w->w.cell? p=some v)->M p=some v)->
   (∀a w,wl P ops (fun _=>True) Q2 (quiets Z) a w->Q1 a w)->(∀a w,wq P T M Q3 (cmp ops σ) a w->Q2 a w)->(∀a w,wq P (fun _=>True) (fun _=>none) Q4 (cmp ops ρ) a w->Q3 a w)->(∀a w,Q' .normal a w->Q4 a w)->wq P T M Q1 (cmp ops π) a w.drew) :
  (Code.region id ops true).wp P Q' a w:=by
 simp only[planChkZ,Bool.and_eq_true] at hc
 obtain ⟨⟨⟨⟨hc,hl⟩,hπ⟩,hσ⟩,hρ⟩:=hc
 simp only[planChk,Bool.and_eq_true,Nat.ble_eq] at hc
 obtain ⟨⟨⟨c1,c2⟩,c3⟩,c4⟩:=hc
 have c5:planOk ops (π++(quiets Z++(σ++ρ))) (Array.replicate ops.size false)=true:=aCr _ 0 _ (by simp) (fun j hj=>by simp[hj]) (fun j _=>by simp) c3
 have hcl:Closed ops (Array.replicate ops.size false):=by
  intro j oj hj hlj
  have:=(Array.getElem?_eq_some_iff.1 hj).1
  simp[this] at hlj
 simp only[List.all_append,Bool.and_eq_true] at c4
 have hM:∀p v,(Classical.epsilon fun o:Option Value=>∀v,o=some v↔∀w,S w->w.cell? p=some v)=some v↔∀w,S w->w.cell? p=some v:=by
  intro p
  have hex:∃o:Option Value,∀v,o=some v↔∀w,S w->w.cell? p=some v:=by
   by_cases hx:∃v,∀w,S w->w.cell? p=some v
   ·obtain ⟨v,hv⟩:=hx
    refine ⟨some v,fun u=>⟨fun e=>(by cases e;exact hv),fun hu=>?_⟩⟩
    have h1:=hv _ hS
    rw[hu _ hS] at h1
    exact h1.symm
   exact ⟨none,fun u=>⟨fun e=>(by cases e),fun hu=>absurd ⟨u,hu⟩ hx⟩⟩
  exact Classical.epsilon_spec hex
 have hOk:=aYz hl
 have nin:∀{l:List (Bool×Nat)},(l.all fun x=>!F.contains x.2 && !Z.contains x.2)=true->∀x∈l,x.2∉F/\x.2∉Z:=fun hl x hx=>by
  have:=List.all_eq_true.1 hl x hx
  simpa using this
 refine wp_region_noPanic (wp_region_any hm (aHd (S:=S) (F:=F) _ _ _ _ ?_))
 refine aEh (C:=fun a w=>wl P ops (fun _=>True) (fun a w=>wl P ops S (fun a w=>wl P ops (fun _=>True) (Q' .normal) ρ a w) σ a w) (quiets Z) a w) c1 (fun c a w h=>h) hOk (quiets Z++(σ++ρ)) (fun listed fuel a w q1 q2 q3 q4 q5=>?_) π _ _ _ _ c5 c2 (nin hπ) hcl hS ?_
 ·refine aHv (C:=fun a w=>wl P ops S (fun a w=>wl P ops (fun _=>True) (Q' .normal) ρ a w) σ a w) c1 (fun c a w h=>h) (σ++ρ) (fun listed fuel a w q1 q2 q3 q4 q5=>?_) (quiets Z) _ _ _ _ q1 q2 (fun x hx=>by obtain ⟨i,_,rfl⟩:=List.mem_map.1 hx;rfl) q3 q4 q5
  refine aEh (C:=fun a w=>wl P ops (fun _=>True) (Q' .normal) ρ a w) c1 (fun c a w h=>h) hOk ρ (fun listed fuel a w q1 q2 q3 q4 q5=>?_) σ _ _ _ _ q1 q2 (nin hσ) q3 q4 q5
  exact aEm (Qn:=Q' .normal) c1 (fun c a w h=>h) (fun a w hh=>NoPanic.normal hh) ρ _ _ _ _ q1 q2 (fun x hx=>by have:=List.all_eq_true.1 hρ x hx;simpa using this) q3 q5
 refine aBt (M:=fun p=>Classical.epsilon fun o:Option Value=>∀v,o=some v↔∀w,S w->w.cell? p=some v) (fun p v h=>(hM p v).1 h) π a w.drew c4.1 ?_
 refine h S _ (fun a w=>wl P ops (fun _=>True) (fun a w=>wl P ops S (fun a w=>wl P ops (fun _=>True) (Q' .normal) ρ a w) σ a w) (quiets Z) a w) (fun a w=>wl P ops S (fun a w=>wl P ops (fun _=>True) (Q' .normal) ρ a w) σ a w) (fun a w=>wl P ops (fun _=>True) (Q' .normal) ρ a w) (Q' .normal) (fun _ h=>h) (fun _ h=>h) (fun p v h=>(hM p v).2 h) (fun a' w' hh=>?_) (fun a' w' hh=>?_) (fun a' w' hh=>?_) (fun _ _ h=>h)
 ·exact hh
 ·exact aBt (M:=fun p=>Classical.epsilon fun o:Option Value=>∀v,o=some v↔∀w,S w->w.cell? p=some v) (fun p v h=>(hM p v).1 h) σ a' w' c4.2.2.1 hh
 exact aBt (M:=fun _=>none) (fun p v h=>by cases h) ρ a' w' c4.2.2.2 hh
end
theorem bDx {P:Program}{ops:Array Oper}{i:Nat}{a:Act}{w:World}{dst:Option Tmp}{t ty:TypeId}{p:String}{af:Array Edge}{parts:Array (Nat×Operand)}{vs:Array (Nat×Value)}{v:Value}{Q:Act->World->Prop}
  (ho:ops[i]? = some ⟨dst,.build t parts,ty,p,af,none⟩) (hv:(parts.toList.map fun p=>(p.1,a.eval p.2)).toArray=vs) (hr:∀w,(Instr.build t vs).run P w=.ok v w) (hK:Q (a.put dst v) w) :
  wl P ops (fun _=>True) Q [(true,i)] a w:=by
 simp only[wl,ho,Region.wanted,if_true]
 refine ⟨v,fun w d p af g _=>?_,hK⟩
 have hv':(parts.map fun p=>(p.1,a.eval p.2))=vs:=by rw[<-hv];apply Array.toList_inj.1;simp
 unfold execOp
 simp only[hv',hr,Sem.run_bind,Sem.run_pure,Result.andThen_ok]
theorem aWm {P:Program}{ops:Array Oper}{S:World->Prop}{Q:Act->World->Prop} {σ:List (Bool×Nat)}:∀(π:List (Bool×Nat))(a:Act)(w:World),wl P ops S (wl P ops S Q σ) π a w->wl P ops S Q (π++σ) a w
 | [],a,w,h=>h
 | (q,i)::r,a,w,h=>by
  simp only[List.cons_append,wl] at h ⊢
  split
  ·rename_i ho;simp only[ho] at h
  rename_i o ho
  simp only[ho] at h
  split
  ·rename_i hw
   rw[if_pos hw] at h
   cases q with
   | true=>
    simp only[if_true] at h ⊢
    obtain ⟨v,hv,h⟩:=h
    exact ⟨v,hv,aWm r _ _ h⟩
   | false=>
    simp only[Bool.false_eq_true,if_false] at h ⊢
    exact aFa (fun a w hh=>⟨hh.1,aWm r _ _ hh.2⟩) (fun _ _ _ hh=>hh) h
  rename_i hw
  rw[if_neg hw] at h
  exact aWm r _ _ h
theorem aTp {P:Program}{ops:Array Oper}{id:Nat} {Q':Exit->Act->World->Prop}{a:Act}{w:World}(S:World->Prop) (π:List (Bool×Nat))(Z:List Nat)(i:Nat) (ρ:List (Bool×Nat))(F:List Nat)(hm:P.follows .mixedOrders=true)
  (hc:planChkZ ops π (quiets (Z++[i])) [] ρ F (Z++[i])=true) (hS:S w.drew)
  (h:∀(T:World->Prop) (M:Addr->Option Value) (Q1 Q2 Q3 Q4:Act->World->Prop),(∀w,S w->T w)->(∀w,T w->S w)->(∀p v,(∀w,S w->w.cell? p=some v)->M p=some v)->
   (∀a w,wq P (fun _=>True) (fun _=>none) Q2 (cmp ops (quiets Z)) a w->Q1 a w)->(∀a w,wl P ops (fun _=>True) Q3 [(true,i)] a w->Q2 a w)->(∀a w,wq P (fun _=>True) (fun _=>none) Q4 (cmp ops ρ) a w->Q3 a w)->(∀a w,Q' .normal a w->Q4 a w)->wq P T M Q1 (cmp ops π) a w.drew) :
  (Code.region id ops true).wp P Q' a w:=by
 have hz:=hc
 simp only[planChkZ,planChk,Bool.and_eq_true,quiets,List.map_append,List.all_append] at hz
 refine aSm S π (Z++[i]) [] ρ F hm hc hS fun T M Q1 Q2 Q3 Q4 hT hT' hM h1 h2 h3 h4=>?_
 refine h T M Q1 (wl P ops (fun _=>True) Q2 [(true,i)]) Q2 Q4 hT hT' hM (fun a w hh=>h1 a w ?_) (fun a w hh=>hh) (fun a w hh=>h2 a w (h3 a w hh)) h4
 rw[show quiets (Z++[i])=quiets Z++[(true,i)] by simp[quiets]]
 refine aWm _ _ _ (aBt (M:=fun _=>none) (fun p v h=>by cases h) (quiets Z) a w ?_ hh)
 exact hz.1.1.1.1.2.2.1.1
theorem aWs {w0 w:World}{tb:Nat}{Ab:Option Addr}{x y:Value}{nb cb b o t n:Nat}{base:List ByteArray}{L:List KV}
  (hb:Rd w0 w0.heap.size 1 Ab nb cb (base.map .string)) (hnb:nb<=100000) (ho:o+n<=1000000) (ht:t+n<=1000000) (hL:L.length<=1000000)
  (h:TX w0 w tb (.slice Ab nb cb) x y b o t L) (h1:b+n<=nb) :
  Calls Tryz.prog 133 #[.pointer (some ⟨tb,0,none⟩),.int .i64 n] w fun e w'=>e=.returned (.tuple #[])/\TX w0 w' tb (.slice Ab nb cb) x y (b+n) (o+n) (t+n) (L++[⟨1,sliceF base b (b+n),sliceF base b (b+n),sliceF base b (b+n)⟩]):=by
 have hhi:=h.hi
 have hlo:=h.lo
 obtain ⟨out,H,hcells,hown,hne,hK⟩:=h.ex
 have HBEL:=hid h.bel
 have hcb0:=hb.cap
 obtain ⟨hr0,hl0⟩:=aIu hb (Nat.le_add_right b n) h1
 generalize sliceF base b (b+n)=L0 at *
 have HT:=hid hcells
 have HOW:=hid hown
 have HK:=hid hK
 have HL0:=hid hl0
 have HR0:=hid hr0
 have HNE:=hid hne
 clear hcells hown hK hl0 hr0 hb hne h
 have kk:∀k v,(#[.slice Ab nb cb,x,y,.int .i64 b,.int .i64 o,.int .i64 t,out]:Array Value)[k]? = some v->w.drew.cell? ⟨tb,k,none⟩=some v:=fun k v hv=>by
  show w.cell? ⟨tb,k,none⟩=some v
  rw[Lib.cell_of_heap HT.out];exact hv
 have k0:w.drew.cell? ⟨tb,0,none⟩=some (.slice Ab nb cb):=kk 0 _ rfl
 have k3:w.drew.cell? ⟨tb,3,none⟩=some (.int .i64 b):=kk 3 _ rfl
 clear kk
 have i1:(b:Int)+n=((b+n:Nat):Int):=by push_cast;rfl
 have i2:(o:Int)+n=((o+n:Nat):Int):=by push_cast;rfl
 have i3:(t:Int)+n=((t+n:Nat):Int):=by push_cast;rfl
 go_enter Tryz.func133,Tryz.ntmps133
 go_wp2
 refine aAd (fun w'=>Below w.heap.size w w') (qs 16) mixed (by kernel_rfl) (Below.refl _ _).drew ?_
 intro Tp M Q hT hT' hM hQ
 have m0:=hM ⟨tb,0,none⟩ _ fun w' hw=>(hw.cell (p:=⟨tb,0,none⟩) hhi).trans k0
 have m1:=hM ⟨tb,3,none⟩ _ fun w' hw=>(hw.cell (p:=⟨tb,3,none⟩) hhi).trans k3
 clear hM
 simp only[qcmp]
 simp (maxSteps:=9^7) only[↓qpre,aAb,aAf,aAc,m0,m1,i1]
 (repeat refine ⟨by first|omega|(unfold inI64;omega),?_⟩)
 refine hQ _ _ ?_
 clear hQ hT hT' m0 m1 k0 k3
 simp only[sliced,Nat.mul_one]
 have HC0:Hid (∀u,Below w.heap.size w u->Calls Tryz.prog 165 #[.slice (if cb=b then Ab else Ab.map (·.add b)) (b+n-b) (cb-b)] u (FreshS L0 u)):=fun u hu=>by
  have hb:=HBEL.out.trans (hu.mono HBEL.out.size)
  have:=HR0.out.to hb hb.size
  rw[<-HL0.out] at this ⊢
  exact aGj (by have:=HL0.out;omega) this
 generalize (if cb=b then Ab else Option.map (fun x=>x.add b) Ab)=Ab1 at *
 have HLT:Hid (∀b∈tb::obs out,b<w.heap.size):=by
  refine all_cons hhi (fun b hb=>?_)
  exact (HOW.out.lt b (aJe hb)).2
 have HW:=hid (show Below w.heap.size w w.drew.drew from (Below.refl _ _).drew.drew)
 have HT:=hid (show w.drew.drew.heap[tb]? = some (.cells #[.slice Ab nb cb,x,y,.int .i64 b,.int .i64 o,.int .i64 t,out] 182 (0,0)) from HT.out)
 have HOW:=hid HOW.out.drew.drew
 have HKV:=hid (KIns.keep (Keeps.of_below (show Below w.heap.size w w.drew.drew from (Below.refl _ _).drew.drew)) HK.out)
 have HB:=hid HBEL.out.drew.drew
 go_wp2
 refine aAs (fun w'=>w'.heap[tb]? = some (.cells #[.slice Ab nb cb,x,y,.int .i64 b,.int .i64 o,.int .i64 t,out] 182 (0,0))) [(true,0),(true,1),(true,2),(true,3),(true,4),(true,5),(true,7),(true,9),(false,6),(false,8),(false,10),(false,11),(false,12),(false,13),(true,14),(true,15)] [16] mixed (by kernel_rfl) HT.out ?_
 intro Tp M Q Q2 hT hT' hM hQ hQ2
 have m0:M ⟨tb,6,none⟩=some out:=hM _ _ fun w' hw=>by rw[Lib.cell_of_heap hw];rfl
 clear hM
 simp only[qcmp]
 simp (maxSteps:=9^7) only[↓qpre,aAb,aAf,aAc,m0]
 clear m0
 refine aAh (by kernel_rfl) (HC0.out _ HW.out) rfl rfl ?_
 rintro e u0 ⟨A0,c0,rfl,hr,hf,hb⟩
 have HX0:=hid (aAp (l:=tb::obs out) hr hf (fun b hb=>Nat.lt_of_lt_of_le (HLT.out b hb) HW.out.size))
 have HT:=hid ((hb.block tb (Nat.lt_of_lt_of_le hhi HW.out.size)).trans HT.out)
 have HOW:=hid (aAe HOW.out hb)
 have HKV:=hid (HKV.out.keep (Keeps.of_below hb))
 have HB:=hid (HB.out.trans (hb.mono HB.out.size))
 have HW:=hid (HW.out.trans (hb.mono HW.out.size))
 clear hr hf hb
 refine ⟨_,rfl,hT _ HT.out,?_⟩
 simp (maxSteps:=9^7) only[aAb,aAc]
 refine aAh (by kernel_rfl) (HC0.out _ HW.out) rfl rfl ?_
 rintro e u1 ⟨A1,c1,rfl,hr,hf,hb⟩
 have HX1:=hid (aAp (l:=tb::obs out) hr hf (fun b hb=>Nat.lt_of_lt_of_le (HLT.out b hb) HW.out.size))
 have HX0:=hid (HX0.out.keep (Keeps.of_below hb))
 have HT:=hid ((hb.block tb (Nat.lt_of_lt_of_le hhi HW.out.size)).trans HT.out)
 have HOW:=hid (aAe HOW.out hb)
 have HKV:=hid (HKV.out.keep (Keeps.of_below hb))
 have HB:=hid (HB.out.trans (hb.mono HB.out.size))
 have HW:=hid (HW.out.trans (hb.mono HW.out.size))
 clear hr hf hb
 refine ⟨_,rfl,hT _ HT.out,?_⟩
 simp (maxSteps:=9^7) only[aAb,aAc]
 refine aAh (by kernel_rfl) (HC0.out _ HW.out) rfl rfl ?_
 rintro e u2 ⟨A2,c2,rfl,hr,hf,hb⟩
 have HX2:=hid (aAp (l:=tb::obs out) hr hf (fun b hb=>Nat.lt_of_lt_of_le (HLT.out b hb) HW.out.size))
 have HX0:=hid (HX0.out.keep (Keeps.of_below hb))
 have HX1:=hid (HX1.out.keep (Keeps.of_below hb))
 have HT:=hid ((hb.block tb (Nat.lt_of_lt_of_le hhi HW.out.size)).trans HT.out)
 have HOW:=hid (aAe HOW.out hb)
 have HKV:=hid (HKV.out.keep (Keeps.of_below hb))
 have HB:=hid (HB.out.trans (hb.mono HB.out.size))
 have HW:=hid (HW.out.trans (hb.mono HW.out.size))
 clear hr hf hb
 refine ⟨_,rfl,hT _ HT.out,?_⟩
 simp (maxSteps:=9^7) only[aAb,aAc]
 refine aCc rfl (aZu 1 A0 A1 A2 _ _ _ _ _ _ _) ⟨hT _ HT.out,?_⟩
 simp (maxSteps:=9^7) only[aAb,aAc]
 have hba:Below u2.heap.size u2 (u2.alloc (.cells #[.int .i64 1,.slice A0 L0.length c0,.slice A1 L0.length c1,.slice A2 L0.length c2] 111)):=(Below.refl _ _).alloc (Nat.le_refl _) _
 have hhu:=Nat.lt_of_lt_of_le hhi HW.out.size
 have HT:=hid ((hba.block tb hhu).trans HT.out)
 refine T.eff_lits (T.run_lits4 aDb _ _ _ _ _) rfl ⟨hT _ HT.out,?_⟩
 simp (maxSteps:=9^7) only[aAb,aAc]
 have HLIT:=hid (aGi u2 (.int .i64 1) (.slice A0 L0.length c0) (.slice A1 L0.length c1) (.slice A2 L0.length c2))
 have HOW4:=hid (aAe HOW.out hba)
 have HB4:=hid (HB.out.trans (hba.mono HB.out.size))
 have HX0:=hid ((HX0.out.keep (Keeps.of_below hba)).less (m:=(u2.alloc (.cells #[.int .i64 1,.slice A0 L0.length c0,.slice A1 L0.length c1,.slice A2 L0.length c2] 111)).heap.size::tb::obs out) (aFj (Nat.le_refl _)))
 have HX1:=hid ((HX1.out.keep (Keeps.of_below hba)).less (m:=(u2.alloc (.cells #[.int .i64 1,.slice A0 L0.length c0,.slice A1 L0.length c1,.slice A2 L0.length c2] 111)).heap.size::tb::obs out) (aFj (Nat.le_refl _)))
 have HX2:=hid ((HX2.out.keep (Keeps.of_below hba)).less (m:=(u2.alloc (.cells #[.int .i64 1,.slice A0 L0.length c0,.slice A1 L0.length c1,.slice A2 L0.length c2] 111)).heap.size::tb::obs out) (aFj (Nat.le_refl _)))
 have HKV:=hid ((HKV.out.keep (Keeps.of_below hba)).less (m:=(u2.alloc (.cells #[.int .i64 1,.slice A0 L0.length c0,.slice A1 L0.length c1,.slice A2 L0.length c2] 111)).heap.size::tb::obs out) (aFj (Nat.le_refl _)))
 have htV:=Nat.lt_of_lt_of_le hhu hba.size
 clear HOW HB HW hba hhu
 generalize u2.alloc (.cells #[.int .i64 1,.slice A0 L0.length c0,.slice A1 L0.length c1,.slice A2 L0.length c2] 111)=V4 at *
 refine aAo aDb (base:=w0.heap.size) (n:=L.length) rfl rfl HOW4.out HLIT.out (by intro u hu;simp at hu;rcases hu with rfl | rfl | rfl | rfl<;>rfl) (by unfold maxLen;omega) (by omega) HB4.out.size ?_
 intro v7 V5 ho7 hg7 hv7
 obtain ⟨A7,c7,rfl,hc7⟩:=aAg ho7
 have htb5:V5.heap[tb]? = V4.heap[tb]?:=hg7.block tb htV (fun e=>HNE.out e.symm)
 have HT:=hid (htb5.trans HT.out)
 refine ⟨hT _ HT.out,?_⟩
 simp (maxSteps:=9^7) only[↓qpre,aAb,aAf,aAc]
 refine hQ _ _ ?_
 simp only[lates,List.map,qcmp]
 simp (maxSteps:=9^7) only[aAb]
 refine aAy (v:=.slice A7 (L.length+1) c7) (b:=tb) (o:=6) (by kernel_rfl) rfl rfl (by rw[Lib.cell_of_heap HT.out];rfl) (aAi HT.out) rfl ⟨trivial,?_⟩
 simp (maxSteps:=9^7) only[aAb]
 refine hQ2 _ _ ?_
 have HTV6:Hid ((V5.setCell ⟨tb,6,none⟩ (.slice A7 (L.length+1) c7)).heap[tb]? = some (.cells #[.slice Ab nb cb,x,y,.int .i64 b,.int .i64 o,.int .i64 t,.slice A7 (L.length+1) c7] 182 (0,0))):=by
  have:=heap_setCell_same V5 tb 6 _ _ (.slice A7 (L.length+1) c7) HT.out
  unfold Hid
  simpa using this
 have HG6:=hid ((Keeps.grown (l:=V4.heap.size::tb::obs out) hg7 (fun g hg=>List.mem_cons_of_mem _ (List.mem_cons_of_mem _ (aHq hg)))).trans (Keeps.grown (aBd V5 tb 6 (.slice A7 (L.length+1) c7)) (by simp)))
 have HN7:Hid ((Value.slice A7 (L.length+1) c7).ownBlock≠some tb):=by
  rcases hv7 with h | h
  ·rw[h];exact HNE.out
  rw[h];intro e;injection e with e;omega
 have HO7:=hid (ownsRow_setCell_other ho7 (a:=⟨tb,6,none⟩) HN7.out (.slice A7 (L.length+1) c7))
 have HB6:=hid ((HB4.out.grown hg7 HB4.out.size (fun g hg=>(HOW4.out.lt g hg).1)).setCell (p:=⟨tb,6,none⟩) hlo (.slice A7 (L.length+1) c7))
 have HSUB:Hid (∀b∈tb::obs (.slice A7 (L.length+1) c7),b∈V4.heap.size::tb::obs out):=by
  refine all_cons (by simp) (fun b hb=>?_)
  rcases hv7 with h | h
  ·have:=aJe hb;rw[h] at this;exact List.mem_cons_of_mem _ (List.mem_cons_of_mem _ (aHq this))
  have:=aJe hb;rw[h] at this;injection this with this;simp[this]
 have HKF:=hid (((KIns.snoc (k:=⟨1,L0,L0,L0⟩) HKV.out ⟨A0,c0,A1,c1,A2,c2,rfl,HX0.out,HX1.out,HX2.out⟩).keep HG6.out).less (fun b hb=>.inl (HSUB.out b hb)))
 clear hQ hQ2 hT hT' HX0 HX1 HX2 HKV HG6 HSUB ho7 hg7 hv7 HOW4 HLIT HT htb5
 have htb6:tb<(V5.setCell ⟨tb,6,none⟩ (.slice A7 (L.length+1) c7)).heap.size:=by
  rcases Nat.lt_or_ge tb (V5.setCell ⟨tb,6,none⟩ (.slice A7 (L.length+1) c7)).heap.size with h2 | h2
  ·exact h2
  have:=HTV6.out
  rw[Array.getElem?_eq_none h2] at this;cases this
 generalize V5.setCell ⟨tb,6,none⟩ (.slice A7 (L.length+1) c7)=V6 at *
 go_wp2
 refine aTp (fun w'=>w'.heap[tb]? = some (.cells #[.slice Ab nb cb,x,y,.int .i64 b,.int .i64 o,.int .i64 t,.slice A7 (L.length+1) c7] 182 (0,0))) [(true,0),(true,2),(true,3),(true,4),(true,5),(true,6),(true,7),(true,8),(true,9),(true,10),(true,11),(true,12),(true,15),(true,16),(true,17),(true,18),(true,19),(true,23),(true,24)] [1,13,14,20,21] 22 [(false,25),(true,26),(true,27),(false,28)] [25,26,27,28] mixed (by kernel_rfl) HTV6.out ?_
 intro Tp M Q1 Q2 Q3 Q4 hT hT' hM hq1 hq2 hq3 hq4
 have m3:M ⟨tb,3,none⟩=some (.int .i64 b):=hM _ _ fun w' hw=>by rw[Lib.cell_of_heap hw];rfl
 have m4:M ⟨tb,4,none⟩=some (.int .i64 o):=hM _ _ fun w' hw=>by rw[Lib.cell_of_heap hw];rfl
 have m5:M ⟨tb,5,none⟩=some (.int .i64 t):=hM _ _ fun w' hw=>by rw[Lib.cell_of_heap hw];rfl
 clear hM
 simp only[qcmp]
 simp (maxSteps:=9^7) only[↓qpre,aAb,aAf,aAc,m3,m4,m5,i1]
 (repeat refine ⟨by first|omega|(unfold inI64;omega),?_⟩)
 refine hq1 _ _ ?_
 simp only[quiets,List.map,qcmp]
 simp (maxSteps:=9^7) only[↓qpre,aAb,aAc,i2,i3]
 (repeat refine ⟨by first|omega|(unfold inI64;omega),?_⟩)
 refine hq2 _ _ ?_
 refine bDx rfl rfl (aZg _ _) ?_
 simp (maxSteps:=9^7) only[aAb,aAc]
 refine hq3 _ _ ?_
 simp only[qcmp]
 simp (maxSteps:=9^7) only[aAb]
 have HT2:=hid (heap_setCell_same V6.drew tb 3 _ _ (.int .i64 (b+n:Nat)) HTV6.out)
 have HT3:=hid (heap_setCell_same _ tb 4 _ _ (.int .i64 (o+n:Nat)) HT2.out)
 have HT4:=hid (heap_setCell_same _ tb 5 _ _ (.int .i64 (t+n:Nat)) HT3.out)
 have hc3:(V6.drew.cell? ⟨tb,3,none⟩).isSome=true:=by
  show (V6.cell? ⟨tb,3,none⟩).isSome=true
  rw[Lib.cell_of_heap HTV6.out];rfl
 have hf3:V6.drew.frozen? ⟨tb,3,none⟩=false:=aAi (w:=V6) HTV6.out
 refine aAy (v:=.int .i64 (b+n:Nat)) (b:=tb) (o:=3) (by kernel_rfl) rfl rfl hc3 hf3 rfl ⟨trivial,?_⟩
 simp (maxSteps:=9^7) only[↓qpre,aAb,aAf,aAc]
 refine aJp (u0:=.int .i64 (o+n:Nat)) (u1:=.int .i64 (t+n:Nat)) (b:=tb) (o:=4) (by kernel_rfl) rfl rfl (by rw[Lib.cell_of_heap HT2.out];rfl) (by rw[Lib.cell_of_heap HT2.out];rfl) (aAi HT2.out) (aAi HT2.out) rfl rfl ⟨trivial,?_⟩
 simp (maxSteps:=9^7) only[aAb]
 refine hq4 _ _ ?_
 have HG:=hid (((Keeps.refl (tb::obs (.slice A7 (L.length+1) c7)) V6).drew.trans (Keeps.grown (aBd V6.drew tb 3 (.int .i64 (b+n:Nat))) (by simp))).trans ((Keeps.grown (aBd _ tb 4 (.int .i64 (o+n:Nat))) (by simp)).trans (Keeps.grown (aBd _ tb 5 (.int .i64 (t+n:Nat))) (by simp))))
 have HB2:=hid (((HB6.out.drew.setCell (p:=⟨tb,3,none⟩) hlo (.int .i64 (b+n:Nat))).setCell (p:=⟨tb,4,none⟩) hlo (.int .i64 (o+n:Nat))).setCell (p:=⟨tb,5,none⟩) hlo (.int .i64 (t+n:Nat)))
 have HOF:=hid (ownsRow_setCell_other (ownsRow_setCell_other (ownsRow_setCell_other HO7.out.drew (a:=⟨tb,3,none⟩) HN7.out (.int .i64 (b+n:Nat))) (a:=⟨tb,4,none⟩) HN7.out (.int .i64 (o+n:Nat))) (a:=⟨tb,5,none⟩) HN7.out (.int .i64 (t+n:Nat)))
 have HTV:Hid ((((V6.drew.setCell ⟨tb,3,none⟩ (.int .i64 (b+n:Nat))).setCell ⟨tb,4,none⟩ (.int .i64 (o+n:Nat))).setCell ⟨tb,5,none⟩ (.int .i64 (t+n:Nat))).heap[tb]? = some (.cells #[.slice Ab nb cb,x,y,.int .i64 (b+n:Nat),.int .i64 (o+n:Nat),.int .i64 (t+n:Nat),.slice A7 (L.length+1) c7] 182 (0,0))):=by
  have:=HT4.out
  unfold Hid
  simpa using this
 have HKG:=hid (HKF.out.keep HG.out)
 clear hq1 hq2 hq3 hq4 hT hT' HT2 HT3 HT4 hc3 hf3 HG HKF HB6 HO7 HTV6 m3 m4 m5
 go_wp2
 refine bodyPost_end (results_none rfl _ _ _) rfl ?_
 refine ⟨rfl,⟨⟨_,H++[[.int .i64 1,.slice A0 L0.length c0,.slice A1 L0.length c1,.slice A2 L0.length c2]],HTV.out,?_,HN7.out,HKG.out⟩,hlo,HB2.out⟩⟩
 rw[List.length_append,List.flatten_append]
 exact HOF.out
end Go.Proofs.YtcemkikgaeghjaaGreatDoor
