/- Texts of the walks, together: Regions that draw their order and leave more than one order to their effects: a tree of orders. Lists held against each other; structs held against each other. Lists of api.File: held against each other. Walks: where a file stands, and what is found. -/
import Derived.Laws.Tables
import Derived.Laws.StructEq
import Derived.Laws.ResultCell
import Derived.Test.YtohblmepajhpaaaGreatDoorG03
set_option maxHeartbeats 4000000
set_option maxRecDepth 100000
open Go.Lib (hid)
namespace Go.Proofs.YtohblmepajhpaaaGreatDoor
open Go.RowKit
inductive PT
 | leaf
 | q (i:Nat) (t:PT)
 | b (i:Nat) (t:PT)
 | one (i:Nat) (t:PT)
 | two (i:Nat) (t:PT) (j:Nat) (u:PT)
 | three (i:Nat) (t:PT) (j:Nat) (u:PT) (k:Nat) (v:PT)
def PT.dep:PT->Nat
 | .leaf=>0
 | .q _ t=>t.dep+1
 | .b _ t=>t.dep+1
 | .one _ t=>t.dep+1
 | .two _ t _ u=>max t.dep u.dep+1
 | .three _ t _ u _ v=>max t.dep (max u.dep v.dep)+1
def among (m:Nat)(l:List Nat):List (Nat×Nat)->Nat->Bool
 | [],_=>true
 | x::r,j=>(l.any (Nat.beq j) || m.testBit j || !inM x.1 m) && among m l r (j+1)
def upB (D:List (Nat×Nat))(m i:Nat):Bool:=
 match D[i]? with
 | none=>false
 | some x=>!m.testBit i && inM x.1 m
def okB (ops:Array Oper)(i:Nat):Bool:=
 (ops[i]?).isSome && (match (ops[i]?).bind (·.guard) with | some (j,_)=>((ops[j]?).bind (·.dst)).isSome | none=>true)
def okN (ops:Array Oper)(i:Nat):Bool:=
 match ops[i]? with
 | some o=>o.guard.isNone
 | none=>false
def planT (ops:Array Oper)(D:List (Nat×Nat)):PT->Nat->Bool
 | .leaf,m=>inM (2 ^ D.length-1) m
 | .q i t,m=>(match D[i]? with | none=>false | some x=>!m.testBit i && inM x.1 m && inM x.2 m) && okB ops i && planT ops D t (Nat.lor m (2 ^ i))
 | .b i t,m=>(match D[i]? with | none=>false | some x=>!m.testBit i && inM x.1 m && inM x.2 m) && okN ops i && planT ops D t (Nat.lor m (2 ^ i))
 | .one i t,m=>upB D m i && among m [i] D 0 && okB ops i && planT ops D t (Nat.lor m (2 ^ i))
 | .two i t j u,m=>upB D m i && among m [i,j] D 0 && okB ops i && okB ops j && planT ops D t (Nat.lor m (2 ^ i)) && planT ops D u (Nat.lor m (2 ^ j))
 | .three i t j u k v,m=>upB D m i && among m [i,j,k] D 0 && okB ops i && okB ops j && okB ops k && planT ops D t (Nat.lor m (2 ^ i)) && planT ops D u (Nat.lor m (2 ^ j)) && planT ops D v (Nat.lor m (2 ^ k))
structure Rel (ops:Array Oper) (listed:Array Bool) (m:Nat):Prop where
 size:listed.size=ops.size
 bits:∀j,j<ops.size->listed[j]? = some (m.testBit j)
 out:∀j,ops.size<=j->m.testBit j=false
section
variable {ops:Array Oper} {listed:Array Bool} {m:Nat}
theorem Rel.set (h:Rel ops listed m){i:Nat}(hi:i<ops.size):Rel ops (listed.setIfInBounds i true) (Nat.lor m (2 ^ i)):=by
 refine ⟨by simp[h.size],fun j hj=>?_,fun j hj=>?_⟩
 ·rw[show Nat.lor m (2 ^ i)=m ||| 2 ^ i from rfl,Array.getElem?_setIfInBounds]
  by_cases hij:i=j
  ·subst hij;simp[h.size,hi,Nat.testBit_or]
  rw[if_neg hij,h.bits j hj,Nat.testBit_or,Nat.testBit_two_pow];simp[hij]
 rw[show Nat.lor m (2 ^ i)=m ||| 2 ^ i from rfl,Nat.testBit_or,Nat.testBit_two_pow,h.out j hj];simp;omega
theorem aHz (_h:Rel ops listed m)(oj:Oper):inM (obits ops oj).dep m=true↔∀e∈oj.after,Region.binds .any e=true->m.testBit e.on=true:=by
 constructor
 ·intro hh e he hbd
  refine aIu hh ?_
  simp only[obits,aAr,decide_eq_true_eq,List.mem_filterMap]
  exact ⟨e,by simpa using he,by simp[hbd]⟩
 intro hh
 refine bHs fun t ht=>?_
 simp only[obits,aAr,decide_eq_true_eq,List.mem_filterMap] at ht
 obtain ⟨e,he,hte⟩:=ht
 split at hte
 ·rename_i hbd
  cases hte
  exact hh e (by simpa using he) hbd
 cases hte
theorem aFg (h:Rel ops listed m){j:Nat}{oj:Oper}(hj:ops[j]? = some oj):j∈Region.ready .any ops listed↔m.testBit j=false/\inM (obits ops oj).dep m=true:=by
 have hjlt:j<ops.size:=(Array.getElem?_eq_some_iff.1 hj).1
 rw[mem_ready]
 constructor
 ·rintro ⟨g1,oj',hj',g2⟩
  rw[hj] at hj';cases hj'
  refine ⟨by simpa[h.bits j hjlt] using g1,(aHz h oj).2 fun e he hbd=>?_⟩
  have:=g2 e he hbd
  by_cases hlt:e.on<ops.size
  ·simpa[h.bits _ hlt] using this
  have hn:listed[e.on]? = none:=by rw[Array.getElem?_eq_none];have:=h.size;omega
  simp[hn] at this
 rintro ⟨g1,g2⟩
 refine ⟨by simp[h.bits j hjlt,g1],oj,hj,fun e he hbd=>?_⟩
 have hb:=(aHz h oj).1 g2 e he hbd
 by_cases hlt:e.on<ops.size
 ·simp[h.bits _ hlt,hb]
 rw[h.out _ (by omega)] at hb
 cases hb
theorem aFz {j:Nat}{oj:Oper}(hj:ops[j]? = some oj):(dataOf ops)[j]? = some ((obits ops oj).dep,clash j (obits ops oj) (ops.toList.map (obits ops)) 0):=by
 have hj':ops.toList[j]? = some oj:=by simpa using hj
 simp only[dataOf]
 rw[aEp,List.getElem?_map,hj']
 simp
theorem bBn (h:Rel ops listed m){i:Nat}{o:Oper}(hoi:ops[i]? = some o)(h3:inM (clash i (obits ops o) (ops.toList.map (obits ops)) 0) m=true):Region.free .any ops listed i=true:=by
 simp only[Region.free,hoi,List.all_eq_true,List.mem_range,Bool.or_eq_true,beq_iff_eq]
 intro j hj
 by_cases hji:j=i
 ·exact .inl (.inl hji)
 cases hm:m.testBit j with
 | true=>exact .inl (.inr (by simp[h.bits j hj,hm]))
 | false=>
  right
  obtain ⟨oj,hoj⟩:∃oj,ops[j]? = some oj:=⟨ops[j],Array.getElem?_eq_getElem hj⟩
  simp only[hoj,Bool.or_eq_true]
  have hcl:(clash i (obits ops o) (ops.toList.map (obits ops)) 0).testBit (0+j)=false:=by
   rw[Nat.zero_add]
   cases hc:(clash i (obits ops o) (ops.toList.map (obits ops)) 0).testBit j with
   | false=>rfl
   | true=>
    have:=aIu h3 hc
    simp[hm] at this
  have hjl:(ops.toList.map (obits ops))[j]? = some (obits ops oj):=by
   rw[List.getElem?_map];have:ops.toList[j]? = some oj:=by simpa using hoj
   rw[this];rfl
  rcases aNg _ 0 j _ hjl hcl with g | g | g
  ·exact absurd (by omega) hji
  ·left
   simp only[obits,aAr,decide_eq_true_eq,List.mem_filterMap] at g
   obtain ⟨e,he,hte⟩:=g
   split at hte
   ·rename_i hbd
    rw[Array.any_eq_true']
    exact ⟨e,by simpa using he,by simp at hte;simp[hbd,hte]⟩
   cases hte
  right
  obtain ⟨g1,g2⟩:=g
  have nb:∀(a b:Nat),a &&& b=0->∀t,a.testBit t=true->b.testBit t=true->False:=by
   intro a b hab t ha hb
   have:=congrArg (·.testBit t) hab
   simp[Nat.testBit_and,ha,hb] at this
  simp only[Oper.apart,Bool.and_eq_true]
  constructor
  ·cases hd:o.dst with
   | none=>rfl
   | some d=>
    simp only[Bool.and_eq_true,Bool.not_eq_true',bne_iff_ne]
    have hbd:(obits ops o).dst.testBit d=true:=by simp[obits,hd]
    constructor
    ·cases hc:(oj.looksAt ops).contains d with
     | false=>rfl
     | true=>
      exfalso
      refine nb _ _ g1 d ?_ hbd
      rw[show Nat.lor _ _=_ ||| _ from rfl,Nat.testBit_or]
      have:(obits ops oj).look.testBit d=true:=by
       simp only[obits,aAr,decide_eq_true_eq];simpa using hc
      simp[this]
    intro hdd
    refine nb _ _ g1 d ?_ hbd
    rw[show Nat.lor _ _=_ ||| _ from rfl,Nat.testBit_or]
    have:(obits ops oj).dst.testBit d=true:=by simp[obits,hdd]
    simp[this]
  cases hd:oj.dst with
  | none=>rfl
  | some d=>
   simp only[Bool.not_eq_true']
   cases hc:(o.looksAt ops).contains d with
   | false=>rfl
   | true=>
    exfalso
    refine nb _ _ g2 d ?_ ?_
    ·simp only[obits,aAr,decide_eq_true_eq];simpa using hc
    simp[obits,hd]
theorem aOf {l:List Nat}:∀(r:List (Nat×Nat)) (k j:Nat) (x:Nat×Nat),among m l r k=true->r[j]? = some x->k+j∈l\/m.testBit (k+j)=true\/inM x.1 m=false
 | [],k,j,x,_,h=>by simp at h
 | z::r,k,0,x,h,hx=>by
  obtain rfl:z=x:=by simpa using hx
  simp only[among,Bool.and_eq_true,Bool.or_eq_true] at h
  rcases h.1 with (h1 | h1) | h1
  ·obtain ⟨y,hy,he⟩:=List.any_eq_true.1 h1
   have:=Nat.eq_of_beq_eq_true he
   subst this
   exact .inl (by simpa using hy)
  ·exact .inr (.inl (by simpa using h1))
  exact .inr (.inr (by simpa using h1))
 | z::r,k,j+1,x,h,hx=>by
  simp only[among,Bool.and_eq_true] at h
  have:=aOf r (k+1) j x h.2 (by simpa using hx)
  rw[show k+1+j=k+(j+1) from by omega] at this
  exact this
theorem aHf (h:Rel ops listed m){l:List Nat}(ha:among m l (dataOf ops) 0=true){j:Nat}(hj:j∈Region.ready .any ops listed):j∈l:=by
 obtain ⟨_,oj,hoj,_⟩:=mem_ready.1 hj
 obtain ⟨g1,g2⟩:=(aFg h hoj).1 hj
 rcases aOf _ 0 j _ ha (aFz hoj) with g | g | g
 ·simpa using g
 ·simp[g1] at g
 rw[g2] at g;cases g
theorem aNf (h:Rel ops listed m){i:Nat}(hu:upB (dataOf ops) m i=true):i∈Region.ready .any ops listed:=by
 unfold upB at hu
 split at hu
 ·cases hu
 rename_i x hx
 simp only[Bool.and_eq_true,Bool.not_eq_true'] at hu
 have hl:(dataOf ops).length=ops.size:=by
  have hh:∀(all l:List OBits) (k:Nat),(clashes all l k).length=l.length:=by
   intro all l
   induction l with
   | nil=>intro k;rfl
   | cons x l ih=>intro k;simp[clashes,ih]
  simp[dataOf,hh]
 have hi:i<ops.size:=by rw[<-hl];exact (List.getElem?_eq_some_iff.1 hx).1
 have ho:ops[i]? = some ops[i]:=Array.getElem?_eq_getElem hi
 rw[aFz ho] at hx
 cases hx
 exact (aFg h ho).2 hu
end
def bq (P:Program)(S:World->Prop)(x:QOp)(a:Act)(K:Act->World->Prop)(w:World):Prop:=∃v,QYields P S x.op x.type a v/\K (a.put x.dst v) w
def wt (P:Program)(S:World->Prop)(M:Addr->Option Value)(ops:Array Oper)(Q:Act->World->Prop):PT->Act->World->Prop
 | .leaf=>Q
 | .q i t=>fun a w=>wq P S M (wt P S M ops Q t) [cmp1 ops true i] a w
 | .b i t=>fun a w=>bq P S (cmp1 ops true i) a (wt P S M ops Q t) w
 | .one i t=>fun a w=>wq P S M (wt P S M ops Q t) [cmp1 ops false i] a w
 | .two i t j u=>fun a w=>wq P S M (wt P S M ops Q t) [cmp1 ops false i] a w/\wq P S M (wt P S M ops Q u) [cmp1 ops false j] a w
 | .three i t j u k v=>fun a w=>wq P S M (wt P S M ops Q t) [cmp1 ops false i] a w/\wq P S M (wt P S M ops Q u) [cmp1 ops false j] a w/\wq P S M (wt P S M ops Q v) [cmp1 ops false k] a w
section
variable {P:Program} {S:World->Prop} {M:Addr->Option Value} {ops:Array Oper} {Q:Act->World->Prop} {Q':Exit->Act->World->Prop}
theorem bDi {i:Nat}{q:Bool}(h:okB ops i=true):([(q,i)].all fun x=>(ops[x.2]?).isSome && (match (ops[x.2]?).bind (·.guard) with | some (j,_)=>((ops[j]?).bind (·.dst)).isSome | none=>true))=true:=by
 simpa[okB] using h
theorem aJk (hM:∀p v,M p=some v->∀w,S w->w.cell? p=some v){C K:Act->World->Prop}{i:Nat}{a:Act}{w:World}(ho:okB ops i=true)(hS:S w)
  (h:wq P S M C [cmp1 ops false i] a w) (hK:∀a' w',S w'->C a' w'->K a' w') :
  wpOp P ops Q' i (fun a' w'=>S w'/\K a' w') a w:=by
 have h1:=aBl (ops:=ops) (Q:=C) hM [(false,i)] a w (bDi ho) h
 simp only[wl] at h1
 cases hoi:ops[i]? with
 | none=>simp only[hoi] at h1
 | some o=>
  simp only[hoi] at h1
  unfold wpOp
  simp only[hoi]
  by_cases hw:Region.wanted o (yielded ops a.tmps)=true
  ·rw[if_pos hw] at h1 ⊢
   simp only[Bool.false_eq_true,if_false] at h1
   exact .inl (aEj (fun a' w' hh=>⟨hh.1,hK _ _ hh.1 hh.2⟩) (fun _ _ _ hh=>hh.elim) h1)
  rw[if_neg hw] at h1 ⊢
  exact ⟨hS,hK _ _ hS h1⟩
theorem bFt (hs:Region.noSelect ops=true)(hM:∀p v,M p=some v->∀w,S w->w.cell? p=some v)(hQ:∀a w,Q a w->Q' .normal a w)(hP:∀c a w,¬Q' (.panic c) a w) :
  ∀(t:PT) (m:Nat) (listed:Array Bool) (fuel:Nat) (a:Act) (w:World),Rel ops listed m->planT ops (dataOf ops) t m=true->t.dep<=fuel->S w->
   wt P S M ops Q t a w->wpAnyH P .any ops Q' S fuel listed a w:=by
 intro t
 have lt:∀{i:Nat},okB ops i=true->i<ops.size:=fun {i} h=>by
  simp only[okB,Bool.and_eq_true] at h
  obtain ⟨o,ho⟩:=Option.isSome_iff_exists.1 h.1
  exact (Array.getElem?_eq_some_iff.1 ho).1
 induction t with
 | leaf=>
  intro m listed fuel a w hr hp hf hS h
  simp only[planT] at hp
  refine wpAnyH_done ?_ (hQ _ _ h) fuel
  apply List.eq_nil_iff_forall_not_mem.2
  intro j hj
  obtain ⟨_,oj,hoj,_⟩:=mem_ready.1 hj
  have hjlt:j<ops.size:=(Array.getElem?_eq_some_iff.1 hoj).1
  have hl:(dataOf ops).length=ops.size:=by
   have hh:∀(all l:List OBits) (k:Nat),(clashes all l k).length=l.length:=by
    intro all l
    induction l with
    | nil=>intro k;rfl
    | cons x l ih=>intro k;simp[clashes,ih]
   simp[dataOf,hh]
  rw[hl] at hp
  have hb:=aIu hp (t:=j) (by rw[Nat.testBit_two_pow_sub_one];simpa using hjlt)
  have:=((aFg hr hoj).1 hj).1
  rw[hb] at this;cases this
 | q i t ih=>
  intro m listed fuel a w hr hp hf hS h
  obtain ⟨fuel,rfl⟩:∃k,fuel=k+1:=⟨fuel-1,by simp only[PT.dep] at hf;omega⟩
  simp only[PT.dep,Nat.add_le_add_iff_right] at hf
  simp only[planT,Bool.and_eq_true] at hp
  obtain ⟨⟨h1,h2⟩,h3⟩:=hp
  have hi:=lt h2
  have hoi:ops[i]? = some ops[i]:=Array.getElem?_eq_getElem hi
  rw[aFz hoi] at h1
  simp only[Bool.and_eq_true,Bool.not_eq_true'] at h1
  obtain ⟨⟨g1,g2⟩,g3⟩:=h1
  have hw1:=aBl (ops:=ops) (Q:=wt P S M ops Q t) hM [(true,i)] a w (bDi h2) h
  simp only[wl,hoi] at hw1
  have hrd:=(aFg hr hoi).2 ⟨g1,g2⟩
  have hfr:=bBn hr hoi g3
  by_cases hw:Region.wanted ops[i] (yielded ops a.tmps)=true
  ·rw[if_pos hw,if_pos trivial] at hw1
   obtain ⟨v,hv,hk⟩:=hw1
   exact wpAnyH_take hoi hs hfr (by simpa using hrd) (fun c a w hh=>absurd hh (hP _ _ _)) (.inl ⟨hw,fun w hw'=>hv w _ _ _ _ hw'⟩) hS (ih _ _ fuel _ w (hr.set hi) h3 hf hS hk)
  rw[if_neg hw] at hw1
  exact wpAnyH_take hoi hs hfr (by simpa using hrd) (fun c a w hh=>absurd hh (hP _ _ _)) (.inr ⟨by simpa using hw,rfl⟩) hS (ih _ _ fuel _ w (hr.set hi) h3 hf hS hw1)
 | b i t ih=>
  intro m listed fuel a w hr hp hf hS h
  obtain ⟨fuel,rfl⟩:∃k,fuel=k+1:=⟨fuel-1,by simp only[PT.dep] at hf;omega⟩
  simp only[PT.dep,Nat.add_le_add_iff_right] at hf
  simp only[planT,Bool.and_eq_true] at hp
  obtain ⟨⟨h1,h2⟩,h3⟩:=hp
  unfold okN at h2
  split at h2
  ·rename_i o hoi
   rw[aFz hoi] at h1
   simp only[Bool.and_eq_true,Bool.not_eq_true'] at h1
   obtain ⟨⟨g1,g2⟩,g3⟩:=h1
   have hi:i<ops.size:=(Array.getElem?_eq_some_iff.1 hoi).1
   have hrd:=(aFg hr hoi).2 ⟨g1,g2⟩
   have hfr:=bBn hr hoi g3
   have hg:o.guard=none:=by simpa using h2
   have ho':ops.toList[i]? = some o:=by simpa using hoi
   simp only[wt,bq,cmp1,ho'] at h
   obtain ⟨v,hv,hk⟩:=h
   exact wpAnyH_take hoi hs hfr (by simpa using hrd) (fun c a w hh=>absurd hh (hP _ _ _)) (.inl ⟨by simp[Region.wanted,hg],fun w hw'=>hv w _ _ _ _ hw'⟩) hS (ih _ _ fuel _ w (hr.set hi) h3 hf hS hk)
  cases h2
 | one i t ih=>
  intro m listed fuel a w hr hp hf hS h
  obtain ⟨fuel,rfl⟩:∃k,fuel=k+1:=⟨fuel-1,by simp only[PT.dep] at hf;omega⟩
  simp only[PT.dep,Nat.add_le_add_iff_right] at hf
  simp only[planT,Bool.and_eq_true] at hp
  obtain ⟨⟨⟨h1,h2⟩,h3⟩,h4⟩:=hp
  refine wpAnyH_all rfl (fun e=>by have:=aNf hr h1;rw[e] at this;cases this) fun j hj=>?_
  have hjl:=aHf hr h2 hj
  obtain rfl:j=i:=by simpa using hjl
  exact aJk hM h3 hS h fun a' w' hS' hC=>ih _ _ fuel _ w' (hr.set (lt h3)) h4 hf hS' hC
 | two i t j u ih1 ih2=>
  intro m listed fuel a w hr hp hf hS h
  obtain ⟨fuel,rfl⟩:∃k,fuel=k+1:=⟨fuel-1,by simp only[PT.dep] at hf;omega⟩
  simp only[PT.dep,Nat.add_le_add_iff_right] at hf
  simp only[planT,Bool.and_eq_true] at hp
  obtain ⟨⟨⟨⟨⟨h1,h2⟩,h3⟩,h4⟩,h5⟩,h6⟩:=hp
  refine wpAnyH_all rfl (fun e=>by have:=aNf hr h1;rw[e] at this;cases this) fun x hx=>?_
  have hxl:=aHf hr h2 hx
  rcases (by simpa using hxl:x=i\/x=j) with rfl | rfl
  ·exact aJk hM h3 hS h.1 fun a' w' hS' hC=>ih1 _ _ fuel _ w' (hr.set (lt h3)) h5 (by omega) hS' hC
  exact aJk hM h4 hS h.2 fun a' w' hS' hC=>ih2 _ _ fuel _ w' (hr.set (lt h4)) h6 (by omega) hS' hC
 | three i t j u k v ih1 ih2 ih3=>
  intro m listed fuel a w hr hp hf hS h
  obtain ⟨fuel,rfl⟩:∃k,fuel=k+1:=⟨fuel-1,by simp only[PT.dep] at hf;omega⟩
  simp only[PT.dep,Nat.add_le_add_iff_right] at hf
  simp only[planT,Bool.and_eq_true] at hp
  obtain ⟨⟨⟨⟨⟨⟨⟨h1,h2⟩,h3⟩,h4⟩,h5⟩,h6⟩,h7⟩,h8⟩:=hp
  refine wpAnyH_all rfl (fun e=>by have:=aNf hr h1;rw[e] at this;cases this) fun x hx=>?_
  have hxl:=aHf hr h2 hx
  rcases (by simpa using hxl:x=i\/x=j\/x=k) with rfl | rfl | rfl
  ·exact aJk hM h3 hS h.1 fun a' w' hS' hC=>ih1 _ _ fuel _ w' (hr.set (lt h3)) h6 (by omega) hS' hC
  ·exact aJk hM h4 hS h.2.1 fun a' w' hS' hC=>ih2 _ _ fuel _ w' (hr.set (lt h4)) h7 (by omega) hS' hC
  exact aJk hM h5 hS h.2.2 fun a' w' hS' hC=>ih3 _ _ fuel _ w' (hr.set (lt h5)) h8 (by omega) hS' hC
end
def planChkT (ops:Array Oper)(t:PT):Bool:=Region.noSelect ops && Nat.ble t.dep ops.size && planT ops (dataOf ops) t 0
theorem aAv {P:Program}{ops:Array Oper}{id:Nat} {Q':Exit->Act->World->Prop}{a:Act}{w:World}(S:World->Prop)(t:PT)(hm:P.follows .mixedOrders=true)
  (hc:planChkT ops t=true)
  (hS:S w.drew)
  (h:∀(T:World->Prop) (M:Addr->Option Value) (Q:Act->World->Prop),(∀w,S w->T w)->(∀w,T w->S w)->(∀p v,(∀w,S w->w.cell? p=some v)->M p=some v)->(∀a w,Q' .normal a w->Q a w)->wt P T M ops Q t a w.drew) :
  (Code.region id ops true).wp P Q' a w:=by
 simp only[planChkT,Bool.and_eq_true,Nat.ble_eq] at hc
 obtain ⟨⟨c1,c2⟩,c3⟩:=hc
 have hM:∀p v,(Classical.epsilon fun o:Option Value=>∀v,o=some v↔∀w,S w->w.cell? p=some v)=some v↔∀w,S w->w.cell? p=some v:=by
  intro p
  have hex:∃o:Option Value,∀v,o=some v↔∀w,S w->w.cell? p=some v:=by
   by_cases hx:∃v,∀w,S w->w.cell? p=some v
   ·obtain ⟨v,hv⟩:=hx
    refine ⟨some v,fun u=>⟨fun e=>(by cases e;exact hv),fun hu=>?_⟩⟩
    have h1:=hv _ hS
    rw[hu _ hS] at h1
    exact h1.symm
   exact ⟨none,fun u=>⟨fun e=>(by cases e),fun hu=>absurd ⟨u,hu⟩ hx⟩⟩
  exact Classical.epsilon_spec hex
 refine wp_region_noPanic (wp_region_held (S:=S) hm ?_)
 exact bFt (M:=fun p=>Classical.epsilon fun o:Option Value=>∀v,o=some v↔∀w,S w->w.cell? p=some v) c1
  (fun p v h=>(hM p v).1 h) (fun _ _ h=>NoPanic.normal h) (fun c a w h=>h) t 0 _ _ _ _ ⟨by simp,fun j hj=>by simp[hj],fun j _=>by simp⟩ c3 c2 hS
  (h S _ _ (fun _ h=>h) (fun _ h=>h) (fun p v h=>(hM p v).2 h) (fun _ _ h=>h))
theorem bIo {P:Program}{S:World->Prop}{a:Act}{w:World}{K:Act->World->Prop}{x:QOp}{v:Value}
  (hv:∀(p:String) (af:Array Edge) (g:Option (Nat×Bool)),(execOp a.eval ⟨x.dst,x.op,x.type,p,af,g⟩).run P w=.ok (.value v) w) (hK:S w/\K (a.put x.dst v) w) :
  effq P S x a w K:=by
 intro p af g
 unfold Oper.wp
 rw[hv]
 exact hK
theorem aRr {P:Program}{S:World->Prop}{a:Act} {w w':World}{K:Act->World->Prop}{x:QOp}{v:Value}
  (hv:∀(p:String) (af:Array Edge) (g:Option (Nat×Bool)),(execOp a.eval ⟨x.dst,x.op,x.type,p,af,g⟩).run P w=.ok (.value v) w') (hK:S w'/\K (a.put x.dst v) w') :
  effq P S x a w K:=by
 intro p af g
 unfold Oper.wp
 rw[hv]
 exact hK
section
variable {P:Program} {S:World->Prop} {M:Addr->Option Value} {ops:Array Oper} {Q:Act->World->Prop} {i j k:Nat} {t u v:PT} {a:Act} {w:World}
theorem aLm:wt P S M ops Q .leaf a w=Q a w:=rfl
theorem wt_q:wt P S M ops Q (.q i t) a w=wq P S M (wt P S M ops Q t) [cmp1 ops true i] a w:=rfl
theorem wt_b:wt P S M ops Q (.b i t) a w=bq P S (cmp1 ops true i) a (wt P S M ops Q t) w:=rfl
theorem aAl:wt P S M ops Q (.one i t) a w=wq P S M (wt P S M ops Q t) [cmp1 ops false i] a w:=rfl
theorem aBb:wt P S M ops Q (.two i t j u) a w=(wq P S M (wt P S M ops Q t) [cmp1 ops false i] a w/\wq P S M (wt P S M ops Q u) [cmp1 ops false j] a w):=rfl
theorem aDy (h:∀O,(∀q i,cmp1 O q i=cmp1 ops q i)->wt P S M O Q t a w):wt P S M ops Q t a w:=h ops fun _ _=>rfl
end
theorem aBp {P:Program}{S:World->Prop}{a:Act}{w:World}{K:Act->World->Prop}{dst:Option Tmp}{t ty:TypeId}{parts:Array (Nat×Operand)}{q:Bool}{g:Option (Tmp×Bool)}{vs:Array (Nat×Value)}{v:Value}
  (hv:(parts.toList.map fun p=>(p.1,a.eval p.2)).toArray=vs) (hr:∀w,(Instr.build t vs).run P w=.ok v w) (hK:K (a.put dst v) w):bq P S ⟨q,dst,.build t parts,ty,g⟩ a K w:=by
 refine ⟨v,fun w d p af g _=>?_,hK⟩
 have hv':(parts.map fun p=>(p.1,a.eval p.2))=vs:=by rw[<-hv];apply Array.toList_inj.1;simp
 unfold execOp
 simp only[hv',hr,Sem.run_bind,Sem.run_pure,Result.andThen_ok]
theorem aAs {P:Program}{S:World->Prop}{a:Act}{w:World}{K:Act->World->Prop}{dst:Option Tmp}{t ty:TypeId}{x y:Operand}{q:Bool}{gd:Option (Tmp×Bool)}{g:Nat}{cells old:Array Value}{e:TypeId}
  (hx:a.eval x=.pointer (some ⟨g,0,none⟩)) (hy:a.eval y=.agg cells) (hg:w.heap[g]? = some (.cells old e (0,0))) (hi:(P.info? t).map (·.size)=some cells.size)
  (hold:old.size=cells.size) (h1:cells.all (·.oneCell')=true) (hK:S (w.setRow g cells)/\K (a.put dst undef) (w.setRow g cells)) :
  effq P S ⟨q,dst,.store t x y,ty,gd⟩ a w K:=fun _p _af _g'=>wp_store_row t x y rfl g cells hx hy e old hg hi hold h1 hK
section
variable {α:Type}
def lall2 (eq:α->α->Bool):List α->List α->Bool
 | [],[]=>true
 | x::xs,y::ys=>eq x y && lall2 eq xs ys
 | _,_=>false
variable {eq:α->α->Bool}
theorem aSj:∀{xs ys:List α},xs.length≠ys.length->lall2 eq xs ys=false
 | [],[],h=>absurd rfl h
 | [],_::_,_=>rfl
 | _::_,[],_=>rfl
 | x::xs,y::ys,h=>by rw[lall2,aSj (xs:=xs) (ys:=ys) (by simpa using h),Bool.and_false]
theorem aQr:∀{xs ys:List α} {k:Nat} {x y:α},xs[k]? = some x->ys[k]? = some y->eq x y=false->lall2 eq xs ys=false
 | a::xs,b::ys,0,x,y,h1,h2,h=>by
  simp at h1 h2;subst h1;subst h2;rw[lall2,h,Bool.false_and]
 | a::xs,b::ys,k+1,x,y,h1,h2,h=>by
  simp at h1 h2;rw[lall2,aQr h1 h2 h,Bool.and_false]
 | [],_,k,x,y,h1,_,_=>by simp at h1
 | _::_,[],k,x,y,_,h2,_=>by simp at h2
def EqTo (eq:α->α->Bool)(xs ys:List α)(k:Nat):Prop:=∀j x y,j<k->xs[j]? = some x->ys[j]? = some y->eq x y=true
theorem EqTo.next {xs ys:List α}{k:Nat}{x y:α}(h:EqTo eq xs ys k)(hx:xs[k]? = some x)(hy:ys[k]? = some y)(he:eq x y=true):EqTo eq xs ys (k+1):=by
 intro j a b hj ha hb
 by_cases e:j=k
 ·subst e;rw[hx] at ha;rw[hy] at hb;injection ha with ha;injection hb with hb;subst ha;subst hb;exact he
 exact h j a b (by omega) ha hb
theorem EqTo.done:∀{xs ys:List α} {n:Nat},EqTo eq xs ys n->xs.length=n->ys.length=n->lall2 eq xs ys=true
 | [],[],_,_,_,_=>rfl
 | [],_::_,_,_,h1,h2=>by subst h1;simp at h2
 | _::_,[],_,_,h1,h2=>by subst h1;simp at h2
 | x::xs,y::ys,n,h,h1,h2=>by
  simp only[List.length_cons] at h1 h2
  rw[lall2,h 0 x y (by omega) rfl rfl,EqTo.done (xs:=xs) (ys:=ys) (n:=n-1) (fun j a b hj ha hb=>h (j+1) a b (by omega) (by simpa using ha) (by simpa using hb)) (by omega) (by omega)];rfl
theorem aXy [DecidableEq α]:∀(xs ys:List α),lall2 (fun x y=>decide (x=y)) xs ys=decide (xs=ys)
 | [],[]=>by simp[lall2]
 | [],_::_=>by simp[lall2]
 | _::_,[]=>by simp[lall2]
 | x::xs,y::ys=>by rw[lall2,aXy xs ys];by_cases h:x=y<;>simp[h]
end
theorem FV.eq_iff {x y:FV}:x=y↔x.path=y.path/\x.exec=y.exec/\x.text=y.text:=by
 cases x;cases y;simp
theorem bBa (x y:FV)(w:World):(Op.equalIn 10000 48 (.agg #[.string x.path,.bool x.exec,.string x.text]) (.agg #[.string y.path,.bool y.exec,.string y.text])).run Tryz.prog w=.ok (decide (x=y)) w:=by
 by_cases h_path:x.path=y.path
 case neg=>rw[decide_eq_false (fun e=>h_path (by rw[e]))];have hn2:¬x.path.toList=y.path.toList:=beq_eq_false_iff_ne.1 (aBw h_path);go_simp<;>simp_all
 by_cases h_exec:x.exec=y.exec
 case neg=>rw[decide_eq_false (fun e=>h_exec (by rw[e]))];go_simp<;>simp_all
 by_cases h_text:x.text=y.text
 case neg=>rw[decide_eq_false (fun e=>h_text (by rw[e]))];have hn2:¬x.text.toList=y.text.toList:=beq_eq_false_iff_ne.1 (aBw h_text);go_simp<;>simp_all
 rw[decide_eq_true (FV.eq_iff.2 ⟨h_path,h_exec,h_text⟩)];go_simp<;>simp_all
theorem aVr (x y:FV)(w:World):Calls Tryz.prog 50 #[.agg #[.string x.path,.bool x.exec,.string x.text],.agg #[.string y.path,.bool y.exec,.string y.text]] w (BoolBelow (decide (x=y)) w):=by
 have hb:∀o1 o2:Obj,Below w.heap.size w ((w.alloc o1).alloc o2):=fun o1 o2=>((Below.refl _ _).alloc (Nat.le_refl _) _).alloc (by simp) _
 cases hd:decide (x=y) with
 | true=>
  obtain rfl:=of_decide_eq_true hd
  clear hd
  go_enter Tryz.func50,Tryz.ntmps50
  go_wp2
  go_ret
  exact ⟨rfl,hb _ _⟩
 | false=>
  have he:=of_decide_eq_false hd
  clear hd
  by_cases h_path:x.path=y.path
  case neg=>
   have hn2:¬x.path.toList=y.path.toList:=beq_eq_false_iff_ne.1 (aBw h_path)
   clear he
   go_enter Tryz.func50,Tryz.ntmps50
   go_wp2
   go_ret
   exact ⟨rfl,hb _ _⟩
  have e_path:=h_path
  by_cases h_exec:x.exec=y.exec
  case neg=>
   clear he
   go_enter Tryz.func50,Tryz.ntmps50
   go_wp2
   go_ret
   exact ⟨rfl,hb _ _⟩
  have e_exec:=h_exec
  by_cases h_text:x.text=y.text
  case neg=>
   have hn2:¬x.text.toList=y.text.toList:=beq_eq_false_iff_ne.1 (aBw h_text)
   clear he
   go_enter Tryz.func50,Tryz.ntmps50
   go_wp2
   go_ret
   exact ⟨rfl,hb _ _⟩
  have e_text:=h_text
  exact absurd (FV.eq_iff.2 ⟨h_path,h_exec,h_text⟩) he
theorem bCp {G:FuncId}{A B:Option Addr}{n ca m cb:Nat}{xs ys:List FV}{w:World}(eq:FV->FV->Bool)(hn:n<=17592186044416)(hm:m<=17592186044416)
  (ha:Rd w w.heap.size 3 A n ca (xs.flatMap FV.cells)) (hb:Rd w w.heap.size 3 B m cb (ys.flatMap FV.cells)) (hxl:xs.length=n) (hyl:ys.length=m) (hG:isGo Tryz.prog G=true)
  (HC:∀x∈xs,∀y∈ys,∀v,Below w.heap.size w v->Calls Tryz.prog G #[.agg #[.string x.path,.bool x.exec,.string x.text],.agg #[.string y.path,.bool y.exec,.string y.text]] v (BoolBelow (eq x y) v)) :
  Calls Tryz.prog 49 #[.slice A n ca,.slice B m cb,.func (.func G) #[] #[]] w (BoolBelow (lall2 eq xs ys) w):=by
 have HX:=hid hxl
 have HY:=hid hyl
 by_cases h:n=m
 ·subst h
  go_enter Tryz.func49,Tryz.ntmps49
  go_wp2
  go_loopw[7] (fun i wr=>∃k:Nat,k<=n/\i=.int .i64 k/\Below w.heap.size w wr/\Hid (EqTo eq xs ys k)) (fun i _=>n-(intOf i).toNat)
  case atStart=>exact ⟨0,Nat.zero_le _,rfl,Below.refl _ _,fun j _ _ hj=>absurd hj (Nat.not_lt_zero _)⟩
  obtain ⟨k,hk,rfl,hbw,hj⟩:=hrel
  by_cases hlt:k<n
  ·obtain ⟨b0,o0,u,eA,hb0,hx,hxm,p⟩:=T.rd_flat FV.cells_len (by omega) ha HX.out hlt
   obtain ⟨b1,o1,v,eB,hb1,hy,hym,r⟩:=T.rd_flat FV.cells_len (by omega) hb HY.out hlt
   cases eA
   cases eB
   have HU:=hid hx
   have HV:=hid hy
   clear hx hy
   have hbs:=hbw.size
   have C:=HC u hxm v hym
   go_wp2
   refine aAh (fun w'=>Below w.heap.size w w') (qe [9] 11) mixed (by kernel_rfl) hbw.drew ?_
   intro T M Q hT hT' hM hQ
   have mp:∀j v,(FV.cells u)[j]? = some v->M ⟨b0,o0+k*3+j,none⟩=some v:=fun j v hv=>hM _ _ fun w' hw=>(hw.cell (p:=⟨b0,o0+k*3+j,none⟩) (by show b0<_;omega)).trans (p j v hv)
   have mr:∀j x,(FV.cells v)[j]? = some x->M ⟨b1,o1+k*3+j,none⟩=some x:=fun j v hv=>hM _ _ fun w' hw=>(hw.cell (p:=⟨b1,o1+k*3+j,none⟩) (by show b1<_;omega)).trans (r j v hv)
   have m0:M ⟨b0,o0+k*3,none⟩=some (.string u.path):=mp 0 _ rfl
   have q0:M ⟨b1,o1+k*3,none⟩=some (.string v.path):=mr 0 _ rfl
   have m1:M ⟨b0,o0+k*3+1,none⟩=some (.bool u.exec):=mp 1 _ rfl
   have q1:M ⟨b1,o1+k*3+1,none⟩=some (.bool v.exec):=mr 1 _ rfl
   have m2:M ⟨b0,o0+k*3+2,none⟩=some (.string u.text):=mp 2 _ rfl
   have q2:M ⟨b1,o1+k*3+2,none⟩=some (.string v.text):=mr 2 _ rfl
   clear hM mp mr p r
   simp only[qcmp,Nat.reduceBEq]
   simp (maxSteps:=9^7) only[↓qpre,aAb,aAe,aAc,m0,q0,m1,q1,m2,q2]
   refine ⟨⟨by omega,by omega⟩,⟨by omega,by omega⟩,aAi hG (C _ hbw.drew) rfl rfl ?_⟩
   rintro e w1 ⟨rfl,hb1⟩
   have hbd:Below w.heap.size w w1:=hbw.drew.trans (hb1.mono hbs)
   refine ⟨_,rfl,hT _ hbd,?_⟩
   simp (maxSteps:=9^7) only[↓qpre,aAb,aAc]
   refine hQ _ _ ?_
   clear hQ hT hT' m0 q0 m1 q1 m2 q2 C
   cases he:eq u v with
   | true=>
    have HO:=hid (hj.out.next HU.out HV.out he)
    clear he
    go_wp2
    go_roundw
    case rel=>exact ⟨k+1,by omega,by go_num,hbd,HO.out⟩
    simp[intOf];omega
   | false=>
    have HO:=hid (aQr HU.out HV.out he)
    clear he
    go_wp2
    go_ret
    exact ⟨aAf HO.out.symm,hbd⟩
  obtain rfl:k=n:=by omega
  have HO:=hid (hj.out.done HX.out HY.out)
  go_wp2
  go_ret
  exact ⟨aAf HO.out.symm,hbw⟩
 obtain ⟨h1,h2⟩:=aFf (u:=(n:Int)) (v:=(m:Int)) (by omega)
 have HO:=hid (aSj (eq:=eq) (xs:=xs) (ys:=ys) (by rw[HX.out,HY.out];exact h))
 go_enter Tryz.func49,Tryz.ntmps49
 go_wp2
 go_ret
 exact ⟨aAf HO.out.symm,Below.refl _ _⟩
theorem aZu {A B:Option Addr}{n ca m cb:Nat}{xs ys:List FV}{w:World}(hn:n<=17592186044416)(hm:m<=17592186044416)
  (ha:Rd w w.heap.size 3 A n ca (xs.flatMap FV.cells)) (hb:Rd w w.heap.size 3 B m cb (ys.flatMap FV.cells)) (hxl:xs.length=n) (hyl:ys.length=m) :
  Calls Tryz.prog 18 #[.slice A n ca,.slice B m cb] w (BoolBelow (decide (xs=ys)) w):=by
 have C:=bCp (G:=50) (fun x y=>decide (x=y)) hn hm ha hb hxl hyl (by kernel_rfl) fun x _ y _ v _=>aVr x y v
 rw[aXy] at C
 go_enter Tryz.func18,Tryz.ntmps18
 go_wp2_with fail
 refine C.mono ?_
 rintro e w1 ⟨rfl,hb1⟩
 go_wp2
 go_ret
 exact ⟨rfl,hb1⟩
def PlaceF (q:FV->Bool)(l:List FV)(w:World)(e:Ending) (w':World):Prop:=
 ∃k:Int,e=.returned (.int .i64 k)/\((k=-1/\∀f∈l,q f=false)\/∃(j:Nat) (f:FV),k=j/\FirstAt q l j f)/\Below w.heap.size w w'
def isP (p:ByteArray)(f:FV):Bool:=decide (f.path=p)
def aboveP (p:ByteArray)(f:FV):Bool:=decide (p.data.toList<f.p)
theorem aAj {B g:Nat}{w w1:World}{cs:Array Value}(h:Below B w w1)(hg:B<=g):Below B w (w1.setRow g cs):=
 ⟨h.os,h.tape,h.output,by have:=h.size;simpa[World.setRow] using this,fun k hk=>by rw[setRow_other _ _ _ _ (fun e=>by omega)];exact h.block k hk⟩
theorem bJr {f:FV}{g:Nat}{p:ByteArray}{w:World}(hg:w.cell? ⟨g,0,none⟩=some (.string p))(hgl:g<w.heap.size) :
  Calls Tryz.prog 213 #[.agg #[.string f.path,.bool f.exec,.string f.text],.pointer (some ⟨g,0,none⟩)] w (BoolBelow (isP p f) w):=by
 have hbd:Below w.heap.size w (w.alloc (.cells #[.string f.path,.bool f.exec,.string f.text] 48)):=(Below.refl _ _).alloc (Nat.le_refl _) _
 have h1:(w.alloc (.cells #[.string f.path,.bool f.exec,.string f.text] 48)).cell? ⟨g,0,none⟩=some (.string p):=(hbd.cell (p:=⟨g,0,none⟩) hgl).trans hg
 by_cases h:f.path=p
 ·have HO:=hid (show isP p f=true by simp[isP,h])
  have e1:(f.path.toList == p.toList)=true:=by rw[h];exact beq_self_eq_true _
  clear h
  go_enter Tryz.func213,Tryz.ntmps213
  go_wp2
  go_ret
  exact ⟨aAf HO.out.symm,hbd⟩
 have HO:=hid (show isP p f=false by simp[isP,h])
 have e1:=aBw h
 clear h
 go_enter Tryz.func213,Tryz.ntmps213
 go_wp2
 go_ret
 exact ⟨aAf HO.out.symm,hbd⟩
theorem bJp {A:Option Addr}{n c g:Nat}{l:List FV}{p:ByteArray}{w:World}(hn:n<=17592186044416)(h:RdF w w.heap.size A n c l)(hg:w.cell? ⟨g,0,none⟩=some (.string p))(hgl:g<w.heap.size) :
  Calls Tryz.prog 188 #[.slice A n c,.func (.func 213) #[] #[.pointer (some ⟨g,0,none⟩)]] w (PlaceF (isP p) l w):=by
 have HL:=hid h.len
 go_enter Tryz.func188,Tryz.ntmps188
 go_wp2
 go_loopw[5,8] (fun _ i wr=>∃k:Nat,k<=n/\i=.int .i64 k/\Below w.heap.size w wr/\Hid (∀j g,j<k->l[j]? = some g->(isP p) g=false)) (fun _ i _=>n-(intOf i).toNat)
 case atStart=>exact ⟨0,Nat.zero_le _,rfl,Below.refl _ _,fun j g hj=>absurd hj (Nat.not_lt_zero _)⟩
 obtain ⟨k,hk,rfl,hb,hj⟩:=hrel
 by_cases hlt:k<n
 ·obtain ⟨b0,o0,f,rfl,hbb,hx,hfm,h0,h1,h2⟩:=h.get hlt
  replace h0:=(hb.cell (p:=⟨b0,o0+k*3,none⟩) (by show b0<_;omega)).trans h0
  replace h1:=(hb.cell (p:=⟨b0,o0+k*3+1,none⟩) (by show b0<_;omega)).trans h1
  replace h2:=(hb.cell (p:=⟨b0,o0+k*3+2,none⟩) (by show b0<_;omega)).trans h2
  have HX:=hid hx
  have C:=bJr (f:=f) (w:=wr) ((hb.cell (p:=⟨g,0,none⟩) hgl).trans hg) (Nat.lt_of_lt_of_le hgl hb.size)
  clear hx
  cases hq:(isP p) f with
  | true=>
   rw[hq] at C
   have HQ:=hid (show FirstAt (isP p) l k f from ⟨HX.out,hq,hj.out⟩)
   clear hq
   go_wp2_with fail
   refine C.mono ?_
   rintro e w1 ⟨rfl,hb1⟩
   have hbd:=hb.trans (hb1.mono hb.size)
   clear C
   go_wp2
   go_ret
   exact ⟨k,rfl,.inr ⟨k,f,rfl,HQ.out⟩,hbd⟩
  | false=>
   rw[hq] at C
   have HQ:=hid (show ∀j g,j<k+1->l[j]? = some g->(isP p) g=false from fun j x hj' hx=>by
    by_cases e:j=k
    ·subst e;rw[HX.out] at hx;injection hx with hx;subst hx;exact hq
    exact hj.out j x (by omega) hx)
   clear hq
   go_wp2_with fail
   refine C.mono ?_
   rintro e w1 ⟨rfl,hb1⟩
   have hbd:=hb.trans (hb1.mono hb.size)
   clear C
   go_wp2
   go_roundw
   case rel=>exact ⟨k+1,by omega,by go_num,hbd,HQ.out⟩
   simp[intOf];omega
 have hkn:k=n:=by omega
 subst hkn
 have HO:=hid (show ∀f∈l,(isP p) f=false from fun f hf=>by
  obtain ⟨i,hi,rfl⟩:=List.getElem_of_mem hf
  exact hj.out i _ (by have:=HL.out;omega) (List.getElem?_eq_getElem hi))
 go_wp2
 go_ret
 exact ⟨-1,rfl,.inl ⟨rfl,HO.out⟩,hb⟩
theorem aYl {A:Option Addr}{n c:Nat}{l:List FV}{p:ByteArray}{w:World}(hn:n<=17592186044416)(h:RdF w w.heap.size A n c l) :
  Calls Tryz.prog 176 #[.slice A n c,.string p] w (PlaceF (isP p) l w):=by
 have hb:Below w.heap.size w (w.alloc (.cells #[.string p] 9)):=(Below.refl _ _).alloc (Nat.le_refl _) _
 have hg:(w.alloc (.cells #[.string p] 9)).cell? ⟨w.heap.size,0,none⟩=some (.string p):=(cell_of_row _ _ _ _ _ _ (heap_alloc_new _ _)).trans rfl
 have C:=bJp hn (h.to hb hb.size) hg (by simp)
 go_enter Tryz.func176,Tryz.ntmps176
 go_wp2_with fail
 refine C.mono ?_
 rintro e w1 ⟨k,rfl,h1,hb1⟩
 have H1:=hid h1
 clear h1 C
 go_wp2
 go_ret
 exact ⟨k,rfl,H1.out,hb.trans (hb1.mono hb.size)⟩
theorem aAm {P:Program}{fn:Func}{p u:Tmp}{ty:TypeId}(h:fn.results=#[.cell p ty,.tmp u])(tmps:Array Value)(w:World)(g:Nat)(t:TypeId)(cs:Array Value)(fr:Nat×Nat)(d:TypeDesc)
  (hp:tmps.getD p undef=.pointer (some ⟨g,0,none⟩)) (hg:w.heap[g]? = some (.cells cs t fr))
  (hu:P.underlying ty=some d) (hd:(match d with | .struct _ | .array _ _=>true | _=>false)=true) (hi:(P.info? ty).map (·.size)=some cs.size) :
  (results fn tmps).run P w=.ok (.tuple #[.agg cs,tmps.getD u undef]) w:=by
 rw[results_cell_tmp h,hp]
 simp[asAddr,run_loadVar_row w g t ty cs fr d hg hu hd hi]
def zF:FV:=⟨⟨#[]⟩,false,⟨#[]⟩⟩
def optF (o:Option FV):FV:=o.getD zF
def FoundIs (o:Option FV)(w:World)(e:Ending) (w':World):Prop:=e=.returned (.tuple #[.agg #[.string (optF o).path,.bool (optF o).exec,.string (optF o).text],.bool o.isSome])/\Below w.heap.size w w'
theorem aHn (w:World):(Instr.build 48 #[]).run Tryz.prog w=.ok (.agg #[.string ⟨#[]⟩,.bool false,.string ⟨#[]⟩]) w:=by
 go_simp
theorem aHj {A:Option Addr}{n c:Nat}{l:List FV}{p:ByteArray}{w:World}(hn:n<=17592186044416)(h:RdF w w.heap.size A n c l) :
  Calls Tryz.prog 154 #[.slice A n c,.string p] w (FoundIs (findP l p) w):=by
 have hb:∀o,Below w.heap.size w (w.alloc o):=fun o=>(Below.refl _ _).alloc (Nat.le_refl _) _
 have C:∀o,Calls Tryz.prog 176 #[.slice A n c,.string p] (w.alloc o) (PlaceF (isP p) l (w.alloc o)):=fun o=>aYl hn (h.to (hb o) (hb o).size)
 go_enter Tryz.func154,Tryz.ntmps154
 go_wp2_with fail
 refine (C _).mono ?_
 rintro e w1 ⟨k,rfl,h1,hb1⟩
 have hbd:=(hb _).trans (hb1.mono (hb _).size)
 have hbox:w1.heap[w.heap.size]? = some (.cells #[.string ⟨#[]⟩,.bool false,.string ⟨#[]⟩] 48 (0,0)):=(hb1.block _ (by simp)).trans (heap_alloc_new _ _)
 have HR:=hid (show ∀cs,(w1.setRow w.heap.size cs).heap[w.heap.size]? = some (.cells cs 48 (0,0)) from fun cs=>setRow_heap _ _ _ _ _ _ hbox)
 have hz:=aHn w1
 have hi24:(Tryz.prog.info? 48).map (·.size)=some 3:=by kernel_rfl
 clear C hb1
 rcases h1 with ⟨rfl,hno⟩ | ⟨j,f,rfl,hf⟩
 ·have HO:=hid (aWx (p:=p) hno).1
  have c0:=cell_of_row _ _ 0 _ _ _ (HR.out #[.string ⟨#[]⟩,.bool false,.string ⟨#[]⟩])
  have c1:=cell_of_row _ _ 1 _ _ _ (HR.out #[.string ⟨#[]⟩,.bool false,.string ⟨#[]⟩])
  have c2:=cell_of_row _ _ 2 _ _ _ (HR.out #[.string ⟨#[]⟩,.bool false,.string ⟨#[]⟩])
  clear hno
  go_wp2_with (refine wpList_store_row rfl 48 (.tmp 4) (.tmp 12) rfl w.heap.size #[.string ⟨#[]⟩,.bool false,.string ⟨#[]⟩] rfl rfl _ _ hbox hi24 rfl (by simp[Value.oneCell']) ?_)
  try simp only[Exit.inBlock,Exit.then]
  refine bodyPost_ret (aAm rfl _ _ w.heap.size _ _ (0,0) _ rfl (HR.out _) Tryz.underlying48 rfl (by kernel_rfl)) rfl ?_
  refine ⟨?_,aAj hbd (Nat.le_refl _)⟩
  rw[HO.out];rfl
 have hj:j<n:=by have:=(List.getElem?_eq_some_iff.1 hf.1).1;rw[h.len] at this;exact this
 obtain ⟨b0,o0,f',rfl,hbb,hx,hfm,h0,h1,h2⟩:=h.get hj
 obtain rfl:f'=f:=Option.some.inj (hx.symm.trans hf.1)
 replace h0:=(hbd.cell (p:=⟨b0,o0+j*3,none⟩) (by show b0<_;omega)).trans h0
 replace h1:=(hbd.cell (p:=⟨b0,o0+j*3+1,none⟩) (by show b0<_;omega)).trans h1
 replace h2:=(hbd.cell (p:=⟨b0,o0+j*3+2,none⟩) (by show b0<_;omega)).trans h2
 have HO:=hid (show findP l p=some f' from FirstAt.find hf)
 have c0:=cell_of_row _ _ 0 _ _ _ (HR.out #[.string f'.path,.bool f'.exec,.string f'.text])
 have c1:=cell_of_row _ _ 1 _ _ _ (HR.out #[.string f'.path,.bool f'.exec,.string f'.text])
 have c2:=cell_of_row _ _ 2 _ _ _ (HR.out #[.string f'.path,.bool f'.exec,.string f'.text])
 clear hx hf hz
 go_wp2_with (refine wpList_store_row rfl 48 (.tmp 4) (.tmp 16) rfl w.heap.size #[.string f'.path,.bool f'.exec,.string f'.text] rfl rfl _ _ hbox hi24 rfl (by simp[Value.oneCell']) ?_)
 try simp only[Exit.inBlock,Exit.then]
 refine bodyPost_ret (aAm rfl _ _ w.heap.size _ _ (0,0) _ rfl (HR.out _) Tryz.underlying48 rfl (by kernel_rfl)) rfl ?_
 refine ⟨?_,aAj hbd (Nat.le_refl _)⟩
 rw[HO.out];rfl
end Go.Proofs.YtohblmepajhpaaaGreatDoor
