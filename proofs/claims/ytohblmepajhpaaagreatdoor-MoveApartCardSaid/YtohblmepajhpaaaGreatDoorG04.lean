/- Texts of the walks, together: Regions that draw their order and leave more than one order to their effects: a tree of orders. Lists held against each other; structs held against each other. Lists of api.File: held against each other. Walks: where a file stands, and what is found. Walks: the document's Find, without, Clashes, Sorted. -/
import Derived.Laws.Tables
import Derived.Laws.StructEq
import Derived.Laws.ResultCell
import Derived.Test.YtohblmepajhpaaaGreatDoorG03
set_option maxHeartbeats 8000000
set_option maxRecDepth 100000
open Go.Lib (hid)
namespace Go.Proofs.YtohblmepajhpaaaGreatDoor
open Go.RowKit
inductive PT
 | leaf
 | q (i:Nat) (t:PT)
 | b (i:Nat) (t:PT)
 | one (i:Nat) (t:PT)
 | two (i:Nat) (t:PT) (j:Nat) (u:PT)
 | three (i:Nat) (t:PT) (j:Nat) (u:PT) (k:Nat) (v:PT)
def PT.dep:PT->Nat
 | .leaf=>0
 | .q _ t=>t.dep+1
 | .b _ t=>t.dep+1
 | .one _ t=>t.dep+1
 | .two _ t _ u=>max t.dep u.dep+1
 | .three _ t _ u _ v=>max t.dep (max u.dep v.dep)+1
def among (m:Nat)(l:List Nat):List (Nat×Nat)->Nat->Bool
 | [],_=>true
 | x::r,j=>(l.any (Nat.beq j) || m.testBit j || !inM x.1 m) && among m l r (j+1)
def upB (D:List (Nat×Nat))(m i:Nat):Bool:=
 match D[i]? with
 | none=>false
 | some x=>!m.testBit i && inM x.1 m
def okB (ops:Array Oper)(i:Nat):Bool:=
 (ops[i]?).isSome && (match (ops[i]?).bind (·.guard) with | some (j,_)=>((ops[j]?).bind (·.dst)).isSome | none=>true)
def okN (ops:Array Oper)(i:Nat):Bool:=
 match ops[i]? with
 | some o=>o.guard.isNone
 | none=>false
def planT (ops:Array Oper)(D:List (Nat×Nat)):PT->Nat->Bool
 | .leaf,m=>inM (2 ^ D.length-1) m
 | .q i t,m=>(match D[i]? with | none=>false | some x=>!m.testBit i && inM x.1 m && inM x.2 m) && okB ops i && planT ops D t (Nat.lor m (2 ^ i))
 | .b i t,m=>(match D[i]? with | none=>false | some x=>!m.testBit i && inM x.1 m && inM x.2 m) && okN ops i && planT ops D t (Nat.lor m (2 ^ i))
 | .one i t,m=>upB D m i && among m [i] D 0 && okB ops i && planT ops D t (Nat.lor m (2 ^ i))
 | .two i t j u,m=>upB D m i && among m [i,j] D 0 && okB ops i && okB ops j && planT ops D t (Nat.lor m (2 ^ i)) && planT ops D u (Nat.lor m (2 ^ j))
 | .three i t j u k v,m=>upB D m i && among m [i,j,k] D 0 && okB ops i && okB ops j && okB ops k && planT ops D t (Nat.lor m (2 ^ i)) && planT ops D u (Nat.lor m (2 ^ j)) && planT ops D v (Nat.lor m (2 ^ k))
structure Rel (ops:Array Oper) (listed:Array Bool) (m:Nat):Prop where
 size:listed.size=ops.size
 bits:∀j,j<ops.size->listed[j]? = some (m.testBit j)
 out:∀j,ops.size<=j->m.testBit j=false
section
variable {ops:Array Oper} {listed:Array Bool} {m:Nat}
theorem Rel.set (h:Rel ops listed m){i:Nat}(hi:i<ops.size):Rel ops (listed.setIfInBounds i true) (Nat.lor m (2 ^ i)):=by
 refine ⟨by simp[h.size],fun j hj=>?_,fun j hj=>?_⟩
 ·rw[show Nat.lor m (2 ^ i)=m ||| 2 ^ i from rfl,Array.getElem?_setIfInBounds]
  by_cases hij:i=j
  ·subst hij;simp[h.size,hi,Nat.testBit_or]
  rw[if_neg hij,h.bits j hj,Nat.testBit_or,Nat.testBit_two_pow];simp[hij]
 rw[show Nat.lor m (2 ^ i)=m ||| 2 ^ i from rfl,Nat.testBit_or,Nat.testBit_two_pow,h.out j hj];simp;omega
theorem aHg (_h:Rel ops listed m)(oj:Oper):inM (obits ops oj).dep m=true↔∀e∈oj.after,Region.binds .any e=true->m.testBit e.on=true:=by
 constructor
 ·intro hh e he hbd
  refine aIb hh ?_
  simp only[obits,aAq,decide_eq_true_eq,List.mem_filterMap]
  exact ⟨e,by simpa using he,by simp[hbd]⟩
 intro hh
 refine bDr fun t ht=>?_
 simp only[obits,aAq,decide_eq_true_eq,List.mem_filterMap] at ht
 obtain ⟨e,he,hte⟩:=ht
 split at hte
 ·rename_i hbd
  cases hte
  exact hh e (by simpa using he) hbd
 cases hte
theorem aEn (h:Rel ops listed m){j:Nat}{oj:Oper}(hj:ops[j]? = some oj):j∈Region.ready .any ops listed↔m.testBit j=false/\inM (obits ops oj).dep m=true:=by
 have hjlt:j<ops.size:=(Array.getElem?_eq_some_iff.1 hj).1
 rw[mem_ready]
 constructor
 ·rintro ⟨g1,oj',hj',g2⟩
  rw[hj] at hj';cases hj'
  refine ⟨by simpa[h.bits j hjlt] using g1,(aHg h oj).2 fun e he hbd=>?_⟩
  have:=g2 e he hbd
  by_cases hlt:e.on<ops.size
  ·simpa[h.bits _ hlt] using this
  have hn:listed[e.on]? = none:=by rw[Array.getElem?_eq_none];have:=h.size;omega
  simp[hn] at this
 rintro ⟨g1,g2⟩
 refine ⟨by simp[h.bits j hjlt,g1],oj,hj,fun e he hbd=>?_⟩
 have hb:=(aHg h oj).1 g2 e he hbd
 by_cases hlt:e.on<ops.size
 ·simp[h.bits _ hlt,hb]
 rw[h.out _ (by omega)] at hb
 cases hb
theorem aFg {j:Nat}{oj:Oper}(hj:ops[j]? = some oj):(dataOf ops)[j]? = some ((obits ops oj).dep,clash j (obits ops oj) (ops.toList.map (obits ops)) 0):=by
 have hj':ops.toList[j]? = some oj:=by simpa using hj
 simp only[dataOf]
 rw[aEc,List.getElem?_map,hj']
 simp
theorem bAt (h:Rel ops listed m){i:Nat}{o:Oper}(hoi:ops[i]? = some o)(h3:inM (clash i (obits ops o) (ops.toList.map (obits ops)) 0) m=true):Region.free .any ops listed i=true:=by
 simp only[Region.free,hoi,List.all_eq_true,List.mem_range,Bool.or_eq_true,beq_iff_eq]
 intro j hj
 by_cases hji:j=i
 ·exact .inl (.inl hji)
 cases hm:m.testBit j with
 | true=>exact .inl (.inr (by simp[h.bits j hj,hm]))
 | false=>
  right
  obtain ⟨oj,hoj⟩:∃oj,ops[j]? = some oj:=⟨ops[j],Array.getElem?_eq_getElem hj⟩
  simp only[hoj,Bool.or_eq_true]
  have hcl:(clash i (obits ops o) (ops.toList.map (obits ops)) 0).testBit (0+j)=false:=by
   rw[Nat.zero_add]
   cases hc:(clash i (obits ops o) (ops.toList.map (obits ops)) 0).testBit j with
   | false=>rfl
   | true=>
    have:=aIb h3 hc
    simp[hm] at this
  have hjl:(ops.toList.map (obits ops))[j]? = some (obits ops oj):=by
   rw[List.getElem?_map];have:ops.toList[j]? = some oj:=by simpa using hoj
   rw[this];rfl
  rcases aKa _ 0 j _ hjl hcl with g | g | g
  ·exact absurd (by omega) hji
  ·left
   simp only[obits,aAq,decide_eq_true_eq,List.mem_filterMap] at g
   obtain ⟨e,he,hte⟩:=g
   split at hte
   ·rename_i hbd
    rw[Array.any_eq_true']
    exact ⟨e,by simpa using he,by simp at hte;simp[hbd,hte]⟩
   cases hte
  right
  obtain ⟨g1,g2⟩:=g
  have nb:∀(a b:Nat),a &&& b=0->∀t,a.testBit t=true->b.testBit t=true->False:=by
   intro a b hab t ha hb
   have:=congrArg (·.testBit t) hab
   simp[Nat.testBit_and,ha,hb] at this
  simp only[Oper.apart,Bool.and_eq_true]
  constructor
  ·cases hd:o.dst with
   | none=>rfl
   | some d=>
    simp only[Bool.and_eq_true,Bool.not_eq_true',bne_iff_ne]
    have hbd:(obits ops o).dst.testBit d=true:=by simp[obits,hd]
    constructor
    ·cases hc:(oj.looksAt ops).contains d with
     | false=>rfl
     | true=>
      exfalso
      refine nb _ _ g1 d ?_ hbd
      rw[show Nat.lor _ _=_ ||| _ from rfl,Nat.testBit_or]
      have:(obits ops oj).look.testBit d=true:=by
       simp only[obits,aAq,decide_eq_true_eq];simpa using hc
      simp[this]
    intro hdd
    refine nb _ _ g1 d ?_ hbd
    rw[show Nat.lor _ _=_ ||| _ from rfl,Nat.testBit_or]
    have:(obits ops oj).dst.testBit d=true:=by simp[obits,hdd]
    simp[this]
  cases hd:oj.dst with
  | none=>rfl
  | some d=>
   simp only[Bool.not_eq_true']
   cases hc:(o.looksAt ops).contains d with
   | false=>rfl
   | true=>
    exfalso
    refine nb _ _ g2 d ?_ ?_
    ·simp only[obits,aAq,decide_eq_true_eq];simpa using hc
    simp[obits,hd]
theorem aMa {l:List Nat}:∀(r:List (Nat×Nat)) (k j:Nat) (x:Nat×Nat),among m l r k=true->r[j]? = some x->k+j∈l\/m.testBit (k+j)=true\/inM x.1 m=false
 | [],k,j,x,_,h=>by simp at h
 | z::r,k,0,x,h,hx=>by
  obtain rfl:z=x:=by simpa using hx
  simp only[among,Bool.and_eq_true,Bool.or_eq_true] at h
  rcases h.1 with (h1 | h1) | h1
  ·obtain ⟨y,hy,he⟩:=List.any_eq_true.1 h1
   have:=Nat.eq_of_beq_eq_true he
   subst this
   exact .inl (by simpa using hy)
  ·exact .inr (.inl (by simpa using h1))
  exact .inr (.inr (by simpa using h1))
 | z::r,k,j+1,x,h,hx=>by
  simp only[among,Bool.and_eq_true] at h
  have:=aMa r (k+1) j x h.2 (by simpa using hx)
  rw[show k+1+j=k+(j+1) from by omega] at this
  exact this
theorem aGe (h:Rel ops listed m){l:List Nat}(ha:among m l (dataOf ops) 0=true){j:Nat}(hj:j∈Region.ready .any ops listed):j∈l:=by
 obtain ⟨_,oj,hoj,_⟩:=mem_ready.1 hj
 obtain ⟨g1,g2⟩:=(aEn h hoj).1 hj
 rcases aMa _ 0 j _ ha (aFg hoj) with g | g | g
 ·simpa using g
 ·simp[g1] at g
 rw[g2] at g;cases g
theorem aKv (h:Rel ops listed m){i:Nat}(hu:upB (dataOf ops) m i=true):i∈Region.ready .any ops listed:=by
 unfold upB at hu
 split at hu
 ·cases hu
 rename_i x hx
 simp only[Bool.and_eq_true,Bool.not_eq_true'] at hu
 have hl:(dataOf ops).length=ops.size:=by
  have hh:∀(all l:List OBits) (k:Nat),(clashes all l k).length=l.length:=by
   intro all l
   induction l with
   | nil=>intro k;rfl
   | cons x l ih=>intro k;simp[clashes,ih]
  simp[dataOf,hh]
 have hi:i<ops.size:=by rw[<-hl];exact (List.getElem?_eq_some_iff.1 hx).1
 have ho:ops[i]? = some ops[i]:=Array.getElem?_eq_getElem hi
 rw[aFg ho] at hx
 cases hx
 exact (aEn h ho).2 hu
end
def bq (P:Program)(S:World->Prop)(x:QOp)(a:Act)(K:Act->World->Prop)(w:World):Prop:=∃v,QYields P S x.op x.type a v/\K (a.put x.dst v) w
def wt (P:Program)(S:World->Prop)(M:Addr->Option Value)(ops:Array Oper)(Q:Act->World->Prop):PT->Act->World->Prop
 | .leaf=>Q
 | .q i t=>fun a w=>wq P S M (wt P S M ops Q t) [cmp1 ops true i] a w
 | .b i t=>fun a w=>bq P S (cmp1 ops true i) a (wt P S M ops Q t) w
 | .one i t=>fun a w=>wq P S M (wt P S M ops Q t) [cmp1 ops false i] a w
 | .two i t j u=>fun a w=>wq P S M (wt P S M ops Q t) [cmp1 ops false i] a w/\wq P S M (wt P S M ops Q u) [cmp1 ops false j] a w
 | .three i t j u k v=>fun a w=>wq P S M (wt P S M ops Q t) [cmp1 ops false i] a w/\wq P S M (wt P S M ops Q u) [cmp1 ops false j] a w/\wq P S M (wt P S M ops Q v) [cmp1 ops false k] a w
section
variable {P:Program} {S:World->Prop} {M:Addr->Option Value} {ops:Array Oper} {Q:Act->World->Prop} {Q':Exit->Act->World->Prop}
theorem bAj {i:Nat}{q:Bool}(h:okB ops i=true):([(q,i)].all fun x=>(ops[x.2]?).isSome && (match (ops[x.2]?).bind (·.guard) with | some (j,_)=>((ops[j]?).bind (·.dst)).isSome | none=>true))=true:=by
 simpa[okB] using h
theorem aIa (hM:∀p v,M p=some v->∀w,S w->w.cell? p=some v){C K:Act->World->Prop}{i:Nat}{a:Act}{w:World}(ho:okB ops i=true)(hS:S w)
  (h:wq P S M C [cmp1 ops false i] a w) (hK:∀a' w',S w'->C a' w'->K a' w') :
  wpOp P ops Q' i (fun a' w'=>S w'/\K a' w') a w:=by
 have h1:=aBm (ops:=ops) (Q:=C) hM [(false,i)] a w (bAj ho) h
 simp only[wl] at h1
 cases hoi:ops[i]? with
 | none=>simp only[hoi] at h1
 | some o=>
  simp only[hoi] at h1
  unfold wpOp
  simp only[hoi]
  by_cases hw:Region.wanted o (yielded ops a.tmps)=true
  ·rw[if_pos hw] at h1 ⊢
   simp only[Bool.false_eq_true,if_false] at h1
   exact .inl (aDx (fun a' w' hh=>⟨hh.1,hK _ _ hh.1 hh.2⟩) (fun _ _ _ hh=>hh.elim) h1)
  rw[if_neg hw] at h1 ⊢
  exact ⟨hS,hK _ _ hS h1⟩
theorem bCc (hs:Region.noSelect ops=true)(hM:∀p v,M p=some v->∀w,S w->w.cell? p=some v)(hQ:∀a w,Q a w->Q' .normal a w)(hP:∀c a w,¬Q' (.panic c) a w) :
  ∀(t:PT) (m:Nat) (listed:Array Bool) (fuel:Nat) (a:Act) (w:World),Rel ops listed m->planT ops (dataOf ops) t m=true->t.dep<=fuel->S w->
   wt P S M ops Q t a w->wpAnyH P .any ops Q' S fuel listed a w:=by
 intro t
 have lt:∀{i:Nat},okB ops i=true->i<ops.size:=fun {i} h=>by
  simp only[okB,Bool.and_eq_true] at h
  obtain ⟨o,ho⟩:=Option.isSome_iff_exists.1 h.1
  exact (Array.getElem?_eq_some_iff.1 ho).1
 induction t with
 | leaf=>
  intro m listed fuel a w hr hp hf hS h
  simp only[planT] at hp
  refine wpAnyH_done ?_ (hQ _ _ h) fuel
  apply List.eq_nil_iff_forall_not_mem.2
  intro j hj
  obtain ⟨_,oj,hoj,_⟩:=mem_ready.1 hj
  have hjlt:j<ops.size:=(Array.getElem?_eq_some_iff.1 hoj).1
  have hl:(dataOf ops).length=ops.size:=by
   have hh:∀(all l:List OBits) (k:Nat),(clashes all l k).length=l.length:=by
    intro all l
    induction l with
    | nil=>intro k;rfl
    | cons x l ih=>intro k;simp[clashes,ih]
   simp[dataOf,hh]
  rw[hl] at hp
  have hb:=aIb hp (t:=j) (by rw[Nat.testBit_two_pow_sub_one];simpa using hjlt)
  have:=((aEn hr hoj).1 hj).1
  rw[hb] at this;cases this
 | q i t ih=>
  intro m listed fuel a w hr hp hf hS h
  obtain ⟨fuel,rfl⟩:∃k,fuel=k+1:=⟨fuel-1,by simp only[PT.dep] at hf;omega⟩
  simp only[PT.dep,Nat.add_le_add_iff_right] at hf
  simp only[planT,Bool.and_eq_true] at hp
  obtain ⟨⟨h1,h2⟩,h3⟩:=hp
  have hi:=lt h2
  have hoi:ops[i]? = some ops[i]:=Array.getElem?_eq_getElem hi
  rw[aFg hoi] at h1
  simp only[Bool.and_eq_true,Bool.not_eq_true'] at h1
  obtain ⟨⟨g1,g2⟩,g3⟩:=h1
  have hw1:=aBm (ops:=ops) (Q:=wt P S M ops Q t) hM [(true,i)] a w (bAj h2) h
  simp only[wl,hoi] at hw1
  have hrd:=(aEn hr hoi).2 ⟨g1,g2⟩
  have hfr:=bAt hr hoi g3
  by_cases hw:Region.wanted ops[i] (yielded ops a.tmps)=true
  ·rw[if_pos hw,if_pos trivial] at hw1
   obtain ⟨v,hv,hk⟩:=hw1
   exact wpAnyH_take hoi hs hfr (by simpa using hrd) (fun c a w hh=>absurd hh (hP _ _ _)) (.inl ⟨hw,fun w hw'=>hv w _ _ _ _ hw'⟩) hS (ih _ _ fuel _ w (hr.set hi) h3 hf hS hk)
  rw[if_neg hw] at hw1
  exact wpAnyH_take hoi hs hfr (by simpa using hrd) (fun c a w hh=>absurd hh (hP _ _ _)) (.inr ⟨by simpa using hw,rfl⟩) hS (ih _ _ fuel _ w (hr.set hi) h3 hf hS hw1)
 | b i t ih=>
  intro m listed fuel a w hr hp hf hS h
  obtain ⟨fuel,rfl⟩:∃k,fuel=k+1:=⟨fuel-1,by simp only[PT.dep] at hf;omega⟩
  simp only[PT.dep,Nat.add_le_add_iff_right] at hf
  simp only[planT,Bool.and_eq_true] at hp
  obtain ⟨⟨h1,h2⟩,h3⟩:=hp
  unfold okN at h2
  split at h2
  ·rename_i o hoi
   rw[aFg hoi] at h1
   simp only[Bool.and_eq_true,Bool.not_eq_true'] at h1
   obtain ⟨⟨g1,g2⟩,g3⟩:=h1
   have hi:i<ops.size:=(Array.getElem?_eq_some_iff.1 hoi).1
   have hrd:=(aEn hr hoi).2 ⟨g1,g2⟩
   have hfr:=bAt hr hoi g3
   have hg:o.guard=none:=by simpa using h2
   have ho':ops.toList[i]? = some o:=by simpa using hoi
   simp only[wt,bq,cmp1,ho'] at h
   obtain ⟨v,hv,hk⟩:=h
   exact wpAnyH_take hoi hs hfr (by simpa using hrd) (fun c a w hh=>absurd hh (hP _ _ _)) (.inl ⟨by simp[Region.wanted,hg],fun w hw'=>hv w _ _ _ _ hw'⟩) hS (ih _ _ fuel _ w (hr.set hi) h3 hf hS hk)
  cases h2
 | one i t ih=>
  intro m listed fuel a w hr hp hf hS h
  obtain ⟨fuel,rfl⟩:∃k,fuel=k+1:=⟨fuel-1,by simp only[PT.dep] at hf;omega⟩
  simp only[PT.dep,Nat.add_le_add_iff_right] at hf
  simp only[planT,Bool.and_eq_true] at hp
  obtain ⟨⟨⟨h1,h2⟩,h3⟩,h4⟩:=hp
  refine wpAnyH_all rfl (fun e=>by have:=aKv hr h1;rw[e] at this;cases this) fun j hj=>?_
  have hjl:=aGe hr h2 hj
  obtain rfl:j=i:=by simpa using hjl
  exact aIa hM h3 hS h fun a' w' hS' hC=>ih _ _ fuel _ w' (hr.set (lt h3)) h4 hf hS' hC
 | two i t j u ih1 ih2=>
  intro m listed fuel a w hr hp hf hS h
  obtain ⟨fuel,rfl⟩:∃k,fuel=k+1:=⟨fuel-1,by simp only[PT.dep] at hf;omega⟩
  simp only[PT.dep,Nat.add_le_add_iff_right] at hf
  simp only[planT,Bool.and_eq_true] at hp
  obtain ⟨⟨⟨⟨⟨h1,h2⟩,h3⟩,h4⟩,h5⟩,h6⟩:=hp
  refine wpAnyH_all rfl (fun e=>by have:=aKv hr h1;rw[e] at this;cases this) fun x hx=>?_
  have hxl:=aGe hr h2 hx
  rcases (by simpa using hxl:x=i\/x=j) with rfl | rfl
  ·exact aIa hM h3 hS h.1 fun a' w' hS' hC=>ih1 _ _ fuel _ w' (hr.set (lt h3)) h5 (by omega) hS' hC
  exact aIa hM h4 hS h.2 fun a' w' hS' hC=>ih2 _ _ fuel _ w' (hr.set (lt h4)) h6 (by omega) hS' hC
 | three i t j u k v ih1 ih2 ih3=>
  intro m listed fuel a w hr hp hf hS h
  obtain ⟨fuel,rfl⟩:∃k,fuel=k+1:=⟨fuel-1,by simp only[PT.dep] at hf;omega⟩
  simp only[PT.dep,Nat.add_le_add_iff_right] at hf
  simp only[planT,Bool.and_eq_true] at hp
  obtain ⟨⟨⟨⟨⟨⟨⟨h1,h2⟩,h3⟩,h4⟩,h5⟩,h6⟩,h7⟩,h8⟩:=hp
  refine wpAnyH_all rfl (fun e=>by have:=aKv hr h1;rw[e] at this;cases this) fun x hx=>?_
  have hxl:=aGe hr h2 hx
  rcases (by simpa using hxl:x=i\/x=j\/x=k) with rfl | rfl | rfl
  ·exact aIa hM h3 hS h.1 fun a' w' hS' hC=>ih1 _ _ fuel _ w' (hr.set (lt h3)) h6 (by omega) hS' hC
  ·exact aIa hM h4 hS h.2.1 fun a' w' hS' hC=>ih2 _ _ fuel _ w' (hr.set (lt h4)) h7 (by omega) hS' hC
  exact aIa hM h5 hS h.2.2 fun a' w' hS' hC=>ih3 _ _ fuel _ w' (hr.set (lt h5)) h8 (by omega) hS' hC
end
def planChkT (ops:Array Oper)(t:PT):Bool:=Region.noSelect ops && Nat.ble t.dep ops.size && planT ops (dataOf ops) t 0
theorem aAs {P:Program}{ops:Array Oper}{id:Nat} {Q':Exit->Act->World->Prop}{a:Act}{w:World}(S:World->Prop)(t:PT)(hm:P.follows .mixedOrders=true)
  (hc:planChkT ops t=true)
  (hS:S w.drew)
  (h:∀(T:World->Prop) (M:Addr->Option Value) (Q:Act->World->Prop),(∀w,S w->T w)->(∀w,T w->S w)->(∀p v,(∀w,S w->w.cell? p=some v)->M p=some v)->(∀a w,Q' .normal a w->Q a w)->wt P T M ops Q t a w.drew) :
  (Code.region id ops true).wp P Q' a w:=by
 simp only[planChkT,Bool.and_eq_true,Nat.ble_eq] at hc
 obtain ⟨⟨c1,c2⟩,c3⟩:=hc
 have hM:∀p v,(Classical.epsilon fun o:Option Value=>∀v,o=some v↔∀w,S w->w.cell? p=some v)=some v↔∀w,S w->w.cell? p=some v:=by
  intro p
  have hex:∃o:Option Value,∀v,o=some v↔∀w,S w->w.cell? p=some v:=by
   by_cases hx:∃v,∀w,S w->w.cell? p=some v
   ·obtain ⟨v,hv⟩:=hx
    refine ⟨some v,fun u=>⟨fun e=>(by cases e;exact hv),fun hu=>?_⟩⟩
    have h1:=hv _ hS
    rw[hu _ hS] at h1
    exact h1.symm
   exact ⟨none,fun u=>⟨fun e=>(by cases e),fun hu=>absurd ⟨u,hu⟩ hx⟩⟩
  exact Classical.epsilon_spec hex
 refine wp_region_noPanic (wp_region_held (S:=S) hm ?_)
 exact bCc (M:=fun p=>Classical.epsilon fun o:Option Value=>∀v,o=some v↔∀w,S w->w.cell? p=some v) c1
  (fun p v h=>(hM p v).1 h) (fun _ _ h=>NoPanic.normal h) (fun c a w h=>h) t 0 _ _ _ _ ⟨by simp,fun j hj=>by simp[hj],fun j _=>by simp⟩ c3 c2 hS
  (h S _ _ (fun _ h=>h) (fun _ h=>h) (fun p v h=>(hM p v).2 h) (fun _ _ h=>h))
theorem aYe {P:Program}{S:World->Prop}{a:Act}{w:World}{K:Act->World->Prop}{x:QOp}{v:Value}
  (hv:∀(p:String) (af:Array Edge) (g:Option (Nat×Bool)),(execOp a.eval ⟨x.dst,x.op,x.type,p,af,g⟩).run P w=.ok (.value v) w) (hK:S w/\K (a.put x.dst v) w) :
  effq P S x a w K:=by
 intro p af g
 unfold Oper.wp
 rw[hv]
 exact hK
theorem aQx {P:Program}{S:World->Prop}{a:Act} {w w':World}{K:Act->World->Prop}{x:QOp}{v:Value}
  (hv:∀(p:String) (af:Array Edge) (g:Option (Nat×Bool)),(execOp a.eval ⟨x.dst,x.op,x.type,p,af,g⟩).run P w=.ok (.value v) w') (hK:S w'/\K (a.put x.dst v) w') :
  effq P S x a w K:=by
 intro p af g
 unfold Oper.wp
 rw[hv]
 exact hK
section
variable {P:Program} {S:World->Prop} {M:Addr->Option Value} {ops:Array Oper} {Q:Act->World->Prop} {i j k:Nat} {t u v:PT} {a:Act} {w:World}
theorem aCq:wt P S M ops Q .leaf a w=Q a w:=rfl
theorem wt_q:wt P S M ops Q (.q i t) a w=wq P S M (wt P S M ops Q t) [cmp1 ops true i] a w:=rfl
theorem wt_b:wt P S M ops Q (.b i t) a w=bq P S (cmp1 ops true i) a (wt P S M ops Q t) w:=rfl
theorem aAk:wt P S M ops Q (.one i t) a w=wq P S M (wt P S M ops Q t) [cmp1 ops false i] a w:=rfl
theorem aAw:wt P S M ops Q (.two i t j u) a w=(wq P S M (wt P S M ops Q t) [cmp1 ops false i] a w/\wq P S M (wt P S M ops Q u) [cmp1 ops false j] a w):=rfl
theorem aDb (h:∀O,(∀q i,cmp1 O q i=cmp1 ops q i)->wt P S M O Q t a w):wt P S M ops Q t a w:=h ops fun _ _=>rfl
end
theorem aBt {P:Program}{S:World->Prop}{a:Act}{w:World}{K:Act->World->Prop}{dst:Option Tmp}{t ty:TypeId}{parts:Array (Nat×Operand)}{q:Bool}{g:Option (Tmp×Bool)}{vs:Array (Nat×Value)}{v:Value}
  (hv:(parts.toList.map fun p=>(p.1,a.eval p.2)).toArray=vs) (hr:∀w,(Instr.build t vs).run P w=.ok v w) (hK:K (a.put dst v) w):bq P S ⟨q,dst,.build t parts,ty,g⟩ a K w:=by
 refine ⟨v,fun w d p af g _=>?_,hK⟩
 have hv':(parts.map fun p=>(p.1,a.eval p.2))=vs:=by rw[<-hv];apply Array.toList_inj.1;simp
 unfold execOp
 simp only[hv',hr,Sem.run_bind,Sem.run_pure,Result.andThen_ok]
theorem aAn {P:Program}{S:World->Prop}{a:Act}{w:World}{K:Act->World->Prop}{dst:Option Tmp}{t ty:TypeId}{x y:Operand}{q:Bool}{gd:Option (Tmp×Bool)}{g:Nat}{cells old:Array Value}{e:TypeId}
  (hx:a.eval x=.pointer (some ⟨g,0,none⟩)) (hy:a.eval y=.agg cells) (hg:w.heap[g]? = some (.cells old e (0,0))) (hi:(P.info? t).map (·.size)=some cells.size)
  (hold:old.size=cells.size) (h1:cells.all (·.oneCell')=true) (hK:S (w.setRow g cells)/\K (a.put dst undef) (w.setRow g cells)) :
  effq P S ⟨q,dst,.store t x y,ty,gd⟩ a w K:=fun _p _af _g'=>wp_store_row t x y rfl g cells hx hy e old hg hi hold h1 hK
section
variable {α:Type}
def lall2 (eq:α->α->Bool):List α->List α->Bool
 | [],[]=>true
 | x::xs,y::ys=>eq x y && lall2 eq xs ys
 | _,_=>false
variable {eq:α->α->Bool}
def EqTo (eq:α->α->Bool)(xs ys:List α)(k:Nat):Prop:=∀j x y,j<k->xs[j]? = some x->ys[j]? = some y->eq x y=true
end
theorem FV.eq_iff {x y:FV}:x=y↔x.path=y.path/\x.exec=y.exec/\x.text=y.text:=by
 cases x;cases y;simp
theorem aXs (x y:FV)(w:World):(Op.equalIn 10000 48 (.agg #[.string x.path,.bool x.exec,.string x.text]) (.agg #[.string y.path,.bool y.exec,.string y.text])).run Tryz.prog w=.ok (decide (x=y)) w:=by
 by_cases h_path:x.path=y.path
 case neg=>rw[decide_eq_false (fun e=>h_path (by rw[e]))];have hn2:¬x.path.toList=y.path.toList:=beq_eq_false_iff_ne.1 (aBw h_path);go_simp<;>simp_all
 by_cases h_exec:x.exec=y.exec
 case neg=>rw[decide_eq_false (fun e=>h_exec (by rw[e]))];go_simp<;>simp_all
 by_cases h_text:x.text=y.text
 case neg=>rw[decide_eq_false (fun e=>h_text (by rw[e]))];have hn2:¬x.text.toList=y.text.toList:=beq_eq_false_iff_ne.1 (aBw h_text);go_simp<;>simp_all
 rw[decide_eq_true (FV.eq_iff.2 ⟨h_path,h_exec,h_text⟩)];go_simp<;>simp_all
def PlaceF (q:FV->Bool)(l:List FV)(w:World)(e:Ending) (w':World):Prop:=
 ∃k:Int,e=.returned (.int .i64 k)/\((k=-1/\∀f∈l,q f=false)\/∃(j:Nat) (f:FV),k=j/\FirstAt q l j f)/\Below w.heap.size w w'
def isP (p:ByteArray)(f:FV):Bool:=decide (f.path=p)
def aboveP (p:ByteArray)(f:FV):Bool:=decide (p.data.toList<f.p)
theorem aAj {B g:Nat}{w w1:World}{cs:Array Value}(h:Below B w w1)(hg:B<=g):Below B w (w1.setRow g cs):=
 ⟨h.os,h.tape,h.output,by have:=h.size;simpa[World.setRow] using this,fun k hk=>by rw[setRow_other _ _ _ _ (fun e=>by omega)];exact h.block k hk⟩
theorem bFa {f:FV}{g:Nat}{p:ByteArray}{w:World}(hg:w.cell? ⟨g,0,none⟩=some (.string p))(hgl:g<w.heap.size) :
  Calls Tryz.prog 213 #[.agg #[.string f.path,.bool f.exec,.string f.text],.pointer (some ⟨g,0,none⟩)] w (BoolBelow (isP p f) w):=by
 have hbd:Below w.heap.size w (w.alloc (.cells #[.string f.path,.bool f.exec,.string f.text] 48)):=(Below.refl _ _).alloc (Nat.le_refl _) _
 have h1:(w.alloc (.cells #[.string f.path,.bool f.exec,.string f.text] 48)).cell? ⟨g,0,none⟩=some (.string p):=(hbd.cell (p:=⟨g,0,none⟩) hgl).trans hg
 by_cases h:f.path=p
 ·have HO:=hid (show isP p f=true by simp[isP,h])
  have e1:(f.path.toList == p.toList)=true:=by rw[h];exact beq_self_eq_true _
  clear h
  go_enter Tryz.func213,Tryz.ntmps213
  go_wp2
  go_ret
  exact ⟨aAh HO.out.symm,hbd⟩
 have HO:=hid (show isP p f=false by simp[isP,h])
 have e1:=aBw h
 clear h
 go_enter Tryz.func213,Tryz.ntmps213
 go_wp2
 go_ret
 exact ⟨aAh HO.out.symm,hbd⟩
theorem bFo {A:Option Addr}{n c g:Nat}{l:List FV}{p:ByteArray}{w:World}(hn:n<=17592186044416)(h:RdF w w.heap.size A n c l)(hg:w.cell? ⟨g,0,none⟩=some (.string p))(hgl:g<w.heap.size) :
  Calls Tryz.prog 188 #[.slice A n c,.func (.func 213) #[] #[.pointer (some ⟨g,0,none⟩)]] w (PlaceF (isP p) l w):=by
 have HL:=hid h.len
 go_enter Tryz.func188,Tryz.ntmps188
 go_wp2
 go_loopw[5,8] (fun _ i wr=>∃k:Nat,k<=n/\i=.int .i64 k/\Below w.heap.size w wr/\Hid (∀j g,j<k->l[j]? = some g->(isP p) g=false)) (fun _ i _=>n-(intOf i).toNat)
 case atStart=>exact ⟨0,Nat.zero_le _,rfl,Below.refl _ _,fun j g hj=>absurd hj (Nat.not_lt_zero _)⟩
 obtain ⟨k,hk,rfl,hb,hj⟩:=hrel
 by_cases hlt:k<n
 ·obtain ⟨b0,o0,f,rfl,hbb,hx,hfm,h0,h1,h2⟩:=h.get hlt
  replace h0:=(hb.cell (p:=⟨b0,o0+k*3,none⟩) (by show b0<_;omega)).trans h0
  replace h1:=(hb.cell (p:=⟨b0,o0+k*3+1,none⟩) (by show b0<_;omega)).trans h1
  replace h2:=(hb.cell (p:=⟨b0,o0+k*3+2,none⟩) (by show b0<_;omega)).trans h2
  have HX:=hid hx
  have C:=bFa (f:=f) (w:=wr) ((hb.cell (p:=⟨g,0,none⟩) hgl).trans hg) (Nat.lt_of_lt_of_le hgl hb.size)
  clear hx
  cases hq:(isP p) f with
  | true=>
   rw[hq] at C
   have HQ:=hid (show FirstAt (isP p) l k f from ⟨HX.out,hq,hj.out⟩)
   clear hq
   go_wp2_with fail
   refine C.mono ?_
   rintro e w1 ⟨rfl,hb1⟩
   have hbd:=hb.trans (hb1.mono hb.size)
   clear C
   go_wp2
   go_ret
   exact ⟨k,rfl,.inr ⟨k,f,rfl,HQ.out⟩,hbd⟩
  | false=>
   rw[hq] at C
   have HQ:=hid (show ∀j g,j<k+1->l[j]? = some g->(isP p) g=false from fun j x hj' hx=>by
    by_cases e:j=k
    ·subst e;rw[HX.out] at hx;injection hx with hx;subst hx;exact hq
    exact hj.out j x (by omega) hx)
   clear hq
   go_wp2_with fail
   refine C.mono ?_
   rintro e w1 ⟨rfl,hb1⟩
   have hbd:=hb.trans (hb1.mono hb.size)
   clear C
   go_wp2
   go_roundw
   case rel=>exact ⟨k+1,by omega,by go_num,hbd,HQ.out⟩
   simp[intOf];omega
 have hkn:k=n:=by omega
 subst hkn
 have HO:=hid (show ∀f∈l,(isP p) f=false from fun f hf=>by
  obtain ⟨i,hi,rfl⟩:=List.getElem_of_mem hf
  exact hj.out i _ (by have:=HL.out;omega) (List.getElem?_eq_getElem hi))
 go_wp2
 go_ret
 exact ⟨-1,rfl,.inl ⟨rfl,HO.out⟩,hb⟩
theorem aWt {A:Option Addr}{n c:Nat}{l:List FV}{p:ByteArray}{w:World}(hn:n<=17592186044416)(h:RdF w w.heap.size A n c l) :
  Calls Tryz.prog 176 #[.slice A n c,.string p] w (PlaceF (isP p) l w):=by
 have hb:Below w.heap.size w (w.alloc (.cells #[.string p] 9)):=(Below.refl _ _).alloc (Nat.le_refl _) _
 have hg:(w.alloc (.cells #[.string p] 9)).cell? ⟨w.heap.size,0,none⟩=some (.string p):=(cell_of_row _ _ _ _ _ _ (heap_alloc_new _ _)).trans rfl
 have C:=bFo hn (h.to hb hb.size) hg (by simp)
 go_enter Tryz.func176,Tryz.ntmps176
 go_wp2_with fail
 refine C.mono ?_
 rintro e w1 ⟨k,rfl,h1,hb1⟩
 have H1:=hid h1
 clear h1 C
 go_wp2
 go_ret
 exact ⟨k,rfl,H1.out,hb.trans (hb1.mono hb.size)⟩
theorem aAm {P:Program}{fn:Func}{p u:Tmp}{ty:TypeId}(h:fn.results=#[.cell p ty,.tmp u])(tmps:Array Value)(w:World)(g:Nat)(t:TypeId)(cs:Array Value)(fr:Nat×Nat)(d:TypeDesc)
  (hp:tmps.getD p undef=.pointer (some ⟨g,0,none⟩)) (hg:w.heap[g]? = some (.cells cs t fr))
  (hu:P.underlying ty=some d) (hd:(match d with | .struct _ | .array _ _=>true | _=>false)=true) (hi:(P.info? ty).map (·.size)=some cs.size) :
  (results fn tmps).run P w=.ok (.tuple #[.agg cs,tmps.getD u undef]) w:=by
 rw[results_cell_tmp h,hp]
 simp[asAddr,run_loadVar_row w g t ty cs fr d hg hu hd hi]
def zF:FV:=⟨⟨#[]⟩,false,⟨#[]⟩⟩
def optF (o:Option FV):FV:=o.getD zF
def FoundIs (o:Option FV)(w:World)(e:Ending) (w':World):Prop:=e=.returned (.tuple #[.agg #[.string (optF o).path,.bool (optF o).exec,.string (optF o).text],.bool o.isSome])/\Below w.heap.size w w'
theorem aGw (w:World):(Instr.build 48 #[]).run Tryz.prog w=.ok (.agg #[.string ⟨#[]⟩,.bool false,.string ⟨#[]⟩]) w:=by
 go_simp
theorem aGk {A:Option Addr}{n c:Nat}{l:List FV}{p:ByteArray}{w:World}(hn:n<=17592186044416)(h:RdF w w.heap.size A n c l) :
  Calls Tryz.prog 154 #[.slice A n c,.string p] w (FoundIs (findP l p) w):=by
 have hb:∀o,Below w.heap.size w (w.alloc o):=fun o=>(Below.refl _ _).alloc (Nat.le_refl _) _
 have C:∀o,Calls Tryz.prog 176 #[.slice A n c,.string p] (w.alloc o) (PlaceF (isP p) l (w.alloc o)):=fun o=>aWt hn (h.to (hb o) (hb o).size)
 go_enter Tryz.func154,Tryz.ntmps154
 go_wp2_with fail
 refine (C _).mono ?_
 rintro e w1 ⟨k,rfl,h1,hb1⟩
 have hbd:=(hb _).trans (hb1.mono (hb _).size)
 have hbox:w1.heap[w.heap.size]? = some (.cells #[.string ⟨#[]⟩,.bool false,.string ⟨#[]⟩] 48 (0,0)):=(hb1.block _ (by simp)).trans (heap_alloc_new _ _)
 have HR:=hid (show ∀cs,(w1.setRow w.heap.size cs).heap[w.heap.size]? = some (.cells cs 48 (0,0)) from fun cs=>setRow_heap _ _ _ _ _ _ hbox)
 have hz:=aGw w1
 have hi24:(Tryz.prog.info? 48).map (·.size)=some 3:=by kernel_rfl
 clear C hb1
 rcases h1 with ⟨rfl,hno⟩ | ⟨j,f,rfl,hf⟩
 ·have HO:=hid (aUu (p:=p) hno).1
  have c0:=cell_of_row _ _ 0 _ _ _ (HR.out #[.string ⟨#[]⟩,.bool false,.string ⟨#[]⟩])
  have c1:=cell_of_row _ _ 1 _ _ _ (HR.out #[.string ⟨#[]⟩,.bool false,.string ⟨#[]⟩])
  have c2:=cell_of_row _ _ 2 _ _ _ (HR.out #[.string ⟨#[]⟩,.bool false,.string ⟨#[]⟩])
  clear hno
  go_wp2_with (refine wpList_store_row rfl 48 (.tmp 4) (.tmp 12) rfl w.heap.size #[.string ⟨#[]⟩,.bool false,.string ⟨#[]⟩] rfl rfl _ _ hbox hi24 rfl (by simp[Value.oneCell']) ?_)
  try simp only[Exit.inBlock,Exit.then]
  refine bodyPost_ret (aAm rfl _ _ w.heap.size _ _ (0,0) _ rfl (HR.out _) Tryz.underlying48 rfl (by kernel_rfl)) rfl ?_
  refine ⟨?_,aAj hbd (Nat.le_refl _)⟩
  rw[HO.out];rfl
 have hj:j<n:=by have:=(List.getElem?_eq_some_iff.1 hf.1).1;rw[h.len] at this;exact this
 obtain ⟨b0,o0,f',rfl,hbb,hx,hfm,h0,h1,h2⟩:=h.get hj
 obtain rfl:f'=f:=Option.some.inj (hx.symm.trans hf.1)
 replace h0:=(hbd.cell (p:=⟨b0,o0+j*3,none⟩) (by show b0<_;omega)).trans h0
 replace h1:=(hbd.cell (p:=⟨b0,o0+j*3+1,none⟩) (by show b0<_;omega)).trans h1
 replace h2:=(hbd.cell (p:=⟨b0,o0+j*3+2,none⟩) (by show b0<_;omega)).trans h2
 have HO:=hid (show findP l p=some f' from FirstAt.find hf)
 have c0:=cell_of_row _ _ 0 _ _ _ (HR.out #[.string f'.path,.bool f'.exec,.string f'.text])
 have c1:=cell_of_row _ _ 1 _ _ _ (HR.out #[.string f'.path,.bool f'.exec,.string f'.text])
 have c2:=cell_of_row _ _ 2 _ _ _ (HR.out #[.string f'.path,.bool f'.exec,.string f'.text])
 clear hx hf hz
 go_wp2_with (refine wpList_store_row rfl 48 (.tmp 4) (.tmp 16) rfl w.heap.size #[.string f'.path,.bool f'.exec,.string f'.text] rfl rfl _ _ hbox hi24 rfl (by simp[Value.oneCell']) ?_)
 try simp only[Exit.inBlock,Exit.then]
 refine bodyPost_ret (aAm rfl _ _ w.heap.size _ _ (0,0) _ rfl (HR.out _) Tryz.underlying48 rfl (by kernel_rfl)) rfl ?_
 refine ⟨?_,aAj hbd (Nat.le_refl _)⟩
 rw[HO.out];rfl
theorem aCg:Elem Tryz.prog 29 48 3 40:=aBq (by kernel_rfl)
theorem aBh (l:List FV):∀u∈l.flatMap FV.cells,u.oneCell'=true:=by
 intro u hu
 obtain ⟨f,_,hf⟩:=List.mem_flatMap.1 hu
 simp only[FV.cells,List.mem_cons,List.mem_nil_iff,or_false] at hf
 rcases hf with rfl | rfl | rfl<;>rfl
theorem aKs {w w':World}(h:w.grownBy w' none):Below w.heap.size w w':=⟨h.os,h.tape,h.output,h.size,fun k hk=>h.block k hk (by simp)⟩
theorem aOl (w:World)(f:FV):Rd (w.alloc (.cells #[.string f.path,.bool f.exec,.string f.text] 48)) (w.alloc (.cells #[.string f.path,.bool f.exec,.string f.text] 48)).heap.size 3 (some ⟨w.heap.size,0,none⟩) 1 1 ([f].flatMap FV.cells):=
 ⟨rfl,Nat.le_refl _,fun _=>⟨_,0,rfl,by simp,fun j u hu=>by
  rw[Nat.zero_add,World.cell?,heap_alloc_new]
  simpa[FV.cells] using hu⟩⟩
theorem T.flat_take {α:Type}{f:α->List Value}{sz:Nat}(hf:∀a,(f a).length=sz):∀(l:List α) (k:Nat),(l.flatMap f).take (k*sz)=(l.take k).flatMap f
 | [],k=>by simp
 | x::l,0=>by simp
 | x::l,k+1=>by
  rw[List.flatMap_cons,List.take_succ_cons,List.flatMap_cons,Nat.succ_mul,Nat.add_comm,List.take_append,hf,List.take_of_length_le (by rw[hf];omega),show sz+k*sz-sz=k*sz by omega,T.flat_take hf l k]
theorem T.flat_drop {α:Type}{f:α->List Value}{sz:Nat}(hf:∀a,(f a).length=sz):∀(l:List α) (k:Nat),(l.flatMap f).drop (k*sz)=(l.drop k).flatMap f
 | [],k=>by simp
 | x::l,0=>by simp
 | x::l,k+1=>by
  rw[List.flatMap_cons,List.drop_succ_cons,Nat.succ_mul,Nat.add_comm,List.drop_append,hf,List.drop_of_length_le (by rw[hf];omega),List.nil_append,show sz+k*sz-sz=k*sz by omega,T.flat_drop hf l k]
theorem aZv {w:World}{B n c l k:Nat}{A:Option Addr}{xs:List FV}(h:Rd w B 3 A n c (xs.flatMap FV.cells))(hl:l<=k)(hk:k<=n) :
  ∃A',sliced A l k c 3=.slice A' (k-l) (c-l)/\Rd w B 3 A' (k-l) (c-l) (((xs.take k).drop l).flatMap FV.cells):=by
 refine ⟨_,rfl,?_⟩
 have:=h.cut hl hk
 rw[T.flat_take FV.cells_len,T.flat_drop FV.cells_len] at this
 exact this
theorem T.run_lits3 {P:Program}{t e:TypeId}{bytes:Nat}(E:Elem P t e 3 bytes)(a b c:Value)(w:World) :
  (Instr.buildSlice t 1 #[(0,.agg #[a,b,c])]).run P w=.ok (.slice (some ⟨w.heap.size,0,none⟩) 1 1) (w.alloc (.cells #[a,b,c] e)):=by
 obtain ⟨i,z,hi,hz,hsz,hby,hzs⟩:=E.row
 obtain ⟨z0,z1,z2,hzc⟩:∃z0 z1 z2,z.cells=#[z0,z1,z2]:=by
  have:=hzs
  match h:z.cells,this with
  | ⟨[z0,z1,z2]⟩,_=>exact ⟨z0,z1,z2,rfl⟩
 simp[Instr.buildSlice,run_underlying E.und,sizeOf,typeInfo,hi,hsz,zeroValue,hz,Instr.fill,Value.cells,newRow,show Array.range 3=#[0,1,2] from rfl]
theorem T.run_lits4 {P:Program}{t e:TypeId}{bytes:Nat}(E:Elem P t e 4 bytes)(a b c d:Value)(w:World) :
  (Instr.buildSlice t 1 #[(0,.agg #[a,b,c,d])]).run P w=.ok (.slice (some ⟨w.heap.size,0,none⟩) 1 1) (w.alloc (.cells #[a,b,c,d] e)):=by
 obtain ⟨i,z,hi,hz,hsz,hby,hzs⟩:=E.row
 obtain ⟨z0,z1,z2,z3,hzc⟩:∃z0 z1 z2 z3,z.cells=#[z0,z1,z2,z3]:=by
  have:=hzs
  match h:z.cells,this with
  | ⟨[z0,z1,z2,z3]⟩,_=>exact ⟨z0,z1,z2,z3,rfl⟩
 simp[Instr.buildSlice,run_underlying E.und,sizeOf,typeInfo,hi,hsz,zeroValue,hz,Instr.fill,Value.cells,newRow,show Array.range 4=#[0,1,2,3] from rfl]
theorem T.eff_lits {P:Program}{S:World->Prop}{a:Act} {w w':World}{K:Act->World->Prop}{dst:Option Tmp}{t ty:TypeId}{x:Operand}{q:Bool}{g:Option (Tmp×Bool)}{v r:Value}
  (hr:(Instr.buildSlice t 1 #[(0,v)]).run P w=.ok r w') (hx:a.eval x=v) (hK:S w'/\K (a.put dst r) w') :
  effq P S ⟨q,dst,.buildSlice t 1 #[(0,x)],ty,g⟩ a w K:=by
 refine aQx (fun p af g=>?_) hK
 unfold execOp
 simp only[List.map_toArray,List.map_cons,List.map_nil,hx,hr,Sem.run_bind,Sem.run_pure,Result.andThen_ok]
def FilesIs (P:List FV->Prop)(w:World)(e:Ending) (w':World):Prop:=
 ∃(A:Option Addr) (c:Nat) (l:List FV),e=.returned (.slice A l.length c)/\P l/\RdF w' w'.heap.size A l.length c l/\Below w.heap.size w w'
theorem aLl {A:Option Addr}{n c:Nat}{l:List FV}{p:ByteArray}{w:World}(hn:n<=17592186044416)(h:RdF w w.heap.size A n c l) :
  Calls Tryz.prog 25 #[.slice A n c,.string p] w (FoundIs (findP l p) w):=by
 have HL:=hid h.len
 obtain ⟨W,hW⟩:∃u,u=w.alloc (.cells #[.string ⟨#[]⟩,.bool false,.string ⟨#[]⟩] 48):=⟨_,rfl⟩
 have hbW:Below w.heap.size w W:=by rw[hW];exact (Below.refl _ _).alloc (Nat.le_refl _) _
 have hzW:W.heap.size=w.heap.size+1:=by rw[hW];simp
 have hbx:W.heap[w.heap.size]? = some (.cells #[.string ⟨#[]⟩,.bool false,.string ⟨#[]⟩] 48 (0,0)):=by rw[hW];exact heap_alloc_new _ _
 have HX:=hid hbx
 have hi24:(Tryz.prog.info? 48).map (·.size)=some 3:=by kernel_rfl
 clear hbx
 go_enter Tryz.func25,Tryz.ntmps25
 go_wp2
 rw[<-hW]
 clear hW
 go_loopw[6] (fun i wr=>∃k:Nat,k<=n/\i=.int .i64 k/\Below W.heap.size W wr/\Hid (∀j g,j<k->l[j]? = some g->isP p g=false)) (fun i _=>n-(intOf i).toNat)
 case atStart=>exact ⟨0,Nat.zero_le _,rfl,Below.refl _ _,fun j g hj=>absurd hj (Nat.not_lt_zero _)⟩
 obtain ⟨k,hk,rfl,hb,hj⟩:=hrel
 have hbr:Below w.heap.size w wr:=hbW.trans (hb.mono hbW.size)
 have hbox:wr.heap[w.heap.size]? = some (.cells #[.string ⟨#[]⟩,.bool false,.string ⟨#[]⟩] 48 (0,0)):=(hb.block _ (by omega)).trans HX.out
 have HR:=hid (show ∀cs,(wr.setRow w.heap.size cs).heap[w.heap.size]? = some (.cells cs 48 (0,0)) from fun cs=>setRow_heap _ _ _ _ _ _ hbox)
 by_cases hlt:k<n
 ·obtain ⟨b0,o0,f,rfl,hbb,hx,hfm,h0,h1,h2⟩:=h.get hlt
  replace h0:=(hbr.cell (p:=⟨b0,o0+k*3,none⟩) (by show b0<_;omega)).trans h0
  replace h1:=(hbr.cell (p:=⟨b0,o0+k*3+1,none⟩) (by show b0<_;omega)).trans h1
  replace h2:=(hbr.cell (p:=⟨b0,o0+k*3+2,none⟩) (by show b0<_;omega)).trans h2
  by_cases hq:f.path=p
  ·have HO:=hid (show findP l p=some f from FirstAt.find ⟨hx,by simp[hq],hj.out⟩)
   have e1:(f.path.toList == p.toList)=true:=by rw[hq];exact beq_self_eq_true _
   clear hx hj hq
   go_wp2_with (refine wpList_store_row rfl 48 (.tmp 4) (.tmp 23) rfl w.heap.size #[.string f.path,.bool f.exec,.string f.text] rfl rfl _ _ hbox hi24 rfl (by simp[Value.oneCell']) ?_)
   try simp only[Exit.inBlock,Exit.then]
   refine bodyPost_ret (aAm rfl _ _ w.heap.size _ _ (0,0) _ rfl (HR.out _) Tryz.underlying48 rfl (by kernel_rfl)) rfl ?_
   refine ⟨?_,aAj hbr (Nat.le_refl _)⟩
   rw[HO.out];rfl
  have e1:=aBw hq
  have HQ:=hid (show ∀j g,j<k+1->l[j]? = some g->isP p g=false from fun j x hj' hx'=>by
   by_cases e:j=k
   ·subst e;rw[hx] at hx';injection hx' with hx';subst hx';simp[isP,hq]
   exact hj.out j x (by omega) hx')
  clear hx hq
  go_wp2
  go_roundw
  case rel=>exact ⟨k+1,by omega,by go_num,hb,HQ.out⟩
  simp[intOf];omega
 have hkn:k=n:=by omega
 subst hkn
 have HO:=hid (show findP l p=none from (aUu fun f hf=>by
  obtain ⟨i,hi,rfl⟩:=List.getElem_of_mem hf
  exact hj.out i _ (by have:=HL.out;omega) (List.getElem?_eq_getElem hi)).1)
 have hz:=aGw wr
 clear hj
 go_wp2_with (refine wpList_store_row rfl 48 (.tmp 4) (.tmp 24) rfl w.heap.size #[.string ⟨#[]⟩,.bool false,.string ⟨#[]⟩] rfl rfl _ _ hbox hi24 rfl (by simp[Value.oneCell']) ?_)
 try simp only[Exit.inBlock,Exit.then]
 refine bodyPost_ret (aAm rfl _ _ w.heap.size _ _ (0,0) _ rfl (HR.out _) Tryz.underlying48 rfl (by kernel_rfl)) rfl ?_
 refine ⟨?_,aAj hbr (Nat.le_refl _)⟩
 rw[HO.out];rfl
theorem aTa {A:Option Addr}{n c:Nat}{l:List FV}{p:ByteArray}{w:World}(hn:n<=1000000)(h:RdF w w.heap.size A n c l) :
  Calls Tryz.prog 53 #[.slice A n c,.string p] w (FilesIs (·=without l p) w):=by
 have HL:=hid h.len
 have HF:=hid h.fits
 go_enter Tryz.func53,Tryz.ntmps53
 go_wp2
 go_loopw[5,6] (fun lv i wr=>∃(k m:Nat),k<=n/\i=.int .i64 k/\Below w.heap.size w wr/\m<=k/\Hid ((without (l.take k) p).length=m)/\wr.ownsRow w.heap.size 48 3 lv m ((without (l.take k) p).flatMap FV.cells)) (fun _ i _=>n-(intOf i).toNat)
 case atStart=>exact ⟨0,0,Nat.zero_le _,rfl,Below.refl _ _,Nat.le_refl _,by rw[List.take_zero];exact rfl,by rw[List.take_zero];exact World.ownsRow_nil _ _ _ _⟩
 obtain ⟨k,m,hk,rfl,hb,hmk,hm,ho⟩:=hrel
 by_cases hlt:k<n
 ·obtain ⟨b0,o0,f,rfl,hbb,hx,hfm,h0,h1,h2⟩:=h.get hlt
  replace h0:=(hb.cell (p:=⟨b0,o0+k*3,none⟩) (by show b0<_;omega)).trans h0
  replace h1:=(hb.cell (p:=⟨b0,o0+k*3+1,none⟩) (by show b0<_;omega)).trans h1
  replace h2:=(hb.cell (p:=⟨b0,o0+k*3+2,none⟩) (by show b0<_;omega)).trans h2
  by_cases hq:f.path=p
  ·have e1:(f.path.toList == p.toList)=true:=by rw[hq];exact beq_self_eq_true _
   have HW:=hid (show without (l.take (k+1)) p=without (l.take k) p by rw[List.take_add_one,hx,without,List.filter_append];simp[hq,without])
   clear hx hq
   go_wp2
   go_roundw
   case rel=>exact ⟨k+1,m,by omega,by go_num,hb,by omega,by rw[HW.out];exact hm,by rw[HW.out];exact ho⟩
   simp[intOf];omega
  have e1:=aBw hq
  have HW:=hid (show without (l.take (k+1)) p=without (l.take k) p++[f] by rw[List.take_add_one,hx,without,List.filter_append];simp[hq,without])
  have hb1:=hb.alloc hb.size (.cells #[.string f.path,.bool f.exec,.string f.text] 48)
  have ho1:=ho.alloc (.cells #[.string f.path,.bool f.exec,.string f.text] 48)
  clear hx hq
  go_wp2_with (at_builtin;refine aAp rfl (.tmp 20) (.tmp 25) 29 rfl aCg rfl rfl ho1 (aOl wr f) (aBh _) (by unfold maxLen;omega) (by omega) hb1.size ?_;intro v7 w7 ho7 hg7 hv7)
  go_roundw
  case rel=>
   refine ⟨k+1,m+1,by omega,by go_num,hb1.grown hg7 hb1.size (fun g hg=>(ho1.lt g hg).1),by omega,?_,?_⟩
   ·show (without (l.take (k+1)) p).length=m+1
    rw[HW.out,List.length_append,hm.out];rfl
   rw[HW.out,List.flatMap_append];exact ho7
  simp[intOf];omega
 have hkn:k=n:=by omega
 subst hkn
 rw[List.take_of_length_le (by rw[HL.out];omega)] at hm ho
 go_wp2
 go_ret
 obtain ⟨A7,c7,rfl,hc7⟩:=aAe ho
 have hr:=Rd.of_own ho hc7
 rw[<-hm.out] at hr ⊢
 exact ⟨A7,c7,_,rfl,rfl,⟨hr,rfl,fun x hx=>HF.out x ((List.mem_filter.1 hx).1)⟩,hb⟩
theorem aQd {A:Option Addr}{n c:Nat}{l:List FV}{p:ByteArray}{w:World}(hn:n<=17592186044416)(hp:p.size<=maxLen)(h:RdF w w.heap.size A n c l) :
  Calls Tryz.prog 54 #[.slice A n c,.string p] w (BoolBelow (clashF l p) w):=by
 have HL:=hid h.len
 go_enter Tryz.func54,Tryz.ntmps54
 go_wp2
 go_loopw[5] (fun i wr=>∃k:Nat,k<=n/\i=.int .i64 k/\Below w.heap.size w wr/\Hid (clashF (l.take k) p=false)) (fun i _=>n-(intOf i).toNat)
 case atStart=>exact ⟨0,Nat.zero_le _,rfl,Below.refl _ _,by rw[List.take_zero];exact rfl⟩
 obtain ⟨k,hk,rfl,hb,hj⟩:=hrel
 by_cases hlt:k<n
 ·obtain ⟨b0,o0,f,rfl,hbb,hx,hfm,h0,h1,h2⟩:=h.get hlt
  replace h0:=(hb.cell (p:=⟨b0,o0+k*3,none⟩) (by show b0<_;omega)).trans h0
  have hfit:=(h.fits f hfm).1
  clear h1 h2
  have HN:=hid (show clashF (l.take (k+1)) p=(clashF (l.take k) p || (!decide (f.path=p) && clashP f.p p.data.toList)) by rw[List.take_add_one,hx];simp[clashF])
  by_cases hq:f.path=p
  ·have e1:(f.path.toList == p.toList)=true:=by rw[hq];exact beq_self_eq_true _
   have HO:=hid (show clashF (l.take (k+1)) p=false by rw[HN.out,hj.out,hq];simp)
   clear hx hq
   go_wp2
   go_roundw
   case rel=>exact ⟨k+1,by omega,by go_num,hb,HO.out⟩
   simp[intOf];omega
  have e1:=aBw hq
  have C:=aMf (p:=f.path) (d:=p) (w:=wr) (by unfold maxLen;omega) hp
  cases hc:clashP f.path.data.toList p.data.toList with
  | true=>
   rw[hc] at C
   have HO:=hid (show clashF l p=true by
    simp only[clashF,List.any_eq_true,Bool.and_eq_true]
    exact ⟨f,hfm,by simp[hq],hc⟩)
   clear hx hq hc
   go_wp2_with fail
   refine C.mono ?_
   rintro e w1 ⟨rfl,rfl⟩
   clear C
   go_wp2
   go_ret
   exact ⟨aAh HO.out.symm,hb⟩
  | false=>
   rw[hc] at C
   have HO:=hid (show clashF (l.take (k+1)) p=false by rw[HN.out,hj.out,FV.p,hc];simp)
   clear hx hq hc
   go_wp2_with fail
   refine C.mono ?_
   rintro e w1 ⟨rfl,rfl⟩
   clear C
   go_wp2
   go_roundw
   case rel=>exact ⟨k+1,by omega,by go_num,hb,HO.out⟩
   simp[intOf];omega
 have hkn:k=n:=by omega
 subst hkn
 have HO:=hid (show clashF l p=false by have:=hj.out;rwa [List.take_of_length_le (by rw[HL.out];omega)] at this)
 go_wp2
 go_ret
 exact ⟨aAh HO.out.symm,hb⟩
def NewAt (A:Option Addr)(B:Nat):Prop:=∀b o s,A=some ⟨b,o,s⟩->B<=b
theorem NewAt.none_ (B:Nat):NewAt none B:=fun _ _ _ h=>by cases h
def FilesIsN (P:List FV->Prop)(w:World)(e:Ending) (w':World):Prop:=
 ∃(A:Option Addr) (c:Nat) (l:List FV),e=.returned (.slice A l.length c)/\P l/\RdF w' w'.heap.size A l.length c l/\Below w.heap.size w w'/\NewAt A w.heap.size
theorem aMy {A:Option Addr}{n c:Nat}{l:List FV}{f:FV}{w:World}(hn:n<=1000000)(h:RdF w w.heap.size A n c l)(hff:f.path.size<=140737488351232/\f.text.size<=140737488351232) :
  Calls Tryz.prog 55 #[.slice A n c,.agg #[.string f.path,.bool f.exec,.string f.text]] w (FilesIsN (·=sortedIn l f) w):=by
 have HL:=hid h.len
 have HF:=hid h.fits
 have hcap:=h.row.cap
 obtain ⟨W,hW⟩:∃u,u=w.alloc (.cells #[.string f.path,.bool f.exec,.string f.text] 48):=⟨_,rfl⟩
 have hbW:Below w.heap.size w W:=by rw[hW];exact (Below.refl _ _).alloc (Nat.le_refl _) _
 have hzW:W.heap.size=w.heap.size+1:=by rw[hW];simp
 have hx:∀i u,f.cells[i]? = some u->∀u',Below W.heap.size W u'->u'.cell? ⟨w.heap.size,i,none⟩=some u:=fun i u hu u' hu'=>
  (hu'.cell (p:=⟨w.heap.size,i,none⟩) (by show w.heap.size<_;omega)).trans (by rw[hW,World.cell?,heap_alloc_new];simpa[FV.cells] using hu)
 have XB:=hid hx
 clear hx
 have hR:=h.row.to hbW hbW.size
 go_enter Tryz.func55,Tryz.ntmps55
 go_wp2
 rw[<-hW]
 clear hW
 rename_i K hK
 have TAIL:∀(wr:World) (k:Nat) (u6 u7 u8 u9 u10 u11 u12 u13 u14 u15 u16 u17 u18 u19 u20 u21:Value),k<=n->Below W.heap.size W wr->Hid (sortedIn l f=l.take k++f::l.drop k)->K ⟨#[.slice A n c,.agg #[.string f.path,.bool f.exec,.string f.text],undef,.pointer (some ⟨w.heap.size,0,none⟩),.slice none 0 0,.int .i64 k,u6,u7,u8,u9,u10,u11,u12,u13,u14,u15,u16,u17,u18,u19,u20,u21,undef,undef,undef,undef,undef,undef,undef,undef,undef,undef,undef],[]⟩ wr:=by
  intro wr k u6 u7 u8 u9 u10 u11 u12 u13 u14 u15 u16 u17 u18 u19 u20 u21 hk hbr HP
  refine hK _ _ ?_
  clear hK
  have HR:=hid (hR.below hbr)
  go_wp2
  refine aAs (fun v'=>Below W.heap.size W v') (.q 0 (.q 1 (.q 2 (.q 4 (.q 7 (.q 8 (.q 9 (.two 3 (.one 5 (.one 6 (.one 10 (.q 11 .leaf)))) 5 (.one 3 (.one 6 (.one 10 (.q 11 .leaf)))))))))))) mixed (by kernel_rfl) hbr.drew ?_
  intro Tp M Q hT hT' hM hQ
  have m0:M ⟨w.heap.size,0,none⟩=some (.string f.path):=hM _ _ fun w' hw=>XB.out 0 _ rfl w' hw
  have m1:M ⟨w.heap.size,1,none⟩=some (.bool f.exec):=hM _ _ fun w' hw=>XB.out 1 _ rfl w' hw
  have m2:M ⟨w.heap.size,2,none⟩=some (.string f.text):=hM _ _ fun w' hw=>XB.out 2 _ rfl w' hw
  clear hM
  refine aDb ?_
  intro O hO
  have t0:=hO true 0
  have t1:=hO true 1
  have t2:=hO true 2
  have t4:=hO true 4
  have t7:=hO true 7
  have t8:=hO true 8
  have t9:=hO true 9
  have t11:=hO true 11
  have e3:=hO false 3
  have e5:=hO false 5
  have e6:=hO false 6
  have e10:=hO false 10
  simp only[qcmp] at t0 t1 t2 t4 t7 t8 t9 t11 e3 e5 e6 e10
  clear hO
  simp (maxSteps:=9^7) only[↓wt_q,↓aAw,t0,t1,t2,t4,t7,t8,t9,e3,e5,↓qpre,aAb,aAd,aAc,m0,m1,m2]
  clear t0 t1 t2 t4 t7 t8 t9 m0 m1 m2
  have hrd:=HR.out.drew
  have hbd:Below W.heap.size W wr.drew:=hbr.drew
  clear hbr
  generalize wr.drew=w1 at *
  obtain ⟨A1,q1,r1⟩:=aZv hrd (l:=0) (k:=k) (by omega) hk
  obtain ⟨A2,q2,r2⟩:=aZv hrd (l:=k) (k:=n) hk (Nat.le_refl _)
  rw[q1,q2]
  rw[Nat.sub_zero,List.drop_zero] at r1
  rw[List.take_of_length_le (by rw[HL.out];omega)] at r2
  clear q1 q2 hrd
  have hbs:=hbd.size
  simp only[Nat.sub_zero]
  refine ⟨⟨by omega,by omega⟩,⟨by omega,by omega⟩,?_,?_⟩
  ·refine aAu aCg (base:=W.heap.size) (n:=0) (xs:=[]) rfl rfl (World.ownsRow_nil _ _ _ _) r1 (aBh _) (by simp only[maxLen];omega) (by omega) hbs ?_
   intro v1 w2 ho1 hg1 _
   rw[Nat.zero_add,List.nil_append] at ho1
   have hb2:=hbd.grown hg1 hbs (fun g hg=>by cases hg)
   replace r2:=r2.below (aKs (w:=w1) (w':=w2) hg1 |>.mono hbs)
   refine ⟨hT _ hb2,?_⟩
   simp (maxSteps:=9^7) only[↓aAk,e5,aAb,aAc]
   refine T.eff_lits (T.run_lits3 aCg (.string f.path) (.bool f.exec) (.string f.text) _) rfl ⟨hT _ (hb2.alloc hb2.size _),?_⟩
   have ho1':=ho1.alloc (.cells #[.string f.path,.bool f.exec,.string f.text] 48)
   have hv:=aOl w2 f
   have hb3:=hb2.alloc hb2.size (.cells #[.string f.path,.bool f.exec,.string f.text] 48)
   replace r2:=r2.below ((Below.refl w2.heap.size w2).alloc (Nat.le_refl _) (.cells #[.string f.path,.bool f.exec,.string f.text] 48) |>.mono hb2.size)
   clear ho1 hg1 hb2 r1 hbd hbs
   simp (maxSteps:=9^7) only[↓aAk,e6,aAb,aAc]
   generalize w2.alloc (.cells #[.string f.path,.bool f.exec,.string f.text] 48)=w3 at *
   refine aAu aCg (base:=W.heap.size) (n:=k) rfl rfl ho1' hv (aBh _) (by simp only[maxLen];omega) (by omega) hb3.size ?_
   intro v4 w4 ho4 hg4 _
   have hb4:=hb3.grown hg4 hb3.size (fun g hg=>(ho1'.lt g hg).1)
   replace r2:=r2.grown hg4 hb3.size (fun g hg=>(ho1'.lt g hg).1)
   refine ⟨hT _ hb4,?_⟩
   simp (maxSteps:=9^7) only[↓aAk,e10,aAb,aAc]
   refine aAu aCg (base:=W.heap.size) (n:=k+1) rfl rfl ho4 r2 (aBh _) (by simp only[maxLen];omega) (by omega) hb4.size ?_
   intro v5 w5 ho5 hg5 _
   have hb5:=hb4.grown hg5 hb4.size (fun g hg=>(ho4.lt g hg).1)
   refine ⟨hT _ hb5,?_⟩
   simp (maxSteps:=9^7) only[↓aCq,↓wt_q,t11,↓qpre,aAb,aAc]
   refine hQ _ _ ?_
   have HB:=hid hb5
   have HO:=hid ho5
   clear hQ hT hT' t11 e3 e5 e6 e10 ho1' hv hb3 ho4 hg4 hb4 r2 hb5 ho5 hg5
   try clear x0
   go_wp2
   go_ret
   obtain ⟨A5,c5,rfl,hc5⟩:=aAe HO.out
   have hr5:=Rd.of_own HO.out hc5
   rw[<-List.flatMap_append,<-List.flatMap_append] at hr5
   have hll:(l.take k++[f]++l.drop k).length=k+1+(n-k):=by rw[List.length_append,List.length_append,List.length_take,List.length_drop,HL.out,Nat.min_eq_left hk];rfl
   rw[<-hll] at hr5 ⊢
   refine ⟨A5,c5,_,rfl,?_,⟨hr5,rfl,fun x hx=>?_⟩,hbW.trans (HB.out.mono (by omega)),fun b o s hA=>by have:=(HO.out.lt b (by rw[hA];rfl)).1;omega⟩
   ·rw[HP.out];simp
   simp only[List.mem_append,List.mem_singleton] at hx
   rcases hx with (hx | rfl) | hx
   ·exact HF.out x (List.mem_of_mem_take hx)
   ·exact hff
   exact HF.out x (List.mem_of_mem_drop hx)
  refine T.eff_lits (T.run_lits3 aCg (.string f.path) (.bool f.exec) (.string f.text) _) rfl ⟨hT _ (hbd.alloc hbs _),?_⟩
  have hv0:=aOl w1 f
  have hb2:=hbd.alloc hbs (.cells #[.string f.path,.bool f.exec,.string f.text] 48)
  replace r1:=r1.below ((Below.refl w1.heap.size w1).alloc (Nat.le_refl _) (.cells #[.string f.path,.bool f.exec,.string f.text] 48) |>.mono hbs)
  replace r2:=r2.below ((Below.refl w1.heap.size w1).alloc (Nat.le_refl _) (.cells #[.string f.path,.bool f.exec,.string f.text] 48) |>.mono hbs)
  simp (maxSteps:=9^7) only[↓aAk,e3,aAb,aAc]
  generalize w1.alloc (.cells #[.string f.path,.bool f.exec,.string f.text] 48)=w2 at *
  have hbs2:=hb2.size
  refine aAu aCg (base:=W.heap.size) (n:=0) (xs:=[]) rfl rfl (World.ownsRow_nil _ _ _ _) r1 (aBh _) (by simp only[maxLen];omega) (by omega) hbs2 ?_
  intro v1 w3 ho1' hg1 _
  rw[Nat.zero_add,List.nil_append] at ho1'
  have hb3:=hb2.grown hg1 hbs2 (fun g hg=>by cases hg)
  have hgb:=aKs (w:=w2) (w':=w3) hg1
  replace r2:=r2.below (hgb.mono hbs2)
  have hv:=hv0.below hgb
  clear hv0 hg1 hb2 r1 hbd hbs hbs2 hgb
  refine ⟨hT _ hb3,?_⟩
  simp (maxSteps:=9^7) only[↓aAk,e6,aAb,aAc]
  refine aAu aCg (base:=W.heap.size) (n:=k) rfl rfl ho1' hv (aBh _) (by simp only[maxLen];omega) (by omega) hb3.size ?_
  intro v4 w4 ho4 hg4 _
  have hb4:=hb3.grown hg4 hb3.size (fun g hg=>(ho1'.lt g hg).1)
  replace r2:=r2.grown hg4 hb3.size (fun g hg=>(ho1'.lt g hg).1)
  refine ⟨hT _ hb4,?_⟩
  simp (maxSteps:=9^7) only[↓aAk,e10,aAb,aAc]
  refine aAu aCg (base:=W.heap.size) (n:=k+1) rfl rfl ho4 r2 (aBh _) (by simp only[maxLen];omega) (by omega) hb4.size ?_
  intro v5 w5 ho5 hg5 _
  have hb5:=hb4.grown hg5 hb4.size (fun g hg=>(ho4.lt g hg).1)
  refine ⟨hT _ hb5,?_⟩
  simp (maxSteps:=9^7) only[↓aCq,↓wt_q,t11,↓qpre,aAb,aAc]
  refine hQ _ _ ?_
  have HB:=hid hb5
  have HO:=hid ho5
  clear hQ hT hT' t11 e3 e5 e6 e10 ho1' hv hb3 ho4 hg4 hb4 r2 hb5 ho5 hg5
  try clear x0
  go_wp2
  go_ret
  obtain ⟨A5,c5,rfl,hc5⟩:=aAe HO.out
  have hr5:=Rd.of_own HO.out hc5
  rw[<-List.flatMap_append,<-List.flatMap_append] at hr5
  have hll:(l.take k++[f]++l.drop k).length=k+1+(n-k):=by rw[List.length_append,List.length_append,List.length_take,List.length_drop,HL.out,Nat.min_eq_left hk];rfl
  rw[<-hll] at hr5 ⊢
  refine ⟨A5,c5,_,rfl,?_,⟨hr5,rfl,fun x hx=>?_⟩,hbW.trans (HB.out.mono (by omega)),fun b o s hA=>by have:=(HO.out.lt b (by rw[hA];rfl)).1;omega⟩
  ·rw[HP.out];simp
  simp only[List.mem_append,List.mem_singleton] at hx
  rcases hx with (hx | rfl) | hx
  ·exact HF.out x (List.mem_of_mem_take hx)
  ·exact hff
  exact HF.out x (List.mem_of_mem_drop hx)
 clear hK
 go_loopw[5] (fun i wr=>∃k:Nat,k<=n/\i=.int .i64 k/\Below W.heap.size W wr/\Hid (∀j g,j<k->l[j]? = some g->g.p<f.p)) (fun i _=>n-(intOf i).toNat)
 case atStart=>exact ⟨0,Nat.zero_le _,rfl,Below.refl _ _,fun j g hj=>absurd hj (Nat.not_lt_zero _)⟩
 obtain ⟨k,hk,rfl,hb,hj⟩:=hrel
 have hbr:Below w.heap.size w wr:=hbW.trans (hb.mono hbW.size)
 have CUT:(∀g,l[k]? = some g->¬g.p<f.p)->Hid (sortedIn l f=l.take k++f::l.drop k):=fun hn=>by
  show sortedIn l f=_
  conv=>lhs;rw[<-List.take_append_drop k l]
  refine aQa (fun x hx=>?_) fun x hx=>hn x (by rwa [List.getElem?_drop,Nat.add_zero] at hx)
  obtain ⟨j,hj',e⟩:=List.getElem_of_mem hx
  rw[List.length_take] at hj'
  rw[List.getElem_take] at e
  exact hj.out j x (by omega) (by rw[<-e];exact List.getElem?_eq_getElem _)
 by_cases hlt:k<n
 ·obtain ⟨b0,o0,g,rfl,hbb,hx,hfm,h0,_,_⟩:=h.get hlt
  replace h0:=(hbr.cell (p:=⟨b0,o0+k*3,none⟩) (by show b0<_;omega)).trans h0
  go_wp2
  refine aAi (fun w'=>Below W.heap.size W w') (qs 14) mixed (by kernel_rfl) hb.drew ?_
  have hbd:=hb.drew
  intro Tp M Q hT hT' hM hQ
  have m0:M ⟨b0,o0+k*3,none⟩=some (.string g.path):=hM _ _ fun w' hw=>((hbW.trans (hw.mono hbW.size)).cell (p:=⟨b0,o0+k*3,none⟩) (by show b0<_;omega)).trans ((hbr.cell (p:=⟨b0,o0+k*3,none⟩) (by show b0<_;omega)).symm.trans h0)
  have mb:M ⟨w.heap.size,0,none⟩=some (.string f.path):=hM _ _ fun w' hw=>XB.out 0 _ rfl w' hw
  simp only[qcmp]
  have hk1:decide ((k:Int)<n)=true:=decide_eq_true (by omega)
  by_cases hq:g.path.data.toList<f.path.data.toList
  ·have hl:=(aPm g.path f.path).trans (decide_eq_true hq)
   have HQ:=hid (show ∀j x,j<k+1->l[j]? = some x->x.p<f.p from fun j x hj' hx'=>by
    by_cases e:j=k
    ·subst e;rw[hx] at hx';injection hx' with hx';subst hx';exact hq
    exact hj.out j x (by omega) hx')
   clear hq hx CUT
   simp (maxSteps:=9^7) only[↓qpre,aAb,aAd,aAc,m0,mb,hk1,hl]
   refine ⟨⟨by omega,by omega⟩,hQ _ _ ?_⟩
   clear hQ hT hT' hM m0 mb hl TAIL
   go_wp2
   go_roundw
   case rel=>exact ⟨k+1,by omega,by go_num,hbd,HQ.out⟩
   simp[intOf];omega
  have hl:=(aPm g.path f.path).trans (decide_eq_false hq)
  have HC:=CUT (fun x hx'=>by rw[hx] at hx';injection hx' with hx';subst hx';exact hq)
  clear hq hx CUT
  simp (maxSteps:=9^7) only[↓qpre,aAb,aAd,aAc,m0,mb,hk1,hl]
  refine ⟨⟨by omega,by omega⟩,hQ _ _ ?_⟩
  clear hQ hT hT' hM m0 mb hl
  go_wp2
  exact TAIL _ k _ _ _ _ _ _ _ _ _ _ _ _ _ _ _ _ hk hbd HC
 have hkn:k=n:=by omega
 subst hkn
 have HC:=CUT (fun x hx'=>by have:=(List.getElem?_eq_some_iff.1 hx').1;rw[HL.out] at this;omega)
 clear CUT
 go_wp2
 refine aAi (fun w'=>Below W.heap.size W w') (qs 14) mixed (by kernel_rfl) hb.drew ?_
 have hbd:=hb.drew
 intro Tp M Q hT hT' hM hQ
 simp only[qcmp]
 have hk1:decide ((k:Int)<k)=false:=decide_eq_false (by omega)
 simp (maxSteps:=9^7) only[↓qpre,aAb,aAd,aAc,hk1]
 refine hQ _ _ ?_
 clear hQ hT hT' hM
 go_wp2
 exact TAIL _ k _ _ _ _ _ _ _ _ _ _ _ _ _ _ _ _ hk hbd HC
end Go.Proofs.YtohblmepajhpaaaGreatDoor
