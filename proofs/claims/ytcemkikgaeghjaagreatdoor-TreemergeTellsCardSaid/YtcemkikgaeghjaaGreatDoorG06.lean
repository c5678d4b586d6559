/- Texts of the walks, together: Regions that draw their order and leave more than one order to their effects: a tree of orders. Lists held against each other; structs held against each other. Lists of api.File: held against each other. -/
import Derived.Laws.Tables
import Derived.Laws.StructEq
import Derived.Test.YtcemkikgaeghjaaGreatDoorG05
set_option maxHeartbeats 4000000
set_option maxRecDepth 100000
open Go.Lib (hid)
namespace Go.Proofs.YtcemkikgaeghjaaGreatDoor
open Go.RowKit
inductive PT
 | leaf
 | q (i:Nat) (t:PT)
 | b (i:Nat) (t:PT)
 | one (i:Nat) (t:PT)
 | two (i:Nat) (t:PT) (j:Nat) (u:PT)
 | three (i:Nat) (t:PT) (j:Nat) (u:PT) (k:Nat) (v:PT)
def PT.dep:PT->Nat
 | .leaf=>0
 | .q _ t=>t.dep+1
 | .b _ t=>t.dep+1
 | .one _ t=>t.dep+1
 | .two _ t _ u=>max t.dep u.dep+1
 | .three _ t _ u _ v=>max t.dep (max u.dep v.dep)+1
def among (m:Nat)(l:List Nat):List (Nat×Nat)->Nat->Bool
 | [],_=>true
 | x::r,j=>(l.any (Nat.beq j) || m.testBit j || !inM x.1 m) && among m l r (j+1)
def upB (D:List (Nat×Nat))(m i:Nat):Bool:=
 match D[i]? with
 | none=>false
 | some x=>!m.testBit i && inM x.1 m
def okB (ops:Array Oper)(i:Nat):Bool:=
 (ops[i]?).isSome && (match (ops[i]?).bind (·.guard) with | some (j,_)=>((ops[j]?).bind (·.dst)).isSome | none=>true)
def okN (ops:Array Oper)(i:Nat):Bool:=
 match ops[i]? with
 | some o=>o.guard.isNone
 | none=>false
def planT (ops:Array Oper)(D:List (Nat×Nat)):PT->Nat->Bool
 | .leaf,m=>inM (2 ^ D.length-1) m
 | .q i t,m=>(match D[i]? with | none=>false | some x=>!m.testBit i && inM x.1 m && inM x.2 m) && okB ops i && planT ops D t (Nat.lor m (2 ^ i))
 | .b i t,m=>(match D[i]? with | none=>false | some x=>!m.testBit i && inM x.1 m && inM x.2 m) && okN ops i && planT ops D t (Nat.lor m (2 ^ i))
 | .one i t,m=>upB D m i && among m [i] D 0 && okB ops i && planT ops D t (Nat.lor m (2 ^ i))
 | .two i t j u,m=>upB D m i && among m [i,j] D 0 && okB ops i && okB ops j && planT ops D t (Nat.lor m (2 ^ i)) && planT ops D u (Nat.lor m (2 ^ j))
 | .three i t j u k v,m=>upB D m i && among m [i,j,k] D 0 && okB ops i && okB ops j && okB ops k && planT ops D t (Nat.lor m (2 ^ i)) && planT ops D u (Nat.lor m (2 ^ j)) && planT ops D v (Nat.lor m (2 ^ k))
structure Rel (ops:Array Oper) (listed:Array Bool) (m:Nat):Prop where
 size:listed.size=ops.size
 bits:∀j,j<ops.size->listed[j]? = some (m.testBit j)
 out:∀j,ops.size<=j->m.testBit j=false
section
variable {ops:Array Oper} {listed:Array Bool} {m:Nat}
theorem Rel.set (h:Rel ops listed m){i:Nat}(hi:i<ops.size):Rel ops (listed.setIfInBounds i true) (Nat.lor m (2 ^ i)):=by
 refine ⟨by simp[h.size],fun j hj=>?_,fun j hj=>?_⟩
 ·rw[show Nat.lor m (2 ^ i)=m ||| 2 ^ i from rfl,Array.getElem?_setIfInBounds]
  by_cases hij:i=j
  ·subst hij;simp[h.size,hi,Nat.testBit_or]
  rw[if_neg hij,h.bits j hj,Nat.testBit_or,Nat.testBit_two_pow];simp[hij]
 rw[show Nat.lor m (2 ^ i)=m ||| 2 ^ i from rfl,Nat.testBit_or,Nat.testBit_two_pow,h.out j hj];simp;omega
theorem aIk (_h:Rel ops listed m)(oj:Oper):inM (obits ops oj).dep m=true↔∀e∈oj.after,Region.binds .any e=true->m.testBit e.on=true:=by
 constructor
 ·intro hh e he hbd
  refine aJk hh ?_
  simp only[obits,aAx,decide_eq_true_eq,List.mem_filterMap]
  exact ⟨e,by simpa using he,by simp[hbd]⟩
 intro hh
 refine bGc fun t ht=>?_
 simp only[obits,aAx,decide_eq_true_eq,List.mem_filterMap] at ht
 obtain ⟨e,he,hte⟩:=ht
 split at hte
 ·rename_i hbd
  cases hte
  exact hh e (by simpa using he) hbd
 cases hte
theorem aFr (h:Rel ops listed m){j:Nat}{oj:Oper}(hj:ops[j]? = some oj):j∈Region.ready .any ops listed↔m.testBit j=false/\inM (obits ops oj).dep m=true:=by
 have hjlt:j<ops.size:=(Array.getElem?_eq_some_iff.1 hj).1
 rw[mem_ready]
 constructor
 ·rintro ⟨g1,oj',hj',g2⟩
  rw[hj] at hj';cases hj'
  refine ⟨by simpa[h.bits j hjlt] using g1,(aIk h oj).2 fun e he hbd=>?_⟩
  have:=g2 e he hbd
  by_cases hlt:e.on<ops.size
  ·simpa[h.bits _ hlt] using this
  have hn:listed[e.on]? = none:=by rw[Array.getElem?_eq_none];have:=h.size;omega
  simp[hn] at this
 rintro ⟨g1,g2⟩
 refine ⟨by simp[h.bits j hjlt,g1],oj,hj,fun e he hbd=>?_⟩
 have hb:=(aIk h oj).1 g2 e he hbd
 by_cases hlt:e.on<ops.size
 ·simp[h.bits _ hlt,hb]
 rw[h.out _ (by omega)] at hb
 cases hb
theorem aGo {j:Nat}{oj:Oper}(hj:ops[j]? = some oj):(dataOf ops)[j]? = some ((obits ops oj).dep,clash j (obits ops oj) (ops.toList.map (obits ops)) 0):=by
 have hj':ops.toList[j]? = some oj:=by simpa using hj
 simp only[dataOf]
 rw[aEn,List.getElem?_map,hj']
 simp
theorem bBm (h:Rel ops listed m){i:Nat}{o:Oper}(hoi:ops[i]? = some o)(h3:inM (clash i (obits ops o) (ops.toList.map (obits ops)) 0) m=true):Region.free .any ops listed i=true:=by
 simp only[Region.free,hoi,List.all_eq_true,List.mem_range,Bool.or_eq_true,beq_iff_eq]
 intro j hj
 by_cases hji:j=i
 ·exact .inl (.inl hji)
 cases hm:m.testBit j with
 | true=>exact .inl (.inr (by simp[h.bits j hj,hm]))
 | false=>
  right
  obtain ⟨oj,hoj⟩:∃oj,ops[j]? = some oj:=⟨ops[j],Array.getElem?_eq_getElem hj⟩
  simp only[hoj,Bool.or_eq_true]
  have hcl:(clash i (obits ops o) (ops.toList.map (obits ops)) 0).testBit (0+j)=false:=by
   rw[Nat.zero_add]
   cases hc:(clash i (obits ops o) (ops.toList.map (obits ops)) 0).testBit j with
   | false=>rfl
   | true=>
    have:=aJk h3 hc
    simp[hm] at this
  have hjl:(ops.toList.map (obits ops))[j]? = some (obits ops oj):=by
   rw[List.getElem?_map];have:ops.toList[j]? = some oj:=by simpa using hoj
   rw[this];rfl
  rcases aNe _ 0 j _ hjl hcl with g | g | g
  ·exact absurd (by omega) hji
  ·left
   simp only[obits,aAx,decide_eq_true_eq,List.mem_filterMap] at g
   obtain ⟨e,he,hte⟩:=g
   split at hte
   ·rename_i hbd
    rw[Array.any_eq_true']
    exact ⟨e,by simpa using he,by simp at hte;simp[hbd,hte]⟩
   cases hte
  right
  obtain ⟨g1,g2⟩:=g
  have nb:∀(a b:Nat),a &&& b=0->∀t,a.testBit t=true->b.testBit t=true->False:=by
   intro a b hab t ha hb
   have:=congrArg (·.testBit t) hab
   simp[Nat.testBit_and,ha,hb] at this
  simp only[Oper.apart,Bool.and_eq_true]
  constructor
  ·cases hd:o.dst with
   | none=>rfl
   | some d=>
    simp only[Bool.and_eq_true,Bool.not_eq_true',bne_iff_ne]
    have hbd:(obits ops o).dst.testBit d=true:=by simp[obits,hd]
    constructor
    ·cases hc:(oj.looksAt ops).contains d with
     | false=>rfl
     | true=>
      exfalso
      refine nb _ _ g1 d ?_ hbd
      rw[show Nat.lor _ _=_ ||| _ from rfl,Nat.testBit_or]
      have:(obits ops oj).look.testBit d=true:=by
       simp only[obits,aAx,decide_eq_true_eq];simpa using hc
      simp[this]
    intro hdd
    refine nb _ _ g1 d ?_ hbd
    rw[show Nat.lor _ _=_ ||| _ from rfl,Nat.testBit_or]
    have:(obits ops oj).dst.testBit d=true:=by simp[obits,hdd]
    simp[this]
  cases hd:oj.dst with
  | none=>rfl
  | some d=>
   simp only[Bool.not_eq_true']
   cases hc:(o.looksAt ops).contains d with
   | false=>rfl
   | true=>
    exfalso
    refine nb _ _ g2 d ?_ ?_
    ·simp only[obits,aAx,decide_eq_true_eq];simpa using hc
    simp[obits,hd]
theorem aPd {l:List Nat}:∀(r:List (Nat×Nat))(k j:Nat)(x:Nat×Nat),among m l r k=true->r[j]? = some x->k+j∈l\/m.testBit (k+j)=true\/inM x.1 m=false
 | [],k,j,x,_,h=>by simp at h
 | z::r,k,0,x,h,hx=>by
  obtain rfl:z=x:=by simpa using hx
  simp only[among,Bool.and_eq_true,Bool.or_eq_true] at h
  rcases h.1 with (h1 | h1) | h1
  ·obtain ⟨y,hy,he⟩:=List.any_eq_true.1 h1
   have:=Nat.eq_of_beq_eq_true he
   subst this
   exact .inl (by simpa using hy)
  ·exact .inr (.inl (by simpa using h1))
  exact .inr (.inr (by simpa using h1))
 | z::r,k,j+1,x,h,hx=>by
  simp only[among,Bool.and_eq_true] at h
  have:=aPd r (k+1) j x h.2 (by simpa using hx)
  rw[show k+1+j=k+(j+1) from by omega] at this
  exact this
theorem aHj (h:Rel ops listed m){l:List Nat}(ha:among m l (dataOf ops) 0=true){j:Nat}(hj:j∈Region.ready .any ops listed):j∈l:=by
 obtain ⟨_,oj,hoj,_⟩:=mem_ready.1 hj
 obtain ⟨g1,g2⟩:=(aFr h hoj).1 hj
 rcases aPd _ 0 j _ ha (aGo hoj) with g | g | g
 ·simpa using g
 ·simp[g1] at g
 rw[g2] at g;cases g
theorem aMz (h:Rel ops listed m){i:Nat}(hu:upB (dataOf ops) m i=true):i∈Region.ready .any ops listed:=by
 unfold upB at hu
 split at hu
 ·cases hu
 rename_i x hx
 simp only[Bool.and_eq_true,Bool.not_eq_true'] at hu
 have hl:(dataOf ops).length=ops.size:=by
  have hh:∀(all l:List OBits) (k:Nat),(clashes all l k).length=l.length:=by
   intro all l
   induction l with
   | nil=>intro k;rfl
   | cons x l ih=>intro k;simp[clashes,ih]
  simp[dataOf,hh]
 have hi:i<ops.size:=by rw[<-hl];exact (List.getElem?_eq_some_iff.1 hx).1
 have ho:ops[i]? = some ops[i]:=Array.getElem?_eq_getElem hi
 rw[aGo ho] at hx
 cases hx
 exact (aFr h ho).2 hu
end
def bq (P:Program)(S:World->Prop)(x:QOp)(a:Act)(K:Act->World->Prop)(w:World):Prop:=∃v,QYields P S x.op x.type a v/\K (a.put x.dst v) w
def wt (P:Program)(S:World->Prop)(M:Addr->Option Value)(ops:Array Oper)(Q:Act->World->Prop):PT->Act->World->Prop
 | .leaf=>Q
 | .q i t=>fun a w=>wq P S M (wt P S M ops Q t) [cmp1 ops true i] a w
 | .b i t=>fun a w=>bq P S (cmp1 ops true i) a (wt P S M ops Q t) w
 | .one i t=>fun a w=>wq P S M (wt P S M ops Q t) [cmp1 ops false i] a w
 | .two i t j u=>fun a w=>wq P S M (wt P S M ops Q t) [cmp1 ops false i] a w/\wq P S M (wt P S M ops Q u) [cmp1 ops false j] a w
 | .three i t j u k v=>fun a w=>wq P S M (wt P S M ops Q t) [cmp1 ops false i] a w/\wq P S M (wt P S M ops Q u) [cmp1 ops false j] a w/\wq P S M (wt P S M ops Q v) [cmp1 ops false k] a w
section
variable {P:Program} {S:World->Prop} {M:Addr->Option Value} {ops:Array Oper} {Q:Act->World->Prop} {Q':Exit->Act->World->Prop}
theorem bCd {i:Nat}{q:Bool}(h:okB ops i=true):([(q,i)].all fun x=>(ops[x.2]?).isSome && (match (ops[x.2]?).bind (·.guard) with | some (j,_)=>((ops[j]?).bind (·.dst)).isSome | none=>true))=true:=by
 simpa[okB] using h
theorem aJo (hM:∀p v,M p=some v->∀w,S w->w.cell? p=some v){C K:Act->World->Prop}{i:Nat}{a:Act}{w:World}(ho:okB ops i=true)(hS:S w)
  (h:wq P S M C [cmp1 ops false i] a w) (hK:∀a' w',S w'->C a' w'->K a' w') :
  wpOp P ops Q' i (fun a' w'=>S w'/\K a' w') a w:=by
 have h1:=aBt (ops:=ops) (Q:=C) hM [(false,i)] a w (bCd ho) h
 simp only[wl] at h1
 cases hoi:ops[i]? with
 | none=>simp only[hoi] at h1
 | some o=>
  simp only[hoi] at h1
  unfold wpOp
  simp only[hoi]
  by_cases hw:Region.wanted o (yielded ops a.tmps)=true
  ·rw[if_pos hw] at h1 ⊢
   simp only[Bool.false_eq_true,if_false] at h1
   exact .inl (aFa (fun a' w' hh=>⟨hh.1,hK _ _ hh.1 hh.2⟩) (fun _ _ _ hh=>hh.elim) h1)
  rw[if_neg hw] at h1 ⊢
  exact ⟨hS,hK _ _ hS h1⟩
theorem bFk (hs:Region.noSelect ops=true)(hM:∀p v,M p=some v->∀w,S w->w.cell? p=some v)(hQ:∀a w,Q a w->Q' .normal a w)(hP:∀c a w,¬Q' (.panic c) a w) :
  ∀(t:PT) (m:Nat) (listed:Array Bool) (fuel:Nat) (a:Act) (w:World),Rel ops listed m->planT ops (dataOf ops) t m=true->t.dep<=fuel->S w->
   wt P S M ops Q t a w->wpAnyH P .any ops Q' S fuel listed a w:=by
 intro t
 have lt:∀{i:Nat},okB ops i=true->i<ops.size:=fun {i} h=>by
  simp only[okB,Bool.and_eq_true] at h
  obtain ⟨o,ho⟩:=Option.isSome_iff_exists.1 h.1
  exact (Array.getElem?_eq_some_iff.1 ho).1
 induction t with
 | leaf=>
  intro m listed fuel a w hr hp hf hS h
  simp only[planT] at hp
  refine wpAnyH_done ?_ (hQ _ _ h) fuel
  apply List.eq_nil_iff_forall_not_mem.2
  intro j hj
  obtain ⟨_,oj,hoj,_⟩:=mem_ready.1 hj
  have hjlt:j<ops.size:=(Array.getElem?_eq_some_iff.1 hoj).1
  have hl:(dataOf ops).length=ops.size:=by
   have hh:∀(all l:List OBits) (k:Nat),(clashes all l k).length=l.length:=by
    intro all l
    induction l with
    | nil=>intro k;rfl
    | cons x l ih=>intro k;simp[clashes,ih]
   simp[dataOf,hh]
  rw[hl] at hp
  have hb:=aJk hp (t:=j) (by rw[Nat.testBit_two_pow_sub_one];simpa using hjlt)
  have:=((aFr hr hoj).1 hj).1
  rw[hb] at this;cases this
 | q i t ih=>
  intro m listed fuel a w hr hp hf hS h
  obtain ⟨fuel,rfl⟩:∃k,fuel=k+1:=⟨fuel-1,by simp only[PT.dep] at hf;omega⟩
  simp only[PT.dep,Nat.add_le_add_iff_right] at hf
  simp only[planT,Bool.and_eq_true] at hp
  obtain ⟨⟨h1,h2⟩,h3⟩:=hp
  have hi:=lt h2
  have hoi:ops[i]? = some ops[i]:=Array.getElem?_eq_getElem hi
  rw[aGo hoi] at h1
  simp only[Bool.and_eq_true,Bool.not_eq_true'] at h1
  obtain ⟨⟨g1,g2⟩,g3⟩:=h1
  have hw1:=aBt (ops:=ops) (Q:=wt P S M ops Q t) hM [(true,i)] a w (bCd h2) h
  simp only[wl,hoi] at hw1
  have hrd:=(aFr hr hoi).2 ⟨g1,g2⟩
  have hfr:=bBm hr hoi g3
  by_cases hw:Region.wanted ops[i] (yielded ops a.tmps)=true
  ·rw[if_pos hw,if_pos trivial] at hw1
   obtain ⟨v,hv,hk⟩:=hw1
   exact wpAnyH_take hoi hs hfr (by simpa using hrd) (fun c a w hh=>absurd hh (hP _ _ _)) (.inl ⟨hw,fun w hw'=>hv w _ _ _ _ hw'⟩) hS (ih _ _ fuel _ w (hr.set hi) h3 hf hS hk)
  rw[if_neg hw] at hw1
  exact wpAnyH_take hoi hs hfr (by simpa using hrd) (fun c a w hh=>absurd hh (hP _ _ _)) (.inr ⟨by simpa using hw,rfl⟩) hS (ih _ _ fuel _ w (hr.set hi) h3 hf hS hw1)
 | b i t ih=>
  intro m listed fuel a w hr hp hf hS h
  obtain ⟨fuel,rfl⟩:∃k,fuel=k+1:=⟨fuel-1,by simp only[PT.dep] at hf;omega⟩
  simp only[PT.dep,Nat.add_le_add_iff_right] at hf
  simp only[planT,Bool.and_eq_true] at hp
  obtain ⟨⟨h1,h2⟩,h3⟩:=hp
  unfold okN at h2
  split at h2
  ·rename_i o hoi
   rw[aGo hoi] at h1
   simp only[Bool.and_eq_true,Bool.not_eq_true'] at h1
   obtain ⟨⟨g1,g2⟩,g3⟩:=h1
   have hi:i<ops.size:=(Array.getElem?_eq_some_iff.1 hoi).1
   have hrd:=(aFr hr hoi).2 ⟨g1,g2⟩
   have hfr:=bBm hr hoi g3
   have hg:o.guard=none:=by simpa using h2
   have ho':ops.toList[i]? = some o:=by simpa using hoi
   simp only[wt,bq,cmp1,ho'] at h
   obtain ⟨v,hv,hk⟩:=h
   exact wpAnyH_take hoi hs hfr (by simpa using hrd) (fun c a w hh=>absurd hh (hP _ _ _)) (.inl ⟨by simp[Region.wanted,hg],fun w hw'=>hv w _ _ _ _ hw'⟩) hS (ih _ _ fuel _ w (hr.set hi) h3 hf hS hk)
  cases h2
 | one i t ih=>
  intro m listed fuel a w hr hp hf hS h
  obtain ⟨fuel,rfl⟩:∃k,fuel=k+1:=⟨fuel-1,by simp only[PT.dep] at hf;omega⟩
  simp only[PT.dep,Nat.add_le_add_iff_right] at hf
  simp only[planT,Bool.and_eq_true] at hp
  obtain ⟨⟨⟨h1,h2⟩,h3⟩,h4⟩:=hp
  refine wpAnyH_all rfl (fun e=>by have:=aMz hr h1;rw[e] at this;cases this) fun j hj=>?_
  have hjl:=aHj hr h2 hj
  obtain rfl:j=i:=by simpa using hjl
  exact aJo hM h3 hS h fun a' w' hS' hC=>ih _ _ fuel _ w' (hr.set (lt h3)) h4 hf hS' hC
 | two i t j u ih1 ih2=>
  intro m listed fuel a w hr hp hf hS h
  obtain ⟨fuel,rfl⟩:∃k,fuel=k+1:=⟨fuel-1,by simp only[PT.dep] at hf;omega⟩
  simp only[PT.dep,Nat.add_le_add_iff_right] at hf
  simp only[planT,Bool.and_eq_true] at hp
  obtain ⟨⟨⟨⟨⟨h1,h2⟩,h3⟩,h4⟩,h5⟩,h6⟩:=hp
  refine wpAnyH_all rfl (fun e=>by have:=aMz hr h1;rw[e] at this;cases this) fun x hx=>?_
  have hxl:=aHj hr h2 hx
  rcases (by simpa using hxl:x=i\/x=j) with rfl | rfl
  ·exact aJo hM h3 hS h.1 fun a' w' hS' hC=>ih1 _ _ fuel _ w' (hr.set (lt h3)) h5 (by omega) hS' hC
  exact aJo hM h4 hS h.2 fun a' w' hS' hC=>ih2 _ _ fuel _ w' (hr.set (lt h4)) h6 (by omega) hS' hC
 | three i t j u k v ih1 ih2 ih3=>
  intro m listed fuel a w hr hp hf hS h
  obtain ⟨fuel,rfl⟩:∃k,fuel=k+1:=⟨fuel-1,by simp only[PT.dep] at hf;omega⟩
  simp only[PT.dep,Nat.add_le_add_iff_right] at hf
  simp only[planT,Bool.and_eq_true] at hp
  obtain ⟨⟨⟨⟨⟨⟨⟨h1,h2⟩,h3⟩,h4⟩,h5⟩,h6⟩,h7⟩,h8⟩:=hp
  refine wpAnyH_all rfl (fun e=>by have:=aMz hr h1;rw[e] at this;cases this) fun x hx=>?_
  have hxl:=aHj hr h2 hx
  rcases (by simpa using hxl:x=i\/x=j\/x=k) with rfl | rfl | rfl
  ·exact aJo hM h3 hS h.1 fun a' w' hS' hC=>ih1 _ _ fuel _ w' (hr.set (lt h3)) h6 (by omega) hS' hC
  ·exact aJo hM h4 hS h.2.1 fun a' w' hS' hC=>ih2 _ _ fuel _ w' (hr.set (lt h4)) h7 (by omega) hS' hC
  exact aJo hM h5 hS h.2.2 fun a' w' hS' hC=>ih3 _ _ fuel _ w' (hr.set (lt h5)) h8 (by omega) hS' hC
end
def planChkT (ops:Array Oper)(t:PT):Bool:=Region.noSelect ops && Nat.ble t.dep ops.size && planT ops (dataOf ops) t 0
theorem aAw {P:Program}{ops:Array Oper}{id:Nat} {Q':Exit->Act->World->Prop}{a:Act}{w:World}(S:World->Prop)(t:PT)(hm:P.follows .mixedOrders=true)
  (hc:planChkT ops t=true)
  (hS:S w.drew)
  (h:∀(T:World->Prop) (M:Addr->Option Value) (Q:Act->World->Prop),(∀w,S w->T w)->(∀w,T w->S w)->(∀p v,(∀w,S w->w.cell? p=some v)->M p=some v)->(∀a w,Q' .normal a w->Q a w)->wt P T M ops Q t a w.drew) :
  (Code.region id ops true).wp P Q' a w:=by
 simp only[planChkT,Bool.and_eq_true,Nat.ble_eq] at hc
 obtain ⟨⟨c1,c2⟩,c3⟩:=hc
 have hM:∀p v,(Classical.epsilon fun o:Option Value=>∀v,o=some v↔∀w,S w->w.cell? p=some v)=some v↔∀w,S w->w.cell? p=some v:=by
  intro p
  have hex:∃o:Option Value,∀v,o=some v↔∀w,S w->w.cell? p=some v:=by
   by_cases hx:∃v,∀w,S w->w.cell? p=some v
   ·obtain ⟨v,hv⟩:=hx
    refine ⟨some v,fun u=>⟨fun e=>(by cases e;exact hv),fun hu=>?_⟩⟩
    have h1:=hv _ hS
    rw[hu _ hS] at h1
    exact h1.symm
   exact ⟨none,fun u=>⟨fun e=>(by cases e),fun hu=>absurd ⟨u,hu⟩ hx⟩⟩
  exact Classical.epsilon_spec hex
 refine wp_region_noPanic (wp_region_held (S:=S) hm ?_)
 exact bFk (M:=fun p=>Classical.epsilon fun o:Option Value=>∀v,o=some v↔∀w,S w->w.cell? p=some v) c1
  (fun p v h=>(hM p v).1 h) (fun _ _ h=>NoPanic.normal h) (fun c a w h=>h) t 0 _ _ _ _ ⟨by simp,fun j hj=>by simp[hj],fun j _=>by simp⟩ c3 c2 hS
  (h S _ _ (fun _ h=>h) (fun _ h=>h) (fun p v h=>(hM p v).2 h) (fun _ _ h=>h))
theorem aVm {P:Program}{S:World->Prop}{a:Act}{w:World}{K:Act->World->Prop}{x:QOp}{v:Value}
  (hv:∀(p:String) (af:Array Edge) (g:Option (Nat×Bool)),(execOp a.eval ⟨x.dst,x.op,x.type,p,af,g⟩).run P w=.ok (.value v) w) (hK:S w/\K (a.put x.dst v) w) :
  effq P S x a w K:=by
 intro p af g
 unfold Oper.wp
 rw[hv]
 exact hK
theorem aOy {P:Program}{S:World->Prop}{a:Act} {w w':World}{K:Act->World->Prop}{x:QOp}{v:Value}
  (hv:∀(p:String) (af:Array Edge) (g:Option (Nat×Bool)),(execOp a.eval ⟨x.dst,x.op,x.type,p,af,g⟩).run P w=.ok (.value v) w') (hK:S w'/\K (a.put x.dst v) w') :
  effq P S x a w K:=by
 intro p af g
 unfold Oper.wp
 rw[hv]
 exact hK
section
variable {P:Program} {S:World->Prop} {M:Addr->Option Value} {ops:Array Oper} {Q:Act->World->Prop} {i j k:Nat} {t u v:PT} {a:Act} {w:World}
theorem aCy:wt P S M ops Q .leaf a w=Q a w:=rfl
theorem wt_q:wt P S M ops Q (.q i t) a w=wq P S M (wt P S M ops Q t) [cmp1 ops true i] a w:=rfl
theorem wt_b:wt P S M ops Q (.b i t) a w=bq P S (cmp1 ops true i) a (wt P S M ops Q t) w:=rfl
theorem aAj:wt P S M ops Q (.one i t) a w=wq P S M (wt P S M ops Q t) [cmp1 ops false i] a w:=rfl
theorem aBc:wt P S M ops Q (.two i t j u) a w=(wq P S M (wt P S M ops Q t) [cmp1 ops false i] a w/\wq P S M (wt P S M ops Q u) [cmp1 ops false j] a w):=rfl
theorem aDf (h:∀O,(∀q i,cmp1 O q i=cmp1 ops q i)->wt P S M O Q t a w):wt P S M ops Q t a w:=h ops fun _ _=>rfl
end
theorem aCk {P:Program}{S:World->Prop}{a:Act}{w:World}{K:Act->World->Prop}{dst:Option Tmp}{t ty:TypeId}{parts:Array (Nat×Operand)}{q:Bool}{g:Option (Tmp×Bool)}{vs:Array (Nat×Value)}{v:Value}
  (hv:(parts.toList.map fun p=>(p.1,a.eval p.2)).toArray=vs) (hr:∀w,(Instr.build t vs).run P w=.ok v w) (hK:K (a.put dst v) w):bq P S ⟨q,dst,.build t parts,ty,g⟩ a K w:=by
 refine ⟨v,fun w d p af g _=>?_,hK⟩
 have hv':(parts.map fun p=>(p.1,a.eval p.2))=vs:=by rw[<-hv];apply Array.toList_inj.1;simp
 unfold execOp
 simp only[hv',hr,Sem.run_bind,Sem.run_pure,Result.andThen_ok]
theorem aAt {P:Program}{S:World->Prop}{a:Act}{w:World}{K:Act->World->Prop}{dst:Option Tmp}{t ty:TypeId}{x y:Operand}{q:Bool}{gd:Option (Tmp×Bool)}{g:Nat}{cells old:Array Value}{e:TypeId}
  (hx:a.eval x=.pointer (some ⟨g,0,none⟩)) (hy:a.eval y=.agg cells) (hg:w.heap[g]? = some (.cells old e (0,0))) (hi:(P.info? t).map (·.size)=some cells.size)
  (hold:old.size=cells.size) (h1:cells.all (·.oneCell')=true) (hK:S (w.setRow g cells)/\K (a.put dst undef) (w.setRow g cells)) :
  effq P S ⟨q,dst,.store t x y,ty,gd⟩ a w K:=fun _p _af _g'=>wp_store_row t x y rfl g cells hx hy e old hg hi hold h1 hK
section
variable {α:Type}
def lall2 (eq:α->α->Bool):List α->List α->Bool
 | [],[]=>true
 | x::xs,y::ys=>eq x y && lall2 eq xs ys
 | _,_=>false
variable {eq:α->α->Bool}
theorem aMo:∀{xs ys:List α},xs.length≠ys.length->lall2 eq xs ys=false
 | [],[],h=>absurd rfl h
 | [],_::_,_=>rfl
 | _::_,[],_=>rfl
 | x::xs,y::ys,h=>by rw[lall2,aMo (xs:=xs) (ys:=ys) (by simpa using h),Bool.and_false]
theorem aMv:∀{xs ys:List α}{k:Nat}{x y:α},xs[k]? = some x->ys[k]? = some y->eq x y=false->lall2 eq xs ys=false
 | a::xs,b::ys,0,x,y,h1,h2,h=>by
  simp at h1 h2;subst h1;subst h2;rw[lall2,h,Bool.false_and]
 | a::xs,b::ys,k+1,x,y,h1,h2,h=>by
  simp at h1 h2;rw[lall2,aMv h1 h2 h,Bool.and_false]
 | [],_,k,x,y,h1,_,_=>by simp at h1
 | _::_,[],k,x,y,_,h2,_=>by simp at h2
def EqTo (eq:α->α->Bool)(xs ys:List α)(k:Nat):Prop:=∀j x y,j<k->xs[j]? = some x->ys[j]? = some y->eq x y=true
theorem EqTo.next {xs ys:List α}{k:Nat}{x y:α}(h:EqTo eq xs ys k)(hx:xs[k]? = some x)(hy:ys[k]? = some y)(he:eq x y=true):EqTo eq xs ys (k+1):=by
 intro j a b hj ha hb
 by_cases e:j=k
 ·subst e;rw[hx] at ha;rw[hy] at hb;injection ha with ha;injection hb with hb;subst ha;subst hb;exact he
 exact h j a b (by omega) ha hb
theorem EqTo.done:∀{xs ys:List α}{n:Nat},EqTo eq xs ys n->xs.length=n->ys.length=n->lall2 eq xs ys=true
 | [],[],_,_,_,_=>rfl
 | [],_::_,_,_,h1,h2=>by subst h1;simp at h2
 | _::_,[],_,_,h1,h2=>by subst h1;simp at h2
 | x::xs,y::ys,n,h,h1,h2=>by
  simp only[List.length_cons] at h1 h2
  rw[lall2,h 0 x y (by omega) rfl rfl,EqTo.done (xs:=xs) (ys:=ys) (n:=n-1) (fun j a b hj ha hb=>h (j+1) a b (by omega) (by simpa using ha) (by simpa using hb)) (by omega) (by omega)];rfl
theorem aQd [DecidableEq α]:∀(xs ys:List α),lall2 (fun x y=>decide (x=y)) xs ys=decide (xs=ys)
 | [],[]=>by simp[lall2]
 | [],_::_=>by simp[lall2]
 | _::_,[]=>by simp[lall2]
 | x::xs,y::ys=>by rw[lall2,aQd xs ys];by_cases h:x=y<;>simp[h]
end
theorem bGg {P:Program}{S:World->Prop}{a:Act}{w:World}{K:Act->World->Prop}{dst:Option Tmp} {t ty ty':TypeId}{x y:Operand}{q b:Bool}{g:Option (Tmp×Bool)}{xs ys:Array Value}
  (hx:a.eval x=.agg xs) (hy:a.eval y=.agg ys) (hm:P.eqGuardType P.depth t=false) (hc:(Op.equalIn 10000 t (.agg xs) (.agg ys)).run P w=.ok b w)
  (hK:S w/\K (a.put dst (.bool (!b))) w):effq P S ⟨q,dst,.binOp .neq t x y ty',ty,g⟩ a w K:=by
 refine aVm (fun p af g=>?_) hK
 unfold execOp
 simp only[hx,hy,Sem.run_bind,run_eqGuard_agg _ _ _ _ _ _ _ hm,run_neq_struct,hc,Result.andThen_ok,Sem.run_pure]
theorem FV.eq_iff {x y:FV}:x=y↔x.path=y.path/\x.exec=y.exec/\x.text=y.text:=by
 cases x;cases y;simp
theorem aUk (x y:FV)(w:World):(Op.equalIn 10000 28 (.agg #[.string x.path,.bool x.exec,.string x.text]) (.agg #[.string y.path,.bool y.exec,.string y.text])).run Tryz.prog w=.ok (decide (x=y)) w:=by
 by_cases h_path:x.path=y.path
 case neg=>rw[decide_eq_false (fun e=>h_path (by rw[e]))];have hn2:¬x.path.toList=y.path.toList:=beq_eq_false_iff_ne.1 (aBe h_path);go_simp<;>simp_all
 by_cases h_exec:x.exec=y.exec
 case neg=>rw[decide_eq_false (fun e=>h_exec (by rw[e]))];go_simp<;>simp_all
 by_cases h_text:x.text=y.text
 case neg=>rw[decide_eq_false (fun e=>h_text (by rw[e]))];have hn2:¬x.text.toList=y.text.toList:=beq_eq_false_iff_ne.1 (aBe h_text);go_simp<;>simp_all
 rw[decide_eq_true (FV.eq_iff.2 ⟨h_path,h_exec,h_text⟩)];go_simp<;>simp_all
theorem aVr (x y:FV)(w:World):Calls Tryz.prog 41 #[.agg #[.string x.path,.bool x.exec,.string x.text],.agg #[.string y.path,.bool y.exec,.string y.text]] w (BoolBelow (decide (x=y)) w):=by
 have hb:∀o1 o2:Obj,Below w.heap.size w ((w.alloc o1).alloc o2):=fun o1 o2=>((Below.refl _ _).alloc (Nat.le_refl _) _).alloc (by simp) _
 cases hd:decide (x=y) with
 | true=>
  obtain rfl:=of_decide_eq_true hd
  clear hd
  go_enter Tryz.func41,Tryz.ntmps41
  go_wp2
  go_ret
  exact ⟨rfl,hb _ _⟩
 | false=>
  have he:=of_decide_eq_false hd
  clear hd
  by_cases h_path:x.path=y.path
  case neg=>
   have hn2:¬x.path.toList=y.path.toList:=beq_eq_false_iff_ne.1 (aBe h_path)
   clear he
   go_enter Tryz.func41,Tryz.ntmps41
   go_wp2
   go_ret
   exact ⟨rfl,hb _ _⟩
  have e_path:=h_path
  by_cases h_exec:x.exec=y.exec
  case neg=>
   clear he
   go_enter Tryz.func41,Tryz.ntmps41
   go_wp2
   go_ret
   exact ⟨rfl,hb _ _⟩
  have e_exec:=h_exec
  by_cases h_text:x.text=y.text
  case neg=>
   have hn2:¬x.text.toList=y.text.toList:=beq_eq_false_iff_ne.1 (aBe h_text)
   clear he
   go_enter Tryz.func41,Tryz.ntmps41
   go_wp2
   go_ret
   exact ⟨rfl,hb _ _⟩
  have e_text:=h_text
  exact absurd (FV.eq_iff.2 ⟨h_path,h_exec,h_text⟩) he
theorem bAm {G:FuncId}{A B:Option Addr}{n ca m cb:Nat}{xs ys:List FV}{w:World}(eq:FV->FV->Bool)(hn:n<=17592186044416)(hm:m<=17592186044416)
  (ha:Rd w w.heap.size 3 A n ca (xs.flatMap FV.cells)) (hb:Rd w w.heap.size 3 B m cb (ys.flatMap FV.cells)) (hxl:xs.length=n) (hyl:ys.length=m) (hG:isGo Tryz.prog G=true)
  (HC:∀x∈xs,∀y∈ys,∀v,Below w.heap.size w v->Calls Tryz.prog G #[.agg #[.string x.path,.bool x.exec,.string x.text],.agg #[.string y.path,.bool y.exec,.string y.text]] v (BoolBelow (eq x y) v)) :
  Calls Tryz.prog 40 #[.slice A n ca,.slice B m cb,.func (.func G) #[] #[]] w (BoolBelow (lall2 eq xs ys) w):=by
 have HX:=hid hxl
 have HY:=hid hyl
 by_cases h:n=m
 ·subst h
  go_enter Tryz.func40,Tryz.ntmps40
  go_wp2
  go_loopw[7] (fun i wr=>∃k:Nat,k<=n/\i=.int .i64 k/\Below w.heap.size w wr/\Hid (EqTo eq xs ys k)) (fun i _=>n-(intOf i).toNat)
  case atStart=>exact ⟨0,Nat.zero_le _,rfl,Below.refl _ _,fun j _ _ hj=>absurd hj (Nat.not_lt_zero _)⟩
  obtain ⟨k,hk,rfl,hbw,hj⟩:=hrel
  by_cases hlt:k<n
  ·obtain ⟨b0,o0,u,eA,hb0,hx,hxm,p⟩:=T.rd_flat FV.cells_len (by omega) ha HX.out hlt
   obtain ⟨b1,o1,v,eB,hb1,hy,hym,r⟩:=T.rd_flat FV.cells_len (by omega) hb HY.out hlt
   cases eA
   cases eB
   have HU:=hid hx
   have HV:=hid hy
   clear hx hy
   have hbs:=hbw.size
   have C:=HC u hxm v hym
   go_wp2
   refine aAd (fun w'=>Below w.heap.size w w') (qe [9] 11) mixed (by kernel_rfl) hbw.drew ?_
   intro T M Q hT hT' hM hQ
   have mp:∀j v,(FV.cells u)[j]? = some v->M ⟨b0,o0+k*3+j,none⟩=some v:=fun j v hv=>hM _ _ fun w' hw=>(hw.cell (p:=⟨b0,o0+k*3+j,none⟩) (by show b0<_;omega)).trans (p j v hv)
   have mr:∀j x,(FV.cells v)[j]? = some x->M ⟨b1,o1+k*3+j,none⟩=some x:=fun j v hv=>hM _ _ fun w' hw=>(hw.cell (p:=⟨b1,o1+k*3+j,none⟩) (by show b1<_;omega)).trans (r j v hv)
   have m0:M ⟨b0,o0+k*3,none⟩=some (.string u.path):=mp 0 _ rfl
   have q0:M ⟨b1,o1+k*3,none⟩=some (.string v.path):=mr 0 _ rfl
   have m1:M ⟨b0,o0+k*3+1,none⟩=some (.bool u.exec):=mp 1 _ rfl
   have q1:M ⟨b1,o1+k*3+1,none⟩=some (.bool v.exec):=mr 1 _ rfl
   have m2:M ⟨b0,o0+k*3+2,none⟩=some (.string u.text):=mp 2 _ rfl
   have q2:M ⟨b1,o1+k*3+2,none⟩=some (.string v.text):=mr 2 _ rfl
   clear hM mp mr p r
   simp only[qcmp,Nat.reduceBEq]
   simp (maxSteps:=9^7) only[↓qpre,aAb,aAf,aAc,m0,q0,m1,q1,m2,q2]
   refine ⟨⟨by omega,by omega⟩,⟨by omega,by omega⟩,aAh hG (C _ hbw.drew) rfl rfl ?_⟩
   rintro e w1 ⟨rfl,hb1⟩
   have hbd:Below w.heap.size w w1:=hbw.drew.trans (hb1.mono hbs)
   refine ⟨_,rfl,hT _ hbd,?_⟩
   simp (maxSteps:=9^7) only[↓qpre,aAb,aAc]
   refine hQ _ _ ?_
   clear hQ hT hT' m0 q0 m1 q1 m2 q2 C
   cases he:eq u v with
   | true=>
    have HO:=hid (hj.out.next HU.out HV.out he)
    clear he
    go_wp2
    go_roundw
    case rel=>exact ⟨k+1,by omega,by go_num,hbd,HO.out⟩
    simp[intOf];omega
   | false=>
    have HO:=hid (aMv HU.out HV.out he)
    clear he
    go_wp2
    go_ret
    exact ⟨aAl HO.out.symm,hbd⟩
  obtain rfl:k=n:=by omega
  have HO:=hid (hj.out.done HX.out HY.out)
  go_wp2
  go_ret
  exact ⟨aAl HO.out.symm,hbw⟩
 obtain ⟨h1,h2⟩:=aOk (u:=(n:Int)) (v:=(m:Int)) (by omega)
 have HO:=hid (aMo (eq:=eq) (xs:=xs) (ys:=ys) (by rw[HX.out,HY.out];exact h))
 go_enter Tryz.func40,Tryz.ntmps40
 go_wp2
 go_ret
 exact ⟨aAl HO.out.symm,Below.refl _ _⟩
theorem aKh {A B:Option Addr}{n ca m cb:Nat}{xs ys:List FV}{w:World}(hn:n<=17592186044416)(hm:m<=17592186044416)
  (ha:Rd w w.heap.size 3 A n ca (xs.flatMap FV.cells)) (hb:Rd w w.heap.size 3 B m cb (ys.flatMap FV.cells)) (hxl:xs.length=n) (hyl:ys.length=m) :
  Calls Tryz.prog 16 #[.slice A n ca,.slice B m cb] w (BoolBelow (decide (xs=ys)) w):=by
 have C:=bAm (G:=41) (fun x y=>decide (x=y)) hn hm ha hb hxl hyl (by kernel_rfl) fun x _ y _ v _=>aVr x y v
 rw[aQd] at C
 go_enter Tryz.func16,Tryz.ntmps16
 go_wp2_with fail
 refine C.mono ?_
 rintro e w1 ⟨rfl,hb1⟩
 go_wp2
 go_ret
 exact ⟨rfl,hb1⟩
end Go.Proofs.YtcemkikgaeghjaaGreatDoor
