/- Contracts of functions that the law reaches, and plain laws of what they compute. -/
import Derived.Lib.SplitLaws
import Derived.Lib.ConvBytes
import Derived.Shelf.Strings.SplitShaped
import Derived.Test.YtohblmepajhpaaaGreatDoorRows
import Derived.Maps.OwnSet
import Derived.DeepKeys4
import Derived.Test.YtohblmepajhpaaaGreatDoorG01
set_option maxHeartbeats 4000000
set_option maxRecDepth 100000
open Go.Lib (hid)
namespace Go.Proofs.YtohblmepajhpaaaGreatDoor
open Go.RowKit
def par (l:List Int)(i:Int):Int:=(l[i.toNat]?).getD (-1)
def rightP (l:List Int):Bool:=(List.range l.length).all fun (i:Nat)=>decide (-1<=par l i) && decide (par l i<i)
theorem aDu {l:List Int}{i:Nat}{p:Int}(h:l[i]? = some p):par l i=p:=by
 unfold par;rw[Int.toNat_natCast,h];rfl
theorem aBb {l:List Int}(h:rightP l=true){i:Int}(h0:0<=i)(h1:i<l.length):-1<=par l i/\par l i<i:=by
 unfold rightP at h
 rw[List.all_eq_true] at h
 have:=h i.toNat (List.mem_range.2 (by omega))
 rw[Int.toNat_of_nonneg h0] at this
 simpa using this
theorem aIo {l:List Int}{i:Nat}{p:Int}(hx:l[i]? = some p)(h:p < -1\/(i:Int)<=p):rightP l=false:=by
 unfold rightP
 rw[List.all_eq_false]
 refine ⟨i,List.mem_range.2 (List.getElem?_eq_some_iff.1 hx).1,?_⟩
 rw[aDu hx]
 simp only[Bool.and_eq_true,decide_eq_true_eq]
 omega
theorem aGu {l:List Int}(h:∀(i:Nat)(p:Int),l[i]? = some p->-1<=p/\p<i):rightP l=true:=by
 unfold rightP
 rw[List.all_eq_true]
 intro i hi
 have hlt:=List.mem_range.1 hi
 have:=h i _ (List.getElem?_eq_getElem hlt)
 rw[aDu (List.getElem?_eq_getElem hlt)]
 simpa using this
def chn (l:List Int):Nat->Int->List Int
 | 0,_=>[]
 | f+1,b=>if b<0 then [] else b::chn l f (par l b)
theorem aYa {l:List Int}(h:rightP l=true):∀(f f':Nat) (b:Int),b<f->b<f'->b<l.length->chn l f b=chn l f' b
 | 0,0,_,_,_,_=>rfl
 | 0,f'+1,b,h1,_,_=>by simp only[chn];rw[if_pos (by omega)]
 | f+1,0,b,_,h2,_=>by simp only[chn];rw[if_pos (by omega)]
 | f+1,f'+1,b,h1,h2,h3=>by
  simp only[chn]
  by_cases hb:b<0
  ·rw[if_pos hb,if_pos hb]
  rw[if_neg hb,if_neg hb]
  have:=aBb h (i:=b) (by omega) h3
  rw[aYa h f f' (par l b) (by omega) (by omega) (by omega)]
def chain (l:List Int)(b:Int):List Int:=if rightP l=true/\b<l.length then chn l (l.length+1) b else []
theorem aQz {l:List Int}{b:Int}(h:rightP l=false\/(l.length:Int)<=b):chain l b=[]:=by
 unfold chain;rw[if_neg];rintro ⟨h1,h2⟩
 rcases h with h | h
 ·rw[h1] at h;cases h
 omega
theorem aNi {l:List Int}{b:Int}(h:b<0):chain l b=[]:=by
 unfold chain
 split
 ·simp only[chn];rw[if_pos h]
 rfl
theorem aEf {l:List Int}{b:Int}(h:rightP l=true)(h0:0<=b)(h1:b<l.length):chain l b=b::chain l (par l b):=by
 have hp:=aBb h h0 h1
 unfold chain
 rw[if_pos ⟨h,h1⟩,if_pos ⟨h,by omega⟩]
 conv=>lhs;simp only[chn]
 rw[if_neg (by omega),aYa h l.length (l.length+1) (par l b) (by omega) (by omega) (by omega)]
theorem aNe {l:List Int}(h:rightP l=true){p:Int->Prop}(hneg:∀b:Int,b<0->p b)(hstep:∀b:Int,0<=b->b<l.length->p (par l b)->p b):∀(n:Nat) (b:Int),b<n->b<l.length->p b
 | 0,b,h1,_=>hneg b (by omega)
 | n+1,b,h1,h2=>by
  by_cases hb:b<0
  ·exact hneg b hb
  have:=aBb h (i:=b) (by omega) h2
  exact hstep b (by omega) h2 (aNe h hneg hstep n (par l b) (by omega) (by omega))
theorem aSm {l:List Int}{b x:Int}(hx:x∈chain l b):rightP l=true/\0<=x/\x<=b/\b<l.length:=by
 by_cases h:rightP l=true/\b<l.length
 ·refine ⟨h.1,?_⟩
  suffices hh:0<=x/\x<=b from ⟨hh.1,hh.2,h.2⟩
  revert hx
  refine aNe h.1 (p:=fun b=>x∈chain l b->0<=x/\x<=b) (fun b hb hx=>?_) (fun b h0 h1 ih hx=>?_) (b.toNat+1) b (by omega) h.2
  ·rw[aNi hb] at hx;cases hx
  rw[aEf h.1 h0 h1] at hx
  have hp:=aBb h.1 h0 h1
  rcases List.mem_cons.1 hx with rfl | hx
  ·omega
  have:=ih hx;omega
 unfold chain at hx;rw[if_neg h] at hx;cases hx
theorem aRu {l:List Int}{b:Int}:(chain l b).length<=l.length:=by
 by_cases h:rightP l=true/\b<l.length
 ·have:(chain l b).length<=b.toNat+1/\(b<0->chain l b=[]):=by
   refine aNe h.1 (p:=fun b=>(chain l b).length<=b.toNat+1/\(b<0->chain l b=[])) (fun b hb=>?_) (fun b h0 h1 ih=>?_) (b.toNat+1) b (by omega) h.2
   ·rw[aNi hb];simp
   have hp:=aBb h.1 h0 h1
   rw[aEf h.1 h0 h1]
   refine ⟨?_,fun h=>by omega⟩
   rw[List.length_cons]
   by_cases hn:par l b<0
   ·rw[ih.2 hn];simp
   omega
  by_cases hb:b<0
  ·rw[this.2 hb];simp
  omega
 unfold chain;rw[if_neg h];simp
def above (l:List Int)(a b:Int):Bool:=decide (a∈chain l b)
theorem bHe {l:List Int}{a b:Int}(h:rightP l=true)(ha:0<=a)(hb:a<b)(h1:b<l.length):above l a b=above l a (par l b):=by
 unfold above
 rw[aEf h (by omega) h1]
 refine decide_eq_decide.2 ⟨fun hx=>?_,fun hx=>List.mem_cons_of_mem _ hx⟩
 rcases List.mem_cons.1 hx with rfl | hx
 ·omega
 exact hx
theorem bEn {l:List Int}{a b:Int}(h:rightP l=true)(ha:0<=a)(hb:b<=a)(h1:b<l.length):above l a b=decide (a=b):=by
 unfold above
 refine decide_eq_decide.2 ⟨fun hx=>?_,?_⟩
 ·have:=aSm hx;omega
 rintro rfl
 rw[aEf h ha h1];simp
theorem aTs {l:List Int}{a b:Int}(h:¬(rightP l=true/\0<=a/\a<l.length/\0<=b/\b<l.length)):above l a b=false:=by
 unfold above
 refine decide_eq_false fun hx=>h ?_
 have:=aSm hx
 exact ⟨this.1,by omega,by omega,by omega,by omega⟩
def liveL (l:List Int)(ms:List MV):List Int:=if rightP l=true then ((List.range l.length).map Int.ofNat).filter fun i=>!obsM ms i else []
def liveTo (ms:List MV)(k:Nat):List Int:=((List.range k).map Int.ofNat).filter fun i=>!obsM ms i
theorem aMc (ms:List MV)(k:Nat):liveTo ms (k+1)=liveTo ms k++if obsM ms k=true then [] else [(k:Int)]:=by
 unfold liveTo
 rw[List.range_succ,List.map_append,List.filter_append]
 congr 1
 cases h:obsM ms k with
 | false=>simp[h]
 | true=>simp[h]
theorem aDq {l:List Int}{ms:List MV}{i:Int}:i∈liveL l ms↔rightP l=true/\0<=i/\i<l.length/\obsM ms i=false:=by
 unfold liveL
 split
 ·rename_i h
  rw[List.mem_filter,List.mem_map]
  constructor
  ·rintro ⟨⟨k,hk,rfl⟩,ho⟩
   have:=List.mem_range.1 hk
   exact ⟨h,by simp,by simpa using this,by simpa using ho⟩
  rintro ⟨_,h0,h1,ho⟩
  exact ⟨⟨i.toNat,List.mem_range.2 (by omega),by simp;omega⟩,by simpa using ho⟩
 rename_i h;simp[h]
theorem aNl (l:List Int)(ms:List MV):(liveL l ms).length<=l.length:=by
 unfold liveL
 split
 ·refine Nat.le_trans (List.length_filter_le _ _) (by simp)
 simp
def mvF (l:List Int)(ms:List MV)(s:Int):Nat->Int->Bool
 | 0,_=>false
 | f+1,k=>!obsM ms k && (decide (k=s) || (decide (s<=par l k) && mvF l ms s f (par l k)))
theorem aYe {l:List Int}{ms:List MV}{s:Int}(h:rightP l=true)(hs:0<=s):∀(f f':Nat) (b:Int),b<f->b<f'->0<=b->b<l.length->mvF l ms s f b=mvF l ms s f' b
 | 0,_,b,h1,_,h0,_=>by omega
 | f+1,0,b,_,h2,h0,_=>by omega
 | f+1,f'+1,b,h1,h2,h0,h3=>by
  simp only[mvF]
  have hp:=aBb h (i:=b) (by omega) h3
  by_cases hc:s<=par l b
  ·rw[aYe h hs f f' (par l b) (by omega) (by omega) (by omega) (by omega)]
  rw[decide_eq_false hc];simp
def mv (l:List Int)(ms:List MV)(s k:Int):Bool:=mvF l ms s (l.length+1) k
theorem bKi {l:List Int}{ms:List MV}{s k:Int}(h:rightP l=true)(hs:0<=s)(h0:0<=k)(h1:k<l.length) :
  mv l ms s k=(!obsM ms k && (decide (k=s) || (decide (s<=par l k) && mv l ms s (par l k)))):=by
 have hp:=aBb h h0 h1
 unfold mv
 conv=>lhs;simp only[mvF]
 by_cases hc:s<=par l k
 ·rw[aYe h hs l.length (l.length+1) (par l k) (by omega) (by omega) (by omega) (by omega)]
 rw[decide_eq_false hc];simp
def movedTo (l:List Int)(ms:List MV)(s:Int)(k:Nat):List Int:=((List.range k).map Int.ofNat).filter fun i=>decide (s<=i) && mv l ms s i
def moved (l:List Int)(ms:List MV)(s:Int):List Int:=if rightP l=true/\0<=s/\s<l.length then movedTo l ms s l.length else []
theorem aRi (l:List Int)(ms:List MV)(s:Int)(k:Nat):movedTo l ms s (k+1)=movedTo l ms s k++if (decide (s<=(k:Int)) && mv l ms s k)=true then [(k:Int)] else []:=by
 unfold movedTo
 rw[List.range_succ,List.map_append,List.filter_append]
 congr 1
 by_cases h:(decide (s<=(k:Int)) && mv l ms s k)=true
 ·rw[if_pos h];simp only[List.map_cons,List.map_nil];rw[List.filter_cons_of_pos (by exact h)];rfl
 rw[if_neg h];simp only[List.map_cons,List.map_nil];rw[List.filter_cons_of_neg (by exact h)];rfl
theorem aTc {l:List Int}{ms:List MV}{s:Int}{k:Nat}(h:(k:Int)<=s):movedTo l ms s k=[]:=by
 unfold movedTo
 rw[List.filter_eq_nil_iff]
 intro x hx
 obtain ⟨j,hj,rfl⟩:=List.mem_map.1 hx
 have:=List.mem_range.1 hj
 simp;omega
theorem aLr (l:List Int)(ms:List MV)(s:Int)(k:Nat):(movedTo l ms s k).length<=k:=by
 unfold movedTo;refine Nat.le_trans (List.length_filter_le _ _) (by simp)
theorem aEk {l:List Int}{ms:List MV}{s x:Int}:x∈moved l ms s↔(rightP l=true/\0<=s/\s<l.length)/\s<=x/\x<l.length/\mv l ms s x=true:=by
 unfold moved
 split
 ·rename_i h
  unfold movedTo
  rw[List.mem_filter,List.mem_map]
  constructor
  ·rintro ⟨⟨k,hk,rfl⟩,ho⟩
   have:=List.mem_range.1 hk
   simp only[Bool.and_eq_true,decide_eq_true_eq] at ho
   exact ⟨h,ho.1,by simpa using this,ho.2⟩
  rintro ⟨_,h0,h1,ho⟩
  exact ⟨⟨x.toNat,List.mem_range.2 (by omega),by simp;omega⟩,by simp[h0,ho]⟩
 rename_i h;simp[h]
theorem aTn (l:List Int)(ms:List MV)(s:Int):(moved l ms s).Pairwise (·<·):=by
 unfold moved
 split
 ·unfold movedTo
  refine List.Pairwise.filter _ ?_
  rw[List.pairwise_map]
  exact List.pairwise_lt_range.imp fun h=>by simpa using h
 simp
def okTo (ms:List MV)(s:Int):List Int->Bool
 | []=>true
 | c::r=>!obsM ms c && (decide (c=s) || okTo ms s r)
inductive TargetIs (l:List Int) (ms:List MV):Int->Int->Prop
 | out {i:Int}:(rightP l=false\/i<0\/(l.length:Int)<=i)->TargetIs l ms i (-1)
 | here {i t:Int} {f:List Int}:rightP l=true->0<=i->i<l.length->FinalIs ms i f->f.getLast? = some t->TargetIs l ms i t
 | up {i t:Int}:rightP l=true->0<=i->i<l.length->FinalIs ms i []->TargetIs l ms (par l i) t->TargetIs l ms i t
theorem TargetIs.uniq {l:List Int}{ms:List MV} {i t t':Int}(h:TargetIs l ms i t) (h':TargetIs l ms i t'):t=t':=by
 induction h generalizing t' with
 | out h1=>
  cases h' with
  | out _=>rfl
  | here a b c _ _=>rcases h1 with h1 | h1 | h1<;>first | (rw[a] at h1;cases h1) | omega
  | up a b c _ _=>rcases h1 with h1 | h1 | h1<;>first | (rw[a] at h1;cases h1) | omega
 | here a b c hf ht=>
  cases h' with
  | out h1=>rcases h1 with h1 | h1 | h1<;>first | (rw[a] at h1;cases h1) | omega
  | here _ _ _ hf' ht'=>rw[hf.uniq hf'] at ht;rw[ht] at ht';exact Option.some.inj ht'
  | up _ _ _ hf' _=>rw[hf.uniq hf'] at ht;cases ht
 | up a b c hf _ ih=>
  cases h' with
  | out h1=>rcases h1 with h1 | h1 | h1<;>first | (rw[a] at h1;cases h1) | omega
  | here _ _ _ hf' ht'=>rw[hf'.uniq hf] at ht';cases ht'
  | up _ _ _ _ hu=>exact ih hu
def IsOrph (l:List Int)(ms:List MV)(i t:Int):Prop:=
 0<=par l i/\obsM ms i=false/\obsM ms (par l i)=true/\TargetIs l ms (par l i) t/\t≠i/\above l i t=false
inductive OrphanIs (l:List Int) (ms:List MV):Int->Int->Bool->Prop
 | none_:(rightP l=true->∀i:Nat,i<l.length->∀t,¬IsOrph l ms i t)->OrphanIs l ms (-1) (-1) false
 | some_ {i:Nat} {t:Int}:rightP l=true->i<l.length->IsOrph l ms i t->(∀j:Nat,j<i->∀t,¬IsOrph l ms j t)->OrphanIs l ms i t true
theorem OrphanIs.uniq {l:List Int}{ms:List MV} {a b a' b':Int} {s s':Bool}(h:OrphanIs l ms a b s) (h':OrphanIs l ms a' b' s'):a=a'/\b=b'/\s=s':=by
 cases h with
 | none_ h1=>
  cases h' with
  | none_ _=>exact ⟨rfl,rfl,rfl⟩
  | some_ hr hl ho _=>exact absurd ho (h1 hr _ hl _)
 | @some_ i t hr hl ho hn=>
  cases h' with
  | none_ h1=>exact absurd ho (h1 hr _ hl _)
  | @some_ j u _ hl' ho' hn'=>
   have e:i=j:=by
    rcases Nat.lt_trichotomy i j with h | h | h
    ·exact absurd ho (hn' i h _)
    ·exact h
    exact absurd ho' (hn j h _)
   subst e
   exact ⟨rfl,ho.2.2.2.1.uniq ho'.2.2.2.1,rfl⟩
abbrev Bs:=List UInt8
def parts:Bs->List Bs
 | []=>[[]]
 | c::cs=>if c=47 then []::parts cs else match parts cs with
  | h::t=>(c::h)::t
  | []=>[[c]]
theorem aXt (s:Bs):parts s≠[]:=by
 cases s with
 | nil=>simp[parts]
 | cons c cs=>
  unfold parts
  by_cases h:c=47
  ·rw[if_pos h];simp
  rw[if_neg h];split<;>simp
theorem aJi:∀{s:Bs},47∉s->parts s=[s]
 | [],_=>rfl
 | c::cs,h=>by
  have hc:c≠47:=fun e=>h (by simp[e])
  rw[parts,if_neg hc,aJi (s:=cs) fun hm=>h (List.mem_cons_of_mem _ hm)]
theorem aLx:∀{a:Bs} (b:Bs),47∉a->parts (a++47::b)=a::parts b
 | [],b,_=>by rw[List.nil_append,parts,if_pos rfl]
 | c::cs,b,h=>by
  have hc:c≠47:=fun e=>h (by simp[e])
  rw[List.cons_append,parts,if_neg hc,aLx (a:=cs) b fun hm=>h (List.mem_cons_of_mem _ hm)]
theorem aHq:∀(s:Bs) p,p∈parts s->47∉p
 | [],p,h=>by simp[parts] at h;subst h;simp
 | c::cs,p,h=>by
  unfold parts at h
  by_cases hc:c=47
  ·rw[if_pos hc] at h
   rcases List.mem_cons.1 h with rfl | h
   ·simp
   exact aHq cs p h
  rw[if_neg hc] at h
  have ih:=aHq cs
  split at h
  ·rename_i h0 t e
   rcases List.mem_cons.1 h with rfl | h
   ·intro hm
    rcases List.mem_cons.1 hm with e2 | e2
    ·exact hc e2.symm
    exact ih h0 (by rw[e];exact List.mem_cons_self ..) e2
   exact ih p (by rw[e];exact List.mem_cons_of_mem _ h)
  rename_i e;exact absurd e (aXt cs)
def tailJ (ss:List Bs):Bs:=ss.flatMap (47::·)
theorem aEg:∀(s:Bs),∃p ps,parts s=p::ps/\s=p++tailJ ps
 | []=>⟨[],[],rfl,rfl⟩
 | c::cs=>by
  obtain ⟨p,ps,h1,h2⟩:=aEg cs
  unfold parts
  by_cases hc:c=47
  ·rw[if_pos hc]
   refine ⟨[],parts cs,rfl,?_⟩
   rw[h1,tailJ,List.flatMap_cons,<-tailJ,hc,List.nil_append]
   simp[<-h2]
  rw[if_neg hc,h1]
  exact ⟨c::p,ps,rfl,by rw[List.cons_append,<-h2]⟩
theorem aUc:∀{s:Bs},47∈s->∃a b,s=a++47::b/\47∉a
 | c::cs,h=>by
  by_cases hc:c=47
  ·exact ⟨[],cs,by rw[hc];rfl,by simp⟩
  obtain ⟨a,b,e,ha⟩:=aUc (s:=cs) (by rcases List.mem_cons.1 h with e | e;exact absurd e.symm hc;exact e)
  exact ⟨c::a,b,by rw[e];rfl,fun hm=>by rcases List.mem_cons.1 hm with e | e;exact hc e.symm;exact ha e⟩
theorem aOc:∀{a:Bs} (b:Bs),47∉a->Lib.index (a++47::b) [47]=a.length
 | [],b,_=>by rw[List.nil_append,Lib.index];simp[List.isPrefixOf]
 | c::cs,b,h=>by
  have hc:c≠47:=fun e=>h (by simp[e])
  have hc2:((47:UInt8) == c)=false:=by simp;exact fun e=>hc e.symm
  have ih:=aOc (a:=cs) b fun hm=>h (List.mem_cons_of_mem _ hm)
  rw[List.cons_append,Lib.index,ih]
  simp[List.isPrefixOf,hc2]
theorem aKo:∀(k:Nat) (s:Bs),s.count 47=k->Lib.splitK [47] 0 k s=parts s
 | 0,s,h=>by
  rw[aJi (List.count_eq_zero.1 h)];rfl
 | k+1,s,h=>by
  have hm:47∈s:=by
   rw[<-List.count_pos_iff];omega
  obtain ⟨a,b,rfl,ha⟩:=aUc hm
  have hb:b.count 47=k:=by
   rw[List.count_append,List.count_cons_self,List.count_eq_zero.2 ha] at h;omega
  rw[aLx b ha,Lib.splitK,aOc b ha,if_neg (by simp)]
  have e:((a.length:Int)).toNat=a.length:=by omega
  rw[e,Nat.add_zero,List.take_left,List.length_singleton,List.drop_append,List.drop_of_length_le (by omega),Nat.add_sub_cancel_left,List.nil_append]
  rw[show List.drop 1 (47::b)=b from rfl,aKo k b hb]
theorem aUn (s:ByteArray):(Lib.splitB ⟨#[47]⟩ 0 (Lib.countB s ⟨#[47]⟩) s).map (·.data.toList)=parts s.data.toList:=by
 rw[Lib.splitB_data]
 refine aKo _ _ ?_
 rw[<-Lib.count_one]
def byteOk (c:UInt8):Bool:=decide (33<=c.toNat) && decide (c.toNat<=126)
def partOk (p:Bs):Bool:=!decide (p=[]) && !decide (p=[46]) && !decide (p=[46,46])
def pathOk (s:Bs):Bool:=decide (1<=s.length) && decide (s.length<=100) && s.all byteOk && (parts s).all partOk
def within (p d:Bs):Bool:=(d++[47]).isPrefixOf p
theorem aGv {p d:Bs}:within p d=true↔∃r,p=d++47::r:=by
 rw[within,List.isPrefixOf_iff_prefix]
 constructor
 ·rintro ⟨r,h⟩;exact ⟨r,by rw[<-h];simp⟩
 rintro ⟨r,h⟩;exact ⟨r,by rw[h];simp⟩
theorem aRg {p d:Bs}(h:within p d=true):d.length<p.length:=by
 obtain ⟨r,rfl⟩:=aGv.1 h
 simp
def way (m:Bs->Bool)(at_:Bs):List Bs->Bool
 | []=>false
 | s::ss=>m at_ || way m (at_++47::s) ss
theorem bBv {m:Bs->Bool}:∀{ss:List Bs} {at_:Bs},(∀s∈ss,47∉s)->(way m at_ ss=true↔∃q r,m q=true/\at_.length<=q.length/\at_++tailJ ss=q++47::r)
 | [],at_,_=>by
  constructor
  ·intro h;cases h
  rintro ⟨q,r,_,hl,e⟩
  have:=congrArg List.length e
  simp[tailJ] at this;omega
 | s::ss,at_,hc=>by
  have ih:=bBv (m:=m) (ss:=ss) (at_:=at_++47::s) fun x hx=>hc x (List.mem_cons_of_mem _ hx)
  have hJ:at_++tailJ (s::ss)=(at_++47::s)++tailJ ss:=by simp[tailJ]
  rw[way,Bool.or_eq_true,ih,hJ]
  constructor
  ·rintro (h | ⟨q,r,h1,h2,h3⟩)
   ·exact ⟨at_,s++tailJ ss,h,Nat.le_refl _,by simp⟩
   exact ⟨q,r,h1,by simp at h2;omega,h3⟩
  rintro ⟨q,r,h1,h2,h3⟩
  by_cases hq:q.length=at_.length
  ·left
   have:(at_++47::s++tailJ ss).take at_.length=(q++47::r).take at_.length:=by rw[h3]
   rw[<-hq] at this
   simp[hq] at this
   rw[this];exact h1
  refine .inr ⟨q,r,h1,?_,h3⟩
  rcases Nat.lt_or_ge q.length (at_++47::s).length with hlt | hge
  ·exfalso
   have hg:(at_++47::s++tailJ ss)[q.length]? = some 47:=by rw[h3];simp
   rw[List.getElem?_append_left hlt,List.getElem?_append_right h2] at hg
   obtain ⟨j,hj⟩:∃j,q.length-at_.length=j+1:=⟨q.length-at_.length-1,by omega⟩
   rw[hj,List.getElem?_cons_succ] at hg
   exact hc s (List.mem_cons_self ..) (List.mem_of_getElem? hg)
  exact hge
theorem bDr {m:Bs->Bool}{p s:Bs}{ss:List Bs}(h:parts p=s::ss):way m s ss=true↔∃q,m q=true/\within p q=true:=by
 obtain ⟨s',ss',h1,h2⟩:=aEg p
 rw[h] at h1
 injection h1 with e1 e2
 subst e1 e2
 have hc:∀x,x∈s::ss->47∉x:=fun x hx=>aHq p x (by rw[h];exact hx)
 rw[bBv fun x hx=>hc x (List.mem_cons_of_mem _ hx)]
 constructor
 ·rintro ⟨q,r,h3,_,h4⟩
  exact ⟨q,h3,aGv.2 ⟨r,by rw[h2];exact h4⟩⟩
 rintro ⟨q,h3,h4⟩
 obtain ⟨r,hr⟩:=aGv.1 h4
 refine ⟨q,r,h3,?_,by rw[<-h2];exact hr⟩
 rcases Nat.lt_or_ge q.length s.length with hlt | hge
 ·exfalso
  have hg:(s++tailJ ss)[q.length]? = some 47:=by rw[<-h2,hr];simp
  rw[List.getElem?_append_left hlt] at hg
  exact hc s (List.mem_cons_self ..) (List.mem_of_getElem? hg)
 exact hge
structure FV where
 path:ByteArray
 exec:Bool
 text:ByteArray
deriving DecidableEq
def FV.cells (f:FV):List Value:=[.string f.path,.bool f.exec,.string f.text]
def FV.p (f:FV):Bs:=f.path.data.toList
def bl (a b:Bs):Bool:=decide (a<b)
def FileOk (f:FV):Prop:=pathOk f.p=true/\f.text.size<=20000
def Rise (l:List FV):Prop:=∀i a b,l[i]? = some a->l[i+1]? = some b->a.p<b.p
def TreeOk (l:List FV):Prop:=l.length<=100/\(∀f∈l,FileOk f)/\Rise l/\∀f∈l,∀g∈l,within f.p g.p=false
open Classical in
noncomputable def treeOk (l:List FV):Bool:=decide (TreeOk l)
theorem aAx {l:List FV}:treeOk l=true↔TreeOk l:=by simp[treeOk]
def clashP (a b:Bs):Bool:=decide (a=b) || within a b || within b a
theorem aFh {a b c:Bs}(h1:a<b)(h2:b<c):a<c:=List.lt_trans h1 h2
theorem Rise.lt {l:List FV}(h:Rise l):∀{i j:Nat} {a b:FV},i<j->l[i]? = some a->l[j]? = some b->a.p<b.p:=by
 intro i j
 induction j with
 | zero=>intro a b hij;omega
 | succ j ih=>
  intro a b hij ha hb
  have hj:j<l.length:=by have:=(List.getElem?_eq_some_iff.1 hb).1;omega
  by_cases e:i=j
  ·subst e;exact h i a b ha hb
  exact aFh (ih (by omega) ha (List.getElem?_eq_getElem hj)) (h j _ b (List.getElem?_eq_getElem hj) hb)
theorem aHg {a b:Bs}(h:a<b):a≠b:=fun e=>by subst e;exact List.lt_irrefl _ h
theorem aYl {l:List FV}(hl:l.length<=100)(hf:∀f∈l,FileOk f)(hr:Rise l)(hp:∀(i j:Nat)(a b:FV),j<i->l[i]? = some a->l[j]? = some b->clashP b.p a.p=false):TreeOk l:=by
 refine ⟨hl,hf,hr,fun f h1 g h2=>?_⟩
 obtain ⟨i,hi,rfl⟩:=List.getElem_of_mem h1
 obtain ⟨j,hj,rfl⟩:=List.getElem_of_mem h2
 rcases Nat.lt_trichotomy i j with h | h | h
 ·have:=hp j i _ _ h (List.getElem?_eq_getElem hj) (List.getElem?_eq_getElem hi)
  simp only[clashP,Bool.or_eq_false_iff] at this
  exact this.1.2
 ·subst h
  cases e:within l[i].p l[i].p with
  | false=>rfl
  | true=>have:=aRg e;omega
 have:=hp i j _ _ h (List.getElem?_eq_getElem hi) (List.getElem?_eq_getElem hj)
 simp only[clashP,Bool.or_eq_false_iff] at this
 exact this.2
theorem TreeOk.pair {l:List FV}(h:TreeOk l){i j:Nat}{a b:FV}(hij:j<i)(ha:l[i]? = some a)(hb:l[j]? = some b):clashP b.p a.p=false:=by
 have h1:=h.2.2.2 b (List.mem_of_getElem? hb) a (List.mem_of_getElem? ha)
 have h2:=h.2.2.2 a (List.mem_of_getElem? ha) b (List.mem_of_getElem? hb)
 simp[clashP,h1,h2,aHg (h.2.2.1.lt hij hb ha)]
def cells8 (l:Bs):List Value:=l.map fun b=>.int .u8 (b.toNat:Int)
theorem aPa (l:Bs):(cells8 l).length=l.length:=List.length_map _
theorem rd8 {w:World}{B n c:Nat}{A:Option Addr}{l:Bs}(h:Rd w B 1 A n c (cells8 l)){k:Nat}(hk:k<n) :
  ∃b o u,A=some ⟨b,o,none⟩/\b<B/\l[k]? = some u/\w.cell? ⟨b,o+k,none⟩=some (.int .u8 u.toNat):=by
 obtain ⟨b,o,v,e,hb,hv,hc⟩:=h.one hk
 rw[cells8,List.getElem?_map,Option.map_eq_some_iff] at hv
 obtain ⟨u,hu,rfl⟩:=hv
 exact ⟨b,o,u,e,hb,hu,hc⟩
theorem aIu (c:UInt8):byteOk c=(decide ((33:Int)<=c.toNat) && decide ((c.toNat:Int)<=126)):=by
 rw[byteOk];congr 1<;>exact decide_eq_decide.2 (by omega)
theorem aWh (c:UInt8)(w:World):Calls Tryz.prog 124 #[.int .u8 c.toNat] w fun e w'=>e=.returned (.bool (!byteOk c))/\w'=w:=by
 have hb:(c.toNat:Int)<256:=by have:=c.toNat_lt;omega
 have HO:=hid (aIu c)
 generalize (c.toNat:Int)=z at *
 go_enter Tryz.func124,Tryz.ntmps124
 by_cases h1:z<33
 ·go_wp2
  go_ret
  refine ⟨aAf ?_,rfl⟩
  rw[HO.out,decide_eq_false (by omega)];rfl
 by_cases h2:126<z
 ·go_wp2
  go_ret
  refine ⟨aAf ?_,rfl⟩
  rw[HO.out,decide_eq_false (p:=z<=126) (by omega),Bool.and_false];rfl
 go_wp2
 go_ret
 refine ⟨aAf ?_,rfl⟩
 rw[HO.out,decide_eq_true (by omega),decide_eq_true (by omega)];rfl
def PlaceOf (bad:Bool)(n:Nat)(w:World)(e:Ending) (w':World):Prop:=∃k:Int,e=.returned (.int .i64 k)/\bad=decide (0<=k)/\-1<=k/\k<=n/\Below w.heap.size w w'
theorem aZw {A:Option Addr}{n c BB:Nat}{l:Bs}{w:World}(hn:n<=maxLen)(hBB:BB<=w.heap.size)(h:Rd w BB 1 A n c (cells8 l)) :
  Calls Tryz.prog 147 #[.slice A n c,.func (.func 124) #[] #[]] w (PlaceOf (!l.all byteOk) n w):=by
 have HL:=hid (show l.length=n by have:=h.len;rw[aPa] at this;omega)
 unfold maxLen at hn
 go_enter Tryz.func147,Tryz.ntmps147
 go_wp2
 go_loopw[8] (fun i wr=>∃k:Nat,k<=n/\i=.int .i64 k/\Below w.heap.size w wr/\Hid (∀u∈l.take k,byteOk u=true)) (fun i _=>n-(intOf i).toNat)
 case atStart=>exact ⟨0,Nat.zero_le _,rfl,Below.refl _ _,by rw[List.take_zero];intro m hm;cases hm⟩
 obtain ⟨k,hk,rfl,hb,hj⟩:=hrel
 by_cases hlt:k<n
 ·obtain ⟨b0,o0,u,rfl,hbb,hx,h0⟩:=rd8 h hlt
  replace h0:=(hb.cell (p:=⟨b0,o0+k,none⟩) (by show b0<_;omega)).trans h0
  have HX:=hid hx;clear hx
  go_wp2_with fail
  refine (aWh u _).mono ?_
  rintro e w1 ⟨rfl,rfl⟩
  cases hd:byteOk u
  ·have HD:=hid hd
   clear hd
   go_wp2
   go_ret
   refine ⟨k,rfl,?_,by omega,by omega,hb⟩
   rw[decide_eq_true (by omega),Bool.not_eq_true',List.all_eq_false]
   exact ⟨u,List.mem_of_getElem? HX.out,by rw[HD.out];simp⟩
  have HD:=hid hd
  clear hd
  go_wp2
  go_roundw
  case rel=>
   refine ⟨k+1,by omega,by go_num,hb,?_⟩
   intro m hm
   rw[List.take_add_one,HX.out] at hm
   rcases List.mem_append.1 hm with hm | hm
   ·exact hj m hm
   simp at hm;subst hm;exact HD.out
  simp[intOf];omega
 have hkn:k=n:=by omega
 subst hkn
 go_wp2
 go_ret
 refine ⟨-1,rfl,?_,by omega,by omega,hb⟩
 rw[decide_eq_false (by omega)]
 have:=hj.out
 rw[List.take_of_length_le (by rw[HL.out];omega)] at this
 rw[List.all_eq_true.2 this];rfl
end Go.Proofs.YtohblmepajhpaaaGreatDoor
namespace Go.Proofs.YtohblmepajhpaaaGreatDoor
open Go.Shelf
def Tryz.lays221_ren:Go.Shelf.Ren:=⟨fun | 221=>168 | 268=>203 | 138=>204 | 143=>205 | 195=>242 | 197=>243 | 218=>244 | 219=>245 | 260=>274 | 217=>275 | 225=>276 | 224=>277 | 267=>278 | 266=>293 | 314=>294 | n=>n,fun | 9=>9 | 3=>3 | 31=>135 | 4=>4 | 0=>0 | 105=>300 | 21=>21 | 5=>5 | 46=>28 | 119=>332 | 139=>335 | 138=>334 | 146=>336 | 51=>257 | n=>n,fun | 1=>0 | 3=>1 | 4=>2 | n=>n⟩
theorem Tryz.lays221:Go.Proofs.Lays.n221 Tryz.prog Tryz.lays221_ren:={
 mixed:=by kernel_rfl
 f138:=Tryz.func204.trans (congrArg some (by kernel_rfl))
 f143:=Tryz.func205.trans (congrArg some (by kernel_rfl))
 f195:=Tryz.func242.trans (congrArg some (by kernel_rfl))
 f197:=Tryz.func243.trans (congrArg some (by kernel_rfl))
 f217:=Tryz.func275.trans (congrArg some (by kernel_rfl))
 f218:=Tryz.func244.trans (congrArg some (by kernel_rfl))
 f219:=Tryz.func245.trans (congrArg some (by kernel_rfl))
 f221:=Tryz.func168.trans (congrArg some (by kernel_rfl))
 f224:=Tryz.func277.trans (congrArg some (by kernel_rfl))
 f225:=Tryz.func276.trans (congrArg some (by kernel_rfl))
 f260:=Tryz.func274.trans (congrArg some (by kernel_rfl))
 f266:=Tryz.func293.trans (congrArg some (by kernel_rfl))
 f267:=Tryz.func278.trans (congrArg some (by kernel_rfl))
 f268:=Tryz.func203.trans (congrArg some (by kernel_rfl))
 f314:=Tryz.func294.trans (congrArg some (by kernel_rfl))
 t0:=Tryz.underlying0
 a0:=Tryz.isAgg0
 z0:=Tryz.sizeOf0
 v0:=Tryz.zeroValue0
 t3:=Tryz.underlying3
 a3:=Tryz.isAgg3
 z3:=Tryz.sizeOf3
 v3:=Tryz.zeroValue3
 t4:=Tryz.underlying4
 a4:=Tryz.isAgg4
 z4:=Tryz.sizeOf4
 v4:=Tryz.zeroValue4
 t5:=Tryz.underlying5
 a5:=Tryz.isAgg5
 z5:=Tryz.sizeOf5
 v5:=Tryz.zeroValue5
 t9:=Tryz.underlying9
 a9:=Tryz.isAgg9
 z9:=Tryz.sizeOf9
 v9:=Tryz.zeroValue9
 t21:=Tryz.underlying21
 a21:=Tryz.isAgg21
 z21:=Tryz.sizeOf21
 v21:=Tryz.zeroValue21
 t31:=Tryz.underlying135
 a31:=Tryz.isAgg135
 z31:=Tryz.sizeOf135
 v31:=Tryz.zeroValue135
 t46:=Tryz.underlying28
 a46:=Tryz.isAgg28
 z46:=Tryz.sizeOf28
 v46:=Tryz.zeroValue28
 t51:=Tryz.underlying257
 a51:=Tryz.isAgg257
 z51:=Tryz.sizeOf257
 v51:=Tryz.zeroValue257
 t105:=Tryz.underlying300
 a105:=Tryz.isAgg300
 z105:=Tryz.sizeOf300
 v105:=Tryz.zeroValue300
 t119:=Tryz.underlying332
 a119:=Tryz.isAgg332
 z119:=Tryz.sizeOf332
 t138:=Tryz.underlying334
 a138:=Tryz.isAgg334
 z138:=Tryz.sizeOf334
 v138:=Tryz.zeroValue334
 t139:=Tryz.underlying335
 a139:=Tryz.isAgg335
 z139:=Tryz.sizeOf335
 v139:=Tryz.zeroValue335
 t146:=Tryz.underlying336
 a146:=Tryz.isAgg336
 z146:=Tryz.sizeOf336
 v146:=Tryz.zeroValue336
 g1:=by kernel_rfl
 g3:=by kernel_rfl
 g4:=by kernel_rfl }
open Go.RowKit Go.Lib in
theorem Tryz.strings_genSplit (s sep:ByteArray)(sv:Nat)(n:Int)(N:Nat)(m:Int)(w:World)(hs:s.size<4294967281)(hm:w.cell? ⟨0,0,none⟩=some (.int .i64 m))(h1:1<=sep.size)(hsv:sv<=sep.size)(hn0:n≠0)(hn63:n<=9223372036854775807)(hN:(N:Int)=min (if n<0 then (Lib.countB s sep:Int)+1 else n) ((s.size:Int)+1)) :
  Calls Tryz.prog 168 #[.string s,.string sep,.int .i64 sv,.int .i64 n] w fun e w'=>
   e=.returned (.slice (some ⟨w.heap.size,0,none⟩) (Lib.splitB sep sv (N-1) s).length N)/\w'=w.alloc (.cells (Lib.cellsOf (Lib.splitB sep sv (N-1) s) N) 9):=Any.strings_genSplit Tryz.lays221 (by kernel_rfl) s sep sv n N m w hs hm h1 hsv hn0 hn63 hN
def Tryz.lays146_ren:Go.Shelf.Ren:=⟨fun | 146=>149 | 221=>168 | 268=>203 | 138=>204 | 143=>205 | 195=>242 | 197=>243 | 218=>244 | 219=>245 | 260=>274 | 217=>275 | 225=>276 | 224=>277 | 267=>278 | 266=>293 | 314=>294 | n=>n,fun | 9=>9 | 31=>135 | 3=>3 | 4=>4 | 0=>0 | 105=>300 | 21=>21 | 5=>5 | 46=>28 | 119=>332 | 139=>335 | 138=>334 | 146=>336 | 51=>257 | n=>n,fun | 1=>0 | 3=>1 | 4=>2 | n=>n⟩
theorem Tryz.lays146:Go.Proofs.Lays.n146 Tryz.prog Tryz.lays146_ren:={
 mixed:=by kernel_rfl
 f138:=Tryz.func204.trans (congrArg some (by kernel_rfl))
 f143:=Tryz.func205.trans (congrArg some (by kernel_rfl))
 f146:=Tryz.func149.trans (congrArg some (by kernel_rfl))
 f195:=Tryz.func242.trans (congrArg some (by kernel_rfl))
 f197:=Tryz.func243.trans (congrArg some (by kernel_rfl))
 f217:=Tryz.func275.trans (congrArg some (by kernel_rfl))
 f218:=Tryz.func244.trans (congrArg some (by kernel_rfl))
 f219:=Tryz.func245.trans (congrArg some (by kernel_rfl))
 f221:=Tryz.func168.trans (congrArg some (by kernel_rfl))
 f224:=Tryz.func277.trans (congrArg some (by kernel_rfl))
 f225:=Tryz.func276.trans (congrArg some (by kernel_rfl))
 f260:=Tryz.func274.trans (congrArg some (by kernel_rfl))
 f266:=Tryz.func293.trans (congrArg some (by kernel_rfl))
 f267:=Tryz.func278.trans (congrArg some (by kernel_rfl))
 f268:=Tryz.func203.trans (congrArg some (by kernel_rfl))
 f314:=Tryz.func294.trans (congrArg some (by kernel_rfl))
 t0:=Tryz.underlying0
 a0:=Tryz.isAgg0
 z0:=Tryz.sizeOf0
 v0:=Tryz.zeroValue0
 t3:=Tryz.underlying3
 a3:=Tryz.isAgg3
 z3:=Tryz.sizeOf3
 v3:=Tryz.zeroValue3
 t4:=Tryz.underlying4
 a4:=Tryz.isAgg4
 z4:=Tryz.sizeOf4
 v4:=Tryz.zeroValue4
 t5:=Tryz.underlying5
 a5:=Tryz.isAgg5
 z5:=Tryz.sizeOf5
 v5:=Tryz.zeroValue5
 t9:=Tryz.underlying9
 a9:=Tryz.isAgg9
 z9:=Tryz.sizeOf9
 v9:=Tryz.zeroValue9
 t21:=Tryz.underlying21
 a21:=Tryz.isAgg21
 z21:=Tryz.sizeOf21
 v21:=Tryz.zeroValue21
 t31:=Tryz.underlying135
 a31:=Tryz.isAgg135
 z31:=Tryz.sizeOf135
 v31:=Tryz.zeroValue135
 t46:=Tryz.underlying28
 a46:=Tryz.isAgg28
 z46:=Tryz.sizeOf28
 v46:=Tryz.zeroValue28
 t51:=Tryz.underlying257
 a51:=Tryz.isAgg257
 z51:=Tryz.sizeOf257
 v51:=Tryz.zeroValue257
 t105:=Tryz.underlying300
 a105:=Tryz.isAgg300
 z105:=Tryz.sizeOf300
 v105:=Tryz.zeroValue300
 t119:=Tryz.underlying332
 a119:=Tryz.isAgg332
 z119:=Tryz.sizeOf332
 t138:=Tryz.underlying334
 a138:=Tryz.isAgg334
 z138:=Tryz.sizeOf334
 v138:=Tryz.zeroValue334
 t139:=Tryz.underlying335
 a139:=Tryz.isAgg335
 z139:=Tryz.sizeOf335
 v139:=Tryz.zeroValue335
 t146:=Tryz.underlying336
 a146:=Tryz.isAgg336
 z146:=Tryz.sizeOf336
 v146:=Tryz.zeroValue336
 g1:=by kernel_rfl
 g3:=by kernel_rfl
 g4:=by kernel_rfl }
open Go.RowKit Go.Lib in
theorem Tryz.strings_Split (s sep:ByteArray)(m:Int)(w:World)(hs:s.size<4294967281)(hm:w.cell? ⟨0,0,none⟩=some (.int .i64 m))(h1:1<=sep.size) :
  Calls Tryz.prog 149 #[.string s,.string sep] w fun e w'=>
   e=.returned (.slice (some ⟨w.heap.size,0,none⟩) (Lib.countB s sep+1) (Lib.countB s sep+1))/\w'=w.alloc (.cells ((Lib.splitB sep 0 (Lib.countB s sep) s).map Value.string).toArray 9):=Any.strings_Split Tryz.lays146 (by kernel_rfl) s sep m w hs hm h1
def Tryz.laysM146_ren:Go.Shelf.Ren:=⟨fun | 146=>149 | 221=>168 | 268=>203 | 138=>204 | 143=>205 | 195=>242 | 197=>243 | 218=>244 | 219=>245 | 260=>274 | 217=>275 | 225=>276 | 224=>277 | 267=>278 | 266=>293 | 314=>294 | n=>n,fun | 9=>9 | 31=>135 | 3=>3 | 4=>4 | 0=>0 | 105=>300 | 21=>21 | 5=>5 | 46=>28 | 119=>332 | 139=>335 | 138=>334 | 146=>336 | 51=>257 | n=>n,fun | 1=>0 | 3=>1 | 4=>2 | n=>n⟩
theorem Tryz.laysM146:Go.Proofs.LaysM.n146 Tryz.prog Tryz.laysM146_ren:={
 mixed:=by kernel_rfl
 f138:=Tryz.func204.trans (congrArg some (by kernel_rfl))
 f143:=Tryz.func205.trans (congrArg some (by kernel_rfl))
 f146:=Tryz.func149.trans (congrArg some (by kernel_rfl))
 f195:=Tryz.func242.trans (congrArg some (by kernel_rfl))
 f197:=Tryz.func243.trans (congrArg some (by kernel_rfl))
 f217:=Tryz.func275.trans (congrArg some (by kernel_rfl))
 f218:=Tryz.func244.trans (congrArg some (by kernel_rfl))
 f219:=Tryz.func245.trans (congrArg some (by kernel_rfl))
 f221:=Tryz.func168.trans (congrArg some (by kernel_rfl))
 f224:=Tryz.func277.trans (congrArg some (by kernel_rfl))
 f225:=Tryz.func276.trans (congrArg some (by kernel_rfl))
 f260:=Tryz.func274.trans (congrArg some (by kernel_rfl))
 f266:=Tryz.func293.trans (congrArg some (by kernel_rfl))
 f267:=Tryz.func278.trans (congrArg some (by kernel_rfl))
 f268:=Tryz.func203.trans (congrArg some (by kernel_rfl))
 f314:=Tryz.func294.trans (congrArg some (by kernel_rfl))
 t0:=Tryz.underlying0
 a0:=Tryz.isAgg0
 z0:=Tryz.sizeOf0
 v0:=Tryz.zeroValue0
 t3:=Tryz.underlying3
 a3:=Tryz.isAgg3
 z3:=Tryz.sizeOf3
 v3:=Tryz.zeroValue3
 t4:=Tryz.underlying4
 a4:=Tryz.isAgg4
 z4:=Tryz.sizeOf4
 v4:=Tryz.zeroValue4
 t5:=Tryz.underlying5
 a5:=Tryz.isAgg5
 z5:=Tryz.sizeOf5
 v5:=Tryz.zeroValue5
 t9:=Tryz.underlying9
 a9:=Tryz.isAgg9
 z9:=Tryz.sizeOf9
 v9:=Tryz.zeroValue9
 t21:=Tryz.underlying21
 a21:=Tryz.isAgg21
 z21:=Tryz.sizeOf21
 v21:=Tryz.zeroValue21
 t31:=Tryz.underlying135
 a31:=Tryz.isAgg135
 z31:=Tryz.sizeOf135
 v31:=Tryz.zeroValue135
 t46:=Tryz.underlying28
 a46:=Tryz.isAgg28
 z46:=Tryz.sizeOf28
 v46:=Tryz.zeroValue28
 t51:=Tryz.underlying257
 a51:=Tryz.isAgg257
 z51:=Tryz.sizeOf257
 v51:=Tryz.zeroValue257
 t105:=Tryz.underlying300
 a105:=Tryz.isAgg300
 z105:=Tryz.sizeOf300
 v105:=Tryz.zeroValue300
 t119:=Tryz.underlying332
 a119:=Tryz.isAgg332
 z119:=Tryz.sizeOf332
 t138:=Tryz.underlying334
 a138:=Tryz.isAgg334
 z138:=Tryz.sizeOf334
 v138:=Tryz.zeroValue334
 t139:=Tryz.underlying335
 a139:=Tryz.isAgg335
 z139:=Tryz.sizeOf335
 v139:=Tryz.zeroValue335
 t146:=Tryz.underlying336
 a146:=Tryz.isAgg336
 z146:=Tryz.sizeOf336
 v146:=Tryz.zeroValue336
 g1:=by kernel_rfl
 g3:=by kernel_rfl
 g4:=by kernel_rfl
 i0:=by kernel_rfl
 i3:=by kernel_rfl
 i4:=by kernel_rfl
 i5:=by kernel_rfl
 i9:=by kernel_rfl
 i21:=by kernel_rfl
 i31:=by kernel_rfl
 i46:=by kernel_rfl
 i51:=by kernel_rfl
 i105:=by kernel_rfl
 i138:=by kernel_rfl
 i139:=by kernel_rfl
 i146:=by kernel_rfl
 m1:=by kernel_rfl
 s1_3:=fun w h=>Go.Proofs.cell_of_shapedOpen_int (zero:=#[.int .i64 0]) (t:=3) h (of_decide_eq_true (by kernel_rfl)) (by kernel_rfl) rfl (by kernel_rfl) (by kernel_rfl) Tryz.underlying3
 m3:=by kernel_rfl
 m4:=by kernel_rfl }
end Go.Proofs.YtohblmepajhpaaaGreatDoor
namespace Go.Proofs.YtohblmepajhpaaaGreatDoor
open Go.RowKit
def Lm (w:World):Prop:=∃m,w.cell? ⟨0,0,none⟩=some (.int .i64 m)
theorem Lm.below {w w':World}{B:Nat}(h:Lm w)(hb:Below B w w')(hB:0<B):Lm w':=by
 obtain ⟨m,hm⟩:=h
 exact ⟨m,(hb.cell (p:=⟨0,0,none⟩) hB).trans hm⟩
theorem Lm.lt {w:World}(h:Lm w):0<w.heap.size:=by
 obtain ⟨m,hm⟩:=h
 exact World.block_lt_of_cell? _ _ hm
theorem Lm.to {w w':World}(h:Lm w)(hb:Below w.heap.size w w'):Lm w':=h.below hb h.lt
theorem Lm.shaped {w:World}(h:w.ShapedOpen Tryz.prog):Lm w:=Tryz.laysM146.s1_3 w h
theorem aPz {p:ByteArray}{l:Bs}:p=⟨l.toArray⟩↔p.data.toList=l:=by
 constructor
 ·intro h;rw[h]
 intro h
 cases p with
 | mk d=>simp at h;rw[<-h]
theorem aCk {x y:ByteArray}(h:x.data.toList=y.data.toList):x=y:=aPz.2 h
theorem aVg (w:World)(e:TypeId)(s:ByteArray):Below w.heap.size w (Lib.bytesWorld w e s):=
 ⟨by simp only[Lib.bytesWorld,World.freeze];rfl,by simp only[Lib.bytesWorld,World.freeze];rfl,by simp only[Lib.bytesWorld,World.freeze];rfl,by rw[Lib.bytesWorld_size];omega,fun k hk=>Lib.bytesWorld_at_old w e s k hk⟩
theorem bEz (w:World)(e:TypeId)(s:ByteArray):Rd (Lib.bytesWorld w e s) (w.heap.size+1) 1 (some ⟨w.heap.size,0,none⟩) s.size (grownCap w s.size 0 e) (cells8 s.data.toList):=by
 have hl:s.data.toList.length=s.size:=rfl
 refine ⟨by rw[aPa,hl];omega,?_,fun _=>⟨_,0,rfl,by omega,fun j u hu=>?_⟩⟩
 ·exact grownCap_ge _ _ _ _
 rw[cells8,List.getElem?_map,Option.map_eq_some_iff] at hu
 obtain ⟨x,hx,rfl⟩:=hu
 have hj:j<s.size:=by rw[<-hl];exact (List.getElem?_eq_some_iff.1 hx).1
 have:=Lib.bytesWorld_cell w e s j hj
 rw[Nat.zero_add,this,List.getD,hx];rfl
def partOkB (p:ByteArray):Bool:=partOk p.data.toList
theorem aDf {p:ByteArray}(h:p=⟨#[]⟩\/p=⟨#[46]⟩\/p=⟨#[46,46]⟩):partOkB p=false:=by
 rcases h with rfl | rfl | rfl<;>rfl
theorem aMk {p:ByteArray}(h0:p≠⟨#[]⟩)(h1:p≠⟨#[46]⟩)(h2:p≠⟨#[46,46]⟩):partOkB p=true:=by
 have e0:¬p.data.toList=[]:=fun e=>h0 (aPz.2 e)
 have e1:¬p.data.toList=[46]:=fun e=>h1 (aPz.2 e)
 have e2:¬p.data.toList=[46,46]:=fun e=>h2 (aPz.2 e)
 simp[partOkB,partOk,e0,e1,e2]
theorem aWn (p:ByteArray)(w:World):Calls Tryz.prog 127 #[.string p] w fun e w'=>e=.returned (.bool (!partOkB p))/\w'=w:=by
 by_cases h0:p=⟨#[]⟩
 ·have HO:=hid (aDf (.inl h0))
  subst h0
  go_enter Tryz.func127,Tryz.ntmps127
  go_wp2
  go_ret
  exact ⟨aAf (by rw[HO.out];rfl),rfl⟩
 by_cases h1:p=⟨#[46]⟩
 ·have HO:=hid (aDf (.inr (.inl h1)))
  subst h1
  go_enter Tryz.func127,Tryz.ntmps127
  go_wp2
  go_ret
  exact ⟨aAf (by rw[HO.out];rfl),rfl⟩
 by_cases h2:p=⟨#[46,46]⟩
 ·have HO:=hid (aDf (.inr (.inr h2)))
  subst h2
  go_enter Tryz.func127,Tryz.ntmps127
  go_wp2
  go_ret
  exact ⟨aAf (by rw[HO.out];rfl),rfl⟩
 have HO:=hid (aMk h0 h1 h2)
 have n0:¬p.toList=[]:=fun e=>h0 (aCk (by rw[<-Lib.toList_data];exact e))
 have n1:¬p.toList=[46]:=fun e=>h1 (aCk (by rw[<-Lib.toList_data];exact e))
 have n2:¬p.toList=[46,46]:=fun e=>h2 (aCk (by rw[<-Lib.toList_data];exact e))
 clear h0 h1 h2
 go_enter Tryz.func127,Tryz.ntmps127
 go_wp2
 go_ret
 exact ⟨aAf (by rw[HO.out];simp[n0,n1,n2]),rfl⟩
theorem bAe {A:Option Addr}{n c BB:Nat}{l:List ByteArray}{w:World}(hn:n<=maxLen)(hBB:BB<=w.heap.size)(h:Rd w BB 1 A n c (l.map .string)) :
  Calls Tryz.prog 148 #[.slice A n c,.func (.func 127) #[] #[]] w (PlaceOf (!l.all partOkB) n w):=by
 have HL:=hid (show l.length=n by have:=h.len;rw[List.length_map] at this;omega)
 unfold maxLen at hn
 go_enter Tryz.func148,Tryz.ntmps148
 go_wp2
 go_loopw[8] (fun i wr=>∃k:Nat,k<=n/\i=.int .i64 k/\Below w.heap.size w wr/\Hid (∀u∈l.take k,partOkB u=true)) (fun i _=>n-(intOf i).toNat)
 case atStart=>exact ⟨0,Nat.zero_le _,rfl,Below.refl _ _,by rw[List.take_zero];intro m hm;cases hm⟩
 obtain ⟨k,hk,rfl,hb,hj⟩:=hrel
 by_cases hlt:k<n
 ·obtain ⟨b0,o0,u,rfl,hbb,hx,h0⟩:=h.str hlt
  replace h0:=(hb.cell (p:=⟨b0,o0+k,none⟩) (by show b0<_;omega)).trans h0
  have HX:=hid hx;clear hx
  go_wp2_with fail
  refine (aWn u _).mono ?_
  rintro e w1 ⟨rfl,rfl⟩
  cases hd:partOkB u
  ·have HD:=hid hd
   clear hd
   go_wp2
   go_ret
   refine ⟨k,rfl,?_,by omega,by omega,hb⟩
   rw[decide_eq_true (by omega),Bool.not_eq_true',List.all_eq_false]
   exact ⟨u,List.mem_of_getElem? HX.out,by rw[HD.out];simp⟩
  have HD:=hid hd
  clear hd
  go_wp2
  go_roundw
  case rel=>
   refine ⟨k+1,by omega,by go_num,hb,?_⟩
   intro m hm
   rw[List.take_add_one,HX.out] at hm
   rcases List.mem_append.1 hm with hm | hm
   ·exact hj m hm
   simp at hm;subst hm;exact HD.out
  simp[intOf];omega
 have hkn:k=n:=by omega
 subst hkn
 go_wp2
 go_ret
 refine ⟨-1,rfl,?_,by omega,by omega,hb⟩
 rw[decide_eq_false (by omega)]
 have:=hj.out
 rw[List.take_of_length_le (by rw[HL.out];omega)] at this
 rw[List.all_eq_true.2 this];rfl
theorem bHd {A:Option Addr}{n c BB:Nat}{l:Bs}{w:World}(hn:n<=maxLen)(hBB:BB<=w.heap.size)(h:Rd w BB 1 A n c (cells8 l)) :
  Calls Tryz.prog 123 #[.slice A n c,.func (.func 124) #[] #[]] w (BoolBelow (!l.all byteOk) w):=by
 go_enter Tryz.func123,Tryz.ntmps123
 go_wp2_with fail
 refine (aZw hn hBB h).mono ?_
 rintro e w1 ⟨k,rfl,hk,h1,h2,hb⟩
 unfold maxLen at hn
 have HK:=hid hk
 clear hk
 by_cases h0:(0:Int)<=k
 ·go_wp2
  go_ret
  exact ⟨aAf (by simp[HK.out,h0]),hb⟩
 go_wp2
 go_ret
 exact ⟨aAf (by simp[HK.out]),hb⟩
theorem bGp {A:Option Addr}{n c BB:Nat}{l:List ByteArray}{w:World}(hn:n<=maxLen)(hBB:BB<=w.heap.size)(h:Rd w BB 1 A n c (l.map .string)) :
  Calls Tryz.prog 125 #[.slice A n c,.func (.func 127) #[] #[]] w (BoolBelow (!l.all partOkB) w):=by
 go_enter Tryz.func125,Tryz.ntmps125
 go_wp2_with fail
 refine (bAe hn hBB h).mono ?_
 rintro e w1 ⟨k,rfl,hk,h1,h2,hb⟩
 unfold maxLen at hn
 have HK:=hid hk
 clear hk
 by_cases h0:(0:Int)<=k
 ·go_wp2
  go_ret
  exact ⟨aAf (by simp[HK.out,h0]),hb⟩
 go_wp2
 go_ret
 exact ⟨aAf (by simp[HK.out]),hb⟩
def PartsIs (s:ByteArray)(w:World)(e:Ending) (w':World):Prop:=
 ∃ps:List ByteArray,e=.returned (.slice (some ⟨w.heap.size,0,none⟩) ps.length ps.length)/\ps.map (·.data.toList)=parts s.data.toList/\
  Rd w' (w.heap.size+1) 1 (some ⟨w.heap.size,0,none⟩) ps.length ps.length (ps.map .string)/\Below w.heap.size w w'/\w.heap.size+1<=w'.heap.size/\ps.length<=s.size+1
theorem aTb {s:ByteArray}{w:World}(hs:s.size<4294967281)(hm:Lm w):Calls Tryz.prog 126 #[.string s] w (PartsIs s w):=by
 obtain ⟨m,hm⟩:=hm
 have hlen:=Lib.splitB_all ⟨#[47]⟩ (by decide) 0 _ s rfl
 have hp:=aUn s
 have hcl:=Lib.countB_le ⟨#[47]⟩ (by decide) s.size s (Nat.le_refl _)
 go_enter Tryz.func126,Tryz.ntmps126
 go_wp2_with fail
 refine (Tryz.strings_Split s ⟨#[47]⟩ m w hs hm (by decide)).mono ?_
 rintro e w1 ⟨rfl,rfl⟩
 generalize Lib.splitB ⟨#[47]⟩ 0 (Lib.countB s ⟨#[47]⟩) s=ps at *
 rw[<-hlen]
 go_wp2
 go_ret
 refine ⟨ps,by rw[hlen];rfl,hp,⟨by simp,Nat.le_refl _,fun _=>⟨_,0,rfl,by omega,fun j u hu=>?_⟩⟩,(Below.refl _ _).alloc (Nat.le_refl _) _,by simp,by omega⟩
 rw[Nat.zero_add,World.cell?,heap_alloc_new]
 simpa using hu
theorem aMq {ps:List ByteArray}{s:ByteArray}(h:ps.map (·.data.toList)=parts s.data.toList):ps.all partOkB=(parts s.data.toList).all partOk:=by
 rw[<-h,List.all_map];rfl
theorem aPi {s:ByteArray}{w:World}(hm:Lm w):Calls Tryz.prog 104 #[.string s] w (BoolBelow (pathOk s.data.toList) w):=by
 have hl:s.data.toList.length=s.size:=rfl
 by_cases h0:s.size=0
 ·have HP:=hid (show pathOk s.data.toList=false by rw[pathOk,hl,decide_eq_false (by omega)];rfl)
  have hz:(s.size:Int)=0:=by omega
  go_enter Tryz.func104,Tryz.ntmps104
  go_wp2
  go_ret
  exact ⟨aAf HP.out.symm,Below.refl _ _⟩
 obtain ⟨hz,_⟩:=aFl (u:=(s.size:Int)) (v:=0) (by omega)
 by_cases h1:100<s.size
 ·have HP:=hid (show pathOk s.data.toList=false by rw[pathOk,hl,decide_eq_false (p:=s.size<=100) (by omega)];simp)
  have hz2:(100:Int)<s.size:=by omega
  go_enter Tryz.func104,Tryz.ntmps104
  go_wp2
  go_ret
  exact ⟨aAf HP.out.symm,Below.refl _ _⟩
 have hz2:¬(100:Int)<s.size:=by omega
 have hcv:=Lib.run_convert_string_bytes w 9 102 5 s Tryz.underlying9 Tryz.underlying102 Tryz.underlying5
 have HB:=aVg w 5 s
 have HR:=bEz w 5 s
 have HZ:=Lib.bytesWorld_size w 5 s
 go_enter Tryz.func104,Tryz.ntmps104
 go_wp2_with fail
 refine (bHd (by simp only[maxLen];omega) (by omega) HR).mono ?_
 rintro e w1 ⟨rfl,hb1⟩
 have hB1:Below w.heap.size w w1:=HB.trans (hb1.mono (by omega))
 clear hcv HB HR hb1 HZ
 have hm1:=hm.to hB1
 cases hd:s.data.toList.all byteOk
 ·have HP:=hid (show pathOk s.data.toList=false by rw[pathOk,hd];simp)
  clear hd
  go_wp2
  go_ret
  exact ⟨aAf HP.out.symm,hB1⟩
 have HP:=hid (show pathOk s.data.toList=(parts s.data.toList).all partOk by rw[pathOk,hd,hl,decide_eq_true (by omega),decide_eq_true (by omega)];rfl)
 clear hd
 go_wp2_with fail
 refine (aTb (by omega) hm1).mono ?_
 rintro e w2 ⟨ps,rfl,hps,hr2,hb2,hs2,hle⟩
 have HPS:=hid hps
 clear hps
 go_wp2_with fail
 refine (bGp (by simp only[maxLen];omega) hs2 hr2).mono ?_
 rintro e w3 ⟨rfl,hb3⟩
 have HB3:=hid (hB1.trans ((hb2.mono hB1.size).trans (hb3.mono (by have:=hB1.size;have:=hb2.size;omega))))
 clear hb3 hb2 hr2
 go_wp2
 go_ret
 exact ⟨aAf (by rw[HP.out,<-aMq HPS.out]),HB3.out⟩
theorem T.laidOut:laidOutB Tryz.prog=true:=by kernel_rfl
theorem wideP:(match Tryz.prog.underlying 172 with | some (.array _ _) | some (.struct _)=>true | _=>false)=true:=by kernel_rfl
theorem KP:Maps.Keyed Tryz.prog 172:=Maps.Keyed.of_law (deep_law_laid T.laidOut (m:=2) (by omega) (of_decide_eq_true (by kernel_rfl)) (by kernel_rfl) wideP)
def klP (q:ByteArray):Lit:=.string (keyBytes [.string q.data.toList])
theorem T.types_pos:(0:Nat)<Tryz.prog.types.size:=of_decide_eq_true (by kernel_rfl)
theorem bEl {P : Program} {t e : TypeId} {f : Field} (hu : P.underlying t = some (.struct #[f])) (hft : f.type = e) (hfo : f.offset = 0) (hfn : (f.name != "_") = true) (hct : P.cellsOf t = 1) (hce : P.cellsOf e = 1)
  (hue:P.underlying e=some .string) (hk:P.keyType t=true) (hp:0<P.types.size) {x:ByteArray} (hw:x.size<=maxLen):keyOf P t (.agg #[.string x])=some (klP x):=by
 obtain ⟨k,hs⟩:∃k,P.types.size=k+1:=⟨P.types.size-1,by omega⟩
 have h1:P.keyLits (k+1) e [.string x]=some [.string x.data.toList]:=by simp[Program.keyLits,hue,hw]
 have h2:P.keyLits (k+1+1) t [.string x]=some [.string x.data.toList]:=by
  unfold Program.keyLits
  simp only[hu]
  have hfn' : ¬ f.name = "_" := by simpa using hfn
  simp[hct,hft,hfo,hce,h1,hfn']
 simp[keyOf,hu,hk,Value.formed,hct,Value.cells,hs,h2,klP]
theorem bBn:Tryz.prog.keyType 172=true:=by kernel_rfl
theorem cellsP:Tryz.prog.cellsOf 172=1:=by kernel_rfl
theorem aTe:Tryz.prog.cellsOf 9=1:=by kernel_rfl
theorem keyP {x:ByteArray}(h:x.size<=maxLen):keyOf Tryz.prog 172 (.agg #[.string x])=some (klP x):=
 bEl Tryz.underlying172 rfl rfl rfl cellsP aTe Tryz.underlying9 bBn T.types_pos h
theorem aOu {x y:ByteArray}(hx:x.size<=maxLen)(hy:y.size<=maxLen)(h:x≠y):klP x≠klP y:=fun e=>by
 have h1:=keyP hx
 rw[e] at h1
 have:=KP.inj h1 (keyP hy)
 simp at this
 exact h this
theorem aJf {x:ByteArray}(hx:x.size<=maxLen):WideAt.IsKeyLit (klP x):=KP.key (keyP hx)
theorem boolT (x:Bool):plainElem (H:=Value) Tryz.prog 4 (.bool x)=some (.lit (.bool x),[]):=plainElem_bool Tryz.underlying4 x
theorem aUe {v:Value}{x:Bool}{ps:List MemPlace}(h:plainElem (H:=Value) Tryz.prog 4 v=some (.lit (.bool x),ps)):v=.bool x:=by
 unfold plainElem at h
 rw[Tryz.underlying4] at h
 cases v<;>simp at h
 rw[h.1]
structure SetP (w:World) (b n:Nat) (D:DataW Value) (S:Bs->Bool):Prop where
 own:w.ownsMap Tryz.prog 172 (plainElem Tryz.prog 4) b n D
 at_:∀q:ByteArray,q.size<=maxLen->D.atKey (klP q) (.lit (.bool false))=.lit (.bool (S q.data.toList))
 has:∀q:ByteArray,q.size<=maxLen->Maps.has D (klP q)=S q.data.toList
theorem SetP.start (w:World):SetP (w.alloc (.map #[] 0)) w.heap.size 0 (.map []) (fun _=>false):=
 ⟨World.ownsMap_made _ _ _ _,fun x _=>by simp[DataW.atKey],fun x _=>rfl⟩
theorem SetP.put {w w':World}{b n:Nat}{D:DataW Value} {S S':Bs->Bool}{k:ByteArray}(h:SetP w b n D S)(hk:k.size<=maxLen)
  (hown:w'.ownsMap Tryz.prog 172 (plainElem Tryz.prog 4) b (n+1) (D.put (klP k) (.lit (.bool true)))) (hS:∀x,S' x=(S x || decide (k.data.toList=x))) :
  SetP w' b (n+1) (D.put (klP k) (.lit (.bool true))) S':=by
 refine ⟨hown,fun x hx=>?_,fun x hx=>?_⟩
 ·by_cases e:x=k
  ·subst e
   rw[Maps.atKey_put_same h.own.isMap (aJf hk),hS,decide_eq_true rfl,Bool.or_true]
  rw[Maps.atKey_put_other (aOu hx hk e),h.at_ x hx,hS,decide_eq_false (fun e2=>e (aCk e2.symm)),Bool.or_false]
 by_cases e:x=k
 ·subst e
  rw[Maps.has_put_same h.own.isMap (aJf hk),hS,decide_eq_true rfl,Bool.or_true]
 rw[Maps.has_put_other (aOu hx hk e),h.has x hx,hS,decide_eq_false (fun e2=>e (aCk e2.symm)),Bool.or_false]
theorem SetP.kept {w w':World}{b n:Nat}{D:DataW Value}{S:Bs->Bool}{row:Option Nat}(h:SetP w b n D S)(hg:w.grownBy w' row)(hne:some b≠row):SetP w' b n D S:=
 ⟨h.own.kept hg hne,h.at_,h.has⟩
theorem SetP.below {w w':World}{b n:Nat}{D:DataW Value}{S:Bs->Bool}(h:SetP w b n D S)(hb:Below w.heap.size w w'):SetP w' b n D S:=
 h.kept (row:=none) ⟨hb.os,hb.tape,hb.output,hb.size,fun k hk _=>hb.block k hk⟩ (by simp)
theorem SetP.look {w:World}{b n:Nat}{D:DataW Value}{S:Bs->Bool}(h:SetP w b n D S){x:ByteArray}(hx:x.size<=maxLen) :
  (Instr.lookup 153 (.map (some b)) (.agg #[.string x]) false).run Tryz.prog w=.ok (.bool (S x.data.toList)) w:=by
 obtain ⟨v,ps,hrun,hv⟩:=h.own.lookup KP Tryz.underlying153 (Tryz.zeroValue4 w) (boolT false) (keyP hx)
 rw[h.at_ x hx] at hv
 rw[aUe hv] at hrun
 exact hrun
theorem bGl (w:World)(x:ByteArray):(Instr.build 172 #[(0,.string x)]).run Tryz.prog w=.ok (.agg #[.string x]) w:=by
 go_simp
def onWay (m:Bs->Bool)(p:Bs):Bool:=match parts p with | s::ss=>way m s ss | []=>false
theorem aSv {m:Bs->Bool}{p:Bs}:onWay m p=true↔∃q,m q=true/\within p q=true:=by
 obtain ⟨s,ss,h,_⟩:=aEg p
 rw[onWay,h]
 exact bDr h
def WayAt (m:Bs->Bool)(p:Bs)(ps:List Bs)(k:Nat)(at_:Bs):Prop:=
 (k=0/\at_=[])\/(1<=k/\at_++tailJ (ps.drop k)=p/\way m at_ (ps.drop k)=onWay m p)
theorem WayAt.first {m:Bs->Bool}{p:Bs}{ps:List Bs}(hp:parts p=ps){s:Bs}(h0:ps[0]? = some s):WayAt m p ps 1 s:=by
 obtain ⟨s',ss',h1,h2⟩:=aEg p
 rw[<-hp,h1] at h0 ⊢
 simp at h0
 subst h0
 refine .inr ⟨Nat.le_refl _,?_,?_⟩
 ·exact h2.symm
 rw[onWay,h1];rfl
theorem WayAt.next {m:Bs->Bool}{p:Bs}{ps:List Bs}{k:Nat}{a s:Bs}(h:WayAt m p ps k a)(hk:1<=k)(hs:ps[k]? = some s) :
  (m a=true->onWay m p=true)/\(m a=false->WayAt m p ps (k+1) (a++47::s)):=by
 have hlt:=(List.getElem?_eq_some_iff.1 hs).1
 have hd:ps.drop k=s::ps.drop (k+1):=by rw[List.drop_eq_getElem_cons hlt,(List.getElem?_eq_some_iff.1 hs).2]
 rcases h with ⟨h0,_⟩ | ⟨_,h2,h3⟩
 ·omega
 rw[hd] at h2 h3
 rw[way] at h3
 constructor
 ·intro hm;rw[<-h3,hm,Bool.true_or]
 intro hm
 rw[hm,Bool.false_or] at h3
 refine .inr ⟨by omega,?_,h3⟩
 rw[<-h2];simp[tailJ]
theorem WayAt.len {m:Bs->Bool}{p:Bs}{ps:List Bs}{k:Nat}{a:Bs}(h:WayAt m p ps k a):a.length<=p.length:=by
 rcases h with ⟨_,rfl⟩ | ⟨_,h2,_⟩
 ·exact Nat.zero_le _
 rw[<-h2];simp
theorem WayAt.done {m:Bs->Bool}{p:Bs}{ps:List Bs}{a:Bs}(h:WayAt m p ps ps.length a)(hp:parts p=ps):onWay m p=false:=by
 rcases h with ⟨h0,_⟩ | ⟨_,_,h3⟩
 ·exact absurd (List.eq_nil_of_length_eq_zero h0) (by rw[<-hp];exact aXt p)
 rw[<-h3,List.drop_length];rfl
theorem bGc {p s:Bs}(h:s∈parts p):s.length<=p.length:=by
 obtain ⟨s0,ss,h1,h2⟩:=aEg p
 rw[h1] at h
 rcases List.mem_cons.1 h with rfl | h
 ·rw[h2];simp
 obtain ⟨a,b,rfl⟩:=List.append_of_mem h
 rw[h2];simp[tailJ];omega
theorem bAb {p:ByteArray}{w:World}{b n:Nat}{D:DataW Value}{m:Bs->Bool}(hs:p.size<=1048576)(hm:Lm w)(h:SetP w b n D m) :
  Calls Tryz.prog 105 #[.map (some b),.string p] w (BoolBelow (onWay m p.data.toList) w):=by
 have hl:p.data.toList.length=p.size:=rfl
 go_enter Tryz.func105,Tryz.ntmps105
 go_wp2_with fail
 refine (aTb (by omega) hm).mono ?_
 rintro e w1 ⟨ps,rfl,hps,hr,hb1,hs1,hle⟩
 have HP:=hid hps
 clear hps
 go_wp2
 go_loopw[5,11] (fun av kv wr=>∃(k:Nat) (a:ByteArray),k<=ps.length/\kv=.int .i64 k/\av=.string a/\Hid (WayAt m p.data.toList (ps.map (·.data.toList)) k a.data.toList)/\Below w.heap.size w wr/\Below w1.heap.size w1 wr) (fun _ kv _=>ps.length-(intOf kv).toNat)
 case atStart=>exact ⟨0,⟨#[]⟩,Nat.zero_le _,rfl,rfl,.inl ⟨rfl,rfl⟩,hb1,Below.refl _ _⟩
 obtain ⟨k,a,hk,rfl,rfl,hw,hb,hb2⟩:=hrel
 by_cases hlt:k<ps.length
 ·obtain ⟨b0,o0,u,e0,hbb,hx,h0⟩:=hr.str hlt
  cases e0
  replace h0:=(hb2.cell (p:=⟨w.heap.size,0+k,none⟩) (by show w.heap.size<_;omega)).trans h0
  rw[Nat.zero_add] at h0
  have hx':(ps.map (·.data.toList))[k]? = some u.data.toList:=by rw[List.getElem?_map,hx];rfl
  have hal:a.size<=p.size:=by have:=WayAt.len hw.out;exact this
  have hul:u.size<=p.size:=by
   refine bGc (p:=p.data.toList) (s:=u.data.toList) ?_
   rw[<-HP.out];exact List.mem_of_getElem? hx'
  have HX:=hid hx'
  clear hx hx'
  by_cases hk0:k=0
  ·subst hk0
   go_wp2
   go_roundw
   case rel=>
    refine ⟨1,a++u,by omega,by go_num,rfl,?_,hb,hb2⟩
    have ha:a.data.toList=[]:=by
     rcases hw.out with ⟨_,h⟩ | ⟨h,_⟩
     ·exact h
     omega
    have e:(a++u).data.toList=u.data.toList:=by rw[ByteArray.data_append,Array.toList_append,ha,List.nil_append]
    show WayAt _ _ _ 1 (a++u).data.toList
    rw[e]
    exact WayAt.first HP.out.symm HX.out
   simp[intOf];omega
  have hk1:1<=k:=by omega
  have hki:(0:Int)<k:=by omega
  have hlk:=(h.below (hb.mono (Nat.le_refl _))).look (x:=a) (by unfold maxLen;omega)
  obtain ⟨n1,n2⟩:=WayAt.next hw.out hk1 HX.out
  cases hma:m a.data.toList with
  | true=>
   rw[hma] at hlk
   have HO:=hid (n1 hma)
   clear n1 n2
   go_wp2
   go_ret
   exact ⟨aAf HO.out.symm,hb⟩
  | false=>
   rw[hma] at hlk
   have HO:=hid (n2 hma)
   clear n1 n2
   have hz:(⟨#[47]⟩:ByteArray).size=1:=rfl
   go_wp2
   go_roundw
   case rel=>
    refine ⟨k+1,a++⟨#[47]⟩++u,by omega,by go_num,rfl,?_,hb,hb2⟩
    have e:(a++⟨#[47]⟩++u).data.toList=a.data.toList++47::u.data.toList:=by
     rw[ByteArray.data_append,ByteArray.data_append,Array.toList_append,Array.toList_append];simp
    show WayAt _ _ _ (k+1) (a++⟨#[47]⟩++u).data.toList
    rw[e]
    exact HO.out
   simp[intOf];omega
 have hkn:k=ps.length:=by omega
 subst hkn
 have HO:=hid (show onWay m p.data.toList=false from by
  have:=hw.out
  rw[<-List.length_map (f:=fun x:ByteArray=>x.data.toList)] at this
  exact this.done HP.out.symm)
 go_wp2
 go_ret
 exact ⟨aAf HO.out.symm,hb⟩
end Go.Proofs.YtohblmepajhpaaaGreatDoor
