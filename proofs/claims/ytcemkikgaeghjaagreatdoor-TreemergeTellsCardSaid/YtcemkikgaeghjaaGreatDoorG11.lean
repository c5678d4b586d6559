/- Texts of the walks, together: Plain laws: texts exchanged; pairs of files that moved. Plain law: where one side has all as base has it, the whole is the other one, without a clash. Plain laws: the merge of trees as a row of puts; with the sides exchanged. Plain laws: how long a merged text may be. Walk: diff.Common: how much two lists have in common. -/
import Derived.Test.YtcemkikgaeghjaaGreatDoorG10
set_option maxHeartbeats 8000000
set_option maxRecDepth 100000
open Go.Lib (hid)
namespace Go.Proofs.YtcemkikgaeghjaaGreatDoor
theorem aLp {l other:List FV}{i:Nat}:i∈loneF l other↔∃f,l[i]? = some f/\findP other f.path=none/\f.text≠⟨#[]⟩:=by
 rw[loneF,List.mem_filter,List.mem_range]
 constructor
 ·rintro ⟨h,h2⟩
  rw[List.getElem?_eq_getElem h] at h2
  simp only[Bool.and_eq_true,Bool.not_eq_true',decide_eq_false_iff_not,Option.isNone_iff_eq_none] at h2
  exact ⟨_,List.getElem?_eq_getElem h,h2.1,h2.2⟩
 rintro ⟨f,h1,h2,h3⟩
 refine ⟨(List.getElem?_eq_some_iff.1 h1).1,?_⟩
 rw[h1]
 simp[h2,h3]
structure PairsOk (is js:List Nat) (ps:List (Nat×Nat)):Prop where
 from_:∀p∈ps,p.1∈is
 into:∀p∈ps,p.2∈js
 one:ps.Pairwise fun p q=>p.1≠q.1/\p.2≠q.2
theorem aLl (base side:List FV):∀(is js:List Nat),is.Nodup->PairsOk is js (sameF base side is js).1/\(∀i∈(sameF base side is js).2.1,i∈is)/\(∀j∈(sameF base side is js).2.2,j∈js)/\
  (∀p∈(sameF base side is js).1,p.1∉(sameF base side is js).2.1/\p.2∉(sameF base side is js).2.2)/\(sameF base side is js).2.1.Nodup
 | [],js,_=>by
  rw[sameF]
  exact ⟨⟨by simp,by simp,List.Pairwise.nil⟩,by simp,fun _ h=>h,by simp,List.nodup_nil⟩
 | i::is,js,hn=>by
  obtain ⟨hn1,hn2⟩:=List.nodup_cons.1 hn
  rw[sameF]
  cases hf:js.find? fun j=>decide (textAt side j=textAt base i) with
  | none=>
   obtain ⟨⟨a1,a2,a3⟩,b,c,d,e⟩:=aLl base side is js hn2
   dsimp only
   refine ⟨⟨fun p hp=>List.mem_cons_of_mem _ (a1 p hp),a2,a3⟩,fun k hk=>?_,c,fun p hp=>⟨fun h=>?_,(d p hp).2⟩,List.nodup_cons.2 ⟨fun h=>hn1 (b i h),e⟩⟩
   ·rcases List.mem_cons.1 hk with rfl | hk
    ·simp
    exact List.mem_cons_of_mem _ (b k hk)
   rcases List.mem_cons.1 h with h | h
   ·exact hn1 (by rw[<-h];exact a1 p hp)
   exact (d p hp).1 h
  | some j=>
   have hj:=List.mem_of_find?_eq_some hf
   obtain ⟨⟨a1,a2,a3⟩,b,c,d,e⟩:=aLl base side is (js.filter fun k=>decide (k≠j)) hn2
   have hne:∀k∈js.filter (fun k=>decide (k≠j)),k≠j:=fun k hk=>by simpa using (List.mem_filter.1 hk).2
   dsimp only
   refine ⟨⟨fun p hp=>?_,fun p hp=>?_,List.pairwise_cons.2 ⟨fun p hp=>⟨fun h=>hn1 (by rw[show i=p.1 from h];exact a1 p hp),fun h=>hne _ (a2 p hp) h.symm⟩,a3⟩⟩,fun k hk=>List.mem_cons_of_mem _ (b k hk),fun k hk=>(List.mem_filter.1 (c k hk)).1,fun p hp=>?_,e⟩
   ·rcases List.mem_cons.1 hp with rfl | hp
    ·simp
    exact List.mem_cons_of_mem _ (a1 p hp)
   ·rcases List.mem_cons.1 hp with rfl | hp
    ·exact hj
    exact (List.mem_filter.1 (a2 p hp)).1
   rcases List.mem_cons.1 hp with rfl | hp
   ·exact ⟨fun h=>hn1 (b _ h),fun h=>hne _ (c _ h) rfl⟩
   exact d p hp
theorem aLi {base side:List FV}{is js:List Nat}{p:Nat×Nat}(h:bestF base side is js=some p):p.1∈is/\p.2∈js:=by
 have key:∀(l:List (Nat×Nat)) (b:Option (Nat×Nat)×Int),(∀q,b.1=some q->q.1∈is/\q.2∈js)->(∀q∈l,q.1∈is/\q.2∈js)->
   ∀q,(l.foldl (fun (b:Option (Nat×Nat)×Int) p=>let r:=ratioF (textAt base p.1) (textAt side p.2);if b.2<r then (some p,r) else b) b).1=some q->q.1∈is/\q.2∈js:=by
  intro l
  induction l with
  | nil=>intro b hb _ q hq;exact hb q hq
  | cons x l ih=>
   intro b hb hl q hq
   rw[List.foldl_cons] at hq
   refine ih _ ?_ (fun q hq=>hl q (List.mem_cons_of_mem _ hq)) q hq
   intro q hq
   dsimp only at hq
   split at hq
   ·injection hq with hq;subst hq;exact hl x (by simp)
   exact hb q hq
 refine key _ (none,49) (fun q hq=>by cases hq) (fun q hq=>?_) p h
 obtain ⟨i,hi,h1⟩:=List.mem_flatMap.1 hq
 obtain ⟨j,hj,rfl⟩:=List.mem_map.1 h1
 exact ⟨hi,hj⟩
theorem aSw (base side:List FV):∀(n:Nat)(is js:List Nat),PairsOk is js (alikeF base side n is js)
 | 0,is,js=>by rw[alikeF];exact ⟨by simp,by simp,List.Pairwise.nil⟩
 | n+1,is,js=>by
  rw[alikeF]
  cases hb:bestF base side is js with
  | none=>exact ⟨by simp,by simp,List.Pairwise.nil⟩
  | some p=>
   obtain ⟨h1,h2⟩:=aLi hb
   obtain ⟨a1,a2,a3⟩:=aSw base side n (is.filter fun k=>decide (k≠p.1)) (js.filter fun k=>decide (k≠p.2))
   have e1:∀q∈alikeF base side n (is.filter fun k=>decide (k≠p.1)) (js.filter fun k=>decide (k≠p.2)),q.1∈is/\q.1≠p.1:=fun q hq=>by
    obtain ⟨h3,h4⟩:=List.mem_filter.1 (a1 q hq);exact ⟨h3,by simpa using h4⟩
   have e2:∀q∈alikeF base side n (is.filter fun k=>decide (k≠p.1)) (js.filter fun k=>decide (k≠p.2)),q.2∈js/\q.2≠p.2:=fun q hq=>by
    obtain ⟨h3,h4⟩:=List.mem_filter.1 (a2 q hq);exact ⟨h3,by simpa using h4⟩
   dsimp only
   refine ⟨fun q hq=>?_,fun q hq=>?_,List.pairwise_cons.2 ⟨fun q hq=>⟨fun h=>(e1 q hq).2 h.symm,fun h=>(e2 q hq).2 h.symm⟩,a3⟩⟩
   ·rcases List.mem_cons.1 hq with rfl | hq
    ·exact h1
    exact (e1 q hq).1
   rcases List.mem_cons.1 hq with rfl | hq
   ·exact h2
   exact (e2 q hq).1
theorem aCj (base side:List FV):PairsOk (loneF base side) (loneF side base) (pairsF base side):=by
 have hn:(loneF base side).Nodup:=List.nodup_range.sublist List.filter_sublist
 obtain ⟨⟨a1,a2,a3⟩,b,c,d,e⟩:=aLl base side (loneF base side) (loneF side base) hn
 obtain ⟨f1,f2,f3⟩:=aSw base side (sameF base side (loneF base side) (loneF side base)).2.1.length (sameF base side (loneF base side) (loneF side base)).2.1 (sameF base side (loneF base side) (loneF side base)).2.2
 unfold pairsF
 dsimp only
 refine ⟨fun p hp=>?_,fun p hp=>?_,List.pairwise_append.2 ⟨a3,f3,fun p hp q hq=>⟨fun h=>(d p hp).1 (by rw[h];exact f1 q hq),fun h=>(d p hp).2 (by rw[h];exact f2 q hq)⟩⟩⟩
 ·rcases List.mem_append.1 hp with hp | hp
  ·exact a1 p hp
  exact b _ (f1 p hp)
 rcases List.mem_append.1 hp with hp | hp
 ·exact a2 p hp
 exact c _ (f2 p hp)
theorem aZd {a b:List FV}{q:Nat×Nat}(h:q∈pairsF a b):∃f g,a[q.1]? = some f/\b[q.2]? = some g/\findP b f.path=none/\findP a g.path=none:=by
 have ok:=aCj a b
 obtain ⟨f,h1,h2,_⟩:=aLp.1 (ok.from_ q h)
 obtain ⟨g,h3,h4,_⟩:=aLp.1 (ok.into q h)
 exact ⟨f,g,h1,h3,h2,h4⟩
theorem aQb {α:Type}{R:α->α->Prop}:∀{l:List α},l.Pairwise R->∀{x y:α},x∈l->y∈l->x=y\/R x y\/R y x
 | z::l,h,x,y,hx,hy=>by
  obtain ⟨h1,h2⟩:=List.pairwise_cons.1 h
  rcases List.mem_cons.1 hx with e1 | hx2
  ·rcases List.mem_cons.1 hy with e2 | hy2
   ·exact .inl (e1.trans e2.symm)
   exact .inr (.inl (e1▸h1 y hy2))
  rcases List.mem_cons.1 hy with e2 | hy2
  ·exact .inr (.inr (e2▸h1 x hx2))
  exact aQb h2 hx2 hy2
theorem bDe {a b:List FV}{g:FV}:g∈addedF a b↔g∈b/\findP a g.path=none/\∀q∈pairsF a b,((b[q.2]?).map FV.path)≠some g.path:=by
 simp only[addedF,List.mem_filter,Bool.and_eq_true,Option.isNone_iff_eq_none,Bool.not_eq_true',List.any_eq_false,decide_eq_true_eq]
theorem aWa:∀(l:List FV),(l.Pairwise fun x y=>x.path≠y.path)->Rise (sortF l)/\∀x,x∈sortF l↔x∈l:=by
 have key:∀(l out:List FV),Rise out->((out++l).Pairwise fun x y=>x.path≠y.path)->Rise (l.foldl (fun out f=>sortedIn out f) out)/\∀x,x∈l.foldl (fun out f=>sortedIn out f) out↔x∈out\/x∈l:=by
  intro l
  induction l with
  | nil=>intro out h _;exact ⟨h,by simp⟩
  | cons f l ih=>
   intro out h hp
   have hn:hasP out f.path=false:=by
    cases e:hasP out f.path with
    | false=>rfl
    | true=>
     obtain ⟨g,hg,e2⟩:=aEd.1 e
     exact absurd e2 ((List.pairwise_append.1 hp).2.2 g hg f (by simp))
   have hp2:(sortedIn out f++l).Pairwise fun x y=>x.path≠y.path:=by
    obtain ⟨p1,p2,p3⟩:=List.pairwise_append.1 hp
    obtain ⟨p4,p5⟩:=List.pairwise_cons.1 p2
    refine List.pairwise_append.2 ⟨(aFb h hn).pair.imp fun hab e=>absurd (FV.p_inj.2 e) (aHf hab),p5,fun x hx y hy=>?_⟩
    rcases aCa.1 hx with rfl | hx
    ·exact p4 y hy
    exact p3 x hx y (List.mem_cons_of_mem _ hy)
   obtain ⟨h1,h2⟩:=ih (sortedIn out f) (aFb h hn) hp2
   refine ⟨h1,fun x=>?_⟩
   rw[List.foldl_cons,h2,aCa,List.mem_cons]
   constructor
   ·rintro ((h | h) | h)
    ·exact .inr (.inl h)
    ·exact .inl h
    exact .inr (.inr h)
   rintro (h | h | h)
   ·exact .inl (.inr h)
   ·exact .inl (.inl h)
   exact .inr h
 intro l h
 obtain ⟨h1,h2⟩:=key l [] (aDd List.Pairwise.nil) (by simpa using h)
 exact ⟨h1,fun x=>by rw[sortF,h2];simp⟩
def bothOut (f o t:FV):FV×Int:=
 let kind:Int:=if o.path=f.path then 0 else if t.path≠f.path/\t.path≠o.path then 4 else 0
 (⟨if o.path=f.path then t.path else o.path,if o.exec=f.exec then t.exec else o.exec,(merge3F f.text o.text t.text).1⟩,if (merge3F f.text o.text t.text).2=false/\kind=0 then 1 else kind)
def actK (base a b:List FV)(f:FV):Option (FV×Int):=
 match whereF base a f,whereF base b f with
 | some x,some y=>some (bothOut f x y)
 | some x,none=>if x=f then none else some (x,3)
 | none,some y=>if y=f then none else some (y,3)
 | none,none=>none
def actA (theirs:List FV)(x:FV):FV×Int:=
 match findP theirs x.path with
 | none=>(x,0)
 | some y=>if x=y then (x,0) else (⟨x.path,x.exec,(merge3F ⟨#[]⟩ x.text y.text).1⟩,2)
def acts (base a b:List FV):List (FV×Int):=
 base.filterMap (actK base a b)++((addedF base a).map (actA (addedF base b))++((addedF base b).filter fun y=>(findP (addedF base a) y.path).isNone).map fun y=>(y,0))
def putX (m:List FV×List CL)(p:FV×Int):List FV×List CL:=putM m p.1 p.2
theorem aNa (base a b:List FV):∀(l:List FV)(m:List FV×List CL),l.foldl (keptM base a b) m=(l.filterMap (actK base a b)).foldl putX m
 | [],m=>rfl
 | f::l,m=>by
  rw[List.foldl_cons,List.filterMap_cons]
  have h:keptM base a b m f=match actK base a b f with | some p=>putX m p | none=>m:=by
   unfold keptM actK
   cases whereF base a f with
   | none=>
    cases whereF base b f with
    | none=>rfl
    | some y=>by_cases e:y=f<;>simp[e,putX]
   | some x=>
    cases whereF base b f with
    | none=>by_cases e:x=f<;>simp[e,putX]
    | some y=>rfl
  rw[h]
  cases actK base a b f with
  | none=>exact aNa base a b l m
  | some p=>exact aNa base a b l (putX m p)
theorem bFi (ours theirs:List FV)(m:List FV×List CL):addM ours theirs m=(ours.map (actA theirs)++(theirs.filter fun (y:FV)=>(findP ours y.path).isNone).map fun y=>(y,0)).foldl putX m:=by
 unfold addM
 rw[List.foldl_append,List.foldl_map,List.foldl_map]
 have h:addOne theirs=fun m x=>putX m (actA theirs x):=by
  funext m x
  unfold addOne actA
  cases findP theirs x.path with
  | none=>rfl
  | some y=>by_cases e:x=y<;>simp[e,putX]
 rw[h]
 rfl
theorem aJn (base a b:List FV):wholeF base a b=(acts base a b).foldl putX ([],[]):=by
 unfold wholeF acts
 rw[bFi,aNa,<-List.foldl_append]
theorem aMn {base a:List FV}(h:pairsF base a=[])(f:FV):whereF base a f=findP a f.path:=by
 unfold whereF movedF
 rw[h]
 cases findP a f.path<;>rfl
theorem aTv {base a:List FV}(h:pairsF base a=[]){g:FV}:g∈addedF base a↔g∈a/\findP base g.path=none:=by
 rw[bDe,h];simp
theorem aNk:∀(l:List ByteArray)(r:List DV)(j:Nat),placesF (evs 1 l++r) j=(List.range' j l.length).map some++placesF r (j+l.length)
 | [],r,j=>by simp[evs]
 | x::l,r,j=>by
  show placesF (⟨1,x⟩::(evs 1 l++r)) j=_
  rw[placesF,if_pos rfl,aNk l r (j+1),List.length_cons,List.range'_succ,List.map_cons,List.cons_append,show j+1+l.length=j+(l.length+1) by omega]
theorem aGa:∀(a b:List ByteArray)(j i x:Nat),(placesF (evs 2 a++evs 3 b) j)[i]?≠some (some x)
 | [],[],j,i,x=>by simp[evs,placesF]
 | [],y::b,j,i,x=>by
  show (placesF (⟨3,y⟩::(evs 2 []++evs 3 b)) j)[i]?≠_
  rw[placesF,if_neg (show ¬(3:Int)=1 by decide),if_neg (show ¬(3:Int)=2 by decide)]
  exact aGa [] b (j+1) i x
 | z::a,b,j,i,x=>by
  show (placesF (⟨2,z⟩::(evs 2 a++evs 3 b)) j)[i]?≠_
  rw[placesF,if_neg (show ¬(2:Int)=1 by decide),if_pos rfl]
  cases i with
  | zero=>simp
  | succ i=>rw[List.getElem?_cons_succ];exact aGa a b j i x
theorem aRx (a b:List ByteArray):pfx a b<=a.length/\pfx a b<=b.length:=by
 have:∀(a b:List ByteArray),pfx a b<=a.length/\pfx a b<=b.length:=by
  intro a
  induction a with
  | nil=>intro b;simp[pfx]
  | cons x a ih=>
   intro b
   cases b with
   | nil=>simp[pfx]
   | cons y b=>
    rw[pfx]
    have:=ih b
    split<;>simp only[List.length_cons]<;>omega
 exact this a b
structure Ahead (base side:List ByteArray) (ps:List (Option Nat)) (P:Nat):Prop where
 leB:P<=base.length
 leS:P<=side.length
 same:side.take P=base.take P
 low:∀(i x:Nat),ps[i]? = some (some x)->i<P->x=i
 high:∀(i x:Nat),ps[i]? = some (some x)->P<=i->P<=x/\base.length<=P+400/\side.length<=P+400
theorem aNp (base side:List ByteArray):Ahead base side (placeF base side) (pfx base side):=by
 obtain ⟨l1,l2⟩:=aRx base side
 have hs:placeF base side=(List.range' 0 (pfx base side)).map some++placesF (rest (base.drop (pfx base side)) (side.drop (pfx base side))) (pfx base side):=by
  rw[placeF,script,aNk,List.length_take,Nat.min_eq_left l1,Nat.zero_add]
 have hlen:((List.range' 0 (pfx base side)).map (some:Nat->Option Nat)).length=pfx base side:=by rw[List.length_map,List.length_range']
 refine ⟨l1,l2,(aEs base side).symm,fun i x h hi=>?_,fun i x h hi=>?_⟩
 ·rw[hs,List.getElem?_append_left (by rw[hlen];exact hi)] at h
  exact aWl h
 rw[hs,List.getElem?_append_right (by rw[hlen];exact hi),hlen] at h
 unfold rest at h
 split at h
 ·exact absurd h (aGa _ _ _ _ _)
 rename_i hb
 rw[List.length_drop,List.length_drop] at hb
 have hk:kinds (scrT (base.drop (pfx base side)) (side.drop (pfx base side))):=(aDs _ _).2.2
 exact ⟨(aGh _ _ hk _ _ h).1,by omega,by omega⟩
def clashN (l:List KV):Nat:=(l.filter fun c=>decide (c.kind=5)).length
theorem aKd (l m:List KV):clashN (l++m)=clashN l+clashN m:=by simp[clashN]
theorem aDo (b o t:List ByteArray):clashN (betweenF b o t)<=1/\(o=b->clashN (betweenF b o t)=0)/\(t=b->clashN (betweenF b o t)=0)/\(0<clashN (betweenF b o t)->2<=b.length+o.length+t.length):=by
 unfold betweenF
 split
 ·simp[clashN]
 rename_i h0
 unfold kindF
 by_cases e1:o=b
 ·rw[if_pos e1];simp[clashN]
 rw[if_neg e1]
 by_cases e2:t=b
 ·rw[if_pos e2];simp[clashN]
 rw[if_neg e2]
 by_cases e3:o=t
 ·rw[if_pos e3];simp[clashN]
 rw[if_neg e3]
 have hc:clashN [(⟨5,b,o,t⟩:KV)]=1:=rfl
 rw[hc]
 refine ⟨Nat.le_refl _,fun e=>absurd e e1,fun e=>absurd e e2,fun _=>?_⟩
 -- two of the three are not empty
 cases b with
 | nil=>
  cases o with
  | nil=>exact absurd rfl e1
  | cons x o=>
   cases t with
   | nil=>exact absurd rfl e2
   | cons y t=>simp only[List.length_cons];omega
 | cons z b=>
  cases o with
  | nil=>
   cases t with
   | nil=>exact absurd rfl e3
   | cons y t=>simp only[List.length_cons];omega
  | cons x o=>simp only[List.length_cons];omega
theorem aKi {l:List ByteArray}{i k:Nat}(hk:k<=l.length):(sliceF l i k).length=k-i:=by
 rw[sliceF,List.length_drop,List.length_take,Nat.min_eq_left hk]
theorem Pieces.few {base ours theirs:List ByteArray}{zs:List (Option Nat×Option Nat)}{b o t:Nat}{l:List KV}(h:Pieces base ours theirs zs b o t l) :
  5*clashN l<=(base.length-b)+(ours.length-o)+(theirs.length-t)+3:=by
 induction h with
 | @last b o t hb ho ht=>
  obtain ⟨h1,_,_,h2⟩:=aDo (base.drop b) (ours.drop o) (theirs.drop t)
  rw[List.length_drop,List.length_drop,List.length_drop] at h2
  by_cases h3:0<clashN (betweenF (base.drop b) (ours.drop o) (theirs.drop t))
  ·have:=h2 h3;omega
  omega
 | @more b o t i x y n l hz hn hb ho ht hi hx hy he hf h ih=>
  obtain ⟨h1,_,_,h2⟩:=aDo (sliceF base b i) (sliceF ours o x) (sliceF theirs t y)
  rw[aKi (by omega),aKi (by omega),aKi (by omega)] at h2
  have h4:clashN (⟨1,sliceF base i (i+n),sliceF base i (i+n),sliceF base i (i+n)⟩::l)=clashN l:=rfl
  rw[aKd,h4]
  by_cases h3:0<clashN (betweenF (sliceF base b i) (sliceF ours o x) (sliceF theirs t y))
  ·have:=h2 h3;omega
  omega
theorem aOz {base side:List ByteArray}{P b i:Nat}(h:side.take P=base.take P)(hi:i<=P):sliceF side b i=sliceF base b i:=by
 unfold sliceF
 have:=congrArg (fun l=>(l.take i).drop b) h
 simpa[List.take_take,Nat.min_eq_left hi] using this
theorem Pieces.bound {base ours theirs:List ByteArray}{xs ys:List (Option Nat)}{P Q:Nat}(A:Ahead base ours xs P)(B:Ahead base theirs ys Q){b o t:Nat}{l:List KV}
  (h:Pieces base ours theirs (xs.zip ys) b o t l) (h1:b<P->o=b) (h2:b<Q->t=b):clashN l<=241:=by
 induction h with
 | @last b o t hb ho ht=>
  have:=(aDo (base.drop b) (ours.drop o) (theirs.drop t)).1
  omega
 | @more b o t i x y n l hz hn hb ho ht hi hx hy he hf h ih=>
  obtain ⟨c1,c2,c3,_⟩:=aDo (sliceF base b i) (sliceF ours o x) (sliceF theirs t y)
  have h4:clashN (⟨1,sliceF base i (i+n),sliceF base i (i+n),sliceF base i (i+n)⟩::l)=clashN l:=rfl
  rw[aKd,h4]
  obtain ⟨zx,zy⟩:=aOl (by simpa using hz 0 hn:(xs.zip ys)[i]? = some (some x,some y))
  obtain ⟨wx,wy⟩:=aOl (by have:=hz (n-1) (by omega);exact this:(xs.zip ys)[i+(n-1)]? = some (some (x+(n-1)),some (y+(n-1))))
  have n1:i+n<P->x+n=i+n:=fun e=>by have:=A.low _ _ wx (by omega);omega
  have n2:i+n<Q->y+n=i+n:=fun e=>by have:=B.low _ _ wy (by omega);omega
  by_cases hP:i<P
  ·have hx0:=A.low _ _ zx hP
   have ho0:=h1 (by omega)
   have:clashN (betweenF (sliceF base b i) (sliceF ours o x) (sliceF theirs t y))=0:=c2 (by rw[hx0,ho0];exact aOz A.same (by omega))
   rw[this,Nat.zero_add]
   exact ih n1 n2
  by_cases hQ:i<Q
  ·have hy0:=B.low _ _ zy hQ
   have ht0:=h2 (by omega)
   have:clashN (betweenF (sliceF base b i) (sliceF ours o x) (sliceF theirs t y))=0:=c3 (by rw[hy0,ht0];exact aOz B.same (by omega))
   rw[this,Nat.zero_add]
   exact ih n1 n2
  obtain ⟨u1,u2,u3⟩:=A.high _ _ zx (by omega)
  obtain ⟨v1,v2,v3⟩:=B.high _ _ zy (by omega)
  have:=h.few
  omega
theorem aKx (base ours theirs:List ByteArray):clashN (chunksF base ours theirs)<=241:=
 (aFd base ours theirs).bound (aNp base ours) (aNp base theirs) (fun _=>rfl) (fun _=>rfl)
def bytesF (l:List ByteArray):Nat:=(catF l).length
theorem aDn (l m:List ByteArray):catF (l++m)=catF l++catF m:=by simp[catF]
theorem aFy (s:Bs):(endedF s).length<=s.length+1:=by
 unfold endedF
 split
 ·omega
 simp
theorem aQc (out:Bs)(c:KV):(clashTextF out c).length<=out.length+(bytesF c.base+bytesF c.ours+bytesF c.theirs)+if c.kind=5 then 53 else 0:=by
 unfold clashTextF
 by_cases h:c.kind=5
 ·rw[if_neg (by simp[h]),if_pos h]
  have e1:=aFy out
  have e2:=aFy (endedF out++markO++catF c.ours)
  have e3:=aFy (endedF (endedF out++markO++catF c.ours)++markB++catF c.base)
  have e4:=aFy (endedF (endedF (endedF out++markO++catF c.ours)++markB++catF c.base)++markT++catF c.theirs)
  simp only[List.length_append] at e2 e3 e4 ⊢
  have m1:markO.length=13:=rfl
  have m2:markB.length=13:=rfl
  have m3:markT.length=8:=rfl
  have m4:markE.length=15:=rfl
  unfold bytesF
  omega
 rw[if_pos h,if_neg h,List.length_append]
 have:(catF (mergedF [c])).length<=bytesF c.ours+bytesF c.theirs:=by
  unfold mergedF
  rw[List.flatMap_cons,List.flatMap_nil,List.append_nil]
  unfold bytesF
  split<;>omega
 omega
theorem aQa:∀(l:List KV)(out:Bs),(l.foldl clashTextF out).length<=out.length+(bytesF (l.flatMap KV.base)+bytesF (l.flatMap KV.ours)+bytesF (l.flatMap KV.theirs))+53*clashN l
 | [],out=>by rw[List.foldl_nil];omega
 | c::l,out=>by
  rw[List.foldl_cons]
  have h1:=aQa l (clashTextF out c)
  have h2:=aQc out c
  have h3:clashN (c::l)=(if c.kind=5 then 1 else 0)+clashN l:=by
   unfold clashN
   rw[List.filter_cons]
   by_cases h:c.kind=5
   ·rw[if_pos (decide_eq_true h),if_pos h,List.length_cons];omega
   rw[if_neg (by simp[h]),if_neg h];omega
  have h4:∀(f:KV->List ByteArray),bytesF ((c::l).flatMap f)=bytesF (f c)+bytesF (l.flatMap f):=fun f=>by
   unfold bytesF;rw[List.flatMap_cons,aDn,List.length_append]
  rw[h4,h4,h4,h3]
  split at h2
  ·rename_i h;rw[if_pos h];omega
  rename_i h;rw[if_neg h];omega
theorem aDe (s:ByteArray):catF (linesF s)=s.data.toList:=by
 have h:=aOq s
 have:(joinF (linesF s)).data.toList=s.data.toList:=by rw[h]
 rw[<-this]
 simp[joinF,ofB,catF]
theorem aLk (l:Bs):(ofB l).size=l.length:=by show l.toArray.size=_;simp
theorem aBk (s:ByteArray):s.data.toList.length=s.size:=rfl
theorem aGx (b o t:ByteArray):(merge3F b o t).1.size<=b.size+o.size+t.size+12773:=by
 obtain ⟨s1,s2,s3⟩:=aFi (linesF b) (linesF o) (linesF t)
 have hb:=aKx (linesF b) (linesF o) (linesF t)
 rw[merge3F]
 split
 ·show (joinF (mergedF _)).size<=_
  have h:∀l:List KV,(catF (mergedF l)).length<=bytesF (l.flatMap KV.ours)+bytesF (l.flatMap KV.theirs):=by
   intro l
   induction l with
   | nil=>simp[mergedF,catF]
   | cons c l ih=>
    unfold mergedF at ih ⊢
    have h4:∀(f:KV->List ByteArray),bytesF ((c::l).flatMap f)=bytesF (f c)+bytesF (l.flatMap f):=fun f=>by
     unfold bytesF;rw[List.flatMap_cons,aDn,List.length_append]
    rw[List.flatMap_cons,aDn,List.length_append,h4,h4]
    unfold bytesF at ih ⊢
    split<;>omega
  have h1:=h (chunksF (linesF b) (linesF o) (linesF t))
  rw[s2,s3] at h1
  unfold bytesF at h1
  rw[aDe,aDe,aBk,aBk] at h1
  have h2:(joinF (mergedF (chunksF (linesF b) (linesF o) (linesF t)))).size=(catF (mergedF (chunksF (linesF b) (linesF o) (linesF t)))).length:=by
   exact aLk _
  omega
 show (ofB _).size<=_
 have h1:=aQa (chunksF (linesF b) (linesF o) (linesF t)) []
 rw[s1,s2,s3] at h1
 unfold bytesF at h1
 rw[aDe,aDe,aDe,aBk,aBk,aBk,List.length_nil] at h1
 have h2:(ofB ((chunksF (linesF b) (linesF o) (linesF t)).foldl clashTextF [])).size=((chunksF (linesF b) (linesF o) (linesF t)).foldl clashTextF []).length:=by
  exact aLk _
 omega
end Go.Proofs.YtcemkikgaeghjaaGreatDoor
namespace Go.Proofs.YtcemkikgaeghjaaGreatDoor
open Go.RowKit
def rowC (a b:List ByteArray)(i j:Nat):List Value:=(List.range (b.length+1)).map fun t=>Value.int .i32 ((if j<=t then cel a b i t else 0:Nat):Int)
theorem aWc (a b:List ByteArray)(i j:Nat):(rowC a b i j).length=b.length+1:=by simp[rowC]
theorem aLm {a b:List ByteArray}{i j q:Nat}(hq:q<=b.length)(h:j<=q):(rowC a b i j)[q]? = some (.int .i32 (cel a b i q:Nat)):=by
 rw[rowC,List.getElem?_map,List.getElem?_range (by omega),Option.map_some,if_pos h]
theorem aSx {a b:List ByteArray}{i j:Nat}(h:∀t,t<=b.length->j<=t->cel a b i t=0):rowC a b i j=List.replicate (b.length+1) (.int .i32 0):=by
 refine List.ext_getElem (by simp[rowC]) fun t h1 h2=>?_
 rw[aWc] at h1
 simp only[rowC,List.getElem_map,List.getElem_range,List.getElem_replicate]
 split
 ·rw[h t (by omega) (by assumption)];rfl
 rfl
theorem aZn (a b:List ByteArray)(i:Nat):rowC a b i b.length=List.replicate (b.length+1) (.int .i32 0):=
 aSx fun t h1 h2=>by rw[show t=b.length by omega];exact aUf a b i
theorem bAd (a b:List ByteArray):rowC a b a.length 0=List.replicate (b.length+1) (.int .i32 0):=
 aSx fun t _ _=>aQm a b t
theorem bEi (a b:List ByteArray){i j:Nat}:(rowC a b i (j+1)).set j (.int .i32 (cel a b i j:Nat))=rowC a b i j:=by
 refine List.ext_getElem (by simp[rowC]) fun t h1 h2=>?_
 rw[List.getElem_set]
 simp only[rowC,List.getElem_map,List.getElem_range]
 split
 ·rename_i h;subst h;rw[if_pos (Nat.le_refl _)]
 rename_i h
 by_cases h3:j<=t
 ·rw[if_pos (by omega),if_pos h3]
 rw[if_neg (by omega),if_neg h3]
structure Rows2 (w:World) (B g h M:Nat) (xs ys:List Value):Prop where
 o1:w.ownsRow B 21 1 (.slice (some ⟨g,0,none⟩) M M) M xs
 o2:w.ownsRow B 21 1 (.slice (some ⟨h,0,none⟩) M M) M ys
 ne:g≠h
theorem aIm {w:World}{B g M k:Nat}{xs:List Value}{u:Value}(h:w.ownsRow B 21 1 (.slice (some ⟨g,0,none⟩) M M) M xs)(hu:xs[k]? = some u):w.cell? ⟨g,k,none⟩=some u:=by
 rw[h.cellAt k (by rw[<-h.1];exact (List.getElem?_eq_some_iff.1 hu).1),hu]
section
variable {w w':World} {B g h M:Nat} {xs ys:List Value}
theorem Rows2.drew (H:Rows2 w B g h M xs ys):Rows2 w.drew B g h M xs ys:=⟨H.o1.drew,H.o2.drew,H.ne⟩
theorem Rows2.store (H:Rows2 w B g h M xs ys)(k:Nat)(u:Value):Rows2 (w.setCell ⟨h,k,none⟩ u) B g h M xs (ys.set k u):=
 ⟨ownsRow_setCell_other H.o1 (fun e=>H.ne (by simpa[Value.ownBlock] using e)) u,(H.o2.stored k u).1,H.ne⟩
end
theorem aZk {A B:Option Addr}{n ca m cb:Nat}{a b:List ByteArray}{w:World}(hn:n<=400)(hm:m<=400)(ha:Rd w w.heap.size 1 A n ca (a.map .string))(hb:Rd w w.heap.size 1 B m cb (b.map .string)) :
  Calls Tryz.prog 154 #[.slice A n ca,.slice B m cb] w fun e w'=>e=.returned (.int .i64 (lcs a b))/\Below w.heap.size w w':=by
 have HA:=hid (show a.length=n by have:=ha.len;simpa using this)
 have HB:=hid (show b.length=m by have:=hb.len;simpa using this)
 have hca:=ha.cap
 have hcb:=hb.cap
 have hB:=aSf (w:=w) (by omega) (by omega) ha hb
 go_enter Tryz.func154,Tryz.ntmps154
 go_wp2_with fail
 refine hB.mono ?_
 rintro e w1 ⟨rfl,hb1⟩
 clear hB
 have hp:=aRx a b
 rw[HA.out,HB.out] at hp
 obtain ⟨hp1,hp2⟩:=hp
 have HPT:=hid (aEs a b)
 have HFIN:=hid (fun (q:Nat)=>bAk a b (pfx a b) q (aEs a b) (aRx a b).1 (aRx a b).2)
 generalize pfx a b=P at *
 have HW1:=hid hb1;clear hb1
 go_wp2
 refine aAd (fun w'=>Below w.heap.size w w') (qs 8) mixed (by kernel_rfl) HW1.out.drew ?_
 intro T M Q hT hT' hM hQ
 clear hM
 simp only[qcmp]
 simp (maxSteps:=9^7) only[↓qpre,aAb,aAf,aAc]
 (repeat refine ⟨by first|omega|(unfold inI64;omega),?_⟩)
 refine hQ _ _ ?_
 clear hQ hT hT'
 have HW2:=hid HW1.out.drew
 have hra:=ha.cut1 (l:=P) (k:=n) hp1 (Nat.le_refl _)
 have hrb:=hb.cut1 (l:=P) (k:=m) hp2 (Nat.le_refl _)
 rw[List.take_of_length_le (by rw[List.length_map,HA.out];exact Nat.le_refl _),<-List.map_drop] at hra
 rw[List.take_of_length_le (by rw[List.length_map,HB.out];exact Nat.le_refl _),<-List.map_drop] at hrb
 simp only[sliced,Nat.mul_one]
 generalize (if ca=P then A else Option.map (fun x=>x.add P) A)=A1 at *
 generalize (if cb=P then B else Option.map (fun x=>x.add P) B)=B1 at *
 clear HW1
 generalize w1.drew=w2 at *
 clear ha hb HA HB hca hcb HPT
 generalize a.drop P=a1 at *
 generalize b.drop P=b1 at *
 obtain ⟨n1,hn1⟩:∃x,x=n-P:=⟨_,rfl⟩
 obtain ⟨m1,hm1⟩:∃x,x=m-P:=⟨_,rfl⟩
 rw[<-hn1] at hra ⊢
 rw[<-hm1] at hrb ⊢
 have hl1:n1<=400:=by omega
 have hl2:m1<=400:=by omega
 have hP:P<=400:=by omega
 clear hn1 hm1 hp1 hp2
 generalize ca-P=c1 at *
 generalize cb-P=c2 at *
 have HA:=hid (show a1.length=n1 by have:=hra.len;simpa using this)
 have HB:=hid (show b1.length=m1 by have:=hrb.len;simpa using this)
 have hE:=bGk (w:=w2) (by omega) (by omega) (hra.to HW2.out HW2.out.size) (hrb.to HW2.out HW2.out.size)
 go_wp2_with fail
 refine hE.mono ?_
 rintro e w3 ⟨rfl,hb3⟩
 clear hE
 have hq:=bHv a1 b1
 rw[HA.out,HB.out] at hq
 obtain ⟨hq1,hq2⟩:=hq
 have HFIN2:=hid (HFIN.out (sfx a1 b1) (bEg a1 b1) (by rw[HA.out];exact hq1) (by rw[HB.out];exact hq2))
 rw[HA.out,HB.out] at HFIN2
 clear HFIN
 generalize sfx a1 b1=R at *
 have HW3:=hid (HW2.out.trans (hb3.mono HW2.out.size))
 clear hb3 HW2
 have i1:(n1:Int)-R=((n1-R:Nat):Int):=by omega
 have i2:(m1:Int)-R=((m1-R:Nat):Int):=by omega
 have hca:=hra.cap
 have hcb:=hrb.cap
 go_wp2
 refine aAd (fun w'=>Below w.heap.size w w') (qs 14) mixed (by kernel_rfl) HW3.out.drew ?_
 intro T M Q hT hT' hM hQ
 clear hM
 simp only[qcmp]
 simp (maxSteps:=9^7) only[↓qpre,aAb,aAf,aAc,i1,i2]
 (repeat refine ⟨by first|omega|(unfold inI64;omega),?_⟩)
 refine hQ _ _ ?_
 clear hQ hT hT'
 have HW4:=hid HW3.out.drew
 have hra:=hra.cut1 (l:=0) (k:=n1-R) (Nat.zero_le _) (by omega)
 have hrb:=hrb.cut1 (l:=0) (k:=m1-R) (Nat.zero_le _) (by omega)
 rw[List.drop_zero,<-List.map_take] at hra hrb
 simp only[sliced,Nat.mul_one]
 generalize (if c1=0 then A1 else Option.map (fun x=>x.add 0) A1)=A2 at *
 generalize (if c2=0 then B1 else Option.map (fun x=>x.add 0) B1)=B2 at *
 clear HW3
 generalize w3.drew=w4 at *
 clear HA HB hca hcb i1 i2
 generalize a1.take (n1-R)=a2 at *
 generalize b1.take (m1-R)=b2 at *
 obtain ⟨n2,hn2⟩:∃x,x=n1-R-0:=⟨_,rfl⟩
 obtain ⟨m2,hm2⟩:∃x,x=m1-R-0:=⟨_,rfl⟩
 rw[<-hn2] at hra ⊢
 rw[<-hm2] at hrb ⊢
 have hl3:n2<=400:=by omega
 have hl4:m2<=400:=by omega
 have hR:R<=400:=by omega
 clear hn2 hm2 hq1 hq2 hl1 hl2
 generalize c1-0=c3 at *
 generalize c2-0=c4 at *
 have HA:=hid (show a2.length=n2 by have:=hra.len;simpa using this)
 have HB:=hid (show b2.length=m2 by have:=hrb.len;simpa using this)
 obtain ⟨M,hM⟩:∃M:Nat,m2+1=M:=⟨_,rfl⟩
 have hMi:(m2:Int)+1=(M:Int):=by omega
 have hws:=HW4.out.size
 go_wp2_with first
  | (at_make;refine aEr rfl (.tmp 37) (.tmp 37) 223 rfl bGr w.heap.size M rfl rfl rfl rfl (by omega) (by simp only[maxLen];omega) hws ?_;intro w5 hown5 hgrow5)
 have HB5:=hid (HW4.out.grown hgrow5 hws (fun g hg=>by cases hg))
 have HO5:Hid (w5.ownsRow w.heap.size 21 1 (.slice (some ⟨w4.heap.size,0,none⟩) M M) M (rowC a2 b2 n2 0)):=by
  have:=hown5
  rw[show List.replicate M (Value.int .i32 0)=rowC a2 b2 n2 0 by rw[<-HA.out,bAd,HB.out,hM]] at this
  exact this
 clear hown5 hgrow5 HW4 hws
 generalize w4.heap.size=g0 at *
 go_loopw[7,8] (fun last i wr=>∃(j g:Nat),j<=n2/\i=.int .i64 ((j:Int)-1)/\last=.slice (some ⟨g,0,none⟩) M M/\Hid (Below w.heap.size w wr)/\Hid (wr.ownsRow w.heap.size 21 1 (.slice (some ⟨g,0,none⟩) M M) M (rowC a2 b2 j 0)))
   (fun _ i _=>(intOf i+1).toNat)
 case atStart=>exact ⟨n2,g0,Nat.le_refl _,rfl,rfl,HB5,HO5⟩
 clear HB5 HO5
 obtain ⟨j,g,hj,rfl,rfl,HW,HO⟩:=hrel
 cases j with
 | zero=>
  have HC:=hid (aIm HO.out (k:=0) (aLm (Nat.zero_le _) (Nat.zero_le _)))
  have hv:=aLc a2 b2 0 0
  rw[HA.out] at hv
  have HF:Hid (lcs a b=P+R+cel a2 b2 0 0):=HFIN2
  generalize cel a2 b2 0 0=v at *
  have c0:wr.cell? ⟨g,0,none⟩=some (.int .i32 v):=HC.out
  have hM1:0<M:=by omega
  go_wp2
  go_ret
  exact ⟨by rw[HF.out];push_cast;rfl,HW.out⟩
 | succ j=>
  rw[show ((j+1:Nat):Int)-1=(j:Int) from by omega]
  obtain ⟨ba,oa,x,rfl,hba,hax,hacell⟩:=hra.str (k:=j) (by omega)
  have HX:=hid hax
  clear hax
  have hws:=HW.out.size
  go_wp2_with first
   | (at_make;refine aEr rfl (.tmp 48) (.tmp 48) 223 rfl bGr w.heap.size M rfl rfl rfl rfl (by omega) (by simp only[maxLen];omega) hws ?_;intro w6 hown6 hgrow6)
  have HB6:=hid (HW.out.grown hgrow6 hws (fun g hg=>by cases hg))
  have HR6:Hid (Rows2 w6 w.heap.size g wr.heap.size M (rowC a2 b2 (j+1) 0) (rowC a2 b2 j m2)):=by
   refine ⟨HO.out.kept hgrow6 (.inr (by simp[Value.ownBlock])),?_,Nat.ne_of_lt (HO.out.lt g rfl).2⟩
   rw[show rowC a2 b2 j m2=List.replicate M (Value.int .i32 0) by rw[<-HB.out,aZn,HB.out,hM]]
   exact hown6
  have hgh:w.heap.size<=wr.heap.size:=hws
  clear hown6 hgrow6 HO
  generalize wr.heap.size=h at *
  go_loopw[10] (fun k wr2=>∃q:Nat,q<=m2/\k=.int .i64 ((q:Int)-1)/\Hid (Below w.heap.size w wr2)/\Hid (Rows2 wr2 w.heap.size g h M (rowC a2 b2 (j+1) 0) (rowC a2 b2 j q)))
    (fun k _=>(intOf k+1).toNat)
  case atStart=>exact ⟨m2,Nat.le_refl _,rfl,HB6,HR6⟩
  clear HB6 HR6 HW
  rename_i wr0
  obtain ⟨q,hq,rfl,HW,HR⟩:=hrel
  cases q with
  | zero=>
   go_wp2
   go_roundw
   case rel=>exact ⟨j,h,by omega,by go_num,rfl,HW,hid HR.out.o2⟩
   simp[intOf]
  | succ q=>
   rw[show ((q+1:Nat):Int)-1=(q:Int) from by omega]
   obtain ⟨bb,ob,y,rfl,hbb,hby,hbcell⟩:=hrb.str (k:=q) (by omega)
   have HY:=hid hby;clear hby
   have hstep:=aQg HX.out HY.out
   have HS:Hid (cel a2 b2 (j+1) (q+1)<=400/\cel a2 b2 (j+1) q<=400/\cel a2 b2 j (q+1)<=400):=by
    have h1:=aLc a2 b2 (j+1) (q+1)
    have h2:=aLc a2 b2 (j+1) q
    have h3:=aLc a2 b2 j (q+1)
    have:=HA.out
    exact ⟨by omega,by omega,by omega⟩
   have hlb:b2.length=m2:=HB.out
   have gD:=(aLm (a:=a2) (b:=b2) (i:=j+1) (j:=0) (q:=q+1) (by omega) (Nat.zero_le _))
   have gL:=(aLm (a:=a2) (b:=b2) (i:=j+1) (j:=0) (q:=q) (by omega) (Nat.zero_le _))
   have gR:=(aLm (a:=a2) (b:=b2) (i:=j) (j:=q+1) (q:=q+1) (by omega) (Nat.le_refl _))
   have hset:=bEi a2 b2 (i:=j) (j:=q)
   have hcur:∃u,(rowC a2 b2 j (q+1))[q]? = some u:=⟨_,List.getElem?_eq_getElem (by rw[aWc];omega)⟩
   obtain ⟨u,hu⟩:=hcur
   have HSET:=hid hset
   have HU:=hid (aIm HR.out.o2 hu)
   have HD:=hid (aIm HR.out.o1 gD)
   have HL:=hid (aIm HR.out.o1 gL)
   have HRR:=hid (aIm HR.out.o2 gR)
   have HFZ:=hid (HR.out.o2.frozenAt q)
   clear gD gL gR hset hu hlb
   have hqM:q+1<M:=by omega
   go_wp2
   refine aAd (fun w'=>Below w.heap.size w w') (qs 9) mixed (by kernel_rfl) HW.out.drew ?_
   intro T M0 Q hT hT' hM hQ
   have m0:M0 ⟨ba,oa+j,none⟩=some (.string x):=hM _ _ fun w' hw=>(hw.cell (p:=⟨ba,oa+j,none⟩) hba).trans hacell
   have m1:M0 ⟨bb,ob+q,none⟩=some (.string y):=hM _ _ fun w' hw=>(hw.cell (p:=⟨bb,ob+q,none⟩) hbb).trans hbcell
   clear hM
   simp only[qcmp]
   by_cases hxy:x=y
   ·have e1:(x.toList == y.toList)=true:=by rw[hxy];exact beq_self_eq_true _
    rw[if_pos hxy] at hstep
    simp (maxSteps:=9^7) only[↓qpre,aAb,aAf,aAc,m0,m1]
    (repeat refine ⟨by first|omega|(unfold inI64;omega),?_⟩)
    refine hQ _ _ ?_
    clear hQ hT hT' m0 m1 e1
    have e9:((cel a2 b2 j q:Nat):Int)=((cel a2 b2 (j+1) (q+1):Nat):Int)+1:=by rw[hstep];push_cast;rfl
    have hst:=HR.out.drew.store q (.int .i32 (cel a2 b2 j q:Nat))
    rw[HSET.out,e9] at hst
    have HST:=hid hst
    clear hst e9 hstep
    have c0:wr.drew.cell? ⟨g,q+1,none⟩=some (.int .i32 (cel a2 b2 (j+1) (q+1):Nat)):=HD.out
    have c1:wr.drew.cell? ⟨h,q,none⟩=some u:=HU.out
    have c2:wr.drew.frozen? ⟨h,q,none⟩=false:=HFZ.out
    have hv:cel a2 b2 (j+1) (q+1)<=400:=HS.out.1
    have T1:∀z:Nat,((z:Int)+1).toNat=z+1:=fun z=>by omega
    generalize cel a2 b2 (j+1) (q+1)=v1 at *
    have HW7:Hid (Below w.heap.size w (wr.drew.setCell ⟨h,q,none⟩ (.int .i32 ((v1:Int)+1)))):=hid (HW.out.drew.setCell (p:=⟨h,q,none⟩) hgh _)
    clear HD HL HRR HU HFZ HR HW HSET HS
    go_wp2
    go_roundw
    case rel=>exact ⟨q,by omega,by go_num,HW7,HST⟩
    simp[intOf]
   have e1:=aBe hxy
   rw[if_neg hxy] at hstep
   simp (maxSteps:=9^7) only[↓qpre,aAb,aAf,aAc,m0,m1]
   (repeat refine ⟨by first|omega|(unfold inI64;omega),?_⟩)
   refine hQ _ _ ?_
   clear hQ hT hT' m0 m1 e1
   have e9:((cel a2 b2 j q:Nat):Int)=max ((cel a2 b2 (j+1) q:Nat):Int) ((cel a2 b2 j (q+1):Nat):Int):=by rw[hstep];omega
   have hst:=HR.out.drew.drew.store q (.int .i32 (cel a2 b2 j q:Nat))
   rw[HSET.out,e9] at hst
   have HST:=hid hst
   clear hst e9 hstep
   have T1:∀z:Nat,((z:Int)+1).toNat=z+1:=fun z=>by omega
   go_wp2
   refine aAs (fun w'=>∀p:Addr,w'.cell? p=wr.cell? p) (qs 13) [13] mixed (by kernel_rfl) (fun p=>rfl) ?_
   intro T M0 Q Q2 hT hT' hM hQ hQ2
   have m0:M0 ⟨g,q,none⟩=some (.int .i32 (cel a2 b2 (j+1) q:Nat)):=hM _ _ fun w' hw=>(hw _).trans HL.out
   have m1:M0 ⟨h,q+1,none⟩=some (.int .i32 (cel a2 b2 j (q+1):Nat)):=hM _ _ fun w' hw=>(hw _).trans HRR.out
   clear hM
   simp only[qcmp]
   simp (maxSteps:=9^7) only[↓qpre,aAb,aAf,aAc,m0,m1,T1]
   (repeat refine ⟨by first|omega|(unfold inI64;omega),?_⟩)
   refine hQ _ _ ?_
   simp only[lates,List.map,qcmp]
   simp (maxSteps:=9^7) only[aAb]
   have hcs:(wr.drew.drew.cell? ⟨h,q,none⟩).isSome=true:=congrArg Option.isSome HU.out
   refine aAy (v:=.int .i32 (max ((cel a2 b2 (j+1) q:Nat):Int) ((cel a2 b2 j (q+1):Nat):Int))) (b:=h) (o:=q) (by kernel_rfl) rfl rfl hcs HFZ.out rfl ⟨trivial,?_⟩
   simp (maxSteps:=9^7) only[aAb]
   refine hQ2 _ _ ?_
   have HW7:=hid (HW.out.drew.drew.setCell (p:=⟨h,q,none⟩) hgh (.int .i32 (max ((cel a2 b2 (j+1) q:Nat):Int) ((cel a2 b2 j (q+1):Nat):Int))))
   clear hQ hQ2 hT hT' m0 m1 hcs HD HL HRR HU HFZ HR HW HSET HS
   go_wp2
   go_roundw
   case rel=>exact ⟨q,by omega,by go_num,HW7,HST⟩
   simp[intOf]
end Go.Proofs.YtcemkikgaeghjaaGreatDoor
