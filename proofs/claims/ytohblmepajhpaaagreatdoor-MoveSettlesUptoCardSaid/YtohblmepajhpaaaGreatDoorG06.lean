/- Texts of the walks, together: Plain laws: where the lines of base that are kept stand. Plain laws: the pieces of three texts make the texts; where one side is as base, the whole is the other one; where both are alike, that. Plain laws: a text merged with one that is as base is the other one; two alike are that; exchanged. Plain laws: texts exchanged; pairs of files that moved. Plain law: where one side has all as base has it, the whole is the other one, without a clash. Plain laws: the merge of trees as a row of puts; with the sides exchanged. Plain laws: how long a merged text may be. Plain laws: what three small trees come to is a tree. Commits that move, plainly: what move.Rebase computes, as functions of lists. How markers lie in memory; walks: numbers compared, one among some, few; the document's Obsolete and Markers. Walks: marker.Obsolete, marker.Right, and what of slices they call. -/
import Derived.Test.YtohblmepajhpaaaGreatDoorG01
import Derived.Test.YtohblmepajhpaaaGreatDoorG05
set_option maxHeartbeats 4000000
set_option maxRecDepth 100000
open Go.Lib (hid)
namespace Go.Proofs.YtohblmepajhpaaaGreatDoor
theorem aRq (e:DV)(es:List DV):olds (e::es)=(if e.kind=3 then [] else [e.line])++olds es:=rfl
theorem bEu (e:DV)(es:List DV):news (e::es)=(if e.kind=2 then [] else [e.line])++news es:=rfl
theorem aNa:∀(es:List DV) (j:Nat),kinds es->(placesF es j).length=(olds es).length
 | [],_,_=>rfl
 | e::es,j,h=>by
  have he:=h e (by simp)
  have ih:=fun j=>aNa es j (fun x hx=>h x (List.mem_cons_of_mem _ hx))
  rw[placesF,aRq,List.length_append]
  rcases he with h1 | h1 | h1
  ·rw[if_pos h1,if_neg (by omega),List.length_cons,ih];simp;omega
  ·rw[if_neg (by omega),if_pos h1,if_neg (by omega),List.length_cons,ih];simp;omega
  rw[if_neg (by omega),if_neg (by omega),if_pos h1,ih];simp
theorem aFy:∀(es:List DV) (j:Nat),kinds es->∀(i x:Nat),(placesF es j)[i]? = some (some x)->j<=x/\x-j<(news es).length/\(news es)[x-j]? = (olds es)[i]?
 | [],_,_,i,x,h=>by simp[placesF] at h
 | e::es,j,hk,i,x,h=>by
  have he:=hk e (by simp)
  have ih:=fun j i x=>aFy es j (fun x hx=>hk x (List.mem_cons_of_mem _ hx)) i x
  rw[placesF] at h
  rw[bEu,aRq]
  rcases he with h1 | h1 | h1
  ·rw[if_pos h1] at h
   rw[if_neg (show ¬e.kind=2 by omega),if_neg (show ¬e.kind=3 by omega)]
   cases i with
   | zero=>
    simp at h
    subst h
    simp
   | succ i=>
    rw[List.getElem?_cons_succ] at h
    obtain ⟨a,b,c⟩:=ih (j+1) i x h
    obtain ⟨d,hd⟩:∃d,x-j=d+1:=⟨x-j-1,by omega⟩
    rw[hd]
    have hd2:x-(j+1)=d:=by omega
    rw[hd2] at b c
    refine ⟨by omega,by simp;omega,?_⟩
    simpa using c
  ·rw[if_neg (show ¬e.kind=1 by omega),if_pos h1] at h
   rw[if_pos h1,if_neg (show ¬e.kind=3 by omega)]
   cases i with
   | zero=>simp at h
   | succ i=>
    rw[List.getElem?_cons_succ] at h
    obtain ⟨a,b,c⟩:=ih j i x h
    exact ⟨a,by simpa using b,by simpa using c⟩
  rw[if_neg (show ¬e.kind=1 by omega),if_neg (show ¬e.kind=2 by omega)] at h
  rw[if_neg (show ¬e.kind=2 by omega),if_pos h1]
  obtain ⟨a,b,c⟩:=ih (j+1) i x h
  obtain ⟨d,hd⟩:∃d,x-j=d+1:=⟨x-j-1,by omega⟩
  rw[hd]
  have hd2:x-(j+1)=d:=by omega
  rw[hd2] at b c
  exact ⟨by omega,by simp;omega,by simpa using c⟩
theorem aGh:∀(es:List DV) (j:Nat),kinds es->∀(i i' x x':Nat),i<i'->(placesF es j)[i]? = some (some x)->(placesF es j)[i']? = some (some x')->x<x'
 | [],_,_,i,_,x,_,_,h,_=>by simp[placesF] at h
 | e::es,j,hk,i,i',x,x',hi,h,h'=>by
  have he:=hk e (by simp)
  have hk':kinds es:=fun x hx=>hk x (List.mem_cons_of_mem _ hx)
  rw[placesF] at h h'
  rcases he with h1 | h1 | h1
  ·rw[if_pos h1] at h h'
   obtain ⟨k',rfl⟩:∃k',i'=k'+1:=⟨i'-1,by omega⟩
   rw[List.getElem?_cons_succ] at h'
   cases i with
   | zero=>
    simp at h
    have:=(aFy es (j+1) hk' k' x' h').1
    omega
   | succ i=>
    rw[List.getElem?_cons_succ] at h
    exact aGh es (j+1) hk' i k' x x' (by omega) h h'
  ·rw[if_neg (show ¬e.kind=1 by omega),if_pos h1] at h h'
   obtain ⟨k',rfl⟩:∃k',i'=k'+1:=⟨i'-1,by omega⟩
   rw[List.getElem?_cons_succ] at h'
   cases i with
   | zero=>simp at h
   | succ i=>
    rw[List.getElem?_cons_succ] at h
    exact aGh es j hk' i k' x x' (by omega) h h'
  rw[if_neg (show ¬e.kind=1 by omega),if_neg (show ¬e.kind=2 by omega)] at h h'
  exact aGh es (j+1) hk' i i' x x' hi h h'
structure Places (base side:List ByteArray) (ps:List (Option Nat)):Prop where
 len:ps.length=base.length
 at_:∀(i x:Nat),ps[i]? = some (some x)->x<side.length/\side[x]? = base[i]?
 up:∀(i i' x x':Nat),i<i'->ps[i]? = some (some x)->ps[i']? = some (some x')->x<x'
theorem aDj (base side:List ByteArray):Places base side (placeF base side):=by
 obtain ⟨h1,h2,h3⟩:=aMs base side
 refine ⟨?_,fun i x h=>?_,aGh _ _ h3⟩
 ·rw[placeF,aNa _ _ h3,h1]
 obtain ⟨_,a,b⟩:=aFy _ _ h3 i x h
 rw[h1,h2] at b
 rw[h2] at a
 exact ⟨a,b⟩
theorem bCi:∀(zs:List (Option Nat×Option Nat)) (p q k:Nat),k<runF zs p q->zs[k]? = some (some (p+k),some (q+k))
 | [],_,_,k,h=>by simp[runF] at h
 | (none,_)::zs,p,q,k,h=>by simp[runF] at h
 | (some x,none)::zs,p,q,k,h=>by simp[runF] at h
 | (some x,some y)::zs,p,q,k,h=>by
  rw[runF] at h
  split at h
  ·rename_i e
   obtain ⟨rfl,rfl⟩:=e
   cases k with
   | zero=>rfl
   | succ k=>
    rw[List.getElem?_cons_succ,bCi zs (x+1) (y+1) k (by omega)]
    rw[show x+1+k=x+(k+1) by omega,show y+1+k=y+(k+1) by omega]
  omega
structure Both (base ours theirs:List ByteArray) (zs:List (Option Nat×Option Nat)):Prop where
 len:zs.length=base.length
 at_:∀(i x y:Nat),zs[i]? = some (some x,some y)->x<ours.length/\ours[x]? = base[i]?/\y<theirs.length/\theirs[y]? = base[i]?
 up:∀(i i' x x' y y':Nat),i<i'->zs[i]? = some (some x,some y)->zs[i']? = some (some x',some y')->x<x'/\y<y'
theorem aRc {α β:Type}{xs:List α}{ys:List β}{i:Nat}{x:α}{y:β}(h:(xs.zip ys)[i]? = some (x,y)):xs[i]? = some x/\ys[i]? = some y:=by
 rw[List.getElem?_zip_eq_some] at h;exact h
theorem aPz (base ours theirs:List ByteArray):Both base ours theirs ((placeF base ours).zip (placeF base theirs)):=by
 have p:=aDj base ours
 have q:=aDj base theirs
 refine ⟨by rw[List.length_zip,p.len,q.len,Nat.min_self],fun i x y h=>?_,fun i i' x x' y y' hi h h'=>?_⟩
 ·obtain ⟨h1,h2⟩:=aRc h
  obtain ⟨a,b⟩:=p.at_ i x h1
  obtain ⟨c,d⟩:=q.at_ i y h2
  exact ⟨a,b,c,d⟩
 obtain ⟨h1,h2⟩:=aRc h
 obtain ⟨h3,h4⟩:=aRc h'
 exact ⟨p.up i i' x x' hi h1 h3,q.up i i' y y' hi h2 h4⟩
theorem aCm {l:List ByteArray}{i k:Nat}(h:i<=k)(hk:k<=l.length):l.drop i=sliceF l i k++l.drop k:=by
 have h1:(l.take k++l.drop k).drop i=(l.take k).drop i++l.drop k:=by
  rw[List.drop_append_of_le_length (by rw[List.length_take];omega)]
 rw[List.take_append_drop] at h1
 exact h1
theorem aQs {l m:List ByteArray}{i x n:Nat}(h:∀k,k<n->m[x+k]? = l[i+k]?)(hl:i+n<=l.length)(hm:x+n<=m.length):sliceF m x (x+n)=sliceF l i (i+n):=by
 unfold sliceF
 refine List.ext_getElem? fun k=>?_
 rw[List.getElem?_drop,List.getElem?_drop]
 by_cases hk:k<n
 ·rw[List.getElem?_take_of_lt (by omega),List.getElem?_take_of_lt (by omega)];exact h k hk
 rw[List.getElem?_eq_none (by rw[List.length_take];omega),List.getElem?_eq_none (by rw[List.length_take];omega)]
inductive Pieces (base ours theirs:List ByteArray) (zs:List (Option Nat×Option Nat)):Nat->Nat->Nat->List KV->Prop
 | last {b o t:Nat} (hb:b<=base.length) (ho:o<=ours.length) (ht:t<=theirs.length):Pieces base ours theirs zs b o t (betweenF (base.drop b) (ours.drop o) (theirs.drop t))
 | more {b o t i x y n:Nat} {l:List KV} (hz:∀k,k<n->zs[i+k]? = some (some (x+k),some (y+k))) (hn:0<n) (hb:b<=i) (ho:o<=x) (ht:t<=y) (hi:i+n<=base.length) (hx:x+n<=ours.length) (hy:y+n<=theirs.length)
   (he:sliceF ours x (x+n)=sliceF base i (i+n)) (hf:sliceF theirs y (y+n)=sliceF base i (i+n)) (h:Pieces base ours theirs zs (i+n) (x+n) (y+n) l) :
   Pieces base ours theirs zs b o t (betweenF (sliceF base b i) (sliceF ours o x) (sliceF theirs t y)++⟨1,sliceF base i (i+n),sliceF base i (i+n),sliceF base i (i+n)⟩::l)
theorem aJh {base ours theirs:List ByteArray}{zs:List (Option Nat×Option Nat)}(Z:Both base ours theirs zs) :
  ∀(fuel i b o t:Nat),base.length<=i+fuel->b<=i->b<=base.length->o<=ours.length->t<=theirs.length->(∀i' x y,i<=i'->zs[i']? = some (some x,some y)->o<=x/\t<=y)->Pieces base ours theirs zs b o t (goF base ours theirs zs fuel i b o t)
 | 0,i,b,o,t,_,_,hb,ho,ht,_=>by rw[goF];exact .last hb ho ht
 | fuel+1,i,b,o,t,hf,hbi,hb,ho,ht,hge=>by
  rw[goF]
  split
  ·exact .last hb ho ht
  ·rename_i x y hz
   have hrun:=bCi (zs.drop (i+1)) (x+1) (y+1)
   generalize runF (zs.drop (i+1)) (x+1) (y+1)=m at hrun
   have hz':∀k,k<m+1->zs[i+k]? = some (some (x+k),some (y+k)):=fun k hk=>by
    cases k with
    | zero=>exact hz
    | succ k=>
     have:=hrun k (by omega)
     rw[List.getElem?_drop] at this
     rw[show i+(k+1)=i+1+k by omega,this,show x+1+k=x+(k+1) by omega,show y+1+k=y+(k+1) by omega]
   have hl:=Z.at_ _ _ _ (hz' m (by omega))
   have hil:i+m<zs.length:=(List.getElem?_eq_some_iff.1 (hz' m (by omega))).1
   rw[Z.len] at hil
   obtain ⟨g1,g2⟩:=hge i x y (Nat.le_refl _) hz
   refine .more hz' (by omega) hbi g1 g2 (by omega) (by omega) (by omega) ?_ ?_ (aJh Z fuel (i+(m+1)) (i+(m+1)) (x+(m+1)) (y+(m+1)) (by omega) (Nat.le_refl _) (by omega) (by omega) (by omega) ?_)
   ·exact aQs (fun k hk=>(Z.at_ _ _ _ (hz' k hk)).2.1) (by omega) (by omega)
   ·exact aQs (fun k hk=>(Z.at_ _ _ _ (hz' k hk)).2.2.2) (by omega) (by omega)
   intro i' x' y' hi' h'
   obtain ⟨u1,u2⟩:=Z.up (i+m) i' _ x' _ y' (by omega) (hz' m (by omega)) h'
   omega
  rename_i hz
  exact aJh Z fuel (i+1) b o t (by omega) (by omega) hb ho ht (fun i' x y hi' h=>hge i' x y (by omega) h)
theorem aHm (base ours theirs:List ByteArray):Pieces base ours theirs ((placeF base ours).zip (placeF base theirs)) 0 0 0 (chunksF base ours theirs):=
 aJh (aPz base ours theirs) _ _ _ _ _ (by omega) (Nat.le_refl _) (by omega) (by omega) (by omega) (fun _ _ _ _ _=>⟨by omega,by omega⟩)
theorem aIq (b o t:List ByteArray):(betweenF b o t).flatMap KV.base=b/\(betweenF b o t).flatMap KV.ours=o/\(betweenF b o t).flatMap KV.theirs=t:=by
 unfold betweenF
 split
 ·have hb:b=[]:=List.eq_nil_of_length_eq_zero (by omega)
  have ho:o=[]:=List.eq_nil_of_length_eq_zero (by omega)
  have ht:t=[]:=List.eq_nil_of_length_eq_zero (by omega)
  subst hb;subst ho;subst ht
  exact ⟨rfl,rfl,rfl⟩
 exact ⟨by simp,by simp,by simp⟩
theorem Pieces.sides {base ours theirs:List ByteArray}{zs:List (Option Nat×Option Nat)}{b o t:Nat}{l:List KV}(h:Pieces base ours theirs zs b o t l) :
  l.flatMap KV.base=base.drop b/\l.flatMap KV.ours=ours.drop o/\l.flatMap KV.theirs=theirs.drop t:=by
 induction h with
 | last hb ho ht=>exact aIq _ _ _
 | more hz hn hb ho ht hi hx hy he hf h ih=>
  obtain ⟨i1,i2,i3⟩:=ih
  obtain ⟨j1,j2,j3⟩:=aIq (sliceF base _ _) (sliceF ours _ _) (sliceF theirs _ _)
  refine ⟨?_,?_,?_⟩
  ·rw[List.flatMap_append,List.flatMap_cons,i1,j1]
   rw[aCm hb (by omega),aCm (Nat.le_add_right _ _) hi]
  ·rw[List.flatMap_append,List.flatMap_cons,i2,j2]
   rw[aCm ho (by omega),aCm (Nat.le_add_right _ _) hx,he]
  rw[List.flatMap_append,List.flatMap_cons,i3,j3]
  rw[aCm ht (by omega),aCm (Nat.le_add_right _ _) hy,hf]
def KindOk (c:KV):Prop:=(c.kind=1/\c.ours=c.base/\c.theirs=c.base)\/c.kind=kindF c.base c.ours c.theirs
theorem bGd {n i x:Nat}(h:((List.range' 0 n).map some)[i]? = some (some x)):x=i:=by
 rw[List.getElem?_map] at h
 cases h1:(List.range' 0 n)[i]? with
 | none=>rw[h1] at h;cases h
 | some y=>
  rw[h1] at h
  have h2:=List.getElem?_eq_some_iff.1 h1
  obtain ⟨hi,h3⟩:=h2
  rw[List.getElem_range'] at h3
  simp at h
  omega
theorem aFq (b o t:List ByteArray):(chunksF b o t).flatMap KV.base=b/\(chunksF b o t).flatMap KV.ours=o/\(chunksF b o t).flatMap KV.theirs=t:=by
 have:=(aHm b o t).sides
 simpa using this
def swapK (c:KV):KV:=⟨if c.kind=2 then 3 else if c.kind=3 then (if c.theirs=c.base then 3 else 2) else c.kind,c.base,c.theirs,c.ours⟩
theorem aXb {l other:List FV}{i:Nat}:i∈loneF l other↔∃f,l[i]? = some f/\findP other f.path=none/\f.text≠⟨#[]⟩:=by
 rw[loneF,List.mem_filter,List.mem_range]
 constructor
 ·rintro ⟨h,h2⟩
  rw[List.getElem?_eq_getElem h] at h2
  simp only[Bool.and_eq_true,Bool.not_eq_true',decide_eq_false_iff_not,Option.isNone_iff_eq_none] at h2
  exact ⟨_,List.getElem?_eq_getElem h,h2.1,h2.2⟩
 rintro ⟨f,h1,h2,h3⟩
 refine ⟨(List.getElem?_eq_some_iff.1 h1).1,?_⟩
 rw[h1]
 simp[h2,h3]
structure PairsOk (is js:List Nat) (ps:List (Nat×Nat)):Prop where
 from_:∀p∈ps,p.1∈is
 into:∀p∈ps,p.2∈js
 one:ps.Pairwise fun p q=>p.1≠q.1/\p.2≠q.2
theorem aKz (base side:List FV):∀(is js:List Nat),is.Nodup->PairsOk is js (sameF base side is js).1/\(∀i∈(sameF base side is js).2.1,i∈is)/\(∀j∈(sameF base side is js).2.2,j∈js)/\
  (∀p∈(sameF base side is js).1,p.1∉(sameF base side is js).2.1/\p.2∉(sameF base side is js).2.2)/\(sameF base side is js).2.1.Nodup
 | [],js,_=>by
  rw[sameF]
  exact ⟨⟨by simp,by simp,List.Pairwise.nil⟩,by simp,fun _ h=>h,by simp,List.nodup_nil⟩
 | i::is,js,hn=>by
  obtain ⟨hn1,hn2⟩:=List.nodup_cons.1 hn
  rw[sameF]
  cases hf:js.find? fun j=>decide (textAt side j=textAt base i) with
  | none=>
   obtain ⟨⟨a1,a2,a3⟩,b,c,d,e⟩:=aKz base side is js hn2
   dsimp only
   refine ⟨⟨fun p hp=>List.mem_cons_of_mem _ (a1 p hp),a2,a3⟩,fun k hk=>?_,c,fun p hp=>⟨fun h=>?_,(d p hp).2⟩,List.nodup_cons.2 ⟨fun h=>hn1 (b i h),e⟩⟩
   ·rcases List.mem_cons.1 hk with rfl | hk
    ·simp
    exact List.mem_cons_of_mem _ (b k hk)
   rcases List.mem_cons.1 h with h | h
   ·exact hn1 (by rw[<-h];exact a1 p hp)
   exact (d p hp).1 h
  | some j=>
   have hj:=List.mem_of_find?_eq_some hf
   obtain ⟨⟨a1,a2,a3⟩,b,c,d,e⟩:=aKz base side is (js.filter fun k=>decide (k≠j)) hn2
   have hne:∀k∈js.filter (fun k=>decide (k≠j)),k≠j:=fun k hk=>by simpa using (List.mem_filter.1 hk).2
   dsimp only
   refine ⟨⟨fun p hp=>?_,fun p hp=>?_,List.pairwise_cons.2 ⟨fun p hp=>⟨fun h=>hn1 (by rw[show i=p.1 from h];exact a1 p hp),fun h=>hne _ (a2 p hp) h.symm⟩,a3⟩⟩,fun k hk=>List.mem_cons_of_mem _ (b k hk),fun k hk=>(List.mem_filter.1 (c k hk)).1,fun p hp=>?_,e⟩
   ·rcases List.mem_cons.1 hp with rfl | hp
    ·simp
    exact List.mem_cons_of_mem _ (a1 p hp)
   ·rcases List.mem_cons.1 hp with rfl | hp
    ·exact hj
    exact (List.mem_filter.1 (a2 p hp)).1
   rcases List.mem_cons.1 hp with rfl | hp
   ·exact ⟨fun h=>hn1 (b _ h),fun h=>hne _ (c _ h) rfl⟩
   exact d p hp
theorem aPg {base side:List FV}{is js:List Nat}{p:Nat×Nat}(h:bestF base side is js=some p):p.1∈is/\p.2∈js:=by
 have key:∀(l:List (Nat×Nat)) (b:Option (Nat×Nat)×Int),(∀q,b.1=some q->q.1∈is/\q.2∈js)->(∀q∈l,q.1∈is/\q.2∈js)->
   ∀q,(l.foldl (fun (b:Option (Nat×Nat)×Int) p=>let r:=ratioF (textAt base p.1) (textAt side p.2);if b.2<r then (some p,r) else b) b).1=some q->q.1∈is/\q.2∈js:=by
  intro l
  induction l with
  | nil=>intro b hb _ q hq;exact hb q hq
  | cons x l ih=>
   intro b hb hl q hq
   rw[List.foldl_cons] at hq
   refine ih _ ?_ (fun q hq=>hl q (List.mem_cons_of_mem _ hq)) q hq
   intro q hq
   dsimp only at hq
   split at hq
   ·injection hq with hq;subst hq;exact hl x (by simp)
   exact hb q hq
 refine key _ (none,49) (fun q hq=>by cases hq) (fun q hq=>?_) p h
 obtain ⟨i,hi,h1⟩:=List.mem_flatMap.1 hq
 obtain ⟨j,hj,rfl⟩:=List.mem_map.1 h1
 exact ⟨hi,hj⟩
theorem aSa (base side:List FV):∀(n:Nat) (is js:List Nat),PairsOk is js (alikeF base side n is js)
 | 0,is,js=>by rw[alikeF];exact ⟨by simp,by simp,List.Pairwise.nil⟩
 | n+1,is,js=>by
  rw[alikeF]
  cases hb:bestF base side is js with
  | none=>exact ⟨by simp,by simp,List.Pairwise.nil⟩
  | some p=>
   obtain ⟨h1,h2⟩:=aPg hb
   obtain ⟨a1,a2,a3⟩:=aSa base side n (is.filter fun k=>decide (k≠p.1)) (js.filter fun k=>decide (k≠p.2))
   have e1:∀q∈alikeF base side n (is.filter fun k=>decide (k≠p.1)) (js.filter fun k=>decide (k≠p.2)),q.1∈is/\q.1≠p.1:=fun q hq=>by
    obtain ⟨h3,h4⟩:=List.mem_filter.1 (a1 q hq);exact ⟨h3,by simpa using h4⟩
   have e2:∀q∈alikeF base side n (is.filter fun k=>decide (k≠p.1)) (js.filter fun k=>decide (k≠p.2)),q.2∈js/\q.2≠p.2:=fun q hq=>by
    obtain ⟨h3,h4⟩:=List.mem_filter.1 (a2 q hq);exact ⟨h3,by simpa using h4⟩
   dsimp only
   refine ⟨fun q hq=>?_,fun q hq=>?_,List.pairwise_cons.2 ⟨fun q hq=>⟨fun h=>(e1 q hq).2 h.symm,fun h=>(e2 q hq).2 h.symm⟩,a3⟩⟩
   ·rcases List.mem_cons.1 hq with rfl | hq
    ·exact h1
    exact (e1 q hq).1
   rcases List.mem_cons.1 hq with rfl | hq
   ·exact h2
   exact (e2 q hq).1
theorem aDv (base side:List FV):PairsOk (loneF base side) (loneF side base) (pairsF base side):=by
 have hn:(loneF base side).Nodup:=List.nodup_range.sublist List.filter_sublist
 obtain ⟨⟨a1,a2,a3⟩,b,c,d,e⟩:=aKz base side (loneF base side) (loneF side base) hn
 obtain ⟨f1,f2,f3⟩:=aSa base side (sameF base side (loneF base side) (loneF side base)).2.1.length (sameF base side (loneF base side) (loneF side base)).2.1 (sameF base side (loneF base side) (loneF side base)).2.2
 unfold pairsF
 dsimp only
 refine ⟨fun p hp=>?_,fun p hp=>?_,List.pairwise_append.2 ⟨a3,f3,fun p hp q hq=>⟨fun h=>(d p hp).1 (by rw[h];exact f1 q hq),fun h=>(d p hp).2 (by rw[h];exact f2 q hq)⟩⟩⟩
 ·rcases List.mem_append.1 hp with hp | hp
  ·exact a1 p hp
  exact b _ (f1 p hp)
 rcases List.mem_append.1 hp with hp | hp
 ·exact a2 p hp
 exact c _ (f2 p hp)
theorem aWg {α:Type}{R:α->α->Prop}:∀{l:List α},l.Pairwise R->∀{x y:α},x∈l->y∈l->x=y\/R x y\/R y x
 | z::l,h,x,y,hx,hy=>by
  obtain ⟨h1,h2⟩:=List.pairwise_cons.1 h
  rcases List.mem_cons.1 hx with e1 | hx2
  ·rcases List.mem_cons.1 hy with e2 | hy2
   ·exact .inl (e1.trans e2.symm)
   exact .inr (.inl (e1▸h1 y hy2))
  rcases List.mem_cons.1 hy with e2 | hy2
  ·exact .inr (.inr (e2▸h1 x hx2))
  exact aWg h2 hx2 hy2
theorem aLf {a b:List FV}{g:FV}:g∈addedF a b↔g∈b/\findP a g.path=none/\∀q∈pairsF a b,((b[q.2]?).map FV.path)≠some g.path:=by
 simp only[addedF,List.mem_filter,Bool.and_eq_true,Option.isNone_iff_eq_none,Bool.not_eq_true',List.any_eq_false,decide_eq_true_eq]
theorem aHt:∀(l:List FV),(l.Pairwise fun x y=>x.path≠y.path)->Rise (sortF l)/\∀x,x∈sortF l↔x∈l:=by
 have key:∀(l out:List FV),Rise out->((out++l).Pairwise fun x y=>x.path≠y.path)->Rise (l.foldl (fun out f=>sortedIn out f) out)/\∀x,x∈l.foldl (fun out f=>sortedIn out f) out↔x∈out\/x∈l:=by
  intro l
  induction l with
  | nil=>intro out h _;exact ⟨h,by simp⟩
  | cons f l ih=>
   intro out h hp
   have hn:hasP out f.path=false:=by
    cases e:hasP out f.path with
    | false=>rfl
    | true=>
     obtain ⟨g,hg,e2⟩:=aDl.1 e
     exact absurd e2 ((List.pairwise_append.1 hp).2.2 g hg f (by simp))
   have hp2:(sortedIn out f++l).Pairwise fun x y=>x.path≠y.path:=by
    obtain ⟨p1,p2,p3⟩:=List.pairwise_append.1 hp
    obtain ⟨p4,p5⟩:=List.pairwise_cons.1 p2
    refine List.pairwise_append.2 ⟨(aEi h hn).pair.imp fun hab e=>absurd (FV.p_inj.2 e) (aGy hab),p5,fun x hx y hy=>?_⟩
    rcases aBy.1 hx with rfl | hx
    ·exact p4 y hy
    exact p3 x hx y (List.mem_cons_of_mem _ hy)
   obtain ⟨h1,h2⟩:=ih (sortedIn out f) (aEi h hn) hp2
   refine ⟨h1,fun x=>?_⟩
   rw[List.foldl_cons,h2,aBy,List.mem_cons]
   constructor
   ·rintro ((h | h) | h)
    ·exact .inr (.inl h)
    ·exact .inl h
    exact .inr (.inr h)
   rintro (h | h | h)
   ·exact .inl (.inr h)
   ·exact .inl (.inl h)
   exact .inr h
 intro l h
 obtain ⟨h1,h2⟩:=key l [] (aDp List.Pairwise.nil) (by simpa using h)
 exact ⟨h1,fun x=>by rw[sortF,h2];simp⟩
def bothOut (f o t:FV):FV×Int:=
 let kind:Int:=if o.path=f.path then 0 else if t.path≠f.path/\t.path≠o.path then 4 else 0
 (⟨if o.path=f.path then t.path else o.path,if o.exec=f.exec then t.exec else o.exec,(merge3F f.text o.text t.text).1⟩,if (merge3F f.text o.text t.text).2=false/\kind=0 then 1 else kind)
def actK (base a b:List FV)(f:FV):Option (FV×Int):=
 match whereF base a f,whereF base b f with
 | some x,some y=>some (bothOut f x y)
 | some x,none=>if x=f then none else some (x,3)
 | none,some y=>if y=f then none else some (y,3)
 | none,none=>none
def actA (theirs:List FV)(x:FV):FV×Int:=
 match findP theirs x.path with
 | none=>(x,0)
 | some y=>if x=y then (x,0) else (⟨x.path,x.exec,(merge3F ⟨#[]⟩ x.text y.text).1⟩,2)
def acts (base a b:List FV):List (FV×Int):=
 base.filterMap (actK base a b)++((addedF base a).map (actA (addedF base b))++((addedF base b).filter fun y=>(findP (addedF base a) y.path).isNone).map fun y=>(y,0))
def putX (m:List FV×List CL)(p:FV×Int):List FV×List CL:=putM m p.1 p.2
theorem aNj (base a b:List FV):∀(l:List FV) (m:List FV×List CL),l.foldl (keptM base a b) m=(l.filterMap (actK base a b)).foldl putX m
 | [],m=>rfl
 | f::l,m=>by
  rw[List.foldl_cons,List.filterMap_cons]
  have h:keptM base a b m f=match actK base a b f with | some p=>putX m p | none=>m:=by
   unfold keptM actK
   cases whereF base a f with
   | none=>
    cases whereF base b f with
    | none=>rfl
    | some y=>by_cases e:y=f<;>simp[e,putX]
   | some x=>
    cases whereF base b f with
    | none=>by_cases e:x=f<;>simp[e,putX]
    | some y=>rfl
  rw[h]
  cases actK base a b f with
  | none=>exact aNj base a b l m
  | some p=>exact aNj base a b l (putX m p)
theorem bFk (ours theirs:List FV)(m:List FV×List CL):addM ours theirs m=(ours.map (actA theirs)++(theirs.filter fun (y:FV)=>(findP ours y.path).isNone).map fun y=>(y,0)).foldl putX m:=by
 unfold addM
 rw[List.foldl_append,List.foldl_map,List.foldl_map]
 have h:addOne theirs=fun m x=>putX m (actA theirs x):=by
  funext m x
  unfold addOne actA
  cases findP theirs x.path with
  | none=>rfl
  | some y=>by_cases e:x=y<;>simp[e,putX]
 rw[h]
 rfl
theorem aDz (base a b:List FV):wholeF base a b=(acts base a b).foldl putX ([],[]):=by
 unfold wholeF acts
 rw[bFk,aNj,<-List.foldl_append]
theorem bEb (m:List FV×List CL)(p:FV×Int):m.2≠[]->(putX m p).2≠[]:=by
 intro h
 unfold putX putM
 split
 ·simp
 dsimp only
 split
 ·exact h
 simp
theorem aNc:∀(l:List (FV×Int)) (m:List FV×List CL),m.2≠[]->(l.foldl putX m).2≠[]
 | [],_m,h=>h
 | p::l,m,h=>aNc l (putX m p) (bEb m p h)
theorem aOt:∀(l:List (FV×Int)) (m:List FV×List CL),m.2=[]->
  (((l.foldl putX m).2=[]↔(∀p∈l,p.2=0)/\(∀x∈m.1,∀p∈l,clashP x.p p.1.p=false)/\l.Pairwise fun p q=>clashP p.1.p q.1.p=false)/\((l.foldl putX m).2=[]->(l.foldl putX m).1=m.1++l.map Prod.fst))
 | [],m,h=>by simp[h]
 | p::l,m,h=>by
  rw[List.foldl_cons]
  by_cases h1:(m.1.any fun x=>clashP x.p p.1.p)=true
  ·have h2:(putX m p).2≠[]:=by
    unfold putX putM
    rw[if_pos h1];simp
   have h3:=aNc l _ h2
   obtain ⟨x,hx,hc⟩:=List.any_eq_true.1 h1
   refine ⟨⟨fun e=>absurd e h3,fun ⟨_,e,_⟩=>?_⟩,fun e=>absurd e h3⟩
   have:=e x hx p (by simp)
   rw[this] at hc;cases hc
  by_cases h4:p.2=0
  ·have h2:putX m p=(m.1++[p.1],m.2):=by
    unfold putX putM
    rw[if_neg h1,if_pos h4]
   obtain ⟨i1,i2⟩:=aOt l (m.1++[p.1],m.2) h
   rw[h2]
   have h5:∀x∈m.1,clashP x.p p.1.p=false:=fun x hx=>by
    cases e:clashP x.p p.1.p with
    | false=>rfl
    | true=>exact absurd (List.any_eq_true.2 ⟨x,hx,e⟩) h1
   refine ⟨i1.trans ⟨fun ⟨e1,e2,e3⟩=>⟨fun q hq=>?_,fun x hx q hq=>?_,List.pairwise_cons.2 ⟨fun q hq=>e2 p.1 (by simp) q hq,e3⟩⟩,fun ⟨e1,e2,e3⟩=>⟨fun q hq=>e1 q (List.mem_cons_of_mem _ hq),fun x hx q hq=>?_,(List.pairwise_cons.1 e3).2⟩⟩,fun e=>?_⟩
   ·rcases List.mem_cons.1 hq with rfl | hq
    ·exact h4
    exact e1 q hq
   ·rcases List.mem_cons.1 hq with rfl | hq
    ·exact h5 x hx
    exact e2 x (List.mem_append.2 (.inl hx)) q hq
   ·rcases List.mem_append.1 hx with hx | hx
    ·exact e2 x hx q (List.mem_cons_of_mem _ hq)
    simp only[List.mem_singleton] at hx
    subst hx
    exact (List.pairwise_cons.1 e3).1 q hq
   rw[i2 e];simp
  have h2:(putX m p).2≠[]:=by
   unfold putX putM
   rw[if_neg h1]
   dsimp only
   rw[if_neg h4];simp
  have h3:=aNc l _ h2
  exact ⟨⟨fun e=>absurd e h3,fun ⟨e,_,_⟩=>absurd (e p (by simp)) h4⟩,fun e=>absurd e h3⟩
theorem aVx (base a b:List FV):((wholeF base a b).2=[]↔(∀p∈acts base a b,p.2=0)/\(acts base a b).Pairwise fun p q=>clashP p.1.p q.1.p=false)/\((wholeF base a b).2=[]->(wholeF base a b).1=(acts base a b).map Prod.fst):=by
 rw[aDz]
 obtain ⟨h1,h2⟩:=aOt (acts base a b) ([],[]) rfl
 refine ⟨h1.trans ⟨fun ⟨a,_,c⟩=>⟨a,c⟩,fun ⟨a,c⟩=>⟨a,by simp,c⟩⟩,fun e=>by rw[h2 e];rfl⟩
theorem aMj:∀(l:List ByteArray) (r:List DV) (j:Nat),placesF (evs 1 l++r) j=(List.range' j l.length).map some++placesF r (j+l.length)
 | [],r,j=>by simp[evs]
 | x::l,r,j=>by
  show placesF (⟨1,x⟩::(evs 1 l++r)) j=_
  rw[placesF,if_pos rfl,aMj l r (j+1),List.length_cons,List.range'_succ,List.map_cons,List.cons_append,show j+1+l.length=j+(l.length+1) by omega]
theorem aFc:∀(a b:List ByteArray) (j i x:Nat),(placesF (evs 2 a++evs 3 b) j)[i]?≠some (some x)
 | [],[],j,i,x=>by simp[evs,placesF]
 | [],y::b,j,i,x=>by
  show (placesF (⟨3,y⟩::(evs 2 []++evs 3 b)) j)[i]?≠_
  rw[placesF,if_neg (show ¬(3:Int)=1 by decide),if_neg (show ¬(3:Int)=2 by decide)]
  exact aFc [] b (j+1) i x
 | z::a,b,j,i,x=>by
  show (placesF (⟨2,z⟩::(evs 2 a++evs 3 b)) j)[i]?≠_
  rw[placesF,if_neg (show ¬(2:Int)=1 by decide),if_pos rfl]
  cases i with
  | zero=>simp
  | succ i=>rw[List.getElem?_cons_succ];exact aFc a b j i x
theorem aQu (a b:List ByteArray):pfx a b<=a.length/\pfx a b<=b.length:=by
 have:∀(a b:List ByteArray),pfx a b<=a.length/\pfx a b<=b.length:=by
  intro a
  induction a with
  | nil=>intro b;simp[pfx]
  | cons x a ih=>
   intro b
   cases b with
   | nil=>simp[pfx]
   | cons y b=>
    rw[pfx]
    have:=ih b
    split<;>simp only[List.length_cons]<;>omega
 exact this a b
structure Ahead (base side:List ByteArray) (ps:List (Option Nat)) (P:Nat):Prop where
 leB:P<=base.length
 leS:P<=side.length
 same:side.take P=base.take P
 low:∀(i x:Nat),ps[i]? = some (some x)->i<P->x=i
 high:∀(i x:Nat),ps[i]? = some (some x)->P<=i->P<=x/\base.length<=P+400/\side.length<=P+400
theorem aNh (base side:List ByteArray):Ahead base side (placeF base side) (pfx base side):=by
 obtain ⟨l1,l2⟩:=aQu base side
 have hs:placeF base side=(List.range' 0 (pfx base side)).map some++placesF (rest (base.drop (pfx base side)) (side.drop (pfx base side))) (pfx base side):=by
  rw[placeF,script,aMj,List.length_take,Nat.min_eq_left l1,Nat.zero_add]
 have hlen:((List.range' 0 (pfx base side)).map (some:Nat->Option Nat)).length=pfx base side:=by rw[List.length_map,List.length_range']
 refine ⟨l1,l2,(aEg base side).symm,fun i x h hi=>?_,fun i x h hi=>?_⟩
 ·rw[hs,List.getElem?_append_left (by rw[hlen];exact hi)] at h
  exact bGd h
 rw[hs,List.getElem?_append_right (by rw[hlen];exact hi),hlen] at h
 unfold rest at h
 split at h
 ·exact absurd h (aFc _ _ _ _ _)
 rename_i hb
 rw[List.length_drop,List.length_drop] at hb
 have hk:kinds (scrT (base.drop (pfx base side)) (side.drop (pfx base side))):=(aDh _ _).2.2
 exact ⟨(aFy _ _ hk _ _ h).1,by omega,by omega⟩
def clashN (l:List KV):Nat:=(l.filter fun c=>decide (c.kind=5)).length
theorem aIx (l m:List KV):clashN (l++m)=clashN l+clashN m:=by simp[clashN]
theorem aCz (b o t:List ByteArray):clashN (betweenF b o t)<=1/\(o=b->clashN (betweenF b o t)=0)/\(t=b->clashN (betweenF b o t)=0)/\(0<clashN (betweenF b o t)->2<=b.length+o.length+t.length):=by
 unfold betweenF
 split
 ·simp[clashN]
 rename_i h0
 unfold kindF
 by_cases e1:o=b
 ·rw[if_pos e1];simp[clashN]
 rw[if_neg e1]
 by_cases e2:t=b
 ·rw[if_pos e2];simp[clashN]
 rw[if_neg e2]
 by_cases e3:o=t
 ·rw[if_pos e3];simp[clashN]
 rw[if_neg e3]
 have hc:clashN [(⟨5,b,o,t⟩:KV)]=1:=rfl
 rw[hc]
 refine ⟨Nat.le_refl _,fun e=>absurd e e1,fun e=>absurd e e2,fun _=>?_⟩
 -- two of the three are not empty
 cases b with
 | nil=>
  cases o with
  | nil=>exact absurd rfl e1
  | cons x o=>
   cases t with
   | nil=>exact absurd rfl e2
   | cons y t=>simp only[List.length_cons];omega
 | cons z b=>
  cases o with
  | nil=>
   cases t with
   | nil=>exact absurd rfl e3
   | cons y t=>simp only[List.length_cons];omega
  | cons x o=>simp only[List.length_cons];omega
theorem aIw {l:List ByteArray}{i k:Nat}(hk:k<=l.length):(sliceF l i k).length=k-i:=by
 rw[sliceF,List.length_drop,List.length_take,Nat.min_eq_left hk]
theorem Pieces.few {base ours theirs:List ByteArray}{zs:List (Option Nat×Option Nat)}{b o t:Nat}{l:List KV}(h:Pieces base ours theirs zs b o t l) :
  5*clashN l<=(base.length-b)+(ours.length-o)+(theirs.length-t)+3:=by
 induction h with
 | @last b o t hb ho ht=>
  obtain ⟨h1,_,_,h2⟩:=aCz (base.drop b) (ours.drop o) (theirs.drop t)
  rw[List.length_drop,List.length_drop,List.length_drop] at h2
  by_cases h3:0<clashN (betweenF (base.drop b) (ours.drop o) (theirs.drop t))
  ·have:=h2 h3;omega
  omega
 | @more b o t i x y n l hz hn hb ho ht hi hx hy he hf h ih=>
  obtain ⟨h1,_,_,h2⟩:=aCz (sliceF base b i) (sliceF ours o x) (sliceF theirs t y)
  rw[aIw (by omega),aIw (by omega),aIw (by omega)] at h2
  have h4:clashN (⟨1,sliceF base i (i+n),sliceF base i (i+n),sliceF base i (i+n)⟩::l)=clashN l:=rfl
  rw[aIx,h4]
  by_cases h3:0<clashN (betweenF (sliceF base b i) (sliceF ours o x) (sliceF theirs t y))
  ·have:=h2 h3;omega
  omega
theorem aNu {base side:List ByteArray}{P b i:Nat}(h:side.take P=base.take P)(hi:i<=P):sliceF side b i=sliceF base b i:=by
 unfold sliceF
 have:=congrArg (fun l=>(l.take i).drop b) h
 simpa[List.take_take,Nat.min_eq_left hi] using this
theorem Pieces.bound {base ours theirs:List ByteArray}{xs ys:List (Option Nat)}{P Q:Nat}(A:Ahead base ours xs P)(B:Ahead base theirs ys Q){b o t:Nat}{l:List KV}
  (h:Pieces base ours theirs (xs.zip ys) b o t l) (h1:b<P->o=b) (h2:b<Q->t=b):clashN l<=241:=by
 induction h with
 | @last b o t hb ho ht=>
  have:=(aCz (base.drop b) (ours.drop o) (theirs.drop t)).1
  omega
 | @more b o t i x y n l hz hn hb ho ht hi hx hy he hf h ih=>
  obtain ⟨c1,c2,c3,_⟩:=aCz (sliceF base b i) (sliceF ours o x) (sliceF theirs t y)
  have h4:clashN (⟨1,sliceF base i (i+n),sliceF base i (i+n),sliceF base i (i+n)⟩::l)=clashN l:=rfl
  rw[aIx,h4]
  obtain ⟨zx,zy⟩:=aRc (by simpa using hz 0 hn:(xs.zip ys)[i]? = some (some x,some y))
  obtain ⟨wx,wy⟩:=aRc (by have:=hz (n-1) (by omega);exact this:(xs.zip ys)[i+(n-1)]? = some (some (x+(n-1)),some (y+(n-1))))
  have n1:i+n<P->x+n=i+n:=fun e=>by have:=A.low _ _ wx (by omega);omega
  have n2:i+n<Q->y+n=i+n:=fun e=>by have:=B.low _ _ wy (by omega);omega
  by_cases hP:i<P
  ·have hx0:=A.low _ _ zx hP
   have ho0:=h1 (by omega)
   have:clashN (betweenF (sliceF base b i) (sliceF ours o x) (sliceF theirs t y))=0:=c2 (by rw[hx0,ho0];exact aNu A.same (by omega))
   rw[this,Nat.zero_add]
   exact ih n1 n2
  by_cases hQ:i<Q
  ·have hy0:=B.low _ _ zy hQ
   have ht0:=h2 (by omega)
   have:clashN (betweenF (sliceF base b i) (sliceF ours o x) (sliceF theirs t y))=0:=c3 (by rw[hy0,ht0];exact aNu B.same (by omega))
   rw[this,Nat.zero_add]
   exact ih n1 n2
  obtain ⟨u1,u2,u3⟩:=A.high _ _ zx (by omega)
  obtain ⟨v1,v2,v3⟩:=B.high _ _ zy (by omega)
  have:=h.few
  omega
theorem aFb (base ours theirs:List ByteArray):clashN (chunksF base ours theirs)<=241:=
 (aHm base ours theirs).bound (aNh base ours) (aNh base theirs) (fun _=>rfl) (fun _=>rfl)
def bytesF (l:List ByteArray):Nat:=(catF l).length
theorem aBx (l m:List ByteArray):catF (l++m)=catF l++catF m:=by simp[catF]
theorem aFj (s:Bs):(endedF s).length<=s.length+1:=by
 unfold endedF
 split
 ·omega
 simp
theorem aQm (out:Bs)(c:KV):(clashTextF out c).length<=out.length+(bytesF c.base+bytesF c.ours+bytesF c.theirs)+if c.kind=5 then 53 else 0:=by
 unfold clashTextF
 by_cases h:c.kind=5
 ·rw[if_neg (by simp[h]),if_pos h]
  have e1:=aFj out
  have e2:=aFj (endedF out++markO++catF c.ours)
  have e3:=aFj (endedF (endedF out++markO++catF c.ours)++markB++catF c.base)
  have e4:=aFj (endedF (endedF (endedF out++markO++catF c.ours)++markB++catF c.base)++markT++catF c.theirs)
  simp only[List.length_append] at e2 e3 e4 ⊢
  have m1:markO.length=13:=rfl
  have m2:markB.length=13:=rfl
  have m3:markT.length=8:=rfl
  have m4:markE.length=15:=rfl
  unfold bytesF
  omega
 rw[if_pos h,if_neg h,List.length_append]
 have:(catF (mergedF [c])).length<=bytesF c.ours+bytesF c.theirs:=by
  unfold mergedF
  rw[List.flatMap_cons,List.flatMap_nil,List.append_nil]
  unfold bytesF
  split<;>omega
 omega
theorem aQl:∀(l:List KV) (out:Bs),(l.foldl clashTextF out).length<=out.length+(bytesF (l.flatMap KV.base)+bytesF (l.flatMap KV.ours)+bytesF (l.flatMap KV.theirs))+53*clashN l
 | [],out=>by rw[List.foldl_nil];omega
 | c::l,out=>by
  rw[List.foldl_cons]
  have h1:=aQl l (clashTextF out c)
  have h2:=aQm out c
  have h3:clashN (c::l)=(if c.kind=5 then 1 else 0)+clashN l:=by
   unfold clashN
   rw[List.filter_cons]
   by_cases h:c.kind=5
   ·rw[if_pos (decide_eq_true h),if_pos h,List.length_cons];omega
   rw[if_neg (by simp[h]),if_neg h];omega
  have h4:∀(f:KV->List ByteArray),bytesF ((c::l).flatMap f)=bytesF (f c)+bytesF (l.flatMap f):=fun f=>by
   unfold bytesF;rw[List.flatMap_cons,aBx,List.length_append]
  rw[h4,h4,h4,h3]
  split at h2
  ·rename_i h;rw[if_pos h];omega
  rename_i h;rw[if_neg h];omega
theorem aCe (s:ByteArray):catF (linesF s)=s.data.toList:=by
 have h:=aZa s
 have:(joinF (linesF s)).data.toList=s.data.toList:=by rw[h]
 rw[<-this]
 simp[joinF,ofB,catF]
theorem aHy (l:Bs):(ofB l).size=l.length:=by show l.toArray.size=_;simp
theorem aCg (s:ByteArray):s.data.toList.length=s.size:=rfl
theorem aOr (b o t:ByteArray):(merge3F b o t).1.size<=b.size+o.size+t.size+12773:=by
 obtain ⟨s1,s2,s3⟩:=aFq (linesF b) (linesF o) (linesF t)
 have hb:=aFb (linesF b) (linesF o) (linesF t)
 rw[merge3F]
 split
 ·show (joinF (mergedF _)).size<=_
  have h:∀l:List KV,(catF (mergedF l)).length<=bytesF (l.flatMap KV.ours)+bytesF (l.flatMap KV.theirs):=by
   intro l
   induction l with
   | nil=>simp[mergedF,catF]
   | cons c l ih=>
    unfold mergedF at ih ⊢
    have h4:∀(f:KV->List ByteArray),bytesF ((c::l).flatMap f)=bytesF (f c)+bytesF (l.flatMap f):=fun f=>by
     unfold bytesF;rw[List.flatMap_cons,aBx,List.length_append]
    rw[List.flatMap_cons,aBx,List.length_append,h4,h4]
    unfold bytesF at ih ⊢
    split<;>omega
  have h1:=h (chunksF (linesF b) (linesF o) (linesF t))
  rw[s2,s3] at h1
  unfold bytesF at h1
  rw[aCe,aCe,aCg,aCg] at h1
  have h2:(joinF (mergedF (chunksF (linesF b) (linesF o) (linesF t)))).size=(catF (mergedF (chunksF (linesF b) (linesF o) (linesF t)))).length:=by
   exact aHy _
  omega
 show (ofB _).size<=_
 have h1:=aQl (chunksF (linesF b) (linesF o) (linesF t)) []
 rw[s1,s2,s3] at h1
 unfold bytesF at h1
 rw[aCe,aCe,aCe,aCg,aCg,aCg,List.length_nil] at h1
 have h2:(ofB ((chunksF (linesF b) (linesF o) (linesF t)).foldl clashTextF [])).size=((chunksF (linesF b) (linesF o) (linesF t)).foldl clashTextF []).length:=by
  exact aHy _
 omega
structure Small (l:List FV):Prop where
 tree:treeOk l=true
 len:l.length<=30
 text:∀f∈l,f.text.size<=2000
theorem aIn:∀(l:List (FV×Int)) (m:List FV×List CL),(m.1.Pairwise fun x y=>clashP x.p y.p=false)->
  ((l.foldl putX m).1.Pairwise fun x y=>clashP x.p y.p=false)/\(∀x∈(l.foldl putX m).1,x∈m.1\/∃p∈l,p.1=x)/\(l.foldl putX m).1.length<=m.1.length+l.length
 | [],m,h=>⟨h,fun x hx=>.inl hx,by simp⟩
 | p::l,m,h=>by
  rw[List.foldl_cons]
  by_cases h1:(m.1.any fun x=>clashP x.p p.1.p)=true
  ·have h2:(putX m p).1=m.1:=by unfold putX putM;rw[if_pos h1]
   obtain ⟨a,b,c⟩:=aIn l (putX m p) (by rw[h2];exact h)
   rw[h2] at b c
   refine ⟨a,fun x hx=>?_,by rw[List.length_cons];omega⟩
   rcases b x hx with h3 | ⟨q,hq,e⟩
   ·exact .inl h3
   exact .inr ⟨q,List.mem_cons_of_mem _ hq,e⟩
  have h2:(putX m p).1=m.1++[p.1]:=by unfold putX putM;rw[if_neg h1]
  have h5:∀x∈m.1,clashP x.p p.1.p=false:=fun x hx=>by
   cases e:clashP x.p p.1.p with
   | false=>rfl
   | true=>exact absurd (List.any_eq_true.2 ⟨x,hx,e⟩) h1
  obtain ⟨a,b,c⟩:=aIn l (putX m p) (by
   rw[h2]
   refine List.pairwise_append.2 ⟨h,List.pairwise_singleton _ _,fun x hx y hy=>?_⟩
   simp only[List.mem_singleton] at hy
   subst hy;exact h5 x hx)
  rw[h2] at b c
  refine ⟨a,fun x hx=>?_,by rw[List.length_append,List.length_singleton] at c;rw[List.length_cons];omega⟩
  rcases b x hx with h3 | ⟨q,hq,e⟩
  ·rcases List.mem_append.1 h3 with h3 | h3
   ·exact .inl h3
   simp only[List.mem_singleton] at h3
   exact .inr ⟨p,by simp,h3.symm⟩
  exact .inr ⟨q,List.mem_cons_of_mem _ hq,e⟩
theorem aMo (l:List FV):(sortF l).length=l.length:=by
 have key:∀(l out:List FV),(l.foldl (fun out f=>sortedIn out f) out).length=out.length+l.length:=by
  intro l
  induction l with
  | nil=>intro out;simp
  | cons f l ih=>intro out;rw[List.foldl_cons,ih,aDn,List.length_cons];omega
 rw[sortF,key];simp
theorem bDc {l:List FV}(hl:l.length<=100)(hf:∀f∈l,FileOk f)(hc:l.Pairwise fun x y=>clashP x.p y.p=false):treeOk (sortF l)=true:=by
 have hp:l.Pairwise fun x y=>x.path≠y.path:=hc.imp fun {x y} h e=>by
  unfold clashP at h
  rw[FV.p_inj.2 e] at h
  simp at h
 obtain ⟨h1,h2⟩:=aHt l hp
 refine aAt.2 ⟨by rw[aMo];exact hl,fun f hf'=>hf f ((h2 f).1 hf'),h1,fun f hf' g hg'=>?_⟩
 have hf1:=(h2 f).1 hf'
 have hg1:=(h2 g).1 hg'
 rcases aWg hc hf1 hg1 with e | e | e
 ·subst e;exact aGz _
 ·simp only[clashP,Bool.or_eq_false_iff] at e;exact e.1.2
 simp only[clashP,Bool.or_eq_false_iff] at e;exact e.2
theorem aFh {a b:List FV}{f g:FV}(h:whereF a b f=some g):g∈b:=by
 unfold whereF at h
 cases h1:findP b f.path with
 | some x=>rw[h1] at h;injection h with h;subst h;exact (aCi h1).1
 | none=>
  rw[h1] at h
  dsimp only at h
  cases h2:movedF a b f.path with
  | none=>rw[h2] at h;cases h
  | some d=>rw[h2] at h;exact (aCi h).1
theorem bDt {l:List CL}:sortC l=[]↔l=[]:=by
 have key:∀(l out:List CL),(l.foldl (fun out c=>out.takeWhile (fun x=>decide (x.path.data.toList<=c.path.data.toList))++c::out.dropWhile (fun x=>decide (x.path.data.toList<=c.path.data.toList))) out).length=out.length+l.length:=by
  intro l
  induction l with
  | nil=>intro out;simp
  | cons c l ih=>
   intro out
   rw[List.foldl_cons,ih,List.length_append,List.length_cons,List.length_cons]
   have:=congrArg List.length (List.takeWhile_append_dropWhile (p:=fun x:CL=>decide (x.path.data.toList<=c.path.data.toList)) (l:=out))
   rw[List.length_append] at this
   omega
 have h:=key l []
 constructor
 ·intro e
  have:(sortC l).length=0:=by rw[e];rfl
  rw[sortC,h] at this
  exact List.eq_nil_of_length_eq_zero (by simpa using this)
 intro e;subst e;rfl
def MV.pl (m:MV):Int×List Int:=(m.old,m.new)
structure FL where
 parent:Int
 msg:ByteArray
 files:List FV
structure SettL where
 commit:Int
 files:List FV
structure MR where
 new:List FL
 marks:List (Int×List Int)
 commit:Int
 files:List FV
 clashes:List CL
def noMR:MR:=⟨[],[],0,[],[]⟩
def parF (l:List FL):List Int:=l.map FL.parent
def filesAt (l:List FL)(i:Int):List FV:=if i<0 then [] else ((l[i.toNat]?).map FL.files).getD []
def msgAt (l:List FL)(i:Int):ByteArray:=((l[i.toNat]?).map FL.msg).getD ⟨#[]⟩
def settledF (s:List SettL)(c:Int):Option SettL:=s.find? fun x=>decide (x.commit=c)
noncomputable def mergedOn (l:List FL) (s:List SettL) (c onto:Int):List FV×List CL×Int:=
 match settledF s c with
 | some x=>(x.files,[],0)
 | none=>treemergeF (filesAt l (par (parF l) c)) (filesAt l onto) (filesAt l c)
noncomputable def oneOn (s:List SettL) (l:List FL) (c onto:Int):Except (MR×Int) (List FL):=
 if (mergedOn l s c onto).2.2≠0 then .error (noMR,(mergedOn l s c onto).2.2)
 else if (mergedOn l s c onto).2.1≠[] then .error (⟨[],[],c,(mergedOn l s c onto).1,(mergedOn l s c onto).2.1⟩,0)
 else if 2000<=l.length then .error (noMR,6)
 else .ok (l++[⟨onto,msgAt l c,(mergedOn l s c onto).1⟩])
def nowF (now:List (Int×Int))(dest p:Int):Int:=(now.lookup p).getD dest
noncomputable def runF' (s:List SettL) (ps:List Int) (dest:Int):List Int->List (Int×Int)->List FL->List (Int×List Int)->Except (MR×Int) (List FL×List (Int×List Int))
 | [],_,l,k=>.ok (l,k)
 | c::cs,now,l,k=>
  match oneOn s l c (nowF now dest (par ps c)) with
  | .error e=>.error e
  | .ok l'=>runF' s ps dest cs ((c,(l.length:Int))::now) l' (k++[(c,[(l.length:Int)])])
noncomputable def allF (s:List SettL) (mvd:List Int) (l:List FL) (source dest:Int):Except (MR×Int) (List FL×List (Int×List Int)):=
 if above (parF l) source dest=true then .error (noMR,23)
 else if par (parF l) source=dest then .error (noMR,14)
 else runF' s (parF l) dest mvd [] l []
noncomputable def rightL (l:List FL) (ms:List MV):Bool:=rightP (parF l) && l.all (fun f=>treeOk f.files) && rightM l.length ms
noncomputable def argsOk (l:List FL) (ms:List MV) (source dest:Int):Bool:=rightL l ms && (decide (0<=source) && decide (source<l.length)) && !obsM ms source && (decide (-1<=dest) && decide (dest<l.length))
def toldF (n:Nat):Except (MR×Int) (List FL×List (Int×List Int))->MR×Int
 | .error e=>e
 | .ok (l,k)=>(⟨l.drop n,k,-1,[],[]⟩,0)
noncomputable def rebaseF (l:List FL) (ms:List MV) (source dest:Int) (s:List SettL):MR×Int:=
 if argsOk l ms source dest=false then (noMR,1)
 else toldF l.length (allF s (moved (parF l) ms source) l source dest)
end Go.Proofs.YtohblmepajhpaaaGreatDoor
namespace Go.Proofs.YtohblmepajhpaaaGreatDoor
open Go.RowKit
def I64 (x:Int):Prop:=-9223372036854775808<=x/\x<=9223372036854775807
structure RdM (w:World) (B:Nat) (A:Option Addr) (n c:Nat) (ms:List MV):Prop where
 row:Rd w B 2 A n c (ms.flatMap MV.cells)
 len:ms.length=n
 parts:∀m∈ms,Rd w B 1 m.A m.new.length m.c (m.new.map (.int .i64))/\m.new.length<=17592186044416/\I64 m.old/\∀x∈m.new,I64 x
theorem cells2 {ms:List MV}{k:Nat}{m:MV}(hk:ms[k]? = some m):(ms.flatMap MV.cells)[k*2]? = some (.int .i64 m.old)/\(ms.flatMap MV.cells)[k*2+1]? = some (.slice m.A m.new.length m.c):=by
 induction ms generalizing k with
 | nil=>simp at hk
 | cons x xs ih=>
  cases k with
  | zero=>simp at hk;subst hk;simp[MV.cells]
  | succ k=>
   simp at hk
   have:=ih hk
   simpa[MV.cells,Nat.succ_mul,show k*2+2+1=(k*2+1)+2 from by omega] using this
theorem RdM.get {w:World}{B n c:Nat}{A:Option Addr}{ms:List MV}(h:RdM w B A n c ms){k:Nat}(hk:k<n) :
  ∃b o u,A=some ⟨b,o,none⟩/\b<B/\ms[k]? = some u/\u∈ms/\w.cell? ⟨b,o+k*2,none⟩=some (.int .i64 u.old)/\
   w.cell? ⟨b,o+k*2+1,none⟩=some (.slice u.A u.new.length u.c):=by
 obtain ⟨b,o,e,hb,hc⟩:=h.row.at_ (by omega)
 have hl:k<ms.length:=by rw[h.len];exact hk
 have hg:ms[k]? = some ms[k]:=List.getElem?_eq_getElem hl
 obtain ⟨h0,h1⟩:=cells2 hg
 exact ⟨b,o,ms[k],e,hb,hg,List.getElem_mem hl,hc _ _ h0,hc _ _ h1⟩
section
variable {w w':World} {B B' n c:Nat} {A:Option Addr} {ms:List MV}
theorem RdM.to (h:RdM w B A n c ms)(hb:Below B w w')(hB:B<=B'):RdM w' B' A n c ms:=
 ⟨h.row.to hb hB,h.len,fun m hm=>⟨(h.parts m hm).1.to hb hB,(h.parts m hm).2⟩⟩
end
def EqI (xs ys:List Int)(k:Nat):Prop:=∀j,j<k->xs[j]? = ys[j]?
theorem Rd.int_ {w:World}{B n c:Nat}{A:Option Addr}{l:List Int}(h:Rd w B 1 A n c (l.map (.int .i64))){k:Nat}(hk:k<n) :
  ∃b o u,A=some ⟨b,o,none⟩/\b<B/\l[k]? = some u/\w.cell? ⟨b,o+k,none⟩=some (.int .i64 u):=by
 obtain ⟨b,o,u,e,hb,hx,hc⟩:=h.one hk
 rw[List.getElem?_map] at hx
 cases hl:l[k]? with
 | none=>rw[hl] at hx;cases hx
 | some s=>rw[hl] at hx;cases hx;exact ⟨b,o,s,e,hb,rfl,hc⟩
theorem bIx {A:Option Addr}{n c:Nat}{l:List Int}{x:Int}{w:World}(hn:n<=maxLen)(h:Rd w w.heap.size 1 A n c (l.map (.int .i64))) :
  Calls Tryz.prog 57 #[.slice A n c,.int .i64 x] w (BoolBelow (decide (x∈l)) w):=by
 unfold maxLen at hn
 have HL:=hid (show l.length=n by have:=h.len;simpa using this)
 go_enter Tryz.func57,Tryz.ntmps57
 go_wp2
 go_loopw[5] (fun i wr=>∃k:Nat,k<=n/\i=.int .i64 k/\Below w.heap.size w wr/\Hid (x∉l.take k)) (fun i _=>n-(intOf i).toNat)
 case atStart=>exact ⟨0,Nat.zero_le _,rfl,Below.refl _ _,by rw[List.take_zero];intro hm;cases hm⟩
 obtain ⟨k,hk,rfl,hb,hj⟩:=hrel
 by_cases hlt:k<n
 ·obtain ⟨b0,o0,u,rfl,hbb,hx,h0⟩:=h.int_ hlt
  replace h0:=(hb.cell hbb).trans h0
  have HX:=hid hx;clear hx
  by_cases he:u=x
  ·subst he
   go_wp2
   go_ret
   exact ⟨aAf (decide_eq_true (List.mem_of_getElem? HX.out)).symm,hb⟩
  obtain ⟨e1,_⟩:=aFf he
  go_wp2
  go_roundw
  case rel=>
   refine ⟨k+1,by omega,by go_num,hb,?_⟩
   intro hm
   rw[List.take_add_one,HX.out] at hm
   rcases List.mem_append.1 hm with hm | hm
   ·exact hj hm
   simp at hm;exact he hm.symm
  simp[intOf];omega
 have hkn:k=n:=by omega
 subst hkn
 go_wp2
 go_ret
 refine ⟨aAf (decide_eq_false ?_).symm,hb⟩
 have:=hj.out
 rwa [List.take_of_length_le (by rw[HL.out];omega)] at this
theorem bFz {A:Option Addr}{n c:Nat}{ms:List MV}{x:Int}{w:World}(hn:n<=maxLen)(h:RdM w w.heap.size A n c ms) :
  Calls Tryz.prog 21 #[.slice A n c,.int .i64 x] w (BoolBelow (obsM ms x) w):=by
 unfold maxLen at hn
 have HL:=hid h.len
 go_enter Tryz.func21,Tryz.ntmps21
 go_wp2
 go_loopw[5] (fun i wr=>∃k:Nat,k<=n/\i=.int .i64 k/\Below w.heap.size w wr/\Hid (obsM (ms.take k) x=false)) (fun i _=>n-(intOf i).toNat)
 case atStart=>exact ⟨0,Nat.zero_le _,rfl,Below.refl _ _,by rw[List.take_zero];rfl⟩
 obtain ⟨k,hk,rfl,hb,hj⟩:=hrel
 by_cases hlt:k<n
 ·obtain ⟨b0,o0,u,rfl,hbb,hx,hu,h0,h1⟩:=h.get hlt
  replace h0:=(hb.cell hbb).trans h0
  clear h1
  have HX:=hid hx;clear hx
  by_cases he:u.old=x
  ·have HU:=hid hu
   clear hu
   rw[he] at h0
   go_wp2
   go_ret
   exact ⟨aAf (bCw.2 ⟨u,HU.out,he⟩).symm,hb⟩
  obtain ⟨e1,_⟩:=aFf he
  go_wp2
  go_roundw
  case rel=>
   refine ⟨k+1,by omega,by go_num,hb,?_⟩
   show obsM (ms.take (k+1)) x=false
   rw[List.take_add_one,HX.out,Option.toList_some,aPd,hj.out,decide_eq_false he];rfl
  simp[intOf];omega
 have hkn:k=n:=by omega
 subst hkn
 go_wp2
 go_ret
 refine ⟨aAf ?_,hb⟩
 have:=hj.out
 rw[List.take_of_length_le (by rw[HL.out];omega)] at this
 exact this.symm
theorem aUn (o:Int)(v:Value)(x:Int)(g:Nat)(w:World)(hg:w.cell? ⟨g,0,none⟩=some (.int .i64 x))(hgl:g<w.heap.size) :
  Calls Tryz.prog 78 #[.agg #[.int .i64 o,v],.pointer (some ⟨g,0,none⟩)] w (BoolBelow (decide (o=x)) w):=by
 have h1:(w.alloc (.cells #[.int .i64 o,v] 43)).cell? ⟨g,0,none⟩=some (.int .i64 x):=by rw[((Below.refl w.heap.size w).alloc (Nat.le_refl _) _).cell (p:=⟨g,0,none⟩) hgl];exact hg
 have hbd:Below w.heap.size w (w.alloc (.cells #[.int .i64 o,v] 43)):=(Below.refl _ _).alloc (Nat.le_refl _) _
 go_enter Tryz.func78,Tryz.ntmps78
 go_wp2
 go_ret
 refine ⟨aAf ?_,hbd⟩
 by_cases h:o=x<;>simp[h]
theorem aZo {A:Option Addr}{n c:Nat}{ms:List MV}{x:Int}{g:Nat}{w:World}(hn:n<=maxLen)(h:RdM w w.heap.size A n c ms)(hg:w.cell? ⟨g,0,none⟩=some (.int .i64 x))(hgl:g<w.heap.size) :
  Calls Tryz.prog 108 #[.slice A n c,.func (.func 78) #[] #[.pointer (some ⟨g,0,none⟩)]] w fun e w'=>∃r:Int,e=.returned (.int .i64 r)/\decide (0<=r)=obsM ms x/\Below w.heap.size w w':=by
 unfold maxLen at hn
 have HL:=hid h.len
 go_enter Tryz.func108,Tryz.ntmps108
 go_wp2
 go_loopw[5,8] (fun _ i wr=>∃k:Nat,k<=n/\i=.int .i64 k/\Below w.heap.size w wr/\Hid (obsM (ms.take k) x=false)) (fun _ i _=>n-(intOf i).toNat)
 case atStart=>exact ⟨0,Nat.zero_le _,rfl,Below.refl _ _,by rw[List.take_zero];rfl⟩
 obtain ⟨k,hk,rfl,hb,hj⟩:=hrel
 by_cases hlt:k<n
 ·obtain ⟨b0,o0,u,rfl,hbb,hx,hu,h0,h1⟩:=h.get hlt
  replace h0:=(hb.cell hbb).trans h0
  replace h1:=(hb.cell hbb).trans h1
  have HX:=hid hx;clear hx
  have hcall:=aUn u.old (.slice u.A u.new.length u.c) x g wr ((hb.cell (p:=⟨g,0,none⟩) hgl).trans hg) (Nat.lt_of_lt_of_le hgl hb.size)
  cases hq:decide (u.old=x) with
  | true=>
   rw[hq] at hcall
   go_wp2_with (go_at_call 78;refine hcall.mono ?_;rintro e w' ⟨rfl,hb'⟩)
   go_ret
   refine ⟨_,rfl,?_,hb.trans (hb'.mono hb.size)⟩
   rw[bCw.2 ⟨u,hu,of_decide_eq_true hq⟩,decide_eq_true (by omega)]
  | false=>
   rw[hq] at hcall
   go_wp2_with (go_at_call 78;refine hcall.mono ?_;rintro e w' ⟨rfl,hb'⟩)
   go_roundw
   case rel=>
    refine ⟨k+1,by omega,by go_num,hb.trans (hb'.mono hb.size),?_⟩
    show obsM (ms.take (k+1)) x=false
    rw[List.take_add_one,HX.out,Option.toList_some,aPd,hj.out,hq];rfl
   simp[intOf];omega
 have hkn:k=n:=by omega
 subst hkn
 go_wp2
 go_ret
 refine ⟨_,rfl,?_,hb⟩
 have:=hj.out
 rw[List.take_of_length_le (by rw[HL.out];omega)] at this
 rw[this];decide
theorem aTx {A:Option Addr}{n c:Nat}{ms:List MV}{x:Int}{g:Nat}{w:World}(hn:n<=maxLen)(h:RdM w w.heap.size A n c ms)(hg:w.cell? ⟨g,0,none⟩=some (.int .i64 x))(hgl:g<w.heap.size) :
  Calls Tryz.prog 77 #[.slice A n c,.func (.func 78) #[] #[.pointer (some ⟨g,0,none⟩)]] w (BoolBelow (obsM ms x) w):=by
 go_enter Tryz.func77,Tryz.ntmps77
 go_wp2_with (go_at_call 108;refine (aZo hn h hg hgl).mono ?_;rintro e w' ⟨r,rfl,hr,hb'⟩)
 go_ret
 exact ⟨aAf (by rw[<-hr]),hb'⟩
theorem aSr {A:Option Addr}{n c:Nat}{ms:List MV}{x:Int}{w:World}(hn:n<=maxLen)(h:RdM w w.heap.size A n c ms) :
  Calls Tryz.prog 36 #[.slice A n c,.int .i64 x] w (BoolBelow (obsM ms x) w):=by
 have hb:Below w.heap.size w (w.alloc (.cells #[.int .i64 x] 3)):=(Below.refl _ _).alloc (Nat.le_refl _) _
 have h1:=h.to hb hb.size
 have hg:(w.alloc (.cells #[.int .i64 x] 3)).cell? ⟨w.heap.size,0,none⟩=some (.int .i64 x):=(cell_of_row _ _ _ _ _ _ (heap_alloc_new _ _)).trans rfl
 have hgl:w.heap.size<(w.alloc (.cells #[.int .i64 x] 3)).heap.size:=by simp
 go_enter Tryz.func36,Tryz.ntmps36
 go_wp2_with (go_at_call 77;refine (aTx hn h1 hg hgl).mono ?_;rintro e w' ⟨rfl,hb'⟩)
 go_ret
 exact ⟨rfl,hb.trans (hb'.mono hb.size)⟩
def badI (o n x:Int):Bool:=decide (x<=o) || decide (n<=x)
theorem aPk (o n x:Int)(g k:Nat)(w:World)(hg:w.cell? ⟨g,0,none⟩=some (.int .i64 o))(hk:w.cell? ⟨k,0,none⟩=some (.int .i64 n)) :
  Calls Tryz.prog 107 #[.int .i64 x,.pointer (some ⟨g,0,none⟩),.pointer (some ⟨k,0,none⟩)] w fun e w'=>e=.returned (.bool (badI o n x))/\w'=w:=by
 go_enter Tryz.func107,Tryz.ntmps107
 go_wp2
 all_goals (go_ret;refine ⟨aAf ?_,rfl⟩;simp_all [badI])
theorem aRd {A:Option Addr}{m c:Nat}{l:List Int}{o n:Int}{g k:Nat}{w:World}(hn:m<=maxLen)(h:Rd w w.heap.size 1 A m c (l.map (.int .i64)))(hg:w.cell? ⟨g,0,none⟩=some (.int .i64 o))(hk:w.cell? ⟨k,0,none⟩=some (.int .i64 n))
  (hgl:g<w.heap.size) (hkl:k<w.heap.size) :
  Calls Tryz.prog 128 #[.slice A m c,.func (.func 107) #[] #[.pointer (some ⟨g,0,none⟩),.pointer (some ⟨k,0,none⟩)]] w fun e w'=>∃r:Int,e=.returned (.int .i64 r)/\decide (0<=r)=l.any (badI o n)/\Below w.heap.size w w':=by
 unfold maxLen at hn
 have HL:=hid (show l.length=m by have:=h.len;simpa using this)
 go_enter Tryz.func128,Tryz.ntmps128
 go_wp2
 go_loopw[5,8] (fun _ i wr=>∃k:Nat,k<=m/\i=.int .i64 k/\Below w.heap.size w wr/\Hid ((l.take k).any (badI o n)=false)) (fun _ i _=>m-(intOf i).toNat)
 case atStart=>exact ⟨0,Nat.zero_le _,rfl,Below.refl _ _,by rw[List.take_zero];rfl⟩
 obtain ⟨j,hj',rfl,hb,hj⟩:=hrel
 by_cases hlt:j<m
 ·obtain ⟨b0,o0,u,rfl,hbb,hx,h0⟩:=h.int_ hlt
  replace h0:=(hb.cell hbb).trans h0
  have HX:=hid hx;clear hx
  have hcall:=aPk o n u g k wr ((hb.cell (p:=⟨g,0,none⟩) hgl).trans hg) ((hb.cell (p:=⟨k,0,none⟩) hkl).trans hk)
  cases hq:badI o n u with
  | true=>
   rw[hq] at hcall
   go_wp2_with (go_at_call 107;refine hcall.mono ?_;rintro e w' ⟨rfl,rfl⟩)
   go_ret
   refine ⟨_,rfl,?_,hb⟩
   rw[List.any_eq_true.2 ⟨u,List.mem_of_getElem? HX.out,hq⟩,decide_eq_true (by omega)]
  | false=>
   rw[hq] at hcall
   go_wp2_with (go_at_call 107;refine hcall.mono ?_;rintro e w' ⟨rfl,rfl⟩)
   go_roundw
   case rel=>
    refine ⟨j+1,by omega,by go_num,hb,?_⟩
    show (l.take (j+1)).any (badI o n)=false
    rw[List.take_add_one,HX.out,Option.toList_some,List.any_append,hj.out];simp[hq]
   simp[intOf];omega
 have hkn:j=m:=by omega
 subst hkn
 go_wp2
 go_ret
 refine ⟨_,rfl,?_,hb⟩
 have:=hj.out
 rw[List.take_of_length_le (by rw[HL.out];omega)] at this
 rw[this];decide
theorem aQi {A:Option Addr}{m c:Nat}{l:List Int}{o n:Int}{g k:Nat}{w:World}(hn:m<=maxLen)(h:Rd w w.heap.size 1 A m c (l.map (.int .i64)))(hg:w.cell? ⟨g,0,none⟩=some (.int .i64 o))(hk:w.cell? ⟨k,0,none⟩=some (.int .i64 n))
  (hgl:g<w.heap.size) (hkl:k<w.heap.size) :
  Calls Tryz.prog 106 #[.slice A m c,.func (.func 107) #[] #[.pointer (some ⟨g,0,none⟩),.pointer (some ⟨k,0,none⟩)]] w (BoolBelow (l.any (badI o n)) w):=by
 go_enter Tryz.func106,Tryz.ntmps106
 go_wp2_with (go_at_call 128;refine (aRd hn h hg hk hgl hkl).mono ?_;rintro e w' ⟨r,rfl,hr,hb'⟩)
 go_ret
 exact ⟨aAf (by rw[<-hr]),hb'⟩
theorem aMt (n:Int)(m:MV):okM n m=!(decide (m.old<0) || decide (n<=m.old) || decide (2000<(m.new.length:Int)) || m.new.any (badI m.old n)):=by
 have e:m.new.any (badI m.old n)=!(m.new.all fun x=>decide (m.old<x) && decide (x<n)):=by
  rw[List.all_eq_not_any_not,Bool.not_not]
  congr 1;funext x
  simp only[badI,Bool.not_and]
  congr 1
  ·by_cases h:x<=m.old<;>simp[h]<;>omega
  by_cases h:n<=x<;>simp[h]<;>omega
 rw[e]
 simp only[okM,Bool.not_or,Bool.not_not]
 congr 1
 congr 1
 ·congr 1
  ·by_cases h:m.old<0<;>simp[h]<;>omega
  by_cases h:n<=m.old<;>simp[h]<;>omega
 by_cases h:m.new.length<=2000<;>simp[h]<;>omega
end Go.Proofs.YtohblmepajhpaaaGreatDoor
