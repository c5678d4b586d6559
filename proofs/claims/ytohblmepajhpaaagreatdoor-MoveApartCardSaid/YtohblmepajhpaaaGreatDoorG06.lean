/- Texts of the walks, together: Plain laws: how long a merged text may be. Plain laws: what three small trees come to is a tree. Commits that move, plainly: what move.Rebase computes, as functions of lists. How markers lie in memory; walks: numbers compared, one among some, few; the document's Obsolete and Markers. Walks: marker.Obsolete, marker.Right, and what of slices they call. Walks: marker.Right, the document's Markers. Contracts of the library at this seat, laid by the shelf, in plain words. Plain laws: what two lists have in common is the longest that both have; with the same end. Walks: diff.begin, diff.end: how many lines two lists begin, end with alike. -/
import Derived.Shelf.Strings.OnBuilder
import Derived.Shelf.Strings.BuilderK
import Derived.Shelf.Slices.Equal
import Derived.Shelf.Slices.Empties2
import Derived.Shelf.Slices.Clone
import Derived.Shelf.Small.Wraps
import Derived.Test.YtohblmepajhpaaaGreatDoorRows
import Derived.Test.YtohblmepajhpaaaGreatDoorG01
import Derived.Test.YtohblmepajhpaaaGreatDoorG05
set_option maxHeartbeats 4000000
set_option maxRecDepth 100000
open Go.Lib (hid)
namespace Go.Proofs.YtohblmepajhpaaaGreatDoor
theorem aJs:∀(l:List ByteArray) (r:List DV) (j:Nat),placesF (evs 1 l++r) j=(List.range' j l.length).map some++placesF r (j+l.length)
 | [],r,j=>by simp[evs]
 | x::l,r,j=>by
  show placesF (⟨1,x⟩::(evs 1 l++r)) j=_
  rw[placesF,if_pos rfl,aJs l r (j+1),List.length_cons,List.range'_succ,List.map_cons,List.cons_append,show j+1+l.length=j+(l.length+1) by omega]
theorem aEg:∀(a b:List ByteArray) (j i x:Nat),(placesF (evs 2 a++evs 3 b) j)[i]?≠some (some x)
 | [],[],j,i,x=>by simp[evs,placesF]
 | [],y::b,j,i,x=>by
  show (placesF (⟨3,y⟩::(evs 2 []++evs 3 b)) j)[i]?≠_
  rw[placesF,if_neg (show ¬(3:Int)=1 by decide),if_neg (show ¬(3:Int)=2 by decide)]
  exact aEg [] b (j+1) i x
 | z::a,b,j,i,x=>by
  show (placesF (⟨2,z⟩::(evs 2 a++evs 3 b)) j)[i]?≠_
  rw[placesF,if_neg (show ¬(2:Int)=1 by decide),if_pos rfl]
  cases i with
  | zero=>simp
  | succ i=>rw[List.getElem?_cons_succ];exact aEg a b j i x
theorem aPc (a b:List ByteArray):pfx a b<=a.length/\pfx a b<=b.length:=by
 have:∀(a b:List ByteArray),pfx a b<=a.length/\pfx a b<=b.length:=by
  intro a
  induction a with
  | nil=>intro b;simp[pfx]
  | cons x a ih=>
   intro b
   cases b with
   | nil=>simp[pfx]
   | cons y b=>
    rw[pfx]
    have:=ih b
    split<;>simp only[List.length_cons]<;>omega
 exact this a b
structure Ahead (base side:List ByteArray) (ps:List (Option Nat)) (P:Nat):Prop where
 leB:P<=base.length
 leS:P<=side.length
 same:side.take P=base.take P
 low:∀(i x:Nat),ps[i]? = some (some x)->i<P->x=i
 high:∀(i x:Nat),ps[i]? = some (some x)->P<=i->P<=x/\base.length<=P+400/\side.length<=P+400
theorem aJt (base side:List ByteArray):Ahead base side (placeF base side) (pfx base side):=by
 obtain ⟨l1,l2⟩:=aPc base side
 have hs:placeF base side=(List.range' 0 (pfx base side)).map some++placesF (rest (base.drop (pfx base side)) (side.drop (pfx base side))) (pfx base side):=by
  rw[placeF,script,aJs,List.length_take,Nat.min_eq_left l1,Nat.zero_add]
 have hlen:((List.range' 0 (pfx base side)).map (some:Nat->Option Nat)).length=pfx base side:=by rw[List.length_map,List.length_range']
 refine ⟨l1,l2,(aDv base side).symm,fun i x h hi=>?_,fun i x h hi=>?_⟩
 ·rw[hs,List.getElem?_append_left (by rw[hlen];exact hi)] at h
  exact bCb h
 rw[hs,List.getElem?_append_right (by rw[hlen];exact hi),hlen] at h
 unfold rest at h
 split at h
 ·exact absurd h (aEg _ _ _ _ _)
 rename_i hb
 rw[List.length_drop,List.length_drop] at hb
 have hk:kinds (scrT (base.drop (pfx base side)) (side.drop (pfx base side))):=(aDf _ _).2.2
 exact ⟨(aFm _ _ hk _ _ h).1,by omega,by omega⟩
def clashN (l:List KV):Nat:=(l.filter fun c=>decide (c.kind=5)).length
theorem aHp (l m:List KV):clashN (l++m)=clashN l+clashN m:=by simp[clashN]
theorem aCt (b o t:List ByteArray):clashN (betweenF b o t)<=1/\(o=b->clashN (betweenF b o t)=0)/\(t=b->clashN (betweenF b o t)=0)/\(0<clashN (betweenF b o t)->2<=b.length+o.length+t.length):=by
 unfold betweenF
 split
 ·simp[clashN]
 rename_i h0
 unfold kindF
 by_cases e1:o=b
 ·rw[if_pos e1];simp[clashN]
 rw[if_neg e1]
 by_cases e2:t=b
 ·rw[if_pos e2];simp[clashN]
 rw[if_neg e2]
 by_cases e3:o=t
 ·rw[if_pos e3];simp[clashN]
 rw[if_neg e3]
 have hc:clashN [(⟨5,b,o,t⟩:KV)]=1:=rfl
 rw[hc]
 refine ⟨Nat.le_refl _,fun e=>absurd e e1,fun e=>absurd e e2,fun _=>?_⟩
 -- two of the three are not empty
 cases b with
 | nil=>
  cases o with
  | nil=>exact absurd rfl e1
  | cons x o=>
   cases t with
   | nil=>exact absurd rfl e2
   | cons y t=>simp only[List.length_cons];omega
 | cons z b=>
  cases o with
  | nil=>
   cases t with
   | nil=>exact absurd rfl e3
   | cons y t=>simp only[List.length_cons];omega
  | cons x o=>simp only[List.length_cons];omega
theorem aHn {l:List ByteArray}{i k:Nat}(hk:k<=l.length):(sliceF l i k).length=k-i:=by
 rw[sliceF,List.length_drop,List.length_take,Nat.min_eq_left hk]
theorem Pieces.few {base ours theirs:List ByteArray}{zs:List (Option Nat×Option Nat)}{b o t:Nat}{l:List KV}(h:Pieces base ours theirs zs b o t l) :
  5*clashN l<=(base.length-b)+(ours.length-o)+(theirs.length-t)+3:=by
 induction h with
 | @last b o t hb ho ht=>
  obtain ⟨h1,_,_,h2⟩:=aCt (base.drop b) (ours.drop o) (theirs.drop t)
  rw[List.length_drop,List.length_drop,List.length_drop] at h2
  by_cases h3:0<clashN (betweenF (base.drop b) (ours.drop o) (theirs.drop t))
  ·have:=h2 h3;omega
  omega
 | @more b o t i x y n l hz hn hb ho ht hi hx hy he hf h ih=>
  obtain ⟨h1,_,_,h2⟩:=aCt (sliceF base b i) (sliceF ours o x) (sliceF theirs t y)
  rw[aHn (by omega),aHn (by omega),aHn (by omega)] at h2
  have h4:clashN (⟨1,sliceF base i (i+n),sliceF base i (i+n),sliceF base i (i+n)⟩::l)=clashN l:=rfl
  rw[aHp,h4]
  by_cases h3:0<clashN (betweenF (sliceF base b i) (sliceF ours o x) (sliceF theirs t y))
  ·have:=h2 h3;omega
  omega
theorem aMw {base side:List ByteArray}{P b i:Nat}(h:side.take P=base.take P)(hi:i<=P):sliceF side b i=sliceF base b i:=by
 unfold sliceF
 have:=congrArg (fun l=>(l.take i).drop b) h
 simpa[List.take_take,Nat.min_eq_left hi] using this
theorem Pieces.bound {base ours theirs:List ByteArray}{xs ys:List (Option Nat)}{P Q:Nat}(A:Ahead base ours xs P)(B:Ahead base theirs ys Q){b o t:Nat}{l:List KV}
  (h:Pieces base ours theirs (xs.zip ys) b o t l) (h1:b<P->o=b) (h2:b<Q->t=b):clashN l<=241:=by
 induction h with
 | @last b o t hb ho ht=>
  have:=(aCt (base.drop b) (ours.drop o) (theirs.drop t)).1
  omega
 | @more b o t i x y n l hz hn hb ho ht hi hx hy he hf h ih=>
  obtain ⟨c1,c2,c3,_⟩:=aCt (sliceF base b i) (sliceF ours o x) (sliceF theirs t y)
  have h4:clashN (⟨1,sliceF base i (i+n),sliceF base i (i+n),sliceF base i (i+n)⟩::l)=clashN l:=rfl
  rw[aHp,h4]
  obtain ⟨zx,zy⟩:=aQn (by simpa using hz 0 hn:(xs.zip ys)[i]? = some (some x,some y))
  obtain ⟨wx,wy⟩:=aQn (by have:=hz (n-1) (by omega);exact this:(xs.zip ys)[i+(n-1)]? = some (some (x+(n-1)),some (y+(n-1))))
  have n1:i+n<P->x+n=i+n:=fun e=>by have:=A.low _ _ wx (by omega);omega
  have n2:i+n<Q->y+n=i+n:=fun e=>by have:=B.low _ _ wy (by omega);omega
  by_cases hP:i<P
  ·have hx0:=A.low _ _ zx hP
   have ho0:=h1 (by omega)
   have:clashN (betweenF (sliceF base b i) (sliceF ours o x) (sliceF theirs t y))=0:=c2 (by rw[hx0,ho0];exact aMw A.same (by omega))
   rw[this,Nat.zero_add]
   exact ih n1 n2
  by_cases hQ:i<Q
  ·have hy0:=B.low _ _ zy hQ
   have ht0:=h2 (by omega)
   have:clashN (betweenF (sliceF base b i) (sliceF ours o x) (sliceF theirs t y))=0:=c3 (by rw[hy0,ht0];exact aMw B.same (by omega))
   rw[this,Nat.zero_add]
   exact ih n1 n2
  obtain ⟨u1,u2,u3⟩:=A.high _ _ zx (by omega)
  obtain ⟨v1,v2,v3⟩:=B.high _ _ zy (by omega)
  have:=h.few
  omega
theorem aIm (base ours theirs:List ByteArray):clashN (chunksF base ours theirs)<=241:=
 (aHj base ours theirs).bound (aJt base ours) (aJt base theirs) (fun _=>rfl) (fun _=>rfl)
def bytesF (l:List ByteArray):Nat:=(catF l).length
theorem aCs (l m:List ByteArray):catF (l++m)=catF l++catF m:=by simp[catF]
theorem aEv (s:Bs):(endedF s).length<=s.length+1:=by
 unfold endedF
 split
 ·omega
 simp
theorem aNw (out:Bs)(c:KV):(clashTextF out c).length<=out.length+(bytesF c.base+bytesF c.ours+bytesF c.theirs)+if c.kind=5 then 53 else 0:=by
 unfold clashTextF
 by_cases h:c.kind=5
 ·rw[if_neg (by simp[h]),if_pos h]
  have e1:=aEv out
  have e2:=aEv (endedF out++markO++catF c.ours)
  have e3:=aEv (endedF (endedF out++markO++catF c.ours)++markB++catF c.base)
  have e4:=aEv (endedF (endedF (endedF out++markO++catF c.ours)++markB++catF c.base)++markT++catF c.theirs)
  simp only[List.length_append] at e2 e3 e4 ⊢
  have m1:markO.length=13:=rfl
  have m2:markB.length=13:=rfl
  have m3:markT.length=8:=rfl
  have m4:markE.length=15:=rfl
  unfold bytesF
  omega
 rw[if_pos h,if_neg h,List.length_append]
 have:(catF (mergedF [c])).length<=bytesF c.ours+bytesF c.theirs:=by
  unfold mergedF
  rw[List.flatMap_cons,List.flatMap_nil,List.append_nil]
  unfold bytesF
  split<;>omega
 omega
theorem aOc:∀(l:List KV) (out:Bs),(l.foldl clashTextF out).length<=out.length+(bytesF (l.flatMap KV.base)+bytesF (l.flatMap KV.ours)+bytesF (l.flatMap KV.theirs))+53*clashN l
 | [],out=>by rw[List.foldl_nil];omega
 | c::l,out=>by
  rw[List.foldl_cons]
  have h1:=aOc l (clashTextF out c)
  have h2:=aNw out c
  have h3:clashN (c::l)=(if c.kind=5 then 1 else 0)+clashN l:=by
   unfold clashN
   rw[List.filter_cons]
   by_cases h:c.kind=5
   ·rw[if_pos (decide_eq_true h),if_pos h,List.length_cons];omega
   rw[if_neg (by simp[h]),if_neg h];omega
  have h4:∀(f:KV->List ByteArray),bytesF ((c::l).flatMap f)=bytesF (f c)+bytesF (l.flatMap f):=fun f=>by
   unfold bytesF;rw[List.flatMap_cons,aCs,List.length_append]
  rw[h4,h4,h4,h3]
  split at h2
  ·rename_i h;rw[if_pos h];omega
  rename_i h;rw[if_neg h];omega
theorem aCn (s:ByteArray):catF (linesF s)=s.data.toList:=by
 have h:=aVr s
 have:(joinF (linesF s)).data.toList=s.data.toList:=by rw[h]
 rw[<-this]
 simp[joinF,ofB,catF]
theorem aOi (l:Bs):(ofB l).size=l.length:=by show l.toArray.size=_;simp
theorem aCm (s:ByteArray):s.data.toList.length=s.size:=rfl
theorem aNa (b o t:ByteArray):(merge3F b o t).1.size<=b.size+o.size+t.size+12773:=by
 obtain ⟨s1,s2,s3⟩:=aIw (linesF b) (linesF o) (linesF t)
 have hb:=aIm (linesF b) (linesF o) (linesF t)
 rw[merge3F]
 split
 ·show (joinF (mergedF _)).size<=_
  have h:∀l:List KV,(catF (mergedF l)).length<=bytesF (l.flatMap KV.ours)+bytesF (l.flatMap KV.theirs):=by
   intro l
   induction l with
   | nil=>simp[mergedF,catF]
   | cons c l ih=>
    unfold mergedF at ih ⊢
    have h4:∀(f:KV->List ByteArray),bytesF ((c::l).flatMap f)=bytesF (f c)+bytesF (l.flatMap f):=fun f=>by
     unfold bytesF;rw[List.flatMap_cons,aCs,List.length_append]
    rw[List.flatMap_cons,aCs,List.length_append,h4,h4]
    unfold bytesF at ih ⊢
    split<;>omega
  have h1:=h (chunksF (linesF b) (linesF o) (linesF t))
  rw[s2,s3] at h1
  unfold bytesF at h1
  rw[aCn,aCn,aCm,aCm] at h1
  have h2:(joinF (mergedF (chunksF (linesF b) (linesF o) (linesF t)))).size=(catF (mergedF (chunksF (linesF b) (linesF o) (linesF t)))).length:=by
   exact aOi _
  omega
 show (ofB _).size<=_
 have h1:=aOc (chunksF (linesF b) (linesF o) (linesF t)) []
 rw[s1,s2,s3] at h1
 unfold bytesF at h1
 rw[aCn,aCn,aCn,aCm,aCm,aCm,List.length_nil] at h1
 have h2:(ofB ((chunksF (linesF b) (linesF o) (linesF t)).foldl clashTextF [])).size=((chunksF (linesF b) (linesF o) (linesF t)).foldl clashTextF []).length:=by
  exact aOi _
 omega
structure Small (l:List FV):Prop where
 tree:treeOk l=true
 len:l.length<=30
 text:∀f∈l,f.text.size<=2000
theorem aJv:∀(l:List (FV×Int)) (m:List FV×List CL),(m.1.Pairwise fun x y=>clashP x.p y.p=false)->
  ((l.foldl putX m).1.Pairwise fun x y=>clashP x.p y.p=false)/\(∀x∈(l.foldl putX m).1,x∈m.1\/∃p∈l,p.1=x)/\(l.foldl putX m).1.length<=m.1.length+l.length
 | [],m,h=>⟨h,fun x hx=>.inl hx,by simp⟩
 | p::l,m,h=>by
  rw[List.foldl_cons]
  by_cases h1:(m.1.any fun x=>clashP x.p p.1.p)=true
  ·have h2:(putX m p).1=m.1:=by unfold putX putM;rw[if_pos h1]
   obtain ⟨a,b,c⟩:=aJv l (putX m p) (by rw[h2];exact h)
   rw[h2] at b c
   refine ⟨a,fun x hx=>?_,by rw[List.length_cons];omega⟩
   rcases b x hx with h3 | ⟨q,hq,e⟩
   ·exact .inl h3
   exact .inr ⟨q,List.mem_cons_of_mem _ hq,e⟩
  have h2:(putX m p).1=m.1++[p.1]:=by unfold putX putM;rw[if_neg h1]
  have h5:∀x∈m.1,clashP x.p p.1.p=false:=fun x hx=>by
   cases e:clashP x.p p.1.p with
   | false=>rfl
   | true=>exact absurd (List.any_eq_true.2 ⟨x,hx,e⟩) h1
  obtain ⟨a,b,c⟩:=aJv l (putX m p) (by
   rw[h2]
   refine List.pairwise_append.2 ⟨h,List.pairwise_singleton _ _,fun x hx y hy=>?_⟩
   simp only[List.mem_singleton] at hy
   subst hy;exact h5 x hx)
  rw[h2] at b c
  refine ⟨a,fun x hx=>?_,by rw[List.length_append,List.length_singleton] at c;rw[List.length_cons];omega⟩
  rcases b x hx with h3 | ⟨q,hq,e⟩
  ·rcases List.mem_append.1 h3 with h3 | h3
   ·exact .inl h3
   simp only[List.mem_singleton] at h3
   exact .inr ⟨p,by simp,h3.symm⟩
  exact .inr ⟨q,List.mem_cons_of_mem _ hq,e⟩
theorem aKz (l:List FV):(sortF l).length=l.length:=by
 have key:∀(l out:List FV),(l.foldl (fun out f=>sortedIn out f) out).length=out.length+l.length:=by
  intro l
  induction l with
  | nil=>intro out;simp
  | cons f l ih=>intro out;rw[List.foldl_cons,ih,aEh,List.length_cons];omega
 rw[sortF,key];simp
theorem bEb {l:List FV}(hl:l.length<=100)(hf:∀f∈l,FileOk f)(hc:l.Pairwise fun x y=>clashP x.p y.p=false):treeOk (sortF l)=true:=by
 have hp:l.Pairwise fun x y=>x.path≠y.path:=hc.imp fun {x y} h e=>by
  unfold clashP at h
  rw[FV.p_inj.2 e] at h
  simp at h
 obtain ⟨h1,h2⟩:=aNv l hp
 refine aAx.2 ⟨by rw[aKz];exact hl,fun f hf'=>hf f ((h2 f).1 hf'),h1,fun f hf' g hg'=>?_⟩
 have hf1:=(h2 f).1 hf'
 have hg1:=(h2 g).1 hg'
 rcases aTm hc hf1 hg1 with e | e | e
 ·subst e;exact aLh _
 ·simp only[clashP,Bool.or_eq_false_iff] at e;exact e.1.2
 simp only[clashP,Bool.or_eq_false_iff] at e;exact e.2
theorem aYc {a b:List FV}{f g:FV}(h:whereF a b f=some g):g∈b:=by
 unfold whereF at h
 cases h1:findP b f.path with
 | some x=>rw[h1] at h;injection h with h;subst h;exact (aEz h1).1
 | none=>
  rw[h1] at h
  dsimp only at h
  cases h2:movedF a b f.path with
  | none=>rw[h2] at h;cases h
  | some d=>rw[h2] at h;exact (aEz h).1
structure FL where
 parent:Int
 msg:ByteArray
 files:List FV
structure SettL where
 commit:Int
 files:List FV
structure MR where
 new:List FL
 marks:List (Int×List Int)
 commit:Int
 files:List FV
 clashes:List CL
def noMR:MR:=⟨[],[],0,[],[]⟩
def parF (l:List FL):List Int:=l.map FL.parent
def filesAt (l:List FL)(i:Int):List FV:=if i<0 then [] else ((l[i.toNat]?).map FL.files).getD []
def msgAt (l:List FL)(i:Int):ByteArray:=((l[i.toNat]?).map FL.msg).getD ⟨#[]⟩
def settledF (s:List SettL)(c:Int):Option SettL:=s.find? fun x=>decide (x.commit=c)
noncomputable def mergedOn (l:List FL) (s:List SettL) (c onto:Int):List FV×List CL×Int:=
 match settledF s c with
 | some x=>(x.files,[],0)
 | none=>treemergeF (filesAt l (par (parF l) c)) (filesAt l onto) (filesAt l c)
noncomputable def oneOn (s:List SettL) (l:List FL) (c onto:Int):Except (MR×Int) (List FL):=
 if (mergedOn l s c onto).2.2≠0 then .error (noMR,(mergedOn l s c onto).2.2)
 else if (mergedOn l s c onto).2.1≠[] then .error (⟨[],[],c,(mergedOn l s c onto).1,(mergedOn l s c onto).2.1⟩,0)
 else if 2000<=l.length then .error (noMR,6)
 else .ok (l++[⟨onto,msgAt l c,(mergedOn l s c onto).1⟩])
def nowF (now:List (Int×Int))(dest p:Int):Int:=(now.lookup p).getD dest
noncomputable def runF' (s:List SettL) (ps:List Int) (dest:Int):List Int->List (Int×Int)->List FL->List (Int×List Int)->Except (MR×Int) (List FL×List (Int×List Int))
 | [],_,l,k=>.ok (l,k)
 | c::cs,now,l,k=>
  match oneOn s l c (nowF now dest (par ps c)) with
  | .error e=>.error e
  | .ok l'=>runF' s ps dest cs ((c,(l.length:Int))::now) l' (k++[(c,[(l.length:Int)])])
noncomputable def allF (s:List SettL) (mvd:List Int) (l:List FL) (source dest:Int):Except (MR×Int) (List FL×List (Int×List Int)):=
 if above (parF l) source dest=true then .error (noMR,23)
 else if par (parF l) source=dest then .error (noMR,14)
 else runF' s (parF l) dest mvd [] l []
noncomputable def rightL (l:List FL) (ms:List MV):Bool:=rightP (parF l) && l.all (fun f=>treeOk f.files) && rightM l.length ms
noncomputable def argsOk (l:List FL) (ms:List MV) (source dest:Int):Bool:=rightL l ms && (decide (0<=source) && decide (source<l.length)) && !obsM ms source && (decide (-1<=dest) && decide (dest<l.length))
def toldF (n:Nat):Except (MR×Int) (List FL×List (Int×List Int))->MR×Int
 | .error e=>e
 | .ok (l,k)=>(⟨l.drop n,k,-1,[],[]⟩,0)
noncomputable def rebaseF (l:List FL) (ms:List MV) (source dest:Int) (s:List SettL):MR×Int:=
 if argsOk l ms source dest=false then (noMR,1)
 else toldF l.length (allF s (moved (parF l) ms source) l source dest)
end Go.Proofs.YtohblmepajhpaaaGreatDoor
namespace Go.Proofs.YtohblmepajhpaaaGreatDoor
open Go.RowKit
def I64 (x:Int):Prop:=-9223372036854775808<=x/\x<=9223372036854775807
structure RdM (w:World) (B:Nat) (A:Option Addr) (n c:Nat) (ms:List MV):Prop where
 row:Rd w B 2 A n c (ms.flatMap MV.cells)
 len:ms.length=n
 parts:∀m∈ms,Rd w B 1 m.A m.new.length m.c (m.new.map (.int .i64))/\m.new.length<=17592186044416/\I64 m.old/\∀x∈m.new,I64 x
theorem cells2 {ms:List MV}{k:Nat}{m:MV}(hk:ms[k]? = some m):(ms.flatMap MV.cells)[k*2]? = some (.int .i64 m.old)/\(ms.flatMap MV.cells)[k*2+1]? = some (.slice m.A m.new.length m.c):=by
 induction ms generalizing k with
 | nil=>simp at hk
 | cons x xs ih=>
  cases k with
  | zero=>simp at hk;subst hk;simp[MV.cells]
  | succ k=>
   simp at hk
   have:=ih hk
   simpa[MV.cells,Nat.succ_mul,show k*2+2+1=(k*2+1)+2 from by omega] using this
theorem RdM.get {w:World}{B n c:Nat}{A:Option Addr}{ms:List MV}(h:RdM w B A n c ms){k:Nat}(hk:k<n) :
  ∃b o u,A=some ⟨b,o,none⟩/\b<B/\ms[k]? = some u/\u∈ms/\w.cell? ⟨b,o+k*2,none⟩=some (.int .i64 u.old)/\
   w.cell? ⟨b,o+k*2+1,none⟩=some (.slice u.A u.new.length u.c):=by
 obtain ⟨b,o,e,hb,hc⟩:=h.row.at_ (by omega)
 have hl:k<ms.length:=by rw[h.len];exact hk
 have hg:ms[k]? = some ms[k]:=List.getElem?_eq_getElem hl
 obtain ⟨h0,h1⟩:=cells2 hg
 exact ⟨b,o,ms[k],e,hb,hg,List.getElem_mem hl,hc _ _ h0,hc _ _ h1⟩
section
variable {w w':World} {B B' n c:Nat} {A:Option Addr} {ms:List MV}
theorem RdM.to (h:RdM w B A n c ms)(hb:Below B w w')(hB:B<=B'):RdM w' B' A n c ms:=
 ⟨h.row.to hb hB,h.len,fun m hm=>⟨(h.parts m hm).1.to hb hB,(h.parts m hm).2⟩⟩
end
def EqI (xs ys:List Int)(k:Nat):Prop:=∀j,j<k->xs[j]? = ys[j]?
theorem Rd.int_ {w:World}{B n c:Nat}{A:Option Addr}{l:List Int}(h:Rd w B 1 A n c (l.map (.int .i64))){k:Nat}(hk:k<n) :
  ∃b o u,A=some ⟨b,o,none⟩/\b<B/\l[k]? = some u/\w.cell? ⟨b,o+k,none⟩=some (.int .i64 u):=by
 obtain ⟨b,o,u,e,hb,hx,hc⟩:=h.one hk
 rw[List.getElem?_map] at hx
 cases hl:l[k]? with
 | none=>rw[hl] at hx;cases hx
 | some s=>rw[hl] at hx;cases hx;exact ⟨b,o,s,e,hb,rfl,hc⟩
theorem aRq (o:Int)(v:Value)(x:Int)(g:Nat)(w:World)(hg:w.cell? ⟨g,0,none⟩=some (.int .i64 x))(hgl:g<w.heap.size) :
  Calls Tryz.prog 78 #[.agg #[.int .i64 o,v],.pointer (some ⟨g,0,none⟩)] w (BoolBelow (decide (o=x)) w):=by
 have h1:(w.alloc (.cells #[.int .i64 o,v] 43)).cell? ⟨g,0,none⟩=some (.int .i64 x):=by rw[((Below.refl w.heap.size w).alloc (Nat.le_refl _) _).cell (p:=⟨g,0,none⟩) hgl];exact hg
 have hbd:Below w.heap.size w (w.alloc (.cells #[.int .i64 o,v] 43)):=(Below.refl _ _).alloc (Nat.le_refl _) _
 go_enter Tryz.func78,Tryz.ntmps78
 go_wp2
 go_ret
 refine ⟨aAh ?_,hbd⟩
 by_cases h:o=x<;>simp[h]
theorem aWq {A:Option Addr}{n c:Nat}{ms:List MV}{x:Int}{g:Nat}{w:World}(hn:n<=maxLen)(h:RdM w w.heap.size A n c ms)(hg:w.cell? ⟨g,0,none⟩=some (.int .i64 x))(hgl:g<w.heap.size) :
  Calls Tryz.prog 108 #[.slice A n c,.func (.func 78) #[] #[.pointer (some ⟨g,0,none⟩)]] w fun e w'=>∃r:Int,e=.returned (.int .i64 r)/\decide (0<=r)=obsM ms x/\Below w.heap.size w w':=by
 unfold maxLen at hn
 have HL:=hid h.len
 go_enter Tryz.func108,Tryz.ntmps108
 go_wp2
 go_loopw[5,8] (fun _ i wr=>∃k:Nat,k<=n/\i=.int .i64 k/\Below w.heap.size w wr/\Hid (obsM (ms.take k) x=false)) (fun _ i _=>n-(intOf i).toNat)
 case atStart=>exact ⟨0,Nat.zero_le _,rfl,Below.refl _ _,by rw[List.take_zero];rfl⟩
 obtain ⟨k,hk,rfl,hb,hj⟩:=hrel
 by_cases hlt:k<n
 ·obtain ⟨b0,o0,u,rfl,hbb,hx,hu,h0,h1⟩:=h.get hlt
  replace h0:=(hb.cell hbb).trans h0
  replace h1:=(hb.cell hbb).trans h1
  have HX:=hid hx;clear hx
  have hcall:=aRq u.old (.slice u.A u.new.length u.c) x g wr ((hb.cell (p:=⟨g,0,none⟩) hgl).trans hg) (Nat.lt_of_lt_of_le hgl hb.size)
  cases hq:decide (u.old=x) with
  | true=>
   rw[hq] at hcall
   go_wp2_with (go_at_call 78;refine hcall.mono ?_;rintro e w' ⟨rfl,hb'⟩)
   go_ret
   refine ⟨_,rfl,?_,hb.trans (hb'.mono hb.size)⟩
   rw[bEn.2 ⟨u,hu,of_decide_eq_true hq⟩,decide_eq_true (by omega)]
  | false=>
   rw[hq] at hcall
   go_wp2_with (go_at_call 78;refine hcall.mono ?_;rintro e w' ⟨rfl,hb'⟩)
   go_roundw
   case rel=>
    refine ⟨k+1,by omega,by go_num,hb.trans (hb'.mono hb.size),?_⟩
    show obsM (ms.take (k+1)) x=false
    rw[List.take_add_one,HX.out,Option.toList_some,aUy,hj.out,hq];rfl
   simp[intOf];omega
 have hkn:k=n:=by omega
 subst hkn
 go_wp2
 go_ret
 refine ⟨_,rfl,?_,hb⟩
 have:=hj.out
 rw[List.take_of_length_le (by rw[HL.out];omega)] at this
 rw[this];decide
theorem aSk {A:Option Addr}{n c:Nat}{ms:List MV}{x:Int}{g:Nat}{w:World}(hn:n<=maxLen)(h:RdM w w.heap.size A n c ms)(hg:w.cell? ⟨g,0,none⟩=some (.int .i64 x))(hgl:g<w.heap.size) :
  Calls Tryz.prog 77 #[.slice A n c,.func (.func 78) #[] #[.pointer (some ⟨g,0,none⟩)]] w (BoolBelow (obsM ms x) w):=by
 go_enter Tryz.func77,Tryz.ntmps77
 go_wp2_with (go_at_call 108;refine (aWq hn h hg hgl).mono ?_;rintro e w' ⟨r,rfl,hr,hb'⟩)
 go_ret
 exact ⟨aAh (by rw[<-hr]),hb'⟩
theorem aQo {A:Option Addr}{n c:Nat}{ms:List MV}{x:Int}{w:World}(hn:n<=maxLen)(h:RdM w w.heap.size A n c ms) :
  Calls Tryz.prog 36 #[.slice A n c,.int .i64 x] w (BoolBelow (obsM ms x) w):=by
 have hb:Below w.heap.size w (w.alloc (.cells #[.int .i64 x] 3)):=(Below.refl _ _).alloc (Nat.le_refl _) _
 have h1:=h.to hb hb.size
 have hg:(w.alloc (.cells #[.int .i64 x] 3)).cell? ⟨w.heap.size,0,none⟩=some (.int .i64 x):=(cell_of_row _ _ _ _ _ _ (heap_alloc_new _ _)).trans rfl
 have hgl:w.heap.size<(w.alloc (.cells #[.int .i64 x] 3)).heap.size:=by simp
 go_enter Tryz.func36,Tryz.ntmps36
 go_wp2_with (go_at_call 77;refine (aSk hn h1 hg hgl).mono ?_;rintro e w' ⟨rfl,hb'⟩)
 go_ret
 exact ⟨rfl,hb.trans (hb'.mono hb.size)⟩
def badI (o n x:Int):Bool:=decide (x<=o) || decide (n<=x)
theorem aNy (o n x:Int)(g k:Nat)(w:World)(hg:w.cell? ⟨g,0,none⟩=some (.int .i64 o))(hk:w.cell? ⟨k,0,none⟩=some (.int .i64 n)) :
  Calls Tryz.prog 107 #[.int .i64 x,.pointer (some ⟨g,0,none⟩),.pointer (some ⟨k,0,none⟩)] w fun e w'=>e=.returned (.bool (badI o n x))/\w'=w:=by
 go_enter Tryz.func107,Tryz.ntmps107
 go_wp2
 all_goals (go_ret;refine ⟨aAh ?_,rfl⟩;simp_all [badI])
theorem aPt {A:Option Addr}{m c:Nat}{l:List Int}{o n:Int}{g k:Nat}{w:World}(hn:m<=maxLen)(h:Rd w w.heap.size 1 A m c (l.map (.int .i64)))(hg:w.cell? ⟨g,0,none⟩=some (.int .i64 o))(hk:w.cell? ⟨k,0,none⟩=some (.int .i64 n))
  (hgl:g<w.heap.size) (hkl:k<w.heap.size) :
  Calls Tryz.prog 128 #[.slice A m c,.func (.func 107) #[] #[.pointer (some ⟨g,0,none⟩),.pointer (some ⟨k,0,none⟩)]] w fun e w'=>∃r:Int,e=.returned (.int .i64 r)/\decide (0<=r)=l.any (badI o n)/\Below w.heap.size w w':=by
 unfold maxLen at hn
 have HL:=hid (show l.length=m by have:=h.len;simpa using this)
 go_enter Tryz.func128,Tryz.ntmps128
 go_wp2
 go_loopw[5,8] (fun _ i wr=>∃k:Nat,k<=m/\i=.int .i64 k/\Below w.heap.size w wr/\Hid ((l.take k).any (badI o n)=false)) (fun _ i _=>m-(intOf i).toNat)
 case atStart=>exact ⟨0,Nat.zero_le _,rfl,Below.refl _ _,by rw[List.take_zero];rfl⟩
 obtain ⟨j,hj',rfl,hb,hj⟩:=hrel
 by_cases hlt:j<m
 ·obtain ⟨b0,o0,u,rfl,hbb,hx,h0⟩:=h.int_ hlt
  replace h0:=(hb.cell hbb).trans h0
  have HX:=hid hx;clear hx
  have hcall:=aNy o n u g k wr ((hb.cell (p:=⟨g,0,none⟩) hgl).trans hg) ((hb.cell (p:=⟨k,0,none⟩) hkl).trans hk)
  cases hq:badI o n u with
  | true=>
   rw[hq] at hcall
   go_wp2_with (go_at_call 107;refine hcall.mono ?_;rintro e w' ⟨rfl,rfl⟩)
   go_ret
   refine ⟨_,rfl,?_,hb⟩
   rw[List.any_eq_true.2 ⟨u,List.mem_of_getElem? HX.out,hq⟩,decide_eq_true (by omega)]
  | false=>
   rw[hq] at hcall
   go_wp2_with (go_at_call 107;refine hcall.mono ?_;rintro e w' ⟨rfl,rfl⟩)
   go_roundw
   case rel=>
    refine ⟨j+1,by omega,by go_num,hb,?_⟩
    show (l.take (j+1)).any (badI o n)=false
    rw[List.take_add_one,HX.out,Option.toList_some,List.any_append,hj.out];simp[hq]
   simp[intOf];omega
 have hkn:j=m:=by omega
 subst hkn
 go_wp2
 go_ret
 refine ⟨_,rfl,?_,hb⟩
 have:=hj.out
 rw[List.take_of_length_le (by rw[HL.out];omega)] at this
 rw[this];decide
theorem aNm {A:Option Addr}{m c:Nat}{l:List Int}{o n:Int}{g k:Nat}{w:World}(hn:m<=maxLen)(h:Rd w w.heap.size 1 A m c (l.map (.int .i64)))(hg:w.cell? ⟨g,0,none⟩=some (.int .i64 o))(hk:w.cell? ⟨k,0,none⟩=some (.int .i64 n))
  (hgl:g<w.heap.size) (hkl:k<w.heap.size) :
  Calls Tryz.prog 106 #[.slice A m c,.func (.func 107) #[] #[.pointer (some ⟨g,0,none⟩),.pointer (some ⟨k,0,none⟩)]] w (BoolBelow (l.any (badI o n)) w):=by
 go_enter Tryz.func106,Tryz.ntmps106
 go_wp2_with (go_at_call 128;refine (aPt hn h hg hk hgl hkl).mono ?_;rintro e w' ⟨r,rfl,hr,hb'⟩)
 go_ret
 exact ⟨aAh (by rw[<-hr]),hb'⟩
theorem aKy (n:Int)(m:MV):okM n m=!(decide (m.old<0) || decide (n<=m.old) || decide (2000<(m.new.length:Int)) || m.new.any (badI m.old n)):=by
 have e:m.new.any (badI m.old n)=!(m.new.all fun x=>decide (m.old<x) && decide (x<n)):=by
  rw[List.all_eq_not_any_not,Bool.not_not]
  congr 1;funext x
  simp only[badI,Bool.not_and]
  congr 1
  ·by_cases h:x<=m.old<;>simp[h]<;>omega
  by_cases h:n<=x<;>simp[h]<;>omega
 rw[e]
 simp only[okM,Bool.not_or,Bool.not_not]
 congr 1
 congr 1
 ·congr 1
  ·by_cases h:m.old<0<;>simp[h]<;>omega
  by_cases h:n<=m.old<;>simp[h]<;>omega
 by_cases h:m.new.length<=2000<;>simp[h]<;>omega
theorem aGm {n:Int}{ms:List MV}{m:MV}(hm:m∈ms)(h:okM n m=false):rightM n ms=false:=by
 unfold rightM;rw[List.all_eq_false];exact ⟨m,hm,by simp[h]⟩
theorem aRm {n:Int}{ms:List MV}{m:MV}{k:Nat}(hx:ms[k]? = some m)(hj:rightM n (ms.take k)=true)(h:okM n m=true):rightM n (ms.take (k+1))=true:=by
 rw[List.take_add_one,hx,Option.toList_some,aTe,hj,h];rfl
theorem bAx {A:Option Addr}{n c:Nat}{ms:List MV}{N:Int}{w:World}(hn:n<=maxLen)(h:RdM w w.heap.size A n c ms) :
  Calls Tryz.prog 76 #[.int .i64 N,.slice A n c] w (BoolBelow (rightM N ms) w):=by
 unfold maxLen at hn
 have HL:=hid h.len
 have hb0:Below w.heap.size w (w.alloc (.cells #[.int .i64 N] 3)):=(Below.refl _ _).alloc (Nat.le_refl _) _
 have hgN:(w.alloc (.cells #[.int .i64 N] 3)).cell? ⟨w.heap.size,0,none⟩=some (.int .i64 N):=(cell_of_row _ _ _ _ _ _ (heap_alloc_new _ _)).trans rfl
 have hlN:w.heap.size<(w.alloc (.cells #[.int .i64 N] 3)).heap.size:=by simp
 have h':=h.to hb0 hb0.size
 clear h
 generalize hW:w.alloc (.cells #[.int .i64 N] 3)=W at *
 have HW:=hid hW
 clear hW
 go_enter Tryz.func76,Tryz.ntmps76
 go_wp2
 rw[HW.out]
 go_loopw[9] (fun i wr=>∃k:Nat,k<=n/\i=.int .i64 k/\Below W.heap.size W wr/\Hid (rightM N (ms.take k)=true)) (fun i _=>n-(intOf i).toNat)
 case atStart=>exact ⟨0,Nat.zero_le _,rfl,Below.refl _ _,by rw[List.take_zero];rfl⟩
 obtain ⟨k,hk,rfl,hb,hj⟩:=hrel
 by_cases hlt:k<n
 ·obtain ⟨b0,o0,u,rfl,hbb,hx,hu,h0,h1⟩:=h'.get hlt
  replace h0:=(hb.cell hbb).trans h0
  replace h1:=(hb.cell hbb).trans h1
  have HX:=hid hx;clear hx
  have hN:=(hb.cell (p:=⟨w.heap.size,0,none⟩) hlN).trans hgN
  obtain ⟨hrd,hnl,_,_⟩:=h'.parts u hu
  have hbE:=hb.alloc hb.size (.cells #[.int .i64 u.old,.slice u.A u.new.length u.c] 43)
  have hNE:=(hbE.cell (p:=⟨w.heap.size,0,none⟩) hlN).trans hgN
  have hOE:(wr.alloc (.cells #[.int .i64 u.old,.slice u.A u.new.length u.c] 43)).cell? ⟨wr.heap.size,0,none⟩=some (.int .i64 u.old):=(cell_of_row _ _ _ _ _ _ (heap_alloc_new _ _)).trans rfl
  have hbw:=hb0.trans (hbE.mono hb0.size)
  by_cases c1:u.old<0
  ·go_wp2
   go_ret
   exact ⟨aAh (aGm hu (by rw[aKy];simp[c1])).symm,hbw⟩
  by_cases c2:N<=u.old
  ·go_wp2
   go_ret
   exact ⟨aAh (aGm hu (by rw[aKy];simp[c2])).symm,hbw⟩
  by_cases c3:2000<(u.new.length:Int)
  ·go_wp2
   go_ret
   exact ⟨aAh (aGm hu (by rw[aKy];simp[c3])).symm,hbw⟩
  have hcall:=aNm (o:=u.old) (n:=N) (g:=wr.heap.size) (k:=w.heap.size) (by unfold maxLen;omega) (hrd.to hbE hbE.size) hOE hNE (by simp) (Nat.lt_of_lt_of_le hlN hbE.size)
  cases c4:u.new.any (badI u.old N) with
  | true=>
   rw[c4] at hcall
   go_wp2_with (go_at_call 106;refine hcall.mono ?_;rintro e w' ⟨rfl,hb'⟩)
   go_ret
   exact ⟨aAh (aGm hu (by rw[aKy,c4];simp)).symm,hbw.trans (hb'.mono hbw.size)⟩
  | false=>
   rw[c4] at hcall
   go_wp2_with (go_at_call 106;refine hcall.mono ?_;rintro e w' ⟨rfl,hb'⟩)
   go_roundw
   case rel=>
    refine ⟨k+1,by omega,by go_num,hbE.trans (hb'.mono hbE.size),?_⟩
    exact aRm HX.out hj.out (by rw[aKy,c4];simp;omega)
   simp[intOf];omega
 have hkn:k=n:=by omega
 subst hkn
 go_wp2
 go_ret
 refine ⟨aAh ?_,hb0.trans (hb.mono hb0.size)⟩
 have:=hj.out
 rw[List.take_of_length_le (by rw[HL.out];omega)] at this
 exact this.symm
end Go.Proofs.YtohblmepajhpaaaGreatDoor
namespace Go.Proofs.YtohblmepajhpaaaGreatDoor
open Go.Shelf
def Tryz.lays169_ren:Go.Shelf.Ren:=⟨fun | 169=>187 | n=>n,fun | 70=>241 | 9=>9 | 0=>0 | 72=>243 | 37=>102 | 127=>288 | 3=>3 | 5=>5 | n=>n,fun | n=>n⟩
theorem Tryz.lays169:Go.Proofs.Lays.n169 Tryz.prog Tryz.lays169_ren:={
 mixed:=by kernel_rfl
 f169:=Tryz.func187.trans (congrArg some (by kernel_rfl))
 t0:=Tryz.underlying0
 a0:=Tryz.isAgg0
 z0:=Tryz.sizeOf0
 v0:=Tryz.zeroValue0
 t3:=Tryz.underlying3
 a3:=Tryz.isAgg3
 z3:=Tryz.sizeOf3
 v3:=Tryz.zeroValue3
 t9:=Tryz.underlying9
 a9:=Tryz.isAgg9
 z9:=Tryz.sizeOf9
 v9:=Tryz.zeroValue9
 t37:=Tryz.underlying102
 a37:=Tryz.isAgg102
 z37:=Tryz.sizeOf102
 v37:=Tryz.zeroValue102
 t70:=Tryz.underlying241
 a70:=Tryz.isAgg241
 z70:=Tryz.sizeOf241
 v70:=Tryz.zeroValue241
 t72:=Tryz.underlying243
 a72:=Tryz.isAgg243
 z72:=Tryz.sizeOf243
 v72:=Tryz.zeroValue243
 t127:=Tryz.underlying288
 a127:=Tryz.isAgg288
 z127:=Tryz.sizeOf288
 v127:=Tryz.zeroValue288 }
theorem Tryz.Builder_Extra_169:Builder.Extra Tryz.prog Tryz.lays169_ren:={
 sizeBuilder:=by kernel_rfl
 liesBuilder:=by kernel_rfl
 t5:=Tryz.underlying5
 a5:=Tryz.isAgg5
 z5:=Tryz.sizeOf5
 v5:=Tryz.zeroValue5
 infoByte:=by kernel_rfl
 cellsByte:=by kernel_rfl
 sizeByte:=by kernel_rfl
 neB5:=by decide }
def Tryz.lays156_ren:Go.Shelf.Ren:=⟨fun | 156=>222 | 165=>265 | 166=>223 | 169=>187 | 240=>266 | 241=>290 | 276=>291 | 277=>297 | n=>n,fun | 31=>135 | 9=>9 | 3=>3 | 4=>4 | 0=>0 | 20=>20 | 72=>243 | 76=>285 | 70=>241 | 37=>102 | 75=>284 | 127=>288 | 164=>329 | 5=>5 | 80=>247 | n=>n,fun | n=>n⟩
theorem Tryz.lays156:Go.Proofs.Lays.n156 Tryz.prog Tryz.lays156_ren:={
 mixed:=by kernel_rfl
 f156:=Tryz.func222.trans (congrArg some (by kernel_rfl))
 f165:=Tryz.func265.trans (congrArg some (by kernel_rfl))
 f166:=Tryz.func223.trans (congrArg some (by kernel_rfl))
 f169:=Tryz.func187.trans (congrArg some (by kernel_rfl))
 f240:=Tryz.func266.trans (congrArg some (by kernel_rfl))
 f241:=Tryz.func290.trans (congrArg some (by kernel_rfl))
 f276:=Tryz.func291.trans (congrArg some (by kernel_rfl))
 f277:=Tryz.func297.trans (congrArg some (by kernel_rfl))
 t0:=Tryz.underlying0
 a0:=Tryz.isAgg0
 z0:=Tryz.sizeOf0
 v0:=Tryz.zeroValue0
 t3:=Tryz.underlying3
 a3:=Tryz.isAgg3
 z3:=Tryz.sizeOf3
 v3:=Tryz.zeroValue3
 t4:=Tryz.underlying4
 a4:=Tryz.isAgg4
 z4:=Tryz.sizeOf4
 v4:=Tryz.zeroValue4
 t9:=Tryz.underlying9
 a9:=Tryz.isAgg9
 z9:=Tryz.sizeOf9
 v9:=Tryz.zeroValue9
 t20:=Tryz.underlying20
 a20:=Tryz.isAgg20
 z20:=Tryz.sizeOf20
 v20:=Tryz.zeroValue20
 t31:=Tryz.underlying135
 a31:=Tryz.isAgg135
 z31:=Tryz.sizeOf135
 v31:=Tryz.zeroValue135
 t37:=Tryz.underlying102
 a37:=Tryz.isAgg102
 z37:=Tryz.sizeOf102
 v37:=Tryz.zeroValue102
 t70:=Tryz.underlying241
 a70:=Tryz.isAgg241
 z70:=Tryz.sizeOf241
 v70:=Tryz.zeroValue241
 t72:=Tryz.underlying243
 a72:=Tryz.isAgg243
 z72:=Tryz.sizeOf243
 v72:=Tryz.zeroValue243
 t75:=Tryz.underlying284
 a75:=Tryz.isAgg284
 z75:=Tryz.sizeOf284
 v75:=Tryz.zeroValue284
 t76:=Tryz.underlying285
 a76:=Tryz.isAgg285
 z76:=Tryz.sizeOf285
 v76:=Tryz.zeroValue285
 t127:=Tryz.underlying288
 a127:=Tryz.isAgg288
 z127:=Tryz.sizeOf288
 v127:=Tryz.zeroValue288
 t164:=Tryz.underlying329
 a164:=Tryz.isAgg329
 z164:=Tryz.sizeOf329
 v164:=Tryz.zeroValue329 }
theorem Tryz.Builder_Extra_156:Builder.Extra Tryz.prog Tryz.lays156_ren:={
 sizeBuilder:=by kernel_rfl
 liesBuilder:=by kernel_rfl
 t5:=Tryz.underlying5
 a5:=Tryz.isAgg5
 z5:=Tryz.sizeOf5
 v5:=Tryz.zeroValue5
 infoByte:=by kernel_rfl
 cellsByte:=by kernel_rfl
 sizeByte:=by kernel_rfl
 neB5:=by decide }
open Go.RowKit in
theorem Tryz.strings_Join_none (a:Option Addr)(c:Nat)(sep:ByteArray)(w:World) :
  Calls Tryz.prog 222 #[.slice a 0 c,.string sep] w fun e w'=>e=.returned (.string ⟨#[]⟩)/\w'=w:=Any.strings_Join_none Tryz.lays156 Tryz.Builder_Extra_156 a c sep w
open Go.RowKit in
theorem Tryz.strings_Join (bk o c:Nat)(xs:List ByteArray)(sep:ByteArray)(w:World)(hcells:∀(j:Nat) x,xs[j]? = some x->w.cell? ⟨bk,o+j,none⟩=some (.string x))(hbk:bk<w.heap.size)(hN:xs.length<=140737488355328)(hcap:xs.length<=c)(hlen:(Lib.join (xs.map (·.data.toList)) sep.data.toList).length<=140737488355328) :
  Calls Tryz.prog 222 #[.slice (some ⟨bk,o,none⟩) xs.length c,.string sep] w fun e w'=>e=.returned (.string ⟨(Lib.join (xs.map (·.data.toList)) sep.data.toList).toArray⟩)/\Below w.heap.size w w':=Any.strings_Join Tryz.lays156 Tryz.Builder_Extra_156 bk o c xs sep w hcells hbk hN hcap hlen
def Tryz.lays122_ren:Go.Shelf.Ren:=⟨fun | 122=>175 | 215=>212 | n=>n,fun | 3=>3 | 4=>4 | n=>n,fun | n=>n⟩
theorem Tryz.lays122:Go.Proofs.Lays.n122 Tryz.prog Tryz.lays122_ren:={
 mixed:=by kernel_rfl
 f122:=Tryz.func175.trans (congrArg some (by kernel_rfl))
 f215:=Tryz.func212.trans (congrArg some (by kernel_rfl))
 t3:=Tryz.underlying3
 a3:=Tryz.isAgg3
 z3:=Tryz.sizeOf3
 v3:=Tryz.zeroValue3
 t4:=Tryz.underlying4
 a4:=Tryz.isAgg4
 z4:=Tryz.sizeOf4
 v4:=Tryz.zeroValue4 }
open Go.RowKit in
theorem Tryz.cmp_Compare_int (x y:Int)(w:World) :
  Calls Tryz.prog 175 #[.int .i64 x,.int .i64 y] w fun e w'=>e=.returned (.int .i64 (Lib.compareInt x y))/\w'=w:=Any.cmp_Compare_int Tryz.lays122 x y w
def Tryz.lays193_ren:Go.Shelf.Ren:=⟨fun | 193=>289 | n=>n,fun | 31=>135 | 9=>9 | 4=>4 | 3=>3 | 0=>0 | n=>n,fun | n=>n⟩
theorem Tryz.lays193:Go.Proofs.Lays.n193 Tryz.prog Tryz.lays193_ren:={
 mixed:=by kernel_rfl
 f193:=Tryz.func289.trans (congrArg some (by kernel_rfl))
 t0:=Tryz.underlying0
 a0:=Tryz.isAgg0
 z0:=Tryz.sizeOf0
 v0:=Tryz.zeroValue0
 t3:=Tryz.underlying3
 a3:=Tryz.isAgg3
 z3:=Tryz.sizeOf3
 v3:=Tryz.zeroValue3
 t4:=Tryz.underlying4
 a4:=Tryz.isAgg4
 z4:=Tryz.sizeOf4
 v4:=Tryz.zeroValue4
 t9:=Tryz.underlying9
 a9:=Tryz.isAgg9
 z9:=Tryz.sizeOf9
 v9:=Tryz.zeroValue9
 t31:=Tryz.underlying135
 a31:=Tryz.isAgg135
 z31:=Tryz.sizeOf135
 v31:=Tryz.zeroValue135 }
open Go.RowKit Go.Lib in
theorem Tryz.slices_Equal_string (b1 o1 n c b2 o2 m d:Nat)(xs ys:List ByteArray)(w:World)(hx:n<=xs.length)(hy:m<=ys.length)(hbig:n<=9223372036854775807)(hbig2:m<=9223372036854775807)(hc1:∀j,j<xs.length->w.cell? ⟨b1,o1+j,none⟩=some (.string (xs.getD j ByteArray.empty)))(hc2:∀j,j<ys.length->w.cell? ⟨b2,o2+j,none⟩=some (.string (ys.getD j ByteArray.empty))) :
  Calls Tryz.prog 289 #[.slice (some ⟨b1,o1,none⟩) n c,.slice (some ⟨b2,o2,none⟩) m d] w fun e w'=>e=.returned (.bool (decide (xs.take n=ys.take m)))/\∃q,w'=w.drewN q:=Any.slices_Equal_string Tryz.lays193 b1 o1 n c b2 o2 m d xs ys w hx hy hbig hbig2 hc1 hc2
open Go.RowKit Go.Lib in
theorem Tryz.slices_Equal_string_empty (a1 a2:Option Addr)(c m d:Nat)(w:World)(hbig2:m<=9223372036854775807) :
  Calls Tryz.prog 289 #[.slice a1 0 c,.slice a2 m d] w fun e w'=>e=.returned (.bool (decide (m=0)))/\w'=w:=Any.slices_Equal_string_empty Tryz.lays193 a1 a2 c m d w hbig2
def Tryz.laysNm215_ren:Go.Shelf.Ren:=⟨fun | 15=>206 | n=>n,fun | 22=>36 | 3=>3 | 4=>4 | n=>n,fun | n=>n⟩
theorem Tryz.laysNm215:Go.Proofs.Lays2.n15 Tryz.prog Tryz.laysNm215_ren:={
 mixed:=by kernel_rfl
 f15:=Tryz.func206.trans (congrArg some (by kernel_rfl))
 t3:=Tryz.underlying3
 a3:=Tryz.isAgg3
 z3:=Tryz.sizeOf3
 v3:=Tryz.zeroValue3
 t4:=Tryz.underlying4
 a4:=Tryz.isAgg4
 z4:=Tryz.sizeOf4
 v4:=Tryz.zeroValue4
 t22:=Tryz.underlying36
 a22:=Tryz.isAgg36
 z22:=Tryz.sizeOf36
 v22:=Tryz.zeroValue36
 i3:=by kernel_rfl }
open Go.RowKit Go.Lib in
theorem Tryz.slices_Clone_int (b off n c:Nat)(zs:List Int)(w:World)(hz:n<=zs.length)(hbig:n*8<=140737488355328)(hc:∀j,j<zs.length->w.cell? ⟨b,off+j,none⟩=some (.int .i64 (zs.getD j 0))) :
  Calls Tryz.prog 206 #[.slice (some ⟨b,off,none⟩) n c] w fun e w'=>∃v',e=.returned v'/\w'.ownsRow w.heap.size 3 1 v' n ((zs.take n).map (Value.int .i64))/\v'≠.slice none 0 0/\Below w.heap.size w w':=Any.slices_Clone_int Tryz.laysNm215 b off n c zs w hz hbig hc
open Go.RowKit Go.Lib in
theorem Tryz.slices_Clone_int_nil (n c:Nat)(w:World) :
  Calls Tryz.prog 206 #[.slice none n c] w fun e w'=>e=.returned (.slice none 0 0)/\w'=w:=Any.slices_Clone_int_nil Tryz.laysNm215 n c w
def Tryz.laysNm216_ren:Go.Shelf.Ren:=⟨fun | 16=>260 | n=>n,fun | 24=>135 | 9=>9 | 4=>4 | n=>n,fun | n=>n⟩
theorem Tryz.laysNm216:Go.Proofs.Lays2.n16 Tryz.prog Tryz.laysNm216_ren:={
 mixed:=by kernel_rfl
 f16:=Tryz.func260.trans (congrArg some (by kernel_rfl))
 t4:=Tryz.underlying4
 a4:=Tryz.isAgg4
 z4:=Tryz.sizeOf4
 v4:=Tryz.zeroValue4
 t9:=Tryz.underlying9
 a9:=Tryz.isAgg9
 z9:=Tryz.sizeOf9
 v9:=Tryz.zeroValue9
 t24:=Tryz.underlying135
 a24:=Tryz.isAgg135
 z24:=Tryz.sizeOf135
 v24:=Tryz.zeroValue135
 i9:=by kernel_rfl }
open Go.RowKit Go.Lib in
theorem Tryz.slices_Clone_string (b off n c:Nat)(zs:List ByteArray)(w:World)(hz:n<=zs.length)(hbig:n*16<=140737488355328)(hc:∀j,j<zs.length->w.cell? ⟨b,off+j,none⟩=some (.string (zs.getD j ByteArray.empty))) :
  Calls Tryz.prog 260 #[.slice (some ⟨b,off,none⟩) n c] w fun e w'=>∃v',e=.returned v'/\w'.ownsRow w.heap.size 9 1 v' n ((zs.take n).map (Value.string))/\v'≠.slice none 0 0/\Below w.heap.size w w':=Any.slices_Clone_string Tryz.laysNm216 b off n c zs w hz hbig hc
open Go.RowKit Go.Lib in
theorem Tryz.slices_Clone_string_nil (n c:Nat)(w:World) :
  Calls Tryz.prog 260 #[.slice none n c] w fun e w'=>e=.returned (.slice none 0 0)/\w'=w:=Any.slices_Clone_string_nil Tryz.laysNm216 n c w
open Go.RowKit Go.Lib in
theorem Tryz.slices_Clone_string_zero (a:Addr)(c:Nat)(w:World) :
  Calls Tryz.prog 260 #[.slice (some a) 0 c] w fun e w'=>∃v',e=.returned v'/\w'.ownsRow w.heap.size 9 1 v' 0 []/\v'≠.slice none 0 0/\Below w.heap.size w w':=Any.slices_Clone_string_zero Tryz.laysNm216 a c w
open Go.RowKit Go.Lib in
theorem Tryz.slices_Equal_string_lens (a1 a2:Option Addr)(n c m d:Nat)(w:World)(hnm:n≠m) :
  Calls Tryz.prog 289 #[.slice a1 n c,.slice a2 m d] w fun e w'=>e=.returned (.bool false)/\w'=w:=Any.slices_Equal_string_lens Tryz.lays193 a1 a2 n c m d w hnm
end Go.Proofs.YtohblmepajhpaaaGreatDoor
namespace Go.Proofs.YtohblmepajhpaaaGreatDoor
theorem aKd:∀(a b:List ByteArray),∃s:List ByteArray,s.Sublist a/\s.Sublist b/\s.length=lcs a b
 | [],b=>⟨[],List.nil_sublist _,List.nil_sublist _,by simp[lcs]⟩
 | x::a,[]=>⟨[],List.nil_sublist _,List.nil_sublist _,by simp[lcs]⟩
 | x::a,y::b=>by
  rw[lcs]
  split
  ·rename_i e
   subst e
   obtain ⟨s,h1,h2,h3⟩:=aKd a b
   exact ⟨x::s,h1.cons_cons x,h2.cons_cons x,by rw[List.length_cons,h3]⟩
  rcases Nat.le_total (lcs a (y::b)) (lcs (x::a) b) with h | h
  ·obtain ⟨s,h1,h2,h3⟩:=aKd (x::a) b
   exact ⟨s,h1,h2.cons y,by rw[h3,Nat.max_eq_right h]⟩
  obtain ⟨s,h1,h2,h3⟩:=aKd a (y::b)
  exact ⟨s,h1.cons x,h2,by rw[h3,Nat.max_eq_left h]⟩
termination_by a b=>a.length+b.length
theorem aNi {x z:ByteArray}{s a:List ByteArray}(h:(z::s).Sublist (x::a)):s.Sublist a/\(z≠x->(z::s).Sublist a):=by
 cases h with
 | cons _ h=>exact ⟨(List.sublist_cons_self z s).trans h,fun _=>h⟩
 | cons_cons _ h=>exact ⟨h,fun e=>absurd rfl e⟩
theorem aKl:∀(a b s:List ByteArray),s.Sublist a->s.Sublist b->s.length<=lcs a b
 | [],b,s,h1,_=>by rw[List.sublist_nil.1 h1];simp
 | x::a,[],s,_,h2=>by rw[List.sublist_nil.1 h2];simp
 | x::a,y::b,[],_,_=>by simp
 | x::a,y::b,z::s,h1,h2=>by
  obtain ⟨a1,a2⟩:=aNi h1
  obtain ⟨b1,b2⟩:=aNi h2
  rw[lcs]
  split
  ·have:=aKl a b s a1 b1
   rw[List.length_cons];omega
  rename_i e
  by_cases hz:z=x
  ·have hy:z≠y:=fun h=>e (hz▸h)
   have:=aKl (x::a) b (z::s) h1 (b2 hy)
   omega
  have:=aKl a (y::b) (z::s) (a2 hz) h2
  omega
termination_by a b=>a.length+b.length
theorem aTx {x:ByteArray}{s a:List ByteArray}(h:s.Sublist (a++[x])):s.dropLast.Sublist a:=by
 have h1:=h.reverse
 rw[List.reverse_append] at h1
 have h2:s.reverse.tail.Sublist a.reverse:=by
  cases hs:s.reverse with
  | nil=>exact List.nil_sublist _
  | cons z r=>
   rw[hs] at h1
   exact (aNi h1).1
 have h3:=h2.reverse
 rw[List.reverse_reverse] at h3
 rw[<-List.reverse_reverse s,List.dropLast_reverse]
 exact h3
theorem bBr (x:ByteArray)(a b:List ByteArray):lcs (a++[x]) (b++[x])=lcs a b+1:=by
 refine Nat.le_antisymm ?_ ?_
 ·obtain ⟨s,h1,h2,h3⟩:=aKd (a++[x]) (b++[x])
  have:=aKl a b s.dropLast (aTx h1) (aTx h2)
  rw[List.length_dropLast] at this
  omega
 obtain ⟨s,h1,h2,h3⟩:=aKd a b
 have:=aKl (a++[x]) (b++[x]) (s++[x]) (h1.append_right [x]) (h2.append_right [x])
 rw[List.length_append,List.length_singleton] at this
 omega
theorem aXt:∀(c a b:List ByteArray),lcs (a++c) (b++c)=lcs a b+c.length
 | [],a,b=>by simp
 | x::c,a,b=>by
  have:=aXt c (a++[x]) (b++[x])
  rw[bBr] at this
  rw[List.append_assoc,List.append_assoc] at this
  rw[List.length_cons]
  have e:∀l:List ByteArray,l++([x]++c)=l++x::c:=fun l=>rfl
  rw[e,e] at this
  omega
theorem aQk:∀(c a b:List ByteArray),lcs (c++a) (c++b)=lcs a b+c.length
 | [],a,b=>by simp
 | x::c,a,b=>by
  rw[List.cons_append,List.cons_append,lcs,if_pos rfl,aQk c a b,List.length_cons];omega
def sfx (a b:List ByteArray):Nat:=pfx a.reverse b.reverse
theorem bFg (a b:List ByteArray):sfx a b<=a.length/\sfx a b<=b.length:=by
 have:∀(a b:List ByteArray),pfx a b<=a.length/\pfx a b<=b.length:=by
  intro a
  induction a with
  | nil=>intro b;simp[pfx]
  | cons x a ih=>
   intro b
   cases b with
   | nil=>simp[pfx]
   | cons y b=>
    rw[pfx]
    have:=ih b
    split<;>simp only[List.length_cons]<;>omega
 have h:=this a.reverse b.reverse
 rw[List.length_reverse,List.length_reverse] at h
 exact h
theorem bCm (a b:List ByteArray):a.drop (a.length-sfx a b)=b.drop (b.length-sfx a b):=by
 have h:=aDv a.reverse b.reverse
 have h1:=congrArg List.reverse h
 rw[List.reverse_take,List.reverse_take,List.reverse_reverse,List.reverse_reverse,List.length_reverse,List.length_reverse] at h1
 exact h1
theorem bAs (a b:List ByteArray)(n m:Nat)(hn:a.take n=b.take n)(_hna:n<=a.length)(hnb:n<=b.length)
  (hm:(a.drop n).drop ((a.drop n).length-m)=(b.drop n).drop ((b.drop n).length-m)) (hma:m<=(a.drop n).length) (_hmb:m<=(b.drop n).length) :
  lcs a b=n+m+lcs ((a.drop n).take ((a.drop n).length-m)) ((b.drop n).take ((b.drop n).length-m)):=by
 have e1:lcs a b=lcs (a.drop n) (b.drop n)+n:=by
  have h:=aQk (a.take n) (a.drop n) (b.drop n)
  rw[List.take_append_drop,hn,List.take_append_drop,List.length_take,Nat.min_eq_left hnb] at h
  exact h
 generalize a.drop n=c at *
 generalize b.drop n=d at *
 have h:=aXt (c.drop (c.length-m)) (c.take (c.length-m)) (d.take (d.length-m))
 rw[List.take_append_drop,hm,List.take_append_drop,<-hm,List.length_drop] at h
 omega
end Go.Proofs.YtohblmepajhpaaaGreatDoor
namespace Go.Proofs.YtohblmepajhpaaaGreatDoor
open Go.RowKit
theorem aQc:∀{k:Nat} {a b:List ByteArray},k<=a.length->k<=b.length->(∀(i:Nat) (x y:ByteArray),i<k->a[i]? = some x->b[i]? = some y->x=y)->(k=a.length\/k=b.length\/∃x y:ByteArray,a[k]? = some x/\b[k]? = some y/\x≠y)->pfx a b=k
 | 0,[],b,_,_,_,_=>by simp[pfx]
 | 0,x::a,[],_,_,_,_=>by simp[pfx]
 | 0,x::a,y::b,_,_,_,h=>by
  have h':x≠y:=by
   rcases h with h | h | ⟨u,v,h1,h2,h3⟩
   ·simp at h
   ·simp at h
   simp at h1 h2;subst h1;subst h2;exact h3
  rw[pfx,if_neg h']
 | k+1,[],b,h,_,_,_=>by simp at h
 | k+1,x::a,[],_,h,_,_=>by simp at h
 | k+1,x::a,y::b,h1,h2,h3,h4=>by
  have e:x=y:=h3 0 x y (by omega) rfl rfl
  rw[pfx,if_pos e,aQc (k:=k) (by simpa using h1) (by simpa using h2) (fun i u v hi hu hv=>h3 (i+1) u v (by omega) (by simpa using hu) (by simpa using hv)) (by simpa using h4)]
theorem aQu {A B:Option Addr}{n ca m cb:Nat}{a b:List ByteArray}{w:World}(hn:n<=17592186044416)(_hm:m<=17592186044416)(ha:Rd w w.heap.size 1 A n ca (a.map .string))(hb:Rd w w.heap.size 1 B m cb (b.map .string)) :
  Calls Tryz.prog 279 #[.slice A n ca,.slice B m cb] w fun e w'=>e=.returned (.int .i64 (pfx a b))/\Below w.heap.size w w':=by
 have hla:a.length=n:=by have:=ha.len;rw[List.length_map] at this;omega
 have hlb:b.length=m:=by have:=hb.len;rw[List.length_map] at this;omega
 have HA:=hid hla
 have HB:=hid hlb
 clear hla hlb
 go_enter Tryz.func279,Tryz.ntmps279
 go_wp2
 go_loopw[5] (fun i wr=>∃k:Nat,k<=n/\k<=m/\i=.int .i64 k/\Below w.heap.size w wr/\Hid (∀(j:Nat) (x y:ByteArray),j<k->a[j]? = some x->b[j]? = some y->x=y)) (fun i _=>n-(intOf i).toNat)
 case atStart=>exact ⟨0,Nat.zero_le _,Nat.zero_le _,rfl,Below.refl _ _,hid (fun j _ _ hj=>absurd hj (Nat.not_lt_zero _))⟩
 obtain ⟨k,hk,hk2,rfl,hbw,hj⟩:=hrel
 have hbd:=hbw.drew
 by_cases h1:k<n
 ·by_cases h2:k<m
  ·obtain ⟨b0,o0,x,rfl,hbb,hx,h0⟩:=ha.str h1
   obtain ⟨b1,o1,y,rfl,hbb1,hy,h3⟩:=hb.str h2
   have HX:=hid hx
   have HY:=hid hy
   clear hx hy
   go_wp2
   refine aAi (fun w'=>Below w.heap.size w w') (qs 21) mixed (by kernel_rfl) hbd ?_
   intro Tp M Q hT hT' hM hQ
   have m0:M ⟨b0,o0+k,none⟩=some (.string x):=hM _ _ fun w' hw=>(hw.cell (p:=⟨b0,o0+k,none⟩) hbb).trans h0
   have m1:M ⟨b1,o1+k,none⟩=some (.string y):=hM _ _ fun w' hw=>(hw.cell (p:=⟨b1,o1+k,none⟩) hbb1).trans h3
   have k1:decide ((k:Int)<n)=true:=decide_eq_true (by omega)
   have k2:decide ((k:Int)<m)=true:=decide_eq_true (by omega)
   simp only[qcmp]
   by_cases hq:x=y
   ·have e1:(x.toList == y.toList)=true:=by rw[hq];exact beq_self_eq_true _
    have HN:=hid (show ∀(j:Nat) (u v:ByteArray),j<k+1->a[j]? = some u->b[j]? = some v->u=v from fun j u v hj' hu hv=>by
     by_cases e:j=k
     ·subst e;rw[HX.out] at hu;rw[HY.out] at hv;injection hu with hu;injection hv with hv;rw[<-hu,<-hv];exact hq
     exact hj.out j u v (by omega) hu hv)
    simp (maxSteps:=9^7) only[↓qpre,aAb,aAd,aAc,m0,m1,k1,k2]
    refine ⟨⟨by omega,by omega⟩,⟨by omega,by omega⟩,hQ _ _ ?_⟩
    clear hQ hT hT' hM m0 m1 k1 k2 e1
    go_wp2
    go_roundw
    case rel=>exact ⟨k+1,by omega,by omega,by go_num,hbd,HN.out⟩
    simp[intOf];omega
   have e1:=aBw hq
   have HN:=hid (show pfx a b=k from aQc (by have:=HA.out;omega) (by have:=HB.out;omega) hj.out (.inr (.inr ⟨x,y,HX.out,HY.out,hq⟩)))
   simp (maxSteps:=9^7) only[↓qpre,aAb,aAd,aAc,m0,m1,k1,k2]
   refine ⟨⟨by omega,by omega⟩,⟨by omega,by omega⟩,hQ _ _ ?_⟩
   clear hQ hT hT' hM m0 m1 k1 k2
   go_wp2
   go_ret
   exact ⟨by rw[HN.out];rfl,hbd⟩
  have HN:=hid (show pfx a b=k from aQc (by have:=HA.out;omega) (by have:=HB.out;omega) hj.out (.inr (.inl (by have:=HB.out;omega))))
  go_wp2
  refine aAi (fun w'=>Below w.heap.size w w') (qs 21) mixed (by kernel_rfl) hbd ?_
  intro Tp M Q hT hT' hM hQ
  have k1:decide ((k:Int)<n)=true:=decide_eq_true (by omega)
  have k2:decide ((k:Int)<m)=false:=decide_eq_false (by omega)
  simp only[qcmp]
  simp (maxSteps:=9^7) only[↓qpre,aAb,aAd,aAc,k1,k2]
  refine hQ _ _ ?_
  clear hQ hT hT' hM k1 k2
  go_wp2
  go_ret
  exact ⟨by rw[HN.out];rfl,hbd⟩
 have HN:=hid (show pfx a b=k from aQc (by have:=HA.out;omega) (by have:=HB.out;omega) hj.out (.inl (by have:=HA.out;omega)))
 go_wp2
 refine aAi (fun w'=>Below w.heap.size w w') (qs 21) mixed (by kernel_rfl) hbd ?_
 intro Tp M Q hT hT' hM hQ
 have k1:decide ((k:Int)<n)=false:=decide_eq_false (by omega)
 simp only[qcmp]
 simp (maxSteps:=9^7) only[↓qpre,aAb,aAd,aAc,k1]
 refine hQ _ _ ?_
 clear hQ hT hT' hM k1
 go_wp2
 go_ret
 exact ⟨by rw[HN.out];rfl,hbd⟩
theorem aZy {k:Nat}{a b:List ByteArray}(h1:k<=a.length)(h2:k<=b.length)(h3:∀(i:Nat)(x y:ByteArray),i<k->a[a.length-1-i]? = some x->b[b.length-1-i]? = some y->x=y)(h4:k=a.length\/k=b.length\/(k<a.length/\k<b.length/\∃x y:ByteArray,a[a.length-1-k]? = some x/\b[b.length-1-k]? = some y/\x≠y)):sfx a b=k:=by
 refine aQc (by simpa using h1) (by simpa using h2) (fun i x y hi hx hy=>h3 i x y hi ?_ ?_) ?_
 ·rw[List.getElem?_reverse (by omega)] at hx;exact hx
 ·rw[List.getElem?_reverse (by omega)] at hy;exact hy
 rcases h4 with h | h | ⟨g1,g2,x,y,hx,hy,hne⟩
 ·left;simpa using h
 ·right;left;simpa using h
 right;right
 exact ⟨x,y,by rw[List.getElem?_reverse g1];exact hx,by rw[List.getElem?_reverse g2];exact hy,hne⟩
theorem bEi {A B:Option Addr}{n ca m cb:Nat}{a b:List ByteArray}{w:World}(hn:n<=17592186044416)(hm:m<=17592186044416)(ha:Rd w w.heap.size 1 A n ca (a.map .string))(hb:Rd w w.heap.size 1 B m cb (b.map .string)) :
  Calls Tryz.prog 280 #[.slice A n ca,.slice B m cb] w fun e w'=>e=.returned (.int .i64 (sfx a b))/\Below w.heap.size w w':=by
 have hla:a.length=n:=by have:=ha.len;rw[List.length_map] at this;omega
 have hlb:b.length=m:=by have:=hb.len;rw[List.length_map] at this;omega
 have HA:=hid hla
 have HB:=hid hlb
 clear hla hlb
 go_enter Tryz.func280,Tryz.ntmps280
 go_wp2
 go_loopw[5] (fun i wr=>∃k:Nat,k<=n/\k<=m/\i=.int .i64 k/\Below w.heap.size w wr/\Hid (∀(j:Nat) (x y:ByteArray),j<k->a[a.length-1-j]? = some x->b[b.length-1-j]? = some y->x=y)) (fun i _=>n-(intOf i).toNat)
 case atStart=>exact ⟨0,Nat.zero_le _,Nat.zero_le _,rfl,Below.refl _ _,hid (fun j _ _ hj=>absurd hj (Nat.not_lt_zero _))⟩
 obtain ⟨k,hk,hk2,rfl,hbw,hj⟩:=hrel
 have hbd:=hbw.drew
 by_cases h1:k<n
 ·by_cases h2:k<m
  ·obtain ⟨b0,o0,x,rfl,hbb,hx,h0⟩:=ha.str (k:=n-1-k) (by omega)
   obtain ⟨b1,o1,y,rfl,hbb1,hy,h3⟩:=hb.str (k:=m-1-k) (by omega)
   have HX:=hid (show a[a.length-1-k]? = some x by rw[HA.out];exact hx)
   have HY:=hid (show b[b.length-1-k]? = some y by rw[HB.out];exact hy)
   clear hx hy
   go_wp2
   refine aAi (fun w'=>Below w.heap.size w w') (qs 29) mixed (by kernel_rfl) hbd ?_
   intro Tp M Q hT hT' hM hQ
   have m0:M ⟨b0,o0+(n-1-k),none⟩=some (.string x):=hM _ _ fun w' hw=>(hw.cell (p:=⟨b0,o0+(n-1-k),none⟩) hbb).trans h0
   have m1:M ⟨b1,o1+(m-1-k),none⟩=some (.string y):=hM _ _ fun w' hw=>(hw.cell (p:=⟨b1,o1+(m-1-k),none⟩) hbb1).trans h3
   have k1:decide ((k:Int)<n)=true:=decide_eq_true (by omega)
   have k2:decide ((k:Int)<m)=true:=decide_eq_true (by omega)
   have i1:(n:Int)-1-k=((n-1-k:Nat):Int):=by omega
   have i2:(m:Int)-1-k=((m-1-k:Nat):Int):=by omega
   simp only[qcmp]
   by_cases hq:x=y
   ·have e1:(x.toList == y.toList)=true:=by rw[hq];exact beq_self_eq_true _
    have HN:=hid (show ∀(j:Nat) (u v:ByteArray),j<k+1->a[a.length-1-j]? = some u->b[b.length-1-j]? = some v->u=v from fun j u v hj' hu hv=>by
     by_cases e:j=k
     ·subst e;rw[HX.out] at hu;rw[HY.out] at hv;injection hu with hu;injection hv with hv;rw[<-hu,<-hv];exact hq
     exact hj.out j u v (by omega) hu hv)
    simp (maxSteps:=9^7) only[↓qpre,aAb,aAd,aAc,i1,i2,m0,m1,k1,k2]
    (repeat refine And.intro (by first|omega|(unfold inI64;omega)) ?_)
    refine hQ _ _ ?_
    clear hQ hT hT' hM m0 m1 k1 k2 e1
    go_wp2
    go_roundw
    case rel=>exact ⟨k+1,by omega,by omega,by go_num,hbd,HN.out⟩
    simp[intOf];omega
   have e1:=aBw hq
   have HN:=hid (show sfx a b=k from aZy (by have:=HA.out;omega) (by have:=HB.out;omega) hj.out (.inr (.inr ⟨by have:=HA.out;omega,by have:=HB.out;omega,x,y,HX.out,HY.out,hq⟩)))
   simp (maxSteps:=9^7) only[↓qpre,aAb,aAd,aAc,i1,i2,m0,m1,k1,k2]
   (repeat refine And.intro (by first|omega|(unfold inI64;omega)) ?_)
   refine hQ _ _ ?_
   clear hQ hT hT' hM m0 m1 k1 k2
   go_wp2
   go_ret
   exact ⟨by rw[HN.out];rfl,hbd⟩
  have HN:=hid (show sfx a b=k from aZy (by have:=HA.out;omega) (by have:=HB.out;omega) hj.out (.inr (.inl (by have:=HB.out;omega))))
  go_wp2
  refine aAi (fun w'=>Below w.heap.size w w') (qs 29) mixed (by kernel_rfl) hbd ?_
  intro Tp M Q hT hT' hM hQ
  have k1:decide ((k:Int)<n)=true:=decide_eq_true (by omega)
  have k2:decide ((k:Int)<m)=false:=decide_eq_false (by omega)
  simp only[qcmp]
  simp (maxSteps:=9^7) only[↓qpre,aAb,aAd,aAc,k1,k2]
  refine hQ _ _ ?_
  clear hQ hT hT' hM k1 k2
  go_wp2
  go_ret
  exact ⟨by rw[HN.out];rfl,hbd⟩
 have HN:=hid (show sfx a b=k from aZy (by have:=HA.out;omega) (by have:=HB.out;omega) hj.out (.inl (by have:=HA.out;omega)))
 go_wp2
 refine aAi (fun w'=>Below w.heap.size w w') (qs 29) mixed (by kernel_rfl) hbd ?_
 intro Tp M Q hT hT' hM hQ
 have k1:decide ((k:Int)<n)=false:=decide_eq_false (by omega)
 simp only[qcmp]
 simp (maxSteps:=9^7) only[↓qpre,aAb,aAd,aAc,k1]
 refine hQ _ _ ?_
 clear hQ hT hT' hM k1
 go_wp2
 go_ret
 exact ⟨by rw[HN.out];rfl,hbd⟩
end Go.Proofs.YtohblmepajhpaaaGreatDoor
