/- Texts of the walks, together: Plain: the document's merge of three trees: where, added, put, both, one, and the whole. Walks: the document's where and added, of a merge of trees. -/
import Derived.Test.YtcemkikgaeghjaaGreatDoorG25
import Derived.Test.YtcemkikgaeghjaaGreatDoorG33
import Derived.Test.YtcemkikgaeghjaaGreatDoorG35
import Derived.Test.YtcemkikgaeghjaaGreatDoorG36
set_option maxHeartbeats 8000000
set_option maxRecDepth 100000
open Go.Lib (hid)
namespace Go.Proofs.YtcemkikgaeghjaaGreatDoor
open Go.RowKit
theorem aVz {ps:List (Nat×Nat)}(h:ps.Pairwise fun a b=>a.1≠b.1){x y:Nat}(hm:(x,y)∈ps):lookI ps x=(y:Int):=by
 unfold lookI
 cases hf:ps.find? (fun p=>decide (p.1=x)) with
 | none=>exact absurd (List.find?_eq_none.1 hf _ hm) (by simp)
 | some p=>
  have h1:p.1=x:=by simpa using List.find?_some hf
  have h2:=List.mem_of_find?_eq_some hf
  rcases aQb h h2 hm with e | e | e
  ·rw[e]
  ·exact absurd h1 e
  exact absurd h1.symm e
theorem bAs {ps:List (Nat×Nat)}{x:Nat}:lookI ps x<0↔∀y,(x,y)∉ps:=by
 unfold lookI
 cases hf:ps.find? (fun p=>decide (p.1=x)) with
 | none=>
  simp only[Int.reduceNeg,Int.reduceLT,true_iff]
  intro y hy
  exact absurd (List.find?_eq_none.1 hf _ hy) (by simp)
 | some p=>
  have h1:p.1=x:=by simpa using List.find?_some hf
  have h2:=List.mem_of_find?_eq_some hf
  obtain ⟨a,b⟩:=p
  simp only at h1;subst h1
  constructor
  ·intro h;simp at h;omega
  intro h;exact absurd h2 (h b)
theorem aIv {base side:List FV}{r:ByteArray×ByteArray}:r∈renF base side↔∃q∈pairsF base side,r=(pathAt base q.1,pathAt side q.2):=by
 have ok:=aCj base side
 have hp:(pairsF base side).Pairwise fun a b=>a.1≠b.1:=ok.one.imp fun h=>h.1
 unfold renF renL
 rw[List.mem_filterMap]
 constructor
 ·rintro ⟨i,hi,he⟩
  by_cases hn:lookI (pairsF base side) i<0
  ·rw[if_pos hn] at he;cases he
  rw[if_neg hn] at he
  injection he with he
  subst he
  have:∃y,(i,y)∈pairsF base side:=by
   refine Classical.byContradiction fun h=>hn (bAs.2 fun y hy=>h ⟨y,hy⟩)
  obtain ⟨y,hy⟩:=this
  refine ⟨(i,y),hy,?_⟩
  rw[aVz hp hy];rfl
 rintro ⟨⟨x,y⟩,hq,rfl⟩
 refine ⟨x,List.mem_range.2 (aBy (ok.from_ _ hq)),?_⟩
 rw[aVz hp hq,if_neg (by omega)];rfl
def whereD (side:List FV)(L:List (ByteArray×ByteArray))(f:FV):Option FV:=
 (findP side f.path).or (L.findSome? fun r=>if r.1=f.path then findP side r.2 else none)
def addedD (base side:List FV)(L:List (ByteArray×ByteArray)):List FV:=
 side.filter fun f=>(findP base f.path).isNone && !(L.any fun r=>decide (r.2=f.path))
theorem bFh {l:List FV}{i:Nat}(h:i<l.length):∃g,findP l (pathAt l i)=some g:=by
 cases hf:findP l (pathAt l i) with
 | some g=>exact ⟨g,rfl⟩
 | none=>
  have h1:=aWf (aKe.1 hf) (List.getElem_mem h)
  refine absurd ?_ h1
  unfold pathAt
  rw[List.getElem?_eq_getElem h];rfl
theorem aSb {base side:List FV}(hn:(base.map FV.path).Nodup)(f:FV):whereD side (renF base side) f=whereF base side f:=by
 have ok:=aCj base side
 unfold whereD whereF
 cases findP side f.path with
 | some x=>rfl
 | none=>
  rw[Option.none_or]
  show _=(movedF base side f.path).bind fun d=>findP side d
  cases hm:movedF base side f.path with
  | none=>
   show _=none
   rw[List.findSome?_eq_none_iff]
   intro r hr
   obtain ⟨q,hq,rfl⟩:=aIv.1 hr
   rw[if_neg]
   intro e
   have:(pairsF base side).find? (fun x=>decide (((base[x.1]?).map FV.path)=some f.path))=none:=by
    unfold movedF at hm
    cases hf:(pairsF base side).find? (fun x=>decide (((base[x.1]?).map FV.path)=some f.path)) with
    | none=>rfl
    | some x=>
     rw[hf] at hm
     have hx:=List.mem_of_find?_eq_some hf
     have hm':(side[x.2]?).map FV.path=none:=hm
     rw[aBq (aBy (ok.into x hx))] at hm'
     cases hm'
   have h2:=List.find?_eq_none.1 this q hq
   rw[aBq (aBy (ok.from_ q hq))] at h2
   exact h2 (decide_eq_true (congrArg some e))
  | some d=>
   show _=findP side d
   unfold movedF at hm
   cases hf:(pairsF base side).find? (fun x=>decide (((base[x.1]?).map FV.path)=some f.path)) with
   | none=>rw[hf] at hm;cases hm
   | some x=>
    rw[hf] at hm
    have hx:=List.mem_of_find?_eq_some hf
    have hm':(side[x.2]?).map FV.path=some d:=hm
    rw[aBq (aBy (ok.into x hx))] at hm'
    injection hm' with hm'
    have hq0:decide (((base[x.1]?).map FV.path)=some f.path)=true:=by simpa using List.find?_some (p:=fun x:Nat×Nat=>decide (((base[x.1]?).map FV.path)=some f.path)) hf
    have hq:=of_decide_eq_true hq0
    rw[aBq (aBy (ok.from_ x hx))] at hq
    injection hq with hq
    obtain ⟨g,hg⟩:=bFh (aBy (ok.into x hx))
    have hg2:findP side d=some g:=by rw[<-hm'];exact hg
    rw[hg2]
    have hall:∀r∈renF base side,(if r.1=f.path then findP side r.2 else none)=none\/(if r.1=f.path then findP side r.2 else none)=some g:=by
     intro r hr
     obtain ⟨q,hq',rfl⟩:=aIv.1 hr
     by_cases e:pathAt base q.1=f.path
     ·right
      have e1:q.1=x.1:=aOt hn (aBy (ok.from_ q hq')) (aBy (ok.from_ x hx)) (e.trans hq.symm)
      have e2:q=x:=by
       rcases aQb ok.one hq' hx with h | h | h
       ·exact h
       ·exact absurd e1 h.1
       exact absurd e1.symm h.1
      rw[if_pos e,e2];exact hg
     left;exact if_neg e
    cases hs:(renF base side).findSome? (fun r=>if r.1=f.path then findP side r.2 else none) with
    | none=>
     have:=List.findSome?_eq_none_iff.1 hs _ (aIv.2 ⟨x,hx,rfl⟩)
     rw[if_pos hq,hg] at this;cases this
    | some y=>
     obtain ⟨r,hr,he⟩:=List.exists_of_findSome?_eq_some hs
     rcases hall r hr with h | h
     ·rw[h] at he;cases he
     rw[h] at he;exact he.symm
theorem aTm (base side:List FV):addedD base side (renF base side)=addedF base side:=by
 have ok:=aCj base side
 unfold addedD addedF
 refine List.filter_congr fun f _=>?_
 congr 2
 rw[Bool.eq_iff_iff,List.any_eq_true,List.any_eq_true]
 constructor
 ·rintro ⟨r,hr,h⟩
  obtain ⟨q,hq,rfl⟩:=aIv.1 hr
  refine ⟨q,hq,?_⟩
  rw[aBq (aBy (ok.into q hq))]
  exact decide_eq_true (congrArg some (of_decide_eq_true h))
 rintro ⟨q,hq,h⟩
 rw[aBq (aBy (ok.into q hq))] at h
 have h:=of_decide_eq_true h
 injection h with h
 exact ⟨_,aIv.2 ⟨q,hq,rfl⟩,decide_eq_true h⟩
def putD (m:List FV×List CL)(f:FV)(kind:Int):List FV×List CL:=
 if ((findP m.1 f.path).isSome || clashF m.1 f.path)=true then (m.1,m.2++[⟨f.path,5,f.text⟩])
 else (sortedIn m.1 f,if kind=0 then m.2 else m.2++[⟨f.path,kind,f.text⟩])
def sortM (m:List FV×List CL):List FV×List CL:=(sortF m.1,m.2)
theorem aVi (l:List FV)(f:FV):(sortedIn l f).Perm (f::l):=by
 unfold sortedIn
 refine List.perm_middle.trans ?_
 rw[List.takeWhile_append_dropWhile]
theorem aPh:∀l:List FV,(sortF l).Perm l:=by
 have h:∀(l out:List FV),(l.foldl (fun out f=>sortedIn out f) out).Perm (out++l):=by
  intro l
  induction l with
  | nil=>intro out;simp
  | cons x l ih=>
   intro out
   rw[List.foldl_cons]
   refine (ih _).trans ?_
   refine ((aVi out x).append_right l).trans ?_
   rw[List.cons_append]
   exact List.perm_middle.symm
 intro l
 have:=h l []
 simpa[sortF] using this
theorem bAz (l:List FV)(f:FV):((findP l f.path).isSome || clashF l f.path)=l.any fun x=>clashP x.p f.p:=by
 rw[Bool.eq_iff_iff,Bool.or_eq_true,List.any_eq_true]
 unfold findP clashF
 rw[List.find?_isSome,List.any_eq_true]
 constructor
 ·rintro (⟨x,hx,h⟩ | ⟨x,hx,h⟩)
  ·refine ⟨x,hx,?_⟩
   have e:x.p=f.p:=FV.p_inj.2 (of_decide_eq_true h)
   unfold clashP
   rw[e];simp
  rw[Bool.and_eq_true] at h
  exact ⟨x,hx,h.2⟩
 rintro ⟨x,hx,h⟩
 by_cases e:x.path=f.path
 ·exact .inl ⟨x,hx,decide_eq_true e⟩
 refine .inr ⟨x,hx,?_⟩
 rw[decide_eq_false e]
 exact h
theorem aJw (m:List FV×List CL)(f:FV)(kind:Int):putD (sortM m) f kind=sortM (putM m f kind):=by
 unfold putD putM sortM
 simp only
 rw[bAz]
 have e:((sortF m.1).any fun x=>clashP x.p f.p)=m.1.any fun x=>clashP x.p f.p:=by
  rw[Bool.eq_iff_iff,List.any_eq_true,List.any_eq_true]
  constructor
  ·rintro ⟨x,hx,h⟩;exact ⟨x,(aPh m.1).mem_iff.1 hx,h⟩
  rintro ⟨x,hx,h⟩;exact ⟨x,(aPh m.1).mem_iff.2 hx,h⟩
 rw[e]
 split
 ·rfl
 simp only
 rw[show sortF (m.1++[f])=sortedIn (sortF m.1) f by unfold sortF;rw[List.foldl_append];rfl]
def bothD (m:List FV×List CL)(f o t:FV):List FV×List CL:=
 let path:=if o.path=f.path then t.path else o.path
 let kind:Int:=if o.path=f.path then 0 else if t.path≠f.path/\t.path≠o.path then 4 else 0
 let exec:=if o.exec=f.exec then t.exec else o.exec
 let r:=merge3F f.text o.text t.text
 putD m ⟨path,exec,r.1⟩ (if r.2=false/\kind=0 then 1 else kind)
def keptD (wa wb:FV->Option FV)(m:List FV×List CL)(f:FV):List FV×List CL:=
 match wa f,wb f with
 | some x,some y=>bothD m f x y
 | some x,none=>if f=x then m else putD m x 3
 | none,some y=>if f=y then m else putD m y 3
 | none,none=>m
def addOneD (theirs:List FV)(m:List FV×List CL)(x:FV):List FV×List CL:=
 match findP theirs x.path with
 | none=>putD m x 0
 | some y=>if y=x then putD m x 0 else putD m ⟨x.path,x.exec,(merge3F ⟨#[]⟩ x.text y.text).1⟩ 2
def addTwoD (ours:List FV)(m:List FV×List CL)(y:FV):List FV×List CL:=if (findP ours y.path).isNone=true then putD m y 0 else m
theorem bDz (m:List FV×List CL)(f o t:FV):bothD (sortM m) f o t=sortM (bothM m f o t):=by
 unfold bothD bothM
 exact aJw _ _ _
theorem bFt {base a b:List FV}{wa wb:FV->Option FV}(m:List FV×List CL)(f:FV)(ha:wa f=whereF base a f)(hb:wb f=whereF base b f):keptD wa wb (sortM m) f=sortM (keptM base a b m f):=by
 unfold keptD keptM
 rw[ha,hb]
 cases whereF base a f with
 | none=>
  cases whereF base b f with
  | none=>rfl
  | some y=>
   simp only[eq_comm (a:=f) (b:=y)]
   split
   ·rfl
   exact aJw _ _ _
 | some x=>
  cases whereF base b f with
  | none=>
   simp only[eq_comm (a:=f) (b:=x)]
   split
   ·rfl
   exact aJw _ _ _
  | some y=>exact bDz _ _ _ _
theorem aXz (theirs:List FV)(m:List FV×List CL)(x:FV):addOneD theirs (sortM m) x=sortM (addOne theirs m x):=by
 unfold addOneD addOne
 cases findP theirs x.path with
 | none=>exact aJw _ _ _
 | some y=>
  simp only[eq_comm (a:=y) (b:=x)]
  split<;>exact aJw _ _ _
theorem foldD {α:Type}{F G:List FV×List CL->α->List FV×List CL}:∀(l:List α),(∀m,∀x∈l,F (sortM m) x=sortM (G m x))->∀m,l.foldl F (sortM m)=sortM (l.foldl G m)
 | [],_,_=>rfl
 | x::l,h,m=>by
  rw[List.foldl_cons,List.foldl_cons,h m x List.mem_cons_self]
  exact foldD l (fun m y hy=>h m y (List.mem_cons_of_mem _ hy)) _
theorem aHt (ours:List FV):∀(l:List FV)(m:List FV×List CL),l.foldl (addTwoD ours) (sortM m)=sortM ((l.filter fun y=>(findP ours y.path).isNone).foldl (fun m y=>putM m y 0) m)
 | [],_=>rfl
 | y::l,m=>by
  rw[List.foldl_cons,List.filter_cons]
  unfold addTwoD
  by_cases h:(findP ours y.path).isNone=true
  ·rw[if_pos h,if_pos h,List.foldl_cons,aJw]
   exact aHt ours l _
  rw[if_neg h,if_neg h]
  exact aHt ours l _
def wholeD (base:List FV)(wa wb:FV->Option FV)(ours theirs:List FV):List FV×List CL:=
 theirs.foldl (addTwoD ours) (ours.foldl (addOneD theirs) (base.foldl (keptD wa wb) ([],[])))
theorem bCv {base a b:List FV}{wa wb:FV->Option FV}(ha:∀f,wa f=whereF base a f)(hb:∀f,wb f=whereF base b f) :
  wholeD base wa wb (addedF base a) (addedF base b)=sortM (wholeF base a b):=by
 unfold wholeD wholeF addM
 rw[show (([],[]):List FV×List CL)=sortM ([],[]) from rfl]
 rw[foldD base (fun m f _=>bFt m f (ha f) (hb f))]
 rw[foldD (addedF base a) (fun m x _=>aXz _ m x),aHt]
 rfl
def insC (out:List CL)(c:CL):List CL:=out.takeWhile (fun x=>decide (x.path.data.toList<=c.path.data.toList))++c::out.dropWhile (fun x=>decide (x.path.data.toList<=c.path.data.toList))
def UpC (l:List CL):Prop:=l.Pairwise fun a b=>a.path.data.toList<=b.path.data.toList
theorem bHn {a b c:Bs}(h:a<=b)(k:b<=c):a<=c:=by
 rcases Classical.em (a<=c) with h' | h'
 ·exact h'
 exact absurd (List.lt_of_le_of_lt k (List.not_le.1 h')) (fun h2=>absurd h (List.not_le.2 h2))
theorem aXb {out:List CL}{c:CL}{k:Nat}(h:UpC out)(hk:k<=out.length)(h1:∀x,(h0:0<k)->out[k-1]? = some x->x.path.data.toList<=c.path.data.toList)(h2:∀x,out[k]? = some x->c.path.data.toList<x.path.data.toList) :
  insC out c=out.take k++c::out.drop k:=by
 have hlo:∀x∈out.take k,decide (x.path.data.toList<=c.path.data.toList)=true:=by
  intro x hx
  obtain ⟨i,hi,rfl⟩:=List.getElem_of_mem hx
  rw[List.length_take] at hi
  rw[List.getElem_take]
  have h0:0<k:=by omega
  have hlast:=h1 out[k-1] h0 (List.getElem?_eq_getElem (by omega))
  refine decide_eq_true ?_
  by_cases e:i=k-1
  ·subst e;exact hlast
  exact bHn (List.pairwise_iff_getElem.1 h i (k-1) (by omega) (by omega) (by omega)) hlast
 have hhi:out.drop k=[]\/∃x r,out.drop k=x::r/\decide (x.path.data.toList<=c.path.data.toList)=false:=by
  cases hd:out.drop k with
  | nil=>exact .inl rfl
  | cons x r=>
   have hx:out[k]? = some x:=by
    have:=congrArg (fun l=>l[0]?) hd
    simpa using this
   exact .inr ⟨x,r,rfl,decide_eq_false (List.not_le.2 (h2 x hx))⟩
 unfold insC
 conv=>lhs;rw[<-List.take_append_drop k out]
 rw[List.takeWhile_append_of_pos hlo,List.dropWhile_append_of_pos hlo]
 rcases hhi with e | ⟨x,r,e,hx⟩
 ·rw[e];simp
 rw[e,List.takeWhile_cons_of_neg (by rw[hx];simp),List.dropWhile_cons_of_neg (by rw[hx];simp),List.append_nil]
theorem bGt {out:List CL}{c:CL}(h:UpC out):UpC (insC out c):=by
 have hsp:=List.takeWhile_append_dropWhile (p:=fun x:CL=>decide (x.path.data.toList<=c.path.data.toList)) (l:=out)
 unfold UpC at h ⊢
 rw[<-hsp,List.pairwise_append] at h
 obtain ⟨p1,p2,p3⟩:=h
 have hlo:∀x∈out.takeWhile (fun x:CL=>decide (x.path.data.toList<=c.path.data.toList)),x.path.data.toList<=c.path.data.toList:=by
  intro x hx
  have:=List.all_eq_true.1 (List.all_takeWhile (p:=fun x:CL=>decide (x.path.data.toList<=c.path.data.toList)) (l:=out)) x hx
  exact of_decide_eq_true this
 have hhi:∀x∈out.dropWhile (fun x:CL=>decide (x.path.data.toList<=c.path.data.toList)),c.path.data.toList<=x.path.data.toList:=by
  intro x hx
  cases hd:out.dropWhile (fun x:CL=>decide (x.path.data.toList<=c.path.data.toList)) with
  | nil=>rw[hd] at hx;cases hx
  | cons y r=>
   have hy:decide (y.path.data.toList<=c.path.data.toList)=false:=by
    have h0:=List.head?_dropWhile_not (fun x:CL=>decide (x.path.data.toList<=c.path.data.toList)) out
    rw[hd] at h0
    simpa using h0
   have hy2:c.path.data.toList<=y.path.data.toList:=by
    have:=List.not_le.1 (of_decide_eq_false hy)
    exact List.le_of_lt this
   rw[hd] at hx p2
   rcases List.mem_cons.1 hx with rfl | hx
   ·exact hy2
   exact bHn hy2 ((List.pairwise_cons.1 p2).1 x hx)
 unfold insC
 rw[List.pairwise_append]
 refine ⟨p1,List.pairwise_cons.2 ⟨hhi,p2⟩,fun a ha b hb=>?_⟩
 rcases List.mem_cons.1 hb with rfl | hb
 ·exact hlo a ha
 exact p3 a ha b hb
theorem aYk (l:List CL)(c:CL):sortC (l++[c])=insC (sortC l) c:=by
 unfold sortC;rw[List.foldl_append];rfl
theorem bEd:∀l:List CL,UpC (sortC l):=by
 have h:∀(l out:List CL),UpC out->UpC (l.foldl (fun out c=>insC out c) out):=by
  intro l
  induction l with
  | nil=>intro out h;exact h
  | cons x l ih=>intro out h;exact ih _ (bGt h)
 intro l
 exact h l [] List.Pairwise.nil
structure WhA (w wr:World) (g8:Nat) (f:FV) (cur:Option FV):Prop where
 bel:Below w.heap.size w wr
 xf:wr.heap[w.heap.size]? = some (.cells #[.string f.path,.bool f.exec,.string f.text] 28 (0,0))
 x6:wr.heap[w.heap.size+1]? = some (.cells #[.string ⟨#[]⟩,.bool false,.string ⟨#[]⟩] 28 (0,0))
 x8:wr.heap[g8]? = some (.cells #[.string (optF cur).path,.bool (optF cur).exec,.string (optF cur).text] 28 (0,0))
 lt:w.heap.size+1<g8
section
variable {w wr wv:World} {g8:Nat} {f:FV} {cur:Option FV}
theorem WhA.below (h:WhA w wr g8 f cur)(hb:Below wr.heap.size wr wv):WhA w wv g8 f cur:=
 ⟨h.bel.trans (hb.mono h.bel.size),(hb.block _ (aAa h.xf)).trans h.xf,(hb.block _ (aAa h.x6)).trans h.x6,(hb.block _ (aAa h.x8)).trans h.x8,h.lt⟩
theorem WhA.put (h:WhA w wr g8 f cur)(c2:Option FV):WhA w (wr.setRow g8 #[.string (optF c2).path,.bool (optF c2).exec,.string (optF c2).text]) g8 f c2:=by
 have hl:=h.lt
 refine ⟨aAk h.bel (by omega),?_,?_,setRow_heap _ _ _ _ _ _ h.x8,h.lt⟩
 ·rw[setRow_other _ _ _ _ (show w.heap.size≠g8 by omega)];exact h.xf
 rw[setRow_other _ _ _ _ (show w.heap.size+1≠g8 by omega)];exact h.x6
end
theorem bBf {side:List FV}{L:List (ByteArray×ByteArray)}{k:Nat}{r:ByteArray×ByteArray}{p:ByteArray}(hr:L[k]? = some r) :
  (L.drop k).findSome? (fun r=>if r.1=p then findP side r.2 else none)=(if r.1=p then findP side r.2 else none).or ((L.drop (k+1)).findSome? fun r=>if r.1=p then findP side r.2 else none):=by
 obtain ⟨hk,rfl⟩:=List.getElem?_eq_some_iff.1 hr
 rw[List.drop_eq_getElem_cons hk,List.findSome?_cons]
 cases h:(if L[k].1=p then findP side L[k].2 else none) with
 | none=>rfl
 | some x=>rfl
theorem bGe {w wr:World}{R:Option Addr}{q d k:Nat}{L:List (ByteArray×ByteArray)}(h:Rd w w.heap.size 2 R q d (L.flatMap renV))(hb:Below w.heap.size w wr)(hl:L.length=q)(hk:k<q) :
  ∃b o r,R=some ⟨b,o,none⟩/\b<w.heap.size/\L[k]? = some r/\wr.cell? ⟨b,o+k*2,none⟩=some (.string r.1)/\wr.cell? ⟨b,o+k*2+1,none⟩=some (.string r.2):=by
 obtain ⟨b,o,r,e,hbb,hx,_,hc⟩:=T.rd_flat (f:=renV) (sz:=2) (fun _=>rfl) (by omega) h hl hk
 exact ⟨b,o,r,e,hbb,hx,(hb.cell (p:=⟨b,o+k*2,none⟩) hbb).trans (hc 0 _ rfl),(hb.cell (p:=⟨b,o+k*2+1,none⟩) hbb).trans (hc 1 _ rfl)⟩
theorem aOn {f:FV}{A R:Option Addr}{n c q d:Nat}{side:List FV}{L:List (ByteArray×ByteArray)}{w:World}(hn:n<=17592186044416)(hq:q<=17592186044416)
  (ha:RdF w w.heap.size A n c side) (hr:Rd w w.heap.size 2 R q d (L.flatMap renV)) (hL:L.length=q) :
  Calls Tryz.prog 34 #[.agg #[.string f.path,.bool f.exec,.string f.text],.slice A n c,.slice R q d] w (FoundIs (whereD side L f) w):=by
 have HW:=hid (show whereD side L f=(findP side f.path).or (L.findSome? fun r=>if r.1=f.path then findP side r.2 else none) from rfl)
 have HLQ:=hid hL
 have hi24:(Tryz.prog.info? 28).map (·.size)=some 3:=by kernel_rfl
 have KF:=hid (fun (p:ByteArray) (u:World) (hu:Below w.heap.size w u)=>aDy (p:=p) hn (ha.to hu hu.size))
 obtain ⟨W,hW⟩:∃u,u=(w.alloc (.cells #[.string f.path,.bool f.exec,.string f.text] 28)).alloc (.cells #[.string ⟨#[]⟩,.bool false,.string ⟨#[]⟩] 28):=⟨_,rfl⟩
 have hb0:Below w.heap.size w (w.alloc (.cells #[.string f.path,.bool f.exec,.string f.text] 28)):=(Below.refl _ _).alloc (Nat.le_refl _) _
 have hbW:Below w.heap.size w W:=by rw[hW];exact hb0.alloc (by simp) _
 have hxf:W.heap[w.heap.size]? = some (.cells #[.string f.path,.bool f.exec,.string f.text] 28 (0,0)):=by
  rw[hW]
  have h1:=(Below.refl (w.heap.size+1) (w.alloc (.cells #[.string f.path,.bool f.exec,.string f.text] 28))).alloc (by simp) (.cells #[.string ⟨#[]⟩,.bool false,.string ⟨#[]⟩] 28)
  exact (h1.block _ (Nat.lt_succ_self _)).trans (heap_alloc_new _ _)
 have hx6:W.heap[w.heap.size+1]? = some (.cells #[.string ⟨#[]⟩,.bool false,.string ⟨#[]⟩] 28 (0,0)):=by
  rw[hW]
  have h2:=heap_alloc_new (w.alloc (.cells #[.string f.path,.bool f.exec,.string f.text] 28)) (.cells #[.string ⟨#[]⟩,.bool false,.string ⟨#[]⟩] 28)
  rw[show (w.alloc (.cells #[.string f.path,.bool f.exec,.string f.text] 28)).heap.size=w.heap.size+1 by simp] at h2
  exact h2
 have hzW:W.heap.size=w.heap.size+2:=by rw[hW];simp
 have k0:W.cell? ⟨w.heap.size,0,none⟩=some (.string f.path):=by rw[Lib.cell_of_heap hxf];rfl
 have K1:=KF.out f.path W hbW
 have HX:=hid (And.intro hbW (And.intro hxf (And.intro hx6 hzW)))
 rw[hW] at k0
 clear hb0 hbW hxf hx6 hzW hL
 go_enter Tryz.func34,Tryz.ntmps34
 go_wp2_with fail
 rw[<-hW]
 clear k0 hW
 refine K1.mono ?_
 rintro e x1 ⟨rfl,hb1⟩
 obtain ⟨hbW,hxf,hx6,hzW⟩:=HX.out
 obtain ⟨V,hV⟩:∃u,u=x1.alloc (.cells #[.string (optF (findP side f.path)).path,.bool (optF (findP side f.path)).exec,.string (optF (findP side f.path)).text] 28):=⟨_,rfl⟩
 have hb2:Below x1.heap.size x1 V:=by rw[hV];exact (Below.refl _ _).alloc (Nat.le_refl _) _
 have hb3:Below W.heap.size W V:=hb1.trans (hb2.mono hb1.size)
 have HA0:=hid (show WhA w V x1.heap.size f (findP side f.path) from
  ⟨hbW.trans (hb3.mono hbW.size),(hb3.block _ (aAa hxf)).trans hxf,(hb3.block _ (aAa hx6)).trans hx6,by rw[hV];exact heap_alloc_new _ _,by have:=hb1.size;omega⟩)
 have HC0:Hid (whereD side L f=(findP side f.path).or ((L.drop 0).findSome? fun r=>if r.1=f.path then findP side r.2 else none)):=HW
 clear hb1 hb2 hb3 hbW hxf hx6 hzW HX K1 HW
 generalize findP side f.path=cur at *
 go_wp2
 rw[<-hV]
 clear hV
 go_loopw[9,10] (fun tv iv wr=>∃(k:Nat) (cur:Option FV),k<=q/\iv=.int .i64 k/\tv=.bool cur.isSome/\Hid (WhA w wr x1.heap.size f cur)/\Hid (whereD side L f=cur.or ((L.drop k).findSome? fun r=>if r.1=f.path then findP side r.2 else none))) (fun _ iv _=>q-(intOf iv).toNat)
 case atStart=>exact ⟨0,cur,Nat.zero_le _,rfl,rfl,HA0,HC0⟩
 clear HA0 HC0
 obtain ⟨k,cur,hk,rfl,rfl,HA,HC⟩:=hrel
 have y0:wr.cell? ⟨x1.heap.size,0,none⟩=some (.string (optF cur).path):=by rw[Lib.cell_of_heap HA.out.x8];rfl
 have y1:wr.cell? ⟨x1.heap.size,1,none⟩=some (.bool (optF cur).exec):=by rw[Lib.cell_of_heap HA.out.x8];rfl
 have y2:wr.cell? ⟨x1.heap.size,2,none⟩=some (.string (optF cur).text):=by rw[Lib.cell_of_heap HA.out.x8];rfl
 have h6:=HA.out.x6
 by_cases hend:cur.isSome=true\/k=q
 case pos=>
  have HE:Hid (whereD side L f=cur):=by
   rw[HC.out]
   rcases hend with h | h
   ·cases cur with
    | none=>cases h
    | some x=>rfl
   rw[List.drop_of_length_le (by rw[HLQ.out];omega)]
   cases cur<;>rfl
  have HF:Hid (∀cs,Below w.heap.size w (wr.setRow (w.heap.size+1) cs)):=fun cs=>aAk HA.out.bel (by omega)
  have HS:Hid (∀cs,(wr.setRow (w.heap.size+1) cs).heap[w.heap.size+1]? = some (.cells cs 28 (0,0))):=fun cs=>setRow_heap _ _ _ _ _ _ HA.out.x6
  by_cases hkq:k<q
  case' pos=>
   have hs:cur.isSome=true:=by rcases hend with h | h;exact h;omega
   rw[hs]
  case' neg=>
   obtain rfl:k=q:=by omega
   generalize hs:cur.isSome=s at *
  all_goals
   go_wp2_with (refine wpList_store_row rfl 28 (.tmp 6) (.tmp 46) rfl (w.heap.size+1) #[.string (optF cur).path,.bool (optF cur).exec,.string (optF cur).text] rfl rfl _ _ h6 hi24 rfl (by simp[Value.oneCell']) ?_)
   try simp only[Exit.inBlock,Exit.then]
   refine bodyPost_ret (aAn rfl _ _ (w.heap.size+1) _ _ (0,0) _ rfl (HS.out _) Tryz.underlying28 rfl (by kernel_rfl)) rfl ?_
   refine ⟨?_,HF.out _⟩
   rw[HE.out]
   first | rfl | (rw[hs];rfl)
 have hnone:cur=none:=by
  cases cur with
  | none=>rfl
  | some x=>exact absurd (.inl rfl) hend
 subst hnone
 have hkq:k<q:=by
  rcases Nat.lt_or_ge k q with h | h
  ·exact h
  exact absurd (.inr (by omega)) hend
 clear hend
 obtain ⟨b0,o0,r,rfl,hbb,hx,r0,r1⟩:=bGe hr HA.out.bel HLQ.out hkq
 have HC2:=hid (HC.out.trans (by rw[Option.none_or,bBf hx]))
 have f0:wr.cell? ⟨w.heap.size,0,none⟩=some (.string f.path):=by rw[Lib.cell_of_heap HA.out.xf];rfl
 have hwl:=aAa HA.out.xf
 clear hx HC
 obtain ⟨ra,rb⟩:=r
 dsimp only at r0 r1 HC2
 simp only[Option.isSome_none]
 have hbd:Below wr.heap.size wr wr.drew:=(Below.refl _ _).drew
 by_cases hq2:ra=f.path
 ·have e1:(ra.toList == f.path.toList)=true:=by rw[hq2];exact beq_self_eq_true _
  have e2:decide (ra=f.path)=true:=decide_eq_true hq2
  have HC3:=hid (HC2.out.trans (by rw[if_pos hq2]))
  have HD:=hid (HA.out.below hbd)
  clear hq2 HC2
  go_wp2
  refine aAd (fun w'=>w'=wr.drew) (qs 8) mixed (by kernel_rfl) rfl ?_
  intro Tp M Q hT hT' hM hQ
  have m0:M ⟨b0,o0+k*2,none⟩=some (.string ra):=hM _ _ fun w' hw=>by subst hw;exact r0
  have m1:M ⟨w.heap.size,0,none⟩=some (.string f.path):=hM _ _ fun w' hw=>by subst hw;exact f0
  simp only[qcmp]
  simp (maxSteps:=9^7) only[↓qpre,aAb,aAf,aAc,m0,m1]
  (repeat refine ⟨by first|omega|(unfold inI64;omega),?_⟩)
  refine hQ _ _ ?_
  clear hQ hT hT' hM m0 m1 e1 y0 y1 y2 h6
  simp only[e2]
  clear e2
  have K2:=KF.out rb wr.drew HD.out.bel
  have q1:wr.drew.cell? ⟨b0,o0+k*2+1,none⟩=some (.string rb):=r1
  clear r0 r1 f0 HA
  generalize wr.drew=wd at *
  go_wp2_with fail
  refine K2.mono ?_
  rintro e x2 ⟨rfl,hb2⟩
  have HD2:=hid (HD.out.below hb2)
  have hb8:=HD2.out.x8
  have HP:=hid (HD2.out.put (findP side rb))
  clear K2 hb2 HD q1
  generalize findP side rb=c2 at *
  go_wp2_with (refine wpList_store_row rfl 28 (.tmp 8) (.tmp 44) rfl x1.heap.size #[.string (optF c2).path,.bool (optF c2).exec,.string (optF c2).text] rfl rfl _ _ hb8 hi24 rfl (by simp[Value.oneCell']) ?_)
  go_roundw
  case rel=>exact ⟨k+1,c2,by omega,by go_num,rfl,HP,HC3⟩
  simp[intOf];omega
 have e1:=aBe hq2
 have e2:decide (ra=f.path)=false:=decide_eq_false hq2
 have HC3:=hid (HC2.out.trans (by rw[if_neg hq2,Option.none_or]))
 have HD:=hid (HA.out.below hbd)
 clear hq2 HC2
 go_wp2
 refine aAd (fun w'=>w'=wr.drew) (qs 8) mixed (by kernel_rfl) rfl ?_
 intro Tp M Q hT hT' hM hQ
 have m0:M ⟨b0,o0+k*2,none⟩=some (.string ra):=hM _ _ fun w' hw=>by subst hw;exact r0
 have m1:M ⟨w.heap.size,0,none⟩=some (.string f.path):=hM _ _ fun w' hw=>by subst hw;exact f0
 simp only[qcmp]
 simp (maxSteps:=9^7) only[↓qpre,aAb,aAf,aAc,m0,m1]
 (repeat refine ⟨by first|omega|(unfold inI64;omega),?_⟩)
 refine hQ _ _ ?_
 clear hQ hT hT' hM m0 m1 e1 y0 y1 y2 h6 r0 r1 f0
 simp only[e2]
 clear e2
 go_wp2
 go_roundw
 case rel=>exact ⟨k+1,none,by omega,by go_num,rfl,HD,HC3⟩
 simp[intOf];omega
def isAdded (base:List FV)(L:List (ByteArray×ByteArray))(f:FV):Bool:=(findP base f.path).isNone && !(L.any fun r=>decide (r.2=f.path))
theorem aUn {base side:List FV}{L:List (ByteArray×ByteArray)}{k:Nat}{f:FV}(hx:side[k]? = some f):(side.take (k+1)).filter (isAdded base L)=(side.take k).filter (isAdded base L)++if isAdded base L f then [f] else []:=by
 rw[List.take_add_one,hx,List.filter_append]
 congr 1
 cases h:isAdded base L f<;>simp[h]
theorem bFs {L:List (ByteArray×ByteArray)}{k:Nat}{r:ByteArray×ByteArray}{p:ByteArray}(hr:L[k]? = some r):((L.take (k+1)).any fun r=>decide (r.2=p))=(((L.take k).any fun r=>decide (r.2=p)) || decide (r.2=p)):=by
 rw[List.take_add_one,hr,List.any_append];simp
theorem aPf {A B R:Option Addr}{n c m cb q d:Nat}{base side:List FV}{L:List (ByteArray×ByteArray)}{w:World}(hn:n<=1000000)(hm:m<=1000000)(hq:q<=1000000)
  (ha:RdF w w.heap.size A n c base) (hb:RdF w w.heap.size B m cb side) (hr:Rd w w.heap.size 2 R q d (L.flatMap renV)) (hL:L.length=q) :
  Calls Tryz.prog 37 #[.slice A n c,.slice B m cb,.slice R q d] w (FilesIsN (·=addedD base side L) w):=by
 have HAD:=hid (show addedD base side L=side.filter (isAdded base L) from rfl)
 have HLQ:=hid hL
 have HLS:=hid hb.len
 have HFS:=hid hb.fits
 have KF:=hid (fun (p:ByteArray) (u:World) (hu:Below w.heap.size w u)=>aDy (p:=p) (by omega) (ha.to hu hu.size))
 clear hL ha
 go_enter Tryz.func37,Tryz.ntmps37
 go_wp2
 go_loopw[7,8] (fun ov iv wr=>∃k:Nat,k<=m/\iv=.int .i64 k/\Hid (Below w.heap.size w wr)/\Hid (wr.ownsRow w.heap.size 28 3 ov ((side.take k).filter (isAdded base L)).length (((side.take k).filter (isAdded base L)).flatMap FV.cells))) (fun _ iv _=>m-(intOf iv).toNat)
 case atStart=>exact ⟨0,Nat.zero_le _,rfl,hid (Below.refl _ _),World.ownsRow_nil _ _ _ _⟩
 obtain ⟨k,hk,rfl,HB,HO⟩:=hrel
 have hle:((side.take k).filter (isAdded base L)).length<=k:=Nat.le_trans (List.length_filter_le _ _) (by rw[List.length_take];omega)
 by_cases hlt:k<m
 ·obtain ⟨b0,o0,f,rfl,hbb,hx,hmem,h0,h1,h2⟩:=hb.get hlt
  replace h0:=(HB.out.cell (p:=⟨b0,o0+k*3,none⟩) (by show b0<_;omega)).trans h0
  have HST:=hid (aUn (base:=base) (L:=L) hx)
  have HIS:=hid (show isAdded base L f=((findP base f.path).isNone && !(L.any fun r=>decide (r.2=f.path))) from rfl)
  have H1:=hid (And.intro h1 h2)
  have K1:=KF.out f.path wr HB.out
  clear hx hmem h1 h2
  generalize (side.take k).filter (isAdded base L)=P at *
  generalize hpl:P.length=np at *
  have HPL:=hid hpl
  clear hpl
  obtain ⟨fp,fx,ft⟩:=f
  dsimp only at h0 H1 HIS K1
  go_wp2_with fail
  refine K1.mono ?_
  rintro e w1 ⟨rfl,hb1⟩
  generalize findP base fp=F at *
  have hb2:Below w1.heap.size w1 (w1.alloc (.cells #[.string (optF F).path,.bool (optF F).exec,.string (optF F).text] 28)):=(Below.refl _ _).alloc (Nat.le_refl _) _
  have hb12:=hb1.trans (hb2.mono hb1.size)
  have HB2:=hid (HB.out.trans (hb12.mono HB.out.size))
  have HO2:=hid (aAe HO.out hb12)
  have HC:=hid (show ∀u,Below w.heap.size w u->u.cell? ⟨b0,o0+k*3,none⟩=some (.string fp)/\u.cell? ⟨b0,o0+k*3+1,none⟩=some (.bool fx)/\u.cell? ⟨b0,o0+k*3+2,none⟩=some (.string ft) from fun u hu=>
   ⟨(hu.cell (p:=⟨b0,o0+k*3,none⟩) hbb).trans ((HB.out.cell (p:=⟨b0,o0+k*3,none⟩) hbb).symm.trans h0),(hu.cell (p:=⟨b0,o0+k*3+1,none⟩) hbb).trans H1.out.1,(hu.cell (p:=⟨b0,o0+k*3+2,none⟩) hbb).trans H1.out.2⟩)
  clear K1 hb1 hb2 hb12 h0 H1 HB HO
  go_wp2
  generalize w1.alloc (.cells #[.string (optF F).path,.bool (optF F).exec,.string (optF F).text] 28)=w2 at *
  go_loopw[10,11] (fun tv jv wk=>∃j:Nat,j<=q/\jv=.int .i64 j/\tv=.bool (F.isSome || (L.take j).any fun r=>decide (r.2=fp))/\Hid (Below w2.heap.size w2 wk)) (fun _ jv _=>q-(intOf jv).toNat)
  case atStart=>exact ⟨0,Nat.zero_le _,rfl,by simp,hid (Below.refl _ _)⟩
  obtain ⟨j,hj,rfl,rfl,HK⟩:=hrel
  have HBK:=hid (HB2.out.trans (HK.out.mono HB2.out.size))
  obtain ⟨c0,c1,c2⟩:=HC.out wr HBK.out
  by_cases hlj:j<q
  ·obtain ⟨b1,o1,r,rfl,hbr,hxr,r0,r1⟩:=bGe hr HBK.out HLQ.out hlj
   have HAS:=hid (bFs (p:=fp) hxr)
   clear hxr r0 c1 c2
   obtain ⟨ra,rb⟩:=r
   dsimp only at r1 HAS
   generalize (L.take j).any (fun r=>decide (r.2=fp))=an at *
   have hd2:Below wr.heap.size wr wr.drew:=(Below.refl _ _).drew
   have HKD:=hid (HK.out.trans (hd2.mono HK.out.size))
   cases hsb:(F.isSome || an) with
   | true=>
    have HAS2:Hid ((F.isSome || (L.take (j+1)).any fun r=>decide (r.2=fp))=true):=by
     rw[HAS.out,<-Bool.or_assoc,hsb,Bool.true_or];exact rfl
    go_wp2
    refine aAd (fun w'=>w'=wr.drew) (qs 15) mixed (by kernel_rfl) rfl ?_
    intro Tp M Q hT hT' hM hQ
    simp only[qcmp]
    simp (maxSteps:=9^7) only[↓qpre,aAb,aAc]
    (repeat refine ⟨by first|omega|(unfold inI64;omega),?_⟩)
    refine hQ _ _ ?_
    clear hQ hT hT' hM r1 c0 hsb
    go_wp2
    go_roundw
    case rel=>exact ⟨j+1,by omega,by go_num,by rw[HAS2.out],HKD⟩
    simp[intOf];omega
   | false=>
    have hF:F.isSome=false/\an=false:=by simpa using hsb
    have HAS2:Hid ((F.isSome || (L.take (j+1)).any fun r=>decide (r.2=fp))=decide (rb=fp)):=by
     rw[HAS.out,<-Bool.or_assoc,hsb,Bool.false_or];exact rfl
    clear hF
    have e1:(rb.toList == fp.toList)=decide (rb=fp):=aRw _ _
    go_wp2
    refine aAd (fun w'=>w'=wr.drew) (qs 15) mixed (by kernel_rfl) rfl ?_
    intro Tp M Q hT hT' hM hQ
    have m0:M ⟨b1,o1+j*2+1,none⟩=some (.string rb):=hM _ _ fun w' hw=>by subst hw;exact r1
    have m1:M ⟨b0,o0+k*3,none⟩=some (.string fp):=hM _ _ fun w' hw=>by subst hw;exact c0
    simp only[qcmp]
    simp (maxSteps:=9^7) only[↓qpre,aAb,aAf,aAc,m0,m1]
    (repeat refine ⟨by first|omega|(unfold inI64;omega),?_⟩)
    refine hQ _ _ ?_
    clear hQ hT hT' hM r1 c0 hsb m0 m1 e1
    go_wp2
    go_roundw
    case rel=>exact ⟨j+1,by omega,by go_num,by rw[HAS2.out],HKD⟩
    simp[intOf];omega
  obtain rfl:j=q:=by omega
  have HAN:=hid (show (F.isSome || (L.take j).any fun r=>decide (r.2=fp))=!isAdded base L ⟨fp,fx,ft⟩ by
   rw[HIS.out,List.take_of_length_le (by rw[HLQ.out];omega)]
   cases F<;>simp)
  have HOK:=hid (aAe HO2.out HK.out)
  rw[HAN.out]
  clear HAN HIS HO2
  cases hia:isAdded base L ⟨fp,fx,ft⟩ with
  | true=>
   have HST:=hid (HST.out.trans (by rw[hia]))
   have hba:=HBK.out.alloc HBK.out.size (.cells #[.string fp,.bool fx,.string ft] 28)
   have hoa:=HOK.out.alloc (.cells #[.string fp,.bool fx,.string ft] 28)
   have hli:=aMk wr ⟨fp,fx,ft⟩
   clear hia
   go_wp2_with (at_builtin;refine aAm rfl (.tmp 50) (.tmp 55) 22 rfl aCm rfl rfl hoa hli (aBi _) (by unfold maxLen;omega) (by omega) hba.size ?_;intro v7 w7 ho7 hg7 hv7)
   have HB7:=hid (hba.grown hg7 hba.size (fun g hg=>(hoa.lt g hg).1))
   have HO7:=hid ho7
   clear ho7 hg7 hv7 hba hoa hli HB2 HOK HBK HK
   go_roundw
   case rel=>exact ⟨k+1,by omega,by go_num,HB7,by rw[HST.out];simp only[if_true,List.length_append,List.flatMap_append,HPL.out];exact HO7⟩
   simp[intOf];omega
  | false=>
   have HST:=hid (HST.out.trans (by rw[hia]))
   clear hia
   go_wp2
   go_roundw
   case rel=>exact ⟨k+1,by omega,by go_num,HBK,by rw[HST.out];simp only[Bool.false_eq_true,if_false,List.append_nil,HPL.out];exact HOK⟩
   simp[intOf];omega
 obtain rfl:k=m:=by omega
 rw[List.take_of_length_le (by rw[HLS.out];exact Nat.le_refl _)] at HO
 obtain ⟨A7,c7,rfl,hc7⟩:=aAg HO.out
 have HR:=hid (Rd.of_own HO.out hc7)
 have HNA:=hid (show NewAt A7 w.heap.size from fun b o s hA=>(HO.out.lt b (by rw[hA];rfl)).1)
 clear HO
 generalize hpl:(side.filter (isAdded base L)).length=np at *
 have HPL:=hid hpl
 clear hpl
 go_wp2
 go_ret
 refine ⟨A7,c7,side.filter (isAdded base L),by rw[HPL.out];rfl,HAD.out.symm,⟨by rw[HPL.out];exact HR.out,rfl,fun x hx=>HFS.out x (List.mem_filter.1 hx).1⟩,HB.out,HNA.out⟩
end Go.Proofs.YtcemkikgaeghjaaGreatDoor
