/- Texts of the walks, together: Plain law: the steps of symMerge and of the insertion sort merge. Clashes in memory; two of them exchanged. Walk: (*treemerge.side).where. -/
import Derived.Test.YtcemkikgaeghjaaGreatDoorG25
set_option maxHeartbeats 8000000
set_option maxRecDepth 100000
open Go.Lib (hid)
namespace Go.Proofs.YtcemkikgaeghjaaGreatDoor
section
variable {α:Type} {le:α->α->Bool}
theorem aUs {d:List α}{u v:Nat}(h:Asc le d u v):(segL d u v).Pairwise (fun a b=>le a b=true):=by
 rw[List.pairwise_iff_getElem]
 intro i j hi hj hij
 have e1:=List.getElem?_eq_getElem hi
 have e2:=List.getElem?_eq_getElem hj
 rw[aBu] at e1 e2
 split at e1
 ·split at e2
  ·exact h _ _ _ _ (by omega) (by omega) (by assumption) e1 e2
  cases e2
 cases e1
theorem aQe {d d':List α} {u v u' v':Nat}(h:Asc le d u v)(e:segL d' u' v'=segL d u v):Asc le d' u' v':=aEo (by rw[e];exact aUs h)
theorem aBl {d:List α}{u s v:Nat}(h1:u<=s)(h2:s<=v)(h:s=u\/s=v\/∀x∈segL d u s,∀y∈segL d s v,le x y=true):SegAs d d u v (List.merge (segL d u s) (segL d s v) le):=by
 have e:List.merge (segL d u s) (segL d s v) le=segL d u s++segL d s v:=by
  rcases h with rfl | rfl | h
  ·have:segL d s s=[]:=by apply List.ext_getElem?;intro i;rw[aBu,if_neg (by omega)];rfl
   rw[this,aMl,List.nil_append]
  ·have:segL d s s=[]:=by apply List.ext_getElem?;intro i;rw[aBu,if_neg (by omega)];rfl
   rw[this,aKz,List.append_nil]
  exact List.merge_of_le fun a b ha hb=>h a ha b hb
 rw[e,<-aCz h1 h2]
 exact SegAs.refl d u v
theorem aDm (rf:∀a,le a a=true)(tr:∀a b c,le a b=true->le b c=true->le a c=true){d d2 d3:List α}{a s m e b mid:Nat}(hb:b<=d.length)(has:a<=s)(hsm:s<=m)(hme:m<=e)(heb:e<=b)(hmid:mid=s+(e-m))
  (hx:Asc le d a m) (hy:Asc le d m b) (h1:s=a\/e=b\/∀x y,d[s-1]? = some x->d[e]? = some y->le x y=true) (h2:s=m\/e=m\/∀x y,d[s]? = some x->d[e-1]? = some y->le x y=false)
  (H2:SegAs (rotL d s m e) d2 a mid (List.merge (segL (rotL d s m e) a s) (segL (rotL d s m e) s mid) le)) (H3:SegAs d2 d3 mid b (List.merge (segL d2 mid e) (segL d2 e b) le)) :
  SegAs d d3 a b (List.merge (segL d a m) (segL d m b) le):=by
 have he:e<=d.length:=by omega
 have x1:segL (rotL d s m e) a s=segL d a s:=aBp fun i i1 i2=>aEb hsm hme he (.inl i2)
 have y1:segL (rotL d s m e) s mid=segL d m e:=by rw[hmid];exact aUd hsm hme he
 have x2:segL (rotL d s m e) mid e=segL d s m:=by rw[hmid];exact aUg hsm hme he
 have y2:segL (rotL d s m e) e b=segL d e b:=aBp fun i i1 i2=>aEb hsm hme he (.inr i1)
 rw[x1,y1] at H2
 rw[H2.other (.inr (Nat.le_refl _)),x2,H2.other (.inr (by omega)),y2] at H3
 rw[aVk rf tr hb has hsm hme heb hx hy h1 h2]
 refine ⟨by rw[H3.len,H2.len,aGu hsm hme he],?_,fun i hi=>?_⟩
 ·rw[aCz (show a<=mid by omega) (show mid<=b by omega),H3.here,H3.other (.inl (Nat.le_refl _)),H2.here]
 rw[H3.there i (by omega),H2.there i (by omega),aEb hsm hme he (by omega)]
theorem aEu {d d2:List α}{a s m e b mid:Nat}{z:List α}(he:e<=d.length)(has:a<=s)(hsm:s<=m)(hme:m<=e)(heb:e<=b)(hmid:mid=s+(e-m))(hx:Asc le d a m)(hy:Asc le d m b)(H2:SegAs (rotL d s m e) d2 a mid z) :
  Asc le (rotL d s m e) a s/\Asc le (rotL d s m e) s mid/\Asc le d2 mid e/\Asc le d2 e b:=by
 have x1:segL (rotL d s m e) a s=segL d a s:=aBp fun i i1 i2=>aEb hsm hme he (.inl i2)
 have y1:segL (rotL d s m e) s mid=segL d m e:=by rw[hmid];exact aUd hsm hme he
 have x2:segL (rotL d s m e) mid e=segL d s m:=by rw[hmid];exact aUg hsm hme he
 have y2:segL (rotL d s m e) e b=segL d e b:=aBp fun i i1 i2=>aEb hsm hme he (.inr i1)
 exact ⟨aQe (hx.sub (Nat.le_refl _) hsm) x1,aQe (hy.sub (Nat.le_refl _) heb) y1,aQe (hx.sub has (Nat.le_refl _)) ((H2.other (.inr (Nat.le_refl _))).trans x2),aQe (hy.sub hme (Nat.le_refl _)) ((H2.other (.inr (by omega))).trans y2)⟩
theorem aEl {d:List α}{a m b:Nat}(h1:a<=m)(h2:m<=b)(h3:b<=d.length)(h:a=m\/m=b):rotL d a m b=d:=by
 apply List.ext_getElem?
 intro t
 rw[(aCt h1 h2 h3).at_]
 rcases h with rfl | rfl
 ·by_cases c:a-(a-a)<=t/\t<a-(a-a)+(b-a)
  ·rw[if_pos c];congr 1;omega
  rw[if_neg c,if_neg (by omega)]
 rw[if_neg (by omega)]
 by_cases c:m-(m-a)+(m-m)<=t/\t<m+(m-m)
 ·rw[if_pos c];congr 1;omega
 rw[if_neg c]
theorem bCc {d d':List α}{a k:Nat}(ha:a<=k)(hk:k+1<d.length)(hs:SwapAs (rotL d a (a+1) (k+1)) d' k (k+1)):d'=rotL d a (a+1) (k+2):=by
 have R:=aCt (d:=d) (a:=a) (m:=a+1) (b:=k+1) (by omega) (by omega) (by omega)
 have R':=aCt (d:=d) (a:=a) (m:=a+1) (b:=k+2) (by omega) (by omega) (by omega)
 apply List.ext_getElem?
 intro t
 rw[hs.at_,R'.at_,R.at_ (k+1),R.at_ k,R.at_ t]
 by_cases e1:t=k
 ·rw[if_pos e1,if_neg (by omega),if_neg (by omega),if_pos (by omega)];congr 1;omega
 rw[if_neg e1]
 by_cases e2:t=k+1
 ·rw[if_pos e2,if_neg (by omega),if_pos (by omega),if_neg (by omega),if_pos (by omega)];congr 1;omega
 rw[if_neg e2]
 by_cases e3:a+1-(a+1-a)<=t/\t<a+1-(a+1-a)+(k+1-(a+1))
 ·rw[if_pos e3,if_pos (by omega)]
 rw[if_neg e3,if_neg (by omega),if_neg (by omega),if_neg (by omega)]
theorem aXf {d d':List α}{m k:Nat}(hk:k<m)(hm:m<d.length)(hs:SwapAs (rotL d (k+1) m (m+1)) d' (k+1) k):d'=rotL d k m (m+1):=by
 have R:=aCt (d:=d) (a:=k+1) (m:=m) (b:=m+1) (by omega) (by omega) (by omega)
 have R':=aCt (d:=d) (a:=k) (m:=m) (b:=m+1) (by omega) (by omega) (by omega)
 apply List.ext_getElem?
 intro t
 rw[hs.at_,R'.at_,R.at_ (k+1),R.at_ k,R.at_ t]
 by_cases e1:t=k+1
 ·rw[if_pos e1,if_neg (by omega),if_neg (by omega),if_neg (by omega),if_pos (by omega)];congr 1;omega
 rw[if_neg e1]
 by_cases e2:t=k
 ·rw[if_pos e2,if_pos (by omega),if_pos (by omega)];congr 1;omega
 rw[if_neg e2]
 by_cases e3:m-(m-(k+1))<=t/\t<m-(m-(k+1))+(m+1-m)
 ·omega
 rw[if_neg e3]
 by_cases e4:m-(m-(k+1))+(m+1-m)<=t/\t<m+(m+1-m)
 ·rw[if_pos e4,if_neg (by omega),if_pos (by omega)]
 rw[if_neg e4,if_neg (by omega),if_neg (by omega)]
theorem aLx {d:List α}{m:Nat}{y:α}(h:d[m]? = some y):segL d m (m+1)=[y]:=by
 apply List.ext_getElem?
 intro i
 rw[aBu]
 cases i with
 | zero=>rw[if_pos (by omega),Nat.add_zero,h];rfl
 | succ i=>rw[if_neg (by omega)];rfl
theorem aNn (rf:∀a,le a a=true)(tr:∀a b c,le a b=true->le b c=true->le a c=true){d:List α}{a s m:Nat}(hm:m<d.length)(has:a<=s)(hsm:s<=m)(hx:Asc le d a m)
  (h1:s=a\/∀x y,d[s-1]? = some x->d[m]? = some y->le x y=true) (h2:s=m\/∀x y,d[s]? = some x->d[m]? = some y->le x y=false) :
  SegAs d (rotL d s m (m+1)) a (m+1) (List.merge (segL d a m) (segL d m (m+1)) le):=by
 obtain ⟨y,hy⟩:=aIq hm
 refine aDm rf tr (s:=s) (e:=m+1) (mid:=s+1) (d2:=rotL d s m (m+1)) (by omega) has hsm (by omega) (Nat.le_refl _) (by omega) hx (fun i j _ _ _ _ _=>by omega) (.inr (.inl rfl)) (by rcases h2 with h2 | h2;exact .inl h2;exact .inr (.inr h2)) ?_ ?_
 ·refine aBl has (by omega) ?_
  rcases h1 with h1 | h1
  ·exact .inl h1
  refine .inr (.inr fun u hu v hv=>?_)
  have e1:segL (rotL d s m (m+1)) a s=segL d a s:=aBp fun i i1 i2=>aEb hsm (by omega) (by omega) (.inl i2)
  have e2:segL (rotL d s m (m+1)) s (s+1)=segL d m (m+1):=by
   have:=aUd (d:=d) hsm (show m<=m+1 by omega) (by omega)
   rwa [show s+(m+1-m)=s+1 by omega] at this
  rw[e1] at hu
  rw[e2,aLx hy] at hv
  have hv':v=y:=by simpa using hv
  subst hv'
  obtain ⟨i,i1,i2,hi⟩:=aGw hu
  obtain ⟨x,hx'⟩:=aIq (d:=d) (i:=s-1) (by omega)
  exact tr _ _ _ (hx.le' rf i1 (show i<=s-1 by omega) (by omega) hi hx') (h1 x _ hx' hy)
 exact aBl (by omega) (Nat.le_refl _) (.inr (.inl rfl))
theorem bEq (rf:∀a,le a a=true)(tr:∀a b c,le a b=true->le b c=true->le a c=true){d:List α}{a e b:Nat}(hb:b<=d.length)(hae:a+1<=e)(heb:e<=b)(hy:Asc le d (a+1) b)
  (h1:e=b\/∀x y,d[a]? = some x->d[e]? = some y->le x y=true) (h2:e=a+1\/∀x y,d[a]? = some x->d[e-1]? = some y->le x y=false) :
  SegAs d (rotL d a (a+1) e) a b (List.merge (segL d a (a+1)) (segL d (a+1) b) le):=by
 obtain ⟨x,hx⟩:=aIq (d:=d) (i:=a) (by omega)
 refine aDm rf tr (s:=a) (e:=e) (mid:=a+(e-(a+1))) (d2:=rotL d a (a+1) e) hb (Nat.le_refl _) (by omega) hae heb rfl (fun i j _ _ _ _ _=>by omega) hy (.inl rfl) (by rcases h2 with h2 | h2;exact .inr (.inl h2);exact .inr (.inr h2)) ?_ ?_
 ·exact aBl (Nat.le_refl _) (by omega) (.inl rfl)
 refine aBl (by omega) heb ?_
 rcases h1 with h1 | h1
 ·exact .inr (.inl h1)
 refine .inr (.inr fun u hu v hv=>?_)
 rw[aUg (by omega) hae (by omega),aLx hx] at hu
 have hu':u=x:=by simpa using hu
 subst hu'
 obtain ⟨i,i1,i2,hi⟩:=aGw hv
 rw[aEb (by omega) hae (by omega) (.inr i1)] at hi
 obtain ⟨y,hy'⟩:=aIq (d:=d) (i:=e) (by omega)
 exact tr _ _ _ (h1 _ y hx hy') (hy.le' rf hae i1 i2 hy' hi)
theorem aOs {d d1 d2:List α}{a i:Nat}(hi:i<d.length)(hai:a<=i)(h:SegAs d d1 a i (ssort le (segL d a i)))(h2:SegAs d1 d2 a (i+1) (List.merge (segL d1 a i) (segL d1 i (i+1)) le)):SegAs d d2 a (i+1) (ssort le (segL d a (i+1))):=by
 obtain ⟨y,hy⟩:=aIq hi
 rw[h.here,h.other (.inr (Nat.le_refl _)),aLx hy] at h2
 refine ⟨h2.len.trans h.len,?_,fun t ht=>(h2.there t ht).trans (h.there t (by omega))⟩
 rw[h2.here,aCz hai (Nat.le_succ i),aLx hy,aJt]
end
end Go.Proofs.YtcemkikgaeghjaaGreatDoor
namespace Go.Proofs.YtcemkikgaeghjaaGreatDoor
open Go.RowKit
def CL.cells (c:CL):List Value:=[.string c.path,.int .i64 c.kind,.string c.text]
theorem CL.cells_len (c:CL):c.cells.length=3:=rfl
theorem CL.len_flat (l:List CL):(l.flatMap CL.cells).length=l.length*3:=by
 induction l with
 | nil=>rfl
 | cons x l ih=>rw[List.flatMap_cons,List.length_append,ih,List.length_cons,CL.cells_len];omega
theorem aBv (l:List CL):∀u∈l.flatMap CL.cells,u.oneCell'=true:=by
 intro u hu
 obtain ⟨f,_,hu⟩:=List.mem_flatMap.1 hu
 simp only[CL.cells,List.mem_cons,List.mem_nil_iff,or_false] at hu
 rcases hu with rfl | rfl | rfl<;>rfl
structure RowC (w:World) (g cap:Nat) (cs:List CL):Prop where
 ex:∃cur:Array Value,w.heap[g]? = some (.cells cur 36 (0,0))/\cur.size=cap*3/\cs.length<=cap/\cur.toList.take (cs.length*3)=cs.flatMap CL.cells
 few:cs.length<=1000000
theorem RowC.same {w w':World}{g cap:Nat}{cs:List CL}(h:RowC w g cap cs)(e:w'.heap[g]? = w.heap[g]?):RowC w' g cap cs:=by
 obtain ⟨cur,h1,h2⟩:=h.ex
 exact ⟨⟨cur,e.trans h1,h2⟩,h.few⟩
theorem RowC.lt {w:World}{g cap:Nat}{cs:List CL}(h:RowC w g cap cs):g<w.heap.size:=by
 obtain ⟨cur,h1,_⟩:=h.ex
 exact (Array.getElem?_eq_some_iff.1 h1).1
theorem RowC.below {w w':World}{g cap:Nat}{cs:List CL}(h:RowC w g cap cs)(hb:Below w.heap.size w w'):RowC w' g cap cs:=h.same (hb.block g h.lt)
theorem RowC.cell {w:World}{g cap:Nat}{cs:List CL}(h:RowC w g cap cs){k t:Nat}{c:CL}{u:Value}(hk:cs[k]? = some c)(hu:c.cells[t]? = some u):w.cell? ⟨g,k*3+t,none⟩=some u:=by
 obtain ⟨cur,h1,h2,h3,h4⟩:=h.ex
 have ht:t<3:=(List.getElem?_eq_some_iff.1 hu).1
 have e:=(T.flat_at CL.cells_len hk ht).trans hu
 rw[cell_of_row w _ _ _ _ _ h1]
 rw[<-h4] at e
 rw[List.getElem?_take] at e
 split at e
 ·simpa using e
 cases e
theorem RowC.get {w:World}{g cap:Nat}{cs:List CL}(h:RowC w g cap cs){k:Nat}(hk:k<cs.length) :
  ∃c,cs[k]? = some c/\w.cell? ⟨g,k*3,none⟩=some (.string c.path)/\w.cell? ⟨g,k*3+1,none⟩=some (.int .i64 c.kind)/\w.cell? ⟨g,k*3+2,none⟩=some (.string c.text):=
 ⟨cs[k],List.getElem?_eq_getElem hk,h.cell (t:=0) (List.getElem?_eq_getElem hk) rfl,h.cell (List.getElem?_eq_getElem hk) rfl,h.cell (List.getElem?_eq_getElem hk) rfl⟩
theorem CL.flat_set {l:List CL}{f:CL}{k:Nat}(hk:k<l.length):(l.flatMap CL.cells).take (k*3)++f.cells++(l.flatMap CL.cells).drop (k*3+3)=(l.set k f).flatMap CL.cells:=by
 rw[T.flat_take CL.cells_len,show k*3+3=(k+1)*3 by omega,T.flat_drop CL.cells_len,List.set_eq_take_append_cons_drop,if_pos hk,List.flatMap_append,List.flatMap_cons,List.append_assoc]
theorem aAz {S:World->Prop}{a:Act}{w:World}{K:Act->World->Prop}{dst:Option Tmp}{ty:TypeId}{x y:Operand}{q:Bool}{gd:Option (Tmp×Bool)}{g cap k d:Nat}{cs:List CL}{c:CL}(h:RowC w g cap cs)(hk:k<cs.length)
  (hd:d=k*3) (hx:a.eval x=.pointer (some ⟨g,d,none⟩)) (hy:a.eval y=.agg #[.string c.path,.int .i64 c.kind,.string c.text])
  (hK:∀w',RowC w' g cap (cs.set k c)->w.grownBy w' (some g)->S w'/\K (a.put dst undef) w'):effq Tryz.prog S ⟨q,dst,.store 36 x y,ty,gd⟩ a w K:=by
 intro p af g'
 subst hd
 obtain ⟨cur,h1,h2,h3,h4⟩:=h.ex
 have hi:(Tryz.prog.info? 36).map (·.size)=some 3:=by kernel_rfl
 obtain ⟨i,hi1,hi2⟩:=Option.map_eq_some_iff.1 hi
 have hr:=run_storeCells_at Tryz.prog g (k*3) 36 c.cells 0 cur w h1 (by rw[CL.cells_len];omega) (fun v hv=>aBv [c] v (by simpa using hv))
 have hst:(storeVar 36 ⟨g,k*3,none⟩ (.agg #[.string c.path,.int .i64 c.kind,.string c.text])).run Tryz.prog w=.ok () (w.setRow g (cur.toList.take (k*3)++c.cells++cur.toList.drop (k*3+3)).toArray):=by
  simp only[Nat.add_zero,CL.cells_len] at hr
  simp[storeVar,sizeOf,typeInfo,hi1,hi2,Value.cells]
  simpa[CL.cells] using hr
 unfold Oper.wp execOp
 simp only[hx,hy,Instr.storeAt,Instr.sureAddr,Sem.run_bind,Sem.run_pure,Result.andThen_ok,hst]
 have hlc:cur.toList.length=cap*3:=by rw[Array.length_toList];exact h2
 refine hK _ ⟨⟨_,setRow_heap _ _ _ _ _ _ h1,?_,by rw[List.length_set];exact h3,?_⟩,by rw[List.length_set];exact h.few⟩ (aDc (World.grownBy.refl w _) (.inr rfl))
 ·simp only[List.size_toArray,List.length_append,List.length_take,List.length_drop,CL.cells_len,hlc];omega
 rw[List.length_set,<-CL.flat_set hk,<-h4,List.take_take,Nat.min_eq_left (by omega)]
 have e1:(cur.toList.take (k*3)++c.cells).length=k*3+3:=by rw[List.length_append,List.length_take,hlc,CL.cells_len];omega
 simp only
 rw[List.take_append,List.take_of_length_le (by omega),e1,List.drop_take]
theorem aDh {P:Program}{S:World->Prop}{a:Act}{w:World}{K:Act->World->Prop}{dst:Option Tmp}{op:Op}{ty:TypeId}{q:Bool}{g:Option (Tmp×Bool)}
  (h:∀M:Addr->Option Value,(∀p v,w.cell? p=some v->M p=some v)->opq P M op a.eval (fun v=>S w/\K (a.put dst v) w)):effq P S ⟨q,dst,op,ty,g⟩ a w K:=by
 obtain ⟨v,h1,h2⟩:=aMm (S:=fun u=>u=w) (ty:=ty) (fun p v hp u hu=>by rw[hu];exact hp) (h (fun p=>w.cell? p) (fun _ _ h=>h))
 exact aVm (fun p af g=>h1 w _ p af g rfl) h2
theorem aGk {α:Type}{d:List α}{i j:Nat}{x y:α}(hx:d[i]? = some x)(hy:d[j]? = some y):SwapAs d ((d.set i y).set j x) i j:=by
 have li:=(List.getElem?_eq_some_iff.1 hx).1
 have lj:=(List.getElem?_eq_some_iff.1 hy).1
 refine ⟨by simp,fun t=>?_⟩
 by_cases e1:t=i
 ·subst e1
  rw[if_pos rfl]
  by_cases e2:j=t
  ·subst e2
   rw[List.getElem?_set_self (by simpa using lj),hx]
  rw[List.getElem?_set_ne e2,List.getElem?_set_self li,hy]
 rw[if_neg e1]
 by_cases e2:t=j
 ·subst e2
  rw[if_pos rfl,List.getElem?_set_self (by simpa using lj),hx]
 rw[if_neg e2,List.getElem?_set_ne (fun e=>e2 e.symm),List.getElem?_set_ne (fun e=>e1 e.symm)]
def RowTo (R:List CL->Prop)(g cap:Nat)(w:World)(e:Ending) (w':World):Prop:=e=.returned (.tuple #[])/\∃cs',R cs'/\RowC w' g cap cs'/\w.grownBy w' (some g)
theorem aEx {w:World}{g cap a b n:Nat}{cs:List CL}{f:Value}(h:RowC w g cap cs)(hab:a+n<=b)(hbn:b+n<=cs.length) :
  Calls Tryz.prog 175 #[.slice (some ⟨g,0,none⟩) cs.length cap,.int .i64 a,.int .i64 b,.int .i64 n,f] w (RowTo (fun cs'=>RangeAs cs cs' a b n) g cap w):=by
 have HC:=hid (show cs.length<=1000000 from h.few)
 have hcl:cs.length<=1000000:=HC.out
 go_enter Tryz.func175,Tryz.ntmps175
 go_wp2
 go_loopw[10] (fun iv wr=>∃k:Nat,k<=n/\iv=.int .i64 k/\∃cs',Hid (RangeAs cs cs' a b k)/\Hid (RowC wr g cap cs')/\Hid (w.grownBy wr (some g))) (fun i _=>n-(intOf i).toNat)
 case atStart=>exact ⟨0,Nat.zero_le _,rfl,cs,hid (RangeAs.start cs a b),hid h,hid (World.grownBy.refl w _)⟩
 obtain ⟨k,hk,rfl,cs',HR,HW,HG⟩:=hrel
 by_cases hlt:k<n
 ·have hl:cs'.length=cs.length:=HR.out.len
  have HL:=hid hl
  obtain ⟨x,hx,x0,x1,x2⟩:=HW.out.get (k:=a+k) (by omega)
  obtain ⟨y,hy,y0,y1,y2⟩:=HW.out.get (k:=b+k) (by omega)
  have HSW:=hid (aGk hx hy)
  clear hx hy hl
  go_wp2
  have T1:((a:Int)+(k:Int)).toNat=a+k:=by omega
  have T2:((b:Int)+(k:Int)).toNat=b+k:=by omega
  refine aAw (fun _=>True) (.q 0 (.q 1 (.q 2 (.q 3 (.q 4 (.q 5 (.q 6 (.q 7 (.q 8 (.q 9 (.q 10 (.q 11 (.q 12 (.q 14 (.q 15 (.q 16 (.q 17 (.q 18 (.two 13 (.one 19 (.q 20 (.one 21 (.q 22 (.one 23 .leaf))))) 19 (.one 13 (.q 20 (.one 21 (.q 22 (.one 23 .leaf)))))))))))))))))))))))) mixed (by kernel_rfl) trivial ?_
  intro T M Q hT hT' hM hQ
  clear hM
  refine aDf ?_
  intro O hO
  have t0:=hO true 0
  have t1:=hO true 1
  have t2:=hO true 2
  have t3:=hO true 3
  have t4:=hO true 4
  have t5:=hO true 5
  have t6:=hO true 6
  have t7:=hO true 7
  have t8:=hO true 8
  have t9:=hO true 9
  have t10:=hO true 10
  have t11:=hO true 11
  have t12:=hO true 12
  have t14:=hO true 14
  have t15:=hO true 15
  have t16:=hO true 16
  have t17:=hO true 17
  have t18:=hO true 18
  have t20:=hO true 20
  have t22:=hO true 22
  have e13:=hO false 13
  have e19:=hO false 19
  have e21:=hO false 21
  have e23:=hO false 23
  simp only[qcmp] at t0 t1 t2 t3 t4 t5 t6 t7 t8 t9 t10 t11 t12 t14 t15 t16 t17 t18 t20 t22 e13 e19 e21 e23
  clear hO
  simp (maxSteps:=9^7) only[↓wt_q,↓aBc,t0,t1,t2,t3,t4,t5,t6,t7,t8,t9,t10,t11,t12,t14,t15,t16,t17,t18,e13,e19,↓qpre,aAb,aAf,aAc,T1,T2]
  (repeat refine ⟨by first|omega|(unfold inI64;omega),?_⟩)
  refine ⟨?o1,?o2⟩
  case' o1=>
   refine aDh fun N hN=>?_
   have n0:=hN _ _ y0
   have n1:=hN _ _ y1
   have n2:=hN _ _ y2
   simp (maxSteps:=9^7) only[↓aAj,e19,↓qpre,aAb,aAf,aAc,n0,n1,n2]
   clear n0 n1 n2 hN
   refine ⟨hT _ trivial,?_⟩
   try simp (maxSteps:=9^7) only[↓wt_q,↓aAj,↓aBc,t0,t1,t2,t3,t4,t5,t6,t7,t8,t9,t10,t11,t12,t14,t15,t16,t17,t18,t20,t22,e13,e19,e21,e23,↓qpre,aAb,aAf,aAc,T1,T2]
   refine aDh fun N hN=>?_
   have n0:=hN _ _ x0
   have n1:=hN _ _ x1
   have n2:=hN _ _ x2
   simp (maxSteps:=9^7) only[↓wt_q,↓aAj,t20,e21,↓qpre,aAb,aAf,aAc,T1,n0,n1,n2]
   clear n0 n1 n2 hN
   refine ⟨hT _ trivial,?_⟩
   try simp (maxSteps:=9^7) only[↓wt_q,↓aAj,↓aBc,t0,t1,t2,t3,t4,t5,t6,t7,t8,t9,t10,t11,t12,t14,t15,t16,t17,t18,t20,t22,e13,e19,e21,e23,↓qpre,aAb,aAf,aAc,T1,T2]
   (repeat refine ⟨by first|omega|(unfold inI64;omega),?_⟩)
   refine aAz (cs:=cs') (k:=a+k) (c:=y) (HW.out.same (w':=wr.drew) rfl) (by have:=HL.out;omega) rfl rfl rfl ?_
   intro u1 hu1 hg1
   refine ⟨hT _ trivial,?_⟩
   try simp (maxSteps:=9^7) only[↓wt_q,↓aAj,t22,e23,↓qpre,aAb,aAf,aAc,T2]
   (repeat refine ⟨by first|omega|(unfold inI64;omega),?_⟩)
   refine aAz (cs:=cs'.set (a+k) y) (k:=b+k) (c:=x) hu1 (by rw[List.length_set];have:=HL.out;omega) rfl rfl rfl ?_
   intro u2 hu2 hg2
   refine ⟨hT _ trivial,?_⟩
   try simp (maxSteps:=9^7) only[aAb]
   refine hQ _ _ ?_
  case' o2=>
   refine aDh fun N hN=>?_
   have n0:=hN _ _ x0
   have n1:=hN _ _ x1
   have n2:=hN _ _ x2
   simp (maxSteps:=9^7) only[↓aAj,e13,↓qpre,aAb,aAf,aAc,n0,n1,n2]
   clear n0 n1 n2 hN
   refine ⟨hT _ trivial,?_⟩
   try simp (maxSteps:=9^7) only[↓wt_q,↓aAj,↓aBc,t0,t1,t2,t3,t4,t5,t6,t7,t8,t9,t10,t11,t12,t14,t15,t16,t17,t18,t20,t22,e13,e19,e21,e23,↓qpre,aAb,aAf,aAc,T1,T2]
   refine aDh fun N hN=>?_
   have n0:=hN _ _ y0
   have n1:=hN _ _ y1
   have n2:=hN _ _ y2
   simp (maxSteps:=9^7) only[↓wt_q,↓aAj,t20,e21,↓qpre,aAb,aAf,aAc,T1,n0,n1,n2]
   clear n0 n1 n2 hN
   refine ⟨hT _ trivial,?_⟩
   try simp (maxSteps:=9^7) only[↓wt_q,↓aAj,↓aBc,t0,t1,t2,t3,t4,t5,t6,t7,t8,t9,t10,t11,t12,t14,t15,t16,t17,t18,t20,t22,e13,e19,e21,e23,↓qpre,aAb,aAf,aAc,T1,T2]
   (repeat refine ⟨by first|omega|(unfold inI64;omega),?_⟩)
   refine aAz (cs:=cs') (k:=a+k) (c:=y) (HW.out.same (w':=wr.drew) rfl) (by have:=HL.out;omega) rfl rfl rfl ?_
   intro u1 hu1 hg1
   refine ⟨hT _ trivial,?_⟩
   try simp (maxSteps:=9^7) only[↓wt_q,↓aAj,t22,e23,↓qpre,aAb,aAf,aAc,T2]
   (repeat refine ⟨by first|omega|(unfold inI64;omega),?_⟩)
   refine aAz (cs:=cs'.set (a+k) y) (k:=b+k) (c:=x) hu1 (by rw[List.length_set];have:=HL.out;omega) rfl rfl rfl ?_
   intro u2 hu2 hg2
   refine ⟨hT _ trivial,?_⟩
   try simp (maxSteps:=9^7) only[aAb]
   refine hQ _ _ ?_
  all_goals clear hQ hT hT' t0 t1 t2 t3 t4 t5 t6 t7 t8 t9 t10 t11 t12 t14 t15 t16 t17 t18 t20 t22 e13 e19 e21 e23
  all_goals
   have HW2:=hid hu2
   have HG2:=hid ((HG.out.trans (World.grownBy.trans (show wr.grownBy wr.drew (some g) from ⟨rfl,rfl,rfl,Nat.le_refl _,fun _ _ _=>rfl⟩) hg1)).trans hg2)
   have HR2:=hid (HR.out.step HSW.out (by omega))
   clear hu1 hg1 hu2 hg2 HW HG HR HSW T1 T2 x0 x1 x2 y0 y1 y2
   go_wp2
   go_roundw
   case rel=>exact ⟨k+1,by omega,by go_num,_,HR2,HW2,HG2⟩
   simp[intOf];omega
 have hkn:k=n:=by omega
 subst hkn
 go_wp2
 refine bodyPost_end (results_none rfl _ _ _) rfl ?_
 exact ⟨rfl,cs',HR.out,HW.out,HG.out⟩
def whereL (base side:List FV)(L:List (Nat×Nat))(f:FV):Option FV:=
 match findP side f.path with
 | some x=>some x
 | none=>(sendL base side L f.path).bind fun d=>findP side d
theorem bCt {base side:List FV}{L:List (Nat×Nat)}(hn:(base.map FV.path).Nodup)(hp:L.Perm (pairsF base side))(f:FV):whereL base side L f=whereF base side f:=by
 unfold whereL whereF
 rw[aUt hn hp]
 cases findP side f.path<;>rfl
theorem aMu {P:Program}{S:World->Prop}{a:Act}{w:World}{K:Act->World->Prop}{dst:Option Tmp}{t ty:TypeId}{m x:Operand}{c q:Bool}{g:Option (Tmp×Bool)}{mv key v:Value}(hm:a.eval m=mv)(hx:a.eval x=key)
  (hrun:(Instr.lookup t mv key c).run P w=.ok v w) (hK:S w/\K (a.put dst v) w):effq P S ⟨q,dst,.lookup t m x c,ty,g⟩ a w K:=by
 intro p af g
 unfold Oper.wp execOp
 simp only[hm,hx,hrun,Sem.run_bind,Sem.run_pure,Result.andThen_ok]
 exact hK
theorem zeroFile (w:World):(zeroValue 28).run Tryz.prog w=.ok (.agg #[.string ⟨#[]⟩,.bool false,.string ⟨#[]⟩]) w:=Tryz.zeroValue28 w
theorem SideIs.cells {w:World}{B s:Nat}{fs:Value}{base side:List FV}{L:List (Nat×Nat)}(h:SideIs w B s fs base side L):∃m1 m2 n1 D1,w.heap[s]? = some (.cells #[fs,.map (some m1),.map (some m2)] 91 (0,0))/\MpT w m1 n1 D1 (sendL base side L):=by
 obtain ⟨⟨m1,m2,n1,n2,D1,D2,h1,h2,_⟩,_⟩:=h.ex,h.lo
 exact ⟨m1,m2,n1,D1,h1,h2⟩
theorem bCi {w:World}{B s n c:Nat}{A:Option Addr}{base side:List FV}{L:List (Nat×Nat)}{f:FV}(hn:n<=100000)(h:SideIs w B s (.slice A n c) base side L)(hr:RdF w w.heap.size A n c side)(hf:f.path.size<=maxLen) :
  Calls Tryz.prog 55 #[.pointer (some ⟨s,0,none⟩),.agg #[.string f.path,.bool f.exec,.string f.text]] w (FoundIs (whereL base side L f) w):=by
 obtain ⟨V,eV⟩:∃V,V=(w.alloc (.cells #[.string f.path,.bool f.exec,.string f.text] 28)).alloc (.cells #[.string ⟨#[]⟩,.bool false,.string ⟨#[]⟩] 28):=⟨_,rfl⟩
 have hb1:Below w.heap.size w (w.alloc (.cells #[.string f.path,.bool f.exec,.string f.text] 28)):=(Below.refl _ _).alloc (Nat.le_refl _) _
 have hb2:Below (w.alloc (.cells #[.string f.path,.bool f.exec,.string f.text] 28)).heap.size (w.alloc (.cells #[.string f.path,.bool f.exec,.string f.text] 28)) V:=by rw[eV];exact (Below.refl _ _).alloc (Nat.le_refl _) _
 have hbV:Below w.heap.size w V:=hb1.trans (hb2.mono hb1.size)
 have hsz:V.heap.size=w.heap.size+2:=by rw[eV];simp
 have HBX:=hid ((hb2.block w.heap.size (by simp)).trans (heap_alloc_new w (.cells #[.string f.path,.bool f.exec,.string f.text] 28)))
 have HZ:Hid (V.heap[w.heap.size+1]? = some (.cells #[.string ⟨#[]⟩,.bool false,.string ⟨#[]⟩] 28 (0,0))):=by
  have:=heap_alloc_new (w.alloc (.cells #[.string f.path,.bool f.exec,.string f.text] 28)) (.cells #[.string ⟨#[]⟩,.bool false,.string ⟨#[]⟩] 28)
  rw[<-eV] at this
  exact hid (by simpa using this)
 have HV:=hid hbV
 have HSZ:=hid hsz
 have HF:=hid (fun (u:World) (hu:Below V.heap.size V u) (p:ByteArray)=>aJg (p:=p) (by omega) (hr.to (hbV.trans (hu.mono hbV.size)) (Nat.le_trans hbV.size hu.size)))
 have HSD:=hid (h.below hbV)
 have hi24:(Tryz.prog.info? 28).map (·.size)=some 3:=by kernel_rfl
 obtain ⟨m1,m2,n1,D1,hcs,hm1⟩:=HSD.out.cells
 have HCS:=hid hcs
 have HM1:=hid hm1
 clear hb1 hb2 hbV hsz h hr hcs hm1
 go_enter Tryz.func55,Tryz.ntmps55
 go_wp2
 rw[<-eV]
 clear eV
 refine aAw (fun u=>Below V.heap.size V u) (.q 0 (.q 1 (.q 2 (.q 3 (.q 4 (.q 5 (.two 6 (.q 7 (.q 8 (.q 9 (.one 10 (.one 11 (.q 12 .leaf)))))) 10 (.one 6 (.q 7 (.q 8 (.q 9 (.one 11 (.q 12 .leaf))))))))))))) mixed (by kernel_rfl) (Below.refl _ _).drew ?_
 intro Tp M Q hT hT' hM hQ
 have m0:M ⟨s,0,none⟩=some (.slice A n c):=hM _ _ fun w' hw=>by rw[Lib.cell_of_heap ((hw.block _ (aAa HCS.out)).trans HCS.out)];rfl
 have m1':M ⟨w.heap.size,0,none⟩=some (.string f.path):=hM _ _ fun w' hw=>by rw[Lib.cell_of_heap ((hw.block _ (aAa HBX.out)).trans HBX.out)];rfl
 clear hM
 refine aDf ?_
 intro O hO
 have t0:=hO true 0
 have t1:=hO true 1
 have t2:=hO true 2
 have t3:=hO true 3
 have t4:=hO true 4
 have t5:=hO true 5
 have t7:=hO true 7
 have t8:=hO true 8
 have t9:=hO true 9
 have t12:=hO true 12
 have e6:=hO false 6
 have e10:=hO false 10
 have e11:=hO false 11
 simp only[qcmp] at t0 t1 t2 t3 t4 t5 t7 t8 t9 t12 e6 e10 e11
 clear hO
 simp (maxSteps:=9^7) only[↓wt_q,↓aBc,t0,t1,t2,t3,t4,t5,e6,e10,↓qpre,aAb,aAf,aAc,m0,m1']
 refine ⟨?ord1,?ord2⟩
 case' ord1=>
  refine aAh (by kernel_rfl) (HF.out V.drew (Below.refl _ _).drew f.path) rfl rfl ?_
  rintro e u1 ⟨rfl,hb1⟩
  have hB1:Below V.heap.size V u1:=(Below.refl V.heap.size V).drew.trans hb1
  refine ⟨_,rfl,hT _ hB1,?_⟩
  simp (maxSteps:=9^7) only[↓wt_q,↓aAj,t7,t8,t9,e10,↓qpre,aAb,aAc]
  refine aCg zeroFile ⟨hT _ (hB1.alloc hB1.size _),?_⟩
  simp (maxSteps:=9^7) only[↓aAj,e11,aAb,aAc]
  have hN:=heap_alloc_new u1 (.cells #[.string ⟨#[]⟩,.bool false,.string ⟨#[]⟩] 28)
  refine aAt (cells:=#[.string (optF (findP side f.path)).path,.bool (optF (findP side f.path)).exec,.string (optF (findP side f.path)).text]) rfl rfl hN hi24 rfl (by simp[Value.oneCell']) ⟨hT _ (aAk (hB1.alloc hB1.size _) hB1.size),?_⟩
  simp (maxSteps:=9^7) only[↓wt_q,t12,↓qpre,aAb,aAc]
  refine hQ _ _ ?_
  have HX6:=hid (setRow_heap _ _ _ #[.string (optF (findP side f.path)).path,.bool (optF (findP side f.path)).exec,.string (optF (findP side f.path)).text] _ _ hN)
  have HBU:=hid (aAk (cs:=#[.string (optF (findP side f.path)).path,.bool (optF (findP side f.path)).exec,.string (optF (findP side f.path)).text]) (hB1.alloc hB1.size (.cells #[.string ⟨#[]⟩,.bool false,.string ⟨#[]⟩] 28)) hB1.size)
  have HLO:=hid hB1.size
  simp only[Value.cells] at HX6 HBU ⊢
  generalize World.setRow _ _ _=U at *
  generalize u1.heap.size=b6 at *
  clear hN hB1 hb1
 case' ord2=>
  refine aCg zeroFile ⟨hT _ ((Below.refl V.heap.size V).drew.alloc (Nat.le_refl _) _),?_⟩
  simp (maxSteps:=9^7) only[↓aAj,e6,aAb,aAc]
  have hB0:Below V.heap.size V (V.drew.alloc (.cells #[.string ⟨#[]⟩,.bool false,.string ⟨#[]⟩] 28)):=(Below.refl V.heap.size V).drew.alloc (Nat.le_refl _) _
  refine aAh (by kernel_rfl) (HF.out _ hB0 f.path) rfl rfl ?_
  rintro e u1 ⟨rfl,hb1⟩
  have hB1:Below V.heap.size V u1:=hB0.trans (hb1.mono hB0.size)
  refine ⟨_,rfl,hT _ hB1,?_⟩
  simp (maxSteps:=9^7) only[↓wt_q,↓aAj,t7,t8,t9,e11,↓qpre,aAb,aAc]
  have hN:=(hb1.block V.heap.size (by simp)).trans (heap_alloc_new V.drew (.cells #[.string ⟨#[]⟩,.bool false,.string ⟨#[]⟩] 28))
  refine aAt (cells:=#[.string (optF (findP side f.path)).path,.bool (optF (findP side f.path)).exec,.string (optF (findP side f.path)).text]) rfl rfl hN hi24 rfl (by simp[Value.oneCell']) ⟨hT _ (aAk hB1 (Nat.le_refl _)),?_⟩
  simp (maxSteps:=9^7) only[↓wt_q,t12,↓qpre,aAb,aAc]
  refine hQ _ _ ?_
  have HX6:=hid (setRow_heap _ _ _ #[.string (optF (findP side f.path)).path,.bool (optF (findP side f.path)).exec,.string (optF (findP side f.path)).text] _ _ hN)
  have HBU:=hid (aAk (cs:=#[.string (optF (findP side f.path)).path,.bool (optF (findP side f.path)).exec,.string (optF (findP side f.path)).text]) hB1 (Nat.le_refl V.heap.size))
  have HLO:=hid (Nat.le_refl V.heap.size)
  obtain ⟨b6,hb6⟩:∃b6,b6=V.drew.heap.size:=⟨_,rfl⟩
  rw[<-hb6]
  obtain ⟨U,eU⟩:∃U,U=u1.setRow V.heap.size #[.string (optF (findP side f.path)).path,.bool (optF (findP side f.path)).exec,.string (optF (findP side f.path)).text]:=⟨_,rfl⟩
  rw[<-eU] at HX6 HBU
  rw[show u1.setRow b6 #[.string (optF (findP side f.path)).path,.bool (optF (findP side f.path)).exec,.string (optF (findP side f.path)).text]=U by rw[eU,hb6];rfl]
  clear eU
  replace HX6:Hid (U.heap[b6]? = some (.cells #[.string (optF (findP side f.path)).path,.bool (optF (findP side f.path)).exec,.string (optF (findP side f.path)).text] 28 (0,0))):=by rw[hb6];exact HX6
  replace HLO:Hid (V.heap.size<=b6):=by rw[hb6];exact HLO
  clear hb6 hB0 hB1 hb1 hN
 all_goals
  clear hQ hT hT' t0 t1 t2 t3 t4 t5 t7 t8 t9 t12 e6 e10 e11 m0 m1'
  have HBW:Hid (Below w.heap.size w U):=hid (HV.out.trans (HBU.out.mono HV.out.size))
  have HZU:Hid (U.heap[w.heap.size+1]? = some (.cells #[.string ⟨#[]⟩,.bool false,.string ⟨#[]⟩] 28 (0,0))):=hid ((HBU.out.block _ (aAa HZ.out)).trans HZ.out)
  cases ho:findP side f.path with
  | some g=>
   rw[ho] at HX6
   simp only[optF,Option.isSome_some,Option.getD_some] at HX6 ⊢
   have HWL:=hid (show whereL base side L f=some g by unfold whereL;rw[ho])
   have d0:U.cell? ⟨b6,0,none⟩=some (.string g.path):=by rw[Lib.cell_of_heap HX6.out];rfl
   have d1:U.cell? ⟨b6,1,none⟩=some (.bool g.exec):=by rw[Lib.cell_of_heap HX6.out];rfl
   have d2:U.cell? ⟨b6,2,none⟩=some (.string g.text):=by rw[Lib.cell_of_heap HX6.out];rfl
   have HR:=hid (setRow_heap U _ _ #[.string g.path,.bool g.exec,.string g.text] _ _ HZU.out)
   have HB9:=hid (aAk (cs:=#[.string g.path,.bool g.exec,.string g.text]) HBW.out (Nat.le_succ w.heap.size))
   clear ho
   go_wp2_with (refine wpList_store_row rfl 28 (.tmp 4) (.tmp 21) rfl (w.heap.size+1) #[.string g.path,.bool g.exec,.string g.text] rfl rfl _ _ HZU.out hi24 rfl (by simp[Value.oneCell']) ?_)
   try simp only[Exit.inBlock,Exit.then]
   refine bodyPost_ret (aAn rfl _ _ (w.heap.size+1) _ _ (0,0) _ rfl HR.out Tryz.underlying28 rfl (by kernel_rfl)) rfl ?_
   exact ⟨by rw[HWL.out];rfl,HB9.out⟩
  | none=>
   clear HX6 HLO
   simp only[optF,Option.isSome_none,Option.getD_none]
   have HBX':=hid ((HBU.out.block _ (aAa HBX.out)).trans HBX.out)
   have HCS':=hid ((HBU.out.block _ (aAa HCS.out)).trans HCS.out)
   have HM1':=hid (HM1.out.below HBU.out)
   have HLK:=hid (fun (u:World) (hu:Below U.heap.size U u)=>(HM1'.out.below hu).look hf)
   have HZF:=hid (fun u=>aJd u)
   go_wp2
   refine aAw (fun u=>Below U.heap.size U u) (.q 0 (.q 1 (.q 2 (.q 3 (.q 4 (.q 5 (.b 6 (.one 7 (.q 8 (.q 9 (.q 10 (.q 11 (.q 12 .leaf))))))))))))) mixed (by kernel_rfl) (Below.refl _ _).drew ?_
   intro Tp M Q hT hT' hM hQ
   have m0:M ⟨s,1,none⟩=some (.map (some m1)):=hM _ _ fun w' hw=>by rw[Lib.cell_of_heap ((hw.block _ (aAa HCS'.out)).trans HCS'.out)];rfl
   have m1':M ⟨w.heap.size,0,none⟩=some (.string f.path):=hM _ _ fun w' hw=>by rw[Lib.cell_of_heap ((hw.block _ (aAa HBX'.out)).trans HBX'.out)];rfl
   clear hM
   refine aDf ?_
   intro O hO
   have t0:=hO true 0
   have t1:=hO true 1
   have t2:=hO true 2
   have t3:=hO true 3
   have t4:=hO true 4
   have t5:=hO true 5
   have t6:=hO true 6
   have t8:=hO true 8
   have t9:=hO true 9
   have t10:=hO true 10
   have t11:=hO true 11
   have t12:=hO true 12
   have e7:=hO false 7
   simp only[qcmp] at t0 t1 t2 t3 t4 t5 t6 t8 t9 t10 t11 t12 e7
   clear hO
   simp (maxSteps:=9^7) only[↓wt_q,↓wt_b,t0,t1,t2,t3,t4,t5,↓qpre,aAb,aAf,aAc,t6,m0,m1']
   refine aCk rfl (fun w=>aLn _ w) ?_
   simp (maxSteps:=9^7) only[↓aAj,e7,aAb,aAc]
   refine aMu rfl rfl (HLK.out _ (Below.refl _ _).drew) ⟨hT _ (Below.refl _ _).drew,?_⟩
   simp (maxSteps:=9^7) only[↓wt_q,t8,t9,t10,t11,t12,↓qpre,aAb,aAc]
   refine hQ _ _ ?_
   clear hQ hT hT' t0 t1 t2 t3 t4 t5 t6 t8 t9 t10 t11 t12 e7 m0 m1'
   have HBW2:Hid (Below w.heap.size w U.drew):=HBW.out.drew
   have HZU2:Hid (U.drew.heap[w.heap.size+1]? = some (.cells #[.string ⟨#[]⟩,.bool false,.string ⟨#[]⟩] 28 (0,0))):=HZU
   have HCS2:Hid (U.drew.heap[s]? = some (.cells #[.slice A n c,.map (some m1),.map (some m2)] 91 (0,0))):=HCS'
   have HF2:=hid (fun p=>HF.out U.drew HBU.out.drew p)
   clear HLK HM1' HBW HZU HCS' HBX'
   generalize U.drew=X at *
   cases hs:sendL base side L f.path with
   | none=>
    simp only[Option.isSome_none,Option.getD_none]
    have HWL:=hid (show whereL base side L f=none by unfold whereL;rw[ho,hs];rfl)
    clear ho hs
    have hz:=aJd X
    have HR:=hid (setRow_heap X _ _ #[.string ⟨#[]⟩,.bool false,.string ⟨#[]⟩] _ _ HZU2.out)
    have HB9:=hid (aAk (cs:=#[.string ⟨#[]⟩,.bool false,.string ⟨#[]⟩]) HBW2.out (Nat.le_succ w.heap.size))
    go_wp2_with (refine wpList_store_row rfl 28 (.tmp 4) (.tmp 35) rfl (w.heap.size+1) #[.string ⟨#[]⟩,.bool false,.string ⟨#[]⟩] rfl rfl _ _ HZU2.out hi24 rfl (by simp[Value.oneCell']) ?_)
    try simp only[Exit.inBlock,Exit.then]
    refine bodyPost_ret (aAn rfl _ _ (w.heap.size+1) _ _ (0,0) _ rfl HR.out Tryz.underlying28 rfl (by kernel_rfl)) rfl ?_
    exact ⟨by rw[HWL.out];rfl,HB9.out⟩
   | some d=>
    simp only[Option.isSome_some,Option.getD_some]
    have HWL:=hid (show whereL base side L f=findP side d by unfold whereL;rw[ho,hs];rfl)
    clear ho hs
    have c0:X.cell? ⟨s,0,none⟩=some (.slice A n c):=by rw[Lib.cell_of_heap HCS2.out];rfl
    have KF:=HF2.out d
    go_wp2_with fail
    refine KF.mono ?_
    rintro e x1 ⟨rfl,hbx⟩
    clear KF c0
    have HZ3:=hid ((hbx.block _ (aAa HZU2.out)).trans HZU2.out)
    have HB3:=hid (HBW2.out.trans (hbx.mono HBW2.out.size))
    clear hbx
    have HR:=hid (setRow_heap x1 _ _ #[.string (optF (findP side d)).path,.bool (optF (findP side d)).exec,.string (optF (findP side d)).text] _ _ HZ3.out)
    have HB9:=hid (aAk (cs:=#[.string (optF (findP side d)).path,.bool (optF (findP side d)).exec,.string (optF (findP side d)).text]) HB3.out (Nat.le_succ w.heap.size))
    go_wp2_with (refine wpList_store_row rfl 28 (.tmp 4) (.tmp 42) rfl (w.heap.size+1) #[.string (optF (findP side d)).path,.bool (optF (findP side d)).exec,.string (optF (findP side d)).text] rfl rfl _ _ HZ3.out hi24 rfl (by simp[Value.oneCell']) ?_)
    try simp only[Exit.inBlock,Exit.then]
    refine bodyPost_ret (aAn rfl _ _ (w.heap.size+1) _ _ (0,0) _ rfl HR.out Tryz.underlying28 rfl (by kernel_rfl)) rfl ?_
    exact ⟨by rw[HWL.out];rfl,HB9.out⟩
end Go.Proofs.YtcemkikgaeghjaaGreatDoor
