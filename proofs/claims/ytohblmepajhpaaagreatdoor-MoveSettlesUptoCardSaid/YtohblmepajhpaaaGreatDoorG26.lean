/- Texts of the walks, together: Plain laws: what is settled is taken as it is (the law MoveSettles). Walk: few of the laws of moves, counted out. Walks: the document's Parents; two markers held against each other. Walk: the law MoveSettles. Arguments opened by their types' shapes: one law for each kind of type. Files among a law's arguments: opened. Commits and markers among a law's arguments: opened. -/
import Derived.Test.YtohblmepajhpaaaGreatDoorRows
import Derived.ProofKit
import Derived.SizedLaws
import Derived.SliceStrings
import Derived.ChangeArms
import Derived.ChangeSame
import Derived.ChangeOld
import Derived.ChangeSlices
import Derived.Test.YtohblmepajhpaaaGreatDoorG01
import Derived.Test.YtohblmepajhpaaaGreatDoorG02
import Derived.Test.YtohblmepajhpaaaGreatDoorG03
import Derived.Test.YtohblmepajhpaaaGreatDoorG06
import Derived.Test.YtohblmepajhpaaaGreatDoorG09
import Derived.Test.YtohblmepajhpaaaGreatDoorG15
import Derived.Test.YtohblmepajhpaaaGreatDoorG25
set_option maxHeartbeats 16000000
set_option maxRecDepth 100000
open Go.Lib (hid)
namespace Go.Proofs.YtohblmepajhpaaaGreatDoor
structure FitsF (D:List FV) (B:Nat) (c G:List FV):Prop where
 tree:treeOk G=true
 path:∀g∈G,(∃d∈D,d.path=g.path)\/∃x∈c,x.path=g.path
 text:∀g∈G,g.text.size<=B
theorem FitsF.more {D c G:List FV} {B B':Nat}(h:FitsF D B c G)(hb:B<=B'):FitsF D B' c G:=⟨h.tree,h.path,fun g hg=>Nat.le_trans (h.text g hg) hb⟩
theorem FitsF.self {D:List FV}(c:List FV){B:Nat}(h:treeOk D=true)(hb:wgt D<=B):FitsF D B c D:=⟨h,fun g hg=>.inl ⟨g,hg,rfl⟩,fun _ hg=>Nat.le_trans (aPv hg) hb⟩
theorem bBv {base a b:List FV}(ha:treeOk a=true)(hb:treeOk b=true){mb ma mc:Nat}{p:FV×Int}(h:ActOk base a b mb ma mc p):pathOk p.1.p=true:=by
 have ok:∀{l:List FV},treeOk l=true->∀f∈l,FileOk f:=fun h f hf=>(aAt.1 h).2.1 f hf
 rcases h.from_ with ⟨x,hx,e⟩ | ⟨x,hx,e⟩
 ·rw[show p.1.p=x.p from FV.p_inj.2 e.symm];exact (ok ha x hx).1
 rw[show p.1.p=x.p from FV.p_inj.2 e.symm];exact (ok hb x hx).1
theorem aXp {l:List FV}(h:l.Pairwise fun x y=>clashP x.p y.p=false):(l.map FV.path).Nodup:=by
 refine List.pairwise_map.2 (h.imp fun {x y} h e=>?_)
 unfold clashP at h
 rw[FV.p_inj.2 e] at h
 simp at h
theorem bBz {D base a b:List FV}{B:Nat}(h:FitsF D B base a)(h0:treeOk base=true)(h2:treeOk b=true)(l0:D.length<=30)(l1:base.length<=30)(l2:b.length<=30)(hB:wgt base+wgt b+B<=8188) :
  (treemergeF base a b).2.2=0/\((treemergeF base a b).2.1=[]->FitsF D (B+wgt b) b (treemergeF base a b).1):=by
 have hA:=bEt (base:=base) (a:=a) (b:=b) (fun _ hf=>aPv hf) h.text (fun _ hf=>aPv hf)
 obtain ⟨p1,p2,_⟩:=aIn (acts base a b) ([],[]) List.Pairwise.nil
 rw[<-aDz] at p1 p2
 have hmem:∀x∈(wholeF base a b).1,∃p∈acts base a b,p.1=x:=fun x hx=>by
  rcases p2 x hx with h | h
  ·cases h
  exact h
 have hlen:(wholeF base a b).1.length<=90:=by
  have:=pigeon (l:=(wholeF base a b).1.map FV.path) (L:=D.map FV.path++(base.map FV.path++b.map FV.path)) (aXp p1) fun q hq=>by
   obtain ⟨x,hx,rfl⟩:=List.mem_map.1 hq
   obtain ⟨p,hp,rfl⟩:=hmem x hx
   rw[List.mem_append,List.mem_append]
   rcases (hA p hp).from_ with ⟨y,hy,e⟩ | ⟨y,hy,e⟩
   ·rw[<-e]
    rcases h.path y hy with ⟨d,hd,e⟩ | ⟨d,hd,e⟩
    ·exact .inl (List.mem_map.2 ⟨d,hd,e⟩)
    exact .inr (.inl (List.mem_map.2 ⟨d,hd,e⟩))
   exact .inr (.inr (List.mem_map.2 ⟨y,hy,e⟩))
  rw[List.length_map,List.length_append,List.length_append,List.length_map,List.length_map,List.length_map] at this
  omega
 have hne:=List.pairwise_map.1 (aXp p1)
 have ht:treeOk (sortF (wholeF base a b).1)=true:=bDc (by omega) (fun f hf=>by
  obtain ⟨p,hp,rfl⟩:=hmem f hf
  have h3:=(hA p hp).long
  exact ⟨bBv h.tree h2 (hA p hp),by omega⟩) p1
 have e:treemergeF base a b=(sortF (wholeF base a b).1,sortC (wholeF base a b).2,0):=by
  rw[treemergeF,if_neg (by rw[h0,h.tree,h2];simp),if_neg (by rw[ht];decide)]
 rw[e]
 refine ⟨rfl,fun hc=>?_⟩
 have hc2:=bDt.1 hc
 obtain ⟨c1,c2⟩:=aVx base a b
 have hk:=(c1.1 hc2).1
 refine ⟨ht,fun g hg=>?_,fun g hg=>?_⟩
 ·obtain ⟨p,hp,rfl⟩:=hmem g (((aHt _ hne).2 g).1 hg)
  rcases (hA p hp).clean (hk p hp) with h3 | ⟨⟨x,hx,e⟩,h4⟩
  ·exact .inr h3
  rcases h.path x hx with ⟨d,hd,e2⟩ | ⟨d,hd,e2⟩
  ·exact .inl ⟨d,hd,e2.trans e⟩
  exact absurd (e2.trans e) (aXd (aJc.1 h4) hd)
 obtain ⟨p,hp,rfl⟩:=hmem g (((aHt _ hne).2 g).1 hg)
 exact (hA p hp).short (hk p hp)
def wsum (l:List FL)(is:List Int):Nat:=(is.map fun i=>wgt (filesAt l i)).sum
def total (l:List FL):Nat:=(l.map fun f=>wgt f.files).sum
theorem bDq (w:Nat->Nat):∀(n:Nat) (is:List Nat),is.Nodup->(∀i∈is,i<n)->(is.map w).sum<=((List.range n).map w).sum
 | 0,is,_,h=>by
  cases is with
  | nil=>simp
  | cons x is=>exact absurd (h x (by simp)) (by omega)
 | n+1,is,hn,h=>by
  have h1:=bDq w n (is.filter fun i=>decide (i≠n)) (hn.sublist List.filter_sublist) fun i hi=>by
   obtain ⟨a,b⟩:=List.mem_filter.1 hi
   have:=h i a
   have:i≠n:=by simpa using b
   omega
  have h2:∀(is:List Nat),is.Nodup->(is.map w).sum<=((is.filter fun i=>decide (i≠n)).map w).sum+w n:=by
   intro is
   induction is with
   | nil=>intro _;simp
   | cons x is ih=>
    intro hn
    obtain ⟨a,b⟩:=List.nodup_cons.1 hn
    have:=ih b
    rw[List.filter_cons]
    by_cases e:x=n
    ·subst e
     rw[if_neg (by simp)]
     have:is.filter (fun i=>decide (i≠x))=is:=List.filter_eq_self.2 fun i hi=>decide_eq_true fun e=>a (by rw[<-e];exact hi)
     rw[this,List.map_cons,List.sum_cons];omega
    rw[if_pos (by simp[e]),List.map_cons,List.map_cons,List.sum_cons,List.sum_cons];omega
  have h3:=h2 is hn
  rw[List.range_succ,List.map_append,List.sum_append]
  simp only[List.map_cons,List.map_nil,List.sum_cons,List.sum_nil]
  omega
theorem aUw (l:List FL):total l=((List.range l.length).map fun i:Nat=>wgt (filesAt l (i:Int))).sum:=by
 unfold total
 congr 1
 refine List.ext_getElem? fun i=>?_
 rw[List.getElem?_map,List.getElem?_map]
 by_cases h:i<l.length
 ·rw[List.getElem?_range h,List.getElem?_eq_getElem h]
  unfold filesAt
  rw[Option.map_some,Option.map_some,if_neg (by omega),Int.toNat_natCast,List.getElem?_eq_getElem h];rfl
 rw[List.getElem?_eq_none (by omega),List.getElem?_eq_none (by rw[List.length_range];omega)];rfl
theorem aQb {l:List FL}{is:List Int}(hn:is.Nodup)(h:∀i∈is,0<=i/\i<l.length):wsum l is<=total l:=by
 rw[aUw]
 have h1:=bDq (fun i=>wgt (filesAt l (i:Int))) l.length (is.map Int.toNat) (by
  refine List.pairwise_map.2 (List.Pairwise.imp_of_mem (fun {a b} ha hb hne e=>hne ?_) hn)
  have:=h a ha;have:=h b hb;omega) (fun i hi=>by
  obtain ⟨j,hj,rfl⟩:=List.mem_map.1 hi
  have:=h j hj;omega)
 rw[List.map_map] at h1
 have e:is.map ((fun i:Nat=>wgt (filesAt l (i:Int))) ∘ Int.toNat)=is.map fun i=>wgt (filesAt l i):=List.map_congr_left fun i hi=>by
  show wgt (filesAt l (i.toNat:Int))=_
  rw[Int.toNat_of_nonneg (h i hi).1]
 rw[e] at h1
 exact h1
theorem aFp (l:List FL)(i:Int)(is:List Int):wsum l (i::is)=wgt (filesAt l i)+wsum l is:=rfl
structure SmallL (l:List FL):Prop where
 right:rightP (parF l)=true
 tree:∀f∈l,treeOk f.files=true
 len:∀f∈l,f.files.length<=30
theorem aWy {l:List FL}{P:List FV->Prop}(h0:P [])(h:∀f∈l,P f.files)(i:Int):P (filesAt l i):=by
 unfold filesAt
 split
 ·exact h0
 cases e:l[i.toNat]? with
 | none=>exact h0
 | some f=>exact h f (List.mem_of_getElem? e)
theorem SmallL.at_tree {l:List FL}(h:SmallL l)(i:Int):treeOk (filesAt l i)=true:=aWy (P:=fun x=>treeOk x=true) aCn h.tree i
theorem SmallL.at_len {l:List FL}(h:SmallL l)(i:Int):(filesAt l i).length<=30:=aWy (P:=fun x=>x.length<=30) (by simp) h.len i
def OkF (D T:List FV)(B:Nat)(c G:List FV):Prop:=∃E,(E=D\/E=T)/\FitsF E B c G
theorem aWi {l0:List FL}{dest:Int}{T:List FV}{xc:Int}(S:SmallL l0)(hT:treeOk T=true)(hTl:T.length<=30)(hd:dest<l0.length)(hS:total l0+wgt T<=4000) :
  ∀(cs:List Int) (now:List (Int×Int)) (l:List FL) (k:List (Int×List Int)) (new:List FL) (B:Nat),l=l0++new->l.length+cs.length<=2000->(∀c∈cs,0<=c/\c<l0.length)->
   (∀q i,now.lookup q=some i->i<l.length/\OkF (filesAt l0 dest) T B (filesAt l0 q) (filesAt l i))->wgt (filesAt l0 dest)<=B->wgt T<=B->B+wsum l0 cs<=total l0+wgt T->
   ∀e,runF' [⟨xc,T⟩] (parF l0) dest cs now l k=.error e->e.2=0
 | [],_,_,_,_,_,_,_,_,_,_,_,_,e,h=>by rw[runF'] at h;cases h
 | c::cs,now,l,k,new,B,hl,hn,hc,hnow,hD,hTB,hB,e,h=>by
  rw[runF'] at h
  obtain ⟨c0,c1⟩:=hc c (by simp)
  rw[aFp] at hB
  rw[List.length_cons] at hn
  have hpl:(parF l0).length=l0.length:=by unfold parF;simp
  obtain ⟨q0,q1⟩:=aBh S.right c0 (by rw[hpl];exact c1)
  have hpar:par (parF l) c=par (parF l0) c:=by rw[hl,bIq c0 c1]
  have hfp:filesAt l (par (parF l0) c)=filesAt l0 (par (parF l0) c):=by rw[hl,aEc (by omega)]
  have hfc:filesAt l c=filesAt l0 c:=by rw[hl,aEc c1]
  have hon:OkF (filesAt l0 dest) T B (filesAt l0 (par (parF l0) c)) (filesAt l (nowF now dest (par (parF l0) c))):=by
   unfold nowF
   cases hlk:now.lookup (par (parF l0) c) with
   | none=>
    refine ⟨_,.inl rfl,?_⟩
    rw[Option.getD_none,hl,aEc hd]
    exact FitsF.self _ (S.at_tree _) hD
   | some i=>exact (hnow _ _ hlk).2
  -- what the commit's files are
  have hm:(mergedOn l [⟨xc,T⟩] c (nowF now dest (par (parF l0) c))).2.2=0/\((mergedOn l [⟨xc,T⟩] c (nowF now dest (par (parF l0) c))).2.1=[]->OkF (filesAt l0 dest) T (B+wgt (filesAt l0 c)) (filesAt l0 c) (mergedOn l [⟨xc,T⟩] c (nowF now dest (par (parF l0) c))).1):=by
   unfold mergedOn settledF
   by_cases hx:xc=c
   ·rw[List.find?_cons_of_pos (by simp[hx])]
    exact ⟨rfl,fun _=>⟨T,.inr rfl,FitsF.self _ hT (by omega)⟩⟩
   rw[List.find?_cons_of_neg (by simp[hx]),List.find?_nil,hpar,hfp,hfc]
   obtain ⟨E,hE,hF⟩:=hon
   have hw:wgt (filesAt l0 (par (parF l0) c))+wgt (filesAt l0 c)<=total l0:=by
    by_cases hp:0<=par (parF l0) c
    ·have:=aQb (l:=l0) (is:=[par (parF l0) c,c]) (by simp;omega) (by simp;omega)
     rw[aFp,aFp] at this
     have e:wsum l0 []=0:=rfl
     omega
    have:=aQb (l:=l0) (is:=[c]) (by simp) (by simp;omega)
    rw[aFp] at this
    have e:filesAt l0 (par (parF l0) c)=[]:=by unfold filesAt;rw[if_pos (by omega)]
    rw[e]
    have e:wgt []=0:=rfl
    omega
   obtain ⟨h1,h2⟩:=bBz hF (S.at_tree _) (S.at_tree c) (by rcases hE with rfl | rfl;exact S.at_len _;exact hTl) (S.at_len _) (S.at_len _) (by omega)
   exact ⟨h1,fun h=>⟨E,hE,h2 h⟩⟩
  cases h1:oneOn [⟨xc,T⟩] l c (nowF now dest (par (parF l0) c)) with
  | error x=>
   rw[h1] at h
   injection h with h
   subst h
   unfold oneOn at h1
   rw[if_neg (by rw[hm.1];simp)] at h1
   split at h1
   ·injection h1 with h1;rw[<-h1]
   rw[if_neg (by omega)] at h1;cases h1
  | ok l1=>
   rw[h1] at h
   dsimp only at h
   obtain ⟨m1,m2⟩:=aPc h1
   have hG:=hm.2 (congrArg Prod.fst m1)
   have hl1:l1.length=l.length+1:=by rw[m2];simp
   refine aWi S hT hTl hd hS cs _ l1 _ (new++[⟨nowF now dest (par (parF l0) c),msgAt l c,(mergedOn l [⟨xc,T⟩] c (nowF now dest (par (parF l0) c))).1⟩]) (B+wgt (filesAt l0 c)) (by rw[m2,hl,List.append_assoc]) (by omega) (fun d hd=>hc d (List.mem_cons_of_mem _ hd)) (fun q i hq=>?_) (by omega) (by omega) (by omega) e h
   rw[List.lookup_cons] at hq
   by_cases hqc:q=c
   ·subst hqc
    rw[beq_self_eq_true] at hq
    injection hq with hq
    subst hq
    refine ⟨by omega,?_⟩
    have:filesAt l1 (l.length:Int)=(mergedOn l [⟨xc,T⟩] q (nowF now dest (par (parF l0) q))).1:=by
     unfold filesAt
     rw[if_neg (by omega),m2,Int.toNat_natCast,List.getElem?_append_right (Nat.le_refl _),Nat.sub_self];rfl
    rw[this];exact hG
   rw[show (q == c)=false by simpa using hqc] at hq
   obtain ⟨h3,E,hE,hF⟩:=hnow q i hq
   refine ⟨by omega,E,hE,?_⟩
   rw[m2,aEc h3]
   exact hF.more (by omega)
theorem aZl {s:List SettL}{l:List FL}{c onto:Int}{e:MR×Int}(h:oneOn s l c onto=.error e):e.1.new=[]:=by
 unfold oneOn at h
 split at h
 ·injection h with h;subst h;rfl
 split at h
 ·injection h with h;subst h;rfl
 split at h
 ·injection h with h;subst h;rfl
 cases h
theorem aXx {s:List SettL}{ps:List Int}{dest:Int}{e:MR×Int}:∀(cs:List Int) (now:List (Int×Int)) (l:List FL) (k:List (Int×List Int)),runF' s ps dest cs now l k=.error e->e.1.new=[]
 | [],_,_,_,h=>by rw[runF'] at h;cases h
 | c::cs,now,l,k,h=>by
  rw[runF'] at h
  cases h1:oneOn s l c (nowF now dest (par ps c)) with
  | error x=>
   rw[h1] at h
   injection h with h
   subst h
   exact aZl h1
  | ok l1=>
   rw[h1] at h
   exact aXx cs _ _ _ h
theorem aRn {ps:List Int}{dest:Int}{T:List FV}{x:MR}:∀(cs:List Int) (now:List (Int×Int)) (l:List FL) (k:List (Int×List Int)),cs.Pairwise (·<·)->l.length+cs.length<=2000->
  runF' [] ps dest cs now l k=.error (x,0)->
  (∀e,runF' [⟨x.commit,T⟩] ps dest cs now l k=.error e->e.2=0->x.commit<e.1.commit/\e.1.new=[])/\
  (∀r,runF' [⟨x.commit,T⟩] ps dest cs now l k=.ok r->∃(i:Nat) (f:FL),cs[i]? = some x.commit/\(r.1.drop l.length)[i]? = some f/\f.files=T)
 | [],_,_,_,_,_,h=>by rw[runF'] at h;cases h
 | c::cs,now,l,k,hs,hn,h=>by
  obtain ⟨s1,s2⟩:=List.pairwise_cons.1 hs
  rw[List.length_cons] at hn
  rw[runF'] at h
  rw[runF']
  by_cases hx:x.commit=c
  ·have hm:mergedOn l [⟨x.commit,T⟩] c (nowF now dest (par ps c))=(T,[],0):=by
    unfold mergedOn settledF
    rw[List.find?_cons_of_pos (by simp[hx])]
   have ho:oneOn [⟨x.commit,T⟩] l c (nowF now dest (par ps c))=.ok (l++[⟨nowF now dest (par ps c),msgAt l c,T⟩]):=by
    unfold oneOn
    rw[hm,if_neg (by simp),if_neg (by simp),if_neg (by omega)]
   rw[ho]
   dsimp only
   refine ⟨fun e he h0=>?_,fun r hr=>?_⟩
   ·obtain ⟨_,p2⟩:=aUb _ _ _ _ he
    have:=s1 _ (p2 h0).2
    exact ⟨by rw[hx];exact this,aXx _ _ _ _ he⟩
   obtain ⟨new,e1,_⟩:=bHg _ _ _ _ hr
   refine ⟨0,⟨nowF now dest (par ps c),msgAt l c,T⟩,by simp[hx],?_,rfl⟩
   rw[e1,List.append_assoc,List.drop_left];rfl
  have hm:mergedOn l [⟨x.commit,T⟩] c (nowF now dest (par ps c))=mergedOn l [] c (nowF now dest (par ps c)):=by
   unfold mergedOn settledF
   rw[List.find?_cons_of_neg (by simp[hx])]
  have ho:oneOn [⟨x.commit,T⟩] l c (nowF now dest (par ps c))=oneOn [] l c (nowF now dest (par ps c)):=by
   unfold oneOn
   rw[hm]
  rw[ho]
  cases h1:oneOn [] l c (nowF now dest (par ps c)) with
  | error y=>
   rw[h1] at h
   injection h with h
   subst h
   exact absurd ((aRp h1).2 rfl).2 hx
  | ok l1=>
   rw[h1] at h
   dsimp only at h ⊢
   obtain ⟨_,m2⟩:=aPc h1
   have hl1:l1.length=l.length+1:=by rw[m2];simp
   obtain ⟨j1,j2⟩:=aRn (T:=T) cs _ l1 _ s2 (by omega) h
   refine ⟨j1,fun r hr=>?_⟩
   obtain ⟨i,f,a1,a2,a3⟩:=j2 r hr
   refine ⟨i+1,f,by rw[List.getElem?_cons_succ];exact a1,?_,a3⟩
   rw[hl1,List.getElem?_drop] at a2
   rw[List.getElem?_drop,show l.length+(i+1)=l.length+1+i by omega]
   exact a2
structure SettlesF (mvd:List Int) (x:MR) (T:List FV) (y:MR×Int):Prop where
 ok:y.2=0
 clash:0<=y.1.commit->x.commit<y.1.commit/\y.1.new=[]
 done:y.1.commit<0->∃(i:Nat) (f:FL),mvd[i]? = some x.commit/\y.1.new[i]? = some f/\f.files=T
theorem aNn {l:List FL}{ms:List MV}{source dest:Int}{x:MR}{T:List FV}(S:SmallL l)(hl:l.length<=12)(hT:treeOk T=true)(hTl:T.length<=30)(hS:total l+wgt T<=4000)
  (h:rebaseF l ms source dest []=(x,0)) (hx:0<=x.commit):SettlesF (moved (parF l) ms source) x T (rebaseF l ms source dest [⟨x.commit,T⟩]):=by
 unfold rebaseF at h ⊢
 split at h
 ·injection h with _ h;exact absurd h (by decide)
 rename_i ha
 rw[if_neg ha]
 have ha:argsOk l ms source dest=true:=by simpa using ha
 unfold argsOk at ha
 simp only[Bool.and_eq_true,decide_eq_true_eq] at ha
 obtain ⟨⟨⟨hr,s0,s1⟩,_⟩,d0,d1⟩:=ha
 have hpl:(parF l).length=l.length:=by unfold parF;simp
 unfold allF at h ⊢
 split at h
 ·injection h with _ h;exact absurd h (by decide)
 rename_i hab
 rw[if_neg hab]
 split at h
 ·injection h with _ h;exact absurd h (by decide)
 rename_i hpd
 rw[if_neg hpd]
 have hs:=aJu (parF l) ms source
 have hin:∀c∈moved (parF l) ms source,0<=c/\c<l.length:=fun c hc=>by
  obtain ⟨_,c0,c1,_⟩:=aId.1 hc
  rw[hpl] at c1
  exact ⟨by omega,c1⟩
 have hnd:(moved (parF l) ms source).Nodup:=hs.imp fun {a b} h=>Int.ne_of_lt h
 have hmd:dest∉moved (parF l) ms source:=fun hc=>by
  obtain ⟨⟨_,g0,g1⟩,c0,c1,c2⟩:=aId.1 hc
  have:=bCx (ms:=ms) S.right g0 (k:=dest) (by omega) c1 c0
  rw[c2,Bool.and_eq_true] at this
  exact hab this.1
 have hml:(moved (parF l) ms source).length<=12:=by
  have:=aEw (parF l) ms source (parF l).length
  unfold moved
  split
  ·omega
  simp
 cases h1:runF' [] (parF l) dest (moved (parF l) ms source) [] l [] with
 | ok q=>
  rw[h1] at h
  injection h with h _
  rw[<-h] at hx
  exact absurd hx (show ¬(0:Int)<=-1 by decide)
 | error e=>
  rw[h1] at h
  have h:e=(x,0):=h
  subst h
  obtain ⟨j1,j2⟩:=aRn (T:=T) _ _ _ _ hs (by omega) h1
  have hB:wgt (filesAt l dest)+wgt T+wsum l (moved (parF l) ms source)<=total l+wgt T:=by
   by_cases hdn:0<=dest
   ·have:=aQb (l:=l) (is:=dest::moved (parF l) ms source) (List.nodup_cons.2 ⟨hmd,hnd⟩) (fun i hi=>by
     rcases List.mem_cons.1 hi with rfl | hi
     ·exact ⟨hdn,d1⟩
     exact hin i hi)
    rw[aFp] at this
    omega
   have:=aQb hnd hin
   have e:filesAt l dest=[]:=by unfold filesAt;rw[if_pos (by omega)]
   rw[e]
   have e:wgt []=0:=rfl
   omega
  have hf:=aWi (xc:=x.commit) S hT hTl d1 hS (moved (parF l) ms source) [] l [] [] (wgt (filesAt l dest)+wgt T) (by simp) (by omega) hin (fun q i hq=>by cases hq) (by omega) (by omega) hB
  cases h2:runF' [⟨x.commit,T⟩] (parF l) dest (moved (parF l) ms source) [] l [] with
  | error e2=>
   have h0:=hf _ h2
   obtain ⟨k1,k2⟩:=j1 _ h2 h0
   refine ⟨h0,fun _=>⟨k1,k2⟩,fun hneg=>?_⟩
   have hneg:e2.1.commit<0:=hneg
   omega
  | ok r=>
   obtain ⟨i,f,k1,k2,k3⟩:=j2 _ h2
   exact ⟨rfl,fun hc=>absurd hc (show ¬(0:Int)<=-1 by decide),fun _=>⟨i,f,k1,k2,k3⟩⟩
theorem bEk {l:List FL}{ms:List MV}{source dest:Int}{s:List SettL}{x:MR}(h:rebaseF l ms source dest s=(x,0)):x.commit<l.length:=by
 unfold rebaseF at h
 split at h
 ·injection h with _ h;exact absurd h (by decide)
 unfold allF at h
 split at h
 ·injection h with _ h;exact absurd h (by decide)
 split at h
 ·injection h with _ h;exact absurd h (by decide)
 cases h1:runF' s (parF l) dest (moved (parF l) ms source) [] l [] with
 | ok q=>
  rw[h1] at h
  injection h with h _
  rw[<-h]
  show (-1:Int)<_
  omega
 | error e=>
  rw[h1] at h
  have h:e=(x,0):=h
  subst h
  have h3:=(aId.1 ((aUb _ _ _ _ h1).2 rfl).2).2.2.1
  have h4:(parF l).length=l.length:=by unfold parF;simp
  rw[h4] at h3;exact h3
end Go.Proofs.YtohblmepajhpaaaGreatDoor
namespace Go.Proofs.YtohblmepajhpaaaGreatDoor
open Go.RowKit
def wff (l:List FV):Nat:=(l.map fun f=>f.text.size+20).sum
def wfl (f:FLV):Nat:=f.msg.size+wff f.files
def wst (s:STV):Nat:=wff s.files
def wmk (m:MV):Nat:=10*m.new.length
def sumN {α:Type}(g:α->Nat)(l:List α):Nat:=(l.map g).sum
theorem aFo {α:Type}{g:α->Nat}{l:List α}{k:Nat}{x:α}(h:l[k]? = some x):sumN g (l.take (k+1))=sumN g (l.take k)+g x:=by
 unfold sumN
 rw[List.take_add_one,h,Option.toList_some,List.map_append,List.sum_append];simp
theorem aIy {α:Type}(g:α->Nat)(l:List α)(k:Nat):sumN g (l.take k)<=sumN g l:=by
 have:sumN g l=sumN g (l.take k)+sumN g (l.drop k):=by
  unfold sumN
  rw[<-List.sum_append,<-List.map_append,List.take_append_drop]
 omega
theorem aPs {α:Type}(g:α->Nat){l:List α}{k:Nat}(h:l.length<=k):sumN g (l.take k)=sumN g l:=by rw[List.take_of_length_le h]
theorem aJa (l:List FV):wff l=sumN (fun f:FV=>f.text.size+20) l:=rfl
def FewX (l:List FLV)(ms:List MV)(sl:List STV)(w:World)(e:Ending) (w':World):Prop:=
 ∃b:Bool,e=.returned (.bool b)/\w'=w/\(b=true->l.length<=12/\ms.length<=12/\sl.length<=6/\sumN wfl l+sumN wst sl+sumN wmk ms<=4000)
theorem aZy {w:World}{A AK SA:Option Addr}{c ck sc:Nat}{l:List FLV}{ms:List MV}{sl:List STV}(hn:l.length<=17592186044416)(hm:ms.length<=17592186044416)(hs:sl.length<=17592186044416)(hN:sumN wfl l+sumN wst sl+sumN wmk ms<=1000000000)
  (r1:RdFl w w.heap.size A l.length c l) (r2:RdM w w.heap.size AK ms.length ck ms) (r3:RdS w w.heap.size SA sl.length sc sl) :
  Calls Tryz.prog 9 #[.slice A l.length c,.slice AK ms.length ck,.slice SA sl.length sc] w (FewX l ms sl w):=by
 have HR1:=hid r1
 have HR2:=hid r2
 have HR3:=hid r3
 clear r1 r2 r3
 go_enter Tryz.func9,Tryz.ntmps9
 go_wp2
 go_loopw[7,8] (fun nv iv wr=>∃(k x:Nat),k<=l.length/\iv=.int .i64 k/\nv=.int .i64 (x:Int)/\Hid (x=sumN wfl (l.take k))/\wr=w) (fun _ iv _=>l.length-(intOf iv).toNat)
 case atStart=>exact ⟨0,0,Nat.zero_le _,rfl,rfl,hid rfl,rfl⟩
 obtain ⟨k,x,hk,rfl,rfl,hx0,rfl⟩:=hrel
 by_cases hlt:k<l.length
 ·obtain ⟨b0,o0,f,eA,hbb,hx,hf,h0,h1,h2⟩:=HR1.out.get hlt
  subst eA
  have HF:=hid (HR1.out.parts f hf)
  have hfl:=HF.out.2.1
  have HX:=hid (aFo (g:=wfl) hx)
  have hxb:x+f.msg.size+wff f.files<=1000000000:=by
   have h3:=aIy wfl l (k+1)
   rw[HX.out,<-hx0.out] at h3
   have h4:wfl f=f.msg.size+wff f.files:=rfl
   omega
  clear hx hf h0
  go_wp2
  go_loopw[7,9] (fun nv jv wr2=>∃(j y:Nat),j<=f.files.length/\jv=.int .i64 j/\nv=.int .i64 (y:Int)/\Hid (y=x+f.msg.size+wff (f.files.take j))/\wr2=wr) (fun _ jv _=>f.files.length-(intOf jv).toNat)
  case atStart=>exact ⟨0,x+f.msg.size,Nat.zero_le _,rfl,by go_num,hid rfl,rfl⟩
  obtain ⟨j,y,hj,rfl,rfl,hy0,rfl⟩:=hrel
  by_cases hlt2:j<f.files.length
  ·obtain ⟨b1,o1,g,eF,hbb1,hg,_,_,_,g2⟩:=HF.out.1.get hlt2
   have HG:=hid (aFo (g:=fun f:FV=>f.text.size+20) hg)
   have hyb:y+g.text.size+20<=1000000000:=by
    have h3:=aIy (fun f:FV=>f.text.size+20) f.files (j+1)
    rw[HG.out] at h3
    have h4:=hy0.out
    rw[aJa] at h4 hxb
    omega
   rw[eF] at h2
   clear eF hg
   go_wp2
   go_roundw
   case rel=>exact ⟨j+1,y+(g.text.size+20),by omega,by go_num,by go_num,hid (by rw[aJa,HG.out,hy0.out,aJa];omega),trivial⟩
   simp[intOf];omega
  have hjn:j=f.files.length:=by omega
  have HY:=hid (show y=x+wfl f by rw[hy0.out,hjn,List.take_length];unfold wfl;omega)
  clear hy0
  go_wp2
  go_roundw
  case rel=>exact ⟨k+1,y,by omega,by go_num,rfl,hid (by rw[HX.out,HY.out,hx0.out]),trivial⟩
  simp[intOf];omega
 have hkn:k=l.length:=by omega
 have hx1:Hid (x=sumN wfl l):=hid (by rw[hx0.out,aPs];omega)
 have hxb:x<=1000000000:=by rw[hx1.out];omega
 clear hx0
 go_wp2
 go_loopw[7,10] (fun nv iv wr2=>∃(k y:Nat),k<=sl.length/\iv=.int .i64 k/\nv=.int .i64 (y:Int)/\Hid (y=x+sumN wst (sl.take k))/\wr2=wr) (fun _ iv _=>sl.length-(intOf iv).toNat)
 case atStart=>exact ⟨0,x,Nat.zero_le _,rfl,rfl,hid rfl,rfl⟩
 clear hkn hk
 obtain ⟨k,z,hk,rfl,rfl,hz0,rfl⟩:=hrel
 by_cases hlt:k<sl.length
 ·obtain ⟨b0,o0,f,eA,hbb,hx,hf,h0,h1⟩:=HR3.out.get hlt
  subst eA
  have HF:=hid (HR3.out.parts f hf)
  have hfl:=HF.out.2.1
  have HX:=hid (aFo (g:=wst) hx)
  have hzb:z+wff f.files<=1000000000:=by
   have h3:=aIy wst sl (k+1)
   rw[HX.out] at h3
   have h4:wst f=wff f.files:=rfl
   have h5:=hz0.out
   have h6:=hx1.out
   omega
  clear hx hf h0
  go_wp2
  go_loopw[7,11] (fun nv jv wr3=>∃(j y:Nat),j<=f.files.length/\jv=.int .i64 j/\nv=.int .i64 (y:Int)/\Hid (y=z+wff (f.files.take j))/\wr3=wr) (fun _ jv _=>f.files.length-(intOf jv).toNat)
  case atStart=>exact ⟨0,z,Nat.zero_le _,rfl,rfl,hid rfl,rfl⟩
  obtain ⟨j,y,hj,rfl,rfl,hy0,rfl⟩:=hrel
  by_cases hlt2:j<f.files.length
  ·obtain ⟨b1,o1,g,eF,hbb1,hg,_,_,_,g2⟩:=HF.out.1.get hlt2
   have HG:=hid (aFo (g:=fun f:FV=>f.text.size+20) hg)
   have hyb:y+g.text.size+20<=1000000000:=by
    have h3:=aIy (fun f:FV=>f.text.size+20) f.files (j+1)
    rw[HG.out] at h3
    have h4:=hy0.out
    rw[aJa] at h4 hzb
    omega
   rw[eF] at h1
   clear eF hg
   go_wp2
   go_roundw
   case rel=>exact ⟨j+1,y+(g.text.size+20),by omega,by go_num,by go_num,hid (by rw[aJa,HG.out,hy0.out,aJa];omega),trivial⟩
   simp[intOf];omega
  have hjn:j=f.files.length:=by omega
  have HY:=hid (show y=z+wst f by rw[hy0.out,hjn,List.take_length];rfl)
  clear hy0
  go_wp2
  go_roundw
  case rel=>exact ⟨k+1,y,by omega,by go_num,rfl,hid (by rw[HX.out,HY.out,hz0.out];omega),trivial⟩
  simp[intOf];omega
 have hkn:k=sl.length:=by omega
 have hz1:Hid (z=sumN wfl l+sumN wst sl):=hid (by rw[hz0.out,hx1.out,aPs];omega)
 have hzb:z<=1000000000:=by rw[hz1.out];omega
 clear hz0
 go_wp2
 go_loopw[7,12] (fun nv iv wr2=>∃(k y:Nat),k<=ms.length/\iv=.int .i64 k/\nv=.int .i64 (y:Int)/\Hid (y=z+sumN wmk (ms.take k))/\wr2=wr) (fun _ iv _=>ms.length-(intOf iv).toNat)
 case atStart=>exact ⟨0,z,Nat.zero_le _,rfl,rfl,hid rfl,rfl⟩
 clear hkn hk
 obtain ⟨k,y,hk,rfl,rfl,hy0,rfl⟩:=hrel
 by_cases hlt:k<ms.length
 ·obtain ⟨b0,o0,f,eA,hbb,hx,hf,h0,h1⟩:=HR2.out.get hlt
  subst eA
  have hfl:=(HR2.out.parts f hf).2.1
  have HX:=hid (aFo (g:=wmk) hx)
  have hyb:y+10*f.new.length<=1000000000:=by
   have h3:=aIy wmk ms (k+1)
   rw[HX.out] at h3
   have h4:wmk f=10*f.new.length:=rfl
   have h5:=hy0.out
   have h6:=hz1.out
   omega
  clear hx hf h0
  go_wp2
  go_roundw
  case rel=>exact ⟨k+1,y+10*f.new.length,by omega,by go_num,by go_num,hid (by rw[HX.out,hy0.out];unfold wmk;omega),trivial⟩
  simp[intOf];omega
 have hkn:k=ms.length:=by omega
 have hy1:Hid (y=sumN wfl l+sumN wst sl+sumN wmk ms):=hid (by rw[hy0.out,hz1.out,aPs];omega)
 clear hy0 hz1 hx1
 go_wp2
 all_goals
  go_ret
  refine ⟨_,rfl,rfl,fun hb=>?_⟩
  first | (cases hb;done) | (refine ⟨by omega,by omega,by omega,?_⟩;rw[<-hy1.out];first | omega | (simp at hb;omega))
theorem aTs {w:World}{n c:Nat}{A:Option Addr}{l:List FLV}(hn:n<=1000000)(hr:RdFl w w.heap.size A n c l) :
  Calls Tryz.prog 15 #[.slice A n c] w (Ints (·=l.map FLV.parent) w):=by
 have HR:=hid hr
 have HL:=hid hr.len
 clear hr
 go_enter Tryz.func15,Tryz.ntmps15
 go_wp2
 go_loopw[3,4] (fun ov i wr=>∃k:Nat,k<=n/\i=.int .i64 k/\Below w.heap.size w wr/\wr.ownsRow w.heap.size 3 1 ov k (((l.take k).map FLV.parent).map (.int .i64))) (fun _ i _=>n-(intOf i).toNat)
 case atStart=>exact ⟨0,Nat.zero_le _,rfl,Below.refl _ _,by rw[List.take_zero];exact World.ownsRow_nil _ _ _ _⟩
 obtain ⟨k,hk,rfl,hb,ho⟩:=hrel
 by_cases hlt:k<n
 ·obtain ⟨b0,o0,f,rfl,hbb,hx,_,g0,_,_⟩:=HR.out.get hlt
  replace g0:=(hb.cell (p:=⟨b0,o0+k*3,none⟩) hbb).trans g0
  have HX:=hid hx;clear hx
  have hb2:=hb.alloc hb.size (.cells #[.int .i64 f.parent] 3)
  have ho2:=ho.alloc (.cells #[.int .i64 f.parent] 3)
  go_wp2_with (at_builtin;refine aAn rfl (.tmp 11) (.tmp 17) 36 rfl E28 rfl rfl ho2 (aEn wr f.parent) (aBu _) (by unfold maxLen;omega) (by omega) hb2.size ?_;intro v7 w7 ho7 hg7 hv7)
  go_roundw
  case rel=>
   refine ⟨k+1,by omega,by go_num,hb2.grown hg7 hb2.size (fun g hg=>(ho2.lt g hg).1),?_⟩
   rw[List.take_add_one,HX.out,List.map_append,List.map_append]
   exact ho7
  simp[intOf];omega
 have hkn:k=n:=by omega
 subst hkn
 rw[List.take_of_length_le (by rw[HL.out];omega)] at ho
 obtain ⟨A',c',rfl,hc'⟩:=aAd ho
 go_wp2
 go_ret
 have hlen:(l.map FLV.parent).length=k:=by rw[List.length_map];exact HL.out
 exact ⟨A',c',l.map FLV.parent,by rw[hlen];rfl,by rw[hlen];exact Rd.of_own ho hc',hb,rfl⟩
theorem bGp (l:List FLV):parF (l.map FLV.pl)=l.map FLV.parent:=by
 unfold parF;rw[List.map_map];rfl
theorem aQt (t:Int){N:Nat}(h0:0<N)(hN:N<=1000):0<=IntKind.u64.wrap t/\∃k:Nat,k<N/\Hid (IntKind.i64.wrap (IntKind.u64.wrap t % (N:Int))=(k:Int)):=by
 refine ⟨by rw[IntKind.wrap_u64];omega,?_⟩
 have h2:0<=IntKind.u64.wrap t % (N:Int):=Int.emod_nonneg _ (by omega)
 have h3:IntKind.u64.wrap t % (N:Int)<(N:Int):=Int.emod_lt_of_pos _ (by omega)
 generalize IntKind.u64.wrap t % (N:Int)=v at *
 have h4:IntKind.i64.wrap v=v:=by
  have:IntKind.i64.wrap v=(v+9223372036854775808) % 18446744073709551616-9223372036854775808:=by
   simp[IntKind.wrap,IntKind.bits,IntKind.signed]
   split<;>omega
  rw[this];omega
 exact ⟨v.toNat,by omega,hid (by rw[h4];omega)⟩
theorem aXo (l:List FV):wgt l<=wff l:=by
 unfold wgt wff
 induction l with
 | nil=>simp
 | cons f l ih=>rw[List.map_cons,List.map_cons,List.sum_cons,List.sum_cons];omega
theorem aYi (l:List FLV)(n:Nat):total (playFl (l.map FLV.pl) n)<=sumN wfl l:=by
 have h1:∀(l:List FLV) (i:Nat),total ((l.map FLV.pl).mapIdx fun k x=>playFlat (i+k) x)<=sumN wfl l:=by
  intro l
  induction l with
  | nil=>intro i;simp[total,sumN]
  | cons f l ih=>
   intro i
   have h:=ih (i+1)
   have e:(((f::l).map FLV.pl).mapIdx fun k x=>playFlat (i+k) x)=playFlat i f.pl::((l.map FLV.pl).mapIdx fun k x=>playFlat (i+1+k) x):=by
    rw[List.map_cons,List.mapIdx_cons]
    congr 1
    have:(fun k x=>playFlat (i+1+k) x)=fun k x=>playFlat (i+(k+1)) x:=by funext k x;rw[show i+1+k=i+(k+1) by omega]
    rw[this]
   have e2:total (playFlat i f.pl::((l.map FLV.pl).mapIdx fun k x=>playFlat (i+1+k) x))=wgt (playF f.files)+total ((l.map FLV.pl).mapIdx fun k x=>playFlat (i+1+k) x):=rfl
   have e3:sumN wfl (f::l)=(f.msg.size+wff f.files)+sumN wfl l:=rfl
   have h4:=bCr f.files
   have h5:=aXo f.files
   rw[e,e2,e3];omega
 have h2:playFl (l.map FLV.pl) n=((l.take n).map FLV.pl).mapIdx fun k x=>playFlat (0+k) x:=by
  unfold playFl
  rw[List.map_take]
  congr 1
  funext k x;rw[Nat.zero_add]
 have h3:=h1 (l.take n) 0
 have h4:=aIy wfl l n
 rw[h2];omega
theorem aUt {l:List FL}{n N:Nat}{ms:List MV}(hN:(playFl l n).length=N)(hm:rightM (N:Int) ms=true):SmallL (playFl l n):=by
 have hr:=bAa hN hm
 unfold rightL at hr
 simp only[Bool.and_eq_true] at hr
 refine ⟨hr.1.1,fun f hf=>List.all_eq_true.1 hr.1.2 f hf,fun f hf=>?_⟩
 obtain ⟨k,hk⟩:=List.getElem?_of_mem hf
 obtain ⟨x,hx⟩:=(aPe hk).2.2
 rw[hx];exact aIc x
theorem bDk (A:Option Addr)(n c:Nat)(w:World):(Instr.build 52 #[(1,.slice A n c)]).run Tryz.prog w=.ok (.agg #[.int .i64 0,.slice A n c]) w:=by
 go_simp
theorem bBj (k:Int)(A:Option Addr)(n c:Nat)(w:World):(Instr.build 52 #[(0,.int .i64 k),(1,.slice A n c)]).run Tryz.prog w=.ok (.agg #[.int .i64 k,.slice A n c]) w:=by
 go_simp
theorem bDe {w:World}{k:Int}{A:Option Addr}{c:Nat}{fs:List FV}(hf:fs.length<=1000000)(hk:I64 k)(r:RdF w w.heap.size A fs.length c fs) :
  RdS (w.alloc (.cells #[.int .i64 k,.slice A fs.length c] 52)) (w.alloc (.cells #[.int .i64 k,.slice A fs.length c] 52)).heap.size (some ⟨w.heap.size,0,none⟩) 1 1 [⟨k,A,c,fs⟩]:=by
 have hb:Below w.heap.size w (w.alloc (.cells #[.int .i64 k,.slice A fs.length c] 52)):=(Below.refl _ _).alloc (Nat.le_refl _) _
 refine ⟨aKr (heap_alloc_new w _) rfl rfl,rfl,fun f hf'=>?_⟩
 simp only[List.mem_singleton] at hf'
 subst hf'
 exact ⟨r.to hb hb.size,hf,hk⟩
theorem aLe {w:World}{A AK FA:Option Addr}{c ck fc:Nat}{l:List FLV}{ms:List MV}{fs:List FV}{source dest:Int}(hL:Lm w)(hn:l.length<=17592186044416)(hm:ms.length<=17592186044416)(hf:fs.length<=1000000)
  (hS:sumN wfl l+sumN wst [⟨0,FA,fc,fs⟩]+sumN wmk ms<=1000000000)
  (r1:RdFl w w.heap.size A l.length c l) (r2:RdM w w.heap.size AK ms.length ck ms) (r3:RdF w w.heap.size FA fs.length fc fs) :
  Calls Tryz.prog 4 #[.slice A l.length c,.slice AK ms.length ck,.int .i64 source,.int .i64 dest,.slice FA fs.length fc] w (BoolBelow true w):=by
 have g1:=fun u=>bDk FA fs.length fc u
 have b0:Below w.heap.size w (w.alloc (.cells #[.int .i64 0,.slice FA fs.length fc] 52)):=(Below.refl _ _).alloc (Nat.le_refl _) _
 have K0:=aZy (sl:=[⟨0,FA,fc,fs⟩]) hn hm (show 1<=17592186044416 by decide) hS (r1.to b0 b0.size) (r2.to b0 b0.size) (bDe hf (show I64 0 from ⟨by decide,by decide⟩) r3)
 have HR1:=hid (r1.to b0 b0.size)
 have HR2:=hid (r2.to b0 b0.size)
 have HR3:=hid (r3.to b0 b0.size)
 have HL:=hid hL
 have HAW:=hid (fun (u:World) (hu:Below w.heap.size w u)=>aUd (hL.to hu))
 have HB0:=hid b0
 clear r1 r2 r3 hn hm hL b0 hS
 replace K0:Calls Tryz.prog 9 #[.slice A l.length c,.slice AK ms.length ck,.slice (some ⟨w.heap.size,0,none⟩) 1 1] (w.alloc (.cells #[.int .i64 0,.slice FA fs.length fc] 52)) (FewX l ms [⟨0,FA,fc,fs⟩] (w.alloc (.cells #[.int .i64 0,.slice FA fs.length fc] 52))):=K0
 go_enter Tryz.func4,Tryz.ntmps4
 go_wp2_with fail
 refine K0.mono ?_
 rintro e w0 ⟨b,rfl,rfl,hb⟩
 clear K0
 generalize w.alloc (.cells #[.int .i64 0,.slice FA fs.length fc] 52)=w0 at *
 cases b with
 | false=>
  clear hb g1
  go_wp2_with fail
  refine (HAW.out _ HB0.out).mono ?_
  rintro e w1 ⟨rfl,hb1⟩
  go_wp2
  go_ret
  exact ⟨rfl,HB0.out.trans (hb1.mono HB0.out.size)⟩
 | true=>
  obtain ⟨hl1,hl2,_,hsum⟩:=hb rfl
  have hsum2:sumN wfl l+wff fs<=4000:=by
   have:sumN wst [(⟨0,FA,fc,fs⟩:STV)]=wff fs:=by simp[sumN,wst]
   omega
  clear hb g1 hsum
  have K1:=aPq hl1 HR1.out
  go_wp2_with fail
  refine K1.mono ?_
  rintro e w1 ⟨A1,c1,nl,rfl,hnl,r1,hb1⟩
  have hN:=aPf hnl
  have K2:=aUz (N:=nl.length) (by unfold maxLen;omega) (HR2.out.to hb1 hb1.size) (by omega)
  have HNL:=hid hnl
  have HF1:=hid r1
  have HB1:=hid (HB0.out.trans (hb1.mono HB0.out.size))
  have HR3a:=hid (HR3.out.to hb1 hb1.size)
  clear K1 hnl r1 hb1
  go_wp2_with fail
  refine K2.mono ?_
  rintro e w2 ⟨A2,c2,ms2,rfl,r2,hpl,hb2⟩
  have HF2:=hid (HF1.out.to hb2 hb2.size)
  have HK2:=hid r2
  have HB2:=hid (HB1.out.trans (hb2.mono HB1.out.size))
  have HR3b:=hid (HR3a.out.to hb2 hb2.size)
  have HSM:=hid (show SmallL (nl.map FLV.pl) by rw[HNL.out];exact aUt (N:=nl.length) (by rw[<-HNL.out,List.length_map]) hpl.right)
  have HTO:=hid (show total (nl.map FLV.pl)+wgt (playF fs)<=4000 by
   rw[HNL.out]
   have:=aYi l 12
   have:=bCr fs
   have:=aXo fs
   omega)
  have hml:=hpl.len
  have K3:=aKb (by omega) HR3b.out
  clear K2 r2 hb2 hpl HF1 HB1 HR3a hsum2
  go_wp2_with fail
  refine K3.mono ?_
  rintro e w3 ⟨TA,tc,T,rfl,rfl,r3,hb3,_⟩
  have HF3:=hid (HF2.out.to hb3 hb3.size)
  have HK3:=hid (HK2.out.to hb3 hb3.size)
  have HT3:=hid r3
  have HB3:=hid (HB2.out.trans (hb3.mono HB2.out.size))
  have htl:=aIc fs
  have HTT:=hid (aWd fs)
  clear K3 r3 hb3 HF2 HK2 HB2 HR3b HR1 HR2 HR3 HB0
  generalize playF fs=T at *
  by_cases hz:nl.length=0
  case pos=>
   go_wp2_with fail
   refine (HAW.out _ HB3.out).mono ?_
   rintro e w3 ⟨rfl,hb3⟩
   go_wp2
   go_ret
   exact ⟨rfl,HB3.out.trans (hb3.mono HB3.out.size)⟩
  obtain ⟨hs0,s,hsN,HS⟩:=aQt source (N:=nl.length) (by omega) (by omega)
  obtain ⟨hd0,d,hdN,HD⟩:=aQt dest (N:=nl.length+1) (by omega) (by omega)
  have hw:=aPy (N:=nl.length) (by omega)
  have hw1:IntKind.u64.wrap ((nl.length:Int)+1)=(nl.length:Int)+1:=aPy (N:=nl.length+1) (by omega)
  go_wp2_with fail
  obtain ⟨V3,eV3⟩:∃V,V=w3.drew:=⟨_,rfl⟩
  have HV3:=hid (show Below w3.heap.size w3 V3 by rw[eV3];exact (Below.refl _ _).drew)
  refine aAh (fun u=>Below V3.heap.size V3 u) (qs 18) mixed (by kernel_rfl) (by rw[<-eV3];exact Below.refl _ _) ?_
  intro Tq M Q hT hT' hM hQ
  rw[<-eV3]
  clear eV3 hM
  simp only[qcmp]
  simp (maxSteps:=9^7) only[↓qpre,aAb,aAe,aAc,hw,hw1]
  have hs1:=HS.out
  have hd1:IntKind.i64.wrap (IntKind.u64.wrap dest % ((nl.length:Int)+1))=(d:Int):=HD.out
  simp only[hs1,hd1]
  (repeat refine And.intro (by first|omega|(unfold inI64;omega)) ?_)
  refine hQ _ _ ?_
  clear hQ hT hT' hs1 hd1 hw hw1 HS HD hs0 hd0
  clear Tq M Q
  have HLB:=hid (fun (u:World) (hu:Below w3.heap.size w3 u)=>HL.out.to (HB3.out.trans (hu.mono HB3.out.size)))
  have K4:=aJq (source:=(s:Int)) (dest:=(d:Int)-1) (sl:=[]) (SA:=none) (sn:=0) (sc:=0) (HLB.out _ HV3.out) (by omega) (by omega) (Nat.zero_le _) (HF3.out.to HV3.out HV3.out.size) (HK3.out.to HV3.out HV3.out.size) (RdS.none_ _ _)
  obtain ⟨r,hr⟩:∃r,r=rebaseF (nl.map FLV.pl) ms2 (s:Int) ((d:Int)-1) ([].map STV.pl):=⟨_,rfl⟩
  rw[<-hr] at K4
  have HRE:=hid (show rebaseF (nl.map FLV.pl) ms2 (s:Int) ((d:Int)-1) []=r from hr.symm)
  clear hr
  go_wp2_with fail
  refine K4.mono ?_
  rintro e w4 ⟨hb4,AN,AK4,AF,AC,cn,ck4,cf,cc,fl,kl,h1,h2,rfl,_,_,_,_,_,_,_,_,_,_⟩
  clear K4
  obtain ⟨⟨xn,xm,cm,xf,xc⟩,k⟩:=r
  dsimp only at h1 h2
  clear h1 h2
  obtain ⟨W5,eW5⟩:∃W,W=w4.alloc (.cells #[.slice AN fl.length cn,.slice AK4 kl.length ck4,.int .i64 cm,.slice AF xf.length cf,.slice AC xc.length cc] 32):=⟨_,rfl⟩
  have hb45:Below w4.heap.size w4 W5:=by rw[eW5];exact (Below.refl _ _).alloc (Nat.le_refl _) _
  have hbx:W5.heap[w4.heap.size]? = some (.cells #[.slice AN fl.length cn,.slice AK4 kl.length ck4,.int .i64 cm,.slice AF xf.length cf,.slice AC xc.length cc] 32 (0,0)):=by rw[eW5];exact heap_alloc_new _ _
  have HB5:=hid ((HV3.out.trans (hb4.mono HV3.out.size)).trans (hb45.mono (HV3.out.trans (hb4.mono HV3.out.size)).size))
  have HAW2:=hid (fun (u:World) (hu:Below w3.heap.size w3 u)=>HAW.out u (HB3.out.trans (hu.mono HB3.out.size)))
  have HBX0:=hid hbx
  clear hb4 hb45 hbx HV3
  go_wp2_with fail
  rw[<-eW5]
  clear eW5
  generalize w4.heap.size=xb at *
  refine (HAW2.out _ HB5.out).mono ?_
  rintro e w6 ⟨rfl,hb6⟩
  have HD6:=hid (HB5.out.trans (hb6.mono HB5.out.size))
  have HBX:=hid ((hb6.block _ (aAa HBX0.out)).trans HBX0.out)
  have x2:w6.cell? ⟨xb,2,none⟩=some (.int .i64 cm):=by rw[Lib.cell_of_heap HBX.out];rfl
  clear hb6 HBX0 HB5
  by_cases hk0:k=0/\0<=cm
  case neg=>
   by_cases hk1:k=0
   case neg=>
    obtain ⟨hq1,hq2⟩:=aFf hk1
    clear hk0 hk1 HRE x2
    go_wp2_with fail
    refine (HAW2.out _ HD6.out).mono ?_
    rintro e u3 ⟨rfl,hb8⟩
    have HD8:=hid (HB3.out.trans ((HD6.out.trans (hb8.mono HD6.out.size)).mono HB3.out.size))
    clear hb8 HD6
    go_wp2
    go_ret
    exact ⟨rfl,HD8.out⟩
   have hcm:cm<0:=by omega
   subst hk1
   clear hk0 HRE
   go_wp2_with fail
   refine (HAW2.out _ HD6.out).mono ?_
   rintro e u3 ⟨rfl,hb8⟩
   have HD8:=hid (HB3.out.trans ((HD6.out.trans (hb8.mono HD6.out.size)).mono HB3.out.size))
   clear hb8 HD6
   go_wp2
   go_ret
   exact ⟨rfl,HD8.out⟩
  obtain ⟨rfl,hcm⟩:=hk0
  have hset:=aNn (T:=T) HSM.out (by rw[List.length_map];omega) HTT.out htl HTO.out HRE.out hcm
  have hci:=bEk HRE.out
  rw[List.length_map] at hci
  dsimp only at hset hci
  have b6:Below w6.heap.size w6 (w6.alloc (.cells #[.int .i64 cm,.slice TA T.length tc] 52)):=(Below.refl _ _).alloc (Nat.le_refl _) _
  have HZ6:=hid (HD6.out.trans (b6.mono HD6.out.size))
  have g2:=fun u=>bBj cm TA T.length tc u
  have K7:=aJq (source:=(s:Int)) (dest:=(d:Int)-1) (sl:=[⟨cm,TA,tc,T⟩]) (HLB.out _ HZ6.out) (by omega) (by omega) (show 1<=maxLen by decide) (HF3.out.to HZ6.out HZ6.out.size) (HK3.out.to HZ6.out HZ6.out.size) (bDe (by omega) (show I64 cm from ⟨by omega,by omega⟩) (HT3.out.to HD6.out HD6.out.size))
  replace K7:Calls Tryz.prog 13 #[.slice A1 nl.length c1,.slice A2 ms2.length c2,.int .i64 (s:Int),.int .i64 ((d:Int)-1),.slice (some ⟨w6.heap.size,0,none⟩) 1 1] (w6.alloc (.cells #[.int .i64 cm,.slice TA T.length tc] 52)) (MovedIs [] 0 (rebaseF (nl.map FLV.pl) ms2 (s:Int) ((d:Int)-1) [⟨cm,T⟩]) (w6.alloc (.cells #[.int .i64 cm,.slice TA T.length tc] 52))):=K7
  obtain ⟨r,hr⟩:∃r,r=rebaseF (nl.map FLV.pl) ms2 (s:Int) ((d:Int)-1) [⟨cm,T⟩]:=⟨_,rfl⟩
  rw[<-hr] at K7 hset
  clear hr HRE
  have HX6:=hid ((b6.block _ (aAa HBX.out)).trans HBX.out)
  have HSET:=hid hset
  clear hset b6
  go_wp2_with fail
  generalize w6.alloc (.cells #[.int .i64 cm,.slice TA T.length tc] 52)=w7 at *
  refine K7.mono ?_
  rintro e w8 ⟨hb8,AN2,AK5,AF2,AC2,cn2,ck5,cf2,cc2,fl2,kl2,h1,_,rfl,rn,_,_,_,_,_,_,_,_,_⟩
  clear K7 g2 x2
  obtain ⟨⟨yn,ym,ycm,yf,yc⟩,ky⟩:=r
  dsimp only at h1
  subst h1
  have hky:ky=0:=HSET.out.ok
  subst hky
  obtain ⟨W9,eW9⟩:∃W,W=w8.alloc (.cells #[.slice AN2 fl2.length cn2,.slice AK5 kl2.length ck5,.int .i64 ycm,.slice AF2 yf.length cf2,.slice AC2 yc.length cc2] 32):=⟨_,rfl⟩
  have hb89:Below w8.heap.size w8 W9:=by rw[eW9];exact (Below.refl _ _).alloc (Nat.le_refl _) _
  have hby:W9.heap[w8.heap.size]? = some (.cells #[.slice AN2 fl2.length cn2,.slice AK5 kl2.length ck5,.int .i64 ycm,.slice AF2 yf.length cf2,.slice AC2 yc.length cc2] 32 (0,0)):=by rw[eW9];exact heap_alloc_new _ _
  have HB9:=hid ((HZ6.out.trans (hb8.mono HZ6.out.size)).trans (hb89.mono (HZ6.out.trans (hb8.mono HZ6.out.size)).size))
  have HRN:=hid (rn.to hb89 hb89.size)
  have HBY:=hid hby
  have HBX9:=hid (((hb8.trans (hb89.mono hb8.size)).block _ (aAa HX6.out)).trans HX6.out)
  clear hb8 hb89 hby rn HX6 HBX HZ6 HD6 HAW2 HAW
  have x2:(w8.alloc (.cells #[.slice AN2 fl2.length cn2,.slice AK5 kl2.length ck5,.int .i64 ycm,.slice AF2 yf.length cf2,.slice AC2 yc.length cc2] 32)).cell? ⟨xb,2,none⟩=some (.int .i64 cm):=by rw[<-eW9,Lib.cell_of_heap HBX9.out];rfl
  by_cases hyc:0<=ycm
  case pos=>
   obtain ⟨hlt,hnew⟩:=HSET.out.clash hyc
   dsimp only at hlt hnew
   have hf0:fl2.length=0:=by have:=congrArg List.length hnew;rwa [List.length_map] at this
   have HD9:=hid (HB3.out.trans (HB9.out.mono HB3.out.size))
   rw[eW9] at HD9
   rw[hf0] at x2 HD9 ⊢
   clear hnew hf0 HSET HRN HBY HBX9 HB9 eW9
   go_wp2
   go_ret
   exact ⟨rfl,HD9.out⟩
  obtain ⟨j0,f0,hj,hfy,hfT⟩:=HSET.out.done (show ycm<0 by omega)
  dsimp only at hj hfy
  have K10:=aTs (by omega) (HF3.out.to HB9.out HB9.out.size)
  have HJ:=hid hj
  obtain ⟨g,hg,hgT⟩:∃g:FLV,fl2[j0]? = some g/\g.files=T:=by
   rw[List.getElem?_map] at hfy
   obtain ⟨g,hg,rfl⟩:=Option.map_eq_some_iff.1 hfy
   exact ⟨g,hg,hfT⟩
  have hjl:j0<fl2.length:=(List.getElem?_eq_some_iff.1 hg).1
  have HG:=hid (And.intro hg hgT)
  clear HSET hj hfy hfT hg hgT
  have HEW:=hid eW9
  clear eW9
  go_wp2_with fail
  rw[<-HEW.out]
  clear HEW x2
  generalize w8.heap.size=yb at *
  refine K10.mono ?_
  rintro e u1 ⟨A5,c5,l5,rfl,r5,hb10,rfl⟩
  have HD10:=hid (HB9.out.trans (hb10.mono HB9.out.size))
  have HRN10:=hid (HRN.out.to hb10 hb10.size)
  have HBY10:=hid ((hb10.block _ (aAa HBY.out)).trans HBY.out)
  have HBX10:=hid ((hb10.block _ (aAa HBX9.out)).trans HBX9.out)
  have K11:=aYo (s:=(s:Int)) (by rw[List.length_map];omega) r5 (by unfold maxLen;omega) (HK3.out.to HD10.out HD10.out.size)
  rw[List.length_map] at K11 ⊢
  clear K10 r5 hb10 HRN HBY HBX9 HB9
  go_wp2_with fail
  refine K11.mono ?_
  rintro e u2 ⟨A6,c6,mv,rfl,r6,hb11,hmv⟩
  rw[<-bGp] at hmv
  have HD11:=hid (HD10.out.trans (hb11.mono HD10.out.size))
  have HRN11:=hid (HRN10.out.to hb11 hb11.size)
  have HBY11:=hid ((hb11.block _ (aAa HBY10.out)).trans HBY10.out)
  have HBX11:=hid ((hb11.block _ (aAa HBX10.out)).trans HBX10.out)
  have HM11:=hid r6
  have HJ2:=hid (show mv[j0]? = some cm by rw[hmv];exact HJ.out)
  have HND:=hid (show mv.Nodup by rw[hmv];exact (aJu _ _ _).imp fun {a b} h=>Int.ne_of_lt h)
  have hjm:j0<mv.length:=(List.getElem?_eq_some_iff.1 HJ2.out).1
  have hmvl:mv.length<=nl.length:=by
   rw[hmv]
   unfold moved
   split
   ·refine Nat.le_trans (aEw _ _ _ _) (by unfold parF;simp)
   exact Nat.zero_le _
  have HT11:=hid (HT3.out.to HD11.out HD11.out.size)
  have HBB:=hid (HB3.out.trans (HD11.out.mono HB3.out.size))
  clear K11 hmv r6 hb11 HRN10 HBY10 HBX10 HD10 HD11 HJ HF3 HK3 HT3 HB3 HLB HSM HTO HL
  go_wp2
  go_loopw[17] (fun iv wr=>∃i:Nat,i<=j0/\iv=.int .i64 i/\Hid (Below u2.heap.size u2 wr)) (fun iv _=>mv.length-(intOf iv).toNat)
  case atStart=>exact ⟨0,Nat.zero_le _,rfl,hid (Below.refl _ _)⟩
  obtain ⟨i,hi,rfl,hb⟩:=hrel
  obtain ⟨bm,om,x,eM,hbm,hx,gx⟩:=HM11.out.int_ (k:=i) (by omega)
  subst eM
  obtain ⟨V9,eV9⟩:∃V,V=wr.drew:=⟨_,rfl⟩
  have HV9:=hid (show Below u2.heap.size u2 V9 by rw[eV9];exact hb.out.trans ((Below.refl _ _).drew.mono hb.out.size))
  have y0:wr.cell? ⟨yb,0,none⟩=some (.slice AN2 fl2.length cn2):=(hb.out.cell (p:=⟨yb,0,none⟩) (aAa HBY11.out)).trans (by rw[Lib.cell_of_heap HBY11.out];rfl)
  have HX:=hid hx
  have HGX:=hid (And.intro hbm gx)
  clear hx hbm gx hb
  obtain ⟨b0,e0,hb0⟩:∃b:Bool,decide (x=cm)=b/\(b=true↔i=j0):=⟨_,rfl,by
   rw[decide_eq_true_eq]
   constructor
   ·intro e
    have h1:=HX.out
    rw[e] at h1
    exact (List.getElem?_inj (by omega) HND.out).1 (h1.trans HJ2.out.symm)
   intro e
   have h1:=HX.out
   rw[e,HJ2.out] at h1
   injection h1 with h1
   exact h1.symm⟩
  cases b0
  case false=>
   have hne:i≠j0:=fun e=>by have:=hb0.2 e;cases this
   clear hb0
   go_wp2
   refine aAh (fun u=>Below V9.heap.size V9 u) (qs 7) mixed (by kernel_rfl) (by rw[<-eV9];exact Below.refl _ _) ?_
   intro Tq M Q hT hT' hM hQ
   rw[<-eV9]
   clear eV9
   have m0:M ⟨bm,om+i,none⟩=some (.int .i64 x):=hM _ _ fun w' hw=>((HV9.out.trans (hw.mono HV9.out.size)).cell HGX.out.1).trans HGX.out.2
   have m1:M ⟨xb,2,none⟩=some (.int .i64 cm):=hM _ _ fun w' hw=>((HV9.out.trans (hw.mono HV9.out.size)).cell (p:=⟨xb,2,none⟩) (aAa HBX11.out)).trans (by rw[Lib.cell_of_heap HBX11.out];rfl)
   clear hM
   simp only[qcmp]
   simp (maxSteps:=9^7) only[↓qpre,aAb,aAe,aAc,m0,m1,e0]
   (repeat refine And.intro (by first|omega|(unfold inI64;omega)) ?_)
   refine hQ _ _ ?_
   clear hQ hT hT' m0 m1 e0
   clear Tq M Q
   go_wp2
   go_roundw
   case rel=>exact ⟨i+1,by omega,by go_num,HV9⟩
   simp[intOf];omega
  have hij:=hb0.1 rfl
  subst hij
  clear hb0
  obtain ⟨b2,o2,g',eN,hb2,hg',hgm,_,_,gs⟩:=HRN11.out.get (k:=i) hjl
  have hgg:g'=g:=Option.some.inj (hg'.symm.trans HG.out.1)
  subst hgg eN
  have gs2:=(HV9.out.cell (p:=⟨b2,o2+i*3+2,none⟩) hb2).trans gs
  have y02:V9.cell? ⟨yb,0,none⟩=some (.slice (some ⟨b2,o2,none⟩) fl2.length cn2):=(HV9.out.cell (p:=⟨yb,0,none⟩) (aAa HBY11.out)).trans (by rw[Lib.cell_of_heap HBY11.out];rfl)
  have HGF:=hid ((HRN11.out.parts _ hgm).1.to HV9.out HV9.out.size)
  have hgl:=(HRN11.out.parts _ hgm).2.1
  have KP:=aZu hgl (show T.length<=17592186044416 by omega) HGF.out.row (HT11.out.to HV9.out HV9.out.size).row rfl rfl
  rw[decide_eq_true HG.out.2] at KP
  clear hg' hgm gs hb2
  go_wp2
  refine aAh (fun u=>Below V9.heap.size V9 u) (qs 7) mixed (by kernel_rfl) (by rw[<-eV9];exact Below.refl _ _) ?_
  intro Tq M Q hT hT' hM hQ
  rw[<-eV9]
  clear eV9
  have m0:M ⟨bm,om+i,none⟩=some (.int .i64 x):=hM _ _ fun w' hw=>((HV9.out.trans (hw.mono HV9.out.size)).cell HGX.out.1).trans HGX.out.2
  have m1:M ⟨xb,2,none⟩=some (.int .i64 cm):=hM _ _ fun w' hw=>((HV9.out.trans (hw.mono HV9.out.size)).cell (p:=⟨xb,2,none⟩) (aAa HBX11.out)).trans (by rw[Lib.cell_of_heap HBX11.out];rfl)
  clear hM
  simp only[qcmp]
  simp (maxSteps:=9^7) only[↓qpre,aAb,aAe,aAc,m0,m1,e0]
  (repeat refine And.intro (by first|omega|(unfold inI64;omega)) ?_)
  refine hQ _ _ ?_
  clear hQ hT hT' m0 m1 e0
  clear Tq M Q
  go_wp2_with fail
  refine KP.mono ?_
  rintro e u5 ⟨rfl,hb12⟩
  have HZ:=hid (HBB.out.trans ((HV9.out.trans (hb12.mono HV9.out.size)).mono HBB.out.size))
  clear hb12 KP gs2 y02 y0
  go_wp2
  go_ret
  exact ⟨rfl,HZ.out⟩
end Go.Proofs.YtohblmepajhpaaaGreatDoor
namespace Go.Proofs.YtohblmepajhpaaaGreatDoor
open Go.ChangeShapes Go.WideShapes Go.ChangeAt Go.RowKit
theorem T.list_of {α:Type}{P:Nat->α->Prop}:∀{n:Nat},(∀i,i<n->∃a,P i a)->∃l:List α,l.length=n/\∀i a,l[i]? = some a->P i a
 | 0,_=>⟨[],rfl,by simp⟩
 | n+1,h=>by
  obtain ⟨l,hl,hp⟩:=T.list_of (n:=n) fun i hi=>h i (by omega)
  obtain ⟨a,ha⟩:=h n (by omega)
  refine ⟨l++[a],by simp[hl],fun i x hx=>?_⟩
  rcases Nat.lt_or_ge i n with hi | hi
  ·rw[List.getElem?_append_left (by omega)] at hx;exact hp i x hx
  have hlt:=(List.getElem?_eq_some_iff.1 hx).1
  rw[List.length_append,List.length_singleton] at hlt
  obtain rfl:i=n:=by omega
  rw[List.getElem?_append_right (by omega),hl,Nat.sub_self] at hx
  obtain rfl:=Option.some.inj hx
  exact ha
theorem T.flat_get {α:Type}{f:α->List Value}{k:Nat}(hf:∀a,(f a).length=k)(hk:0<k):∀{l:List α} {j:Nat} {u:Value},(l.flatMap f)[j]? = some u->∃a,l[j / k]? = some a/\(f a)[j % k]? = some u
 | [],j,u,h=>by simp at h
 | x::l,j,u,h=>by
  rw[List.flatMap_cons] at h
  rcases Nat.lt_or_ge j k with hj | hj
  ·rw[List.getElem?_append_left (by rw[hf];exact hj)] at h
   exact ⟨x,by rw[Nat.div_eq_of_lt hj];rfl,by rw[Nat.mod_eq_of_lt hj];exact h⟩
  rw[List.getElem?_append_right (by rw[hf];exact hj),hf] at h
  obtain ⟨a,h1,h2⟩:=T.flat_get hf hk h
  refine ⟨a,?_,?_⟩
  ·rw[Nat.div_eq_sub_div hk hj,List.getElem?_cons_succ];exact h1
  rw[Nat.mod_eq_sub_mod hj];exact h2
theorem T.rd_elems {W:World}{a:Addr}{len cap sz:Nat} {α:Type}{f:α->List Value}{es:List α}(hf:∀x,(f x).length=sz)(hsz:0<sz)(hl:es.length=len)(hcap:len<=cap)
  (hb:0<len->a.block<W.heap.size) (hcell:∀i e,es[i]? = some e->∀t u,(f e)[t]? = some u->W.cell? ((a.add (i*sz)).add t)=some u):Rd W W.heap.size sz (some a) len cap (es.flatMap f):=by
 refine ⟨by rw[len_flat hf,hl],hcap,fun hn=>?_⟩
 obtain ⟨b,off,spot⟩:=a
 have hspot:spot=none:=by
  have h0:=hcell 0 (es[0]'(by omega)) (List.getElem?_eq_getElem _) 0 ((f (es[0]'(by omega)))[0]'(by rw[hf];exact hsz)) (List.getElem?_eq_getElem _)
  simpa[Addr.add] using World.cell?_spot h0
 subst hspot
 refine ⟨b,off,rfl,hb hn,fun j u hu=>?_⟩
 obtain ⟨x,h1,h2⟩:=T.flat_get hf hsz hu
 have:=hcell _ x h1 _ u h2
 rw[add_plain,add_plain] at this
 rw[show off+j=off+j / sz*sz+j % sz by rw[Nat.add_assoc,Nat.mul_comm (j / sz) sz,Nat.div_add_mod]]
 exact this
section
variable {H:Type} {enc:TypeId×Value->H} {W:World}
theorem T.weights_mem_all {P:Program}{e:TypeId}:∀{ds:List (DataW H)} {d:DataW H},d∈ds->∀n∈d.weights P e,n∈DataW.weightsAll P e ds
 | d0::ds,d,hd,n,hn=>by
  simp only[DataW.weightsAll,List.mem_append]
  rcases List.mem_cons.1 hd with rfl | hd
  ·exact .inl hn
  exact .inr (T.weights_mem_all hd n hn)
 | [],_,hd,_,_=>by cases hd
def Opens (enc:TypeId×Value->H)(W:World)(t:TypeId)(E:List Value->Prop):Prop:=
 ∀fuel cs x,DataW.trod enc Tryz.prog W 0 (fun _=>true) true fuel t cs=some x->(∀n∈DataW.weights Tryz.prog t x.1,n<=reachBytes)->E cs
theorem aFk {t:TypeId}(ht:Tryz.prog.underlying t=some (.int .i64)):Opens enc W t fun cs=>∃k:Int,cs=[.int .i64 k]/\-9223372036854775808<=k/\k<=9223372036854775807:=by
 intro fuel cs x h _
 obtain ⟨k,rfl,_,hw⟩:=DataW.trod_int ht h
 simp only[Lit.wf,Bool.and_eq_true,decide_eq_true_eq] at hw
 have e1:IntKind.i64.min=-9223372036854775808:=by decide
 have e2:IntKind.i64.max=9223372036854775807:=by decide
 rw[e1,e2] at hw
 exact ⟨k,rfl,hw⟩
theorem aZn {t:TypeId}(ht:Tryz.prog.underlying t=some .bool):Opens enc W t fun cs=>∃b:Bool,cs=[.bool b]:=by
 intro fuel cs x h _
 obtain ⟨b,rfl,_⟩:=DataW.trod_bool ht h
 exact ⟨b,rfl⟩
theorem aWh {t:TypeId}{E:List Value->Prop}(O:Opens enc W t E){ts:List TypeId}{ds:List (DataW H)}{v:Value}{d:DataW H}{ps:List MemPlace}{j:Nat}
  (hsz:(DataW.weightsEach Tryz.prog ts ds).all (·<=reachBytes)=true) (ht:ts[j]? = some t) (hd:ds[j]? = some d) (h:DataW.Trod enc Tryz.prog W 0 (fun _=>true) true t v d ps):E v.cells.toList:=by
 obtain ⟨fuel,hf⟩:=h
 refine O fuel _ _ hf fun n hn=>?_
 have:=List.all_eq_true.1 hsz _ (DataW.weights_mem_each ht hd n hn)
 simpa using this
end
section
variable {H:Type} {enc:TypeId×Value->H} {W:World}
def FileCells (cs:List Value):Prop:=∃f:FV,cs=f.cells/\f.path.size<=140737488351232/\f.text.size<=140737488351232
def FilesCells (W:World)(cs:List Value):Prop:=∃(A:Option Addr) (c:Nat) (l:List FV),cs=[.slice A l.length c]/\RdF W W.heap.size A l.length c l/\l.length<=17592186044416
end
section
variable {H:Type} {enc:TypeId×Value->H} {W:World}
theorem bFe (l:List Int):(l.flatMap fun x=>[Value.int .i64 x])=l.map (.int .i64):=by
 induction l with
 | nil=>rfl
 | cons x l ih=>rw[List.flatMap_cons,ih];rfl
end
end Go.Proofs.YtohblmepajhpaaaGreatDoor
