/- Texts of the walks, together: Plain laws of trees: what is put is there, what is dropped is gone, others stay; a tree stays one. Plain laws: three texts in pieces (chunk.Of), in one (merge3.Merge); renames; three trees in one. What the program computes, as functions of lists. Plain laws: what two lists have in common is the longest that both have; with the same end. Walks: diff.begin, diff.end: how many lines two lists begin, end with alike. The grid of what two lists' rests have in common: what it says, how it lies. -/
import Derived.Test.YtcemkikgaeghjaaGreatDoorG04
import Derived.Test.YtcemkikgaeghjaaGreatDoorG08
set_option maxHeartbeats 4000000
set_option maxRecDepth 100000
open Go.Lib (hid)
namespace Go.Proofs.YtcemkikgaeghjaaGreatDoor
theorem aGv:treeOk []=true:=aAv.2 ⟨by simp,fun _ h=>by simp at h,fun i a b h=>by simp at h,fun _ h=>by simp at h⟩
theorem aEw (p:Bs):within p p=false:=by
 cases h:within p p with
 | false=>rfl
 | true=>exact absurd (aSd h) (Nat.lt_irrefl _)
theorem aCn (l:List FV)(f:FV):(sortedIn l f).length=l.length+1:=by
 have:=congrArg List.length (List.takeWhile_append_dropWhile (p:=lessF f) (l:=l))
 rw[List.length_append] at this
 rw[sortedIn,List.length_append,List.length_cons]
 omega
theorem bFe (l:List FV)(f:FV):(putF l f).1.length<=l.length+1:=by
 unfold putF
 have:=aCn l f
 have:=aCn (without l f.path) f
 have:=aHr l f.path
 repeat' split
 all_goals simp only[List.length_nil]<;>omega
def file71:FV:=⟨⟨#[55,49]⟩,false,⟨#[]⟩⟩
theorem aYl (w:World):(Instr.build 28 #[(0,.string ⟨#[55,49]⟩)]).run Tryz.prog w=.ok (.agg #[.string ⟨#[55,49]⟩,.bool false,.string ⟨#[]⟩]) w:=by
 go_simp
theorem aWh (x y:FV)(w:World):(binOp .neq 28 (.agg #[.string x.path,.bool x.exec,.string x.text]) (.agg #[.string y.path,.bool y.exec,.string y.text])).run Tryz.prog w=.ok (.bool (!decide (x=y))) w:=by
 rw[run_neq_struct,aUk];rfl
theorem aDa {l:List FV}{p:ByteArray}{g:FV}:g∈without l p↔g∈l/\g.path≠p:=by simp[without,List.mem_filter]
theorem aSo {l:List FV}(h:Rise l)(p:ByteArray):Rise (without l p):=aDd (h.pair.sublist List.filter_sublist)
theorem aCa {l:List FV}{f g:FV}:g∈sortedIn l f↔g=f\/g∈l:=by
 rw[sortedIn,List.mem_append,List.mem_cons]
 conv=>rhs;rw[<-List.takeWhile_append_dropWhile (p:=lessF f) (l:=l),List.mem_append]
 constructor
 ·rintro (h | h | h)
  ·exact .inr (.inl h)
  ·exact .inl h
  exact .inr (.inr h)
 rintro (h | h | h)
 ·exact .inr (.inl h)
 ·exact .inl h
 exact .inr (.inr h)
theorem aWf {l:List FV}{p:ByteArray}(h:hasP l p=false){g:FV}(hg:g∈l):g.path≠p:=fun e=>by
 have:=aEd.2 ⟨g,hg,e⟩
 rw[h] at this;cases this
theorem bDn {l:List FV}(hr:Rise l){f:FV}(hn:hasP l f.path=false):∃a b:List FV,l=a++b/\sortedIn l f=a++f::b/\(∀x∈a,x.p<f.p)/\∀x∈b,f.p<x.p:=by
 refine ⟨l.takeWhile (lessF f),l.dropWhile (lessF f),(List.takeWhile_append_dropWhile).symm,rfl,fun x hx=>?_,fun x hx=>?_⟩
 ·have:∀{l:List FV} {x:FV},x∈l.takeWhile (lessF f)->lessF f x=true:=by
   intro l
   induction l with
   | nil=>intro x h;cases h
   | cons y l ih=>
    intro x h
    rw[List.takeWhile_cons] at h
    split at h
    ·rename_i hy
     rcases List.mem_cons.1 h with rfl | h
     ·exact hy
     exact ih h
    cases h
  exact of_decide_eq_true (this hx)
 have:∀{l:List FV},(l.Pairwise fun a b=>a.p<b.p)->(∀y∈l,y.path≠f.path)->∀x∈l.dropWhile (lessF f),f.p<x.p:=by
  intro l
  induction l with
  | nil=>intro _ _ x h;cases h
  | cons y l ih=>
   intro hp hne x h
   have hp2:=List.pairwise_cons.1 hp
   rw[List.dropWhile_cons] at h
   split at h
   ·exact ih hp2.2 (fun z hz=>hne z (List.mem_cons_of_mem _ hz)) x h
   rename_i hy
   have hyf:f.p<y.p:=by
    rcases bFw y.p f.p with e | e | e
    ·exact absurd (decide_eq_true e) hy
    ·exact absurd (FV.p_inj.1 e) (hne y (by simp))
    exact e
   rcases List.mem_cons.1 h with rfl | h
   ·exact hyf
   exact aEz hyf (hp2.1 x h)
 exact this hr.pair (fun y hy=>aWf hn hy) x hx
theorem aFb {l:List FV}(hr:Rise l){f:FV}(hn:hasP l f.path=false):Rise (sortedIn l f):=by
 obtain ⟨a,b,e,e2,ha,hb⟩:=bDn hr hn
 have hp:=hr.pair
 rw[e,List.pairwise_append] at hp
 rw[e2]
 refine aDd (List.pairwise_append.2 ⟨hp.1,List.pairwise_cons.2 ⟨hb,hp.2.1⟩,fun x hx y hy=>?_⟩)
 rcases List.mem_cons.1 hy with rfl | hy
 ·exact ha x hx
 exact aEz (ha x hx) (hb y hy)
theorem aSr (l:List FV)(p:ByteArray):hasP (without l p) p=false:=by
 cases h:hasP (without l p) p with
 | false=>rfl
 | true=>
  obtain ⟨g,hg,e⟩:=aEd.1 h
  exact absurd e (aDa.1 hg).2
theorem aRe:∀{a b:List FV},(a.Pairwise fun x y=>x.p<y.p)->(b.Pairwise fun x y=>x.p<y.p)->(∀x,x∈a↔x∈b)->a=b
 | [],[],_,_,_=>rfl
 | [],y::b,_,_,h=>absurd ((h y).2 (by simp)) (by simp)
 | x::a,[],_,_,h=>absurd ((h x).1 (by simp)) (by simp)
 | x::a,y::b,ha,hb,h=>by
  have ha2:=List.pairwise_cons.1 ha
  have hb2:=List.pairwise_cons.1 hb
  have hxy:x=y:=by
   rcases List.mem_cons.1 ((h x).1 (by simp)) with e | h1
   ·exact e
   rcases List.mem_cons.1 ((h y).2 (by simp)) with e | h2
   ·exact e.symm
   exact absurd (aEz (ha2.1 y h2) (hb2.1 x h1)) (aHo _)
  subst hxy
  refine congrArg _ (aRe ha2.2 hb2.2 fun z=>?_)
  constructor
  ·intro hz
   rcases List.mem_cons.1 ((h z).1 (by simp[hz])) with e | h1
   ·subst e;exact absurd (ha2.1 _ hz) (aHo _)
   exact h1
  intro hz
  rcases List.mem_cons.1 ((h z).2 (by simp[hz])) with e | h1
  ·subst e;exact absurd (hb2.1 _ hz) (aHo _)
  exact h1
structure PutOk (l:List FV) (f:FV):Prop where
 tree:treeOk l=true
 path:pathOk f.p=true
 text:f.text.size<=20000
 clash:clashF l f.path=false
 room:hasP l f.path=true\/l.length<100
theorem bBv {l:List FV}(h:treeOk l=true){p:ByteArray}(hp:hasP l p=true):clashF l p=false:=by
 obtain ⟨g,hg,e⟩:=aEd.1 hp
 obtain ⟨_,_,h3,h4⟩:=aAv.1 h
 cases hc:clashF l p with
 | false=>rfl
 | true=>
  simp only[clashF,List.any_eq_true,Bool.and_eq_true] at hc
  obtain ⟨x,hx,h1,h2⟩:=hc
  have hne:¬x.path=p:=by simpa using h1
  have e2:p.data.toList=g.p:=by rw[<-e];rfl
  rw[e2] at h2
  simp only[clashP,h4 x hx g hg,h4 g hg x hx,Bool.or_false,decide_eq_true_eq] at h2
  exact absurd ((FV.p_inj.1 h2).trans e) hne
theorem bAt {l:List FV}{f:FV}(h:PutOk l f):putF l f=(sortedIn (without l f.path) f,0):=by
 have h1:¬treeOk l=false:=by rw[h.tree];decide
 have h2:¬pathOk f.p=false:=by rw[h.path];decide
 have h3:¬20000<f.text.size:=Nat.not_lt.2 h.text
 rw[putF,if_neg h1,if_neg h2,if_neg h3]
 by_cases e:hasP l f.path=true
 ·rw[if_pos e]
 have e2:hasP l f.path=false:=by simpa using e
 have h5:¬100<=l.length:=by rcases h.room with h | h;exact absurd h e;omega
 have h4:¬clashF l f.path=true:=by rw[h.clash];decide
 rw[if_neg e,if_neg h4,if_neg h5,aLb e2]
theorem bAf {l:List FV}{f:FV}(h:¬PutOk l f):(putF l f).2≠0/\(putF l f).1=[]:=by
 unfold putF
 split
 ·exact ⟨by decide,rfl⟩
 split
 ·exact ⟨by decide,rfl⟩
 split
 ·exact ⟨by decide,rfl⟩
 rename_i a b c
 have a':treeOk l=true:=by simpa using a
 have b':pathOk f.p=true:=by simpa using b
 have c':f.text.size<=20000:=by omega
 split
 ·rename_i d
  exact absurd ⟨a',b',c',bBv a' d,.inl d⟩ h
 split
 ·exact ⟨by decide,rfl⟩
 split
 ·exact ⟨by decide,rfl⟩
 rename_i d e g
 exact absurd ⟨a',b',c',by simpa using e,.inr (by omega)⟩ h
theorem PutOk.tree_put {l:List FV}{f:FV}(h:PutOk l f):treeOk (sortedIn (without l f.path) f)=true:=by
 obtain ⟨h1,h2,h3,h4⟩:=aAv.1 h.tree
 have hc:∀g∈without l f.path,clashP g.p f.p=false:=fun g hg=>by
  obtain ⟨h5,h6⟩:=aDa.1 hg
  have h7:=List.any_eq_false.1 h.clash g h5
  have h8:clashP g.p f.path.data.toList=false:=by simpa[h6] using h7
  exact h8
 refine aAv.2 ⟨?_,fun g hg=>?_,aFb (aSo h3 _) (aSr l f.path),fun a ha b hb=>?_⟩
 ·rw[aCn]
  rcases h.room with hp | hp
  ·obtain ⟨g,hg,e⟩:=aEd.1 hp
   have:(without l f.path).length<l.length:=List.length_filter_lt_length_iff_exists.2 ⟨g,hg,by simp[e]⟩
   omega
  have:=aHr l f.path
  omega
 ·rcases aCa.1 hg with rfl | hg
  ·exact ⟨h.path,h.text⟩
  exact h2 g (aDa.1 hg).1
 rcases aCa.1 ha with rfl | ha
 ·rcases aCa.1 hb with rfl | hb
  ·exact aEw _
  have:=hc b hb
  simp only[clashP,Bool.or_eq_false_iff] at this
  exact this.2
 rcases aCa.1 hb with rfl | hb
 ·have:=hc a ha
  simp only[clashP,Bool.or_eq_false_iff] at this
  exact this.1.2
 exact h4 a (aDa.1 ha).1 b (aDa.1 hb).1
noncomputable def playStep (out:List FV) (f:FV):List FV:=if 2000<f.text.size then out else if (putF out f).2=0 then (putF out f).1 else out
noncomputable def playF (l:List FV):List FV:=(l.take 30).foldl playStep []
theorem aUj {out:List FV}(h:treeOk out=true)(f:FV):treeOk (playStep out f)=true/\(playStep out f).length<=out.length+1:=by
 unfold playStep
 split
 ·exact ⟨h,by omega⟩
 split
 ·rename_i h2
  by_cases hk:PutOk out f
  ·refine ⟨?_,bFe out f⟩
   rw[bAt hk];exact hk.tree_put
  exact absurd h2 (bAf hk).1
 exact ⟨h,by omega⟩
theorem aEp:∀(l:List FV){out:List FV},treeOk out=true->treeOk (l.foldl playStep out)=true/\(l.foldl playStep out).length<=out.length+l.length
 | [],_,h=>⟨h,by simp⟩
 | f::l,out,h=>by
  obtain ⟨h1,h2⟩:=aUj h f
  obtain ⟨h3,h4⟩:=aEp l h1
  refine ⟨h3,?_⟩
  rw[List.foldl_cons,List.length_cons];omega
theorem bEr (l:List FV):treeOk (playF l)=true:=(aEp _ aGv).1
theorem bDq (l:List FV):(playF l).length<=30:=by
 have h1:=(aEp (l.take 30) aGv).2
 have h2:=List.length_take_le 30 l
 simp only[List.length_nil] at h1
 unfold playF
 omega
def kindF (b o t:List ByteArray):Int:=if o=b then 3 else if t=b then 2 else if o=t then 4 else 5
def betweenF (b o t:List ByteArray):List KV:=if b.length+o.length+t.length=0 then [] else [⟨kindF b o t,b,o,t⟩]
def runF:List (Option Nat×Option Nat)->Nat->Nat->Nat
 | (some x,some y)::zs,p,q=>if x=p/\y=q then runF zs (p+1) (q+1)+1 else 0
 | _,_,_=>0
def goF (base ours theirs:List ByteArray)(zs:List (Option Nat×Option Nat)):Nat->Nat->Nat->Nat->Nat->List KV
 | 0,_,b,o,t=>betweenF (base.drop b) (ours.drop o) (theirs.drop t)
 | fuel+1,i,b,o,t=>
  match zs[i]? with
  | none=>betweenF (base.drop b) (ours.drop o) (theirs.drop t)
  | some (some x,some y)=>
   let n:=runF (zs.drop (i+1)) (x+1) (y+1)+1
   betweenF (sliceF base b i) (sliceF ours o x) (sliceF theirs t y)++⟨1,sliceF base i (i+n),sliceF base i (i+n),sliceF base i (i+n)⟩::goF base ours theirs zs fuel (i+n) (i+n) (x+n) (y+n)
  | some _=>goF base ours theirs zs fuel (i+1) b o t
def chunksF (base ours theirs:List ByteArray):List KV:=goF base ours theirs ((placeF base ours).zip (placeF base theirs)) base.length 0 0 0 0
def cleanF (l:List KV):Bool:=l.all fun c=>decide (c.kind≠5)
def mergedF (l:List KV):List ByteArray:=l.flatMap fun c=>if c.kind=3 then c.theirs else c.ours
def endedF (s:Bs):Bs:=if s=[]\/s.getLast? = some 10 then s else s++[10]
def markO:Bs:=[60,60,60,60,60,60,60,32,111,117,114,115,10]
def markB:Bs:=[124,124,124,124,124,124,124,32,98,97,115,101,10]
def markT:Bs:=[61,61,61,61,61,61,61,10]
def markE:Bs:=[62,62,62,62,62,62,62,32,116,104,101,105,114,115,10]
def catF (l:List ByteArray):Bs:=l.flatMap fun x=>x.data.toList
def clashTextF (out:Bs)(c:KV):Bs:=if c.kind≠5 then out++catF (mergedF [c]) else
 endedF (endedF (endedF (endedF out++markO++catF c.ours)++markB++catF c.base)++markT++catF c.theirs)++markE
def merge3F (b o t:ByteArray):ByteArray×Bool:=
 let l:=chunksF (linesF b) (linesF o) (linesF t)
 if cleanF l=true then (joinF (mergedF l),true) else (ofB (l.foldl clashTextF []),false)
def ratioF (a b:ByteArray):Int:=
 let x:=linesF a;let y:=linesF b
 if 400<x.length\/400<y.length then 0 else if x.length+y.length=0 then 100 else ((200*lcs x y / (x.length+y.length):Nat):Int)
def loneF (l other:List FV):List Nat:=(List.range l.length).filter fun i=>match l[i]? with
 | some f=>(findP other f.path).isNone && !decide (f.text=⟨#[]⟩)
 | none=>false
def textAt (l:List FV)(i:Nat):ByteArray:=((l[i]?).map FV.text).getD ⟨#[]⟩
def sameF (base side:List FV):List Nat->List Nat->List (Nat×Nat)×List Nat×List Nat
 | [],js=>([],[],js)
 | i::is,js=>
  match js.find? fun j=>decide (textAt side j=textAt base i) with
  | some j=>let r:=sameF base side is (js.filter fun k=>decide (k≠j));((i,j)::r.1,r.2.1,r.2.2)
  | none=>let r:=sameF base side is js;(r.1,i::r.2.1,r.2.2)
def bestF (base side:List FV)(is js:List Nat):Option (Nat×Nat):=
 ((is.flatMap fun i=>js.map fun j=>(i,j)).foldl (fun (b:Option (Nat×Nat)×Int) p=>let r:=ratioF (textAt base p.1) (textAt side p.2);if b.2<r then (some p,r) else b) (none,49)).1
def alikeF (base side:List FV):Nat->List Nat->List Nat->List (Nat×Nat)
 | 0,_,_=>[]
 | n+1,is,js=>
  match bestF base side is js with
  | none=>[]
  | some p=>p::alikeF base side n (is.filter fun k=>decide (k≠p.1)) (js.filter fun k=>decide (k≠p.2))
def pairsF (base side:List FV):List (Nat×Nat):=
 let s:=sameF base side (loneF base side) (loneF side base)
 s.1++alikeF base side s.2.1.length s.2.1 s.2.2
def movedF (base side:List FV)(p:ByteArray):Option ByteArray:=
 ((pairsF base side).find? fun q=>decide (((base[q.1]?).map FV.path)=some p)).bind fun q=>(side[q.2]?).map FV.path
structure CL where
 path:ByteArray
 kind:Int
 text:ByteArray
deriving DecidableEq
def whereF (base side:List FV)(f:FV):Option FV:=
 match findP side f.path with
 | some x=>some x
 | none=>(movedF base side f.path).bind fun d=>findP side d
def addedF (base side:List FV):List FV:=side.filter fun f=>(findP base f.path).isNone && !((pairsF base side).any fun q=>decide (((side[q.2]?).map FV.path)=some f.path))
def putM (m:List FV×List CL)(f:FV)(kind:Int):List FV×List CL:=
 if (m.1.any fun x=>clashP x.p f.p)=true then (m.1,m.2++[⟨f.path,5,f.text⟩])
 else (m.1++[f],if kind=0 then m.2 else m.2++[⟨f.path,kind,f.text⟩])
def bothM (m:List FV×List CL)(f o t:FV):List FV×List CL:=
 let path:=if o.path=f.path then t.path else o.path
 let kind:Int:=if o.path=f.path then 0 else if t.path≠f.path/\t.path≠o.path then 4 else 0
 let exec:=if o.exec=f.exec then t.exec else o.exec
 let r:=merge3F f.text o.text t.text
 putM m ⟨path,exec,r.1⟩ (if r.2=false/\kind=0 then 1 else kind)
def keptM (base a b:List FV)(m:List FV×List CL)(f:FV):List FV×List CL:=
 match whereF base a f,whereF base b f with
 | some x,some y=>bothM m f x y
 | some x,none=>if x=f then m else putM m x 3
 | none,some y=>if y=f then m else putM m y 3
 | none,none=>m
def addOne (theirs:List FV)(m:List FV×List CL)(x:FV):List FV×List CL:=
 match findP theirs x.path with
 | none=>putM m x 0
 | some y=>if x=y then putM m x 0 else putM m ⟨x.path,x.exec,(merge3F ⟨#[]⟩ x.text y.text).1⟩ 2
def addM (ours theirs:List FV)(m:List FV×List CL):List FV×List CL:=
 (theirs.filter fun y=>(findP ours y.path).isNone).foldl (fun m y=>putM m y 0) (ours.foldl (addOne theirs) m)
def wholeF (base a b:List FV):List FV×List CL:=addM (addedF base a) (addedF base b) (base.foldl (keptM base a b) ([],[]))
def sortC (l:List CL):List CL:=l.foldl (fun out c=>out.takeWhile (fun x=>decide (x.path.data.toList<=c.path.data.toList))++c::out.dropWhile (fun x=>decide (x.path.data.toList<=c.path.data.toList))) []
def sortF (l:List FV):List FV:=l.foldl (fun out f=>sortedIn out f) []
noncomputable def treemergeF (base a b:List FV):List FV×List CL×Int:=
 if treeOk base=false\/treeOk a=false\/treeOk b=false then ([],[],5) else
 if treeOk (sortF (wholeF base a b).1)=false then ([],[],6) else (sortF (wholeF base a b).1,sortC (wholeF base a b).2,0)
theorem aMb:∀(a b:List ByteArray),∃s:List ByteArray,s.Sublist a/\s.Sublist b/\s.length=lcs a b
 | [],b=>⟨[],List.nil_sublist _,List.nil_sublist _,by simp[lcs]⟩
 | x::a,[]=>⟨[],List.nil_sublist _,List.nil_sublist _,by simp[lcs]⟩
 | x::a,y::b=>by
  rw[lcs]
  split
  ·rename_i e
   subst e
   obtain ⟨s,h1,h2,h3⟩:=aMb a b
   exact ⟨x::s,h1.cons_cons x,h2.cons_cons x,by rw[List.length_cons,h3]⟩
  rcases Nat.le_total (lcs a (y::b)) (lcs (x::a) b) with h | h
  ·obtain ⟨s,h1,h2,h3⟩:=aMb (x::a) b
   exact ⟨s,h1,h2.cons y,by rw[h3,Nat.max_eq_right h]⟩
  obtain ⟨s,h1,h2,h3⟩:=aMb a (y::b)
  exact ⟨s,h1.cons x,h2,by rw[h3,Nat.max_eq_left h]⟩
termination_by a b=>a.length+b.length
theorem aQp {x z:ByteArray}{s a:List ByteArray}(h:(z::s).Sublist (x::a)):s.Sublist a/\(z≠x->(z::s).Sublist a):=by
 cases h with
 | cons _ h=>exact ⟨(List.sublist_cons_self z s).trans h,fun _=>h⟩
 | cons_cons _ h=>exact ⟨h,fun e=>absurd rfl e⟩
theorem aNd:∀(a b s:List ByteArray),s.Sublist a->s.Sublist b->s.length<=lcs a b
 | [],b,s,h1,_=>by rw[List.sublist_nil.1 h1];simp
 | x::a,[],s,_,h2=>by rw[List.sublist_nil.1 h2];simp
 | x::a,y::b,[],_,_=>by simp
 | x::a,y::b,z::s,h1,h2=>by
  obtain ⟨a1,a2⟩:=aQp h1
  obtain ⟨b1,b2⟩:=aQp h2
  rw[lcs]
  split
  ·have:=aNd a b s a1 b1
   rw[List.length_cons];omega
  rename_i e
  by_cases hz:z=x
  ·have hy:z≠y:=fun h=>e (hz▸h)
   have:=aNd (x::a) b (z::s) h1 (b2 hy)
   omega
  have:=aNd a (y::b) (z::s) (a2 hz) h2
  omega
termination_by a b=>a.length+b.length
theorem aVx {x:ByteArray}{s a:List ByteArray}(h:s.Sublist (a++[x])):s.dropLast.Sublist a:=by
 have h1:=h.reverse
 rw[List.reverse_append] at h1
 have h2:s.reverse.tail.Sublist a.reverse:=by
  cases hs:s.reverse with
  | nil=>exact List.nil_sublist _
  | cons z r=>
   rw[hs] at h1
   exact (aQp h1).1
 have h3:=h2.reverse
 rw[List.reverse_reverse] at h3
 rw[<-List.reverse_reverse s,List.dropLast_reverse]
 exact h3
theorem bDt (x:ByteArray)(a b:List ByteArray):lcs (a++[x]) (b++[x])=lcs a b+1:=by
 refine Nat.le_antisymm ?_ ?_
 ·obtain ⟨s,h1,h2,h3⟩:=aMb (a++[x]) (b++[x])
  have:=aNd a b s.dropLast (aVx h1) (aVx h2)
  rw[List.length_dropLast] at this
  omega
 obtain ⟨s,h1,h2,h3⟩:=aMb a b
 have:=aNd (a++[x]) (b++[x]) (s++[x]) (h1.append_right [x]) (h2.append_right [x])
 rw[List.length_append,List.length_singleton] at this
 omega
theorem bAv:∀(c a b:List ByteArray),lcs (a++c) (b++c)=lcs a b+c.length
 | [],a,b=>by simp
 | x::c,a,b=>by
  have:=bAv c (a++[x]) (b++[x])
  rw[bDt] at this
  rw[List.append_assoc,List.append_assoc] at this
  rw[List.length_cons]
  have e:∀l:List ByteArray,l++([x]++c)=l++x::c:=fun l=>rfl
  rw[e,e] at this
  omega
theorem aRm:∀(c a b:List ByteArray),lcs (c++a) (c++b)=lcs a b+c.length
 | [],a,b=>by simp
 | x::c,a,b=>by
  rw[List.cons_append,List.cons_append,lcs,if_pos rfl,aRm c a b,List.length_cons];omega
def sfx (a b:List ByteArray):Nat:=pfx a.reverse b.reverse
theorem bHv (a b:List ByteArray):sfx a b<=a.length/\sfx a b<=b.length:=by
 have:∀(a b:List ByteArray),pfx a b<=a.length/\pfx a b<=b.length:=by
  intro a
  induction a with
  | nil=>intro b;simp[pfx]
  | cons x a ih=>
   intro b
   cases b with
   | nil=>simp[pfx]
   | cons y b=>
    rw[pfx]
    have:=ih b
    split<;>simp only[List.length_cons]<;>omega
 have h:=this a.reverse b.reverse
 rw[List.length_reverse,List.length_reverse] at h
 exact h
theorem bEg (a b:List ByteArray):a.drop (a.length-sfx a b)=b.drop (b.length-sfx a b):=by
 have h:=aEs a.reverse b.reverse
 have h1:=congrArg List.reverse h
 rw[List.reverse_take,List.reverse_take,List.reverse_reverse,List.reverse_reverse,List.length_reverse,List.length_reverse] at h1
 exact h1
theorem bAk (a b:List ByteArray)(n m:Nat)(hn:a.take n=b.take n)(_hna:n<=a.length)(hnb:n<=b.length)
  (hm:(a.drop n).drop ((a.drop n).length-m)=(b.drop n).drop ((b.drop n).length-m)) (hma:m<=(a.drop n).length) (_hmb:m<=(b.drop n).length) :
  lcs a b=n+m+lcs ((a.drop n).take ((a.drop n).length-m)) ((b.drop n).take ((b.drop n).length-m)):=by
 have e1:lcs a b=lcs (a.drop n) (b.drop n)+n:=by
  have h:=aRm (a.take n) (a.drop n) (b.drop n)
  rw[List.take_append_drop,hn,List.take_append_drop,List.length_take,Nat.min_eq_left hnb] at h
  exact h
 generalize a.drop n=c at *
 generalize b.drop n=d at *
 have h:=bAv (c.drop (c.length-m)) (c.take (c.length-m)) (d.take (d.length-m))
 rw[List.take_append_drop,hm,List.take_append_drop,<-hm,List.length_drop] at h
 omega
end Go.Proofs.YtcemkikgaeghjaaGreatDoor
namespace Go.Proofs.YtcemkikgaeghjaaGreatDoor
open Go.RowKit
theorem aRs:∀{k:Nat}{a b:List ByteArray},k<=a.length->k<=b.length->(∀(i:Nat)(x y:ByteArray),i<k->a[i]? = some x->b[i]? = some y->x=y)->(k=a.length\/k=b.length\/∃x y:ByteArray,a[k]? = some x/\b[k]? = some y/\x≠y)->pfx a b=k
 | 0,[],b,_,_,_,_=>by simp[pfx]
 | 0,x::a,[],_,_,_,_=>by simp[pfx]
 | 0,x::a,y::b,_,_,_,h=>by
  have h':x≠y:=by
   rcases h with h | h | ⟨u,v,h1,h2,h3⟩
   ·simp at h
   ·simp at h
   simp at h1 h2;subst h1;subst h2;exact h3
  rw[pfx,if_neg h']
 | k+1,[],b,h,_,_,_=>by simp at h
 | k+1,x::a,[],_,h,_,_=>by simp at h
 | k+1,x::a,y::b,h1,h2,h3,h4=>by
  have e:x=y:=h3 0 x y (by omega) rfl rfl
  rw[pfx,if_pos e,aRs (k:=k) (by simpa using h1) (by simpa using h2) (fun i u v hi hu hv=>h3 (i+1) u v (by omega) (by simpa using hu) (by simpa using hv)) (by simpa using h4)]
theorem aSf {A B:Option Addr}{n ca m cb:Nat}{a b:List ByteArray}{w:World}(hn:n<=17592186044416)(_hm:m<=17592186044416)(ha:Rd w w.heap.size 1 A n ca (a.map .string))(hb:Rd w w.heap.size 1 B m cb (b.map .string)) :
  Calls Tryz.prog 181 #[.slice A n ca,.slice B m cb] w fun e w'=>e=.returned (.int .i64 (pfx a b))/\Below w.heap.size w w':=by
 have hla:a.length=n:=by have:=ha.len;rw[List.length_map] at this;omega
 have hlb:b.length=m:=by have:=hb.len;rw[List.length_map] at this;omega
 have HA:=hid hla
 have HB:=hid hlb
 clear hla hlb
 go_enter Tryz.func181,Tryz.ntmps181
 go_wp2
 go_loopw[5] (fun i wr=>∃k:Nat,k<=n/\k<=m/\i=.int .i64 k/\Below w.heap.size w wr/\Hid (∀(j:Nat) (x y:ByteArray),j<k->a[j]? = some x->b[j]? = some y->x=y)) (fun i _=>n-(intOf i).toNat)
 case atStart=>exact ⟨0,Nat.zero_le _,Nat.zero_le _,rfl,Below.refl _ _,hid (fun j _ _ hj=>absurd hj (Nat.not_lt_zero _))⟩
 obtain ⟨k,hk,hk2,rfl,hbw,hj⟩:=hrel
 have hbd:=hbw.drew
 by_cases h1:k<n
 ·by_cases h2:k<m
  ·obtain ⟨b0,o0,x,rfl,hbb,hx,h0⟩:=ha.str h1
   obtain ⟨b1,o1,y,rfl,hbb1,hy,h3⟩:=hb.str h2
   have HX:=hid hx
   have HY:=hid hy
   clear hx hy
   go_wp2
   refine aAd (fun w'=>Below w.heap.size w w') (qs 21) mixed (by kernel_rfl) hbd ?_
   intro Tp M Q hT hT' hM hQ
   have m0:M ⟨b0,o0+k,none⟩=some (.string x):=hM _ _ fun w' hw=>(hw.cell (p:=⟨b0,o0+k,none⟩) hbb).trans h0
   have m1:M ⟨b1,o1+k,none⟩=some (.string y):=hM _ _ fun w' hw=>(hw.cell (p:=⟨b1,o1+k,none⟩) hbb1).trans h3
   have k1:decide ((k:Int)<n)=true:=decide_eq_true (by omega)
   have k2:decide ((k:Int)<m)=true:=decide_eq_true (by omega)
   simp only[qcmp]
   by_cases hq:x=y
   ·have e1:(x.toList == y.toList)=true:=by rw[hq];exact beq_self_eq_true _
    have HN:=hid (show ∀(j:Nat) (u v:ByteArray),j<k+1->a[j]? = some u->b[j]? = some v->u=v from fun j u v hj' hu hv=>by
     by_cases e:j=k
     ·subst e;rw[HX.out] at hu;rw[HY.out] at hv;injection hu with hu;injection hv with hv;rw[<-hu,<-hv];exact hq
     exact hj.out j u v (by omega) hu hv)
    simp (maxSteps:=9^7) only[↓qpre,aAb,aAf,aAc,m0,m1,k1,k2]
    refine ⟨⟨by omega,by omega⟩,⟨by omega,by omega⟩,hQ _ _ ?_⟩
    clear hQ hT hT' hM m0 m1 k1 k2 e1
    go_wp2
    go_roundw
    case rel=>exact ⟨k+1,by omega,by omega,by go_num,hbd,HN.out⟩
    simp[intOf];omega
   have e1:=aBe hq
   have HN:=hid (show pfx a b=k from aRs (by have:=HA.out;omega) (by have:=HB.out;omega) hj.out (.inr (.inr ⟨x,y,HX.out,HY.out,hq⟩)))
   simp (maxSteps:=9^7) only[↓qpre,aAb,aAf,aAc,m0,m1,k1,k2]
   refine ⟨⟨by omega,by omega⟩,⟨by omega,by omega⟩,hQ _ _ ?_⟩
   clear hQ hT hT' hM m0 m1 k1 k2
   go_wp2
   go_ret
   exact ⟨by rw[HN.out];rfl,hbd⟩
  have HN:=hid (show pfx a b=k from aRs (by have:=HA.out;omega) (by have:=HB.out;omega) hj.out (.inr (.inl (by have:=HB.out;omega))))
  go_wp2
  refine aAd (fun w'=>Below w.heap.size w w') (qs 21) mixed (by kernel_rfl) hbd ?_
  intro Tp M Q hT hT' hM hQ
  have k1:decide ((k:Int)<n)=true:=decide_eq_true (by omega)
  have k2:decide ((k:Int)<m)=false:=decide_eq_false (by omega)
  simp only[qcmp]
  simp (maxSteps:=9^7) only[↓qpre,aAb,aAf,aAc,k1,k2]
  refine hQ _ _ ?_
  clear hQ hT hT' hM k1 k2
  go_wp2
  go_ret
  exact ⟨by rw[HN.out];rfl,hbd⟩
 have HN:=hid (show pfx a b=k from aRs (by have:=HA.out;omega) (by have:=HB.out;omega) hj.out (.inl (by have:=HA.out;omega)))
 go_wp2
 refine aAd (fun w'=>Below w.heap.size w w') (qs 21) mixed (by kernel_rfl) hbd ?_
 intro Tp M Q hT hT' hM hQ
 have k1:decide ((k:Int)<n)=false:=decide_eq_false (by omega)
 simp only[qcmp]
 simp (maxSteps:=9^7) only[↓qpre,aAb,aAf,aAc,k1]
 refine hQ _ _ ?_
 clear hQ hT hT' hM k1
 go_wp2
 go_ret
 exact ⟨by rw[HN.out];rfl,hbd⟩
theorem bBr {k:Nat}{a b:List ByteArray}(h1:k<=a.length)(h2:k<=b.length)(h3:∀(i:Nat)(x y:ByteArray),i<k->a[a.length-1-i]? = some x->b[b.length-1-i]? = some y->x=y)(h4:k=a.length\/k=b.length\/(k<a.length/\k<b.length/\∃x y:ByteArray,a[a.length-1-k]? = some x/\b[b.length-1-k]? = some y/\x≠y)):sfx a b=k:=by
 refine aRs (by simpa using h1) (by simpa using h2) (fun i x y hi hx hy=>h3 i x y hi ?_ ?_) ?_
 ·rw[List.getElem?_reverse (by omega)] at hx;exact hx
 ·rw[List.getElem?_reverse (by omega)] at hy;exact hy
 rcases h4 with h | h | ⟨g1,g2,x,y,hx,hy,hne⟩
 ·left;simpa using h
 ·right;left;simpa using h
 right;right
 exact ⟨x,y,by rw[List.getElem?_reverse g1];exact hx,by rw[List.getElem?_reverse g2];exact hy,hne⟩
theorem bGk {A B:Option Addr}{n ca m cb:Nat}{a b:List ByteArray}{w:World}(hn:n<=17592186044416)(hm:m<=17592186044416)(ha:Rd w w.heap.size 1 A n ca (a.map .string))(hb:Rd w w.heap.size 1 B m cb (b.map .string)) :
  Calls Tryz.prog 182 #[.slice A n ca,.slice B m cb] w fun e w'=>e=.returned (.int .i64 (sfx a b))/\Below w.heap.size w w':=by
 have hla:a.length=n:=by have:=ha.len;rw[List.length_map] at this;omega
 have hlb:b.length=m:=by have:=hb.len;rw[List.length_map] at this;omega
 have HA:=hid hla
 have HB:=hid hlb
 clear hla hlb
 go_enter Tryz.func182,Tryz.ntmps182
 go_wp2
 go_loopw[5] (fun i wr=>∃k:Nat,k<=n/\k<=m/\i=.int .i64 k/\Below w.heap.size w wr/\Hid (∀(j:Nat) (x y:ByteArray),j<k->a[a.length-1-j]? = some x->b[b.length-1-j]? = some y->x=y)) (fun i _=>n-(intOf i).toNat)
 case atStart=>exact ⟨0,Nat.zero_le _,Nat.zero_le _,rfl,Below.refl _ _,hid (fun j _ _ hj=>absurd hj (Nat.not_lt_zero _))⟩
 obtain ⟨k,hk,hk2,rfl,hbw,hj⟩:=hrel
 have hbd:=hbw.drew
 by_cases h1:k<n
 ·by_cases h2:k<m
  ·obtain ⟨b0,o0,x,rfl,hbb,hx,h0⟩:=ha.str (k:=n-1-k) (by omega)
   obtain ⟨b1,o1,y,rfl,hbb1,hy,h3⟩:=hb.str (k:=m-1-k) (by omega)
   have HX:=hid (show a[a.length-1-k]? = some x by rw[HA.out];exact hx)
   have HY:=hid (show b[b.length-1-k]? = some y by rw[HB.out];exact hy)
   clear hx hy
   go_wp2
   refine aAd (fun w'=>Below w.heap.size w w') (qs 29) mixed (by kernel_rfl) hbd ?_
   intro Tp M Q hT hT' hM hQ
   have m0:M ⟨b0,o0+(n-1-k),none⟩=some (.string x):=hM _ _ fun w' hw=>(hw.cell (p:=⟨b0,o0+(n-1-k),none⟩) hbb).trans h0
   have m1:M ⟨b1,o1+(m-1-k),none⟩=some (.string y):=hM _ _ fun w' hw=>(hw.cell (p:=⟨b1,o1+(m-1-k),none⟩) hbb1).trans h3
   have k1:decide ((k:Int)<n)=true:=decide_eq_true (by omega)
   have k2:decide ((k:Int)<m)=true:=decide_eq_true (by omega)
   have i1:(n:Int)-1-k=((n-1-k:Nat):Int):=by omega
   have i2:(m:Int)-1-k=((m-1-k:Nat):Int):=by omega
   simp only[qcmp]
   by_cases hq:x=y
   ·have e1:(x.toList == y.toList)=true:=by rw[hq];exact beq_self_eq_true _
    have HN:=hid (show ∀(j:Nat) (u v:ByteArray),j<k+1->a[a.length-1-j]? = some u->b[b.length-1-j]? = some v->u=v from fun j u v hj' hu hv=>by
     by_cases e:j=k
     ·subst e;rw[HX.out] at hu;rw[HY.out] at hv;injection hu with hu;injection hv with hv;rw[<-hu,<-hv];exact hq
     exact hj.out j u v (by omega) hu hv)
    simp (maxSteps:=9^7) only[↓qpre,aAb,aAf,aAc,i1,i2,m0,m1,k1,k2]
    (repeat refine ⟨by first|omega|(unfold inI64;omega),?_⟩)
    refine hQ _ _ ?_
    clear hQ hT hT' hM m0 m1 k1 k2 e1
    go_wp2
    go_roundw
    case rel=>exact ⟨k+1,by omega,by omega,by go_num,hbd,HN.out⟩
    simp[intOf];omega
   have e1:=aBe hq
   have HN:=hid (show sfx a b=k from bBr (by have:=HA.out;omega) (by have:=HB.out;omega) hj.out (.inr (.inr ⟨by have:=HA.out;omega,by have:=HB.out;omega,x,y,HX.out,HY.out,hq⟩)))
   simp (maxSteps:=9^7) only[↓qpre,aAb,aAf,aAc,i1,i2,m0,m1,k1,k2]
   (repeat refine ⟨by first|omega|(unfold inI64;omega),?_⟩)
   refine hQ _ _ ?_
   clear hQ hT hT' hM m0 m1 k1 k2
   go_wp2
   go_ret
   exact ⟨by rw[HN.out];rfl,hbd⟩
  have HN:=hid (show sfx a b=k from bBr (by have:=HA.out;omega) (by have:=HB.out;omega) hj.out (.inr (.inl (by have:=HB.out;omega))))
  go_wp2
  refine aAd (fun w'=>Below w.heap.size w w') (qs 29) mixed (by kernel_rfl) hbd ?_
  intro Tp M Q hT hT' hM hQ
  have k1:decide ((k:Int)<n)=true:=decide_eq_true (by omega)
  have k2:decide ((k:Int)<m)=false:=decide_eq_false (by omega)
  simp only[qcmp]
  simp (maxSteps:=9^7) only[↓qpre,aAb,aAf,aAc,k1,k2]
  refine hQ _ _ ?_
  clear hQ hT hT' hM k1 k2
  go_wp2
  go_ret
  exact ⟨by rw[HN.out];rfl,hbd⟩
 have HN:=hid (show sfx a b=k from bBr (by have:=HA.out;omega) (by have:=HB.out;omega) hj.out (.inl (by have:=HA.out;omega)))
 go_wp2
 refine aAd (fun w'=>Below w.heap.size w w') (qs 29) mixed (by kernel_rfl) hbd ?_
 intro Tp M Q hT hT' hM hQ
 have k1:decide ((k:Int)<n)=false:=decide_eq_false (by omega)
 simp only[qcmp]
 simp (maxSteps:=9^7) only[↓qpre,aAb,aAf,aAc,k1]
 refine hQ _ _ ?_
 clear hQ hT hT' hM k1
 go_wp2
 go_ret
 exact ⟨by rw[HN.out];rfl,hbd⟩
theorem bEe {x:Int}(h:0<=x/\x<=2000000000):IntKind.i32.wrap x=x:=by
 simp[IntKind.wrap,IntKind.bits,IntKind.signed];omega
def gcel (a b:List ByteArray)(i j p q:Nat):Nat:=if i<p\/(i=p/\j<=q) then cel a b p q else 0
def gridL (a b:List ByteArray)(i j:Nat):List Value:=(List.range ((a.length+1)*(b.length+1))).map fun t=>Value.int .i32 ((gcel a b i j (t / (b.length+1)) (t % (b.length+1)):Nat):Int)
theorem aHw {n W i j:Nat}(hi:i<=n)(hj:j<W):i*W+j<(n+1)*W:=by
 have:=Nat.mul_le_mul_right W hi
 rw[Nat.add_mul]
 omega
theorem aVy {W i j:Nat}(hj:j<W):(i*W+j) / W=i/\(i*W+j) % W=j:=by
 have hW:0<W:=by omega
 exact ⟨by rw[Nat.add_comm,Nat.add_mul_div_right _ _ hW,Nat.div_eq_of_lt hj,Nat.zero_add],by rw[Nat.add_comm,Nat.add_mul_mod_self_right,Nat.mod_eq_of_lt hj]⟩
theorem aMw (a b:List ByteArray)(i j:Nat):(gridL a b i j).length=(a.length+1)*(b.length+1):=by simp[gridL]
theorem aFl {a b:List ByteArray}{i j p q:Nat}(hp:p<=a.length)(hq:q<=b.length)(h:i<p\/(i=p/\j<=q)):(gridL a b i j)[p*(b.length+1)+q]? = some (.int .i32 (cel a b p q:Nat)):=by
 obtain ⟨h1,h2⟩:=aVy (W:=b.length+1) (i:=p) (j:=q) (by omega)
 have hlt:=aHw (n:=a.length) (W:=b.length+1) (j:=q) hp (by omega)
 rw[gridL,List.getElem?_map,List.getElem?_range hlt,Option.map_some,h1,h2,gcel,if_pos h]
theorem aUv (a b:List ByteArray):gridL a b a.length 0=List.replicate ((a.length+1)*(b.length+1)) (.int .i32 0):=by
 refine List.ext_getElem (by simp[gridL]) fun t h1 h2=>?_
 simp only[gridL,List.getElem_map,List.getElem_range,List.getElem_replicate]
 rw[aMw] at h1
 have:gcel a b a.length 0 (t / (b.length+1)) (t % (b.length+1))=0:=by
  unfold gcel
  split
  ·rename_i h
   have h3:t / (b.length+1)<a.length+1:=Nat.div_lt_of_lt_mul (by rw[Nat.mul_comm];exact h1)
   rw[show t / (b.length+1)=a.length by omega]
   exact aQm a b _
  rfl
 rw[this];rfl
theorem bDm (a b:List ByteArray)(i:Nat):gridL a b (i+1) 0=gridL a b i b.length:=by
 refine List.ext_getElem (by simp[gridL]) fun t h1 h2=>?_
 simp only[gridL,List.getElem_map,List.getElem_range]
 congr 2
 have hlt:t % (b.length+1)<b.length+1:=Nat.mod_lt _ (by omega)
 unfold gcel
 by_cases h:i<t / (b.length+1)
 ·rw[if_pos (by omega),if_pos (by omega)]
 rw[if_neg (by omega)]
 split
 ·rename_i h'
  rw[show t % (b.length+1)=b.length by omega,aUf]
 rfl
theorem bBh (a b:List ByteArray){i j:Nat}(hj:j<=b.length):(gridL a b i (j+1)).set (i*(b.length+1)+j) (.int .i32 (cel a b i j:Nat))=gridL a b i j:=by
 refine List.ext_getElem (by simp[gridL]) fun t h1 h2=>?_
 rw[List.getElem_set]
 split
 ·rename_i h
  subst h
  obtain ⟨h1,h2⟩:=aVy (W:=b.length+1) (i:=i) (j:=j) (by omega)
  simp only[gridL,List.getElem_map,List.getElem_range,h1,h2,gcel]
  rw[if_pos (Or.inr ⟨trivial,Nat.le_refl _⟩)]
 rename_i h
 simp only[gridL,List.getElem_map,List.getElem_range]
 congr 2
 have e:=Nat.div_add_mod t (b.length+1)
 unfold gcel
 by_cases c:i<t / (b.length+1)\/(i=t / (b.length+1)/\j+1<=t % (b.length+1))
 ·rw[if_pos c,if_pos (by omega)]
 rw[if_neg c,if_neg]
 rintro (g | ⟨g1,g2⟩)
 ·omega
 refine h ?_
 have:j=t % (b.length+1):=by omega
 rw[this,g1,Nat.mul_comm];exact e
structure Gr (w:World) (B g bx W N:Nat) (xs:List Value):Prop where
 c0:w.cell? ⟨bx,0,none⟩=some (.slice (some ⟨g,0,none⟩) N N)
 c1:w.cell? ⟨bx,1,none⟩=some (.int .i64 W)
 own:w.ownsRow B 21 1 (.slice (some ⟨g,0,none⟩) N N) N xs
 ne:bx≠g
 lo:B<=bx
 hi:bx<w.heap.size
theorem aAe {B:Nat}{e:TypeId}{k:Nat}{v:Value}{n:Nat}{xs:List Value} {w w':World}(h:w.ownsRow B e k v n xs)(hb:Below w.heap.size w w'):w'.ownsRow B e k v n xs:=
 h.kept (row:=none) ⟨hb.os,hb.tape,hb.output,hb.size,fun j hj _=>hb.block j hj⟩ (by cases hv:v.ownBlock<;>simp)
section
variable {w w':World} {B g bx W N:Nat} {xs:List Value}
theorem Gr.drew (h:Gr w B g bx W N xs):Gr w.drew B g bx W N xs:=⟨h.c0,h.c1,h.own.drew,h.ne,h.lo,h.hi⟩
theorem Gr.cell (h:Gr w B g bx W N xs){k:Nat}{u:Value}(hu:xs[k]? = some u):w.cell? ⟨g,k,none⟩=some u:=by
 rw[h.own.cellAt k (by rw[<-h.own.1];exact (List.getElem?_eq_some_iff.1 hu).1),hu]
theorem Gr.frz (h:Gr w B g bx W N xs)(k:Nat):w.frozen? ⟨g,k,none⟩=false:=h.own.frozenAt k
theorem Gr.store (h:Gr w B g bx W N xs)(k:Nat)(u:Value):Gr (w.setCell ⟨g,k,none⟩ u) B g bx W N (xs.set k u):=by
 have h2:=h.own.stored k u
 have hne:∀o:Nat,(⟨g,k,none⟩:Addr)≠⟨bx,o,none⟩:=fun o e=>h.ne (by injection e with e1 _ _;exact e1.symm)
 exact ⟨by rw[World.cell?_setCell_other _ _ _ _ (hne 0)];exact h.c0,by rw[World.cell?_setCell_other _ _ _ _ (hne 1)];exact h.c1,h2.1,h.ne,h.lo,by simpa using h.hi⟩
theorem Gr.ge (h:Gr w B g bx W N xs):B<=g/\g<w.heap.size:=h.own.lt g rfl
end
theorem aNg {bx g W N i j o:Nat}{I J:Int}{v:Value}{w:World}(hI:I=(i:Int))(hJ:J=(j:Int))(ho:i*W+j=o)(hN:N<=17592186044416)(hoN:o<N)
  (c0:w.cell? ⟨bx,0,none⟩=some (.slice (some ⟨g,0,none⟩) N N)) (c1:w.cell? ⟨bx,1,none⟩=some (.int .i64 W)) (cv:w.cell? ⟨g,o,none⟩=some v) :
  Calls Tryz.prog 190 #[.pointer (some ⟨bx,0,none⟩),.int .i64 I,.int .i64 J] w fun e w'=>e=.returned v/\w'=w.drew:=by
 subst hI;subst hJ
 have e1:(i:Int)*(W:Int)=((i*W:Nat):Int):=(Int.natCast_mul ..).symm
 generalize i*W=s at *
 subst ho
 go_enter Tryz.func190,Tryz.ntmps190
 go_wp2
 refine aAd (fun w'=>w'=w.drew) (qs 15) mixed (by kernel_rfl) rfl ?_
 intro Tp M Q hT hT' hM hQ
 have m0:M ⟨bx,0,none⟩=some (.slice (some ⟨g,0,none⟩) N N):=hM _ _ fun w' hw=>by subst hw;exact c0
 have m1:M ⟨bx,1,none⟩=some (.int .i64 W):=hM _ _ fun w' hw=>by subst hw;exact c1
 have m2:M ⟨g,s+j,none⟩=some v:=hM _ _ fun w' hw=>by subst hw;exact cv
 have e2:(s:Int)+(j:Int)=((s+j:Nat):Int):=by omega
 simp only[qcmp]
 simp (maxSteps:=9^7) only[↓qpre,aAb,aAf,aAc,m0,m1,e1,e2,m2]
 (repeat refine ⟨by first|omega|(unfold inI64;omega),?_⟩)
 refine hQ _ _ ?_
 clear hQ hT hT' hM m0 m1 m2
 go_wp2
 go_ret
 exact ⟨rfl,rfl⟩
end Go.Proofs.YtcemkikgaeghjaaGreatDoor
