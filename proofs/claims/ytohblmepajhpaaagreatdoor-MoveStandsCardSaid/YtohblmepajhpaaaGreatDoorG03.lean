/- Contracts of functions that the law reaches; plain laws. -/
import Derived.Shelf.Strings.Prefix
import Derived.Test.YtohblmepajhpaaaGreatDoorRows
import Derived.Maps.RangeWalk
import Derived.Laws.CopyRow
import Derived.Laws.Externs
import Derived.Lib.AppendZeros
import Derived.Lib.AppendZerosOnto
import Derived.Lib.Overlaps
import Derived.Lib.SliceRun
import Derived.OwnWalk
import Derived.Test.YtohblmepajhpaaaGreatDoorG00
import Derived.Test.YtohblmepajhpaaaGreatDoorG01
import Derived.Test.YtohblmepajhpaaaGreatDoorG02
set_option maxHeartbeats 8000000
set_option maxRecDepth 100000
open Go.Lib (hid)
namespace Go.Proofs.YtohblmepajhpaaaGreatDoor
open Go.Proofs.Tryz (prog)
open Go.RowKit
variable {w:World}{A:Option Addr}{g m:Nat}{base ours theirs:List ByteArray}{ms:List MV}
def FilesErr (r:List FV×Int)(w:World)(e:Ending) (w':World):Prop:=
 ∃(A:Option Addr) (c:Nat),e=.returned (.tuple #[.slice A r.1.length c,.int .i64 r.2])/\RdF w' w'.heap.size A r.1.length c r.1/\Below w.heap.size w w'
theorem aCs {l:List FV}(h:treeOk l=true):l.length<=100:=(aAx.1 h).1
theorem aIk(l:List FV)(p:ByteArray):(without l p).length<=l.length:=bD _ _
theorem aUx(l:List FV)(p:ByteArray):(findP l p).isSome=hasP l p:=by
 cases h:findP l p with
 | none=>rw[aKk.1 h];rfl
 | some f=>rw[(aEq.2 ⟨f,aFa h⟩)];rfl
def FilesErrN (r:List FV×Int)(w:World)(e:Ending) (w':World):Prop:=
 ∃(A:Option Addr) (c:Nat),e=.returned (.tuple #[.slice A r.1.length c,.int .i64 r.2])/\RdF w' w'.heap.size A r.1.length c r.1/\Below w.heap.size w w'/\NewAt A w.heap.size
theorem aCp {r:List FV×Int}{k:Int}{w':World}(h:r=([],k))(a:Below w.heap.size w w'):FilesErrN r w (.returned (.tuple #[.slice none 0 0,.int .i64 k])) w':=by
 subst h;exact ⟨none,0,rfl,RdF.none_ _ _,a,NewAt.none_ _⟩
theorem aLt {r:List FV×Int}{c n:Nat}{l:List FV}{w':World}(a:l.length=n)(h:r=(l,0))(b:RdF w' w'.heap.size A n c l)(d:Below w.heap.size w w')(e:NewAt A w.heap.size):FilesErrN r w (.returned (.tuple #[.slice A n c,.int .i64 0])) w':=by
 subst h;subst a;exact ⟨A,c,rfl,b,d,e⟩
theorem bKt {n c:Nat}{l:List FV}{f:FV}(hn:n<=17592186044416)(h:RdF w w.heap.size A n c l)(P:f.path.size<=140737488351232/\f.text.size<=140737488351232) :
  Calls prog 23 #[.slice A n c,.agg #[.string f.path,.bool f.exec,.string f.text]] w (FilesErrN (putF l f) w):=by
 have S:=hid h.len;obtain ⟨W,O⟩:∃u,u=w.alloc (.cells #[.string f.path,.bool f.exec,.string f.text] 48):=⟨_,rfl⟩;have K:Below w.heap.size w W:=by rw[O];exact (Below.refl _ _).alloc (aa _) _
 have nr:W.heap.size=w.heap.size+1:=by rw[O];simp
 have hx:∀i u,f.cells[i]? = some u->∀u',Below W.heap.size W u'->u'.cell? ⟨w.heap.size,i,none⟩=some u:=fun i u I u' nq=>
  (nq.cell (p:=⟨w.heap.size,i,none⟩) (by show w.heap.size<_;omega)).trans (by rw[O,World.cell?,au];simpa[FV.cells] using I)
 have t:=hid hx;clear hx;have r:∀u,Below W.heap.size W u->Below w.heap.size w u:=fun u I=>K.trans (I.mono K.size);have a:∀{u v:World},Below W.heap.size W u->Below u.heap.size u v->Below W.heap.size W v:=fun h1 h2=>h1.trans (h2.mono h1.size);have T:∀u,Below W.heap.size W u->RdF u u.heap.size A n c l:=fun u I=>h.to (r u I) (r u I).size;go_enter Tryz.func23,Tryz.ntmps23;go_wp2_with fail;rw[<-O];clear O;refine (aDx hn (T W (Below.refl _ _))).mono ?_;rintro e w1 ⟨rfl,z⟩
 cases Q:treeOk l with
 | false=>
  have q:=hid (show putF l f=([],5) by simp[putF,Q]);clear Q;go_wp2;go_ret2;exact aCp q.out (r _ z)
 | true=>
 have L:=aCs Q;rw[S.out] at L;have H:=hid Q;clear Q;have x:=t.out 0 _ rfl w1 z;go_wp2_with fail;refine (aWd (s:=f.path)).mono ?_;rintro e w2 ⟨rfl,j⟩;have k:=a z j;clear z j x;have M:pathOk f.path.data.toList=pathOk f.p:=rfl;rw[M];clear M
 cases V:pathOk f.p with
 | false=>
  have q:=hid (show putF l f=([],11) by simp[putF,H.out,V]);clear V;go_wp2;go_ret2;exact aCp q.out (r _ k)
 | true=>
 have N:=hid V;clear V;have x2:=t.out 2 _ rfl w2 k;by_cases R:20000<f.text.size
 ·have q:=hid (show putF l f=([],6) by simp[putF,H.out,N.out,R])
  go_wp2;go_ret2;exact aCp q.out (r _ k)
 have x:=t.out 0 _ rfl w2 k;go_wp2_with fail;refine (aEg hn (T _ k)).mono ?_;rintro e w3 ⟨rfl,j⟩;have E:=a k j;clear k j x x2;obtain ⟨w4,B⟩:∃u,u=w3.alloc (.cells #[.string (optF (findP l f.path)).path,.bool (optF (findP l f.path)).exec,.string (optF (findP l f.path)).text] 48):=⟨_,rfl⟩;have y:Below W.heap.size W w4:=by rw[B];exact E.alloc E.size _
 have x:(w3.alloc (.cells #[.string (optF (findP l f.path)).path,.bool (optF (findP l f.path)).exec,.string (optF (findP l f.path)).text] 48)).cell? ⟨w.heap.size,0,none⟩=some (.string f.path):=by rw[<-B];exact t.out 0 _ rfl w4 y
 rw[aUx];go_wp2_with fail;rw[<-B];clear x B E;refine (aYh (p:=f.path) ω (T _ y)).mono ?_;rintro e w5 ⟨A5,c5,l5,rfl,rfl,G,j⟩;have g:=a y j;clear y j;have X:=aIk l f.path;rw[S.out] at X;have x:=t.out 0 _ rfl w5 g
 cases C:hasP l f.path with
 | true=>
  have q:=hid (show putF l f=(sortedIn (without l f.path) f,0) by simp[putF,H.out,N.out,R,C]);clear C;have x1:=t.out 1 _ rfl w5 g;have x2:=t.out 2 _ rfl w5 g;generalize hm:(without l f.path).length=m at *;go_wp2_with fail;refine (aGv (f:=f) ω G P).mono ?_;rintro e U ⟨A6,c6,l6,rfl,rfl,F,j,nj⟩;have Y:=hid g;have d:=a g j;clear x x1 x2;go_wp2;go_ret2;exact aLt rfl q.out F (r _ d) (fun b o s hA=>aw (r _ Y.out).size (nj b o s hA))
 | false=>
  have HW:=hid (aLw C);go_wp2_with fail;refine (aLk (p:=f.path) hn (by unfold maxLen;omega) (T _ g)).mono ?_;rintro e U ⟨rfl,j⟩;have d:=a g j;have F:=G.to j j.size;clear g G j x
  cases J:clashF l f.path with
  | true=>
   have q:=hid (show putF l f=([],11) by simp[putF,H.out,N.out,R,C,J]);clear C J;go_wp2;go_ret2;exact aCp q.out (r _ d)
  | false=>
   by_cases D:100<=n
   ·have q:=hid (show putF l f=([],6) by simp[putF,H.out,N.out,R,C,J,S.out,D])
    clear C J;go_wp2;go_ret2;exact aCp q.out (r _ d)
   have q:=hid (show putF l f=(sortedIn (without l f.path) f,0) by simp[putF,H.out,N.out,R,C,J,S.out,D,HW.out]);clear C J;have x:=t.out 0 _ rfl U d;have x1:=t.out 1 _ rfl U d;have x2:=t.out 2 _ rfl U d;generalize hm:(without l f.path).length=m at *;go_wp2_with fail;refine (aGv (f:=f) ω F P).mono ?_;rintro e w7 ⟨A7,c7,l7,rfl,rfl,nk,j,nm⟩;have Z:=hid d;have ff:=a d j;clear x x1 x2;go_wp2;go_ret2;exact aLt rfl q.out nk (r _ ff) (fun b o s hA=>aw (r _ Z.out).size (nm b o s hA))
open Go.Shelf
def Tryz.lays99_ren:Go.Shelf.Ren:=⟨fun | 99=>258 | 206=>284 | n=>n,fun | 9=>9 | 4=>4 | 3=>3 | n=>n,fun | n=>n⟩
theorem Tryz.lays99:Go.Proofs.Lays.n99 prog Tryz.lays99_ren:={
 mixed:=T
 f99:=Tryz.func258.trans (congrArg some T)
 f206:=Tryz.func284.trans (congrArg some T)
 t3:=bw
 a3:=ee
 z3:=dN
 v3:=bS
 t4:=cg
 a4:=ef
 z4:=dP
 v4:=ci
 t9:=bG
 a9:=eL
 z9:=d9
 v9:=cO }
open Go.RowKit Go.Lib in
theorem Tryz.strings_HasPrefix(s p:ByteArray)(w:World) :
  Calls prog 258 #[.string s,.string p] w fun e w'=>e=.returned (.bool (Lib.hasPrefix s.data.toList p.data.toList))/\w'=w:=Any.strings_HasPrefix Tryz.lays99 s p w
def Tryz.lays100_ren:Go.Shelf.Ren:=⟨fun | 100=>224 | 207=>267 | n=>n,fun | 9=>9 | 4=>4 | 3=>3 | n=>n,fun | n=>n⟩
theorem Tryz.lays100:Go.Proofs.Lays.n100 prog Tryz.lays100_ren:={
 mixed:=T
 f100:=Tryz.func224.trans (congrArg some T)
 f207:=Tryz.func267.trans (congrArg some T)
 t3:=bw
 a3:=ee
 z3:=dN
 v3:=bS
 t4:=cg
 a4:=ef
 z4:=dP
 v4:=ci
 t9:=bG
 a9:=eL
 z9:=d9
 v9:=cO }
open Go.RowKit Go.Lib in
theorem Tryz.strings_HasSuffix(s p:ByteArray)(w:World)(a:s.size<=9223372036854775807) :
  Calls prog 224 #[.string s,.string p] w fun e w'=>e=.returned (.bool (Lib.hasSuffix s.data.toList p.data.toList))/\w'=w:=Any.strings_HasSuffix Tryz.lays100 s p w a
theorem aOx {p d:ByteArray}(f:d.size<=140737488351232) :
  Calls prog 214 #[.string p,.string d] w fun e w'=>e=.returned (.bool (within p.data.toList d.data.toList))/\w'=w:=by
 have C:=Tryz.strings_HasPrefix p (d++⟨#[47]⟩) w
 have a:=hid (show Lib.hasPrefix p.data.toList (d++⟨#[47]⟩:ByteArray).data.toList=within p.data.toList d.data.toList by
  simp[Lib.hasPrefix,within])
 have b:((d.size:Int)+1)<=9223372036854775807:=O;go_enter Tryz.func214,Tryz.ntmps214;go_wp2_with fail;refine C.mono ?_;rintro e c ⟨rfl,rfl⟩;go_wp2;go_ret;exact ⟨aAi a.out,rfl⟩
theorem bBi {p d:ByteArray}(l:p.size<=140737488351232)(m:d.size<=140737488351232) :
  Calls prog 179 #[.string p,.string d] w fun e w'=>e=.returned (.bool (clashP p.data.toList d.data.toList))/\w'=w:=by
 by_cases h:p=d
 ·have j:(p.toList == d.toList)=true:=by rw[h];exact aW _
  have b:=hid (show clashP p.data.toList d.data.toList=true by simp[clashP,h]);clear h;go_enter lO,kT;go_wp2;go_ret;exact ⟨aAi b.out.symm,rfl⟩
 have j:=aBi h;have g:decide (p.data.toList=d.data.toList)=false:=ak fun e=>h (aCi e);have c:=aOx (p:=p) (d:=d) (w:=w) m;have k:=aOx (p:=d) (d:=p) (w:=w) l;have b:=hid (show clashP p.data.toList d.data.toList=(within p.data.toList d.data.toList || within d.data.toList p.data.toList) by rw[clashP,g,fW]);clear h g
 cases a:within p.data.toList d.data.toList with
 | true=>
  rw[a] at c;have f:=hid a;clear a;go_enter lO,kT;go_wp2_with fail;refine c.mono ?_;rintro e i ⟨rfl,rfl⟩;go_wp2;go_ret;exact ⟨aAi (by rw[b.out,f.out];rfl),rfl⟩
 | false=>
  rw[a] at c;have f:=hid a;clear a;go_enter lO,kT;go_wp2_with fail;refine c.mono ?_;rintro e i ⟨rfl,rfl⟩;go_wp2_with fail;refine k.mono ?_;rintro e i ⟨rfl,rfl⟩;go_wp2;go_ret;exact ⟨aAi (by rw[b.out,f.out];rfl),rfl⟩
def Passed (S:Bs->Bool)(p:ByteArray)(left:Lit->Bool):Prop:=∀q:ByteArray,q.size<=maxLen->S q.data.toList=true->left (klP q)=false->(!decide (q=p) && clashP q.data.toList p.data.toList)=false
def CloneIs (e:TypeId)(sz n:Nat)(xs:List Value)(w:World)(en:Ending) (w':World):Prop:=∃v,en=.returned v/\w'.ownsRow w.heap.size e sz v n xs/\Below w.heap.size w w'
theorem aPy {n c:Nat}{l:List FV}(B:n<=1000000)(h:RdF w w.heap.size A n c l) :
  Calls prog 112 #[.slice A n c] w (CloneIs 48 3 n (l.flatMap FV.cells) w):=by
 have s:∀(w:World) (a:Option Addr) (n c q r:Nat),(binOp .eql 29 (.slice a n c) (.slice none q r)).run prog w=.ok (.bool a.isNone) w:=fun w a n c q r=>iD w _ _ a n c q r iy;have j:=h.row
 cases A with
 | none=>
  have k:n=0:=by
   rcases cV n with p | p
   ·exact p
   obtain ⟨b,o,e,_⟩:=j.at_ p;cases e
  subst k;have t:l.flatMap FV.cells=[]:=bC (j.len.trans (ed 3));have u:=hid t;go_enter Tryz.func112,Tryz.ntmps112;go_wp2;go_ret;exact ⟨_,rfl,by rw[u.out];exact aA _ _ _ _,Below.refl _ _⟩
 | some a=>
  have f:(w.alloc (.cells #[] 48)).ownsRow w.heap.size 48 3 (.slice (some ⟨w.heap.size,0,none⟩) 0 0) 0 []:=ik w #[] 0 (aa _) (al _) (by simp);have d:Below w.heap.size w (w.alloc (.cells #[] 48)):=(Below.refl _ _).alloc (aa _) _;go_enter Tryz.func112,Tryz.ntmps112;go_wp2_with (at_builtin;refine aAl rfl (.tmp 5) (.tmp 6) 29 rfl aDg rfl rfl f (j.below d) (aBu _) (by unfold maxLen;omega) O d.size ?_;intro y z i m v);rw[aO,aT] at i;go_ret;exact ⟨_,rfl,i,d.grown m d.size (fun g x=>(f.lt g x).1)⟩
theorem aXc(w:World)(n c:Nat)(e:TypeId)(_h:c<n)(a:n<=maxLen):n<=grownCap w n c e/\grownCap w n c e<=maxLen:=⟨grownCap_ge w _ _ _,grownCap_le_maxLen w n c e O⟩
theorem aDm {c:World}{row:Option Nat}{cs:Array Value}(h:w.grownBy c row)(b:w.heap.size<=g\/row=some g):w.grownBy (c.setRow g cs) row:=
 ⟨h.os,h.tape,h.output,by have:=h.size;simpa[World.setRow] using this,fun k d a=>by
  rw[dA _ _ _ _ (fun e=>by
   rcases b with b | b
   ·omega
   exact a (by rw[b,e]))]
  exact h.block k d a⟩
theorem bEz {n c sz:Nat}{b cs:Array Value}{e:TypeId}{xs:List Value}(f:w.heap[g]? = some (.cells b e (0,0)))(i:n<=c)(k:xs.length=n*sz)(d:∀(j:Nat)(u:Value),xs[j]? = some u->cs[j]? = some u) :
  Rd (w.setRow g cs) (w.setRow g cs).heap.size sz (some ⟨g,0,none⟩) n c xs:=by
 have a:g<w.heap.size:=(aU.1 f).1;refine ⟨k,i,fun _=>⟨g,0,rfl,by simpa[World.setRow] using a,fun j u h=>?_⟩⟩;rw[aO,bd _ _ _ _ _ _ (bB _ _ _ _ _ _ f)];exact d j u h
theorem aBj {l r:List Value}{n:Nat}(h:l.take n=r){j:Nat}{u:Value}(a:r[j]? = some u):l[j]? = some u:=by
 rw[<-h,fH] at a;split at a
 ·exact a
 cases a
theorem aJr {P:Program}{a:Act}{ops:Array Oper}{rest:List Oper}{o:Oper}{Q:Exit->Act->World->Prop}(l:o.guard=none)(t:TypeId)(x y:Operand)
  (n:o.op=.store t x y) {g d:Nat} {e:TypeId} {b cs:Array Value} (p:(P.info? t).map (·.size)=some cs.size) (q:a.eval x=.pointer (some ⟨g,d,none⟩)) (r:a.eval y=.agg cs)
  (s:w.heap[g]? = some (.cells b e (0,0))) (c:d+cs.size<=b.size) (v:∀u∈cs.toList,u.oneCell'=true)
  (z:wpList P ops Q rest (a.put o.dst undef) (w.setRow g (b.toList.take d++cs.toList++b.toList.drop (d+cs.size)).toArray)):wpList P ops Q (o::rest) a w:=by
 refine wpList_plain l fun K k=>?_;have m:=jC P g d e cs.toList 0 b w s (by simpa using c) v;obtain ⟨i,h,j⟩:=be.1 p;unfold Oper.wp execOp
 have f:(storeVar t ⟨g,d,none⟩ (.agg cs)).run P w=.ok () (w.setRow g (b.toList.take d++cs.toList++b.toList.drop (d+cs.size)).toArray):=by
  simp only[dv,bg] at m;simp[storeVar,sizeOf,typeInfo,h,j,Value.cells,m]
 simp only[n,q,r,Instr.storeAt,Instr.sureAddr,bT,cE,bI,f];exact k _ _ z
def OwnIs (e:TypeId)(sz n:Nat)(xs x:List Value)(w:World)(en:Ending) (w':World):Prop:=
 ∃g,en=.returned (.slice (some ⟨g,0,none⟩) n (n+3))/\w'.ownsRow w.heap.size e sz (.slice (some ⟨g,0,none⟩) (n+3) (n+3)) (n+3) (xs++(x++(x++x)))/\Below w.heap.size w w'
theorem aDz:treeOk []=true:=aAx.2 ⟨by simp,fun _ h=>by simp at h,fun i a b h=>by simp at h,fun _ h=>by simp at h⟩
theorem aIe(p:Bs):within p p=false:=by
 cases h:within p p with
 | false=>rfl
 | true=>exact absurd (aVs h) (cG _)
theorem aCr(l:List FV)(f:FV):(sortedIn l f).length=l.length+1:=by
 have:=congrArg List.length (dm (p:=lessF f) (l:=l));rw[ae] at this;rw[sortedIn,ae,aD];omega
theorem bJt(l:List FV)(f:FV):(putF l f).1.length<=l.length+1:=by
 unfold putF;have:=aCr l f;have:=aCr (without l f.path) f;have:=aIk l f.path
 repeat' split
 all_goals simp only[dU]<;>omega
def file71:FV:=⟨⟨#[55,49]⟩,false,⟨#[]⟩⟩
theorem bAc(x y:FV)(w:World):(binOp .neq 48 (.agg #[.string x.path,.bool x.exec,.string x.text]) (.agg #[.string y.path,.bool y.exec,.string y.text])).run prog w=.ok (.bool (!decide (x=y))) w:=by
 rw[run_neq_struct,bHd];rfl
theorem aEd {l:List FV}{p:ByteArray}{g:FV}:g∈without l p↔g∈l/\g.path≠p:=by simp[without,aX]
theorem aTz {l:List FV}(h:Rise l)(p:ByteArray):Rise (without l p):=aEo (h.pair.sublist kH)
theorem aCt {l:List FV}{f g:FV}:g∈sortedIn l f↔g=f\/g∈l:=by
 rw[sortedIn,aQ,ax]
 conv=>rhs;rw[<-dm (p:=lessF f) (l:=l),aQ]
 constructor
 ·rintro (h | h | h)
  ·exact .inr (.inl h)
  ·exact .inl h
  exact .inr (.inr h)
 rintro (h | h | h)
 ·exact .inr (.inl h)
 ·exact .inl h
 exact .inr (.inr h)
theorem bAk {l:List FV}{p:ByteArray}(h:hasP l p=false){g:FV}(a:g∈l):g.path≠p:=fun e=>by
 have:=aEq.2 ⟨g,a,e⟩;rw[h] at this;cases this
theorem bGy {l:List FV}(n:Rise l){f:FV}(o:hasP l f.path=false):∃a b:List FV,l=a++b/\sortedIn l f=a++f::b/\(∀x∈a,x.p<f.p)/\∀x∈b,f.p<x.p:=by
 refine ⟨l.takeWhile (lessF f),l.dropWhile (lessF f),(dm).symm,rfl,fun x j=>?_,fun x j=>?_⟩
 ·have:∀{l:List FV} {x:FV},x∈l.takeWhile (lessF f)->lessF f x=true:=by
   intro l
   induction l with
   | nil=>intro x h;cases h
   | cons y l ih=>
    intro x h;rw[iX] at h;split at h
    ·rename_i g
     rcases ax.1 h with rfl | h
     ·exact g
     exact ih h
    cases h
  exact aP (this j)
 have:∀{l:List FV},(l.Pairwise fun a b=>a.p<b.p)->(∀y∈l,y.path≠f.path)->∀x∈l.dropWhile (lessF f),f.p<x.p:=by
  intro l
  induction l with
  | nil=>intro _ _ x h;cases h
  | cons y l ih=>
   intro k i x h;have c:=cC.1 k;rw[iY] at h;split at h
   ·exact ih c.2 (fun z m=>i z (am _ m)) x h
   rename_i g
   have d:f.p<y.p:=by
    rcases bLj y.p f.p with e | e | e
    ·exact absurd (aq e) g
    ·exact absurd (FV.p_inj.1 e) (i y (by simp))
    exact e
   rcases ax.1 h with rfl | h
   ·exact d
   exact aFp d (c.1 x h)
 exact this n.pair (fun y g=>bAk o g) x j
theorem aFg {l:List FV}(i:Rise l){f:FV}(k:hasP l f.path=false):Rise (sortedIn l f):=by
 obtain ⟨a,b,e,j,ha,g⟩:=bGy i k;have c:=i.pair;rw[e,cT] at c;rw[j];refine aEo (cT.2 ⟨c.1,cC.2 ⟨g,c.2.1⟩,fun x h y d=>?_⟩);rcases ax.1 d with rfl | d
 ·exact ha x h
 exact aFp (ha x h) (g y d)
theorem aVt(l:List FV)(p:ByteArray):hasP (without l p) p=false:=by
 cases h:hasP (without l p) p with
 | false=>rfl
 | true=>
  obtain ⟨g,a,e⟩:=aEq.1 h;exact absurd e (aEd.1 a).2
theorem aUc:∀{a b:List FV},(a.Pairwise fun x y=>x.p<y.p)->(b.Pairwise fun x y=>x.p<y.p)->(∀x,x∈a↔x∈b)->a=b
 | [],[],_,_,_=>rfl
 | [],y::b,_,_,h=>absurd ((h y).2 (by simp)) (by simp)
 | x::a,[],_,_,h=>absurd ((h x).1 (by simp)) (by simp)
 | x::a,y::b,ha,hb,h=>by
  have c:=cC.1 ha;have d:=cC.1 hb
  have i:x=y:=by
   rcases ax.1 ((h x).1 (by simp)) with e | g
   ·exact e
   rcases ax.1 ((h y).2 (by simp)) with e | j
   ·exact e.symm
   exact absurd (aFp (c.1 y j) (d.1 x g)) (aIh _)
  subst i;refine congrArg _ (aUc c.2 d.2 fun z=>?_);constructor
  ·intro f
   rcases ax.1 ((h z).1 (by simp[f])) with e | g
   ·subst e;exact absurd (c.1 _ f) (aIh _)
   exact g
  intro f;rcases ax.1 ((h z).2 (by simp[f])) with e | g
  ·subst e;exact absurd (d.1 _ f) (aIh _)
  exact g
structure PutOk (l:List FV) (f:FV):Prop where
 tree:treeOk l=true
 path:pathOk f.p=true
 text:f.text.size<=20000
 clash:clashF l f.path=false
 room:hasP l f.path=true\/l.length<100
theorem bHq {l:List FV}(h:treeOk l=true){p:ByteArray}(m:hasP l p=true):clashF l p=false:=by
 obtain ⟨g,c,e⟩:=aEq.1 m;obtain ⟨_,_,n,d⟩:=aAx.1 h
 cases i:clashF l p with
 | false=>rfl
 | true=>
  simp only[clashF,bZ,ay] at i;obtain ⟨x,f,k,b⟩:=i;have a:¬x.path=p:=by simpa using k
  have j:p.data.toList=g.p:=by rw[<-e];rfl
  rw[j] at b;simp only[clashP,d x f g c,d g c x f,fX,bh] at b;exact absurd ((FV.p_inj.1 b).trans e) a
theorem bMo {l:List FV}{f:FV}(h:PutOk l f):putF l f=(sortedIn (without l f.path) f,0):=by
 have a:¬treeOk l=false:=by rw[h.tree];decide
 have b:¬pathOk f.p=false:=by rw[h.path];decide
 have c:¬20000<f.text.size:=nh.2 h.text;rw[putF,ah a,ah b,ah c];by_cases e:hasP l f.path=true
 ·rw[ao e]
 have d:hasP l f.path=false:=by simpa using e
 have g:¬100<=l.length:=by rcases h.room with h | h;exact absurd h e;omega
 have i:¬clashF l f.path=true:=by rw[h.clash];decide
 rw[ah e,ah i,ah g,aLw d]
theorem bMi {l:List FV}{f:FV}(h:¬PutOk l f):(putF l f).2≠0/\(putF l f).1=[]:=by
 unfold putF;split
 ·exact ⟨by decide,rfl⟩
 split
 ·exact ⟨by decide,rfl⟩
 split
 ·exact ⟨by decide,rfl⟩
 rename_i a b c;have i:treeOk l=true:=by simpa using a
 have j:pathOk f.p=true:=by simpa using b
 have k:f.text.size<=20000:=O;split
 ·rename_i d
  exact absurd ⟨i,j,k,bHq i d,.inl d⟩ h
 split
 ·exact ⟨by decide,rfl⟩
 split
 ·exact ⟨by decide,rfl⟩
 rename_i d e g;exact absurd ⟨i,j,k,by simpa using e,.inr O⟩ h
theorem PutOk.tree_put {l:List FV}{f:FV}(h:PutOk l f):treeOk (sortedIn (without l f.path) f)=true:=by
 obtain ⟨t,n,o,q⟩:=aAx.1 h.tree
 have i:∀g∈without l f.path,clashP g.p f.p=false:=fun g c=>by
  obtain ⟨r,s⟩:=aEd.1 c;have k:=lP.1 h.clash g r;have m:clashP g.p f.path.data.toList=false:=by simpa[s] using k
  exact m
 refine aAx.2 ⟨?_,fun g c=>?_,aFg (aTz o _) (aVt l f.path),fun a ha b d=>?_⟩
 ·rw[aCr]
  rcases h.room with j | j
  ·obtain ⟨g,c,e⟩:=aEq.1 j
   have:(without l f.path).length<l.length:=gE.2 ⟨g,c,by simp[e]⟩;omega
  have:=aIk l f.path;omega
 ·rcases aCt.1 c with rfl | c
  ·exact ⟨h.path,h.text⟩
  exact n g (aEd.1 c).1
 rcases aCt.1 ha with rfl | ha
 ·rcases aCt.1 d with rfl | d
  ·exact aIe _
  have:=i b d;simp only[clashP,dn] at this;exact this.2
 rcases aCt.1 d with rfl | d
 ·have:=i a ha
  simp only[clashP,dn] at this;exact this.1.2
 exact q a (aEd.1 ha).1 b (aEd.1 d).1
noncomputable def playStep (out:List FV) (f:FV):List FV:=if 2000<f.text.size then out else if (putF out f).2=0 then (putF out f).1 else out
noncomputable def playF (l:List FV):List FV:=(l.take 30).foldl playStep []
theorem aYt {a:List FV}(h:treeOk a=true)(f:FV):treeOk (playStep a f)=true/\(playStep a f).length<=a.length+1:=by
 unfold playStep;split
 ·exact ⟨h,O⟩
 split
 ·rename_i c
  by_cases b:PutOk a f
  ·refine ⟨?_,bJt a f⟩
   rw[bMo b];exact b.tree_put
  exact absurd c (bMi b).1
 exact ⟨h,O⟩
theorem aFo:∀(l:List FV) {a:List FV},treeOk a=true->treeOk (l.foldl playStep a)=true/\(l.foldl playStep a).length<=a.length+l.length
 | [],_,h=>⟨h,by simp⟩
 | f::l,a,h=>by
  obtain ⟨b,d⟩:=aYt h f;obtain ⟨c,e⟩:=aFo l b;refine ⟨c,?_⟩;rw[bR,aD];omega
theorem bJm(l:List FV):treeOk (playF l)=true:=(aFo _ aDz).1
theorem aTr(l:List FV):(playF l).length<=30:=by
 have a:=(aFo (l.take 30) aDz).2;have b:=kI 30 l;simp only[dU] at a;unfold playF;omega
def kindF (b o t:List ByteArray):Int:=if o=b then 3 else if t=b then 2 else if o=t then 4 else 5
def betweenF (b o t:List ByteArray):List KV:=if b.length+o.length+t.length=0 then [] else [⟨kindF b o t,b,o,t⟩]
def runF:List (Option Nat×Option Nat)->Nat->Nat->Nat
 | (some x,some y)::zs,p,q=>if x=p/\y=q then runF zs (p+1) (q+1)+1 else 0
 | _,_,_=>0
def goF (base ours theirs:List ByteArray)(zs:List (Option Nat×Option Nat)):Nat->Nat->Nat->Nat->Nat->List KV
 | 0,_,b,o,t=>betweenF (base.drop b) (ours.drop o) (theirs.drop t)
 | fuel+1,i,b,o,t=>
  match zs[i]? with
  | none=>betweenF (base.drop b) (ours.drop o) (theirs.drop t)
  | some (some x,some y)=>
   let n:=runF (zs.drop (i+1)) (x+1) (y+1)+1
   betweenF (sliceF base b i) (sliceF ours o x) (sliceF theirs t y)++⟨1,sliceF base i (i+n),sliceF base i (i+n),sliceF base i (i+n)⟩::goF base ours theirs zs fuel (i+n) (i+n) (x+n) (y+n)
  | some _=>goF base ours theirs zs fuel (i+1) b o t
def chunksF (base ours theirs:List ByteArray):List KV:=goF base ours theirs ((placeF base ours).zip (placeF base theirs)) base.length 0 0 0 0
def cleanF (l:List KV):Bool:=l.all fun c=>decide (c.kind≠5)
def mergedF (l:List KV):List ByteArray:=l.flatMap fun c=>if c.kind=3 then c.theirs else c.ours
def endedF (s:Bs):Bs:=if s=[]\/s.getLast? = some 10 then s else s++[10]
def markO:Bs:=[60,60,60,60,60,60,60,32,111,117,114,115,10]
def markB:Bs:=[124,124,124,124,124,124,124,32,98,97,115,101,10]
def markT:Bs:=[61,61,61,61,61,61,61,10]
def markE:Bs:=[62,62,62,62,62,62,62,32,116,104,101,105,114,115,10]
def catF (l:List ByteArray):Bs:=l.flatMap fun x=>x.data.toList
def clashTextF (out:Bs)(c:KV):Bs:=if c.kind≠5 then out++catF (mergedF [c]) else
 endedF (endedF (endedF (endedF out++markO++catF c.ours)++markB++catF c.base)++markT++catF c.theirs)++markE
def merge3F (b o t:ByteArray):ByteArray×Bool:=
 let l:=chunksF (linesF b) (linesF o) (linesF t)
 if cleanF l=true then (joinF (mergedF l),true) else (ofB (l.foldl clashTextF []),false)
def ratioF (a b:ByteArray):Int:=
 let x:=linesF a;let y:=linesF b
 if 400<x.length\/400<y.length then 0 else if x.length+y.length=0 then 100 else ((200*lcs x y / (x.length+y.length):Nat):Int)
def loneF (l other:List FV):List Nat:=(List.range l.length).filter fun i=>match l[i]? with
 | some f=>(findP other f.path).isNone && !decide (f.text=⟨#[]⟩)
 | none=>false
def textAt (l:List FV)(i:Nat):ByteArray:=((l[i]?).map FV.text).getD ⟨#[]⟩
def sameF (base side:List FV):List Nat->List Nat->List (Nat×Nat)×List Nat×List Nat
 | [],js=>([],[],js)
 | i::is,js=>
  match js.find? fun j=>decide (textAt side j=textAt base i) with
  | some j=>let r:=sameF base side is (js.filter fun k=>decide (k≠j));((i,j)::r.1,r.2.1,r.2.2)
  | none=>let r:=sameF base side is js;(r.1,i::r.2.1,r.2.2)
def bestF (base side:List FV)(is js:List Nat):Option (Nat×Nat):=
 ((is.flatMap fun i=>js.map fun j=>(i,j)).foldl (fun (b:Option (Nat×Nat)×Int) p=>let r:=ratioF (textAt base p.1) (textAt side p.2);if b.2<r then (some p,r) else b) (none,49)).1
def alikeF (base side:List FV):Nat->List Nat->List Nat->List (Nat×Nat)
 | 0,_,_=>[]
 | n+1,is,js=>
  match bestF base side is js with
  | none=>[]
  | some p=>p::alikeF base side n (is.filter fun k=>decide (k≠p.1)) (js.filter fun k=>decide (k≠p.2))
def pairsF (base side:List FV):List (Nat×Nat):=
 let s:=sameF base side (loneF base side) (loneF side base)
 s.1++alikeF base side s.2.1.length s.2.1 s.2.2
def movedF (base side:List FV)(p:ByteArray):Option ByteArray:=
 ((pairsF base side).find? fun q=>decide (((base[q.1]?).map FV.path)=some p)).bind fun q=>(side[q.2]?).map FV.path
structure CL where
 path:ByteArray
 kind:Int
 text:ByteArray
deriving DecidableEq
def whereF (base side:List FV)(f:FV):Option FV:=
 match findP side f.path with
 | some x=>some x
 | none=>(movedF base side f.path).bind fun d=>findP side d
def addedF (base side:List FV):List FV:=side.filter fun f=>(findP base f.path).isNone && !((pairsF base side).any fun q=>decide (((side[q.2]?).map FV.path)=some f.path))
def putM (m:List FV×List CL)(f:FV)(kind:Int):List FV×List CL:=
 if (m.1.any fun x=>clashP x.p f.p)=true then (m.1,m.2++[⟨f.path,5,f.text⟩])
 else (m.1++[f],if kind=0 then m.2 else m.2++[⟨f.path,kind,f.text⟩])
def bothM (m:List FV×List CL)(f o t:FV):List FV×List CL:=
 let path:=if o.path=f.path then t.path else o.path
 let kind:Int:=if o.path=f.path then 0 else if t.path≠f.path/\t.path≠o.path then 4 else 0
 let exec:=if o.exec=f.exec then t.exec else o.exec
 let r:=merge3F f.text o.text t.text
 putM m ⟨path,exec,r.1⟩ (if r.2=false/\kind=0 then 1 else kind)
def keptM (base a b:List FV)(m:List FV×List CL)(f:FV):List FV×List CL:=
 match whereF base a f,whereF base b f with
 | some x,some y=>bothM m f x y
 | some x,none=>if x=f then m else putM m x 3
 | none,some y=>if y=f then m else putM m y 3
 | none,none=>m
def addOne (theirs:List FV)(m:List FV×List CL)(x:FV):List FV×List CL:=
 match findP theirs x.path with
 | none=>putM m x 0
 | some y=>if x=y then putM m x 0 else putM m ⟨x.path,x.exec,(merge3F ⟨#[]⟩ x.text y.text).1⟩ 2
def addM (ours theirs:List FV)(m:List FV×List CL):List FV×List CL:=
 (theirs.filter fun y=>(findP ours y.path).isNone).foldl (fun m y=>putM m y 0) (ours.foldl (addOne theirs) m)
def wholeF (base a b:List FV):List FV×List CL:=addM (addedF base a) (addedF base b) (base.foldl (keptM base a b) ([],[]))
def sortC (l:List CL):List CL:=l.foldl (fun out c=>out.takeWhile (fun x=>decide (x.path.data.toList<=c.path.data.toList))++c::out.dropWhile (fun x=>decide (x.path.data.toList<=c.path.data.toList))) []
def sortF (l:List FV):List FV:=l.foldl (fun out f=>sortedIn out f) []
noncomputable def treemergeF (base a b:List FV):List FV×List CL×Int:=
 if treeOk base=false\/treeOk a=false\/treeOk b=false then ([],[],5) else
 if treeOk (sortF (wholeF base a b).1)=false then ([],[],6) else (sortF (wholeF base a b).1,sortC (wholeF base a b).2,0)
theorem aUi(e:DV)(es:List DV):olds (e::es)=(if e.kind=3 then [] else [e.line])++olds es:=rfl
theorem aIv(e:DV)(es:List DV):news (e::es)=(if e.kind=2 then [] else [e.line])++news es:=rfl
theorem aOt:∀(es:List DV) (j:Nat),kinds es->(placesF es j).length=(olds es).length
 | [],_,_=>rfl
 | e::es,j,h=>by
  have b:=h e (by simp);have ih:=fun j=>aOt es j (fun x c=>h x (am _ c));rw[placesF,aUi,ae];rcases b with a | a | a
  ·rw[ao a,ah O,aD,ih];simp;omega
  ·rw[ah O,ao a,ah O,aD,ih];simp;omega
  rw[ah O,ah O,ao a,ih];simp
theorem aGz:∀(es:List DV) (j:Nat),kinds es->∀(i x:Nat),(placesF es j)[i]? = some (some x)->j<=x/\x-j<(news es).length/\(news es)[x-j]? = (olds es)[i]?
 | [],_,_,i,x,h=>by simp[placesF] at h
 | e::es,j,hk,i,x,h=>by
  have l:=hk e (by simp);have ih:=fun j i x=>aGz es j (fun x m=>hk x (am _ m)) i x;rw[placesF] at h;rw[aIv,aUi];rcases l with g | g | g
  ·rw[ao g] at h
   rw[ah (show ¬e.kind=2 by omega),ah (show ¬e.kind=3 by omega)]
   cases i with
   | zero=>
    simp at h;subst h;simp
   | succ i=>
    rw[bE] at h;obtain ⟨a,b,c⟩:=ih (j+1) i x h;obtain ⟨d,k⟩:∃d,x-j=d+1:=⟨x-j-1,O⟩;rw[k];have f:x-(j+1)=d:=O;rw[f] at b c;refine ⟨O,by simp;omega,?_⟩;simpa using c
  ·rw[ah (show ¬e.kind=1 by omega),ao g] at h
   rw[ao g,ah (show ¬e.kind=3 by omega)]
   cases i with
   | zero=>simp at h
   | succ i=>
    rw[bE] at h;obtain ⟨a,b,c⟩:=ih j i x h;exact ⟨a,by simpa using b,by simpa using c⟩
  rw[ah (show ¬e.kind=1 by omega),ah (show ¬e.kind=2 by omega)] at h;rw[ah (show ¬e.kind=2 by omega),ao g];obtain ⟨a,b,c⟩:=ih (j+1) i x h;obtain ⟨d,k⟩:∃d,x-j=d+1:=⟨x-j-1,O⟩;rw[k];have f:x-(j+1)=d:=O;rw[f] at b c;exact ⟨O,by simp;omega,by simpa using c⟩
theorem aHp:∀(es:List DV) (j:Nat),kinds es->∀(i c x d:Nat),i<c->(placesF es j)[i]? = some (some x)->(placesF es j)[c]? = some (some d)->x<d
 | [],_,_,i,_,x,_,_,h,_=>by simp[placesF] at h
 | e::es,j,hk,i,c,x,d,hi,h,h'=>by
  have g:=hk e (by simp);have a:kinds es:=fun x k=>hk x (am _ k);rw[placesF] at h h';rcases g with f | f | f
  ·rw[ao f] at h h'
   obtain ⟨b,rfl⟩:∃b,c=b+1:=⟨c-1,O⟩;rw[bE] at h'
   cases i with
   | zero=>
    simp at h;have:=(aGz es (j+1) a b d h').1;omega
   | succ i=>
    rw[bE] at h;exact aHp es (j+1) a i b x d O h h'
  ·rw[ah (show ¬e.kind=1 by omega),ao f] at h h'
   obtain ⟨b,rfl⟩:∃b,c=b+1:=⟨c-1,O⟩;rw[bE] at h'
   cases i with
   | zero=>simp at h
   | succ i=>
    rw[bE] at h;exact aHp es j a i b x d O h h'
  rw[ah (show ¬e.kind=1 by omega),ah (show ¬e.kind=2 by omega)] at h h';exact aHp es (j+1) a i c x d hi h h'
structure Places (base side:List ByteArray) (ps:List (Option Nat)):Prop where
 len:ps.length=base.length
 at_:∀(i x:Nat),ps[i]? = some (some x)->x<side.length/\side[x]? = base[i]?
 up:∀(i i' x x':Nat),i<i'->ps[i]? = some (some x)->ps[i']? = some (some x')->x<x'
theorem aCw(base side:List ByteArray):Places base side (placeF base side):=by
 obtain ⟨d,e,c⟩:=aNf base side;refine ⟨?_,fun i x h=>?_,aHp _ _ c⟩
 ·rw[placeF,aOt _ _ c,d]
 obtain ⟨_,a,b⟩:=aGz _ _ c i x h;rw[d,e] at b;rw[e] at a;exact ⟨a,b⟩
theorem bIs:∀(a:List (Option Nat×Option Nat)) (p q k:Nat),k<runF a p q->a[k]? = some (some (p+k),some (q+k))
 | [],_,_,k,h=>by simp[runF] at h
 | (none,_)::a,p,q,k,h=>by simp[runF] at h
 | (some x,none)::a,p,q,k,h=>by simp[runF] at h
 | (some x,some y)::a,p,q,k,h=>by
  rw[runF] at h;split at h
  ·rename_i e
   obtain ⟨rfl,rfl⟩:=e
   cases k with
   | zero=>rfl
   | succ k=>
    rw[bE,bIs a (x+1) (y+1) k O];rw[show x+1+k=x+(k+1) by omega,show y+1+k=y+(k+1) by omega]
  omega
structure Both (base ours theirs:List ByteArray) (zs:List (Option Nat×Option Nat)):Prop where
 len:zs.length=base.length
 at_:∀(i x y:Nat),zs[i]? = some (some x,some y)->x<ours.length/\ours[x]? = base[i]?/\y<theirs.length/\theirs[y]? = base[i]?
 up:∀(i i' x x' y y':Nat),i<i'->zs[i]? = some (some x,some y)->zs[i']? = some (some x',some y')->x<x'/\y<y'
theorem aUn {α β:Type}{xs:List α}{ys:List β}{i:Nat}{x:α}{y:β}(h:(xs.zip ys)[i]? = some (x,y)):xs[i]? = some x/\ys[i]? = some y:=by
 rw[jp] at h;exact h
theorem aRe(base ours theirs:List ByteArray):Both base ours theirs ((placeF base ours).zip (placeF base theirs)):=by
 have p:=aCw base ours;have q:=aCw base theirs;refine ⟨by rw[List.length_zip,p.len,q.len,lQ],fun i x y h=>?_,fun i g x m y n j h o=>?_⟩
 ·obtain ⟨e,f⟩:=aUn h
  obtain ⟨a,b⟩:=p.at_ i x e;obtain ⟨c,d⟩:=q.at_ i y f;exact ⟨a,b,c,d⟩
 obtain ⟨e,f⟩:=aUn h;obtain ⟨k,l⟩:=aUn o;exact ⟨p.up i g x m j e k,q.up i g y n j f l⟩
theorem aDc {l:List ByteArray}{i k:Nat}(h:i<=k)(b:k<=l.length):l.drop i=sliceF l i k++l.drop k:=by
 have a:(l.take k++l.drop k).drop i=(l.take k).drop i++l.drop k:=by
  rw[fF (by rw[aE];omega)]
 rw[aY] at a;exact a
theorem aVl {l m:List ByteArray}{i x n:Nat}(h:∀k,k<n->m[x+k]? = l[i+k]?)(b:i+n<=l.length)(c:x+n<=m.length):sliceF m x (x+n)=sliceF l i (i+n):=by
 unfold sliceF;refine bM fun k=>?_;rw[bO,bO];by_cases a:k<n
 ·rw[dd O,dd O];exact h k a
 rw[bH (by rw[aE];omega),bH (by rw[aE];omega)]
inductive Pieces (base ours theirs:List ByteArray) (zs:List (Option Nat×Option Nat)):Nat->Nat->Nat->List KV->Prop
 | last {b o t:Nat} (hb:b<=base.length) (ho:o<=ours.length) (ht:t<=theirs.length):Pieces base ours theirs zs b o t (betweenF (base.drop b) (ours.drop o) (theirs.drop t))
 | more {b o t i x y n:Nat} {l:List KV} (hz:∀k,k<n->zs[i+k]? = some (some (x+k),some (y+k))) (hn:0<n) (hb:b<=i) (ho:o<=x) (ht:t<=y) (hi:i+n<=base.length) (hx:x+n<=ours.length) (hy:y+n<=theirs.length)
   (he:sliceF ours x (x+n)=sliceF base i (i+n)) (hf:sliceF theirs y (y+n)=sliceF base i (i+n)) (h:Pieces base ours theirs zs (i+n) (x+n) (y+n) l) :
   Pieces base ours theirs zs b o t (betweenF (sliceF base b i) (sliceF ours o x) (sliceF theirs t y)++⟨1,sliceF base i (i+n),sliceF base i (i+n),sliceF base i (i+n)⟩::l)
theorem aKv {e:List (Option Nat×Option Nat)}(Z:Both base ours theirs e) :
  ∀(a i b o t:Nat),base.length<=i+a->b<=i->b<=base.length->o<=ours.length->t<=theirs.length->(∀f x y,i<=f->e[f]? = some (some x,some y)->o<=x/\t<=y)->Pieces base ours theirs e b o t (goF base ours theirs e a i b o t)
 | 0,i,b,o,t,_,_,hb,ho,ht,_=>by rw[goF];exact .last hb ho ht
 | a+1,i,b,o,t,hf,hbi,hb,ho,ht,hge=>by
  rw[goF];split
  ·exact .last hb ho ht
  ·rename_i x y l
   have d:=bIs (e.drop (i+1)) (x+1) (y+1);generalize runF (e.drop (i+1)) (x+1) (y+1)=m at d
   have c:∀k,k<m+1->e[i+k]? = some (some (x+k),some (y+k)):=fun k g=>by
    cases k with
    | zero=>exact l
    | succ k=>
     have:=d k O;rw[bO] at this;rw[show i+(k+1)=i+1+k by omega,this,show x+1+k=x+(k+1) by omega,show y+1+k=y+(k+1) by omega]
   have v:=Z.at_ _ _ _ (c m O);have j:i+m<e.length:=(aj.1 (c m O)).1;rw[Z.len] at j;obtain ⟨p,q⟩:=hge i x y (aa _) l;refine .more c O hbi p q O O O ?_ ?_ (aKv Z a (i+(m+1)) (i+(m+1)) (x+(m+1)) (y+(m+1)) O (aa _) O O O ?_)
   ·exact aVl (fun k g=>(Z.at_ _ _ _ (c k g)).2.1) O O
   ·exact aVl (fun k g=>(Z.at_ _ _ _ (c k g)).2.2.2) O O
   intro f r s n u;obtain ⟨u1,u2⟩:=Z.up (i+m) f _ r _ s O (c m O) u;omega
  rename_i l;exact aKv Z a (i+1) b o t O O hb ho ht (fun f x y n h=>hge f x y O h)
theorem aIy(base ours theirs:List ByteArray):Pieces base ours theirs ((placeF base ours).zip (placeF base theirs)) 0 0 0 (chunksF base ours theirs):=
 aKv (aRe base ours theirs) _ _ _ _ _ O (aa _) O O O (fun _ _ _ _ _=>⟨O,O⟩)
theorem aJa(b o t:List ByteArray):(betweenF b o t).flatMap KV.base=b/\(betweenF b o t).flatMap KV.ours=o/\(betweenF b o t).flatMap KV.theirs=t:=by
 unfold betweenF;split
 ·have a:b=[]:=bC O
  have c:o=[]:=bC O;have d:t=[]:=bC O;subst a;subst c;subst d;exact ⟨rfl,rfl,rfl⟩
 exact ⟨by simp,by simp,by simp⟩
theorem Pieces.sides {i:List (Option Nat×Option Nat)}{b o t:Nat}{l:List KV}(h:Pieces base ours theirs i b o t l) :
  l.flatMap KV.base=base.drop b/\l.flatMap KV.ours=ours.drop o/\l.flatMap KV.theirs=theirs.drop t:=by
 induction h with
 | last hb ho ht=>exact aJa _ _ _
 | more hz hn hb ho ht hi hx hy he hf h ih=>
  obtain ⟨a,c,d⟩:=ih;obtain ⟨e,f,g⟩:=aJa (sliceF base _ _) (sliceF ours _ _) (sliceF theirs _ _);refine ⟨?_,?_,?_⟩
  ·rw[aJ,aL,a,e]
   rw[aDc hb O,aDc (iI _ _) hi]
  ·rw[aJ,aL,c,f]
   rw[aDc ho O,aDc (iI _ _) hx,he]
  rw[aJ,aL,d,g];rw[aDc ht O,aDc (iI _ _) hy,hf]
def KindOk (c:KV):Prop:=(c.kind=1/\c.ours=c.base/\c.theirs=c.base)\/c.kind=kindF c.base c.ours c.theirs
theorem bKf {n i x:Nat}(h:((List.range' 0 n).map some)[i]? = some (some x)):x=i:=by
 rw[aG] at h
 cases a:(List.range' 0 n)[i]? with
 | none=>rw[a] at h;cases h
 | some y=>
  rw[a] at h;have b:=aj.1 a;obtain ⟨d,c⟩:=b;rw[List.getElem_range'] at c;simp at h;omega
theorem aLe(b o t:List ByteArray):(chunksF b o t).flatMap KV.base=b/\(chunksF b o t).flatMap KV.ours=o/\(chunksF b o t).flatMap KV.theirs=t:=by
 have:=(aIy b o t).sides;simpa using this
def swapK (c:KV):KV:=⟨if c.kind=2 then 3 else if c.kind=3 then (if c.theirs=c.base then 3 else 2) else c.kind,c.base,c.theirs,c.ours⟩
theorem aRi {l a:List FV}{i:Nat}:i∈loneF l a↔∃f,l[i]? = some f/\findP a f.path=none/\f.text≠⟨#[]⟩:=by
 rw[loneF,aX,bL];constructor
 ·rintro ⟨h,b⟩
  rw[ac h] at b;simp only[ay,cz,eo,Option.isNone_iff_eq_none] at b;exact ⟨_,ac h,b.1,b.2⟩
 rintro ⟨f,c,b,d⟩;refine ⟨(aj.1 c).1,?_⟩;rw[c];simp[b,d]
structure PairsOk (is js:List Nat) (ps:List (Nat×Nat)):Prop where
 from_:∀p∈ps,p.1∈is
 into:∀p∈ps,p.2∈js
 one:ps.Pairwise fun p q=>p.1≠q.1/\p.2≠q.2
theorem aMh(base side:List FV):∀(is f:List Nat),is.Nodup->PairsOk is f (sameF base side is f).1/\(∀i∈(sameF base side is f).2.1,i∈is)/\(∀j∈(sameF base side is f).2.2,j∈f)/\
  (∀p∈(sameF base side is f).1,p.1∉(sameF base side is f).2.1/\p.2∉(sameF base side is f).2.2)/\(sameF base side is f).2.1.Nodup
 | [],f,_=>by
  rw[sameF];exact ⟨⟨by simp,by simp,List.Pairwise.nil⟩,by simp,fun _ h=>h,by simp,List.nodup_nil⟩
 | i::is,f,hn=>by
  obtain ⟨g,n⟩:=eD.1 hn;rw[sameF]
  cases t:f.find? fun j=>decide (textAt side j=textAt base i) with
  | none=>
   obtain ⟨⟨o,q,r⟩,b,c,d,e⟩:=aMh base side is f n;dsimp only;refine ⟨⟨fun p a=>am _ (o p a),q,r⟩,fun k l=>?_,c,fun p a=>⟨fun h=>?_,(d p a).2⟩,eD.2 ⟨fun h=>g (b i h),e⟩⟩
   ·rcases ax.1 l with rfl | l
    ·simp
    exact am _ (b k l)
   rcases ax.1 h with h | h
   ·exact g (by rw[<-h];exact o p a)
   exact (d p a).1 h
  | some j=>
   have s:=cH t;obtain ⟨⟨o,q,r⟩,b,c,d,e⟩:=aMh base side is (f.filter fun k=>decide (k≠j)) n;have m:∀k∈f.filter (fun k=>decide (k≠j)),k≠j:=fun k l=>(by simpa using (aX.1 l).2);dsimp only;refine ⟨⟨fun p a=>?_,fun p a=>?_,cC.2 ⟨fun p a=>⟨fun h=>g (by rw[show i=p.1 from h];exact o p a),fun h=>m _ (q p a) h.symm⟩,r⟩⟩,fun k l=>am _ (b k l),fun k l=>(aX.1 (c k l)).1,fun p a=>?_,e⟩
   ·rcases ax.1 a with rfl | a
    ·simp
    exact am _ (o p a)
   ·rcases ax.1 a with rfl | a
    ·exact s
    exact (aX.1 (q p a)).1
   rcases ax.1 a with rfl | a
   ·exact ⟨fun h=>g (b _ h),fun h=>m _ (c _ h) rfl⟩
   exact d p a
theorem aMk {base side:List FV}{is c:List Nat}{p:Nat×Nat}(h:bestF base side is c=some p):p.1∈is/\p.2∈c:=by
 have key:∀(l:List (Nat×Nat)) (b:Option (Nat×Nat)×Int),(∀q,b.1=some q->q.1∈is/\q.2∈c)->(∀q∈l,q.1∈is/\q.2∈c)->
   ∀q,(l.foldl (fun (b:Option (Nat×Nat)×Int) p=>let r:=ratioF (textAt base p.1) (textAt side p.2);if b.2<r then (some p,r) else b) b).1=some q->q.1∈is/\q.2∈c:=by
  intro l
  induction l with
  | nil=>intro b d _ q a;exact d q a
  | cons x l ih=>
   intro b d e q a
   rw[bR] at a
   refine ih _ ?_ (fun q a=>e q (am _ a)) q a
   intro q a
   dsimp only at a
   split at a
   ·injection a with a;subst a;exact e x (by simp)
   exact d q a
 refine key _ (none,49) (fun q a=>by cases a) (fun q a=>?_) p h;obtain ⟨i,f,g⟩:=dF.1 a;obtain ⟨j,k,rfl⟩:=ce.1 g;exact ⟨f,k⟩
theorem aUp(base side:List FV):∀(n:Nat) (is b:List Nat),PairsOk is b (alikeF base side n is b)
 | 0,is,b=>by rw[alikeF];exact ⟨by simp,by simp,List.Pairwise.nil⟩
 | n+1,is,b=>by
  rw[alikeF]
  cases o:bestF base side is b with
  | none=>exact ⟨by simp,by simp,List.Pairwise.nil⟩
  | some p=>
   obtain ⟨g,i⟩:=aMk o;obtain ⟨j,l,m⟩:=aUp base side n (is.filter fun k=>decide (k≠p.1)) (b.filter fun k=>decide (k≠p.2))
   have e:∀q∈alikeF base side n (is.filter fun k=>decide (k≠p.1)) (b.filter fun k=>decide (k≠p.2)),q.1∈is/\q.1≠p.1:=fun q a=>by
    obtain ⟨c,d⟩:=aX.1 (j q a);exact ⟨c,by simpa using d⟩
   have f:∀q∈alikeF base side n (is.filter fun k=>decide (k≠p.1)) (b.filter fun k=>decide (k≠p.2)),q.2∈b/\q.2≠p.2:=fun q a=>by
    obtain ⟨c,d⟩:=aX.1 (l q a);exact ⟨c,by simpa using d⟩
   dsimp only;refine ⟨fun q a=>?_,fun q a=>?_,cC.2 ⟨fun q a=>⟨fun h=>(e q a).2 h.symm,fun h=>(f q a).2 h.symm⟩,m⟩⟩
   ·rcases ax.1 a with rfl | a
    ·exact g
    exact (e q a).1
   rcases ax.1 a with rfl | a
   ·exact i
   exact (f q a).1
theorem aCv(base side:List FV):PairsOk (loneF base side) (loneF side base) (pairsF base side):=by
 have j:(loneF base side).Nodup:=List.nodup_range.sublist kH;obtain ⟨⟨k,l,m⟩,b,c,d,e⟩:=aMh base side (loneF base side) (loneF side base) j;obtain ⟨f,g,n⟩:=aUp base side (sameF base side (loneF base side) (loneF side base)).2.1.length (sameF base side (loneF base side) (loneF side base)).2.1 (sameF base side (loneF base side) (loneF side base)).2.2;unfold pairsF;dsimp only;refine ⟨fun p a=>?_,fun p a=>?_,cT.2 ⟨m,n,fun p a q i=>⟨fun h=>(d p a).1 (by rw[h];exact f q i),fun h=>(d p a).2 (by rw[h];exact g q i)⟩⟩⟩
 ·rcases aQ.1 a with a | a
  ·exact k p a
  exact b _ (f p a)
 rcases aQ.1 a with a | a
 ·exact l p a
 exact c _ (g p a)
theorem bDr {a b:List FV}{q:Nat×Nat}(h:q∈pairsF a b):∃f g,a[q.1]? = some f/\b[q.2]? = some g/\findP b f.path=none/\findP a g.path=none:=by
 have c:=aCv a b;obtain ⟨f,d,e,_⟩:=aRi.1 (c.from_ q h);obtain ⟨g,i,j,_⟩:=aRi.1 (c.into q h);exact ⟨f,g,d,i,e,j⟩
theorem aMm {α:Type}{R:α->α->Prop}:∀{l:List α},l.Pairwise R->∀{x y:α},x∈l->y∈l->x=y\/R x y\/R y x
 | z::l,h,x,y,hx,hy=>by
  obtain ⟨d,f⟩:=cC.1 h;rcases ax.1 hx with e | b
  ·rcases ax.1 hy with c | a
   ·exact .inl (e.trans c.symm)
   exact .inr (.inl (e▸d y a))
  rcases ax.1 hy with c | a
  ·exact .inr (.inr (c▸d x b))
  exact aMm f b a
theorem aSd:∀(l:List FV),(l.Pairwise fun x y=>x.path≠y.path)->Rise (sortF l)/\∀x,x∈sortF l↔x∈l:=by
 have key:∀(l a:List FV),Rise a->((a++l).Pairwise fun x y=>x.path≠y.path)->Rise (l.foldl (fun a f=>sortedIn a f) a)/\∀x,x∈l.foldl (fun a f=>sortedIn a f) a↔x∈a\/x∈l:=by
  intro l
  induction l with
  | nil=>intro a h _;exact ⟨h,by simp⟩
  | cons f l ih=>
   intro a h m
   have k:hasP a f.path=false:=by
    cases e:hasP a f.path with
    | false=>rfl
    | true=>
     obtain ⟨g,o,p⟩:=aEq.1 e;exact absurd p ((cT.1 m).2.2 g o f (by simp))
   have b:(sortedIn a f++l).Pairwise fun x y=>x.path≠y.path:=by
    obtain ⟨u,q,r⟩:=cT.1 m;obtain ⟨s,t⟩:=cC.1 q;refine cT.2 ⟨(aFg h k).pair.imp fun j e=>absurd (FV.p_inj.2 e) (aHz j),t,fun x i y n=>?_⟩;rcases aCt.1 i with rfl | i
    ·exact s y n
    exact r x i y (am _ n)
   obtain ⟨c,d⟩:=ih (sortedIn a f) (aFg h k) b;refine ⟨c,fun x=>?_⟩;rw[bR,d,aCt,ax];constructor
   ·rintro ((h | h) | h)
    ·exact .inr (.inl h)
    ·exact .inl h
    exact .inr (.inr h)
   rintro (h | h | h)
   ·exact .inl (.inr h)
   ·exact .inl (.inl h)
   exact .inr h
 intro l h;obtain ⟨c,d⟩:=key l [] (aEo List.Pairwise.nil) (by simpa using h);exact ⟨c,fun x=>by rw[sortF,d];simp⟩
def bothOut (f o t:FV):FV×Int:=
 let kind:Int:=if o.path=f.path then 0 else if t.path≠f.path/\t.path≠o.path then 4 else 0
 (⟨if o.path=f.path then t.path else o.path,if o.exec=f.exec then t.exec else o.exec,(merge3F f.text o.text t.text).1⟩,if (merge3F f.text o.text t.text).2=false/\kind=0 then 1 else kind)
def actK (base a b:List FV)(f:FV):Option (FV×Int):=
 match whereF base a f,whereF base b f with
 | some x,some y=>some (bothOut f x y)
 | some x,none=>if x=f then none else some (x,3)
 | none,some y=>if y=f then none else some (y,3)
 | none,none=>none
def actA (theirs:List FV)(x:FV):FV×Int:=
 match findP theirs x.path with
 | none=>(x,0)
 | some y=>if x=y then (x,0) else (⟨x.path,x.exec,(merge3F ⟨#[]⟩ x.text y.text).1⟩,2)
def acts (base a b:List FV):List (FV×Int):=
 base.filterMap (actK base a b)++((addedF base a).map (actA (addedF base b))++((addedF base b).filter fun y=>(findP (addedF base a) y.path).isNone).map fun y=>(y,0))
def putX (m:List FV×List CL)(p:FV×Int):List FV×List CL:=putM m p.1 p.2
theorem aOs (base a b:List FV):∀(l:List FV) (m:List FV×List CL),l.foldl (keptM base a b) m=(l.filterMap (actK base a b)).foldl putX m
 | [],m=>rfl
 | f::l,m=>by
  rw[bR,dT]
  have h:keptM base a b m f=match actK base a b f with | some p=>putX m p | none=>m:=by
   unfold keptM actK
   cases whereF base a f with
   | none=>
    cases whereF base b f with
    | none=>rfl
    | some y=>by_cases e:y=f<;>simp[e,putX]
   | some x=>
    cases whereF base b f with
    | none=>by_cases e:x=f<;>simp[e,putX]
    | some y=>rfl
  rw[h]
  cases actK base a b f with
  | none=>exact aOs base a b l m
  | some p=>exact aOs base a b l (putX m p)
theorem bJq(ours theirs:List FV)(m:List FV×List CL):addM ours theirs m=(ours.map (actA theirs)++(theirs.filter fun (y:FV)=>(findP ours y.path).isNone).map fun y=>(y,0)).foldl putX m:=by
 unfold addM;rw[cJ,List.foldl_map,List.foldl_map]
 have h:addOne theirs=fun m x=>putX m (actA theirs x):=by
  funext m x;unfold addOne actA
  cases findP theirs x.path with
  | none=>rfl
  | some y=>by_cases e:x=y<;>simp[e,putX]
 rw[h];rfl
theorem aKf(base a b:List FV):wholeF base a b=(acts base a b).foldl putX ([],[]):=by
 unfold wholeF acts;rw[bJq,aOs,<-cJ]
theorem aMu:∀(l:List ByteArray) (r:List DV) (j:Nat),placesF (evs 1 l++r) j=(List.range' j l.length).map some++placesF r (j+l.length)
 | [],r,j=>by simp[evs]
 | x::l,r,j=>by
  show placesF (⟨1,x⟩::(evs 1 l++r)) j=_;rw[placesF,ao rfl,aMu l r (j+1),aD,mz,dc,aV,show j+1+l.length=j+(l.length+1) by omega]
theorem aGu:∀(a b:List ByteArray) (j i x:Nat),(placesF (evs 2 a++evs 3 b) j)[i]?≠some (some x)
 | [],[],j,i,x=>by simp[evs,placesF]
 | [],y::b,j,i,x=>by
  show (placesF (⟨3,y⟩::(evs 2 []++evs 3 b)) j)[i]?≠_;rw[placesF,ah (show ¬(3:Int)=1 by decide),ah (show ¬(3:Int)=2 by decide)];exact aGu [] b (j+1) i x
 | z::a,b,j,i,x=>by
  show (placesF (⟨2,z⟩::(evs 2 a++evs 3 b)) j)[i]?≠_;rw[placesF,ah (show ¬(2:Int)=1 by decide),ao rfl]
  cases i with
  | zero=>simp
  | succ i=>rw[bE];exact aGu a b j i x
theorem aVi(a b:List ByteArray):pfx a b<=a.length/\pfx a b<=b.length:=by
 have:∀(a b:List ByteArray),pfx a b<=a.length/\pfx a b<=b.length:=by
  intro a
  induction a with
  | nil=>intro b;simp[pfx]
  | cons x a ih=>
   intro b
   cases b with
   | nil=>simp[pfx]
   | cons y b=>
    rw[pfx];have:=ih b;split<;>simp only[aD]<;>omega
 exact this a b
structure Ahead (base side:List ByteArray) (ps:List (Option Nat)) (P:Nat):Prop where
 leB:P<=base.length
 leS:P<=side.length
 same:side.take P=base.take P
 low:∀(i x:Nat),ps[i]? = some (some x)->i<P->x=i
 high:∀(i x:Nat),ps[i]? = some (some x)->P<=i->P<=x/\base.length<=P+400/\side.length<=P+400
theorem aNl(base side:List ByteArray):Ahead base side (placeF base side) (pfx base side):=by
 obtain ⟨l1,e⟩:=aVi base side
 have c:placeF base side=(List.range' 0 (pfx base side)).map some++placesF (rest (base.drop (pfx base side)) (side.drop (pfx base side))) (pfx base side):=by
  rw[placeF,script,aMu,aE,bP l1,aO]
 have a:((List.range' 0 (pfx base side)).map (some:Nat->Option Nat)).length=pfx base side:=by rw[az,List.length_range']
 refine ⟨l1,e,(aFq base side).symm,fun i x h b=>?_,fun i x h b=>?_⟩
 ·rw[c,aZ (by rw[a];exact b)] at h
  exact bKf h
 rw[c,a6 (by rw[a];exact b),a] at h;unfold rest at h;split at h
 ·exact absurd h (aGu _ _ _ _ _)
 rename_i f;rw[aN,aN] at f;have d:kinds (scrT (base.drop (pfx base side)) (side.drop (pfx base side))):=(aEb _ _).2.2;exact ⟨(aGz _ _ d _ _ h).1,O,O⟩
def clashN (l:List KV):Nat:=(l.filter fun c=>decide (c.kind=5)).length
theorem aJz(l m:List KV):clashN (l++m)=clashN l+clashN m:=by simp[clashN]
theorem aDq(b o t:List ByteArray):clashN (betweenF b o t)<=1/\(o=b->clashN (betweenF b o t)=0)/\(t=b->clashN (betweenF b o t)=0)/\(0<clashN (betweenF b o t)->2<=b.length+o.length+t.length):=by
 unfold betweenF;split
 ·simp[clashN]
 rename_i g;unfold kindF;by_cases a:o=b
 ·rw[ao a];simp[clashN]
 rw[ah a];by_cases c:t=b
 ·rw[ao c];simp[clashN]
 rw[ah c];by_cases d:o=t
 ·rw[ao d];simp[clashN]
 rw[ah d];have f:clashN [(⟨5,b,o,t⟩:KV)]=1:=rfl;rw[f];refine ⟨aa _,fun e=>absurd e a,fun e=>absurd e c,fun _=>?_⟩;-- two of the three are not empty
 cases b with
 | nil=>
  cases o with
  | nil=>exact absurd rfl a
  | cons x o=>
   cases t with
   | nil=>exact absurd rfl c
   | cons y t=>simp only[aD];omega
 | cons z b=>
  cases o with
  | nil=>
   cases t with
   | nil=>exact absurd rfl d
   | cons y t=>simp only[aD];omega
  | cons x o=>simp only[aD];omega
theorem aJv {l:List ByteArray}{i k:Nat}(a:k<=l.length):(sliceF l i k).length=k-i:=by
 rw[sliceF,aN,aE,bP a]
theorem Pieces.few {f:List (Option Nat×Option Nat)}{b o t:Nat}{l:List KV}(h:Pieces base ours theirs f b o t l) :
  5*clashN l<=(base.length-b)+(ours.length-o)+(theirs.length-t)+3:=by
 induction h with
 | @last b o t hb ho ht=>
  obtain ⟨e,_,_,a⟩:=aDq (base.drop b) (ours.drop o) (theirs.drop t);rw[aN,aN,aN] at a;by_cases c:0<clashN (betweenF (base.drop b) (ours.drop o) (theirs.drop t))
  ·have:=a c;omega
  omega
 | @more b o t i x y n l hz hn hb ho ht hi hx hy he hf h ih=>
  obtain ⟨e,_,_,a⟩:=aDq (sliceF base b i) (sliceF ours o x) (sliceF theirs t y);rw[aJv O,aJv O,aJv O] at a;have d:clashN (⟨1,sliceF base i (i+n),sliceF base i (i+n),sliceF base i (i+n)⟩::l)=clashN l:=rfl;rw[aJz,d];by_cases c:0<clashN (betweenF (sliceF base b i) (sliceF ours o x) (sliceF theirs t y))
  ·have:=a c;omega
  omega
theorem aQg {side:List ByteArray}{P b i:Nat}(h:side.take P=base.take P)(a:i<=P):sliceF side b i=sliceF base b i:=by
 unfold sliceF;have:=congrArg (fun l=>(l.take i).drop b) h;simpa[ei,bP a] using this
theorem Pieces.bound {xs ys:List (Option Nat)}{P Q:Nat}(A:Ahead base ours xs P)(B:Ahead base theirs ys Q){b o t:Nat}{l:List KV}
  (h:Pieces base ours theirs (xs.zip ys) b o t l) (v:b<P->o=b) (w:b<Q->t=b):clashN l<=241:=by
 induction h with
 | @last b o t hb ho ht=>
  have:=(aDq (base.drop b) (ours.drop o) (theirs.drop t)).1;omega
 | @more b o t i x y n l hz hn hb ho ht hi hx hy he hf h ih=>
  obtain ⟨D,q,r,_⟩:=aDq (sliceF base b i) (sliceF ours o x) (sliceF theirs t y);have p:clashN (⟨1,sliceF base i (i+n),sliceF base i (i+n),sliceF base i (i+n)⟩::l)=clashN l:=rfl;rw[aJz,p];obtain ⟨k,m⟩:=aUn (by simpa using hz 0 hn:(xs.zip ys)[i]? = some (some x,some y));obtain ⟨s,u⟩:=aUn (by have:=hz (n-1) O;exact this:(xs.zip ys)[i+(n-1)]? = some (some (x+(n-1)),some (y+(n-1))));have g:i+n<P->x+n=i+n:=fun e=>by have:=A.low _ _ s O;omega
  have j:i+n<Q->y+n=i+n:=fun e=>by have:=B.low _ _ u O;omega
  by_cases z:i<P
  ·have a:=A.low _ _ k z
   have c:=v O;have:clashN (betweenF (sliceF base b i) (sliceF ours o x) (sliceF theirs t y))=0:=q (by rw[a,c];exact aQg A.same O);rw[this,aO];exact ih g j
  by_cases C:i<Q
  ·have d:=B.low _ _ m C
   have f:=w O;have:clashN (betweenF (sliceF base b i) (sliceF ours o x) (sliceF theirs t y))=0:=r (by rw[d,f];exact aQg B.same O);rw[this,aO];exact ih g j
  obtain ⟨u1,u2,u3⟩:=A.high _ _ k O;obtain ⟨E,F,G⟩:=B.high _ _ m O;have:=h.few;omega
theorem aLd(base ours theirs:List ByteArray):clashN (chunksF base ours theirs)<=241:=
 (aIy base ours theirs).bound (aNl base ours) (aNl base theirs) (fun _=>rfl) (fun _=>rfl)
def bytesF (l:List ByteArray):Nat:=(catF l).length
theorem aDs(l m:List ByteArray):catF (l++m)=catF l++catF m:=by simp[catF]
theorem aGn(s:Bs):(endedF s).length<=s.length+1:=by
 unfold endedF;split
 ·omega
 simp
theorem aRj(a:Bs)(c:KV):(clashTextF a c).length<=a.length+(bytesF c.base+bytesF c.ours+bytesF c.theirs)+if c.kind=5 then 53 else 0:=by
 unfold clashTextF;by_cases h:c.kind=5
 ·rw[ah (by simp[h]),ao h]
  have f:=aGn a;have b:=aGn (endedF a++markO++catF c.ours);have d:=aGn (endedF (endedF a++markO++catF c.ours)++markB++catF c.base);have e:=aGn (endedF (endedF (endedF a++markO++catF c.ours)++markB++catF c.base)++markT++catF c.theirs);simp only[ae] at b d e ⊢;have g:markO.length=13:=rfl;have i:markB.length=13:=rfl;have j:markT.length=8:=rfl;have k:markE.length=15:=rfl;unfold bytesF;omega
 rw[ao h,ah h,ae]
 have:(catF (mergedF [c])).length<=bytesF c.ours+bytesF c.theirs:=by
  unfold mergedF;rw[aL,List.flatMap_nil,aR];unfold bytesF;split<;>omega
 omega
theorem aSq:∀(l:List KV) (a:Bs),(l.foldl clashTextF a).length<=a.length+(bytesF (l.flatMap KV.base)+bytesF (l.flatMap KV.ours)+bytesF (l.flatMap KV.theirs))+53*clashN l
 | [],a=>by rw[List.foldl_nil];omega
 | c::l,a=>by
  rw[bR];have g:=aSq l (clashTextF a c);have d:=aRj a c
  have e:clashN (c::l)=(if c.kind=5 then 1 else 0)+clashN l:=by
   unfold clashN;rw[dG];by_cases h:c.kind=5
   ·rw[ao (aq h),ao h,aD];omega
   rw[ah (by simp[h]),ah h];omega
  have b:∀(f:KV->List ByteArray),bytesF ((c::l).flatMap f)=bytesF (f c)+bytesF (l.flatMap f):=fun f=>by
   unfold bytesF;rw[aL,aDs,ae]
  rw[b,b,b,e];split at d
  ·rename_i h;rw[ao h];omega
  rename_i h;rw[ah h];omega
theorem aDk(s:ByteArray):catF (linesF s)=s.data.toList:=by
 have h:=bDh s;have:(joinF (linesF s)).data.toList=s.data.toList:=by rw[h]
 rw[<-this];simp[joinF,ofB,catF]
theorem aMs(l:Bs):(ofB l).size=l.length:=by show l.toArray.size=_;simp
theorem aBk(s:ByteArray):s.data.toList.length=s.size:=rfl
theorem aHc(b o t:ByteArray):(merge3F b o t).1.size<=b.size+o.size+t.size+12773:=by
 obtain ⟨j,e,g⟩:=aLe (linesF b) (linesF o) (linesF t);have k:=aLd (linesF b) (linesF o) (linesF t);rw[merge3F];split
 ·show (joinF (mergedF _)).size<=_
  have h:∀l:List KV,(catF (mergedF l)).length<=bytesF (l.flatMap KV.ours)+bytesF (l.flatMap KV.theirs):=by
   intro l
   induction l with
   | nil=>simp[mergedF,catF]
   | cons c l ih=>
    unfold mergedF at ih ⊢
    have d:∀(f:KV->List ByteArray),bytesF ((c::l).flatMap f)=bytesF (f c)+bytesF (l.flatMap f):=fun f=>by
     unfold bytesF;rw[aL,aDs,ae]
    rw[aL,aDs,ae,d,d];unfold bytesF at ih ⊢;split<;>omega
  have a:=h (chunksF (linesF b) (linesF o) (linesF t));rw[e,g] at a;unfold bytesF at a;rw[aDk,aDk,aBk,aBk] at a
  have i:(joinF (mergedF (chunksF (linesF b) (linesF o) (linesF t)))).size=(catF (mergedF (chunksF (linesF b) (linesF o) (linesF t)))).length:=by
   exact aMs _
  omega
 show (ofB _).size<=_;have a:=aSq (chunksF (linesF b) (linesF o) (linesF t)) [];rw[j,e,g] at a;unfold bytesF at a;rw[aDk,aDk,aDk,aBk,aBk,aBk,dU] at a
 have i:(ofB ((chunksF (linesF b) (linesF o) (linesF t)).foldl clashTextF [])).size=((chunksF (linesF b) (linesF o) (linesF t)).foldl clashTextF []).length:=by
  exact aMs _
 omega
structure Small (l:List FV):Prop where
 tree:treeOk l=true
 len:l.length<=30
 text:∀f∈l,f.text.size<=2000
theorem aOg:∀(l:List (FV×Int)) (m:List FV×List CL),(m.1.Pairwise fun x y=>clashP x.p y.p=false)->
  ((l.foldl putX m).1.Pairwise fun x y=>clashP x.p y.p=false)/\(∀x∈(l.foldl putX m).1,x∈m.1\/∃p∈l,p.1=x)/\(l.foldl putX m).1.length<=m.1.length+l.length
 | [],m,h=>⟨h,fun x d=>.inl d,by simp⟩
 | p::l,m,h=>by
  rw[bR];by_cases j:(m.1.any fun x=>clashP x.p p.1.p)=true
  ·have g:(putX m p).1=m.1:=by unfold putX putM;rw[ao j]
   obtain ⟨a,b,c⟩:=aOg l (putX m p) (by rw[g];exact h);rw[g] at b c;refine ⟨a,fun x d=>?_,by rw[aD];omega⟩;rcases b x d with f | ⟨q,i,e⟩
   ·exact .inl f
   exact .inr ⟨q,am _ i,e⟩
  have g:(putX m p).1=m.1++[p.1]:=by unfold putX putM;rw[ah j]
  have n:∀x∈m.1,clashP x.p p.1.p=false:=fun x d=>by
   cases e:clashP x.p p.1.p with
   | false=>rfl
   | true=>exact absurd (bZ.2 ⟨x,d,e⟩) j
  obtain ⟨a,b,c⟩:=aOg l (putX m p) (by
   rw[g];refine cT.2 ⟨h,fC _ _,fun x d y k=>?_⟩;simp only[aS] at k;subst k;exact n x d)
  rw[g] at b c;refine ⟨a,fun x d=>?_,by rw[ae,bf] at c;rw[aD];omega⟩;rcases b x d with f | ⟨q,i,e⟩
  ·rcases aQ.1 f with f | f
   ·exact .inl f
   simp only[aS] at f;exact .inr ⟨p,by simp,f.symm⟩
  exact .inr ⟨q,am _ i,e⟩
theorem aNw(l:List FV):(sortF l).length=l.length:=by
 have key:∀(l a:List FV),(l.foldl (fun a f=>sortedIn a f) a).length=a.length+l.length:=by
  intro l
  induction l with
  | nil=>intro a;simp
  | cons f l ih=>intro a;rw[bR,ih,aCr,aD];omega
 rw[sortF,key];simp
theorem bMm {l:List FV}(n:l.length<=100)(o:∀f∈l,FileOk f)(j:l.Pairwise fun x y=>clashP x.p y.p=false):treeOk (sortF l)=true:=by
 have k:l.Pairwise fun x y=>x.path≠y.path:=j.imp fun {x y} h e=>by
  unfold clashP at h;rw[FV.p_inj.2 e] at h;simp at h
 obtain ⟨m,d⟩:=aSd l k;refine aAx.2 ⟨by rw[aNw];exact n,fun f a=>o f ((d f).1 a),m,fun f a g i=>?_⟩;have b:=(d f).1 a;have c:=(d g).1 i;rcases aMm j b c with e | e | e
 ·subst e;exact aIe _
 ·simp only[clashP,dn] at e;exact e.1.2
 simp only[clashP,dn] at e;exact e.2
theorem aOm {a b:List FV}{f g:FV}(h:whereF a b f=some g):g∈b:=by
 unfold whereF at h
 cases c:findP b f.path with
 | some x=>rw[c] at h;injection h with h;subst h;exact (aFa c).1
 | none=>
  rw[c] at h;dsimp only at h
  cases e:movedF a b f.path with
  | none=>rw[e] at h;cases h
  | some d=>rw[e] at h;exact (aFa h).1
def MV.pl (m:MV):Int×List Int:=(m.old,m.new)
structure FL where
 parent:Int
 msg:ByteArray
 files:List FV
structure SettL where
 commit:Int
 files:List FV
structure MR where
 new:List FL
 marks:List (Int×List Int)
 commit:Int
 files:List FV
 clashes:List CL
def noMR:MR:=⟨[],[],0,[],[]⟩
def parF (l:List FL):List Int:=l.map FL.parent
def filesAt (l:List FL)(i:Int):List FV:=if i<0 then [] else ((l[i.toNat]?).map FL.files).getD []
def msgAt (l:List FL)(i:Int):ByteArray:=((l[i.toNat]?).map FL.msg).getD ⟨#[]⟩
def settledF (s:List SettL)(c:Int):Option SettL:=s.find? fun x=>decide (x.commit=c)
noncomputable def mergedOn (l:List FL) (s:List SettL) (c onto:Int):List FV×List CL×Int:=
 match settledF s c with
 | some x=>(x.files,[],0)
 | none=>treemergeF (filesAt l (par (parF l) c)) (filesAt l onto) (filesAt l c)
noncomputable def oneOn (s:List SettL) (l:List FL) (c onto:Int):Except (MR×Int) (List FL):=
 if (mergedOn l s c onto).2.2≠0 then .error (noMR,(mergedOn l s c onto).2.2)
 else if (mergedOn l s c onto).2.1≠[] then .error (⟨[],[],c,(mergedOn l s c onto).1,(mergedOn l s c onto).2.1⟩,0)
 else if 2000<=l.length then .error (noMR,6)
 else .ok (l++[⟨onto,msgAt l c,(mergedOn l s c onto).1⟩])
def nowF (now:List (Int×Int))(dest p:Int):Int:=(now.lookup p).getD dest
noncomputable def runF' (s:List SettL) (ps:List Int) (dest:Int):List Int->List (Int×Int)->List FL->List (Int×List Int)->Except (MR×Int) (List FL×List (Int×List Int))
 | [],_,l,k=>.ok (l,k)
 | c::cs,now,l,k=>
  match oneOn s l c (nowF now dest (par ps c)) with
  | .error e=>.error e
  | .ok l'=>runF' s ps dest cs ((c,(l.length:Int))::now) l' (k++[(c,[(l.length:Int)])])
noncomputable def allF (s:List SettL) (mvd:List Int) (l:List FL) (source dest:Int):Except (MR×Int) (List FL×List (Int×List Int)):=
 if above (parF l) source dest=true then .error (noMR,23)
 else if par (parF l) source=dest then .error (noMR,14)
 else runF' s (parF l) dest mvd [] l []
noncomputable def rightL (l:List FL) (ms:List MV):Bool:=rightP (parF l) && l.all (fun f=>treeOk f.files) && rightM l.length ms
noncomputable def argsOk (l:List FL) (ms:List MV) (source dest:Int):Bool:=rightL l ms && (decide (0<=source) && decide (source<l.length)) && !obsM ms source && (decide (-1<=dest) && decide (dest<l.length))
def toldF (n:Nat):Except (MR×Int) (List FL×List (Int×List Int))->MR×Int
 | .error e=>e
 | .ok (l,k)=>(⟨l.drop n,k,-1,[],[]⟩,0)
noncomputable def rebaseF (l:List FL) (ms:List MV) (source dest:Int) (s:List SettL):MR×Int:=
 if argsOk l ms source dest=false then (noMR,1)
 else toldF l.length (allF s (moved (parF l) ms source) l source dest)
def I64 (x:Int):Prop:=-9223372036854775808<=x/\x<=9223372036854775807
structure RdM (w:World) (B:Nat) (A:Option Addr) (n c:Nat) (ms:List MV):Prop where
 row:Rd w B 2 A n c (ms.flatMap MV.cells)
 len:ms.length=n
 parts:∀m∈ms,Rd w B 1 m.A m.new.length m.c (m.new.map (.int .i64))/\m.new.length<=17592186044416/\I64 m.old/\∀x∈m.new,I64 x
theorem cells2 {k:Nat}{m:MV}(a:ms[k]? = some m):(ms.flatMap MV.cells)[k*2]? = some (.int .i64 m.old)/\(ms.flatMap MV.cells)[k*2+1]? = some (.slice m.A m.new.length m.c):=by
 induction ms generalizing k with
 | nil=>simp at a
 | cons x xs ih=>
  cases k with
  | zero=>simp at a;subst a;simp[MV.cells]
  | succ k=>
   simp at a;have:=ih a;simpa[MV.cells,fe,show k*2+2+1=(k*2+1)+2 from O] using this
theorem RdM.get {B n c:Nat}(h:RdM w B A n c ms){k:Nat}(l:k<n) :
  ∃b o u,A=some ⟨b,o,none⟩/\b<B/\ms[k]? = some u/\u∈ms/\w.cell? ⟨b,o+k*2,none⟩=some (.int .i64 u.old)/\
   w.cell? ⟨b,o+k*2+1,none⟩=some (.slice u.A u.new.length u.c):=by
 obtain ⟨b,o,e,g,f⟩:=h.row.at_ O;have a:k<ms.length:=by rw[h.len];exact l
 have d:ms[k]? = some ms[k]:=ac a;obtain ⟨i,j⟩:=cells2 d;exact ⟨b,o,ms[k],e,g,d,fw a,f _ _ i,f _ _ j⟩
section
variable {w w':World} {B B' n c:Nat} {A:Option Addr} {ms:List MV}
theorem RdM.to(h:RdM w B A n c ms)(b:Below B w w')(d:B<=B'):RdM w' B' A n c ms:=
 ⟨h.row.to b d,h.len,fun m a=>⟨(h.parts m a).1.to b d,(h.parts m a).2⟩⟩
end
def EqI (xs ys:List Int)(k:Nat):Prop:=∀j,j<k->xs[j]? = ys[j]?
theorem Rd.int_ {B n c:Nat}{l:List Int}(h:Rd w B 1 A n c (l.map (.int .i64))){k:Nat}(i:k<n) :
  ∃b o u,A=some ⟨b,o,none⟩/\b<B/\l[k]? = some u/\w.cell? ⟨b,o+k,none⟩=some (.int .i64 u):=by
 obtain ⟨b,o,u,e,f,a,g⟩:=h.one i;rw[aG] at a
 cases d:l[k]? with
 | none=>rw[d] at a;cases a
 | some s=>rw[d] at a;cases a;exact ⟨b,o,s,e,f,rfl,g⟩
theorem aXu(x y:Int)(w:World):Calls prog 83 #[.int .i64 x,.int .i64 y] w fun e w'=>e=.returned (.bool (decide (x=y)))/\w'=w:=by
 go_enter Tryz.func83,Tryz.ntmps83;go_wp2;go_ret;refine ⟨?_,rfl⟩;by_cases h:x=y<;>simp[h]
theorem bIc {B:Option Addr}{n ca cb BB:Nat}{xs ys:List Int}(V:n<=maxLen)(W:m<=maxLen)(X:BB<=w.heap.size)
  (ha:Rd w BB 1 A n ca (xs.map (.int .i64))) (N:Rd w BB 1 B m cb (ys.map (.int .i64))) :
   Calls prog 82 #[.slice A n ca,.slice B m cb,.func (.func 83) #[] #[]] w (BoolBelow (decide (xs=ys)) w):=by
 have o:=hid (show xs.length=n by have:=ha.len;simpa using this);have z:=hid (show ys.length=m by have:=N.len;simpa using this);unfold maxLen at V W;by_cases h:n=m
 ·subst h
  go_enter Tryz.func82,Tryz.ntmps82;go_wp2;go_loopw[7] (fun i wr=>∃k:Nat,k<=n/\i=.int .i64 k/\Below w.heap.size w wr/\EqI xs ys k) (fun i _=>n-(intOf i).toNat)
  case atStart=>exact ⟨0,al _,rfl,Below.refl _ _,fun j g=>absurd g (bN _)⟩
  obtain ⟨k,Y,rfl,a,g⟩:=hrel;by_cases f:k<n
  ·obtain ⟨r,E,u,rfl,P,F,G⟩:=ha.int_ f
   obtain ⟨s,H,v,rfl,R,I,J⟩:=N.int_ f;have b:=hid F;have c:=hid I;clear F I;go_wp2;refine aAe (fun w'=>Below w.heap.size w w') (qe [9] 11) mixed κ a.drew (fun T M Q K t x L=>?_);have C:M ⟨r,E+k,none⟩=some (.int .i64 u):=x _ _ fun w' y=>(y.cell (p:=⟨r,E+k,none⟩) (by show r<_;omega)).trans G;have D:M ⟨s,H+k,none⟩=some (.int .i64 v):=x _ _ fun w' y=>(y.cell (p:=⟨s,H+k,none⟩) (by show s<_;omega)).trans J;simp only[qcmp,Nat.reduceBEq];simp (maxSteps:=9^7) only[↓qpre,aAb,aAg,aAc,C,D];refine ⟨⟨ω,ω⟩,⟨ω,ω⟩,aAh κ (aXu u v _) rfl rfl ?_⟩;rintro e w' ⟨rfl,rfl⟩;refine ⟨_,rfl,K _ a.drew,?_⟩;simp (maxSteps:=9^7) only[↓qpre,aAb,aAc];refine L _ _ ?_;have d:=a.drew;clear L K t x C D
   cases l:decide (u=v)
   ·have q:=cj l
    clear l;go_wp2;go_ret;refine ⟨aAi (ak fun e=>?_).symm,d⟩;subst e;have:=b.out;rw[c.out] at this;injection this with this;exact q this.symm
   have q:=hid (aP l);clear l;go_wp2;go_roundw
   case rel=>
    refine ⟨k+1,ω,by go_num,d,fun j S=>?_⟩;by_cases e:j=k
    ·subst e;rw[b.out,c.out,q.out]
    exact g j ω
   simp[intOf];omega
  have O:k=n:=ω;go_wp2;go_ret;refine ⟨aAi (aq ?_).symm,a⟩;exact bGs (by rw[o.out,z.out]) (fun j U=>g j (by rw[o.out] at U;omega))
 obtain ⟨G,J⟩:=aEs (u:=(n:Int)) (v:=(m:Int)) ω;go_enter Tryz.func82,Tryz.ntmps82;go_wp2;go_ret;refine ⟨aAi (ak fun e=>?_).symm,Below.refl _ _⟩;subst e;exact h (o.out.symm.trans z.out)
theorem bDu {B:Option Addr}{n ca cb BB:Nat}{xs ys:List Int}(c:n<=maxLen)(d:m<=maxLen)(b:BB<=w.heap.size)
  (ha:Rd w BB 1 A n ca (xs.map (.int .i64))) (f:Rd w BB 1 B m cb (ys.map (.int .i64))) :
   Calls prog 41 #[.slice A n ca,.slice B m cb] w (BoolBelow (decide (xs=ys)) w):=by
 go_enter Tryz.func41,Tryz.ntmps41;go_wp2_with (go_at_call 82;refine (bIc c d b ha f).mono ?_;rintro e w' ⟨rfl,a⟩);go_ret;exact ⟨rfl,a⟩
theorem bMy {n c:Nat}{l:List Int}{x:Int}(r:n<=maxLen)(h:Rd w w.heap.size 1 A n c (l.map (.int .i64))) :
  Calls prog 57 #[.slice A n c,.int .i64 x] w (BoolBelow (decide (x∈l)) w):=by
 unfold maxLen at r;have q:=hid (show l.length=n by have:=h.len;simpa using this);go_enter Tryz.func57,Tryz.ntmps57;go_wp2;go_loopw[5] (fun i wr=>∃k:Nat,k<=n/\i=.int .i64 k/\Below w.heap.size w wr/\Hid (x∉l.take k)) (fun i _=>n-(intOf i).toNat)
 case atStart=>exact ⟨0,al _,rfl,Below.refl _ _,by rw[bi];intro a;cases a⟩
 obtain ⟨k,s,rfl,b,o⟩:=hrel;by_cases f:k<n
 ·obtain ⟨t,v,u,rfl,e,p,j⟩:=h.int_ f
  replace j:=(b.cell e).trans j;have m:=hid p;clear p;by_cases g:u=x
  ·subst g
   go_wp2;go_ret;exact ⟨aAi (aq (aC m.out)).symm,b⟩
  obtain ⟨y,_⟩:=aEs g;go_wp2;go_roundw
  case rel=>
   refine ⟨k+1,O,by go_num,b,?_⟩;intro a;rw[aB,m.out] at a;rcases aQ.1 a with a | a
   ·exact o a
   simp at a;exact g a.symm
  simp[intOf];omega
 have d:k=n:=O;subst d;go_wp2;go_ret;refine ⟨aAi (ak ?_).symm,b⟩;have:=o.out;rwa [ai (by rw[q.out];omega)] at this
theorem bKw {n c:Nat}{x:Int}(s:n<=maxLen)(h:RdM w w.heap.size A n c ms) :
  Calls prog 21 #[.slice A n c,.int .i64 x] w (BoolBelow (obsM ms x) w):=by
 unfold maxLen at s;have o:=hid h.len;go_enter Tryz.func21,Tryz.ntmps21;go_wp2;go_loopw[5] (fun i wr=>∃k:Nat,k<=n/\i=.int .i64 k/\Below w.heap.size w wr/\Hid (obsM (ms.take k) x=false)) (fun i _=>n-(intOf i).toNat)
 case atStart=>exact ⟨0,al _,rfl,Below.refl _ _,by rw[bi];rfl⟩
 obtain ⟨k,t,rfl,a,j⟩:=hrel;by_cases g:k<n
 ·obtain ⟨v,y,u,rfl,f,l,m,d,r⟩:=h.get g
  replace d:=(a.cell f).trans d;clear r;have p:=hid l;clear l;by_cases b:u.old=x
  ·have q:=hid m
   clear m;rw[b] at d;go_wp2;go_ret;exact ⟨aAi (bFe.2 ⟨u,q.out,b⟩).symm,a⟩
  obtain ⟨z,_⟩:=aEs b;go_wp2;go_roundw
  case rel=>
   refine ⟨k+1,O,by go_num,a,?_⟩;show obsM (ms.take (k+1)) x=false;rw[aB,p.out,cZ,aSo,j.out,ak b];rfl
  simp[intOf];omega
 have e:k=n:=O;subst e;go_wp2;go_ret;refine ⟨aAi ?_,a⟩;have:=j.out;rw[ai (by rw[o.out];omega)] at this;exact this.symm
theorem aXh(o:Int)(v:Value)(x:Int)(g:Nat)(w:World)(c:w.cell? ⟨g,0,none⟩=some (.int .i64 x))(b:g<w.heap.size) :
  Calls prog 78 #[.agg #[.int .i64 o,v],.pointer (some ⟨g,0,none⟩)] w (BoolBelow (decide (o=x)) w):=by
 have d:(w.alloc (.cells #[.int .i64 o,v] 43)).cell? ⟨g,0,none⟩=some (.int .i64 x):=by rw[((Below.refl w.heap.size w).alloc (aa _) _).cell (p:=⟨g,0,none⟩) b];exact c
 have a:Below w.heap.size w (w.alloc (.cells #[.int .i64 o,v] 43)):=(Below.refl _ _).alloc (aa _) _;go_enter Tryz.func78,Tryz.ntmps78;go_wp2;go_ret;refine ⟨aAi ?_,a⟩;by_cases h:o=x<;>simp[h]
theorem bDp {n c:Nat}{x:Int}(C:n<=maxLen)(h:RdM w w.heap.size A n c ms)(D:w.cell? ⟨g,0,none⟩=some (.int .i64 x))(j:g<w.heap.size) :
  Calls prog 108 #[.slice A n c,.func (.func 78) #[] #[.pointer (some ⟨g,0,none⟩)]] w fun e w'=>∃r:Int,e=.returned (.int .i64 r)/\decide (0<=r)=obsM ms x/\Below w.heap.size w w':=by
 unfold maxLen at C;have y:=hid h.len;go_enter Tryz.func108,Tryz.ntmps108;go_wp2;go_loopw[5,8] (fun _ i wr=>∃k:Nat,k<=n/\i=.int .i64 k/\Below w.heap.size w wr/\Hid (obsM (ms.take k) x=false)) (fun _ i _=>n-(intOf i).toNat)
 case atStart=>exact ⟨0,al _,rfl,Below.refl _ _,by rw[bi];rfl⟩
 obtain ⟨k,E,rfl,b,t⟩:=hrel;by_cases o:k<n
 ·obtain ⟨F,G,u,rfl,f,v,B,q,s⟩:=h.get o
  replace q:=(b.cell f).trans q;replace s:=(b.cell f).trans s;have z:=hid v;clear v;have a:=aXh u.old (.slice u.A u.new.length u.c) x g wr ((b.cell (p:=⟨g,0,none⟩) j).trans D) (ag j b.size)
  cases l:decide (u.old=x) with
  | true=>
   rw[l] at a;go_wp2_with (go_at_call 78;refine a.mono ?_;rintro e w' ⟨rfl,d⟩);go_ret;refine ⟨_,rfl,?_,b.trans (d.mono b.size)⟩;rw[bFe.2 ⟨u,B,aP l⟩,aq O]
  | false=>
   rw[l] at a;go_wp2_with (go_at_call 78;refine a.mono ?_;rintro e w' ⟨rfl,d⟩);go_roundw
   case rel=>
    refine ⟨k+1,O,by go_num,b.trans (d.mono b.size),?_⟩;show obsM (ms.take (k+1)) x=false;rw[aB,z.out,cZ,aSo,t.out,l];rfl
   simp[intOf];omega
 have m:k=n:=O;subst m;go_wp2;go_ret;refine ⟨_,rfl,?_,b⟩;have:=t.out;rw[ai (by rw[y.out];omega)] at this;rw[this];decide
theorem aYu {n c:Nat}{x:Int}(f:n<=maxLen)(h:RdM w w.heap.size A n c ms)(i:w.cell? ⟨g,0,none⟩=some (.int .i64 x))(b:g<w.heap.size) :
  Calls prog 77 #[.slice A n c,.func (.func 78) #[] #[.pointer (some ⟨g,0,none⟩)]] w (BoolBelow (obsM ms x) w):=by
 go_enter Tryz.func77,Tryz.ntmps77;go_wp2_with (go_at_call 108;refine (bDp f h i b).mono ?_;rintro e w' ⟨r,rfl,d,a⟩);go_ret;exact ⟨aAi (by rw[<-d]),a⟩
theorem aVq {n c:Nat}{x:Int}(i:n<=maxLen)(h:RdM w w.heap.size A n c ms) :
  Calls prog 36 #[.slice A n c,.int .i64 x] w (BoolBelow (obsM ms x) w):=by
 have a:Below w.heap.size w (w.alloc (.cells #[.int .i64 x] 3)):=(Below.refl _ _).alloc (aa _) _;have f:=h.to a a.size;have g:(w.alloc (.cells #[.int .i64 x] 3)).cell? ⟨w.heap.size,0,none⟩=some (.int .i64 x):=(bd _ _ _ _ _ _ (au _ _)).trans rfl;have b:w.heap.size<(w.alloc (.cells #[.int .i64 x] 3)).heap.size:=by simp
 go_enter Tryz.func36,Tryz.ntmps36;go_wp2_with (go_at_call 77;refine (aYu i f g b).mono ?_;rintro e w' ⟨rfl,d⟩);go_ret;exact ⟨rfl,a.trans (d.mono a.size)⟩
def badI (o n x:Int):Bool:=decide (x<=o) || decide (n<=x)
theorem aRr(o n x:Int)(g k:Nat)(w:World)(a:w.cell? ⟨g,0,none⟩=some (.int .i64 o))(b:w.cell? ⟨k,0,none⟩=some (.int .i64 n)) :
  Calls prog 107 #[.int .i64 x,.pointer (some ⟨g,0,none⟩),.pointer (some ⟨k,0,none⟩)] w fun e w'=>e=.returned (.bool (badI o n x))/\w'=w:=by
 go_enter Tryz.func107,Tryz.ntmps107;go_wp2
 all_goals (go_ret;refine ⟨aAi ?_,rfl⟩;simp_all [badI])
theorem aVh {c:Nat}{l:List Int}{o n:Int}{k:Nat}(E:m<=maxLen)(h:Rd w w.heap.size 1 A m c (l.map (.int .i64)))(F:w.cell? ⟨g,0,none⟩=some (.int .i64 o))(G:w.cell? ⟨k,0,none⟩=some (.int .i64 n))
  (s:g<w.heap.size) (t:k<w.heap.size) :
  Calls prog 128 #[.slice A m c,.func (.func 107) #[] #[.pointer (some ⟨g,0,none⟩),.pointer (some ⟨k,0,none⟩)]] w fun e w'=>∃r:Int,e=.returned (.int .i64 r)/\decide (0<=r)=l.any (badI o n)/\Below w.heap.size w w':=by
 unfold maxLen at E;have C:=hid (show l.length=m by have:=h.len;simpa using this);go_enter j5,jK;go_wp2;go_loopw[5,8] (fun _ i wr=>∃k:Nat,k<=m/\i=.int .i64 k/\Below w.heap.size w wr/\Hid ((l.take k).any (badI o n)=false)) (fun _ i _=>m-(intOf i).toNat)
 case atStart=>exact ⟨0,al _,rfl,Below.refl _ _,by rw[bi];rfl⟩
 obtain ⟨j,D,rfl,b,z⟩:=hrel;by_cases v:j<m
 ·obtain ⟨H,I,u,rfl,q,B,x⟩:=h.int_ v
  replace x:=(b.cell q).trans x;have y:=hid B;clear B;have a:=aRr o n u g k wr ((b.cell (p:=⟨g,0,none⟩) s).trans F) ((b.cell (p:=⟨k,0,none⟩) t).trans G)
  cases d:badI o n u with
  | true=>
   rw[d] at a;go_wp2_with (go_at_call 107;refine a.mono ?_;rintro e w' ⟨rfl,rfl⟩);go_ret;refine ⟨_,rfl,?_,b⟩;rw[bZ.2 ⟨u,aC y.out,d⟩,aq O]
  | false=>
   rw[d] at a;go_wp2_with (go_at_call 107;refine a.mono ?_;rintro e w' ⟨rfl,rfl⟩);go_roundw
   case rel=>
    refine ⟨j+1,O,by go_num,b,?_⟩;show (l.take (j+1)).any (badI o n)=false;rw[aB,y.out,cZ,iU,z.out];simp[d]
   simp[intOf];omega
 have f:j=m:=O;subst f;go_wp2;go_ret;refine ⟨_,rfl,?_,b⟩;have:=z.out;rw[ai (by rw[C.out];omega)] at this;rw[this];decide
theorem aRo {c:Nat}{l:List Int}{o n:Int}{k:Nat}(i:m<=maxLen)(h:Rd w w.heap.size 1 A m c (l.map (.int .i64)))(j:w.cell? ⟨g,0,none⟩=some (.int .i64 o))(p:w.cell? ⟨k,0,none⟩=some (.int .i64 n))
  (b:g<w.heap.size) (d:k<w.heap.size) :
  Calls prog 106 #[.slice A m c,.func (.func 107) #[] #[.pointer (some ⟨g,0,none⟩),.pointer (some ⟨k,0,none⟩)]] w (BoolBelow (l.any (badI o n)) w):=by
 go_enter Tryz.func106,Tryz.ntmps106;go_wp2_with (go_at_call 128;refine (aVh i h j p b d).mono ?_;rintro e w' ⟨r,rfl,f,a⟩);go_ret;exact ⟨aAi (by rw[<-f]),a⟩
theorem aOr(n:Int)(m:MV):okM n m=!(decide (m.old<0) || decide (n<=m.old) || decide (2000<(m.new.length:Int)) || m.new.any (badI m.old n)):=by
 have e:m.new.any (badI m.old n)=!(m.new.all fun x=>decide (m.old<x) && decide (x<n)):=by
  rw[List.all_eq_not_any_not,lM];congr 1;funext x;simp only[badI,Bool.not_and];congr 1
  ·by_cases h:x<=m.old<;>simp[h]<;>omega
  by_cases h:n<=x<;>simp[h]<;>omega
 rw[e];simp only[okM,kw,lM];congr 1;congr 1
 ·congr 1
  ·by_cases h:m.old<0<;>simp[h]<;>omega
  by_cases h:n<=m.old<;>simp[h]<;>omega
 by_cases h:m.new.length<=2000<;>simp[h]<;>omega
theorem aJb {n:Int}{m:MV}(a:m∈ms)(h:okM n m=false):rightM n ms=false:=by
 unfold rightM;rw[dM];exact ⟨m,a,by simp[h]⟩
theorem aYq {n:Int}{m:MV}{k:Nat}(a:ms[k]? = some m)(b:rightM n (ms.take k)=true)(h:okM n m=true):rightM n (ms.take (k+1))=true:=by
 rw[aB,a,cZ,aWw,b,h];rfl
theorem bHz {n c:Nat}{N:Int}(M:n<=maxLen)(h:RdM w w.heap.size A n c ms) :
  Calls prog 76 #[.int .i64 N,.slice A n c] w (BoolBelow (rightM N ms) w):=by
 unfold maxLen at M;have I:=hid h.len;have d:Below w.heap.size w (w.alloc (.cells #[.int .i64 N] 3)):=(Below.refl _ _).alloc (aa _) _;have q:(w.alloc (.cells #[.int .i64 N] 3)).cell? ⟨w.heap.size,0,none⟩=some (.int .i64 N):=(bd _ _ _ _ _ _ (au _ _)).trans rfl;have j:w.heap.size<(w.alloc (.cells #[.int .i64 N] 3)).heap.size:=by simp
 have C:=h.to d d.size;clear h;generalize H:w.alloc (.cells #[.int .i64 N] 3)=W at *;have J:=hid H;clear H;go_enter Tryz.func76,Tryz.ntmps76;go_wp2;rw[J.out];go_loopw[9] (fun i wr=>∃k:Nat,k<=n/\i=.int .i64 k/\Below W.heap.size W wr/\Hid (rightM N (ms.take k)=true)) (fun i _=>n-(intOf i).toNat)
 case atStart=>exact ⟨0,al _,rfl,Below.refl _ _,by rw[bi];rfl⟩
 obtain ⟨k,S,rfl,m,F⟩:=hrel;by_cases B:k<n
 ·obtain ⟨T,U,u,rfl,r,G,s,D,E⟩:=C.get B
  replace D:=(m.cell r).trans D;replace E:=(m.cell r).trans E;have K:=hid G;clear G;have R:=(m.cell (p:=⟨w.heap.size,0,none⟩) j).trans q;obtain ⟨z,L,_,_⟩:=C.parts u s;have b:=m.alloc m.size (.cells #[.int .i64 u.old,.slice u.A u.new.length u.c] 43);have v:=(b.cell (p:=⟨w.heap.size,0,none⟩) j).trans q;have x:(wr.alloc (.cells #[.int .i64 u.old,.slice u.A u.new.length u.c] 43)).cell? ⟨wr.heap.size,0,none⟩=some (.int .i64 u.old):=(bd _ _ _ _ _ _ (au _ _)).trans rfl;have f:=d.trans (b.mono d.size);by_cases O:u.old<0
  ·go_wp2
   go_ret;exact ⟨aAi (aJb s (by rw[aOr];simp[O])).symm,f⟩
  by_cases P:N<=u.old
  ·go_wp2
   go_ret;exact ⟨aAi (aJb s (by rw[aOr];simp[P])).symm,f⟩
  by_cases Q:2000<(u.new.length:Int)
  ·go_wp2
   go_ret;exact ⟨aAi (aJb s (by rw[aOr];simp[Q])).symm,f⟩
  have a:=aRo (o:=u.old) (n:=N) (g:=wr.heap.size) (k:=w.heap.size) (by unfold maxLen;omega) (z.to b b.size) x v (by simp) (ag j b.size)
  cases t:u.new.any (badI u.old N) with
  | true=>
   rw[t] at a;go_wp2_with (go_at_call 106;refine a.mono ?_;rintro e w' ⟨rfl,l⟩);go_ret;exact ⟨aAi (aJb s (by rw[aOr,t];simp)).symm,f.trans (l.mono f.size)⟩
  | false=>
   rw[t] at a;go_wp2_with (go_at_call 106;refine a.mono ?_;rintro e w' ⟨rfl,l⟩);go_roundw
   case rel=>
    refine ⟨k+1,ω,by go_num,b.trans (l.mono b.size),?_⟩;exact aYq K.out F.out (by rw[aOr,t];simp;omega)
   simp[intOf];omega
 have y:k=n:=ω;subst y;go_wp2;go_ret;refine ⟨aAi ?_,d.trans (m.mono d.size)⟩;have:=F.out;rw[ai (by rw[I.out];omega)] at this;exact this.symm
end Go.Proofs.YtohblmepajhpaaaGreatDoor
