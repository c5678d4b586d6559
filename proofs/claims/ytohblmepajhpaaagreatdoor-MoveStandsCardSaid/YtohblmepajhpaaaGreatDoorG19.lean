/- Contracts of functions that the law reaches; plain laws. -/
import Derived.Test.YtohblmepajhpaaaGreatDoorRows
import Derived.ProofKit
import Derived.SizedLaws
import Derived.SliceStrings
import Derived.ChangeArms
import Derived.ChangeSame
import Derived.ChangeOld
import Derived.ChangeSlices
import Derived.Test.YtohblmepajhpaaaGreatDoorG00
import Derived.Test.YtohblmepajhpaaaGreatDoorG01
import Derived.Test.YtohblmepajhpaaaGreatDoorG02
import Derived.Test.YtohblmepajhpaaaGreatDoorG05
import Derived.Test.YtohblmepajhpaaaGreatDoorG18
set_option maxRecDepth 100000
namespace Go.Proofs.YtohblmepajhpaaaGreatDoor
open Go.Proofs.Tryz (prog)
open Go.ChangeShapes Go.WideShapes Go.ChangeAt Go.RowKit
variable {α:Type}{t:TypeId}
theorem T.list_of {P:Nat->α->Prop}:∀{n:Nat},(∀i,i<n->∃a,P i a)->∃l:List α,l.length=n/\∀i a,l[i]? = some a->P i a
 | 0,_=>⟨[],rfl,by simp⟩
 | n+1,h=>by
  obtain ⟨l,d,f⟩:=T.list_of (n:=n) fun i e=>h i O;obtain ⟨a,ha⟩:=h n O;refine ⟨l++[a],by simp[d],fun i x b=>?_⟩;rcases bo i n with e | e
  ·rw[aZ O] at b;exact f i x b
  have c:=(aj.1 b).1;rw[ae,bf] at c;obtain rfl:i=n:=O;rw[a6 O,d,lK] at b;obtain rfl:=fV b;exact ha
theorem T.flat_get {f:α->List Value}{k:Nat}(c:∀a,(f a).length=k)(d:0<k):∀{l:List α} {j:Nat} {u:Value},(l.flatMap f)[j]? = some u->∃a,l[j / k]? = some a/\(f a)[j % k]? = some u
 | [],j,u,h=>by simp at h
 | x::l,j,u,h=>by
  rw[aL] at h;rcases bo j k with b | b
  ·rw[aZ (by rw[c];exact b)] at h
   exact ⟨x,by rw[mD b];rfl,by rw[mF b];exact h⟩
  rw[a6 (by rw[c];exact b),c] at h;obtain ⟨a,e,g⟩:=T.flat_get c d h;refine ⟨a,?_,?_⟩
  ·rw[Nat.div_eq_sub_div d b,bE];exact e
  rw[Nat.mod_eq_sub_mod b];exact g
theorem T.rd_elems {W:World}{a:Addr}{d cap sz:Nat}{f:α->List Value}{es:List α}(m:∀x,(f x).length=sz)(k:0<sz)(s:es.length=d)(l:d<=cap)
  (v:0<d->a.block<W.heap.size) (c:∀i e,es[i]? = some e->∀t u,(f e)[t]? = some u->W.cell? ((a.add (i*sz)).add t)=some u):Rd W W.heap.size sz (some a) d cap (es.flatMap f):=by
 refine ⟨by rw[len_flat m,s],l,fun q=>?_⟩;obtain ⟨b,off,h⟩:=a
 have g:h=none:=by
  have n:=c 0 (es[0]' O) (ac _) 0 ((f (es[0]' O))[0]'(by rw[m];exact k)) (ac _);simpa[Addr.add] using World.cell?_spot n
 subst g;refine ⟨b,off,rfl,v q,fun j u r=>?_⟩;obtain ⟨x,o,p⟩:=T.flat_get m k r;have:=c _ x o _ u p;rw[add_plain,add_plain] at this;rw[show off+j=off+j / sz*sz+j % sz by rw[dI,fO (j / sz) sz,kc]];exact this
section
variable {H:Type} {enc:TypeId×Value->H} {W:World}
theorem T.weights_mem_all {P:Program}{e:TypeId}:∀{b:List (DataW H)} {d:DataW H},d∈b->∀n∈d.weights P e,n∈DataW.weightsAll P e b
 | d0::b,d,a,n,hn=>by
  simp only[DataW.weightsAll,aQ];rcases ax.1 a with rfl | a
  ·exact .inl hn
  exact .inr (T.weights_mem_all a n hn)
 | [],_,a,_,_=>by cases a
def Opens (enc:TypeId×Value->H)(W:World)(t:TypeId)(E:List Value->Prop):Prop:=
 ∀fuel cs x,DataW.trod enc prog W 0 (fun _=>true) true fuel t cs=some x->(∀n∈DataW.weights prog t x.1,n<=reachBytes)->E cs
theorem Opens.mono {E b:List Value->Prop}(h:Opens enc W t E)(e:∀cs,E cs->b cs):Opens enc W t b:=fun a cs x c d=>e _ (h a cs x c d)
theorem aGs(e:prog.underlying t=some (.int .i64)):Opens enc W t fun cs=>∃k:Int,cs=[.int .i64 k]/\-9223372036854775808<=k/\k<=9223372036854775807:=by
 intro b cs x h _;obtain ⟨k,rfl,_,a⟩:=DataW.trod_int e h;simp only[Lit.wf,ay,bh] at a;have c:IntKind.i64.min=-9223372036854775808:=by decide
 have d:IntKind.i64.max=9223372036854775807:=by decide
 rw[c,d] at a;exact ⟨k,rfl,a⟩
theorem bDt(c:prog.underlying t=some .bool):Opens enc W t fun cs=>∃b:Bool,cs=[.bool b]:=by
 intro a cs x h _;obtain ⟨b,rfl,_⟩:=DataW.trod_bool c h;exact ⟨b,rfl⟩
theorem aOj(d:prog.underlying t=some .string):Opens enc W t fun cs=>∃s:ByteArray,cs=[.string s]/\s.size<=140737488351232:=by
 intro a cs x h c;obtain ⟨s,rfl,rfl,_⟩:=DataW.trod_string d h;have b:=c s.data.toList.length (by simp[DataW.weights]);have e:s.data.toList.length=s.size:=rfl;simp only[reachBytes] at b;exact ⟨s,rfl,O⟩
theorem aGl {b:Array Field}{E:Nat->List Value->Prop}(k:prog.underlying t=some (.struct b))(s:∀(i:Nat)(f:Field),b[i]? = some f->Opens enc W f.type (E i)) :
  Opens enc W t fun cs=>cs.length=prog.cellsOf t/\∀(i:Nat) (f:Field),b[i]? = some f->E i ((cs.drop f.offset).take (prog.cellsOf f.type)):=by
 intro e cs x h o;obtain ⟨xs,n,rfl,rfl,p,g,q⟩:=DataW.trod_struct k h;refine ⟨p,fun i f a=>?_⟩;have l:i<b.size:=(aU.1 a).1;have c:=q i f a;rw[ac (by omega:i<xs.length)] at c;refine s i f a _ _ _ c fun m r=>o m ?_;simp only[DataW.weights,k];refine ka (j:=i) (t:=f.type) (d:=xs[i].1) ?_ ?_ m r
 ·simp[a]
 rw[aG,ac (by omega:i<xs.length)];rfl
theorem aFm {f:α->List Value}{Q:α->Prop}{e:TypeId}{sz bytes:Nat}(v:prog.underlying t=some (.slice e))(N:prog.cellsOf e=sz)(O:prog.bytesOf e=bytes)(G:∀a,(f a).length=sz)(C:0<sz)
  (P:Opens enc W e fun cs=>∃a,cs=f a/\Q a) :
  Opens enc W t fun cs=>∃(A:Option Addr) (n c:Nat) (es:List α),cs=[.slice A n c]/\es.length=n/\Rd W W.heap.size sz A n c (es.flatMap f)/\(∀a∈es,Q a)/\n*bytes<=140737488351232:=by
 intro E cs x h w;rcases DataW.trod_slice v h with ⟨rfl,_⟩ | ⟨a,d,cap,b,rest,n,_,rfl,rfl,_,J,_,r,s,_,_⟩
 ·exact ⟨none,0,0,[],rfl,rfl,Rd.none_ _ _ _,by simp,ω⟩
 rw[N] at s;simp only[DataW.weights,v,O,ax,aQ] at w
 have g:d*bytes<=140737488351232:=by
  have:=w _ (.inl rfl);simp only[az,r,reachBytes] at this;have R:d*bytes<=(d+rest.length)*bytes:=cd _ ω;omega
 have k:∀i,i<d->∃e:α,((∀t u,(f e)[t]? = some u->W.cell? ((a.add (i*sz)).add t)=some u)/\(a.add (i*sz)).block<W.heap.size)/\Q e:=by
  intro i y;have D:=s i y;have l:=fw (by omega:i<b.length);rw[ac (by omega:i<b.length),jQ] at D;obtain ⟨cs,o,z⟩:=D;obtain ⟨_,H,j⟩:=World.cells?_some o;have m:=World.cells?_block o C;obtain ⟨q,rfl,I⟩:=P _ _ _ z fun n K=>w n (.inr (.inl (T.weights_mem_all (ce.2 ⟨_,l,rfl⟩) n K)));refine ⟨q,⟨fun t u F=>?_,m⟩,I⟩;have v:t<sz:=by rw[<-G q];exact (aj.1 F).1
  rw[j t v];exact F
 obtain ⟨es,p,B⟩:=T.list_of k;refine ⟨_,_,_,es,rfl,p,T.rd_elems G C p J (fun C=>?_) (fun i e L=>(B i e L).1.1),fun x M=>?_,g⟩
 ·have:=(B 0 (es[0]' ω) (ac _)).1.2
  rwa [bHx] at this
 obtain ⟨i,y,rfl⟩:=bn M;exact (B i _ (ac y)).2
theorem aMn {E:List Value->Prop}(O:Opens enc W t E){c:List TypeId}{e:List (DataW H)}{v:Value}{d:DataW H}{ps:List MemPlace}{j:Nat}
  (b:(DataW.weightsEach prog c e).all (·<=reachBytes)=true) (i:c[j]? = some t) (k:e[j]? = some d) (h:DataW.Trod enc prog W 0 (fun _=>true) true t v d ps):E v.cells.toList:=by
 obtain ⟨a,f⟩:=h;refine O a _ _ f fun n g=>?_;have:=bF.1 b _ (ka i k n g);simpa using this
end
section
variable {H:Type} {enc:TypeId×Value->H} {W:World}
def FileCells (cs:List Value):Prop:=∃f:FV,cs=f.cells/\f.path.size<=140737488351232/\f.text.size<=140737488351232
theorem bBh:Opens enc W 48 FileCells:=by
 refine (aGl (E:=fun i=>match i with | 0=>fun cs=>∃s:ByteArray,cs=[.string s]/\s.size<=140737488351232 | 1=>fun cs=>∃b:Bool,cs=[.bool b] | _=>fun cs=>∃s:ByteArray,cs=[.string s]/\s.size<=140737488351232) dx ?_).mono ?_
 ·intro i f d
  rcases i with _ | _ | _ | i<;>simp at d
  ·subst d;exact aOj bG
  ·subst d;exact bDt cg
  subst d;exact aOj bG
 rintro cs ⟨l,h⟩;have e:cs.length=3:=l
 match cs,e with
 | [a,b,c],_=>
  obtain ⟨p,m,n⟩:=h 0 _ rfl;obtain ⟨x,o⟩:=h 1 _ rfl;obtain ⟨t,q,r⟩:=h 2 _ rfl;have g:[a]=[Value.string p]:=m;have j:[b]=[Value.bool x]:=o;have k:[c]=[Value.string t]:=q
  cases g
  cases j
  cases k
  exact ⟨⟨p,x,t⟩,rfl,n,r⟩
def FilesCells (W:World)(cs:List Value):Prop:=∃(A:Option Addr) (c:Nat) (l:List FV),cs=[.slice A l.length c]/\RdF W W.heap.size A l.length c l/\l.length<=17592186044416
theorem aWj:Opens enc W 29 (FilesCells W):=by
 refine (aFm (f:=FV.cells) (Q:=fun f=>f.path.size<=140737488351232/\f.text.size<=140737488351232) iy T (bytes:=40) T FV.cells_len O (bBh.mono ?_)).mono ?_
 ·rintro cs ⟨f,a,b,d⟩;exact ⟨f,a,b,d⟩
 rintro cs ⟨A,n,c,es,rfl,rfl,e,g,h⟩;exact ⟨A,c,es,rfl,⟨e,rfl,g⟩,O⟩
end
theorem aTf {H:Type}{enc:TypeId×Value->H}{P:Program}{w:World}{base:Nat}{a:Nat->Bool}{b:Bool}{s t u v:TypeId}{args:Array Value}{x:List (DataW H)}{ps:List MemPlace}
  (h:DataW.TrodAll enc P w base a b [s,t,u,v] args.toList x ps) :
  ∃d i l n f j d2 o g k m p,args=#[d,i,l,n]/\x=[f,j,d2,o]/\ps=g++(k++(m++p))/\
   DataW.Trod enc P w base a b s d f g/\DataW.Trod enc P w base a b t i j k/\DataW.Trod enc P w base a b u l d2 m/\DataW.Trod enc P w base a b v n o p:=by
 obtain ⟨d,r,f,c,g,q,e,rfl,rfl,y,h⟩:=trodAll_cons h;obtain ⟨i,r,j,c,k,q,rfl,rfl,rfl,z,h⟩:=trodAll_cons h;obtain ⟨l,r,d2,c,m,q,rfl,rfl,rfl,A,h⟩:=trodAll_cons h;obtain ⟨n,r,o,c,p,q,rfl,rfl,rfl,B,h⟩:=trodAll_cons h;obtain ⟨rfl,rfl,rfl⟩:=trodAll_nil h;exact ⟨d,i,l,n,f,j,d2,o,g,k,m,p,Array.ext' e,rfl,by simp,y,z,A,B⟩
section
variable {H:Type} {enc:TypeId×Value->H} {W:World}
theorem bJz(l:List Int):(l.flatMap fun x=>[Value.int .i64 x])=l.map (.int .i64):=by
 induction l with
 | nil=>rfl
 | cons x l ih=>rw[aL,ih];rfl
theorem bBj:Opens enc W 36 fun cs=>∃(A:Option Addr) (c:Nat) (l:List Int),cs=[.slice A l.length c]/\Rd W W.heap.size 1 A l.length c (l.map (.int .i64))/\l.length<=17592186044416/\∀x∈l,I64 x:=by
 refine (aFm (sz:=1) (f:=fun x:Int=>[Value.int .i64 x]) (Q:=I64) iz T (bytes:=8) T (fun _=>rfl) O ((aGs bw).mono ?_)).mono ?_
 ·rintro cs ⟨x,b,d⟩;exact ⟨x,b,d⟩
 rintro cs ⟨A,n,c,es,rfl,rfl,a,e,g⟩;exact ⟨A,c,es,rfl,by rw[bJz] at a;exact a,O,e⟩
theorem bBl:Opens enc W 40 fun cs=>∃f:FLV,cs=f.cells/\RdF W W.heap.size f.A f.files.length f.c f.files/\f.files.length<=17592186044416/\I64 f.parent/\f.msg.size<=140737488351232:=by
 refine (aGl (E:=fun i=>match i with | 0=>fun cs=>∃k:Int,cs=[.int .i64 k]/\-9223372036854775808<=k/\k<=9223372036854775807 | 1=>fun cs=>∃s:ByteArray,cs=[.string s]/\s.size<=140737488351232 | _=>FilesCells W) Tryz.underlying40 ?_).mono ?_
 ·intro i f b
  rcases i with _ | _ | _ | i<;>simp at b
  ·subst b;exact aGs bw
  ·subst b;exact aOj bG
  subst b;exact aWj
 rintro cs ⟨m,h⟩;have d:cs.length=3:=m
 match cs,d with
 | [c0,c1,c2],_=>
  obtain ⟨a,n,o⟩:=h 0 _ rfl;obtain ⟨s,p,q⟩:=h 1 _ rfl;obtain ⟨A,c,l,r,t,u⟩:=h 2 _ rfl;have e:[c0]=[Value.int .i64 a]:=n;have g:[c1]=[Value.string s]:=p;have j:[c2]=[Value.slice A l.length c]:=r
  cases e
  cases g
  cases j
  exact ⟨⟨a,s,A,c,l⟩,rfl,t,u,o,q⟩
theorem aYw:Opens enc W 22 fun cs=>∃(A:Option Addr) (c:Nat) (l:List FLV),cs=[.slice A l.length c]/\RdFl W W.heap.size A l.length c l/\l.length<=17592186044416:=by
 refine (aFm (f:=FLV.cells) (Q:=fun f=>RdF W W.heap.size f.A f.files.length f.c f.files/\f.files.length<=17592186044416/\I64 f.parent/\f.msg.size<=140737488351232) jE T (bytes:=48) T FLV.cells_len O (bBl.mono ?_)).mono ?_
 ·rintro cs ⟨f,h⟩;exact ⟨f,h⟩
 rintro cs ⟨A,n,c,es,rfl,rfl,a,b,d⟩;exact ⟨A,c,es,rfl,⟨a,rfl,b⟩,O⟩
theorem aUv:Opens enc W 43 fun cs=>∃m:MV,cs=m.cells/\Rd W W.heap.size 1 m.A m.new.length m.c (m.new.map (.int .i64))/\m.new.length<=17592186044416/\I64 m.old/\∀x∈m.new,I64 x:=by
 refine (aGl (E:=fun i=>match i with | 0=>fun cs=>∃k:Int,cs=[.int .i64 k]/\-9223372036854775808<=k/\k<=9223372036854775807 | _=>fun cs=>∃(A:Option Addr) (c:Nat) (l:List Int),cs=[.slice A l.length c]/\Rd W W.heap.size 1 A l.length c (l.map (.int .i64))/\l.length<=17592186044416/\∀x∈l,I64 x) Tryz.underlying43 ?_).mono ?_
 ·intro i f d
  rcases i with _ | _ | i<;>simp at d
  ·subst d;exact aGs bw
  subst d;exact bBj
 rintro cs ⟨j,h⟩;have b:cs.length=2:=j
 match cs,b with
 | [c0,c1],_=>
  obtain ⟨a,n,o⟩:=h 0 _ rfl;obtain ⟨A,c,l,p,q,r,s⟩:=h 1 _ rfl;have e:[c0]=[Value.int .i64 a]:=n;have g:[c1]=[Value.slice A l.length c]:=p
  cases e
  cases g
  exact ⟨⟨a,A,c,l⟩,rfl,q,r,o,s⟩
theorem aSf:Opens enc W 23 fun cs=>∃(A:Option Addr) (c:Nat) (l:List MV),cs=[.slice A l.length c]/\RdM W W.heap.size A l.length c l/\l.length<=17592186044416:=by
 refine (aFm (f:=MV.cells) (Q:=fun m=>Rd W W.heap.size 1 m.A m.new.length m.c (m.new.map (.int .i64))/\m.new.length<=17592186044416/\I64 m.old/\∀x∈m.new,I64 x) jF T (bytes:=32) T MV.cells_len O (aUv.mono ?_)).mono ?_
 ·rintro cs ⟨f,h⟩;exact ⟨f,h⟩
 rintro cs ⟨A,n,c,es,rfl,rfl,a,b,d⟩;exact ⟨A,c,es,rfl,⟨a,rfl,b⟩,O⟩
end
end Go.Proofs.YtohblmepajhpaaaGreatDoor
