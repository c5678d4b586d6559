/- Contracts of functions that the law reaches; plain laws. -/
import Derived.Test.YtohblmepajhpaaaGreatDoorG03
import Derived.Test.YtohblmepajhpaaaGreatDoorG09
set_option maxHeartbeats 8000000
set_option maxRecDepth 100000
open Go.Lib (hid)
namespace Go.Proofs.YtohblmepajhpaaaGreatDoor
open Go.Proofs.Tryz (prog)
open Go.RowKit Go.ChangeMaps Go.MapKept
variable {es:Array MapEntry}{j k b n v B s u a m g i c cap:Nat}{q:Bool}{t ty:TypeId}{w w':World}{D:DataW Value}{F:ByteArray->Option ByteArray}{S:World->Prop}{fs mv:Value}{base side l:List FV}{L:List (Nat×Nat)}{K:Act->World->Prop}{dst:Option Tmp}{A:Option Addr}{cs:List CL}
theorem aPd {a:Nat}{e:MapEntry}(h:∀x∈es.toList,x.born<a)(c:e.born=a):(es.push e).findIdx? (fun x=>(x.born:Int) == (a:Int))=some es.size:=by
 rw[Array.findIdx?_push]
 have:es.findIdx? (fun x=>(x.born:Int) == (a:Int))=none:=by
  rw[Array.findIdx?_eq_none_iff];intro x b;have:=h x (by simpa using b);simp;omega
 rw[this];simp[c]
theorem aTd {q:Nat}{e:MapEntry}(d:es[j]? = some e)(f:e.born=q)(g:(es.toList.map (·.born)).Nodup):es.findIdx? (fun x=>(x.born:Int) == (q:Int))=some j:=by
 subst f;obtain ⟨a,rfl⟩:=aU.1 d;rw[Array.findIdx?_eq_some_iff_getElem];refine ⟨a,by simp,fun i c=>?_⟩;have b:i<es.size:=O;have:=bU.1 (jn.1 g) i j (by simpa using b) (by simpa using a) c;simp at this ⊢;omega
theorem aLy(es:Array MapEntry)(e:MapEntry)(f:MapEntry->MapEntry):(es.push e).modify es.size f=es.push (f e):=by
 apply lA;intro i;rw[dl,kJ,kJ];by_cases h:es.size=i
 ·subst h;simp
 rw[ah h,ah (fun q=>h q.symm),ah (fun q=>h q.symm)]
theorem aTl(es:Array MapEntry)(j:Nat)(f g:MapEntry->MapEntry):(es.modify j f).modify j g=es.modify j fun e=>g (f e):=by
 apply lA;intro i;rw[dl,dl,dl];by_cases h:j=i
 ·rw[ao h,ao h,ao h];cases es[i]?<;>rfl
 rw[ah h,ah h,ah h]
theorem aLo {P:Program}{k e:TypeId}{R:Value->Option (DataW Value×List MemPlace)}(h:w.ownsMap P k R b n D)(K:Maps.Keyed P k)(p:P.underlying t=some (.map k e)){z:Value}(M:∀w,(zeroValue e).run P w=.ok z w)(N:n<maxLen)
  {key val:Value} {J:Lit} {d:DataW Value} {ps:List MemPlace} (c:keyOf P k key=some J) (O:R val=some (d,ps)) :
  ∃B w' L l,(Instr.mapEntry t (.map (some b)) key).run P w=.ok (.tuple #[L,l]) B/\(Instr.entryStore t (.map (some b)) l val).run P B=.ok () w'/\w'.ownsMap P k R b (n+1) (D.put J d)/\w.grownBy w' (some b)/\w.grownBy B (some b):=by
 obtain ⟨w',C,E,G⟩:=h.update K p N c O;obtain ⟨es,a,f,F,Q,rfl⟩:=h;rcases K.find w c es.toList F.keys with ⟨m,H⟩ | ⟨j,o,m,H,I⟩
 ·have r:w'=setBlock w b (.map (es.push ⟨key,val,a⟩) (a+1)):=by
   have:=C;simp[Instr.mapUpdate,bK p,dR f,K.check w false c,m,dS _ f,Result.andThen] at this;rw[<-this];rfl
  refine ⟨setBlock w b (.map (es.push ⟨key,z,a⟩) (a+1)),w',z,goInt a,?_,?_,E,G,?_⟩
  ·simp[Instr.mapEntry,bK p,dR f,K.check w false c,m,M,dS _ f,Result.andThen,setBlock]
  ·have g:=heap_setBlock_same f (.map (es.push ⟨key,z,a⟩) (a+1))
   have s:=aPd (e:=⟨key,z,a⟩) F.stamped.1 rfl;rw[r];simp[Instr.entryStore,dR g,asInt,asIntOf,goInt,s,dS _ g,Result.andThen];simp[setBlock,aLy]
  exact ⟨rfl,rfl,rfl,by simp[setBlock],fun i _ A=>heap_setBlock_other f _ (fun e=>A (by rw[e]))⟩
 have u:es[j]? = some o:=by simpa using H
 have r:w'=setBlock w b (.map (es.modify j fun e=>{ e with key:=key,val:=val }) a):=by
  have:=C;simp[Instr.mapUpdate,bK p,dR f,K.check w false c,m,u,I,K.stays w c,dS _ f,Result.andThen] at this;rw[<-this];rfl
 refine ⟨setBlock w b (.map (es.modify j fun e=>{ e with key:=key }) a),w',o.val,goInt o.born,?_,?_,E,G,?_⟩
 ·simp[Instr.mapEntry,bK p,dR f,K.check w false c,m,u,I,K.stays w c,dS _ f,Result.andThen,setBlock]
 ·have g:=heap_setBlock_same f (.map (es.modify j fun e=>{ e with key:=key }) a)
  have s:(es.modify j fun e=>{ e with key:=key }).findIdx? (fun x=>(x.born:Int) == (o.born:Int))=some j:=by
   have v:(es.modify j fun e=>{ e with key:=key })[j]? = some { o with key:=key }:=by rw[dl,ao rfl,u];rfl
   have y:((es.modify j fun e=>{ e with key:=key }).toList.map (·.born)).Nodup:=by
    have:(es.modify j fun e=>{ e with key:=key }).toList.map (·.born)=es.toList.map (·.born):=by
     refine bM fun i=>?_;rw[aG,aG,gn,gn,dl];by_cases q:j=i
     ·rw[ao q];cases es[i]?<;>rfl
     rw[ah q]
    rw[this];exact F.stamped.2.1
   exact aTd v rfl y
  rw[r];simp[Instr.entryStore,dR g,asInt,asIntOf,goInt,s,dS _ g,Result.andThen];simp[setBlock,aTl]
 exact ⟨rfl,rfl,rfl,by simp[setBlock],fun i _ A=>heap_setBlock_other f _ (fun e=>A (by rw[e]))⟩
open Go.RowKit
theorem wideT:(match prog.underlying 216 with | some (.array _ _) | some (.struct _)=>true | _=>false)=true:=T
theorem KT:Maps.Keyed prog 216:=gw (iL T.laidOut (m:=2) O (aP κ) κ wideT)
theorem bIo:prog.keyType 216=true:=T
theorem cellsT:prog.cellsOf 216=1:=T
theorem keyT {x:ByteArray}(h:x.size<=maxLen):keyOf prog 216 (.agg #[.string x])=some (klP x):=
 bFz Tryz.underlying216 rfl rfl rfl cellsT aWb bG bIo T.types_pos h
structure MpT (w:World) (b n:Nat) (D:DataW Value) (F:ByteArray->Option ByteArray):Prop where
 own:w.ownsMap prog 216 Rv b n D
 at_:∀q:ByteArray,q.size<=maxLen->D.atKey (klP q) (.held (.string ⟨#[]⟩))=.held (.string ((F q).getD ⟨#[]⟩))
 has:∀q:ByteArray,q.size<=maxLen->Maps.has D (klP q)=(F q).isSome
theorem MpT.start(w:World):MpT (w.alloc (.map #[] 0)) w.heap.size 0 (.map []) (fun _=>none):=
 ⟨dB _ _ _ _,fun _x _=>rfl,fun _x _=>rfl⟩
theorem MpT.put {F':ByteArray->Option ByteArray}{k v:ByteArray}(h:MpT w b n D F)(d:k.size<=maxLen)
  (c:w'.ownsMap prog 216 Rv b (n+1) (D.put (klP k) (.held (.string v)))) (f:∀x,F' x=if x=k then some v else F x) :
  MpT w' b (n+1) (D.put (klP k) (.held (.string v))) F':=by
 refine ⟨c,fun x a=>?_,fun x a=>?_⟩
 ·by_cases e:x=k
  ·subst e
   rw[dw h.own.isMap (aJy d),f,ao rfl];rfl
  rw[dp (aQf a d e),h.at_ x a,f,ah e]
 by_cases e:x=k
 ·subst e
  rw[dQ h.own.isMap (aJy d),f,ao rfl];rfl
 rw[dC (aQf a d e),h.has x a,f,ah e]
theorem MpT.kept {row:Option Nat}(h:MpT w b n D F)(c:w.grownBy w' row)(a:some b≠row):MpT w' b n D F:=
 ⟨h.own.kept c a,h.at_,h.has⟩
theorem MpT.below(h:MpT w b n D F)(a:Below w.heap.size w w'):MpT w' b n D F:=
 h.kept (row:=none) ⟨a.os,a.tape,a.output,a.size,fun k c _=>a.block k c⟩ (by simp)
theorem MpT.look(h:MpT w b n D F){x:ByteArray}(c:x.size<=maxLen) :
  (Instr.lookup 211 (.map (some b)) (.agg #[.string x]) true).run prog w=.ok (.tuple #[.string ((F x).getD ⟨#[]⟩),.bool (F x).isSome]) w:=by
 obtain ⟨v,ps,a,d⟩:=h.own.look_ok KT lB (cO w) (show Rv (.string ⟨#[]⟩)=some (.held (.string ⟨#[]⟩),[]) from rfl) (keyT c);rw[h.at_ x c] at d;rw[h.has x c] at a
 have:v=.string ((F x).getD ⟨#[]⟩):=by
  have e:(DataW.held v:DataW Value)=.held (.string ((F x).getD ⟨#[]⟩)):=by
   have:=d;simp only[Rv,dy,fY] at this;exact this.1
  exact aHf e
 rw[this] at a;exact a
structure SetT (w:World) (b n:Nat) (D:DataW Value) (S:Bs->Bool):Prop where
 own:w.ownsMap prog 216 (plainElem prog 4) b n D
 at_:∀q:ByteArray,q.size<=maxLen->D.atKey (klP q) (.lit (.bool false))=.lit (.bool (S q.data.toList))
 has:∀q:ByteArray,q.size<=maxLen->Maps.has D (klP q)=S q.data.toList
theorem SetT.start(w:World):SetT (w.alloc (.map #[] 0)) w.heap.size 0 (.map []) (fun _=>false):=
 ⟨dB _ _ _ _,fun x _=>by simp[DataW.atKey],fun x _=>rfl⟩
theorem SetT.put {S i:Bs->Bool}{k:ByteArray}(h:SetT w b n D S)(d:k.size<=maxLen)
  (c:w'.ownsMap prog 216 (plainElem prog 4) b (n+1) (D.put (klP k) (.lit (.bool true)))) (f:∀x,i x=(S x || decide (k.data.toList=x))) :
  SetT w' b (n+1) (D.put (klP k) (.lit (.bool true))) i:=by
 refine ⟨c,fun x a=>?_,fun x a=>?_⟩
 ·by_cases e:x=k
  ·subst e
   rw[dw h.own.isMap (aJy d),f,aq rfl,i7]
  rw[dp (aQf a d e),h.at_ x a,f,ak (fun g=>e (aCi g.symm)),fX]
 by_cases e:x=k
 ·subst e
  rw[dQ h.own.isMap (aJy d),f,aq rfl,i7]
 rw[dC (aQf a d e),h.has x a,f,ak (fun g=>e (aCi g.symm)),fX]
theorem SetT.kept {S:Bs->Bool}{row:Option Nat}(h:SetT w b n D S)(c:w.grownBy w' row)(a:some b≠row):SetT w' b n D S:=
 ⟨h.own.kept c a,h.at_,h.has⟩
theorem SetT.below {S:Bs->Bool}(h:SetT w b n D S)(a:Below w.heap.size w w'):SetT w' b n D S:=
 h.kept (row:=none) ⟨a.os,a.tape,a.output,a.size,fun k c _=>a.block k c⟩ (by simp)
theorem SetT.look {S:Bs->Bool}(h:SetT w b n D S){x:ByteArray}(d:x.size<=maxLen) :
  (Instr.lookup 212 (.map (some b)) (.agg #[.string x]) false).run prog w=.ok (.bool (S x.data.toList)) w:=by
 obtain ⟨v,ps,a,c⟩:=h.own.lookup KT lC (ci w) (boolT false) (keyT d);rw[h.at_ x d] at c;rw[aUf c] at a;exact a
def sendL (base side:List FV)(L:List (Nat×Nat))(q:ByteArray):Option ByteArray:=L.foldl (fun r p=>if q=pathAt base p.1 then some (pathAt side p.2) else r) none
def takenL (side:List FV)(L:List (Nat×Nat))(q:Bs):Bool:=L.any fun p=>decide ((pathAt side p.2).data.toList=q)
theorem bCp(base side:List FV)(L:List (Nat×Nat))(p:Nat×Nat)(q:ByteArray):sendL base side (L++[p]) q=if q=pathAt base p.1 then some (pathAt side p.2) else sendL base side L q:=by
 unfold sendL;rw[cJ];rfl
theorem aWo(side:List FV)(L:List (Nat×Nat))(p:Nat×Nat)(q:Bs):takenL side (L++[p]) q=(takenL side L q || decide ((pathAt side p.2).data.toList=q)):=by
 unfold takenL;rw[iU];simp
structure SideIs (w:World) (B s:Nat) (fs:Value) (base side:List FV) (L:List (Nat×Nat)):Prop where
 ex:∃m1 m2 n1 n2 D1 D2,w.heap[s]? = some (.cells #[fs,.map (some m1),.map (some m2)] 214 (0,0))/\MpT w m1 n1 D1 (sendL base side L)/\SetT w m2 n2 D2 (takenL side L)/\n1<=L.length/\n2<=L.length/\B<=m1/\B<=m2/\m1≠m2
 lo:B<=s
theorem SideIs.below(h:SideIs w B s fs base side L)(a:Below w.heap.size w w'):SideIs w' B s fs base side L:=by
 obtain ⟨⟨c,d,e,f,g,i,b,j,k,l⟩,m⟩:=h;exact ⟨⟨c,d,e,f,g,i,(a.block s (aAa b)).trans b,j.below a,k.below a,l⟩,m⟩
theorem SideIs.start(w:World)(fs:Value)(base side:List FV) :
  SideIs (((w.alloc (.map #[] 0)).alloc (.map #[] 0)).alloc (.cells #[fs,.map (some w.heap.size),.map (some (w.heap.size+1))] 214)) w.heap.size (w.heap.size+2) fs base side []:=by
 have c:Below (w.alloc (.map #[] 0)).heap.size (w.alloc (.map #[] 0)) ((w.alloc (.map #[] 0)).alloc (.map #[] 0)):=(Below.refl _ _).alloc (aa _) _;have a:Below ((w.alloc (.map #[] 0)).alloc (.map #[] 0)).heap.size ((w.alloc (.map #[] 0)).alloc (.map #[] 0)) (((w.alloc (.map #[] 0)).alloc (.map #[] 0)).alloc (.cells #[fs,.map (some w.heap.size),.map (some (w.heap.size+1))] 214)):=(Below.refl _ _).alloc (aa _) _;have d:(w.alloc (.map #[] 0)).heap.size=w.heap.size+1:=by simp
 have e:((w.alloc (.map #[] 0)).alloc (.map #[] 0)).heap.size=w.heap.size+2:=by simp
 have f:=((MpT.start w).below c).below a;have b:=(SetT.start (w.alloc (.map #[] 0))).below a;have g:=au ((w.alloc (.map #[] 0)).alloc (.map #[] 0)) (.cells #[fs,.map (some w.heap.size),.map (some (w.heap.size+1))] 214);rw[e] at g;rw[d] at b;exact ⟨⟨_,_,0,0,_,_,g,f,b,aa _,aa _,aa _,O,O⟩,O⟩
def CellsStay (w u:World):Prop:=∀(k:Nat) (cur:Array Value) (T:TypeId) (fr:Nat×Nat),w.heap[k]? = some (.cells cur T fr)->u.heap[k]? = some (.cells cur T fr)
theorem CellsStay.grown {u:World}{d:Nat}(f:w.grownBy u (some b))(g:w.heap[b]? = some (.map es d)):CellsStay w u:=fun k c T h a=>
 (f.block k (aAa a) (fun e=>by injection e with e;rw[e,g] at a;cases a)).trans a
theorem CellsStay.trans {u v:World}(h:CellsStay w u)(d:CellsStay u v):CellsStay w v:=fun k a T b c=>d k a T b (h k a T b c)
structure StepW (w:World) (B s m1 m2:Nat) (a b:ByteArray) (w1 w2 w3 w4:World) (v1 s1 v2 s2:Value):Prop where
 c1:w.cell? ⟨s,1,none⟩=some (.map (some m1))
 c2:w.cell? ⟨s,2,none⟩=some (.map (some m2))
 r1:(Instr.mapEntry 211 (.map (some m1)) (.agg #[.string a])).run prog w=.ok (.tuple #[v1,s1]) w1
 r2:(Instr.entryStore 211 (.map (some m1)) s1 (.string b)).run prog w1=.ok () w2
 r3:(Instr.mapEntry 212 (.map (some m2)) (.agg #[.string b])).run prog w2=.ok (.tuple #[v2,s2]) w3
 r4:(Instr.entryStore 212 (.map (some m2)) s2 (.bool true)).run prog w3=.ok () w4
 b1:Below B w w1
 b2:Below B w w2
 b3:Below B w w3
 b4:Below B w w4
 k1:CellsStay w w1
 k2:CellsStay w w2
 k3:CellsStay w w3
 k4:CellsStay w w4
theorem SideIs.step {p:Nat×Nat}(h:SideIs w B s fs base side L)(hB:B<=w.heap.size)(S:(pathAt base p.1).size<=maxLen)(T:(pathAt side p.2).size<=maxLen)(U:L.length<maxLen) :
  ∃r t G H K y I J M N,StepW w B s r t (pathAt base p.1) (pathAt side p.2) G H K y I J M N/\SideIs y B s fs base side (L++[p])/\∃cs:Array Value,w.heap[s]? = some (.cells cs 214 (0,0))/\cs[1]? = some (.map (some r))/\cs[2]? = some (.map (some t)):=by
 obtain ⟨⟨r,t,V,W,D1,D2,i,j,E,v,x,a,k,l⟩,F⟩:=h;obtain ⟨G,H,I,J,X,Y,Z,d,P⟩:=aLo j.own KT lB cO (ip v U) (keyT S) (show Rv (.string (pathAt side p.2))=some (.held (.string (pathAt side p.2)),[]) from rfl);have C:=j.put S Z (bCp base side L p);have f:=E.kept d (by simpa using l.symm);obtain ⟨K,y,M,N,r3,r4,o4,z,Q⟩:=aLo f.own KT lC ci (ip x U) (keyT T) (boolT true);have o:=f.put T o4 (aWo side L p);have q:=C.kept z (by simpa using l);obtain ⟨ff,nj,b,_⟩:=j.own;obtain ⟨nk,nm,n,_⟩:=f.own;have c:=(d.block s (aAa i) (fun e=>by injection e with e;rw[e,b] at i;cases i)).trans i;have D:=(z.block s (aAa c) (fun e=>by injection e with e;rw[e,n] at c;cases c)).trans c;have bl:∀{u O:World} {m:Nat},u.grownBy O (some m)->B<=m->Below B w u->Below B w O:=fun {u} {O} {m} A hm R=>R.grown A (aw hB R.size) (fun g A=>by injection A with A;omega);refine ⟨r,t,G,H,K,y,I,J,M,N,⟨by rw[ab i];rfl,by rw[ab i];rfl,X,Y,r3,r4,bl P a (Below.refl _ _),bl d a (Below.refl _ _),bl Q k (bl d a (Below.refl _ _)),bl z k (bl d a (Below.refl _ _)),.grown P b,.grown d b,(CellsStay.grown d b).trans (.grown Q n),(CellsStay.grown d b).trans (.grown z n)⟩,⟨⟨r,t,V+1,W+1,_,_,D,q,o,?_,?_,a,k,l⟩,F⟩,_,i,rfl,rfl⟩
 ·rw[ae,bf];exact eQ v
 rw[ae,bf];exact eQ x
theorem aIw {P:Program}{a:Act}{m x:Operand}{g:Option (Tmp×Bool)}{key v:Value}(c:a.eval m=mv)(d:a.eval x=key)
  (b:(Instr.mapEntry t mv key).run P w=.ok v w') (e:S w'/\K (a.put dst v) w'):effq P S ⟨q,dst,.mapEntry t m x,ty,g⟩ a w K:=by
 intro p f g;unfold Oper.wp execOp;simp only[c,d,b,bT,cE,bI];exact e
theorem aGm {P:Program}{a:Act}{m x y:Operand}{g:Option (Tmp×Bool)}{c val:Value}(d:a.eval m=mv)(e:a.eval x=c)(f:a.eval y=val)
  (b:(Instr.entryStore t mv c val).run P w=.ok () w') (h:S w'/\K (a.put dst undef) w'):effq P S ⟨q,dst,.entryStore t m x y,ty,g⟩ a w K:=by
 intro p i g;unfold Oper.wp execOp;simp only[d,e,f,b,bT,cE,bI];exact h
theorem aTe(h:∀f∈l,f.path.size<=140737488351232/\f.text.size<=140737488351232)(i:Nat):(pathAt l i).size<=maxLen:=by
 unfold pathAt
 cases a:l[i]? with
 | none=>exact al _
 | some f=>
  have:=(h f (aC a)).1;show f.path.size<=maxLen;unfold maxLen;omega
theorem bMc {v:Value}{p:Nat×Nat}(h:w.ownsRow B 132 2 v n (L.flatMap (renC base side)))(i:L[k]? = some p) :
  ∃g c a,v=.slice (some ⟨g,0,none⟩) n c/\w.heap[g]? = some (.cells a 132 (0,0))/\a[k*2]? = some (.string (pathAt base p.1))/\a[k*2+1]? = some (.string (pathAt side p.2)):=by
 have e:∀x,(renC base side x).length=2:=fun _=>rfl;have d:=flat_get e i (show 0<2 by decide);have j:=flat_get e i (show 1<2 by decide);rcases h with ⟨m,⟨rfl,o⟩ | ⟨g,cap,a,rfl,_,q,r,s,t,f⟩⟩
 ·have b:L.flatMap (renC base side)=[]:=bC (by rw[m,o])
  rw[b] at d
  cases d
 have l:=aBj f d;have q1:=aBj f j;exact ⟨g,cap,a,rfl,q,by simpa using l,by simpa using q1⟩
theorem aMp(a:ByteArray)(w:World):(Instr.build 216 #[(0,.string a)]).run prog w=.ok (.agg #[.string a]) w:=by
 go_simp
def SideMade (base side:List FV)(fs:Value)(w:World)(e:Ending) (w':World):Prop:=
 ∃(L:List (Nat×Nat)) (s:Nat),L.Perm (pairsF base side)/\e=.returned (.pointer (some ⟨s,0,none⟩))/\SideIs w' w.heap.size s fs base side L/\Below w.heap.size w w'
theorem aLc {B:Option Addr}{ca cb:Nat}(hL:Lm w)(hn:n<=100000)(hm:m<=100000)(ha:RdF w w.heap.size A n ca base)(hs:RdF w w.heap.size B m cb side)
  (ns:∀f∈base,f.text.size<=1000000) (o:∀f∈side,f.text.size<=1000000) :
  Calls prog 129 #[.slice A n ca,.slice B m cb] w (SideMade base side (.slice B m cb) w):=by
 have F:=hid (SideIs.start w (.slice B m cb) base side);obtain ⟨W,eW⟩:∃W,W=((w.alloc (.map #[] 0)).alloc (.map #[] 0)).alloc (.cells #[.slice B m cb,.map (some w.heap.size),.map (some (w.heap.size+1))] 214):=⟨_,rfl⟩;have G:Below w.heap.size w W:=by rw[eW];exact (((Below.refl _ _).alloc (aa _) _).alloc (by simp) _).alloc (by simp;omega) _
 rw[<-eW] at F;have KR:=aYf (hL.to G) hn hm (ha.to G G.size) (hs.to G G.size) ns o;have HW:=hid G;clear G hL ns o;have nu:=@run_makeMap prog;go_enter Tryz.func129,Tryz.ntmps129;go_wp2_with fail;rw[<-eW];clear eW nu;refine KR.mono ?_;rintro e w1 ⟨L,v,j,rfl,ho,nj⟩;have nL:L.length<=100000:=by have:=j.length_eq;have:=aKc base side;have:=ha.len;omega
 have nw:=hid j;have nz:=hid (fun (k:Nat) (p:Nat×Nat) (z:L[k]? = some p)=>bMc ho z);have nA:=hid (F.out.below nj);have nB:=hid (HW.out.trans (nj.mono HW.out.size));obtain ⟨E,ec,rfl,nN⟩:=aAd ho;have nC:=hid (show ∀p∈L,(pathAt base p.1).size<=maxLen/\(pathAt side p.2).size<=maxLen from fun p z=>⟨aTe ha.fits p.1,aTe hs.fits p.2⟩);clear KR j ho nj F ha hs;go_wp2;go_loopw[17] (fun i wr=>∃k:Nat,k<=L.length/\i=.int .i64 k/\Hid (SideIs wr w.heap.size (w.heap.size+2) (.slice B m cb) base side (L.take k))/\Hid (CellsStay w1 wr)/\Hid (Below w.heap.size w wr)) (fun i _=>L.length-(intOf i).toNat)
 case atStart=>exact ⟨0,al _,rfl,nA,hid (fun _ _ _ _ h=>h),nB⟩
 obtain ⟨k,hk,rfl,x,t,l⟩:=hrel;by_cases nK:k<L.length
 ·have z:=ac nK
  generalize L[k]=p at z;have H:=nC.out p (aC z);obtain ⟨g,c9,y,eE,hg,x0,x1⟩:=nz.out k p z;injection eE with eE1 _ eE2;subst eE1 eE2;have I:=t.out g y _ _ hg;have c0:wr.cell? ⟨g,k*2,none⟩=some (.string (pathAt base p.1)):=by rw[ab I];exact x0
  have c1:wr.cell? ⟨g,k*2+1,none⟩=some (.string (pathAt side p.2)):=by rw[ab I];exact x1
  have HT:=hid (show L.take (k+1)=L.take k++[p] by rw[aB,z];rfl);generalize ea:pathAt base p.1=a at *;generalize eb:pathAt side p.2=b at *;have r:Below wr.heap.size wr (wr.alloc (.cells #[.string a,.string b] 132)):=(Below.refl _ _).alloc (aa _) _;have nM:=hid (au wr (.cells #[.string a,.string b] 132));obtain ⟨m1,m2,w2,w3,w4,w5,v1,s1,v2,s2,o,nq,nr⟩:=(x.out.below (r.mono (aa _))).below ((Below.refl _ _).drew) |>.step (p:=p) (aw l.out.size r.size) (by rw[ea];exact H.1) (by rw[eb];exact H.2) (by rw[aE];unfold maxLen;omega);rw[ea,eb] at o;have c:=hid o;have nk:=hid nr;have nm:=hid nq;have nD:=hid (l.out.trans (r.mono l.out.size));have nE:=hid (show CellsStay w1 (wr.alloc (.cells #[.string a,.string b] 132)) from fun k y T fr h=>(r.block k (aAa (t.out k y T fr h))).trans (t.out k y T fr h));clear o nq nr r I hg x0 x1 z x l t H;go_wp2;have d1:=c.out.c1;have d2:=c.out.c2;have d0:=au wr (.cells #[.string a,.string b] 132);generalize wr.alloc (.cells #[.string a,.string b] 132)=V5 at *;refine aAv (fun u=>CellsStay V5 u) (.q 0 (.q 1 (.q 2 (.q 3 (.q 4 (.q 5 (.b 6 (.q 7 (.q 8 (.q 9 (.q 10 (.q 11 (.q 12 (.b 13 (.q 14 (.q 15 (.one 16 (.q 17 (.one 18 (.one 19 (.q 20 (.one 21 .leaf)))))))))))))))))))))) mixed κ (fun _ _ _ _ h=>h) ?_;intro Tp M Q hT nJ hM hQ;obtain ⟨cs,s,C,D⟩:=nk.out;replace s:V5.heap[w.heap.size+2]? = some (.cells cs 214 (0,0)):=s;have m0:M ⟨wr.heap.size,0,none⟩=some (.string a):=hM _ _ fun w' hw=>by rw[ab (hw _ _ _ _ d0)];rfl
  have m4:M ⟨wr.heap.size,1,none⟩=some (.string b):=hM _ _ fun w' hw=>by rw[ab (hw _ _ _ _ d0)];rfl
  have q1:M ⟨w.heap.size+2,1,none⟩=some (.map (some m1)):=hM _ _ fun w' hw=>by rw[ab (hw _ _ _ _ s)];exact C
  have q2:M ⟨w.heap.size+2,2,none⟩=some (.map (some m2)):=hM _ _ fun w' hw=>by rw[ab (hw _ _ _ _ s)];exact D
  clear hM;refine aCu ?_;intro O d;have t0:=d true 0;have t1:=d true 1;have t2:=d true 2;have t3:=d true 3;have t4:=d true 4;have t5:=d true 5;have t6:=d true 6;have t7:=d true 7;have t8:=d true 8;have t9:=d true 9;have J:=d true 10;have K:=d true 11;have N:=d true 12;have P:=d true 13;have R:=d true 14;have S:=d true 15;have U:=d true 17;have V:=d true 20;have X:=d false 16;have Y:=d false 18;have Z:=d false 19;have ff:=d false 21;simp only[qcmp] at t0 t1 t2 t3 t4 t5 t6 t7 t8 t9 J K N P R S U V X Y Z ff;clear d;simp (maxSteps:=9^7) only[↓wt_q,↓wt_b,t0,t1,t2,t3,t4,t5,t6,↓qpre,aAb,aAg,aAc,m0,q1];refine aCc rfl (fun w=>aMp _ w) ?_;simp (maxSteps:=9^7) only[↓wt_q,↓wt_b,t7,t8,t9,J,K,N,P,↓qpre,aAb,aAg,aAc,q2,m4];refine aCc rfl (fun w=>aMp _ w) ?_;simp (maxSteps:=9^7) only[↓wt_q,↓aAn,R,S,X,↓qpre,aAb,aAg,aAc,m4];refine aIw rfl rfl c.out.r1 ⟨hT _ c.out.k1,?_⟩;simp (maxSteps:=9^7) only[↓wt_q,↓aAn,U,Y,↓qpre,aAb,aAc];refine aGm rfl rfl rfl c.out.r2 ⟨hT _ c.out.k2,?_⟩;simp (maxSteps:=9^7) only[↓aAn,Z,aAb];refine aIw rfl rfl c.out.r3 ⟨hT _ c.out.k3,?_⟩;simp (maxSteps:=9^7) only[↓wt_q,↓aAn,V,ff,↓qpre,aAb,aAc];refine aGm rfl rfl rfl c.out.r4 ⟨hT _ c.out.k4,?_⟩;simp (maxSteps:=9^7) only[aAb];refine hQ _ _ ?_;have nF:Hid (SideIs w5 w.heap.size (w.heap.size+2) (.slice B m cb) base side (L.take (k+1))):=by rw[HT.out];exact nm
  have nG:Hid (CellsStay w1 w5):=hid (nE.out.trans c.out.k4);have nH:Hid (Below w.heap.size w w5):=hid (nD.out.drew.trans c.out.b4);clear hQ hT nJ m0 m4 q1 q2 d0 d1 d2 s C D c nm nk t0 t1 t2 t3 t4 t5 t6 t7 t8 t9 J K N P R S U V X Y Z ff;go_wp2;go_roundw
  case rel=>exact ⟨k+1,ω,by go_num,nF,nG,nH⟩
  simp[intOf];omega
 have nI:k=L.length:=ω;subst nI;have HF:Hid (SideMade base side (.slice B m cb) w (.returned (.pointer (some ⟨w.heap.size+2,0,none⟩))) wr):=hid ⟨L,_,nw.out,rfl,by have:=x.out;rw[ai (aa _)] at this;exact this,l.out⟩;clear x t l;go_wp2;go_ret;exact HF.out
theorem aKg {q v:ByteArray}:∀{L:List (Nat×Nat)},(∀a∈L,q=pathAt base a.1->pathAt side a.2=v)->L.foldl (fun r p=>if q=pathAt base p.1 then some (pathAt side p.2) else r) (some v)=some v
 | [],_=>rfl
 | a::L,h=>by
  rw[bR];by_cases e:q=pathAt base a.1
  ·rw[ao e,h a bu e];exact aKg fun b c=>h b (am _ c)
  rw[ah e];exact aKg fun b c=>h b (am _ c)
theorem aWa {q v:ByteArray}:∀{L:List (Nat×Nat)} (r:Option ByteArray),(∀a∈L,q=pathAt base a.1->pathAt side a.2=v)->(∃a∈L,q=pathAt base a.1)->L.foldl (fun r p=>if q=pathAt base p.1 then some (pathAt side p.2) else r) r=some v
 | [],_,_,h2=>by obtain ⟨a,ha,_⟩:=h2;cases ha
 | a::L,r,h,h2=>by
  rw[bR];by_cases e:q=pathAt base a.1
  ·rw[ao e,h a bu e];exact aKg fun b c=>h b (am _ c)
  rw[ah e];obtain ⟨b,c,d⟩:=h2;rcases ax.1 c with rfl | c
  ·exact absurd d e
  exact aWa r (fun b c=>h b (am _ c)) ⟨b,c,d⟩
theorem aQz {q:ByteArray}:∀{L:List (Nat×Nat)} (r:Option ByteArray),(∀a∈L,q≠pathAt base a.1)->L.foldl (fun r p=>if q=pathAt base p.1 then some (pathAt side p.2) else r) r=r
 | [],_,_=>rfl
 | a::L,r,h=>by
  rw[bR,ah (h a bu)];exact aQz r fun b c=>h b (am _ c)
theorem aBx(h:i<l.length):(l[i]?).map FV.path=some (pathAt l i):=by
 unfold pathAt;rw[ac h];rfl
theorem aPv(b:(l.map FV.path).Nodup){i j:Nat}(a:i<l.length)(c:j<l.length)(h:pathAt l i=pathAt l j):i=j:=by
 have e:(l.map FV.path)[i]? = (l.map FV.path)[j]?:=by rw[aG,aG,aBx a,aBx c,h]
 exact (List.getElem?_inj (by simpa using a) b).1 e
theorem aXn(s:(base.map FV.path).Nodup)(l:L.Perm (pairsF base side))(q:ByteArray):sendL base side L q=movedF base side q:=by
 have g:=aCv base side;have b:∀a∈pairsF base side,a.1<base.length:=fun a ha=>aCg (g.from_ a ha);have k:∀a∈pairsF base side,a.2<side.length:=fun a ha=>aCg (g.into a ha);unfold movedF sendL
 cases m:(pairsF base side).find? fun x=>decide (((base[x.1]?).map FV.path)=some q) with
 | none=>
  refine aQz none fun a ha e=>?_;have c:=l.mem_iff.1 ha;have:=cL.1 m a c;rw[aBx (b a c),e] at this;simp at this
 | some x=>
  have d:=cH m;have n:=fU m;rw[aBx (b x d)] at n;have f:q=pathAt base x.1:=by simpa using (aP n).symm
  show _=(side[x.2]?).map FV.path;rw[aBx (k x d)];refine aWa none (fun a ha e=>?_) ⟨x,l.mem_iff.2 d,f⟩;have c:=l.mem_iff.1 ha;have o:a.1=x.1:=aPv s (b a c) (b x d) (e.symm.trans f);obtain ⟨i,p,rfl⟩:=bn c;obtain ⟨j,r,rfl⟩:=bn d;rcases eZ i j with h | h | h
  ·exact absurd o (bU.1 g.one i j p r h).1
  ·subst h;rfl
  exact absurd o.symm (bU.1 g.one j i r p h).1
theorem bBe(d:L.Perm (pairsF base side))(q:ByteArray):takenL side L q.data.toList=(pairsF base side).any fun x=>decide (((side[x.2]?).map FV.path)=some q):=by
 have b:=aCv base side;unfold takenL;rw[ii,bZ,bZ];constructor
 ·rintro ⟨a,ha,h⟩
  have c:=d.mem_iff.1 ha;refine ⟨a,c,?_⟩;rw[aBx (aCg (b.into a c))];exact aq (congrArg some (aCi (aP h)))
 rintro ⟨a,ha,h⟩;refine ⟨a,d.mem_iff.2 ha,?_⟩;rw[aBx (aCg (b.into a ha))] at h;have:=aP h;injection this with this;rw[this];exact aq rfl
theorem bKp {b:Nat}{f x:FV}(l:f.path.size<=1000000)(m:x.path.size<=1000000)(c:w.heap[b]? = some (.cells #[.string f.path,.bool f.exec,.string f.text] 48 (0,0))) :
  Calls prog 178 #[.agg #[.string x.path,.bool x.exec,.string x.text],.pointer (some ⟨b,0,none⟩)] w fun e w'=>e=.returned (.bool (clashP x.p f.p))/\Below w.heap.size w w':=by
 have a:Below w.heap.size w (w.alloc (.cells #[.string x.path,.bool x.exec,.string x.text] 48)):=(Below.refl _ _).alloc (aa _) _;have h:(w.alloc (.cells #[.string x.path,.bool x.exec,.string x.text] 48)).cell? ⟨b,0,none⟩=some (.string f.path):=by rw[ab ((a.block b (aAa c)).trans c)];rfl
 have g:=au w (.cells #[.string x.path,.bool x.exec,.string x.text] 48);have i:(w.alloc (.cells #[.string x.path,.bool x.exec,.string x.text] 48)).cell? ⟨w.heap.size,0,none⟩=some (.string x.path):=by rw[ab g];rfl
 have K:=bBi (p:=x.path) (d:=f.path) (w:=w.alloc (.cells #[.string x.path,.bool x.exec,.string x.text] 48)) O O;have j:=hid a;clear c g a;go_enter Tryz.func178,Tryz.ntmps178;go_wp2_with fail;refine K.mono ?_;rintro e k ⟨rfl,rfl⟩;clear K h i;go_wp2;go_ret;exact ⟨rfl,j.out⟩
def FirstF (p:FV->Bool)(xs:List FV)(w:World)(e:Ending) (w':World):Prop:=
 ∃k:Int,e=.returned (.int .i64 k)/\((k=-1/\∀x∈xs,p x=false)\/(0<=k/\∃x∈xs,p x=true))/\Below w.heap.size w w'
theorem bEc {xs:List FV}{q1:Value}(p:FV->Bool)(P:n<=1000000)(h:RdF w w.heap.size A n c xs)
  (I:∀(x:FV) (u:World),x∈xs->Below w.heap.size w u->Calls prog 178 #[.agg #[.string x.path,.bool x.exec,.string x.text],q1] u fun e w'=>e=.returned (.bool (p x))/\Below u.heap.size u w') :
  Calls prog 188 #[.slice A n c,.func (.func 178) #[] #[q1]] w (FirstF p xs w):=by
 have F:=hid h.len;go_enter lN,kS;go_wp2;go_loopw[8] (fun i wr=>∃k:Nat,k<=n/\i=.int .i64 k/\Hid (Below w.heap.size w wr)/\Hid (∀(i:Nat) (y:FV),i<k->xs[i]? = some y->p y=false)) (fun i _=>n-(intOf i).toNat)
 case atStart=>exact ⟨0,al _,rfl,hid (Below.refl _ _),fun i y h=>absurd h (bN _)⟩
 obtain ⟨k,J,rfl,a,D⟩:=hrel;by_cases B:k<n
 ·obtain ⟨t,v,x,rfl,b,l,d,m,o,q⟩:=h.get B
  replace m:=(a.out.cell (p:=⟨t,v+k*3,none⟩) b).trans m;replace o:=(a.out.cell (p:=⟨t,v+k*3+1,none⟩) b).trans o;replace q:=(a.out.cell (p:=⟨t,v+k*3+2,none⟩) b).trans q;have G:=hid l;clear l;have r:=hid d;have K:=I x wr d a.out;clear d;obtain ⟨R,z⟩:∃R,R=p x:=⟨_,rfl⟩;rw[<-z] at K;have C:=hid z;clear z;obtain ⟨L,M,N⟩:=x;dsimp only at m o q K;go_wp2_with fail;refine K.mono ?_;rintro e O ⟨rfl,g⟩;have f:=hid (a.out.trans (g.mono a.out.size));clear K g
  cases R
  ·have H:Hid (∀(i:Nat) (y:FV),i<k+1->xs[i]? = some y->p y=false):=fun i y E j=>by
    rcases bo i k with h | h
    ·exact D.out i y h j
    rw[show i=k by omega,G.out] at j;injection j with j;rw[<-j];exact C.out.symm
   go_wp2;go_roundw
   case rel=>exact ⟨k+1,ω,by go_num,f,H⟩
   simp[intOf];omega
  go_wp2;go_ret;exact ⟨k,rfl,.inr ⟨ω,_,r.out,C.out.symm⟩,f.out⟩
 have s:k=n:=ω;subst s;go_wp2;go_ret;refine ⟨-1,rfl,.inl ⟨rfl,fun x l=>?_⟩,a.out⟩;obtain ⟨i,E,rfl⟩:=bn l;exact D.out i _ (by have:=F.out;omega) (ac E)
theorem aSk {xs:List FV}{q1:Value}(p:FV->Bool)(r:n<=1000000)(h:RdF w w.heap.size A n c xs)
  (o:∀(x:FV) (u:World),x∈xs->Below w.heap.size w u->Calls prog 178 #[.agg #[.string x.path,.bool x.exec,.string x.text],q1] u fun e w'=>e=.returned (.bool (p x))/\Below u.heap.size u w') :
  Calls prog 177 #[.slice A n c,.func (.func 178) #[] #[q1]] w fun e w'=>e=.returned (.bool (xs.any p))/\Below w.heap.size w w':=by
 have K:=bEc p r h o;clear h o;obtain ⟨R,g⟩:∃R,R=xs.any p:=⟨_,rfl⟩;rw[<-g];have i:=hid g;clear g;go_enter Tryz.func177,Tryz.ntmps177;go_wp2_with fail;refine K.mono ?_;rintro e t ⟨k,rfl,q,a⟩;have j:=hid a;clear K a;rcases q with ⟨rfl,b⟩ | ⟨l,x,d,m⟩
 ·have f:R=false:=by rw[i.out];exact lP.2 fun x d=>by simp[b x d]
  clear b;subst f;go_wp2;go_ret;exact ⟨by first | rfl | simp,j.out⟩
 have f:R=true:=by rw[i.out];exact bZ.2 ⟨x,d,m⟩
 clear d m;subst f;have s:decide (k>=0)=true:=aq l;go_wp2;go_ret;exact ⟨by first | rfl | simp[l],j.out⟩
section
variable {α:Type} {le:α->α->Bool}
theorem aBs(a b:α)(l r:List α):List.merge (a::l) (b::r) le=if le a b=true then a::List.merge l (b::r) le else b::List.merge (a::l) r le:=List.cons_merge_cons le a b l r
theorem aLv(l:List α):List.merge l [] le=l:=List.merge_right l
theorem aOw(l:List α):List.merge [] l le=l:=List.nil_merge l
theorem aMl(l:∀a b c,le a b=true->le b c=true->le a c=true)(m:∀a b,le a b=true\/le b a=true):∀(k:Nat) (xs ys d:List α),xs.length+ys.length+d.length<=k->
  List.merge (List.merge xs ys le) d le=List.merge xs (List.merge ys d le) le
 | _,[],ys,d,_=>by rw[aOw,aOw]
 | _,x::xs,[],d,_=>by rw[aLv,aOw]
 | _,x::xs,y::ys,[],_=>by rw[aLv,aLv]
 | 0,x::xs,y::ys,z::d,h=>by simp at h
 | k+1,x::xs,y::ys,z::d,h=>by
  have p:xs.length+ys.length+d.length+3<=k+1:=by simp only[aD] at h;omega
  have i:=aMl l m k xs (y::ys) (z::d) (by simp only[aD];omega);have n:=aMl l m k (x::xs) ys (z::d) (by simp only[aD];omega);have j:=aMl l m k (x::xs) (y::ys) d (by simp only[aD];omega);by_cases f:le x y=true
  ·by_cases e:le y z=true
   ·rw[aBs x y,ao f,aBs x z,ao (l _ _ _ f e),i,aBs y z,ao e,aBs x y,ao f]
   rw[aBs y z,ah e,aBs x z,aBs x y,ao f,aBs x z];by_cases g:le x z=true
   ·rw[ao g,ao g,i,aBs y z,ah e]
   rw[ah g,ah g,<-j,aBs x y,ao f]
  rw[aBs x y,ah f,aBs y z,aBs y z];by_cases e:le y z=true
  ·rw[ao e,ao e,aBs x y,ah f,n]
  have o:le y x=true:=(m y x).resolve_right f;have g:¬le x z=true:=fun h=>e (l _ _ _ o h);rw[ah e,ah e,aBs x z,ah g,<-j,aBs x y,ah f]
theorem aJs:∀{x1 x2 y1 y2:List α},(∀y∈y1,∀x∈x2,le x y=false)->(∀x∈x1,∀y∈y2,le x y=true)->
  List.merge (x1++x2) (y1++y2) le=List.merge x1 y1 le++List.merge x2 y2 le
 | [],x2,[],y2,_,_=>by simp
 | [],[],y::y1,y2,_,_=>by simp
 | [],x::x2,y::y1,y2,h1,h2=>by
  have ih:=aJs (x1:=[]) (x2:=x::x2) (y1:=y1) (y2:=y2) (fun a ha=>h1 a (am _ ha)) h2;rw[aT] at ih;rw[aT,aV,aBs,ah (by rw[h1 y bu x bu];decide),ih,aOw,aOw,aV]
 | x::x1,x2,[],[],_,_=>by simp
 | x::x1,x2,[],y::y2,h1,h2=>by
  have ih:=aJs (x1:=x1) (x2:=x2) (y1:=[]) (y2:=y::y2) h1 (fun a ha=>h2 a (am _ ha));rw[aT] at ih;rw[aT,aV,aBs,ao (h2 x bu y bu),ih,aLv,aLv,aV]
 | x::x1,x2,y::y1,y2,h1,h2=>by
  have b:=aJs (x1:=x1) (x2:=x2) (y1:=y::y1) (y2:=y2) h1 (fun a ha=>h2 a (am _ ha));have c:=aJs (x1:=x::x1) (x2:=x2) (y1:=y1) (y2:=y2) (fun a ha=>h1 a (am _ ha)) h2;rw[aV,aV,aBs,aBs];rw[aV] at b c;by_cases d:le x y=true
  ·rw[ao d,ao d,b,aV]
  rw[ah d,ah d,c,aV]
def ssort (le:α->α->Bool)(l:List α):List α:=l.foldl (fun out c=>List.merge out [c] le) []
theorem bLl(c:α):∀l:List α,List.merge l [c] le=l.takeWhile (fun x=>le x c)++c::l.dropWhile (fun x=>le x c)
 | []=>by simp
 | x::l=>by
  rw[aBs,iX,iY];by_cases h:le x c=true
  ·rw[ao h,ao h,ao h,bLl c l,aV]
  rw[ah h,ah h,ah h,aLv,aT]
theorem aKx(l:List α)(c:α):ssort le (l++[c])=List.merge (ssort le l) [c] le:=by
 unfold ssort;rw[cJ];rfl
theorem bGj(l:List α):(ssort le l).length=l.length:=by
 have:∀(l o:List α),(l.foldl (fun b c=>List.merge b [c] le) o).length=o.length+l.length:=by
  intro l
  induction l with
  | nil=>intro o;simp
  | cons a l ih=>intro o;rw[bR,ih,List.length_merge];simp;omega
 unfold ssort;rw[this];simp
theorem aLu(e:∀a b c,le a b=true->le b c=true->le a c=true)(f:∀a b,le a b=true\/le b a=true)(a:List α):∀(k:Nat) (b:List α),b.length<=k->ssort le (a++b)=List.merge (ssort le a) (ssort le b) le
 | 0,b,h=>by
  rw[bC (Nat.le_zero.1 h)];simp[ssort]
 | k+1,b,h=>by
  rcases List.eq_nil_or_concat b with rfl | ⟨d,c,rfl⟩
  ·simp[ssort]
  rw[List.concat_eq_append] at h ⊢;have g:d.length<=k:=by simp at h;omega
  rw[<-aH,aKx,aLu e f a k d g,aKx,aMl e f _ _ _ _ (aa _)]
theorem aKo(e:∀a b c,le a b=true->le b c=true->le a c=true)(f:∀a b,le a b=true\/le b a=true)(l:List α):(ssort le l).Pairwise (fun a b=>le a b=true):=by
 have:∀(l o:List α),o.Pairwise (fun a b=>le a b=true)->(l.foldl (fun d c=>List.merge d [c] le) o).Pairwise (fun a b=>le a b=true):=by
  intro l
  induction l with
  | nil=>intro o h;exact h
  | cons a l ih=>
   intro o h;rw[bR];refine ih _ ?_;exact List.pairwise_merge e (fun a b=>by simpa using f a b) _ _ h (fC _ _)
 exact this l [] List.Pairwise.nil
def segL (l:List α)(a b:Nat):List α:=(l.take b).drop a
theorem bAa {l:List α}(c:b<=l.length):(segL l a b).length=b-a:=by
 unfold segL;rw[aN,aE,bP c]
theorem aDe {l:List α}(f:a<=m)(d:m<=b):segL l a b=segL l a m++segL l m b:=by
 unfold segL;rw[show l.take m=(l.take b).take m by rw[ei,bP d]]
 have e:((l.take b).take m).drop a++(l.take b).drop m=(l.take b).drop a:=by
  generalize l.take b=x;rcases Nat.le_or_ge m x.length with c | c
  ·have:(x.take m++x.drop m).drop a=(x.take m).drop a++x.drop m:=fF (by rw[aE];omega)
   rw[<-this,aY]
  rw[ai c,fS c,aR]
 exact e.symm
theorem bAb(l:List α){n:Nat}(h:l.length<=n):segL l 0 n=l:=by unfold segL;rw[ai h];rfl
theorem aEc {l:List α}(h:l.length<=a):segL l a b=[]:=by unfold segL;exact fS (by rw[aE];omega)
structure Blk (le:α->α->Bool) (s:Nat) (l d:List α):Prop where
 len:d.length=l.length
 at_:∀i,segL d (i*s) ((i+1)*s)=ssort le (segL l (i*s) ((i+1)*s))
structure SegAs (d d':List α) (a b:Nat) (x:List α):Prop where
 len:d'.length=d.length
 here:segL d' a b=x
 there:∀i,i<a\/b<=i->d'[i]? = d[i]?
theorem aCb(l:List α)(a b i:Nat):(segL l a b)[i]? = if a+i<b then l[a+i]? else none:=by
 unfold segL;rw[bO,fH]
theorem aBv {d d':List α}(h:∀i,a<=i->i<b->d'[i]? = d[i]?):segL d' a b=segL d a b:=by
 apply bM;intro i;rw[aCb,aCb];split
 ·exact h _ O (by assumption)
 rfl
theorem SegAs.other {d d':List α}{x:List α}(h:SegAs d d' a b x){u v:Nat}(c:v<=a\/b<=u):segL d' u v=segL d u v:=
 aBv fun i e f=>h.there i O
theorem SegAs.refl(d:List α)(a b:Nat):SegAs d d a b (segL d a b):=⟨rfl,rfl,fun _ _=>rfl⟩
theorem Blk.twice(e:∀a b c,le a b=true->le b c=true->le a c=true)(f:∀a b,le a b=true\/le b a=true){s:Nat} {l d d':List α}(h:Blk le s l d)(g:d'.length=d.length)
  (j:∀i,segL d' (i*(2*s)) ((i+1)*(2*s))=List.merge (segL d (2*i*s) ((2*i+1)*s)) (segL d ((2*i+1)*s) ((2*i+2)*s)) le):Blk le (2*s) l d':=by
 refine ⟨g.trans h.len,fun i=>?_⟩;rw[j i,h.at_ (2*i),show 2*i+2=(2*i+1)+1 by omega,h.at_ (2*i+1),<-aLu e f _ _ _ (aa _),<-aDe (cd _ O) (cd _ O)];rw[show i*(2*s)=2*i*s by rw[<-jO,fO i 2],show (i+1)*(2*s)=(2*i+1+1)*s by rw[<-jO];congr 1;omega]
theorem Blk.all {l d:List α}(h:Blk le s l d)(a:l.length<=s):d=ssort le l:=by
 have:=h.at_ 0;rwa [ed,aO,jG,bAb _ (by rw[h.len];exact a),bAb _ a] at this
end
section
variable {α:Type} {le:α->α->Bool}
def Asc (le:α->α->Bool)(d:List α)(u v:Nat):Prop:=∀(i j:Nat) (x y:α),u<=i->i<j->j<v->d[i]? = some x->d[j]? = some y->le x y=true
theorem Asc.sub {d:List α}{e f:Nat}(h:Asc le d u v)(g:u<=e)(k:f<=v):Asc le d e f:=fun i j x y a b c=>h i j x y O b O
theorem aFk {d:List α}(h:(segL d u v).Pairwise (fun a b=>le a b=true)):Asc le d u v:=fun i j x y a b c m n=>by
 have e:(segL d u v)[i-u]? = some x:=by rw[aCb,ao O,show u+(i-u)=i by omega];exact m
 have f:(segL d u v)[j-u]? = some y:=by rw[aCb,ao O,show u+(j-u)=j by omega];exact n
 obtain ⟨l1,g⟩:=aj.1 e;obtain ⟨k,l⟩:=aj.1 f;have:=bU.1 h (i-u) (j-u) l1 k O;rw[g,l] at this;exact this
theorem aHn {d:List α}{x:α}(h:x∈segL d u v):∃i,u<=i/\i<v/\d[i]? = some x:=by
 obtain ⟨i,a⟩:=kB h;rw[aCb] at a;split at a
 ·exact ⟨u+i,O,by assumption,a⟩
 cases a
theorem aIt {d:List α}(h:i<d.length):∃x,d[i]? = some x:=⟨_,ac h⟩
theorem Asc.le'(f:∀a,le a a=true){d:List α}{u v:Nat}(h:Asc le d u v){i j:Nat}{x y:α}(g:u<=i)(b:i<=j)(k:j<v)(e:d[i]? = some x)(c:d[j]? = some y):le x y=true:=by
 rcases lD b with b | rfl
 ·exact h i j x y g b k e c
 rw[e] at c;cases c;exact f x
theorem aWp(p:∀a,le a a=true)(q:∀a b c,le a b=true->le b c=true->le a c=true){d:List α}{a s m e b:Nat}(K:b<=d.length)(l:a<=s)(D:s<=m)(n:m<=e)(E:e<=b)
  (H:Asc le d a m) (I:Asc le d m b) (C:s=a\/e=b\/∀x y,d[s-1]? = some x->d[e]? = some y->le x y=true) (B:s=m\/e=m\/∀x y,d[s]? = some x->d[e-1]? = some y->le x y=false) :
  List.merge (segL d a m) (segL d m b) le=List.merge (segL d a s) (segL d m e) le++List.merge (segL d s m) (segL d e b) le:=by
 rw[aDe l D,aDe n E];refine aJs (fun y f x g=>?_) (fun x g y f=>?_)
 ·obtain ⟨i,u,F,v⟩:=aHn g
  obtain ⟨j,w,G,z⟩:=aHn f;rcases B with rfl | rfl | B
  ·omega
  ·omega
  obtain ⟨xs,h⟩:=aIt (d:=d) (i:=s) O;obtain ⟨A,k⟩:=aIt (d:=d) (i:=e-1) O;have o:=B xs A h k
  cases J:le x y with
  | false=>rfl
  | true=>
   have r:=H.le' p l u F h v;have t:=I.le' p w (show j<=e-1 by omega) O z k;rw[q _ _ _ (q _ _ _ r J) t] at o
   cases o
 obtain ⟨i,u,F,v⟩:=aHn g;obtain ⟨j,w,G,z⟩:=aHn f;rcases C with rfl | rfl | C
 ·omega
 ·omega
 obtain ⟨xs,h⟩:=aIt (d:=d) (i:=s-1) O;obtain ⟨A,k⟩:=aIt (d:=d) (i:=e) O;have o:=C xs A h k;have r:=H.le' p u (show i<=s-1 by omega) O v h;have t:=I.le' p n w G k z;exact q _ _ _ (q _ _ _ r o) t
structure SwapAs (d d':List α) (i j:Nat):Prop where
 len:d'.length=d.length
 at_:∀t,d'[t]? = if t=i then d[j]? else if t=j then d[i]? else d[t]?
structure RangeAs (d d':List α) (a b n:Nat):Prop where
 len:d'.length=d.length
 at_:∀t,d'[t]? = if a<=t/\t<a+n then d[t-a+b]? else if b<=t/\t<b+n then d[t-b+a]? else d[t]?
theorem RangeAs.start(d:List α)(a b:Nat):RangeAs d d a b 0:=⟨rfl,fun t=>by rw[ah O,ah O]⟩
theorem RangeAs.step {d c d2:List α}(h:RangeAs d c a b n)(e:SwapAs c d2 (a+n) (b+n))(k:a+n<b):RangeAs d d2 a b (n+1):=by
 refine ⟨e.len.trans h.len,fun t=>?_⟩;rw[e.at_ t,h.at_ (b+n),h.at_ (a+n),h.at_ t];by_cases f:t=a+n
 ·rw[ao f,ah O,ah O,ao O];congr 1;omega
 rw[ah f];by_cases g:t=b+n
 ·rw[ao g,ah O,ah O,ah O,ao O];congr 1;omega
 rw[ah g];by_cases i:a<=t/\t<a+n
 ·rw[ao i,ao O]
 rw[ah i,ah (show ¬(a<=t/\t<a+(n+1)) by omega)];by_cases j:b<=t/\t<b+n
 ·rw[ao j,ao O]
 rw[ah j,ah O]
structure Rot (d F:List α) (m i j:Nat):Prop where
 len:F.length=d.length
 im:i<=m
 at_:∀t,F[t]? = if m-i<=t/\t<m-i+j then d[t+i]? else if m-i+j<=t/\t<m+j then d[t-j]? else d[t]?
theorem Rot.left {d d' F:List α}(h:Rot d F m i j)(g:j<i)(b:RangeAs d d' (m-i) m j):Rot d' F m (i-j) j:=by
 have f:=h.im;refine ⟨h.len.trans b.len.symm,O,fun t=>?_⟩;rw[h.at_ t];by_cases e:m-(i-j)<=t/\t<m-(i-j)+j
 ·rw[ao e,b.at_]
  by_cases c:m-i<=t/\t<m-i+j
  ·omega
  rw[ah c,ao O];by_cases a:m-i<=t+(i-j)/\t+(i-j)<m-i+j
  ·omega
  rw[ah a,ao O];congr 1;omega
 rw[ah e];by_cases c:m-(i-j)+j<=t/\t<m+j
 ·rw[ao c,b.at_,ah O,ao O,ah O,ah O]
 rw[ah c,b.at_];by_cases a:m-i<=t/\t<m-i+j
 ·rw[ao a,ao a];congr 1;omega
 rw[ah a,ah a,ah O,ah O]
theorem Rot.right {d d' F:List α}(h:Rot d F m i j)(g:i<j)(a:RangeAs d d' (m-i) (m+j-i) i):Rot d' F m i (j-i):=by
 have c:=h.im;refine ⟨h.len.trans a.len.symm,c,fun t=>?_⟩;rw[h.at_ t];by_cases e:m-i<=t/\t<m-i+(j-i)
 ·rw[ao e,ao O,a.at_]
  by_cases b:m-i<=t+i/\t+i<m-i+i
  ·omega
  rw[ah b,ah O]
 rw[ah e];by_cases b:m-i+(j-i)<=t/\t<m+(j-i)
 ·rw[ao b,a.at_,ao O,ao O];congr 1;omega
 rw[ah b,a.at_];by_cases k:m-i<=t/\t<m-i+i
 ·omega
 rw[ah k];by_cases f:m+j-i<=t/\t<m+j-i+i
 ·rw[ah O,ao O,ao f];congr 1;omega
 rw[ah O,ah O,ah f]
theorem Rot.done {d d' F:List α}(h:Rot d F m i i)(e:RangeAs d d' (m-i) m i):F=d':=by
 have c:=h.im;apply bM;intro t;rw[h.at_ t,e.at_ t];by_cases a:m-i<=t/\t<m-i+i
 ·rw[ao a,ao a];congr 1;omega
 rw[ah a,ah a];by_cases b:m-i+i<=t/\t<m+i
 ·rw[ao b,ao O];congr 1;omega
 rw[ah b,ah O]
def rotL (d:List α)(a m b:Nat):List α:=d.take a++(segL d m b++segL d a m)++d.drop b
theorem aCy {d:List α}(k:a<=m)(l:m<=b)(h:b<=d.length):Rot d (rotL d a m b) m (m-a) (b-m):=by
 have l1:(d.take a).length=a:=by rw[aE];omega
 have c:(segL d m b).length=b-m:=bAa h;have g:(segL d a m).length=m-a:=bAa O;have e:(d.take a++(segL d m b++segL d a m)).length=b:=by rw[ae,ae,l1,c,g];omega
 refine ⟨by unfold rotL;rw[ae,e,aN];omega,O,fun t=>?_⟩;unfold rotL;by_cases i:t<b
 ·rw[aZ (by rw[e];exact i)]
  by_cases f:t<a
  ·rw[aZ (by rw[l1];exact f),dd f,ah O,ah O]
  rw[a6 (by rw[l1];omega),l1];by_cases j:t-a<b-m
  ·rw[aZ (by rw[c];exact j),aCb,ao O,ao O];congr 1;omega
  rw[a6 (by rw[c];omega),c,aCb,ao O,ah O,ao O];congr 1;omega
 rw[a6 (by rw[e];omega),e,bO,ah O,ah O];congr 1;omega
theorem aHl {d:List α}(c:a<=m)(e:m<=b)(f:b<=d.length):(rotL d a m b).length=d.length:=(aCy c e f).len
theorem aEr {d:List α}(c:a<=m)(e:m<=b)(f:b<=d.length){t:Nat}(h:t<a\/b<=t):(rotL d a m b)[t]? = d[t]?:=by
 rw[(aCy c e f).at_ t,ah O,ah O]
theorem aXy {d:List α}(e:a<=m)(f:m<=b)(g:b<=d.length):segL (rotL d a m b) a (a+(b-m))=segL d m b:=by
 apply bM;intro i;rw[aCb,aCb];by_cases c:a+i<a+(b-m)
 ·rw[ao c,ao O,(aCy e f g).at_,ao O];congr 1;omega
 rw[ah c,ah O]
theorem aWk {d:List α}(e:a<=m)(f:m<=b)(g:b<=d.length):segL (rotL d a m b) (a+(b-m)) b=segL d a m:=by
 apply bM;intro i;rw[aCb,aCb];by_cases c:a+i<m
 ·rw[ao O,ao c,(aCy e f g).at_,ah O,ao O];congr 1;omega
 rw[ah O,ah c]
end
section
variable {α:Type} {le:α->α->Bool}
theorem aWy {d:List α}(h:Asc le d u v):(segL d u v).Pairwise (fun a b=>le a b=true):=by
 rw[bU];intro i j f g k;have c:=ac f;have e:=ac g;rw[aCb] at c e;split at c
 ·split at e
  ·exact h _ _ _ _ O O (by assumption) c e
  cases e
 cases c
theorem aSs {d d':List α}{a b:Nat}(h:Asc le d u v)(e:segL d' a b=segL d u v):Asc le d' a b:=aFk (by rw[e];exact aWy h)
theorem aBn {d:List α}(f:u<=s)(g:s<=v)(h:s=u\/s=v\/∀x∈segL d u s,∀y∈segL d s v,le x y=true):SegAs d d u v (List.merge (segL d u s) (segL d s v) le):=by
 have e:List.merge (segL d u s) (segL d s v) le=segL d u s++segL d s v:=by
  rcases h with rfl | rfl | h
  ·have:segL d s s=[]:=by apply bM;intro i;rw[aCb,ah O];rfl
   rw[this,aOw,aT]
  ·have:segL d s s=[]:=by apply bM;intro i;rw[aCb,ah O];rfl
   rw[this,aLv,aR]
  exact List.merge_of_le fun a b ha c=>h a ha b c
 rw[e,<-aDe f g];exact SegAs.refl d u v
theorem aDo(t:∀a,le a a=true)(u:∀a b c,le a b=true->le b c=true->le a c=true){d d2 r:List α}{a s m e b mid:Nat}(v:b<=d.length)(n:a<=s)(f:s<=m)(g:m<=e)(o:e<=b)(h:mid=s+(e-m))
  (w:Asc le d a m) (z:Asc le d m b) (A:s=a\/e=b\/∀x y,d[s-1]? = some x->d[e]? = some y->le x y=true) (B:s=m\/e=m\/∀x y,d[s]? = some x->d[e-1]? = some y->le x y=false)
  (k:SegAs (rotL d s m e) d2 a mid (List.merge (segL (rotL d s m e) a s) (segL (rotL d s m e) s mid) le)) (l:SegAs d2 r mid b (List.merge (segL d2 mid e) (segL d2 e b) le)) :
  SegAs d r a b (List.merge (segL d a m) (segL d m b) le):=by
 have j:e<=d.length:=O;have x1:segL (rotL d s m e) a s=segL d a s:=aBv fun i p q=>aEr f g j (.inl q);have y1:segL (rotL d s m e) s mid=segL d m e:=by rw[h];exact aXy f g j
 have x2:segL (rotL d s m e) mid e=segL d s m:=by rw[h];exact aWk f g j
 have y2:segL (rotL d s m e) e b=segL d e b:=aBv fun i p q=>aEr f g j (.inr p);rw[x1,y1] at k;rw[k.other (.inr (aa _)),x2,k.other (.inr O),y2] at l;rw[aWp t u v n f g o w z A B];refine ⟨by rw[l.len,k.len,aHl f g j],?_,fun i C=>?_⟩
 ·rw[aDe (show a<=mid by omega) (show mid<=b by omega),l.here,l.other (.inl (aa _)),k.here]
 rw[l.there i O,k.there i O,aEr f g j O]
theorem aFs {d d2:List α}{e mid:Nat}{z:List α}(h:e<=d.length)(j:a<=s)(c:s<=m)(f:m<=e)(k:e<=b)(g:mid=s+(e-m))(o:Asc le d a m)(p:Asc le d m b)(q:SegAs (rotL d s m e) d2 a mid z) :
  Asc le (rotL d s m e) a s/\Asc le (rotL d s m e) s mid/\Asc le d2 mid e/\Asc le d2 e b:=by
 have x1:segL (rotL d s m e) a s=segL d a s:=aBv fun i l n=>aEr c f h (.inl n);have y1:segL (rotL d s m e) s mid=segL d m e:=by rw[g];exact aXy c f h
 have x2:segL (rotL d s m e) mid e=segL d s m:=by rw[g];exact aWk c f h
 have y2:segL (rotL d s m e) e b=segL d e b:=aBv fun i l n=>aEr c f h (.inr l);exact ⟨aSs (o.sub (aa _) c) x1,aSs (p.sub (aa _) k) y1,aSs (o.sub j (aa _)) ((q.other (.inr (aa _))).trans x2),aSs (p.sub f (aa _)) ((q.other (.inr O)).trans y2)⟩
theorem aEy {d:List α}(e:a<=m)(f:m<=b)(g:b<=d.length)(h:a=m\/m=b):rotL d a m b=d:=by
 apply bM;intro t;rw[(aCy e f g).at_];rcases h with rfl | rfl
 ·by_cases c:a-(a-a)<=t/\t<a-(a-a)+(b-a)
  ·rw[ao c];congr 1;omega
  rw[ah c,ah O]
 rw[ah O];by_cases c:m-(m-a)+(m-m)<=t/\t<m+(m-m)
 ·rw[ao c];congr 1;omega
 rw[ah c]
theorem bIn {d d':List α}(ha:a<=k)(i:k+1<d.length)(h:SwapAs (rotL d a (a+1) (k+1)) d' k (k+1)):d'=rotL d a (a+1) (k+2):=by
 have R:=aCy (d:=d) (a:=a) (m:=a+1) (b:=k+1) O O O;have g:=aCy (d:=d) (a:=a) (m:=a+1) (b:=k+2) O O O;apply bM;intro t;rw[h.at_,g.at_,R.at_ (k+1),R.at_ k,R.at_ t];by_cases c:t=k
 ·rw[ao c,ah O,ah O,ao O];congr 1;omega
 rw[ah c];by_cases e:t=k+1
 ·rw[ao e,ah O,ao O,ah O,ao O];congr 1;omega
 rw[ah e];by_cases f:a+1-(a+1-a)<=t/\t<a+1-(a+1-a)+(k+1-(a+1))
 ·rw[ao f,ao O]
 rw[ah f,ah O,ah O,ah O]
theorem aZv {d d':List α}(j:k<m)(l:m<d.length)(h:SwapAs (rotL d (k+1) m (m+1)) d' (k+1) k):d'=rotL d k m (m+1):=by
 have R:=aCy (d:=d) (a:=k+1) (m:=m) (b:=m+1) O O O;have g:=aCy (d:=d) (a:=k) (m:=m) (b:=m+1) O O O;apply bM;intro t;rw[h.at_,g.at_,R.at_ (k+1),R.at_ k,R.at_ t];by_cases c:t=k+1
 ·rw[ao c,ah O,ah O,ah O,ao O];congr 1;omega
 rw[ah c];by_cases e:t=k
 ·rw[ao e,ao O,ao O];congr 1;omega
 rw[ah e];by_cases i:m-(m-(k+1))<=t/\t<m-(m-(k+1))+(m+1-m)
 ·omega
 rw[ah i];by_cases f:m-(m-(k+1))+(m+1-m)<=t/\t<m+(m+1-m)
 ·rw[ao f,ah O,ao O]
 rw[ah f,ah O,ah O]
theorem aMj {d:List α}{y:α}(h:d[m]? = some y):segL d m (m+1)=[y]:=by
 apply bM;intro i;rw[aCb]
 cases i with
 | zero=>rw[ao O,dv,h];rfl
 | succ i=>rw[ah O];rfl
theorem aOc(w:∀a,le a a=true)(z:∀a b c,le a b=true->le b c=true->le a c=true){d:List α}{a s m:Nat}(E:m<d.length)(l:a<=s)(f:s<=m)(A:Asc le d a m)
  (k:s=a\/∀x y,d[s-1]? = some x->d[m]? = some y->le x y=true) (h:s=m\/∀x y,d[s]? = some x->d[m]? = some y->le x y=false) :
  SegAs d (rotL d s m (m+1)) a (m+1) (List.merge (segL d a m) (segL d m (m+1)) le):=by
 obtain ⟨y,o⟩:=aIt E;refine aDo w z (s:=s) (e:=m+1) (mid:=s+1) (d2:=rotL d s m (m+1)) O l f O (aa _) O A (fun i j _ _ _ _ _=>by omega) (.inr (.inl rfl)) (by rcases h with h | h;exact .inl h;exact .inr (.inr h)) ?_ ?_
 ·refine aBn l O ?_
  rcases k with k | k
  ·exact .inl k
  refine .inr (.inr fun u r v t=>?_);have B:segL (rotL d s m (m+1)) a s=segL d a s:=aBv fun i p q=>aEr f O O (.inl q)
  have C:segL (rotL d s m (m+1)) s (s+1)=segL d m (m+1):=by
   have:=aXy (d:=d) f (show m<=m+1 by omega) O;rwa [show s+(m+1-m)=s+1 by omega] at this
  rw[B] at r;rw[C,aMj o] at t;have n:v=y:=by simpa using t
  subst n;obtain ⟨i,p,q,D⟩:=aHn r;obtain ⟨x,g⟩:=aIt (d:=d) (i:=s-1) O;exact z _ _ _ (A.le' w p (show i<=s-1 by omega) O D g) (k x _ g o)
 exact aBn O (aa _) (.inr (.inl rfl))
theorem bKq(r:∀a,le a a=true)(t:∀a b c,le a b=true->le b c=true->le a c=true){d:List α}{a e b:Nat}(B:b<=d.length)(f:a+1<=e)(l:e<=b)(w:Asc le d (a+1) b)
  (k:e=b\/∀x y,d[a]? = some x->d[e]? = some y->le x y=true) (h:e=a+1\/∀x y,d[a]? = some x->d[e-1]? = some y->le x y=false) :
  SegAs d (rotL d a (a+1) e) a b (List.merge (segL d a (a+1)) (segL d (a+1) b) le):=by
 obtain ⟨x,n⟩:=aIt (d:=d) (i:=a) O;refine aDo r t (s:=a) (e:=e) (mid:=a+(e-(a+1))) (d2:=rotL d a (a+1) e) B (aa _) O f l rfl (fun i j _ _ _ _ _=>by omega) w (.inl rfl) (by rcases h with h | h;exact .inr (.inl h);exact .inr (.inr h)) ?_ ?_
 ·exact aBn (aa _) O (.inl rfl)
 refine aBn O l ?_;rcases k with k | k
 ·exact .inr (.inl k)
 refine .inr (.inr fun u q v A=>?_);rw[aWk O f O,aMj n] at q;have m:u=x:=by simpa using q
 subst m;obtain ⟨i,o,z,p⟩:=aHn A;rw[aEr O f O (.inr o)] at p;obtain ⟨y,g⟩:=aIt (d:=d) (i:=e) O;exact t _ _ _ (k _ y n g) (w.le' r f o z g p)
theorem aPs {d b d2:List α}(j:i<d.length)(e:a<=i)(h:SegAs d b a i (ssort le (segL d a i)))(c:SegAs b d2 a (i+1) (List.merge (segL b a i) (segL b i (i+1)) le)):SegAs d d2 a (i+1) (ssort le (segL d a (i+1))):=by
 obtain ⟨y,f⟩:=aIt j;rw[h.here,h.other (.inr (aa _)),aMj f] at c;refine ⟨c.len.trans h.len,?_,fun t g=>(c.there t g).trans (h.there t O)⟩;rw[c.here,aDe e (dh i),aMj f,aKx]
end
def CL.cells (c:CL):List Value:=[.string c.path,.int .i64 c.kind,.string c.text]
theorem CL.cells_len(c:CL):c.cells.length=3:=rfl
theorem CL.len_flat(l:List CL):(l.flatMap CL.cells).length=l.length*3:=by
 induction l with
 | nil=>rfl
 | cons x l ih=>rw[aL,ae,ih,aD,CL.cells_len];omega
theorem aCd(l:List CL):∀u∈l.flatMap CL.cells,u.oneCell'=true:=by
 intro u a;obtain ⟨f,_,a⟩:=dF.1 a;simp only[CL.cells,ax,d7,iw] at a;rcases a with rfl | rfl | rfl<;>rfl
structure RowC (w:World) (g cap:Nat) (cs:List CL):Prop where
 ex:∃cur:Array Value,w.heap[g]? = some (.cells cur 94 (0,0))/\cur.size=cap*3/\cs.length<=cap/\cur.toList.take (cs.length*3)=cs.flatMap CL.cells
 few:cs.length<=1000000
theorem RowC.same(h:RowC w g cap cs)(e:w'.heap[g]? = w.heap[g]?):RowC w' g cap cs:=by
 obtain ⟨a,b,c⟩:=h.ex;exact ⟨⟨a,e.trans b,c⟩,h.few⟩
theorem RowC.lt(h:RowC w g cap cs):g<w.heap.size:=by
 obtain ⟨a,b,_⟩:=h.ex;exact (aU.1 b).1
theorem RowC.below(h:RowC w g cap cs)(a:Below w.heap.size w w'):RowC w' g cap cs:=h.same (a.block g h.lt)
theorem RowC.cell(h:RowC w g cap cs){k t:Nat}{c:CL}{u:Value}(j:cs[k]? = some c)(a:c.cells[t]? = some u):w.cell? ⟨g,k*3+t,none⟩=some u:=by
 obtain ⟨d,f,l,m,i⟩:=h.ex;have b:t<3:=(aj.1 a).1;have e:=(T.flat_at CL.cells_len j b).trans a;rw[bd w _ _ _ _ _ f];rw[<-i] at e;rw[fH] at e;split at e
 ·simpa using e
 cases e
theorem RowC.get(h:RowC w g cap cs){k:Nat}(a:k<cs.length) :
  ∃c,cs[k]? = some c/\w.cell? ⟨g,k*3,none⟩=some (.string c.path)/\w.cell? ⟨g,k*3+1,none⟩=some (.int .i64 c.kind)/\w.cell? ⟨g,k*3+2,none⟩=some (.string c.text):=
 ⟨cs[k],ac a,h.cell (t:=0) (ac a) rfl,h.cell (ac a) rfl,h.cell (ac a) rfl⟩
theorem CL.flat_set {l:List CL}{f:CL}(a:k<l.length):(l.flatMap CL.cells).take (k*3)++f.cells++(l.flatMap CL.cells).drop (k*3+3)=(l.set k f).flatMap CL.cells:=by
 rw[T.flat_take CL.cells_len,show k*3+3=(k+1)*3 by omega,T.flat_drop CL.cells_len,List.set_eq_take_append_cons_drop,ao a,aJ,aL,aH]
theorem aBb {a:Act}{x y:Operand}{A:Option (Tmp×Bool)}{d:Nat}{c:CL}(h:RowC w g cap cs)(B:k<cs.length)
  (C:d=k*3) (D:a.eval x=.pointer (some ⟨g,d,none⟩)) (E:a.eval y=.agg #[.string c.path,.int .i64 c.kind,.string c.text])
  (F:∀w',RowC w' g cap (cs.set k c)->w.grownBy w' (some g)->S w'/\K (a.put dst undef) w'):effq prog S ⟨q,dst,.store 94 x y,ty,A⟩ a w K:=by
 intro p G H;subst C;obtain ⟨b,n,s,t,u⟩:=h.ex;have o:(prog.info? 94).map (·.size)=some 3:=T;obtain ⟨i,j,l⟩:=be.1 o;have m:=jC prog g (k*3) 94 c.cells 0 b w n (by rw[CL.cells_len];omega) (fun v z=>aCd [c] v (by simpa using z))
 have f:(storeVar 94 ⟨g,k*3,none⟩ (.agg #[.string c.path,.int .i64 c.kind,.string c.text])).run prog w=.ok () (w.setRow g (b.toList.take (k*3)++c.cells++b.toList.drop (k*3+3)).toArray):=by
  simp only[dv,CL.cells_len] at m;simp[storeVar,sizeOf,typeInfo,j,l,Value.cells];simpa[CL.cells] using m
 unfold Oper.wp execOp;simp only[D,E,Instr.storeAt,Instr.sureAddr,bT,cE,bI,f];have e:b.toList.length=cap*3:=by rw[bg];exact s
 refine F _ ⟨⟨_,bB _ _ _ _ _ _ n,?_,by rw[du];exact t,?_⟩,by rw[du];exact h.few⟩ (aDm (cW w _) (.inr rfl))
 ·simp only[gB,ae,aE,aN,CL.cells_len,e];omega
 rw[du,<-CL.flat_set B,<-u,ei,bP O];have r:(b.toList.take (k*3)++c.cells).length=k*3+3:=by rw[ae,aE,e,CL.cells_len];omega
 simp only;rw[iH,ai O,r,kq]
theorem aDn {P:Program}{a:Act}{b:Op}{g:Option (Tmp×Bool)}
  (h:∀M:Addr->Option Value,(∀p v,w.cell? p=some v->M p=some v)->opq P M b a.eval (fun v=>S w/\K (a.put dst v) w)):effq P S ⟨q,dst,b,ty,g⟩ a w K:=by
 obtain ⟨v,c,d⟩:=aOf (S:=fun u=>u=w) (ty:=ty) (fun p v e u f=>by rw[f];exact e) (h (fun p=>w.cell? p) (fun _ _ h=>h));exact bEi (fun p i g=>c w _ p i g rfl) d
theorem aHm {α:Type}{d:List α}{x y:α}(b:d[i]? = some x)(g:d[j]? = some y):SwapAs d ((d.set i y).set j x) i j:=by
 have h:=(aj.1 b).1;have f:=(aj.1 g).1;refine ⟨by simp,fun t=>?_⟩;by_cases c:t=i
 ·subst c
  rw[ao rfl];by_cases a:j=t
  ·subst a
   rw[cK (by simpa using f),b]
  rw[gS a,cK h,g]
 rw[ah c];by_cases a:t=j
 ·subst a
  rw[ao rfl,cK (by simpa using f),b]
 rw[ah a,gS (fun e=>a e.symm),gS (fun e=>c e.symm)]
def RowTo (R:List CL->Prop)(g cap:Nat)(w:World)(e:Ending) (w':World):Prop:=e=.returned (.tuple #[])/\∃cs',R cs'/\RowC w' g cap cs'/\w.grownBy w' (some g)
theorem aFi {f:Value}(h:RowC w g cap cs)(nA:a+n<=b)(nB:b+n<=cs.length) :
  Calls prog 270 #[.slice (some ⟨g,0,none⟩) cs.length cap,.int .i64 a,.int .i64 b,.int .i64 n,f] w (RowTo (fun e=>RangeAs cs e a b n) g cap w):=by
 have HC:=hid (show cs.length<=1000000 from h.few);have nz:cs.length<=1000000:=HC.out;go_enter Tryz.func270,Tryz.ntmps270;go_wp2;go_loopw[10] (fun iv wr=>∃k:Nat,k<=n/\iv=.int .i64 k/\∃e,Hid (RangeAs cs e a b k)/\Hid (RowC wr g cap e)/\Hid (w.grownBy wr (some g))) (fun i _=>n-(intOf i).toNat)
 case atStart=>exact ⟨0,al _,rfl,cs,hid (RangeAs.start cs a b),hid h,hid (cW w _)⟩
 obtain ⟨k,hk,rfl,e,HR,HW,HG⟩:=hrel;by_cases nC:k<n
 ·have hl:e.length=cs.length:=HR.out.len
  have HL:=hid hl;obtain ⟨x,hx,x0,x1,x2⟩:=HW.out.get (k:=a+k) ω;obtain ⟨y,hy,y0,y1,y2⟩:=HW.out.get (k:=b+k) ω;have nm:=hid (aHm hx hy);clear hx hy hl;go_wp2;have J:((a:Int)+(k:Int)).toNat=a+k:=ω;have K:((b:Int)+(k:Int)).toNat=b+k:=ω;refine aAv (fun _=>True) (.q 0 (.q 1 (.q 2 (.q 3 (.q 4 (.q 5 (.q 6 (.q 7 (.q 8 (.q 9 (.q 10 (.q 11 (.q 12 (.q 14 (.q 15 (.q 16 (.q 17 (.q 18 (.two 13 (.one 19 (.q 20 (.one 21 (.q 22 (.one 23 .leaf))))) 19 (.one 13 (.q 20 (.one 21 (.q 22 (.one 23 .leaf)))))))))))))))))))))))) mixed κ trivial ?_;intro T M Q H nw hM hQ;clear hM;refine aCu ?_;intro O d;have L:=d true 0;have P:=d true 1;have R:=d true 2;have S:=d true 3;have U:=d true 4;have V:=d true 5;have W:=d true 6;have X:=d true 7;have Y:=d true 8;have Z:=d true 9;have t:=d true 10;have u:=d true 11;have v:=d true 12;have z:=d true 14;have A:=d true 15;have B:=d true 16;have C:=d true 17;have D:=d true 18;have l:=d true 20;have m:=d true 22;have o:=d false 13;have p:=d false 19;have r:=d false 21;have s:=d false 23;simp only[qcmp] at L P R S U V W X Y Z t u v z A B C D l m o p r s;clear d;simp (maxSteps:=9^7) only[↓wt_q,↓aBe,L,P,R,S,U,V,W,X,Y,Z,t,u,v,z,A,B,C,D,o,p,↓qpre,aAb,aAg,aAc,J,K];(repeat refine And.intro (by first|omega|(unfold inI64;omega)) ?_);refine ⟨?o1,?o2⟩
  case' o1=>
   refine aDn fun N j=>?_;have E:=j _ _ y0;have F:=j _ _ y1;have G:=j _ _ y2;simp (maxSteps:=9^7) only[↓aAn,p,↓qpre,aAb,aAg,aAc,E,F,G];clear E F G j;refine ⟨H _ trivial,?_⟩
   try simp (maxSteps:=9^7) only[↓wt_q,↓aAn,↓aBe,L,P,R,S,U,V,W,X,Y,Z,t,u,v,z,A,B,C,D,l,m,o,p,r,s,↓qpre,aAb,aAg,aAc,J,K]
   refine aDn fun N j=>?_;have E:=j _ _ x0;have F:=j _ _ x1;have G:=j _ _ x2;simp (maxSteps:=9^7) only[↓wt_q,↓aAn,l,r,↓qpre,aAb,aAg,aAc,J,E,F,G];clear E F G j;refine ⟨H _ trivial,?_⟩
   try simp (maxSteps:=9^7) only[↓wt_q,↓aAn,↓aBe,L,P,R,S,U,V,W,X,Y,Z,t,u,v,z,A,B,C,D,l,m,o,p,r,s,↓qpre,aAb,aAg,aAc,J,K]
   (repeat refine And.intro (by first|omega|(unfold inI64;omega)) ?_);refine aBb (cs:=e) (k:=a+k) (c:=y) (HW.out.same (w':=wr.drew) rfl) (by have:=HL.out;omega) rfl rfl rfl ?_;intro u1 I ff;refine ⟨H _ trivial,?_⟩
   try simp (maxSteps:=9^7) only[↓wt_q,↓aAn,m,s,↓qpre,aAb,aAg,aAc,K]
   (repeat refine And.intro (by first|omega|(unfold inI64;omega)) ?_);refine aBb (cs:=e.set (a+k) y) (k:=b+k) (c:=x) I (by rw[du];have:=HL.out;omega) rfl rfl rfl ?_;intro u2 nj nk;refine ⟨H _ trivial,?_⟩
   try simp (maxSteps:=9^7) only[aAb]
   refine hQ _ _ ?_
  case' o2=>
   refine aDn fun N j=>?_;have E:=j _ _ x0;have F:=j _ _ x1;have G:=j _ _ x2;simp (maxSteps:=9^7) only[↓aAn,o,↓qpre,aAb,aAg,aAc,E,F,G];clear E F G j;refine ⟨H _ trivial,?_⟩
   try simp (maxSteps:=9^7) only[↓wt_q,↓aAn,↓aBe,L,P,R,S,U,V,W,X,Y,Z,t,u,v,z,A,B,C,D,l,m,o,p,r,s,↓qpre,aAb,aAg,aAc,J,K]
   refine aDn fun N j=>?_;have E:=j _ _ y0;have F:=j _ _ y1;have G:=j _ _ y2;simp (maxSteps:=9^7) only[↓wt_q,↓aAn,l,r,↓qpre,aAb,aAg,aAc,J,E,F,G];clear E F G j;refine ⟨H _ trivial,?_⟩
   try simp (maxSteps:=9^7) only[↓wt_q,↓aAn,↓aBe,L,P,R,S,U,V,W,X,Y,Z,t,u,v,z,A,B,C,D,l,m,o,p,r,s,↓qpre,aAb,aAg,aAc,J,K]
   (repeat refine And.intro (by first|omega|(unfold inI64;omega)) ?_);refine aBb (cs:=e) (k:=a+k) (c:=y) (HW.out.same (w':=wr.drew) rfl) (by have:=HL.out;omega) rfl rfl rfl ?_;intro u1 I ff;refine ⟨H _ trivial,?_⟩
   try simp (maxSteps:=9^7) only[↓wt_q,↓aAn,m,s,↓qpre,aAb,aAg,aAc,K]
   (repeat refine And.intro (by first|omega|(unfold inI64;omega)) ?_);refine aBb (cs:=e.set (a+k) y) (k:=b+k) (c:=x) I (by rw[du];have:=HL.out;omega) rfl rfl rfl ?_;intro u2 nj nk;refine ⟨H _ trivial,?_⟩
   try simp (maxSteps:=9^7) only[aAb]
   refine hQ _ _ ?_
  all_goals clear hQ H nw L P R S U V W X Y Z t u v z A B C D l m o p r s
  all_goals
   have nq:=hid nj;have nr:=hid ((HG.out.trans (World.grownBy.trans (show wr.grownBy wr.drew (some g) from ⟨rfl,rfl,rfl,aa _,fun _ _ _=>rfl⟩) ff)).trans nk);have ns:=hid (HR.out.step nm.out ω);clear I ff nj nk HW HG HR nm J K x0 x1 x2 y0 y1 y2;go_wp2;go_roundw
   case rel=>exact ⟨k+1,ω,by go_num,_,ns,nq,nr⟩
   simp[intOf];omega
 have nu:k=n:=ω;subst nu;go_wp2;refine aI (aF rfl _ _ _) rfl ?_;exact ⟨rfl,e,HR.out,HW.out,HG.out⟩
def whereL (base side:List FV)(L:List (Nat×Nat))(f:FV):Option FV:=
 match findP side f.path with
 | some x=>some x
 | none=>(sendL base side L f.path).bind fun d=>findP side d
theorem bFq(a:(base.map FV.path).Nodup)(b:L.Perm (pairsF base side))(f:FV):whereL base side L f=whereF base side f:=by
 unfold whereL whereF;rw[aXn a b]
 cases findP side f.path<;>rfl
theorem aPa {P:Program}{a:Act}{m x:Operand}{c:Bool}{g:Option (Tmp×Bool)}{key v:Value}(d:a.eval m=mv)(e:a.eval x=key)
  (b:(Instr.lookup t mv key c).run P w=.ok v w) (f:S w/\K (a.put dst v) w):effq P S ⟨q,dst,.lookup t m x c,ty,g⟩ a w K:=by
 intro p h g;unfold Oper.wp execOp;simp only[d,e,b,bT,cE,bI];exact f
theorem zeroFile(w:World):(zeroValue 48).run prog w=.ok (.agg #[.string ⟨#[]⟩,.bool false,.string ⟨#[]⟩]) w:=mL w
theorem SideIs.cells(h:SideIs w B s fs base side L):∃a b c d,w.heap[s]? = some (.cells #[fs,.map (some a),.map (some b)] 214 (0,0))/\MpT w a c d (sendL base side L):=by
 obtain ⟨⟨a,b,c,g,d,i,e,f,_⟩,_⟩:=h.ex,h.lo;exact ⟨a,b,c,d,e,f⟩
theorem bFd {f:FV}(hn:n<=100000)(h:SideIs w B s (.slice A n c) base side L)(hr:RdF w w.heap.size A n c side)(hf:f.path.size<=maxLen) :
  Calls prog 151 #[.pointer (some ⟨s,0,none⟩),.agg #[.string f.path,.bool f.exec,.string f.text]] w (FoundIs (whereL base side L f) w):=by
 obtain ⟨V,eV⟩:∃V,V=(w.alloc (.cells #[.string f.path,.bool f.exec,.string f.text] 48)).alloc (.cells #[.string ⟨#[]⟩,.bool false,.string ⟨#[]⟩] 48):=⟨_,rfl⟩;have k:Below w.heap.size w (w.alloc (.cells #[.string f.path,.bool f.exec,.string f.text] 48)):=(Below.refl _ _).alloc (aa _) _;have Y:Below (w.alloc (.cells #[.string f.path,.bool f.exec,.string f.text] 48)).heap.size (w.alloc (.cells #[.string f.path,.bool f.exec,.string f.text] 48)) V:=by rw[eV];exact (Below.refl _ _).alloc (aa _) _
 have v:Below w.heap.size w V:=k.trans (Y.mono k.size);have nr:V.heap.size=w.heap.size+2:=by rw[eV];simp
 have G:=hid ((Y.block w.heap.size (by simp)).trans (au w (.cells #[.string f.path,.bool f.exec,.string f.text] 48)))
 have HZ:Hid (V.heap[w.heap.size+1]? = some (.cells #[.string ⟨#[]⟩,.bool false,.string ⟨#[]⟩] 48 (0,0))):=by
  have:=au (w.alloc (.cells #[.string f.path,.bool f.exec,.string f.text] 48)) (.cells #[.string ⟨#[]⟩,.bool false,.string ⟨#[]⟩] 48);rw[<-eV] at this;exact hid (by simpa using this)
 have HV:=hid v;have nF:=hid nr;have HF:=hid (fun (u:World) (hu:Below V.heap.size V u) (p:ByteArray)=>aJl (p:=p) ω (hr.to (v.trans (hu.mono v.size)) (aw v.size hu.size)));have nB:=hid (h.below v);have m:(prog.info? 48).map (·.size)=some 3:=κ;obtain ⟨m1,m2,n1,D1,nz,nA⟩:=nB.out.cells;have H:=hid nz;have nC:=hid nA;clear k Y v nr h hr nz nA;go_enter Tryz.func151,Tryz.ntmps151;go_wp2;rw[<-eV];clear eV;refine aAv (fun u=>Below V.heap.size V u) (.q 0 (.q 1 (.q 2 (.q 3 (.q 4 (.q 5 (.two 6 (.q 7 (.q 8 (.q 9 (.one 10 (.one 11 (.q 12 .leaf)))))) 10 (.one 6 (.q 7 (.q 8 (.q 9 (.one 11 (.q 12 .leaf))))))))))))) mixed κ (Below.refl _ _).drew ?_;intro Tp M Q F nm hM hQ;have m0:M ⟨s,0,none⟩=some (.slice A n c):=hM _ _ fun w' hw=>by rw[ab ((hw.block _ (aAa H.out)).trans H.out)];rfl
 have x:M ⟨w.heap.size,0,none⟩=some (.string f.path):=hM _ _ fun w' hw=>by rw[ab ((hw.block _ (aAa G.out)).trans G.out)];rfl
 clear hM;refine aCu ?_;intro O i;have Z:=i true 0;have t1:=i true 1;have t2:=i true 2;have t3:=i true 3;have t4:=i true 4;have t5:=i true 5;have t7:=i true 7;have S:=i true 8;have T:=i true 9;have o:=i true 12;have e6:=i false 6;have I:=i false 10;have J:=i false 11;simp only[qcmp] at Z t1 t2 t3 t4 t5 t7 S T o e6 I J;clear i;simp (maxSteps:=9^7) only[↓wt_q,↓aBe,Z,t1,t2,t3,t4,t5,e6,I,↓qpre,aAb,aAg,aAc,m0,x];refine ⟨?ord1,?ord2⟩
 case' ord1=>
  refine aAh κ (HF.out V.drew (Below.refl _ _).drew f.path) rfl rfl ?_;rintro e u1 ⟨rfl,k⟩;have a:Below V.heap.size V u1:=(Below.refl V.heap.size V).drew.trans k;refine ⟨_,rfl,F _ a,?_⟩;simp (maxSteps:=9^7) only[↓wt_q,↓aAn,t7,S,T,I,↓qpre,aAb,aAc];refine aBr zeroFile ⟨F _ (a.alloc a.size _),?_⟩;simp (maxSteps:=9^7) only[↓aAn,J,aAb,aAc];have hN:=au u1 (.cells #[.string ⟨#[]⟩,.bool false,.string ⟨#[]⟩] 48);refine aAp (cells:=#[.string (optF (findP side f.path)).path,.bool (optF (findP side f.path)).exec,.string (optF (findP side f.path)).text]) rfl rfl hN m rfl (by simp[Value.oneCell']) ⟨F _ (aAj (a.alloc a.size _) a.size),?_⟩;simp (maxSteps:=9^7) only[↓wt_q,o,↓qpre,aAb,aAc];refine hQ _ _ ?_;have j:=hid (bB _ _ _ #[.string (optF (findP side f.path)).path,.bool (optF (findP side f.path)).exec,.string (optF (findP side f.path)).text] _ _ hN);have l:=hid (aAj (cs:=#[.string (optF (findP side f.path)).path,.bool (optF (findP side f.path)).exec,.string (optF (findP side f.path)).text]) (a.alloc a.size (.cells #[.string ⟨#[]⟩,.bool false,.string ⟨#[]⟩] 48)) a.size);have K:=hid a.size;simp only[Value.cells] at j l ⊢;generalize World.setRow _ _ _=U at *;generalize u1.heap.size=R at *;clear hN a k
 case' ord2=>
  refine aBr zeroFile ⟨F _ ((Below.refl V.heap.size V).drew.alloc (aa _) _),?_⟩;simp (maxSteps:=9^7) only[↓aAn,e6,aAb,aAc];have N:Below V.heap.size V (V.drew.alloc (.cells #[.string ⟨#[]⟩,.bool false,.string ⟨#[]⟩] 48)):=(Below.refl V.heap.size V).drew.alloc (aa _) _;refine aAh κ (HF.out _ N f.path) rfl rfl ?_;rintro e u1 ⟨rfl,k⟩;have a:Below V.heap.size V u1:=N.trans (k.mono N.size);refine ⟨_,rfl,F _ a,?_⟩;simp (maxSteps:=9^7) only[↓wt_q,↓aAn,t7,S,T,J,↓qpre,aAb,aAc];have hN:=(k.block V.heap.size (by simp)).trans (au V.drew (.cells #[.string ⟨#[]⟩,.bool false,.string ⟨#[]⟩] 48));refine aAp (cells:=#[.string (optF (findP side f.path)).path,.bool (optF (findP side f.path)).exec,.string (optF (findP side f.path)).text]) rfl rfl hN m rfl (by simp[Value.oneCell']) ⟨F _ (aAj a (aa _)),?_⟩;simp (maxSteps:=9^7) only[↓wt_q,o,↓qpre,aAb,aAc];refine hQ _ _ ?_;have j:=hid (bB _ _ _ #[.string (optF (findP side f.path)).path,.bool (optF (findP side f.path)).exec,.string (optF (findP side f.path)).text] _ _ hN);have l:=hid (aAj (cs:=#[.string (optF (findP side f.path)).path,.bool (optF (findP side f.path)).exec,.string (optF (findP side f.path)).text]) a (aa V.heap.size));have K:=hid (aa V.heap.size);obtain ⟨R,E⟩:∃R,R=V.drew.heap.size:=⟨_,rfl⟩;rw[<-E];obtain ⟨U,eU⟩:∃U,U=u1.setRow V.heap.size #[.string (optF (findP side f.path)).path,.bool (optF (findP side f.path)).exec,.string (optF (findP side f.path)).text]:=⟨_,rfl⟩;rw[<-eU] at j l;rw[show u1.setRow R #[.string (optF (findP side f.path)).path,.bool (optF (findP side f.path)).exec,.string (optF (findP side f.path)).text]=U by rw[eU,E];rfl]
  clear eU;replace j:Hid (U.heap[R]? = some (.cells #[.string (optF (findP side f.path)).path,.bool (optF (findP side f.path)).exec,.string (optF (findP side f.path)).text] 48 (0,0))):=by rw[E];exact j
  replace K:Hid (V.heap.size<=R):=by rw[E];exact K
  clear E N a k hN
 all_goals
  clear hQ F nm Z t1 t2 t3 t4 t5 t7 S T o e6 I J m0 x;have ff:Hid (Below w.heap.size w U):=hid (HV.out.trans (l.out.mono HV.out.size));have P:Hid (U.heap[w.heap.size+1]? = some (.cells #[.string ⟨#[]⟩,.bool false,.string ⟨#[]⟩] 48 (0,0))):=hid ((l.out.block _ (aAa HZ.out)).trans HZ.out)
  cases ho:findP side f.path with
  | some g=>
   rw[ho] at j;simp only[optF,da,d8] at j ⊢;have y:=hid (show whereL base side L f=some g by unfold whereL;rw[ho]);have d0:U.cell? ⟨R,0,none⟩=some (.string g.path):=(by rw[ab j.out];rfl);have d1:U.cell? ⟨R,1,none⟩=some (.bool g.exec):=(by rw[ab j.out];rfl);have d2:U.cell? ⟨R,2,none⟩=some (.string g.text):=(by rw[ab j.out];rfl);have HR:=hid (bB U _ _ #[.string g.path,.bool g.exec,.string g.text] _ _ P.out);have z:=hid (aAj (cs:=#[.string g.path,.bool g.exec,.string g.text]) ff.out (dh w.heap.size));clear ho;go_wp2_with (refine bJ rfl 48 (.tmp 4) (.tmp 21) rfl (w.heap.size+1) #[.string g.path,.bool g.exec,.string g.text] rfl rfl _ _ P.out m rfl (by simp[Value.oneCell']) ?_)
   try simp only[Exit.inBlock,Exit.then]
   refine bz (aAm rfl _ _ (w.heap.size+1) _ _ (0,0) _ rfl HR.out dx rfl κ) rfl ?_;exact ⟨by rw[y.out];rfl,z.out⟩
  | none=>
   clear j K;simp only[optF,dr,gY];have C:=hid ((l.out.block _ (aAa G.out)).trans G.out);have r:=hid ((l.out.block _ (aAa H.out)).trans H.out);have W:=hid (nC.out.below l.out);have ns:=hid (fun (u:World) (hu:Below U.heap.size U u)=>(W.out.below hu).look hf);have nG:=hid (fun u=>aJd u);go_wp2;refine aAv (fun u=>Below U.heap.size U u) (.q 0 (.q 1 (.q 2 (.q 3 (.q 4 (.q 5 (.b 6 (.one 7 (.q 8 (.q 9 (.q 10 (.q 11 (.q 12 .leaf))))))))))))) mixed κ (Below.refl _ _).drew ?_;intro Tp M Q F nm hM hQ;have m0:M ⟨s,1,none⟩=some (.map (some m1)):=hM _ _ fun w' hw=>(by rw[ab ((hw.block _ (aAa r.out)).trans r.out)];rfl);have x:M ⟨w.heap.size,0,none⟩=some (.string f.path):=hM _ _ fun w' hw=>(by rw[ab ((hw.block _ (aAa C.out)).trans C.out)];rfl);clear hM;refine aCu ?_;intro O i;have Z:=i true 0;have t1:=i true 1;have t2:=i true 2;have t3:=i true 3;have t4:=i true 4;have t5:=i true 5;have t6:=i true 6;have S:=i true 8;have T:=i true 9;have nj:=i true 10;have nk:=i true 11;have o:=i true 12;have e7:=i false 7;simp only[qcmp] at Z t1 t2 t3 t4 t5 t6 S T nj nk o e7;clear i;simp (maxSteps:=9^7) only[↓wt_q,↓wt_b,Z,t1,t2,t3,t4,t5,↓qpre,aAb,aAg,aAc,t6,m0,x];refine aCc rfl (fun w=>aMp _ w) ?_;simp (maxSteps:=9^7) only[↓aAn,e7,aAb,aAc];refine aPa rfl rfl (ns.out _ (Below.refl _ _).drew) ⟨F _ (Below.refl _ _).drew,?_⟩;simp (maxSteps:=9^7) only[↓wt_q,S,T,nj,nk,o,↓qpre,aAb,aAc];refine hQ _ _ ?_;clear hQ F nm Z t1 t2 t3 t4 t5 t6 S T nj nk o e7 m0 x;have D:Hid (Below w.heap.size w U.drew):=ff.out.drew;have t:Hid (U.drew.heap[w.heap.size+1]? = some (.cells #[.string ⟨#[]⟩,.bool false,.string ⟨#[]⟩] 48 (0,0))):=P
   have nu:Hid (U.drew.heap[s]? = some (.cells #[.slice A n c,.map (some m1),.map (some m2)] 214 (0,0))):=r;have nD:=hid (fun p=>HF.out U.drew l.out.drew p);clear ns W ff P r C;generalize U.drew=X at *
   cases hs:sendL base side L f.path with
   | none=>
    simp only[dr,gY];have y:=hid (show whereL base side L f=none by unfold whereL;rw[ho,hs];rfl);clear ho hs;have hz:=aJd X;have HR:=hid (bB X _ _ #[.string ⟨#[]⟩,.bool false,.string ⟨#[]⟩] _ _ t.out);have z:=hid (aAj (cs:=#[.string ⟨#[]⟩,.bool false,.string ⟨#[]⟩]) D.out (dh w.heap.size));go_wp2_with (refine bJ rfl 48 (.tmp 4) (.tmp 35) rfl (w.heap.size+1) #[.string ⟨#[]⟩,.bool false,.string ⟨#[]⟩] rfl rfl _ _ t.out m rfl (by simp[Value.oneCell']) ?_)
    try simp only[Exit.inBlock,Exit.then]
    refine bz (aAm rfl _ _ (w.heap.size+1) _ _ (0,0) _ rfl HR.out dx rfl κ) rfl ?_;exact ⟨by rw[y.out];rfl,z.out⟩
   | some d=>
    simp only[da,d8];have y:=hid (show whereL base side L f=findP side d by unfold whereL;rw[ho,hs];rfl);clear ho hs;have c0:X.cell? ⟨s,0,none⟩=some (.slice A n c):=(by rw[ab nu.out];rfl);have KF:=nD.out d;go_wp2_with fail;refine KF.mono ?_;rintro e x1 ⟨rfl,nq⟩;clear KF c0;have nw:=hid ((nq.block _ (aAa t.out)).trans t.out);have nE:=hid (D.out.trans (nq.mono D.out.size));clear nq;have HR:=hid (bB x1 _ _ #[.string (optF (findP side d)).path,.bool (optF (findP side d)).exec,.string (optF (findP side d)).text] _ _ nw.out);have z:=hid (aAj (cs:=#[.string (optF (findP side d)).path,.bool (optF (findP side d)).exec,.string (optF (findP side d)).text]) nE.out (dh w.heap.size));go_wp2_with (refine bJ rfl 48 (.tmp 4) (.tmp 42) rfl (w.heap.size+1) #[.string (optF (findP side d)).path,.bool (optF (findP side d)).exec,.string (optF (findP side d)).text] rfl rfl _ _ nw.out m rfl (by simp[Value.oneCell']) ?_)
    try simp only[Exit.inBlock,Exit.then]
    refine bz (aAm rfl _ _ (w.heap.size+1) _ _ (0,0) _ rfl HR.out dx rfl κ) rfl ?_;exact ⟨by rw[y.out];rfl,z.out⟩
end Go.Proofs.YtohblmepajhpaaaGreatDoor
