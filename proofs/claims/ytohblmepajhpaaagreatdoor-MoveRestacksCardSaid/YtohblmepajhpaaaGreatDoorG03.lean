/- Contracts of functions that the law reaches, and plain laws of what they compute. -/
import Derived.Test.YtohblmepajhpaaaGreatDoorG02
set_option maxHeartbeats 8000000
set_option maxRecDepth 100000
open Go.Lib (hid)
namespace Go.Proofs.YtohblmepajhpaaaGreatDoor
open Go.RowKit
theorem T.flat_at {α:Type}{f:α->List Value}{sz:Nat}(hf:∀a,(f a).length=sz):∀{l:List α} {k t:Nat} {a:α},l[k]? = some a->t<sz->(l.flatMap f)[k*sz+t]? = (f a)[t]?
 | x::l,0,t,a,h,ht=>by
  simp at h;subst h
  rw[List.flatMap_cons,Nat.zero_mul,Nat.zero_add,List.getElem?_append_left (by rw[hf];exact ht)]
 | x::l,k+1,t,a,h,ht=>by
  simp at h
  rw[List.flatMap_cons,List.getElem?_append_right (by rw[hf,Nat.succ_mul];omega),hf,show (k+1)*sz+t-sz=k*sz+t by rw[Nat.succ_mul];omega]
  exact T.flat_at hf h ht
theorem T.rd_flat {α:Type}{f:α->List Value}{sz:Nat}(hf:∀a,(f a).length=sz)(_h0:0<sz){w:World}{B n c:Nat}{A:Option Addr}{l:List α}(h:Rd w B sz A n c (l.flatMap f))(hl:l.length=n){k:Nat}(hk:k<n) :
  ∃b o a,A=some ⟨b,o,none⟩/\b<B/\l[k]? = some a/\a∈l/\∀t u,(f a)[t]? = some u->w.cell? ⟨b,o+k*sz+t,none⟩=some u:=by
 obtain ⟨b,o,e,hb,hc⟩:=h.at_ (by omega)
 have hg:l[k]? = some l[k]:=List.getElem?_eq_getElem (by omega)
 refine ⟨b,o,l[k],e,hb,hg,List.getElem_mem _,fun t u hu=>?_⟩
 have ht:t<sz:=by rw[<-hf l[k]];exact (List.getElem?_eq_some_iff.1 hu).1
 rw[Nat.add_assoc]
 exact hc _ _ ((T.flat_at hf hg ht).trans hu)
theorem FV.cells_len (f:FV):f.cells.length=3:=rfl
structure RdF (w:World) (B:Nat) (A:Option Addr) (n c:Nat) (l:List FV):Prop where
 row:Rd w B 3 A n c (l.flatMap FV.cells)
 len:l.length=n
 fits:∀f∈l,f.path.size<=140737488351232/\f.text.size<=140737488351232
theorem RdF.get {w:World}{B n c:Nat}{A:Option Addr}{l:List FV}(h:RdF w B A n c l){k:Nat}(hk:k<n) :
  ∃b o f,A=some ⟨b,o,none⟩/\b<B/\l[k]? = some f/\f∈l/\w.cell? ⟨b,o+k*3,none⟩=some (.string f.path)/\w.cell? ⟨b,o+k*3+1,none⟩=some (.bool f.exec)/\w.cell? ⟨b,o+k*3+2,none⟩=some (.string f.text):=by
 obtain ⟨b,o,f,e,hb,hg,hm,hc⟩:=T.rd_flat FV.cells_len (by omega) h.row h.len hk
 exact ⟨b,o,f,e,hb,hg,hm,hc 0 _ rfl,hc 1 _ rfl,hc 2 _ rfl⟩
section
variable {w w':World} {B B' n c:Nat} {A:Option Addr} {l:List FV}
theorem RdF.to (h:RdF w B A n c l)(hb:Below B w w')(hB:B<=B'):RdF w' B' A n c l:=⟨h.row.to hb hB,h.len,h.fits⟩
theorem RdF.drew (h:RdF w B A n c l):RdF w.drew B A n c l:=⟨h.row.drew,h.len,h.fits⟩
theorem RdF.none_ (w:World)(B:Nat):RdF w B none 0 0 []:=⟨Rd.none_ _ _ _,rfl,by simp⟩
end
def pathsOf (l:List FV)(q:Bs):Bool:=l.any fun f=>decide (f.p=q)
theorem aLz {l:List FV}{q:Bs}:pathsOf l q=true↔∃f∈l,f.p=q:=by simp[pathsOf]
theorem aTx (l:List FV)(f:FV)(q:Bs):pathsOf (l++[f]) q=(pathsOf l q || decide (f.p=q)):=by simp[pathsOf]
def MapP (B N:Nat)(S:Bs->Bool)(w:World)(e:Ending) (w':World):Prop:=
 ∃(b nn:Nat) (D:DataW Value),e=.returned (.map (some b))/\B<=b/\b<w'.heap.size/\nn<=N/\SetP w' b nn D S/\Below B w w'
theorem bEk {A:Option Addr}{n c:Nat}{l:List FV}{w:World}(hn:n<=17592186044416)(h:RdF w w.heap.size A n c l) :
  Calls Tryz.prog 103 #[.slice A n c] w (MapP w.heap.size n (pathsOf l) w):=by
 have HL:=hid h.len
 have hmm:=@run_makeMap Tryz.prog
 have hS0:=SetP.start w
 have hb0:Below w.heap.size w (w.alloc (.map #[] 0)):=(Below.refl _ _).alloc (Nat.le_refl _) _
 have hz0:(w.alloc (.map #[] 0)).heap.size=w.heap.size+1:=by simp
 go_enter Tryz.func103,Tryz.ntmps103
 go_wp2
 go_loopw[9] (fun i wr=>∃(k:Nat) (D:DataW Value),k<=n/\i=.int .i64 k/\Below w.heap.size w wr/\w.heap.size<wr.heap.size/\SetP wr w.heap.size k D (pathsOf (l.take k))) (fun i _=>n-(intOf i).toNat)
 case atStart=>exact ⟨0,_,Nat.zero_le _,rfl,hb0,by omega,hS0⟩
 obtain ⟨k,D,hk,rfl,hb,hz,hS⟩:=hrel
 clear hS0
 by_cases hlt:k<n
 ·obtain ⟨b0,o0,f,rfl,hbb,hx,hm,h0,h1,h2⟩:=h.get hlt
  replace h0:=(hb.cell (p:=⟨b0,o0+k*3,none⟩) (by show b0<_;omega)).trans h0
  replace h1:=(hb.cell (p:=⟨b0,o0+k*3+1,none⟩) (by show b0<_;omega)).trans h1
  replace h2:=(hb.cell (p:=⟨b0,o0+k*3+2,none⟩) (by show b0<_;omega)).trans h2
  have HX:=hid hx;clear hx
  have hfit:=(h.fits f hm).1
  have hS1:=hS.kept (World.grownBy_alloc wr (.cells #[.string f.path,.bool f.exec,.string f.text] 48) none) (by simp)
  have hb1:=hb.alloc hb.size (.cells #[.string f.path,.bool f.exec,.string f.text] 48)
  have hrk:=bGl (wr.alloc (.cells #[.string f.path,.bool f.exec,.string f.text] 48)) f.path
  go_wp2_with (at_mapUpdate;refine wpList_mapUpdate_own _ rfl _ _ _ 153 rfl 172 4 KP Tryz.underlying153 (plainElem Tryz.prog 4) w.heap.size k D rfl hS1.own (by unfold maxLen;omega) _ _ _ rfl rfl (keyP (by unfold maxLen;omega)) _ [] (boolT true) ?_;intro w5 hown5 hg5)
  go_roundw
  case rel=>
   refine ⟨k+1,_,by omega,by go_num,hb1.grown hg5 (by simp;omega) (fun g hg=>by injection hg with hg;omega),Nat.lt_of_lt_of_le (by simp;omega) hg5.size,hS1.put (by unfold maxLen;omega) hown5 fun x=>?_⟩
   rw[List.take_add_one,HX.out]
   exact aTx _ _ _
  simp[intOf];omega
 have hkn:k=n:=by omega
 subst hkn
 go_wp2
 go_ret
 rw[List.take_of_length_le (by rw[HL.out];omega)] at hS
 exact ⟨_,k,D,rfl,Nat.le_refl _,hz,Nat.le_refl _,hS,hb⟩
end Go.Proofs.YtohblmepajhpaaaGreatDoor
namespace Go.Proofs.YtohblmepajhpaaaGreatDoor
structure DV where
 kind:Int
 line:ByteArray
deriving DecidableEq
def DV.cells (e:DV):List Value:=[.int .i64 e.kind,.string e.line]
theorem DV.cells_len (e:DV):e.cells.length=2:=rfl
def lcs:List ByteArray->List ByteArray->Nat
 | [],_=>0
 | _::_,[]=>0
 | x::a,y::b=>if x=y then lcs a b+1 else max (lcs a (y::b)) (lcs (x::a) b)
termination_by a b=>a.length+b.length
theorem bIh (a:List ByteArray):lcs a []=0:=by cases a<;>simp[lcs]
theorem aSj:∀(a b:List ByteArray),lcs a b<=a.length
 | [],_=>by simp[lcs]
 | _::_,[]=>by simp[lcs]
 | x::a,y::b=>by
  rw[lcs]
  have h1:=aSj a b
  have h2:=aSj a (y::b)
  have h3:=aSj (x::a) b
  simp only[List.length_cons] at *
  split<;>omega
termination_by a b=>a.length+b.length
def cel (a b:List ByteArray)(i k:Nat):Nat:=lcs (a.drop i) (b.drop k)
theorem aRj (a b:List ByteArray)(i k:Nat):cel a b i k<=a.length:=by
 have:=aSj (a.drop i) (b.drop k)
 rw[List.length_drop] at this
 unfold cel
 omega
theorem aXe (a b:List ByteArray)(k:Nat):cel a b a.length k=0:=by simp[cel,lcs]
theorem bCr (a b:List ByteArray)(i:Nat):cel a b i b.length=0:=by simp[cel,bIh]
theorem aWu {a b:List ByteArray}{i k:Nat}{x y:ByteArray}(hx:a[i]? = some x)(hy:b[k]? = some y) :
  cel a b i k=if x=y then cel a b (i+1) (k+1)+1 else max (cel a b (i+1) k) (cel a b i (k+1)):=by
 obtain ⟨hi,rfl⟩:=List.getElem?_eq_some_iff.1 hx
 obtain ⟨hk,rfl⟩:=List.getElem?_eq_some_iff.1 hy
 unfold cel
 rw[List.drop_eq_getElem_cons hi,List.drop_eq_getElem_cons hk,lcs]
def scrT:List ByteArray->List ByteArray->List DV
 | [],[]=>[]
 | x::a,[]=>⟨2,x⟩::scrT a []
 | [],y::b=>⟨3,y⟩::scrT [] b
 | x::a,y::b=>if x=y then ⟨1,x⟩::scrT a b else if lcs (x::a) b<=lcs a (y::b) then ⟨2,x⟩::scrT a (y::b) else ⟨3,y⟩::scrT (x::a) b
termination_by a b=>a.length+b.length
def pfx:List ByteArray->List ByteArray->Nat
 | x::a,y::b=>if x=y then pfx a b+1 else 0
 | _,_=>0
def evs (k:Int)(l:List ByteArray):List DV:=l.map fun x=>⟨k,x⟩
def rest (a b:List ByteArray):List DV:=if 400<a.length\/400<b.length then evs 2 a++evs 3 b else scrT a b
def script (a b:List ByteArray):List DV:=evs 1 (a.take (pfx a b))++rest (a.drop (pfx a b)) (b.drop (pfx a b))
def olds (l:List DV):List ByteArray:=l.flatMap fun e=>if e.kind=3 then [] else [e.line]
def news (l:List DV):List ByteArray:=l.flatMap fun e=>if e.kind=2 then [] else [e.line]
def kinds (l:List DV):Prop:=∀e∈l,e.kind=1\/e.kind=2\/e.kind=3
theorem aGl:∀a b:List ByteArray,(scrT a b).length<=a.length+b.length
 | [],[]=>by simp[scrT]
 | x::a,[]=>by rw[scrT];have:=aGl a [];simp at *;omega
 | [],y::b=>by rw[scrT];have:=aGl [] b;simp at *;omega
 | x::a,y::b=>by
  rw[scrT]
  have h1:=aGl a b
  have h2:=aGl a (y::b)
  have h3:=aGl (x::a) b
  simp only[List.length_cons] at *
  split
  ·simp only[List.length_cons];omega
  split<;>(simp only[List.length_cons];omega)
termination_by a b=>a.length+b.length
theorem aDp:∀a b:List ByteArray,olds (scrT a b)=a/\news (scrT a b)=b/\kinds (scrT a b)
 | [],[]=>by simp[scrT,olds,news,kinds]
 | x::a,[]=>by
  obtain ⟨h1,h2,h3⟩:=aDp a []
  rw[scrT]
  refine ⟨by simp only[olds,List.flatMap_cons] at *;rw[h1];simp,by simp only[news,List.flatMap_cons] at *;rw[h2];simp,?_⟩
  intro e he
  rcases List.mem_cons.1 he with rfl | he
  ·simp
  exact h3 e he
 | [],y::b=>by
  obtain ⟨h1,h2,h3⟩:=aDp [] b
  rw[scrT]
  refine ⟨by simp only[olds,List.flatMap_cons] at *;rw[h1];simp,by simp only[news,List.flatMap_cons] at *;rw[h2];simp,?_⟩
  intro e he
  rcases List.mem_cons.1 he with rfl | he
  ·simp
  exact h3 e he
 | x::a,y::b=>by
  rw[scrT]
  split
  ·rename_i hxy
   obtain ⟨h1,h2,h3⟩:=aDp a b
   refine ⟨by simp only[olds,List.flatMap_cons] at *;rw[h1];simp,by simp only[news,List.flatMap_cons] at *;rw[h2];simp[hxy],?_⟩
   intro e he
   rcases List.mem_cons.1 he with rfl | he
   ·simp
   exact h3 e he
  split
  ·obtain ⟨h1,h2,h3⟩:=aDp a (y::b)
   refine ⟨by simp only[olds,List.flatMap_cons] at *;rw[h1];simp,by simp only[news,List.flatMap_cons] at *;rw[h2];simp,?_⟩
   intro e he
   rcases List.mem_cons.1 he with rfl | he
   ·simp
   exact h3 e he
  obtain ⟨h1,h2,h3⟩:=aDp (x::a) b
  refine ⟨by simp only[olds,List.flatMap_cons] at *;rw[h1];simp,by simp only[news,List.flatMap_cons] at *;rw[h2];simp,?_⟩
  intro e he
  rcases List.mem_cons.1 he with rfl | he
  ·simp
  exact h3 e he
termination_by a b=>a.length+b.length
theorem aXk (l m:List DV):olds (l++m)=olds l++olds m:=by simp[olds]
theorem aXb (l m:List DV):news (l++m)=news l++news m:=by simp[news]
theorem aPv (a:List ByteArray):olds (evs 1 a)=a/\news (evs 1 a)=a/\olds (evs 2 a)=a/\news (evs 2 a)=[]/\olds (evs 3 a)=[]/\news (evs 3 a)=a:=by
 induction a with
 | nil=>simp[evs,olds,news]
 | cons x a ih=>
  simp only[evs,olds,news,List.map_cons,List.flatMap_cons] at *
  simp[ih]
theorem aLy (k:Int)(hk:k=1\/k=2\/k=3)(a:List ByteArray):kinds (evs k a):=by
 intro e he
 obtain ⟨x,_,rfl⟩:=List.mem_map.1 he
 exact hk
theorem aSt {l m:List DV}(h:kinds l) (h':kinds m):kinds (l++m):=by
 intro e he
 rcases List.mem_append.1 he with he | he
 ·exact h e he
 exact h' e he
theorem bCh (a b:List ByteArray):olds (rest a b)=a/\news (rest a b)=b/\kinds (rest a b):=by
 unfold rest
 split
 ·obtain ⟨_,_,h1,h2,_,_⟩:=aPv a
  obtain ⟨_,_,_,_,h3,h4⟩:=aPv b
  rw[aXk,aXb,h1,h2,h3,h4]
  exact ⟨by simp,by simp,aSt (aLy 2 (by simp) a) (aLy 3 (by simp) b)⟩
 exact aDp a b
theorem aEz:∀a b:List ByteArray,a.take (pfx a b)=b.take (pfx a b)
 | x::a,y::b=>by
  rw[pfx]
  split
  ·rename_i h
   subst h
   simp[aEz a b]
  simp
 | [],_=>by simp[pfx]
 | _::_,[]=>by simp[pfx]
theorem aMx (a b:List ByteArray):olds (script a b)=a/\news (script a b)=b/\kinds (script a b):=by
 obtain ⟨h1,h2,_⟩:=aPv (a.take (pfx a b))
 obtain ⟨h3,h4,h5⟩:=bCh (a.drop (pfx a b)) (b.drop (pfx a b))
 unfold script
 rw[aXk,aXb,h1,h2,h3,h4]
 exact ⟨List.take_append_drop _ _,by rw[aEz,List.take_append_drop],aSt (aLy 1 (by simp) _) h5⟩
theorem bAi (a b:List ByteArray):(script a b).length<=a.length+b.length:=by
 unfold script rest
 have h:=aGl (a.drop (pfx a b)) (b.drop (pfx a b))
 rw[List.length_drop,List.length_drop] at h
 have hp:=congrArg List.length (aEz a b)
 rw[List.length_take,List.length_take] at hp
 split
 ·simp only[evs,List.length_append,List.length_map,List.length_take,List.length_drop];omega
 simp only[evs,List.length_append,List.length_map,List.length_take];omega
section
variable {a b:List ByteArray} {i k:Nat} {x y:ByteArray}
theorem aHa (hx:a[i]? = some x):a.drop i=x::a.drop (i+1):=by
 obtain ⟨hi,rfl⟩:=List.getElem?_eq_some_iff.1 hx
 exact List.drop_eq_getElem_cons hi
theorem bGw (hx:a[i]? = some x)(hy:b[k]? = some y)(h:x=y):scrT (a.drop i) (b.drop k)=⟨1,x⟩::scrT (a.drop (i+1)) (b.drop (k+1)):=by
 rw[aHa hx,aHa hy,scrT,if_pos h]
theorem bIj (hx:a[i]? = some x)(hy:b[k]? = some y)(h:x≠y)(hc:cel a b i (k+1)<=cel a b (i+1) k):scrT (a.drop i) (b.drop k)=⟨2,x⟩::scrT (a.drop (i+1)) (b.drop k):=by
 unfold cel at hc
 rw[aHa hx,aHa hy] at *
 rw[scrT,if_neg h,if_pos hc]
theorem bIl (hx:a[i]? = some x)(hy:b[k]? = some y)(h:x≠y)(hc:¬cel a b i (k+1)<=cel a b (i+1) k):scrT (a.drop i) (b.drop k)=⟨3,y⟩::scrT (a.drop i) (b.drop (k+1)):=by
 unfold cel at hc
 rw[aHa hx,aHa hy] at *
 rw[scrT,if_neg h,if_neg hc]
end
def splitL:Bs->List Bs
 | []=>[]
 | x::s=>if x=10 then [x]::splitL s else
  match splitL s with
  | []=>[[x]]
  | l::ls=>(x::l)::ls
theorem aHo:∀s:Bs,(splitL s).flatten=s
 | []=>rfl
 | x::s=>by
  have ih:=aHo s
  rw[splitL]
  split
  ·rw[List.flatten_cons,ih];rfl
  split
  ·rename_i h;rw[h] at ih;rw[<-ih];rfl
  rename_i l ls h;rw[h,List.flatten_cons] at ih;rw[List.flatten_cons,<-ih];rfl
def ofB (l:Bs):ByteArray:=⟨l.toArray⟩
def linesF (s:ByteArray):List ByteArray:=(splitL s.data.toList).map ofB
def joinF (l:List ByteArray):ByteArray:=ofB (l.flatMap fun x=>x.data.toList)
theorem bAr (s:ByteArray):joinF (linesF s)=s:=by
 have h:(linesF s).flatMap (fun x=>x.data.toList)=s.data.toList:=by
  rw[linesF,List.flatMap_map]
  have:(splitL s.data.toList).flatMap (fun a=>(ofB a).data.toList)=(splitL s.data.toList).flatten:=by
   rw[List.flatMap_def];congr 1;exact List.map_id'' (fun a=>by simp[ofB]) _
  rw[this,aHo]
 rw[joinF,h]
 cases s;simp[ofB]
structure KV where
 kind:Int
 base:List ByteArray
 ours:List ByteArray
 theirs:List ByteArray
deriving DecidableEq
def placesF:List DV->Nat->List (Option Nat)
 | [],_=>[]
 | e::es,j=>if e.kind=1 then some j::placesF es (j+1) else if e.kind=2 then none::placesF es j else placesF es (j+1)
def placeF (base side:List ByteArray):List (Option Nat):=placesF (script base side) 0
def sliceF (l:List ByteArray)(i k:Nat):List ByteArray:=(l.take k).drop i
end Go.Proofs.YtohblmepajhpaaaGreatDoor
namespace Go.Proofs.YtohblmepajhpaaaGreatDoor
open Go.RowKit
theorem aXq:Elem Tryz.prog 135 9 1 16:=aBw (by kernel_rfl)
theorem bDq (w:World)(x:ByteArray):Rd (w.alloc (.cells #[.string x] 9)) (w.heap.size+1) 1 (some ⟨w.heap.size,0,none⟩) 1 1 ([x].map .string):=
 ⟨rfl,Nat.le_refl _,fun _=>⟨_,0,rfl,by omega,fun j u hu=>by
  rw[Nat.zero_add,World.cell?,heap_alloc_new]
  simpa using hu⟩⟩
def Cut (s:Bs)(ps:List Bs)(f i:Nat):Prop:=parts s=ps++parts (s.drop f)/\f<=i/\i<=s.length/\47∉(s.drop f).take (i-f)
theorem Cut.start (s:Bs):Cut s [] 0 0:=⟨rfl,Nat.le_refl _,Nat.zero_le _,by simp⟩
theorem Cut.slash {s:Bs}{ps:List Bs}{f i:Nat}(h:Cut s ps f i)(hi:s[i]? = some 47):Cut s (ps++[(s.drop f).take (i-f)]) (i+1) (i+1):=by
 obtain ⟨h1,h2,h3,h4⟩:=h
 have hlt:=(List.getElem?_eq_some_iff.1 hi).1
 refine ⟨?_,Nat.le_refl _,by omega,by simp⟩
 have e:s.drop f=(s.drop f).take (i-f)++47::s.drop (i+1):=by
  have h5:(s.drop f).drop (i-f)=47::s.drop (i+1):=by
   rw[List.drop_drop,show f+(i-f)=i by omega,List.drop_eq_getElem_cons hlt,(List.getElem?_eq_some_iff.1 hi).2]
  rw[<-h5,List.take_append_drop]
 rw[h1,List.append_assoc]
 congr 1
 conv=>lhs;rw[e]
 rw[aLx _ h4];rfl
theorem Cut.no {s:Bs}{ps:List Bs}{f i:Nat}{c:UInt8}(h:Cut s ps f i)(hi:s[i]? = some c)(hc:c≠47):Cut s ps f (i+1):=by
 obtain ⟨h1,h2,h3,h4⟩:=h
 have hlt:=(List.getElem?_eq_some_iff.1 hi).1
 refine ⟨h1,by omega,by omega,?_⟩
 rw[show i+1-f=(i-f)+1 by omega,List.take_add_one,List.getElem?_drop,show f+(i-f)=i by omega,hi]
 intro hm
 rcases List.mem_append.1 hm with hm | hm
 ·exact h4 hm
 simp at hm;exact hc hm.symm
theorem Cut.last {s:Bs}{ps:List Bs}{f:Nat}(h:Cut s ps f s.length):parts s=ps++[s.drop f]:=by
 obtain ⟨h1,h2,h3,h4⟩:=h
 rw[List.take_of_length_le (by rw[List.length_drop];omega)] at h4
 rw[h1,aJi h4]
theorem aPj (s:ByteArray)(f i:Nat):(s.extract f i).data.toList=(s.data.toList.drop f).take (i-f):=by
 simp[ByteArray.data_extract,List.take_drop]
 try (rw[List.drop_take])
 try (congr 1;omega)
def StrsIs (P:List Bs->Prop)(w:World)(e:Ending) (w':World):Prop:=
 ∃(A:Option Addr) (c:Nat) (ps:List ByteArray),e=.returned (.slice A ps.length c)/\P (ps.map (·.data.toList))/\Rd w' w'.heap.size 1 A ps.length c (ps.map .string)/\Below w.heap.size w w'
theorem aZi {s:ByteArray}{w:World}(hs:s.size<=1048576):Calls Tryz.prog 93 #[.string s] w (StrsIs (·=parts s.data.toList) w):=by
 have hl:s.data.toList.length=s.size:=rfl
 go_enter Tryz.func93,Tryz.ntmps93
 go_wp2
 go_loopw[3,4,5] (fun lv fv iv wr=>∃(f i:Nat) (ps:List ByteArray),i<=s.size/\f<=i/\fv=.int .i64 f/\iv=.int .i64 i/\Hid (Cut s.data.toList (ps.map (·.data.toList)) f i)/\ps.length<=i/\
   Below w.heap.size w wr/\wr.ownsRow w.heap.size 9 1 lv ps.length (ps.map .string)) (fun _ _ iv _=>s.size-(intOf iv).toNat)
 case atStart=>exact ⟨0,0,[],Nat.zero_le _,Nat.le_refl _,rfl,rfl,Cut.start _,Nat.le_refl _,Below.refl _ _,World.ownsRow_nil _ _ _ _⟩
 obtain ⟨f,i,ps,hi,hfi,rfl,rfl,hc,hpl,hb,ho⟩:=hrel
 by_cases hlt:i<s.size
 ·have hx:s.data.toList[i]? = some s[i]:=by
   have:=List.getElem?_eq_getElem (l:=s.data.toList) (i:=i) (by omega)
   rw[this];rfl
  by_cases h47:s[i]=47
  ·have h47i:((s[i].toNat:Int) == 47)=true:=by rw[h47];rfl
   rw[h47] at hx
   have HC:=hid (hc.out.slash hx)
   have hb1:=hb.alloc hb.size (.cells #[.string (s.extract f i)] 9)
   have ho1:=ho.alloc (.cells #[.string (s.extract f i)] 9)
   clear hx h47
   go_wp2_with (at_builtin;refine aAp rfl (.tmp 16) (.tmp 21) 135 rfl aXq rfl rfl ho1 (bDq wr (s.extract f i)) (aFa _) (by unfold maxLen;omega) (by omega) hb1.size ?_;intro v7 w7 ho7 hg7 hv7)
   go_roundw
   case rel=>
    refine ⟨i+1,i+1,ps++[s.extract f i],by omega,by omega,by go_num,by go_num,?_,by simp;omega,hb1.grown hg7 hb1.size (fun g hg=>(ho1.lt g hg).1),?_⟩
    ·rw[List.map_append,List.map_cons,List.map_nil,aPj];exact HC.out
    rw[List.length_append,List.map_append];exact ho7
   simp[intOf];omega
  have h47i:((s[i].toNat:Int) == 47)=false:=by
   refine beq_eq_false_iff_ne.2 fun e=>h47 (UInt8.toNat.inj ?_)
   show s[i].toNat=47
   omega
  have HC:=hid (hc.out.no hx h47)
  clear hx h47
  go_wp2
  go_roundw
  case rel=>exact ⟨f,i+1,ps,by omega,by omega,rfl,by go_num,HC.out,by omega,hb,ho⟩
  simp[intOf];omega
 obtain rfl:i=s.size:=by omega
 have hc':=hc.out
 rw[<-hl] at hc'
 have HC:=hid hc'.last
 have hb1:=hb.alloc hb.size (.cells #[.string (s.extract f s.size)] 9)
 have ho1:=ho.alloc (.cells #[.string (s.extract f s.size)] 9)
 clear hc'
 go_wp2_with (at_builtin;refine aAp rfl (.tmp 25) (.tmp 29) 135 rfl aXq rfl rfl ho1 (bDq wr (s.extract f s.size)) (aFa _) (by unfold maxLen;omega) (by omega) hb1.size ?_;intro v7 w7 ho7 hg7 hv7)
 have hb7:=hb1.grown hg7 hb1.size (fun g hg=>(ho1.lt g hg).1)
 obtain ⟨A7,c7,rfl,hc7⟩:=aAd ho7
 go_ret
 refine ⟨A7,c7,ps++[s.extract f s.size],by rw[List.length_append];rfl,?_,?_,hb7⟩
 ·rw[HC.out,List.map_append,List.map_cons,List.map_nil,aPj,List.take_of_length_le (by rw[List.length_drop];omega)]
 have:=Rd.of_own ho7 hc7
 rw[<-List.map_append,show ps.length+1=(ps++[s.extract f s.size]).length by simp] at this
 exact this
theorem T.bytesLess:∀(x y:Bs),Op.bytesLess x y=decide (x<y)
 | [],[]=>by simp[Op.bytesLess]
 | _::_,[]=>by simp[Op.bytesLess]
 | [],_::_=>by simp[Op.bytesLess]
 | a::x,b::y=>by
  rw[Op.bytesLess,T.bytesLess x y]
  by_cases h:a<b
  ·simp[h,List.cons_lt_cons_iff]
  by_cases e:a=b
  ·subst e;simp[]
  simp[h,e,List.cons_lt_cons_iff]
theorem bHv (a b:Bs):a<b\/a=b\/b<a:=by
 by_cases h:a<b
 ·exact .inl h
 by_cases h2:b<a
 ·exact .inr (.inr h2)
 exact .inr (.inl (List.le_antisymm (List.not_lt.1 h2) (List.not_lt.1 h)))
theorem aRl (a b:ByteArray):Op.bytesLess a.toList b.toList=decide (a.data.toList<b.data.toList):=by rw[T.bytesLess,Lib.toList_data,Lib.toList_data]
theorem aVv (a b:ByteArray):(Op.bytesLess a.toList b.toList || decide (a=b))=!decide (b.data.toList<a.data.toList):=by
 rw[aRl]
 rcases bHv a.data.toList b.data.toList with h | h | h
 ·have h2:¬b.data.toList<a.data.toList:=List.lt_asymm h
  simp[h,h2]
 ·have e:a=b:=aCk h
  subst e
  simp[List.lt_irrefl]
 have h2:¬a.data.toList<b.data.toList:=List.lt_asymm h
 have e:a≠b:=fun e=>by subst e;exact List.lt_irrefl _ h
 simp[h,h2,e]
def Fine (l:List FV)(k:Nat)(f:FV):Prop:=FileOk f/\(∀g,1<=k->l[k-1]? = some g->g.p<f.p)/\onWay (pathsOf l) f.p=false
theorem TreeOk.fine {l:List FV}(h:TreeOk l){k:Nat}{f:FV}(hf:l[k]? = some f):Fine l k f:=by
 refine ⟨h.2.1 f (List.mem_of_getElem? hf),fun g hk hg=>h.2.2.1 (k-1) g f hg (by rw[Nat.sub_add_cancel hk];exact hf),?_⟩
 cases e:onWay (pathsOf l) f.p with
 | false=>rfl
 | true=>
  obtain ⟨q,hq,hw⟩:=aSv.1 e
  obtain ⟨g,hg,rfl⟩:=aLz.1 hq
  rw[h.2.2.2 f (List.mem_of_getElem? hf) g hg] at hw;cases hw
theorem bCf {l:List FV}(hl:l.length<=100)(h:∀k f,l[k]? = some f->Fine l k f):TreeOk l:=by
 refine ⟨hl,fun f hf=>?_,fun i a b ha hb=>(h (i+1) b hb).2.1 a (by omega) ha,fun f hf g hg=>?_⟩
 ·obtain ⟨i,hi,rfl⟩:=List.getElem_of_mem hf
  exact (h i _ (List.getElem?_eq_getElem hi)).1
 obtain ⟨i,hi,rfl⟩:=List.getElem_of_mem hf
 have h1:=(h i _ (List.getElem?_eq_getElem hi)).2.2
 cases e:within l[i].p g.p with
 | false=>rfl
 | true=>
  have:=aSv.2 ⟨g.p,aLz.2 ⟨g,hg,rfl⟩,e⟩
  rw[this] at h1;cases h1
theorem bIs {l:List FV}{k:Nat}{f:FV}(hf:l[k]? = some f)(h:¬Fine l k f):treeOk l=false:=by
 cases e:treeOk l with
 | false=>rfl
 | true=>exact absurd ((aAx.1 e).fine hf) h
theorem aTu {l:List FV}(h:100<l.length):treeOk l=false:=by
 cases e:treeOk l with
 | false=>rfl
 | true=>have:=(aAx.1 e).1;omega
def FineTo (l:List FV)(k:Nat):Prop:=∀j f,j<k->l[j]? = some f->Fine l j f
theorem FineTo.done {l:List FV}{n:Nat}(h:FineTo l n)(hl:l.length=n)(hn:n<=100):treeOk l=true:=
 aAx.2 (bCf (by omega) fun k f hf=>h k f (by have:=(List.getElem?_eq_some_iff.1 hf).1;omega) hf)
theorem FineTo.next {l:List FV}{k:Nat}{f:FV}(h:FineTo l k)(hf:l[k]? = some f)(h1:Fine l k f):FineTo l (k+1):=by
 intro j g hj hg
 by_cases e:j=k
 ·subst e;rw[hf] at hg;injection hg with hg;subst hg;exact h1
 exact h j g (by omega) hg
theorem aCe {A:Option Addr}{n c:Nat}{l:List FV}{w:World}(hn:n<=17592186044416)(hm:Lm w)(h:RdF w w.heap.size A n c l) :
  Calls Tryz.prog 75 #[.slice A n c] w (BoolBelow (treeOk l) w):=by
 have HL:=hid h.len
 by_cases hbig:100<n
 ·have HO:=hid (aTu (l:=l) (by rw[HL.out];exact hbig))
  go_enter Tryz.func75,Tryz.ntmps75
  go_wp2
  go_ret
  exact ⟨aAf HO.out.symm,Below.refl _ _⟩
 have hn100:n<=100:=by omega
 go_enter Tryz.func75,Tryz.ntmps75
 go_wp2_with fail
 refine (bEk hn h).mono ?_
 rintro e w1 ⟨g,nn,D,rfl,hg1,hg2,hnn,hS,hb1⟩
 go_wp2
 go_loopw[13] (fun i wr=>∃k:Nat,k<=n/\i=.int .i64 k/\Below w.heap.size w wr/\Below w1.heap.size w1 wr/\Hid (FineTo l k)) (fun i _=>n-(intOf i).toNat)
 case atStart=>exact ⟨0,Nat.zero_le _,rfl,hb1,Below.refl _ _,fun j f hj=>absurd hj (Nat.not_lt_zero _)⟩
 obtain ⟨k,hk,rfl,hb,hb2,hF⟩:=hrel
 by_cases hlt:k<n
 ·obtain ⟨b0,o0,f,eA,hbb,hx,hfm,h0,h1,h2⟩:=h.get hlt
  cases eA
  replace h0:=(hb.cell (p:=⟨b0,o0+k*3,none⟩) (by show b0<_;omega)).trans h0
  replace h1:=(hb.cell (p:=⟨b0,o0+k*3+1,none⟩) (by show b0<_;omega)).trans h1
  replace h2:=(hb.cell (p:=⟨b0,o0+k*3+2,none⟩) (by show b0<_;omega)).trans h2
  have HX:=hid hx;clear hx
  have hfit:=h.fits f hfm
  obtain ⟨wN,hwN⟩:∃x,x=wr.alloc (.cells #[.string f.path,.bool f.exec,.string f.text] 48):=⟨_,rfl⟩
  have hbN:Below wr.heap.size wr wN:=by rw[hwN];exact (Below.refl _ _).alloc (Nat.le_refl _) _
  have hzN:wN.heap.size=wr.heap.size+1:=by rw[hwN];simp
  have hcN:∀t u,f.cells[t]? = some u->wN.cell? ⟨wr.heap.size,t,none⟩=some u:=by
   intro t u hu;rw[hwN,World.cell?,heap_alloc_new];simpa[FV.cells] using hu
  have c0:=hcN 0 _ rfl
  have c2:=hcN 2 _ rfl
  clear hcN
  have hbW:Below w.heap.size w wN:=hb.trans (hbN.mono hb.size)
  have hmN:Lm wN:=hm.to hbW
  have hbW1:Below w1.heap.size w1 wN:=hb2.trans (hbN.mono hb2.size)
  have hSN:=hS.below hbW1
  have HP:∀v:World,Below wN.heap.size wN v->Calls Tryz.prog 104 #[.string f.path] v (BoolBelow (pathOk f.p) v):=fun v hv=>aPi (hmN.to hv)
  have HW:∀v:World,Below wN.heap.size wN v->f.path.size<=1048576->Calls Tryz.prog 105 #[.map (some g),.string f.path] v (BoolBelow (onWay (pathsOf l) f.p) v):=fun v hv hs=>bAb hs (hmN.to hv) (hSN.below hv)
  have BAD:∀v:World,Below wN.heap.size wN v->¬Fine l k f->BoolBelow (treeOk l) w (.returned (.bool false)) v:=fun v hv hf=>⟨aAf (bIs HX.out hf).symm,hbW.trans (hv.mono hbW.size)⟩
  have hz100:pathOk f.p=true->f.path.size<=100:=fun h=>by
   simp only[pathOk,Bool.and_eq_true,decide_eq_true_eq] at h
   exact h.1.1.2
  go_wp2
  rw[<-hwN]
  clear hwN h0 h1 h2 hS hb1 hg1 hg2
  refine aAh (fun w'=>Below wN.heap.size wN w') (qe [2,29] 31) mixed (by kernel_rfl) (Below.refl _ _).drew ?_
  intro T M Q hT hT' hM hQ
  have m0:M ⟨wr.heap.size,0,none⟩=some (.string f.path):=hM _ _ fun w' hw=>(hw.cell (p:=⟨wr.heap.size,0,none⟩) (by show wr.heap.size<_;omega)).trans c0
  have m2:M ⟨wr.heap.size,2,none⟩=some (.string f.text):=hM _ _ fun w' hw=>(hw.cell (p:=⟨wr.heap.size,2,none⟩) (by show wr.heap.size<_;omega)).trans c2
  simp only[qcmp,Nat.reduceBEq,Bool.or_self,Bool.or_true]
  simp (maxSteps:=9^7) only[↓qpre,aAb,aAe,aAc,m0]
  refine aAi (by kernel_rfl) (HP _ (Below.refl _ _).drew) rfl rfl ?_
  rintro e v1 ⟨rfl,hv1⟩
  have hb3:Below wN.heap.size wN v1:=(Below.refl _ _).drew.trans hv1
  refine ⟨_,rfl,hT _ hb3,?_⟩
  cases hp:pathOk f.p with
  | false=>
   have HO:=BAD v1 hb3 (fun hf=>by rw[hf.1.1] at hp;cases hp)
   clear HP HW BAD
   simp (maxSteps:=9^7) only[↓qpre,aAb,aAc]
   refine hQ _ _ ?_
   clear hQ hT hT' hM m0 m2
   go_wp2
   go_ret
   exact HO
  | true=>
   have hz:=hz100 hp
   by_cases ht:20000<f.text.size
   ·have htd:decide ((20000:Int)<f.text.size)=true:=decide_eq_true (by omega)
    have HO:=BAD v1 hb3 (fun hf=>by have:=hf.1.2;omega)
    clear HP HW BAD
    simp (maxSteps:=9^7) only[↓qpre,aAb,aAe,aAc,m2,htd]
    refine hQ _ _ ?_
    clear hQ hT hT' hM m0 m2
    go_wp2
    go_ret
    exact HO
   have htd:decide ((20000:Int)<f.text.size)=false:=decide_eq_false (by omega)
   by_cases hk0:k=0
   ·have hk1:decide ((0:Int)<k)=false:=decide_eq_false (by omega)
    have hpr:∀g,1<=k->l[k-1]? = some g->g.p<f.p:=fun g h=>by omega
    simp (maxSteps:=9^7) only[↓qpre,aAb,aAe,aAc,m0,m2,htd,hk1]
    refine aAi (by kernel_rfl) (HW _ hb3 (by omega)) rfl rfl ?_
    rintro e v2 ⟨rfl,hv2⟩
    have hb4:=hb3.trans (hv2.mono hb3.size)
    refine ⟨_,rfl,hT _ hb4,?_⟩
    cases ho:onWay (pathsOf l) f.p with
    | true=>
     have HO:=BAD v2 hb4 (fun hf=>by rw[hf.2.2] at ho;cases ho)
     clear HP HW BAD
     simp (maxSteps:=9^7) only[↓qpre,aAb,aAc]
     refine hQ _ _ ?_
     clear hQ hT hT' hM m0 m2
     go_wp2
     go_ret
     exact HO
    | false=>
     have HO:=hid (FineTo.next hF.out HX.out ⟨⟨hp,by omega⟩,hpr,ho⟩)
     have hbe:=hbW.trans (hb4.mono hbW.size)
     have hbe1:=hbW1.trans (hb4.mono hbW1.size)
     clear HP HW BAD
     simp (maxSteps:=9^7) only[↓qpre,aAb,aAc]
     refine hQ _ _ ?_
     clear hQ hT hT' hM m0 m2
     go_wp2
     go_roundw
     case rel=>exact ⟨k+1,by omega,by go_num,hbe,hbe1,HO.out⟩
     simp[intOf];omega
   have hk1:decide ((0:Int)<k)=true:=decide_eq_true (by omega)
   obtain ⟨b1,o1,g1,eA,_,hx1,_,p0,p1,p2⟩:=h.get (k:=k-1) (by omega)
   cases eA
   have m5:M ⟨b0,o0+(k-1)*3,none⟩=some (.string g1.path):=hM _ _ fun w' hw=>(hw.cell (p:=⟨b0,o0+(k-1)*3,none⟩) (by show b0<_;have:=hbW.size;omega)).trans ((hbW.cell (p:=⟨b0,o0+(k-1)*3,none⟩) (by show b0<_;omega)).trans p0)
   have e1:((k:Int)-1).toNat=k-1:=by omega
   have hle:=aVv f.path g1.path
   by_cases hlt2:g1.path.data.toList<f.path.data.toList
   ·have hpr:∀g,1<=k->l[k-1]? = some g->g.p<f.p:=fun g _ h=>by rw[hx1] at h;injection h with h;subst h;exact hlt2
    have hle2:=hle.trans (by rw[decide_eq_true hlt2];rfl:_=false)
    simp (maxSteps:=9^7) only[↓qpre,aAb,aAe,aAc,m0,m2,htd,hk1,m5,e1,hle2]
    refine ⟨by unfold inI64;omega,⟨by omega,by omega⟩,?_⟩
    clear hle hle2 m5 p0 p1 p2
    refine aAi (by kernel_rfl) (HW _ hb3 (by omega)) rfl rfl ?_
    rintro e v2 ⟨rfl,hv2⟩
    have hb4:=hb3.trans (hv2.mono hb3.size)
    refine ⟨_,rfl,hT _ hb4,?_⟩
    cases ho:onWay (pathsOf l) f.p with
    | true=>
     have HO:=BAD v2 hb4 (fun hf=>by rw[hf.2.2] at ho;cases ho)
     clear HP HW BAD
     simp (maxSteps:=9^7) only[↓qpre,aAb,aAc]
     refine hQ _ _ ?_
     clear hQ hT hT' hM m0 m2
     go_wp2
     go_ret
     exact HO
    | false=>
     have HO:=hid (FineTo.next hF.out HX.out ⟨⟨hp,by omega⟩,hpr,ho⟩)
     have hbe:=hbW.trans (hb4.mono hbW.size)
     have hbe1:=hbW1.trans (hb4.mono hbW1.size)
     clear HP HW BAD
     simp (maxSteps:=9^7) only[↓qpre,aAb,aAc]
     refine hQ _ _ ?_
     clear hQ hT hT' hM m0 m2
     go_wp2
     go_roundw
     case rel=>exact ⟨k+1,by omega,by go_num,hbe,hbe1,HO.out⟩
     simp[intOf];omega
   have HO:=BAD v1 hb3 (fun hf=>hlt2 (hf.2.1 g1 (by omega) hx1))
   have hle2:=hle.trans (by rw[decide_eq_false hlt2];rfl:_=true)
   clear HP HW BAD
   simp (maxSteps:=9^7) only[↓qpre,aAb,aAe,aAc,m0,m2,htd,hk1,m5,e1,hle2]
   refine ⟨by unfold inI64;omega,⟨by omega,by omega⟩,hQ _ _ ?_⟩
   clear hQ hT hT' hM m0 m2 m5 p0 p1 p2 hle hle2
   go_wp2
   go_ret
   exact HO
 have hkn:k=n:=by omega
 subst hkn
 have HO:=hid (hF.out.done HL.out hn100)
 go_wp2
 go_ret
 exact ⟨aAf HO.out.symm,hb⟩
theorem bGx {s:ByteArray}{k:Nat}{p:UInt8->Bool}(h:(s.data.toList.take k).all p=true)(hlt:k<s.size)(hp:p s[k]=true):(s.data.toList.take (k+1)).all p=true:=by
 have hx:s.data.toList[k]? = some s[k]:=by
  have:=List.getElem?_eq_getElem (l:=s.data.toList) (i:=k) hlt
  rw[this];rfl
 rw[List.take_add_one,hx,List.all_append,h];simp[hp]
theorem bCl {s:ByteArray}{k:Nat}{p:UInt8->Bool}(hlt:k<s.size)(hp:p s[k]=false):s.data.toList.all p=false:=by
 have hx:s.data.toList[k]? = some s[k]:=by
  have:=List.getElem?_eq_getElem (l:=s.data.toList) (i:=k) hlt
  rw[this];rfl
 rw[List.all_eq_false]
 exact ⟨_,List.mem_of_getElem? hx,by rw[hp];simp⟩
theorem aKr {s:ByteArray}(h:s.data.toList.all byteOk=false):pathOk s.data.toList=false:=by rw[pathOk,h];simp
theorem aHi {s:ByteArray}{ps:List ByteArray}(hp:ps.map (·.data.toList)=parts s.data.toList){u:ByteArray}(hu:u∈ps)(h:partOkB u=false):pathOk s.data.toList=false:=by
 have:(parts s.data.toList).all partOk=false:=by rw[<-aMq hp,List.all_eq_false];exact ⟨u,hu,by rw[h];simp⟩
 rw[pathOk,this];simp
theorem aZy {s:ByteArray}{ps:List ByteArray}(h0:¬s.size=0)(h1:¬100<s.size)(hb:(s.data.toList.take s.size).all byteOk=true)(hp:ps.map (·.data.toList)=parts s.data.toList)(h:∀u∈ps,partOkB u=true):pathOk s.data.toList=true:=by
 have hl:s.data.toList.length=s.size:=rfl
 rw[List.take_of_length_le (by omega)] at hb
 rw[pathOk,hl,decide_eq_true (by omega),decide_eq_true (by omega),hb,<-aMq hp,List.all_eq_true.2 h];rfl
theorem aTq:∀(s:Bs),(parts s).length<=s.length+1
 | []=>by simp[parts]
 | c::cs=>by
  have ih:=aTq cs
  unfold parts
  split
  ·simp;omega
  split
  ·rename_i e;rw[e] at ih;simp at ih ⊢;omega
  simp
theorem aRt {s:ByteArray}{w:World}:Calls Tryz.prog 51 #[.string s] w (BoolBelow (pathOk s.data.toList) w):=by
 have hl:s.data.toList.length=s.size:=rfl
 by_cases h0:s.size=0
 ·have HP:=hid (show pathOk s.data.toList=false by rw[pathOk,hl,decide_eq_false (by omega)];rfl)
  have hz:(s.size:Int)<1:=by omega
  go_enter Tryz.func51,Tryz.ntmps51
  go_wp2
  go_ret
  exact ⟨aAf HP.out.symm,Below.refl _ _⟩
 have hz1:¬(s.size:Int)<1:=by omega
 by_cases h1:100<s.size
 ·have HP:=hid (show pathOk s.data.toList=false by rw[pathOk,hl,decide_eq_false (p:=s.size<=100) (by omega)];simp)
  have hz2:(100:Int)<s.size:=by omega
  go_enter Tryz.func51,Tryz.ntmps51
  go_wp2
  go_ret
  exact ⟨aAf HP.out.symm,Below.refl _ _⟩
 have hz2:¬(100:Int)<s.size:=by omega
 go_enter Tryz.func51,Tryz.ntmps51
 go_wp2
 go_loopw[3] (fun i wr=>∃k:Nat,k<=s.size/\i=.int .i64 k/\Below w.heap.size w wr/\Hid ((s.data.toList.take k).all byteOk=true)) (fun i _=>s.size-(intOf i).toNat)
 case atStart=>exact ⟨0,Nat.zero_le _,rfl,Below.refl _ _,rfl⟩
 obtain ⟨k,hk,rfl,hb,hF⟩:=hrel
 by_cases hlt:k<s.size
 ·by_cases c1:(s[k].toNat:Int)<33
  ·have HO:=hid (aKr (bCl (p:=byteOk) hlt (by rw[aIu,decide_eq_false (by omega)];rfl)))
   go_wp2
   go_ret
   exact ⟨aAf HO.out.symm,hb⟩
  by_cases c2:126<(s[k].toNat:Int)
  ·have HO:=hid (aKr (bCl (p:=byteOk) hlt (by rw[aIu,decide_eq_false (p:=(s[k].toNat:Int)<=126) (by omega),Bool.and_false])))
   go_wp2
   go_ret
   exact ⟨aAf HO.out.symm,hb⟩
  have HO:=hid (bGx (p:=byteOk) hF.out hlt (by rw[aIu,decide_eq_true (by omega),decide_eq_true (by omega)];rfl))
  go_wp2
  go_roundw
  case rel=>exact ⟨k+1,by omega,by go_num,hb,HO.out⟩
  simp[intOf];omega
 obtain rfl:k=s.size:=by omega
 go_wp2_with fail
 refine (aZi (by omega)).mono ?_
 rintro e w1 ⟨A,c,ps,rfl,hps,hr,hb1⟩
 replace hb1:=hb.trans (hb1.mono hb.size)
 have HPS:=hid hps
 have hpl:ps.length<=s.size+1:=by have:=aTq s.data.toList;rw[<-hps,List.length_map] at this;exact this
 clear hps
 go_wp2
 go_loopw[5] (fun i wr=>∃k:Nat,k<=ps.length/\i=.int .i64 k/\Below w.heap.size w wr/\Below w1.heap.size w1 wr/\Hid (∀u∈ps.take k,partOkB u=true)) (fun i _=>ps.length-(intOf i).toNat)
 case atStart=>exact ⟨0,Nat.zero_le _,rfl,hb1,Below.refl _ _,by rw[List.take_zero];intro m hm;cases hm⟩
 obtain ⟨k,hk,rfl,hb1,hb2,hj⟩:=hrel
 by_cases hlt:k<ps.length
 ·obtain ⟨b0,o0,u,rfl,hbb,hx,h0⟩:=hr.str hlt
  replace h0:=(hb2.cell (p:=⟨b0,o0+k,none⟩) hbb).trans h0
  have HX:=hid hx
  have hm:=List.mem_of_getElem? hx
  clear hx
  by_cases n0':u=⟨#[]⟩
  ·have HO:=hid (aHi HPS.out hm (aDf (.inl n0')))
   subst n0'
   go_wp2
   go_ret
   exact ⟨aAf HO.out.symm,hb1⟩
  by_cases n1':u=⟨#[46]⟩
  ·have HO:=hid (aHi HPS.out hm (aDf (.inr (.inl n1'))))
   subst n1'
   go_wp2
   go_ret
   exact ⟨aAf HO.out.symm,hb1⟩
  by_cases n2':u=⟨#[46,46]⟩
  ·have HO:=hid (aHi HPS.out hm (aDf (.inr (.inr n2'))))
   subst n2'
   go_wp2
   go_ret
   exact ⟨aAf HO.out.symm,hb1⟩
  have HO:=hid (aMk n0' n1' n2')
  have n0:¬u.toList=[]:=fun e=>n0' (aCk (by rw[<-Lib.toList_data];exact e))
  have n1:¬u.toList=[46]:=fun e=>n1' (aCk (by rw[<-Lib.toList_data];exact e))
  have n2:¬u.toList=[46,46]:=fun e=>n2' (aCk (by rw[<-Lib.toList_data];exact e))
  have m0:u.toList.isEmpty=false:=by rw[List.isEmpty_eq_false_iff];exact n0
  have m1:(u.toList == [46])=false:=beq_eq_false_iff_ne.2 n1
  have m2:(u.toList == [46,46])=false:=beq_eq_false_iff_ne.2 n2
  clear n0' n1' n2' n0 n1 n2
  go_wp2
  go_roundw
  case rel=>
   refine ⟨k+1,by omega,by go_num,hb1,hb2,?_⟩
   intro m hm
   rw[List.take_add_one,HX.out] at hm
   rcases List.mem_append.1 hm with hm | hm
   ·exact hj.out m hm
   simp at hm;subst hm;exact HO.out
  simp[intOf];omega
 obtain rfl:k=ps.length:=by omega
 have hj':=hj.out
 rw[List.take_length] at hj'
 have HO:=hid (aZy h0 h1 hF.out HPS.out hj')
 go_wp2
 go_ret
 exact ⟨aAf HO.out.symm,hb1⟩
theorem aRx (p d:ByteArray):within p.data.toList d.data.toList=true↔∃h:d.size<p.size,p.extract 0 d.size=d/\p[d.size]=47:=by
 have hl:p.data.toList.length=p.size:=rfl
 have hd:d.data.toList.length=d.size:=rfl
 have he:(p.extract 0 d.size).data.toList=p.data.toList.take d.size:=by rw[aPj];simp
 rw[aGv]
 constructor
 ·rintro ⟨r,h⟩
  have hlt:d.size<p.size:=by rw[<-hl,<-hd,h];simp
  refine ⟨hlt,aCk (by rw[he,h,<-hd,List.take_left]),?_⟩
  have h1:p.data.toList[d.size]? = some p[d.size]:=by
   have:=List.getElem?_eq_getElem (l:=p.data.toList) (i:=d.size) (by omega)
   rw[this];rfl
  have h2:(d.data.toList++47::r)[d.size]? = some 47:=by rw[<-hd,List.getElem?_append_right (Nat.le_refl _),Nat.sub_self];rfl
  rw[h,h2] at h1
  injection h1 with h1
  exact h1.symm
 rintro ⟨hlt,h1,h2⟩
 have h3:p.data.toList[d.size]? = some p[d.size]:=by
  have:=List.getElem?_eq_getElem (l:=p.data.toList) (i:=d.size) (by omega)
  rw[this];rfl
 refine ⟨p.data.toList.drop (d.size+1),?_⟩
 have h4:p.data.toList.take d.size=d.data.toList:=by rw[<-he,h1]
 conv=>lhs;rw[<-List.take_append_drop d.size p.data.toList,h4,List.drop_eq_getElem_cons (by omega)]
 have h5:=(List.getElem?_eq_some_iff.1 h3).2
 rw[h5,h2]
theorem aNp {p d:ByteArray}(h:¬∃h:d.size<p.size,p.extract 0 d.size=d/\p[d.size]=47):within p.data.toList d.data.toList=false:=by
 cases e:within p.data.toList d.data.toList with
 | false=>rfl
 | true=>exact absurd ((aRx p d).1 e) h
theorem aNo {p d:ByteArray}{w:World}(_hp:p.size<=maxLen)(hd:d.size<=maxLen):Calls Tryz.prog 94 #[.string p,.string d] w fun e w'=>e=.returned (.bool (within p.data.toList d.data.toList))/\w'=w:=by
 unfold maxLen at _hp hd
 by_cases h1:d.size<p.size
 ·have h1i:(d.size:Int)<p.size:=by omega
  by_cases h2:p.extract 0 d.size=d
  ·by_cases h3:p[d.size]=47
   ·have HO:=hid ((aRx p d).2 ⟨h1,h2,h3⟩)
    have h3i:((p[d.size].toNat:Int) == 47)=true:=by rw[h3];rfl
    go_enter Tryz.func94,Tryz.ntmps94
    go_wp2
    go_ret
    exact ⟨aAf HO.out.symm,rfl⟩
   have HO:=hid (aNp (p:=p) (d:=d) fun ⟨_,_,h⟩=>h3 h)
   have h3i:((p[d.size].toNat:Int) == 47)=false:=by
    refine beq_eq_false_iff_ne.2 fun e=>h3 (UInt8.toNat.inj ?_)
    show p[d.size].toNat=47
    omega
   go_enter Tryz.func94,Tryz.ntmps94
   go_wp2
   go_ret
   exact ⟨aAf HO.out.symm,rfl⟩
  have HO:=hid (aNp (p:=p) (d:=d) fun ⟨_,h,_⟩=>h2 h)
  have h2i:=aCc h2
  go_enter Tryz.func94,Tryz.ntmps94
  go_wp2
  go_ret
  exact ⟨aAf HO.out.symm,rfl⟩
 have HO:=hid (aNp (p:=p) (d:=d) fun ⟨h,_⟩=>h1 h)
 have h1i:¬(d.size:Int)<p.size:=by omega
 go_enter Tryz.func94,Tryz.ntmps94
 go_wp2
 go_ret
 exact ⟨aAf HO.out.symm,rfl⟩
theorem aPg {p d:ByteArray}{w:World}(hp:p.size<=maxLen)(hd:d.size<=maxLen):Calls Tryz.prog 52 #[.string p,.string d] w fun e w'=>e=.returned (.bool (clashP p.data.toList d.data.toList))/\w'=w:=by
 by_cases h:p=d
 ·subst h
  have HO:=hid (show clashP p.data.toList p.data.toList=true by simp[clashP])
  go_enter Tryz.func52,Tryz.ntmps52
  go_wp2
  go_ret
  exact ⟨aAf HO.out.symm,rfl⟩
 have hn:=aCc h
 have HC:=hid (show clashP p.data.toList d.data.toList=(within p.data.toList d.data.toList || within d.data.toList p.data.toList) by
  have:¬p.data.toList=d.data.toList:=fun e=>h (aCk e)
  simp[clashP,this])
 have W1:=aNo (w:=w) hp hd
 have W2:=aNo (w:=w) hd hp
 cases h1:within p.data.toList d.data.toList with
 | true=>
  rw[h1] at W1
  have HO:=hid h1
  clear h1
  go_enter Tryz.func52,Tryz.ntmps52
  go_wp2_with fail
  refine W1.mono ?_
  rintro e w1 ⟨rfl,rfl⟩
  go_wp2
  go_ret
  exact ⟨aAf (by rw[HC.out,HO.out];rfl),rfl⟩
 | false=>
  rw[h1] at W1
  have HO:=hid h1
  clear h1
  go_enter Tryz.func52,Tryz.ntmps52
  go_wp2_with fail
  refine W1.mono ?_
  rintro e w1 ⟨rfl,rfl⟩
  go_wp2_with fail
  refine W2.mono ?_
  rintro e w2 ⟨rfl,rfl⟩
  go_wp2
  go_ret
  exact ⟨aAf (by rw[HC.out,HO.out];rfl),rfl⟩
def RFine (l:List FV)(k:Nat)(f:FV):Prop:=FileOk f/\(∀g,1<=k->l[k-1]? = some g->g.p<f.p)/\∀(j:Nat) (g:FV),j<k->l[j]? = some g->clashP g.p f.p=false
theorem TreeOk.rfine {l:List FV}(h:TreeOk l){k:Nat}{f:FV}(hf:l[k]? = some f):RFine l k f:=
 ⟨(h.fine hf).1,(h.fine hf).2.1,fun _j _g hj hg=>h.pair hj hf hg⟩
theorem aXr {l:List FV}{k:Nat}{f:FV}(hf:l[k]? = some f)(h:¬RFine l k f):treeOk l=false:=by
 cases e:treeOk l with
 | false=>rfl
 | true=>exact absurd ((aAx.1 e).rfine hf) h
def RFineTo (l:List FV)(k:Nat):Prop:=∀j f,j<k->l[j]? = some f->RFine l j f
theorem RFineTo.done {l:List FV}{n:Nat}(h:RFineTo l n)(hl:l.length=n)(hn:n<=100):treeOk l=true:=by
 have at_:∀k f,l[k]? = some f->RFine l k f:=fun k f hf=>h k f (by have:=(List.getElem?_eq_some_iff.1 hf).1;omega) hf
 refine aAx.2 (aYl (by omega) (fun f hf=>?_) (fun i a b ha hb=>(at_ (i+1) b hb).2.1 a (by omega) ha) fun i j a b hij ha hb=>(at_ i a ha).2.2 j b hij hb)
 obtain ⟨i,hi,rfl⟩:=List.getElem_of_mem hf
 exact (at_ i _ (List.getElem?_eq_getElem hi)).1
theorem RFineTo.next {l:List FV}{k:Nat}{f:FV}(h:RFineTo l k)(hf:l[k]? = some f)(h1:RFine l k f):RFineTo l (k+1):=by
 intro j g hj hg
 by_cases e:j=k
 ·subst e;rw[hf] at hg;injection hg with hg;subst hg;exact h1
 exact h j g (by omega) hg
def ApartTo (l:List FV)(f:FV)(j:Nat):Prop:=∀(i:Nat) (g:FV),i<j->l[i]? = some g->clashP g.p f.p=false
theorem ApartTo.next {l:List FV}{j:Nat}{f g:FV}(h:ApartTo l f j)(hg:l[j]? = some g)(h1:clashP g.p f.p=false):ApartTo l f (j+1):=by
 intro i x hi hx
 by_cases e:i=j
 ·subst e;rw[hg] at hx;injection hx with hx;subst hx;exact h1
 exact h i x (by omega) hx
theorem aZo {A:Option Addr}{n c:Nat}{l:List FV}{w:World}(hn:n<=17592186044416)(h:RdF w w.heap.size A n c l) :
  Calls Tryz.prog 19 #[.slice A n c] w (BoolBelow (treeOk l) w):=by
 have HL:=hid h.len
 by_cases hbig:100<n
 ·have HO:=hid (aTu (l:=l) (by rw[HL.out];exact hbig))
  go_enter Tryz.func19,Tryz.ntmps19
  go_wp2
  go_ret
  exact ⟨aAf HO.out.symm,Below.refl _ _⟩
 have hn100:n<=100:=by omega
 go_enter Tryz.func19,Tryz.ntmps19
 go_wp2
 go_loopw[3,4] (fun i _ wr=>∃k:Nat,k<=n/\i=.int .i64 k/\Below w.heap.size w wr/\Hid (RFineTo l k)) (fun i _ _=>n-(intOf i).toNat)
 case atStart=>exact ⟨0,Nat.zero_le _,rfl,Below.refl _ _,fun j f hj=>absurd hj (Nat.not_lt_zero _)⟩
 obtain ⟨k,hk,rfl,hb,hF⟩:=hrel
 by_cases hlt:k<n
 ·obtain ⟨b0,o0,f,eA,hbb,hx,hfm,h0,h1,h2⟩:=h.get hlt
  cases eA
  have HX:=hid hx;clear hx
  have hfit:=h.fits f hfm
  have BAD:∀v:World,Below wr.heap.size wr v->¬RFine l k f->BoolBelow (treeOk l) w (.returned (.bool false)) v:=fun v hv hf=>⟨aAf (aXr HX.out hf).symm,hb.trans (hv.mono hb.size)⟩
  have hz100:pathOk f.p=true->f.path.size<=100:=fun h=>by
   simp only[pathOk,Bool.and_eq_true,decide_eq_true_eq] at h
   exact h.1.1.2
  go_wp2
  refine aAh (fun w'=>Below wr.heap.size wr w') (qe [5] 34) mixed (by kernel_rfl) (Below.refl _ _).drew ?_
  intro T M Q hT hT' hM hQ
  have m0:M ⟨b0,o0+k*3,none⟩=some (.string f.path):=hM _ _ fun w' hw=>(hw.cell (p:=⟨b0,o0+k*3,none⟩) (by show b0<_;have:=hb.size;omega)).trans ((hb.cell (p:=⟨b0,o0+k*3,none⟩) (by show b0<_;omega)).trans h0)
  have m2:M ⟨b0,o0+k*3+2,none⟩=some (.string f.text):=hM _ _ fun w' hw=>(hw.cell (p:=⟨b0,o0+k*3+2,none⟩) (by show b0<_;have:=hb.size;omega)).trans ((hb.cell (p:=⟨b0,o0+k*3+2,none⟩) (by show b0<_;omega)).trans h2)
  simp only[qcmp,Nat.reduceBEq]
  simp (maxSteps:=9^7) only[↓qpre,aAb,aAe,aAc,m0]
  refine ⟨⟨by omega,by omega⟩,aAi (by kernel_rfl) aRt rfl rfl ?_⟩
  rintro e v1 ⟨rfl,hv1⟩
  have hb3:Below wr.heap.size wr v1:=(Below.refl _ _).drew.trans hv1
  refine ⟨_,rfl,hT _ hb3,?_⟩
  have hp0:pathOk f.path.data.toList=pathOk f.p:=rfl
  rw[hp0]
  cases hp:pathOk f.p with
  | false=>
   have HO:=BAD v1 hb3 (fun hf=>by rw[hf.1.1] at hp;cases hp)
   clear BAD
   simp (maxSteps:=9^7) only[↓qpre,aAb,aAc]
   refine hQ _ _ ?_
   clear hQ hT hT' hM m0 m2
   go_wp2
   go_ret
   exact HO
  | true=>
   have hz:=hz100 hp
   by_cases ht:20000<f.text.size
   ·have htd:decide ((20000:Int)<f.text.size)=true:=decide_eq_true (by omega)
    have HO:=BAD v1 hb3 (fun hf=>by have:=hf.1.2;omega)
    clear BAD
    simp (maxSteps:=9^7) only[↓qpre,aAb,aAe,aAc,m2,htd]
    refine ⟨⟨by omega,by omega⟩,hQ _ _ ?_⟩
    clear hQ hT hT' hM m0 m2
    go_wp2
    go_ret
    exact HO
   have htd:decide ((20000:Int)<f.text.size)=false:=decide_eq_false (by omega)
   by_cases hpv:∀g,1<=k->l[k-1]? = some g->g.p<f.p
   case neg=>
    obtain ⟨b1,o1,g1,eA,hbb1,hx1,_,p0,p1,p2⟩:=h.get (k:=k-1) (by omega)
    cases eA
    have hk1':1<=k:=by
     refine Nat.one_le_iff_ne_zero.2 fun e=>hpv fun g hg=>by omega
    have hlt2:¬g1.path.data.toList<f.path.data.toList:=fun hc=>hpv fun g _ hg=>by rw[hx1] at hg;injection hg with hg;subst hg;exact hc
    have hk1:decide ((0:Int)<k)=true:=decide_eq_true (by omega)
    have m5:M ⟨b0,o0+(k-1)*3,none⟩=some (.string g1.path):=hM _ _ fun w' hw=>(hw.cell (p:=⟨b0,o0+(k-1)*3,none⟩) (by show b0<_;have:=hb.size;omega)).trans ((hb.cell (p:=⟨b0,o0+(k-1)*3,none⟩) (by show b0<_;omega)).trans p0)
    have e1:((k:Int)-1).toNat=k-1:=by omega
    have hle2:=(aVv f.path g1.path).trans (by rw[decide_eq_false hlt2];rfl:_=true)
    have HO:=BAD v1 hb3 (fun hf=>hlt2 (hf.2.1 g1 (by omega) hx1))
    clear BAD
    simp (maxSteps:=9^7) only[↓qpre,aAb,aAe,aAc,m0,m2,htd,hk1,m5,e1,hle2]
    refine ⟨⟨by omega,by omega⟩,⟨by omega,by omega⟩,by unfold inI64;omega,⟨by omega,by omega⟩,hQ _ _ ?_⟩
    clear hQ hT hT' hM m0 m2 m5 p0 p1 p2 hle2
    go_wp2
    go_ret
    exact HO
   have HP:=hid hpv
   have hbW:=hb.trans (hb3.mono hb.size)
   clear BAD
   by_cases hk0:k=0
   ·have hk1:decide ((0:Int)<k)=false:=decide_eq_false (by omega)
    simp (maxSteps:=9^7) only[↓qpre,aAb,aAe,aAc,m2,htd,hk1]
    refine ⟨⟨by omega,by omega⟩,hQ _ _ ?_⟩
    clear hQ hT hT' hM m0 m2
    go_wp2
    go_loopw[4] (fun jv wr'=>∃j:Nat,j<=k/\jv=.int .i64 j/\Below w.heap.size w wr'/\Hid (ApartTo l f j)) (fun jv _=>k-(intOf jv).toNat)
    case atStart=>exact ⟨0,Nat.zero_le _,rfl,hbW,fun i g hi=>absurd hi (Nat.not_lt_zero _)⟩
    obtain ⟨j,hj,rfl,hbr,hC⟩:=hrel
    by_cases hlt3:j<k
    ·exact absurd hlt3 (by omega)
    obtain rfl:j=k:=by omega
    have HO:=hid (RFineTo.next hF.out HX.out ⟨⟨hp,by omega⟩,HP.out,hC.out⟩)
    go_wp2
    go_roundw
    case rel=>exact ⟨j+1,by omega,by go_num,hbr,HO.out⟩
    simp[intOf];omega
   have hk1:decide ((0:Int)<k)=true:=decide_eq_true (by omega)
   obtain ⟨b1,o1,g1,eA,hbb1,hx1,_,p0,p1,p2⟩:=h.get (k:=k-1) (by omega)
   cases eA
   have m5:M ⟨b0,o0+(k-1)*3,none⟩=some (.string g1.path):=hM _ _ fun w' hw=>(hw.cell (p:=⟨b0,o0+(k-1)*3,none⟩) (by show b0<_;have:=hb.size;omega)).trans ((hb.cell (p:=⟨b0,o0+(k-1)*3,none⟩) (by show b0<_;omega)).trans p0)
   have e1:((k:Int)-1).toNat=k-1:=by omega
   have hlt2:g1.path.data.toList<f.path.data.toList:=HP.out g1 (by omega) hx1
   have hle2:=(aVv f.path g1.path).trans (by rw[decide_eq_true hlt2];rfl:_=false)
   simp (maxSteps:=9^7) only[↓qpre,aAb,aAe,aAc,m0,m2,htd,hk1,m5,e1,hle2]
   refine ⟨⟨by omega,by omega⟩,⟨by omega,by omega⟩,by unfold inI64;omega,⟨by omega,by omega⟩,hQ _ _ ?_⟩
   clear m5 p0 p1 p2 hle2 hx1
   clear hQ hT hT' hM m0 m2
   go_wp2
   go_loopw[4] (fun jv wr'=>∃j:Nat,j<=k/\jv=.int .i64 j/\Below w.heap.size w wr'/\Hid (ApartTo l f j)) (fun jv _=>k-(intOf jv).toNat)
   case atStart=>exact ⟨0,Nat.zero_le _,rfl,hbW,fun i g hi=>absurd hi (Nat.not_lt_zero _)⟩
   obtain ⟨j,hj,rfl,hbr,hC⟩:=hrel
   by_cases hlt3:j<k
   ·obtain ⟨b1,o1,g1,eA,_,hx1,hm1,q0,q1,q2⟩:=h.get (k:=j) (by omega)
    cases eA
    have HX1:=hid hx1
    clear hx1
    have hfit1:=h.fits g1 hm1
    have C:=fun (v:World)=>aPg (w:=v) (p:=g1.path) (d:=f.path) (by unfold maxLen;omega) (by unfold maxLen;omega)
    go_wp2
    refine aAh (fun w'=>Below w.heap.size w w') (qe [10] 11) mixed (by kernel_rfl) hbr.drew ?_
    intro T M Q hT hT' hM hQ
    have m0:M ⟨b0,o0+k*3,none⟩=some (.string f.path):=hM _ _ fun w' hw=>(hw.cell (p:=⟨b0,o0+k*3,none⟩) (by show b0<_;omega)).trans h0
    have m1:M ⟨b0,o0+j*3,none⟩=some (.string g1.path):=hM _ _ fun w' hw=>(hw.cell (p:=⟨b0,o0+j*3,none⟩) (by show b0<_;omega)).trans q0
    simp only[qcmp,Nat.reduceBEq]
    simp (maxSteps:=9^7) only[↓qpre,aAb,aAe,aAc,m0,m1]
    refine ⟨⟨by omega,by omega⟩,⟨by omega,by omega⟩,aAi (by kernel_rfl) (C _) rfl rfl ?_⟩
    rintro e w' ⟨rfl,rfl⟩
    refine ⟨_,rfl,hT _ hbr.drew,?_⟩
    simp (maxSteps:=9^7) only[aAb,aAc]
    refine hQ _ _ ?_
    have hbd:=hbr.drew
    clear hQ hT hT' hM m0 m1 C q0 q1 q2
    cases hc:clashP g1.path.data.toList f.path.data.toList with
    | true=>
     have HO:=hid (aXr HX.out fun hf=>by have:=hf.2.2 j g1 hlt3 HX1.out;rw[show clashP g1.p f.p=true from hc] at this;cases this)
     clear hc
     go_wp2
     go_ret
     exact ⟨aAf HO.out.symm,hbd⟩
    | false=>
     have HO:=hid (hC.out.next HX1.out hc)
     clear hc
     go_wp2
     go_roundw
     case rel=>exact ⟨j+1,by omega,by go_num,hbd,HO.out⟩
     simp[intOf];omega
   obtain rfl:j=k:=by omega
   have HO:=hid (RFineTo.next hF.out HX.out ⟨⟨hp,by omega⟩,HP.out,hC.out⟩)
   go_wp2
   go_roundw
   case rel=>exact ⟨j+1,by omega,by go_num,hbr,HO.out⟩
   simp[intOf];omega
 have hkn:k=n:=by omega
 subst hkn
 have HO:=hid (hF.out.done HL.out hn100)
 go_wp2
 go_ret
 exact ⟨aAf HO.out.symm,hb⟩
def hasP (l:List FV)(p:ByteArray):Bool:=l.any fun f=>decide (f.path=p)
def findP (l:List FV)(p:ByteArray):Option FV:=l.find? fun f=>decide (f.path=p)
def without (l:List FV)(p:ByteArray):List FV:=l.filter fun f=>!decide (f.path=p)
def lessF (f x:FV):Bool:=decide (x.p<f.p)
def sortedIn (l:List FV)(f:FV):List FV:=l.takeWhile (lessF f)++f::l.dropWhile (lessF f)
def clashF (l:List FV)(p:ByteArray):Bool:=l.any fun f=>!decide (f.path=p) && clashP f.p p.data.toList
noncomputable def putF (l:List FV) (f:FV):List FV×Int:=
 if treeOk l=false then ([],5) else if pathOk f.p=false then ([],11) else if 20000<f.text.size then ([],6)
 else if hasP l f.path=true then (sortedIn (without l f.path) f,0)
 else if clashF l f.path=true then ([],11) else if 100<=l.length then ([],6) else (sortedIn l f,0)
noncomputable def dropF (l:List FV) (p:ByteArray):List FV×Int:=
 if treeOk l=false then ([],5) else if hasP l p=false then ([],8) else (without l p,0)
theorem FV.p_inj {f g:FV}:f.p=g.p↔f.path=g.path:=by
 constructor
 ·intro h
  exact aCk h
 intro h;rw[FV.p,h,FV.p]
theorem aEb {l:List FV}{p:ByteArray}:hasP l p=true↔∃f∈l,f.path=p:=by simp[hasP]
theorem aOi {l:List FV}{p:ByteArray}:findP l p=none↔hasP l p=false:=by
 simp[findP,hasP]
theorem aGz {l:List FV}{p:ByteArray}{f:FV}(h:findP l p=some f):f∈l/\f.path=p:=by
 have h1:=List.find?_some h
 exact ⟨List.mem_of_find?_eq_some h,by simpa using h1⟩
def FirstAt (q:FV->Bool)(l:List FV)(k:Nat)(f:FV):Prop:=l[k]? = some f/\q f=true/\∀j g,j<k->l[j]? = some g->q g=false
theorem FirstAt.take_false {q:FV->Bool}{l:List FV}{k:Nat}{f:FV}(h:FirstAt q l k f):∀g∈l.take k,q g=false:=by
 intro g hg
 obtain ⟨j,hj,e⟩:=List.getElem_of_mem hg
 rw[List.length_take] at hj
 rw[List.getElem_take] at e
 exact h.2.2 j g (by omega) (by rw[<-e];exact List.getElem?_eq_getElem _)
theorem FirstAt.split {q:FV->Bool}{l:List FV}{k:Nat}{f:FV}(h:FirstAt q l k f):l=l.take k++f::l.drop (k+1):=by
 have hk:=(List.getElem?_eq_some_iff.1 h.1).1
 have e:l[k]=f:=(List.getElem?_eq_some_iff.1 h.1).2
 rw[<-e,List.getElem_cons_drop,List.take_append_drop]
theorem FirstAt.find {l:List FV}{k:Nat}{f:FV}{p:ByteArray}(h:FirstAt (fun x=>decide (x.path=p)) l k f):findP l p=some f:=by
 have h1:=h.take_false
 have h2:=h.2.1
 rw[findP,h.split,List.find?_append]
 have h3:(l.take k).find? (fun x=>decide (x.path=p))=none:=by
  rw[List.find?_eq_none]
  intro x hx;simp[h1 x hx]
 rw[h3,List.find?_cons]
 simp only[h2];rfl
theorem aXv {l:List FV}{p:ByteArray}(h:∀f∈l,decide (f.path=p)=false):findP l p=none/\hasP l p=false:=by
 have h1:hasP l p=false:=by
  cases e:hasP l p with
  | false=>rfl
  | true=>
   obtain ⟨f,hf,e2⟩:=aEb.1 e
   have:=h f hf
   simp[e2] at this
 exact ⟨aOi.2 h1,h1⟩
theorem Rise.pair {l:List FV}(h:Rise l):l.Pairwise fun a b=>a.p<b.p:=by
 rw[List.pairwise_iff_getElem]
 intro i j hi hj hij
 exact h.lt hij (List.getElem?_eq_getElem hi) (List.getElem?_eq_getElem hj)
theorem aDx {l:List FV}(h:l.Pairwise fun a b=>a.p<b.p):Rise l:=by
 intro i a b ha hb
 obtain ⟨hi,rfl⟩:=List.getElem?_eq_some_iff.1 ha
 obtain ⟨hj,rfl⟩:=List.getElem?_eq_some_iff.1 hb
 exact List.pairwise_iff_getElem.1 h i (i+1) hi hj (by omega)
theorem aHw (a:Bs):¬a<a:=List.lt_irrefl a
theorem aQs {q:FV->Bool}{a b:List FV}(ha:∀x∈a,q x=true)(hb:∀x,b[0]? = some x->q x=false):(a++b).takeWhile q=a/\(a++b).dropWhile q=b:=by
 induction a with
 | nil=>
  cases b with
  | nil=>exact ⟨rfl,rfl⟩
  | cons x b=>
   have:=hb x rfl
   simp[this]
 | cons x a ih=>
  obtain ⟨h1,h2⟩:=ih fun y hy=>ha y (by simp[hy])
  have hx:=ha x (by simp)
  simp only[List.cons_append,List.takeWhile_cons,List.dropWhile_cons,hx,if_true,h1,h2,and_self]
theorem aTg {a b:List FV}{f:FV}(ha:∀x∈a,x.p<f.p)(hb:∀x,b[0]? = some x->¬x.p<f.p):sortedIn (a++b) f=a++f::b:=by
 obtain ⟨h1,h2⟩:=aQs (q:=lessF f) (a:=a) (b:=b) (fun x hx=>decide_eq_true (ha x hx)) (fun x hx=>decide_eq_false (hb x hx))
 rw[sortedIn,h1,h2]
theorem aKh {l:List FV}{p:ByteArray}(h:hasP l p=false):without l p=l:=by
 refine List.filter_eq_self.2 fun x hx=>?_
 have h1:¬x.path=p:=fun e=>by rw[aEb.2 ⟨x,hx,e⟩] at h;cases h
 simp[h1]
end Go.Proofs.YtohblmepajhpaaaGreatDoor
