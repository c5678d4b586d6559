/- Contracts of functions that the law reaches; plain laws. -/
import Derived.Test.YtohblmepajhpaaaGreatDoorG03
import Derived.Test.YtohblmepajhpaaaGreatDoorG08
import Derived.Test.YtohblmepajhpaaaGreatDoorG11
set_option maxHeartbeats 16000000
set_option maxRecDepth 100000
open Go.Lib (hid)
namespace Go.Proofs.YtohblmepajhpaaaGreatDoor
open Go.Proofs.Tryz (prog)
open Go.RowKit
variable {X:List Nat}{w w' w0:World}{b c mb N n B s:Nat}{Z:Nat->Obj->Prop}{fv cv q1 q2:Value}{m:List FV×List CL}{f:FV}{A:Option Addr}{base l side:List FV}{L:List (Nat×Nat)}
theorem aSn(w:World)(f:FLV):Rd (w.alloc (.cells #[.int .i64 f.parent,.string f.msg,.slice f.A f.files.length f.c] 40)) (w.alloc (.cells #[.int .i64 f.parent,.string f.msg,.slice f.A f.files.length f.c] 40)).heap.size 3 (some ⟨w.heap.size,0,none⟩) 1 1 ([f].flatMap FLV.cells):=
 aSt (au _ _) (by simp[FLV.cells]) rfl
def HStay (X:List Nat) (w w':World):Prop:=w.heap.size<=w'.heap.size/\∀k,k<w.heap.size->k∉X->w'.heap[k]? = w.heap[k]?
theorem HStay.keeps(h:HStay X w w'):Keeps X w w':=⟨h.1,fun p a b=>by unfold World.cell?;rw[h.2 p.block a b]⟩
theorem HStay.of_below(h:Below w.heap.size w w'):HStay X w w':=⟨h.size,fun k a _=>h.block k a⟩
theorem HStay.grown {row:Option Nat}(h:w.grownBy w' row)(c:∀g,row=some g->g∈X):HStay X w w':=⟨h.size,fun k a b=>h.block k a (fun e=>b (c k e.symm))⟩
theorem HStay.trans {Y:List Nat}{a b c:World}(h:HStay X a b)(k:HStay Y b c)(j:∀g∈Y,g∈X\/a.heap.size<=g):HStay X a c:=
 ⟨aw h.1 k.1,fun g f i=>(k.2 g (ag f h.1) (fun e=>by
  rcases j g e with d | d
  ·exact i d
  omega)).trans (h.2 g f i)⟩
theorem HStay.at_(h:HStay X w w'){g:Nat}{a:Obj}(b:w.heap[g]? = some a)(c:g∉X):w'.heap[g]? = some a:=(h.2 g (aAa b) c).trans b
def Xs (Z:List Nat)(mb:Nat)(fv kv:Value):List Nat:=mb::(obs fv++(obs kv++Z))
theorem aBw {Z:List Nat}{g:Nat}{kv:Value}:g∈Xs Z mb fv kv↔g=mb\/fv.ownBlock=some g\/kv.ownBlock=some g\/g∈Z:=by
 unfold Xs;rw[ax,aQ,aQ];constructor
 ·rintro (h | h | h | h)
  ·exact .inl h
  ·exact .inr (.inl (aFc h))
  ·exact .inr (.inr (.inl (aFc h)))
  exact .inr (.inr (.inr h))
 rintro (h | h | h | h)
 ·exact .inl h
 ·exact .inr (.inl (aEj h))
 ·exact .inr (.inr (.inl (aEj h)))
 exact .inr (.inr (.inr h))
def movC (fv kv:Value)(E S:Nat)(sv:Value):Array Value:=#[fv,kv,.int .i64 E,.int .i64 S,sv,.slice none 0 0,.slice none 0 0,.int .i64 0,.slice none 0 0,.slice none 0 0]
structure Mov (Z:List Nat) (w0 w:World) (mb E S:Nat) (sv fv kv:Value) (fl:List FLV) (ms:List MV):Prop where
 hs:w.heap[mb]? = some (.cells (movC fv kv E S sv) 109 (0,0))
 f1:w.ownsRow w0.heap.size 40 3 fv fl.length (fl.flatMap FLV.cells)
 k1:w.ownsRow w0.heap.size 43 2 kv ms.length (ms.flatMap MV.cells)
 lo:w0.heap.size<=mb
 bel:Below w0.heap.size w0 w
 pf:∀f∈fl,FlOk w (Xs Z mb fv kv) f
 pk:∀m∈ms,MkOk w (Xs Z mb fv kv) m
 hz:∀z∈Z,z<w0.heap.size
def Off (w:World)(X:List Nat)(fl:List FLV)(ms:List MV):Prop:=(∀f∈fl,FlOk w X f)/\∀m∈ms,MkOk w X m
theorem Off.keep {fl:List FLV}{ms:List MV}(h:Off w X fl ms)(a:HStay X w w'):Off w' X fl ms:=⟨fun f b=>(h.1 f b).keep a.keeps,fun m c=>(h.2 m c).keep a.keeps⟩
theorem Off.less {Y:List Nat}{fl:List FLV}{ms:List MV}(h:Off w X fl ms)(a:∀b∈Y,b∈X\/w.heap.size<=b):Off w Y fl ms:=⟨fun f c=>(h.1 f c).less a,fun m d=>(h.2 m d).less a⟩
section
variable {Z:List Nat} {w0 w w':World} {mb E S:Nat} {sv fv kv:Value} {fl:List FLV} {ms:List MV}
theorem Mov.below(h:Mov Z w0 w mb E S sv fv kv fl ms)(a:Below w.heap.size w w'):Mov Z w0 w' mb E S sv fv kv fl ms:=
 ⟨(a.block mb (aAa h.hs)).trans h.hs,aAf h.f1 a,aAf h.k1 a,h.lo,h.bel.trans (a.mono h.bel.size),fun f b=>(h.pf f b).keep (HStay.of_below a).keeps,fun m c=>(h.pk m c).keep (HStay.of_below a).keeps,h.hz⟩
theorem Mov.rdFl(h:Mov Z w0 w mb E S sv fv kv fl ms):∃A c,fv=.slice A fl.length c/\RdFl w w.heap.size A fl.length c fl:=by
 obtain ⟨A,c,e,d⟩:=aAd h.f1;have b:=h.f1;rw[e] at b;exact ⟨A,c,e,Rd.of_own b d,rfl,fun f a=>⟨(h.pf f a).files.1,(h.pf f a).few,(h.pf f a).par,(h.pf f a).msg⟩⟩
theorem Mov.rdFl'(h:Mov Z w0 w mb E S sv fv kv fl ms){A:Option Addr}{c:Nat}(e:fv=.slice A fl.length c):RdFl w w.heap.size A fl.length c fl:=by
 obtain ⟨A',d,a,b⟩:=h.rdFl;rw[e] at a
 cases a
 exact b
theorem Mov.rdM(h:Mov Z w0 w mb E S sv fv kv fl ms):∃A c,kv=.slice A ms.length c/\RdM w w.heap.size A ms.length c ms:=by
 obtain ⟨A,c,e,d⟩:=aAd h.k1;have b:=h.k1;rw[e] at b;exact ⟨A,c,e,Rd.of_own b d,rfl,fun m a=>⟨(h.pk m a).row,(h.pk m a).few,(h.pk m a).old,(h.pk m a).new⟩⟩
theorem Mov.new(h:Mov Z w0 w mb E S sv fv kv fl ms){g:Nat}(b:w.heap.size<=g):g∉Xs Z mb fv kv:=fun e=>by
 rcases aBw.1 e with a | a | a | a
 ·have:=aAa h.hs;omega
 ·have:=(h.f1.lt g a).2;omega
 ·have:=(h.k1.lt g a).2;omega
 have:=h.hz g a;have:=h.bel.size;omega
theorem Mov.setOther(h:Mov Z w0 w mb E S sv fv kv fl ms){g:Nat}(c:w.grownBy w' (some g))(f:g∉Xs Z mb fv kv)(j:w0.heap.size<=g)(l:Off w (g::Xs Z mb fv kv) fl ms):Mov Z w0 w' mb E S sv fv kv fl ms:=by
 have d:HStay (g::Xs Z mb fv kv) w w':=HStay.grown c fun k e=>by injection e with e;rw[e];exact bu ..
 have a:=(l.keep d).less (Y:=Xs Z mb fv kv) fun b i=>.inl (am _ i);refine ⟨(c.block mb (aAa h.hs) (fun e=>f (aBw.2 (.inl (by injection e with e;exact e.symm))))).trans h.hs,h.f1.kept c (.inr fun e=>f (aBw.2 (.inr (.inl e)))),h.k1.kept c (.inr fun e=>f (aBw.2 (.inr (.inr (.inl e))))),h.lo,h.bel.grown c h.bel.size (fun k e=>by injection e with e;omega),a.1,a.2,h.hz⟩
theorem Mov.pushF(h:Mov Z w0 w mb E S sv fv kv fl ms){f:FLV} {a:Value}(v:FlOk w (Xs Z mb fv kv) f)(c:w.grownBy w' fv.ownBlock)(y:a.ownBlock=fv.ownBlock\/a.ownBlock=some w.heap.size)
  (t:w'.ownsRow w0.heap.size 40 3 a (fl.length+1) (fl.flatMap FLV.cells++[f].flatMap FLV.cells)) :
  w'.heap[mb]? = some (.cells (movC fv kv E S sv) 109 (0,0))/\Mov Z w0 (w'.setCell ⟨mb,0,none⟩ a) mb E S sv a kv (fl++[f]) ms/\HStay (Xs Z mb fv kv) w (w'.setCell ⟨mb,0,none⟩ a)/\(∀g∈Xs Z mb a kv,g∈Xs Z mb fv kv\/w.heap.size<=g)/\∀x,FlOk w (Xs Z mb fv kv) x->FlOk (w'.setCell ⟨mb,0,none⟩ a) (Xs Z mb a kv) x:=by
 have i:=(c.block mb (aAa h.hs) (fun e=>aBm h.f1 h.hs (by decide) e.symm)).trans h.hs;have l:=aDu h.k1 c (fun g e=>aFb h.k1 h.f1 (by decide) g e);have j:HStay (w.heap.size::Xs Z mb fv kv) w w':=HStay.grown c fun g e=>am _ (aBw.2 (.inr (.inl e)));have m:HStay (Xs Z mb fv kv) w w':=HStay.grown c fun g e=>aBw.2 (.inr (.inl e));have n:HStay [mb] w' (w'.setCell ⟨mb,0,none⟩ a):=HStay.grown (aAy _ _ _ _) fun g e=>by injection e with e;rw[e];simp
 have k:HStay (Xs Z mb a kv) w' (w'.setCell ⟨mb,0,none⟩ a):=HStay.grown (aAy _ _ _ _) fun g e=>by injection e with e;exact aBw.2 (.inl e.symm)
 have p:∀g∈Xs Z mb a kv,g∈w.heap.size::Xs Z mb fv kv:=fun g c=>by
  rcases aBw.1 c with e | e | e | e
  ·exact am _ (aBw.2 (.inl e))
  ·rcases y with s | s
   ·exact am _ (aBw.2 (.inr (.inl (s▸e))))
   rw[s] at e;injection e with e;rw[<-e];exact bu ..
  ·exact am _ (aBw.2 (.inr (.inr (.inl e))))
  exact am _ (aBw.2 (.inr (.inr (.inr e))))
 have q:∀b∈w.heap.size::Xs Z mb fv kv,b∈Xs Z mb fv kv\/w.heap.size<=b:=fun b o=>by
  rcases ax.1 o with e | e
  ·exact .inr (gZ e.symm)
  exact .inl e
 have r:∀x,FlOk w (Xs Z mb fv kv) x->FlOk (w'.setCell ⟨mb,0,none⟩ a) (Xs Z mb a kv) x:=fun x d=>
  (((d.less q).keep j.keeps).less (Y:=Xs Z mb a kv) fun b o=>.inl (p b o)).keep k.keeps
 have u:∀x,MkOk w (Xs Z mb fv kv) x->MkOk (w'.setCell ⟨mb,0,none⟩ a) (Xs Z mb a kv) x:=fun x d=>
  (((d.less q).keep j.keeps).less (Y:=Xs Z mb a kv) fun b o=>.inl (p b o)).keep k.keeps
 refine ⟨i,⟨?_,?_,aK l (aBm l i (by decide)) _,h.lo,(h.bel.grown c h.bel.size (fun g c=>(h.f1.lt g c).1)).setCell h.lo _,fun x d=>?_,fun x d=>u x (h.pk x d),h.hz⟩,m.trans n fun g c=>.inl (by rw[aS.1 c];exact aBw.2 (.inl rfl)),fun g c=>q g (p g c),r⟩
 ·have:=a8 w' mb 0 _ _ a i
  simpa[movC] using this
 ·refine aK ?_ (aBm t i (by decide)) _
  rw[ae,aJ];exact t
 rcases aQ.1 d with d | d
 ·exact r x (h.pf x d)
 rw[aS.1 d];exact r f v
theorem Mov.pushK(h:Mov Z w0 w mb E S sv fv kv fl ms){m:MV} {a:Value}(v:MkOk w (Xs Z mb fv kv) m)(c:w.grownBy w' kv.ownBlock)(y:a.ownBlock=kv.ownBlock\/a.ownBlock=some w.heap.size)
  (u:w'.ownsRow w0.heap.size 43 2 a (ms.length+1) (ms.flatMap MV.cells++[m].flatMap MV.cells)) :
  w'.heap[mb]? = some (.cells (movC fv kv E S sv) 109 (0,0))/\Mov Z w0 (w'.setCell ⟨mb,1,none⟩ a) mb E S sv fv a fl (ms++[m])/\HStay (Xs Z mb fv kv) w (w'.setCell ⟨mb,1,none⟩ a)/\(∀g∈Xs Z mb fv a,g∈Xs Z mb fv kv\/w.heap.size<=g)/\∀x,FlOk w (Xs Z mb fv kv) x->FlOk (w'.setCell ⟨mb,1,none⟩ a) (Xs Z mb fv a) x:=by
 have f:=(c.block mb (aAa h.hs) (fun e=>aBm h.k1 h.hs (by decide) e.symm)).trans h.hs;have k:=aDu h.f1 c (fun g e=>aFb h.f1 h.k1 (by decide) g e);have i:HStay (w.heap.size::Xs Z mb fv kv) w w':=HStay.grown c fun g e=>am _ (aBw.2 (.inr (.inr (.inl e))));have l:HStay (Xs Z mb fv kv) w w':=HStay.grown c fun g e=>aBw.2 (.inr (.inr (.inl e)));have n:HStay [mb] w' (w'.setCell ⟨mb,1,none⟩ a):=HStay.grown (aAy _ _ _ _) fun g e=>by injection e with e;rw[e];simp
 have j:HStay (Xs Z mb fv a) w' (w'.setCell ⟨mb,1,none⟩ a):=HStay.grown (aAy _ _ _ _) fun g e=>by injection e with e;exact aBw.2 (.inl e.symm)
 have p:∀g∈Xs Z mb fv a,g∈w.heap.size::Xs Z mb fv kv:=fun g c=>by
  rcases aBw.1 c with e | e | e | e
  ·exact am _ (aBw.2 (.inl e))
  ·exact am _ (aBw.2 (.inr (.inl e)))
  ·rcases y with r | r
   ·exact am _ (aBw.2 (.inr (.inr (.inl (r▸e)))))
   rw[r] at e;injection e with e;rw[<-e];exact bu ..
  exact am _ (aBw.2 (.inr (.inr (.inr e))))
 have q:∀b∈w.heap.size::Xs Z mb fv kv,b∈Xs Z mb fv kv\/w.heap.size<=b:=fun b o=>by
  rcases ax.1 o with e | e
  ·exact .inr (gZ e.symm)
  exact .inl e
 have s:∀x,FlOk w (Xs Z mb fv kv) x->FlOk (w'.setCell ⟨mb,1,none⟩ a) (Xs Z mb fv a) x:=fun x d=>
  (((d.less q).keep i.keeps).less (Y:=Xs Z mb fv a) fun b o=>.inl (p b o)).keep j.keeps
 have t:∀x,MkOk w (Xs Z mb fv kv) x->MkOk (w'.setCell ⟨mb,1,none⟩ a) (Xs Z mb fv a) x:=fun x d=>
  (((d.less q).keep i.keeps).less (Y:=Xs Z mb fv a) fun b o=>.inl (p b o)).keep j.keeps
 refine ⟨f,⟨?_,aK k (aBm k f (by decide)) _,?_,h.lo,(h.bel.grown c h.bel.size (fun g c=>(h.k1.lt g c).1)).setCell h.lo _,fun x d=>s x (h.pf x d),fun x d=>?_,h.hz⟩,l.trans n fun g c=>.inl (by rw[aS.1 c];exact aBw.2 (.inl rfl)),fun g c=>q g (p g c),s⟩
 ·have:=a8 w' mb 1 _ _ a f
  simpa[movC] using this
 ·refine aK ?_ (aBm u f (by decide)) _
  rw[ae,aJ];exact u
 rcases aQ.1 d with d | d
 ·exact t x (h.pk x d)
 rw[aS.1 d];exact t m v
end
def oneM (m:List FV×List CL)(f x:FV):List FV×List CL:=if x=f then m else putM m x 3
theorem box2(w:World)(a b:Obj):Below w.heap.size w ((w.alloc a).alloc b):=((Below.refl _ _).alloc (aa _) _).alloc (by simp) _
theorem bAe {x:FV}(h:MI Z w0 w mb fv cv m N)(n:N<=100000)(o:x.path.size<=1000000/\x.text.size<=1000000) :
  Calls prog 153 #[.pointer (some ⟨mb,0,none⟩),.agg #[.string f.path,.bool f.exec,.string f.text],.agg #[.string x.path,.bool x.exec,.string x.text]] w (PutIs Z w0 mb (oneM m f x) (N+1)):=by
 have i:Below w.heap.size w (w.alloc (.cells #[.string f.path,.bool f.exec,.string f.text] 48)):=(Below.refl _ _).alloc (aa _) _;have b:=box2 w (.cells #[.string f.path,.bool f.exec,.string f.text] 48) (.cells #[.string x.path,.bool x.exec,.string x.text] 48)
 have g:((w.alloc (.cells #[.string f.path,.bool f.exec,.string f.text] 48)).alloc (.cells #[.string x.path,.bool x.exec,.string x.text] 48)).heap[w.heap.size]? = some (.cells #[.string f.path,.bool f.exec,.string f.text] 48 (0,0)):=
  (((Below.refl _ (w.alloc (.cells #[.string f.path,.bool f.exec,.string f.text] 48))).alloc (aa _) _).block w.heap.size (by simp)).trans (au _ _)
 have a:((w.alloc (.cells #[.string f.path,.bool f.exec,.string f.text] 48)).alloc (.cells #[.string x.path,.bool x.exec,.string x.text] 48)).heap[w.heap.size+1]? = some (.cells #[.string x.path,.bool x.exec,.string x.text] 48 (0,0)):=by
  have:=au (w.alloc (.cells #[.string f.path,.bool f.exec,.string f.text] 48)) (.cells #[.string x.path,.bool x.exec,.string x.text] 48);simpa using this
 have j:=hid (h.below b);have s:=bd _ _ 0 _ _ _ g;have t:=bd _ _ 1 _ _ _ g;have v:=bd _ _ 2 _ _ _ g;have y:=bd _ _ 0 _ _ _ a;have x1:=bd _ _ 1 _ _ _ a;have x2:=bd _ _ 2 _ _ _ a;have c:=fun u=>bAc x f u;have K:=aBd (f:=x) (kind:=3) j.out n o;clear h i b g a n o;go_enter Tryz.func153,Tryz.ntmps153;by_cases e:x=f
 ·have k:=hid (show oneM m f x=m from ao e)
  have d:(!decide (x=f))=false:=by simp[e]
  rw[d] at c;clear e d K;go_wp2;refine aI (aF rfl _ _ _) rfl ?_;exact ⟨rfl,_,_,by rw[k.out];exact j.out.more (dh N)⟩
 have k:=hid (show oneM m f x=putM m x 3 from ah e);have d:(!decide (x=f))=true:=by simp[e]
 rw[d] at c;clear e d;go_wp2_with fail;refine K.mono ?_;rintro e z ⟨rfl,q,r,l⟩;have p:=hid l;clear K l j;go_wp2;refine aI (aF rfl _ _ _) rfl ?_;exact ⟨rfl,_,_,by rw[k.out];exact p.out⟩
def fileO (f:FV):Obj:=.cells #[.string f.path,.bool f.exec,.string f.text] 48
def BoxF (w:World)(b:Nat)(f:FV):Prop:=w.heap[b]? = some (.cells #[.string f.path,.bool f.exec,.string f.text] 48 (0,0))
theorem BoxF.below(h:BoxF w b f)(a:Below w.heap.size w w'):BoxF w' b f:=(a.block b (aAa h)).trans h
theorem BoxF.new(w:World)(f:FV):BoxF (w.alloc (.cells #[.string f.path,.bool f.exec,.string f.text] 48)) w.heap.size f:=au _ _
theorem BoxF.c0(h:BoxF w b f):w.cell? ⟨b,0,none⟩=some (.string f.path):=(bd _ _ 0 _ _ _ h).trans rfl
theorem BoxF.c1(h:BoxF w b f):w.cell? ⟨b,1,none⟩=some (.bool f.exec):=(bd _ _ 1 _ _ _ h).trans rfl
theorem BoxF.c2(h:BoxF w b f):w.cell? ⟨b,2,none⟩=some (.string f.text):=(bd _ _ 2 _ _ _ h).trans rfl
theorem BoxF.frozen(h:BoxF w b f)(k:Nat):w.frozen? ⟨b,k,none⟩=false:=aAk h
theorem BoxF.set2(h:BoxF w b f)(t:ByteArray):BoxF (w.setCell ⟨b,2,none⟩ (.string t)) b ⟨f.path,f.exec,t⟩:=by
 have:=a8 w b 2 _ _ (.string t) h;simpa[BoxF] using this
theorem MI.setBox {k:Nat}{v:Value}(h:MI Z w0 w mb fv cv m N)(d:w0.heap.size<=b)(e:mb≠b)(f:fv.ownBlock≠some b)(g:cv.ownBlock≠some b)(i:∀j a,Z j a->j≠b):MI Z w0 (w.setCell ⟨b,k,none⟩ v) mb fv cv m N:=
 ⟨(Below.heap_setCell w ⟨b,k,none⟩ v mb e).trans h.hs,aK h.f1 f _,aK h.c1 g _,h.lo,h.bel.setCell (p:=⟨b,k,none⟩) d _,h.fits,h.few1,h.few2,fun j a c=>⟨(Below.heap_setCell w ⟨b,k,none⟩ v j (i j a c)).trans (h.oth j a c).1,(h.oth j a c).2⟩⟩
theorem aCl(w:World)(f o t g:FV) :
  Below w.heap.size w ((((w.alloc (.cells #[.string f.path,.bool f.exec,.string f.text] 48)).alloc (.cells #[.string o.path,.bool o.exec,.string o.text] 48)).alloc (.cells #[.string t.path,.bool t.exec,.string t.text] 48)).alloc (.cells #[.string g.path,.bool g.exec,.string g.text] 48))/\
  BoxF ((((w.alloc (.cells #[.string f.path,.bool f.exec,.string f.text] 48)).alloc (.cells #[.string o.path,.bool o.exec,.string o.text] 48)).alloc (.cells #[.string t.path,.bool t.exec,.string t.text] 48)).alloc (.cells #[.string g.path,.bool g.exec,.string g.text] 48)) (w.heap.size+1+1+1) g:=by
 refine ⟨((((Below.refl _ _).alloc (aa _) _).alloc (by simp) _).alloc (by simp;omega) _).alloc (by simp;omega) _,?_⟩;have:=BoxF.new ((((w.alloc (.cells #[.string f.path,.bool f.exec,.string f.text] 48)).alloc (.cells #[.string o.path,.bool o.exec,.string o.text] 48)).alloc (.cells #[.string t.path,.bool t.exec,.string t.text] 48))) g;simpa using this
theorem bGx {o t:FV}(hL:Lm w)(h:MI Z w0 w mb fv cv m N)(O:N<=100000)(hf:f.path.size<=20000/\f.text.size<=20000)(ho:o.path.size<=20000/\o.text.size<=20000)(ht:t.path.size<=20000/\t.text.size<=20000) :
  Calls prog 152 #[.pointer (some ⟨mb,0,none⟩),.agg #[.string f.path,.bool f.exec,.string f.text],.agg #[.string o.path,.bool o.exec,.string o.text],.agg #[.string t.path,.bool t.exec,.string t.text]] w (PutIs Z w0 mb (bothM m f o t) (N+1)):=by
 obtain ⟨W1,X⟩:∃W,W=w.alloc (.cells #[.string f.path,.bool f.exec,.string f.text] 48):=⟨_,rfl⟩;obtain ⟨W2,Y⟩:∃W,W=W1.alloc (.cells #[.string o.path,.bool o.exec,.string o.text] 48):=⟨_,rfl⟩;obtain ⟨W3,ff⟩:∃W,W=W2.alloc (.cells #[.string t.path,.bool t.exec,.string t.text] 48):=⟨_,rfl⟩;obtain ⟨W4,nj⟩:∃W,W=W3.alloc (.cells #[.string o.path,.bool o.exec,.string o.text] 48):=⟨_,rfl⟩;have b1:Below w.heap.size w W1:=by rw[X];exact (Below.refl _ _).alloc (aa _) _
 have b2:Below W1.heap.size W1 W2:=by rw[Y];exact (Below.refl _ _).alloc (aa _) _
 have b3:Below W2.heap.size W2 W3:=by rw[ff];exact (Below.refl _ _).alloc (aa _) _
 have b4:Below W3.heap.size W3 W4:=by rw[nj];exact (Below.refl _ _).alloc (aa _) _
 have s1:W1.heap.size=w.heap.size+1:=by rw[X];simp
 have s2:W2.heap.size=w.heap.size+2:=by rw[Y];simp[s1]
 have s3:W3.heap.size=w.heap.size+3:=by rw[ff];simp[s2]
 have xf:BoxF W4 w.heap.size f:=(((show BoxF W1 w.heap.size f by rw[X];exact BoxF.new _ _).below b2).below b3).below b4;have xo:BoxF W4 (w.heap.size+1) o:=((show BoxF W2 (w.heap.size+1) o by rw[Y,<-s1];exact BoxF.new _ _).below b3).below b4;have xt:BoxF W4 (w.heap.size+2) t:=(show BoxF W3 (w.heap.size+2) t by rw[ff,<-s2];exact BoxF.new _ _).below b4;have xx:BoxF W4 (w.heap.size+3) o:=by rw[nj,<-s3];exact BoxF.new _ _
 have nk:=b3.trans (b4.mono b3.size);have nm:=b2.trans (nk.mono b2.size);have nq:=b1.trans (nm.mono b1.size);rw[ff,Y,X] at nj;have HM:=hid h;have M:=hid hL;have r:=hid (show (merge3F f.text o.text t.text).1.size<=72773 by have:=aHc f.text o.text t.text;omega);have H:=hid (show w0.heap.size<=w.heap.size+1+1+1 by have:=h.bel.size;omega);have I:=hid (show mb≠w.heap.size+1+1+1 by have:=aAa h.hs;omega);have J:=hid (show fv.ownBlock≠some (w.heap.size+1+1+1) from fun e=>by have:=(h.f1.lt _ e).2;omega);have K:=hid (show cv.ownBlock≠some (w.heap.size+1+1+1) from fun e=>by have:=(h.c1.lt _ e).2;omega);have L:=hid (show ∀j ob,Z j ob->j≠w.heap.size+1+1+1 from fun j ob hz=>by have:=aAa (h.oth j ob hz).1;omega);have f0:=xf.c0;have f1:=xf.c1;have f2:=xf.c2;have o0:=xo.c0;have o1:=xo.c1;have o2:=xo.c2;have t0:=xt.c0;have t1:=xt.c1;have t2:=xt.c2;have x0:=xx.c0;have x1:=xx.c1;have x2:=xx.c2;rw[nj] at f0 f1 f2 o0 o1 o2 t0 t1 t2 x0 x1 x2;clear b1 b2 b3 b4 s1 s2 s3 xf xo xt xx nk nm nq h hL X Y ff nj;go_enter Tryz.func152,Tryz.ntmps152;by_cases x:o.path=f.path
 ·by_cases A:o.exec=f.exec
  ·have Q:(o.path.toList == f.path.toList)=true:=by rw[x];exact aW _
   have S:(o.exec == f.exec)=true:=by rw[A];exact aW _
   have s:=hid (show bothM m f o t=putM m ⟨t.path,t.exec,(merge3F f.text o.text t.text).1⟩ (if (merge3F f.text o.text t.text).2=false/\(0:Int)=0 then 1 else 0) by
    show putM m ⟨if o.path=f.path then t.path else o.path,if o.exec=f.exec then t.exec else o.exec,(merge3F f.text o.text t.text).1⟩ (if (merge3F f.text o.text t.text).2=false/\(if o.path=f.path then (0:Int) else if t.path≠f.path/\t.path≠o.path then 4 else 0)=0 then 1 else (if o.path=f.path then (0:Int) else if t.path≠f.path/\t.path≠o.path then 4 else 0))=_;rw[ao x,ao A,ao x])
   clear x A;have u:=hid (aCl w f o t ⟨t.path,t.exec,o.text⟩);have B:=aCj (b:=f.text) (o:=o.text) (t:=t.text) (M.out.below u.out.1 M.out.lt) ω ω ω;go_wp2_with fail;refine B.mono ?_;rintro e w1 ⟨rfl,q⟩;have a:=hid (u.out.2.below q);have l:=hid ((HM.out.below u.out.1).below q);clear B q Q S f0 f1 f2 o0 o1 o2 t0 t1 t2 x0 x1 x2 u;have C:=a.out.c0;have y1:=a.out.c1;have y2:=a.out.c2;have D:=a.out.frozen 2;generalize merge3F f.text o.text t.text=R at *;obtain ⟨i,T⟩:=R;dsimp only at s r ⊢;have c:=hid (a.out.set2 i);have g:=hid (l.out.setBox (k:=2) (v:=.string i) H.out I.out J.out K.out L.out);have E:=c.out.c0;have F:=c.out.c1;have G:=c.out.c2
   cases T
   ·have n:=hid (show bothM m f o t=putM m ⟨t.path,t.exec,i⟩ 1 by rw[s.out];rfl)
    have KP:=aBd (f:=⟨t.path,t.exec,i⟩) (kind:=1) g.out O (show (t.path).size<=1000000/\i.size<=1000000 from ⟨ω,by have:=r.out;omega⟩);clear s g l a c;go_wp2_with fail;refine KP.mono ?_;rintro e U ⟨rfl,y,z,d⟩;have p:=hid d;clear KP d E F G C y1 y2 D;go_wp2;refine aI (aF rfl _ _ _) rfl ?_;exact ⟨rfl,_,_,by rw[n.out];exact p.out⟩
   have n:=hid (show bothM m f o t=putM m ⟨t.path,t.exec,i⟩ 0 by rw[s.out];rfl);have KP:=aBd (f:=⟨t.path,t.exec,i⟩) (kind:=0) g.out O (show (t.path).size<=1000000/\i.size<=1000000 from ⟨ω,by have:=r.out;omega⟩);clear s g l a c;go_wp2_with fail;refine KP.mono ?_;rintro e U ⟨rfl,y,z,d⟩;have p:=hid d;clear KP d E F G C y1 y2 D;go_wp2;refine aI (aF rfl _ _ _) rfl ?_;exact ⟨rfl,_,_,by rw[n.out];exact p.out⟩
  have Q:(o.path.toList == f.path.toList)=true:=by rw[x];exact aW _
  have S:(o.exec == f.exec)=false:=a7.2 A
  have s:=hid (show bothM m f o t=putM m ⟨t.path,o.exec,(merge3F f.text o.text t.text).1⟩ (if (merge3F f.text o.text t.text).2=false/\(0:Int)=0 then 1 else 0) by
   show putM m ⟨if o.path=f.path then t.path else o.path,if o.exec=f.exec then t.exec else o.exec,(merge3F f.text o.text t.text).1⟩ (if (merge3F f.text o.text t.text).2=false/\(if o.path=f.path then (0:Int) else if t.path≠f.path/\t.path≠o.path then 4 else 0)=0 then 1 else (if o.path=f.path then (0:Int) else if t.path≠f.path/\t.path≠o.path then 4 else 0))=_;rw[ao x,ah A,ao x])
  clear x A;have u:=hid (aCl w f o t ⟨t.path,o.exec,o.text⟩);have B:=aCj (b:=f.text) (o:=o.text) (t:=t.text) (M.out.below u.out.1 M.out.lt) ω ω ω;go_wp2_with fail;refine B.mono ?_;rintro e w1 ⟨rfl,q⟩;have a:=hid (u.out.2.below q);have l:=hid ((HM.out.below u.out.1).below q);clear B q Q S f0 f1 f2 o0 o1 o2 t0 t1 t2 x0 x1 x2 u;have C:=a.out.c0;have y1:=a.out.c1;have y2:=a.out.c2;have D:=a.out.frozen 2;generalize merge3F f.text o.text t.text=R at *;obtain ⟨i,T⟩:=R;dsimp only at s r ⊢;have c:=hid (a.out.set2 i);have g:=hid (l.out.setBox (k:=2) (v:=.string i) H.out I.out J.out K.out L.out);have E:=c.out.c0;have F:=c.out.c1;have G:=c.out.c2
  cases T
  ·have n:=hid (show bothM m f o t=putM m ⟨t.path,o.exec,i⟩ 1 by rw[s.out];rfl)
   have KP:=aBd (f:=⟨t.path,o.exec,i⟩) (kind:=1) g.out O (show (t.path).size<=1000000/\i.size<=1000000 from ⟨ω,by have:=r.out;omega⟩);clear s g l a c;go_wp2_with fail;refine KP.mono ?_;rintro e U ⟨rfl,y,z,d⟩;have p:=hid d;clear KP d E F G C y1 y2 D;go_wp2;refine aI (aF rfl _ _ _) rfl ?_;exact ⟨rfl,_,_,by rw[n.out];exact p.out⟩
  have n:=hid (show bothM m f o t=putM m ⟨t.path,o.exec,i⟩ 0 by rw[s.out];rfl);have KP:=aBd (f:=⟨t.path,o.exec,i⟩) (kind:=0) g.out O (show (t.path).size<=1000000/\i.size<=1000000 from ⟨ω,by have:=r.out;omega⟩);clear s g l a c;go_wp2_with fail;refine KP.mono ?_;rintro e U ⟨rfl,y,z,d⟩;have p:=hid d;clear KP d E F G C y1 y2 D;go_wp2;refine aI (aF rfl _ _ _) rfl ?_;exact ⟨rfl,_,_,by rw[n.out];exact p.out⟩
 by_cases P:t.path=f.path
 ·by_cases A:o.exec=f.exec
  ·have Q:=aBi x
   have e3:(t.path.toList == f.path.toList)=true:=(by rw[P];exact aW _);have S:(o.exec == f.exec)=true:=by rw[A];exact aW _
   have s:=hid (show bothM m f o t=putM m ⟨o.path,t.exec,(merge3F f.text o.text t.text).1⟩ (if (merge3F f.text o.text t.text).2=false/\(0:Int)=0 then 1 else 0) by
    show putM m ⟨if o.path=f.path then t.path else o.path,if o.exec=f.exec then t.exec else o.exec,(merge3F f.text o.text t.text).1⟩ (if (merge3F f.text o.text t.text).2=false/\(if o.path=f.path then (0:Int) else if t.path≠f.path/\t.path≠o.path then 4 else 0)=0 then 1 else (if o.path=f.path then (0:Int) else if t.path≠f.path/\t.path≠o.path then 4 else 0))=_;rw[ah x,ao A,ah x,ah (show ¬(t.path≠f.path/\t.path≠o.path) from fun h=>h.1 P)])
   clear x P A;have u:=hid (aCl w f o t ⟨o.path,t.exec,o.text⟩);have B:=aCj (b:=f.text) (o:=o.text) (t:=t.text) (M.out.below u.out.1 M.out.lt) ω ω ω;go_wp2_with fail;refine B.mono ?_;rintro e w1 ⟨rfl,q⟩;have a:=hid (u.out.2.below q);have l:=hid ((HM.out.below u.out.1).below q);clear B q Q S f0 f1 f2 o0 o1 o2 t0 t1 t2 x0 x1 x2 u;have C:=a.out.c0;have y1:=a.out.c1;have y2:=a.out.c2;have D:=a.out.frozen 2;generalize merge3F f.text o.text t.text=R at *;obtain ⟨i,T⟩:=R;dsimp only at s r ⊢;have c:=hid (a.out.set2 i);have g:=hid (l.out.setBox (k:=2) (v:=.string i) H.out I.out J.out K.out L.out);have E:=c.out.c0;have F:=c.out.c1;have G:=c.out.c2
   cases T
   ·have n:=hid (show bothM m f o t=putM m ⟨o.path,t.exec,i⟩ 1 by rw[s.out];rfl)
    have KP:=aBd (f:=⟨o.path,t.exec,i⟩) (kind:=1) g.out O (show (o.path).size<=1000000/\i.size<=1000000 from ⟨ω,by have:=r.out;omega⟩);clear s g l a c;go_wp2_with fail;refine KP.mono ?_;rintro e U ⟨rfl,y,z,d⟩;have p:=hid d;clear KP d E F G C y1 y2 D;go_wp2;refine aI (aF rfl _ _ _) rfl ?_;exact ⟨rfl,_,_,by rw[n.out];exact p.out⟩
   have n:=hid (show bothM m f o t=putM m ⟨o.path,t.exec,i⟩ 0 by rw[s.out];rfl);have KP:=aBd (f:=⟨o.path,t.exec,i⟩) (kind:=0) g.out O (show (o.path).size<=1000000/\i.size<=1000000 from ⟨ω,by have:=r.out;omega⟩);clear s g l a c;go_wp2_with fail;refine KP.mono ?_;rintro e U ⟨rfl,y,z,d⟩;have p:=hid d;clear KP d E F G C y1 y2 D;go_wp2;refine aI (aF rfl _ _ _) rfl ?_;exact ⟨rfl,_,_,by rw[n.out];exact p.out⟩
  have Q:=aBi x;have e3:(t.path.toList == f.path.toList)=true:=by rw[P];exact aW _
  have S:(o.exec == f.exec)=false:=a7.2 A
  have s:=hid (show bothM m f o t=putM m ⟨o.path,o.exec,(merge3F f.text o.text t.text).1⟩ (if (merge3F f.text o.text t.text).2=false/\(0:Int)=0 then 1 else 0) by
   show putM m ⟨if o.path=f.path then t.path else o.path,if o.exec=f.exec then t.exec else o.exec,(merge3F f.text o.text t.text).1⟩ (if (merge3F f.text o.text t.text).2=false/\(if o.path=f.path then (0:Int) else if t.path≠f.path/\t.path≠o.path then 4 else 0)=0 then 1 else (if o.path=f.path then (0:Int) else if t.path≠f.path/\t.path≠o.path then 4 else 0))=_;rw[ah x,ah A,ah x,ah (show ¬(t.path≠f.path/\t.path≠o.path) from fun h=>h.1 P)])
  clear x P A;have u:=hid (aCl w f o t ⟨o.path,o.exec,o.text⟩);have B:=aCj (b:=f.text) (o:=o.text) (t:=t.text) (M.out.below u.out.1 M.out.lt) ω ω ω;go_wp2_with fail;refine B.mono ?_;rintro e w1 ⟨rfl,q⟩;have a:=hid (u.out.2.below q);have l:=hid ((HM.out.below u.out.1).below q);clear B q Q S f0 f1 f2 o0 o1 o2 t0 t1 t2 x0 x1 x2 u;have C:=a.out.c0;have y1:=a.out.c1;have y2:=a.out.c2;have D:=a.out.frozen 2;generalize merge3F f.text o.text t.text=R at *;obtain ⟨i,T⟩:=R;dsimp only at s r ⊢;have c:=hid (a.out.set2 i);have g:=hid (l.out.setBox (k:=2) (v:=.string i) H.out I.out J.out K.out L.out);have E:=c.out.c0;have F:=c.out.c1;have G:=c.out.c2
  cases T
  ·have n:=hid (show bothM m f o t=putM m ⟨o.path,o.exec,i⟩ 1 by rw[s.out];rfl)
   have KP:=aBd (f:=⟨o.path,o.exec,i⟩) (kind:=1) g.out O (show (o.path).size<=1000000/\i.size<=1000000 from ⟨ω,by have:=r.out;omega⟩);clear s g l a c;go_wp2_with fail;refine KP.mono ?_;rintro e U ⟨rfl,y,z,d⟩;have p:=hid d;clear KP d E F G C y1 y2 D;go_wp2;refine aI (aF rfl _ _ _) rfl ?_;exact ⟨rfl,_,_,by rw[n.out];exact p.out⟩
  have n:=hid (show bothM m f o t=putM m ⟨o.path,o.exec,i⟩ 0 by rw[s.out];rfl);have KP:=aBd (f:=⟨o.path,o.exec,i⟩) (kind:=0) g.out O (show (o.path).size<=1000000/\i.size<=1000000 from ⟨ω,by have:=r.out;omega⟩);clear s g l a c;go_wp2_with fail;refine KP.mono ?_;rintro e U ⟨rfl,y,z,d⟩;have p:=hid d;clear KP d E F G C y1 y2 D;go_wp2;refine aI (aF rfl _ _ _) rfl ?_;exact ⟨rfl,_,_,by rw[n.out];exact p.out⟩
 by_cases V:t.path=o.path
 ·by_cases A:o.exec=f.exec
  ·have Q:=aBi x
   have e3:=aBi P;have e4:(t.path.toList == o.path.toList)=true:=(by rw[V];exact aW _);have S:(o.exec == f.exec)=true:=by rw[A];exact aW _
   have s:=hid (show bothM m f o t=putM m ⟨o.path,t.exec,(merge3F f.text o.text t.text).1⟩ (if (merge3F f.text o.text t.text).2=false/\(0:Int)=0 then 1 else 0) by
    show putM m ⟨if o.path=f.path then t.path else o.path,if o.exec=f.exec then t.exec else o.exec,(merge3F f.text o.text t.text).1⟩ (if (merge3F f.text o.text t.text).2=false/\(if o.path=f.path then (0:Int) else if t.path≠f.path/\t.path≠o.path then 4 else 0)=0 then 1 else (if o.path=f.path then (0:Int) else if t.path≠f.path/\t.path≠o.path then 4 else 0))=_;rw[ah x,ao A,ah x,ah (show ¬(t.path≠f.path/\t.path≠o.path) from fun h=>h.2 V)])
   clear x P V A;have u:=hid (aCl w f o t ⟨o.path,t.exec,o.text⟩);have B:=aCj (b:=f.text) (o:=o.text) (t:=t.text) (M.out.below u.out.1 M.out.lt) ω ω ω;go_wp2_with fail;refine B.mono ?_;rintro e w1 ⟨rfl,q⟩;have a:=hid (u.out.2.below q);have l:=hid ((HM.out.below u.out.1).below q);clear B q Q S f0 f1 f2 o0 o1 o2 t0 t1 t2 x0 x1 x2 u;have C:=a.out.c0;have y1:=a.out.c1;have y2:=a.out.c2;have D:=a.out.frozen 2;generalize merge3F f.text o.text t.text=R at *;obtain ⟨i,T⟩:=R;dsimp only at s r ⊢;have c:=hid (a.out.set2 i);have g:=hid (l.out.setBox (k:=2) (v:=.string i) H.out I.out J.out K.out L.out);have E:=c.out.c0;have F:=c.out.c1;have G:=c.out.c2
   cases T
   ·have n:=hid (show bothM m f o t=putM m ⟨o.path,t.exec,i⟩ 1 by rw[s.out];rfl)
    have KP:=aBd (f:=⟨o.path,t.exec,i⟩) (kind:=1) g.out O (show (o.path).size<=1000000/\i.size<=1000000 from ⟨ω,by have:=r.out;omega⟩);clear s g l a c;go_wp2_with fail;refine KP.mono ?_;rintro e U ⟨rfl,y,z,d⟩;have p:=hid d;clear KP d E F G C y1 y2 D;go_wp2;refine aI (aF rfl _ _ _) rfl ?_;exact ⟨rfl,_,_,by rw[n.out];exact p.out⟩
   have n:=hid (show bothM m f o t=putM m ⟨o.path,t.exec,i⟩ 0 by rw[s.out];rfl);have KP:=aBd (f:=⟨o.path,t.exec,i⟩) (kind:=0) g.out O (show (o.path).size<=1000000/\i.size<=1000000 from ⟨ω,by have:=r.out;omega⟩);clear s g l a c;go_wp2_with fail;refine KP.mono ?_;rintro e U ⟨rfl,y,z,d⟩;have p:=hid d;clear KP d E F G C y1 y2 D;go_wp2;refine aI (aF rfl _ _ _) rfl ?_;exact ⟨rfl,_,_,by rw[n.out];exact p.out⟩
  have Q:=aBi x;have e3:=aBi P;have e4:(t.path.toList == o.path.toList)=true:=by rw[V];exact aW _
  have S:(o.exec == f.exec)=false:=a7.2 A
  have s:=hid (show bothM m f o t=putM m ⟨o.path,o.exec,(merge3F f.text o.text t.text).1⟩ (if (merge3F f.text o.text t.text).2=false/\(0:Int)=0 then 1 else 0) by
   show putM m ⟨if o.path=f.path then t.path else o.path,if o.exec=f.exec then t.exec else o.exec,(merge3F f.text o.text t.text).1⟩ (if (merge3F f.text o.text t.text).2=false/\(if o.path=f.path then (0:Int) else if t.path≠f.path/\t.path≠o.path then 4 else 0)=0 then 1 else (if o.path=f.path then (0:Int) else if t.path≠f.path/\t.path≠o.path then 4 else 0))=_;rw[ah x,ah A,ah x,ah (show ¬(t.path≠f.path/\t.path≠o.path) from fun h=>h.2 V)])
  clear x P V A;have u:=hid (aCl w f o t ⟨o.path,o.exec,o.text⟩);have B:=aCj (b:=f.text) (o:=o.text) (t:=t.text) (M.out.below u.out.1 M.out.lt) ω ω ω;go_wp2_with fail;refine B.mono ?_;rintro e w1 ⟨rfl,q⟩;have a:=hid (u.out.2.below q);have l:=hid ((HM.out.below u.out.1).below q);clear B q Q S f0 f1 f2 o0 o1 o2 t0 t1 t2 x0 x1 x2 u;have C:=a.out.c0;have y1:=a.out.c1;have y2:=a.out.c2;have D:=a.out.frozen 2;generalize merge3F f.text o.text t.text=R at *;obtain ⟨i,T⟩:=R;dsimp only at s r ⊢;have c:=hid (a.out.set2 i);have g:=hid (l.out.setBox (k:=2) (v:=.string i) H.out I.out J.out K.out L.out);have E:=c.out.c0;have F:=c.out.c1;have G:=c.out.c2
  cases T
  ·have n:=hid (show bothM m f o t=putM m ⟨o.path,o.exec,i⟩ 1 by rw[s.out];rfl)
   have KP:=aBd (f:=⟨o.path,o.exec,i⟩) (kind:=1) g.out O (show (o.path).size<=1000000/\i.size<=1000000 from ⟨ω,by have:=r.out;omega⟩);clear s g l a c;go_wp2_with fail;refine KP.mono ?_;rintro e U ⟨rfl,y,z,d⟩;have p:=hid d;clear KP d E F G C y1 y2 D;go_wp2;refine aI (aF rfl _ _ _) rfl ?_;exact ⟨rfl,_,_,by rw[n.out];exact p.out⟩
  have n:=hid (show bothM m f o t=putM m ⟨o.path,o.exec,i⟩ 0 by rw[s.out];rfl);have KP:=aBd (f:=⟨o.path,o.exec,i⟩) (kind:=0) g.out O (show (o.path).size<=1000000/\i.size<=1000000 from ⟨ω,by have:=r.out;omega⟩);clear s g l a c;go_wp2_with fail;refine KP.mono ?_;rintro e U ⟨rfl,y,z,d⟩;have p:=hid d;clear KP d E F G C y1 y2 D;go_wp2;refine aI (aF rfl _ _ _) rfl ?_;exact ⟨rfl,_,_,by rw[n.out];exact p.out⟩
 by_cases A:o.exec=f.exec
 ·have Q:=aBi x
  have e3:=aBi P;have e4:=aBi V;have S:(o.exec == f.exec)=true:=by rw[A];exact aW _
  have s:=hid (show bothM m f o t=putM m ⟨o.path,t.exec,(merge3F f.text o.text t.text).1⟩ (if (merge3F f.text o.text t.text).2=false/\(4:Int)=0 then 1 else 4) by
   show putM m ⟨if o.path=f.path then t.path else o.path,if o.exec=f.exec then t.exec else o.exec,(merge3F f.text o.text t.text).1⟩ (if (merge3F f.text o.text t.text).2=false/\(if o.path=f.path then (0:Int) else if t.path≠f.path/\t.path≠o.path then 4 else 0)=0 then 1 else (if o.path=f.path then (0:Int) else if t.path≠f.path/\t.path≠o.path then 4 else 0))=_;rw[ah x,ao A,ah x,ao (show t.path≠f.path/\t.path≠o.path from ⟨P,V⟩)])
  clear x P V A;have u:=hid (aCl w f o t ⟨o.path,t.exec,o.text⟩);have B:=aCj (b:=f.text) (o:=o.text) (t:=t.text) (M.out.below u.out.1 M.out.lt) ω ω ω;go_wp2_with fail;refine B.mono ?_;rintro e w1 ⟨rfl,q⟩;have a:=hid (u.out.2.below q);have l:=hid ((HM.out.below u.out.1).below q);clear B q Q S f0 f1 f2 o0 o1 o2 t0 t1 t2 x0 x1 x2 u;have C:=a.out.c0;have y1:=a.out.c1;have y2:=a.out.c2;have D:=a.out.frozen 2;generalize merge3F f.text o.text t.text=R at *;obtain ⟨i,T⟩:=R;dsimp only at s r ⊢;have c:=hid (a.out.set2 i);have g:=hid (l.out.setBox (k:=2) (v:=.string i) H.out I.out J.out K.out L.out);have E:=c.out.c0;have F:=c.out.c1;have G:=c.out.c2
  cases T
  ·have n:=hid (show bothM m f o t=putM m ⟨o.path,t.exec,i⟩ 4 by rw[s.out];rfl)
   have KP:=aBd (f:=⟨o.path,t.exec,i⟩) (kind:=4) g.out O (show (o.path).size<=1000000/\i.size<=1000000 from ⟨ω,by have:=r.out;omega⟩);clear s g l a c;go_wp2_with fail;refine KP.mono ?_;rintro e U ⟨rfl,y,z,d⟩;have p:=hid d;clear KP d E F G C y1 y2 D;go_wp2;refine aI (aF rfl _ _ _) rfl ?_;exact ⟨rfl,_,_,by rw[n.out];exact p.out⟩
  have n:=hid (show bothM m f o t=putM m ⟨o.path,t.exec,i⟩ 4 by rw[s.out];rfl);have KP:=aBd (f:=⟨o.path,t.exec,i⟩) (kind:=4) g.out O (show (o.path).size<=1000000/\i.size<=1000000 from ⟨ω,by have:=r.out;omega⟩);clear s g l a c;go_wp2_with fail;refine KP.mono ?_;rintro e U ⟨rfl,y,z,d⟩;have p:=hid d;clear KP d E F G C y1 y2 D;go_wp2;refine aI (aF rfl _ _ _) rfl ?_;exact ⟨rfl,_,_,by rw[n.out];exact p.out⟩
 have Q:=aBi x;have e3:=aBi P;have e4:=aBi V;have S:(o.exec == f.exec)=false:=a7.2 A
 have s:=hid (show bothM m f o t=putM m ⟨o.path,o.exec,(merge3F f.text o.text t.text).1⟩ (if (merge3F f.text o.text t.text).2=false/\(4:Int)=0 then 1 else 4) by
  show putM m ⟨if o.path=f.path then t.path else o.path,if o.exec=f.exec then t.exec else o.exec,(merge3F f.text o.text t.text).1⟩ (if (merge3F f.text o.text t.text).2=false/\(if o.path=f.path then (0:Int) else if t.path≠f.path/\t.path≠o.path then 4 else 0)=0 then 1 else (if o.path=f.path then (0:Int) else if t.path≠f.path/\t.path≠o.path then 4 else 0))=_;rw[ah x,ah A,ah x,ao (show t.path≠f.path/\t.path≠o.path from ⟨P,V⟩)])
 clear x P V A;have u:=hid (aCl w f o t ⟨o.path,o.exec,o.text⟩);have B:=aCj (b:=f.text) (o:=o.text) (t:=t.text) (M.out.below u.out.1 M.out.lt) ω ω ω;go_wp2_with fail;refine B.mono ?_;rintro e w1 ⟨rfl,q⟩;have a:=hid (u.out.2.below q);have l:=hid ((HM.out.below u.out.1).below q);clear B q Q S f0 f1 f2 o0 o1 o2 t0 t1 t2 x0 x1 x2 u;have C:=a.out.c0;have y1:=a.out.c1;have y2:=a.out.c2;have D:=a.out.frozen 2;generalize merge3F f.text o.text t.text=R at *;obtain ⟨i,T⟩:=R;dsimp only at s r ⊢;have c:=hid (a.out.set2 i);have g:=hid (l.out.setBox (k:=2) (v:=.string i) H.out I.out J.out K.out L.out);have E:=c.out.c0;have F:=c.out.c1;have G:=c.out.c2
 cases T
 ·have n:=hid (show bothM m f o t=putM m ⟨o.path,o.exec,i⟩ 4 by rw[s.out];rfl)
  have KP:=aBd (f:=⟨o.path,o.exec,i⟩) (kind:=4) g.out O (show (o.path).size<=1000000/\i.size<=1000000 from ⟨ω,by have:=r.out;omega⟩);clear s g l a c;go_wp2_with fail;refine KP.mono ?_;rintro e U ⟨rfl,y,z,d⟩;have p:=hid d;clear KP d E F G C y1 y2 D;go_wp2;refine aI (aF rfl _ _ _) rfl ?_;exact ⟨rfl,_,_,by rw[n.out];exact p.out⟩
 have n:=hid (show bothM m f o t=putM m ⟨o.path,o.exec,i⟩ 4 by rw[s.out];rfl);have KP:=aBd (f:=⟨o.path,o.exec,i⟩) (kind:=4) g.out O (show (o.path).size<=1000000/\i.size<=1000000 from ⟨ω,by have:=r.out;omega⟩);clear s g l a c;go_wp2_with fail;refine KP.mono ?_;rintro e U ⟨rfl,y,z,d⟩;have p:=hid d;clear KP d E F G C y1 y2 D;go_wp2;refine aI (aF rfl _ _ _) rfl ?_;exact ⟨rfl,_,_,by rw[n.out];exact p.out⟩
def Finds (w0:World)(s:Nat)(F:FV->Option FV):Prop:=∀(f:FV) (u:World),Below w0.heap.size w0 u->f.path.size<=20000->
 Calls prog 151 #[.pointer (some ⟨s,0,none⟩),.agg #[.string f.path,.bool f.exec,.string f.text]] u (FoundIs (F f) u)
def keptG (F G:FV->Option FV)(m:List FV×List CL)(f:FV):List FV×List CL:=
 match F f,G f with
 | some x,some y=>bothM m f x y
 | some x,none=>oneM m f x
 | none,some y=>oneM m f y
 | none,none=>m
theorem bJr(base a b:List FV):keptG (whereF base a) (whereF base b)=keptM base a b:=by
 funext m f;unfold keptG keptM oneM
 cases whereF base a f<;>cases whereF base b f<;>rfl
def SmallF (F:FV->Option FV):Prop:=∀f g,F f=some g->g.path.size<=20000/\g.text.size<=20000
theorem bIq {s1 s2:Nat}{F G:FV->Option FV}(hL:Lm w0)(h:MI Z w0 w mb fv cv m N)(hn:N+n<=100000)(hr:RdF w0 w0.heap.size A n c base)
  (hb:∀f∈base,f.path.size<=20000/\f.text.size<=20000) (hF:Finds w0 s1 F) (hG:Finds w0 s2 G) (sF:SmallF F) (sG:SmallF G) :
  Calls prog 130 #[.pointer (some ⟨mb,0,none⟩),.slice A n c,.pointer (some ⟨s1,0,none⟩),.pointer (some ⟨s2,0,none⟩)] w (PutIs Z w0 mb (base.foldl (keptG F G) m) (N+n)):=by
 have HR:=hid hr;have nw:=hid hb;have HF:=hid hF;have HG:=hid hG;have nz:=hid sF;have nA:=hid sG;have HL:=hid hL;have W:=hid h;have X:=hid hr.len;clear hr hb hF hG sF sG hL h;go_enter Tryz.func130,Tryz.ntmps130;go_wp2;go_loopw[16] (fun i wr=>∃k:Nat,k<=n/\i=.int .i64 k/\∃K L,Hid (MI Z w0 wr mb K L ((base.take k).foldl (keptG F G) m) (N+k))) (fun i _=>n-(intOf i).toNat)
 case atStart=>exact ⟨0,al _,rfl,fv,cv,W⟩
 clear W;obtain ⟨k,hk,rfl,K,L,V⟩:=hrel;by_cases nE:k<n
 ·obtain ⟨b0,o0,f,rfl,M,hx,hm,h0,h1,h2⟩:=HR.out.get nE
  replace h0:=(V.out.bel.cell (p:=⟨b0,o0+k*3,none⟩) M).trans h0;replace h1:=(V.out.bel.cell (p:=⟨b0,o0+k*3+1,none⟩) M).trans h1;replace h2:=(V.out.bel.cell (p:=⟨b0,o0+k*3+2,none⟩) M).trans h2;have HT:=hid (show (base.take (k+1)).foldl (keptG F G) m=keptG F G ((base.take k).foldl (keptG F G) m) f by rw[aB,hx,cJ];rfl);have r:=nw.out f hm;clear hx hm M;generalize (base.take k).foldl (keptG F G) m=mk at *;have Y:Below wr.heap.size wr (wr.alloc (.cells #[.string f.path,.bool f.exec,.string f.text] 48)):=(Below.refl _ _).alloc (aa _) _;have Q:=hid (V.out.below Y);have ff:=hid (BoxF.new wr f);have KF:=HF.out f _ Q.out.bel r.1;have J:=hid (show keptG F G mk f=match F f,G f with | some x,some y=>bothM mk f x y | some x,none=>oneM mk f x | none,some y=>oneM mk f y | none,none=>mk from rfl);have nB:=hid (nz.out f);have nj:=hid (nA.out f);clear Y;go_wp2_with fail;refine KF.mono ?_;rintro e w1 ⟨rfl,U⟩;generalize nq:optF (F f)=I;generalize nr:(F f).isSome=bx;have l:=hid nq;have d:=hid nr;have z:Below w1.heap.size w1 (w1.alloc (.cells #[.string I.path,.bool I.exec,.string I.text] 48)):=(Below.refl _ _).alloc (aa _) _;have R:=hid ((Q.out.below U).below z);have B:=hid ((ff.out.below U).below z);have nk:=hid (BoxF.new w1 I);have x0:=B.out.c0;have x1:=B.out.c1;have x2:=B.out.c2;have KG:=HG.out f _ R.out.bel r.1;clear KF U z nq nr Q ff V;generalize wr.heap.size=q9 at *;go_wp2_with fail;refine KG.mono ?_;rintro e w2 ⟨rfl,O⟩;generalize ns:optF (G f)=H;generalize nu:(G f).isSome=bY;have g:=hid ns;have a:=hid nu
  have v:Below w2.heap.size w2 (w2.alloc (.cells #[.string H.path,.bool H.exec,.string H.text] 48)):=(Below.refl _ _).alloc (aa _) _;have o:=hid ((R.out.below O).below v);have s:=hid ((B.out.below O).below v);have t:=hid ((nk.out.below O).below v);have u:=hid (BoxF.new w2 H);clear KG O v ns nu R B nk x0 x1 x2 h0 h1 h2;generalize w1.heap.size=nF at *;have x0:=s.out.c0;have x1:=s.out.c1;have x2:=s.out.c2;have y0:=t.out.c0;have y1:=t.out.c1;have y2:=t.out.c2;have z0:=u.out.c0;have z1:=u.out.c1;have z2:=u.out.c2
  cases j:F f with
  | some x=>
   rw[j] at l d;have ex:I=x:=l.out.symm;have C:bx=true:=d.out.symm;subst ex C;have nC:=nB.out _ j
   cases b:G f with
   | some y=>
    rw[b] at g a;have ey:H=y:=g.out.symm;have C:bY=true:=a.out.symm;subst ey C;have nm:=nj.out _ b;have S:Hid (keptG F G mk f=bothM mk f I H):=hid (by rw[J.out,j,b]);have P:=bGx (hL:=HL.out.to o.out.bel) o.out ω r nC nm;clear j b l d g a;go_wp2_with fail;refine P.mono ?_;rintro e w3 ⟨rfl,D,E,q⟩;have T:=hid q;clear P q o s t u x0 x1 x2 y0 y1 y2 z0 z1 z2 r;go_wp2;go_roundw
    case rel=>exact ⟨k+1,ω,by go_num,D,E,by rw[HT.out,S.out];exact T⟩
    simp[intOf];omega
   | none=>
    rw[b] at a;have C:bY=false:=a.out.symm;subst C;have S:Hid (keptG F G mk f=oneM mk f I):=hid (by rw[J.out,j,b]);have P:=bAe (f:=f) (x:=I) o.out ω (show I.path.size<=1000000/\I.text.size<=1000000 from ⟨ω,ω⟩);clear j b l d g a;go_wp2_with fail;refine P.mono ?_;rintro e w3 ⟨rfl,D,E,q⟩;have T:=hid q;clear P q o s t u x0 x1 x2 y0 y1 y2 z0 z1 z2 r;go_wp2;go_roundw
    case rel=>exact ⟨k+1,ω,by go_num,D,E,by rw[HT.out,S.out];exact T⟩
    simp[intOf];omega
  | none=>
   rw[j] at d;have C:bx=false:=d.out.symm;subst C
   cases b:G f with
   | some y=>
    rw[b] at g a;have ey:H=y:=g.out.symm;have C:bY=true:=a.out.symm;subst ey C;have nm:=nj.out _ b;have S:Hid (keptG F G mk f=oneM mk f H):=hid (by rw[J.out,j,b]);have P:=bAe (f:=f) (x:=H) o.out ω (show H.path.size<=1000000/\H.text.size<=1000000 from ⟨ω,ω⟩);clear j b l d g a;go_wp2_with fail;refine P.mono ?_;rintro e w3 ⟨rfl,D,E,q⟩;have T:=hid q;clear P q o s t u x0 x1 x2 y0 y1 y2 z0 z1 z2 r;go_wp2;go_roundw
    case rel=>exact ⟨k+1,ω,by go_num,D,E,by rw[HT.out,S.out];exact T⟩
    simp[intOf];omega
   | none=>
    rw[b] at a;have C:bY=false:=a.out.symm;subst C;have S:Hid (keptG F G mk f=mk):=hid (by rw[J.out,j,b]);clear j b l d g a;have T:=hid (o.out.more (show N+k<=N+(k+1) by omega));clear o s t u r;go_wp2;go_roundw
    case rel=>exact ⟨k+1,ω,by go_num,K,L,by rw[HT.out,S.out];exact T⟩
    simp[intOf];omega
 have nD:k=n:=ω;subst nD;go_wp2;refine aI (aF rfl _ _ _) rfl ?_;exact ⟨rfl,K,L,by have:=V.out;rwa [ai (by rw[X.out];exact aa _)] at this⟩
def FirstG (p:FV->Bool)(xs:List FV)(w:World)(e:Ending) (w':World):Prop:=
 ∃k:Int,e=.returned (.int .i64 k)/\((k=-1/\∀x∈xs,p x=false)\/∃(j:Nat) (x:FV),k=(j:Int)/\xs[j]? = some x/\p x=true/\∀(i:Nat) (y:FV),i<j->xs[i]? = some y->p y=false)/\Below w.heap.size w w'
theorem FV.len_flat(l:List FV):(l.flatMap FV.cells).length=l.length*3:=by
 induction l with
 | nil=>rfl
 | cons x l ih=>rw[aL,ae,ih,aD,FV.cells_len];omega
theorem aUs {u a:World}(h:Below u.heap.size u a):u.grownBy a none:=aAs h
theorem aLj {xs:List FV}(p:FV->Bool)(O:n<=1000000)(h:RdF w w.heap.size A n c xs)
  (H:∀(x:FV) (u:World),x∈xs->Below w.heap.size w u->Calls prog 158 #[.agg #[.string x.path,.bool x.exec,.string x.text],q1,q2] u fun e w'=>e=.returned (.bool (p x))/\Below u.heap.size u w') :
  Calls prog 188 #[.slice A n c,.func (.func 158) #[] #[q1,q2]] w (FirstG p xs w):=by
 have F:=hid h.len;go_enter lN,kS;go_wp2;go_loopw[8] (fun i wr=>∃k:Nat,k<=n/\i=.int .i64 k/\Hid (Below w.heap.size w wr)/\Hid (∀(i:Nat) (y:FV),i<k->xs[i]? = some y->p y=false)) (fun i _=>n-(intOf i).toNat)
 case atStart=>exact ⟨0,al _,rfl,hid (Below.refl _ _),fun i y h=>absurd h (bN _)⟩
 obtain ⟨k,I,rfl,a,s⟩:=hrel;by_cases B:k<n
 ·obtain ⟨t,v,x,rfl,b,l,f,m,o,q⟩:=h.get B
  replace m:=(a.out.cell (p:=⟨t,v+k*3,none⟩) b).trans m;replace o:=(a.out.cell (p:=⟨t,v+k*3+1,none⟩) b).trans o;replace q:=(a.out.cell (p:=⟨t,v+k*3+2,none⟩) b).trans q;have C:=hid l;clear l;have K:=H x wr f a.out;clear f;obtain ⟨R,z⟩:∃R,R=p x:=⟨_,rfl⟩;rw[<-z] at K;have D:=hid z;clear z;obtain ⟨J,L,M⟩:=x;dsimp only at m o q K;go_wp2_with fail;refine K.mono ?_;rintro e N ⟨rfl,g⟩;have d:=hid (a.out.trans (g.mono a.out.size));clear K g
  cases R
  ·have G:Hid (∀(i:Nat) (y:FV),i<k+1->xs[i]? = some y->p y=false):=fun i y E j=>by
    rcases bo i k with h | h
    ·exact s.out i y h j
    rw[show i=k by omega,C.out] at j;injection j with j;rw[<-j];exact D.out.symm
   go_wp2;go_roundw
   case rel=>exact ⟨k+1,ω,by go_num,d,G⟩
   simp[intOf];omega
  go_wp2;go_ret;exact ⟨k,rfl,.inr ⟨k,_,rfl,C.out,D.out.symm,s.out⟩,d.out⟩
 have r:k=n:=ω;subst r;go_wp2;go_ret;refine ⟨-1,rfl,.inl ⟨rfl,fun x l=>?_⟩,a.out⟩;obtain ⟨i,E,rfl⟩:=bn l;exact s.out i _ (by have:=F.out;omega) (ac E)
def keepP (p:FV->Bool)(l:List FV):List FV:=l.filter fun x=>!p x
theorem aQa(p:FV->Bool){l:List FV}{k:Nat}{x:FV}(a:l[k]? = some x):keepP p (l.take (k+1))=keepP p (l.take k)++if p x=false then [x] else []:=by
 rw[aB,a,keepP,bX];by_cases e:p x=false
 ·simp[e,keepP]
 simp[e,keepP]
theorem aTa {p:FV->Bool}(h:∀f∈l,p f=false):keepP p l=l:=dg.2 fun x a=>by
 have:=h x a;simpa using this
theorem bJf {b:List Value}{a:List FV}{x:FV}{i cap:Nat}(c:a.length=i)(m:i<n)(p:l.length=n)(q:b.length=cap*3)(o:n<=cap)
  (e:b.take (n*3)=(a++l.drop i).flatMap FV.cells):(b.take (i*3)++x.cells++b.drop (i*3+3)).take (n*3)=((a++[x])++l.drop (i+1)).flatMap FV.cells:=by
 have f:b.take (i*3)=a.flatMap FV.cells:=by
  have:(b.take (n*3)).take (i*3)=b.take (i*3):=by rw[ei,bP O]
  rw[<-this,e,aJ,cU (by rw[FV.len_flat,c];exact aa _),ai (by rw[FV.len_flat,c];exact aa _)]
 have g:(b.take (n*3)).drop (i*3+3)=(l.drop (i+1)).flatMap FV.cells:=by
  obtain ⟨y,j⟩:∃y,l[i]? = some y:=⟨l[i],ac O⟩;obtain ⟨d,k⟩:=aj.1 j;rw[e,bp d,aJ,aL,<-aH];rw[fF (by rw[ae,FV.len_flat,c,FV.cells_len];exact aa _),cI (by rw[ae,FV.len_flat,c,FV.cells_len];exact aa _),aT]
 have h:(b.take (i*3)++x.cells).length=i*3+3:=by rw[ae,aE,FV.cells_len];omega
 rw[iH,ai O,h,<-kq,g,f];simp[aJ]
theorem aRv {r cap:Nat}(p:FV->Bool){D:Array Value}{l:List FV}{w:World}(hn:n<=1000000)(hg:w.heap[r]? = some (.cells D 48 (0,0)))(Q:n<=cap)(_hcm:cap<=maxLen)(nB:D.size=cap*3)
  (g:D.toList.take (n*3)=l.flatMap FV.cells) (hl:l.length=n) (hf:∀f∈l,f.path.size<=140737488351232/\f.text.size<=140737488351232)
  (hC:∀(x:FV) (u:World),x∈l->w.grownBy u (some r)->Calls prog 158 #[.agg #[.string x.path,.bool x.exec,.string x.text],q1,q2] u fun e w'=>e=.returned (.bool (p x))/\Below u.heap.size u w') :
  Calls prog 157 #[.slice (some ⟨r,0,none⟩) n cap,.func (.func 158) #[] #[q1,q2]] w
   fun e w'=>∃m,e=.returned (.slice (some ⟨r,0,none⟩) m cap)/\(keepP p l).length=m/\RdF w' w'.heap.size (some ⟨r,0,none⟩) m cap (keepP p l)/\w.grownBy w' (some r):=by
 have E:=hid hl;have HF:=hid hf;have X:(prog.info? 48).map (·.size)=some 3:=κ;have zv:∀w,(zeroValue 48).run prog w=.ok (.agg #[.string ⟨#[]⟩,.bool false,.string ⟨#[]⟩]) w:=mL;have Y:r<w.heap.size:=(aU.1 hg).1;have hR:RdF w w.heap.size (some ⟨r,0,none⟩) n cap l:=⟨aQh hg (by rw[FV.len_flat,hl]) Q fun j u h=>by simpa using aBj g h,hl,hf⟩;have C0:=aLj p hn hR (fun x u y h=>hC x u y ((aUs h).but _));have I:=hid g;have Z:=hid hg;have nC:=hid nB;clear g hg nB hl hf hR;go_enter Tryz.func157,Tryz.ntmps157;go_wp2_with fail;refine C0.mono ?_;rintro e w1 ⟨k,rfl,hk,O⟩;clear C0;have J:w.grownBy w1 (some r):=(aAs O).but _;have K:=hid ((O.block r Y).trans Z.out);rcases hk with ⟨rfl,nA⟩ | ⟨j,f,rfl,z⟩
 ·have HK:=hid (aTa nA)
  clear nA;go_wp2;go_ret;refine ⟨n,rfl,by rw[HK.out,E.out],?_,J⟩;rw[HK.out];exact ⟨aQh K.out (by rw[FV.len_flat,E.out]) Q fun j u h=>by simpa using aBj I.out h,E.out,HF.out⟩
 have nD:j<n:=by have:=(aj.1 z.1).1;rw[E.out] at this;exact this
 have L:=hid (show keepP p (l.take (j+1))=l.take j by
  rw[aQa p z.1,ah (by have:=z.2.1;simpa using this),aR];refine aTa fun x y=>?_;obtain ⟨i,hi,e⟩:=bn y;rw[aE] at hi;rw[fg] at e;exact z.2.2 i x ω (by rw[<-e];exact ac _))
 clear z;have ff:((j:Int) == -1)=false:=a7.2 ω;go_wp2
 try rw[ff]
 clear ff;go_loopw[5,6] (fun iv jv wr=>∃(i b:Nat) (a:Array Value),b<=n/\i<b/\iv=.int .i64 i/\jv=.int .i64 b/\w.grownBy wr (some r)/\Hid (wr.heap[r]? = some (.cells a 48 (0,0)))/\Hid (a.size=cap*3)/\Hid (a.toList.take (n*3)=(keepP p (l.take b)++l.drop i).flatMap FV.cells)/\Hid ((keepP p (l.take b)).length=i)) (fun _ jv _=>n-(intOf jv).toNat)
 case atStart=>exact ⟨j,j+1,D,ω,ω,rfl,by go_num,J,K,nC,hid (by rw[L.out,aY];exact I.out),hid (by rw[L.out,aE,E.out];omega)⟩
 clear J K Z I L nD O;obtain ⟨i,b,a,nK,nL,rfl,rfl,s,HG,S,HT,v⟩:=hrel;by_cases nz:b<n
 ·obtain ⟨x,y⟩:∃x,l[b]? = some x:=⟨l[b]'(by rw[E.out];exact nz),ac _⟩
  have nI:=HF.out x (aC y)
  have d:∀t u,x.cells[t]? = some u->wr.cell? ⟨r,b*3+t,none⟩=some u:=fun t u h=>by
   have ht:t<3:=(by have:=(aj.1 h).1;exact this);rw[bd wr _ _ _ _ _ HG.out]
   have e1:(keepP p (l.take b)++l.drop i)[b]? = some x:=by
    rw[a6 (by rw[v.out];omega),v.out,bO,show i+(b-i)=b by omega];exact y
   have e2:=(T.flat_at (f:=FV.cells) FV.cells_len e1 ht).trans h;simpa using aBj HT.out e2
  have h0:wr.cell? ⟨r,b*3,none⟩=some (.string x.path):=d 0 _ rfl;have nj:wr.cell? ⟨r,b*3+1,none⟩=some (.bool x.exec):=d 1 _ rfl;have nk:wr.cell? ⟨r,b*3+2,none⟩=some (.string x.text):=d 2 _ rfl;have HK:=hid (aQa p y);obtain ⟨W,hW⟩:∃u,u=wr.alloc (.cells #[.string x.path,.bool x.exec,.string x.text] 48):=⟨_,rfl⟩;have o:Below wr.heap.size wr W:=by rw[hW];exact (Below.refl _ _).alloc (aa _) _
  have q:=s.andThen (aAs o) (fun j hj=>by cases hj);have C:=hC x W (aC y) q
  have F:∀t u,x.cells[t]? = some u->∀u',Below W.heap.size W u'->u'.cell? ⟨wr.heap.size,t,none⟩=some u:=fun t u h u' nH=>
   (nH.cell (p:=⟨wr.heap.size,t,none⟩) (by show wr.heap.size<_;rw[hW];simp)).trans (by rw[hW,World.cell?,au];simpa[FV.cells] using h)
  have HB:=hid F;have HW:=hid hW;have nm:r<wr.heap.size:=ag Y s.size;have nq:=hid ((o.block r nm).trans HG.out);have nr:=ag nm o.size;clear y d hW F
  cases V:p x with
  | true=>
   rw[V] at C;have HN:=hid (show keepP p (l.take (b+1))=keepP p (l.take b) by rw[HK.out,ah (by simpa using V),aR]);clear V;go_wp2_with fail;rw[<-HW.out];refine C.mono ?_;rintro e w2 ⟨rfl,c⟩;have M:=q.andThen (aAs c) (fun j hj=>by cases hj);have A:=hid ((c.block r nr).trans nq.out);clear C h0 nj nk o q c s;go_wp2;go_roundw
   case rel=>exact ⟨i,b+1,a,ω,ω,rfl,by go_num,M,A,S,by rw[HN.out];exact HT,by rw[HN.out];exact v⟩
   simp[intOf];omega
  | false=>
   rw[V] at C;have HN:=hid (show keepP p (l.take (b+1))=keepP p (l.take b)++[x] by rw[HK.out,ao (by simpa using V)]);clear V;go_wp2_with fail;rw[<-HW.out];refine C.mono ?_;rintro e w2 ⟨rfl,c⟩;have M:=q.andThen (aAs c) (fun j hj=>by cases hj);have A:=hid ((c.block r nr).trans nq.out);have x0:=HB.out 0 _ rfl w2 c;have x1:=HB.out 1 _ rfl w2 c;have x2:=HB.out 2 _ rfl w2 c;clear C h0 nj nk o q c s;go_wp2_with (refine aJr rfl 48 (.tmp 33) (.tmp 32) rfl (cs:=#[.string x.path,.bool x.exec,.string x.text]) X rfl rfl A.out (by rw[S.out];show i*3+3<=_;omega) (aBu [x]) ?_);go_roundw
   case rel=>
    refine ⟨i+1,b+1,_,ω,ω,by go_num,by go_num,aDm M (.inr rfl),hid (bB _ _ _ _ _ _ A.out),hid ?_,hid ?_,hid ?_⟩
    ·simp only[gB,ae,aD,aE,aN,bg,S.out];omega
    ·rw[HN.out]
     have h6:=bJf (x:=x) v.out ω E.out (by rw[bg];exact S.out) Q HT.out;rw[aH] at h6;exact h6
    rw[HN.out,ae,v.out];rfl
   simp[intOf];omega
 obtain rfl:n=b:=ω;rw[ai (gZ E.out)] at HT v;obtain ⟨k,hk⟩:∃k,n-i=k+1:=⟨n-i-1,ω⟩;obtain ⟨U,B⟩:∃U,U=(Builtin.zeroCells (Value.agg #[.string ⟨#[]⟩,.bool false,.string ⟨#[]⟩]).cells (k+1)).toList:=⟨_,rfl⟩;have ns:U.length=(k+1)*3:=by rw[B,aFx];rfl
 have nu:∀u∈U,u.oneCell'=true:=by
  rw[B];exact aFu (by decide) (aBu [⟨⟨#[]⟩,false,⟨#[]⟩⟩])
 obtain ⟨R2,P⟩:∃R:Array Value,R=(a.toList.take (i*3)++U++a.toList.drop (i*3+U.length)).toArray:=⟨_,rfl⟩
 have N:∀ty c',(Builtin.clear_ #[29] ty #[.slice (some ⟨r,i*3,none⟩) (n-i) c']).run prog wr=.ok (.tuple #[]) (wr.setRow r R2):=fun ty c'=>by
  rw[hk,P];exact aEt wr _ _ ty _ iy zv B.symm HG.out (by rw[ns,S.out];omega) nu
 have G:a.toList.take (i*3)=(keepP p l).flatMap FV.cells:=by
  have:(a.toList.take (n*3)).take (i*3)=a.toList.take (i*3):=by rw[ei,bP ω]
  rw[<-this,HT.out,aJ,cU (by rw[FV.len_flat,v.out];exact aa _),ai (by rw[FV.len_flat,v.out];exact aa _)]
 have nw:((keepP p l).flatMap FV.cells).length=i*3:=by rw[FV.len_flat,v.out]
 have H:∀(j:Nat) (u:Value),((keepP p l).flatMap FV.cells)[j]? = some u->R2[j]? = some u:=fun j u h=>by
  have nz:j<i*3:=by have:=(aj.1 h).1;omega
  rw[<-G] at h;rw[P];simp only[aH];rw[List.getElem?_toArray,aZ (by rw[aE,bg,S.out];omega)];exact h
 have nE:=hid H;have nF:=hid nw;have nG:=hid N;have nJ:¬cap=i:=ω;clear H nw G N P nu ns B hk zv;have N:=nG.out;go_wp2;go_ret;exact ⟨i,rfl,v.out,⟨bEz HG.out ω nF.out nE.out,v.out,fun x y=>HF.out x (aX.1 y).1⟩,aDm s (.inr rfl)⟩
theorem SideIs.cells2 {e:Value}(h:SideIs w B s e base side L):∃b a c d,w.heap[s]? = some (.cells #[e,.map (some b),.map (some a)] 214 (0,0))/\SetT w a c d (takenL side L):=by
 obtain ⟨⟨b,a,i,c,j,d,f,_,g,_⟩,_⟩:=h.ex,h.lo;exact ⟨b,a,c,d,f,g⟩
def addedP (base side:List FV)(L:List (Nat×Nat))(f:FV):Bool:=(findP base f.path).isSome || takenL side L f.path.data.toList
theorem bBv {R bs:Nat}{fs:Value}{t:List FV}(hn:n<=1000000)(h:SideIs w B s fs t side L)(hr:RdF w w.heap.size A n c base)(hf:f.path.size<=maxLen)
  (S:w.heap[R]? = some (.cells #[.slice A n c] 29 (0,0))) (U:w.heap[bs]? = some (.cells #[.pointer (some ⟨s,0,none⟩)] 177 (0,0))) :
  Calls prog 158 #[.agg #[.string f.path,.bool f.exec,.string f.text],.pointer (some ⟨R,0,none⟩),.pointer (some ⟨bs,0,none⟩)] w fun e w'=>e=.returned (.bool (addedP base side L f))/\Below w.heap.size w w':=by
 obtain ⟨W,D⟩:∃W,W=w.alloc (.cells #[.string f.path,.bool f.exec,.string f.text] 48):=⟨_,rfl⟩;have k:Below w.heap.size w W:=by rw[D];exact (Below.refl _ _).alloc (aa _) _
 have O:BoxF W w.heap.size f:=by rw[D];exact BoxF.new _ _
 have X:=(k.block _ (aAa S)).trans S;have d2:=(k.block _ (aAa U)).trans U;have Y:=hid (h.below k);have K:=aJl (p:=f.path) (w:=W) ω (hr.to k k.size);have Z:W.cell? ⟨R,0,none⟩=some (.slice A n c):=by rw[ab X];rfl
 have x0:=O.c0;have N:=hid k;have x:=hid O;have d:=hid d2;have P:Hid (addedP base side L f=((findP base f.path).isSome || takenL side L f.path.data.toList)):=hid rfl;rw[D] at Z x0 K;clear k O X d2 h hr S U;go_enter Tryz.func158,Tryz.ntmps158;go_wp2_with fail;refine K.mono ?_;rintro e E ⟨rfl,a⟩;rw[<-D] at a;clear K Z x0 D;generalize hg:optF (findP base f.path)=g;generalize hi:(findP base f.path).isSome=is;rw[hi] at P;clear hg hi;have b:Below E.heap.size E (E.alloc (.cells #[.string g.path,.bool g.exec,.string g.text] 48)):=(Below.refl _ _).alloc (aa _) _;have l:=hid ((Y.out.below a).below b);have m:=hid ((x.out.below a).below b);have i:=hid ((N.out.trans (a.mono N.out.size)).trans (b.mono (aw N.out.size a.size)));have j:=hid ((b.block _ (ag (aAa d.out) a.size)).trans ((a.block _ (aAa d.out)).trans d.out));clear a b Y x d N
 cases is
 ·obtain ⟨m1,m2,n2,D2,F,G⟩:=l.out.cells2
  have o:=hid F;have y:=hid G;clear F G;go_wp2;generalize E.alloc (.cells #[.string g.path,.bool g.exec,.string g.text] 48)=V at *;refine aAe (fun u=>Below V.heap.size V u) [(true,0),(true,1),(true,2),(true,3),(true,4),(true,5),(true,6),(true,7),(false,8),(false,9),(true,10),(true,11)] mixed κ (Below.refl _ _).drew ?_;intro T M Q H r v I;have m0:M ⟨bs,0,none⟩=some (.pointer (some ⟨s,0,none⟩)):=v _ _ fun w' J=>by rw[ab ((J.block _ (aAa j.out)).trans j.out)];rfl
  have z:M ⟨s,2,none⟩=some (.map (some m2)):=v _ _ fun w' J=>by rw[ab ((J.block _ (aAa o.out)).trans o.out)];rfl
  have C:M ⟨w.heap.size,0,none⟩=some (.string f.path):=v _ _ fun w' J=>(m.out.below J).c0;clear v;simp only[qcmp];simp (maxSteps:=9^7) only[↓qpre,aAb,aAg,aAc,m0,z,C];refine aBo rfl (aMp _ _) ⟨H _ (Below.refl _ _).drew,?_⟩;simp (maxSteps:=9^7) only[↓qpre,aAb,aAc];refine aPa rfl rfl ((y.out.below (Below.refl V.heap.size V).drew).look hf) ⟨H _ (Below.refl _ _).drew,?_⟩;simp (maxSteps:=9^7) only[↓qpre,aAb,aAc];refine I _ _ ?_;have q:Hid (Below w.heap.size w V.drew):=i.out.drew;clear I H r m0 z C l m o y j i;go_wp2;go_ret;exact ⟨by rw[P.out];rfl,q.out⟩
 go_wp2;generalize E.alloc (.cells #[.string g.path,.bool g.exec,.string g.text] 48)=V at *;refine aAe (fun u=>True) [(true,0),(true,1),(true,2),(true,3),(true,4),(true,5),(true,6),(true,7),(false,8),(false,9),(true,10),(true,11)] mixed κ trivial ?_;intro T M Q H r v I;clear v;simp only[qcmp];simp (maxSteps:=9^7) only[↓qpre,aAb,aAc];refine I _ _ ?_;have q:Hid (Below w.heap.size w V.drew):=i.out.drew;clear I H r l m j i;go_wp2;go_ret;exact ⟨by rw[P.out];rfl,q.out⟩
theorem aXt:Calls prog 157 #[.slice none 0 0,.func (.func 158) #[] #[q1,q2]] w fun e w'=>e=.returned (.slice none 0 0)/\Below w.heap.size w w':=by
 have d:=aLj (q1:=q1) (q2:=q2) (fun _=>false) O (RdF.none_ w w.heap.size) (fun x u h=>by cases h);go_enter Tryz.func157,Tryz.ntmps157;go_wp2_with fail;refine d.mono ?_;rintro e i ⟨k,rfl,g,a⟩;rcases g with ⟨rfl,b⟩ | ⟨j,f,rfl,c,_⟩
 ·clear d b
  go_wp2;go_ret;exact ⟨rfl,a⟩
 simp at c
def FilesOf (l:List FV)(w:World)(e:Ending) (w':World):Prop:=∃A c,e=.returned (.slice A l.length c)/\RdF w' w'.heap.size A l.length c l/\Below w.heap.size w w'/\NewAt A w.heap.size
theorem aPz {R c2:Nat}{A2:Option Addr}(hn:n<=1000000)(S:R<=1000000)(h:SideIs w B s (.slice A2 R c2) base side L)(V:RdF w w.heap.size A2 R c2 side)(hr:RdF w w.heap.size A n c base)
  (hf:∀f∈side,f.path.size<=maxLen) :
  Calls prog 132 #[.pointer (some ⟨s,0,none⟩),.slice A n c] w (FilesOf (keepP (addedP base side L) side) w):=by
 obtain ⟨J,j⟩:∃W,W=w.alloc (.cells #[.pointer (some ⟨s,0,none⟩)] 177):=⟨_,rfl⟩;obtain ⟨W,y⟩:∃W,W=J.alloc (.cells #[.slice A n c] 29):=⟨_,rfl⟩;have X:Below w.heap.size w J:=by rw[j];exact (Below.refl _ _).alloc (aa _) _
 have Y:Below J.heap.size J W:=by rw[y];exact (Below.refl _ _).alloc (aa _) _
 have s1:J.heap.size=w.heap.size+1:=by rw[j];simp
 have d2:W.heap[w.heap.size]? = some (.cells #[.pointer (some ⟨s,0,none⟩)] 177 (0,0)):=(Y.block _ ω).trans (by rw[j];exact au _ _);have d1:W.heap[w.heap.size+1]? = some (.cells #[.slice A n c] 29 (0,0)):=by rw[y,<-s1];exact au _ _
 have a:=X.trans (Y.mono X.size);have HS:=hid (h.below a);have HR:=hid (hr.to a a.size);have C:=hid d1;have D:=hid d2;have z:=hid a;have Z:=hid V.fits;have E:=hid V.len;have ff:=hid hf;have T:=aPy S (V.to a a.size);have q:W.cell? ⟨w.heap.size,0,none⟩=some (.pointer (some ⟨s,0,none⟩)):=by rw[ab d2];rfl
 obtain ⟨m1,m2,n9,D2,k,nk⟩:=HS.out.cells2;have c3:W.cell? ⟨s,0,none⟩=some (.slice A2 R c2):=by rw[ab k];rfl
 rw[j] at y;rw[y] at T q c3;clear X Y s1 d1 d2 a h V hr hf k nk j;go_enter Tryz.func132,Tryz.ntmps132;go_wp2_with fail;refine T.mono ?_;rintro e w1 ⟨v,rfl,U,p⟩;rw[<-y] at U p;have d:=hid p;rcases U.2 with ⟨rfl,nm⟩ | ⟨g,cap,nq,rfl,O,hg,P,Q,k,ht⟩
 ·have F:side=[]:=bj.1 (by have:=E.out;omega)
  have G:=aXt (w:=w1) (q1:=.pointer (some ⟨w.heap.size+1,0,none⟩)) (q2:=.pointer (some ⟨w.heap.size,0,none⟩));have H:=hid F;clear T U p nm q c3 F y;go_wp2_with fail;refine G.mono ?_;rintro e w2 ⟨rfl,K⟩;have t:=hid ((z.out.trans (d.out.mono z.out.size)).trans (K.mono (aw z.out.size d.out.size)));clear G K;go_wp2;go_ret;exact ⟨none,0,by rw[H.out];rfl,by rw[H.out];exact RdF.none_ _ _,t.out,NewAt.none_ _⟩
 have G:=aRv (r:=g) (n:=R) (cap:=cap) (q1:=.pointer (some ⟨w.heap.size+1,0,none⟩)) (q2:=.pointer (some ⟨w.heap.size,0,none⟩)) (addedP base side L) (l:=side) (w:=w1) S hg P Q k ht E.out Z.out (fun x u hx hu=>by
  have i:Below W.heap.size W u:=d.out.grown hu d.out.size (fun g' e=>by injection e with e;omega);exact bBv hn (HS.out.below i) (HR.out.to i i.size) (ff.out x hx) ((i.block _ (aAa C.out)).trans C.out) ((i.block _ (aAa D.out)).trans D.out))
 have I:=hid O;clear T U p q c3 y hg P Q k ht;go_wp2_with fail;refine G.mono ?_;rintro e w2 ⟨m,rfl,hm,M,N⟩;have t:=hid (z.out.trans ((d.out.grown N d.out.size (fun g' e=>by injection e with e;have:=I.out;omega)).mono z.out.size));have nj:=hid M;have HM:=hid hm;clear G hm M N O;go_wp2;go_ret
 exact ⟨_,cap,by rw[HM.out];rfl,by rw[HM.out];exact nj.out,t.out,fun b o s e=>by
  injection e with e;injection e with e _ _;have:=I.out;have:=z.out.size;omega⟩
theorem aRu(x y:FV)(w:World):(binOp .eql 48 (.agg #[.string x.path,.bool x.exec,.string x.text]) (.agg #[.string y.path,.bool y.exec,.string y.text])).run prog w=.ok (.bool (decide (x=y))) w:=by
 rw[run_eql_struct,bHd];rfl
theorem aXp {α:Type}(p:α->Bool){l:List α}{k:Nat}{x:α}(a:l[k]? = some x):(l.take (k+1)).filter p=(l.take k).filter p++if p x=true then [x] else []:=by
 rw[aB,a,bX];by_cases h:p x=true
 ·simp[h]
 simp[h]
theorem bDk {n1 n2 c1 c2:Nat}{A1 A2:Option Addr}{c a:List FV}(hL:Lm w0)(h:MI Z w0 w mb fv cv m N)(hn:N+n1+n2<=100000)
  (h1:∀u:World,(∀k x,Z k x->u.heap[k]? = some x)->RdF u u.heap.size A1 n1 c1 c) (h2:∀u:World,(∀k x,Z k x->u.heap[k]? = some x)->RdF u u.heap.size A2 n2 c2 a) (s1:∀f∈c,f.path.size<=20000/\f.text.size<=20000) (s2:∀f∈a,f.path.size<=20000/\f.text.size<=20000) :
  Calls prog 131 #[.pointer (some ⟨mb,0,none⟩),.slice A1 n1 c1,.slice A2 n2 c2] w (PutIs Z w0 mb (addM c a m) (N+n1+n2)):=by
 have nk:=hid h1;have nm:=hid h2;have nG:=hid s1;have nq:=hid s2;have HL:=hid hL;have nr:=hid h;have ns:=hid (h1 w (fun k x H=>(h.oth k x H).1)).len;have nu:=hid (h2 w (fun k x H=>(h.oth k x H).1)).len;clear h1 h2 s1 s2 hL h;go_enter Tryz.func131,Tryz.ntmps131;go_wp2;go_loopw[16] (fun i wr=>∃k:Nat,k<=n1/\i=.int .i64 k/\∃B C,Hid (MI Z w0 wr mb B C ((c.take k).foldl (addOne a) m) (N+k))) (fun i _=>n1-(intOf i).toNat)
 case atStart=>exact ⟨0,al _,rfl,fv,cv,nr⟩
 clear nr;obtain ⟨k,hk,rfl,B,C,A⟩:=hrel;by_cases Y:k<n1
 ·obtain ⟨b0,o0,f,rfl,ff,hx,hm,h0,h1,h2⟩:=(nk.out wr (fun k x H=>(A.out.oth k x H).1)).get Y
  have HT:=hid (show (c.take (k+1)).foldl (addOne a) m=addOne a ((c.take k).foldl (addOne a) m) f by rw[aB,hx,cJ];rfl);have F:=nG.out f hm;clear hx hm ff;generalize (c.take k).foldl (addOne a) m=mk at *;have I:Below wr.heap.size wr (wr.alloc (.cells #[.string f.path,.bool f.exec,.string f.text] 48)):=(Below.refl _ _).alloc (aa _) _;have z:=hid (A.out.below I);have r:=hid (BoxF.new wr f);have J:=hid (show mb≠wr.heap.size from gW (aAa A.out.hs));have K:=hid (fun e:B.ownBlock=some wr.heap.size=>cG _ (A.out.f1.lt _ e).2);have L:=hid (fun e:C.ownBlock=some wr.heap.size=>cG _ (A.out.c1.lt _ e).2);have M:=hid A.out.bel.size;have O:=hid (show ∀j x,Z j x->j≠wr.heap.size from fun j x H=>by have:=aAa (A.out.oth j x H).1;omega);have KF:=aJl (p:=f.path) (w:=wr.alloc (.cells #[.string f.path,.bool f.exec,.string f.text] 48)) ω (nm.out _ (fun k x H=>(z.out.oth k x H).1));have P:=r.out.c0;clear I;generalize nK:wr.heap.size=q7 at r J K L M O;go_wp2_with fail;refine KF.mono ?_;rintro e S ⟨rfl,s⟩;clear nK
  cases U:findP a f.path with
  | none=>
   simp only[optF,dr,gY];have T:=hid (show addOne a mk f=putM mk f 0 by unfold addOne;rw[U]);have d:Below S.heap.size S (S.alloc (.cells #[.string zF.path,.bool zF.exec,.string zF.text] 48)):=(Below.refl _ _).alloc (aa _) _;have n:=hid ((z.out.below s).below d);have l:=hid ((r.out.below s).below d);have KP:=aBd (f:=f) (kind:=0) n.out ω (show f.path.size<=1000000/\f.text.size<=1000000 from ⟨ω,ω⟩);clear KF s d U z r A P h0 h1 h2;have P:=l.out.c0;have x1:=l.out.c1;have x2:=l.out.c2;go_wp2_with fail;refine KP.mono ?_;rintro e w3 ⟨rfl,D,E,q⟩;have V:=hid q;clear KP q n l P x1 x2 F J K L M O;go_wp2;go_roundw
   case rel=>exact ⟨k+1,ω,by go_num,D,E,by rw[HT.out,T.out];exact V⟩
   simp[intOf];omega
  | some y=>
   simp only[optF,da,d8];have nw:=nq.out y (aFa U).1;have d:Below S.heap.size S (S.alloc (.cells #[.string y.path,.bool y.exec,.string y.text] 48)):=(Below.refl _ _).alloc (aa _) _;have n:=hid ((z.out.below s).below d);have l:=hid ((r.out.below s).below d);have Q:=hid (BoxF.new S y);have nz:=hid U;clear KF s d U z r A P h0 h1 h2;have P:=l.out.c0;have x1:=l.out.c1;have x2:=l.out.c2;have y0:=Q.out.c0;have y1:=Q.out.c1;have y2:=Q.out.c2;have W:=fun u=>aRu f y u;by_cases he:f=y
   ·have T:=hid (show addOne a mk f=putM mk f 0 by unfold addOne;rw[nz.out];exact ao he)
    have KP:=aBd (f:=f) (kind:=0) n.out ω (show f.path.size<=1000000/\f.text.size<=1000000 from ⟨ω,ω⟩);rw[aq he] at W;clear he;go_wp2_with fail;refine KP.mono ?_;rintro e w3 ⟨rfl,D,E,q⟩;have V:=hid q;clear KP q n l Q P x1 x2 y0 y1 y2 F nw J K L M O W;go_wp2;go_roundw
    case rel=>exact ⟨k+1,ω,by go_num,D,E,by rw[HT.out,T.out];exact V⟩
    simp[intOf];omega
   have T:=hid (show addOne a mk f=putM mk ⟨f.path,f.exec,(merge3F ⟨#[]⟩ f.text y.text).1⟩ 2 by unfold addOne;rw[nz.out];exact ah he);rw[ak he] at W;clear he;have K3:=aCj (b:=⟨#[]⟩) (o:=f.text) (t:=y.text) (HL.out.to n.out.bel) (by decide) ω ω;have nA:=hid (show (merge3F ⟨#[]⟩ f.text y.text).1.size<=72773 by have:=aHc ⟨#[]⟩ f.text y.text;have e0:(⟨#[]⟩:ByteArray).size=0:=rfl;omega);go_wp2_with fail;refine K3.mono ?_;rintro e w3 ⟨rfl,nj⟩;have nB:=hid (n.out.below nj);have G:=hid (l.out.below nj);clear K3 nj n l Q P x1 x2 y0 y1 y2 W;generalize merge3F ⟨#[]⟩ f.text y.text=R at *;obtain ⟨rt,rc⟩:=R;dsimp only at T nA ⊢;have X:=hid (G.out.set2 rt);have nC:=hid (nB.out.setBox (k:=2) (v:=.string rt) M.out J.out K.out L.out O.out);have y0:=G.out.c0;have y1:=G.out.c1;have y2:=G.out.c2;have y3:=G.out.frozen 2;have z0:=X.out.c0;have z1:=X.out.c1;have z2:=X.out.c2;have KP:=aBd (f:=⟨f.path,f.exec,rt⟩) (kind:=2) nC.out ω (show f.path.size<=1000000/\rt.size<=1000000 from ⟨ω,by have:=nA.out;omega⟩);clear nB G;go_wp2_with fail;refine KP.mono ?_;rintro e w5 ⟨rfl,D,E,q⟩;have V:=hid q;clear KP q nC X y0 y1 y2 y3 z0 z1 z2 F nw J K L M O;go_wp2;go_roundw
   case rel=>exact ⟨k+1,ω,by go_num,D,E,by rw[HT.out,T.out];exact V⟩
   simp[intOf];omega
 have nH:k=n1:=ω;subst nH;have nD:Hid (MI Z w0 wr mb B C (c.foldl (addOne a) m) (N+k)):=by have:=A.out;rw[ai (by rw[ns.out];exact aa _)] at this;exact hid this
 have nI:=hid (show addM c a m=(a.filter fun y=>(findP c y.path).isNone).foldl (fun m y=>putM m y 0) (c.foldl (addOne a) m) from rfl);generalize c.foldl (addOne a) m=mo at *;clear A Y;go_wp2;go_loopw[52] (fun i wr=>∃j:Nat,j<=n2/\i=.int .i64 j/\∃B C,Hid (MI Z w0 wr mb B C (((a.take j).filter fun y=>(findP c y.path).isNone).foldl (fun m y=>putM m y 0) mo) (N+k+j))) (fun i _=>n2-(intOf i).toNat)
 case atStart=>exact ⟨0,al _,rfl,B,C,nD⟩
 clear nD;obtain ⟨j,hj,rfl,nE,nF,A⟩:=hrel;by_cases Y:j<n2
 ·obtain ⟨b0,o0,f,rfl,ff,hx,hm,h0,h1,h2⟩:=(nm.out wr (fun k x H=>(A.out.oth k x H).1)).get Y
  have HT:=hid (aXp (fun y=>(findP c y.path).isNone) hx);have F:=nq.out f hm;clear hx hm ff;generalize (a.take j).filter (fun y=>(findP c y.path).isNone)=tj at *;have I:Below wr.heap.size wr (wr.alloc (.cells #[.string f.path,.bool f.exec,.string f.text] 48)):=(Below.refl _ _).alloc (aa _) _;have z:=hid (A.out.below I);have r:=hid (BoxF.new wr f);have KF:=aJl (p:=f.path) (w:=wr.alloc (.cells #[.string f.path,.bool f.exec,.string f.text] 48)) ω (nk.out _ (fun k x H=>(z.out.oth k x H).1));have P:=r.out.c0;clear I;go_wp2_with fail;refine KF.mono ?_;rintro e S ⟨rfl,s⟩;generalize hg:optF (findP c f.path)=g;have d:Below S.heap.size S (S.alloc (.cells #[.string g.path,.bool g.exec,.string g.text] 48)):=(Below.refl _ _).alloc (aa _) _;have n:=hid ((z.out.below s).below d);have l:=hid ((r.out.below s).below d);clear KF s d hg z r A P h0 h1 h2;generalize wr.heap.size=nL at *
  cases U:findP c f.path with
  | none=>
   simp only[dr];have T:=hid (show (a.take (j+1)).filter (fun y=>(findP c y.path).isNone)=tj++[f] by rw[HT.out,U];rfl);have KP:=aBd (f:=f) (kind:=0) n.out ω (show f.path.size<=1000000/\f.text.size<=1000000 from ⟨ω,ω⟩);have P:=l.out.c0;have x1:=l.out.c1;have x2:=l.out.c2;clear U;go_wp2_with fail;refine KP.mono ?_;rintro e w3 ⟨rfl,D,E,q⟩;have V:=hid q;clear KP q n l P x1 x2 F;go_wp2;go_roundw
   case rel=>exact ⟨j+1,ω,by go_num,D,E,by rw[T.out,cJ];exact V⟩
   simp[intOf];omega
  | some y=>
   simp only[da];have T:=hid (show (a.take (j+1)).filter (fun y=>(findP c y.path).isNone)=tj by rw[HT.out,U];exact aR _);have V:=hid (n.out.more (show N+k+j<=N+k+(j+1) by omega));clear U n l F;go_wp2;go_roundw
   case rel=>exact ⟨j+1,ω,by go_num,nE,nF,by rw[T.out];exact V⟩
   simp[intOf];omega
 have nJ:j=n2:=ω;subst nJ;go_wp2;refine aI (aF rfl _ _ _) rfl ?_;exact ⟨rfl,nE,nF,by have:=A.out;rw[ai (by rw[nu.out];exact aa _)] at this;rw[nI.out];exact this⟩
open Go.RowKit Go.Sort
def cmpF (x y:FV):Int:=cmpS x.path y.path
theorem grow2(u:World)(a b:Obj):(u.alloc a).alloc b=Sort.grow (u.drewN 0) #[a,b]:=by
 have:(u.heap.push a).push b=u.heap++#[a,b]:=by
  apply dX.1;simp
 unfold World.alloc World.drewN Sort.grow;simp only[this];rfl
theorem bJp {x y:FV}:Calls prog 134 #[.agg #[.string x.path,.bool x.exec,.string x.text],.agg #[.string y.path,.bool y.exec,.string y.text]] w (GrowsI (cmpF x y) w):=by
 have c:Below w.heap.size w (w.alloc (.cells #[.string x.path,.bool x.exec,.string x.text] 48)):=(Below.refl _ _).alloc (aa _) _;have X:=(BoxF.new w x).below (w':=(w.alloc (.cells #[.string x.path,.bool x.exec,.string x.text] 48)).alloc (.cells #[.string y.path,.bool y.exec,.string y.text] 48)) ((Below.refl _ _).alloc (aa _) _);have Y:=BoxF.new (w.alloc (.cells #[.string x.path,.bool x.exec,.string x.text] 48)) y;have g:=X.c0;have d:=Y.c0;have f:(w.alloc (.cells #[.string x.path,.bool x.exec,.string x.text] 48)).heap.size=w.heap.size+1:=by simp
 rw[f] at d;have K:=aGa (a:=x.path) (b:=y.path) (w:=(w.alloc (.cells #[.string x.path,.bool x.exec,.string x.text] 48)).alloc (.cells #[.string y.path,.bool y.exec,.string y.text] 48));have h:=hid (grow2 w (.cells #[.string x.path,.bool x.exec,.string x.text] 48) (.cells #[.string y.path,.bool y.exec,.string y.text] 48));clear c X Y f;go_enter Tryz.func134,Tryz.ntmps134;go_wp2_with fail;refine K.mono ?_;rintro e i ⟨rfl,rfl⟩;clear K g d;go_wp2;go_ret;exact ⟨rfl,0,_,h.out⟩
theorem swoF:SWO (ltOf cmpF) where
 irrefl x:=by unfold ltOf;rw[ak];unfold cmpF;rw[aHo];exact eR _
 trans x y z h1 h2:=by
  unfold ltOf cmpF at *;rw[ly,aHo] at *;exact kK h1 h2
 ntrans x y z h1 h2:=by
  unfold ltOf cmpF at *;rw[eo,aHo] at *;intro c;have a:y.path.data.toList<=x.path.data.toList:=h1;have b:z.path.data.toList<=y.path.data.toList:=h2;exact (List.le_trans b a) c
def SortedFs (w0:World)(v:Value)(l:List FV)(w:World)(e:Ending) (w':World):Prop:=
 e=.returned (.tuple #[])/\w'.ownsRow w0.heap.size 48 3 v l.length ((sortF l).flatMap FV.cells)/\w.grownBy w' v.ownBlock
theorem bGw {v:Value}(V:w.ownsRow w0.heap.size 48 3 v l.length (l.flatMap FV.cells))(W:l.Pairwise fun x y=>x.path≠y.path)(hl:l.length<=100000) :
  Calls prog 133 #[v,.func (.func 134) #[] #[]] w (SortedFs w0 v l w):=by
 rcases V.2 with ⟨rfl,N⟩ | ⟨g,cap,ff,rfl,O,P,Q,R,C,ht⟩
 ·have:l=[]:=bj.1 N
  subst this;have K:=AnyF.slices_SortFunc_none Tryz.sortF none 0 (.func (.func 134) #[] #[]) w;refine iF (show Calls prog 133 _ w _ from K) ?_;rintro e w' ⟨rfl,rfl⟩;exact ⟨rfl,V,(aAs (Below.refl _ _)).but _⟩
 have E:g<w.heap.size:=aAa P;haveI:Inhabited FV:=⟨zF⟩;have X:HoldsK FV.cells 3 w g 0 l.toArray:=aUz (by decide:0<3) (fun _=>rfl) P (by simpa using ht)
 have o:CmpLays prog 134 #[] FV.cells 3 cmpF g 0 l.toArray.size w:=by
  intro m os dk _ x y;exact bJp
 have Y:∀args w,(callFunc 134 args).run prog w=.ok (.enter 134 args) w:=enters_of Tryz.func134 κ rfl;have K:=AnyQ.slices_SortFunc Tryz.sortF 3 Tryz.isAgg48 Tryz.sizeOf48 FV.cells (fun _=>rfl) (fun x=>by have:=aBu [x];simpa using this) cmpF swoF 134 #[] g 0 cap l.toArray w Y o X E (by simp;omega);simp only[gB] at K;refine iF (show Calls prog 133 _ w _ from K) ?_;rintro e w' ⟨rfl,d',m,os,f,k,rfl⟩;obtain ⟨J,_,u⟩:=f;have c:d'.size=l.length:=J.trans (by simp)
 have q:d'.toList.Perm l:=by
  have Z:d'.extract 0 l.length=d':=by rw[<-c,jm]
  have e2:l.toArray.extract 0 l.length=l.toArray:=by
   simp
  rw[Z,e2] at u;exact u
 have F:d'.toList.Pairwise fun a b=>a.p<b.p:=by
  have r:d'.toList.Pairwise fun x y=>x.path≠y.path:=q.symm.pairwise W (fun h e=>h e.symm);rw[bU] at r ⊢;intro i j T U z;have S:=r i j T U z;have G:i<d'.size:=by simpa using T
  have H:j<d'.size:=by simpa using U
  have D:=k i j (al _) z ω;rw[fR d' i G,fR d' j H] at D;unfold ltOf cmpF at D;rw[eo,aHo] at D;rw[gQ,gQ] at S ⊢;have h3:d'[i].p<=d'[j].p:=D;rcases Classical.em (d'[i].p<d'[j].p) with h | h
  ·exact h
  exact absurd (FV.p_inj.1 (my h3 h)) S
 have s:=aSd l W;have t:d'.toList=sortF l:=aUc F s.1.pair fun x=>by rw[s.2 x,q.mem_iff]
 obtain ⟨A,L,B,M⟩:=aPn (n:=m) (os:=os) (d:=d') (enc:=FV.cells) (by decide:0<3) (fun _=>rfl) P (by rw[c,C];omega);have I:(sortF l).length=l.length:=by rw[<-t,bg,c]
 refine ⟨rfl,⟨by rw[FV.len_flat,I],.inr ⟨g,cap,A,rfl,O,L,Q,R,B.trans C,?_⟩⟩,aHw _ _ _ _ _ _ _ _⟩;rw[<-c,M,t]
end Go.Proofs.YtohblmepajhpaaaGreatDoor
