/- Texts of the walks, together: The search for pairs in memory; walk: similar's take. Rows of numbers that a call hands back. Walks: the markers that plays draw. Walks: graphs: Right, Above, Chain, Under. Sets of small numbers, as bits of a word: laid, put into, asked. Walks: what lives, as a set and as a list. Walks: plan's set of numbers; plan.Moved. -/
import Derived.Laws.Bits64b
import Derived.Laws.ShiftsVarLaws
import Derived.Test.YtohblmepajhpaaaGreatDoorG01
import Derived.Test.YtohblmepajhpaaaGreatDoorG04
import Derived.Test.YtohblmepajhpaaaGreatDoorG06
import Derived.Test.YtohblmepajhpaaaGreatDoorG12
set_option maxHeartbeats 8000000
set_option maxRecDepth 100000
open Go.Lib (hid)
namespace Go.Proofs.YtohblmepajhpaaaGreatDoor
open Go.RowKit
theorem wideQ2:(match Tryz.prog.underlying 234 with | some (.array _ _) | some (.struct _)=>true | _=>false)=true:=by kernel_rfl
theorem KQ2:Maps.Keyed Tryz.prog 234:=Maps.Keyed.of_law (deep_law_laid T.laidOut (m:=2) (by omega) (of_decide_eq_true (by kernel_rfl)) (by kernel_rfl) wideQ2)
theorem aVv:Tryz.prog.keyType 234=true:=by kernel_rfl
theorem cellsQ2:Tryz.prog.cellsOf 234=2:=by kernel_rfl
theorem keyQ2 {x y:Nat}(hx:x<=1000000000)(hy:y<=1000000000):keyOf Tryz.prog 234 (.agg #[.int .i64 (x:Int),.int .i64 (y:Int)])=some (kl2 x y):=
 bAh Tryz.underlying234 rfl rfl rfl rfl rfl rfl cellsQ2 aKb Tryz.underlying3 aVv T.types_pos hx hy
theorem bDn {x y x' y':Nat}(hx:x<=1000000000)(hy:y<=1000000000) (hx':x'<=1000000000) (hy':y'<=1000000000)(h:¬(x=x'/\y=y')):kl2 x y≠kl2 x' y':=fun e=>by
 have h1:=keyQ2 hx hy
 rw[e] at h1
 have:=KQ2.inj h1 (keyQ2 hx' hy')
 simp at this
 exact h ⟨by omega,by omega⟩
structure MpQ (w:World) (b n:Nat) (D:DataW Value) (G:Nat->Nat->Option Nat):Prop where
 own:w.ownsMap Tryz.prog 234 Rv b n D
 at_:∀x y:Nat,x<=1000000000->y<=1000000000->D.atKey (kl2 x y) (.held (.int .i64 0))=.held (.int .i64 (((G x y).getD 0:Nat):Int))
 has:∀x y:Nat,x<=1000000000->y<=1000000000->Maps.has D (kl2 x y)=(G x y).isSome
theorem MpQ.start (w:World):MpQ (w.alloc (.map #[] 0)) w.heap.size 0 (.map []) (fun _ _=>none):=
 ⟨World.ownsMap_made _ _ _ _,fun _x _y _ _=>rfl,fun _x _y _ _=>rfl⟩
theorem MpQ.put {w w':World}{b n:Nat}{D:DataW Value} {G G':Nat->Nat->Option Nat}{p q j:Nat}(h:MpQ w b n D G)(hp:p<=1000000000)(hq:q<=1000000000)
  (hown:w'.ownsMap Tryz.prog 234 Rv b (n+1) (D.put (kl2 p q) (.held (.int .i64 (j:Int))))) (hG:∀x y,G' x y=if x=p/\y=q then some j else G x y) :
  MpQ w' b (n+1) (D.put (kl2 p q) (.held (.int .i64 (j:Int)))) G':=by
 refine ⟨hown,fun x y hx hy=>?_,fun x y hx hy=>?_⟩
 ·by_cases e:x=p/\y=q
  ·obtain ⟨rfl,rfl⟩:=e
   rw[Maps.atKey_put_same h.own.isMap (KQ2.key (keyQ2 hp hq)),hG,if_pos ⟨rfl,rfl⟩];rfl
  rw[Maps.atKey_put_other (bDn hx hy hp hq e),h.at_ x y hx hy,hG,if_neg e]
 by_cases e:x=p/\y=q
 ·obtain ⟨rfl,rfl⟩:=e
  rw[Maps.has_put_same h.own.isMap (KQ2.key (keyQ2 hp hq)),hG,if_pos ⟨rfl,rfl⟩];rfl
 rw[Maps.has_put_other (bDn hx hy hp hq e),h.has x y hx hy,hG,if_neg e]
theorem MpQ.kept {w w':World}{b n:Nat}{D:DataW Value}{G:Nat->Nat->Option Nat}{row:Option Nat}(h:MpQ w b n D G)(hg:w.grownBy w' row)(hne:some b≠row):MpQ w' b n D G:=
 ⟨h.own.kept hg hne,h.at_,h.has⟩
theorem MpQ.below {w w':World}{b n:Nat}{D:DataW Value}{G:Nat->Nat->Option Nat}(h:MpQ w b n D G)(hb:Below w.heap.size w w'):MpQ w' b n D G:=
 h.kept (row:=none) ⟨hb.os,hb.tape,hb.output,hb.size,fun k hk _=>hb.block k hk⟩ (by simp)
def pairC (p:Nat×Nat):List Value:=[.int .i64 (p.1:Int),.int .i64 (p.2:Int)]
def pairsV (l:List (Nat×Nat)):List Value:=l.flatMap pairC
theorem aYs:Elem Tryz.prog 229 234 2 16:=aBq (by kernel_rfl)
theorem bBf (l:List (Nat×Nat)):∀u∈pairsV l,u.oneCell'=true:=by
 intro u hu
 obtain ⟨f,_,hf⟩:=List.mem_flatMap.1 hu
 simp only[pairC,List.mem_cons,List.mem_nil_iff,or_false] at hf
 rcases hf with rfl | rfl<;>rfl
theorem bDu (w:World)(g i j:Nat)(hg:g=w.heap.size):Rd (w.alloc (.cells #[.int .i64 (i:Int),.int .i64 (j:Int)] 234)) (w.alloc (.cells #[.int .i64 (i:Int),.int .i64 (j:Int)] 234)).heap.size 2 (some ⟨g,0,none⟩) 1 1 (pairsV [(i,j)]):=by
 subst hg
 exact ⟨rfl,Nat.le_refl _,fun _=>⟨_,0,rfl,by simp,fun k u hu=>by
  rw[Nat.zero_add,World.cell?,heap_alloc_new]
  simpa[pairsV,pairC] using hu⟩⟩
theorem aYt {pb i x:Nat}{u:World}(h:u.cell? ⟨pb,0,none⟩=some (.int .i64 (i:Int))) :
  Calls Tryz.prog 247 #[.int .i64 (x:Int),.pointer (some ⟨pb,0,none⟩)] u fun e w'=>e=.returned (.bool (decide (x=i)))/\Below u.heap.size u w':=by
 go_enter Tryz.func247,Tryz.ntmps247
 by_cases hx:x=i
 ·subst hx
  go_wp2
  go_ret
  exact ⟨by simp,Below.refl _ _⟩
 have e1:((x:Int) == (i:Int))=false:=beq_eq_false_iff_ne.2 (by omega)
 have HX:=hid (decide_eq_false hx)
 go_wp2
 go_ret
 exact ⟨by rw[HX.out];first | rfl | (simp;omega),Below.refl _ _⟩
theorem bAv {pb i x:Nat}{u:World}(h:u.cell? ⟨pb,1,none⟩=some (.int .i64 (i:Int))) :
  Calls Tryz.prog 248 #[.int .i64 (x:Int),.pointer (some ⟨pb,0,none⟩)] u fun e w'=>e=.returned (.bool (decide (x=i)))/\Below u.heap.size u w':=by
 go_enter Tryz.func248,Tryz.ntmps248
 by_cases hx:x=i
 ·subst hx
  go_wp2
  go_ret
  exact ⟨by simp,Below.refl _ _⟩
 have e1:((x:Int) == (i:Int))=false:=beq_eq_false_iff_ne.2 (by omega)
 have HX:=hid (decide_eq_false hx)
 go_wp2
 go_ret
 exact ⟨by rw[HX.out];first | rfl | (simp;omega),Below.refl _ _⟩
abbrev GT:=(Nat->Nat->Option Nat)×Nat
structure SP (w0 w:World) (sb m:Nat) (bs ss f t o:Value) (is js:List Nat) (ps:List (Nat×Nat)) (G:GT) (Z:Nat->Obj->Prop):Prop where
 hs:w.heap[sb]? = some (.cells #[bs,ss,f,t,.map (some m),o] 231 (0,0))
 f1:w.ownsRow w0.heap.size 3 1 f is.length (natsV is)
 t1:w.ownsRow w0.heap.size 3 1 t js.length (natsV js)
 o1:w.ownsRow w0.heap.size 234 2 o ps.length (pairsV ps)
 nf:f.ownBlock≠some sb
 nt:t.ownBlock≠some sb
 no:o.ownBlock≠some sb
 nft:∀g,f.ownBlock=some g->t.ownBlock≠some g
 nfo:∀g,f.ownBlock=some g->o.ownBlock≠some g
 nto:∀g,t.ownBlock=some g->o.ownBlock≠some g
 mp:∃n D,MpQ w m n D G.1/\n<=G.2
 lo:w0.heap.size<=sb
 bel:Below w0.heap.size w0 w
 oth:∀k ob,Z k ob->w.heap[k]? = some ob/\k≠sb/\f.ownBlock≠some k/\t.ownBlock≠some k/\o.ownBlock≠some k
section
variable {w0 w w':World} {sb m:Nat} {bs ss f t o:Value} {is js:List Nat} {ps:List (Nat×Nat)} {G:GT} {Z:Nat->Obj->Prop}
theorem aAa {w:World}{g:Nat}{ob:Obj}(h:w.heap[g]? = some ob):g<w.heap.size:=by
 rcases Nat.lt_or_ge g w.heap.size with h2 | h2
 ·exact h2
 simp[Array.getElem?_eq_none h2] at h
theorem SP.below (h:SP w0 w sb m bs ss f t o is js ps G Z)(hb:Below w.heap.size w w'):SP w0 w' sb m bs ss f t o is js ps G Z:=by
 obtain ⟨n,D,h1,hnn⟩:=h.mp
 exact ⟨(hb.block sb (aAa h.hs)).trans h.hs,aAg h.f1 hb,aAg h.t1 hb,aAg h.o1 hb,h.nf,h.nt,h.no,h.nft,h.nfo,h.nto,⟨n,D,h1.below hb,hnn⟩,h.lo,h.bel.trans (hb.mono h.bel.size),fun k ob hz=>⟨(hb.block k (aAa (h.oth k ob hz).1)).trans (h.oth k ob hz).1,(h.oth k ob hz).2⟩⟩
theorem SP.mne (h:SP w0 w sb m bs ss f t o is js ps G Z){g:Nat}{cs:Array Value}{T:TypeId}{fr:Nat×Nat}(hg:w.heap[g]? = some (.cells cs T fr)):m≠g:=fun e=>by
 obtain ⟨n,D,h1,hnn⟩:=h.mp
 obtain ⟨es,ck,h2,_⟩:=h1.own
 rw[e,hg] at h2;cases h2
theorem aMb {w:World}{B:Nat}{e:TypeId}{k n:Nat}{v:Value}{xs:List Value}(h:w.ownsRow B e k v n xs){g:Nat}(hg:v.ownBlock=some g):∃cs,w.heap[g]? = some (.cells cs e (0,0)):=aPp h hg
structure SPo (w0 w:World) (sb m:Nat) (bs ss f t o o':Value) (is js:List Nat) (ps:List (Nat×Nat)) (G:GT) (Z:Nat->Obj->Prop):Prop where
 hs:w.heap[sb]? = some (.cells #[bs,ss,f,t,.map (some m),o] 231 (0,0))
 f1:w.ownsRow w0.heap.size 3 1 f is.length (natsV is)
 t1:w.ownsRow w0.heap.size 3 1 t js.length (natsV js)
 o1:w.ownsRow w0.heap.size 234 2 o' ps.length (pairsV ps)
 nf:f.ownBlock≠some sb
 nt:t.ownBlock≠some sb
 no:o'.ownBlock≠some sb
 nft:∀g,f.ownBlock=some g->t.ownBlock≠some g
 nfo:∀g,f.ownBlock=some g->o'.ownBlock≠some g
 nto:∀g,t.ownBlock=some g->o'.ownBlock≠some g
 mp:∃n D,MpQ w m n D G.1/\n<=G.2
 lo:w0.heap.size<=sb
 bel:Below w0.heap.size w0 w
 oth:∀k ob,Z k ob->w.heap[k]? = some ob/\k≠sb/\f.ownBlock≠some k/\t.ownBlock≠some k/\o'.ownBlock≠some k
theorem SP.push (h:SP w0 w sb m bs ss f t o is js ps G Z) {o':Value}{q:Nat×Nat}(hg:w.grownBy w' o.ownBlock)(ho:w'.ownsRow w0.heap.size 234 2 o' (ps.length+1) (pairsV ps++pairsV [q]))(hv:o'.ownBlock=o.ownBlock\/o'.ownBlock=some w.heap.size) :
  SPo w0 w' sb m bs ss f t o o' is js (ps++[q]) G Z:=by
 obtain ⟨n,D,h1,hnn⟩:=h.mp
 have new:∀g,g<w.heap.size->o.ownBlock≠some g->o'.ownBlock≠some g:=fun g hlt hne e=>by
  rcases hv with hv | hv
  ·exact hne (hv▸e)
  rw[hv] at e;injection e with e;omega
 have keepB:∀{v:Value} {T:TypeId} {k nn:Nat} {xs:List Value},w.ownsRow w0.heap.size T k v nn xs->(∀g,v.ownBlock=some g->o.ownBlock≠some g)->w'.ownsRow w0.heap.size T k v nn xs:=fun {v} {T} {k} {nn} {xs} hr hn=>by
  refine hr.kept hg ?_
  cases e:v.ownBlock with
  | none=>exact .inl rfl
  | some g=>exact .inr (fun e2=>hn g e e2.symm)
 refine ⟨(hg.block sb (aAa h.hs) (fun e=>h.no e.symm)).trans h.hs,keepB h.f1 h.nfo,keepB h.t1 h.nto,?_,h.nf,h.nt,new sb (aAa h.hs) h.no,h.nft,fun g hg=>new g (h.f1.lt g hg).2 (h.nfo g hg),fun g hg=>new g (h.t1.lt g hg).2 (h.nto g hg),⟨n,D,h1.kept hg (fun e=>by
  obtain ⟨cs,hc⟩:=aMb h.o1 e.symm
  exact h.mne hc rfl),hnn⟩,h.lo,h.bel.grown hg h.bel.size (fun g hg=>(h.o1.lt g hg).1),fun k ob hz=>⟨(hg.block k (aAa (h.oth k ob hz).1) (fun e=>(h.oth k ob hz).2.2.2.2 e.symm)).trans (h.oth k ob hz).1,(h.oth k ob hz).2.1,(h.oth k ob hz).2.2.1,(h.oth k ob hz).2.2.2.1,new k (aAa (h.oth k ob hz).1) (h.oth k ob hz).2.2.2.2⟩⟩
 rw[List.length_append]
 unfold pairsV at *
 rw[List.flatMap_append]
 exact ho
theorem SPo.set {o':Value}(h:SPo w0 w sb m bs ss f t o o' is js ps G Z):SP w0 (w.setCell ⟨sb,5,none⟩ o') sb m bs ss f t o' is js ps G Z:=by
 obtain ⟨n,D,h1,hnn⟩:=h.mp
 have hmne:m≠sb:=fun e=>by
  obtain ⟨es,ck,h2,_⟩:=h1.own
  rw[e,h.hs] at h2;cases h2
 refine ⟨?_,ownsRow_setCell_other h.f1 h.nf _,ownsRow_setCell_other h.t1 h.nt _,ownsRow_setCell_other h.o1 h.no _,h.nf,h.nt,h.no,h.nft,h.nfo,h.nto,⟨n,D,h1.kept (aAr w sb 5 o') (by simpa using hmne),hnn⟩,h.lo,h.bel.setCell h.lo _,fun k ob hz=>⟨(Below.heap_setCell w ⟨sb,5,none⟩ _ k (h.oth k ob hz).2.1).trans (h.oth k ob hz).1,(h.oth k ob hz).2⟩⟩
 have:=heap_setCell_same w sb 5 _ _ o' h.hs
 simpa using this
theorem SP.inF (h:SP w0 w sb m bs ss f t o is js ps G Z){r:Nat}(hr:f.ownBlock=some r)(hg:w.grownBy w' (some r)) {f':Value} {is':List Nat}(hf:w'.ownsRow w0.heap.size 3 1 f' is'.length (natsV is'))(hb:∀g,f'.ownBlock=some g->f.ownBlock=some g) :
  SP w0 (w'.setCell ⟨sb,2,none⟩ f') sb m bs ss f' t o is' js ps G Z:=by
 obtain ⟨n,D,h1,hnn⟩:=h.mp
 have hsb:r≠sb:=fun e=>h.nf (by rw[hr,e])
 have hs':=(hg.block sb (aAa h.hs) (fun e=>by injection e with e;exact hsb e.symm)).trans h.hs
 have hmr:m≠r:=by obtain ⟨cs,hc⟩:=aMb h.f1 hr;exact h.mne hc
 have h1':=h1.kept hg (by simpa using hmr)
 have hmne:m≠sb:=fun e=>by
  obtain ⟨es,ck,h2,_⟩:=h1'.own
  rw[e,hs'] at h2;cases h2
 have ht':w'.ownsRow w0.heap.size 3 1 t js.length (natsV js):=h.t1.kept hg (.inr (h.nft r hr))
 have ho':w'.ownsRow w0.heap.size 234 2 o ps.length (pairsV ps):=h.o1.kept hg (.inr (h.nfo r hr))
 have hnf:f'.ownBlock≠some sb:=fun e=>h.nf (hb sb e)
 refine ⟨?_,ownsRow_setCell_other hf hnf _,ownsRow_setCell_other ht' h.nt _,ownsRow_setCell_other ho' h.no _,hnf,h.nt,h.no,fun g hg=>h.nft g (hb g hg),fun g hg=>h.nfo g (hb g hg),h.nto,⟨n,D,h1'.kept (aAr w' sb 2 f') (by simpa using hmne),hnn⟩,h.lo,(h.bel.grown hg h.bel.size (fun g hg=>by injection hg with hg;subst hg;exact (h.f1.lt _ hr).1)).setCell h.lo _,fun k ob hz=>⟨(Below.heap_setCell w' ⟨sb,2,none⟩ _ k (h.oth k ob hz).2.1).trans ((hg.block k (aAa (h.oth k ob hz).1) (fun e=>(h.oth k ob hz).2.2.1 (by rw[hr];exact e.symm))).trans (h.oth k ob hz).1),(h.oth k ob hz).2.1,fun e=>(h.oth k ob hz).2.2.1 (hb k e),(h.oth k ob hz).2.2.2⟩⟩
 have:=heap_setCell_same w' sb 2 _ _ f' hs'
 simpa using this
theorem SP.inT (h:SP w0 w sb m bs ss f t o is js ps G Z){r:Nat}(hr:t.ownBlock=some r)(hg:w.grownBy w' (some r)) {t':Value} {js':List Nat}(ht:w'.ownsRow w0.heap.size 3 1 t' js'.length (natsV js'))(hb:∀g,t'.ownBlock=some g->t.ownBlock=some g) :
  SP w0 (w'.setCell ⟨sb,3,none⟩ t') sb m bs ss f t' o is js' ps G Z:=by
 obtain ⟨n,D,h1,hnn⟩:=h.mp
 have hsb:r≠sb:=fun e=>h.nt (by rw[hr,e])
 have hs':=(hg.block sb (aAa h.hs) (fun e=>by injection e with e;exact hsb e.symm)).trans h.hs
 have hmr:m≠r:=by obtain ⟨cs,hc⟩:=aMb h.t1 hr;exact h.mne hc
 have h1':=h1.kept hg (by simpa using hmr)
 have hmne:m≠sb:=fun e=>by
  obtain ⟨es,ck,h2,_⟩:=h1'.own
  rw[e,hs'] at h2;cases h2
 have hf':w'.ownsRow w0.heap.size 3 1 f is.length (natsV is):=h.f1.kept hg (by
  cases e:f.ownBlock with
  | none=>exact .inl rfl
  | some g=>exact .inr (fun e2=>h.nft g e (by rw[hr,<-e2])))
 have ho':w'.ownsRow w0.heap.size 234 2 o ps.length (pairsV ps):=h.o1.kept hg (.inr (h.nto r hr))
 have hnt:t'.ownBlock≠some sb:=fun e=>h.nt (hb sb e)
 refine ⟨?_,ownsRow_setCell_other hf' h.nf _,ownsRow_setCell_other ht hnt _,ownsRow_setCell_other ho' h.no _,h.nf,hnt,h.no,fun g hg e=>h.nft g hg (hb g e),h.nfo,fun g hg=>h.nto g (hb g hg),⟨n,D,h1'.kept (aAr w' sb 3 t') (by simpa using hmne),hnn⟩,h.lo,(h.bel.grown hg h.bel.size (fun g hg=>by injection hg with hg;subst hg;exact (h.t1.lt _ hr).1)).setCell h.lo _,fun k ob hz=>⟨(Below.heap_setCell w' ⟨sb,3,none⟩ _ k (h.oth k ob hz).2.1).trans ((hg.block k (aAa (h.oth k ob hz).1) (fun e=>(h.oth k ob hz).2.2.2.1 (by rw[hr];exact e.symm))).trans (h.oth k ob hz).1),(h.oth k ob hz).2.1,(h.oth k ob hz).2.2.1,fun e=>(h.oth k ob hz).2.2.2.1 (hb k e),(h.oth k ob hz).2.2.2.2⟩⟩
 have:=heap_setCell_same w' sb 3 _ _ t' hs'
 simpa using this
end
theorem E28:Elem Tryz.prog 36 3 1 8:=aBq (by kernel_rfl)
theorem aHc (l:List Int):∀u∈l.map (Value.int .i64),u.oneCell'=true:=by
 intro u hu
 obtain ⟨s,_,rfl⟩:=List.mem_map.1 hu
 rfl
theorem aSx (w:World)(x:Int):Rd (w.alloc (.cells #[.int .i64 x] 3)) (w.alloc (.cells #[.int .i64 x] 3)).heap.size 1 (some ⟨w.heap.size,0,none⟩) 1 1 ([x].map (.int .i64)):=
 ⟨rfl,Nat.le_refl _,fun _=>⟨_,_,rfl,by simp,fun j u hu=>by
  rw[Nat.zero_add,cell_of_row _ _ _ _ _ _ (heap_alloc_new _ _)]
  cases j with
  | zero=>simpa using hu
  | succ j=>simp at hu⟩⟩
def Ints (Q:List Int->Prop)(w:World)(e:Ending) (w':World):Prop:=
 ∃(A:Option Addr) (c:Nat) (l:List Int),e=.returned (.slice A l.length c)/\Rd w' w'.heap.size 1 A l.length c (l.map (.int .i64))/\Below w.heap.size w w'/\Q l
def IntsF (A0:Option Addr)(n0:Nat)(Q:List Int->Prop)(w:World)(e:Ending) (w':World):Prop:=
 ∃(A:Option Addr) (c:Nat) (l:List Int),e=.returned (.slice A l.length c)/\Rd w' w'.heap.size 1 A l.length c (l.map (.int .i64))/\Below w.heap.size w w'/\Q l/\∀a,A=some a->(A=A0/\0<n0)\/w.heap.size<=a.block
theorem aUv {w:World}{base:Nat}{e:TypeId}{sz n m c:Nat}{A:Option Addr}{xs:List Value}(h:w.ownsRow base e sz (.slice A m c) n xs):∀a,A=some a->base<=a.block:=by
 rintro a rfl
 rcases h.2 with ⟨h',_⟩ | ⟨g,cap,cur,h',hb,_⟩
 ·simp at h'
 simp only[Value.slice.injEq,Option.some.injEq] at h'
 rw[h'.1];exact hb
theorem aAy {w w':World}{B:Nat}(h:Below B w w')(hB:w.heap.size<=B):w.grownBy w' none:=⟨h.os,h.tape,h.output,h.size,fun k hk _=>h.block k (by omega)⟩
def Apart (sv:Value)(l:List Int)(w:World)(v:Value):Prop:=
 ∃(A:Option Addr) (c:Nat),v=.slice A l.length c/\Rd w w.heap.size 1 A l.length c (l.map (.int .i64))/\(0<l.length->∀a,A=some a->some a.block≠sv.ownBlock)
structure RefSt (w wr:World) (ms:List MV) (i:Int) (ov tv sv:Value) (seen todo out:List Int):Prop where
 below:Below w.heap.size w wr
 inv:RefInv ms i seen todo out
 ho:Apart sv out wr ov
 ht:Apart sv todo wr tv
 row:wr.ownsRow w.heap.size 3 1 sv seen.length (seen.map (.int .i64))
 tl:todo.length<=480*(seen.length+1)
theorem aMt {W:World} {base base':Nat}{e:TypeId}{size:Nat}{v:Value}{k:Nat}{xs:List Value}(h:W.ownsRow base e size v k xs)(hb:base'<=base):W.ownsRow base' e size v k xs:=by
 refine ⟨h.1,?_⟩
 rcases h.2 with h1 | ⟨g,cap,cur,e1,hg,r⟩
 ·exact .inl h1
 exact .inr ⟨g,cap,cur,e1,Nat.le_trans hb hg,r⟩
theorem aNq {w:World}{g sz n:Nat}{cs:Array Value}{t:TypeId}{fr:Nat×Nat}{xs:List Value}(hg:w.heap[g]? = some (.cells cs t fr))(hcs:cs.toList=xs)(hn:xs.length=n*sz) :
  Rd w w.heap.size sz (some ⟨g,0,none⟩) n n xs:=
 ⟨hn,Nat.le_refl _,fun _=>⟨g,0,rfl,(Array.getElem?_eq_some_iff.1 hg).1,fun j u hu=>by
  rw[Nat.zero_add,cell_of_row _ _ _ _ _ _ hg,<-Array.getElem?_toList,hcs];exact hu⟩⟩
theorem E22:Elem Tryz.prog 23 43 2 32:=aBq (by kernel_rfl)
theorem aXy {N:Nat}(hN:N<=1000):IntKind.u64.wrap (N:Int)=N:=by rw[IntKind.wrap_u64];omega
def playM (N:Nat)(m:MV):Prop:=0<=m.old/\m.old<N/\m.new.length<=4/\∀x∈m.new,m.old<x/\x<N
structure PlayIs (N:Nat) (ms:List MV):Prop where
 len:ms.length<=40
 all:∀m∈ms,playM N m
theorem bEz (w:World)(m:MV):Rd (w.alloc (.cells #[.int .i64 m.old,.slice m.A m.new.length m.c] 43)) (w.alloc (.cells #[.int .i64 m.old,.slice m.A m.new.length m.c] 43)).heap.size 2 (some ⟨w.heap.size,0,none⟩) 1 1 m.cells:=
 aNq (heap_alloc_new _ _) rfl rfl
structure Drawn (w wr:World) (N:Nat) (ov:Value) (ms:List MV):Prop where
 below:Below w.heap.size w wr
 row:wr.ownsRow w.heap.size 43 2 ov ms.length (ms.flatMap MV.cells)
 play:PlayIs N ms
 part:∀m∈ms,Apart ov m.new wr (.slice m.A m.new.length m.c)
section
variable {A:Option Addr} {c:Nat} {l:List Int} {w:World}
theorem aFo (hn:l.length<=1000000)(h:Rd w w.heap.size 1 A l.length c (l.map (.int .i64))) :
  Calls Tryz.prog 72 #[.slice A l.length c] w (BoolBelow (rightP l) w):=by
 generalize hL:l.length=n at *
 have HL:=hid hL;clear hL
 go_enter Tryz.func72,Tryz.ntmps72
 go_wp2
 go_loopw[7] (fun i wr=>∃k:Nat,k<=n/\i=.int .i64 k/\Below w.heap.size w wr/\Hid (∀(j:Nat) (p:Int),j<k->l[j]? = some p->-1<=p/\p<j)) (fun i _=>n-(intOf i).toNat)
 case atStart=>exact ⟨0,Nat.zero_le _,rfl,Below.refl _ _,fun j p hj=>absurd hj (Nat.not_lt_zero _)⟩
 obtain ⟨k,hk,rfl,hb,hj⟩:=hrel
 by_cases hlt:k<n
 ·obtain ⟨b0,o0,u,rfl,hbb,hx,h0⟩:=h.int_ hlt
  replace h0:=(hb.cell (p:=⟨b0,o0+k,none⟩) hbb).trans h0
  have HX:=hid hx;clear hx
  by_cases c1:u < -1
  ·go_wp2
   go_ret
   exact ⟨aAh (aOu HX.out (.inl c1)).symm,hb⟩
  by_cases c2:(k:Int)<=u
  ·go_wp2
   go_ret
   exact ⟨aAh (aOu HX.out (.inr c2)).symm,hb⟩
  go_wp2
  go_roundw
  case rel=>
   refine ⟨k+1,by omega,by go_num,hb,fun j p hj' hp=>?_⟩
   by_cases e:j=k
   ·subst e;rw[HX.out] at hp;cases hp;omega
   exact hj.out j p (by omega) hp
  simp[intOf];omega
 go_wp2
 go_ret
 refine ⟨aAh (aVm fun j p hp=>hj.out j p ?_ hp).symm,hb⟩
 have:=(List.getElem?_eq_some_iff.1 hp).1
 rw[HL.out] at this;omega
def isG (l:List Int)(i:Int):Bool:=decide (0<=i) && decide (i<l.length) && rightP l
theorem aYr {i:Int}(hn:l.length<=1000000)(h:Rd w w.heap.size 1 A l.length c (l.map (.int .i64))) :
  Calls Tryz.prog 109 #[.slice A l.length c,.int .i64 i] w (BoolBelow (isG l i) w):=by
 have C:=aFo hn h
 by_cases c1:0<=i
 ·by_cases c2:i<(l.length:Int)
  ·have e:isG l i=rightP l:=by unfold isG;simp[c1,c2]
   rw[e]
   generalize rightP l=b at *
   clear e
   go_enter Tryz.func109,Tryz.ntmps109
   go_wp2_with (go_at_call 72;refine C.mono ?_;rintro e w1 ⟨rfl,hb1⟩)
   go_ret
   exact ⟨rfl,hb1⟩
  have e:isG l i=false:=by unfold isG;simp[c2]
  go_enter Tryz.func109,Tryz.ntmps109
  go_wp2
  go_ret
  exact ⟨by first | rfl | exact aAh e.symm,Below.refl _ _⟩
 have e:isG l i=false:=by unfold isG;simp[c1]
 go_enter Tryz.func109,Tryz.ntmps109
 go_wp2
 go_ret
 exact ⟨by first | rfl | exact aAh e.symm,Below.refl _ _⟩
theorem aNd {l:List Int}{i:Int}:isG l i=true↔0<=i/\i<l.length/\rightP l=true:=by
 unfold isG;simp[and_assoc]
theorem aWi {a b:Int}(hn:l.length<=1000000)(h:Rd w w.heap.size 1 A l.length c (l.map (.int .i64))) :
  Calls Tryz.prog 79 #[.slice A l.length c,.int .i64 a,.int .i64 b] w (BoolBelow (above l a b) w):=by
 have C1:=aYr (i:=a) hn h
 cases ha:isG l a with
 | false=>
  rw[ha] at C1
  have e:above l a b=false:=aOw fun hh=>by rw[aNd.2 ⟨hh.2.1,hh.2.2.1,hh.1⟩] at ha;cases ha
  go_enter Tryz.func79,Tryz.ntmps79
  go_wp2_with fail
  refine C1.mono ?_
  rintro e w1 ⟨rfl,hb1⟩
  go_wp2
  go_ret
  exact ⟨aAh (by assumption:above l a b=false).symm,hb1⟩
 | true=>
  rw[ha] at C1
  cases hb:isG l b with
  | false=>
   have e:above l a b=false:=aOw fun hh=>by rw[aNd.2 ⟨hh.2.2.2.1,hh.2.2.2.2,hh.1⟩] at hb;cases hb
   go_enter Tryz.func79,Tryz.ntmps79
   go_wp2_with fail
   refine C1.mono ?_
   rintro e w1 ⟨rfl,hb1⟩
   have C2:=aYr (i:=b) hn (h.to hb1 hb1.size)
   rw[hb] at C2
   go_wp2_with fail
   refine C2.mono ?_
   rintro e w2 ⟨rfl,hb2⟩
   go_wp2
   go_ret
   exact ⟨aAh (by assumption:above l a b=false).symm,hb1.trans (hb2.mono hb1.size)⟩
  | true=>
   obtain ⟨ha0,ha1,hr⟩:=aNd.1 ha
   obtain ⟨hb0,hb1',_⟩:=aNd.1 hb
   have HR:=hid hr
   go_enter Tryz.func79,Tryz.ntmps79
   go_wp2_with fail
   refine C1.mono ?_
   rintro e w1 ⟨rfl,hb1⟩
   have C2:=aYr (i:=b) hn (h.to hb1 hb1.size)
   rw[hb] at C2
   go_wp2_with fail
   refine C2.mono ?_
   rintro e w2 ⟨rfl,hb2⟩
   have hbw:=hb1.trans (hb2.mono hb1.size)
   clear C1 C2 hb2 hb1 ha hb
   generalize hL:l.length=n at *
   have HL:=hid hL;clear hL
   go_wp2
   go_loopw[2] (fun bv wr=>∃b':Int,bv=.int .i64 b'/\-1<=b'/\b'<n/\Below w.heap.size w wr/\Hid (above l a b=above l a b')) (fun bv _=>(intOf bv+1).toNat)
   case atStart=>exact ⟨b,rfl,by omega,hb1',hbw,rfl⟩
   obtain ⟨b',rfl,hm,hlt,hb,hj⟩:=hrel
   by_cases hgt:a<b'
   ·obtain ⟨b0,o0,u,rfl,hbb,hx,h0⟩:=h.int_ (k:=b'.toNat) (by omega)
    replace h0:=(hb.cell (p:=⟨b0,o0+b'.toNat,none⟩) hbb).trans h0
    have hup:=bCe HR.out ha0 hgt (by rw[HL.out];exact hlt)
    have hpar:=aHq hx
    rw[Int.toNat_of_nonneg (by omega)] at hpar
    have hp:=aCb HR.out (i:=b') (by omega) (by rw[HL.out];exact hlt)
    rw[hpar] at hp hup
    have HU:=hid hup
    clear hx hpar hup
    go_wp2
    go_roundw
    case rel=>exact ⟨u,rfl,by omega,by omega,hb,hj.out.trans HU.out⟩
    simp[intOf];omega
   have he:=bAp HR.out ha0 (by omega:b'<=a) (by rw[HL.out];exact hlt)
   have e:above l a b=decide (a=b'):=hj.out.trans he
   have HE:=hid e
   clear he e
   cases hd:decide (a=b')
   ·have hne:¬a=b':=of_decide_eq_false hd
    have HN:=hid hd
    clear hd
    go_wp2
    go_ret
    exact ⟨aAh (by rw[HE.out,HN.out];exact (aUh hne).1),hb⟩
   have hee:a=b':=of_decide_eq_true hd
   clear hd
   subst hee
   go_wp2
   go_ret
   exact ⟨aAh (by rw[HE.out];simp),hb⟩
def underTo (l:List Int)(s:Int)(k:Nat):List Int:=((List.range k).map Int.ofNat).filter fun i=>above l s i
end
def SetW (w:World)(base:Nat)(v:Value)(n W:Nat):Prop:=
 W<18446744073709551616/\w.ownsRow base 166 1 v (if n=0 then 0 else 1) (if n=0 then [] else [.int .u64 (W:Int)])
theorem bEs {a b:Nat}(ha:a<18446744073709551616)(hb:b<18446744073709551616):a ||| b<18446744073709551616:=Nat.or_lt_two_pow (n:=64) ha hb
theorem bBa {i:Nat}(hi:i<64):2 ^ i<18446744073709551616:=Nat.pow_lt_pow_right (a:=2) (m:=i) (n:=64) (by omega) hi
theorem SetW.kept {w w':World}{base n W:Nat}{v:Value}{row:Option Nat}(h:SetW w base v n W)(hg:w.grownBy w' row)(hne:v.ownBlock=none\/v.ownBlock≠row):SetW w' base v n W:=⟨h.1,h.2.kept hg hne⟩
theorem SetW.below {w w':World}{base n W:Nat}{v:Value}(h:SetW w base v n W)(hb:Below w.heap.size w w'):SetW w' base v n W:=
 h.kept (aAy hb (Nat.le_refl _)) (by cases v.ownBlock<;>simp)
theorem quo64 {i:Nat}(hi:i<64):((i:Int)).tdiv 64=0:=by
 rw[Int.tdiv_eq_ediv_of_nonneg (by omega)];omega
theorem bEu {n:Nat}(hn:n<=64):((n:Int)+64-1).tdiv 64=((if n=0 then 0 else 1:Nat):Int):=by
 rw[Int.tdiv_eq_ediv_of_nonneg (by omega)]
 split<;>omega
theorem aTp {i:Nat}(hi:i<64):IntKind.u64.wrap (i:Int)=i:=by rw[IntKind.wrap_u64];omega
theorem rem64 {i:Nat}(hi:i<64):((i:Int)).tmod 64=i:=by rw[Int.tmod_eq_emod_of_nonneg (by omega)];omega
theorem aLb {W i:Nat}(hW:W<18446744073709551616)(hi:i<64):bits .or .u64 (W:Int) (IntKind.u64.wrap (2 ^ i))=((W ||| 2 ^ i:Nat):Int):=by
 have hp:=bBa hi
 have e:IntKind.u64.wrap ((2:Int) ^ i)=((2 ^ i:Nat):Int):=by
  have e2:((2:Int) ^ i)=((2 ^ i:Nat):Int):=by rw[Int.natCast_pow];rfl
  rw[e2,IntKind.wrap_u64]
  generalize 2 ^ i=q at hp ⊢
  omega
 rw[e,bits_or_u64_nat _ _ hW hp]
theorem aIv {W i:Nat}(hW:W<18446744073709551616):(bits .and .u64 ((W:Int) / 2 ^ i) 1 == 1)=W.testBit i:=by
 have e:(W:Int) / 2 ^ i=((W / 2 ^ i:Nat):Int):=by
  rw[Int.natCast_ediv,Int.natCast_pow];rfl
 have hlt:W / 2 ^ i<18446744073709551616:=Nat.lt_of_le_of_lt (Nat.div_le_self _ _) hW
 rw[e,show (1:Int)=((1:Nat):Int) from rfl,bits_and_u64_nat _ _ hlt (by decide),Nat.testBit_eq_decide_div_mod_eq,Nat.and_one_is_mod]
 generalize W / 2 ^ i % 2=m
 by_cases h:m=1
 ·subst h;rfl
 rw[decide_eq_false h]
 have:¬(m:Int)=1:=by omega
 exact (aUh this).1
theorem aOa {P:Program}{w:World}{a:Act}{ops:Array Oper}{rest:List Oper}{o:Oper}{Q:Exit->Act->World->Prop}(hgd:o.guard=none)(l c:Operand)(t:TypeId)
  (ho:o.op=.makeSlice t l c) {e:TypeId} {bytes:Nat} {z:Value} (E:Elem P t e 1 bytes) (hz:∀i,P.info? e=some i->i.zero=some z) (h1:z.cells=#[z]) (base n:Nat)
  {L:Int} (hl:a.eval l=.int .i64 L) (hc:a.eval c=.int .i64 L) (hC:L=(n:Int)) (hb:bytes*n<=281474976710656) (h63:n<=maxLen) (hbase:base<=w.heap.size)
  (hK:∀w',w'.ownsRow base e 1 (.slice (some ⟨w.heap.size,0,none⟩) n n) n (List.replicate n z)->w.grownBy w' none->wpList P ops Q rest (a.put o.dst (.slice (some ⟨w.heap.size,0,none⟩) n n)) w') :
  wpList P ops Q (o::rest) a w:=by
 obtain ⟨i,z',hi,hz',hsz,hby,hzs⟩:=E.row
 have hzz:=hz i hi
 refine wpList_make_full w hgd l c t ho base e i z 1 E.und hi hzz hsz .i64 .i64 L L n hl hc hC hC (by rw[hby];exact hb) h63 hbase ?_
 intro w' ho' hg'
 rw[Nat.mul_one,h1,toList_madeCells_one] at ho'
 exact hK w' ho' hg'
theorem E77:Elem Tryz.prog 167 166 1 8:=aBq (by kernel_rfl)
theorem E66:Elem Tryz.prog 147 166 1 8:=aBq (by kernel_rfl)
theorem E70:Elem Tryz.prog 128 4 1 1:=aBq (by kernel_rfl)
theorem aKf {P:Program}{e:TypeId}{z:Value}{w:World}(h:(zeroValue e).run P w=.ok z w):∀i,P.info? e=some i->i.zero=some z:=by
 intro i hi
 cases hz:i.zero with
 | none=>simp[zeroValue,typeInfo,hi,hz,unsupported] at h
 | some v=>
  have:(zeroValue e).run P w=.ok v w:=by simp[zeroValue,typeInfo,hi,hz]
  rw[this] at h
  injection h with h
  rw[h]
theorem zero76:∀i,Tryz.prog.info? 166=some i->i.zero=some (.int .u64 0):=aKf (Tryz.zeroValue166 default)
theorem zero4:∀i,Tryz.prog.info? 4=some i->i.zero=some (.bool false):=aKf (Tryz.zeroValue4 default)
theorem aMz {n:Nat}{w:World}(hn:n<=64):Calls Tryz.prog 141 #[.int .i64 n] w fun e w'=>∃v,e=.returned v/\SetW w' w.heap.size v n 0/\Below w.heap.size w w':=by
 have hq:=bEu hn
 generalize hk:(if n=0 then 0 else 1:Nat)=k at *
 have hk1:k<=1:=by rw[<-hk];split<;>omega
 go_enter Tryz.func141,Tryz.ntmps141
 go_wp2_with (refine aOa rfl (.tmp 6) (.tmp 6) 167 rfl E77 zero76 rfl w.heap.size k (L:=(k:Int)) rfl rfl rfl (by omega) (by unfold maxLen;omega) (Nat.le_refl _) ?_;intro w1 ho1 hg1)
 go_ret
 refine ⟨_,rfl,⟨by decide,?_⟩,aKs hg1⟩
 rw[hk]
 by_cases h0:n=0
 ·rw[if_pos h0] at hk ⊢;subst hk;exact ho1
 rw[if_neg h0] at hk ⊢;subst hk;exact ho1
theorem aTo {n i W base:Nat}{v:Value}{w:World}(hn:n<=64)(hi:i<n)(h:SetW w base v n W) :
  Calls Tryz.prog 142 #[v,.int .i64 i] w fun e w'=>e=.returned (.tuple #[])/\SetW w' base v n (W ||| 2 ^ i)/\w.grownBy w' v.ownBlock:=by
 obtain ⟨hW,ho⟩:=h
 rw[if_neg (by omega),if_neg (by omega)] at ho
 obtain ⟨g,cap,rfl,hgb,hgl⟩:=ho.form (by omega)
 have c0:w.cell? ⟨g,0,none⟩=some (.int .u64 (W:Int)):=ho.cellAt 0 (by omega)
 have fr:=ho.frozenAt 0
 have q1:=quo64 (i:=i) (by omega)
 have q2:=aTp (i:=i) (by omega)
 have q3:=rem64 (i:=i) (by omega)
 have hs:=(ho.stored 0 (.int .u64 ((W ||| 2 ^ i:Nat):Int)))
 go_enter Tryz.func142,Tryz.ntmps142
 go_wp2
 rw[aLb hW (by omega)]
 go_end0
 refine ⟨rfl,⟨bEs hW (bBa (by omega)),?_⟩,⟨rfl,rfl,rfl,by simp,fun k _ hk=>heap_setCell_other _ _ k _ (fun e=>hk (by rw[e];rfl))⟩⟩
 rw[if_neg (by omega),if_neg (by omega)]
 exact hs.1
theorem aQy {n i W base:Nat}{v:Value}{w:World}(hn:n<=64)(hi:i<n)(h:SetW w base v n W) :
  Calls Tryz.prog 143 #[v,.int .i64 i] w (BoolBelow (W.testBit i) w):=by
 obtain ⟨hW,ho⟩:=h
 rw[if_neg (by omega),if_neg (by omega)] at ho
 obtain ⟨g,cap,rfl,hgb,hgl⟩:=ho.form (by omega)
 have c0:w.cell? ⟨g,0,none⟩=some (.int .u64 (W:Int)):=ho.cellAt 0 (by omega)
 have q1:=quo64 (i:=i) (by omega)
 have q2:=aTp (i:=i) (by omega)
 have q3:=rem64 (i:=i) (by omega)
 go_enter Tryz.func143,Tryz.ntmps143
 go_wp2
 rw[aIv hW]
 go_ret
 exact ⟨rfl,Below.refl _ _⟩
theorem aZr {n i W base:Nat}{v:Value}{w:World}(hn:n<=64)(hi:i<n)(h:SetW w base v n W) :
  Calls Tryz.prog 98 #[v,.int .i64 i] w (BoolBelow (W.testBit i) w):=by
 obtain ⟨hW,ho⟩:=h
 rw[if_neg (by omega),if_neg (by omega)] at ho
 obtain ⟨g,cap,rfl,hgb,hgl⟩:=ho.form (by omega)
 have c0:w.cell? ⟨g,0,none⟩=some (.int .u64 (W:Int)):=ho.cellAt 0 (by omega)
 have q1:=quo64 (i:=i) (by omega)
 have q2:=aTp (i:=i) (by omega)
 have q3:=rem64 (i:=i) (by omega)
 go_enter Tryz.func98,Tryz.ntmps98
 go_wp2
 rw[aIv hW]
 go_ret
 exact ⟨rfl,Below.refl _ _⟩
theorem aRz {W i j:Nat}:(W ||| 2 ^ i).testBit j=(W.testBit j || decide (i=j)):=by
 rw[Nat.testBit_or,Nat.testBit_two_pow]
theorem SetW.ne {w:World} {base base' n n' W W':Nat} {v v':Value}(_h:SetW w base v n W) (h':SetW w base' v' n' W')(hb:∀k,v.ownBlock=some k->k<base'):v.ownBlock=none\/v.ownBlock≠v'.ownBlock:=by
 cases hv:v.ownBlock with
 | none=>exact .inl rfl
 | some k=>
  right
  intro e
  have:=(h'.2.lt k e.symm).1
  have:=hb k hv
  omega
theorem bCx {A:Option Addr}{m c n:Nat}{ms:List MV}{w:World}(hm:m<=maxLen)(h:RdM w w.heap.size A m c ms)(hn:n<=64) :
  Calls Tryz.prog 119 #[.int .i64 n,.slice A m c] w fun e w'=>∃(v:Value) (W:Nat),e=.returned v/\SetW w' w.heap.size v n W/\(∀i,i<n->W.testBit i=!obsM ms i)/\Below w.heap.size w w':=by
 unfold maxLen at hm
 have HL:=hid h.len
 go_enter Tryz.func119,Tryz.ntmps119
 go_wp2_with fail
 refine (aMz hn).mono ?_
 rintro e w1 ⟨v5,rfl,hs1,hb1⟩
 go_wp2
 go_loopw[14] (fun kv wr=>∃(k G:Nat),k<=m/\kv=.int .i64 k/\Below w.heap.size w wr/\SetW wr w.heap.size v5 n G/\Hid (∀i,i<n->G.testBit i=obsM (ms.take k) i)) (fun kv _=>m-(intOf kv).toNat)
 case atStart=>exact ⟨0,0,Nat.zero_le _,rfl,hb1,hs1,fun i _=>by rw[List.take_zero];simp[obsM]⟩
 obtain ⟨k,G,hk,rfl,hb,hs,hj⟩:=hrel
 clear hs1
 by_cases hlt:k<m
 ·obtain ⟨b0,o0,u,rfl,hbb,hx,hu,h0,h1⟩:=h.get hlt
  replace h0:=(hb.cell hbb).trans h0
  replace h1:=(hb.cell hbb).trans h1
  have HX:=hid hx;clear hx
  have hbE:=hb.alloc hb.size (.cells #[.int .i64 u.old,.slice u.A u.new.length u.c] 43)
  have hsE:=hs.below ((Below.refl wr.heap.size wr).alloc (Nat.le_refl _) (.cells #[.int .i64 u.old,.slice u.A u.new.length u.c] 43))
  have hob:∀i:Nat,obsM (ms.take (k+1)) (i:Int)=(obsM (ms.take k) i || decide (u.old=(i:Int))):=fun i=>by rw[List.take_add_one,HX.out,Option.toList_some,aUy]
  have HO:=hid hob;clear hob
  by_cases hin:0<=u.old/\u.old<n
  ·obtain ⟨hi0,hi1⟩:=hin
   obtain ⟨i,hi⟩:∃i:Nat,u.old=(i:Int):=⟨u.old.toNat,by omega⟩
   rw[hi] at h0 hi0 hi1 hsE hbE
   have C:=aTo (i:=i) hn (by omega) hsE
   go_wp2_with (go_at_call 142;refine C.mono ?_;rintro e w2 ⟨rfl,hs2,hg2⟩)
   go_roundw
   case rel=>
    refine ⟨k+1,_,by omega,by go_num,hbE.grown hg2 hbE.size (fun g hg=>(hsE.2.lt g hg).1),hs2,fun j hj'=>?_⟩
    rw[aRz,hj.out j hj',HO.out,hi]
    congr 1
    by_cases e:i=j
    ·subst e;simp
    rw[decide_eq_false e,decide_eq_false (by omega)]
   simp[intOf];omega
  have hno:∀j:Nat,j<n->¬u.old=(j:Int):=fun j hj' e=>by omega
  have HNo:=hid hno;clear hno
  have REL:∀j:Nat,j<n->G.testBit j=obsM (ms.take (k+1)) j:=fun j hj'=>by rw[HO.out,hj.out j hj',decide_eq_false (HNo.out j hj'),Bool.or_false]
  have HRel:=hid REL;clear REL
  by_cases c1:0<=u.old
  ·have c2:¬u.old<n:=fun c2=>hin ⟨c1,c2⟩
   clear hin
   go_wp2
   go_roundw
   case rel=>exact ⟨k+1,G,by omega,by go_num,hbE,hsE,HRel⟩
   simp[intOf];omega
  clear hin
  go_wp2
  go_roundw
  case rel=>exact ⟨k+1,G,by omega,by go_num,hbE,hsE,HRel⟩
  simp[intOf];omega
 have hkn:k=m:=by omega
 subst hkn
 have hj2:=hj.out
 rw[List.take_of_length_le (by rw[HL.out];omega)] at hj2
 have HJ:=hid hj2
 clear hj hj2 hlt
 go_wp2_with fail
 refine (aMz hn).mono ?_
 rintro e w2 ⟨v8,rfl,hs8,hb8⟩
 have hs5:=hs.below hb8
 have hv5:∀g,v5.ownBlock=some g->g<wr.heap.size:=fun g hg=>(hs.2.lt g hg).2
 have hb2:=hb.trans (hb8.mono hb.size)
 obtain ⟨B8,hB8⟩:∃B,B=wr.heap.size:=⟨_,rfl⟩
 rw[<-hB8] at hs8 hv5
 have hwB:w.heap.size<=B8:=by rw[hB8];exact hb.size
 clear hB8 hs hb8
 go_wp2
 go_loopw[35] (fun kv wr=>∃(k S:Nat),k<=n/\kv=.int .i64 k/\Below w.heap.size w wr/\SetW wr w.heap.size v5 n G/\SetW wr B8 v8 n S/\Hid (∀i,i<n->S.testBit i=(decide (i<k) && !obsM ms i))) (fun kv _=>n-(intOf kv).toNat)
 case atStart=>exact ⟨0,0,Nat.zero_le _,rfl,hb2,hs5,hs8,fun i _=>by simp⟩
 obtain ⟨j,S,hj,rfl,hbr,hs5r,hs8r,hjj⟩:=hrel
 clear hs5 hs8 hb2
 by_cases hlt:j<n
 ·have C:=aQy (i:=j) hn hlt hs5r
  rw[HJ.out j hlt] at C
  have hstep:∀i:Nat,i<n->(decide (i<j+1) && !obsM ms i)=((decide (i<j) && !obsM ms i) || (decide (j=i) && !obsM ms j)):=fun i _=>by
   by_cases e:j=i
   ·subst e;simp
   by_cases e2:i<j
   ·rw[decide_eq_true e2,decide_eq_true (by omega:i<j+1),decide_eq_false e];simp
   rw[decide_eq_false e2,decide_eq_false (by omega:¬i<j+1),decide_eq_false e];simp
  have HS:=hid hstep;clear hstep
  cases ho:obsM ms j with
  | true=>
   rw[ho] at C
   have HO:=hid ho;clear ho
   go_wp2_with fail
   refine C.mono ?_
   rintro e w3 ⟨rfl,hb3⟩
   go_wp2
   go_roundw
   case rel=>
    refine ⟨j+1,S,by omega,by go_num,hbr.trans (hb3.mono hbr.size),hs5r.below hb3,hs8r.below hb3,fun i hi=>?_⟩
    rw[hjj.out i hi,HS.out i hi,HO.out];simp
   simp[intOf];omega
  | false=>
   rw[ho] at C
   have HO:=hid ho;clear ho
   go_wp2_with fail
   refine C.mono ?_
   rintro e w3 ⟨rfl,hb3⟩
   have hs8b:=hs8r.below hb3
   have hs5b:=hs5r.below hb3
   have C2:=aTo (i:=j) hn hlt hs8b
   go_wp2_with fail
   refine C2.mono ?_
   rintro e w4 ⟨rfl,hs84,hg4⟩
   have hbr3:=hbr.trans (hb3.mono hbr.size)
   go_wp2
   go_roundw
   case rel=>
    refine ⟨j+1,_,by omega,by go_num,hbr3.grown hg4 hbr3.size (fun g hg=>Nat.le_trans hwB (hs8b.2.lt g hg).1),hs5b.kept hg4 (hs5b.ne hs8b hv5),hs84,fun i hi=>?_⟩
    rw[aRz,hjj.out i hi,HS.out i hi,HO.out];simp
   simp[intOf];omega
 have hjn:j=n:=by omega
 subst hjn
 go_wp2
 go_ret
 refine ⟨v8,S,rfl,⟨hs8r.1,aMt hs8r.2 hwB⟩,fun i hi=>?_,hbr⟩
 rw[hjj.out i hi,decide_eq_true hi,Bool.true_and]
theorem bBn {n W base:Nat}{v:Value}{ms:List MV}{w:World}(hn:n<=64)(h:SetW w base v n W)(hW:∀i,i<n->W.testBit i=!obsM ms i) :
  Calls Tryz.prog 120 #[v,.int .i64 n] w (Ints (·=liveTo ms n) w):=by
 have HW:=hid hW;clear hW
 have hlen:∀k,(liveTo ms k).length<=k:=fun k=>by unfold liveTo;refine Nat.le_trans (List.length_filter_le _ _) (by simp)
 go_enter Tryz.func120,Tryz.ntmps120
 go_wp2
 go_loopw[5,8] (fun ov kv wr=>∃k:Nat,k<=n/\kv=.int .i64 k/\Below w.heap.size w wr/\wr.ownsRow w.heap.size 3 1 ov (liveTo ms k).length ((liveTo ms k).map (.int .i64))) (fun _ kv _=>n-(intOf kv).toNat)
 case atStart=>exact ⟨0,Nat.zero_le _,rfl,Below.refl _ _,World.ownsRow_nil _ _ _ _⟩
 obtain ⟨k,hk,rfl,hb,ho⟩:=hrel
 by_cases hlt:k<n
 ·have C:=aQy (i:=k) hn hlt (h.below hb)
  rw[HW.out k hlt] at C
  have hsu:=aSn ms k
  have hll:=hlen k
  cases hob:obsM ms k with
  | true=>
   rw[hob] at C hsu
   simp only[if_true,List.append_nil] at hsu
   have HS:=hid hsu;clear hsu
   go_wp2_with fail
   refine C.mono ?_
   rintro e w1 ⟨rfl,hb1⟩
   go_wp2
   go_roundw
   case rel=>
    refine ⟨k+1,by omega,by go_num,hb.trans (hb1.mono hb.size),?_⟩
    rw[HS.out];exact ho.kept (aAy hb1 (Nat.le_refl _)) (by cases (Value.ownBlock u5)<;>simp)
   simp[intOf];omega
  | false=>
   rw[hob] at C hsu
   simp only[Bool.false_eq_true,if_false] at hsu
   have HS:=hid hsu;clear hsu
   go_wp2_with (first
    | (go_at_call 143;refine C.mono ?_;rintro e w1 ⟨rfl,hb1⟩;have hbw:=(hb.trans (hb1.mono hb.size)).alloc (hb.trans (hb1.mono hb.size)).size (.cells #[.int .i64 (k:Int)] 3);have ho1:=(ho.kept (aAy hb1 (Nat.le_refl _)) (by cases (Value.ownBlock u5)<;>simp)).alloc (.cells #[.int .i64 (k:Int)] 3))
    | (at_builtin;refine aAp rfl (.tmp 14) (.tmp 16) 36 rfl E28 rfl rfl ho1 (aSx w1 (k:Int)) (aHc _) (by unfold maxLen;omega) (by omega) hbw.size ?_;intro v7 w7 ho7 hg7 hv7))
   go_roundw
   case rel=>
    refine ⟨k+1,by omega,by go_num,hbw.grown hg7 hbw.size (fun g hg=>(ho1.lt g hg).1),?_⟩
    rw[HS.out,List.length_append,List.map_append];exact ho7
   simp[intOf];omega
 have hkn:k=n:=by omega
 subst hkn
 obtain ⟨A5,c5,rfl,hc5⟩:=aAe ho
 go_wp2
 go_ret
 exact ⟨A5,c5,_,rfl,Rd.of_own ho hc5,hb,rfl⟩
theorem aYh {A A2:Option Addr}{c m c2:Nat}{l:List Int}{ms:List MV}{w:World}(hn:l.length<=64)(h:Rd w w.heap.size 1 A l.length c (l.map (.int .i64)))(hm:m<=maxLen)(h2:RdM w w.heap.size A2 m c2 ms) :
  Calls Tryz.prog 97 #[.slice A l.length c,.slice A2 m c2] w (Ints (·=liveL l ms) w):=by
 have C:=aFo (by omega) h
 cases hr:rightP l with
 | false=>
  rw[hr] at C
  have e:liveL l ms=[]:=by unfold liveL;rw[if_neg (by rw[hr];simp)]
  rw[e]
  go_enter Tryz.func97,Tryz.ntmps97
  go_wp2_with fail
  refine C.mono ?_
  rintro e w1 ⟨rfl,hb1⟩
  go_wp2
  go_ret
  exact ⟨none,0,[],rfl,Rd.none_ _ _ _,hb1,rfl⟩
 | true=>
  rw[hr] at C
  have e:liveL l ms=liveTo ms l.length:=by unfold liveL liveTo;rw[if_pos hr]
  rw[e]
  go_enter Tryz.func97,Tryz.ntmps97
  go_wp2_with fail
  refine C.mono ?_
  rintro e w1 ⟨rfl,hb1⟩
  go_wp2_with fail
  refine (bCx hm (h2.to hb1 hb1.size) hn).mono ?_
  rintro e w2 ⟨v,W,rfl,hs,hW,hb2⟩
  go_wp2_with fail
  refine (bBn hn hs hW).mono ?_
  rintro e w3 ⟨A3,c3,l3,rfl,hr3,hb3,rfl⟩
  go_wp2
  go_ret
  exact ⟨A3,c3,_,rfl,hr3,(hb1.trans (hb2.mono hb1.size)).trans (hb3.mono (Nat.le_trans hb1.size hb2.size)),rfl⟩
theorem bEg {A:Option Addr}{c n:Nat}{L:List Int}{w:World}(hn:n<=64)(hl:L.length<=64)(h:Rd w w.heap.size 1 A L.length c (L.map (.int .i64)))(hL:∀x∈L,0<=x/\x<n) :
  Calls Tryz.prog 96 #[.int .i64 n,.slice A L.length c] w fun e w'=>∃(v:Value) (W:Nat),e=.returned v/\SetW w' w.heap.size v n W/\(∀i:Nat,i<n->W.testBit i=decide ((i:Int)∈L))/\Below w.heap.size w w':=by
 have hq:=bEu hn
 generalize hk:(if n=0 then 0 else 1:Nat)=k at *
 have hk1:k<=1:=by rw[<-hk];split<;>omega
 have HLL:=hid hL;clear hL
 generalize hLn:L.length=m at *
 have HM:=hid hLn;clear hLn
 go_enter Tryz.func96,Tryz.ntmps96
 go_wp2_with (refine aOa rfl (.tmp 11) (.tmp 11) 147 rfl E66 zero76 rfl w.heap.size k (L:=(k:Int)) rfl rfl rfl (by omega) (by unfold maxLen;omega) (Nat.le_refl _) ?_;intro w1 ho1 hg1)
 have hs1:SetW w1 w.heap.size (.slice (some ⟨w.heap.size,0,none⟩) k k) n 0:=by
  refine ⟨by decide,?_⟩
  rw[hk]
  by_cases h0:n=0
  ·rw[if_pos h0] at hk ⊢;subst hk;exact ho1
  rw[if_neg h0] at hk ⊢;subst hk;exact ho1
 have hb1:=aKs hg1
 have HK:=hid hk
 clear hk hq ho1 hg1
 go_loopw[15] (fun kv wr=>∃(j W:Nat),j<=m/\kv=.int .i64 j/\Below w.heap.size w wr/\SetW wr w.heap.size (.slice (some ⟨w.heap.size,0,none⟩) k k) n W/\Hid (∀i:Nat,i<n->W.testBit i=decide ((i:Int)∈L.take j))) (fun kv _=>m-(intOf kv).toNat)
 case atStart=>exact ⟨0,0,Nat.zero_le _,rfl,hb1,hs1,fun i _=>by rw[List.take_zero];simp⟩
 obtain ⟨j,W,hj,rfl,hb,hs,hjj⟩:=hrel
 clear hs1 hb1
 by_cases hlt:j<m
 ·obtain ⟨b0,o0,u,rfl,hbb,hx,h0⟩:=h.int_ hlt
  replace h0:=(hb.cell (p:=⟨b0,o0+j,none⟩) hbb).trans h0
  obtain ⟨hu0,hu1⟩:=HLL.out u (List.mem_of_getElem? hx)
  obtain ⟨i,hi⟩:∃i:Nat,u=(i:Int):=⟨u.toNat,by omega⟩
  subst hi
  have HX:=hid hx;clear hx
  have hn0:¬n=0:=by omega
  have hk':k=1:=by rw[<-HK.out,if_neg hn0]
  obtain ⟨hW,ho⟩:=hs
  rw[if_neg hn0,if_neg hn0] at ho
  have c0:wr.cell? ⟨w.heap.size,0,none⟩=some (.int .u64 (W:Int)):=by
   rw[hk'] at ho;exact ho.cellAt 0 (by omega)
  have hst:=ho
  rw[hk'] at hst
  have fr:=hst.frozenAt 0
  have hst2:=hst.stored 0 (.int .u64 ((W ||| 2 ^ i:Nat):Int))
  have q1:=quo64 (i:=i) (by omega)
  have q2:=aTp (i:=i) (by omega)
  have q3:=rem64 (i:=i) (by omega)
  have hkk:(0:Int)<k:=by omega
  clear hst ho
  go_wp2
  rw[aLb hW (by omega)]
  go_roundw
  case rel=>
   refine ⟨j+1,W ||| 2 ^ i,by omega,by go_num,hb.setCell (Nat.le_refl _) _,⟨bEs hW (bBa (by omega)),?_⟩,fun a ha=>?_⟩
   ·rw[if_neg hn0,if_neg hn0,hk'];exact hst2.1
   rw[aRz,hjj.out a ha,List.take_add_one,HX.out,Option.toList_some]
   by_cases e:i=a
   ·subst e;simp
   have:¬(a:Int)=(i:Int):=by omega
   simp[e,this]
  simp[intOf];omega
 have hjn:j=m:=by omega
 subst hjn
 go_wp2
 go_ret
 refine ⟨_,W,rfl,hs,fun i hi=>?_,hb⟩
 rw[hjj.out i hi,List.take_of_length_le (by rw[HM.out];omega)]
end Go.Proofs.YtohblmepajhpaaaGreatDoor
