/- Texts of the walks, together: The search for pairs in memory; walk: similar's take. Rows of numbers that a call hands back. Walks: the markers that plays draw. Walks: graphs: Right, Above, Chain, Under. Sets of small numbers, as bits of a word: laid, put into, asked. -/
import Derived.Laws.Bits64b
import Derived.Laws.ShiftsVarLaws
import Derived.Test.YtohblmepajhpaaaGreatDoorG01
import Derived.Test.YtohblmepajhpaaaGreatDoorG04
import Derived.Test.YtohblmepajhpaaaGreatDoorG05
import Derived.Test.YtohblmepajhpaaaGreatDoorG07
import Derived.Test.YtohblmepajhpaaaGreatDoorG13
set_option maxHeartbeats 8000000
set_option maxRecDepth 100000
open Go.Lib (hid)
namespace Go.Proofs.YtohblmepajhpaaaGreatDoor
open Go.RowKit
theorem wideQ2:(match Tryz.prog.underlying 234 with | some (.array _ _) | some (.struct _)=>true | _=>false)=true:=by kernel_rfl
theorem KQ2:Maps.Keyed Tryz.prog 234:=Maps.Keyed.of_law (deep_law_laid T.laidOut (m:=2) (by omega) (of_decide_eq_true (by kernel_rfl)) (by kernel_rfl) wideQ2)
theorem aYu:Tryz.prog.keyType 234=true:=by kernel_rfl
theorem cellsQ2:Tryz.prog.cellsOf 234=2:=by kernel_rfl
theorem keyQ2 {x y:Nat}(hx:x<=1000000000)(hy:y<=1000000000):keyOf Tryz.prog 234 (.agg #[.int .i64 (x:Int),.int .i64 (y:Int)])=some (kl2 x y):=
 bEg Tryz.underlying234 rfl rfl rfl rfl rfl rfl cellsQ2 aMn Tryz.underlying3 aYu T.types_pos hx hy
theorem bHo {x y x' y':Nat}(hx:x<=1000000000)(hy:y<=1000000000) (hx':x'<=1000000000) (hy':y'<=1000000000)(h:¬(x=x'/\y=y')):kl2 x y≠kl2 x' y':=fun e=>by
 have h1:=keyQ2 hx hy
 rw[e] at h1
 have:=KQ2.inj h1 (keyQ2 hx' hy')
 simp at this
 exact h ⟨by omega,by omega⟩
structure MpQ (w:World) (b n:Nat) (D:DataW Value) (G:Nat->Nat->Option Nat):Prop where
 own:w.ownsMap Tryz.prog 234 Rv b n D
 at_:∀x y:Nat,x<=1000000000->y<=1000000000->D.atKey (kl2 x y) (.held (.int .i64 0))=.held (.int .i64 (((G x y).getD 0:Nat):Int))
 has:∀x y:Nat,x<=1000000000->y<=1000000000->Maps.has D (kl2 x y)=(G x y).isSome
theorem MpQ.start (w:World):MpQ (w.alloc (.map #[] 0)) w.heap.size 0 (.map []) (fun _ _=>none):=
 ⟨World.ownsMap_made _ _ _ _,fun _x _y _ _=>rfl,fun _x _y _ _=>rfl⟩
theorem MpQ.put {w w':World}{b n:Nat}{D:DataW Value} {G G':Nat->Nat->Option Nat}{p q j:Nat}(h:MpQ w b n D G)(hp:p<=1000000000)(hq:q<=1000000000)
  (hown:w'.ownsMap Tryz.prog 234 Rv b (n+1) (D.put (kl2 p q) (.held (.int .i64 (j:Int))))) (hG:∀x y,G' x y=if x=p/\y=q then some j else G x y) :
  MpQ w' b (n+1) (D.put (kl2 p q) (.held (.int .i64 (j:Int)))) G':=by
 refine ⟨hown,fun x y hx hy=>?_,fun x y hx hy=>?_⟩
 ·by_cases e:x=p/\y=q
  ·obtain ⟨rfl,rfl⟩:=e
   rw[Maps.atKey_put_same h.own.isMap (KQ2.key (keyQ2 hp hq)),hG,if_pos ⟨rfl,rfl⟩];rfl
  rw[Maps.atKey_put_other (bHo hx hy hp hq e),h.at_ x y hx hy,hG,if_neg e]
 by_cases e:x=p/\y=q
 ·obtain ⟨rfl,rfl⟩:=e
  rw[Maps.has_put_same h.own.isMap (KQ2.key (keyQ2 hp hq)),hG,if_pos ⟨rfl,rfl⟩];rfl
 rw[Maps.has_put_other (bHo hx hy hp hq e),h.has x y hx hy,hG,if_neg e]
theorem MpQ.kept {w w':World}{b n:Nat}{D:DataW Value}{G:Nat->Nat->Option Nat}{row:Option Nat}(h:MpQ w b n D G)(hg:w.grownBy w' row)(hne:some b≠row):MpQ w' b n D G:=
 ⟨h.own.kept hg hne,h.at_,h.has⟩
theorem MpQ.below {w w':World}{b n:Nat}{D:DataW Value}{G:Nat->Nat->Option Nat}(h:MpQ w b n D G)(hb:Below w.heap.size w w'):MpQ w' b n D G:=
 h.kept (row:=none) ⟨hb.os,hb.tape,hb.output,hb.size,fun k hk _=>hb.block k hk⟩ (by simp)
def pairC (p:Nat×Nat):List Value:=[.int .i64 (p.1:Int),.int .i64 (p.2:Int)]
def pairsV (l:List (Nat×Nat)):List Value:=l.flatMap pairC
theorem bBm:Elem Tryz.prog 229 234 2 16:=aBt (by kernel_rfl)
theorem bCy (l:List (Nat×Nat)):∀u∈pairsV l,u.oneCell'=true:=by
 intro u hu
 obtain ⟨f,_,hf⟩:=List.mem_flatMap.1 hu
 simp only[pairC,List.mem_cons,List.mem_nil_iff,or_false] at hf
 rcases hf with rfl | rfl<;>rfl
theorem bIa (w:World)(g i j:Nat)(hg:g=w.heap.size):Rd (w.alloc (.cells #[.int .i64 (i:Int),.int .i64 (j:Int)] 234)) (w.alloc (.cells #[.int .i64 (i:Int),.int .i64 (j:Int)] 234)).heap.size 2 (some ⟨g,0,none⟩) 1 1 (pairsV [(i,j)]):=by
 subst hg
 exact ⟨rfl,Nat.le_refl _,fun _=>⟨_,0,rfl,by simp,fun k u hu=>by
  rw[Nat.zero_add,World.cell?,heap_alloc_new]
  simpa[pairsV,pairC] using hu⟩⟩
theorem bCt {pb i x:Nat}{u:World}(h:u.cell? ⟨pb,0,none⟩=some (.int .i64 (i:Int))) :
  Calls Tryz.prog 247 #[.int .i64 (x:Int),.pointer (some ⟨pb,0,none⟩)] u fun e w'=>e=.returned (.bool (decide (x=i)))/\Below u.heap.size u w':=by
 go_enter Tryz.func247,Tryz.ntmps247
 by_cases hx:x=i
 ·subst hx
  go_wp2
  go_ret
  exact ⟨by simp,Below.refl _ _⟩
 have e1:((x:Int) == (i:Int))=false:=beq_eq_false_iff_ne.2 (by omega)
 have HX:=hid (decide_eq_false hx)
 go_wp2
 go_ret
 exact ⟨by rw[HX.out];first | rfl | (simp;omega),Below.refl _ _⟩
theorem bBe {pb i x:Nat}{u:World}(h:u.cell? ⟨pb,1,none⟩=some (.int .i64 (i:Int))) :
  Calls Tryz.prog 248 #[.int .i64 (x:Int),.pointer (some ⟨pb,0,none⟩)] u fun e w'=>e=.returned (.bool (decide (x=i)))/\Below u.heap.size u w':=by
 go_enter Tryz.func248,Tryz.ntmps248
 by_cases hx:x=i
 ·subst hx
  go_wp2
  go_ret
  exact ⟨by simp,Below.refl _ _⟩
 have e1:((x:Int) == (i:Int))=false:=beq_eq_false_iff_ne.2 (by omega)
 have HX:=hid (decide_eq_false hx)
 go_wp2
 go_ret
 exact ⟨by rw[HX.out];first | rfl | (simp;omega),Below.refl _ _⟩
abbrev GT:=(Nat->Nat->Option Nat)×Nat
structure SP (w0 w:World) (sb m:Nat) (bs ss f t o:Value) (is js:List Nat) (ps:List (Nat×Nat)) (G:GT) (Z:Nat->Obj->Prop):Prop where
 hs:w.heap[sb]? = some (.cells #[bs,ss,f,t,.map (some m),o] 231 (0,0))
 f1:w.ownsRow w0.heap.size 3 1 f is.length (natsV is)
 t1:w.ownsRow w0.heap.size 3 1 t js.length (natsV js)
 o1:w.ownsRow w0.heap.size 234 2 o ps.length (pairsV ps)
 nf:f.ownBlock≠some sb
 nt:t.ownBlock≠some sb
 no:o.ownBlock≠some sb
 nft:∀g,f.ownBlock=some g->t.ownBlock≠some g
 nfo:∀g,f.ownBlock=some g->o.ownBlock≠some g
 nto:∀g,t.ownBlock=some g->o.ownBlock≠some g
 mp:∃n D,MpQ w m n D G.1/\n<=G.2
 lo:w0.heap.size<=sb
 bel:Below w0.heap.size w0 w
 oth:∀k ob,Z k ob->w.heap[k]? = some ob/\k≠sb/\f.ownBlock≠some k/\t.ownBlock≠some k/\o.ownBlock≠some k
section
variable {w0 w w':World} {sb m:Nat} {bs ss f t o:Value} {is js:List Nat} {ps:List (Nat×Nat)} {G:GT} {Z:Nat->Obj->Prop}
theorem aAa {w:World}{g:Nat}{ob:Obj}(h:w.heap[g]? = some ob):g<w.heap.size:=by
 rcases Nat.lt_or_ge g w.heap.size with h2 | h2
 ·exact h2
 simp[Array.getElem?_eq_none h2] at h
theorem SP.below (h:SP w0 w sb m bs ss f t o is js ps G Z)(hb:Below w.heap.size w w'):SP w0 w' sb m bs ss f t o is js ps G Z:=by
 obtain ⟨n,D,h1,hnn⟩:=h.mp
 exact ⟨(hb.block sb (aAa h.hs)).trans h.hs,aAg h.f1 hb,aAg h.t1 hb,aAg h.o1 hb,h.nf,h.nt,h.no,h.nft,h.nfo,h.nto,⟨n,D,h1.below hb,hnn⟩,h.lo,h.bel.trans (hb.mono h.bel.size),fun k ob hz=>⟨(hb.block k (aAa (h.oth k ob hz).1)).trans (h.oth k ob hz).1,(h.oth k ob hz).2⟩⟩
theorem SP.mne (h:SP w0 w sb m bs ss f t o is js ps G Z){g:Nat}{cs:Array Value}{T:TypeId}{fr:Nat×Nat}(hg:w.heap[g]? = some (.cells cs T fr)):m≠g:=fun e=>by
 obtain ⟨n,D,h1,hnn⟩:=h.mp
 obtain ⟨es,ck,h2,_⟩:=h1.own
 rw[e,hg] at h2;cases h2
theorem aOd {w:World}{B:Nat}{e:TypeId}{k n:Nat}{v:Value}{xs:List Value}(h:w.ownsRow B e k v n xs){g:Nat}(hg:v.ownBlock=some g):∃cs,w.heap[g]? = some (.cells cs e (0,0)):=aRy h hg
structure SPo (w0 w:World) (sb m:Nat) (bs ss f t o o':Value) (is js:List Nat) (ps:List (Nat×Nat)) (G:GT) (Z:Nat->Obj->Prop):Prop where
 hs:w.heap[sb]? = some (.cells #[bs,ss,f,t,.map (some m),o] 231 (0,0))
 f1:w.ownsRow w0.heap.size 3 1 f is.length (natsV is)
 t1:w.ownsRow w0.heap.size 3 1 t js.length (natsV js)
 o1:w.ownsRow w0.heap.size 234 2 o' ps.length (pairsV ps)
 nf:f.ownBlock≠some sb
 nt:t.ownBlock≠some sb
 no:o'.ownBlock≠some sb
 nft:∀g,f.ownBlock=some g->t.ownBlock≠some g
 nfo:∀g,f.ownBlock=some g->o'.ownBlock≠some g
 nto:∀g,t.ownBlock=some g->o'.ownBlock≠some g
 mp:∃n D,MpQ w m n D G.1/\n<=G.2
 lo:w0.heap.size<=sb
 bel:Below w0.heap.size w0 w
 oth:∀k ob,Z k ob->w.heap[k]? = some ob/\k≠sb/\f.ownBlock≠some k/\t.ownBlock≠some k/\o'.ownBlock≠some k
theorem SP.push (h:SP w0 w sb m bs ss f t o is js ps G Z) {o':Value}{q:Nat×Nat}(hg:w.grownBy w' o.ownBlock)(ho:w'.ownsRow w0.heap.size 234 2 o' (ps.length+1) (pairsV ps++pairsV [q]))(hv:o'.ownBlock=o.ownBlock\/o'.ownBlock=some w.heap.size) :
  SPo w0 w' sb m bs ss f t o o' is js (ps++[q]) G Z:=by
 obtain ⟨n,D,h1,hnn⟩:=h.mp
 have new:∀g,g<w.heap.size->o.ownBlock≠some g->o'.ownBlock≠some g:=fun g hlt hne e=>by
  rcases hv with hv | hv
  ·exact hne (hv▸e)
  rw[hv] at e;injection e with e;omega
 have keepB:∀{v:Value} {T:TypeId} {k nn:Nat} {xs:List Value},w.ownsRow w0.heap.size T k v nn xs->(∀g,v.ownBlock=some g->o.ownBlock≠some g)->w'.ownsRow w0.heap.size T k v nn xs:=fun {v} {T} {k} {nn} {xs} hr hn=>by
  refine hr.kept hg ?_
  cases e:v.ownBlock with
  | none=>exact .inl rfl
  | some g=>exact .inr (fun e2=>hn g e e2.symm)
 refine ⟨(hg.block sb (aAa h.hs) (fun e=>h.no e.symm)).trans h.hs,keepB h.f1 h.nfo,keepB h.t1 h.nto,?_,h.nf,h.nt,new sb (aAa h.hs) h.no,h.nft,fun g hg=>new g (h.f1.lt g hg).2 (h.nfo g hg),fun g hg=>new g (h.t1.lt g hg).2 (h.nto g hg),⟨n,D,h1.kept hg (fun e=>by
  obtain ⟨cs,hc⟩:=aOd h.o1 e.symm
  exact h.mne hc rfl),hnn⟩,h.lo,h.bel.grown hg h.bel.size (fun g hg=>(h.o1.lt g hg).1),fun k ob hz=>⟨(hg.block k (aAa (h.oth k ob hz).1) (fun e=>(h.oth k ob hz).2.2.2.2 e.symm)).trans (h.oth k ob hz).1,(h.oth k ob hz).2.1,(h.oth k ob hz).2.2.1,(h.oth k ob hz).2.2.2.1,new k (aAa (h.oth k ob hz).1) (h.oth k ob hz).2.2.2.2⟩⟩
 rw[List.length_append]
 unfold pairsV at *
 rw[List.flatMap_append]
 exact ho
theorem SPo.set {o':Value}(h:SPo w0 w sb m bs ss f t o o' is js ps G Z):SP w0 (w.setCell ⟨sb,5,none⟩ o') sb m bs ss f t o' is js ps G Z:=by
 obtain ⟨n,D,h1,hnn⟩:=h.mp
 have hmne:m≠sb:=fun e=>by
  obtain ⟨es,ck,h2,_⟩:=h1.own
  rw[e,h.hs] at h2;cases h2
 refine ⟨?_,ownsRow_setCell_other h.f1 h.nf _,ownsRow_setCell_other h.t1 h.nt _,ownsRow_setCell_other h.o1 h.no _,h.nf,h.nt,h.no,h.nft,h.nfo,h.nto,⟨n,D,h1.kept (aAq w sb 5 o') (by simpa using hmne),hnn⟩,h.lo,h.bel.setCell h.lo _,fun k ob hz=>⟨(Below.heap_setCell w ⟨sb,5,none⟩ _ k (h.oth k ob hz).2.1).trans (h.oth k ob hz).1,(h.oth k ob hz).2⟩⟩
 have:=heap_setCell_same w sb 5 _ _ o' h.hs
 simpa using this
theorem SP.inF (h:SP w0 w sb m bs ss f t o is js ps G Z){r:Nat}(hr:f.ownBlock=some r)(hg:w.grownBy w' (some r)) {f':Value} {is':List Nat}(hf:w'.ownsRow w0.heap.size 3 1 f' is'.length (natsV is'))(hb:∀g,f'.ownBlock=some g->f.ownBlock=some g) :
  SP w0 (w'.setCell ⟨sb,2,none⟩ f') sb m bs ss f' t o is' js ps G Z:=by
 obtain ⟨n,D,h1,hnn⟩:=h.mp
 have hsb:r≠sb:=fun e=>h.nf (by rw[hr,e])
 have hs':=(hg.block sb (aAa h.hs) (fun e=>by injection e with e;exact hsb e.symm)).trans h.hs
 have hmr:m≠r:=by obtain ⟨cs,hc⟩:=aOd h.f1 hr;exact h.mne hc
 have h1':=h1.kept hg (by simpa using hmr)
 have hmne:m≠sb:=fun e=>by
  obtain ⟨es,ck,h2,_⟩:=h1'.own
  rw[e,hs'] at h2;cases h2
 have ht':w'.ownsRow w0.heap.size 3 1 t js.length (natsV js):=h.t1.kept hg (.inr (h.nft r hr))
 have ho':w'.ownsRow w0.heap.size 234 2 o ps.length (pairsV ps):=h.o1.kept hg (.inr (h.nfo r hr))
 have hnf:f'.ownBlock≠some sb:=fun e=>h.nf (hb sb e)
 refine ⟨?_,ownsRow_setCell_other hf hnf _,ownsRow_setCell_other ht' h.nt _,ownsRow_setCell_other ho' h.no _,hnf,h.nt,h.no,fun g hg=>h.nft g (hb g hg),fun g hg=>h.nfo g (hb g hg),h.nto,⟨n,D,h1'.kept (aAq w' sb 2 f') (by simpa using hmne),hnn⟩,h.lo,(h.bel.grown hg h.bel.size (fun g hg=>by injection hg with hg;subst hg;exact (h.f1.lt _ hr).1)).setCell h.lo _,fun k ob hz=>⟨(Below.heap_setCell w' ⟨sb,2,none⟩ _ k (h.oth k ob hz).2.1).trans ((hg.block k (aAa (h.oth k ob hz).1) (fun e=>(h.oth k ob hz).2.2.1 (by rw[hr];exact e.symm))).trans (h.oth k ob hz).1),(h.oth k ob hz).2.1,fun e=>(h.oth k ob hz).2.2.1 (hb k e),(h.oth k ob hz).2.2.2⟩⟩
 have:=heap_setCell_same w' sb 2 _ _ f' hs'
 simpa using this
theorem SP.inT (h:SP w0 w sb m bs ss f t o is js ps G Z){r:Nat}(hr:t.ownBlock=some r)(hg:w.grownBy w' (some r)) {t':Value} {js':List Nat}(ht:w'.ownsRow w0.heap.size 3 1 t' js'.length (natsV js'))(hb:∀g,t'.ownBlock=some g->t.ownBlock=some g) :
  SP w0 (w'.setCell ⟨sb,3,none⟩ t') sb m bs ss f t' o is js' ps G Z:=by
 obtain ⟨n,D,h1,hnn⟩:=h.mp
 have hsb:r≠sb:=fun e=>h.nt (by rw[hr,e])
 have hs':=(hg.block sb (aAa h.hs) (fun e=>by injection e with e;exact hsb e.symm)).trans h.hs
 have hmr:m≠r:=by obtain ⟨cs,hc⟩:=aOd h.t1 hr;exact h.mne hc
 have h1':=h1.kept hg (by simpa using hmr)
 have hmne:m≠sb:=fun e=>by
  obtain ⟨es,ck,h2,_⟩:=h1'.own
  rw[e,hs'] at h2;cases h2
 have hf':w'.ownsRow w0.heap.size 3 1 f is.length (natsV is):=h.f1.kept hg (by
  cases e:f.ownBlock with
  | none=>exact .inl rfl
  | some g=>exact .inr (fun e2=>h.nft g e (by rw[hr,<-e2])))
 have ho':w'.ownsRow w0.heap.size 234 2 o ps.length (pairsV ps):=h.o1.kept hg (.inr (h.nto r hr))
 have hnt:t'.ownBlock≠some sb:=fun e=>h.nt (hb sb e)
 refine ⟨?_,ownsRow_setCell_other hf' h.nf _,ownsRow_setCell_other ht hnt _,ownsRow_setCell_other ho' h.no _,h.nf,hnt,h.no,fun g hg e=>h.nft g hg (hb g e),h.nfo,fun g hg=>h.nto g (hb g hg),⟨n,D,h1'.kept (aAq w' sb 3 t') (by simpa using hmne),hnn⟩,h.lo,(h.bel.grown hg h.bel.size (fun g hg=>by injection hg with hg;subst hg;exact (h.t1.lt _ hr).1)).setCell h.lo _,fun k ob hz=>⟨(Below.heap_setCell w' ⟨sb,3,none⟩ _ k (h.oth k ob hz).2.1).trans ((hg.block k (aAa (h.oth k ob hz).1) (fun e=>(h.oth k ob hz).2.2.2.1 (by rw[hr];exact e.symm))).trans (h.oth k ob hz).1),(h.oth k ob hz).2.1,(h.oth k ob hz).2.2.1,fun e=>(h.oth k ob hz).2.2.2.1 (hb k e),(h.oth k ob hz).2.2.2.2⟩⟩
 have:=heap_setCell_same w' sb 3 _ _ t' hs'
 simpa using this
end
theorem E28:Elem Tryz.prog 36 3 1 8:=aBt (by kernel_rfl)
theorem aBu (l:List Int):∀u∈l.map (Value.int .i64),u.oneCell'=true:=by
 intro u hu
 obtain ⟨s,_,rfl⟩:=List.mem_map.1 hu
 rfl
theorem aEn (w:World)(x:Int):Rd (w.alloc (.cells #[.int .i64 x] 3)) (w.alloc (.cells #[.int .i64 x] 3)).heap.size 1 (some ⟨w.heap.size,0,none⟩) 1 1 ([x].map (.int .i64)):=
 ⟨rfl,Nat.le_refl _,fun _=>⟨_,_,rfl,by simp,fun j u hu=>by
  rw[Nat.zero_add,cell_of_row _ _ _ _ _ _ (heap_alloc_new _ _)]
  cases j with
  | zero=>simpa using hu
  | succ j=>simp at hu⟩⟩
def Ints (Q:List Int->Prop)(w:World)(e:Ending) (w':World):Prop:=
 ∃(A:Option Addr) (c:Nat) (l:List Int),e=.returned (.slice A l.length c)/\Rd w' w'.heap.size 1 A l.length c (l.map (.int .i64))/\Below w.heap.size w w'/\Q l
def IntsF (A0:Option Addr)(n0:Nat)(Q:List Int->Prop)(w:World)(e:Ending) (w':World):Prop:=
 ∃(A:Option Addr) (c:Nat) (l:List Int),e=.returned (.slice A l.length c)/\Rd w' w'.heap.size 1 A l.length c (l.map (.int .i64))/\Below w.heap.size w w'/\Q l/\∀a,A=some a->(A=A0/\0<n0)\/w.heap.size<=a.block
theorem aPl {w:World}{base:Nat}{e:TypeId}{sz n m c:Nat}{A:Option Addr}{xs:List Value}(h:w.ownsRow base e sz (.slice A m c) n xs):∀a,A=some a->base<=a.block:=by
 rintro a rfl
 rcases h.2 with ⟨h',_⟩ | ⟨g,cap,cur,h',hb,_⟩
 ·simp at h'
 simp only[Value.slice.injEq,Option.some.injEq] at h'
 rw[h'.1];exact hb
theorem aAp {w w':World}{B:Nat}(h:Below B w w')(hB:w.heap.size<=B):w.grownBy w' none:=⟨h.os,h.tape,h.output,h.size,fun k hk _=>h.block k (by omega)⟩
theorem Rd.keepA {w w':World}{B sz n c:Nat}{A:Option Addr}{xs:List Value}(h:Rd w B sz A n c xs)(hA:0<n->∀a,A=some a->w'.heap[a.block]? = w.heap[a.block]?):Rd w' B sz A n c xs:=
 ⟨h.len,h.cap,fun hn=>by
  obtain ⟨b,o,rfl,hb,hc⟩:=h.at_ hn
  refine ⟨b,o,rfl,hb,fun j u hu=>?_⟩
  rw[<-hc j u hu]
  exact World.cell?_of_block (w:=w) (hA hn ⟨b,o,none⟩ rfl)⟩
theorem Rd.lt_ {w:World}{B sz n c:Nat}{A:Option Addr}{xs:List Value}(h:Rd w B sz A n c xs)(hn:0<n):∀a,A=some a->a.block<B:=by
 obtain ⟨b,o,rfl,hb,_⟩:=h.at_ hn
 rintro a e;cases e;exact hb
def Apart (sv:Value)(l:List Int)(w:World)(v:Value):Prop:=
 ∃(A:Option Addr) (c:Nat),v=.slice A l.length c/\Rd w w.heap.size 1 A l.length c (l.map (.int .i64))/\(0<l.length->∀a,A=some a->some a.block≠sv.ownBlock)
theorem Apart.to {sv v:Value}{l:List Int} {w w':World}(h:Apart sv l w v)(hb:Below w.heap.size w w'):Apart sv l w' v:=by
 obtain ⟨A,c,rfl,hr,ha⟩:=h
 exact ⟨A,c,rfl,hr.to hb hb.size,ha⟩
theorem Apart.grown {sv sv' v:Value}{l:List Int} {w w':World}(h:Apart sv l w v)(hg:w.grownBy w' sv.ownBlock)(hv:sv'.ownBlock=sv.ownBlock\/∃k,sv'.ownBlock=some k/\w.heap.size<=k):Apart sv' l w' v:=by
 obtain ⟨A,c,rfl,hr,ha⟩:=h
 refine ⟨A,c,rfl,(hr.keepA fun h0 a h=>hg.block _ (hr.lt_ h0 a h) (ha h0 a h)).more hg.size,fun h0 a h=>?_⟩
 rcases hv with e | ⟨k,e,hk⟩
 ·rw[e];exact ha h0 a h
 rw[e];intro e2;injection e2 with e2;have:=hr.lt_ h0 a h;omega
structure RefSt (w wr:World) (ms:List MV) (i:Int) (ov tv sv:Value) (seen todo out:List Int):Prop where
 below:Below w.heap.size w wr
 inv:RefInv ms i seen todo out
 ho:Apart sv out wr ov
 ht:Apart sv todo wr tv
 row:wr.ownsRow w.heap.size 3 1 sv seen.length (seen.map (.int .i64))
 tl:todo.length<=25200*(seen.length+1)
theorem aOs {W:World} {base base':Nat}{e:TypeId}{size:Nat}{v:Value}{k:Nat}{xs:List Value}(h:W.ownsRow base e size v k xs)(hb:base'<=base):W.ownsRow base' e size v k xs:=by
 refine ⟨h.1,?_⟩
 rcases h.2 with h1 | ⟨g,cap,cur,e1,hg,r⟩
 ·exact .inl h1
 exact .inr ⟨g,cap,cur,e1,Nat.le_trans hb hg,r⟩
theorem aKr {w:World}{g sz n:Nat}{cs:Array Value}{t:TypeId}{fr:Nat×Nat}{xs:List Value}(hg:w.heap[g]? = some (.cells cs t fr))(hcs:cs.toList=xs)(hn:xs.length=n*sz) :
  Rd w w.heap.size sz (some ⟨g,0,none⟩) n n xs:=
 ⟨hn,Nat.le_refl _,fun _=>⟨g,0,rfl,(Array.getElem?_eq_some_iff.1 hg).1,fun j u hu=>by
  rw[Nat.zero_add,cell_of_row _ _ _ _ _ _ hg,<-Array.getElem?_toList,hcs];exact hu⟩⟩
theorem E22:Elem Tryz.prog 23 43 2 32:=aBt (by kernel_rfl)
theorem aPy {N:Nat}(hN:N<=1000):IntKind.u64.wrap (N:Int)=N:=by rw[IntKind.wrap_u64];omega
theorem bHw (t:Int){N:Nat}(h0:0<N)(hN:N<=1000):∃k:Nat,wrap64 ((IntKind.u64.wrap t).tmod (N:Int))=k/\k<N:=by
 have h0:0<=IntKind.u64.wrap t:=by rw[IntKind.wrap_u64];omega
 rw[Int.tmod_eq_emod_of_nonneg h0]
 generalize IntKind.u64.wrap t=u at *
 have:0<=u % (N:Int):=Int.emod_nonneg _ (by omega)
 have h2:u % (N:Int)<(N:Int):=Int.emod_lt_of_pos _ (by omega)
 generalize u % (N:Int)=v at *
 refine ⟨v.toNat,?_,by omega⟩
 unfold wrap64
 omega
def playM (N:Nat)(m:MV):Prop:=0<=m.old/\m.old<N/\m.new.length<=4/\∀x∈m.new,m.old<x/\x<N
structure PlayIs (N:Nat) (ms:List MV):Prop where
 len:ms.length<=40
 all:∀m∈ms,playM N m
theorem PlayIs.few {N:Nat}{ms:List MV}(h:PlayIs N ms):fewM ms=true:=by
 simp only[fewM,Bool.and_eq_true,List.all_eq_true,decide_eq_true_eq]
 exact ⟨fun m hm=>by have:=(h.all m hm).2.2.1;omega,Nat.le_trans h.len (by decide)⟩
theorem PlayIs.right {N:Nat}{ms:List MV}(h:PlayIs N ms):rightM N ms=true:=by
 simp only[rightM,List.all_eq_true]
 intro m hm
 obtain ⟨h1,h2,h3,h4⟩:=h.all m hm
 simp only[okM,Bool.and_eq_true,decide_eq_true_eq,List.all_eq_true]
 exact ⟨⟨⟨h1,h2⟩,by omega⟩,h4⟩
theorem bBw (m:MV):∀u∈m.cells,u.oneCell'=true:=by
 intro u hu
 simp only[MV.cells,List.mem_cons,List.not_mem_nil,or_false] at hu
 rcases hu with rfl | rfl<;>rfl
theorem bHi (w:World)(m:MV):Rd (w.alloc (.cells #[.int .i64 m.old,.slice m.A m.new.length m.c] 43)) (w.alloc (.cells #[.int .i64 m.old,.slice m.A m.new.length m.c] 43)).heap.size 2 (some ⟨w.heap.size,0,none⟩) 1 1 m.cells:=
 aKr (heap_alloc_new _ _) rfl rfl
theorem mset {w:World}{g:Nat}{a b c:Value}{t:TypeId}(h:w.heap[g]? = some (.cells #[a,b] t (0,0))):(w.setCell ⟨g,1,none⟩ c).heap[g]? = some (.cells #[a,c] t (0,0)):=
 (heap_setCell_same w g 1 _ t c h).trans rfl
structure Drawn (w wr:World) (N:Nat) (ov:Value) (ms:List MV):Prop where
 below:Below w.heap.size w wr
 row:wr.ownsRow w.heap.size 43 2 ov ms.length (ms.flatMap MV.cells)
 play:PlayIs N ms
 part:∀m∈ms,Apart ov m.new wr (.slice m.A m.new.length m.c)
theorem Drawn.to {w wr wr':World}{N:Nat}{ov:Value}{ms:List MV}(h:Drawn w wr N ov ms)(hb:Below wr.heap.size wr wr'):Drawn w wr' N ov ms:=
 ⟨h.below.trans (hb.mono h.below.size),h.row.kept (aAp hb (Nat.le_refl _)) (by cases ov.ownBlock<;>simp),h.play,fun m hm=>(h.part m hm).to hb⟩
theorem Drawn.rdm {w wr:World}{N:Nat}{ov:Value}{ms:List MV}(h:Drawn w wr N ov ms)(hN:N<=1000):∃A c,ov=.slice A ms.length c/\RdM wr wr.heap.size A ms.length c ms:=by
 obtain ⟨A,c,rfl,hc⟩:=aAd h.row
 refine ⟨A,c,rfl,Rd.of_own h.row hc,rfl,fun m hm=>?_⟩
 obtain ⟨A1,c1,e,hr,_⟩:=h.part m hm
 cases e
 obtain ⟨h1,h2,h3,h4⟩:=h.play.all m hm
 exact ⟨hr,by omega,by unfold I64;omega,fun x hx=>by have:=h4 x hx;unfold I64;omega⟩
theorem aUz {A:Option Addr}{n c N:Nat}{ms:List MV}{w:World}(_hn:n<=maxLen)(h:RdM w w.heap.size A n c ms)(hN:N<=1000) :
  Calls Tryz.prog 12 #[.int .i64 N,.slice A n c] w fun e w'=>∃(A':Option Addr) (c':Nat) (ms':List MV),e=.returned (.slice A' ms'.length c')/\RdM w' w'.heap.size A' ms'.length c' ms'/\PlayIs N ms'/\Below w.heap.size w w':=by
 unfold maxLen at _hn
 have hw:=aPy hN
 go_enter Tryz.func12,Tryz.ntmps12
 go_wp2
 go_loopw[5,6] (fun ov iv wr=>∃(k:Nat) (ms':List MV),k<=n/\k<=40/\iv=.int .i64 k/\ms'.length=k/\Drawn w wr N ov ms') (fun _ i _=>n-(intOf i).toNat)
 case atStart=>exact ⟨0,[],Nat.zero_le _,by omega,rfl,rfl,⟨Below.refl _ _,World.ownsRow_nil _ _ _ _,⟨by simp,by simp⟩,by simp⟩⟩
 obtain ⟨k,ms',hk,hk40,rfl,hl,hd⟩:=hrel
 obtain ⟨wo,hwo⟩:∃x,x=wr:=⟨_,rfl⟩
 subst hwo
 by_cases hgo:k<n/\k<40/\0<N
 ·obtain ⟨hlt,hlt40,hN0⟩:=hgo
  obtain ⟨b0,o0,u,rfl,hbb,hx,hu,h0,h1⟩:=h.get hlt
  have h00:=(hd.below.cell hbb).trans h0
  have h10:=(hd.below.cell hbb).trans h1
  obtain ⟨hrd,hnl,_,_⟩:=h.parts u hu
  obtain ⟨old,hold,holdN⟩:=bHw u.old hN0 hN
  have HS:=hid hd.below
  go_wp2
  rw[hold]
  have hcell:(wo.alloc (.cells #[.int .i64 (old:Int),.slice none 0 0] 43)).heap[wo.heap.size]? = some (.cells #[.int .i64 (old:Int),.slice none 0 0] 43 (0,0)):=heap_alloc_new _ _
  have hba:Below wo.heap.size wo (wo.alloc (.cells #[.int .i64 (old:Int),.slice none 0 0] 43)):=(Below.refl _ _).alloc (Nat.le_refl _) _
  have hsa:wo.heap.size+1<=(wo.alloc (.cells #[.int .i64 (old:Int),.slice none 0 0] 43)).heap.size:=by simp
  go_loopw[8] (fun kv wi=>∃(j:Nat) (xs:List Int) (nv:Value),j<=u.new.length/\j<=4/\kv=.int .i64 j/\Below wo.heap.size wo wi/\wi.heap[wo.heap.size]? = some (.cells #[.int .i64 (old:Int),nv] 43 (0,0))/\
   wi.ownsRow (wo.heap.size+1) 3 1 nv xs.length (xs.map (.int .i64))/\xs.length<=j/\(∀x∈xs,(old:Int)<x/\x<N)/\wo.heap.size+1<=wi.heap.size) (fun kv _=>u.new.length-(intOf kv).toNat)
  case atStart=>exact ⟨0,[],_,Nat.zero_le _,by omega,rfl,hba,hcell,World.ownsRow_nil _ _ _ _,by simp,by simp,hsa⟩
  clear hcell hba hsa
  obtain ⟨j,xs,nv,hj,hj4,rfl,hbi,hci,hro,hxl,hxr,hsi⟩:=hrel
  have h0i:=(hbi.cell (p:=⟨b0,o0+k*2,none⟩) (Nat.lt_of_lt_of_le hbb HS.out.size)).trans h00
  have h1i:=(hbi.cell (p:=⟨b0,o0+k*2+1,none⟩) (Nat.lt_of_lt_of_le hbb HS.out.size)).trans h10
  have c0:wr.cell? ⟨wo.heap.size,0,none⟩=some (.int .i64 (old:Int)):=(cell_of_row _ _ _ _ _ _ hci).trans rfl
  have c1:wr.cell? ⟨wo.heap.size,1,none⟩=some nv:=(cell_of_row _ _ _ _ _ _ hci).trans rfl
  by_cases hgo2:j<u.new.length/\j<4
  ·obtain ⟨hlt2,hlt4⟩:=hgo2
   obtain ⟨b1,o1,y,eA,hb1,hy,g0⟩:=hrd.int_ hlt2
   have g0i:=(hbi.cell (p:=⟨b1,o1+j,none⟩) (Nat.lt_of_lt_of_le hb1 HS.out.size)).trans ((HS.out.cell (p:=⟨b1,o1+j,none⟩) hb1).trans g0)
   rw[eA] at h1i
   obtain ⟨vv,hvv,hvN⟩:=bHw y hN0 hN
   by_cases hgt:(old:Int)<vv
   ·obtain ⟨A5,c5,rfl,hc5⟩:=aAd hro
    have hnb:∀g,(Value.slice A5 xs.length c5).ownBlock=some g->wo.heap.size+1<=g:=fun g hg=>(hro.lt g hg).1
    have hro':=hro.alloc (.cells #[.int .i64 (vv:Int)] 3)
    have hbi':=hbi.alloc hbi.size (.cells #[.int .i64 (vv:Int)] 3)
    have hci':=(heap_alloc_old wr (.cells #[.int .i64 (vv:Int)] 3) (r:=wo.heap.size) (by omega)).trans hci
    have hne:some wo.heap.size≠(Value.slice A5 xs.length c5).ownBlock:=fun e=>by have:=hnb _ e.symm;omega
    go_wp2_with (at_builtin;refine aAn rfl (.tmp 67) (.tmp 69) 36 rfl E28 rfl rfl hro' (aEn wr (vv:Int)) (aBu _) (by unfold maxLen;omega) (by omega) (by simp;omega) ?_;intro v6 w6 ho6 hg6 hv6;obtain ⟨A6,c6,rfl,hc6⟩:=aAd ho6;have hci6:=(hg6.block wo.heap.size (by simp;omega) hne).trans hci';have c16:w6.cell? ⟨wo.heap.size,1,none⟩=some (.slice A5 xs.length c5):=(cell_of_row _ _ _ _ _ _ hci6).trans rfl;have fr6:w6.frozen? ⟨wo.heap.size,1,none⟩=false:=by simp[World.frozen?,hci6])
    go_roundw
    case rel=>
     have hb6:=hbi'.grown hg6 hbi'.size (fun g hg=>by have:=hnb g hg;omega)
     have hs6:=hg6.size
     simp at hs6
     refine ⟨j+1,xs++[(vv:Int)],.slice A6 (xs.length+1) c6,by omega,by omega,by go_num,hb6.setCell (Nat.le_refl _) _,mset hci6,?_,by simp;omega,fun x hx=>?_,?_⟩
     ·rw[List.length_append,List.map_append]
      refine ho6.kept (row:=some wo.heap.size) ⟨rfl,rfl,rfl,by simp,fun k _ hk=>heap_setCell_other _ _ k _ (fun e=>hk (by rw[e]))⟩ (.inr fun e=>by have:=(ho6.lt _ e).1;omega)
     ·rw[List.mem_append,List.mem_singleton] at hx
      rcases hx with hx | rfl
      ·exact hxr x hx
      exact ⟨hgt,by omega⟩
     simp;omega
    simp[intOf];omega
   go_wp2
   go_roundw
   case rel=>exact ⟨j+1,xs,nv,by omega,by omega,by go_num,hbi,hci,hro,by omega,hxr,hsi⟩
   simp[intOf];omega
  have hend:¬(j<u.new.length)\/¬(j<4):=by omega
  obtain ⟨A5,c5,rfl,hc5⟩:=aAd hro
  have hdi:=hd.to hbi
  have hRD:=hid hd.row
  clear hd
  have hdA:=hdi.to ((Below.refl wr.heap.size wr).alloc (Nat.le_refl _) (.cells #[.int .i64 (old:Int),.slice A5 xs.length c5] 43))
  have hov:∀g,Value.ownBlock u5=some g->g<wo.heap.size:=fun g hg=>(hRD.out.lt g hg).2
  have hap:=(show Apart u5 xs wr (.slice A5 xs.length c5) from ⟨A5,c5,rfl,Rd.of_own hro hc5,fun _ a ha e=>by have:=hov _ e.symm;have:=aPl hro a ha;omega⟩).to ((Below.refl wr.heap.size wr).alloc (Nat.le_refl _) (.cells #[.int .i64 (old:Int),.slice A5 xs.length c5] 43))
  go_wp2_with (at_builtin;refine aAn rfl (.tmp 72) (.tmp 74) 23 rfl E22 rfl rfl hdA.row (bHi wr ⟨old,A5,c5,xs⟩) (bBw ⟨old,A5,c5,xs⟩) (by unfold maxLen;omega) (by omega) hdA.below.size ?_;intro v7 w7 ho7 hg7 hv7)
  all_goals
   go_roundw
   case rel=>
    have hv7':=hv7.imp id fun e=>(⟨_,e,Nat.le_refl _⟩:∃k,v7.ownBlock=some k/\_<=k)
    refine ⟨k+1,ms'++[⟨old,A5,c5,xs⟩],by omega,by omega,by go_num,by simp;omega,hdA.below.grown hg7 hdA.below.size (fun g hg=>(hdA.row.lt g hg).1),?_,?_,fun m hm=>?_⟩
    ·rw[List.length_append,List.flatMap_append]
     simpa using ho7
    ·refine ⟨by simp;omega,fun m hm=>?_⟩
     rw[List.mem_append,List.mem_singleton] at hm
     rcases hm with hm | rfl
     ·exact hdi.play.all m hm
     exact ⟨by show (0:Int)<=(old:Int);omega,by show (old:Int)<N;omega,by show xs.length<=4;omega,hxr⟩
    rw[List.mem_append,List.mem_singleton] at hm
    rcases hm with hm | rfl
    ·exact (hdA.part m hm).grown hg7 hv7'
    exact hap.grown hg7 hv7'
   simp[intOf];omega
 go_wp2
 all_goals
  go_ret
  obtain ⟨A',c',rfl,hr⟩:=hd.rdm hN
  exact ⟨A',c',ms',rfl,hr,hd.play,hd.below⟩
section
variable {A:Option Addr} {c:Nat} {l:List Int} {w:World}
theorem aGa (hn:l.length<=1000000)(h:Rd w w.heap.size 1 A l.length c (l.map (.int .i64))) :
  Calls Tryz.prog 72 #[.slice A l.length c] w (BoolBelow (rightP l) w):=by
 generalize hL:l.length=n at *
 have HL:=hid hL;clear hL
 go_enter Tryz.func72,Tryz.ntmps72
 go_wp2
 go_loopw[7] (fun i wr=>∃k:Nat,k<=n/\i=.int .i64 k/\Below w.heap.size w wr/\Hid (∀(j:Nat) (p:Int),j<k->l[j]? = some p->-1<=p/\p<j)) (fun i _=>n-(intOf i).toNat)
 case atStart=>exact ⟨0,Nat.zero_le _,rfl,Below.refl _ _,fun j p hj=>absurd hj (Nat.not_lt_zero _)⟩
 obtain ⟨k,hk,rfl,hb,hj⟩:=hrel
 by_cases hlt:k<n
 ·obtain ⟨b0,o0,u,rfl,hbb,hx,h0⟩:=h.int_ hlt
  replace h0:=(hb.cell (p:=⟨b0,o0+k,none⟩) hbb).trans h0
  have HX:=hid hx;clear hx
  by_cases c1:u < -1
  ·go_wp2
   go_ret
   exact ⟨aAf (aIf HX.out (.inl c1)).symm,hb⟩
  by_cases c2:(k:Int)<=u
  ·go_wp2
   go_ret
   exact ⟨aAf (aIf HX.out (.inr c2)).symm,hb⟩
  go_wp2
  go_roundw
  case rel=>
   refine ⟨k+1,by omega,by go_num,hb,fun j p hj' hp=>?_⟩
   by_cases e:j=k
   ·subst e;rw[HX.out] at hp;cases hp;omega
   exact hj.out j p (by omega) hp
  simp[intOf];omega
 go_wp2
 go_ret
 refine ⟨aAf (aJp fun j p hp=>hj.out j p ?_ hp).symm,hb⟩
 have:=(List.getElem?_eq_some_iff.1 hp).1
 rw[HL.out] at this;omega
theorem aVn (hn:l.length<=1000000)(h:Rd w w.heap.size 1 A l.length c (l.map (.int .i64))) :
  Calls Tryz.prog 31 #[.slice A l.length c] w (BoolBelow (rightP l) w):=by
 generalize hL:l.length=n at *
 have HL:=hid hL;clear hL
 go_enter Tryz.func31,Tryz.ntmps31
 go_wp2
 go_loopw[3] (fun i wr=>∃k:Nat,k<=n/\i=.int .i64 k/\Below w.heap.size w wr/\Hid (∀(j:Nat) (p:Int),j<k->l[j]? = some p->-1<=p/\p<j)) (fun i _=>n-(intOf i).toNat)
 case atStart=>exact ⟨0,Nat.zero_le _,rfl,Below.refl _ _,fun j p hj=>absurd hj (Nat.not_lt_zero _)⟩
 obtain ⟨k,hk,rfl,hb,hj⟩:=hrel
 by_cases hlt:k<n
 ·obtain ⟨b0,o0,u,rfl,hbb,hx,h0⟩:=h.int_ hlt
  replace h0:=(hb.cell (p:=⟨b0,o0+k,none⟩) hbb).trans h0
  have HX:=hid hx;clear hx
  by_cases c1:u < -1
  ·go_wp2
   go_ret
   exact ⟨aAf (aIf HX.out (.inl c1)).symm,hb⟩
  by_cases c2:(k:Int)<=u
  ·go_wp2
   go_ret
   exact ⟨aAf (aIf HX.out (.inr c2)).symm,hb⟩
  go_wp2
  go_roundw
  case rel=>
   refine ⟨k+1,by omega,by go_num,hb,fun j p hj' hp=>?_⟩
   by_cases e:j=k
   ·subst e;rw[HX.out] at hp;cases hp;omega
   exact hj.out j p (by omega) hp
  simp[intOf];omega
 go_wp2
 go_ret
 refine ⟨aAf (aJp fun j p hp=>hj.out j p ?_ hp).symm,hb⟩
 have:=(List.getElem?_eq_some_iff.1 hp).1
 rw[HL.out] at this;omega
def isG (l:List Int)(i:Int):Bool:=decide (0<=i) && decide (i<l.length) && rightP l
theorem bEc {i:Int}(hn:l.length<=1000000)(h:Rd w w.heap.size 1 A l.length c (l.map (.int .i64))) :
  Calls Tryz.prog 109 #[.slice A l.length c,.int .i64 i] w (BoolBelow (isG l i) w):=by
 have C:=aGa hn h
 by_cases c1:0<=i
 ·by_cases c2:i<(l.length:Int)
  ·have e:isG l i=rightP l:=by unfold isG;simp[c1,c2]
   rw[e]
   generalize rightP l=b at *
   clear e
   go_enter Tryz.func109,Tryz.ntmps109
   go_wp2_with (go_at_call 72;refine C.mono ?_;rintro e w1 ⟨rfl,hb1⟩)
   go_ret
   exact ⟨rfl,hb1⟩
  have e:isG l i=false:=by unfold isG;simp[c2]
  go_enter Tryz.func109,Tryz.ntmps109
  go_wp2
  go_ret
  exact ⟨by first | rfl | exact aAf e.symm,Below.refl _ _⟩
 have e:isG l i=false:=by unfold isG;simp[c1]
 go_enter Tryz.func109,Tryz.ntmps109
 go_wp2
 go_ret
 exact ⟨by first | rfl | exact aAf e.symm,Below.refl _ _⟩
theorem aQk {l:List Int}{i:Int}:isG l i=true↔0<=i/\i<l.length/\rightP l=true:=by
 unfold isG;simp[and_assoc]
theorem bAc {a b:Int}(hn:l.length<=1000000)(h:Rd w w.heap.size 1 A l.length c (l.map (.int .i64))) :
  Calls Tryz.prog 79 #[.slice A l.length c,.int .i64 a,.int .i64 b] w (BoolBelow (above l a b) w):=by
 have C1:=bEc (i:=a) hn h
 cases ha:isG l a with
 | false=>
  rw[ha] at C1
  have e:above l a b=false:=aRb fun hh=>by rw[aQk.2 ⟨hh.2.1,hh.2.2.1,hh.1⟩] at ha;cases ha
  go_enter Tryz.func79,Tryz.ntmps79
  go_wp2_with fail
  refine C1.mono ?_
  rintro e w1 ⟨rfl,hb1⟩
  go_wp2
  go_ret
  exact ⟨aAf (by assumption:above l a b=false).symm,hb1⟩
 | true=>
  rw[ha] at C1
  cases hb:isG l b with
  | false=>
   have e:above l a b=false:=aRb fun hh=>by rw[aQk.2 ⟨hh.2.2.2.1,hh.2.2.2.2,hh.1⟩] at hb;cases hb
   go_enter Tryz.func79,Tryz.ntmps79
   go_wp2_with fail
   refine C1.mono ?_
   rintro e w1 ⟨rfl,hb1⟩
   have C2:=bEc (i:=b) hn (h.to hb1 hb1.size)
   rw[hb] at C2
   go_wp2_with fail
   refine C2.mono ?_
   rintro e w2 ⟨rfl,hb2⟩
   go_wp2
   go_ret
   exact ⟨aAf (by assumption:above l a b=false).symm,hb1.trans (hb2.mono hb1.size)⟩
  | true=>
   obtain ⟨ha0,ha1,hr⟩:=aQk.1 ha
   obtain ⟨hb0,hb1',_⟩:=aQk.1 hb
   have HR:=hid hr
   go_enter Tryz.func79,Tryz.ntmps79
   go_wp2_with fail
   refine C1.mono ?_
   rintro e w1 ⟨rfl,hb1⟩
   have C2:=bEc (i:=b) hn (h.to hb1 hb1.size)
   rw[hb] at C2
   go_wp2_with fail
   refine C2.mono ?_
   rintro e w2 ⟨rfl,hb2⟩
   have hbw:=hb1.trans (hb2.mono hb1.size)
   clear C1 C2 hb2 hb1 ha hb
   generalize hL:l.length=n at *
   have HL:=hid hL;clear hL
   go_wp2
   go_loopw[2] (fun bv wr=>∃b':Int,bv=.int .i64 b'/\-1<=b'/\b'<n/\Below w.heap.size w wr/\Hid (above l a b=above l a b')) (fun bv _=>(intOf bv+1).toNat)
   case atStart=>exact ⟨b,rfl,by omega,hb1',hbw,rfl⟩
   obtain ⟨b',rfl,hm,hlt,hb,hj⟩:=hrel
   by_cases hgt:a<b'
   ·obtain ⟨b0,o0,u,rfl,hbb,hx,h0⟩:=h.int_ (k:=b'.toNat) (by omega)
    replace h0:=(hb.cell (p:=⟨b0,o0+b'.toNat,none⟩) hbb).trans h0
    have hup:=aXi HR.out ha0 hgt (by rw[HL.out];exact hlt)
    have hpar:=aGq hx
    rw[Int.toNat_of_nonneg (by omega)] at hpar
    have hp:=aBh HR.out (i:=b') (by omega) (by rw[HL.out];exact hlt)
    rw[hpar] at hp hup
    have HU:=hid hup
    clear hx hpar hup
    go_wp2
    go_roundw
    case rel=>exact ⟨u,rfl,by omega,by omega,hb,hj.out.trans HU.out⟩
    simp[intOf];omega
   have he:=aSo HR.out ha0 (by omega:b'<=a) (by rw[HL.out];exact hlt)
   have e:above l a b=decide (a=b'):=hj.out.trans he
   have HE:=hid e
   clear he e
   cases hd:decide (a=b')
   ·have hne:¬a=b':=of_decide_eq_false hd
    have HN:=hid hd
    clear hd
    go_wp2
    go_ret
    exact ⟨aAf (by rw[HE.out,HN.out];exact (aFf hne).1),hb⟩
   have hee:a=b':=of_decide_eq_true hd
   clear hd
   subst hee
   go_wp2
   go_ret
   exact ⟨aAf (by rw[HE.out];simp),hb⟩
theorem aRw {i:Int}(hn:l.length<=1000000)(h:Rd w w.heap.size 1 A l.length c (l.map (.int .i64))) :
  Calls Tryz.prog 40 #[.slice A l.length c,.int .i64 i] w (Ints (·=chain l i) w):=by
 have C1:=aVn hn h
 cases hr:rightP l with
 | false=>
  rw[hr] at C1
  have e:chain l i=[]:=aSb (.inl hr)
  rw[e]
  go_enter Tryz.func40,Tryz.ntmps40
  go_wp2_with fail
  refine C1.mono ?_
  rintro e w1 ⟨rfl,hb1⟩
  go_wp2
  go_ret
  exact ⟨none,0,[],rfl,Rd.none_ _ _ _,hb1,rfl⟩
 | true=>
  rw[hr] at C1
  by_cases hi:i<(l.length:Int)
  ·have HR:=hid hr
   have hcl:=aMh (l:=l) (b:=i)
   clear hr
   generalize hL:l.length=n at *
   have HL:=hid hL;clear hL
   go_enter Tryz.func40,Tryz.ntmps40
   go_wp2_with fail
   refine C1.mono ?_
   rintro e w1 ⟨rfl,hb1⟩
   go_wp2
   go_loopw[1,5] (fun iv ov wr=>∃(i':Int) (out:List Int),iv=.int .i64 i'/\i'<n/\-1<=max i' (-1)/\Below w.heap.size w wr/\wr.ownsRow w.heap.size 3 1 ov out.length (out.map (.int .i64))/\Hid (chain l i=out++chain l i')) (fun iv _ _=>(intOf iv+1).toNat)
   case atStart=>exact ⟨i,[],rfl,hi,by omega,hb1,World.ownsRow_nil _ _ _ _,rfl⟩
   obtain ⟨i',out,rfl,hlt,_,hb,ho,hj⟩:=hrel
   by_cases hneg:0<=i'
   ·obtain ⟨b0,o0,u,rfl,hbb,hx,g0⟩:=h.int_ (k:=i'.toNat) (by omega)
    have hcc:=aDc HR.out hneg (by rw[HL.out];exact hlt)
    have hpar:=aGq hx
    rw[Int.toNat_of_nonneg (by omega)] at hpar
    have hp:=aBh HR.out (i:=i') (by omega) (by rw[HL.out];exact hlt)
    rw[hpar] at hp hcc
    have HC:=hid hcc
    have hol:out.length<=n:=by
     have:=congrArg List.length hj.out
     rw[List.length_append] at this;omega
    have ho':=ho.alloc (.cells #[.int .i64 i'] 3)
    have hb':=hb.alloc hb.size (.cells #[.int .i64 i'] 3)
    clear hx hpar hcc
    go_wp2_with (at_builtin;refine aAn rfl (.tmp 17) (.tmp 19) 36 rfl E28 rfl rfl ho' (aEn wr i') (aBu _) (by unfold maxLen;omega) (by omega) hb'.size ?_;intro v7 w7 ho7 hg7 hv7;have hb7:=hb'.grown hg7 hb'.size (fun g hg=>(ho'.lt g hg).1);have h07:=(hb7.cell (p:=⟨b0,o0+i'.toNat,none⟩) hbb).trans g0)
    go_roundw
    case rel=>
     refine ⟨u,out++[i'],rfl,by omega,by omega,hb7,?_,?_⟩
     ·rw[List.length_append,List.map_append];exact ho7
     rw[hj.out,HC.out]
     show Hid _
     exact (by simp:out++i'::chain l u=out++[i']++chain l u)
    simp[intOf];omega
   have e:chain l i=out:=by rw[hj.out,aLt (by omega),List.append_nil]
   have HE:=hid e
   clear e
   obtain ⟨A5,c5,rfl,hc5⟩:=aAd ho
   go_wp2
   go_ret
   exact ⟨A5,c5,out,rfl,Rd.of_own ho hc5,hb,HE.out.symm⟩
  have e:chain l i=[]:=aSb (.inr (by omega))
  rw[e]
  go_enter Tryz.func40,Tryz.ntmps40
  go_wp2_with fail
  refine C1.mono ?_
  rintro e w1 ⟨rfl,hb1⟩
  go_wp2
  go_ret
  exact ⟨none,0,[],rfl,Rd.none_ _ _ _,hb1,rfl⟩
theorem aZq {a b:Int}(hn:l.length<=1000000)(h:Rd w w.heap.size 1 A l.length c (l.map (.int .i64))) :
  Calls Tryz.prog 67 #[.slice A l.length c,.int .i64 a,.int .i64 b] w (BoolBelow (above l a b) w):=by
 have hcl:=aMh (l:=l) (b:=b)
 go_enter Tryz.func67,Tryz.ntmps67
 go_wp2_with fail
 refine (aRw (i:=b) hn h).mono ?_
 rintro e w1 ⟨A1,c1,l1,rfl,hr1,hb1,rfl⟩
 have C:=bIx (x:=a) (by unfold maxLen;omega) hr1
 go_wp2_with fail
 refine C.mono ?_
 rintro e w2 ⟨rfl,hb2⟩
 go_wp2
 go_ret
 exact ⟨rfl,hb1.trans (hb2.mono hb1.size)⟩
def underTo (l:List Int)(s:Int)(k:Nat):List Int:=((List.range k).map Int.ofNat).filter fun i=>above l s i
theorem aRt (l:List Int)(s:Int)(k:Nat):underTo l s (k+1)=underTo l s k++if above l s k=true then [(k:Int)] else []:=by
 unfold underTo
 rw[List.range_succ,List.map_append,List.filter_append]
 congr 1
 cases h:above l s k with
 | false=>simp[h]
 | true=>simp[h]
theorem aMr (l:List Int)(s:Int)(k:Nat):(underTo l s k).length<=k:=by
 unfold underTo;refine Nat.le_trans (List.length_filter_le _ _) (by simp)
theorem bDw {i:Int}(hn:l.length<=1000000)(h:Rd w w.heap.size 1 A l.length c (l.map (.int .i64))) :
  Calls Tryz.prog 39 #[.slice A l.length c,.int .i64 i] w (Ints (·=underTo l i l.length) w):=by
 go_enter Tryz.func39,Tryz.ntmps39
 go_wp2
 go_loopw[5,6] (fun ov kv wr=>∃k:Nat,k<=l.length/\kv=.int .i64 k/\Below w.heap.size w wr/\wr.ownsRow w.heap.size 3 1 ov (underTo l i k).length ((underTo l i k).map (.int .i64))) (fun _ kv _=>l.length-(intOf kv).toNat)
 case atStart=>exact ⟨0,Nat.zero_le _,rfl,Below.refl _ _,World.ownsRow_nil _ _ _ _⟩
 obtain ⟨k,hk,rfl,hb,ho⟩:=hrel
 by_cases hlt:k<l.length
 ·have C:=aZq (a:=i) (b:=(k:Int)) hn (h.to hb hb.size)
  have hul:=aMr l i k
  have hsu:=aRt l i k
  cases hab:above l i k with
  | false=>
   rw[hab] at C
   rw[hab] at hsu
   simp only[Bool.false_eq_true,if_false,List.append_nil] at hsu
   have HS:=hid hsu
   clear hsu
   go_wp2_with (go_at_call 67;refine C.mono ?_;rintro e w1 ⟨rfl,hb1⟩)
   go_roundw
   case rel=>
    refine ⟨k+1,by omega,by go_num,hb.trans (hb1.mono hb.size),?_⟩
    rw[HS.out];exact ho.kept (aAp hb1 (Nat.le_refl _)) (by cases (Value.ownBlock u5)<;>simp)
   simp[intOf];omega
  | true=>
   rw[hab] at C
   rw[hab] at hsu
   simp only[if_true] at hsu
   have HS:=hid hsu
   clear hsu
   go_wp2_with (first
    | (go_at_call 67;refine C.mono ?_;rintro e w1 ⟨rfl,hb1⟩;have hbw:=(hb.trans (hb1.mono hb.size)).alloc (hb.trans (hb1.mono hb.size)).size (.cells #[.int .i64 (k:Int)] 3);have ho1:=(ho.kept (aAp hb1 (Nat.le_refl _)) (by cases (Value.ownBlock u5)<;>simp)).alloc (.cells #[.int .i64 (k:Int)] 3))
    | (at_builtin;refine aAn rfl (.tmp 17) (.tmp 19) 36 rfl E28 rfl rfl ho1 (aEn w1 (k:Int)) (aBu _) (by unfold maxLen;omega) (by omega) hbw.size ?_;intro v7 w7 ho7 hg7 hv7))
   go_roundw
   case rel=>
    refine ⟨k+1,by omega,by go_num,hbw.grown hg7 hbw.size (fun g hg=>(ho1.lt g hg).1),?_⟩
    rw[HS.out,List.length_append,List.map_append];exact ho7
   simp[intOf];omega
 have hkn:k=l.length:=by omega
 subst hkn
 obtain ⟨A5,c5,rfl,hc5⟩:=aAd ho
 go_wp2
 go_ret
 exact ⟨A5,c5,_,rfl,Rd.of_own ho hc5,hb,rfl⟩
end
def wordsN (n:Nat):Nat:=(n+63) / 64
def wordF (W j:Nat):Nat:=W >>> (64*j) % 2 ^ 64
def wordsF (W k:Nat):List Value:=(List.range k).map fun j=>.int .u64 ((wordF W j:Nat):Int)
def SetW (w:World)(base:Nat)(v:Value)(n W:Nat):Prop:=
 True/\w.ownsRow base 166 1 v (wordsN n) (wordsF W (wordsN n))
theorem bJs {i:Nat}(hi:i<64):2 ^ i<18446744073709551616:=Nat.pow_lt_pow_right (a:=2) (m:=i) (n:=64) (by omega) hi
theorem aPi (W j:Nat):wordF W j<18446744073709551616:=Nat.mod_lt _ (by decide)
theorem aXm {W q r i:Nat}(hr:r<64)(hi:i=64*q+r):(wordF W q).testBit r=W.testBit i:=by
 rw[wordF,Nat.testBit_mod_two_pow,Nat.testBit_shiftRight,decide_eq_true hr,Bool.true_and,hi]
theorem bIl {W q r i j:Nat}(hr:r<64)(hi:i=64*q+r):wordF (W ||| 2 ^ i) j=wordF W j ||| if q=j then 2 ^ r else 0:=by
 apply Nat.eq_of_testBit_eq
 intro b
 rw[wordF,wordF,Nat.testBit_or,Nat.testBit_mod_two_pow,Nat.testBit_mod_two_pow,Nat.testBit_shiftRight,Nat.testBit_shiftRight,Nat.testBit_or,Nat.testBit_two_pow]
 by_cases hb:b<64
 ·rw[decide_eq_true hb,Bool.true_and,Bool.true_and]
  congr 1
  by_cases e:q=j
  ·rw[if_pos e,Nat.testBit_two_pow]
   by_cases e2:r=b
   ·rw[decide_eq_true e2,decide_eq_true (by omega)]
   rw[decide_eq_false e2,decide_eq_false (by omega)]
  rw[if_neg e,Nat.zero_testBit,decide_eq_false (by omega)]
 rw[decide_eq_false hb,Bool.false_and,Bool.false_and,Bool.false_or]
 split
 ·rw[Nat.testBit_two_pow,decide_eq_false (by omega)]
 rw[Nat.zero_testBit]
theorem aEv {W k q:Nat}(h:q<k):(wordsF W k)[q]? = some (.int .u64 ((wordF W q:Nat):Int)):=by
 rw[wordsF,List.getElem?_map,List.getElem?_range h];rfl
theorem aWp {W q r i k:Nat}(hr:r<64)(hi:i=64*q+r):(wordsF W k).set q (.int .u64 ((wordF W q ||| 2 ^ r:Nat):Int))=wordsF (W ||| 2 ^ i) k:=by
 apply List.ext_getElem?
 intro j
 rw[List.getElem?_set]
 by_cases hj:j<k
 ·rw[aEv hj,aEv hj,bIl hr hi]
  by_cases e:q=j
  ·subst e
   rw[if_pos rfl,if_pos rfl,if_pos (by simpa[wordsF] using hj)]
  rw[if_neg e,if_neg e,Nat.or_zero]
 have h1:(wordsF W k)[j]? = none:=List.getElem?_eq_none (by simpa[wordsF] using hj)
 have h2:(wordsF (W ||| 2 ^ i) k)[j]? = none:=List.getElem?_eq_none (by simpa[wordsF] using hj)
 rw[h1,h2]
 split
 ·rename_i e
  rw[if_neg (by subst e;simpa[wordsF] using hj)]
 rfl
theorem aNp (k:Nat):wordsF 0 k=List.replicate k (.int .u64 0):=by
 apply List.ext_getElem?
 intro j
 rw[List.getElem?_replicate]
 by_cases hj:j<k
 ·rw[aEv hj,if_pos hj,wordF,Nat.zero_shiftRight,Nat.zero_mod];rfl
 rw[if_neg hj,List.getElem?_eq_none (by simpa[wordsF] using hj)]
theorem split64 {i n:Nat}(hi:i<n)(hn:n<=1000000):∃q r:Nat,((i:Int)).tdiv 64=(q:Int)/\((i:Int)).tmod 64=(r:Int)/\r<64/\q<wordsN n/\q<=1000000/\Hid (i=64*q+r):=by
 refine ⟨i / 64,i % 64,?_,?_,Nat.mod_lt _ (by decide),?_,by omega,hid ?_⟩
 ·rw[Int.tdiv_eq_ediv_of_nonneg (by omega)];omega
 ·rw[Int.tmod_eq_emod_of_nonneg (by omega)];omega
 ·unfold wordsN;omega
 omega
theorem SetW.kept {w w':World}{base n W:Nat}{v:Value}{row:Option Nat}(h:SetW w base v n W)(hg:w.grownBy w' row)(hne:v.ownBlock=none\/v.ownBlock≠row):SetW w' base v n W:=⟨trivial,h.2.kept hg hne⟩
theorem SetW.below {w w':World}{base n W:Nat}{v:Value}(h:SetW w base v n W)(hb:Below w.heap.size w w'):SetW w' base v n W:=
 h.kept (aAp hb (Nat.le_refl _)) (by cases v.ownBlock<;>simp)
theorem bJj (n:Nat):((n:Int)+64-1).tdiv 64=((wordsN n:Nat):Int):=by
 rw[Int.tdiv_eq_ediv_of_nonneg (by omega)]
 unfold wordsN
 omega
theorem aWo {i:Nat}(hi:i<=1000000):IntKind.u64.wrap (i:Int)=i:=by rw[IntKind.wrap_u64];omega
theorem aMm {W i:Nat}(hW:W<18446744073709551616)(hi:i<64):bits .or .u64 (W:Int) (IntKind.u64.wrap (2 ^ i))=((W ||| 2 ^ i:Nat):Int):=by
 have hp:=bJs hi
 have e:IntKind.u64.wrap ((2:Int) ^ i)=((2 ^ i:Nat):Int):=by
  have e2:((2:Int) ^ i)=((2 ^ i:Nat):Int):=by rw[Int.natCast_pow];rfl
  rw[e2,IntKind.wrap_u64]
  generalize 2 ^ i=q at hp ⊢
  omega
 rw[e,bits_or_u64_nat _ _ hW hp]
theorem aKh {W i:Nat}(hW:W<18446744073709551616):(bits .and .u64 ((W:Int) / 2 ^ i) 1 == 1)=W.testBit i:=by
 have e:(W:Int) / 2 ^ i=((W / 2 ^ i:Nat):Int):=by
  rw[Int.natCast_ediv,Int.natCast_pow];rfl
 have hlt:W / 2 ^ i<18446744073709551616:=Nat.lt_of_le_of_lt (Nat.div_le_self _ _) hW
 rw[e,show (1:Int)=((1:Nat):Int) from rfl,bits_and_u64_nat _ _ hlt (by decide),Nat.testBit_eq_decide_div_mod_eq,Nat.and_one_is_mod]
 generalize W / 2 ^ i % 2=m
 by_cases h:m=1
 ·subst h;rfl
 rw[decide_eq_false h]
 have:¬(m:Int)=1:=by omega
 exact (aFf this).1
theorem aPx {P:Program}{w:World}{a:Act}{ops:Array Oper}{rest:List Oper}{o:Oper}{Q:Exit->Act->World->Prop}(hgd:o.guard=none)(l c:Operand)(t:TypeId)
  (ho:o.op=.makeSlice t l c) {e:TypeId} {bytes:Nat} {z:Value} (E:Elem P t e 1 bytes) (hz:∀i,P.info? e=some i->i.zero=some z) (h1:z.cells=#[z]) (base n:Nat)
  {L:Int} (hl:a.eval l=.int .i64 L) (hc:a.eval c=.int .i64 L) (hC:L=(n:Int)) (hb:bytes*n<=281474976710656) (h63:n<=maxLen) (hbase:base<=w.heap.size)
  (hK:∀w',w'.ownsRow base e 1 (.slice (some ⟨w.heap.size,0,none⟩) n n) n (List.replicate n z)->w.grownBy w' none->wpList P ops Q rest (a.put o.dst (.slice (some ⟨w.heap.size,0,none⟩) n n)) w') :
  wpList P ops Q (o::rest) a w:=by
 obtain ⟨i,z',hi,hz',hsz,hby,hzs⟩:=E.row
 have hzz:=hz i hi
 refine wpList_make_full w hgd l c t ho base e i z 1 E.und hi hzz hsz .i64 .i64 L L n hl hc hC hC (by rw[hby];exact hb) h63 hbase ?_
 intro w' ho' hg'
 rw[Nat.mul_one,h1,toList_madeCells_one] at ho'
 exact hK w' ho' hg'
theorem E77:Elem Tryz.prog 167 166 1 8:=aBt (by kernel_rfl)
theorem E66:Elem Tryz.prog 147 166 1 8:=aBt (by kernel_rfl)
theorem E70:Elem Tryz.prog 128 4 1 1:=aBt (by kernel_rfl)
theorem aMe {P:Program}{e:TypeId}{z:Value}{w:World}(h:(zeroValue e).run P w=.ok z w):∀i,P.info? e=some i->i.zero=some z:=by
 intro i hi
 cases hz:i.zero with
 | none=>simp[zeroValue,typeInfo,hi,hz,unsupported] at h
 | some v=>
  have:(zeroValue e).run P w=.ok v w:=by simp[zeroValue,typeInfo,hi,hz]
  rw[this] at h
  injection h with h
  rw[h]
theorem zero76:∀i,Tryz.prog.info? 166=some i->i.zero=some (.int .u64 0):=aMe (Tryz.zeroValue166 default)
theorem zero4:∀i,Tryz.prog.info? 4=some i->i.zero=some (.bool false):=aMe (Tryz.zeroValue4 default)
theorem aNx {n:Nat}{w:World}(hn:n<=1000000):Calls Tryz.prog 141 #[.int .i64 n] w fun e w'=>∃v,e=.returned v/\SetW w' w.heap.size v n 0/\Below w.heap.size w w':=by
 have hq:=bJj n
 have hk1:wordsN n<=1000000:=by unfold wordsN;omega
 generalize hk:wordsN n=k at *
 have HK:=hid hk
 clear hk
 go_enter Tryz.func141,Tryz.ntmps141
 go_wp2_with (refine aPx rfl (.tmp 6) (.tmp 6) 167 rfl E77 zero76 rfl w.heap.size k (L:=(k:Int)) rfl rfl rfl (by omega) (by unfold maxLen;omega) (Nat.le_refl _) ?_;intro w1 ho1 hg1)
 go_ret
 refine ⟨_,rfl,⟨trivial,?_⟩,aMq hg1⟩
 rw[HK.out,aNp]
 exact ho1
theorem aXs {n i W base:Nat}{v:Value}{w:World}(hn:n<=1000000)(hi:i<n)(h:SetW w base v n W) :
  Calls Tryz.prog 142 #[v,.int .i64 i] w fun e w'=>e=.returned (.tuple #[])/\SetW w' base v n (W ||| 2 ^ i)/\w.grownBy w' v.ownBlock:=by
 have ho:=h.2
 obtain ⟨q,r,q1,q3,hr,hqk,hqm,HI⟩:=split64 hi hn
 have q2:=aWo (i:=i) (by omega)
 have HG:=hid (show ∀w',w'.ownsRow base 166 1 v (wordsN n) (wordsF (W ||| 2 ^ i) (wordsN n))->SetW w' base v n (W ||| 2 ^ i) from fun w' h=>⟨trivial,h⟩)
 generalize wordsN n=k at *
 obtain ⟨g,cap,rfl,hgb,hgl⟩:=ho.form (by omega)
 have c0:w.cell? ⟨g,q,none⟩=some (.int .u64 ((wordF W q:Nat):Int)):=(ho.cellAt q (by omega)).trans (aEv hqk)
 have fr:=ho.frozenAt q
 have hs:=ho.stored q (.int .u64 ((wordF W q ||| 2 ^ r:Nat):Int))
 have HS:=hid hs
 have HWL:=hid (aPi W q)
 clear h hs ho
 go_enter Tryz.func142,Tryz.ntmps142
 go_wp2
 rw[aMm HWL.out hr]
 go_end0
 refine ⟨rfl,HG.out _ ?_,⟨rfl,rfl,rfl,by simp,fun k _ hk=>heap_setCell_other _ _ k _ (fun e=>hk (by rw[e];rfl))⟩⟩
 rw[<-aWp hr HI.out]
 exact HS.out.1
theorem aRl {n i W base:Nat}{v:Value}{w:World}(hn:n<=1000000)(hi:i<n)(h:SetW w base v n W) :
  Calls Tryz.prog 143 #[v,.int .i64 i] w (BoolBelow (W.testBit i) w):=by
 have ho:=h.2
 obtain ⟨q,r,q1,q3,hr,hqk,hqm,HI⟩:=split64 hi hn
 have q2:=aWo (i:=i) (by omega)
 generalize wordsN n=k at *
 obtain ⟨g,cap,rfl,hgb,hgl⟩:=ho.form (by omega)
 have c0:w.cell? ⟨g,q,none⟩=some (.int .u64 ((wordF W q:Nat):Int)):=(ho.cellAt q (by omega)).trans (aEv hqk)
 have HWL:=hid (aPi W q)
 clear h ho
 go_enter Tryz.func143,Tryz.ntmps143
 go_wp2
 rw[aKh HWL.out,aXm hr HI.out]
 go_ret
 exact ⟨rfl,Below.refl _ _⟩
theorem bEs {n i W base:Nat}{v:Value}{w:World}(hn:n<=1000000)(hi:i<n)(h:SetW w base v n W) :
  Calls Tryz.prog 98 #[v,.int .i64 i] w (BoolBelow (W.testBit i) w):=by
 have ho:=h.2
 obtain ⟨q,r,q1,q3,hr,hqk,hqm,HI⟩:=split64 hi hn
 have q2:=aWo (i:=i) (by omega)
 generalize wordsN n=k at *
 obtain ⟨g,cap,rfl,hgb,hgl⟩:=ho.form (by omega)
 have c0:w.cell? ⟨g,q,none⟩=some (.int .u64 ((wordF W q:Nat):Int)):=(ho.cellAt q (by omega)).trans (aEv hqk)
 have HWL:=hid (aPi W q)
 clear h ho
 go_enter Tryz.func98,Tryz.ntmps98
 go_wp2
 rw[aKh HWL.out,aXm hr HI.out]
 go_ret
 exact ⟨rfl,Below.refl _ _⟩
end Go.Proofs.YtohblmepajhpaaaGreatDoor
