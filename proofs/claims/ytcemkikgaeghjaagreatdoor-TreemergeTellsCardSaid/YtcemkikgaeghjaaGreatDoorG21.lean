/- Texts of the walks, together: The search for pairs in memory; walk: similar's take. Walk: similar's take. Walk: similar's same. Walk: similar's same. -/
import Derived.Test.YtcemkikgaeghjaaGreatDoorG20
set_option maxHeartbeats 8000000
set_option maxRecDepth 100000
open Go.Lib (hid)
namespace Go.Proofs.YtcemkikgaeghjaaGreatDoor
open Go.RowKit
theorem wideQ2:(match Tryz.prog.underlying 128 with | some (.array _ _) | some (.struct _)=>true | _=>false)=true:=by kernel_rfl
theorem KQ2:Maps.Keyed Tryz.prog 128:=Maps.Keyed.of_law (deep_law_laid T.laidOut (m:=2) (by omega) (of_decide_eq_true (by kernel_rfl)) (by kernel_rfl) wideQ2)
theorem aXu:Tryz.prog.keyType 128=true:=by kernel_rfl
theorem cellsQ2:Tryz.prog.cellsOf 128=2:=by kernel_rfl
theorem keyQ2 {x y:Nat}(hx:x<=1000000000)(hy:y<=1000000000):keyOf Tryz.prog 128 (.agg #[.int .i64 (x:Int),.int .i64 (y:Int)])=some (kl2 x y):=
 bDf Tryz.underlying128 rfl rfl rfl rfl rfl rfl cellsQ2 aTc Tryz.underlying3 aXu T.types_pos hx hy
theorem bFz {x y x' y':Nat}(hx:x<=1000000000)(hy:y<=1000000000) (hx':x'<=1000000000) (hy':y'<=1000000000)(h:¬(x=x'/\y=y')):kl2 x y≠kl2 x' y':=fun e=>by
 have h1:=keyQ2 hx hy
 rw[e] at h1
 have:=KQ2.inj h1 (keyQ2 hx' hy')
 simp at this
 exact h ⟨by omega,by omega⟩
structure MpQ (w:World) (b n:Nat) (D:DataW Value) (G:Nat->Nat->Option Nat):Prop where
 own:w.ownsMap Tryz.prog 128 Rv b n D
 at_:∀x y:Nat,x<=1000000000->y<=1000000000->D.atKey (kl2 x y) (.held (.int .i64 0))=.held (.int .i64 (((G x y).getD 0:Nat):Int))
 has:∀x y:Nat,x<=1000000000->y<=1000000000->Maps.has D (kl2 x y)=(G x y).isSome
theorem MpQ.start (w:World):MpQ (w.alloc (.map #[] 0)) w.heap.size 0 (.map []) (fun _ _=>none):=
 ⟨World.ownsMap_made _ _ _ _,fun _x _y _ _=>rfl,fun _x _y _ _=>rfl⟩
theorem MpQ.put {w w':World}{b n:Nat}{D:DataW Value} {G G':Nat->Nat->Option Nat}{p q j:Nat}(h:MpQ w b n D G)(hp:p<=1000000000)(hq:q<=1000000000)
  (hown:w'.ownsMap Tryz.prog 128 Rv b (n+1) (D.put (kl2 p q) (.held (.int .i64 (j:Int))))) (hG:∀x y,G' x y=if x=p/\y=q then some j else G x y) :
  MpQ w' b (n+1) (D.put (kl2 p q) (.held (.int .i64 (j:Int)))) G':=by
 refine ⟨hown,fun x y hx hy=>?_,fun x y hx hy=>?_⟩
 ·by_cases e:x=p/\y=q
  ·obtain ⟨rfl,rfl⟩:=e
   rw[Maps.atKey_put_same h.own.isMap (KQ2.key (keyQ2 hp hq)),hG,if_pos ⟨rfl,rfl⟩];rfl
  rw[Maps.atKey_put_other (bFz hx hy hp hq e),h.at_ x y hx hy,hG,if_neg e]
 by_cases e:x=p/\y=q
 ·obtain ⟨rfl,rfl⟩:=e
  rw[Maps.has_put_same h.own.isMap (KQ2.key (keyQ2 hp hq)),hG,if_pos ⟨rfl,rfl⟩];rfl
 rw[Maps.has_put_other (bFz hx hy hp hq e),h.has x y hx hy,hG,if_neg e]
theorem MpQ.kept {w w':World}{b n:Nat}{D:DataW Value}{G:Nat->Nat->Option Nat}{row:Option Nat}(h:MpQ w b n D G)(hg:w.grownBy w' row)(hne:some b≠row):MpQ w' b n D G:=
 ⟨h.own.kept hg hne,h.at_,h.has⟩
theorem MpQ.below {w w':World}{b n:Nat}{D:DataW Value}{G:Nat->Nat->Option Nat}(h:MpQ w b n D G)(hb:Below w.heap.size w w'):MpQ w' b n D G:=
 h.kept (row:=none) ⟨hb.os,hb.tape,hb.output,hb.size,fun k hk _=>hb.block k hk⟩ (by simp)
def pairC (p:Nat×Nat):List Value:=[.int .i64 (p.1:Int),.int .i64 (p.2:Int)]
def pairsV (l:List (Nat×Nat)):List Value:=l.flatMap pairC
theorem bDi:Elem Tryz.prog 123 128 2 16:=aCw (by kernel_rfl)
theorem bAu (l:List (Nat×Nat)):∀u∈pairsV l,u.oneCell'=true:=by
 intro u hu
 obtain ⟨f,_,hf⟩:=List.mem_flatMap.1 hu
 simp only[pairC,List.mem_cons,List.mem_nil_iff,or_false] at hf
 rcases hf with rfl | rfl<;>rfl
theorem bHa (w:World)(g i j:Nat)(hg:g=w.heap.size):Rd (w.alloc (.cells #[.int .i64 (i:Int),.int .i64 (j:Int)] 128)) (w.alloc (.cells #[.int .i64 (i:Int),.int .i64 (j:Int)] 128)).heap.size 2 (some ⟨g,0,none⟩) 1 1 (pairsV [(i,j)]):=by
 subst hg
 exact ⟨rfl,Nat.le_refl _,fun _=>⟨_,0,rfl,by simp,fun k u hu=>by
  rw[Nat.zero_add,World.cell?,heap_alloc_new]
  simpa[pairsV,pairC] using hu⟩⟩
theorem bCf {pb i x:Nat}{u:World}(h:u.cell? ⟨pb,0,none⟩=some (.int .i64 (i:Int))) :
  Calls Tryz.prog 152 #[.int .i64 (x:Int),.pointer (some ⟨pb,0,none⟩)] u fun e w'=>e=.returned (.bool (decide (x=i)))/\Below u.heap.size u w':=by
 go_enter Tryz.func152,Tryz.ntmps152
 by_cases hx:x=i
 ·subst hx
  go_wp2
  go_ret
  exact ⟨by simp,Below.refl _ _⟩
 have e1:((x:Int) == (i:Int))=false:=beq_eq_false_iff_ne.2 (by omega)
 have HX:=hid (decide_eq_false hx)
 go_wp2
 go_ret
 exact ⟨by rw[HX.out];first | rfl | (simp;omega),Below.refl _ _⟩
theorem bCl {pb i x:Nat}{u:World}(h:u.cell? ⟨pb,1,none⟩=some (.int .i64 (i:Int))) :
  Calls Tryz.prog 153 #[.int .i64 (x:Int),.pointer (some ⟨pb,0,none⟩)] u fun e w'=>e=.returned (.bool (decide (x=i)))/\Below u.heap.size u w':=by
 go_enter Tryz.func153,Tryz.ntmps153
 by_cases hx:x=i
 ·subst hx
  go_wp2
  go_ret
  exact ⟨by simp,Below.refl _ _⟩
 have e1:((x:Int) == (i:Int))=false:=beq_eq_false_iff_ne.2 (by omega)
 have HX:=hid (decide_eq_false hx)
 go_wp2
 go_ret
 exact ⟨by rw[HX.out];first | rfl | (simp;omega),Below.refl _ _⟩
abbrev GT:=(Nat->Nat->Option Nat)×Nat
structure SP (w0 w:World) (sb m:Nat) (bs ss f t o:Value) (is js:List Nat) (ps:List (Nat×Nat)) (G:GT) (Z:Nat->Obj->Prop):Prop where
 hs:w.heap[sb]? = some (.cells #[bs,ss,f,t,.map (some m),o] 125 (0,0))
 f1:w.ownsRow w0.heap.size 3 1 f is.length (natsV is)
 t1:w.ownsRow w0.heap.size 3 1 t js.length (natsV js)
 o1:w.ownsRow w0.heap.size 128 2 o ps.length (pairsV ps)
 nf:f.ownBlock≠some sb
 nt:t.ownBlock≠some sb
 no:o.ownBlock≠some sb
 nft:∀g,f.ownBlock=some g->t.ownBlock≠some g
 nfo:∀g,f.ownBlock=some g->o.ownBlock≠some g
 nto:∀g,t.ownBlock=some g->o.ownBlock≠some g
 mp:∃n D,MpQ w m n D G.1/\n<=G.2
 lo:w0.heap.size<=sb
 bel:Below w0.heap.size w0 w
 oth:∀k ob,Z k ob->w.heap[k]? = some ob/\k≠sb/\f.ownBlock≠some k/\t.ownBlock≠some k/\o.ownBlock≠some k
section
variable {w0 w w':World} {sb m:Nat} {bs ss f t o:Value} {is js:List Nat} {ps:List (Nat×Nat)} {G:GT} {Z:Nat->Obj->Prop}
theorem aAa {w:World}{g:Nat}{ob:Obj}(h:w.heap[g]? = some ob):g<w.heap.size:=by
 rcases Nat.lt_or_ge g w.heap.size with h2 | h2
 ·exact h2
 simp[Array.getElem?_eq_none h2] at h
theorem SP.below (h:SP w0 w sb m bs ss f t o is js ps G Z)(hb:Below w.heap.size w w'):SP w0 w' sb m bs ss f t o is js ps G Z:=by
 obtain ⟨n,D,h1,hnn⟩:=h.mp
 exact ⟨(hb.block sb (aAa h.hs)).trans h.hs,aAe h.f1 hb,aAe h.t1 hb,aAe h.o1 hb,h.nf,h.nt,h.no,h.nft,h.nfo,h.nto,⟨n,D,h1.below hb,hnn⟩,h.lo,h.bel.trans (hb.mono h.bel.size),fun k ob hz=>⟨(hb.block k (aAa (h.oth k ob hz).1)).trans (h.oth k ob hz).1,(h.oth k ob hz).2⟩⟩
theorem SP.mne (h:SP w0 w sb m bs ss f t o is js ps G Z){g:Nat}{cs:Array Value}{T:TypeId}{fr:Nat×Nat}(hg:w.heap[g]? = some (.cells cs T fr)):m≠g:=fun e=>by
 obtain ⟨n,D,h1,hnn⟩:=h.mp
 obtain ⟨es,ck,h2,_⟩:=h1.own
 rw[e,hg] at h2;cases h2
theorem aOa {w:World}{B:Nat}{e:TypeId}{k n:Nat}{v:Value}{xs:List Value}(h:w.ownsRow B e k v n xs){g:Nat}(hg:v.ownBlock=some g):∃cs,w.heap[g]? = some (.cells cs e (0,0)):=aTi h hg
structure SPo (w0 w:World) (sb m:Nat) (bs ss f t o o':Value) (is js:List Nat) (ps:List (Nat×Nat)) (G:GT) (Z:Nat->Obj->Prop):Prop where
 hs:w.heap[sb]? = some (.cells #[bs,ss,f,t,.map (some m),o] 125 (0,0))
 f1:w.ownsRow w0.heap.size 3 1 f is.length (natsV is)
 t1:w.ownsRow w0.heap.size 3 1 t js.length (natsV js)
 o1:w.ownsRow w0.heap.size 128 2 o' ps.length (pairsV ps)
 nf:f.ownBlock≠some sb
 nt:t.ownBlock≠some sb
 no:o'.ownBlock≠some sb
 nft:∀g,f.ownBlock=some g->t.ownBlock≠some g
 nfo:∀g,f.ownBlock=some g->o'.ownBlock≠some g
 nto:∀g,t.ownBlock=some g->o'.ownBlock≠some g
 mp:∃n D,MpQ w m n D G.1/\n<=G.2
 lo:w0.heap.size<=sb
 bel:Below w0.heap.size w0 w
 oth:∀k ob,Z k ob->w.heap[k]? = some ob/\k≠sb/\f.ownBlock≠some k/\t.ownBlock≠some k/\o'.ownBlock≠some k
theorem SP.push (h:SP w0 w sb m bs ss f t o is js ps G Z) {o':Value}{q:Nat×Nat}(hg:w.grownBy w' o.ownBlock)(ho:w'.ownsRow w0.heap.size 128 2 o' (ps.length+1) (pairsV ps++pairsV [q]))(hv:o'.ownBlock=o.ownBlock\/o'.ownBlock=some w.heap.size) :
  SPo w0 w' sb m bs ss f t o o' is js (ps++[q]) G Z:=by
 obtain ⟨n,D,h1,hnn⟩:=h.mp
 have new:∀g,g<w.heap.size->o.ownBlock≠some g->o'.ownBlock≠some g:=fun g hlt hne e=>by
  rcases hv with hv | hv
  ·exact hne (hv▸e)
  rw[hv] at e;injection e with e;omega
 have keepB:∀{v:Value} {T:TypeId} {k nn:Nat} {xs:List Value},w.ownsRow w0.heap.size T k v nn xs->(∀g,v.ownBlock=some g->o.ownBlock≠some g)->w'.ownsRow w0.heap.size T k v nn xs:=fun {v} {T} {k} {nn} {xs} hr hn=>by
  refine hr.kept hg ?_
  cases e:v.ownBlock with
  | none=>exact .inl rfl
  | some g=>exact .inr (fun e2=>hn g e e2.symm)
 refine ⟨(hg.block sb (aAa h.hs) (fun e=>h.no e.symm)).trans h.hs,keepB h.f1 h.nfo,keepB h.t1 h.nto,?_,h.nf,h.nt,new sb (aAa h.hs) h.no,h.nft,fun g hg=>new g (h.f1.lt g hg).2 (h.nfo g hg),fun g hg=>new g (h.t1.lt g hg).2 (h.nto g hg),⟨n,D,h1.kept hg (fun e=>by
  obtain ⟨cs,hc⟩:=aOa h.o1 e.symm
  exact h.mne hc rfl),hnn⟩,h.lo,h.bel.grown hg h.bel.size (fun g hg=>(h.o1.lt g hg).1),fun k ob hz=>⟨(hg.block k (aAa (h.oth k ob hz).1) (fun e=>(h.oth k ob hz).2.2.2.2 e.symm)).trans (h.oth k ob hz).1,(h.oth k ob hz).2.1,(h.oth k ob hz).2.2.1,(h.oth k ob hz).2.2.2.1,new k (aAa (h.oth k ob hz).1) (h.oth k ob hz).2.2.2.2⟩⟩
 rw[List.length_append]
 unfold pairsV at *
 rw[List.flatMap_append]
 exact ho
theorem SPo.set {o':Value}(h:SPo w0 w sb m bs ss f t o o' is js ps G Z):SP w0 (w.setCell ⟨sb,5,none⟩ o') sb m bs ss f t o' is js ps G Z:=by
 obtain ⟨n,D,h1,hnn⟩:=h.mp
 have hmne:m≠sb:=fun e=>by
  obtain ⟨es,ck,h2,_⟩:=h1.own
  rw[e,h.hs] at h2;cases h2
 refine ⟨?_,ownsRow_setCell_other h.f1 h.nf _,ownsRow_setCell_other h.t1 h.nt _,ownsRow_setCell_other h.o1 h.no _,h.nf,h.nt,h.no,h.nft,h.nfo,h.nto,⟨n,D,h1.kept (aBd w sb 5 o') (by simpa using hmne),hnn⟩,h.lo,h.bel.setCell h.lo _,fun k ob hz=>⟨(Below.heap_setCell w ⟨sb,5,none⟩ _ k (h.oth k ob hz).2.1).trans (h.oth k ob hz).1,(h.oth k ob hz).2⟩⟩
 have:=heap_setCell_same w sb 5 _ _ o' h.hs
 simpa using this
theorem SP.inF (h:SP w0 w sb m bs ss f t o is js ps G Z){r:Nat}(hr:f.ownBlock=some r)(hg:w.grownBy w' (some r)) {f':Value} {is':List Nat}(hf:w'.ownsRow w0.heap.size 3 1 f' is'.length (natsV is'))(hb:∀g,f'.ownBlock=some g->f.ownBlock=some g) :
  SP w0 (w'.setCell ⟨sb,2,none⟩ f') sb m bs ss f' t o is' js ps G Z:=by
 obtain ⟨n,D,h1,hnn⟩:=h.mp
 have hsb:r≠sb:=fun e=>h.nf (by rw[hr,e])
 have hs':=(hg.block sb (aAa h.hs) (fun e=>by injection e with e;exact hsb e.symm)).trans h.hs
 have hmr:m≠r:=by obtain ⟨cs,hc⟩:=aOa h.f1 hr;exact h.mne hc
 have h1':=h1.kept hg (by simpa using hmr)
 have hmne:m≠sb:=fun e=>by
  obtain ⟨es,ck,h2,_⟩:=h1'.own
  rw[e,hs'] at h2;cases h2
 have ht':w'.ownsRow w0.heap.size 3 1 t js.length (natsV js):=h.t1.kept hg (.inr (h.nft r hr))
 have ho':w'.ownsRow w0.heap.size 128 2 o ps.length (pairsV ps):=h.o1.kept hg (.inr (h.nfo r hr))
 have hnf:f'.ownBlock≠some sb:=fun e=>h.nf (hb sb e)
 refine ⟨?_,ownsRow_setCell_other hf hnf _,ownsRow_setCell_other ht' h.nt _,ownsRow_setCell_other ho' h.no _,hnf,h.nt,h.no,fun g hg=>h.nft g (hb g hg),fun g hg=>h.nfo g (hb g hg),h.nto,⟨n,D,h1'.kept (aBd w' sb 2 f') (by simpa using hmne),hnn⟩,h.lo,(h.bel.grown hg h.bel.size (fun g hg=>by injection hg with hg;subst hg;exact (h.f1.lt _ hr).1)).setCell h.lo _,fun k ob hz=>⟨(Below.heap_setCell w' ⟨sb,2,none⟩ _ k (h.oth k ob hz).2.1).trans ((hg.block k (aAa (h.oth k ob hz).1) (fun e=>(h.oth k ob hz).2.2.1 (by rw[hr];exact e.symm))).trans (h.oth k ob hz).1),(h.oth k ob hz).2.1,fun e=>(h.oth k ob hz).2.2.1 (hb k e),(h.oth k ob hz).2.2.2⟩⟩
 have:=heap_setCell_same w' sb 2 _ _ f' hs'
 simpa using this
theorem SP.inT (h:SP w0 w sb m bs ss f t o is js ps G Z){r:Nat}(hr:t.ownBlock=some r)(hg:w.grownBy w' (some r)) {t':Value} {js':List Nat}(ht:w'.ownsRow w0.heap.size 3 1 t' js'.length (natsV js'))(hb:∀g,t'.ownBlock=some g->t.ownBlock=some g) :
  SP w0 (w'.setCell ⟨sb,3,none⟩ t') sb m bs ss f t' o is js' ps G Z:=by
 obtain ⟨n,D,h1,hnn⟩:=h.mp
 have hsb:r≠sb:=fun e=>h.nt (by rw[hr,e])
 have hs':=(hg.block sb (aAa h.hs) (fun e=>by injection e with e;exact hsb e.symm)).trans h.hs
 have hmr:m≠r:=by obtain ⟨cs,hc⟩:=aOa h.t1 hr;exact h.mne hc
 have h1':=h1.kept hg (by simpa using hmr)
 have hmne:m≠sb:=fun e=>by
  obtain ⟨es,ck,h2,_⟩:=h1'.own
  rw[e,hs'] at h2;cases h2
 have hf':w'.ownsRow w0.heap.size 3 1 f is.length (natsV is):=h.f1.kept hg (by
  cases e:f.ownBlock with
  | none=>exact .inl rfl
  | some g=>exact .inr (fun e2=>h.nft g e (by rw[hr,<-e2])))
 have ho':w'.ownsRow w0.heap.size 128 2 o ps.length (pairsV ps):=h.o1.kept hg (.inr (h.nto r hr))
 have hnt:t'.ownBlock≠some sb:=fun e=>h.nt (hb sb e)
 refine ⟨?_,ownsRow_setCell_other hf' h.nf _,ownsRow_setCell_other ht hnt _,ownsRow_setCell_other ho' h.no _,h.nf,hnt,h.no,fun g hg e=>h.nft g hg (hb g e),h.nfo,fun g hg=>h.nto g (hb g hg),⟨n,D,h1'.kept (aBd w' sb 3 t') (by simpa using hmne),hnn⟩,h.lo,(h.bel.grown hg h.bel.size (fun g hg=>by injection hg with hg;subst hg;exact (h.t1.lt _ hr).1)).setCell h.lo _,fun k ob hz=>⟨(Below.heap_setCell w' ⟨sb,3,none⟩ _ k (h.oth k ob hz).2.1).trans ((hg.block k (aAa (h.oth k ob hz).1) (fun e=>(h.oth k ob hz).2.2.2.1 (by rw[hr];exact e.symm))).trans (h.oth k ob hz).1),(h.oth k ob hz).2.1,(h.oth k ob hz).2.2.1,fun e=>(h.oth k ob hz).2.2.2.1 (hb k e),(h.oth k ob hz).2.2.2.2⟩⟩
 have:=heap_setCell_same w' sb 3 _ _ t' hs'
 simpa using this
end
def Sr (w0 w:World)(sb m:Nat)(bs ss:Value)(is js:List Nat)(ps:List (Nat×Nat))(G:GT)(Z:Nat->Obj->Prop):Prop:=∃f t o,SP w0 w sb m bs ss f t o is js ps G Z
theorem Sr.below {w0 w w':World}{sb m:Nat}{bs ss:Value}{is js:List Nat}{ps:List (Nat×Nat)}{G:GT}{Z:Nat->Obj->Prop}(h:Sr w0 w sb m bs ss is js ps G Z)(hb:Below w.heap.size w w'):Sr w0 w' sb m bs ss is js ps G Z:=by
 obtain ⟨f,t,o,h⟩:=h
 exact ⟨f,t,o,h.below hb⟩
theorem Sr.weaken {w0 w:World}{sb m:Nat}{bs ss:Value}{is js:List Nat}{ps:List (Nat×Nat)}{G:GT} {Z Z':Nat->Obj->Prop}(h:Sr w0 w sb m bs ss is js ps G Z)(hz:∀k ob,Z' k ob->Z k ob):Sr w0 w sb m bs ss is js ps G Z':=by
 obtain ⟨f,t,o,h⟩:=h
 exact ⟨f,t,o,h.hs,h.f1,h.t1,h.o1,h.nf,h.nt,h.no,h.nft,h.nfo,h.nto,h.mp,h.lo,h.bel,fun k ob hk=>h.oth k ob (hz k ob hk)⟩
theorem Sr.more {w0 w w':World}{sb m:Nat}{bs ss:Value}{is js:List Nat}{ps:List (Nat×Nat)}{G:GT}{Z:Nat->Obj->Prop}(h:Sr w0 w sb m bs ss is js ps G Z)(hb:Below w.heap.size w w'){g:Nat}{q:Obj}(hg:w'.heap[g]? = some q)(hlo:w.heap.size<=g) :
  Sr w0 w' sb m bs ss is js ps G fun k ob=>Z k ob\/(k=g/\ob=q):=by
 obtain ⟨f,t,o,h⟩:=h
 have h':=h.below hb
 refine ⟨f,t,o,h'.hs,h'.f1,h'.t1,h'.o1,h'.nf,h'.nt,h'.no,h'.nft,h'.nfo,h'.nto,h'.mp,h'.lo,h'.bel,fun k ob hk=>?_⟩
 rcases hk with hk | ⟨rfl,rfl⟩
 ·exact h'.oth k ob hk
 refine ⟨hg,fun e=>?_,fun e=>?_,fun e=>?_,fun e=>?_⟩
 ·have:=aAa h.hs;omega
 ·have:=(h.f1.lt _ e).2;omega
 ·have:=(h.t1.lt _ e).2;omega
 have:=(h.o1.lt _ e).2;omega
theorem aXg (i:Nat)(l:List Nat):dropI (fun x=>decide (x=i)) l=l.filter fun k=>decide (k≠i):=by
 unfold dropI
 congr 1
 funext x
 simp
theorem aJa {P:Program}{t e:TypeId}{bytes:Nat}(E:Elem P t e 2 bytes)(a b:Value)(w:World) :
  (Instr.buildSlice t 1 #[(0,.agg #[a,b])]).run P w=.ok (.slice (some ⟨w.heap.size,0,none⟩) 1 1) (w.alloc (.cells #[a,b] e)):=by
 obtain ⟨i,z,hi,hz,hsz,hby,hzs⟩:=E.row
 obtain ⟨z0,z1,hzc⟩:∃z0 z1,z.cells=#[z0,z1]:=by
  have:=hzs
  match h:z.cells,this with
  | ⟨[z0,z1]⟩,_=>exact ⟨z0,z1,rfl⟩
 simp[Instr.buildSlice,run_underlying E.und,sizeOf,typeInfo,hi,hsz,zeroValue,hz,Instr.fill,Value.cells,newRow,show Array.range 2=#[0,1] from rfl]
theorem bAr {w:World}{B:Nat}{v:Value}{xs:List Nat}(h:w.ownsRow B 3 1 v xs.length (natsV xs))(hv:v≠.slice none 0 0) :
  ∃r cap cur,v=.slice (some ⟨r,0,none⟩) xs.length cap/\B<=r/\w.heap[r]? = some (.cells cur 3 (0,0))/\xs.length<=cap/\cap<=maxLen/\cur.size=cap/\cur.toList.take xs.length=natsV xs:=by
 rcases h.2 with ⟨e,_⟩ | ⟨g,cap,cur,e,h1,h2,h3,h4,h5,h6⟩
 ·exact absurd e hv
 exact ⟨g,cap,cur,e,h1,h2,h3,h4,by simpa using h5,by simpa using h6⟩
theorem bFy {w:World}{B r n cap:Nat}{cur:Array Value}{xs:List Nat}(hb:B<=r)(hg:w.heap[r]? = some (.cells cur 3 (0,0)))(hnc:n<=cap)(hcm:cap<=maxLen)(hcs:cur.size=cap)(ht:cur.toList.take n=natsV xs)(hx:xs.length=n) :
  w.ownsRow B 3 1 (.slice (some ⟨r,0,none⟩) n cap) xs.length (natsV xs):=by
 subst hx
 exact ⟨by rw[aDg,Nat.mul_one],.inr ⟨r,cap,cur,rfl,hb,hg,hnc,hcm,by simpa using hcs,by simpa using ht⟩⟩
theorem aWr {w0 w:World}{sb m i j:Nat}{bs ss:Value}{is js:List Nat}{ps:List (Nat×Nat)}{G:GT}{Z:Nat->Obj->Prop}(h:Sr w0 w sb m bs ss is js ps G Z)(hi:i∈is)(hj:j∈js)(hl1:is.length<=100000)(hl2:js.length<=100000)(hl3:ps.length<=100000) :
  Calls Tryz.prog 123 #[.pointer (some ⟨sb,0,none⟩),.agg #[.int .i64 (i:Int),.int .i64 (j:Int)]] w fun e w'=>e=.returned (.tuple #[])/\Sr w0 w' sb m bs ss (is.filter fun k=>decide (k≠i)) (js.filter fun k=>decide (k≠j)) (ps++[(i,j)]) G Z:=by
 obtain ⟨f,t,o,h⟩:=h
 have hW:Below w.heap.size w (w.alloc (.cells #[.int .i64 (i:Int),.int .i64 (j:Int)] 128)):=(Below.refl _ _).alloc (Nat.le_refl _) _
 have HP:=hid (h.below hW)
 have HBX:=hid (heap_alloc_new w (.cells #[.int .i64 (i:Int),.int .i64 (j:Int)] 128))
 have hfe:f≠.slice none 0 0:=fun e=>by
  have:=h.f1
  subst e
  rcases this.2 with ⟨_,h0⟩ | ⟨g,cap,cur,e,_⟩
  ·rw[List.length_eq_zero_iff.1 h0] at hi;cases hi
  cases e
 have hte:t≠.slice none 0 0:=fun e=>by
  have:=h.t1
  subst e
  rcases this.2 with ⟨_,h0⟩ | ⟨g,cap,cur,e,_⟩
  ·rw[List.length_eq_zero_iff.1 h0] at hj;cases hj
  cases e
 have HPF:=hid (fun e:f.ownBlock=some w.heap.size=>Nat.lt_irrefl _ (h.f1.lt _ e).2)
 have HPT:=hid (fun e:t.ownBlock=some w.heap.size=>Nat.lt_irrefl _ (h.t1.lt _ e).2)
 have HPO:=hid (fun e:o.ownBlock=some w.heap.size=>Nat.lt_irrefl _ (h.o1.lt _ e).2)
 have HPS:=hid (Nat.ne_of_gt (aAa h.hs))
 have HFE:=hid hfe
 have HTE:=hid hte
 clear h hW hfe hte hi hj
 obtain ⟨W,eW⟩:∃W,W=w.alloc (.cells #[.int .i64 (i:Int),.int .i64 (j:Int)] 128):=⟨_,rfl⟩
 go_enter Tryz.func123,Tryz.ntmps123
 go_wp2
 rw[<-eW] at HP HBX ⊢
 clear eW
 generalize w.heap.size=pb at *
 refine aAs (fun w'=>w'.heap[sb]? = some (.cells #[bs,ss,f,t,.map (some m),o] 125 (0,0))/\w'.heap[pb]? = some (.cells #[.int .i64 (i:Int),.int .i64 (j:Int)] 128 (0,0)))
  [(true,0),(true,1),(true,2),(true,3),(true,4),(true,5),(false,6),(false,7),(true,8),(true,9)] [10] mixed (by kernel_rfl) ⟨HP.out.hs,HBX.out⟩ ?_
 intro Tp M Q Q2 hT hT' hM hQ hQ2
 have m0:M ⟨sb,5,none⟩=some o:=hM _ _ fun w' hw=>by rw[Lib.cell_of_heap hw.1];rfl
 have m1:M ⟨pb,0,none⟩=some (.int .i64 (i:Int)):=hM _ _ fun w' hw=>by rw[Lib.cell_of_heap hw.2];rfl
 have m2:M ⟨pb,1,none⟩=some (.int .i64 (j:Int)):=hM _ _ fun w' hw=>by rw[Lib.cell_of_heap hw.2];rfl
 clear hM
 simp only[qcmp]
 simp (maxSteps:=9^7) only[↓qpre,aAb,aAf,aAc,m0,m1,m2]
 clear m0 m1 m2
 have hba:Below W.heap.size W (W.drew.alloc (.cells #[.int .i64 (i:Int),.int .i64 (j:Int)] 128)):=(Below.refl _ _).drew.alloc (Nat.le_refl _) _
 have HP1:=hid (HP.out.below hba)
 have HBX1:=hid ((hba.block pb (aAa HBX.out)).trans HBX.out)
 have HLI:=hid (bHa W.drew W.drew.heap.size i j rfl)
 refine T.eff_lits (aJa bDi _ _ _) rfl ⟨hT _ ⟨HP1.out.hs,HBX1.out⟩,?_⟩
 simp (maxSteps:=9^7) only[aAb,aAc]
 clear HP HBX hba
 generalize W.drew.alloc (.cells #[.int .i64 (i:Int),.int .i64 (j:Int)] 128)=V at *
 refine aAo bDi (base:=w0.heap.size) (n:=ps.length) rfl rfl HP1.out.o1 HLI.out (bAu _) (by unfold maxLen;omega) (by omega) HP1.out.bel.size ?_
 intro v7 V5 ho7 hg7 hv7
 obtain ⟨A7,c7,rfl,hc7⟩:=aAg ho7
 have HPo:=hid (HP1.out.push (q:=(i,j)) hg7 ho7 hv7)
 have HBX2:=hid ((hg7.block pb (aAa HBX1.out) (fun e=>HPO.out e.symm)).trans HBX1.out)
 refine ⟨hT _ ⟨HPo.out.hs,HBX2.out⟩,?_⟩
 simp (maxSteps:=9^7) only[↓qpre,aAb,aAf,aAc]
 refine hQ _ _ ?_
 simp only[lates,List.map,qcmp]
 simp (maxSteps:=9^7) only[aAb]
 refine aAy (v:=.slice A7 (ps.length+1) c7) (b:=sb) (o:=5) (by kernel_rfl) rfl rfl (by rw[Lib.cell_of_heap HPo.out.hs];rfl) (aAi HPo.out.hs) rfl ⟨trivial,?_⟩
 simp (maxSteps:=9^7) only[aAb]
 refine hQ2 _ _ ?_
 have HP2:=hid HPo.out.set
 have HBX3:=hid ((Below.heap_setCell V5 ⟨sb,5,none⟩ (.slice A7 (ps.length+1) c7) pb HPS.out).trans HBX2.out)
 clear hQ hQ2 hT hT' HP1 HBX1 HBX2 HLI HPo ho7 hg7 hv7
 generalize V5.setCell ⟨sb,5,none⟩ (.slice A7 (ps.length+1) c7)=V6 at *
 obtain ⟨r,cap,cur,rfl,hrB,hrg,hrn,hrm,hrs,hrt⟩:=bAr HP2.out.f1 HFE.out
 have hpr:pb≠r:=fun e=>HPF.out (by rw[e];rfl)
 have K1:=aSa (q1:=.pointer (some ⟨pb,0,none⟩)) (fun x=>decide (x=i)) (w:=V6) (by omega) hrg hrn hrm hrs hrt rfl
  (fun x u hu=>bCf (by rw[Lib.cell_of_heap ((hu.block pb (aAa HBX3.out) (fun e=>by injection e with e;exact hpr e)).trans HBX3.out)];rfl))
 have d1:V6.cell? ⟨sb,2,none⟩=some (.slice (some ⟨r,0,none⟩) is.length cap):=by rw[Lib.cell_of_heap HP2.out.hs];rfl
 clear hrg hrt hrs
 go_wp2_with fail
 refine K1.mono ?_
 rintro e V7 ⟨m7,cur7,rfl,hm7,hm7n,hg8,hs8,ht8,hgr8⟩
 have HF7:=hid (HP2.out.inF (r:=r) rfl hgr8 (bFy hrB hg8 (by omega) hrm hs8 ht8 hm7) (fun g hg=>hg))
 have HBX4:=hid ((hgr8.block pb (aAa HBX3.out) (fun e=>by injection e with e;exact hpr e)).trans HBX3.out)
 have HBX5:=hid ((Below.heap_setCell V7 ⟨sb,2,none⟩ (.slice (some ⟨r,0,none⟩) m7 cap) pb HPS.out).trans HBX4.out)
 have hsb7:V7.heap[sb]? = V6.heap[sb]?:=hgr8.block sb (aAa HP2.out.hs) (fun e=>HP2.out.nf (by rw[e];rfl))
 have d2:V7.cell? ⟨sb,2,none⟩=some (.slice (some ⟨r,0,none⟩) is.length cap):=by rw[Lib.cell_of_heap (hsb7.trans HP2.out.hs)];rfl
 have d3:V7.frozen? ⟨sb,2,none⟩=false:=aAi (hsb7.trans HP2.out.hs)
 obtain ⟨r2,cap2,cur2,rfl,hrB2,hrg2,hrn2,hrm2,hrs2,hrt2⟩:=bAr HF7.out.t1 HTE.out
 have hpr2:pb≠r2:=fun e=>HPT.out (by rw[e];rfl)
 have K2:=aXm (q1:=.pointer (some ⟨pb,0,none⟩)) (fun x=>decide (x=j)) (w:=V7.setCell ⟨sb,2,none⟩ (.slice (some ⟨r,0,none⟩) m7 cap)) (by omega) hrg2 hrn2 hrm2 hrs2 hrt2 rfl
  (fun x u hu=>bCl (by rw[Lib.cell_of_heap ((hu.block pb (aAa HBX5.out) (fun e=>by injection e with e;exact hpr2 e)).trans HBX5.out)];rfl))
 have d4:(V7.setCell ⟨sb,2,none⟩ (.slice (some ⟨r,0,none⟩) m7 cap)).cell? ⟨sb,3,none⟩=some (.slice (some ⟨r2,0,none⟩) js.length cap2):=by rw[Lib.cell_of_heap HF7.out.hs];rfl
 clear K1 d1 hrg2 hrt2 hrs2 hg8 hs8 ht8 hgr8 hsb7 HP2 HBX3 HBX4
 go_wp2_with fail
 refine K2.mono ?_
 rintro e V8 ⟨m8,cur8,rfl,hm8,hm8n,hg9,hs9,ht9,hgr9⟩
 have HF8:=hid (HF7.out.inT (r:=r2) rfl hgr9 (bFy hrB2 hg9 (by omega) hrm2 hs9 ht9 hm8) (fun g hg=>hg))
 have hsb8:=(hgr9.block sb (aAa HF7.out.hs) (fun e=>HF7.out.nt (by rw[e];rfl))).trans HF7.out.hs
 have d5:V8.cell? ⟨sb,3,none⟩=some (.slice (some ⟨r2,0,none⟩) js.length cap2):=by rw[Lib.cell_of_heap hsb8];rfl
 have d6:V8.frozen? ⟨sb,3,none⟩=false:=aAi hsb8
 clear K2 d2 d3 d4 hg9 hs9 ht9 hgr9 hsb8 HF7
 go_wp2
 refine bodyPost_end (results_none rfl _ _ _) rfl ?_
 rw[<-aXg,<-aXg]
 exact ⟨rfl,_,_,_,HF8.out⟩
structure Two (w0:World) (bs ss:Value) (base side:List FV):Prop where
 ex:∃A n ca B m cb,bs=.slice A n ca/\ss=.slice B m cb/\RdF w0 w0.heap.size A n ca base/\RdF w0 w0.heap.size B m cb side/\n<=100000/\m<=100000
theorem aIb {l:List FV}{i:Nat}{f:FV}(h:l[i]? = some f):textAt l i=f.text:=by simp[textAt,h]
theorem bCr {w0 u:World}{sx ix sb i j:Nat}{bs ss f t m o:Value}{base side:List FV}(T2:Two w0 bs ss base side)(hb:Below w0.heap.size w0 u)(hi:i<base.length)(hj:j<side.length)
  (k0:u.cell? ⟨sx,0,none⟩=some (.pointer (some ⟨sb,0,none⟩))) (k1:u.cell? ⟨ix,0,none⟩=some (.int .i64 (i:Int))) (ks:u.heap[sb]? = some (.cells #[bs,ss,f,t,m,o] 125 (0,0))) (_hsx:sx<u.heap.size) (_hix:ix<u.heap.size) :
  Calls Tryz.prog 122 #[.int .i64 (j:Int),.pointer (some ⟨sx,0,none⟩),.pointer (some ⟨ix,0,none⟩)] u fun e w'=>e=.returned (.bool (decide (textAt side j=textAt base i)))/\Below u.heap.size u w':=by
 obtain ⟨A,n,ca,B,mm,cb,rfl,rfl,ha,hs,hn,hm⟩:=T2.ex
 rw[ha.len] at hi
 rw[hs.len] at hj
 obtain ⟨b0,o0,x,rfl,hbb,hx,hxm,_,_,p2⟩:=ha.get hi
 obtain ⟨b1,o1,y,rfl,hbb1,hy,hym,_,_,q2⟩:=hs.get hj
 rw[aIb hx,aIb hy]
 have hw0:=hb.size
 replace p2:=(hb.cell (p:=⟨b0,o0+i*3+2,none⟩) hbb).trans p2
 replace q2:=(hb.cell (p:=⟨b1,o1+j*3+2,none⟩) hbb1).trans q2
 have hsb:=aAa ks
 have s0:u.cell? ⟨sb,0,none⟩=some (.slice (some ⟨b0,o0,none⟩) n ca):=by rw[Lib.cell_of_heap ks];rfl
 have s1:u.cell? ⟨sb,1,none⟩=some (.slice (some ⟨b1,o1,none⟩) mm cb):=by rw[Lib.cell_of_heap ks];rfl
 clear hx hy hxm hym ha hs T2
 go_enter Tryz.func122,Tryz.ntmps122
 go_wp2
 refine aAd (fun w'=>∀p:Addr,w'.cell? p=u.cell? p) (qs 18) mixed (by kernel_rfl) (fun p=>rfl) ?_
 intro Tp M Q hT hT' hM hQ
 have m0:M ⟨sx,0,none⟩=some (.pointer (some ⟨sb,0,none⟩)):=hM _ _ fun w' hw=>(hw _).trans k0
 have m1:M ⟨ix,0,none⟩=some (.int .i64 (i:Int)):=hM _ _ fun w' hw=>(hw _).trans k1
 have m2:M ⟨sb,0,none⟩=some (.slice (some ⟨b0,o0,none⟩) n ca):=hM _ _ fun w' hw=>(hw _).trans s0
 have m3:M ⟨sb,1,none⟩=some (.slice (some ⟨b1,o1,none⟩) mm cb):=hM _ _ fun w' hw=>(hw _).trans s1
 have m4:M ⟨b0,o0+i*3+2,none⟩=some (.string x.text):=hM _ _ fun w' hw=>(hw _).trans p2
 have m5:M ⟨b1,o1+j*3+2,none⟩=some (.string y.text):=hM _ _ fun w' hw=>(hw _).trans q2
 clear hM
 simp only[qcmp]
 by_cases hq:y.text=x.text
 ·have e1:(y.text.toList == x.text.toList)=true:=by rw[hq];exact beq_self_eq_true _
  simp (maxSteps:=9^7) only[↓qpre,aAb,aAf,aAc,m0,m1,m2,m3,m4,m5]
  (repeat refine ⟨by first|omega|(unfold inI64;omega),?_⟩)
  refine hQ _ _ ?_
  clear hQ hT hT' m0 m1 m2 m3 m4 m5 e1
  rw[decide_eq_true hq]
  have HQ:=hid hq
  clear hq
  go_wp2
  go_ret
  exact ⟨by first | rfl | simp[HQ.out],(Below.refl _ _).drew⟩
 have e1:=aBe hq
 simp (maxSteps:=9^7) only[↓qpre,aAb,aAf,aAc,m0,m1,m2,m3,m4,m5]
 (repeat refine ⟨by first|omega|(unfold inI64;omega),?_⟩)
 refine hQ _ _ ?_
 clear hQ hT hT' m0 m1 m2 m3 m4 m5
 rw[decide_eq_false hq]
 go_wp2
 go_ret
 exact ⟨by first | rfl | simp[hq],(Below.refl _ _).drew⟩
theorem aPe {p:Nat->Bool}{l:List Nat}{j x:Nat}(hx:l[j]? = some x)(hp:p x=true)(hl:∀(i y:Nat),i<j->l[i]? = some y->p y=false):l.find? p=some x:=by
 induction l generalizing j with
 | nil=>cases hx
 | cons a l ih=>
  cases j with
  | zero=>cases hx;simp[hp]
  | succ j=>
   rw[List.find?_cons,hl 0 a (by omega) rfl]
   exact ih hx fun i y hi hy=>hl (i+1) y (by omega) hy
theorem aZl {p:Nat->Bool}{l:List Nat}(h:∀x∈l,p x=false):l.find? p=none:=List.find?_eq_none.2 fun x hx=>by simp[h x hx]
structure SameAt (base side:List FV) (is js:List Nat) (ps:List (Nat×Nat)) (k:Nat) (is' js':List Nat) (ps':List (Nat×Nat)):Prop where
 left:∃l,is'=l++is.drop k/\l++(sameF base side (is.drop k) js').2.1=(sameF base side is js).2.1
 nd:is'.Nodup
 pairs:ps'++(sameF base side (is.drop k) js').1=ps++(sameF base side is js).1
 right:(sameF base side (is.drop k) js').2.2=(sameF base side is js).2.2
 sub:∀j∈js',j∈js
 n1:is'.length<=is.length
 n2:js'.length<=js.length
 n3:ps'.length<=ps.length+k
section
variable {base side:List FV} {is js:List Nat} {ps:List (Nat×Nat)} {k:Nat} {is' js':List Nat} {ps':List (Nat×Nat)}
theorem SameAt.start (hn:is.Nodup):SameAt base side is js ps 0 is js ps:=⟨⟨[],by simp,by simp⟩,hn,by simp,by simp,fun _ h=>h,Nat.le_refl _,Nat.le_refl _,by omega⟩
theorem SameAt.mem (h:SameAt base side is js ps k is' js' ps'){i:Nat}(hi:is[k]? = some i):i∈is':=by
 obtain ⟨⟨l,rfl,_⟩,_⟩:=h
 obtain ⟨h1,rfl⟩:=List.getElem?_eq_some_iff.1 hi
 rw[List.drop_eq_getElem_cons h1];exact List.mem_append_right _ List.mem_cons_self
theorem SameAt.skip (h:SameAt base side is js ps k is' js' ps'){i:Nat}(hi:is[k]? = some i)(hf:js'.find? (fun j=>decide (textAt side j=textAt base i))=none):SameAt base side is js ps (k+1) is' js' ps':=by
 obtain ⟨⟨l,h1,h2⟩,a,b,c,d,e,f,g⟩:=h
 obtain ⟨hk,rfl⟩:=List.getElem?_eq_some_iff.1 hi
 rw[List.drop_eq_getElem_cons hk] at h1 h2 b c
 rw[sameF,hf] at h2 b c
 dsimp only at h2 b c
 exact ⟨⟨l++[is[k]],by rw[h1,List.append_assoc];rfl,by rw[<-h2,List.append_assoc];rfl⟩,a,b,c,d,e,f,by omega⟩
theorem SameAt.take (h:SameAt base side is js ps k is' js' ps'){i j:Nat}(hi:is[k]? = some i)(hf:js'.find? (fun j=>decide (textAt side j=textAt base i))=some j) :
  SameAt base side is js ps (k+1) (is'.filter fun k=>decide (k≠i)) (js'.filter fun k=>decide (k≠j)) (ps'++[(i,j)]):=by
 obtain ⟨⟨l,h1,h2⟩,a,b,c,d,e,f,g⟩:=h
 obtain ⟨hk,rfl⟩:=List.getElem?_eq_some_iff.1 hi
 rw[List.drop_eq_getElem_cons hk] at h1 h2 b c
 rw[sameF,hf] at h2 b c
 dsimp only at h2 b c
 subst h1
 have hnl:is[k]∉l:=fun hm=>(List.nodup_append.1 a).2.2 _ hm _ List.mem_cons_self rfl
 have hnr:is[k]∉is.drop (k+1):=(List.nodup_cons.1 (List.nodup_append.1 a).2.1).1
 have hF:(l++is[k]::is.drop (k+1)).filter (fun x=>decide (x≠is[k]))=l++is.drop (k+1):=by
  rw[List.filter_append,List.filter_cons,List.filter_eq_self.2 (fun x hx=>by simp;rintro rfl;exact hnl hx),List.filter_eq_self.2 (fun x hx=>by simp;rintro rfl;exact hnr hx)]
  simp
 refine ⟨⟨l,hF,h2⟩,a.filter _,by rw[<-b];simp,c,fun x hx=>d x (List.mem_filter.1 hx).1,Nat.le_trans (List.length_filter_le _ _) e,Nat.le_trans (List.length_filter_le _ _) f,by simp;omega⟩
theorem SameAt.done (h:SameAt base side is js ps is.length is' js' ps'):is'=(sameF base side is js).2.1/\js'=(sameF base side is js).2.2/\ps'=ps++(sameF base side is js).1:=by
 obtain ⟨⟨l,h1,h2⟩,a,b,c,d,e,f,g⟩:=h
 rw[List.drop_length,sameF] at h2 b c
 rw[List.drop_length] at h1
 exact ⟨by rw[h1];exact h2,c,by rw[<-b];simp⟩
end
theorem Sr.moreZ {w0 w w':World}{sb m:Nat}{bs ss:Value}{is js:List Nat}{ps:List (Nat×Nat)}{G:GT}{Z Y:Nat->Obj->Prop}(h:Sr w0 w sb m bs ss is js ps G Z)(hb:Below w.heap.size w w')(hY:∀k ob,Y k ob->w'.heap[k]? = some ob/\w.heap.size<=k) :
  Sr w0 w' sb m bs ss is js ps G fun k ob=>Z k ob\/Y k ob:=by
 obtain ⟨f,t,o,h⟩:=h
 have h':=h.below hb
 refine ⟨f,t,o,h'.hs,h'.f1,h'.t1,h'.o1,h'.nf,h'.nt,h'.no,h'.nft,h'.nfo,h'.nto,h'.mp,h'.lo,h'.bel,fun k ob hk=>?_⟩
 rcases hk with hk | hk
 ·exact h'.oth k ob hk
 obtain ⟨h1,h2⟩:=hY k ob hk
 refine ⟨h1,fun e=>?_,fun e=>?_,fun e=>?_,fun e=>?_⟩
 ·have:=aAa h.hs;omega
 ·have:=(h.f1.lt _ e).2;omega
 ·have:=(h.t1.lt _ e).2;omega
 have:=(h.o1.lt _ e).2;omega
theorem aFp {w:World}{B n:Nat}{v:Value}{l:List Nat}(h:w.ownsRow B 3 1 v n (natsV l)) :
  ∃A c,v=.slice A n c/\∀(k x:Nat),l[k]? = some x->∃g cur,A=some ⟨g,0,none⟩/\B<=g/\w.heap[g]? = some (.cells cur 3 (0,0))/\cur[k]? = some (.int .i64 (x:Int)):=by
 rcases h with ⟨h0,⟨rfl,rfl⟩ | ⟨g,cap,cur,rfl,h1,h2,h3,h4,h5,h6⟩⟩
 ·refine ⟨none,0,rfl,fun k x hx=>?_⟩
  have:l=[]:=List.length_eq_zero_iff.1 (by rw[aDg] at h0;omega)
  subst this;cases hx
 refine ⟨_,_,rfl,fun k x hx=>⟨g,cur,rfl,h1,h2,?_⟩⟩
 have hv:(natsV l)[k]? = some (.int .i64 (x:Int)):=by unfold natsV;rw[List.getElem?_map,hx];rfl
 have:=aBj (by simpa using h6) hv
 simpa using this
theorem aYq {B:Nat}{v:Value}{l:List Nat}{w:World}(hn:l.length<=1000000)(h:w.ownsRow B 3 1 v l.length (natsV l)) :
  Calls Tryz.prog 120 #[v] w (NatsIs l w):=by
 rcases h with ⟨h0,⟨rfl,hl⟩ | ⟨g,cap,cur,rfl,h1,h2,h3,h4,h5,h6⟩⟩
 ·refine (Tryz.slices_Clone_int_nil 0 0 w).mono ?_
  rintro e w' ⟨rfl,rfl⟩
  have:l=[]:=List.length_eq_zero_iff.1 hl
  subst this
  exact ⟨_,rfl,World.ownsRow_nil _ _ _ _,Below.refl _ _⟩
 refine (Tryz.slices_Clone_int g 0 l.length cap (l.map fun i:Nat=>(i:Int)) w (by simp) (by omega) (fun j hj=>?_)).mono ?_
 ·rw[List.length_map] at hj
  have hv:(natsV l)[j]? = some (.int .i64 ((l[j]:Nat):Int)):=by unfold natsV;rw[List.getElem?_map,List.getElem?_eq_getElem hj];rfl
  have:=aBj (by simpa using h6) hv
  rw[Nat.zero_add,cell_of_row w _ _ _ _ _ h2]
  simp only[List.getD_eq_getElem?_getD,List.getElem?_map,List.getElem?_eq_getElem hj]
  simpa using this
 rintro e w' ⟨v,rfl,h7,_,h8⟩
 refine ⟨v,rfl,?_,h8⟩
 rw[List.take_of_length_le (by simp),List.map_map] at h7
 exact h7
end Go.Proofs.YtcemkikgaeghjaaGreatDoor
