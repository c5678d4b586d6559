/- Texts of the walks, together: Walk: slices.SortFunc of files. Plain laws: what three small trees come to is a tree. Walk: treemerge.Merge. Lists of clashes: held against each other. Plain law: where nothing was renamed, and nothing clashes, the whole is at each path as the sides say. Plain laws: one file moved, deleted, added. Plain law: what awake of the laws of merged trees asks. -/
import Derived.Test.YtcemkikgaeghjaaGreatDoorG11
import Derived.Test.YtcemkikgaeghjaaGreatDoorG32
set_option maxHeartbeats 8000000
set_option maxRecDepth 100000
open Go.Lib (hid)
namespace Go.Proofs.YtcemkikgaeghjaaGreatDoor
open Go.RowKit Go.Sort
def cmpF (x y:FV):Int:=cmpS x.path y.path
theorem grow2 (u:World)(a b:Obj):(u.alloc a).alloc b=Sort.grow (u.drewN 0) #[a,b]:=by
 have:(u.heap.push a).push b=u.heap++#[a,b]:=by
  apply Array.toList_inj.1;simp
 unfold World.alloc World.drewN Sort.grow
 simp only[this]
 rfl
theorem bEz {x y:FV}{w:World}:Calls Tryz.prog 30 #[.agg #[.string x.path,.bool x.exec,.string x.text],.agg #[.string y.path,.bool y.exec,.string y.text]] w (GrowsI (cmpF x y) w):=by
 have hb1:Below w.heap.size w (w.alloc (.cells #[.string x.path,.bool x.exec,.string x.text] 28)):=(Below.refl _ _).alloc (Nat.le_refl _) _
 have X:=(BoxF.new w x).below (w':=(w.alloc (.cells #[.string x.path,.bool x.exec,.string x.text] 28)).alloc (.cells #[.string y.path,.bool y.exec,.string y.text] 28)) ((Below.refl _ _).alloc (Nat.le_refl _) _)
 have Y:=BoxF.new (w.alloc (.cells #[.string x.path,.bool x.exec,.string x.text] 28)) y
 have c0:=X.c0
 have c1:=Y.c0
 have e1:(w.alloc (.cells #[.string x.path,.bool x.exec,.string x.text] 28)).heap.size=w.heap.size+1:=by simp
 rw[e1] at c1
 have K:=aFx (a:=x.path) (b:=y.path) (w:=(w.alloc (.cells #[.string x.path,.bool x.exec,.string x.text] 28)).alloc (.cells #[.string y.path,.bool y.exec,.string y.text] 28))
 have HG:=hid (grow2 w (.cells #[.string x.path,.bool x.exec,.string x.text] 28) (.cells #[.string y.path,.bool y.exec,.string y.text] 28))
 clear hb1 X Y e1
 go_enter Tryz.func30,Tryz.ntmps30
 go_wp2_with fail
 refine K.mono ?_
 rintro e w1 ⟨rfl,rfl⟩
 clear K c0 c1
 go_wp2
 go_ret
 exact ⟨rfl,0,_,HG.out⟩
theorem swoF:SWO (ltOf cmpF) where
 irrefl x:=by unfold ltOf;rw[decide_eq_false];unfold cmpF;rw[aGm];exact List.lt_irrefl _
 trans x y z h1 h2:=by
  unfold ltOf cmpF at *
  rw[decide_eq_true_iff,aGm] at *
  exact List.lt_trans h1 h2
 ntrans x y z h1 h2:=by
  unfold ltOf cmpF at *
  rw[decide_eq_false_iff_not,aGm] at *
  intro h3
  have h4:y.path.data.toList<=x.path.data.toList:=h1
  have h5:z.path.data.toList<=y.path.data.toList:=h2
  exact (List.le_trans h5 h4) h3
def SortedFs (w0:World)(v:Value)(l:List FV)(w:World)(e:Ending) (w':World):Prop:=
 e=.returned (.tuple #[])/\w'.ownsRow w0.heap.size 28 3 v l.length ((sortF l).flatMap FV.cells)/\w.grownBy w' v.ownBlock
theorem bCn {w0 w:World}{v:Value}{l:List FV}(ho:w.ownsRow w0.heap.size 28 3 v l.length (l.flatMap FV.cells))(hd:l.Pairwise fun x y=>x.path≠y.path)(hl:l.length<=100000) :
  Calls Tryz.prog 29 #[v,.func (.func 30) #[] #[]] w (SortedFs w0 v l w):=by
 rcases ho.2 with ⟨rfl,hl0⟩ | ⟨g,cap,cur,rfl,hgB,hg,hnc,hcm,hcs,ht⟩
 ·have:l=[]:=List.length_eq_zero_iff.1 hl0
  subst this
  have K:=AnyF.slices_SortFunc_none Tryz.sortF none 0 (.func (.func 30) #[] #[]) w
  refine Calls.mono (show Calls Tryz.prog 29 _ w _ from K) ?_
  rintro e w' ⟨rfl,rfl⟩
  exact ⟨rfl,ho,(aAr (Below.refl _ _)).but _⟩
 have hgw:g<w.heap.size:=aAa hg
 haveI:Inhabited FV:=⟨zF⟩
 have hH:HoldsK FV.cells 3 w g 0 l.toArray:=aRf (by decide:0<3) (fun _=>rfl) hg (by simpa using ht)
 have hcmp:CmpLays Tryz.prog 30 #[] FV.cells 3 cmpF g 0 l.toArray.size w:=by
  intro m os dk _ x y
  exact bEz
 have eg:∀args w,(callFunc 30 args).run Tryz.prog w=.ok (.enter 30 args) w:=enters_of Tryz.func30 (by kernel_rfl) rfl
 have K:=AnyQ.slices_SortFunc Tryz.sortF 3 Tryz.isAgg28 Tryz.sizeOf28 FV.cells (fun _=>rfl) (fun x=>by have:=aBi [x];simpa using this) cmpF swoF 30 #[] g 0 cap l.toArray w eg hcmp hH hgw (by simp;omega)
 simp only[List.size_toArray] at K
 refine Calls.mono (show Calls Tryz.prog 29 _ w _ from K) ?_
 rintro e w' ⟨rfl,d',m,os,hperm,hsort,rfl⟩
 obtain ⟨hsz,_,hpm⟩:=hperm
 have hds':d'.size=l.length:=hsz.trans (by simp)
 have hpl:d'.toList.Perm l:=by
  have e1:d'.extract 0 l.length=d':=by rw[<-hds',Array.extract_size]
  have e2:l.toArray.extract 0 l.length=l.toArray:=by
   simp
  rw[e1,e2] at hpm
  exact hpm
 have hdd:d'.toList.Pairwise fun a b=>a.p<b.p:=by
  have hdp:d'.toList.Pairwise fun x y=>x.path≠y.path:=hpl.symm.pairwise hd (fun h e=>h e.symm)
  rw[List.pairwise_iff_getElem] at hdp ⊢
  intro i j hi hj hij
  have h1:=hdp i j hi hj hij
  have hi':i<d'.size:=by simpa using hi
  have hj':j<d'.size:=by simpa using hj
  have h2:=hsort i j (Nat.zero_le _) hij (by omega)
  rw[getElem!_pos d' i hi',getElem!_pos d' j hj'] at h2
  unfold ltOf cmpF at h2
  rw[decide_eq_false_iff_not,aGm] at h2
  rw[Array.getElem_toList,Array.getElem_toList] at h1 ⊢
  have h3:d'[i].p<=d'[j].p:=h2
  rcases Classical.em (d'[i].p<d'[j].p) with h | h
  ·exact h
  exact absurd (FV.p_inj.1 (List.le_antisymm h3 h)) h1
 have hso:=aWa l hd
 have heq:d'.toList=sortF l:=aRe hdd hso.1.pair fun x=>by rw[hso.2 x,hpl.mem_iff]
 obtain ⟨cur',hg',hcs',ht'⟩:=aPq (n:=m) (os:=os) (d:=d') (enc:=FV.cells) (by decide:0<3) (fun _=>rfl) hg (by rw[hds',hcs];omega)
 have hsl:(sortF l).length=l.length:=by rw[<-heq,Array.length_toList,hds']
 refine ⟨rfl,⟨by rw[FV.len_flat,hsl],.inr ⟨g,cap,cur',rfl,hgB,hg',hnc,hcm,hcs'.trans hcs,?_⟩⟩,aHe _ _ _ _ _ _ _ _⟩
 rw[<-hds',ht',heq]
end Go.Proofs.YtcemkikgaeghjaaGreatDoor
namespace Go.Proofs.YtcemkikgaeghjaaGreatDoor
structure Small (l:List FV):Prop where
 tree:treeOk l=true
 len:l.length<=30
 text:∀f∈l,f.text.size<=2000
theorem aIj:∀(l:List FV){out:List FV},(∀f∈out,f.text.size<=2000)->∀f∈l.foldl playStep out,f.text.size<=2000
 | [],_,h=>h
 | x::l,out,h=>by
  rw[List.foldl_cons]
  refine aIj l fun f hf=>?_
  unfold playStep at hf
  split at hf
  ·exact h f hf
  rename_i h1
  split at hf
  ·rename_i h2
   by_cases hk:PutOk out x
   ·rw[bAt hk] at hf
    rcases aCa.1 hf with rfl | hf
    ·omega
    exact h f (aDa.1 hf).1
   exact absurd h2 (bAf hk).1
  exact h f hf
theorem aKb (l:List FV):Small (playF l):=⟨bEr l,bDq l,aIj _ (by simp)⟩
theorem aLz:∀(l:List (FV×Int))(m:List FV×List CL),(m.1.Pairwise fun x y=>clashP x.p y.p=false)->
  ((l.foldl putX m).1.Pairwise fun x y=>clashP x.p y.p=false)/\(∀x∈(l.foldl putX m).1,x∈m.1\/∃p∈l,p.1=x)/\(l.foldl putX m).1.length<=m.1.length+l.length
 | [],m,h=>⟨h,fun x hx=>.inl hx,by simp⟩
 | p::l,m,h=>by
  rw[List.foldl_cons]
  by_cases h1:(m.1.any fun x=>clashP x.p p.1.p)=true
  ·have h2:(putX m p).1=m.1:=by unfold putX putM;rw[if_pos h1]
   obtain ⟨a,b,c⟩:=aLz l (putX m p) (by rw[h2];exact h)
   rw[h2] at b c
   refine ⟨a,fun x hx=>?_,by rw[List.length_cons];omega⟩
   rcases b x hx with h3 | ⟨q,hq,e⟩
   ·exact .inl h3
   exact .inr ⟨q,List.mem_cons_of_mem _ hq,e⟩
  have h2:(putX m p).1=m.1++[p.1]:=by unfold putX putM;rw[if_neg h1]
  have h5:∀x∈m.1,clashP x.p p.1.p=false:=fun x hx=>by
   cases e:clashP x.p p.1.p with
   | false=>rfl
   | true=>exact absurd (List.any_eq_true.2 ⟨x,hx,e⟩) h1
  obtain ⟨a,b,c⟩:=aLz l (putX m p) (by
   rw[h2]
   refine List.pairwise_append.2 ⟨h,List.pairwise_singleton _ _,fun x hx y hy=>?_⟩
   simp only[List.mem_singleton] at hy
   subst hy;exact h5 x hx)
  rw[h2] at b c
  refine ⟨a,fun x hx=>?_,by rw[List.length_append,List.length_singleton] at c;rw[List.length_cons];omega⟩
  rcases b x hx with h3 | ⟨q,hq,e⟩
  ·rcases List.mem_append.1 h3 with h3 | h3
   ·exact .inl h3
   simp only[List.mem_singleton] at h3
   exact .inr ⟨p,by simp,h3.symm⟩
  exact .inr ⟨q,List.mem_cons_of_mem _ hq,e⟩
theorem bAc (l:List FV):(sortF l).length=l.length:=by
 have key:∀(l out:List FV),(l.foldl (fun out f=>sortedIn out f) out).length=out.length+l.length:=by
  intro l
  induction l with
  | nil=>intro out;simp
  | cons f l ih=>intro out;rw[List.foldl_cons,ih,aCn,List.length_cons];omega
 rw[sortF,key];simp
theorem aMe {a b:List FV}{f g:FV}(h:whereF a b f=some g):g∈b:=by
 unfold whereF at h
 cases h1:findP b f.path with
 | some x=>rw[h1] at h;injection h with h;subst h;exact (aEj h1).1
 | none=>
  rw[h1] at h
  dsimp only at h
  cases h2:movedF a b f.path with
  | none=>rw[h2] at h;cases h
  | some d=>rw[h2] at h;exact (aEj h).1
end Go.Proofs.YtcemkikgaeghjaaGreatDoor
namespace Go.Proofs.YtcemkikgaeghjaaGreatDoor
open Go.RowKit
def MergeIs (R:List FV×List CL×Int)(w:World)(e:Ending) (w':World):Prop:=
 ∃(A C:Option Addr) (c d:Nat),e=.returned (.tuple #[.slice A R.1.length c,.slice C R.2.1.length d,.int .i64 R.2.2])/\RdF w' w'.heap.size A R.1.length c R.1/\Rd w' w'.heap.size 3 C R.2.1.length d (R.2.1.flatMap CL.cells)/\Below w.heap.size w w'
theorem aBs {R:List FV×List CL×Int}{k:Int} {w w':World}(h:R=([],[],k))(hb:Below w.heap.size w w'):MergeIs R w (.returned (.tuple #[.slice none 0 0,.slice none 0 0,.int .i64 k])) w':=by
 subst h
 exact ⟨none,none,0,0,rfl,RdF.none_ _ _,Rd.none_ _ _ _,hb⟩
theorem aDq {f:FV}(h:FileOk f):f.path.size<=20000/\f.text.size<=20000:=by
 refine ⟨?_,h.2⟩
 have h1:=h.1
 unfold pathOk at h1
 simp only[Bool.and_eq_true,decide_eq_true_eq] at h1
 have h2:f.p.length<=100:=h1.1.1.2
 have h3:f.p.length=f.path.size:=by unfold FV.p;rw[Array.length_toList];rfl
 omega
theorem aNs {base side:List FV}{L:List (Nat×Nat)}(hp:L.Perm (pairsF base side)):keepP (addedP base side L) side=addedF base side:=by
 unfold keepP addedF
 refine List.filter_congr fun f _=>?_
 unfold addedP
 rw[aYo hp,Bool.not_or]
 congr 1
 cases findP base f.path<;>rfl
theorem aZq (base a b:List FV):(wholeF base a b).1.Pairwise fun x y=>x.path≠y.path:=by
 rw[aJn]
 refine (aLz (acts base a b) ([],[]) List.Pairwise.nil).1.imp fun {x y} h e=>?_
 have e2:x.p=y.p:=by unfold FV.p;rw[e]
 simp[clashP,e2] at h
theorem aBf {P:Program}{fn:Func}{p q r:Tmp}(h:fn.results=#[.tmp p,.tmp q,.tmp r])(tmps:Array Value)(w:World):(results fn tmps).run P w=.ok (.tuple #[tmps.getD p undef,tmps.getD q undef,tmps.getD r undef]) w:=by
 simp[results,h]
theorem aDv {w u:World}{n c:Nat}{A:Option Addr}{l:List FV}(h:RdF w w.heap.size A n c l)(hs:∀b o ob,A=some ⟨b,o,none⟩->w.heap[b]? = some ob->u.heap[b]? = some ob):RdF u u.heap.size A n c l:=by
 refine ⟨⟨h.row.len,h.row.cap,fun hn=>?_⟩,h.len,h.fits⟩
 obtain ⟨b,o,e,hb,hc⟩:=h.row.at_ hn
 have e0:=Array.getElem?_eq_getElem hb
 have e1:=(hs b o _ e e0).trans e0.symm
 refine ⟨b,o,e,?_,fun j v hv=>?_⟩
 ·exact aAa (e1.trans e0)
 rw[<-hc j v hv];unfold World.cell?;rw[e1]
theorem MI.watch {Z:Nat->Obj->Prop}{w0 w:World}{mb N:Nat}{fv cv:Value}{m:List FV×List CL}(h:MI Z w0 w mb fv cv m N) :
  MI (fun k ob=>w.heap[k]? = some ob/\k≠mb/\fv.ownBlock≠some k/\cv.ownBlock≠some k) w0 w mb fv cv m N:=
 ⟨h.hs,h.f1,h.c1,h.lo,h.bel,h.fits,h.few1,h.few2,fun _ _ hz=>hz⟩
theorem aPo {w0:World}{B s n c:Nat}{A:Option Addr}{base side:List FV}{L:List (Nat×Nat)}(hn:n<=100000)(h:SideIs w0 B s (.slice A n c) base side L)(hr:RdF w0 w0.heap.size A n c side)(hd:(base.map FV.path).Nodup)(hp:L.Perm (pairsF base side)):Finds w0 s (whereF base side):=fun f u hu hf=>by
 rw[<-bCt hd hp]
 exact bCi hn (h.below hu) (hr.to hu hu.size) (by unfold maxLen;omega)
theorem aNh {base side:List FV}(h:∀f∈side,f.path.size<=20000/\f.text.size<=20000):SmallF (whereF base side):=fun _ g hg=>h g (aMe hg)
theorem aMg {l:List FV}(h:treeOk l=true):(l.map FV.path).Nodup:=by
 rw[List.nodup_iff_pairwise_ne,List.pairwise_map]
 exact (aAv.1 h).2.2.1.pair.imp fun {a b} hab e=>absurd (FV.p_inj.2 e) (aHf hab)
theorem MI.start {w0:World}:MI (fun _ _=>False) w0 (w0.alloc (.cells #[.slice none 0 0,.slice none 0 0] 55)) w0.heap.size (.slice none 0 0) (.slice none 0 0) ([],[]) 0:=
 ⟨heap_alloc_new _ _,World.ownsRow_nil _ _ _ _,World.ownsRow_nil _ _ _ _,Nat.le_refl _,(Below.refl _ _).alloc (Nat.le_refl _) _,by simp,Nat.le_refl _,Nat.le_refl _,fun _ _ h=>h.elim⟩
theorem aZb (w:World):(Instr.build 55 #[]).run Tryz.prog w=.ok (.agg #[.slice none 0 0,.slice none 0 0]) w:=by
 go_simp
theorem aJm {w:World}{n1 n2 n3 c1 c2 c3:Nat}{A1 A2 A3:Option Addr}{base a b:List FV}(hL:Lm w)(h1:n1<=17592186044416)(h2:n2<=17592186044416)(h3:n3<=17592186044416)
  (r1:RdF w w.heap.size A1 n1 c1 base) (r2:RdF w w.heap.size A2 n2 c2 a) (r3:RdF w w.heap.size A3 n3 c3 b) :
  Calls Tryz.prog 14 #[.slice A1 n1 c1,.slice A2 n2 c2,.slice A3 n3 c3] w (MergeIs (treemergeF base a b) w):=by
 have K1:=aDk h1 hL r1
 have HR2:=hid (fun (u:World) (hu:Below w.heap.size w u)=>aDk h2 (hL.to hu) (r2.to hu hu.size))
 have HR3:=hid (fun (u:World) (hu:Below w.heap.size w u)=>aDk h3 (hL.to hu) (r3.to hu hu.size))
 have HR:=hid (And.intro r1 (And.intro r2 r3))
 have HL:=hid hL
 clear r1 r2 r3 hL h1 h2 h3
 have HT:=hid (show treemergeF base a b=if treeOk base=false\/treeOk a=false\/treeOk b=false then ([],[],5) else if treeOk (sortF (wholeF base a b).1)=false then ([],[],6) else (sortF (wholeF base a b).1,sortC (wholeF base a b).2,0) from rfl)
 go_enter Tryz.func14,Tryz.ntmps14
 go_wp2_with fail
 refine K1.mono ?_
 rintro e w1 ⟨rfl,hb1⟩
 have K2:=HR2.out w1 hb1
 clear K1
 cases ht1:treeOk base with
 | false=>
  have HN:=hid (show treemergeF base a b=([],[],5) by rw[HT.out];exact if_pos (.inl ht1))
  clear K2 ht1
  go_wp2
  refine bodyPost_ret (aBf rfl _ _) rfl ?_
  exact aBs HN.out hb1
 | true=>
  have HT1:=hid ht1
  clear ht1
  go_wp2_with fail
  refine K2.mono ?_
  rintro e w2 ⟨rfl,hb2⟩
  have hb2':Below w.heap.size w w2:=hb1.trans (hb2.mono hb1.size)
  have K3:=HR3.out w2 hb2'
  clear K2 hb1 hb2
  cases ht2:treeOk a with
  | false=>
   have HN:=hid (show treemergeF base a b=([],[],5) by rw[HT.out];exact if_pos (.inr (.inl ht2)))
   clear K3 ht2
   go_wp2
   refine bodyPost_ret (aBf rfl _ _) rfl ?_
   exact aBs HN.out hb2'
  | true=>
   have HT2:=hid ht2
   clear ht2
   go_wp2_with fail
   refine K3.mono ?_
   rintro e w3 ⟨rfl,hb3⟩
   have hb3':Below w.heap.size w w3:=hb2'.trans (hb3.mono hb2'.size)
   clear K3 hb2' hb3
   cases ht3:treeOk b with
   | false=>
    have HN:=hid (show treemergeF base a b=([],[],5) by rw[HT.out];exact if_pos (.inr (.inr ht3)))
    clear ht3
    go_wp2
    refine bodyPost_ret (aBf rfl _ _) rfl ?_
    exact aBs HN.out hb3'
   | true=>
    have HT3:=hid ht3
    clear ht3
    have HB3:=hid hb3'
    have hl1:=aBr HT1.out
    have hl2:=aBr HT2.out
    have hl3:=aBr HT3.out
    rw[HR.out.1.len] at hl1
    rw[HR.out.2.1.len] at hl2
    rw[HR.out.2.2.len] at hl3
    have HS1:=hid (fun f hf=>aDq ((aAv.1 HT1.out).2.1 f hf))
    have HS2:=hid (fun f hf=>aDq ((aAv.1 HT2.out).2.1 f hf))
    have HS3:=hid (fun f hf=>aDq ((aAv.1 HT3.out).2.1 f hf))
    have K4:=aKl (HL.out.to hb3') (by omega) (by omega) (HR.out.1.to hb3' hb3'.size) (HR.out.2.1.to hb3' hb3'.size) (fun f hf=>by have:=(HS1.out f hf).2;omega) (fun f hf=>by have:=(HS2.out f hf).2;omega)
    clear hb3' HR2 HR3
    go_wp2_with fail
    refine K4.mono ?_
    rintro e w4 ⟨L1,s1,hp1,rfl,hsi1,hb4⟩
    have HB4:=hid (HB3.out.trans (hb4.mono HB3.out.size))
    have HSI1:=hid hsi1
    have HP1:=hid hp1
    have K5:=aKl (HL.out.to HB4.out) (by omega) (by omega) (HR.out.1.to HB4.out HB4.out.size) (HR.out.2.2.to HB4.out HB4.out.size) (fun f hf=>by have:=(HS1.out f hf).2;omega) (fun f hf=>by have:=(HS3.out f hf).2;omega)
    clear K4 hp1 hsi1 hb4 HB3
    go_wp2_with fail
    refine K5.mono ?_
    rintro e w5 ⟨L2,s2,hp2,rfl,hsi2,hb5⟩
    have HB5:=hid (HB4.out.trans (hb5.mono HB4.out.size))
    have HSI2:=hid hsi2
    have HP2:=hid hp2
    replace HSI1:=hid (HSI1.out.below hb5)
    have hz:=aZb w5
    have HR1':=hid (HR.out.1.to HB5.out HB5.out.size)
    have HR2':=hid (HR.out.2.1.to HB5.out HB5.out.size)
    have HR3':=hid (HR.out.2.2.to HB5.out HB5.out.size)
    have HND:=hid (aMg HT1.out)
    have HL5:=hid (HL.out.to HB5.out)
    have K6:=bDg HL5.out (MI.start (w0:=w5)) (by omega) HR1'.out HS1.out (aPo (by omega) HSI1.out HR2'.out HND.out HP1.out) (aPo (by omega) HSI2.out HR3'.out HND.out HP2.out) (aNh HS2.out) (aNh HS3.out)
    rw[bFf] at K6
    clear K5 hp2 hsi2 hb5 HB4
    go_wp2_with fail
    refine K6.mono ?_
    rintro e w6 ⟨rfl,fv,cv,hm6⟩
    have HM6:=hid hm6
    clear K6 hm6 hz
    have hb6:=HM6.out.bel
    have K7:=aOp (by omega) (by omega) (HSI1.out.below hb6) (HR2'.out.to hb6 hb6.size) (HR1'.out.to hb6 hb6.size) (fun f hf=>by have:=(HS2.out f hf).1;unfold maxLen;omega)
    rw[aNs HP1.out] at K7
    clear hb6
    go_wp2_with fail
    refine K7.mono ?_
    rintro e w7 ⟨A7,c7,rfl,hr7,hb7,hn7⟩
    have HM7:=hid (HM6.out.below hb7)
    have HX7:=hid (And.intro hr7 (And.intro hb7 hn7))
    clear K7 hr7 hb7 hn7
    have hb7:=HM7.out.bel
    have K8:=aOp (by omega) (by omega) (HSI2.out.below hb7) (HR3'.out.to hb7 hb7.size) (HR1'.out.to hb7 hb7.size) (fun f hf=>by have:=(HS3.out f hf).1;unfold maxLen;omega)
    rw[aNs HP2.out] at K8
    clear hb7
    go_wp2_with fail
    refine K8.mono ?_
    rintro e w8 ⟨A8,c8,rfl,hr8,hb8,hn8⟩
    have HM8:=hid (HM7.out.below hb8).watch
    have HW1:Hid (∀u:World,(∀k ob,(w8.heap[k]? = some ob/\k≠w5.heap.size/\fv.ownBlock≠some k/\cv.ownBlock≠some k)->u.heap[k]? = some ob)->RdF u u.heap.size A7 (addedF base a).length c7 (addedF base a)):=hid (fun u hu=>by
     refine aDv (HX7.out.1.to hb8 hb8.size) fun b o ob e hq=>?_
     have h1:=HX7.out.2.2 b o none e
     have h2:=aAa HM6.out.hs
     exact hu b ob ⟨hq,by omega,fun e=>by have:=(HM6.out.f1.lt _ e).2;omega,fun e=>by have:=(HM6.out.c1.lt _ e).2;omega⟩)
    have HW2:Hid (∀u:World,(∀k ob,(w8.heap[k]? = some ob/\k≠w5.heap.size/\fv.ownBlock≠some k/\cv.ownBlock≠some k)->u.heap[k]? = some ob)->RdF u u.heap.size A8 (addedF base b).length c8 (addedF base b)):=hid (fun u hu=>by
     refine aDv hr8 fun b o ob e hq=>?_
     have h1:=hn8 b o none e
     have h2:=aAa HM7.out.hs
     exact hu b ob ⟨hq,by omega,fun e=>by have:=(HM7.out.f1.lt _ e).2;omega,fun e=>by have:=(HM7.out.c1.lt _ e).2;omega⟩)
    have hla:(addedF base a).length<=n2:=by rw[<-HR.out.2.1.len];exact List.length_filter_le _ _
    have hlb:(addedF base b).length<=n3:=by rw[<-HR.out.2.2.len];exact List.length_filter_le _ _
    have K9:=aXk HL5.out HM8.out (by omega) HW1.out HW2.out (fun f hf=>HS2.out f (List.mem_filter.1 hf).1) (fun f hf=>HS3.out f (List.mem_filter.1 hf).1)
    rw[show addM (addedF base a) (addedF base b) (base.foldl (keptM base a b) ([],[]))=wholeF base a b from rfl] at K9
    clear K8 hr8 hb8 hn8
    go_wp2_with fail
    refine K9.mono ?_
    rintro e w9 ⟨rfl,fv9,cv9,hm9⟩
    have HM9:=hid hm9
    clear K9 hm9 HM6 HM7 HM8 HX7 HW1 HW2
    have HD:=hid (aZq base a b)
    generalize wholeF base a b=W at *
    obtain ⟨fs,cl⟩:=W
    have hf1:=HM9.out.few1
    have hf2:=HM9.out.few2
    have HFT:=hid HM9.out.fits
    dsimp only at hf1 hf2 HT HD ⊢
    have K10:=bCn (w0:=w5) HM9.out.f1 HD.out (by show fs.length<=_;omega)
    have d0:w9.cell? ⟨w5.heap.size,0,none⟩=some fv9:=by rw[Lib.cell_of_heap HM9.out.hs];rfl
    go_wp2_with fail
    refine K10.mono ?_
    rintro e w10 ⟨rfl,ho10,hg10⟩
    have hs10:=(hg10.block _ (aAa HM9.out.hs) (fun e=>aCl HM9.out.f1 HM9.out.hs (by decide) e.symm)).trans HM9.out.hs
    have hc10:=aGd HM9.out.c1 hg10 (fun g e=>aIs HM9.out.c1 HM9.out.f1 (by decide) g e)
    have HF10:=hid ho10
    have HS10:=hid hs10
    have HC10:=hid hc10
    have HB10:=hid (HM9.out.bel.grown hg10 HM9.out.bel.size (fun g hg=>(HM9.out.f1.lt g hg).1))
    have K11:=bBq (w0:=w5) (by show cl.length<=_;omega) hc10
    have d1:w10.cell? ⟨w5.heap.size,1,none⟩=some cv9:=by rw[Lib.cell_of_heap hs10];rfl
    clear K10 d0 ho10 hg10 hs10 hc10 HM9
    go_wp2_with fail
    refine K11.mono ?_
    rintro e w11 ⟨rfl,ho11,hg11⟩
    have hs11:=(hg11.block _ (aAa HS10.out) (fun e=>aCl HC10.out HS10.out (by decide) e.symm)).trans HS10.out
    have hf11:=aGd HF10.out hg11 (fun g e=>aIs HF10.out HC10.out (by decide) g e)
    have HB11:=hid (HB10.out.grown hg11 HB10.out.size (fun g hg=>(HC10.out.lt g hg).1))
    obtain ⟨A9,c9,rfl,hc9⟩:=aAg hf11
    obtain ⟨A10,c10,rfl,hc10⟩:=aAg ho11
    have HS11:=hid hs11
    have hfl:(sortF fs).length=fs.length:=bAc fs
    have HRF:=hid (show RdF w11 w11.heap.size A9 fs.length c9 (sortF fs) from ⟨Rd.of_own hf11 hc9,hfl,fun x hx=>by have:=HFT.out x (((aWa fs HD.out).2 x).1 hx);omega⟩)
    have HRC:=hid (show Rd w11 w11.heap.size 3 A10 cl.length c10 ((sortC cl).flatMap CL.cells) from Rd.of_own ho11 hc10)
    have d0:w11.cell? ⟨w5.heap.size,0,none⟩=some (.slice A9 fs.length c9):=by rw[Lib.cell_of_heap hs11];rfl
    have K12:=aDk (w:=w11) (by show fs.length<=17592186044416;omega) (HL5.out.to HB11.out) HRF.out
    have hcl:(sortC cl).length=cl.length:=aFo cl
    clear K11 d1 ho11 hg11 hs11 hf11 HF10 HS10 HC10 HB10
    go_wp2_with fail
    refine K12.mono ?_
    rintro e w12 ⟨rfl,hb12⟩
    have HBB:=hid ((HB5.out.trans (HB11.out.mono HB5.out.size)).trans (hb12.mono (Nat.le_trans HB5.out.size HB11.out.size)))
    have HS12:=hid ((hb12.block _ (aAa HS11.out)).trans HS11.out)
    have HRF2:=hid (HRF.out.to hb12 hb12.size)
    have HRC2:=hid (HRC.out.to hb12 hb12.size)
    clear K12 d0 hb12 HS11 HRF HRC
    have HT0:Hid (treemergeF base a b=if treeOk (sortF fs)=false then ([],[],6) else (sortF fs,sortC cl,0)):=hid (by
     rw[HT.out,if_neg]
     rintro (h | h | h)
     ·rw[HT1.out] at h;cases h
     ·rw[HT2.out] at h;cases h
     rw[HT3.out] at h;cases h)
    cases ht4:treeOk (sortF fs) with
    | false=>
     have HN:=hid (show treemergeF base a b=([],[],6) by rw[HT0.out];exact if_pos ht4)
     clear ht4
     go_wp2
     refine bodyPost_ret (aBf rfl _ _) rfl ?_
     exact aBs HN.out HBB.out
    | true=>
     have HN:=hid (show treemergeF base a b=(sortF fs,sortC cl,0) by rw[HT0.out];exact if_neg (by rw[ht4];decide))
     clear ht4
     go_wp2
     refine aAd (fun u=>Below w12.heap.size w12 u) [(true,0),(true,1),(true,2),(true,3),(true,4),(true,5),(true,6),(true,7),(true,8),(true,9),(true,10)] mixed (by kernel_rfl) (Below.refl _ _).drew ?_
     intro T M Q hT hT' hM hQ
     have m0:M ⟨w5.heap.size,0,none⟩=some (.slice A9 fs.length c9):=hM _ _ fun w' hw=>by rw[Lib.cell_of_heap ((hw.block _ (aAa HS12.out)).trans HS12.out)];rfl
     have m1:M ⟨w5.heap.size,1,none⟩=some (.slice A10 cl.length c10):=hM _ _ fun w' hw=>by rw[Lib.cell_of_heap ((hw.block _ (aAa HS12.out)).trans HS12.out)];rfl
     clear hM
     simp only[qcmp]
     simp (maxSteps:=9^7) only[↓qpre,aAb,aAf,aAc,m0,m1]
     refine hQ _ _ ?_
     clear hQ hT hT' m0 m1
     go_wp2
     refine bodyPost_ret (aBf rfl _ _) rfl ?_
     refine ⟨A9,A10,c9,c10,?_,?_,?_,HBB.out.drew⟩
     ·rw[HN.out,hfl,hcl];rfl
     ·rw[HN.out,hfl];exact HRF2.out.drew
     rw[HN.out,hcl];exact HRC2.out.drew
theorem CL.eq_iff {x y:CL}:x=y↔x.path=y.path/\x.kind=y.kind/\x.text=y.text:=by
 cases x;cases y;simp
theorem aRo (x y:CL)(w:World):Calls Tryz.prog 43 #[.agg #[.string x.path,.int .i64 x.kind,.string x.text],.agg #[.string y.path,.int .i64 y.kind,.string y.text]] w (BoolBelow (decide (x=y)) w):=by
 have hb:∀o1 o2:Obj,Below w.heap.size w ((w.alloc o1).alloc o2):=fun o1 o2=>((Below.refl _ _).alloc (Nat.le_refl _) _).alloc (by simp) _
 cases hd:decide (x=y) with
 | true=>
  obtain rfl:=of_decide_eq_true hd
  clear hd
  go_enter Tryz.func43,Tryz.ntmps43
  go_wp2
  go_ret
  exact ⟨rfl,hb _ _⟩
 | false=>
  have he:=of_decide_eq_false hd
  clear hd
  by_cases h_path:x.path=y.path
  case neg=>
   have hn2:¬x.path.toList=y.path.toList:=beq_eq_false_iff_ne.1 (aBe h_path)
   clear he
   go_enter Tryz.func43,Tryz.ntmps43
   go_wp2
   go_ret
   exact ⟨rfl,hb _ _⟩
  have e_path:=h_path
  by_cases h_kind:x.kind=y.kind
  case neg=>
   have hn2:=aOk h_kind
   clear he
   go_enter Tryz.func43,Tryz.ntmps43
   go_wp2
   go_ret
   exact ⟨rfl,hb _ _⟩
  have e_kind:=h_kind
  by_cases h_text:x.text=y.text
  case neg=>
   have hn2:¬x.text.toList=y.text.toList:=beq_eq_false_iff_ne.1 (aBe h_text)
   clear he
   go_enter Tryz.func43,Tryz.ntmps43
   go_wp2
   go_ret
   exact ⟨rfl,hb _ _⟩
  have e_text:=h_text
  exact absurd (CL.eq_iff.2 ⟨h_path,h_kind,h_text⟩) he
theorem aYd {G:FuncId}{A B:Option Addr}{n ca m cb:Nat}{xs ys:List CL}{w:World}(eq:CL->CL->Bool)(hn:n<=17592186044416)(hm:m<=17592186044416)
  (ha:Rd w w.heap.size 3 A n ca (xs.flatMap CL.cells)) (hb:Rd w w.heap.size 3 B m cb (ys.flatMap CL.cells)) (hxl:xs.length=n) (hyl:ys.length=m) (hG:isGo Tryz.prog G=true)
  (HC:∀x∈xs,∀y∈ys,∀v,Below w.heap.size w v->Calls Tryz.prog G #[.agg #[.string x.path,.int .i64 x.kind,.string x.text],.agg #[.string y.path,.int .i64 y.kind,.string y.text]] v (BoolBelow (eq x y) v)) :
  Calls Tryz.prog 42 #[.slice A n ca,.slice B m cb,.func (.func G) #[] #[]] w (BoolBelow (lall2 eq xs ys) w):=by
 have HX:=hid hxl
 have HY:=hid hyl
 by_cases h:n=m
 ·subst h
  go_enter Tryz.func42,Tryz.ntmps42
  go_wp2
  go_loopw[7] (fun i wr=>∃k:Nat,k<=n/\i=.int .i64 k/\Below w.heap.size w wr/\Hid (EqTo eq xs ys k)) (fun i _=>n-(intOf i).toNat)
  case atStart=>exact ⟨0,Nat.zero_le _,rfl,Below.refl _ _,fun j _ _ hj=>absurd hj (Nat.not_lt_zero _)⟩
  obtain ⟨k,hk,rfl,hbw,hj⟩:=hrel
  by_cases hlt:k<n
  ·obtain ⟨b0,o0,u,eA,hb0,hx,hxm,p⟩:=T.rd_flat CL.cells_len (by omega) ha HX.out hlt
   obtain ⟨b1,o1,v,eB,hb1,hy,hym,r⟩:=T.rd_flat CL.cells_len (by omega) hb HY.out hlt
   cases eA
   cases eB
   have HU:=hid hx
   have HV:=hid hy
   clear hx hy
   have hbs:=hbw.size
   have C:=HC u hxm v hym
   go_wp2
   refine aAd (fun w'=>Below w.heap.size w w') (qe [9] 11) mixed (by kernel_rfl) hbw.drew ?_
   intro T M Q hT hT' hM hQ
   have mp:∀j v,(CL.cells u)[j]? = some v->M ⟨b0,o0+k*3+j,none⟩=some v:=fun j v hv=>hM _ _ fun w' hw=>(hw.cell (p:=⟨b0,o0+k*3+j,none⟩) (by show b0<_;omega)).trans (p j v hv)
   have mr:∀j x,(CL.cells v)[j]? = some x->M ⟨b1,o1+k*3+j,none⟩=some x:=fun j v hv=>hM _ _ fun w' hw=>(hw.cell (p:=⟨b1,o1+k*3+j,none⟩) (by show b1<_;omega)).trans (r j v hv)
   have m0:M ⟨b0,o0+k*3,none⟩=some (.string u.path):=mp 0 _ rfl
   have q0:M ⟨b1,o1+k*3,none⟩=some (.string v.path):=mr 0 _ rfl
   have m1:M ⟨b0,o0+k*3+1,none⟩=some (.int .i64 u.kind):=mp 1 _ rfl
   have q1:M ⟨b1,o1+k*3+1,none⟩=some (.int .i64 v.kind):=mr 1 _ rfl
   have m2:M ⟨b0,o0+k*3+2,none⟩=some (.string u.text):=mp 2 _ rfl
   have q2:M ⟨b1,o1+k*3+2,none⟩=some (.string v.text):=mr 2 _ rfl
   clear hM mp mr p r
   simp only[qcmp,Nat.reduceBEq]
   simp (maxSteps:=9^7) only[↓qpre,aAb,aAf,aAc,m0,q0,m1,q1,m2,q2]
   refine ⟨⟨by omega,by omega⟩,⟨by omega,by omega⟩,aAh hG (C _ hbw.drew) rfl rfl ?_⟩
   rintro e w1 ⟨rfl,hb1⟩
   have hbd:Below w.heap.size w w1:=hbw.drew.trans (hb1.mono hbs)
   refine ⟨_,rfl,hT _ hbd,?_⟩
   simp (maxSteps:=9^7) only[↓qpre,aAb,aAc]
   refine hQ _ _ ?_
   clear hQ hT hT' m0 q0 m1 q1 m2 q2 C
   cases he:eq u v with
   | true=>
    have HO:=hid (hj.out.next HU.out HV.out he)
    clear he
    go_wp2
    go_roundw
    case rel=>exact ⟨k+1,by omega,by go_num,hbd,HO.out⟩
    simp[intOf];omega
   | false=>
    have HO:=hid (aMv HU.out HV.out he)
    clear he
    go_wp2
    go_ret
    exact ⟨aAl HO.out.symm,hbd⟩
  obtain rfl:k=n:=by omega
  have HO:=hid (hj.out.done HX.out HY.out)
  go_wp2
  go_ret
  exact ⟨aAl HO.out.symm,hbw⟩
 obtain ⟨h1,h2⟩:=aOk (u:=(n:Int)) (v:=(m:Int)) (by omega)
 have HO:=hid (aMo (eq:=eq) (xs:=xs) (ys:=ys) (by rw[HX.out,HY.out];exact h))
 go_enter Tryz.func42,Tryz.ntmps42
 go_wp2
 go_ret
 exact ⟨aAl HO.out.symm,Below.refl _ _⟩
theorem aMf {A B:Option Addr}{n ca m cb:Nat}{xs ys:List CL}{w:World}(hn:n<=17592186044416)(hm:m<=17592186044416)
  (ha:Rd w w.heap.size 3 A n ca (xs.flatMap CL.cells)) (hb:Rd w w.heap.size 3 B m cb (ys.flatMap CL.cells)) (hxl:xs.length=n) (hyl:ys.length=m) :
  Calls Tryz.prog 17 #[.slice A n ca,.slice B m cb] w (BoolBelow (decide (xs=ys)) w):=by
 have C:=aYd (G:=43) (fun x y=>decide (x=y)) hn hm ha hb hxl hyl (by kernel_rfl) fun x _ y _ v _=>aRo x y v
 rw[aQd] at C
 go_enter Tryz.func17,Tryz.ntmps17
 go_wp2_with fail
 refine C.mono ?_
 rintro e w1 ⟨rfl,hb1⟩
 go_wp2
 go_ret
 exact ⟨rfl,hb1⟩
end Go.Proofs.YtcemkikgaeghjaaGreatDoor
namespace Go.Proofs.YtcemkikgaeghjaaGreatDoor
def outP (a b c:List FV)(p:ByteArray):Option FV:=
 match findP a p,findP b p,findP c p with
 | some f,some o,some t=>some (bothOut f o t).1
 | some _,_,_=>none
 | none,some o,_=>some o
 | none,none,r=>r
theorem bEj (f o:FV)(ho:o.path=f.path):(bothOut f o f).1=o:=by
 unfold bothOut
 dsimp only
 rw[if_pos ho,aIc]
 have e2:(if o.exec=f.exec then f.exec else o.exec)=o.exec:=by by_cases h:o.exec=f.exec<;>simp[h]
 rw[e2,<-ho]
theorem aIx {f:FV}(h:FileOk f):treeOk [f]=true:=by
 refine aAv.2 ⟨by simp,fun g hg=>?_,aDd (List.pairwise_singleton _ _),fun g hg k hk=>?_⟩
 ·simp only[List.mem_singleton] at hg;subst hg;exact h
 simp only[List.mem_singleton] at hg hk;subst hg;subst hk;exact aEw _
theorem aYs (b:List FV):pairsF [] b=[]:=by
 refine List.eq_nil_iff_forall_not_mem.2 fun q hq=>?_
 obtain ⟨f,h,_⟩:=aLp.1 ((aCj [] b).from_ q hq)
 simp at h
theorem aSy {a b:List FV}(h:∀f∈a,findP b f.path≠none):pairsF a b=[]:=by
 refine List.eq_nil_iff_forall_not_mem.2 fun q hq=>?_
 obtain ⟨f,h1,h2,_⟩:=aLp.1 ((aCj a b).from_ q hq)
 exact h f (List.mem_of_getElem? h1) h2
theorem aIt (g:FV)(p:ByteArray):findP [g] p=if g.path=p then some g else none:=by
 unfold findP
 rw[List.find?_cons]
 by_cases h:g.path=p<;>simp[h]
theorem bHu {a b c:List FV}{fs:List FV}{cl:List CL}(ha:treeOk a=true)(hb:treeOk b=true)(hc:treeOk c=true)(h:wholeF a b c=(fs,cl))(ht:treeOk (sortF fs)=true):treemergeF a b c=(sortF fs,sortC cl,0):=by
 rw[treemergeF,if_neg (by rw[ha,hb,hc];simp),h]
 dsimp only
 rw[if_neg (by rw[ht];decide)]
theorem aTf (b:List FV):addedF [] b=b:=by
 refine List.filter_eq_self.2 fun g _=>?_
 rw[aYs];rfl
theorem bFd (b c:List FV):acts [] b c=b.map (actA c)++(c.filter fun y=>(findP b y.path).isNone).map fun y=>(y,0):=by
 unfold acts
 rw[aTf,aTf];rfl
where
 treemerge_theirs_nil {u:FV} (h:FileOk u):treemergeF [] [u] [u]=([u],[],0):=by
  have e:acts [] [u] [u]=[(u,0)]:=by
   rw[bFd]
   have h1:actA [u] u=(u,0):=by unfold actA;rw[aIt,if_pos rfl];simp
   rw[List.map_singleton,h1,List.filter_cons,aIt,if_pos rfl];rfl
  have hw:wholeF [] [u] [u]=([u],[]):=by rw[aJn,e];rfl
  exact bHu aGv (aIx h) (aIx h) hw (aIx h)
def wX:FV:=⟨⟨#[97]⟩,false,⟨#[120,10]⟩⟩
def wY:FV:=⟨⟨#[97]⟩,false,⟨#[121,10]⟩⟩
def wB:FV:=⟨⟨#[98]⟩,false,⟨#[]⟩⟩
theorem okWX:FileOk wX:=⟨by decide +kernel,by decide +kernel⟩
theorem okWY:FileOk wY:=⟨by decide +kernel,by decide +kernel⟩
theorem okWB:FileOk wB:=⟨by decide +kernel,by decide +kernel⟩
theorem aWx {f g:FV}(hf:FileOk f)(hg:FileOk g)(hlt:f.p<g.p)(h1:within f.p g.p=false)(h2:within g.p f.p=false):treeOk [f,g]=true:=by
 refine aAv.2 ⟨by simp,fun k hk=>?_,aDd (List.pairwise_cons.2 ⟨fun x hx=>by simp only[List.mem_singleton] at hx;subst hx;exact hlt,List.pairwise_singleton _ _⟩),fun k hk l hl=>?_⟩
 ·simp only[List.mem_cons,List.mem_nil_iff,or_false] at hk
  rcases hk with rfl | rfl
  ·exact hf
  exact hg
 simp only[List.mem_cons,List.mem_nil_iff,or_false] at hk hl
 rcases hk with rfl | rfl<;>rcases hl with rfl | rfl
 ·exact aEw _
 ·exact h1
 ·exact h2
 exact aEw _
theorem aTz:treemergeF [wX] [wY] [wX,wB]=([wY,wB],[],0):=by
 have hs1:pairsF [wX] [wY]=[]:=aSy fun x hx=>by simp only[List.mem_singleton] at hx;subst hx;rw[aIt,if_pos (show wY.path=wX.path from rfl)];simp
 have f2:findP [wX,wB] wX.path=some wX:=by decide +kernel
 have hs2:pairsF [wX] [wX,wB]=[]:=aSy fun x hx=>by simp only[List.mem_singleton] at hx;subst hx;rw[f2];simp
 have a1:addedF [wX] [wY]=[]:=by
  refine List.eq_nil_iff_forall_not_mem.2 fun x hx=>?_
  obtain ⟨h1,h2⟩:=(aTv hs1).1 hx
  simp only[List.mem_singleton] at h1
  subst h1
  rw[aIt,if_pos (show wX.path=wY.path from rfl)] at h2
  cases h2
 have a2:addedF [wX] [wX,wB]=[wB]:=by
  unfold addedF
  rw[hs2]
  decide +kernel
 have k1:actK [wX] [wY] [wX,wB] wX=some (wY,0):=by
  unfold actK
  rw[aMn hs1,aMn hs2,f2,aIt,if_pos (show wY.path=wX.path from rfl)]
  refine congrArg some ?_
  have h1:=bEj wX wY rfl
  have h2:(bothOut wX wY wX).2=0:=by
   unfold bothOut
   dsimp only
   rw[aIc,if_pos (show wY.path=wX.path from rfl)]
   simp
  exact Prod.ext h1 h2
 have e:acts [wX] [wY] [wX,wB]=[(wY,0),(wB,0)]:=by
  unfold acts
  rw[List.filterMap_cons,k1,a1,a2]
  rfl
 have hw:wholeF [wX] [wY] [wX,wB]=([wY,wB],[]):=by
  rw[aJn,e]
  show putX (putX ([],[]) (wY,0)) (wB,0)=_
  have h1:putX ([],[]) (wY,0)=([wY],[]):=rfl
  rw[h1]
  unfold putX putM
  rw[if_neg (by decide +kernel)];rfl
 have ht:treeOk [wY,wB]=true:=aWx okWY okWB (by decide +kernel) (by decide +kernel) (by decide +kernel)
 have hs:sortF [wY,wB]=[wY,wB]:=by decide +kernel
 have:=bHu (aIx okWX) (aIx okWY) (aWx okWX okWB (by decide +kernel) (by decide +kernel) (by decide +kernel)) hw (by rw[hs];exact ht)
 rw[hs] at this
 exact this
end Go.Proofs.YtcemkikgaeghjaaGreatDoor
