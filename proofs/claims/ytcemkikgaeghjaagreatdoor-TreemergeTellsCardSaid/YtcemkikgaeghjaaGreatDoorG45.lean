/- Texts of the walks, together: Walk: the law TreemergeTells. The world in which the tables of unicode/utf8 lie as the program lays them. Arguments opened by their types' shapes: one law for each kind of type. Files among a law's arguments: opened. Four arguments of a law: opened. -/
import Derived.Test.YtcemkikgaeghjaaGreatDoorRows
import Derived.Test.YtcemkikgaeghjaaGreatDoorCards
import Derived.Test.YtcemkikgaeghjaaGreatDoorTie
import Derived.ProofKit
import Derived.OpenShut
import Derived.Deep.DeepHandedRow
import Derived.SevenTiedAt
import Derived.SizedLaws
import Derived.SliceStrings
import Derived.ChangeArms
import Derived.ChangeSame
import Derived.ChangeOld
import Derived.ChangeSlices
import Derived.Test.YtcemkikgaeghjaaGreatDoorG02
import Derived.Test.YtcemkikgaeghjaaGreatDoorG03
import Derived.Test.YtcemkikgaeghjaaGreatDoorG05
import Derived.Test.YtcemkikgaeghjaaGreatDoorG34
import Derived.Test.YtcemkikgaeghjaaGreatDoorG44
set_option maxHeartbeats 16000000
set_option maxRecDepth 100000
namespace Go.Proofs.YtcemkikgaeghjaaGreatDoor
open Go.RowKit
theorem aMi {l:List FV}(h:few14 l=true):l.length<=20:=by
 unfold few14 at h
 rw[Bool.and_eq_true] at h
 exact of_decide_eq_true h.1
theorem aGr (m:List FV×List CL)(f:FV)(k:Int):(putM m f k).2.length<=m.2.length+1:=by
 unfold putM
 split
 ·simp
 split<;>simp
theorem bCb (base a b:List FV)(m:List FV×List CL)(f:FV):(keptM base a b m f).2.length<=m.2.length+1:=by
 unfold keptM
 split
 ·unfold bothM;exact aGr _ _ _
 ·split
  ·omega
  exact aGr _ _ _
 ·split
  ·omega
  exact aGr _ _ _
 omega
theorem aXs (t:List FV)(m:List FV×List CL)(x:FV):(addOne t m x).2.length<=m.2.length+1:=by
 unfold addOne
 split
 ·exact aGr _ _ _
 split<;>exact aGr _ _ _
theorem aIp {α:Type}{F:List FV×List CL->α->List FV×List CL}(h:∀m x,(F m x).2.length<=m.2.length+1):∀(l:List α)(m:List FV×List CL),(l.foldl F m).2.length<=m.2.length+l.length
 | [],_=>by simp
 | x::l,m=>by
  have h1:=aIp h l (F m x)
  have h2:=h m x
  rw[List.foldl_cons,List.length_cons];omega
theorem aNt (base a b:List FV):(wholeF base a b).2.length<=base.length+a.length+b.length:=by
 unfold wholeF addM
 have h1:=aIp (bCb base a b) base ([],[])
 have h2:=aIp (aXs (addedF base b)) (addedF base a) (base.foldl (keptM base a b) ([],[]))
 have h3:=aIp (F:=fun m y=>putM m y 0) (fun m x=>aGr m x 0) ((addedF base b).filter fun y=>(findP (addedF base a) y.path).isNone) ((addedF base a).foldl (addOne (addedF base b)) (base.foldl (keptM base a b) ([],[])))
 have l1:(addedF base a).length<=a.length:=List.length_filter_le _ _
 have l2:(addedF base b).length<=b.length:=List.length_filter_le _ _
 have l3:=List.length_filter_le (fun y=>(findP (addedF base a) y.path).isNone) (addedF base b)
 simp only[List.length_nil] at h1
 omega
theorem bGb (base a b:List FV):(treemergeF base a b).1.length<=100/\(treemergeF base a b).2.1.length<=300:=by
 unfold treemergeF
 split
 ·simp
 rename_i h
 split
 ·simp
 rename_i h2
 have t0:treeOk base=true:=by cases e:treeOk base with | true=>rfl | false=>exact absurd (.inl e) h
 have t1:treeOk a=true:=by cases e:treeOk a with | true=>rfl | false=>exact absurd (.inr (.inl e)) h
 have t2:treeOk b=true:=by cases e:treeOk b with | true=>rfl | false=>exact absurd (.inr (.inr e)) h
 have t3:treeOk (sortF (wholeF base a b).1)=true:=by cases e:treeOk (sortF (wholeF base a b).1) with | true=>rfl | false=>exact absurd e h2
 refine ⟨aBr t3,?_⟩
 dsimp only
 rw[aFo]
 have:=aNt base a b
 have k0:=aBr t0
 have k1:=aBr t1
 have k2:=aBr t2
 omega
theorem aNv {A A' A'':Option Addr} {n c n' c' n'' c'':Nat} {l l' l'':List FV}{raw:Bool}{w:World}(hn:n<=17592186044416) (hn':n'<=17592186044416) (hn'':n''<=17592186044416)(hm:Lm w)
  (hl:RdF w w.heap.size A n c l) (hl':RdF w w.heap.size A' n' c' l') (hl'':RdF w w.heap.size A'' n'' c'' l'') :
  Calls Tryz.prog 3 #[.slice A n c,.slice A' n' c',.slice A'' n'' c'',.bool raw] w (BoolBelow true w):=by
 have hw:Below w.heap.size w w:=Below.refl _ _
 have hz:=fun u=>aYl u
 go_enter Tryz.func3,Tryz.ntmps3
 go_wp2_with fail
 refine (aUu hn hl).mono ?_
 rintro e v1 ⟨rfl,hx⟩
 replace hw:=hw.trans (hx.mono hw.size)
 replace hm:=hm.below hx hm.lt
 replace hl:=hl.to hx hx.size
 replace hl':=hl'.to hx hx.size
 replace hl'':=hl''.to hx hx.size
 clear hx
 cases hf0:few14 l with
 | false=>
  clear hl hl' hl''
  go_wp2_with fail
  refine (aDr hm).mono ?_
  rintro e v2 ⟨rfl,hx⟩
  replace hw:=hw.trans (hx.mono hw.size)
  replace hm:=hm.below hx hm.lt
  clear hx
  go_wp2
  go_ret
  exact ⟨rfl,hw⟩
 | true=>
  go_wp2_with fail
  refine (aUu hn' hl').mono ?_
  rintro e v3 ⟨rfl,hx⟩
  replace hw:=hw.trans (hx.mono hw.size)
  replace hm:=hm.below hx hm.lt
  replace hl:=hl.to hx hx.size
  replace hl':=hl'.to hx hx.size
  replace hl'':=hl''.to hx hx.size
  clear hx
  cases hf1:few14 l' with
  | false=>
   clear hl hl' hl''
   go_wp2_with fail
   refine (aDr hm).mono ?_
   rintro e v4 ⟨rfl,hx⟩
   replace hw:=hw.trans (hx.mono hw.size)
   replace hm:=hm.below hx hm.lt
   clear hx
   go_wp2
   go_ret
   exact ⟨rfl,hw⟩
  | true=>
   go_wp2_with fail
   refine (aUu hn'' hl'').mono ?_
   rintro e v5 ⟨rfl,hx⟩
   replace hw:=hw.trans (hx.mono hw.size)
   replace hm:=hm.below hx hm.lt
   replace hl:=hl.to hx hx.size
   replace hl':=hl'.to hx hx.size
   replace hl'':=hl''.to hx hx.size
   clear hx
   cases hf2:few14 l'' with
   | false=>
    clear hl hl' hl''
    go_wp2_with fail
    refine (aDr hm).mono ?_
    rintro e v6 ⟨rfl,hx⟩
    replace hw:=hw.trans (hx.mono hw.size)
    replace hm:=hm.below hx hm.lt
    clear hx
    go_wp2
    go_ret
    exact ⟨rfl,hw⟩
   | true=>
    cases raw with
    | true=>
     have e1:=(aMi hf0)
     have e2:=(aMi hf1)
     have e3:=(aMi hf2)
     have h0:=hl.len
     have h1:=hl'.len
     have h2:=hl''.len
     clear hf0 hf1 hf2
     have LB:=hl'.len
     have FB:=hl'.fits
     go_wp2_with fail
     have K:=aWv (f:=file71) (by omega) hl'.row
     refine (K).mono ?_
     rintro e v7 ⟨g,rfl,ho,hx⟩
     replace hw:=hw.trans (hx.mono hw.size)
     replace hm:=hm.below hx hm.lt
     replace hl:=hl.to hx hx.size
     replace hl':=hl'.to hx hx.size
     replace hl'':=hl''.to hx hx.size
     clear hx
     have hr:=Rd.of_own ho (Nat.le_refl _)
     have hin:RdF v7 v7.heap.size (some ⟨g,0,none⟩) n' (n'+3) l':=⟨aQr (k:=3) hr hl'.row.len (by omega),hl'.len,hl'.fits⟩
     clear ho K
     obtain ⟨LX,LP⟩:=bGb l l' l''
     go_wp2_with fail
     have K:=aJm hm (by omega) (by omega) (by omega) hl hin hl''
     refine (K).mono ?_
     rintro e v8 ⟨B1,C1,e1,d1,rfl,hx1,hc1,hx⟩
     replace hw:=hw.trans (hx.mono hw.size)
     replace hm:=hm.below hx hm.lt
     replace hl:=hl.to hx hx.size
     replace hl':=hl'.to hx hx.size
     replace hl'':=hl''.to hx hx.size
     replace hin:=hin.to hx hx.size
     replace hr:=hr.to hx hx.size
     clear hx
     clear K
     go_wp2_with fail
     have K:=aNi hm (by omega) (by omega) (by omega) hl hl' hl''
     refine (K).mono ?_
     rintro e v9 ⟨B2,C2,e2,d2,rfl,hx2,hc2,hx⟩
     replace hw:=hw.trans (hx.mono hw.size)
     replace hm:=hm.below hx hm.lt
     replace hl:=hl.to hx hx.size
     replace hl':=hl'.to hx hx.size
     replace hl'':=hl''.to hx hx.size
     replace hin:=hin.to hx hx.size
     replace hr:=hr.to hx hx.size
     replace hx1:=hx1.to hx hx.size
     replace hc1:=hc1.to hx hx.size
     clear hx
     clear K
     generalize treemergeF l l' l''=TF at *
     obtain ⟨X,P,z⟩:=TF
     dsimp only at LX LP hx1 hx2 hc1 hc2 ⊢
     go_wp2_with fail
     refine (aDr hm).mono ?_
     rintro e v10 ⟨rfl,hx⟩
     replace hw:=hw.trans (hx.mono hw.size)
     replace hm:=hm.below hx hm.lt
     replace hl:=hl.to hx hx.size
     replace hl':=hl'.to hx hx.size
     replace hl'':=hl''.to hx hx.size
     replace hin:=hin.to hx hx.size
     replace hr:=hr.to hx hx.size
     replace hx1:=hx1.to hx hx.size
     replace hc1:=hc1.to hx hx.size
     replace hx2:=hx2.to hx hx.size
     replace hc2:=hc2.to hx hx.size
     clear hx
     go_wp2_with fail
     have K:=aKh (by omega) (by omega) hx1.row hx2.row hx1.len hx2.len
     rw[decide_eq_true rfl] at K
     refine (K).mono ?_
     rintro e v11 ⟨rfl,hx⟩
     replace hw:=hw.trans (hx.mono hw.size)
     replace hm:=hm.below hx hm.lt
     replace hl:=hl.to hx hx.size
     replace hl':=hl'.to hx hx.size
     replace hl'':=hl''.to hx hx.size
     replace hin:=hin.to hx hx.size
     replace hr:=hr.to hx hx.size
     replace hx1:=hx1.to hx hx.size
     replace hc1:=hc1.to hx hx.size
     replace hx2:=hx2.to hx hx.size
     replace hc2:=hc2.to hx hx.size
     clear hx
     clear K hx1 hx2
     go_wp2_with fail
     have K:=aMf (by omega) (by omega) hc1 hc2 rfl rfl
     rw[decide_eq_true rfl] at K
     refine (K).mono ?_
     rintro e v12 ⟨rfl,hx⟩
     replace hw:=hw.trans (hx.mono hw.size)
     replace hm:=hm.below hx hm.lt
     replace hl:=hl.to hx hx.size
     replace hl':=hl'.to hx hx.size
     replace hl'':=hl''.to hx hx.size
     replace hin:=hin.to hx hx.size
     replace hr:=hr.to hx hx.size
     replace hc1:=hc1.to hx hx.size
     replace hc2:=hc2.to hx hx.size
     clear hx
     clear K hc1 hc2
     have ez:(z == z)=true:=beq_self_eq_true z
     go_wp2_with fail
     have K:=aTn (f:=file71) (w:=v12) (g:=g) (by omega) (Nat.le_refl _) hr hl'.row hl'.len
     refine (K).mono ?_
     rintro e v13 ⟨rfl,hx⟩
     replace hw:=hw.trans (hx.mono hw.size)
     replace hm:=hm.below hx hm.lt
     replace hl:=hl.to hx hx.size
     replace hl':=hl'.to hx hx.size
     replace hl'':=hl''.to hx hx.size
     replace hin:=hin.to hx hx.size
     replace hr:=hr.to hx hx.size
     clear hx
     clear K
     go_wp2
     go_ret
     exact ⟨rfl,hw⟩
    | false=>
     clear hf0 hf1 hf2
     go_wp2_with fail
     refine (aFw hn hl).mono ?_
     rintro e v14 ⟨A1,c1,a,rfl,ea,hra,hx⟩
     replace hw:=hw.trans (hx.mono hw.size)
     replace hm:=hm.below hx hm.lt
     replace hl':=hl'.to hx hx.size
     replace hl'':=hl''.to hx hx.size
     clear hx
     have sa:Small a:=by rw[ea];exact aKb l
     clear ea hl
     go_wp2_with fail
     refine (aFw hn' hl').mono ?_
     rintro e v15 ⟨A2,c2,b,rfl,eb,hrb,hx⟩
     replace hw:=hw.trans (hx.mono hw.size)
     replace hm:=hm.below hx hm.lt
     replace hra:=hra.to hx hx.size
     replace hl'':=hl''.to hx hx.size
     clear hx
     have sb:Small b:=by rw[eb];exact aKb l'
     clear eb hl'
     go_wp2_with fail
     refine (aFw hn'' hl'').mono ?_
     rintro e v16 ⟨A3,c3,t,rfl,et,hrt,hx⟩
     replace hw:=hw.trans (hx.mono hw.size)
     replace hm:=hm.below hx hm.lt
     replace hra:=hra.to hx hx.size
     replace hrb:=hrb.to hx hx.size
     clear hx
     have st:Small t:=by rw[et];exact aKb l''
     clear et hl''
     have la:=sa.len
     have lb:=sb.len
     have lt:=st.len
     clear sa sb st
     have LB:=hrb.len
     have FB:=hrb.fits
     go_wp2_with fail
     have K:=aWv (f:=file71) (by omega) hrb.row
     refine (K).mono ?_
     rintro e v17 ⟨g,rfl,ho,hx⟩
     replace hw:=hw.trans (hx.mono hw.size)
     replace hm:=hm.below hx hm.lt
     replace hra:=hra.to hx hx.size
     replace hrb:=hrb.to hx hx.size
     replace hrt:=hrt.to hx hx.size
     clear hx
     have hr:=Rd.of_own ho (Nat.le_refl _)
     have hin:RdF v17 v17.heap.size (some ⟨g,0,none⟩) b.length (b.length+3) b:=⟨aQr (k:=3) hr hrb.row.len (by omega),hrb.len,hrb.fits⟩
     clear ho K
     obtain ⟨LX,LP⟩:=bGb a b t
     go_wp2_with fail
     have K:=aJm hm (by omega) (by omega) (by omega) hra hin hrt
     refine (K).mono ?_
     rintro e v18 ⟨B1,C1,e1,d1,rfl,hx1,hc1,hx⟩
     replace hw:=hw.trans (hx.mono hw.size)
     replace hm:=hm.below hx hm.lt
     replace hra:=hra.to hx hx.size
     replace hrb:=hrb.to hx hx.size
     replace hrt:=hrt.to hx hx.size
     replace hin:=hin.to hx hx.size
     replace hr:=hr.to hx hx.size
     clear hx
     clear K
     go_wp2_with fail
     have K:=aNi hm (by omega) (by omega) (by omega) hra hrb hrt
     refine (K).mono ?_
     rintro e v19 ⟨B2,C2,e2,d2,rfl,hx2,hc2,hx⟩
     replace hw:=hw.trans (hx.mono hw.size)
     replace hm:=hm.below hx hm.lt
     replace hra:=hra.to hx hx.size
     replace hrb:=hrb.to hx hx.size
     replace hrt:=hrt.to hx hx.size
     replace hin:=hin.to hx hx.size
     replace hr:=hr.to hx hx.size
     replace hx1:=hx1.to hx hx.size
     replace hc1:=hc1.to hx hx.size
     clear hx
     clear K
     generalize treemergeF a b t=TF at *
     obtain ⟨X,P,z⟩:=TF
     dsimp only at LX LP hx1 hx2 hc1 hc2 ⊢
     go_wp2_with fail
     refine (aDr hm).mono ?_
     rintro e v20 ⟨rfl,hx⟩
     replace hw:=hw.trans (hx.mono hw.size)
     replace hm:=hm.below hx hm.lt
     replace hra:=hra.to hx hx.size
     replace hrb:=hrb.to hx hx.size
     replace hrt:=hrt.to hx hx.size
     replace hin:=hin.to hx hx.size
     replace hr:=hr.to hx hx.size
     replace hx1:=hx1.to hx hx.size
     replace hc1:=hc1.to hx hx.size
     replace hx2:=hx2.to hx hx.size
     replace hc2:=hc2.to hx hx.size
     clear hx
     go_wp2_with fail
     have K:=aKh (by omega) (by omega) hx1.row hx2.row hx1.len hx2.len
     rw[decide_eq_true rfl] at K
     refine (K).mono ?_
     rintro e v21 ⟨rfl,hx⟩
     replace hw:=hw.trans (hx.mono hw.size)
     replace hm:=hm.below hx hm.lt
     replace hra:=hra.to hx hx.size
     replace hrb:=hrb.to hx hx.size
     replace hrt:=hrt.to hx hx.size
     replace hin:=hin.to hx hx.size
     replace hr:=hr.to hx hx.size
     replace hx1:=hx1.to hx hx.size
     replace hc1:=hc1.to hx hx.size
     replace hx2:=hx2.to hx hx.size
     replace hc2:=hc2.to hx hx.size
     clear hx
     clear K hx1 hx2
     go_wp2_with fail
     have K:=aMf (by omega) (by omega) hc1 hc2 rfl rfl
     rw[decide_eq_true rfl] at K
     refine (K).mono ?_
     rintro e v22 ⟨rfl,hx⟩
     replace hw:=hw.trans (hx.mono hw.size)
     replace hm:=hm.below hx hm.lt
     replace hra:=hra.to hx hx.size
     replace hrb:=hrb.to hx hx.size
     replace hrt:=hrt.to hx hx.size
     replace hin:=hin.to hx hx.size
     replace hr:=hr.to hx hx.size
     replace hc1:=hc1.to hx hx.size
     replace hc2:=hc2.to hx hx.size
     clear hx
     clear K hc1 hc2
     have ez:(z == z)=true:=beq_self_eq_true z
     go_wp2_with fail
     have K:=aTn (f:=file71) (w:=v22) (g:=g) (by omega) (Nat.le_refl _) hr hrb.row hrb.len
     refine (K).mono ?_
     rintro e v23 ⟨rfl,hx⟩
     replace hw:=hw.trans (hx.mono hw.size)
     replace hm:=hm.below hx hm.lt
     replace hra:=hra.to hx hx.size
     replace hrb:=hrb.to hx hx.size
     replace hrt:=hrt.to hx hx.size
     replace hin:=hin.to hx hx.size
     replace hr:=hr.to hx hx.size
     clear hx
     clear K
     go_wp2
     go_ret
     exact ⟨rfl,hw⟩
end Go.Proofs.YtcemkikgaeghjaaGreatDoor
namespace Go.Proofs.YtcemkikgaeghjaaGreatDoor
open Go.ChangeShapes Go.WideShapes Go.ChangeAt Go.RowKit
def uAcc:List Int:=[128,191,160,191,128,159,144,191,128,143,0,0,0,0,0,0,0,0,0,0,0,0,0,0,0,0,0,0,0,0,0,0]
def T.cellsOf (cs:List Value):Obj->Obj
 | .cells _ t frozen=>.cells cs.toArray t frozen
 | o=>o
def uFirst:List Value:=Go.Pinned.utf8FirstZ.map fun (z:Nat)=>Value.int .u8 (Int.ofNat z)
noncomputable def laidU (os:Os):World:=
 { World.holding Tryz.prog os ⟨#[],#[],[]⟩ with heap:=((World.holding Tryz.prog os ⟨#[],#[],[]⟩).heap.modify 1 (T.cellsOf uFirst)).modify 2 (T.cellsOf (uAcc.map fun z=>.int .u8 z)) }
theorem T.list_of {α:Type}{P:Nat->α->Prop}:∀{n:Nat},(∀i,i<n->∃a,P i a)->∃l:List α,l.length=n/\∀i a,l[i]? = some a->P i a
 | 0,_=>⟨[],rfl,by simp⟩
 | n+1,h=>by
  obtain ⟨l,hl,hp⟩:=T.list_of (n:=n) fun i hi=>h i (by omega)
  obtain ⟨a,ha⟩:=h n (by omega)
  refine ⟨l++[a],by simp[hl],fun i x hx=>?_⟩
  rcases Nat.lt_or_ge i n with hi | hi
  ·rw[List.getElem?_append_left (by omega)] at hx;exact hp i x hx
  have hlt:=(List.getElem?_eq_some_iff.1 hx).1
  rw[List.length_append,List.length_singleton] at hlt
  obtain rfl:i=n:=by omega
  rw[List.getElem?_append_right (by omega),hl,Nat.sub_self] at hx
  obtain rfl:=Option.some.inj hx
  exact ha
theorem T.flat_get {α:Type}{f:α->List Value}{k:Nat}(hf:∀a,(f a).length=k)(hk:0<k):∀{l:List α}{j:Nat}{u:Value},(l.flatMap f)[j]? = some u->∃a,l[j / k]? = some a/\(f a)[j % k]? = some u
 | [],j,u,h=>by simp at h
 | x::l,j,u,h=>by
  rw[List.flatMap_cons] at h
  rcases Nat.lt_or_ge j k with hj | hj
  ·rw[List.getElem?_append_left (by rw[hf];exact hj)] at h
   exact ⟨x,by rw[Nat.div_eq_of_lt hj];rfl,by rw[Nat.mod_eq_of_lt hj];exact h⟩
  rw[List.getElem?_append_right (by rw[hf];exact hj),hf] at h
  obtain ⟨a,h1,h2⟩:=T.flat_get hf hk h
  refine ⟨a,?_,?_⟩
  ·rw[Nat.div_eq_sub_div hk hj,List.getElem?_cons_succ];exact h1
  rw[Nat.mod_eq_sub_mod hj];exact h2
theorem T.rd_elems {W:World}{a:Addr}{len cap sz:Nat} {α:Type}{f:α->List Value}{es:List α}(hf:∀x,(f x).length=sz)(hsz:0<sz)(hl:es.length=len)(hcap:len<=cap)
  (hb:0<len->a.block<W.heap.size) (hcell:∀i e,es[i]? = some e->∀t u,(f e)[t]? = some u->W.cell? ((a.add (i*sz)).add t)=some u):Rd W W.heap.size sz (some a) len cap (es.flatMap f):=by
 refine ⟨by rw[len_flat hf,hl],hcap,fun hn=>?_⟩
 obtain ⟨b,off,spot⟩:=a
 have hspot:spot=none:=by
  have h0:=hcell 0 (es[0]'(by omega)) (List.getElem?_eq_getElem _) 0 ((f (es[0]'(by omega)))[0]'(by rw[hf];exact hsz)) (List.getElem?_eq_getElem _)
  simpa[Addr.add] using World.cell?_spot h0
 subst hspot
 refine ⟨b,off,rfl,hb hn,fun j u hu=>?_⟩
 obtain ⟨x,h1,h2⟩:=T.flat_get hf hsz hu
 have:=hcell _ x h1 _ u h2
 rw[add_plain,add_plain] at this
 rw[show off+j=off+j / sz*sz+j % sz by rw[Nat.add_assoc,Nat.mul_comm (j / sz) sz,Nat.div_add_mod]]
 exact this
section
variable {H:Type} {enc:TypeId×Value->H} {W:World}
theorem T.weights_mem_all {P:Program}{e:TypeId}:∀{ds:List (DataW H)}{d:DataW H},d∈ds->∀n∈d.weights P e,n∈DataW.weightsAll P e ds
 | d0::ds,d,hd,n,hn=>by
  simp only[DataW.weightsAll,List.mem_append]
  rcases List.mem_cons.1 hd with rfl | hd
  ·exact .inl hn
  exact .inr (T.weights_mem_all hd n hn)
 | [],_,hd,_,_=>by cases hd
def Opens (enc:TypeId×Value->H)(W:World)(t:TypeId)(E:List Value->Prop):Prop:=
 ∀fuel cs x,DataW.trod enc Tryz.prog W 0 (fun _=>true) true fuel t cs=some x->(∀n∈DataW.weights Tryz.prog t x.1,n<=reachBytes)->E cs
theorem Opens.mono {t:TypeId} {E E':List Value->Prop}(h:Opens enc W t E)(hE:∀cs,E cs->E' cs):Opens enc W t E':=fun fuel cs x h1 h2=>hE _ (h fuel cs x h1 h2)
theorem aPm {t:TypeId}(ht:Tryz.prog.underlying t=some .bool):Opens enc W t fun cs=>∃b:Bool,cs=[.bool b]:=by
 intro fuel cs x h _
 obtain ⟨b,rfl,_⟩:=DataW.trod_bool ht h
 exact ⟨b,rfl⟩
theorem aRt {t:TypeId}(ht:Tryz.prog.underlying t=some .string):Opens enc W t fun cs=>∃s:ByteArray,cs=[.string s]/\s.size<=140737488351232:=by
 intro fuel cs x h hw
 obtain ⟨s,rfl,rfl,_⟩:=DataW.trod_string ht h
 have h1:=hw s.data.toList.length (by simp[DataW.weights])
 have h3:s.data.toList.length=s.size:=rfl
 simp only[reachBytes] at h1
 exact ⟨s,rfl,by omega⟩
theorem aSh {t:TypeId}{fs:Array Field}{E:Nat->List Value->Prop}(ht:Tryz.prog.underlying t=some (.struct fs))(hE:∀(i:Nat)(f:Field),fs[i]? = some f->Opens enc W f.type (E i)) :
  Opens enc W t fun cs=>cs.length=Tryz.prog.cellsOf t/\∀(i:Nat) (f:Field),fs[i]? = some f->E i ((cs.drop f.offset).take (Tryz.prog.cellsOf f.type)):=by
 intro fuel cs x h hw
 obtain ⟨xs,n,rfl,rfl,hl,hlen,hf⟩:=DataW.trod_struct ht h
 refine ⟨hl,fun i f hi=>?_⟩
 have hlt:i<fs.size:=(Array.getElem?_eq_some_iff.1 hi).1
 have h1:=hf i f hi
 rw[List.getElem?_eq_getElem (by omega:i<xs.length)] at h1
 refine hE i f hi _ _ _ h1 fun m hm=>hw m ?_
 simp only[DataW.weights,ht]
 refine DataW.weights_mem_each (j:=i) (t:=f.type) (d:=xs[i].1) ?_ ?_ m hm
 ·simp[hi]
 rw[List.getElem?_map,List.getElem?_eq_getElem (by omega:i<xs.length)];rfl
theorem aUw {α:Type}{f:α->List Value}{Q:α->Prop}{t e:TypeId}{sz bytes:Nat}(ht:Tryz.prog.underlying t=some (.slice e))(hc:Tryz.prog.cellsOf e=sz)(hb:Tryz.prog.bytesOf e=bytes)(hf:∀a,(f a).length=sz)(h0:0<sz)
  (hE:Opens enc W e fun cs=>∃a,cs=f a/\Q a) :
  Opens enc W t fun cs=>∃(A:Option Addr) (n c:Nat) (es:List α),cs=[.slice A n c]/\es.length=n/\Rd W W.heap.size sz A n c (es.flatMap f)/\(∀a∈es,Q a)/\n*bytes<=140737488351232:=by
 intro fuel cs x h hw
 rcases DataW.trod_slice ht h with ⟨rfl,_⟩ | ⟨a,len,cap,elems,rest,n,_,rfl,rfl,_,hl,_,hlen,hel,_,_⟩
 ·exact ⟨none,0,0,[],rfl,rfl,Rd.none_ _ _ _,by simp,by omega⟩
 rw[hc] at hel
 simp only[DataW.weights,ht,hb,List.mem_cons,List.mem_append] at hw
 have hlen2:len*bytes<=140737488351232:=by
  have:=hw _ (.inl rfl)
  simp only[List.length_map,hlen,reachBytes] at this
  have h2:len*bytes<=(len+rest.length)*bytes:=Nat.mul_le_mul_right _ (by omega)
  omega
 have each:∀i,i<len->∃e:α,((∀t u,(f e)[t]? = some u->W.cell? ((a.add (i*sz)).add t)=some u)/\(a.add (i*sz)).block<W.heap.size)/\Q e:=by
  intro i hi
  have h1:=hel i hi
  have hmem:=List.getElem_mem (by omega:i<elems.length)
  rw[List.getElem?_eq_getElem (by omega:i<elems.length),Option.bind_eq_some_iff] at h1
  obtain ⟨cs,hcs,htr⟩:=h1
  obtain ⟨_,hl2,hcell⟩:=World.cells?_some hcs
  have hblk:=World.cells?_block hcs h0
  obtain ⟨q,rfl,hq⟩:=hE _ _ _ htr fun n hn=>hw n (.inr (.inl (T.weights_mem_all (List.mem_map.2 ⟨_,hmem,rfl⟩) n hn)))
  refine ⟨q,⟨fun t u hu=>?_,hblk⟩,hq⟩
  have ht:t<sz:=by rw[<-hf q];exact (List.getElem?_eq_some_iff.1 hu).1
  rw[hcell t ht];exact hu
 obtain ⟨es,hes,hp⟩:=T.list_of each
 refine ⟨_,_,_,es,rfl,hes,T.rd_elems hf h0 hes hl (fun h0=>?_) (fun i e he=>(hp i e he).1.1),fun x hx=>?_,hlen2⟩
 ·have:=(hp 0 (es[0]'(by omega)) (List.getElem?_eq_getElem _)).1.2
  rwa [bBz] at this
 obtain ⟨i,hi,rfl⟩:=List.getElem_of_mem hx
 exact (hp i _ (List.getElem?_eq_getElem hi)).2
theorem aLt {t:TypeId}{E:List Value->Prop}(O:Opens enc W t E){ts:List TypeId}{ds:List (DataW H)}{v:Value}{d:DataW H}{ps:List MemPlace}{j:Nat}
  (hsz:(DataW.weightsEach Tryz.prog ts ds).all (·<=reachBytes)=true) (ht:ts[j]? = some t) (hd:ds[j]? = some d) (h:DataW.Trod enc Tryz.prog W 0 (fun _=>true) true t v d ps):E v.cells.toList:=by
 obtain ⟨fuel,hf⟩:=h
 refine O fuel _ _ hf fun n hn=>?_
 have:=List.all_eq_true.1 hsz _ (DataW.weights_mem_each ht hd n hn)
 simpa using this
end
section
variable {H:Type} {enc:TypeId×Value->H} {W:World}
def FileCells (cs:List Value):Prop:=∃f:FV,cs=f.cells/\f.path.size<=140737488351232/\f.text.size<=140737488351232
theorem aXn:Opens enc W 28 FileCells:=by
 refine (aSh (E:=fun i=>match i with | 0=>fun cs=>∃s:ByteArray,cs=[.string s]/\s.size<=140737488351232 | 1=>fun cs=>∃b:Bool,cs=[.bool b] | _=>fun cs=>∃s:ByteArray,cs=[.string s]/\s.size<=140737488351232) Tryz.underlying28 ?_).mono ?_
 ·intro i f hf
  rcases i with _ | _ | _ | i<;>simp at hf
  ·subst hf;exact aRt Tryz.underlying9
  ·subst hf;exact aPm Tryz.underlying4
  subst hf;exact aRt Tryz.underlying9
 rintro cs ⟨hl,h⟩
 have hl3:cs.length=3:=hl
 match cs,hl3 with
 | [a,b,c],_=>
  obtain ⟨p,e1,h1⟩:=h 0 _ rfl
  obtain ⟨x,e2⟩:=h 1 _ rfl
  obtain ⟨t,e3,h3⟩:=h 2 _ rfl
  have e1':[a]=[Value.string p]:=e1
  have e2':[b]=[Value.bool x]:=e2
  have e3':[c]=[Value.string t]:=e3
  cases e1'
  cases e2'
  cases e3'
  exact ⟨⟨p,x,t⟩,rfl,h1,h3⟩
def FilesCells (W:World)(cs:List Value):Prop:=∃(A:Option Addr) (c:Nat) (l:List FV),cs=[.slice A l.length c]/\RdF W W.heap.size A l.length c l/\l.length<=17592186044416
theorem aHi:Opens enc W 22 (FilesCells W):=by
 refine (aUw (f:=FV.cells) (Q:=fun f=>f.path.size<=140737488351232/\f.text.size<=140737488351232) Tryz.underlying22 (by kernel_rfl) (bytes:=40) (by kernel_rfl) FV.cells_len (by omega) (aXn.mono ?_)).mono ?_
 ·rintro cs ⟨f,h1,h2,h3⟩;exact ⟨f,h1,h2,h3⟩
 rintro cs ⟨A,n,c,es,rfl,rfl,hr,hq,hb⟩
 exact ⟨A,c,es,rfl,⟨hr,rfl,hq⟩,by omega⟩
end
theorem aSt {H:Type}{enc:TypeId×Value->H}{P:Program}{w:World}{base:Nat}{spare:Nat->Bool}{held:Bool}{t0 t1 t2 t3:TypeId}{args:Array Value}{ds:List (DataW H)}{ps:List MemPlace}
  (h:DataW.TrodAll enc P w base spare held [t0,t1,t2,t3] args.toList ds ps) :
  ∃v0 v1 v2 v3 d0 d1 d2 d3 p0 p1 p2 p3,args=#[v0,v1,v2,v3]/\ds=[d0,d1,d2,d3]/\ps=p0++(p1++(p2++p3))/\
   DataW.Trod enc P w base spare held t0 v0 d0 p0/\DataW.Trod enc P w base spare held t1 v1 d1 p1/\DataW.Trod enc P w base spare held t2 v2 d2 p2/\DataW.Trod enc P w base spare held t3 v3 d3 p3:=by
 obtain ⟨v0,vs,d0,ds',p0,q,e,rfl,rfl,h0,h⟩:=trodAll_cons h
 obtain ⟨v1,vs,d1,ds',p1,q,rfl,rfl,rfl,h1,h⟩:=trodAll_cons h
 obtain ⟨v2,vs,d2,ds',p2,q,rfl,rfl,rfl,h2,h⟩:=trodAll_cons h
 obtain ⟨v3,vs,d3,ds',p3,q,rfl,rfl,rfl,h3,h⟩:=trodAll_cons h
 obtain ⟨rfl,rfl,rfl⟩:=trodAll_nil h
 exact ⟨v0,v1,v2,v3,d0,d1,d2,d3,p0,p1,p2,p3,Array.ext' e,rfl,by simp,h0,h1,h2,h3⟩
end Go.Proofs.YtcemkikgaeghjaaGreatDoor
