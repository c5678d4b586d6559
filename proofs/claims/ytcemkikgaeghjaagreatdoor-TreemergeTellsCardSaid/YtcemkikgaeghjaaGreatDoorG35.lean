/- Texts of the walks, together: Walks: the document's Ratio and left. Plain: the bits and the numbers of the document's search for renames. Plain: the document's search for renames, second half. Walk: the document's Renames: files of the same text. -/
import Derived.Test.YtcemkikgaeghjaaGreatDoorG07
import Derived.Test.YtcemkikgaeghjaaGreatDoorG22
import Derived.Test.YtcemkikgaeghjaaGreatDoorG24
import Derived.Test.YtcemkikgaeghjaaGreatDoorG34
set_option maxHeartbeats 4000000
set_option maxRecDepth 100000
open Go.Lib (hid)
namespace Go.Proofs.YtcemkikgaeghjaaGreatDoor
open Go.RowKit
theorem aXv {a b:ByteArray}{w:World}(ha:a.size<=1000000)(hb:b.size<=1000000) :
  Calls Tryz.prog 45 #[.string a,.string b] w fun e w'=>e=.returned (.int .i64 (ratioF a b))/\Below w.heap.size w w':=by
 have hla:=aBg a
 have hlb:=aBg b
 have HRF:=hid (show ratioF a b=if 400<(linesF a).length\/400<(linesF b).length then 0 else if (linesF a).length+(linesF b).length=0 then 100 else ((200*lcs (linesF a) (linesF b) / ((linesF a).length+(linesF b).length):Nat):Int) from rfl)
 generalize ratioF a b=R at *
 have K1:=aEi (s:=a) (w:=w) ha
 go_enter Tryz.func45,Tryz.ntmps45
 go_wp2_with fail
 refine K1.mono ?_
 rintro e w1 ⟨A1,c1,rfl,hr1,hb1⟩
 have K2:=aEi (s:=b) (w:=w1) hb
 go_wp2_with fail
 refine K2.mono ?_
 rintro e w2 ⟨A2,c2,rfl,hr2,hb2⟩
 have HB:=hid (hb1.trans (hb2.mono hb1.size))
 have HR1:=hid (hr1.to hb2 hb2.size)
 have HR2:=hid hr2
 clear K1 K2 hr1 hr2 hb1 hb2
 have hcl:=aPc (linesF a) (linesF b)
 generalize linesF a=x at *
 generalize linesF b=y at *
 by_cases h3:x.length+y.length=0
 ·have HF:=hid (HRF.out.trans ((if_neg (by omega)).trans (if_pos h3)))
  have hx0:x.length=0:=by omega
  have hy0:y.length=0:=by omega
  obtain rfl:=List.length_eq_zero_iff.1 hx0
  obtain rfl:=List.length_eq_zero_iff.1 hy0
  clear h3 hx0 hy0 hcl
  go_wp2
  go_ret
  exact ⟨by rw[HF.out];rfl,HB.out⟩
 have hnz0:(((x.length:Int)+y.length) == 0)=false:=by
  have:¬((x.length:Int)+y.length=0):=by omega
  simpa using this
 by_cases h1:400<x.length
 ·have HF:=hid (HRF.out.trans (if_pos (.inl h1)))
  go_wp2
  go_ret
  exact ⟨by rw[HF.out];rfl,HB.out⟩
 by_cases h2:400<y.length
 ·have HF:=hid (HRF.out.trans (if_pos (.inr h2)))
  go_wp2
  go_ret
  exact ⟨by rw[HF.out];rfl,HB.out⟩
 have HF:=hid (HRF.out.trans ((if_neg (by omega)).trans (if_neg h3)))
 have K3:=aTu (by omega) (by omega) HR1.out HR2.out
 generalize lcs x y=v at *
 generalize hxl:x.length=nx at *
 generalize hyl:y.length=ny at *
 clear hxl hyl HR1 HR2 hnz0
 have hnz:¬((nx:Int)+ny=0):=by omega
 have hnz2:((nx:Int)+ny == 0)=false:=by simpa using hnz
 go_wp2_with fail
 refine K3.mono ?_
 rintro e w3 ⟨rfl,hb3⟩
 have HB3:=hid (HB.out.trans (hb3.mono HB.out.size))
 clear K3 hb3
 go_wp2
 go_ret
 exact ⟨by rw[HF.out];push_cast;rfl,HB3.out⟩
def leftB (l other:List FV):List Bool:=(List.range l.length).map (isLone l other)
def boolsV (l:List Bool):List Value:=l.map Value.bool
theorem aSk (l other:List FV):(leftB l other).length=l.length:=by simp[leftB]
theorem aNr (l:List Bool):∀u∈boolsV l,u.oneCell'=true:=by
 intro u hu
 obtain ⟨s,_,rfl⟩:=List.mem_map.1 hu
 rfl
theorem aUp:Elem Tryz.prog 77 4 1 1:=aCw (by kernel_rfl)
theorem aTt (w:World)(b:Bool)(g:Nat)(hg:g=w.heap.size):Rd (w.alloc (.cells #[.bool b] 4)) (w.alloc (.cells #[.bool b] 4)).heap.size 1 (some ⟨g,0,none⟩) 1 1 (boolsV [b]):=by
 subst hg
 exact ⟨rfl,Nat.le_refl _,fun _=>⟨_,0,rfl,by simp,fun j u hu=>by
  rw[Nat.zero_add,World.cell?,heap_alloc_new]
  simpa[boolsV] using hu⟩⟩
theorem bFg (p:Nat->Bool)(k:Nat):(List.range (k+1)).map p=(List.range k).map p++[p k]:=by
 rw[List.range_succ,List.map_append];rfl
def BitsIs (L:List Bool)(w:World)(e:Ending) (w':World):Prop:=∃v,e=.returned v/\w'.ownsRow w.heap.size 4 1 v L.length (boolsV L)/\Below w.heap.size w w'
theorem aSc {A B:Option Addr}{n ca m cb:Nat}{l other:List FV}{w:World}(hn:n<=100000)(hm:m<=100000)(ha:RdF w w.heap.size A n ca l)(hb:RdF w w.heap.size B m cb other) :
  Calls Tryz.prog 44 #[.slice A n ca,.slice B m cb] w (BitsIs (leftB l other) w):=by
 have HL:=hid ha.len
 unfold leftB
 go_enter Tryz.func44,Tryz.ntmps44
 go_wp2
 go_loopw[5,6] (fun out i wr=>∃k:Nat,k<=n/\i=.int .i64 k/\Hid (Below w.heap.size w wr)/\Hid (wr.ownsRow w.heap.size 4 1 out k (boolsV ((List.range k).map (isLone l other))))) (fun _ i _=>n-(intOf i).toNat)
 case atStart=>exact ⟨0,Nat.zero_le _,rfl,hid (Below.refl _ _),hid (World.ownsRow_nil _ _ _ _)⟩
 obtain ⟨k,hk,rfl,HB,HO⟩:=hrel
 by_cases hlt:k<n
 ·obtain ⟨b0,o0,f,rfl,hbb,hx,hmem,h0,h1,h2⟩:=ha.get hlt
  replace h0:=(HB.out.cell (p:=⟨b0,o0+k*3,none⟩) (by show b0<_;omega)).trans h0
  replace h2:=(HB.out.cell (p:=⟨b0,o0+k*3+2,none⟩) (by show b0<_;omega)).trans h2
  have HST:=hid (bFg (isLone l other) k)
  have HIS:=hid (show isLone l other k=((findP other f.path).isNone && !decide (f.text=⟨#[]⟩)) by unfold isLone;rw[hx])
  clear hx hmem h1
  obtain ⟨fp,fx,ft⟩:=f
  dsimp only at h0 h2
  have KF:=aDy (p:=fp) (by omega) (hb.to HB.out HB.out.size)
  have hsz:=HB.out.size
  have h2b:b0<wr.heap.size:=by omega
  generalize hP:(List.range k).map (isLone l other)=P at *
  clear hP
  go_wp2_with fail
  refine KF.mono ?_
  rintro e w1 ⟨rfl,hb1⟩
  have HB1:=hid (HB.out.trans (hb1.mono hsz))
  have HO1:=hid (aAe HO.out hb1)
  replace h2:=(hb1.cell (p:=⟨b0,o0+k*3+2,none⟩) h2b).trans h2
  have h2c:b0<w1.heap.size:=by have:=hb1.size;omega
  clear KF hb1 HB HO h0 hsz h2b
  generalize optF (findP other fp)=g at *
  obtain ⟨gp,gx,gt⟩:=g
  dsimp only
  have hb2:Below w1.heap.size w1 (w1.alloc (.cells #[.string gp,.bool gx,.string gt] 28)):=(Below.refl _ _).alloc (Nat.le_refl _) _
  have h2':=(hb2.cell (p:=⟨b0,o0+k*3+2,none⟩) h2c).trans h2
  have HB2:=hid (HB1.out.trans (hb2.mono HB1.out.size))
  have HO2:=hid (HO1.out.alloc (.cells #[.string gp,.bool gx,.string gt] 28))
  clear hb2 HB1 HO1 h2
  cases hF:findP other fp with
  | some y=>
    have HP2:Hid ((List.range (k+1)).map (isLone l other)=P++[false]):=by unfold Hid;rw[HST.out,HIS.out,hF];simp
    clear hF HST HIS
    simp only[Option.isSome_some]
    have HB3:=hid (HB2.out.alloc HB2.out.size (.cells #[.bool false] 4))
    have HO3:=hid (HO2.out.alloc (.cells #[.bool false] 4))
    have HLI:=hid (aTt (w1.alloc (.cells #[.string gp,.bool gx,.string gt] 28)) false (w1.heap.size+1) (by simp))
    go_wp2_with (at_builtin;refine aAm rfl (.tmp 25) (.tmp 36) 77 rfl aUp rfl rfl HO3.out HLI.out (aNr _) (by unfold maxLen;omega) (by omega) HB3.out.size ?_;intro v7 w7 ho7 hg7 hv7)
    have HB7:=hid (HB3.out.grown hg7 HB3.out.size (fun g hg=>(HO3.out.lt g hg).1))
    have HO7:=hid ho7
    clear ho7 hg7 hv7 HO3 HB3 HLI HO2 HB2
    go_roundw
    case rel=>exact ⟨k+1,by omega,by go_num,HB7,by rw[HP2.out];unfold boolsV;rw[List.map_append];exact HO7⟩
    simp[intOf];omega
  | none=>
   simp only[Option.isSome_none]
   by_cases ht:ft=⟨#[]⟩
   ·have HP2:Hid ((List.range (k+1)).map (isLone l other)=P++[false]):=by unfold Hid;rw[HST.out,HIS.out,hF];simp[ht]
    subst ht
    clear hF HST HIS
    have HB3:=hid (HB2.out.alloc HB2.out.size (.cells #[.bool false] 4))
    have HO3:=hid (HO2.out.alloc (.cells #[.bool false] 4))
    have HLI:=hid (aTt (w1.alloc (.cells #[.string gp,.bool gx,.string gt] 28)) false (w1.heap.size+1) (by simp))
    go_wp2_with (at_builtin;refine aAm rfl (.tmp 25) (.tmp 36) 77 rfl aUp rfl rfl HO3.out HLI.out (aNr _) (by unfold maxLen;omega) (by omega) HB3.out.size ?_;intro v7 w7 ho7 hg7 hv7)
    have HB7:=hid (HB3.out.grown hg7 HB3.out.size (fun g hg=>(HO3.out.lt g hg).1))
    have HO7:=hid ho7
    clear ho7 hg7 hv7 HO3 HB3 HLI HO2 HB2
    go_roundw
    case rel=>exact ⟨k+1,by omega,by go_num,HB7,by rw[HP2.out];unfold boolsV;rw[List.map_append];exact HO7⟩
    simp[intOf];omega
   have HP2:Hid ((List.range (k+1)).map (isLone l other)=P++[true]):=by unfold Hid;rw[HST.out,HIS.out,hF];simp[ht]
   have e0:=aBe ht
   have e1:ft.toList.isEmpty=false:=by
    cases h:ft.toList with
    | nil=>rw[h] at e0;simp at e0
    | cons=>rfl
   clear hF HST HIS ht e0
   have HB3:=hid (HB2.out.alloc HB2.out.size (.cells #[.bool true] 4))
   have HO3:=hid (HO2.out.alloc (.cells #[.bool true] 4))
   have HLI:=hid (aTt (w1.alloc (.cells #[.string gp,.bool gx,.string gt] 28)) true (w1.heap.size+1) (by simp))
   go_wp2_with (at_builtin;refine aAm rfl (.tmp 25) (.tmp 36) 77 rfl aUp rfl rfl HO3.out HLI.out (aNr _) (by unfold maxLen;omega) (by omega) HB3.out.size ?_;intro v7 w7 ho7 hg7 hv7)
   have HB7:=hid (HB3.out.grown hg7 HB3.out.size (fun g hg=>(HO3.out.lt g hg).1))
   have HO7:=hid ho7
   clear ho7 hg7 hv7 HO3 HB3 HLI HO2 HB2
   go_roundw
   case rel=>exact ⟨k+1,by omega,by go_num,HB7,by rw[HP2.out];unfold boolsV;rw[List.map_append];exact HO7⟩
   simp[intOf];omega
 obtain rfl:k=n:=by omega
 go_wp2
 go_ret
 refine ⟨_,rfl,?_,HB.out⟩
 rw[HL.out,List.length_map,List.length_range];exact HO.out
def bitsL (n:Nat)(l:List Nat):List Bool:=(List.range n).map fun x=>decide (x∈l)
theorem aRy {n:Nat}{l:List Nat}{x:Nat}(h:x<n):(boolsV (bitsL n l))[x]? = some (.bool (decide (x∈l))):=by
 simp[boolsV,bitsL,h]
theorem aTr (n:Nat)(l:List Nat)(i:Nat):(boolsV (bitsL n l)).set i (.bool false)=boolsV (bitsL n (l.filter fun k=>decide (k≠i))):=by
 refine List.ext_getElem (by simp[boolsV,bitsL]) fun j h1 h2=>?_
 rw[List.getElem_set]
 simp only[boolsV,bitsL,List.getElem_map,List.getElem_range]
 split
 ·rename_i h;subst h;simp
 rename_i h
 simp[List.mem_filter,Ne.symm h]
theorem aOg (l other:List FV):leftB l other=bitsL l.length (loneF l other):=by
 unfold leftB bitsL
 refine List.map_congr_left fun x hx=>?_
 rw[aEa]
 cases h:isLone l other x<;>simp[List.mem_filter,h,List.mem_range.1 hx]
def lookI (ps:List (Nat×Nat))(x:Nat):Int:=match ps.find? (fun p=>decide (p.1=x)) with
 | some p=>(p.2:Int)
 | none=>-1
theorem aJu {ps:List (Nat×Nat)}{x:Nat}(h:∀p∈ps,p.1≠x):lookI ps x=-1:=by
 unfold lookI
 rw[List.find?_eq_none.2 fun p hp=>by simpa using h p hp]
theorem aOw {ps:List (Nat×Nat)}{i j:Nat}(h:∀p∈ps,p.1≠i)(x:Nat):lookI (ps++[(i,j)]) x=if x=i then (j:Int) else lookI ps x:=by
 unfold lookI
 rw[List.find?_append]
 by_cases hx:x=i
 ·subst hx
  rw[List.find?_eq_none.2 fun p hp=>by simpa using h p hp]
  simp
 rw[if_neg hx]
 have:([(i,j)]:List (Nat×Nat)).find? (fun p=>decide (p.1=x))=none:=by simp[Ne.symm hx]
 rw[this,Option.or_none]
def toL (n:Nat)(ps:List (Nat×Nat))(k:Nat):List Int:=(List.range n).map fun x=>if x<k then lookI ps x else 0
def intsV (l:List Int):List Value:=l.map (Value.int .i64)
theorem aVb {n:Nat}{ps:List (Nat×Nat)}{k x:Nat}(h:x<n)(hk:x<k):(intsV (toL n ps k))[x]? = some (.int .i64 (lookI ps x)):=by
 simp[intsV,toL,h,hk]
theorem bEp {n:Nat}{ps:List (Nat×Nat)}{k:Nat}(h:∀p∈ps,p.1≠k):(intsV (toL n ps k)).set k (.int .i64 (-1))=intsV (toL n ps (k+1)):=by
 refine List.ext_getElem (by simp[intsV,toL]) fun j h1 h2=>?_
 rw[List.getElem_set]
 simp only[intsV,toL,List.getElem_map,List.getElem_range]
 split
 ·rename_i hj;subst hj;rw[if_pos (by omega),aJu h]
 rename_i hj
 by_cases hlt:j<k
 ·rw[if_pos hlt,if_pos (by omega)]
 rw[if_neg hlt,if_neg (by omega)]
theorem aWt {n:Nat}{ps:List (Nat×Nat)}{k i j:Nat}(h:∀p∈ps,p.1≠i)(hi:i<k):(intsV (toL n ps k)).set i (.int .i64 j)=intsV (toL n (ps++[(i,j)]) k):=by
 refine List.ext_getElem (by simp[intsV,toL]) fun x h1 h2=>?_
 rw[List.getElem_set]
 simp only[intsV,toL,List.getElem_map,List.getElem_range,aOw h]
 split
 ·rename_i hx;subst hx;rw[if_pos hi,if_pos rfl]
 rename_i hx;rw[if_neg (Ne.symm hx)]
def restL (base side:List FV)(i:Nat):List Nat:=(List.range' i (base.length-i)).filter (isLone base side)
theorem aOx (base side:List FV):restL base side 0=loneF base side:=by
 rw[aEa];unfold restL;rw[Nat.sub_zero,List.range_eq_range']
theorem bCj (base side:List FV):restL base side base.length=[]:=by unfold restL;simp
theorem aKk {base side:List FV}{i:Nat}(h:i<base.length):restL base side i=(if isLone base side i then [i] else [])++restL base side (i+1):=by
 unfold restL
 rw[show base.length-i=(base.length-(i+1))+1 by omega,List.range'_succ,List.filter_cons]
 split<;>simp
theorem bEk {base side:List FV}{i x:Nat}(h:x∈restL base side i):i<=x/\x<base.length:=by
 obtain ⟨h1,_⟩:=List.mem_filter.1 h
 have:=List.mem_range'.1 h1
 obtain ⟨k,h2,h3⟩:=this
 omega
structure P1 (base side:List FV) (i:Nat) (is js:List Nat) (ps:List (Nat×Nat)):Prop where
 at_:∃kept,is=kept++restL base side i/\(∀x∈kept,x<i)/\sameF base side (loneF base side) (loneF side base)=(let r:=sameF base side (restL base side i) js;(ps++r.1,kept++r.2.1,r.2.2))
 keys:∀p∈ps,p.1<i/\p.1∉is
 asc:js.Pairwise (·<·)
 lt1:∀x∈is,x<base.length
 lt2:∀y∈js,y<side.length
 asc1:is.Pairwise (·<·)
theorem aWb (l other:List FV):(loneF l other).Pairwise (·<·):=by
 rw[aEa];exact List.Pairwise.filter _ List.pairwise_lt_range
theorem bBt {l other:List FV}{x:Nat}(h:x∈loneF l other):x<l.length:=by
 rw[aEa] at h;exact List.mem_range.1 (List.mem_filter.1 h).1
theorem P1.start (base side:List FV):P1 base side 0 (loneF base side) (loneF side base) []:=
 ⟨⟨[],by rw[aOx];rfl,by simp,by rw[aOx];simp⟩,by simp,aWb _ _,fun _ h=>bBt h,fun _ h=>bBt h,aWb _ _⟩
section
variable {base side:List FV} {i j:Nat} {is js:List Nat} {ps:List (Nat×Nat)}
theorem P1.key (h:P1 base side i is js ps):∀p∈ps,p.1≠i:=fun p hp=>by have:=(h.keys p hp).1;omega
theorem P1.pass (h:P1 base side i is js ps)(hi:i<base.length)(hm:i∉is):P1 base side (i+1) is js ps:=by
 obtain ⟨⟨kept,rfl,h2,h3⟩,h4,h5,h6,h7,h8⟩:=h
 have hn:isLone base side i=false:=by
  cases e:isLone base side i with
  | false=>rfl
  | true=>rw[aKk hi,e] at hm;simp at hm
 have hr:restL base side i=restL base side (i+1):=by rw[aKk hi,hn];simp
 rw[hr] at h3 h4 h6 h8 ⊢
 exact ⟨⟨kept,rfl,fun x hx=>by have:=h2 x hx;omega,h3⟩,fun p hp=>⟨by have:=(h4 p hp).1;omega,(h4 p hp).2⟩,h5,h6,h7,h8⟩
theorem P1.lone (h:P1 base side i is js ps)(hi:i<base.length)(hm:i∈is):restL base side i=i::restL base side (i+1):=by
 obtain ⟨⟨kept,rfl,h2,h3⟩,h4,h5,h6,h7,h8⟩:=h
 rcases List.mem_append.1 hm with hm | hm
 ·have:=h2 i hm;omega
 rw[aKk hi]
 rw[(List.mem_filter.1 hm).2];rfl
theorem P1.skip (h:P1 base side i is js ps)(hi:i<base.length)(hm:i∈is)(hf:∀j∈js,textAt side j≠textAt base i):P1 base side (i+1) is js ps:=by
 have hr:=h.lone hi hm
 obtain ⟨⟨kept,rfl,h2,h3⟩,h4,h5,h6,h7,h8⟩:=h
 have hff:js.find? (fun j=>decide (textAt side j=textAt base i))=none:=List.find?_eq_none.2 fun j hj=>by simpa using hf j hj
 rw[hr,sameF,hff] at h3
 rw[hr] at h4 h6 h8 ⊢
 refine ⟨⟨kept++[i],by simp,?_,by rw[h3];simp⟩,fun p hp=>⟨by have:=(h4 p hp).1;omega,(h4 p hp).2⟩,h5,h6,h7,h8⟩
 intro x hx
 rcases List.mem_append.1 hx with hx | hx
 ·have:=h2 x hx;omega
 simp at hx;omega
theorem P1.take (h:P1 base side i is js ps)(hi:i<base.length)(hm:i∈is)(hj:j∈js)(ht:textAt side j=textAt base i)(hf:∀k∈js,k<j->textAt side k≠textAt base i) :
  P1 base side (i+1) (is.filter fun k=>decide (k≠i)) (js.filter fun k=>decide (k≠j)) (ps++[(i,j)]):=by
 have hr:=h.lone hi hm
 obtain ⟨⟨kept,rfl,h2,h3⟩,h4,h5,h6,h7,h8⟩:=h
 have hff:js.find? (fun j=>decide (textAt side j=textAt base i))=some j:=by
  obtain ⟨q,hq,rfl⟩:=List.getElem_of_mem hj
  refine aPe (j:=q) (List.getElem?_eq_getElem hq) (by simpa using ht) fun a y ha hy=>?_
  obtain ⟨hya,rfl⟩:=List.getElem?_eq_some_iff.1 hy
  have:=(List.pairwise_iff_getElem.1 h5) a q hya hq ha
  simpa using hf _ (List.getElem_mem hya) this
 rw[hr,sameF,hff] at h3
 rw[hr] at h4 h6 h8 ⊢
 have hk:i∉kept:=fun hm'=>by have:=h2 i hm';omega
 have hk2:i∉restL base side (i+1):=fun hm'=>by have:=(bEk hm').1;omega
 have hF:(kept++i::restL base side (i+1)).filter (fun k=>decide (k≠i))=kept++restL base side (i+1):=by
  rw[List.filter_append,List.filter_cons,List.filter_eq_self.2 (fun x hx=>by simp;rintro rfl;exact hk hx),List.filter_eq_self.2 (fun x hx=>by simp;rintro rfl;exact hk2 hx)]
  simp
 rw[hF]
 refine ⟨⟨kept,rfl,fun x hx=>by have:=h2 x hx;omega,by rw[h3];simp⟩,?_,h5.filter _,?_,fun y hy=>h7 y (List.mem_filter.1 hy).1,h8.sublist (List.Sublist.append_left (List.sublist_cons_self i _) kept)⟩
 ·intro p hp
  rcases List.mem_append.1 hp with hp | hp
  ·refine ⟨by have:=(h4 p hp).1;omega,fun hm'=>(h4 p hp).2 ?_⟩
   rcases List.mem_append.1 hm' with h' | h'
   ·exact List.mem_append_left _ h'
   exact List.mem_append_right _ (List.mem_cons_of_mem _ h')
  simp at hp;subst hp
  refine ⟨by simp,fun hm'=>?_⟩
  rcases List.mem_append.1 hm' with h' | h'
  ·exact hk h'
  exact hk2 h'
 intro x hx
 refine h6 x ?_
 rcases List.mem_append.1 hx with h' | h'
 ·exact List.mem_append_left _ h'
 exact List.mem_append_right _ (List.mem_cons_of_mem _ h')
theorem P1.done (h:P1 base side base.length is js ps):sameF base side (loneF base side) (loneF side base)=(ps,is,js):=by
 obtain ⟨⟨kept,rfl,h2,h3⟩,h4,h5,h6,h7,h8⟩:=h
 rw[h3,bCj];simp[sameF]
end
structure P2 (base side:List FV) (is js:List Nat) (ps:List (Nat×Nat)):Prop where
 at_:∃n,is.length<=n/\pairsF base side=ps++alikeF base side n is js
 keys:∀p∈ps,p.1∉is
 asc1:is.Pairwise (·<·)
 asc2:js.Pairwise (·<·)
 lt1:∀x∈is,x<base.length
 lt2:∀y∈js,y<side.length
section
variable {base side:List FV} {is js:List Nat} {ps:List (Nat×Nat)}
theorem P1.next (h:P1 base side base.length is js ps):P2 base side is js ps:=by
 have hd:=h.done
 obtain ⟨_,h4,h5,h6,h7,h8⟩:=h
 exact ⟨⟨is.length,Nat.le_refl _,by unfold pairsF;rw[hd]⟩,fun p hp=>(h4 p hp).2,h8,h5,h6,h7⟩
theorem P2.more {x y:Nat}(h:P2 base side is js ps)(hb:bestF base side is js=some (x,y)) :
  P2 base side (is.filter fun k=>decide (k≠x)) (js.filter fun k=>decide (k≠y)) (ps++[(x,y)])/\x∈is/\y∈js/\(is.filter fun k=>decide (k≠x)).length<is.length:=by
 obtain ⟨⟨n,hn,hp⟩,hk,a1,a2,l1,l2⟩:=h
 obtain ⟨n2,e1,e2,e3⟩:=aPb hn hb
 obtain ⟨m1,m2⟩:=aLi hb
 refine ⟨⟨⟨n2,e2,by rw[hp,e1];simp⟩,?_,a1.filter _,a2.filter _,fun z hz=>l1 z (List.mem_filter.1 hz).1,fun z hz=>l2 z (List.mem_filter.1 hz).1⟩,m1,m2,e3⟩
 intro p hp2 hm
 rcases List.mem_append.1 hp2 with h' | h'
 ·exact hk p h' (List.mem_filter.1 hm).1
 simp at h';subst h'
 simpa using (List.mem_filter.1 hm).2
theorem P2.done (h:P2 base side is js ps)(hb:bestF base side is js=none):pairsF base side=ps:=by
 obtain ⟨⟨n,hn,hp⟩,_⟩:=h
 rw[hp,aOo hb,List.append_nil]
end
theorem aKa {k:Nat}:∀{l:List Nat},l.Pairwise (·<·)->k∈l->(l.filter fun y=>decide (y<k+1))=(l.filter fun y=>decide (y<k))++[k]
 | [],_,h=>by cases h
 | a::l,hp,h=>by
  obtain ⟨h1,h2⟩:=List.pairwise_cons.1 hp
  by_cases e:a=k
  ·subst e
   have e1:(l.filter fun y=>decide (y<a+1))=[]:=List.filter_eq_nil_iff.2 fun y hy=>by have:=h1 y hy;simp;omega
   have e2:(l.filter fun y=>decide (y<a))=[]:=List.filter_eq_nil_iff.2 fun y hy=>by have:=h1 y hy;simp;omega
   simp[e1,e2]
  have hm:k∈l:=by
   rcases List.mem_cons.1 h with h' | h'
   ·exact absurd h'.symm e
   exact h'
  have hlt:a<k:=h1 k hm
  rw[List.filter_cons,List.filter_cons,aKa h2 hm,if_pos (by simp;omega),if_pos (by simpa using hlt)]
  rfl
theorem aPl {k:Nat}{l:List Nat}(h:k∉l):(l.filter fun y=>decide (y<k+1))=l.filter fun y=>decide (y<k):=by
 refine List.filter_congr fun y hy=>?_
 have:y≠k:=fun e=>h (e▸hy)
 simp only[decide_eq_decide];omega
theorem aNz {m:Nat}{l:List Nat}(h:∀y∈l,y<m):(l.filter fun y=>decide (y<m))=l:=List.filter_eq_self.2 fun y hy=>by simpa using h y hy
def seenL (is js:List Nat)(i k:Nat):List (Nat×Nat):=
 ((is.filter fun x=>decide (x<i)).flatMap fun x=>js.map fun y=>(x,y))++if i∈is then (js.filter fun y=>decide (y<k)).map fun y=>(i,y) else []
theorem aMj (is js:List Nat)(i:Nat):seenL is js i 0=(is.filter fun x=>decide (x<i)).flatMap fun x=>js.map fun y=>(x,y):=by
 unfold seenL;simp
theorem aYf (is js:List Nat):seenL is js 0 0=[]:=by rw[aMj];simp
theorem aRl {is js:List Nat}{i k:Nat}(h:i∉is\/k∉js):seenL is js i (k+1)=seenL is js i k:=by
 unfold seenL
 rcases h with h | h
 ·rw[if_neg h,if_neg h]
 rw[aPl h]
theorem bCo {is js:List Nat}{i k:Nat}(hj:js.Pairwise (·<·))(h1:i∈is)(h2:k∈js):seenL is js i (k+1)=seenL is js i k++[(i,k)]:=by
 unfold seenL
 rw[if_pos h1,if_pos h1,aKa hj h2,List.map_append,List.append_assoc];rfl
theorem bEw {is js:List Nat}{i m:Nat}(hi:is.Pairwise (·<·))(hj:∀y∈js,y<m):seenL is js i m=seenL is js (i+1) 0:=by
 rw[aMj]
 unfold seenL
 rw[aNz hj]
 by_cases h:i∈is
 ·rw[if_pos h,aKa hi h,List.flatMap_append];simp
 rw[if_neg h,aPl h,List.append_nil]
theorem aWk {is js:List Nat}{n:Nat}(hi:∀x∈is,x<n):seenL is js n 0=rowB is js is.length:=by
 rw[aMj,aNz hi];unfold rowB;rw[List.take_of_length_le (Nat.le_refl _)]
def BestV (st:Option (Nat×Nat)×Int)(xv yv mo:Int):Prop:=st.2=mo/\((st.1=none/\mo=49/\xv=-1/\yv=-1)\/∃x y:Nat,st.1=some (x,y)/\xv=x/\yv=y/\50<=mo)
theorem BestV.start (base side:List FV):BestV (foldB base side []) (-1) (-1) 49:=⟨rfl,.inl ⟨rfl,rfl,rfl,rfl⟩⟩
theorem BestV.more {base side:List FV}{l:List (Nat×Nat)}{xv yv:Int}{i j:Nat}{mo r:Int}(h:BestV (foldB base side l) xv yv mo)(hr:ratioF (textAt base i) (textAt side j)=r)(hl:mo<r):BestV (foldB base side (l++[(i,j)])) i j r:=by
 rw[aGs,aLw h.1 hr,if_pos hl]
 refine ⟨rfl,.inr ⟨i,j,rfl,rfl,rfl,?_⟩⟩
 rcases h.2 with ⟨_,h,_⟩ | ⟨_,_,_,_,_,h⟩<;>omega
theorem BestV.same {base side:List FV}{l:List (Nat×Nat)}{xv yv:Int}{i j:Nat}{mo r:Int}(h:BestV (foldB base side l) xv yv mo)(hr:ratioF (textAt base i) (textAt side j)=r)(hl:¬mo<r):BestV (foldB base side (l++[(i,j)])) xv yv mo:=by
 rw[aGs,aLw h.1 hr,if_neg hl];exact h
theorem BestV.none_ {base side:List FV}{is js:List Nat}{n:Nat}{xv yv mo:Int}(h:BestV (foldB base side (seenL is js n 0)) xv yv mo)(hi:∀x∈is,x<n)(hx:xv<0):bestF base side is js=none:=by
 rw[aQq,<-aWk hi]
 rcases h.2 with ⟨h,_⟩ | ⟨x,y,_,h,_⟩
 ·exact h
 omega
theorem BestV.some_ {base side:List FV}{is js:List Nat}{n:Nat}{xv yv mo:Int}(h:BestV (foldB base side (seenL is js n 0)) xv yv mo)(hi:∀x∈is,x<n)(hx:¬xv<0):∃x y:Nat,bestF base side is js=some (x,y)/\xv=x/\yv=y:=by
 rw[aQq,<-aWk hi]
 rcases h.2 with ⟨_,_,h,_⟩ | ⟨x,y,h1,h2,h3,_⟩
 ·omega
 exact ⟨x,y,h1,h2,h3⟩
def renL (base side:List FV)(ps:List (Nat×Nat))(k:Nat):List (ByteArray×ByteArray):=
 (List.range k).filterMap fun i=>if lookI ps i<0 then none else some (pathAt base i,pathAt side (lookI ps i).toNat)
theorem bAa (base side:List FV)(ps:List (Nat×Nat))(k:Nat):renL base side ps (k+1)=renL base side ps k++if lookI ps k<0 then [] else [(pathAt base k,pathAt side (lookI ps k).toNat)]:=by
 unfold renL
 rw[List.range_succ,List.filterMap_append]
 congr 1
 by_cases h:lookI ps k<0<;>simp[h]
theorem aQj (base side:List FV)(ps:List (Nat×Nat))(k:Nat):(renL base side ps k).length<=k:=by
 have:=List.length_filterMap_le (fun i=>if lookI ps i<0 then none else some (pathAt base i,pathAt side (lookI ps i).toNat)) (List.range k)
 simpa[renL] using this
theorem bFo {base side:List FV}{ps:List (Nat×Nat)}{k:Nat}{r:ByteArray×ByteArray}(h:r∈renL base side ps k):∃i,i<k/\r.1=pathAt base i:=by
 obtain ⟨i,hi,he⟩:=List.mem_filterMap.1 h
 by_cases hn:lookI ps i<0
 ·rw[if_pos hn] at he;cases he
 rw[if_neg hn] at he;cases he
 exact ⟨i,List.mem_range.1 hi,rfl⟩
def renF (base side:List FV):List (ByteArray×ByteArray):=renL base side (pairsF base side) base.length
structure RW (w0 w:World) (n m:Nat) (va vb vt:Value) (is js:List Nat) (tl:List Int):Prop where
 bel:Below w0.heap.size w0 w
 own:Owns w w0.heap.size [⟨4,1,va,n,boolsV (bitsL n is)⟩,⟨4,1,vb,m,boolsV (bitsL m js)⟩,⟨3,1,vt,n,intsV tl⟩]
section
variable {w0 w w':World} {n m:Nat} {va vb vt:Value} {is js:List Nat} {tl:List Int}
theorem RW.grow (h:RW w0 w n m va vb vt is js tl)(hb:Below w.heap.size w w'):RW w0 w' n m va vb vt is js tl:=
 ⟨h.bel.trans (hb.mono h.bel.size),⟨fun r hr=>aAe (h.own.own r hr) hb,h.own.nd⟩⟩
theorem RW.a (h:RW w0 w n m va vb vt is js tl):w.ownsRow w0.heap.size 4 1 va n (boolsV (bitsL n is)):=h.own.get (i:=0) rfl
theorem RW.b (h:RW w0 w n m va vb vt is js tl):w.ownsRow w0.heap.size 4 1 vb m (boolsV (bitsL m js)):=h.own.get (i:=1) rfl
theorem RW.t (h:RW w0 w n m va vb vt is js tl):w.ownsRow w0.heap.size 3 1 vt n (intsV tl):=h.own.get (i:=2) rfl
theorem aZz {e:TypeId}{v:Value}{xs:List Value}{x:Nat}{u:Value}(h:w.ownsRow w0.heap.size e 1 v n xs)(hu:xs[x]? = some u):∃g c,v=.slice (some ⟨g,0,none⟩) n c/\w.cell? ⟨g,x,none⟩=some u/\w.frozen? ⟨g,x,none⟩=false/\w0.heap.size<=g/\g<w.heap.size:=by
 have hl:=h.1
 have hx:=(List.getElem?_eq_some_iff.1 hu).1
 rcases id h.2 with ⟨rfl,hn⟩ | ⟨g,c,cur,rfl,_⟩
 ·exfalso;omega
 exact ⟨g,c,rfl,aDi h hu,h.frozenAt x,h.lt g rfl⟩
theorem RW.at_a (h:RW w0 w n m va vb vt is js tl){x:Nat}(hx:x<n):∃g c,va=.slice (some ⟨g,0,none⟩) n c/\w.cell? ⟨g,x,none⟩=some (.bool (decide (x∈is)))/\w.frozen? ⟨g,x,none⟩=false/\w0.heap.size<=g/\g<w.heap.size:=aZz h.a (aRy hx)
theorem RW.at_b (h:RW w0 w n m va vb vt is js tl){x:Nat}(hx:x<m):∃g c,vb=.slice (some ⟨g,0,none⟩) m c/\w.cell? ⟨g,x,none⟩=some (.bool (decide (x∈js)))/\w.frozen? ⟨g,x,none⟩=false/\w0.heap.size<=g/\g<w.heap.size:=aZz h.b (aRy hx)
theorem RW.at_t (h:RW w0 w n m va vb vt is js tl){x:Nat}{u:Int}(hx:(intsV tl)[x]? = some (.int .i64 u)):∃g c,vt=.slice (some ⟨g,0,none⟩) n c/\w.cell? ⟨g,x,none⟩=some (.int .i64 u)/\w.frozen? ⟨g,x,none⟩=false/\w0.heap.size<=g/\g<w.heap.size:=aZz h.t hx
theorem RW.set_a {g c x:Nat}(h:RW w0 w n m (.slice (some ⟨g,0,none⟩) n c) vb vt is js tl) :
  RW w0 (w.setCell ⟨g,x,none⟩ (.bool false)) n m (.slice (some ⟨g,0,none⟩) n c) vb vt (is.filter fun k=>decide (k≠x)) js tl:=by
 have h2:=World.ownsRow.stored h.a x (.bool false)
 rw[aTr] at h2
 exact ⟨h.bel.setCell (h.a.lt g rfl).1 _,Owns.turn (l1:=[]) (r':=⟨4,1,.slice (some ⟨g,0,none⟩) n c,n,_⟩) h.own h2.2 h2.1 (.inl rfl)⟩
theorem RW.set_b {g c x:Nat}(h:RW w0 w n m va (.slice (some ⟨g,0,none⟩) m c) vt is js tl) :
  RW w0 (w.setCell ⟨g,x,none⟩ (.bool false)) n m va (.slice (some ⟨g,0,none⟩) m c) vt is (js.filter fun k=>decide (k≠x)) tl:=by
 have h2:=World.ownsRow.stored h.b x (.bool false)
 rw[aTr] at h2
 exact ⟨h.bel.setCell (h.b.lt g rfl).1 _,Owns.turn (l1:=[_]) (r':=⟨4,1,.slice (some ⟨g,0,none⟩) m c,m,_⟩) h.own h2.2 h2.1 (.inl rfl)⟩
theorem RW.set_t {g c x:Nat}{u:Int} {tl':List Int}(h:RW w0 w n m va vb (.slice (some ⟨g,0,none⟩) n c) is js tl)(he:(intsV tl).set x (.int .i64 u)=intsV tl') :
  RW w0 (w.setCell ⟨g,x,none⟩ (.int .i64 u)) n m va vb (.slice (some ⟨g,0,none⟩) n c) is js tl':=by
 have h2:=World.ownsRow.stored h.t x (.int .i64 u)
 rw[he] at h2
 exact ⟨h.bel.setCell (h.t.lt g rfl).1 _,Owns.turn (l1:=[_,_]) (r':=⟨3,1,.slice (some ⟨g,0,none⟩) n c,n,_⟩) h.own h2.2 h2.1 (.inl rfl)⟩
end
def isTrue:Option Value->Bool
 | some (.bool true)=>true
 | _=>false
def cntV (v:Value)(n:Nat)(w:World):Nat:=match v with
 | .slice (some a) _ _=>((List.range n).filter fun x=>isTrue (w.cell? ⟨a.block,x,none⟩)).length
 | _=>0
def cnt (n:Nat)(is:List Nat):Nat:=((List.range n).filter fun x=>decide (x∈is)).length
theorem bDv {n x:Nat}{is:List Nat}(hx:x∈is)(hn:x<n):cnt n (is.filter fun k=>decide (k≠x))<cnt n is:=by
 unfold cnt
 have e:((List.range n).filter fun z=>decide (z∈is.filter fun k=>decide (k≠x)))=((List.range n).filter fun z=>decide (z∈is)).filter fun z=>decide (z≠x):=by
  rw[List.filter_filter]
  refine List.filter_congr fun z _=>?_
  by_cases h1:z∈is<;>by_cases h2:z=x<;>simp[List.mem_filter,h1,h2]
 rw[e]
 exact List.length_filter_lt_length_iff_exists.2 ⟨x,by simp[List.mem_filter,hx,hn],by simp⟩
theorem RW.cnt {w0 w:World}{n m:Nat}{va vb vt:Value}{is js:List Nat}{tl:List Int}(h:RW w0 w n m va vb vt is js tl):cntV va n w=cnt n is:=by
 unfold Go.Proofs.YtcemkikgaeghjaaGreatDoor.cnt
 rcases Nat.eq_zero_or_pos n with rfl | hn
 ·cases va<;>simp[cntV]
  rename_i a _ _
  cases a<;>simp[]
 obtain ⟨g,c,rfl,_⟩:=h.at_a hn
 show ((List.range n).filter fun x=>isTrue (w.cell? ⟨g,x,none⟩)).length=_
 congr 1
 refine List.filter_congr fun x hx=>?_
 obtain ⟨_,_,e,h2,_⟩:=h.at_a (List.mem_range.1 hx)
 cases e
 rw[h2]
 cases hd:decide (x∈is)<;>rfl
end Go.Proofs.YtcemkikgaeghjaaGreatDoor
