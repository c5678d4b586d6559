/- Contracts of functions that the law reaches, and plain laws of what they compute. -/
import Derived.Test.YtohblmepajhpaaaGreatDoorG05
import Derived.Test.YtohblmepajhpaaaGreatDoorG06
import Derived.Test.YtohblmepajhpaaaGreatDoorG07
import Derived.Test.YtohblmepajhpaaaGreatDoorG08
set_option maxHeartbeats 4000000
set_option maxRecDepth 100000
open Go.Lib (hid)
namespace Go.Proofs.YtohblmepajhpaaaGreatDoor
open Go.RowKit
theorem aOj:∀{a:Bs} (b:Bs),10∉a->Lib.index (a++10::b) [10]=a.length
 | [],b,_=>by rw[List.nil_append,Lib.index];simp[List.isPrefixOf]
 | c::cs,b,h=>by
  have hc:c≠10:=fun e=>h (by simp[e])
  have hc2:((10:UInt8) == c)=false:=by simp;exact fun e=>hc e.symm
  have ih:=aOj (a:=cs) b fun hm=>h (List.mem_cons_of_mem _ hm)
  rw[List.cons_append,Lib.index,ih]
  simp[List.isPrefixOf,hc2]
theorem aKd:∀(k:Nat) (s:Bs),s.count 10=k->Lib.splitK [10] 1 k s=splitL s++if s=[]\/s.getLast? = some 10 then [[]] else []
 | 0,s,h=>by
  have hm:=List.count_eq_zero.1 h
  rw[aMz hm]
  by_cases e:s=[]
  ·subst e;rfl
  rw[if_neg e,if_neg]
  ·rfl
  rintro (h1 | h1)
  ·exact e h1
  exact hm (List.mem_of_getLast? h1)
 | k+1,s,h=>by
  have hm:10∈s:=by rw[<-List.count_pos_iff];omega
  obtain ⟨a,b,rfl,ha⟩:=List.eq_append_cons_of_mem hm
  have hb:b.count 10=k:=by
   rw[List.count_append,List.count_cons_self,List.count_eq_zero.2 ha] at h;omega
  rw[aOm ha,Lib.splitK,aOj b ha,if_neg (by simp)]
  have e:((a.length:Int)).toNat=a.length:=by omega
  rw[e,List.length_singleton,List.take_append,List.drop_append]
  rw[List.take_of_length_le (by omega),List.drop_of_length_le (by omega),Nat.add_sub_cancel_left,List.nil_append]
  rw[show List.drop 1 (10::b)=b from rfl,aKd k b hb,show List.take 1 (10::b)=[10] from rfl,List.cons_append]
  congr 2
  have h1:(a++10::b=[]\/(a++10::b).getLast? = some 10)↔(b=[]\/b.getLast? = some 10):=by
   cases b with
   | nil=>simp
   | cons y b=>simp[List.getLast?_append,List.getLast?_cons_cons]
  by_cases h2:b=[]\/b.getLast? = some 10
  ·rw[if_pos h2,if_pos (h1.2 h2)]
  rw[if_neg h2,if_neg (fun h=>h2 (h1.1 h))]
theorem bFz (x:ByteArray):ofB x.data.toList=x:=by cases x;simp[ofB]
theorem aVt (s:ByteArray):(Lib.splitB ⟨#[10]⟩ 1 (Lib.countB s ⟨#[10]⟩) s=linesF s++[⟨#[]⟩])\/(Lib.splitB ⟨#[10]⟩ 1 (Lib.countB s ⟨#[10]⟩) s=linesF s/\linesF s≠[]):=by
 have h:=Lib.splitB_data ⟨#[10]⟩ 1 (Lib.countB s ⟨#[10]⟩) s
 have hc:s.data.toList.count 10=Lib.countB s ⟨#[10]⟩:=by rw[<-Lib.count_one]
 have hk:Lib.splitK (⟨#[10]⟩:ByteArray).data.toList 1 (Lib.countB s ⟨#[10]⟩) s.data.toList=_:=aKd _ _ hc
 rw[hk] at h
 have h2:Lib.splitB ⟨#[10]⟩ 1 (Lib.countB s ⟨#[10]⟩) s=(splitL s.data.toList++if s.data.toList=[]\/s.data.toList.getLast? = some 10 then [[]] else []).map ofB:=by
  rw[<-h,List.map_map]
  rw[show (ofB ∘ fun x:ByteArray=>x.data.toList)=id from funext fun x=>bFz x,List.map_id]
 rw[h2,List.map_append]
 by_cases e:s.data.toList=[]\/s.data.toList.getLast? = some 10
 ·rw[if_pos e];exact .inl rfl
 rw[if_neg e]
 refine .inr ⟨by simp[linesF],fun e2=>e (.inl ?_)⟩
 have h3:=aHo s.data.toList
 have h4:splitL s.data.toList=[]:=List.map_eq_nil_iff.1 e2
 rw[h4] at h3
 exact h3.symm
theorem aNr {s:ByteArray}{w:World}(hs:s.size<4294967281)(hm:Lm w) :
  Calls Tryz.prog 219 #[.string s,.string ⟨#[10]⟩] w fun e w'=>e=.returned (.slice (some ⟨w.heap.size,0,none⟩) (Lib.countB s ⟨#[10]⟩+1:Nat) (Lib.countB s ⟨#[10]⟩+1))/\w'=w.alloc (.cells ((Lib.splitB ⟨#[10]⟩ 1 (Lib.countB s ⟨#[10]⟩) s).map Value.string).toArray 9):=by
 obtain ⟨m,hm⟩:=hm
 have hle:=Lib.countB_le ⟨#[10]⟩ (by decide) s.size s (Nat.le_refl _)
 have hlen:=Lib.splitB_all ⟨#[10]⟩ (by decide) 1 _ s rfl
 have c:=Tryz.strings_genSplit s ⟨#[10]⟩ 1 (-1) (Lib.countB s ⟨#[10]⟩+1) m w hs hm (by decide) (by decide) (by decide) (by decide) (by rw[if_pos (by decide)];omega)
 rw[Nat.add_sub_cancel,hlen] at c
 have e2:Lib.cellsOf (Lib.splitB ⟨#[10]⟩ 1 (Lib.countB s ⟨#[10]⟩) s) (Lib.countB s ⟨#[10]⟩+1)=((Lib.splitB ⟨#[10]⟩ 1 (Lib.countB s ⟨#[10]⟩) s).map Value.string).toArray:=by rw[<-hlen];exact Lib.cellsOf_full _
 rw[e2] at c
 generalize Lib.splitB ⟨#[10]⟩ 1 (Lib.countB s ⟨#[10]⟩) s=ps at *
 generalize Lib.countB s ⟨#[10]⟩=k at *
 go_enter Tryz.func219,Tryz.ntmps219
 go_wp2_with fail
 refine c.mono ?_
 rintro e w1 ⟨rfl,rfl⟩
 go_wp2
 go_ret
 exact ⟨rfl,rfl⟩
def LinesIs (L:List ByteArray)(w:World)(e:Ending) (w':World):Prop:=
 ∃A c,e=.returned (.slice A L.length c)/\Rd w' w'.heap.size 1 A L.length c (L.map .string)/\Below w.heap.size w w'
theorem aFz {s:ByteArray}{w:World}(hs:s.size<4294967281)(hm:Lm w) :
  Calls Tryz.prog 181 #[.string s] w (LinesIs (linesF s) w):=by
 have hle:=Lib.countB_le ⟨#[10]⟩ (by decide) s.size s (Nat.le_refl _)
 have hlen:=Lib.splitB_all ⟨#[10]⟩ (by decide) 1 _ s rfl
 have hsp:=aVt s
 have hne:∀l∈linesF s,l≠⟨#[]⟩:=fun l h=>bDh h
 have c:=aNr hs hm
 generalize Lib.splitB ⟨#[10]⟩ 1 (Lib.countB s ⟨#[10]⟩) s=ps at *
 generalize Lib.countB s ⟨#[10]⟩=k at *
 generalize linesF s=L at *
 go_enter Tryz.func181,Tryz.ntmps181
 go_wp2_with fail
 refine c.mono ?_
 rintro e w1 ⟨rfl,rfl⟩
 clear c
 have hb:Below w.heap.size w (w.alloc (.cells (ps.map Value.string).toArray 9)):=(Below.refl _ _).alloc (Nat.le_refl _) _
 have hcell:∀(j:Nat) (x:ByteArray),ps[j]? = some x->(w.alloc (.cells (ps.map Value.string).toArray 9)).cell? ⟨w.heap.size,j,none⟩=some (.string x):=fun j x hx=>by
  rw[World.cell?,heap_alloc_new];simp[hx]
 have hz:(w.alloc (.cells (ps.map Value.string).toArray 9)).heap.size=w.heap.size+1:=by simp
 have HB:=hid hb
 have HZ:=hid hz
 have HC:=hid hcell
 generalize w.alloc (.cells (ps.map Value.string).toArray 9)=w1 at *
 clear hb hz hcell
 have HR:Hid (Rd w1 w1.heap.size 1 (some ⟨w.heap.size,0,none⟩) (k+1) (k+1) (ps.map .string)):=by
  refine ⟨by rw[List.length_map,hlen];omega,Nat.le_refl _,fun _=>⟨_,0,rfl,by rw[HZ.out];omega,fun j u hu=>?_⟩⟩
  rw[List.getElem?_map] at hu
  cases h:ps[j]? with
  | none=>rw[h] at hu;cases hu
  | some x=>rw[h] at hu;cases hu;rw[Nat.zero_add];exact HC.out j x h
 have i1:((k+1:Nat):Int)-1=(k:Int):=by omega
 rcases hsp with rfl | ⟨rfl,hL⟩
 ·have hk:L.length=k:=by simpa using hlen
  have c0:w1.cell? ⟨w.heap.size,k,none⟩=some (.string ⟨#[]⟩):=HC.out k _ (by rw[<-hk];simp)
  have HK:=hid hk
  clear hk hlen hne HC
  go_wp2
  go_ret
  refine ⟨some ⟨w.heap.size,0,none⟩,k+1,by rw[HK.out];rfl,?_,HB.out⟩
  have h:=HR.out.frontS (k:=k) (by omega)
  rw[List.take_left' HK.out] at h
  rw[HK.out]
  exact h
 have hk:ps.length=k+1:=hlen
 obtain ⟨x,hx⟩:∃x,ps[k]? = some x:=⟨_,List.getElem?_eq_getElem (by omega)⟩
 have c0:w1.cell? ⟨w.heap.size,k,none⟩=some (.string x):=HC.out k x hx
 have e0:=aCc (hne x (List.mem_of_getElem? hx))
 have e1:x.toList.isEmpty=false:=by
  cases h:x.toList with
  | nil=>rw[h] at e0;simp at e0
  | cons=>rfl
 have HK:=hid hk
 clear hk hlen HC hx hL
 have HNE:=hid hne
 clear hne
 go_wp2
 go_ret
 refine ⟨some ⟨w.heap.size,0,none⟩,k+1,by rw[HK.out];rfl,?_,HB.out⟩
 rw[HK.out]
 exact HR.out
theorem bFh (l:List ByteArray):(⟨(Lib.join (l.map (·.data.toList)) []).toArray⟩:ByteArray)=joinF l:=by
 have h:∀l:List Bs,Lib.join l []=l.flatten:=by
  intro l
  induction l with
  | nil=>rfl
  | cons x l ih=>
   cases l with
   | nil=>simp[Lib.join]
   | cons y l=>
    have ih':List.intercalate [] (y::l)=(y::l).flatten:=ih
    show List.intercalate [] (x::y::l)=_
    rw[List.intercalate_cons_cons,ih'];simp
 rw[h,joinF,ofB,List.flatMap_def]
theorem aXs {A:Option Addr}{n c:Nat}{l:List ByteArray}{w:World}(hn:n<=140737488355328)(h:Rd w w.heap.size 1 A n c (l.map .string))(hs:(joinF l).size<=140737488355328) :
  Calls Tryz.prog 183 #[.slice A n c] w fun e w'=>e=.returned (.string (joinF l))/\Below w.heap.size w w':=by
 have hl:l.length=n:=by have:=h.len;rw[List.length_map] at this;omega
 have hj:=bFh l
 have hC:Calls Tryz.prog 222 #[.slice A n c,.string ⟨#[]⟩] w fun e w'=>e=.returned (.string (joinF l))/\Below w.heap.size w w':=by
  cases n with
  | zero=>
   have:l=[]:=List.length_eq_zero_iff.1 hl
   subst this
   refine (Tryz.strings_Join_none A c ⟨#[]⟩ w).mono ?_
   rintro e w' ⟨rfl,rfl⟩
   exact ⟨rfl,Below.refl _ _⟩
  | succ n=>
   obtain ⟨b,o,rfl,hb,hc⟩:=h.at_ (by omega)
   rw[<-hl] at hn h ⊢
   have:=Tryz.strings_Join b o c l ⟨#[]⟩ w (fun j x hx=>hc j _ (by rw[List.getElem?_map,hx];rfl)) hb hn h.cap (by
    have e:(Lib.join (l.map (·.data.toList)) (⟨#[]⟩:ByteArray).data.toList).length=(joinF l).size:=by rw[<-hj];rfl
    rw[e];exact hs)
   rw[<-hj]
   exact this
 generalize joinF l=s at *
 go_enter Tryz.func183,Tryz.ntmps183
 go_wp2_with fail
 refine hC.mono ?_
 rintro e w1 ⟨rfl,hb⟩
 go_wp2
 go_ret
 exact ⟨rfl,hb⟩
def FreshS (l:List ByteArray)(w:World)(e:Ending) (w':World):Prop:=
 ∃A c,e=.returned (.slice A l.length c)/\Rd w' w'.heap.size 1 A l.length c (l.map .string)/\(∀a,A=some a->w.heap.size<=a.block)/\Below w.heap.size w w'
theorem aTd {l:List ByteArray} {w w':World}{v:Value}(h:w'.ownsRow w.heap.size 9 1 v l.length (l.map .string))(hb:Below w.heap.size w w'):FreshS l w (.returned v) w':=by
 obtain ⟨A,c,rfl,hc⟩:=aAd h
 refine ⟨A,c,rfl,Rd.of_own h hc,fun a ha=>?_,hb⟩
 subst ha
 exact (h.lt a.block (by rcases h.2 with ⟨e,_⟩ | ⟨g,cap,cur,e,_⟩<;>first | (cases e;done) | (cases e;rfl))).1
theorem aGq {A:Option Addr}{c:Nat}{l:List ByteArray}{w:World}(hn:l.length<=1000000)(h:Rd w w.heap.size 1 A l.length c (l.map .string)) :
  Calls Tryz.prog 260 #[.slice A l.length c] w (FreshS l w):=by
 cases A with
 | none=>
  have h0:l.length=0:=by
   rcases Nat.eq_zero_or_pos l.length with h0 | h0
   ·exact h0
   obtain ⟨b,o,e,_⟩:=h.at_ h0;cases e
  refine (Tryz.slices_Clone_string_nil l.length c w).mono ?_
  rintro e w' ⟨rfl,rfl⟩
  have:l=[]:=List.length_eq_zero_iff.1 h0
  subst this
  refine ⟨none,0,rfl,Rd.none_ _ _ _,?_,Below.refl _ _⟩
  intro a ha
  cases ha
 | some a=>
  rcases Nat.eq_zero_or_pos l.length with h0 | h0
  ·have:l=[]:=List.length_eq_zero_iff.1 h0
   subst this
   refine (Tryz.slices_Clone_string_zero a c w).mono ?_
   rintro e w' ⟨v,rfl,h1,_,h2⟩
   exact aTd h1 h2
  obtain ⟨b,o,e,hb,hc⟩:=h.at_ h0
  injection e with e;subst e
  refine (Tryz.slices_Clone_string b o l.length c l w (Nat.le_refl _) (by omega) (fun j hj=>hc j _ (by simp[hj]))).mono ?_
  rintro e w' ⟨v,rfl,h1,_,h2⟩
  rw[List.take_of_length_le (Nat.le_refl _)] at h1
  exact aTd h1 h2
theorem aJq {A B:Option Addr}{n ca m cb:Nat}{xs ys:List ByteArray}{w:World}(hn:n<=17592186044416)(hm:m<=17592186044416)(h1:Rd w w.heap.size 1 A n ca (xs.map .string))(h2:Rd w w.heap.size 1 B m cb (ys.map .string)) :
  Calls Tryz.prog 289 #[.slice A n ca,.slice B m cb] w (BoolBelow (decide (xs=ys)) w):=by
 have hx:xs.length=n:=by have:=h1.len;rw[List.length_map] at this;omega
 have hy:ys.length=m:=by have:=h2.len;rw[List.length_map] at this;omega
 by_cases hnm:n=m
 ·subst hnm
  rcases Nat.eq_zero_or_pos n with h0 | h0
  ·subst h0
   refine (Tryz.slices_Equal_string_empty A B ca 0 cb w (by omega)).mono ?_
   rintro e w' ⟨rfl,rfl⟩
   rw[List.length_eq_zero_iff.1 hx,List.length_eq_zero_iff.1 hy]
   exact ⟨rfl,Below.refl _ _⟩
  obtain ⟨b1,o1,rfl,_,hc1⟩:=h1.at_ h0
  obtain ⟨b2,o2,rfl,_,hc2⟩:=h2.at_ h0
  refine (Tryz.slices_Equal_string b1 o1 n ca b2 o2 n cb xs ys w (by omega) (by omega) (by omega) (by omega) (fun j hj=>hc1 j _ (by simp[hj])) (fun j hj=>hc2 j _ (by simp[hj]))).mono ?_
  rintro e w' ⟨rfl,q,rfl⟩
  rw[List.take_of_length_le (by omega),List.take_of_length_le (by omega)]
  exact ⟨rfl,⟨rfl,rfl,rfl,Nat.le_refl _,fun _ _=>rfl⟩⟩
 refine (Tryz.slices_Equal_string_lens A B n ca m cb w hnm).mono ?_
 rintro e w' ⟨rfl,rfl⟩
 exact ⟨aAf (decide_eq_false (fun e=>hnm (by rw[<-hx,<-hy,e]))).symm,Below.refl _ _⟩
theorem bGf {A0 A1 A2:Option Addr}{n0 c0 n1 c1 n2 c2:Nat}{K:Int}{b o t:List ByteArray}{w:World}(hn0:n0<=1000000)(hn1:n1<=1000000)(hn2:n2<=1000000)
  (h0:Rd w w.heap.size 1 A0 n0 c0 (b.map .string)) (h1:Rd w w.heap.size 1 A1 n1 c1 (o.map .string)) (h2:Rd w w.heap.size 1 A2 n2 c2 (t.map .string)) :
  Calls Tryz.prog 263 #[.agg #[.int .i64 K,.slice A0 n0 c0,.slice A1 n1 c1,.slice A2 n2 c2]] w fun e w'=>e=.returned (.int .i64 (kindF b o t))/\Below w.heap.size w w':=by
 have hb1:Below w.heap.size w (w.alloc (.cells #[.int .i64 K,.slice A0 n0 c0,.slice A1 n1 c1,.slice A2 n2 c2] 143)):=(Below.refl _ _).alloc (Nat.le_refl _) _
 have HB1:=hid hb1
 clear hb1
 have HC1:=hid (fun (w1:World) (hb:Below w.heap.size w w1)=>aJq (by omega) (by omega) (h1.to hb hb.size) (h0.to hb hb.size))
 have HC2:=hid (fun (w1:World) (hb:Below w.heap.size w w1)=>aJq (by omega) (by omega) (h2.to hb hb.size) (h0.to hb hb.size))
 have HC3:=hid (fun (w1:World) (hb:Below w.heap.size w w1)=>aJq (by omega) (by omega) (h1.to hb hb.size) (h2.to hb hb.size))
 have HF:=hid (show kindF b o t=if decide (o=b) then 3 else if decide (t=b) then 2 else if decide (o=t) then 4 else 5 by simp[kindF])
 clear h0 h1 h2
 generalize kindF b o t=F at *
 generalize decide (o=b)=d1 at *
 generalize decide (t=b)=d2 at *
 generalize decide (o=t)=d3 at *
 have hc0:∀(u:World),Below (w.heap.size+1) (w.alloc (.cells #[.int .i64 K,.slice A0 n0 c0,.slice A1 n1 c1,.slice A2 n2 c2] 143)) u->u.cell? ⟨w.heap.size,1,none⟩=some (.slice A0 n0 c0)/\u.cell? ⟨w.heap.size,2,none⟩=some (.slice A1 n1 c1)/\u.cell? ⟨w.heap.size,3,none⟩=some (.slice A2 n2 c2):=fun u hu=>by
  refine ⟨(hu.cell (p:=⟨w.heap.size,1,none⟩) (Nat.lt_succ_self _)).trans ?_,(hu.cell (p:=⟨w.heap.size,2,none⟩) (Nat.lt_succ_self _)).trans ?_,(hu.cell (p:=⟨w.heap.size,3,none⟩) (Nat.lt_succ_self _)).trans ?_⟩<;>(rw[World.cell?,heap_alloc_new];rfl)
 have HC0:=hid hc0
 clear hc0
 go_enter Tryz.func263,Tryz.ntmps263
 go_wp2_with fail
 refine (HC1.out _ HB1.out).mono ?_
 rintro e w1 ⟨rfl,hb1⟩
 have HB2:=hid (HB1.out.trans (hb1.mono HB1.out.size))
 have HX1:=hid (hb1.mono (show w.heap.size+1<=_ by simp))
 clear hb1 HC1
 obtain ⟨k1,k2,k3⟩:=HC0.out _ HX1.out
 cases d1
 ·go_wp2_with fail
  refine (HC2.out _ HB2.out).mono ?_
  rintro e w2 ⟨rfl,hb2⟩
  have HB3:=hid (HB2.out.trans (hb2.mono HB2.out.size))
  have HX2:=hid (HX1.out.trans (hb2.mono (Nat.le_trans (by simp) HX1.out.size)))
  clear hb2 HC2 k1 k2 k3
  obtain ⟨k1,k2,k3⟩:=HC0.out _ HX2.out
  cases d2
  ·go_wp2_with fail
   refine (HC3.out _ HB3.out).mono ?_
   rintro e w3 ⟨rfl,hb3⟩
   have HB4:=hid (HB3.out.trans (hb3.mono HB3.out.size))
   clear hb3 HC3 k1 k2 k3
   cases d3
   ·go_wp2
    go_ret
    exact ⟨by rw[HF.out];rfl,HB4.out⟩
   go_wp2
   go_ret
   exact ⟨by rw[HF.out];rfl,HB4.out⟩
  go_wp2
  go_ret
  exact ⟨by rw[HF.out];rfl,HB3.out⟩
 go_wp2
 go_ret
 exact ⟨by rw[HF.out];rfl,HB2.out⟩
def Keeps (l:List Nat) (w w':World):Prop:=w.heap.size<=w'.heap.size/\∀p:Addr,p.block<w.heap.size->p.block∉l->w'.cell? p=w.cell? p
theorem Keeps.refl (l:List Nat)(w:World):Keeps l w w:=⟨Nat.le_refl _,fun _ _ _=>rfl⟩
theorem Keeps.trans {l:List Nat}{a b c:World}(h:Keeps l a b)(k:Keeps l b c):Keeps l a c:=
 ⟨Nat.le_trans h.1 k.1,fun p hp hl=>(k.2 p (Nat.lt_of_lt_of_le hp h.1) hl).trans (h.2 p hp hl)⟩
theorem Keeps.of_below {l:List Nat} {w w':World}(h:Below w.heap.size w w'):Keeps l w w':=⟨h.size,fun _p hp _=>h.cell hp⟩
theorem Keeps.grown {l:List Nat} {w w':World}{row:Option Nat}(h:w.grownBy w' row)(hr:∀g,row=some g->g∈l):Keeps l w w':=
 ⟨h.size,fun p hp hl=>World.cell?_of_block (h.block p.block hp (fun e=>hl (hr _ e.symm)))⟩
theorem Keeps.drew {l:List Nat} {w w':World}(h:Keeps l w w'):Keeps l w w'.drew:=h
theorem aAt (w:World)(g j:Nat)(u:Value):w.grownBy (w.setCell ⟨g,j,none⟩ u) (some g):=⟨rfl,rfl,rfl,by simp,fun k _ hk=>heap_setCell_other _ _ k _ (fun e=>hk (by rw[e]))⟩
def RdO (w:World)(l:List Nat)(A:Option Addr)(c:Nat)(xs:List ByteArray):Prop:=Rd w w.heap.size 1 A xs.length c (xs.map .string)/\∀a,A=some a->0<xs.length->a.block∉l
theorem RdO.keep {w w':World}{l:List Nat}{A:Option Addr}{c:Nat}{xs:List ByteArray}(h:RdO w l A c xs)(hk:Keeps l w w'):RdO w' l A c xs:=by
 refine ⟨⟨h.1.len,h.1.cap,fun h0=>?_⟩,h.2⟩
 obtain ⟨b,o,rfl,hb,hc⟩:=h.1.at_ h0
 refine ⟨b,o,rfl,Nat.lt_of_lt_of_le hb hk.1,fun j u hu=>?_⟩
 rw[hk.2 ⟨b,o+j,none⟩ hb (h.2 ⟨b,o,none⟩ rfl h0)]
 exact hc j u hu
theorem RdO.less {w:World}{l m:List Nat}{A:Option Addr}{c:Nat}{xs:List ByteArray}(h:RdO w l A c xs)(hm:∀b∈m,b∈l\/w.heap.size<=b):RdO w m A c xs:=by
 refine ⟨h.1,fun a ha h0 hmem=>?_⟩
 rcases hm _ hmem with h1 | h1
 ·exact h.2 a ha h0 h1
 obtain ⟨b,o,e,hb,_⟩:=h.1.at_ h0
 rw[ha] at e;injection e with e;subst e
 exact Nat.not_lt.2 h1 hb
def KIn (w:World)(l:List Nat)(k:KV)(cs:List Value):Prop:=
 ∃A0 c0 A1 c1 A2 c2,cs=[.int .i64 k.kind,.slice A0 k.base.length c0,.slice A1 k.ours.length c1,.slice A2 k.theirs.length c2]/\RdO w l A0 c0 k.base/\RdO w l A1 c1 k.ours/\RdO w l A2 c2 k.theirs
theorem KIn.keep {w w':World}{l:List Nat}{k:KV}{cs:List Value}(h:KIn w l k cs)(hk:Keeps l w w'):KIn w' l k cs:=by
 obtain ⟨A0,c0,A1,c1,A2,c2,e,h0,h1,h2⟩:=h
 exact ⟨A0,c0,A1,c1,A2,c2,e,h0.keep hk,h1.keep hk,h2.keep hk⟩
theorem KIn.less {w:World}{l m:List Nat}{k:KV}{cs:List Value}(h:KIn w l k cs)(hm:∀b∈m,b∈l\/w.heap.size<=b):KIn w m k cs:=by
 obtain ⟨A0,c0,A1,c1,A2,c2,e,h0,h1,h2⟩:=h
 exact ⟨A0,c0,A1,c1,A2,c2,e,h0.less hm,h1.less hm,h2.less hm⟩
theorem KIn.len {w:World}{l:List Nat}{k:KV}{cs:List Value}(h:KIn w l k cs):cs.length=4/\∀u∈cs,u.oneCell'=true:=by
 obtain ⟨A0,c0,A1,c1,A2,c2,rfl,_⟩:=h
 exact ⟨rfl,fun u hu=>by simp at hu;rcases hu with rfl | rfl | rfl | rfl<;>rfl⟩
def KIns (w:World)(l:List Nat):List KV->List (List Value)->Prop
 | [],[]=>True
 | k::L,cs::H=>KIn w l k cs/\KIns w l L H
 | _,_=>False
theorem KIns.keep {w w':World}{l:List Nat}(hk:Keeps l w w'):∀{L:List KV} {H:List (List Value)},KIns w l L H->KIns w' l L H
 | [],[],_=>trivial
 | _::_,_::_,h=>⟨h.1.keep hk,KIns.keep hk h.2⟩
theorem KIns.less {w:World}{l m:List Nat}(hm:∀b∈m,b∈l\/w.heap.size<=b):∀{L:List KV} {H:List (List Value)},KIns w l L H->KIns w m L H
 | [],[],_=>trivial
 | _::_,_::_,h=>⟨h.1.less hm,KIns.less hm h.2⟩
theorem KIns.snoc {w:World}{l:List Nat}:∀{L:List KV} {H:List (List Value)} {k:KV} {cs:List Value},KIns w l L H->KIn w l k cs->KIns w l (L++[k]) (H++[cs])
 | [],[],_,_,_,hk=>⟨hk,trivial⟩
 | _::_,_::_,_,_,h,hk=>⟨h.1,KIns.snoc h.2 hk⟩
theorem KIns.get {w:World}{l:List Nat}:∀{L:List KV} {H:List (List Value)} {i:Nat} {k:KV},KIns w l L H->L[i]? = some k->∃cs,H[i]? = some cs/\KIn w l k cs
 | [],[],i,k,_,hk=>by simp at hk
 | _::_,cs::_,0,k,h,hk=>by simp at hk;subst hk;exact ⟨cs,rfl,h.1⟩
 | _::_,_::_,i+1,k,h,hk=>by simp at hk;obtain ⟨cs,h1,h2⟩:=KIns.get h.2 hk;exact ⟨cs,by simpa using h1,h2⟩
def obs (v:Value):List Nat:=match v.ownBlock with | some g=>[g] | none=>[]
theorem aFk {v:Value}{g:Nat}(h:v.ownBlock=some g):g∈obs v:=by unfold obs;rw[h];simp
theorem aFt {v:Value}{g:Nat}(h:g∈obs v):v.ownBlock=some g:=by
 unfold obs at h
 split at h
 ·rename_i k hk;simp at h;subst h;exact hk
 cases h
structure TX (w0 w:World) (tb:Nat) (x y z:Value) (b o t:Nat) (L:List KV):Prop where
 ex:∃(out:Value) (H:List (List Value)),w.heap[tb]? = some (.cells #[x,y,z,.int .i64 b,.int .i64 o,.int .i64 t,out] 278 (0,0))/\w.ownsRow w0.heap.size 143 4 out L.length H.flatten/\out.ownBlock≠some tb/\KIns w (tb::obs out) L H
 lo:w0.heap.size<=tb
 bel:Below w0.heap.size w0 w
theorem TX.hi {w0 w:World}{tb:Nat}{x y z:Value}{b o t:Nat}{L:List KV}(h:TX w0 w tb x y z b o t L):tb<w.heap.size:=by
 obtain ⟨_,_,h1,_⟩:=h.ex
 rcases Nat.lt_or_ge tb w.heap.size with h2 | h2
 ·exact h2
 simp[Array.getElem?_eq_none h2] at h1
theorem aBu {P:Program}{S:World->Prop}{a:Act}{w:World}{K:Act->World->Prop}{dst:Option Tmp}{t ty:TypeId}{q:Bool}{g:Option (Tmp×Bool)}{z:Value}(hz:∀w,(zeroValue t).run P w=.ok z w)
  (hK:S (w.alloc (.cells z.cells t))/\K (a.put dst (.pointer (some ⟨w.heap.size,0,none⟩))) (w.alloc (.cells z.cells t))):effq P S ⟨q,dst,.alloc t,ty,g⟩ a w K:=by
 refine aTy (fun p af g=>?_) hK
 unfold execOp
 simp[Instr.alloc,newVar,newRow,hz,Sem.run_bind,Result.andThen_ok]
theorem aNv {P:Program}{S:World->Prop}{a:Act}{w:World}{K:Act->World->Prop}{dst:Option Tmp}{t ty:TypeId}{x y:Operand}{q:Bool}{g:Option (Tmp×Bool)}{b o:Nat}{u0 u1:Value}(hi:(P.info? t).map (·.size)=some 2)
  (hx:a.eval x=.pointer (some ⟨b,o,none⟩)) (hy:a.eval y=.agg #[u0,u1]) (hc0:(w.cell? ⟨b,o,none⟩).isSome=true) (hc1:(w.cell? ⟨b,o+1,none⟩).isSome=true)
  (hf0:w.frozen? ⟨b,o,none⟩=false) (hf1:w.frozen? ⟨b,o+1,none⟩=false) (h0:u0.oneCell'=true) (h1:u1.oneCell'=true)
  (hK:S ((w.setCell ⟨b,o,none⟩ u0).setCell ⟨b,o+1,none⟩ u1)/\K (a.put dst undef) ((w.setCell ⟨b,o,none⟩ u0).setCell ⟨b,o+1,none⟩ u1)) :
  effq P S ⟨q,dst,.store t x y,ty,g⟩ a w K:=by
 intro p af g
 have hc:∀j,j<[u0,u1].length->(w.cell? ⟨b,o+0+j,none⟩).isSome=true:=by
  intro j hj
  have:j=0\/j=1:=by simp at hj;omega
  rcases this with rfl | rfl
  ·exact hc0
  exact hc1
 have hf:∀j,j<[u0,u1].length->w.frozen? ⟨b,o+0+j,none⟩=false:=by
  intro j hj
  have:j=0\/j=1:=by simp at hj;omega
  rcases this with rfl | rfl
  ·exact hf0
  exact hf1
 have hr:=run_storeCells_cells (P:=P) b o [u0,u1] 0 w hc hf (fun u hu=>by simp at hu;rcases hu with rfl | rfl<;>assumption)
 obtain ⟨i,hi1,hi2⟩:=Option.map_eq_some_iff.1 hi
 unfold Oper.wp execOp
 have hst:(storeVar t ⟨b,o,none⟩ (.agg #[u0,u1])).run P w=.ok () ((w.setCell ⟨b,o,none⟩ u0).setCell ⟨b,o+1,none⟩ u1):=by
  simp[storeVar,sizeOf,typeInfo,hi1,hi2,Value.cells,hr,World.setCells]
 simp only[hx,hy,Instr.storeAt,Instr.sureAddr,Sem.run_bind,Sem.run_pure,Result.andThen_ok,hst]
 exact hK
theorem aBz {P:Program}{S:World->Prop}{a:Act}{w:World}{K:Act->World->Prop}{dst:Option Tmp}{t ty:TypeId}{parts:Array (Nat×Operand)}{q:Bool}{g:Option (Tmp×Bool)}{vs:Array (Nat×Value)}{v:Value}
  (hv:(parts.toList.map fun p=>(p.1,a.eval p.2)).toArray=vs) (hr:(Instr.build t vs).run P w=.ok v w) (hK:S w/\K (a.put dst v) w):effq P S ⟨q,dst,.build t parts,ty,g⟩ a w K:=by
 intro p af g
 have hv':(parts.map fun p=>(p.1,a.eval p.2))=vs:=by rw[<-hv];apply Array.toList_inj.1;simp
 unfold Oper.wp execOp
 simp only[hv',hr,Sem.run_bind,Sem.run_pure,Result.andThen_ok]
 exact hK
theorem aLn {tb v:Nat}{w:World}(h:w.cell? ⟨tb,4,none⟩=some (.int .i64 v)):Calls Tryz.prog 261 #[.pointer (some ⟨tb,0,none⟩)] w fun e w'=>e=.returned (.int .i64 v)/\w'=w:=by
 go_enter Tryz.func261,Tryz.ntmps261
 go_wp2
 go_ret
 exact ⟨rfl,rfl⟩
theorem aDj {tb v:Nat}{w:World}(h:w.cell? ⟨tb,5,none⟩=some (.int .i64 v)):Calls Tryz.prog 262 #[.pointer (some ⟨tb,0,none⟩)] w fun e w'=>e=.returned (.int .i64 v)/\w'=w:=by
 go_enter Tryz.func262,Tryz.ntmps262
 go_wp2
 go_ret
 exact ⟨rfl,rfl⟩
theorem aEj (w:World):(zeroValue 143).run Tryz.prog w=.ok (.agg #[.int .i64 0,.slice none 0 0,.slice none 0 0,.slice none 0 0]) w:=by
 go_simp
theorem aZf (K:Int)(A0 A1 A2:Option Addr)(n0 c0 n1 c1 n2 c2:Nat)(w:World) :
  (Instr.build 143 #[(0,.int .i64 K),(1,.slice A0 n0 c0),(2,.slice A1 n1 c1),(3,.slice A2 n2 c2)]).run Tryz.prog w=.ok (.agg #[.int .i64 K,.slice A0 n0 c0,.slice A1 n1 c1,.slice A2 n2 c2]) w:=by
 go_simp
theorem aCo (A0 A1 A2:Option Addr)(n0 c0 n1 c1 n2 c2:Nat)(w:World) :
  (Instr.build 143 #[(1,.slice A0 n0 c0),(2,.slice A1 n1 c1),(3,.slice A2 n2 c2)]).run Tryz.prog w=.ok (.agg #[.int .i64 0,.slice A0 n0 c0,.slice A1 n1 c1,.slice A2 n2 c2]) w:=by
 go_simp
theorem aZe (x y:Int)(w:World):(Instr.build 273 #[(0,.int .i64 x),(1,.int .i64 y)]).run Tryz.prog w=.ok (.agg #[.int .i64 x,.int .i64 y]) w:=by
 go_simp
theorem aLe:Elem Tryz.prog 133 143 4 80:=aBw (by kernel_rfl)
structure FLV where
 parent:Int
 msg:ByteArray
 A:Option Addr
 c:Nat
 files:List FV
def FLV.pl (f:FLV):FL:=⟨f.parent,f.msg,f.files⟩
def FLV.cells (f:FLV):List Value:=[.int .i64 f.parent,.string f.msg,.slice f.A f.files.length f.c]
theorem FLV.cells_len (f:FLV):f.cells.length=3:=rfl
structure STV where
 commit:Int
 A:Option Addr
 c:Nat
 files:List FV
def STV.pl (f:STV):SettL:=⟨f.commit,f.files⟩
def STV.cells (f:STV):List Value:=[.int .i64 f.commit,.slice f.A f.files.length f.c]
theorem STV.cells_len (f:STV):f.cells.length=2:=rfl
theorem MV.cells_len (f:MV):f.cells.length=2:=rfl
def RdO3 (w:World)(X:List Nat)(A:Option Addr)(c:Nat)(fs:List FV):Prop:=RdF w w.heap.size A fs.length c fs/\∀a,A=some a->0<fs.length->a.block∉X
theorem aBf {w w':World}{X:List Nat}{k c n:Nat}{A:Option Addr}{xs:List Value}(h:Rd w w.heap.size k A n c xs)(ha:∀a,A=some a->0<n->a.block∉X)(hk:Keeps X w w'):Rd w' w'.heap.size k A n c xs:=by
 refine ⟨h.len,h.cap,fun hn=>?_⟩
 obtain ⟨b,o,e,hb,hc⟩:=h.at_ hn
 exact ⟨b,o,e,Nat.lt_of_lt_of_le hb hk.1,fun j v hv=>(hk.2 ⟨b,o+j,none⟩ hb (show b∉X from ha ⟨b,o,none⟩ e hn)).trans (hc j v hv)⟩
theorem RdO3.keep {w w':World}{X:List Nat}{A:Option Addr}{c:Nat}{fs:List FV}(h:RdO3 w X A c fs)(hk:Keeps X w w'):RdO3 w' X A c fs:=
 ⟨⟨aBf h.1.row h.2 hk,rfl,h.1.fits⟩,h.2⟩
theorem aKy {w:World}{X Y:List Nat}{k c n B:Nat}{A:Option Addr}{xs:List Value}(h:Rd w B k A n c xs)(ha:∀a,A=some a->0<n->a.block∉X)(hm:∀b∈Y,b∈X\/B<=b):∀a,A=some a->0<n->a.block∉Y:=by
 intro a e hn hy
 obtain ⟨b,o,e2,hb,_⟩:=h.at_ hn
 rcases hm _ hy with h1 | h1
 ·exact ha a e hn h1
 rw[e] at e2;cases e2;exact absurd hb (Nat.not_lt.2 h1)
theorem RdO3.less {w:World}{X Y:List Nat}{A:Option Addr}{c:Nat}{fs:List FV}(h:RdO3 w X A c fs)(hm:∀b∈Y,b∈X\/w.heap.size<=b):RdO3 w Y A c fs:=
 ⟨h.1,aKy h.1.row h.2 hm⟩
structure FlOk (w:World) (X:List Nat) (f:FLV):Prop where
 files:RdO3 w X f.A f.c f.files
 few:f.files.length<=17592186044416
 par:I64 f.parent
 msg:f.msg.size<=140737488351232
theorem FlOk.keep {w w':World}{X:List Nat}{f:FLV}(h:FlOk w X f)(hk:Keeps X w w'):FlOk w' X f:=⟨h.files.keep hk,h.few,h.par,h.msg⟩
theorem FlOk.less {w:World}{X Y:List Nat}{f:FLV}(h:FlOk w X f)(hm:∀b∈Y,b∈X\/w.heap.size<=b):FlOk w Y f:=⟨h.files.less hm,h.few,h.par,h.msg⟩
structure MkOk (w:World) (X:List Nat) (m:MV):Prop where
 row:Rd w w.heap.size 1 m.A m.new.length m.c (m.new.map (.int .i64))
 off:∀a,m.A=some a->0<m.new.length->a.block∉X
 few:m.new.length<=17592186044416
 old:I64 m.old
 new:∀x∈m.new,I64 x
theorem MkOk.keep {w w':World}{X:List Nat}{m:MV}(h:MkOk w X m)(hk:Keeps X w w'):MkOk w' X m:=⟨aBf h.row h.off hk,h.off,h.few,h.old,h.new⟩
theorem MkOk.less {w:World}{X Y:List Nat}{m:MV}(h:MkOk w X m)(hm:∀b∈Y,b∈X\/w.heap.size<=b):MkOk w Y m:=⟨h.row,aKy h.row h.off hm,h.few,h.old,h.new⟩
structure RdFl (w:World) (B:Nat) (A:Option Addr) (n c:Nat) (l:List FLV):Prop where
 row:Rd w B 3 A n c (l.flatMap FLV.cells)
 len:l.length=n
 parts:∀f∈l,RdF w B f.A f.files.length f.c f.files/\f.files.length<=17592186044416/\I64 f.parent/\f.msg.size<=140737488351232
structure RdS (w:World) (B:Nat) (A:Option Addr) (n c:Nat) (l:List STV):Prop where
 row:Rd w B 2 A n c (l.flatMap STV.cells)
 len:l.length=n
 parts:∀f∈l,RdF w B f.A f.files.length f.c f.files/\f.files.length<=1000000/\I64 f.commit
section
variable {w w':World} {B B' n c:Nat} {A:Option Addr} {l:List FLV} {s:List STV}
theorem RdFl.to (h:RdFl w B A n c l)(hb:Below B w w')(hB:B<=B'):RdFl w' B' A n c l:=
 ⟨h.row.to hb hB,h.len,fun f hf=>⟨(h.parts f hf).1.to hb hB,(h.parts f hf).2⟩⟩
theorem RdS.to (h:RdS w B A n c s)(hb:Below B w w')(hB:B<=B'):RdS w' B' A n c s:=
 ⟨h.row.to hb hB,h.len,fun f hf=>⟨(h.parts f hf).1.to hb hB,(h.parts f hf).2⟩⟩
theorem RdFl.none_ (w:World)(B:Nat):RdFl w B none 0 0 []:=⟨Rd.none_ _ _ _,rfl,fun _ h=>by cases h⟩
theorem RdS.none_ (w:World)(B:Nat):RdS w B none 0 0 []:=⟨Rd.none_ _ _ _,rfl,fun _ h=>by cases h⟩
theorem RdFl.get (h:RdFl w B A n c l){k:Nat}(hk:k<n):∃b o f,A=some ⟨b,o,none⟩/\b<B/\l[k]? = some f/\f∈l/\
  w.cell? ⟨b,o+k*3,none⟩=some (.int .i64 f.parent)/\w.cell? ⟨b,o+k*3+1,none⟩=some (.string f.msg)/\w.cell? ⟨b,o+k*3+2,none⟩=some (.slice f.A f.files.length f.c):=by
 obtain ⟨b,o,f,e,hb,hx,_,hc⟩:=T.rd_flat FLV.cells_len (by omega) h.row h.len hk
 exact ⟨b,o,f,e,hb,hx,List.mem_of_getElem? hx,hc 0 _ rfl,hc 1 _ rfl,hc 2 _ rfl⟩
theorem RdS.get (h:RdS w B A n c s){k:Nat}(hk:k<n):∃b o f,A=some ⟨b,o,none⟩/\b<B/\s[k]? = some f/\f∈s/\
  w.cell? ⟨b,o+k*2,none⟩=some (.int .i64 f.commit)/\w.cell? ⟨b,o+k*2+1,none⟩=some (.slice f.A f.files.length f.c):=by
 obtain ⟨b,o,f,e,hb,hx,_,hc⟩:=T.rd_flat STV.cells_len (by omega) h.row h.len hk
 exact ⟨b,o,f,e,hb,hx,List.mem_of_getElem? hx,hc 0 _ rfl,hc 1 _ rfl⟩
end
theorem aHl:Elem Tryz.prog 22 40 3 48:=aBw (by kernel_rfl)
theorem aDn (l:List FLV):∀u∈l.flatMap FLV.cells,u.oneCell'=true:=by
 intro u hu
 obtain ⟨f,_,hf⟩:=List.mem_flatMap.1 hu
 simp[FLV.cells] at hf
 rcases hf with rfl | rfl | rfl<;>rfl
theorem aGd (l:List MV):∀u∈l.flatMap MV.cells,u.oneCell'=true:=by
 intro u hu
 obtain ⟨f,_,hf⟩:=List.mem_flatMap.1 hu
 simp[MV.cells] at hf
 rcases hf with rfl | rfl<;>rfl
end Go.Proofs.YtohblmepajhpaaaGreatDoor
