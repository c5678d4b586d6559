/- Texts of the walks, together: Walks: slices.IndexFunc, slices.DeleteFunc of ints, at the functions that similar hands in. -/
import Derived.Test.YtcemkikgaeghjaaGreatDoorG19
set_option maxHeartbeats 8000000
set_option maxRecDepth 100000
open Go.Lib (hid)
namespace Go.Proofs.YtcemkikgaeghjaaGreatDoor
open Go.RowKit
theorem aAr {u u':World}(h:Below u.heap.size u u'):u.grownBy u' none:=⟨h.os,h.tape,h.output,h.size,fun k hk _=>h.block k hk⟩
theorem aFg (z:Array Value)(n:Nat):(Builtin.zeroCells z n).toList.length=n*z.size:=by simp[Builtin.zeroCells]
theorem aFe {z:Array Value}{n:Nat}(h0:0<z.size)(h:∀v∈z.toList,v.oneCell'=true):∀u∈(Builtin.zeroCells z n).toList,u.oneCell'=true:=by
 intro u hu
 simp only[Builtin.zeroCells,Array.toList_map,List.mem_map] at hu
 obtain ⟨i,_,rfl⟩:=hu
 have hi:i % z.size<z.size:=Nat.mod_lt _ h0
 rw[getElem!_pos z (i % z.size) hi]
 exact h _ (by rw[<-Array.getElem_toList];exact List.getElem_mem _)
theorem aEf {P:Program}(w:World)(t e ty:TypeId)(z:Value)(ht:P.underlying t=some (.slice e))(hv:∀w,(zeroValue e).run P w=.ok z w){g d c k:Nat}{cur:Array Value}{et:TypeId}{zs:List Value}
  (hz:(Builtin.zeroCells z.cells (k+1)).toList=zs) (hg:w.heap[g]? = some (.cells cur et (0,0))) (hfit:d+zs.length<=cur.size) (h1:∀v∈zs,v.oneCell'=true) :
  (Builtin.clear_ #[t] ty #[.slice (some ⟨g,d,none⟩) (k+1) c]).run P w=.ok (.tuple #[]) (w.setRow g (cur.toList.take d++zs++cur.toList.drop (d+zs.length)).toArray):=by
 have hst:=run_storeCells_at P g d et zs 0 cur w hg (by simpa using hfit) h1
 simp only[Nat.add_zero] at hst
 simp[Builtin.clear_,run_underlying ht,hv,hz,hst]
theorem aOc {w:World}{r n cap sz:Nat}{cur:Array Value}{e:TypeId}{xs:List Value}(hg:w.heap[r]? = some (.cells cur e (0,0)))(hx:xs.length=n*sz)(hnc:n<=cap)(ht:∀(j:Nat)(u:Value),xs[j]? = some u->cur[j]? = some u) :
  Rd w w.heap.size sz (some ⟨r,0,none⟩) n cap xs:=
 ⟨hx,hnc,fun _=>⟨r,0,rfl,(Array.getElem?_eq_some_iff.1 hg).1,fun j u hu=>by rw[Nat.zero_add,cell_of_row w _ _ _ _ _ hg];exact ht j u hu⟩⟩
theorem Rd.nat {w:World}{B n c:Nat}{A:Option Addr}{l:List Nat}(h:Rd w B 1 A n c (natsV l)){k:Nat}(hk:k<n) :
  ∃b o u,A=some ⟨b,o,none⟩/\b<B/\l[k]? = some u/\w.cell? ⟨b,o+k,none⟩=some (.int .i64 (u:Int)):=by
 obtain ⟨b,o,u,e,hb,hx,hc⟩:=h.one hk
 unfold natsV at hx
 rw[List.getElem?_map] at hx
 cases hl:l[k]? with
 | none=>rw[hl] at hx;cases hx
 | some s=>rw[hl] at hx;cases hx;exact ⟨b,o,s,e,hb,rfl,hc⟩
theorem aDg (l:List Nat):(natsV l).length=l.length:=by simp[natsV]
def FirstI (p:Nat->Bool)(xs:List Nat)(w:World)(e:Ending) (w':World):Prop:=
 ∃k:Int,e=.returned (.int .i64 k)/\((k=-1/\∀x∈xs,p x=false)\/∃(j x:Nat),k=(j:Int)/\xs[j]? = some x/\p x=true/\∀(i y:Nat),i<j->xs[i]? = some y->p y=false)/\Below w.heap.size w w'
theorem aUb {A:Option Addr}{n c:Nat}{xs:List Nat}{w:World}{q1:Value}(p:Nat->Bool)(hn:n<=1000000)(h:Rd w w.heap.size 1 A n c (natsV xs))
  (hC:∀(i:Nat) (u:World),i∈xs->Below w.heap.size w u->Calls Tryz.prog 152 #[.int .i64 (i:Int),q1] u fun e w'=>e=.returned (.bool (p i))/\Below u.heap.size u w') :
  Calls Tryz.prog 121 #[.slice A n c,.func (.func 152) #[] #[q1]] w (FirstI p xs w):=by
 have HL:=hid (show xs.length=n by have:=h.len;rw[aDg] at this;omega)
 go_enter Tryz.func121,Tryz.ntmps121
 go_wp2
 go_loopw[8] (fun i wr=>∃k:Nat,k<=n/\i=.int .i64 k/\Hid (Below w.heap.size w wr)/\Hid (∀(i y:Nat),i<k->xs[i]? = some y->p y=false)) (fun i _=>n-(intOf i).toNat)
 case atStart=>exact ⟨0,Nat.zero_le _,rfl,hid (Below.refl _ _),fun i y h=>absurd h (Nat.not_lt_zero _)⟩
 obtain ⟨k,hk,rfl,HB,HJ⟩:=hrel
 by_cases hlt:k<n
 ·obtain ⟨b0,o0,x,rfl,hbb,hx,h0⟩:=h.nat hlt
  replace h0:=(HB.out.cell (p:=⟨b0,o0+k,none⟩) hbb).trans h0
  have HX:=hid hx;clear hx
  have K:=hC x wr (List.mem_of_getElem? HX.out) HB.out
  go_wp2_with fail
  refine K.mono ?_
  rintro e w1 ⟨rfl,hb1⟩
  have HB1:=hid (HB.out.trans (hb1.mono HB.out.size))
  clear K hb1
  cases hd:p x
  ·have HN:Hid (∀(i y:Nat),i<k+1->xs[i]? = some y->p y=false):=fun i y hi hy=>by
    rcases Nat.lt_or_ge i k with h | h
    ·exact HJ.out i y h hy
    rw[show i=k by omega,HX.out] at hy;injection hy with hy;rw[<-hy];exact hd
   clear hd
   go_wp2
   go_roundw
   case rel=>exact ⟨k+1,by omega,by go_num,HB1,HN⟩
   simp[intOf];omega
  have HD:=hid hd
  clear hd
  go_wp2
  go_ret
  exact ⟨k,rfl,.inr ⟨k,x,rfl,HX.out,HD.out,HJ.out⟩,HB1.out⟩
 have hkn:k=n:=by omega
 subst hkn
 go_wp2
 go_ret
 refine ⟨-1,rfl,.inl ⟨rfl,fun x hx=>?_⟩,HB.out⟩
 obtain ⟨i,hi,rfl⟩:=List.getElem_of_mem hx
 exact HJ.out i _ (by have:=HL.out;omega) (List.getElem?_eq_getElem hi)
theorem bDc {A:Option Addr}{n c:Nat}{xs:List Nat}{w:World}{q1:Value}(p:Nat->Bool)(hn:n<=1000000)(h:Rd w w.heap.size 1 A n c (natsV xs))
  (hC:∀(i:Nat) (u:World),i∈xs->Below w.heap.size w u->Calls Tryz.prog 153 #[.int .i64 (i:Int),q1] u fun e w'=>e=.returned (.bool (p i))/\Below u.heap.size u w') :
  Calls Tryz.prog 121 #[.slice A n c,.func (.func 153) #[] #[q1]] w (FirstI p xs w):=by
 have HL:=hid (show xs.length=n by have:=h.len;rw[aDg] at this;omega)
 go_enter Tryz.func121,Tryz.ntmps121
 go_wp2
 go_loopw[8] (fun i wr=>∃k:Nat,k<=n/\i=.int .i64 k/\Hid (Below w.heap.size w wr)/\Hid (∀(i y:Nat),i<k->xs[i]? = some y->p y=false)) (fun i _=>n-(intOf i).toNat)
 case atStart=>exact ⟨0,Nat.zero_le _,rfl,hid (Below.refl _ _),fun i y h=>absurd h (Nat.not_lt_zero _)⟩
 obtain ⟨k,hk,rfl,HB,HJ⟩:=hrel
 by_cases hlt:k<n
 ·obtain ⟨b0,o0,x,rfl,hbb,hx,h0⟩:=h.nat hlt
  replace h0:=(HB.out.cell (p:=⟨b0,o0+k,none⟩) hbb).trans h0
  have HX:=hid hx;clear hx
  have K:=hC x wr (List.mem_of_getElem? HX.out) HB.out
  go_wp2_with fail
  refine K.mono ?_
  rintro e w1 ⟨rfl,hb1⟩
  have HB1:=hid (HB.out.trans (hb1.mono HB.out.size))
  clear K hb1
  cases hd:p x
  ·have HN:Hid (∀(i y:Nat),i<k+1->xs[i]? = some y->p y=false):=fun i y hi hy=>by
    rcases Nat.lt_or_ge i k with h | h
    ·exact HJ.out i y h hy
    rw[show i=k by omega,HX.out] at hy;injection hy with hy;rw[<-hy];exact hd
   clear hd
   go_wp2
   go_roundw
   case rel=>exact ⟨k+1,by omega,by go_num,HB1,HN⟩
   simp[intOf];omega
  have HD:=hid hd
  clear hd
  go_wp2
  go_ret
  exact ⟨k,rfl,.inr ⟨k,x,rfl,HX.out,HD.out,HJ.out⟩,HB1.out⟩
 have hkn:k=n:=by omega
 subst hkn
 go_wp2
 go_ret
 refine ⟨-1,rfl,.inl ⟨rfl,fun x hx=>?_⟩,HB.out⟩
 obtain ⟨i,hi,rfl⟩:=List.getElem_of_mem hx
 exact HJ.out i _ (by have:=HL.out;omega) (List.getElem?_eq_getElem hi)
theorem aVa {A:Option Addr}{n c:Nat}{xs:List Nat}{w:World}{q1 q2:Value}(p:Nat->Bool)(hn:n<=1000000)(h:Rd w w.heap.size 1 A n c (natsV xs))
  (hC:∀(i:Nat) (u:World),i∈xs->Below w.heap.size w u->Calls Tryz.prog 122 #[.int .i64 (i:Int),q1,q2] u fun e w'=>e=.returned (.bool (p i))/\Below u.heap.size u w') :
  Calls Tryz.prog 121 #[.slice A n c,.func (.func 122) #[] #[q1,q2]] w (FirstI p xs w):=by
 have HL:=hid (show xs.length=n by have:=h.len;rw[aDg] at this;omega)
 go_enter Tryz.func121,Tryz.ntmps121
 go_wp2
 go_loopw[8] (fun i wr=>∃k:Nat,k<=n/\i=.int .i64 k/\Hid (Below w.heap.size w wr)/\Hid (∀(i y:Nat),i<k->xs[i]? = some y->p y=false)) (fun i _=>n-(intOf i).toNat)
 case atStart=>exact ⟨0,Nat.zero_le _,rfl,hid (Below.refl _ _),fun i y h=>absurd h (Nat.not_lt_zero _)⟩
 obtain ⟨k,hk,rfl,HB,HJ⟩:=hrel
 by_cases hlt:k<n
 ·obtain ⟨b0,o0,x,rfl,hbb,hx,h0⟩:=h.nat hlt
  replace h0:=(HB.out.cell (p:=⟨b0,o0+k,none⟩) hbb).trans h0
  have HX:=hid hx;clear hx
  have K:=hC x wr (List.mem_of_getElem? HX.out) HB.out
  go_wp2_with fail
  refine K.mono ?_
  rintro e w1 ⟨rfl,hb1⟩
  have HB1:=hid (HB.out.trans (hb1.mono HB.out.size))
  clear K hb1
  cases hd:p x
  ·have HN:Hid (∀(i y:Nat),i<k+1->xs[i]? = some y->p y=false):=fun i y hi hy=>by
    rcases Nat.lt_or_ge i k with h | h
    ·exact HJ.out i y h hy
    rw[show i=k by omega,HX.out] at hy;injection hy with hy;rw[<-hy];exact hd
   clear hd
   go_wp2
   go_roundw
   case rel=>exact ⟨k+1,by omega,by go_num,HB1,HN⟩
   simp[intOf];omega
  have HD:=hid hd
  clear hd
  go_wp2
  go_ret
  exact ⟨k,rfl,.inr ⟨k,x,rfl,HX.out,HD.out,HJ.out⟩,HB1.out⟩
 have hkn:k=n:=by omega
 subst hkn
 go_wp2
 go_ret
 refine ⟨-1,rfl,.inl ⟨rfl,fun x hx=>?_⟩,HB.out⟩
 obtain ⟨i,hi,rfl⟩:=List.getElem_of_mem hx
 exact HJ.out i _ (by have:=HL.out;omega) (List.getElem?_eq_getElem hi)
def dropI (p:Nat->Bool)(l:List Nat):List Nat:=l.filter fun x=>!p x
theorem aGy (p:Nat->Bool){l:List Nat}{k x:Nat}(hx:l[k]? = some x):dropI p (l.take (k+1))=dropI p (l.take k)++if p x=true then [] else [x]:=by
 rw[List.take_add_one,hx,dropI,List.filter_append]
 cases e:p x<;>simp[e,dropI]
theorem aIn {p:Nat->Bool}{l:List Nat}(h:∀x∈l,p x=false):dropI p l=l:=List.filter_eq_self.2 fun x hx=>by simp[h x hx]
theorem aTq {cur:List Value}{a:List Nat}{x:Nat}{l:List Nat}{i n cap:Nat}(hi:a.length=i)(hin:i<n)(hl:l.length=n)(hc:cur.length=cap)(hnc:n<=cap)
  (ht:cur.take n=natsV (a++l.drop i)):(cur.set i (.int .i64 (x:Int))).take n=natsV ((a++[x])++l.drop (i+1)):=by
 refine List.ext_getElem? fun j=>?_
 have hj:∀j,j<n->cur[j]? = (natsV (a++l.drop i))[j]?:=fun j hj=>by rw[<-ht,List.getElem?_take_of_lt hj]
 by_cases hjn:j<n
 ·rw[List.getElem?_take_of_lt hjn,List.getElem?_set]
  by_cases e:i=j
  ·subst e
   rw[if_pos rfl,if_pos (by omega)]
   unfold natsV
   rw[List.getElem?_map,List.append_assoc,List.getElem?_append_right (by omega),hi,Nat.sub_self];rfl
  rw[if_neg e,hj j hjn]
  unfold natsV
  rw[List.getElem?_map,List.getElem?_map]
  congr 1
  rcases Nat.lt_or_ge j i with h | h
  ·rw[List.getElem?_append_left (by omega),List.append_assoc,List.getElem?_append_left (by omega)]
  rw[List.getElem?_append_right (by omega),List.append_assoc,List.getElem?_append_right (by omega),hi,List.getElem?_drop,show j-i=(j-i-1)+1 by omega,List.singleton_append,List.getElem?_cons_succ,List.getElem?_drop]
  congr 1;omega
 rw[List.getElem?_eq_none (by rw[List.length_take];omega),List.getElem?_eq_none (by rw[aDg];simp only[List.length_append,List.length_drop,List.length_singleton];omega)]
theorem aSa {r n cap:Nat}{cur:Array Value}{l:List Nat}{w:World}{q1:Value}(p:Nat->Bool)(hn:n<=1000000)(hg:w.heap[r]? = some (.cells cur 3 (0,0)))(hnc:n<=cap)(_hcm:cap<=maxLen)(hcs:cur.size=cap)
  (htake:cur.toList.take n=natsV l) (hl:l.length=n)
  (hC:∀(i:Nat) (u:World),w.grownBy u (some r)->Calls Tryz.prog 152 #[.int .i64 (i:Int),q1] u fun e w'=>e=.returned (.bool (p i))/\Below u.heap.size u w') :
  Calls Tryz.prog 151 #[.slice (some ⟨r,0,none⟩) n cap,.func (.func 152) #[] #[q1]] w
   fun e w'=>∃(m:Nat) (cur':Array Value),e=.returned (.slice (some ⟨r,0,none⟩) m cap)/\(dropI p l).length=m/\m<=n/\w'.heap[r]? = some (.cells cur' 3 (0,0))/\cur'.size=cap/\cur'.toList.take m=natsV (dropI p l)/\w.grownBy w' (some r):=by
 have HL:=hid hl
 have zv:∀w,(zeroValue 3).run Tryz.prog w=.ok (.int .i64 0) w:=Tryz.zeroValue3
 have hrl:r<w.heap.size:=(Array.getElem?_eq_some_iff.1 hg).1
 have hR:Rd w w.heap.size 1 (some ⟨r,0,none⟩) n cap (natsV l):=aOc hg (by rw[aDg,hl,Nat.mul_one]) hnc fun j u hu=>by simpa using aBj htake hu
 have C0:=aUb p hn hR (fun i u _ hu=>hC i u ((aAr hu).but _))
 have HT0:=hid htake
 have HG0:=hid hg
 have HCS:=hid hcs
 have HCC:=hid hC
 clear htake hg hcs hl hR hC
 go_enter Tryz.func151,Tryz.ntmps151
 go_wp2_with fail
 refine C0.mono ?_
 rintro e w1 ⟨k,rfl,hk,hb1⟩
 clear C0
 have hg1:w.grownBy w1 (some r):=(aAr hb1).but _
 have HG1:=hid ((hb1.block r hrl).trans HG0.out)
 rcases hk with ⟨rfl,hno⟩ | ⟨j,f,rfl,hfj1,hfj2,hfj3⟩
 ·have HK:=hid (aIn hno)
  clear hno
  go_wp2
  go_ret
  exact ⟨n,cur,rfl,by rw[HK.out,HL.out],Nat.le_refl _,HG1.out,HCS.out,by rw[HK.out];exact HT0.out,hg1⟩
 have hjn:j<n:=by have:=(List.getElem?_eq_some_iff.1 hfj1).1;rw[HL.out] at this;exact this
 have HKJ:=hid (show dropI p (l.take (j+1))=l.take j by
  rw[aGy p hfj1,if_pos hfj2,List.append_nil]
  refine aIn fun x hx=>?_
  obtain ⟨i,hi,e⟩:=List.getElem_of_mem hx
  rw[List.length_take] at hi
  rw[List.getElem_take] at e
  exact hfj3 i x (by omega) (by rw[<-e];exact List.getElem?_eq_getElem _))
 clear hfj1 hfj2 hfj3
 have hj1:((j:Int) == -1)=false:=beq_eq_false_iff_ne.2 (by omega)
 go_wp2
 try rw[hj1]
 clear hj1
 go_loopw[5,6] (fun iv jv wr=>∃(i j':Nat) (cur':Array Value),j'<=n/\i<j'/\iv=.int .i64 i/\jv=.int .i64 j'/\Hid (w.grownBy wr (some r))/\Hid (wr.heap[r]? = some (.cells cur' 3 (0,0)))/\Hid (cur'.size=cap)/\Hid (cur'.toList.take n=natsV (dropI p (l.take j')++l.drop i))/\Hid ((dropI p (l.take j')).length=i)) (fun _ jv _=>n-(intOf jv).toNat)
 case atStart=>exact ⟨j,j+1,cur,by omega,by omega,rfl,by go_num,hid hg1,HG1,HCS,hid (by rw[HKJ.out,List.take_append_drop];exact HT0.out),hid (by rw[HKJ.out,List.length_take,HL.out];omega)⟩
 clear hg1 HG1 HG0 HT0 HKJ hjn hb1
 obtain ⟨i,j',cur',hj',hij,rfl,rfl,HGR,HG,HC,HT,HI⟩:=hrel
 by_cases hlt:j'<n
 ·obtain ⟨x,hx⟩:∃x,l[j']? = some x:=⟨l[j']'(by rw[HL.out];exact hlt),List.getElem?_eq_getElem _⟩
  have h0:wr.cell? ⟨r,j',none⟩=some (.int .i64 (x:Int)):=by
   rw[cell_of_row wr _ _ _ _ _ HG.out]
   have e1:(dropI p (l.take j')++l.drop i)[j']? = some x:=by
    rw[List.getElem?_append_right (by rw[HI.out];omega),HI.out,List.getElem?_drop,show i+(j'-i)=j' by omega];exact hx
   have e2:(natsV (dropI p (l.take j')++l.drop i))[j']? = some (.int .i64 (x:Int)):=by unfold natsV;rw[List.getElem?_map,e1];rfl
   simpa using aBj HT.out e2
  have HK:=hid (aGy p hx)
  have C:=HCC.out x wr HGR.out
  have hrw:r<wr.heap.size:=Nat.lt_of_lt_of_le hrl HGR.out.size
  clear hx
  cases hq:p x with
  | true=>
   rw[hq] at C
   have HN:=hid (show dropI p (l.take (j'+1))=dropI p (l.take j') by rw[HK.out,if_pos hq,List.append_nil])
   clear hq
   go_wp2_with fail
   refine C.mono ?_
   rintro e w2 ⟨rfl,hb2⟩
   have HG2:=hid ((hb2.block r hrw).trans HG.out)
   have HGR2:=hid (HGR.out.andThen (aAr hb2) (fun j hj=>by cases hj))
   clear C h0 hb2 HGR HG
   go_wp2
   go_roundw
   case rel=>exact ⟨i,j'+1,cur',by omega,by omega,rfl,by go_num,HGR2,HG2,HC,by rw[HN.out];exact HT,by rw[HN.out];exact HI⟩
   simp[intOf];omega
  | false=>
   rw[hq] at C
   have HN:=hid (show dropI p (l.take (j'+1))=dropI p (l.take j')++[x] by rw[HK.out,if_neg (by rw[hq];simp)])
   clear hq
   go_wp2_with fail
   refine C.mono ?_
   rintro e w2 ⟨rfl,hb2⟩
   have HG2:=hid ((hb2.block r hrw).trans HG.out)
   have HGR2:=hid (HGR.out.andThen (aAr hb2) (fun j hj=>by cases hj))
   have hic:i<cur'.size:=by rw[HC.out];omega
   have s0:w2.cell? ⟨r,i,none⟩=some cur'[i]:=by rw[cell_of_row w2 _ _ _ _ _ HG2.out];exact Array.getElem?_eq_getElem hic
   have s1:w2.frozen? ⟨r,i,none⟩=false:=aAi HG2.out
   clear C h0 hb2 HGR HG
   have HG3:=hid (heap_setCell_same w2 r i _ _ (.int .i64 (x:Int)) HG2.out)
   have HGR3:=hid (HGR2.out.andThen (aBd w2 r i (.int .i64 (x:Int))) (fun j hj=>by injection hj with hj;exact .inr (by rw[hj])))
   go_wp2
   go_roundw
   case rel=>
    refine ⟨i+1,j'+1,_,by omega,by omega,by go_num,by go_num,HGR3,HG3,hid ?_,hid ?_,hid ?_⟩
    ·simp[HC.out]
    ·rw[HN.out]
     have h6:=aTq (x:=x) HI.out (by omega) HL.out (by rw[Array.length_toList];exact HC.out) hnc HT.out
     rw[List.append_assoc] at h6
     simpa using h6
    rw[HN.out,List.length_append,HI.out];rfl
   simp[intOf];omega
 obtain rfl:n=j':=by omega
 rw[List.take_of_length_le (Nat.le_of_eq HL.out)] at HT HI
 obtain ⟨k,hk⟩:∃k,n-i=k+1:=⟨n-i-1,by omega⟩
 obtain ⟨zs,hzs⟩:∃zs,zs=(Builtin.zeroCells (Value.int .i64 0).cells (k+1)).toList:=⟨_,rfl⟩
 have hzl:zs.length=k+1:=by rw[hzs,aFg];simp[Value.cells]
 have hz1:∀u∈zs,u.oneCell'=true:=by
  rw[hzs]
  exact aFe (by decide) (by intro v hv;simp[Value.cells] at hv;subst hv;rfl)
 obtain ⟨R2,eR2⟩:∃R:Array Value,R=(cur'.toList.take i++zs++cur'.toList.drop (i+zs.length)).toArray:=⟨_,rfl⟩
 have hcl:∀ty c',(Builtin.clear_ #[79] ty #[.slice (some ⟨r,i,none⟩) (n-i) c']).run Tryz.prog wr=.ok (.tuple #[]) (wr.setRow r R2):=fun ty c'=>by
  rw[hk,eR2]
  exact aEf wr _ _ ty _ Tryz.underlying79 zv hzs.symm HG.out (by rw[hzl,HC.out];omega) hz1
 have hpre:cur'.toList.take i=natsV (dropI p l):=by
  have:(cur'.toList.take n).take i=cur'.toList.take i:=by rw[List.take_take,Nat.min_eq_left (by omega)]
  rw[<-this,HT.out]
  unfold natsV
  rw[<-List.map_take,List.take_append_of_le_length (by rw[HI.out];exact Nat.le_refl _),List.take_of_length_le (by rw[HI.out];exact Nat.le_refl _)]
 have hfin:R2.toList.take i=natsV (dropI p l):=by
  rw[eR2,<-hpre]
  show (cur'.toList.take i++zs++cur'.toList.drop (i+zs.length)).take i=_
  rw[List.append_assoc,List.take_append_of_le_length (by rw[List.length_take,Array.length_toList,HC.out];omega),List.take_take,Nat.min_self]
 have hsz2:R2.size=cap:=by
  rw[eR2]
  simp only[List.size_toArray,List.length_append,List.length_take,List.length_drop,Array.length_toList,HC.out,hzl];omega
 have HFI:=hid hfin
 have HSZ:=hid hsz2
 have HCL:=hid hcl
 have HG9:=hid (setRow_heap wr r _ R2 _ _ HG.out)
 have HGR9:=hid (aDc (cs:=R2) HGR.out (.inr rfl))
 have hcn:¬cap=i:=by omega
 clear hfin hsz2 hpre hcl eR2 hz1 hzl hzs hk zv
 have hcl:=HCL.out
 go_wp2
 go_ret
 exact ⟨i,R2,rfl,HI.out,by omega,HG9.out,HSZ.out,HFI.out,HGR9.out⟩
theorem aXm {r n cap:Nat}{cur:Array Value}{l:List Nat}{w:World}{q1:Value}(p:Nat->Bool)(hn:n<=1000000)(hg:w.heap[r]? = some (.cells cur 3 (0,0)))(hnc:n<=cap)(_hcm:cap<=maxLen)(hcs:cur.size=cap)
  (htake:cur.toList.take n=natsV l) (hl:l.length=n)
  (hC:∀(i:Nat) (u:World),w.grownBy u (some r)->Calls Tryz.prog 153 #[.int .i64 (i:Int),q1] u fun e w'=>e=.returned (.bool (p i))/\Below u.heap.size u w') :
  Calls Tryz.prog 151 #[.slice (some ⟨r,0,none⟩) n cap,.func (.func 153) #[] #[q1]] w
   fun e w'=>∃(m:Nat) (cur':Array Value),e=.returned (.slice (some ⟨r,0,none⟩) m cap)/\(dropI p l).length=m/\m<=n/\w'.heap[r]? = some (.cells cur' 3 (0,0))/\cur'.size=cap/\cur'.toList.take m=natsV (dropI p l)/\w.grownBy w' (some r):=by
 have HL:=hid hl
 have zv:∀w,(zeroValue 3).run Tryz.prog w=.ok (.int .i64 0) w:=Tryz.zeroValue3
 have hrl:r<w.heap.size:=(Array.getElem?_eq_some_iff.1 hg).1
 have hR:Rd w w.heap.size 1 (some ⟨r,0,none⟩) n cap (natsV l):=aOc hg (by rw[aDg,hl,Nat.mul_one]) hnc fun j u hu=>by simpa using aBj htake hu
 have C0:=bDc p hn hR (fun i u _ hu=>hC i u ((aAr hu).but _))
 have HT0:=hid htake
 have HG0:=hid hg
 have HCS:=hid hcs
 have HCC:=hid hC
 clear htake hg hcs hl hR hC
 go_enter Tryz.func151,Tryz.ntmps151
 go_wp2_with fail
 refine C0.mono ?_
 rintro e w1 ⟨k,rfl,hk,hb1⟩
 clear C0
 have hg1:w.grownBy w1 (some r):=(aAr hb1).but _
 have HG1:=hid ((hb1.block r hrl).trans HG0.out)
 rcases hk with ⟨rfl,hno⟩ | ⟨j,f,rfl,hfj1,hfj2,hfj3⟩
 ·have HK:=hid (aIn hno)
  clear hno
  go_wp2
  go_ret
  exact ⟨n,cur,rfl,by rw[HK.out,HL.out],Nat.le_refl _,HG1.out,HCS.out,by rw[HK.out];exact HT0.out,hg1⟩
 have hjn:j<n:=by have:=(List.getElem?_eq_some_iff.1 hfj1).1;rw[HL.out] at this;exact this
 have HKJ:=hid (show dropI p (l.take (j+1))=l.take j by
  rw[aGy p hfj1,if_pos hfj2,List.append_nil]
  refine aIn fun x hx=>?_
  obtain ⟨i,hi,e⟩:=List.getElem_of_mem hx
  rw[List.length_take] at hi
  rw[List.getElem_take] at e
  exact hfj3 i x (by omega) (by rw[<-e];exact List.getElem?_eq_getElem _))
 clear hfj1 hfj2 hfj3
 have hj1:((j:Int) == -1)=false:=beq_eq_false_iff_ne.2 (by omega)
 go_wp2
 try rw[hj1]
 clear hj1
 go_loopw[5,6] (fun iv jv wr=>∃(i j':Nat) (cur':Array Value),j'<=n/\i<j'/\iv=.int .i64 i/\jv=.int .i64 j'/\Hid (w.grownBy wr (some r))/\Hid (wr.heap[r]? = some (.cells cur' 3 (0,0)))/\Hid (cur'.size=cap)/\Hid (cur'.toList.take n=natsV (dropI p (l.take j')++l.drop i))/\Hid ((dropI p (l.take j')).length=i)) (fun _ jv _=>n-(intOf jv).toNat)
 case atStart=>exact ⟨j,j+1,cur,by omega,by omega,rfl,by go_num,hid hg1,HG1,HCS,hid (by rw[HKJ.out,List.take_append_drop];exact HT0.out),hid (by rw[HKJ.out,List.length_take,HL.out];omega)⟩
 clear hg1 HG1 HG0 HT0 HKJ hjn hb1
 obtain ⟨i,j',cur',hj',hij,rfl,rfl,HGR,HG,HC,HT,HI⟩:=hrel
 by_cases hlt:j'<n
 ·obtain ⟨x,hx⟩:∃x,l[j']? = some x:=⟨l[j']'(by rw[HL.out];exact hlt),List.getElem?_eq_getElem _⟩
  have h0:wr.cell? ⟨r,j',none⟩=some (.int .i64 (x:Int)):=by
   rw[cell_of_row wr _ _ _ _ _ HG.out]
   have e1:(dropI p (l.take j')++l.drop i)[j']? = some x:=by
    rw[List.getElem?_append_right (by rw[HI.out];omega),HI.out,List.getElem?_drop,show i+(j'-i)=j' by omega];exact hx
   have e2:(natsV (dropI p (l.take j')++l.drop i))[j']? = some (.int .i64 (x:Int)):=by unfold natsV;rw[List.getElem?_map,e1];rfl
   simpa using aBj HT.out e2
  have HK:=hid (aGy p hx)
  have C:=HCC.out x wr HGR.out
  have hrw:r<wr.heap.size:=Nat.lt_of_lt_of_le hrl HGR.out.size
  clear hx
  cases hq:p x with
  | true=>
   rw[hq] at C
   have HN:=hid (show dropI p (l.take (j'+1))=dropI p (l.take j') by rw[HK.out,if_pos hq,List.append_nil])
   clear hq
   go_wp2_with fail
   refine C.mono ?_
   rintro e w2 ⟨rfl,hb2⟩
   have HG2:=hid ((hb2.block r hrw).trans HG.out)
   have HGR2:=hid (HGR.out.andThen (aAr hb2) (fun j hj=>by cases hj))
   clear C h0 hb2 HGR HG
   go_wp2
   go_roundw
   case rel=>exact ⟨i,j'+1,cur',by omega,by omega,rfl,by go_num,HGR2,HG2,HC,by rw[HN.out];exact HT,by rw[HN.out];exact HI⟩
   simp[intOf];omega
  | false=>
   rw[hq] at C
   have HN:=hid (show dropI p (l.take (j'+1))=dropI p (l.take j')++[x] by rw[HK.out,if_neg (by rw[hq];simp)])
   clear hq
   go_wp2_with fail
   refine C.mono ?_
   rintro e w2 ⟨rfl,hb2⟩
   have HG2:=hid ((hb2.block r hrw).trans HG.out)
   have HGR2:=hid (HGR.out.andThen (aAr hb2) (fun j hj=>by cases hj))
   have hic:i<cur'.size:=by rw[HC.out];omega
   have s0:w2.cell? ⟨r,i,none⟩=some cur'[i]:=by rw[cell_of_row w2 _ _ _ _ _ HG2.out];exact Array.getElem?_eq_getElem hic
   have s1:w2.frozen? ⟨r,i,none⟩=false:=aAi HG2.out
   clear C h0 hb2 HGR HG
   have HG3:=hid (heap_setCell_same w2 r i _ _ (.int .i64 (x:Int)) HG2.out)
   have HGR3:=hid (HGR2.out.andThen (aBd w2 r i (.int .i64 (x:Int))) (fun j hj=>by injection hj with hj;exact .inr (by rw[hj])))
   go_wp2
   go_roundw
   case rel=>
    refine ⟨i+1,j'+1,_,by omega,by omega,by go_num,by go_num,HGR3,HG3,hid ?_,hid ?_,hid ?_⟩
    ·simp[HC.out]
    ·rw[HN.out]
     have h6:=aTq (x:=x) HI.out (by omega) HL.out (by rw[Array.length_toList];exact HC.out) hnc HT.out
     rw[List.append_assoc] at h6
     simpa using h6
    rw[HN.out,List.length_append,HI.out];rfl
   simp[intOf];omega
 obtain rfl:n=j':=by omega
 rw[List.take_of_length_le (Nat.le_of_eq HL.out)] at HT HI
 obtain ⟨k,hk⟩:∃k,n-i=k+1:=⟨n-i-1,by omega⟩
 obtain ⟨zs,hzs⟩:∃zs,zs=(Builtin.zeroCells (Value.int .i64 0).cells (k+1)).toList:=⟨_,rfl⟩
 have hzl:zs.length=k+1:=by rw[hzs,aFg];simp[Value.cells]
 have hz1:∀u∈zs,u.oneCell'=true:=by
  rw[hzs]
  exact aFe (by decide) (by intro v hv;simp[Value.cells] at hv;subst hv;rfl)
 obtain ⟨R2,eR2⟩:∃R:Array Value,R=(cur'.toList.take i++zs++cur'.toList.drop (i+zs.length)).toArray:=⟨_,rfl⟩
 have hcl:∀ty c',(Builtin.clear_ #[79] ty #[.slice (some ⟨r,i,none⟩) (n-i) c']).run Tryz.prog wr=.ok (.tuple #[]) (wr.setRow r R2):=fun ty c'=>by
  rw[hk,eR2]
  exact aEf wr _ _ ty _ Tryz.underlying79 zv hzs.symm HG.out (by rw[hzl,HC.out];omega) hz1
 have hpre:cur'.toList.take i=natsV (dropI p l):=by
  have:(cur'.toList.take n).take i=cur'.toList.take i:=by rw[List.take_take,Nat.min_eq_left (by omega)]
  rw[<-this,HT.out]
  unfold natsV
  rw[<-List.map_take,List.take_append_of_le_length (by rw[HI.out];exact Nat.le_refl _),List.take_of_length_le (by rw[HI.out];exact Nat.le_refl _)]
 have hfin:R2.toList.take i=natsV (dropI p l):=by
  rw[eR2,<-hpre]
  show (cur'.toList.take i++zs++cur'.toList.drop (i+zs.length)).take i=_
  rw[List.append_assoc,List.take_append_of_le_length (by rw[List.length_take,Array.length_toList,HC.out];omega),List.take_take,Nat.min_self]
 have hsz2:R2.size=cap:=by
  rw[eR2]
  simp only[List.size_toArray,List.length_append,List.length_take,List.length_drop,Array.length_toList,HC.out,hzl];omega
 have HFI:=hid hfin
 have HSZ:=hid hsz2
 have HCL:=hid hcl
 have HG9:=hid (setRow_heap wr r _ R2 _ _ HG.out)
 have HGR9:=hid (aDc (cs:=R2) HGR.out (.inr rfl))
 have hcn:¬cap=i:=by omega
 clear hfin hsz2 hpre hcl eR2 hz1 hzl hzs hk zv
 have hcl:=HCL.out
 go_wp2
 go_ret
 exact ⟨i,R2,rfl,HI.out,by omega,HG9.out,HSZ.out,HFI.out,HGR9.out⟩
end Go.Proofs.YtcemkikgaeghjaaGreatDoor
