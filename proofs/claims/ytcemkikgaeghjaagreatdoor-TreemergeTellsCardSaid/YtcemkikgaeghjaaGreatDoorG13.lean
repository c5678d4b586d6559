/- Texts of the walks, together: Walks: slices.Clone, slices.Equal of lines; chunk.kind. Chunks in memory; the texts as far as they were gone through. -/
import Derived.Test.YtcemkikgaeghjaaGreatDoorG12
set_option maxHeartbeats 4000000
set_option maxRecDepth 100000
open Go.Lib (hid)
namespace Go.Proofs.YtcemkikgaeghjaaGreatDoor
open Go.RowKit
def FreshS (l:List ByteArray)(w:World)(e:Ending) (w':World):Prop:=
 ∃A c,e=.returned (.slice A l.length c)/\Rd w' w'.heap.size 1 A l.length c (l.map .string)/\(∀a,A=some a->w.heap.size<=a.block)/\Below w.heap.size w w'
theorem aTj {l:List ByteArray} {w w':World}{v:Value}(h:w'.ownsRow w.heap.size 9 1 v l.length (l.map .string))(hb:Below w.heap.size w w'):FreshS l w (.returned v) w':=by
 obtain ⟨A,c,rfl,hc⟩:=aAg h
 refine ⟨A,c,rfl,Rd.of_own h hc,fun a ha=>?_,hb⟩
 subst ha
 exact (h.lt a.block (by rcases h.2 with ⟨e,_⟩ | ⟨g,cap,cur,e,_⟩<;>first | (cases e;done) | (cases e;rfl))).1
theorem aGj {A:Option Addr}{c:Nat}{l:List ByteArray}{w:World}(hn:l.length<=1000000)(h:Rd w w.heap.size 1 A l.length c (l.map .string)) :
  Calls Tryz.prog 165 #[.slice A l.length c] w (FreshS l w):=by
 cases A with
 | none=>
  have h0:l.length=0:=by
   rcases Nat.eq_zero_or_pos l.length with h0 | h0
   ·exact h0
   obtain ⟨b,o,e,_⟩:=h.at_ h0;cases e
  refine (Tryz.slices_Clone_string_nil l.length c w).mono ?_
  rintro e w' ⟨rfl,rfl⟩
  have:l=[]:=List.length_eq_zero_iff.1 h0
  subst this
  refine ⟨none,0,rfl,Rd.none_ _ _ _,?_,Below.refl _ _⟩
  intro a ha
  cases ha
 | some a=>
  rcases Nat.eq_zero_or_pos l.length with h0 | h0
  ·have:l=[]:=List.length_eq_zero_iff.1 h0
   subst this
   refine (Tryz.slices_Clone_string_zero a c w).mono ?_
   rintro e w' ⟨v,rfl,h1,_,h2⟩
   exact aTj h1 h2
  obtain ⟨b,o,e,hb,hc⟩:=h.at_ h0
  injection e with e;subst e
  refine (Tryz.slices_Clone_string b o l.length c l w (Nat.le_refl _) (by omega) (fun j hj=>hc j _ (by simp[hj]))).mono ?_
  rintro e w' ⟨v,rfl,h1,_,h2⟩
  rw[List.take_of_length_le (Nat.le_refl _)] at h1
  exact aTj h1 h2
theorem aJl {A B:Option Addr}{n ca m cb:Nat}{xs ys:List ByteArray}{w:World}(hn:n<=17592186044416)(hm:m<=17592186044416)(h1:Rd w w.heap.size 1 A n ca (xs.map .string))(h2:Rd w w.heap.size 1 B m cb (ys.map .string)) :
  Calls Tryz.prog 191 #[.slice A n ca,.slice B m cb] w (BoolBelow (decide (xs=ys)) w):=by
 have hx:xs.length=n:=by have:=h1.len;rw[List.length_map] at this;omega
 have hy:ys.length=m:=by have:=h2.len;rw[List.length_map] at this;omega
 by_cases hnm:n=m
 ·subst hnm
  rcases Nat.eq_zero_or_pos n with h0 | h0
  ·subst h0
   refine (Tryz.slices_Equal_string_empty A B ca 0 cb w (by omega)).mono ?_
   rintro e w' ⟨rfl,rfl⟩
   rw[List.length_eq_zero_iff.1 hx,List.length_eq_zero_iff.1 hy]
   exact ⟨rfl,Below.refl _ _⟩
  obtain ⟨b1,o1,rfl,_,hc1⟩:=h1.at_ h0
  obtain ⟨b2,o2,rfl,_,hc2⟩:=h2.at_ h0
  refine (Tryz.slices_Equal_string b1 o1 n ca b2 o2 n cb xs ys w (by omega) (by omega) (by omega) (by omega) (fun j hj=>hc1 j _ (by simp[hj])) (fun j hj=>hc2 j _ (by simp[hj]))).mono ?_
  rintro e w' ⟨rfl,q,rfl⟩
  rw[List.take_of_length_le (by omega),List.take_of_length_le (by omega)]
  exact ⟨rfl,⟨rfl,rfl,rfl,Nat.le_refl _,fun _ _=>rfl⟩⟩
 refine (Tryz.slices_Equal_string_lens A B n ca m cb w hnm).mono ?_
 rintro e w' ⟨rfl,rfl⟩
 exact ⟨aAl (decide_eq_false (fun e=>hnm (by rw[<-hx,<-hy,e]))).symm,Below.refl _ _⟩
theorem bFj {A0 A1 A2:Option Addr}{n0 c0 n1 c1 n2 c2:Nat}{K:Int}{b o t:List ByteArray}{w:World}(hn0:n0<=1000000)(hn1:n1<=1000000)(hn2:n2<=1000000)
  (h0:Rd w w.heap.size 1 A0 n0 c0 (b.map .string)) (h1:Rd w w.heap.size 1 A1 n1 c1 (o.map .string)) (h2:Rd w w.heap.size 1 A2 n2 c2 (t.map .string)) :
  Calls Tryz.prog 168 #[.agg #[.int .i64 K,.slice A0 n0 c0,.slice A1 n1 c1,.slice A2 n2 c2]] w fun e w'=>e=.returned (.int .i64 (kindF b o t))/\Below w.heap.size w w':=by
 have hb1:Below w.heap.size w (w.alloc (.cells #[.int .i64 K,.slice A0 n0 c0,.slice A1 n1 c1,.slice A2 n2 c2] 111)):=(Below.refl _ _).alloc (Nat.le_refl _) _
 have HB1:=hid hb1
 clear hb1
 have HC1:=hid (fun (w1:World) (hb:Below w.heap.size w w1)=>aJl (by omega) (by omega) (h1.to hb hb.size) (h0.to hb hb.size))
 have HC2:=hid (fun (w1:World) (hb:Below w.heap.size w w1)=>aJl (by omega) (by omega) (h2.to hb hb.size) (h0.to hb hb.size))
 have HC3:=hid (fun (w1:World) (hb:Below w.heap.size w w1)=>aJl (by omega) (by omega) (h1.to hb hb.size) (h2.to hb hb.size))
 have HF:=hid (show kindF b o t=if decide (o=b) then 3 else if decide (t=b) then 2 else if decide (o=t) then 4 else 5 by simp[kindF])
 clear h0 h1 h2
 generalize kindF b o t=F at *
 generalize decide (o=b)=d1 at *
 generalize decide (t=b)=d2 at *
 generalize decide (o=t)=d3 at *
 have hc0:∀(u:World),Below (w.heap.size+1) (w.alloc (.cells #[.int .i64 K,.slice A0 n0 c0,.slice A1 n1 c1,.slice A2 n2 c2] 111)) u->u.cell? ⟨w.heap.size,1,none⟩=some (.slice A0 n0 c0)/\u.cell? ⟨w.heap.size,2,none⟩=some (.slice A1 n1 c1)/\u.cell? ⟨w.heap.size,3,none⟩=some (.slice A2 n2 c2):=fun u hu=>by
  refine ⟨(hu.cell (p:=⟨w.heap.size,1,none⟩) (Nat.lt_succ_self _)).trans ?_,(hu.cell (p:=⟨w.heap.size,2,none⟩) (Nat.lt_succ_self _)).trans ?_,(hu.cell (p:=⟨w.heap.size,3,none⟩) (Nat.lt_succ_self _)).trans ?_⟩<;>(rw[World.cell?,heap_alloc_new];rfl)
 have HC0:=hid hc0
 clear hc0
 go_enter Tryz.func168,Tryz.ntmps168
 go_wp2_with fail
 refine (HC1.out _ HB1.out).mono ?_
 rintro e w1 ⟨rfl,hb1⟩
 have HB2:=hid (HB1.out.trans (hb1.mono HB1.out.size))
 have HX1:=hid (hb1.mono (show w.heap.size+1<=_ by simp))
 clear hb1 HC1
 obtain ⟨k1,k2,k3⟩:=HC0.out _ HX1.out
 cases d1
 ·go_wp2_with fail
  refine (HC2.out _ HB2.out).mono ?_
  rintro e w2 ⟨rfl,hb2⟩
  have HB3:=hid (HB2.out.trans (hb2.mono HB2.out.size))
  have HX2:=hid (HX1.out.trans (hb2.mono (Nat.le_trans (by simp) HX1.out.size)))
  clear hb2 HC2 k1 k2 k3
  obtain ⟨k1,k2,k3⟩:=HC0.out _ HX2.out
  cases d2
  ·go_wp2_with fail
   refine (HC3.out _ HB3.out).mono ?_
   rintro e w3 ⟨rfl,hb3⟩
   have HB4:=hid (HB3.out.trans (hb3.mono HB3.out.size))
   clear hb3 HC3 k1 k2 k3
   cases d3
   ·go_wp2
    go_ret
    exact ⟨by rw[HF.out];rfl,HB4.out⟩
   go_wp2
   go_ret
   exact ⟨by rw[HF.out];rfl,HB4.out⟩
  go_wp2
  go_ret
  exact ⟨by rw[HF.out];rfl,HB3.out⟩
 go_wp2
 go_ret
 exact ⟨by rw[HF.out];rfl,HB2.out⟩
def Keeps (l:List Nat) (w w':World):Prop:=w.heap.size<=w'.heap.size/\∀p:Addr,p.block<w.heap.size->p.block∉l->w'.cell? p=w.cell? p
theorem Keeps.refl (l:List Nat)(w:World):Keeps l w w:=⟨Nat.le_refl _,fun _ _ _=>rfl⟩
theorem Keeps.trans {l:List Nat}{a b c:World}(h:Keeps l a b)(k:Keeps l b c):Keeps l a c:=
 ⟨Nat.le_trans h.1 k.1,fun p hp hl=>(k.2 p (Nat.lt_of_lt_of_le hp h.1) hl).trans (h.2 p hp hl)⟩
theorem Keeps.of_below {l:List Nat} {w w':World}(h:Below w.heap.size w w'):Keeps l w w':=⟨h.size,fun _p hp _=>h.cell hp⟩
theorem Keeps.grown {l:List Nat} {w w':World}{row:Option Nat}(h:w.grownBy w' row)(hr:∀g,row=some g->g∈l):Keeps l w w':=
 ⟨h.size,fun p hp hl=>World.cell?_of_block (h.block p.block hp (fun e=>hl (hr _ e.symm)))⟩
theorem Keeps.drew {l:List Nat} {w w':World}(h:Keeps l w w'):Keeps l w w'.drew:=h
theorem aBd (w:World)(g j:Nat)(u:Value):w.grownBy (w.setCell ⟨g,j,none⟩ u) (some g):=⟨rfl,rfl,rfl,by simp,fun k _ hk=>heap_setCell_other _ _ k _ (fun e=>hk (by rw[e]))⟩
def RdO (w:World)(l:List Nat)(A:Option Addr)(c:Nat)(xs:List ByteArray):Prop:=Rd w w.heap.size 1 A xs.length c (xs.map .string)/\∀a,A=some a->0<xs.length->a.block∉l
theorem RdO.keep {w w':World}{l:List Nat}{A:Option Addr}{c:Nat}{xs:List ByteArray}(h:RdO w l A c xs)(hk:Keeps l w w'):RdO w' l A c xs:=by
 refine ⟨⟨h.1.len,h.1.cap,fun h0=>?_⟩,h.2⟩
 obtain ⟨b,o,rfl,hb,hc⟩:=h.1.at_ h0
 refine ⟨b,o,rfl,Nat.lt_of_lt_of_le hb hk.1,fun j u hu=>?_⟩
 rw[hk.2 ⟨b,o+j,none⟩ hb (h.2 ⟨b,o,none⟩ rfl h0)]
 exact hc j u hu
theorem RdO.less {w:World}{l m:List Nat}{A:Option Addr}{c:Nat}{xs:List ByteArray}(h:RdO w l A c xs)(hm:∀b∈m,b∈l\/w.heap.size<=b):RdO w m A c xs:=by
 refine ⟨h.1,fun a ha h0 hmem=>?_⟩
 rcases hm _ hmem with h1 | h1
 ·exact h.2 a ha h0 h1
 obtain ⟨b,o,e,hb,_⟩:=h.1.at_ h0
 rw[ha] at e;injection e with e;subst e
 exact Nat.not_lt.2 h1 hb
def KIn (w:World)(l:List Nat)(k:KV)(cs:List Value):Prop:=
 ∃A0 c0 A1 c1 A2 c2,cs=[.int .i64 k.kind,.slice A0 k.base.length c0,.slice A1 k.ours.length c1,.slice A2 k.theirs.length c2]/\RdO w l A0 c0 k.base/\RdO w l A1 c1 k.ours/\RdO w l A2 c2 k.theirs
theorem KIn.keep {w w':World}{l:List Nat}{k:KV}{cs:List Value}(h:KIn w l k cs)(hk:Keeps l w w'):KIn w' l k cs:=by
 obtain ⟨A0,c0,A1,c1,A2,c2,e,h0,h1,h2⟩:=h
 exact ⟨A0,c0,A1,c1,A2,c2,e,h0.keep hk,h1.keep hk,h2.keep hk⟩
theorem KIn.less {w:World}{l m:List Nat}{k:KV}{cs:List Value}(h:KIn w l k cs)(hm:∀b∈m,b∈l\/w.heap.size<=b):KIn w m k cs:=by
 obtain ⟨A0,c0,A1,c1,A2,c2,e,h0,h1,h2⟩:=h
 exact ⟨A0,c0,A1,c1,A2,c2,e,h0.less hm,h1.less hm,h2.less hm⟩
theorem KIn.len {w:World}{l:List Nat}{k:KV}{cs:List Value}(h:KIn w l k cs):cs.length=4/\∀u∈cs,u.oneCell'=true:=by
 obtain ⟨A0,c0,A1,c1,A2,c2,rfl,_⟩:=h
 exact ⟨rfl,fun u hu=>by simp at hu;rcases hu with rfl | rfl | rfl | rfl<;>rfl⟩
def KIns (w:World)(l:List Nat):List KV->List (List Value)->Prop
 | [],[]=>True
 | k::L,cs::H=>KIn w l k cs/\KIns w l L H
 | _,_=>False
theorem KIns.keep {w w':World}{l:List Nat}(hk:Keeps l w w'):∀{L:List KV}{H:List (List Value)},KIns w l L H->KIns w' l L H
 | [],[],_=>trivial
 | _::_,_::_,h=>⟨h.1.keep hk,KIns.keep hk h.2⟩
theorem KIns.less {w:World}{l m:List Nat}(hm:∀b∈m,b∈l\/w.heap.size<=b):∀{L:List KV}{H:List (List Value)},KIns w l L H->KIns w m L H
 | [],[],_=>trivial
 | _::_,_::_,h=>⟨h.1.less hm,KIns.less hm h.2⟩
theorem KIns.snoc {w:World}{l:List Nat}:∀{L:List KV}{H:List (List Value)}{k:KV}{cs:List Value},KIns w l L H->KIn w l k cs->KIns w l (L++[k]) (H++[cs])
 | [],[],_,_,_,hk=>⟨hk,trivial⟩
 | _::_,_::_,_,_,h,hk=>⟨h.1,KIns.snoc h.2 hk⟩
theorem KIns.get {w:World}{l:List Nat}:∀{L:List KV}{H:List (List Value)}{i:Nat}{k:KV},KIns w l L H->L[i]? = some k->∃cs,H[i]? = some cs/\KIn w l k cs
 | [],[],i,k,_,hk=>by simp at hk
 | _::_,cs::_,0,k,h,hk=>by simp at hk;subst hk;exact ⟨cs,rfl,h.1⟩
 | _::_,_::_,i+1,k,h,hk=>by simp at hk;obtain ⟨cs,h1,h2⟩:=KIns.get h.2 hk;exact ⟨cs,by simpa using h1,h2⟩
def obs (v:Value):List Nat:=match v.ownBlock with | some g=>[g] | none=>[]
theorem aHq {v:Value}{g:Nat}(h:v.ownBlock=some g):g∈obs v:=by unfold obs;rw[h];simp
theorem aJe {v:Value}{g:Nat}(h:g∈obs v):v.ownBlock=some g:=by
 unfold obs at h
 split at h
 ·rename_i k hk;simp at h;subst h;exact hk
 cases h
structure TX (w0 w:World) (tb:Nat) (x y z:Value) (b o t:Nat) (L:List KV):Prop where
 ex:∃(out:Value) (H:List (List Value)),w.heap[tb]? = some (.cells #[x,y,z,.int .i64 b,.int .i64 o,.int .i64 t,out] 182 (0,0))/\w.ownsRow w0.heap.size 111 4 out L.length H.flatten/\out.ownBlock≠some tb/\KIns w (tb::obs out) L H
 lo:w0.heap.size<=tb
 bel:Below w0.heap.size w0 w
theorem TX.hi {w0 w:World}{tb:Nat}{x y z:Value}{b o t:Nat}{L:List KV}(h:TX w0 w tb x y z b o t L):tb<w.heap.size:=by
 obtain ⟨_,_,h1,_⟩:=h.ex
 rcases Nat.lt_or_ge tb w.heap.size with h2 | h2
 ·exact h2
 simp[Array.getElem?_eq_none h2] at h1
theorem aCg {P:Program}{S:World->Prop}{a:Act}{w:World}{K:Act->World->Prop}{dst:Option Tmp}{t ty:TypeId}{q:Bool}{g:Option (Tmp×Bool)}{z:Value}(hz:∀w,(zeroValue t).run P w=.ok z w)
  (hK:S (w.alloc (.cells z.cells t))/\K (a.put dst (.pointer (some ⟨w.heap.size,0,none⟩))) (w.alloc (.cells z.cells t))):effq P S ⟨q,dst,.alloc t,ty,g⟩ a w K:=by
 refine aOy (fun p af g=>?_) hK
 unfold execOp
 simp[Instr.alloc,newVar,newRow,hz,Sem.run_bind,Result.andThen_ok]
theorem aJp {P:Program}{S:World->Prop}{a:Act}{w:World}{K:Act->World->Prop}{dst:Option Tmp}{t ty:TypeId}{x y:Operand}{q:Bool}{g:Option (Tmp×Bool)}{b o:Nat}{u0 u1:Value}(hi:(P.info? t).map (·.size)=some 2)
  (hx:a.eval x=.pointer (some ⟨b,o,none⟩)) (hy:a.eval y=.agg #[u0,u1]) (hc0:(w.cell? ⟨b,o,none⟩).isSome=true) (hc1:(w.cell? ⟨b,o+1,none⟩).isSome=true)
  (hf0:w.frozen? ⟨b,o,none⟩=false) (hf1:w.frozen? ⟨b,o+1,none⟩=false) (h0:u0.oneCell'=true) (h1:u1.oneCell'=true)
  (hK:S ((w.setCell ⟨b,o,none⟩ u0).setCell ⟨b,o+1,none⟩ u1)/\K (a.put dst undef) ((w.setCell ⟨b,o,none⟩ u0).setCell ⟨b,o+1,none⟩ u1)) :
  effq P S ⟨q,dst,.store t x y,ty,g⟩ a w K:=by
 intro p af g
 have hc:∀j,j<[u0,u1].length->(w.cell? ⟨b,o+0+j,none⟩).isSome=true:=by
  intro j hj
  have:j=0\/j=1:=by simp at hj;omega
  rcases this with rfl | rfl
  ·exact hc0
  exact hc1
 have hf:∀j,j<[u0,u1].length->w.frozen? ⟨b,o+0+j,none⟩=false:=by
  intro j hj
  have:j=0\/j=1:=by simp at hj;omega
  rcases this with rfl | rfl
  ·exact hf0
  exact hf1
 have hr:=run_storeCells_cells (P:=P) b o [u0,u1] 0 w hc hf (fun u hu=>by simp at hu;rcases hu with rfl | rfl<;>assumption)
 obtain ⟨i,hi1,hi2⟩:=Option.map_eq_some_iff.1 hi
 unfold Oper.wp execOp
 have hst:(storeVar t ⟨b,o,none⟩ (.agg #[u0,u1])).run P w=.ok () ((w.setCell ⟨b,o,none⟩ u0).setCell ⟨b,o+1,none⟩ u1):=by
  simp[storeVar,sizeOf,typeInfo,hi1,hi2,Value.cells,hr,World.setCells]
 simp only[hx,hy,Instr.storeAt,Instr.sureAddr,Sem.run_bind,Sem.run_pure,Result.andThen_ok,hst]
 exact hK
theorem aCc {P:Program}{S:World->Prop}{a:Act}{w:World}{K:Act->World->Prop}{dst:Option Tmp}{t ty:TypeId}{parts:Array (Nat×Operand)}{q:Bool}{g:Option (Tmp×Bool)}{vs:Array (Nat×Value)}{v:Value}
  (hv:(parts.toList.map fun p=>(p.1,a.eval p.2)).toArray=vs) (hr:(Instr.build t vs).run P w=.ok v w) (hK:S w/\K (a.put dst v) w):effq P S ⟨q,dst,.build t parts,ty,g⟩ a w K:=by
 intro p af g
 have hv':(parts.map fun p=>(p.1,a.eval p.2))=vs:=by rw[<-hv];apply Array.toList_inj.1;simp
 unfold Oper.wp execOp
 simp only[hv',hr,Sem.run_bind,Sem.run_pure,Result.andThen_ok]
 exact hK
theorem aMs {tb v:Nat}{w:World}(h:w.cell? ⟨tb,4,none⟩=some (.int .i64 v)):Calls Tryz.prog 166 #[.pointer (some ⟨tb,0,none⟩)] w fun e w'=>e=.returned (.int .i64 v)/\w'=w:=by
 go_enter Tryz.func166,Tryz.ntmps166
 go_wp2
 go_ret
 exact ⟨rfl,rfl⟩
theorem aDu {tb v:Nat}{w:World}(h:w.cell? ⟨tb,5,none⟩=some (.int .i64 v)):Calls Tryz.prog 167 #[.pointer (some ⟨tb,0,none⟩)] w fun e w'=>e=.returned (.int .i64 v)/\w'=w:=by
 go_enter Tryz.func167,Tryz.ntmps167
 go_wp2
 go_ret
 exact ⟨rfl,rfl⟩
theorem aCh (w:World):(zeroValue 111).run Tryz.prog w=.ok (.agg #[.int .i64 0,.slice none 0 0,.slice none 0 0,.slice none 0 0]) w:=by
 go_simp
theorem aZu (K:Int)(A0 A1 A2:Option Addr)(n0 c0 n1 c1 n2 c2:Nat)(w:World) :
  (Instr.build 111 #[(0,.int .i64 K),(1,.slice A0 n0 c0),(2,.slice A1 n1 c1),(3,.slice A2 n2 c2)]).run Tryz.prog w=.ok (.agg #[.int .i64 K,.slice A0 n0 c0,.slice A1 n1 c1,.slice A2 n2 c2]) w:=by
 go_simp
theorem aCv (A0 A1 A2:Option Addr)(n0 c0 n1 c1 n2 c2:Nat)(w:World) :
  (Instr.build 111 #[(1,.slice A0 n0 c0),(2,.slice A1 n1 c1),(3,.slice A2 n2 c2)]).run Tryz.prog w=.ok (.agg #[.int .i64 0,.slice A0 n0 c0,.slice A1 n1 c1,.slice A2 n2 c2]) w:=by
 go_simp
theorem aZg (x y:Int)(w:World):(Instr.build 177 #[(0,.int .i64 x),(1,.int .i64 y)]).run Tryz.prog w=.ok (.agg #[.int .i64 x,.int .i64 y]) w:=by
 go_simp
theorem aDb:Elem Tryz.prog 101 111 4 80:=aCw (by kernel_rfl)
end Go.Proofs.YtcemkikgaeghjaaGreatDoor
